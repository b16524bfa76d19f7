/- The reference's reader of values: every kind, and its Get. -/
import Derived.Test.YtljdfainnmpjnaaDoorRefC
import Derived.Test.YtljdfainnmpjnaaDoorRefD
set_option linter.unusedVariables false
namespace Go.Proofs.YtljdfainnmpjnaaDoor
open Go.RowKit

theorem items_err {p : List UInt8 → Got} (hp : Faulty p) : ∀ (n : Nat) (bs : List UInt8) (c : Int), items p n bs = .error c → c ≠ 0
  | 0, bs, c, h => by cases h
  | n + 1, bs, c, h => by
    unfold items at h
    cases hq : p bs with
    | error e => rw [hq] at h; cases h; exact hp _ _ hq
    | ok x =>
      obtain ⟨v, bs'⟩ := x
      rw [hq] at h
      dsimp only at h
      cases hr : items p n bs' with
      | error e => rw [hr] at h; cases h; exact items_err hp n bs' _ hr
      | ok y => obtain ⟨l, b2⟩ := y; rw [hr] at h; cases h
theorem fieldName_err {met : List ByteArray} {bs : List UInt8} {c : Int} (h : fieldName met bs = .error c) : c = 4 := by
  unfold fieldName at h
  split at h
  · cases h; rfl
  · split at h
    · cases h; rfl
    · split at h
      · cases h
      · cases h; rfl
theorem fields_err {p : List UInt8 → Got} (hp : Faulty p) : ∀ (n : Nat) (met : List ByteArray) (bs : List UInt8) (c : Int), fields p n met bs = .error c → c ≠ 0
  | 0, met, bs, c, h => by cases h
  | n + 1, met, bs, c, h => by
    unfold fields at h
    cases hf : fieldName met bs with
    | error e => rw [hf] at h; cases h; have := fieldName_err hf; omega
    | ok s =>
      obtain ⟨s, b1⟩ := s
      rw [hf] at h
      dsimp only at h
      cases hq : p b1 with
      | error e => rw [hq] at h; cases h; exact hp _ _ hq
      | ok x =>
        obtain ⟨v, bs'⟩ := x
        rw [hq] at h
        dsimp only at h
        cases hr : fields p n (s :: met) bs' with
        | error e => rw [hr] at h; cases h; exact fields_err hp n _ bs' _ hr
        | ok y => obtain ⟨l, b2⟩ := y; rw [hr] at h; cases h
theorem body_err {p : Option (List UInt8 → Got)} (hp : ∀ q, p = some q → Faulty q) (k : Nat) (bs : List UInt8) (c : Int) (h : body p k bs = .error c) : c ≠ 0 := by
  unfold body at h
  split at h
  · cases h
  split at h
  · split at h
    · cases h; omega
    · split at h
      · cases h
      · cases h; omega
  split at h
  · split at h
    · cases h; omega
    · cases h
  split at h
  · split at h
    · cases h; omega
    · split at h
      · cases h; omega
      · split at h
        · cases h
        · cases h; omega
  split at h
  · split at h
    · cases h; omega
    · rename_i q
      split at h
      · cases h; omega
      · split at h
        · cases h; omega
        · split at h
          · rename_i e he
            cases h
            exact items_err (hp q rfl) _ _ _ he
          · cases h
  split at h
  · split at h
    · cases h; omega
    · rename_i q
      split at h
      · cases h; omega
      · split at h
        · cases h; omega
        · split at h
          · rename_i e he
            cases h
            exact fields_err (hp q rfl) _ _ _ _ he
          · cases h
  cases h; omega
theorem parse_err : ∀ r, Faulty (parse r)
  | 0, x, c, h => by
    cases x with
    | nil => cases h; omega
    | cons k bs => exact body_err (p := none) (fun q e => by cases e) k.toNat bs c h
  | r + 1, x, c, h => by
    cases x with
    | nil => cases h; omega
    | cons k bs => exact body_err (p := some (parse r)) (fun q e => by cases e; exact parse_err r) k.toNat bs c h
theorem body5 (p : Option (List UInt8 → Got)) (bs : List UInt8) : body p 5 bs = (
      if bs.length < 2 then .error 4 else
      if (bs.drop 2).length < (leNum (bs.take 2)).toNat then .error 4 else
      if (5 : Int) = 6 ∨ utfR ((bs.drop 2).take (leNum (bs.take 2)).toNat) = true then .ok (.mk 5 0 ((bs.drop 2).take (leNum (bs.take 2)).toNat) [] [], (bs.drop 2).drop (leNum (bs.take 2)).toNat) else .error 4) := by
  have e : body p 5 bs = (
      if bs.length < 2 then .error 4 else
      if (bs.drop 2).length < (leNum (bs.take 2)).toNat then .error 4 else
      if (5 : Nat) = 6 ∨ utfR ((bs.drop 2).take (leNum (bs.take 2)).toNat) = true then .ok (.mk 5 0 ((bs.drop 2).take (leNum (bs.take 2)).toNat) [] [], (bs.drop 2).drop (leNum (bs.take 2)).toNat) else .error 4) := rfl
  rw [e]
  split
  · rfl
  split
  · rfl
  by_cases h : utfR ((bs.drop 2).take (leNum (bs.take 2)).toNat) = true
  · rw [if_pos (.inr h), if_pos (.inr h)]
  · rw [if_neg (fun k => k.elim (by omega) h), if_neg (fun k => k.elim (by omega) h)]
/-- The reference's reader, at every place. -/
theorem refget_any (bs : List UInt8) (A : Option Addr) (c : Nat) (hl : bs.length ≤ 4096) (hcl : bs.length ≤ c) : ∀ (rem : Nat) (above : Int), above = 16 - rem → rem ≤ 16 → ∀ (w : World) (n : Nat), BRow0 w A bs → n ≤ bs.length →
    Calls Tryd.prog 43 #[.slice A bs.length c, .int .i64 n, .int .i64 above] w (RTells w bs (parse rem (bs.drop n))) := by
  intro rem
  induction rem with
  | zero =>
    intro above ha _ w n hA hn
    by_cases hnl : n < bs.length
    case neg =>
      rw [List.drop_of_length_le (by omega)]
      exact ref_nil above n bs A c w hl (by omega) (by omega)
    rw [List.drop_eq_getElem_cons hnl]
    have e : parse 0 (bs[n] :: bs.drop (n + 1)) = body none (bs[n]).toNat (bs.drop (n + 1)) := rfl
    rw [e]
    by_cases h0 : (bs[n]).toNat < 1 ∨ 8 < (bs[n]).toNat
    · have e : body none (bs[n]).toNat (bs.drop (n + 1)) = .error 4 := by unfold body; simp only [show ¬ (bs[n]).toNat = 1 by omega, show ¬ (bs[n]).toNat = 2 by omega, show ¬ ((bs[n]).toNat = 3 ∨ (bs[n]).toNat = 4) by omega, show ¬ ((bs[n]).toNat = 5 ∨ (bs[n]).toNat = 6) by omega, show ¬ (bs[n]).toNat = 7 by omega, show ¬ (bs[n]).toNat = 8 by omega, if_false]
      rw [e]; exact ref_odd above n bs A c w hA hl hnl h0
    obtain ⟨k, hk⟩ : ∃ k, (bs[n]).toNat = k := ⟨_, rfl⟩
    rw [hk] at h0 ⊢
    have hk8 : k = 1 ∨ k = 2 ∨ k = 3 ∨ k = 4 ∨ k = 5 ∨ k = 6 ∨ k = 7 ∨ k = 8 := by omega
    rcases hk8 with rfl | rfl | rfl | rfl | rfl | rfl | rfl | rfl
    · exact ref_1 above n bs A c w hA hl hnl hk
    · exact ref_2 above n bs A c w hA hl hnl hk
    · exact ref_3 3 (.inl rfl) above n bs A c w hA hl hnl (by omega)
    · exact ref_3 4 (.inr rfl) above n bs A c w hA hl hnl (by omega)
    · rw [body5]; exact ref_5 5 (.inl rfl) above n bs A c w hA hl hcl hnl (by omega)
    · exact ref_5 6 (.inr rfl) above n bs A c w hA hl hcl hnl (by omega)
    · exact ref_deep 7 (.inl rfl) above (by omega) n bs A c w hA hl hnl (by omega)
    · exact ref_deep 8 (.inr rfl) above (by omega) n bs A c w hA hl hnl (by omega)
  | succ rem ih =>
    intro above ha hle w n hA hn
    by_cases hnl : n < bs.length
    case neg =>
      rw [List.drop_of_length_le (by omega)]
      exact ref_nil above n bs A c w hl (by omega) (by omega)
    rw [List.drop_eq_getElem_cons hnl]
    have e : parse (rem + 1) (bs[n] :: bs.drop (n + 1)) = body (some (parse rem)) (bs[n]).toNat (bs.drop (n + 1)) := rfl
    rw [e]
    by_cases h0 : (bs[n]).toNat < 1 ∨ 8 < (bs[n]).toNat
    · have e : body (some (parse rem)) (bs[n]).toNat (bs.drop (n + 1)) = .error 4 := by unfold body; simp only [show ¬ (bs[n]).toNat = 1 by omega, show ¬ (bs[n]).toNat = 2 by omega, show ¬ ((bs[n]).toNat = 3 ∨ (bs[n]).toNat = 4) by omega, show ¬ ((bs[n]).toNat = 5 ∨ (bs[n]).toNat = 6) by omega, show ¬ (bs[n]).toNat = 7 by omega, show ¬ (bs[n]).toNat = 8 by omega, if_false]
      rw [e]; exact ref_odd above n bs A c w hA hl hnl h0
    obtain ⟨k, hk⟩ : ∃ k, (bs[n]).toNat = k := ⟨_, rfl⟩
    rw [hk] at h0 ⊢
    have hk8 : k = 1 ∨ k = 2 ∨ k = 3 ∨ k = 4 ∨ k = 5 ∨ k = 6 ∨ k = 7 ∨ k = 8 := by omega
    have IH : ∀ (W : World) (m : Nat), BRow0 W A bs → m ≤ bs.length → Calls Tryd.prog 43 #[.slice A bs.length c, .int .i64 m, .int .i64 (above + 1)] W (RTells W bs (parse rem (bs.drop m))) := fun W m h1 h2 => ih (above + 1) (by omega) (by omega) W m h1 h2
    rcases hk8 with rfl | rfl | rfl | rfl | rfl | rfl | rfl | rfl
    · exact ref_1 above n bs A c w hA hl hnl hk
    · exact ref_2 above n bs A c w hA hl hnl hk
    · exact ref_3 3 (.inl rfl) above n bs A c w hA hl hnl (by omega)
    · exact ref_3 4 (.inr rfl) above n bs A c w hA hl hnl (by omega)
    · rw [body5]; exact ref_5 5 (.inl rfl) above n bs A c w hA hl hcl hnl (by omega)
    · exact ref_5 6 (.inr rfl) above n bs A c w hA hl hcl hnl (by omega)
    · exact ref_7 (parse rem) (parse_err rem) above (by omega) (by omega) n bs A c w hA hl hnl hk IH
    · exact ref_8 (parse rem) (parse_err rem) above (by omega) (by omega) n bs A c w hA hl hcl hnl hk IH

/-- What the reference's Get ends in. -/
theorem refget_done {W : World} {b : Nat} {c0 c1 c2 c3 c4 x : Value} (hb : W.heap[b]? = some (.cells #[c0, c1, c2, c3, c4] 27 (0, 0))) (tmps : Array Value) (h2 : tmps[2]?.getD undef = .pointer (some ⟨b, 0, none⟩)) (h3 : tmps[3]?.getD undef = x) :
    (results Tryd.f15 tmps).run Tryd.prog W = .ok (.tuple #[.agg #[c0, c1, c2, c3, c4], x]) W := by
  have d0 : W.cell? ⟨b, 0, none⟩ = some c0 := cell_blk hb 0
  have d1 : W.cell? ⟨b, 1, none⟩ = some c1 := cell_blk hb 1
  have d2 : W.cell? ⟨b, 2, none⟩ = some c2 := cell_blk hb 2
  have d3 : W.cell? ⟨b, 3, none⟩ = some c3 := cell_blk hb 3
  have d4 : W.cell? ⟨b, 4, none⟩ = some c4 := cell_blk hb 4
  simp [results, Tryd.results15, go_sem, h2, h3, d0, d1, d2, d3, d4]
set_option maxRecDepth 100000 in
set_option maxHeartbeats 2000000 in
theorem refGet_any (bs : List UInt8) (w : World) (A : Option Addr) (c : Nat) (hA : BRow0 w A bs) (hc : bs.length ≤ c) :
    Calls Tryd.prog 15 #[.slice A bs.length c] w (Gets w (getV bs)) := by
  by_cases hl : 4096 < bs.length
  · rw [getV_long hl]
    have hz : (4096 : Int) < (bs.length : Int) := by omega
    go_enter Tryd.func15, Tryd.ntmps15
    go_wp2_with fail
    exact bodyPost_ret (refget_done (heap_alloc_new w _) _ rfl rfl) rfl ⟨_, rfl, rep_atom (by omega) (by omega), below1 _ _⟩
  have hz : ¬ (4096 : Int) < (bs.length : Int) := by omega
  obtain ⟨G, hG⟩ : ∃ G, getV bs = G := ⟨_, rfl⟩
  rw [hG]
  have HG := Lib.hid hG
  clear hG
  have hC := refget_any bs A c (by omega) hc 16 0 (by omega) (Nat.le_refl _) (w.alloc (.cells vzero 27)) 0 (hA.below (below1 _ _)) (by omega)
  rw [List.drop_zero] at hC
  have hW : (w.alloc (.cells vzero 27)).heap[w.heap.size]? = some (.cells vzero 27 (0, 0)) := heap_alloc_new w _
  have hbw := below1 w (.cells vzero 27)
  have hws : (w.alloc (.cells vzero 27)).heap.size = w.heap.size + 1 := by simp
  have HC := Lib.hid hC
  clear hC
  simp only [vzero] at HC hW hbw hws
  go_enter Tryd.func15, Tryd.ntmps15
  go_wp2_with fail
  generalize w.alloc _ = W0 at HC hW hbw hws ⊢
  refine HC.out.mono ?_
  rcases hp : parse 16 bs with e | ⟨v, rest⟩
  · rintro e' w' ⟨rfl, hb⟩
    have hG := HG.out
    rw [getV_no hl hp] at hG
    subst hG
    have hne : e ≠ 0 := parse_err 16 _ _ hp
    have hne1 : (e == 0) = false := by simpa using hne
    have hne2 : (e != 0) = true := by simpa using hne
    have hbw' := below_step hbw (by omega) hb
    have hq : w'.heap[w.heap.size]? = some (.cells vzero 27 (0, 0)) := by rw [hb.block _ (by omega)]; exact hW
    have b1 := below1 w' (.cells vzero 27)
    have hq2 : (w'.alloc (.cells vzero 27)).heap[w.heap.size]? = some (.cells vzero 27 (0, 0)) := by
      rw [b1.block _ (by have := hb.size; omega)]; exact hq
    have hb2 := below_step hbw' (by have := hb.size; omega) b1
    have HB2 := Lib.hid hb2
    simp only [vzero] at hq2 HB2
    have e0 := cell_blk hq2 0; have e1 := cell_blk hq2 1; have e2 := cell_blk hq2 2; have e3 := cell_blk hq2 3; have e4 := cell_blk hq2 4
    have f0 := frozen_blk hq2 0; have f1 := frozen_blk hq2 1; have f2 := frozen_blk hq2 2; have f3 := frozen_blk hq2 3; have f4 := frozen_blk hq2 4
    have HQ2 := Lib.hid hq2
    clear hne hp hbw' hq hq2 hb2 b1
    go_wp2_with fail
    exact bodyPost_ret (refget_done (fill_blk HQ2.out _ _ _ _ _) _ rfl rfl) rfl ⟨_, rfl, rep_atom (by omega) (by omega), below_five HB2.out (Nat.le_refl _) _ _ _ _ _⟩
  · rintro e' w' ⟨cs, m', rfl, hr, hb, hm', rfl⟩
    obtain ⟨vk, vn, vb, vl, vf⟩ := v
    have hrr := hr
    obtain ⟨AB, AL, AF, cb, cl, cf, L, F, rfl, -⟩ := hr.inv
    clear hr
    have hbw' := below_step hbw (by omega) hb
    have hq : w'.heap[w.heap.size]? = some (.cells vzero 27 (0, 0)) := by rw [hb.block _ (by omega)]; exact hW
    have b1 := below1 w' (.cells #[Value.int .i64 vk, .int .u64 vn, .slice AB vb.length cb, .slice AL vl.length cl, .slice AF vf.length cf] 27)
    have hq2 : (w'.alloc (.cells #[Value.int .i64 vk, .int .u64 vn, .slice AB vb.length cb, .slice AL vl.length cl, .slice AF vf.length cf] 27)).heap[w.heap.size]? = some (.cells vzero 27 (0, 0)) := by
      rw [b1.block _ (by have := hb.size; omega)]; exact hq
    have hb2 := below_step hbw' (by have := hb.size; omega) b1
    have hr2 := (hrr.kept (Keeps.of_below b1 _ (fun k hk _ => hk))).mono (S' := fun k => w.heap.size < k) (fun k _ hk => by omega)
    have HR2 := Lib.hid (rep_again hr2 (b := w.heap.size) (Nat.lt_irrefl _) (.int .i64 vk) (.int .u64 vn) (.slice AB vb.length cb) (.slice AL vl.length cl) (.slice AF vf.length cf))
    have HB2 := Lib.hid hb2
    simp only [vzero] at hq2
    have e0 := cell_blk hq2 0; have e1 := cell_blk hq2 1; have e2 := cell_blk hq2 2; have e3 := cell_blk hq2 3; have e4 := cell_blk hq2 4
    have f0 := frozen_blk hq2 0; have f1 := frozen_blk hq2 1; have f2 := frozen_blk hq2 2; have f3 := frozen_blk hq2 3; have f4 := frozen_blk hq2 4
    have HQ2 := Lib.hid hq2
    clear hbw' hq hq2 hb2 b1 hr2 hrr
    by_cases hm : m' = bs.length
    · have hd : bs.drop m' = [] := List.drop_of_length_le (by omega)
      rw [hd] at hp
      have hG := HG.out
      rw [getV_ok hl hp] at hG
      subst hG
      have h1 : ((m' : Int) == (bs.length : Int)) = true := by simp; omega
      have h2 : ((m' : Int) != (bs.length : Int)) = false := by simp; omega
      clear hm hd hp
      go_wp2_with fail
      exact bodyPost_ret (refget_done (fill_blk HQ2.out _ _ _ _ _) _ rfl rfl) rfl ⟨_, rfl, HR2.out.mono (fun k _ h => by omega), below_five HB2.out (Nat.le_refl _) _ _ _ _ _⟩
    · have hd : bs.drop m' = bs[m'] :: bs.drop (m' + 1) := List.drop_eq_getElem_cons (by omega)
      rw [hd] at hp
      have hG := HG.out
      rw [getV_more hl hp] at hG
      subst hG
      have h1 : ((m' : Int) == (bs.length : Int)) = false := by simp; omega
      have h2 : ((m' : Int) != (bs.length : Int)) = true := by simp; omega
      clear hm hd hp
      go_wp2_with fail
      exact bodyPost_ret (refget_done (fill_blk HQ2.out _ _ _ _ _) _ rfl rfl) rfl ⟨_, rfl, rep_atom (by omega) (by omega), below_five HB2.out (Nat.le_refl _) _ _ _ _ _⟩
end Go.Proofs.YtljdfainnmpjnaaDoor
