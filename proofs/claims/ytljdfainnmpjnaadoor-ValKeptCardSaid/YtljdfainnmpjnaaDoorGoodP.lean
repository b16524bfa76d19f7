/- The program's Good and Put. -/
import Derived.Test.YtljdfainnmpjnaaDoorGood
import Derived.Test.YtljdfainnmpjnaaDoorLaid
import Derived.Test.YtljdfainnmpjnaaDoorWalked
import Derived.Test.YtljdfainnmpjnaaDoorParse
set_option linter.unusedVariables false
namespace Go.Proofs.YtljdfainnmpjnaaDoor
open Go.RowKit

/-! ### plain laws: depth, size -/
theorem formed_parts {k n : Int} {b : List UInt8} {l : List V} {f : List (ByteArray × V)} (h : Formed (.mk k n b l f)) : Kind1 k n ∧ Kind2 k b l f ∧ (∀ x ∈ l, Formed x) ∧ (∀ x ∈ f, nameR x.1 = true ∧ Formed x.2) := by
  obtain ⟨h1, h2, h3, h4⟩ := (formed_iff k n b l f).1 h
  refine ⟨h1, h2, fun x hx => ?_, fun x hx => ?_⟩
  · obtain ⟨i, hi, rfl⟩ := List.getElem_of_mem hx
    exact h3 i hi
  · obtain ⟨i, hi, rfl⟩ := List.getElem_of_mem hx
    exact ⟨(h4 i hi).1, (h4 i hi).2.1⟩
theorem depthP_R (v : V) : Formed v → depthP v = depthR v := by
  induction v using V.ind0 with
  | h k n b l f ihl ihf =>
    intro hf
    obtain ⟨h1, h2, h3, h4⟩ := formed_parts hf
    have a : depthPL l = depthL l := by
      clear ihf hf h2
      induction l with
      | nil => simp [depthPL, depthL]
      | cons v r ih =>
        have a := ihl v (by simp) (h3 v (by simp))
        have b := ih (fun x hx => ihl x (by simp [hx])) (fun x hx => h3 x (by simp [hx]))
        simp only [depthPL, depthL, a, b]
    have b : depthPF f = depthF f := by
      clear ihl hf h2
      induction f with
      | nil => simp [depthPF, depthF]
      | cons v r ih =>
        have a := ihf v (by simp) (h4 v (by simp)).2
        have b := ih (fun x hx => ihf x (by simp [hx])) (fun x hx => h4 x (by simp [hx]))
        obtain ⟨s, v⟩ := v
        dsimp only at a
        simp only [depthPF, depthF, a, b]
    rw [depthP, depthR, a, b]
    obtain ⟨k1, k8, -⟩ := h1
    obtain ⟨-, kl, kf, -⟩ := h2
    by_cases hk : k = 7 ∨ k = 8
    · rw [if_pos hk, if_pos (by omega)]
    · rw [if_neg hk, if_neg (by omega)]
      obtain rfl : l = [] := List.eq_nil_of_length_eq_zero (by omega)
      obtain rfl : f = [] := List.eq_nil_of_length_eq_zero (by omega)
      simp [depthL, depthF]
theorem encL_len : ∀ (l : List V) (_ : ∀ x ∈ l, ((encR x).length : Int) = sizeR x), ((encL l).length : Int) = sizeL l
  | [], _ => by simp [encL, sizeL]
  | v :: r, h => by
    have := encL_len r (fun x hx => h x (by simp [hx]))
    have := h v (by simp)
    simp only [encL, sizeL, List.length_append]
    omega
theorem encF_len : ∀ (l : List (ByteArray × V)) (_ : ∀ x ∈ l, ((encR x.2).length : Int) = sizeR x.2), ((encF l).length : Int) = sizeF l
  | [], _ => by simp [encF, sizeF]
  | (s, v) :: r, h => by
    have := encF_len r (fun x hx => h x (by simp [hx]))
    have := h (s, v) (by simp)
    dsimp only at this
    have hs : s.data.toList.length = s.size := by simp
    simp only [encF, sizeF, List.length_append, List.length_cons]
    omega
theorem sizeR_enc (v : V) : Formed v → ((encR v).length : Int) = sizeR v := by
  induction v using V.ind0 with
  | h k n b l f ihl ihf =>
    intro hf
    obtain ⟨h1, h2, h3, h4⟩ := formed_parts hf
    have a := encL_len l (fun x hx => ihl x hx (h3 x hx))
    have c := encF_len f (fun x hx => ihf x hx (h4 x hx).2)
    obtain ⟨-, kl, kf, -⟩ := h2
    rw [encR, sizeR]
    unfold headN
    by_cases e2 : k = 2
    · subst e2
      obtain rfl : l = [] := List.eq_nil_of_length_eq_zero (by omega)
      obtain rfl : f = [] := List.eq_nil_of_length_eq_zero (by omega)
      simp [sizeL, sizeF]
    rw [if_neg e2, if_neg e2]
    by_cases e3 : k = 3 ∨ k = 4
    · obtain rfl : l = [] := List.eq_nil_of_length_eq_zero (by omega)
      obtain rfl : f = [] := List.eq_nil_of_length_eq_zero (by omega)
      rw [if_pos e3, if_pos e3]
      simp [sizeL, sizeF, leBytes_length]
    rw [if_neg e3, if_neg e3]
    by_cases e5 : k = 5 ∨ k = 6
    · obtain rfl : l = [] := List.eq_nil_of_length_eq_zero (by omega)
      obtain rfl : f = [] := List.eq_nil_of_length_eq_zero (by omega)
      rw [if_pos e5, if_pos e5]
      simp [sizeL, sizeF, leBytes_length]
      omega
    rw [if_neg e5, if_neg e5]
    by_cases e7 : k = 7
    · subst e7
      obtain rfl : f = [] := List.eq_nil_of_length_eq_zero (by omega)
      simp [sizeF]
      omega
    rw [if_neg e7]
    by_cases e8 : k = 8
    · subst e8
      obtain rfl : l = [] := List.eq_nil_of_length_eq_zero (by omega)
      simp [sizeL]
      omega
    rw [if_neg e8, if_neg (by omega)]
    obtain rfl : l = [] := List.eq_nil_of_length_eq_zero (by omega)
    obtain rfl : f = [] := List.eq_nil_of_length_eq_zero (by omega)
    simp [sizeL, sizeF]

/-- A value that is small enough to be looked at. -/
structure Small (v : V) : Prop where
  high : v.high ≤ 1000000
  size : Formed v → sizeR v ≤ 9000000000000000000

set_option maxRecDepth 100000 in
set_option maxHeartbeats 4000000 in
theorem good_any (v : V) (cs : List Value) (w : World) (hT : Tabs w) (h : Rep0 w v cs) (hs : Small v) :
    Calls Tryd.prog 21 #[.agg cs.toArray] w fun e w' => e = .returned (.int .i64 (goodR v)) ∧ Below w.heap.size w w' := by
  obtain ⟨k, n, b, l, f⟩ := v
  have hr := h
  obtain ⟨AB, AL, AF, cb, cl, cf, L, F, rfl, -⟩ := h.inv
  clear h
  obtain ⟨X, hX⟩ : ∃ X, Obj.cells #[Value.int .i64 k, .int .u64 n, .slice AB b.length cb, .slice AL l.length cl, .slice AF f.length cf] 27 = X := ⟨_, rfl⟩
  have HX := Lib.hid hX
  clear hX
  obtain ⟨v, hv⟩ : ∃ v, V.mk k n b l f = v := ⟨_, rfl⟩
  rw [hv] at hr hs ⊢
  have HV := Lib.hid hv
  clear hv
  obtain ⟨G, hG⟩ : ∃ G, goodR v = G := ⟨_, rfl⟩
  rw [hG]
  unfold goodR at hG
  have HG := Lib.hid hG
  clear hG
  have hbw0 : Below (w.heap.size + 1) (w.alloc X) (w.alloc X) := Below.refl _ _
  have CELL : ∀ {W : World}, Below (w.heap.size + 1) (w.alloc X) W → W.cell? ⟨w.heap.size, 0, none⟩ = some (.int .i64 k) ∧ W.cell? ⟨w.heap.size, 1, none⟩ = some (.int .u64 n) ∧ W.cell? ⟨w.heap.size, 2, none⟩ = some (.slice AB b.length cb) ∧ W.cell? ⟨w.heap.size, 3, none⟩ = some (.slice AL l.length cl) ∧ W.cell? ⟨w.heap.size, 4, none⟩ = some (.slice AF f.length cf) := fun {W} hb => by
    have hblk := blk_alloc hb
    rw [← HX.out] at hblk
    exact ⟨cell_blk hblk 0, cell_blk hblk 1, cell_blk hblk 2, cell_blk hblk 3, cell_blk hblk 4⟩
  have HCELL := @Lib.hid _ @CELL
  have HRW := @Lib.hid _ (fun (W : World) (hb : Below (w.heap.size + 1) (w.alloc X) W) => Rep0.below (below_of_alloc hb) hr)
  have HTW := @Lib.hid _ (fun (W : World) (hb : Below (w.heap.size + 1) (w.alloc X) W) => hT.below (below_of_alloc hb))
  have hF := formed_any v _ (w.alloc X) (HTW.out _ hbw0) (HRW.out _ hbw0)
  obtain ⟨U, hU⟩ : ∃ U, formedB v = U := ⟨_, rfl⟩
  rw [hU] at hF
  have HU := Lib.hid hU
  have HF := Lib.hid hF
  have c0 := CELL hbw0
  obtain ⟨y0, y1, y2, y3, y4⟩ := c0
  clear hF hU CELL hr hT
  have step : ∀ {W W' : World}, Below (w.heap.size + 1) (w.alloc X) W → Below W.heap.size W W' → Below (w.heap.size + 1) (w.alloc X) W' := fun {W W'} h h' => below_alloc_trans h h'
  have HSTEP := @Lib.hid _ @step
  clear step
  go_enter Tryd.func21, Tryd.ntmps21
  go_wp2_with fail
  rw [HX.out]
  refine HF.out.mono ?_
  rintro e w1 ⟨rfl, hb1⟩
  have bw1 := HSTEP.out hbw0 hb1
  clear y0 y1 y2 y3 y4 hbw0 hb1 HF
  cases U with
  | false =>
    have hG := HG.out
    rw [if_pos HU.out] at hG
    subst hG
    go_wp2_with fail
    go_ret
    exact ⟨rfl, below_of_alloc bw1⟩
  | true =>
  have hfm := formedB_true.1 HU.out
  have HFM := Lib.hid hfm
  have hG := HG.out
  rw [HU.out, if_neg (by simp), mostR_many, ← depthP_R v hfm] at hG
  have hsz := sizeR_enc v hfm
  have HSZ := Lib.hid hsz
  have HG1 := Lib.hid hG
  have hM := most_any v _ w1 (HRW.out _ bw1)
  have hM0 : 0 ≤ mostR v := by
    cases v with
    | mk k n b l f => rw [mostR]; omega
  obtain ⟨M, hMM⟩ : ∃ M, mostR v = M := ⟨_, rfl⟩
  rw [hMM] at hM hM0
  have HMM := Lib.hid hMM
  have HM := Lib.hid hM
  obtain ⟨y0, y1, y2, y3, y4⟩ := HCELL.out bw1
  clear hM hMM hsz hG HG HU hfm
  go_wp2_with fail
  refine HM.out.mono ?_
  rintro e w2 ⟨rfl, hb2⟩
  have bw2 := HSTEP.out bw1 hb2
  clear y0 y1 y2 y3 y4 bw1 hb2 HM
  have hG := HG1.out
  rw [HMM.out] at hG
  by_cases hm : 64 < M
  · rw [if_pos (decide_eq_true hm)] at hG
    subst hG
    go_wp2_with fail
    go_ret
    exact ⟨rfl, below_of_alloc bw2⟩
  rw [if_neg (by simpa using hm)] at hG
  have HG2 := Lib.hid hG
  have hD := depthP_any v _ w2 (HRW.out _ bw2) hs.high
  have HD := Lib.hid hD
  obtain ⟨y0, y1, y2, y3, y4⟩ := HCELL.out bw2
  obtain ⟨N, hN⟩ : ∃ N, depthP v = N := ⟨_, rfl⟩
  have HN := Lib.hid hN
  clear hD hG HG1 hN
  go_wp2_with fail
  refine HD.out.mono ?_
  rw [HN.out]
  rintro e w3 ⟨rfl, hb3⟩
  have bw3 := HSTEP.out bw2 hb3
  clear y0 y1 y2 y3 y4 bw2 hb3 HD
  have hG := HG2.out
  rw [HN.out] at hG
  by_cases hd : 16 < N
  · rw [if_pos hd] at hG
    subst hG
    go_wp2_with fail
    go_ret
    exact ⟨rfl, below_of_alloc bw3⟩
  rw [if_neg hd] at hG
  have HG3 := Lib.hid hG
  have hS := size_any v _ w3 (HRW.out _ bw3) (hs.size HFM.out)
  rw [← HSZ.out] at hS
  obtain ⟨Z, hZ⟩ : ∃ Z, (encR v).length = Z := ⟨_, rfl⟩
  rw [hZ] at hS hG
  have HS := Lib.hid hS
  obtain ⟨y0, y1, y2, y3, y4⟩ := HCELL.out bw3
  have HG4 := Lib.hid hG
  clear hS hG HG3 hZ HG2
  go_wp2_with fail
  refine HS.out.mono ?_
  rintro e w4 ⟨rfl, hb4⟩
  have bw4 := HSTEP.out bw3 hb4
  clear y0 y1 y2 y3 y4 bw3 hb4 HS
  have hG := HG4.out
  by_cases hz : 4096 < Z
  · rw [if_pos hz] at hG
    subst hG
    have hzz : (4096 : Int) < (Z : Int) := by omega
    go_wp2_with fail
    go_ret
    exact ⟨rfl, below_of_alloc bw4⟩
  · rw [if_neg hz] at hG
    subst hG
    have hzz : ¬ (4096 : Int) < (Z : Int) := by omega
    go_wp2_with fail
    go_ret
    exact ⟨rfl, below_of_alloc bw4⟩

/-- What Put ends in. -/
def Puts (w : World) (v : V) (e : Ending) (w' : World) : Prop :=
  ∃ t bs, e = .returned (.tuple #[t, .int .i64 (goodR v)]) ∧ Own w' w.heap.size t bs ∧ Below w.heap.size w w' ∧ (goodR v = 0 → bs = encR v) ∧ (goodR v ≠ 0 → bs = [])
theorem goodR_zero {v : V} (h : goodR v = 0) : Formed v ∧ (encR v).length ≤ 4096 := by
  unfold goodR at h
  by_cases h1 : formedB v = false
  · rw [if_pos h1] at h; omega
  rw [if_neg h1] at h
  split at h
  · omega
  split at h
  · omega
  split at h
  · omega
  · exact ⟨formedB_true.1 (by simpa using h1), by omega⟩
end Go.Proofs.YtljdfainnmpjnaaDoor
