/- The program's test of a value's parts. -/
import Derived.Test.YtljdfainnmpjnaaDoorShape
import Derived.Test.YtljdfainnmpjnaaDoorMeas
import Derived.Test.YtljdfainnmpjnaaDoorFlds
import Derived.Test.YtljdfainnmpjnaaDoorNameC
set_option linter.unusedVariables false
namespace Go.Proofs.YtljdfainnmpjnaaDoor
open Go.RowKit

theorem Tabs.below {w w' : World} (h : Tabs w) (hb : Below w.heap.size w w') : Tabs w' :=
  h.keeps (Keeps.of_below hb (Old w) fun _ _ h => h) (World.block_lt_of_cell? w _ (h.1 0 (by omega))) (World.block_lt_of_cell? w _ (h.2 0 (by omega)).1)

/-- Block m holds the set of names. -/
def Names (W : World) (m : Nat) (ns : List ByteArray) : Prop :=
  ∃ D : DataW Unit, W.ownsMap Tryd.prog 9 unitElem m ns.length D ∧ (∀ s : ByteArray, Maps.has D (.string s.data.toList) = true ↔ s ∈ ns) ∧ Maps.size D ≤ ns.length ∧ (Maps.size D = ns.length ↔ ns.Nodup)
theorem Names.kept {W W' : World} {m : Nat} {ns : List ByteArray} {row : Option Nat} (h : Names W m ns) (hg : W.grownBy W' row) (hne : some m ≠ row) : Names W' m ns := by
  obtain ⟨D, h1, h2⟩ := h
  exact ⟨D, h1.kept hg hne, h2⟩
theorem Names.below {W W' : World} {m : Nat} {ns : List ByteArray} (h : Names W m ns) (hb : Below W.heap.size W W') : Names W' m ns := h.kept (grown_of_below hb none) (by simp)
theorem Names.lt {W : World} {m : Nat} {ns : List ByteArray} (h : Names W m ns) : m < W.heap.size := by
  obtain ⟨D, h1, h2⟩ := h
  exact h1.lt
theorem Names.start (W : World) : Names (W.alloc (.map #[] 0)) W.heap.size [] := ⟨.map [], World.ownsMap_made W _ _ _, fun s => by simp [Maps.has], by simp [Maps.size], by simp [Maps.size]⟩
/-- One name more. -/
theorem names_put {D : DataW Unit} {ns : List ByteArray} (hD : Maps.IsMap D) (hT : Maps.Tidy D) (h2 : ∀ s : ByteArray, Maps.has D (.string s.data.toList) = true ↔ s ∈ ns) (h3 : Maps.size D ≤ ns.length) (h4 : Maps.size D = ns.length ↔ ns.Nodup) (s : ByteArray) (d : DataW Unit) :
    (∀ t : ByteArray, Maps.has (D.put (.string s.data.toList) d) (.string t.data.toList) = true ↔ t ∈ s :: ns) ∧ Maps.size (D.put (.string s.data.toList) d) ≤ (s :: ns).length ∧ (Maps.size (D.put (.string s.data.toList) d) = (s :: ns).length ↔ (s :: ns).Nodup) := by
  refine ⟨has_put hD h2 s, ?_⟩
  have hs := Maps.size_put (k := .string s.data.toList) hT d
  have hiff := h2 s
  cases hh : Maps.has D (.string s.data.toList) with
  | true =>
    rw [hh, if_pos rfl] at hs
    have hin := hiff.1 hh
    rw [hs, List.length_cons, List.nodup_cons]
    exact ⟨by omega, fun h => by omega, fun h => absurd hin h.1⟩
  | false =>
    rw [hh, if_neg (by simp)] at hs
    have hin : s ∉ ns := fun h => by have := hiff.2 h; rw [hh] at this; cases this
    rw [hs, List.length_cons, List.nodup_cons]
    refine ⟨by omega, fun h => ⟨hin, h4.1 (by omega)⟩, fun h => ?_⟩
    have := h4.2 h.2
    omega
theorem blk_below {W W' : World} {b : Nat} {X : Obj} (h : W.heap[b]? = some X) (hb : Below W.heap.size W W') : W'.heap[b]? = some X := by
  rw [hb.block b (Array.getElem?_eq_some_iff.1 h).1]; exact h
theorem blk_grown {W W' : World} {b : Nat} {X : Obj} {row : Option Nat} (h : W.heap[b]? = some X) (hg : W.grownBy W' row) (hne : row ≠ some b) : W'.heap[b]? = some X := by
  rw [hg.block b (Array.getElem?_eq_some_iff.1 h).1 (fun e => hne e.symm)]; exact h
def namesOf (f : List (ByteArray × V)) : List ByteArray := (f.map (·.1)).reverse
theorem namesOf_take {f : List (ByteArray × V)} {i : Nat} (h : i < f.length) : namesOf (f.take (i + 1)) = (f[i]).1 :: namesOf (f.take i) := by
  unfold namesOf
  rw [List.take_succ_eq_append_getElem h, List.map_append, List.reverse_append]
  rfl
theorem namesOf_length (f : List (ByteArray × V)) : (namesOf f).length = f.length := by simp [namesOf]
theorem namesOf_nodup (f : List (ByteArray × V)) : (namesOf f).Nodup ↔ ∀ i (h : i < f.length) j (hj : j < i), (f[j]).1 ≠ (f[i]).1 := by
  unfold namesOf
  unfold List.Nodup
  rw [List.pairwise_reverse, List.pairwise_iff_getElem]
  constructor
  · intro h i hi j hj
    have := h j i (by simp; omega) (by simpa using hi) hj
    exact fun e => this (by simpa using e.symm)
  · intro h j i hj hi hji
    have := h i (by simpa using hi) j hji
    exact fun e => this (by simpa using e.symm)

set_option maxRecDepth 100000 in
set_option maxHeartbeats 16000000 in
theorem formed_any (v : V) : ∀ (cs : List Value) (w : World), Tabs w → Rep0 w v cs →
    Calls Tryd.prog 49 #[.agg cs.toArray] w fun e w' => e = .returned (.bool (formedB v)) ∧ Below w.heap.size w w' := by
  induction v using V.ind with
  | h k n b l f ihl ihf =>
  intro cs w hT h
  obtain ⟨AB, AL, AF, cb, cl, cf, L, F, rfl, hkr, hnr, hb, hB, hl, hL, hLs, hf, hF, hFs, hfn⟩ := h.inv
  clear h
  obtain ⟨nb, hnb⟩ : ∃ nb, b.length = nb := ⟨_, rfl⟩
  obtain ⟨nl, hnl⟩ : ∃ nl, l.length = nl := ⟨_, rfl⟩
  obtain ⟨nf, hnf⟩ : ∃ nf, f.length = nf := ⟨_, rfl⟩
  rw [hnb, hnl, hnf]
  rw [hnb] at hb
  rw [hnl] at hl
  rw [hnf] at hf
  have HNB0 := Lib.hid hnb
  have HNL := Lib.hid hnl
  have HNF := Lib.hid hnf
  clear hnb hnl hnf
  obtain ⟨X, hX⟩ : ∃ X, Obj.cells #[Value.int .i64 k, .int .u64 n, .slice AB nb cb, .slice AL nl cl, .slice AF nf cf] 27 = X := ⟨_, rfl⟩
  have HX := Lib.hid hX
  clear hX
  obtain ⟨hb1, hb2, hb3⟩ := hb
  obtain ⟨hl1, hl2, hl3⟩ := hl
  obtain ⟨hf1, hf2, hf3⟩ := hf
  obtain ⟨R, hR⟩ : ∃ R, formedB (.mk k n b l f) = R := ⟨_, rfl⟩
  rw [hR]
  have hR' : R = true ↔ Kind1 k n ∧ Kind2 k b l f ∧ (∀ i (h : i < l.length), Formed l[i]) ∧ (∀ i (h : i < f.length), nameR (f[i]).1 = true ∧ Formed (f[i]).2 ∧ ∀ j (hj : j < i), (f[j]).1 ≠ (f[i]).1) := by
    rw [← hR, formedB_true, formed_iff]
  have HR := Lib.hid hR'
  clear hR hR'
  have hbw0 : Below w.heap.size w (w.alloc X) := (Below.refl _ _).alloc (Nat.le_refl _) _
  have hblk0 := heap_alloc_new w X
  have hV := validC b _ AB cb (w.alloc X) (hT.below hbw0) (hB.belowS hbw0) (by rw [HNB0.out]; exact hb1) hb3
  rw [HNB0.out] at hV
  have HV := Lib.hid hV
  have HT := Lib.hid hT
  rw [← HX.out] at hblk0
  have z0 := cell_blk hblk0 0
  have z1 := cell_blk hblk0 1
  have z2 := cell_blk hblk0 2
  have z3 := cell_blk hblk0 3
  have z4 := cell_blk hblk0 4
  rw [HX.out] at z0 z1 z2 z3 z4
  clear hV hT hblk0
  go_enter Tryd.func49, Tryd.ntmps49
  go_upto_region 1 with fail
  rw [HX.out]
  obtain ⟨T1, hT1⟩ : ∃ T, decide (k < 1 ∨ 8 < k) = T := ⟨_, rfl⟩
  have HT1 := Lib.hid hT1
  clear hT1
  go_cut [16] (fun t wc => t = .bool T1 ∧ w.alloc X = wc)
  case first =>
    have hT := HT1.out
    clear HR HV
    by_cases hk1 : k < 1
    · rw [decide_eq_true (.inl hk1)] at hT; subst hT
      go_wp2_with fail
      go_meet
      exact ⟨rfl, rfl⟩
    · by_cases hk2 : 8 < k
      · rw [decide_eq_true (.inr hk2)] at hT; subst hT
        go_wp2_with fail
        go_meet
        exact ⟨rfl, rfl⟩
      · rw [decide_eq_false (by omega)] at hT; subst hT
        go_wp2_with fail
        go_meet
        exact ⟨rfl, rfl⟩
  obtain ⟨rfl, rfl⟩ := hcut
  have hk := HT1.out
  clear HT1
  cases T1 with
  | true =>
    have hk := of_decide_eq_true hk
    have hRf : R = false := eq_false_of (fun h => by have := (HR.out.1 h).1; unfold Kind1 at this; omega)
    subst hRf
    clear HR
    go_wp2_with fail
    go_ret
    exact ⟨rfl, hbw0⟩
  | false =>
  have hk := of_decide_eq_false hk
  have hk1 : 1 ≤ k := by omega
  have hk8 : k ≤ 8 := by omega
  clear hk
  obtain ⟨NB, hNB⟩ : ∃ NB, decide (k = 2 ∨ k = 3 ∨ k = 4) = NB := ⟨_, rfl⟩
  have HNB := Lib.hid hNB
  clear hNB
  go_upto_region 3 with fail
  go_cut [3] (fun t3 wc => t3 = .bool NB ∧ w.alloc X = wc)
  case first =>
    have hN := HNB.out
    clear HR HV
    by_cases e2 : k = 2
    · subst e2; rw [decide_eq_true (.inl rfl)] at hN; subst hN
      go_wp2_with fail
      go_meet
      exact ⟨rfl, rfl⟩
    by_cases e3 : k = 3
    · subst e3; rw [decide_eq_true (.inr (.inl rfl))] at hN; subst hN
      go_wp2_with fail
      go_meet
      exact ⟨rfl, rfl⟩
    by_cases e4 : k = 4
    · subst e4; rw [decide_eq_true (.inr (.inr rfl))] at hN; subst hN
      go_wp2_with fail
      go_meet
      exact ⟨rfl, rfl⟩
    rw [decide_eq_false (by omega)] at hN; subst hN
    have q2 : (k == 2) = false := by simpa using e2
    have q3 : (k == 3) = false := by simpa using e3
    have q4 : (k == 4) = false := by simpa using e4
    clear e2 e3 e4
    go_wp2_with fail
    go_meet
    exact ⟨rfl, rfl⟩
  obtain ⟨rfl, rfl⟩ := hcut
  obtain ⟨T3, hT3⟩ : ∃ T, decide (¬ Kind1 k n) = T := ⟨_, rfl⟩
  have HT3 := Lib.hid hT3
  clear hT3
  go_upto_region 4 with fail
  go_cut [46] (fun t wc => t = .bool T3 ∧ w.alloc X = wc)
  case first =>
    have hN := HNB.out
    have hT := HT3.out
    clear HNB HR HV
    cases NB with
    | false =>
      have hN := of_decide_eq_false hN
      by_cases hn : n = 0
      · rw [decide_eq_false (by unfold Kind1; omega)] at hT
        subst hn hT
        have q2 : (k == 2) = false := by simp; omega
        go_wp2_with fail
        go_meet
        exact ⟨rfl, rfl⟩
      · rw [decide_eq_true (by unfold Kind1; omega)] at hT
        subst hT
        have q0 : (n == 0) = false := by simpa using hn
        have q1 : (n != 0) = true := by simpa using hn
        go_wp2_with fail
        go_meet
        exact ⟨rfl, rfl⟩
    | true =>
      have hN := of_decide_eq_true hN
      by_cases e2 : k = 2
      · subst e2
        by_cases hn : 1 < n
        · rw [decide_eq_true (by unfold Kind1; omega)] at hT
          subst hT
          go_wp2_with fail
          go_meet
          exact ⟨rfl, rfl⟩
        · rw [decide_eq_false (by unfold Kind1; omega)] at hT
          subst hT
          go_wp2_with fail
          go_meet
          exact ⟨rfl, rfl⟩
      · rw [decide_eq_false (by unfold Kind1; omega)] at hT
        subst hT
        have q2 : (k == 2) = false := by simpa using e2
        go_wp2_with fail
        go_meet
        exact ⟨rfl, rfl⟩
  obtain ⟨rfl, rfl⟩ := hcut
  clear HNB
  have hK1 := HT3.out
  clear HT3
  cases T3 with
  | true =>
    have hRf : R = false := eq_false_of (fun h => absurd (HR.out.1 h).1 (of_decide_eq_true hK1))
    subst hRf
    clear HR
    go_wp2_with fail
    go_ret
    exact ⟨rfl, hbw0⟩
  | false =>
  have hK1 : Kind1 k n := Decidable.of_not_not (of_decide_eq_false hK1)
  have HK1 := Lib.hid hK1
  clear hK1
  obtain ⟨T4, hT4⟩ : ∃ T, decide (¬ ((k = 5 ∨ k = 6 ∨ nb = 0) ∧ (k = 5 → utfR b = true))) = T := ⟨_, rfl⟩
  have HT4 := Lib.hid hT4
  clear hT4
  go_upto_region 6 with fail
  go_cut [71] (fun t wc => t = .bool T4 ∧ Below (w.heap.size + 1) (w.alloc X) wc)
  case first =>
    have hT := HT4.out
    clear HT4 HR
    by_cases e5 : k = 5
    · subst e5
      obtain ⟨U, hU⟩ : ∃ U, utfR b = U := ⟨_, rfl⟩
      rw [hU] at hT HV
      clear hU
      go_wp2_with fail
      refine HV.out.mono ?_
      rintro e w1 ⟨rfl, hbv⟩
      have hbv2 := hbv.mono (Nat.le_of_eq (show w.heap.size + 1 = (w.alloc X).heap.size by simp))
      cases U
      · rw [decide_eq_true (by simp)] at hT; subst hT
        go_wp2_with fail
        go_meet
        exact ⟨rfl, hbv2⟩
      · rw [decide_eq_false (by simp)] at hT; subst hT
        go_wp2_with fail
        go_meet
        exact ⟨rfl, hbv2⟩
    by_cases e6 : k = 6
    · subst e6
      rw [decide_eq_false (by simp)] at hT; subst hT
      go_wp2_with fail
      go_meet
      exact ⟨rfl, Below.refl _ _⟩
    have q5 : (k == 5) = false := by simpa using e5
    have q6 : (k == 6) = false := by simpa using e6
    have q5' : (k != 5) = true := by simpa using e5
    have q6' : (k != 6) = true := by simpa using e6
    by_cases hb0 : nb = 0
    · rw [decide_eq_false (by omega)] at hT; subst hT
      subst hb0
      clear e5 e6
      go_wp2_with fail
      go_meet
      exact ⟨rfl, Below.refl _ _⟩
    · rw [decide_eq_true (by omega)] at hT; subst hT
      have hbz : (0 : Int) < (nb : Int) := by omega
      clear e5 e6 hb0
      go_wp2_with fail
      go_meet
      exact ⟨rfl, Below.refl _ _⟩
  obtain ⟨rfl, hbc⟩ := hcut
  have hK4 := HT4.out
  clear HT4 HV z0 z1 z2 z3 z4
  cases T4 with
  | true =>
    have hRf : R = false := eq_false_of (fun h => by have h2 := (HR.out.1 h).2.1; unfold Kind2 at h2; rw [HNB0.out] at h2; exact absurd ⟨by omega, h2.2.2.2⟩ (of_decide_eq_true hK4))
    subst hRf
    clear HR
    go_wp2_with fail
    go_ret
    exact ⟨rfl, below_of_alloc hbc⟩
  | false =>
  have hK4 := Decidable.of_not_not (of_decide_eq_false hK4)
  have HK4 := Lib.hid hK4
  clear hK4
  obtain ⟨T5, hT5⟩ : ∃ T, decide (¬ ((k = 7 ∨ nl = 0) ∧ (k = 8 ∨ nf = 0))) = T := ⟨_, rfl⟩
  have HT5 := Lib.hid hT5
  clear hT5
  have hblk := blk_alloc hbc
  rw [← HX.out] at hblk
  have z0 := cell_blk hblk 0
  have z3 := cell_blk hblk 3
  have z4 := cell_blk hblk 4
  clear hblk
  go_upto_region 8 with fail
  go_cut [91] (fun t wd => t = .bool T5 ∧ wc = wd)
  case first =>
    have hT := HT5.out
    clear HT5 HR HK4
    by_cases e7 : k = 7
    · subst e7
      by_cases hf0 : nf = 0
      · rw [decide_eq_false (by omega)] at hT; subst hT
        subst hf0
        go_wp2_with fail
        go_meet
        exact ⟨rfl, rfl⟩
      · rw [decide_eq_true (by omega)] at hT; subst hT
        have hz : (0 : Int) < (nf : Int) := by omega
        go_wp2_with fail
        go_meet
        exact ⟨congrArg Value.bool (decide_eq_true (by omega)), rfl⟩
    have q7 : (k == 7) = false := by simpa using e7
    have q7' : (k != 7) = true := by simpa using e7
    by_cases hl0 : nl = 0
    case neg =>
      rw [decide_eq_true (by omega)] at hT; subst hT
      have hz : (0 : Int) < (nl : Int) := by omega
      clear e7
      go_wp2_with fail
      go_meet
      exact ⟨rfl, rfl⟩
    by_cases e8 : k = 8
    · subst e8
      rw [decide_eq_false (by omega)] at hT; subst hT
      subst hl0
      go_wp2_with fail
      go_meet
      exact ⟨rfl, rfl⟩
    have q8 : (k == 8) = false := by simpa using e8
    have q8' : (k != 8) = true := by simpa using e8
    by_cases hf0 : nf = 0
    · rw [decide_eq_false (by omega)] at hT; subst hT
      subst hf0
      subst hl0
      clear e7 e8
      go_wp2_with fail
      go_meet
      exact ⟨rfl, rfl⟩
    · rw [decide_eq_true (by omega)] at hT; subst hT
      have hz : (0 : Int) < (nf : Int) := by omega
      subst hl0
      clear e7 e8
      go_wp2_with fail
      go_meet
      exact ⟨congrArg Value.bool (decide_eq_true (by omega)), rfl⟩
  obtain ⟨rfl, rfl⟩ := hcut
  have hK5 := HT5.out
  clear HT5 z0
  cases T5 with
  | true =>
    have hRf : R = false := eq_false_of (fun h => by have h2 := (HR.out.1 h).2.1; unfold Kind2 at h2; rw [HNL.out, HNF.out] at h2; exact absurd ⟨h2.2.1, h2.2.2.1⟩ (of_decide_eq_true hK5))
    subst hRf
    clear HR z3 z4
    go_wp2_with fail
    go_ret
    exact ⟨rfl, below_of_alloc hbc⟩
  | false =>
  have hK5 := Decidable.of_not_not (of_decide_eq_false hK5)
  have HK2 := Lib.hid (show Kind2 k b l f from ⟨by have := HK4.out.1; rw [HNB0.out]; exact this, by rw [HNL.out]; exact hK5.1, by rw [HNF.out]; exact hK5.2, HK4.out.2⟩)
  clear hK5 HK4 z4
  go_wp2_with fail
  clear z3
  go_loopg [95] nl (fun g t95 wr => ∃ i : Nat, i ≤ nl ∧ t95 = .int .i64 i ∧ (∀ j (h : j < l.length), j < i → Formed l[j]) ∧ nl ≤ i + g ∧ Below (w.heap.size + 1) (w.alloc X) wr)
  case atStart => exact ⟨0, by omega, rfl, fun j _ h => absurd h (by omega), by omega, hbc⟩
  case round =>
    clear hbc
    obtain ⟨i, hi, rfl, hw, hg, hbw⟩ := hrel
    have HW := @Lib.hid _ @hw
    clear hw
    have hbl := below_of_alloc hbw
    have hblk := blk_alloc hbw
    rw [← HX.out] at hblk
    have c4 := cell_blk hblk 4
    clear hblk
    by_cases hlt : i < nl
    · have hlt' : i < l.length := by rw [HNL.out]; exact hlt
      obtain ⟨bb, o, vk, vn, A1, A2, A3, n1, m1, n2, m2, n3, m3, rfl, e0, e1, e2, e3, e4, hRi⟩ := elem5 hL hLs hbl hlt'
      have hbd := below_of_alloc (Below.refl (wr.heap.size + 1) (wr.alloc (.cells #[.int .i64 vk, .int .u64 vn, .slice A1 n1 m1, .slice A2 n2 m2, .slice A3 n3 m3] 27)))
      have hRa := Rep0.below hbd hRi
      have hc := ihl i hlt' _ _ ((HT.out.below hbl).below hbd) hRa
      obtain ⟨U, hU⟩ : ∃ U, formedB l[i] = U := ⟨_, rfl⟩
      rw [hU] at hc
      have HU := Lib.hid hU
      have HC := Lib.hid hc
      clear hc hU c4 hRa hRi
      go_wp2_with fail
      refine HC.out.mono ?_
      rintro e w1 ⟨rfl, hb1⟩
      have hb2 := below_step hbd (by simp) hb1
      cases U with
      | false =>
        have hRf : R = false := eq_false_of (fun h => absurd ((HR.out.1 h).2.2.1 i hlt') (formedB_false.1 HU.out))
        subst hRf
        clear HR
        go_wp2_with fail
        go_ret
        exact ⟨rfl, below_step hbl (by have := hbw.size; simp at this; omega) hb2⟩
      | true =>
        have HFI := Lib.hid (formedB_true.1 HU.out)
        clear HU
        go_wp2_with fail
        go_roundg (gk - 1)
        case measure => omega
        case rel =>
          refine ⟨i + 1, by omega, by go_num, fun j hj hji => ?_, by omega, below_alloc_trans hbw hb2⟩
          by_cases e : j = i
          · subst e; exact HFI.out
          · exact HW.out j hj (by omega)
    · have HFL := Lib.hid (show ∀ i (h : i < l.length), Formed l[i] from fun j hj => HW.out j hj (by have := HNL.out; omega))
      clear HW
      obtain ⟨wo, hwo⟩ : ∃ wo, wo = wr := ⟨_, rfl⟩
      subst hwo
      have hmm := @run_makeMap Tryd.prog
      have hns := Names.start wo
      have hbm := (hbw.alloc (by have := hbw.size; simpa using this) (.map #[] 0))
      have hmge : w.heap.size + 1 ≤ wo.heap.size := by have := hbw.size; simpa using this
      have c4m : (wo.alloc (.map #[] 0)).cell? ⟨w.heap.size, 4, none⟩ = some (.slice AF nf cf) := below_cell ((Below.refl _ _).alloc (Nat.le_refl _) _) c4
      go_wp2_with fail
      generalize wo.alloc (.map #[] 0) = wm at hns hbm c4m ⊢
      obtain ⟨m, hm⟩ : ∃ m, wo.heap.size = m := ⟨_, rfl⟩
      rw [hm] at hns hmge ⊢
      clear hm c4 c4m hmm hbl hbw
      have HNS := Lib.hid hns
      clear hns
      go_loopg [107] nf (fun g t107 wr => ∃ i : Nat, i ≤ nf ∧ t107 = .int .i64 i ∧ (∀ j (h : j < f.length), j < i → nameR (f[j]).1 = true ∧ Formed (f[j]).2) ∧ Names wr m (namesOf (f.take i)) ∧ nf ≤ i + g ∧ Below (w.heap.size + 1) (w.alloc X) wr)
      case atStart => exact ⟨0, by omega, rfl, fun j _ h => absurd h (by omega), by simpa [namesOf] using HNS.out, by omega, hbm⟩
      case round =>
        clear hbm HNS
        obtain ⟨i, hi, rfl, hw, hns, hg, hbw⟩ := hrel
        have HW := @Lib.hid _ @hw
        have HNS := Lib.hid hns
        clear hw hns
        have hbl := below_of_alloc hbw
        have hblk := blk_alloc hbw
        rw [← HX.out] at hblk
        have c4 := cell_blk hblk 4
        clear hblk
        by_cases hlt : i < nf
        · have hlt' : i < f.length := by rw [HNF.out]; exact hlt
          obtain ⟨bb, o, vk, vn, A1, A2, A3, n1, m1, n2, m2, n3, m3, rfl, e, e0, e1, e2, e3, e4, hRi⟩ := elem6S hF hFs (Keeps.of_below hbl _ fun _ _ h => h) hlt'
          have hnm := hfn i hlt'
          have HTK := Lib.hid (namesOf_take hlt')
          obtain ⟨s, hss⟩ : ∃ s, (f[i]).1 = s := ⟨_, rfl⟩
          rw [hss] at e hnm HTK
          have HSS := Lib.hid hss
          clear hss
          have hbd := below_of_alloc (Below.refl (wr.heap.size + 1) (wr.alloc (.cells #[.string s, .int .i64 vk, .int .u64 vn, .slice A1 n1 m1, .slice A2 n2 m2, .slice A3 n3 m3] 59)))
          have hblk := heap_alloc_new wr (.cells #[.string s, .int .i64 vk, .int .u64 vn, .slice A1 n1 m1, .slice A2 n2 m2, .slice A3 n3 m3] 59)
          have hwsz : w.heap.size + 1 ≤ wr.heap.size := by have := hbw.size; simpa using this
          have hmlt : m < wr.heap.size := HNS.out.lt
          obtain ⟨D, hD1, hD2, hD3, hD4⟩ := HNS.out.below hbd
          have HD1 := Lib.hid hD1
          have HD2 := @Lib.hid _ @hD2
          have HD3 := Lib.hid hD3
          have HD4 := Lib.hid hD4
          have HN := Lib.hid (show (namesOf (f.take i)).length < maxLen by rw [namesOf_length, List.length_take]; unfold maxLen; omega)
          have HKEY := Lib.hid (show keyOf Tryd.prog 9 (.string s) = some (.string s.data.toList) from Go.WideMaps.keyOf_string_mk Tryd.underlying9 (by unfold maxLen; omega))
          have n0 := cell_blk hblk 0
          have HBLK := Lib.hid hblk
          have HRI := Lib.hid hRi
          have HBD := Lib.hid hbd
          clear hD1 hD2 hD3 hD4 hblk hRi hbd c4
          go_upto_region 21 with (at_mapUpdate; go_must (refine wpList_mapUpdate_own _ rfl _ _ _ 88 rfl 9 89 keyed9 Tryd.underlying88 (unitElem (H := Unit)) m (namesOf (f.take i)).length D rfl HD1.out HN.out _ _ (.string s.data.toList) rfl rfl HKEY.out (.agg []) [] unitElem_mk ?_; intro wf hown1 hgrow1))
          have hp := names_put HD1.out.isMap (HD1.out.tidy keyed9) HD2.out HD3.out HD4.out s (.agg [])
          have hnf : Names wf m (namesOf (f.take (i + 1))) := by
            rw [HTK.out]
            exact ⟨_, hown1, hp⟩
          have hblk2 := blk_grown HBLK.out hgrow1 (by intro e; cases e; exact Nat.lt_irrefl _ hmlt)
          have hbf : Below (w.heap.size + 1) (w.alloc X) wf := (below_alloc_trans hbw HBD.out).trans (below_of_grown hgrow1 _ (by have := HBD.out.size; omega) (fun k e => by cases e; exact hmge))
          have hblf := below_of_alloc hbf
          have hwrf : Below w.heap.size wr wf := (HBD.out.mono (by omega)).trans (below_of_grown hgrow1 _ (by have := HBD.out.size; omega) (fun k e => by cases e; omega))
          have hRf := HRI.out.kept (Keeps.of_below hwrf _ fun _ _ h => h)
          have hNC := nameC s wf (HT.out.below hblf) hnm
          obtain ⟨U, hU⟩ : ∃ U, nameR s = U := ⟨_, rfl⟩
          rw [hU] at hNC
          have HU := Lib.hid hU
          have HNC := Lib.hid hNC
          have HRF := Lib.hid hRf
          have HNF2 := Lib.hid hnf
          have HBF := Lib.hid hbf
          have HBLF := Lib.hid hblf
          have HB2 := Lib.hid hblk2
          have p0 := cell_blk hblk2 0
          clear hNC hU hRf hnf hbf hblf hblk2 hwrf hp hown1 hgrow1 e e0 e1 e2 e3 e4
          go_wp2_with fail
          refine HNC.out.mono ?_
          rintro e w1 ⟨rfl, hb1⟩
          cases U with
          | false =>
            have hRf : R = false := eq_false_of (fun h => by have := ((HR.out.1 h).2.2.2 i hlt').1; rw [HSS.out, HU.out] at this; cases this)
            subst hRf
            clear HR
            go_wp2_with fail
            go_ret
            exact ⟨rfl, below_step HBLF.out (by have := HBF.out.size; simp at this; omega) hb1⟩
          | true =>
            have hb12 := below_step HBLF.out (by have := HBF.out.size; simp at this; omega) hb1
            have hc := ihf i hlt' _ _ (HT.out.below hb12) ((HRF.out.kept (Keeps.of_below hb1 _ (fun k hk _ => hk))).old)
            obtain ⟨U2, hU2⟩ : ∃ U2, formedB (f[i]).2 = U2 := ⟨_, rfl⟩
            rw [hU2] at hc
            have HU2 := Lib.hid hU2
            have HC := Lib.hid hc
            have hblk3 := blk_below HB2.out hb1
            have q1 := cell_blk hblk3 1; have q2 := cell_blk hblk3 2; have q3 := cell_blk hblk3 3; have q4 := cell_blk hblk3 4; have q5 := cell_blk hblk3 5
            clear hc hU2 hblk3 p0
            go_wp2_with fail
            refine HC.out.mono ?_
            rintro e w2 ⟨rfl, hb2⟩
            clear q1 q2 q3 q4 q5
            cases U2 with
            | false =>
              have hRf : R = false := eq_false_of (fun h => absurd ((HR.out.1 h).2.2.2 i hlt').2.1 (formedB_false.1 HU2.out))
              subst hRf
              clear HR
              go_wp2_with fail
              go_ret
              exact ⟨rfl, below_step hb12 (by have := hb12.size; omega) hb2⟩
            | true =>
              have HFI := Lib.hid (formedB_true.1 HU2.out)
              clear HU2
              go_wp2_with fail
              go_roundg (gk - 1)
              case measure => omega
              case rel =>
                refine ⟨i + 1, by omega, by go_num, fun j hj hji => ?_, (HNF2.out.below hb1).below hb2, by omega, below_alloc_trans (below_alloc_trans HBF.out hb1) hb2⟩
                by_cases e : j = i
                · subst e; exact ⟨by rw [HSS.out]; exact HU.out, HFI.out⟩
                · exact HW.out j hj (by omega)
        · have HFF := Lib.hid (show ∀ j (h : j < f.length), nameR (f[j]).1 = true ∧ Formed (f[j]).2 from fun j hj => HW.out j hj (by have := HNF.out; omega))
          have hns := HNS.out
          rw [List.take_of_length_le (by have := HNF.out; omega)] at hns
          obtain ⟨D, hD1, hD2, hD3, hD4⟩ := hns
          rw [namesOf_length, HNF.out] at hD1 hD3 hD4
          have hsz : Maps.size D ≤ 281474976710656 := by omega
          have HD1 := Lib.hid hD1
          by_cases hnd : Maps.size D = nf
          · have hRt : R = true := HR.out.2 ⟨HK1.out, HK2.out, HFL.out, fun j hj => ⟨(HFF.out j hj).1, (HFF.out j hj).2, (namesOf_nodup f).1 (hD4.1 hnd) j hj⟩⟩
            subst hRt
            have hq : (((Maps.size D : Nat) : Int) == (nf : Int)) = true := by simp; omega
            clear HR hD4 hnd hD2 hD1
            go_wp2_with (at_len; refine wpList_len_own _ rfl (.tmp 126) 88 rfl 9 89 Tryd.underlying88 (unitElem (H := Unit)) m nf D rfl HD1.out ?_)
            go_ret
            exact ⟨rfl, hbl⟩
          · have hRf : R = false := eq_false_of (fun h => hnd (hD4.2 ((namesOf_nodup f).2 (fun j hj => ((HR.out.1 h).2.2.2 j hj).2.2))))
            subst hRf
            have hq : (((Maps.size D : Nat) : Int) == (nf : Int)) = false := by simp; omega
            clear HR hD4 hnd hD2 hD1
            go_wp2_with (at_len; refine wpList_len_own _ rfl (.tmp 126) 88 rfl 9 89 Tryd.underlying88 (unitElem (H := Unit)) m nf D rfl HD1.out ?_)
            go_ret
            exact ⟨rfl, hbl⟩
end Go.Proofs.YtljdfainnmpjnaaDoor
