/- The reference's Vast, Zero, many, depth over values: what they compute, and that they do. -/
import Derived.Test.YtljdfainnmpjnaaDoorSame
namespace Go.Proofs.YtljdfainnmpjnaaDoor
open Go.RowKit

/-- A list of values in memory. -/
structure Reps (w : World) (S : Nat → Prop) (A : Option Addr) (l : List V) (L : Nat → List Value) : Prop where
  row : Row w S A 5 l.length L
  each : ∀ i (h : i < l.length), Rep w S l[i] (L i)
theorem Reps.kept {w w' : World} {S : Nat → Prop} {A : Option Addr} {l : List V} {L : Nat → List Value} (h : Reps w S A l L) (hb : Keeps S w w') : Reps w' S A l L :=
  ⟨h.row.kept hb, fun i hi => Rep.kept hb (h.each i hi)⟩
theorem Reps.mono {w : World} {S S' : Nat → Prop} {A : Option Addr} {l : List V} {L : Nat → List Value} (h : Reps w S A l L) (hs : ∀ k, k < w.heap.size → S k → S' k) : Reps w S' A l L :=
  ⟨h.row.mono hs, fun i hi => (h.each i hi).mono hs⟩
theorem Reps.below {w w' : World} {A : Option Addr} {l : List V} {L : Nat → List Value} (h : Reps w (Old w) A l L) (hb : Below w.heap.size w w') : Reps w' (Old w') A l L :=
  (h.kept (Keeps.of_below hb _ fun _ _ h => h)).mono fun _ _ h => Nat.lt_of_lt_of_le h hb.size

/-! ### Vast -/
def vastL : List V → Int → Bool
  | [], _ => false
  | v :: r, x => if (walkedR v x).2 then vastL r (walkedR v x).1 else true
def vastR (l : List V) : Bool := vastL l 20000
theorem vastL_step {l : List V} {i : Nat} {x : Int} (h : i < l.length) : vastL (l.drop i) x = if (walkedR l[i] x).2 then vastL (l.drop (i + 1)) (walkedR l[i] x).1 else true := by
  rw [List.drop_eq_getElem_cons h, vastL]

set_option maxHeartbeats 1000000 in
theorem vast_any (l : List V) (A : Option Addr) (c : Nat) (L : Nat → List Value) (w : World) (hl : Len l.length c) (h : Reps w (Old w) A l L) :
    Calls Tryd.prog 18 #[.slice A l.length c] w fun e w' => e = .returned (.bool (vastR l)) ∧ Below w.heap.size w w' := by
  obtain ⟨hl1, hl2, hl3⟩ := hl
  obtain ⟨R, hR⟩ : ∃ R, vastR l = R := ⟨_, rfl⟩
  rw [hR]
  have HR := Lib.hid hR
  clear hR
  go_enter Tryd.func18, Tryd.ntmps18
  go_wp2_with fail
  go_loopg [3, 4] l.length (fun g t3 t4 wr => ∃ (i : Nat) (x : Int), i ≤ l.length ∧ t4 = .int .i64 i ∧ t3 = .int .i64 x ∧ 0 < x ∧ x ≤ 20000 ∧ R = vastL (l.drop i) x ∧ l.length ≤ i + g ∧ Below w.heap.size w wr)
  case atStart => exact ⟨0, 20000, by omega, rfl, rfl, by omega, by omega, HR.out.symm, by omega, Below.refl _ _⟩
  case round =>
    obtain ⟨i, x, hi, rfl, rfl, hx0, hx1, hw, hg, hbw⟩ := hrel
    have HW := Lib.hid hw
    clear hw
    by_cases hlt : i < l.length
    · have hLw := h.below hbw
      obtain ⟨bb, o, x0, x1, x2, x3, x4, hAd, hLi, e0, e1, e2, e3, e4⟩ := hLw.row.at5 hlt
      have hRi : Rep0 wr l[i] [x0, x1, x2, x3, x4] := by rw [← hLi]; exact hLw.each i hlt
      clear hLi hLw
      subst hAd
      go_wp2_with fail
      refine (walked_any l[i] _ _ _ hRi hx0 hx1).mono ?_
      rintro e w1 ⟨rfl, hb1⟩
      have hd := walkedR_down l[i] x hx0
      have hw := HW.out
      rw [vastL_step hlt] at hw
      clear HW
      cases hok : (walkedR l[i] x).2 with
      | true =>
        rw [hok, if_pos rfl] at hw
        have hd := hd hok
        generalize (walkedR l[i] x).1 = z at hd hw ⊢
        have HW2 := Lib.hid hw
        clear hw hok
        go_wp2_with fail
        go_roundg (gk - 1)
        case measure => omega
        case rel => exact ⟨i + 1, z, by omega, by go_num, rfl, by omega, by omega, HW2.out, by omega, below_step hbw (Nat.le_refl _) hb1⟩
      | false =>
        rw [hok, if_neg (by simp)] at hw
        subst hw
        clear hok
        go_wp2_with fail
        go_ret
        exact ⟨rfl, below_step hbw (Nat.le_refl _) hb1⟩
    · go_wp2_with fail
      go_ret
      refine ⟨?_, hbw⟩
      have hw := HW.out
      rw [List.drop_of_length_le (by omega)] at hw
      rw [hw]
      rfl

/-! ### How many parts -/
mutual
def V.parts : V → Int
  | .mk _ _ _ l f => 1 + partsL l + partsF f
def partsL : List V → Int
  | [] => 0
  | v :: r => v.parts + partsL r
def partsF : List (ByteArray × V) → Int
  | [] => 0
  | (_, v) :: r => v.parts + partsF r
end

/-! ### Zero -/
theorem rep_zero (w : World) (S : Nat → Prop) : Rep w S V.zero [.int .i64 0, .int .u64 0, .slice none 0 0, .slice none 0 0, .slice none 0 0] :=
  .mk 0 0 [] [] [] none none none 0 0 0 (fun _ => []) (fun _ => []) (by omega) (by omega) ⟨by simp, by simp, by simp⟩ (Row.nil _ _ _ _ _) ⟨by simp, by simp, by simp⟩ (Row.nil _ _ _ _ _) (fun i h => absurd h (by simp))
    ⟨by simp, by simp, by simp⟩ (Row.nil _ _ _ _ _) (fun i h => absurd h (by simp)) (fun i h => absurd h (by simp))

theorem zero_any (v : V) (cs : List Value) (w : World) (h : Rep0 w v cs) :
    Calls Tryd.prog 20 #[.agg cs.toArray] w fun e w' => e = .returned (.bool (sameR v V.zero)) ∧ Below w.heap.size w w' := by
  obtain ⟨k, n, b, l, f⟩ := v
  have hw := h
  obtain ⟨AB, AL, AF, cb, cl, cf, L, F, rfl, -⟩ := h.inv
  go_enter Tryd.func20, Tryd.ntmps20
  go_wp2_with fail
  refine (same_any _ _ _ _ _ (Rep0.below ((Below.refl _ _).alloc (Nat.le_refl _) _) hw) (rep_zero _ _)).mono ?_
  rintro e w1 ⟨rfl, hb1⟩
  go_wp2_with fail
  go_ret
  exact ⟨rfl, ((Below.refl _ _).alloc (Nat.le_refl _) _).trans (hb1.mono (by simp))⟩
theorem lawsame_any (a u : V) (csa csb : List Value) (w : World) (ha : Rep0 w a csa) (hb : Rep0 w u csb) :
    Calls Tryd.prog 17 #[.agg csa.toArray, .agg csb.toArray] w fun e w' => e = .returned (.bool (sameR a u)) ∧ Below w.heap.size w w' := by
  obtain ⟨k, n, b, l, f⟩ := a
  obtain ⟨k', n', b', l', f'⟩ := u
  have ha' := ha
  have hb' := hb
  obtain ⟨AB, AL, AF, cb, cl, cf, L, F, rfl, -⟩ := ha.inv
  obtain ⟨AB', AL', AF', cb', cl', cf', L', F', rfl, -⟩ := hb.inv
  have hbW : ∀ X Y, Below w.heap.size w ((w.alloc X).alloc Y) := fun X Y => ((Below.refl _ _).alloc (Nat.le_refl _) _).alloc (by simp) _
  have HbW := Lib.hid hbW
  clear hbW
  go_enter Tryd.func17, Tryd.ntmps17
  go_wp2_with fail
  refine (same_any _ _ _ _ _ (Rep0.below (HbW.out _ _) ha') (Rep0.below (HbW.out _ _) hb')).mono ?_
  rintro e w1 ⟨rfl, hb1⟩
  go_wp2_with fail
  go_ret
  exact ⟨rfl, (HbW.out _ _).trans (hb1.mono (by simp; omega))⟩

/-! ### many -/
mutual
def manyR : V → Bool
  | .mk _ _ _ l f => decide (64 < l.length) || decide (64 < f.length) || manyL l || manyF f
def manyL : List V → Bool
  | [] => false
  | v :: r => manyR v || manyL r
def manyF : List (ByteArray × V) → Bool
  | [] => false
  | (_, v) :: r => manyR v || manyF r
end
theorem manyL_step {l : List V} {i : Nat} (h : i < l.length) : manyL (l.drop i) = (manyR l[i] || manyL (l.drop (i + 1))) := by
  rw [List.drop_eq_getElem_cons h, manyL]
theorem manyF_step {l : List (ByteArray × V)} {i : Nat} (h : i < l.length) : manyF (l.drop i) = (manyR (l[i]).2 || manyF (l.drop (i + 1))) := by
  rw [List.drop_eq_getElem_cons h]
  generalize l[i] = p
  obtain ⟨s, v⟩ := p
  rw [manyF]

set_option maxHeartbeats 1000000 in
theorem many_any (v : V) : ∀ (cs : List Value) (w : World), Rep0 w v cs →
    Calls Tryd.prog 54 #[.agg cs.toArray] w fun e w' => e = .returned (.bool (manyR v)) ∧ Below w.heap.size w w' := by
  induction v using V.ind with
  | h k n b l f ihl ihf =>
  intro cs w h
  obtain ⟨AB, AL, AF, cb, cl, cf, L, F, rfl, -, -, hb, hB, hl, hL, hLs, hf, hF, hFs, hfn⟩ := h.inv
  clear h hB hb
  obtain ⟨X, hX⟩ : ∃ X, Obj.cells #[Value.int .i64 k, .int .u64 n, .slice AB b.length cb, .slice AL l.length cl, .slice AF f.length cf] 27 = X := ⟨_, rfl⟩
  have HX := Lib.hid hX
  clear hX
  obtain ⟨hl1, hl2, hl3⟩ := hl
  obtain ⟨hf1, hf2, hf3⟩ := hf
  have h0 : ∀ Z, Below w.heap.size w (w.alloc Z) := fun Z => (Below.refl _ _).alloc (Nat.le_refl _) _
  have H0 := Lib.hid h0
  clear h0
  by_cases h64 : 64 < l.length
  · have hR : manyR (.mk k n b l f) = true := by rw [manyR]; simp [h64]
    rw [hR]
    clear hR
    go_enter Tryd.func54, Tryd.ntmps54
    go_wp2_with fail
    go_ret
    exact ⟨rfl, H0.out _⟩
  by_cases f64 : 64 < f.length
  · have hR : manyR (.mk k n b l f) = true := by rw [manyR]; simp [f64]
    rw [hR]
    clear hR
    go_enter Tryd.func54, Tryd.ntmps54
    go_wp2_with fail
    go_ret
    exact ⟨rfl, H0.out _⟩
  obtain ⟨R, hR⟩ : ∃ R, manyR (.mk k n b l f) = R := ⟨_, rfl⟩
  rw [hR]
  rw [manyR, decide_eq_false h64, decide_eq_false f64, Bool.false_or, Bool.false_or] at hR
  have HR := Lib.hid hR
  clear hR
  go_enter Tryd.func54, Tryd.ntmps54
  go_wp2_with fail
  go_loopg [3] l.length (fun g t3 wr => ∃ i : Nat, i ≤ l.length ∧ t3 = .int .i64 i ∧ (manyL (l.drop i) || manyF f) = R ∧ l.length ≤ i + g ∧ Below (w.heap.size + 1) (w.alloc X) wr)
  case atStart => exact ⟨0, by omega, rfl, HR.out, by omega, by rw [← HX.out]; exact Below.refl _ _⟩
  case round =>
    obtain ⟨i, hi, rfl, hw, hg, hbw⟩ := hrel
    have hblk := blk_alloc hbw
    rw [← HX.out] at hblk
    have c3 := cell_blk hblk 3
    clear hblk
    by_cases hlt : i < l.length
    · have hLw := hL.kept (Keeps.of_below (below_of_alloc hbw) _ fun _ _ h => h)
      obtain ⟨bb, o, x0, x1, x2, x3, x4, hAd, hLi, e0, e1, e2, e3, e4⟩ := hLw.at5 hlt
      have hRi : Rep0 wr l[i] [x0, x1, x2, x3, x4] := by rw [← hLi]; exact Rep0.below (below_of_alloc hbw) (hLs i hlt)
      clear hLi hLw
      subst hAd
      rw [manyL_step hlt] at hw
      have HW := Lib.hid hw
      clear hw
      go_wp2_with fail
      refine (ihl i hlt _ _ hRi).mono ?_
      rintro e w1 ⟨rfl, hb1⟩
      have hw := HW.out
      clear HW
      cases hs : manyR l[i] with
      | false =>
        rw [hs, Bool.false_or] at hw
        have HW2 := Lib.hid hw
        clear hw hs
        go_wp2_with fail
        go_roundg (gk - 1)
        case measure => omega
        case rel => exact ⟨i + 1, by omega, by go_num, HW2.out, by omega, below_alloc_trans hbw hb1⟩
      | true =>
        obtain rfl : R = true := by rw [← hw, hs]; rfl
        clear hw hs
        go_wp2_with fail
        go_ret
        exact ⟨rfl, below_of_alloc (below_alloc_trans hbw hb1)⟩
    · rw [List.drop_of_length_le (by omega), manyL, Bool.false_or] at hw
      have HW := Lib.hid hw
      clear hw HR
      obtain ⟨wo, hwo⟩ : ∃ wo, wo = wr := ⟨_, rfl⟩
      subst hwo
      go_wp2_with fail
      clear c3
      go_loopg [4] f.length (fun g t3 wr => ∃ i : Nat, i ≤ f.length ∧ t3 = .int .i64 i ∧ manyF (f.drop i) = R ∧ f.length ≤ i + g ∧ Below (w.heap.size + 1) (w.alloc X) wr)
      case atStart => exact ⟨0, by omega, rfl, HW.out, by omega, hbw⟩
      case round =>
        clear hbw HW
        obtain ⟨i, hi, rfl, hw, hg, hbw⟩ := hrel
        have hblk := blk_alloc hbw
        rw [← HX.out] at hblk
        have c4 := cell_blk hblk 4
        clear hblk
        by_cases hlt : i < f.length
        · have hLw := hF.kept (Keeps.of_below (below_of_alloc hbw) _ fun _ _ h => h)
          obtain ⟨bb, o, s, x0, x1, x2, x3, x4, hAd, hLi, e, e0, e1, e2, e3, e4⟩ := hLw.at6 hlt
          have hRi : Rep0 wr (f[i]).2 [x0, x1, x2, x3, x4] := by rw [← (List.cons.inj hLi).2]; exact Rep0.below (below_of_alloc hbw) (hFs i hlt)
          clear hLi hLw
          subst hAd
          rw [manyF_step hlt] at hw
          have HW := Lib.hid hw
          clear hw
          go_wp2_with fail
          refine (ihf i hlt _ _ hRi).mono ?_
          rintro e w1 ⟨rfl, hb1⟩
          have hw := HW.out
          clear HW
          cases hs : manyR (f[i]).2 with
          | false =>
            rw [hs, Bool.false_or] at hw
            have HW2 := Lib.hid hw
            clear hw hs
            go_wp2_with fail
            go_roundg (gk - 1)
            case measure => omega
            case rel => exact ⟨i + 1, by omega, by go_num, HW2.out, by omega, below_alloc_trans hbw hb1⟩
          | true =>
            obtain rfl : R = true := by rw [← hw, hs]; rfl
            clear hw hs
            go_wp2_with fail
            go_ret
            exact ⟨rfl, below_of_alloc (below_alloc_trans hbw hb1)⟩
        · rw [List.drop_of_length_le (by omega), manyF] at hw
          subst hw
          go_wp2_with fail
          go_ret
          exact ⟨rfl, below_of_alloc hbw⟩
end Go.Proofs.YtljdfainnmpjnaaDoor
