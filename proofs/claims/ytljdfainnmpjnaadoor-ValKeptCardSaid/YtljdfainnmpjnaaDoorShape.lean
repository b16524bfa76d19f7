/- The reference's test of a value's shape: what it computes, and that it does. -/
import Derived.Test.YtljdfainnmpjnaaDoorName
import Derived.Test.YtljdfainnmpjnaaDoorTree
import Derived.Deep.Light
namespace Go.Proofs.YtljdfainnmpjnaaDoor
open Go.RowKit

/-- A value's kind, number and rows fit. -/
def Kind1 (k n : Int) : Prop := 1 ≤ k ∧ k ≤ 8 ∧ (k = 2 ∨ k = 3 ∨ k = 4 ∨ n = 0) ∧ (k = 2 → n ≤ 1)
def Kind2 (k : Int) (b : List UInt8) (l : List V) (f : List (ByteArray × V)) : Prop :=
  (k = 5 ∨ k = 6 ∨ b.length = 0) ∧ (k = 7 ∨ l.length = 0) ∧ (k = 8 ∨ f.length = 0) ∧ (k = 5 → utfR b = true)
instance (k n : Int) : Decidable (Kind1 k n) := by unfold Kind1; infer_instance
instance (k : Int) (b : List UInt8) (l : List V) (f : List (ByteArray × V)) : Decidable (Kind2 k b l f) := by unfold Kind2; exact inferInstance
/-- A value is good by its parts, but for numbers, depth and size. -/
inductive Formed : V → Prop where
  | mk (k n : Int) (b : List UInt8) (l : List V) (f : List (ByteArray × V)) (h1 : Kind1 k n) (h2 : Kind2 k b l f)
    (hl : ∀ i (h : i < l.length), Formed l[i]) (hn : ∀ i (h : i < f.length), nameR (f[i]).1 = true) (hf : ∀ i (h : i < f.length), Formed (f[i]).2)
    (hd : ∀ i (h : i < f.length) j (hj : j < i), (f[j]).1 ≠ (f[i]).1) : Formed (.mk k n b l f)
theorem eq_false_of {R : Bool} (h : R = true → False) : R = false := by cases R <;> simp at h ⊢
theorem formed_iff (k n : Int) (b : List UInt8) (l : List V) (f : List (ByteArray × V)) :
    Formed (.mk k n b l f) ↔ Kind1 k n ∧ Kind2 k b l f ∧ (∀ i (h : i < l.length), Formed l[i]) ∧
      (∀ i (h : i < f.length), nameR (f[i]).1 = true ∧ Formed (f[i]).2 ∧ ∀ j (hj : j < i), (f[j]).1 ≠ (f[i]).1) := by
  constructor
  · intro h
    cases h with
    | mk _ _ _ _ _ h1 h2 hl hn hf hd => exact ⟨h1, h2, hl, fun i h => ⟨hn i h, hf i h, fun j hj => hd i h j hj⟩⟩
  · rintro ⟨h1, h2, hl, hf⟩
    exact .mk k n b l f h1 h2 hl (fun i h => (hf i h).1) (fun i h => (hf i h).2.1) (fun i h j hj => (hf i h).2.2 j hj)
open Classical in
noncomputable def formedB (v : V) : Bool := decide (Formed v)
open Classical in
theorem formedB_true {v : V} : formedB v = true ↔ Formed v := by unfold formedB; exact decide_eq_true_iff
open Classical in
theorem formedB_false {v : V} : formedB v = false ↔ ¬ Formed v := by unfold formedB; exact decide_eq_false_iff_not

set_option maxRecDepth 100000 in
set_option maxHeartbeats 4000000 in
theorem shape_any (v : V) : ∀ (cs : List Value) (w : World), Rep0 w v cs →
    Calls Tryd.prog 53 #[.agg cs.toArray] w fun e w' => e = .returned (.bool (formedB v)) ∧ Below w.heap.size w w' := by
  induction v using V.ind with
  | h k n b l f ihl ihf =>
  intro cs w h
  obtain ⟨AB, AL, AF, cb, cl, cf, L, F, rfl, hk, hn, hb, hB, hl, hL, hLs, hf, hF, hFs, hfn⟩ := h.inv
  clear h
  obtain ⟨X, hX⟩ : ∃ X, Obj.cells #[Value.int .i64 k, .int .u64 n, .slice AB b.length cb, .slice AL l.length cl, .slice AF f.length cf] 27 = X := ⟨_, rfl⟩
  have HX := Lib.hid hX
  clear hX
  have hb' := hb
  obtain ⟨hb1, hb2, hb3⟩ := hb
  obtain ⟨hl1, hl2, hl3⟩ := hl
  obtain ⟨hf1, hf2, hf3⟩ := hf
  obtain ⟨R, hR⟩ : ∃ R, formedB (.mk k n b l f) = R := ⟨_, rfl⟩
  rw [hR]
  have hR' : R = true ↔ Kind1 k n ∧ Kind2 k b l f ∧ (∀ i (h : i < l.length), Formed l[i]) ∧
      (∀ i (h : i < f.length), nameR (f[i]).1 = true ∧ Formed (f[i]).2 ∧ ∀ j (hj : j < i), (f[j]).1 ≠ (f[i]).1) := by
    rw [← hR, formedB_true, formed_iff]
  have HR := Lib.hid hR'
  clear hR hR'
  obtain ⟨T1, hT1⟩ : ∃ T, (T = true → ¬ Kind1 k n) ∧ (T = false → Kind1 k n) := ⟨!decide (Kind1 k n), by simp, by simp⟩
  have HT1 := Lib.hid hT1
  clear hT1
  go_enter Tryd.func53, Tryd.ntmps53
  go_upto_region 1 with fail
  rw [HX.out]
  have hb0 : Below (w.heap.size + 1) (w.alloc X) (w.alloc X) := Below.refl _ _
  obtain ⟨W1, hW1⟩ : ∃ W1, w.alloc X = W1 := ⟨_, rfl⟩
  rw [hW1]
  replace hb0 : Below (w.heap.size + 1) (w.alloc X) W1 := by rw [hW1] at hb0 ⊢; exact hb0
  clear hW1
  go_cut [0, 43] (fun s0 s wc => s = .bool T1 ∧ Below (w.heap.size + 1) (w.alloc X) wc)
  case first =>
    have hblk := blk_alloc hb0
    rw [← HX.out] at hblk
    have c0 := cell_blk hblk 0
    have c1 := cell_blk hblk 1
    clear hblk
    go_wp2_with fail
    all_goals
      go_meet
      case rel =>
        refine ⟨congrArg Value.bool ?_, hb0⟩
        cases T1
        · have h := HT1.out.2 rfl
          unfold Kind1 at h
          first | rfl | (exfalso; omega) | (simp; omega)
        · have h := HT1.out.1 rfl
          unfold Kind1 at h
          first | rfl | (exfalso; omega) | (simp; omega)
  case rest =>
    obtain ⟨rfl, hbc⟩ := hcut
    clear hb0
    cases T1 with
    | true =>
      obtain rfl : R = false := eq_false_of fun h => HT1.out.1 rfl (HR.out.1 h).1
      go_wp2_with fail
      go_ret
      exact ⟨rfl, below_of_alloc hbc⟩
    | false =>
      have h1 : Kind1 k n := HT1.out.2 rfl
      have H1 := Lib.hid h1
      clear h1 HT1
      obtain ⟨T2, hT2⟩ : ∃ T, (T = true → ¬ Kind2 k b l f) ∧ (T = false → Kind2 k b l f) := ⟨!decide (Kind2 k b l f), by simp, by simp⟩
      have HT2 := Lib.hid hT2
      clear hT2
      go_upto_region 3 with fail
      go_cut [90] (fun s wc => s = .bool T2 ∧ Below (w.heap.size + 1) (w.alloc X) wc)
      case first =>
        have hblk := blk_alloc hbc
        rw [← HX.out] at hblk
        have c0 := cell_blk hblk 0
        have c2 := cell_blk hblk 2
        have c3 := cell_blk hblk 3
        have c4 := cell_blk hblk 4
        clear hblk
        have hBc := BRow0.below (below_of_alloc hbc) hB
        have hu := fun W => utf_any b AB cb W hb'
        have HU := Lib.hid hu
        clear hu
        have HBC := Lib.hid hBc
        clear hBc
        have h5 : k = 5 ∨ k = 6 ∨ k = 7 ∨ k = 8 ∨ (¬ k = 5 ∧ ¬ k = 6 ∧ ¬ k = 7 ∧ ¬ k = 8) := by omega
        rcases h5 with rfl | rfl | rfl | rfl | ⟨h5, h6, h7, h8⟩
        · by_cases zl : 0 < l.length
          · go_wp2_with fail
            go_meet
            case rel =>
              refine ⟨congrArg Value.bool ?_, hbc⟩
              cases T2
              · have h := HT2.out.2 rfl
                unfold Kind2 at h
                first | rfl | (exfalso; omega) | (simp only [Bool.or_eq_false_iff, decide_eq_false_iff_not]; omega)
              · first | rfl | (have hx := HT2.out.1 rfl; exfalso; apply hx; unfold Kind2; omega) | (have hx := HT2.out.1 rfl; exfalso; apply hx; refine ⟨?_, ?_, ?_, fun h => ?_⟩ <;> omega) | exact absurd ⟨by omega, by omega, by omega, fun h => absurd h (by omega)⟩ (HT2.out.1 rfl)
          · replace zl : l.length ≤ 0 := by omega
            by_cases zf : 0 < f.length
            · go_wp2_with fail
              go_meet
              case rel =>
                refine ⟨congrArg Value.bool ?_, hbc⟩
                cases T2
                · have h := HT2.out.2 rfl
                  unfold Kind2 at h
                  first | rfl | (exfalso; omega) | (simp only [Bool.or_eq_false_iff, decide_eq_false_iff_not]; omega)
                · first | rfl | (have hx := HT2.out.1 rfl; exfalso; apply hx; unfold Kind2; omega) | (have hx := HT2.out.1 rfl; exfalso; apply hx; refine ⟨?_, ?_, ?_, fun h => ?_⟩ <;> omega) | exact absurd ⟨by omega, by omega, by omega, fun h => absurd h (by omega)⟩ (HT2.out.1 rfl)
            · replace zf : f.length ≤ 0 := by omega
              go_wp2_with fail
              refine (HU.out _ HBC.out).mono ?_
              rintro e w1 ⟨rfl, rfl⟩
              go_wp2_with fail
              go_meet
              case rel =>
                refine ⟨congrArg Value.bool ?_, hbc⟩
                rw [decide_eq_false (show ¬ 0 < l.length by omega), decide_eq_false (show ¬ 0 < f.length by omega)]
                cases hq : utfR b
                · cases T2
                  · have h := (HT2.out.2 rfl).2.2.2 rfl
                    rw [hq] at h
                    cases h
                  · rfl
                · cases T2
                  · rfl
                  · exact absurd ⟨by omega, by omega, by omega, fun _ => hq⟩ (HT2.out.1 rfl)
        · by_cases zl : 0 < l.length
          · go_wp2_with fail
            go_meet
            case rel =>
              refine ⟨congrArg Value.bool ?_, hbc⟩
              cases T2
              · have h := HT2.out.2 rfl
                unfold Kind2 at h
                first | rfl | (exfalso; omega) | (simp only [Bool.or_eq_false_iff, decide_eq_false_iff_not]; omega)
              · first | rfl | (have hx := HT2.out.1 rfl; exfalso; apply hx; unfold Kind2; omega) | (have hx := HT2.out.1 rfl; exfalso; apply hx; refine ⟨?_, ?_, ?_, fun h => ?_⟩ <;> omega) | exact absurd ⟨by omega, by omega, by omega, fun h => absurd h (by omega)⟩ (HT2.out.1 rfl)
          · replace zl : l.length ≤ 0 := by omega
            by_cases zf : 0 < f.length
            · go_wp2_with fail
              go_meet
              case rel =>
                refine ⟨congrArg Value.bool ?_, hbc⟩
                cases T2
                · have h := HT2.out.2 rfl
                  unfold Kind2 at h
                  first | rfl | (exfalso; omega) | (simp only [Bool.or_eq_false_iff, decide_eq_false_iff_not]; omega)
                · first | rfl | (have hx := HT2.out.1 rfl; exfalso; apply hx; unfold Kind2; omega) | (have hx := HT2.out.1 rfl; exfalso; apply hx; refine ⟨?_, ?_, ?_, fun h => ?_⟩ <;> omega) | exact absurd ⟨by omega, by omega, by omega, fun h => absurd h (by omega)⟩ (HT2.out.1 rfl)
            · replace zf : f.length ≤ 0 := by omega
              go_wp2_with fail
              go_meet
              case rel =>
                refine ⟨congrArg Value.bool ?_, hbc⟩
                cases T2
                · have h := HT2.out.2 rfl
                  unfold Kind2 at h
                  first | rfl | (exfalso; omega) | (simp only [Bool.or_eq_false_iff, decide_eq_false_iff_not]; omega)
                · first | rfl | (have hx := HT2.out.1 rfl; exfalso; apply hx; unfold Kind2; omega) | (have hx := HT2.out.1 rfl; exfalso; apply hx; refine ⟨?_, ?_, ?_, fun h => ?_⟩ <;> omega) | exact absurd ⟨by omega, by omega, by omega, fun h => absurd h (by omega)⟩ (HT2.out.1 rfl)
        · by_cases zb : 0 < b.length
          · go_wp2_with fail
            go_meet
            case rel =>
              refine ⟨congrArg Value.bool ?_, hbc⟩
              cases T2
              · have h := HT2.out.2 rfl
                unfold Kind2 at h
                first | rfl | (exfalso; omega) | (simp only [Bool.or_eq_false_iff, decide_eq_false_iff_not]; omega)
              · first | rfl | (have hx := HT2.out.1 rfl; exfalso; apply hx; unfold Kind2; omega) | (have hx := HT2.out.1 rfl; exfalso; apply hx; refine ⟨?_, ?_, ?_, fun h => ?_⟩ <;> omega) | exact absurd ⟨by omega, by omega, by omega, fun h => absurd h (by omega)⟩ (HT2.out.1 rfl)
          · replace zb : b.length ≤ 0 := by omega
            by_cases zf : 0 < f.length
            · go_wp2_with fail
              go_meet
              case rel =>
                refine ⟨congrArg Value.bool ?_, hbc⟩
                cases T2
                · have h := HT2.out.2 rfl
                  unfold Kind2 at h
                  first | rfl | (exfalso; omega) | (simp only [Bool.or_eq_false_iff, decide_eq_false_iff_not]; omega)
                · first | rfl | (have hx := HT2.out.1 rfl; exfalso; apply hx; unfold Kind2; omega) | (have hx := HT2.out.1 rfl; exfalso; apply hx; refine ⟨?_, ?_, ?_, fun h => ?_⟩ <;> omega) | exact absurd ⟨by omega, by omega, by omega, fun h => absurd h (by omega)⟩ (HT2.out.1 rfl)
            · replace zf : f.length ≤ 0 := by omega
              go_wp2_with fail
              go_meet
              case rel =>
                refine ⟨congrArg Value.bool ?_, hbc⟩
                cases T2
                · have h := HT2.out.2 rfl
                  unfold Kind2 at h
                  first | rfl | (exfalso; omega) | (simp only [Bool.or_eq_false_iff, decide_eq_false_iff_not]; omega)
                · first | rfl | (have hx := HT2.out.1 rfl; exfalso; apply hx; unfold Kind2; omega) | (have hx := HT2.out.1 rfl; exfalso; apply hx; refine ⟨?_, ?_, ?_, fun h => ?_⟩ <;> omega) | exact absurd ⟨by omega, by omega, by omega, fun h => absurd h (by omega)⟩ (HT2.out.1 rfl)
        · by_cases zb : 0 < b.length
          · go_wp2_with fail
            go_meet
            case rel =>
              refine ⟨congrArg Value.bool ?_, hbc⟩
              cases T2
              · have h := HT2.out.2 rfl
                unfold Kind2 at h
                first | rfl | (exfalso; omega) | (simp only [Bool.or_eq_false_iff, decide_eq_false_iff_not]; omega)
              · first | rfl | (have hx := HT2.out.1 rfl; exfalso; apply hx; unfold Kind2; omega) | (have hx := HT2.out.1 rfl; exfalso; apply hx; refine ⟨?_, ?_, ?_, fun h => ?_⟩ <;> omega) | exact absurd ⟨by omega, by omega, by omega, fun h => absurd h (by omega)⟩ (HT2.out.1 rfl)
          · replace zb : b.length ≤ 0 := by omega
            by_cases zl : 0 < l.length
            · go_wp2_with fail
              go_meet
              case rel =>
                refine ⟨congrArg Value.bool ?_, hbc⟩
                cases T2
                · have h := HT2.out.2 rfl
                  unfold Kind2 at h
                  first | rfl | (exfalso; omega) | (simp only [Bool.or_eq_false_iff, decide_eq_false_iff_not]; omega)
                · first | rfl | (have hx := HT2.out.1 rfl; exfalso; apply hx; unfold Kind2; omega) | (have hx := HT2.out.1 rfl; exfalso; apply hx; refine ⟨?_, ?_, ?_, fun h => ?_⟩ <;> omega) | exact absurd ⟨by omega, by omega, by omega, fun h => absurd h (by omega)⟩ (HT2.out.1 rfl)
            · replace zl : l.length ≤ 0 := by omega
              go_wp2_with fail
              go_meet
              case rel =>
                refine ⟨congrArg Value.bool ?_, hbc⟩
                cases T2
                · have h := HT2.out.2 rfl
                  unfold Kind2 at h
                  first | rfl | (exfalso; omega) | (simp only [Bool.or_eq_false_iff, decide_eq_false_iff_not]; omega)
                · first | rfl | (have hx := HT2.out.1 rfl; exfalso; apply hx; unfold Kind2; omega) | (have hx := HT2.out.1 rfl; exfalso; apply hx; refine ⟨?_, ?_, ?_, fun h => ?_⟩ <;> omega) | exact absurd ⟨by omega, by omega, by omega, fun h => absurd h (by omega)⟩ (HT2.out.1 rfl)
        · have k5 : (k != 5) = true := by simpa using h5
          have k6 : (k != 6) = true := by simpa using h6
          have k7 : (k != 7) = true := by simpa using h7
          have k8 : (k != 8) = true := by simpa using h8
          have k5' : (k == 5) = false := by simpa using h5
          by_cases zb : 0 < b.length
          · go_wp2_with fail
            go_meet
            case rel =>
              refine ⟨congrArg Value.bool ?_, hbc⟩
              cases T2
              · have h := HT2.out.2 rfl
                unfold Kind2 at h
                first | rfl | (exfalso; omega) | (simp only [Bool.or_eq_false_iff, decide_eq_false_iff_not]; omega)
              · first | rfl | (have hx := HT2.out.1 rfl; exfalso; apply hx; unfold Kind2; omega) | (have hx := HT2.out.1 rfl; exfalso; apply hx; refine ⟨?_, ?_, ?_, fun h => ?_⟩ <;> omega) | exact absurd ⟨by omega, by omega, by omega, fun h => absurd h (by omega)⟩ (HT2.out.1 rfl)
          · replace zb : b.length ≤ 0 := by omega
            by_cases zl : 0 < l.length
            · go_wp2_with fail
              go_meet
              case rel =>
                refine ⟨congrArg Value.bool ?_, hbc⟩
                cases T2
                · have h := HT2.out.2 rfl
                  unfold Kind2 at h
                  first | rfl | (exfalso; omega) | (simp only [Bool.or_eq_false_iff, decide_eq_false_iff_not]; omega)
                · first | rfl | (have hx := HT2.out.1 rfl; exfalso; apply hx; unfold Kind2; omega) | (have hx := HT2.out.1 rfl; exfalso; apply hx; refine ⟨?_, ?_, ?_, fun h => ?_⟩ <;> omega) | exact absurd ⟨by omega, by omega, by omega, fun h => absurd h (by omega)⟩ (HT2.out.1 rfl)
            · replace zl : l.length ≤ 0 := by omega
              by_cases zf : 0 < f.length
              · go_wp2_with fail
                go_meet
                case rel =>
                  refine ⟨congrArg Value.bool ?_, hbc⟩
                  cases T2
                  · have h := HT2.out.2 rfl
                    unfold Kind2 at h
                    first | rfl | (exfalso; omega) | (simp only [Bool.or_eq_false_iff, decide_eq_false_iff_not]; omega)
                  · first | rfl | (have hx := HT2.out.1 rfl; exfalso; apply hx; unfold Kind2; omega) | (have hx := HT2.out.1 rfl; exfalso; apply hx; refine ⟨?_, ?_, ?_, fun h => ?_⟩ <;> omega) | exact absurd ⟨by omega, by omega, by omega, fun h => absurd h (by omega)⟩ (HT2.out.1 rfl)
              · replace zf : f.length ≤ 0 := by omega
                go_wp2_with fail
                go_meet
                case rel =>
                  refine ⟨congrArg Value.bool ?_, hbc⟩
                  cases T2
                  · have h := HT2.out.2 rfl
                    unfold Kind2 at h
                    first | rfl | (exfalso; omega) | (simp only [Bool.or_eq_false_iff, decide_eq_false_iff_not]; omega)
                  · first | rfl | (have hx := HT2.out.1 rfl; exfalso; apply hx; unfold Kind2; omega) | (have hx := HT2.out.1 rfl; exfalso; apply hx; refine ⟨?_, ?_, ?_, fun h => ?_⟩ <;> omega) | exact absurd ⟨by omega, by omega, by omega, fun h => absurd h (by omega)⟩ (HT2.out.1 rfl)
      case rest =>
        obtain ⟨rfl, hbc⟩ := hcut
        cases T2 with
        | true =>
          obtain rfl : R = false := eq_false_of fun h => HT2.out.1 rfl (HR.out.1 h).2.1
          go_wp2_with fail
          go_ret
          exact ⟨rfl, below_of_alloc hbc⟩
        | false =>
          have h2 : Kind2 k b l f := HT2.out.2 rfl
          have H2 := Lib.hid h2
          clear h2 HT2
          go_upto_block 0 with fail
          go_cut [] (fun wc => (∀ i (h : i < l.length), Formed l[i]) ∧ Below (w.heap.size + 1) (w.alloc X) wc)
          case first =>
            go_wp2_with fail
            go_loopg [3] l.length (fun g t3 wr => ∃ i : Nat, i ≤ l.length ∧ t3 = .int .i64 i ∧ (∀ j (h : j < l.length), j < i → Formed l[j]) ∧ l.length ≤ i + g ∧ Below (w.heap.size + 1) (w.alloc X) wr)
            case atStart => exact ⟨0, by omega, rfl, fun j _ h => absurd h (by omega), by omega, hbc⟩
            case round =>
              clear hbc
              obtain ⟨i, hi, rfl, hw, hg, hbw⟩ := hrel
              have HW := Lib.hid hw
              clear hw
              have hblk := blk_alloc hbw
              rw [← HX.out] at hblk
              have c3 := cell_blk hblk 3
              clear hblk
              by_cases hlt : i < l.length
              · have hLw := hL.kept (Keeps.of_below (below_of_alloc hbw) _ fun _ _ h => h)
                obtain ⟨bb, o, x0, x1, x2, x3, x4, hAd, hLi, e0, e1, e2, e3, e4⟩ := hLw.at5 hlt
                have hRi : Rep0 wr l[i] [x0, x1, x2, x3, x4] := by rw [← hLi]; exact Rep0.below (below_of_alloc hbw) (hLs i hlt)
                clear hLi hLw
                subst hAd
                go_wp2_with fail
                refine (ihl i hlt _ _ hRi).mono ?_
                rintro e w1 ⟨rfl, hb1⟩
                cases hs : formedB l[i] with
                | true =>
                  have hs' := formedB_true.1 hs
                  have HS := Lib.hid hs'
                  clear hs hs'
                  go_wp2_with fail
                  go_roundg (gk - 1)
                  case measure => omega
                  case rel =>
                    refine ⟨i + 1, by omega, by go_num, fun j h hj => ?_, by omega, below_alloc_trans hbw hb1⟩
                    by_cases e : j = i
                    · subst e; exact HS.out
                    · exact HW.out j h (by omega)
                | false =>
                  obtain rfl : R = false := eq_false_of fun h => formedB_false.1 hs ((HR.out.1 h).2.2.1 i hlt)
                  clear hs
                  go_wp2_with fail
                  go_ret
                  exact ⟨rfl, below_of_alloc (below_alloc_trans hbw hb1)⟩
              · go_wp2_with fail
                go_meet
                case rel => exact ⟨fun j h => HW.out j h (by omega), hbw⟩
          case rest =>
            clear hbc
            obtain ⟨hfl, hbc⟩ := hcut
            have HFL := Lib.hid hfl
            clear hfl
            go_wp2_with fail
            go_loopg [4, 5] f.length (fun g t4 t5 wr => ∃ i : Nat, i ≤ f.length ∧ t4 = .int .i64 i ∧ (∀ j (h : j < f.length), j < i → nameR (f[j]).1 = true ∧ Formed (f[j]).2 ∧ ∀ m (hm : m < j), (f[m]).1 ≠ (f[j]).1) ∧ f.length ≤ i + g ∧ Below (w.heap.size + 1) (w.alloc X) wr)
            case atStart => exact ⟨0, by omega, rfl, fun j _ h => absurd h (by omega), by omega, hbc⟩
            case round =>
              clear hbc
              obtain ⟨i, hi, rfl, hw, hg, hbw⟩ := hrel
              have HW := Lib.hid hw
              clear hw
              have hblk := blk_alloc hbw
              rw [← HX.out] at hblk
              have c4 := cell_blk hblk 4
              clear hblk
              by_cases hlt : i < f.length
              · have hLw := hF.kept (Keeps.of_below (below_of_alloc hbw) _ fun _ _ h => h)
                have HLW := Lib.hid hLw
                obtain ⟨bb, o, s, x0, x1, x2, x3, x4, hAd, hLi, e, e0, e1, e2, e3, e4⟩ := hLw.at6 hlt
                have hRi : Rep0 wr (f[i]).2 [x0, x1, x2, x3, x4] := by rw [← (List.cons.inj hLi).2]; exact Rep0.below (below_of_alloc hbw) (hFs i hlt)
                have hsn := (List.cons.inj hLi).1
                rw [getD_at hlt] at hsn
                subst hsn
                clear hLi hLw
                subst hAd
                go_wp2_with fail
                refine (name_any (f[i]).1 _ (hfn i hlt)).mono ?_
                rintro e' w1 ⟨rfl, hb1⟩
                cases hnm : nameR (f[i]).1 with
                | false =>
                  obtain rfl : R = false := eq_false_of fun h => by
                    have := ((HR.out.1 h).2.2.2 i hlt).1
                    rw [hnm] at this
                    cases this
                  clear hnm
                  go_wp2_with fail
                  go_ret
                  exact ⟨rfl, below_of_alloc (below_alloc_trans hbw hb1)⟩
                | true =>
                  have HNM := Lib.hid hnm
                  clear hnm
                  have hRi1 := Rep0.below hb1 hRi
                  have hbw1 := below_alloc_trans hbw hb1
                  have hblk := blk_alloc hbw1
                  rw [← HX.out] at hblk
                  have d4 := cell_blk hblk 4
                  have e' := below_cell hb1 e
                  have e0' := below_cell hb1 e0
                  have e1' := below_cell hb1 e1
                  have e2' := below_cell hb1 e2
                  have e3' := below_cell hb1 e3
                  have e4' := below_cell hb1 e4
                  clear hblk hRi c4 e e0 e1 e2 e3 e4 hbw hb1
                  go_wp2_with fail
                  refine (ihf i hlt _ _ hRi1).mono ?_
                  rintro e'' w2 ⟨rfl, hb2⟩
                  clear d4 e' e0' e1' e2' e3' e4'
                  have hbw2 := below_alloc_trans hbw1 hb2
                  clear hbw1 hb2 hRi1
                  cases hs : formedB (f[i]).2 with
                  | false =>
                    obtain rfl : R = false := eq_false_of fun h => formedB_false.1 hs ((HR.out.1 h).2.2.2 i hlt).2.1
                    clear hs
                    go_wp2_with fail
                    go_ret
                    exact ⟨rfl, below_of_alloc hbw2⟩
                  | true =>
                    have hs' := formedB_true.1 hs
                    have HS := Lib.hid hs'
                    clear hs hs'
                    obtain ⟨wo, hwo⟩ : ∃ wo, wo = wr := ⟨_, rfl⟩
                    subst hwo
                    obtain ⟨G0, hG0⟩ : ∃ G, G = gk := ⟨_, rfl⟩
                    subst hG0
                    have hgo := hg
                    go_wp2_with fail
                    go_loopg [5] i (fun g t5 wr => ∃ m : Nat, m ≤ i ∧ t5 = .int .i64 m ∧ (∀ j (h : j < i), j < m → (f[j]).1 ≠ (f[i]).1) ∧ i ≤ m + g ∧ Below (w.heap.size + 1) (w.alloc X) wr)
                    case atStart => exact ⟨0, by omega, rfl, fun j _ h => absurd h (by omega), by omega, hbw2⟩
                    case round =>
                      clear hbw2
                      obtain ⟨m, hm, rfl, hw, hg, hbw⟩ := hrel
                      have HM := Lib.hid hw
                      clear hw
                      by_cases hmi : m < i
                      · have hmf : m < f.length := by omega
                        have hblk := blk_alloc hbw
                        rw [← HX.out] at hblk
                        have c4 := cell_blk hblk 4
                        have hLw := hF.kept (Keeps.of_below (below_of_alloc hbw) _ fun _ _ h => h)
                        obtain ⟨bb2, o2, s2, x0', x1', x2', x3', x4', hAd, hLm, g, -⟩ := hLw.at6 hmf
                        obtain ⟨bb3, o3, s3, x0'', x1'', x2'', x3'', x4'', hAd2, hLi, g2, -⟩ := hLw.at6 hlt
                        have hsn := (List.cons.inj hLm).1
                        rw [getD_at hmf] at hsn
                        have hsn2 := (List.cons.inj hLi).1
                        rw [getD_at hlt] at hsn2
                        injection hAd with hAd
                        injection hAd with hAd1 hAd3
                        injection hAd2 with hAd2
                        injection hAd2 with hAd4 hAd5
                        subst hsn hsn2 hAd1 hAd3 hAd4 hAd5
                        clear hLm hLi hLw hblk
                        go_upto_region 18 with fail
                        by_cases hname : (f[m]).1 = (f[i]).1
                        · obtain rfl : R = false := eq_false_of fun h => ((HR.out.1 h).2.2.2 i hlt).2.2 m hmi hname
                          rw [hname] at g
                          clear hname
                          go_quiet (fail)
                          go_wp2_with fail
                          go_ret
                          exact ⟨rfl, (below_of_alloc hbw).trans (below_drewN _ _ _)⟩
                        · have hs := str_beq hname
                          have HNE := Lib.hid hname
                          clear hname
                          go_quiet (fail)
                          go_wp2_with fail
                          go_roundg (gk - 1)
                          case measure => omega
                          case rel =>
                            refine ⟨m + 1, by omega, by go_num, fun j h hj => ?_, by omega, hbw.trans (below_drewN _ _ _)⟩
                            by_cases e : j = m
                            · subst e; exact HNE.out
                            · exact HM.out j h (by omega)
                      · go_wp2_with fail
                        go_roundg (G0 - 1)
                        case measure => omega
                        case rel =>
                          refine ⟨i + 1, by omega, by go_num, fun j h hj => ?_, by omega, hbw⟩
                          by_cases e : j = i
                          · subst e; exact ⟨HNM.out, HS.out, fun q hq => HM.out q hq (by omega)⟩
                          · exact HW.out j h (by omega)
              · obtain rfl : R = true := HR.out.2 ⟨H1.out, H2.out, HFL.out, fun j h => HW.out j h (by omega)⟩
                go_wp2_with fail
                go_ret
                exact ⟨rfl, below_of_alloc hbw⟩
end Go.Proofs.YtljdfainnmpjnaaDoor
