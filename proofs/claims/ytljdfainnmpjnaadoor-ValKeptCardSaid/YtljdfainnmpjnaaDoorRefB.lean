/- The reference's reader of values: numbers, texts, bytes; what is too deep. -/
import Derived.Test.YtljdfainnmpjnaaDoorRefA
import Derived.Deep.RegionLaw
set_option linter.unusedVariables false
namespace Go.Proofs.YtljdfainnmpjnaaDoor
open Go.RowKit

theorem refword_z (z s : Int) (at' size : Nat) (hz : z = at') (hs' : s = size) (bs : List UInt8) (A : Option Addr) (c : Nat) (w W : World) (hA : BRow0 w A bs) (hb : Below w.heap.size w W) (hl : bs.length ≤ 281474976710656) (h : at' + size ≤ bs.length) (hs : size ≤ 8) :
    Calls Tryd.prog 72 #[.slice A bs.length c, .int .i64 z, .int .i64 s] W fun e w' => e = .returned (.int .u64 (leNum ((bs.drop at').take size))) ∧ W = w' := by
  subst hz
  subst hs'
  exact refword_any at' size bs A c W (hA.below hb) hl h hs
/-- A part of a row. -/
theorem run_sub {w : World} {S : Nat → Prop} {A : Option Addr} {l : List UInt8} {c : Nat} (h : BRow w S A l) (lo n : Nat) (zl zh : Int) (hzl : zl = lo) (hzh : zh = lo + n) (h2 : lo + n ≤ l.length) (hc : l.length ≤ c) :
    ∃ A', (∀ W, (Instr.slice 22 (.slice A l.length c) (some (.int .i64 zl)) (some (.int .i64 zh)) none).run Tryd.prog W = .ok (.slice A' n (c - lo)) W) ∧ BRow w S A' ((l.drop lo).take n) := by
  subst hzl
  subst hzh
  refine ⟨if c = lo then A else A.map fun x => x.add lo, fun W => ?_, ?_⟩
  · rw [run_slice_lh W 22 A l.length c (by kernel_rfl) .i64 .i64 (lo : Int) ((lo : Int) + (n : Int)) (by omega) (by omega) (by omega)]
    simp [go_sem, sliced]
    omega
  · by_cases e : c = lo
    · rw [if_pos e, List.drop_of_length_le (by omega), List.take_nil]
      exact Row.nil w S _ 1 _
    · rw [if_neg e]
      exact btake (bdrop' h lo) n

set_option maxRecDepth 100000 in
set_option maxHeartbeats 2000000 in
theorem ref_3 (k : Int) (hk : k = 3 ∨ k = 4) (above : Int) (at' : Nat) (bs : List UInt8) (A : Option Addr) (c : Nat) (w : World) (hA : BRow0 w A bs) (hl : bs.length ≤ 4096) (h : at' < bs.length) (hx : (bs[at']).toNat = k) :
    Calls Tryd.prog 43 #[.slice A bs.length c, .int .i64 at', .int .i64 above] w (RTells w bs (if (bs.drop (at' + 1)).length < 8 then .error 4 else .ok (.mk k (leNum ((bs.drop (at' + 1)).take 8)) [] [] [], (bs.drop (at' + 1)).drop 8))) := by
  have hA0 := hA
  obtain ⟨b, o, rfl, hc⟩ := byte_at hA h
  have hz : (at' : Int) < (bs.length : Int) := by omega
  have c0 : ∀ X Y, ((w.alloc X).alloc Y).cell? ⟨b, o + at', none⟩ = some (.int .u8 k) := fun X Y => by rw [hc _ (below2 w X Y) at' h, hx]
  clear hc hA
  by_cases h8 : (bs.drop (at' + 1)).length < 8
  · rw [if_pos h8]
    have hz8 : (bs.length : Int) < (at' : Int) + 1 + 8 := by simp only [List.length_drop] at h8; omega
    rcases hk with rfl | rfl
    all_goals
      go_enter Tryd.func43, Tryd.ntmps43
      go_wp2_with fail
      exact ref_bad (three_first _ _ _ _) (below3 _ _ _ _) _ _ _ rfl rfl rfl
  · rw [if_neg h8]
    simp only [List.length_drop] at h8
    have hz8 : ¬ (bs.length : Int) < (at' : Int) + 1 + 8 := by omega
    have cw := fun X Y Z => refword_z ((at' : Int) + 1) 8 (at' + 1) 8 (by omega) rfl bs _ c w _ hA0 (below3 w X Y Z) (by omega) (by omega) (by omega)
    have hN0 := leNum_nonneg ((bs.drop (at' + 1)).take 8)
    have hN1 := leNum_bound ((bs.drop (at' + 1)).take 8) 8 (by simp only [List.length_take]; omega)
    generalize leNum ((bs.drop (at' + 1)).take 8) = N at cw hN0 hN1 ⊢
    have CW := @Lib.hid _ @cw
    clear cw
    rcases hk with rfl | rfl
    all_goals
      go_enter Tryd.func43, Tryd.ntmps43
      go_wp2_with fail
      refine (CW.out _ _ _).mono ?_
      rintro e w1 ⟨rfl, rfl⟩
      go_wp2_with fail
      exact ref_good (three_first _ _ _ _) (below3 _ _ _ _) _ _ _ (at' + 1 + 8) (rep_atom (by omega) (by omega)) (by omega) (by rw [List.drop_drop]) _ rfl rfl rfl
set_option maxRecDepth 100000 in
set_option maxHeartbeats 1000000 in
theorem ref_deep (k : Int) (hk : k = 7 ∨ k = 8) (above : Int) (ha : 16 ≤ above) (at' : Nat) (bs : List UInt8) (A : Option Addr) (c : Nat) (w : World) (hA : BRow0 w A bs) (hl : bs.length ≤ 4096) (h : at' < bs.length) (hx : (bs[at']).toNat = k) :
    Calls Tryd.prog 43 #[.slice A bs.length c, .int .i64 at', .int .i64 above] w (RTells w bs (.error 3)) := by
  obtain ⟨b, o, rfl, hc⟩ := byte_at hA h
  have hz : (at' : Int) < (bs.length : Int) := by omega
  have c0 : ∀ X Y, ((w.alloc X).alloc Y).cell? ⟨b, o + at', none⟩ = some (.int .u8 k) := fun X Y => by rw [hc _ (below2 w X Y) at' h, hx]
  clear hc hA
  rcases hk with rfl | rfl
  all_goals
    go_enter Tryd.func43, Tryd.ntmps43
    go_wp2_with fail
    exact ref_bad (three_first _ _ _ _) (below3 _ _ _ _) _ _ _ rfl rfl rfl
end Go.Proofs.YtljdfainnmpjnaaDoor
