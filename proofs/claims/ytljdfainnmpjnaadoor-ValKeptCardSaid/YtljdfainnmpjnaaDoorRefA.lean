/- The reference's reader of values: what is no list and no document. -/
import Derived.Test.YtljdfainnmpjnaaDoorRefGet
import Derived.Deep.DeepCutAuto
set_option linter.unusedVariables false
namespace Go.Proofs.YtljdfainnmpjnaaDoor
open Go.RowKit

/-- Facts on the bytes at a place, in the worlds that the walk goes through. -/
theorem byte_at {w : World} {A : Option Addr} {bs : List UInt8} {at' : Nat} (hA : BRow0 w A bs) (h : at' < bs.length) :
    ∃ b o, A = some ⟨b, o, none⟩ ∧ (∀ W, Below w.heap.size w W → ∀ i (hi : i < bs.length), W.cell? ⟨b, o + i, none⟩ = some (.int .u8 (bs[i]).toNat)) := by
  obtain ⟨b, o, rfl, -, -, hc⟩ := hA.at (by omega)
  refine ⟨b, o, rfl, fun W hb i hi => ?_⟩
  have := hc i hi
  rw [getD_at hi] at this
  exact below_cell hb this
theorem below1 (w : World) (X : Obj) : Below w.heap.size w (w.alloc X) := (Below.refl _ _).alloc (Nat.le_refl _) _
theorem below2 (w : World) (X Y : Obj) : Below w.heap.size w ((w.alloc X).alloc Y) := (below1 w X).alloc (by simp) _


set_option maxRecDepth 100000 in
theorem leNum_bound (l : List UInt8) (n : Nat) (h : l.length ≤ n) : leNum l < 256 ^ n := by
  have h1 := leNum_lt l
  have h2 : (256 : Int) ^ l.length ≤ 256 ^ n := by
    have := Nat.pow_le_pow_right (n := 256) (by omega) h
    exact_mod_cast this
  omega
set_option maxRecDepth 100000 in
theorem or_high (a x : Int) (ha0 : 0 ≤ a) (ha : a < 72057594037927936) (hx0 : 0 ≤ x) (hx : x < 256) : bits .or .u64 (a * 256) x = a * 256 + x := by
  obtain ⟨A, rfl⟩ := Int.eq_ofNat_of_zero_le ha0
  obtain ⟨X, rfl⟩ := Int.eq_ofNat_of_zero_le hx0
  have e : ((A : Int) * 256) = ((A * 256 : Nat) : Int) := by push_cast; rfl
  rw [e, u64_or_nat _ _ (by omega) (by omega)]
  have : A * 256 ||| X = A * 256 + X := by
    have := Nat.two_pow_add_eq_or_of_lt (i := 8) (b := X) (by omega) A
    rw [Nat.mul_comm A 256]
    exact this.symm
  rw [this]
  push_cast
  rfl
theorem leNum_cons_at {l : List UInt8} {i n : Nat} (h : i < l.length) : leNum ((l.drop i).take (n + 1)) = (l[i]).toNat + 256 * leNum ((l.drop (i + 1)).take n) := by
  rw [List.drop_eq_getElem_cons h, List.take_succ_cons, leNum]

set_option maxRecDepth 100000 in
set_option maxHeartbeats 1000000 in
/-- The reference's number of bytes. -/
theorem refword_any (at' size : Nat) (bs : List UInt8) (A : Option Addr) (c : Nat) (w : World) (hA : BRow0 w A bs) (hl : bs.length ≤ 281474976710656) (h : at' + size ≤ bs.length) (hs : size ≤ 8) :
    Calls Tryd.prog 72 #[.slice A bs.length c, .int .i64 at', .int .i64 size] w fun e w' => e = .returned (.int .u64 (leNum ((bs.drop at').take size))) ∧ w = w' := by
  go_enter Tryd.func72, Tryd.ntmps72
  go_wp2_with fail
  go_loopg [7, 8] size (fun g t7 t8 wr => ∃ i : Nat, i ≤ size ∧ t8 = .int .i64 ((i : Int) - 1) ∧ t7 = .int .u64 (leNum ((bs.drop (at' + i)).take (size - i))) ∧ i ≤ g ∧ w = wr)
  case atStart => exact ⟨size, Nat.le_refl _, rfl, by rw [Nat.sub_self]; rfl, Nat.le_refl _, rfl⟩
  case round =>
    obtain ⟨i, hi, rfl, rfl, hg, rfl⟩ := hrel
    cases i with
    | succ i =>
      obtain ⟨bb, o, rfl, _, _, hc⟩ := hA.at (by omega)
      have ci := hc (at' + i) (by omega)
      rw [getD_at (by omega)] at ci
      have hx : ((bs[at' + i]'(by omega)).toNat : Int) < 256 := by have := (bs[at' + i]'(by omega)).toNat_lt; omega
      have hstep := leNum_cons_at (l := bs) (i := at' + i) (n := size - (i + 1)) (by omega)
      have e1 : size - (i + 1) + 1 = size - i := by omega
      have e2 : at' + i + 1 = at' + (i + 1) := by omega
      rw [e1, e2] at hstep
      have hN0 := leNum_nonneg ((bs.drop (at' + (i + 1))).take (size - (i + 1)))
      have hN1 := leNum_bound ((bs.drop (at' + (i + 1))).take (size - (i + 1))) 7 (by simp only [List.length_take]; omega)
      generalize leNum ((bs.drop (at' + (i + 1))).take (size - (i + 1))) = N at hstep hN0 hN1 ⊢
      generalize hxx : ((bs[at' + i]'(by omega)).toNat : Int) = x at ci hx hstep
      have hx0 : 0 ≤ x := by omega
      have hor := or_high N x hN0 (by omega) hx0 hx
      have HS := Lib.hid hstep
      clear hstep hxx hc e1 e2
      have ei : ((i + 1 : Nat) : Int) - 1 = (i : Int) := by omega
      rw [ei]
      clear ei
      have hNb : N * 256 < 18446744073709551616 := by omega
      have hwN : IntKind.u64.wrap (N * 256) = N * 256 := by simp only [IntKind.wrap_u64]; omega
      go_wp2_with fail
      go_roundg (gk - 1)
      case measure => omega
      case rel =>
        refine ⟨i, by omega, rfl, ?_, by omega, rfl⟩
        rw [HS.out]
        congr 1
        omega
    | zero =>
      go_wp2_with fail
      go_ret
      exact ⟨rfl, rfl⟩

/-- The end with a fault, in a world that the walk has written out. -/
theorem ref_bad {w W : World} (hb : W.heap[w.heap.size]? = some (.cells vzero 27 (0, 0))) (hw : Below w.heap.size w W) (bs : List UInt8) (c : Int) (tmps : Array Value)
    (h6 : tmps[6]?.getD undef = .pointer (some ⟨w.heap.size, 0, none⟩)) (h7 : tmps[7]?.getD undef = .int .i64 0) (h8 : tmps[8]?.getD undef = .int .i64 c) :
    bodyPost Tryd.prog Tryd.f43 (RTells w bs (.error c)) .ret { tmps := tmps, defers := [] } W :=
  bodyPost_ret (ref_done hb tmps h6 h7 h8) rfl (RTells.no hw)
theorem ref_good {w W : World} {c0 c1 c2 c3 c4 : Value} (hb : W.heap[w.heap.size]? = some (.cells #[c0, c1, c2, c3, c4] 27 (0, 0))) (hw : Below w.heap.size w W) (bs rest : List UInt8) (v : V) (n : Nat)
    (hr : Rep W (fun k => w.heap.size ≤ k) v [c0, c1, c2, c3, c4]) (hn : n ≤ bs.length) (hrest : rest = bs.drop n)
    (tmps : Array Value) (h6 : tmps[6]?.getD undef = .pointer (some ⟨w.heap.size, 0, none⟩)) (h7 : tmps[7]?.getD undef = .int .i64 n) (h8 : tmps[8]?.getD undef = .int .i64 0) :
    bodyPost Tryd.prog Tryd.f43 (RTells w bs (.ok (v, rest))) .ret { tmps := tmps, defers := [] } W :=
  bodyPost_ret (ref_done hb tmps h6 h7 h8) rfl (RTells.yes (cs := [c0, c1, c2, c3, c4]) hr hw hn hrest)
theorem two_first (w : World) (X Y : Array Value) : ((w.alloc (.cells X 27)).alloc (.cells Y 27)).heap[w.heap.size]? = some (.cells X 27 (0, 0)) := by
  rw [((Below.refl (w.heap.size + 1) (w.alloc (.cells X 27))).alloc (by simp) (.cells Y 27)).block _ (by omega)]
  exact heap_alloc_new w _
theorem three_first (w : World) (X Y Z : Array Value) : (((w.alloc (.cells X 27)).alloc (.cells Y 27)).alloc (.cells Z 27)).heap[w.heap.size]? = some (.cells X 27 (0, 0)) := by
  rw [((Below.refl (w.heap.size + 2) ((w.alloc (.cells X 27)).alloc (.cells Y 27))).alloc (by simp) (.cells Z 27)).block _ (by omega)]
  exact two_first w X Y
theorem below3 (w : World) (X Y Z : Obj) : Below w.heap.size w (((w.alloc X).alloc Y).alloc Z) := (below2 w X Y).alloc (by simp; omega) _

set_option maxRecDepth 100000 in
set_option maxHeartbeats 1000000 in
theorem ref_nil (above : Int) (at' : Nat) (bs : List UInt8) (A : Option Addr) (c : Nat) (w : World) (hl : bs.length ≤ 4096) (h : bs.length ≤ at') (h2 : at' ≤ 4096) :
    Calls Tryd.prog 43 #[.slice A bs.length c, .int .i64 at', .int .i64 above] w (RTells w bs (.error 4)) := by
  have hz : (bs.length : Int) ≤ (at' : Int) := by omega
  go_enter Tryd.func43, Tryd.ntmps43
  go_wp2_with fail
  exact ref_bad (two_first _ _ _) (below2 _ _ _) _ _ _ rfl rfl rfl
set_option maxRecDepth 100000 in
set_option maxHeartbeats 1000000 in
theorem ref_odd (above : Int) (at' : Nat) (bs : List UInt8) (A : Option Addr) (c : Nat) (w : World) (hA : BRow0 w A bs) (hl : bs.length ≤ 4096) (h : at' < bs.length) (hx : (bs[at']).toNat < 1 ∨ 8 < (bs[at']).toNat) :
    Calls Tryd.prog 43 #[.slice A bs.length c, .int .i64 at', .int .i64 above] w (RTells w bs (.error 4)) := by
  obtain ⟨b, o, rfl, hc⟩ := byte_at hA h
  have hz : (at' : Int) < (bs.length : Int) := by omega
  obtain ⟨x, hxx⟩ : ∃ x : Int, ((bs[at']).toNat : Int) = x := ⟨_, rfl⟩
  have hx : x < 1 ∨ 8 < x := by omega
  have c0 : ∀ X Y, ((w.alloc X).alloc Y).cell? ⟨b, o + at', none⟩ = some (.int .u8 x) := fun X Y => by rw [hc _ (below2 w X Y) at' h, hxx]
  clear hc hA hxx
  rcases hx with hx | hx
  · go_enter Tryd.func43, Tryd.ntmps43
    go_wp2_with fail
    exact ref_bad (two_first _ _ _) (below2 _ _ _) _ _ _ rfl rfl rfl
  · have hx1 : ¬ x < 1 := by omega
    go_enter Tryd.func43, Tryd.ntmps43
    go_wp2_with fail
    exact ref_bad (two_first _ _ _) (below2 _ _ _) _ _ _ rfl rfl rfl
set_option maxRecDepth 100000 in
set_option maxHeartbeats 1000000 in
theorem ref_1 (above : Int) (at' : Nat) (bs : List UInt8) (A : Option Addr) (c : Nat) (w : World) (hA : BRow0 w A bs) (hl : bs.length ≤ 4096) (h : at' < bs.length) (hx : (bs[at']).toNat = 1) :
    Calls Tryd.prog 43 #[.slice A bs.length c, .int .i64 at', .int .i64 above] w (RTells w bs (.ok (.mk 1 0 [] [] [], bs.drop (at' + 1)))) := by
  obtain ⟨b, o, rfl, hc⟩ := byte_at hA h
  have hz : (at' : Int) < (bs.length : Int) := by omega
  have c0 : ∀ X Y, ((w.alloc X).alloc Y).cell? ⟨b, o + at', none⟩ = some (.int .u8 1) := fun X Y => by rw [hc _ (below2 w X Y) at' h, hx]; rfl
  clear hc hA
  go_enter Tryd.func43, Tryd.ntmps43
  go_wp2_with fail
  exact ref_good (three_first _ _ _ _) (below3 _ _ _ _) _ _ _ (at' + 1) (rep_atom (by omega) (by omega)) (by omega) rfl _ rfl rfl rfl
set_option maxRecDepth 100000 in
set_option maxHeartbeats 1000000 in
theorem ref_2 (above : Int) (at' : Nat) (bs : List UInt8) (A : Option Addr) (c : Nat) (w : World) (hA : BRow0 w A bs) (hl : bs.length ≤ 4096) (h : at' < bs.length) (hx : (bs[at']).toNat = 2) :
    Calls Tryd.prog 43 #[.slice A bs.length c, .int .i64 at', .int .i64 above] w (RTells w bs (body none 2 (bs.drop (at' + 1)))) := by
  obtain ⟨b, o, rfl, hc⟩ := byte_at hA h
  have hz : (at' : Int) < (bs.length : Int) := by omega
  have c0 : ∀ X Y, ((w.alloc X).alloc Y).cell? ⟨b, o + at', none⟩ = some (.int .u8 2) := fun X Y => by rw [hc _ (below2 w X Y) at' h, hx]; rfl
  obtain ⟨G, hG⟩ : ∃ G, body none 2 (bs.drop (at' + 1)) = G := ⟨_, rfl⟩
  rw [hG]
  by_cases h1 : at' + 1 < bs.length
  · rw [List.drop_eq_getElem_cons h1] at hG
    have e8 : body none 2 (bs[at' + 1] :: bs.drop (at' + 1 + 1)) = if (bs[at' + 1]).toNat ≤ 1 then .ok (.mk 2 (bs[at' + 1]).toNat [] [] [], bs.drop (at' + 1 + 1)) else .error 4 := rfl
    rw [e8] at hG
    clear e8
    have hz1 : (at' : Int) + 1 < (bs.length : Int) := by omega
    obtain ⟨y, hyy⟩ : ∃ y, (bs[at' + 1]).toNat = y := ⟨_, rfl⟩
    rw [hyy] at hG
    have c1 : ∀ X Y Z, (((w.alloc X).alloc Y).alloc Z).cell? ⟨b, o + (at' + 1), none⟩ = some (.int .u8 y) := fun X Y Z => by rw [hc _ (below3 w X Y Z) (at' + 1) h1, hyy]
    have hy256 : y < 256 := by have := (bs[at' + 1]).toNat_lt; omega
    clear hyy hc hA
    by_cases hy : y ≤ 1
    · rw [if_pos hy] at hG
      subst hG
      have hyz : ¬ (1 : Int) < (y : Int) := by omega
      have hw : IntKind.u64.wrap (y : Int) = (y : Int) := by simp only [IntKind.wrap_u64]; omega
      go_enter Tryd.func43, Tryd.ntmps43
      go_wp2_with fail
      exact ref_good (three_first _ _ _ _) (below3 _ _ _ _) _ _ _ (at' + 1 + 1) (rep_atom (by omega) (by omega)) (by omega) rfl _ rfl rfl rfl
    · rw [if_neg hy] at hG
      subst hG
      have hyz : (1 : Int) < (y : Int) := by omega
      go_enter Tryd.func43, Tryd.ntmps43
      go_wp2_with fail
      exact ref_bad (three_first _ _ _ _) (below3 _ _ _ _) _ _ _ rfl rfl rfl
  · rw [List.drop_of_length_le (by omega)] at hG
    have hG : Except.error 4 = G := hG
    subst hG
    have hz1 : (bs.length : Int) ≤ (at' : Int) + 1 := by omega
    clear hc hA
    go_enter Tryd.func43, Tryd.ntmps43
    go_wp2_with fail
    exact ref_bad (three_first _ _ _ _) (below3 _ _ _ _) _ _ _ rfl rfl rfl
end Go.Proofs.YtljdfainnmpjnaaDoor
