/- The program's reader of values: must, take, byte, many, and the number of bytes. -/
import Derived.Test.YtljdfainnmpjnaaDoorLay
import Derived.Deep.DeepCutAuto
set_option linter.unusedVariables false
namespace Go.Proofs.YtljdfainnmpjnaaDoor
open Go.RowKit

/-- What a call that gives up throws. -/
abbrev thrown (e : Int) : Ending := .panicked [{ v := .iface 28 (.int .i64 e), recovered := false }]

theorem must_ok (e : Int) (w : World) : Calls Tryd.prog 42 #[.bool true, .int .i64 e] w fun x w' => x = .returned (.tuple #[]) ∧ w = w' := by
  go_enter Tryd.func42, Tryd.ntmps42
  go_wp2_with fail
  go_end0
  exact ⟨rfl, rfl⟩
theorem must_no (e : Int) (w : World) : Calls Tryd.prog 42 #[.bool false, .int .i64 e] w fun x w' => x = thrown e ∧ w = w' := by
  go_enter Tryd.func42, Tryd.ntmps42
  go_wp2_with fail
  exact ⟨rfl, rfl, rfl⟩

/-- The reader's block r reads on at bs. -/
structure Reads (w : World) (S : Nat → Prop) (r : Nat) (bs : List UInt8) : Prop where
  blk : ∃ A c, w.heap[r]? = some (.cells #[.slice A bs.length c] 70 (0, 0)) ∧ BRow w S A bs ∧ bs.length ≤ c ∧ c ≤ 9223372036854775807
  notS : ¬ S r
  len : bs.length ≤ 281474976710656

theorem bdrop {w : World} {S : Nat → Prop} {b o : Nat} {bs : List UInt8} (h : BRow w S (some ⟨b, o, none⟩) bs) (k : Nat) : BRow w S (some ⟨b, o + k, none⟩) (bs.drop k) := by
  by_cases h0 : 0 < bs.length
  · obtain ⟨b', o', hA, hS, hl, hc⟩ := h.at h0
    cases hA
    refine BRow.of hS hl fun i hi => ?_
    simp only [List.length_drop] at hi
    rw [Nat.add_assoc, hc (k + i) (by omega)]
    congr 3
    rw [getD_at (by omega), getD_at (by simp; omega), List.getElem_drop]
  · obtain rfl : bs = [] := List.eq_nil_of_length_eq_zero (by omega)
    rw [List.drop_nil]
    exact Row.nil w S _ 1 _
theorem btake {w : World} {S : Nat → Prop} {A : Option Addr} {bs : List UInt8} (h : BRow w S A bs) (k : Nat) : BRow w S A (bs.take k) := by
  intro hn
  have h0 : 0 < bs.length := by simp only [List.length_take] at hn; omega
  obtain ⟨b, o, hA, hS, hl, hc⟩ := h.at h0
  refine ⟨b, o, hA, hS, hl, fun i hi => ⟨rfl, fun j hj => ?_⟩⟩
  obtain rfl : j = 0 := by omega
  simp only [List.length_take] at hi
  have := hc i (by omega)
  rw [getD_at (by omega)] at this
  simp only [Nat.mul_one, Nat.add_zero, List.getElem?_cons_zero]
  rw [getD_at (by simp; omega), List.getElem_take]
  exact this

theorem bdrop' {w : World} {S : Nat → Prop} {A : Option Addr} {bs : List UInt8} (h : BRow w S A bs) (k : Nat) : BRow w S (A.map fun x => x.add k) (bs.drop k) := by
  by_cases h0 : 0 < bs.length
  · obtain ⟨b', o', rfl, hS, hl, hc⟩ := h.at h0
    have e : (⟨b', o', none⟩ : Addr).add k = ⟨b', o' + k, none⟩ := by unfold Addr.add; split <;> simp_all
    simp only [Option.map_some, e]
    exact bdrop h k
  · obtain rfl : bs = [] := List.eq_nil_of_length_eq_zero (by omega)
    rw [List.drop_nil]
    exact Row.nil w S _ 1 _
theorem grown_setCell (w : World) (p : Addr) (v : Value) : w.grownBy (w.setCell p v) (some p.block) :=
  ⟨rfl, rfl, rfl, by simp [World.setCell], fun k _ hk => Below.heap_setCell w p v k (fun e => hk (by rw [e]))⟩
theorem blk_setCell {w : World} {r : Nat} {v0 v : Value} {T : TypeId} (h : w.heap[r]? = some (.cells #[v0] T (0, 0))) : (w.setCell ⟨r, 0, none⟩ v).heap[r]? = some (.cells #[v] T (0, 0)) := by
  simp [World.setCell, Array.getElem?_modify, h]
theorem Reads.step {w w' : World} {S : Nat → Prop} {r : Nat} {bs : List UInt8} {A' : Option Addr} {n m c' : Nat} (h : Reads w S r bs) (hg : w.grownBy w' (some r))
    (hb : w'.heap[r]? = some (.cells #[.slice A' m c'] 70 (0, 0))) (hm : m = bs.length - n) (hA : BRow w S A' (bs.drop n)) (hc : bs.length - n ≤ c') (hc2 : c' ≤ 9223372036854775807) : Reads w' S r (bs.drop n) := by
  have hl := h.len
  subst hm
  exact ⟨⟨A', c', by simpa using hb, hA.grown hg (fun k hk => by cases hk; exact h.notS), by simpa using hc, hc2⟩, h.notS, by simp only [List.length_drop]; omega⟩

set_option maxRecDepth 100000 in
set_option maxHeartbeats 1000000 in
theorem take_no (S : Nat → Prop) (r : Nat) (bs : List UInt8) (n : Int) (w : World) (hR : Reads w S r bs) (hn : (bs.length : Int) < n) :
    Calls Tryd.prog 68 #[.pointer (some ⟨r, 0, none⟩), .int .i64 n] w fun e w' => e = thrown 4 ∧ w = w' := by
  obtain ⟨A, c, hb, hr, hc⟩ := hR.blk
  have c0 := cell_blk hb 0
  have hl := hR.len
  have hd : decide (n ≤ (bs.length : Int)) = false := decide_eq_false (by omega)
  go_enter Tryd.func68, Tryd.ntmps68
  go_wp2_with fail
  refine (must_no _ _).mono ?_
  rintro e w1 ⟨rfl, rfl⟩
  go_wp2_with fail
  exact ⟨rfl, rfl, rfl⟩

set_option maxRecDepth 100000 in
set_option maxHeartbeats 1000000 in
theorem take_ok (S : Nat → Prop) (r : Nat) (bs : List UInt8) (n : Nat) (w : World) (hR : Reads w S r bs) (hn : n ≤ bs.length) :
    Calls Tryd.prog 68 #[.pointer (some ⟨r, 0, none⟩), .int .i64 n] w fun e w' => ∃ A, e = .returned (.slice A n n) ∧ BRow w' S A (bs.take n) ∧ Reads w' S r (bs.drop n) ∧ w.grownBy w' (some r) ∧ w'.heap.size = w.heap.size := by
  obtain ⟨A, c, hb, hr, hc1, hc2⟩ := hR.blk
  have c0 := cell_blk hb 0
  have f0 := frozen_blk hb 0
  have hl := hR.len
  have hn' : (n : Int) ≤ (bs.length : Int) := by omega
  go_enter Tryd.func68, Tryd.ntmps68
  go_wp2_with fail
  refine (must_ok _ _).mono ?_
  rintro e w1 ⟨rfl, rfl⟩
  go_wp2_with fail
  · go_ret
    obtain rfl := h
    have hg := grown_setCell w ⟨r, 0, none⟩ (.slice A (bs.length - c) 0)
    refine ⟨A, rfl, (btake hr c).grown hg (fun k hk => by cases hk; exact hR.notS), hR.step hg (blk_setCell hb) rfl ?_ (by omega) (by omega), hg, by simp [World.setCell]⟩
    rw [List.drop_of_length_le (by omega)]
    exact Row.nil w S _ 1 _
  · go_ret
    have hg := grown_setCell w ⟨r, 0, none⟩ (.slice (Option.map (fun x => x.add n) A) (bs.length - n) (c - n))
    exact ⟨A, rfl, (btake hr n).grown hg (fun k hk => by cases hk; exact hR.notS), hR.step hg (blk_setCell hb) rfl (bdrop' hr n) (by omega) (by omega), hg, by simp [World.setCell]⟩

theorem Reads.grown {w w' : World} {S : Nat → Prop} {r : Nat} {bs : List UInt8} (h : Reads w S r bs) (hb : Below w.heap.size w w') : Reads w' S r bs := by
  obtain ⟨A, c, h1, h2, h3, h4⟩ := h.blk
  exact ⟨⟨A, c, by rw [hb.block _ (Array.getElem?_eq_some_iff.1 h1).1]; exact h1, h2.belowS hb, h3, h4⟩, h.notS, h.len⟩

set_option maxRecDepth 100000 in
set_option maxHeartbeats 1000000 in
theorem byte_no (S : Nat → Prop) (r : Nat) (w : World) (hR : Reads w S r []) :
    Calls Tryd.prog 66 #[.pointer (some ⟨r, 0, none⟩)] w fun e w' => e = thrown 4 ∧ w = w' := by
  go_enter Tryd.func66, Tryd.ntmps66
  go_wp2_with fail
  refine (take_no S r [] 1 _ hR (by simp)).mono ?_
  rintro e w1 ⟨rfl, rfl⟩
  exact ⟨rfl, rfl, rfl⟩
set_option maxRecDepth 100000 in
set_option maxHeartbeats 1000000 in
theorem byte_ok (S : Nat → Prop) (r : Nat) (x : UInt8) (bs : List UInt8) (w : World) (hR : Reads w S r (x :: bs)) :
    Calls Tryd.prog 66 #[.pointer (some ⟨r, 0, none⟩)] w fun e w' => e = .returned (.int .i64 x.toNat) ∧ Reads w' S r bs ∧ w.grownBy w' (some r) ∧ w'.heap.size = w.heap.size := by
  go_enter Tryd.func66, Tryd.ntmps66
  go_wp2_with fail
  refine (take_ok S r (x :: bs) 1 _ hR (by simp)).mono ?_
  rintro e w1 ⟨A, rfl, hr, hr1, hg, hs⟩
  obtain ⟨b, o, rfl, -, -, hc⟩ := hr.at (by simp)
  have c0 := hc 0 (by simp)
  have hx : (x.toNat : Int) < 256 := by have := x.toNat_lt; omega
  simp only [List.take_succ_cons, List.take_zero, List.getD_cons_zero, Nat.add_zero] at c0
  clear hc hr
  simp only [List.drop_succ_cons, List.drop_zero] at hr1
  go_wp2_with fail
  go_ret
  exact ⟨rfl, hr1, hg, hs⟩
set_option maxRecDepth 100000 in
theorem many_no0 (S : Nat → Prop) (r : Nat) (w : World) (hR : Reads w S r []) :
    Calls Tryd.prog 70 #[.pointer (some ⟨r, 0, none⟩)] w fun e w' => e = thrown 4 ∧ w = w' := by
  go_enter Tryd.func70, Tryd.ntmps70
  go_wp2_with fail
  refine (byte_no S r _ hR).mono ?_
  rintro e w1 ⟨rfl, rfl⟩
  exact ⟨rfl, rfl, rfl⟩
set_option maxRecDepth 100000 in
theorem many_no (S : Nat → Prop) (r : Nat) (x : UInt8) (bs : List UInt8) (w : World) (hR : Reads w S r (x :: bs)) (hx : 64 < x.toNat) :
    Calls Tryd.prog 70 #[.pointer (some ⟨r, 0, none⟩)] w fun e w' => e = thrown 19 ∧ w.grownBy w' (some r) ∧ w'.heap.size = w.heap.size := by
  have hd : decide ((x.toNat : Int) ≤ 64) = false := decide_eq_false (by omega)
  go_enter Tryd.func70, Tryd.ntmps70
  go_wp2_with fail
  refine (byte_ok S r x bs _ hR).mono ?_
  rintro e w1 ⟨rfl, hr1, hg, hs⟩
  go_wp2_with fail
  refine (must_no _ _).mono ?_
  rintro e w2 ⟨rfl, rfl⟩
  exact ⟨rfl, rfl, hg, hs⟩
set_option maxRecDepth 100000 in
theorem many_ok (S : Nat → Prop) (r : Nat) (x : UInt8) (bs : List UInt8) (w : World) (hR : Reads w S r (x :: bs)) (hx : x.toNat ≤ 64) :
    Calls Tryd.prog 70 #[.pointer (some ⟨r, 0, none⟩)] w fun e w' => e = .returned (.int .i64 x.toNat) ∧ Reads w' S r bs ∧ w.grownBy w' (some r) ∧ w'.heap.size = w.heap.size := by
  have hd : (x.toNat : Int) ≤ 64 := by omega
  go_enter Tryd.func70, Tryd.ntmps70
  go_wp2_with fail
  refine (byte_ok S r x bs _ hR).mono ?_
  rintro e w1 ⟨rfl, hr1, hg, hs⟩
  go_wp2_with fail
  refine (must_ok _ _).mono ?_
  rintro e w2 ⟨rfl, rfl⟩
  go_wp2_with fail
  go_ret
  exact ⟨rfl, hr1, hg, hs⟩

/-- The number of bytes, the lowest first. -/
def leNum : List UInt8 → Int
  | [] => 0
  | x :: r => x.toNat + 256 * leNum r
theorem leNum_nonneg : ∀ l, 0 ≤ leNum l
  | [] => by simp [leNum]
  | x :: r => by have := leNum_nonneg r; simp only [leNum]; omega

theorem leNum_lt : ∀ l : List UInt8, leNum l < 256 ^ l.length
  | [] => by simp [leNum]
  | x :: r => by
    have h := leNum_lt r
    have hx : (x.toNat : Int) < 256 := by have := x.toNat_lt; omega
    rw [List.length_cons, Int.pow_succ, leNum]
    generalize (256 : Int) ^ r.length = p at h
    omega
theorem leNum_take {bs : List UInt8} {i : Nat} (h : i < bs.length) : leNum (bs.take (i + 1)) = leNum (bs.take i) + bs[i].toNat * 256 ^ i := by
  induction bs generalizing i with
  | nil => cases h
  | cons x r ih =>
    cases i with
    | zero => simp [leNum]
    | succ i =>
      have hi : i < r.length := by simpa using h
      have := ih (i := i) hi
      simp only [List.take_succ_cons, leNum, List.getElem_cons_succ, this, Int.pow_succ]
      rw [Int.mul_add, Int.add_assoc, ← Int.mul_assoc, Int.mul_comm 256 (r[i].toNat : Int), Int.mul_assoc, Int.mul_comm 256 ((256 : Int) ^ i)]
set_option maxRecDepth 100000 in
theorem or_step (a x : Int) (i : Nat) (ha0 : 0 ≤ a) (ha : a < 256 ^ i) (hx0 : 0 ≤ x) (hx : x < 256) (hi : i < 8) :
    bits .or .u64 a (IntKind.u64.wrap (IntKind.u64.wrap x * 2 ^ (8 * i))) = a + x * 256 ^ i := by
  obtain ⟨A, rfl⟩ := Int.eq_ofNat_of_zero_le ha0
  obtain ⟨X, rfl⟩ := Int.eq_ofNat_of_zero_le hx0
  have e256 : (2 : Nat) ^ (8 * i) = 256 ^ i := by rw [Nat.pow_mul]
  have hA : A < 2 ^ (8 * i) := by rw [e256]; exact_mod_cast ha
  have hX : X < 256 := by omega
  have hb : X * 2 ^ (8 * i) < 18446744073709551616 := by
    have h1 : (2 : Nat) ^ (8 * i) ≤ 2 ^ 56 := Nat.pow_le_pow_right (by omega) (by omega)
    have h2 : X * 2 ^ (8 * i) ≤ 255 * 2 ^ 56 := Nat.mul_le_mul (by omega) h1
    omega
  have hA64 : A < 18446744073709551616 := by
    have h1 : (2 : Nat) ^ (8 * i) ≤ 2 ^ 56 := Nat.pow_le_pow_right (by omega) (by omega)
    omega
  have e1 : IntKind.u64.wrap (X : Int) = (X : Int) := by simp only [IntKind.wrap_u64]; omega
  have e2 : (X : Int) * 2 ^ (8 * i) = ((X * 2 ^ (8 * i) : Nat) : Int) := by push_cast; rfl
  have e3 : IntKind.u64.wrap ((X * 2 ^ (8 * i) : Nat) : Int) = ((X * 2 ^ (8 * i) : Nat) : Int) := by simp only [IntKind.wrap_u64]; omega
  rw [e1, e2, e3, u64_or_nat A _ hA64 hb]
  have e4 : A ||| X * 2 ^ (8 * i) = A + X * 256 ^ i := by
    rw [Nat.or_comm, Nat.mul_comm X, ← Nat.two_pow_add_eq_or_of_lt hA, e256, Nat.mul_comm, Nat.add_comm]
  rw [e4]
  push_cast
  rfl

set_option maxRecDepth 100000 in
set_option maxHeartbeats 1000000 in
theorem word_any (bs : List UInt8) (S : Nat → Prop) (A : Option Addr) (c : Nat) (w : World) (h : BRow w S A bs) (hl : bs.length ≤ 8) :
    Calls Tryd.prog 67 #[.slice A bs.length c] w fun e w' => e = .returned (.int .u64 (leNum bs)) ∧ w = w' := by
  go_enter Tryd.func67, Tryd.ntmps67
  go_wp2_with fail
  go_loopg [3, 4, 5, 8] bs.length (fun g t3 t4 t5 t8 wr => ∃ i : Nat, i ≤ bs.length ∧ t8 = .int .i64 i ∧ t3 = .int .u64 (leNum (bs.take i)) ∧ bs.length ≤ i + g ∧ w = wr)
  case atStart => exact ⟨0, by omega, rfl, rfl, by omega, rfl⟩
  case round =>
    obtain ⟨i, hi, rfl, rfl, hg, rfl⟩ := hrel
    by_cases hlt : i < bs.length
    · obtain ⟨bb, o, rfl, _, _, hc⟩ := h.at (by omega)
      have ci := hc i hlt
      rw [getD_at hlt] at ci
      have hx : (bs[i].toNat : Int) < 256 := by have := bs[i].toNat_lt; omega
      generalize hxx : (bs[i].toNat : Int) = x at ci hx
      have HXX := Lib.hid hxx
      clear hxx hc
      go_wp2_with fail
      go_roundg (gk - 1)
      case measure => omega
      case rel =>
        refine ⟨i + 1, by omega, by go_num, ?_, by omega, rfl⟩
        have hlt2 := leNum_lt (bs.take i)
        rw [List.length_take, Nat.min_eq_left (by omega)] at hlt2
        rw [leNum_take hlt, HXX.out, or_step _ _ _ (leNum_nonneg _) hlt2 (by have := HXX.out; omega) hx (by omega)]
    · go_wp2_with fail
      go_ret
      rw [List.take_of_length_le (by omega)]
      exact ⟨rfl, rfl⟩
end Go.Proofs.YtljdfainnmpjnaaDoor
