/- The program's reader of values. -/
import Derived.Test.YtljdfainnmpjnaaDoorTItems
set_option linter.unusedVariables false
namespace Go.Proofs.YtljdfainnmpjnaaDoor
open Go.RowKit

set_option maxRecDepth 100000 in
set_option maxHeartbeats 1000000 in
theorem value_nil (d : Int) (w : World) (S : Nat → Prop) (r : Nat) (hR : Reads w S r []) (hS : ∀ k, S k → k < w.heap.size) (hT : Tabs w) (t0 : r ≠ 0) (t1 : r ≠ 1) :
    Calls Tryd.prog 41 #[.pointer (some ⟨r, 0, none⟩), .int .i64 d] w (TellsT w S r (.error 4)) := by
  have v0 := VS.start hR hS hT t0 t1 vzero
  go_enter Tryd.func41, Tryd.ntmps41
  go_wp2_with fail
  refine (byte_no S r _ v0.reads).mono ?_
  rintro e w1 ⟨rfl, rfl⟩
  go_wp2_with fail
  exact ⟨rfl, TellsT.no v0.grown⟩
set_option maxRecDepth 100000 in
set_option maxHeartbeats 1000000 in
theorem value_odd (d : Int) (x : UInt8) (bs : List UInt8) (hx : x.toNat < 1 ∨ 8 < x.toNat) (w : World) (S : Nat → Prop) (r : Nat) (hR : Reads w S r (x :: bs)) (hS : ∀ k, S k → k < w.heap.size) (hT : Tabs w) (t0 : r ≠ 0) (t1 : r ≠ 1) :
    Calls Tryd.prog 41 #[.pointer (some ⟨r, 0, none⟩), .int .i64 d] w (TellsT w S r (.error 4)) := by
  have v0 := VS.start hR hS hT t0 t1 vzero
  obtain ⟨k, hk⟩ : ∃ k : Int, (x.toNat : Int) = k := ⟨_, rfl⟩
  have hx : k < 1 ∨ 8 < k := by omega
  have HK := Lib.hid hk
  go_enter Tryd.func41, Tryd.ntmps41
  go_wp2_with fail
  refine (byte_ok S r x bs _ v0.reads).mono ?_
  rintro e w1 ⟨rfl, hr1, hg, hs⟩
  rw [hk]
  clear hk
  have v1 := v0.call hg hr1
  have f0 := v1.free 0
  have z0 := v1.cell 0
  have v2 := v1.set 0 (.int .i64 k)
  have c0 := v2.cell 0
  clear v0 hg hr1 hs hR
  rcases hx with hx | hx
  · have d1 : decide (1 ≤ k) = false := decide_eq_false (by omega)
    clear hx
    go_wp2_with fail
    refine (must_no _ _).mono ?_
    rintro e w2 ⟨rfl, rfl⟩
    exact ⟨rfl, TellsT.no v2.grown⟩
  · have d1 : 1 ≤ k := by omega
    have d2 : decide (k ≤ 8) = false := decide_eq_false (by omega)
    go_wp2_with fail
    refine (must_no _ _).mono ?_
    rintro e w2 ⟨rfl, rfl⟩
    exact ⟨rfl, TellsT.no v2.grown⟩
set_option maxRecDepth 100000 in
set_option maxHeartbeats 1000000 in
theorem value_1 (d : Int) (x : UInt8) (bs : List UInt8) (hx : x.toNat = 1) (w : World) (S : Nat → Prop) (r : Nat) (hR : Reads w S r (x :: bs)) (hS : ∀ k, S k → k < w.heap.size) (hT : Tabs w) (t0 : r ≠ 0) (t1 : r ≠ 1) :
    Calls Tryd.prog 41 #[.pointer (some ⟨r, 0, none⟩), .int .i64 d] w (TellsT w S r (.ok (.mk 1 0 [] [] [], bs))) := by
  have v0 := VS.start hR hS hT t0 t1 vzero
  obtain ⟨k, hk⟩ : ∃ k : Int, (x.toNat : Int) = k := ⟨_, rfl⟩
  have hx : k = 1 := by omega
  go_enter Tryd.func41, Tryd.ntmps41
  go_wp2_with fail
  refine (byte_ok S r x bs _ v0.reads).mono ?_
  rintro e w1 ⟨rfl, hr1, hg, hs⟩
  rw [hk]
  clear hk
  subst hx
  have v1 := v0.call hg hr1
  have f0 := v1.free 0
  have z0 := v1.cell 0
  have v2 := v1.set 0 (.int .i64 1)
  have v2 : VS w S r w.heap.size bs #[.int .i64 1, .int .u64 0, .slice none 0 0, .slice none 0 0, .slice none 0 0] _ := v2
  have v3 := v2.again
  have c0 := v2.cell 0; have c1 := v2.cell 1; have c2 := v2.cell 2; have c3 := v2.cell 3; have c4 := v2.cell 4
  have f0' := v2.free 0; have f1 := v2.free 1; have f2 := v2.free 2; have f3 := v2.free 3; have f4 := v2.free 4
  have d0 := v3.cell 0; have d1 := v3.cell 1; have d2 := v3.cell 2; have d3 := v3.cell 3; have d4 := v3.cell 4
  clear v0 hg hr1 hs hR
  go_wp2_with fail
  refine (must_ok _ _).mono ?_
  rintro e w2 ⟨rfl, rfl⟩
  go_wp2_with fail
  generalize (((((_ : World).setCell ⟨w.heap.size, 0, none⟩ _).setCell ⟨w.heap.size, 1, none⟩ _).setCell ⟨w.heap.size, 2, none⟩ _).setCell ⟨w.heap.size, 3, none⟩ _).setCell ⟨w.heap.size, 4, none⟩ _ = W at v3 d0 d1 d2 d3 d4 ⊢
  refine bodyPost_ret (value_done v3 _ rfl) rfl ?_
  exact TellsT.yes (trep_atom (by omega) (by omega)) v3.reads v3.grown
set_option maxRecDepth 100000 in
set_option maxHeartbeats 1000000 in
theorem value_2 (d : Int) (x : UInt8) (bs : List UInt8) (hx : x.toNat = 2) (w : World) (S : Nat → Prop) (r : Nat) (hR : Reads w S r (x :: bs)) (hS : ∀ k, S k → k < w.heap.size) (hT : Tabs w) (t0 : r ≠ 0) (t1 : r ≠ 1) :
    Calls Tryd.prog 41 #[.pointer (some ⟨r, 0, none⟩), .int .i64 d] w (TellsT w S r (body none 2 bs)) := by
  obtain ⟨G, hG⟩ : ∃ G, body none 2 bs = G := ⟨_, rfl⟩
  rw [hG]
  have HG := Lib.hid hG
  clear hG
  have v0 := VS.start hR hS hT t0 t1 vzero
  obtain ⟨k, hk⟩ : ∃ k : Int, (x.toNat : Int) = k := ⟨_, rfl⟩
  have hx : k = 2 := by omega
  go_enter Tryd.func41, Tryd.ntmps41
  go_wp2_with fail
  refine (byte_ok S r x bs _ v0.reads).mono ?_
  rintro e w1 ⟨rfl, hr1, hg, hs⟩
  rw [hk]
  clear hk
  subst hx
  have v1 := v0.call hg hr1
  have f0 := v1.free 0
  have z0 := v1.cell 0
  have v2 := v1.set 0 (.int .i64 2)
  have c0 := v2.cell 0
  clear v0 v1 hg hr1 hs hR
  go_wp2_with fail
  refine (must_ok _ _).mono ?_
  rintro e w2 ⟨rfl, rfl⟩
  go_wp2_with fail
  clear f0 z0 c0
  generalize w1.setCell ⟨w.heap.size, 0, none⟩ _ = w2 at v2 ⊢
  cases bs with
  | nil =>
    refine (byte_no S r _ v2.reads).mono ?_
    rintro e w3 ⟨rfl, rfl⟩
    obtain rfl := HG.out
    exact ⟨rfl, TellsT.no v2.grown⟩
  | cons y bs =>
    refine (byte_ok S r y bs _ v2.reads).mono ?_
    rintro e w3 ⟨rfl, hr3, hg3, -⟩
    have v3 := v2.call hg3 hr3
    have f1 := v3.free 1
    have z1 := v3.cell 1
    have hy := y.toNat_lt
    have hw : IntKind.u64.wrap (y.toNat : Int) = (y.toNat : Int) := by simp only [IntKind.wrap_u64]; omega
    have v4 := v3.set 1 (.int .u64 y.toNat)
    have c1 := v4.cell 1
    have e8 : body none 2 (y :: bs) = if y.toNat ≤ 1 then .ok (.mk 2 y.toNat [] [] [], bs) else .error 4 := rfl
    have hg := HG.out
    rw [e8] at hg
    clear e8 HG
    by_cases hy1 : y.toNat ≤ 1
    · rw [if_pos hy1] at hg
      subst hg
      have hd : (y.toNat : Int) ≤ 1 := by omega
      have v4 : VS w S r w.heap.size bs #[.int .i64 2, .int .u64 y.toNat, .slice none 0 0, .slice none 0 0, .slice none 0 0] _ := v4
      have v5 := v4.again
      have c0 := v4.cell 0; have c2 := v4.cell 2; have c3 := v4.cell 3; have c4 := v4.cell 4
      have f0' := v4.free 0; have f1' := v4.free 1; have f2 := v4.free 2; have f3 := v4.free 3; have f4 := v4.free 4
      go_wp2_with fail
      refine (must_ok _ _).mono ?_
      rintro e w5 ⟨rfl, rfl⟩
      go_wp2_with fail
      generalize (((((_ : World).setCell ⟨w.heap.size, 0, none⟩ _).setCell ⟨w.heap.size, 1, none⟩ _).setCell ⟨w.heap.size, 2, none⟩ _).setCell ⟨w.heap.size, 3, none⟩ _).setCell ⟨w.heap.size, 4, none⟩ _ = W at v5 ⊢
      refine bodyPost_ret (value_done v5 _ rfl) rfl ?_
      exact TellsT.yes (trep_atom (by omega) (by omega)) v5.reads v5.grown
    · rw [if_neg hy1] at hg
      subst hg
      have hd : decide ((y.toNat : Int) ≤ 1) = false := decide_eq_false (by omega)
      go_wp2_with fail
      refine (must_no _ _).mono ?_
      rintro e w5 ⟨rfl, rfl⟩
      exact ⟨rfl, TellsT.no v4.grown⟩
set_option maxRecDepth 100000 in
set_option maxHeartbeats 1000000 in
theorem value_3 (d : Int) (n : Int) (hn : n = 3 ∨ n = 4) (x : UInt8) (bs : List UInt8) (hx : x.toNat = n) (w : World) (S : Nat → Prop) (r : Nat) (hR : Reads w S r (x :: bs)) (hS : ∀ k, S k → k < w.heap.size) (hT : Tabs w) (t0 : r ≠ 0) (t1 : r ≠ 1) :
    Calls Tryd.prog 41 #[.pointer (some ⟨r, 0, none⟩), .int .i64 d] w (TellsT w S r (if bs.length < 8 then .error 4 else .ok (.mk n (leNum (bs.take 8)) [] [] [], bs.drop 8))) := by
  obtain ⟨G, hG⟩ : ∃ G : Got, (if bs.length < 8 then .error 4 else .ok (.mk n (leNum (bs.take 8)) [] [] [], bs.drop 8)) = G := ⟨_, rfl⟩
  rw [hG]
  have HG := Lib.hid hG
  clear hG
  have v0 := VS.start hR hS hT t0 t1 vzero
  rcases hn with rfl | rfl
  all_goals
    go_enter Tryd.func41, Tryd.ntmps41
    go_wp2_with fail
    refine (byte_ok S r x bs _ v0.reads).mono ?_
    rintro e w1 ⟨rfl, hr1, hg, hs⟩
    rw [hx]
    have v1 := v0.call hg hr1
    have f0 := v1.free 0
    have z0 := v1.cell 0
  · have v2 := v1.set 0 (.int .i64 3)
    have c0 := v2.cell 0
    clear v0 v1 hg hr1 hs hR hx
    go_wp2_with fail
    refine (must_ok _ _).mono ?_
    rintro e w2 ⟨rfl, rfl⟩
    go_wp2_with fail
    clear f0 z0 c0
    have v2 : VS w S r w.heap.size bs #[.int .i64 3, .int .u64 0, .slice none 0 0, .slice none 0 0, .slice none 0 0] _ := v2
    generalize w1.setCell ⟨w.heap.size, 0, none⟩ _ = w2 at v2 ⊢
    by_cases hl : bs.length < 8
    · have hg := HG.out
      rw [if_pos hl] at hg
      subst hg
      refine (take_no S r bs 8 _ v2.reads (by omega)).mono ?_
      rintro e w3 ⟨rfl, rfl⟩
      exact ⟨rfl, TellsT.no v2.grown⟩
    · have hg := HG.out
      rw [if_neg hl] at hg
      refine (take_ok S r bs 8 _ v2.reads (by omega)).mono ?_
      rintro e w3 ⟨A, rfl, hA, hr3, hg3, -⟩
      have v3 := v2.call hg3 hr3
      have h8 : (bs.take 8).length = 8 := by simp only [List.length_take]; omega
      have hW := word_any (bs.take 8) S A 8 w3 hA (by omega)
      rw [h8] at hW
      have hlt := leNum_lt (bs.take 8)
      have hnn := leNum_nonneg (bs.take 8)
      rw [h8] at hlt
      obtain ⟨N, hN⟩ : ∃ N, leNum (bs.take 8) = N := ⟨_, rfl⟩
      rw [hN] at hW hlt hnn hg
      subst hg
      clear hN
      clear v2 HG
      go_wp2_with fail
      refine hW.mono ?_
      rintro e w4 ⟨rfl, rfl⟩
      have z1 := v3.cell 1
      have f1 := v3.free 1
      have v4 := v3.set 1 (.int .u64 N)
      have v4 : VS w S r w.heap.size (bs.drop 8) #[.int .i64 3, .int .u64 N, .slice none 0 0, .slice none 0 0, .slice none 0 0] _ := v4
      have v5 := v4.again
      have c0 := v4.cell 0; have c1 := v4.cell 1; have c2 := v4.cell 2; have c3 := v4.cell 3; have c4 := v4.cell 4
      have f0' := v4.free 0; have f1' := v4.free 1; have f2 := v4.free 2; have f3 := v4.free 3; have f4 := v4.free 4
      go_wp2_with fail
      generalize (((((_ : World).setCell ⟨w.heap.size, 0, none⟩ _).setCell ⟨w.heap.size, 1, none⟩ _).setCell ⟨w.heap.size, 2, none⟩ _).setCell ⟨w.heap.size, 3, none⟩ _).setCell ⟨w.heap.size, 4, none⟩ _ = W at v5 ⊢
      refine bodyPost_ret (value_done v5 _ rfl) rfl ?_
      exact TellsT.yes (trep_atom (k := 3) (n := N) (by omega) (by omega)) v5.reads v5.grown
  · have v2 := v1.set 0 (.int .i64 4)
    have c0 := v2.cell 0
    clear v0 v1 hg hr1 hs hR hx
    go_wp2_with fail
    refine (must_ok _ _).mono ?_
    rintro e w2 ⟨rfl, rfl⟩
    go_wp2_with fail
    clear f0 z0 c0
    have v2 : VS w S r w.heap.size bs #[.int .i64 4, .int .u64 0, .slice none 0 0, .slice none 0 0, .slice none 0 0] _ := v2
    generalize w1.setCell ⟨w.heap.size, 0, none⟩ _ = w2 at v2 ⊢
    by_cases hl : bs.length < 8
    · have hg := HG.out
      rw [if_pos hl] at hg
      subst hg
      refine (take_no S r bs 8 _ v2.reads (by omega)).mono ?_
      rintro e w3 ⟨rfl, rfl⟩
      exact ⟨rfl, TellsT.no v2.grown⟩
    · have hg := HG.out
      rw [if_neg hl] at hg
      refine (take_ok S r bs 8 _ v2.reads (by omega)).mono ?_
      rintro e w3 ⟨A, rfl, hA, hr3, hg3, -⟩
      have v3 := v2.call hg3 hr3
      have h8 : (bs.take 8).length = 8 := by simp only [List.length_take]; omega
      have hW := word_any (bs.take 8) S A 8 w3 hA (by omega)
      rw [h8] at hW
      have hlt := leNum_lt (bs.take 8)
      have hnn := leNum_nonneg (bs.take 8)
      rw [h8] at hlt
      obtain ⟨N, hN⟩ : ∃ N, leNum (bs.take 8) = N := ⟨_, rfl⟩
      rw [hN] at hW hlt hnn hg
      subst hg
      clear hN
      clear v2 HG
      go_wp2_with fail
      refine hW.mono ?_
      rintro e w4 ⟨rfl, rfl⟩
      have z1 := v3.cell 1
      have f1 := v3.free 1
      have v4 := v3.set 1 (.int .u64 N)
      have v4 : VS w S r w.heap.size (bs.drop 8) #[.int .i64 4, .int .u64 N, .slice none 0 0, .slice none 0 0, .slice none 0 0] _ := v4
      have v5 := v4.again
      have c0 := v4.cell 0; have c1 := v4.cell 1; have c2 := v4.cell 2; have c3 := v4.cell 3; have c4 := v4.cell 4
      have f0' := v4.free 0; have f1' := v4.free 1; have f2 := v4.free 2; have f3 := v4.free 3; have f4 := v4.free 4
      go_wp2_with fail
      generalize (((((_ : World).setCell ⟨w.heap.size, 0, none⟩ _).setCell ⟨w.heap.size, 1, none⟩ _).setCell ⟨w.heap.size, 2, none⟩ _).setCell ⟨w.heap.size, 3, none⟩ _).setCell ⟨w.heap.size, 4, none⟩ _ = W at v5 ⊢
      refine bodyPost_ret (value_done v5 _ rfl) rfl ?_
      exact TellsT.yes (trep_atom (k := 4) (n := N) (by omega) (by omega)) v5.reads v5.grown
set_option maxRecDepth 100000 in
set_option maxHeartbeats 2000000 in
theorem value_5 (hV : ValidC) (d : Int) (x : UInt8) (bs : List UInt8) (hx : x.toNat = 5) (w : World) (S : Nat → Prop) (r : Nat) (hR : Reads w S r (x :: bs)) (hS : ∀ k, S k → k < w.heap.size) (hT : Tabs w) (t0 : r ≠ 0) (t1 : r ≠ 1) :
    Calls Tryd.prog 41 #[.pointer (some ⟨r, 0, none⟩), .int .i64 d] w (TellsT w S r (body none 5 bs)) := by
  obtain ⟨G, hG⟩ : ∃ G, body none 5 bs = G := ⟨_, rfl⟩
  have e8 : body none 5 bs = if bs.length < 2 then .error 4 else
    if (bs.drop 2).length < (leNum (bs.take 2)).toNat then .error 4 else
    if (5 : Nat) = 6 ∨ utfR ((bs.drop 2).take (leNum (bs.take 2)).toNat) = true then .ok (.mk 5 0 ((bs.drop 2).take (leNum (bs.take 2)).toNat) [] [], (bs.drop 2).drop (leNum (bs.take 2)).toNat) else .error 4 := rfl
  rw [hG] at e8 ⊢
  have HG := Lib.hid e8
  clear hG e8
  obtain ⟨i0, hi, hzz⟩ := Option.map_eq_some_iff.1 info5
  simp only [Prod.mk.injEq] at hzz
  obtain ⟨hz0, hz1, hz2⟩ := hzz
  have HI := Lib.hid hi
  have HZ0 := Lib.hid hz0
  have HZ1 := Lib.hid hz1
  have HZ2 := Lib.hid hz2
  clear hi hz0 hz1 hz2
  have v0 := VS.start hR hS hT t0 t1 vzero
  obtain ⟨k, hk⟩ : ∃ k : Int, (x.toNat : Int) = k := ⟨_, rfl⟩
  have hx : k = 5 := by omega
  go_enter Tryd.func41, Tryd.ntmps41
  go_wp2_with fail
  refine (byte_ok S r x bs _ v0.reads).mono ?_
  rintro e w1 ⟨rfl, hr1, hg, hs⟩
  rw [hk]
  clear hk
  subst hx
  have v1 := v0.call hg hr1
  have f0 := v1.free 0
  have z0 := v1.cell 0
  have v2 := v1.set 0 (.int .i64 5)
  have c0 := v2.cell 0
  clear v0 v1 hg hr1 hs hR
  go_wp2_with fail
  refine (must_ok _ _).mono ?_
  rintro e w2 ⟨rfl, rfl⟩
  go_wp2_with fail
  clear f0 z0 c0
  have v2 : VS w S r w.heap.size bs #[.int .i64 5, .int .u64 0, .slice none 0 0, .slice none 0 0, .slice none 0 0] _ := v2
  generalize w1.setCell ⟨w.heap.size, 0, none⟩ _ = w2 at v2 ⊢
  by_cases hl : bs.length < 2
  · have hg := HG.out
    rw [if_pos hl] at hg
    subst hg
    refine (take_no S r bs 2 _ v2.reads (by omega)).mono ?_
    rintro e w3 ⟨rfl, rfl⟩
    exact ⟨rfl, TellsT.no v2.grown⟩
  have hg := HG.out
  rw [if_neg hl] at hg
  have HG2 := Lib.hid hg
  clear hg HG
  refine (take_ok S r bs 2 _ v2.reads (by omega)).mono ?_
  rintro e w3 ⟨A, rfl, hA, hr3, hg3, -⟩
  have v3 := v2.call hg3 hr3
  have h8 : (bs.take 2).length = 2 := by simp only [List.length_take]; omega
  have hW := word_any (bs.take 2) S A 2 w3 hA (by omega)
  rw [h8] at hW
  have hlt := leNum_lt (bs.take 2)
  have hnn := leNum_nonneg (bs.take 2)
  rw [h8] at hlt
  obtain ⟨n, hn⟩ := Int.eq_ofNat_of_zero_le hnn
  have hg := HG2.out
  rw [hn] at hW hlt hg
  rw [Int.toNat_natCast] at hg
  generalize bs.drop 2 = cs at hg v3
  have HG := Lib.hid hg
  clear hg HG2 v2 hn hnn hA hr3 hg3 h8
  have hn6 : n < 65536 := by omega
  have hwr : IntKind.i64.wrap (n : Int) = n := by simp only [IntKind.wrap_i64]; omega
  go_wp2_with fail
  refine hW.mono ?_
  rintro e w4 ⟨rfl, rfl⟩
  go_wp2_with fail
  clear hW hlt
  by_cases hl2 : cs.length < n
  · have hg := HG.out
    rw [if_pos hl2] at hg
    subst hg
    refine (take_no S r cs n _ v3.reads (by omega)).mono ?_
    rintro e w3 ⟨rfl, rfl⟩
    exact ⟨rfl, TellsT.no v3.grown⟩
  have hg := HG.out
  rw [if_neg hl2] at hg
  have HG2 := Lib.hid hg
  clear hg HG
  refine (take_ok S r cs n _ v3.reads (by omega)).mono ?_
  rintro e w5 ⟨A2, rfl, hA, hr3, hg3, -⟩
  have v4 := v3.call hg3 hr3
  have hlen : (cs.take n).length = n := by simp only [List.length_take]; omega
  have hg := HG2.out
  have c0 := v4.cell 0
  obtain ⟨ys, hys⟩ : ∃ ys, cs.take n = ys := ⟨_, rfl⟩
  generalize cs.drop n = rest at hg v4 hr3
  rw [hys] at hg hA hlen
  have HG := Lib.hid hg
  clear hg HG2 v3 hr3 hg3 hys
  subst hlen
  have HA := Lib.hid hA
  have HV := Lib.hid (hV ys S A2 ys.length w5 v4.tabs hA (Nat.le_refl _) (by omega))
  clear hA
  go_wp2_with fail
  refine HV.out.mono ?_
  rintro e w6 ⟨rfl, hb⟩
  have v5 := v4.below hb
  have HA := Lib.hid (HA.out.belowS hb)
  clear HV hb v4 c0
  cases hu : utfR ys with
  | false =>
    have hg := HG.out
    rw [if_neg (by rw [hu]; simp)] at hg
    subst hg
    go_wp2_with fail
    refine (must_no _ _).mono ?_
    rintro e w7 ⟨rfl, rfl⟩
    exact ⟨rfl, TellsT.no v5.grown⟩
  | true =>
  have hg := HG.out
  rw [if_pos (.inr hu)] at hg
  subst hg
  go_wp2_with fail
  refine (must_ok _ _).mono ?_
  rintro e w7 ⟨rfl, rfl⟩
  go_wp2_with (at_make; go_must (refine wpList_make_own _ rfl _ _ 22 rfl (w.heap.size + 1) 5 i0 (.int .u8 0) 1 Tryd.underlying22 HI.out HZ0.out HZ1.out .i64 .i64 _ ys.length rfl rfl rfl (by rw [HZ2.out]; omega) (by unfold maxLen; omega) v5.lt ?_))
  intro w8 hown hgrow
  have v6 := v5.grown' hgrow
  have HO := Lib.hid (show Own w8 (w.heap.size + 1) _ [] from hown)
  have HA2 := Lib.hid (HA.out.grown hgrow (fun k hk => by cases hk))
  have HB := Lib.hid v6.lt
  have HL := Lib.hid (show ([] : List UInt8).length + ys.length ≤ 140737488355328 by simp only [List.length_nil]; omega)
  clear hown hgrow HA
  go_wp2_with (at_builtin; go_must (refine app_bytes rfl (.tmp 62) (.tmp 63) rfl (w.heap.size + 1) _ [] rfl HO.out A2 ys.length _ ys rfl rfl HA2.out HL.out HB.out ?_))
  intro v9 w9 ho9 hg9 hat9
  have v7 := v6.app hg9 (fun k hk => (HO.out.lt k hk).1)
  obtain ⟨A9, c9, rfl, hc9, hm9, hr9⟩ := ho9.trow (fun k => w.heap.size < k) (fun k hk => (ho9.lt k hk).1)
  have z2 := v7.cell 2
  have f2 := v7.free 2
  have v8 := v7.set 2 (.slice A9 ys.length c9)
  have v8 : VS w S r w.heap.size rest #[.int .i64 5, .int .u64 0, .slice A9 ys.length c9, .slice none 0 0, .slice none 0 0] _ := v8
  have hr10 := TRow.kept hr9 (Keeps.of_grown (grown_setCell w9 ⟨w.heap.size, 2, none⟩ (.slice A9 ys.length c9)) _ (fun k hk hS => by cases hk; exact Nat.lt_irrefl _ hS))
  clear HO HA2 HL HB HI HZ0 HZ1 HZ2 v5 v6 hat9 hg9 hr9 ho9
  have v9 := v8.again
  have c0 := v8.cell 0; have c1 := v8.cell 1; have c2 := v8.cell 2; have c3 := v8.cell 3; have c4 := v8.cell 4
  have f0' := v8.free 0; have f1' := v8.free 1; have f2' := v8.free 2; have f3 := v8.free 3; have f4 := v8.free 4
  have H10 := Lib.hid (trep_again (trep_bytes (k := 5) (n := 0) (by omega) (by omega) ⟨hc9, by omega, hm9⟩ hr10) (Nat.lt_irrefl _) (.int .i64 5) (.int .u64 0) (.slice A9 ys.length c9) (.slice none 0 0) (.slice none 0 0))
  clear hr10
  go_wp2_with fail
  refine bodyPost_ret (value_done v9 _ rfl) rfl ?_
  exact TellsT.yes (H10.out.mono (fun k _ h => by omega)) v9.reads v9.grown
set_option maxRecDepth 100000 in
set_option maxHeartbeats 2000000 in
theorem value_6 (hV : ValidC) (d : Int) (x : UInt8) (bs : List UInt8) (hx : x.toNat = 6) (w : World) (S : Nat → Prop) (r : Nat) (hR : Reads w S r (x :: bs)) (hS : ∀ k, S k → k < w.heap.size) (hT : Tabs w) (t0 : r ≠ 0) (t1 : r ≠ 1) :
    Calls Tryd.prog 41 #[.pointer (some ⟨r, 0, none⟩), .int .i64 d] w (TellsT w S r (body none 6 bs)) := by
  obtain ⟨G, hG⟩ : ∃ G, body none 6 bs = G := ⟨_, rfl⟩
  have e8 : body none 6 bs = if bs.length < 2 then .error 4 else
    if (bs.drop 2).length < (leNum (bs.take 2)).toNat then .error 4 else
    if (6 : Nat) = 6 ∨ utfR ((bs.drop 2).take (leNum (bs.take 2)).toNat) = true then .ok (.mk 6 0 ((bs.drop 2).take (leNum (bs.take 2)).toNat) [] [], (bs.drop 2).drop (leNum (bs.take 2)).toNat) else .error 4 := rfl
  rw [hG] at e8 ⊢
  have HG := Lib.hid e8
  clear hG e8
  obtain ⟨i0, hi, hzz⟩ := Option.map_eq_some_iff.1 info5
  simp only [Prod.mk.injEq] at hzz
  obtain ⟨hz0, hz1, hz2⟩ := hzz
  have HI := Lib.hid hi
  have HZ0 := Lib.hid hz0
  have HZ1 := Lib.hid hz1
  have HZ2 := Lib.hid hz2
  clear hi hz0 hz1 hz2
  have v0 := VS.start hR hS hT t0 t1 vzero
  obtain ⟨k, hk⟩ : ∃ k : Int, (x.toNat : Int) = k := ⟨_, rfl⟩
  have hx : k = 6 := by omega
  go_enter Tryd.func41, Tryd.ntmps41
  go_wp2_with fail
  refine (byte_ok S r x bs _ v0.reads).mono ?_
  rintro e w1 ⟨rfl, hr1, hg, hs⟩
  rw [hk]
  clear hk
  subst hx
  have v1 := v0.call hg hr1
  have f0 := v1.free 0
  have z0 := v1.cell 0
  have v2 := v1.set 0 (.int .i64 6)
  have c0 := v2.cell 0
  clear v0 v1 hg hr1 hs hR
  go_wp2_with fail
  refine (must_ok _ _).mono ?_
  rintro e w2 ⟨rfl, rfl⟩
  go_wp2_with fail
  clear f0 z0 c0
  have v2 : VS w S r w.heap.size bs #[.int .i64 6, .int .u64 0, .slice none 0 0, .slice none 0 0, .slice none 0 0] _ := v2
  generalize w1.setCell ⟨w.heap.size, 0, none⟩ _ = w2 at v2 ⊢
  by_cases hl : bs.length < 2
  · have hg := HG.out
    rw [if_pos hl] at hg
    subst hg
    refine (take_no S r bs 2 _ v2.reads (by omega)).mono ?_
    rintro e w3 ⟨rfl, rfl⟩
    exact ⟨rfl, TellsT.no v2.grown⟩
  have hg := HG.out
  rw [if_neg hl] at hg
  have HG2 := Lib.hid hg
  clear hg HG
  refine (take_ok S r bs 2 _ v2.reads (by omega)).mono ?_
  rintro e w3 ⟨A, rfl, hA, hr3, hg3, -⟩
  have v3 := v2.call hg3 hr3
  have h8 : (bs.take 2).length = 2 := by simp only [List.length_take]; omega
  have hW := word_any (bs.take 2) S A 2 w3 hA (by omega)
  rw [h8] at hW
  have hlt := leNum_lt (bs.take 2)
  have hnn := leNum_nonneg (bs.take 2)
  rw [h8] at hlt
  obtain ⟨n, hn⟩ := Int.eq_ofNat_of_zero_le hnn
  have hg := HG2.out
  rw [hn] at hW hlt hg
  rw [Int.toNat_natCast] at hg
  generalize bs.drop 2 = cs at hg v3
  have HG := Lib.hid hg
  clear hg HG2 v2 hn hnn hA hr3 hg3 h8
  have hn6 : n < 65536 := by omega
  have hwr : IntKind.i64.wrap (n : Int) = n := by simp only [IntKind.wrap_i64]; omega
  go_wp2_with fail
  refine hW.mono ?_
  rintro e w4 ⟨rfl, rfl⟩
  go_wp2_with fail
  clear hW hlt
  by_cases hl2 : cs.length < n
  · have hg := HG.out
    rw [if_pos hl2] at hg
    subst hg
    refine (take_no S r cs n _ v3.reads (by omega)).mono ?_
    rintro e w3 ⟨rfl, rfl⟩
    exact ⟨rfl, TellsT.no v3.grown⟩
  have hg := HG.out
  rw [if_neg hl2] at hg
  have HG2 := Lib.hid hg
  clear hg HG
  refine (take_ok S r cs n _ v3.reads (by omega)).mono ?_
  rintro e w5 ⟨A2, rfl, hA, hr3, hg3, -⟩
  have v4 := v3.call hg3 hr3
  have hlen : (cs.take n).length = n := by simp only [List.length_take]; omega
  have hg := HG2.out
  have c0 := v4.cell 0
  obtain ⟨ys, hys⟩ : ∃ ys, cs.take n = ys := ⟨_, rfl⟩
  generalize cs.drop n = rest at hg v4 hr3
  rw [hys] at hg hA hlen
  have HG := Lib.hid hg
  clear hg HG2 v3 hr3 hg3 hys
  subst hlen
  have HA := Lib.hid hA
  have v5 := v4
  have hg := HG.out
  rw [if_pos (by simp)] at hg
  subst hg
  clear v4
  go_wp2_with fail
  refine (must_ok _ _).mono ?_
  rintro e w7 ⟨rfl, rfl⟩
  go_wp2_with (at_make; go_must (refine wpList_make_own _ rfl _ _ 22 rfl (w.heap.size + 1) 5 i0 (.int .u8 0) 1 Tryd.underlying22 HI.out HZ0.out HZ1.out .i64 .i64 _ ys.length rfl rfl rfl (by rw [HZ2.out]; omega) (by unfold maxLen; omega) v5.lt ?_))
  intro w8 hown hgrow
  have v6 := v5.grown' hgrow
  have HO := Lib.hid (show Own w8 (w.heap.size + 1) _ [] from hown)
  have HA2 := Lib.hid (HA.out.grown hgrow (fun k hk => by cases hk))
  have HB := Lib.hid v6.lt
  have HL := Lib.hid (show ([] : List UInt8).length + ys.length ≤ 140737488355328 by simp only [List.length_nil]; omega)
  clear hown hgrow HA
  go_wp2_with (at_builtin; go_must (refine app_bytes rfl (.tmp 62) (.tmp 63) rfl (w.heap.size + 1) _ [] rfl HO.out A2 ys.length _ ys rfl rfl HA2.out HL.out HB.out ?_))
  intro v9 w9 ho9 hg9 hat9
  have v7 := v6.app hg9 (fun k hk => (HO.out.lt k hk).1)
  obtain ⟨A9, c9, rfl, hc9, hm9, hr9⟩ := ho9.trow (fun k => w.heap.size < k) (fun k hk => (ho9.lt k hk).1)
  have z2 := v7.cell 2
  have f2 := v7.free 2
  have v8 := v7.set 2 (.slice A9 ys.length c9)
  have v8 : VS w S r w.heap.size rest #[.int .i64 6, .int .u64 0, .slice A9 ys.length c9, .slice none 0 0, .slice none 0 0] _ := v8
  have hr10 := TRow.kept hr9 (Keeps.of_grown (grown_setCell w9 ⟨w.heap.size, 2, none⟩ (.slice A9 ys.length c9)) _ (fun k hk hS => by cases hk; exact Nat.lt_irrefl _ hS))
  clear HO HA2 HL HB HI HZ0 HZ1 HZ2 v5 v6 hat9 hg9 hr9 ho9
  have v9 := v8.again
  have c0 := v8.cell 0; have c1 := v8.cell 1; have c2 := v8.cell 2; have c3 := v8.cell 3; have c4 := v8.cell 4
  have f0' := v8.free 0; have f1' := v8.free 1; have f2' := v8.free 2; have f3 := v8.free 3; have f4 := v8.free 4
  have H10 := Lib.hid (trep_again (trep_bytes (k := 6) (n := 0) (by omega) (by omega) ⟨hc9, by omega, hm9⟩ hr10) (Nat.lt_irrefl _) (.int .i64 6) (.int .u64 0) (.slice A9 ys.length c9) (.slice none 0 0) (.slice none 0 0))
  clear hr10
  go_wp2_with fail
  refine bodyPost_ret (value_done v9 _ rfl) rfl ?_
  exact TellsT.yes (H10.out.mono (fun k _ h => by omega)) v9.reads v9.grown
end Go.Proofs.YtljdfainnmpjnaaDoor
