/- Numbers as bytes, the lowest first: sum.Lay and the reference's Put. -/
import Derived.Test.YtljdfainnmpjnaaDoorOwn
import Derived.Laws.ShiftsVar
import Derived.Deep.LoopGhost
import Derived.Deep.DeepMust
set_option linter.unusedVariables false
namespace Go.Proofs.YtljdfainnmpjnaaDoor
open Go.RowKit

def leByte (n : Int) (i : Nat) : UInt8 := UInt8.ofNat (n / 256 ^ i % 256).toNat
def leBytes (n : Int) (size : Nat) : List UInt8 := (List.range size).map (leByte n)
theorem leBytes_length (n : Int) (size : Nat) : (leBytes n size).length = size := by simp [leBytes]
theorem leBytes_succ (n : Int) (i : Nat) : leBytes n (i + 1) = leBytes n i ++ [leByte n i] := by simp [leBytes, List.range_succ]
theorem leByte_cast (n : Int) (i : Nat) : ((leByte n i).toNat : Int) = n / 256 ^ i % 256 := by
  unfold leByte
  have h0 : 0 ≤ n / 256 ^ i % 256 := Int.emod_nonneg _ (by decide)
  have h1 : n / 256 ^ i % 256 < 256 := Int.emod_lt_of_pos _ (by decide)
  rw [UInt8.toNat_ofNat']
  omega

theorem leByte_shift (n : Int) (i : Nat) : n / 2 ^ (8 * i) % 256 = ((leByte n i).toNat : Int) := by
  rw [leByte_cast, Int.pow_mul]; rfl

set_option maxRecDepth 100000 in
set_option maxHeartbeats 1000000 in
theorem lay_any (size : Nat) (n : Int) (v : Value) (bs : List UInt8) (base : Nat) (w : World) (hs : size ≤ 8) (hn0 : 0 ≤ n) (hn1 : n ≤ 18446744073709551615)
    (hown : Own w base v bs) (hb : base ≤ w.heap.size) (hl : bs.length ≤ 140737488355000) :
    Calls Tryd.prog 75 #[v, .int .i64 size, .int .u64 n] w fun e w' => ∃ v', e = .returned v' ∧ Own w' base v' (bs ++ leBytes n size) ∧ w.grownBy w' v.ownBlock ∧ Row1 w v v' := by
  go_enter Tryd.func75, Tryd.ntmps75
  go_wp2_with fail
  go_loopg [0, 7, 9] size (fun g t0 t7 t9 wr => ∃ i : Nat, i ≤ size ∧ t9 = .int .i64 i ∧ Own wr base t0 (bs ++ leBytes n i) ∧ w.grownBy wr v.ownBlock ∧ Row1 w v t0 ∧ size ≤ i + g)
  case atStart => exact ⟨0, by omega, rfl, by simpa [leBytes] using hown, ⟨rfl, rfl, rfl, Nat.le_refl _, fun _ _ _ => rfl⟩, Row1.refl _ _, by omega⟩
  case round =>
    obtain ⟨i, hi, rfl, ho, hgr, hr1, hg⟩ := hrel
    by_cases hlt : i < size
    · have hlen : (bs ++ leBytes n i).length = bs.length + i := by simp [leBytes_length]
      have HLEN := Lib.hid hlen
      clear hlen
      have hbw : base ≤ wr.heap.size := Nat.le_trans hb hgr.size
      have hbx := Lib.hid (brow_box wr (fun _ => True) trivial _ _ (leByte_shift n i))
      have hl2 := Lib.hid (show (bs ++ leBytes n i).length + [leByte n i].length ≤ 140737488355328 by rw [HLEN.out]; simp; omega)
      have hb2 := fun o => Lib.hid (show base ≤ (wr.alloc o).heap.size by simp; omega)
      go_wp2_with (at_builtin; go_must (refine app_bytes rfl (.tmp 12) (.tmp 18) rfl base u0 (bs ++ leBytes n i) rfl (ho.alloc _) (some ⟨wr.heap.size, 0, none⟩) 1 1 [leByte n i] rfl rfl hbx.out hl2.out (hb2 _).out ?_; intro v1 w1 ho1 hg1 hat1))
      go_wp2_with fail
      go_roundg (gk - 1)
      case measure => omega
      case rel =>
        refine ⟨i + 1, by omega, by go_num, by rw [leBytes_succ, ← List.append_assoc]; exact ho1, ?_, ?_, by omega⟩
        · exact grown_trans hgr (grown_trans (World.grownBy_alloc _ _ _) hg1 (.inl rfl)) hr1
        · refine hr1.step (Nat.le_trans hgr.size ?_) hat1
          simp
    · go_wp2_with fail
      go_ret
      obtain rfl : i = size := by omega
      exact ⟨_, rfl, ho, hgr, hr1⟩

set_option maxRecDepth 100000 in
set_option maxHeartbeats 1000000 in
theorem refput_any (size : Nat) (n : Int) (w : World) (hs : size ≤ 8) (hn0 : 0 ≤ n) (hn1 : n ≤ 18446744073709551615) :
    Calls Tryd.prog 76 #[.int .u64 n, .int .i64 size] w fun e w' => ∃ v', e = .returned v' ∧ Own w' w.heap.size v' (leBytes n size) ∧ Below w.heap.size w w' := by
  go_enter Tryd.func76, Tryd.ntmps76
  go_wp2_with fail
  go_loopg [5, 6] size (fun g t5 t6 wr => ∃ i : Nat, i ≤ size ∧ t6 = .int .i64 i ∧ Own wr w.heap.size t5 (leBytes n i) ∧ Below w.heap.size w wr ∧ size ≤ i + g)
  case atStart => exact ⟨0, by omega, rfl, Own.nil _ _, Below.refl _ _, by omega⟩
  case round =>
    obtain ⟨i, hi, rfl, ho, hbw, hg⟩ := hrel
    by_cases hlt : i < size
    · have hlen : (leBytes n i).length = i := by simp [leBytes_length]
      have HLEN := Lib.hid hlen
      clear hlen
      have hbs := hbw.size
      have hbx := Lib.hid (brow_box wr (fun _ => True) trivial _ _ (leByte_shift n i))
      have hl2 := Lib.hid (show (leBytes n i).length + [leByte n i].length ≤ 140737488355328 by rw [HLEN.out]; simp; omega)
      have hb2 := fun o => Lib.hid (show w.heap.size ≤ (wr.alloc o).heap.size by simp; omega)
      go_wp2_with (at_builtin; go_must (refine app_bytes rfl (.tmp 12) (.tmp 19) rfl w.heap.size u5 (leBytes n i) rfl (ho.alloc _) (some ⟨wr.heap.size, 0, none⟩) 1 1 [leByte n i] rfl rfl hbx.out hl2.out (hb2 _).out ?_; intro v1 w1 ho1 hg1 hat1))
      go_wp2_with fail
      go_roundg (gk - 1)
      case measure => omega
      case rel =>
        exact ⟨i + 1, by omega, by go_num, by rw [leBytes_succ]; exact ho1, (hbw.alloc hbs _).trans (below_of_grown hg1 _ (by simp; omega) fun k hk => (ho.lt k hk).1), by omega⟩
    · go_wp2_with fail
      go_ret
      obtain rfl : i = size := by omega
      exact ⟨_, rfl, ho, hbw⟩
end Go.Proofs.YtljdfainnmpjnaaDoor
