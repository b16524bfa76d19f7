/- The program's Put. -/
import Derived.Test.YtljdfainnmpjnaaDoorGoodP
set_option linter.unusedVariables false
namespace Go.Proofs.YtljdfainnmpjnaaDoor
open Go.RowKit

theorem run_mk (Z : Nat) (hZ : Z ≤ 4096) : ∃ MC : Array Value, MC.size = Z ∧ ∀ W : World, (Instr.makeSlice 22 (.int .i64 0) (.int .i64 (Z : Int))).run Tryd.prog W = .ok (.slice (some ⟨W.heap.size, 0, none⟩) 0 Z) (W.alloc (.cells MC 5)) := by
  obtain ⟨i0, hi, hzz⟩ := Option.map_eq_some_iff.1 info5
  simp only [Prod.mk.injEq] at hzz
  obtain ⟨hz0, hz1, hz2⟩ := hzz
  refine ⟨madeCells (Value.int .u8 0).cells (Z * i0.size), by rw [size_madeCells, hz1, Nat.mul_one], fun W => ?_⟩
  have := run_make (P := Tryd.prog) W 22 5 i0 (.int .u8 0) Tryd.underlying22 hi hz0 .i64 .i64 0 (Z : Int) (Int.le_refl _) (by omega) (by rw [hz2]; omega) (by omega)
  simpa using this

set_option maxRecDepth 100000 in
set_option maxHeartbeats 4000000 in
theorem put_any (v : V) (cs : List Value) (w : World) (hT : Tabs w) (h : Rep0 w v cs) (hs : Small v) :
    Calls Tryd.prog 19 #[.agg cs.toArray] w (Puts w v) := by
  obtain ⟨k, n, b, l, f⟩ := v
  have hr := h
  obtain ⟨AB, AL, AF, cb, cl, cf, L, F, rfl, -⟩ := h.inv
  clear h
  obtain ⟨X, hX⟩ : ∃ X, Obj.cells #[Value.int .i64 k, .int .u64 n, .slice AB b.length cb, .slice AL l.length cl, .slice AF f.length cf] 27 = X := ⟨_, rfl⟩
  have HX := Lib.hid hX
  clear hX
  obtain ⟨v, hv⟩ : ∃ v, V.mk k n b l f = v := ⟨_, rfl⟩
  rw [hv] at hr hs ⊢
  clear hv
  have hbw0 : Below (w.heap.size + 1) (w.alloc X) (w.alloc X) := Below.refl _ _
  have CELL : ∀ {W : World}, Below (w.heap.size + 1) (w.alloc X) W → W.cell? ⟨w.heap.size, 0, none⟩ = some (.int .i64 k) ∧ W.cell? ⟨w.heap.size, 1, none⟩ = some (.int .u64 n) ∧ W.cell? ⟨w.heap.size, 2, none⟩ = some (.slice AB b.length cb) ∧ W.cell? ⟨w.heap.size, 3, none⟩ = some (.slice AL l.length cl) ∧ W.cell? ⟨w.heap.size, 4, none⟩ = some (.slice AF f.length cf) := fun {W} hb => by
    have hblk := blk_alloc hb
    rw [← HX.out] at hblk
    exact ⟨cell_blk hblk 0, cell_blk hblk 1, cell_blk hblk 2, cell_blk hblk 3, cell_blk hblk 4⟩
  have HCELL := @Lib.hid _ @CELL
  have HRW := @Lib.hid _ (fun (W : World) (hb : Below (w.heap.size + 1) (w.alloc X) W) => Rep0.below (below_of_alloc hb) hr)
  have HTW := @Lib.hid _ (fun (W : World) (hb : Below (w.heap.size + 1) (w.alloc X) W) => hT.below (below_of_alloc hb))
  have hGd := good_any v _ (w.alloc X) (HTW.out _ hbw0) (HRW.out _ hbw0) hs
  obtain ⟨G, hG⟩ : ∃ G, goodR v = G := ⟨_, rfl⟩
  rw [hG] at hGd
  have HG := Lib.hid hG
  have HGD := Lib.hid hGd
  obtain ⟨y0, y1, y2, y3, y4⟩ := CELL hbw0
  clear hGd hG CELL hr hT
  go_enter Tryd.func19, Tryd.ntmps19
  go_wp2_with fail
  rw [HX.out]
  refine HGD.out.mono ?_
  rintro e w1 ⟨rfl, hb1⟩
  have bw1 := below_alloc_trans hbw0 hb1
  clear y0 y1 y2 y3 y4 hbw0 hb1 HGD
  by_cases hg : G = 0
  case neg =>
    have hne1 : (G == 0) = false := by simpa using hg
    have hne2 : (G != 0) = true := by simpa using hg
    have HNG := Lib.hid hg
    clear hg
    go_wp2_with fail
    go_ret2
    exact ⟨.slice none 0 0, [], by rw [HG.out]; rfl, Own.nil _ _, below_of_alloc bw1, fun h => absurd (HG.out.symm.trans h) HNG.out, fun _ => rfl⟩
  subst hg
  obtain ⟨hfm, hlen⟩ := goodR_zero HG.out
  have hsz := sizeR_enc v hfm
  have bwd := bw1.drew
  have hS := size_any v _ w1.drew (HRW.out _ bwd) (hs.size hfm)
  rw [← hsz] at hS
  obtain ⟨Z, hZ⟩ : ∃ Z, (encR v).length = Z := ⟨_, rfl⟩
  rw [hZ] at hS hlen
  have HZ := Lib.hid hZ
  have HS := Lib.hid hS
  obtain ⟨MC, hMC, hmk⟩ := run_mk Z hlen
  have HMC := Lib.hid hMC
  obtain ⟨y0, y1, y2, y3, y4⟩ := HCELL.out bw1
  clear hS hsz hfm hZ hMC
  go_upto_region 4 with fail
  go_region_law (first
    | (refine step_call1 48 rfl (.tmp 10) _ rfl rfl (enters_of Tryd.func48 (by kernel_rfl) rfl) HS.out ?_; intro w2 hb2; have bw2 := below_alloc_trans bwd hb2; obtain ⟨x0, x1, x2, x3, x4⟩ := HCELL.out bw2; have hsz2 : w.heap.size + 1 ≤ w2.heap.size := (by have := bw2.size; simpa using this); have bw3 := bw2.alloc (by have := bw2.size; simpa using this) (.cells MC 5); obtain ⟨u0, u1, u2, u3, u4⟩ := HCELL.out bw3; have HR3 := Lib.hid ((HRW.out _ bw2).kept (Keeps.of_below ((Below.refl _ w2).alloc (Nat.le_refl _) (.cells MC 5)) _ (fun k hk _ => hk))); have HO3 := Lib.hid (Own.made w2 w2.heap.size MC Z (Nat.le_refl _) (by omega) HMC.out))
    | (refine step_call2 47 rfl (.tmp 12) (.tmp 13) _ rfl rfl rfl (enters_of Tryd.func47 (by kernel_rfl) rfl) (laid_any v _ _ _ [] w2.heap.size HR3.out HO3.out ?c1 ?c2) ?_; (case c1 => simp); (case c2 => have := HZ.out; simp; omega); rintro v4 w4 ⟨ho4, hg4, hr4⟩))
  all_goals
    clear y0 y1 y2 y3 y4 x0 x1 x2 x3 x4 u0 u1 u2 u3 u4 hmk
    go_wp2_with fail
    go_ret2
    refine ⟨v4, encR v, by rw [HG.out]; rfl, ?_, ?_, fun _ => rfl, fun h => absurd HG.out h⟩
    · simpa using ho4.mono (by omega)
    · exact below_of_alloc (bw3.trans (below_of_grown hg4 _ (by have := bw3.size; simpa using this) (fun k e => by have := HO3.out.lt k e; omega)))
end Go.Proofs.YtljdfainnmpjnaaDoor
