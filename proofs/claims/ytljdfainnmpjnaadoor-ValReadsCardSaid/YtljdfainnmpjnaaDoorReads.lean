/- The law ValReads: the walk. -/
import Derived.Test.YtljdfainnmpjnaaDoorAwake
import Derived.Test.YtljdfainnmpjnaaDoorRefs
set_option linter.unusedVariables false
namespace Go.Proofs.YtljdfainnmpjnaaDoor
open Go.RowKit

set_option maxRecDepth 100000 in
set_option maxHeartbeats 4000000 in
theorem valReads_any (bs : List UInt8) (A : Option Addr) (c : Nat) (w : World) (hA : BRow0 w A bs) (hc : bs.length ≤ c) (hc2 : c ≤ 9223372036854775807) (hT : Tabs w) :
    Calls Tryd.prog 3 #[.slice A bs.length c] w fun e w' => e = .returned (.bool true) ∧ Below w.heap.size w w' := by
  have h1 := get_any validC nameC bs w _ A c hA (fun k hk => hk) hc hc2 hT
  have h2 := fun W (hb : Below w.heap.size w W) => refGet_any bs W A c (hA.below hb) hc
  generalize getV bs = g at h1 h2
  obtain ⟨⟨k, n, b, l, f⟩, E⟩ := g
  have H1 := Lib.hid h1
  have H2 := @Lib.hid _ @h2
  clear h1 h2
  go_enter Tryd.func3, Tryd.ntmps3
  go_wp2_with fail
  refine H1.out.mono ?_
  rintro e w1 ⟨cs1, rfl, hr1, hb1⟩
  dsimp only at hr1 ⊢
  have hr1' := hr1.old
  obtain ⟨AB, AL, AF, cb, cl, cf, L, F, rfl, -⟩ := hr1.inv
  clear hr1
  have b12 := (Below.refl w1.heap.size w1).alloc (Nat.le_refl _) (.cells #[.int .i64 k, .int .u64 n, .slice AB b.length cb, .slice AL l.length cl, .slice AF f.length cf] 27)
  have q2 := heap_alloc_new w1 (.cells #[.int .i64 k, .int .u64 n, .slice AB b.length cb, .slice AL l.length cl, .slice AF f.length cf] 27)
  have r2 := Rep0.below b12 hr1'
  have HB2 := Lib.hid (below_step hb1 (Nat.le_refl _) b12)
  clear hr1' b12 hb1
  go_wp2_with fail
  generalize w1.alloc _ = w2 at q2 r2 HB2 ⊢
  refine (H2.out w2 HB2.out).mono ?_
  rintro e w3 ⟨cs2, rfl, hr3, hb3⟩
  dsimp only at hr3 ⊢
  have hr3' := hr3.old
  obtain ⟨AB2, AL2, AF2, cb2, cl2, cf2, L2, F2, rfl, -⟩ := hr3.inv
  clear hr3
  have b34 := (Below.refl w3.heap.size w3).alloc (Nat.le_refl _) (.cells #[.int .i64 k, .int .u64 n, .slice AB2 b.length cb2, .slice AL2 l.length cl2, .slice AF2 f.length cf2] 27)
  have q4 := heap_alloc_new w3 (.cells #[.int .i64 k, .int .u64 n, .slice AB2 b.length cb2, .slice AL2 l.length cl2, .slice AF2 f.length cf2] 27)
  have q24 := blk_below (blk_below q2 hb3) b34
  have r24 := Rep0.below b34 (Rep0.below hb3 r2)
  have r4 := Rep0.below b34 hr3'
  have HB4 := Lib.hid (below_step (below_step HB2.out (Nat.le_refl _) hb3) (Nat.le_refl _) b34)
  clear hr3' b34 hb3 q2 r2 HB2
  go_wp2_with fail
  generalize w3.alloc _ = w4 at q4 q24 r24 r4 HB4 ⊢
  refine (awake_any w4 (hT.below HB4.out)).mono ?_
  rintro e w5 ⟨rfl, hb5⟩
  have q5 := blk_below q4 hb5
  have q25 := blk_below q24 hb5
  have r5 := Rep0.below hb5 r4
  have r25 := Rep0.below hb5 r24
  have HB5 := Lib.hid (below_step HB4.out (Nat.le_refl _) hb5)
  have hS := lawsame_any (.mk k n b l f) (.mk k n b l f) _ _ w5 r25 r5
  rw [sameR_refl] at hS
  have HS := Lib.hid hS
  have a0 := cell_blk q25 0; have a1 := cell_blk q25 1; have a2 := cell_blk q25 2; have a3 := cell_blk q25 3; have a4 := cell_blk q25 4
  have b0 := cell_blk q5 0; have b1 := cell_blk q5 1; have b2 := cell_blk q5 2; have b3 := cell_blk q5 3; have b4 := cell_blk q5 4
  clear q4 q24 r24 r4 HB4 hb5 q5 q25 r5 r25 hS
  go_wp2_with fail
  refine HS.out.mono ?_
  rintro e w6 ⟨rfl, hb6⟩
  go_wp2_with fail
  go_ret
  exact ⟨rfl, below_step HB5.out (Nat.le_refl _) hb6⟩
end Go.Proofs.YtljdfainnmpjnaaDoor
