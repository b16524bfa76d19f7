/- The reference's bytes of a value: what it computes, and that it does. -/
import Derived.Test.YtljdfainnmpjnaaDoorLay
import Derived.Test.YtljdfainnmpjnaaDoorTree
import Derived.Deep.RegionHeld3
set_option linter.unusedVariables false
namespace Go.Proofs.YtljdfainnmpjnaaDoor
open Go.RowKit

mutual
def encR : V → List UInt8
  | .mk k n b l f => leByte k 0 :: (if k = 2 then [leByte n 0] else if k = 3 ∨ k = 4 then leBytes n 8 else if k = 5 ∨ k = 6 then leBytes b.length 2 ++ b
      else if k = 7 then leByte l.length 0 :: encL l else if k = 8 then leByte f.length 0 :: encF f else [])
def encL : List V → List UInt8
  | [] => []
  | v :: r => encR v ++ encL r
def encF : List (ByteArray × V) → List UInt8
  | [] => []
  | (s, v) :: r => leByte s.size 0 :: (s.data.toList ++ (encR v ++ encF r))
end
theorem encL_take {l : List V} {i : Nat} (h : i < l.length) : encL (l.take (i + 1)) = encL (l.take i) ++ encR l[i] := by
  induction l generalizing i with
  | nil => cases h
  | cons v r ih =>
    cases i with
    | zero => simp [encL]
    | succ i =>
      have := ih (i := i) (by simpa using h)
      simp only [List.take_succ_cons, encL, List.getElem_cons_succ, this, List.append_assoc]
theorem encF_take {l : List (ByteArray × V)} {i : Nat} (h : i < l.length) :
    encF (l.take (i + 1)) = encF (l.take i) ++ (leByte (l[i]).1.size 0 :: (l[i]).1.data.toList) ++ encR (l[i]).2 := by
  induction l generalizing i with
  | nil => cases h
  | cons v r ih =>
    obtain ⟨s, v⟩ := v
    cases i with
    | zero => simp [encF]
    | succ i =>
      have := ih (i := i) (by simpa using h)
      simp only [List.take_succ_cons, encF, List.getElem_cons_succ, this, List.append_assoc, List.cons_append]
theorem encL_split (l : List V) (i : Nat) : (encL l).length = (encL (l.take i)).length + (encL (l.drop i)).length := by
  induction l generalizing i with
  | nil => simp [encL]
  | cons v r ih =>
    cases i with
    | zero => simp [encL]
    | succ i =>
      have := ih i
      simp only [List.take_succ_cons, List.drop_succ_cons, encL, List.length_append]
      omega
theorem encF_split (l : List (ByteArray × V)) (i : Nat) : (encF l).length = (encF (l.take i)).length + (encF (l.drop i)).length := by
  induction l generalizing i with
  | nil => simp [encF]
  | cons v r ih =>
    obtain ⟨s, v⟩ := v
    cases i with
    | zero => simp [encF]
    | succ i =>
      have := ih i
      simp only [List.take_succ_cons, List.drop_succ_cons, encF, List.length_append, List.length_cons]
      omega
theorem u8_wrap8 (x : Int) : x % 256 = ((leByte x 0).toNat : Int) := by
  rw [leByte_cast]; simp
set_option maxRecDepth 100000 in
set_option maxHeartbeats 4000000 in
theorem bytes_any (v : V) : ∀ (cs : List Value) (w : World), Rep0 w v cs → (encR v).length ≤ 70368744177664 →
    Calls Tryd.prog 52 #[.agg cs.toArray] w fun e w' => ∃ v', e = .returned v' ∧ Own w' w.heap.size v' (encR v) ∧ Below w.heap.size w w' := by
  induction v using V.ind with
  | h k n b l f ihl ihf =>
  intro cs w h hbig
  obtain ⟨AB, AL, AF, cb, cl, cf, L, F, rfl, hk, hn, hb, hB, hl, hL, hLs, hf, hF, hFs, hfn⟩ := h.inv
  clear h
  obtain ⟨X, hX⟩ : ∃ X, Obj.cells #[Value.int .i64 k, .int .u64 n, .slice AB b.length cb, .slice AL l.length cl, .slice AF f.length cf] 27 = X := ⟨_, rfl⟩
  have HX := Lib.hid hX
  clear hX
  obtain ⟨hb1, hb2, hb3⟩ := hb
  obtain ⟨hl1, hl2, hl3⟩ := hl
  obtain ⟨hf1, hf2, hf3⟩ := hf
  obtain ⟨E, hE⟩ : ∃ E, encR (.mk k n b l f) = E := ⟨_, rfl⟩
  rw [hE] at hbig ⊢
  rw [encR] at hE
  have HE := Lib.hid hE
  clear hE
  go_enter Tryd.func52, Tryd.ntmps52
  go_upto_region 1 with fail
  rw [HX.out]
  have hb0 : Below (w.heap.size + 1) (w.alloc X) (w.alloc X) := Below.refl _ _
  obtain ⟨W1, hW1⟩ : ∃ W1, w.alloc X = W1 := ⟨_, rfl⟩
  rw [hW1]
  replace hb0 : Below (w.heap.size + 1) (w.alloc X) W1 := by rw [hW1] at hb0 ⊢; exact hb0
  clear hW1
  have hblk := blk_alloc hb0
  rw [← HX.out] at hblk
  have c0 := cell_blk hblk 0
  clear hblk
  go_upto_region 2 with fail
  rw [u8_wrap8]
  have ho := Own.lit W1 (w.heap.size + 1) [leByte k 0] (by have := hb0.size; simpa using this) (by simp)
  have hb1' := hb0.alloc (by have := hb0.size; simpa using this) (.cells (bcells [leByte k 0]).toArray 5)
  change Code.wp _ _ _ _ (W1.alloc (.cells (bcells [leByte k 0]).toArray 5))
  have c0' : (W1.alloc (.cells (bcells [leByte k 0]).toArray 5)).cell? ⟨w.heap.size, 0, none⟩ = some (.int .i64 k) := by
    rw [hb1'.cell (by simp), ← HX.out]; simp
  obtain ⟨W2, hW2⟩ : ∃ W2, W1.alloc (.cells (bcells [leByte k 0]).toArray 5) = W2 := ⟨_, rfl⟩
  rw [hW2] at ho hb1' c0' ⊢
  simp only [List.length_singleton] at ho
  generalize Value.slice (some ⟨W1.heap.size, 0, none⟩) 1 1 = v3 at ho ⊢
  clear hW2 c0 hb0
  go_upto_block 0 with fail
  clear c0'
  have hsz : w.heap.size + 1 ≤ W2.heap.size := by have := hb1'.size; simpa using this
  go_cut [0, 3] (fun s0 s3 wc => Own wc (w.heap.size + 1) s3 E ∧ Below (w.heap.size + 1) (w.alloc X) wc)
  case rest =>
    obtain ⟨ho, hbc⟩ := hcut
    go_wp2_with fail
    go_ret
    exact ⟨_, rfl, ho.mono (by omega), below_of_alloc hbc⟩
  case first =>
    have hblk := blk_alloc hb1'
    rw [← HX.out] at hblk
    have c1 := cell_blk hblk 1
    have c2 := cell_blk hblk 2
    have c3 := cell_blk hblk 3
    have c4 := cell_blk hblk 4
    clear hblk
    have HO := Lib.hid ho
    have HB1 := Lib.hid hb1'
    clear ho hb1'
    by_cases h2 : k = 2
    · subst h2
      have hE := HE.out
      rw [if_pos rfl] at hE
      have hbx := Lib.hid (brow_box W2 (fun _ => True) trivial _ _ (u8_wrap8 n))
      have hb2' := fun o => Lib.hid (show w.heap.size + 1 ≤ (W2.alloc o).heap.size by simp; omega)
      have HE := Lib.hid hE
      clear hE
      go_wp2_with (at_builtin; go_must (refine app_bytes rfl (.tmp 14) (.tmp 18) rfl (w.heap.size + 1) v3 [leByte 2 0] rfl (HO.out.alloc _) (some ⟨W2.heap.size, 0, none⟩) 1 1 [leByte n 0] rfl rfl hbx.out (by simp) (hb2' _).out ?_; intro v1 w1 ho1 hg1 hat1))
      go_meet
      case rel => exact ⟨by rw [← HE.out]; exact ho1, (HB1.out.alloc (by have := HB1.out.size; simpa using this) _).trans (below_of_grown hg1 _ (by simp; omega) fun k hk => (HO.out.lt k hk).1)⟩
    by_cases h3 : k = 3 ∨ k = 4
    · have hE := HE.out
      rw [if_neg h2, if_pos h3] at hE
      have HE := Lib.hid hE
      have h20 : (k == 2) = false := by simpa using h2
      clear hE h2
      have HP := fun W => Lib.hid (refput_any 8 n W (by omega) hn.1 hn.2)
      rcases h3 with rfl | rfl
      all_goals
        go_wp2_with fail
        refine (HP _).out.mono ?_
        rintro e w1 ⟨v1, rfl, ho1, hb1⟩
        have hoB := HO.out.below hb1
        obtain ⟨A1, cap1, rfl, hc1, hc2, hr1⟩ := ho1.old
        rw [leBytes_length]
        have HOB := Lib.hid hoB
        have HR1 := Lib.hid hr1
        have HL := Lib.hid (show [leByte (0 : Int) 0].length + (leBytes n 8).length ≤ 140737488355328 by simp [leBytes_length])
        have HBS := Lib.hid (show w.heap.size + 1 ≤ w1.heap.size by have := hb1.size; omega)
        clear hoB hr1 ho1 c1 c2 c3 c4
        go_wp2_with (at_builtin; go_must (refine app_bytes rfl (.tmp 23) (.tmp 26) rfl (w.heap.size + 1) v3 _ rfl HOB.out A1 8 cap1 (leBytes n 8) rfl (leBytes_length n 8).symm HR1.out HL.out HBS.out ?_; intro v2 w2 ho2 hg2 hat2))
        go_meet
        case rel => exact ⟨by rw [← HE.out]; exact ho2, (HB1.out.trans (hb1.mono (by omega))).trans (below_of_grown hg2 _ HBS.out fun k hk => (HO.out.lt k hk).1)⟩
    by_cases h5 : k = 5 ∨ k = 6
    · have hE := HE.out
      rw [if_neg h2, if_neg h3, if_pos h5] at hE
      have HE := Lib.hid hE
      have h20 : (k == 2) = false := by simpa using h2
      have h30 : (k == 3) = false := by simp; omega
      have h40 : (k == 4) = false := by simp; omega
      clear hE h2 h3
      have HP := fun W => Lib.hid (refput_any 2 b.length W (by omega) (by omega) (by omega))
      have HBR : Hid (BRow W2 (Old w) AB b) := Lib.hid (hB.kept (Keeps.of_below (below_of_alloc HB1.out) _ fun _ _ h => h))
      have ho' := HO.out
      have hE := HE.out
      obtain ⟨kb, hkb⟩ : ∃ kb, [leByte k 0] = kb := ⟨_, rfl⟩
      have hkl : kb.length = 1 := by rw [← hkb]; rfl
      rw [hkb] at ho'
      change [leByte k 0] ++ (leBytes b.length 2 ++ b) = E at hE
      rw [hkb] at hE
      clear HE
      have HE5 := Lib.hid hE
      have HKL := Lib.hid hkl
      have HO' := Lib.hid ho'
      clear hE hkl ho' hkb
      rcases h5 with rfl | rfl
      all_goals
        go_upto_region 10 with fail
        clear c1 c3 c4
        have hwrap : IntKind.u64.wrap (b.length : Int) = (b.length : Int) := by simp only [IntKind.wrap_u64]; omega
        clear HO
        have HNE := Lib.hid (own_ne HO'.out (show w.heap.size < w.heap.size + 1 by omega))
        have HL1 := Lib.hid (show kb.length + (leBytes b.length 2).length ≤ 140737488355328 by rw [leBytes_length, HKL.out]; omega)
        have HL2 := Lib.hid (show (kb ++ leBytes b.length 2).length + b.length ≤ 140737488355328 by rw [List.length_append, leBytes_length, HKL.out]; have := congrArg List.length HE5.out; simp only [List.length_append] at this; omega)
        go_region_held3 (fun w' => w'.cell? ⟨w.heap.size, 2, none⟩ = some (.slice AB b.length cb))
          (first | go_keep | (exact below_cell hb1 (by assumption)) | (exact World.grownBy.cell hg2 (by assumption) HNE.out) | (exact World.grownBy.cell hg4 (by assumption) (own_ne ho2 (show w.heap.size < w.heap.size + 1 by omega))))
          (first
            | (go_at_call 76; refine (HP _).out.mono ?_; rintro e w1 ⟨v1, rfl, ho1, hb1⟩; obtain ⟨A1, cap1, rfl, hc1, hc2, hr1⟩ := ho1.old)
            | (refine step_app_bytes rfl (.tmp 31) (.tmp 36) rfl (w.heap.size + 1) v3 kb rfl ((HO'.out.below (below_drew _)).below hb1) _ _ _ (leBytes b.length 2) rfl rfl hr1 HL1.out (Nat.le_trans hsz hb1.size) ?_; intro v2 w2 ho2 hg2 hat2)
            | (refine step_app_bytes rfl (.tmp 37) (.tmp 39) rfl (w.heap.size + 1) v2 (kb ++ leBytes b.length 2) rfl ho2 AB b.length cb b rfl rfl (((HBR.out.belowS (below_drew _)).belowS hb1).grown hg2 (fun k hk hS => absurd hS (by have := (HO'.out.lt k hk).1; show ¬ k < _; omega))) HL2.out (Nat.le_trans hsz (Nat.le_trans hb1.size hg2.size)) ?_; intro v4 w4 ho4 hg4 hat4))
        go_wp2_with fail
        go_meet
        case rel =>
          refine ⟨by rw [← HE5.out]; simpa using ho4, ?_⟩
          refine ((((HB1.out.trans ((below_drew _).mono hsz)).trans (hb1.mono hsz)).trans (below_of_grown hg2 _ (Nat.le_trans hsz hb1.size) fun k hk => (HO'.out.lt k hk).1))).trans (below_of_grown hg4 _ (Nat.le_trans hsz (Nat.le_trans hb1.size hg2.size)) fun k hk => (ho2.lt k hk).1)
    have h20 : (k == 2) = false := by simpa using h2
    have h30 : (k == 3) = false := by simp; omega
    have h40 : (k == 4) = false := by simp; omega
    have h50 : (k == 5) = false := by simp; omega
    have h60 : (k == 6) = false := by simp; omega
    have HF := Lib.hid (show hk = hk from rfl)
    by_cases h7 : k = 7
    · have hE := HE.out
      rw [if_neg h2, if_neg h3, if_neg h5, if_pos h7] at hE
      subst h7
      have HE := Lib.hid hE
      have hlE : (encL l).length ≤ 70368744177664 := by have := congrArg List.length hE; simp at this; omega
      clear hE h2 h3 h5 h20 h30 h40 h50 h60 HF
      have hbx := Lib.hid (brow_box W2 (fun _ => True) trivial _ _ (u8_wrap8 l.length))
      have hb2' := fun o => Lib.hid (show w.heap.size + 1 ≤ (W2.alloc o).heap.size by simp; omega)
      go_wp2_with (at_builtin; go_must (refine app_bytes rfl (.tmp 43) (.tmp 48) rfl (w.heap.size + 1) v3 [leByte 7 0] rfl (HO.out.alloc _) (some ⟨W2.heap.size, 0, none⟩) 1 1 [leByte l.length 0] rfl rfl hbx.out (by simp) (hb2' _).out ?_; intro v4 w4 ho4 hg4 hat4))
      have hb4 : Below (w.heap.size + 1) (w.alloc X) w4 := (HB1.out.alloc (by have := HB1.out.size; simpa using this) _).trans (below_of_grown hg4 _ (by simp; omega) fun k hk => (HO.out.lt k hk).1)
      clear HB1 HO hg4 hat4 c1 c2 c3 c4 hbx hb2'
      generalize hkb : [leByte (7 : Int) 0] ++ [leByte (l.length : Int) 0] = kb at ho4
      have HKB := Lib.hid hkb
      have hkl : kb.length = 2 := by rw [← hkb]; rfl
      have HKL := Lib.hid hkl
      clear hkb hkl
      go_loopg [3, 4] l.length (fun g t3 t4 wr => ∃ i : Nat, i ≤ l.length ∧ t4 = .int .i64 i ∧ Own wr (w.heap.size + 1) t3 (kb ++ encL (l.take i)) ∧ l.length ≤ i + g ∧ Below (w.heap.size + 1) (w.alloc X) wr)
      case atStart => exact ⟨0, by omega, rfl, by simpa [encL] using ho4, by omega, hb4⟩
      case round =>
        clear hb4 ho4
        obtain ⟨i, hi, rfl, ho, hg, hbw⟩ := hrel
        have HO := Lib.hid ho
        clear ho
        have hblk := blk_alloc hbw
        rw [← HX.out] at hblk
        have c3 := cell_blk hblk 3
        clear hblk
        by_cases hlt : i < l.length
        · have hLw := hL.kept (Keeps.of_below (below_of_alloc hbw) _ fun _ _ h => h)
          obtain ⟨bb, o, x0, x1, x2, x3, x4, hAd, hLi, e0, e1, e2, e3, e4⟩ := hLw.at5 hlt
          have hRi : Rep0 wr l[i] [x0, x1, x2, x3, x4] := by rw [← hLi]; exact Rep0.below (below_of_alloc hbw) (hLs i hlt)
          clear hLi hLw
          subst hAd
          have hsp := encL_split l (i + 1)
          rw [encL_take hlt, List.length_append] at hsp
          have hle : (encR l[i]).length ≤ 70368744177664 := by omega
          have HSUM := Lib.hid (show (kb ++ encL (l.take i)).length + (encR l[i]).length ≤ 140737488355328 by rw [List.length_append, HKL.out]; omega)
          clear hsp
          go_wp2_with fail
          refine (ihl i hlt _ _ hRi hle).mono ?_
          rintro e w1 ⟨v1, rfl, ho1, hb1⟩
          obtain ⟨A1, cap1, rfl, hc1, hc2, hr1⟩ := ho1.old
          have hsw : w.heap.size + 1 ≤ w1.heap.size := Nat.le_trans (below_alloc_size hbw) hb1.size
          clear c3 e0 e1 e2 e3 e4
          have HR1 := Lib.hid hr1
          have HO1 := Lib.hid (HO.out.below hb1)
          clear hr1 ho1
          go_wp2_with (at_builtin; go_must (refine app_bytes rfl (.tmp 57) (.tmp 63) rfl (w.heap.size + 1) u3 (kb ++ encL (l.take i)) rfl HO1.out A1 _ cap1 (encR l[i]) rfl rfl HR1.out HSUM.out hsw ?_; intro v2 w2 ho2 hg2 hat2))
          go_wp2_with fail
          go_roundg (gk - 1)
          case measure => omega
          case rel =>
            exact ⟨i + 1, by omega, by go_num, by rw [encL_take hlt, ← List.append_assoc]; exact ho2, by omega, (below_alloc_trans hbw hb1).trans (below_of_grown hg2 _ hsw fun k hk => (HO.out.lt k hk).1)⟩
        · go_wp2_with fail
          go_meet
          case rel =>
            refine ⟨?_, hbw⟩
            have ho := HO.out
            rw [List.take_of_length_le (by omega), ← HKB.out] at ho
            rw [← HE.out]
            exact ho
    by_cases h8 : k = 8
    · have hE := HE.out
      rw [if_neg h2, if_neg h3, if_neg h5, if_neg h7, if_pos h8] at hE
      have h70 : (k == 7) = false := by simpa using h7
      clear HE
      subst h8
      have HE := Lib.hid hE
      have hlE : (encF f).length ≤ 70368744177664 := by have := congrArg List.length hE; simp at this; omega
      clear hE h2 h3 h5 h7 HF
      have hbx := Lib.hid (brow_box W2 (fun _ => True) trivial _ _ (u8_wrap8 f.length))
      have hb2' := fun o => Lib.hid (show w.heap.size + 1 ≤ (W2.alloc o).heap.size by simp; omega)
      go_wp2_with (at_builtin; go_must (refine app_bytes rfl (.tmp 67) (.tmp 72) rfl (w.heap.size + 1) v3 [leByte 8 0] rfl (HO.out.alloc _) (some ⟨W2.heap.size, 0, none⟩) 1 1 [leByte f.length 0] rfl rfl hbx.out (by simp) (hb2' _).out ?_; intro v4 w4 ho4 hg4 hat4))
      have hb4 : Below (w.heap.size + 1) (w.alloc X) w4 := (HB1.out.alloc (by have := HB1.out.size; simpa using this) _).trans (below_of_grown hg4 _ (by simp; omega) fun k hk => (HO.out.lt k hk).1)
      clear HB1 HO hg4 hat4 c1 c2 c3 c4 hbx hb2'
      generalize hkb : [leByte (8 : Int) 0] ++ [leByte (f.length : Int) 0] = kb at ho4
      have HKB := Lib.hid hkb
      have hkl : kb.length = 2 := by rw [← hkb]; rfl
      have HKL := Lib.hid hkl
      clear hkb hkl
      go_loopg [3, 5] f.length (fun g t3 t5 wr => ∃ i : Nat, i ≤ f.length ∧ t5 = .int .i64 i ∧ Own wr (w.heap.size + 1) t3 (kb ++ encF (f.take i)) ∧ f.length ≤ i + g ∧ Below (w.heap.size + 1) (w.alloc X) wr)
      case atStart => exact ⟨0, by omega, rfl, by simpa [encF] using ho4, by omega, hb4⟩
      case round =>
        clear hb4 ho4
        obtain ⟨i, hi, rfl, ho, hg, hbw⟩ := hrel
        have HO := Lib.hid ho
        clear ho
        have hblk := blk_alloc hbw
        rw [← HX.out] at hblk
        have c4 := cell_blk hblk 4
        by_cases hlt : i < f.length
        · have hLw := hF.kept (Keeps.of_below (below_of_alloc hbw) _ fun _ _ h => h)
          obtain ⟨bb, o, s, x0, x1, x2, x3, x4, hAd, hLi, e, e0, e1, e2, e3, e4⟩ := hLw.at6 hlt
          obtain ⟨hsn, hsl⟩ := List.cons.inj hLi
          rw [getD_at hlt] at hsn
          have hRi : Rep0 wr (f[i]).2 [x0, x1, x2, x3, x4] := by rw [← hsl]; exact Rep0.below (below_of_alloc hbw) (hFs i hlt)
          have hbb : bb < w.heap.size := by
            obtain ⟨b', o', hA', hS', -⟩ := hF (by omega)
            rw [hAd] at hA'
            cases hA'
            exact hS'
          clear hLi hLw hblk hsl
          subst hAd hsn
          have hsp := encF_split f (i + 1)
          have htk := encF_take hlt
          rw [htk] at hsp
          have HTK := Lib.hid htk
          simp only [List.length_append, List.length_cons] at hsp
          have hle : (encR (f[i]).2).length ≤ 70368744177664 := by omega
          have hnm := hfn i hlt
          have hds : (f[i]).1.data.toList.length = (f[i]).1.size := by simp
          obtain ⟨P0, hP0⟩ : ∃ P0, kb ++ encF (f.take i) = P0 := ⟨_, rfl⟩
          have hP0l : P0.length + 1 + (f[i]).1.size + (encR (f[i]).2).length ≤ 70368744177670 := by rw [← hP0, List.length_append, HKL.out]; omega
          have HP0 := Lib.hid hP0
          have ho := HO.out
          rw [hP0] at ho
          clear HO hsp htk hds hP0
          have HO := Lib.hid ho
          clear ho
          have hsw : w.heap.size + 1 ≤ wr.heap.size := below_alloc_size hbw
          go_upto_region 22 with fail
          have hbx := fun (W : World) => Lib.hid (brow_box W (fun _ => True) trivial _ _ (u8_wrap8 (f[i]).1.size))
          go_cut [3] (fun t3 wc => Own wc (w.heap.size + 1) t3 (P0 ++ (leByte (f[i]).1.size 0 :: (f[i]).1.data.toList)) ∧ Below (w.heap.size + 1) (w.alloc X) wc)
          case first =>
            have hwrap : IntKind.u8.wrap ((f[i]).1.size : Int) = ((f[i]).1.size : Int) % 256 := by simp only [IntKind.wrap_u8]
            have HN1 := Lib.hid (own_ne HO.out (show w.heap.size < w.heap.size + 1 by omega))
            have HN2 := Lib.hid (own_ne HO.out (show bb < w.heap.size + 1 by omega))
            have HS1 := Lib.hid (show P0.length + 1 ≤ 140737488355328 by omega)
            have HS2 := Lib.hid (show (P0 ++ [leByte (f[i]).1.size 0]).length + (f[i]).1.size ≤ 140737488355328 by simp only [List.length_append, List.length_singleton]; omega)
            go_region_held3 (fun w' => w'.cell? ⟨w.heap.size, 4, none⟩ = some (.slice (some ⟨bb, o, none⟩) f.length cf) ∧ w'.cell? ⟨bb, o + i * 6, none⟩ = some (.string (f[i]).1))
              (first
                | go_keep
                | (go_split_ands; exact ⟨World.grownBy.cell hg2 (by assumption) HN1.out, World.grownBy.cell hg2 (by assumption) HN2.out⟩)
                | (go_split_ands; exact ⟨World.grownBy.cell hg4 (by assumption) (own_ne ho2 (show w.heap.size < w.heap.size + 1 by omega)), World.grownBy.cell hg4 (by assumption) (own_ne ho2 (show bb < w.heap.size + 1 by omega))⟩))
              (first
                | (refine step_app_bytes rfl (.tmp 81) (.tmp 90) rfl (w.heap.size + 1) u3 P0 rfl ((HO.out.below (below_drew _)).alloc _) _ _ _ [leByte (f[i]).1.size 0] rfl rfl (hbx _).out HS1.out (Nat.le_trans hsw (by simp)) ?_; intro v2 w2 ho2 hg2 hat2)
                | (refine step_app_str rfl (.tmp 91) (.tmp 97) rfl (w.heap.size + 1) v2 _ rfl ho2 (f[i]).1 rfl HS2.out (Nat.le_trans hsw (Nat.le_trans (by simp) hg2.size)) ?_; intro v4 w4 ho4 hg4 hat4))
            go_wp2_with fail
            go_meet
            case rel =>
              refine ⟨by simpa using ho4, ?_⟩
              exact ((((hbw.trans ((below_drew _).mono hsw)).alloc hsw _).trans (below_of_grown hg2 _ (Nat.le_trans hsw (by simp)) fun k hk => (HO.out.lt k hk).1))).trans (below_of_grown hg4 _ (Nat.le_trans hsw (Nat.le_trans (by simp) hg2.size)) fun k hk => (ho2.lt k hk).1)
          case rest =>
            obtain ⟨ho2, hbc⟩ := hcut
            have HO2 := Lib.hid ho2
            have hFc := hF.kept (Keeps.of_below (below_of_alloc hbc) _ fun _ _ h => h)
            obtain ⟨bb', o', s', y0, y1, y2, y3, y4, hAd', hLi', g, g0, g1, g2, g3, g4⟩ := hFc.at6 hlt
            injection hAd' with hAd'
            injection hAd' with hAd1 hAd2
            subst hAd1 hAd2
            have hsl' := (List.cons.inj hLi').2
            have hRc : Rep0 wc (f[i]).2 [y0, y1, y2, y3, y4] := by rw [← hsl']; exact Rep0.below (below_of_alloc hbc) (hFs i hlt)
            have hblk := blk_alloc hbc
            rw [← HX.out] at hblk
            have d4 := cell_blk hblk 4
            clear hsl' hLi' hFc hblk c4 e e0 e1 e2 e3 e4 hRi ho2 hbx
            go_wp2_with fail
            refine (ihf i hlt _ _ hRc hle).mono ?_
            rintro e w1 ⟨v1, rfl, ho1, hb1⟩
            obtain ⟨A1, cap1, rfl, hc1, hc2, hr1⟩ := ho1.old
            have hsw1 : w.heap.size + 1 ≤ w1.heap.size := Nat.le_trans (below_alloc_size hbc) hb1.size
            clear d4 g g0 g1 g2 g3 g4
            have HR1 := Lib.hid hr1
            have HO1 := Lib.hid (HO2.out.below hb1)
            have HSUM := Lib.hid (show (P0 ++ (leByte (f[i]).1.size 0 :: (f[i]).1.data.toList)).length + (encR (f[i]).2).length ≤ 140737488355328 by simp only [List.length_append, List.length_cons, Array.length_toList]; have : (f[i]).1.data.size = (f[i]).1.size := rfl; omega)
            clear hr1 ho1
            go_wp2_with (at_builtin; go_must (refine app_bytes rfl (.tmp 99) (.tmp 106) rfl (w.heap.size + 1) u3 _ rfl HO1.out A1 _ cap1 (encR (f[i]).2) rfl rfl HR1.out HSUM.out hsw1 ?_; intro v2 w2 ho3 hg2 hat2))
            go_wp2_with fail
            go_roundg (gk - 1)
            case measure => omega
            case rel =>
              refine ⟨i + 1, by omega, by go_num, ?_, by omega, (below_alloc_trans hbc hb1).trans (below_of_grown hg2 _ hsw1 fun k hk => (HO2.out.lt k hk).1)⟩
              rw [HTK.out, ← List.append_assoc, ← List.append_assoc, HP0.out]
              exact ho3
        · clear hblk
          go_wp2_with fail
          go_meet
          case rel =>
            refine ⟨?_, hbw⟩
            have ho := HO.out
            rw [List.take_of_length_le (by omega), ← HKB.out] at ho
            rw [← HE.out]
            exact ho
    · have hE := HE.out
      rw [if_neg h2, if_neg h3, if_neg h5, if_neg h7, if_neg h8] at hE
      have HE := Lib.hid hE
      have h70 : (k == 7) = false := by simpa using h7
      have h80 : (k == 8) = false := by simpa using h8
      clear hE h2 h3 h5 h7 h8
      go_wp2_with fail
      go_meet
      case rel => exact ⟨by rw [← HE.out]; exact HO.out, HB1.out⟩
end Go.Proofs.YtljdfainnmpjnaaDoor
