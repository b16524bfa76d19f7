/- The program's writer of values. -/
import Derived.Test.YtljdfainnmpjnaaDoorSize
import Derived.Test.YtljdfainnmpjnaaDoorBytes
import Derived.Test.YtljdfainnmpjnaaDoorFormed
import Derived.Deep.CutBlock
set_option linter.unusedVariables false
namespace Go.Proofs.YtljdfainnmpjnaaDoor
open Go.RowKit

theorem blk_stay {W W' : World} {b : Nat} {X : Obj} {row : Option Nat} (h : W.heap[b]? = some X) (hg : W.grownBy W' row) (hne : row ≠ some b) : W'.heap[b]? = some X := by
  rw [hg.block b (Array.getElem?_eq_some_iff.1 h).1 (fun e => hne e.symm)]; exact h
/-- The walk of the writer: from w1 on the slice v0 has become t, which holds bs. -/
structure LS (w1 : World) (base : Nat) (v0 t : Value) (bs : List UInt8) (W : World) : Prop where
  own : Own W base t bs
  grown : w1.grownBy W v0.ownBlock
  row : Row1 w1 v0 t
theorem LS.app {w1 W W' : World} {base : Nat} {v0 t t' : Value} {bs bs' : List UInt8} (h : LS w1 base v0 t bs W) (ho : Own W' base t' bs') (hg : W.grownBy W' t.ownBlock) (hr : Row1 W t t') : LS w1 base v0 t' bs' W' :=
  ⟨ho, grown_trans h.grown hg h.row, h.row.trans h.grown.size hr⟩
theorem LS.app' {w1 W W' : World} {base : Nat} {v0 t t' : Value} {bs bs' : List UInt8} (h : LS w1 base v0 t bs W) (ho : Own W' base t' bs') (hg : W.grownBy W' t.ownBlock) (hr : t'.ownBlock = t.ownBlock ∨ t'.ownBlock = some W.heap.size) : LS w1 base v0 t' bs' W' :=
  h.app ho hg (Row1.step (Row1.refl _ _) (Nat.le_refl _) hr)
theorem LS.below {w1 W W' : World} {base : Nat} {v0 t : Value} {bs : List UInt8} (h : LS w1 base v0 t bs W) (hb : Below W.heap.size W W') : LS w1 base v0 t bs W' :=
  ⟨h.own.below hb, grown_trans h.grown (grown_of_below hb v0.ownBlock) (.inl rfl), h.row⟩
/-- What lies outside of the row lies as it did. -/
theorem LS.keeps {w1 W : World} {base : Nat} {v0 t : Value} {bs : List UInt8} (h : LS w1 base v0 t bs W) (hv : ∀ k, v0.ownBlock = some k → base ≤ k) : Keeps (fun k => k < base) w1 W :=
  Keeps.of_grown h.grown _ (fun k e hS => by have := hv k e; omega)
theorem LS.cell {w1 W : World} {base : Nat} {v0 t : Value} {bs : List UInt8} (h : LS w1 base v0 t bs W) {b j : Nat} {x : Value} (hb : b < w1.heap.size) (hne : v0.ownBlock ≠ some b) (hx : w1.cell? ⟨b, j, none⟩ = some x) : W.cell? ⟨b, j, none⟩ = some x := by
  rw [World.cell?_of_block (w := w1) (h.grown.block b hb (fun e => hne e.symm))]
  exact hx

section
variable {ops : Array Oper} {rest : List Oper} {o : Oper} {a : Act} {Q : Exit → Act → World → Prop} {w : World}
theorem step_call3 {K : Act → World → Prop} {E : Prop} (f : FuncId) (hgd : o.guard = none) (x y z : Operand) (ts : Array TypeId) (ho : o.op = .call { callee := .value (.func f), args := #[x, y, z], argTypes := ts })
    {p q s : Value} (hx : a.eval x = p) (hy : a.eval y = q) (hz : a.eval z = s) (he : ∀ args w, (callFunc f args).run Tryd.prog w = .ok (.enter f args) w) {R : Value → World → Prop} (h : Calls Tryd.prog f #[p, q, s] w (fun e w' => ∃ r, e = .returned r ∧ R r w'))
    (hK : ∀ r w', R r w' → K (a.put o.dst r) w') :
    if Region.wanted o (yielded ops a.tmps) = true then Oper.wp Tryd.prog o a w K Q else E := by
  have hw : Region.wanted o (yielded ops a.tmps) = true := by simp [Region.wanted, hgd]
  rw [if_pos hw]
  have e : (execOp a.eval o).run Tryd.prog w = .ok (.enter f #[p, q, s]) w := by
    unfold execOp
    simp only [ho]
    have hf : a.eval (.func f) = .func (.func f) #[] #[] := rfl
    simp [resolve, hx, hy, hz, hf, Deferred.ofValue, invoke, he]
  unfold Oper.wp
  rw [e, Oper.upon_enter]
  refine h.mono ?_
  rintro e' w' ⟨r, rfl, hr⟩
  exact hK r w' hr
theorem step_call2 {K : Act → World → Prop} {E : Prop} (f : FuncId) (hgd : o.guard = none) (x y : Operand) (ts : Array TypeId) (ho : o.op = .call { callee := .value (.func f), args := #[x, y], argTypes := ts })
    {p q : Value} (hx : a.eval x = p) (hy : a.eval y = q) (he : ∀ args w, (callFunc f args).run Tryd.prog w = .ok (.enter f args) w) {R : Value → World → Prop} (h : Calls Tryd.prog f #[p, q] w (fun e w' => ∃ r, e = .returned r ∧ R r w'))
    (hK : ∀ r w', R r w' → K (a.put o.dst r) w') :
    if Region.wanted o (yielded ops a.tmps) = true then Oper.wp Tryd.prog o a w K Q else E := by
  have hw : Region.wanted o (yielded ops a.tmps) = true := by simp [Region.wanted, hgd]
  rw [if_pos hw]
  have e : (execOp a.eval o).run Tryd.prog w = .ok (.enter f #[p, q]) w := by
    unfold execOp
    simp only [ho]
    have hf : a.eval (.func f) = .func (.func f) #[] #[] := rfl
    simp [resolve, hx, hy, hf, Deferred.ofValue, invoke, he]
  unfold Oper.wp
  rw [e, Oper.upon_enter]
  refine h.mono ?_
  rintro e' w' ⟨r, rfl, hr⟩
  exact hK r w' hr
end

set_option maxRecDepth 100000 in
set_option maxHeartbeats 8000000 in
theorem laid_any (v : V) : ∀ (cs : List Value) (w : World) (v0 : Value) (bs : List UInt8) (base : Nat), Rep w (fun k => k < base) v cs → Own w base v0 bs → base ≤ w.heap.size → bs.length + (encR v).length ≤ 70368744177664 →
    Calls Tryd.prog 47 #[v0, .agg cs.toArray] w fun e w' => ∃ v', e = .returned v' ∧ Own w' base v' (bs ++ encR v) ∧ w.grownBy w' v0.ownBlock ∧ Row1 w v0 v' := by
  induction v using V.ind with
  | h k n b l f ihl ihf =>
  intro cs w v0 bs base h hown hbase hbig
  obtain ⟨AB, AL, AF, cb, cl, cf, L, F, rfl, hk, hn, hb, hB, hl, hL, hLs, hf, hF, hFs, hfn⟩ := h.inv
  clear h
  obtain ⟨X, hX⟩ : ∃ X, Obj.cells #[Value.int .i64 k, .int .u64 n, .slice AB b.length cb, .slice AL l.length cl, .slice AF f.length cf] 27 = X := ⟨_, rfl⟩
  have HX := Lib.hid hX
  clear hX
  obtain ⟨hb1, hb2, hb3⟩ := hb
  obtain ⟨hl1, hl2, hl3⟩ := hl
  obtain ⟨hf1, hf2, hf3⟩ := hf
  obtain ⟨E, hE⟩ : ∃ E, encR (.mk k n b l f) = E := ⟨_, rfl⟩
  rw [hE] at hbig ⊢
  rw [encR] at hE
  have HE := Lib.hid hE
  clear hE
  obtain ⟨w1, hw1⟩ : ∃ w1, w.alloc X = w1 := ⟨_, rfl⟩
  have hw1s : w1.heap.size = w.heap.size + 1 := by rw [← hw1]; simp
  have hbw1 : Below w.heap.size w w1 := by rw [← hw1]; exact (Below.refl _ _).alloc (Nat.le_refl _) _
  have hblk : w1.heap[w.heap.size]? = some X := by rw [← hw1]; exact heap_alloc_new w X
  rw [← HX.out] at hblk
  have hlt0 : ∀ k, v0.ownBlock = some k → base ≤ k ∧ k < w.heap.size := hown.lt
  have hne0 : v0.ownBlock ≠ some w.heap.size := fun e => by have := hlt0 _ e; omega
  have ls0 : LS w1 base v0 v0 bs w1 := ⟨hown.below hbw1, ⟨rfl, rfl, rfl, Nat.le_refl _, fun _ _ _ => rfl⟩, Row1.refl _ _⟩
  have hk1 : Keeps (fun k => k < base) w w1 := Keeps.of_below hbw1 _ (fun k hk hS => hk)
  have hL1 := hL.kept hk1
  have hLs1 := fun i h => (hLs i h).kept hk1
  have hF1 := hF.kept hk1
  have hFs1 := fun i h => (hFs i h).kept hk1
  have hB1 := hB.kept hk1
  clear hL hLs hF hFs hB hk1 hown
  have z0 := cell_blk hblk 0
  have z1 := cell_blk hblk 1
  have z2 := cell_blk hblk 2
  have z3 := cell_blk hblk 3
  have z4 := cell_blk hblk 4
  have CELL : ∀ {t : Value} {bs' : List UInt8} {W : World}, LS w1 base v0 t bs' W → W.cell? ⟨w.heap.size, 0, none⟩ = some (.int .i64 k) ∧ W.cell? ⟨w.heap.size, 1, none⟩ = some (.int .u64 n) ∧ W.cell? ⟨w.heap.size, 2, none⟩ = some (.slice AB b.length cb) ∧ W.cell? ⟨w.heap.size, 3, none⟩ = some (.slice AL l.length cl) ∧ W.cell? ⟨w.heap.size, 4, none⟩ = some (.slice AF f.length cf) := fun {t bs' W} ls =>
    ⟨ls.cell (by omega) hne0 z0, ls.cell (by omega) hne0 z1, ls.cell (by omega) hne0 z2, ls.cell (by omega) hne0 z3, ls.cell (by omega) hne0 z4⟩
  have KEEP : ∀ {t : Value} {bs' : List UInt8} {W : World}, LS w1 base v0 t bs' W → Keeps (fun k => k < base) w1 W := fun {t bs' W} ls => ls.keeps (fun k e => (hlt0 k e).1)
  have HCELL := @Lib.hid _ @CELL
  have HKEEP := @Lib.hid _ @KEEP
  have hfin : ∀ {t : Value} {W : World}, LS w1 base v0 t (bs ++ E) W → ∃ v', Ending.returned t = .returned v' ∧ Own W base v' (bs ++ E) ∧ w.grownBy W v0.ownBlock ∧ Row1 w v0 v' := fun {t W} ls =>
    ⟨t, rfl, ls.own, grown_trans (grown_of_below hbw1 _) ls.grown (.inl rfl), (Row1.refl w v0).trans (Nat.le_refl _) (ls.row.imp id (fun h k hk => by have := h k hk; omega))⟩
  have HFIN := @Lib.hid _ @hfin
  clear CELL KEEP hfin hblk z1 z2 z3 z4
  go_enter Tryd.func47, Tryd.ntmps47
  go_upto_region 1 with fail
  rw [HX.out, hw1]
  have hE1 : 1 ≤ E.length := by rw [← HE.out]; simp
  have hbx0 := brow_box w1 (fun _ => True) trivial _ _ (u8_wrap8 k)
  rw [hw1s] at hbx0
  have hbx := Lib.hid hbx0
  have hbl := Lib.hid (show bs.length + [leByte k 0].length ≤ 140737488355328 by simp; omega)
  have hbb := Lib.hid (show base ≤ (w1.alloc (.cells #[.int .u8 (k % 256)] 5)).heap.size by simp; omega)
  go_upto_block 0 with (at_builtin; go_must (refine app_bytes rfl (.tmp 9) (.tmp 13) rfl base v0 bs rfl (ls0.own.alloc _) (some ⟨w.heap.size + 1, 0, none⟩) 1 1 [leByte k 0] rfl rfl hbx.out hbl.out hbb.out ?_; intro v3 w3 ho3 hg3 hat3; have ls3 := (ls0.below ((Below.refl _ _).alloc (Nat.le_refl _) (.cells #[.int .u8 (k % 256)] 5))).app' ho3 hg3 hat3; have y0 := (HCELL.out ls3).1))
  clear hbx0 hbx hbl hbb ho3 hg3 hat3 ls0 z0 y0
  have LS3 := Lib.hid ls3
  clear ls3
  go_cut [0] (fun s0 wc => LS w1 base v0 s0 (bs ++ E) wc)
  case rest =>
    have HC := Lib.hid hcut
    clear hcut
    go_wp2_with fail
    go_ret
    exact HFIN.out HC.out
  case first =>
    obtain ⟨-, y1, y2, y3, y4⟩ := HCELL.out LS3.out
    have hsz3 : w.heap.size + 1 ≤ w3.heap.size := by have := LS3.out.grown.size; omega
    by_cases h2 : k = 2
    · subst h2
      have hE := HE.out
      rw [if_pos rfl] at hE
      have HE := Lib.hid hE
      clear hE y2 y3 y4
      have hbx := Lib.hid (brow_box w3 (fun _ => True) trivial _ _ (u8_wrap8 n))
      have hbl := Lib.hid (show (bs ++ [leByte 2 0]).length + [leByte n 0].length ≤ 140737488355328 by simp; omega)
      have hbb := Lib.hid (show base ≤ (w3.alloc (.cells #[.int .u8 (n % 256)] 5)).heap.size by simp; omega)
      go_wp2_with (at_builtin; go_must (refine app_bytes rfl (.tmp 19) (.tmp 23) rfl base v3 (bs ++ [leByte 2 0]) rfl (LS3.out.own.alloc _) (some ⟨w3.heap.size, 0, none⟩) 1 1 [leByte n 0] rfl rfl hbx.out hbl.out hbb.out ?_; intro v4 w4 ho4 hg4 hat4; have ls4 := (LS3.out.below ((Below.refl _ _).alloc (Nat.le_refl _) (.cells #[.int .u8 (n % 256)] 5))).app' ho4 hg4 hat4))
      go_meet
      case rel =>
        rw [← HE.out]
        rw [List.append_assoc] at ls4
        exact ls4
    have h20 : (k == 2) = false := by simpa using h2
    by_cases h3 : k = 3 ∨ k = 4
    · have hE := HE.out
      rw [if_neg h2, if_pos h3] at hE
      have HE := Lib.hid hE
      clear hE h2 y2 y3 y4
      have hP := lay_any 8 n v3 (bs ++ [leByte k 0]) base w3 (by omega) hn.1 hn.2 LS3.out.own (by omega) (by simp; omega)
      have HP := Lib.hid hP
      clear hP
      rcases h3 with rfl | rfl
      all_goals
        go_wp2_with fail
        refine HP.out.mono ?_
        rintro e w4 ⟨v4, rfl, ho4, hg4, hr4⟩
        have ls4 := LS3.out.app ho4 hg4 hr4
        clear y1
        go_wp2_with fail
        go_meet
        case rel =>
          rw [← HE.out]
          rw [List.append_assoc] at ls4
          exact ls4
    have h30 : (k == 3) = false := by simp; omega
    have h40 : (k == 4) = false := by simp; omega
    by_cases h5 : k = 5 ∨ k = 6
    · have hE := HE.out
      rw [if_neg h2, if_neg h3, if_pos h5] at hE
      have HE := Lib.hid hE
      clear hE y1 y3 y4 h20 h30 h40 h2 h3
      have hwrap : IntKind.u64.wrap (b.length : Int) = (b.length : Int) := by simp only [IntKind.wrap_u64]; omega
      have hEl : bs.length + (1 + (2 + b.length)) ≤ 70368744177664 := by have := congrArg List.length HE.out; simp [leBytes_length] at this; omega
      have lsd := LS3.out.below (below_drew w3)
      have hP := lay_any 2 b.length v3 (bs ++ [leByte k 0]) base w3.drew (by omega) (by omega) (by omega) lsd.own (by show base ≤ w3.heap.size; omega) (by simp; omega)
      have HP := Lib.hid hP
      have LSD := Lib.hid lsd
      have hbs2 := Lib.hid (show (bs ++ [leByte k 0] ++ leBytes b.length 2).length + b.length ≤ 140737488355328 by simp [leBytes_length]; omega)
      have hbase3 : base ≤ w3.drew.heap.size := by show base ≤ w3.heap.size; omega
      clear hP lsd
      rcases h5 with rfl | rfl
      all_goals
        go_upto_region 10 with fail
        go_region_law (first
          | (refine step_call3 75 rfl (.tmp 35) (.const (.int .i64 2)) (.tmp 39) _ rfl rfl rfl rfl (enters_of Tryd.func75 (by kernel_rfl) rfl) HP.out ?_; rintro v4 w4 ⟨ho4, hg4, hr4⟩; have ls4 := LSD.out.app ho4 hg4 hr4; have x2 := (HCELL.out ls4).2.2.1)
          | (refine step_app_bytes rfl (.tmp 40) (.tmp 42) rfl base v4 _ rfl ls4.own AB b.length cb b rfl rfl (hB1.kept (HKEEP.out ls4)) hbs2.out (Nat.le_trans hbase3 hg4.size) ?_; intro v5 w5 ho5 hg5 hat5; have ls5 := ls4.app' ho5 hg5 hat5))
        all_goals
          clear x2
          go_wp2_with fail
          go_meet
          case rel =>
            rw [← HE.out]
            simp only [List.append_assoc] at ls5
            exact ls5
    have h50 : (k == 5) = false := by simp; omega
    have h60 : (k == 6) = false := by simp; omega
    by_cases h7 : k = 7
    · have hE := HE.out
      rw [if_neg h2, if_neg h3, if_neg h5, if_pos h7] at hE
      have HE := Lib.hid hE
      subst h7
      clear hE h2 h3 h5 h20 h30 h40 h50 h60 y1 y2 y4
      have hEl : bs.length + (2 + (encL l).length) ≤ 70368744177664 := by have := congrArg List.length HE.out; simp at this; omega
      have hbx := Lib.hid (brow_box w3 (fun _ => True) trivial _ _ (u8_wrap8 l.length))
      have hbl := Lib.hid (show (bs ++ [leByte 7 0]).length + [leByte l.length 0].length ≤ 140737488355328 by simp; omega)
      have hbb := Lib.hid (show base ≤ (w3.alloc (.cells #[.int .u8 ((l.length : Int) % 256)] 5)).heap.size by simp; omega)
      go_wp2_with (at_builtin; go_must (refine app_bytes rfl (.tmp 46) (.tmp 51) rfl base v3 (bs ++ [leByte 7 0]) rfl (LS3.out.own.alloc _) (some ⟨w3.heap.size, 0, none⟩) 1 1 [leByte l.length 0] rfl rfl hbx.out hbl.out hbb.out ?_; intro v4 w4 ho4 hg4 hat4; have ls4 := (LS3.out.below ((Below.refl _ _).alloc (Nat.le_refl _) (.cells #[.int .u8 ((l.length : Int) % 256)] 5))).app' ho4 hg4 hat4; have x3 := (HCELL.out ls4).2.2.2.1))
      obtain ⟨kb, hkb⟩ : ∃ kb, bs ++ [leByte (7 : Int) 0] ++ [leByte (l.length : Int) 0] = kb := ⟨_, rfl⟩
      rw [hkb] at ls4
      have hkl : kb.length = bs.length + 2 := by rw [← hkb]; simp
      have HKB := Lib.hid hkb
      have HKL := Lib.hid hkl
      have LS4 := Lib.hid ls4
      clear hbx hbl hbb ho4 hg4 hat4 y3 x3 ls4 hkb hkl LS3
      go_loopg [0, 56] l.length (fun g t0 t56 wr => ∃ i : Nat, i ≤ l.length ∧ t56 = .int .i64 i ∧ LS w1 base v0 t0 (kb ++ encL (l.take i)) wr ∧ l.length ≤ i + g)
      case atStart => exact ⟨0, by omega, rfl, by simpa [encL] using LS4.out, by omega⟩
      case round =>
        clear LS4
        obtain ⟨i, hi, rfl, ls, hg⟩ := hrel
        have LSR := Lib.hid ls
        clear ls
        by_cases hlt : i < l.length
        · obtain ⟨bb, o, vk, vn, A1, A2, A3, n1, m1, n2, m2, n3, m3, rfl, e0, e1, e2, e3, e4, hRi⟩ := elem5S hL1 hLs1 (HKEEP.out LSR.out) hlt
          have hbd : Below wr.heap.size wr (wr.alloc (.cells #[.int .i64 vk, .int .u64 vn, .slice A1 n1 m1, .slice A2 n2 m2, .slice A3 n3 m3] 27)) := (Below.refl _ _).alloc (Nat.le_refl _) _
          have lsb := LSR.out.below hbd
          have hRa := hRi.kept (Keeps.of_below hbd _ (fun k hk _ => hk))
          have hsp := encL_split l (i + 1)
          have htk := encL_take hlt
          rw [htk, List.length_append] at hsp
          have hc := ihl i hlt _ _ u0 _ base hRa lsb.own (by have := lsb.grown.size; omega) (by rw [List.length_append, HKL.out]; omega)
          have HC := Lib.hid hc
          have LSB := Lib.hid lsb
          have HTK := Lib.hid htk
          clear hsp hc hRa hRi lsb hbd htk
          go_wp2_with fail
          refine HC.out.mono ?_
          rintro e w5 ⟨v5, rfl, ho5, hg5, hr5⟩
          have ls5 := LSB.out.app ho5 hg5 hr5
          clear e0 e1 e2 e3 e4
          go_wp2_with fail
          go_roundg (gk - 1)
          case measure => omega
          case rel => exact ⟨i + 1, by omega, by go_num, by rw [HTK.out, ← List.append_assoc]; exact ls5, by omega⟩
        · go_wp2_with fail
          go_meet
          case rel =>
            have ls := LSR.out
            rw [List.take_of_length_le (by omega), ← HKB.out] at ls
            rw [← HE.out]
            simpa using ls
    by_cases h8 : k = 8
    · have hE := HE.out
      rw [if_neg h2, if_neg h3, if_neg h5, if_neg h7, if_pos h8] at hE
      have HE := Lib.hid hE
      have h70 : (k == 7) = false := by simpa using h7
      subst h8
      clear hE h2 h3 h5 h7 y1 y2 y3
      have hEl : bs.length + (2 + (encF f).length) ≤ 70368744177664 := by have := congrArg List.length HE.out; simp at this; omega
      have hbx := Lib.hid (brow_box w3 (fun _ => True) trivial _ _ (u8_wrap8 f.length))
      have hbl := Lib.hid (show (bs ++ [leByte 8 0]).length + [leByte f.length 0].length ≤ 140737488355328 by simp; omega)
      have hbb := Lib.hid (show base ≤ (w3.alloc (.cells #[.int .u8 ((f.length : Int) % 256)] 5)).heap.size by simp; omega)
      go_wp2_with (at_builtin; go_must (refine app_bytes rfl (.tmp 66) (.tmp 71) rfl base v3 (bs ++ [leByte 8 0]) rfl (LS3.out.own.alloc _) (some ⟨w3.heap.size, 0, none⟩) 1 1 [leByte f.length 0] rfl rfl hbx.out hbl.out hbb.out ?_; intro v4 w4 ho4 hg4 hat4; have ls4 := (LS3.out.below ((Below.refl _ _).alloc (Nat.le_refl _) (.cells #[.int .u8 ((f.length : Int) % 256)] 5))).app' ho4 hg4 hat4; have x4 := (HCELL.out ls4).2.2.2.2))
      obtain ⟨kb, hkb⟩ : ∃ kb, bs ++ [leByte (8 : Int) 0] ++ [leByte (f.length : Int) 0] = kb := ⟨_, rfl⟩
      rw [hkb] at ls4
      have hkl : kb.length = bs.length + 2 := by rw [← hkb]; simp
      have HKB := Lib.hid hkb
      have HKL := Lib.hid hkl
      have LS4 := Lib.hid ls4
      clear hbx hbl hbb ho4 hg4 hat4 y4 x4 ls4 hkb hkl LS3
      go_loopg [0, 76] f.length (fun g t0 t76 wr => ∃ i : Nat, i ≤ f.length ∧ t76 = .int .i64 i ∧ LS w1 base v0 t0 (kb ++ encF (f.take i)) wr ∧ f.length ≤ i + g)
      case atStart => exact ⟨0, by omega, rfl, by simpa [encF] using LS4.out, by omega⟩
      case round =>
        clear LS4
        obtain ⟨i, hi, rfl, ls, hg⟩ := hrel
        have LSR := Lib.hid ls
        clear ls
        by_cases hlt : i < f.length
        · obtain ⟨bb, o, vk, vn, A1, A2, A3, n1, m1, n2, m2, n3, m3, rfl, e, e0, e1, e2, e3, e4, hRi⟩ := elem6S hF1 hFs1 (HKEEP.out LSR.out) hlt
          have hsp := encF_split f (i + 1)
          have htk := encF_take hlt
          rw [htk] at hsp
          simp only [List.length_append, List.length_cons] at hsp
          obtain ⟨s, hss⟩ : ∃ s, (f[i]).1 = s := ⟨_, rfl⟩
          rw [hss] at htk hsp e
          have hds : s.data.toList.length = s.size := by simp
          have HTK := Lib.hid htk
          obtain ⟨P0, hP0⟩ : ∃ P0, kb ++ encF (f.take i) = P0 := ⟨_, rfl⟩
          have hP0l : P0.length + 1 + s.size + (encR (f[i]).2).length ≤ 70368744177664 := by rw [← hP0, List.length_append, HKL.out]; omega
          have HP0 := Lib.hid hP0
          have ls := LSR.out
          rw [hP0] at ls
          have hbd : Below wr.heap.size wr (wr.alloc (.cells #[.string s, .int .i64 vk, .int .u64 vn, .slice A1 n1 m1, .slice A2 n2 m2, .slice A3 n3 m3] 59)) := (Below.refl _ _).alloc (Nat.le_refl _) _
          have lsb := ls.below hbd
          have hRa := hRi.kept (Keeps.of_below hbd _ (fun k hk _ => hk))
          have hblk := heap_alloc_new wr (.cells #[.string s, .int .i64 vk, .int .u64 vn, .slice A1 n1 m1, .slice A2 n2 m2, .slice A3 n3 m3] 59)
          have hne : u0.ownBlock ≠ some wr.heap.size := fun h => by have := ls.own.lt _ h; omega
          clear hds hP0 htk hsp hss ls
          go_upto_region 23 with fail
          have hsz : (wr.alloc (.cells #[.string s, .int .i64 vk, .int .u64 vn, .slice A1 n1 m1, .slice A2 n2 m2, .slice A3 n3 m3] 59)).heap.size = wr.heap.size + 1 := by simp
          have hbase : base ≤ (wr.alloc (.cells #[.string s, .int .i64 vk, .int .u64 vn, .slice A1 n1 m1, .slice A2 n2 m2, .slice A3 n3 m3] 59)).heap.size := by have := lsb.grown.size; omega
          generalize wr.alloc _ = we at hbd lsb hRa hblk hsz hbase ⊢
          have n0 : we.cell? ⟨wr.heap.size, 0, none⟩ = some (.string s) := cell_blk hblk 0
          have n0a : ∀ O, (we.alloc O).cell? ⟨wr.heap.size, 0, none⟩ = some (.string s) := fun O => below_cell ((Below.refl _ _).alloc (Nat.le_refl _) O) n0
          have HBLK := Lib.hid hblk
          have HRA := Lib.hid hRa
          have LSB := Lib.hid lsb
          have HBS := Lib.hid hbase
          have HSZ := Lib.hid hsz
          have HNE := Lib.hid hne
          clear hblk hRa lsb hbase hsz hne e e0 e1 e2 e3 e4 hRi hbd
          have hwrap : IntKind.u8.wrap (s.size : Int) = (s.size : Int) % 256 := by simp only [IntKind.wrap_u8]
          have hbx := fun (W : World) => Lib.hid (brow_box W (fun _ => True) trivial _ _ (u8_wrap8 s.size))
          have HS1 := Lib.hid (show P0.length + [leByte s.size 0].length ≤ 140737488355328 by simp; omega)
          have HS2 := Lib.hid (show (P0 ++ [leByte s.size 0]).length + s.size ≤ 140737488355328 by simp; omega)
          have BB := Lib.hid (show ∀ O, Below we.heap.size we (we.drew.alloc O) from fun O => (Below.refl _ _).drew.alloc (Nat.le_refl _) O)
          go_region_law (first
            | (refine step_app_bytes rfl (.tmp 80) (.tmp 85) rfl base u0 P0 rfl (LSB.out.own.below (BB.out _)) _ _ _ [leByte s.size 0] rfl rfl (hbx _).out HS1.out (Nat.le_trans HBS.out (BB.out _).size) ?_; intro v2 w2 ho2 hg2 hat2; have k2 := blk_stay (blk_below HBLK.out (BB.out _)) hg2 HNE.out; have n2 := cell_blk k2 0)
            | (refine step_app_str rfl (.tmp 86) (.tmp 88) rfl base v2 _ rfl ho2 s rfl HS2.out (Nat.le_trans HBS.out (Nat.le_trans (BB.out _).size hg2.size)) ?_; intro v4 w4 ho4 hg4 hr4))
          all_goals
            have ls2 := (LSB.out.below (BB.out _)).app' ho2 hg2 hat2
            have ls4 := ls2.app ho4 hg4 hr4
            have hne2 : v2.ownBlock ≠ some wr.heap.size := by
              rcases hat2 with h | h
              · rw [h]; exact HNE.out
              · rw [h]
                intro hh
                simp at hh
                have h2 := HSZ.out
                omega
            have k4 := blk_stay k2 hg4 hne2
            have hkeep : Keeps (fun k => k < base) we w4 := ((Keeps.of_below (BB.out _) _ (fun k hk _ => hk)).trans (Keeps.of_grown hg2 _ (fun k e hS => by have := (LSB.out.own.lt k e).1; omega))).trans (Keeps.of_grown hg4 _ (fun k e hS => by have := (ho2.lt k e).1; omega))
            have hc := ihf i hlt _ _ v4 _ base (HRA.out.kept hkeep) ls4.own (Nat.le_trans HBS.out hkeep.size) (by simp; omega)
            have HC := Lib.hid hc
            have LS4 := Lib.hid ls4
            have q0 := cell_blk k4 0; have q1 := cell_blk k4 1; have q2 := cell_blk k4 2; have q3 := cell_blk k4 3; have q4 := cell_blk k4 4; have q5 := cell_blk k4 5
            clear hc ls2 ls4 k2 k4 hne2 hkeep n0 n0a n2 ho2 hg2 hat2 ho4 hg4 hr4 hwrap hbx
            go_wp2_with fail
            refine HC.out.mono ?_
            rintro e w5 ⟨v5, rfl, ho5, hg5, hr5⟩
            have ls5 := LS4.out.app ho5 hg5 hr5
            clear q0 q1 q2 q3 q4 q5
            go_wp2_with fail
            go_roundg (gk - 1)
            case measure => omega
            case rel => exact ⟨i + 1, by omega, by go_num, by rw [HTK.out, ← List.append_assoc, ← List.append_assoc, HP0.out]; simpa using ls5, by omega⟩
        · go_wp2_with fail
          go_meet
          case rel =>
            have ls := LSR.out
            rw [List.take_of_length_le (by omega), ← HKB.out] at ls
            rw [← HE.out]
            simpa using ls
    have hE := HE.out
    rw [if_neg h2, if_neg h3, if_neg h5, if_neg h7, if_neg h8] at hE
    have HE := Lib.hid hE
    have h70 : (k == 7) = false := by simpa using h7
    have h80 : (k == 8) = false := by simpa using h8
    clear hE h2 h3 h5 h7 h8 y2 y3 y4 y1
    go_wp2_with fail
    go_meet
    case rel => rw [← HE.out]; exact LS3.out
end Go.Proofs.YtljdfainnmpjnaaDoor
