/- The reference's reader of values: lists. -/
import Derived.Test.YtljdfainnmpjnaaDoorRefB
import Derived.Test.YtljdfainnmpjnaaDoorValueL
set_option linter.unusedVariables false
namespace Go.Proofs.YtljdfainnmpjnaaDoor
open Go.RowKit

section
variable {ops : Array Oper} {rest : List Oper} {o : Oper} {a : Act} {Q : Exit → Act → World → Prop} {w : World}
/-- append(v, x), x one element of several cells. -/
theorem app_one (hgd : o.guard = none) (s x : Operand) (t e : TypeId) (ho : o.op = .call { callee := .builtin .append, args := #[s, x], argTypes := #[t, t] })
    (i : TypeInfo) (z : Value) (size bytes : Nat) (ht : Tryd.prog.underlying t = some (.slice e)) (hi : Tryd.prog.info? e = some i) (hz : i.zero = some z)
    (hsize : i.size = size) (hby : i.bytes = bytes) (hzs : z.cells.size = size) (hsz : 0 < size)
    (base n : Nat) (v : Value) (xs : List Value) (hs : a.eval s = v) (hown : w.ownsRow base e size v n xs) (b : Nat) (cs : List Value) (hx : a.eval x = .slice (some ⟨b, 0, none⟩) 1 1) (hcs : cs.length = size)
    (hb : w.heap[b]? = some (.cells cs.toArray e (0, 0))) (h1 : ∀ u ∈ cs, u.oneCell' = true) (hn : n ≤ 1000000000) (hbb : bytes ≤ 1000) (hbase : base ≤ w.heap.size)
    (h : ∀ v' w', w'.ownsRow base e size v' (n + 1) (xs ++ cs) → w.grownBy w' v.ownBlock → (v'.ownBlock = v.ownBlock ∨ v'.ownBlock = some w.heap.size) → wpList Tryd.prog ops Q rest (a.put o.dst v') w') :
    wpList Tryd.prog ops Q (o :: rest) a w := by
  obtain ⟨v', w', hr, h2, h3, h4, h5⟩ := run_append_own_at (P := Tryd.prog) w base t o.type e i z size bytes ht hi hz hsize hby hzs hsz v n xs hown ⟨b, 0, none⟩ 1 1 cs (by omega)
    (fun j u hu => by
      have e : (⟨b, 0, none⟩ : Addr).add j = ⟨b, j, none⟩ := by unfold Addr.add; split <;> simp_all
      rw [e, cell_blk hb j]
      simpa using hu) h1 (by unfold maxLen; omega) (by
      have : (n + 1) * bytes ≤ 1000000001 * 1000 := Nat.mul_le_mul (by omega) hbb
      omega) hbase
  refine wpList_plain hgd fun K hK => ?_
  unfold Oper.wp execOp
  simp only [ho, resolve, invoke, builtin, Sem.run_bind, Sem.run_pure, Result.andThen_ok, List.map_toArray, List.map_cons, List.map_nil, hs, hx, hr]
  exact hK _ _ (h v' w' h2 h3 h5)
end

theorem Rep.one {w : World} {S : Nat → Prop} {v : V} {cs : List Value} (h : Rep w S v cs) : ∀ u ∈ cs, u.oneCell' = true := by
  obtain ⟨c0, c1, c2, c3, c4, rfl, h1⟩ := h.five
  exact h1
/-- Another fault than none. -/
def Faulty (p : List UInt8 → Got) : Prop := ∀ x c, p x = .error c → c ≠ 0

set_option maxRecDepth 100000 in
set_option maxHeartbeats 4000000 in
theorem ref_7 (p : List UInt8 → Got) (hp : Faulty p) (above : Int) (ha0 : 0 ≤ above) (ha : above < 16) (at' : Nat) (bs : List UInt8) (A : Option Addr) (c : Nat) (w : World) (hA : BRow0 w A bs) (hl : bs.length ≤ 4096) (h : at' < bs.length) (hx : (bs[at']).toNat = 7)
    (IH : ∀ (W : World) (n : Nat), BRow0 W A bs → n ≤ bs.length → Calls Tryd.prog 43 #[.slice A bs.length c, .int .i64 n, .int .i64 (above + 1)] W (RTells W bs (p (bs.drop n)))) :
    Calls Tryd.prog 43 #[.slice A bs.length c, .int .i64 at', .int .i64 above] w (RTells w bs (body (some p) 7 (bs.drop (at' + 1)))) := by
  obtain ⟨G, hG⟩ : ∃ G, body (some p) 7 (bs.drop (at' + 1)) = G := ⟨_, rfl⟩
  rw [hG]
  rw [body7] at hG
  have hA0 := hA
  obtain ⟨b, o, rfl, hc⟩ := byte_at hA h
  have hz : (at' : Int) < (bs.length : Int) := by omega
  have hza : ¬ (16 : Int) ≤ above := by omega
  have c0 : ∀ X Y, ((w.alloc X).alloc Y).cell? ⟨b, o + at', none⟩ = some (.int .u8 7) := fun X Y => by rw [hc _ (below2 w X Y) at' h, hx]; rfl
  by_cases h1 : at' + 1 < bs.length
  case neg =>
    rw [List.drop_of_length_le (by omega)] at hG
    dsimp only at hG
    subst hG
    have hz1 : (bs.length : Int) ≤ (at' : Int) + 1 := by omega
    clear hc hA IH
    go_enter Tryd.func43, Tryd.ntmps43
    go_wp2_with fail
    exact ref_bad (three_first _ _ _ _) (below3 _ _ _ _) _ _ _ rfl rfl rfl
  rw [List.drop_eq_getElem_cons h1] at hG
  dsimp only at hG
  have hz1 : (at' : Int) + 1 < (bs.length : Int) := by omega
  obtain ⟨n, hn⟩ : ∃ n, (bs[at' + 1]).toNat = n := ⟨_, rfl⟩
  rw [hn] at hG
  have c1 : ∀ X Y Z, (((w.alloc X).alloc Y).alloc Z).cell? ⟨b, o + (at' + 1), none⟩ = some (.int .u8 n) := fun X Y Z => by rw [hc _ (below3 w X Y Z) (at' + 1) h1, hn]
  have hn256 : n < 256 := by have := (bs[at' + 1]).toNat_lt; omega
  clear hc hA
  by_cases hn64 : 64 < n
  · rw [if_pos hn64] at hG
    subst hG
    have hnz : (64 : Int) < (n : Int) := by omega
    clear IH
    go_enter Tryd.func43, Tryd.ntmps43
    go_wp2_with fail
    exact ref_bad (three_first _ _ _ _) (below3 _ _ _ _) _ _ _ rfl rfl rfl
  rw [if_neg hn64] at hG
  have hnz : ¬ (64 : Int) < (n : Int) := by omega
  have HG := Lib.hid hG
  clear hG hn
  obtain ⟨i0, hi, hzz⟩ := Option.map_eq_some_iff.1 info27
  simp only [Prod.mk.injEq] at hzz
  obtain ⟨hz0, hz1', hz2⟩ := hzz
  have HI := Lib.hid hi
  have HZ0 := Lib.hid hz0
  have HZ1 := Lib.hid hz1'
  have HZ2 := Lib.hid hz2
  have HIH := @Lib.hid _ @IH
  clear hi hz0 hz1' hz2 IH
  go_enter Tryd.func43, Tryd.ntmps43
  go_wp2_with fail
  have g0 := GS.start w #[.int .i64 7, .int .u64 0, .slice none 0 0, .slice none 0 0, .slice none 0 0]
  simp only [vzero] at g0
  generalize (((w.alloc _).alloc _).alloc _) = W0 at g0 ⊢
  clear c0 c1
  go_loopg [1, 13] n (fun g t1 t13 wr => ∃ vs css v3, ∃ m : Nat, t1 = .int .i64 m ∧ t13 = .int .i64 vs.length ∧ m ≤ bs.length ∧ vs.length ≤ n ∧ n ≤ vs.length + g ∧ GS w #[.int .i64 7, .int .u64 0, .slice none 0 0, v3, .slice none 0 0] wr ∧ Items wr (w.heap.size + 1 + 1) v3 vs css ∧ joinL vs (items p (n - vs.length) (bs.drop m)) = G)
  case atStart => exact ⟨[], [], .slice none 0 0, at' + 1 + 1, by go_num, rfl, by omega, Nat.zero_le _, by simp, g0, Items.start (World.ownsRow_nil _ _ _ _) g0.lt, HG.out⟩
  case round =>
    clear g0 HG
    obtain ⟨vs, css, v3, m, rfl, rfl, hm, hvn, hgn, gs, hI, hj⟩ := hrel
    have HII := Lib.hid hI
    have HGS := Lib.hid gs
    clear hI
    have hsz := gs.lt
    have z0 := gs.cell 0
    by_cases hlt : vs.length < n
    · obtain ⟨q, hq⟩ : ∃ q, n - vs.length = q + 1 := ⟨n - vs.length - 1, by omega⟩
      rw [hq] at hj
      have HJ := Lib.hid hj
      have HQ := Lib.hid hq
      clear hj hq gs
      go_wp2_with fail
      refine (HIH.out wr m (hA0.below (by exact HGS.out.below)) hm).mono ?_
      rcases hpp : p (bs.drop m) with e | ⟨v, rest⟩
      · rintro e' w' ⟨rfl, hb⟩
        have hne : e ≠ 0 := hp _ _ hpp
        have hG := HJ.out
        rw [joinL_no vs hpp] at hG
        subst hG
        have hne1 : (e == 0) = false := by simpa using hne
        have hne2 : (e != 0) = true := by simpa using hne
        have g1 := (HGS.out.call hb).call (below1 w' (.cells vzero 27))
        simp only [vzero] at g1
        have e0 := g1.c6 0; have e1 := g1.c6 1; have e2 := g1.c6 2; have e3 := g1.c6 3; have e4 := g1.c6 4
        have f0 := g1.f6 0; have f1 := g1.f6 1; have f2 := g1.f6 2; have f3 := g1.f6 3; have f4 := g1.f6 4
        have k0 := g1.c9 0; have k1 := g1.c9 1; have k2 := g1.c9 2; have k3 := g1.c9 3; have k4 := g1.c9 4
        have HG1 := Lib.hid g1
        clear hne hpp g1 z0
        go_wp2_with fail
        exact HG1.out.bad bs e _ rfl rfl rfl
      · rintro e' w' ⟨cs, m', rfl, hr, hb, hm', rfl⟩
        have h1c := hr.one
        obtain ⟨vk, vn, vb, vl, vf⟩ := v
        have hrr := hr
        obtain ⟨AB, AL, AF, cb, cl, cf, L, F, rfl, -⟩ := hr.inv
        clear hr
        have hr := hrr
        clear hrr
        have hG := HJ.out
        rw [joinL_ok vs hpp] at hG
        have HJ2 := Lib.hid hG
        have hlow := HGS.out.lt
        have b2 := below2 w' (.cells #[Value.int .i64 vk, .int .u64 vn, .slice AB vb.length cb, .slice AL vl.length cl, .slice AF vf.length cf] 27) (.cells #[Value.int .i64 vk, .int .u64 vn, .slice AB vb.length cb, .slice AL vl.length cl, .slice AF vf.length cf] 27)
        have g1 := (HGS.out.call hb).call (below1 w' (.cells #[Value.int .i64 vk, .int .u64 vn, .slice AB vb.length cb, .slice AL vl.length cl, .slice AF vf.length cf] 27))
        have g2 := (HGS.out.call hb).call b2
        have hI5 := (HII.out.below hb).below b2
        have hrep2 := ((hr.kept (Keeps.of_below b2 _ (fun k hk _ => hk))).mono (S' := fun k => w.heap.size + 1 + 1 < k ∧ some k ≠ v3.ownBlock) (fun k hk hS => ⟨Nat.lt_of_lt_of_le hlow hS, fun e => absurd ((World.ownsRow.lt HII.out.own k e.symm).2) (Nat.not_lt_of_le hS)⟩))
        have HI5 := Lib.hid hI5
        have HREP := Lib.hid hrep2
        have HBLK := Lib.hid (show ((w'.alloc (.cells #[Value.int .i64 vk, .int .u64 vn, .slice AB vb.length cb, .slice AL vl.length cl, .slice AF vf.length cf] 27)).alloc (.cells #[Value.int .i64 vk, .int .u64 vn, .slice AB vb.length cb, .slice AL vl.length cl, .slice AF vf.length cf] 27)).heap[w'.heap.size + 1]? = some (.cells [Value.int .i64 vk, .int .u64 vn, .slice AB vb.length cb, .slice AL vl.length cl, .slice AF vf.length cf].toArray 27 (0, 0)) by
          have := heap_alloc_new (w'.alloc (.cells #[Value.int .i64 vk, .int .u64 vn, .slice AB vb.length cb, .slice AL vl.length cl, .slice AF vf.length cf] 27)) (.cells #[Value.int .i64 vk, .int .u64 vn, .slice AB vb.length cb, .slice AL vl.length cl, .slice AF vf.length cf] 27)
          simpa using this)
        have H1C := Lib.hid h1c
        have HB5 := Lib.hid (show w.heap.size + 1 + 1 + 1 ≤ ((w'.alloc (.cells #[Value.int .i64 vk, .int .u64 vn, .slice AB vb.length cb, .slice AL vl.length cl, .slice AF vf.length cf] 27)).alloc (.cells #[Value.int .i64 vk, .int .u64 vn, .slice AB vb.length cb, .slice AL vl.length cl, .slice AF vf.length cf] 27)).heap.size from g2.lt)
        have HG2 := Lib.hid g2
        have y0 := g1.cell 0
        have y3 := g1.cell 3
        have u3 := g2.cell 3
        have hvs : vs.length ≤ 1000000000 := by omega
        clear hG hI5 hrep2 hr h1c hpp g1 g2 b2 z0 hlow
        go_wp2_with (at_builtin; go_must (refine app_one rfl (.tmp 250) (.tmp 252) 24 27 rfl i0 (.agg vzero) 5 88 Tryd.underlying24 HI.out HZ0.out HZ1.out HZ2.out rfl (by decide) (w.heap.size + 1 + 1 + 1) vs.length v3 css.flatten rfl HI5.out.own (w'.heap.size + 1) [Value.int .i64 vk, .int .u64 vn, .slice AB vb.length cb, .slice AL vl.length cl, .slice AF vf.length cf] rfl rfl HBLK.out H1C.out hvs (by decide) HB5.out ?_; intro v6 w6 ho6 hg6 hat6; have g6 := HG2.out.app hg6 (fun k hk => (World.ownsRow.lt HI5.out.own k hk).1); have z6 := g6.cell 3; have f6 := g6.free 3; obtain ⟨A6, c6, rfl⟩ := ownsRow_slice ho6))
        have g7 := g6.set 3 (.slice A6 (vs.length + 1) c6)
        have HI7 := Lib.hid ((HI5.out.push HREP.out ho6 hg6 hat6).kept (grown_setCell w6 ⟨w.heap.size + 1 + 1, 3, none⟩ (.slice A6 (vs.length + 1) c6)) (fun k e => by cases e; exact Nat.le_refl _))
        clear ho6 hg6 hat6 g6
        go_roundg (gk - 1)
        case measure => omega
        case rel =>
          refine ⟨vs ++ [.mk vk vn vb vl vf], css ++ [[Value.int .i64 vk, .int .u64 vn, .slice AB vb.length cb, .slice AL vl.length cl, .slice AF vf.length cf]], .slice A6 (vs.length + 1) c6, m', rfl, by simp, hm', by simp; omega, by simp; omega, g7, HI7.out, ?_⟩
          have e : n - (vs ++ [V.mk vk vn vb vl vf]).length = q := by have := HQ.out; simp; omega
          rw [e]
          exact HJ2.out
    · obtain rfl : vs.length = n := by omega
      rw [Nat.sub_self, items_zero] at hj
      dsimp only [joinL] at hj
      rw [List.append_nil] at hj
      subst hj
      obtain ⟨A3, c3, rfl⟩ := ownsRow_slice HII.out.own
      have HREP := Lib.hid (HII.out.done (by omega))
      have e0 := gs.c6 0; have e1 := gs.c6 1; have e2 := gs.c6 2; have e3 := gs.c6 3; have e4 := gs.c6 4
      have f0 := gs.f6 0; have f1 := gs.f6 1; have f2 := gs.f6 2; have f3 := gs.f6 3; have f4 := gs.f6 4
      have k1 := gs.cell 1; have k2 := gs.cell 2; have k3 := gs.cell 3; have k4 := gs.cell 4
      clear HII gs
      go_wp2_with fail
      exact HGS.out.good bs _ _ m HREP.out hm rfl _ rfl rfl rfl
end Go.Proofs.YtljdfainnmpjnaaDoor
