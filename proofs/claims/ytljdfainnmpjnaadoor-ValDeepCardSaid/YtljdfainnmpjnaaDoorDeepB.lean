/- The law ValDeep: the walk. -/
import Derived.Test.YtljdfainnmpjnaaDoorDeepLaw
import Derived.Test.YtljdfainnmpjnaaDoorBack
import Derived.Laws.Bits128
set_option linter.unusedVariables false
namespace Go.Proofs.YtljdfainnmpjnaaDoor
open Go.RowKit

theorem i64_and3 (n : Int) : bits .and .i64 n 3 = n % 4 := by
  have h3 : (BitVec.ofInt 64 3).toNat = 2 ^ 2 - 1 := by decide
  have key : (BitVec.ofInt 64 n &&& BitVec.ofInt 64 3).toNat = (n % ((2 ^ 64 : Nat) : Int)).toNat % 2 ^ 2 := by
    rw [BitVec.toNat_and, BitVec.toNat_ofInt, h3, Nat.and_two_pow_sub_one_eq_mod]
  show IntKind.i64.wrap ((BitVec.ofInt 64 n &&& BitVec.ofInt 64 3).toNat : Nat) = n % 4
  rw [key, IntKind.wrap_i64]
  omega

/-! ### The variable v, in block p -/
/-- The cells of block p, written anew. -/
abbrev five (W : World) (p : Nat) (d0 d1 d2 d3 d4 : Value) : World := (((((W.setCell ⟨p, 0, none⟩ d0).setCell ⟨p, 1, none⟩ d1).setCell ⟨p, 2, none⟩ d2).setCell ⟨p, 3, none⟩ d3).setCell ⟨p, 4, none⟩ d4)
theorem five_blk {W : World} {p : Nat} {c0 c1 c2 c3 c4 : Value} (hb : W.heap[p]? = some (.cells #[c0, c1, c2, c3, c4] 27 (0, 0))) (d0 d1 d2 d3 d4 : Value) :
    (five W p d0 d1 d2 d3 d4).heap[p]? = some (.cells #[d0, d1, d2, d3, d4] 27 (0, 0)) := by
  simp [five, World.setCell, Array.getElem?_modify, hb]
theorem five_keeps (W : World) (p : Nat) (d0 d1 d2 d3 d4 : Value) : Keeps (fun k => k ≠ p) W (five W p d0 d1 d2 d3 d4) :=
  ((((Keeps.set (by simp) 0 d0).trans (Keeps.set (by simp) 1 d1)).trans (Keeps.set (by simp) 2 d2)).trans (Keeps.set (by simp) 3 d3)).trans (Keeps.set (by simp) 4 d4)
theorem set_blkN {w : World} {b : Nat} {cur : Array Value} {T : TypeId} (h : w.heap[b]? = some (.cells cur T (0, 0))) (j : Nat) (v : Value) : (w.setCell ⟨b, j, none⟩ v).heap[b]? = some (.cells (cur.setIfInBounds j v) T (0, 0)) := by
  simp [World.setCell, Array.getElem?_modify, h]
/-- The variable in block p holds v. -/
def Made (w : World) (p : Nat) (v : V) (W : World) : Prop :=
  ∃ cs, W.heap[p]? = some (.cells cs.toArray 27 (0, 0)) ∧ Rep W (fun k => k ≠ p) v cs ∧ Below w.heap.size w W ∧ w.heap.size ≤ p
theorem Made.open {w : World} {p : Nat} {v : V} {W : World} (h : Made w p v W) : ∃ (k n : Int) (AB AL AF : Option Addr) (nb nl nf cb cl cf : Nat),
    W.heap[p]? = some (.cells #[.int .i64 k, .int .u64 n, .slice AB nb cb, .slice AL nl cl, .slice AF nf cf] 27 (0, 0)) ∧ Rep W (fun k => k ≠ p) v [.int .i64 k, .int .u64 n, .slice AB nb cb, .slice AL nl cl, .slice AF nf cf] ∧ Below w.heap.size w W ∧ w.heap.size ≤ p := by
  obtain ⟨cs, h1, h2, h3, h4⟩ := h
  obtain ⟨k, n, b, l, f⟩ := v
  have h2' := h2
  obtain ⟨AB, AL, AF, cb, cl, cf, L, F, rfl, -⟩ := h2.inv
  exact ⟨_, _, _, _, _, _, _, _, _, _, _, h1, h2', h3, h4⟩
theorem made_five {w W : World} {p : Nat} {v : V} {c0 c1 c2 c3 c4 d0 d1 d2 d3 d4 : Value} (hb : W.heap[p]? = some (.cells #[c0, c1, c2, c3, c4] 27 (0, 0))) (hr : Rep W (fun k => k ≠ p) v [d0, d1, d2, d3, d4]) (hw : Below w.heap.size w W) (hp : w.heap.size ≤ p) :
    Made w p v (five W p d0 d1 d2 d3 d4) :=
  ⟨_, five_blk hb d0 d1 d2 d3 d4, hr.kept (five_keeps W p d0 d1 d2 d3 d4), below_five hw hp d0 d1 d2 d3 d4, hp⟩
/-- One list more round a value. -/
theorem nest_rep {W W2 : World} {p i : Nat} {c0 c1 c2 c3 c4 : Value} (hr : Rep W (fun k => k ≠ p) (nestV i) [c0, c1, c2, c3, c4]) (hp : p < W.heap.size) (hb : Below (W.alloc (.cells #[c0, c1, c2, c3, c4] 27)).heap.size (W.alloc (.cells #[c0, c1, c2, c3, c4] 27)) W2) :
    Rep W2 (fun k => k ≠ p) (nestV (i + 1)) [.int .i64 7, .int .u64 0, .slice none 0 0, .slice (some ⟨W.heap.size, 0, none⟩) 1 1, .slice none 0 0] := by
  have hq := blk_below (heap_alloc_new W (.cells #[c0, c1, c2, c3, c4] 27)) hb
  have b2 := below_step ((Below.refl W.heap.size W).alloc (Nat.le_refl _) (.cells #[c0, c1, c2, c3, c4] 27)) (Nat.le_refl _) hb
  have hr2 := hr.kept (Keeps.of_below b2 _ (fun k hk _ => hk))
  have hlt : W.heap.size < W2.heap.size := by have := hb.size; simp at this; omega
  refine .mk 7 0 [] [nestV i] [] none _ none 0 1 0 (fun _ => [c0, c1, c2, c3, c4]) (fun _ => []) (by omega) (by omega) len0 (Row.nil _ _ _ _ _) ⟨by simp, by simp, by omega⟩ ?_ ?_ len0 (Row.nil _ _ _ _ _) (by simp) (by simp)
  · intro _
    refine ⟨W.heap.size, 0, rfl, by omega, hlt, fun i hi => ⟨rfl, fun j hj => ?_⟩⟩
    obtain rfl : i = 0 := by simpa using hi
    rw [cell_blk hq]
    simp
  · intro j hj
    obtain rfl : j = 0 := by simpa using hj
    exact hr2
/-- A document of one field. -/
theorem name_rep {W : World} {p g k : Nat} (hq : W.heap[g]? = some (.cells #[.string (longB k), .int .i64 3, .int .u64 1, .slice none 0 0, .slice none 0 0, .slice none 0 0] 59 (0, 0))) (hg : g ≠ p) (hk : k ≤ 1000) :
    Rep W (fun k => k ≠ p) (nameV k) [.int .i64 8, .int .u64 0, .slice none 0 0, .slice none 0 0, .slice (some ⟨g, 0, none⟩) 1 1] := by
  have hlt := (Array.getElem?_eq_some_iff.1 hq).1
  refine .mk 8 0 [] [] [(longB k, intV 1)] none none _ 0 0 1 (fun _ => []) (fun _ => [.int .i64 3, .int .u64 1, .slice none 0 0, .slice none 0 0, .slice none 0 0]) (by omega) (by omega) len0 (Row.nil _ _ _ _ _) len0 (Row.nil _ _ _ _ _) (by simp) ⟨by simp, by simp, by omega⟩ ?_ ?_ ?_
  · intro _
    refine ⟨g, 0, rfl, hg, hlt, fun i hi => ⟨rfl, fun j hj => ?_⟩⟩
    obtain rfl : i = 0 := by simpa using hi
    rw [cell_blk hq]
    simp
  · intro j hj
    obtain rfl : j = 0 := by simpa using hj
    exact rep_atom (by omega) (by omega)
  · intro j hj
    obtain rfl : j = 0 := by simpa using hj
    show (longB k).size ≤ _
    rw [longB_size]; omega
/-- A row of Ints, as Items has it. -/
theorem items_done {W : World} {b : Nat} {v : Value} {vs : List V} {css : List (List Value)} (h : Items W b v vs css) (hl : vs.length ≤ 1000) :
    Rep W (fun k => b < k) (.mk 7 0 [] vs []) [.int .i64 7, .int .u64 0, .slice none 0 0, v, .slice none 0 0] := by
  have h5 := h.css5
  obtain ⟨A, c, rfl, hc, hm, hr⟩ := own_row h.own (fun j => css.getD j []) (fun i hi => ⟨by
      obtain ⟨c0, c1, c2, c3, c4, e, -⟩ := (h.rep i hi).five
      rw [e]; rfl, fun j hj => flat_get 5 css h5 i (by rw [h.len]; exact hi) j hj⟩) (fun k => b < k) (fun k hk => by have := (World.ownsRow.lt h.own k hk).1; omega)
  exact .mk 7 0 [] vs [] none A none 0 c 0 (fun j => css.getD j []) (fun _ => []) (by omega) (by omega) len0 (Row.nil _ _ _ _ _) ⟨hc, by omega, hm⟩ hr (fun j hj => (h.rep j hj).mono fun k _ hS => hS.1) len0 (Row.nil _ _ _ _ _) (by simp) (by simp)
section
variable {ops : Array Oper} {rest : List Oper} {o : Oper} {a : Act} {Q : Exit → Act → World → Prop} {w : World}
/-- append(v, x), as step_app_one, for longer rows. -/
theorem step_app_more {K : Act → World → Prop} {E : Prop} (hgd : o.guard = none) (s x : Operand) (t e : TypeId) (ho : o.op = .call { callee := .builtin .append, args := #[s, x], argTypes := #[t, t] })
    (i : TypeInfo) (z : Value) (size bytes : Nat) (ht : Tryd.prog.underlying t = some (.slice e)) (hi : Tryd.prog.info? e = some i) (hz : i.zero = some z)
    (hsize : i.size = size) (hby : i.bytes = bytes) (hzs : z.cells.size = size) (hsz : 0 < size)
    (base n : Nat) (v : Value) (xs : List Value) (hs : a.eval s = v) (hown : w.ownsRow base e size v n xs) (b : Nat) (cs : List Value) (hx : a.eval x = .slice (some ⟨b, 0, none⟩) 1 1) (hcs : cs.length = size)
    (hb : w.heap[b]? = some (.cells cs.toArray e (0, 0))) (h1 : ∀ u ∈ cs, u.oneCell' = true) (hn : n ≤ 1000) (hbb : bytes ≤ 1000) (hbase : base ≤ w.heap.size)
    (h : ∀ v' w', w'.ownsRow base e size v' (n + 1) (xs ++ cs) → w.grownBy w' v.ownBlock → (v'.ownBlock = v.ownBlock ∨ v'.ownBlock = some w.heap.size) → K (a.put o.dst v') w') :
    if Region.wanted o (yielded ops a.tmps) = true then Oper.wp Tryd.prog o a w K Q else E := by
  have hw : Region.wanted o (yielded ops a.tmps) = true := by simp [Region.wanted, hgd]
  rw [if_pos hw]
  obtain ⟨v', w', hr, h2, h3, h4, h5⟩ := run_append_own_at (P := Tryd.prog) w base t o.type e i z size bytes ht hi hz hsize hby hzs hsz v n xs hown ⟨b, 0, none⟩ 1 1 cs (by omega)
    (fun j u hu => by
      have e : (⟨b, 0, none⟩ : Addr).add j = ⟨b, j, none⟩ := by unfold Addr.add; split <;> simp_all
      rw [e, cell_blk hb j]
      simpa using hu) h1 (by unfold maxLen; omega) (by
      have : (n + 1) * bytes ≤ 1001 * 1000 := Nat.mul_le_mul (by omega) hbb
      omega) hbase
  unfold Oper.wp execOp
  simp only [ho, resolve, invoke, builtin, Sem.run_bind, Sem.run_pure, Result.andThen_ok, List.map_toArray, List.map_cons, List.map_nil, hs, hx, hr]
  exact h v' w' h2 h3 h5
end
section
variable {ops : Array Oper} {rest : List Oper} {o : Oper} {a : Act} {Q : Exit → Act → World → Prop} {w : World}
/-- make([]byte, n) as a step. -/
theorem wpList_mkN (hg : o.guard = none) (l c : Operand) (hop : o.op = Op.makeSlice 22 l c) (z : Int) (hl : a.eval l = .int .i64 z) (hc : a.eval c = .int .i64 z) (N : Nat) (X : Obj)
    (hrun : ∀ W : World, (Instr.makeSlice 22 (.int .i64 z) (.int .i64 z)).run Tryd.prog W = .ok (.slice (some ⟨W.heap.size, 0, none⟩) N N) (W.alloc X))
    (hK : wpList Tryd.prog ops Q rest (a.put o.dst (.slice (some ⟨w.heap.size, 0, none⟩) N N)) (w.alloc X)) : wpList Tryd.prog ops Q (o :: rest) a w := by
  refine wpList_plain hg fun K hK' => ?_
  unfold Oper.wp
  simp [execOp, hop, hl, hc, hrun w, Result.andThen]
  exact hK' _ _ hK
end
/-- make([]byte, n) -/
theorem run_mkN (Z : Nat) (hZ : Z ≤ 10000) (z : Int) (hz : z = Z) : ∀ W : World, (Instr.makeSlice 22 (.int .i64 z) (.int .i64 z)).run Tryd.prog W = .ok (.slice (some ⟨W.heap.size, 0, none⟩) Z Z) (W.alloc (.cells (bcells (List.replicate Z 0)).toArray 5)) := by
  subst hz
  obtain ⟨i0, hi, hzz⟩ := Option.map_eq_some_iff.1 info5
  simp only [Prod.mk.injEq] at hzz
  obtain ⟨hz0, hz1, hz2⟩ := hzz
  intro W
  have := run_make (P := Tryd.prog) W 22 5 i0 (.int .u8 0) Tryd.underlying22 hi hz0 .i64 .i64 (Z : Int) (Z : Int) (by omega) (Int.le_refl _) (by rw [hz2]; omega) (by omega)
  rw [this]
  have e : madeCells (Value.int .u8 0).cells (Z * i0.size) = (bcells (List.replicate Z 0)).toArray := by
    apply Array.toList_inj.1
    have : (Value.int .u8 0).cells = #[Value.int .u8 0] := rfl
    rw [hz1, Nat.mul_one, this, toList_madeCells_one]
    simp [bcells]
  simp only [Int.toNat_natCast, e]

set_option maxRecDepth 100000 in
set_option maxHeartbeats 4000000 in
theorem valDeep_any (n kind : Int) (w : World) (_ : (Lit.int .i64 n).wf = true) (_ : (Lit.int .i64 kind).wf = true) (hT : Tabs w) :
    Calls Tryd.prog 6 #[.int .i64 n, .int .i64 kind] w fun e w' => e = .returned (.bool true) ∧ Below w.heap.size w w' := by
  obtain ⟨k, hk, hk2⟩ : ∃ k : Nat, bits .and .i64 n 127 = (k : Int) ∧ k ≤ 127 := ⟨(n % 128).toNat, by rw [i64_and127]; omega, by omega⟩
  obtain ⟨m, hm, hm2⟩ : ∃ m : Nat, bits .and .i64 kind 3 = (m : Int) ∧ m ≤ 3 := ⟨(kind % 4).toNat, by rw [i64_and3]; omega, by omega⟩
  have HT := Lib.hid hT
  clear hT
  go_enter Tryd.func6, Tryd.ntmps6
  go_wp2_with fail
  refine (awake_any w HT.out).mono ?_
  rintro e w1 ⟨rfl, hb1⟩
  have HB1 := Lib.hid hb1
  have hI := I_any 1 w1
  have hwr : IntKind.u64.wrap 1 = 1 := by decide
  rw [hwr] at hI
  have HI := Lib.hid hI
  clear hI hwr hb1
  go_wp2_with fail
  refine HI.out.mono ?_
  rintro e w2 ⟨rfl, hb2⟩
  have HB2 := Lib.hid (below_step HB1.out (Nat.le_refl _) hb2)
  clear hb2 HI HB1
  have q3 := heap_alloc_new w2 (.cells #[.int .i64 3, .int .u64 1, .slice none 0 0, .slice none 0 0, .slice none 0 0] 27)
  have b3 := below_step HB2.out (Nat.le_refl _) ((Below.refl w2.heap.size w2).alloc (Nat.le_refl _) (.cells #[.int .i64 3, .int .u64 1, .slice none 0 0, .slice none 0 0, .slice none 0 0] 27))
  have hm0 : Made w w2.heap.size (nestV 0) (w2.alloc (.cells #[.int .i64 3, .int .u64 1, .slice none 0 0, .slice none 0 0, .slice none 0 0] 27)) := ⟨_, q3, rep_atom (by omega) (by omega), b3, HB2.out.size⟩
  have HM0 := Lib.hid hm0
  clear q3 b3 hm0
  go_upto_block 0 with fail
  generalize w2.alloc _ = w3 at HM0 ⊢
  generalize w2.heap.size = p at HM0 ⊢
  have HDN := Lib.hid (deeps_nest k hk2)
  have HDI := Lib.hid (deeps_ints k hk2)
  obtain ⟨N, hN1, hN2⟩ : ∃ N : Nat, N ≤ 4029 + k ∧ 4029 + k ≤ N := ⟨_, Nat.le_refl _, Nat.le_refl _⟩
  have HDB := Lib.hid (deeps_bytes N (by omega))
  have HDM := Lib.hid (deeps_name k hk2)
  clear hk hm
  go_cut [7] (fun t7 wc => ∃ (v : V) (want : Int), t7 = .int .i64 want ∧ Deeps v want ∧ Made w p v wc)
  case first =>
    have hm4 : m = 0 ∨ m = 1 ∨ m = 2 ∨ m = 3 := by omega
    rcases hm4 with rfl | rfl | rfl | rfl
    · clear HDI HDB HDM
      go_wp2_with fail
      go_loopg [8] k (fun g t8 wr => ∃ i : Nat, i ≤ k ∧ t8 = .int .i64 i ∧ k ≤ i + g ∧ Made w p (nestV i) wr)
      case atStart => exact ⟨0, by omega, rfl, by omega, HM0.out⟩
      case round =>
        clear HM0
        obtain ⟨i, hi, rfl, hg, hmd⟩ := hrel
        by_cases hlt : i < k
        · obtain ⟨kk, nn, AB, AL, AF, nb, nl, nf, cb, cl, cf, hb, hr, hw, hpw⟩ := hmd.open
          have c0 := cell_blk hb 0; have c1 := cell_blk hb 1; have c2 := cell_blk hb 2; have c3 := cell_blk hb 3; have c4 := cell_blk hb 4
          have HB := Lib.hid hb
          have HR := Lib.hid hr
          have HW := Lib.hid hw
          have HPW := Lib.hid hpw
          have hL := L_any (some ⟨wr.heap.size, 0, none⟩) 1 1 (wr.alloc (.cells #[.int .i64 kk, .int .u64 nn, .slice AB nb cb, .slice AL nl cl, .slice AF nf cf] 27))
          have HL := Lib.hid hL
          clear hb hr hw hpw hmd hL
          go_wp2_with fail
          refine HL.out.mono ?_
          rintro e w5 ⟨rfl, hb5⟩
          have hlp := (Array.getElem?_eq_some_iff.1 HB.out).1
          have hn := nest_rep HR.out hlp hb5
          have b05 := below_step ((Below.refl wr.heap.size wr).alloc (Nat.le_refl _) (.cells #[.int .i64 kk, .int .u64 nn, .slice AB nb cb, .slice AL nl cl, .slice AF nf cf] 27)) (Nat.le_refl _) hb5
          have q5 := blk_below HB.out b05
          have hmd := made_five q5 hn (below_step HW.out (Nat.le_refl _) b05) HPW.out
          have HMD := Lib.hid hmd
          clear c0 c1 c2 c3 c4
          have c0 := cell_blk q5 0; have c1 := cell_blk q5 1; have c2 := cell_blk q5 2; have c3 := cell_blk q5 3; have c4 := cell_blk q5 4
          have f0 := frozen_blk q5 0; have f1 := frozen_blk q5 1; have f2 := frozen_blk q5 2; have f3 := frozen_blk q5 3; have f4 := frozen_blk q5 4
          clear hmd q5 b05 hn hlp hb5 HL
          go_wp2_with fail
          go_roundg (gk - 1)
          case measure => omega
          case rel => exact ⟨i + 1, by omega, by go_num, by omega, HMD.out⟩
        · obtain rfl : i = k := by omega
          have HM := Lib.hid hmd
          clear hmd
          by_cases h16 : 16 < i
          · have hd := HDN.out
            rw [if_pos h16] at hd
            have HD := Lib.hid hd
            have hz : 16 < (i : Int) := by omega
            clear hd
            go_wp2_with fail
            go_meet
            exact ⟨_, _, rfl, HD.out, HM.out⟩
          · have hd := HDN.out
            rw [if_neg h16] at hd
            have HD := Lib.hid hd
            have hz : ¬ 16 < (i : Int) := by omega
            clear hd
            go_wp2_with fail
            go_meet
            exact ⟨_, _, rfl, HD.out, HM.out⟩
    · clear HDN HDB HDM
      obtain ⟨i0, hi, hzz⟩ := Option.map_eq_some_iff.1 info27
      simp only [Prod.mk.injEq] at hzz
      obtain ⟨hz0, hz1, hz2⟩ := hzz
      have HI := Lib.hid hi
      have HZ0 := Lib.hid hz0
      have HZ1 := Lib.hid hz1
      have HZ2 := Lib.hid hz2
      clear hi hz0 hz1 hz2
      obtain ⟨kk, nn, AB, AL, AF, nb, nl, nf, cb, cl, cf, hb, hr, hw, hpw⟩ := HM0.out.open
      have c0 := cell_blk hb 0; have c1 := cell_blk hb 1; have c2 := cell_blk hb 2; have c3 := cell_blk hb 3; have c4 := cell_blk hb 4
      have f0 := frozen_blk hb 0; have f1 := frozen_blk hb 1; have f2 := frozen_blk hb 2; have f3 := frozen_blk hb 3; have f4 := frozen_blk hb 4
      have q4 := five_blk hb (.int .i64 7) (.int .u64 0) (.slice none 0 0) (.slice none 0 0) (.slice none 0 0)
      have b4 := below_five hw hpw (.int .i64 7) (.int .u64 0) (.slice none 0 0) (.slice none 0 0) (.slice none 0 0)
      have it4 : Items (five w3 p (.int .i64 7) (.int .u64 0) (.slice none 0 0) (.slice none 0 0) (.slice none 0 0)) p (.slice none 0 0) [] [] := Items.start (World.ownsRow_nil _ _ _ _) (Array.getElem?_eq_some_iff.1 q4).1
      have HQ4 := Lib.hid q4
      have HB4 := Lib.hid b4
      have HI4 := Lib.hid it4
      have HPW := Lib.hid hpw
      clear hb hr hw hpw q4 b4 it4 HM0
      go_wp2_with fail
      go_loopg [9] k (fun g t9 wr => ∃ (vs : List V) (css : List (List Value)) (v3 : Value), t9 = .int .i64 vs.length ∧ vs.length ≤ k ∧ k ≤ vs.length + g ∧ vs = (List.range vs.length).map (fun i : Nat => intV (i : Int)) ∧
        wr.heap[p]? = some (.cells #[.int .i64 7, .int .u64 0, .slice none 0 0, v3, .slice none 0 0] 27 (0, 0)) ∧ Items wr p v3 vs css ∧ Below w.heap.size w wr)
      case atStart => exact ⟨[], [], .slice none 0 0, rfl, by simp, by simp, rfl, HQ4.out, HI4.out, HB4.out⟩
      case round =>
        clear HQ4 HI4 HB4 c0 c1 c2 c3 c4 f0 f1 f2 f3 f4
        obtain ⟨vs, css, v3, rfl, hvk, hg, hvs, hb, hI, hw⟩ := hrel
        obtain ⟨A3, cc3, rfl⟩ := ownsRow_slice hI.own
        have HVS := Lib.hid hvs
        have HW := Lib.hid hw
        clear hvs hw
        by_cases hlt : vs.length < k
        · have hId := hI.below (below_drew wr)
          have bd := blk_below hb (below_drew wr)
          have HBD := Lib.hid bd
          have HID := Lib.hid hId
          have z3 := cell_blk bd 3
          have hC : Calls Tryd.prog 24 #[.int .i64 vs.length] wr.drew (fun e w' => ∃ r, e = .returned r ∧ (r = .agg #[.int .i64 3, .int .u64 vs.length, .slice none 0 0, .slice none 0 0, .slice none 0 0] ∧ Below wr.drew.heap.size wr.drew w')) := by
            have hwr : IntKind.u64.wrap (vs.length : Int) = vs.length := by rw [IntKind.wrap_u64]; omega
            refine (I_any vs.length wr.drew).mono ?_
            rintro e w' ⟨rfl, hb⟩
            rw [hwr]
            exact ⟨_, rfl, rfl, hb⟩
          have HC := Lib.hid hC
          have h1c : ∀ u ∈ [Value.int .i64 3, .int .u64 vs.length, .slice none 0 0, .slice none 0 0, .slice none 0 0], u.oneCell' = true := by simp [Value.oneCell']
          have H1C := Lib.hid h1c
          have hn : vs.length ≤ 1000 := by omega
          clear hId bd hC h1c hb hI
          go_upto_region 19 with fail
          go_region_law (first
            | (refine step_call1E 24 rfl (.tmp 45) _ rfl rfl (enters_of Tryd.func24 (by kernel_rfl) rfl) HC.out ?_; rintro r5 w5 ⟨rfl, hb5⟩; have q5 := blk_below HBD.out hb5; have z5 := cell_blk q5 3; have ba := (Below.refl w5.heap.size w5).alloc (Nat.le_refl _) (.cells #[.int .i64 3, .int .u64 vs.length, .slice none 0 0, .slice none 0 0, .slice none 0 0] 27); have q5b := blk_below q5 ba; have z5b := cell_blk q5b 3; have HI5 := Lib.hid ((HID.out.below hb5).below ba); have HQ5 := Lib.hid q5b; have HB5 := Lib.hid (below_step (below_step HW.out (Nat.le_refl _) (below_step (below_drew wr) (Nat.le_refl _) hb5)) (Nat.le_refl _) ba); have hbase := HI5.out.low; clear q5 ba q5b hb5)
            | (refine step_app_more rfl (.tmp 44) (.tmp 47) 24 27 rfl i0 (.agg vzero) 5 88 Tryd.underlying24 HI.out HZ0.out HZ1.out HZ2.out rfl (by decide) (p + 1) vs.length (.slice A3 vs.length cc3) css.flatten rfl HI5.out.own w5.heap.size [.int .i64 3, .int .u64 vs.length, .slice none 0 0, .slice none 0 0, .slice none 0 0] rfl rfl (heap_alloc_new _ _) H1C.out hn (by decide) hbase ?_; intro v6 w6 ho6 hg6 hat6; have q6 := blk_grown HQ5.out hg6 (fun e => by have := (World.ownsRow.lt HI5.out.own p e).1; omega); have z6 := cell_blk q6 3; have f6 := frozen_blk q6 3; obtain ⟨A6, c6, rfl⟩ := ownsRow_slice ho6))
          all_goals
            have hit := (HI5.out.push (x := intV (vs.length : Int)) (rep_atom (by omega) (by omega)) ho6 hg6 hat6).kept (grown_setCell w6 ⟨p, 3, none⟩ (.slice A6 (vs.length + 1) c6)) (fun k e => by cases e; exact Nat.le_refl _)
            have hb6 := below_set (j := 3) (v := .slice A6 (vs.length + 1) c6) (HB5.out.trans (below_of_grown hg6 w.heap.size HB5.out.size (fun k hk => by have := (World.ownsRow.lt HI5.out.own k hk).1; have := HPW.out; omega))) HPW.out
            have q7 := set_blkN q6 3 (.slice A6 (vs.length + 1) c6)
            have HIT := Lib.hid hit
            have HB6 := Lib.hid hb6
            have HQ7 := Lib.hid q7
            clear hit hb6 q7 q6 ho6 hg6 hat6 HI5 HQ5 HB5 hbase HBD HID HC H1C z3 z5 z5b
            go_wp2_with fail
            go_roundg (gk - 1)
            case measure => omega
            case rel =>
              refine ⟨vs ++ [intV (vs.length : Int)], _, .slice A6 (vs.length + 1) c6, ?_, by simp; omega, by simp; omega, ?_, HQ7.out, HIT.out, HB6.out⟩
              · simp
              · rw [List.length_append, List.length_singleton, List.range_succ, List.map_append, ← HVS.out]
                rfl
        · have hvk : vs.length = k := by omega
          have hrep := items_done hI (by omega)
          rw [HVS.out] at hrep
          have hmd : Made w p (intsV k) wr := ⟨_, hb, by
            have := hrep.mono (S' := fun k => k ≠ p) (fun k _ h => by omega)
            rw [intsV, ← hvk]
            simpa using this, HW.out, HPW.out⟩
          have HM := Lib.hid hmd
          clear hrep hmd hb hI HVS HW HPW
          by_cases h64 : 64 < k
          · have hd := HDI.out
            rw [if_pos h64] at hd
            have HD := Lib.hid hd
            have hz : 64 < (k : Int) := by omega
            clear hd
            go_wp2_with fail
            go_meet
            exact ⟨_, _, rfl, HD.out, HM.out⟩
          · have hd := HDI.out
            rw [if_neg h64] at hd
            have HD := Lib.hid hd
            have hz : ¬ 64 < (k : Int) := by omega
            clear hd
            go_wp2_with fail
            go_meet
            exact ⟨_, _, rfl, HD.out, HM.out⟩
    · clear HDN HDI HDM
      have hmk := run_mkN N (by omega) (4029 + (k : Int)) (by omega)
      obtain ⟨kk, nn, AB, AL, AF, nb, nl, nf, cb, cl, cf, hb, hr, hw, hpw⟩ := HM0.out.open
      obtain ⟨X, hX⟩ : ∃ X, Obj.cells (bcells (List.replicate N 0)).toArray 5 = X := ⟨_, rfl⟩
      have hx := heap_alloc_new w3 X
      have b4 := (Below.refl w3.heap.size w3).alloc (Nat.le_refl _) X
      rw [← hX] at hx
      have hrow : BRow (w3.alloc X) (fun k => k ≠ p) (some ⟨w3.heap.size, 0, none⟩) (List.replicate N 0) := BRow.of (by have := (Array.getElem?_eq_some_iff.1 hb).1; omega) (by simp) (fun i hi => by
        rw [← hX, cell_blk hx, List.getElem?_toArray, Nat.zero_add, bcells_get _ hi])
      have hrep : Rep (w3.alloc X) (fun k => k ≠ p) (bytesV N) _ := rep_bytes (k := 6) (n := 0) (c := N) (by omega) (by omega) ⟨by simp, by simp; omega, by omega⟩ hrow
      rw [List.length_replicate] at hrep
      have hmd := made_five (blk_below hb b4) hrep (below_step hw (Nat.le_refl _) b4) hpw
      have HM := Lib.hid hmd
      have q4 := blk_below hb b4
      have c0 := cell_blk q4 0; have c1 := cell_blk q4 1; have c2 := cell_blk q4 2; have c3 := cell_blk q4 3; have c4 := cell_blk q4 4
      have f0 := frozen_blk q4 0; have f1 := frozen_blk q4 1; have f2 := frozen_blk q4 2; have f3 := frozen_blk q4 3; have f4 := frozen_blk q4 4
      rw [hX] at hmk
      clear hX hb hr hw hpw hx b4 hrow hrep hmd q4 HM0
      have HMK := Lib.hid hmk
      clear hmk
      go_upto_region 23 with fail
      go_upto_region 24 with (at_make; go_must (refine wpList_mkN rfl _ _ rfl _ rfl rfl N X HMK.out ?_))
      clear c0 c1 c2 c3 c4 f0 f1 f2 f3 f4 HMK
      by_cases h1 : 4096 < N + 3
      · have hd := HDB.out
        rw [if_pos h1] at hd
        have HD := Lib.hid hd
        have hz : 4096 < 4029 + (k : Int) + 3 := by omega
        clear hd
        go_wp2_with fail
        go_meet
        exact ⟨_, _, rfl, HD.out, HM.out⟩
      · have hd := HDB.out
        rw [if_neg h1] at hd
        have HD := Lib.hid hd
        have hz : ¬ 4096 < 4029 + (k : Int) + 3 := by omega
        clear hd
        go_wp2_with fail
        go_meet
        exact ⟨_, _, rfl, HD.out, HM.out⟩
    · clear HDN HDI HDB
      obtain ⟨X, hX⟩ : ∃ X, Obj.cells (bcells (List.replicate 0 0)).toArray 5 = X := ⟨_, rfl⟩
      have hmk := run_mkN 0 (by omega) 0 (by omega)
      rw [hX] at hmk
      have hcv : ∀ (W : World) (A : Option Addr) (c : Nat), (convert 22 9 (.slice A 0 c)).run Tryd.prog W = .ok (.string ⟨#[]⟩) W := fun W A c => conv_str (b := []) rfl (Row.nil W (Old W) _ _ _)
      have hcat : (⟨#[]⟩ : ByteArray) ++ longB k = longB k := ByteArray.empty_append
      have hsz : ¬ 9223372036854775807 < (longB k).size := by rw [longB_size]; omega
      have HLG := Lib.hid (fun W : World => (long_any k (by omega) W).mono (R' := fun e w' => ∃ r, e = .returned r ∧ (r = .string (longB k) ∧ Below W.heap.size W w')) (fun e w' h => ⟨_, h.1, rfl, h.2⟩))
      have HIG := Lib.hid (fun W : World => (I_any 1 W).mono (R' := fun e w' => ∃ r, e = .returned r ∧ (r = .agg #[.int .i64 3, .int .u64 1, .slice none 0 0, .slice none 0 0, .slice none 0 0] ∧ Below W.heap.size W w')) (fun e w' h => ⟨_, h.1, rfl, h.2⟩))
      have HDG := Lib.hid (fun W : World => (D_any (longB k) (.int .i64 3) (.int .u64 1) (.slice none 0 0) (.slice none 0 0) (.slice none 0 0) W).mono (R' := fun e w' => ∃ r, e = .returned r ∧ ∃ g, (r = .agg #[.int .i64 8, .int .u64 0, .slice none 0 0, .slice none 0 0, .slice (some ⟨g, 0, none⟩) 1 1] ∧ w'.heap[g]? = some (.cells #[.string (longB k), .int .i64 3, .int .u64 1, .slice none 0 0, .slice none 0 0, .slice none 0 0] 59 (0, 0)) ∧ W.heap.size ≤ g ∧ Below W.heap.size W w')) (fun e w' ⟨g, h1, h2, h3, h4⟩ => ⟨_, h1, g, rfl, h2, h3, h4⟩))
      have HB := Lib.hid (below_drew w3)
      clear hX
      go_upto_region 27 with fail
      go_region_law (first
        | (refine step_call1E 27 rfl (.tmp 66) _ rfl rfl (enters_of Tryd.func27 (by kernel_rfl) rfl) (HLG.out _) ?_; rintro r5 w5 ⟨rfl, hb5⟩; have HB := Lib.hid (show Below w3.heap.size w3 w5 from by first | exact below_step HB.out (Nat.le_refl _) hb5 | exact below_step (HB.out.alloc HB.out.size X) (Nat.le_refl _) hb5); clear hb5)
        | (refine step_call1E 24 rfl (.const (.int .i64 1)) _ rfl rfl (enters_of Tryd.func24 (by kernel_rfl) rfl) (HIG.out _) ?_; rintro r6 w6 ⟨rfl, hb6⟩; have HB := Lib.hid (show Below w3.heap.size w3 w6 from by first | exact below_step HB.out (Nat.le_refl _) hb6 | exact below_step (HB.out.alloc HB.out.size X) (Nat.le_refl _) hb6); clear hb6)
        | (refine step_call2E 26 rfl (.tmp 68) (.tmp 69) _ rfl rfl rfl (enters_of Tryd.func26 (by kernel_rfl) rfl) (HDG.out _) ?_; rintro r7 w7 ⟨g, rfl, hg7, hs7, hb7⟩; have HG := Lib.hid (show _ ∧ w3.heap.size ≤ g from And.intro hg7 (by first | exact Nat.le_trans HB.out.size hs7 | exact Nat.le_trans (HB.out.alloc HB.out.size X).size hs7)); have HB := Lib.hid (show Below w3.heap.size w3 w7 from by first | exact below_step HB.out (Nat.le_refl _) hb7 | exact below_step (HB.out.alloc HB.out.size X) (Nat.le_refl _) hb7); obtain ⟨kk, nn, AB, AL, AF, nb, nl, nf, cb, cl, cf, hb, hr, hw, hpw⟩ := HM0.out.open; have q7 := blk_below hb HB.out; have c0 := cell_blk q7 0; have c1 := cell_blk q7 1; have c2 := cell_blk q7 2; have c3 := cell_blk q7 3; have c4 := cell_blk q7 4; have f0 := frozen_blk q7 0; have f1 := frozen_blk q7 1; have f2 := frozen_blk q7 2; have f3 := frozen_blk q7 3; have f4 := frozen_blk q7 4; clear hb7 hg7 hs7 hb hr hw hpw))
      all_goals
        obtain ⟨kk, nn, AB, AL, AF, nb, nl, nf, cb, cl, cf, hb, hr, hw, hpw⟩ := HM0.out.open
        have hgp : g ≠ p := by have := HG.out.2; have := (Array.getElem?_eq_some_iff.1 hb).1; omega
        have hmd := made_five (blk_below hb HB.out) (name_rep HG.out.1 hgp (by omega)) (below_step hw (Nat.le_refl _) HB.out) hpw
        have HM := Lib.hid hmd
        clear hb hr hw hpw hgp hmd c0 c1 c2 c3 c4 f0 f1 f2 f3 f4 q7 hmk hcv hcat hsz HM0 HLG HIG HDG HB HG
        by_cases h1 : k < 1
        · have hd := HDM.out
          rw [if_pos (.inl h1)] at hd
          have HD := Lib.hid hd
          have hz : (k : Int) < 1 := by omega
          clear hd
          go_wp2_with fail
          go_meet
          exact ⟨_, _, rfl, HD.out, HM.out⟩
        · by_cases h2 : 32 < k
          · have hd := HDM.out
            rw [if_pos (.inr h2)] at hd
            have HD := Lib.hid hd
            have hz : ¬ (k : Int) < 1 := by omega
            have hz2 : 32 < (k : Int) := by omega
            clear hd
            go_wp2_with fail
            go_meet
            exact ⟨_, _, rfl, HD.out, HM.out⟩
          · have hd := HDM.out
            rw [if_neg (by omega)] at hd
            have HD := Lib.hid hd
            have hz : ¬ (k : Int) < 1 := by omega
            have hz2 : ¬ 32 < (k : Int) := by omega
            clear hd
            go_wp2_with fail
            go_meet
            exact ⟨_, _, rfl, HD.out, HM.out⟩
  --TAIL
  obtain ⟨v, want, rfl, hd, hmd⟩ := hcut
  obtain ⟨kk, nn, AB, AL, AF, nb, nl, nf, cb, cl, cf, hb, hr, hw, hpw⟩ := hmd.open
  have HD := Lib.hid hd
  have HW := Lib.hid hw
  have HR := Lib.hid hr.old
  have HQ := Lib.hid hb
  clear HDN HDI HDB HDM HM0 hd hmd hr hw hpw hN1 hN2 hk2 hm2 HB2
  have HG := Lib.hid (good_any v _ wc (HT.out.below HW.out) HR.out HD.out.small)
  have q := HQ.out
  have a0 := cell_blk q 0; have a1 := cell_blk q 1; have a2 := cell_blk q 2; have a3 := cell_blk q 3; have a4 := cell_blk q 4
  clear q hb
  go_wp2_with fail
  refine HG.out.mono ?_
  rintro e w4 ⟨rfl, hb4⟩
  rw [HD.out.good]
  have e0 : (want != want) = false := by simp
  have HB4 := Lib.hid (below_step HW.out (Nat.le_refl _) hb4)
  have HR4 := Lib.hid (HR.out.below hb4)
  have HQ4 := Lib.hid (blk_below HQ.out hb4)
  have HPV := Lib.hid (put_any v _ w4 (HT.out.below HB4.out) HR4.out HD.out.small)
  clear a0 a1 a2 a3 a4 hb4 HG
  have q := HQ4.out
  have a0 := cell_blk q 0; have a1 := cell_blk q 1; have a2 := cell_blk q 2; have a3 := cell_blk q 3; have a4 := cell_blk q 4
  clear q
  go_wp2_with fail
  refine HPV.out.mono ?_
  rintro e w5 ⟨t, pb, rfl, ho5, hb5, hz, hz2⟩
  rw [HD.out.good] at hz hz2 ⊢
  obtain ⟨A1, c1, rfl, hc1, hc12, hr1⟩ := ho5.old
  have HB5 := Lib.hid (below_step HB4.out (Nat.le_refl _) hb5)
  have HR5 := Lib.hid (HR4.out.below hb5)
  have HQ5 := Lib.hid (blk_below HQ4.out hb5)
  have HR1 := Lib.hid hr1
  clear a0 a1 a2 a3 a4 hb5 HPV ho5 hr1 e0
  by_cases h0 : want = 0
  · subst h0
    have hz := hz rfl
    subst hz
    have hgv := back_put HD.out.nums HD.out.good
    have HGP := Lib.hid (get_any validC nameC (encR v) w5 _ A1 c1 HR1.out (fun k hk => hk) hc1 hc12 (HT.out.below HB5.out))
    have HGV := Lib.hid hgv
    clear hgv hz2
    go_wp2_with fail
    refine HGP.out.mono ?_
    rw [HGV.out]
    rintro e w6 ⟨cs6, rfl, hr6, hb6⟩
    have hr6' := hr6.old
    obtain ⟨kv, nv, bv, lv, fv⟩ := v
    obtain ⟨AB2, AL2, AF2, cb2, cl2, cf2, L2, F2, rfl, -⟩ := hr6.inv
    clear hr6
    dsimp only
    have b67 := (Below.refl w6.heap.size w6).alloc (Nat.le_refl _) (.cells #[.int .i64 kv, .int .u64 nv, .slice AB2 bv.length cb2, .slice AL2 lv.length cl2, .slice AF2 fv.length cf2] 27)
    have q7 := heap_alloc_new w6 (.cells #[.int .i64 kv, .int .u64 nv, .slice AB2 bv.length cb2, .slice AL2 lv.length cl2, .slice AF2 fv.length cf2] 27)
    have hR7 := Rep0.below b67 hr6'
    have b57 := below_step hb6 (Nat.le_refl _) b67
    have q57 := blk_below HQ5.out b57
    have hS := lawsame_any _ _ _ _ _ hR7 (HR5.out.below b57)
    rw [sameR_refl] at hS
    have HS := Lib.hid hS
    have HB7 := Lib.hid (below_step HB5.out (Nat.le_refl _) b57)
    have a0 := cell_blk q57 0; have a1 := cell_blk q57 1; have a2 := cell_blk q57 2; have a3 := cell_blk q57 3; have a4 := cell_blk q57 4
    have z0 := cell_blk q7 0; have z1 := cell_blk q7 1; have z2 := cell_blk q7 2; have z3 := cell_blk q7 3; have z4 := cell_blk q7 4
    clear hr6' b67 q7 hb6 HGP hR7 b57 q57 hS
    go_upto_region 37 with fail
    generalize w6.alloc _ = w7 at HS HB7 a0 a1 a2 a3 a4 z0 z1 z2 z3 z4 ⊢
    go_wp2_with fail
    refine HS.out.mono ?_
    rintro e w8 ⟨rfl, hb8⟩
    go_wp2_with fail
    go_ret
    exact ⟨rfl, below_step HB7.out (Nat.le_refl _) hb8⟩
  · have hz2 := hz2 h0
    subst hz2
    have e1 : (want != 0) = true := by simpa using h0
    have e2 : (want == 0) = false := by simpa using h0
    have e3 : (want == want) = true := by simp
    have hrd := HD.out.read h0
    have HRD := Lib.hid hrd
    have HH0 := Lib.hid h0
    have HPP := Lib.hid (refput2_any v _ w5 HR5.out (by have := HD.out.short; omega))
    have q := HQ5.out
    have a0 := cell_blk q 0; have a1 := cell_blk q 1; have a2 := cell_blk q 2; have a3 := cell_blk q 3; have a4 := cell_blk q 4
    clear hz h0 hrd q
    go_wp2_with fail
    refine HPP.out.mono ?_
    rintro e w6 ⟨v6, rfl, ho6, hb6⟩
    obtain ⟨A6, c6, rfl, hc6, hc62, hr6⟩ := ho6.old
    have HB6 := Lib.hid (below_step HB5.out (Nat.le_refl _) hb6)
    have HGF := Lib.hid (get_fault (encR v) w6 A6 c6 hr6 hc6 hc62 (HT.out.below HB6.out) (by rw [HRD.out]; exact HH0.out))
    clear a0 a1 a2 a3 a4 ho6 hr6 hb6 HPP
    go_wp2_with fail
    refine HGF.out.mono ?_
    rintro e w7 ⟨r7, rfl, AB7, AL7, AF7, cb7, cl7, cf7, rfl, hr7, hb7⟩
    rw [HRD.out]
    have HB7 := Lib.hid (below_step HB6.out (Nat.le_refl _) hb7)
    clear hr7 hb7 HGF
    go_wp2_with fail
    go_ret
    exact ⟨rfl, HB7.out.alloc HB7.out.size _⟩
end Go.Proofs.YtljdfainnmpjnaaDoor
