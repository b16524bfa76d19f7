/- ValKept holds: for every input the law returns true, and what came in reads behind the call as before. Condition: the library's tables that the row lists hold what the program's text lays (tied by the card). -/
import Derived.Test.YtljdfainnmpjnaaDoorLaid0
import Derived.Test.YtljdfainnmpjnaaDoorOpenV
import Derived.Test.YtljdfainnmpjnaaDoorKept
set_option linter.unusedVariables false
namespace Go.Proofs.YtljdfainnmpjnaaDoor
theorem light_each {H : Type} {ts us : List TypeId} {ds gs : List (DataW H)} (h : (DataW.weightsEach Tryd.prog (ts ++ us) (ds ++ gs)).all (· ≤ reachBytes) = true) {j : Nat} {t : TypeId} {d : DataW H} (hj : ts[j]? = some t) (hd : ds[j]? = some d) : Light d t := by
  intro n hn
  have := DataW.weights_mem_each (P := Tryd.prog) (ts := ts ++ us) (ds := ds ++ gs) (by rw [List.getElem?_append_left (List.getElem?_eq_some_iff.1 hj).1]; exact hj) (by rw [List.getElem?_append_left (List.getElem?_eq_some_iff.1 hd).1]; exact hd) n hn
  simpa using List.all_eq_true.1 h n this
set_option maxRecDepth 100000 in
theorem light_bytes {H : Type} {enc : TypeId × Value → H} {W : World} {A : Option Addr} {n c : Nat} {d : DataW H} {p : List MemPlace} (h : DataW.Trod enc Tryd.prog W 0 (fun _ => true) true 22 (.slice A n c) d p) (hw : Light d 22) : n ≤ 140737488351232 := by
  obtain ⟨fuel, hf⟩ := h
  generalize hcs : (Value.slice A n c).cells = cs at hf
  generalize hx : (d, p) = x at hf
  rcases DataW.trod_slice Tryd.underlying22 hf with ⟨h1, h2⟩ | ⟨a, len, cap, elems, rest, n', h0, h1, h2, hb, hl, hm, hlen, hel, hsp, -⟩
  · subst hcs
    simp [Value.cells] at h1
    omega
  · subst hcs
    rw [h2] at hx
    simp [Value.cells] at h1
    obtain ⟨-, rfl, -⟩ := h1
    obtain ⟨rfl, rfl⟩ := Prod.mk.inj hx
    obtain ⟨hw1, -⟩ := light_slice Tryd.underlying22 hw
    have h1 : Tryd.prog.bytesOf 5 = 1 := by kernel_rfl
    rw [h1] at hw1
    simp only [List.length_map] at hw1
    unfold reachBytes at hw1
    omega
namespace ValKept
open Go.ChangeShapes Go.WideShapes Go.ChangeAt Go.RowKit

set_option maxRecDepth 100000 in
theorem contract (H : Type) (enc : TypeId × Value → H) (W : World) (base : Nat) (args : Array Value) (ds gs : List (DataW H)) (before : List MemPlace)
    (hval : ∀ (j : Nat) t v, Tryd.f5.params[j]? = some t → args[j]? = some v → Value.okWide Tryd.prog W .any base t v)
    (hW : DataW.Whole enc Tryd.prog Tryd.f5.params.toList Rows.valKeptSpec.vars false W args.toList ds gs before) (hz : ∀ (j : Nat) t d, Tryd.f5.params.toList[j]? = some t → ds[j]? = some d → Light d t) (hL : laidMetH Tryd.prog Rows.valKeptRow.laid W) :
    Calls Tryd.prog 5 args W fun e W' => ∃ v, e = .returned v ∧ Rows.valKeptSpec.post enc Tryd.prog Tryd.f5 false true false false W args v W' := by
  have hW' := hW
  have hlt := hW.lt
  obtain ⟨p, q, hA0, hV, rfl, hfz, hnd⟩ := hW
  have hA : DataW.TrodAll enc Tryd.prog W 0 (fun _ => true) true Tryd.f5.params.toList args.toList ds p := hA0
  rw [Tryd.params5] at hA hval hz
  obtain ⟨v0, vs0, d0, ds0, p0, q0, hargs0, rfl, rfl, h0, r0⟩ := trodAll_cons hA
  obtain ⟨v1, vs1, d1, ds1, p1, q1, hargs1, rfl, rfl, h1, r1⟩ := trodAll_cons r0
  obtain ⟨rfl, rfl, rfl⟩ := trodAll_nil r1
  obtain rfl : args = #[v0, v1] := by cases args; simp_all
  obtain ⟨rfl, rfl⟩ := trodVars_none hV
  obtain ⟨cs0, rfl, -⟩ := okWide_struct Tryd.underlying27 (hval 0 27 v0 rfl rfl)
  obtain ⟨t0, ht0⟩ := open_val h0 (fun x hx => hlt x (by simp [hx])) (hz 0 27 d0 rfl rfl)
  obtain ⟨A1, n1, c1, rfl⟩ := okWide_slice Tryd.underlying22 (hval 1 22 v1 rfl rfl)
  have hn1 := light_bytes h1 (hz 1 22 d1 rfl rfl)
  obtain ⟨bs1, rfl, hc1, hd1, hr1⟩ := open_bytes h1 (fun x hx => hlt x (by simp [hx]))
  have hL2 : laidMetH Tryd.prog laidList W := hL
  refine (valKept_any t0 cs0.toList bs1 A1 c1 W ht0 hr1 hc1 hd1 hn1 (tabs hL2)).mono fun e W' ⟨he, hb⟩ => ?_
  subst he
  refine ⟨_, rfl, law_post hW' rfl (by kernel_rfl) rfl hb fun ps hA2 hps => ?_⟩
  rw [Tryd.params5] at hA2 ⊢
  obtain ⟨v2, vs2, d2, ds2, p2, q2, he2, hd2, rfl, h2, r2⟩ := trodAll_cons hA2
  obtain ⟨v3, vs3, d3, ds3, p3, q3, he3, hd3, rfl, h3, r3⟩ := trodAll_cons r2
  obtain ⟨rfl, rfl, rfl⟩ := trodAll_nil r3
  cases he3
  cases hd3
  cases he2
  cases hd2
  exact (trodAll_cons_mk (Below.trod laidOut (by kernel_rfl) (of_decide_eq_true (by kernel_rfl)) h2 hb (fun x hx => hps x (by simp [hx]))) (trodAll_cons_mk (Below.trod laidOut (by kernel_rfl) (of_decide_eq_true (by kernel_rfl)) h3 hb (fun x hx => hps x (by simp [hx]))) trodAll_mk0))

theorem laid_met (os : Os) : laidMet Tryd.prog Rows.valKeptRow.laid ((laidWorld os).forCall (fun _ _ => 0) ⟨#[], #[.agg #[.int .i64 0, .int .u64 0, .slice none 0 0, .slice none 0 0, .slice none 0 0], .slice none 0 0], []⟩).memory :=
  laidMet_of_run' 8 (by kernel_rfl) (by kernel_rfl)
theorem reads (os : Os) {H : Type} (enc : TypeId × Value → H) : ∃ places, DataW.whole enc Tryd.prog ((laidWorld os).forCall (fun _ _ => 0) ⟨#[], #[.agg #[.int .i64 0, .int .u64 0, .slice none 0 0, .slice none 0 0, .slice none 0 0], .slice none 0 0], []⟩).memory Tryd.f5.params.toList Rows.valKeptSpec.vars false (#[.agg #[.int .i64 0, .int .u64 0, .slice none 0 0, .slice none 0 0, .slice none 0 0], .slice none 0 0] : Array Value).toList 8 = some ([.agg [.lit (.int .i64 0), .lit (.int .u64 0), .nil, .nil, .nil], .nil], [], places) :=
  ⟨[], by kernel_rfl⟩

set_option maxRecDepth 100000 in
theorem lifted (os : Os) (started : os.Started) (H : Type) (enc : TypeId × Value → H) (F : Stop.Interp) :
    ReturnsInHanded {} Tryd.checked os 5 .any ((OpenSpec.ofChange Rows.valKeptSpec).preRow enc Tryd.prog Tryd.f5 Rows.valKeptRow.domain false Rows.valKeptRow.laid) (((OpenSpec.ofChange Rows.valKeptSpec).at F).post enc Tryd.prog Tryd.f5 false true false false) := by
  obtain ⟨places, hx⟩ := reads os enc
  refine returnsInHanded_of_row (C := Tryd.checked) (s := (OpenSpec.ofChange Rows.valKeptSpec)) own started (by kernel_rfl) Tryd.func5
    (witness_row_at (enc := enc) (C := Tryd.checked) false (laidWorld os) #[.agg #[.int .i64 0, .int .u64 0, .slice none 0 0, .slice none 0 0, .slice none 0 0], .slice none 0 0] rfl (by kernel_rfl) (by kernel_rfl) (by kernel_rfl)
      (OpenSpec.preRow_of_cond 8 hx (by kernel_rfl) (fun k hk => by cases hk) (by kernel_rfl) (laid_met os))) ?_
  intro W base args ds gs before hval hW _ hcond hz hL _ _
  exact contract H enc W base args ds gs before hval hW (fun j t d hj hd => light_each hz hj hd) hL

theorem said : Rows.ValKeptSaid :=
  OpenClaim.holds_of_cond 5 Tryd.f5 rfl rfl rfl rfl rfl rfl rfl ⟨rfl, rfl, rfl, rfl, rfl⟩ rfl rfl rfl rfl rfl (by kernel_rfl) Tryd.func5 (by kernel_rfl)
    (of_decide_eq_true (by kernel_rfl)) (by unfold Func.isWrapper; first | (rw [if_pos (by decide +kernel)]; kernel_rfl) | (rw [if_neg (by decide +kernel)]; exact ⟨rfl, rfl⟩))
    (fun os started H enc _ F => by rw [OpenClaim.pre_eq_preRow]; exact lifted os started H enc F)

theorem plain (f : FuncId) (fn : Func) (hf : Tryd.pinned.checked.prog.funcNamed "muniment/munimentlaw2.ValKept" = some f) (hfn : Tryd.pinned.checked.prog.funcs[f]? = some fn) :
    true = Tryd.pinned.checked.prog.looks [] ∧ ∀ (j : Nat) t, fn.params[j]? = some t → Tryd.pinned.checked.prog.wantsStandIn t = false := by
  obtain rfl : f = 5 := Option.some.inj ((show Tryd.prog.funcNamed "muniment/munimentlaw2.ValKept" = some 5 by kernel_rfl).symm.trans hf) |>.symm
  obtain rfl : fn = Tryd.f5 := (Option.some.inj (Tryd.func5.symm.trans hfn)).symm
  refine ⟨by kernel_rfl, fun j t ht => ?_⟩
  rw [Tryd.params5] at ht
  have ht2 := Array.mem_of_getElem? ht
  simp at ht2
  rcases ht2 with rfl | rfl
  · exact (show Tryd.prog.wantsStandIn 27 = false by kernel_rfl)
  · exact (show Tryd.prog.wantsStandIn 22 = false by kernel_rfl)
end ValKept
/-- The card of valKept. -/
theorem valKept_card : Rows.ValKeptCardSaid :=
  Claim7.holds_tied_plain_at .later [] _ _ _ _ ValKept.said (fun _ h => by cases h) (by kernel_rfl) (fun _ h => by cases h) valKept_row_tie rfl ⟨rfl, rfl⟩ (by kernel_rfl) rfl ValKept.plain (by kernel_rfl)
#print axioms valKept_card
end Go.Proofs.YtljdfainnmpjnaaDoor
