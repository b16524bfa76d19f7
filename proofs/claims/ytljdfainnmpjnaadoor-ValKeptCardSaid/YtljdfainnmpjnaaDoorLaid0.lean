/- What all rows of the layer share: the tables that are laid, arguments that read as they did, the row's end. -/
import Derived.Test.YtljdfainnmpjnaaDoorCards
import Derived.Test.YtljdfainnmpjnaaDoorTie
import Derived.Test.YtljdfainnmpjnaaDoorAwake
import Derived.ProofKit
import Derived.OpenShut
import Derived.Deep.DeepHandedRow
import Derived.Lib.LaidU8T
set_option linter.unusedVariables false
namespace Go.Proofs.YtljdfainnmpjnaaDoor
open Go.ChangeShapes Go.WideShapes Go.ChangeAt Go.RowKit

theorem own : ownKnob Tryd.prog.godebug = none := by kernel_rfl
theorem laidOut : laidOutB Tryd.prog = true := by kernel_rfl
theorem u8extra : U8Extra Tryd.prog lays196_ren := ⟨by kernel_rfl, by kernel_rfl, by kernel_rfl, by kernel_rfl, by kernel_rfl, by kernel_rfl, by kernel_rfl⟩
abbrev laidList : List (String × DataW Unit) := [("unicode/utf8.acceptRanges", Rows.laid_unicode_utf8_acceptRanges), ("unicode/utf8.first", Rows.laid_unicode_utf8_first)]
theorem first_same : (Rows.laid_unicode_utf8_first : DataW Unit) = Lib.firstData := by kernel_rfl
theorem accept_same : (Rows.laid_unicode_utf8_acceptRanges : DataW Unit) = Lib.acceptData := by kernel_rfl
/-- WHAT THE ROWS' LIST GIVES: the library's two tables. -/
theorem tabs {W : World} (h : laidMetH Tryd.prog laidList W) : Tabs W := by
  have h' : laidMet Tryd.prog laidList W := h
  refine utf8Tabs_of_readsT (ρ := lays196_ren) (U8Types.of196 lays196) u8extra ?_ ?_
  · rw [← first_same]
    exact Lib.laidMet.reads h' (.tail _ (.head _))
  · rw [← accept_same]
    exact Lib.laidMet.reads h' (.head _)

/-- The end of a law's row: the world has grown, nothing that was there has turned. -/
theorem law_post {H : Type} {enc : TypeId × Value → H} {s : ChangeSpec} {f : Func} {W W' : World} {args : Array Value} {ds gs : List (DataW H)} {before : List MemPlace}
    (hW : DataW.Whole enc Tryd.prog f.params.toList s.vars false W args.toList ds gs before) (hv : s.vars = []) (hres : f.resultTypes = #[4]) (hfn : s.fn H (ds ++ []) = { results := [.lit (.bool true)], args := ds })
    (hb : Below W.heap.size W W') (hargs : ∀ ps, DataW.TrodAll enc Tryd.prog W 0 (fun _ => true) true f.params.toList args.toList ds ps → (∀ x ∈ ps, x.block < W.heap.size) → DataW.TrodAll enc Tryd.prog W' 0 (fun b => decide (b < W.heap.size)) true f.params.toList args.toList ds ps) :
    s.post enc Tryd.prog f false true false false W args (.bool true) W' := by
  have hlt := hW.lt
  have hW' := hW
  obtain ⟨p, q, hA, hV, rfl, hfz, hnd⟩ := hW
  rw [hv] at hV
  obtain ⟨rfl, rfl⟩ := trodVars_none hV
  refine ⟨ds, [], p ++ [], [], p, [], hW', ?_, ?_, ?_, hb.frame _, fun h => by cases h⟩
  · rw [hfn, hres]
    exact trodAll_cons_mk (shut_bool Tryd.underlying4 true) trodAll_mk0
  · rw [hfn]
    exact hargs p hA (fun x hx => hlt x (by simpa using hx))
  · rw [hv, hfn]
    rfl

/-- A block of a heap, its cells laid anew. -/
def laidAt (g : Nat) (cs : Array Value) (h : Array Obj) : Array Obj := h.modify g fun
  | .cells _ t frozen => .cells cs t frozen
  | o => o
/-- A WORLD FOR THE WITNESS: the settled one, the two tables holding what their initialisers lay. -/
noncomputable def laidWorld (os : Os) : World :=
  { World.holding Tryd.prog os ⟨#[], #[], []⟩ with heap := laidAt 1 ((List.range 16).flatMap fun i => [Value.int .u8 (Lib.accLo i), Value.int .u8 (Lib.accHi i)]).toArray (laidAt 0 ((List.range 256).map fun c => Value.int .u8 (Lib.firstT c)).toArray (World.holding Tryd.prog os ⟨#[], #[], []⟩).heap) }
theorem ofNat_bytes {zs : List Int} (h : ∀ n ∈ zs, (Lit.int .u8 n).wf = true) (i : Nat) (hi : i < zs.length) : (((zs.map fun z => UInt8.ofNat z.toNat).getD i 0).toNat : Int) = zs.getD i 0 := by
  have hb := bounds_u8 (h zs[i] (List.getElem_mem hi))
  rw [getD_at (by simpa using hi), getD_at hi, List.getElem_map]
  simp
  omega
/-- Bytes that came in, opened. -/
theorem open_bytes {H : Type} {enc : TypeId × Value → H} {W : World} {A : Option Addr} {n c : Nat} {d0 : DataW H} {p0 : List MemPlace} (h0 : DataW.Trod enc Tryd.prog W 0 (fun _ => true) true 22 (.slice A n c) d0 p0) (hlt : ∀ x ∈ p0, x.block < W.heap.size) :
    ∃ bs, n = List.length bs ∧ bs.length ≤ c ∧ c ≤ 9223372036854775807 ∧ BRow0 W A bs := by
  obtain ⟨fuel, hf⟩ := h0
  rcases open_ints Tryd.underlying22 Tryd.underlying5 (by kernel_rfl) hf with ⟨hcs, hx⟩ | ⟨a, len, cap, zs, hcs, _, hl, hm, hz, hx, hcell, hwz⟩
  · simp [Value.cells] at hcs
    obtain ⟨rfl, rfl, rfl⟩ := hcs
    exact ⟨[], rfl, by simp, by omega, Row.nil _ _ _ _ _⟩
  · simp [Value.cells] at hcs
    obtain ⟨rfl, rfl, rfl⟩ := hcs
    simp only [Prod.mk.injEq] at hx
    obtain ⟨rfl, rfl⟩ := hx
    simp only [if_true] at hz
    unfold maxLen at hm
    have hlen : (((zs.take n).map fun z => UInt8.ofNat z.toNat)).length = n := by simp; omega
    refine ⟨(zs.take n).map fun z => UInt8.ofNat z.toNat, hlen.symm, by omega, by omega, ?_⟩
    intro hn
    rw [hlen] at hn
    have h0 := hcell 0 (by omega)
    obtain ⟨b, off, spot⟩ := a
    have hspot : spot = none := by simpa [Addr.add] using World.cell?_spot h0
    subst hspot
    have hlb : b < W.heap.size := hlt (.cell b off) (MemPlace.mem_row.2 ⟨0, by omega, by simp⟩)
    refine ⟨b, off, rfl, hlb, hlb, fun i hi => ⟨rfl, fun j hj => ?_⟩⟩
    rw [hlen] at hi
    obtain rfl : j = 0 := by omega
    have hc := hcell i (by omega)
    rw [add_plain] at hc
    have hv := ofNat_bytes (zs := zs.take n) (fun m hm => hwz m (List.mem_of_mem_take hm)) i (by simp; omega)
    simp only [Nat.mul_one, Nat.add_zero, List.getElem?_cons_zero, hv]
    rw [hc, getD_at (by omega), getD_at (by simp; omega), List.getElem_take]
end Go.Proofs.YtljdfainnmpjnaaDoor
