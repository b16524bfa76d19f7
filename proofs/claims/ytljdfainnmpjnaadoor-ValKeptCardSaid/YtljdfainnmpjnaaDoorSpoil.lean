/- The law ValKept's 'spoil': it writes into nothing but the rows of the value that it is handed, and leaves all values whole. -/
import Derived.Test.YtljdfainnmpjnaaDoorTItems
import Derived.Deep.RegionHeld3
set_option linter.unusedVariables false
namespace Go.Proofs.YtljdfainnmpjnaaDoor
open Go.RowKit

/-! ### 1. Values that are whole -/
/-- A value whose rows lie in blocks from base on and below lim, each block of its own type; so deep at most. -/
def WF (w : World) (base lim : Nat) : Nat → List Value → Prop
  | 0, _ => False
  | d + 1, cs => ∃ (k n : Int) (AB AL AF : Option Addr) (nb cb nl cl nf cf : Nat), cs = [.int .i64 k, .int .u64 n, .slice AB nb cb, .slice AL nl cl, .slice AF nf cf] ∧
      (nb ≤ 281474976710656 ∧ nl ≤ 281474976710656 ∧ nf ≤ 281474976710656) ∧
      (0 < nb → ∃ b o cur, AB = some ⟨b, o, none⟩ ∧ base ≤ b ∧ b < lim ∧ w.heap[b]? = some (.cells cur 5 (0, 0)) ∧ o + nb ≤ cur.size) ∧
      (0 < nl → ∃ b o cur, AL = some ⟨b, o * 5, none⟩ ∧ base ≤ b ∧ b < lim ∧ w.heap[b]? = some (.cells cur 27 (0, 0)) ∧ ∀ i, i < nl → ∃ c0 c1 c2 c3 c4, cur[(o + i) * 5]? = some c0 ∧ cur[(o + i) * 5 + 1]? = some c1 ∧ cur[(o + i) * 5 + 2]? = some c2 ∧ cur[(o + i) * 5 + 3]? = some c3 ∧ cur[(o + i) * 5 + 4]? = some c4 ∧ WF w base lim d [c0, c1, c2, c3, c4]) ∧
      (0 < nf → ∃ b o cur, AF = some ⟨b, o * 6, none⟩ ∧ base ≤ b ∧ b < lim ∧ w.heap[b]? = some (.cells cur 59 (0, 0)) ∧ ∀ i, i < nf → ∃ s c0 c1 c2 c3 c4, cur[(o + i) * 6]? = some s ∧ cur[(o + i) * 6 + 1]? = some c0 ∧ cur[(o + i) * 6 + 2]? = some c1 ∧ cur[(o + i) * 6 + 3]? = some c2 ∧ cur[(o + i) * 6 + 4]? = some c3 ∧ cur[(o + i) * 6 + 5]? = some c4 ∧ WF w base lim d [c0, c1, c2, c3, c4])
theorem WF.more {w : World} {base lim : Nat} : ∀ (d : Nat) {cs : List Value}, WF w base lim d cs → WF w base lim (d + 1) cs
  | 0, cs, h => h.elim
  | d + 1, cs, h => by
    obtain ⟨k, n, AB, AL, AF, nb, cb, nl, cl, nf, cf, rfl, hs, hB, hL, hF⟩ := h
    refine ⟨k, n, AB, AL, AF, nb, cb, nl, cl, nf, cf, rfl, hs, hB, fun h0 => ?_, fun h0 => ?_⟩
    · obtain ⟨b, o, cur, h1, h2, h3, h4, h5⟩ := hL h0
      refine ⟨b, o, cur, h1, h2, h3, h4, fun i hi => ?_⟩
      obtain ⟨c0, c1, c2, c3, c4, e0, e1, e2, e3, e4, hw⟩ := h5 i hi
      exact ⟨c0, c1, c2, c3, c4, e0, e1, e2, e3, e4, WF.more d hw⟩
    · obtain ⟨b, o, cur, h1, h2, h3, h4, h5⟩ := hF h0
      refine ⟨b, o, cur, h1, h2, h3, h4, fun i hi => ?_⟩
      obtain ⟨s, c0, c1, c2, c3, c4, e, e0, e1, e2, e3, e4, hw⟩ := h5 i hi
      exact ⟨s, c0, c1, c2, c3, c4, e, e0, e1, e2, e3, e4, WF.more d hw⟩
theorem WF.up {w : World} {base lim : Nat} {d : Nat} {cs : List Value} (h : WF w base lim d cs) : ∀ m, WF w base lim (d + m) cs
  | 0 => h
  | m + 1 => WF.more _ (WF.up h m)
theorem WF.le {w : World} {base lim d d' : Nat} {cs : List Value} (h : WF w base lim d cs) (hd : d ≤ d') : WF w base lim d' cs := by
  obtain ⟨m, rfl⟩ := Nat.exists_eq_add_of_le hd
  exact h.up m
theorem wf_atom (w : World) (base lim d : Nat) (k n : Int) : WF w base lim (d + 1) [.int .i64 k, .int .u64 n, .slice none 0 0, .slice none 0 0, .slice none 0 0] :=
  ⟨k, n, none, none, none, 0, 0, 0, 0, 0, 0, rfl, ⟨by omega, by omega, by omega⟩, fun h => absurd h (by omega), fun h => absurd h (by omega), fun h => absurd h (by omega)⟩
theorem TRep.wf {w : World} {base lim : Nat} {v : V} {cs : List Value} (h : TRep w (fun k => base ≤ k ∧ k < lim) v cs) : ∃ d, WF w base lim d cs := by
  induction h with
  | mk k n b l f AB AL AF cb cl cf L F hk hn hb' hB hl hL hLr hf hF hFr hfn ihL ihF =>
    obtain ⟨dl, hdl⟩ : ∃ d, ∀ i (h : i < l.length), WF w base lim d (L i) := by
      clear hL hLr hl
      suffices H : ∀ m, m ≤ l.length → ∃ d, ∀ i (h : i < l.length), i < m → WF w base lim d (L i) by
        obtain ⟨d, hd⟩ := H l.length (Nat.le_refl _)
        exact ⟨d, fun i h => hd i h h⟩
      intro m
      induction m with
      | zero => exact fun _ => ⟨0, fun i _ h => absurd h (by omega)⟩
      | succ m ih =>
        intro hm
        obtain ⟨d1, h1⟩ := ih (by omega)
        obtain ⟨d2, h2⟩ := ihL m (by omega)
        refine ⟨max d1 d2, fun i h hi => ?_⟩
        by_cases e : i = m
        · subst e; exact h2.le (by omega)
        · exact (h1 i h (by omega)).le (by omega)
    obtain ⟨df, hdf⟩ : ∃ d, ∀ i (h : i < f.length), WF w base lim d (F i) := by
      clear hF hFr hf hfn
      suffices H : ∀ m, m ≤ f.length → ∃ d, ∀ i (h : i < f.length), i < m → WF w base lim d (F i) by
        obtain ⟨d, hd⟩ := H f.length (Nat.le_refl _)
        exact ⟨d, fun i h => hd i h h⟩
      intro m
      induction m with
      | zero => exact fun _ => ⟨0, fun i _ h => absurd h (by omega)⟩
      | succ m ih =>
        intro hm
        obtain ⟨d1, h1⟩ := ih (by omega)
        obtain ⟨d2, h2⟩ := ihF m (by omega)
        refine ⟨max d1 d2, fun i h hi => ?_⟩
        by_cases e : i = m
        · subst e; exact h2.le (by omega)
        · exact (h1 i h (by omega)).le (by omega)
    refine ⟨max dl df + 1, k, n, AB, AL, AF, b.length, cb, l.length, cl, f.length, cf, rfl, ⟨hb'.2.1, hl.2.1, hf.2.1⟩, fun h0 => ?_, fun h0 => ?_, fun h0 => ?_⟩
    · obtain ⟨b', o, cur, hA, hS, hblk, hc⟩ := hB h0
      refine ⟨b', o * 1, cur, hA, hS.1, hS.2, hblk, ?_⟩
      have := (hc (b.length - 1) (by omega)).2 0 (by omega)
      rw [List.getElem?_cons_zero] at this
      have := (Array.getElem?_eq_some_iff.1 this).1
      omega
    · obtain ⟨b', o, cur, hA, hS, hblk, hc⟩ := hL h0
      refine ⟨b', o, cur, hA, hS.1, hS.2, hblk, fun i hi => ?_⟩
      obtain ⟨c0, c1, c2, c3, c4, e, -⟩ := (hLr i hi).five
      have hcc := (hc i hi).2
      have hw := (hdl i hi).le (show dl ≤ max dl df by omega)
      rw [e] at hcc hw
      exact ⟨c0, c1, c2, c3, c4, hcc 0 (by omega), hcc 1 (by omega), hcc 2 (by omega), hcc 3 (by omega), hcc 4 (by omega), hw⟩
    · obtain ⟨b', o, cur, hA, hS, hblk, hc⟩ := hF h0
      refine ⟨b', o, cur, hA, hS.1, hS.2, hblk, fun i hi => ?_⟩
      obtain ⟨c0, c1, c2, c3, c4, e, -⟩ := (hFr i hi).five
      have hcc := (hc i hi).2
      have hw := (hdf i hi).le (show df ≤ max dl df by omega)
      dsimp only at hcc
      rw [e] at hcc hw
      exact ⟨_, c0, c1, c2, c3, c4, hcc 0 (by omega), hcc 1 (by omega), hcc 2 (by omega), hcc 3 (by omega), hcc 4 (by omega), hcc 5 (by omega), hw⟩

/-! ### 2. What is written leaves values whole -/
theorem WF.kept {w w' : World} {base lim : Nat} (hk : ∀ k, base ≤ k → k < lim → k < w.heap.size → w'.heap[k]? = w.heap[k]?) : ∀ (d : Nat) {cs : List Value}, WF w base lim d cs → WF w' base lim d cs
  | 0, cs, h => h.elim
  | d + 1, cs, h => by
    obtain ⟨k, n, AB, AL, AF, nb, cb, nl, cl, nf, cf, rfl, hs, hB, hL, hF⟩ := h
    have key : ∀ {b : Nat} {X : Obj}, base ≤ b → b < lim → w.heap[b]? = some X → w'.heap[b]? = some X := fun h1 h2 h3 => by rw [hk _ h1 h2 (Array.getElem?_eq_some_iff.1 h3).1]; exact h3
    refine ⟨k, n, AB, AL, AF, nb, cb, nl, cl, nf, cf, rfl, hs, fun h0 => ?_, fun h0 => ?_, fun h0 => ?_⟩
    · obtain ⟨b, o, cur, h1, h2, h3, h4, h5⟩ := hB h0
      exact ⟨b, o, cur, h1, h2, h3, key h2 h3 h4, h5⟩
    · obtain ⟨b, o, cur, h1, h2, h3, h4, h5⟩ := hL h0
      refine ⟨b, o, cur, h1, h2, h3, key h2 h3 h4, fun i hi => ?_⟩
      obtain ⟨c0, c1, c2, c3, c4, e0, e1, e2, e3, e4, hw⟩ := h5 i hi
      exact ⟨c0, c1, c2, c3, c4, e0, e1, e2, e3, e4, WF.kept hk d hw⟩
    · obtain ⟨b, o, cur, h1, h2, h3, h4, h5⟩ := hF h0
      refine ⟨b, o, cur, h1, h2, h3, key h2 h3 h4, fun i hi => ?_⟩
      obtain ⟨s, c0, c1, c2, c3, c4, e, e0, e1, e2, e3, e4, hw⟩ := h5 i hi
      exact ⟨s, c0, c1, c2, c3, c4, e, e0, e1, e2, e3, e4, WF.kept hk d hw⟩
/-- Block b, of cells of type T, holds cur' in place of cur: all but the one element o of sz cells is as it was, and that is as Z says. -/
structure Wrote (w w' : World) (b : Nat) (T : TypeId) (cur cur' : Array Value) : Prop where
  old : w.heap[b]? = some (.cells cur T (0, 0))
  new : w'.heap[b]? = some (.cells cur' T (0, 0))
  same : ∀ k, k ≠ b → w'.heap[k]? = w.heap[k]?
  size : cur'.size = cur.size
theorem WF.wrote {w w' : World} {base lim b : Nat} {T : TypeId} {cur cur' : Array Value} (h : Wrote w w' b T cur cur')
    (h27 : T = 27 → ∃ o k n, cur'[o * 5]? = some (.int .i64 k) ∧ cur'[o * 5 + 1]? = some (.int .u64 n) ∧ cur'[o * 5 + 2]? = some (.slice none 0 0) ∧ cur'[o * 5 + 3]? = some (.slice none 0 0) ∧ cur'[o * 5 + 4]? = some (.slice none 0 0) ∧
      ∀ o', o' ≠ o → ∀ j, j < 5 → cur'[o' * 5 + j]? = cur[o' * 5 + j]?)
    (h59 : T = 59 → ∃ o s k n, cur'[o * 6]? = some s ∧ cur'[o * 6 + 1]? = some (.int .i64 k) ∧ cur'[o * 6 + 2]? = some (.int .u64 n) ∧ cur'[o * 6 + 3]? = some (.slice none 0 0) ∧ cur'[o * 6 + 4]? = some (.slice none 0 0) ∧ cur'[o * 6 + 5]? = some (.slice none 0 0) ∧
      ∀ o', o' ≠ o → ∀ j, j < 6 → cur'[o' * 6 + j]? = cur[o' * 6 + j]?) : ∀ (d : Nat) {cs : List Value}, WF w base lim d cs → WF w' base lim d cs
  | 0, cs, h => h.elim
  | d + 1, cs, hw => by
    obtain ⟨k, n, AB, AL, AF, nb, cb, nl, cl, nf, cf, rfl, hs, hB, hL, hF⟩ := hw
    refine ⟨k, n, AB, AL, AF, nb, cb, nl, cl, nf, cf, rfl, hs, fun h0 => ?_, fun h0 => ?_, fun h0 => ?_⟩
    · obtain ⟨b1, o, cur1, h1, h2, h3, h4, h5⟩ := hB h0
      by_cases e : b1 = b
      · subst e
        rw [h.old] at h4
        cases h4
        exact ⟨b1, o, cur', h1, h2, h3, h.new, by rw [h.size]; exact h5⟩
      · exact ⟨b1, o, cur1, h1, h2, h3, by rw [h.same _ e]; exact h4, h5⟩
    · obtain ⟨b1, o, cur1, h1, h2, h3, h4, h5⟩ := hL h0
      by_cases e : b1 = b
      · subst e
        rw [h.old] at h4
        cases h4
        obtain ⟨q, kk, nn, z0, z1, z2, z3, z4, hz⟩ := h27 rfl
        refine ⟨b1, o, cur', h1, h2, h3, h.new, fun i hi => ?_⟩
        obtain ⟨c0, c1, c2, c3, c4, e0, e1, e2, e3, e4, hw⟩ := h5 i hi
        by_cases e : o + i = q
        · rw [e]
          refine ⟨_, _, _, _, _, z0, z1, z2, z3, z4, ?_⟩
          cases d with
          | zero => exact hw.elim
          | succ d => exact wf_atom w' base lim d kk nn
        · exact ⟨c0, c1, c2, c3, c4, (hz _ e 0 (by omega)).trans e0, (hz _ e 1 (by omega)).trans e1, (hz _ e 2 (by omega)).trans e2, (hz _ e 3 (by omega)).trans e3, (hz _ e 4 (by omega)).trans e4, WF.wrote h h27 h59 d hw⟩
      · refine ⟨b1, o, cur1, h1, h2, h3, by rw [h.same _ e]; exact h4, fun i hi => ?_⟩
        obtain ⟨c0, c1, c2, c3, c4, e0, e1, e2, e3, e4, hw⟩ := h5 i hi
        exact ⟨c0, c1, c2, c3, c4, e0, e1, e2, e3, e4, WF.wrote h h27 h59 d hw⟩
    · obtain ⟨b1, o, cur1, h1, h2, h3, h4, h5⟩ := hF h0
      by_cases e : b1 = b
      · subst e
        rw [h.old] at h4
        cases h4
        obtain ⟨q, ss, kk, nn, z, z0, z1, z2, z3, z4, hz⟩ := h59 rfl
        refine ⟨b1, o, cur', h1, h2, h3, h.new, fun i hi => ?_⟩
        obtain ⟨s, c0, c1, c2, c3, c4, es, e0, e1, e2, e3, e4, hw⟩ := h5 i hi
        by_cases e : o + i = q
        · rw [e]
          refine ⟨_, _, _, _, _, _, z, z0, z1, z2, z3, z4, ?_⟩
          cases d with
          | zero => exact hw.elim
          | succ d => exact wf_atom w' base lim d kk nn
        · exact ⟨s, c0, c1, c2, c3, c4, (hz _ e 0 (by omega)).trans es, (hz _ e 1 (by omega)).trans e0, (hz _ e 2 (by omega)).trans e1, (hz _ e 3 (by omega)).trans e2, (hz _ e 4 (by omega)).trans e3, (hz _ e 5 (by omega)).trans e4, WF.wrote h h27 h59 d hw⟩
      · refine ⟨b1, o, cur1, h1, h2, h3, by rw [h.same _ e]; exact h4, fun i hi => ?_⟩
        obtain ⟨s, c0, c1, c2, c3, c4, es, e0, e1, e2, e3, e4, hw⟩ := h5 i hi
        exact ⟨s, c0, c1, c2, c3, c4, es, e0, e1, e2, e3, e4, WF.wrote h h27 h59 d hw⟩

/-! ### 3. What spoil does to a world -/
structure Spoils (base lim : Nat) (w w' : World) : Prop where
  os : w'.os = w.os
  tape : w'.tape = w.tape
  output : w'.output = w.output
  size : w.heap.size ≤ w'.heap.size
  block : ∀ k, k < w.heap.size → ¬ (base ≤ k ∧ k < lim) → w'.heap[k]? = w.heap[k]?
  whole : ∀ d cs, WF w base lim d cs → WF w' base lim d cs
theorem Spoils.refl (base lim : Nat) (w : World) : Spoils base lim w w := ⟨rfl, rfl, rfl, Nat.le_refl _, fun _ _ _ => rfl, fun _ _ h => h⟩
theorem Spoils.trans {base lim : Nat} {a b c : World} (h : Spoils base lim a b) (k : Spoils base lim b c) : Spoils base lim a c :=
  ⟨k.os.trans h.os, k.tape.trans h.tape, k.output.trans h.output, Nat.le_trans h.size k.size, fun i hi hn => (k.block i (Nat.lt_of_lt_of_le hi h.size) hn).trans (h.block i hi hn), fun d cs hw => k.whole d cs (h.whole d cs hw)⟩
theorem Spoils.of_below {base lim : Nat} {w w' : World} (h : Below w.heap.size w w') : Spoils base lim w w' :=
  ⟨h.os, h.tape, h.output, h.size, fun k hk _ => h.block k hk, fun d cs hw => WF.kept (fun k _ _ hk => h.block k hk) d hw⟩
theorem Spoils.blk {base lim : Nat} {w w' : World} (h : Spoils base lim w w') {p : Nat} {X : Obj} (hp : w.heap[p]? = some X) (hl : lim ≤ p) : w'.heap[p]? = some X := by
  rw [h.block p (Array.getElem?_eq_some_iff.1 hp).1 (by omega)]; exact hp
theorem set_blk {w : World} {b : Nat} {cur : Array Value} {T : TypeId} (h : w.heap[b]? = some (.cells cur T (0, 0))) (j : Nat) (v : Value) : (w.setCell ⟨b, j, none⟩ v).heap[b]? = some (.cells (cur.setIfInBounds j v) T (0, 0)) := by
  simp [World.setCell, Array.getElem?_modify, h]
theorem set_same (w : World) (b j : Nat) (v : Value) {k : Nat} (hk : k ≠ b) : (w.setCell ⟨b, j, none⟩ v).heap[k]? = w.heap[k]? := Below.heap_setCell _ _ _ _ hk
theorem Wrote.spoils {base lim : Nat} {w w' : World} {b : Nat} {T : TypeId} {cur cur' : Array Value} (h : Wrote w w' b T cur cur') (hos : w'.os = w.os) (ht : w'.tape = w.tape) (ho : w'.output = w.output) (hs : w.heap.size ≤ w'.heap.size) (hb : base ≤ b ∧ b < lim)
    (hw : ∀ d cs, WF w base lim d cs → WF w' base lim d cs) : Spoils base lim w w' :=
  ⟨hos, ht, ho, hs, fun k _ hn => h.same k (fun e => hn (e ▸ hb)), hw⟩
theorem t5_ne : (5 : TypeId) ≠ 27 ∧ (5 : TypeId) ≠ 59 ∧ (27 : TypeId) ≠ 59 := by decide
/-- One byte. -/
theorem spoils_byte {base lim : Nat} {w : World} {b j : Nat} {cur : Array Value} (h : w.heap[b]? = some (.cells cur 5 (0, 0))) (hb : base ≤ b ∧ b < lim) (v : Value) : Spoils base lim w (w.setCell ⟨b, j, none⟩ v) := by
  have hW : Wrote w (w.setCell ⟨b, j, none⟩ v) b 5 cur (cur.setIfInBounds j v) := ⟨h, set_blk h j v, fun k hk => set_same w b j v hk, by simp⟩
  exact hW.spoils rfl rfl rfl (by simp [World.setCell]) hb fun d cs hw => WF.wrote hW (fun e => absurd e t5_ne.1) (fun e => absurd e t5_ne.2.1) d hw
/-- One value. -/
abbrev five0 (w : World) (b a : Nat) (d0 d1 d2 d3 d4 : Value) : World := (((((w.setCell ⟨b, a, none⟩ d0).setCell ⟨b, a + 1, none⟩ d1).setCell ⟨b, a + 2, none⟩ d2).setCell ⟨b, a + 3, none⟩ d3).setCell ⟨b, a + 4, none⟩ d4)
theorem spoils_val {base lim : Nat} {w : World} {b o : Nat} {cur : Array Value} (h : w.heap[b]? = some (.cells cur 27 (0, 0))) (hb : base ≤ b ∧ b < lim) (ho : o * 5 + 4 < cur.size) (k n : Int) :
    Spoils base lim w (five0 w b (o * 5) (.int .i64 k) (.int .u64 n) (.slice none 0 0) (.slice none 0 0) (.slice none 0 0)) := by
  have hW : Wrote w (five0 w b (o * 5) (.int .i64 k) (.int .u64 n) (.slice none 0 0) (.slice none 0 0) (.slice none 0 0)) b 27 cur (((((cur.setIfInBounds (o * 5) (.int .i64 k)).setIfInBounds (o * 5 + 1) (.int .u64 n)).setIfInBounds (o * 5 + 2) (.slice none 0 0)).setIfInBounds (o * 5 + 3) (.slice none 0 0)).setIfInBounds (o * 5 + 4) (.slice none 0 0)) :=
    ⟨h, set_blk (set_blk (set_blk (set_blk (set_blk h _ _) _ _) _ _) _ _) _ _, fun k hk => by unfold five0; rw [set_same _ _ _ _ hk, set_same _ _ _ _ hk, set_same _ _ _ _ hk, set_same _ _ _ _ hk, set_same _ _ _ _ hk], by simp⟩
  refine hW.spoils (by simp only [five0, World.setCell]) (by simp only [five0, World.setCell]) (by simp only [five0, World.setCell]) (by simp [five0, World.setCell]) hb fun d cs hw => WF.wrote hW (fun _ => ⟨o, k, n, ?_, ?_, ?_, ?_, ?_, fun o' ho' j hj => ?_⟩) (fun e => absurd e t5_ne.2.2) d hw
  · rw [Array.getElem?_setIfInBounds_ne (by omega), Array.getElem?_setIfInBounds_ne (by omega), Array.getElem?_setIfInBounds_ne (by omega), Array.getElem?_setIfInBounds_ne (by omega), Array.getElem?_setIfInBounds_self, if_pos (by omega)]
  · rw [Array.getElem?_setIfInBounds_ne (by omega), Array.getElem?_setIfInBounds_ne (by omega), Array.getElem?_setIfInBounds_ne (by omega), Array.getElem?_setIfInBounds_self, if_pos (by simp; omega)]
  · rw [Array.getElem?_setIfInBounds_ne (by omega), Array.getElem?_setIfInBounds_ne (by omega), Array.getElem?_setIfInBounds_self, if_pos (by simp; omega)]
  · rw [Array.getElem?_setIfInBounds_ne (by omega), Array.getElem?_setIfInBounds_self, if_pos (by simp; omega)]
  · rw [Array.getElem?_setIfInBounds_self, if_pos (by simp; omega)]
  · rw [Array.getElem?_setIfInBounds_ne (by omega), Array.getElem?_setIfInBounds_ne (by omega), Array.getElem?_setIfInBounds_ne (by omega), Array.getElem?_setIfInBounds_ne (by omega), Array.getElem?_setIfInBounds_ne (by omega)]
/-- One field. -/
abbrev six0 (w : World) (b a : Nat) (s d0 d1 d2 d3 d4 : Value) : World := ((((((w.setCell ⟨b, a, none⟩ s).setCell ⟨b, a + 1, none⟩ d0).setCell ⟨b, a + 2, none⟩ d1).setCell ⟨b, a + 3, none⟩ d2).setCell ⟨b, a + 4, none⟩ d3).setCell ⟨b, a + 5, none⟩ d4)
theorem spoils_field {base lim : Nat} {w : World} {b o : Nat} {cur : Array Value} (h : w.heap[b]? = some (.cells cur 59 (0, 0))) (hb : base ≤ b ∧ b < lim) (ho : o * 6 + 5 < cur.size) (s : Value) (k n : Int) :
    Spoils base lim w (six0 w b (o * 6) s (.int .i64 k) (.int .u64 n) (.slice none 0 0) (.slice none 0 0) (.slice none 0 0)) := by
  have hW : Wrote w (six0 w b (o * 6) s (.int .i64 k) (.int .u64 n) (.slice none 0 0) (.slice none 0 0) (.slice none 0 0)) b 59 cur ((((((cur.setIfInBounds (o * 6) s).setIfInBounds (o * 6 + 1) (.int .i64 k)).setIfInBounds (o * 6 + 2) (.int .u64 n)).setIfInBounds (o * 6 + 3) (.slice none 0 0)).setIfInBounds (o * 6 + 4) (.slice none 0 0)).setIfInBounds (o * 6 + 5) (.slice none 0 0)) :=
    ⟨h, set_blk (set_blk (set_blk (set_blk (set_blk (set_blk h _ _) _ _) _ _) _ _) _ _) _ _, fun k hk => by unfold six0; rw [set_same _ _ _ _ hk, set_same _ _ _ _ hk, set_same _ _ _ _ hk, set_same _ _ _ _ hk, set_same _ _ _ _ hk, set_same _ _ _ _ hk], by simp⟩
  refine hW.spoils (by simp only [six0, World.setCell]) (by simp only [six0, World.setCell]) (by simp only [six0, World.setCell]) (by simp [six0, World.setCell]) hb fun d cs hw => WF.wrote hW (fun e => absurd e.symm t5_ne.2.2) (fun _ => ⟨o, s, k, n, ?_, ?_, ?_, ?_, ?_, ?_, fun o' ho' j hj => ?_⟩) d hw
  · rw [Array.getElem?_setIfInBounds_ne (by omega), Array.getElem?_setIfInBounds_ne (by omega), Array.getElem?_setIfInBounds_ne (by omega), Array.getElem?_setIfInBounds_ne (by omega), Array.getElem?_setIfInBounds_ne (by omega), Array.getElem?_setIfInBounds_self, if_pos (by omega)]
  · rw [Array.getElem?_setIfInBounds_ne (by omega), Array.getElem?_setIfInBounds_ne (by omega), Array.getElem?_setIfInBounds_ne (by omega), Array.getElem?_setIfInBounds_ne (by omega), Array.getElem?_setIfInBounds_self, if_pos (by simp; omega)]
  · rw [Array.getElem?_setIfInBounds_ne (by omega), Array.getElem?_setIfInBounds_ne (by omega), Array.getElem?_setIfInBounds_ne (by omega), Array.getElem?_setIfInBounds_self, if_pos (by simp; omega)]
  · rw [Array.getElem?_setIfInBounds_ne (by omega), Array.getElem?_setIfInBounds_ne (by omega), Array.getElem?_setIfInBounds_self, if_pos (by simp; omega)]
  · rw [Array.getElem?_setIfInBounds_ne (by omega), Array.getElem?_setIfInBounds_self, if_pos (by simp; omega)]
  · rw [Array.getElem?_setIfInBounds_self, if_pos (by simp; omega)]
  · rw [Array.getElem?_setIfInBounds_ne (by omega), Array.getElem?_setIfInBounds_ne (by omega), Array.getElem?_setIfInBounds_ne (by omega), Array.getElem?_setIfInBounds_ne (by omega), Array.getElem?_setIfInBounds_ne (by omega), Array.getElem?_setIfInBounds_ne (by omega)]
end Go.Proofs.YtljdfainnmpjnaaDoor
