/- What the program's reader of values computes, and the state that its walk is in. -/
import Derived.Test.YtljdfainnmpjnaaDoorRead
import Derived.Test.YtljdfainnmpjnaaDoorName
import Derived.Test.YtljdfainnmpjnaaDoorTree
import Derived.Shelf.Unicode.DecodeSlow
set_option linter.unusedVariables false
namespace Go.Proofs.YtljdfainnmpjnaaDoor
open Go.RowKit

/-! ### 1. The reading, over lists of bytes -/
abbrev Got := Except Int (V × List UInt8)
def items (p : List UInt8 → Got) : Nat → List UInt8 → Except Int (List V × List UInt8)
  | 0, bs => .ok ([], bs)
  | n + 1, bs => match p bs with
    | .error e => .error e
    | .ok (v, bs) => match items p n bs with
      | .error e => .error e
      | .ok (vs, bs) => .ok (v :: vs, bs)
open Classical in
/-- A field's name, and the bytes behind it. -/
noncomputable def fieldName (met : List ByteArray) : List UInt8 → Except Int (ByteArray × List UInt8)
  | [] => .error 4
  | m :: bs => if bs.length < m.toNat then .error 4 else
      if nameR ⟨(bs.take m.toNat).toArray⟩ = true ∧ (⟨(bs.take m.toNat).toArray⟩ : ByteArray) ∉ met then .ok (⟨(bs.take m.toNat).toArray⟩, bs.drop m.toNat) else .error 4
noncomputable def fields (p : List UInt8 → Got) : Nat → List ByteArray → List UInt8 → Except Int (List (ByteArray × V) × List UInt8)
  | 0, _, bs => .ok ([], bs)
  | n + 1, met, bs => match fieldName met bs with
    | .error e => .error e
    | .ok (s, bs) => match p bs with
      | .error e => .error e
      | .ok (v, bs) => match fields p n (s :: met) bs with
        | .error e => .error e
        | .ok (vs, bs) => .ok ((s, v) :: vs, bs)
/-- What follows a kind. p: the reading one level further down, where there is one. -/
noncomputable def body (p : Option (List UInt8 → Got)) (k : Nat) (bs : List UInt8) : Got :=
  if k = 1 then .ok (.mk 1 0 [] [] [], bs)
  else if k = 2 then match bs with
    | [] => .error 4
    | x :: bs => if x.toNat ≤ 1 then .ok (.mk 2 x.toNat [] [] [], bs) else .error 4
  else if k = 3 ∨ k = 4 then if bs.length < 8 then .error 4 else .ok (.mk k (leNum (bs.take 8)) [] [] [], bs.drop 8)
  else if k = 5 ∨ k = 6 then
    if bs.length < 2 then .error 4 else
    if (bs.drop 2).length < (leNum (bs.take 2)).toNat then .error 4 else
    if k = 6 ∨ utfR ((bs.drop 2).take (leNum (bs.take 2)).toNat) = true then .ok (.mk k 0 ((bs.drop 2).take (leNum (bs.take 2)).toNat) [] [], (bs.drop 2).drop (leNum (bs.take 2)).toNat) else .error 4
  else if k = 7 then match p with
    | none => .error 3
    | some p => match bs with
      | [] => .error 4
      | n :: bs => if 64 < n.toNat then .error 19 else match items p n.toNat bs with
        | .error e => .error e
        | .ok (l, bs) => .ok (.mk 7 0 [] l [], bs)
  else if k = 8 then match p with
    | none => .error 3
    | some p => match bs with
      | [] => .error 4
      | n :: bs => if 64 < n.toNat then .error 19 else match fields p n.toNat [] bs with
        | .error e => .error e
        | .ok (f, bs) => .ok (.mk 8 0 [] [] f, bs)
  else .error 4
noncomputable def parseWith (p : Option (List UInt8 → Got)) : List UInt8 → Got
  | [] => .error 4
  | k :: bs => body p k.toNat bs
/-- The value that bytes begin with, at most so many levels deep. -/
noncomputable def parse : Nat → List UInt8 → Got
  | 0 => parseWith none
  | r + 1 => parseWith (some (parse r))

/-! ### 2. The state of the walk -/
abbrev Tabs (w : World) : Prop := Lib.Utf8Tabs 0 1 w
abbrev vzero : Array Value := #[.int .i64 0, .int .u64 0, .slice none 0 0, .slice none 0 0, .slice none 0 0]
/-- The library's test of bytes. -/
abbrev ValidC : Prop := ∀ (bs : List UInt8) (S : Nat → Prop) (A : Option Addr) (c : Nat) (w : World), Tabs w → BRow w S A bs → bs.length ≤ c → c ≤ 9223372036854775807 →
  Calls Tryd.prog 69 #[.slice A bs.length c] w fun e w' => e = .returned (.bool (utfR bs)) ∧ Below w.heap.size w w'
/-- The program's test of a name. -/
abbrev NameC : Prop := ∀ (s : ByteArray) (w : World), Tabs w → s.size ≤ 281474976710656 →
  Calls Tryd.prog 71 #[.string s] w fun e w' => e = .returned (.bool (nameR s)) ∧ Below w.heap.size w w'
theorem Tabs.keeps {S : Nat → Prop} {w w' : World} (h : Tabs w) (hk : Keeps S w w') (h0 : S 0) (h1 : S 1) : Tabs w' := by
  have lt : ∀ {b o : Nat} {v : Value}, w.cell? ⟨b, o, none⟩ = some v → b < w.heap.size := fun hc => World.block_lt_of_cell? w _ hc
  have cc : ∀ {b o : Nat} {v : Value}, S b → w.cell? ⟨b, o, none⟩ = some v → w'.cell? ⟨b, o, none⟩ = some v := fun hS hc => by
    rw [World.cell?_of_block (w := w) (hk.block _ hS (lt hc))]; exact hc
  exact ⟨fun c hc => cc h0 (h.1 c hc), fun i hi => ⟨cc h1 (h.2 i hi).1, cc h1 (h.2 i hi).2⟩⟩

/-- The walk of a value: the reader in block r reads on at bs; the value lies in block b; w: the world at the call. -/
structure VS (w : World) (S : Nat → Prop) (r b : Nat) (bs : List UInt8) (cs : Array Value) (W : World) : Prop where
  grown : w.grownBy W (some r)
  reads : Reads W S r bs
  blk : W.heap[b]? = some (.cells cs 27 (0, 0))
  new : w.heap.size ≤ b
  old : r < w.heap.size
  low : ∀ k, S k → k < w.heap.size
  tabs : Tabs W
  t0 : r ≠ 0
  t1 : r ≠ 1
  g0 : 0 < w.heap.size
  g1 : 1 < w.heap.size

theorem VS.cell {w W : World} {S : Nat → Prop} {r b : Nat} {bs : List UInt8} {cs : Array Value} (h : VS w S r b bs cs W) (j : Nat) : W.cell? ⟨b, j, none⟩ = cs[j]? := cell_blk h.blk j
theorem VS.free {w W : World} {S : Nat → Prop} {r b : Nat} {bs : List UInt8} {cs : Array Value} (h : VS w S r b bs cs W) (j : Nat) : W.frozen? ⟨b, j, none⟩ = false := frozen_blk h.blk j
theorem VS.lt {w W : World} {S : Nat → Prop} {r b : Nat} {bs : List UInt8} {cs : Array Value} (h : VS w S r b bs cs W) : b < W.heap.size := (Array.getElem?_eq_some_iff.1 h.blk).1
/-- Behind a call that reads on. -/
theorem VS.call {w W W' : World} {S : Nat → Prop} {r b : Nat} {bs bs' : List UInt8} {cs : Array Value} (h : VS w S r b bs cs W) (hg : W.grownBy W' (some r)) (hr : Reads W' S r bs') : VS w S r b bs' cs W' := by
  refine ⟨grown_trans h.grown hg (.inl rfl), hr, ?_, h.new, h.old, h.low, ?_, h.t0, h.t1, h.g0, h.g1⟩
  · rw [hg.block b h.lt (fun e => by cases e; have := h.new; have := h.old; omega)]
    exact h.blk
  · exact h.tabs.keeps (Keeps.of_grown hg (fun k => k ≠ r) (fun k e => by cases e; exact fun h => h rfl)) (Ne.symm h.t0) (Ne.symm h.t1)
/-- Behind a call that makes memory. -/
theorem VS.below {w W W' : World} {S : Nat → Prop} {r b : Nat} {bs : List UInt8} {cs : Array Value} (h : VS w S r b bs cs W) (hb : Below W.heap.size W W') : VS w S r b bs cs W' :=
  h.call (grown_of_below hb _) (h.reads.grown hb)
/-- Behind a store into the value. -/
theorem VS.set {w W : World} {S : Nat → Prop} {r b : Nat} {bs : List UInt8} {cs : Array Value} (h : VS w S r b bs cs W) (j : Nat) (v : Value) : VS w S r b bs (cs.setIfInBounds j v) (W.setCell ⟨b, j, none⟩ v) := by
  have hg := grown_setCell W ⟨b, j, none⟩ v
  have hbr : b ≠ r := by have := h.new; have := h.old; omega
  obtain ⟨A, c, h1, h2, h3, h4⟩ := h.reads.blk
  refine ⟨grown_trans h.grown hg (.inr fun k hk => by cases hk; exact h.new), ⟨⟨A, c, ?_, h2.grown hg (fun k hk => ?_), h3, h4⟩, h.reads.notS, h.reads.len⟩, ?_, h.new, h.old, h.low, ?_, h.t0, h.t1, h.g0, h.g1⟩
  · rw [Below.heap_setCell _ _ _ _ (Ne.symm hbr)]; exact h1
  · cases hk
    exact fun hS => absurd (h.low b hS) (Nat.not_lt_of_le h.new)
  · simp [World.setCell, Array.getElem?_modify, h.blk]
  · refine h.tabs.keeps (Keeps.of_grown hg (fun k => k ≠ b) (fun k e => by cases e; exact fun h => h rfl)) ?_ ?_
    · have := h.g0; have := h.new; omega
    · have := h.g1; have := h.new; omega
/-- Behind a store of all five cells, as they are. -/
theorem VS.again {w W : World} {S : Nat → Prop} {r b : Nat} {bs : List UInt8} {c0 c1 c2 c3 c4 : Value} (h : VS w S r b bs #[c0, c1, c2, c3, c4] W) :
    VS w S r b bs #[c0, c1, c2, c3, c4] (((((W.setCell ⟨b, 0, none⟩ c0).setCell ⟨b, 1, none⟩ c1).setCell ⟨b, 2, none⟩ c2).setCell ⟨b, 3, none⟩ c3).setCell ⟨b, 4, none⟩ c4) :=
  ((((h.set 0 c0).set 1 c1).set 2 c2).set 3 c3).set 4 c4
/-- The beginning. -/
theorem VS.start {w : World} {S : Nat → Prop} {r : Nat} {bs : List UInt8} (hR : Reads w S r bs) (hS : ∀ k, S k → k < w.heap.size) (hT : Tabs w) (t0 : r ≠ 0) (t1 : r ≠ 1) (cs : Array Value) :
    VS w S r w.heap.size bs cs (w.alloc (.cells cs 27)) := by
  have hb : Below w.heap.size w (w.alloc (.cells cs 27)) := (Below.refl _ _).alloc (Nat.le_refl _) _
  obtain ⟨A, c, h1, _⟩ := hR.blk
  refine ⟨grown_of_below hb _, hR.grown hb, heap_alloc_new w _, Nat.le_refl _, (Array.getElem?_eq_some_iff.1 h1).1, hS, hT.keeps (Keeps.of_below hb (Old w) fun _ _ h => h) ?_ ?_, t0, t1, ?_, ?_⟩
  · exact World.block_lt_of_cell? w _ (hT.1 0 (by omega))
  · exact World.block_lt_of_cell? w _ (hT.2 0 (by omega)).1
  · exact World.block_lt_of_cell? w _ (hT.1 0 (by omega))
  · exact World.block_lt_of_cell? w _ (hT.2 0 (by omega)).1

theorem len0 : Len 0 0 := ⟨by omega, by omega, by omega⟩
theorem rep_atom {w : World} {S : Nat → Prop} {k n : Int} (hk : -9223372036854775808 ≤ k ∧ k ≤ 9223372036854775807) (hn : 0 ≤ n ∧ n ≤ 18446744073709551615) : Rep w S (.mk k n [] [] []) [.int .i64 k, .int .u64 n, .slice none 0 0, .slice none 0 0, .slice none 0 0] :=
  .mk k n [] [] [] none none none 0 0 0 (fun _ => []) (fun _ => []) hk hn len0 (Row.nil _ _ _ _ _) len0 (Row.nil _ _ _ _ _) (by simp) len0 (Row.nil _ _ _ _ _) (by simp) (by simp)
theorem rep_bytes {w : World} {S : Nat → Prop} {k n : Int} {b : List UInt8} {A : Option Addr} {c : Nat} (hk : -9223372036854775808 ≤ k ∧ k ≤ 9223372036854775807) (hn : 0 ≤ n ∧ n ≤ 18446744073709551615) (hl : Len b.length c) (hb : BRow w S A b) :
    Rep w S (.mk k n b [] []) [.int .i64 k, .int .u64 n, .slice A b.length c, .slice none 0 0, .slice none 0 0] :=
  .mk k n b [] [] A none none c 0 0 (fun _ => []) (fun _ => []) hk hn hl hb len0 (Row.nil _ _ _ _ _) (by simp) len0 (Row.nil _ _ _ _ _) (by simp) (by simp)
theorem VS.grown' {w W W' : World} {S : Nat → Prop} {r b : Nat} {bs : List UInt8} {cs : Array Value} (h : VS w S r b bs cs W) (hg : W.grownBy W' none) : VS w S r b bs cs W' :=
  h.below (below_of_grown hg _ (Nat.le_refl _) (fun k e => by cases e))
/-- Behind an append to what the walk made. -/
theorem VS.app {w W W' : World} {S : Nat → Prop} {r b : Nat} {bs : List UInt8} {cs : Array Value} {row : Option Nat} (h : VS w S r b bs cs W) (hg : W.grownBy W' row) (hb : ∀ k, row = some k → b < k) : VS w S r b bs cs W' := by
  obtain ⟨A, c, h1, h2, h3, h4⟩ := h.reads.blk
  have hr : some r ≠ row := fun e => by have := hb r e.symm; have := h.new; have := h.old; omega
  refine ⟨grown_trans h.grown hg (.inr fun k hk => by have := hb k hk; have := h.new; omega), ⟨⟨A, c, ?_, h2.grown hg (fun k hk hS => ?_), h3, h4⟩, h.reads.notS, h.reads.len⟩, ?_, h.new, h.old, h.low, ?_, h.t0, h.t1, h.g0, h.g1⟩
  · rw [hg.block r (Array.getElem?_eq_some_iff.1 h1).1 hr]; exact h1
  · have := hb k hk; have := h.new; have := h.low k hS; omega
  · rw [hg.block b h.lt (fun e => by have := hb b e.symm; omega)]; exact h.blk
  · refine h.tabs.keeps (Keeps.of_grown hg (fun k => k < w.heap.size) (fun k e hk => by have := hb k e; have := h.new; omega)) h.g0 h.g1
theorem info27 : (Tryd.prog.info? 27).map (fun i => (i.zero, i.size, i.bytes)) = some (some (.agg vzero), 5, 88) := by kernel_rfl
theorem info59 : (Tryd.prog.info? 59).map (fun i => (i.zero, i.size, i.bytes)) = some (some (.agg (#[.string ⟨#[]⟩] ++ vzero)), 6, 104) := by kernel_rfl
theorem Keeps.set {W : World} {S : Nat → Prop} {b : Nat} (hb : ¬ S b) (j : Nat) (v : Value) : Keeps S W (W.setCell ⟨b, j, none⟩ v) := Keeps.of_grown (grown_setCell W ⟨b, j, none⟩ v) S (fun k e => by cases e; exact hb)
theorem rep_again {W : World} {S : Nat → Prop} {b : Nat} {v : V} {cs : List Value} (h : Rep W S v cs) (hb : ¬ S b) (c0 c1 c2 c3 c4 : Value) :
    Rep (((((W.setCell ⟨b, 0, none⟩ c0).setCell ⟨b, 1, none⟩ c1).setCell ⟨b, 2, none⟩ c2).setCell ⟨b, 3, none⟩ c3).setCell ⟨b, 4, none⟩ c4) S v cs :=
  ((((h.kept (.set hb _ _)).kept (.set hb _ _)).kept (.set hb _ _)).kept (.set hb _ _)).kept (.set hb _ _)
/-- What the walk's end tells. -/
theorem value_done {w W : World} {S : Nat → Prop} {r b : Nat} {bs : List UInt8} {c0 c1 c2 c3 c4 : Value} (h : VS w S r b bs #[c0, c1, c2, c3, c4] W) (tmps : Array Value) (ht : tmps[4]?.getD undef = .pointer (some ⟨b, 0, none⟩)) :
    (results Tryd.f41 tmps).run Tryd.prog W = .ok (.agg #[c0, c1, c2, c3, c4]) W := by
  have d0 : W.cell? ⟨b, 0, none⟩ = some c0 := h.cell 0
  have d1 : W.cell? ⟨b, 1, none⟩ = some c1 := h.cell 1
  have d2 : W.cell? ⟨b, 2, none⟩ = some c2 := h.cell 2
  have d3 : W.cell? ⟨b, 3, none⟩ = some c3 := h.cell 3
  have d4 : W.cell? ⟨b, 4, none⟩ = some c4 := h.cell 4
  simp [results, Tryd.results41, go_sem, ht, d0, d1, d2, d3, d4]
/-- What the reader's value ends in. -/
def Tells (w : World) (S : Nat → Prop) (r : Nat) (g : Got) (e : Ending) (w' : World) : Prop :=
  match g with
  | .ok (v, bs) => ∃ cs, e = .returned (.agg cs.toArray) ∧ Rep w' (fun k => w.heap.size ≤ k) v cs ∧ Reads w' S r bs ∧ w.grownBy w' (some r)
  | .error c => e = thrown c ∧ w.grownBy w' (some r)
theorem Tells.no {w w' : World} {S : Nat → Prop} {r : Nat} {c : Int} (h : w.grownBy w' (some r)) : Tells w S r (.error c) (thrown c) w' := ⟨rfl, h⟩
theorem Tells.yes {w w' : World} {S : Nat → Prop} {r : Nat} {v : V} {bs : List UInt8} {cs : List Value} (h : Rep w' (fun k => w.heap.size ≤ k) v cs) (hr : Reads w' S r bs) (hg : w.grownBy w' (some r)) :
    Tells w S r (.ok (v, bs)) (.returned (.agg cs.toArray)) w' := ⟨cs, rfl, h, hr, hg⟩
end Go.Proofs.YtljdfainnmpjnaaDoor
