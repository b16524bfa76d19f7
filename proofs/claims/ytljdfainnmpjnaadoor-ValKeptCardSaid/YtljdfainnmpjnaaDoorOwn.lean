/- Bytes that a call makes and appends to. -/
import Derived.Test.YtljdfainnmpjnaaDoorMem
import Derived.Maps.AppendAt
import Derived.Deep.AppendLies
import Derived.Lib.AppendStr
import Derived.OwnWalk
namespace Go.Proofs.YtljdfainnmpjnaaDoor
open Go.RowKit

def bcells (bs : List UInt8) : List Value := bs.map fun x => .int .u8 x.toNat
theorem bcells_length (bs : List UInt8) : (bcells bs).length = bs.length := by simp [bcells]
theorem bcells_append (a b : List UInt8) : bcells (a ++ b) = bcells a ++ bcells b := by simp [bcells]
theorem bcells_get (bs : List UInt8) {i : Nat} (h : i < bs.length) : (bcells bs)[i]? = some (.int .u8 (bs.getD i 0).toNat) := by
  rw [getD_at h]; simp [bcells, h]
theorem bcells_one (bs : List UInt8) : ∀ u ∈ bcells bs, u.oneCell' = true := by
  intro u hu
  simp only [bcells, List.mem_map] at hu
  obtain ⟨x, _, rfl⟩ := hu
  rfl
/-- The slice v of bytes is the call's own, from block base on. -/
def Own (w : World) (base : Nat) (v : Value) (bs : List UInt8) : Prop := w.ownsRow base 5 1 v bs.length (bcells bs)
theorem info5 : (Tryd.prog.info? 5).map (fun i => (i.zero, i.size, i.bytes)) = some (some (.int .u8 0), 1, 1) := by kernel_rfl

theorem Own.nil (w : World) (base : Nat) : Own w base (.slice none 0 0) [] := World.ownsRow_nil w base 5 1
theorem Own.kept {w w' : World} {base : Nat} {v : Value} {bs : List UInt8} {row : Option Nat} (h : Own w base v bs) (hg : w.grownBy w' row) (hne : v.ownBlock = none ∨ v.ownBlock ≠ row) : Own w' base v bs := World.ownsRow.kept h hg hne
theorem Own.alloc {w : World} {base : Nat} {v : Value} {bs : List UInt8} (h : Own w base v bs) (o : Obj) : Own (w.alloc o) base v bs := World.ownsRow.alloc h o
theorem grown_of_below {w w' : World} (h : Below w.heap.size w w') (row : Option Nat) : w.grownBy w' row := ⟨h.os, h.tape, h.output, h.size, fun k hk _ => h.block k hk⟩
theorem Own.below {w w' : World} {base : Nat} {v : Value} {bs : List UInt8} (h : Own w base v bs) (hb : Below w.heap.size w w') : Own w' base v bs :=
  h.kept (grown_of_below hb none) (by cases v.ownBlock <;> simp)
theorem Own.lt {w : World} {base : Nat} {v : Value} {bs : List UInt8} (h : Own w base v bs) : ∀ k, v.ownBlock = some k → base ≤ k ∧ k < w.heap.size := World.ownsRow.lt h
theorem Own.mono {w : World} {base base' : Nat} {v : Value} {bs : List UInt8} (h : Own w base v bs) (hb : base' ≤ base) : Own w base' v bs := by
  refine ⟨h.1, ?_⟩
  rcases h.2 with h | ⟨g, cap, cur, h1, h2, h3⟩
  · exact .inl h
  · exact .inr ⟨g, cap, cur, h1, by omega, h3⟩
theorem own_row {w : World} {base size n : Nat} {e : TypeId} {v : Value} {xs : List Value} (h : w.ownsRow base e size v n xs) (c : Nat → List Value)
    (hc : ∀ i, i < n → (c i).length = size ∧ ∀ j, j < size → xs[i * size + j]? = (c i)[j]?) (S : Nat → Prop) (hS : ∀ k, v.ownBlock = some k → S k) :
    ∃ A cap, v = .slice A n cap ∧ n ≤ cap ∧ cap ≤ 9223372036854775807 ∧ Row w S A size n c := by
  have hlen := h.1
  rcases h.2 with ⟨rfl, rfl⟩ | ⟨g, cap, cur, rfl, hb, hg, hnc, hcm, hsz, htake⟩
  · exact ⟨none, 0, rfl, Nat.le_refl _, by omega, Row.nil _ _ _ _ _⟩
  · unfold maxLen at hcm
    refine ⟨_, cap, rfl, hnc, hcm, fun _ => ⟨g, 0, rfl, hS g rfl, (Array.getElem?_eq_some_iff.1 hg).1, fun i hi => ⟨(hc i hi).1, fun j hj => ?_⟩⟩⟩
    have hlt : i * size + j < n * size := by
      have := Nat.mul_le_mul_right size (show i + 1 ≤ n from hi)
      rw [Nat.add_mul, Nat.one_mul] at this
      omega
    rw [← (hc i hi).2 j hj, Nat.zero_add, cell_of_row w g _ cur e (0, 0) hg, ← htake, List.getElem?_take, if_pos hlt]
    simp
theorem Own.row {w : World} {base : Nat} {v : Value} {bs : List UInt8} (h : Own w base v bs) (S : Nat → Prop) (hS : ∀ k, v.ownBlock = some k → S k) :
    ∃ A cap, v = .slice A bs.length cap ∧ bs.length ≤ cap ∧ cap ≤ 9223372036854775807 ∧ BRow w S A bs := by
  exact own_row h _ (fun i hi => ⟨rfl, fun j hj => by
    obtain rfl : j = 0 := (by omega)
    rw [Nat.mul_one, Nat.add_zero, bcells_get bs hi]; rfl⟩) S hS
theorem Own.old {w : World} {base : Nat} {v : Value} {bs : List UInt8} (h : Own w base v bs) : ∃ A cap, v = .slice A bs.length cap ∧ bs.length ≤ cap ∧ cap ≤ 9223372036854775807 ∧ BRow0 w A bs :=
  h.row _ fun k hk => (h.lt k hk).2

/-- A literal []byte, or make([]byte, n) at its full length. -/
theorem Own.lit (w : World) (base : Nat) (bs : List UInt8) (hb : base ≤ w.heap.size) (hn : bs.length ≤ 9223372036854775807) :
    Own (w.alloc (.cells (bcells bs).toArray 5)) base (.slice (some ⟨w.heap.size, 0, none⟩) bs.length bs.length) bs := by
  have h := World.ownsRow_lit (base := base) (e := 5) (size := 1) w (bcells bs).toArray bs.length hb (by simpa [maxLen] using hn) (by simp [bcells])
  simpa [Own] using h
/-- make([]byte, 0, c) -/
theorem Own.made (w : World) (base : Nat) (cur : Array Value) (cap : Nat) (hb : base ≤ w.heap.size) (hm : cap ≤ 9223372036854775807) (hs : cur.size = cap) :
    Own (w.alloc (.cells cur 5)) base (.slice (some ⟨w.heap.size, 0, none⟩) 0 cap) [] :=
  World.ownsRow_made w cur cap hb (by unfold maxLen; omega) (by omega)

/-- The one byte that 'append(v, x)' lays first. -/
theorem brow_box (w : World) (S : Nat → Prop) (hS : S w.heap.size) (x : Int) (u : UInt8) (h : x = u.toNat) : BRow (w.alloc (.cells #[.int .u8 x] 5)) S (some ⟨w.heap.size, 0, none⟩) [u] := by
  refine BRow.of hS (by simp) fun i hi => ?_
  obtain rfl : i = 0 := by simpa using hi
  simp [h]
theorem grown_trans {w w1 w2 : World} {row row' : Option Nat} (h : w.grownBy w1 row) (h' : w1.grownBy w2 row') (hr : row' = row ∨ ∀ k, row' = some k → w.heap.size ≤ k) : w.grownBy w2 row := by
  refine ⟨h'.os.trans h.os, h'.tape.trans h.tape, h'.output.trans h.output, Nat.le_trans h.size h'.size, fun k hk hne => ?_⟩
  rw [h'.block k (Nat.lt_of_lt_of_le hk h.size) ?_]
  · exact h.block k hk hne
  · rcases hr with rfl | hr
    · exact hne
    · intro e
      have := hr k e.symm
      omega
/-- Whatever is appended to what a call owns lies in the row that it had, or in a new one. -/
def Row1 (w0 : World) (v v' : Value) : Prop := v'.ownBlock = v.ownBlock ∨ ∀ k, v'.ownBlock = some k → w0.heap.size ≤ k
theorem Row1.refl (w0 : World) (v : Value) : Row1 w0 v v := .inl rfl
theorem Row1.step {w0 w1 : World} {v v1 v2 : Value} (h : Row1 w0 v v1) (hs : w0.heap.size ≤ w1.heap.size) (h' : v2.ownBlock = v1.ownBlock ∨ v2.ownBlock = some w1.heap.size) : Row1 w0 v v2 := by
  rcases h' with h' | h'
  · rcases h with h | h
    · exact .inl (h'.trans h)
    · exact .inr fun k hk => h k (h' ▸ hk)
  · exact .inr fun k hk => by rw [h'] at hk; cases hk; exact hs
theorem Row1.trans {w0 w1 : World} {v v1 v2 : Value} (h : Row1 w0 v v1) (hs : w0.heap.size ≤ w1.heap.size) (h' : Row1 w1 v1 v2) : Row1 w0 v v2 := by
  rcases h' with h' | h'
  · rcases h with h | h
    · exact .inl (h'.trans h)
    · exact .inr fun k hk => h k (h' ▸ hk)
  · exact .inr fun k hk => Nat.le_trans hs (h' k hk)
theorem below_of_grown {w w' : World} {row : Option Nat} (h : w.grownBy w' row) (B : Nat) (hB : B ≤ w.heap.size) (hr : ∀ k, row = some k → B ≤ k) : Below B w w' :=
  ⟨h.os, h.tape, h.output, h.size, fun k hk => h.block k (by omega) (fun e => by have := hr k e.symm; omega)⟩
/-! ### append -/
theorem run_app_none {w : World} {base size n : Nat} {e t : TypeId} {i : TypeInfo} (ht : Tryd.prog.underlying t = some (.slice e)) (hi : Tryd.prog.info? e = some i) (ty : TypeId) {v : Value} {xs : List Value}
    (hown : w.ownsRow base e size v n xs) (c : Nat) : (Builtin.append_ #[t, t] ty #[v, .slice none 0 c]).run Tryd.prog w = .ok v w := by
  rcases hown.2 with ⟨rfl, rfl⟩ | ⟨g, cap, cur, rfl, _, _, hnc, _⟩
  · simp [Builtin.append_, run_underlying ht, sizeOf, typeInfo, hi, Builtin.lenOf, Builtin.firstCells]
  · simp [Builtin.append_, run_underlying ht, sizeOf, typeInfo, hi, Builtin.lenOf, Builtin.firstCells, hnc, storeCells]

/-- append(v, ys...), ys any bytes. -/
theorem run_app {w : World} {base : Nat} {v : Value} {bs : List UInt8} (hown : Own w base v bs) {S : Nat → Prop} {A : Option Addr} {ys : List UInt8} (hr : BRow w S A ys) (c m : Nat) (hm : m = ys.length) (ty : TypeId)
    (hl : bs.length + ys.length ≤ 140737488355328) (hbase : base ≤ w.heap.size) :
    ∃ v' w', (Builtin.append_ #[22, 22] ty #[v, .slice A m c]).run Tryd.prog w = .ok v' w' ∧ Own w' base v' (bs ++ ys) ∧ w.grownBy w' v.ownBlock ∧ (v'.ownBlock = v.ownBlock ∨ v'.ownBlock = some w.heap.size) := by
  subst hm
  obtain ⟨i0, hi, hzz⟩ := Option.map_eq_some_iff.1 info5
  simp only [Prod.mk.injEq] at hzz
  obtain ⟨hz0, hz1, hz2⟩ := hzz
  by_cases h0 : 0 < ys.length
  · obtain ⟨b, o, rfl, _, _, hc⟩ := hr.at h0
    obtain ⟨v', w', h1, h2, h3, _, h5⟩ := run_append_own_at (P := Tryd.prog) w base 22 ty 5 i0 (.int .u8 0) 1 1 Tryd.underlying22 hi hz0 hz1 hz2 rfl (by omega) v bs.length (bcells bs) hown ⟨b, o, none⟩ ys.length c (bcells ys)
      (by simp [bcells]) (fun j u hu => by
        have hj : j < ys.length := by
          rcases Nat.lt_or_ge j ys.length with h | h
          · exact h
          · rw [List.getElem?_eq_none (by rw [bcells_length]; exact h)] at hu; cases hu
        rw [bcells_get ys hj] at hu
        cases hu
        have ha : (⟨b, o, none⟩ : Addr).add j = ⟨b, o + j, none⟩ := by unfold Addr.add; split <;> simp_all
        rw [ha]
        exact hc j hj) (bcells_one ys) (by unfold maxLen; omega) (by omega) hbase
    exact ⟨v', w', h1, by unfold Own; rw [bcells_append, List.length_append]; exact h2, h3, h5⟩
  · obtain rfl : ys = [] := List.eq_nil_of_length_eq_zero (by omega)
    cases A with
    | none => exact ⟨v, w, run_app_none Tryd.underlying22 hi ty hown c, by simpa using hown, ⟨rfl, rfl, rfl, Nat.le_refl _, fun _ _ _ => rfl⟩, .inl rfl⟩
    | some a =>
      obtain ⟨v', w', h1, h2, h3, _, h5⟩ := run_append_own_at (P := Tryd.prog) w base 22 ty 5 i0 (.int .u8 0) 1 1 Tryd.underlying22 hi hz0 hz1 hz2 rfl (by omega) v bs.length (bcells bs) hown a 0 c [] (by simp) (fun j u hu => by simp at hu) (by simp) (by unfold maxLen; simp at hl; omega) (by simp at hl ⊢; omega) hbase
      exact ⟨v', w', h1, by simpa [Own] using h2, h3, h5⟩

theorem strCells_bcells (s : ByteArray) : Lib.strCells s = bcells s.data.toList := rfl
/-- append(v, s...), s any string. -/
theorem run_app_str {w : World} {base : Nat} {v : Value} {bs : List UInt8} (hown : Own w base v bs) (s : ByteArray) (ty : TypeId)
    (hl : bs.length + s.size ≤ 140737488355328) (hbase : base ≤ w.heap.size) :
    ∃ v' w', (Builtin.append_ #[22, 9] ty #[v, .string s]).run Tryd.prog w = .ok v' w' ∧ Own w' base v' (bs ++ s.data.toList) ∧ w.grownBy w' v.ownBlock ∧ Row1 w v v' := by
  obtain ⟨i0, hi, hzz⟩ := Option.map_eq_some_iff.1 info5
  simp only [Prod.mk.injEq] at hzz
  obtain ⟨hz0, hz1, hz2⟩ := hzz
  have key : ∀ b, Own w b v bs → b ≤ w.heap.size → ∃ v' w', (Builtin.append_ #[22, 9] ty #[v, .string s]).run Tryd.prog w = .ok v' w' ∧ Own w' b v' (bs ++ s.data.toList) ∧ w.grownBy w' v.ownBlock := fun b hob hb => by
    obtain ⟨v', w', h1, h2, h3, _⟩ := Lib.run_append_own_string (P := Tryd.prog) w b 22 9 ty 5 i0 Tryd.underlying22 Tryd.underlying9 hi hz0 hz1 hz2 v bs.length (bcells bs) hob s (by unfold maxLen; omega) hl hb
    have hsz : s.data.toList.length = s.size := by simp
    exact ⟨v', w', h1, by unfold Own; rw [bcells_append, List.length_append, hsz]; exact h2, h3⟩
  rcases hown.2 with ⟨rfl, h0⟩ | ⟨g, cap, cur, rfl, hb, hg, hnc, hcm, hcs, htake⟩
  · obtain ⟨v', w', h1, h2, h3⟩ := key w.heap.size ⟨hown.1, .inl ⟨rfl, h0⟩⟩ (Nat.le_refl _)
    exact ⟨v', w', h1, h2.mono hbase, h3, .inr fun k hk => (h2.lt k hk).1⟩
  · obtain ⟨v', w', h1, h2, h3⟩ := key base hown hbase
    refine ⟨v', w', h1, h2, h3, ?_⟩
    by_cases hroom : bs.length + s.size ≤ cap
    · have hr := Lib.run_append_room_string (P := Tryd.prog) w 22 9 ty 5 i0 Tryd.underlying22 Tryd.underlying9 hi hz1 g bs.length cap cur hg s hroom (by omega)
      rw [h1] at hr
      injection hr with hr
      exact .inl (by rw [hr]; rfl)
    · have holds : ∀ j u, (bcells bs)[j]? = some u → w.cell? ((⟨g, 0, none⟩ : Addr).add j) = some u := World.ownsRow.cells hown (g := g) rfl
      have hr := Lib.run_append_grow_string (P := Tryd.prog) w 22 9 ty 5 i0 (.int .u8 0) Tryd.underlying22 Tryd.underlying9 hi hz0 ⟨g, 0, none⟩ bs.length cap (bcells bs) (by rw [hz1, bcells_length]; omega) holds s (by omega) (by omega) (by rw [hz2]; exact growslice_fits (by omega) (by omega))
      rw [h1] at hr
      injection hr with hr
      exact .inr fun k hk => by rw [hr] at hk; cases hk; exact Nat.le_refl _

section
variable {ops : Array Oper} {rest : List Oper} {o : Oper} {a : Act} {Q : Exit → Act → World → Prop} {w : World}
theorem app_str (hgd : o.guard = none) (s x : Operand) (ho : o.op = .call { callee := .builtin .append, args := #[s, x], argTypes := #[22, 9] })
    (base : Nat) (v : Value) (bs : List UInt8) (hs : a.eval s = v) (hown : Own w base v bs) (t : ByteArray) (hx : a.eval x = .string t)
    (hl : bs.length + t.size ≤ 140737488355328) (hbase : base ≤ w.heap.size)
    (h : ∀ v' w', Own w' base v' (bs ++ t.data.toList) → w.grownBy w' v.ownBlock → Row1 w v v' → wpList Tryd.prog ops Q rest (a.put o.dst v') w') : wpList Tryd.prog ops Q (o :: rest) a w := by
  obtain ⟨v', w', h1, h2, h3, h4⟩ := run_app_str hown t o.type hl hbase
  refine wpList_plain hgd fun K hK => ?_
  unfold Oper.wp execOp
  simp only [ho, resolve, invoke, builtin, Sem.run_bind, Sem.run_pure, Result.andThen_ok, List.map_toArray, List.map_cons, List.map_nil, hs, hx, h1]
  exact hK _ _ (h v' w' h2 h3 h4)
theorem step_app_str {K : Act → World → Prop} {E : Prop} (hgd : o.guard = none) (s x : Operand) (ho : o.op = .call { callee := .builtin .append, args := #[s, x], argTypes := #[22, 9] })
    (base : Nat) (v : Value) (bs : List UInt8) (hs : a.eval s = v) (hown : Own w base v bs) (t : ByteArray) (hx : a.eval x = .string t)
    (hl : bs.length + t.size ≤ 140737488355328) (hbase : base ≤ w.heap.size)
    (h : ∀ v' w', Own w' base v' (bs ++ t.data.toList) → w.grownBy w' v.ownBlock → Row1 w v v' → K (a.put o.dst v') w') :
    if Region.wanted o (yielded ops a.tmps) = true then Oper.wp Tryd.prog o a w K Q else E := by
  have hw : Region.wanted o (yielded ops a.tmps) = true := by simp [Region.wanted, hgd]
  rw [if_pos hw]
  obtain ⟨v', w', h1, h2, h3, h4⟩ := run_app_str hown t o.type hl hbase
  unfold Oper.wp execOp
  simp only [ho, resolve, invoke, builtin, Sem.run_bind, Sem.run_pure, Result.andThen_ok, List.map_toArray, List.map_cons, List.map_nil, hs, hx, h1]
  exact h v' w' h2 h3 h4
theorem app_bytes (hgd : o.guard = none) (s x : Operand) (ho : o.op = .call { callee := .builtin .append, args := #[s, x], argTypes := #[22, 22] })
    (base : Nat) (v : Value) (bs : List UInt8) (hs : a.eval s = v) (hown : Own w base v bs) (A : Option Addr) (m c : Nat) (ys : List UInt8) (hx : a.eval x = .slice A m c) (hm : m = ys.length) {S : Nat → Prop} (hr : BRow w S A ys)
    (hl : bs.length + ys.length ≤ 140737488355328) (hbase : base ≤ w.heap.size)
    (h : ∀ v' w', Own w' base v' (bs ++ ys) → w.grownBy w' v.ownBlock → (v'.ownBlock = v.ownBlock ∨ v'.ownBlock = some w.heap.size) → wpList Tryd.prog ops Q rest (a.put o.dst v') w') : wpList Tryd.prog ops Q (o :: rest) a w := by
  obtain ⟨v', w', h1, h2, h3, h4⟩ := run_app hown hr c m hm o.type hl hbase
  refine wpList_plain hgd fun K hK => ?_
  unfold Oper.wp execOp
  simp only [ho, resolve, invoke, builtin, Sem.run_bind, Sem.run_pure, Result.andThen_ok, List.map_toArray, List.map_cons, List.map_nil, hs, hx, h1]
  exact hK _ _ (h v' w' h2 h3 h4)
/-- The same at a step of a region that draws its order. -/
theorem step_app_bytes {K : Act → World → Prop} {E : Prop} (hgd : o.guard = none) (s x : Operand) (ho : o.op = .call { callee := .builtin .append, args := #[s, x], argTypes := #[22, 22] })
    (base : Nat) (v : Value) (bs : List UInt8) (hs : a.eval s = v) (hown : Own w base v bs) (A : Option Addr) (m c : Nat) (ys : List UInt8) (hx : a.eval x = .slice A m c) (hm : m = ys.length) {S : Nat → Prop} (hr : BRow w S A ys)
    (hl : bs.length + ys.length ≤ 140737488355328) (hbase : base ≤ w.heap.size)
    (h : ∀ v' w', Own w' base v' (bs ++ ys) → w.grownBy w' v.ownBlock → (v'.ownBlock = v.ownBlock ∨ v'.ownBlock = some w.heap.size) → K (a.put o.dst v') w') :
    if Region.wanted o (yielded ops a.tmps) = true then Oper.wp Tryd.prog o a w K Q else E := by
  have hw : Region.wanted o (yielded ops a.tmps) = true := by simp [Region.wanted, hgd]
  rw [if_pos hw]
  obtain ⟨v', w', h1, h2, h3, h4⟩ := run_app hown hr c m hm o.type hl hbase
  unfold Oper.wp execOp
  simp only [ho, resolve, invoke, builtin, Sem.run_bind, Sem.run_pure, Result.andThen_ok, List.map_toArray, List.map_cons, List.map_nil, hs, hx, h1]
  exact h v' w' h2 h3 h4
end
theorem BRow.belowS {w w' : World} {S : Nat → Prop} {A : Option Addr} {bs : List UInt8} (h : BRow w S A bs) (hb : Below w.heap.size w w') : BRow w' S A bs := h.kept (Keeps.of_below hb _ fun _ h _ => h)
theorem below_alloc_size {B : Nat} {w w' : World} {X : Obj} (h : Below B (w.alloc X) w') : w.heap.size + 1 ≤ w'.heap.size := by have := h.size; simpa using this
theorem below_drew (w : World) : Below w.heap.size w w.drew := (Below.refl _ _).drew
theorem own_ne {w : World} {base : Nat} {v : Value} {bs : List UInt8} (h : Own w base v bs) {k : Nat} (hk : k < base) : some k ≠ v.ownBlock := fun e => by
  have := (h.lt k e.symm).1
  omega
/-- A row that was there is there behind an append to the call's own. -/
theorem BRow.grown {w w' : World} {row : Option Nat} {S : Nat → Prop} {A : Option Addr} {bs : List UInt8} (h : BRow w S A bs) (hg : w.grownBy w' row) (hne : ∀ k, row = some k → ¬ S k) : BRow w' S A bs := h.kept (Keeps.of_grown hg S hne)
end Go.Proofs.YtljdfainnmpjnaaDoor
