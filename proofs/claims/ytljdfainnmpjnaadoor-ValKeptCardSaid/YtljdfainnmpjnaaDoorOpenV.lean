/- Values that came in, opened. -/
import Derived.Test.YtljdfainnmpjnaaDoorLaid0
import Derived.SizedLaws
set_option linter.unusedVariables false
namespace Go.Proofs.YtljdfainnmpjnaaDoor
open Go.ChangeShapes Go.WideShapes Go.ChangeAt Go.RowKit

section
variable {H : Type} {enc : TypeId × Value → H} {w : World}

/-- What was read weighs no more than a memory. -/
def Light (d : DataW H) (t : TypeId) : Prop := ∀ n ∈ d.weights Tryd.prog t, n ≤ reachBytes
theorem light_slice {t e : TypeId} (ht : Tryd.prog.underlying t = some (.slice e)) {els rest : List (DataW H)} (h : Light (.slice els rest) t) : (els.length + rest.length) * Tryd.prog.bytesOf e ≤ reachBytes ∧ ∀ d ∈ els, Light d e := by
  unfold Light at h
  simp only [DataW.weights, ht] at h
  refine ⟨h _ (by simp), fun d hd n hn => h n ?_⟩
  have : n ∈ DataW.weightsAll Tryd.prog e els := by
    clear h
    induction els with
    | nil => cases hd
    | cons x r ih =>
      simp only [DataW.weightsAll, List.mem_append]
      rcases List.mem_cons.1 hd with rfl | hd
      · exact .inl hn
      · exact .inr (ih hd)
  simp [this]
theorem open_blk {a : Addr} {x : Value} (h : w.cell? a = some x) : ∃ b o, a = ⟨b, o, none⟩ := by
  obtain ⟨b, off, spot⟩ := a
  have hspot : spot = none := World.cell?_spot h
  subst hspot
  exact ⟨b, off, rfl⟩
/-- A row of structs. -/
theorem open_row {t e : TypeId} {sz : Nat} {α : Type} [Inhabited α] (ht : Tryd.prog.underlying t = some (.slice e)) (hsz : Tryd.prog.cellsOf e = sz) (hpos : 0 < sz) (hby : 8 ≤ Tryd.prog.bytesOf e) (R : List Value → α → Prop) {fuel : Nat} {cs : List Value} {x : DataW H × List MemPlace}
    (h : DataW.trod enc Tryd.prog w 0 (fun _ => true) true fuel t cs = some x) (hlt : ∀ p ∈ x.2, p.block < w.heap.size) (hw : Light x.1 t)
    (hR : ∀ n cs y, n < fuel → DataW.trod enc Tryd.prog w 0 (fun _ => true) true n e cs = some y → (∀ p ∈ y.2, p.block < w.heap.size) → Light y.1 e → ∃ a, R cs a) :
    ∃ (A : Option Addr) (c : Nat) (l : List α) (L : Nat → List Value), cs = [.slice A l.length c] ∧ Len l.length c ∧ Row w (Old w) A sz l.length L ∧ ∀ i (h : i < l.length), R (L i) l[i] := by
  rcases DataW.trod_slice ht h with ⟨rfl, rfl⟩ | ⟨a, len, cap, elems, rest, n, rfl, rfl, rfl, hb, hl, hm, hlen, hel, hsp, -⟩
  · exact ⟨none, 0, [], fun _ => [], rfl, len0, Row.nil _ _ _ _ _, fun i h => by cases h⟩
  obtain ⟨hw1, hw2⟩ := light_slice ht hw
  dsimp only at hlt hw2
  have hrow : ∀ i, ∃ p : List Value × α, i < len → w.cells? 0 (a.add (i * sz)) sz = some p.1 ∧ R p.1 p.2 := fun i => by
    by_cases hi : i < len
    · have he := hel i hi
      rw [hsz, List.getElem?_eq_getElem (by omega)] at he
      obtain ⟨cs', h1, h2⟩ := Option.bind_eq_some_iff.1 he
      have hmem : elems[i]'(by omega) ∈ elems := List.getElem_mem (by omega)
      obtain ⟨v, hv⟩ := hR n cs' _ (by omega) h2 (fun p hp => hlt p (List.mem_append_right _ (List.mem_flatMap.2 ⟨_, List.mem_append_left _ hmem, hp⟩))) (hw2 _ (List.mem_map.2 ⟨_, hmem, rfl⟩))
      exact ⟨(cs', v), fun _ => ⟨h1, hv⟩⟩
    · exact ⟨([], default), fun h => absurd h hi⟩
  obtain ⟨f, hf⟩ := Classical.axiomOfChoice hrow
  have hll : ((List.range len).map fun i => (f i).2).length = len := by simp
  refine ⟨some a, cap, (List.range len).map fun i => (f i).2, fun i => (f i).1, by rw [hll], ?_, ?_, ?_⟩
  · rw [hll]
    unfold maxLen at hm
    simp only [List.length_map] at hw1
    unfold reachBytes at hw1
    have : (elems.length + rest.length) * 8 ≤ (elems.length + rest.length) * Tryd.prog.bytesOf e := Nat.mul_le_mul_left _ hby
    exact ⟨hl, by omega, by omega⟩
  · rw [hll]
    intro hpos2
    obtain ⟨-, hl0, hc0⟩ := World.cells?_some (hf 0 hpos2).1
    have h00 := hc0 0 hpos
    rw [List.getElem?_eq_getElem (by omega)] at h00
    obtain ⟨b, o, hbo⟩ : ∃ b o, a = ⟨b, o, none⟩ := by
      obtain ⟨b, o, hbo⟩ := open_blk h00
      obtain ⟨b2, o2, s2⟩ := a
      simp [Addr.add] at hbo
      exact ⟨b2, o2, by rw [hbo.2.2]⟩
    subst hbo
    have hblt : b < w.heap.size := hlt (.cell b o) (List.mem_append_left _ (MemPlace.mem_row.2 ⟨0, by rw [hsz]; exact Nat.mul_pos (by omega) hpos, by simp⟩))
    refine ⟨b, o, rfl, hblt, hblt, fun i hi => ?_⟩
    obtain ⟨-, h1, h2⟩ := World.cells?_some (hf i hi).1
    refine ⟨h1, fun j hj => ?_⟩
    rw [← h2 j hj, add_plain, add_plain]
  · intro i hi
    rw [hll] at hi
    simpa using (hf i hi).2
theorem open_bytes2 {fuel : Nat} {cs : List Value} {x : DataW H × List MemPlace} (h : DataW.trod enc Tryd.prog w 0 (fun _ => true) true fuel 22 cs = some x) (hlt : ∀ p ∈ x.2, p.block < w.heap.size) (hw : Light x.1 22) :
    ∃ A c bs, cs = [.slice A (List.length bs) c] ∧ Len bs.length c ∧ BRow0 w A bs := by
  rcases DataW.trod_slice Tryd.underlying22 h with ⟨rfl, rfl⟩ | ⟨a, len, cap, elems, rest, n, rfl, rfl, rfl, hb, hl, hm, hlen, hel, hsp, -⟩
  · exact ⟨none, 0, [], rfl, len0, Row.nil _ _ _ _ _⟩
  obtain ⟨bs, rfl, hc, hc2, hr⟩ := open_bytes (H := H) (enc := enc) (d0 := _) (p0 := _) ⟨_, by simpa [Value.cells] using h⟩ hlt
  obtain ⟨hw1, -⟩ := light_slice Tryd.underlying22 hw
  have h1 : Tryd.prog.bytesOf 5 = 1 := by kernel_rfl
  rw [h1] at hw1
  simp only [List.length_map] at hw1
  unfold reachBytes at hw1
  exact ⟨_, _, bs, rfl, ⟨hc, by omega, hc2⟩, hr⟩
theorem list2 {α : Type} : ∀ {l : List α}, l.length = 2 → ∃ a b, l = [a, b]
  | [a, b], _ => ⟨a, b, rfl⟩
theorem list5 {α : Type} : ∀ {l : List α}, l.length = 5 → ∃ a b c d e, l = [a, b, c, d, e]
  | [a, b, c, d, e], _ => ⟨a, b, c, d, e, rfl⟩
theorem list6 {α : Type} : ∀ {l : List α}, l.length = 6 → ∃ a b c d e f, l = [a, b, c, d, e, f]
  | [a, b, c, d, e, f], _ => ⟨a, b, c, d, e, f, rfl⟩
set_option maxRecDepth 100000 in
theorem open_value : ∀ (fuel : Nat) (cs : List Value) (x : DataW H × List MemPlace), DataW.trod enc Tryd.prog w 0 (fun _ => true) true fuel 27 cs = some x → (∀ p ∈ x.2, p.block < w.heap.size) → Light x.1 27 → ∃ v, Rep0 w v cs := by
  intro fuel
  induction fuel using Nat.strongRecOn with
  | _ fuel ih =>
    intro cs x h hlt hw
    obtain ⟨xs, m, rfl, rfl, hl, hlen, hf⟩ := DataW.trod_struct Tryd.underlying27 h
    have hc : Tryd.prog.cellsOf 27 = 5 := by kernel_rfl
    rw [hc] at hl
    have c1 : Tryd.prog.cellsOf 3 = 1 := by kernel_rfl
    have c2 : Tryd.prog.cellsOf 23 = 1 := by kernel_rfl
    have c3 : Tryd.prog.cellsOf 22 = 1 := by kernel_rfl
    have c4 : Tryd.prog.cellsOf 24 = 1 := by kernel_rfl
    have c5 : Tryd.prog.cellsOf 25 = 1 := by kernel_rfl
    obtain ⟨y0, y1, y2, y3, y4, rfl⟩ := list5 hlen
    obtain ⟨v0, v1, v2, v3, v4, rfl⟩ := list5 hl
    have h0 : DataW.trod enc Tryd.prog w 0 (fun _ => true) true m 3 (([v0, v1, v2, v3, v4].drop 0).take (Tryd.prog.cellsOf 3)) = some y0 := hf 0 _ rfl
    rw [c1] at h0
    replace h0 : DataW.trod enc Tryd.prog w 0 (fun _ => true) true m 3 [v0] = some y0 := h0
    have h1 : DataW.trod enc Tryd.prog w 0 (fun _ => true) true m 23 (([v0, v1, v2, v3, v4].drop 1).take (Tryd.prog.cellsOf 23)) = some y1 := hf 1 _ rfl
    rw [c2] at h1
    replace h1 : DataW.trod enc Tryd.prog w 0 (fun _ => true) true m 23 [v1] = some y1 := h1
    have h2 : DataW.trod enc Tryd.prog w 0 (fun _ => true) true m 22 (([v0, v1, v2, v3, v4].drop 2).take (Tryd.prog.cellsOf 22)) = some y2 := hf 2 _ rfl
    rw [c3] at h2
    replace h2 : DataW.trod enc Tryd.prog w 0 (fun _ => true) true m 22 [v2] = some y2 := h2
    have h3 : DataW.trod enc Tryd.prog w 0 (fun _ => true) true m 24 (([v0, v1, v2, v3, v4].drop 3).take (Tryd.prog.cellsOf 24)) = some y3 := hf 3 _ rfl
    rw [c4] at h3
    replace h3 : DataW.trod enc Tryd.prog w 0 (fun _ => true) true m 24 [v3] = some y3 := h3
    have h4 : DataW.trod enc Tryd.prog w 0 (fun _ => true) true m 25 (([v0, v1, v2, v3, v4].drop 4).take (Tryd.prog.cellsOf 25)) = some y4 := hf 4 _ rfl
    rw [c5] at h4
    replace h4 : DataW.trod enc Tryd.prog w 0 (fun _ => true) true m 25 [v4] = some y4 := h4
    clear hf hlen hl
    simp only [List.flatMap_cons, List.flatMap_nil, List.append_nil, List.mem_append] at hlt
    unfold Light at hw
    simp only [DataW.weights, Tryd.underlying27, List.map_cons, List.map_nil, DataW.weightsEach, List.append_nil, List.mem_append] at hw
    obtain ⟨k, hk, -, wk⟩ := DataW.trod_int Tryd.underlying3 h0
    obtain ⟨n, hn, -, wn⟩ := DataW.trod_int Tryd.underlying23 h1
    obtain ⟨AB, cb, b, hb, lb, rb⟩ := open_bytes2 h2 (fun p hp => hlt p (by simp [hp])) (fun p hp => hw p (by simp [hp]))
    obtain ⟨AL, cl, l, L, hl, ll, rl, el⟩ := open_row Tryd.underlying24 hc (by omega) (of_decide_eq_true (by kernel_rfl)) (fun cs v => Rep0 w v cs) h3 (fun p hp => hlt p (by simp [hp])) (fun p hp => hw p (by simp [hp]))
      (fun n cs y hn hy => ih n (by omega) cs y hy)
    obtain ⟨AF, cf, f, F, hf, lf, rf, ef⟩ := open_row (α := ByteArray × V) (sz := 6) Tryd.underlying25 (by kernel_rfl) (by omega) (of_decide_eq_true (by kernel_rfl)) (fun cs v => ∃ c2, cs = .string v.1 :: c2 ∧ v.1.size ≤ 281474976710656 ∧ Rep0 w v.2 c2) h4 (fun p hp => hlt p (by simp [hp])) (fun p hp => hw p (by simp [hp]))
      (fun n cs y hn hy hlt hw => by
        obtain ⟨xs, n2, rfl, rfl, hl, hlen, hf⟩ := DataW.trod_struct Tryd.underlying59 hy
        obtain ⟨z0, z1, rfl⟩ := list2 hlen
        have h6 : Tryd.prog.cellsOf 59 = 6 := by kernel_rfl
        have h9 : Tryd.prog.cellsOf 9 = 1 := by kernel_rfl
        rw [h6] at hl
        obtain ⟨v0, v1, v2, v3, v4, v5, rfl⟩ := list6 hl
        have h0 : DataW.trod enc Tryd.prog w 0 (fun _ => true) true n2 9 (([v0, v1, v2, v3, v4, v5].drop 0).take (Tryd.prog.cellsOf 9)) = some z0 := hf 0 _ rfl
        rw [h9] at h0
        replace h0 : DataW.trod enc Tryd.prog w 0 (fun _ => true) true n2 9 [v0] = some z0 := h0
        have h1 : DataW.trod enc Tryd.prog w 0 (fun _ => true) true n2 27 (([v0, v1, v2, v3, v4, v5].drop 1).take (Tryd.prog.cellsOf 27)) = some z1 := hf 1 _ rfl
        rw [hc] at h1
        replace h1 : DataW.trod enc Tryd.prog w 0 (fun _ => true) true n2 27 [v1, v2, v3, v4, v5] = some z1 := h1
        clear hf hlen hl
        obtain ⟨s, hs, hx, ws⟩ := DataW.trod_string Tryd.underlying9 h0
        subst hx
        simp only [List.flatMap_cons, List.flatMap_nil, List.append_nil, List.mem_append] at hlt
        unfold Light at hw
        simp only [DataW.weights, Tryd.underlying59, List.map_cons, List.map_nil, DataW.weightsEach, List.append_nil, List.mem_append] at hw
        obtain ⟨v, hv⟩ := ih n2 (by omega) _ _ h1 (fun p hp => hlt p (by simp [hp])) (fun p hp => hw p (by simp [hp]))
        have hsz := hw s.data.toList.length (.inl (List.mem_singleton.2 rfl))
        unfold reachBytes at hsz
        have e : s.data.toList.length = s.size := rfl
        rw [e] at hsz
        cases hs
        exact ⟨(s, v), _, rfl, Nat.le_trans hsz (by omega), hv⟩)
    obtain rfl : v0 = _ := by simpa using hk
    obtain rfl : v1 = _ := by simpa using hn
    obtain rfl : v2 = _ := by simpa using hb
    obtain rfl : v3 = _ := by simpa using hl
    obtain rfl : v4 = _ := by simpa using hf
    have bk := bounds_i64 wk
    have bn := bounds_u64 wn
    refine ⟨.mk k n b l f, .mk k n b l f AB AL AF cb cl cf L (fun i => (F i).tail) (by omega) (by omega) lb rb ll rl el lf ?_ ?_ ?_⟩
    · refine rf.congr fun i hi => ?_
      obtain ⟨c2, h, -, -⟩ := ef i hi
      rw [h, getD_at hi]
      rfl
    · intro i hi
      obtain ⟨c2, h, -, h2⟩ := ef i hi
      rw [h]
      exact h2
    · intro i hi
      obtain ⟨c2, -, h, -⟩ := ef i hi
      exact h
/-- An argument of the value's type. -/
theorem open_val {v : Value} {d : DataW H} {p : List MemPlace} (h0 : DataW.Trod enc Tryd.prog w 0 (fun _ => true) true 27 v d p) (hlt : ∀ x ∈ p, x.block < w.heap.size) (hw : Light d 27) : ∃ t, Rep0 w t v.cells.toList := by
  obtain ⟨fuel, hf⟩ := h0
  exact open_value fuel _ _ hf hlt hw
end
end Go.Proofs.YtljdfainnmpjnaaDoor
