/- Plain laws: what a good value's bytes are read as, and what is read was written so. -/
import Derived.Test.YtljdfainnmpjnaaDoorGoodP
import Derived.Test.YtljdfainnmpjnaaDoorRefs
set_option linter.unusedVariables false
set_option linter.unusedSimpArgs false
namespace Go.Proofs.YtljdfainnmpjnaaDoor
open Go.RowKit

/-! ### numbers -/
theorem leByte_next (n : Int) (i : Nat) : leByte n (i + 1) = leByte (n / 256) i := by
  unfold leByte
  rw [Int.pow_succ, Int.mul_comm, Int.ediv_ediv_of_nonneg (by decide)]
theorem leBytes_cons (n : Int) (k : Nat) : leBytes n (k + 1) = leByte n 0 :: leBytes (n / 256) k := by
  simp only [leBytes, List.range_succ_eq_map, List.map_cons, List.map_map]
  congr 1
  exact List.map_congr_left fun i _ => leByte_next n i
theorem leByte_zero (n : Int) : ((leByte n 0).toNat : Int) = n % 256 := by rw [leByte_cast]; simp
theorem leByte_zeroN {n : Int} (h0 : 0 ≤ n) (h : n < 256) : (leByte n 0).toNat = n.toNat := by have := leByte_zero n; omega
theorem leByte_of (x : UInt8) : leByte (x.toNat : Int) 0 = x := by
  apply UInt8.toNat_inj.1
  have := leByte_zero x.toNat
  have := x.toNat_lt
  omega
theorem leNum_leBytes (k : Nat) : ∀ n : Int, 0 ≤ n → n < 256 ^ k → leNum (leBytes n k) = n := by
  induction k with
  | zero => intro n h0 h1; simp [leBytes, leNum] at *; omega
  | succ k ih =>
    intro n h0 h1
    rw [leBytes_cons, leNum, leByte_zero, ih (n / 256) (by omega) (by rw [Int.pow_succ] at h1; omega)]
    omega
theorem leBytes_leNum : ∀ bs : List UInt8, leBytes (leNum bs) bs.length = bs
  | [] => rfl
  | x :: r => by
    have h := leBytes_leNum r
    have hx := x.toNat_lt
    rw [List.length_cons, leBytes_cons, leNum]
    have e : ((x.toNat : Int) + 256 * leNum r) / 256 = leNum r := by omega
    rw [e, h]
    congr 1
    apply UInt8.toNat_inj.1
    have := leByte_zero ((x.toNat : Int) + 256 * leNum r)
    omega

/-! ### what is written is read -/
/-- What a good value's parts are like. -/
structure Fine (r : Nat) (v : V) : Prop where
  formed : Formed v
  many : manyR v = false
  depth : depthR v ≤ r
  size : (encR v).length ≤ 65000
theorem many_parts {k n : Int} {b : List UInt8} {l : List V} {f : List (ByteArray × V)} (h : manyR (.mk k n b l f) = false) : l.length ≤ 64 ∧ f.length ≤ 64 ∧ manyL l = false ∧ manyF f = false := by
  simp only [manyR, Bool.or_eq_false_iff, decide_eq_false_iff_not] at h
  obtain ⟨⟨⟨h1, h2⟩, h3⟩, h4⟩ := h
  exact ⟨by omega, by omega, h3, h4⟩
theorem nameR_size {s : ByteArray} (h : nameR s = true) : 1 ≤ s.size ∧ s.size ≤ 32 := by
  simp only [nameR, Bool.and_eq_true, decide_eq_true_eq] at h
  omega
theorem items_enc (r : Nat) : ∀ (l : List V) (rest : List UInt8) (_ : ∀ v ∈ l, ∀ rest, parse r (encR v ++ rest) = .ok (v, rest)), items (parse r) l.length (encL l ++ rest) = .ok (l, rest)
  | [], rest, _ => rfl
  | v :: l, rest, h => by
    rw [encL, List.length_cons, items, List.append_assoc, h v (by simp)]
    dsimp only
    rw [items_enc r l rest (fun v hv => h v (by simp [hv]))]
theorem fieldName_enc {met : List ByteArray} {s : ByteArray} (hs : nameR s = true) (hm : s ∉ met) (rest : List UInt8) : fieldName met (leByte s.size 0 :: (s.data.toList ++ rest)) = .ok (s, rest) := by
  obtain ⟨h1, h2⟩ := nameR_size hs
  have hz : (leByte (s.size : Int) 0).toNat = s.size := by have := leByte_zero (s.size : Int); omega
  have hlen : s.data.toList.length = s.size := by simp
  rw [fieldName, hz, if_neg (by simp)]
  have ht : (s.data.toList ++ rest).take s.size = s.data.toList := by rw [← hlen, List.take_left]
  have hd : (s.data.toList ++ rest).drop s.size = rest := by rw [← hlen, List.drop_left]
  rw [ht, hd]
  rw [if_pos ⟨hs, hm⟩]
theorem fields_enc (r : Nat) : ∀ (f : List (ByteArray × V)) (met : List ByteArray) (rest : List UInt8) (_ : ∀ x ∈ f, nameR x.1 = true ∧ ∀ rest, parse r (encR x.2 ++ rest) = .ok (x.2, rest)) (_ : (f.map (·.1)).Nodup) (_ : ∀ x ∈ f, x.1 ∉ met),
    fields (parse r) f.length met (encF f ++ rest) = .ok (f, rest)
  | [], met, rest, _, _, _ => rfl
  | (s, v) :: f, met, rest, h, hd, hm => by
    obtain ⟨hs, hv⟩ := h (s, v) (by simp)
    dsimp only at hs hv
    rw [encF, List.length_cons, fields]
    simp only [List.cons_append, List.append_assoc]
    rw [fieldName_enc hs (hm (s, v) (by simp))]
    dsimp only
    rw [hv]
    dsimp only
    simp only [List.map_cons, List.nodup_cons] at hd
    rw [fields_enc r f (s :: met) rest (fun x hx => h x (by simp [hx])) hd.2 (fun x hx hm2 => by
      rcases List.mem_cons.1 hm2 with e | hm2
      · exact hd.1 (List.mem_map.2 ⟨x, hx, e⟩)
      · exact hm x (by simp [hx]) hm2)]
theorem names_nodup {f : List (ByteArray × V)} (h : ∀ i (h : i < f.length) j (hj : j < i), (f[j]).1 ≠ (f[i]).1) : (f.map (·.1)).Nodup := by
  have := (namesOf_nodup f).2 h
  rw [namesOf] at this
  exact (List.reverse_perm _).nodup_iff.1 this
theorem manyL_mem {l : List V} (h : manyL l = false) : ∀ v ∈ l, manyR v = false := by
  induction l with
  | nil => intro v hv; cases hv
  | cons x r ih =>
    simp only [manyL, Bool.or_eq_false_iff] at h
    intro v hv
    rcases List.mem_cons.1 hv with rfl | hv
    · exact h.1
    · exact ih h.2 v hv
theorem manyF_mem {f : List (ByteArray × V)} (h : manyF f = false) : ∀ x ∈ f, manyR x.2 = false := by
  induction f with
  | nil => intro v hv; cases hv
  | cons x r ih =>
    obtain ⟨s, u⟩ := x
    simp only [manyF, Bool.or_eq_false_iff] at h
    intro v hv
    rcases List.mem_cons.1 hv with rfl | hv
    · exact h.1
    · exact ih h.2 v hv
theorem depthL_mem {l : List V} {d : Int} (h : depthL l ≤ d) : ∀ v ∈ l, depthR v ≤ d := by
  induction l with
  | nil => intro v hv; cases hv
  | cons x r ih =>
    simp only [depthL] at h
    intro v hv
    rcases List.mem_cons.1 hv with rfl | hv
    · omega
    · exact ih (by omega) v hv
theorem depthF_mem {f : List (ByteArray × V)} {d : Int} (h : depthF f ≤ d) : ∀ x ∈ f, depthR x.2 ≤ d := by
  induction f with
  | nil => intro v hv; cases hv
  | cons x r ih =>
    obtain ⟨s, u⟩ := x
    simp only [depthF] at h
    intro v hv
    rcases List.mem_cons.1 hv with rfl | hv
    · dsimp only; omega
    · exact ih (by omega) v hv
theorem encL_mem {l : List V} : ∀ v ∈ l, (encR v).length ≤ (encL l).length := by
  induction l with
  | nil => intro v hv; cases hv
  | cons x r ih =>
    intro v hv
    simp only [encL, List.length_append]
    rcases List.mem_cons.1 hv with rfl | hv
    · omega
    · have := ih v hv; omega
theorem encF_mem {f : List (ByteArray × V)} : ∀ x ∈ f, (encR x.2).length ≤ (encF f).length := by
  induction f with
  | nil => intro v hv; cases hv
  | cons x r ih =>
    obtain ⟨s, u⟩ := x
    intro v hv
    simp only [encF, List.length_append, List.length_cons]
    rcases List.mem_cons.1 hv with rfl | hv
    · dsimp only; omega
    · have := ih v hv; omega

/-- Every number is one of 64 bits. -/
inductive Nums : V → Prop where
  | mk (k n : Int) (b : List UInt8) (l : List V) (f : List (ByteArray × V)) (h : 0 ≤ n ∧ n ≤ 18446744073709551615) (hl : ∀ i (h : i < l.length), Nums l[i]) (hf : ∀ i (h : i < f.length), Nums (f[i]).2) : Nums (.mk k n b l f)
theorem Rep.nums {w : World} {S : Nat → Prop} {v : V} {cs : List Value} (h : Rep w S v cs) : Nums v := by
  induction h with
  | mk k n b l f AB AL AF cb cl cf L F hk hn hb' hB hl hL _ hf hF _ hfn ihL ihF => exact .mk k n b l f hn ihL ihF
theorem Nums.inv {k n : Int} {b : List UInt8} {l : List V} {f : List (ByteArray × V)} (h : Nums (.mk k n b l f)) : (0 ≤ n ∧ n ≤ 18446744073709551615) ∧ (∀ x ∈ l, Nums x) ∧ (∀ x ∈ f, Nums x.2) := by
  cases h with
  | mk _ _ _ _ _ h hl hf =>
    refine ⟨h, fun x hx => ?_, fun x hx => ?_⟩
    · obtain ⟨i, hi, rfl⟩ := List.getElem_of_mem hx
      exact hl i hi
    · obtain ⟨i, hi, rfl⟩ := List.getElem_of_mem hx
      exact hf i hi
noncomputable def under : Nat → Option (List UInt8 → Got)
  | 0 => none
  | r + 1 => some (parse r)
theorem parse_cons (r : Nat) (k : UInt8) (bs : List UInt8) : parse r (k :: bs) = body (under r) k.toNat bs := by
  cases r <;> rfl
theorem parse_nil (r : Nat) : parse r [] = .error 4 := by cases r <;> rfl

theorem body_seven (p : List UInt8 → Got) (m : UInt8) (bs : List UInt8) : body (some p) 7 (m :: bs) = if 64 < m.toNat then .error 19 else match items p m.toNat bs with
        | .error e => .error e
        | .ok (l, bs) => .ok (.mk 7 0 [] l [], bs) := rfl
theorem body_eight (p : List UInt8 → Got) (m : UInt8) (bs : List UInt8) : body (some p) 8 (m :: bs) = if 64 < m.toNat then .error 19 else match fields p m.toNat [] bs with
        | .error e => .error e
        | .ok (f, bs) => .ok (.mk 8 0 [] [] f, bs) := rfl
theorem parse_enc (v : V) : ∀ (r : Nat) (rest : List UInt8), Nums v → Fine r v → parse r (encR v ++ rest) = .ok (v, rest) := by
  induction v using V.ind0 with
  | h k n b l f ihl ihf =>
    intro r rest hN hF
    obtain ⟨hform, hmany, hdep, hsz⟩ := hF
    obtain ⟨hn, hNl, hNf⟩ := hN.inv
    obtain ⟨⟨k1, k8, kn, k2⟩, ⟨kb, kl, kf, ku⟩, hl, hf⟩ := formed_parts hform
    have hnd : (f.map (·.1)).Nodup := names_nodup (fun i h j hj => (((formed_iff k n b l f).1 hform).2.2.2 i h).2.2 j hj)
    obtain ⟨ml, mf, mL, mF⟩ := many_parts hmany
    have hk : (leByte k 0).toNat = k.toNat := leByte_zeroN (by omega) (by omega)
    rw [encR, List.cons_append, parse_cons, hk]
    rw [encR, List.length_cons] at hsz
    rw [depthR] at hdep
    clear hform hmany hk
    have h18 : k = 1 ∨ k = 2 ∨ k = 3 ∨ k = 4 ∨ k = 5 ∨ k = 6 ∨ k = 7 ∨ k = 8 := by omega
    have hb0 : k ≠ 5 → k ≠ 6 → b = [] := fun _ _ => List.eq_nil_of_length_eq_zero (by omega)
    have hl0 : k ≠ 7 → l = [] := fun _ => List.eq_nil_of_length_eq_zero (by omega)
    have hf0 : k ≠ 8 → f = [] := fun _ => List.eq_nil_of_length_eq_zero (by omega)
    have hwide : ∀ k : Int, k = 3 ∨ k = 4 → body (under r) k.toNat (leBytes n 8 ++ rest) = .ok (.mk k n [] [] [], rest) := fun k hk => by
      have h8 : (leBytes n 8).length = 8 := leBytes_length n 8
      have ht : (leBytes n 8 ++ rest).take 8 = leBytes n 8 := by conv => { lhs; rw [← h8] }; exact List.take_left
      have hd : (leBytes n 8 ++ rest).drop 8 = rest := by conv => { lhs; rw [← h8] }; exact List.drop_left
      unfold body
      rw [if_neg (by omega), if_neg (by omega), if_pos (by omega), if_neg (by rw [List.length_append]; omega), ht, hd, leNum_leBytes 8 n hn.1 (by omega)]
      have : ((k.toNat : Nat) : Int) = k := by omega
      rw [this]
    have hlong : ∀ k : Int, k = 5 ∨ k = 6 → b.length ≤ 65000 → (k = 5 → utfR b = true) → body (under r) k.toNat (leBytes b.length 2 ++ b ++ rest) = .ok (.mk k 0 b [] [], rest) := fun k hk hb hu => by
      have h8 : (leBytes (b.length : Int) 2).length = 2 := leBytes_length _ 2
      rw [List.append_assoc]
      have ht : (leBytes (b.length : Int) 2 ++ (b ++ rest)).take 2 = leBytes b.length 2 := by conv => { lhs; rw [← h8] }; exact List.take_left
      have hd : (leBytes (b.length : Int) 2 ++ (b ++ rest)).drop 2 = b ++ rest := by conv => { lhs; rw [← h8] }; exact List.drop_left
      have hx : (leNum (leBytes (b.length : Int) 2)).toNat = b.length := by rw [leNum_leBytes 2 _ (by omega) (by omega)]; omega
      unfold body
      rw [if_neg (by omega), if_neg (by omega), if_neg (by omega), if_pos (by omega), if_neg (by rw [List.length_append]; omega), ht, hd, hx, if_neg (by rw [List.length_append]; omega), List.take_left, List.drop_left]
      rw [if_pos (by rcases hk with rfl | rfl; exact .inr (hu rfl); exact .inl rfl)]
      have : ((k.toNat : Nat) : Int) = k := by omega
      rw [this]
    rcases h18 with rfl | rfl | rfl | rfl | rfl | rfl | rfl | rfl
    · obtain rfl := hb0 (by omega) (by omega)
      obtain rfl := hl0 (by omega)
      obtain rfl := hf0 (by omega)
      obtain rfl : n = 0 := by omega
      rfl
    · obtain rfl := hb0 (by omega) (by omega)
      obtain rfl := hl0 (by omega)
      obtain rfl := hf0 (by omega)
      obtain rfl | rfl : n = 0 ∨ n = 1 := by omega
      · rfl
      · rfl
    · obtain rfl := hb0 (by omega) (by omega)
      obtain rfl := hl0 (by omega)
      obtain rfl := hf0 (by omega)
      exact hwide 3 (by omega)
    · obtain rfl := hb0 (by omega) (by omega)
      obtain rfl := hl0 (by omega)
      obtain rfl := hf0 (by omega)
      exact hwide 4 (by omega)
    · obtain rfl := hl0 (by omega)
      obtain rfl := hf0 (by omega)
      obtain rfl : n = 0 := by omega
      exact hlong 5 (by omega) (by simp [leBytes_length] at hsz; omega) ku
    · obtain rfl := hl0 (by omega)
      obtain rfl := hf0 (by omega)
      obtain rfl : n = 0 := by omega
      exact hlong 6 (by omega) (by simp [leBytes_length] at hsz; omega) (fun h => by omega)
    · obtain rfl := hb0 (by omega) (by omega)
      obtain rfl := hf0 (by omega)
      obtain rfl : n = 0 := by omega
      simp only [depthF] at hdep
      cases r with
      | zero => have := depthL_nonneg l; simp at hdep; omega
      | succ r =>
        have hx : (leByte (l.length : Int) 0).toNat = l.length := by rw [leByte_zeroN (by omega) (by omega)]; omega
        have hit := items_enc r l rest (fun v hv rest => ihl v hv r rest (hNl v hv) ⟨hl v hv, manyL_mem mL v hv, depthL_mem (d := r) (by simp at hdep; omega) v hv, by have := encL_mem v hv; simp at hsz; omega⟩)
        show body (some (parse r)) 7 (leByte (l.length : Int) 0 :: encL l ++ rest) = _
        rw [List.cons_append, body_seven, hx, if_neg (by omega), hit]
    · obtain rfl := hb0 (by omega) (by omega)
      obtain rfl := hl0 (by omega)
      obtain rfl : n = 0 := by omega
      simp only [depthL] at hdep
      cases r with
      | zero => have := depthF_nonneg f; simp at hdep; omega
      | succ r =>
        have hx : (leByte (f.length : Int) 0).toNat = f.length := by rw [leByte_zeroN (by omega) (by omega)]; omega
        have hit := fields_enc r f [] rest (fun v hv => ⟨(hf v hv).1, fun rest => ihf v hv r rest (hNf v hv) ⟨(hf v hv).2, manyF_mem mF v hv, depthF_mem (d := r) (by simp at hdep; omega) v hv, by have := encF_mem v hv; simp at hsz; omega⟩⟩) hnd (fun x _ h => by cases h)
        show body (some (parse r)) 8 (leByte (f.length : Int) 0 :: encF f ++ rest) = _
        rw [List.cons_append, body_eight, hx, if_neg (by omega), hit]

/-! ### what is read was written so -/
/-- What a value that was read is like. -/
structure WasGood (r : Nat) (v : V) : Prop where
  formed : Formed v
  many : manyR v = false
  depth : depthR v ≤ r
  nums : Nums v
theorem items_dec {p : List UInt8 → Got} {r : Nat} (hp : ∀ bs v rest, p bs = .ok (v, rest) → bs = encR v ++ rest ∧ WasGood r v) : ∀ (n : Nat) (bs : List UInt8) (l : List V) (rest : List UInt8), items p n bs = .ok (l, rest) → l.length = n ∧ bs = encL l ++ rest ∧ ∀ v ∈ l, WasGood r v
  | 0, bs, l, rest, h => by
    simp only [items] at h
    cases h
    exact ⟨rfl, rfl, fun v hv => by cases hv⟩
  | n + 1, bs, l, rest, h => by
    rw [items] at h
    rcases h1 : p bs with e | ⟨v, b1⟩
    · rw [h1] at h; cases h
    · rw [h1] at h
      dsimp only at h
      rcases h2 : items p n b1 with e | ⟨vs, b2⟩
      · rw [h2] at h; cases h
      · rw [h2] at h
        dsimp only at h
        cases h
        obtain ⟨rfl, m⟩ := hp _ _ _ h1
        obtain ⟨hl, rfl, ms⟩ := items_dec hp n _ _ _ h2
        refine ⟨by simp [hl], by simp [encL], fun x hx => ?_⟩
        rcases List.mem_cons.1 hx with rfl | hx
        · exact m
        · exact ms x hx
theorem fieldName_dec {met : List ByteArray} {bs : List UInt8} {s : ByteArray} {rest : List UInt8} (h : fieldName met bs = .ok (s, rest)) : bs = leByte s.size 0 :: (s.data.toList ++ rest) ∧ nameR s = true ∧ s ∉ met := by
  cases bs with
  | nil => cases h
  | cons m bs =>
    rw [fieldName] at h
    split at h
    · cases h
    · rename_i hm
      split at h
      · rename_i hn
        cases h
        refine ⟨?_, hn⟩
        have hz : (⟨(bs.take m.toNat).toArray⟩ : ByteArray).size = m.toNat := by simp [ByteArray.size]; omega
        rw [hz, leByte_of]
        simp
      · cases h
theorem fields_dec {p : List UInt8 → Got} {r : Nat} (hp : ∀ bs v rest, p bs = .ok (v, rest) → bs = encR v ++ rest ∧ WasGood r v) : ∀ (n : Nat) (met : List ByteArray) (bs : List UInt8) (f : List (ByteArray × V)) (rest : List UInt8), fields p n met bs = .ok (f, rest) →
    f.length = n ∧ bs = encF f ++ rest ∧ (∀ x ∈ f, nameR x.1 = true ∧ x.1 ∉ met ∧ WasGood r x.2) ∧ (f.map (·.1)).Nodup
  | 0, met, bs, f, rest, h => by
    simp only [fields] at h
    cases h
    exact ⟨rfl, rfl, (fun v hv => by cases hv), by simp⟩
  | n + 1, met, bs, f, rest, h => by
    rw [fields] at h
    rcases h0 : fieldName met bs with e | ⟨s, b0⟩
    · rw [h0] at h; cases h
    rw [h0] at h
    dsimp only at h
    rcases h1 : p b0 with e | ⟨v, b1⟩
    · rw [h1] at h; cases h
    · rw [h1] at h
      dsimp only at h
      rcases h2 : fields p n (s :: met) b1 with e | ⟨vs, b2⟩
      · rw [h2] at h; cases h
      · rw [h2] at h
        dsimp only at h
        cases h
        obtain ⟨rfl, hs, hm⟩ := fieldName_dec h0
        obtain ⟨rfl, m⟩ := hp _ _ _ h1
        obtain ⟨hl, rfl, ms, hd⟩ := fields_dec hp n _ _ _ _ h2
        refine ⟨by simp [hl], by simp [encF], fun x hx => ?_, ?_⟩
        · rcases List.mem_cons.1 hx with rfl | hx
          · exact ⟨hs, hm, m⟩
          · obtain ⟨a, b, c⟩ := ms x hx
            exact ⟨a, fun e => b (List.mem_cons_of_mem _ e), c⟩
        · simp only [List.map_cons, List.nodup_cons]
          refine ⟨fun e => ?_, hd⟩
          obtain ⟨x, hx, he⟩ := List.mem_map.1 e
          exact (ms x hx).2.1 (by rw [he]; exact List.mem_cons_self)
theorem nodup_names {f : List (ByteArray × V)} (h : (f.map (·.1)).Nodup) : ∀ i (h : i < f.length) j (hj : j < i), (f[j]).1 ≠ (f[i]).1 := by
  refine (namesOf_nodup f).1 ?_
  rw [namesOf]
  exact (List.reverse_perm _).nodup_iff.2 h
theorem manyL_of {l : List V} (h : ∀ v ∈ l, manyR v = false) : manyL l = false := by
  induction l with
  | nil => rfl
  | cons x r ih => rw [manyL, h x (by simp), ih (fun v hv => h v (by simp [hv]))]; rfl
theorem manyF_of {f : List (ByteArray × V)} (h : ∀ x ∈ f, manyR x.2 = false) : manyF f = false := by
  induction f with
  | nil => rfl
  | cons x r ih =>
    obtain ⟨s, u⟩ := x
    rw [manyF, h (s, u) (by simp), ih (fun v hv => h v (by simp [hv]))]; rfl
theorem depthL_of {l : List V} {d : Int} (hd : 0 ≤ d) (h : ∀ v ∈ l, depthR v ≤ d) : depthL l ≤ d := by
  induction l with
  | nil => simpa [depthL] using hd
  | cons x r ih => have := h x (by simp); have := ih (fun v hv => h v (by simp [hv])); rw [depthL]; omega
theorem depthF_of {f : List (ByteArray × V)} {d : Int} (hd : 0 ≤ d) (h : ∀ x ∈ f, depthR x.2 ≤ d) : depthF f ≤ d := by
  induction f with
  | nil => simpa [depthF] using hd
  | cons x r ih =>
    obtain ⟨s, u⟩ := x
    have := h (s, u) (by simp); have := ih (fun v hv => h v (by simp [hv])); rw [depthF]; dsimp only at *; omega
theorem met_atom {r : Nat} {k n : Int} {b : List UInt8} (h1 : Kind1 k n) (h2 : k ≤ 6) (hb : k = 5 ∨ k = 6 ∨ b = []) (hu : k = 5 → utfR b = true) (hn : 0 ≤ n ∧ n ≤ 18446744073709551615) : WasGood r (.mk k n b [] []) := by
  refine ⟨(formed_iff _ _ _ _ _).2 ⟨h1, ⟨?_, .inr rfl, .inr rfl, hu⟩, (fun i h => by cases h), (fun i h => by cases h)⟩, rfl, ?_, .mk _ _ _ _ _ hn (fun i h => by cases h) (fun i h => by cases h)⟩
  · rcases hb with h | h | rfl
    · exact .inl h
    · exact .inr (.inl h)
    · exact .inr (.inr rfl)
  · rw [depthR, depthL, depthF, if_neg (by omega)]; omega

/-- What a reading one level further down is. -/
def Reads1 (r : Nat) (p : Option (List UInt8 → Got)) : Prop := match r, p with
  | _, none => True
  | 0, some _ => False
  | r + 1, some p => ∀ bs v rest, p bs = .ok (v, rest) → bs = encR v ++ rest ∧ WasGood r v
theorem body_dec (r : Nat) (p : Option (List UInt8 → Got)) (hp : Reads1 r p) (k : Nat) (hk : k < 256) (bs : List UInt8) (v : V) (rest : List UInt8) (h : body p k bs = .ok (v, rest)) : leByte k 0 :: bs = encR v ++ rest ∧ WasGood r v := by
  unfold body at h
  split at h
  · subst k
    cases h
    exact ⟨rfl, met_atom ⟨by omega, by omega, by omega, by omega⟩ (by omega) (by simp) (by omega) (by omega)⟩
  split at h
  · subst k
    cases bs with
    | nil => cases h
    | cons x bs =>
      dsimp only at h
      split at h
      · cases h
        refine ⟨?_, met_atom ⟨by omega, by omega, by omega, by omega⟩ (by omega) (by simp) (by omega) (by omega)⟩
        rw [encR, if_pos rfl, leByte_of]
        rfl
      · cases h
  split at h
  · split at h
    · cases h
    · rename_i hl
      cases h
      have h0 := leNum_nonneg (bs.take 8)
      have h1 := leNum_lt (bs.take 8)
      have h2 : (bs.take 8).length = 8 := by simp; omega
      have h3 := leBytes_leNum (bs.take 8)
      rw [h2] at h1 h3
      refine ⟨?_, met_atom ⟨by omega, by omega, by omega, by omega⟩ (by omega) (by simp) (by omega) (by omega)⟩
      rw [encR, if_neg (by omega), if_pos (by omega), h3]
      simp
  split at h
  · split at h
    · cases h
    · rename_i hl
      split at h
      · cases h
      · rename_i hl2
        split at h
        · rename_i hu
          cases h
          have h0 := leNum_nonneg (bs.take 2)
          have h1 := leNum_lt (bs.take 2)
          have h2 : (bs.take 2).length = 2 := by simp; omega
          have h3 := leBytes_leNum (bs.take 2)
          rw [h2] at h1 h3
          have h4 : ((((bs.drop 2).take (leNum (bs.take 2)).toNat).length : Nat) : Int) = leNum (bs.take 2) := by rw [List.length_take]; omega
          refine ⟨?_, met_atom ⟨by omega, by omega, by omega, by omega⟩ (by omega) (by omega) (by intro; rcases hu with hu | hu; omega; exact hu) (by omega)⟩
          rw [encR, if_neg (by omega), if_neg (by omega), if_pos (by omega), h4, h3]
          simp only [List.cons_append, List.append_assoc, List.take_append_drop]
        · cases h
  split at h
  · subst k
    cases p with
    | none => cases h
    | some p =>
      cases r with
      | zero => exact hp.elim
      | succ r =>
        cases bs with
        | nil => cases h
        | cons n bs =>
          dsimp only at h
          split at h
          · cases h
          · rename_i hn
            rcases hi : items p n.toNat bs with e | ⟨l, b1⟩
            · rw [hi] at h; cases h
            · rw [hi] at h
              cases h
              obtain ⟨hl, rfl, hm⟩ := items_dec (r := r) hp _ _ _ _ hi
              refine ⟨?_, ⟨(formed_iff _ _ _ _ _).2 ⟨⟨by omega, by omega, by omega, by omega⟩, ⟨.inr (.inr rfl), .inl rfl, .inr rfl, by omega⟩, fun i h => (hm _ (List.getElem_mem h)).formed, fun i h => by cases h⟩, ?_, ?_, .mk _ _ _ _ _ (by omega) (fun i h => (hm _ (List.getElem_mem h)).nums) (fun i h => by cases h)⟩⟩
              · rw [encR]
                simp only [hl, leByte_of]
                rfl
              · simp only [manyR, manyL_of (fun v hv => (hm v hv).many), manyF]
                simp
                omega
              · have := depthL_of (d := r) (by omega) (fun v hv => (hm v hv).depth)
                rw [depthR, depthF, if_pos (by omega)]
                omega
  split at h
  · subst k
    cases p with
    | none => cases h
    | some p =>
      cases r with
      | zero => exact hp.elim
      | succ r =>
        cases bs with
        | nil => cases h
        | cons n bs =>
          dsimp only at h
          split at h
          · cases h
          · rename_i hn
            rcases hi : fields p n.toNat [] bs with e | ⟨f, b1⟩
            · rw [hi] at h; cases h
            · rw [hi] at h
              cases h
              obtain ⟨hl, rfl, hm, hd⟩ := fields_dec (r := r) hp _ _ _ _ _ hi
              have hd2 := nodup_names hd
              refine ⟨?_, ⟨(formed_iff _ _ _ _ _).2 ⟨⟨by omega, by omega, by omega, by omega⟩, ⟨.inr (.inr rfl), .inr rfl, .inl rfl, by omega⟩, (fun i h => by cases h), fun i h => ⟨(hm _ (List.getElem_mem h)).1, (hm _ (List.getElem_mem h)).2.2.formed, hd2 i h⟩⟩, ?_, ?_, .mk _ _ _ _ _ (by omega) (fun i h => by cases h) (fun i h => (hm _ (List.getElem_mem h)).2.2.nums)⟩⟩
              · rw [encR]
                simp only [hl, leByte_of]
                rfl
              · simp only [manyR, manyF_of (fun v hv => (hm v hv).2.2.many), manyL]
                simp
                omega
              · have := depthF_of (d := r) (by omega) (fun v hv => (hm v hv).2.2.depth)
                rw [depthR, depthL, if_pos (by omega)]
                omega
  · cases h
theorem parse_dec (r : Nat) : ∀ (bs : List UInt8) (v : V) (rest : List UInt8), parse r bs = .ok (v, rest) → bs = encR v ++ rest ∧ WasGood r v := by
  induction r with
  | zero =>
    intro bs v rest h
    cases bs with
    | nil => rw [parse_nil] at h; cases h
    | cons k bs =>
      rw [parse_cons] at h
      have := body_dec 0 none trivial k.toNat k.toNat_lt bs v rest h
      rwa [leByte_of] at this
  | succ r ih =>
    intro bs v rest h
    cases bs with
    | nil => rw [parse_nil] at h; cases h
    | cons k bs =>
      rw [parse_cons] at h
      have := body_dec (r + 1) (some (parse r)) ih k.toNat k.toNat_lt bs v rest h
      rwa [leByte_of] at this

/-! ### what the law asks -/
theorem goodR_fine {v : V} (h : goodR v = 0) : Fine 16 v := by
  unfold goodR at h
  split at h
  · omega
  rename_i h1
  split at h
  · omega
  rename_i h2
  split at h
  · omega
  rename_i h3
  split at h
  · omega
  rename_i h4
  exact ⟨formedB_true.1 (by simpa using h1), by simpa using h2, by omega, by omega⟩
theorem goodR_of {v : V} (h : WasGood 16 v) (hs : (encR v).length ≤ 4096) : goodR v = 0 := by
  unfold goodR
  rw [if_neg (by rw [formedB_true.2 h.formed]; simp), if_neg (by rw [h.many]; simp), if_neg (by have := h.depth; omega), if_neg (by omega)]
/-- A good value's bytes are read as that value. -/
theorem back_put {v : V} (hn : Nums v) (h : goodR v = 0) : getV (encR v) = (v, 0) := by
  have := parse_enc v 16 [] hn (goodR_fine h)
  rw [List.append_nil] at this
  exact getV_ok (by have := (goodR_zero h).2; omega) this
/-- One byte more is refused. -/
theorem back_more {v : V} (hn : Nums v) (h : goodR v = 0) (x : UInt8) : (getV (encR v ++ [x])).2 ≠ 0 := by
  by_cases hl : 4096 < (encR v ++ [x]).length
  · rw [getV_long hl]; simp
  · rw [getV_more hl (parse_enc v 16 [x] hn (goodR_fine h))]; simp
/-- What was read without a fault is the bytes of a good value. -/
theorem back_get {bs : List UInt8} {v : V} (h : getV bs = (v, 0)) : encR v = bs ∧ goodR v = 0 ∧ Nums v := by
  unfold getV at h
  split at h
  · cases h
  rename_i hl
  split at h
  · rename_i e he
    cases h
    have := parse_err 16 _ _ he
    omega
  · rename_i he
    cases h
    obtain ⟨h1, h2⟩ := parse_dec 16 _ _ _ he
    rw [List.append_nil] at h1
    exact ⟨h1.symm, goodR_of h2 (by rw [← h1]; omega), h2.nums⟩
  · cases h
/-- One byte less is refused. -/
theorem back_less {v : V} (hn : Nums v) (h : goodR v = 0) : (getV (encR v).dropLast).2 ≠ 0 := by
  intro h0
  obtain ⟨y, hy⟩ : ∃ y, getV (encR v).dropLast = (y, 0) := ⟨(getV (encR v).dropLast).1, by rw [← h0]⟩
  obtain ⟨h1, h2, h3⟩ := back_get hy
  have hne : encR v ≠ [] := by obtain ⟨k, n, b, l, f⟩ := v; rw [encR]; simp
  have e : encR v = encR y ++ [(encR v).getLast hne] := by rw [h1, List.dropLast_concat_getLast]
  have a := parse_enc v 16 [] hn (goodR_fine h)
  have b := parse_enc y 16 [(encR v).getLast hne] h3 (goodR_fine h2)
  rw [List.append_nil] at a
  rw [← e, a] at b
  cases b
/-- A fault comes with the zero value. -/
theorem getV_fault {bs : List UInt8} (h : (getV bs).2 ≠ 0) : (getV bs).1 = V0 := by
  unfold getV at h ⊢
  split
  · rfl
  · rename_i hl
    rw [if_neg hl] at h
    split
    · rfl
    · rename_i he
      rw [he] at h
      exact absurd rfl h
    · rfl
end Go.Proofs.YtljdfainnmpjnaaDoor
