/- The law ValDeep, plain: values at the limits: what is wrong with them, and what their bytes are read as. -/
import Derived.Test.YtljdfainnmpjnaaDoorBackLaw
import Derived.Test.YtljdfainnmpjnaaDoorDeepA
set_option linter.unusedVariables false
namespace Go.Proofs.YtljdfainnmpjnaaDoor
open Go.RowKit

/-- What the law asks of a value that it made, where it wants this number. -/
structure Deeps (v : V) (want : Int) : Prop where
  good : goodR v = want
  small : Small v
  short : (encR v).length ≤ 5000
  read : want ≠ 0 → (getV (encR v)).2 = want
  nums : Nums v

theorem good4 {v : V} (h : ¬ Formed v) : goodR v = 4 := by unfold goodR; rw [if_pos (formedB_false.2 h)]
theorem good19 {v : V} (h : Formed v) (h2 : manyR v = true) : goodR v = 19 := by unfold goodR; rw [if_neg (by rw [formedB_true.2 h]; simp), if_pos h2]
theorem good3 {v : V} (h : Formed v) (h2 : manyR v = false) (h3 : 16 < depthR v) : goodR v = 3 := by unfold goodR; rw [if_neg (by rw [formedB_true.2 h]; simp), if_neg (by simp [h2]), if_pos h3]
theorem good2 {v : V} (h : Formed v) (h2 : manyR v = false) (h3 : depthR v ≤ 16) (h4 : 4096 < (encR v).length) : goodR v = 2 := by
  unfold goodR; rw [if_neg (by rw [formedB_true.2 h]; simp), if_neg (by simp [h2]), if_neg (by omega), if_pos h4]
theorem good0 {v : V} (h : Formed v) (h2 : manyR v = false) (h3 : depthR v ≤ 16) (h4 : (encR v).length ≤ 4096) : goodR v = 0 := by
  unfold goodR; rw [if_neg (by rw [formedB_true.2 h]; simp), if_neg (by simp [h2]), if_neg (by omega), if_neg (by omega)]
theorem getV_err {bs : List UInt8} {e : Int} (h : bs.length ≤ 4096) (hp : parse 16 bs = .error e) : (getV bs).2 = e := by
  unfold getV; rw [if_neg (by omega), hp]
theorem small_enc {v : V} (hh : v.high ≤ 1000000) (h : (encR v).length ≤ 5000) : Small v := ⟨hh, fun hf => by have := sizeR_enc v hf; omega⟩

/-! ### an Int -/
abbrev intV (n : Int) : V := .mk 3 n [] [] []
theorem int_formed (n : Int) : Formed (intV n) := (formed_iff _ _ _ _ _).2 ⟨by unfold Kind1; omega, ⟨by simp, by simp, by simp, fun h => by omega⟩, fun i h => absurd h (by simp), fun i h => absurd h (by simp)⟩
theorem int_many (n : Int) : manyR (intV n) = false := by simp [manyR, manyL, manyF]
theorem int_depth (n : Int) : depthR (intV n) = 0 := by simp [depthR, depthL, depthF]
theorem int_enc (n : Int) : (encR (intV n)).length = 9 := by simp [encR, leBytes_length]
theorem int_high (n : Int) : (intV n).high = 1 := by simp [V.high, highL, highF]
theorem int_nums {n : Int} (h : 0 ≤ n ∧ n ≤ 18446744073709551615) : Nums (intV n) := .mk _ _ _ _ _ h (fun i h => absurd h (by simp)) (fun i h => absurd h (by simp))

/-! ### lists in one another -/
def nestV : Nat → V
  | 0 => intV 1
  | k + 1 => .mk 7 0 [] [nestV k] []
theorem nest_formed : ∀ k, Formed (nestV k)
  | 0 => int_formed 1
  | k + 1 => (formed_iff _ _ _ _ _).2 ⟨by unfold Kind1; omega, ⟨by simp, by simp, by simp, fun h => by omega⟩, fun i h => by
      obtain rfl : i = 0 := by simpa using h
      exact nest_formed k, fun i h => absurd h (by simp)⟩
theorem nest_many : ∀ k, manyR (nestV k) = false
  | 0 => int_many 1
  | k + 1 => by simp [nestV, manyR, manyL, manyF, nest_many k]
theorem nest_depth : ∀ k, depthR (nestV k) = k
  | 0 => int_depth 1
  | k + 1 => by have := nest_depth k; simp [nestV, depthR, depthL, depthF, this]
theorem nest_enc : ∀ k, (encR (nestV k)).length = 9 + 2 * k
  | 0 => int_enc 1
  | k + 1 => by have := nest_enc k; simp [nestV, encR, encL, this]; omega
theorem nest_high : ∀ k, (nestV k).high = 1 + k
  | 0 => int_high 1
  | k + 1 => by have := nest_high k; simp [nestV, V.high, highL, highF, this]; omega
theorem nest_nums : ∀ k, Nums (nestV k)
  | 0 => int_nums (by omega)
  | k + 1 => .mk _ _ _ _ _ (by omega) (fun i h => by
      obtain rfl : i = 0 := by simpa using h
      exact nest_nums k) (fun i h => absurd h (by simp))
theorem nest_parse : ∀ (r k : Nat) (rest : List UInt8), r < k → parse r (encR (nestV k) ++ rest) = .error 3
  | r, 0, rest, h => absurd h (by omega)
  | 0, k + 1, rest, h => by
    have e : encR (nestV (k + 1)) ++ rest = leByte 7 0 :: (leByte 1 0 :: encR (nestV k) ++ rest) := by simp [nestV, encR, encL]
    rw [e, parse_cons]
    rfl
  | r + 1, k + 1, rest, h => by
    have e : encR (nestV (k + 1)) ++ rest = leByte 7 0 :: (leByte 1 0 :: (encR (nestV k) ++ rest)) := by simp [nestV, encR, encL]
    have ih := nest_parse r k rest (by omega)
    rw [e, parse_cons]
    show body (some (parse r)) 7 (leByte 1 0 :: (encR (nestV k) ++ rest)) = _
    rw [body_seven, if_neg (by decide)]
    show (match items (parse r) 1 (encR (nestV k) ++ rest) with | .error e => .error e | .ok (l, bs) => .ok (V.mk 7 0 [] l [], bs) : Got) = _
    rw [items, ih]
theorem deeps_nest (k : Nat) (h : k ≤ 127) : Deeps (nestV k) (if 16 < k then 3 else 0) := by
  have hl := nest_enc k
  have hd := nest_depth k
  refine ⟨?_, small_enc (by rw [nest_high]; omega) (by omega), by omega, fun hz => ?_, nest_nums k⟩
  · split
    · exact good3 (nest_formed k) (nest_many k) (by omega)
    · exact good0 (nest_formed k) (nest_many k) (by omega) (by omega)
  · split at hz
    · rename_i h1
      rw [if_pos h1]
      have := nest_parse 16 k [] h1
      rw [List.append_nil] at this
      exact getV_err (by omega) this
    · exact absurd rfl hz

/-! ### many Ints -/
def intsV (k : Nat) : V := .mk 7 0 [] ((List.range k).map fun i : Nat => intV (i : Int)) []
theorem encL_ints : ∀ (l : List Nat), (encL (l.map fun i : Nat => intV (i : Int))).length = 9 * l.length
  | [] => rfl
  | i :: r => by have := encL_ints r; have := int_enc (i : Int); simp only [List.map_cons, encL, List.length_append, List.length_cons]; omega
theorem manyL_ints : ∀ (l : List Nat), manyL (l.map fun i : Nat => intV (i : Int)) = false
  | [] => rfl
  | i :: r => by have := manyL_ints r; simp only [List.map_cons, manyL, this, int_many]; rfl
theorem depthL_ints : ∀ (l : List Nat), depthL (l.map fun i : Nat => intV (i : Int)) = 0
  | [] => rfl
  | i :: r => by have := depthL_ints r; simp only [List.map_cons, depthL, this, int_depth]; rfl
theorem highL_ints : ∀ (l : List Nat), highL (l.map fun i : Nat => intV (i : Int)) ≤ 1
  | [] => by simp [highL]
  | i :: r => by have := highL_ints r; have := int_high (i : Int); simp only [List.map_cons, highL]; omega
theorem ints_formed (k : Nat) : Formed (intsV k) := (formed_iff _ _ _ _ _).2 ⟨by unfold Kind1; omega, ⟨by simp, by simp, by simp, fun h => by omega⟩, fun i h => by
  rw [List.getElem_map]; exact int_formed _, fun i h => absurd h (by simp)⟩
theorem ints_enc (k : Nat) : encR (intsV k) = leByte 7 0 :: leByte k 0 :: encL ((List.range k).map fun i : Nat => intV (i : Int)) := by simp [intsV, encR]
theorem ints_len (k : Nat) : (encR (intsV k)).length = 2 + 9 * k := by
  have := encL_ints (List.range k)
  simp only [List.length_range] at this
  rw [ints_enc, List.length_cons, List.length_cons, this]; omega
theorem ints_many (k : Nat) : manyR (intsV k) = decide (64 < k) := by simp [intsV, manyR, manyL_ints, manyF]
theorem ints_depth (k : Nat) : depthR (intsV k) = 1 := by simp [intsV, depthR, depthL_ints, depthF]
theorem ints_high (k : Nat) : (intsV k).high ≤ 2 := by have := highL_ints (List.range k); simp [intsV, V.high, highF]; omega
theorem ints_nums (k : Nat) (h : k ≤ 127) : Nums (intsV k) := .mk _ _ _ _ _ (by omega) (fun i hi => by
    rw [List.getElem_map, List.getElem_range]
    simp at hi
    exact int_nums (by omega)) (fun i h => absurd h (by simp))
theorem deeps_ints (k : Nat) (h : k ≤ 127) : Deeps (intsV k) (if 64 < k then 19 else 0) := by
  have hl := ints_len k
  refine ⟨?_, small_enc (by have := ints_high k; omega) (by omega), by omega, fun hz => ?_, ints_nums k h⟩
  · split
    · exact good19 (ints_formed k) (by rw [ints_many]; simpa)
    · exact good0 (ints_formed k) (by rw [ints_many]; simp; omega) (by rw [ints_depth]; omega) (by omega)
  · split at hz
    · rename_i h1
      rw [if_pos h1]
      refine getV_err (by omega) ?_
      rw [ints_enc, parse_cons]
      show body (some (parse 15)) 7 _ = _
      have e := leByte_zeroN (n := (k : Int)) (by omega) (by omega)
      rw [body_seven, if_pos (by rw [e]; omega)]
    · exact absurd rfl hz

/-! ### many bytes -/
def bytesV (n : Nat) : V := .mk 6 0 (List.replicate n 0) [] []
theorem bytes_formed (n : Nat) : Formed (bytesV n) := (formed_iff _ _ _ _ _).2 ⟨by unfold Kind1; omega, ⟨by simp, by simp, by simp, fun h => by omega⟩, fun i h => absurd h (by simp), fun i h => absurd h (by simp)⟩
theorem bytes_len (n : Nat) : (encR (bytesV n)).length = n + 3 := by simp [bytesV, encR, leBytes_length]; omega
theorem deeps_bytes (n : Nat) (h : n ≤ 4900) : Deeps (bytesV n) (if 4096 < n + 3 then 2 else 0) := by
  have hl := bytes_len n
  have hm : manyR (bytesV n) = false := by simp [bytesV, manyR, manyL, manyF]
  have hd : depthR (bytesV n) = 0 := by simp [bytesV, depthR, depthL, depthF]
  refine ⟨?_, small_enc (by simp [bytesV, V.high, highL, highF]) (by omega), by omega, fun hz => ?_, .mk _ _ _ _ _ (by omega) (fun i h => absurd h (by simp)) (fun i h => absurd h (by simp))⟩
  · split
    · exact good2 (bytes_formed n) hm (by omega) (by omega)
    · exact good0 (bytes_formed n) hm (by omega) (by omega)
  · split at hz
    · rename_i h1
      rw [if_pos h1]
      unfold getV
      rw [if_pos (by omega)]
    · exact absurd rfl hz

/-! ### a long name -/
def nameV (k : Nat) : V := .mk 8 0 [] [] [(longB k, intV 1)]
theorem utf_n : ∀ (k m : Nat), k ≤ m → utfN m (List.replicate k 110) = true
  | 0, m, _ => by cases m <;> rfl
  | k + 1, 0, h => absurd h (by omega)
  | k + 1, m + 1, h => by
    have ih := utf_n k m (by omega)
    have e : utfStep (List.replicate (k + 1) 110) = some 1 := by
      rw [List.replicate_succ]
      exact tab_low (by decide)
    unfold utfN
    rw [List.replicate_succ] at e ⊢
    simp only [e, List.drop_succ_cons, List.drop_zero]
    exact ih
theorem long_data (k : Nat) : (longB k).data.toList = List.replicate k 110 := by simp [longB]
theorem long_name (k : Nat) : nameR (longB k) = true ↔ (1 ≤ k ∧ k ≤ 32) := by
  unfold nameR
  rw [long_data, longB_size]
  have h1 : (List.replicate k (110 : UInt8)).all nameByte = true := by
    rw [List.all_eq_true]
    intro x hx
    rw [List.eq_of_mem_replicate hx]
    decide
  have h2 : utfR (List.replicate k 110) = true := by unfold utfR; exact utf_n k _ (by simp)
  simp [h1, h2]
theorem name_len (k : Nat) : (encR (nameV k)).length = 12 + k := by have := int_enc 1; have := long_data k; simp [nameV, encR, encF, longB, leBytes_length]; omega
theorem name_enc (k : Nat) : encR (nameV k) = leByte 8 0 :: leByte 1 0 :: leByte k 0 :: (List.replicate k 110 ++ (encR (intV 1) ++ [])) := by
  simp [nameV, encR, encF, longB_size, long_data]
theorem deeps_name (k : Nat) (h : k ≤ 127) : Deeps (nameV k) (if k < 1 ∨ 32 < k then 4 else 0) := by
  have hl := name_len k
  have hm : manyR (nameV k) = false := by simp [nameV, manyR, manyL, manyF]
  have hd : depthR (nameV k) = 1 := by simp [nameV, depthR, depthL, depthF]
  refine ⟨?_, small_enc (by simp [nameV, V.high, highL, highF]) (by omega), by omega, fun hz => ?_, .mk _ _ _ _ _ (by omega) (fun i h => absurd h (by simp)) (fun i h => by
    obtain rfl : i = 0 := by simpa using h
    exact int_nums (by omega))⟩
  · split
    · rename_i h1
      refine good4 fun hf => ?_
      obtain ⟨-, -, -, h2⟩ := formed_parts hf
      have := (long_name k).1 (h2 (longB k, intV 1) (by simp)).1
      omega
    · rename_i h1
      refine good0 ((formed_iff _ _ _ _ _).2 ⟨by unfold Kind1; omega, ⟨by simp, by simp, by simp, fun h => by omega⟩, fun i h => absurd h (by simp), fun i h => ?_⟩) hm (by omega) (by omega)
      obtain rfl : i = 0 := by simpa using h
      exact ⟨(long_name k).2 (by omega), int_formed 1, fun j hj => absurd hj (by omega)⟩
  · split at hz
    · rename_i h1
      rw [if_pos h1]
      refine getV_err (by omega) ?_
      rw [name_enc, parse_cons]
      show body (some (parse 15)) 8 _ = _
      rw [body_eight, if_neg (by decide)]
      show (match fields (parse 15) 1 [] _ with | .error e => .error e | .ok (f, bs) => .ok (V.mk 8 0 [] [] f, bs) : Got) = _
      have e := leByte_zeroN (n := (k : Int)) (by omega) (by omega)
      have e2 : (leByte k 0).toNat = k := by omega
      have hn : nameR (longB k) ≠ true := fun hh => by have := (long_name k).1 hh; omega
      have hf : fieldName [] (leByte k 0 :: (List.replicate k 110 ++ (encR (intV 1) ++ []))) = .error 4 := by
        unfold fieldName
        dsimp only
        rw [if_neg (by rw [e2]; simp), if_neg]
        rintro ⟨h3, -⟩
        rw [e2, List.take_left' (by simp)] at h3
        exact hn h3
      rw [fields, hf]
    · exact absurd rfl hz
end Go.Proofs.YtljdfainnmpjnaaDoor
