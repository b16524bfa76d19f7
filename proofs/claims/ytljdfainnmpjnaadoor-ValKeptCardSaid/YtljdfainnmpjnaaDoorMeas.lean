/- The program's measures of a value: depth, most, size. -/
import Derived.Test.YtljdfainnmpjnaaDoorDepth
import Derived.Test.YtljdfainnmpjnaaDoorItems
import Derived.Deep.RegionHeld3
set_option linter.unusedVariables false
namespace Go.Proofs.YtljdfainnmpjnaaDoor
open Go.RowKit

/-- An element of a row of values, opened, in a later world. -/
theorem elem5 {w w' : World} {A : Option Addr} {l : List V} {L : Nat → List Value} (hL : Row w (Old w) A 5 l.length L) (hLs : ∀ i (h : i < l.length), Rep0 w l[i] (L i)) (hb : Below w.heap.size w w') {i : Nat} (hi : i < l.length) :
    ∃ (b o : Nat) (k n : Int) (AB AL AF : Option Addr) (nb cb nl cl nf cf : Nat), A = some ⟨b, o, none⟩ ∧ w'.cell? ⟨b, o + i * 5, none⟩ = some (.int .i64 k) ∧ w'.cell? ⟨b, o + i * 5 + 1, none⟩ = some (.int .u64 n) ∧
      w'.cell? ⟨b, o + i * 5 + 2, none⟩ = some (.slice AB nb cb) ∧ w'.cell? ⟨b, o + i * 5 + 3, none⟩ = some (.slice AL nl cl) ∧ w'.cell? ⟨b, o + i * 5 + 4, none⟩ = some (.slice AF nf cf) ∧
      Rep0 w' l[i] [.int .i64 k, .int .u64 n, .slice AB nb cb, .slice AL nl cl, .slice AF nf cf] := by
  have hLw := hL.kept (Keeps.of_below hb _ fun _ _ h => h)
  obtain ⟨bb, o, x0, x1, x2, x3, x4, hAd, hLi, e0, e1, e2, e3, e4⟩ := hLw.at5 hi
  have hR := Rep0.below hb (hLs i hi)
  rw [hLi] at hR
  generalize l[i] = v at hR ⊢
  obtain ⟨k, n, b, l', f⟩ := v
  obtain ⟨AB, AL, AF, cb, cl, cf, L', F', he, -⟩ := hR.inv
  cases he
  exact ⟨bb, o, k, n, AB, AL, AF, _, cb, _, cl, _, cf, hAd, e0, e1, e2, e3, e4, hR⟩
theorem elem6 {w w' : World} {A : Option Addr} {f : List (ByteArray × V)} {F : Nat → List Value} (hF : Row w (Old w) A 6 f.length (fun i => .string (f.getD i default).1 :: F i)) (hFs : ∀ i (h : i < f.length), Rep0 w (f[i]).2 (F i)) (hb : Below w.heap.size w w') {i : Nat} (hi : i < f.length) :
    ∃ (b o : Nat) (k n : Int) (AB AL AF : Option Addr) (nb cb nl cl nf cf : Nat), A = some ⟨b, o, none⟩ ∧ w'.cell? ⟨b, o + i * 6, none⟩ = some (.string (f[i]).1) ∧ w'.cell? ⟨b, o + i * 6 + 1, none⟩ = some (.int .i64 k) ∧ w'.cell? ⟨b, o + i * 6 + 2, none⟩ = some (.int .u64 n) ∧
      w'.cell? ⟨b, o + i * 6 + 3, none⟩ = some (.slice AB nb cb) ∧ w'.cell? ⟨b, o + i * 6 + 4, none⟩ = some (.slice AL nl cl) ∧ w'.cell? ⟨b, o + i * 6 + 5, none⟩ = some (.slice AF nf cf) ∧
      Rep0 w' (f[i]).2 [.int .i64 k, .int .u64 n, .slice AB nb cb, .slice AL nl cl, .slice AF nf cf] := by
  have hLw := hF.kept (Keeps.of_below hb _ fun _ _ h => h)
  obtain ⟨bb, o, s, x0, x1, x2, x3, x4, hAd, hLi, e, e0, e1, e2, e3, e4⟩ := hLw.at6 hi
  rw [getD_at hi] at hLi
  obtain ⟨rfl, hLi2⟩ := List.cons.inj hLi
  have hR := Rep0.below hb (hFs i hi)
  rw [hLi2] at hR
  generalize (f[i]).2 = v at hR ⊢
  obtain ⟨k, n, b, l', f'⟩ := v
  obtain ⟨AB, AL, AF, cb, cl, cf, L', F', he, -⟩ := hR.inv
  cases he
  exact ⟨bb, o, k, n, AB, AL, AF, _, cb, _, cl, _, cf, hAd, e, e0, e1, e2, e3, e4, hR⟩

theorem elem5S {w w' : World} {S : Nat → Prop} {A : Option Addr} {l : List V} {L : Nat → List Value} (hL : Row w S A 5 l.length L) (hLs : ∀ i (h : i < l.length), Rep w S l[i] (L i)) (hb : Keeps S w w') {i : Nat} (hi : i < l.length) :
    ∃ (b o : Nat) (k n : Int) (AB AL AF : Option Addr) (nb cb nl cl nf cf : Nat), A = some ⟨b, o, none⟩ ∧ w'.cell? ⟨b, o + i * 5, none⟩ = some (.int .i64 k) ∧ w'.cell? ⟨b, o + i * 5 + 1, none⟩ = some (.int .u64 n) ∧
      w'.cell? ⟨b, o + i * 5 + 2, none⟩ = some (.slice AB nb cb) ∧ w'.cell? ⟨b, o + i * 5 + 3, none⟩ = some (.slice AL nl cl) ∧ w'.cell? ⟨b, o + i * 5 + 4, none⟩ = some (.slice AF nf cf) ∧
      Rep w' S l[i] [.int .i64 k, .int .u64 n, .slice AB nb cb, .slice AL nl cl, .slice AF nf cf] := by
  have hLw := hL.kept hb
  obtain ⟨bb, o, x0, x1, x2, x3, x4, hAd, hLi, e0, e1, e2, e3, e4⟩ := hLw.at5 hi
  have hR := (hLs i hi).kept hb
  rw [hLi] at hR
  generalize l[i] = v at hR ⊢
  obtain ⟨k, n, b, l', f⟩ := v
  obtain ⟨AB, AL, AF, cb, cl, cf, L', F', he, -⟩ := hR.inv
  cases he
  exact ⟨bb, o, k, n, AB, AL, AF, _, cb, _, cl, _, cf, hAd, e0, e1, e2, e3, e4, hR⟩
theorem elem6S {w w' : World} {S : Nat → Prop} {A : Option Addr} {f : List (ByteArray × V)} {F : Nat → List Value} (hF : Row w S A 6 f.length (fun i => .string (f.getD i default).1 :: F i)) (hFs : ∀ i (h : i < f.length), Rep w S (f[i]).2 (F i)) (hb : Keeps S w w') {i : Nat} (hi : i < f.length) :
    ∃ (b o : Nat) (k n : Int) (AB AL AF : Option Addr) (nb cb nl cl nf cf : Nat), A = some ⟨b, o, none⟩ ∧ w'.cell? ⟨b, o + i * 6, none⟩ = some (.string (f[i]).1) ∧ w'.cell? ⟨b, o + i * 6 + 1, none⟩ = some (.int .i64 k) ∧ w'.cell? ⟨b, o + i * 6 + 2, none⟩ = some (.int .u64 n) ∧
      w'.cell? ⟨b, o + i * 6 + 3, none⟩ = some (.slice AB nb cb) ∧ w'.cell? ⟨b, o + i * 6 + 4, none⟩ = some (.slice AL nl cl) ∧ w'.cell? ⟨b, o + i * 6 + 5, none⟩ = some (.slice AF nf cf) ∧
      Rep w' S (f[i]).2 [.int .i64 k, .int .u64 n, .slice AB nb cb, .slice AL nl cl, .slice AF nf cf] := by
  have hLw := hF.kept hb
  obtain ⟨bb, o, s, x0, x1, x2, x3, x4, hAd, hLi, e, e0, e1, e2, e3, e4⟩ := hLw.at6 hi
  rw [getD_at hi] at hLi
  obtain ⟨rfl, hLi2⟩ := List.cons.inj hLi
  have hR := (hFs i hi).kept hb
  rw [hLi2] at hR
  generalize (f[i]).2 = v at hR ⊢
  obtain ⟨k, n, b, l', f'⟩ := v
  obtain ⟨AB, AL, AF, cb, cl, cf, L', F', he, -⟩ := hR.inv
  cases he
  exact ⟨bb, o, k, n, AB, AL, AF, _, cb, _, cl, _, cf, hAd, e, e0, e1, e2, e3, e4, hR⟩


/-! ### depth -/
mutual
def depthP : V → Int
  | .mk k _ _ l f => if k = 7 ∨ k = 8 then max (depthPL l) (depthPF f) + 1 else 0
def depthPL : List V → Int
  | [] => 0
  | v :: r => max (depthP v) (depthPL r)
def depthPF : List (ByteArray × V) → Int
  | [] => 0
  | (_, v) :: r => max (depthP v) (depthPF r)
end
theorem depthPL_take {l : List V} {i : Nat} (h : i < l.length) : depthPL (l.take (i + 1)) = max (depthPL (l.take i)) (depthP l[i]) := by
  induction l generalizing i with
  | nil => cases h
  | cons v r ih =>
    cases i with
    | zero => simp [depthPL, Int.max_comm]
    | succ i =>
      have := ih (i := i) (by simpa using h)
      simp only [List.take_succ_cons, depthPL, List.getElem_cons_succ, this]
      omega
theorem depthPF_take {l : List (ByteArray × V)} {i : Nat} (h : i < l.length) : depthPF (l.take (i + 1)) = max (depthPF (l.take i)) (depthP (l[i]).2) := by
  induction l generalizing i with
  | nil => cases h
  | cons v r ih =>
    obtain ⟨s, v⟩ := v
    cases i with
    | zero => simp [depthPF, Int.max_comm]
    | succ i =>
      have := ih (i := i) (by simpa using h)
      simp only [List.take_succ_cons, depthPF, List.getElem_cons_succ, this]
      omega
theorem depthPL_nonneg : ∀ l, 0 ≤ depthPL l
  | [] => by simp [depthPL]
  | v :: r => by have := depthPL_nonneg r; simp only [depthPL]; omega
theorem depthPF_nonneg : ∀ l, 0 ≤ depthPF l
  | [] => by simp [depthPF]
  | (_, v) :: r => by have := depthPF_nonneg r; simp only [depthPF]; omega
theorem depthP_high (v : V) : depthP v ≤ v.high := by
  induction v using V.ind0 with
  | h k n b l f ihl ihf =>
    have a : depthPL l ≤ highL l := by
      clear ihf
      induction l with
      | nil => simp [depthPL, highL]
      | cons v r ih =>
        have a := ihl v (by simp)
        have b := ih (fun x hx => ihl x (by simp [hx]))
        simp only [depthPL, highL] at *; omega
    have b : depthPF f ≤ highF f := by
      clear ihl
      induction f with
      | nil => simp [depthPF, highF]
      | cons v r ih =>
        have a := ihf v (by simp)
        have b := ih (fun x hx => ihf x (by simp [hx]))
        obtain ⟨s, v⟩ := v
        simp only [depthPF, highF] at *; omega
    simp only [depthP, V.high]
    split <;> omega

set_option maxRecDepth 100000 in
set_option maxHeartbeats 2000000 in
theorem depthP_any (v : V) : ∀ (cs : List Value) (w : World), Rep0 w v cs → v.high ≤ 1000000 →
    Calls Tryd.prog 51 #[.agg cs.toArray] w fun e w' => e = .returned (.int .i64 (depthP v)) ∧ Below w.heap.size w w' := by
  induction v using V.ind with
  | h k n b l f ihl ihf =>
  intro cs w h hh
  obtain ⟨AB, AL, AF, cb, cl, cf, L, F, rfl, -, -, hb, hB, hl, hL, hLs, hf, hF, hFs, hfn⟩ := h.inv
  clear h hB hb
  obtain ⟨X, hX⟩ : ∃ X, Obj.cells #[Value.int .i64 k, .int .u64 n, .slice AB b.length cb, .slice AL l.length cl, .slice AF f.length cf] 27 = X := ⟨_, rfl⟩
  have HX := Lib.hid hX
  clear hX
  obtain ⟨hl1, hl2, hl3⟩ := hl
  obtain ⟨hf1, hf2, hf3⟩ := hf
  obtain ⟨R, hR⟩ : ∃ R, depthP (.mk k n b l f) = R := ⟨_, rfl⟩
  have hRh : R ≤ 1000000 := by have := depthP_high (.mk k n b l f); rw [hR] at this; omega
  rw [hR]
  rw [depthP] at hR
  have hhl : highL l ≤ 1000000 := by simp only [V.high] at hh; omega
  have hhf : highF f ≤ 1000000 := by simp only [V.high] at hh; omega
  clear hh
  by_cases hk : k = 7 ∨ k = 8
  case neg =>
    rw [if_neg hk] at hR
    subst hR
    have k7 : (k == 7) = false := by simp; omega
    have k8 : (k == 8) = false := by simp; omega
    have k7' : (k != 7) = true := by simp; omega
    have k8' : (k != 8) = true := by simp; omega
    clear hk
    go_enter Tryd.func51, Tryd.ntmps51
    go_wp2_with fail
    go_ret
    exact ⟨rfl, (Below.refl _ _).alloc (Nat.le_refl _) _⟩
  rw [if_pos hk] at hR
  have HR := Lib.hid hR
  clear hR
  have hkz : ∀ W : World, True := fun _ => trivial
  rcases hk with rfl | rfl
  all_goals
    go_enter Tryd.func51, Tryd.ntmps51
    go_wp2_with fail
    rw [HX.out]
    go_loopg [3, 19] l.length (fun g t3 t4 wr => ∃ (i : Nat) (y : Int), i ≤ l.length ∧ t4 = .int .i64 i ∧ t3 = .int .i64 y ∧ y = depthPL (l.take i) ∧ l.length ≤ i + g ∧ Below (w.heap.size + 1) (w.alloc X) wr)
    case atStart => exact ⟨0, 0, by omega, rfl, rfl, rfl, by omega, Below.refl _ _⟩
    case round =>
      obtain ⟨i, y, hi, rfl, rfl, hw, hg, hbw⟩ := hrel
      have HW := Lib.hid hw
      clear hw
      have hbl := below_of_alloc hbw
      have hblk := blk_alloc hbw
      rw [← HX.out] at hblk
      have c4 := cell_blk hblk 4
      clear hblk
      by_cases hlt : i < l.length
      · obtain ⟨bb, o, vk, vn, A1, A2, A3, n1, m1, n2, m2, n3, m3, rfl, e0, e1, e2, e3, e4, hRi⟩ := elem5 hL hLs hbl hlt
        have hRa := Rep0.below (below_of_alloc (Below.refl (wr.heap.size + 1) (wr.alloc (.cells #[.int .i64 vk, .int .u64 vn, .slice A1 n1 m1, .slice A2 n2 m2, .slice A3 n3 m3] 27)))) hRi
        go_wp2_with fail
        refine (ihl i hlt _ _ hRa (by have := highL_ge (List.getElem_mem hlt); omega)).mono ?_
        rintro e w1 ⟨rfl, hb1⟩
        have hb2 := below_of_alloc (hb1.mono (Nat.le_of_eq (by simp)))
        clear c4
        go_wp2_with fail
        all_goals
          go_roundg (gk - 1)
          case measure => omega
          case rel =>
            refine ⟨i + 1, _, by omega, by go_num, rfl, ?_, by omega, below_alloc_trans hbw hb2⟩
            have hw := HW.out
            rw [depthPL_take hlt]
            omega
      · have hw := HW.out
        rw [List.take_of_length_le (by omega)] at hw
        have HW2 := Lib.hid hw
        clear hw HW
        obtain ⟨wo, hwo⟩ : ∃ wo, wo = wr := ⟨_, rfl⟩
        subst hwo
        go_wp2_with fail
        clear c4
        go_loopg [3, 31] f.length (fun g t3 t4 wr => ∃ (i : Nat) (y : Int), i ≤ f.length ∧ t4 = .int .i64 i ∧ t3 = .int .i64 y ∧ y = max (depthPL l) (depthPF (f.take i)) ∧ f.length ≤ i + g ∧ Below (w.heap.size + 1) (w.alloc X) wr)
        case atStart => exact ⟨0, y, by omega, rfl, rfl, by have := depthPL_nonneg l; rw [HW2.out, List.take_zero, depthPF]; omega, by omega, hbw⟩
        case round =>
          clear hbw HW2 hbl
          obtain ⟨i, y, hi, rfl, rfl, hw, hg, hbw⟩ := hrel
          have HW := Lib.hid hw
          clear hw
          have hbl := below_of_alloc hbw
          by_cases hlt : i < f.length
          · obtain ⟨bb, o, vk, vn, A1, A2, A3, n1, m1, n2, m2, n3, m3, rfl, e, e0, e1, e2, e3, e4, hRi⟩ := elem6 hF hFs hbl hlt
            have hRa := Rep0.below (below_of_alloc (Below.refl (wr.heap.size + 1) (wr.alloc (.cells #[.string (f[i]).1, .int .i64 vk, .int .u64 vn, .slice A1 n1 m1, .slice A2 n2 m2, .slice A3 n3 m3] 59)))) hRi
            go_wp2_with fail
            refine (ihf i hlt _ _ hRa (by have := highF_ge (List.getElem_mem hlt); omega)).mono ?_
            rintro e w1 ⟨rfl, hb1⟩
            have hb2 := below_of_alloc (hb1.mono (Nat.le_of_eq (by simp)))
            go_wp2_with fail
            all_goals
              go_roundg (gk - 1)
              case measure => omega
              case rel =>
                refine ⟨i + 1, _, by omega, by go_num, rfl, ?_, by omega, below_alloc_trans hbw hb2⟩
                have hw := HW.out
                rw [depthPF_take hlt]
                omega
          · have hw := HW.out
            rw [List.take_of_length_le (by omega)] at hw
            have hr := HR.out
            rw [← hw] at hr
            have hy0 := depthPL_nonneg l
            have hy : 0 ≤ y := by omega
            have hy2 : y + 1 ≤ 1000000 := by omega
            subst hr
            clear hw HW HR
            go_wp2_with fail
            go_ret
            exact ⟨rfl, below_of_alloc hbw⟩
/-! ### most -/
mutual
def mostR : V → Int
  | .mk _ _ _ l f => max (max (max (l.length : Int) f.length) (mostL l)) (mostF f)
def mostL : List V → Int
  | [] => 0
  | v :: r => max (mostR v) (mostL r)
def mostF : List (ByteArray × V) → Int
  | [] => 0
  | (_, v) :: r => max (mostR v) (mostF r)
end
theorem mostL_take {l : List V} {i : Nat} (h : i < l.length) : mostL (l.take (i + 1)) = max (mostL (l.take i)) (mostR l[i]) := by
  induction l generalizing i with
  | nil => cases h
  | cons v r ih =>
    cases i with
    | zero => simp [mostL, Int.max_comm]
    | succ i =>
      have := ih (i := i) (by simpa using h)
      simp only [List.take_succ_cons, mostL, List.getElem_cons_succ, this]
      omega
theorem mostF_take {l : List (ByteArray × V)} {i : Nat} (h : i < l.length) : mostF (l.take (i + 1)) = max (mostF (l.take i)) (mostR (l[i]).2) := by
  induction l generalizing i with
  | nil => cases h
  | cons v r ih =>
    obtain ⟨s, v⟩ := v
    cases i with
    | zero => simp [mostF, Int.max_comm]
    | succ i =>
      have := ih (i := i) (by simpa using h)
      simp only [List.take_succ_cons, mostF, List.getElem_cons_succ, this]
      omega
theorem mostL_nonneg : ∀ l, 0 ≤ mostL l
  | [] => by simp [mostL]
  | v :: r => by have := mostL_nonneg r; simp only [mostL]; omega
theorem mostF_nonneg : ∀ l, 0 ≤ mostF l
  | [] => by simp [mostF]
  | (_, v) :: r => by have := mostF_nonneg r; simp only [mostF]; omega
/-- most tells what many asks. -/
theorem mostR_many (v : V) : manyR v = decide (64 < mostR v) := by
  induction v using V.ind0 with
  | h k n b l f ihl ihf =>
    have a : manyL l = decide (64 < mostL l) := by
      clear ihf
      induction l with
      | nil => simp [manyL, mostL]
      | cons v r ih =>
        have a := ihl v (by simp)
        have b := ih (fun x hx => ihl x (by simp [hx]))
        rw [manyL, a, b, mostL, ← Bool.decide_or]
        congr 1
        simp only [eq_iff_iff]
        omega
    have b : manyF f = decide (64 < mostF f) := by
      clear ihl
      induction f with
      | nil => simp [manyF, mostF]
      | cons v r ih =>
        have a := ihf v (by simp)
        have b := ih (fun x hx => ihf x (by simp [hx]))
        obtain ⟨s, v⟩ := v
        dsimp only at a
        rw [manyF, a, b, mostF, ← Bool.decide_or]
        congr 1
        simp only [eq_iff_iff]
        omega
    rw [manyR, a, b, mostR, ← Bool.decide_or, ← Bool.decide_or, ← Bool.decide_or]
    congr 1
    simp only [eq_iff_iff]
    omega

set_option maxRecDepth 100000 in
set_option maxHeartbeats 2000000 in
theorem most_any (v : V) : ∀ (cs : List Value) (w : World), Rep0 w v cs →
    Calls Tryd.prog 50 #[.agg cs.toArray] w fun e w' => e = .returned (.int .i64 (mostR v)) ∧ Below w.heap.size w w' := by
  induction v using V.ind with
  | h k n b l f ihl ihf =>
  intro cs w h
  obtain ⟨AB, AL, AF, cb, cl, cf, L, F, rfl, -, -, hb, hB, hl, hL, hLs, hf, hF, hFs, hfn⟩ := h.inv
  clear h hB hb
  obtain ⟨X, hX⟩ : ∃ X, Obj.cells #[Value.int .i64 k, .int .u64 n, .slice AB b.length cb, .slice AL l.length cl, .slice AF f.length cf] 27 = X := ⟨_, rfl⟩
  have HX := Lib.hid hX
  clear hX
  obtain ⟨hl1, hl2, hl3⟩ := hl
  obtain ⟨hf1, hf2, hf3⟩ := hf
  obtain ⟨R, hR⟩ : ∃ R, mostR (.mk k n b l f) = R := ⟨_, rfl⟩
  rw [hR]
  rw [mostR] at hR
  have HR := Lib.hid hR
  clear hR
  go_enter Tryd.func50, Tryd.ntmps50
  go_wp2_with fail
  all_goals
    rw [HX.out]
    go_loopg [3, 18] l.length (fun g t3 t4 wr => ∃ (i : Nat) (y : Int), i ≤ l.length ∧ t4 = .int .i64 i ∧ t3 = .int .i64 y ∧ y = max (max (l.length : Int) f.length) (mostL (l.take i)) ∧ l.length ≤ i + g ∧ Below (w.heap.size + 1) (w.alloc X) wr)
    case atStart => exact ⟨0, _, by omega, rfl, rfl, by rw [List.take_zero, mostL]; omega, by omega, Below.refl _ _⟩
    case round =>
      obtain ⟨i, y, hi, rfl, rfl, hw, hg, hbw⟩ := hrel
      have HW := Lib.hid hw
      clear hw
      have hbl := below_of_alloc hbw
      have hblk := blk_alloc hbw
      rw [← HX.out] at hblk
      have c4 := cell_blk hblk 4
      clear hblk
      by_cases hlt : i < l.length
      · obtain ⟨bb, o, vk, vn, A1, A2, A3, n1, m1, n2, m2, n3, m3, rfl, e0, e1, e2, e3, e4, hRi⟩ := elem5 hL hLs hbl hlt
        have hRa := Rep0.below (below_of_alloc (Below.refl (wr.heap.size + 1) (wr.alloc (.cells #[.int .i64 vk, .int .u64 vn, .slice A1 n1 m1, .slice A2 n2 m2, .slice A3 n3 m3] 27)))) hRi
        go_wp2_with fail
        refine (ihl i hlt _ _ hRa).mono ?_
        rintro e w1 ⟨rfl, hb1⟩
        have hb2 := below_of_alloc (hb1.mono (Nat.le_of_eq (by simp)))
        clear c4
        go_wp2_with fail
        all_goals
          go_roundg (gk - 1)
          case measure => omega
          case rel =>
            refine ⟨i + 1, _, by omega, by go_num, rfl, ?_, by omega, below_alloc_trans hbw hb2⟩
            have hw := HW.out
            rw [mostL_take hlt]
            omega
      · have hw := HW.out
        rw [List.take_of_length_le (by omega)] at hw
        have HW2 := Lib.hid hw
        clear hw HW
        obtain ⟨wo, hwo⟩ : ∃ wo, wo = wr := ⟨_, rfl⟩
        subst hwo
        go_wp2_with fail
        clear c4
        go_loopg [3, 30] f.length (fun g t3 t4 wr => ∃ (i : Nat) (y : Int), i ≤ f.length ∧ t4 = .int .i64 i ∧ t3 = .int .i64 y ∧ y = max (max (max (l.length : Int) f.length) (mostL l)) (mostF (f.take i)) ∧ f.length ≤ i + g ∧ Below (w.heap.size + 1) (w.alloc X) wr)
        case atStart => exact ⟨0, y, by omega, rfl, rfl, by have := mostL_nonneg l; rw [HW2.out, List.take_zero, mostF]; omega, by omega, hbw⟩
        case round =>
          clear hbw HW2 hbl
          obtain ⟨i, y, hi, rfl, rfl, hw, hg, hbw⟩ := hrel
          have HW := Lib.hid hw
          clear hw
          have hbl := below_of_alloc hbw
          by_cases hlt : i < f.length
          · obtain ⟨bb, o, vk, vn, A1, A2, A3, n1, m1, n2, m2, n3, m3, rfl, e, e0, e1, e2, e3, e4, hRi⟩ := elem6 hF hFs hbl hlt
            have hRa := Rep0.below (below_of_alloc (Below.refl (wr.heap.size + 1) (wr.alloc (.cells #[.string (f[i]).1, .int .i64 vk, .int .u64 vn, .slice A1 n1 m1, .slice A2 n2 m2, .slice A3 n3 m3] 59)))) hRi
            go_wp2_with fail
            refine (ihf i hlt _ _ hRa).mono ?_
            rintro e w1 ⟨rfl, hb1⟩
            have hb2 := below_of_alloc (hb1.mono (Nat.le_of_eq (by simp)))
            go_wp2_with fail
            all_goals
              go_roundg (gk - 1)
              case measure => omega
              case rel =>
                refine ⟨i + 1, _, by omega, by go_num, rfl, ?_, by omega, below_alloc_trans hbw hb2⟩
                have hw := HW.out
                rw [mostF_take hlt]
                omega
          · have hw := HW.out
            rw [List.take_of_length_le (by omega)] at hw
            have hr := HR.out
            rw [← hw] at hr
            subst hr
            clear hw HW HR
            go_wp2_with fail
            go_ret
            exact ⟨rfl, below_of_alloc hbw⟩
end Go.Proofs.YtljdfainnmpjnaaDoor
