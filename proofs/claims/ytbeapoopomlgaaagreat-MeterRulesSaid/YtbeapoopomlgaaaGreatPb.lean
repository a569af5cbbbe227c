/- Plain law: sums over assignments, and tables. -/
import Derived.Test.YtbeapoopomlgaaaGreatPa
namespace Go.Proofs.YtbeapoopomlgaaaGreat.Sx
open Go Go.Proofs

/-- the bits of a number, the highest first -/
def bitsY : Nat → Nat → List Bool
  | 0, _ => []
  | n + 1, y => (y / 2 ^ n % 2 == 1) :: bitsY n y
theorem bitsY_len : ∀ n y, (bitsY n y).length = n
  | 0, _ => rfl
  | n + 1, y => by simp [bitsY, bitsY_len n y]
theorem bitsY_get : ∀ {n y k : Nat}, k < n → (bitsY n y)[k]? = some (y / 2 ^ (n - 1 - k) % 2 == 1)
  | 0, y, k, h => by omega
  | n + 1, y, 0, h => by simp [bitsY]
  | n + 1, y, k + 1, h => by
    rw [bitsY, List.getElem?_cons_succ, bitsY_get (by omega)]
    have e : n - 1 - k = n + 1 - 1 - (k + 1) := by omega
    rw [e]
theorem bitsY_add : ∀ {n k y b : Nat}, n ≤ k → bitsY n (y + 2 ^ k * b) = bitsY n y
  | 0, k, y, b, _ => rfl
  | n + 1, k, y, b, h => by
    simp only [bitsY]
    rw [bitsY_add (by omega)]
    congr 2
    obtain ⟨d, rfl⟩ : ∃ d, k = n + 1 + d := ⟨k - (n + 1), by omega⟩
    have e : 2 ^ (n + 1 + d) * b = 2 ^ n * (2 * (2 ^ d * b)) := by
      rw [Nat.pow_add, Nat.pow_succ, Nat.mul_assoc, Nat.mul_assoc]
    rw [e, Nat.add_mul_div_left _ _ (Nat.two_pow_pos n)]
    omega
theorem bitsY_lo {n y : Nat} (h : y < 2 ^ n) : bitsY (n + 1) y = false :: bitsY n y := by
  simp only [bitsY]
  rw [Nat.div_eq_of_lt h]; rfl
theorem bitsY_hi {n y : Nat} (h : y < 2 ^ n) : bitsY (n + 1) (y + 2 ^ n) = true :: bitsY n y := by
  have h1 := bitsY_add (n := n) (k := n) (y := y) (b := 1) (Nat.le_refl _)
  rw [Nat.mul_one] at h1
  simp only [bitsY, h1]
  rw [Nat.add_div_right _ (Nat.two_pow_pos n), Nat.div_eq_of_lt h]; rfl

theorem range_two (n : Nat) : List.range (2 ^ (n + 1)) = List.range (2 ^ n) ++ (List.range (2 ^ n)).map (· + 2 ^ n) := by
  have e : 2 ^ (n + 1) = 2 ^ n + 2 ^ n := by rw [Nat.pow_succ]; omega
  rw [e, List.range_add]
  congr 1
  apply List.map_congr_left
  intro a _
  exact Nat.add_comm _ _

/-- a table of what is so of bits -/
def tabG (g : List Bool → Bool) (n : Nat) : List Bool := (List.range (2 ^ n)).map fun y => g (bitsY n y)
theorem tabG_len (g : List Bool → Bool) (n : Nat) : (tabG g n).length = 2 ^ n := by simp [tabG]
theorem tabG_succ (g : List Bool → Bool) (n : Nat) : tabG g (n + 1) = tabG (fun r => g (false :: r)) n ++ tabG (fun r => g (true :: r)) n := by
  unfold tabG
  rw [range_two, List.map_append, List.map_map]
  congr 1
  · apply List.map_congr_left
    intro y hy
    rw [bitsY_lo (List.mem_range.1 hy)]
  · apply List.map_congr_left
    intro y hy
    simp only [Function.comp]
    rw [bitsY_hi (List.mem_range.1 hy)]
theorem wsum_count : ∀ (n : Nat) (g : List Bool → Bool), wsum 1 g n = (tabG g n).countP id
  | 0, g => by
    simp only [wsum, tabG]
    cases h : g [] <;> simp [bitsY, h]
  | n + 1, g => by
    rw [tabG_succ, List.countP_append, ← wsum_count n, ← wsum_count n]
    simp only [wsum]; omega

/-! ### how many have so many 1s -/
def cntK (g : List Bool → Bool) : Nat → Nat → Nat
  | 0, k => if k = 0 ∧ g [] = true then 1 else 0
  | n + 1, 0 => cntK (fun r => g (false :: r)) n 0
  | n + 1, k + 1 => cntK (fun r => g (false :: r)) n (k + 1) + cntK (fun r => g (true :: r)) n k
theorem cntK_big : ∀ {n k : Nat} {g : List Bool → Bool}, n < k → cntK g n k = 0
  | 0, k, g, h => by simp only [cntK]; rw [if_neg (by omega)]
  | n + 1, 0, g, h => by omega
  | n + 1, k + 1, g, h => by simp only [cntK]; rw [cntK_big (by omega), cntK_big (by omega)]
theorem cntK_le : ∀ (n k : Nat) (g : List Bool → Bool), cntK g n k ≤ 2 ^ n
  | 0, k, g => by simp only [cntK]; split <;> simp
  | n + 1, 0, g => by
    have := cntK_le n 0 fun r => g (false :: r)
    simp only [cntK, Nat.pow_succ]; omega
  | n + 1, k + 1, g => by
    have h1 := cntK_le n (k + 1) fun r => g (false :: r)
    have h2 := cntK_le n k fun r => g (true :: r)
    simp only [cntK, Nat.pow_succ]; omega
/-- a polynomial's value -/
def polyE (c : Nat) : (Nat → Nat) → Nat → Nat
  | _, 0 => 0
  | F, m + 1 => F 0 + c * polyE c (fun k => F (k + 1)) m
theorem polyE_add (c : Nat) : ∀ (m : Nat) (F F' : Nat → Nat), polyE c (fun k => F k + F' k) m = polyE c F m + polyE c F' m
  | 0, _, _ => rfl
  | m + 1, F, F' => by
    simp only [polyE]
    rw [polyE_add c m (fun k => F (k + 1)) (fun k => F' (k + 1)), Nat.mul_add]
    omega
theorem polyE_last (c : Nat) : ∀ (m : Nat) (F : Nat → Nat), F m = 0 → polyE c F (m + 1) = polyE c F m
  | 0, F, h => by simp [polyE, h]
  | m + 1, F, h => by
    have e : polyE c F (m + 1 + 1) = F 0 + c * polyE c (fun k => F (k + 1)) (m + 1) := rfl
    rw [e, polyE_last c m (fun k => F (k + 1)) h]
    rfl
theorem wsum_poly (c : Nat) : ∀ (n : Nat) (g : List Bool → Bool), wsum c g n = polyE c (cntK g n) (n + 1)
  | 0, g => by
    simp only [wsum, polyE, cntK]
    cases h : g [] <;> simp
  | n + 1, g => by
    simp only [wsum]
    rw [wsum_poly c n, wsum_poly c n]
    have e1 : polyE c (cntK (fun r => g (false :: r)) n) (n + 1) = polyE c (cntK (fun r => g (false :: r)) n) (n + 1 + 1) := (polyE_last c (n + 1) _ (cntK_big (by omega))).symm
    have e2 : polyE c (cntK g (n + 1)) (n + 1 + 1) = cntK (fun r => g (false :: r)) n 0 + c * polyE c (fun k => cntK (fun r => g (false :: r)) n (k + 1) + cntK (fun r => g (true :: r)) n k) (n + 1) := rfl
    rw [e1, e2, polyE_add]
    have e3 : polyE c (cntK (fun r => g (false :: r)) n) (n + 1 + 1) = cntK (fun r => g (false :: r)) n 0 + c * polyE c (fun k => cntK (fun r => g (false :: r)) n (k + 1)) (n + 1) := rfl
    rw [e3, Nat.mul_add]
    omega
theorem polyE_digit {c : Nat} (hc : 0 < c) : ∀ (j m : Nat) (F : Nat → Nat), (∀ k, F k < c) → j < m → polyE c F m / c ^ j % c = F j
  | 0, m + 1, F, hF, _ => by
    simp only [polyE, Nat.pow_zero, Nat.div_one]
    rw [Nat.add_mul_mod_self_left, Nat.mod_eq_of_lt (hF 0)]
  | j + 1, m + 1, F, hF, h => by
    simp only [polyE]
    rw [Nat.pow_succ, Nat.mul_comm (c ^ j) c, ← Nat.div_div_eq_div_mul, Nat.add_mul_div_left _ _ hc, Nat.div_eq_of_lt (hF 0), Nat.zero_add]
    exact polyE_digit hc j m (fun k => F (k + 1)) (fun k => hF (k + 1)) (by omega)
  | 0, 0, _, _, h => by omega
  | j + 1, 0, _, _, h => by omega

/-- how many 1s a number has among so many bits -/
def popY : Nat → Nat → Nat
  | 0, _ => 0
  | n + 1, y => popY n y + y / 2 ^ n % 2
theorem popY_add : ∀ {n k y b : Nat}, n ≤ k → popY n (y + 2 ^ k * b) = popY n y
  | 0, k, y, b, _ => rfl
  | n + 1, k, y, b, h => by
    simp only [popY]
    rw [popY_add (by omega)]
    congr 1
    obtain ⟨d, rfl⟩ : ∃ d, k = n + 1 + d := ⟨k - (n + 1), by omega⟩
    have e : 2 ^ (n + 1 + d) * b = 2 ^ n * (2 * (2 ^ d * b)) := by
      rw [Nat.pow_add, Nat.pow_succ, Nat.mul_assoc, Nat.mul_assoc]
    rw [e, Nat.add_mul_div_left _ _ (Nat.two_pow_pos n)]
    omega
theorem popY_lo {n y : Nat} (h : y < 2 ^ n) : popY (n + 1) y = popY n y := by
  simp only [popY]
  rw [Nat.div_eq_of_lt h]; rfl
theorem popY_hi {n y : Nat} (h : y < 2 ^ n) : popY (n + 1) (y + 2 ^ n) = popY n y + 1 := by
  have h1 := popY_add (n := n) (k := n) (y := y) (b := 1) (Nat.le_refl _)
  rw [Nat.mul_one] at h1
  simp only [popY, h1]
  rw [Nat.add_div_right _ (Nat.two_pow_pos n), Nat.div_eq_of_lt h]
theorem popY_le : ∀ n y, popY n y ≤ n
  | 0, _ => Nat.le_refl _
  | n + 1, y => by
    have := popY_le n y
    simp only [popY]; omega
/-- of a table, those of so many 1s -/
def cntT (t : List Bool) (n k m : Nat) : Nat := (List.range m).countP fun y => t[y]?.getD false && popY n y == k
theorem cntT_tab : ∀ (n k : Nat) (g : List Bool → Bool), cntT (tabG g n) n k (2 ^ n) = cntK g n k
  | 0, k, g => by
    simp only [cntT, cntK, tabG, Nat.pow_zero, List.range_one, List.map_cons, List.map_nil, List.countP_cons, List.countP_nil, popY, bitsY]
    cases h : g [] <;> cases k <;> simp
  | n + 1, k, g => by
    unfold cntT
    rw [range_two, List.countP_append, List.countP_map, tabG_succ]
    have l0 := tabG_len (fun r => g (false :: r)) n
    have e1 : (List.range (2 ^ n)).countP (fun y => (tabG (fun r => g (false :: r)) n ++ tabG (fun r => g (true :: r)) n)[y]?.getD false && popY (n + 1) y == k) = cntT (tabG (fun r => g (false :: r)) n) n k (2 ^ n) := by
      unfold cntT
      apply List.countP_congr
      intro y hy
      have hy := List.mem_range.1 hy
      rw [List.getElem?_append_left (by omega), popY_lo hy]
    have e2 : (List.range (2 ^ n)).countP ((fun y => (tabG (fun r => g (false :: r)) n ++ tabG (fun r => g (true :: r)) n)[y]?.getD false && popY (n + 1) y == k) ∘ (· + 2 ^ n)) = match k with
        | 0 => 0
        | k + 1 => cntT (tabG (fun r => g (true :: r)) n) n k (2 ^ n) := by
      have hc : ∀ y ∈ List.range (2 ^ n), (((fun y => (tabG (fun r => g (false :: r)) n ++ tabG (fun r => g (true :: r)) n)[y]?.getD false && popY (n + 1) y == k) ∘ (· + 2 ^ n)) y = true ↔ (fun y => (tabG (fun r => g (true :: r)) n)[y]?.getD false && popY n y + 1 == k) y = true) := by
        intro y hy
        have hy := List.mem_range.1 hy
        simp only [Function.comp]
        rw [List.getElem?_append_right (by omega), popY_hi hy]
        have e : y + 2 ^ n - (tabG (fun r => g (false :: r)) n).length = y := by omega
        rw [e]
      rw [List.countP_congr hc]
      cases k with
      | zero =>
        rw [List.countP_eq_zero]
        intro y _
        simp
      | succ k =>
        unfold cntT
        apply List.countP_congr
        intro y _
        simp
    rw [e1, e2, cntT_tab n k]
    cases k with
    | zero => simp [cntK]
    | succ k => simp only [cntK]; rw [cntT_tab n k]
theorem cntT_snoc (t : List Bool) (n k m : Nat) : cntT t n k (m + 1) = cntT t n k m + if (t[m]?.getD false && popY n m == k) then 1 else 0 := by
  unfold cntT
  rw [List.range_succ, List.countP_append, List.countP_singleton]
end Go.Proofs.YtbeapoopomlgaaaGreat.Sx
