/- Plain law: what assignments weigh together, node by node and assignment by assignment. -/
import Derived.Test.YtbeapoopomlgaaaGreatCg
namespace Go.Proofs.YtbeapoopomlgaaaGreat.Sx
open Go Go.Proofs

/-! ### sums over lists of bits -/
def wsum (c : Nat) (g : List Bool → Bool) : Nat → Nat
  | 0 => if g [] then 1 else 0
  | m + 1 => wsum c (fun r => g (false :: r)) m + c * wsum c (fun r => g (true :: r)) m
theorem wsum_no (c : Nat) : ∀ m, wsum c (fun _ => false) m = 0
  | 0 => rfl
  | m + 1 => by simp only [wsum, wsum_no c m]; omega
theorem wsum_congr {c : Nat} : ∀ {m : Nat} {g g' : List Bool → Bool}, (∀ bs, bs.length = m → g bs = g' bs) → wsum c g m = wsum c g' m
  | 0, g, g', h => by simp only [wsum, h [] rfl]
  | m + 1, g, g', h => by
    simp only [wsum]
    rw [wsum_congr (m := m) (g' := fun r => g' (false :: r)) fun bs hb => h _ (by simp [hb]), wsum_congr (m := m) (g' := fun r => g' (true :: r)) fun bs hb => h _ (by simp [hb])]
theorem wsum_any (c : Nat) (g : List Bool → Bool) : ∀ k m, wsum c (fun bs => g (bs.drop k)) (k + m) = (1 + c) ^ k * wsum c g m
  | 0, m => by simp
  | k + 1, m => by
    have e : k + 1 + m = (k + m) + 1 := by omega
    rw [e]
    simp only [wsum, List.drop_succ_cons]
    rw [wsum_any c g k m, Nat.pow_succ, Nat.mul_comm ((1 + c) ^ k) (1 + c), Nat.mul_assoc, Nat.add_mul, Nat.one_mul]
theorem wsum_zero (c : Nat) (g : List Bool → Bool) : ∀ k m, wsum c (fun bs => !(bs.take k).any id && g (bs.drop k)) (k + m) = wsum c g m
  | 0, m => by simp
  | k + 1, m => by
    have e : k + 1 + m = (k + m) + 1 := by omega
    rw [e]
    simp only [wsum, List.drop_succ_cons, List.take_succ_cons, List.any_cons, id, Bool.true_or, Bool.not_true, Bool.false_and, Bool.false_or]
    rw [wsum_no, wsum_zero c g k m]
    omega
theorem pow1 (c k : Nat) : 1 ≤ (1 + c) ^ k := Nat.one_le_iff_ne_zero.2 (by have := Nat.pow_pos (n := k) (show 0 < 1 + c by omega); omega)
theorem wsum_chain (c : Nat) (lo hi : List Bool → Bool) : ∀ k m, wsum c (fun bs => if (bs.take k).any id then hi (bs.drop k) else lo (bs.drop k)) (k + m) = wsum c lo m + ((1 + c) ^ k - 1) * wsum c hi m
  | 0, m => by simp
  | k + 1, m => by
    have e : k + 1 + m = (k + m) + 1 := by omega
    rw [e]
    simp only [wsum, List.drop_succ_cons, List.take_succ_cons, List.any_cons, id, Bool.true_or, Bool.false_or, if_true]
    rw [wsum_chain c lo hi k m, wsum_any c hi k m]
    have h1 := pow1 c k
    obtain ⟨p, hp⟩ : ∃ p, (1 + c) ^ k = p + 1 := ⟨(1 + c) ^ k - 1, by omega⟩
    rw [Nat.pow_succ, hp]
    have e1 : (p + 1) * (1 + c) - 1 = p + c * (p + 1) := by
      rw [Nat.mul_add, Nat.mul_one, Nat.mul_comm (p + 1) c]; omega
    rw [e1, Nat.add_sub_cancel]
    generalize wsum c hi m = w
    generalize wsum c lo m = z
    have e2 : (p + c * (p + 1)) * w = p * w + c * ((p + 1) * w) := by rw [Nat.add_mul, Nat.mul_assoc]
    rw [e2]
    omega
theorem wsum_node (c : Nat) (lo hi : List Bool → Bool) : ∀ k m, wsum c (fun bs => if bs[k]?.getD false then hi (bs.drop (k + 1)) else lo (bs.drop (k + 1))) (k + 1 + m) = (1 + c) ^ k * (wsum c lo m + c * wsum c hi m)
  | 0, m => by
    have e : 0 + 1 + m = m + 1 := by omega
    rw [e]
    simp [wsum]
  | k + 1, m => by
    have e : k + 1 + 1 + m = (k + 1 + m) + 1 := by omega
    rw [e]
    simp only [wsum, List.drop_succ_cons, List.getElem?_cons_succ]
    rw [wsum_node c lo hi k m, Nat.pow_succ, Nat.mul_comm ((1 + c) ^ k) (1 + c), Nat.mul_assoc, Nat.add_mul, Nat.one_mul]

theorem wsum_le (c : Nat) : ∀ (m : Nat) (g : List Bool → Bool), wsum c g m ≤ (1 + c) ^ m
  | 0, g => by simp only [wsum]; split <;> simp
  | m + 1, g => by
    have h1 := wsum_le c m fun r => g (false :: r)
    have h2 := Nat.mul_le_mul_left c (wsum_le c m fun r => g (true :: r))
    simp only [wsum, Nat.pow_succ]
    rw [Nat.mul_add, Nat.mul_one, Nat.mul_comm _ c]
    omega

/-! ### what an edge means, level by level -/
def zeroAt (f : Int) (e : Edg) (at_ : Int) : Bool := decide (f = 2 ∨ f = 4 ∨ (f = 5 ∧ e.t ≤ at_))
def pickB (f : Int) (r : Rec) (bs : List Bool) : Bool := if f = 3 then (bs.take ((r.bt - r.tp).toNat + 1)).any id else bs[(r.bt - r.tp).toNat]?.getD false
def hold (get : Int → Option Rec) (f : Int) (e : Edg) (l : Int) : List Bool → Bool
  | [] => if e.a = 0 then false else match get e.a with
    | none => true
    | some _ => false
  | b :: rs => if e.a = 0 then false else match get e.a with
    | none => if zeroAt f e l && b then false else hold get f e (l + 1) rs
    | some r => if l < r.tp then (if zeroAt f e l && b then false else hold get f e (l + 1) rs)
      else hold get f (if pickB f r (b :: rs) then r.hi else r.lo) (r.bt + 1) (rs.drop (r.bt - r.tp).toNat)
termination_by bs => bs.length
decreasing_by all_goals (simp; try omega)

section
variable {get : Int → Option Rec} {n f : Int}
/-- the level of an edge's node -/
def topOf (get : Int → Option Rec) (n : Int) (e : Edg) : Int := match get e.a with
  | none => n
  | some r => r.tp
theorem hold_zero {e : Edg} {l : Int} {bs : List Bool} (h : e.a = 0) : hold get f e l bs = false := by
  cases bs <;> (rw [hold]; simp [h])
theorem hold_step {e : Edg} {l : Int} {b : Bool} {rs : List Bool} (ha : e.a ≠ 0) (hl : l < topOf get n e) : hold get f e l (b :: rs) = if zeroAt f e l && b then false else hold get f e (l + 1) rs := by
  rw [hold, if_neg ha]
  unfold topOf at hl
  cases hg : get e.a with
  | none => rfl
  | some r =>
    rw [hg] at hl
    simp only at hl ⊢
    rw [if_pos hl]
theorem hold_any {e : Edg} (ha : e.a ≠ 0) : ∀ (k : Nat) {l : Int} {bs : List Bool}, (∀ j, l ≤ j → j < l + k → zeroAt f e j = false) → l + k ≤ topOf get n e → k ≤ bs.length → hold get f e l bs = hold get f e (l + k) (bs.drop k)
  | 0, l, bs, _, _, _ => by simp
  | k + 1, l, [], _, _, h => by simp at h
  | k + 1, l, b :: rs, hz, ht, h => by
    rw [hold_step (n := n) ha (by omega), hz l (by omega) (by omega)]
    simp only [Bool.false_and, if_false, List.drop_succ_cons, Bool.false_eq_true]
    rw [hold_any ha k (fun j h1 h2 => hz j (by omega) (by omega)) (by omega) (by simpa using h)]
    congr 1
    omega
theorem hold_zeros {e : Edg} (ha : e.a ≠ 0) : ∀ (k : Nat) {l : Int} {bs : List Bool}, (∀ j, l ≤ j → j < l + k → zeroAt f e j = true) → l + k ≤ topOf get n e → k ≤ bs.length → hold get f e l bs = (!(bs.take k).any id && hold get f e (l + k) (bs.drop k))
  | 0, l, bs, _, _, _ => by simp
  | k + 1, l, [], _, _, h => by simp at h
  | k + 1, l, b :: rs, hz, ht, h => by
    rw [hold_step (n := n) ha (by omega), hz l (by omega) (by omega), hold_zeros ha k (fun j h1 h2 => hz j (by omega) (by omega)) (by omega) (by simpa using h)]
    have e1 : l + 1 + (k : Int) = l + ((k + 1 : Nat) : Int) := by omega
    rw [e1]
    cases b <;> simp
theorem hold_node {e : Edg} {r : Rec} {l : Int} {bs : List Bool} (ha : e.a ≠ 0) (hg : get e.a = some r) (hl : r.tp ≤ l) (hb : bs ≠ []) : hold get f e l bs = hold get f (if pickB f r bs then r.hi else r.lo) (r.bt + 1) (bs.drop ((r.bt - r.tp).toNat + 1)) := by
  cases bs with
  | nil => exact absurd rfl hb
  | cons b rs =>
    rw [hold, if_neg ha, hg]
    simp only
    rw [if_neg (by omega), List.drop_succ_cons]
theorem hold_end {e : Edg} {l : Int} (ha : e.a ≠ 0) (hg : get e.a = none) : hold get f e l [] = true := by
  rw [hold, if_neg ha, hg]

/-- the weight of an edge at a level -/
def edgeW (get : Int → Option Rec) (n f : Int) (c : Nat) (e : Edg) (l : Int) : Nat := wsum c (hold get f e l) (n - l).toNat
/-- the weight of a node, of the levels from its top on -/
def nodeW (get : Int → Option Rec) (n f : Int) (c : Nat) (r : Rec) : Nat :=
  if f = 3 then edgeW get n f c r.lo (r.bt + 1) + ((1 + c) ^ (r.bt + 1 - r.tp).toNat - 1) * edgeW get n f c r.hi (r.bt + 1)
  else (1 + c) ^ (r.bt - r.tp).toNat * (edgeW get n f c r.lo (r.bt + 1) + c * edgeW get n f c r.hi (r.bt + 1))
/-- the level up to ahead of which those left out may have any value -/
def freeOf (f : Int) (e : Edg) (l top : Int) : Int := if f = 1 ∨ f = 3 then top else if f = 5 then e.t else l

theorem edgeW_zero {c : Nat} {e : Edg} {l : Int} (h : e.a = 0) : edgeW get n f c e l = 0 := by
  unfold edgeW
  rw [wsum_congr (g' := fun _ => false) fun bs _ => hold_zero h, wsum_no]
theorem edgeW_le (c : Nat) (e : Edg) (l : Int) : edgeW get n f c e l ≤ (1 + c) ^ (n - l).toNat := wsum_le _ _ _

theorem lead_top (G : Good get n) {e : Edg} {l : Int} (L : leadsB get n f e l) : 0 ≤ l ∧ l ≤ topOf get n e ∧ topOf get n e ≤ n ∧ (f = 5 → e.a ≠ 0 → l ≤ e.t ∧ e.t ≤ topOf get n e) := by
  obtain ⟨⟨p1, p2, p3, p4, p5⟩, h⟩ := L
  unfold topOf
  cases hg : get e.a with
  | none =>
    refine ⟨p3, p4, Int.le_refl _, fun hf ha => ?_⟩
    rw [if_pos ⟨hf, ha⟩] at p5
    exact p5
  | some r =>
    have := G.ids _ _ hg
    rcases h with h | h
    · omega
    · rw [hg] at h
      obtain ⟨h1, h2, h3⟩ := h
      have hr := (G.ok _ _ hg).2.1
      simp only [rightB] at hr
      refine ⟨p3, h2, by simp only; omega, fun hf ha => ?_⟩
      rw [if_pos ⟨hf, ha⟩] at p5
      exact ⟨p5.1, h3⟩

/-- down to an edge's node -/
theorem edgeW_skip (G : Good get n) {c : Nat} {e : Edg} {l : Int} (L : leadsB get n f e l) (ha : e.a ≠ 0) : edgeW get n f c e l = (1 + c) ^ (freeOf f e l (topOf get n e) - l).toNat * edgeW get n f c e (topOf get n e) := by
  obtain ⟨t1, t2, t3, t4⟩ := lead_top G L
  have hf := L.1.1
  have any : ∀ (k : Nat) (l : Int), (∀ j, l ≤ j → j < l + k → zeroAt f e j = false) → l + k ≤ topOf get n e → edgeW get n f c e l = (1 + c) ^ k * edgeW get n f c e (l + k) := by
    intro k l hz ht
    unfold edgeW
    have e1 : (n - l).toNat = k + (n - (l + k)).toNat := by omega
    rw [e1, wsum_congr (g' := fun bs => hold get f e (l + k) (bs.drop k)) fun bs hb => hold_any ha k hz ht (by omega), wsum_any]
  have zer : ∀ (k : Nat) (l : Int), (∀ j, l ≤ j → j < l + k → zeroAt f e j = true) → l + k ≤ topOf get n e → edgeW get n f c e l = edgeW get n f c e (l + k) := by
    intro k l hz ht
    unfold edgeW
    have e1 : (n - l).toNat = k + (n - (l + k)).toNat := by omega
    rw [e1, wsum_congr (g' := fun bs => !(bs.take k).any id && hold get f e (l + k) (bs.drop k)) fun bs hb => hold_zeros ha k hz ht (by omega), wsum_zero]
  unfold freeOf
  by_cases h1 : f = 1 ∨ f = 3
  · rw [if_pos h1, any (topOf get n e - l).toNat l (fun j _ _ => by unfold zeroAt; simp; omega) (by omega)]
    congr 2
    omega
  · rw [if_neg h1]
    by_cases h5 : f = 5
    · have := t4 h5 ha
      rw [if_pos h5, any (e.t - l).toNat l (fun j _ _ => by unfold zeroAt; simp; omega) (by omega)]
      have e1 : l + ((e.t - l).toNat : Int) = e.t := by omega
      rw [e1, zer (topOf get n e - e.t).toNat e.t (fun j _ _ => by unfold zeroAt; simp; omega) (by omega)]
      congr 2
      omega
    · rw [if_neg h5, zer (topOf get n e - l).toNat l (fun j _ _ => by unfold zeroAt; simp; omega) (by omega)]
      have e1 : l + ((topOf get n e - l).toNat : Int) = topOf get n e := by omega
      rw [e1]
      simp

theorem edgeW_end (G : Good get n) {c : Nat} {e : Edg} {l : Int} (L : leadsB get n f e l) (ha : e.a ≠ 0) (hg : get e.a = none) : edgeW get n f c e l = (1 + c) ^ (freeOf f e l n - l).toNat := by
  rw [edgeW_skip G L ha]
  have ht : topOf get n e = n := by unfold topOf; rw [hg]
  rw [ht]
  have : edgeW get n f c e n = 1 := by
    unfold edgeW
    simp only [Int.sub_self, Int.toNat_zero, wsum, hold_end ha hg, if_true]
  rw [this, Nat.mul_one]

theorem edgeW_node (G : Good get n) {c : Nat} {e : Edg} {l : Int} {r : Rec} (L : leadsB get n f e l) (ha : e.a ≠ 0) (hg : get e.a = some r) : edgeW get n f c e l = (1 + c) ^ (freeOf f e l r.tp - l).toNat * nodeW get n f c r := by
  rw [edgeW_skip G L ha]
  have ht : topOf get n e = r.tp := by unfold topOf; rw [hg]
  rw [ht]
  congr 1
  have hr := (G.ok _ _ hg).2.1
  have r0 := (G.ok _ _ hg).1
  simp only [rightB] at hr
  have t0 := r0.t0
  unfold edgeW nodeW
  have step : ∀ bs : List Bool, bs.length = (n - r.tp).toNat → hold get f e r.tp bs = hold get f (if pickB f r bs then r.hi else r.lo) (r.bt + 1) (bs.drop ((r.bt - r.tp).toNat + 1)) := fun bs hb => hold_node ha hg (Int.le_refl _) (by rintro rfl; simp at hb; omega)
  have e1 : (n - r.tp).toNat = (r.bt - r.tp).toNat + 1 + (n - (r.bt + 1)).toNat := by omega
  by_cases h3 : f = 3
  · rw [if_pos h3, wsum_congr (g' := fun bs => if (bs.take ((r.bt - r.tp).toNat + 1)).any id then hold get f r.hi (r.bt + 1) (bs.drop ((r.bt - r.tp).toNat + 1)) else hold get f r.lo (r.bt + 1) (bs.drop ((r.bt - r.tp).toNat + 1))) fun bs hb => by
      rw [step bs hb]
      unfold pickB
      rw [if_pos h3]
      split <;> rfl, e1, wsum_chain]
    have e2 : (r.bt + 1 - r.tp).toNat = (r.bt - r.tp).toNat + 1 := by omega
    rw [e2]
    rfl
  · rw [if_neg h3, wsum_congr (g' := fun bs => if bs[(r.bt - r.tp).toNat]?.getD false then hold get f r.hi (r.bt + 1) (bs.drop ((r.bt - r.tp).toNat + 1)) else hold get f r.lo (r.bt + 1) (bs.drop ((r.bt - r.tp).toNat + 1))) fun bs hb => by
      rw [step bs hb]
      unfold pickB
      rw [if_neg h3]
      split <;> rfl, e1, wsum_node]
    rfl
theorem nodeW_le (G : Good get n) {c : Nat} {id : Int} {r : Rec} (hg : get id = some r) : nodeW get n f c r ≤ (1 + c) ^ (n - r.tp).toNat := by
  have hr := (G.ok _ _ hg).2.1
  have r0 := (G.ok _ _ hg).1
  simp only [rightB] at hr
  have h1 := edgeW_le (get := get) (n := n) (f := f) c r.lo (r.bt + 1)
  have h2 := edgeW_le (get := get) (n := n) (f := f) c r.hi (r.bt + 1)
  unfold nodeW
  have e1 : (n - r.tp).toNat = (r.bt + 1 - r.tp).toNat + (n - (r.bt + 1)).toNat := by omega
  split
  · have h3 := Nat.mul_le_mul_left ((1 + c) ^ (r.bt + 1 - r.tp).toNat - 1) h2
    have h4 := pow1 c (r.bt + 1 - r.tp).toNat
    rw [e1, Nat.pow_add]
    generalize (1 + c) ^ (r.bt + 1 - r.tp).toNat = p at *
    generalize (1 + c) ^ (n - (r.bt + 1)).toNat = q at *
    obtain ⟨k, rfl⟩ : ∃ k, p = k + 1 := ⟨p - 1, by omega⟩
    rw [Nat.add_sub_cancel] at *
    rw [Nat.add_mul, Nat.one_mul]
    omega
  · have h3 := Nat.mul_le_mul_left c h2
    have e2 : (n - r.tp).toNat = (r.bt - r.tp).toNat + (1 + (n - (r.bt + 1)).toNat) := by omega
    rw [e2, Nat.pow_add, Nat.pow_add, Nat.pow_one]
    refine Nat.mul_le_mul_left _ ?_
    rw [Nat.add_mul, Nat.one_mul]
    omega
end
end Go.Proofs.YtbeapoopomlgaaaGreat.Sx
