/- Plain law: what Make and View mean, in stores that only grow. -/
import Derived.Test.YtbeapoopomlgaaaGreatCx
namespace Go.Proofs.YtbeapoopomlgaaaGreat.Sx
open Go Go.Proofs
open Go.IntKind (wrap)

/-- one store's records are another's, too -/
def Grows (g g' : Int → Option Rec) : Prop := ∀ id r, g id = some r → g' id = some r
theorem Grows.refl (g : Int → Option Rec) : Grows g g := fun _ _ h => h
theorem Grows.trans {a b c : Int → Option Rec} (h : Grows a b) (k : Grows b c) : Grows a c := fun _ _ q => k _ _ (h _ _ q)
/-- an edge's node, if any, is not above a level -/
def Low (g : Int → Option Rec) (e : Edg) (l : Int) : Prop := e.a < 2 ∨ ∃ r, g e.a = some r ∧ l ≤ r.tp

section
variable {g g' : Int → Option Rec} {n f : Int}
theorem leads_grow (h : Grows g g') {e : Edg} {l : Int} (L : leadsB g n f e l) : leadsB g' n f e l := by
  refine ⟨L.1, L.2.imp id fun ht => ?_⟩
  cases hg : g e.a with
  | none => rw [hg] at ht; exact ht.elim
  | some r => rw [hg] at ht; rw [h _ _ hg]; exact ht
theorem low_of {e : Edg} {l : Int} (L : leadsB g n f e l) : Low g e l := by
  rcases L.2 with h | h
  · exact .inl h
  · cases hg : g e.a with
    | none => rw [hg] at h; exact h.elim
    | some r => rw [hg] at h; exact .inr ⟨r, hg, h.2.1⟩
theorem Low.up {e : Edg} {l k : Int} (L : Low g e l) (h : k ≤ l) : Low g e k := L.imp id fun ⟨r, h1, h2⟩ => ⟨r, h1, by omega⟩
theorem no_rec (G : Good g n) {a : Int} (h : a < 2) : g a = none := by
  cases hg : g a with
  | none => rfl
  | some r => have := (G.ids _ _ hg).1; omega
theorem hold_nil {e : Edg} {l : Int} : hold g f e l [] = if e.a = 0 then false else match g e.a with
    | none => true
    | some _ => false := by rw [hold]; rfl
theorem hold_cons {e : Edg} {l : Int} {b : Bool} {rs : List Bool} : hold g f e l (b :: rs) = if e.a = 0 then false else match g e.a with
    | none => if zeroAt f e l && b then false else hold g f e (l + 1) rs
    | some r => if l < r.tp then (if zeroAt f e l && b then false else hold g f e (l + 1) rs)
      else hold g f (if pickB f r (b :: rs) then r.hi else r.lo) (r.bt + 1) (rs.drop (r.bt - r.tp).toNat) := by rw [hold]; rfl
/-- what is meant stays, while the store grows -/
theorem hold_grow (G : Good g n) (G' : Good g' n) (h : Grows g g') : ∀ (m : Nat) {e : Edg} {l : Int} {bs : List Bool}, bs.length ≤ m → Low g e l → hold g' f e l bs = hold g f e l bs := by
  intro m
  induction m with
  | zero =>
    intro e l bs hb L
    have : bs = [] := List.eq_nil_of_length_eq_zero (by omega)
    subst this
    rw [hold_nil, hold_nil]
    rcases L with ha | ⟨r, hr, -⟩
    · rw [no_rec G ha, no_rec G' ha]
    · rw [hr, h _ _ hr]
  | succ m ih =>
    intro e l bs hb L
    cases bs with
    | nil =>
      rw [hold_nil, hold_nil]
      rcases L with ha | ⟨r, hr, -⟩
      · rw [no_rec G ha, no_rec G' ha]
      · rw [hr, h _ _ hr]
    | cons b rs =>
      simp only [List.length_cons] at hb
      rw [hold_cons, hold_cons]
      by_cases h0 : e.a = 0
      · rw [if_pos h0, if_pos h0]
      · rw [if_neg h0, if_neg h0]
        rcases L with ha | ⟨r, hr, ht⟩
        · rw [no_rec G ha, no_rec G' ha]
          simp only
          rw [ih (by omega) (.inl ha)]
        · rw [hr, h _ _ hr]
          simp only
          by_cases h1 : l < r.tp
          · rw [if_pos h1, if_pos h1, ih (by omega) (.inr ⟨r, hr, by omega⟩)]
          · rw [if_neg h1, if_neg h1]
            have hk := (G.ok _ _ hr).2.2
            refine ih (by rw [List.length_drop]; omega) ?_
            split
            · exact low_of hk.2
            · exact low_of hk.1
/-- only where a tag tells 0 matters -/
theorem hold_tag : ∀ (m : Nat) {e e' : Edg} {l : Int} {bs : List Bool}, bs.length ≤ m → e.a = e'.a → (∀ j, l ≤ j → zeroAt f e j = zeroAt f e' j) → hold g f e l bs = hold g f e' l bs := by
  intro m
  induction m with
  | zero =>
    intro e e' l bs hb ha hz
    have : bs = [] := List.eq_nil_of_length_eq_zero (by omega)
    subst this
    rw [hold_nil, hold_nil, ha]
  | succ m ih =>
    intro e e' l bs hb ha hz
    cases bs with
    | nil => rw [hold_nil, hold_nil, ha]
    | cons b rs =>
      simp only [List.length_cons] at hb
      rw [hold_cons, hold_cons, ha, hz l (Int.le_refl _), ih (e := e) (e' := e') (l := l + 1) (bs := rs) (by omega) ha fun j hj => hz j (by omega)]
/-- levels ahead of an edge's that play no part -/
theorem hold_free (G : Good g n) (hf : f = 1 ∨ f = 3) {e : Edg} {l : Int} {k : Nat} {bs : List Bool} (L : leadsB g n f e (l + k)) (hk : k ≤ bs.length) : hold g f e l bs = hold g f e (l + k) (bs.drop k) := by
  by_cases ha : e.a = 0
  · rw [hold_zero ha, hold_zero ha]
  · exact hold_any (n := n) ha k (fun j _ _ => by unfold zeroAt; simp; omega) (lead_top G L).2.1 hk
theorem leads_up (hf : f ≠ 5) {e : Edg} {l k : Int} (h0 : 0 ≤ k) (h1 : k ≤ l) (L : leadsB g n f e l) : leadsB g n f e k := by
  obtain ⟨⟨p1, p2, p3, p4, p5⟩, h⟩ := L
  rw [if_neg (by simp [hf])] at p5
  refine ⟨⟨p1, p2, h0, by omega, by rw [if_neg (by simp [hf])]; exact p5⟩, h.imp id fun ht => ?_⟩
  cases hg : g e.a with
  | none => rw [hg] at ht; exact ht.elim
  | some r => rw [hg] at ht; exact ⟨ht.1, by have := ht.2.1; omega, ht.2.2⟩
theorem leads_up5 {e : Edg} {l k : Int} (h0 : 0 ≤ k) (h1 : k ≤ l) (L : leadsB g n f e l) : leadsB g n f e k := by
  obtain ⟨⟨p1, p2, p3, p4, p5⟩, h⟩ := L
  refine ⟨⟨p1, p2, h0, by omega, ?_⟩, h.imp id fun ht => ?_⟩
  · split
    · rename_i h5; rw [if_pos h5] at p5; omega
    · rename_i h5; rw [if_neg h5] at p5; exact p5
  cases hg : g e.a with
  | none => rw [hg] at ht; exact ht.elim
  | some r => rw [hg] at ht; exact ⟨ht.1, by have := ht.2.1; omega, ht.2.2⟩
theorem leads_e0 (hv : varsB n) (hf : formB f) {l : Int} (h0 : 0 ≤ l) (h1 : l ≤ n) : leadsB g n f e0 l := ⟨⟨hf, hv, h0, h1, by rw [if_neg (by simp)]⟩, .inl (by decide)⟩

/-- a node as it is read at its own level -/
theorem hold_at {e : Edg} {r : Rec} {l : Int} {b : Bool} {rs : List Bool} (ha : e.a ≠ 0) (hg : g e.a = some r) (hl : r.tp = l) : hold g f e l (b :: rs) = hold g f (if pickB f r (b :: rs) then r.hi else r.lo) (r.bt + 1) (rs.drop (r.bt - r.tp).toNat) := by
  rw [hold_cons, if_neg ha, hg]
  simp only
  rw [if_neg (by omega)]
/-- a node of one level -/
theorem hold_one {e : Edg} {r : Rec} {l : Int} {b : Bool} {rs : List Bool} (ha : e.a ≠ 0) (hg : g e.a = some r) (hl : r.tp = l) (hb : r.bt = l) : hold g f e l (b :: rs) = hold g f (if b then r.hi else r.lo) (l + 1) rs := by
  rw [hold_at ha hg hl]
  have e1 : (r.bt - r.tp).toNat = 0 := by omega
  have e2 : pickB f r (b :: rs) = b := by unfold pickB; rw [e1]; simp
  rw [e1, e2, hb, List.drop_zero]
/-- a node of several levels, read level by level -/
theorem hold_long (G : Good g n) {e e' : Edg} {r r' : Rec} {l : Int} {rs : List Bool} (hrs : (rs.length : Int) = n - (l + 1)) (hf : f = 3 ∨ f = 4) (ha : e.a ≠ 0) (hg : g e.a = some r) (hl : r.tp = l) (hb : l < r.bt) (hfm : r.fm = f)
    (ha' : e'.a ≠ 0) (hg' : g e'.a = some r') (t' : r'.tp = l + 1) (b' : r'.bt = r.bt) (lo' : r'.lo = r.lo) (hi' : r'.hi = r.hi) :
    hold g f e l (false :: rs) = hold g f e' (l + 1) rs ∧ hold g f e l (true :: rs) = (if f = 3 then hold g f r.hi (l + 1) rs else hold g f e' (l + 1) rs) := by
  have hr := (G.ok _ _ hg).2.1
  simp only [rightB] at hr
  obtain ⟨k, hk⟩ : ∃ k : Nat, r.bt = l + 1 + k := ⟨(r.bt - (l + 1)).toNat, by omega⟩
  have e1 : (r.bt - r.tp).toNat = k + 1 := by omega
  have e2 : (r'.bt - r'.tp).toNat = k := by omega
  have hlen : k + 1 ≤ rs.length := by omega
  cases rs with
  | nil => simp at hlen
  | cons c cs =>
    have q' : hold g f e' (l + 1) (c :: cs) = hold g f (if pickB f r' (c :: cs) then r.hi else r.lo) (r.bt + 1) (cs.drop k) := by
      rw [hold_at ha' hg' t', lo', hi', b', ← b', e2]
    have q : ∀ b, hold g f e l (b :: c :: cs) = hold g f (if pickB f r (b :: c :: cs) then r.hi else r.lo) (r.bt + 1) (cs.drop k) := fun b => by
      rw [hold_at ha hg hl, e1, List.drop_succ_cons]
    rw [q, q, q']
    rcases hf with h3 | h4
    · have p1 : pickB f r (false :: c :: cs) = pickB f r' (c :: cs) := by unfold pickB; rw [if_pos h3, if_pos h3, e1, e2]; simp
      have p2 : pickB f r (true :: c :: cs) = true := by unfold pickB; rw [if_pos h3, e1]; simp
      rw [p1, p2, if_pos rfl, if_pos h3]
      refine ⟨rfl, ?_⟩
      have L := (G.ok _ _ hg).2.2.2
      rw [hfm] at L
      have e3 : r.bt + 1 = l + 1 + ((k + 1 : Nat) : Int) := by omega
      rw [e3] at L ⊢
      rw [hold_free G (.inr h3) L hlen, List.drop_succ_cons]
    · have p1 : ∀ b, pickB f r (b :: c :: cs) = pickB f r' (c :: cs) := fun b => by unfold pickB; rw [if_neg (by omega), if_neg (by omega), e1, e2, List.getElem?_cons_succ]
      rw [p1, p1]
      exact ⟨rfl, by rw [if_neg (show ¬ f = 3 by omega)]⟩
end
end Go.Proofs.YtbeapoopomlgaaaGreat.Sx
