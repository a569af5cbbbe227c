/- Plain law: a store in use; a node found or made; Make and View keep what is meant. -/
import Derived.Test.YtbeapoopomlgaaaGreatDa
namespace Go.Proofs.YtbeapoopomlgaaaGreat.Sx
open Go Go.Proofs
open Go.IntKind (wrap)

theorem hasC_get {cells : Cells} {r : Rec} (h : 0 < hasC cells r) : getC cells (hasC cells r) = some r := by
  unfold hasC at h ⊢
  cases hf : cells.findIdx? (fun o => o == some r) with
  | none => rw [hf] at h; simp at h
  | some i =>
    simp only
    obtain ⟨hi, hp, -⟩ := List.findIdx?_eq_some_iff_getElem.1 hf
    rw [getC_at, List.getElem?_eq_getElem hi]
    simpa using hp
theorem hasC_none {cells : Cells} {r : Rec} (h : ¬ 0 < hasC cells r) (id : Int) : getC cells id ≠ some r := by
  intro hg
  unfold hasC at h
  cases hf : cells.findIdx? (fun o => o == some r) with
  | some i => rw [hf] at h; simp only at h; omega
  | none =>
    have h2 := (getC_pos hg).2
    have h3 := List.findIdx?_eq_none_iff.1 hf _ (List.mem_of_getElem? h2)
    simp at h3

/-- a store in use -/
structure Live (A : Ar) (n : Int) : Prop where
  ok : AOK A
  good : Good (getC A.cells) n
  fr : ∀ id ∈ A.free, 2 ≤ id ∧ A.cells[(id - 2).toNat]? = some none
  nd : A.free.Nodup
  uniq : ∀ i j r, getC A.cells i = some r → getC A.cells j = some r → i = j
/-- a store grows by some nodes at most -/
structure Grew (A A' : Ar) (n k : Int) : Prop where
  live : Live A' n
  grows : Grows (getC A.cells) (getC A'.cells)
  n0 : A.n ≤ A'.n
  n1 : A'.n ≤ A.n + k
  room : A'.room = A.room
theorem Grew.refl {A : Ar} {n : Int} (K : Live A n) : Grew A A n 0 := ⟨K, Grows.refl _, Int.le_refl _, by omega, rfl⟩
theorem Grew.trans {A B C : Ar} {n k m : Int} (h : Grew A B n k) (g : Grew B C n m) : Grew A C n (k + m) :=
  ⟨g.live, h.grows.trans g.grows, by have := h.n0; have := g.n0; omega, by have := h.n1; have := g.n1; omega, g.room.trans h.room⟩
theorem Grew.le {A B : Ar} {n k m : Int} (h : Grew A B n k) (hk : k ≤ m) : Grew A B n m := ⟨h.live, h.grows, h.n0, by have := h.n1; omega, h.room⟩

theorem put_get' {A : Ar} {r : Rec} (hfr : ∀ id ∈ A.free, 2 ≤ id ∧ A.cells[(id - 2).toNat]? = some none) (hp : (A.put r).2.2 = true) (r' : Rec) (id' : Int) :
    getC (A.put r).1.cells id' = some r' ↔ (r' = r ∧ id' = (A.put r).2.1) ∨ getC A.cells id' = some r' := by
  unfold Ar.put at hp ⊢
  split at hp
  · cases hp
  · rename_i hc
    rw [if_neg hc]
    split at hp
    · rename_i id hid
      dsimp only
      have h1 := hfr id (List.mem_of_getLast? hid)
      have hl := (List.getElem?_eq_some_iff.1 h1.2).1
      unfold getC
      by_cases h2 : id' < 2
      · simp only [if_pos h2]
        constructor
        · intro h; cases h
        · rintro (⟨-, h⟩ | h)
          · omega
          · cases h
      · simp only [if_neg h2]
        by_cases h3 : id' = id
        · subst h3
          rw [List.getElem?_set_self hl, h1.2]
          simp [eq_comm]
        · rw [List.getElem?_set_ne (by omega)]
          simp [h3]
    · rename_i hid
      dsimp only
      unfold getC
      by_cases h2 : id' < 2
      · simp only [if_pos h2]
        constructor
        · intro h; cases h
        · rintro (⟨-, h⟩ | h)
          · omega
          · cases h
      · simp only [if_neg h2]
        by_cases h3 : id' = (A.cells.length : Int) + 2
        · subst h3
          have e : ((A.cells.length : Int) + 2 - 2).toNat = A.cells.length := by omega
          rw [e, List.getElem?_append_right (Nat.le_refl _), List.getElem?_eq_none (Nat.le_refl _)]
          simp [eq_comm]
        · simp only [h3, and_false, false_or]
          rcases Nat.lt_or_ge (id' - 2).toNat A.cells.length with h4 | h4
          · rw [List.getElem?_append_left h4]
          · rw [List.getElem?_eq_none (l := A.cells) h4, List.getElem?_eq_none (by simp; omega)]
theorem put_free {A : Ar} {r : Rec} (hfr : ∀ id ∈ A.free, 2 ≤ id ∧ A.cells[(id - 2).toNat]? = some none) (hnd : A.free.Nodup) :
    (∀ id ∈ (A.put r).1.free, 2 ≤ id ∧ (A.put r).1.cells[(id - 2).toNat]? = some none) ∧ (A.put r).1.free.Nodup := by
  unfold Ar.put
  split
  · exact ⟨hfr, hnd⟩
  · split
    · rename_i id hid
      dsimp only
      have hne : A.free ≠ [] := by rintro h; rw [h] at hid; cases hid
      have hl : A.free.getLast hne = id := by rw [List.getLast?_eq_some_getLast hne] at hid; exact Option.some.inj hid
      have hsp := List.dropLast_concat_getLast hne
      rw [hl] at hsp
      rw [← hsp, List.nodup_append] at hnd
      refine ⟨fun i hi => ?_, hnd.1⟩
      have hm : i ∈ A.free := List.dropLast_subset _ hi
      have h1 := hfr i hm
      have h2 := hnd.2.2 i hi id (by simp)
      have h3 := hfr id (List.mem_of_getLast? hid)
      exact ⟨h1.1, by rw [List.getElem?_set_ne (by omega)]; exact h1.2⟩
    · exact ⟨fun i hi => (List.not_mem_nil hi).elim, List.nodup_nil⟩

theorem Live.find {A : Ar} {n : Int} {r : Rec} (K : Live A n) (hr : r.ok) (h1 : rightB r n) (h2 : leadsB (getC A.cells) n r.fm r.lo (r.bt + 1)) (h3 : leadsB (getC A.cells) n r.fm r.hi (r.bt + 1)) (hroom : A.n < A.room) :
    ∃ A' id, A.find n r = (A', id, 0) ∧ Grew A A' n 1 ∧ getC A'.cells id = some r := by
  unfold Ar.find
  by_cases h0 : 0 < hasC A.cells r
  · rw [if_pos h0]
    exact ⟨_, _, rfl, (Grew.refl K).le (by omega), hasC_get h0⟩
  · rw [if_neg h0, if_neg (by simp [h1, h2, h3])]
    have hp : (A.put r).2.2 = true := by
      unfold Ar.put
      rw [if_neg (by omega)]
      split <;> rfl
    rw [if_pos hp]
    have hg := put_get' K.fr hp
    have hn := put_n hp
    have hf := put_free (r := r) K.fr K.nd
    have gr : Grows (getC A.cells) (getC (A.put r).1.cells) := fun id x hx => (hg x id).2 (.inr hx)
    refine ⟨_, _, rfl, ⟨⟨K.ok.put hr, ⟨K.good.vars, fun id x hx => ?_, fun id x hx => ?_⟩, hf.1, hf.2, fun i j x hi hj => ?_⟩, gr, by omega, by omega, hn.2.1⟩, (hg r _).2 (.inl ⟨rfl, rfl⟩)⟩
    · have q := getC_pos hx
      have q2 := (List.getElem?_eq_some_iff.1 q.2).1
      have := (K.ok.put hr).len
      omega
    · rcases (hg x id).1 hx with ⟨rfl, -⟩ | hx
      · exact ⟨hr, h1, leads_grow gr h2, leads_grow gr h3⟩
      · obtain ⟨q1, q2, q3, q4⟩ := K.good.ok _ _ hx
        exact ⟨q1, q2, leads_grow gr q3, leads_grow gr q4⟩
    · rcases (hg x i).1 hi with ⟨e1, e2⟩ | hi'
      · rcases (hg x j).1 hj with ⟨-, e3⟩ | hj'
        · rw [e2, e3]
        · rw [e1] at hj'; exact absurd hj' (hasC_none h0 _)
      · rcases (hg x j).1 hj with ⟨e1, -⟩ | hj'
        · rw [e1] at hi'; exact absurd hi' (hasC_none h0 _)
        · exact K.uniq _ _ _ hi' hj'
/-- an edge to a node with a record -/
theorem Live.found {A : Ar} {n f : Int} {r : Rec} (K : Live A n) (hr : r.ok) (hf : r.fm = f) (h1 : rightB r n) (h2 : leadsB (getC A.cells) n f r.lo (r.bt + 1)) (h3 : leadsB (getC A.cells) n f r.hi (r.bt + 1)) (hroom : A.n < A.room) :
    ∃ A' e, foundM f A n r = (A', e, 0) ∧ Grew A A' n 1 ∧ getC A'.cells e.a = some r ∧ e.ok ∧ leadsB (getC A'.cells) n f e r.tp ∧ e.t = (if f = 5 then r.tp else 0) := by
  subst hf
  obtain ⟨A', id, hfi, G, hg⟩ := K.find hr h1 h2 h3 hroom
  unfold foundM
  rw [hfi]
  have hid := G.live.good.ids _ _ hg
  have t0 := hr.t0
  have t1 := hr.t1
  have q := h1
  simp only [rightB] at q
  refine ⟨A', ⟨if r.fm = 5 then r.tp else 0, id⟩, rfl, G, hg, ⟨by dsimp only; split <;> omega, by dsimp only; split <;> omega, by dsimp only; omega, hid.2⟩, ⟨⟨q.1, q.2.1, t0, by omega, ?_⟩, .inr ?_⟩, rfl⟩
  · dsimp only
    by_cases h5 : r.fm = 5
    · rw [if_pos ⟨h5, by omega⟩, if_pos h5]; omega
    · rw [if_neg (by simp [h5]), if_neg h5]
  · rw [hg]
    refine ⟨rfl, Int.le_refl _, ?_⟩
    dsimp only
    split <;> omega
end Go.Proofs.YtbeapoopomlgaaaGreat.Sx
