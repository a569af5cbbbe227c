/- Plain law: Make and View keep what is meant. -/
import Derived.Test.YtbeapoopomlgaaaGreatDb
namespace Go.Proofs.YtbeapoopomlgaaaGreat.Sx
open Go Go.Proofs
open Go.IntKind (wrap)

section
variable {g : Int → Option Rec} {n f : Int}
/-- a level ahead of an edge's node -/
theorem hold_skip {e : Edg} {l : Int} {b : Bool} {rs : List Bool} (h : ∀ r, g e.a = some r → l < r.tp) : hold g f e l (b :: rs) = if e.a = 0 then false else if zeroAt f e l && b then false else hold g f e (l + 1) rs := by
  rw [hold_cons]
  cases hg : g e.a with
  | none => rfl
  | some r => simp only; rw [if_pos (h r hg)]
theorem skip_any {e : Edg} {l : Int} {b : Bool} {rs : List Bool} (h : ∀ r, g e.a = some r → l < r.tp) (hz : zeroAt f e l = false) : hold g f e l (b :: rs) = hold g f e (l + 1) rs := by
  rw [hold_skip h, hz]
  by_cases ha : e.a = 0
  · rw [if_pos ha, hold_zero ha]
  · rw [if_neg ha]; simp
theorem skip_zero {e : Edg} {l : Int} {rs : List Bool} (h : ∀ r, g e.a = some r → l < r.tp) (hz : zeroAt f e l = true) : hold g f e l (false :: rs) = hold g f e (l + 1) rs ∧ hold g f e l (true :: rs) = false := by
  rw [hold_skip h, hold_skip h, hz]
  by_cases ha : e.a = 0
  · rw [if_pos ha, if_pos ha, hold_zero ha]; exact ⟨rfl, rfl⟩
  · rw [if_neg ha, if_neg ha]; simp
theorem leads_above (G : Good g n) {e : Edg} {l : Int} (L : leadsB g n f e (l + 1)) : ∀ r, g e.a = some r → l < r.tp := fun r hr => by
  have := (leads_child G.ids L hr).2.1; omega
theorem leads_next {e : Edg} {l : Int} (L : leadsB g n f e l) (hn : l < n) (h : ∀ r, g e.a = some r → l < r.tp) (h5 : f = 5 → e.a = 0 ∨ l < e.t) : leadsB g n f e (l + 1) := by
  obtain ⟨⟨p1, p2, p3, p4, p5⟩, q⟩ := L
  refine ⟨⟨p1, p2, by omega, by omega, ?_⟩, q.imp id fun ht => ?_⟩
  · split
    · rename_i c; rw [if_pos c] at p5; have := h5 c.1; omega
    · rename_i c; rw [if_neg c] at p5; exact p5
  · cases hg : g e.a with
    | none => rw [hg] at ht; exact ht.elim
    | some r => rw [hg] at ht; exact ⟨ht.1, by have := h r hg; omega, ht.2.2⟩

/-- what a node's record is -/
theorem recM_is (G : Good g n) {l : Int} {lo hi : Edg} (h1 : l < n) (L1 : leadsB g n f lo (l + 1)) (L2 : leadsB g n f hi (l + 1)) (n1 : ¬ ((f = 1 ∨ f = 3 ∨ f = 5) ∧ lo = hi)) (n2 : ¬ ((f = 2 ∨ f = 4) ∧ hi.a = 0)) :
    (recM f g l lo hi).fm = f ∧ (recM f g l lo hi).tp = l ∧ rightB (recM f g l lo hi) n ∧ leadsB g n f (recM f g l lo hi).lo ((recM f g l lo hi).bt + 1) ∧ leadsB g n f (recM f g l lo hi).hi ((recM f g l lo hi).bt + 1) ∧
    (recM f g l lo hi = ⟨f, l, l, lo, hi⟩ ∨ (f = 3 ∨ f = 4) ∧ ∃ r, g lo.a = some r ∧ r.tp = l + 1 ∧ r.fm = f ∧ recM f g l lo hi = ⟨f, l, r.bt, r.lo, r.hi⟩ ∧ (f = 3 → r.hi = hi) ∧ (f = 4 → lo = hi)) := by
  have hfm := L1.1.1
  have hv := L1.1.2.1
  have short : recM f g l lo hi = ⟨f, l, l, lo, hi⟩ → (recM f g l lo hi).fm = f ∧ (recM f g l lo hi).tp = l ∧ rightB (recM f g l lo hi) n ∧ leadsB g n f (recM f g l lo hi).lo ((recM f g l lo hi).bt + 1) ∧ leadsB g n f (recM f g l lo hi).hi ((recM f g l lo hi).bt + 1) ∧
    (recM f g l lo hi = ⟨f, l, l, lo, hi⟩ ∨ (f = 3 ∨ f = 4) ∧ ∃ r, g lo.a = some r ∧ r.tp = l + 1 ∧ r.fm = f ∧ recM f g l lo hi = ⟨f, l, r.bt, r.lo, r.hi⟩ ∧ (f = 3 → r.hi = hi) ∧ (f = 4 → lo = hi)) := by
    intro h
    rw [h]
    refine ⟨rfl, rfl, ⟨hfm, hv, Int.le_refl _, h1, .inl rfl, L1.1, L2.1, ?_⟩, L1, L2, .inl rfl⟩
    dsimp only
    split
    · rename_i c; exact fun c2 => n2 ⟨c, c2⟩
    · rename_i c; exact fun c2 => n1 ⟨by unfold formB at hfm; omega, c2⟩
  have long : ∀ r, g lo.a = some r → r.tp = l + 1 → (f = 3 ∨ f = 4) → recM f g l lo hi = ⟨f, l, r.bt, r.lo, r.hi⟩ → (f = 3 → r.hi = hi) → (f = 4 → lo = hi) → (recM f g l lo hi).fm = f ∧ (recM f g l lo hi).tp = l ∧ rightB (recM f g l lo hi) n ∧ leadsB g n f (recM f g l lo hi).lo ((recM f g l lo hi).bt + 1) ∧ leadsB g n f (recM f g l lo hi).hi ((recM f g l lo hi).bt + 1) ∧
    (recM f g l lo hi = ⟨f, l, l, lo, hi⟩ ∨ (f = 3 ∨ f = 4) ∧ ∃ r, g lo.a = some r ∧ r.tp = l + 1 ∧ r.fm = f ∧ recM f g l lo hi = ⟨f, l, r.bt, r.lo, r.hi⟩ ∧ (f = 3 → r.hi = hi) ∧ (f = 4 → lo = hi)) := by
    intro r hr ht hf h h3 h4
    have hrf := (leads_child G.ids L1 hr).1
    obtain ⟨q1, q2, q3, q4⟩ := G.ok _ _ hr
    subst hrf
    rw [h]
    simp only [rightB] at q2 ⊢
    refine ⟨trivial, trivial, ⟨q2.1, q2.2.1, by omega, q2.2.2.2.1, .inr hf, q2.2.2.2.2.2.1, q2.2.2.2.2.2.2.1, q2.2.2.2.2.2.2.2⟩, q3, q4, .inr ⟨hf, r, hr, ht, rfl, rfl, h3, h4⟩⟩
  cases hg : g lo.a with
  | none => rw [hg] at short; exact short (by unfold recM; rw [hg])
  | some r =>
    rw [hg] at short long
    by_cases c1 : f = 3 ∧ r.tp = l + 1 ∧ r.hi = hi
    · exact long r rfl c1.2.1 (.inl c1.1) (by unfold recM; rw [hg]; simp only; rw [if_pos c1, c1.1, c1.2.2]) (fun _ => c1.2.2) fun h => by omega
    · by_cases c2 : f = 4 ∧ lo = hi ∧ r.tp = l + 1
      · exact long r rfl c2.2.2 (.inr c2.1) (by unfold recM; rw [hg]; simp only; rw [if_neg c1, if_pos c2, c2.1]) (fun h => by omega) fun _ => c2.2.1
      · exact short (by unfold recM; rw [hg]; simp only; rw [if_neg c1, if_neg c2])
end

/-- Make -/
theorem Live.make {A : Ar} {n f l : Int} {lo hi : Edg} (K : Live A n) (h0 : 0 ≤ l) (h1 : l < n) (L1 : leadsB (getC A.cells) n f lo (l + 1)) (L2 : leadsB (getC A.cells) n f hi (l + 1)) (o1 : lo.ok) (o2 : hi.ok) (hroom : A.n < A.room) :
    ∃ A' e, makeM f A n l lo hi = (A', e, 0) ∧ Grew A A' n 1 ∧ e.ok ∧ leadsB (getC A'.cells) n f e l ∧ ∀ rs : List Bool, (rs.length : Int) = n - (l + 1) →
      hold (getC A'.cells) f e l (false :: rs) = hold (getC A.cells) f lo (l + 1) rs ∧ hold (getC A'.cells) f e l (true :: rs) = hold (getC A.cells) f hi (l + 1) rs := by
  have G := K.good
  have hfm := L1.1.1
  have hv := G.vars
  unfold makeM
  rw [if_neg (by omega), if_neg (by simp [L1, L2])]
  by_cases c1 : (f = 1 ∨ f = 3 ∨ f = 5) ∧ lo = hi
  · rw [if_pos c1]
    obtain ⟨c1, rfl⟩ := c1
    have hz : zeroAt f lo l = false ∨ lo.a = 0 := by
      by_cases ha : lo.a = 0
      · exact .inr ha
      · left
        unfold zeroAt
        rw [decide_eq_false_iff_not]
        have p5 := L1.1.2.2.2.2
        by_cases h5 : f = 5
        · rw [if_pos ⟨h5, ha⟩] at p5; omega
        · omega
    refine ⟨A, lo, rfl, (Grew.refl K).le (by omega), o1, leads_up5 h0 (by omega) L1, fun rs _ => ?_⟩
    rcases hz with hz | ha
    · exact ⟨skip_any (leads_above G L1) hz, skip_any (leads_above G L1) hz⟩
    · rw [hold_zero ha, hold_zero ha, hold_zero ha]; exact ⟨rfl, rfl⟩
  rw [if_neg c1]
  by_cases c2 : (f = 2 ∨ f = 4) ∧ hi.a = 0
  · rw [if_pos c2]
    refine ⟨A, lo, rfl, (Grew.refl K).le (by omega), o1, leads_up5 h0 (by omega) L1, fun rs _ => ?_⟩
    have hz : zeroAt f lo l = true := by unfold zeroAt; rw [decide_eq_true_eq]; omega
    have := skip_zero (rs := rs) (leads_above G L1) hz
    rw [hold_zero c2.2]; exact this
  rw [if_neg c2]
  by_cases c3 : f = 5 ∧ hi.a = 0 ∧ lo.t = l + 1
  · rw [if_pos c3]
    obtain ⟨rfl, c3, c4⟩ := c3
    obtain ⟨⟨p1, p2, p3, p4, p5⟩, q⟩ := L1
    have ha : lo.a ≠ 0 := fun ha => by rw [if_neg (by simp [ha])] at p5; omega
    have ab : ∀ r, getC A.cells lo.a = some r → l < r.tp := leads_above (f := 5) G ⟨⟨p1, p2, p3, p4, p5⟩, q⟩
    refine ⟨A, ⟨l, lo.a⟩, rfl, (Grew.refl K).le (by omega), ⟨h0, by dsimp only; omega, o1.a0, o1.a1⟩, ⟨⟨p1, p2, h0, by omega, by rw [if_pos ⟨rfl, ha⟩]; exact ⟨Int.le_refl _, by dsimp only; omega⟩⟩, q.imp id fun ht => ?_⟩, fun rs _ => ?_⟩
    · dsimp only
      cases hg : getC A.cells lo.a with
      | none => rw [hg] at ht; exact ht.elim
      | some r => rw [hg] at ht; exact ⟨ht.1, by have := ht.2.1; omega, by have := ht.2.1; omega⟩
    · have s := skip_zero (g := getC A.cells) (f := 5) (e := ⟨l, lo.a⟩) (l := l) (rs := rs) ab (by unfold zeroAt; rw [decide_eq_true_eq]; exact .inr (.inr ⟨rfl, Int.le_refl _⟩))
      rw [s.1, s.2, hold_zero c3]
      refine ⟨hold_tag rs.length (Nat.le_refl _) rfl fun j hj => ?_, rfl⟩
      unfold zeroAt
      rw [decide_eq_decide]
      dsimp only
      omega
  rw [if_neg c3]
  obtain ⟨r1, r2, r3, r4, r5, r6⟩ := recM_is G h1 L1 L2 c1 c2
  have rok : (recM f (getC A.cells) l lo hi).ok := recM_ok K.ok.ok (by unfold formB at hfm; omega) (by omega) o1 o2
  obtain ⟨A', e, hfo, Gr, hg, oe, Le, he⟩ := K.found rok r1 r3 r4 r5 hroom
  rw [r2] at Le
  refine ⟨A', e, hfo, Gr, oe, Le, fun rs hrs => ?_⟩
  have G' := Gr.live.good
  have ha : e.a ≠ 0 := by have := (G'.ids _ _ hg).1; omega
  have g1 : hold (getC A'.cells) f lo (l + 1) rs = hold (getC A.cells) f lo (l + 1) rs := hold_grow G G' Gr.grows rs.length (Nat.le_refl _) (low_of L1)
  have g2 : hold (getC A'.cells) f hi (l + 1) rs = hold (getC A.cells) f hi (l + 1) rs := hold_grow G G' Gr.grows rs.length (Nat.le_refl _) (low_of L2)
  rcases r6 with r6 | ⟨hf, r, hr, ht, hrf, r6, k3, k4⟩
  · rw [r6] at hg
    rw [hold_one ha hg rfl rfl, hold_one ha hg rfl rfl, ← g1, ← g2]
    exact ⟨rfl, rfl⟩
  · rw [r6] at hg
    have hlo := (G.ids _ _ hr).1
    have hb : l < r.bt := by
      have := (G.ok _ _ hr).2.1
      simp only [rightB] at this
      omega
    have H := hold_long (f := f) (rs := rs) G' hrs hf ha hg rfl hb rfl (e' := lo) (by omega) (Gr.grows _ _ hr) ht rfl rfl rfl
    rw [H.1, H.2, ← g1, ← g2]
    refine ⟨rfl, ?_⟩
    rcases hf with h3 | h4
    · rw [if_pos h3, ← k3 h3]
    · rw [if_neg (by omega), ← k4 h4]

/-- the halves of an edge whose node is below -/
def sideM (f l : Int) (e : Edg) : Edg × Edg := if f = 1 ∨ f = 3 then (e, e) else if f = 5 then (⟨l + 1, e.a⟩, e0) else (e, e0)
/-- View -/
def viewM (f : Int) (A : Ar) (n l : Int) (e : Edg) : Ar × Edg × Edg × Int :=
  if l < 0 ∨ l ≥ n then (A, e0, e0, 3) else if ¬ leadsB (getC A.cells) n f e l then (A, e0, e0, 1) else
  if f = 5 ∧ (e.a = 0 ∨ e.t > l) then (A, e, e, 0) else match getC A.cells e.a with
    | none => (A, (sideM f l e).1, (sideM f l e).2, 0)
    | some r => if r.tp > l then (A, (sideM f l e).1, (sideM f l e).2, 0) else if (f = 3 ∨ f = 4) ∧ r.bt ≠ r.tp then
        if (foundM f A n ⟨r.fm, r.tp + 1, r.bt, r.lo, r.hi⟩).2.2 ≠ 0 then ((foundM f A n ⟨r.fm, r.tp + 1, r.bt, r.lo, r.hi⟩).1, e0, e0, (foundM f A n ⟨r.fm, r.tp + 1, r.bt, r.lo, r.hi⟩).2.2)
        else ((foundM f A n ⟨r.fm, r.tp + 1, r.bt, r.lo, r.hi⟩).1, (foundM f A n ⟨r.fm, r.tp + 1, r.bt, r.lo, r.hi⟩).2.1, if f = 3 then r.hi else (foundM f A n ⟨r.fm, r.tp + 1, r.bt, r.lo, r.hi⟩).2.1, 0)
      else (A, r.lo, r.hi, 0)
theorem Live.view {A : Ar} {n f l : Int} {e : Edg} (K : Live A n) (h0 : 0 ≤ l) (h1 : l < n) (L : leadsB (getC A.cells) n f e l) (o : e.ok) (hroom : A.n < A.room) :
    ∃ A' lo hi, viewM f A n l e = (A', lo, hi, 0) ∧ Grew A A' n 1 ∧ lo.ok ∧ hi.ok ∧ leadsB (getC A'.cells) n f lo (l + 1) ∧ leadsB (getC A'.cells) n f hi (l + 1) ∧ ∀ rs : List Bool, (rs.length : Int) = n - (l + 1) →
      hold (getC A'.cells) f lo (l + 1) rs = hold (getC A.cells) f e l (false :: rs) ∧ hold (getC A'.cells) f hi (l + 1) rs = hold (getC A.cells) f e l (true :: rs) := by
  have G := K.good
  have hfm := L.1.1
  have hv := L.1.2.1
  have hn := G.vars
  have ook : e0.ok := ⟨by decide, by decide, by decide, by decide⟩
  have R0 := (Grew.refl K).le (m := 1) (by omega)
  have Le0 : leadsB (getC A.cells) n f e0 (l + 1) := leads_e0 hv hfm (by omega) (by omega)
  unfold viewM
  rw [if_neg (by omega), if_neg (by simp [L])]
  have any : (f = 5 → e.a = 0 ∨ l < e.t) → (f ≠ 2 ∧ f ≠ 4) → (∀ r, getC A.cells e.a = some r → l < r.tp) → ∃ A' lo hi, ((A, e, e, 0) : Ar × Edg × Edg × Int) = (A', lo, hi, 0) ∧ Grew A A' n 1 ∧ lo.ok ∧ hi.ok ∧ leadsB (getC A'.cells) n f lo (l + 1) ∧ leadsB (getC A'.cells) n f hi (l + 1) ∧ ∀ rs : List Bool, (rs.length : Int) = n - (l + 1) →
      hold (getC A'.cells) f lo (l + 1) rs = hold (getC A.cells) f e l (false :: rs) ∧ hold (getC A'.cells) f hi (l + 1) rs = hold (getC A.cells) f e l (true :: rs) := by
    intro h5 h24 hr
    have Ln := leads_next L h1 hr h5
    refine ⟨A, e, e, rfl, R0, o, o, Ln, Ln, fun rs _ => ?_⟩
    by_cases ha : e.a = 0
    · rw [hold_zero ha, hold_zero ha, hold_zero ha]; exact ⟨rfl, rfl⟩
    · have hz : zeroAt f e l = false := by
        unfold zeroAt
        rw [decide_eq_false_iff_not]
        rintro (h | h | ⟨h, h'⟩)
        · exact h24.1 h
        · exact h24.2 h
        · rcases h5 h with h | h
          · exact ha h
          · omega
      exact ⟨(skip_any hr hz).symm, (skip_any hr hz).symm⟩
  by_cases c1 : f = 5 ∧ (e.a = 0 ∨ e.t > l)
  · rw [if_pos c1]
    refine any (fun _ => c1.2) (by omega) fun r hr => ?_
    have q := leads_child G.ids L hr
    have := (G.ids _ _ hr).1
    omega
  rw [if_neg c1]
  have side : (∀ r, getC A.cells e.a = some r → l < r.tp) → ∃ A' lo hi, ((A, (sideM f l e).1, (sideM f l e).2, 0) : Ar × Edg × Edg × Int) = (A', lo, hi, 0) ∧ Grew A A' n 1 ∧ lo.ok ∧ hi.ok ∧ leadsB (getC A'.cells) n f lo (l + 1) ∧ leadsB (getC A'.cells) n f hi (l + 1) ∧ ∀ rs : List Bool, (rs.length : Int) = n - (l + 1) →
      hold (getC A'.cells) f lo (l + 1) rs = hold (getC A.cells) f e l (false :: rs) ∧ hold (getC A'.cells) f hi (l + 1) rs = hold (getC A.cells) f e l (true :: rs) := by
    intro hr
    unfold sideM
    by_cases c2 : f = 1 ∨ f = 3
    · rw [if_pos c2]
      exact any (fun h => by omega) (by omega) hr
    rw [if_neg c2]
    by_cases c3 : f = 5
    · rw [if_pos c3]
      subst c3
      have ha : e.a ≠ 0 := fun h => c1 ⟨rfl, .inl h⟩
      have ht : ¬ e.t > l := fun h => c1 ⟨rfl, .inr h⟩
      have p5 := L.1.2.2.2.2
      rw [if_pos ⟨rfl, ha⟩] at p5
      refine ⟨A, ⟨l + 1, e.a⟩, e0, rfl, R0, ⟨by dsimp only; omega, by dsimp only; omega, o.a0, o.a1⟩, ook, ⟨⟨hfm, hv, by omega, by omega, by rw [if_pos ⟨rfl, ha⟩]; exact ⟨Int.le_refl _, by dsimp only; omega⟩⟩, L.2.imp id fun ht => ?_⟩, Le0, fun rs _ => ?_⟩
      · dsimp only
        cases hg : getC A.cells e.a with
        | none => rw [hg] at ht; exact ht.elim
        | some r => rw [hg] at ht; have := hr r hg; exact ⟨ht.1, by omega, by omega⟩
      · have s := skip_zero (g := getC A.cells) (f := 5) (e := e) (l := l) (rs := rs) hr (by unfold zeroAt; rw [decide_eq_true_eq]; exact .inr (.inr ⟨rfl, by omega⟩))
        rw [s.1, s.2, hold_zero (show e0.a = 0 from rfl)]
        refine ⟨hold_tag rs.length (Nat.le_refl _) rfl fun j hj => ?_, rfl⟩
        unfold zeroAt
        rw [decide_eq_decide]
        dsimp only
        omega
    · rw [if_neg c3]
      have Ln := leads_next L h1 hr fun h => absurd h c3
      refine ⟨A, e, e0, rfl, R0, o, ook, Ln, Le0, fun rs _ => ?_⟩
      have hz : zeroAt f e l = true := by unfold zeroAt; rw [decide_eq_true_eq]; unfold formB at hfm; omega
      have s := skip_zero (g := getC A.cells) (rs := rs) hr hz
      rw [s.1, s.2, hold_zero (show e0.a = 0 from rfl)]; exact ⟨rfl, rfl⟩
  cases hg : getC A.cells e.a with
  | none => exact side fun r hr => by rw [hg] at hr; cases hr
  | some r =>
    simp only
    by_cases c2 : r.tp > l
    · rw [if_pos c2]
      exact side fun x hx => by rw [hg] at hx; cases hx; exact c2
    rw [if_neg c2]
    have q := leads_child G.ids L hg
    have hid := (G.ids _ _ hg).1
    obtain ⟨k1, k2, k3, k4⟩ := G.ok _ _ hg
    have tp : r.tp = l := by omega
    have hrf := q.1
    subst hrf
    have ha : e.a ≠ 0 := by omega
    have k2' := k2
    simp only [rightB] at k2'
    by_cases c3 : (r.fm = 3 ∨ r.fm = 4) ∧ r.bt ≠ r.tp
    · rw [if_pos c3]
      obtain ⟨A', x, hfo, Gr, hgx, ox, Lx, hx⟩ := K.found (r := ⟨r.fm, r.tp + 1, r.bt, r.lo, r.hi⟩) (f := r.fm) ⟨k1.f0, k1.f1, by dsimp only; omega, by dsimp only; omega, k1.b0, k1.b1, k1.lo, k1.hi⟩ rfl
        (by simp only [rightB]; exact ⟨k2'.1, k2'.2.1, by omega, k2'.2.2.2.1, .inr c3.1, k2'.2.2.2.2.2.1, k2'.2.2.2.2.2.2.1, k2'.2.2.2.2.2.2.2⟩) k3 k4 hroom
      rw [hfo]
      simp only [ne_eq, not_true_eq_false, if_false]
      have Lx' : leadsB (getC A'.cells) n r.fm x (l + 1) := by rw [← tp]; exact Lx
      have hxa : x.a ≠ 0 := by have := (Gr.live.good.ids _ _ hgx).1; omega
      have k4' : leadsB (getC A'.cells) n r.fm r.hi (l + 1) := leads_up (by omega) (by omega) (by omega) (leads_grow Gr.grows k4)
      refine ⟨A', x, if r.fm = 3 then r.hi else x, rfl, Gr, ox, ?_, Lx', ?_, fun rs hrs => ?_⟩
      · split
        · exact k1.hi
        · exact ox
      · split
        · exact k4'
        · exact Lx'
      · have H := hold_long (f := r.fm) (rs := rs) Gr.live.good hrs c3.1 ha (Gr.grows _ _ hg) tp (by omega) rfl hxa hgx (by dsimp only; omega) rfl rfl rfl
        rw [← hold_grow G Gr.live.good Gr.grows (false :: rs).length (Nat.le_refl _) (low_of L), ← hold_grow G Gr.live.good Gr.grows (true :: rs).length (Nat.le_refl _) (low_of L), H.1, H.2]
        refine ⟨rfl, ?_⟩
        split <;> rfl
    · rw [if_neg c3]
      have hb : r.bt = l := by omega
      rw [hb] at k3 k4
      refine ⟨A, r.lo, r.hi, rfl, R0, k1.lo, k1.hi, k3, k4, fun rs _ => ?_⟩
      rw [hold_one ha hg tp hb, hold_one ha hg tp hb]
      exact ⟨rfl, rfl⟩
end Go.Proofs.YtbeapoopomlgaaaGreat.Sx
