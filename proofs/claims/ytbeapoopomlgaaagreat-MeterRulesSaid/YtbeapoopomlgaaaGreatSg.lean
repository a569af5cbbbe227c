/- Regions: one behind the other, and in whatever order their edges allow. -/
import Derived.Test.YtbeapoopomlgaaaGreatSf
namespace Go.Proofs.YtbeapoopomlgaaaGreat.Sx
open Go
section
variable {P : Program} {N : Nat} {u0 : World} {h0 : Heap} {σ : SS} {h : Heap} {α : Nat → Nat} {a : Act} {u : World} {o : Oper} {esc : List Nat} {ρ : Operand → SV} {ops : Array Oper}

theorem putE_same {env : Nat → SV} {d : Nat} {r : SV} (hr : env d = r) : putE env (some d) r = env := by
  funext t
  simp only [putE]
  cases hb : Nat.beq t d
  · rfl
  · rw [Nat.eq_of_beq_eq_true hb, hr]; rfl

theorem brK_iff {g : Bool} {dst : Option Nat} {K : SS → Heap → Prop} : brK g dst K σ h ↔ K σ h := by
  unfold brK
  split
  · rename_i d
    split
    · rename_i b hb
      cases b <;> simp [pif, putE_same hb]
    · rfl
  · rfl

theorem exSh_mono {l : List Sh} {k k' : List Value → Prop} (hk : ∀ vs, k vs → k' vs) (h : exSh l k) : exSh l k' := by
  obtain ⟨vs, h1, h2⟩ := exSh_iff.1 h
  exact exSh_iff.2 ⟨vs, h1, hk vs h2⟩

theorem exTup_mono : ∀ {l : List TypeId} {k k' : List Value → Prop}, (∀ vs, k vs → k' vs) → exTup P l k → exTup P l k' := by
  intro l
  induction l with
  | nil => exact fun hk h => hk _ h
  | cons t l ih => exact fun hk h => exSh_mono (fun vs h => ih (fun ws h => hk _ h) h) h
theorem exRes_mono {t : TypeId} {k k' : Value → Prop} (hk : ∀ v, k v → k' v) (h : exRes P t k) : exRes P t k' := by
  unfold exRes at *
  split at h
  · exact exTup_mono (fun vs h => hk _ h) h
  · exact exSh_mono (fun vs h => hk _ h) h

theorem Spec.mono {f args} {K K' : Value → Heap → Prop} (hS : Spec P f args h K) (hk : ∀ v h', K v h' → K' v h') : Spec P f args h K' :=
  ⟨fun u hu => (hS.run u hu).mono fun _ _ ⟨v, h', e1, e2, e3⟩ => ⟨v, h', e1, hk _ _ e2, e3⟩⟩

theorem AppendS.mono {e s new cnt} {K K' : Sl → Heap → Prop} (hS : AppendS P h e s new cnt K) (hk : ∀ v h', K v h' → K' v h') : AppendS P h e s new cnt K' where
  one := hS.one
  inf := hS.inf
  room := fun hr => (hS.room hr).imp (fun h => ⟨h.1, hk _ _ h.2⟩) (fun ⟨a, h1, h2, h3⟩ => ⟨a, h1, h2, hk _ _ h3⟩)
  grow := fun hr => by
    obtain ⟨g1, g2, old, z, g3, g4, g5, g6, g7⟩ := hS.grow hr
    exact ⟨g1, g2, old, z, g3, g4, g5, g6, fun cap b hc hb => hk _ _ (g7 cap b hc hb)⟩

/-- an effect's form may be weakened -/
theorem eff_mono {E} (hc : classify P esc o ρ = .eff E) {k k' : SV → Heap → Prop} (hk : ∀ r h', k r h' → k' r h') (hE : E h k) : E h k' := by
  unfold classify newF callB callF appF at hc
  repeat' (first | (cases hc; done) | split at hc)
  all_goals first
    | (cases hc; exact fun b hb => hk _ _ (hE b hb))
    | (cases hc; obtain ⟨q, h1, h2, h3⟩ := psome_iff.1 hE; exact psome_iff.2 ⟨q, h1, h2, hk _ _ h3⟩)
    | (cases hc; exact ⟨hE.1, fun b hb => hk _ _ (hE.2 b hb)⟩)
    | (cases hc; obtain ⟨new, h1, h2⟩ := hE; exact ⟨new, h1, h2.mono fun _ _ h => hk _ _ h⟩)
    | (cases hc; exact hE.mono fun _ _ h => exRes_mono (fun _ h => ⟨h.1, hk _ _ h.2⟩) h)
    | (cases hc; exact exRes_mono (fun _ h => ⟨h.1, hk _ _ h.2⟩) hE)
    | (cases hc; obtain ⟨es, clock, h1, h2⟩ := hE; exact ⟨es, clock, h1, exSh_mono (fun vs h => ⟨h.1, hk _ _ h.2⟩) h2⟩)
    | (cases hc; obtain ⟨b, es, clock, h1, h2, h3⟩ := hE; exact ⟨b, es, clock, h1, h2, hk _ _ h3⟩)
    | (cases hc; obtain ⟨m, es, clock, h1, h2, h3⟩ := hE; exact ⟨m, es, clock, h1, h2, fun b hb => hk _ _ (h3 b hb)⟩)
    | (cases hc; obtain ⟨m, since, seen, last, es, clock, h1, h2, h3, h4, h5⟩ := hE; exact ⟨m, since, seen, last, es, clock, h1, h2, h3, fun h => hk _ _ (h4 h), fun e he hs => hk _ _ (h5 e he hs)⟩)
    | (cases hc; obtain ⟨m, since, seen, last, es, clock, st, e, h1, h2, h3, h4, n, h6, h5⟩ := hE; exact ⟨m, since, seen, last, es, clock, st, e, h1, h2, h3, h4, n, h6, hk _ _ h5⟩)
    | (cases hc; obtain ⟨bs, h1, h2⟩ := hE; exact ⟨bs, h1, hk _ _ h2⟩)
    | (cases hc; obtain ⟨f, rv, h1, h2, h3⟩ := hE; exact ⟨f, rv, h1, h2, h3.mono fun _ _ h => exRes_mono (fun _ h => ⟨h.1, hk _ _ h.2⟩) h⟩)
    | (cases hc; obtain ⟨f, fi, ca, h1, h2, h3⟩ := hE; exact ⟨f, fi, ca, h1, h2, h3.mono fun _ _ h => exRes_mono (fun _ h => ⟨h.1, hk _ _ h.2⟩) h⟩)


theorem effb_mono {d n E} (hc : classify P esc o ρ = .effb d n E) {vs} {k k' : SV → Heap → Prop} (hk : ∀ r h', k r h' → k' r h') (hE : E vs h k) : E vs h k' := by
  obtain ⟨c, ts, x, y, t, e, b, n', c', m, -, -, -, -, -, -, -, -, -, rfl⟩ := classify_effb hc
  exact hE.mono fun _ _ h => hk _ _ h

/-- the form behind a guard -/
inductive OForm (P : Program) (esc : List Nat) (o : Oper) (ρ : Operand → SV) : Form → Prop
  | run {F} (h : classify P esc o ρ = F) : OForm P esc o ρ F
  | skip : OForm P esc o ρ (.pure fun k => k (.v (.tuple #[])))
  | bad : OForm P esc o ρ .bad

theorem opForm_o (env : Nat → SV) : OForm P esc o (ev env) (opForm P esc ops o env) := by
  unfold opForm
  split
  · exact .run rfl
  · split
    · split
      · split
        · exact .run rfl
        · exact .run rfl
        · exact .skip
        · exact .skip
      · exact .skip
      · exact .bad
    · exact .bad

theorem OForm.pure_get {S k} (hf : OForm P esc o ρ (.pure S)) (hS : S k) : ∃ r, k r ∧ ∀ k' : SV → Prop, k' r → S k' := by
  generalize hF : Form.pure S = F at hf
  cases hf with
  | run h =>
    subst hF
    obtain ⟨r, h1, h2, -⟩ := classify_pure h _ hS
    exact ⟨r, h1, h2⟩
  | skip => cases hF; exact ⟨_, hS, fun _ h => h⟩
  | bad => cases hF

theorem OForm.eff_mono {E} (hf : OForm P esc o ρ (.eff E)) {k k' : SV → Heap → Prop} (hk : ∀ r h', k r h' → k' r h') (hE : E h k) : E h k' := by
  generalize hF : Form.eff E = F at hf
  cases hf with
  | run h => subst hF; exact Sx.eff_mono h hk hE
  | skip => cases hF
  | bad => cases hF

theorem OForm.effb_mono {d n E} (hf : OForm P esc o ρ (.effb d n E)) {vs} {k k' : SV → Heap → Prop} (hk : ∀ r h', k r h' → k' r h') (hE : E vs h k) : E vs h k' := by
  generalize hF : Form.effb d n E = F at hf
  cases hf with
  | run h => subst hF; exact Sx.effb_mono h hk hE
  | skip => cases hF
  | bad => cases hF

theorem interp_mono {F : Form} (hf : OForm P esc o ρ F) {dst} {K K' : SS → Heap → Prop} (hk : ∀ σ h, K σ h → K' σ h) (hi : interp F dst K σ h) : interp F dst K' σ h := by
  cases F with
  | pure S =>
    obtain ⟨r, h1, h2⟩ := hf.pure_get hi
    exact h2 _ (hk _ _ h1)
  | hload p sh agg =>
    obtain ⟨q, h1, h2⟩ := psome_iff.1 hi
    exact psome_iff.2 ⟨q, h1, exSh_mono (fun vs h => ⟨h.1, hk _ _ h.2⟩) h2⟩
  | lload d off n agg =>
    simp only [interp] at hi ⊢
    split at hi
    · split at hi
      · exact hk _ _ hi
      · exact hi.elim
    · exact hi.elim
  | alloc cs sl =>
    simp only [interp] at hi ⊢
    split at hi
    · split at hi
      · exact hk _ _ hi
      · exact hi.elim
    · exact hi.elim
  | lstore d off cs =>
    simp only [interp] at hi ⊢
    split at hi
    · split at hi
      · exact hk _ _ hi
      · exact hi.elim
    · exact hi.elim
  | eff E => exact hf.eff_mono (fun _ _ h => hk _ _ h) hi
  | effb d n E =>
    simp only [interp] at hi ⊢
    split at hi
    · split at hi
      · exact hf.effb_mono (fun _ _ h => hk _ _ h) hi
      · exact hi.elim
    · exact hi.elim
  | bad => exact hi.elim

/-- is the slot's guard met? -/
theorem guard_read (R : Rel N u0 h0 σ h α a u) {j t : Nat} {b : Bool} (ht : (ops[j]?).bind (·.dst) = some t) (he : σ.env t = .v (.bool b)) : yielded ops a.tmps j = some b := by
  have := R.env t
  rw [he] at this
  simp only [SV.rel, Array.getD_eq_getD_getElem?] at this
  unfold yielded
  rw [ht]
  cases hg : a.tmps[t]? with
  | none => rw [hg] at this; cases this
  | some y => rw [hg] at this; simp only [Option.getD_some] at this; subst this; simp [hg]

theorem guard_none (R : Rel N u0 h0 σ h α a u) {j t : Nat} {vs} (ht : (ops[j]?).bind (·.dst) = some t) (he : σ.env t = .v (.tuple vs)) : yielded ops a.tmps j = none := by
  have := R.env t
  rw [he] at this
  simp only [SV.rel, Array.getD_eq_getD_getElem?] at this
  unfold yielded
  rw [ht]
  cases hg : a.tmps[t]? with
  | none => simp [hg]
  | some y => rw [hg] at this; simp only [Option.getD_some] at this; subst this; simp [hg]

/-- one operation of a region, its guard looked at -/
theorem sound_form {K : SS → Heap → Prop} {Q} (hN : NamesOK P) (R : Rel N u0 h0 σ h α a u) (hd : ∀ d, o.dst = some d → d < N)
    (hi : interp (opForm P esc ops o σ.env) o.dst K σ h) :
    (Region.wanted o (yielded ops a.tmps) = true ∧ o.wp P a u (After N u0 h0 K) Q) ∨ (Region.wanted o (yielded ops a.tmps) = false ∧ After N u0 h0 K (a.put o.dst undef) u) := by
  unfold opForm at hi
  have hskip : ∀ {K' : SS → Heap → Prop}, K' ⟨putE σ.env o.dst (.v (.tuple #[])), σ.box⟩ h → After N u0 h0 K' (a.put o.dst undef) u := fun hk => ⟨_, h, α, hk, R.put hd rfl fun _ h => h.elim⟩
  split at hi
  · rename_i hg
    exact .inl ⟨by simp [Region.wanted, hg], sound_op hN R hd hi⟩
  · rename_i j want hg
    split at hi
    · rename_i t ht
      split at hi
      · rename_i b he
        have hy := guard_read R ht he
        split at hi
        · exact .inl ⟨by simp [Region.wanted, hg, hy], sound_op hN R hd hi⟩
        · exact .inl ⟨by simp [Region.wanted, hg, hy], sound_op hN R hd hi⟩
        · exact .inr ⟨by simp [Region.wanted, hg, hy], hskip hi⟩
        · exact .inr ⟨by simp [Region.wanted, hg, hy], hskip hi⟩
      · rename_i vs he
        exact .inr ⟨by simp [Region.wanted, hg, guard_none R ht he], hskip hi⟩
      · exact hi.elim
    · exact hi.elim

/-- a region without a draw -/
theorem sound_list {Q : Exit → Act → World → Prop} (hN : NamesOK P) {K : SS → Heap → Prop} (hQ : ∀ a u, After N u0 h0 K a u → Q .normal a u) : ∀ (l : List Oper) (i : Nat) {σ h α a u}, (∀ o ∈ l, ∀ d, o.dst = some d → d < N) →
    Rel N u0 h0 σ h α a u → listS P esc ops i l K σ h → wpList P ops Q l a u := by
  intro l
  induction l with
  | nil => intro i σ h α a u _ R hk; exact hQ _ _ ⟨σ, h, α, hk, R⟩
  | cons o l ih =>
    intro i σ h α a u hd R hk
    simp only [listS, stepS] at hk
    have hk := interp_mono (opForm_o σ.env) (fun σ h hk => brK_iff.1 hk) hk
    unfold wpList
    rcases sound_form hN (Q := Q) R (hd o (by simp)) hk with ⟨hw, h1⟩ | ⟨hw, σ', h', α', h1, R'⟩
    · rw [if_pos hw]
      exact .inl (Oper.wp_mono (fun a' u' ⟨σ', h', α', h2, R'⟩ => ih (i + 1) (fun o ho => hd o (by simp [ho])) R' h2) h1)
    · rw [if_neg (by simp [hw])]
      exact ih (i + 1) (fun o ho => hd o (by simp [ho])) R' h1

end
end Go.Proofs.YtbeapoopomlgaaaGreat.Sx
