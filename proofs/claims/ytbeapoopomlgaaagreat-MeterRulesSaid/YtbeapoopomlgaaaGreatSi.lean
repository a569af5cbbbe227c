/- Every order of a drawn region. -/
import Derived.Test.YtbeapoopomlgaaaGreatSh
namespace Go.Proofs.YtbeapoopomlgaaaGreat.Sx
open Go
section
variable {P : Program} {N : Nat} {u0 : World} {h0 : Heap} {σ : SS} {h : Heap} {α : Nat → Nat} {a : Act} {u : World} {o : Oper} {esc : List Nat} {ρ : Operand → SV} {ops : Array Oper}

theorem touches_names {F : Form} {env : Nat → SV} (hf : OForm P esc o (ev env) F) {d} (ht : F.touches d) : ∃ t, (env t).names d := by
  have key : ∀ x : Operand, (ev env x).names d → ∃ t, (env t).names d := fun x hx => by
    cases x with
    | tmp t => exact ⟨t, hx⟩
    | _ => exact hx.elim
  cases F with
  | lload d' off n agg =>
    obtain rfl : d' = d := ht
    generalize hF : Form.lload d' off n agg = F at hf
    cases hf with
    | run h =>
      subst hF
      obtain ⟨t, x, -, -, -, ⟨d2, off2, hx, h1⟩ | h1⟩ := classify_load h (.inr ⟨_, _, _, _, rfl⟩)
      · cases h1; exact key x (by rw [hx]; rfl)
      · obtain ⟨_, _, h1⟩ := h1; cases h1
    | skip => cases hF
    | bad => cases hF
  | lstore d' off cs =>
    obtain rfl : d' = d := ht
    generalize hF : Form.lstore d' off cs = F at hf
    cases hf with
    | run h =>
      subst hF
      obtain ⟨t, x, y, -, hx, -⟩ := classify_lstore h
      exact key x (by rw [hx]; rfl)
    | skip => cases hF
    | bad => cases hF
  | effb d' n E =>
    obtain rfl : d' = d := ht
    generalize hF : Form.effb d' n E = F at hf
    cases hf with
    | run h =>
      subst hF
      obtain ⟨c, ts, x, y, t, e, b, n', c', m, -, -, -, hxy, -⟩ := classify_effb h
      obtain ⟨p, q, -, -, hq⟩ := map2 hxy
      exact key q (by rw [hq]; rfl)
    | skip => cases hF
    | bad => cases hF
  | _ => exact ht.elim

theorem chks_iff {ms j F h'} : ∀ {Φ : List (Nat × Pend)} {K : Prop}, chks ms j F h' Φ K ↔ chks ms j F h' Φ True ∧ K := by
  intro Φ
  induction Φ with
  | nil => intro K; simp [chks]
  | cons p Φ ih =>
    intro K
    obtain ⟨k, pe⟩ := p
    cases pe with
    | hl a vs =>
      simp only [chks]
      cases reach ms k j <;> cases F.isEff <;> simp only <;> first
        | exact ih
        | (constructor
           · rintro ⟨h1, h2⟩; exact ⟨⟨h1, (ih.1 h2).1⟩, (ih.1 h2).2⟩
           · rintro ⟨⟨h1, h2⟩, h3⟩; exact ⟨h1, ih.2 ⟨h2, h3⟩⟩)
    | ll d off n =>
      simp only [chks]
      cases reach ms k j <;> cases F.leaves d off n <;> simp only [false_and] <;> exact ih

theorem chks_append {ms j F h'} : ∀ {Φ Ψ : List (Nat × Pend)} {K : Prop}, chks ms j F h' (Φ ++ Ψ) K ↔ chks ms j F h' Φ True ∧ chks ms j F h' Ψ K := by
  intro Φ
  induction Φ with
  | nil => intro Ψ K; simp [chks]
  | cons p Φ ih =>
    intro Ψ K
    obtain ⟨k, pe⟩ := p
    cases pe with
    | hl a vs =>
      simp only [List.cons_append, chks]
      cases reach ms k j <;> cases F.isEff <;> simp only [ih, and_assoc]
    | ll d off n =>
      simp only [List.cons_append, chks]
      cases reach ms k j <;> cases F.leaves d off n <;> simp only [ih, false_and]

theorem chks_float {ms j F h'} (h1 : F.isEff = false) (h2 : ∀ d off n, F.leaves d off n = true) : ∀ {Φ : List (Nat × Pend)} {K : Prop}, K → chks ms j F h' Φ K := by
  intro Φ
  induction Φ with
  | nil => intro K h; exact h
  | cons p Φ ih =>
    intro K h
    obtain ⟨k, pe⟩ := p
    cases pe with
    | hl a vs => simp only [chks, h1]; cases reach ms k j <;> exact ih h
    | ll d off n => simp only [chks, h2]; cases reach ms k j <;> exact ih h

/-- whatever order comes -/
def AnyS (P : Program) (esc : List Nat) (ops : Array Oper) (K : SS → Heap → Prop) : Nat → Array Bool → List (Nat × Pend) → SS → Heap → Prop
  | 0, listed, _, σ, h => Region.ready .any ops listed = [] ∧ K σ h
  | n + 1, listed, Φ, σ, h => (Region.ready .any ops listed = [] → K σ h) ∧ ∀ i ∈ Region.ready .any ops listed, ∀ o, ops[i]? = some o →
      interp (opForm P esc ops o σ.env) o.dst (fun σ' h' => chks (masks ops.toList []) i (opForm P esc ops o σ.env) h' Φ (AnyS P esc ops K n (listed.setIfInBounds i true) Φ σ' h')) σ h

theorem AnyS.drop {K : SS → Heap → Prop} {Ψ : List (Nat × Pend)} : ∀ {n listed Φ σ h}, AnyS P esc ops K n listed (Ψ ++ Φ) σ h → AnyS P esc ops K n listed Φ σ h := by
  intro n
  induction n with
  | zero => exact fun h => h
  | succ n ih =>
    intro listed Φ σ h H
    refine ⟨H.1, fun i hi o ho => interp_mono (opForm_o _) (fun σ' h' hk => ?_) (H.2 i hi o ho)⟩
    have h2 := chks_iff.1 (chks_append.1 hk).2
    exact chks_iff.2 ⟨h2.1, ih h2.2⟩

theorem any_sound {K : SS → Heap → Prop} {Q : Exit → Act → World → Prop} (hN : NamesOK P) (hQ : ∀ a u, After N u0 h0 K a u → Q .normal a u) (hd : ∀ o ∈ ops, ∀ d, o.dst = some d → d < N) :
    ∀ {n listed Φ σ h α a u}, Rel N u0 h0 σ h α a u → AnyS P esc ops K n listed Φ σ h → wpAny P .any ops Q n listed a u := by
  intro n
  induction n with
  | zero => intro listed Φ σ h α a u R H; exact ⟨H.1, hQ _ _ ⟨σ, h, α, H.2, R⟩⟩
  | succ n ih =>
    intro listed Φ σ h α a u R H
    refine ⟨fun hr => hQ _ _ ⟨σ, h, α, H.1 hr, R⟩, fun i hi => ?_⟩
    unfold wpOp
    cases ho : ops[i]? with
    | none =>
      have := (mem_ready.1 hi).2
      obtain ⟨o, ho', -⟩ := this
      rw [ho] at ho'; cases ho'
    | some o =>
      simp only
      rcases sound_form hN (Q := Q) R (hd o (Array.mem_of_getElem? ho)) (H.2 i hi o ho) with ⟨hw, h1⟩ | ⟨hw, σ', h', α', h1, R'⟩
      · rw [if_pos hw]
        exact .inl (Oper.wp_mono (fun a' u' ⟨σ', h', α', h2, R'⟩ => ih R' (chks_iff.1 h2).2) h1)
      · rw [if_neg (by simp [hw])]
        exact ih R' (chks_iff.1 h1).2


/-- an operation of the first kind is one of a walk -/
theorem interpF_interp {F : Form} (hf : OForm P esc o ρ F) {dst} {ms j} {Φ : List (Nat × Pend)} {K : List Pend → SS → Heap → Prop} {K' : SS → Heap → Prop} (hk : ∀ pe σ h, K pe σ h → K' σ h) (hi : interpF F dst K σ h) :
    interp F dst (fun σ' h' => chks ms j F h' Φ (K' σ' h')) σ h := by
  cases F with
  | pure S =>
    obtain ⟨r, h1, h2⟩ := hf.pure_get hi
    exact h2 _ (chks_float rfl (fun _ _ _ => rfl) (hk _ _ _ h1))
  | hload p sh agg =>
    obtain ⟨q, h1, h2⟩ := psome_iff.1 hi
    exact psome_iff.2 ⟨q, h1, exSh_mono (fun vs h => ⟨h.1, chks_float rfl (fun _ _ _ => rfl) (hk _ _ _ h.2)⟩) h2⟩
  | lload d off n agg =>
    simp only [interp, interpF] at hi ⊢
    split at hi
    · split at hi
      · exact chks_float rfl (fun _ _ _ => rfl) (hk _ _ _ hi)
      · exact hi.elim
    · exact hi.elim
  | alloc cs sl =>
    simp only [interp, interpF] at hi ⊢
    split at hi
    · split at hi
      · exact chks_float rfl (fun _ _ _ => rfl) (hk _ _ _ hi)
      · exact hi.elim
    · exact hi.elim
  | _ => exact hi.elim

theorem interpF_get {F : Form} (hf : OForm P esc o ρ F) {dst} {K : List Pend → SS → Heap → Prop} (hi : interpF F dst K σ h) : ∃ pe σ' h', K pe σ' h' := by
  cases F with
  | pure S =>
    obtain ⟨r, h1, h2⟩ := hf.pure_get hi
    exact ⟨_, _, _, h1⟩
  | hload p sh agg =>
    obtain ⟨q, h1, h2⟩ := psome_iff.1 hi
    obtain ⟨vs, -, -, h3⟩ := exSh_iff.1 h2
    exact ⟨_, _, _, h3⟩
  | lload d off n agg =>
    simp only [interpF] at hi
    split at hi
    · split at hi
      · exact ⟨_, _, _, hi⟩
      · exact hi.elim
    · exact hi.elim
  | alloc cs sl =>
    simp only [interpF] at hi
    split at hi
    · split at hi
      · exact ⟨_, _, _, hi⟩
      · exact hi.elim
    · exact hi.elim
  | _ => exact hi.elim

theorem exchange {oi oj : Oper} {ms : List Nat} {i j : Nat} {Φ : List (Nat × Pend)} {X : List Pend → SS → Heap → Prop} (hI : Inv σ) (hap : oi.apart ops oj = true) (hu : reach ms i j = false)
    (H : interpF (opForm P esc ops oi σ.env) oi.dst (fun pe σ1 h1 => interp (opForm P esc ops oj σ1.env) oj.dst (fun σ2 h2 => chks ms j (opForm P esc ops oj σ1.env) h2 (pe.map (fun p => (i, p)) ++ Φ) (X pe σ2 h2)) σ1 h1) σ h) :
    interp (opForm P esc ops oj σ.env) oj.dst (fun σ1 h1 => Inv σ1 ∧ chks ms j (opForm P esc ops oj σ.env) h1 Φ (interpF (opForm P esc ops oi σ1.env) oi.dst X σ1 h1)) σ h := by
  obtain ⟨a1, a2, a3⟩ := Oper.apart_spec hap
  have hj : ∀ r, opForm P esc ops oj (putE σ.env oi.dst r) = opForm P esc ops oj σ.env := fun r => opForm_put a1
  have hi : ∀ s, opForm P esc ops oi (putE σ.env oj.dst s) = opForm P esc ops oi σ.env := fun s => opForm_put a3
  have hne : ∀ d, oi.dst = some d → oj.dst ≠ some d := a2
  have hfj : OForm P esc oj (ev σ.env) (opForm P esc ops oj σ.env) := opForm_o σ.env
  have hfi : OForm P esc oi (ev σ.env) (opForm P esc ops oi σ.env) := opForm_o σ.env
  generalize hFi : opForm P esc ops oi σ.env = Fi at H hfi hi
  cases Fi with
  | pure S =>
    obtain ⟨r, h1, h2⟩ := hfi.pure_get H
    simp only [hj] at h1
    have h3 := interp_info hfj hI (interp_env hfj hne h1)
    refine interp_mono hfj (fun σ1 h1' hk => ?_) h3
    obtain ⟨hinf, hk⟩ := hk
    obtain ⟨s, hs⟩ := hinf.env
    refine ⟨hinf.inv, chks_iff.2 ⟨(chks_iff.1 hk).1, ?_⟩⟩
    rw [hs, hi]
    have := h2 (fun r => X [] ⟨putE σ1.env oi.dst r, σ1.box⟩ h1') (chks_iff.1 hk).2
    simp only [interpF]
    exact this
  | hload p sh agg =>
    obtain ⟨q, hq, h2⟩ := psome_iff.1 H
    obtain ⟨vs, hsh, hhas, h1⟩ := exSh_iff.1 h2
    simp only [hj] at h1
    have h3 := interp_info hfj hI (interp_env hfj hne h1)
    refine interp_mono hfj (fun σ1 h1' hk => ?_) h3
    obtain ⟨hinf, hk⟩ := hk
    obtain ⟨s, hs⟩ := hinf.env
    simp only [List.map_cons, List.map_nil, List.cons_append, List.nil_append, chks, hu] at hk
    refine ⟨hinf.inv, ?_⟩
    rw [hs, hi]
    cases he : (opForm P esc ops oj σ.env).isEff
    · rw [he] at hk
      rw [hinf.heap he] at hk ⊢
      exact chks_iff.2 ⟨(chks_iff.1 hk).1, psome_iff.2 ⟨q, hq, exSh_iff.2 ⟨vs, hsh, hhas, (chks_iff.1 hk).2⟩⟩⟩
    · rw [he] at hk
      exact chks_iff.2 ⟨(chks_iff.1 hk.2).1, psome_iff.2 ⟨q, hq, exSh_iff.2 ⟨vs, hsh, hk.1, (chks_iff.1 hk.2).2⟩⟩⟩
  | lload d off n agg =>
    simp only [interpF] at H
    split at H
    · rename_i cs hb
      split at H
      · rename_i r hn hr
        simp only [hj] at H
        have h3 := interp_info hfj hI (interp_env hfj hne H)
        refine interp_mono hfj (fun σ1 h1' hk => ?_) h3
        obtain ⟨hinf, hk⟩ := hk
        obtain ⟨s, hs⟩ := hinf.env
        simp only [List.map_cons, List.map_nil, List.cons_append, List.nil_append, chks, hu] at hk
        refine ⟨hinf.inv, ?_⟩
        rw [hs, hi]
        cases hlv : (opForm P esc ops oj σ.env).leaves d off n
        · rw [hlv] at hk; exact hk.elim
        · rw [hlv] at hk
          obtain ⟨cs', g1, g2, g3⟩ := hinf.box d off n cs hb (Nat.le_of_ble_eq_true hn) hlv
          refine chks_iff.2 ⟨(chks_iff.1 hk).1, ?_⟩
          have g2' : Nat.ble (off + n) cs'.length = true := by simpa using g2
          simp only [interpF, g1, g2', g3, hr]
          exact (chks_iff.1 hk).2
      · exact H.elim
    · exact H.elim
  | alloc cs sl =>
    simp only [interpF] at H
    split at H
    · rename_i d hd
      split at H
      · rename_i hb
        have hnt : ¬ (opForm P esc ops oj σ.env).touches d := fun ht => by
          obtain ⟨t, ht⟩ := touches_names hfj ht
          exact hI.1 t d ht hb
        simp only [hj] at H
        have hdne : oj.dst ≠ some d := hne d hd
        have h3 := interp_info hfj hI (interp_box hfj (box := σ.box) hb hdne hnt (interp_env hfj hne H))
        refine interp_mono hfj (fun σ1 h1' hk => ?_) h3
        obtain ⟨hinf, hk⟩ := hk
        obtain ⟨s, hs⟩ := hinf.env
        have hb1 := hinf.none d hb hdne
        refine ⟨hinf.inv, chks_iff.2 ⟨(chks_iff.1 hk).1, ?_⟩⟩
        rw [hs, hi]
        simp only [interpF, hd, hb1]
        have := (chks_iff.1 hk).2
        rw [hd] at this
        exact this
      · exact H.elim
    · exact H.elim
  | _ => exact H.elim

/-- an operation of the first kind may be taken first -/
theorem take {K : SS → Heap → Prop} {i : Nat} {oi : Oper} (hoi : ops[i]? = some oi) : ∀ {n : Nat} {listed : Array Bool} {Φ : List (Nat × Pend)} {σ : SS} {h : Heap}, Down ops listed → i ∈ Region.ready .any ops listed →
    (∀ j oj, ops[j]? = some oj → listed.getD j true = false → j ≠ i → reach (masks ops.toList []) i j = false → oi.apart ops oj = true) → Inv σ →
    interpF (opForm P esc ops oi σ.env) oi.dst (fun pe σ1 h1 => AnyS P esc ops K n (listed.setIfInBounds i true) (pe.map (fun p => (i, p)) ++ Φ) σ1 h1) σ h → AnyS P esc ops K (n + 1) listed Φ σ h := by
  intro n
  induction n with
  | zero =>
    intro listed Φ σ h hD hr hap hI H
    refine ⟨fun h => (by rw [h] at hr; cases hr), fun j hj oj hoj => ?_⟩
    by_cases hji : j = i
    · subst hji
      rw [hoi] at hoj; cases hoj
      exact interpF_interp (opForm_o _) (fun pe σ h H => AnyS.drop H) H
    · obtain ⟨pe, σ1, h1, H1⟩ := interpF_get (opForm_o _) H
      have := ready_mono hj hji
      rw [H1.1] at this; cases this
  | succ n ih =>
    intro listed Φ σ h hD hr hap hI H
    refine ⟨fun h => (by rw [h] at hr; cases hr), fun j hj oj hoj => ?_⟩
    by_cases hji : j = i
    · subst hji
      rw [hoi] at hoj; cases hoj
      exact interpF_interp (opForm_o _) (fun pe σ h H => AnyS.drop H) H
    · have hjr := ready_mono hj hji
      obtain ⟨hjun, oj', hoj', hall⟩ := mem_ready.1 hj
      rw [hoj] at hoj'; cases hoj'
      have hiun := (mem_ready.1 hr).1
      have hu : reach (masks ops.toList []) i j = false := by
        cases hrc : reach (masks ops.toList []) i j
        · rfl
        · have := reach_listed hD j oj hoj hall hrc
          simp only [Array.getD_eq_getD_getElem?] at this hiun
          cases hg : listed[i]? <;> simp_all
      have hap1 := hap j oj hoj hjun hji hu
      have H2 : interpF (opForm P esc ops oi σ.env) oi.dst (fun pe σ1 h1 => interp (opForm P esc ops oj σ1.env) oj.dst (fun σ2 h2 => chks (masks ops.toList []) j (opForm P esc ops oj σ1.env) h2 (pe.map (fun p => (i, p)) ++ Φ)
          (AnyS P esc ops K n ((listed.setIfInBounds i true).setIfInBounds j true) (pe.map (fun p => (i, p)) ++ Φ) σ2 h2)) σ1 h1) σ h := by
        revert H
        generalize hF : opForm P esc ops oi σ.env = F
        intro H
        cases F with
        | pure S =>
          obtain ⟨r, h1, h2⟩ := (hF ▸ opForm_o (ops := ops) (o := oi) (P := P) (esc := esc) σ.env : OForm P esc oi (ev σ.env) (.pure S)).pure_get H
          exact h2 _ (h1.2 j hjr oj hoj)
        | hload p sh agg =>
          obtain ⟨q, h1, h2⟩ := psome_iff.1 H
          exact psome_iff.2 ⟨q, h1, exSh_mono (fun vs h => ⟨h.1, h.2.2 j hjr oj hoj⟩) h2⟩
        | lload d off n agg =>
          simp only [interpF] at H ⊢
          split at H
          · split at H
            · exact H.2 j hjr oj hoj
            · exact H.elim
          · exact H.elim
        | alloc cs sl =>
          simp only [interpF] at H ⊢
          split at H
          · split at H
            · exact H.2 j hjr oj hoj
            · exact H.elim
          · exact H.elim
        | _ => exact H.elim
      refine interp_mono (opForm_o _) (fun σ1 h1 hk => ?_) (exchange hI hap1 hu H2)
      obtain ⟨hI1, hk⟩ := hk
      refine chks_iff.2 ⟨(chks_iff.1 hk).1, ?_⟩
      have hk2 := (chks_iff.1 hk).2
      refine ih (hD.add hj) (ready_mono hr (Ne.symm hji)) (fun k ok hok hkun hki hrk => hap k ok hok ?_ hki hrk) hI1 ?_
      · by_cases hjk : j = k
        · subst hjk; exact hjun
        · rw [getD_set_ne true hjk] at hkun; exact hkun
      · rw [Array.setIfInBounds_comm _ _ (Ne.symm hji)] at hk2
        exact hk2


theorem getD_all {listed : Array Bool} (h : listed.all id = true) (i : Nat) : listed.getD i true = true := by
  rw [Array.all_eq_true_iff_forall_mem] at h
  simp only [Array.getD_eq_getD_getElem?]
  cases hg : listed[i]? with
  | none => rfl
  | some b => exact h b (Array.mem_of_getElem? hg)

theorem okFloat_spec {listed : Array Bool} {i : Nat} (h : okFloat ops (masks ops.toList []) listed i o = true) : i ∈ Region.ready .any ops listed ∧
    ∀ j oj, ops[j]? = some oj → listed.getD j true = false → j ≠ i → reach (masks ops.toList []) i j = false → o.apart ops oj = true := by
  unfold okFloat at h
  cases hr : readyB ops listed i
  · rw [hr] at h; cases h
  · rw [hr, cond_true, List.all_eq_true] at h
    refine ⟨readyB_mem hr, fun j oj hoj hun hji hre => ?_⟩
    have := h j (by simp; exact (Array.getElem?_eq_some_iff.1 hoj).1)
    have hb : Nat.beq j i = false := by
      cases hb : Nat.beq j i
      · rfl
      · exact absurd (Nat.eq_of_beq_eq_true hb) hji
    simpa [hun, hb, hre, hoj] using this

theorem okEff_spec {listed : Array Bool} {i : Nat} (hD : Down ops listed) (h : okEff ops (masks ops.toList []) listed i = true) : i ∈ Region.ready .any ops listed ∧ ∀ j ∈ Region.ready .any ops listed, j = i := by
  unfold okEff at h
  cases hr : readyB ops listed i
  · rw [hr] at h; cases h
  · rw [hr, cond_true, List.all_eq_true] at h
    refine ⟨readyB_mem hr, fun j hj => ?_⟩
    by_cases hji : j = i
    · exact hji
    · obtain ⟨hun, oj, hoj, hall⟩ := mem_ready.1 hj
      have := h j (by simp; exact (Array.getElem?_eq_some_iff.1 hoj).1)
      have hb : Nat.beq j i = false := by
        cases hb : Nat.beq j i
        · rfl
        · exact absurd (Nat.eq_of_beq_eq_true hb) hji
      have hre : reach (masks ops.toList []) i j = true := by simpa [hun, hb] using this
      have hl := reach_listed hD j oj hoj hall hre
      have hiun := (mem_ready.1 (readyB_mem hr)).1
      simp only [Array.getD_eq_getD_getElem?] at hl hiun
      cases hg : listed[i]? <;> simp_all

theorem drawS_any {K : SS → Heap → Prop} : ∀ (l : List Nat) {listed : Array Bool} {Φ : List (Nat × Pend)} {σ : SS} {h : Heap}, Down ops listed → Inv σ → drawS P esc ops (masks ops.toList []) K l listed Φ σ h →
    ∀ n, l.length ≤ n → AnyS P esc ops K n listed Φ σ h := by
  intro l
  induction l with
  | nil =>
    intro listed Φ σ h hD hI H n _
    simp only [drawS] at H
    split at H
    · rename_i hall
      have hr : Region.ready .any ops listed = [] := by
        apply List.eq_nil_iff_forall_not_mem.2
        intro j hj
        have := (mem_ready.1 hj).1
        rw [getD_all hall] at this; cases this
      cases n with
      | zero => exact ⟨hr, H⟩
      | succ n => exact ⟨fun _ => H, fun i hi => by rw [hr] at hi; cases hi⟩
    · exact H.elim
  | cons i l ih =>
    intro listed Φ σ h hD hI H n hn
    simp only [List.length_cons] at hn
    obtain ⟨n, rfl⟩ : ∃ m, n = m + 1 := ⟨n - 1, by omega⟩
    simp only [drawS] at H
    split at H
    · exact H.elim
    · rename_i o ho
      split at H
      · split at H
        · rename_i hok
          obtain ⟨h1, h2⟩ := okFloat_spec hok
          refine take ho hD h1 h2 hI ?_
          have hf := opForm_o (P := P) (esc := esc) (ops := ops) (o := o) σ.env
          -- the state behind it keeps what the names of boxes ask
          have hinfo := interp_info hf hI (interpF_interp (ms := []) (j := 0) (Φ := []) (K' := fun _ _ => True) hf (fun _ _ _ _ => trivial) H)
          revert H hinfo hf
          generalize opForm P esc ops o σ.env = F
          intro H hf hinfo
          have hK : ∀ (pe : List Pend) σ' h', Inv σ' → brK (isGuard ops i) o.dst (drawS P esc ops (masks ops.toList []) K l (listed.setIfInBounds i true) (pe.map (fun p => (i, p)) ++ Φ)) σ' h' →
              AnyS P esc ops K n (listed.setIfInBounds i true) (pe.map (fun p => (i, p)) ++ Φ) σ' h' := fun pe σ' h' hI' hk => ih (hD.add h1) hI' (brK_iff.1 hk) n (by omega)
          cases F with
          | pure S =>
            obtain ⟨r, g1, g2, g3⟩ := hf.pure_names H
            exact g2 _ (hK [] _ _ (hI.putE fun d hd => by obtain ⟨t, ht⟩ := g3 d hd; exact hI.1 t d ht) g1)
          | hload p sh agg =>
            obtain ⟨q, g1, g2⟩ := psome_iff.1 H
            exact psome_iff.2 ⟨q, g1, exSh_mono (fun vs h => ⟨h.1, hK _ _ _ (hI.putE fun _ h => h.elim) h.2⟩) g2⟩
          | lload d off m agg =>
            simp only [interpF] at H ⊢
            simp only [interp] at hinfo
            cases hb : σ.box d with
            | none => simp only [hb] at H
            | some cs =>
              simp only [hb] at H hinfo ⊢
              split at H
              · rename_i hn' hr'
                simp only [hn', hr'] at hinfo
                exact hK _ _ _ hinfo.1.inv H
              · exact H.elim
          | alloc cs sl =>
            simp only [interpF] at H ⊢
            simp only [interp] at hinfo
            split at H
            · rename_i d hd
              split at H
              · rename_i hb
                simp only [hd, hb] at hinfo
                rw [hd] at H ⊢
                exact hK _ _ _ hinfo.1.inv (by rw [hd]; exact H)
              · exact H.elim
            · exact H.elim
          | _ => exact H.elim
        · exact H.elim
      · split at H
        · rename_i hok
          obtain ⟨h1, h2⟩ := okEff_spec hD hok
          refine ⟨fun hr => (by rw [hr] at h1; cases h1), fun j hj oj hoj => ?_⟩
          obtain rfl := h2 j hj
          rw [ho] at hoj; cases hoj
          refine interp_mono (opForm_o _) (fun σ' h' hk => ?_) (interp_info (opForm_o _) hI H)
          obtain ⟨hinf, hk⟩ := hk
          have h3 := chks_iff.1 hk
          exact chks_iff.2 ⟨h3.1, ih (hD.add h1) hinf.inv h3.2 n (by omega)⟩
        · exact H.elim

theorem order_length : ∀ (n : Nat) (listed : Array Bool), (order P esc ops n listed).length ≤ n := by
  intro n
  induction n with
  | zero => intro l; simp [order]
  | succ n ih =>
    intro l
    simp only [order]
    split <;> simp <;> exact ih _

theorem Rel.inv (R : Rel N u0 h0 σ h α a u) : Inv σ := ⟨R.refs, R.brefs⟩

theorem Rel.drew (R : Rel N u0 h0 σ h α a u) (n : Nat) : Rel N u0 h0 σ h α a { u with drawn := n } :=
  ⟨R.sz, R.env, R.defers, R.box, R.boxh, R.inj, R.refs, R.brefs, ⟨R.fr.heap, R.fr.size, R.fr.frame, R.fr.dom, R.fr.os, R.fr.out⟩⟩

/-- A REGION -/
theorem sound_region {K : SS → Heap → Prop} {Q : Exit → Act → World → Prop} (hN : NamesOK P) (hm : P.follows .mixedOrders = true) (hQ : ∀ a u, After N u0 h0 K a u → Q .normal a u) {id : Nat} {draw : Bool}
    (hd : ∀ o ∈ ops, ∀ d, o.dst = some d → d < N) (R : Rel N u0 h0 σ h α a u) (H : regionS P esc ops draw K σ h) : (Code.region id ops draw).wp P Q a u := by
  cases draw with
  | false =>
    simp only [regionS] at H
    exact wp_region_list (sound_list hN hQ ops.toList 0 (fun o ho => hd o (by simpa using ho)) R H)
  | true =>
    simp only [regionS] at H
    have hD : Down ops (Array.replicate ops.size false) := fun j oj _ hj => by
      simp only [Array.getD_eq_getD_getElem?, Array.getElem?_replicate] at hj
      split at hj <;> simp at hj
    have R' := R.drew (u.drawn + 1)
    exact wp_region_any hm (any_sound hN hQ hd R' (drawS_any _ hD R.inv H _ (order_length _ _)))

end
end Go.Proofs.YtbeapoopomlgaaaGreat.Sx
