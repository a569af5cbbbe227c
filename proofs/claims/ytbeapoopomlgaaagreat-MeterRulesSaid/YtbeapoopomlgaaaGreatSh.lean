/- A region whose order is drawn: the values-first walk stands for every order that the edges allow. -/
import Derived.Test.YtbeapoopomlgaaaGreatSg
namespace Go.Proofs.YtbeapoopomlgaaaGreat.Sx
open Go
section
variable {P : Program} {N : Nat} {u0 : World} {h0 : Heap} {σ : SS} {h : Heap} {α : Nat → Nat} {a : Act} {u : World} {o : Oper} {esc : List Nat} {ρ : Operand → SV} {ops : Array Oper}

/-! ### who stands ahead of whom -/
theorem masks_length : ∀ (l : List Oper) (acc : List Nat), (masks l acc).length = acc.length + l.length := by
  intro l
  induction l with
  | nil => intro acc; simp [masks]
  | cons o l ih => intro acc; simp [masks, ih]; omega

theorem masks_acc : ∀ (l : List Oper) (acc : List Nat) (j : Nat), j < acc.length → (masks l acc).getD j 0 = acc.getD j 0 := by
  intro l
  induction l with
  | nil => intro acc j _; rfl
  | cons o l ih =>
    intro acc j hj
    rw [masks, ih _ _ (by simp; omega)]
    simp [List.getD, List.getElem?_append_left hj]

theorem fold_bits (acc : List Nat) (i : Nat) : ∀ (es : List Edge) (s : Nat), Nat.testBit (es.foldl (fun s e => bif bindsB e then (s ||| 2 ^ e.on) ||| acc.getD e.on 0 else s) s) i = true →
    Nat.testBit s i = true ∨ ∃ e ∈ es, bindsB e = true ∧ (e.on = i ∨ Nat.testBit (acc.getD e.on 0) i = true) := by
  intro es
  induction es with
  | nil => intro s h; exact .inl h
  | cons e es ih =>
    intro s h
    rw [List.foldl_cons] at h
    rcases ih _ h with h | ⟨e', he', h⟩
    · cases hb : bindsB e
      · rw [hb] at h; exact .inl h
      · rw [hb] at h
        simp only [cond_true, Nat.testBit_or, Bool.or_eq_true] at h
        rcases h with (h | h) | h
        · exact .inl h
        · exact .inr ⟨e, by simp, hb, .inl (by simpa [Nat.testBit_two_pow] using h)⟩
        · exact .inr ⟨e, by simp, hb, .inr h⟩
    · exact .inr ⟨e', by simp [he'], h⟩

theorem masks_spec : ∀ (l : List Oper) (acc : List Nat) (j i : Nat), acc.length ≤ j → Nat.testBit ((masks l acc).getD j 0) i = true →
    ∃ o e, l[j - acc.length]? = some o ∧ e ∈ o.after ∧ bindsB e = true ∧ (e.on = i ∨ (e.on < j ∧ Nat.testBit ((masks l acc).getD e.on 0) i = true)) := by
  intro l
  induction l with
  | nil => intro acc j i hj h; simp [masks, List.getD, List.getElem?_eq_none hj] at h
  | cons o l ih =>
    intro acc j i hj h
    by_cases hje : j = acc.length
    · subst hje
      rw [masks, masks_acc _ _ _ (by simp)] at h
      simp only [List.getD, List.getElem?_append_right (Nat.le_refl _), Nat.sub_self, List.getElem?_cons_zero, Option.getD_some] at h
      rcases fold_bits acc i _ _ h with h | ⟨e, he, hb, h⟩
      · simp at h
      · refine ⟨o, e, by simp, by simpa using he, hb, h.imp id fun h => ?_⟩
        have hlt : e.on < acc.length := by
          rcases Nat.lt_or_ge e.on acc.length with h' | h'
          · exact h'
          · simp [List.getElem?_eq_none h'] at h
        refine ⟨hlt, ?_⟩
        rw [masks, masks_acc _ _ _ (by simp; omega)]
        simpa [List.getD, List.getElem?_append_left hlt] using h
    · obtain ⟨o', e, h1, h2, h3, h4⟩ := ih (acc ++ [o.after.toList.foldl (fun s e => bif bindsB e then (s ||| 2 ^ e.on) ||| acc.getD e.on 0 else s) 0]) j i (by simp; omega) (by rw [masks] at h; exact h)
      refine ⟨o', e, ?_, h2, h3, h4⟩
      rw [List.length_append, List.length_singleton] at h1
      rw [show j - acc.length = (j - (acc.length + 1)) + 1 from by omega]
      exact h1

/-- whoever is listed has its forerunners listed -/
def Down (ops : Array Oper) (listed : Array Bool) : Prop := ∀ j oj, ops[j]? = some oj → listed.getD j false = true → ∀ e ∈ oj.after, bindsB e = true → listed.getD e.on false = true

theorem reach_listed {listed : Array Bool} (hD : Down ops listed) {i : Nat} : ∀ (j : Nat) (oj : Oper), ops[j]? = some oj → (∀ e ∈ oj.after, bindsB e = true → listed.getD e.on false = true) →
    reach (masks ops.toList []) i j = true → listed.getD i false = true := by
  intro j
  induction j using Nat.strongRecOn with
  | _ j ih =>
    intro oj hoj hall hr
    obtain ⟨o', e, h1, h2, h3, h4⟩ := masks_spec ops.toList [] j i (Nat.zero_le _) hr
    simp only [List.length_nil, Nat.sub_zero, Array.getElem?_toList] at h1
    rw [h1] at hoj; cases hoj
    rcases h4 with rfl | ⟨hlt, h4⟩
    · exact hall e h2 h3
    · have hle := hall e h2 h3
      have hsz : ∃ p, ops[e.on]? = some p := by
        cases hp : ops[e.on]? with
        | some p => exact ⟨p, rfl⟩
        | none =>
          exfalso
          have : ops.size ≤ e.on := by simpa using hp
          have hm := masks_length ops.toList []
          simp only [List.getD] at h4
          rw [List.getElem?_eq_none (by rw [hm]; simpa using this)] at h4
          simp at h4
      obtain ⟨p, hp⟩ := hsz
      exact ih e.on hlt p hp (hD e.on p hp hle) h4

theorem readyB_mem {listed : Array Bool} {j : Nat} (h : readyB ops listed j = true) : j ∈ Region.ready .any ops listed := by
  rw [mem_ready]
  unfold readyB at h
  cases hl : listed.getD j true
  · rw [hl] at h
    refine ⟨rfl, ?_⟩
    cases ho : ops[j]? with
    | none => simp [ho] at h
    | some o =>
      refine ⟨o, rfl, fun e he hb => ?_⟩
      simp only [ho, cond_false, List.all_eq_true] at h
      have := h e (by simpa using he)
      simpa [bindsB, hb] using this
  · rw [hl] at h; simp at h

theorem Down.add {listed : Array Bool} (hD : Down ops listed) {i : Nat} (hi : i ∈ Region.ready .any ops listed) : Down ops (listed.setIfInBounds i true) := by
  obtain ⟨h0, o, ho, hall⟩ := mem_ready.1 hi
  intro j oj hoj hj e he hb
  by_cases hij : i = j
  · subst hij
    rw [ho] at hoj; cases hoj
    exact getD_set_true (hall e he hb)
  · rw [getD_set_ne false hij] at hj
    exact getD_set_true (hD j oj hoj hj e he hb)

/-! ### what an operation does to the symbolic state -/
def Inv (σ : SS) : Prop := (∀ t d, (σ.env t).names d → σ.box d ≠ none) ∧ ∀ d cs, σ.box d = some cs → ∀ s ∈ cs, ∀ d', s.names d' → σ.box d' ≠ none

structure Info (F : Form) (dst : Option Nat) (σ : SS) (h : Heap) (σ' : SS) (h' : Heap) : Prop where
  inv : Inv σ'
  env : ∃ s, σ'.env = putE σ.env dst s
  heap : F.isEff = false → h' = h
  box : ∀ d (off n : Nat) cs, σ.box d = some cs → off + n ≤ cs.length → F.leaves d off n = true → ∃ cs', σ'.box d = some cs' ∧ off + n ≤ cs'.length ∧ (cs'.drop off).take n = (cs.drop off).take n
  none : ∀ d, σ.box d = none → dst ≠ some d → σ'.box d = none
  ro : ∀ d cs, 10000 ≤ d → σ.box d = some cs → σ'.box d = some cs

theorem Inv.putE (hI : Inv σ) {dst : Option Nat} {r : SV} (hr : ∀ d, r.names d → σ.box d ≠ none) : Inv ⟨putE σ.env dst r, σ.box⟩ :=
  ⟨fun t d h => (putE_names h).elim (hr d) (hI.1 t d), hI.2⟩

set_option linter.unusedVariables false in
theorem info_plain {F : Form} {dst : Option Nat} {h' : Heap} (hI : Inv σ) {r : SV} (hr : ∀ d, r.names d → σ.box d ≠ none) (hh : F.isEff = false → h' = h) : Info F dst σ h ⟨putE σ.env dst r, σ.box⟩ h' where
  inv := hI.putE hr
  env := ⟨r, rfl⟩
  heap := hh
  box := fun d off n cs h1 h2 _ => ⟨cs, h1, h2, rfl⟩
  none := fun d h1 _ => h1
  ro := fun d cs _ h1 => h1

theorem eff_names {E} (hc : classify P esc o ρ = .eff E) {k : SV → Heap → Prop} (hE : E h k) : E h (fun r h' => (∀ d, ¬ r.names d) ∧ k r h') := by
  have hv : ∀ (v : Value) d, ¬ (SV.v v).names d := fun _ _ h => h
  have ha : ∀ d, ¬ SV.any.names d := fun _ h => h
  unfold classify newF callB callF appF at hc
  repeat' (first | (cases hc; done) | split at hc)
  all_goals first
    | (cases hc; exact fun b hb => ⟨hv _, hE b hb⟩)
    | (cases hc; obtain ⟨q, h1, h2, h3⟩ := psome_iff.1 hE; exact psome_iff.2 ⟨q, h1, h2, ha, h3⟩)
    | (cases hc; exact ⟨hE.1, fun b hb => ⟨hv _, hE.2 b hb⟩⟩)
    | (cases hc; obtain ⟨new, h1, h2⟩ := hE; exact ⟨new, h1, h2.mono fun _ _ h => ⟨hv _, h⟩⟩)
    | (cases hc; exact hE.mono fun _ _ h => exRes_mono (fun _ h => ⟨h.1, hv _, h.2⟩) h)
    | (cases hc; exact exRes_mono (fun _ h => ⟨h.1, hv _, h.2⟩) hE)
    | (cases hc; obtain ⟨es, clock, h1, h2⟩ := hE; exact ⟨es, clock, h1, exSh_mono (fun vs h => ⟨h.1, hv _, h.2⟩) h2⟩)
    | (cases hc; obtain ⟨b, es, clock, h1, h2, h3⟩ := hE; exact ⟨b, es, clock, h1, h2, ha, h3⟩)
    | (cases hc; obtain ⟨m, es, clock, h1, h2, h3⟩ := hE; exact ⟨m, es, clock, h1, h2, fun b hb => ⟨hv _, h3 b hb⟩⟩)
    | (cases hc; obtain ⟨m, since, seen, last, es, clock, h1, h2, h3, h4, h5⟩ := hE; exact ⟨m, since, seen, last, es, clock, h1, h2, h3, fun h => ⟨hv _, h4 h⟩, fun e he hs => ⟨hv _, h5 e he hs⟩⟩)
    | (cases hc; obtain ⟨m, since, seen, last, es, clock, st, e, h1, h2, h3, h4, n, h6, h5⟩ := hE; exact ⟨m, since, seen, last, es, clock, st, e, h1, h2, h3, h4, n, h6, hv _, h5⟩)
    | (cases hc; obtain ⟨bs, h1, h2⟩ := hE; exact ⟨bs, h1, hv _, h2⟩)
    | (cases hc; obtain ⟨f, rv, h1, h2, h3⟩ := hE; exact ⟨f, rv, h1, h2, h3.mono fun _ _ h => exRes_mono (fun _ h => ⟨h.1, hv _, h.2⟩) h⟩)
    | (cases hc; obtain ⟨f, fi, ca, h1, h2, h3⟩ := hE; exact ⟨f, fi, ca, h1, h2, h3.mono fun _ _ h => exRes_mono (fun _ h => ⟨h.1, hv _, h.2⟩) h⟩)

theorem OForm.eff_names {E} (hf : OForm P esc o ρ (.eff E)) {k : SV → Heap → Prop} (hE : E h k) : E h (fun r h' => (∀ d, ¬ r.names d) ∧ k r h') := by
  generalize hF : Form.eff E = F at hf
  cases hf with
  | run h => subst hF; exact Sx.eff_names h hE
  | skip => cases hF
  | bad => cases hF

theorem OForm.effb_names {d n E} (hf : OForm P esc o ρ (.effb d n E)) {vs} {k : SV → Heap → Prop} (hE : E vs h k) : E vs h (fun r h' => (∀ d, ¬ r.names d) ∧ k r h') := by
  generalize hF : Form.effb d n E = F at hf
  cases hf with
  | run h =>
    subst hF
    obtain ⟨c, ts, x, y, t, e, b, n', c', m, -, -, -, -, -, -, -, -, -, rfl⟩ := classify_effb h
    exact hE.mono fun _ _ h => ⟨fun _ h => h, h⟩
  | skip => cases hF
  | bad => cases hF

theorem OForm.pure_names {S k} {env : Nat → SV} (hf : OForm P esc o (ev env) (.pure S)) (hS : S k) : ∃ r, k r ∧ (∀ k' : SV → Prop, k' r → S k') ∧ ∀ d, r.names d → ∃ t, (env t).names d := by
  generalize hF : Form.pure S = F at hf
  cases hf with
  | run h =>
    subst hF
    obtain ⟨r, h1, h2, h3, -⟩ := classify_pure h _ hS
    refine ⟨r, h1, h2, fun d hd => ?_⟩
    obtain ⟨x, hx⟩ := h3 d hd
    cases x with
    | tmp t => exact ⟨t, hx⟩
    | _ => exact hx.elim
  | skip => cases hF; exact ⟨_, hS, fun _ h => h, fun _ h => h.elim⟩
  | bad => cases hF

theorem alloc_noName {cs sl} (h : classify P esc o ρ = .alloc cs sl) : ∀ s ∈ cs, ∀ d, ¬ s.names d := by
  intro s hs d hd
  rcases classify_alloc h with ⟨-, t, cells, rfl, -⟩ | ⟨t, n, parts, e, vs, z, cells, -, -, -, -, -, -, -, rfl⟩ <;>
    (simp only [List.mem_map] at hs; obtain ⟨y, _, rfl⟩ := hs; exact hd)

theorem svAgg_names {agg : Bool} {cs : List SV} {r : SV} (h : svAgg agg cs = some r) {d} (hd : r.names d) : ∃ s ∈ cs, s.names d := by
  unfold svAgg at h
  split at h
  · cases h; exact ⟨_, by simp, hd⟩
  · cases h
  · simp only [Option.map_eq_some_iff] at h; obtain ⟨vs, _, rfl⟩ := h; exact hd.elim

theorem interp_info {F : Form} (hf : OForm P esc o (ev σ.env) F) {dst} {K : SS → Heap → Prop} (hI : Inv σ) (hi : interp F dst K σ h) :
    interp F dst (fun σ' h' => Info F dst σ h σ' h' ∧ K σ' h') σ h := by
  cases F with
  | pure S =>
    obtain ⟨r, h1, h2, h3⟩ := hf.pure_names hi
    refine h2 _ ⟨info_plain hI (fun d hd => ?_) (fun _ => rfl), h1⟩
    obtain ⟨t, ht⟩ := h3 d hd
    exact hI.1 t d ht
  | hload p sh agg =>
    obtain ⟨q, h1, h2⟩ := psome_iff.1 hi
    exact psome_iff.2 ⟨q, h1, exSh_mono (fun vs h => ⟨h.1, info_plain hI (fun _ h => h.elim) (fun _ => rfl), h.2⟩) h2⟩
  | lload d off n agg =>
    simp only [interp] at hi ⊢
    split at hi
    · rename_i cs hb
      split at hi
      · rename_i r hn hr
        refine ⟨info_plain hI (fun d' hd' => ?_) (fun _ => rfl), hi⟩
        obtain ⟨s, hs, hsn⟩ := svAgg_names hr hd'
        exact hI.2 d cs hb s (List.mem_of_mem_drop (List.mem_of_mem_take hs)) d' hsn
      · exact hi.elim
    · exact hi.elim
  | alloc cs sl =>
    have hcs : ∀ s ∈ cs, ∀ d, ¬ s.names d := by
      generalize hF : Form.alloc cs sl = F at hf
      cases hf with
      | run h => subst hF; exact alloc_noName h
      | skip => cases hF
      | bad => cases hF
    simp only [interp] at hi ⊢
    split at hi
    · rename_i d
      split at hi
      · rename_i hb
        refine ⟨⟨⟨fun t d' hd' hn => ?_, fun d' cs' hb' s hs e he hn => ?_⟩, ⟨_, rfl⟩, fun _ => rfl, fun d' off n cs' h1 h2 _ => ⟨cs', ?_, h2, rfl⟩, fun d' h1 h2 => ?_, fun d' cs' _ h1 => ?_⟩, hi⟩
        · simp only [putB_eq] at hn
          split at hn
          · cases hn
          · rename_i hne
            have hd2 : (putE σ.env (some d) _ t).names d' := hd'
            rcases putE_names hd2 with h1 | h1
            · split at h1 <;> exact hne h1
            · exact hI.1 t d' h1 hn
        · simp only [putB_eq] at hb' hn
          split at hn
          · cases hn
          · split at hb'
            · cases hb'; exact hcs s hs e he
            · exact hI.2 d' cs' hb' s hs e he hn
        · simp only [putB_eq]
          rw [if_neg (fun h => by subst h; rw [hb] at h1; cases h1)]; exact h1
        · simp only [putB_eq]
          rw [if_neg (fun h => h2 (by rw [h]))]; exact h1
        · simp only [putB_eq]
          rw [if_neg (fun h => by subst h; rw [hb] at h1; cases h1)]; exact h1
      · exact hi.elim
    · exact hi.elim
  | lstore d off cs =>
    have hlt : d < 10000 := by
      generalize hF : Form.lstore d off cs = F at hf
      cases hf with
      | run h => subst hF; obtain ⟨t, x, y, -, -, -, -, -, hlt⟩ := classify_lstore h; exact hlt
      | skip => cases hF
      | bad => cases hF
    have hcs : ∀ s ∈ cs, ∀ d, s.names d → σ.box d ≠ none := by
      generalize hF : Form.lstore d off cs = F at hf
      cases hf with
      | run h =>
        subst hF
        obtain ⟨t, x, y, -, -, rfl, -⟩ := classify_lstore h
        intro s hs d' hd'
        have := svCells_names hs hd'
        cases y with
        | tmp t => exact hI.1 t d' this
        | _ => exact this.elim
      | skip => cases hF
      | bad => cases hF
    simp only [interp] at hi ⊢
    split at hi
    · rename_i old hb
      split at hi
      · rename_i hn hok
        have hl := Nat.le_of_ble_eq_true hn
        have hnn : ∀ d', putB σ.box d (lspl old off cs) d' = none → σ.box d' = none := fun d' hd' => by
          rw [putB_eq] at hd'; split at hd'
          · cases hd'
          · exact hd'
        refine ⟨⟨⟨fun t d' hd' hn' => ?_, fun d' cs' hb' s hs e he hn' => ?_⟩, ⟨_, rfl⟩, fun _ => rfl, fun d' off' n cs' h1 h2 h3 => ?_, fun d' h1 h2 => ?_, fun d' cs' hle h1 => ?_⟩, hi⟩
        · rcases putE_names hd' with h1 | h1
          · exact h1.elim
          · exact hI.1 t d' h1 (hnn d' hn')
        · have hn' := hnn e hn'
          simp only [putB_eq] at hb'
          split at hb'
          · cases hb'
            rcases lspl_mem hs with hs | hs
            · exact hI.2 d old hb s hs e he hn'
            · exact hcs s hs e he hn'
          · exact hI.2 d' cs' hb' s hs e he hn'
        · simp only [putB_eq]
          by_cases hdd : d' = d
          · subst hdd
            rw [hb] at h1; cases h1
            rw [if_pos rfl]
            refine ⟨_, rfl, by rw [lspl_length hl]; exact h2, ?_⟩
            apply List.ext_getElem?
            intro i
            simp only [List.getElem?_take, List.getElem?_drop]
            split
            · rename_i hin
              rw [lspl_get hl]
              simp only [Form.leaves, Nat.beq_refl, cond_true, Bool.or_eq_true, Nat.ble_eq] at h3
              rcases h3 with h3 | h3
              · rw [if_pos (by omega)]
              · rw [if_neg (by omega), if_neg (by omega)]
            · rfl
          · rw [if_neg hdd]; exact ⟨cs', h1, h2, rfl⟩
        · simp only [putB_eq]
          rw [if_neg (fun h => by subst h; rw [hb] at h1; cases h1)]; exact h1
        · simp only [putB_eq]
          rw [if_neg (by omega)]; exact h1
      · exact hi.elim
    · exact hi.elim
  | eff E =>
    exact hf.eff_mono (fun r h' hk => ⟨info_plain hI (fun d hd => (hk.1 d hd).elim) (fun h => by cases h), hk.2⟩) (hf.eff_names hi)
  | effb d n E =>
    simp only [interp] at hi ⊢
    split at hi
    · split at hi
      · exact hf.effb_mono (fun r h' hk => ⟨info_plain hI (fun d hd => (hk.1 d hd).elim) (fun h => by cases h), hk.2⟩) (hf.effb_names hi)
      · exact hi.elim
    · exact hi.elim
  | bad => exact hi.elim


/-! ### exchange -/
theorem putE_comm {env : Nat → SV} {x y : Option Nat} (r s : SV) (h : ∀ d, x = some d → y ≠ some d) : putE (putE env x r) y s = putE (putE env y s) x r := by
  cases x with
  | none => rfl
  | some d => cases y with
    | none => rfl
    | some e =>
      have hne : d ≠ e := fun hd => h d rfl (by rw [hd])
      funext t
      simp only [putE]
      cases h1 : Nat.beq t e <;> cases h2 : Nat.beq t d <;> simp only [cond_true, cond_false]
      exact absurd ((Nat.eq_of_beq_eq_true h2).symm.trans (Nat.eq_of_beq_eq_true h1)) hne

theorem ev_put {env : Nat → SV} {dst : Option Nat} {r : SV} {x : Operand} (h : ∀ d, dst = some d → x ≠ .tmp d) : ev (putE env dst r) x = ev env x := by
  cases x with
  | tmp t =>
    cases dst with
    | none => rfl
    | some d =>
      have hne : t ≠ d := fun e => h d rfl (by rw [e])
      simp only [ev, putE]
      cases hb : Nat.beq t d
      · rfl
      · exact absurd (Nat.eq_of_beq_eq_true hb) hne
  | _ => rfl

theorem opt_map_congr {ρ ρ' : Operand → SV} {x : Option Operand} (h : ∀ y, x = some y → ρ y = ρ' y) : x.map ρ = x.map ρ' := by
  cases x with
  | none => rfl
  | some y => simp [h y rfl]

theorem classify_congr {ρ ρ' : Operand → SV} (h : ∀ x ∈ o.op.operands, ρ x = ρ' x) : classify P esc o ρ = classify P esc o ρ' := by
  obtain ⟨dst, op, type, pos, after, guard⟩ := o
  have pairs : ∀ ps : Array (Nat × Operand), (∀ x ∈ ps.map (·.2), ρ x = ρ' x) → (ps.toList.map fun p => ρ p.2) = ps.toList.map fun p => ρ' p.2 := fun ps hp =>
    List.map_congr_left fun p hm => hp p.2 (Array.mem_map.2 ⟨p, by simpa using hm, rfl⟩)
  have lists : ∀ ps : Array Operand, (∀ x ∈ ps, ρ x = ρ' x) → ps.toList.map ρ = ps.toList.map ρ' := fun ps hp => List.map_congr_left fun p hm => hp p (by simpa using hm)
  cases op <;> simp only [Op.operands] at h <;> simp only [classify]
  case build t ps => rw [pairs ps fun x hx => h x (by simpa using hx)]
  case buildSlice t n ps => rw [pairs ps fun x hx => h x (by simpa using hx)]
  case makeFunc fn first captured => rw [lists first fun x hx => h x (by simp [hx]), lists captured fun x hx => h x (by simp [hx])]
  case call c =>
    have h1 := lists c.args fun x hx => h x (by simp [Call.operands, hx])
    cases hc : c.callee with
    | builtin b => simp only [h1]
    | value f =>
      have h2 := h f (by simp [Call.operands, hc])
      cases f <;> simp only [h1, h2]
    | invoke r m =>
      have h2 := h r (by simp [Call.operands, hc])
      simp only [h1, h2]
  case slice t x lo hi mx => cases lo <;> cases hi <;> cases mx <;> simp_all
  all_goals (first | rfl | (simp_all; done))

theorem opForm_put {env : Nat → SV} {dst : Option Nat} {r : SV} (h : ∀ d, dst = some d → d ∉ o.looksAt ops) : opForm P esc ops o (putE env dst r) = opForm P esc ops o env := by
  have hc : classify P esc o (ev (putE env dst r)) = classify P esc o (ev env) := classify_congr fun x hx => ev_put fun d hd hxd => h d hd (by
    subst hxd
    exact List.mem_append_left _ (List.mem_filterMap.2 ⟨.tmp d, by simpa using hx, rfl⟩))
  unfold opForm
  cases hg : o.guard with
  | none => exact hc
  | some gw =>
    obtain ⟨g, want⟩ := gw
    simp only
    cases ht : (ops[g]?).bind (·.dst) with
    | none => rfl
    | some t =>
      simp only
      have : putE env dst r t = env t := by
        cases dst with
        | none => rfl
        | some d =>
          have hne : t ≠ d := fun e => h d rfl (by subst e; simp [Oper.looksAt, hg, ht])
          simp only [putE]
          cases hb : Nat.beq t d
          · rfl
          · exact absurd (Nat.eq_of_beq_eq_true hb) hne
      rw [this, hc]

/-- an operation that doesn't write slot 'x' goes on the same whether it is put already -/
theorem interp_env {F : Form} (hf : OForm P esc o ρ F) {env box} {dst x : Option Nat} {r : SV} {K : SS → Heap → Prop} (hne : ∀ d, x = some d → dst ≠ some d)
    (hi : interp F dst K ⟨putE env x r, box⟩ h) : interp F dst (fun σ' h' => K ⟨putE σ'.env x r, σ'.box⟩ h') ⟨env, box⟩ h := by
  have hc : ∀ s, putE (putE env x r) dst s = putE (putE env dst s) x r := fun s => putE_comm r s hne
  cases F with
  | pure S =>
    obtain ⟨s, h1, h2⟩ := hf.pure_get hi
    simp only at h1
    rw [hc] at h1
    exact h2 _ h1
  | hload p sh agg =>
    obtain ⟨q, h1, h2⟩ := psome_iff.1 hi
    exact psome_iff.2 ⟨q, h1, exSh_mono (fun vs h => ⟨h.1, by have := h.2; simp only [hc] at this; exact this⟩) h2⟩
  | lload d off n agg => simp only [interp, hc] at hi ⊢; exact hi
  | alloc cs sl =>
    simp only [interp] at hi ⊢
    split at hi
    · split at hi
      · rw [hc] at hi; exact hi
      · exact hi.elim
    · exact hi.elim
  | lstore d off cs => simp only [interp, hc] at hi ⊢; exact hi
  | eff E => exact hf.eff_mono (fun s h' hk => by simp only [hc] at hk; exact hk) hi
  | effb d n E =>
    simp only [interp] at hi ⊢
    split at hi
    · split at hi
      · exact hf.effb_mono (fun s h' hk => by simp only [hc] at hk; exact hk) hi
      · exact hi.elim
    · exact hi.elim
  | bad => exact hi.elim

theorem putB_comm {box : Nat → Option (List SV)} {d e : Nat} (c c' : List SV) (h : d ≠ e) : putB (putB box d c) e c' = putB (putB box e c') d c := by
  funext t
  simp only [putB_eq]
  split <;> split <;> first | rfl | (rename_i h1 h2; exact absurd (h2.symm.trans h1) h)

/-- does a form name a box? -/
def Form.touches : Form → Nat → Prop
  | .lload d _ _ _, e => d = e
  | .lstore d _ _, e => d = e
  | .effb d _ _, e => d = e
  | _, _ => False

/-- an operation that doesn't touch box d goes on the same whether it is there already -/
theorem interp_box {F : Form} (hf : OForm P esc o ρ F) {env box} {dst : Option Nat} {d : Nat} {cs : List SV} {K : SS → Heap → Prop} (hb : box d = none) (hne : dst ≠ some d) (ht : ¬ F.touches d)
    (hi : interp F dst K ⟨env, putB box d cs⟩ h) : interp F dst (fun σ' h' => K ⟨σ'.env, putB σ'.box d cs⟩ h') ⟨env, box⟩ h := by
  cases F with
  | pure S =>
    obtain ⟨s, h1, h2⟩ := hf.pure_get hi
    exact h2 _ h1
  | hload p sh agg => exact hi
  | lload d' off n agg =>
    have hd : d' ≠ d := ht
    simp only [interp, putB_eq, if_neg hd] at hi ⊢
    exact hi
  | alloc cs' sl =>
    simp only [interp] at hi ⊢
    split at hi
    · rename_i d'
      have hd : d' ≠ d := fun e => hne (by rw [e])
      rw [putB_eq, if_neg hd] at hi
      split at hi
      · rename_i hb'
        rw [putB_comm _ _ (Ne.symm hd)] at hi
        first
          | exact hi
          | (simp only [hb']; exact hi)
      · exact hi.elim
    · exact hi.elim
  | lstore d' off cs' =>
    have hd : d' ≠ d := ht
    have hpb : putB box d cs d' = box d' := by rw [putB_eq, if_neg hd]
    simp only [interp, hpb] at hi ⊢
    cases hb' : box d' with
    | none => simp only [hb'] at hi
    | some old =>
      simp only [hb'] at hi ⊢
      split at hi
      · rw [putB_comm _ _ (Ne.symm hd)] at hi
        exact hi
      · exact hi.elim
  | eff E => exact hi
  | effb d' n E =>
    have hd : d' ≠ d := ht
    simp only [interp, putB_eq, if_neg hd] at hi ⊢
    exact hi
  | bad => exact hi.elim

end
end Go.Proofs.YtbeapoopomlgaaaGreat.Sx
