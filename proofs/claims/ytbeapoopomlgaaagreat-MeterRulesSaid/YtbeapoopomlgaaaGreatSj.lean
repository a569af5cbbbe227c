/- Code: what the weakest condition tells holds of the machine's walk. -/
import Derived.Test.YtbeapoopomlgaaaGreatSi
namespace Go.Proofs.YtbeapoopomlgaaaGreat.Sx
open Go
section
variable {P : Program} {N : Nat} {u0 : World} {h0 : Heap} {σ : SS} {h : Heap} {α : Nat → Nat} {a : Act} {u : World} {o : Oper} {esc : List Nat} {ops : Array Oper} {ann : Nat → Option LoopAnn}

structure FrameV (W : List Nat) (σ σ' : SS) : Prop where
  env : ∀ t, t ∉ W → ∀ x, σ.env t = .v x → σ'.env t = .v x
  box : ∀ d cs, 10000 ≤ d → σ.box d = some cs → ∃ cs', σ'.box d = some cs' ∧ cs'.length = cs.length ∧ ∀ (i : Nat) x, cs[i]? = some (.v x) → cs'[i]? = some (.v x)

theorem FrameV.refl (W : List Nat) (σ : SS) : FrameV W σ σ := ⟨fun _ _ _ h => h, fun _ cs _ h => ⟨cs, h, rfl, fun _ _ h => h⟩⟩
theorem FrameV.trans {W W' W'' : List Nat} {σ σ' σ'' : SS} (h : FrameV W σ σ') (h' : FrameV W' σ' σ'') (hs : ∀ t ∈ W, t ∈ W'') (hs' : ∀ t ∈ W', t ∈ W'') : FrameV W'' σ σ'' where
  env := fun t ht x hx => h'.env t (fun h => ht (hs' t h)) x (h.env t (fun h => ht (hs t h)) x hx)
  box := fun d cs hd hb => by
    obtain ⟨cs', h1, h2, h3⟩ := h.box d cs hd hb
    obtain ⟨cs'', g1, g2, g3⟩ := h'.box d cs' hd h1
    exact ⟨cs'', g1, g2.trans h2, fun i x hi => g3 i x (h3 i x hi)⟩
theorem FrameV.mono {W W' : List Nat} {σ σ' : SS} (h : FrameV W σ σ') (hs : ∀ t ∈ W, t ∈ W') : FrameV W' σ σ' := h.trans (FrameV.refl W' _) hs fun _ h => h

theorem Info.frame {F : Form} {dst : Option Nat} {σ' : SS} {h' : Heap} {W : List Nat} (hi : Info F dst σ h σ' h') (hd : ∀ d, dst = some d → d ∈ W) : FrameV W σ σ' where
  env := fun t ht x hx => by
    obtain ⟨s, hs⟩ := hi.env
    rw [hs]
    cases dst with
    | none => exact hx
    | some d =>
      simp only [putE]
      cases hb : Nat.beq t d
      · exact hx
      · exact absurd (by rw [Nat.eq_of_beq_eq_true hb]; exact hd d rfl) ht
  box := fun d cs hle hb => ⟨cs, hi.ro d cs hle hb, rfl, fun _ _ h => h⟩

/-- the state behind a piece of code, and what it has kept -/
def Aft (N : Nat) (u0 : World) (h0 : Heap) (W : List Nat) (σ0 : SS) (K : Exit → SS → Heap → Prop) (e : Exit) (a' : Act) (u' : World) : Prop :=
  ∃ σ' h' α', K e σ' h' ∧ FrameV W σ0 σ' ∧ Rel N u0 h0 σ' h' α' a' u'

theorem listS_mono {K K' : SS → Heap → Prop} (hk : ∀ σ h, K σ h → K' σ h) : ∀ (l : List Oper) (i : Nat) {σ h}, listS P esc ops i l K σ h → listS P esc ops i l K' σ h := by
  intro l
  induction l with
  | nil => intro i σ h H; exact hk _ _ H
  | cons o l ih =>
    intro i σ h H
    simp only [listS, stepS] at H ⊢
    exact interp_mono (opForm_o _) (fun σ' h' h => brK_iff.2 (ih _ (brK_iff.1 h))) H

theorem AnyS.mono {K K' : SS → Heap → Prop} (hk : ∀ σ h, K σ h → K' σ h) : ∀ {n listed Φ σ h}, AnyS P esc ops K n listed Φ σ h → AnyS P esc ops K' n listed Φ σ h := by
  intro n
  induction n with
  | zero => exact fun h => ⟨h.1, hk _ _ h.2⟩
  | succ n ih => exact fun h => ⟨fun hr => hk _ _ (h.1 hr), fun i hi o ho => interp_mono (opForm_o _) (fun σ' h' hk => chks_iff.2 ⟨(chks_iff.1 hk).1, ih (chks_iff.1 hk).2⟩) (h.2 i hi o ho)⟩

theorem AnyS.frame {W : List Nat} {K : SS → Heap → Prop} (hd : ∀ o ∈ ops, ∀ d, o.dst = some d → d ∈ W) : ∀ {n listed Φ σ h}, Inv σ → AnyS P esc ops K n listed Φ σ h →
    AnyS P esc ops (fun σ' h' => FrameV W σ σ' ∧ K σ' h') n listed Φ σ h := by
  intro n
  induction n with
  | zero => exact fun hI h => ⟨h.1, FrameV.refl W _, h.2⟩
  | succ n ih =>
    intro listed Φ σ h hI H
    refine ⟨fun hr => ⟨FrameV.refl W _, H.1 hr⟩, fun i hi o ho => interp_mono (opForm_o _) (fun σ' h' hk => ?_) (interp_info (opForm_o _) hI (H.2 i hi o ho))⟩
    obtain ⟨hinf, hk⟩ := hk
    have hf := hinf.frame (hd o (Array.mem_of_getElem? ho))
    refine chks_iff.2 ⟨(chks_iff.1 hk).1, AnyS.mono (fun σ'' h'' hk => ⟨hf.trans hk.1 (fun _ h => h) (fun _ h => h), hk.2⟩) (ih hinf.inv (chks_iff.1 hk).2)⟩

theorem listS_frame {W : List Nat} {K : SS → Heap → Prop} : ∀ (l : List Oper) (i : Nat) {σ h}, Inv σ → (∀ o ∈ l, ∀ d, o.dst = some d → d ∈ W) → listS P esc ops i l K σ h →
    listS P esc ops i l (fun σ' h' => FrameV W σ σ' ∧ K σ' h') σ h := by
  intro l
  induction l with
  | nil => intro i σ h _ _ H; exact ⟨FrameV.refl W σ, H⟩
  | cons o l ih =>
    intro i σ h hI hd H
    simp only [listS, stepS] at H ⊢
    refine interp_mono (opForm_o _) (fun σ' h' hk => ?_) (interp_info (opForm_o _) hI H)
    obtain ⟨hinf, hk⟩ := hk
    rw [brK_iff] at hk ⊢
    have hf := hinf.frame (hd o (by simp))
    have := ih (i + 1) hinf.inv (fun o ho => hd o (by simp [ho])) hk
    exact listS_mono (fun σ'' h'' hk => ⟨hf.trans hk.1 (fun _ h => h) (fun _ h => h), hk.2⟩) l (i + 1) this


theorem sound_region' {W : List Nat} {K : SS → Heap → Prop} {Q : Exit → Act → World → Prop} (hN : NamesOK P) (hm : P.follows .mixedOrders = true) (hQ : ∀ a u, Aft N u0 h0 W σ (fun _ => K) .normal a u → Q .normal a u) {id : Nat} {draw : Bool}
    (hd : ∀ o ∈ ops, ∀ d, o.dst = some d → d < N) (hw : ∀ o ∈ ops, ∀ d, o.dst = some d → d ∈ W) (R : Rel N u0 h0 σ h α a u) (H : regionS P esc ops draw K σ h) : (Code.region id ops draw).wp P Q a u := by
  have hQ' : ∀ a u, After N u0 h0 (fun σ' h' => FrameV W σ σ' ∧ K σ' h') a u → Q .normal a u := fun a u ⟨σ', h', α', ⟨hf, hk⟩, R'⟩ => hQ a u ⟨σ', h', α', hk, hf, R'⟩
  cases draw with
  | false =>
    simp only [regionS] at H
    exact wp_region_list (sound_list hN hQ' ops.toList 0 (fun o ho => hd o (by simpa using ho)) R (listS_frame ops.toList 0 R.inv (fun o ho => hw o (by simpa using ho)) H))
  | true =>
    simp only [regionS] at H
    have hD : Down ops (Array.replicate ops.size false) := fun j oj _ hj => by
      simp only [Array.getD_eq_getD_getElem?, Array.getElem?_replicate] at hj
      split at hj <;> simp at hj
    have R' := R.drew (u.drawn + 1)
    exact wp_region_any hm (any_sound hN hQ' hd R' (AnyS.frame hw R.inv (drawS_any _ hD R.inv H _ (order_length _ _))))

/-! ### loops -/
theorem wp_loop_rel {c : Code} {Q : Exit → Act → World → Prop} (I : Nat → Act → World → Prop) (round : ∀ n a w, I n a w → c.wp P (Exit.then (fun a' w' => ∃ m, m < n ∧ I m a' w') Q) a w) :
    ∀ n a w, I n a w → (Code.loop c).wp P Q a w := by
  intro n a w hI b k cs
  have key : ∀ n a w, I n a w → ∃ e a' w', Q e a' w' ∧ Arrives P (lone (b.at a (.code c :: .inLoop c :: k)) cs w) b k cs e a' w' := by
    intro n
    induction n using Nat.strongRecOn with
    | _ n ih =>
      intro a w hI
      obtain ⟨e, a₁, w₁, hq, harr⟩ := round n a w hI b (.inLoop c :: k) cs
      cases e with
      | normal =>
        obtain ⟨m, hlt, hI₁⟩ := hq
        obtain ⟨e₂, a₂, w₂, hq₂, harr₂⟩ := ih m hlt a₁ w₁ hI₁
        exact ⟨e₂, a₂, w₂, hq₂, .of_steps (Steps.trans harr (.one step_inLoop)) harr₂⟩
      | exit id => exact ⟨_, a₁, w₁, hq, .pass (x := .inLoop c) rfl (fun _ _ => .inl (by simp)) harr⟩
      | goto l => exact ⟨_, a₁, w₁, hq, .pass (x := .inLoop c) rfl (fun _ _ => .inl (by simp)) harr⟩
      | ret => exact ⟨_, a₁, w₁, hq, .pass (x := .inLoop c) rfl (fun _ _ => .inl (by simp)) harr⟩
      | panic ch => exact ⟨_, a₁, w₁, hq, .pass (x := .inLoop c) rfl (fun _ _ => .inl (by simp)) harr⟩
      | outgrown => exact ⟨_, a₁, w₁, hq, .pass (x := .inLoop c) rfl (fun _ _ => .inl (by simp)) harr⟩
  obtain ⟨e, a', w', hq, harr⟩ := key n a w hI
  exact ⟨e, a', w', hq, .of_steps (.one step_loop) harr⟩

theorem kEq_of {s : Sh} {v : Value} {x : s.Dom} (h : s.of v = some x) : v = s.val x := by
  unfold Sh.of at h
  split at h
  · split at h
    · rename_i hk; obtain rfl := kEq_iff.1 hk; cases h; rfl
    · cases h
  all_goals first
    | (cases h; rfl)
    | cases h

theorem Tup.of_vals : ∀ {l : List Sh} {vs : List Value} {s : Tup l}, Tup.of l vs = some s → Tup.vals l s = vs := by
  intro l
  induction l with
  | nil => intro vs s h; cases vs <;> simp_all [Tup.of, Tup.vals]
  | cons sh l ih =>
    intro vs s h
    cases vs with
    | nil => simp [Tup.of] at h
    | cons v vs =>
      simp only [Tup.of] at h
      split at h
      · rename_i x y hx hy
        cases h
        simp only [Tup.vals]
        rw [ih hy, kEq_of hx]
      · cases h

theorem catO_cons {x : Option (List Value)} {r vs} (h : catO (x :: r) = some vs) : ∃ a b, x = some a ∧ catO r = some b ∧ vs = a ++ b := by
  cases x with
  | none => simp [catO] at h
  | some a =>
    simp only [catO, Option.map_eq_some_iff] at h
    obtain ⟨b, hb, rfl⟩ := h
    exact ⟨a, b, rfl, hb, rfl⟩

theorem catO_append : ∀ {x y : List (Option (List Value))} {vs}, catO (x ++ y) = some vs → ∃ a b, catO x = some a ∧ catO y = some b ∧ vs = a ++ b := by
  intro x
  induction x with
  | nil => intro y vs h; exact ⟨[], vs, rfl, h, rfl⟩
  | cons z x ih =>
    intro y vs h
    obtain ⟨a, b, rfl, hb, rfl⟩ := catO_cons h
    obtain ⟨a', b', h1, h2, rfl⟩ := ih hb
    exact ⟨a ++ a', b', by simp [catO, h1], h2, by simp⟩

theorem vSlot_one {sh : VSh} {s : SV} {vs} (h : vSlot sh s = some vs) : vs.length = sh.shs.length := by
  unfold vSlot at h
  split at h
  · cases h; rfl
  · split at h
    · rename_i hl; cases h; exact Nat.eq_of_beq_eq_true hl
    · cases h
  · cases h

theorem mem_iff {l : List Nat} {d : Nat} : mem l d = true ↔ d ∈ l := by
  simp only [mem, List.any_eq_true]
  constructor
  · rintro ⟨e, he, h⟩; rw [Nat.eq_of_beq_eq_true h]; exact he
  · exact fun h => ⟨d, h, by simp⟩

theorem setSlots_eq {env : Nat → SV} : ∀ {l : List (Nat × VSh)} {vs rest : List Value} {base : Nat → SV} (_ : catO (l.map fun p => vSlot p.2 (env p.1)) = some vs) (t : Nat),
    setSlots l (vs ++ rest) base t = if t ∈ l.map (·.1) then env t else base t := by
  intro l
  induction l with
  | nil => intro vs rest base h t; simp [setSlots]
  | cons p l ih =>
    intro vs rest base h t
    obtain ⟨d, sh⟩ := p
    obtain ⟨a, b, ha, hb, rfl⟩ := catO_cons h
    have key : setSlots ((d, sh) :: l) (a ++ b ++ rest) base = setSlots l (b ++ rest) (putE base (some d) (env d)) := by
      unfold vSlot at ha
      simp only at ha
      split at ha
      · rename_i x hx
        cases ha
        simp only [List.cons_append, List.nil_append, setSlots, hx]
      · rename_i l' cs hx
        split at ha
        · rename_i hl
          cases ha
          have hl := Nat.eq_of_beq_eq_true hl
          simp only [setSlots, List.append_assoc, hx]
          rw [← hl, List.drop_left, List.take_left]
        · cases ha
      · cases ha
    rw [key, ih hb]
    simp only [List.map_cons, List.mem_cons]
    by_cases h1 : t ∈ l.map (·.1)
    · rw [if_pos h1, if_pos (.inr h1)]
    · rw [if_neg h1]
      simp only [putE]
      by_cases h2 : t = d
      · subst h2; simp
      · have : Nat.beq t d = false := by
          cases hb : Nat.beq t d
          · rfl
          · exact absurd (Nat.eq_of_beq_eq_true hb) h2
        rw [if_neg (by simp only [not_or]; exact ⟨h2, h1⟩), this]; rfl

theorem setBoxes_eq {box : Nat → Option (List SV)} : ∀ {l : List (Nat × List Sh)} {vs : List Value} {base : Nat → Option (List SV)}
    (_ : catO (l.map fun p => (box p.1).bind fun cs => match Nat.beq cs.length p.2.length with | true => allV cs | false => none) = some vs) (d : Nat),
    setBoxes l vs base d = if d ∈ l.map (·.1) then box d else base d := by
  intro l
  induction l with
  | nil => intro vs base h d; simp [setBoxes]
  | cons p l ih =>
    intro vs base h d
    obtain ⟨e, sh⟩ := p
    obtain ⟨a, b, ha, hb, rfl⟩ := catO_cons h
    simp only at ha
    cases hbx : box e with
    | none => simp [hbx] at ha
    | some cs =>
      simp only [hbx, Option.bind_some] at ha
      split at ha
      · rename_i hl
        have hl := Nat.eq_of_beq_eq_true hl
        have hm := allV_map ha
        have hal : a.length = sh.length := by rw [hm] at hl; simpa using hl
        simp only [setBoxes, ← hal, List.drop_left, List.take_left, ← hm]
        rw [ih hb]
        simp only [List.map_cons, List.mem_cons]
        by_cases h1 : d ∈ l.map (·.1)
        · rw [if_pos h1, if_pos (.inr h1)]
        · rw [if_neg h1, putB_eq]
          by_cases h2 : d = e
          · subst h2; rw [if_pos rfl, if_pos (.inl rfl), hbx]
          · rw [if_neg h2, if_neg (by simp only [not_or]; exact ⟨h2, h1⟩)]
      · cases ha

theorem slots_length {env : Nat → SV} : ∀ {l : List (Nat × VSh)} {vs}, catO (l.map fun p => vSlot p.2 (env p.1)) = some vs → vs.length = (l.flatMap fun p => p.2.shs).length := by
  intro l
  induction l with
  | nil => intro vs h; simp only [List.map_nil, catO, Option.some.injEq] at h; subst h; rfl
  | cons p l ih =>
    intro vs h
    obtain ⟨a, b, ha, hb, rfl⟩ := catO_cons h
    simp [vSlot_one ha, ih hb]

/-- a loop's head, out of what was collected -/
theorem head_env {A : LoopAnn} {σc σ : SS} {vs} (hc : collect A σc = some vs) (t : Nat) : (headS A vs σ).env t = if t ∈ slotsOf A then σc.env t else baseE A σ t := by
  obtain ⟨a, b, ha, hb, rfl⟩ := catO_append hc
  exact setSlots_eq ha t

theorem head_box {A : LoopAnn} {σc σ : SS} {vs} (hc : collect A σc = some vs) (d : Nat) : (headS A vs σ).box d = if d ∈ A.boxes.map (·.1) then σc.box d else keptB A σ.box d := by
  obtain ⟨a, b, ha, hb, rfl⟩ := catO_append hc
  have hl : slotLen A = a.length := (slots_length ha).symm
  simp only [headS, hl, List.drop_left]
  exact setBoxes_eq hb d

theorem collect_slot {A : LoopAnn} {σc : SS} {vs} (hc : collect A σc = some vs) {t : Nat} (ht : t ∈ slotsOf A) : ∃ x, σc.env t = .v x := by
  obtain ⟨a, b, ha, -, -⟩ := catO_append hc
  have key : ∀ {l : List (Nat × VSh)} {vs}, catO (l.map fun p => vSlot p.2 (σc.env p.1)) = some vs → t ∈ l.map (·.1) → ∃ x, σc.env t = .v x := by
    intro l
    induction l with
    | nil => intro vs _ h; simp at h
    | cons p l ih =>
      intro vs h ht
      obtain ⟨a, b, ha, hb, rfl⟩ := catO_cons h
      simp only [List.map_cons, List.mem_cons] at ht
      rcases ht with rfl | ht
      · have ha : vSlot p.2 (σc.env p.1) = some a := ha
        unfold vSlot at ha; split at ha
        · rename_i hx; exact ⟨_, hx⟩
        · rename_i hx; exact ⟨_, hx⟩
        · cases ha
      · exact ih hb ht
  exact key ha ht

theorem collect_box {A : LoopAnn} {σc : SS} {vs} (hc : collect A σc = some vs) {d : Nat} (hd : d ∈ A.boxes.map (·.1)) : ∃ ws : List Value, σc.box d = some (ws.map .v) := by
  obtain ⟨a, b, -, hb, -⟩ := catO_append hc
  have key : ∀ {l : List (Nat × List Sh)} {vs}, catO (l.map fun p => (σc.box p.1).bind fun cs => match Nat.beq cs.length p.2.length with | true => allV cs | false => none) = some vs → d ∈ l.map (·.1) → ∃ ws : List Value, σc.box d = some (ws.map .v) := by
    intro l
    induction l with
    | nil => intro vs _ h; simp at h
    | cons p l ih =>
      intro vs h hd
      obtain ⟨a, b, ha, hb, rfl⟩ := catO_cons h
      simp only [List.map_cons, List.mem_cons] at hd
      rcases hd with rfl | hd
      · cases hbx : σc.box p.1 with
        | none => simp [hbx] at ha
        | some cs =>
          simp only [hbx, Option.bind_some] at ha
          split at ha
          · exact ⟨a, by rw [allV_map ha]⟩
          · cases ha
      · exact ih hb hd
  exact key hb hd

theorem modB_iff {A : LoopAnn} {d : Nat} : modB A d = true ↔ d ∈ A.boxes.map (·.1) := by
  simp only [modB, List.any_eq_true, List.mem_map]
  constructor
  · rintro ⟨p, hp, h⟩; exact ⟨p, hp, (Nat.eq_of_beq_eq_true h).symm⟩
  · rintro ⟨p, hp, rfl⟩; exact ⟨p, hp, by simp⟩

end
end Go.Proofs.YtbeapoopomlgaaaGreat.Sx
