/- A loop's head, and the whole code of a function. -/
import Derived.Test.YtbeapoopomlgaaaGreatSj
namespace Go.Proofs.YtbeapoopomlgaaaGreat.Sx
open Go
section
variable {P : Program} {N : Nat} {u0 : World} {h0 : Heap} {σ : SS} {h : Heap} {α : Nat → Nat} {a : Act} {u : World} {o : Oper} {esc : List Nat} {ops : Array Oper} {ann : Nat → Option LoopAnn}

theorem mem_false {l : List Nat} {d : Nat} (h : d ∉ l) : mem l d = false := by
  cases hm : mem l d
  · rfl
  · exact absurd (mem_iff.1 hm) h

theorem ble_false {a b : Nat} (h : Nat.ble a b = false) : b < a := by
  rcases Nat.lt_or_ge b a with h' | h'
  · exact h'
  · rw [Nat.ble_eq_true_of_le h'] at h; cases h

theorem deref_rel {α α' : Nat → Nat} {s : SV} {x : Value} (h : s.rel α x) : (deref s).rel α' x := by
  cases s with
  | v y => exact h
  | _ => trivial

theorem deref_names {s : SV} {d} : ¬ (deref s).names d := by
  cases s <;> exact fun h => h

/-- which box a loop's head means -/
def orig (box : Nat → Option (List SV)) (d : Nat) : Nat := if 10000 ≤ d ∧ box d = none then d - 10000 else d

theorem kept_some {A : LoopAnn} {box : Nat → Option (List SV)} {d : Nat} {cs} (h : keptB A box d = some cs) : ∃ cs0, box (orig box d) = some cs0 ∧ cs = cs0.map deref ∧ 10000 ≤ d ∧ (box d = none → d < 20000 ∧ d - 10000 ∉ A.boxes.map (·.1)) := by
  unfold keptB at h
  cases hb : Nat.ble 10000 d
  · rw [hb] at h; cases h
  · rw [hb] at h
    have hle := Nat.le_of_ble_eq_true hb
    simp only [cond_true] at h
    cases hd : box d with
    | some cs1 =>
      rw [hd] at h; cases h
      exact ⟨cs1, by simp [orig, hd], rfl, hle, fun h => by cases h⟩
    | none =>
      rw [hd] at h
      simp only at h
      cases h2 : Nat.ble 20000 d
      · rw [h2] at h
        simp only [cond_false] at h
        cases h3 : modB A (d - 10000)
        · rw [h3] at h
          simp only [cond_false, Option.map_eq_some_iff] at h
          obtain ⟨cs0, h4, rfl⟩ := h
          exact ⟨cs0, by simp [orig, hd, hle, h4], rfl, hle, fun _ => ⟨ble_false h2, fun hm => by rw [modB_iff.2 hm] at h3; cases h3⟩⟩
        · rw [h3] at h; cases h
      · rw [h2] at h; cases h

theorem boxes_lt {A : LoopAnn} (hA : A.boxes.all (fun p => Nat.ble (p.1 + 1) 10000) = true) {d : Nat} (hd : d ∈ A.boxes.map (·.1)) : d < 10000 := by
  rw [List.all_eq_true] at hA
  obtain ⟨p, hp, rfl⟩ := List.mem_map.1 hd
  have := Nat.le_of_ble_eq_true (hA p hp)
  omega

theorem orig_lt {box : Nat → Option (List SV)} {d : Nat} (h : d < 10000) : orig box d = d := by unfold orig; rw [if_neg (by omega)]

/-- each box of a head is one of those that were -/
theorem head_orig {A : LoopAnn} (hA : A.boxes.all (fun p => Nat.ble (p.1 + 1) 10000) = true) {vs} (hc : collect A σ = some vs) {d : Nat} {cs} (h : (headS A vs σ).box d = some cs) :
    ∃ cs0, σ.box (orig σ.box d) = some cs0 ∧ (cs = cs0 ∧ d ∈ A.boxes.map (·.1) ∧ (∃ ws : List Value, cs = ws.map .v) ∨ cs = cs0.map deref ∧ d ∉ A.boxes.map (·.1) ∧ 10000 ≤ d ∧ (σ.box d = none → d < 20000 ∧ d - 10000 ∉ A.boxes.map (·.1))) := by
  rw [head_box hc] at h
  split at h
  · rename_i hd
    obtain ⟨ws, hw⟩ := collect_box hc hd
    rw [hw] at h; cases h
    exact ⟨_, by rw [orig_lt (boxes_lt hA hd)]; exact hw, .inl ⟨rfl, hd, ws, rfl⟩⟩
  · rename_i hd
    obtain ⟨cs0, h1, h2, h3, h4⟩ := kept_some h
    exact ⟨cs0, h1, .inr ⟨h2, hd, h3, h4⟩⟩

theorem ren_box {A : LoopAnn} {vs} (hc : collect A σ = some vs) (hA : A.boxes.all (fun p => Nat.ble (p.1 + 1) 10000) = true) {d e : Nat} (hd : σ.box d ≠ none) (hr : ren A σ.box d = some e) : orig σ.box e = d ∧ (headS A vs σ).box e ≠ none := by
  unfold ren at hr
  obtain ⟨cs, hcs⟩ := Option.ne_none_iff_exists'.1 hd
  cases h1 : Nat.ble 10000 d
  · rw [h1] at hr
    have hlt := ble_false h1
    simp only [cond_false] at hr
    cases h2 : modB A d
    · rw [h2] at hr
      simp only [cond_false] at hr
      split at hr
      · rename_i h3
        cases hr
        refine ⟨by simp [orig, h3], ?_⟩
        rw [head_box hc, if_neg (fun h => by have := boxes_lt hA h; omega)]
        have h4 : Nat.ble 20000 (d + 10000) = false := by
          cases hb : Nat.ble 20000 (d + 10000)
          · rfl
          · have := Nat.le_of_ble_eq_true hb; omega
        have h5 : Nat.ble 10000 (d + 10000) = true := Nat.ble_eq_true_of_le (by omega)
        simp [keptB, h5, h3, h4, h2, hcs]
      · cases hr
    · rw [h2] at hr
      cases hr
      refine ⟨orig_lt hlt, ?_⟩
      rw [head_box hc, if_pos (modB_iff.1 h2)]; exact hd
  · rw [h1] at hr
    cases hr
    refine ⟨by simp [orig, hcs], ?_⟩
    have hle := Nat.le_of_ble_eq_true h1
    rw [head_box hc, if_neg (fun h => by have := boxes_lt hA h; omega)]
    simp [keptB, h1, hcs]

theorem renSV_names {A : LoopAnn} {box} {s : SV} {e : Nat} (h : (renSV A box s).names e) : ∃ d, s.names d ∧ ren A box d = some e := by
  unfold renSV at h
  split at h
  · split at h
    · rename_i hr; exact ⟨_, rfl, by rw [hr, show _ = e from h.symm]⟩
    · exact h.elim
  · split at h
    · rename_i hr; exact ⟨_, rfl, by rw [hr, show _ = e from h.symm]⟩
    · exact h.elim
  · rename_i h1 h2
    cases s with
    | v x => exact h.elim
    | loc d o => exact absurd rfl (h1 d o)
    | lsl d o => exact absurd rfl (h2 d o)
    | any => exact h.elim

theorem base_names {A : LoopAnn} {t e : Nat} (h : (baseE A σ t).names e) : ∃ d, (σ.env t).names d ∧ ren A σ.box d = some e := by
  unfold baseE at h
  cases hm : mem A.dead t
  · rw [hm] at h; exact renSV_names h
  · rw [hm] at h; exact h.elim

/-- AT THE START OF A LOOP -/
theorem Rel.head {A : LoopAnn} (hA : A.boxes.all (fun p => Nat.ble (p.1 + 1) 10000) = true) {vs} (hc : collect A σ = some vs) (R : Rel N u0 h0 σ h α a u) :
    Rel N u0 h0 (headS A vs σ) h (fun d => α (orig σ.box d)) a u := by
  have hnames : ∀ t e, ((headS A vs σ).env t).names e → (headS A vs σ).box e ≠ none := fun t e he => by
    rw [head_env hc] at he
    split at he
    · rename_i ht
      obtain ⟨x, hx⟩ := collect_slot hc ht
      rw [hx] at he; exact he.elim
    · obtain ⟨d, h1, h2⟩ := base_names he
      exact (ren_box hc hA (R.refs t d h1) h2).2
  refine ⟨R.sz, fun t => ?_, R.defers, fun d cs hb => ?_, fun d cs hb => ?_, fun d d' cs cs' hb hb' hα => ?_, hnames, fun d cs hb s hs e he => ?_, R.fr⟩
  · rw [head_env hc]
    have hr := R.env t
    split
    · rename_i ht
      obtain ⟨x, hx⟩ := collect_slot hc ht
      rw [hx] at hr ⊢; exact hr
    · unfold baseE
      cases hm : mem A.dead t
      · simp only [cond_false]
        cases hs : σ.env t with
        | v x => rw [hs] at hr; exact hr
        | any => trivial
        | loc d o' =>
          rw [hs] at hr
          have hd := R.refs t d (by rw [hs]; rfl)
          simp only [renSV]
          cases hre : ren A σ.box d with
          | none => trivial
          | some e => simp only [SV.rel, (ren_box hc hA hd hre).1] at hr ⊢; exact hr
        | lsl d o' =>
          rw [hs] at hr
          have hd := R.refs t d (by rw [hs]; rfl)
          simp only [renSV]
          cases hre : ren A σ.box d with
          | none => trivial
          | some e => simp only [SV.rel, (ren_box hc hA hd hre).1] at hr ⊢; exact hr
      · trivial
  · obtain ⟨cs0, h1, h2⟩ := head_orig hA hc hb
    obtain ⟨c, e, g1, g2, g3⟩ := R.box _ cs0 h1
    rcases h2 with ⟨rfl, -, ws, rfl⟩ | ⟨rfl, -⟩
    · refine ⟨c, e, g1, g2, fun i s hi => ?_⟩
      obtain ⟨x, hx, hr⟩ := g3 i s hi
      rw [List.getElem?_map, Option.map_eq_some_iff] at hi
      obtain ⟨y, -, rfl⟩ := hi
      exact ⟨x, hx, hr⟩
    · refine ⟨c, e, g1, by simpa using g2, fun i s hi => ?_⟩
      rw [List.getElem?_map, Option.map_eq_some_iff] at hi
      obtain ⟨s0, hs0, rfl⟩ := hi
      obtain ⟨x, hx, hr⟩ := g3 i s0 hs0
      exact ⟨x, hx, deref_rel hr⟩
  · obtain ⟨cs0, h1, -⟩ := head_orig hA hc hb
    exact R.boxh _ cs0 h1
  · obtain ⟨cs0, h1, h2⟩ := head_orig hA hc hb
    obtain ⟨cs0', h1', h2'⟩ := head_orig hA hc hb'
    have he := R.inj _ _ _ _ h1 h1' hα
    have hlow : ∀ {x}, x ∈ A.boxes.map (·.1) → x < 10000 := fun hx => boxes_lt hA hx
    unfold orig at he
    rcases h2 with ⟨-, hd, -⟩ | ⟨-, hd, hd2, hd3⟩ <;> rcases h2' with ⟨-, hd', -⟩ | ⟨-, hd', hd2', hd3'⟩
    · have := hlow hd; have := hlow hd'
      rw [if_neg (by omega), if_neg (by omega)] at he; exact he
    · have hl := hlow hd
      rw [if_neg (by omega)] at he
      split at he
      · rename_i hh; exact absurd (by rw [← he]; exact hd) (hd3' hh.2).2
      · omega
    · have hl := hlow hd'
      rw [if_neg (c := 10000 ≤ d' ∧ _) (by omega)] at he
      split at he
      · rename_i hh; exact absurd (by rw [he]; exact hd') (hd3 hh.2).2
      · omega
    · split at he <;> split at he
      · omega
      · rename_i hh hh'; have := (hd3 hh.2).1; omega
      · rename_i hh hh'; have := (hd3' hh'.2).1; omega
      · exact he
  · obtain ⟨cs0, h1, h2⟩ := head_orig hA hc hb
    rcases h2 with ⟨rfl, -, ws, rfl⟩ | ⟨rfl, -⟩
    · obtain ⟨y, -, rfl⟩ := List.mem_map.1 hs; exact he.elim
    · obtain ⟨y, -, rfl⟩ := List.mem_map.1 hs; exact (deref_names he).elim


/-- BEHIND A ROUND -/
theorem Rel.again {A : LoopAnn} {vs' : List Value} {σ' : SS} {h' : Heap} {α' : Nat → Nat} {a' : Act} {u' : World} {W : List Nat}
    {vs0 : List Value} (hv0 : ∃ σ0', collect A σ0' = some vs0)
    (R : Rel N u0 h0 (headS A vs0 σ) h α a u) (hc' : collect A σ' = some vs') (hW : ∀ t ∈ W, t ∈ slotsOf A ∨ t ∈ A.dead) (hF : FrameV W (headS A vs0 σ) σ') (hag : againOK N A (headS A vs0 σ) σ' = true)
    (R' : Rel N u0 h0 σ' h' α' a' u') : Rel N u0 h0 (headS A vs' σ) h' α' a' u' := by
  obtain ⟨σ0', hv0⟩ := hv0
  have hbase : ∀ t, t ∉ slotsOf A → (headS A vs0 σ).env t = baseE A σ t := fun t ht => by rw [head_env hv0, if_neg ht]
  -- the slots
  have henv : ∀ t, (headS A vs' σ).env t = σ'.env t ∨ ∀ α, ((headS A vs' σ).env t).rel α (a'.tmps.getD t undef) ∧ ∀ d, ¬ ((headS A vs' σ).env t).names d := fun t => by
    rw [head_env hc']
    split
    · exact .inl rfl
    · rename_i ht
      by_cases hd : t ∈ A.dead
      · refine .inr fun α => ?_
        simp only [baseE, mem_iff.2 hd, cond_true]
        exact ⟨trivial, fun d h => h⟩
      · have hnW : t ∉ W := fun h => (hW t h).elim ht hd
        cases hs : baseE A σ t with
        | v x => exact .inl (hF.env t hnW x (by rw [hbase t ht, hs])).symm
        | any => exact .inr fun α => ⟨trivial, fun d h => h⟩
        | loc d o' =>
          by_cases hN : t < N
          · unfold againOK at hag
            rw [List.all_eq_true] at hag
            have := hag t (by simpa using hN)
            have hm1 := mem_false hd
            have hm2 := mem_false ht
            rw [hm1, hm2, cond_false, cond_false, hbase t ht, hs] at this
            cases hs' : σ'.env t <;> rw [hs'] at this <;> simp [sameRef] at this
            left; rw [this.1, this.2]
          · exfalso
            have := R.env t
            rw [hbase t ht, hs] at this
            have hsz : a.tmps.getD t undef = undef := by
              simp only [Array.getD_eq_getD_getElem?]
              rw [Array.getElem?_eq_none (by rw [R.sz]; omega)]; rfl
            rw [hsz] at this
            simp only [SV.rel, undef] at this
            cases this
        | lsl d o' =>
          by_cases hN : t < N
          · unfold againOK at hag
            rw [List.all_eq_true] at hag
            have := hag t (by simpa using hN)
            have hm1 := mem_false hd
            have hm2 := mem_false ht
            rw [hm1, hm2, cond_false, cond_false, hbase t ht, hs] at this
            cases hs' : σ'.env t <;> rw [hs'] at this <;> simp [sameRef] at this
            left; rw [this.1, this.2]
          · exfalso
            have := R.env t
            rw [hbase t ht, hs] at this
            have hsz : a.tmps.getD t undef = undef := by
              simp only [Array.getD_eq_getD_getElem?]
              rw [Array.getElem?_eq_none (by rw [R.sz]; omega)]; rfl
            rw [hsz] at this
            simp only [SV.rel, undef] at this
            cases this
  -- the boxes
  have hbox : ∀ d cs, (headS A vs' σ).box d = some cs → ∃ cs', σ'.box d = some cs' ∧ cs'.length = cs.length ∧ ∀ (i : Nat) s, cs[i]? = some s → ∃ s', cs'[i]? = some s' ∧ (s = s' ∨ s = .any) ∧ ∀ d, ¬ s.names d := fun d cs hb => by
    rw [head_box hc'] at hb
    split at hb
    · rename_i hd
      obtain ⟨ws, hw⟩ := collect_box hc' hd
      rw [hw] at hb; cases hb
      refine ⟨_, hw, rfl, fun i s hi => ⟨s, hi, .inl rfl, ?_⟩⟩
      rw [List.getElem?_map, Option.map_eq_some_iff] at hi
      obtain ⟨y, -, rfl⟩ := hi
      exact fun d h => h
    · rename_i hd
      obtain ⟨cs0, h1, h2, h3, -⟩ := kept_some hb
      have hh : (headS A vs0 σ).box d = some cs := by rw [head_box hv0, if_neg hd]; exact hb
      obtain ⟨cs', g1, g2, g3⟩ := hF.box d cs h3 hh
      refine ⟨cs', g1, g2, fun i s hi => ?_⟩
      have hi' := hi
      rw [h2, List.getElem?_map, Option.map_eq_some_iff] at hi'
      obtain ⟨s0, hs0, rfl⟩ := hi'
      cases s0 with
      | v x => exact ⟨.v x, g3 i x hi, .inl rfl, fun d h => h⟩
      | _ =>
        have hlt : i < cs'.length := by rw [g2]; exact (List.getElem?_eq_some_iff.1 hi).1
        exact ⟨_, List.getElem?_eq_getElem hlt, .inr rfl, fun d h => h⟩
  refine ⟨R'.sz, fun t => ?_, R'.defers, fun d cs hb => ?_, fun d cs hb => ?_, fun d d' cs cs' hb hb' hα => ?_, fun t d hd => ?_, fun d cs hb s hs e he => ?_, R'.fr⟩
  · rcases henv t with h1 | h1
    · rw [h1]; exact R'.env t
    · exact (h1 α').1
  · obtain ⟨cs', g1, g2, g3⟩ := hbox d cs hb
    obtain ⟨c, e, k1, k2, k3⟩ := R'.box d cs' g1
    refine ⟨c, e, k1, by omega, fun i s hi => ?_⟩
    obtain ⟨s', h1, h2, -⟩ := g3 i s hi
    obtain ⟨x, hx, hr⟩ := k3 i s' h1
    rcases h2 with rfl | rfl
    · exact ⟨x, hx, hr⟩
    · exact ⟨x, hx, trivial⟩
  · obtain ⟨cs', g1, -⟩ := hbox d cs hb
    exact R'.boxh d cs' g1
  · obtain ⟨c1, g1, -⟩ := hbox d cs hb
    obtain ⟨c2, g2, -⟩ := hbox d' cs' hb'
    exact R'.inj d d' _ _ g1 g2 hα
  · -- a name in the head's slots is a box of the head's
    have h0' := hd
    rw [head_env hc'] at hd
    split at hd
    · rename_i ht
      obtain ⟨x, hx⟩ := collect_slot hc' ht
      rw [hx] at hd; exact hd.elim
    · rename_i ht
      have h1 : (headS A vs0 σ).box d ≠ none := R.refs t d (by rw [hbase t ht]; exact hd)
      rw [head_box hv0] at h1
      rw [head_box hc']
      split
      · rename_i hdm; obtain ⟨ws, hw⟩ := collect_box hc' hdm; rw [hw]; simp
      · rename_i hdm; rw [if_neg hdm] at h1; exact h1
  · obtain ⟨cs', g1, g2, g3⟩ := hbox d cs hb
    obtain ⟨i, hi⟩ := List.mem_iff_getElem?.1 hs
    obtain ⟨s', -, -, hn⟩ := g3 i s hi
    exact (hn e he).elim

/-! ### code -/
theorem Exit_then_of {A : Act → World → Prop} {Q : Exit → Act → World → Prop} {e : Exit} {a : Act} {w : World} (h1 : e = .normal → A a w) (h2 : e ≠ .normal → Q e a w) : Exit.then A Q e a w := by
  cases e <;> first
    | exact h1 rfl
    | exact h2 (by simp)

theorem Exit_block_of {id : Nat} {Q : Exit → Act → World → Prop} {e : Exit} {a : Act} {w : World} (h1 : e = .exit id → Q .normal a w) (h2 : e ≠ .exit id → Q e a w) : Exit.inBlock id Q e a w := by
  cases e with
  | exit id' =>
    simp only [Exit.inBlock]
    split
    · rename_i h; exact h1 (by rw [h])
    · rename_i h; exact h2 (by simpa using h)
  | _ => exact h2 (by simp)

def StmtC (P : Program) (esc : List Nat) (N : Nat) (ann : Nat → Option LoopAnn) (u0 : World) (h0 : Heap) (c : Code) : Prop :=
  (∀ d ∈ writes c, d < N) → ∀ {K σ h α a u}, Rel N u0 h0 σ h α a u → cw P esc N ann c K σ h → c.wp P (Aft N u0 h0 (writes c) σ K) a u

theorem enter_spec {A : LoopAnn} {body : Code} (h : enterOK N A body = true) : (∀ t ∈ slotsOf A, t ∈ writes body) ∧ (∀ t ∈ A.dead, t ∈ writes body) ∧ A.boxes.all (fun p => Nat.ble (p.1 + 1) 10000) = true ∧ ∀ t ∈ writes body, t ∈ slotsOf A ∨ t ∈ A.dead := by
  simp only [enterOK, Bool.and_eq_true] at h
  obtain ⟨⟨⟨h1, h2⟩, h3⟩, h4⟩ := h
  rw [List.all_eq_true] at h1 h2 h4
  refine ⟨fun t ht => mem_iff.1 ((Bool.and_eq_true _ _ ▸ h1 t ht).2), fun t ht => mem_iff.1 (h2 t ht), h3, fun t ht => ?_⟩
  have := h4 t ht
  rw [Bool.or_eq_true] at this
  exact this.imp mem_iff.1 mem_iff.1

theorem head_frame {A : LoopAnn} (hA : A.boxes.all (fun p => Nat.ble (p.1 + 1) 10000) = true) {W : List Nat} (hs : ∀ t ∈ slotsOf A, t ∈ W) (hdd : ∀ t ∈ A.dead, t ∈ W) {vs} {σc : SS} (hc : collect A σc = some vs) : FrameV W σ (headS A vs σ) where
  env := fun t ht x hx => by
    rw [head_env hc, if_neg (fun h => ht (hs t h)), baseE, mem_false (fun h => ht (hdd t h)), cond_false, hx]; rfl
  box := fun d cs hd hb => by
    rw [head_box hc, if_neg (fun h => by have := boxes_lt hA h; omega)]
    have h1 : Nat.ble 10000 d = true := Nat.ble_eq_true_of_le hd
    refine ⟨cs.map deref, by simp [keptB, h1, hb], by simp, fun i x hi => ?_⟩
    rw [List.getElem?_map, hi]; rfl

theorem sound_loop {body : Code} (hS : StmtC P esc N ann u0 h0 body) {id : Nat} (hd : ∀ d ∈ writes body, d < N) {K : Exit → SS → Heap → Prop} (R : Rel N u0 h0 σ h α a u)
    (H : cw P esc N ann (.block id (.loop body)) K σ h) : (Code.block id (.loop body)).wp P (Aft N u0 h0 (writes body) σ K) a u := by
  simp only [cw] at H
  split at H
  · exact H.elim
  · rename_i A hann
    split at H
    · rename_i vs hc hen
      obtain ⟨e1, e2, hA, e4⟩ := enter_spec hen
      split at H
      · rename_i s0 hs0
        obtain ⟨I, μ, hI0, hround⟩ := H.ex
        apply wp_block
        refine wp_loop_rel (fun n a w => ∃ s h α, I s h ∧ μ s h = n ∧ (∃ σc, collect A σc = some (Tup.vals A.shs s)) ∧ Rel N u0 h0 (headS A (Tup.vals A.shs s) σ) h α a w) ?_ (μ s0 h) a u
          ⟨s0, h, _, hI0, rfl, ⟨σ, by rw [Tup.of_vals hs0]; exact hc⟩, by rw [Tup.of_vals hs0]; exact R.head hA hc⟩
        rintro n a w ⟨s, h, α, hI, rfl, ⟨σc, hcs⟩, Rh⟩
        refine wp_mono (hS hd Rh (hround s h hI)) ?_
        rintro e a' w' ⟨σ', h', α', hk, hf, R'⟩
        have hf' : FrameV (writes body) σ σ' := (head_frame hA e1 e2 hcs).trans hf (fun _ h => h) (fun _ h => h)
        refine Exit_then_of (fun he => ?_) (fun he => Exit_block_of (fun he2 => ?_) (fun he2 => ?_))
        · subst he
          simp only at hk
          split at hk
          · rename_i vs' hc' hag
            split at hk
            · rename_i s' hs'
              refine ⟨_, hk.2, s', h', α', hk.1, rfl, ⟨σ', by rw [Tup.of_vals hs']; exact hc'⟩, ?_⟩
              rw [Tup.of_vals hs']
              exact Rel.again ⟨σc, hcs⟩ Rh hc' e4 hf hag R'
            · exact hk.elim
          · exact hk.elim
        · subst he2
          simp only [Nat.beq_refl] at hk
          exact ⟨σ', h', α', hk, hf', R'⟩
        · cases e with
          | normal => exact absurd rfl he
          | exit id' =>
            simp only at hk
            have : Nat.beq id' id = false := by
              cases hb : Nat.beq id' id
              · rfl
              · exact absurd (by rw [Nat.eq_of_beq_eq_true hb]) he2
            rw [this] at hk
            exact ⟨σ', h', α', hk, hf', R'⟩
          | ret => exact ⟨σ', h', α', hk, hf', R'⟩
          | _ => exact hk.elim
      · exact H.elim
    · exact H.elim

theorem Aft.mono {W W' : List Nat} {σ0 : SS} {K : Exit → SS → Heap → Prop} {e : Exit} {a' : Act} {u' : World} (hs : ∀ t ∈ W, t ∈ W') (h : Aft N u0 h0 W σ0 K e a' u') : Aft N u0 h0 W' σ0 K e a' u' := by
  obtain ⟨σ', h', α', h1, h2, h3⟩ := h
  exact ⟨σ', h', α', h1, h2.mono hs, h3⟩

theorem sound_block {a0 : Code} (hS : StmtC P esc N ann u0 h0 a0) {id : Nat} (hd : ∀ d ∈ writes a0, d < N) {K : Exit → SS → Heap → Prop} (R : Rel N u0 h0 σ h α a u)
    (H : cw P esc N ann a0 (fun e σ h => match e with
      | .exit id' => (match Nat.beq id' id with
        | true => K .normal σ h
        | false => K (.exit id') σ h)
      | .normal => K .normal σ h
      | .ret => K .ret σ h
      | _ => False) σ h) : (Code.block id a0).wp P (Aft N u0 h0 (writes a0) σ K) a u := by
  apply wp_block
  refine wp_mono (hS hd R H) ?_
  rintro e a' w' ⟨σ', h', α', hk, hf, R'⟩
  refine Exit_block_of (fun he2 => ?_) (fun he2 => ?_)
  · subst he2
    simp only [Nat.beq_refl] at hk
    exact ⟨σ', h', α', hk, hf, R'⟩
  · cases e with
    | normal => exact ⟨σ', h', α', hk, hf, R'⟩
    | exit id' =>
      simp only at hk
      have : Nat.beq id' id = false := by
        cases hb : Nat.beq id' id
        · rfl
        · exact absurd (by rw [Nat.eq_of_beq_eq_true hb]) he2
      rw [this] at hk
      exact ⟨σ', h', α', hk, hf, R'⟩
    | ret => exact ⟨σ', h', α', hk, hf, R'⟩
    | _ => exact hk.elim

/-- A PIECE OF CODE -/
theorem sound_cw (hN : NamesOK P) (hm : P.follows .mixedOrders = true) (c : Code) : StmtC P esc N ann u0 h0 c := by
  have key : ∀ c : Code, StmtC P esc N ann u0 h0 c ∧ (∀ b, c = .loop b → StmtC P esc N ann u0 h0 b) := by
    intro c
    induction c with
    | skip => exact ⟨fun _ {K σ h α a u} R H => wp_skip ⟨σ, h, α, H, FrameV.refl _ _, R⟩, fun b h => by cases h⟩
    | ret => exact ⟨fun _ {K σ h α a u} R H => wp_ret ⟨σ, h, α, H, FrameV.refl _ _, R⟩, fun b h => by cases h⟩
    | exit id => exact ⟨fun _ {K σ h α a u} R H => wp_exit ⟨σ, h, α, H, FrameV.refl _ _, R⟩, fun b h => by cases h⟩
    | region id ops draw =>
      refine ⟨fun hd {K σ h α a u} R H => ?_, fun b h => by cases h⟩
      simp only [cw] at H
      have hw : ∀ o ∈ ops, ∀ d, o.dst = some d → d ∈ writes (.region id ops draw) := fun o ho d hdst => by
        simp only [writes, List.mem_filterMap]; exact ⟨o, by simpa using ho, hdst⟩
      exact sound_region' (Q := Aft N u0 h0 (writes (.region id ops draw)) σ K) hN hm (fun a u h => h) (fun o ho d hdst => hd d (hw o ho d hdst)) hw R H
    | seq x y ihx ihy =>
      refine ⟨fun hd {K σ h α a u} R H => ?_, fun b h => by cases h⟩
      simp only [cw] at H
      simp only [writes, List.mem_append] at hd
      apply wp_seq
      refine wp_mono (ihx.1 (fun d h => hd d (.inl h)) R H) ?_
      rintro e a' w' ⟨σ', h', α', hk, hf, R'⟩
      have hl : FrameV (writes (.seq x y)) σ σ' := hf.mono (fun t ht => by simp [writes, ht])
      refine Exit_then_of (fun he => ?_) (fun he => ?_)
      · subst he
        refine wp_mono (ihy.1 (fun d h => hd d (.inr h)) R' hk) ?_
        rintro e a2 w2 ⟨σ2, h2, α2, hk2, hf2, R2⟩
        exact ⟨σ2, h2, α2, hk2, hf.trans hf2 (fun t ht => by simp [writes, ht]) (fun t ht => by simp [writes, ht]), R2⟩
      · cases e with
        | normal => exact absurd rfl he
        | exit id => exact ⟨σ', h', α', hk, hl, R'⟩
        | ret => exact ⟨σ', h', α', hk, hl, R'⟩
        | _ => exact hk.elim
    | cond c x y ihx ihy =>
      refine ⟨fun hd {K σ h α a u} R H => ?_, fun b h => by cases h⟩
      simp only [cw] at H
      simp only [writes, List.mem_append] at hd
      split at H
      · rename_i t hc
        have hev := R.orel.v hc
        cases t
        · exact wp_cond hev (wp_mono (ihy.1 (fun d h => hd d (.inr h)) R H) fun e a w h => h.mono (fun t ht => by simp [writes, ht]))
        · exact wp_cond hev (wp_mono (ihx.1 (fun d h => hd d (.inl h)) R H) fun e a w h => h.mono (fun t ht => by simp [writes, ht]))
      · exact H.elim
    | block id a0 ih =>
      refine ⟨fun hd {K σ h α a u} R H => ?_, fun b h => by cases h⟩
      by_cases hl : ∃ b, a0 = .loop b
      · obtain ⟨b, rfl⟩ := hl
        exact sound_loop (ih.2 b rfl) hd R H
      · have H' : cw P esc N ann a0 (fun e σ h => match e with
          | .exit id' => (match Nat.beq id' id with
            | true => K .normal σ h
            | false => K (.exit id') σ h)
          | .normal => K .normal σ h
          | .ret => K .ret σ h
          | _ => False) σ h := by
          cases a0 with
          | loop b => exact absurd ⟨b, rfl⟩ hl
          | _ => exact H
        exact sound_block ih.1 hd R H'
    | loop b ih => exact ⟨fun _ {K σ h α a u} R H => by simp only [cw] at H, fun b' h => by cases h; exact ih.1⟩
    | _ => exact ⟨fun _ {K σ h α a u} R H => by simp only [cw] at H, fun b h => by cases h⟩
  exact (key c).1


/-! ### a function -/
theorem argEnv_get : ∀ (vs : List Value) (t : Nat), argEnv vs t = match vs[t]? with | some v => .v v | none => .any := by
  intro vs
  induction vs with
  | nil => intro t; simp [argEnv]
  | cons v vs ih => intro t; cases t with
    | zero => rfl
    | succ t => simp [argEnv, ih]

theorem rel_start {f : Heap} {args : List Value} {n : Nat} (hn : args.length ≤ n) (u : World) (hu : ∀ b o, f b = some o → u.heap[b]? = some o) :
    Rel n u f ⟨argEnv args, fun _ => none⟩ f (fun _ => 0) { tmps := args.toArray ++ Array.replicate (n - args.toArray.size) undef, defers := [] } u where
  sz := by simp; omega
  env := fun t => by
    show SV.rel _ (argEnv args t) _
    rw [argEnv_get]
    cases ht : args[t]? with
    | none => trivial
    | some v =>
      have hlt := (List.getElem?_eq_some_iff.1 ht).1
      simp only [SV.rel, Array.getD_eq_getD_getElem?]
      rw [Array.getElem?_append_left (by simpa using hlt)]
      simp [ht]
  defers := rfl
  box := fun _ _ h => by cases h
  boxh := fun _ _ h => by cases h
  inj := fun _ _ _ _ h => by cases h
  refs := fun t d h => by
    simp only [argEnv_get] at h
    split at h <;> exact h.elim
  brefs := fun _ _ h => by cases h
  fr := Fr.refl hu

def getR (tmps : Array Value) : ResultVar → Sem Value
  | .tmp t => pure (tmps.getD t undef)
  | .cell x t => do loadVar t (← asAddr (tmps.getD x undef))

theorem results_get (fn : Func) (tmps : Array Value) : results fn tmps = (do let vs ← fn.results.mapM (getR tmps); pure (if h : vs.size = 1 then vs[0] else .tuple vs)) := by
  unfold results
  congr 2

theorem run_res1 (R : Rel N u0 h0 σ h α a u) {r : ResultVar} {v : Value} (hr : res1 P σ r = some v) : (getR a.tmps r).run P u = .ok v u := by
  cases r with
  | tmp t =>
    simp only [res1] at hr
    split at hr
    · rename_i x hx
      cases hr
      have := R.env t
      rw [hx] at this
      simp only [SV.rel] at this
      simp [getR, ← this]
    · cases hr
  | cell x t =>
    simp only [res1] at hr
    split at hr
    · rename_i d off hx ho ha
      split at hr
      · rename_i cs hb
        split at hr
        · rename_i hle
          simp only [Option.map_eq_some_iff] at hr
          obtain ⟨vs, hvs, rfl⟩ := hr
          have hp := R.env x
          rw [hx] at hp
          simp only [SV.rel] at hp
          obtain ⟨c, e, h1, h2⟩ := box_part (off := off) (n := P.cellsOf t) R hb
          have hv := allV_rel (α := α) hvs h2
          have hvl : vs.length = P.cellsOf t := by
            have := congrArg List.length (allV_map hvs)
            have := Nat.le_of_ble_eq_true hle
            simp only [List.length_take, List.length_drop, List.length_map] at *
            omega
          have := run_loadVar' ho (p := ⟨α d, off, none⟩) rfl u h1 hv (by rw [ha]; exact hvl)
          simp only [getR, hp, asAddr, Sem.run_bind, Sem.run_pure, Result.andThen_ok, this, ha, mkV]
        · cases hr
      · cases hr
    · cases hr

theorem run_resL (R : Rel N u0 h0 σ h α a u) : ∀ {rs : List ResultVar} {vs : List Value}, resL P σ rs = some vs → (rs.mapM (getR a.tmps)).run P u = .ok vs u := by
  intro rs
  induction rs with
  | nil => intro vs h; simp only [resL, Option.some.injEq] at h; subst h; rfl
  | cons r rs ih =>
    intro vs h
    simp only [resL] at h
    split at h
    · rename_i v ws hv hw
      cases h
      rw [List.mapM_cons]
      simp only [Sem.run_bind, run_res1 R hv, Result.andThen_ok, ih hw, Sem.run_pure]
    · cases h

theorem run_results (R : Rel N u0 h0 σ h α a u) {fn : Func} {vs : List Value} (hr : resL P σ fn.results.toList = some vs) : (results fn a.tmps).run P u = .ok (resV vs) u := by
  rw [results_get, Array.mapM_eq_mapM_toList]
  simp only [Sem.run_bind, Sem.run_map, run_resL R hr, Result.andThen_ok, Sem.run_pure]
  congr 1
  match vs with
  | [] => rfl
  | [v] => rfl
  | v :: w :: r => simp [resV]

/-- A FUNCTION'S CONTRACT, by its weakest condition -/
theorem spec_of {f : FuncId} {fn : Func} {args : List Value} {h : Heap} {R : Value → Heap → Prop} (esc : List Nat) (ann : Nat → Option LoopAnn) (hN : NamesOK P) (hm : P.follows .mixedOrders = true) (hf : P.funcs[f]? = some fn)
    (H : fnW P esc ann fn args h R) : Spec P f args.toArray h R := by
  unfold fnW at H
  split at H
  · rename_i c hb
    split at H
    · rename_i hd hl
      refine ⟨fun u hu => calls_of_wp hf hb ?_⟩
      have hd' : ∀ d ∈ writes c, d < fn.ntmps := fun d h => by
        simp only [dstsOK, List.all_eq_true] at hd
        have := Nat.le_of_ble_eq_true (hd d h); omega
      refine wp_mono (sound_cw hN hm c hd' (rel_start (Nat.le_of_ble_eq_true hl) u hu) H) ?_
      rintro e a w ⟨σ', h', α', hk, -, R'⟩
      have key : ∀ {vs}, resL P σ' fn.results.toList = some vs → R (resV vs) h' → a.defers = [] ∧ ∃ v, (results fn a.tmps).run P w = .ok v w ∧ ∃ v' h', Ending.returned v = .returned v' ∧ R v' h' ∧ Fr u h h' w :=
        fun hv hR => ⟨R'.defers, _, run_results R' hv, _, h', rfl, hR, R'.fr⟩
      cases e with
      | normal =>
        simp only [retK] at hk
        split at hk
        · rename_i vs hvs; exact key hvs hk
        · exact hk.elim
      | ret =>
        simp only [retK] at hk
        split at hk
        · rename_i vs hvs; exact key hvs hk
        · exact hk.elim
      | _ => exact hk.elim
    · exact H.elim
  · exact H.elim

end
#print axioms spec_of
end Go.Proofs.YtbeapoopomlgaaaGreat.Sx
