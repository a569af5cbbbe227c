/- The forms that look into memory, or write it, are sound: a relation between the symbolic state and the machine's, kept by every operation. -/
import Derived.Test.YtbeapoopomlgaaaGreatSc
namespace Go.Proofs.YtbeapoopomlgaaaGreat.Sx
open Go

structure Rel (N : Nat) (u0 : World) (h0 : Heap) (σ : SS) (h : Heap) (α : Nat → Nat) (a : Act) (u : World) : Prop where
  sz : a.tmps.size = N
  env : ∀ t, (σ.env t).rel α (a.tmps.getD t undef)
  defers : a.defers = []
  box : ∀ d cs, σ.box d = some cs → ∃ c e, u.heap[α d]? = some (.cells c e (0, 0)) ∧ c.size = cs.length ∧ ∀ (i : Nat) (s : SV), cs[i]? = some s → ∃ x, c[i]? = some x ∧ s.rel α x
  boxh : ∀ d cs, σ.box d = some cs → h (α d) = none ∧ u0.heap.size ≤ α d
  inj : ∀ d d' cs cs', σ.box d = some cs → σ.box d' = some cs' → α d = α d' → d = d'
  refs : ∀ t d, (σ.env t).names d → σ.box d ≠ none
  brefs : ∀ d cs, σ.box d = some cs → ∀ s ∈ cs, ∀ d', s.names d' → σ.box d' ≠ none
  fr : Fr u0 h0 h u

theorem alloc_heap (u : World) (o : Obj) : (u.alloc o).heap = u.heap.push o := rfl

theorem Fr.refl {u : World} {h : Heap} (hh : ∀ b o, h b = some o → u.heap[b]? = some o) : Fr u h h u :=
  ⟨hh, Nat.le_refl _, fun _ _ _ => rfl, fun b o hb => .inl (by simp [hb]), rfl, rfl⟩

theorem Fr.trans {u u' u'' : World} {h h' h'' : Heap} (a : Fr u h h' u') (b : Fr u' h' h'' u'') : Fr u h h'' u'' where
  heap := b.heap
  size := Nat.le_trans a.size b.size
  frame := fun c hc hn => by
    have h1 : h' c = none := by
      cases h2 : h' c with
      | none => rfl
      | some o => rcases a.dom c o h2 with h3 | h3
                  · exact absurd hn h3
                  · omega
    rw [b.frame c (Nat.lt_of_lt_of_le hc a.size) h1, a.frame c hc hn]
  dom := fun c o hc => by
    rcases b.dom c o hc with h1 | h1
    · cases h2 : h' c with
      | none => exact absurd h2 h1
      | some o' => exact a.dom c o' h2
    · exact .inr (Nat.le_trans a.size h1)
  os := b.os.trans a.os
  out := b.out.trans a.out

theorem SV.rel_congr {α α' : Nat → Nat} {s : SV} {x : Value} (h : s.rel α x) (hn : ∀ d, s.names d → α' d = α d) : s.rel α' x := by
  cases s with
  | v y => exact h
  | loc d o => have := hn d rfl; simp only [SV.rel] at *; rw [this]; exact h
  | lsl d o => have := hn d rfl; simp only [SV.rel] at *; rw [this]; exact h
  | any => trivial

theorem putE_rel {α : Nat → Nat} {env : Nat → SV} {a : Act} {N : Nat} (hs : a.tmps.size = N) (he : ∀ t, (env t).rel α (a.tmps.getD t undef)) {dst : Option Nat} (hd : ∀ d, dst = some d → d < N) {r : SV} {y : Value}
    (hr : r.rel α y) : ∀ t, (putE env dst r t).rel α ((a.put dst y).tmps.getD t undef) := by
  intro t
  cases dst with
  | none => exact he t
  | some d =>
    simp only [putE, Act.put]
    by_cases ht : t = d
    · subst ht
      have : t < a.tmps.size := by rw [hs]; exact hd t rfl
      simpa [this] using hr
    · have : Nat.beq t d = false := by
        cases hb : Nat.beq t d
        · rfl
        · exact absurd (Nat.eq_of_beq_eq_true hb) ht
      simp only [this, cond_false]
      have h1 := he t
      simp only [Array.getD_eq_getD_getElem?] at h1 ⊢
      rw [Array.getElem?_setIfInBounds_ne (Ne.symm ht)]
      exact h1

theorem putE_names {env : Nat → SV} {dst : Option Nat} {r : SV} {t d : Nat} (h : (putE env dst r t).names d) : r.names d ∨ (env t).names d := by
  cases dst with
  | none => exact .inr h
  | some e =>
    simp only [putE] at h
    cases hb : Nat.beq t e
    · rw [hb] at h; exact .inr h
    · rw [hb] at h; exact .inl h

theorem put_size (a : Act) (dst : Option Nat) (y : Value) : (a.put dst y).tmps.size = a.tmps.size := by cases dst <;> simp [Act.put]
theorem put_defers (a : Act) (dst : Option Nat) (y : Value) : (a.put dst y).defers = a.defers := by cases dst <;> simp [Act.put]

section
variable {P : Program} {N : Nat} {u0 : World} {h0 : Heap} {σ : SS} {h : Heap} {α : Nat → Nat} {a : Act} {u : World}

theorem Rel.orel (R : Rel N u0 h0 σ h α a u) : ORel α (ev σ.env) a.eval := fun x => by
  cases x with
  | tmp t => exact R.env t
  | const v => rfl
  | global g => rfl
  | func f => rfl

/-- a value is put into a slot -/
theorem Rel.put (R : Rel N u0 h0 σ h α a u) {dst : Option Nat} (hd : ∀ d, dst = some d → d < N) {r : SV} {y : Value} (hr : r.rel α y) (hn : ∀ d, r.names d → σ.box d ≠ none) :
    Rel N u0 h0 ⟨putE σ.env dst r, σ.box⟩ h α (a.put dst y) u where
  sz := by rw [put_size]; exact R.sz
  env := putE_rel R.sz R.env hd hr
  defers := by rw [put_defers]; exact R.defers
  box := R.box
  boxh := R.boxh
  inj := R.inj
  refs := fun t d h => (putE_names h).elim (hn d) (R.refs t d)
  brefs := R.brefs
  fr := R.fr

/-- memory goes on, as the heap's part tells -/
theorem Rel.step (R : Rel N u0 h0 σ h α a u) {h' : Heap} {u' : World} (F : Fr u h h' u') : Rel N u0 h0 σ h' α a u' where
  sz := R.sz
  env := R.env
  defers := R.defers
  box := fun d cs hb => by
    obtain ⟨c, e, h1, h2, h3⟩ := R.box d cs hb
    refine ⟨c, e, ?_, h2, h3⟩
    have hl : α d < u.heap.size := by
      rcases Nat.lt_or_ge (α d) u.heap.size with h | h
      · exact h
      · rw [Array.getElem?_eq_none h] at h1; cases h1
    rw [F.frame _ hl (R.boxh d cs hb).1]; exact h1
  boxh := fun d cs hb => by
    refine ⟨?_, (R.boxh d cs hb).2⟩
    cases hh : h' (α d) with
    | none => rfl
    | some o =>
      obtain ⟨c, e, h1, -⟩ := R.box d cs hb
      rcases F.dom _ _ hh with h2 | h2
      · exact absurd (R.boxh d cs hb).1 h2
      · rw [Array.getElem?_eq_none h2] at h1; cases h1
  inj := R.inj
  refs := R.refs
  brefs := R.brefs
  fr := R.fr.trans F

/-! ### loads -/
def ShOK : List Sh → List Value → Prop
  | [], [] => True
  | s :: r, v :: vs => (∃ x, v = s.val x) ∧ ShOK r vs
  | _, _ => False

theorem exSh_iff : ∀ {l : List Sh} {k : List Value → Prop}, exSh l k ↔ ∃ vs, ShOK l vs ∧ k vs := by
  intro l
  induction l with
  | nil => intro k; exact ⟨fun h => ⟨[], trivial, h⟩, fun ⟨vs, h, hk⟩ => by cases vs <;> simp_all [ShOK, exSh]⟩
  | cons s l ih =>
    intro k
    simp only [exSh]
    constructor
    · rintro ⟨x, hx⟩
      obtain ⟨vs, h1, h2⟩ := ih.1 hx
      exact ⟨s.val x :: vs, ⟨⟨x, rfl⟩, h1⟩, h2⟩
    · rintro ⟨vs, h1, h2⟩
      cases vs with
      | nil => exact h1.elim
      | cons v vs =>
        obtain ⟨⟨x, rfl⟩, h3⟩ := h1
        exact ⟨x, ih.2 ⟨vs, h3, h2⟩⟩

theorem ShOK.length : ∀ {l : List Sh} {vs}, ShOK l vs → vs.length = l.length := by
  intro l
  induction l with
  | nil => intro vs h; cases vs <;> simp_all [ShOK]
  | cons s l ih => intro vs h; cases vs with
    | nil => exact h.elim
    | cons v vs => simp [ih h.2]

theorem cell_at {w : World} {b : Nat} {o : Nat} {c e fr v} (h : w.heap[b]? = some (.cells c e fr)) (hv : c[o]? = some v) : w.cell? ⟨b, o, none⟩ = some v := by
  simp [World.cell?, h, hv]

theorem add_at (p : Addr) (hp : p.spot = none) (j : Nat) : p.add j = ⟨p.block, p.off + j, none⟩ := by
  unfold Addr.add
  split
  · rename_i h; subst h; cases p; simp_all
  · simp

theorem run_loadVar' {t : TypeId} (ho : okT P t = true) {p : Addr} (hp : p.spot = none) {c e fr} {vs : List Value} (w : World) (hw : w.heap[p.block]? = some (.cells c e fr))
    (hv : ∀ i v, vs[i]? = some v → c[p.off + i]? = some v) (hn : vs.length = (match isAggT P t with | true => P.cellsOf t | false => 1)) :
    (loadVar t p).run P w = .ok (mkV (isAggT P t) vs) w := by
  have hc : ∀ j v, vs[j]? = some v → w.cell? (p.add j) = some v := fun j v hj => by
    rw [add_at p hp]; exact cell_at hw (hv j v hj)
  simp only [loadVar, Sem.run_bind, run_isAgg' ho, Result.andThen_ok]
  cases ha : isAggT P t
  · rw [ha] at hn
    match vs, hn with
    | [v], _ =>
      have := hc 0 v rfl
      simp only [Addr.add, if_true] at this
      simp [mkV, run_load, this]
  · rw [ha] at hn
    simp only at hn
    simp only [if_true, Sem.run_bind, run_sizeOf' ho, Result.andThen_ok, ← hn]
    rw [run_loadCells_list w p vs hc]
    simp [mkV]


/-! ### stores -/
structure Wr (b : Nat) (o : Obj) (w w' : World) : Prop where
  here : w'.heap[b]? = some o
  there : ∀ b', b' ≠ b → w'.heap[b']? = w.heap[b']?
  size : w'.heap.size = w.heap.size
  os : w'.os = w.os
  out : w'.output = w.output

theorem run_storeCells' (b o : Nat) (e : TypeId) : ∀ (vs : List Value) (i : Nat) (c : Array Value) (w : World), w.heap[b]? = some (.cells c e (0, 0)) → o + i + vs.length ≤ c.size →
    (∀ v ∈ vs, v.oneCell' = true) → ∃ w', (storeCells ⟨b, o, none⟩ vs i).run P w = .ok () w' ∧ Wr b (.cells (spl c (o + i) vs) e (0, 0)) w w' := by
  intro vs
  induction vs with
  | nil => intro i c w h _ _; exact ⟨w, rfl, h, fun _ _ => rfl, rfl, rfl, rfl⟩
  | cons v vs ih =>
    intro i c w h hl hv
    simp only [List.length_cons] at hl
    have hc : w.cell? ⟨b, o + i, none⟩ = some (c[o + i]'(by omega)) := cell_at h (Array.getElem?_eq_getElem _)
    have hf : w.frozen? ⟨b, o + i, none⟩ = false := by simp [World.frozen?, h]
    have hh : (w.setCell ⟨b, o + i, none⟩ v).heap[b]? = some (.cells (c.setIfInBounds (o + i) v) e (0, 0)) := by
      simp [World.setCell, Array.getElem?_modify, h]
    obtain ⟨w', h1, h2⟩ := ih (i + 1) (c.setIfInBounds (o + i) v) (w.setCell ⟨b, o + i, none⟩ v) hh (by simp; omega) (fun x hx => hv x (by simp [hx]))
    refine ⟨w', ?_, ?_, ?_, ?_, ?_, ?_⟩
    · simp only [storeCells, Sem.run_bind, add_at ⟨b, o, none⟩ rfl]
      rw [run_store P w _ _ _ (hv v (by simp)), hc]
      simp only [hf, Bool.false_eq_true, if_false, Result.andThen_ok]
      exact h1
    · have := h2.here; simpa [spl, Nat.add_assoc] using this
    · intro b' hb
      rw [h2.there b' hb]
      simp [World.setCell, Array.getElem?_modify, Ne.symm hb]
    · rw [h2.size]; simp
    · rw [h2.os]; rfl
    · rw [h2.out]; rfl

theorem spl_size : ∀ (vs : List Value) (c : Array Value) (o : Nat), (spl c o vs).size = c.size := by
  intro vs
  induction vs with
  | nil => intro c o; rfl
  | cons v vs ih => intro c o; simp [spl, ih]

theorem spl_get : ∀ (vs : List Value) (c : Array Value) (o i : Nat), o + vs.length ≤ c.size →
    (spl c o vs)[i]? = if i < o then c[i]? else if i < o + vs.length then vs[i - o]? else c[i]? := by
  intro vs
  induction vs with
  | nil => intro c o i h; simp only [spl, List.length_nil, Nat.add_zero]; split <;> (try split) <;> first | rfl | omega
  | cons v vs ih =>
    intro c o i h
    simp only [List.length_cons] at h ⊢
    rw [spl, ih _ _ _ (by simp; omega)]
    by_cases h1 : i < o
    · rw [if_pos h1, if_pos (by omega), Array.getElem?_setIfInBounds_ne (by omega)]
    · rw [if_neg h1]
      by_cases h2 : i = o
      · subst h2
        rw [if_pos (by omega), if_pos (by omega)]
        have hi : i < c.size := by omega
        simp [hi]
      · rw [if_neg (by omega)]
        by_cases h3 : i < o + (vs.length + 1)
        · rw [if_pos h3, if_pos (by omega)]
          rw [show i - o = (i - (o + 1)) + 1 from by omega]; rfl
        · rw [if_neg h3, if_neg (by omega), Array.getElem?_setIfInBounds_ne (by omega)]

theorem okCells_mem : ∀ {cs : List SV}, okCells cs = true → ∀ s ∈ cs, okCell s = true := by
  intro cs
  induction cs with
  | nil => intro _ s hs; cases hs
  | cons c cs ih =>
    intro h s hs
    simp only [okCells] at h
    cases hc : okCell c
    · rw [hc] at h; simp at h
    · rw [hc] at h
      cases hs with
      | head => exact hc
      | tail _ hs => exact ih (by simpa using h) s hs

theorem okCell_one {α : Nat → Nat} {s : SV} {x : Value} (h : okCell s = true) (hr : s.rel α x) : x.oneCell' = true := by
  cases s with
  | v y => simp only [SV.rel] at hr; subst hr; exact h
  | loc d o => simp only [SV.rel] at hr; subst hr; rfl
  | lsl d o => simp only [SV.rel] at hr; subst hr; rfl
  | any => simp [okCell] at h

/-- the cells of a value against the symbolic cells -/
theorem svCells_rel {α : Nat → Nat} {s : SV} {y : Value} (hs : s.rel α y) (hok : okCells (svCells s) = true) :
    y.cells.size = (svCells s).length ∧ ∀ (i : Nat) (r : SV), (svCells s)[i]? = some r → ∃ x, y.cells[i]? = some x ∧ r.rel α x := by
  cases s with
  | v x =>
    simp only [SV.rel] at hs; subst hs
    refine ⟨by simp [svCells], fun i r hr => ?_⟩
    simp only [svCells, List.getElem?_map, Option.map_eq_some_iff] at hr
    obtain ⟨z, hz, rfl⟩ := hr
    exact ⟨z, by simpa using hz, rfl⟩
  | loc d o =>
    simp only [SV.rel] at hs; subst hs
    refine ⟨rfl, fun i r hr => ?_⟩
    simp only [svCells, List.getElem?_singleton] at hr
    split at hr
    · rename_i h0; subst h0; cases hr; exact ⟨_, rfl, rfl⟩
    · cases hr
  | lsl d o =>
    simp only [SV.rel] at hs; subst hs
    refine ⟨rfl, fun i r hr => ?_⟩
    simp only [svCells, List.getElem?_singleton] at hr
    split at hr
    · rename_i h0; subst h0; cases hr; exact ⟨_, rfl, rfl⟩
    · cases hr
  | any => simp [svCells, okCells, okCell] at hok

theorem svCells_names {s : SV} {r : SV} (h : r ∈ svCells s) {d} (hd : r.names d) : s.names d := by
  cases s with
  | v x => simp only [svCells, List.mem_map] at h; obtain ⟨y, _, rfl⟩ := h; exact hd.elim
  | loc d o => simp [svCells] at h; subst h; exact hd
  | lsl d o => simp [svCells] at h; subst h; exact hd
  | any => simp [svCells] at h; subst h; exact hd

theorem putB_eq (box : Nat → Option (List SV)) (d : Nat) (r : List SV) (e : Nat) : putB box d r e = if e = d then some r else box e := by
  unfold putB
  by_cases h : e = d
  · subst h; simp
  · have : Nat.beq e d = false := by
      cases hb : Nat.beq e d
      · rfl
      · exact absurd (Nat.eq_of_beq_eq_true hb) h
    simp [this, h]

theorem lspl_get {old cs : List SV} {off : Nat} (h : off + cs.length ≤ old.length) (i : Nat) :
    (lspl old off cs)[i]? = if i < off then old[i]? else if i < off + cs.length then cs[i - off]? else old[i]? := by
  unfold lspl
  by_cases h1 : i < off
  · rw [if_pos h1, List.append_assoc, List.getElem?_append_left (by simp; omega), List.getElem?_take_of_lt h1]
  · rw [if_neg h1]
    by_cases h2 : i < off + cs.length
    · rw [if_pos h2, List.append_assoc, List.getElem?_append_right (by simp; omega), List.getElem?_append_left (by simp; omega)]
      congr 1; simp; omega
    · rw [if_neg h2, List.getElem?_append_right (by simp; omega), List.getElem?_drop]
      congr 1; simp; omega

theorem lspl_length {old cs : List SV} {off : Nat} (h : off + cs.length ≤ old.length) : (lspl old off cs).length = old.length := by
  simp [lspl]; omega

theorem lspl_mem {old cs : List SV} {off : Nat} {s : SV} (h : s ∈ lspl old off cs) : s ∈ old ∨ s ∈ cs := by
  simp only [lspl, List.mem_append] at h
  rcases h with (h | h) | h
  · exact .inl (List.mem_of_mem_take h)
  · exact .inr h
  · exact .inl (List.mem_of_mem_drop h)

/-- a store into a box -/
theorem Rel.lstore (R : Rel N u0 h0 σ h α a u) {d off : Nat} {cs old : List SV} (hb : σ.box d = some old) (hl : off + cs.length ≤ old.length)
    {ys : List Value} (hlen : ys.length = cs.length) (hys : ∀ (i : Nat) (s : SV), cs[i]? = some s → ∃ x, ys[i]? = some x ∧ s.rel α x) (hn : ∀ s ∈ cs, ∀ d', s.names d' → σ.box d' ≠ none)
    (hone : ∀ y ∈ ys, y.oneCell' = true) :
    ∃ w', (storeCells ⟨α d, off, none⟩ ys).run P u = .ok () w' ∧ Rel N u0 h0 ⟨σ.env, putB σ.box d (lspl old off cs)⟩ h α a w' := by
  obtain ⟨c, e, h1, h2, h3⟩ := R.box d old hb
  obtain ⟨w', hw, W⟩ := run_storeCells' (P := P) (α d) off e ys 0 c u h1 (by omega) hone
  have hne : ∀ d', putB σ.box d (lspl old off cs) d' = none → σ.box d' = none := fun d' hd' => by
    rw [putB_eq] at hd'; split at hd'
    · cases hd'
    · exact hd'
  refine ⟨w', hw, R.sz, R.env, R.defers, fun d' cs' hb' => ?_, fun d' cs' hb' => ?_, fun d1 d2 c1 c2 hb1 hb2 hα => ?_, fun t d' ht hd' => R.refs t d' ht (hne d' hd'), fun d' cs' hb' s hs e' he' hd' => ?_, ?_⟩
  · simp only [putB_eq] at hb'
    split at hb'
    · rename_i hd'; subst hd'
      cases hb'
      refine ⟨_, e, W.here, by rw [spl_size, lspl_length hl, h2], fun i s hi => ?_⟩
      rw [lspl_get hl] at hi
      rw [spl_get _ _ _ _ (by omega)]
      simp only [Nat.add_zero, hlen]
      split at hi
      · rename_i hio; rw [if_pos hio]; exact h3 i s hi
      · rename_i hio; rw [if_neg hio]
        split at hi
        · rename_i hi2; rw [if_pos hi2]; exact hys _ s hi
        · rename_i hi2; rw [if_neg hi2]; exact h3 i s hi
    · rename_i hd'
      obtain ⟨c', e', g1, g2, g3⟩ := R.box d' cs' hb'
      refine ⟨c', e', ?_, g2, g3⟩
      rw [W.there _ (fun hα => hd' (R.inj d' d _ _ hb' hb hα))]; exact g1
  · simp only [putB_eq] at hb'
    split at hb'
    · rename_i hd'; subst hd'; exact R.boxh _ _ hb
    · exact R.boxh _ _ hb'
  · have : ∃ c1', σ.box d1 = some c1' := by
      simp only [putB_eq] at hb1; split at hb1
      · rename_i hd; subst hd; exact ⟨_, hb⟩
      · exact ⟨_, hb1⟩
    have : ∃ c2', σ.box d2 = some c2' := by
      simp only [putB_eq] at hb2; split at hb2
      · rename_i hd; subst hd; exact ⟨_, hb⟩
      · exact ⟨_, hb2⟩
    rename_i g1
    obtain ⟨c1', g1⟩ := g1
    obtain ⟨c2', g2⟩ := this
    exact R.inj d1 d2 _ _ g1 g2 hα
  · simp only [putB_eq] at hb'
    split at hb'
    · rename_i hd2; subst hd2; cases hb'
      rcases lspl_mem hs with hs | hs
      · exact R.brefs _ _ hb s hs e' he' (hne _ hd')
      · exact hn s hs e' he' (hne _ hd')
    · exact R.brefs _ _ hb' s hs e' he' (hne _ hd')
  · have hα := (R.boxh d old hb)
    refine ⟨fun b o hbo => ?_, by rw [W.size]; exact R.fr.size, fun b hb' hn' => ?_, R.fr.dom, W.os.trans R.fr.os, W.out.trans R.fr.out⟩
    · rw [W.there b (fun h' => by subst h'; rw [hα.1] at hbo; cases hbo)]; exact R.fr.heap b o hbo
    · rw [W.there b (fun h' => by subst h'; omega)]; exact R.fr.frame b hb' hn'

/-- a new box -/
theorem Rel.alloc (R : Rel N u0 h0 σ h α a u) {d : Nat} (hb : σ.box d = none) {cells : Array Value} {t : TypeId} {cs : List SV} (hcs : cs = cells.toList.map .v) :
    Rel N u0 h0 ⟨σ.env, putB σ.box d cs⟩ h (fun e => if e = d then u.heap.size else α e) a (u.alloc (.cells cells t)) := by
  have hne : ∀ d', putB σ.box d cs d' = none → σ.box d' = none := fun d' hd' => by
    rw [putB_eq] at hd'; split at hd'
    · cases hd'
    · exact hd'
  have hnot : ∀ d', σ.box d' ≠ none → (if d' = d then u.heap.size else α d') = α d' := fun d' hd' => by
    rw [if_neg (fun h => hd' (by rw [h]; exact hb))]
  have hold : ∀ b, b < u.heap.size → (u.alloc (.cells cells t)).heap[b]? = u.heap[b]? := fun b hlt => by
    simp [alloc_heap, Array.getElem?_push, Nat.ne_of_lt hlt]
  have hlt : ∀ d' cs', σ.box d' = some cs' → α d' < u.heap.size := fun d' cs' hb' => by
    obtain ⟨c, e, h1, -⟩ := R.box d' cs' hb'
    rcases Nat.lt_or_ge (α d') u.heap.size with h | h
    · exact h
    · rw [Array.getElem?_eq_none h] at h1; cases h1
  refine ⟨R.sz, fun t' => SV.rel_congr (R.env t') fun d' hd' => hnot d' (R.refs t' d' hd'), R.defers, fun d' cs' hb' => ?_, fun d' cs' hb' => ?_, fun d1 d2 c1 c2 hb1 hb2 hα => ?_,
    fun t d' ht hd' => R.refs t d' ht (hne d' hd'), fun d' cs' hb' s hs e' he' hd' => ?_, ?_⟩
  · simp only [putB_eq] at hb'
    split at hb'
    · rename_i hd'; subst hd'
      cases hb'
      refine ⟨cells, t, by simp [alloc_heap], by simp [hcs], fun i s hi => ?_⟩
      rw [hcs, List.getElem?_map, Option.map_eq_some_iff] at hi
      obtain ⟨z, hz, rfl⟩ := hi
      exact ⟨z, by simpa using hz, rfl⟩
    · rename_i hd'
      obtain ⟨c', e', g1, g2, g3⟩ := R.box d' cs' hb'
      rw [if_neg hd']
      refine ⟨c', e', by rw [hold _ (hlt d' cs' hb')]; exact g1, g2, fun i s hi => ?_⟩
      obtain ⟨x, hx, hr⟩ := g3 i s hi
      exact ⟨x, hx, SV.rel_congr hr fun e he => hnot e (R.brefs d' cs' hb' s (List.mem_of_getElem? hi) e he)⟩
  · simp only [putB_eq] at hb'
    split at hb'
    · rename_i hd'; subst hd'
      simp only [if_true]
      refine ⟨?_, R.fr.size⟩
      cases hh : h u.heap.size with
      | none => rfl
      | some o => have := R.fr.heap _ _ hh; rw [Array.getElem?_eq_none (Nat.le_refl _)] at this; cases this
    · rename_i hd'; rw [if_neg hd']; exact R.boxh _ _ hb'
  · simp only [putB_eq] at hb1 hb2
    by_cases e1 : d1 = d <;> by_cases e2 : d2 = d
    · rw [e1, e2]
    · rw [if_neg e2] at hb2; simp only [e1, if_true, if_neg e2] at hα; have := hlt d2 _ hb2; omega
    · rw [if_neg e1] at hb1; simp only [e2, if_true, if_neg e1] at hα; have := hlt d1 _ hb1; omega
    · rw [if_neg e1] at hb1; rw [if_neg e2] at hb2; simp only [if_neg e1, if_neg e2] at hα; exact R.inj _ _ _ _ hb1 hb2 hα
  · simp only [putB_eq] at hb'
    split at hb'
    · cases hb'; rw [hcs, List.mem_map] at hs; obtain ⟨z, _, rfl⟩ := hs; exact he'.elim
    · exact R.brefs _ _ hb' s hs e' he' (hne _ hd')
  · refine ⟨fun b o hbo => ?_, by simp; have := R.fr.size; omega, fun b hb' hn' => ?_, R.fr.dom, R.fr.os, R.fr.out⟩
    · have := R.fr.heap b o hbo
      have hl : b < u.heap.size := by
        rcases Nat.lt_or_ge b u.heap.size with h | h
        · exact h
        · rw [Array.getElem?_eq_none h] at this; cases this
      rw [hold b hl]; exact this
    · rw [hold b (Nat.lt_of_lt_of_le hb' R.fr.size)]; exact R.fr.frame b hb' hn'

/-- a new block of the heap -/
theorem Fr.new {u : World} {h : Heap} (hh : ∀ b o, h b = some o → u.heap[b]? = some o) (o : Obj) : h u.heap.size = none ∧ Fr u h (h.new u.heap.size o) (u.alloc o) := by
  have hn : h u.heap.size = none := by
    cases h1 : h u.heap.size with
    | none => rfl
    | some o => have := hh _ _ h1; rw [Array.getElem?_eq_none (Nat.le_refl _)] at this; cases this
  refine ⟨hn, fun b o' hb => ?_, by simp, fun b hb hn' => ?_, fun b o' hb => ?_, rfl, rfl⟩
  · simp only [Heap.new] at hb
    split at hb
    · rename_i hbe; subst hbe; cases hb; simp [alloc_heap]
    · have := hh b o' hb
      have hl : b < u.heap.size := by
        rcases Nat.lt_or_ge b u.heap.size with h | h
        · exact h
        · rw [Array.getElem?_eq_none h] at this; cases this
      simp [alloc_heap, Array.getElem?_push, Nat.ne_of_lt hl, this]
  · simp [alloc_heap, Array.getElem?_push, Nat.ne_of_lt hb]
  · simp only [Heap.new] at hb
    split at hb
    · rename_i hbe; subst hbe; exact .inr (Nat.le_refl _)
    · exact .inl (by simp [hb])

/-- a store into the heap -/
theorem Fr.put {u : World} {h : Heap} (hh : ∀ b o, h b = some o → u.heap[b]? = some o) {p : Addr} {vs : List Value} (hp : CanPut h p vs.length) (hone : ∀ v ∈ vs, v.oneCell' = true) :
    ∃ u', (storeCells p vs).run P u = .ok () u' ∧ Fr u h (h.put p vs) u' := by
  obtain ⟨hs, c, e, hb, hl⟩ := hp
  obtain ⟨w', hw, W⟩ := run_storeCells' (P := P) p.block p.off e vs 0 c u (hh _ _ hb) (by omega) hone
  have hpe : (⟨p.block, p.off, none⟩ : Addr) = p := by cases p; simp_all
  rw [hpe] at hw
  refine ⟨w', hw, fun b o hbo => ?_, by rw [W.size]; omega, fun b hb' hn => ?_, fun b o hbo => ?_, W.os, W.out⟩
  · simp only [Heap.put] at hbo
    split at hbo
    · rename_i hbe; subst hbe
      rw [hb] at hbo; cases hbo
      exact W.here
    · rename_i hbe; rw [W.there b hbe]; exact hh b o hbo
  · rw [W.there b (fun hbe => by subst hbe; rw [hb] at hn; cases hn)]
  · simp only [Heap.put] at hbo
    split at hbo
    · rename_i hbe; subst hbe; exact .inl (by simp [hb])
    · exact .inl (by simp [hbo])

end
end Go.Proofs.YtbeapoopomlgaaaGreat.Sx
