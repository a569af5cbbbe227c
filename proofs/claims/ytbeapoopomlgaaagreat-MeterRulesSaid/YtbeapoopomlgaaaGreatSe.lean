/- One operation: what its form tells holds of the machine's step. -/
import Derived.Test.YtbeapoopomlgaaaGreatSd
namespace Go.Proofs.YtbeapoopomlgaaaGreat.Sx
open Go
section
variable {P : Program} {N : Nat} {u0 : World} {h0 : Heap} {σ : SS} {h : Heap} {α : Nat → Nat} {a : Act} {u : World} {o : Oper} {esc : List Nat} {ρ : Operand → SV}

/-- the state behind an operation -/
def After (N : Nat) (u0 : World) (h0 : Heap) (K : SS → Heap → Prop) (a' : Act) (u' : World) : Prop := ∃ σ' h' α', K σ' h' ∧ Rel N u0 h0 σ' h' α' a' u'

theorem classify_load {F} (h : classify P esc o ρ = F) (hF : (∃ p sh agg, F = .hload p sh agg) ∨ (∃ d off n agg, F = .lload d off n agg)) :
    ∃ t x, o.op = .load t x ∧ Nat.beq (shOf P 9 t).length (match isAggT P t with | true => P.cellsOf t | false => 1) = true ∧ okT P t = true ∧
      ((∃ d off, ρ x = .loc d off ∧ F = .lload d off (shOf P 9 t).length (isAggT P t)) ∨ (∃ p, ρ x = .v (.pointer p) ∧ F = .hload p (shOf P 9 t) (isAggT P t))) := by
  unfold classify at h
  split at h
  case h_8 t x hop =>
    split at h
    · rename_i d off hx hl ho
      exact ⟨t, x, hop, hl, ho, .inl ⟨d, off, hx, h.symm⟩⟩
    · rename_i p hx hl ho
      exact ⟨t, x, hop, hl, ho, .inr ⟨p, hx, h.symm⟩⟩
    · subst h; rcases hF with ⟨_, _, _, hF⟩ | ⟨_, _, _, _, hF⟩ <;> cases hF
  all_goals
    exfalso
    try unfold newF at h
    try unfold callB at h
    try unfold callF at h
    try unfold appF at h
    repeat' (first | (subst h; rcases hF with ⟨_, _, _, hF⟩ | ⟨_, _, _, _, hF⟩ <;> cases hF; done) | split at h)

theorem classify_alloc {cs sl} (h : classify P esc o ρ = .alloc cs sl) :
    (sl = none ∧ ∃ t cells, cs = cells.toList.map .v ∧ ((o.op = .alloc t ∧ ∃ z, zeroOf P t = some z ∧ cells = z.cells) ∨ ∃ x y, o.op = .box t x ∧ ρ x = .v y ∧ cells = y.cells)) ∨
    (∃ t n parts e vs z cells, sl = some n ∧ o.op = .buildSlice t n parts ∧ P.underlying t = some (.slice e) ∧ allV (parts.toList.map fun p => ρ p.2) = some vs ∧ zeroOf P e = some z ∧
      n * P.cellsOf e ≤ 16777216 ∧ Instr.fill (fun i => some (i * P.cellsOf e, P.cellsOf e)) (zrow z.cells.toList (n * P.cellsOf e)).toArray ((parts.toList.map (·.1)).zip vs) = some cells ∧ cs = cells.toList.map .v) := by
  unfold classify at h
  split at h
  case h_4 t hop =>
    split at h
    · rename_i z hz
      unfold newF at h
      split at h
      · cases h; exact .inl ⟨rfl, t, z.cells, rfl, .inl ⟨hop, z, hz, rfl⟩⟩
      · cases h
    · cases h
  case h_5 t x hop =>
    split at h
    · rename_i y hy
      unfold newF at h
      split at h
      · cases h; exact .inl ⟨rfl, t, y.cells, rfl, .inr ⟨x, y, hop, hy, rfl⟩⟩
      · cases h
    · cases h
  case h_7 t n parts hop =>
    split at h
    · rename_i e vs hu hvs
      split at h
      · rename_i z hz hle
        split at h
        · rename_i cells hf _
          cases h
          exact .inr ⟨t, n, parts, e, vs, z, cells, rfl, hop, hu, hvs, hz, Nat.le_of_ble_eq_true hle, hf, rfl⟩
        · cases h
        · cases h
      · cases h
    · cases h
  all_goals
    exfalso
    try unfold callB at h
    try unfold callF at h
    try unfold appF at h
    repeat' (first | (cases h; done) | split at h)

theorem classify_lstore {d off cs} (h : classify P esc o ρ = .lstore d off cs) :
    ∃ t x y, o.op = .store t x y ∧ ρ x = .loc d off ∧ cs = svCells (ρ y) ∧ cs.length = P.cellsOf t ∧ okT P t = true ∧ d < 10000 := by
  unfold classify at h
  split at h
  case h_9 t x y hop =>
    split at h
    · rename_i d' off' hx ho
      split at h
      · rename_i hl hd
        cases h
        exact ⟨t, x, y, hop, hx, rfl, Nat.eq_of_beq_eq_true hl, ho, by
          rcases Nat.lt_or_ge d 10000 with h' | h'
          · exact h'
          · rw [Nat.ble_eq_true_of_le h'] at hd; cases hd⟩
      · cases h
    · split at h <;> cases h
    · cases h
  all_goals
    exfalso
    try unfold newF at h
    try unfold callB at h
    try unfold callF at h
    try unfold appF at h
    repeat' (first | (cases h; done) | split at h)

theorem classify_effb {d n E} (h : classify P esc o ρ = .effb d n E) :
    ∃ c ts x y t e a n' c' m, o.op = .call c ∧ c.callee = .builtin .append ∧ c.argTypes = ts ∧ c.args.toList.map ρ = [.v (.slice a n' c'), .lsl d m] ∧ c.args = #[x, y] ∧ ts[0]? = some t ∧ P.underlying t = some (.slice e) ∧
      (∃ e', (ts[1]?).bind P.underlying = some (.slice e')) ∧ n = m * P.cellsOf e ∧ E = fun new h k => AppendS P h e ⟨a, n', c'⟩ new m fun s' h' => k (.v (.slice s'.p s'.n s'.c)) h' := by
  unfold classify at h
  split at h
  case h_29 c hop =>
    split at h
    · rename_i b hb
      unfold callB at h
      split at h
      case h_6 x y hxy =>
        obtain ⟨p, q, hpq, hp, hq⟩ := map2 hxy
        split at h
        · rename_i t ht
          split at h
          · rename_i e' hint
            unfold appF at h
            split at h
            · rename_i e a n' c' d' m hu
              cases h
              exact ⟨c, _, p, q, t, e, a, n', c', m, hop, hb, rfl, hxy, by rw [← Array.toList_inj, hpq], ht, hu, ⟨e', hint⟩, rfl, rfl⟩
            · cases h
            · cases h
          · cases h
        · cases h
      all_goals (repeat' (first | (cases h; done) | split at h))
    · split at h
      · unfold callF at h; repeat' (first | (cases h; done) | split at h)
      · cases h
    · split at h <;> cases h
    · split at h <;> cases h
  all_goals
    exfalso
    try unfold newF at h
    repeat' (first | (cases h; done) | split at h)


/-! ### the machine's step -/
theorem hsub (R : Rel N u0 h0 σ h α a u) : ∀ b o, h b = some o → u.heap[b]? = some o := R.fr.heap

theorem sound_load {t : TypeId} {x : Operand} {K : SS → Heap → Prop} {Q} (R : Rel N u0 h0 σ h α a u) (hd : ∀ d, o.dst = some d → d < N) (hop : o.op = .load t x) (ho : okT P t = true)
    (hl : Nat.beq (shOf P 9 t).length (match isAggT P t with | true => P.cellsOf t | false => 1) = true) {p} (hx : ev σ.env x = .v (.pointer p))
    (hi : interp (.hload p (shOf P 9 t) (isAggT P t)) o.dst K σ h) : o.wp P a u (After N u0 h0 K) Q := by
  obtain ⟨q, rfl, hi⟩ := psome_iff.1 hi
  obtain ⟨vs, hsh, hh, hk⟩ := exSh_iff.1 hi
  obtain ⟨hs, c, e, fr, hb, hv⟩ := hh
  have hrun := run_loadVar' ho hs u (hsub R _ _ hb) hv (by rw [hsh.length]; exact Nat.eq_of_beq_eq_true hl)
  unfold Oper.wp
  simp only [execOp, hop, Instr.loadAt, R.orel.v hx, Instr.sureAddr, Sem.run_bind, Sem.run_pure, Result.andThen_ok, hrun, Oper.upon_value]
  exact ⟨_, h, α, hk, R.put hd rfl fun _ h => h.elim⟩

theorem allV_rel {α : Nat → Nat} {cs : List SV} {vs : List Value} (h : allV cs = some vs) {c : Array Value} {o : Nat} (hc : ∀ (i : Nat) (s : SV), cs[i]? = some s → ∃ x, c[o + i]? = some x ∧ s.rel α x) :
    ∀ (i : Nat) (v : Value), vs[i]? = some v → c[o + i]? = some v := by
  intro i v hv
  have := allV_map h
  obtain ⟨x, hx, hr⟩ := hc i (.v v) (by rw [this, List.getElem?_map, hv]; rfl)
  simp only [SV.rel] at hr
  rw [hx, hr]

theorem box_part (R : Rel N u0 h0 σ h α a u) {d off n : Nat} {cs : List SV} (hb : σ.box d = some cs) :
    ∃ c e, u.heap[α d]? = some (.cells c e (0, 0)) ∧ ∀ (i : Nat) (s : SV), ((cs.drop off).take n)[i]? = some s → ∃ x, c[off + i]? = some x ∧ s.rel α x := by
  obtain ⟨c, e, h1, h2, h3⟩ := R.box d cs hb
  refine ⟨c, e, h1, fun i s hi => ?_⟩
  rw [List.getElem?_take] at hi
  split at hi
  · rw [List.getElem?_drop] at hi; exact h3 _ _ hi
  · cases hi

theorem sound_lload {t : TypeId} {x : Operand} {K : SS → Heap → Prop} {Q} (R : Rel N u0 h0 σ h α a u) (hd : ∀ d, o.dst = some d → d < N) (hop : o.op = .load t x) (ho : okT P t = true)
    (hl : Nat.beq (shOf P 9 t).length (match isAggT P t with | true => P.cellsOf t | false => 1) = true) {d off} (hx : ev σ.env x = .loc d off)
    (hi : interp (.lload d off (shOf P 9 t).length (isAggT P t)) o.dst K σ h) : o.wp P a u (After N u0 h0 K) Q := by
  simp only [interp] at hi
  split at hi
  · rename_i cs hb
    split at hi
    · rename_i r hn hr
      obtain ⟨c, e, h1, h2⟩ := box_part R hb
      have hlen := Nat.eq_of_beq_eq_true hl
      unfold Oper.wp
      simp only [execOp, hop, Instr.loadAt, R.orel.loc hx, Instr.sureAddr, Sem.run_bind, Sem.run_pure, Result.andThen_ok]
      have hnames : ∀ d', r.names d' → σ.box d' ≠ none := by
        intro d' hd'
        cases ha : isAggT P t
        · rw [ha] at hr
          cases hcs : (cs.drop off).take (shOf P 9 t).length with
          | nil => simp [hcs, svAgg] at hr
          | cons s r' =>
            simp only [hcs, svAgg, Option.some.injEq] at hr; subst hr
            exact R.brefs d cs hb s (List.mem_of_mem_drop (List.mem_of_mem_take (by rw [hcs]; simp))) d' hd'
        · rw [ha] at hr
          simp only [svAgg, Option.map_eq_some_iff] at hr
          obtain ⟨vs, _, rfl⟩ := hr
          exact hd'.elim
      cases ha : isAggT P t
      · rw [ha] at hr hlen
        cases hcs : (cs.drop off).take (shOf P 9 t).length with
        | nil => simp [hcs, svAgg] at hr
        | cons s r' =>
          simp only [hcs, svAgg, Option.some.injEq] at hr; subst hr
          obtain ⟨y, hy, hry⟩ := h2 0 s (by rw [hcs]; rfl)
          have hc : u.cell? ⟨α d, off, none⟩ = some y := cell_at h1 (by simpa using hy)
          simp only [loadVar, Sem.run_bind, run_isAgg' ho, ha, Result.andThen_ok, Bool.false_eq_true, if_false, run_load, hc, Oper.upon_value]
          exact ⟨_, h, α, hi, R.put hd hry hnames⟩
      · rw [ha] at hr
        simp only [svAgg, Option.map_eq_some_iff] at hr
        obtain ⟨vs, hvs, rfl⟩ := hr
        have hv := allV_rel (α := α) hvs (c := c) (o := off) h2
        have hvl : vs.length = (shOf P 9 t).length := by
          have := congrArg List.length (allV_map hvs)
          simp only [List.length_take, List.length_drop, List.length_map] at this
          have := Nat.le_of_ble_eq_true hn
          omega
        have hrun := run_loadVar' ho (p := ⟨α d, off, none⟩) rfl u h1 hv (by rw [hvl]; exact hlen)
        rw [hrun]
        simp only [Result.andThen_ok, Oper.upon_value, ha, mkV]
        exact ⟨_, h, α, hi, R.put hd rfl fun _ h => h.elim⟩
    · exact hi.elim
  · exact hi.elim

theorem sound_lstore {t : TypeId} {x y : Operand} {K : SS → Heap → Prop} {Q} (R : Rel N u0 h0 σ h α a u) (hd : ∀ d, o.dst = some d → d < N) (hop : o.op = .store t x y) (ho : okT P t = true)
    {d off} (hx : ev σ.env x = .loc d off) (hl : (svCells (ev σ.env y)).length = P.cellsOf t)
    (hi : interp (.lstore d off (svCells (ev σ.env y))) o.dst K σ h) : o.wp P a u (After N u0 h0 K) Q := by
  simp only [interp] at hi
  split at hi
  · rename_i old hb
    split at hi
    · rename_i hn hok
      obtain ⟨g1, g2⟩ := svCells_rel (R.orel y) hok
      have hone : ∀ v ∈ (a.eval y).cells.toList, v.oneCell' = true := by
        intro v hv
        obtain ⟨i, hi⟩ := List.mem_iff_getElem?.1 hv
        have hilt : i < (svCells (ev σ.env y)).length := by
          rw [← g1]
          have := (List.getElem?_eq_some_iff.1 hi).1
          simpa using this
        obtain ⟨z, hz, hr⟩ := g2 i _ (List.getElem?_eq_getElem hilt)
        rw [Array.getElem?_toList] at hi
        rw [hi] at hz; cases hz
        exact okCell_one (okCells_mem hok _ (List.getElem_mem hilt)) hr
      obtain ⟨w', hw, R'⟩ := R.lstore (P := P) hb (Nat.le_of_ble_eq_true hn) (ys := (a.eval y).cells.toList) (by simpa using g1) (fun i s hs => by simpa using g2 i s hs)
        (fun s hs d' hd' => by
          have := svCells_names hs hd'
          cases y with
          | tmp t => exact R.refs t d' this
          | _ => exact this.elim) hone
      unfold Oper.wp
      simp only [execOp, hop, Instr.storeAt, R.orel.loc hx, Instr.sureAddr, Sem.run_bind, Sem.run_pure, Result.andThen_ok, storeVar, run_sizeOf' ho, Sem.run_ite]
      rw [if_neg (by rw [g1, hl]; simp)]
      simp only [hw, Result.andThen_ok, Oper.upon_skip]
      exact ⟨_, h, α, hi, R'.put hd trivial fun _ h => h.elim⟩
    · exact hi.elim
  · exact hi.elim

theorem run_sizeOf_zero {e : TypeId} {z : Value} (hz : zeroOf P e = some z) (w : World) : (sizeOf e).run P w = .ok (P.cellsOf e) w := by
  unfold zeroOf at hz
  cases hi : P.info? e with
  | none => simp [hi] at hz
  | some i => simp [sizeOf, typeInfo, hi, Program.cellsOf, Sem.run_bind]

theorem run_buildSlice' (w : World) {t e : TypeId} {n : Nat} {ps : Array (Nat × Value)} {qs : List (Nat × Value)} {z : Value} {cells : Array Value} (hu : P.underlying t = some (.slice e)) (hz : zeroOf P e = some z)
    (hle : n * P.cellsOf e ≤ 16777216) (hpt : ps.toList = qs) (hf : Instr.fill (fun i => some (i * P.cellsOf e, P.cellsOf e)) (zrow z.cells.toList (n * P.cellsOf e)).toArray qs = some cells) :
    (Instr.buildSlice t n ps).run P w = .ok (.slice (some ⟨w.heap.size, 0, none⟩) n n) (w.alloc (.cells cells e)) := by
  have hr : (zrow z.cells.toList (n * P.cellsOf e)).toArray = (Array.range (n * P.cellsOf e)).map (z.cells[· % z.cells.size]!) := by
    apply Array.ext'
    simp only [zrow, Array.toList_map, Array.toList_range]
    refine List.map_congr_left fun i _ => ?_
    simp [List.getElem!_eq_getElem?_getD, Array.getElem!_eq_getD]
  simp only [Instr.buildSlice, Sem.run_bind, run_underlying hu, Result.andThen_ok, run_sizeOf_zero hz, Sem.run_ite]
  rw [if_neg (by omega)]
  by_cases h0 : n * P.cellsOf e = 0
  · rw [h0] at hf hr
    have e0 : ∀ f : Nat → Value, (Array.range 0).map f = #[] := fun f => by simp
    have e1 : ((zrow z.cells.toList 0).toArray : Array Value) = #[] := rfl
    rw [e1] at hf
    simp only [h0, if_true, Sem.run_pure, Result.andThen_ok, hpt, e0, hf, Sem.run_bind, newRow, run_newObj, World.alloc_eq]
  · rw [if_neg h0]
    simp only [Sem.run_bind, run_zeroValue' hz, Result.andThen_ok, Sem.run_pure, ← hr, hpt, hf, newRow, run_newObj, World.alloc_eq]

theorem sound_alloc {cs sl} {K : SS → Heap → Prop} {Q} (R : Rel N u0 h0 σ h α a u) (hd : ∀ d, o.dst = some d → d < N) (hc : classify P esc o (ev σ.env) = .alloc cs sl)
    (hi : interp (.alloc cs sl) o.dst K σ h) : o.wp P a u (After N u0 h0 K) Q := by
  simp only [interp] at hi
  split at hi
  · rename_i d hdst
    split at hi
    · rename_i hb
      rcases classify_alloc hc with ⟨rfl, t, cells, hcs, hop⟩ | ⟨t, n, parts, e, vs, z, cells, rfl, hop, hu, hvs, hz, hle, hf, hcs⟩
      · have hrun : (execOp a.eval o).run P u = .ok (.value (.pointer (some ⟨u.heap.size, 0, none⟩))) (u.alloc (.cells cells t)) := by
          rcases hop with ⟨hop, z, hz, rfl⟩ | ⟨x, y, hop, hy, rfl⟩
          · simp only [execOp, hop, Instr.alloc, Sem.run_bind, run_zeroValue' hz, Result.andThen_ok, newVar, newRow, run_newObj, Sem.run_pure, World.alloc_eq]
          · simp only [execOp, hop, Instr.box, Sem.run_bind, Result.andThen_ok, newVar, newRow, run_newObj, Sem.run_pure, World.alloc_eq, R.orel.v hy]
        unfold Oper.wp
        rw [hrun, Oper.upon_value]
        have R' := R.alloc hb (cells := cells) (t := t) hcs
        refine ⟨_, h, fun e => if e = d then u.heap.size else α e, hi, ?_⟩
        have := R'.put (dst := o.dst) (r := .loc d 0) (y := .pointer (some ⟨u.heap.size, 0, none⟩)) hd (by simp) (fun d' hd' => by
          simp only [SV.names] at hd'; subst hd'; simp [putB_eq])
        rw [hdst] at this ⊢
        exact this
      · have hpt : (parts.map fun (i, x) => (i, a.eval x)).toList = (parts.toList.map (·.1)).zip vs := by
          have := R.orel.list (l := parts.toList.map (·.2)) (by simpa [Function.comp_def] using hvs)
          rw [← this]
          simp only [Array.toList_map]
          generalize parts.toList = l
          induction l with
          | nil => rfl
          | cons p l ih => simp [ih]
        have hrun : (execOp a.eval o).run P u = .ok (.value (.slice (some ⟨u.heap.size, 0, none⟩) n n)) (u.alloc (.cells cells e)) := by
          simp only [execOp, hop, Sem.run_bind, run_buildSlice' u hu hz hle hpt hf, Result.andThen_ok, Sem.run_pure]
        unfold Oper.wp
        rw [hrun, Oper.upon_value]
        have R' := R.alloc hb (cells := cells) (t := e) hcs
        refine ⟨_, h, fun e => if e = d then u.heap.size else α e, hi, ?_⟩
        have := R'.put (dst := o.dst) (r := .lsl d n) (y := .slice (some ⟨u.heap.size, 0, none⟩) n n) hd (by simp) (fun d' hd' => by
          simp only [SV.names] at hd'; subst hd'; simp [putB_eq])
        rw [hdst] at this ⊢
        exact this
    · exact hi.elim
  · exact hi.elim


/-! ### append -/
theorem info_of_zero {e : TypeId} {z : Value} (hz : zeroOf P e = some z) : ∃ i, P.info? e = some i ∧ i.zero = some z := by
  unfold zeroOf at hz
  cases hi : P.info? e with
  | none => simp [hi] at hz
  | some i => exact ⟨i, rfl, by simpa [hi] using hz⟩

theorem bytesOf_info {e : TypeId} {i : TypeInfo} (hi : P.info? e = some i) : P.bytesOf e = i.bytes := by simp [Program.bytesOf, hi]
theorem cellsOf_info {e : TypeId} {i : TypeInfo} (hi : P.info? e = some i) : P.cellsOf e = i.size := by simp [Program.cellsOf, hi]

theorem run_zeroCells (z : Array Value) (k : Nat) : (zrow z.toList (k * z.size)).toArray = Builtin.zeroCells z k := by
  apply Array.ext'
  simp only [zrow, Builtin.zeroCells, Array.toList_map, Array.toList_range]
  refine List.map_congr_left fun i _ => ?_
  simp [List.getElem!_eq_getElem?_getD, Array.getElem!_eq_getD]

theorem okT_info {e : TypeId} (h : 0 < P.bytesOf e) : ∃ i, P.info? e = some i := by
  unfold Program.bytesOf at h
  cases hi : P.info? e with
  | none => simp [hi] at h
  | some i => exact ⟨i, rfl⟩

theorem append_sound {h : Heap} {u : World} {t ty e : TypeId} {ts : Array TypeId} {s : Sl} {x : Value} {new : List Value} {cnt : Nat} {K : Sl → Heap → Prop} (A : AppendS P h e s new cnt K)
    (hu : ∀ b o, h b = some o → u.heap[b]? = some o) (ht : ts[0]? = some t) (hT : P.underlying t = some (.slice e)) (hint : ∃ e', (ts[1]?).bind P.underlying = some (.slice e')) (hinf : ∃ i, P.info? e = some i)
    (hl : ∀ w, (Builtin.lenOf x).run P w = .ok cnt w) (hf : ∀ w : World, w.heap = u.heap → (Builtin.firstCells (P.cellsOf e) cnt x).run P w = .ok new.toArray w) :
    ∃ s' h' u', (Builtin.append_ ts ty #[.slice s.p s.n s.c, x]).run P u = .ok (.slice s'.p s'.n s'.c) u' ∧ K s' h' ∧ Fr u h h' u' := by
  obtain ⟨inf, hi⟩ := hinf
  have hb := bytesOf_info hi
  have hs : ∀ w, (sizeOf e).run P w = .ok (P.cellsOf e) w := fun w => by simp [sizeOf, typeInfo, hi, Sem.run_bind, cellsOf_info hi]
  have hty : ∀ w, (typeInfo e).run P w = .ok inf w := fun w => by simp [typeInfo, hi, Sem.run_bind]
  have hmid : ∃ B : Bool, B = false ∧ (Builtin.append_ ts ty #[.slice s.p s.n s.c, x]).run P u = (Builtin.append_ (ts.take 1) ty #[.slice s.p s.n s.c, x]).run P u := by
    refine ⟨false, rfl, ?_⟩
    have h0 : (ts.take 1)[0]? = some t := by
      cases ts with | mk l => cases l with
        | nil => simp at ht
        | cons y l => simpa using ht
    have h1 : (ts.take 1)[1]? = none := by
      cases ts with | mk l => simp; omega
    cases h2 : ts[1]? with
    | none => simp only [Builtin.append_, ht, h0, h1, h2]
    | some t1 =>
      obtain ⟨e', hd⟩ := hint
      simp only [h2, Option.bind_some] at hd
      simp only [Builtin.append_, ht, h0, h1, h2, List.getElem?_toArray, List.getElem?_cons_zero, List.getElem?_cons_succ, Sem.run_bind, run_underlying hT, Result.andThen_ok, hs, run_underlying hd, Sem.run_pure]
  obtain ⟨_, _, hmid⟩ := hmid
  rw [hmid]
  have h0 : (ts.take 1)[0]? = some t := by
    cases ts with | mk l => cases l with
      | nil => simp at ht
      | cons y l => simpa using ht
  have h1 : (ts.take 1)[1]? = none := by
    cases ts with | mk l => simp; omega
  simp only [Builtin.append_, h0, h1, List.getElem?_toArray, List.getElem?_cons_zero, List.getElem?_cons_succ, Sem.run_bind, run_underlying hT, Result.andThen_ok, hs, hl, Bool.false_eq_true, if_false, Bool.not_false, if_true, Sem.run_ite, false_or, Sem.run_pure]
  by_cases hr : s.n + cnt ≤ s.c
  · rw [if_pos hr, hf u rfl]
    simp only [Result.andThen_ok]
    rcases A.room hr with ⟨rfl, hk⟩ | ⟨a, ha, hp, hk⟩
    · refine ⟨⟨s.p, s.n + cnt, s.c⟩, h, u, ?_, hk, Fr.refl hu⟩
      cases s.p <;> simp [storeCells]
    · obtain ⟨u', hst, hF⟩ := Fr.put (P := P) hu hp A.one
      refine ⟨⟨s.p, s.n + cnt, s.c⟩, _, u', ?_, hk, hF⟩
      simp only [ha, Sem.run_bind, hst, Result.andThen_ok, Sem.run_pure]
  · rw [if_neg hr]
    obtain ⟨g1, g2, old, z, g3, g4, g5, g6, g7⟩ := A.grow (by omega)
    rw [hb] at g1 g2
    have hne : inf.bytes ≠ 0 := by omega
    have hneed : ¬ (((s.n + cnt : Nat) : Int) > IntKind.i64.max ∧ inf.bytes = 0) := fun hh => hne hh.2
    have hcap : ¬ (Builtin.nextslicecap (s.n + cnt) s.c * inf.bytes > 2 ^ 48) := by omega
    simp only [hty, Result.andThen_ok, if_neg hneed, if_neg hcap, run_choose]
    have hforced : (Question.appendCap (s.n + cnt) s.c e).forced = false := rfl
    have hge : s.n + cnt ≤ (Question.appendCap (s.n + cnt) s.c e).cut (u.tape u.drawn (Question.appendCap (s.n + cnt) s.c e)) := Nat.le_add_right _ _
    simp only [hforced, Bool.false_eq_true, if_false, Result.andThen_ok, run_askRoom]
    generalize (Question.appendCap (s.n + cnt) s.c e).cut (u.tape u.drawn (Question.appendCap (s.n + cnt) s.c e)) = cap at hge ⊢
    have hold : (Builtin.firstCells (P.cellsOf e) s.n (Value.slice s.p s.n s.c)).run P { heap := u.heap, tape := u.tape, drawn := u.drawn + 1, os := u.os, output := u.output } =
        .ok old.toArray { heap := u.heap, tape := u.tape, drawn := u.drawn + 1, os := u.os, output := u.output } := by
      cases hp : s.p with
      | none => rw [g5 hp]; simp [Builtin.firstCells]
      | some a =>
        simp only [Builtin.firstCells, ← g3]
        rcases g4 a hp with rfl | ⟨hsp, c, e', fr, hb', hv⟩
        · rfl
        · exact run_loadCells_list _ a old fun j v hj => by rw [add_at a hsp]; exact cell_at (hu _ _ hb') (hv j v hj)
    rw [hold]
    simp only [Result.andThen_ok]
    rw [hf { heap := u.heap, tape := u.tape, drawn := u.drawn + 1, os := u.os, output := u.output } rfl]
    simp only [Result.andThen_ok, run_zeroValue' g6, newRow, Sem.run_bind, run_newObj, Sem.run_pure, World.alloc_eq]
    obtain ⟨hn, F⟩ := Fr.new (u := { heap := u.heap, tape := u.tape, drawn := u.drawn + 1, os := u.os, output := u.output }) hu (.cells (old ++ new ++ zrow z.cells.toList ((cap - (s.n + cnt)) * z.cells.size)).toArray e)
    refine ⟨⟨some ⟨u.heap.size, 0, none⟩, s.n + cnt, cap⟩, _, _, ?_, g7 cap u.heap.size hge hn, ⟨F.heap, F.size, F.frame, F.dom, F.os, F.out⟩⟩
    have : (old ++ new ++ zrow z.cells.toList ((cap - (s.n + cnt)) * z.cells.size)).toArray = old.toArray ++ new.toArray ++ Builtin.zeroCells z.cells (cap - (s.n + cnt)) := by
      rw [← run_zeroCells]; simp
    rw [this]

end
end Go.Proofs.YtbeapoopomlgaaaGreat.Sx
