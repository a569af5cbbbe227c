/- Operations with an effect on the heap, and an operation of whatever form. -/
import Derived.Test.YtbeapoopomlgaaaGreatSm
namespace Go.Proofs.YtbeapoopomlgaaaGreat.Sx
open Go
section
variable {P : Program} {N : Nat} {u0 : World} {h0 : Heap} {σ : SS} {h : Heap} {α : Nat → Nat} {a : Act} {u : World} {o : Oper} {esc : List Nat} {ρ : Operand → SV}

/-- no function is one that the machine answers by its name -/
def NamesOK (P : Program) : Prop := ∀ (f : Nat) (fn : Func), P.funcs[f]? = some fn → (fn.name == "runtime.NumGoroutine") = false

/-- what an effect leaves -/
def EffPost (k : SV → Heap → Prop) (u : World) (h : Heap) (next : SV → Value → World → Prop) : Prop := ∀ r y h' u', k r h' → r = .v y ∨ r = .any → Fr u h h' u' → next r y u'

theorem rel_of {r : SV} {y : Value} (h : r = .v y ∨ r = .any) : r.rel α y := by
  rcases h with rfl | rfl
  · exact rfl
  · exact trivial
theorem names_of {r : SV} {y : Value} (h : r = .v y ∨ r = .any) : ∀ d, ¬ r.names d := by
  rcases h with rfl | rfl <;> exact fun _ h => h

theorem exTup_elim : ∀ {l : List TypeId} {k : List Value → Prop}, exTup P l k → ∃ vs, k vs := by
  intro l
  induction l with
  | nil => exact fun h => ⟨_, h⟩
  | cons t l ih =>
    intro k h
    obtain ⟨vs, _, h⟩ := exSh_iff.1 h
    obtain ⟨ws, h⟩ := ih h
    exact ⟨_, h⟩
theorem exRes_elim {t : TypeId} {k : Value → Prop} (h : exRes P t k) : ∃ v, k v := by
  unfold exRes at h
  split at h
  · obtain ⟨vs, h⟩ := exTup_elim h; exact ⟨_, h⟩
  · obtain ⟨vs, _, h⟩ := exSh_iff.1 h; exact ⟨_, h⟩

theorem eff_done (R : Rel N u0 h0 σ h α a u) (hd : ∀ d, o.dst = some d → d < N) {K : SS → Heap → Prop} {r : SV} {y : Value} {h' : Heap} {u' : World}
    (hk : K ⟨putE σ.env o.dst r, σ.box⟩ h') (hr : r = .v y ∨ r = .any) (F : Fr u h h' u') : After N u0 h0 K (a.put o.dst y) u' :=
  ⟨_, h', α, hk, (R.step F).put hd (rel_of hr) fun d hd => (names_of hr d hd).elim⟩

theorem okT_of_und {t : TypeId} {d} (h : P.underlying t = some d) : okT P t = true := by simp [okT, h]

theorem firstCells_has {h : Heap} {s : Sl} {size : Nat} {new : List Value} (H : HasSl h s size new) (u : World) (hu : ∀ b o, h b = some o → u.heap[b]? = some o) (w : World) (hw : w.heap = u.heap) :
    (Builtin.firstCells size s.n (.slice s.p s.n s.c)).run P w = .ok new.toArray w := by
  cases hp : s.p with
  | none => rw [H.none hp]; simp [Builtin.firstCells]
  | some a =>
    simp only [Builtin.firstCells, ← H.len]
    rcases H.some a hp with rfl | ⟨hsp, c, e', fr, hb', hv⟩
    · rfl
    · exact run_loadCells_list _ a new fun j v hj => by rw [add_at a hsp]; exact cell_at (by rw [hw]; exact hu _ _ hb') (hv j v hj)

theorem wrap_small {n : Int} (h1 : 0 ≤ n) (h2 : n ≤ 281474976710656) : IntKind.i64.wrap n = n := by
  have hm : n % (2 ^ 64 : Int) = n := by omega
  simp only [IntKind.wrap, IntKind.bits, hm]
  rw [if_neg (by simp [IntKind.signed]; omega)]

theorem mks_ok {l c : Int} {b : Nat} (h : MkS l c b) : IntKind.i64.wrap l = l ∧ IntKind.i64.wrap c = c ∧ (b : Int) * c ≤ 2 ^ 48 := by
  obtain ⟨h0, h1, h2, h3⟩ := h
  have : c ≤ c * b := by
    have : 0 ≤ c := by omega
    have hb : (1 : Int) ≤ b := by omega
    calc c = c * 1 := by omega
      _ ≤ c * b := Int.mul_le_mul_of_nonneg_left hb this
  exact ⟨wrap_small h0 (by omega), wrap_small (by omega) (by omega), by rw [Int.mul_comm]; exact h2⟩

theorem sound_eff {E} {K : SS → Heap → Prop} {Q} (hN : NamesOK P) (R : Rel N u0 h0 σ h α a u) (hd : ∀ d, o.dst = some d → d < N) (hc : classify P esc o (ev σ.env) = .eff E)
    (hi : interp (.eff E) o.dst K σ h) : o.wp P a u (After N u0 h0 K) Q := by
  simp only [interp] at hi
  have hsubs := hsub R
  have hR := R.orel
  unfold classify at hc
  split at hc
  case h_4 t hop =>
    split at hc
    · rename_i z hz
      unfold newF at hc
      split at hc
      · cases hc
      · cases hc
        obtain ⟨hn, F⟩ := Fr.new hsubs (.cells z.cells t)
        unfold Oper.wp
        simp only [execOp, hop, Instr.alloc, Sem.run_bind, run_zeroValue' hz, Result.andThen_ok, newVar, newRow, run_newObj, Sem.run_pure, World.alloc_eq, Oper.upon_value]
        exact eff_done R hd (hi _ hn) (.inl rfl) F
    · cases hc
  case h_5 t x hop =>
    split at hc
    · rename_i y hy
      unfold newF at hc
      split at hc
      · cases hc
      · cases hc
        obtain ⟨hn, F⟩ := Fr.new hsubs (.cells y.cells t)
        unfold Oper.wp
        simp only [execOp, hop, Instr.box, Sem.run_bind, Result.andThen_ok, newVar, newRow, run_newObj, Sem.run_pure, World.alloc_eq, hR.v hy, Oper.upon_value]
        exact eff_done R hd (hi _ hn) (.inl rfl) F
    · cases hc
  case h_7 t n parts hop =>
    split at hc
    · rename_i e vs hu hvs
      split at hc
      · rename_i z hz hle
        split at hc
        · cases hc
        · rename_i cells hf _
          cases hc
          obtain ⟨hn, F⟩ := Fr.new hsubs (.cells cells e)
          have hpt : (parts.map fun (i, x) => (i, a.eval x)).toList = (parts.toList.map (·.1)).zip vs := by
            have := hR.list (l := parts.toList.map (·.2)) (by simpa [Function.comp_def] using hvs)
            rw [← this]
            simp only [Array.toList_map]
            generalize parts.toList = l
            induction l with
            | nil => rfl
            | cons p l ih => simp [ih]
          unfold Oper.wp
          simp only [execOp, hop, Sem.run_bind, run_buildSlice' u hu hz (Nat.le_of_ble_eq_true hle) hpt hf, Result.andThen_ok, Sem.run_pure, Oper.upon_value]
          exact eff_done R hd (hi _ hn) (.inl rfl) F
        · cases hc
      · cases hc
    · cases hc
  case h_9 t x y hop =>
    split at hc
    · split at hc <;> cases hc
    · rename_i p v hx hy ho
      split at hc
      · rename_i hl hok
        cases hc
        obtain ⟨q, rfl, hp, hk⟩ := psome_iff.1 hi
        have hone : ∀ z ∈ v.cells.toList, z.oneCell' = true := fun z hz => okCells_mem hok (.v z) (by simpa [svCells] using hz)
        obtain ⟨u', hst, F⟩ := Fr.put (P := P) hsubs (p := q) (vs := v.cells.toList) (by simpa using hp) hone
        unfold Oper.wp
        simp only [execOp, hop, Instr.storeAt, hR.v hx, hR.v hy, Instr.sureAddr, Sem.run_bind, Sem.run_pure, Result.andThen_ok, storeVar, run_sizeOf' ho, Sem.run_ite]
        rw [if_neg (by rw [Nat.eq_of_beq_eq_true hl]; simp)]
        simp only [hst, Result.andThen_ok, Oper.upon_skip]
        exact eff_done R hd hk (.inr rfl) F
      · cases hc
    · cases hc
  case h_22 t l c hop =>
    split at hc
    · rename_i e kl l' kc c' hu hl hcv
      split at hc
      · rename_i z hz
        cases hc
        obtain ⟨hm, hk⟩ := hi
        obtain ⟨m1, m2, m3⟩ := mks_ok hm
        obtain ⟨hn, F⟩ := Fr.new hsubs (.cells (zrow z.cells.toList (c'.toNat * P.cellsOf e)).toArray e)
        obtain ⟨inf, hinf, -⟩ := info_of_zero hz
        have hb := bytesOf_info hinf
        rw [hb] at m3
        unfold Oper.wp
        have hrun : (Instr.makeSlice t (.int kl l') (.int kc c')).run P u = .ok (.slice (some ⟨u.heap.size, 0, none⟩) l'.toNat c'.toNat) (u.alloc (.cells (zrow z.cells.toList (c'.toNat * P.cellsOf e)).toArray e)) := by
          have hr : ((Array.range (c'.toNat * P.cellsOf e)).map fun i => z.cells[i % z.cells.size]!) = (zrow z.cells.toList (c'.toNat * P.cellsOf e)).toArray := by
            apply Array.ext'
            simp only [zrow, Array.toList_map, Array.toList_range]
            refine List.map_congr_left fun i _ => ?_
            simp [List.getElem!_eq_getElem?_getD, Array.getElem!_eq_getD]
          have h0 := hm.l0
          have h1 := hm.lc
          have hcond : ((decide (c' < 0) || decide ((inf.bytes : Int) * c' > 2 ^ 48)) || decide (l' < 0) || decide (l' > c')) = false := by
            simp only [Bool.or_eq_false_iff, decide_eq_false_iff_not]; omega
          simp only [Instr.makeSlice, Sem.run_bind, run_underlying hu, Result.andThen_ok, asInt, asIntOf, Sem.run_pure, typeInfo, run_program, hinf, m1, m2, Sem.run_ite]
          rw [if_neg (by simpa using hcond)]
          simp only [run_askRoom, Result.andThen_ok, run_sizeOf_zero hz]
          by_cases hz0 : c'.toNat * P.cellsOf e = 0
          · have e0 : ∀ f : Nat → Value, (Array.range 0).map f = #[] := fun f => by simp
            have e1 : ((zrow z.cells.toList 0).toArray : Array Value) = #[] := rfl
            simp only [hz0, if_true, Sem.run_pure, Result.andThen_ok, e0, e1, newRow, Sem.run_bind, run_newObj, World.alloc_eq]
          · rw [if_neg hz0]
            simp only [Sem.run_bind, run_zeroValue' hz, Result.andThen_ok, Sem.run_pure, hr, newRow, run_newObj, World.alloc_eq]
        simp only [execOp, hop, Sem.run_bind, hR.v hl, hR.v hcv, hrun, Result.andThen_ok, Sem.run_pure, Oper.upon_value]
        exact eff_done R hd (hk _ hn) (.inl rfl) F
      · cases hc
    · cases hc
  case h_13 src dst x hop =>
    split at hc
    · rename_i e y n c hs hd' hx
      split at hc
      · rename_i he
        cases hc
        obtain ⟨bs, H, hk⟩ := hi
        unfold Oper.wp
        simp only [execOp, hop, Sem.run_bind, hR.v hx, convert, run_underlying hs, run_underlying hd', run_underlying he, Result.andThen_ok]
        have hb := run_bytesToString' (P := P) H u hsubs
        cases y <;> (rw [hb]; simp only [Result.andThen_ok, Sem.run_pure, Oper.upon_value]; exact eff_done R hd hk (.inl rfl) (Fr.refl hsubs))
      · cases hc
    · cases hc
    · cases hc
    · cases hc
  case h_23 t r hop =>
    split at hc
    · cases hc
      obtain ⟨hn, F⟩ := Fr.new hsubs (.map #[] 0)
      unfold Oper.wp
      simp only [execOp, hop, Instr.makeMap, Option.map_none, Sem.run_bind, Sem.run_pure, Result.andThen_ok, run_newObj, World.alloc_eq, Oper.upon_value]
      exact eff_done R hd (hi _ hn) (.inl rfl) F
    · cases hc
  case h_24 t x ix ok hop =>
    split at hc
    · rename_i kt et r kd n hu hx hix
      split at hc
      · rename_i k0 z hk hz
        cases hc
        obtain ⟨es, clock, hm, hi⟩ := hi
        obtain ⟨vs, -, hv, hk'⟩ := exSh_iff.1 hi
        unfold Oper.wp
        simp only [execOp, hop, Sem.run_bind, hR.v hx, hR.v hix, run_lookup' u hsubs hu hk hz hm ok, Result.andThen_ok, Sem.run_pure, Oper.upon_value]
        rw [← hv]
        exact eff_done R hd hk' (.inl rfl) (Fr.refl hsubs)
      · cases hc
    · cases hc
  case h_25 t m ix x hop =>
    split at hc
    · rename_i kt et r kd n v hu hm' hix hx
      split at hc
      · rename_i k0 hk
        cases hc
        obtain ⟨b, es, clock, rfl, hm, hk'⟩ := hi
        obtain ⟨u', hrun, F⟩ := run_mapUpdate' (P := P) (v := v) (n := n) u hsubs hu hk hm
        unfold Oper.wp
        simp only [execOp, hop, Sem.run_bind, hR.v hm', hR.v hix, hR.v hx, hrun, Result.andThen_ok, Sem.run_pure, Oper.upon_skip]
        exact eff_done R hd hk' (.inr rfl) F
      · cases hc
    · cases hc
  case h_26 t x hop =>
    split at hc
    · rename_i kt et r hu hx
      cases hc
      obtain ⟨m, es, clock, rfl, hm, hk⟩ := hi
      obtain ⟨hn, F⟩ := Fr.new hsubs (.mapIter (some m) clock #[] clock)
      unfold Oper.wp
      simp only [execOp, hop, Sem.run_bind, hR.v hx, run_range' u hu (hsubs _ _ hm), Result.andThen_ok, Sem.run_pure, Oper.upon_value]
      exact eff_done R hd (hk _ hn) (.inl rfl) F
    · cases hc
  case h_27 it isS hop =>
    split at hc
    · rename_i b hit
      cases hc
      obtain ⟨m, since, seen, last, es, clock, hI, hold, hsl, hk1, hk2⟩ := hi
      unfold Oper.wp
      rcases run_next' (P := P) (ty := o.type) u hsubs hI hold hsl with ⟨h1, hrun⟩ | ⟨e, u', h1, h2, hrun, F⟩
      · simp only [execOp, hop, Sem.run_bind, hR.v hit, hrun, Result.andThen_ok, Sem.run_pure, Oper.upon_value]
        exact eff_done R hd (hk1 h1) (.inl rfl) (Fr.refl hsubs)
      · simp only [execOp, hop, Sem.run_bind, hR.v hit, hrun, Result.andThen_ok, Sem.run_pure, Oper.upon_value]
        exact eff_done R hd (hk2 e h1 h2) (.inl rfl) F
    · cases hc
  case h_28 it hop =>
    split at hc
    · rename_i b hit
      cases hc
      obtain ⟨m, since, seen, last, es, clock, stamp, e, hI, h1, h2, h3, n, hkey, hk⟩ := hi
      unfold Oper.wp
      simp only [execOp, hop, Sem.run_bind, hR.v hit, run_entry' u hsubs hI h1 h2 h3, hkey, Result.andThen_ok, Sem.run_pure, Oper.upon_value]
      exact eff_done R hd hk (.inl rfl) (Fr.refl hsubs)
    · cases hc
  case h_29 c hop =>
    split at hc
    · rename_i b hb
      unfold callB at hc
      split at hc
      case h_6 x y hxy =>
        obtain ⟨p, q, hpq, hp, hq⟩ := map2 hxy
        split at hc
        · rename_i t ht
          split at hc
          · rename_i e' hint
            unfold appF at hc
            split at hc
            · cases hc
            · rename_i e x1 n1 c1 x2 n2 c2 hu
              cases hc
              obtain ⟨new, H, A⟩ := hi
              have hargs : c.args = #[p, q] := by rw [← Array.toList_inj, hpq]
              have hcell : ∃ i, P.info? e = some i := by
                rcases Nat.lt_or_ge c1 (n1 + n2) with hlt | hge
                · exact okT_info (A.grow hlt).2.1
                · exact A.inf
              obtain ⟨s', h', u', hrun, hk, F⟩ := append_sound (P := P) (u := u) (x := .slice x2 n2 c2) (ty := o.type) A hsubs ht hu ⟨e', hint⟩ hcell (fun w => by simp [Builtin.lenOf])
                (fun w hw => firstCells_has H u hsubs w hw)
              have hrun' : (execOp a.eval o).run P u = .ok (.value (.slice s'.p s'.n s'.c)) u' := by
                simp only [execOp, hop, resolve, hb, Sem.run_bind, Sem.run_pure, Result.andThen_ok, invoke, builtin, hargs, List.map_toArray, List.map_cons, List.map_nil, hR.v hp, hR.v hq]
                rw [hrun]; rfl
              unfold Oper.wp
              rw [hrun', Oper.upon_value]
              exact eff_done R hd hk (.inl rfl) F
            · cases hc
          · cases hc
        · cases hc
      all_goals (repeat' (first | (cases hc; done) | split at hc))
    · rename_i f hcal
      split at hc
      · rename_i args hargs
        unfold callF at hc
        have hargs' := hR.array hargs
        have hf : a.eval (.func f) = .func (.func f) #[] #[] := rfl
        split at hc
        · rename_i fn hfn
          have hnm := hN f fn hfn
          split at hc
          · rename_i hbody
            cases hc
            obtain ⟨code, hcode⟩ := Option.isSome_iff_exists.1 hbody
            unfold Oper.wp
            have hrun : (execOp a.eval o).run P u = .ok (.enter f args.toArray) u := by
              simp only [execOp, hop, resolve, hcal, Sem.run_bind, hf, Deferred.ofValue, Sem.run_pure, Result.andThen_ok, invoke, callFunc, run_program, hfn, hargs', hnm, Bool.false_eq_true, if_false, hcode, Option.isNone_some, Array.empty_append, Array.append_empty]
            rw [hrun, Oper.upon_enter]
            refine (hi.run u hsubs).mono ?_
            rintro e u' ⟨v, h', rfl, hk, F⟩
            have hk' : K ⟨putE σ.env o.dst (.v v), σ.box⟩ h' := by
              obtain ⟨v', rfl, hk⟩ := exRes_elim hk
              exact hk
            exact eff_done R hd hk' (.inl rfl) F
          · cases hc
            obtain ⟨v, hx, hk⟩ := exRes_elim hi
            unfold Oper.wp
            have hrun : (execOp a.eval o).run P u = .ok (.value v) u := by
              simp only [execOp, hop, resolve, hcal, Sem.run_bind, hf, Deferred.ofValue, Sem.run_pure, Result.andThen_ok, invoke, hargs', hx.run, Array.empty_append, Array.append_empty]
            rw [hrun, Oper.upon_value]
            exact eff_done R hd hk (.inl rfl) (Fr.refl hsubs)
        · cases hc
      · cases hc
    · rename_i fo hno hcal
      split at hc
      · rename_i x args hf hargs
        cases hc
        obtain ⟨f, first, cap, rfl, ⟨fn, hfn, hbody⟩, hi⟩ := hi
        have hargs' := hR.array hargs
        have hnm := hN f fn hfn
        obtain ⟨code, hcode⟩ := Option.isSome_iff_exists.1 hbody
        unfold Oper.wp
        have hrun : (execOp a.eval o).run P u = .ok (.enter f (first ++ args.toArray ++ cap)) u := by
          simp only [execOp, hop, resolve, hcal, Sem.run_bind, hR.v hf, Deferred.ofValue, Sem.run_pure, Result.andThen_ok, invoke, callFunc, run_program, hfn, hargs', hnm, Bool.false_eq_true, if_false, hcode, Option.isNone_some]
        rw [hrun, Oper.upon_enter]
        refine (hi.run u hsubs).mono ?_
        rintro e u' ⟨v, h', rfl, hk, F⟩
        have hk' : K ⟨putE σ.env o.dst (.v v), σ.box⟩ h' := by
          obtain ⟨v', rfl, hk⟩ := exRes_elim hk
          exact hk
        exact eff_done R hd hk' (.inl rfl) F
      · cases hc
    · rename_i x name hcal
      split at hc
      · rename_i t y args hx hargs
        cases hc
        obtain ⟨f, rv, hm, ⟨fn, hfn, hbody⟩, hi⟩ := hi
        have hargs' := hR.array hargs
        have hnm := hN f fn hfn
        obtain ⟨code, hcode⟩ := Option.isSome_iff_exists.1 hbody
        have hex : (#[Value.iface t y] ++ args.toArray).extract 1 (#[Value.iface t y] ++ args.toArray).size = args.toArray := by
          apply Array.ext'
          simp
        have h0 : (#[Value.iface t y] ++ args.toArray)[0]? = some (Value.iface t y) := by simp
        unfold Oper.wp
        have hrun : (execOp a.eval o).run P u = .ok (.enter f (#[rv] ++ args.toArray)) u := by
          simp only [execOp, hop, resolve, hcal, Sem.run_bind, hR.v hx, Sem.run_pure, Result.andThen_ok, invoke, hargs', h0, hex, callMethod, run_program, hm.run, callFunc, hfn, hnm, Bool.false_eq_true, if_false, hcode, Option.isNone_some]
        rw [hrun, Oper.upon_enter]
        refine (hi.run u hsubs).mono ?_
        rintro e u' ⟨v, h', rfl, hk, F⟩
        have hk' : K ⟨putE σ.env o.dst (.v v), σ.box⟩ h' := by
          obtain ⟨v', rfl, hk⟩ := exRes_elim hk
          exact hk
        exact eff_done R hd hk' (.inl rfl) F
      · cases hc
  all_goals
    exfalso
    repeat' (first | (cases hc; done) | split at hc)


theorem sound_effb {d n E} {K : SS → Heap → Prop} {Q} (R : Rel N u0 h0 σ h α a u) (hd : ∀ d, o.dst = some d → d < N) (hc : classify P esc o (ev σ.env) = .effb d n E)
    (hi : interp (.effb d n E) o.dst K σ h) : o.wp P a u (After N u0 h0 K) Q := by
  obtain ⟨c, ts, x, y, t, e, b, n', c', m, hop, hb, rfl, hxy, hargs, ht, hu, ⟨e', hint⟩, rfl, rfl⟩ := classify_effb hc
  simp only [interp] at hi
  split at hi
  · rename_i cs hbox
    split at hi
    · rename_i vs hle hvs
      have hsubs := hsub R
      have hR := R.orel
      obtain ⟨p, q, hpq, hp, hq⟩ := map2 hxy
      rw [hargs] at hpq
      simp only [List.cons.injEq, and_true] at hpq
      obtain ⟨rfl, rfl⟩ := hpq
      have hvl : vs.length = m * P.cellsOf e := by
        have := congrArg List.length (allV_map hvs)
        have := Nat.le_of_ble_eq_true hle
        simp only [List.length_take, List.length_map] at *
        omega
      have hd' : (ev σ.env y) = .lsl d m := hq
      obtain ⟨cc, ce, h1, h2⟩ := box_part (off := 0) (n := m * P.cellsOf e) R hbox
      simp only [List.drop_zero] at h2
      have hv := allV_rel (α := α) hvs h2
      obtain ⟨s', h', u', hrun, hk, F⟩ := append_sound (P := P) (u := u) (x := .slice (some ⟨α d, 0, none⟩) m m) (ty := o.type) hi hsubs ht hu ⟨e', hint⟩ hi.inf (fun w => by simp [Builtin.lenOf])
        (fun w hw => by
          simp only [Builtin.firstCells, ← hvl]
          exact run_loadCells_list w _ vs fun j v hj => by rw [add_at _ rfl]; exact cell_at (by rw [hw]; exact h1) (hv j v hj))
      have hrun' : (execOp a.eval o).run P u = .ok (.value (.slice s'.p s'.n s'.c)) u' := by
        simp only [execOp, hop, resolve, hb, Sem.run_bind, Sem.run_pure, Result.andThen_ok, invoke, builtin, hargs, List.map_toArray, List.map_cons, List.map_nil, hR.v hp, hR.lsl hq]
        rw [hrun]; rfl
      unfold Oper.wp
      rw [hrun', Oper.upon_value]
      exact eff_done R hd hk (.inl rfl) F
    · exact hi.elim
  · exact hi.elim

/-- AN OPERATION OF WHATEVER FORM -/
theorem sound_op {K : SS → Heap → Prop} {Q} (hN : NamesOK P) (R : Rel N u0 h0 σ h α a u) (hd : ∀ d, o.dst = some d → d < N)
    (hi : interp (classify P esc o (ev σ.env)) o.dst K σ h) : o.wp P a u (After N u0 h0 K) Q := by
  generalize hF : classify P esc o (ev σ.env) = F at hi
  cases F with
  | pure S =>
    obtain ⟨r, hk, -, hn, hr⟩ := classify_pure hF _ hi
    obtain ⟨y, hrun, hy⟩ := hr α a.eval R.orel u
    unfold Oper.wp
    rw [hrun, Oper.upon_value]
    refine ⟨_, h, α, hk, R.put hd hy fun d hd' => ?_⟩
    obtain ⟨x, hx⟩ := hn d hd'
    cases x with
    | tmp t => exact R.refs t d hx
    | _ => exact hx.elim
  | hload p sh agg =>
    obtain ⟨t, x, hop, hl, ho, h1 | ⟨p', hx, h1⟩⟩ := classify_load hF (.inl ⟨_, _, _, rfl⟩)
    · obtain ⟨_, _, _, h1⟩ := h1; cases h1
    · cases h1; exact sound_load R hd hop ho hl hx hi
  | lload d off n agg =>
    obtain ⟨t, x, hop, hl, ho, ⟨d', off', hx, h1⟩ | h1⟩ := classify_load hF (.inr ⟨_, _, _, _, rfl⟩)
    · cases h1; exact sound_lload R hd hop ho hl hx hi
    · obtain ⟨_, _, h1⟩ := h1; cases h1
  | alloc cs sl => exact sound_alloc R hd hF hi
  | lstore d off cs =>
    obtain ⟨t, x, y, hop, hx, rfl, hl, ho, -⟩ := classify_lstore hF
    exact sound_lstore R hd hop ho hx hl hi
  | eff E => exact sound_eff hN R hd hF hi
  | effb d n E => exact sound_effb R hd hF hi
  | bad => exact hi.elim

end
end Go.Proofs.YtbeapoopomlgaaaGreat.Sx
