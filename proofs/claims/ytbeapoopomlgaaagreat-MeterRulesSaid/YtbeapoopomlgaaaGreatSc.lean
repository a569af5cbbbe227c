/- The pure forms of operations are sound. -/
import Derived.Test.YtbeapoopomlgaaaGreatSb
namespace Go.Proofs.YtbeapoopomlgaaaGreat.Sx
open Go
section
variable {P : Program}

theorem PureOK.cong {o : Oper} {ρ : Operand → SV} {S : (SV → Prop) → Prop} {x : Operand} (hS : S = fun k => k (ρ x))
    (hr : ∀ e : Operand → Value, ∀ u, (execOp e o).run P u = .ok (.value (e x)) u) : PureOK P o ρ S := by
  subst hS
  exact fun k hk => ⟨ρ x, hk, fun k' h' => h', fun d hd => ⟨x, hd⟩, fun α e he u => ⟨e x, hr e u, he x⟩⟩

theorem PureOK.val0 {o : Oper} {ρ : Operand → SV} {x : Value} 
    (hr : ∀ α e, ORel α ρ e → ∀ u, (execOp e o).run P u = .ok (.value x) u) : PureOK P o ρ (fun k => k (.v x)) := fun _ hk =>
  ⟨.v x, hk, fun _ h' => h', fun _ h => h.elim, fun α e he u => ⟨x, hr α e he u, rfl⟩⟩

theorem run_sizeOf_cells {t : TypeId} {n : Nat} (h : P.cellsOf t = n + 1) (w : World) : (sizeOf t).run P w = .ok (n + 1) w := by
  unfold Program.cellsOf at h
  cases hi : P.info? t with
  | none => simp [hi] at h
  | some i => simp [hi] at h; simp [sizeOf, typeInfo, hi, h, Sem.run_bind]

theorem map1 {ρ : Operand → SV} {args : List Operand} {a} (h : args.map ρ = [a]) : ∃ x, args = [x] ∧ ρ x = a := by
  match args with
  | [] => simp at h
  | [x] => exact ⟨x, rfl, by simpa using h⟩
  | _ :: _ :: _ => simp at h
theorem map2 {ρ : Operand → SV} {args : List Operand} {a b} (h : args.map ρ = [a, b]) : ∃ x y, args = [x, y] ∧ ρ x = a ∧ ρ y = b := by
  match args with
  | [] => simp at h
  | [_] => simp at h
  | [x, y] => exact ⟨x, y, rfl, by simpa using h⟩
  | _ :: _ :: _ :: _ => simp at h

theorem callB_pure {b ts args l S} {o : Oper} {c : Call} {ρ : Operand → SV} (hop : o.op = .call c) (hb : c.callee = .builtin b) (ht : c.argTypes = ts) (ha : c.args.toList = args)
    (hl : args.map ρ = l) (h : callB P b ts l = .pure S) : PureOK P o ρ S := by
  unfold callB at h
  split at h
  · rename_i a n c'
    split at h
    · rename_i e hu
      obtain rfl := Form.pure.inj h
      refine PureOK.val0 fun α e' he u => ?_
      obtain ⟨x, rfl, hx⟩ := map1 hl
      have hx' := he.v hx
      have : c.args = #[x] := by rw [← Array.toList_inj, ha]
      cases ht0 : ts[0]? with
      | none => simp [ht0] at hu
      | some t =>
        simp only [ht0, Option.bind_some] at hu
        simp [execOp, hop, resolve, hb, invoke, builtin, Builtin.len_, this, hx', ht, ht0, run_underlying hu, goInt]
    · cases h
  · rename_i s
    split at h
    · rename_i hu
      obtain rfl := Form.pure.inj h
      refine PureOK.val0 fun α e' he u => ?_
      obtain ⟨x, rfl, hx⟩ := map1 hl
      have hx' := he.v hx
      have : c.args = #[x] := by rw [← Array.toList_inj, ha]
      cases ht0 : ts[0]? with
      | none => simp [ht0] at hu
      | some t =>
        simp only [ht0, Option.bind_some] at hu
        simp [execOp, hop, resolve, hb, invoke, builtin, Builtin.len_, this, hx', ht, ht0, run_underlying hu, goInt]
    · cases h
  · rename_i d n
    split at h
    · rename_i e hu
      obtain rfl := Form.pure.inj h
      refine PureOK.val0 fun α e' he u => ?_
      obtain ⟨x, rfl, hx⟩ := map1 hl
      have hx' := he.lsl hx
      have : c.args = #[x] := by rw [← Array.toList_inj, ha]
      cases ht0 : ts[0]? with
      | none => simp [ht0] at hu
      | some t =>
        simp only [ht0, Option.bind_some] at hu
        simp [execOp, hop, resolve, hb, invoke, builtin, Builtin.len_, this, hx', ht, ht0, run_underlying hu, goInt]
    · cases h
  · rename_i k x k' y
    obtain rfl := Form.pure.inj h
    refine PureOK.val0 fun α e' he u => ?_
    obtain ⟨p, q, rfl, hp, hq⟩ := map2 hl
    have : c.args = #[p, q] := by rw [← Array.toList_inj, ha]
    simp [execOp, hop, resolve, hb, invoke, builtin, Builtin.max_, Builtin.max2, this, he.v hp, he.v hq]
  · rename_i k x k' y
    obtain rfl := Form.pure.inj h
    refine PureOK.val0 fun α e' he u => ?_
    obtain ⟨p, q, rfl, hp, hq⟩ := map2 hl
    have : c.args = #[p, q] := by rw [← Array.toList_inj, ha]
    simp [execOp, hop, resolve, hb, invoke, builtin, Builtin.min_, Builtin.min2, this, he.v hp, he.v hq]
  · split at h
    · split at h
      · unfold appF at h; split at h <;> cases h
      · cases h
    · cases h
  · cases h

theorem sliceS_iff {size s lo hi} {k : Sl → Prop} : sliceS size s lo hi k ↔ (0 ≤ lo ∧ lo ≤ hi ∧ hi ≤ s.c) ∧
    k ⟨if s.c = lo.toNat then s.p else s.p.map (·.add (lo.toNat * size)), hi.toNat - lo.toNat, s.c - lo.toNat⟩ := by simp [sliceS, and_assoc]

theorem run_sliceBound (w : World) {k : IntKind} {i : Int} {y : Nat} {code} (h0 : 0 ≤ i) (h1 : i ≤ y) : (Instr.sliceBound (.int k i) y code).run P w = .ok i.toNat w := by
  simp [Instr.sliceBound, asIntOf, h0, h1]

theorem oInt_some {ρ : Operand → SV} {d : Int} {x : Option Operand} {l : Int} (h : oInt d (x.map ρ) = some l) :
    (x = none ∧ l = d) ∨ ∃ y k, x = some y ∧ ρ y = .v (.int k l) := by
  cases x with
  | none => simp [oInt] at h; exact .inl ⟨rfl, h.symm⟩
  | some y =>
    simp only [Option.map_some] at h
    unfold oInt at h
    split at h
    · simp_all
    · rename_i k n hy
      simp at hy h; subst h
      exact .inr ⟨y, k, rfl, hy⟩
    · cases h

theorem run_bounds (w : World) {ρ : Operand → SV} {α e} (he : ORel α ρ e) {n c : Nat} {lo hi : Option Operand} {l hh : Int} {b : Bool}
    (h1 : oInt 0 (lo.map ρ) = some l) (h2 : oInt n (hi.map ρ) = some hh) (hc : 0 ≤ l ∧ l ≤ hh ∧ hh ≤ c) :
    (Instr.sliceBounds b n c (lo.map e) (hi.map e) none).run P w = .ok (l.toNat, hh.toNat, c) w := by
  obtain ⟨a1, a2, a3⟩ := hc
  rcases oInt_some h1 with ⟨rfl, rfl⟩ | ⟨y, k, rfl, hy⟩ <;> rcases oInt_some h2 with ⟨rfl, rfl⟩ | ⟨z, k', rfl, hz⟩
  · simp [Instr.sliceBounds]
  · simp only [Instr.sliceBounds, Option.map_none, Option.map_some, he.v hz, Sem.run_bind, Sem.run_pure, Result.andThen_ok, run_sliceBound w (show 0 ≤ hh by omega) a3]
    simp
  · simp only [Instr.sliceBounds, Option.map_none, Option.map_some, he.v hy, Sem.run_bind, Sem.run_pure, Result.andThen_ok, run_sliceBound w a1 a2]
    simp
  · simp only [Instr.sliceBounds, Option.map_some, he.v hy, he.v hz, Sem.run_bind, Sem.run_pure, Result.andThen_ok, run_sliceBound w (show 0 ≤ hh by omega) a3,
      run_sliceBound w a1 (show l ≤ (hh.toNat : Int) by omega)]


theorem classify_pure {esc : List Nat} {o : Oper} {ρ : Operand → SV} {S} (h : classify P esc o ρ = .pure S) : PureOK P o ρ S := by
  unfold classify at h
  split at h
  · rename_i x hop
    exact PureOK.cong (Form.pure.inj h).symm fun e u => by simp [execOp, hop]
  · rename_i x hop
    exact PureOK.cong (Form.pure.inj h).symm fun e u => by simp [execOp, hop]
  · rename_i c a b hop
    split at h
    · rename_i t hc
      obtain rfl := Form.pure.inj h
      intro k hk
      cases t
      · exact ⟨ρ b, hk, fun _ h' => h', fun d hd => ⟨b, hd⟩, fun α e he u => ⟨e b, by simp [execOp, hop, he.v hc, asBool], he b⟩⟩
      · exact ⟨ρ a, hk, fun _ h' => h', fun d hd => ⟨a, hd⟩, fun α e he u => ⟨e a, by simp [execOp, hop, he.v hc, asBool], he a⟩⟩
    · cases h
  · split at h
    · unfold newF at h; split at h <;> cases h
    · cases h
  · split at h
    · unfold newF at h; split at h <;> cases h
    · cases h
  · rename_i t parts hop
    split at h
    · rename_i fs z vs hu hz hp
      split at h
      · rename_i cells hf hok
        obtain rfl := Form.pure.inj h
        refine PureOK.val0 fun α e he u => ?_
        have hm : ∀ w : World, (fs.mapM fun f => do pure (f.offset, ← sizeOf f.type) : Sem (Array (Nat × Nat))).run P w = .ok (fs.map fun f => (f.offset, P.cellsOf f.type)) w := by
          intro w
          rw [Array.mapM_eq_mapM_toList]
          have hl : ∀ (l : List Field), (∀ f ∈ l, okT P f.type = true) → (l.mapM fun f => do pure (f.offset, ← sizeOf f.type) : Sem (List (Nat × Nat))).run P w = .ok (l.map fun f => (f.offset, P.cellsOf f.type)) w := by
            intro l
            induction l with
            | nil => intro _; rfl
            | cons f l ih =>
              intro hl
              rw [List.mapM_cons]
              simp only [Sem.run_bind, run_sizeOf' (hl f (by simp)), Result.andThen_ok, Sem.run_pure, ih (fun g hg => hl g (by simp [hg])), List.map_cons]
          rw [Sem.run_map, hl fs.toList (fun f hf => by simpa using (Array.all_eq_true_iff_forall_mem.1 hok f (by simpa using hf)))]
          simp only [Result.andThen, ← Array.toList_map, Array.toArray_toList]
        have hpl : ((fs.map fun f => (f.offset, P.cellsOf f.type))[·]?) = places P fs := by
          funext i; simp [places]
        have hpt : (parts.map fun (i, x) => (i, e x)).toList = (parts.toList.map (·.1)).zip vs := by
          have := he.list (l := parts.toList.map (·.2)) (by simpa [Function.comp_def] using hp)
          rw [← this]
          simp only [Array.toList_map]
          generalize parts.toList = l
          induction l with
          | nil => rfl
          | cons p l ih => simp [ih]
        simp only [execOp, hop, Instr.build, Sem.run_bind, run_zeroValue' hz, Result.andThen_ok, run_underlying hu, hm, hpl, hpt, hf, Sem.run_pure]
      · cases h
    · rename_i n el z vs hu hz hp
      split at h
      · rename_i cells hf hok
        obtain rfl := Form.pure.inj h
        refine PureOK.val0 fun α e he u => ?_
        have hpt : (parts.map fun (i, x) => (i, e x)).toList = (parts.toList.map (·.1)).zip vs := by
          have := he.list (l := parts.toList.map (·.2)) (by simpa [Function.comp_def] using hp)
          rw [← this]
          simp only [Array.toList_map]
          generalize parts.toList = l
          induction l with
          | nil => rfl
          | cons p l ih => simp [ih]
        simp only [execOp, hop, Instr.build, Sem.run_bind, run_zeroValue' hz, Result.andThen_ok, run_underlying hu, run_sizeOf' hok, hpt, hf, Sem.run_pure]
      · cases h
    · cases h
  · split at h
    · split at h
      · split at h <;> cases h
      · cases h
    · cases h
  · split at h <;> cases h
  · split at h
    · split at h <;> cases h
    · split at h <;> cases h
    · cases h
  · rename_i x hop
    split at h
    · rename_i d off hx
      obtain rfl := Form.pure.inj h
      exact fun k hk => ⟨.loc d off, hk, fun _ h' => h', fun d' hd => ⟨x, by rw [hx]; exact hd⟩, fun α e he u => ⟨_, by simp [execOp, hop, he.loc hx], rfl⟩⟩
    · rename_i p hx
      obtain rfl := Form.pure.inj h
      exact PureOK.some p (fun _ => True) (fun a => .pointer (some a)) (fun k => by simp) fun a hp _ α e he u => by subst hp; simp [execOp, hop, he.v hx]
    · rename_i f a b hx
      obtain rfl := Form.pure.inj h
      exact PureOK.val0 fun α e he u => by simp [execOp, hop, he.v hx]
    · cases h
  · rename_i op t x y ty hop
    split at h
    · rename_i a b hx hy
      obtain rfl := Form.pure.inj h
      intro k hk
      obtain ⟨r, h1, h2, h3⟩ := binS_ok hk
      refine ⟨.v r, h1, fun k' h' => h2 (fun r => k' (.v r)) h', fun _ h => h.elim, fun α e he u => ⟨r, ?_, rfl⟩⟩
      have := h3 u x y
      simp only [execOp, hop, he.v hx, he.v hy, Sem.run_bind] at this ⊢
      rw [this]; rfl
    · cases h
  · rename_i op t x hop
    split at h
    · rename_i b hx
      obtain rfl := Form.pure.inj h
      exact PureOK.val0 fun α e he u => by simp [execOp, hop, he.v hx, Op.unary]
    · rename_i kd n hx
      obtain rfl := Form.pure.inj h
      exact PureOK.val0 fun α e he u => by simp [execOp, hop, he.v hx, Op.unary, Op.intArith]
    · rename_i kd n hx
      obtain rfl := Form.pure.inj h
      exact PureOK.val0 fun α e he u => by simp [execOp, hop, he.v hx, Op.unary, Op.intBits, xorI]
    · cases h
  · rename_i src dst x hop
    split at h
    · split at h <;> cases h
    · rename_i k0 kd k1 n hs hd hx
      obtain rfl := Form.pure.inj h
      exact PureOK.val0 fun α e he u => by simp [execOp, hop, he.v hx, convert, run_underlying hs, run_underlying hd, Conv.intToInt]
    · rename_i s hs hd hx
      obtain rfl := Form.pure.inj h
      exact PureOK.val0 fun α e he u => by simp [execOp, hop, he.v hx, convert, run_underlying hs, run_underlying hd]
    · cases h
  · rename_i t x lo hi mx hop
    split at h
    · rename_i el a n c hu hx
      split at h
      · rename_i l hh hl hhi hok
        obtain rfl := Form.pure.inj h
        refine PureOK.val (0 ≤ l ∧ l ≤ hh ∧ hh ≤ c) _ (fun k => sliceS_iff) fun hC α e he u => ?_
        simp only [execOp, hop, Option.map_none, Instr.sliceAt, Sem.run_bind, run_underlying hu, Result.andThen_ok, he.v hx, Instr.slice, run_bounds u he hl hhi hC, run_sizeOf' hok, Sem.run_pure]
      · cases h
    · rename_i s hu hx
      split at h
      · rename_i l hh hl hhi
        obtain rfl := Form.pure.inj h
        refine PureOK.val (0 ≤ l ∧ l ≤ hh ∧ hh ≤ s.size) _ (fun k => by simp only [and_assoc]; rfl) fun hC α e he u => ?_
        simp only [execOp, hop, Option.map_none, Instr.sliceAt, Sem.run_bind, run_underlying hu, Result.andThen_ok, he.v hx, Instr.slice, Sem.run_pure]
        simp [run_bounds u he hl hhi hC]
      · cases h
    · cases h
  · rename_i s x f hop
    split at h
    · rename_i fs hu
      split at h
      · rename_i fd hf
        split at h
        · rename_i sz d off hsz hx
          obtain rfl := Form.pure.inj h
          exact fun k hk => ⟨_, hk, fun _ h' => h', fun d' hd => ⟨x, by rw [hx]; exact hd⟩, fun α e he u => ⟨_, by
            simp only [execOp, hop, Instr.fieldAt, Sem.run_bind, run_underlying hu, Result.andThen_ok, hf, he.loc hx, Instr.sureAddr, fieldPlace, run_sizeOf_cells hsz, Sem.run_pure]
            rw [if_neg (by omega)]
            simp only [Sem.run_pure, Result.andThen_ok]
            rfl, by simp only [SV.rel, Addr.add]; split <;> simp_all⟩⟩
        · rename_i sz p hsz hx
          obtain rfl := Form.pure.inj h
          exact PureOK.some p (fun _ => True) (fun a => .pointer (some (a.add fd.offset))) (fun k => by simp) fun a hp _ α e he u => by
            subst hp
            simp only [execOp, hop, Instr.fieldAt, Sem.run_bind, run_underlying hu, Result.andThen_ok, hf, he.v hx, Instr.sureAddr, fieldPlace, run_sizeOf_cells hsz, Sem.run_pure]
            rw [if_neg (by omega)]
            simp only [Sem.run_pure, Result.andThen_ok]
        · cases h
      · cases h
    · cases h
  · rename_i t x f hop
    split at h
    · rename_i fs cs hu hx
      split at h
      · rename_i v hv
        obtain rfl := Form.pure.inj h
        refine PureOK.val0 fun α e he u => ?_
        cases hf : fs[f]? with
        | none => simp [hf] at hv
        | some fd =>
          simp only [hf, Option.bind_some] at hv
          simp only [execOp, hop, Instr.field, Sem.run_bind, run_underlying hu, Result.andThen_ok, hf, he.v hx, asAgg, Sem.run_pure, run_part' hv]
      · cases h
    · cases h
  · rename_i t x ix hop
    split at h
    · rename_i el a n c kd i hu hx hi
      split at h
      · rename_i ho
        obtain rfl := Form.pure.inj h
        refine PureOK.some a (fun _ => 0 ≤ i ∧ i < n) (fun p => .pointer (some (p.add (i.toNat * P.cellsOf el)))) (fun k => by simp only [and_assoc]) fun p hp hC α e he u => ?_
        subst hp
        simp only [execOp, hop, Instr.indexAt, Sem.run_bind, he.v hx, he.v hi, asIntOf, run_underlying hu, Result.andThen_ok, Sem.run_pure]
        rw [if_pos hC]
        simp [run_sizeOf' ho]
      · cases h
    · rename_i n el d off kd i hu hx hi
      split at h
      · rename_i hlt ho
        obtain rfl := Form.pure.inj h
        have hlt' : i + 1 ≤ n := Nat.le_of_ble_eq_true hlt
        exact fun k hk => ⟨_, hk, fun _ h' => h', fun d' hd => ⟨x, by rw [hx]; exact hd⟩, fun α e he u => ⟨_, by
          simp only [execOp, hop, Instr.indexAt, Sem.run_bind, he.loc hx, he.v hi, asIntOf, run_underlying hu, Result.andThen_ok, Sem.run_pure, Instr.sureAddr]
          rw [if_pos (by constructor <;> (first | exact Int.natCast_nonneg i | (show ((i : Nat) : Int) < n; omega)))]
          simp only [Sem.run_bind, run_sizeOf' ho, Result.andThen_ok, Sem.run_pure]
          rfl, by simp only [SV.rel, Addr.add]; split <;> simp_all⟩⟩
      · cases h
    · cases h
  · rename_i t x ix hop
    split at h
    · rename_i s kd i hu hx hi
      obtain rfl := Form.pure.inj h
      refine PureOK.val (0 ≤ i ∧ i < s.size) _ (fun k => by simp only [and_assoc]; rfl) fun hC α e he u => ?_
      have hs : s[i.toNat]? = some (s.get! i.toNat) := by
        have : i.toNat < s.size := by omega
        rw [getElem?_pos s i.toNat this]
        congr 1
        obtain ⟨⟨d⟩⟩ := s
        show d[i.toNat] = (d.toArray)[i.toNat]!
        have hd : i.toNat < d.length := this
        simp [hd]
      simp only [execOp, hop, Instr.index, Sem.run_bind, he.v hx, he.v hi, asIntOf, run_underlying hu, Result.andThen_ok, Sem.run_pure, hC.1, if_true, hs]
    · rename_i n el cs kd i hu hx hi
      split at h
      · rename_i v hlt hv
        obtain rfl := Form.pure.inj h
        have hlt' : i + 1 ≤ n := Nat.le_of_ble_eq_true hlt
        have ho : okT P el = true := by unfold partO at hv; split at hv <;> simp_all
        refine PureOK.val0 fun α e he u => ?_
        simp only [execOp, hop, Instr.index, Sem.run_bind, he.v hx, he.v hi, asIntOf, run_underlying hu, Result.andThen_ok, Sem.run_pure]
        rw [if_pos (by constructor <;> (first | exact Int.natCast_nonneg i | (show ((i : Nat) : Int) < n; omega)))]
        simp only [Sem.run_bind, run_sizeOf' ho, Result.andThen_ok]
        have := run_part' hv u
        simp only [Int.ofNat_eq_natCast, Int.toNat_natCast, this, Result.andThen_ok]
      · cases h
    · cases h
  · rename_i t i hop
    split at h
    · rename_i vs ht
      split at h
      · rename_i v hv
        obtain rfl := Form.pure.inj h
        exact PureOK.val0 fun α e he u => by simp [execOp, hop, Instr.extract, he.v ht, hv]
      · cases h
    · cases h
  · rename_i fn first captured hop
    split at h
    · rename_i a b ha hb
      obtain rfl := Form.pure.inj h
      exact PureOK.val0 fun α e he u => by simp [execOp, hop, Instr.makeFunc, he.array ha, he.array hb]
    · cases h
  · rename_i t x hop
    split at h
    · rename_i fs y hu hx
      obtain rfl := Form.pure.inj h
      exact PureOK.val0 fun α e he u => by simp [execOp, hop, Instr.makeInterface, he.v hx, run_underlying hu]
    · rename_i kd y hu hx
      obtain rfl := Form.pure.inj h
      exact PureOK.val0 fun α e he u => by simp [execOp, hop, Instr.makeInterface, he.v hx, run_underlying hu]
    · cases h
  · split at h
    · split at h <;> cases h
    · cases h
  · split at h <;> cases h
  · split at h
    · split at h <;> cases h
    · cases h
  · split at h
    · split at h <;> cases h
    · cases h
  · split at h <;> cases h
  · split at h <;> cases h
  · split at h <;> cases h
  · rename_i c hop
    split at h
    · rename_i b hb
      exact callB_pure hop hb rfl rfl rfl h
    · split at h
      · unfold callF at h
        split at h
        · split at h <;> cases h
        · cases h
      · cases h
    · split at h <;> cases h
    · split at h <;> cases h
  · cases h

end
end Go.Proofs.YtbeapoopomlgaaaGreat.Sx
