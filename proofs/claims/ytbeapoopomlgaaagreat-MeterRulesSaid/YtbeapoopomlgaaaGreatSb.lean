/- Each form of an operation tells what the machine does: soundness, operation by operation. -/
import Derived.Test.YtbeapoopomlgaaaGreatSa
namespace Go.Proofs.YtbeapoopomlgaaaGreat.Sx
open Go

@[simp] def SV.rel (α : Nat → Nat) : SV → Value → Prop
  | .v x, y => y = x
  | .loc d off, y => y = .pointer (some ⟨α d, off, none⟩)
  | .lsl d n, y => y = .slice (some ⟨α d, 0, none⟩) n n
  | .any, _ => True

def SV.names : SV → Nat → Prop
  | .loc d _, e => e = d
  | .lsl d _, e => e = d
  | _, _ => False

/-- the machine's operands against the symbolic ones -/
def ORel (α : Nat → Nat) (ρ : Operand → SV) (e : Operand → Value) : Prop := ∀ x, (ρ x).rel α (e x)

theorem ORel.v {α ρ e} (h : ORel α ρ e) {x y} (hx : ρ x = .v y) : e x = y := by have := h x; rw [hx] at this; exact this
theorem ORel.loc {α ρ e} (h : ORel α ρ e) {x d o} (hx : ρ x = .loc d o) : e x = .pointer (some ⟨α d, o, none⟩) := by have := h x; rw [hx] at this; exact this
theorem ORel.lsl {α ρ e} (h : ORel α ρ e) {x d n} (hx : ρ x = .lsl d n) : e x = .slice (some ⟨α d, 0, none⟩) n n := by have := h x; rw [hx] at this; exact this

theorem allV_map {l : List SV} : ∀ {vs}, allV l = some vs → l = vs.map .v := by
  induction l with
  | nil => intro vs h; simp only [allV, Option.some.injEq] at h; subst h; rfl
  | cons s l ih =>
    intro vs h
    cases s with
    | v x =>
      simp only [allV, Option.map_eq_some_iff] at h
      obtain ⟨ws, hw, rfl⟩ := h
      rw [ih hw]; rfl
    | _ => simp [allV] at h

theorem ORel.list {α ρ e} (h : ORel α ρ e) : ∀ {l : List Operand} {vs}, allV (l.map ρ) = some vs → l.map e = vs := by
  intro l
  induction l with
  | nil => intro vs hv; simp only [List.map_nil, allV, Option.some.injEq] at hv; subst hv; rfl
  | cons x l ih =>
    intro vs hv
    simp only [List.map_cons] at hv
    cases hx : ρ x with
    | v y =>
      rw [hx] at hv
      simp only [allV, Option.map_eq_some_iff] at hv
      obtain ⟨ws, hw, rfl⟩ := hv
      simp [ih hw, h.v hx]
    | _ => rw [hx] at hv; simp [allV] at hv

theorem ORel.array {α ρ e} (h : ORel α ρ e) {l : Array Operand} {vs} (hv : allV (l.toList.map ρ) = some vs) : l.map e = vs.toArray := by
  have := h.list hv
  rw [← Array.toList_map] at this
  rw [← this]

/-! ### what the program knows of a type -/
section
variable {P : Program}
theorem info_of_okT {t} (h : okT P t = true) : ∃ i, P.info? t = some i := by
  unfold okT Program.underlying at h
  cases hi : P.info? t with
  | none => simp [hi] at h
  | some i => exact ⟨i, rfl⟩
theorem run_sizeOf' {t} (h : okT P t = true) (w : World) : (sizeOf t).run P w = .ok (P.cellsOf t) w := by
  obtain ⟨i, hi⟩ := info_of_okT h
  simp [sizeOf, typeInfo, hi, Program.cellsOf, Sem.run_bind]
theorem run_isAgg' {t} (h : okT P t = true) (w : World) : (isAgg t).run P w = .ok (isAggT P t) w := by
  unfold okT at h
  cases hd : P.underlying t with
  | none => simp [hd] at h
  | some d => cases d <;> simp [isAgg, isAggT, hd, run_underlying hd]
theorem run_zeroValue' {t z} (h : zeroOf P t = some z) (w : World) : (zeroValue t).run P w = .ok z w := by
  unfold zeroOf at h
  cases hi : P.info? t with
  | none => simp [hi] at h
  | some i =>
    simp [hi] at h
    simp [zeroValue, typeInfo, hi, h, Sem.run_bind]
theorem run_part' {t cs off v} (h : partO P t cs off = some v) (w : World) : (part t cs off).run P w = .ok v w := by
  unfold partO at h
  split at h
  · rename_i ho ha
    simp only [Option.some.injEq] at h; subst h
    simp [part, Sem.run_bind, run_isAgg' ho, ha, run_sizeOf' ho]
  · rename_i ho ha
    simp [part, Sem.run_bind, run_isAgg' ho, ha, h]
  · simp at h

/-! ### pure forms -/
/-- one answer, the same in whatever world -/
def PureOK (P : Program) (o : Oper) (ρ : Operand → SV) (S : (SV → Prop) → Prop) : Prop :=
  ∀ k, S k → ∃ r, k r ∧ (∀ k' : SV → Prop, k' r → S k') ∧ (∀ d, r.names d → ∃ x, (ρ x).names d) ∧
    ∀ α e, ORel α ρ e → ∀ u, ∃ y, (execOp e o).run P u = .ok (.value y) u ∧ r.rel α y

theorem PureOK.val {o : Oper} {ρ : Operand → SV} {S : (SV → Prop) → Prop} (C : Prop) (x : Value) (hS : ∀ k, S k ↔ C ∧ k (.v x))
    (hr : C → ∀ α e, ORel α ρ e → ∀ u, (execOp e o).run P u = .ok (.value x) u) : PureOK P o ρ S := fun k hk =>
  ⟨.v x, ((hS k).1 hk).2, fun k' h' => (hS k').2 ⟨((hS k).1 hk).1, h'⟩, fun _ h => h.elim, fun α e he u => ⟨x, hr ((hS k).1 hk).1 α e he u, rfl⟩⟩

theorem psomeC {p : Option Addr} {C : Addr → Prop} {f : Addr → SV} {k : SV → Prop} : psome p (fun a => C a ∧ k (f a)) ↔ ∃ a, p = some a ∧ C a ∧ k (f a) := psome_iff

theorem PureOK.some {o : Oper} {ρ : Operand → SV} {S : (SV → Prop) → Prop} (p : Option Addr) (C : Addr → Prop) (f : Addr → Value)
    (hS : ∀ k, S k ↔ psome p (fun a => C a ∧ k (.v (f a))))
    (hr : ∀ a, p = some a → C a → ∀ α e, ORel α ρ e → ∀ u, (execOp e o).run P u = .ok (.value (f a)) u) : PureOK P o ρ S := fun k hk => by
  obtain ⟨a, rfl, hc, hk'⟩ := psome_iff.1 ((hS k).1 hk)
  exact ⟨.v (f a), hk', fun k' h' => (hS k').2 (psome_iff.2 ⟨a, rfl, hc, h'⟩), fun _ h => h.elim, fun α e he u => ⟨_, hr a rfl hc α e he u, rfl⟩⟩

theorem kEq_iff {k k' : IntKind} : kEq k k' = true ↔ k = k' := by cases k <;> cases k' <;> simp [kEq]

variable {o : Oper}

theorem intS_ok {op : BinOp} {k k' : IntKind} {a b : Int} {K : Value → Prop} (h : intS op k k' a b K) :
    ∃ r, K r ∧ (∀ K', K' r → intS op k k' a b K') ∧ ∀ t (w : World), (binOp op t (.int k a) (.int k' b)).run P w = .ok r w := by
  unfold intS at h
  split at h
  · exact ⟨_, h.2, fun K' h' => by unfold intS; exact ⟨h.1, h'⟩, fun t w => by simp [binOp, Op.shift, Int.not_lt.2 h.1, shlI]⟩
  · exact ⟨_, h.2, fun K' h' => by unfold intS; exact ⟨h.1, h'⟩, fun t w => by simp [binOp, Op.shift, Int.not_lt.2 h.1, shrI]⟩
  all_goals first
    | (exact h.elim)
    | (rename_i hk
       obtain rfl := kEq_iff.1 hk
       first
         | exact ⟨_, h, fun K' h' => by unfold intS; simp only [hk]; exact h', fun t w => by simp [binOp, Op.intArith, Op.intBits, Op.intCmp, andI, orI, xorI, andNotI]⟩
         | exact ⟨_, h.2, fun K' h' => by unfold intS; simp only [hk]; exact ⟨h.1, h'⟩, fun t w => by simp [binOp, Op.intDiv, h.1]⟩)


theorem eqB_ok : ∀ n, (∀ t x y b, eqS P n t x y = some b → ∀ d, n ≤ d → ∀ w, (Op.equalIn d t x y).run P w = .ok b w) ∧
    (∀ xs ys fs b, eqFS P n xs ys fs = some b → ∀ d, n ≤ d → ∀ w, (Op.eqFields d xs ys fs).run P w = .ok b w) := by
  intro n
  induction n with
  | zero =>
    refine ⟨fun t x y b h => by simp [eqS] at h, fun xs ys fs b h d _ w => ?_⟩
    cases fs with
    | nil => simp only [eqFS, Option.some.injEq] at h; subst h; rfl
    | cons f fs => simp [eqFS] at h
  | succ n ih =>
    obtain ⟨ih1, ih2⟩ := ih
    refine ⟨fun t x y b h d hd w => ?_, fun xs ys fs b h d hd w => ?_⟩
    · obtain ⟨d, rfl⟩ : ∃ m, d = m + 1 := ⟨d - 1, by omega⟩
      unfold eqS at h
      split at h
      · rename_i hu
        split at h
        · rename_i hk
          obtain rfl := kEq_iff.1 hk
          simp only [Option.some.injEq] at h; subst h
          exact run_equalIn_int w d t _ _ _ _ hu
        · simp at h
      · rename_i hu
        simp only [Option.some.injEq] at h; subst h
        exact run_equalIn_bool' w d t _ _ hu
      · rename_i fs xs ys hu
        split at h
        · rename_i hs
          have hf : P.fieldsOf t = fs := by simp [Program.fieldsOf, hu]
          rw [run_equalIn_struct w d t xs ys (by rw [hf]; exact hu) hs, hf]
          exact ih2 xs ys fs.toList b h d (by omega) w
        · simp at h
      · simp at h
    · cases fs with
      | nil => simp only [eqFS, Option.some.injEq] at h; subst h; rfl
      | cons f fs =>
        simp only [eqFS] at h
        split at h
        · rename_i hn ha hb
          split at h
          · rename_i r r' h1 h2
            simp only [Option.some.injEq] at h; subst h
            have hne : f.name ≠ "_" := by simpa using hn
            simp only [Op.eqFields]
            rw [if_pos hne]
            simp only [Sem.run_bind, run_part' ha, run_part' hb, Result.andThen_ok, ih1 _ _ _ _ h1 d (by omega), Sem.run_ite]
            cases r
            · simp
            · simp only [Bool.not_true, Bool.false_eq_true, if_false, Bool.true_and]
              exact ih2 _ _ _ _ h2 d (by omega) w
          · simp at h
        · simp at h

theorem run_eqNone_ptr (d : Nat) {t e : TypeId} (p : Option Addr) (hu : P.underlying t = some (.pointer e)) (w : World) :
    (Op.equalIn (d + 1) t (.pointer p) (.pointer none)).run P w = .ok p.isNone w := by
  cases p <;> simp [Op.equalIn, run_underlying hu]
theorem run_eqNone_slice (d : Nat) {t e : TypeId} (p : Option Addr) (n c n' c' : Nat) (hu : P.underlying t = some (.slice e)) (w : World) :
    (Op.equalIn (d + 1) t (.slice p n c) (.slice none n' c')).run P w = .ok p.isNone w := by
  cases p <;> simp [Op.equalIn, run_underlying hu]
theorem run_eq_bool (d : Nat) {t : TypeId} (a b : Bool) (hu : P.underlying t = some .bool) (w : World) :
    (Op.equalIn (d + 1) t (.bool a) (.bool b)).run P w = .ok (a == b) w := by
  simp [Op.equalIn, run_underlying hu]
theorem run_binEq {t x y b} (w : World) (hx : ∀ d, (Op.equalIn (d + 1) t x y).run P w = .ok b w) : (Op.equal t x y).run P w = .ok b w := hx 9999

theorem binS_ok {op : BinOp} {t : TypeId} {x y : Value} {K : Value → Prop} (h : binS P op t x y K) :
    ∃ r, K r ∧ (∀ K', K' r → binS P op t x y K') ∧ ∀ (w : World) (a b : Operand), (do eqGuard op t a b x y; binOp op t x y : Sem Value).run P w = .ok r w := by
  unfold binS at h
  split at h
  · obtain ⟨r, h1, h2, h3⟩ := intS_ok h
    exact ⟨r, h1, fun K' h' => by unfold binS; exact h2 K' h', fun w a b => by
      rename_i k1 a1 k2 b1
      have : (eqGuard op t a b (.int k1 a1) (.int k2 b1)).run P w = .ok () w := by cases op <;> simp [eqGuard]
      rw [Sem.run_bind, this, Result.andThen_ok]; exact h3 t w⟩
  · rename_i a b
    split at h
    · rename_i hu
      exact ⟨_, h, fun K' h' => by unfold binS; simp only [hu]; exact h', fun w x y => by
        have := run_binEq (P := P) w (fun d => run_eq_bool d a b hu w)
        simp [eqGuard, binOp, this, -Option.not_isNone, -Option.isNone_iff_eq_none]⟩
    · rename_i hu
      exact ⟨_, h, fun K' h' => by unfold binS; simp only [hu]; exact h', fun w x y => by
        have := run_binEq (P := P) w (fun d => run_eq_bool d a b hu w)
        simp [eqGuard, binOp, this, -Option.not_isNone, -Option.isNone_iff_eq_none]⟩
    · exact h.elim
  · split at h
    · exact ⟨_, h, fun K' h' => by unfold binS; exact h', fun w a b => by simp [eqGuard, binOp, Op.stringOp]⟩
    · exact ⟨_, h, fun K' h' => by unfold binS; exact h', fun w a b => by simp [eqGuard, binOp, Op.stringOp]⟩
    · exact ⟨_, h.2, fun K' h' => by unfold binS; exact ⟨h.1, h'⟩, fun w a b => by
        have h1 := h.1
        simp only [eqGuard, binOp, Op.stringOp, Sem.run_bind, Sem.run_ite]
        simp [IntKind.max, IntKind.signed, IntKind.bits]
        omega⟩
    · exact h.elim
  · rename_i p
    split at h
    · rename_i hu
      exact ⟨_, h, fun K' h' => by unfold binS; simp only [hu]; exact h', fun w a b => by
        have := run_binEq (P := P) w (fun d => run_eqNone_ptr d p hu w)
        simp [eqGuard, binOp, this, -Option.not_isNone, -Option.isNone_iff_eq_none]⟩
    · rename_i hu
      exact ⟨_, h, fun K' h' => by unfold binS; simp only [hu]; exact h', fun w a b => by
        have := run_binEq (P := P) w (fun d => run_eqNone_ptr d p hu w)
        simp [eqGuard, binOp, this, -Option.not_isNone, -Option.isNone_iff_eq_none]⟩
    · exact h.elim
  · rename_i p n c n' c'
    split at h
    · rename_i hu
      exact ⟨_, h, fun K' h' => by unfold binS; simp only [hu]; exact h', fun w a b => by
        have := run_binEq (P := P) w (fun d => run_eqNone_slice d p n c n' c' hu w)
        simp [eqGuard, binOp, this, -Option.not_isNone, -Option.isNone_iff_eq_none]⟩
    · rename_i hu
      exact ⟨_, h, fun K' h' => by unfold binS; simp only [hu]; exact h', fun w a b => by
        have := run_binEq (P := P) w (fun d => run_eqNone_slice d p n c n' c' hu w)
        simp [eqGuard, binOp, this, -Option.not_isNone, -Option.isNone_iff_eq_none]⟩
    · exact h.elim
  · split at h
    · rename_i b hg he
      exact ⟨_, h, fun K' h' => by unfold binS; simp only [hg, he]; exact h', fun w x y => by
        rw [Sem.run_bind, run_eqGuard_agg w _ _ _ _ _ _ hg, Result.andThen_ok, run_eql_struct, (eqB_ok 60).1 _ _ _ _ he 10000 (by omega)]; rfl⟩
    · rename_i b hg he
      exact ⟨_, h, fun K' h' => by unfold binS; simp only [hg, he]; exact h', fun w x y => by
        rw [Sem.run_bind, run_eqGuard_agg w _ _ _ _ _ _ hg, Result.andThen_ok, run_neq_struct, (eqB_ok 60).1 _ _ _ _ he 10000 (by omega)]; rfl⟩
    · exact h.elim
  · exact h.elim

end

end Go.Proofs.YtbeapoopomlgaaaGreat.Sx
