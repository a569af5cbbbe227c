/- Contracts: the index of records. -/
import Derived.Test.YtbeapoopomlgaaaGreatCc
import Derived.Test.YtbeapoopomlgaaaGreatGi
namespace Go.Proofs.YtbeapoopomlgaaaGreat.Sx
open Go Go.Proofs
open Go.IntKind (wrap)

theorem and64_nat {x : Int} {m : Nat} (hm : m < 18446744073709551616) : ∃ k : Nat, andI .u64 x m = k ∧ k ≤ m := by
  unfold andI
  have h1 : (BitVec.ofInt 64 (m : Int)).toNat = m := by
    simp only [BitVec.toNat_ofInt]; omega
  have h2 : (BitVec.ofInt 64 x &&& BitVec.ofInt 64 (m : Int)).toNat ≤ m := by
    rw [BitVec.toNat_and, h1]; exact Nat.and_le_right
  refine ⟨_, wu64 ⟨by omega, ?_⟩, h2⟩
  show (((BitVec.ofInt 64 x &&& BitVec.ofInt 64 (m : Int)).toNat : Nat) : Int) < _
  omega
theorem andMod {n k : Nat} (h1 : n < 4611686018427387904) (hk : k ≤ 40) : andI .i64 (n : Int) ((2 ^ k - 1 : Nat) : Int) = ((n % 2 ^ k : Nat) : Int) := by
  have hp : 2 ^ k ≤ 2 ^ 40 := Nat.pow_le_pow_right (by decide) hk
  have hp0 : 0 < 2 ^ k := Nat.pow_pos (by decide)
  have e1 : (BitVec.ofInt 64 (n : Int)).toNat = n := by simp only [BitVec.toNat_ofInt]; omega
  have e2 : (BitVec.ofInt 64 ((2 ^ k - 1 : Nat) : Int)).toNat = 2 ^ k - 1 := by simp only [BitVec.toNat_ofInt]; omega
  unfold andI
  show wrap .i64 (((BitVec.ofInt 64 (n : Int) &&& BitVec.ofInt 64 ((2 ^ k - 1 : Nat) : Int)).toNat : Nat) : Int) = _
  rw [BitVec.toNat_and, e1, e2, Nat.and_two_pow_sub_one_eq_mod]
  have := Nat.mod_lt n hp0
  exact w64 (by omega)

def mixI (h part : Int) : Int := xorI .u64 (wrap .u64 (xorI .u64 h part * 11400714819323198485)) (shrI .u64 (wrap .u64 (xorI .u64 h part * 11400714819323198485)) 29)
def hashI (r : Rec) : Int := mixI (mixI (mixI 1 (orI .u64 (orI .u64 (shlI .u64 (wrap .u64 r.fm) 48) (shlI .u64 (wrap .u64 r.tp) 40)) (shlI .u64 (wrap .u64 r.bt) 32))) (orI .u64 (shlI .u64 (wrap .u64 r.lo.t) 32) (wrap .u64 r.lo.a)))
  (orI .u64 (shlI .u64 (wrap .u64 r.hi.t) 32) (wrap .u64 r.hi.a))
def homeI (r : Rec) (len : Nat) : Nat := (andI .u64 (xorI .u64 (wrap .u64 (hashI r * 11400714819323198485)) (shrI .u64 (wrap .u64 (hashI r * 11400714819323198485)) 32)) ((len - 1 : Nat) : Int)).toNat
theorem homeI_lt (r : Rec) {len : Nat} (h : 0 < len) (h1 : len < 18446744073709551616) : homeI r len < len := by
  unfold homeI
  obtain ⟨k, h2, h3⟩ := and64_nat (x := xorI .u64 (wrap .u64 (hashI r * 11400714819323198485)) (shrI .u64 (wrap .u64 (hashI r * 11400714819323198485)) 32)) (m := len - 1) (by omega)
  rw [h2]; omega

theorem mix_spec {h : Heap} {a b : Int} : Spec TP 312 #[.int .u64 a, .int .u64 b] h fun v h' => v = .int .u64 (mixI a b) ∧ h' = h := by
  refine f312_ok ?_
  unfold f312_sem
  exact ⟨by decide, rfl, rfl⟩
theorem hash_spec {h : Heap} {r : Rec} : Spec TP 311 #[r.val] h fun v h' => v = .int .u64 (hashI r) ∧ h' = h := by
  refine f311_ok ?_
  unfold f311_sem
  exact ⟨by decide, by decide, by decide, mix_spec.ret ⟨_, rfl, by decide, mix_spec.ret ⟨_, rfl, by decide, mix_spec.ret ⟨_, rfl, rfl, rfl⟩⟩⟩⟩
theorem hashM (a b c d e f g : Int) : MethRun TP 196 (.agg #[.int .u8 a, .int .u8 b, .int .u8 c, .int .u8 d, .int .u32 e, .int .u8 f, .int .u32 g]) "Hash" 311 (.agg #[.int .u8 a, .int .u8 b, .int .u8 c, .int .u8 d, .int .u32 e, .int .u8 f, .int .u32 g]) :=
  ⟨fun w => by kernel_rfl⟩
theorem hashB : ∃ fn, TP.funcs[311]? = some fn ∧ fn.body.isSome = true := ⟨Tryz.f311, Tryz.func311, by kernel_rfl⟩

abbrev Slots : Type := List (Option (Rec × Int))
@[reducible] def encS (o : Option (Rec × Int)) : List Value := (o.getD (rec0, 0)).1.vals ++ [.int .u32 (o.getD (rec0, 0)).2, .bool o.isSome]
theorem elS : ElemOK 259 9 := elemOK (by kernel_rfl)
theorem encS_one (x : Option (Rec × Int)) : ∀ v ∈ encS x, v.oneCell' = true := by
  intro v hv; simp only [encS, Rec.vals, List.cons_append, List.nil_append, List.mem_cons, List.not_mem_nil, or_false] at hv
  rcases hv with rfl | rfl | rfl | rfl | rfl | rfl | rfl | rfl | rfl <;> rfl

/-- an index, to be read -/
structure IxR (h : Heap) (a : Addr) (slots : Slots) (n : Int) : Prop where
  ex : ∃ ts : Sl, Has h a [.slice ts.p ts.n ts.c, .int .i64 n] ∧ SlR h ts 9 encS slots
  pow : ∃ k, slots.length = 2 ^ k ∧ 3 ≤ k ∧ k ≤ 40
theorem IxR.ext {h h' : Heap} {a : Addr} {slots : Slots} {n : Int} (R : IxR h a slots n) (E : Ext h h') : IxR h' a slots n := by
  obtain ⟨ts, h1, h2⟩ := R.ex; exact ⟨⟨ts, h1.ext E, h2.ext E⟩, R.pow⟩
theorem IxR.len {h : Heap} {a : Addr} {slots : Slots} {n : Int} (R : IxR h a slots n) : 8 ≤ slots.length ∧ slots.length ≤ 1099511627776 := by
  obtain ⟨k, h1, h2, h3⟩ := R.pow
  have e1 : 2 ^ 3 ≤ 2 ^ k := Nat.pow_le_pow_right (by decide) h2
  have e2 : 2 ^ k ≤ 2 ^ 40 := Nat.pow_le_pow_right (by decide) h3
  omega

theorem home_spec {h : Heap} {a : Addr} {slots : Slots} {n : Int} {r : Rec} (R : IxR h a slots n) : Spec TP 228 #[.pointer (some a), r.val] h fun v h' => v = .int .i64 (homeI r slots.length) ∧ h' = h := by
  have hlen := R.len
  obtain ⟨ts, H, S⟩ := R.ex
  have hs := S.len
  refine f228_ok ?_
  unfold f228_sem
  refine ⟨311, r.val, hashM _ _ _ _ _ _ _, hashB, ?_⟩
  show Spec TP 311 #[r.val] h _
  refine hash_spec.ret ⟨_, rfl, by decide, ts, H.cell0 rfl, ?_, rfl⟩
  rw [hs, w64 (x := (slots.length : Int) - 1) (by omega), wu64 (x := (slots.length : Int) - 1) (by omega)]
  have e : (slots.length : Int) - 1 = ((slots.length - 1 : Nat) : Int) := by omega
  rw [e]
  unfold homeI
  obtain ⟨k, h2, h3⟩ := and64_nat (x := xorI .u64 (wrap .u64 (hashI r * 11400714819323198485)) (shrI .u64 (wrap .u64 (hashI r * 11400714819323198485)) 32)) (m := slots.length - 1) (by omega)
  rw [h2, w64 (by omega), Int.toNat_natCast]

theorem next_spec {h : Heap} {a : Addr} {slots : Slots} {n : Int} {i : Nat} (R : IxR h a slots n) (hi : i < slots.length) : Spec TP 229 #[.pointer (some a), .int .i64 i] h fun v h' => v = .int .i64 (((i + 1) % slots.length : Nat) : Int) ∧ h' = h := by
  have hlen := R.len
  obtain ⟨ts, H, S⟩ := R.ex
  obtain ⟨k, h1, h2, h3⟩ := R.pow
  have hs := S.len
  refine f229_ok ?_
  unfold f229_sem
  refine ⟨ts, H.cell0 rfl, ?_, rfl⟩
  rw [hs, w64 (x := (slots.length : Int) - 1) (by omega), w64 (x := (i : Int) + 1) (by omega)]
  have e : (slots.length : Int) - 1 = ((2 ^ k - 1 : Nat) : Int) := by omega
  rw [e, h1, ← andMod (n := i + 1) (by omega) h3]
  rfl

/-! ### places round the ring -/
def cyc (len a d : Nat) : Nat := if a + d < len then a + d else a + d - len
def dist (len a j : Nat) : Nat := if a ≤ j then j - a else j + len - a
theorem cyc_lt {len a d : Nat} (ha : a < len) (hd : d < len) : cyc len a d < len := by unfold cyc; split <;> omega
theorem dist_lt {len a j : Nat} (ha : a < len) (hj : j < len) : dist len a j < len := by unfold dist; split <;> omega
theorem cyc_dist {len a j : Nat} (ha : a < len) (hj : j < len) : cyc len a (dist len a j) = j := by unfold cyc dist; split <;> split <;> omega
theorem dist_cyc {len a d : Nat} (ha : a < len) (hd : d < len) : dist len a (cyc len a d) = d := by unfold cyc dist; split <;> split <;> omega
theorem cyc_zero {len a : Nat} (ha : a < len) : cyc len a 0 = a := by unfold cyc; split <;> omega
theorem dist_self {len a : Nat} : dist len a a = 0 := by unfold dist; split <;> omega
theorem mod_cyc {len i : Nat} (hi : i < len) : (i + 1) % len = cyc len i 1 := by
  unfold cyc; split
  · rename_i h; exact Nat.mod_eq_of_lt h
  · have : i + 1 = len := by omega
    rw [this]; simp
theorem dist_next {len a i : Nat} (ha : a < len) (hi : i < len) (h : dist len a i + 1 < len) : dist len a (cyc len i 1) = dist len a i + 1 := by
  unfold cyc dist at *; repeat' split
  all_goals (try split at h) <;> omega

/-- where a record is, or would go -/
structure Found (slots : Slots) (r : Rec) (i : Nat) : Prop where
  lt : i < slots.length
  path : ∀ e, e < dist slots.length (homeI r slots.length) i → ∃ p, slots[cyc slots.length (homeI r slots.length) e]? = some (some p) ∧ p.1 ≠ r
  here : slots[i]? = some none ∨ ∃ id, slots[i]? = some (some (r, id))

theorem find_spec {h : Heap} {a : Addr} {slots : Slots} {n : Int} {r : Rec} (R : IxR h a slots n) (he : ∃ j : Nat, slots[j]? = some none) : Spec TP 179 #[.pointer (some a), r.val] h fun v h' => (∃ i : Nat, v = .int .i64 i ∧ Found slots r i) ∧ h' = h := by
  have hlen := R.len
  have RR := R
  obtain ⟨ts, H, S⟩ := R.ex
  have hs := S.len
  have hh : homeI r slots.length < slots.length := homeI_lt r (by omega) (by omega)
  obtain ⟨j0, hj0⟩ := he
  have hj0l := (List.getElem?_eq_some_iff.1 hj0).1
  refine f179_ok ?_
  unfold f179_sem
  refine (home_spec RR).ret ⟨_, rfl, ?_⟩
  refine .by (fun st h' => h' = h ∧ ∃ i : Nat, st.1 = i ∧ i < slots.length ∧ ∀ e, e < dist slots.length (homeI r slots.length) i → ∃ p, slots[cyc slots.length (homeI r slots.length) e]? = some (some p) ∧ p.1 ≠ r)
    (fun st _ => slots.length - dist slots.length (homeI r slots.length) st.1.toNat) ⟨rfl, _, rfl, hh, fun e he => by rw [dist_self] at he; omega⟩ ?_
  rintro ⟨st, _⟩ h' ⟨rfl, i, h1, hi, hp⟩
  dsimp only at h1 ⊢
  subst h1
  have hg := List.getElem?_eq_getElem hi
  refine ⟨ts, H.cell0 rfl, S.read (i := (i : Int)) (by omega) (by rw [Int.toNat_natCast]; exact hg) fun q hq => ⟨slots[i].isSome, hq.cell 8 rfl, pif_split (fun hc => ?_) fun hc => ?_⟩⟩
  · refine ⟨ts, H.cell0 rfl, S.read (i := (i : Int)) (by omega) (by rw [Int.toNat_natCast]; exact hg) fun q hq => ?_⟩
    obtain ⟨p, hpe⟩ := Option.isSome_iff_exists.1 hc
    rw [hpe] at hq
    refine ⟨_, _, _, _, _, _, _, hq.part (ws := p.1.vals) 0 (getPart (rest := [.int .u32 p.2, .bool true]) rfl), ?_⟩
    rw [rec_beq, Bool.and_true]
    refine pif_split (fun hn => ?_) fun hn => ?_
    · have hne : p.1 ≠ r := by simpa using hn
      refine (next_spec RR hi).ret ⟨_, rfl, ?_⟩
      rw [mod_cyc hi]
      have hd := dist_lt hh hi
      have hd1 : dist slots.length (homeI r slots.length) i + 1 < slots.length := by
        rcases Nat.lt_or_ge (dist slots.length (homeI r slots.length) i + 1) slots.length with h | h
        · exact h
        · exfalso
          have h0 := dist_lt hh hj0l
          rcases Nat.lt_or_ge (dist slots.length (homeI r slots.length) j0) (dist slots.length (homeI r slots.length) i) with h2 | h2
          · obtain ⟨p', h3, -⟩ := hp _ h2
            rw [cyc_dist hh hj0l, hj0] at h3; cases h3
          · have h3 : dist slots.length (homeI r slots.length) j0 = dist slots.length (homeI r slots.length) i := by omega
            have h4 : j0 = i := by rw [← cyc_dist hh hj0l, h3, cyc_dist hh hi]
            subst h4
            rw [hg, hpe] at hj0; cases hj0
      refine ⟨⟨rfl, _, rfl, cyc_lt hi (by omega), fun e he => ?_⟩, ?_⟩
      · rw [dist_next hh hi hd1] at he
        rcases Nat.lt_or_ge e (dist slots.length (homeI r slots.length) i) with h2 | h2
        · exact hp e h2
        · have : e = dist slots.length (homeI r slots.length) i := by omega
          subst this
          rw [cyc_dist hh hi, hg, hpe]
          exact ⟨p, rfl, hne⟩
      · simp only [Int.toNat_natCast]
        rw [dist_next hh hi hd1]; omega
    · have heq : p.1 = r := by simpa using hn
      refine ⟨⟨i, rfl, hi, hp, .inr ⟨p.2, ?_⟩⟩, rfl⟩
      rw [hg, hpe, ← heq]
  · refine ⟨⟨i, rfl, hi, hp, .inl ?_⟩, rfl⟩
    rw [hg]
    cases hx : slots[i] with
    | none => rfl
    | some p => rw [hx] at hc; cases hc

/-! ### what slots hold -/
/-- each one stands behind others' places only -/
def SI (slots : Slots) : Prop := ∀ (j : Nat) (p : Rec × Int), slots[j]? = some (some p) → ∀ e, e < dist slots.length (homeI p.1 slots.length) j → ∃ q, slots[cyc slots.length (homeI p.1 slots.length) e]? = some (some q) ∧ q.1 ≠ p.1
def InS (slots : Slots) (r : Rec) (id : Int) : Prop := ∃ j : Nat, slots[j]? = some (some (r, id))
theorem InS.pos {slots : Slots} {r : Rec} {id : Int} (h : InS slots r id) : 0 < slots.length := by
  obtain ⟨j, hj⟩ := h
  have := (List.getElem?_eq_some_iff.1 hj).1
  omega
section
variable {slots : Slots} {r : Rec} {i : Nat}
theorem SI.pos_eq (hS : SI slots) (hb : slots.length < 18446744073709551616) {j j' : Nat} {id id' : Int} (h1 : slots[j]? = some (some (r, id))) (h2 : slots[j']? = some (some (r, id'))) : j = j' := by
  have l1 := (List.getElem?_eq_some_iff.1 h1).1
  have l2 := (List.getElem?_eq_some_iff.1 h2).1
  have hh : homeI r slots.length < slots.length := homeI_lt r (by omega) hb
  rcases Nat.lt_trichotomy (dist slots.length (homeI r slots.length) j) (dist slots.length (homeI r slots.length) j') with h | h | h
  · obtain ⟨q, h3, h4⟩ := hS j' _ h2 _ h
    rw [cyc_dist hh l1, h1] at h3; cases h3; exact absurd rfl h4
  · rw [← cyc_dist hh l1, h, cyc_dist hh l2]
  · obtain ⟨q, h3, h4⟩ := hS j _ h1 _ h
    rw [cyc_dist hh l2, h2] at h3; cases h3; exact absurd rfl h4
theorem SI.uniq (hS : SI slots) (hb : slots.length < 18446744073709551616) {id id' : Int} (h1 : InS slots r id) (h2 : InS slots r id') : id = id' := by
  obtain ⟨j, h1⟩ := h1
  obtain ⟨j', h2⟩ := h2
  have := hS.pos_eq hb h1 h2
  subst this
  rw [h1] at h2; cases h2; rfl
theorem Found.no (hS : SI slots) (hb : slots.length < 18446744073709551616) (F : Found slots r i) (hn : slots[i]? = some none) : ∀ id, ¬ InS slots r id := by
  rintro id ⟨j, hj⟩
  have l1 := (List.getElem?_eq_some_iff.1 hj).1
  have hh : homeI r slots.length < slots.length := homeI_lt r (by omega) hb
  rcases Nat.lt_trichotomy (dist slots.length (homeI r slots.length) j) (dist slots.length (homeI r slots.length) i) with h | h | h
  · obtain ⟨q, h3, h4⟩ := F.path _ h
    rw [cyc_dist hh l1, hj] at h3; cases h3; exact h4 rfl
  · have : j = i := by rw [← cyc_dist hh l1, h, cyc_dist hh F.lt]
    subst this; rw [hj] at hn; cases hn
  · obtain ⟨q, h3, h4⟩ := hS j _ hj _ h
    rw [cyc_dist hh F.lt, hn] at h3; cases h3
theorem get_set {j : Nat} {x : Option (Rec × Int)} (hi : i < slots.length) : (slots.set i x)[j]? = if j = i then some x else slots[j]? := by
  by_cases h : j = i
  · subst h; simp [hi]
  · rw [List.getElem?_set_ne (Ne.symm h)]; simp [h]
theorem InS_set {r' : Rec} {id id' : Int} (hi : i < slots.length) (hn : slots[i]? = some none) : InS (slots.set i (some (r, id))) r' id' ↔ (r' = r ∧ id' = id) ∨ InS slots r' id' := by
  constructor
  · rintro ⟨j, hj⟩
    rw [get_set hi] at hj
    split at hj
    · cases hj; exact .inl ⟨rfl, rfl⟩
    · exact .inr ⟨j, hj⟩
  · rintro (⟨rfl, rfl⟩ | ⟨j, hj⟩)
    · exact ⟨i, by rw [get_set hi, if_pos rfl]⟩
    · refine ⟨j, ?_⟩
      rw [get_set hi, if_neg (fun h => by subst h; rw [hn] at hj; cases hj)]; exact hj
theorem SI_set (hS : SI slots) (hb : slots.length < 18446744073709551616) (F : Found slots r i) (hn : slots[i]? = some none) (id : Int) : SI (slots.set i (some (r, id))) := by
  have hi := F.lt
  intro j p hj e he
  rw [List.length_set] at he ⊢
  rw [get_set hi] at hj ⊢
  split at hj
  · rename_i hji; subst hji; cases hj
    have hh : homeI r slots.length < slots.length := homeI_lt r (by omega) hb
    obtain ⟨q, h1, h2⟩ := F.path e he
    refine ⟨q, ?_, h2⟩
    rw [if_neg]; · exact h1
    intro h; rw [h, hn] at h1; cases h1
  · obtain ⟨q, h1, h2⟩ := hS j p hj e he
    refine ⟨q, ?_, h2⟩
    rw [if_neg]; · exact h1
    intro h; rw [h, hn] at h1; cases h1

def cntS (slots : Slots) : Nat := slots.countP (·.isSome)
theorem cnt_set : ∀ {slots : Slots} {i : Nat} (p : Rec × Int), slots[i]? = some none → cntS (slots.set i (some p)) = cntS slots + 1 := by
  intro slots
  induction slots with
  | nil => intro i p h; simp at h
  | cons o slots ih =>
    intro i p h
    cases i with
    | zero => simp only [List.getElem?_cons_zero, Option.some.injEq] at h; subst h; simp [cntS]
    | succ i =>
      have := ih (i := i) p (by simpa using h)
      simp only [cntS, List.set_cons_succ, List.countP_cons] at this ⊢
      omega
theorem some_none : ∀ {slots : Slots}, cntS slots < slots.length → ∃ j : Nat, slots[j]? = some none := by
  intro slots
  induction slots with
  | nil => intro h; simp [cntS] at h
  | cons o slots ih =>
    intro h
    cases o with
    | none => exact ⟨0, rfl⟩
    | some p =>
      simp only [cntS, List.countP_cons, List.length_cons, Option.isSome_some, if_true] at h ih
      obtain ⟨j, hj⟩ := ih (by omega)
      exact ⟨j + 1, by simpa using hj⟩
end

theorem iget_spec {h : Heap} {a : Addr} {slots : Slots} {n : Int} {r : Rec} (R : IxR h a slots n) (hS : SI slots) (he : cntS slots < slots.length) : Spec TP 121 #[.pointer (some a), r.val] h fun v h' =>
    ((∃ id, InS slots r id ∧ v = .tuple #[.int .u32 id, .bool true]) ∨ ((∀ id, ¬ InS slots r id) ∧ v = .tuple #[.int .u32 0, .bool false])) ∧ h' = h := by
  have hlen := R.len
  have RR := R
  obtain ⟨ts, H, S⟩ := R.ex
  have hs := S.len
  refine f121_ok ?_
  unfold f121_sem
  refine ⟨ts, H.cell0 rfl, (find_spec RR (some_none he)).mono ?_⟩
  rintro v h' ⟨⟨i, rfl, F⟩, rfl⟩
  refine ⟨_, rfl, H.cell0 rfl, ?_⟩
  rcases F.here with hn | ⟨id, hn⟩
  · refine S.read (i := (i : Int)) (by omega) (by rw [Int.toNat_natCast]; exact hn) fun q hq => ⟨_, _, _, _, _, _, _, _, _, hq, ?_⟩
    exact ⟨.inr ⟨F.no hS (by omega) hn, rfl⟩, rfl⟩
  · refine S.read (i := (i : Int)) (by omega) (by rw [Int.toNat_natCast]; exact hn) fun q hq => ⟨_, _, _, _, _, _, _, _, _, hq, ?_⟩
    exact ⟨.inl ⟨id, ⟨i, hn⟩, rfl⟩, rfl⟩

theorem encS_len (y : Option (Rec × Int)) : (encS y).length = 9 := rfl
theorem slot_val (p : Rec × Int) : encS (some p) = p.1.vals ++ [.int .u32 p.2, .bool true] := rfl

theorem grow_spec {h : Heap} {b bt : Nat} {ts : Sl} {slots : Slots} {n : Int} (B : Blk h b 257 [.slice ts.p ts.n ts.c, .int .i64 n]) (O : Own h ts 259 9 encS slots bt) (hbt : bt ≠ b) (hS : SI slots) {k : Nat} (hk : slots.length = 2 ^ k) (hk3 : 3 ≤ k) (hk4 : k ≤ 30) :
    Spec TP 183 #[.pointer (some (adr b))] h fun v h' => v = .tuple #[] ∧ ∃ ts' bt' slots', h bt' = none ∧ Blk h' b 257 [.slice ts'.p ts'.n ts'.c, .int .i64 n] ∧ Own h' ts' 259 9 encS slots' bt' ∧ Chg h h' (fun c => c = b) ∧ SI slots' ∧
      slots'.length = 2 ^ (k + 1) ∧ cntS slots' = cntS slots ∧ ∀ r id, InS slots' r id ↔ InS slots r id := by
  have hn := O.n
  have p1 : 2 ^ k ≤ 2 ^ 30 := Nat.pow_le_pow_right (by decide) hk4
  have p2 : 2 ^ 3 ≤ 2 ^ k := Nat.pow_le_pow_right (by decide) hk3
  have p3 : 2 ^ (k + 1) = 2 * 2 ^ k := by rw [Nat.pow_succ, Nat.mul_comm]
  refine f183_ok ?_
  unfold f183_sem
  refine ⟨ts, B.all.cell0 rfl, ?_⟩
  rw [w64 (by omega)]
  have e2 : Int.toNat (2 * ((ts.n : Nat) : Int)) = 2 * slots.length := by omega
  refine ⟨⟨by omega, Int.le_refl _, by omega, by decide⟩, fun b13 hb13 => ?_⟩
  rw [e2]
  have N := Own.make h b13 259 (m := 2 * slots.length) (none : Option (Rec × Int)) (z := [.int .u8 0, .int .u8 0, .int .u8 0, .int .u8 0, .int .u32 0, .int .u8 0, .int .u32 0, .int .u32 0, .bool false]) rfl encS_len (by decide)
  have E1 : Ext h (h.new b13 (.cells (zrow [.int .u8 0, .int .u8 0, .int .u8 0, .int .u8 0, .int .u32 0, .int .u8 0, .int .u32 0, .int .u32 0, .bool false] (2 * slots.length * 9)).toArray 259 (0, 0))) := Ext.new _ hb13
  generalize (h.new b13 (.cells (zrow [.int .u8 0, .int .u8 0, .int .u8 0, .int .u8 0, .int .u32 0, .int .u8 0, .int .u32 0, .int .u32 0, .bool false] (2 * slots.length * 9)).toArray 259 (0, 0))) = h1 at N E1 ⊢
  have B1 := B.ext E1
  have hb : b ≠ b13 := fun he => by subst he; rw [B.row] at hb13; cases hb13
  have B2 := B1.set (k := 0) (.slice (some (adr b13)) (2 * slots.length) (2 * slots.length)) (by simp)
  have C2 := setChg h1 b 0 [.slice (some (adr b13)) (2 * slots.length) (2 * slots.length)]
  have N2 := N.chg C2 (Ne.symm hb)
  have C02 : Chg h (h1.put ((adr b).add 0) [.slice (some (adr b13)) (2 * slots.length) (2 * slots.length)]) fun c => c = b := (Chg.ext E1).trans C2 fun c _ hc => hc
  refine ⟨B1.can (k := 0) (by simp), ?_⟩
  refine .by (fun st g => 0 ≤ st.1 ∧ st.1 ≤ slots.length ∧ ∃ ns, Blk g b 257 [.slice (some (adr b13)) (2 * slots.length) (2 * slots.length), .int .i64 n] ∧ Own g ⟨some (adr b13), 2 * slots.length, 2 * slots.length⟩ 259 9 encS ns b13 ∧
    Chg h g (fun c => c = b) ∧ SI ns ∧ ns.length = 2 ^ (k + 1) ∧ cntS ns = cntS (slots.take st.1.toNat) ∧ ∀ r id, InS ns r id ↔ ∃ j : Nat, j < st.1.toNat ∧ slots[j]? = some (some (r, id))) (fun st _ => (slots.length - st.1).toNat) ?_ ?_
  · refine ⟨by simp, by simp, List.replicate (2 * slots.length) none, B2, N2, C02, ?_, by simp [p3, hk], ?_, fun r id => ?_⟩
    · intro j p hj
      rw [List.getElem?_replicate] at hj; split at hj <;> cases hj
    · simp [cntS]
    · constructor
      · rintro ⟨j, hj⟩
        rw [List.getElem?_replicate] at hj; split at hj <;> cases hj
      · rintro ⟨j, hj, -⟩; simp at hj
  · rintro ⟨i, _⟩ g ⟨h0, h1', ns, Bg, Og, Cg, Sg, hlen, hcnt, hin⟩
    dsimp only at h0 h1' hcnt hin ⊢
    have Rg : IxR g (adr b) ns n := ⟨⟨_, Bg.all, Og.toR⟩, k + 1, hlen, by omega, by omega⟩
    have hcntle : cntS (slots.take i.toNat) ≤ slots.length := by
      unfold cntS
      have := List.countP_le_length (p := fun o : Option (Rec × Int) => o.isSome) (l := slots.take i.toNat)
      simp only [List.length_take] at this
      omega
    refine pif_dec (fun hc => ?_) fun hc => ?_
    · have hl : i.toNat < slots.length := by omega
      have hg := List.getElem?_eq_getElem hl
      have Sr := (O.chg Cg hbt).toR
      have htake : slots.take (i + 1).toNat = slots.take i.toNat ++ [slots[i.toNat]] := by
        have : (i + 1).toNat = i.toNat + 1 := by omega
        rw [this, List.take_succ_eq_append_getElem hl]
      refine Sr.read h0 hg fun q hq => ⟨_, _, _, _, _, _, _, _, _, hq, ?_⟩
      rw [w64 (x := i + 1) (by omega)]
      cases hx : slots[i.toNat] with
      | none =>
        refine pif_f rfl ⟨⟨by omega, by omega, ns, Bg, Og, Cg, Sg, hlen, ?_, fun r id => ?_⟩, by omega⟩
        · rw [hcnt, htake, hx]; simp [cntS]
        · rw [hin]
          constructor
          · rintro ⟨j, hj, h2⟩; exact ⟨j, by omega, h2⟩
          · rintro ⟨j, hj, h2⟩
            refine ⟨j, ?_, h2⟩
            rcases Nat.lt_or_ge j i.toNat with h3 | h3
            · exact h3
            · have : j = i.toNat := by omega
              subst this; rw [hg, hx] at h2; cases h2
      | some p =>
        refine pif_t rfl ⟨⟨some (adr b13), 2 * slots.length, 2 * slots.length⟩, Bg.all.cell0 rfl, (find_spec (r := p.1) Rg (some_none (by omega))).mono ?_⟩
        rintro v g' ⟨⟨x, rfl, F⟩, rfl⟩
        have hnone : ns[x]? = some none := by
          rcases F.here with h2 | ⟨id, h2⟩
          · exact h2
          · exfalso
            obtain ⟨j, hj, h3⟩ := (hin p.1 id).1 ⟨x, h2⟩
            have h4 : slots[i.toNat]? = some (some (p.1, p.2)) := by rw [hg, hx]
            have := hS.pos_eq (by omega) h3 h4
            omega
        have hxl := F.lt
        refine ⟨_, rfl, Bg.all.cell0 rfl, by omega, ?_, ?_⟩
        · show (x : Int) < ((2 * slots.length : Nat) : Int)
          omega
        have P := Og.put hxl (some p)
        have CP := put_chg g' ((adr b13).add (x * 9)) (encS (some p))
        rw [add_block] at CP
        rw [Int.toNat_natCast]
        refine ⟨Og.canPut hxl, ⟨by omega, by omega, ns.set x (some p), Bg.chg CP hb, P, Cg.trans CP fun c hc h => absurd (by rw [h]; exact hb13) hc, SI_set Sg (by omega) F hnone p.2, by rw [List.length_set, hlen], ?_, fun r id => ?_⟩, by omega⟩
        · rw [cnt_set p hnone, hcnt, htake, hx]; simp [cntS]
        · rw [show (some p : Option (Rec × Int)) = some (p.1, p.2) from rfl, InS_set hxl hnone, hin]
          constructor
          · rintro (⟨rfl, rfl⟩ | ⟨j, hj, h2⟩)
            · exact ⟨i.toNat, by omega, by rw [hg, hx]⟩
            · exact ⟨j, by omega, h2⟩
          · rintro ⟨j, hj, h2⟩
            rcases Nat.lt_or_ge j i.toNat with h3 | h3
            · exact .inr ⟨j, h3, h2⟩
            · have : j = i.toNat := by omega
              subst this; rw [hg, hx] at h2; cases h2; exact .inl ⟨rfl, rfl⟩
    · have hi : i.toNat = slots.length := by omega
      refine ⟨rfl, _, b13, ns, hb13, Bg, Og, Cg, Sg, hlen, ?_, fun r id => ?_⟩
      · rw [hcnt, hi, List.take_length]
      · rw [hin, hi]
        constructor
        · rintro ⟨j, -, h2⟩; exact ⟨j, h2⟩
        · rintro ⟨j, h2⟩; exact ⟨j, (List.getElem?_eq_some_iff.1 h2).1, h2⟩

/-- an index -/
structure IxAt (h : Heap) (b : Nat) (slots : Slots) (n : Int) (S : Nat → Prop) : Prop where
  ex : ∃ (ts : Sl) (bt : Nat), Blk h b 257 [.slice ts.p ts.n ts.c, .int .i64 n] ∧ Own h ts 259 9 encS slots bt ∧ S bt ∧ bt ≠ b
  sb : S b
  si : SI slots
  cnt : (cntS slots : Int) = n
  load : 2 * n ≤ slots.length
  pow : ∃ k, slots.length = 2 ^ k ∧ 3 ≤ k ∧ k ≤ 22
section
variable {h h' : Heap} {b : Nat} {slots : Slots} {n : Int} {S S' : Nat → Prop}
theorem IxAt.toR (R : IxAt h b slots n S) : IxR h (adr b) slots n := by
  obtain ⟨ts, bt, h1, h2, h3, h4⟩ := R.ex
  obtain ⟨k, h5, h6, h7⟩ := R.pow
  exact ⟨⟨ts, h1.all, h2.toR⟩, k, h5, h6, by omega⟩
theorem IxAt.room (R : IxAt h b slots n S) : cntS slots < slots.length := by
  have := R.toR.len
  have := R.cnt
  have := R.load
  omega
theorem IxAt.chg (R : IxAt h b slots n S) (C : Chg h h' S') (hS : ∀ c, S c → ¬ S' c) : IxAt h' b slots n S := by
  obtain ⟨ts, bt, h1, h2, h3, h4⟩ := R.ex
  exact ⟨⟨ts, bt, h1.chg C (hS _ R.sb), h2.chg C (hS _ h3), h3, h4⟩, R.sb, R.si, R.cnt, R.load, R.pow⟩
theorem IxAt.mono (R : IxAt h b slots n S) (hS : ∀ c, S c → S' c) : IxAt h b slots n S' := by
  obtain ⟨ts, bt, h1, h2, h3, h4⟩ := R.ex
  exact ⟨⟨ts, bt, h1, h2, hS _ h3, h4⟩, hS _ R.sb, R.si, R.cnt, R.load, R.pow⟩
theorem IxAt.cut (R : IxAt h b slots n S) : IxAt h b slots n fun c => S c ∧ h c ≠ none := by
  obtain ⟨ts, bt, h1, h2, h3, h4⟩ := R.ex
  exact ⟨⟨ts, bt, h1, h2, ⟨h3, h2.live⟩, h4⟩, ⟨R.sb, by rw [h1.row]; simp⟩, R.si, R.cnt, R.load, R.pow⟩
end

theorem inew_spec {h : Heap} : Spec TP 120 #[] h fun v h' => ∃ b, h b = none ∧ v = .pointer (some (adr b)) ∧ IxAt h' b (List.replicate 8 none) 0 (fun c => h c = none) ∧ Ext h h' := by
  refine f120_ok ?_
  unfold f120_sem
  refine ⟨⟨by decide, by decide, by decide, by decide⟩, fun b1 h1 b3 h3 => ?_⟩
  have N := Own.make h b1 259 (m := 8) (none : Option (Rec × Int)) (z := [.int .u8 0, .int .u8 0, .int .u8 0, .int .u8 0, .int .u32 0, .int .u8 0, .int .u32 0, .int .u32 0, .bool false]) rfl encS_len (by decide)
  have E1 : Ext h (h.new b1 (.cells (zrow [.int .u8 0, .int .u8 0, .int .u8 0, .int .u8 0, .int .u32 0, .int .u8 0, .int .u32 0, .int .u32 0, .bool false] (8 * 9)).toArray 259 (0, 0))) := Ext.new _ h1
  have h3' := E1.fresh h3
  have hne : b1 ≠ b3 := fun he => by subst he; rw [new_at] at h3; cases h3
  refine ⟨b3, h3', rfl, ⟨⟨⟨some (adr b1), 8, 8⟩, b1, Blk.new _ _ _ _, N.ext (Ext.new _ h3), h1, hne⟩, h3', ?_, rfl, by decide, 3, rfl, by decide, by decide⟩, E1.trans (Ext.new _ h3)⟩
  intro j p hj
  rw [List.getElem?_replicate] at hj; split at hj <;> cases hj

theorem iput_spec {h : Heap} {b : Nat} {slots : Slots} {n : Int} {S : Nat → Prop} {r : Rec} {id : Int} (R : IxAt h b slots n S) (hno : ∀ id, ¬ InS slots r id) (hn : n < 1048576) :
    Spec TP 125 #[.pointer (some (adr b)), r.val, .int .u32 id] h fun v h' => v = .tuple #[.int .u32 0, .bool false] ∧ (∃ slots', IxAt h' b slots' (n + 1) (Fp h S) ∧ ∀ r' id', InS slots' r' id' ↔ (r' = r ∧ id' = id) ∨ InS slots r' id') ∧ Chg h h' S := by
  have RR := R.toR
  have hlen := RR.len
  have hroom := R.room
  obtain ⟨⟨ts, bt, B, O, hSt, hbt⟩, hSb, hSI, hcnt, hload, k, hk, hk3, hk4⟩ := R
  have hs := O.n
  refine f125_ok ?_
  unfold f125_sem
  refine (find_spec RR (some_none hroom)).mono ?_
  rintro v g ⟨⟨i, rfl, F⟩, rfl⟩
  have hi := F.lt
  have hnone : slots[i]? = some none := by
    rcases F.here with h2 | ⟨id', h2⟩
    · exact h2
    · exact absurd ⟨i, h2⟩ (hno id')
  refine ⟨_, rfl, ts, B.all.cell0 rfl, O.toR.read (i := (i : Int)) (by omega) (by rw [Int.toNat_natCast]; exact hnone) fun q hq => ⟨false, hq.cell 8 rfl, ?_⟩⟩
  refine pif_f rfl ⟨ts, B.all.cell0 rfl, ?_⟩
  rw [O.p, Int.toNat_natCast]
  have P := O.put hi (some (r, id))
  have CP := put_chg g ((adr bt).add (i * 9)) (encS (some (r, id)))
  rw [add_block] at CP
  have B1 := B.chg CP (Ne.symm hbt)
  refine ⟨by omega, by omega, O.canPut hi, _, B1.all.cell 1 rfl, ?_⟩
  rw [w64 (x := n + 1) (by omega)]
  have B2 := B1.set (k := 1) (.int .i64 (n + 1)) (by simp)
  have C2 := setChg (g.put ((adr bt).add (i * 9)) (encS (some (r, id)))) b 1 [.int .i64 (n + 1)]
  have P2 := P.chg C2 hbt
  refine ⟨B1.can (k := 1) (by simp), _, B2.all.cell 1 rfl, ts, B2.all.cell0 rfl, ?_⟩
  rw [w64 (by omega)]
  have SI1 := SI_set hSI (by omega) F hnone id
  have cn1 := cnt_set (r, id) hnone
  have C02 : Chg g ((g.put ((adr bt).add (i * 9)) (encS (some (r, id)))).put ((adr b).add 1) [.int .i64 (n + 1)]) S := (CP.mono fun c _ hc => by rw [hc]; exact hSt).trans C2 fun c _ hc => by rw [hc]; exact hSb
  have hin : ∀ r' id', InS (slots.set i (some (r, id))) r' id' ↔ (r' = r ∧ id' = id) ∨ InS slots r' id' := fun r' id' => InS_set hi hnone
  refine pif_dec (fun hc => ?_) fun hc => ?_
  · refine (grow_spec (k := k) B2 P2 hbt SI1 (by rw [List.length_set, hk]) hk3 (by omega)).mono ?_
    rintro v h' ⟨rfl, ts', bt', ns, h1, h2, h3, h4, h5, h6, h7, h8⟩
    have hfr : g bt' = none := by
      have hne1 : bt' ≠ b := fun he => by rw [he, B2.row] at h1; cases h1
      have hne2 : bt' ≠ bt := fun he => by subst he; exact P2.live h1
      rw [put_ne (by rw [add_block]; exact hne1), put_ne (by rw [add_block]; exact hne2)] at h1
      exact h1
    have p3 : 2 ^ (k + 1) = 2 * 2 ^ k := by rw [Nat.pow_succ, Nat.mul_comm]
    refine ⟨rfl, rfl, ⟨ns, ⟨⟨ts', bt', h2, h3, .inr hfr, fun he => by rw [he, B.row] at hfr; cases hfr⟩, .inl hSb, h5, by omega, by omega, k + 1, h6, by omega, ?_⟩, fun r' id' => by rw [h8, hin]⟩, C02.trans h4 fun c _ hc => by rw [hc]; exact hSb⟩
    rcases Nat.lt_or_ge k 22 with h9 | h9
    · omega
    · exfalso
      have : 2 ^ 22 ≤ 2 ^ k := Nat.pow_le_pow_right (by decide) h9
      omega
  · refine ⟨rfl, ⟨_, ⟨⟨ts, bt, B2, P2, .inl hSt, hbt⟩, .inl hSb, SI1, by omega, by rw [List.length_set]; omega, k, by rw [List.length_set, hk], hk3, hk4⟩, hin⟩, C02⟩
end Go.Proofs.YtbeapoopomlgaaaGreat.Sx
