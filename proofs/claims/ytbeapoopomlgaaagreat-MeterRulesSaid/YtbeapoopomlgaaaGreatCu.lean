/- Contracts: Make, form by form. -/
import Derived.Test.YtbeapoopomlgaaaGreatCo
namespace Go.Proofs.YtbeapoopomlgaaaGreat.Sx
open Go Go.Proofs
open Go.IntKind (wrap)

abbrev e0 : Edg := ⟨0, 0⟩
/-- an edge to a record's node -/
def foundM (f : Int) (A : Ar) (n : Int) (r : Rec) : Ar × Edg × Int :=
  if (A.find n r).2.2 = 0 then ((A.find n r).1, ⟨if f = 5 then r.tp else 0, (A.find n r).2.1⟩, 0) else ((A.find n r).1, e0, (A.find n r).2.2)
/-- the record that a node gets -/
def recM (f : Int) (get : Int → Option Rec) (l : Int) (lo hi : Edg) : Rec := match get lo.a with
  | some r => if f = 3 ∧ r.tp = l + 1 ∧ r.hi = hi then ⟨3, l, r.bt, r.lo, hi⟩ else if f = 4 ∧ lo = hi ∧ r.tp = l + 1 then ⟨4, l, r.bt, r.lo, r.hi⟩ else ⟨f, l, l, lo, hi⟩
  | none => ⟨f, l, l, lo, hi⟩
/-- Make -/
def makeM (f : Int) (A : Ar) (n l : Int) (lo hi : Edg) : Ar × Edg × Int :=
  if l < 0 ∨ l ≥ n then (A, e0, 3) else if ¬ leadsB (getC A.cells) n f lo (l + 1) ∨ ¬ leadsB (getC A.cells) n f hi (l + 1) then (A, e0, 1) else
  if (f = 1 ∨ f = 3 ∨ f = 5) ∧ lo = hi then (A, lo, 0) else if (f = 2 ∨ f = 4) ∧ hi.a = 0 then (A, lo, 0) else if f = 5 ∧ hi.a = 0 ∧ lo.t = l + 1 then (A, ⟨l, lo.a⟩, 0) else
  foundM f A n (recM f (getC A.cells) l lo hi)

section
variable {h : Heap} {b : Nat} {A : Ar} {n : Int} {S : Nat → Prop}
abbrev MadeC (h : Heap) (b : Nat) (n : Int) (S : Nat → Prop) (r : Ar × Edg × Int) (v : Value) (h' : Heap) : Prop := v = .tuple #[r.2.1.val, .int .u8 r.2.2] ∧ StoreAt h' b r.1 n (Fp h S) ∧ Chg h h' S
theorem StoreAt.keep' (R : StoreAt h b A n S) : StoreAt h b A n (Fp h S) := R.mono fun _ hc => .inl hc

theorem found_spec {f : Int} {fid : Nat} (R : StoreAt h b A n S) {r : Rec} (hr : r.ok) (hok : ∀ id r, getC A.cells id = some r → r.ok) (hlen : A.cells.length < 999999999) (hf : f ≠ 5)
    (ok : ∀ {R : Value → Heap → Prop}, (Spec TP 61 #[.pointer (some (adr b)), r.val] h fun r11 h11 => ∃ x11a : Int, ∃ x11b : Int, r11 = .tuple #[.int .u32 x11a, .int .u8 x11b] ∧ pif (x11b != 0) (R (.tuple #[.agg #[.int .u8 0, .int .u32 0], .int .u8 x11b]) h11) (R (.tuple #[.agg #[.int .u8 0, .int .u32 x11a], .int .u8 0]) h11)) → Spec TP fid #[.pointer (some (adr b)), r.val] h R) :
    Spec TP fid #[.pointer (some (adr b)), r.val] h (MadeC h b n S (foundM f A n r)) := by
  refine ok ((sfind_spec R hr hok hlen).mono ?_)
  rintro v g ⟨rfl, St, C⟩
  refine ⟨_, _, rfl, ?_⟩
  unfold foundM
  refine pif_split (fun h0 => ?_) fun h0 => ?_
  · simp only [bne_iff_ne, ne_eq] at h0
    rw [if_neg h0]
    exact ⟨rfl, St, C⟩
  · simp only [bne_eq_false_iff_eq] at h0
    rw [if_pos h0, if_neg hf]
    exact ⟨rfl, St, C⟩
theorem found5_spec (R : StoreAt h b A n S) {r : Rec} (hr : r.ok) (hok : ∀ id r, getC A.cells id = some r → r.ok) (hlen : A.cells.length < 999999999) :
    Spec TP 222 #[.pointer (some (adr b)), r.val] h (MadeC h b n S (foundM 5 A n r)) := by
  refine f222_ok ?_
  unfold f222_sem
  refine (sfind_spec R hr hok hlen).mono ?_
  rintro v g ⟨rfl, St, C⟩
  refine ⟨_, _, rfl, ?_⟩
  unfold foundM
  refine pif_split (fun h0 => ?_) fun h0 => ?_
  · simp only [bne_iff_ne, ne_eq] at h0
    rw [if_neg h0]
    exact ⟨rfl, St, C⟩
  · simp only [bne_eq_false_iff_eq] at h0
    rw [if_pos h0, if_pos rfl]
    exact ⟨rfl, St, C⟩

theorem rec_ok {f l : Int} {lo hi : Edg} (hf : 0 ≤ f ∧ f < 256) (hl : 0 ≤ l ∧ l < 256) (h1 : lo.ok) (h2 : hi.ok) : (Rec.mk f l l lo hi).ok := ⟨hf.1, hf.2, hl.1, hl.2, hl.1, hl.2, h1, h2⟩
theorem recM_ok {f l : Int} {get : Int → Option Rec} {lo hi : Edg} (hg : ∀ id r, get id = some r → r.ok) (hf : 0 ≤ f ∧ f < 256) (hl : 0 ≤ l ∧ l < 256) (h1 : lo.ok) (h2 : hi.ok) : (recM f get l lo hi).ok := by
  unfold recM
  cases h : get lo.a with
  | none => exact rec_ok hf hl h1 h2
  | some r =>
    have k := hg _ _ h
    simp only
    split
    · exact ⟨by dsimp only; omega, by dsimp only; omega, hl.1, hl.2, k.b0, k.b1, k.lo, h2⟩
    · split
      · exact ⟨by dsimp only; omega, by dsimp only; omega, hl.1, hl.2, k.b0, k.b1, k.lo, k.hi⟩
      · exact rec_ok hf hl h1 h2

variable {l : Int} {lo hi : Edg}
theorem made_same (R : StoreAt h b A n S) {r : Ar × Edg × Int} {e : Edg} {c : Int} (hr : r = (A, e, c)) : MadeC h b n S r (.tuple #[e.val, .int .u8 c]) h := by
  subst hr
  exact ⟨rfl, R.keep', Chg.refl _ _⟩
theorem edg_val (e : Edg) : Value.agg #[.int .u8 e.t, .int .u32 e.a] = e.val := rfl

theorem make1_spec (R : StoreAt h b A n S) (hok : ∀ id r, getC A.cells id = some r → r.ok) (hlen : A.cells.length < 999999999) (hn : n ≤ 16) (hl : -1000 ≤ l ∧ l ≤ 1000) (h1 : lo.ok) (h2 : hi.ok) :
    Spec TP 158 #[.pointer (some (adr b)), .int .i64 l, lo.val, hi.val] h (MadeC h b n S (makeM 1 A n l lo hi)) := by
  refine f158_ok ?_
  unfold f158_sem makeM
  refine pif_f rfl (pif_dec (fun hc => ?_) fun hc => (svars_spec R.toR).ret ⟨_, rfl, pif_dec (fun hc2 => ?_) fun hc2 => ?_⟩)
  · rw [if_pos (.inl hc)]; exact made_same R rfl
  · rw [if_pos (.inr hc2)]; exact made_same R rfl
  rw [if_neg (by omega), w64 (x := l + 1) (by omega)]
  refine (sleads_spec R.toR h1 hok).ret ⟨_, rfl, pif_split (fun h3 => ?_) fun h3 => (sleads_spec R.toR h2 hok).ret ⟨_, rfl, pif_split (fun h4 => ?_) fun h4 => ?_⟩⟩
  · simp only [Bool.not_eq_true', decide_eq_false_iff_not] at h3
    rw [if_pos (.inl h3)]; exact made_same R rfl
  · simp only [Bool.not_eq_true', decide_eq_false_iff_not] at h4
    rw [if_pos (.inr h4)]; exact made_same R rfl
  simp only [Bool.not_eq_false', decide_eq_true_eq] at h3 h4
  rw [if_neg (by simp [h3, h4]), edg_beq]
  refine pif_dec (fun he => ?_) fun he => ?_
  · rw [if_pos ⟨.inl rfl, he⟩]; exact made_same R rfl
  rw [if_neg (by simp [he]), if_neg (by omega), if_neg (by omega), wu8 (x := l) (by omega)]
  have er : recM 1 (getC A.cells) l lo hi = ⟨1, l, l, lo, hi⟩ := by unfold recM; cases getC A.cells lo.a <;> simp
  rw [er]
  refine (found_spec (f := 1) (fid := 218) R (rec_ok (by decide) (by omega) h1 h2) hok hlen (by decide) fun H => f218_ok (by unfold f218_sem; exact H)).mono ?_
  rintro v g ⟨rfl, h5⟩
  exact ⟨_, _, _, rfl, rfl, h5⟩
theorem make2_spec (R : StoreAt h b A n S) (hok : ∀ id r, getC A.cells id = some r → r.ok) (hlen : A.cells.length < 999999999) (hn : n ≤ 16) (hl : -1000 ≤ l ∧ l ≤ 1000) (h1 : lo.ok) (h2 : hi.ok) :
    Spec TP 159 #[.pointer (some (adr b)), .int .i64 l, lo.val, hi.val] h (MadeC h b n S (makeM 2 A n l lo hi)) := by
  refine f159_ok ?_
  unfold f159_sem makeM
  refine pif_f rfl (pif_dec (fun hc => ?_) fun hc => (svars_spec R.toR).ret ⟨_, rfl, pif_dec (fun hc2 => ?_) fun hc2 => ?_⟩)
  · rw [if_pos (.inl hc)]; exact made_same R rfl
  · rw [if_pos (.inr hc2)]; exact made_same R rfl
  rw [if_neg (by omega), w64 (x := l + 1) (by omega)]
  refine (sleads_spec R.toR h1 hok).ret ⟨_, rfl, pif_split (fun h3 => ?_) fun h3 => (sleads_spec R.toR h2 hok).ret ⟨_, rfl, pif_split (fun h4 => ?_) fun h4 => ?_⟩⟩
  · simp only [Bool.not_eq_true', decide_eq_false_iff_not] at h3
    rw [if_pos (.inl h3)]; exact made_same R rfl
  · simp only [Bool.not_eq_true', decide_eq_false_iff_not] at h4
    rw [if_pos (.inr h4)]; exact made_same R rfl
  simp only [Bool.not_eq_false', decide_eq_true_eq] at h3 h4
  rw [if_neg (by simp [h3, h4])]
  refine pif_split (fun he => ?_) fun he => ?_
  · simp only [beq_iff_eq] at he
    rw [if_neg (by omega), if_pos ⟨.inl rfl, he⟩]; exact made_same R rfl
  simp only [beq_eq_false_iff_ne] at he
  rw [if_neg (by omega), if_neg (by simp [he]), if_neg (by omega), wu8 (x := l) (by omega)]
  have er : Rec.mk 2 l l lo hi = recM 2 (getC A.cells) l lo hi := by unfold recM; cases getC A.cells lo.a <;> simp
  have er2 : Value.agg #[.int .u8 2, .int .u8 l, .int .u8 l, .int .u8 lo.t, .int .u32 lo.a, .int .u8 hi.t, .int .u32 hi.a] = (recM 2 (getC A.cells) l lo hi).val := by rw [← er]
  rw [er2]
  refine (found_spec (f := 2) (fid := 219) R (recM_ok hok (by decide) (by omega) h1 h2) hok hlen (by decide) fun H => f219_ok (by unfold f219_sem; exact H)).mono ?_
  rintro v g ⟨rfl, h5⟩
  exact ⟨_, _, _, rfl, rfl, h5⟩
theorem make3_spec (R : StoreAt h b A n S) (hok : ∀ id r, getC A.cells id = some r → r.ok) (hlen : A.cells.length < 999999999) (hn : n ≤ 16) (hl : -1000 ≤ l ∧ l ≤ 1000) (h1 : lo.ok) (h2 : hi.ok) :
    Spec TP 160 #[.pointer (some (adr b)), .int .i64 l, lo.val, hi.val] h (MadeC h b n S (makeM 3 A n l lo hi)) := by
  refine f160_ok ?_
  unfold f160_sem makeM
  refine pif_f rfl (pif_dec (fun hc => ?_) fun hc => (svars_spec R.toR).ret ⟨_, rfl, pif_dec (fun hc2 => ?_) fun hc2 => ?_⟩)
  · rw [if_pos (.inl hc)]; exact made_same R rfl
  · rw [if_pos (.inr hc2)]; exact made_same R rfl
  rw [if_neg (by omega), w64 (x := l + 1) (by omega)]
  refine (sleads_spec R.toR h1 hok).ret ⟨_, rfl, pif_split (fun h3 => ?_) fun h3 => (sleads_spec R.toR h2 hok).ret ⟨_, rfl, pif_split (fun h4 => ?_) fun h4 => ?_⟩⟩
  · simp only [Bool.not_eq_true', decide_eq_false_iff_not] at h3
    rw [if_pos (.inl h3)]; exact made_same R rfl
  · simp only [Bool.not_eq_true', decide_eq_false_iff_not] at h4
    rw [if_pos (.inr h4)]; exact made_same R rfl
  simp only [Bool.not_eq_false', decide_eq_true_eq] at h3 h4
  rw [if_neg (by simp [h3, h4])]
  rw [edg_beq]
  refine pif_dec (fun he => ?_) fun he => ?_
  · rw [if_pos ⟨.inr (.inl rfl), he⟩]; exact made_same R rfl
  rw [if_neg (by simp [he]), if_neg (by omega), if_neg (by omega), wu8 (x := l) (by omega)]
  refine (sget_spec R.toR h1.a0 h1.a1).ret ?_
  have fin : ∀ (r : Rec), r = recM 3 (getC A.cells) l lo hi → Spec TP 220 #[.pointer (some (adr b)), r.val] h fun r81 h81 => ∃ x81a_0 : Int, ∃ x81a_1 : Int, ∃ x81b : Int, r81 = .tuple #[.agg #[.int .u8 x81a_0, .int .u32 x81a_1], .int .u8 x81b] ∧ MadeC h b n S (foundM 3 A n (recM 3 (getC A.cells) l lo hi)) (.tuple #[.agg #[.int .u8 x81a_0, .int .u32 x81a_1], .int .u8 x81b]) h81 := by
    rintro r rfl
    refine (found_spec (f := 3) (fid := 220) R (recM_ok hok (by decide) (by omega) h1 h2) hok hlen (by decide) fun H => f220_ok (by unfold f220_sem; exact H)).mono ?_
    rintro v g ⟨rfl, h5⟩
    exact ⟨_, _, _, rfl, rfl, h5⟩
  have hrec := fin
  unfold recM at hrec
  cases hg : getC A.cells lo.a with
  | none =>
    rw [hg] at hrec
    exact ⟨_, _, _, _, _, _, _, _, rfl, pif_f rfl (fin ⟨3, l, l, lo, hi⟩ (by unfold recM; rw [hg]))⟩
  | some r =>
    have k := hok _ _ hg
    have k0 := k.t0
    have k1 := k.t1
    refine ⟨_, _, _, _, _, _, _, _, rfl, pif_t rfl ?_⟩
    rw [show (some r).getD rec0 = r from rfl, w64 (x := r.tp) (by omega), edg_beq]
    refine pif_split (fun q1 => pif_dec (fun q2 => ?_) fun q2 => ?_) fun q1 => ?_
    · simp only [beq_iff_eq] at q1
      exact fin ⟨3, l, r.bt, r.lo, hi⟩ (by unfold recM; rw [hg]; simp only; rw [if_pos ⟨trivial, q1, q2⟩])
    · exact fin ⟨3, l, l, lo, hi⟩ (by unfold recM; rw [hg]; simp only; rw [if_neg (by simp [q2]), if_neg (by omega)])
    · simp only [beq_eq_false_iff_ne] at q1
      exact fin ⟨3, l, l, lo, hi⟩ (by unfold recM; rw [hg]; simp only; rw [if_neg (by simp [q1]), if_neg (by omega)])
theorem make4_spec (R : StoreAt h b A n S) (hok : ∀ id r, getC A.cells id = some r → r.ok) (hlen : A.cells.length < 999999999) (hn : n ≤ 16) (hl : -1000 ≤ l ∧ l ≤ 1000) (h1 : lo.ok) (h2 : hi.ok) :
    Spec TP 161 #[.pointer (some (adr b)), .int .i64 l, lo.val, hi.val] h (MadeC h b n S (makeM 4 A n l lo hi)) := by
  refine f161_ok ?_
  unfold f161_sem makeM
  refine pif_f rfl (pif_dec (fun hc => ?_) fun hc => (svars_spec R.toR).ret ⟨_, rfl, pif_dec (fun hc2 => ?_) fun hc2 => ?_⟩)
  · rw [if_pos (.inl hc)]; exact made_same R rfl
  · rw [if_pos (.inr hc2)]; exact made_same R rfl
  rw [if_neg (by omega), w64 (x := l + 1) (by omega)]
  refine (sleads_spec R.toR h1 hok).ret ⟨_, rfl, pif_split (fun h3 => ?_) fun h3 => (sleads_spec R.toR h2 hok).ret ⟨_, rfl, pif_split (fun h4 => ?_) fun h4 => ?_⟩⟩
  · simp only [Bool.not_eq_true', decide_eq_false_iff_not] at h3
    rw [if_pos (.inl h3)]; exact made_same R rfl
  · simp only [Bool.not_eq_true', decide_eq_false_iff_not] at h4
    rw [if_pos (.inr h4)]; exact made_same R rfl
  simp only [Bool.not_eq_false', decide_eq_true_eq] at h3 h4
  rw [if_neg (by simp [h3, h4])]
  refine pif_split (fun he => ?_) fun he => ?_
  · simp only [beq_iff_eq] at he
    rw [if_neg (by omega), if_pos ⟨.inr rfl, he⟩]; exact made_same R rfl
  simp only [beq_eq_false_iff_ne] at he
  rw [if_neg (by omega), if_neg (by simp [he]), if_neg (by omega), wu8 (x := l) (by omega)]
  refine (sget_spec R.toR h1.a0 h1.a1).ret ?_
  have fin : ∀ (r : Rec), r = recM 4 (getC A.cells) l lo hi → Spec TP 221 #[.pointer (some (adr b)), r.val] h fun r81 h81 => ∃ x81a_0 : Int, ∃ x81a_1 : Int, ∃ x81b : Int, r81 = .tuple #[.agg #[.int .u8 x81a_0, .int .u32 x81a_1], .int .u8 x81b] ∧ MadeC h b n S (foundM 4 A n (recM 4 (getC A.cells) l lo hi)) (.tuple #[.agg #[.int .u8 x81a_0, .int .u32 x81a_1], .int .u8 x81b]) h81 := by
    rintro r rfl
    refine (found_spec (f := 4) (fid := 221) R (recM_ok hok (by decide) (by omega) h1 h2) hok hlen (by decide) fun H => f221_ok (by unfold f221_sem; exact H)).mono ?_
    rintro v g ⟨rfl, h5⟩
    exact ⟨_, _, _, rfl, rfl, h5⟩
  cases hg : getC A.cells lo.a with
  | none => exact ⟨_, _, _, _, _, _, _, _, rfl, pif_f rfl (fin ⟨4, l, l, lo, hi⟩ (by unfold recM; rw [hg]))⟩
  | some r =>
    have k := hok _ _ hg
    have k0 := k.t0
    have k1 := k.t1
    refine ⟨_, _, _, _, _, _, _, _, rfl, pif_t rfl ?_⟩
    rw [show (some r).getD rec0 = r from rfl, w64 (x := r.tp) (by omega), edg_beq]
    refine pif_dec (fun q1 => pif_split (fun q2 => ?_) fun q2 => ?_) fun q1 => ?_
    · simp only [beq_iff_eq] at q2
      exact fin ⟨4, l, r.bt, r.lo, r.hi⟩ (by unfold recM; rw [hg]; simp only; rw [if_neg (by omega), if_pos ⟨trivial, q1, q2⟩])
    · simp only [beq_eq_false_iff_ne] at q2
      exact fin ⟨4, l, l, lo, hi⟩ (by unfold recM; rw [hg]; simp only; rw [if_neg (by omega), if_neg (by simp [q2])])
    · exact fin ⟨4, l, l, lo, hi⟩ (by unfold recM; rw [hg]; simp only; rw [if_neg (by omega), if_neg (by simp [q1])])
theorem make5_spec (R : StoreAt h b A n S) (hok : ∀ id r, getC A.cells id = some r → r.ok) (hlen : A.cells.length < 999999999) (hn : n ≤ 16) (hl : -1000 ≤ l ∧ l ≤ 1000) (h1 : lo.ok) (h2 : hi.ok) :
    Spec TP 162 #[.pointer (some (adr b)), .int .i64 l, lo.val, hi.val] h (MadeC h b n S (makeM 5 A n l lo hi)) := by
  refine f162_ok ?_
  unfold f162_sem makeM
  refine pif_f rfl (pif_dec (fun hc => ?_) fun hc => (svars_spec R.toR).ret ⟨_, rfl, pif_dec (fun hc2 => ?_) fun hc2 => ?_⟩)
  · rw [if_pos (.inl hc)]; exact made_same R rfl
  · rw [if_pos (.inr hc2)]; exact made_same R rfl
  rw [if_neg (by omega), w64 (x := l + 1) (by omega)]
  refine (sleads_spec R.toR h1 hok).ret ⟨_, rfl, pif_split (fun h3 => ?_) fun h3 => (sleads_spec R.toR h2 hok).ret ⟨_, rfl, pif_split (fun h4 => ?_) fun h4 => ?_⟩⟩
  · simp only [Bool.not_eq_true', decide_eq_false_iff_not] at h3
    rw [if_pos (.inl h3)]; exact made_same R rfl
  · simp only [Bool.not_eq_true', decide_eq_false_iff_not] at h4
    rw [if_pos (.inr h4)]; exact made_same R rfl
  simp only [Bool.not_eq_false', decide_eq_true_eq] at h3 h4
  rw [if_neg (by simp [h3, h4])]
  rw [edg_beq]
  have t0 := h1.t0
  have t1 := h1.t1
  have er : recM 5 (getC A.cells) l lo hi = ⟨5, l, l, lo, hi⟩ := by unfold recM; cases getC A.cells lo.a <;> simp
  refine pif_dec (fun he => ?_) fun he => ?_
  · rw [if_pos ⟨.inr (.inr rfl), he⟩]; exact made_same R rfl
  rw [if_neg (by simp [he]), if_neg (by omega), er, w64 (x := lo.t) (by omega), wu8 (x := l) (by omega)]
  refine pif_split (fun q1 => pif_split (fun q2 => ?_) fun q2 => ?_) fun q1 => ?_
  · simp only [beq_iff_eq] at q1 q2
    rw [if_pos ⟨rfl, q1, q2⟩]; exact made_same R rfl
  · simp only [beq_eq_false_iff_ne] at q2
    rw [if_neg (by simp [q2])]
    refine (found5_spec R (r := ⟨5, l, l, lo, hi⟩) (rec_ok (by decide) (by omega) h1 h2) hok hlen).mono ?_
    rintro v g ⟨rfl, h5⟩
    exact ⟨_, _, _, rfl, rfl, h5⟩
  · simp only [beq_eq_false_iff_ne] at q1
    rw [if_neg (by simp [q1])]
    refine (found5_spec R (r := ⟨5, l, l, lo, hi⟩) (rec_ok (by decide) (by omega) h1 h2) hok hlen).mono ?_
    rintro v g ⟨rfl, h5⟩
    exact ⟨_, _, _, rfl, rfl, h5⟩
/-- Make, of any form -/
theorem make_spec {f : Int} (R : StoreAt h b A n S) (hok : ∀ id r, getC A.cells id = some r → r.ok) (hlen : A.cells.length < 999999999) (hn : n ≤ 16) (hf : formB f) (hl : -1000 ≤ l ∧ l ≤ 1000) (h1 : lo.ok) (h2 : hi.ok) :
    Spec TP 104 #[.pointer (some (adr b)), .int .u8 f, .int .i64 l, lo.val, hi.val] h (MadeC h b n S (makeM f A n l lo hi)) := by
  refine f104_ok ?_
  unfold f104_sem
  have fin : ∀ {fid : Nat} {r : Ar × Edg × Int}, Spec TP fid #[.pointer (some (adr b)), .int .i64 l, lo.val, hi.val] h (MadeC h b n S r) → Spec TP fid #[.pointer (some (adr b)), .int .i64 l, lo.val, hi.val] h fun r22 h22 => ∃ x22a_0 : Int, ∃ x22a_1 : Int, ∃ x22b : Int, r22 = .tuple #[.agg #[.int .u8 x22a_0, .int .u32 x22a_1], .int .u8 x22b] ∧ MadeC h b n S r (.tuple #[.agg #[.int .u8 x22a_0, .int .u32 x22a_1], .int .u8 x22b]) h22 := by
    intro fid r C
    refine C.mono ?_
    rintro v g ⟨rfl, h5⟩
    exact ⟨_, _, _, rfl, rfl, h5⟩
  refine pif_f rfl (pif_split (fun q => ?_) fun q1 => pif_split (fun q => ?_) fun q2 => pif_split (fun q => ?_) fun q3 => pif_split (fun q => ?_) fun q4 => pif_split (fun q => ?_) fun q5 => ?_)
  · simp only [beq_iff_eq] at q; subst q; exact fin (make1_spec R hok hlen hn hl h1 h2)
  · simp only [beq_iff_eq] at q; subst q; exact fin (make2_spec R hok hlen hn hl h1 h2)
  · simp only [beq_iff_eq] at q; subst q; exact fin (make3_spec R hok hlen hn hl h1 h2)
  · simp only [beq_iff_eq] at q; subst q; exact fin (make4_spec R hok hlen hn hl h1 h2)
  · simp only [beq_iff_eq] at q; subst q; exact fin (make5_spec R hok hlen hn hl h1 h2)
  · exfalso
    simp only [beq_eq_false_iff_ne] at q1 q2 q3 q4 q5
    unfold formB at hf
    omega
end
end Go.Proofs.YtbeapoopomlgaaaGreat.Sx
