/- Contracts: small functions of numbers, edges and records. -/
import Derived.Test.YtbeapoopomlgaaaGreatUa
import Derived.Test.YtbeapoopomlgaaaGreatGa
import Derived.Test.YtbeapoopomlgaaaGreatGb
import Derived.Test.YtbeapoopomlgaaaGreatGc
import Derived.Test.YtbeapoopomlgaaaGreatGd
import Derived.Test.YtbeapoopomlgaaaGreatGe
import Derived.Test.YtbeapoopomlgaaaGreatGf
import Derived.Test.YtbeapoopomlgaaaGreatGg
namespace Go.Proofs.YtbeapoopomlgaaaGreat.Sx
open Go Go.Proofs
open Go.IntKind (wrap)

/-- Size -/
theorem size_spec {h : Heap} {n : Int} (hn : n ≤ 40) : Spec TP 49 #[.int .i64 n] h fun v h' => v = .int .i64 (2 ^ n.toNat) ∧ h' = h := by
  refine f49_ok ?_
  unfold f49_sem
  refine .by (fun s h' => h' = h ∧ 0 ≤ s.2.1 ∧ (s.2.1 ≤ n ∨ s.2.1 = 0) ∧ s.1 = 2 ^ s.2.1.toNat) (fun s _ => (n - s.2.1).toNat) ⟨rfl, by simp, by simp, by simp⟩ ?_
  rintro ⟨a, i, _⟩ h' ⟨rfl, h0, h1, h2⟩
  dsimp only at h0 h1 h2 ⊢
  subst h2
  refine pif_dec (fun hc => ?_) (fun hc => ?_)
  · have e1 := p2_le (show i.toNat ≤ 40 by omega)
    have e2 := p2_pos i.toNat
    have e3 : (i + 1).toNat = i.toNat + 1 := by omega
    rw [w64 (x := i + 1) (by omega), w64 (x := 2 * 2 ^ i.toNat) (by omega)]
    refine ⟨⟨rfl, by omega, by omega, by rw [e3, p2_succ]⟩, by omega⟩
  · refine ⟨?_, rfl⟩
    have : i.toNat = n.toNat := by omega
    rw [this]

def valI (x v : Int) : Int := x / 2 ^ v.toNat % 2
theorem valI_01 (x v : Int) : valI x v = 0 ∨ valI x v = 1 := by unfold valI; omega

/-- Value -/
theorem value_spec {h : Heap} {x v : Int} (hx : 0 ≤ x) (hx' : x < 9223372036854775808) (hv : v ≤ 40) : Spec TP 73 #[.int .i64 x, .int .i64 v] h fun r h' => r = .int .i64 (valI x v) ∧ h' = h := by
  refine f73_ok ?_
  unfold f73_sem
  refine (size_spec hv).ret ⟨_, rfl, ?_, by decide, ?_, rfl⟩
  · have := p2_pos v.toNat; omega
  · have e2 := p2_pos v.toNat
    have e3 : Int.tdiv x (2 ^ v.toNat) = x / 2 ^ v.toNat := Int.tdiv_eq_ediv_of_nonneg hx
    have e4 : 0 ≤ x / 2 ^ v.toNat := Int.ediv_nonneg hx (by omega)
    have e5 : x / 2 ^ v.toNat ≤ x := Int.ediv_le_self _ hx
    rw [e3, w64 (by omega), Int.tmod_eq_emod_of_nonneg e4]
    rfl

/-! ### edges, records -/
structure Edg where
  t : Int
  a : Int
deriving DecidableEq
structure Rec where
  fm : Int
  tp : Int
  bt : Int
  lo : Edg
  hi : Edg
deriving DecidableEq
@[reducible] def Edg.vals (e : Edg) : List Value := [.int .u8 e.t, .int .u32 e.a]
@[reducible] def Rec.vals (r : Rec) : List Value := [.int .u8 r.fm, .int .u8 r.tp, .int .u8 r.bt, .int .u8 r.lo.t, .int .u32 r.lo.a, .int .u8 r.hi.t, .int .u32 r.hi.a]
@[reducible] def Edg.val (e : Edg) : Value := .agg #[.int .u8 e.t, .int .u32 e.a]
@[reducible] def Rec.val (r : Rec) : Value := .agg #[.int .u8 r.fm, .int .u8 r.tp, .int .u8 r.bt, .int .u8 r.lo.t, .int .u32 r.lo.a, .int .u8 r.hi.t, .int .u32 r.hi.a]
structure Edg.ok (e : Edg) : Prop where
  t0 : 0 ≤ e.t
  t1 : e.t < 256
  a0 : 0 ≤ e.a
  a1 : e.a < 4294967296
structure Rec.ok (r : Rec) : Prop where
  f0 : 0 ≤ r.fm
  f1 : r.fm < 256
  t0 : 0 ≤ r.tp
  t1 : r.tp < 256
  b0 : 0 ≤ r.bt
  b1 : r.bt < 256
  lo : r.lo.ok
  hi : r.hi.ok
abbrev formB (f : Int) : Prop := 1 ≤ f ∧ f ≤ 5
abbrev varsB (n : Int) : Prop := 0 ≤ n ∧ n ≤ 16
def plainB (f : Int) (e : Edg) (l n : Int) : Prop := formB f ∧ varsB n ∧ 0 ≤ l ∧ l ≤ n ∧ (if f = 5 ∧ e.a ≠ 0 then l ≤ e.t ∧ e.t ≤ n else e.t = 0)
instance plainB_dec (f : Int) (e : Edg) (l n : Int) : Decidable (plainB f e l n) := by unfold plainB; infer_instance
def rightB (r : Rec) (n : Int) : Prop := formB r.fm ∧ varsB n ∧ r.tp ≤ r.bt ∧ r.bt < n ∧ (r.tp = r.bt ∨ r.fm = 3 ∨ r.fm = 4) ∧ plainB r.fm r.lo (r.bt + 1) n ∧ plainB r.fm r.hi (r.bt + 1) n ∧
  (if r.fm = 2 ∨ r.fm = 4 then r.hi.a ≠ 0 else r.lo ≠ r.hi)

instance rightB_dec (r : Rec) (n : Int) : Decidable (rightB r n) := by unfold rightB; infer_instance
theorem bdec {p : Prop} [Decidable p] {b : Bool} (h : b = true ↔ p) : b = decide p := by
  by_cases hp : p
  · simp [hp, h.2 hp]
  · have : b ≠ true := fun hb => hp (h.1 hb)
    simp [hp]; simpa using this

theorem edg_beq (x y : Edg) : (x.t == y.t && (x.a == y.a && true)) = decide (x = y) := by
  apply bdec
  cases x; cases y
  simp

theorem put_spec {h : Heap} {x v b : Int} (hx : 0 ≤ x) (hx' : x < 1099511627776) (hv : v ≤ 40) (hb : b = 0 ∨ b = 1) : Spec TP 72 #[.int .i64 x, .int .i64 v, .int .i64 b] h fun r h' => r = .int .i64 (x + (b - valI x v) * 2 ^ v.toNat) ∧ h' = h := by
  refine f72_ok ?_
  unfold f72_sem
  refine (value_spec hx (by omega) hv).ret ⟨_, rfl, (size_spec hv).ret ⟨_, rfl, ?_, rfl⟩⟩
  have e1 := p2_le (show v.toNat ≤ 40 by omega)
  have e2 := p2_pos v.toNat
  rcases valI_01 x v with h0 | h0 <;> rcases hb with rfl | rfl <;> rw [h0] <;> simp only [Int.sub_self, Int.zero_sub, Int.sub_zero]
  · rw [w64 (x := 0) (by omega), w64 (x := 0 * 2 ^ v.toNat) (by omega), w64 (by omega)]
  · rw [w64 (x := 1) (by omega), w64 (x := 1 * 2 ^ v.toNat) (by omega), w64 (by omega)]
  · rw [w64 (x := -1) (by omega), w64 (x := -1 * 2 ^ v.toNat) (by omega), w64 (by omega)]
  · rw [w64 (x := 0) (by omega), w64 (x := 0 * 2 ^ v.toNat) (by omega), w64 (by omega)]

theorem is_spec {h : Heap} {f : Int} : Spec TP 53 #[.int .u8 f] h fun r h' => r = .bool (decide (formB f)) ∧ h' = h := by
  refine f53_ok ?_
  unfold f53_sem
  exact pif_dec (fun hc => ⟨by simp only [ge_iff_le] at hc; simp [formB, hc], rfl⟩) fun hc => ⟨by simp only [ge_iff_le] at hc; simp [formB, hc], rfl⟩
theorem isForm_spec {h : Heap} {f : Int} : Spec TP 142 #[.int .u8 f] h fun r h' => r = .bool (decide (formB f)) ∧ h' = h := by
  refine f142_ok ?_
  unfold f142_sem
  exact pif_dec (fun hc => ⟨by simp only [ge_iff_le] at hc; simp [formB, hc], rfl⟩) fun hc => ⟨by simp only [ge_iff_le] at hc; simp [formB, hc], rfl⟩
theorem nmay_spec {h : Heap} {n : Int} : Spec TP 180 #[.int .i64 n] h fun r h' => r = .bool (decide (varsB n)) ∧ h' = h := by
  refine f180_ok ?_
  unfold f180_sem
  exact pif_dec (fun hc => ⟨by simp only [ge_iff_le] at hc; simp [varsB, hc], rfl⟩) fun hc => ⟨by simp only [ge_iff_le] at hc; simp [varsB, hc], rfl⟩
theorem smay_spec {h : Heap} {n : Int} : Spec TP 194 #[.int .i64 n] h fun r h' => r = .bool (decide (varsB n)) ∧ h' = h := by
  refine f194_ok ?_
  unfold f194_sem
  exact pif_dec (fun hc => ⟨by simp only [ge_iff_le] at hc; simp [varsB, hc], rfl⟩) fun hc => ⟨by simp only [ge_iff_le] at hc; simp [varsB, hc], rfl⟩
theorem chained_spec {h : Heap} {f : Int} : Spec TP 181 #[.int .u8 f] h fun r h' => r = .bool (decide (f = 3 ∨ f = 4)) ∧ h' = h := by
  refine f181_ok ?_
  unfold f181_sem
  exact pif_split (fun hc => ⟨by simp only [beq_iff_eq] at hc; simp [hc], rfl⟩) fun hc => ⟨by simp only [beq_eq_false_iff_ne] at hc; simp only [Value.bool.injEq]; by_cases h4 : f = 4 <;> simp [h4, hc], rfl⟩

theorem plain_spec {h : Heap} {f l n : Int} {e : Edg} (he : e.ok) : Spec TP 182 #[.int .u8 f, .agg #[.int .u8 e.t, .int .u32 e.a], .int .i64 l, .int .i64 n] h fun r h' => r = .bool (decide (plainB f e l n)) ∧ h' = h := by
  refine f182_ok ?_
  unfold f182_sem
  have := he.t0
  have := he.t1
  rw [w64 (x := e.t) (by omega)]
  refine isForm_spec.ret ⟨_, rfl, pif_split (fun hc => ⟨?_, rfl⟩) fun hc => nmay_spec.ret ⟨_, rfl, pif_split (fun hc => ⟨?_, rfl⟩) fun hc => pif_dec (fun hc => ⟨?_, rfl⟩) fun hc => pif_dec (fun hc => ⟨?_, rfl⟩) fun hc =>
    pif_split (fun hc => ⟨?_, rfl⟩) fun hc => pif_split (fun hc => ⟨?_, rfl⟩) fun hc => pif_dec (fun hc => ⟨?_, rfl⟩) (fun hc => ⟨?_, rfl⟩)⟩⟩ <;> congr 1 <;> apply bdec <;> simp_all [plainB] <;> omega

theorem rplain_spec {h : Heap} {f l n : Int} {e : Edg} (he : e.ok) : Spec TP 136 #[.int .u8 f, .agg #[.int .u8 e.t, .int .u32 e.a], .int .i64 l, .int .i64 n] h fun r h' => r = .bool (decide (plainB f e l n)) ∧ h' = h := by
  refine f136_ok ?_
  unfold f136_sem
  have := he.t0
  have := he.t1
  rw [w64 (x := e.t) (by omega)]
  refine pif_dec (fun hc => ⟨?_, rfl⟩) fun hc => pif_dec (fun hc => ⟨?_, rfl⟩) fun hc => pif_dec (fun hc => ⟨?_, rfl⟩) fun hc => pif_dec (fun hc => ⟨?_, rfl⟩) fun hc => pif_dec (fun hc => ⟨?_, rfl⟩) fun hc => pif_dec (fun hc => ⟨?_, rfl⟩) fun hc =>
    pif_split (fun hc => ⟨?_, rfl⟩) fun hc => pif_split (fun hc => ⟨?_, rfl⟩) fun hc => pif_dec (fun hc => ⟨?_, rfl⟩) (fun hc => ⟨?_, rfl⟩) <;> congr 1 <;> apply bdec <;> simp_all [plainB] <;> omega

theorem right_spec {h : Heap} {r : Rec} {n : Int} (hr : r.ok) : Spec TP 122 #[r.val, .int .i64 n] h fun v h' => v = .bool (decide (rightB r n)) ∧ h' = h := by
  refine f122_ok ?_
  unfold f122_sem
  have := hr.t0
  have := hr.t1
  have := hr.b0
  have := hr.b1
  rw [w64 (x := r.tp) (by omega), w64 (x := r.bt) (by omega), w64 (x := r.bt + 1) (by omega)]
  repeat' first
    | refine (plain_spec hr.lo).ret ⟨_, rfl, ?_⟩
    | refine (plain_spec hr.hi).ret ⟨_, rfl, ?_⟩
    | refine isForm_spec.ret ⟨_, rfl, ?_⟩
    | refine nmay_spec.ret ⟨_, rfl, ?_⟩
    | refine chained_spec.ret ⟨_, rfl, ?_⟩
    | refine pif_dec (fun hc => ?_) (fun hc => ?_)
    | refine pif_split (fun hc => ?_) (fun hc => ?_)
  all_goals
    refine ⟨?_, rfl⟩
    try simp only [edg_beq]
    congr 1
    apply bdec
    simp_all [rightB, formB, varsB]
    try omega
theorem rright_spec {h : Heap} {r : Rec} {n : Int} (hr : r.ok) : Spec TP 127 #[r.val, .int .i64 n] h fun v h' => v = .bool (decide (rightB r n)) ∧ h' = h := by
  refine f127_ok ?_
  unfold f127_sem
  have := hr.t0
  have := hr.t1
  have := hr.b0
  have := hr.b1
  have := hr.hi.a0
  have he : ∀ x y : Edg, x = y ↔ x.a = y.a ∧ x.t = y.t := fun x y => by cases x; cases y; simp [and_comm]
  rw [w64 (x := r.bt) (by omega), w64 (x := r.bt + 1) (by omega)]
  repeat' first
    | refine (rplain_spec hr.lo).ret ⟨_, rfl, ?_⟩
    | refine (rplain_spec hr.hi).ret ⟨_, rfl, ?_⟩
    | refine pif_dec (fun hc => ?_) (fun hc => ?_)
    | refine pif_split (fun hc => ?_) (fun hc => ?_)
  all_goals
    refine ⟨?_, rfl⟩
    congr 1
    apply bdec
    simp_all [rightB, formB, varsB]
    try omega

theorem words_spec {h : Heap} {n : Int} (h0 : 0 ≤ n) (h1 : n ≤ 16) : Spec TP 195 #[.int .i64 n] h fun v h' => v = .int .i64 (max 1 (2 ^ n.toNat / 64)) ∧ h' = h := by
  refine f195_ok ?_
  unfold f195_sem
  have e1 := p2_le (show n.toNat ≤ 16 by omega)
  have e2 := p2_pos n.toNat
  have es : shlI .i64 1 n = 2 ^ n.toNat := by
    unfold shlI
    have : min n.toNat (IntKind.bits .i64) = n.toNat := Nat.min_eq_left (by show n.toNat ≤ 64; omega)
    rw [this, Int.one_mul, w64 (by omega)]
  rw [es, Int.tdiv_eq_ediv_of_nonneg (by omega), w64 (by omega)]
  refine ⟨h0, by decide, ?_, rfl⟩
  congr 1
  split <;> omega

theorem at_spec {h : Heap} {s : Sl} {l : List Int} (S : SlR h s 1 (fun x => [.int .i64 x]) l) {i : Int} (hn : s.n < 9223372036854775808) : Spec TP 211 #[.slice s.p s.n s.c, .int .i64 i] h fun v h' => v = .int .i64 (if 0 ≤ i then (l[i.toNat]?).getD (-1) else -1) ∧ h' = h := by
  refine f211_ok ?_
  unfold f211_sem
  refine pif_dec (fun hc => ⟨by rw [if_neg (by omega)], rfl⟩) fun hc => pif_dec (fun hc => ⟨?_, rfl⟩) fun hc => ?_
  · rw [if_pos (by omega), List.getElem?_eq_none (by have := S.len; omega)]; rfl
  · have hl : i.toNat < l.length := by have := S.len; omega
    refine S.read (by omega) (List.getElem?_eq_getElem hl) fun a ha => ⟨_, ha, ?_, rfl⟩
    rw [if_pos (by omega), List.getElem?_eq_getElem hl]; rfl

theorem one_spec {h : Heap} {f n : Int} (h0 : 0 ≤ n) (h1 : n ≤ 16) (hf : formB f) : Spec TP 198 #[.int .u8 f, .int .i64 n] h fun v h' => v = (Edg.mk (if f = 5 then n else 0) 1).val ∧ h' = h := by
  refine f198_ok ?_
  unfold f198_sem
  rw [wu8 (by omega)]
  refine isForm_spec.ret ⟨_, rfl, pif_split (fun hc => ?_) fun hc => nmay_spec.ret ⟨_, rfl, pif_split (fun hc => ?_) fun hc => pif_split (fun hc => ⟨?_, rfl⟩) fun hc => ⟨?_, rfl⟩⟩⟩
  · simp [hf] at hc
  · simp [varsB, h0, h1] at hc
  · simp only [beq_iff_eq] at hc; simp [hc]
  · simp only [beq_eq_false_iff_ne] at hc; simp [hc]
end Go.Proofs.YtbeapoopomlgaaaGreat.Sx
