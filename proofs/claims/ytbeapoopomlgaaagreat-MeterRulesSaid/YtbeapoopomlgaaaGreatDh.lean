/- Contracts: tables made from below; counts as numbers; sums. -/
import Derived.Test.YtbeapoopomlgaaaGreatDg
namespace Go.Proofs.YtbeapoopomlgaaaGreat.Sx
open Go Go.Proofs
open Go.IntKind (wrap)

/-! ### tables -/
theorem pow_cast (k : Nat) : (2 : Int) ^ k = ((2 ^ k : Nat) : Int) := by rw [Int.natCast_pow]; rfl
theorem bits_spec {h : Heap} {n a : Int} (h0 : 0 ≤ n) (h1 : n ≤ 6) : Spec TP 45 #[.int .i64 n, .int .u64 a] h fun v h' => ∃ (t : Sl) (l : List Bool), v = .slice t.p t.n t.c ∧ SlR h' t 1 encB l ∧ l.length = 2 ^ n.toNat ∧ t.n ≤ t.c ∧ (∀ q, t.p = some q → h q.block = none) ∧ Ext h h' := by
  refine f45_ok ?_
  unfold f45_sem
  refine (size_spec (by omega)).ret ⟨_, rfl, ?_⟩
  rw [pow_cast, Int.toNat_natCast]
  have hN : 2 ^ n.toNat ≤ 2 ^ 6 := Nat.pow_le_pow_right (by decide) (by omega)
  generalize 2 ^ n.toNat = N at hN ⊢
  refine ⟨⟨by omega, by omega, by omega, by decide⟩, fun b hb => ?_⟩
  have O0 := Own.make h b 4 (sz := 1) (m := N) (enc := encB) false (z := [.bool false]) rfl (fun _ => rfl) (by decide)
  refine .by (fun st g => 0 ≤ st.2.1 ∧ st.2.1 ≤ N ∧ (∃ l, Own g ⟨some (adr b), N, N⟩ 4 1 encB l b) ∧ Ext h g) (fun st _ => (N - st.2.1).toNat) ⟨by simp, by simp, ⟨_, O0⟩, Ext.new _ hb⟩ ?_
  rintro ⟨x, i, _⟩ g ⟨hi0, hi1, ⟨l, O⟩, E⟩
  dsimp only at hi0 hi1 ⊢
  have hl := O.n
  dsimp only at hl
  refine pif_dec (fun hc => ?_) fun hc => ?_
  · have C := put_chg g ((adr b).add (i.toNat * 1)) [.bool ((Int.tmod x 2) == 1)]
    refine ⟨by decide, hi0, hc, O.canPut (by omega), by decide, ⟨?_, ?_, ⟨_, O.put (i := i.toNat) (by omega) ((Int.tmod x 2) == 1)⟩, C.extR E fun c hc => ?_⟩, ?_⟩
    · rw [w64 (by omega)]; omega
    · rw [w64 (by omega)]; omega
    · rw [hc, add_block]; exact hb
    · rw [w64 (by omega)]; omega
  · exact ⟨⟨some (adr b), N, N⟩, l, rfl, O.toR, hl.symm, Nat.le_refl _, fun q hq => by cases hq; exact hb, E⟩

theorem SlR.part {α : Type} {h : Heap} {s : Sl} {sz : Nat} {enc : α → List Value} {t : List α} (R : SlR h s sz enc t) (hc : s.n ≤ s.c) {i j : Nat} (hij : i ≤ j) (hj : j ≤ t.length) :
    SlR h ⟨if s.c = i then s.p else s.p.map (·.add (i * sz)), j - i, s.c - i⟩ sz enc ((t.take j).drop i) := by
  have hl := R.len
  refine ⟨by simp; omega, fun m x hm => ?_⟩
  rw [List.getElem?_drop, List.getElem?_take] at hm
  split at hm
  · obtain ⟨a, ha, H⟩ := R.at_ _ _ hm
    refine ⟨a.add (i * sz), ?_, ?_⟩
    · dsimp only
      rw [if_neg (by omega), ha]; rfl
    · rw [add_add, ← Nat.add_mul]; exact H
  · cases hm
theorem part_block {s : Sl} {i k n c : Nat} {S : Nat → Prop} (H : ∀ a, s.p = some a → ¬ S a.block) : ∀ a, (⟨if s.c = i then s.p else s.p.map (·.add k), n, c⟩ : Sl).p = some a → ¬ S a.block := by
  intro a ha
  dsimp only at ha
  split at ha
  · exact H a ha
  · cases hp : s.p with
    | none => rw [hp] at ha; cases ha
    | some q => rw [hp] at ha; cases ha; rw [add_block]; exact H q hp
theorem SlR.alive {α : Type} {h : Heap} {s : Sl} {sz : Nat} {enc : α → List Value} {t : List α} (R : SlR h s sz enc t) (hp : 0 < t.length) {a : Addr} (ha : s.p = some a) : h a.block ≠ none := by
  obtain ⟨q, hq, H⟩ := R.at_ 0 _ (List.getElem?_eq_getElem hp)
  rw [ha] at hq; cases hq
  have := H.live
  rw [add_block] at this; exact this

theorem end_spec {h : Heap} {f n : Int} {v : Bool} (h0 : 0 ≤ n) (h1 : n ≤ 16) : Spec TP 103 #[.int .u8 f, .bool v, .int .i64 n] h fun r h' => r = (if v then oneE f n else e0).val ∧ h' = h := by
  refine f103_ok ?_
  unfold f103_sem
  refine pif_split (fun q => f156_ok ?_) fun q => f157_ok ?_
  · simp only [beq_iff_eq] at q
    unfold f156_sem
    cases v with
    | false => exact pif_t rfl ⟨_, _, rfl, rfl, rfl⟩
    | true => refine pif_f rfl ⟨_, _, rfl, ?_, rfl⟩; rw [wu8 (by omega)]; unfold oneE; rw [if_pos rfl, if_pos q]
  · simp only [beq_eq_false_iff_ne] at q
    unfold f157_sem
    cases v with
    | false => exact pif_t rfl ⟨_, _, rfl, rfl, rfl⟩
    | true => refine pif_f rfl ⟨_, _, rfl, ?_, rfl⟩; unfold oneE; rw [if_pos rfl, if_neg q]
def costM (k : Nat) : Int := ((2 ^ k : Nat) : Int) - 1
theorem costM_succ (k : Nat) : costM (k + 1) = 2 * costM k + 1 := by unfold costM; rw [Nat.pow_succ]; omega
theorem costM_pos (k : Nat) : 0 ≤ costM k := by have := Nat.two_pow_pos k; unfold costM; omega
theorem made_spec {f n : Int} (hf : formB f) : ∀ (k : Nat) {h : Heap} {b : Nat} {A : Ar} {S : Nat → Prop} {s : Sl} {t : List Bool} {l : Int}, StoreAt h b A n S → Live A n → SlR h s 1 encB t → t.length = 2 ^ k → s.n ≤ s.c → (∀ a, s.p = some a → ¬ S a.block) → 0 ≤ l → l + k = n → A.n + costM k ≤ A.room →
    Spec TP 44 #[.pointer (some (adr b)), .int .u8 f, .slice s.p s.n s.c, .int .i64 l] h fun v h' => ∃ (e : Edg) (A' : Ar), v = .tuple #[e.val, .bool true] ∧ StoreAt h' b A' n (Fp h S) ∧ Chg h h' S ∧ Grew A A' n (costM k) ∧ e.ok ∧ leadsB (getC A'.cells) n f e l := by
  intro k
  induction k with
  | zero =>
    intro h b A S s t l St K R hl hc hS h0 hk hroom
    have hv := K.good.vars
    have hvB : varsB n := hv
    have hn := R.len
    rw [Nat.pow_zero] at hl
    refine f44_ok ?_
    unfold f44_sem
    have ht := List.getElem?_eq_getElem (show 0 < t.length by omega)
    refine pif_t (by simp; omega) (pif_t (by simp; omega) (R.read (i := 0) (by decide) ht fun a ha => ⟨_, ha, (end_spec h0 (by omega)).ret ?_⟩))
    have le0 : leadsB (getC A.cells) n f e0 l := leads_e0 hvB hf h0 (by omega)
    have le1 : leadsB (getC A.cells) n f (oneE f l) l := by
      have : l = n := by omega
      subst this
      exact leads_one hvB hf h0
    refine ⟨_, _, rfl, _, A, rfl, St.keep', Chg.refl _ _, (Grew.refl K).le (costM_pos 0), ?_, ?_⟩
    · split
      · exact one_ok h0 (by omega)
      · exact e0_ok
    · split
      · exact le1
      · exact le0
  | succ k ih =>
    intro h b A S s t l St K R hl hc hS h0 hk hroom
    have hv := K.good.vars
    have hn := R.len
    have cs := costM_succ k
    have cp := costM_pos k
    have hp := Nat.two_pow_pos k
    rw [Nat.pow_succ] at hl
    have hq : 2 ^ k ≤ 2 ^ 16 := Nat.pow_le_pow_right (by decide) (by omega)
    have eh : wrap .i64 (Int.tdiv (s.n : Int) 2) = ((2 ^ k : Nat) : Int) := by
      rw [Int.tdiv_eq_ediv_of_nonneg (by omega), w64 (by omega)]; omega
    refine f44_ok ?_
    unfold f44_sem
    rw [eh]
    generalize hQ : 2 ^ k = q at hl hp hq
    refine pif_f (by simp; omega) ⟨by decide, sliceS_iff.2 ⟨⟨by omega, by omega, by omega⟩, ?_⟩⟩
    rw [w64 (x := l + 1) (by omega), Int.toNat_natCast, show (0 : Int).toNat = 0 from rfl]
    have R1 := R.part hc (i := 0) (j := q) (by omega) (by omega)
    have b1 : ∀ a, (⟨if s.c = 0 then s.p else s.p.map (·.add (0 * 1)), q - 0, s.c - 0⟩ : Sl).p = some a → ¬ S a.block := part_block hS
    refine (ih St K R1 (by simp; omega) (by dsimp only; omega) b1 (by omega) (by omega) (by omega)).mono ?_
    rintro v h1 ⟨e1, A1, rfl, St1, C1, G1, o1, l1⟩
    refine ⟨_, _, _, rfl, by decide, sliceS_iff.2 ⟨⟨by omega, by omega, by omega⟩, ?_⟩⟩
    rw [Int.toNat_natCast, Int.toNat_natCast]
    have R' := R.chg C1 hS
    have R2 := R'.part hc (i := q) (j := s.n) (by omega) (by omega)
    have hS' : ∀ a, s.p = some a → ¬ Fp h S a.block := fun a ha hF => hF.elim (hS a ha) (R.alive (by omega) ha)
    have b2 : ∀ a, (⟨if s.c = q then s.p else s.p.map (·.add (q * 1)), s.n - q, s.c - q⟩ : Sl).p = some a → ¬ Fp h S a.block := part_block hS'
    have n1 := G1.n1
    have r1 := G1.room
    refine (ih St1 G1.live R2 (by simp; omega) (by dsimp only; omega) b2 (by omega) (by omega) (by omega)).mono ?_
    rintro v h2 ⟨e2, A2, rfl, St2, C2, G2, o2, l2⟩
    refine ⟨_, _, _, rfl, pif_f rfl (pif_f rfl ?_)⟩
    have n2 := G2.n1
    have r2 := G2.room
    have l1' := leads_grow G2.grows l1
    have St2' : StoreAt h2 b A2 n (Fp h S) := St2.mono fun c hc => Fp.trans C1 hc
    have C12 : Chg h h2 S := Fp.chg C1 C2
    obtain ⟨A3, e3, v3, G3, o3, l3, -⟩ := G2.live.make h0 (by omega) l1' l2 o1 o2 (by omega)
    refine (make_spec St2' G2.live.ok.ok (by have := G2.live.ok.len; omega) hv.2 hf (by omega) o1 o2).mono ?_
    rintro v h3 ⟨rfl, St3, C3⟩
    rw [v3] at St3 ⊢
    dsimp only at St3 ⊢
    exact ⟨_, _, _, rfl, e3, A3, rfl, St3.mono fun c hc => Fp.trans C12 hc, Fp.chg C12 C3, ((G1.trans G2).trans G3).le (by omega), o3, l3⟩

/-! ### counts -/
theorem may_leads {g : Int → Option Rec} {n f l : Int} {e : Edg} (L : leadsB g n f e l) : mayE g n f e l = 0 := by
  have q := L.1
  unfold mayE
  rw [if_neg (by simp [q.1]), if_neg (by have := q.2.2.1; have := q.2.2.2.1; omega), if_neg (by simp [L])]
theorem cnt_spec {h : Heap} {a : Addr} {cells : Cells} {n cnt room f : Int} {e : Edg} (R : StR h a cells n cnt room) (G : Good (getC cells) n) (he : e.ok) (hM : cells.length < 1000000000) (L : leadsB (getC cells) n f e 0) (hn : n ≤ 6) :
    Spec TP 48 #[.pointer (some a), .int .u8 f, e.val] h fun v h' => v = .tuple #[.int .i64 (wsum 1 (hold (getC cells) f e 0) n.toNat : Nat), .bool true] ∧ h' = h := by
  refine Spec.pure (f48_ok ?_)
  unfold f48_sem
  refine (count_spec (f := f) R G he hM).mono ?_
  rintro v g ⟨t, rfl, -, c, E⟩
  have hv := G.vars
  rw [may_leads L] at c ⊢
  have N := c rfl
  have hW : edgeW (getC cells) n f 1 e 0 = wsum 1 (hold (getC cells) f e 0) n.toNat := by unfold edgeW; rw [show n - 0 = n by omega]
  rw [hW] at N
  have hle := wsum_le 1 n.toNat (hold (getC cells) f e 0)
  have hp : (1 + 1) ^ n.toNat ≤ 2 ^ 6 := Nat.pow_le_pow_right (by decide) (by omega)
  generalize wsum 1 (hold (getC cells) f e 0) n.toNat = w at N hle ⊢
  obtain ⟨hcap, ws, SW, nw, ow, hv⟩ := N
  have hlen := SW.len
  refine ⟨_, _, rfl, ?_⟩
  cases ws with
  | nil =>
    have : w = 0 := hv.symm
    subst this
    refine pif_t (by simp at hlen; simp [hlen]) ⟨rfl, E⟩
  | cons z r =>
    have h1 := len_le nw ow 1 (by rw [hv, Nat.pow_one]; omega)
    have : r = [] := List.eq_nil_of_length_eq_zero (by simp only [List.length_cons] at h1; omega)
    subst this
    have hz := ow z (by simp)
    have hv' : z.toNat + 18446744073709551616 * 0 = w := hv
    have ez : z = (w : Int) := by omega
    subst ez
    simp only [List.length_cons, List.length_nil] at hlen
    refine pif_f (by simp [hlen]) (SW.read (i := 0) (by decide) rfl fun q hq => ⟨_, hq, by decide, pif_t rfl (pif_t (by simp [hlen]) (SW.read (i := 0) (by decide) rfl fun q hq => ⟨_, hq, ?_, E⟩))⟩)
    have e1 : Int.tmod (w : Int) 1000000 = (w : Int) := by rw [Int.tmod_eq_emod_of_nonneg (by omega)]; omega
    rw [e1, w64 (by omega), decide_eq_true (by omega)]

/-- the first ones of a list together -/
def sumI (l : List Int) : Nat → Int
  | 0 => 0
  | k + 1 => sumI l k + (l[k]?).getD 0
theorem sum_spec {h : Heap} {s : Sl} {l : List Int} (S : SlR h s 1 encI l) (hb : ∀ k, k ≤ l.length → 0 ≤ sumI l k ∧ sumI l k < 4611686018427387904) (hl : l.length < 1000000) : Spec TP 51 #[.slice s.p s.n s.c] h fun v h' => v = .int .i64 (sumI l l.length) ∧ h' = h := by
  have hsl := S.len
  refine f51_ok ?_
  unfold f51_sem
  refine .by (fun st g => ∃ k : Nat, k ≤ l.length ∧ st = (sumI l k, (k : Int), ()) ∧ g = h) (fun st _ => (l.length - st.2.1).toNat) ⟨0, by omega, rfl, rfl⟩ ?_
  rintro _ _ ⟨k, hk, rfl, rfl⟩
  dsimp only
  refine pif_dec (fun hc => ?_) fun hc => ?_
  · have hx := List.getElem?_eq_getElem (show k < l.length by omega)
    have h1 := hb (k + 1) (by omega)
    have e1 : sumI l (k + 1) = sumI l k + l[k] := by show sumI l k + (l[k]?).getD 0 = _; rw [hx]; rfl
    refine S.read (i := (k : Int)) (by omega) (by rw [Int.toNat_natCast]; exact hx) fun a ha => ⟨_, ha, ⟨k + 1, by omega, ?_, rfl⟩, by rw [w64 (by omega)]; omega⟩
    rw [w64 (x := (k : Int) + 1) (by omega), ← e1, w64 (by omega)]
    rfl
  · have : k = l.length := by omega
    subst this
    exact ⟨rfl, rfl⟩
end Go.Proofs.YtbeapoopomlgaaaGreat.Sx
