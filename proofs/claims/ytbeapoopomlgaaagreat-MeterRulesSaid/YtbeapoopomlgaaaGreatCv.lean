/- Contracts: permutations, orders. -/
import Derived.Test.YtbeapoopomlgaaaGreatCu
namespace Go.Proofs.YtbeapoopomlgaaaGreat.Sx
open Go Go.Proofs
open Go.IntKind (wrap)

theorem nodup_all {α : Type} [DecidableEq α] {l m : List α} (hn : l.Nodup) (hs : ∀ x ∈ l, x ∈ m) (hl : m.length ≤ l.length) : ∀ x ∈ m, x ∈ l := by
  intro x hx
  by_cases h : x ∈ l
  · exact h
  · have := nodup_len (l := x :: l) (m := m) (List.nodup_cons.2 ⟨h, hn⟩) fun y hy => by
      rw [List.mem_cons] at hy
      rcases hy with rfl | hy
      · exact hx
      · exact hs y hy
    simp only [List.length_cons] at this; omega

/-- a permutation -/
def permB (p : List Int) : Prop := p.length ≤ 16 ∧ (∀ x ∈ p, 0 ≤ x ∧ x < p.length) ∧ p.Nodup
instance permB_dec (p : List Int) : Decidable (permB p) := by unfold permB; infer_instance
theorem permB.all {p : List Int} (h : permB p) {v : Nat} (hv : v < p.length) : (v : Int) ∈ p :=
  nodup_all (m := (List.range p.length).map fun (i : Nat) => (i : Int)) h.2.2 (fun x hx => by
    have := h.2.1 x hx
    rw [List.mem_map]
    exact ⟨x.toNat, List.mem_range.2 (by omega), by omega⟩) (by simp) v (by rw [List.mem_map]; exact ⟨v, List.mem_range.2 hv, rfl⟩)

theorem shr63 {n k : Nat} (hk : k < 64) : shrI .i64 (n : Int) (k : Int) = ((n / 2 ^ k : Nat) : Int) := by
  unfold shrI
  have e : min (k : Int).toNat (IntKind.bits .i64) = k := by
    have : IntKind.bits .i64 = 64 := rfl
    rw [this]; omega
  rw [e]
  have h2 : (0 : Int) < 2 ^ k := p2_pos k
  rw [Int.fdiv_eq_ediv_of_nonneg _ (by omega), Int.natCast_ediv, Int.natCast_pow]
  rfl
theorem shl63 {k : Nat} (hk : k < 62) : shlI .i64 1 (k : Int) = ((2 ^ k : Nat) : Int) := by
  unfold shlI
  have e : min (k : Int).toNat (IntKind.bits .i64) = k := by
    have : IntKind.bits .i64 = 64 := rfl
    rw [this]; omega
  have h1 : 2 ^ k < 2 ^ 62 := Nat.pow_lt_pow_right (by decide) hk
  have e2 : ((2 : Int) ^ k) = ((2 ^ k : Nat) : Int) := by rw [Int.natCast_pow]; rfl
  have h3 : (0 : Int) ≤ ((2 ^ k : Nat) : Int) := Int.natCast_nonneg _
  rw [e, Int.one_mul, e2, w64 (by omega)]
theorem or63 {a b : Nat} (ha : a < 4611686018427387904) (hb : b < 4611686018427387904) : orI .i64 (a : Int) (b : Int) = ((a ||| b : Nat) : Int) := by
  unfold orI
  have e1 : IntKind.bits .i64 = 64 := rfl
  rw [e1]
  have e2 : (BitVec.ofInt 64 (a : Int)).toNat = a := by rw [BitVec.toNat_ofInt]; omega
  have e3 : (BitVec.ofInt 64 (b : Int)).toNat = b := by rw [BitVec.toNat_ofInt]; omega
  have h := Nat.or_lt_two_pow (n := 62) ha hb
  rw [BitVec.toNat_or, e2, e3, w64 (by omega)]
theorem and1 {a : Nat} (ha : a < 4611686018427387904) : andI .i64 (a : Int) 1 = ((a % 2 : Nat) : Int) := by
  have := andMod (n := a) (k := 1) ha (by decide)
  simpa using this

section
variable {h : Heap} {s : Sl} {p : List Int}
theorem permR_spec (S : SlR h s 1 encI p) : Spec TP 165 #[.slice s.p s.n s.c] h fun v h' => v = .bool (decide (permB p)) ∧ h' = h := by
  have hsl := S.len
  refine f165_ok ?_
  unfold f165_sem
  have no : ¬ permB p → (Value.bool false = .bool (decide (permB p)) ∧ h = h) := fun hn => ⟨by simp [hn], rfl⟩
  refine pif_dec (fun hc => no fun hp => by have := hp.1; omega) fun hc => ?_
  refine .by (fun st g => g = h ∧ 0 ≤ st.2.1 ∧ st.2.1 ≤ p.length ∧ (∀ x ∈ p.take st.2.1.toNat, 0 ≤ x ∧ x < p.length) ∧ (p.take st.2.1.toNat).Nodup ∧ ∃ B : Nat, st.1 = B ∧ B < 65536 ∧ ∀ k : Nat, B.testBit k = true ↔ (k : Int) ∈ p.take st.2.1.toNat) (fun st _ => (p.length - st.2.1).toNat) ⟨rfl, by simp, by simp, by simp, by simp, 0, rfl, by decide, by simp⟩ ?_
  rintro ⟨sn, i, _⟩ g ⟨rfl, hi0, hi1, hin, hnd, B, hB, hB1, hbt⟩
  dsimp only at hi0 hi1 hin hnd hB hbt ⊢
  subst hB
  refine pif_dec (fun hc2 => ?_) fun hc2 => ?_
  · have hil : i.toNat < p.length := by omega
    have hg := List.getElem?_eq_getElem hil
    have hmem : p[i.toNat] ∈ p := List.getElem_mem hil
    refine S.read hi0 hg fun a ha => ⟨_, ha, pif_dec (fun h1 => no fun hp => by have := hp.2.1 _ hmem; omega) fun h1 => pif_dec (fun h2 => no fun hp => by have := hp.2.1 _ hmem; omega) fun h2 => ⟨by omega, ?_⟩⟩
    obtain ⟨X, hX⟩ : ∃ X : Nat, p[i.toNat] = X := ⟨p[i.toNat].toNat, by omega⟩
    have hX16 : X < 16 := by omega
    have hdiv : B / 2 ^ X ≤ B := Nat.div_le_self _ _
    have htb : B / 2 ^ X % 2 = if B.testBit X then 1 else 0 := by
      rw [Nat.testBit_eq_decide_div_mod_eq]
      have : B / 2 ^ X % 2 < 2 := Nat.mod_lt _ (by decide)
      by_cases h : B / 2 ^ X % 2 = 1
      · simp [h]
      · simp only [h, decide_false, Bool.false_eq_true, if_false]; omega
    have e1 : (i + 1).toNat = i.toNat + 1 := by omega
    have et : p.take (i + 1).toNat = p.take i.toNat ++ [(X : Int)] := by rw [e1, List.take_succ_eq_append_getElem hil, hX]
    rw [hX, shr63 (by omega), and1 (by omega), htb]
    refine pif_split (fun hb => no fun hp => ?_) fun hb => ⟨by omega, ?_⟩
    · have hbx : B.testBit X = true := by
        cases h : B.testBit X with
        | true => rfl
        | false => rw [h] at hb; simp at hb
      have hm := (hbt X).1 hbx
      have hd := hp.2.2
      rw [← List.take_append_drop (i.toNat + 1) p, ← e1, et, List.nodup_append] at hd
      have hd2 := hd.1
      rw [List.nodup_append] at hd2
      exact hd2.2.2 _ hm _ (by simp) rfl
    · have hbx : ¬ (X : Int) ∈ p.take i.toNat := by
        intro hm
        rw [(hbt X).2 hm] at hb
        simp at hb
      rw [shl63 (by omega), w64 (x := i + 1) (by omega)]
      have hp2 : 2 ^ X < 2 ^ 16 := Nat.pow_lt_pow_right (by decide) hX16
      rw [or63 (by omega) (by omega)]
      refine ⟨⟨rfl, by omega, by omega, ?_, ?_, B ||| 2 ^ X, rfl, Nat.or_lt_two_pow (n := 16) hB1 hp2, fun k => ?_⟩, by omega⟩
      · rw [et]
        intro x hx
        rw [List.mem_append, List.mem_singleton] at hx
        rcases hx with hx | rfl
        · exact hin x hx
        · omega
      · rw [et, List.nodup_append]
        refine ⟨hnd, by simp, fun x hx y hy => ?_⟩
        rw [List.mem_singleton] at hy
        rintro rfl
        subst hy
        exact hbx hx
      · rw [et, List.mem_append, List.mem_singleton, Nat.testBit_or, Bool.or_eq_true, hbt k, Nat.testBit_two_pow]
        simp only [decide_eq_true_eq]
        constructor
        · rintro (h | h)
          · exact .inl h
          · right; rw [h]
        · rintro (h | h)
          · exact .inl h
          · right; omega
  · have e : i.toNat = p.length := by omega
    rw [e, List.take_length] at hin hnd
    have : permB p := ⟨by omega, hin, hnd⟩
    exact ⟨by simp [this], rfl⟩

/-- back -/
def invP (p : List Int) : List Int := (List.range p.length).map fun (v : Nat) => ((p.idxOf (v : Int) : Nat) : Int)
theorem invP_get {p : List Int} (hp : permB p) {i : Nat} {x : Int} (hi : p[i]? = some x) : (invP p)[x.toNat]? = some (i : Int) := by
  obtain ⟨h1, h2⟩ := List.getElem?_eq_some_iff.1 hi
  have hx := hp.2.1 x (List.mem_of_getElem? hi)
  unfold invP
  rw [List.getElem?_map, List.getElem?_range (by omega)]
  simp only [Option.map_some]
  have e : ((x.toNat : Nat) : Int) = x := by omega
  rw [e]
  have : p.idxOf x = i := by
    rw [← h2]
    exact hp.2.2.idxOf_getElem i h1
  rw [this]

theorem inverse_spec (S : SlR h s 1 encI p) (hp : permB p) : Spec TP 107 #[.slice s.p s.n s.c] h fun v h' => (∃ t : Sl, v = .tuple #[.slice t.p t.n t.c, .bool true] ∧ SlR h' t 1 encI (invP p)) ∧ Ext h h' := by
  have hsl := S.len
  have h16 := hp.1
  refine f107_ok ?_
  unfold f107_sem
  refine (permR_spec S).ret ⟨_, rfl, pif_f (by simp [hp]) ?_⟩
  have em : (((s.n : Nat) : Int)).toNat = s.n := by omega
  rw [em]
  refine ⟨⟨by omega, Int.le_refl _, by omega, by decide⟩, fun b hb => ?_⟩
  have O0 : Own (h.new b (.cells (zrow [.int .i64 0] (s.n * 1)).toArray 3 (0, 0))) ⟨some (adr b), s.n, s.n⟩ 3 1 encI (List.replicate s.n 0) b := Own.make h b 3 (enc := encI) 0 rfl (fun _ => rfl) (by decide)
  have E0 : Ext h (h.new b (.cells (zrow [.int .i64 0] (s.n * 1)).toArray 3 (0, 0))) := Ext.new _ hb
  refine .by (fun st g => 0 ≤ st.1 ∧ st.1 ≤ p.length ∧ Ext h g ∧ ∃ l, Own g ⟨some (adr b), s.n, s.n⟩ 3 1 encI l b ∧ ∀ (j : Nat) x, j < st.1.toNat → p[j]? = some x → l[x.toNat]? = some (j : Int)) (fun st _ => (p.length - st.1).toNat) ⟨by simp, by simp, E0, _, O0, by simp⟩ ?_
  rintro ⟨i, _⟩ g ⟨hi0, hi1, E, l, O, hl⟩
  dsimp only at hi0 hi1 hl ⊢
  have hol := O.len
  dsimp only at hol
  refine pif_dec (fun hc => ?_) fun hc => ?_
  · have hil : i.toNat < p.length := by omega
    have hg := List.getElem?_eq_getElem hil
    have hx := hp.2.1 _ (List.getElem_mem hil)
    refine (S.ext E).read hi0 hg fun a ha => ⟨_, ha, hx.1, by omega, O.canPut (by omega), ?_⟩
    rw [w64 (x := i + 1) (by omega)]
    refine ⟨⟨by omega, by omega, (setChg _ _ _ _).extR E fun c hc => by rw [hc]; exact hb, _, O.put (by omega) i, fun j x hj hjx => ?_⟩, by omega⟩
    rw [List.getElem?_set]
    rcases Nat.lt_or_ge j i.toNat with h1 | h1
    · have hne : p[i.toNat].toNat ≠ x.toNat := by
        intro he
        have hx2 := hp.2.1 x (List.mem_of_getElem? hjx)
        have : p[i.toNat] = x := by omega
        obtain ⟨q1, q2⟩ := List.getElem?_eq_some_iff.1 hjx
        have i1 := hp.2.2.idxOf_getElem _ hil
        have i2 := hp.2.2.idxOf_getElem _ q1
        rw [q2, ← this] at i2
        omega
      rw [if_neg hne]
      exact hl j x h1 hjx
    · have : j = i.toNat := by omega
      subst this
      rw [hg] at hjx; cases hjx
      rw [if_pos rfl, if_pos (by omega)]
      congr 1; omega
  · refine ⟨⟨⟨some (adr b), s.n, s.n⟩, rfl, ?_⟩, E⟩
    have : l = invP p := by
      apply List.ext_getElem?
      intro v
      by_cases hv : v < p.length
      · obtain ⟨j, hj⟩ := List.mem_iff_getElem?.1 (hp.all hv)
        have h1 := hl j _ (by have := (List.getElem?_eq_some_iff.1 hj).1; omega) hj
        have h2 := invP_get hp hj
        rw [Int.toNat_natCast] at h1 h2
        rw [h1, h2]
      · rw [List.getElem?_eq_none (by omega), List.getElem?_eq_none (by unfold invP; simp; omega)]
    rw [← this]
    exact O.toR

theorem cloneI_spec (S : SlR h s 1 encI p) (hl : p.length < 1000000000) : Spec TP 91 #[.slice s.p s.n s.c] h fun v h' => ∃ t : Sl, v = .slice t.p t.n t.c ∧ OwnN h' t 3 1 encI p (FreshB h) ∧ Ext h h' := by
  refine f91_ok ?_
  unfold f91_sem
  refine pif_split (fun hc => ?_) fun hc => fun b hb => ?_
  · have : p = [] := by
      cases p with
      | nil => rfl
      | cons w r =>
        obtain ⟨a, h1, -⟩ := S.at_ 0 w rfl
        rw [h1] at hc; cases hc
    subst this
    exact ⟨⟨none, 0, 0⟩, rfl, .inl ⟨rfl, rfl⟩, Ext.refl _⟩
  · have E : Ext h (h.new b (.cells #[] 3)) := Ext.new _ hb
    have B : Blk (h.new b (.cells #[] 3)) b 3 [] := Blk.new _ _ _ _
    refine ⟨_, (S.ext E).has (fun _ => rfl) (by decide), append_all B elI (fun _ => rfl) (fun x _ => encI_one x) S.len hl fun t h' O E' => ⟨t, rfl, O.mono ?_, E.trans E'⟩⟩
    rintro c (rfl | hc)
    · exact hb
    · exact E.fresh hc

/-- an order, to be read -/
structure OrdR (h : Heap) (o : Addr) (p : List Int) : Prop where
  perm : permB p
  ex : ∃ v l : Sl, Has h o [.slice v.p v.n v.c, .slice l.p l.n l.c] ∧ SlR h v 1 encI p ∧ SlR h l 1 encI (invP p)
theorem OrdR.ext {h h' : Heap} {o : Addr} {p : List Int} (O : OrdR h o p) (E : Ext h h') : OrdR h' o p := by
  obtain ⟨v, l, h1, h2, h3⟩ := O.ex; exact ⟨O.perm, v, l, h1.ext E, h2.ext E, h3.ext E⟩

theorem ordOf_spec (S : SlR h s 1 encI p) (hp : permB p) : Spec TP 52 #[.slice s.p s.n s.c] h fun v h' => (∃ o, v = .tuple #[.pointer (some o), .int .u8 0] ∧ OrdR h' o p) ∧ Ext h h' := by
  refine f52_ok ?_
  unfold f52_sem
  refine (inverse_spec S hp).mono ?_
  rintro v g1 ⟨⟨l, rfl, L⟩, E1⟩
  refine ⟨l, true, rfl, pif_f rfl ((cloneI_spec (S.ext E1) (by have := hp.1; omega)).mono ?_)⟩
  rintro v g2 ⟨t, rfl, O, E2⟩
  refine ⟨t, rfl, fun b hb => ⟨⟨adr b, rfl, hp, t, l, ?_, O.toR.ext (Ext.new _ hb), (L.ext E2).ext (Ext.new _ hb)⟩, (E1.trans E2).trans (Ext.new _ hb)⟩⟩
  exact (Blk.new g2 b 165 [.slice t.p t.n t.c, .slice l.p l.n l.c]).all
end
theorem ovars_spec {h : Heap} {o : Addr} {p : List Int} (O : OrdR h o p) : Spec TP 118 #[.pointer (some o)] h fun v h' => v = .int .i64 (p.length : Nat) ∧ h' = h := by
  obtain ⟨v, l, H, S, -⟩ := O.ex
  refine f118_ok ?_
  unfold f118_sem
  refine pif_f rfl ?_
  rw [psome_some]
  exact ⟨_, H.cell0 rfl, by rw [S.len], rfl⟩
theorem ovar_spec {h : Heap} {o : Addr} {p : List Int} (O : OrdR h o p) {l : Int} : Spec TP 199 #[.pointer (some o), .int .i64 l] h fun v h' => v = .int .i64 (if 0 ≤ l then (p[l.toNat]?).getD (-1) else -1) ∧ h' = h := by
  have hp := O.perm.1
  obtain ⟨v, lv, H, S, -⟩ := O.ex
  refine f199_ok ?_
  unfold f199_sem
  refine pif_f rfl ?_
  rw [psome_some]
  exact ⟨_, H.cell0 rfl, (at_spec S (by have := S.len; omega)).ret ⟨_, rfl, rfl, rfl⟩⟩

theorem psame_spec {h : Heap} {n : Int} (h0 : 0 ≤ n) (h1 : n ≤ 16) : Spec TP 117 #[.int .i64 n] h fun v h' => (∃ t : Sl, v = .tuple #[.slice t.p t.n t.c, .bool true] ∧ SlR h' t 1 encI ((List.range n.toNat).map fun (i : Nat) => (i : Int))) ∧ Ext h h' := by
  refine f117_ok ?_
  unfold f117_sem
  refine pif_dec (fun h => by omega) fun _ => pif_dec (fun h => by omega) fun _ => ⟨⟨h0, Int.le_refl _, by omega, by decide⟩, fun b hb => ?_⟩
  have O0 : Own (h.new b (.cells (zrow [.int .i64 0] (n.toNat * 1)).toArray 3 (0, 0))) ⟨some (adr b), n.toNat, n.toNat⟩ 3 1 encI (List.replicate n.toNat 0) b := Own.make h b 3 (enc := encI) 0 rfl (fun _ => rfl) (by decide)
  have E0 : Ext h (h.new b (.cells (zrow [.int .i64 0] (n.toNat * 1)).toArray 3 (0, 0))) := Ext.new _ hb
  refine .by (fun st g => 0 ≤ st.1 ∧ st.1 ≤ n.toNat ∧ Ext h g ∧ ∃ l, Own g ⟨some (adr b), n.toNat, n.toNat⟩ 3 1 encI l b ∧ ∀ j : Nat, j < st.1.toNat → l[j]? = some (j : Int)) (fun st _ => (n.toNat - st.1).toNat) ⟨by simp, by dsimp only; omega, E0, _, O0, by simp⟩ ?_
  rintro ⟨i, _⟩ g ⟨hi0, hi1, E, l, O, hl⟩
  dsimp only at hi0 hi1 hl ⊢
  have hol := O.len
  dsimp only at hol
  refine pif_dec (fun hc => ?_) fun hc => ?_
  · rw [w64 (x := i + 1) (by omega)]
    refine ⟨hi0, by omega, O.canPut (by omega), ⟨by omega, by omega, (setChg _ _ _ _).extR E fun c hc => by rw [hc]; exact hb, _, O.put (i := i.toNat) (by omega) i, fun j hj => ?_⟩, by omega⟩
    rw [List.getElem?_set]
    split
    · rw [if_pos (by omega)]; congr 1; omega
    · exact hl j (by omega)
  · refine ⟨⟨⟨some (adr b), n.toNat, n.toNat⟩, rfl, ?_⟩, E⟩
    have : l = (List.range n.toNat).map fun (i : Nat) => (i : Int) := by
      apply List.ext_getElem?
      intro j
      rw [List.getElem?_map]
      by_cases hj : j < n.toNat
      · rw [hl j (by omega), List.getElem?_range hj]; rfl
      · rw [List.getElem?_eq_none (by omega), List.getElem?_eq_none (by simp; omega)]; rfl
    rw [← this]
    exact O.toR
theorem perm_self {n : Nat} (hn : n ≤ 16) : permB ((List.range n).map fun (i : Nat) => (i : Int)) := by
  refine ⟨by simpa using hn, fun x hx => ?_, ?_⟩
  · obtain ⟨i, hi, rfl⟩ := List.mem_map.1 hx
    have := List.mem_range.1 hi
    simp; omega
  · refine List.Pairwise.map _ ?_ List.nodup_range
    intro a b hab h
    exact hab (by omega)
theorem ordNew_spec {h : Heap} {n : Int} (h0 : 0 ≤ n) (h1 : n ≤ 16) : Spec TP 58 #[.int .i64 n] h fun v h' => (∃ o, v = .tuple #[.pointer (some o), .int .u8 0] ∧ OrdR h' o ((List.range n.toNat).map fun (i : Nat) => (i : Int))) ∧ Ext h h' := by
  refine f58_ok ?_
  unfold f58_sem
  refine (psame_spec h0 h1).mono ?_
  rintro v g1 ⟨⟨t, rfl, S⟩, E1⟩
  refine ⟨t, true, rfl, pif_f rfl ((ordOf_spec S (perm_self (by omega))).mono ?_)⟩
  rintro v g2 ⟨⟨o, rfl, O⟩, E2⟩
  exact ⟨some o, 0, rfl, ⟨o, rfl, O⟩, E1.trans E2⟩
end Go.Proofs.YtbeapoopomlgaaaGreat.Sx
