/- Contracts: the document's tables, and what is counted of them. -/
import Derived.Test.YtbeapoopomlgaaaGreatCp
import Derived.Test.YtbeapoopomlgaaaGreatPb
namespace Go.Proofs.YtbeapoopomlgaaaGreat.Sx
open Go Go.Proofs
open Go.IntKind (wrap)

theorem valI_nat (y v : Nat) : valI (y : Int) (v : Int) = ((y / 2 ^ v % 2 : Nat) : Int) := by
  unfold valI
  rw [Int.toNat_natCast, Int.natCast_emod, Int.natCast_ediv, Int.natCast_pow]
  rfl
theorem nat_beq1 (m : Nat) : (((m : Nat) : Int) == 1) = (m == 1) := by
  rw [Bool.eq_iff_iff, beq_iff_eq, beq_iff_eq]
  omega
theorem nat_bit {x k : Nat} (h : x < 2 ^ k) : x / 2 ^ k % 2 = 0 := by rw [Nat.div_eq_of_lt h]
theorem set_bit {x k b j : Nat} (hx : x < 2 ^ k) (hb : b < 2) (hj : j ≤ k) : (x + b * 2 ^ k) / 2 ^ j % 2 = if j = k then b else x / 2 ^ j % 2 := by
  split
  · rename_i h
    subst h
    rw [Nat.add_mul_div_right _ _ (Nat.two_pow_pos j), Nat.div_eq_of_lt hx]
    omega
  · obtain ⟨d, rfl⟩ : ∃ d, k = j + 1 + d := ⟨k - (j + 1), by omega⟩
    have e : b * 2 ^ (j + 1 + d) = 2 ^ j * (2 * (2 ^ d * b)) := by
      rw [Nat.pow_add, Nat.pow_succ, Nat.mul_comm b, Nat.mul_assoc, Nat.mul_assoc]
    rw [e, Nat.add_mul_div_left _ _ (Nat.two_pow_pos j)]
    omega

@[reducible] def encB (b : Bool) : List Value := [.bool b]
/-- what an edge means, as a table -/
abbrev tabE (get : Int → Option Rec) (n f : Int) (e : Edg) : List Bool := tabG (hold get f e 0) n.toNat

theorem table_spec {h : Heap} {a : Addr} {L : Nodes} {n room f : Int} {e : Edg} (G : Good (getL L) n) (R : RefR h a L n room) (he : e.ok) (O : HoldOK (getL L) n f e 0) :
    Spec TP 18 #[.pointer (some a), .int .u8 f, e.val, .int .i64 0] h fun v h' => ∃ t : Sl, v = .slice t.p t.n t.c ∧ SlR h' t 1 encB (tabE (getL L) n f e) ∧ Ext h h' := by
  have hv := G.vars
  obtain ⟨s, H, -, -⟩ := R.ex
  obtain ⟨N, hN⟩ : ∃ N : Nat, n = N := ⟨n.toNat, by omega⟩
  subst hN
  have hN16 : N ≤ 16 := by omega
  have hp : 2 ^ N ≤ 2 ^ 16 := Nat.pow_le_pow_right (by decide) hN16
  refine f18_ok ?_
  unfold f18_sem
  rw [psome_some]
  refine ⟨_, H.cell 3 rfl, ?_⟩
  rw [w64 (x := (N : Int) - 0) (by omega), Int.sub_zero]
  refine (size_spec (by omega)).ret ⟨_, rfl, ?_⟩
  have e2 : (2 : Int) ^ (N : Int).toNat = ((2 ^ N : Nat) : Int) := by rw [Int.toNat_natCast, Int.natCast_pow]; rfl
  rw [e2]
  have e3 : ((2 ^ N : Nat) : Int).toNat = 2 ^ N := Int.toNat_natCast _
  rw [e3]
  refine ⟨⟨by omega, Int.le_refl _, by omega, by decide⟩, fun b hb => ?_⟩
  have O0 : Own (h.new b (.cells (zrow [.bool false] (2 ^ N * 1)).toArray 4 (0, 0))) ⟨some (adr b), 2 ^ N, 2 ^ N⟩ 4 1 encB (List.replicate (2 ^ N) false) b := Own.make h b 4 (enc := encB) false rfl (fun _ => rfl) (by decide)
  have E0 : Ext h (h.new b (.cells (zrow [.bool false] (2 ^ N * 1)).toArray 4 (0, 0))) := Ext.new _ hb
  refine .by (fun st g => 0 ≤ st.1 ∧ st.1 ≤ (2 ^ N : Nat) ∧ Ext h g ∧ ∃ l, Own g ⟨some (adr b), 2 ^ N, 2 ^ N⟩ 4 1 encB l b ∧ ∀ j : Nat, j < st.1.toNat → l[j]? = some (hold (getL L) f e 0 (bitsY N j))) (fun st _ => (2 ^ N - st.1.toNat)) ⟨by simp, by dsimp only; omega, E0, _, O0, by simp⟩ ?_
  rintro ⟨y, _⟩ g ⟨hy0, hy1, E, l, Og, hl⟩
  dsimp only at hy0 hy1 hl ⊢
  have hol := Og.len
  dsimp only at hol
  refine pif_dec (fun hc => ?_) fun hc => ?_
  · obtain ⟨Y, rfl⟩ : ∃ Y : Nat, y = Y := ⟨y.toNat, by omega⟩
    rw [w64 (x := (N : Int) - 1) (by omega)]
    refine .by (fun st g' => g' = g ∧ ∃ x k : Nat, st.1 = x ∧ st.2.1 = k ∧ k ≤ N ∧ x < 2 ^ k ∧ ∀ j : Nat, j < k → x / 2 ^ j % 2 = Y / 2 ^ (N - 1 - j) % 2) (fun st _ => (N - st.2.1.toNat)) ⟨rfl, 0, 0, rfl, rfl, by omega, by simp, by simp⟩ ?_
    rintro ⟨x, k, _⟩ g' ⟨rfl, X, K, hx, hk, hk1, hx1, hxb⟩
    dsimp only at hx hk ⊢
    subst hx hk
    have hp2 : 2 ^ K ≤ 2 ^ N := Nat.pow_le_pow_right (by decide) hk1
    refine pif_dec (fun hk => ?_) fun hk => ?_
    · rw [w64 (x := (N : Int) - 1 - (K : Int)) (by omega), w64 (x := (0 : Int) + (K : Int)) (by omega), w64 (x := (K : Int) + 1) (by omega), Int.zero_add]
      have e4 : (N : Int) - 1 - (K : Int) = ((N - 1 - K : Nat) : Int) := by omega
      rw [e4]
      refine (value_spec (by omega) (by omega) (by omega)).ret ⟨_, rfl, (put_spec (by omega) (by omega) (by omega) (valI_01 _ _)).ret ⟨_, rfl, ?_⟩⟩
      rw [valI_nat, valI_nat X K, nat_bit hx1]
      have hb2 : Y / 2 ^ (N - 1 - K) % 2 < 2 := Nat.mod_lt _ (by decide)
      refine ⟨⟨rfl, X + Y / 2 ^ (N - 1 - K) % 2 * 2 ^ K, K + 1, ?_, by omega, by omega, ?_, fun j hj => ?_⟩, by omega⟩
      · rw [Int.toNat_natCast]
        push_cast
        simp
      · rw [Nat.pow_succ]
        have : Y / 2 ^ (N - 1 - K) % 2 * 2 ^ K ≤ 1 * 2 ^ K := Nat.mul_le_mul_right _ (by omega)
        omega
      · rw [set_bit hx1 hb2 (by omega)]
        split
        · rename_i h; rw [h]
        · exact hxb j (by omega)
    · have hKN : K = N := by omega
      subst hKN
      refine (holds_spec (x := (X : Int)) G (by omega) (by omega) K g' e 0 (R.ext E) he O (by omega)).ret ⟨_, rfl, hy0, hc, Og.canPut (by omega), ?_⟩
      have ebits : bitsI (X : Int) 0 (K : Int) = bitsY K Y := by
        apply List.ext_getElem?
        intro j
        by_cases hj : j < K
        · rw [bits_get (by omega), bitsY_get hj, Int.zero_add, valI_nat, hxb j hj, nat_beq1]
        · rw [List.getElem?_eq_none (by rw [bits_len]; omega), List.getElem?_eq_none (by rw [bitsY_len]; omega)]
      rw [ebits, w64 (x := (Y : Int) + 1) (by omega), Int.toNat_natCast]
      refine ⟨⟨by omega, by omega, (setChg _ _ _ _).extR E fun c hc => by rw [hc]; exact hb, _, Og.put (i := Y) (by omega) _, fun j hj => ?_⟩, by omega⟩
      rw [List.getElem?_set]
      split
      · rename_i h
        rw [if_pos (by omega), h]
      · exact hl j (by omega)
  · refine ⟨⟨some (adr b), 2 ^ N, 2 ^ N⟩, rfl, ?_, E⟩
    have : l = tabG (hold (getL L) f e 0) (N : Int).toNat := by
      rw [Int.toNat_natCast]
      apply List.ext_getElem?
      intro j
      unfold tabG
      rw [List.getElem?_map]
      by_cases hj : j < 2 ^ N
      · rw [hl j (by omega), List.getElem?_range hj]; rfl
      · rw [List.getElem?_eq_none (by omega), List.getElem?_eq_none (by simp; omega)]; rfl
    show SlR g _ 1 encB (tabG (hold (getL L) f e 0) (N : Int).toNat)
    rw [← this]
    exact Og.toR
end Go.Proofs.YtbeapoopomlgaaaGreat.Sx
