/- Contracts: counts, counts by 1s, ways. -/
import Derived.Test.YtbeapoopomlgaaaGreatCl
namespace Go.Proofs.YtbeapoopomlgaaaGreat.Sx
open Go Go.Proofs
open Go.IntKind (wrap)

/-! ### a block aside -/
def wo (h : Heap) (b : Nat) : Heap := fun c => if c = b then none else h c
theorem wo_new {g : Heap} {b : Nat} {o : Obj} (hg : g b = none) : wo (g.new b o) b = g := by
  funext c
  simp only [wo, Heap.new]
  split
  · subst_vars; exact hg.symm
  · rfl
theorem put_new (g : Heap) (b : Nat) (o : Obj) (i : Nat) (vs : List Value) : ∃ o', (g.new b o).put ((adr b).add i) vs = g.new b o' := by
  have hb : ((adr b).add i).block = b := by rw [add_block]
  refine ⟨((g.new b o).put ((adr b).add i) vs b).getD o, ?_⟩
  funext c
  by_cases hc : c = b
  · subst hc
    rw [new_at]
    simp only [Heap.put, hb, if_true, Heap.new]
    cases o <;> rfl
  · rw [new_ne hc, put_ne (by rw [hb]; exact hc), new_ne hc]
/-- what a call does not touch may be set aside -/
theorem Spec.aside {P : Program} {f : FuncId} {args : Array Value} {g : Heap} {K K' : Value → Heap → Prop} {b : Nat} {o : Obj} (hg : g b = none) (C : Spec P f args g K) (H : ∀ v g', K v g' → g' b = none → K' v (g'.new b o)) : Spec P f args (g.new b o) K' := by
  refine ⟨fun u hu => ?_⟩
  have hub := hu b o (new_at _ _ _)
  have hbs : b < u.heap.size := (Array.getElem?_eq_some_iff.1 hub).1
  have hgu : ∀ c p, g c = some p → u.heap[c]? = some p := fun c p hc => hu c p (by
    rw [new_ne (by rintro rfl; rw [hg] at hc; cases hc)]; exact hc)
  refine (C.run u hgu).mono ?_
  rintro e u' ⟨v, g', e1, e2, F⟩
  have hb' : g' b = none := by
    cases hx : g' b with
    | none => rfl
    | some p =>
      rcases F.dom b p hx with h | h
      · exact absurd hg h
      · omega
  refine ⟨v, g'.new b o, e1, H v g' e2 hb', ?_, F.size, ?_, ?_, F.os, F.out⟩
  · intro c p hc
    by_cases h : c = b
    · subst h
      rw [new_at] at hc; cases hc
      rw [F.frame c hbs hg]; exact hub
    · rw [new_ne h] at hc
      exact F.heap c p hc
  · intro c hcs hc
    by_cases h : c = b
    · subst h; rw [new_at] at hc; cases hc
    · rw [new_ne h] at hc
      exact F.frame c hcs hc
  · intro c p hc
    by_cases h : c = b
    · subst h; left; rw [new_at]; simp
    · rw [new_ne h] at hc
      rcases F.dom c p hc with h1 | h1
      · left; rw [new_ne h]; exact h1
      · exact .inr h1

@[reducible] def encSl (t : Sl) : List Value := [.slice t.p t.n t.c]

theorem same_spec' {h : Heap} {x k : Int} (hk : 0 ≤ k) (hk1 : k ≤ 1000) : Spec TP 63 #[.int .u64 x, .int .i64 k] h fun v h' => ∃ t : Sl, v = .slice t.p t.n t.c ∧ SlR h' t 1 encW (List.replicate k.toNat x) ∧ Ext h h' := by
  refine f63_ok ?_
  unfold f63_sem
  refine ⟨⟨hk, Int.le_refl _, by omega, by decide⟩, fun b hb => ?_⟩
  have O0 : Own (h.new b (.cells (zrow [.int .u64 0] (k.toNat * 1)).toArray 46 (0, 0))) ⟨some (adr b), k.toNat, k.toNat⟩ 46 1 encW (List.replicate k.toNat 0) b := Own.make h b 46 (enc := encW) 0 rfl (fun _ => rfl) (by decide)
  have E0 : Ext h (h.new b (.cells (zrow [.int .u64 0] (k.toNat * 1)).toArray 46 (0, 0))) := Ext.new _ hb
  refine .by (fun st g => 0 ≤ st.1 ∧ st.1 ≤ k.toNat ∧ Ext h g ∧ ∃ l, Own g ⟨some (adr b), k.toNat, k.toNat⟩ 46 1 encW l b ∧ ∀ j, j < st.1.toNat → l[j]? = some x) (fun st _ => (k.toNat - st.1).toNat) ⟨by simp, by dsimp only; omega, E0, _, O0, by simp⟩ ?_
  rintro ⟨i, _⟩ g ⟨hi0, hi1, E, l, O, hl⟩
  dsimp only at hi0 hi1 hl ⊢
  have hol := O.len
  dsimp only at hol
  refine pif_dec (fun hc => ?_) fun hc => ?_
  · rw [w64 (x := i + 1) (by omega)]
    refine ⟨hi0, by omega, O.canPut (by omega), ⟨by omega, by omega, (setChg _ _ _ _).extR E fun c hc => by rw [hc]; exact hb, _, O.put (i := i.toNat) (by omega) x, fun j hj => ?_⟩, by omega⟩
    rw [List.getElem?_set]
    split
    · rw [if_pos (by omega)]
    · exact hl j (by omega)
  · refine ⟨⟨some (adr b), k.toNat, k.toNat⟩, rfl, ?_, E⟩
    have : l = List.replicate k.toNat x := by
      apply List.ext_getElem?
      intro j
      rw [List.getElem?_replicate]
      split
      · exact hl j (by omega)
      · exact List.getElem?_eq_none (by omega)
    rw [← this]
    exact O.toR

theorem numbers_spec {h : Heap} {s : Sl} {ws : List Int} (S : SlR h s 1 encW ws) (ow : WOK ws) (hl : ws.length ≤ 1000) : Spec TP 128 #[.slice s.p s.n s.c] h fun v h' => ∃ t : Sl, v = .slice t.p t.n t.c ∧ NumsR h' t (ws.map Int.toNat) ∧ Ext h h' := by
  have e1 := S.len
  refine f128_ok ?_
  unfold f128_sem
  have em : (((s.n : Nat) : Int)).toNat = s.n := by omega
  rw [em]
  refine ⟨⟨by omega, Int.le_refl _, by omega, by decide⟩, fun b hb => ?_⟩
  have O0 : Own (h.new b (.cells (zrow [.slice none 0 0] (s.n * 1)).toArray 32 (0, 0))) ⟨some (adr b), s.n, s.n⟩ 32 1 encSl (List.replicate s.n ⟨none, 0, 0⟩) b := Own.make h b 32 (enc := encSl) ⟨none, 0, 0⟩ rfl (fun _ => rfl) (by decide)
  refine .by (fun st g => 0 ≤ st.1 ∧ st.1 ≤ s.n ∧ ∃ g0 o, g = g0.new b o ∧ g0 b = none ∧ Ext h g0 ∧ ∃ ts, Own g ⟨some (adr b), s.n, s.n⟩ 32 1 encSl ts b ∧ ∀ j x, j < st.1.toNat → ws[j]? = some x → ∃ t, ts[j]? = some t ∧ NatR g0 t x.toNat) (fun st _ => (s.n - st.1).toNat) ⟨by simp, by simp, h, _, rfl, hb, Ext.refl _, _, O0, by simp⟩ ?_
  rintro ⟨i, _⟩ g ⟨hi0, hi1, g0, o, rfl, hg0, E, ts, O, ht⟩
  dsimp only at hi0 hi1 ht ⊢
  have hol := O.len
  dsimp only at hol
  refine pif_dec (fun hc => ?_) fun hc => ?_
  · have hil : i.toNat < ws.length := by omega
    have hg := List.getElem?_eq_getElem hil
    have hw := ow _ (List.getElem_mem hil)
    refine ((S.ext E).ext (Ext.new _ hg0)).read hi0 hg fun a ha => ⟨_, ha, Spec.aside hg0 (natOf_spec hw.1 hw.2) ?_⟩
    rintro v g1 ⟨t, rfl, N, E1⟩ hg1
    have O1 : Own (g1.new b o) ⟨some (adr b), s.n, s.n⟩ 32 1 encSl ts b := by
      refine ⟨O.p, O.n, O.cap, O.esz, ?_⟩
      obtain ⟨junk, q1, q2⟩ := O.row
      refine ⟨junk, q1, ⟨?_⟩⟩
      rw [new_at, ← q2.row, new_at]
    have O2 := O1.put (i := i.toNat) (by omega) t
    obtain ⟨o', ho'⟩ := put_new g1 b o (i.toNat * 1) [.slice t.p t.n t.c]
    rw [ho'] at O2
    refine ⟨t, rfl, hi0, by omega, O1.canPut (by omega), ?_⟩
    rw [ho', w64 (x := i + 1) (by omega)]
    refine ⟨⟨by omega, by omega, g1, o', rfl, hg1, E.trans E1, _, O2, fun j x hj hx => ?_⟩, by omega⟩
    rw [List.getElem?_set]
    split
    · rename_i hij
      subst hij
      rw [hg] at hx; cases hx
      exact ⟨t, by rw [if_pos (by omega)], N⟩
    · obtain ⟨t', q1, q2⟩ := ht j x (by omega) hx
      exact ⟨t', q1, q2.ext E1⟩
  · refine ⟨⟨some (adr b), s.n, s.n⟩, rfl, ⟨by simp [e1], fun j y hy => ?_⟩, E.trans (Ext.new _ hg0)⟩
    rw [List.getElem?_map] at hy
    cases hx : ws[j]? with
    | none => rw [hx] at hy; cases hy
    | some x =>
      rw [hx] at hy; cases hy
      have hj := (List.getElem?_eq_some_iff.1 hx).1
      obtain ⟨t, q1, q2⟩ := ht j x (by omega) hx
      obtain ⟨a, q3, q4⟩ := O.toR.at_ j t q1
      exact ⟨a, t, q3, q4, q2.ext (Ext.new _ hg0)⟩

theorem mayE_ok {get : Int → Option Rec} {n f : Int} {e : Edg} {l : Int} (h : mayE get n f e l = 0) : leadsB get n f e l := by
  unfold mayE at h
  by_cases hl : leadsB get n f e l
  · exact hl
  · rw [if_pos hl] at h
    split at h
    · cases h
    · split at h <;> cases h

theorem weigh_spec {h : Heap} {a : Addr} {cells : Cells} {n cnt room f : Int} {e : Edg} {lo hi : Sl} {c : Nat} (R : StR h a cells n cnt room) (G : Good (getC cells) n) (he : e.ok) (hM : cells.length < 1000000000)
    (SL : SlR h lo 1 encW (List.replicate n.toNat 1)) (SH : SlR h hi 1 encW (List.replicate n.toNat (c : Int))) (hc : c ≤ 1048576) :
    Spec TP 65 #[.pointer (some a), .int .u8 f, e.val, .slice lo.p lo.n lo.c, .slice hi.p hi.n hi.c] h fun v h' => ∃ t : Sl, v = .tuple #[.slice t.p t.n t.c, .int .u8 (mayE (getC cells) n f e 0)] ∧ (mayE (getC cells) n f e 0 ≠ 0 → t = ⟨none, 0, 0⟩) ∧
      (mayE (getC cells) n f e 0 = 0 → NatR h' t (edgeW (getC cells) n f c e 0)) ∧ Ext h h' := by
  have hv := G.vars
  have l1 := SL.len
  have l2 := SH.len
  simp only [List.length_replicate] at l1 l2
  refine f65_ok ?_
  unfold f65_sem
  refine (mmay_spec R G he hM).ret ⟨_, rfl, pif_split (fun h0 => ?_) fun h0 => ?_⟩
  · simp only [bne_iff_ne, ne_eq] at h0
    exact ⟨⟨none, 0, 0⟩, rfl, fun _ => rfl, fun h => absurd h h0, Ext.refl _⟩
  simp only [bne_eq_false_iff_eq] at h0
  have L := mayE_ok h0
  refine (svars_spec R).ret ⟨_, rfl, pif_f (by simp; omega) ((svars_spec R).ret ⟨_, rfl, pif_f (by simp; omega) ?_⟩)⟩
  refine (numbers_spec SL (fun w hw => by rw [List.mem_replicate] at hw; omega) (by simp; omega)).mono ?_
  rintro v g1 ⟨s1, rfl, N1, E1⟩
  refine ⟨s1, rfl, (numbers_spec (SH.ext E1) (fun w hw => by rw [List.mem_replicate] at hw; omega) (by simp; omega)).mono ?_⟩
  rintro v g2 ⟨s2, rfl, N2, E2⟩
  refine ⟨s2, rfl, fun m hm b hb => ?_⟩
  have E02 := E1.trans E2
  have hmb : m ≠ b := by rintro rfl; rw [new_at] at hb; cases hb
  have hbg2 : g2 b = none := by rw [new_ne (Ne.symm hmb)] at hb; exact hb
  have E3 : Ext g2 (g2.new m (.map #[] 0)) := Ext.new _ hm
  have E4 : Ext (g2.new m (.map #[] 0)) ((g2.new m (.map #[] 0)).new b (.cells #[.pointer none, .int .u8 0, .slice none 0 0, .slice none 0 0, .map none] 205)) := Ext.new _ hb
  have B0 : Blk ((g2.new m (.map #[] 0)).new b (.cells #[.pointer none, .int .u8 0, .slice none 0 0, .slice none 0 0, .map none] 205)) b 205 [.pointer none, .int .u8 0, .slice none 0 0, .slice none 0 0, .map none] := Blk.new _ _ _ _
  have hm0 : ((g2.new m (.map #[] 0)).new b (.cells #[.pointer none, .int .u8 0, .slice none 0 0, .slice none 0 0, .map none] 205)) m = some (.map #[] 0) := by rw [new_ne hmb, new_at]
  have E24 := E3.trans E4
  generalize (g2.new m (.map #[] 0)).new b (.cells #[.pointer none, .int .u8 0, .slice none 0 0, .slice none 0 0, .map none] 205) = g4 at B0 hm0 E24 ⊢
  refine ⟨B0.canPut rfl rfl (by simp), ?_⟩
  have C5 : Chg g4 (g4.put (adr b) [.pointer (some a), .int .u8 f, .slice s1.p s1.n s1.c, .slice s2.p s2.n s2.c, .map (some m)]) fun c => c = b := put_chg _ _ _
  have e5 := B0.put (p := adr b) (ws := [.pointer (some a), .int .u8 f, .slice s1.p s1.n s1.c, .slice s2.p s2.n s2.c, .map (some m)]) rfl (by simp)
  have H5 : Has (g4.put (adr b) [.pointer (some a), .int .u8 f, .slice s1.p s1.n s1.c, .slice s2.p s2.n s2.c, .map (some m)]) (adr b) [.pointer (some a), .int .u8 f, .slice s1.p s1.n s1.c, .slice s2.p s2.n s2.c, .map (some m)] := by
    rw [e5]
    exact (Blk.new _ _ _ _).all
  have E5 : Ext g2 (g4.put (adr b) [.pointer (some a), .int .u8 f, .slice s1.p s1.n s1.c, .slice s2.p s2.n s2.c, .map (some m)]) := C5.extR E24 fun c hc => by rw [hc]; exact hbg2
  have hm5 := C5 m _ hm0 hmb
  generalize g4.put (adr b) [.pointer (some a), .int .u8 f, .slice s1.p s1.n s1.c, .slice s2.p s2.n s2.c, .map (some m)] = g5 at C5 H5 E5 hm5 ⊢
  have E05 := E02.trans E5
  have e6 : (List.replicate n.toNat (1 : Int)).map Int.toNat = List.replicate n.toNat 1 := by simp
  have e7 : (List.replicate n.toNat (c : Int)).map Int.toNat = List.replicate n.toNat c := by simp
  rw [e6] at N1
  rw [e7] at N2
  have hm0g : h m = none := E02.fresh hm
  refine (medge_spec G hc (n.toNat + 1) g5 e 0 (R.ext E05) ⟨s1, s2, H5, (N1.keep E2.keep).keep E5.keep, N2.keep E5.keep⟩ ⟨#[], 0, hm5, by simp⟩ he L (by omega)).mono ?_
  rintro v g6 ⟨t, rfl, N, -, C6⟩
  have E6 : Ext h g6 := C6.extR E05 fun c hc => by rw [hc]; exact hm0g
  obtain ⟨hcap, ws, S, nw, ow, hval⟩ := N
  have hlt := pow_big (k := n.toNat) hc (by omega)
  have hle := edgeW_le (get := getC cells) (n := n) (f := f) c e 0
  have lw := len_le nw ow 64 (by rw [hval]; have : (n - 0).toNat = n.toNat := by omega
                                 rw [this] at hle; omega)
  refine ⟨t, rfl, (norm_spec S (by omega) hcap).mono ?_⟩
  rintro v g7 ⟨t', rfl, O, E7⟩
  have := O.natR ow
  rw [hval] at this
  exact ⟨t', rfl, t', by rw [h0], fun h => absurd h0 h, fun _ => this, E6.trans E7⟩

/-- Count -/
theorem count_spec {h : Heap} {a : Addr} {cells : Cells} {n cnt room f : Int} {e : Edg} (R : StR h a cells n cnt room) (G : Good (getC cells) n) (he : e.ok) (hM : cells.length < 1000000000) :
    Spec TP 12 #[.pointer (some a), .int .u8 f, e.val] h fun v h' => ∃ t : Sl, v = .tuple #[.slice t.p t.n t.c, .int .u8 (mayE (getC cells) n f e 0)] ∧ (mayE (getC cells) n f e 0 ≠ 0 → t = ⟨none, 0, 0⟩) ∧
      (mayE (getC cells) n f e 0 = 0 → NatR h' t (edgeW (getC cells) n f 1 e 0)) ∧ Ext h h' := by
  have hv := G.vars
  refine f12_ok ?_
  unfold f12_sem
  refine (svars_spec R).ret ⟨_, rfl, (same_spec' hv.1 (by omega)).mono ?_⟩
  rintro v g1 ⟨t1, rfl, S1, E1⟩
  refine ⟨t1, rfl, (weigh_spec (c := 1) (R.ext E1) G he hM S1 S1 (by decide)).mono ?_⟩
  rintro v g2 ⟨t, rfl, h1, h2, E2⟩
  exact ⟨t, _, rfl, t, rfl, h1, h2, E1.trans E2⟩
end Go.Proofs.YtbeapoopomlgaaaGreat.Sx
