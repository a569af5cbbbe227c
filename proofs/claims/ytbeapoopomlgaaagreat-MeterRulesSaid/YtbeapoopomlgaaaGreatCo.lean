/- Contracts: depth, ways, nodes by levels, of both sides. -/
import Derived.Test.YtbeapoopomlgaaaGreatCn
namespace Go.Proofs.YtbeapoopomlgaaaGreat.Sx
open Go Go.Proofs
open Go.IntKind (wrap)

theorem new_comm {h : Heap} {b c : Nat} {o p : Obj} (hbc : b ≠ c) : (h.new b o).new c p = (h.new c p).new b o := by
  funext d
  simp only [Heap.new]
  by_cases h1 : d = c
  · subst h1; rw [if_pos rfl, if_neg (Ne.symm hbc), if_pos rfl]
  · rw [if_neg h1, if_neg h1]

theorem walk_start {h : Heap} {a : Addr} {cells : Cells} {n cnt room : Int} {e : Edg} (R : StR h a cells n cnt room) (G : Good (getC cells) n) (he : e.ok) {f : Int} (L : leadsB (getC cells) n f e 0) {K : Value → Heap → Prop}
    (H : ∀ g, Ext h g → K (.agg #[.int .i64 (depI (getC cells) e.a), .int .i64 (wayI (getC cells) e.a)]) g) :
    ∀ b18, h b18 = none → ∀ b9, (Heap.new h b18 (.map #[] 0)) b9 = none → CanPut (Heap.new (Heap.new h b18 (.map #[] 0)) b9 (.cells #[.pointer none, .map none] 134)) (adr b9) 2 ∧
      Spec TP 70 #[.pointer (some (adr b9)), .agg #[.int .u8 e.t, .int .u32 e.a]] (Heap.put (Heap.new (Heap.new h b18 (.map #[] 0)) b9 (.cells #[.pointer none, .map none] 134)) (adr b9) [.pointer (some a), .map (some b18)]) K := by
  intro m hm b hb
  have hmb : m ≠ b := by rintro rfl; rw [new_at] at hb; cases hb
  have hbh : h b = none := by rw [new_ne (Ne.symm hmb)] at hb; exact hb
  have E4 : Ext h ((h.new m (.map #[] 0)).new b (.cells #[.pointer none, .map none] 134)) := (Ext.new _ hm).trans (Ext.new _ hb)
  have B0 : Blk ((h.new m (.map #[] 0)).new b (.cells #[.pointer none, .map none] 134)) b 134 [.pointer none, .map none] := Blk.new _ _ _ _
  have hm0 : ((h.new m (.map #[] 0)).new b (.cells #[.pointer none, .map none] 134)) m = some (.map #[] 0) := by rw [new_ne hmb, new_at]
  generalize (h.new m (.map #[] 0)).new b (.cells #[.pointer none, .map none] 134) = g4 at B0 hm0 E4 ⊢
  refine ⟨B0.canPut rfl rfl (by simp), ?_⟩
  have C5 : Chg g4 (g4.put (adr b) [.pointer (some a), .map (some m)]) fun c => c = b := put_chg _ _ _
  have e5 := B0.put (p := adr b) (ws := [.pointer (some a), .map (some m)]) rfl (by simp)
  have H5 : Has (g4.put (adr b) [.pointer (some a), .map (some m)]) (adr b) [.pointer (some a), .map (some m)] := by
    rw [e5]
    exact (Blk.new _ _ _ _).all
  have E5 : Ext h (g4.put (adr b) [.pointer (some a), .map (some m)]) := C5.extR E4 fun c hc => by rw [hc]; exact hbh
  have hm5 := C5 m _ hm0 hmb
  generalize g4.put (adr b) [.pointer (some a), .map (some m)] = g5 at H5 E5 hm5 ⊢
  have hv := G.vars
  refine (from_spec G 16 g5 e (Nat.le_refl _) (R.ext E5) H5 ⟨#[], 0, hm5, by simp⟩ he (lead_id G L) fun r hr => ?_).mono ?_
  · have := (G.ok _ _ hr).1.t0
    omega
  · rintro v g6 ⟨rfl, -, C6⟩
    exact H g6 (C6.extR E5 fun c hc => by rw [hc]; exact hm)

section
variable {h : Heap} {a : Addr} {cells : Cells} {n cnt room f : Int} {e : Edg}
theorem depth_spec (R : StR h a cells n cnt room) (G : Good (getC cells) n) (he : e.ok) (hM : cells.length < 1000000000) :
    Spec TP 15 #[.pointer (some a), .int .u8 f, e.val] h fun v h' => v = .tuple #[.int .i64 (if mayE (getC cells) n f e 0 = 0 then depI (getC cells) e.a else 0), .int .u8 (mayE (getC cells) n f e 0)] ∧ h' = h := by
  refine Spec.mono (Spec.pure (Q := fun v => v = .tuple #[.int .i64 (if mayE (getC cells) n f e 0 = 0 then depI (getC cells) e.a else 0), .int .u8 (mayE (getC cells) n f e 0)]) (f15_ok ?_)) fun _ _ h => h
  unfold f15_sem
  refine (mmay_spec R G he hM).ret ⟨_, rfl, pif_split (fun h0 => ?_) fun h0 => ?_⟩
  · simp only [bne_iff_ne, ne_eq] at h0
    rw [if_neg h0]
    exact ⟨rfl, Ext.refl _⟩
  simp only [bne_eq_false_iff_eq] at h0
  rw [if_pos h0, h0]
  exact walk_start R G he (mayE_ok h0) fun g E => ⟨_, _, rfl, rfl, E⟩
theorem ways_spec (R : StR h a cells n cnt room) (G : Good (getC cells) n) (he : e.ok) (hM : cells.length < 1000000000) :
    Spec TP 16 #[.pointer (some a), .int .u8 f, e.val] h fun v h' => v = .tuple #[.int .i64 (if mayE (getC cells) n f e 0 = 0 then wayI (getC cells) e.a else 0), .int .u8 (mayE (getC cells) n f e 0)] ∧ h' = h := by
  refine Spec.mono (Spec.pure (Q := fun v => v = .tuple #[.int .i64 (if mayE (getC cells) n f e 0 = 0 then wayI (getC cells) e.a else 0), .int .u8 (mayE (getC cells) n f e 0)]) (f16_ok ?_)) fun _ _ h => h
  unfold f16_sem
  refine (mmay_spec R G he hM).ret ⟨_, rfl, pif_split (fun h0 => ?_) fun h0 => ?_⟩
  · simp only [bne_iff_ne, ne_eq] at h0
    rw [if_neg h0]
    exact ⟨rfl, Ext.refl _⟩
  simp only [bne_eq_false_iff_eq] at h0
  rw [if_pos h0, h0]
  exact walk_start R G he (mayE_ok h0) fun g E => ⟨_, _, rfl, rfl, E⟩
end

/-! ### nodes by levels -/
def topIs (get : Int → Option Rec) (k : Nat) (x : Int) : Bool := match get x with
  | some r => r.tp == (k : Int)
  | none => false
def profL (get : Int → Option Rec) (n : Nat) (M : List Int) : List Int := (List.range n).map fun k => ((M.countP (topIs get k) : Nat) : Int)
theorem prof_perm {get : Int → Option Rec} {n : Nat} {M M' : List Int} (p : M'.Perm M) : profL get n M' = profL get n M := by
  unfold profL
  congr 1
  funext k
  rw [p.countP_eq]
theorem prof_get {get : Int → Option Rec} {n k : Nat} {M : List Int} (h : k < n) : (profL get n M)[k]? = some ((M.countP (topIs get k) : Nat) : Int) := by
  unfold profL
  rw [List.getElem?_map, List.getElem?_range h]; rfl
theorem prof_snoc {get : Int → Option Rec} {n : Nat} {M : List Int} {x : Int} {r : Rec} (hx : get x = some r) (h0 : 0 ≤ r.tp) : profL get n (M ++ [x]) = (profL get n M).set r.tp.toNat (((M.countP (topIs get r.tp.toNat) : Nat) : Int) + 1) := by
  apply List.ext_getElem?
  intro k
  by_cases hk : k < n
  · rw [prof_get hk, List.getElem?_set]
    have ht : topIs get k x = decide (r.tp.toNat = k) := by
      unfold topIs
      rw [hx]
      simp only
      by_cases h : r.tp.toNat = k
      · have e : r.tp = (k : Int) := by omega
        simp [e]
      · have e : r.tp ≠ (k : Int) := by omega
        simp [h, e]
    rw [List.countP_append, List.countP_singleton, ht]
    by_cases h : r.tp.toNat = k
    · subst h
      have hlen : r.tp.toNat < (profL get n M).length := by unfold profL; rw [List.length_map, List.length_range]; exact hk
      rw [if_pos rfl, if_pos hlen]
      simp
    · rw [if_neg h, prof_get hk]
      simp [h]
  · rw [List.getElem?_eq_none (by simp [profL]; omega), List.getElem?_eq_none (by simp [profL]; omega)]
theorem prof_nil (get : Int → Option Rec) (n : Nat) : profL get n [] = List.replicate n 0 := by
  unfold profL
  apply List.ext_getElem?
  intro k
  rw [List.getElem?_map, List.getElem?_replicate]
  by_cases hk : k < n
  · rw [List.getElem?_range hk, if_pos hk]; rfl
  · rw [List.getElem?_eq_none (by simp; omega), if_neg hk]; rfl

theorem profile_spec {h : Heap} {a : Addr} {cells : Cells} {n cnt room f : Int} {e : Edg} (R : StR h a cells n cnt room) (G : Good (getC cells) n) (he : e.ok) (hM : cells.length < 1000000000) :
    Spec TP 14 #[.pointer (some a), .int .u8 f, e.val] h fun v h' => ∃ t : Sl, v = .tuple #[.slice t.p t.n t.c, .int .u8 (mayE (getC cells) n f e 0)] ∧ (mayE (getC cells) n f e 0 ≠ 0 → t = ⟨none, 0, 0⟩) ∧
      (mayE (getC cells) n f e 0 = 0 → ∃ M, Closed (getC cells) [e] M ∧ SlR h' t 1 encI (profL (getC cells) n.toNat M)) ∧ Ext h h' := by
  have hv := G.vars
  refine f14_ok ?_
  unfold f14_sem
  refine (mmay_spec R G he hM).ret ⟨_, rfl, pif_split (fun h0 => ?_) fun h0 => ?_⟩
  · simp only [bne_iff_ne, ne_eq] at h0
    exact ⟨⟨none, 0, 0⟩, rfl, fun _ => rfl, fun h => absurd h h0, Ext.refl _⟩
  simp only [bne_eq_false_iff_eq] at h0
  refine (svars_spec R).ret ⟨_, rfl, ⟨by omega, Int.le_refl _, by omega, by decide⟩, fun b hb b2 hb2 => ?_⟩
  have hbb : b ≠ b2 := by rintro rfl; rw [new_at] at hb2; cases hb2
  have hb2h : h b2 = none := by rw [new_ne (Ne.symm hbb)] at hb2; exact hb2
  have O0 : Own (h.new b (.cells (zrow [.int .i64 0] (n.toNat * 1)).toArray 3 (0, 0))) ⟨some (adr b), n.toNat, n.toNat⟩ 3 1 encI (List.replicate n.toNat 0) b := Own.make h b 3 (enc := encI) 0 rfl (fun _ => rfl) (by decide)
  rw [new_comm hbb]
  have E2 : Ext h (h.new b2 (.cells #[.int .u8 e.t, .int .u32 e.a] 25)) := Ext.new _ hb2h
  have B2 : Blk (h.new b2 (.cells #[.int .u8 e.t, .int .u32 e.a] 25)) b2 25 e.vals := Blk.new _ _ _ _
  have hbg : (h.new b2 (.cells #[.int .u8 e.t, .int .u32 e.a] 25)) b = none := by rw [new_ne hbb]; exact hb
  generalize h.new b2 (.cells #[.int .u8 e.t, .int .u32 e.a] 25) = g2 at E2 B2 hbg ⊢
  refine Spec.aside hbg (reach_spec (s := ⟨some (adr b2), 1, 1⟩) (es := [e]) (R.ext E2) G ⟨rfl, fun i x hi => ?_⟩ (by simpa using he) (by simp) hM) ?_
  · cases i with
    | zero => cases hi; exact ⟨_, rfl, B2.all⟩
    | succ i => simp at hi
  rintro v g3 ⟨t, M, rfl, S, C, hMl, E3⟩ hbg3
  have hSl := S.len
  refine ⟨t, rfl, ?_⟩
  refine .by (fun st g => 0 ≤ st.1 ∧ st.1 ≤ M.length ∧ ∃ o, g = g3.new b o ∧ Own g ⟨some (adr b), n.toNat, n.toNat⟩ 3 1 encI (profL (getC cells) n.toNat (M.take st.1.toNat)) b) (fun st _ => (M.length - st.1).toNat) ⟨by simp, by simp, _, rfl, ?_⟩ ?_
  · rw [show ((0 : Int), ()).1.toNat = 0 from rfl, List.take_zero, prof_nil]
    exact O0.new_
  rintro ⟨i, _⟩ g ⟨hi0, hi1, o, rfl, O⟩
  dsimp only at hi0 hi1 O ⊢
  have hol := O.len
  dsimp only at hol
  have E03 : Ext h (g3.new b o) := (E2.trans E3).trans (Ext.new _ hbg3)
  refine pif_dec (fun hc => ?_) fun hc => ?_
  · have hil : i.toNat < M.length := by omega
    have hg := List.getElem?_eq_getElem hil
    obtain ⟨r, hr, -⟩ := C.cl _ (List.getElem_mem hil)
    have hid := G.ids _ _ hr
    obtain ⟨rok, rr, -, -⟩ := G.ok _ _ hr
    simp only [rightB] at rr
    have h0 := rok.t0
    refine (S.ext (Ext.new _ hbg3)).read hi0 hg fun q hq => ⟨_, hq, (sget_spec (R.ext E03) (by omega) hid.2).ret ?_⟩
    rw [hr, show (some r).getD rec0 = r from rfl]
    have hpl : r.tp.toNat < (profL (getC cells) n.toNat (M.take i.toNat)).length := by simp [profL]; omega
    have hpg := prof_get (get := getC cells) (n := n.toNat) (k := r.tp.toNat) (M := M.take i.toNat) (by omega)
    have hcl : (M.take i.toNat).countP (topIs (getC cells) r.tp.toNat) ≤ M.length := Nat.le_trans List.countP_le_length (by simp; omega)
    refine ⟨_, _, _, _, _, _, _, _, rfl, pif_t rfl ⟨h0, by omega, (((M.take i.toNat).countP (topIs (getC cells) r.tp.toNat) : Nat) : Int), ?_, h0, by omega, O.canPut hpl, ?_⟩⟩
    · obtain ⟨a', q1, q2⟩ := O.toR.at_ _ _ hpg
      cases q1; exact q2
    · have O2 := O.put hpl (((M.take i.toNat).countP (topIs (getC cells) r.tp.toNat) : Nat) + 1 : Int)
      rw [w64 (x := i + 1) (by omega), w64 (x := (((M.take i.toNat).countP (topIs (getC cells) r.tp.toNat) : Nat) : Int) + 1) (by omega)]
      obtain ⟨o', ho'⟩ := put_new g3 b o (r.tp.toNat * 1) [.int .i64 ((((M.take i.toNat).countP (topIs (getC cells) r.tp.toNat) : Nat) : Int) + 1)]
      have ei : (i + 1).toNat = i.toNat + 1 := by omega
      refine ⟨⟨by omega, by omega, o', ho', ?_⟩, by omega⟩
      rw [ei, List.take_succ_eq_append_getElem hil, prof_snoc hr h0]
      exact O2
  · have ei : i.toNat = M.length := by omega
    rw [ei, List.take_length] at O
    exact ⟨⟨some (adr b), n.toNat, n.toNat⟩, by rw [h0], fun h => absurd h0 h, fun _ => ⟨M, C, O.toR⟩, E03⟩
/-! ### lists of numbers -/
theorem elI : ElemOK 3 1 := elemOK (by kernel_rfl)
theorem encI_one (x : Int) : ∀ v ∈ encI x, v.oneCell' = true := by
  intro v hv; simp only [encI, List.mem_singleton] at hv; subst hv; rfl
theorem nat_beq1 (m : Nat) : (((m : Nat) : Int) == 1) = (m == 1) := by
  rw [Bool.eq_iff_iff, beq_iff_eq, beq_iff_eq]
  omega
theorem ints_spec {h : Heap} {s t : Sl} {l : List Int} (S : SlR h s 1 encI l) (T : SlR h t 1 encI l) (hl : l.length < 1000000) : Spec TP 22 #[.slice s.p s.n s.c, .slice t.p t.n t.c] h fun v h' => v = .bool true ∧ h' = h := by
  have h1 := S.len
  have h2 := T.len
  refine f22_ok ?_
  unfold f22_sem
  refine pif_f (by simp; omega) ?_
  refine .by (fun st g => g = h ∧ 0 ≤ st.1 ∧ st.1 ≤ l.length) (fun st _ => (l.length - st.1).toNat) ⟨rfl, by simp, by simp⟩ ?_
  rintro ⟨i, _⟩ g ⟨rfl, hi0, hi1⟩
  dsimp only at hi0 hi1 ⊢
  refine pif_dec (fun hc => ?_) fun hc => ⟨rfl, rfl⟩
  have hg := List.getElem?_eq_getElem (l := l) (i := i.toNat) (by omega)
  refine S.read hi0 hg fun a ha => ⟨_, ha, T.read hi0 hg fun a' ha' => ⟨_, ha', pif_f (by simp) ?_⟩⟩
  rw [w64 (by omega)]
  exact ⟨⟨rfl, by omega, by omega⟩, by omega⟩
@[reducible] def encB (b : Bool) : List Value := [.bool b]
end Go.Proofs.YtbeapoopomlgaaaGreat.Sx
