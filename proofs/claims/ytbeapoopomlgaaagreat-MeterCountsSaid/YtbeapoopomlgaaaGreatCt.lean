/- Contracts: nodes by levels in the document's store; digits. -/
import Derived.Test.YtbeapoopomlgaaaGreatCs
namespace Go.Proofs.YtbeapoopomlgaaaGreat.Sx
open Go Go.Proofs
open Go.IntKind (wrap)

theorem rprofile_spec {h : Heap} {a : Addr} {l : List Rec} {n room : Int} {e : Edg} (R : RefR h a (nodesOf l) n room) (G : Good (recAt l) n) (hl : l.length < 1000000) :
    Spec TP 24 #[.pointer (some a), e.val] h fun v h' => (∃ (t : Sl) (M : List Int), v = .slice t.p t.n t.c ∧ Closed (recAt l) [e] M ∧ SlR h' t 1 encI (profL (recAt l) n.toNat M)) ∧ Ext h h' := by
  have hv := G.vars
  obtain ⟨ns, H, N, -⟩ := R.ex
  have hnl := N.len
  rw [nodes_len] at hnl
  refine f24_ok ?_
  unfold f24_sem
  rw [psome_some]
  refine ⟨_, H.cell 3 rfl, ⟨hv.1, Int.le_refl _, by omega, by decide⟩, fun b hb b2 hb2 => ?_⟩
  have hbb : b ≠ b2 := by rintro rfl; rw [new_at] at hb2; cases hb2
  have hb2h : h b2 = none := by rw [new_ne (Ne.symm hbb)] at hb2; exact hb2
  have O0 : Own (h.new b (.cells (zrow [.int .i64 0] (n.toNat * 1)).toArray 3 (0, 0))) ⟨some (adr b), n.toNat, n.toNat⟩ 3 1 encI (List.replicate n.toNat 0) b := Own.make h b 3 (enc := encI) 0 rfl (fun _ => rfl) (by decide)
  rw [new_comm hbb]
  have E2 : Ext h (h.new b2 (.cells #[.int .u8 e.t, .int .u32 e.a] 25)) := Ext.new _ hb2h
  have B2 : Blk (h.new b2 (.cells #[.int .u8 e.t, .int .u32 e.a] 25)) b2 25 e.vals := Blk.new _ _ _ _
  have hbg : (h.new b2 (.cells #[.int .u8 e.t, .int .u32 e.a] 25)) b = none := by rw [new_ne hbb]; exact hb
  generalize h.new b2 (.cells #[.int .u8 e.t, .int .u32 e.a] 25) = g2 at E2 B2 hbg ⊢
  refine Spec.aside hbg (rreach_spec (s := ⟨some (adr b2), 1, 1⟩) (es := [e]) (R.ext E2) hl ⟨rfl, fun i x hi => ?_⟩ (by simp)) ?_
  · cases i with
    | zero => cases hi; exact ⟨_, rfl, B2.all⟩
    | succ i => simp at hi
  rintro v g3 ⟨t, M, rfl, S, C, E3⟩ hbg3
  have hSl := S.len
  have hMl : M.length ≤ l.length := by
    have hsub := nodup_len (m := (List.range l.length).map fun (i : Nat) => (i : Int) + 2) C.nd fun x hx => by
      obtain ⟨r, hr, -⟩ := C.cl x hx
      rcases at_nodes l x with ⟨q1, -⟩ | ⟨k, rk, q1, q2, q3, -⟩
      · rw [q1] at hr; cases hr
      · rw [List.mem_map]
        exact ⟨k, List.mem_range.2 (List.getElem?_eq_some_iff.1 q1).1, q3.symm⟩
    simpa using hsub
  refine ⟨t, rfl, ?_⟩
  refine .by (fun st g => 0 ≤ st.1 ∧ st.1 ≤ M.length ∧ ∃ o, g = g3.new b o ∧ Own g ⟨some (adr b), n.toNat, n.toNat⟩ 3 1 encI (profL (recAt l) n.toNat (M.take st.1.toNat)) b) (fun st _ => (M.length - st.1).toNat) ⟨by simp, by simp, _, rfl, ?_⟩ ?_
  · rw [show ((0 : Int), ()).1.toNat = 0 from rfl, List.take_zero, prof_nil]
    exact O0.new_
  rintro ⟨i, _⟩ g ⟨hi0, hi1, o, rfl, O⟩
  dsimp only at hi0 hi1 O ⊢
  have hol := O.len
  dsimp only at hol
  have E03 : Ext h (g3.new b o) := (E2.trans E3).trans (Ext.new _ hbg3)
  refine pif_dec (fun hc => ?_) fun hc => ?_
  · have hil : i.toNat < M.length := by omega
    have hg := List.getElem?_eq_getElem hil
    obtain ⟨r, hr, -⟩ := C.cl _ (List.getElem_mem hil)
    have hid := G.ids _ _ hr
    obtain ⟨rok, rr, -, -⟩ := G.ok _ _ hr
    simp only [rightB] at rr
    have h0 := rok.t0
    rw [psome_some]
    refine ⟨ns, (H.ext E03).cell0 rfl, (S.ext (Ext.new _ hbg3)).read hi0 hg fun q hq => ⟨_, hq, (rat_spec (R.ext E03)).ret ⟨_, rfl, (H.ext E03).cell0 rfl, ?_⟩⟩⟩
    rcases at_nodes l M[i.toNat] with ⟨q1, -⟩ | ⟨k, rk, q1, q2, q3, q4⟩
    · rw [q1] at hr; cases hr
    rw [hr] at q2; cases q2
    rw [q4]
    have hkl := (List.getElem?_eq_some_iff.1 q1).1
    have hn : (nodesOf l)[k]? = some ((k : Int) + 2, r) := by rw [nodes_get, q1]; rfl
    have hpl : r.tp.toNat < (profL (recAt l) n.toNat (M.take i.toNat)).length := by simp [profL]; omega
    have hpg := prof_get (get := recAt l) (n := n.toNat) (k := r.tp.toNat) (M := M.take i.toNat) (by omega)
    have hcl : (M.take i.toNat).countP (topIs (recAt l) r.tp.toNat) ≤ M.length := Nat.le_trans List.countP_le_length (by simp; omega)
    refine (N.ext E03).read (i := (k : Int)) (by omega) (by rw [Int.toNat_natCast]; exact hn) fun q' hq' => ⟨r.tp, hq'.cell 2 rfl, h0, by omega, (((M.take i.toNat).countP (topIs (recAt l) r.tp.toNat) : Nat) : Int), ?_, h0, by omega, O.canPut hpl, ?_⟩
    · obtain ⟨a', z1, z2⟩ := O.toR.at_ _ _ hpg
      cases z1; exact z2
    · have O2 := O.put hpl (((M.take i.toNat).countP (topIs (recAt l) r.tp.toNat) : Nat) + 1 : Int)
      rw [w64 (x := i + 1) (by omega), w64 (x := (((M.take i.toNat).countP (topIs (recAt l) r.tp.toNat) : Nat) : Int) + 1) (by omega)]
      obtain ⟨o', ho'⟩ := put_new g3 b o (r.tp.toNat * 1) [.int .i64 ((((M.take i.toNat).countP (topIs (recAt l) r.tp.toNat) : Nat) : Int) + 1)]
      have ei : (i + 1).toNat = i.toNat + 1 := by omega
      refine ⟨⟨by omega, by omega, o', ho', ?_⟩, by omega⟩
      rw [ei, List.take_succ_eq_append_getElem hil, prof_snoc hr h0]
      exact O2
  · have ei : i.toNat = M.length := by omega
    rw [ei, List.take_length] at O
    exact ⟨⟨⟨some (adr b), n.toNat, n.toNat⟩, M, rfl, C, O.toR⟩, E03⟩

/-! ### digits -/
def dbl : List Int → Int → List Int
  | [], c => if c > 0 then [c] else []
  | d :: r, c => (2 * d + c) % 10 :: dbl r ((2 * d + c) / 10)
abbrev DigOK (l : List Int) : Prop := ∀ d ∈ l, 0 ≤ d ∧ d ≤ 9
theorem dbl_ok : ∀ {l : List Int} {c : Int}, DigOK l → 0 ≤ c → c ≤ 1 → DigOK (dbl l c) ∧ (dbl l c).length ≤ l.length + 1
  | [], c, _, h0, h1 => by
    simp only [dbl]
    split
    · exact ⟨fun d hd => by simp only [List.mem_singleton] at hd; omega, by simp⟩
    · exact ⟨fun d hd => by simp at hd, by simp⟩
  | d :: r, c, h, h0, h1 => by
    have hd := h d (by simp)
    obtain ⟨a1, a2⟩ := dbl_ok (l := r) (c := (2 * d + c) / 10) (fun x hx => h x (by simp [hx])) (by omega) (by omega)
    simp only [dbl]
    refine ⟨fun x hx => ?_, by simp; omega⟩
    rw [List.mem_cons] at hx
    rcases hx with rfl | hx
    · omega
    · exact a1 x hx
theorem double_spec {h : Heap} {s : Sl} {D : List Int} {c : Int} (S : SlR h s 1 encI D) (hD : DigOK D) (h0 : 0 ≤ c) (h1 : c ≤ 1) (hl : D.length < 1000000) :
    Spec TP 77 #[.slice s.p s.n s.c, .int .i64 c] h fun v h' => (∃ t : Sl, v = .slice t.p t.n t.c ∧ SlR h' t 1 encI (dbl D c)) ∧ Ext h h' := by
  have hsl := S.len
  refine f77_ok ?_
  unfold f77_sem
  refine .by (fun st g => 0 ≤ st.1 ∧ st.1 ≤ 1 ∧ 0 ≤ st.2.2.1 ∧ st.2.2.1 ≤ D.length ∧ Ext h g ∧ ∃ l : List Int, OwnN g st.2.1 3 1 encI l (FreshB h) ∧ l.length = st.2.2.1.toNat ∧ l ++ dbl (D.drop st.2.2.1.toNat) st.1 = dbl D c) (fun st _ => (D.length - st.2.2.1).toNat) ⟨h0, h1, by simp, by simp, Ext.refl _, [], .inl ⟨rfl, rfl⟩, rfl, rfl⟩ ?_
  rintro ⟨k, u, i, _⟩ g ⟨hk0, hk1, hi0, hi1, E, l, O, hll, he⟩
  dsimp only at hk0 hk1 hi0 hi1 O hll he ⊢
  refine pif_dec (fun hc => ?_) fun hc => ?_
  · have hil : i.toNat < D.length := by omega
    have hg := List.getElem?_eq_getElem hil
    have hd := hD _ (List.getElem_mem hil)
    rw [List.drop_eq_getElem_cons hil, dbl] at he
    refine (S.ext E).read hi0 hg fun a ha => ⟨_, ha, by decide, ?_⟩
    rw [w64 (x := 2 * D[i.toNat]) (by omega), w64 (x := 2 * D[i.toNat] + k) (by omega), w64 (x := i + 1) (by omega), Int.tmod_eq_emod_of_nonneg (by omega), Int.tdiv_eq_ediv_of_nonneg (by omega), w64 (x := (2 * D[i.toNat] + k) / 10) (by omega)]
    refine O.app (x := (2 * D[i.toNat] + k) % 10) elI (fun _ => rfl) (encI_one _) (by omega) fun s' h' O' C' => ⟨by decide, ⟨by omega, by omega, by omega, by omega, C'.extR E fun c hc => O.inF hc, l ++ [(2 * D[i.toNat] + k) % 10], O'.mono ?_, ?_, ?_⟩, by omega⟩
    · rintro c (hc | hc)
      · exact hc
      · exact E.fresh hc
    · simp [hll]; omega
    · have ei : (i + 1).toNat = i.toNat + 1 := by omega
      rw [ei, List.append_assoc]
      exact he
  · rw [List.drop_eq_nil_of_le (by omega), dbl] at he
    refine pif_dec (fun hk => ?_) fun hk => ?_
    · rw [if_pos hk] at he
      refine O.app (x := k) elI (fun _ => rfl) (encI_one _) (by omega) fun s' h' O' C' => ⟨⟨s', rfl, ?_⟩, C'.extR E fun c hc => O.inF hc⟩
      rw [← he]; exact O'.toR
    · rw [if_neg hk, List.append_nil] at he
      exact ⟨⟨u, rfl, by rw [← he]; exact O.toR⟩, E⟩

/-- a word's bits, from so many on -/
def dgi (w : Nat) : Nat → List Int → List Int
  | 0, D => D
  | k + 1, D => dgi w k (dbl D ((w / 2 ^ k % 2 : Nat) : Int))
def digitsOf : List Int → List Int
  | [] => []
  | w :: r => dgi w.toNat 64 (digitsOf r)
theorem dgi_ok (w : Nat) : ∀ (k : Nat) {D : List Int}, DigOK D → DigOK (dgi w k D) ∧ (dgi w k D).length ≤ D.length + k
  | 0, D, h => ⟨h, by simp [dgi]⟩
  | k + 1, D, h => by
    have hb : w / 2 ^ k % 2 < 2 := Nat.mod_lt _ (by decide)
    obtain ⟨a1, a2⟩ := dbl_ok (l := D) (c := ((w / 2 ^ k % 2 : Nat) : Int)) h (by omega) (by omega)
    obtain ⟨b1, b2⟩ := dgi_ok w k a1
    simp only [dgi]
    exact ⟨b1, by omega⟩
theorem digits_ok : ∀ ws : List Int, DigOK (digitsOf ws) ∧ (digitsOf ws).length ≤ 64 * ws.length
  | [] => ⟨fun d hd => by simp [digitsOf] at hd, by simp [digitsOf]⟩
  | w :: r => by
    obtain ⟨a1, a2⟩ := digits_ok r
    obtain ⟨b1, b2⟩ := dgi_ok w.toNat 64 a1
    simp only [digitsOf, List.length_cons]
    exact ⟨b1, by omega⟩
theorem dgi_zero : ∀ k, dgi 0 k [] = []
  | 0 => rfl
  | k + 1 => by
    simp only [dgi]
    have : dbl [] ((0 / 2 ^ k % 2 : Nat) : Int) = [] := by simp [dbl]
    rw [this]; exact dgi_zero k

theorem digits_spec {h : Heap} {s : Sl} {ws : List Int} (S : SlR h s 1 encW ws) (ow : WOK ws) (hl : ws.length < 1000) :
    Spec TP 20 #[.slice s.p s.n s.c] h fun v h' => (∃ t : Sl, v = .slice t.p t.n t.c ∧ SlR h' t 1 encI (digitsOf ws)) ∧ Ext h h' := by
  have hsl := S.len
  refine f20_ok ?_
  unfold f20_sem
  rw [w64 (x := ((s.n : Nat) : Int) - 1) (by omega)]
  refine .by (fun st g => -1 ≤ st.2.1 ∧ st.2.1 < s.n ∧ Ext h g ∧ SlR g st.1 1 encI (digitsOf (ws.drop (st.2.1 + 1).toNat))) (fun st _ => (st.2.1 + 1).toNat) ⟨by dsimp only; omega, by dsimp only; omega, Ext.refl _, ?_⟩ ?_
  · dsimp only
    rw [List.drop_eq_nil_of_le (by omega)]
    exact SlR.nil 0
  rintro ⟨d, i, _⟩ g ⟨hi0, hi1, E, D⟩
  dsimp only at hi0 hi1 D ⊢
  refine pif_dec (fun hc => ?_) fun hc => ?_
  · have hil : i.toNat < ws.length := by omega
    have hg := List.getElem?_eq_getElem hil
    have hw := ow _ (List.getElem_mem hil)
    have e1 : (i + 1).toNat = i.toNat + 1 := by omega
    rw [e1] at D
    obtain ⟨W, hW⟩ : ∃ W : Nat, ws[i.toNat] = W := ⟨ws[i.toNat].toNat, by omega⟩
    have hDl := (digits_ok (ws.drop (i.toNat + 1)))
    refine .by (fun st g' => Ext h g' ∧ ∃ (k : Nat) (D' : List Int), k ≤ 64 ∧ st.2.1 = (if k = 0 then 0 else ((2 ^ (k - 1) : Nat) : Int)) ∧ SlR g' st.1 1 encI D' ∧ DigOK D' ∧ D'.length + k ≤ 64 * ws.length + 64 ∧ dgi W k D' = dgi W 64 (digitsOf (ws.drop (i.toNat + 1)))) (fun st _ => st.2.1.toNat) ⟨E, 64, _, by omega, rfl, D, hDl.1, by have := hDl.2; rw [List.length_drop] at this; omega, rfl⟩ ?_
    rintro ⟨d', bit, _⟩ g' ⟨E', k, D', hk, hbit, SD, hDo, hlen, he⟩
    dsimp only at hbit SD ⊢
    refine pif_dec (fun hb => ?_) fun hb => ?_
    · obtain ⟨K, rfl⟩ : ∃ K, k = K + 1 := ⟨k - 1, by split at hbit <;> omega⟩
      rw [if_neg (by omega), Nat.add_sub_cancel] at hbit
      subst hbit
      have hpK := Nat.two_pow_pos K
      refine (S.ext E').read (by omega) hg fun a ha => ⟨_, ha, by omega, by decide, ?_⟩
      rw [hW] at hw ⊢
      obtain ⟨q, hq⟩ : ∃ q : Nat, W / 2 ^ K = q := ⟨_, rfl⟩
      have ediv : Int.tdiv (W : Int) ((2 ^ K : Nat) : Int) = (q : Int) := by rw [Int.tdiv_eq_ediv_of_nonneg (by omega), ← hq]; rfl
      have hdl : q ≤ W := by rw [← hq]; exact Nat.div_le_self _ _
      have em : Int.tmod (q : Int) 2 = ((q % 2 : Nat) : Int) := by rw [Int.tmod_eq_emod_of_nonneg (by omega)]; rfl
      have he' : dgi W K (dbl D' ((q % 2 : Nat) : Int)) = dgi W 64 (digitsOf (ws.drop (i.toNat + 1))) := by rw [← hq]; exact he
      have hbl : 2 ^ K < 18446744073709551616 := by
        have : 2 ^ K ≤ 2 ^ 63 := Nat.pow_le_pow_right (by decide) (by omega)
        omega
      have en : wrap .u64 (Int.tdiv ((2 ^ K : Nat) : Int) 2) = (if K = 0 then 0 else ((2 ^ (K - 1) : Nat) : Int)) := by
        rw [Int.tdiv_eq_ediv_of_nonneg (by omega), wu64 (by omega)]
        cases K with
        | zero => rfl
        | succ K =>
          rw [if_neg (by omega), Nat.add_sub_cancel, Nat.pow_succ]
          omega
      rw [ediv, wu64 (x := (q : Int)) (by omega), em, en]
      have hlt : (if K = 0 then (0 : Int) else ((2 ^ (K - 1) : Nat) : Int)).toNat < ((2 ^ K : Nat) : Int).toNat := by
        split
        · omega
        · have : 2 ^ K = 2 * 2 ^ (K - 1) := by rw [← Nat.pow_succ']; congr 1; omega
          have := Nat.two_pow_pos (K - 1)
          omega
      have fin : ∀ (c : Int), c = ((q % 2 : Nat) : Int) → Spec TP 77 #[.slice d'.p d'.n d'.c, .int .i64 c] g' fun r26 h26 => ∃ x26 : Sl, r26 = .slice x26.p x26.n x26.c ∧ (2 : Int) ≠ 0 ∧
          ((Ext h h26 ∧ ∃ (k : Nat) (D' : List Int), k ≤ 64 ∧ (if K = 0 then (0 : Int) else ((2 ^ (K - 1) : Nat) : Int)) = (if k = 0 then 0 else ((2 ^ (k - 1) : Nat) : Int)) ∧ SlR h26 x26 1 encI D' ∧ DigOK D' ∧ D'.length + k ≤ 64 * ws.length + 64 ∧ dgi W k D' = dgi W 64 (digitsOf (ws.drop (i.toNat + 1)))) ∧ (if K = 0 then (0 : Int) else ((2 ^ (K - 1) : Nat) : Int)).toNat < ((2 ^ K : Nat) : Int).toNat) := by
        rintro c rfl
        have z0 : (0 : Int) ≤ ((q % 2 : Nat) : Int) := by omega
        have z1 : ((q % 2 : Nat) : Int) ≤ 1 := by omega
        refine (double_spec SD hDo z0 z1 (by omega)).mono ?_
        rintro v g2 ⟨⟨t, rfl, SD2⟩, E2⟩
        obtain ⟨o1, o2⟩ := dbl_ok (l := D') (c := ((q % 2 : Nat) : Int)) hDo z0 z1
        exact ⟨t, rfl, by decide, ⟨E'.trans E2, K, _, by omega, rfl, SD2, o1, by omega, he'⟩, hlt⟩
      refine pif_split (fun h1 => ?_) fun h1 => ?_
      · simp only [beq_iff_eq] at h1
        exact fin 1 h1.symm
      · simp only [beq_eq_false_iff_ne] at h1
        exact fin 0 (by omega)
    · have hk0 : k = 0 := by
        rcases Nat.eq_zero_or_pos k with h | h
        · exact h
        · rw [if_neg (by omega)] at hbit
          have := Nat.two_pow_pos (k - 1)
          omega
      subst hk0
      have he : D' = dgi W 64 (digitsOf (ws.drop (i.toNat + 1))) := he
      rw [w64 (x := i - 1) (by omega)]
      refine ⟨⟨by omega, by omega, E', ?_⟩, by omega⟩
      have e2 : (i - 1 + 1).toNat = i.toNat := by omega
      rw [e2, List.drop_eq_getElem_cons hil, digitsOf, hW, Int.toNat_natCast, ← he]
      exact SD
  · have ei : (i + 1).toNat = 0 := by omega
    rw [ei, List.drop_zero] at D
    exact ⟨⟨d, rfl, D⟩, E⟩

theorem words_len_spec {h : Heap} {s : Sl} {ws : List Int} (S : SlR h s 1 encW ws) (nw : NormW ws) (hl : ws.length < 1000) : Spec TP 75 #[.slice s.p s.n s.c] h fun v h' => v = .int .i64 (s.n : Nat) ∧ h' = h := by
  have hsl := S.len
  refine f75_ok ?_
  unfold f75_sem
  refine .by (fun st g => g = h ∧ st.1 = (s.n : Nat)) (fun _ _ => 0) ⟨rfl, rfl⟩ ?_
  rintro ⟨i, _⟩ g ⟨rfl, hi⟩
  dsimp only at hi ⊢
  subst hi
  refine pif_dec (fun hc => ?_) fun hc => ⟨rfl, rfl⟩
  rw [w64 (x := ((s.n : Nat) : Int) - 1) (by omega)]
  have e1 : (((s.n : Nat) : Int) - 1).toNat = ws.length - 1 := by omega
  have hg := List.getElem?_eq_getElem (l := ws) (i := ws.length - 1) (by omega)
  refine S.read (by omega) (by rw [e1]; exact hg) fun a ha => ⟨_, ha, pif_f ?_ ⟨rfl, rfl⟩⟩
  rw [beq_eq_false_iff_ne]
  intro hz
  have hne : ws ≠ [] := by rintro rfl; simp at hsl; omega
  have hlast : ws = ws.dropLast ++ [0] := by
    have := (List.dropLast_concat_getLast hne).symm
    rw [List.getLast_eq_getElem, hz] at this
    exact this
  have h2 := nw
  rw [NormW, hlast, trim_zero] at h2
  have h3 := trim_len ws.dropLast
  rw [h2] at h3
  simp at h3
  omega

theorem less_same {h : Heap} {s t : Sl} {D : List Int} (S : SlR h s 1 encI D) (T : SlR h t 1 encI D) (hl : D.length < 1000000) : Spec TP 137 #[.slice s.p s.n s.c, .slice t.p t.n t.c] h fun v h' => v = .bool false ∧ h' = h := by
  have h1 := S.len
  have h2 := T.len
  refine f137_ok ?_
  unfold f137_sem
  refine pif_f (by simp; omega) ?_
  rw [w64 (x := ((s.n : Nat) : Int) - 1) (by omega)]
  refine .by (fun st g => g = h ∧ -1 ≤ st.1 ∧ st.1 < D.length) (fun st _ => (st.1 + 1).toNat) ⟨rfl, by dsimp only; omega, by dsimp only; omega⟩ ?_
  rintro ⟨i, _⟩ g ⟨rfl, hi0, hi1⟩
  dsimp only at hi0 hi1 ⊢
  refine pif_dec (fun hc => ?_) fun hc => ⟨rfl, rfl⟩
  have hg := List.getElem?_eq_getElem (l := D) (i := i.toNat) (by omega)
  refine S.read (by omega) hg fun a ha => ⟨_, ha, T.read (by omega) hg fun a' ha' => ⟨_, ha', pif_f (by simp) ?_⟩⟩
  rw [w64 (by omega)]
  exact ⟨⟨rfl, by omega, by omega⟩, by omega⟩
theorem sameD_spec {h : Heap} {s t : Sl} {D : List Int} (S : SlR h s 1 encI D) (T : SlR h t 1 encI D) (hl : D.length < 1000000) : Spec TP 76 #[.slice s.p s.n s.c, .slice t.p t.n t.c] h fun v h' => v = .bool true ∧ h' = h := by
  refine f76_ok ?_
  unfold f76_sem
  exact (less_same S T hl).ret ⟨_, rfl, pif_t rfl ((less_same T S hl).ret ⟨_, rfl, rfl, rfl⟩)⟩
/-- a number and its digits -/
theorem isD_spec {h : Heap} {s t : Sl} {ws D : List Int} (S : SlR h s 1 encW ws) (nw : NormW ws) (ow : WOK ws) (hl : ws.length < 1000) (T : SlR h t 1 encI D) (hD : D = digitsOf ws) : Spec TP 19 #[.slice s.p s.n s.c, .slice t.p t.n t.c] h fun v h' => v = .bool true ∧ h' = h := by
  subst hD
  have := (digits_ok ws).2
  refine Spec.pure (f19_ok ?_)
  unfold f19_sem
  refine (words_len_spec S nw hl).ret ⟨_, rfl, pif_t (by simp) ((digits_spec S ow hl).mono ?_)⟩
  rintro v g ⟨⟨u, rfl, U⟩, E⟩
  exact ⟨u, rfl, (sameD_spec U (T.ext E) (by omega)).ret ⟨_, rfl, rfl, E⟩⟩
end Go.Proofs.YtbeapoopomlgaaaGreat.Sx
