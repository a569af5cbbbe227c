/- Contracts: counts of tables; lists of numbers; the document's ways. -/
import Derived.Test.YtbeapoopomlgaaaGreatCq
namespace Go.Proofs.YtbeapoopomlgaaaGreat.Sx
open Go Go.Proofs
open Go.IntKind (wrap)

theorem elI : ElemOK 3 1 := elemOK (by kernel_rfl)
theorem encI_one (x : Int) : ∀ v ∈ encI x, v.oneCell' = true := by
  intro v hv; simp only [encI, List.mem_singleton] at hv; subst hv; rfl
section
variable {h : Heap} {t : Sl} {T : List Bool}
theorem members_spec (S : SlR h t 1 encB T) (hl : T.length < 1000000) : Spec TP 78 #[.slice t.p t.n t.c] h fun v h' => (∃ u : Sl, v = .slice u.p u.n u.c ∧ u.n = T.countP id) ∧ Ext h h' := by
  have hsl := S.len
  refine f78_ok ?_
  unfold f78_sem
  refine .by (fun st g => 0 ≤ st.2.1 ∧ st.2.1 ≤ T.length ∧ Ext h g ∧ ∃ l : List Int, OwnN g st.1 3 1 encI l (FreshB h) ∧ l.length = (T.take st.2.1.toNat).countP id) (fun st _ => (T.length - st.2.1).toNat) ⟨by simp, by simp, Ext.refl _, [], .inl ⟨rfl, rfl⟩, rfl⟩ ?_
  rintro ⟨u, i, _⟩ g ⟨hi0, hi1, E, l, O, hll⟩
  dsimp only at hi0 hi1 O hll ⊢
  have hcl : (T.take i.toNat).countP id ≤ T.length := Nat.le_trans List.countP_le_length (by simp; omega)
  refine pif_dec (fun hc => ?_) fun hc => ?_
  · have hil : i.toNat < T.length := by omega
    have hg := List.getElem?_eq_getElem hil
    have ei : (i + 1).toNat = i.toNat + 1 := by omega
    have et : (T.take (i + 1).toNat).countP id = (T.take i.toNat).countP id + if T[i.toNat] = true then 1 else 0 := by
      rw [ei, List.take_succ_eq_append_getElem hil, List.countP_append, List.countP_singleton]; rfl
    refine (S.ext E).read hi0 hg fun a ha => ⟨_, ha, ?_⟩
    rw [w64 (x := i + 1) (by omega)]
    refine pif_split (fun hb => ?_) fun hb => ?_
    · refine O.app (x := i) elI (fun _ => rfl) (encI_one _) (by omega) fun s' h' O' C' => ?_
      refine ⟨⟨by omega, by omega, C'.extR E fun c hc => O.inF hc, l ++ [i], O'.mono ?_, ?_⟩, by omega⟩
      · rintro c (hc | hc)
        · exact hc
        · exact E.fresh hc
      · rw [et, hb]; simp [hll]
    · exact ⟨⟨by omega, by omega, E, l, O, by rw [et, hb]; simp [hll]⟩, by omega⟩
  · have e : i.toNat = T.length := by omega
    rw [e, List.take_length] at hll
    exact ⟨⟨u, rfl, by rw [O.toR.len, hll]⟩, E⟩
theorem rcount_spec (S : SlR h t 1 encB T) (hl : T.length < 1000000) : Spec TP 21 #[.slice t.p t.n t.c] h fun v h' => v = .int .i64 (T.countP id : Nat) ∧ h' = h := by
  refine Spec.pure (f21_ok ?_)
  unfold f21_sem
  refine (members_spec S hl).mono ?_
  rintro v g ⟨⟨u, rfl, hu⟩, E⟩
  exact ⟨u, rfl, by rw [hu], E⟩
theorem rvars_spec {n : Nat} (S : SlR h t 1 encB T) (hT : T.length = 2 ^ n) (hn : n ≤ 16) : Spec TP 79 #[.slice t.p t.n t.c] h fun v h' => v = .int .i64 n ∧ h' = h := by
  have hsl := S.len
  refine f79_ok ?_
  unfold f79_sem
  refine .by (fun st g => g = h ∧ 0 ≤ st.1 ∧ st.1 ≤ n) (fun st _ => (n - st.1).toNat) ⟨rfl, by simp, by simp⟩ ?_
  rintro ⟨i, _⟩ g ⟨rfl, hi0, hi1⟩
  dsimp only at hi0 hi1 ⊢
  refine (size_spec (by omega)).ret ⟨_, rfl, ?_⟩
  obtain ⟨I, rfl⟩ : ∃ I : Nat, i = I := ⟨i.toNat, by omega⟩
  have e2 : (2 : Int) ^ (I : Int).toNat = ((2 ^ I : Nat) : Int) := by rw [Int.toNat_natCast, Int.natCast_pow]; rfl
  rw [e2, hsl, hT]
  refine pif_dec (fun hc => ?_) fun hc => ⟨?_, rfl⟩
  · have hlt : I < n := (Nat.pow_lt_pow_iff_right (a := 2) (by decide)).1 (by omega)
    rw [w64 (by omega)]
    exact ⟨⟨rfl, by omega, by omega⟩, by omega⟩
  · have hge : n ≤ I := (Nat.pow_le_pow_iff_right (a := 2) (by decide)).1 (by omega)
    have : I = n := by omega
    rw [this]

/-- of a table, how many have so many 1s -/
def onesT (T : List Bool) (n m : Nat) : List Int := (List.range (n + 1)).map fun k => ((cntT T n k m : Nat) : Int)
theorem ones_get {T : List Bool} {n m k : Nat} (h : k < n + 1) : (onesT T n m)[k]? = some ((cntT T n k m : Nat) : Int) := by
  unfold onesT
  rw [List.getElem?_map, List.getElem?_range h]; rfl
theorem ones_len (T : List Bool) (n m : Nat) : (onesT T n m).length = n + 1 := by simp [onesT]
theorem ones_zero (T : List Bool) (n : Nat) : onesT T n 0 = List.replicate (n + 1) 0 := by
  apply List.ext_getElem?
  intro k
  by_cases hk : k < n + 1
  · rw [ones_get hk, List.getElem?_replicate, if_pos hk]; rfl
  · rw [List.getElem?_eq_none (by rw [ones_len]; omega), List.getElem?_eq_none (by simp; omega)]
theorem ones_succ (T : List Bool) (n m : Nat) : onesT T n (m + 1) = if T[m]?.getD false then (onesT T n m).set (popY n m) (((cntT T n (popY n m) m : Nat) : Int) + 1) else onesT T n m := by
  apply List.ext_getElem?
  intro k
  have hpl := popY_le n m
  by_cases hk : k < n + 1
  · rw [ones_get hk, cntT_snoc]
    cases hb : T[m]?.getD false with
    | false => simp [ones_get hk]
    | true =>
      simp only [Bool.true_and, if_true, beq_iff_eq]
      rw [List.getElem?_set]
      by_cases h : popY n m = k
      · subst h
        rw [if_pos rfl, if_pos rfl, if_pos (by rw [ones_len]; omega)]
        simp
      · rw [if_neg h, if_neg h, ones_get hk]; simp
  · rw [List.getElem?_eq_none (by rw [ones_len]; omega), List.getElem?_eq_none]
    split
    · rw [List.length_set, ones_len]; omega
    · rw [ones_len]; omega
theorem cntT_bound (T : List Bool) (n k m : Nat) : cntT T n k m ≤ m := by
  unfold cntT
  exact Nat.le_trans List.countP_le_length (by simp)

theorem rones_spec {n : Nat} (S : SlR h t 1 encB T) (hT : T.length = 2 ^ n) (hn : n ≤ 16) : Spec TP 23 #[.slice t.p t.n t.c] h fun v h' => (∃ u : Sl, v = .slice u.p u.n u.c ∧ SlR h' u 1 encI (onesT T n T.length)) ∧ Ext h h' := by
  have hsl := S.len
  have hp : 2 ^ n ≤ 2 ^ 16 := Nat.pow_le_pow_right (by decide) hn
  refine f23_ok ?_
  unfold f23_sem
  refine (rvars_spec S hT hn).ret ⟨_, rfl, ?_⟩
  rw [w64 (x := (n : Int) + 1) (by omega)]
  have em : ((n : Int) + 1).toNat = n + 1 := by omega
  rw [em]
  refine ⟨⟨by omega, Int.le_refl _, by omega, by decide⟩, fun b hb => ?_⟩
  have O0 : Own (h.new b (.cells (zrow [.int .i64 0] ((n + 1) * 1)).toArray 3 (0, 0))) ⟨some (adr b), n + 1, n + 1⟩ 3 1 encI (List.replicate (n + 1) 0) b := Own.make h b 3 (enc := encI) 0 rfl (fun _ => rfl) (by decide)
  have E0 : Ext h (h.new b (.cells (zrow [.int .i64 0] ((n + 1) * 1)).toArray 3 (0, 0))) := Ext.new _ hb
  refine .by (fun st g => 0 ≤ st.1 ∧ st.1 ≤ T.length ∧ Ext h g ∧ Own g ⟨some (adr b), n + 1, n + 1⟩ 3 1 encI (onesT T n st.1.toNat) b) (fun st _ => (T.length - st.1.toNat)) ⟨by simp, by simp, E0, by rw [show ((0 : Int), ()).1.toNat = 0 from rfl, ones_zero]; exact O0⟩ ?_
  rintro ⟨y, _⟩ g ⟨hy0, hy1, E, O⟩
  dsimp only at hy0 hy1 O ⊢
  refine pif_dec (fun hc => ?_) fun hc => ?_
  · obtain ⟨Y, rfl⟩ : ∃ Y : Nat, y = Y := ⟨y.toNat, by omega⟩
    rw [Int.toNat_natCast] at O
    refine .by (fun st g' => g' = g ∧ ∃ k : Nat, st.2.1 = k ∧ k ≤ n ∧ st.1 = (popY k Y : Nat)) (fun st _ => (n - st.2.1.toNat)) ⟨rfl, 0, rfl, by omega, rfl⟩ ?_
    rintro ⟨x, k, _⟩ g' ⟨rfl, K, hk, hk1, hx⟩
    dsimp only at hx hk ⊢
    subst hx hk
    refine pif_dec (fun hk => ?_) fun hk => ?_
    · refine (value_spec (by omega) (by omega) (by omega)).ret ⟨_, rfl, ?_⟩
      rw [valI_nat]
      have hple := popY_le K Y
      have hb2 : Y / 2 ^ K % 2 < 2 := Nat.mod_lt _ (by decide)
      rw [w64 (x := (K : Int) + 1) (by omega), w64 (x := ((popY K Y : Nat) : Int) + ((Y / 2 ^ K % 2 : Nat) : Int)) (by omega)]
      refine ⟨⟨rfl, K + 1, by omega, by omega, ?_⟩, by omega⟩
      simp only [popY]; omega
    · have hKn : K = n := by omega
      subst hKn
      have hYl : Y < T.length := by omega
      have hg := List.getElem?_eq_getElem hYl
      have hpl := popY_le K Y
      have hsucc := ones_succ T K Y
      rw [hg, Option.getD_some] at hsucc
      rw [Int.toNat_natCast, w64 (x := (Y : Int) + 1) (by omega)]
      have eY : ((Y : Int) + 1).toNat = Y + 1 := by omega
      refine (S.ext E).read hy0 (by rw [Int.toNat_natCast]; exact hg) fun a ha => ⟨_, by rw [Int.toNat_natCast] at ha; exact ha, pif_split (fun hbt => ?_) fun hbt => ?_⟩
      · have hpg := ones_get (T := T) (n := K) (m := Y) (k := popY K Y) (by omega)
        have hcb := cntT_bound T K (popY K Y) Y
        have O1 := O.put (i := popY K Y) (by rw [ones_len]; omega) (((cntT T K (popY K Y) Y : Nat) : Int) + 1)
        rw [hbt, if_pos rfl] at hsucc
        refine ⟨by omega, by omega, ((cntT T K (popY K Y) Y : Nat) : Int), ?_, by omega, by omega, O.canPut (by rw [ones_len]; omega), ?_⟩
        · obtain ⟨a', q1, q2⟩ := O.toR.at_ _ _ hpg
          cases q1; exact q2
        · rw [w64 (x := ((cntT T K (popY K Y) Y : Nat) : Int) + 1) (by omega)]
          refine ⟨⟨by omega, by omega, (setChg _ _ _ _).extR E fun c hc => by rw [hc]; exact hb, ?_⟩, by omega⟩
          rw [eY, hsucc]
          exact O1
      · rw [hbt] at hsucc
        refine ⟨⟨by omega, by omega, E, ?_⟩, by omega⟩
        rw [eY, hsucc]
        exact O
  · have ey : y.toNat = T.length := by omega
    rw [ey] at O
    exact ⟨⟨⟨some (adr b), n + 1, n + 1⟩, rfl, O.toR⟩, E⟩
end

/-- the same numbers -/
theorem ints_spec {h : Heap} {s t : Sl} {l : List Int} (S : SlR h s 1 encI l) (T : SlR h t 1 encI l) (hl : l.length < 1000000) : Spec TP 22 #[.slice s.p s.n s.c, .slice t.p t.n t.c] h fun v h' => v = .bool true ∧ h' = h := by
  have h1 := S.len
  have h2 := T.len
  refine f22_ok ?_
  unfold f22_sem
  refine pif_f (by simp; omega) ?_
  refine .by (fun st g => g = h ∧ 0 ≤ st.1 ∧ st.1 ≤ l.length) (fun st _ => (l.length - st.1).toNat) ⟨rfl, by simp, by simp⟩ ?_
  rintro ⟨i, _⟩ g ⟨rfl, hi0, hi1⟩
  dsimp only at hi0 hi1 ⊢
  refine pif_dec (fun hc => ?_) fun hc => ⟨rfl, rfl⟩
  have hg := List.getElem?_eq_getElem (l := l) (i := i.toNat) (by omega)
  refine S.read hi0 hg fun a ha => ⟨_, ha, T.read hi0 hg fun a' ha' => ⟨_, ha', pif_f (by simp) ?_⟩⟩
  rw [w64 (by omega)]
  exact ⟨⟨rfl, by omega, by omega⟩, by omega⟩

/-! ### the document's ways -/
section
variable {h : Heap} {a : Addr} {L : Nodes} {n room : Int}
theorem rdepth_spec (G : Good (getL L) n) : ∀ (K : Nat) (e : Edg), K ≤ 16 → RefR h a L n room → e.ok → (e.a < 2 ∨ ∃ r, getL L e.a = some r) → Below (getL L) n e.a K → Spec TP 25 #[.pointer (some a), e.val] h fun v h' => v = .int .i64 (depI (getL L) e.a) ∧ h' = h := by
  intro K
  induction K with
  | zero =>
    intro e hK R he hid hb
    refine f25_ok ?_
    unfold f25_sem
    rcases atL_spec L e.a with ⟨q1, q2⟩ | ⟨i, r, q1, q2, q3⟩
    · refine (rat_spec R).ret ⟨_, rfl, ?_⟩
      rw [q1, (dep_leaf q2).1]
      exact pif_t (by decide) ⟨rfl, rfl⟩
    · have := hb r q3; have := G.pos q3; omega
  | succ K ih =>
    intro e hK R he hid hb
    obtain ⟨s, H, S, hL⟩ := R.ex
    refine f25_ok ?_
    unfold f25_sem
    rcases atL_spec L e.a with ⟨q1, q2⟩ | ⟨i, r, q1, q2, q3⟩
    · refine (rat_spec R).ret ⟨_, rfl, ?_⟩
      rw [q1, (dep_leaf q2).1]
      exact pif_t (by decide) ⟨rfl, rfl⟩
    · obtain ⟨rok, rr, llo, lhi⟩ := G.ok _ _ q3
      obtain ⟨k1, k2⟩ := G.kids q3 (hb r q3)
      have hbr := hb r q3
      obtain ⟨eD, -⟩ := dep_node G q3 (by omega)
      have b1 := dep_bound G rok.lo.a0 (lead_id G llo) k1 (by omega)
      have b2 := dep_bound G rok.hi.a0 (lead_id G lhi) k2 (by omega)
      have rd : ∀ {k : Addr → Prop}, (∀ q, Has h (q.add (i * 8)) (encN (e.a, r)) → k q) → psome s.p fun q => 0 ≤ (i : Int) ∧ (i : Int) < ((s.n : Nat) : Int) ∧ k q := fun H => S.read (by omega) (by simpa using q2) fun q hq => H q (by simpa using hq)
      refine (rat_spec R).ret ⟨_, rfl, ?_⟩
      rw [q1, psome_some]
      refine pif_f (by simp) ⟨s, H.cell0 rfl, rd fun q hq => ⟨r.lo.t, r.lo.a, hq.part 4 (getPart (rest := [.int .u8 r.hi.t, .int .u32 r.hi.a]) rfl), ?_⟩⟩
      rw [psome_some]
      refine ⟨s, H.cell0 rfl, rd fun q' hq' => ⟨r.hi.t, r.hi.a, hq'.part 6 (getPart (rest := []) rfl), ?_⟩⟩
      refine (ih r.lo (by omega) R rok.lo (lead_id G llo) k1).ret ⟨_, rfl, hq'.part 6 (getPart (rest := []) rfl), H.cell0 rfl, (ih r.hi (by omega) R rok.hi (lead_id G lhi) k2).ret ⟨_, rfl, ?_, rfl⟩⟩
      have em : (if depI (getL L) r.hi.a > depI (getL L) r.lo.a then depI (getL L) r.hi.a else depI (getL L) r.lo.a) = max (depI (getL L) r.lo.a) (depI (getL L) r.hi.a) := by split <;> omega
      rw [em, w64 (by omega), eD, Int.add_comm]
theorem rways_spec (G : Good (getL L) n) : ∀ (K : Nat) (e : Edg), K ≤ 16 → RefR h a L n room → e.ok → (e.a < 2 ∨ ∃ r, getL L e.a = some r) → Below (getL L) n e.a K → Spec TP 26 #[.pointer (some a), e.val] h fun v h' => v = .int .i64 (wayI (getL L) e.a) ∧ h' = h := by
  intro K
  induction K with
  | zero =>
    intro e hK R he hid hb
    have ha0 := he.a0
    refine f26_ok ?_
    unfold f26_sem
    rcases atL_spec L e.a with ⟨q1, q2⟩ | ⟨i, r, q1, q2, q3⟩
    · have h2 : e.a < 2 := by
        rcases hid with h | ⟨r, hr⟩
        · exact h
        · rw [q2] at hr; cases hr
      refine (rat_spec R).ret ⟨_, rfl, ?_⟩
      rw [q1, (dep_leaf q2).2, w64 (by omega)]
      exact pif_t (by decide) ⟨rfl, rfl⟩
    · have := hb r q3; have := G.pos q3; omega
  | succ K ih =>
    intro e hK R he hid hb
    have ha0 := he.a0
    obtain ⟨s, H, S, hL⟩ := R.ex
    refine f26_ok ?_
    unfold f26_sem
    rcases atL_spec L e.a with ⟨q1, q2⟩ | ⟨i, r, q1, q2, q3⟩
    · have h2 : e.a < 2 := by
        rcases hid with h | ⟨r, hr⟩
        · exact h
        · rw [q2] at hr; cases hr
      refine (rat_spec R).ret ⟨_, rfl, ?_⟩
      rw [q1, (dep_leaf q2).2, w64 (by omega)]
      exact pif_t (by decide) ⟨rfl, rfl⟩
    · obtain ⟨rok, rr, llo, lhi⟩ := G.ok _ _ q3
      obtain ⟨k1, k2⟩ := G.kids q3 (hb r q3)
      have hbr := hb r q3
      obtain ⟨-, eW⟩ := dep_node G q3 (by omega)
      have b1 := dep_bound G rok.lo.a0 (lead_id G llo) k1 (by omega)
      have b2 := dep_bound G rok.hi.a0 (lead_id G lhi) k2 (by omega)
      have rd : ∀ {k : Addr → Prop}, (∀ q, Has h (q.add (i * 8)) (encN (e.a, r)) → k q) → psome s.p fun q => 0 ≤ (i : Int) ∧ (i : Int) < ((s.n : Nat) : Int) ∧ k q := fun H => S.read (by omega) (by simpa using q2) fun q hq => H q (by simpa using hq)
      refine (rat_spec R).ret ⟨_, rfl, ?_⟩
      rw [q1, psome_some]
      refine pif_f (by simp) ⟨s, H.cell0 rfl, rd fun q hq => ⟨r.lo.t, r.lo.a, hq.part 4 (getPart (rest := [.int .u8 r.hi.t, .int .u32 r.hi.a]) rfl), ?_⟩⟩
      rw [psome_some]
      refine ⟨s, H.cell0 rfl, rd fun q' hq' => ⟨r.hi.t, r.hi.a, hq'.part 6 (getPart (rest := []) rfl), ?_⟩⟩
      refine (ih r.lo (by omega) R rok.lo (lead_id G llo) k1).ret ⟨_, rfl, hq'.part 6 (getPart (rest := []) rfl), H.cell0 rfl, (ih r.hi (by omega) R rok.hi (lead_id G lhi) k2).ret ⟨_, rfl, ?_, rfl⟩⟩
      rw [w64 (by omega), eW]
end
end Go.Proofs.YtbeapoopomlgaaaGreat.Sx
