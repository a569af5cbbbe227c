/- Contracts: an engine does a job. -/
import Derived.Test.YtbeapoopomlgaaaGreatDe
namespace Go.Proofs.YtbeapoopomlgaaaGreat.Sx
open Go Go.Proofs
open Go.IntKind (wrap)

theorem pif4 {a b c d : Bool} {X Y : Prop} (hY : Y) (hX : a = true → b = true → c = true → d = true → X) : pif a (pif b (pif c (pif d X Y) Y) Y) Y :=
  pif_split (fun ha => pif_split (fun hb => pif_split (fun hc => pif_split (fun hd => hX ha hb hc hd) fun _ => hY) fun _ => hY) fun _ => hY) fun _ => hY
def bitI (b : Bool) : Int := if b then 1 else 0
/-- an operation of three -/
def opB (op : Int) (x y z : Bool) : Bool := andI .u8 (shrI .u8 op (wrap .u8 ((wrap .u8 ((wrap .u8 (4 * bitI x)) + (wrap .u8 (2 * bitI y)))) + bitI z))) 1 == 1

structure EntOK (g : Int → Option Rec) (n : Int) (x : Ent) : Prop where
  la : leadsB g n x.k.f x.k.a x.k.l
  lb : leadsB g n x.k.f x.k.b x.k.l
  lc : leadsB g n x.k.f x.k.c x.k.l
  lv : leadsB g n x.k.f x.v x.k.l
  ok : x.v.ok
  mean : ∀ bs : List Bool, (bs.length : Int) = n - x.k.l → hold g x.k.f x.v x.k.l bs = opB x.k.op (hold g x.k.f x.k.a x.k.l bs) (hold g x.k.f x.k.b x.k.l bs) (hold g x.k.f x.k.c x.k.l bs)
def EntsOK (g : Int → Option Rec) (n : Int) (L : List Ent) : Prop := ∀ x ∈ L, x.ep = 1 → EntOK g n x
theorem EntsOK.grow {g g' : Int → Option Rec} {n : Int} {L : List Ent} (G : Good g n) (G' : Good g' n) (h : Grows g g') (K : EntsOK g n L) : EntsOK g' n L := fun x hx hep => by
  have k := K x hx hep
  refine ⟨leads_grow h k.la, leads_grow h k.lb, leads_grow h k.lc, leads_grow h k.lv, k.ok, fun bs hb => ?_⟩
  rw [hold_grow G G' h _ (Nat.le_refl _) (low_of k.la), hold_grow G G' h _ (Nat.le_refl _) (low_of k.lb), hold_grow G G' h _ (Nat.le_refl _) (low_of k.lc), hold_grow G G' h _ (Nat.le_refl _) (low_of k.lv)]
  exact k.mean bs hb
theorem Grew.hold {A A' : Ar} {n k f l : Int} {e : Edg} {bs : List Bool} (X : Grew A A' n k) (K : Live A n) (L : leadsB (getC A.cells) n f e l) : Sx.hold (getC A'.cells) f e l bs = Sx.hold (getC A.cells) f e l bs :=
  hold_grow K.good X.live.good X.grows _ (Nat.le_refl _) (low_of L)

/-- an engine -/
structure Eng (h : Heap) (o b bc bl : Nat) (A : Ar) (n : Int) (L : List Ent) (S : Nat → Prop) : Prop where
  blk : Blk h o 242 [.pointer (some (adr b)), .pointer (some (adr bc))]
  st : StoreAt h b A n S
  ca : CaAt h bc bl L
  live : Live A n
  ents : EntsOK (getC A.cells) n L
  no : ¬ S o ∧ ¬ S bc ∧ ¬ S bl
  ne : o ≠ bc ∧ o ≠ bl
/-- what changes while an engine runs -/
structure Ran (h h' : Heap) (o b bc bl : Nat) (A A' : Ar) (n : Int) (L : List Ent) (S : Nat → Prop) (k : Int) : Prop where
  eng : Eng h' o b bc bl A' n L (Fp h S)
  chg : Chg h h' fun c => S c ∨ c = bc ∨ c = bl
  grew : Grew A A' n k

section
variable {h h' h1 h2 : Heap} {o b bc bl : Nat} {A A' A1 A2 : Ar} {n : Int} {L L' L1 L2 : List Ent} {S : Nat → Prop} {k m : Int}
theorem Eng.mono {S' : Nat → Prop} (E : Eng h o b bc bl A n L S) (hS : ∀ c, S c → S' c) (no : ¬ S' o ∧ ¬ S' bc ∧ ¬ S' bl) : Eng h o b bc bl A n L S' := ⟨E.blk, E.st.mono hS, E.ca, E.live, E.ents, no, E.ne⟩
theorem Eng.noF (E : Eng h o b bc bl A n L S) : ¬ Fp h S o ∧ ¬ Fp h S bc ∧ ¬ Fp h S bl := by
  refine ⟨?_, ?_, ?_⟩
  · rintro (hc | hc)
    · exact E.no.1 hc
    · have := E.blk.row; rw [hc] at this; cases this
  · rintro (hc | hc)
    · exact E.no.2.1 hc
    · exact E.ca.live.1 hc
  · rintro (hc | hc)
    · exact E.no.2.2 hc
    · exact E.ca.live.2 hc
theorem Ran.refl (E : Eng h o b bc bl A n L S) : Ran h h o b bc bl A A n L S 0 := ⟨E.mono (fun _ hc => .inl hc) E.noF, Chg.refl _ _, Grew.refl E.live⟩
theorem Ran.le (X : Ran h h' o b bc bl A A' n L S k) (hk : k ≤ m) : Ran h h' o b bc bl A A' n L S m := ⟨X.eng, X.chg, X.grew.le hk⟩
theorem Ran.fp (X : Ran h h1 o b bc bl A A1 n L S k) {c : Nat} (hc : Fp h1 (Fp h S) c) : Fp h S c := by
  rcases hc with hc | hc
  · exact hc
  · by_cases hS : S c ∨ c = bc ∨ c = bl
    · rcases hS with hS | rfl | rfl
      · exact .inl hS
      · exact absurd hc X.eng.ca.live.1
      · exact absurd hc X.eng.ca.live.2
    · right
      cases hh : h c with
      | none => rfl
      | some x => rw [X.chg c x hh hS] at hc; cases hc
theorem Ran.trans (X : Ran h h1 o b bc bl A A1 n L1 S k) (Y : Ran h1 h2 o b bc bl A1 A2 n L2 (Fp h S) m) : Ran h h2 o b bc bl A A2 n L2 S (k + m) :=
  ⟨Y.eng.mono (fun _ hc => X.fp hc) X.eng.no, X.chg.trans Y.chg fun _ hc hS => hS.elim (fun q => .inl (q.resolve_right hc)) .inr, X.grew.trans Y.grew⟩
/-- the store changes -/
theorem Eng.step (E : Eng h o b bc bl A n L S) (St : StoreAt h' b A' n (Fp h S)) (C : Chg h h' S) (G : Grew A A' n k) : Ran h h' o b bc bl A A' n L S k :=
  ⟨⟨E.blk.chg C E.no.1, St, E.ca.chg C E.no.2.1 E.no.2.2, G.live, E.ents.grow E.live.good G.live.good G.grows, E.noF, E.ne⟩, C.mono fun _ _ hS => .inl hS, G⟩
/-- the cache changes -/
theorem Eng.kept {S' : Nat → Prop} (E : Eng h o b bc bl A n L S) (R : CaAt h' bc bl L') (C : Chg h h' S') (hS : ∀ c, S' c → c = bc ∨ c = bl) (K : EntsOK (getC A.cells) n L') : Ran h h' o b bc bl A A n L' S 0 :=
  ⟨⟨E.blk.chg C fun hc => (hS _ hc).elim E.ne.1 E.ne.2, (E.st.chg C fun c hc hc' => (hS c hc').elim (fun q => E.no.2.1 (q ▸ hc)) fun q => E.no.2.2 (q ▸ hc)).mono fun _ hc => .inl hc, R, E.live, K, E.noF, E.ne⟩, C.mono fun c _ hc => .inr (hS c hc), Grew.refl E.live⟩
end

/-- a job that may be done -/
structure JobOK (g : Int → Option Rec) (n : Int) (j : Job) : Prop where
  form : formB j.f
  op : 0 ≤ j.op ∧ j.op < 256
  l0 : 0 ≤ j.l
  oa : j.a.ok
  ob : j.b.ok
  oc : j.c.ok
  la : leadsB g n j.f j.a j.l
  lb : leadsB g n j.f j.b j.l
  lc : leadsB g n j.f j.c j.l
  hz : andI .u8 j.op 1 = 0 → opB j.op false false false = false
def DoneC (h : Heap) (o b bc bl : Nat) (A : Ar) (n : Int) (S : Nat → Prop) (j : Job) (k : Int) (v : Value) (h' : Heap) : Prop :=
  ∃ (e : Edg) (A' : Ar) (L' : List Ent), v = .tuple #[e.val, .int .u8 0] ∧ Ran h h' o b bc bl A A' n L' S k ∧ e.ok ∧ leadsB (getC A'.cells) n j.f e j.l ∧
    ∀ bs : List Bool, (bs.length : Int) = n - j.l → hold (getC A'.cells) j.f e j.l bs = opB j.op (hold (getC A.cells) j.f j.a j.l bs) (hold (getC A.cells) j.f j.b j.l bs) (hold (getC A.cells) j.f j.c j.l bs)
def cost (k : Nat) : Int := 4 * ((2 ^ k : Nat) : Int) - 4
theorem cost_succ (k : Nat) : cost (k + 1) = 2 * cost k + 4 := by unfold cost; rw [Nat.pow_succ]; omega
theorem cost_pos (k : Nat) : 0 ≤ cost k := by have := Nat.two_pow_pos k; unfold cost; omega
def DoSpec (n : Int) (k : Nat) : Prop := ∀ {h : Heap} {o b bc bl : Nat} {A : Ar} {L : List Ent} {S : Nat → Prop} {j : Job}, Eng h o b bc bl A n L S → JobOK (getC A.cells) n j → j.l + k = n → A.n + cost k ≤ A.room →
  Spec TP 223 #[.pointer (some (adr o)), j.val] h (DoneC h o b bc bl A n S j (cost k))

section
variable {h : Heap} {o b bc bl : Nat} {A : Ar} {n : Int} {L : List Ent} {S : Nat → Prop} {j : Job} {k : Nat}
theorem split_spec (IH : DoSpec n k) (E : Eng h o b bc bl A n L S) (J : JobOK (getC A.cells) n j) (hk : j.l + (k + 1 : Nat) = n) (hroom : A.n + cost (k + 1) ≤ A.room) :
    Spec TP 265 #[.pointer (some (adr o)), j.val] h (DoneC h o b bc bl A n S j (cost (k + 1))) := by
  have cs := cost_succ k
  have cp := cost_pos k
  have hv := E.live.good.vars
  have l0 := J.l0
  refine f265_ok ?_
  unfold f265_sem
  rw [psome_some, w64 (x := j.l) (by omega)]
  obtain ⟨A1, lo1, hi1, v1, G1, ol1, oh1, ll1, lh1, M1⟩ := E.live.view l0 (by omega) J.la J.oa (by omega)
  refine ⟨_, E.blk.all.cell0 rfl, (view_spec E.st E.live.ok.ok (by have := E.live.ok.len; omega) hv.2 J.oa J.form).mono ?_⟩
  rintro v h1 ⟨rfl, St1, C1⟩
  rw [v1] at St1 ⊢
  dsimp only at St1 ⊢
  have X1 := E.step St1 C1 G1
  have E1 := X1.eng
  refine ⟨_, _, _, _, _, rfl, pif_f rfl ?_⟩
  rw [psome_some]
  have n1 := G1.n1
  have r1 := G1.room
  obtain ⟨A2, lo2, hi2, v2, G2, ol2, oh2, ll2, lh2, M2⟩ := E1.live.view l0 (by omega) (leads_grow G1.grows J.lb) J.ob (by omega)
  refine ⟨_, E1.blk.all.cell0 rfl, (view_spec E1.st E1.live.ok.ok (by have := E1.live.ok.len; omega) hv.2 J.ob J.form).mono ?_⟩
  rintro v h2 ⟨rfl, St2, C2⟩
  rw [v2] at St2 ⊢
  dsimp only at St2 ⊢
  have X2 := X1.trans (E1.step St2 C2 G2)
  have E2 := X2.eng
  refine ⟨_, _, _, _, _, rfl, pif_f rfl ?_⟩
  rw [psome_some]
  have n2 := G2.n1
  have r2 := G2.room
  obtain ⟨A3, lo3, hi3, v3, G3, ol3, oh3, ll3, lh3, M3⟩ := E2.live.view l0 (by omega) (leads_grow X2.grew.grows J.lc) J.oc (by omega)
  refine ⟨_, E2.blk.all.cell0 rfl, (view_spec E2.st E2.live.ok.ok (by have := E2.live.ok.len; omega) hv.2 J.oc J.form).mono ?_⟩
  rintro v h3 ⟨rfl, St3, C3⟩
  rw [v3] at St3 ⊢
  dsimp only at St3 ⊢
  have X3 := X2.trans (E2.step St3 C3 G3)
  have E3 := X3.eng
  refine ⟨_, _, _, _, _, rfl, pif_f rfl ?_⟩
  rw [wu8 (x := j.l + 1) (by omega)]
  have n3 := G3.n1
  have r3 := G3.room
  have g23 := G2.grows.trans G3.grows
  refine (IH (j := ⟨j.f, j.op, j.l + 1, lo1, lo2, lo3⟩) E3 ⟨J.form, J.op, by dsimp only; omega, ol1, ol2, ol3, leads_grow g23 ll1, leads_grow G3.grows ll2, ll3, J.hz⟩ (by dsimp only; omega) (by omega)).mono ?_
  rintro v h4 ⟨e4, A4, L4, rfl, Y4, oe4, le4, M4⟩
  have X4 := X3.trans Y4
  have E4 := X4.eng
  refine ⟨_, _, _, rfl, pif_f rfl ?_⟩
  have n4 := Y4.grew.n1
  have r4 := Y4.grew.room
  have g34 := G3.grows.trans Y4.grew.grows
  refine (IH (j := ⟨j.f, j.op, j.l + 1, hi1, hi2, hi3⟩) E4 ⟨J.form, J.op, by dsimp only; omega, oh1, oh2, oh3, leads_grow (G2.grows.trans g34) lh1, leads_grow g34 lh2, leads_grow Y4.grew.grows lh3, J.hz⟩ (by dsimp only; omega) (by omega)).mono ?_
  rintro v h5 ⟨e5, A5, L5, rfl, Y5, oe5, le5, M5⟩
  have X5 := X4.trans Y5
  have E5 := X5.eng
  refine ⟨_, _, _, rfl, pif_f rfl ?_⟩
  rw [psome_some]
  have n5 := Y5.grew.n1
  have r5 := Y5.grew.room
  dsimp only at le4 le5 M4 M5
  have le4' := leads_grow Y5.grew.grows le4
  obtain ⟨A6, e6, v6, G6, oe6, le6, M6⟩ := E5.live.make l0 (by omega) le4' le5 oe4 oe5 (by omega)
  refine ⟨_, E5.blk.all.cell0 rfl, (make_spec E5.st E5.live.ok.ok (by have := E5.live.ok.len; omega) hv.2 J.form (by omega) oe4 oe5).mono ?_⟩
  rintro v h6 ⟨rfl, St6, C6⟩
  rw [v6] at St6 ⊢
  dsimp only at St6 ⊢
  have X6 := X5.trans (E5.step St6 C6 G6)
  refine ⟨_, _, _, rfl, e6, A6, L5, rfl, X6.le (by omega), oe6, le6, fun bs hbs => ?_⟩
  cases bs with
  | nil => simp only [List.length_nil] at hbs; omega
  | cons t rs =>
    simp only [List.length_cons] at hbs
    have hrs : (rs.length : Int) = n - (j.l + 1) := by omega
    have m6 := M6 rs hrs
    have m1 := M1 rs hrs
    have m2 := M2 rs hrs
    have m3 := M3 rs hrs
    have w23 := (G2.trans G3)
    cases t with
    | false =>
      rw [m6.1, Y5.grew.hold E4.live le4, M4 rs hrs, w23.hold E1.live ll1, G3.hold E2.live ll2, m1.1, m2.1, m3.1, G1.hold E.live J.lb, X2.grew.hold E.live J.lc]
    | true =>
      have w34 := G3.trans Y4.grew
      rw [m6.2, M5 rs hrs, (G2.trans w34).hold E1.live lh1, w34.hold E2.live lh2, Y4.grew.hold E3.live lh3, m1.2, m2.2, m3.2, G1.hold E.live J.lb, X2.grew.hold E.live J.lc]
theorem truth_spec {e : Edg} : Spec TP 263 #[e.val] h fun v h' => v = .int .u8 (bitI (decide (0 < e.a))) ∧ h' = h := by
  refine f263_ok ?_
  unfold f263_sem bitI
  refine pif_dec (fun hc => ?_) fun hc => ?_
  · rw [if_pos (by simpa using hc)]; exact ⟨rfl, rfl⟩
  · rw [if_neg (by simpa using hc)]; exact ⟨rfl, rfl⟩
theorem hold_last {g : Int → Option Rec} {f : Int} {e : Edg} (G : Good g n) (L : leadsB g n f e n) (o : e.ok) : hold g f e n [] = decide (0 < e.a) := by
  rw [hold_nil]
  by_cases ha : e.a = 0
  · rw [if_pos ha, ha]; rfl
  · rw [if_neg ha]
    have a0 := o.a0
    have : g e.a = none := by
      cases hg : g e.a with
      | none => rfl
      | some r =>
        have q := (leads_child G.ids L hg).2.1
        have k := (G.ok _ _ hg).2.1
        simp only [rightB] at k
        omega
    rw [this]
    simp; omega
theorem leads_one {g : Int → Option Rec} {f : Int} (hv : varsB n) (hf : formB f) (h0 : 0 ≤ n) : leadsB g n f (oneE f n) n := by
  refine ⟨⟨hf, hv, h0, Int.le_refl _, ?_⟩, .inl (by simp [oneE])⟩
  unfold oneE
  dsimp only
  by_cases h5 : f = 5
  · rw [if_pos ⟨h5, by decide⟩, if_pos h5]; omega
  · rw [if_neg (by simp [h5]), if_neg h5]

theorem do_spec (n : Int) : ∀ k, DoSpec n k := by
  intro k
  induction k with
  | zero =>
    intro h o b bc bl A L S j E J hk hroom
    have hv := E.live.good.vars
    have l0 := J.l0
    have hln : j.l = n := by omega
    refine f223_ok ?_
    unfold f223_sem
    refine pif4 ?_ fun q1 q2 q3 q4 => ?_
    · rw [psome_some, w64 (x := j.l) (by omega)]
      refine ⟨_, E.blk.all.cell0 rfl, (svars_spec E.st.toR).ret ⟨_, rfl, pif_t (by rw [beq_iff_eq]; exact hln) (truth_spec.ret ⟨_, rfl, truth_spec.ret ⟨_, rfl, truth_spec.ret ⟨_, rfl, ?_⟩⟩⟩)⟩⟩
      have la := J.la
      have lb := J.lb
      have lc := J.lc
      rw [hln] at la lb lc
      have fin : ∀ e : Edg, e.ok → leadsB (getC A.cells) n j.f e n → hold (getC A.cells) j.f e n [] = opB j.op (decide (0 < j.a.a)) (decide (0 < j.b.a)) (decide (0 < j.c.a)) → DoneC h o b bc bl A n S j (cost 0) (.tuple #[e.val, .int .u8 0]) h := by
        intro e oe le me
        refine ⟨e, A, L, rfl, Ran.refl E, oe, by rw [hln]; exact le, fun bs hbs => ?_⟩
        have : bs = [] := List.eq_nil_of_length_eq_zero (by omega)
        subst this
        rw [hln, me, hold_last E.live.good la J.oa, hold_last E.live.good lb J.ob, hold_last E.live.good lc J.oc]
      refine ⟨by rw [wu8m]; omega, pif_split (fun q => ?_) fun q => ?_⟩
      · rw [hln]
        refine (one_spec (by omega) hv.2 J.form).ret ⟨_, _, rfl, ?_⟩
        refine fin (oneE j.f n) (one_ok (by omega) hv.2) (leads_one J.la.1.2.1 J.form (by omega)) ?_
        rw [hold_last E.live.good (leads_one J.la.1.2.1 J.form (by omega)) (one_ok (by omega) hv.2)]
        exact q.symm
      · refine fin e0 e0_ok (leads_e0 J.la.1.2.1 J.form (by omega) (Int.le_refl _)) ?_
        rw [hold_zero rfl]
        exact q.symm
    · simp only [beq_iff_eq] at q1 q2 q3 q4
      refine ⟨e0, A, L, rfl, (Ran.refl E).le (cost_pos 0), e0_ok, leads_e0 J.la.1.2.1 J.form l0 (by omega), fun bs hbs => ?_⟩
      rw [hold_zero rfl, hold_zero q2, hold_zero q3, hold_zero q4, J.hz q1]
  | succ k ih =>
    intro h o b bc bl A L S j E J hk hroom
    have hv := E.live.good.vars
    have l0 := J.l0
    refine f223_ok ?_
    unfold f223_sem
    refine pif4 ?_ fun q1 q2 q3 q4 => ?_
    · rw [psome_some, w64 (x := j.l) (by omega)]
      refine ⟨_, E.blk.all.cell0 rfl, (svars_spec E.st.toR).ret ⟨_, rfl, pif_f (by rw [beq_eq_false_iff_ne]; omega) ?_⟩⟩
      rw [psome_some]
      refine ⟨_, E.blk.all.cell 1 rfl, (cget_spec E.ca).mono ?_⟩
      rintro v h1 ⟨⟨e, ok, rfl, he⟩, R1, C1⟩
      have X1 := E.kept R1 C1 (fun c hc => .inl hc) E.ents
      refine ⟨_, _, _, rfl, pif_split (fun q => ?_) fun q => ?_⟩
      · obtain ⟨x, hx, hxj, hep, hxe⟩ := he q
        have K := E.ents x hx hep
        subst hxj hxe
        exact ⟨x.v, A, L, rfl, X1.le (cost_pos _), K.ok, K.lv, K.mean⟩
      · refine (split_spec ih X1.eng J hk hroom).mono ?_
        rintro v h2 ⟨e2, A2, L2, rfl, Y2, oe2, le2, M2⟩
        have X2 := X1.trans Y2
        refine ⟨_, _, _, rfl, pif_t rfl ?_⟩
        rw [psome_some]
        refine ⟨_, X2.eng.blk.all.cell 1 rfl, (cput_spec X2.eng.ca).mono ?_⟩
        rintro v h3 ⟨rfl, ⟨i, R3⟩, C3⟩
        have K3 : EntsOK (getC A2.cells) n (L2.set i ⟨j, e2, 1⟩) := by
          intro x hx hep
          rcases List.mem_or_eq_of_mem_set hx with hx | rfl
          · exact X2.eng.ents x hx hep
          · refine EntOK.mk (leads_grow X2.grew.grows J.la) (leads_grow X2.grew.grows J.lb) (leads_grow X2.grew.grows J.lc) le2 oe2 fun bs hbs => ?_
            dsimp only at hbs ⊢
            rw [M2 bs hbs, X2.grew.hold E.live J.la, X2.grew.hold E.live J.lb, X2.grew.hold E.live J.lc]
        have X3 := X2.trans (X2.eng.kept R3 C3 (fun c hc => .inr hc) K3)
        exact ⟨rfl, e2, A2, _, rfl, X3.le (by omega), oe2, le2, M2⟩
    · simp only [beq_iff_eq] at q1 q2 q3 q4
      refine ⟨e0, A, L, rfl, (Ran.refl E).le (cost_pos _), e0_ok, leads_e0 J.la.1.2.1 J.form l0 (by omega), fun bs hbs => ?_⟩
      rw [hold_zero rfl, hold_zero q2, hold_zero q3, hold_zero q4, J.hz q1]
end
end Go.Proofs.YtbeapoopomlgaaaGreat.Sx
