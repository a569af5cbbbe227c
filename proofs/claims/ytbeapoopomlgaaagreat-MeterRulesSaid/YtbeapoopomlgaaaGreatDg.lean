/- Contracts: operations of two, by an engine and by hand. -/
import Derived.Test.YtbeapoopomlgaaaGreatDf
namespace Go.Proofs.YtbeapoopomlgaaaGreat.Sx
open Go Go.Proofs
open Go.IntKind (wrap)

/-- an operation of two as one of three -/
def wideP (op : Int) : Nat → Int
  | 0 => 0
  | k + 1 => orI .i64 (wideP op k) (shlI .i64 (andI .i64 (shrI .i64 op (wrap .i64 (Int.tdiv (k : Int) 2))) 1) (k : Int))
theorem wide_spec {h : Heap} {op : Int} : Spec TP 164 #[.int .i64 op] h fun v h' => v = .int .i64 (wideP op 8) ∧ h' = h := by
  refine f164_ok ?_
  unfold f164_sem
  refine .by (fun st g => ∃ k : Nat, k ≤ 8 ∧ st = (wideP op k, (k : Int), ()) ∧ g = h) (fun st _ => (8 - st.2.1).toNat) ⟨0, by omega, rfl, rfl⟩ ?_
  rintro _ _ ⟨k, hk, rfl, rfl⟩
  dsimp only
  refine pif_dec (fun hc => ?_) fun hc => ?_
  · have e1 : Int.tdiv (k : Int) 2 = ((k / 2 : Nat) : Int) := by rw [Int.tdiv_eq_ediv_of_nonneg (by omega)]; rfl
    refine ⟨by decide, by rw [e1, w64 (by omega)]; omega, by omega, ⟨k + 1, by omega, ?_, rfl⟩, by rw [w64 (by omega)]; omega⟩
    rw [w64 (x := (k : Int) + 1) (by omega)]
    rfl
  · have : k = 8 := by omega
    subst this
    exact ⟨rfl, rfl⟩
section
variable {h : Heap} {o b bc bl : Nat} {A : Ar} {n : Int} {L : List Ent} {S : Nat → Prop} {f op wop : Int} {x y : Edg}
theorem oat_spec (E : Eng h o b bc bl A n L S) (J : JobOK (getC A.cells) n ⟨f, wop, 0, x, y, e0⟩) (hroom : A.n + cost n.toNat ≤ A.room) :
    Spec TP 163 #[.pointer (some (adr o)), .int .u8 f, .int .i64 wop, .int .i64 0, x.val, y.val, .agg #[.int .u8 0, .int .u32 0]] h (DoneC h o b bc bl A n S ⟨f, wop, 0, x, y, e0⟩ (cost n.toNat)) := by
  have hv := E.live.good.vars
  have ho := J.op
  dsimp only at ho
  have lead : ∀ {e : Edg}, e.ok → leadsB (getC A.cells) n f e 0 → Spec TP 123 #[.pointer (some (adr b)), .int .u8 f, e.val, .int .i64 0] h fun v h' => v = .bool true ∧ h' = h := fun {e} oe le => by
    have q := sleads_spec (f := f) (l := 0) E.st.toR oe E.live.ok.ok
    rw [decide_eq_true le] at q; exact q
  refine f163_ok ?_
  unfold f163_sem
  refine pif_f rfl (isForm_spec.ret ⟨_, rfl, pif_f (by simp [show formB f from J.form]) (pif_f rfl ?_)⟩)
  rw [psome_some]
  refine ⟨_, E.blk.all.cell0 rfl, (svars_spec E.st.toR).ret ⟨_, rfl, pif_f (by simp; omega) (pif_f (by simp; omega) (pif_f (by simp; omega) ?_))⟩⟩
  rw [psome_some]
  refine ⟨_, E.blk.all.cell0 rfl, (lead J.oa J.la).ret ⟨_, rfl, pif_f rfl ?_⟩⟩
  rw [psome_some]
  refine ⟨_, E.blk.all.cell0 rfl, (lead J.ob J.lb).ret ⟨_, rfl, pif_f rfl ?_⟩⟩
  rw [psome_some]
  refine ⟨_, E.blk.all.cell0 rfl, (lead (e := e0) e0_ok J.lc).ret ⟨_, rfl, pif_f rfl ?_⟩⟩
  rw [wu8 (x := wop) (by omega), wu8 (x := 0) (by omega)]
  refine (do_spec n n.toNat (j := ⟨f, wop, 0, x, y, e0⟩) E J (by dsimp only; omega) hroom).mono ?_
  rintro v g ⟨e, A', L', rfl, D⟩
  exact ⟨_, _, _, rfl, e, A', L', rfl, D⟩
theorem apply_spec (E : Eng h o b bc bl A n L S) (hop : 0 ≤ op ∧ op < 16) (hw : wideP op 8 = wop) (J : JobOK (getC A.cells) n ⟨f, wop, 0, x, y, e0⟩) (hroom : A.n + cost n.toNat ≤ A.room) :
    Spec TP 105 #[.pointer (some (adr o)), .int .u8 f, .int .i64 op, x.val, y.val] h (DoneC h o b bc bl A n S ⟨f, wop, 0, x, y, e0⟩ (cost n.toNat)) := by
  refine f105_ok ?_
  unfold f105_sem
  refine pif_f (by simp; omega) (pif_f (by simp; omega) (wide_spec.ret ⟨_, rfl, ?_⟩))
  rw [hw]
  refine (oat_spec E J hroom).mono ?_
  rintro v g ⟨e, A', L', rfl, D⟩
  exact ⟨_, _, _, rfl, e, A', L', rfl, D⟩

theorem Eng.ext {h' : Heap} (E : Eng h o b bc bl A n L S) (X : Ext h h') : Eng h' o b bc bl A n L S :=
  ⟨E.blk.ext X, E.st.chg (Chg.ext (S := fun _ => False) X) fun _ _ => id, E.ca.ext X, E.live, E.ents, E.no, E.ne⟩
theorem Eng.cut (E : Eng h o b bc bl A n L S) : Eng h o b bc bl A n L fun c => S c ∧ h c ≠ none := ⟨E.blk, E.st.cut, E.ca, E.live, E.ents, ⟨fun q => E.no.1 q.1, fun q => E.no.2.1 q.1, fun q => E.no.2.2 q.1⟩, E.ne⟩
/-- a hand with an engine -/
structure HandAt (h : Heap) (hb o b bc bl : Nat) (A : Ar) (n : Int) (L : List Ent) (S : Nat → Prop) (f : Int) : Prop where
  blk : Blk h hb 92 [.pointer (some (adr o)), .int .u8 f, .bool false]
  eng : Eng h o b bc bl A n L S
  no : ¬ S hb ∧ hb ≠ o ∧ hb ≠ bc ∧ hb ≠ bl
def HandC (h : Heap) (hb o b bc bl : Nat) (A : Ar) (n : Int) (S : Nat → Prop) (f wop : Int) (x y : Edg) (k : Int) (v : Value) (h' : Heap) : Prop :=
  ∃ (e : Edg) (A' : Ar) (L' : List Ent), v = e.val ∧ HandAt h' hb o b bc bl A' n L' (Fp h S) f ∧ Chg h h' (fun c => S c ∨ c = bc ∨ c = bl ∨ c = hb) ∧ Grew A A' n k ∧ e.ok ∧ leadsB (getC A'.cells) n f e 0 ∧
    ∀ bs : List Bool, (bs.length : Int) = n - 0 → hold (getC A'.cells) f e 0 bs = opB wop (hold (getC A.cells) f x 0 bs) (hold (getC A.cells) f y 0 bs) false
theorem hand_spec {hb : Nat} (H : HandAt h hb o b bc bl A n L S f) (hop : 0 ≤ op ∧ op < 16) (hw : wideP op 8 = wop) (J : JobOK (getC A.cells) n ⟨f, wop, 0, x, y, e0⟩) (hroom : A.n + cost n.toNat ≤ A.room) :
    Spec TP 46 #[.pointer (some (adr hb)), .int .i64 op, x.val, y.val] h (HandC h hb o b bc bl A n S f wop x y (cost n.toNat)) := by
  obtain ⟨B, E, no⟩ := H
  refine f46_ok ?_
  unfold f46_sem
  rw [psome_some]
  refine ⟨_, B.all.cell0 rfl, ?_⟩
  rw [psome_some]
  refine ⟨_, B.all.cell 1 rfl, (apply_spec E hop hw J hroom).mono ?_⟩
  rintro v g ⟨e, A', L', rfl, X, oe, le, M⟩
  have hT : ¬ (S hb ∨ hb = bc ∨ hb = bl) := fun hc => hc.elim no.1 fun hc => hc.elim no.2.2.1 no.2.2.2
  have B1 := B.chg X.chg hT
  refine ⟨_, _, _, rfl, ?_⟩
  rw [psome_some]
  refine ⟨false, B1.all.cell 2 rfl, pif_f rfl ?_⟩
  rw [psome_some]
  have C2 := setChg g hb 2 [.bool ((wrap .i64 0) != 0)]
  have hl : h hb ≠ none := by rw [B.row]; simp
  have noF : ¬ Fp h S hb := fun hc => hc.elim no.1 hl
  have B2 := B1.set (k := 2) (.bool ((wrap .i64 0) != 0)) (by simp)
  have E1 := X.eng
  refine ⟨B1.can (by simp), e, A', L', rfl, ⟨B2, ⟨E1.blk.chg C2 fun q => no.2.1 q.symm, E1.st.chg C2 fun c hc q => noF (q ▸ hc), E1.ca.chg C2 (fun q => no.2.2.1 q.symm) (fun q => no.2.2.2 q.symm), E1.live, E1.ents, E1.no, E1.ne⟩, noF, no.2⟩, ?_, X.grew, oe, le, fun bs hbs => ?_⟩
  · intro c p hc hS
    exact C2 c p (X.chg c p hc fun q => hS (q.elim .inl fun q => .inr (q.elim .inl fun q => .inr (.inl q)))) fun q => hS (.inr (.inr (.inr q)))
  · have := M bs hbs
    dsimp only at this
    rw [this, hold_zero (e := e0) rfl]
theorem not_spec {hb : Nat} (H : HandAt h hb o b bc bl A n L S f) (hw : wideP 3 8 = wop) (J : JobOK (getC A.cells) n ⟨f, wop, 0, x, x, e0⟩) (hroom : A.n + cost n.toNat ≤ A.room) :
    Spec TP 47 #[.pointer (some (adr hb)), x.val] h (HandC h hb o b bc bl A n S f wop x x (cost n.toNat)) := by
  refine f47_ok ?_
  unfold f47_sem
  refine (hand_spec H (by decide) hw J hroom).mono ?_
  rintro v g ⟨e, A', L', rfl, D⟩
  exact ⟨_, _, rfl, e, A', L', rfl, D⟩
end

theorem live_new {n room : Int} (h0 : 0 ≤ n) (h1 : n ≤ 16) (hr : room ≤ 1048576) : Live ⟨[], [], 0, room⟩ n := by
  have hno : ∀ id, getC ([] : Cells) id = none := fun id => by unfold getC; split <;> simp
  have no : ∀ {id : Int} {r : Rec}, getC ([] : Cells) id = some r → False := fun {id r} h => by rw [hno] at h; cases h
  exact ⟨⟨fun id r h => (no h).elim, by simp, hr, rfl⟩, ⟨⟨h0, h1⟩, fun id r h => (no h).elim, fun id r h => (no h).elim⟩, fun id h => (List.not_mem_nil h).elim, List.nodup_nil, fun i j r h => (no h).elim⟩
theorem engine_spec {h : Heap} {n room : Int} (h0 : 0 ≤ n) (h1 : n ≤ 16) (h2 : 0 ≤ room) (h3 : room ≤ 1048576) : Spec TP 43 #[.int .i64 n, .int .i64 room, .int .i64 6] h fun v h' => ∃ (o b bc bl : Nat) (L : List Ent) (S : Nat → Prop),
    v = .tuple #[.pointer (some (adr b)), .pointer (some (adr o)), .bool true] ∧ Eng h' o b bc bl ⟨[], [], 0, room⟩ n L S ∧ Ext h h' ∧ (∀ c, S c → h c = none ∧ h' c ≠ none) ∧ h o = none ∧ h bc = none ∧ h bl = none := by
  refine f43_ok ?_
  unfold f43_sem
  refine (snew_spec h0 h1 h2 h3).mono ?_
  rintro v g ⟨b, rfl, St, E0⟩
  refine ⟨_, _, rfl, pif_f rfl (f102_ok ?_)⟩
  unfold f102_sem
  refine pif_f rfl (cnew_spec.mono ?_)
  rintro v g1 ⟨bc, bl, hbc, hbl, rfl, R, E1⟩
  refine ⟨_, _, rfl, pif_f rfl fun o ho => ⟨_, _, rfl, ?_⟩⟩
  have E2 : Ext g1 (g1.new o (.cells #[.pointer (some (adr b)), .pointer (some (adr bc))] 242)) := Ext.new _ ho
  have hog : g o = none := E1.fresh ho
  refine ⟨o, b, bc, bl, _, _, rfl, ⟨Blk.new _ _ _ _, (St.cut.chg (Chg.ext (S := fun _ => False) E1) fun _ _ => id).chg (Chg.ext (S := fun _ => False) E2) fun _ _ => id, R.ext E2, live_new h0 h1 h3, fun x hx hep => ?_, ⟨fun hc => hc.2 hog, fun hc => hc.2 hbc, fun hc => hc.2 hbl⟩, ?_⟩, E0.trans (E1.trans E2), fun c hc => ⟨hc.1, fun hn => hc.2 ((E1.trans E2).fresh hn)⟩, E0.fresh hog, E0.fresh hbc, E0.fresh hbl⟩
  · rw [(List.mem_replicate.1 hx).2] at hep
    cases hep
  · exact ⟨fun q => R.live.1 (q ▸ ho), fun q => R.live.2 (q ▸ ho)⟩
end Go.Proofs.YtbeapoopomlgaaaGreat.Sx
