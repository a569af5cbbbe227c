/- Contracts: the document's store. -/
import Derived.Test.YtbeapoopomlgaaaGreatCa
namespace Go.Proofs.YtbeapoopomlgaaaGreat.Sx
open Go Go.Proofs
open Go.IntKind (wrap)

abbrev Nodes : Type := List (Int × Rec)
@[reducible] def encN (p : Int × Rec) : List Value := .int .u32 p.1 :: p.2.vals
/-- the document's store, to be read -/
structure RefR (h : Heap) (a : Addr) (L : Nodes) (n room : Int) : Prop where
  ex : ∃ s : Sl, Has h a [.slice s.p s.n s.c, .slice none 0 0, .int .u32 L.length, .int .i64 n, .int .i64 room] ∧ SlR h s 8 encN L ∧ L.length < 1000000000
theorem RefR.ext {h h' : Heap} {a : Addr} {L : Nodes} {n room : Int} (R : RefR h a L n room) (E : Ext h h') : RefR h' a L n room := by
  obtain ⟨s, h1, h2, h3⟩ := R.ex; exact ⟨s, h1.ext E, h2.ext E, h3⟩

def atL (L : Nodes) (id : Int) : Int := match L.findIdx? (fun p => p.1 == id) with
  | some i => i
  | none => -1

theorem rat_spec {h : Heap} {a : Addr} {L : Nodes} {n room id : Int} (R : RefR h a L n room) : Spec TP 80 #[.pointer (some a), .int .u32 id] h fun v h' => v = .int .i64 (atL L id) ∧ h' = h := by
  obtain ⟨s, H, S, hL⟩ := R.ex
  have hlen := S.len
  refine f80_ok ?_
  unfold f80_sem
  refine .by (fun st h' => h' = h ∧ 0 ≤ st.1 ∧ st.1 ≤ L.length ∧ ∀ j y, j < st.1.toNat → L[j]? = some y → (y.1 == id) = false) (fun st _ => (L.length - st.1).toNat) ⟨rfl, by simp, by simp, by simp⟩ ?_
  rintro ⟨i, _⟩ h' ⟨rfl, h0, h1, h2⟩
  dsimp only at h0 h1 h2 ⊢
  refine ⟨s, H.cell0 rfl, pif_dec (fun hc => ?_) fun hc => ⟨?_, rfl⟩⟩
  · have hl : i.toNat < L.length := by omega
    refine ⟨s, H.cell0 rfl, S.read h0 (List.getElem?_eq_getElem hl) fun q hq => ⟨_, hq.cell0 rfl, pif_split (fun he => ⟨?_, rfl⟩) fun he => ?_⟩⟩
    · unfold atL
      rw [findIdx_at (List.getElem?_eq_getElem hl) he h2]
      simp only [Int.toNat_of_nonneg h0]
    · rw [w64 (by omega)]
      refine ⟨⟨rfl, by omega, by omega, fun j y hj hy => ?_⟩, by omega⟩
      rcases Nat.lt_or_ge j i.toNat with hlt | hge
      · exact h2 j y hlt hy
      · have : j = i.toNat := by omega
        subst this
        rw [List.getElem?_eq_getElem hl] at hy; cases hy; exact he
  · unfold atL
    rw [findIdx_no fun j y hy => h2 j y (by have := (List.getElem?_eq_some_iff.1 hy).1; omega) hy]
theorem encN_rec {h : Heap} {a : Addr} {p : Int × Rec} (H : Has h a (encN p)) : Has h (a.add 1) p.2.vals := H.part 1 (getPart (rest := []) rfl)
theorem rec_beq (x y : Rec) : ((x.fm == y.fm) && ((x.tp == y.tp) && ((x.bt == y.bt) && (((x.lo.t == y.lo.t) && ((x.lo.a == y.lo.a) && true)) && (((x.hi.t == y.hi.t) && ((x.hi.a == y.hi.a) && true)) && true))))) = decide (x = y) := by
  apply bdec
  obtain ⟨a, b, c, ⟨d, e⟩, ⟨f, g⟩⟩ := x
  obtain ⟨a', b', c', ⟨d', e'⟩, ⟨f', g'⟩⟩ := y
  simp

def hasL (L : Nodes) (r : Rec) : Int := match L.find? (fun p => p.2 == r) with
  | some p => p.1
  | none => 0
def getL (L : Nodes) (id : Int) : Option Rec := (L.find? (fun p => p.1 == id)).map (·.2)

theorem atL_spec (L : Nodes) (id : Int) : (atL L id = -1 ∧ getL L id = none) ∨ ∃ (i : Nat) (r : Rec), atL L id = i ∧ L[i]? = some (id, r) ∧ getL L id = some r := by
  unfold atL getL
  cases h : L.findIdx? (fun p => p.1 == id) with
  | none =>
    left
    refine ⟨rfl, ?_⟩
    rw [List.findIdx?_eq_none_iff] at h
    rw [List.find?_eq_none.2 (fun x hx => by simp [h x hx])]; rfl
  | some i =>
    right
    obtain ⟨h1, h2, h3⟩ := List.findIdx?_eq_some_iff_getElem.1 h
    have h2' : L[i].1 = id := by simpa using h2
    refine ⟨i, L[i].2, rfl, ?_, ?_⟩
    · rw [List.getElem?_eq_getElem h1, ← h2']
    · rw [find_at (i := i) (x := L[i]) (List.getElem?_eq_getElem h1) h2 fun j y hj hy => by
        have := h3 j hj
        obtain ⟨g1, g2⟩ := List.getElem?_eq_some_iff.1 hy
        rw [g2] at this; simpa using this]
      rfl

theorem rhas_spec {h : Heap} {a : Addr} {L : Nodes} {n room : Int} (R : RefR h a L n room) (r : Rec) : Spec TP 126 #[.pointer (some a), r.val] h fun v h' => v = .int .u32 (hasL L r) ∧ h' = h := by
  obtain ⟨s, H, S, hL⟩ := R.ex
  have hlen := S.len
  refine f126_ok ?_
  unfold f126_sem
  refine .by (fun st h' => h' = h ∧ 0 ≤ st.1 ∧ st.1 ≤ L.length ∧ ∀ j y, j < st.1.toNat → L[j]? = some y → (y.2 == r) = false) (fun st _ => (L.length - st.1).toNat) ⟨rfl, by simp, by simp, by simp⟩ ?_
  rintro ⟨i, _⟩ h' ⟨rfl, h0, h1, h2⟩
  dsimp only at h0 h1 h2 ⊢
  refine ⟨s, H.cell0 rfl, pif_dec (fun hc => ?_) fun hc => ⟨?_, rfl⟩⟩
  · have hl : i.toNat < L.length := by omega
    refine ⟨s, H.cell0 rfl, S.read h0 (List.getElem?_eq_getElem hl) fun q hq => ⟨_, _, _, _, _, _, _, encN_rec hq, ?_⟩⟩
    rw [rec_beq]
    refine pif_dec (fun he => ?_) fun he => ?_
    · refine ⟨s, H.cell0 rfl, S.read h0 (List.getElem?_eq_getElem hl) fun q hq => ⟨_, hq.cell0 rfl, ?_, rfl⟩⟩
      unfold hasL
      rw [find_at (List.getElem?_eq_getElem hl) (by simpa using he) h2]
    · rw [w64 (by omega)]
      refine ⟨⟨rfl, by omega, by omega, fun j y hj hy => ?_⟩, by omega⟩
      rcases Nat.lt_or_ge j i.toNat with hlt | hge
      · exact h2 j y hlt hy
      · have : j = i.toNat := by omega
        subst this
        rw [List.getElem?_eq_getElem hl] at hy; cases hy; simpa using he
  · unfold hasL
    rw [find_no fun j y hy => h2 j y (by have := (List.getElem?_eq_some_iff.1 hy).1; omega) hy]

def topOK (f t l : Int) : Option Rec → Prop
  | some r => r.fm = f ∧ l ≤ r.tp ∧ t ≤ r.tp
  | none => False
instance topOK_dec (f t l : Int) : (o : Option Rec) → Decidable (topOK f t l o)
  | some r => by unfold topOK; infer_instance
  | none => .isFalse id
/-- does an edge lead? -/
def leadsB (get : Int → Option Rec) (n f : Int) (e : Edg) (l : Int) : Prop := plainB f e l n ∧ (e.a < 2 ∨ topOK f e.t l (get e.a))
instance leadsB_dec (get : Int → Option Rec) (n f : Int) (e : Edg) (l : Int) : Decidable (leadsB get n f e l) := by unfold leadsB; infer_instance

theorem rleads_spec {h : Heap} {a : Addr} {L : Nodes} {n room f l : Int} {e : Edg} (R : RefR h a L n room) (he : e.ok) (hr : ∀ p ∈ L, p.2.ok) :
    Spec TP 71 #[.pointer (some a), .int .u8 f, e.val, .int .i64 l] h fun v h' => v = .bool (decide (leadsB (getL L) n f e l)) ∧ h' = h := by
  obtain ⟨s, H, S, hL⟩ := R.ex
  refine f71_ok ?_
  unfold f71_sem
  refine ⟨_, H.cell 3 rfl, (rplain_spec he).ret ⟨_, rfl, pif_split (fun hc => ⟨?_, rfl⟩) fun hc => (rat_spec R).ret ⟨_, rfl, pif_dec (fun h2 => ⟨?_, rfl⟩) fun h2 => pif_dec (fun h3 => ⟨?_, rfl⟩) fun h3 => ?_⟩⟩⟩
  · simp only [Bool.not_eq_true', decide_eq_false_iff_not] at hc
    simp [leadsB, hc]
  · simp only [Bool.not_eq_false', decide_eq_true_eq] at hc
    simp [leadsB, hc, h2]
  · simp only [Bool.not_eq_false', decide_eq_true_eq] at hc
    rcases atL_spec L e.a with ⟨g1, g2⟩ | ⟨i, r, g1, g2, g3⟩
    · simp [leadsB, topOK, h2, g2]
    · omega
  · simp only [Bool.not_eq_false', decide_eq_true_eq] at hc
    rcases atL_spec L e.a with ⟨g1, g2⟩ | ⟨i, r, g1, g2, g3⟩
    · omega
    · have hok : r.ok := hr (e.a, r) (List.mem_of_getElem? g2)
      have := hok.t0
      have := hok.t1
      rw [g1]
      refine ⟨s, H.cell0 rfl, S.read (i := (i : Int)) (by omega) (by simpa using g2) fun q hq => ⟨_, _, _, _, _, _, _, encN_rec hq, ?_⟩⟩
      dsimp only
      rw [w64 (x := r.tp) (by omega)]
      refine pif_split (fun h4 => pif_dec (fun h5 => ⟨?_, rfl⟩) fun h5 => ⟨?_, rfl⟩) fun h4 => ⟨?_, rfl⟩
      all_goals
        congr 1
        apply bdec
        simp_all [leadsB, topOK]
        try omega

/-- the document's store -/
structure RefAt (h : Heap) (b : Nat) (L : Nodes) (n room : Int) (S : Nat → Prop) : Prop where
  ex : ∃ s : Sl, Blk h b 118 [.slice s.p s.n s.c, .slice none 0 0, .int .u32 L.length, .int .i64 n, .int .i64 room] ∧ OwnN h s 144 8 encN L (fun c => S c ∧ c ≠ b)
  sb : S b
  len : L.length < 1000000000
theorem RefAt.toR {h : Heap} {b : Nat} {L : Nodes} {n room : Int} {S : Nat → Prop} (R : RefAt h b L n room S) : RefR h (adr b) L n room := by
  obtain ⟨⟨s, h1, h2⟩, h3, h4⟩ := R
  exact ⟨s, h1.all, h2.toR, h4⟩
theorem RefAt.chg {h h' : Heap} {b : Nat} {L : Nodes} {n room : Int} {S S' : Nat → Prop} (R : RefAt h b L n room S) (C : Chg h h' S') (hS : ∀ c, S c → ¬ S' c) : RefAt h' b L n room S := by
  obtain ⟨⟨s, h1, h2⟩, h3, h4⟩ := R
  exact ⟨⟨s, h1.chg C (hS _ h3), h2.chg C fun c hc => hS c hc.1⟩, h3, h4⟩
theorem RefAt.mono {h : Heap} {b : Nat} {L : Nodes} {n room : Int} {S S' : Nat → Prop} (R : RefAt h b L n room S) (hS : ∀ c, S c → S' c) : RefAt h b L n room S' := by
  obtain ⟨⟨s, h1, h2⟩, h3, h4⟩ := R
  exact ⟨⟨s, h1, h2.mono fun c hc => ⟨hS c hc.1, hc.2⟩⟩, hS _ h3, h4⟩

def findL (n room : Int) (L : Nodes) (r : Rec) : Nodes × Int × Int :=
  if 0 < hasL L r then (L, hasL L r, 0) else if ¬ (rightB r n ∧ leadsB (getL L) n r.fm r.lo (r.bt + 1) ∧ leadsB (getL L) n r.fm r.hi (r.bt + 1)) then (L, 0, 1) else
  if room ≤ L.length then (L, 0, 6) else (L ++ [((L.length : Int) + 2, r)], (L.length : Int) + 2, 0)

/-- what a call that owns blocks leaves to them -/
abbrev Fp (h : Heap) (S : Nat → Prop) (b : Nat) : Prop := S b ∨ h b = none

theorem elN : ElemOK 144 8 := elemOK (by kernel_rfl)
theorem RefAt.cut {h : Heap} {b : Nat} {L : Nodes} {n room : Int} {S : Nat → Prop} (R : RefAt h b L n room S) : RefAt h b L n room fun c => S c ∧ h c ≠ none := by
  obtain ⟨⟨s, h1, h2⟩, h3, h4⟩ := R
  refine ⟨⟨s, h1, ?_⟩, ⟨h3, by rw [h1.row]; simp⟩, h4⟩
  rcases h2 with h2 | ⟨c, hc, O⟩
  · exact .inl h2
  · exact .inr ⟨c, ⟨⟨hc.1, O.live⟩, hc.2⟩, O⟩

theorem encN_one (x : Int × Rec) : ∀ v ∈ encN x, v.oneCell' = true := by
  intro v hv; simp only [encN, Rec.vals, List.mem_cons, List.not_mem_nil, or_false] at hv
  rcases hv with rfl | rfl | rfl | rfl | rfl | rfl | rfl | rfl <;> rfl

theorem rfind_spec {h : Heap} {b : Nat} {L : Nodes} {n room : Int} {S : Nat → Prop} {r : Rec} (R : RefAt h b L n room S) (hr : r.ok) (hL : ∀ p ∈ L, p.2.ok) (hlen : L.length < 999999999) :
    Spec TP 62 #[.pointer (some (adr b)), r.val] h fun v h' => v = .tuple #[.int .u32 (findL n room L r).2.1, .int .i64 (findL n room L r).2.2] ∧ RefAt h' b (findL n room L r).1 n room (Fp h S) ∧ Chg h h' S := by
  have RR := R.toR
  have hb0 := hr.b0
  have hb1 := hr.b1
  obtain ⟨⟨s, B, O⟩, hS, -⟩ := R
  have hsl := O.toR.len
  refine f62_ok ?_
  unfold f62_sem
  have keep : RefAt h b L n room (Fp h S) := RefAt.mono ⟨⟨s, B, O⟩, hS, by omega⟩ fun c hc => .inl hc
  unfold findL
  refine (rhas_spec RR r).ret ⟨_, rfl, pif_dec (fun hc => ?_) fun hc => ⟨_, B.all.cell 3 rfl, (rright_spec hr).ret ⟨_, rfl, pif_split (fun h1 => ?_) fun h1 => ?_⟩⟩⟩
  · rw [if_pos hc]; exact ⟨rfl, keep, Chg.refl _ _⟩
  · simp only [Bool.not_eq_true', decide_eq_false_iff_not] at h1
    rw [if_neg hc, if_pos (by simp [h1])]; exact ⟨rfl, keep, Chg.refl _ _⟩
  · simp only [Bool.not_eq_false', decide_eq_true_eq] at h1
    rw [if_neg hc, w64 (x := r.bt) (by omega), w64 (x := r.bt + 1) (by omega)]
    refine (rleads_spec RR hr.lo hL).ret ⟨_, rfl, pif_split (fun h2 => ?_) fun h2 => (rleads_spec RR hr.hi hL).ret ⟨_, rfl, pif_split (fun h3 => ?_) fun h3 => ?_⟩⟩
    · simp only [Bool.not_eq_true', decide_eq_false_iff_not] at h2
      rw [if_pos (by simp [h2])]; exact ⟨rfl, keep, Chg.refl _ _⟩
    · simp only [Bool.not_eq_true', decide_eq_false_iff_not] at h3
      rw [if_pos (by simp [h3])]; exact ⟨rfl, keep, Chg.refl _ _⟩
    · simp only [Bool.not_eq_false', decide_eq_true_eq] at h2 h3
      rw [if_neg (by simp [h1, h2, h3])]
      refine ⟨s, B.all.cell0 rfl, room, B.all.cell 4 rfl, ?_⟩
      rw [hsl]
      refine pif_dec (fun h4 => ?_) fun h4 => ?_
      · rw [if_pos h4]; exact ⟨rfl, keep, Chg.refl _ _⟩
      · rw [if_neg h4]
        refine ⟨_, B.all.cell 2 rfl, ⟨none, 0, 0⟩, B.all.cell 1 rfl, ?_⟩
        refine pif_dec (fun h5 => by simp at h5) fun _ => ⟨_, B.all.cell 2 rfl, ?_⟩
        rw [wu32 (x := (L.length : Int) + 2) (by omega), wu32 (x := (L.length : Int) + 1) (by omega)]
        refine ⟨B.can (k := 2) (by simp), s, ?_⟩
        have B1 := B.set (k := 2) (.int .u32 ((L.length : Int) + 1)) (by simp)
        have C1 := setChg h b 2 [.int .u32 ((L.length : Int) + 1)]
        refine ⟨B1.all.cell0 rfl, ?_⟩
        have O1 := O.chg C1 fun c hc => hc.2
        refine O1.app (x := ((L.length : Int) + 2, r)) elN (fun _ => rfl) (encN_one _) (by omega) fun s' h' O' C' => ?_
        have hO1 := fun c (hc : sblk s c) => O1.inF hc
        have B2 := B1.chg C' fun hc => (hO1 _ hc).2 rfl
        refine ⟨B2.can (k := 0) (by simp), rfl, ?_⟩
        have B3 := B2.set (k := 0) (.slice s'.p s'.n s'.c) (by simp)
        have C3 := setChg h' b 0 [.slice s'.p s'.n s'.c]
        have hne : ∀ c, S c ∧ c ≠ b ∨ h.put ((adr b).add 2) [.int .u32 ((L.length : Int) + 1)] c = none → Fp h S c ∧ c ≠ b := by
          rintro c (⟨h6, h7⟩ | h6)
          · exact ⟨.inl h6, h7⟩
          · have hcb : c ≠ b := fun h => by subst h; rw [B1.row] at h6; cases h6
            rw [put_ne (by rw [add_block]; exact hcb)] at h6
            exact ⟨.inr h6, hcb⟩
        refine ⟨⟨⟨s', ?_, ?_⟩, .inl hS, ?_⟩, ?_⟩
        · have e : ((L ++ [((L.length : Int) + 2, r)]).length : Int) = (L.length : Int) + 1 := by simp
          rw [e]; exact B3
        · exact (O'.mono hne).chg C3 fun c hc => hc.2
        · simp; omega
        · refine ((C1.mono fun c _ hc => by subst hc; exact hS).trans C' fun c _ hc => (hO1 c hc).1).trans C3 fun c _ hc => by subst hc; exact hS
end Go.Proofs.YtbeapoopomlgaaaGreat.Sx
