/- Contracts: the store. -/
import Derived.Test.YtbeapoopomlgaaaGreatCd
namespace Go.Proofs.YtbeapoopomlgaaaGreat.Sx
open Go Go.Proofs
open Go.IntKind (wrap)

/-- what a store's index and arena have to do with each other -/
def Linked (slots : Slots) (cells : Cells) : Prop := ∀ r id, InS slots r id ↔ getC cells id = some r
/-- a store, to be read -/
structure StR (h : Heap) (a : Addr) (cells : Cells) (n cnt room : Int) : Prop where
  ex : ∃ (ba bi : Nat) (slots : Slots), Has h a [.int .i64 n, .pointer (some (adr ba)), .pointer (some (adr bi))] ∧ ArR h (adr ba) cells cnt room ∧ IxR h (adr bi) slots cnt ∧ SI slots ∧ cntS slots < slots.length ∧ Linked slots cells
theorem StR.ext {h h' : Heap} {a : Addr} {cells : Cells} {n cnt room : Int} (R : StR h a cells n cnt room) (E : Ext h h') : StR h' a cells n cnt room := by
  obtain ⟨ba, bi, slots, h1, h2, h3, h4⟩ := R.ex
  exact ⟨ba, bi, slots, h1.ext E, h2.ext E, h3.ext E, h4⟩

def hasC (cells : Cells) (r : Rec) : Int := match cells.findIdx? (fun o => o == some r) with
  | some i => (i : Int) + 2
  | none => 0
theorem getC_at {cells : Cells} {i : Nat} {r : Rec} : getC cells ((i : Int) + 2) = some r ↔ cells[i]? = some (some r) := by
  unfold getC
  rw [if_neg (by omega)]
  have : ((i : Int) + 2 - 2).toNat = i := by omega
  rw [this]
  cases h : cells[i]? with
  | none => simp
  | some o => cases o <;> simp
theorem getC_pos {cells : Cells} {id : Int} {r : Rec} (h : getC cells id = some r) : 2 ≤ id ∧ cells[(id - 2).toNat]? = some (some r) := by
  unfold getC at h
  split at h
  · cases h
  · refine ⟨by omega, ?_⟩
    cases hx : cells[(id - 2).toNat]? with
    | none => rw [hx] at h; cases h
    | some o => rw [hx] at h; simp at h; rw [h]
theorem hasC_of {slots : Slots} {cells : Cells} {r : Rec} {id : Int} (hS : SI slots) (hb : slots.length < 18446744073709551616) (hl : Linked slots cells) (hi : InS slots r id) : hasC cells r = id ∧ 2 ≤ id := by
  obtain ⟨h2, hc⟩ := getC_pos ((hl r id).1 hi)
  unfold hasC
  cases hf : cells.findIdx? (fun o => o == some r) with
  | none =>
    rw [List.findIdx?_eq_none_iff] at hf
    have := hf _ (List.mem_of_getElem? hc)
    simp at this
  | some i =>
    obtain ⟨h3, h4, -⟩ := List.findIdx?_eq_some_iff_getElem.1 hf
    have h5 : cells[i]? = some (some r) := by rw [List.getElem?_eq_getElem h3]; simpa using h4
    have := hS.uniq hb hi ((hl r _).2 (getC_at.2 h5))
    exact ⟨this.symm, h2⟩
theorem hasC_no {slots : Slots} {cells : Cells} {r : Rec} (hl : Linked slots cells) (hi : ∀ id, ¬ InS slots r id) : hasC cells r = 0 := by
  unfold hasC
  cases hf : cells.findIdx? (fun o => o == some r) with
  | none => rfl
  | some i =>
    obtain ⟨h3, h4, -⟩ := List.findIdx?_eq_some_iff_getElem.1 hf
    have h5 : cells[i]? = some (some r) := by rw [List.getElem?_eq_getElem h3]; simpa using h4
    exact absurd ((hl r _).2 (getC_at.2 h5)) (hi _)

section
variable {h : Heap} {a : Addr} {cells : Cells} {n cnt room : Int}
theorem svars_spec (R : StR h a cells n cnt room) : Spec TP 64 #[.pointer (some a)] h fun v h' => v = .int .i64 n ∧ h' = h := by
  obtain ⟨ba, bi, slots, H, -⟩ := R.ex
  refine f64_ok ?_
  unfold f64_sem
  exact ⟨_, H.cell0 rfl, rfl, rfl⟩
theorem sget_spec (R : StR h a cells n cnt room) {id : Int} (h0 : 0 ≤ id) (h1 : id < 4294967296) : Spec TP 69 #[.pointer (some a), .int .u32 id] h fun v h' => v = .tuple #[((getC cells id).getD rec0).val, .bool (getC cells id).isSome] ∧ h' = h := by
  obtain ⟨ba, bi, slots, H, A, -⟩ := R.ex
  refine f69_ok ?_
  unfold f69_sem
  exact ⟨_, H.cell 1 rfl, (aget_spec A h0 h1).ret ⟨_, _, _, _, _, _, _, _, rfl, rfl, rfl⟩⟩
theorem slen_spec (R : StR h a cells n cnt room) : Spec TP 41 #[.pointer (some a)] h fun v h' => v = .int .i64 cnt ∧ h' = h := by
  obtain ⟨ba, bi, slots, H, A, -⟩ := R.ex
  refine f41_ok ?_
  unfold f41_sem
  exact ⟨_, H.cell 1 rfl, (alen_spec A).ret ⟨_, rfl, rfl, rfl⟩⟩
theorem sroom_spec (R : StR h a cells n cnt room) : Spec TP 81 #[.pointer (some a)] h fun v h' => v = .int .i64 room ∧ h' = h := by
  obtain ⟨ba, bi, slots, H, A, -⟩ := R.ex
  refine f81_ok ?_
  unfold f81_sem
  exact ⟨_, H.cell 1 rfl, (aroom_spec A).ret ⟨_, rfl, rfl, rfl⟩⟩
theorem ihas_spec {slots : Slots} {bi : Nat} {r : Rec} (I : IxR h (adr bi) slots cnt) (hS : SI slots) (hr : cntS slots < slots.length) (hl : Linked slots cells) :
    Spec TP 121 #[.pointer (some (adr bi)), r.val] h fun v h' => v = .tuple #[.int .u32 (hasC cells r), .bool (decide (0 < hasC cells r))] ∧ h' = h := by
  have := I.len
  refine (iget_spec I hS hr).mono ?_
  rintro v h' ⟨⟨id, hi, rfl⟩ | ⟨hi, rfl⟩, rfl⟩
  · obtain ⟨h1, h2⟩ := hasC_of hS (by omega) hl hi
    rw [h1]; exact ⟨by simp; omega, rfl⟩
  · rw [hasC_no hl hi]; exact ⟨rfl, rfl⟩
theorem shas_spec {r : Rec} (R : StR h a cells n cnt room) : Spec TP 82 #[.pointer (some a), r.val] h fun v h' => v = .tuple #[.int .u32 (hasC cells r), .bool (decide (0 < hasC cells r))] ∧ h' = h := by
  obtain ⟨ba, bi, slots, H, A, I, hS, hr, hl⟩ := R.ex
  refine f82_ok ?_
  unfold f82_sem
  exact ⟨_, H.cell 2 rfl, (ihas_spec I hS hr hl).ret ⟨_, _, rfl, rfl, rfl⟩⟩
theorem sleads_spec {f l : Int} {e : Edg} (R : StR h a cells n cnt room) (he : e.ok) (hr : ∀ id r, getC cells id = some r → r.ok) :
    Spec TP 123 #[.pointer (some a), .int .u8 f, e.val, .int .i64 l] h fun v h' => v = .bool (decide (leadsB (getC cells) n f e l)) ∧ h' = h := by
  obtain ⟨ba, bi, slots, H, A, -⟩ := R.ex
  refine f123_ok ?_
  unfold f123_sem
  refine ⟨_, H.cell0 rfl, (plain_spec he).ret ⟨_, rfl, pif_split (fun hc => ⟨?_, rfl⟩) fun hc => pif_dec (fun h2 => ⟨?_, rfl⟩) fun h2 => ⟨_, H.cell 1 rfl, (aget_spec A he.a0 he.a1).ret ⟨_, _, _, _, _, _, _, _, rfl, ?_⟩⟩⟩⟩
  · simp only [Bool.not_eq_true', decide_eq_false_iff_not] at hc
    simp [leadsB, hc]
  · simp only [Bool.not_eq_false', decide_eq_true_eq] at hc
    simp [leadsB, hc, h2]
  · simp only [Bool.not_eq_false', decide_eq_true_eq] at hc
    cases hg : getC cells e.a with
    | none => exact pif_f rfl ⟨by simp [leadsB, hg, h2, topOK], rfl⟩
    | some r =>
      have hok := hr _ _ hg
      have := hok.t0
      have := hok.t1
      refine pif_t rfl ?_
      have hw : wrap .i64 ((some r).getD rec0).tp = r.tp := w64 (x := r.tp) (by omega)
      rw [hw]
      refine pif_split (fun h4 => pif_dec (fun h5 => ⟨?_, rfl⟩) fun h5 => ⟨?_, rfl⟩) fun h4 => ⟨?_, rfl⟩
      all_goals
        congr 1
        apply bdec
        simp_all [leadsB, topOK]
        try omega
end

/-- a store -/
structure StoreAt (h : Heap) (b : Nat) (A : Ar) (n : Int) (S : Nat → Prop) : Prop where
  ex : ∃ (ba bi : Nat) (slots : Slots) (S1 S2 : Nat → Prop), Blk h b 179 [.int .i64 n, .pointer (some (adr ba)), .pointer (some (adr bi))] ∧ ArAt h ba A S1 ∧ IxAt h bi slots A.n S2 ∧
    (∀ c, S1 c → S c ∧ c ≠ b ∧ h c ≠ none) ∧ (∀ c, S2 c → S c ∧ c ≠ b ∧ h c ≠ none ∧ ¬ S1 c) ∧ Linked slots A.cells
  sb : S b
  room : A.room ≤ 1048576
section
variable {h h' : Heap} {b : Nat} {A : Ar} {n : Int} {S S' : Nat → Prop}
theorem StoreAt.toR (R : StoreAt h b A n S) : StR h (adr b) A.cells n A.n A.room := by
  obtain ⟨ba, bi, slots, S1, S2, B, A1, I, h1, h2, hl⟩ := R.ex
  exact ⟨ba, bi, slots, B.all, A1.toR, I.toR, I.si, I.room, hl⟩
theorem StoreAt.chg (R : StoreAt h b A n S) (C : Chg h h' S') (hS : ∀ c, S c → ¬ S' c) : StoreAt h' b A n S := by
  obtain ⟨⟨ba, bi, slots, S1, S2, B, A1, I, h1, h2, hl⟩, hb, hr⟩ := R
  have live : ∀ c, S c → h c ≠ none → h' c ≠ none := fun c hc hn => by
    cases hx : h c with
    | none => exact absurd hx hn
    | some o => rw [C c o hx (hS c hc)]; simp
  exact ⟨⟨ba, bi, slots, S1, S2, B.chg C (hS _ hb), A1.chg C fun c hc => hS c (h1 c hc).1, I.chg C fun c hc => hS c (h2 c hc).1, fun c hc => ⟨(h1 c hc).1, (h1 c hc).2.1, live c (h1 c hc).1 (h1 c hc).2.2⟩,
    fun c hc => ⟨(h2 c hc).1, (h2 c hc).2.1, live c (h2 c hc).1 (h2 c hc).2.2.1, (h2 c hc).2.2.2⟩, hl⟩, hb, hr⟩
theorem StoreAt.mono (R : StoreAt h b A n S) (hS : ∀ c, S c → S' c) : StoreAt h b A n S' := by
  obtain ⟨⟨ba, bi, slots, S1, S2, B, A1, I, h1, h2, hl⟩, hb, hr⟩ := R
  exact ⟨⟨ba, bi, slots, S1, S2, B, A1, I, fun c hc => ⟨hS _ (h1 c hc).1, (h1 c hc).2⟩, fun c hc => ⟨hS _ (h2 c hc).1, (h2 c hc).2⟩, hl⟩, hS _ hb, hr⟩
theorem StoreAt.cut (R : StoreAt h b A n S) : StoreAt h b A n fun c => S c ∧ h c ≠ none := by
  obtain ⟨⟨ba, bi, slots, S1, S2, B, A1, I, h1, h2, hl⟩, hb, hr⟩ := R
  exact ⟨⟨ba, bi, slots, S1, S2, B, A1, I, fun c hc => ⟨⟨(h1 c hc).1, (h1 c hc).2.2⟩, (h1 c hc).2⟩, fun c hc => ⟨⟨(h2 c hc).1, (h2 c hc).2.2.1⟩, (h2 c hc).2⟩, hl⟩, ⟨hb, by rw [B.row]; simp⟩, hr⟩
end

theorem snew_spec {h : Heap} {n room : Int} (h0 : 0 ≤ n) (h1 : n ≤ 16) (h2 : 0 ≤ room) (h3 : room ≤ 1048576) : Spec TP 60 #[.int .i64 n, .int .i64 room] h fun v h' => ∃ b, v = .tuple #[.pointer (some (adr b)), .int .u8 0] ∧
    StoreAt h' b ⟨[], [], 0, room⟩ n (fun c => h c = none) ∧ Ext h h' := by
  refine f60_ok ?_
  unfold f60_sem
  refine pif_dec (fun hc => by omega) fun hc => pif_dec (fun hc => by omega) fun hc => (anew_spec h2 h3).mono ?_
  rintro v g ⟨ba, hba, rfl, rfl⟩
  refine ⟨_, _, rfl, pif_f rfl (inew_spec.mono ?_)⟩
  rintro v g ⟨bi, hbi, rfl, I, E⟩
  refine ⟨_, rfl, fun b hb => ⟨b, rfl, ?_, ?_⟩⟩
  · have E1 : Ext h (h.new ba (.cells #[.slice none 0 0, .slice none 0 0, .int .i64 0, .int .i64 room] 235 (0, 0))) := Ext.new _ hba
    have E2 : Ext g (g.new b (.cells #[.int .i64 n, .pointer (some (adr ba)), .pointer (some (adr bi))] 179 (0, 0))) := Ext.new _ hb
    have hb1 := E.fresh hb
    have hb0 := E1.fresh hb1
    have BA : Blk g ba 235 [.slice none 0 0, .slice none 0 0, .int .i64 0, .int .i64 room] := ⟨E _ _ (new_at _ _ _)⟩
    have hbane : ba ≠ b := fun he => by subst he; rw [BA.row] at hb; cases hb
    have I2 := (I.cut).chg (Chg.ext E2 (S := fun _ => False)) fun c _ hc => hc
    refine ⟨⟨ba, bi, _, fun c => c = ba, _, Blk.new _ _ _ _, ⟨⟨⟨none, 0, 0⟩, ⟨none, 0, 0⟩, BA.ext E2, OwnN.nil, OwnN.nil⟩, rfl, by simp, by simp, by simp, List.nodup_nil, by simp, by simp⟩, I2, ?_, ?_, ?_⟩, hb0, h3⟩
    · rintro c rfl; exact ⟨hba, hbane, by rw [(BA.ext E2).row]; simp⟩
    · rintro c ⟨hc1, hc2⟩
      have hcb : c ≠ b := fun he => hc2 (by rw [he]; exact hb)
      refine ⟨E1.fresh hc1, hcb, ?_, fun he => ?_⟩
      · rw [new_ne hcb]; exact hc2
      · subst he; rw [new_at] at hc1; cases hc1
    · intro r id
      constructor
      · rintro ⟨j, hj⟩
        rw [List.getElem?_replicate] at hj; split at hj <;> cases hj
      · intro hg
        obtain ⟨-, hg⟩ := getC_pos hg
        simp at hg
  · exact ((Ext.new _ hba).trans E).newR _ (((Ext.new _ hba).trans E).fresh hb)

/-- Find, as a function -/
def Ar.find (A : Ar) (n : Int) (r : Rec) : Ar × Int × Int :=
  if 0 < hasC A.cells r then (A, hasC A.cells r, 0) else if ¬ (rightB r n ∧ leadsB (getC A.cells) n r.fm r.lo (r.bt + 1) ∧ leadsB (getC A.cells) n r.fm r.hi (r.bt + 1)) then (A, 0, 1) else
  if (A.put r).2.2 then ((A.put r).1, (A.put r).2.1, 0) else (A, 0, 6)

theorem put_get {h : Heap} {b : Nat} {A : Ar} {S : Nat → Prop} {r : Rec} (R : ArAt h b A S) (hp : (A.put r).2.2 = true) (r' : Rec) (id' : Int) :
    getC (A.put r).1.cells id' = some r' ↔ (r' = r ∧ id' = (A.put r).2.1) ∨ getC A.cells id' = some r' := by
  have hfr := R.fr
  unfold Ar.put at hp ⊢
  split at hp
  · cases hp
  · rename_i hc
    rw [if_neg hc]
    split at hp
    · rename_i id hid
      dsimp only
      have h1 := hfr id (List.mem_of_getLast? hid)
      have hl := (List.getElem?_eq_some_iff.1 h1.2).1
      unfold getC
      by_cases h2 : id' < 2
      · simp only [if_pos h2]
        constructor
        · intro h; cases h
        · rintro (⟨-, h⟩ | h)
          · omega
          · cases h
      · simp only [if_neg h2]
        by_cases h3 : id' = id
        · subst h3
          rw [List.getElem?_set_self hl, h1.2]
          simp [eq_comm]
        · rw [List.getElem?_set_ne (by omega)]
          simp [h3]
    · rename_i hid
      dsimp only
      unfold getC
      by_cases h2 : id' < 2
      · simp only [if_pos h2]
        constructor
        · intro h; cases h
        · rintro (⟨-, h⟩ | h)
          · omega
          · cases h
      · simp only [if_neg h2]
        by_cases h3 : id' = (A.cells.length : Int) + 2
        · subst h3
          have e : ((A.cells.length : Int) + 2 - 2).toNat = A.cells.length := by omega
          rw [e, List.getElem?_append_right (Nat.le_refl _), List.getElem?_eq_none (Nat.le_refl _)]
          simp [eq_comm]
        · simp only [h3, and_false, false_or]
          rcases Nat.lt_or_ge (id' - 2).toNat A.cells.length with h4 | h4
          · rw [List.getElem?_append_left h4]
          · rw [List.getElem?_eq_none (l := A.cells) h4, List.getElem?_eq_none (by simp; omega)]

theorem put_no {A : Ar} {r : Rec} (h : (A.put r).2.2 = false) : A.put r = (A, 0, false) := by
  unfold Ar.put at h ⊢
  split
  · rfl
  · rename_i hc
    rw [if_neg hc] at h
    split at h <;> cases h
theorem put_n {A : Ar} {r : Rec} (h : (A.put r).2.2 = true) : (A.put r).1.n = A.n + 1 ∧ (A.put r).1.room = A.room ∧ A.n < A.room := by
  unfold Ar.put at h ⊢
  split at h
  · cases h
  · rename_i hc
    rw [if_neg hc]
    split <;> exact ⟨rfl, rfl, by omega⟩

theorem sfind_spec {h : Heap} {b : Nat} {A : Ar} {n : Int} {S : Nat → Prop} {r : Rec} (R : StoreAt h b A n S) (hr : r.ok) (hok : ∀ id r, getC A.cells id = some r → r.ok) (hlen : A.cells.length < 999999999) :
    Spec TP 61 #[.pointer (some (adr b)), r.val] h fun v h' => v = .tuple #[.int .u32 (A.find n r).2.1, .int .u8 (A.find n r).2.2] ∧ StoreAt h' b (A.find n r).1 n (Fp h S) ∧ Chg h h' S := by
  have RR := R.toR
  have keep : StoreAt h b A n (Fp h S) := R.mono fun c hc => .inl hc
  have hb0 := hr.b0
  have hb1 := hr.b1
  obtain ⟨⟨ba, bi, slots, S1, S2, B, A1, I, h1, h2, hl⟩, hb, hroom⟩ := R
  have hil := I.toR.len
  refine f61_ok ?_
  unfold f61_sem
  unfold Ar.find
  refine ⟨_, B.all.cell 2 rfl, (ihas_spec I.toR I.si I.room hl).ret ⟨_, _, rfl, pif_dec (fun hc => ?_) fun hc => ⟨_, B.all.cell0 rfl, (right_spec hr).ret ⟨_, rfl, pif_split (fun g1 => ?_) fun g1 => ?_⟩⟩⟩⟩
  · rw [if_pos hc]; exact ⟨rfl, keep, Chg.refl _ _⟩
  · simp only [Bool.not_eq_true', decide_eq_false_iff_not] at g1
    rw [if_neg hc, if_pos (by simp [g1])]; exact ⟨rfl, keep, Chg.refl _ _⟩
  · simp only [Bool.not_eq_false', decide_eq_true_eq] at g1
    rw [if_neg hc, w64 (x := r.bt) (by omega), w64 (x := r.bt + 1) (by omega)]
    refine (sleads_spec RR hr.lo hok).ret ⟨_, rfl, pif_split (fun g2 => ?_) fun g2 => (sleads_spec RR hr.hi hok).ret ⟨_, rfl, pif_split (fun g3 => ?_) fun g3 => ?_⟩⟩
    · simp only [Bool.not_eq_true', decide_eq_false_iff_not] at g2
      rw [if_pos (by simp [g2])]; exact ⟨rfl, keep, Chg.refl _ _⟩
    · simp only [Bool.not_eq_true', decide_eq_false_iff_not] at g3
      rw [if_pos (by simp [g3])]; exact ⟨rfl, keep, Chg.refl _ _⟩
    · simp only [Bool.not_eq_false', decide_eq_true_eq] at g2 g3
      rw [if_neg (by simp [g1, g2, g3])]
      refine ⟨_, B.all.cell 1 rfl, (aput_spec A1 hlen).mono ?_⟩
      rintro v g ⟨rfl, A2, C2⟩
      refine ⟨_, _, rfl, pif_split (fun hp => ?_) fun hp => ?_⟩
      · have hp' : (A.put r).2.2 = false := by simpa using hp
        rw [put_no hp'] at A2 ⊢
        refine ⟨rfl, ⟨⟨ba, bi, slots, fun c => Fp h S1 c ∧ g c ≠ none, S2, B.chg C2 fun hc => (h1 _ hc).2.1 rfl, A2.cut, I.chg C2 fun c hc => (h2 c hc).2.2.2, ?_, ?_, hl⟩, .inl hb, hroom⟩, C2.mono fun c _ hc => (h1 c hc).1⟩
        · rintro c ⟨hc1 | hc1, hc2⟩
          · exact ⟨.inl (h1 c hc1).1, (h1 c hc1).2.1, hc2⟩
          · exact ⟨.inr hc1, (fun he => by rw [he, B.row] at hc1; cases hc1), hc2⟩
        · intro c hc1
          obtain ⟨q1, q2, q3, q4⟩ := h2 c hc1
          refine ⟨.inl q1, q2, ?_, ?_⟩
          · cases hx : h c with
            | none => exact absurd hx q3
            | some o => rw [C2 c o hx q4]; simp
          · rintro ⟨hc2 | hc2, -⟩
            · exact q4 hc2
            · exact q3 hc2
      · have hp' : (A.put r).2.2 = true := by simpa using hp
        rw [if_pos hp']
        have B2 := B.chg C2 fun hc => (h1 _ hc).2.1 rfl
        have I2 := I.chg C2 fun c hc => (h2 c hc).2.2.2
        have hno : ∀ id, ¬ InS slots r id := fun id hi => hc (by rw [(hasC_of I.si (by omega) hl hi).1]; have := (hasC_of I.si (by omega) hl hi).2; omega)
        obtain ⟨pn, pr, plt⟩ := put_n hp'
        refine ⟨_, B2.all.cell 2 rfl, (iput_spec I2 hno (by omega)).mono ?_⟩
        rintro v g' ⟨rfl, ⟨slots', I3, hin⟩, C3⟩
        have dis : ∀ c, Fp h S1 c ∧ g c ≠ none → ¬ S2 c := by
          rintro c ⟨hc1 | hc1, -⟩ hc2
          · exact (h2 c hc2).2.2.2 hc1
          · exact (h2 c hc2).2.2.1 hc1
        have A3 := A2.cut.chg C3 dis
        refine ⟨_, _, rfl, rfl, ⟨⟨ba, bi, slots', fun c => Fp h S1 c ∧ g c ≠ none, fun c => Fp g S2 c ∧ g' c ≠ none, B2.chg C3 fun hc => (h2 _ hc).2.1 rfl, A3, by rw [pn]; exact I3.cut, ?_, ?_, ?_⟩, .inl hb, by rw [pr]; exact hroom⟩, ?_⟩
        · rintro c ⟨hc1, hc2⟩
          have live : g' c ≠ none := by
            cases hx : g c with
            | none => exact absurd hx hc2
            | some o => rw [C3 c o hx (dis c ⟨hc1, hc2⟩)]; simp
          rcases hc1 with hc1 | hc1
          · exact ⟨.inl (h1 c hc1).1, (h1 c hc1).2.1, live⟩
          · exact ⟨.inr hc1, (fun he => by rw [he, B.row] at hc1; cases hc1), live⟩
        · rintro c ⟨hc1 | hc1, hc2⟩
          · exact ⟨.inl (h2 c hc1).1, (h2 c hc1).2.1, hc2, fun hd => dis c hd hc1⟩
          · refine ⟨?_, (fun he => by rw [he, B2.row] at hc1; cases hc1), hc2, fun hd => hd.2 hc1⟩
            cases hx : h c with
            | none => exact .inr hx
            | some o =>
              refine .inl ?_
              by_cases hS1 : S1 c
              · exact (h1 c hS1).1
              · rw [C2 c o hx hS1] at hc1; cases hc1
        · intro r' id'
          rw [hin, put_get A1 hp', hl r' id']
        · exact (C2.mono fun c _ hc => (h1 c hc).1).trans C3 fun c _ hc => (h2 c hc).1
end Go.Proofs.YtbeapoopomlgaaaGreat.Sx
