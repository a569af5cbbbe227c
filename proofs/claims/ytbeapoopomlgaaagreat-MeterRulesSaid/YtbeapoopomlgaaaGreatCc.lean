/- Contracts: the arena of records. -/
import Derived.Test.YtbeapoopomlgaaaGreatCb
namespace Go.Proofs.YtbeapoopomlgaaaGreat.Sx
open Go Go.Proofs
open Go.IntKind (wrap)

abbrev rec0 : Rec := ⟨0, 0, 0, ⟨0, 0⟩, ⟨0, 0⟩⟩
abbrev Cells : Type := List (Option Rec)
@[reducible] def encC (o : Option Rec) : List Value := (o.getD rec0).vals ++ [.bool o.isSome, .int .i64 0]
@[reducible] def encU (x : Int) : List Value := [.int .u32 x]
theorem elC : ElemOK 262 9 := elemOK (by kernel_rfl)
theorem elU : ElemOK 23 1 := elemOK (by kernel_rfl)
theorem encC_one (x : Option Rec) : ∀ v ∈ encC x, v.oneCell' = true := by
  intro v hv; simp only [encC, Rec.vals, List.cons_append, List.nil_append, List.mem_cons, List.not_mem_nil, or_false] at hv
  rcases hv with rfl | rfl | rfl | rfl | rfl | rfl | rfl | rfl | rfl <;> rfl

/-- an arena, to be read -/
structure ArR (h : Heap) (a : Addr) (cells : Cells) (n room : Int) : Prop where
  ex : ∃ cs fs : Sl, Has h a [.slice cs.p cs.n cs.c, .slice fs.p fs.n fs.c, .int .i64 n, .int .i64 room] ∧ SlR h cs 9 encC cells ∧ cells.length < 1000000000
theorem ArR.ext {h h' : Heap} {a : Addr} {cells : Cells} {n room : Int} (R : ArR h a cells n room) (E : Ext h h') : ArR h' a cells n room := by
  obtain ⟨cs, fs, h1, h2, h3⟩ := R.ex; exact ⟨cs, fs, h1.ext E, h2.ext E, h3⟩

def getC (cells : Cells) (id : Int) : Option Rec := if id < 2 then none else (cells[(id - 2).toNat]?).join

theorem aat_spec {h : Heap} {a : Addr} {cells : Cells} {n room id : Int} (R : ArR h a cells n room) (h0 : 0 ≤ id) (h1 : id < 4294967296) : Spec TP 193 #[.pointer (some a), .int .u32 id] h fun v h' =>
    (∃ p, v = .pointer p ∧ (getC cells id = none ∧ p = none ∨ ∃ r q, getC cells id = some r ∧ p = some q ∧ Has h q (encC (some r)))) ∧ h' = h := by
  obtain ⟨cs, fs, H, S, hL⟩ := R.ex
  have hlen := S.len
  refine f193_ok ?_
  unfold f193_sem
  unfold getC
  refine pif_dec (fun hc => ⟨⟨none, rfl, .inl ⟨by rw [if_pos hc], rfl⟩⟩, rfl⟩) fun hc => ?_
  rw [wu32 (by omega), w64 (by omega)]
  refine ⟨cs, H.cell0 rfl, pif_dec (fun h2 => ⟨⟨none, rfl, .inl ⟨?_, rfl⟩⟩, rfl⟩) fun h2 => ?_⟩
  · rw [if_neg hc, List.getElem?_eq_none (by omega)]; rfl
  · have hl : (id - 2).toNat < cells.length := by omega
    have hg := List.getElem?_eq_getElem hl
    rw [if_neg hc, hg]
    refine ⟨cs, H.cell0 rfl, S.read (by omega) hg fun q hq => ⟨_, (hq.cell (w := .bool cells[(id - 2).toNat].isSome) 7 rfl), pif_split (fun h3 => ?_) fun h3 => ⟨cs, H.cell0 rfl, S.read (by omega) hg fun q hq => ⟨⟨_, rfl, ?_⟩, rfl⟩⟩⟩⟩
    · refine ⟨⟨none, rfl, .inl ⟨?_, rfl⟩⟩, rfl⟩
      generalize cells[(id - 2).toNat] = o at h3
      cases o <;> simp at h3 ⊢
    · right
      generalize cells[(id - 2).toNat] = o at h3 hq
      cases o with
      | none => simp at h3
      | some r => exact ⟨r, _, rfl, rfl, hq⟩

theorem aget_spec {h : Heap} {a : Addr} {cells : Cells} {n room id : Int} (R : ArR h a cells n room) (h0 : 0 ≤ id) (h1 : id < 4294967296) : Spec TP 135 #[.pointer (some a), .int .u32 id] h fun v h' =>
    v = .tuple #[((getC cells id).getD rec0).val, .bool (getC cells id).isSome] ∧ h' = h := by
  refine f135_ok ?_
  unfold f135_sem
  refine (aat_spec R h0 h1).mono ?_
  rintro v h' ⟨⟨p, rfl, h2⟩, rfl⟩
  refine ⟨p, rfl, ?_⟩
  rcases h2 with ⟨h2, rfl⟩ | ⟨r, q, h2, rfl, H⟩
  · rw [h2]; exact ⟨rfl, rfl⟩
  · rw [h2]
    refine ⟨_, _, _, _, _, _, _, H.part (ws := r.vals) 0 (getPart (rest := [.bool true, .int .i64 0]) rfl), rfl, rfl⟩

/-- an arena -/
structure Ar where
  cells : Cells
  free : List Int
  n : Int
  room : Int
structure ArAt (h : Heap) (b : Nat) (A : Ar) (S : Nat → Prop) : Prop where
  ex : ∃ cs fs : Sl, Blk h b 235 [.slice cs.p cs.n cs.c, .slice fs.p fs.n fs.c, .int .i64 A.n, .int .i64 A.room] ∧ OwnN h cs 262 9 encC A.cells (fun c => S c ∧ c ≠ b) ∧ OwnN h fs 23 1 encU A.free (fun c => S c ∧ c ≠ b)
  sb : S b
  len : A.cells.length < 1000000000
  flen : A.free.length < 1000000000
  fr : ∀ id ∈ A.free, 2 ≤ id ∧ A.cells[(id - 2).toNat]? = some none
  nd : A.free.Nodup
  n0 : 0 ≤ A.n
  n1 : A.n + A.free.length = A.cells.length
section
variable {h h' : Heap} {b : Nat} {A : Ar} {S S' : Nat → Prop}
theorem ArAt.toR (R : ArAt h b A S) : ArR h (adr b) A.cells A.n A.room := by
  obtain ⟨cs, fs, h1, h2, h3⟩ := R.ex
  exact ⟨cs, fs, h1.all, h2.toR, R.len⟩
theorem ArAt.chg (R : ArAt h b A S) (C : Chg h h' S') (hS : ∀ c, S c → ¬ S' c) : ArAt h' b A S := by
  obtain ⟨cs, fs, h1, h2, h3⟩ := R.ex
  exact ⟨⟨cs, fs, h1.chg C (hS _ R.sb), h2.chg C fun c hc => hS c hc.1, h3.chg C fun c hc => hS c hc.1⟩, R.sb, R.len, R.flen, R.fr, R.nd, R.n0, R.n1⟩
theorem ArAt.mono (R : ArAt h b A S) (hS : ∀ c, S c → S' c) : ArAt h b A S' := by
  obtain ⟨cs, fs, h1, h2, h3⟩ := R.ex
  exact ⟨⟨cs, fs, h1, h2.mono fun c hc => ⟨hS c hc.1, hc.2⟩, h3.mono fun c hc => ⟨hS c hc.1, hc.2⟩⟩, hS _ R.sb, R.len, R.flen, R.fr, R.nd, R.n0, R.n1⟩
theorem OwnN.cut {α : Type} {s : Sl} {T sz : Nat} {enc : α → List Value} {l : List α} {F : Nat → Prop} (O : OwnN h s T sz enc l F) : OwnN h s T sz enc l fun c => F c ∧ h c ≠ none := by
  rcases O with O | ⟨c, hc, O⟩
  · exact .inl O
  · exact .inr ⟨c, ⟨hc, O.live⟩, O⟩
theorem ArAt.cut (R : ArAt h b A S) : ArAt h b A fun c => S c ∧ h c ≠ none := by
  obtain ⟨cs, fs, h1, h2, h3⟩ := R.ex
  exact ⟨⟨cs, fs, h1, h2.cut.mono fun c hc => ⟨⟨hc.1.1, hc.2⟩, hc.1.2⟩, h3.cut.mono fun c hc => ⟨⟨hc.1.1, hc.2⟩, hc.1.2⟩⟩, ⟨R.sb, by rw [h1.row]; simp⟩, R.len, R.flen, R.fr, R.nd, R.n0, R.n1⟩
end

def Ar.put (A : Ar) (r : Rec) : Ar × Int × Bool := if A.n ≥ A.room then (A, 0, false) else match A.free.getLast? with
  | some id => (⟨A.cells.set (id - 2).toNat (some r), A.free.dropLast, A.n + 1, A.room⟩, id, true)
  | none => (⟨A.cells ++ [some r], [], A.n + 1, A.room⟩, (A.cells.length : Int) + 2, true)

theorem anew_spec {h : Heap} {room : Int} (h0 : 0 ≤ room) (h1 : room ≤ 1048576) : Spec TP 119 #[.int .i64 room] h fun v h' => ∃ b, h b = none ∧ v = .tuple #[.pointer (some (adr b)), .int .u8 0] ∧
    h' = h.new b (.cells #[.slice none 0 0, .slice none 0 0, .int .i64 0, .int .i64 room] 235 (0, 0)) := by
  refine f119_ok ?_
  unfold f119_sem
  exact pif_dec (fun hc => by omega) fun hc => pif_dec (fun hc => by omega) fun hc b hb => ⟨b, hb, rfl, rfl⟩
theorem alen_spec {h : Heap} {a : Addr} {cells : Cells} {n room : Int} (R : ArR h a cells n room) : Spec TP 101 #[.pointer (some a)] h fun v h' => v = .int .i64 n ∧ h' = h := by
  obtain ⟨cs, fs, H, -, -⟩ := R.ex
  refine f101_ok ?_
  unfold f101_sem
  exact ⟨_, H.cell 2 rfl, rfl, rfl⟩
theorem aroom_spec {h : Heap} {a : Addr} {cells : Cells} {n room : Int} (R : ArR h a cells n room) : Spec TP 138 #[.pointer (some a)] h fun v h' => v = .int .i64 room ∧ h' = h := by
  obtain ⟨cs, fs, H, -, -⟩ := R.ex
  refine f138_ok ?_
  unfold f138_sem
  exact ⟨_, H.cell 3 rfl, rfl, rfl⟩

theorem aput_spec {h : Heap} {b : Nat} {A : Ar} {S : Nat → Prop} {r : Rec} (R : ArAt h b A S) (hlen : A.cells.length < 999999999) :
    Spec TP 124 #[.pointer (some (adr b)), r.val] h fun v h' => v = .tuple #[.int .u32 (A.put r).2.1, .bool (A.put r).2.2] ∧ ArAt h' b (A.put r).1 (Fp h S) ∧ Chg h h' S := by
  have keep : ArAt h b A (Fp h S) := R.mono fun c hc => .inl hc
  obtain ⟨⟨cs, fs, B, O, F⟩, hS, -, hfl, hfr, hnd, hn0, hn1⟩ := R
  have hcl := O.toR.len
  have hfl' := F.toR.len
  refine f124_ok ?_
  unfold f124_sem
  unfold Ar.put
  refine ⟨_, B.all.cell 2 rfl, _, B.all.cell 3 rfl, pif_dec (fun hc => ?_) fun hc => ⟨_, B.all.cell 2 rfl, B.can (k := 2) (by simp), fs, ?_⟩⟩
  · rw [if_pos hc]; exact ⟨rfl, keep, Chg.refl _ _⟩
  rw [if_neg hc]
  rw [w64 (x := A.n + 1) (by omega), w64 (x := (fs.n : Int) - 1) (by omega)]
  have B1 := B.set (k := 2) (.int .i64 (A.n + 1)) (by simp)
  have C1 := setChg h b 2 [.int .i64 (A.n + 1)]
  have O1 := O.chg C1 fun c hc => hc.2
  have F1 := F.chg C1 fun c hc => hc.2
  refine ⟨B1.all.cell 1 rfl, pif_dec (fun h1 => ?_) fun h1 => ?_⟩
  · have hne : A.free ≠ [] := fun hf => by rw [hf] at hfl'; simp at hfl'; omega
    obtain ⟨f, id, hf⟩ : ∃ f id, A.free = f ++ [id] := ⟨_, _, (List.dropLast_concat_getLast hne).symm⟩
    have hid0 := hfr id (by rw [hf]; simp)
    have hid : 2 ≤ id ∧ (id - 2).toNat < A.cells.length := ⟨hid0.1, (List.getElem?_eq_some_iff.1 hid0.2).1⟩
    rw [hf, List.nodup_append] at hnd
    have hlf : f.length = fs.n - 1 ∧ 0 < fs.n := by rw [hf] at hfl'; simp at hfl'; omega
    rw [hf] at F1 ⊢
    simp only [List.getLast?_append, List.getLast?_singleton, Option.some_or, List.dropLast_concat]
    have hget : (f ++ [id])[((fs.n : Int) - 1).toNat]? = some id := by
      rw [List.getElem?_append_right (by omega)]
      have : ((fs.n : Int) - 1).toNat - f.length = 0 := by omega
      rw [this]; rfl
    refine ⟨fs, B1.all.cell 1 rfl, F1.toR.read (by omega) hget fun q hq => ⟨_, hq, fs, B1.all.cell 1 rfl, ?_⟩⟩
    rcases F1 with ⟨-, F1⟩ | ⟨bf, hbf, F1⟩
    · simp at F1
    have hcap := F1.cap
    refine sliceS_iff.2 ⟨⟨by omega, by omega, by omega⟩, ?_⟩
    have hs : (⟨if fs.c = (0 : Int).toNat then fs.p else fs.p.map (·.add ((0 : Int).toNat * 1)), ((fs.n : Int) - 1).toNat - (0 : Int).toNat, fs.c - (0 : Int).toNat⟩ : Sl) = ⟨fs.p, fs.n - 1, fs.c⟩ := by
      have e1 : ((fs.n : Int) - 1).toNat = fs.n - 1 := by omega
      rw [e1, if_neg (by simp; omega), F1.p]; rfl
    rw [hs]
    have F2 := F1.pop
    have B2 := B1.set (k := 1) (.slice fs.p (fs.n - 1) fs.c) (by simp)
    have C2 := setChg (h.put ((adr b).add 2) [.int .i64 (A.n + 1)]) b 1 [.slice fs.p (fs.n - 1) fs.c]
    refine ⟨B1.can (k := 1) (by simp), cs, B2.all.cell0 rfl, ?_⟩
    rw [wu32 (x := id - 2) (by omega)]
    have O2 := O1.chg C2 fun c hc => hc.2
    rcases O2 with ⟨-, O2⟩ | ⟨bc, hbc, O2⟩
    · rw [O2] at hid; simp at hid
    rw [O2.p]
    have P := O2.put hid.2 (some r)
    have C3 := put_chg ((h.put ((adr b).add 2) [.int .i64 (A.n + 1)]).put ((adr b).add 1) [.slice fs.p (fs.n - 1) fs.c]) ((adr bc).add ((id - 2).toNat * 9)) (encC (some r))
    rw [add_block] at C3
    have hbb : b ≠ bc := fun h => hbc.2 h.symm
    have hff : bf ≠ bc := fun h => O2.ne (F2.chg C2 hbf.2) (by decide) h.symm
    refine ⟨by omega, by omega, O2.canPut hid.2, rfl, ⟨⟨cs, ⟨fs.p, fs.n - 1, fs.c⟩, B2.chg C3 hbb, .inr ⟨bc, ⟨.inl hbc.1, hbc.2⟩, P⟩, .inr ⟨bf, ⟨.inl hbf.1, hbf.2⟩, (F2.chg C2 hbf.2).chg C3 hff⟩⟩, .inl hS, ?_, ?_, ?_, hnd.1, ?_, ?_⟩, ?_⟩
    · simp; omega
    · show f.length < 1000000000; omega
    · intro j hj
      have h3 := hfr j (by rw [hf]; simp [hj])
      have h4 : j ≠ id := hnd.2.2 j hj id (by simp)
      refine ⟨h3.1, ?_⟩
      show (A.cells.set (id - 2).toNat (some r))[(j - 2).toNat]? = some none
      rw [List.getElem?_set_ne (by omega)]; exact h3.2
    · show 0 ≤ A.n + 1; omega
    · rw [hf] at hn1; simp at hn1 ⊢; omega
    · exact ((C1.mono fun c _ hc => by subst hc; exact hS).trans C2 fun c _ hc => by subst hc; exact hS).trans C3 fun c _ hc => by subst hc; exact hbc.1
  · have hf : A.free = [] := List.length_eq_zero_iff.1 (by omega)
    rw [hf]
    refine ⟨cs, B1.all.cell0 rfl, O1.app (x := some r) elC (fun _ => rfl) (encC_one _) (by omega) fun s' h' O' C' => ?_⟩
    have hO1 := fun c (hc : sblk cs c) => O1.inF hc
    have B2 := B1.chg C' fun hc => (hO1 _ hc).2 rfl
    have hs' := O'.toR.len
    simp only [List.length_append, List.length_cons, List.length_nil] at hs'
    have B3 := B2.set (k := 0) (.slice s'.p s'.n s'.c) (by simp)
    have C3 := setChg h' b 0 [.slice s'.p s'.n s'.c]
    refine ⟨B2.can (k := 0) (by simp), s', B3.all.cell0 rfl, ?_⟩
    rw [w64 (by omega), wu32 (x := (s'.n : Int) - 1) (by omega), wu32 (by omega)]
    have hne : ∀ c, S c ∧ c ≠ b ∨ h.put ((adr b).add 2) [.int .i64 (A.n + 1)] c = none → Fp h S c ∧ c ≠ b := by
      rintro c (⟨h6, h7⟩ | h6)
      · exact ⟨.inl h6, h7⟩
      · have hcb : c ≠ b := fun h => by subst h; rw [B1.row] at h6; cases h6
        rw [put_ne (by rw [add_block]; exact hcb)] at h6
        exact ⟨.inr h6, hcb⟩
    refine ⟨?_, ⟨⟨s', fs, ?_, ?_, ?_⟩, .inl hS, ?_, ?_, ?_, List.nodup_nil, ?_, ?_⟩, ?_⟩
    · simp only [List.getLast?_nil]; rw [show (s'.n : Int) - 1 + 2 = (A.cells.length : Int) + 2 by omega]
    · exact B3
    · exact (O'.mono hne).chg C3 fun c hc => hc.2
    · rw [hf] at F1
      exact ((F1.chg' C' fun c hc hc' => O1.apart F1 (by decide) hc' hc).chg C3 fun c hc => hc.2).mono fun c hc => ⟨.inl hc.1, hc.2⟩
    · simp; omega
    · simp
    · simp
    · show 0 ≤ A.n + 1; omega
    · rw [hf] at hn1; simp at hn1 ⊢; omega
    · refine ((C1.mono fun c _ hc => by subst hc; exact hS).trans C' fun c _ hc => (hO1 c hc).1).trans C3 fun c _ hc => by subst hc; exact hS
end Go.Proofs.YtbeapoopomlgaaaGreat.Sx
