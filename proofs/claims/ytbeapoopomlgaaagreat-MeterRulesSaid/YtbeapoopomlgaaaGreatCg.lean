/- Contracts: what edges reach. -/
import Derived.Test.YtbeapoopomlgaaaGreatCf
namespace Go.Proofs.YtbeapoopomlgaaaGreat.Sx
open Go Go.Proofs
open Go.IntKind (wrap)

/-- what can be read stays so -/
def Keep (h h' : Heap) : Prop := ∀ p vs, Has h p vs → Has h' p vs
theorem Keep.refl (h : Heap) : Keep h h := fun _ _ H => H
theorem Keep.trans {a b c : Heap} (x : Keep a b) (y : Keep b c) : Keep a c := fun p vs H => y p vs (x p vs H)
theorem Ext.keep {h h' : Heap} (E : Ext h h') : Keep h h' := fun _ _ H => H.ext E
theorem Chg.keep {h h' : Heap} {m : Nat} {es : Array MapEntry} {cl : Nat} (C : Chg h h' fun c => c = m) (hm : h m = some (.map es cl)) : Keep h h' := fun p vs H => H.chg C fun hp => by
  obtain ⟨c, e, fr, h1, -⟩ := H.row
  rw [hp, hm] at h1; cases h1
theorem SlR.keep {α : Type} {h h' : Heap} {s : Sl} {sz : Nat} {enc : α → List Value} {l : List α} (S : SlR h s sz enc l) (E : Keep h h') : SlR h' s sz enc l :=
  ⟨S.len, fun i x hi => by obtain ⟨a, h1, h2⟩ := S.at_ i x hi; exact ⟨a, h1, E _ _ h2⟩⟩
theorem ArR.keep {h h' : Heap} {a : Addr} {cells : Cells} {n room : Int} (R : ArR h a cells n room) (E : Keep h h') : ArR h' a cells n room := by
  obtain ⟨cs, fs, h1, h2, h3⟩ := R.ex; exact ⟨cs, fs, E _ _ h1, h2.keep E, h3⟩
theorem IxR.keep {h h' : Heap} {a : Addr} {slots : Slots} {n : Int} (R : IxR h a slots n) (E : Keep h h') : IxR h' a slots n := by
  obtain ⟨ts, h1, h2⟩ := R.ex; exact ⟨⟨ts, E _ _ h1, h2.keep E⟩, R.pow⟩
theorem StR.keep {h h' : Heap} {a : Addr} {cells : Cells} {n cnt room : Int} (R : StR h a cells n cnt room) (E : Keep h h') : StR h' a cells n cnt room := by
  obtain ⟨ba, bi, slots, h1, h2, h3, h4⟩ := R.ex
  exact ⟨ba, bi, slots, E _ _ h1, h2.keep E, h3.keep E, h4⟩
theorem RefR.keep {h h' : Heap} {a : Addr} {L : Nodes} {n room : Int} (R : RefR h a L n room) (E : Keep h h') : RefR h' a L n room := by
  obtain ⟨s, h1, h2, h3⟩ := R.ex; exact ⟨s, E _ _ h1, h2.keep E, h3⟩

/-! ### a map of ids -/
def entsOf (M : List Int) : List MapEntry := M.zipIdx.map fun p => { key := .int .u32 p.1, val := .int .i64 1, born := p.2 }
theorem ents_get (M : List Int) (i : Nat) : (entsOf M)[i]? = (M[i]?).map fun id => { key := .int .u32 id, val := .int .i64 1, born := i } := by
  simp only [entsOf, List.getElem?_map, List.getElem?_zipIdx]
  cases M[i]? <;> simp
theorem ents_mem {M : List Int} {e : MapEntry} (h : e ∈ entsOf M) : ∃ i id, M[i]? = some id ∧ e = { key := .int .u32 id, val := .int .i64 1, born := i } := by
  obtain ⟨i, hi⟩ := List.mem_iff_getElem?.1 h
  rw [ents_get] at hi
  cases hx : M[i]? with
  | none => rw [hx] at hi; cases hi
  | some id => rw [hx] at hi; cases hi; exact ⟨i, id, hx, rfl⟩
theorem ents_snoc (M : List Int) (id : Int) : entsOf (M ++ [id]) = entsOf M ++ [{ key := .int .u32 id, val := .int .i64 1, born := M.length }] := by
  simp [entsOf, List.zipIdx_append]
structure MapIs (h : Heap) (m : Nat) (M : List Int) : Prop where
  row : h m = some (.map (entsOf M).toArray M.length)
theorem MapIs.at_ {h : Heap} {m : Nat} {M : List Int} (H : MapIs h m M) : MapAt h (some m) .u32 (entsOf M).toArray M.length :=
  ⟨fun e he => by obtain ⟨i, id, -, rfl⟩ := ents_mem (by simpa using he); exact ⟨id, rfl⟩, fun b hb => by cases hb; exact H.row, fun h => by cases h⟩
theorem mget_in {M : List Int} {id : Int} (h : id ∈ M) : mget .u32 (entsOf M).toArray id = some (.int .i64 1) := by
  unfold mget
  rw [Option.map_eq_some_iff]
  have : ((entsOf M).toArray.toList.find? (mkey .u32 id)).isSome := by
    rw [List.find?_isSome]
    obtain ⟨i, hi⟩ := List.mem_iff_getElem?.1 h
    refine ⟨{ key := .int .u32 id, val := .int .i64 1, born := i }, ?_, by simp [mkey, kEq]⟩
    have : (entsOf M)[i]? = some { key := .int .u32 id, val := .int .i64 1, born := i } := by rw [ents_get, hi]; rfl
    simpa using List.mem_of_getElem? this
  obtain ⟨e, he⟩ := Option.isSome_iff_exists.1 this
  obtain ⟨i, id', -, h2⟩ := ents_mem (M := M) (by simpa using List.mem_of_find?_eq_some he)
  exact ⟨e, he, by rw [h2]⟩
theorem mkey_no {M : List Int} {id : Int} (h : id ∉ M) : ∀ e ∈ (entsOf M), mkey .u32 id e = false := by
  intro e he
  obtain ⟨i, id', h1, rfl⟩ := ents_mem he
  simp only [mkey, kEq, Bool.true_and, beq_eq_false_iff_ne]
  rintro rfl
  exact h (List.mem_of_getElem? h1)
theorem mget_no {M : List Int} {id : Int} (h : id ∉ M) : mget .u32 (entsOf M).toArray id = none := by
  unfold mget
  rw [List.find?_eq_none.2 fun e he => by simp [mkey_no h e (by simpa using he)]]; rfl
theorem mput_no {M : List Int} {id : Int} (h : id ∉ M) : mput .u32 (entsOf M).toArray M.length id (.int .i64 1) = .map (entsOf (M ++ [id])).toArray (M ++ [id]).length := by
  unfold mput
  rw [List.findIdx?_eq_none_iff.2 fun e he => mkey_no h e (by simpa using he)]
  simp [ents_snoc]

/-! ### stores that are well formed, and what is reached -/
structure Good (get : Int → Option Rec) (n : Int) : Prop where
  vars : 0 ≤ n ∧ n ≤ 16
  ids : ∀ id r, get id = some r → 2 ≤ id ∧ id < 4294967296
  ok : ∀ id r, get id = some r → r.ok ∧ rightB r n ∧ leadsB get n r.fm r.lo (r.bt + 1) ∧ leadsB get n r.fm r.hi (r.bt + 1)
theorem leads_child {get : Int → Option Rec} {n f l : Int} {e : Edg} {r : Rec} (hg : ∀ id r, get id = some r → 2 ≤ id ∧ id < 4294967296) (h : leadsB get n f e l) (hr : get e.a = some r) : r.fm = f ∧ l ≤ r.tp ∧ e.t ≤ r.tp := by
  obtain ⟨-, h | h⟩ := h
  · have := (hg _ _ hr).1; omega
  · rw [hr] at h; exact h
inductive Rch (get : Int → Option Rec) : Int → Int → Prop
  | self {e r} (h : get e = some r) : Rch get e e
  | lo {e r x} (h : get e = some r) (hx : Rch get r.lo.a x) : Rch get e x
  | hi {e r x} (h : get e = some r) (hx : Rch get r.hi.a x) : Rch get e x

/-- a step of the search: M' has what M had, the edge's node, and with each new one where it leads -/
structure Went (get : Int → Option Rec) (e : Int) (M M' : List Int) : Prop where
  nd : M'.Nodup
  sub : ∀ x ∈ M, x ∈ M'
  here : ∀ r, get e = some r → e ∈ M'
  new : ∀ x ∈ M', x ∉ M → Rch get e x ∧ ∃ r, get x = some r ∧ (get r.lo.a ≠ none → r.lo.a ∈ M') ∧ (get r.hi.a ≠ none → r.hi.a ∈ M')

theorem visit_spec {a : Addr} {cells : Cells} {n cnt room : Int} (G : Good (getC cells) n) {b2 b5 b6 m : Nat} : ∀ (d : Nat) {h : Heap} {e : Edg} {M : List Int}, StR h a cells n cnt room → e.ok → (∀ r, getC cells e.a = some r → 17 ≤ r.tp + d) →
    Has h (adr b2) [.pointer (some a)] → Has h (adr b5) [.map (some m)] → Has h (adr b6) [.func (.func 190) #[] #[.pointer (some (adr b2)), .pointer (some (adr b5)), .pointer (some (adr b6))]] → MapIs h m M → M.Nodup →
    Spec TP 190 #[e.val, .pointer (some (adr b2)), .pointer (some (adr b5)), .pointer (some (adr b6))] h fun v h' => v = .tuple #[] ∧ ∃ M', MapIs h' m M' ∧ Chg h h' (fun c => c = m) ∧ Went (getC cells) e.a M M' := by
  intro d
  induction d with
  | zero =>
    intro h e M R he hd H2 H5 H6 HM hM
    obtain ⟨ba, bi, slots, H, A, -⟩ := R.ex
    refine f190_ok ?_
    unfold f190_sem
    refine ⟨_, H2, _, H.cell 1 rfl, (aget_spec A he.a0 he.a1).ret ⟨_, _, _, _, _, _, _, _, rfl, ?_⟩⟩
    cases hg : getC cells e.a with
    | none => exact pif_t rfl ⟨rfl, M, HM, Chg.refl _ _, hM, fun x hx => hx, (fun r hr => by rw [hg] at hr; cases hr), fun x hx hn => absurd hx hn⟩
    | some r =>
      have h1 := hd r hg
      have h2 := G.ok _ _ hg
      have h3 := h2.2.1
      have h4 := G.vars
      simp only [rightB] at h3
      omega
  | succ d ih =>
    intro h e M R he hd H2 H5 H6 HM hM
    obtain ⟨ba, bi, slots, H, A, -⟩ := R.ex
    refine f190_ok ?_
    unfold f190_sem
    refine ⟨_, H2, _, H.cell 1 rfl, (aget_spec A he.a0 he.a1).ret ⟨_, _, _, _, _, _, _, _, rfl, ?_⟩⟩
    cases hg : getC cells e.a with
    | none => exact pif_t rfl ⟨rfl, M, HM, Chg.refl _ _, hM, fun x hx => hx, (fun r hr => by rw [hg] at hr; cases hr), fun x hx hn => absurd hx hn⟩
    | some r =>
      obtain ⟨g1, g2, g3, g4⟩ := G.ok _ _ hg
      have htd := hd r hg
      simp only [rightB] at g2
      refine pif_f rfl ⟨_, H5, _, _, HM.at_, ?_⟩
      by_cases hin : e.a ∈ M
      · rw [mget_in hin]
        exact ⟨1, rfl, pif_t rfl ⟨rfl, M, HM, Chg.refl _ _, hM, fun x hx => hx, fun r hr => hin, fun x hx hn => absurd hx hn⟩⟩
      · rw [mget_no hin]
        refine ⟨0, rfl, pif_f rfl ⟨_, H5, m, _, _, rfl, HM.at_, ?_⟩⟩
        rw [mput_no hin]
        have C1 : Chg h (h.new m (.map (entsOf (M ++ [e.a])).toArray (M ++ [e.a]).length)) fun c => c = m := fun c o hc hn => by rw [new_ne hn]; exact hc
        have M1 : MapIs (h.new m (.map (entsOf (M ++ [e.a])).toArray (M ++ [e.a]).length)) m (M ++ [e.a]) := ⟨new_at _ _ _⟩
        have K1 := C1.keep HM.row
        have nd1 : (M ++ [e.a]).Nodup := by
          rw [List.nodup_append]
          exact ⟨hM, by simp, fun x hx y hy => by simp only [List.mem_singleton] at hy; rw [hy]; rintro rfl; exact hin hx⟩
        refine ⟨_, K1 _ _ H6, 190, #[], _, rfl, ⟨Tryz.f190, Tryz.func190, by kernel_rfl⟩, ?_⟩
        refine (ih (e := r.lo) (R.keep K1) g1.lo (fun r' hr' => ?_) (K1 _ _ H2) (K1 _ _ H5) (K1 _ _ H6) M1 nd1).mono ?_
        · have := (leads_child G.ids g3 hr').2.1; omega
        rintro v h2 ⟨rfl, M2, HM2, C2, W2⟩
        have K2 := K1.trans (C2.keep M1.row)
        refine ⟨rfl, _, K2 _ _ H6, 190, #[], _, rfl, ⟨Tryz.f190, Tryz.func190, by kernel_rfl⟩, ?_⟩
        refine (ih (e := r.hi) (R.keep K2) g1.hi (fun r' hr' => ?_) (K2 _ _ H2) (K2 _ _ H5) (K2 _ _ H6) HM2 W2.nd).mono ?_
        · have := (leads_child G.ids g4 hr').2.1; omega
        rintro v h3 ⟨rfl, M3, HM3, C3, W3⟩
        refine ⟨rfl, rfl, M3, HM3, (C1.trans C2 fun _ _ hc => hc).trans C3 fun _ _ hc => hc, W3.nd, fun x hx => W3.sub x (W2.sub x (by simp [hx])), fun _ _ => W3.sub _ (W2.sub _ (by simp)), fun x hx hn => ?_⟩
        by_cases hx2 : x ∈ M2
        · by_cases hx1 : x ∈ M ++ [e.a]
          · have hxe : x = e.a := by simpa [hn] using hx1
            subst hxe
            refine ⟨.self hg, r, hg, fun hl => ?_, fun hl => ?_⟩
            · cases hy : getC cells r.lo.a with
              | none => exact absurd hy hl
              | some y => exact W3.sub _ (W2.here y hy)
            · cases hy : getC cells r.hi.a with
              | none => exact absurd hy hl
              | some y => exact W3.here y hy
          · obtain ⟨q1, r', q2, q3, q4⟩ := W2.new x hx2 hx1
            exact ⟨.lo hg q1, r', q2, fun hl => W3.sub _ (q3 hl), fun hl => W3.sub _ (q4 hl)⟩
        · obtain ⟨q1, r', q2, q3, q4⟩ := W3.new x hx hx2
          exact ⟨.hi hg q1, r', q2, q3, q4⟩

structure Closed (get : Int → Option Rec) (es : List Edg) (M : List Int) : Prop where
  nd : M.Nodup
  from_ : ∀ x ∈ M, ∃ e ∈ es, Rch get e.a x
  has : ∀ e ∈ es, get e.a ≠ none → e.a ∈ M
  cl : ∀ x ∈ M, ∃ r, get x = some r ∧ (get r.lo.a ≠ none → r.lo.a ∈ M) ∧ (get r.hi.a ≠ none → r.hi.a ∈ M)
theorem Closed.went {get : Int → Option Rec} {es : List Edg} {M M' : List Int} {e : Edg} (C : Closed get es M) (W : Went get e.a M M') : Closed get (es ++ [e]) M' where
  nd := W.nd
  from_ := fun x hx => by
    by_cases h : x ∈ M
    · obtain ⟨e', h1, h2⟩ := C.from_ x h; exact ⟨e', by simp [h1], h2⟩
    · exact ⟨e, by simp, (W.new x hx h).1⟩
  has := fun e' he' hn => by
    rw [List.mem_append] at he'
    rcases he' with h | h
    · exact W.sub _ (C.has e' h hn)
    · simp only [List.mem_singleton] at h; subst h
      cases hy : get e'.a with
      | none => exact absurd hy hn
      | some y => exact W.here y hy
  cl := fun x hx => by
    by_cases h : x ∈ M
    · obtain ⟨r, h1, h2, h3⟩ := C.cl x h; exact ⟨r, h1, fun hl => W.sub _ (h2 hl), fun hl => W.sub _ (h3 hl)⟩
    · exact (W.new x hx h).2
theorem Rch.get {get : Int → Option Rec} {e x : Int} (h : Rch get e x) : get e ≠ none ∧ get x ≠ none := by
  induction h with
  | self h => simp [h]
  | lo h _ ih => exact ⟨by simp [h], ih.2⟩
  | hi h _ ih => exact ⟨by simp [h], ih.2⟩
theorem Closed.rch {get : Int → Option Rec} {es : List Edg} {M : List Int} (C : Closed get es M) {e x : Int} (h : Rch get e x) (he : e ∈ M) : x ∈ M := by
  induction h with
  | self h => exact he
  | lo h hx ih =>
    obtain ⟨r, h1, h2, h3⟩ := C.cl _ he
    rw [h] at h1; cases h1
    exact ih (h2 hx.get.1)
  | hi h hx ih =>
    obtain ⟨r, h1, h2, h3⟩ := C.cl _ he
    rw [h] at h1; cases h1
    exact ih (h3 hx.get.1)
theorem Closed.iff {get : Int → Option Rec} {es : List Edg} {M : List Int} (C : Closed get es M) (x : Int) : x ∈ M ↔ ∃ e ∈ es, Rch get e.a x :=
  ⟨C.from_ x, fun ⟨e, h1, h2⟩ => C.rch h2 (C.has e h1 h2.get.1)⟩

theorem reached_spec {h : Heap} {a : Addr} {cells : Cells} {n cnt room : Int} {s : Sl} {es : List Edg} (R : StR h a cells n cnt room) (G : Good (getC cells) n) (S : SlR h s 2 Edg.vals es) (hes : ∀ e ∈ es, e.ok) (hlen : es.length < 1000000000) :
    Spec TP 133 #[.pointer (some a), .slice s.p s.n s.c] h fun v h' => ∃ m M, v = .map (some m) ∧ h m = none ∧ Ext h h' ∧ MapIs h' m M ∧ Closed (getC cells) es M := by
  have hsl := S.len
  refine f133_ok ?_
  unfold f133_sem
  intro b2 hb2 b9 hb9 b5 hb5
  have E1 : Ext h (h.new b2 (.cells #[.pointer (some a)] 27 (0, 0))) := Ext.new _ hb2
  have B2 : Blk (h.new b2 (.cells #[.pointer (some a)] 27 (0, 0))) b2 27 [.pointer (some a)] := Blk.new _ _ _ _
  generalize (h.new b2 (.cells #[.pointer (some a)] 27 (0, 0))) = g1 at hb9 hb5 E1 B2 ⊢
  have E2 : Ext g1 (g1.new b9 (.map #[] 0)) := Ext.new _ hb9
  have M2 : MapIs (g1.new b9 (.map #[] 0)) b9 [] := ⟨new_at _ _ _⟩
  have B2' := B2.ext E2
  have h9 := E1.fresh hb9
  have E02 := E1.trans E2
  generalize (g1.new b9 (.map #[] 0)) = g2 at hb5 E2 M2 B2' E02 ⊢
  have E3 : Ext g2 (g2.new b5 (.cells #[.map none] 211 (0, 0))) := Ext.new _ hb5
  have B5 : Blk (g2.new b5 (.cells #[.map none] 211 (0, 0))) b5 211 [.map none] := Blk.new _ _ _ _
  have h5 := E02.fresh hb5
  have B23 := B2'.ext E3
  have M3 : MapIs (g2.new b5 (.cells #[.map none] 211 (0, 0))) b9 [] := ⟨E3 _ _ M2.row⟩
  have E03 := E02.trans E3
  generalize (g2.new b5 (.cells #[.map none] 211 (0, 0))) = g3 at B5 B23 M3 E03 ⊢
  have B54 := B5.set (k := 0) (.map (some b9)) (by simp)
  have C4 := setChg g3 b5 0 [.map (some b9)]
  have hne1 : b2 ≠ b5 := B23.ne B5 (by decide)
  have hne2 : b9 ≠ b5 := fun he => by subst he; have := M3.row.symm.trans B5.row; cases this
  refine ⟨B5.can (k := 0) (by simp), fun b6 hb6 => ?_⟩
  have B24 := B23.chg C4 hne1
  have M4 : MapIs (g3.put ((adr b5).add 0) [.map (some b9)]) b9 [] := ⟨C4 _ _ M3.row hne2⟩
  have E04 : Ext h (g3.put ((adr b5).add 0) [.map (some b9)]) := C4.extR E03 fun c hc => by rw [hc]; exact h5
  change (g3.put ((adr b5).add 0) [.map (some b9)]) b6 = none at hb6
  change CanPut ((g3.put ((adr b5).add 0) [.map (some b9)]).new b6 _) _ _ ∧ LoopS _ _ (((g3.put ((adr b5).add 0) [.map (some b9)]).new b6 _).put _ _)
  generalize (g3.put ((adr b5).add 0) [.map (some b9)]) = g4 at hb6 B54 B24 M4 E04 ⊢
  have E5 : Ext g4 (g4.new b6 (.cells #[.nilFunc] 270 (0, 0))) := Ext.new _ hb6
  have B6 : Blk (g4.new b6 (.cells #[.nilFunc] 270 (0, 0))) b6 270 [.nilFunc] := Blk.new _ _ _ _
  have h6 := E04.fresh hb6
  have B25 := B24.ext E5
  have B55 := B54.ext E5
  have M5 : MapIs (g4.new b6 (.cells #[.nilFunc] 270 (0, 0))) b9 [] := ⟨E5 _ _ M4.row⟩
  have E05 := E04.trans E5
  generalize (g4.new b6 (.cells #[.nilFunc] 270 (0, 0))) = g5 at B6 B25 B55 M5 E05 ⊢
  have B66 := B6.set (k := 0) (.func (.func 190) #[] #[.pointer (some (adr b2)), .pointer (some (adr b5)), .pointer (some (adr b6))]) (by simp)
  have C6 := setChg g5 b6 0 [.func (.func 190) #[] #[.pointer (some (adr b2)), .pointer (some (adr b5)), .pointer (some (adr b6))]]
  have hne3 : b2 ≠ b6 := B25.ne B6 (by decide)
  have hne4 : b9 ≠ b6 := fun he => by subst he; have := M5.row.symm.trans B6.row; cases this
  have hne5 : b5 ≠ b6 := B55.ne B6 (by decide)
  refine ⟨B6.can (k := 0) (by simp), ?_⟩
  have B26 := B25.chg C6 hne3
  have B56 := B55.chg C6 hne5
  have M6 : MapIs (g5.put ((adr b6).add 0) [.func (.func 190) #[] #[.pointer (some (adr b2)), .pointer (some (adr b5)), .pointer (some (adr b6))]]) b9 [] := ⟨C6 _ _ M5.row hne4⟩
  have E06 : Ext h (g5.put ((adr b6).add 0) [.func (.func 190) #[] #[.pointer (some (adr b2)), .pointer (some (adr b5)), .pointer (some (adr b6))]]) := C6.extR E05 fun c hc => by rw [hc]; exact h6
  refine .by (fun st g => 0 ≤ st.1 ∧ st.1 ≤ es.length ∧ Ext h g ∧ Has g (adr b2) [.pointer (some a)] ∧ Has g (adr b5) [.map (some b9)] ∧ Has g (adr b6) [.func (.func 190) #[] #[.pointer (some (adr b2)), .pointer (some (adr b5)), .pointer (some (adr b6))]] ∧
    ∃ M, MapIs g b9 M ∧ Closed (getC cells) (es.take st.1.toNat) M) (fun st _ => (es.length - st.1).toNat) ?_ ?_
  · exact ⟨by simp, by simp, E06, B26.all, B56.all, B66.all, [], M6, List.nodup_nil, by simp, by simp, by simp⟩
  · rintro ⟨i, _⟩ g ⟨hi0, hi1, E, H2, H5, H6, M, HM, C⟩
    dsimp only at hi0 hi1 C ⊢
    refine pif_dec (fun hc => ?_) fun hc => ?_
    · have hl : i.toNat < es.length := by omega
      have hg := List.getElem?_eq_getElem hl
      refine (S.ext E).read hi0 hg fun q hq => ⟨_, _, hq, _, H6, 190, #[], _, rfl, ⟨Tryz.f190, Tryz.func190, by kernel_rfl⟩, ?_⟩
      refine (visit_spec G 17 (e := es[i.toNat]) (R.ext E) (hes _ (List.getElem_mem hl)) (fun r hr => by have := (G.ok _ _ hr).1.t0; omega) H2 H5 H6 HM C.nd).mono ?_
      rintro v g' ⟨rfl, M', HM', C', W⟩
      have K := C'.keep HM.row
      refine ⟨rfl, ?_⟩
      rw [w64 (by omega)]
      refine ⟨⟨by omega, by omega, C'.extR E fun c hc => by rw [hc]; exact h9, K _ _ H2, K _ _ H5, K _ _ H6, M', HM', ?_⟩, by omega⟩
      have e : (i + 1).toNat = i.toNat + 1 := by omega
      rw [e, List.take_succ_eq_append_getElem hl]
      exact C.went W
    · have e : i.toNat = es.length := by omega
      rw [e, List.take_length] at C
      exact ⟨_, H5, b9, M, rfl, h9, E, HM, C⟩
end Go.Proofs.YtbeapoopomlgaaaGreat.Sx
