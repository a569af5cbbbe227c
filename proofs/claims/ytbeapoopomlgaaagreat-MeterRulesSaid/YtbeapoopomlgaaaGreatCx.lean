/- Contracts: stores that are built are well formed; the chapter's example. -/
import Derived.Test.YtbeapoopomlgaaaGreatCw
namespace Go.Proofs.YtbeapoopomlgaaaGreat.Sx
open Go Go.Proofs
open Go.IntKind (wrap)

/-! ### records that are well formed -/
structure WFl (n : Int) (l : List Rec) : Prop where
  ok : ∀ r ∈ l, r.ok ∧ rightB r n ∧ leadsB (recAt l) n r.fm r.lo (r.bt + 1) ∧ leadsB (recAt l) n r.fm r.hi (r.bt + 1)
theorem recAt_id {l : List Rec} {id : Int} {r : Rec} (h : recAt l id = some r) : 2 ≤ id ∧ id < l.length + 2 := by
  unfold recAt at h
  split at h
  · cases h
  · have := (List.getElem?_eq_some_iff.1 h).1
    omega
theorem WFl.good {n : Int} {l : List Rec} (W : WFl n l) (h0 : 0 ≤ n) (h1 : n ≤ 16) (hl : l.length < 1000000) : Good (recAt l) n :=
  ⟨⟨h0, h1⟩, fun id r h => by have := recAt_id h; omega, fun id r h => W.ok r (recAt_mem h)⟩
theorem recAt_app {l : List Rec} {r x : Rec} {id : Int} (h : recAt l id = some x) : recAt (l ++ [r]) id = some x := by
  unfold recAt at h ⊢
  split at h
  · cases h
  · rename_i h2
    rw [if_neg h2, List.getElem?_append_left (List.getElem?_eq_some_iff.1 h).1]; exact h
theorem leads_app {l : List Rec} {r : Rec} {n f k : Int} {e : Edg} (h : leadsB (recAt l) n f e k) : leadsB (recAt (l ++ [r])) n f e k := by
  refine ⟨h.1, h.2.imp id fun ht => ?_⟩
  cases hg : recAt l e.a with
  | none => rw [hg] at ht; exact ht.elim
  | some x => rw [hg] at ht; rw [recAt_app hg]; exact ht
theorem WFl.find {n room : Int} {l : List Rec} {r : Rec} (W : WFl n l) (hr : r.ok) : WFl n (findR n room l r) := by
  unfold findR
  split
  · exact W
  · split
    · exact W
    · rename_i h2
      have h2 := Classical.not_not.1 h2
      split
      · exact W
      · refine ⟨fun x hx => ?_⟩
        rw [List.mem_append, List.mem_singleton] at hx
        rcases hx with hx | rfl
        · obtain ⟨q1, q2, q3, q4⟩ := W.ok x hx
          exact ⟨q1, q2, leads_app q3, leads_app q4⟩
        · exact ⟨hr, h2.1, leads_app h2.2.1, leads_app h2.2.2⟩
theorem WFl.built {n room : Int} : ∀ (recs l : List Rec), (∀ x ∈ recs, x.ok) → WFl n l → WFl n (recs.foldl (findR n room) l)
  | [], l, _, W => W
  | r :: recs, l, h, W => WFl.built recs _ (fun x hx => h x (by simp [hx])) (W.find (h r (by simp)))

/-! ### what little is reached -/
theorem closed_leaf {get : Int → Option Rec} {e : Edg} {M : List Int} (C : Closed get [e] M) (h : get e.a = none) : M.length = 0 := by
  cases M with
  | nil => rfl
  | cons x M =>
    obtain ⟨e', h1, h2⟩ := C.from_ x (by simp)
    rw [List.mem_singleton] at h1; subst h1
    exact absurd h h2.get.1
theorem closed_one {get : Int → Option Rec} {e : Edg} {r : Rec} {M : List Int} (C : Closed get [e] M) (h : get e.a = some r) (h1 : get r.lo.a = none) (h2 : get r.hi.a = none) : M.length = 1 := by
  have he := C.has e (by simp) (by rw [h]; simp)
  have key : ∀ {a x : Int}, Rch get a x → a = e.a → x = e.a := by
    intro a x hr ha
    cases hr with
    | self _ => exact ha
    | lo q1 q2 =>
      subst ha; rw [h] at q1; cases q1
      exact absurd h1 q2.get.1
    | hi q1 q2 =>
      subst ha; rw [h] at q1; cases q1
      exact absurd h2 q2.get.1
  have all : ∀ x ∈ M, x = e.a := fun x hx => by
    obtain ⟨e', q1, q2⟩ := C.from_ x hx
    rw [List.mem_singleton] at q1; subst q1
    exact key q2 rfl
  have l1 := nodup_len (m := [e.a]) C.nd fun x hx => by rw [all x hx]; simp
  have l2 := List.length_pos_of_mem he
  simp only [List.length_singleton] at l1
  omega

/-! ### the example -/
abbrev A0 : Ar := ⟨[], [], 0, 1048576⟩
theorem A0_ok : AOK A0 := ⟨fun id r h => by simp [getC] at h, by decide, by decide, rfl⟩
structure Ex (f : Int) (k : Int) : Prop where
  ex : ∃ (l : List Rec) (e : Edg) (fr : List Int) (c : Int), buildM f 1 [0] [3] 1 A0 0 0 = (⟨l.map some, fr, c, 1048576⟩, e, 0) ∧ WFl 1 l ∧ l.length < 1000000 ∧ mayE (recAt l) 1 f e 0 = 0 ∧ ∀ M, Closed (recAt l) [e] M → (M.length : Int) = k
theorem wf_nil (n : Int) : WFl n [] := ⟨fun r h => by cases h⟩
theorem ex1 : Ex 1 0 := ⟨[], ⟨0, 1⟩, [], 0, by kernel_rfl, wf_nil 1, by decide, by decide, fun M C => by rw [closed_leaf C rfl]; rfl⟩
theorem ex3 : Ex 3 0 := ⟨[], ⟨0, 1⟩, [], 0, by kernel_rfl, wf_nil 1, by decide, by decide, fun M C => by rw [closed_leaf C rfl]; rfl⟩
theorem ex5 : Ex 5 0 := ⟨[], ⟨1, 1⟩, [], 0, by kernel_rfl, wf_nil 1, by decide, by decide, fun M C => by rw [closed_leaf C rfl]; rfl⟩
theorem wf_one {f : Int} (hf : f = 2 ∨ f = 4) : WFl 1 [⟨f, 0, 0, ⟨0, 1⟩, ⟨0, 1⟩⟩] := ⟨fun r h => by
  rw [List.mem_singleton] at h; subst h
  rcases hf with rfl | rfl <;> exact ⟨⟨by decide, by decide, by decide, by decide, by decide, by decide, ⟨by decide, by decide, by decide, by decide⟩, ⟨by decide, by decide, by decide, by decide⟩⟩, by decide, by decide, by decide⟩⟩
theorem ex2 : Ex 2 1 := ⟨[⟨2, 0, 0, ⟨0, 1⟩, ⟨0, 1⟩⟩], ⟨0, 2⟩, [], 1, by kernel_rfl, wf_one (.inl rfl), by decide, by decide, fun M C => by rw [closed_one C rfl rfl rfl]; rfl⟩
theorem ex4 : Ex 4 1 := ⟨[⟨4, 0, 0, ⟨0, 1⟩, ⟨0, 1⟩⟩], ⟨0, 2⟩, [], 1, by kernel_rfl, wf_one (.inr rfl), by decide, by decide, fun M C => by rw [closed_one C rfl rfl rfl]; rfl⟩
theorem set13 : SetOK 1 [3] := ⟨by decide, by decide, by decide, fun w hw => by rw [List.mem_singleton] at hw; subst hw; decide, fun w hw => by cases hw; kernel_rfl⟩
abbrev exL : List Int := [0, 1, 0, 1, 0]
theorem ex_all (f : Int) (h0 : 1 ≤ f) (h1 : f ≤ 5) : ∃ k, exL[(f - 1).toNat]? = some k ∧ Ex f k := by
  rcases (by omega : f = 1 ∨ f = 2 ∨ f = 3 ∨ f = 4 ∨ f = 5) with rfl | rfl | rfl | rfl | rfl
  · exact ⟨0, rfl, ex1⟩
  · exact ⟨1, rfl, ex2⟩
  · exact ⟨0, rfl, ex3⟩
  · exact ⟨1, rfl, ex4⟩
  · exact ⟨0, rfl, ex5⟩

theorem sizes_spec {h : Heap} {o : Addr} {w : Sl} (O : OrdR h o [0]) (S : SlR h w 1 encW [3]) : Spec TP 59 #[.pointer (some o), .agg #[.int .i64 1, .slice w.p w.n w.c]] h fun v h' => (∃ t : Sl, v = .tuple #[.slice t.p t.n t.c, .int .u8 0] ∧ SlR h' t 1 encI exL) ∧ Ext h h' := by
  refine f59_ok ?_
  unfold f59_sem
  refine pif_f rfl ?_
  refine .by (fun st g => 1 ≤ st.2.1 ∧ st.2.1 ≤ 6 ∧ Ext h g ∧ OwnN g st.1 3 1 encI (exL.take (st.2.1 - 1).toNat) (FreshB h)) (fun st _ => (6 - st.2.1).toNat) ⟨by simp, by simp, Ext.refl _, .inl ⟨rfl, rfl⟩⟩ ?_
  rintro ⟨u, f, _⟩ g ⟨hf0, hf1, E, U⟩
  dsimp only at hf0 hf1 U ⊢
  refine pif_dec (fun hc => ?_) fun hc => ?_
  · obtain ⟨k, hk, X⟩ := ex_all f hf0 hc
    obtain ⟨l, e, fr, c, hb, W, hl, hm, hM⟩ := X.ex
    refine (ovars_spec (O.ext E)).ret ⟨1, rfl, (snew_spec (n := 1) (by decide) (by decide) (by decide) (by decide)).mono ?_⟩
    rintro v g1 ⟨b, rfl, St, E1⟩
    refine ⟨_, _, rfl, pif_f rfl ?_⟩
    refine (bof_spec (n := 1) (A := A0) (h0 := g) (p := [0]) (ws := [3]) E1 (fun c hc => hc) St A0_ok (O.ext E) (S.ext E) set13 (by decide) ⟨hf0, hc⟩).mono ?_
    rintro v g2 ⟨⟨rfl, St2, C2⟩, K2, o2⟩
    rw [show (1 : Int).toNat = 1 from rfl, hb] at St2 K2 o2 ⊢
    dsimp only at St2 K2 o2 ⊢
    have E2 : Ext g g2 := C2.extR E1 fun c hc => hc
    have hget : getC (l.map some) = recAt l := funext fun id => getC_of l id
    have R2 := St2.toR
    dsimp only at R2
    have G : Good (getC (l.map some)) 1 := by rw [hget]; exact W.good (by decide) (by decide) hl
    refine ⟨_, _, _, rfl, pif_f rfl ((csize_spec (f := f) (l := 0) (e := e) R2 G o2 (by simp; omega)).mono ?_)⟩
    rintro v g3 ⟨⟨z, rfl, -, hz⟩, rfl⟩
    rw [hget, hm] at hz ⊢
    obtain ⟨M, CM, hzM⟩ := hz rfl
    rw [hM M CM] at hzM
    subst hzM
    have E3 := E.trans E2
    refine ⟨_, _, rfl, pif_f rfl ?_⟩
    refine (U.ext E2).app (x := z) elI (fun _ => rfl) (encI_one _) (by simp; omega) fun s' h' O' C' => ?_
    rw [wu8 (x := f + 1) (by omega)]
    refine ⟨⟨by omega, by omega, C'.extR E3 fun c hc => (U.ext E2).inF hc, ?_⟩, by omega⟩
    have ef : (f + 1 - 1).toNat = (f - 1).toNat + 1 := by omega
    obtain ⟨hlt, hge⟩ := List.getElem?_eq_some_iff.1 hk
    rw [ef, List.take_succ_eq_append_getElem hlt, hge]
    refine O'.mono ?_
    rintro c (hc | hc)
    · exact hc
    · exact E3.fresh hc
  · have ef : f = 6 := by omega
    subst ef
    exact ⟨⟨u, rfl, U.toR⟩, E⟩

theorem alive_spec {h : Heap} : Spec TP 10 #[] h fun v h' => v = .bool true ∧ h' = h := by
  refine Spec.pure (f10_ok ?_)
  unfold f10_sem
  refine (ordNew_spec (n := 1) (by decide) (by decide)).mono ?_
  rintro v g1 ⟨⟨o, rfl, O⟩, E1⟩
  refine ⟨_, _, rfl, fun b hb => ?_⟩
  have E2 : Ext g1 (g1.new b (.cells #[.int .u64 3] 46)) := Ext.new _ hb
  have B : Blk (g1.new b (.cells #[.int .u64 3] 46)) b 46 (encW 3) := Blk.new _ _ _ _
  refine (sizes_spec (w := ⟨some (adr b), 1, 1⟩) (O.ext E2) ⟨rfl, fun i y hi => ?_⟩).mono ?_
  · cases i with
    | zero => cases hi; exact ⟨_, rfl, B.all⟩
    | succ i => simp at hi
  rintro v g3 ⟨⟨t, rfl, S⟩, E3⟩
  refine ⟨t, _, rfl, pif_t (by rw [w64 (x := 0) (by omega), w64 (x := 0 + 0) (by omega)]; rfl) fun b2 hb2 => ?_⟩
  have E4 : Ext g3 (g3.new b2 (.cells #[.int .i64 0, .int .i64 1, .int .i64 0, .int .i64 1, .int .i64 0] 3)) := Ext.new _ hb2
  have B2 : Blk (g3.new b2 (.cells #[.int .i64 0, .int .i64 1, .int .i64 0, .int .i64 1, .int .i64 0] 3)) b2 3 (exL.flatMap encI) := Blk.new _ _ _ _
  have O2 : Own (g3.new b2 (.cells #[.int .i64 0, .int .i64 1, .int .i64 0, .int .i64 1, .int .i64 0] 3)) ⟨some (adr b2), 5, 5⟩ 3 1 encI exL b2 := ⟨rfl, rfl, Nat.le_refl _, fun _ => rfl, [], rfl, by rw [List.append_nil]; exact B2⟩
  exact (ints_spec (S.ext E4) O2.toR (by decide)).ret ⟨_, rfl, rfl, ((E1.trans E2).trans E3).trans E4⟩
end Go.Proofs.YtbeapoopomlgaaaGreat.Sx
