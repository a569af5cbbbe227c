/- Contracts: what edges reach in the document's store. -/
import Derived.Test.YtbeapoopomlgaaaGreatCr
namespace Go.Proofs.YtbeapoopomlgaaaGreat.Sx
open Go Go.Proofs
open Go.IntKind (wrap)

theorem at_nodes (l : List Rec) (id : Int) : (recAt l id = none ∧ atL (nodesOf l) id = -1) ∨ ∃ (i : Nat) (r : Rec), l[i]? = some r ∧ recAt l id = some r ∧ id = (i : Int) + 2 ∧ atL (nodesOf l) id = i := by
  rcases atL_spec (nodesOf l) id with ⟨q1, q2⟩ | ⟨i, r, q1, q2, q3⟩
  · left; rw [getL_of] at q2; exact ⟨q2, q1⟩
  · right
    rw [getL_of] at q3
    rw [nodes_get] at q2
    cases hx : l[i]? with
    | none => rw [hx] at q2; cases q2
    | some r' =>
      rw [hx] at q2
      simp only [Option.map_some, Option.some.injEq, Prod.mk.injEq] at q2
      obtain ⟨rfl, rfl⟩ := q2
      exact ⟨i, r', hx, q3, rfl, q1⟩
theorem rec_at {l : List Rec} {i : Nat} : recAt l ((i : Int) + 2) = l[i]? := by
  unfold recAt
  rw [if_neg (by omega)]
  congr 1; omega

abbrev falses (B : List Bool) : Nat := B.countP fun b => !b
theorem falses_set {B : List Bool} {j : Nat} (h : B[j]? = some false) : falses (B.set j true) + 1 = falses B := by
  induction B generalizing j with
  | nil => simp at h
  | cons b B ih =>
    cases j with
    | zero =>
      simp only [List.getElem?_cons_zero, Option.some.injEq] at h; subst h
      simp [falses]
    | succ j =>
      have := ih (j := j) (by simpa using h)
      simp only [falses, List.set_cons_succ, List.countP_cons] at this ⊢
      omega
theorem set_true {B : List Bool} {j k : Nat} (h : B[k]? = some true) : (B.set j true)[k]? = some true := by
  rw [List.getElem?_set]
  split
  · rename_i e; subst e
    rw [if_pos (List.getElem?_eq_some_iff.1 h).1]
  · exact h

section
variable {l : List Rec} {es : List Edg}
/-- is met -/
abbrev inB (B : List Bool) (id : Int) : Prop := B[(id - 2).toNat]? = some true
structure Met (l : List Rec) (es : List Edg) (B : List Bool) : Prop where
  len : B.length = l.length
  sub : ∀ i : Nat, B[i]? = some true → ∃ e ∈ es, Rch (recAt l) e.a ((i : Int) + 2)
structure Roots (l : List Rec) (es : List Edg) (B : List Bool) : Prop where
  ok : ∀ e ∈ es, recAt l e.a ≠ none → inB B e.a
theorem Met.set {B : List Bool} (M : Met l es B) {j : Nat} (h : ∃ e ∈ es, Rch (recAt l) e.a ((j : Int) + 2)) : Met l es (B.set j true) := by
  refine ⟨by simp [M.len], fun i hi => ?_⟩
  rw [List.getElem?_set] at hi
  split at hi
  · rename_i e; subst e; exact h
  · exact M.sub i hi
theorem Roots.set {B : List Bool} (R : Roots l es B) (j : Nat) : Roots l es (B.set j true) := ⟨fun e he hn => set_true (R.ok e he hn)⟩
/-- a node's edges lead to what is met -/
def ShutAt (l : List Rec) (B : List Bool) (j : Nat) : Prop := B[j]? = some true → ∀ r, l[j]? = some r → (recAt l r.lo.a ≠ none → inB B r.lo.a) ∧ (recAt l r.hi.a ≠ none → inB B r.hi.a)
theorem rch_kid {e : Int} {i : Nat} {r : Rec} {x : Int} (h : Rch (recAt l) e ((i : Int) + 2)) (hr : l[i]? = some r) (hx : recAt l x ≠ none) (hk : x = r.lo.a ∨ x = r.hi.a) : Rch (recAt l) e x := by
  have hi : recAt l ((i : Int) + 2) = some r := by rw [rec_at, hr]
  have key : ∀ {a b : Int}, Rch (recAt l) a b → b = (i : Int) + 2 → Rch (recAt l) a x := by
    intro a b h
    induction h with
    | self h0 =>
      intro hb
      subst hb
      obtain ⟨r', hr'⟩ := Option.ne_none_iff_exists'.1 hx
      rcases hk with rfl | rfl
      · exact .lo hi (.self hr')
      · exact .hi hi (.self hr')
    | lo h0 _ ih => intro hb; exact .lo h0 (ih hb)
    | hi h0 _ ih => intro hb; exact .hi h0 (ih hb)
  exact key h rfl

/-- a round's state -/
structure Rnd (l : List Rec) (es : List Edg) (B0 : List Bool) (i : Nat) (m : Bool) (B : List Bool) : Prop where
  met : Met l es B
  roots : Roots l es B
  same : m = false → B = B0 ∧ ∀ j, j < i → ShutAt l B0 j
  less : m = true → falses B < falses B0
theorem Rnd.le {B0 B : List Bool} {i : Nat} {m : Bool} (R : Rnd l es B0 i m B) : falses B ≤ falses B0 := by
  cases m with
  | false => rw [(R.same rfl).1]; exact Nat.le_refl _
  | true => exact Nat.le_of_lt (R.less rfl)
theorem Rnd.next {B0 B : List Bool} {i : Nat} {m : Bool} (R : Rnd l es B0 i m B) (h : ShutAt l B i) : Rnd l es B0 (i + 1) m B := by
  refine ⟨R.met, R.roots, fun hm => ⟨(R.same hm).1, fun j hj => ?_⟩, R.less⟩
  rcases Nat.lt_or_ge j i with h1 | h1
  · exact (R.same hm).2 j h1
  · have : j = i := by omega
    rw [this, ← (R.same hm).1]; exact h
theorem Rnd.put {B0 B : List Bool} {i j : Nat} {m : Bool} (R : Rnd l es B0 i m B) (hf : B[j]? = some false) (h : ∃ e ∈ es, Rch (recAt l) e.a ((j : Int) + 2)) (k : Nat) : Rnd l es B0 k true (B.set j true) := by
  refine ⟨R.met.set h, R.roots.set j, (fun h => by cases h), fun _ => ?_⟩
  have h1 := falses_set hf
  have h2 := R.le
  omega
theorem Rnd.more {B0 B : List Bool} {i k : Nat} (R : Rnd l es B0 i true B) : Rnd l es B0 k true B := ⟨R.met, R.roots, (fun h => by cases h), R.less⟩

/-- the second half of a round's step -/
def bPart (b : Nat) (n : Nat) (i x : Int) (m : Bool) (C : Bool × Int × Unit → Heap → Prop) (h72 : Heap) : Prop :=
  0 ≤ i ∧ i < ((n : Nat) : Int) ∧ ∃ v94 : Bool, Has h72 ((adr b).add (Int.toNat i * 1)) [.bool v94] ∧ pif v94 (pif (decide (x ≥ 0)) (0 ≤ x ∧ x < ((n : Nat) : Int) ∧ ∃ v103 : Bool, Has h72 ((adr b).add (Int.toNat x * 1)) [.bool v103] ∧ pif (!v103) (0 ≤ x ∧ x < ((n : Nat) : Int) ∧ CanPut h72 ((adr b).add (Int.toNat x * 1)) 1 ∧ C (true, wrap .i64 (i + 1), ()) (Heap.put h72 ((adr b).add (Int.toNat x * 1)) [.bool true])) (C (m, wrap .i64 (i + 1), ()) h72)) (C (m, wrap .i64 (i + 1), ()) h72)) (C (m, wrap .i64 (i + 1), ()) h72)

theorem Own.cellB {h : Heap} {b : Nat} {n c : Nat} {B : List Bool} (O : Own h ⟨some (adr b), n, c⟩ 4 1 encB B b) {i : Nat} {v : Bool} (hv : B[i]? = some v) : Has h ((adr b).add (i * 1)) [.bool v] := by
  obtain ⟨a', q1, q2⟩ := O.toR.at_ _ _ hv
  cases q1; exact q2

theorem bPart_ok {h0 g : Heap} {b n : Nat} {B0 B : List Bool} {i : Nat} {m : Bool} {r : Rec} {C : Bool × Int × Unit → Heap → Prop} (hb : h0 b = none) (E : Ext h0 g) (O : Own g ⟨some (adr b), n, n⟩ 4 1 encB B b) (hn : n = l.length) (hl : l.length < 1000000) (hr : l[i]? = some r)
    (R : Rnd l es B0 i m B) (hlo : B[i]? = some true → recAt l r.lo.a ≠ none → inB B r.lo.a)
    (H : ∀ (m' : Bool) (B' : List Bool) (g' : Heap), Ext h0 g' → Own g' ⟨some (adr b), n, n⟩ 4 1 encB B' b → Rnd l es B0 (i + 1) m' B' → C (m', (i : Int) + 1, ()) g') :
    bPart b n i (atL (nodesOf l) r.hi.a) m C g := by
  have hil := (List.getElem?_eq_some_iff.1 hr).1
  have hBl := R.met.len
  unfold bPart
  rw [w64 (x := (i : Int) + 1) (by omega), Int.toNat_natCast]
  have hgi := List.getElem?_eq_getElem (l := B) (i := i) (by omega)
  refine ⟨by omega, by omega, _, O.cellB hgi, pif_split (fun h1 => ?_) fun h1 => ?_⟩
  · rw [h1] at hgi
    rcases at_nodes l r.hi.a with ⟨q1, q2⟩ | ⟨k, rk, q1, q2, q3, q4⟩
    · rw [q2]
      refine pif_f (by decide) (H m B g E O (R.next fun _ r' hr' => ?_))
      rw [hr] at hr'; cases hr'
      exact ⟨hlo hgi, fun h => absurd q1 h⟩
    · rw [q4]
      have hkl := (List.getElem?_eq_some_iff.1 q1).1
      have hgk := List.getElem?_eq_getElem (l := B) (i := k) (by omega)
      refine pif_t (by simp) ⟨by omega, by omega, _, by rw [Int.toNat_natCast]; exact O.cellB hgk, pif_split (fun h2 => ?_) fun h2 => ?_⟩
      · simp only [Bool.not_eq_true'] at h2
        rw [h2] at hgk
        rw [Int.toNat_natCast]
        refine ⟨by omega, by omega, O.canPut (by omega), H true (B.set k true) _ ((setChg _ _ _ _).extR E fun c hc => by rw [hc]; exact hb) (O.put (by omega) true) (R.put hgk ?_ _)⟩
        obtain ⟨e, he, hrc⟩ := R.met.sub i hgi
        exact ⟨e, he, by rw [← q3]; exact rch_kid hrc hr (by rw [q2]; simp) (.inr rfl)⟩
      · simp only [Bool.not_eq_false'] at h2
        rw [h2] at hgk
        refine H m B g E O (R.next fun _ r' hr' => ?_)
        rw [hr] at hr'; cases hr'
        refine ⟨hlo hgi, fun _ => ?_⟩
        show B[(r.hi.a - 2).toNat]? = some true
        rw [q3, show ((k : Int) + 2 - 2).toNat = k by omega]
        exact hgk
  · rw [h1] at hgi
    exact H m B g E O (R.next fun h => by rw [hgi] at h; cases h)

/-- what is met, as ids -/
def idsOf (B : List Bool) (k : Nat) : List Int := ((List.range k).filter fun i => B[i]?.getD false).map fun (i : Nat) => (i : Int) + 2
theorem ids_closed {B : List Bool} (M : Met l es B) (R : Roots l es B) (S : ∀ j, j < l.length → ShutAt l B j) : Closed (recAt l) es (idsOf B l.length) := by
  have mem : ∀ x, x ∈ idsOf B l.length ↔ ∃ i : Nat, i < l.length ∧ B[i]? = some true ∧ x = (i : Int) + 2 := by
    intro x
    unfold idsOf
    simp only [List.mem_map, List.mem_filter, List.mem_range]
    constructor
    · rintro ⟨i, ⟨h1, h2⟩, rfl⟩
      refine ⟨i, h1, ?_, rfl⟩
      cases hb : B[i]? with
      | none => rw [hb] at h2; cases h2
      | some v => rw [hb] at h2; simpa using h2
    · rintro ⟨i, h1, h2, rfl⟩
      exact ⟨i, ⟨h1, by rw [h2]; rfl⟩, rfl⟩
  have put : ∀ x, recAt l x ≠ none → inB B x → x ∈ idsOf B l.length := by
    intro x hx hi
    rcases at_nodes l x with ⟨q1, -⟩ | ⟨k, rk, q1, q2, q3, -⟩
    · exact absurd q1 hx
    · refine (mem x).2 ⟨k, (List.getElem?_eq_some_iff.1 q1).1, ?_, q3⟩
      have : (x - 2).toNat = k := by omega
      rw [← this]; exact hi
  refine ⟨?_, fun x hx => ?_, fun e he hn => put _ hn (R.ok e he hn), fun x hx => ?_⟩
  · unfold idsOf
    refine List.Pairwise.map _ ?_ (List.Pairwise.filter _ List.nodup_range)
    intro a b hab h
    exact hab (by omega)
  · obtain ⟨i, h1, h2, rfl⟩ := (mem x).1 hx
    exact M.sub i h2
  · obtain ⟨i, h1, h2, rfl⟩ := (mem x).1 hx
    have hg := List.getElem?_eq_getElem h1
    obtain ⟨a1, a2⟩ := S i h1 h2 _ hg
    exact ⟨l[i], by rw [rec_at, hg], fun h => put _ h (a1 h), fun h => put _ h (a2 h)⟩
theorem ids_snoc (B : List Bool) (k : Nat) : idsOf B (k + 1) = idsOf B k ++ if B[k]?.getD false then [(k : Int) + 2] else [] := by
  unfold idsOf
  rw [List.range_succ, List.filter_append, List.map_append]
  congr 1
  cases h : B[k]?.getD false <;> simp [h]
end

/-- how many are not met, as the heap tells -/
def fh (g : Heap) (b : Nat) : Nat := match g b with
  | some (.cells c _ _) => c.toList.countP fun v => match v with | .bool false => true | _ => false
  | _ => 0
theorem fh_own {g : Heap} {b n : Nat} {B : List Bool} (O : Own g ⟨some (adr b), n, n⟩ 4 1 encB B b) : fh g b = falses B := by
  obtain ⟨junk, h1, h2⟩ := O.row
  have hj : junk = [] := List.length_eq_zero_iff.1 (by simpa using h1)
  subst hj
  unfold fh
  rw [h2.row]
  simp only [List.append_nil]
  have : ∀ B : List Bool, (B.flatMap encB).countP (fun v => match v with | .bool false => true | _ => false) = falses B := by
    intro B
    induction B with
    | nil => rfl
    | cons x B ih =>
      simp only [List.flatMap_cons, List.cons_append, List.nil_append, List.countP_cons, ih, falses]
      cases x <;> rfl
  exact this B
theorem rreach_spec {h : Heap} {a : Addr} {l : List Rec} {n room : Int} {s : Sl} {es : List Edg} (R : RefR h a (nodesOf l) n room) (hl : l.length < 1000000) (S : SlR h s 2 Edg.vals es) (hlen : es.length < 1000000000) :
    Spec TP 55 #[.pointer (some a), .slice s.p s.n s.c] h fun v h' => ∃ (t : Sl) (M : List Int), v = .slice t.p t.n t.c ∧ SlR h' t 1 encU M ∧ Closed (recAt l) es M ∧ Ext h h' := by
  have hsl := S.len
  obtain ⟨ns, H, N, -⟩ := R.ex
  have hnl := N.len
  rw [nodes_len] at hnl
  refine f55_ok ?_
  unfold f55_sem
  simp only [psome_some]
  have em : (((ns.n : Nat) : Int)).toNat = ns.n := by omega
  rw [nodes_len] at H
  refine ⟨ns, H.cell0 rfl, ?_⟩
  simp only [em]
  refine ⟨⟨by omega, Int.le_refl _, by omega, by decide⟩, fun b hb => ?_⟩
  have O0 : Own (h.new b (.cells (zrow [.bool false] (ns.n * 1)).toArray 4 (0, 0))) ⟨some (adr b), ns.n, ns.n⟩ 4 1 encB (List.replicate ns.n false) b := Own.make h b 4 (enc := encB) false rfl (fun _ => rfl) (by decide)
  have E0 : Ext h (h.new b (.cells (zrow [.bool false] (ns.n * 1)).toArray 4 (0, 0))) := Ext.new _ hb
  refine .by (fun st g => 0 ≤ st.1 ∧ st.1 ≤ es.length ∧ Ext h g ∧ ∃ B, Own g ⟨some (adr b), ns.n, ns.n⟩ 4 1 encB B b ∧ Met l es B ∧ ∀ j e, j < st.1.toNat → es[j]? = some e → recAt l e.a ≠ none → inB B e.a) (fun st _ => (es.length - st.1).toNat) ⟨by simp, by simp, E0, _, O0, ⟨by simp [hnl], fun i hi => ?_⟩, by simp⟩ ?_
  · rw [List.getElem?_replicate] at hi; split at hi <;> cases hi
  rintro ⟨i, _⟩ g ⟨hi0, hi1, E, B, O, M, hro⟩
  dsimp only at hi0 hi1 hro ⊢
  have hol := O.len
  dsimp only at hol
  refine pif_dec (fun hc => ?_) fun hc => ?_
  · have hil : i.toNat < es.length := by omega
    have hg := List.getElem?_eq_getElem hil
    have ei : (i + 1).toNat = i.toNat + 1 := by omega
    refine (S.ext E).read hi0 hg fun q hq => ⟨_, hq.cell 1 rfl, (rat_spec (R.ext E)).ret ⟨_, rfl, ?_⟩⟩
    rw [w64 (x := i + 1) (by omega)]
    rcases at_nodes l es[i.toNat].a with ⟨q1, q2⟩ | ⟨k, rk, q1, q2, q3, q4⟩
    · rw [q2]
      refine pif_f (by decide) ⟨⟨by omega, by omega, E, B, O, M, fun j e hj he hn => ?_⟩, by omega⟩
      rcases Nat.lt_or_ge j i.toNat with h1 | h1
      · exact hro j e h1 he hn
      · have : j = i.toNat := by omega
        subst this
        rw [hg] at he; cases he
        exact absurd q1 hn
    · rw [q4]
      have hkl := (List.getElem?_eq_some_iff.1 q1).1
      refine pif_t (by simp) ⟨by omega, by omega, by rw [Int.toNat_natCast]; exact O.canPut (by omega), ⟨by omega, by omega, (setChg _ _ _ _).extR E fun c hc => by rw [hc]; exact hb, _, by rw [Int.toNat_natCast]; exact O.put (i := k) (by omega) true, M.set ⟨es[i.toNat], List.getElem_mem hil, by rw [← q3]; exact .self q2⟩, fun j e hj he hn => ?_⟩, by omega⟩
      rcases Nat.lt_or_ge j i.toNat with h1 | h1
      · exact set_true (hro j e h1 he hn)
      · have : j = i.toNat := by omega
        subst this
        rw [hg] at he; cases he
        show (B.set k true)[(es[i.toNat].a - 2).toNat]? = some true
        rw [q3, show ((k : Int) + 2 - 2).toNat = k by omega, List.getElem?_set_self (by omega)]
  have hroots : Roots l es B := ⟨fun e he hn => by
    obtain ⟨j, hj⟩ := List.mem_iff_getElem?.1 he
    exact hro j e (by have := (List.getElem?_eq_some_iff.1 hj).1; omega) hj hn⟩
  refine .by (fun st g => Ext h g ∧ ∃ B, Own g ⟨some (adr b), ns.n, ns.n⟩ 4 1 encB B b ∧ Met l es B ∧ Roots l es B ∧ (st.1 = false → ∀ j, j < l.length → ShutAt l B j)) (fun st g => 2 * fh g b + if st.1 = true then 1 else 0) ⟨E, B, O, M, hroots, fun h => by cases h⟩ ?_
  rintro ⟨more, _⟩ g ⟨E, B, O, M, hroots, hshut⟩
  dsimp only at hshut ⊢
  have hol := O.len
  dsimp only at hol
  refine pif_split (fun hm => ?_) fun hm => ?_
  · subst hm
    refine .by (fun st g' => 0 ≤ st.2.1 ∧ st.2.1 ≤ l.length ∧ Ext h g' ∧ ∃ B', Own g' ⟨some (adr b), ns.n, ns.n⟩ 4 1 encB B' b ∧ Rnd l es B st.2.1.toNat st.1 B') (fun st _ => (l.length - st.2.1).toNat) ⟨by simp, by simp, E, B, O, M, hroots, fun _ => ⟨rfl, by simp⟩, fun h => by cases h⟩ ?_
    rintro ⟨m, i, _⟩ g' ⟨hi0, hi1, E', B', O', Rn⟩
    dsimp only at hi0 hi1 Rn ⊢
    have hBl := Rn.met.len
    refine ⟨ns, (H.ext E').cell0 rfl, pif_dec (fun hc => ?_) fun hc => ?_⟩
    · obtain ⟨I, rfl⟩ : ∃ I : Nat, i = I := ⟨i.toNat, by omega⟩
      rw [Int.toNat_natCast] at Rn
      have hil : I < l.length := by omega
      have hr := List.getElem?_eq_getElem hil
      have hn : (nodesOf l)[I]? = some ((I : Int) + 2, l[I]) := by rw [nodes_get, hr]; rfl
      refine ⟨ns, (H.ext E').cell0 rfl, (N.ext E').read (i := (I : Int)) hi0 (by rw [Int.toNat_natCast]; exact hn) fun q hq => ⟨_, hq.cell 5 rfl, ns, (H.ext E').cell0 rfl, (N.ext E').read (i := (I : Int)) hi0 (by rw [Int.toNat_natCast]; exact hn) fun q' hq' => ⟨_, hq'.cell 7 rfl, (rat_spec (R.ext E')).ret ⟨_, rfl, hq'.cell 7 rfl, (H.ext E').cell0 rfl, (rat_spec (R.ext E')).ret ⟨_, rfl, hi0, by omega, ?_⟩⟩⟩⟩⟩
      have hgi := List.getElem?_eq_getElem (l := B') (i := I) (by omega)
      refine ⟨_, by rw [Int.toNat_natCast]; exact O'.cellB hgi, ?_⟩
      have fin : ∀ (m' : Bool) (B'' : List Bool) (g'' : Heap), Ext h g'' → Own g'' ⟨some (adr b), ns.n, ns.n⟩ 4 1 encB B'' b → Rnd l es B (I + 1) m' B'' → (0 ≤ (I : Int) + 1 ∧ (I : Int) + 1 ≤ l.length ∧ Ext h g'' ∧ ∃ B', Own g'' ⟨some (adr b), ns.n, ns.n⟩ 4 1 encB B' b ∧ Rnd l es B ((I : Int) + 1).toNat m' B') ∧ (l.length - ((I : Int) + 1)).toNat < (l.length - (I : Int)).toNat :=
        fun m' B'' g'' e1 e2 e3 => ⟨⟨by omega, by omega, e1, B'', e2, by rw [show ((I : Int) + 1).toNat = I + 1 by omega]; exact e3⟩, by omega⟩
      have bp : ∀ (m' : Bool) (B'' : List Bool) (g'' : Heap), Ext h g'' → Own g'' ⟨some (adr b), ns.n, ns.n⟩ 4 1 encB B'' b → Rnd l es B I m' B'' → (B''[I]? = some true → recAt l l[I].lo.a ≠ none → inB B'' l[I].lo.a) → bPart b ns.n I (atL (nodesOf l) l[I].hi.a) m' (fun st'' g'' => (0 ≤ st''.2.1 ∧ st''.2.1 ≤ l.length ∧ Ext h g'' ∧ ∃ B', Own g'' ⟨some (adr b), ns.n, ns.n⟩ 4 1 encB B' b ∧ Rnd l es B st''.2.1.toNat st''.1 B') ∧ (l.length - st''.2.1).toNat < (l.length - (I : Int)).toNat) g'' :=
        fun m' B'' g'' e1 e2 e3 e4 => bPart_ok hb e1 e2 hnl hl hr e3 e4 fin
      refine pif_split (fun h1 => ?_) fun h1 => ?_
      · rw [h1] at hgi
        rcases at_nodes l l[I].lo.a with ⟨q1, q2⟩ | ⟨k, rk, q1, q2, q3, q4⟩
        · rw [q2]
          exact pif_f (by decide) (bp m B' g' E' O' Rn fun _ h => absurd q1 h)
        · rw [q4]
          have hkl := (List.getElem?_eq_some_iff.1 q1).1
          have hgk := List.getElem?_eq_getElem (l := B') (i := k) (by omega)
          have e2 : (l[I].lo.a - 2).toNat = k := by omega
          refine pif_t (by simp) ⟨by omega, by omega, _, by rw [Int.toNat_natCast]; exact O'.cellB hgk, pif_split (fun h2 => ?_) fun h2 => ?_⟩
          · simp only [Bool.not_eq_true'] at h2
            rw [h2] at hgk
            have hol' := O'.len
            dsimp only at hol'
            refine ⟨by omega, by omega, by rw [Int.toNat_natCast]; exact O'.canPut (by omega), ?_⟩
            rw [Int.toNat_natCast]
            obtain ⟨e, he, hrc⟩ := Rn.met.sub I hgi
            exact bp true (B'.set k true) _ ((setChg _ _ _ _).extR E' fun c hc => by rw [hc]; exact hb) (O'.put (by omega) true) (Rn.put hgk ⟨e, he, by rw [← q3]; exact rch_kid hrc hr (by rw [q2]; simp) (.inl rfl)⟩ _) fun _ _ => by
              show (B'.set k true)[(l[I].lo.a - 2).toNat]? = some true
              rw [e2, List.getElem?_set_self (by omega)]
          · simp only [Bool.not_eq_false'] at h2
            rw [h2] at hgk
            exact bp m B' g' E' O' Rn fun _ _ => by
              show B'[(l[I].lo.a - 2).toNat]? = some true
              rw [e2]; exact hgk
      · rw [h1] at hgi
        exact bp m B' g' E' O' Rn fun h => by rw [hgi] at h; cases h
    · have ei : i.toNat = l.length := by omega
      rw [ei] at Rn
      refine ⟨⟨E', B', O', Rn.met, Rn.roots, fun hm j hj => ?_⟩, ?_⟩
      · obtain ⟨h1, h2⟩ := Rn.same hm
        rw [h1]; exact h2 j hj
      · rw [fh_own O', fh_own O]
        cases m with
        | false => rw [(Rn.same rfl).1]; simp
        | true => have := Rn.less rfl; simp; omega
  · subst hm
    have hs := hshut rfl
    have C := ids_closed M hroots hs
    refine .by (fun st g' => 2 ≤ st.2.1 ∧ st.2.1 ≤ l.length + 2 ∧ Ext g g' ∧ OwnN g' st.1 23 1 encU (idsOf B (st.2.1 - 2).toNat) (FreshB g)) (fun st _ => (l.length + 2 - st.2.1).toNat) ⟨by simp, by dsimp only; omega, Ext.refl _, .inl ⟨rfl, rfl⟩⟩ ?_
    rintro ⟨u, i, _⟩ g' ⟨hi0, hi1, E', Ou⟩
    dsimp only at hi0 hi1 Ou ⊢
    have E2 := E.trans E'
    have hul : (idsOf B (i - 2).toNat).length ≤ l.length := by
      unfold idsOf
      rw [List.length_map]
      exact Nat.le_trans (List.length_filter_le _ _) (by simp; omega)
    refine ⟨_, (H.ext E2).cell 2 rfl, ?_⟩
    rw [wu32 (x := ((l.length : Nat) : Int) + 2) (by omega)]
    refine pif_dec (fun hc => ?_) fun hc => ?_
    · obtain ⟨I, rfl⟩ : ∃ I : Nat, i = (I : Int) + 2 := ⟨(i - 2).toNat, by omega⟩
      have eI : ((I : Int) + 2 - 2).toNat = I := by omega
      rw [eI] at Ou hul
      have hil : I < l.length := by omega
      have hgi := List.getElem?_eq_getElem (l := B) (i := I) (by have := M.len; omega)
      refine (rat_spec (R.ext E2)).ret ⟨_, rfl, ?_⟩
      rw [wu32 (x := (I : Int) + 2 + 1) (by omega)]
      have eI1 : ((I : Int) + 2 + 1 - 2).toNat = I + 1 := by omega
      rcases at_nodes l ((I : Int) + 2) with ⟨q1, -⟩ | ⟨k, rk, q1, q2, q3, q4⟩
      · rw [rec_at, List.getElem?_eq_getElem hil] at q1; cases q1
      · have hk : k = I := by omega
        subst hk
        rw [q4]
        refine pif_t (by simp) ⟨by omega, by omega, _, by rw [Int.toNat_natCast]; exact (O.ext E').cellB hgi, pif_split (fun h1 => ?_) fun h1 => ?_⟩
        · refine Ou.app (x := (k : Int) + 2) elU (fun _ => rfl) (encU_one _) (by omega) fun s' h' O' C' => ⟨⟨by omega, by omega, C'.extR E' fun c hc => Ou.inF hc, ?_⟩, by omega⟩
          rw [eI1, ids_snoc, hgi, h1]
          refine O'.mono ?_
          rintro c (hc | hc)
          · exact hc
          · exact E'.fresh hc
        · refine ⟨⟨by omega, by omega, E', ?_⟩, by omega⟩
          rw [eI1, ids_snoc, hgi, h1]
          simpa using Ou
    · have ei : (i - 2).toNat = l.length := by omega
      rw [ei] at Ou
      exact ⟨u, _, rfl, Ou.toR, C, E2⟩
end Go.Proofs.YtbeapoopomlgaaaGreat.Sx
