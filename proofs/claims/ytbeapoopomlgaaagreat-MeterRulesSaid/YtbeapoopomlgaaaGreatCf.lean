/- Contracts: two stores behind the same records. -/
import Derived.Test.YtbeapoopomlgaaaGreatCe
namespace Go.Proofs.YtbeapoopomlgaaaGreat.Sx
open Go Go.Proofs
open Go.IntKind (wrap)

def nodesOf (l : List Rec) : Nodes := l.zipIdx.map fun p => ((p.2 : Int) + 2, p.1)
def arOf (l : List Rec) (room : Int) : Ar := ⟨l.map some, [], l.length, room⟩
/-- the record of an id -/
def recAt (l : List Rec) (id : Int) : Option Rec := if id < 2 then none else l[(id - 2).toNat]?
theorem nodes_len (l : List Rec) : (nodesOf l).length = l.length := by simp [nodesOf]
theorem nodes_get (l : List Rec) (i : Nat) : (nodesOf l)[i]? = (l[i]?).map fun r => ((i : Int) + 2, r) := by
  simp only [nodesOf, List.getElem?_map, List.getElem?_zipIdx]
  cases l[i]? <;> simp
theorem nodes_snoc (l : List Rec) (r : Rec) : nodesOf (l ++ [r]) = nodesOf l ++ [((l.length : Int) + 2, r)] := by
  simp [nodesOf, List.zipIdx_append]
theorem getC_of (l : List Rec) (id : Int) : getC (l.map some) id = recAt l id := by
  unfold getC recAt
  split
  · rfl
  · rw [List.getElem?_map]; cases l[(id - 2).toNat]? <;> rfl
theorem getL_of (l : List Rec) (id : Int) : getL (nodesOf l) id = recAt l id := by
  unfold getL recAt
  split
  · rename_i h
    rw [find_no fun j y hy => ?_]; · rfl
    rw [nodes_get] at hy
    cases hx : l[j]? with
    | none => rw [hx] at hy; cases hy
    | some r => rw [hx] at hy; cases hy; simp; omega
  · rename_i h
    cases hx : l[(id - 2).toNat]? with
    | none =>
      rw [find_no fun j y hy => ?_]; · rfl
      rw [nodes_get] at hy
      cases hj : l[j]? with
      | none => rw [hj] at hy; cases hy
      | some r =>
        rw [hj] at hy; cases hy
        simp only [beq_eq_false_iff_ne]
        intro he
        have : (id - 2).toNat = j := by omega
        rw [this, hj] at hx; cases hx
    | some r =>
      rw [find_at (i := (id - 2).toNat) (x := (id, r)) ?_ (by simp) ?_]; · rfl
      · rw [nodes_get, hx]; simp; omega
      · intro j y hj hy
        rw [nodes_get] at hy
        cases hk : l[j]? with
        | none => rw [hk] at hy; cases hy
        | some r => rw [hk] at hy; cases hy; simp; omega
theorem hasC_eq (l : List Rec) (r : Rec) : hasC (l.map some) r = match l.findIdx? (fun o => o == r) with | some i => (i : Int) + 2 | none => 0 := by
  unfold hasC
  rw [List.findIdx?_map]
  have : ((fun o : Option Rec => o == some r) ∘ some) = fun o => o == r := by funext o; simp
  rw [this]
  cases l.findIdx? (fun o => o == r) <;> rfl
theorem hasL_eq (l : List Rec) (r : Rec) : hasL (nodesOf l) r = match l.findIdx? (fun o => o == r) with | some i => (i : Int) + 2 | none => 0 := by
  unfold hasL
  cases h : l.findIdx? (fun o => o == r) with
  | none =>
    rw [List.findIdx?_eq_none_iff] at h
    rw [find_no fun j y hy => ?_]
    rw [nodes_get] at hy
    cases hk : l[j]? with
    | none => rw [hk] at hy; cases hy
    | some x => rw [hk] at hy; cases hy; exact h x (List.mem_of_getElem? hk)
  | some i =>
    obtain ⟨h1, h2, h3⟩ := List.findIdx?_eq_some_iff_getElem.1 h
    rw [find_at (i := i) (x := ((i : Int) + 2, l[i])) (by rw [nodes_get, List.getElem?_eq_getElem h1]; rfl) h2 fun j y hj hy => ?_]
    rw [nodes_get] at hy
    cases hk : l[j]? with
    | none => rw [hk] at hy; cases hy
    | some x =>
      rw [hk] at hy; cases hy
      obtain ⟨g1, g2⟩ := List.getElem?_eq_some_iff.1 hk
      have := h3 j hj
      rw [g2] at this; simpa using this
/-- Find, of records -/
def findR (n room : Int) (l : List Rec) (r : Rec) : List Rec :=
  if 0 < hasL (nodesOf l) r then l else if ¬ (rightB r n ∧ leadsB (recAt l) n r.fm r.lo (r.bt + 1) ∧ leadsB (recAt l) n r.fm r.hi (r.bt + 1)) then l else if room ≤ l.length then l else l ++ [r]
theorem find_both (n room : Int) (l : List Rec) (r : Rec) : ((arOf l room).find n r).1 = arOf (findR n room l r) room ∧ (findL n room (nodesOf l) r).1 = nodesOf (findR n room l r) ∧
    ((arOf l room).find n r).2.1 = (findL n room (nodesOf l) r).2.1 ∧ ((arOf l room).find n r).2.2 = (findL n room (nodesOf l) r).2.2 := by
  have e1 : getC (arOf l room).cells = recAt l := funext fun id => getC_of l id
  have e2 : getL (nodesOf l) = recAt l := funext fun id => getL_of l id
  have e3 : hasC (arOf l room).cells r = hasL (nodesOf l) r := by rw [hasL_eq]; exact hasC_eq l r
  unfold Ar.find findL findR
  rw [e1, e2, e3, nodes_len]
  by_cases h1 : 0 < hasL (nodesOf l) r
  · simp only [if_pos h1]; exact ⟨trivial, trivial, trivial, trivial⟩
  · simp only [if_neg h1]
    by_cases h2 : rightB r n ∧ leadsB (recAt l) n r.fm r.lo (r.bt + 1) ∧ leadsB (recAt l) n r.fm r.hi (r.bt + 1)
    · simp only [if_neg (not_not_intro h2)]
      by_cases h3 : room ≤ l.length
      · have : (arOf l room).put r = (arOf l room, 0, false) := by unfold Ar.put; rw [if_pos (show (arOf l room).n ≥ (arOf l room).room from h3)]
        rw [this]
        simp [if_pos h3]
      · have : (arOf l room).put r = (arOf (l ++ [r]) room, (l.length : Int) + 2, true) := by
          unfold Ar.put; rw [if_neg (show ¬ (arOf l room).n ≥ (arOf l room).room from h3)]
          simp [arOf]
        rw [this]
        simp only [if_neg h3, nodes_snoc, if_true]
        exact ⟨trivial, trivial, trivial, trivial⟩
    · simp only [if_pos h2]; exact ⟨trivial, trivial, trivial, trivial⟩

theorem findR_mem {n room : Int} {l : List Rec} {r x : Rec} (h : x ∈ findR n room l r) : x ∈ l ∨ x = r := by
  unfold findR at h
  repeat' split at h
  all_goals first
    | exact .inl h
    | (rw [List.mem_append] at h; simpa using h)
theorem findR_len (n room : Int) (l : List Rec) (r : Rec) : (findR n room l r).length ≤ l.length + 1 := by
  unfold findR
  repeat' split
  all_goals (try simp) <;> omega
theorem recAt_mem {l : List Rec} {id : Int} {r : Rec} (h : recAt l id = some r) : r ∈ l := by
  unfold recAt at h
  split at h
  · cases h
  · exact List.mem_of_getElem? h

/-- both stores, apart, of blocks that were not there -/
structure Both (h0 h : Heap) (b bm : Nat) (l : List Rec) (n room : Int) (S1 S2 : Nat → Prop) : Prop where
  st : StoreAt h b (arOf l room) n S1
  rf : RefAt h bm (nodesOf l) n room S2
  ext : Ext h0 h
  f1 : ∀ c, S1 c → h0 c = none ∧ h c ≠ none ∧ ¬ S2 c
  f2 : ∀ c, S2 c → h0 c = none ∧ h c ≠ none
theorem Chg.live {h h' : Heap} {S : Nat → Prop} (C : Chg h h' S) {c : Nat} (hc : h c ≠ none) (hS : ¬ S c) : h' c ≠ none := by
  cases hx : h c with
  | none => exact absurd hx hc
  | some o => rw [C c o hx hS]; simp
theorem Chg.extR {h0 h h' : Heap} {S : Nat → Prop} (E : Ext h0 h) (C : Chg h h' S) (hS : ∀ c, S c → h0 c = none) : Ext h0 h' := fun c o hc => C c o (E c o hc) fun h => by rw [hS c h] at hc; cases hc

theorem both_step {h0 h : Heap} {b bm : Nat} {l : List Rec} {n room : Int} {S1 S2 : Nat → Prop} {r : Rec} (B : Both h0 h b bm l n room S1 S2) (hr : r.ok) (hok : ∀ x ∈ l, x.ok) (hlen : l.length < 100000000) {K : Value → Heap → Prop}
    (H : ∀ g, (∀ p vs, Has h0 p vs → Has g p vs) → (Spec TP 62 #[.pointer (some (adr bm)), r.val] g fun v g' => v = .tuple #[.int .u32 (findL n room (nodesOf l) r).2.1, .int .i64 (findL n room (nodesOf l) r).2.2] ∧ (∃ S1' S2', Both h0 g' b bm (findR n room l r) n room S1' S2')) → K (.tuple #[.int .u32 ((arOf l room).find n r).2.1, .int .u8 ((arOf l room).find n r).2.2]) g) :
    Spec TP 61 #[.pointer (some (adr b)), r.val] h K := by
  obtain ⟨st, rf, ext, f1, f2⟩ := B
  obtain ⟨e1, e2, -, -⟩ := find_both n room l r
  refine (sfind_spec st hr (fun id x hx => hok x (recAt_mem (by rw [← getC_of]; exact hx))) (by simp [arOf]; omega)).mono ?_
  rintro v g ⟨rfl, st', C⟩
  have rf' := rf.chg C fun c h2 h1 => (f1 c h1).2.2 h2
  have ext' := C.extR ext fun c hc => (f1 c hc).1
  refine H g (fun p vs hp => hp.ext ext') ((rfind_spec rf' hr (fun p hp => ?_) (by rw [nodes_len]; omega)).mono ?_)
  · obtain ⟨i, hi⟩ := List.mem_iff_getElem?.1 hp
    rw [nodes_get] at hi
    cases hx : l[i]? with
    | none => rw [hx] at hi; cases hi
    | some x => rw [hx] at hi; cases hi; exact hok x (List.mem_of_getElem? hx)
  · rintro v g' ⟨rfl, rf'', C'⟩
    rw [e1] at st'
    rw [e2] at rf''
    have d1 : ∀ c, (Fp h S1 c ∧ g c ≠ none) → ¬ S2 c := by
      rintro c ⟨hc | hc, -⟩ h2
      · exact (f1 c hc).2.2 h2
      · exact (f2 c h2).2 hc
    refine ⟨rfl, fun c => Fp h S1 c ∧ g c ≠ none, fun c => Fp g S2 c ∧ g' c ≠ none, st'.cut.chg C' d1, rf''.cut, C'.extR ext' fun c hc => (f2 c hc).1, fun c hc => ?_, fun c hc => ?_⟩
    · refine ⟨?_, C'.live hc.2 (d1 c hc), ?_⟩
      · rcases hc.1 with h1 | h1
        · exact (f1 c h1).1
        · exact ext.fresh h1
      · rintro ⟨h2 | h2, -⟩
        · exact d1 c hc h2
        · exact hc.2 h2
    · refine ⟨?_, hc.2⟩
      rcases hc.1 with h2 | h2
      · exact (f2 c h2).1
      · exact ext'.fresh h2

def builtR (n room : Int) (recs : List Rec) : List Rec := recs.foldl (findR n room) []
theorem foldl_inv {n room : Int} : ∀ (recs l : List Rec), (∀ x ∈ recs, x.ok) → (∀ x ∈ l, x.ok) → (∀ x ∈ recs.foldl (findR n room) l, x.ok) ∧ (recs.foldl (findR n room) l).length ≤ l.length + recs.length := by
  intro recs
  induction recs with
  | nil => intro l _ hl; exact ⟨hl, by simp⟩
  | cons r recs ih =>
    intro l hr hl
    have h1 := ih (findR n room l r) (fun x hx => hr x (by simp [hx])) (fun x hx => (findR_mem hx).elim (hl x) fun h => by rw [h]; exact hr r (by simp))
    have h2 := findR_len n room l r
    refine ⟨h1.1, ?_⟩
    have h3 := h1.2
    simp only [List.foldl_cons, List.length_cons]
    omega

theorem built_spec {h : Heap} {s : Sl} {recs : List Rec} {n room : Int} (S : SlR h s 7 Rec.vals recs) (hok : ∀ x ∈ recs, x.ok) (hlen : recs.length < 1000) (h0 : 0 ≤ n) (h1 : n ≤ 16) (h2 : 0 ≤ room) (h3 : room ≤ 1048576) :
    Spec TP 11 #[.int .i64 n, .int .i64 room, .slice s.p s.n s.c] h fun v h' => ∃ b bm S1 S2, v = .tuple #[.pointer (some (adr b)), .pointer (some (adr bm)), .bool true] ∧ Both h h' b bm (builtR n room recs) n room S1 S2 := by
  have hsl := S.len
  refine f11_ok ?_
  unfold f11_sem
  refine (snew_spec h0 h1 h2 h3).mono ?_
  rintro v g ⟨b, rfl, st, E⟩
  refine ⟨_, _, rfl, pif_f (by decide) fun bm hbm => ?_⟩
  refine .by (fun st g => 0 ≤ st.1 ∧ st.1 ≤ recs.length ∧ ∃ S1 S2, Both h g b bm ((recs.take st.1.toNat).foldl (findR n room) []) n room S1 S2) (fun st _ => (recs.length - st.1).toNat) ?_ ?_
  · have E2 : Ext g (g.new bm (.cells #[.slice none 0 0, .slice none 0 0, .int .u32 0, .int .i64 n, .int .i64 room] 118 (0, 0))) := Ext.new _ hbm
    refine ⟨by simp, by simp, _, fun c => c = bm, st.cut.chg (Chg.ext E2 (S := fun _ => False)) fun c _ hc => hc, ⟨⟨⟨none, 0, 0⟩, Blk.new _ _ _ _, OwnN.nil⟩, rfl, by simp [nodesOf]⟩, E.trans E2, ?_, ?_⟩
    · rintro c ⟨hc1, hc2⟩
      have hne : c ≠ bm := fun he => hc2 (by rw [he]; exact hbm)
      exact ⟨hc1, by rw [new_ne hne]; exact hc2, hne⟩
    · rintro c rfl; exact ⟨E.fresh hbm, by rw [new_at]; simp⟩
  · rintro ⟨i, _⟩ g' ⟨hi0, hi1, S1, S2, B⟩
    dsimp only at hi0 hi1 B ⊢
    have Sg := S.ext B.ext
    refine pif_dec (fun hc => ?_) fun hc => ?_
    · have hl : i.toNat < recs.length := by omega
      have hg := List.getElem?_eq_getElem hl
      have hinv := foldl_inv (n := n) (room := room) (recs.take i.toNat) [] (fun x hx => hok x (List.mem_of_mem_take hx)) (by simp)
      have hlen2 := hinv.2
      simp only [List.length_nil, List.length_take] at hlen2
      refine Sg.read hi0 hg fun q hq => ⟨_, _, _, _, _, _, _, hq, both_step B (r := recs[i.toNat]) (hok _ (List.getElem_mem hl)) hinv.1 (by omega) fun g2 hkeep C => ⟨_, _, rfl, ?_⟩⟩
      have S2' : SlR g2 s 7 Rec.vals recs := ⟨S.len, fun j x hj => by obtain ⟨a, q1, q2⟩ := S.at_ j x hj; exact ⟨a, q1, hkeep _ _ q2⟩⟩
      refine S2'.read hi0 hg fun q hq => ⟨_, _, _, _, _, _, _, hq, C.mono ?_⟩
      rintro v g3 ⟨rfl, S1', S2', B'⟩
      refine ⟨_, _, rfl, ?_⟩
      rw [w64 (by omega)]
      refine ⟨⟨by omega, by omega, S1', S2', ?_⟩, by omega⟩
      have e : (i + 1).toNat = i.toNat + 1 := by omega
      rw [e, List.take_succ_eq_append_getElem hl, List.foldl_append]
      exact B'
    · have e : i.toNat = recs.length := by omega
      rw [e, List.take_length] at B
      exact ⟨b, bm, S1, S2, rfl, B⟩

theorem StR.has {h : Heap} {a : Addr} {l : List Rec} {n cnt room : Int} (R : StR h a (l.map some) n cnt room) {i : Nat} {r : Rec} (hi : l[i]? = some r) : hasC (l.map some) r = (i : Int) + 2 := by
  obtain ⟨ba, bi, slots, H, A, I, hS, hr, hl⟩ := R.ex
  have := I.len
  refine (hasC_of hS (by omega) hl ((hl r _).2 (getC_at.2 ?_))).1
  rw [List.getElem?_map, hi]; rfl

theorem same_spec {h : Heap} {a am : Addr} {l : List Rec} {n room : Int} (R : StR h a (l.map some) n l.length room) (Q : RefR h am (nodesOf l) n room) (hl : l.length < 1000000) :
    Spec TP 27 #[.pointer (some a), .pointer (some am)] h fun v h' => v = .bool true ∧ h' = h := by
  obtain ⟨s, H, S, -⟩ := Q.ex
  have hsl := S.len
  rw [nodes_len] at hsl
  refine f27_ok ?_
  unfold f27_sem
  refine ⟨s, H.cell0 rfl, (slen_spec R).ret ⟨_, rfl, H.cell0 rfl, pif_f (by simp [hsl]) ⟨_, H.cell 3 rfl, (svars_spec R).ret ⟨_, rfl, H.cell 3 rfl, pif_f (by simp) ⟨_, H.cell 4 rfl, (sroom_spec R).ret ⟨_, rfl, H.cell 4 rfl, pif_f (by simp) ?_⟩⟩⟩⟩⟩⟩
  refine .by (fun st h' => h' = h ∧ 0 ≤ st.1 ∧ st.1 ≤ l.length) (fun st _ => (l.length - st.1).toNat) ⟨rfl, by simp, by simp⟩ ?_
  rintro ⟨i, _⟩ h' ⟨rfl, h0, h1⟩
  dsimp only at h0 h1 ⊢
  refine ⟨s, H.cell0 rfl, pif_dec (fun hc => ?_) fun hc => ⟨rfl, rfl⟩⟩
  have hil : i.toNat < l.length := by omega
  have hg := List.getElem?_eq_getElem hil
  have hn : (nodesOf l)[i.toNat]? = some ((i.toNat : Int) + 2, l[i.toNat]) := by rw [nodes_get, hg]; rfl
  have hgc : getC (l.map some) ((i.toNat : Int) + 2) = some l[i.toNat] := getC_at.2 (by rw [List.getElem?_map, hg]; rfl)
  refine ⟨s, H.cell0 rfl, S.read h0 hn fun q hq => ⟨_, hq.cell0 rfl, (sget_spec R (id := (i.toNat : Int) + 2) (by omega) (by omega)).ret ?_⟩⟩
  rw [hgc]
  refine ⟨_, _, _, _, _, _, _, _, rfl, s, H.cell0 rfl, S.read h0 hn fun q hq => ⟨_, _, _, _, _, _, _, encN_rec hq, (shas_spec R).ret ⟨_, _, rfl, pif_f rfl ?_⟩⟩⟩
  dsimp only
  rw [R.has hg]
  refine pif_f (by simp; omega) ⟨s, H.cell0 rfl, S.read h0 hn fun q hq => ⟨_, _, _, _, _, _, _, encN_rec hq, ?_⟩⟩
  refine pif_f (by simp) ⟨s, H.cell0 rfl, S.read h0 hn fun q hq => ⟨_, hq.cell0 rfl, pif_f (by simp) ?_⟩⟩
  rw [w64 (by omega)]
  exact ⟨⟨rfl, by omega, by omega⟩, by omega⟩
end Go.Proofs.YtbeapoopomlgaaaGreat.Sx
