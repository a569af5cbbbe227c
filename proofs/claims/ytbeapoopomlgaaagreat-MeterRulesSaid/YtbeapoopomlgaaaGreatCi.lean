/- Contracts: what edges reach, as a list; why an edge may not be asked. -/
import Derived.Test.YtbeapoopomlgaaaGreatCh
namespace Go.Proofs.YtbeapoopomlgaaaGreat.Sx
open Go Go.Proofs
open Go.IntKind (wrap)

theorem Closed.perm {get : Int → Option Rec} {es : List Edg} {M M' : List Int} (C : Closed get es M) (p : M'.Perm M) : Closed get es M' :=
  ⟨p.nodup_iff.2 C.nd, fun x hx => C.from_ x (p.mem_iff.1 hx), fun e he hn => p.mem_iff.2 (C.has e he hn), fun x hx => by
    obtain ⟨r, h1, h2, h3⟩ := C.cl x (p.mem_iff.1 hx)
    exact ⟨r, h1, fun h => p.mem_iff.2 (h2 h), fun h => p.mem_iff.2 (h3 h)⟩⟩
theorem Closed.same {get : Int → Option Rec} {es : List Edg} {M M' : List Int} (C : Closed get es M) (C' : Closed get es M') : M'.Perm M := by
  rw [List.perm_ext_iff_of_nodup C'.nd C.nd]
  intro x
  rw [C'.iff, C.iff]

theorem nodup_len {α : Type} [DecidableEq α] : ∀ {l m : List α}, l.Nodup → (∀ x ∈ l, x ∈ m) → l.length ≤ m.length := by
  intro l
  induction l with
  | nil => intro m _ _; simp
  | cons a l ih =>
    intro m nd hs
    rw [List.nodup_cons] at nd
    have ha := hs a (by simp)
    have h1 := ih (m := m.erase a) nd.2 fun x hx => (List.mem_erase_of_ne (by rintro rfl; exact nd.1 hx)).2 (hs x (by simp [hx]))
    rw [List.length_erase_of_mem ha] at h1
    have := List.length_pos_of_mem ha
    simp only [List.length_cons]; omega
theorem sort_nil {h : Heap} : Spec TP 134 #[.slice none 0 0] h fun v h' => v = .tuple #[] ∧ h' = h := by
  refine f134_ok (x := ⟨none, 0, 0⟩) ?_
  unfold f134_sem
  refine (blen_spec (n := 0) (by omega)).mono ?_
  rintro v h ⟨⟨r, rfl, -⟩, rfl⟩
  refine ⟨_, rfl, Spec.mono (K := fun v h' => v = .tuple #[] ∧ h' = h) (f191_ok (d := ⟨none, 0, 0⟩) ?_) (by rintro v h' ⟨rfl, rfl⟩; exact ⟨rfl, rfl, rfl⟩)⟩
  unfold f191_sem
  refine .by (fun st g => g = h ∧ st.1 = 0 ∧ st.2.1 = 0) (fun _ _ => 0) ⟨rfl, rfl, rfl⟩ ?_
  rintro ⟨x, y, lim, wb, wp, _⟩ g ⟨rfl, hx, hy⟩
  dsimp only at hx hy ⊢
  subst hx hy
  refine pif_t (by rw [w64 (by omega)]; rfl) (Spec.mono (K := fun v h' => v = .tuple #[] ∧ h' = g) (f234_ok (data := ⟨none, 0, 0⟩) ?_) (by rintro v h' ⟨rfl, rfl⟩; exact ⟨rfl, rfl, rfl⟩))
  unfold f234_sem
  refine .by (fun st h' => h' = g ∧ st.1 = 1) (fun _ _ => 0) ⟨rfl, rfl⟩ ?_
  rintro ⟨x, _⟩ g ⟨rfl, hx⟩
  dsimp only at hx ⊢
  subst hx
  exact pif_f (by simp) ⟨rfl, rfl⟩

theorem encU_one (x : Int) : ∀ v ∈ encU x, v.oneCell' = true := by
  intro v hv; simp only [encU, List.mem_singleton] at hv; subst hv; rfl
theorem contains_arr {l : List Nat} {x : Nat} : l.toArray.contains x = decide (x ∈ l) := by simp

theorem reach_spec {h : Heap} {a : Addr} {cells : Cells} {n cnt room : Int} {s : Sl} {es : List Edg} (R : StR h a cells n cnt room) (G : Good (getC cells) n) (S : SlR h s 2 Edg.vals es) (hes : ∀ e ∈ es, e.ok) (hlen : es.length < 1000000000) (hM : cells.length < 1000000000) :
    Spec TP 68 #[.pointer (some a), .slice s.p s.n s.c] h fun v h' => ∃ (t : Sl) (M : List Int), v = .slice t.p t.n t.c ∧ SlR h' t 1 encU M ∧ Closed (getC cells) es M ∧ M.length ≤ cells.length ∧ Ext h h' := by
  refine f68_ok ?_
  unfold f68_sem
  refine pif_f rfl ((reached_spec R G S hes hlen).mono ?_)
  rintro v g ⟨m, M, rfl, hm, E, HM, C⟩
  have hMl : M.length ≤ cells.length := by
    have hsub := nodup_len (m := (List.range cells.length).map fun (i : Nat) => (i : Int) + 2) C.nd fun x hx => by
      obtain ⟨r, hr, -⟩ := C.cl x hx
      obtain ⟨h1, h2⟩ := getC_pos hr
      rw [List.mem_map]
      exact ⟨(x - 2).toNat, List.mem_range.2 (List.getElem?_eq_some_iff.1 h2).1, by omega⟩
    simpa using hsub
  refine ⟨_, rfl, m, _, _, rfl, HM.row, fun bi hbi => ?_⟩
  have hbi0 := E.fresh hbi
  have hmi : m ≠ bi := fun he => by subst he; rw [HM.row] at hbi; cases hbi
  refine .by (fun st g => ∃ seen : List Nat, seen.Nodup ∧ (∀ i ∈ seen, i < M.length) ∧ g bi = some (.mapIter (some m) M.length seen.toArray M.length) ∧ MapIs g m M ∧ Ext h g ∧
    OwnN g st.1 23 1 encU (seen.map fun i => M[i]?.getD 0) (fun c => c ≠ bi ∧ c ≠ m ∧ h c = none)) (fun st g => M.length - st.1.n) ?_ ?_
  · refine ⟨[], List.nodup_nil, by simp, new_at _ _ _, ⟨by rw [new_ne hmi]; exact HM.row⟩, E.newR _ hbi0, .inl ⟨rfl, rfl⟩⟩
  rintro ⟨t, _⟩ g ⟨seen, nd, lt, hit, HM, E, O⟩
  dsimp only at O ⊢
  have hsl : seen.length ≤ M.length := by
    have hsub := nodup_len (m := List.range M.length) nd fun x hx => List.mem_range.2 (lt x hx)
    simpa using hsub
  have hOn := O.toR.len
  rw [List.length_map] at hOn
  refine ⟨m, M.length, seen.toArray, M.length, (entsOf M).toArray, M.length, ⟨hit, HM.row⟩, ?_, Nat.le_refl _, fun hall => ?_, fun e he hns => ?_⟩
  · intro e he
    obtain ⟨i, id, h1, rfl⟩ := ents_mem (M := M) (by simpa using he)
    exact (List.getElem?_eq_some_iff.1 h1).1
  · -- all are met
    have hp : (seen.map fun i => M[i]?.getD 0).Perm M := by
      have p1 : seen.Perm (List.range M.length) := by
        rw [List.perm_ext_iff_of_nodup nd List.nodup_range]
        intro i
        rw [List.mem_range]
        refine ⟨lt i, fun hi => ?_⟩
        have := hall { key := .int .u32 M[i], val := .int .i64 1, born := i } (by
          rw [List.mem_toArray]
          exact List.mem_of_getElem? (i := i) (by rw [ents_get, List.getElem?_eq_getElem hi]; rfl))
        rw [contains_arr] at this
        simpa using this
      have p2 := p1.map fun i => M[i]?.getD 0
      have e : (List.range M.length).map (fun i => M[i]?.getD 0) = M := by
        apply List.ext_getElem?
        intro i
        rw [List.getElem?_map]
        by_cases hi : i < M.length
        · rw [List.getElem?_range hi, List.getElem?_eq_getElem hi]; simp [List.getElem?_eq_getElem hi]
        · rw [List.getElem?_eq_none (by simp; omega), List.getElem?_eq_none (by omega)]; rfl
      rwa [e] at p2
    rcases O with ⟨ht, hl⟩ | ⟨b, hb, O⟩
    · subst ht
      rw [hl] at hp
      refine sort_nil.ret ⟨rfl, ⟨none, 0, 0⟩, [], rfl, SlR.nil 0, C.perm hp, by simp, E⟩
    · refine (sort_spec O (by simp; omega)).mono ?_
      rintro v g' ⟨rfl, ⟨l', p', O'⟩, C'⟩
      refine ⟨rfl, t, l', rfl, O'.toR, C.perm (p'.trans hp), by rw [(p'.trans hp).length_eq]; exact hMl, C'.extR E fun c hc => by rw [hc]; exact hb.2.2⟩
  · -- one more
    obtain ⟨i, id, h1, rfl⟩ := ents_mem (M := M) (by simpa using he)
    dsimp only at hns
    rw [contains_arr] at hns
    simp only [decide_eq_false_iff_not] at hns
    have hi := (List.getElem?_eq_some_iff.1 h1).1
    have C1 : Chg g (g.new bi (.mapIter (some m) M.length (seen.toArray.push i) M.length)) fun c => c = bi := fun c o hc hn => by rw [new_ne hn]; exact hc
    refine ⟨m, M.length, seen.toArray.push i, M.length, (entsOf M).toArray, M.length, i, { key := .int .u32 id, val := .int .i64 1, born := i }, ⟨new_at _ _ _, by rw [new_ne hmi]; exact HM.row⟩, rfl, by simp, ?_, id, rfl, ?_⟩
    · rw [List.find?_toArray]
      exact find_at (i := i) (by rw [ents_get, h1]; rfl) (by simp) fun j y hj hy => by
        rw [ents_get] at hy
        cases hx : M[j]? with
        | none => rw [hx] at hy; cases hy
        | some z => rw [hx] at hy; cases hy; simp; omega
    · have O1 := O.chg C1 fun c hc => hc.1
      refine O1.app (x := id) elU (fun _ => rfl) (encU_one _) (by simp; omega) fun s' g' O' C' => ?_
      have hF := fun c (hc : sblk t c) => O1.inF hc
      have hnd : (seen ++ [i]).Nodup := by
        rw [List.nodup_append]
        exact ⟨nd, by simp, fun x hx y hy => by simp only [List.mem_singleton] at hy; rw [hy]; rintro rfl; exact hns hx⟩
      have E1 : Ext h (g.new bi (.mapIter (some m) M.length (seen.toArray.push i) M.length)) := C1.extR E fun c hc => by rw [hc]; exact hbi0
      have hs' := O'.toR.len
      simp only [List.length_append, List.length_map, List.length_cons, List.length_nil] at hs'
      have hsl2 : (seen ++ [i]).length ≤ M.length := by
        have hsub := nodup_len (m := List.range M.length) hnd fun x hx => List.mem_range.2 (by
          rw [List.mem_append, List.mem_singleton] at hx
          rcases hx with hx | rfl
          · exact lt x hx
          · exact hi)
        simpa using hsub
      simp only [List.length_append, List.length_cons, List.length_nil] at hsl2
      refine ⟨⟨seen ++ [i], hnd, ?_, ?_, ⟨?_⟩, C'.extR E1 fun c hc => (hF c hc).2.2, ?_⟩, by omega⟩
      · intro x hx
        rw [List.mem_append, List.mem_singleton] at hx
        rcases hx with hx | rfl
        · exact lt x hx
        · exact hi
      · rw [C' bi _ (new_at _ _ _) fun hc => (hF _ hc).1 rfl]; simp
      · rw [C' m _ (by rw [new_ne hmi]; exact HM.row) fun hc => (hF _ hc).2.1 rfl]
      · rw [List.map_append, List.map_singleton, h1]
        refine O'.mono ?_
        rintro c (hc | hc)
        · exact hc
        · refine ⟨fun he => ?_, fun he => ?_, E1.fresh hc⟩
          · rw [he, new_at] at hc; cases hc
          · rw [he, new_ne hmi, HM.row] at hc; cases hc

/-- why an edge at a level may not be asked -/
def mayE (get : Int → Option Rec) (n f : Int) (e : Edg) (l : Int) : Int := if ¬ formB f then 4 else if l < 0 ∨ l > n then 3 else if ¬ leadsB get n f e l then 1 else 0

theorem cmay_spec {h : Heap} {a : Addr} {cells : Cells} {n cnt room f l : Int} {e : Edg} (R : StR h a cells n cnt room) (he : e.ok) (hr : ∀ id r, getC cells id = some r → r.ok) :
    Spec TP 106 #[.pointer (some a), .int .u8 f, e.val, .int .i64 l] h fun v h' => v = .int .u8 (mayE (getC cells) n f e l) ∧ h' = h := by
  refine f106_ok ?_
  unfold f106_sem mayE
  refine pif_f rfl (isForm_spec.ret ⟨_, rfl, pif_split (fun hc => ?_) fun hc => ?_⟩)
  · simp only [Bool.not_eq_true', decide_eq_false_iff_not] at hc
    rw [if_pos hc]; exact ⟨rfl, rfl⟩
  · simp only [Bool.not_eq_false', decide_eq_true_eq] at hc
    rw [if_neg (not_not_intro hc)]
    refine pif_dec (fun h1 => by rw [if_pos (.inl h1)]; exact ⟨rfl, rfl⟩) fun h1 => (svars_spec R).ret ⟨_, rfl, pif_dec (fun h2 => by rw [if_pos (.inr h2)]; exact ⟨rfl, rfl⟩) fun h2 => ?_⟩
    rw [if_neg (by omega)]
    refine (sleads_spec R he hr).ret ⟨_, rfl, pif_split (fun h3 => ?_) fun h3 => ?_⟩
    · simp only [Bool.not_eq_true', decide_eq_false_iff_not] at h3
      rw [if_pos h3]; exact ⟨rfl, rfl⟩
    · simp only [Bool.not_eq_false', decide_eq_true_eq] at h3
      rw [if_neg (not_not_intro h3)]; exact ⟨rfl, rfl⟩

theorem csize_spec {h : Heap} {a : Addr} {cells : Cells} {n cnt room f l : Int} {e : Edg} (R : StR h a cells n cnt room) (G : Good (getC cells) n) (he : e.ok) (hM : cells.length < 1000000000) :
    Spec TP 50 #[.pointer (some a), .int .u8 f, e.val, .int .i64 l] h fun v h' => (∃ k : Int, v = .tuple #[.int .i64 k, .int .u8 (mayE (getC cells) n f e l)] ∧ (mayE (getC cells) n f e l ≠ 0 → k = 0) ∧ (mayE (getC cells) n f e l = 0 → ∃ M, Closed (getC cells) [e] M ∧ k = M.length)) ∧ h' = h := by
  refine Spec.pure (f50_ok ?_)
  unfold f50_sem
  refine (cmay_spec R he fun id r hr => (G.ok id r hr).1).ret ⟨_, rfl, pif_split (fun hc => ?_) fun hc => fun b hb => ?_⟩
  · simp only [bne_iff_ne, ne_eq] at hc
    exact ⟨⟨0, rfl, fun _ => rfl, fun h => absurd h hc⟩, Ext.refl _⟩
  · simp only [bne_eq_false_iff_eq] at hc
    have E : Ext h (h.new b (.cells #[.int .u8 e.t, .int .u32 e.a] 25)) := Ext.new _ hb
    have B : Blk (h.new b (.cells #[.int .u8 e.t, .int .u32 e.a] 25)) b 25 e.vals := Blk.new _ _ _ _
    refine (reach_spec (s := ⟨some (adr b), 1, 1⟩) (es := [e]) (R.ext E) G ⟨rfl, fun i x hi => ?_⟩ (by simpa using he) (by simp) hM).mono ?_
    · cases i with
      | zero => cases hi; exact ⟨_, rfl, B.all⟩
      | succ i => simp at hi
    · rintro v g ⟨t, M, rfl, S, C, hl, E'⟩
      refine ⟨t, rfl, ⟨t.n, by rw [hc], fun h => absurd hc h, fun _ => ⟨M, C, by rw [S.len]⟩⟩, E.trans E'⟩

theorem mmay_spec {h : Heap} {a : Addr} {cells : Cells} {n cnt room f : Int} {e : Edg} (R : StR h a cells n cnt room) (G : Good (getC cells) n) (he : e.ok) (hM : cells.length < 1000000000) :
    Spec TP 67 #[.pointer (some a), .int .u8 f, e.val] h fun v h' => v = .int .u8 (mayE (getC cells) n f e 0) ∧ h' = h := by
  refine f67_ok ?_
  unfold f67_sem
  refine (csize_spec R G he hM).mono ?_
  rintro v g ⟨⟨k, rfl, -⟩, rfl⟩
  exact ⟨_, _, rfl, rfl, rfl⟩
end Go.Proofs.YtbeapoopomlgaaaGreat.Sx
