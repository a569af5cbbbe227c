/- Contracts: whole numbers as words. -/
import Derived.Test.YtbeapoopomlgaaaGreatCi
import Derived.Laws.Externs
namespace Go.Proofs.YtbeapoopomlgaaaGreat.Sx
open Go Go.Proofs
open Go.IntKind (wrap)

@[reducible] def encW (x : Int) : List Value := [.int .u64 x]
theorem elW : ElemOK 46 1 := elemOK (by kernel_rfl)
theorem encW_one (x : Int) : ∀ v ∈ encW x, v.oneCell' = true := by
  intro v hv; simp only [encW, List.mem_singleton] at hv; subst hv; rfl
abbrev WOK (ws : List Int) : Prop := ∀ w ∈ ws, 0 ≤ w ∧ w < 18446744073709551616
def valW : List Int → Nat
  | [] => 0
  | w :: r => w.toNat + 18446744073709551616 * valW r
def trimW : List Int → List Int
  | [] => []
  | w :: r => match trimW r with
    | [] => if w = 0 then [] else [w]
    | x :: l => w :: x :: l
theorem trim_cons (w : Int) (r : List Int) : trimW (w :: r) = if trimW r = [] then (if w = 0 then [] else [w]) else w :: trimW r := by
  simp only [trimW]
  cases h : trimW r <;> simp
theorem trim_val : ∀ ws : List Int, valW (trimW ws) = valW ws
  | [] => rfl
  | w :: r => by
    have ih := trim_val r
    rw [trim_cons]
    split
    · rename_i h
      rw [h] at ih
      split
      · rename_i h0; subst h0; simp only [valW] at ih ⊢; rw [← ih]; simp
      · simp only [valW] at ih ⊢; rw [← ih]
    · simp only [valW, ih]
theorem trim_mem : ∀ {ws : List Int} {x : Int}, x ∈ trimW ws → x ∈ ws
  | [], x, h => h
  | w :: r, x, h => by
    rw [trim_cons] at h
    split at h
    · split at h
      · cases h
      · simpa using Or.inl (by simpa using h)
    · rw [List.mem_cons] at h ⊢
      exact h.imp id trim_mem
theorem trim_ok {ws : List Int} (h : WOK ws) : WOK (trimW ws) := fun w hw => h w (trim_mem hw)
theorem trim_len : ∀ ws : List Int, (trimW ws).length ≤ ws.length
  | [] => by simp [trimW]
  | w :: r => by
    have ih := trim_len r
    rw [trim_cons]
    split
    · split <;> simp
    · simp; omega
theorem trim_zero : ∀ ws : List Int, trimW (ws ++ [0]) = trimW ws
  | [] => rfl
  | w :: r => by rw [List.cons_append, trim_cons, trim_cons, trim_zero r]
theorem trim_last : ∀ {ws : List Int} {w : Int}, w ≠ 0 → trimW (ws ++ [w]) = ws ++ [w]
  | [], w, h => by simp [trimW, h]
  | x :: r, w, h => by rw [List.cons_append, trim_cons, trim_last h]; simp
/-- without words 0 at its end -/
abbrev NormW (ws : List Int) : Prop := trimW ws = ws
theorem trim_norm : ∀ ws : List Int, NormW (trimW ws)
  | [] => rfl
  | w :: r => by
    have ih := trim_norm r
    show trimW (trimW (w :: r)) = trimW (w :: r)
    rw [trim_cons]
    split
    · split
      · rfl
      · rename_i h; simp [trimW, h]
    · rename_i h
      rw [trim_cons, ih, if_neg h]
theorem norm_cons {w : Int} {r : List Int} (h : NormW (w :: r)) : NormW r ∧ (r = [] → w ≠ 0) := by
  rw [NormW, trim_cons] at h
  split at h
  · rename_i h1
    split at h
    · cases h
    · rename_i h2
      rw [List.cons.injEq] at h
      rw [← h.2]
      exact ⟨rfl, fun _ => h2⟩
  · rename_i h1
    rw [List.cons.injEq] at h
    refine ⟨h.2, fun hr => ?_⟩
    subst hr
    exact absurd rfl h1
theorem val_pos : ∀ {ws : List Int}, NormW ws → WOK ws → ws ≠ [] → 0 < valW ws
  | [], _, _, h => absurd rfl h
  | w :: r, hn, ho, _ => by
    have hw := ho w (by simp)
    obtain ⟨h1, h2⟩ := norm_cons hn
    simp only [valW]
    by_cases hr : r = []
    · have := h2 hr; omega
    · have := val_pos h1 (fun x hx => ho x (by simp [hx])) hr
      omega
theorem norm_uniq : ∀ {a b : List Int}, NormW a → WOK a → NormW b → WOK b → valW a = valW b → a = b
  | [], [], _, _, _, _, _ => rfl
  | [], y :: s, _, _, hb, ob, h => by have := val_pos hb ob (by simp); simp only [valW] at h this; omega
  | x :: r, [], ha, oa, _, _, h => by have := val_pos ha oa (by simp); simp only [valW] at h this; omega
  | x :: r, y :: s, ha, oa, hb, ob, h => by
    have hx := oa x (by simp)
    have hy := ob y (by simp)
    simp only [valW] at h
    have e1 : x = y := by omega
    have e2 : valW r = valW s := by omega
    rw [e1, norm_uniq (norm_cons ha).1 (fun z hz => oa z (by simp [hz])) (norm_cons hb).1 (fun z hz => ob z (by simp [hz])) e2]
theorem val_lt : ∀ {ws : List Int}, WOK ws → valW ws < 18446744073709551616 ^ ws.length
  | [], _ => by simp [valW]
  | w :: r, h => by
    have h1 := val_lt (ws := r) fun x hx => h x (by simp [hx])
    have h2 := h w (by simp)
    simp only [valW, List.length_cons, Nat.pow_succ]
    generalize 18446744073709551616 ^ r.length = q at h1 ⊢
    omega
theorem len_le : ∀ {ws : List Int}, NormW ws → WOK ws → ∀ k, valW ws < 18446744073709551616 ^ k → ws.length ≤ k
  | [], _, _, k, _ => by simp
  | w :: r, hn, ho, 0, h => by have := val_pos hn ho (by simp); simp only [Nat.pow_zero] at h; omega
  | w :: r, hn, ho, k + 1, h => by
    have := len_le (norm_cons hn).1 (fun x hx => ho x (by simp [hx])) k (by
      simp only [valW, Nat.pow_succ] at h
      rw [Nat.mul_comm (18446744073709551616 ^ k)] at h
      exact Nat.lt_of_mul_lt_mul_left (a := 18446744073709551616) (by omega))
    simp; omega
theorem val_append : ∀ (a b : List Int), valW (a ++ b) = valW a + 18446744073709551616 ^ a.length * valW b
  | [], b => by simp [valW]
  | x :: a, b => by
    simp only [List.cons_append, valW, List.length_cons, val_append a b, Nat.pow_succ]
    rw [Nat.mul_add, ← Nat.mul_assoc, Nat.mul_comm 18446744073709551616 (18446744073709551616 ^ a.length)]
    omega
theorem val_zeros : ∀ k : Nat, valW (List.replicate k 0) = 0
  | 0 => rfl
  | k + 1 => by simp only [List.replicate_succ, valW, val_zeros k]; rfl
theorem val_take {ws : List Int} {i : Nat} {w : Int} (h : ws[i]? = some w) : valW (ws.take (i + 1)) = valW (ws.take i) + 18446744073709551616 ^ i * w.toNat := by
  obtain ⟨h1, h2⟩ := List.getElem?_eq_some_iff.1 h
  rw [List.take_succ_eq_append_getElem h1, val_append, List.length_take, Nat.min_eq_left (by omega), h2]
  simp [valW]

/-- a number that is read -/
structure NatR (h : Heap) (s : Sl) (x : Nat) : Prop where
  cap : s.n ≤ s.c
  ex : ∃ ws, SlR h s 1 encW ws ∧ NormW ws ∧ WOK ws ∧ valW ws = x
theorem NatR.ext {h h' : Heap} {s : Sl} {x : Nat} (N : NatR h s x) (E : Ext h h') : NatR h' s x := by
  obtain ⟨ws, h1, h2⟩ := N.ex; exact ⟨N.cap, ws, h1.ext E, h2⟩
theorem NatR.keep {h h' : Heap} {s : Sl} {x : Nat} (N : NatR h s x) (E : Keep h h') : NatR h' s x := by
  obtain ⟨ws, h1, h2⟩ := N.ex; exact ⟨N.cap, ws, h1.keep E, h2⟩
theorem NatR.zero {h : Heap} : NatR h ⟨none, 0, 0⟩ 0 := ⟨Nat.le_refl _, [], SlR.nil 0, rfl, (fun _ hw => by cases hw), rfl⟩

abbrev FreshB (h : Heap) (c : Nat) : Prop := h c = none

/-- what is read, at once -/
theorem SlR.has {α : Type} {h : Heap} {s : Sl} {sz : Nat} {enc : α → List Value} {l : List α} (S : SlR h s sz enc l) (he : ∀ x, (enc x).length = sz) (h0 : 0 < sz) : HasSl h s sz (l.flatMap enc) := by
  refine ⟨by rw [flat_len he, S.len], fun a ha => ?_, fun hn => ?_⟩
  · cases l with
    | nil => exact .inl rfl
    | cons x l =>
      right
      have get : ∀ i y, (x :: l)[i]? = some y → Has h (a.add (i * sz)) (enc y) := fun i y hy => by
        obtain ⟨a', h1, h2⟩ := S.at_ i y hy
        rw [ha] at h1; cases h1; exact h2
      have H0 := get 0 x rfl
      rw [Nat.zero_mul] at H0
      have e0 : a.add 0 = a := by simp [Addr.add]
      rw [e0] at H0
      obtain ⟨hs, c, e, fr, hc, hv⟩ := H0
      refine ⟨hs, c, e, fr, hc, fun j v hj => ?_⟩
      have hjl := (List.getElem?_eq_some_iff.1 hj).1
      rw [flat_len he] at hjl
      have hd : j / sz < (x :: l).length := (Nat.div_lt_iff_lt_mul h0).2 hjl
      have hm : j % sz < sz := Nat.mod_lt _ h0
      have hg := List.getElem?_eq_getElem hd
      have ej : j = j / sz * sz + j % sz := by rw [Nat.mul_comm]; exact (Nat.div_add_mod j sz).symm
      have hf := flat_get he (x :: l) (j / sz) _ hg (j % sz) hm
      rw [← ej, hj] at hf
      obtain ⟨-, c', e', fr', hc', hv'⟩ := get _ _ hg
      rw [add_block, hc] at hc'
      cases hc'
      have := hv' _ _ hf.symm
      have eo : (a.add (j / sz * sz)).off = a.off + j / sz * sz := by
        unfold Addr.add; split
        · rename_i h; rw [h]; rfl
        · rfl
      rw [eo, Nat.add_assoc, ← ej] at this
      exact this
  · cases l with
    | nil => rfl
    | cons x l =>
      obtain ⟨a, h1, -⟩ := S.at_ 0 x rfl
      rw [hn] at h1; cases h1
/-- an empty array of one's own, and many are appended at once -/
theorem append_all {α : Type} {h : Heap} {b : Nat} {n T sz : Nat} {enc : α → List Value} {l : List α} {K : Sl → Heap → Prop} (B : Blk h b T []) (E : ElemOK T sz) (hesz : ∀ y, (enc y).length = sz) (hone : ∀ x ∈ l, ∀ v ∈ enc x, v.oneCell' = true)
    (hn : n = l.length) (hl : l.length < 1000000000) (H : ∀ s' h', OwnN h' s' T sz enc l (fun c => c = b ∨ h c = none) → Ext h h' → K s' h') : AppendS TP h T ⟨some (adr b), 0, 0⟩ (l.flatMap enc) n K := by
  obtain ⟨z, hz, hzs⟩ := E.zero
  obtain ⟨i, hi, -⟩ := info_of_zero hz
  subst hn
  refine ⟨fun v hv => ?_, ⟨i, hi⟩, fun hr => ?_, fun hr => ?_⟩
  · obtain ⟨x, hx, hv⟩ := List.mem_flatMap.1 hv
    exact hone x hx v hv
  · left
    simp only [Nat.zero_add, Nat.le_zero, List.length_eq_zero_iff] at hr
    subst hr
    refine ⟨rfl, H _ _ (.inr ⟨b, .inl rfl, rfl, rfl, Nat.le_refl _, hesz, [], by simp, B⟩) (Ext.refl _)⟩
  · have e0 := E.b0
    have e1 := E.b1
    have hb : l.length * TP.bytesOf T ≤ 140737488355328 := by
      calc l.length * TP.bytesOf T ≤ 1000000000 * 1000 := Nat.mul_le_mul (by omega) e1
        _ ≤ _ := by decide
    refine ⟨growslice_fits (by simpa using hr) (by simpa using hb), e0, [], z, by simp, fun _ _ => .inl rfl, fun _ => rfl, hz, ?_⟩
    intro cap b' hcap hb'
    refine H _ _ (.inr ⟨b', .inr hb', rfl, by simp, by simpa using hcap, hesz, _, ?_, Blk.new _ _ _ _⟩) (Ext.new _ hb')
    simp [zrow, hzs]

theorem clone64_spec {h : Heap} {s : Sl} {ws : List Int} (S : SlR h s 1 encW ws) (hl : ws.length < 1000000000) :
    Spec TP 185 #[.slice s.p s.n s.c] h fun v h' => ∃ t : Sl, v = .slice t.p t.n t.c ∧ OwnN h' t 46 1 encW ws (FreshB h) ∧ Ext h h' := by
  refine f185_ok ?_
  unfold f185_sem
  refine pif_split (fun hc => ?_) fun hc => fun b hb => ?_
  · have : ws = [] := by
      cases ws with
      | nil => rfl
      | cons w r =>
        obtain ⟨a, h1, -⟩ := S.at_ 0 w rfl
        rw [h1] at hc; cases hc
    subst this
    exact ⟨⟨none, 0, 0⟩, rfl, .inl ⟨rfl, rfl⟩, Ext.refl _⟩
  · have E : Ext h (h.new b (.cells #[] 46)) := Ext.new _ hb
    have B : Blk (h.new b (.cells #[] 46)) b 46 [] := Blk.new _ _ _ _
    refine ⟨_, (S.ext E).has (fun _ => rfl) (by decide), append_all B elW (fun _ => rfl) (fun x _ => encW_one x) S.len hl fun t h' O E' => ⟨t, rfl, O.mono ?_, E.trans E'⟩⟩
    rintro c (rfl | hc)
    · exact hb
    · exact E.fresh hc

theorem norm_spec {h : Heap} {s : Sl} {ws : List Int} (S : SlR h s 1 encW ws) (hl : ws.length < 1000000000) (hcap : s.n ≤ s.c) :
    Spec TP 129 #[.slice s.p s.n s.c] h fun v h' => ∃ t : Sl, v = .slice t.p t.n t.c ∧ OwnN h' t 46 1 encW (trimW ws) (FreshB h) ∧ Ext h h' := by
  have hsl := S.len
  refine f129_ok ?_
  unfold f129_sem
  refine .by (fun st g => g = h ∧ 0 ≤ st.1 ∧ st.1 ≤ s.n ∧ trimW (ws.take st.1.toNat) = trimW ws) (fun st _ => st.1.toNat) ⟨rfl, by simp, by simp, by simp [hsl]⟩ ?_
  rintro ⟨i, _⟩ g ⟨rfl, h0, h1, h2⟩
  dsimp only at h0 h1 h2 ⊢
  have fin : trimW ws = ws.take i.toNat → sliceS 1 s 0 i fun s20 => Spec TP 185 #[.slice s20.p s20.n s20.c] g fun r21 h21 => ∃ x21 : Sl, r21 = .slice x21.p x21.n x21.c ∧ ∃ t : Sl, Value.slice x21.p x21.n x21.c = .slice t.p t.n t.c ∧ OwnN h21 t 46 1 encW (trimW ws) (FreshB g) ∧ Ext g h21 := by
    intro ht
    refine sliceS_iff.2 ⟨⟨by omega, by omega, by omega⟩, ?_⟩
    refine (clone64_spec (ws := ws.take i.toNat) ⟨by simp; omega, fun j x hj => ?_⟩ (by simp; omega)).mono ?_
    · rw [List.getElem?_take] at hj
      split at hj
      · rename_i hji
        obtain ⟨a, q1, q2⟩ := S.at_ j x hj
        refine ⟨a, ?_, q2⟩
        rw [q1]
        have : ((0 : Int).toNat * 1) = 0 := rfl
        simp only [this]
        split
        · rfl
        · simp [Addr.add]
      · cases hj
    · rintro v g' ⟨t, rfl, O, E⟩
      refine ⟨_, rfl, t, rfl, ?_, E⟩
      rw [ht]; exact O
  refine pif_dec (fun hc => ?_) fun hc => ?_
  · rw [w64 (x := i - 1) (by omega)]
    have hil : (i - 1).toNat < ws.length := by omega
    have hg := List.getElem?_eq_getElem hil
    have et : ws.take i.toNat = ws.take (i - 1).toNat ++ [ws[(i - 1).toNat]] := by
      have e : i.toNat = (i - 1).toNat + 1 := by omega
      rw [e, List.take_succ_eq_append_getElem hil]
    refine S.read (by omega) hg fun a ha => ⟨_, ha, pif_split (fun hz => ⟨⟨rfl, by omega, by omega, ?_⟩, by omega⟩) fun hz => fin ?_⟩
    · simp only [beq_iff_eq] at hz
      rw [← h2, et, hz, trim_zero]
    · simp only [beq_eq_false_iff_ne] at hz
      rw [← h2, et, trim_last hz]
  · refine fin ?_
    have e : i.toNat = 0 := by omega
    rw [← h2, e]; rfl

theorem fits_spec {h : Heap} {s : Sl} (hl : s.n ≤ 64) : Spec TP 131 #[.slice s.p s.n s.c] h fun v h' => v = .bool true ∧ h' = h := by
  refine f131_ok ?_
  unfold f131_sem
  refine ⟨?_, rfl⟩
  congr 1
  simp; omega
theorem OwnN.cap {α : Type} {h : Heap} {s : Sl} {T sz : Nat} {enc : α → List Value} {l : List α} {F : Nat → Prop} (O : OwnN h s T sz enc l F) : s.n ≤ s.c := by
  rcases O with ⟨rfl, -⟩ | ⟨b, -, O⟩
  · exact Nat.le_refl _
  · exact O.cap

theorem of_spec {h : Heap} {x : Int} : Spec TP 184 #[.int .u64 x] h fun v h' => ∃ t : Sl, v = .slice t.p t.n t.c ∧ OwnN h' t 46 1 encW (trimW [x]) (FreshB h) ∧ Ext h h' := by
  refine f184_ok ?_
  unfold f184_sem
  intro b hb
  have E : Ext h (h.new b (.cells #[.int .u64 x] 46)) := Ext.new _ hb
  have B : Blk (h.new b (.cells #[.int .u64 x] 46)) b 46 (encW x) := Blk.new _ _ _ _
  refine (norm_spec (s := ⟨some (adr b), 1, 1⟩) (ws := [x]) ⟨rfl, fun i y hi => ?_⟩ (by simp) (Nat.le_refl _)).mono ?_
  · cases i with
    | zero => cases hi; exact ⟨_, rfl, B.all⟩
    | succ i => simp at hi
  · rintro v g ⟨t, rfl, O, E'⟩
    exact ⟨t, rfl, t, rfl, O.mono fun c hc => E.fresh hc, E.trans E'⟩

theorem both_spec {h : Heap} {s t : Sl} {ws vs : List Int} (S : SlR h s 1 encW ws) (hws : ws.length ≤ 64) (hs : s.n ≤ s.c) (T : SlR h t 1 encW vs) (hvs : vs.length ≤ 64) (ht : t.n ≤ t.c) :
    Spec TP 269 #[.slice s.p s.n s.c, .slice t.p t.n t.c] h fun v h' => ∃ (p q : Sl) (h1 : Heap), v = .tuple #[.slice p.p p.n p.c, .slice q.p q.n q.c, .bool true] ∧ OwnN h1 p 46 1 encW (trimW ws) (FreshB h) ∧ Ext h h1 ∧ OwnN h' q 46 1 encW (trimW vs) (FreshB h1) ∧ Ext h1 h' := by
  refine f269_ok ?_
  unfold f269_sem
  refine (norm_spec S (by omega) hs).mono ?_
  rintro v h1 ⟨p, rfl, O1, E1⟩
  refine ⟨p, rfl, (norm_spec (T.ext E1) (by omega) ht).mono ?_⟩
  rintro v h2 ⟨q, rfl, O2, E2⟩
  have e1 := O1.toR.len
  have e2 := O2.toR.len
  have l1 := trim_len ws
  have l2 := trim_len vs
  refine ⟨q, rfl, (fits_spec (by omega)).ret ⟨_, rfl, pif_t rfl ((fits_spec (by omega)).ret ⟨_, rfl, p, q, h1, rfl, O1, E1, O2, E2⟩)⟩⟩

theorem told_spec {h : Heap} {s : Sl} {ws : List Int} (S : SlR h s 1 encW ws) (hl : ws.length < 1000000000) (hs : s.n ≤ s.c) (hf : (trimW ws).length ≤ 64) :
    Spec TP 272 #[.slice s.p s.n s.c] h fun v h' => ∃ t : Sl, v = .tuple #[.slice t.p t.n t.c, .bool true] ∧ OwnN h' t 46 1 encW (trimW ws) (FreshB h) ∧ Ext h h' := by
  refine f272_ok ?_
  unfold f272_sem
  refine (norm_spec S hl hs).mono ?_
  rintro v h1 ⟨p, rfl, O1, E1⟩
  have e1 := O1.toR.len
  exact ⟨p, rfl, (fits_spec (by omega)).ret ⟨_, rfl, pif_f rfl ⟨p, rfl, O1, E1⟩⟩⟩
theorem OwnN.natR {h : Heap} {s : Sl} {ws : List Int} {F : Nat → Prop} (O : OwnN h s 46 1 encW (trimW ws) F) (hw : WOK ws) : NatR h s (valW ws) :=
  ⟨O.cap, _, O.toR, trim_norm ws, trim_ok hw, trim_val ws⟩
theorem natOf_spec {h : Heap} {x : Int} (h0 : 0 ≤ x) (h1 : x < 18446744073709551616) : Spec TP 184 #[.int .u64 x] h fun v h' => ∃ t : Sl, v = .slice t.p t.n t.c ∧ NatR h' t x.toNat ∧ Ext h h' := by
  refine of_spec.mono ?_
  rintro v h' ⟨t, rfl, O, E⟩
  have := O.natR (fun w hw => by simp only [List.mem_singleton] at hw; subst hw; exact ⟨h0, h1⟩)
  simp only [valW, Nat.mul_zero, Nat.add_zero] at this
  exact ⟨t, rfl, this, E⟩

/-! ### the carries -/
theorem add64_run {x y c : Int} (hx : 0 ≤ x) (hy : 0 ≤ y) (hc0 : 0 ≤ c) (hc : c ≤ 1) : ExtRun TP 271 #[.int .u64 x, .int .u64 y, .int .u64 c] (.tuple #[.int .u64 ((x + y + c) % 18446744073709551616), .int .u64 ((x + y + c) / 18446744073709551616)]) :=
  ⟨fun w => by
    rw [run_callFunc_extern Tryz.func271 (by kernel_rfl) (by kernel_rfl) (by kernel_rfl) (show Extern.find Tryz.f271 = some add64Entry by kernel_rfl), run_add64 x y c hx hy hc0 hc]
    rfl⟩
def sub64Entry : Array Value → Sem Value := fun args => do
  let (x, y, b) ← Extern.MathBitsCarry.three "Sub64" args
  pure (Extern.MathBitsCarry.pair ((x + Extern.MathBitsCarry.m64 - y - b) % Extern.MathBitsCarry.m64) (if x < y + b then 1 else 0))
theorem run_sub64 {P : Program} (x y c : Int) (hx : 0 ≤ x) (hy : 0 ≤ y) (hy1 : y < 18446744073709551616) (hc0 : 0 ≤ c) (hc : c ≤ 1) (w : World) :
    (sub64Entry #[.int .u64 x, .int .u64 y, .int .u64 c]).run P w = .ok (.tuple #[.int .u64 ((x - y - c) % 18446744073709551616), .int .u64 (if x < y + c then 1 else 0)]) w := by
  have key : ∀ k : Nat, k ≤ 1 → (sub64Entry #[.int .u64 x, .int .u64 y, .int .u64 (k : Int)]).run P w =
      .ok (Extern.MathBitsCarry.pair ((x.toNat + Extern.MathBitsCarry.m64 - y.toNat - k) % Extern.MathBitsCarry.m64) (if x.toNat < y.toNat + k then 1 else 0)) w := by
    intro k hk
    have : k = 0 ∨ k = 1 := by omega
    rcases this with rfl | rfl <;> rfl
  obtain ⟨k, rfl⟩ := Int.eq_ofNat_of_zero_le hc0
  rw [key k (by omega)]
  obtain ⟨X, rfl⟩ := Int.eq_ofNat_of_zero_le hx
  obtain ⟨Y, rfl⟩ := Int.eq_ofNat_of_zero_le hy
  simp only [Extern.MathBitsCarry.pair, Extern.MathBitsCarry.m64, Int.toNat_natCast]
  congr 4
  · simp; omega
  · congr 2
    by_cases h : X < Y + k
    · rw [if_pos h, if_pos (by omega)]; rfl
    · rw [if_neg h, if_neg (by omega)]; rfl
theorem sub64_run {x y c : Int} (hx : 0 ≤ x) (hy : 0 ≤ y) (hy1 : y < 18446744073709551616) (hc0 : 0 ≤ c) (hc : c ≤ 1) : ExtRun TP 285 #[.int .u64 x, .int .u64 y, .int .u64 c] (.tuple #[.int .u64 ((x - y - c) % 18446744073709551616), .int .u64 (if x < y + c then 1 else 0)]) :=
  ⟨fun w => by
    rw [run_callFunc_extern Tryz.func285 (by kernel_rfl) (by kernel_rfl) (by kernel_rfl) (show Extern.find Tryz.f285 = some sub64Entry by kernel_rfl), run_sub64 x y c hx hy hy1 hc0 hc]
    rfl⟩

def addTail (p q : Sl) (h : Heap) (R : Value → Heap → Prop) : Prop :=
  MkS (wrap .i64 (((p.n : Nat) : Int) + 1)) (wrap .i64 (((p.n : Nat) : Int) + 1)) 8 ∧ ∀ b31, h b31 = none → LoopS (fun (st0 : Int × Int × Unit) (h_0 : Heap) C0 => pif (decide (st0.2.1 < ((p.n : Nat) : Int))) (psome p.p fun a37 => 0 ≤ st0.2.1 ∧ st0.2.1 < ((p.n : Nat) : Int) ∧ ∃ v38 : Int, Has h_0 (a37.add (Int.toNat st0.2.1 * 1)) [.int .u64 v38] ∧ pif (decide (st0.2.1 < ((q.n : Nat) : Int))) (psome q.p fun a45 => 0 ≤ st0.2.1 ∧ st0.2.1 < ((q.n : Nat) : Int) ∧ ∃ v46 : Int, Has h_0 (a45.add (Int.toNat st0.2.1 * 1)) [.int .u64 v46] ∧ ∃ x53a : Int, ∃ x53b : Int, ExtRun TP 271 #[.int .u64 v38, .int .u64 v46, .int .u64 st0.1] (.tuple #[.int .u64 x53a, .int .u64 x53b]) ∧ 0 ≤ st0.2.1 ∧ st0.2.1 < ((Int.toNat (wrap .i64 (((p.n : Nat) : Int) + 1)) : Nat) : Int) ∧ CanPut h_0 ((adr b31).add (Int.toNat st0.2.1 * 1)) 1 ∧ C0 (x53b, wrap .i64 (st0.2.1 + 1), ()) (Heap.put h_0 ((adr b31).add (Int.toNat st0.2.1 * 1)) [.int .u64 x53a])) (∃ x53a : Int, ∃ x53b : Int, ExtRun TP 271 #[.int .u64 v38, .int .u64 0, .int .u64 st0.1] (.tuple #[.int .u64 x53a, .int .u64 x53b]) ∧ 0 ≤ st0.2.1 ∧ st0.2.1 < ((Int.toNat (wrap .i64 (((p.n : Nat) : Int) + 1)) : Nat) : Int) ∧ CanPut h_0 ((adr b31).add (Int.toNat st0.2.1 * 1)) 1 ∧ C0 (x53b, wrap .i64 (st0.2.1 + 1), ()) (Heap.put h_0 ((adr b31).add (Int.toNat st0.2.1 * 1)) [.int .u64 x53a]))) (0 ≤ ((p.n : Nat) : Int) ∧ ((p.n : Nat) : Int) < ((Int.toNat (wrap .i64 (((p.n : Nat) : Int) + 1)) : Nat) : Int) ∧ CanPut h_0 ((adr b31).add (Int.toNat ((p.n : Nat) : Int) * 1)) 1 ∧ Spec TP 272 #[.slice (some (adr b31)) (Int.toNat (wrap .i64 (((p.n : Nat) : Int) + 1))) (Int.toNat (wrap .i64 (((p.n : Nat) : Int) + 1)))] (Heap.put h_0 ((adr b31).add (Int.toNat ((p.n : Nat) : Int) * 1)) [.int .u64 st0.1]) fun r64 h64 => ∃ x64a : Sl, ∃ x64b : Bool, r64 = .tuple #[.slice x64a.p x64a.n x64a.c, .bool x64b] ∧ R (.tuple #[.slice x64a.p x64a.n x64a.c, .bool x64b]) h64)) (0, 0, ()) (Heap.new h b31 (.cells ((zrow [.int .u64 0] (Int.toNat (wrap .i64 (((p.n : Nat) : Int) + 1)) * 1)).toArray) 46))
theorem Own.len {α : Type} {h : Heap} {s : Sl} {T sz : Nat} {enc : α → List Value} {l : List α} {b : Nat} (O : Own h s T sz enc l b) : s.n = l.length := O.n
theorem wok_set {ws : List Int} {i : Nat} {w : Int} (h : WOK ws) (hw : 0 ≤ w ∧ w < 18446744073709551616) : WOK (ws.set i w) := fun x hx => by
  rcases List.mem_or_eq_of_mem_set hx with h1 | h1
  · exact h x h1
  · rw [h1]; exact hw
theorem take_set_le {ws : List Int} {i k : Nat} {w : Int} (h : i ≤ k) : (ws.set k w).take i = ws.take i := by
  rw [List.take_set_of_le h]
theorem val_take_set {ws : List Int} {i : Nat} {w : Int} (h : i < ws.length) : valW ((ws.set i w).take (i + 1)) = valW (ws.take i) + 18446744073709551616 ^ i * w.toNat := by
  rw [val_take (w := w) (by rw [List.getElem?_set_self h]), take_set_le (Nat.le_refl _)]

theorem addTail_ok {h : Heap} {p q : Sl} {ws vs : List Int} (S : SlR h p 1 encW ws) (T : SlR h q 1 encW vs) (hw : WOK ws) (hv : WOK vs) (hl : vs.length ≤ ws.length) (hl2 : ws.length ≤ 64) {R : Value → Heap → Prop}
    (hx : valW ws + valW vs < 18446744073709551616 ^ 64) (H : ∀ (t : Sl) (g : Heap), NatR g t (valW ws + valW vs) → Ext h g → R (.tuple #[.slice t.p t.n t.c, .bool true]) g) : addTail p q h R := by
  have hp := S.len
  have hq := T.len
  unfold addTail
  rw [w64 (x := ((p.n : Nat) : Int) + 1) (by omega)]
  have em : (((p.n : Nat) : Int) + 1).toNat = p.n + 1 := by omega
  rw [em]
  refine ⟨⟨by omega, by omega, by omega, by decide⟩, fun b hb => ?_⟩
  have O0 : Own (h.new b (.cells (zrow [.int .u64 0] ((p.n + 1) * 1)).toArray 46 (0, 0))) ⟨some (adr b), p.n + 1, p.n + 1⟩ 46 1 encW (List.replicate (p.n + 1) 0) b := Own.make h b 46 (enc := encW) 0 rfl (fun _ => rfl) (by decide)
  have E0 : Ext h (h.new b (.cells (zrow [.int .u64 0] ((p.n + 1) * 1)).toArray 46 (0, 0))) := Ext.new _ hb
  refine .by (fun st g => 0 ≤ st.1 ∧ st.1 ≤ 1 ∧ 0 ≤ st.2.1 ∧ st.2.1 ≤ ws.length ∧ Ext h g ∧ ∃ out, Own g ⟨some (adr b), p.n + 1, p.n + 1⟩ 46 1 encW out b ∧ WOK out ∧ valW (out.take st.2.1.toNat) + 18446744073709551616 ^ st.2.1.toNat * st.1.toNat = valW (ws.take st.2.1.toNat) + valW (vs.take st.2.1.toNat)) (fun st _ => (ws.length - st.2.1).toNat) ?_ ?_
  · exact ⟨by simp, by simp, by simp, by simp, E0, _, O0, fun w hw => by rw [List.mem_replicate] at hw; omega, rfl⟩
  rintro ⟨c, i, _⟩ g ⟨hc0, hc1, hi0, hi1, E, out, O, ho, he⟩
  dsimp only at hc0 hc1 hi0 hi1 he ⊢
  have hol := O.len
  dsimp only at hol
  refine pif_dec (fun hc => ?_) fun hc => ?_
  · have hil : i.toNat < ws.length := by omega
    have hg := List.getElem?_eq_getElem hil
    have hwb := hw _ (List.getElem_mem hil)
    refine (S.ext E).read hi0 hg fun a ha => ⟨_, ha, ?_⟩
    rw [w64 (x := i + 1) (by omega)]
    have step : ∀ y : Int, 0 ≤ y → y < 18446744073709551616 → valW (vs.take (i.toNat + 1)) = valW (vs.take i.toNat) + 18446744073709551616 ^ i.toNat * y.toNat → ∃ x53a : Int, ∃ x53b : Int, ExtRun TP 271 #[.int .u64 ws[i.toNat], .int .u64 y, .int .u64 c] (.tuple #[.int .u64 x53a, .int .u64 x53b]) ∧ 0 ≤ i ∧ i < ((p.n + 1 : Nat) : Int) ∧ CanPut g ((adr b).add (Int.toNat i * 1)) 1 ∧
        ((0 ≤ x53b ∧ x53b ≤ 1 ∧ 0 ≤ i + 1 ∧ i + 1 ≤ ws.length ∧ Ext h (Heap.put g ((adr b).add (Int.toNat i * 1)) [.int .u64 x53a]) ∧ ∃ out, Own (Heap.put g ((adr b).add (Int.toNat i * 1)) [.int .u64 x53a]) ⟨some (adr b), p.n + 1, p.n + 1⟩ 46 1 encW out b ∧ WOK out ∧ valW (out.take (i + 1).toNat) + 18446744073709551616 ^ (i + 1).toNat * x53b.toNat = valW (ws.take (i + 1).toNat) + valW (vs.take (i + 1).toNat)) ∧ (ws.length - (i + 1)).toNat < (ws.length - i).toNat) := by
      intro y hy0 hy1 hy2
      refine ⟨_, _, add64_run hwb.1 hy0 hc0 hc1, hi0, by omega, O.canPut (by omega), ⟨by omega, by omega, by omega, by omega, (setChg _ _ _ _).extR E fun c hc => by rw [hc]; exact hb, _, O.put (i := i.toNat) (by omega) ((ws[i.toNat] + y + c) % 18446744073709551616), wok_set ho (by omega), ?_⟩, by omega⟩
      have e1 : (i + 1).toNat = i.toNat + 1 := by omega
      rw [e1, val_take_set (by omega), hy2, val_take hg, Nat.pow_succ]
      have h1 : (18446744073709551616 : Nat) * ((ws[i.toNat] + y + c) / 18446744073709551616).toNat + ((ws[i.toNat] + y + c) % 18446744073709551616).toNat = ws[i.toNat].toNat + y.toNat + c.toNat := by omega
      generalize ((ws[i.toNat] + y + c) / 18446744073709551616).toNat = u at h1 ⊢
      generalize ((ws[i.toNat] + y + c) % 18446744073709551616).toNat = v at h1 ⊢
      generalize (18446744073709551616 : Nat) ^ i.toNat = B at he ⊢
      have h2 := congrArg (B * ·) h1
      simp only [Nat.mul_add] at h2
      rw [Nat.mul_assoc]
      omega
    refine pif_dec (fun h2 => ?_) fun h2 => ?_
    · have hiv : i.toNat < vs.length := by omega
      have hg2 := List.getElem?_eq_getElem hiv
      have hvb := hv _ (List.getElem_mem hiv)
      exact (T.ext E).read hi0 hg2 fun a ha => ⟨_, ha, step _ hvb.1 hvb.2 (val_take hg2)⟩
    · exact step 0 (by omega) (by omega) (by rw [List.take_of_length_le (by omega), List.take_of_length_le (by omega)]; rfl)
  · have ei : i = ws.length := by omega
    have en : i.toNat = ws.length := by omega
    rw [en, List.take_length, List.take_of_length_le (l := vs) hl] at he
    have O1 := O.put (i := p.n) (by omega) c
    have e2 : (((p.n : Nat) : Int)).toNat = p.n := by omega
    rw [e2]
    refine ⟨by omega, by omega, O.canPut (by omega), ?_⟩
    have ho' : WOK (out.set p.n c) := wok_set ho (by omega)
    have hval : valW (out.set p.n c) = valW ws + valW vs := by
      have e3 : out.set p.n c = (out.set p.n c).take (p.n + 1) := by rw [List.take_of_length_le (by simp; omega)]
      rw [e3, val_take_set (by omega), hp]
      exact he
    have E1 : Ext h (g.put ((adr b).add (p.n * 1)) [.int .u64 c]) := (setChg _ _ _ _).extR E fun c hc => by rw [hc]; exact hb
    refine (told_spec (s := ⟨some (adr b), p.n + 1, p.n + 1⟩) O1.toR (by simp; omega) (Nat.le_refl _) (len_le (trim_norm _) (trim_ok ho') 64 (by rw [trim_val, hval]; exact hx))).mono ?_
    rintro v g' ⟨t, rfl, O2, E2⟩
    have N := O2.natR ho'
    rw [hval] at N
    exact ⟨t, true, rfl, H t g' N (E1.trans E2)⟩

theorem add_spec {h : Heap} {s t : Sl} {x y : Nat} (S : NatR h s x) (T : NatR h t y) (hxy : x + y < 18446744073709551616 ^ 64) :
    Spec TP 268 #[.slice s.p s.n s.c, .slice t.p t.n t.c] h fun v h' => ∃ u : Sl, v = .tuple #[.slice u.p u.n u.c, .bool true] ∧ NatR h' u (x + y) ∧ Ext h h' := by
  obtain ⟨hs, ws, S, nw, ow, rfl⟩ := S
  obtain ⟨ht, vs, T, nv, ov, rfl⟩ := T
  have lw := len_le nw ow 64 (by omega)
  have lv := len_le nv ov 64 (by omega)
  refine f268_ok ?_
  unfold f268_sem
  refine (both_spec S lw hs T lv ht).mono ?_
  rintro v h2 ⟨p, q, h1, rfl, O1, E1, O2, E2⟩
  rw [nw] at O1
  rw [nv] at O2
  have S1 := O1.toR.ext E2
  have T1 := O2.toR
  have e1 := S1.len
  have e2 := T1.len
  refine ⟨p, q, true, rfl, pif_f rfl (pif_dec (fun hc => ?_) fun hc => ?_)⟩
  · exact addTail_ok (R := fun v h' => ∃ u : Sl, v = .tuple #[.slice u.p u.n u.c, .bool true] ∧ NatR h' u (valW ws + valW vs) ∧ Ext h h') T1 S1 ov ow (by omega) lv (by omega) fun u g N E => ⟨u, rfl, by rw [Nat.add_comm]; exact N, (E1.trans E2).trans E⟩
  · exact addTail_ok (R := fun v h' => ∃ u : Sl, v = .tuple #[.slice u.p u.n u.c, .bool true] ∧ NatR h' u (valW ws + valW vs) ∧ Ext h h') S1 T1 ow ov (by omega) lw (by omega) fun u g N E => ⟨u, rfl, N, (E1.trans E2).trans E⟩

/-! ### less, the difference -/
theorem val_drop (ws : List Int) (i : Nat) (h : i ≤ ws.length) : valW ws = valW (ws.take i) + 18446744073709551616 ^ i * valW (ws.drop i) := by
  have := val_append (ws.take i) (ws.drop i)
  rw [List.take_append_drop, List.length_take, Nat.min_eq_left h] at this
  exact this
theorem val_ge : ∀ {ws : List Int}, NormW ws → WOK ws → ws ≠ [] → 18446744073709551616 ^ (ws.length - 1) ≤ valW ws
  | [], _, _, h => absurd rfl h
  | [w], hn, ho, _ => by
    have := val_pos hn ho (by simp)
    simp only [List.length_cons, List.length_nil, Nat.zero_add, Nat.sub_self, Nat.pow_zero]; omega
  | w :: x :: r, hn, ho, _ => by
    have h1 := val_ge (norm_cons hn).1 (fun z hz => ho z (by simp at hz ⊢; right; exact hz)) (by simp)
    have e : (w :: x :: r).length - 1 = ((x :: r).length - 1) + 1 := by simp
    rw [e, Nat.pow_succ, valW]
    generalize 18446744073709551616 ^ ((x :: r).length - 1) = q at h1 ⊢
    omega
theorem take_lt {ws : List Int} (h : WOK ws) {i : Nat} (hi : i ≤ ws.length) : valW (ws.take i) < 18446744073709551616 ^ i := by
  have := val_lt (ws := ws.take i) fun w hw => h w (List.mem_of_mem_take hw)
  rwa [List.length_take, Nat.min_eq_left hi] at this
theorem val_less {ws vs : List Int} (hw : WOK ws) (hv : WOK vs) {i : Nat} (hi : i < ws.length) (hj : i < vs.length) (hlt : ws[i] < vs[i]) (hd : ws.drop (i + 1) = vs.drop (i + 1)) : valW ws < valW vs := by
  rw [val_drop ws (i + 1) (by omega), val_drop vs (i + 1) (by omega), hd, val_take (List.getElem?_eq_getElem hi), val_take (List.getElem?_eq_getElem hj)]
  have h1 := take_lt hw (i := i) (by omega)
  have h2 := hw _ (List.getElem_mem hi)
  have h3 := hv _ (List.getElem_mem hj)
  generalize 18446744073709551616 ^ (i + 1) * valW (vs.drop (i + 1)) = q
  have h4 : 18446744073709551616 ^ i * (ws[i].toNat + 1) ≤ 18446744073709551616 ^ i * vs[i].toNat := Nat.mul_le_mul_left _ (by omega)
  rw [Nat.mul_add] at h4
  generalize 18446744073709551616 ^ i = B at *
  omega

theorem cmp_spec {h : Heap} {s t : Sl} {x y : Nat} (S : NatR h s x) (T : NatR h t y) (hx : x < 18446744073709551616 ^ 64) (hy : y < 18446744073709551616 ^ 64) :
    Spec TP 284 #[.slice s.p s.n s.c, .slice t.p t.n t.c] h fun v h' => (∃ r : Int, v = .int .i64 r ∧ (r < 0 → x < y)) ∧ h' = h := by
  obtain ⟨hs, ws, S, nw, ow, rfl⟩ := S
  obtain ⟨ht, vs, T, nv, ov, rfl⟩ := T
  have lw := len_le nw ow 64 hx
  have lv := len_le nv ov 64 hy
  refine Spec.pure (f284_ok ?_)
  unfold f284_sem
  refine (norm_spec S (by omega) hs).mono ?_
  rintro v h1 ⟨p, rfl, O1, E1⟩
  refine ⟨p, rfl, (norm_spec (T.ext E1) (by omega) ht).mono ?_⟩
  rintro v h2 ⟨q, rfl, O2, E2⟩
  rw [nw] at O1
  rw [nv] at O2
  have S1 := O1.toR.ext E2
  have T1 := O2.toR
  have e1 := S1.len
  have e2 := T1.len
  have E := E1.trans E2
  refine ⟨q, rfl, pif_split (fun hc => ?_) fun hc => ?_⟩
  · simp only [bne_iff_ne, ne_eq] at hc
    refine pif_dec (fun h3 => ⟨⟨_, rfl, fun _ => ?_⟩, E⟩) fun h3 => ⟨⟨_, rfl, fun h => by omega⟩, E⟩
    have h4 : valW ws < 18446744073709551616 ^ ws.length := val_lt ow
    have h5 := val_ge nv ov (by rintro rfl; simp at e2; omega)
    have h6 : 18446744073709551616 ^ ws.length ≤ 18446744073709551616 ^ (vs.length - 1) := Nat.pow_le_pow_right (by decide) (by omega)
    omega
  · simp only [bne_eq_false_iff_eq] at hc
    rw [w64 (x := ((p.n : Nat) : Int) - 1) (by omega)]
    refine .by (fun st g => g = h2 ∧ -1 ≤ st.1 ∧ st.1 < p.n ∧ ws.drop (st.1 + 1).toNat = vs.drop (st.1 + 1).toNat) (fun st _ => (st.1 + 1).toNat) ⟨rfl, by dsimp only; omega, by dsimp only; omega, ?_⟩ ?_
    · have e3 : ((p.n : Int) - 1 + 1).toNat = ws.length := by omega
      dsimp only
      rw [e3, List.drop_length, List.drop_eq_nil_of_le (by omega)]
    rintro ⟨i, _⟩ g ⟨rfl, hi0, hi1, hd⟩
    dsimp only at hi0 hi1 hd ⊢
    refine pif_dec (fun hc2 => ?_) fun hc2 => ⟨⟨_, rfl, fun h => by omega⟩, E⟩
    have hiw : i.toNat < ws.length := by omega
    have hiv : i.toNat < vs.length := by omega
    have gw := List.getElem?_eq_getElem hiw
    have gv := List.getElem?_eq_getElem hiv
    have e3 : (i + 1).toNat = i.toNat + 1 := by omega
    rw [e3] at hd
    refine S1.read (by omega) gw fun a ha => ⟨_, ha, T1.read (by omega) gv fun a' ha' => ⟨_, ha', pif_dec (fun h3 => ⟨⟨_, rfl, fun _ => val_less ow ov hiw hiv h3 hd⟩, E⟩) fun h3 => ?_⟩⟩
    refine S1.read (by omega) gw fun a ha => ⟨_, ha, T1.read (by omega) gv fun a' ha' => ⟨_, ha', pif_dec (fun h4 => ⟨⟨_, rfl, fun h => by omega⟩, E⟩) fun h4 => ?_⟩⟩
    rw [w64 (x := i - 1) (by omega)]
    refine ⟨⟨rfl, by omega, by omega, ?_⟩, by omega⟩
    have e4 : (i - 1 + 1).toNat = i.toNat := by omega
    rw [e4, List.drop_eq_getElem_cons hiw, List.drop_eq_getElem_cons hiv, hd]
    congr 1
    omega

theorem sub_spec {h : Heap} {s t : Sl} {x y : Nat} (S : NatR h s x) (T : NatR h t y) (hx : x < 18446744073709551616 ^ 64) (hyx : y ≤ x) :
    Spec TP 267 #[.slice s.p s.n s.c, .slice t.p t.n t.c] h fun v h' => ∃ u : Sl, v = .tuple #[.slice u.p u.n u.c, .bool true] ∧ NatR h' u (x - y) ∧ Ext h h' := by
  obtain ⟨hs, ws, S, nw, ow, rfl⟩ := S
  obtain ⟨ht, vs, T, nv, ov, rfl⟩ := T
  have lw := len_le nw ow 64 hx
  have lv := len_le nv ov 64 (by omega)
  refine f267_ok ?_
  unfold f267_sem
  refine (both_spec S lw hs T lv ht).mono ?_
  rintro v h2 ⟨p, q, h1, rfl, O1, E1, O2, E2⟩
  rw [nw] at O1
  rw [nv] at O2
  have P2 := O1.ext E2
  have e1 := P2.toR.len
  have e2 := O2.toR.len
  have hpc := O1.cap
  have N1 : NatR h2 p (valW ws) := ⟨O1.cap, ws, P2.toR, nw, ow, rfl⟩
  have N2 : NatR h2 q (valW vs) := ⟨O2.cap, vs, O2.toR, nv, ov, rfl⟩
  refine ⟨p, q, true, rfl, pif_f rfl ((cmp_spec N1 N2 hx (by omega)).mono ?_)⟩
  rintro v h2 ⟨⟨r, rfl, hr⟩, rfl⟩
  refine ⟨r, rfl, pif_dec (fun h => by have := hr h; omega) fun _ => ?_⟩
  have hlen : vs.length ≤ ws.length := by
    by_cases hv : vs = []
    · simp [hv]
    · rcases Nat.lt_or_ge ws.length vs.length with h | h
      · have h4 : valW ws < 18446744073709551616 ^ ws.length := val_lt ow
        have h5 := val_ge nv ov hv
        have h6 : 18446744073709551616 ^ ws.length ≤ 18446744073709551616 ^ (vs.length - 1) := Nat.pow_le_pow_right (by decide) (by omega)
        omega
      · exact h
  have fin : ∀ (g : Heap) (out : List Int) (F : Nat → Prop), OwnN g p 46 1 encW out F → WOK out → valW out = valW ws - valW vs → Ext h g → Spec TP 272 #[.slice p.p p.n p.c] g fun r53 h53 => ∃ x53a : Sl, ∃ x53b : Bool, r53 = .tuple #[.slice x53a.p x53a.n x53a.c, .bool x53b] ∧ ∃ u : Sl, Value.tuple #[.slice x53a.p x53a.n x53a.c, .bool x53b] = .tuple #[.slice u.p u.n u.c, .bool true] ∧ NatR h53 u (valW ws - valW vs) ∧ Ext h h53 := by
    intro g out F O ho hv E
    have hol := O.toR.len
    refine (told_spec O.toR (by omega) hpc (len_le (trim_norm _) (trim_ok ho) 64 (by rw [trim_val, hv]; omega))).mono ?_
    rintro v g' ⟨t, rfl, O', E'⟩
    have N := O'.natR ho
    rw [hv] at N
    exact ⟨t, true, rfl, t, rfl, N, E.trans E'⟩
  rcases P2 with ⟨rfl, hnil⟩ | ⟨b, hb, O⟩
  · subst hnil
    have hvn : vs = [] := List.length_eq_zero_iff.1 (by simpa using hlen)
    subst hvn
    refine .by (fun st g => g = h2 ∧ st.2.1 = 0) (fun _ _ => 0) ⟨rfl, rfl⟩ ?_
    rintro ⟨c, i, _⟩ g ⟨rfl, hi⟩
    dsimp only at hi ⊢
    subst hi
    exact pif_f (by simp) (fin g [] (fun _ => True) (.inl ⟨rfl, rfl⟩) ow rfl (E1.trans E2))
  · have hbq : ∀ a, q.p = some a → ¬ a.block = b := fun a ha he => by
      have h3 := O2.p_F ha
      rw [he] at h3
      rcases O1 with ⟨hp, -⟩ | ⟨b', hb', O1⟩
      · rw [hp] at O; have := O.p; cases this
      · have h4 := O.p.symm.trans O1.p
        cases h4
        exact O1.live h3.1
    refine .by (fun st g => 0 ≤ st.1 ∧ st.1 ≤ 1 ∧ 0 ≤ st.2.1 ∧ st.2.1 ≤ ws.length ∧ Chg h2 g (fun c => c = b) ∧ ∃ out, Own g p 46 1 encW out b ∧ WOK out ∧ out.drop st.2.1.toNat = ws.drop st.2.1.toNat ∧ valW (out.take st.2.1.toNat) + valW (vs.take st.2.1.toNat) = valW (ws.take st.2.1.toNat) + 18446744073709551616 ^ st.2.1.toNat * st.1.toNat) (fun st _ => (ws.length - st.2.1).toNat) ?_ ?_
    · exact ⟨by simp, by simp, by simp, by simp, Chg.refl _ _, ws, O, ow, rfl, rfl⟩
    rintro ⟨c, i, _⟩ g ⟨hc0, hc1, hi0, hi1, C, out, O, ho, hd, he⟩
    dsimp only at hc0 hc1 hi0 hi1 hd he ⊢
    have hol := O.len
    have T1 := O2.toR.chg C hbq
    refine pif_dec (fun hc => ?_) fun hc => ?_
    · have hil : i.toNat < ws.length := by omega
      have hio : i.toNat < out.length := by omega
      have hgo := List.getElem?_eq_getElem hio
      have hgw := List.getElem?_eq_getElem hil
      have heq : out[i.toNat] = ws[i.toNat] := by
        rw [List.drop_eq_getElem_cons hio, List.drop_eq_getElem_cons hil, List.cons.injEq] at hd
        exact hd.1
      have hwb := ow _ (List.getElem_mem hil)
      have e3 : (i + 1).toNat = i.toNat + 1 := by omega
      rw [w64 (x := i + 1) (by omega)]
      have step : ∀ z : Int, 0 ≤ z → z < 18446744073709551616 → valW (vs.take (i.toNat + 1)) = valW (vs.take i.toNat) + 18446744073709551616 ^ i.toNat * z.toNat → psome p.p fun a43 => 0 ≤ i ∧ i < ((p.n : Nat) : Int) ∧ ∃ v44 : Int, Has g (a43.add (Int.toNat i * 1)) [.int .u64 v44] ∧ ∃ x47a : Int, ∃ x47b : Int, ExtRun TP 285 #[.int .u64 v44, .int .u64 z, .int .u64 c] (.tuple #[.int .u64 x47a, .int .u64 x47b]) ∧ psome p.p fun a50 => 0 ≤ i ∧ i < ((p.n : Nat) : Int) ∧ CanPut g (a50.add (Int.toNat i * 1)) 1 ∧
          ((0 ≤ x47b ∧ x47b ≤ 1 ∧ 0 ≤ i + 1 ∧ i + 1 ≤ ws.length ∧ Chg h2 (g.put (a50.add (Int.toNat i * 1)) [.int .u64 x47a]) (fun c => c = b) ∧ ∃ out, Own (g.put (a50.add (Int.toNat i * 1)) [.int .u64 x47a]) p 46 1 encW out b ∧ WOK out ∧ out.drop (i + 1).toNat = ws.drop (i + 1).toNat ∧ valW (out.take (i + 1).toNat) + valW (vs.take (i + 1).toNat) = valW (ws.take (i + 1).toNat) + 18446744073709551616 ^ (i + 1).toNat * x47b.toNat) ∧ (ws.length - (i + 1)).toNat < (ws.length - i).toNat) := by
        intro z hz0 hz1 hz2
        refine O.toR.read hi0 hgo fun a ha => ⟨_, ha, _, _, sub64_run (x := out[i.toNat]) (by omega) hz0 hz1 hc0 hc1, ?_⟩
        rw [O.p]
        refine ⟨hi0, by omega, O.canPut hio, ⟨by split <;> omega, by split <;> omega, by omega, by omega, C.trans (setChg _ _ _ _) fun _ _ hc => hc, _, O.put (i := i.toNat) hio ((out[i.toNat] - z - c) % 18446744073709551616), wok_set ho (by omega), ?_, ?_⟩, by omega⟩
        · rw [e3, List.drop_set_of_lt (by omega)]
          rw [List.drop_eq_getElem_cons hio, List.drop_eq_getElem_cons hil, List.cons.injEq] at hd
          exact hd.2
        · rw [e3, val_take_set hio, hz2, val_take hgw, heq, Nat.pow_succ]
          have h1 : ((ws[i.toNat] - z - c) % 18446744073709551616).toNat + z.toNat + c.toNat = ws[i.toNat].toNat + 18446744073709551616 * (if ws[i.toNat] < z + c then (1 : Int) else 0).toNat := by
            split <;> omega
          generalize ((ws[i.toNat] - z - c) % 18446744073709551616).toNat = u at h1 ⊢
          generalize (if ws[i.toNat] < z + c then (1 : Int) else 0).toNat = v at h1 ⊢
          generalize (18446744073709551616 : Nat) ^ i.toNat = B at he ⊢
          have h2 := congrArg (B * ·) h1
          simp only [Nat.mul_add] at h2
          rw [Nat.mul_assoc]
          omega
      refine pif_dec (fun h2 => ?_) fun h2 => ?_
      · have hiv : i.toNat < vs.length := by omega
        have hg2 := List.getElem?_eq_getElem hiv
        have hvb := ov _ (List.getElem_mem hiv)
        exact T1.read hi0 hg2 fun a ha => ⟨_, ha, step _ hvb.1 hvb.2 (val_take hg2)⟩
      · exact step 0 (by omega) (by omega) (by rw [List.take_of_length_le (by omega), List.take_of_length_le (by omega)]; rfl)
    · have en : i.toNat = ws.length := by omega
      rw [en, List.take_length, List.take_of_length_le (l := vs) hlen, List.take_of_length_le (l := out) (by omega)] at he
      have hlt := val_lt ho
      rw [← hol, e1] at hlt
      have hcz : c.toNat = 0 := by
        have : c = 0 ∨ c = 1 := by omega
        rcases this with rfl | rfl
        · rfl
        · simp only [Int.toNat_one, Nat.mul_one] at he
          omega
      rw [hcz, Nat.mul_zero] at he
      exact fin g out (fun _ => True) (.inr ⟨b, trivial, O⟩) ho (by omega) (C.extR (E1.trans E2) fun c hc => by
        rw [hc]
        exact hb)

/-! ### products -/
theorem and32 {n : Nat} (h : n < 18446744073709551616) : andI .u64 (n : Int) 4294967295 = ((n % 4294967296 : Nat) : Int) := by
  unfold andI
  have e1 : IntKind.bits .u64 = 64 := rfl
  rw [e1]
  have e2 : (BitVec.ofInt 64 (n : Int)).toNat = n := by rw [BitVec.toNat_ofInt]; omega
  have e3 : (BitVec.ofInt 64 (4294967295 : Int)).toNat = 2 ^ 32 - 1 := by rw [BitVec.toNat_ofInt]; rfl
  rw [BitVec.toNat_and, e2, e3, Nat.and_two_pow_sub_one_eq_mod, wu64 (by omega)]
theorem mul64_spec {h : Heap} {x y : Nat} (hx : x < 18446744073709551616) (hy : y < 18446744073709551616) :
    Spec TP 270 #[.int .u64 x, .int .u64 y] h fun v h' => v = .tuple #[.int .u64 ((x * y / 18446744073709551616 : Nat) : Int), .int .u64 ((x * y % 18446744073709551616 : Nat) : Int)] ∧ h' = h := by
  refine f270_ok ?_
  unfold f270_sem
  have s32 : ∀ m : Nat, shrI .u64 (m : Int) 32 = ((m / 4294967296 : Nat) : Int) := fun m => by
    have := shr_nat (n := m) (k := 32) (by decide)
    simpa using this
  refine ⟨by decide, by decide, by decide, by decide, by decide, ?_, rfl⟩
  rw [and32 hx, and32 hy, s32 x, s32 y]
  have hx1 : x / 4294967296 ≤ 4294967295 := by omega
  have hy1 : y / 4294967296 ≤ 4294967295 := by omega
  have hx0 : x % 4294967296 ≤ 4294967295 := by omega
  have hy0 : y % 4294967296 ≤ 4294967295 := by omega
  have hxy : x * y = (x / 4294967296) * (y / 4294967296) * 18446744073709551616 + (x / 4294967296) * (y % 4294967296) * 4294967296 + (x % 4294967296) * (y / 4294967296) * 4294967296 + (x % 4294967296) * (y % 4294967296) := by
    have ex : x = (x / 4294967296) * 4294967296 + x % 4294967296 := by omega
    have ey : y = (y / 4294967296) * 4294967296 + y % 4294967296 := by omega
    generalize x / 4294967296 = a at *
    generalize x % 4294967296 = b at *
    generalize y / 4294967296 = c at *
    generalize y % 4294967296 = d at *
    rw [ex, ey, Nat.add_mul, Nat.mul_add, Nat.mul_add]
    have e1 : a * 4294967296 * (c * 4294967296) = a * c * 18446744073709551616 := by
      rw [Nat.mul_assoc, Nat.mul_comm 4294967296, Nat.mul_assoc c, ← Nat.mul_assoc a]
    have e2 : a * 4294967296 * d = a * d * 4294967296 := by rw [Nat.mul_assoc, Nat.mul_comm 4294967296, Nat.mul_assoc]
    have e3 : b * (c * 4294967296) = b * c * 4294967296 := by rw [Nat.mul_assoc]
    omega
  have b11 := Nat.mul_le_mul hx1 hy1
  have b10 := Nat.mul_le_mul hx1 hy0
  have b01 := Nat.mul_le_mul hx0 hy1
  have b00 := Nat.mul_le_mul hx0 hy0
  have c11 : (((x / 4294967296 : Nat) : Int) * ((y / 4294967296 : Nat) : Int)) = (((x / 4294967296) * (y / 4294967296) : Nat) : Int) := (Int.natCast_mul _ _).symm
  have c10 : (((x / 4294967296 : Nat) : Int) * ((y % 4294967296 : Nat) : Int)) = (((x / 4294967296) * (y % 4294967296) : Nat) : Int) := (Int.natCast_mul _ _).symm
  have c01 : (((x % 4294967296 : Nat) : Int) * ((y / 4294967296 : Nat) : Int)) = (((x % 4294967296) * (y / 4294967296) : Nat) : Int) := (Int.natCast_mul _ _).symm
  have c00 : (((x % 4294967296 : Nat) : Int) * ((y % 4294967296 : Nat) : Int)) = (((x % 4294967296) * (y % 4294967296) : Nat) : Int) := (Int.natCast_mul _ _).symm
  have cxy : ((x : Int) * (y : Int)) = ((x * y : Nat) : Int) := (Int.natCast_mul _ _).symm
  rw [c11, c10, c01, c00, cxy]
  generalize x * y = p at *
  generalize (x / 4294967296) * (y / 4294967296) = p11 at *
  generalize (x / 4294967296) * (y % 4294967296) = p10 at *
  generalize (x % 4294967296) * (y / 4294967296) = p01 at *
  generalize (x % 4294967296) * (y % 4294967296) = p00 at *
  rw [wu64 (x := (p11 : Int)) (by omega), wu64 (x := (p10 : Int)) (by omega), wu64 (x := (p01 : Int)) (by omega), wu64 (x := (p00 : Int)) (by omega), s32 p00]
  rw [wu64 (x := (p10 : Int) + ((p00 / 4294967296 : Nat) : Int)) (by omega)]
  have ct : (p10 : Int) + ((p00 / 4294967296 : Nat) : Int) = ((p10 + p00 / 4294967296 : Nat) : Int) := (Int.natCast_add _ _).symm
  rw [ct, s32, and32 (by omega)]
  rw [wu64 (x := (p11 : Int) + (((p10 + p00 / 4294967296) / 4294967296 : Nat) : Int)) (by omega), wu64 (x := (((p10 + p00 / 4294967296) % 4294967296 : Nat) : Int) + (p01 : Int)) (by omega)]
  have ct2 : (((p10 + p00 / 4294967296) % 4294967296 : Nat) : Int) + (p01 : Int) = (((p10 + p00 / 4294967296) % 4294967296 + p01 : Nat) : Int) := (Int.natCast_add _ _).symm
  rw [ct2, s32, wu64m, wu64m]
  have hp : p < 18446744073709551616 * 18446744073709551616 := by omega
  congr 4
  omega
theorem val_set {ws : List Int} {k : Nat} {o : Int} (v : Int) (h : ws[k]? = some o) : valW (ws.set k v) + 18446744073709551616 ^ k * o.toNat = valW ws + 18446744073709551616 ^ k * v.toNat := by
  obtain ⟨h1, h2⟩ := List.getElem?_eq_some_iff.1 h
  have d1 := val_drop ws (k + 1) (by omega)
  have d2 := val_drop (ws.set k v) (k + 1) (by simp; omega)
  rw [val_take h] at d1
  rw [val_take_set h1, List.drop_set_of_lt (by omega)] at d2
  omega
theorem mul_spec {h : Heap} {s t : Sl} {x y : Nat} (S : NatR h s x) (T : NatR h t y) (hx : x < 18446744073709551616 ^ 64) (hy : y < 18446744073709551616 ^ 64) (hxy : x * y < 18446744073709551616 ^ 64) :
    Spec TP 232 #[.slice s.p s.n s.c, .slice t.p t.n t.c] h fun v h' => ∃ u : Sl, v = .tuple #[.slice u.p u.n u.c, .bool true] ∧ NatR h' u (x * y) ∧ Ext h h' := by
  obtain ⟨hs, ws, S, nw, ow, rfl⟩ := S
  obtain ⟨ht, vs, T, nv, ov, rfl⟩ := T
  have lw := len_le nw ow 64 hx
  have lv := len_le nv ov 64 hy
  refine f232_ok ?_
  unfold f232_sem
  refine (both_spec S lw hs T lv ht).mono ?_
  rintro v h2 ⟨p, q, h1, rfl, O1, E1, O2, E2⟩
  rw [nw] at O1
  rw [nv] at O2
  have S1 := O1.toR.ext E2
  have T1 := O2.toR
  have e1 := S1.len
  have e2 := T1.len
  have E := E1.trans E2
  refine ⟨p, q, true, rfl, pif_f rfl ?_⟩
  rw [w64 (x := ((p.n : Nat) : Int) + ((q.n : Nat) : Int)) (by omega)]
  have em : (((p.n : Nat) : Int) + ((q.n : Nat) : Int)).toNat = p.n + q.n := by omega
  rw [em]
  refine ⟨⟨by omega, by omega, by omega, by decide⟩, fun b hb => ?_⟩
  have O0 : Own (h2.new b (.cells (zrow [.int .u64 0] ((p.n + q.n) * 1)).toArray 46 (0, 0))) ⟨some (adr b), p.n + q.n, p.n + q.n⟩ 46 1 encW (List.replicate (p.n + q.n) 0) b := Own.make h2 b 46 (enc := encW) 0 rfl (fun _ => rfl) (by decide)
  have E0 : Ext h2 (h2.new b (.cells (zrow [.int .u64 0] ((p.n + q.n) * 1)).toArray 46 (0, 0))) := Ext.new _ hb
  refine .by (fun st g => 0 ≤ st.1 ∧ st.1 ≤ ws.length ∧ Ext h2 g ∧ ∃ out, Own g ⟨some (adr b), p.n + q.n, p.n + q.n⟩ 46 1 encW out b ∧ WOK out ∧ (∀ k z, st.1.toNat + vs.length ≤ k → out[k]? = some z → z = 0) ∧ valW out = valW (ws.take st.1.toNat) * valW vs) (fun st _ => (ws.length - st.1).toNat) ?_ ?_
  · refine ⟨by simp, by simp, E0, _, O0, fun w hw => by rw [List.mem_replicate] at hw; omega, fun k z _ hz => ?_, ?_⟩
    · rw [List.getElem?_replicate] at hz; split at hz <;> cases hz; rfl
    · rw [val_zeros]; simp [valW]
  rintro ⟨i, _⟩ g ⟨hi0, hi1, E2', out, O, ho, hz, he⟩
  dsimp only at hi0 hi1 hz he ⊢
  refine pif_dec (fun hc => ?_) fun hc => ?_
  · have hil : i.toNat < ws.length := by omega
    have hg := List.getElem?_eq_getElem hil
    have hwb := ow _ (List.getElem_mem hil)
    refine (S1.ext E2').read hi0 hg fun a ha => ⟨_, ha, ?_⟩
    refine .by (fun st g => 0 ≤ st.1 ∧ st.1 < 18446744073709551616 ∧ 0 ≤ st.2.1 ∧ st.2.1 ≤ vs.length ∧ Ext h2 g ∧ ∃ out, Own g ⟨some (adr b), p.n + q.n, p.n + q.n⟩ 46 1 encW out b ∧ WOK out ∧ (∀ k z, i.toNat + vs.length ≤ k → out[k]? = some z → z = 0) ∧
      valW out + 18446744073709551616 ^ (i.toNat + st.2.1.toNat) * st.1.toNat = valW (ws.take i.toNat) * valW vs + 18446744073709551616 ^ i.toNat * (ws[i.toNat].toNat * valW (vs.take st.2.1.toNat))) (fun st _ => (vs.length - st.2.1).toNat) ?_ ?_
    · exact ⟨by simp, by simp, by simp, by simp, E2', out, O, ho, hz, by simp [valW, he]⟩
    rintro ⟨c, j, _⟩ g ⟨hc0, hc1, hj0, hj1, E3, out, O, ho, hz, he⟩
    dsimp only at hc0 hc1 hj0 hj1 he ⊢
    have hol := O.len
    dsimp only at hol
    refine pif_dec (fun hc2 => ?_) fun hc2 => ?_
    · have hjl : j.toNat < vs.length := by omega
      have hg2 := List.getElem?_eq_getElem hjl
      have hvb := ov _ (List.getElem_mem hjl)
      refine (T1.ext E3).read hj0 hg2 fun a ha => ⟨_, ha, ?_⟩
      have ew : ws[i.toNat] = ((ws[i.toNat].toNat : Nat) : Int) := by omega
      have ev : vs[j.toNat] = ((vs[j.toNat].toNat : Nat) : Int) := by omega
      rw [w64 (x := i + j) (by omega), w64 (x := j + 1) (by omega)]
      have hk : (i + j).toNat = i.toNat + j.toNat := by omega
      have hko : i.toNat + j.toNat < out.length := by omega
      have hgo := List.getElem?_eq_getElem hko
      have hob := ho _ (List.getElem_mem hko)
      have M := mul64_spec (h := g) (x := ws[i.toNat].toNat) (y := vs[j.toNat].toNat) (by omega) (by omega)
      rw [← ew, ← ev] at M
      have hpb : ws[i.toNat].toNat * vs[j.toNat].toNat ≤ 18446744073709551615 * 18446744073709551615 := Nat.mul_le_mul (by omega) (by omega)
      refine M.ret ⟨_, _, rfl, by omega, by omega, out[i.toNat + j.toNat], ?_, ?_⟩
      · rw [hk]
        obtain ⟨a', q1, q2⟩ := O.toR.at_ _ _ hgo
        cases q1; exact q2
      refine ⟨_, _, add64_run (x := ((ws[i.toNat].toNat * vs[j.toNat].toNat % 18446744073709551616 : Nat) : Int)) (by omega) hob.1 (by omega) (by omega), _, _, add64_run (by omega) hc0 (by omega) (by omega), by omega, by omega, ?_, ?_⟩
      · rw [hk]; exact O.canPut hko
      generalize hP : ws[i.toNat].toNat * vs[j.toNat].toNat = P at hpb ⊢
      generalize hov : out[i.toNat + j.toNat] = o at hob hgo ⊢
      rw [wu64 (x := ((P / 18446744073709551616 : Nat) : Int) + (((P % 18446744073709551616 : Nat) : Int) + o + 0) / 18446744073709551616) (by omega), wu64 (by omega)]
      have O1 := O.put hko ((((((P % 18446744073709551616 : Nat) : Int) + o + 0) % 18446744073709551616 + c + 0) % 18446744073709551616))
      rw [hk]
      refine ⟨⟨by omega, by omega, by omega, by omega, (setChg _ _ _ _).extR E3 fun c hc => by rw [hc]; exact hb, _, O1, wok_set ho (by omega), fun k z hk1 hk2 => ?_, ?_⟩, by omega⟩
      · rw [List.getElem?_set_ne (by omega)] at hk2
        exact hz k z hk1 hk2
      · have ej : (j + 1).toNat = j.toNat + 1 := by omega
        rw [ej, val_take hg2]
        have h1 := val_set (((((P % 18446744073709551616 : Nat) : Int) + o + 0) % 18446744073709551616 + c + 0) % 18446744073709551616) hgo
        have h2 : ((((((P % 18446744073709551616 : Nat) : Int) + o + 0) % 18446744073709551616 + c + 0) % 18446744073709551616)).toNat + 18446744073709551616 * (((P / 18446744073709551616 : Nat) : Int) + (((P % 18446744073709551616 : Nat) : Int) + o + 0) / 18446744073709551616 + ((((P % 18446744073709551616 : Nat) : Int) + o + 0) % 18446744073709551616 + c + 0) / 18446744073709551616).toNat = P + o.toNat + c.toNat := by omega
        generalize ((((((P % 18446744073709551616 : Nat) : Int) + o + 0) % 18446744073709551616 + c + 0) % 18446744073709551616)) = v at h1 h2 ⊢
        generalize (((P / 18446744073709551616 : Nat) : Int) + (((P % 18446744073709551616 : Nat) : Int) + o + 0) / 18446744073709551616 + ((((P % 18446744073709551616 : Nat) : Int) + o + 0) % 18446744073709551616 + c + 0) / 18446744073709551616).toNat = c' at h2 ⊢
        have e3 : 18446744073709551616 ^ (i.toNat + (j.toNat + 1)) * c' = 18446744073709551616 ^ (i.toNat + j.toNat) * (18446744073709551616 * c') := by
          rw [← Nat.add_assoc, Nat.pow_succ, Nat.mul_assoc]
        have e4 : 18446744073709551616 ^ i.toNat * (ws[i.toNat].toNat * (valW (vs.take j.toNat) + 18446744073709551616 ^ j.toNat * vs[j.toNat].toNat)) = 18446744073709551616 ^ i.toNat * (ws[i.toNat].toNat * valW (vs.take j.toNat)) + 18446744073709551616 ^ (i.toNat + j.toNat) * P := by
          rw [Nat.mul_add, Nat.mul_add, ← hP, Nat.pow_add]
          congr 1
          rw [Nat.mul_left_comm (ws[i.toNat].toNat), ← Nat.mul_assoc, ← Nat.mul_assoc]
        rw [e3, e4]
        have h3 := congrArg (18446744073709551616 ^ (i.toNat + j.toNat) * ·) h2
        simp only [Nat.mul_add] at h3
        generalize 18446744073709551616 ^ (i.toNat + j.toNat) * (18446744073709551616 * c') = X at *
        generalize 18446744073709551616 ^ (i.toNat + j.toNat) = B at *
        omega
    · have hjn : j.toNat = vs.length := by omega
      have ejn : j = ((q.n : Nat) : Int) := by omega
      rw [w64 (x := i + ((q.n : Nat) : Int)) (by omega), w64 (x := i + 1) (by omega)]
      have hk : (i + ((q.n : Nat) : Int)).toNat = i.toNat + vs.length := by omega
      have hko : i.toNat + vs.length < out.length := by omega
      have hgo := List.getElem?_eq_getElem hko
      have hzo := hz _ _ (Nat.le_refl _) hgo
      have O1 := O.put hko c
      rw [hk]
      refine ⟨by omega, by omega, O.canPut hko, ⟨by omega, by omega, (setChg _ _ _ _).extR E3 fun c hc => by rw [hc]; exact hb, _, O1, wok_set ho ⟨hc0, hc1⟩, fun k z hk1 hk2 => ?_, ?_⟩, by omega⟩
      · rw [List.getElem?_set_ne (by omega)] at hk2
        exact hz k z (by omega) hk2
      · have ei : (i + 1).toNat = i.toNat + 1 := by omega
        rw [ei, val_take hg]
        have h1 := val_set c hgo
        rw [hzo, Int.toNat_zero, Nat.mul_zero, Nat.add_zero] at h1
        rw [hjn, List.take_length] at he
        rw [Nat.add_mul, Nat.mul_assoc, h1, he]
  · have en : i.toNat = ws.length := by omega
    rw [en, List.take_length] at he
    refine (told_spec (s := ⟨some (adr b), p.n + q.n, p.n + q.n⟩) O.toR (by have := O.len; dsimp only at this; omega) (Nat.le_refl _) (len_le (trim_norm _) (trim_ok ho) 64 (by rw [trim_val, he]; exact hxy))).mono ?_
    rintro v g' ⟨t, rfl, O2, E3⟩
    have N := O2.natR ho
    rw [he] at N
    exact ⟨t, true, rfl, t, rfl, N, (E.trans E2').trans E3⟩
end Go.Proofs.YtbeapoopomlgaaaGreat.Sx
