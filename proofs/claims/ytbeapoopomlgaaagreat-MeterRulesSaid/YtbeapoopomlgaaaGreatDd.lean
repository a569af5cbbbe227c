/- Contracts: View, form by form. -/
import Derived.Test.YtbeapoopomlgaaaGreatDc
import Derived.Test.YtbeapoopomlgaaaGreatGj
namespace Go.Proofs.YtbeapoopomlgaaaGreat.Sx
open Go Go.Proofs
open Go.IntKind (wrap)

section
variable {h : Heap} {b : Nat} {A : Ar} {n l : Int} {e : Edg} {S : Nat → Prop}
abbrev ViewC (h : Heap) (b : Nat) (n : Int) (S : Nat → Prop) (r : Ar × Edg × Edg × Int) (v : Value) (h' : Heap) : Prop := v = .tuple #[r.2.1.val, r.2.2.1.val, .int .u8 r.2.2.2] ∧ StoreAt h' b r.1 n (Fp h S) ∧ Chg h h' S
theorem viewed (R : StoreAt h b A n S) {r : Ar × Edg × Edg × Int} {x y : Edg} {c : Int} (hr : r = (A, x, y, c)) : ViewC h b n S r (.tuple #[x.val, y.val, .int .u8 c]) h := by
  subst hr
  exact ⟨rfl, R.keep', Chg.refl _ _⟩

theorem view1_spec (R : StoreAt h b A n S) (hok : ∀ id r, getC A.cells id = some r → r.ok) (he : e.ok) : Spec TP 288 #[.pointer (some (adr b)), e.val, .int .i64 l] h (ViewC h b n S (viewM 1 A n l e)) := by
  refine f288_ok ?_
  unfold f288_sem viewM
  refine pif_f rfl (pif_dec (fun hc => ?_) fun hc => (svars_spec R.toR).ret ⟨_, rfl, pif_dec (fun hc2 => ?_) fun hc2 => ?_⟩)
  · rw [if_pos (.inl hc)]; exact viewed R rfl
  · rw [if_pos (.inr hc2)]; exact viewed R rfl
  rw [if_neg (by omega)]
  refine (sleads_spec R.toR he hok).ret ⟨_, rfl, pif_split (fun h3 => ?_) fun h3 => ?_⟩
  · simp only [Bool.not_eq_true', decide_eq_false_iff_not] at h3
    rw [if_pos h3]; exact viewed R rfl
  simp only [Bool.not_eq_false', decide_eq_true_eq] at h3
  rw [if_neg (by simp [h3]), if_neg (by omega)]
  refine (sget_spec R.toR he.a0 he.a1).ret ?_
  cases hg : getC A.cells e.a with
  | none => exact ⟨_, _, _, _, _, _, _, _, rfl, pif_t rfl (viewed R (by unfold sideM; rw [if_pos (.inl rfl)]))⟩
  | some r =>
    have k := hok _ _ hg
    have k0 := k.t0
    have k1 := k.t1
    refine ⟨_, _, _, _, _, _, _, _, rfl, pif_f rfl ?_⟩
    rw [show (some r).getD rec0 = r from rfl, w64 (x := r.tp) (by omega)]
    refine pif_dec (fun q1 => ?_) fun q1 => ?_
    · simp only; rw [if_pos q1]; exact viewed R (by unfold sideM; rw [if_pos (.inl rfl)])
    · simp only; rw [if_neg q1, if_neg (by omega)]; exact viewed R rfl
theorem view2_spec (R : StoreAt h b A n S) (hok : ∀ id r, getC A.cells id = some r → r.ok) (he : e.ok) : Spec TP 289 #[.pointer (some (adr b)), e.val, .int .i64 l] h (ViewC h b n S (viewM 2 A n l e)) := by
  refine f289_ok ?_
  unfold f289_sem viewM
  refine pif_f rfl (pif_dec (fun hc => ?_) fun hc => (svars_spec R.toR).ret ⟨_, rfl, pif_dec (fun hc2 => ?_) fun hc2 => ?_⟩)
  · rw [if_pos (.inl hc)]; exact viewed R rfl
  · rw [if_pos (.inr hc2)]; exact viewed R rfl
  rw [if_neg (by omega)]
  refine (sleads_spec R.toR he hok).ret ⟨_, rfl, pif_split (fun h3 => ?_) fun h3 => ?_⟩
  · simp only [Bool.not_eq_true', decide_eq_false_iff_not] at h3
    rw [if_pos h3]; exact viewed R rfl
  simp only [Bool.not_eq_false', decide_eq_true_eq] at h3
  rw [if_neg (by simp [h3]), if_neg (by omega)]
  refine (sget_spec R.toR he.a0 he.a1).ret ?_
  cases hg : getC A.cells e.a with
  | none => exact ⟨_, _, _, _, _, _, _, _, rfl, pif_t rfl (viewed R (x := e) (y := e0) (by unfold sideM; rw [if_neg (by omega), if_neg (by omega)]))⟩
  | some r =>
    have k := hok _ _ hg
    have k0 := k.t0
    have k1 := k.t1
    refine ⟨_, _, _, _, _, _, _, _, rfl, pif_f rfl ?_⟩
    rw [show (some r).getD rec0 = r from rfl, w64 (x := r.tp) (by omega)]
    refine pif_dec (fun q1 => ?_) fun q1 => ?_
    · simp only; rw [if_pos q1]; exact viewed R (x := e) (y := e0) (by unfold sideM; rw [if_neg (by omega), if_neg (by omega)])
    · simp only; rw [if_neg q1, if_neg (by omega)]; exact viewed R rfl
theorem view3_spec (R : StoreAt h b A n S) (hok : ∀ id r, getC A.cells id = some r → r.ok) (hlen : A.cells.length < 999999999) (hn : n ≤ 16) (he : e.ok) : Spec TP 290 #[.pointer (some (adr b)), e.val, .int .i64 l] h (ViewC h b n S (viewM 3 A n l e)) := by
  refine f290_ok ?_
  unfold f290_sem viewM
  refine pif_f rfl (pif_dec (fun hc => ?_) fun hc => (svars_spec R.toR).ret ⟨_, rfl, pif_dec (fun hc2 => ?_) fun hc2 => ?_⟩)
  · rw [if_pos (.inl hc)]; exact viewed R rfl
  · rw [if_pos (.inr hc2)]; exact viewed R rfl
  rw [if_neg (by omega)]
  refine (sleads_spec R.toR he hok).ret ⟨_, rfl, pif_split (fun h3 => ?_) fun h3 => ?_⟩
  · simp only [Bool.not_eq_true', decide_eq_false_iff_not] at h3
    rw [if_pos h3]; exact viewed R rfl
  simp only [Bool.not_eq_false', decide_eq_true_eq] at h3
  rw [if_neg (by simp [h3]), if_neg (by omega)]
  refine (sget_spec R.toR he.a0 he.a1).ret ?_
  cases hg : getC A.cells e.a with
  | none => exact ⟨_, _, _, _, _, _, _, _, rfl, pif_t rfl (viewed R (by unfold sideM; rw [if_pos (.inr rfl)]))⟩
  | some r =>
    have k := hok _ _ hg
    have k0 := k.t0
    have k1 := k.t1
    refine ⟨_, _, _, _, _, _, _, _, rfl, pif_f rfl ?_⟩
    rw [show (some r).getD rec0 = r from rfl, w64 (x := r.tp) (by omega)]
    refine pif_dec (fun q1 => ?_) fun q1 => pif_split (fun q2 => ?_) fun q2 => ?_
    · simp only; rw [if_pos q1]; exact viewed R (by unfold sideM; rw [if_pos (.inr rfl)])
    · simp only [beq_iff_eq] at q2
      simp only; rw [if_neg q1, if_neg (by omega)]; exact viewed R rfl
    · simp only [beq_eq_false_iff_ne] at q2
      simp only; rw [if_neg q1, if_pos ⟨.inl trivial, q2⟩, wu8 (x := r.tp + 1) (by omega)]
      refine (found_spec (f := 3) (fid := 220) (r := ⟨r.fm, r.tp + 1, r.bt, r.lo, r.hi⟩) R ⟨k.f0, k.f1, by dsimp only; omega, by dsimp only; omega, k.b0, k.b1, k.lo, k.hi⟩ hok hlen (by decide) fun H => f220_ok (by unfold f220_sem; exact H)).mono ?_
      rintro v g ⟨rfl, h5⟩
      refine ⟨_, _, _, rfl, pif_split (fun c => ?_) fun c => ?_⟩
      · simp only [bne_iff_ne, ne_eq] at c
        rw [if_pos c]; exact ⟨rfl, h5⟩
      · simp only [bne_eq_false_iff_eq] at c
        rw [if_neg (by simp [c])]; exact ⟨rfl, h5⟩
theorem view4_spec (R : StoreAt h b A n S) (hok : ∀ id r, getC A.cells id = some r → r.ok) (hlen : A.cells.length < 999999999) (hn : n ≤ 16) (he : e.ok) : Spec TP 291 #[.pointer (some (adr b)), e.val, .int .i64 l] h (ViewC h b n S (viewM 4 A n l e)) := by
  refine f291_ok ?_
  unfold f291_sem viewM
  refine pif_f rfl (pif_dec (fun hc => ?_) fun hc => (svars_spec R.toR).ret ⟨_, rfl, pif_dec (fun hc2 => ?_) fun hc2 => ?_⟩)
  · rw [if_pos (.inl hc)]; exact viewed R rfl
  · rw [if_pos (.inr hc2)]; exact viewed R rfl
  rw [if_neg (by omega)]
  refine (sleads_spec R.toR he hok).ret ⟨_, rfl, pif_split (fun h3 => ?_) fun h3 => ?_⟩
  · simp only [Bool.not_eq_true', decide_eq_false_iff_not] at h3
    rw [if_pos h3]; exact viewed R rfl
  simp only [Bool.not_eq_false', decide_eq_true_eq] at h3
  rw [if_neg (by simp [h3]), if_neg (by omega)]
  refine (sget_spec R.toR he.a0 he.a1).ret ?_
  cases hg : getC A.cells e.a with
  | none => exact ⟨_, _, _, _, _, _, _, _, rfl, pif_t rfl (viewed R (x := e) (y := e0) (by unfold sideM; rw [if_neg (by omega), if_neg (by omega)]))⟩
  | some r =>
    have k := hok _ _ hg
    have k0 := k.t0
    have k1 := k.t1
    refine ⟨_, _, _, _, _, _, _, _, rfl, pif_f rfl ?_⟩
    rw [show (some r).getD rec0 = r from rfl, w64 (x := r.tp) (by omega)]
    refine pif_dec (fun q1 => ?_) fun q1 => pif_split (fun q2 => ?_) fun q2 => ?_
    · simp only; rw [if_pos q1]; exact viewed R (x := e) (y := e0) (by unfold sideM; rw [if_neg (by omega), if_neg (by omega)])
    · simp only [beq_iff_eq] at q2
      simp only; rw [if_neg q1, if_neg (by omega)]; exact viewed R rfl
    · simp only [beq_eq_false_iff_ne] at q2
      simp only; rw [if_neg q1, if_pos ⟨.inr trivial, q2⟩, wu8 (x := r.tp + 1) (by omega)]
      refine (found_spec (f := 4) (fid := 221) (r := ⟨r.fm, r.tp + 1, r.bt, r.lo, r.hi⟩) R ⟨k.f0, k.f1, by dsimp only; omega, by dsimp only; omega, k.b0, k.b1, k.lo, k.hi⟩ hok hlen (by decide) fun H => f221_ok (by unfold f221_sem; exact H)).mono ?_
      rintro v g ⟨rfl, h5⟩
      refine ⟨_, _, _, rfl, pif_split (fun c => ?_) fun c => ?_⟩
      · simp only [bne_iff_ne, ne_eq] at c
        rw [if_pos c]; exact ⟨rfl, h5⟩
      · simp only [bne_eq_false_iff_eq] at c
        rw [if_neg (by simp [c])]; exact ⟨rfl, h5⟩
theorem view5_spec (R : StoreAt h b A n S) (hok : ∀ id r, getC A.cells id = some r → r.ok) (hn : n ≤ 16) (he : e.ok) : Spec TP 292 #[.pointer (some (adr b)), e.val, .int .i64 l] h (ViewC h b n S (viewM 5 A n l e)) := by
  have t0 := he.t0
  have t1 := he.t1
  refine f292_ok ?_
  unfold f292_sem viewM
  refine pif_f rfl (pif_dec (fun hc => ?_) fun hc => (svars_spec R.toR).ret ⟨_, rfl, pif_dec (fun hc2 => ?_) fun hc2 => ?_⟩)
  · rw [if_pos (.inl hc)]; exact viewed R rfl
  · rw [if_pos (.inr hc2)]; exact viewed R rfl
  rw [if_neg (by omega)]
  refine (sleads_spec R.toR he hok).ret ⟨_, rfl, pif_split (fun h3 => ?_) fun h3 => ?_⟩
  · simp only [Bool.not_eq_true', decide_eq_false_iff_not] at h3
    rw [if_pos h3]; exact viewed R rfl
  simp only [Bool.not_eq_false', decide_eq_true_eq] at h3
  rw [if_neg (by simp [h3]), w64 (x := e.t) (by omega)]
  refine pif_split (fun c => ?_) fun c => pif_dec (fun c2 => ?_) fun c2 => ?_
  · simp only [beq_iff_eq] at c
    rw [if_pos ⟨rfl, .inl c⟩]; exact viewed R rfl
  · rw [if_pos ⟨rfl, .inr c2⟩]; exact viewed R rfl
  simp only [beq_eq_false_iff_ne] at c
  rw [if_neg (by omega), w64 (x := l + 1) (by omega), wu8 (x := l + 1) (by omega)]
  refine (sget_spec R.toR he.a0 he.a1).ret ?_
  cases hg : getC A.cells e.a with
  | none => exact ⟨_, _, _, _, _, _, _, _, rfl, pif_t rfl (viewed R (x := ⟨l + 1, e.a⟩) (y := e0) (by unfold sideM; rw [if_neg (by omega), if_pos rfl]))⟩
  | some r =>
    have k := hok _ _ hg
    have k0 := k.t0
    have k1 := k.t1
    refine ⟨_, _, _, _, _, _, _, _, rfl, pif_f rfl ?_⟩
    rw [show (some r).getD rec0 = r from rfl, w64 (x := r.tp) (by omega)]
    refine pif_dec (fun q1 => ?_) fun q1 => ?_
    · simp only; rw [if_pos q1]; exact viewed R (x := ⟨l + 1, e.a⟩) (y := e0) (by unfold sideM; rw [if_neg (by omega), if_pos rfl])
    · simp only; rw [if_neg q1, if_neg (by omega)]; exact viewed R rfl
/-- View -/
theorem view_spec {f : Int} (R : StoreAt h b A n S) (hok : ∀ id r, getC A.cells id = some r → r.ok) (hlen : A.cells.length < 999999999) (hn : n ≤ 16) (he : e.ok) (hf : formB f) : Spec TP 283 #[.pointer (some (adr b)), .int .u8 f, e.val, .int .i64 l] h (ViewC h b n S (viewM f A n l e)) := by
  refine f283_ok ?_
  unfold f283_sem
  refine pif_f rfl ?_
  have fin : ∀ {fid : Nat} {c : Int}, Spec TP fid #[.pointer (some (adr b)), e.val, .int .i64 l] h (ViewC h b n S (viewM c A n l e)) → Spec TP fid #[.pointer (some (adr b)), e.val, .int .i64 l] h fun r21 h21 => ∃ x21a_0 : Int, ∃ x21a_1 : Int, ∃ x21b_0 : Int, ∃ x21b_1 : Int, ∃ x21c : Int, r21 = .tuple #[.agg #[.int .u8 x21a_0, .int .u32 x21a_1], .agg #[.int .u8 x21b_0, .int .u32 x21b_1], .int .u8 x21c] ∧ ViewC h b n S (viewM c A n l e) (.tuple #[.agg #[.int .u8 x21a_0, .int .u32 x21a_1], .agg #[.int .u8 x21b_0, .int .u32 x21b_1], .int .u8 x21c]) h21 := by
    intro fid c H
    refine H.mono ?_
    rintro v g ⟨rfl, h5⟩
    exact ⟨_, _, _, _, _, rfl, rfl, h5⟩
  unfold formB at hf
  rcases (by omega : f = 1 ∨ f = 2 ∨ f = 3 ∨ f = 4 ∨ f = 5) with rfl | rfl | rfl | rfl | rfl
  · exact pif_t rfl (fin (view1_spec R hok he))
  · exact pif_f rfl (pif_t rfl (fin (view2_spec R hok he)))
  · exact pif_f rfl (pif_f rfl (pif_t rfl (fin (view3_spec R hok hlen hn he))))
  · exact pif_f rfl (pif_f rfl (pif_f rfl (pif_t rfl (fin (view4_spec R hok hlen hn he)))))
  · exact pif_f rfl (pif_f rfl (pif_f rfl (pif_f rfl (pif_t rfl (fin (view5_spec R hok hn he))))))
end
end Go.Proofs.YtbeapoopomlgaaaGreat.Sx
