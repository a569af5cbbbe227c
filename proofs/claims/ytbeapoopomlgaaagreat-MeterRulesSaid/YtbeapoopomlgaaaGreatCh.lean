/- Contracts: Go's own sort of whole numbers: it returns, and what it leaves is a permutation. -/
import Derived.Test.YtbeapoopomlgaaaGreatCg
import Derived.Test.YtbeapoopomlgaaaGreatGh
namespace Go.Proofs.YtbeapoopomlgaaaGreat.Sx
open Go Go.Proofs
open Go.IntKind (wrap)

theorem swap_perm {l : List Int} {i j : Nat} {v w : Int} (hi : l[i]? = some v) (hj : l[j]? = some w) : ((l.set i w).set j v).Perm l := by
  obtain ⟨h1, h2⟩ := List.getElem?_eq_some_iff.1 hi
  obtain ⟨h3, h4⟩ := List.getElem?_eq_some_iff.1 hj
  rw [List.perm_iff_count]
  intro a
  have e : (l.set i w)[j]'(by simpa using h3) = if i = j then w else l[j] := by rw [List.getElem_set]
  rw [List.count_set (by simpa using h3), List.count_set h1, e, h2, h4]
  have c1 : v = a → 0 < l.count a := fun h => by rw [← h, ← h2]; exact List.count_pos_iff.2 (List.getElem_mem _)
  have c2 : w = a → 0 < l.count a := fun h => by rw [← h, ← h4]; exact List.count_pos_iff.2 (List.getElem_mem _)
  by_cases hij : i = j
  · subst hij
    have : v = w := by rw [hi] at hj; exact Option.some.inj hj
    subst this
    by_cases h5 : v = a <;> simp [h5]
    subst h5
    have := c1 rfl
    omega
  · simp only [hij, if_false, beq_iff_eq]
    by_cases h5 : v = a <;> by_cases h6 : w = a <;> simp only [h5, h6, if_true, if_false]
    · have := c1 h5; omega
    · have := c1 h5; omega
    · have := c2 h6; omega
    · omega

/-- an array of one's own, permuted -/
structure PS (h h' : Heap) (s : Sl) (b : Nat) (l : List Int) : Prop where
  ex : ∃ l' : List Int, l'.Perm l ∧ Own h' s 23 1 encU l' b
  chg : Chg h h' fun c => c = b
section
variable {h g : Heap} {s : Sl} {b : Nat} {l : List Int}
theorem PS.refl (O : Own h s 23 1 encU l b) : PS h h s b l := ⟨⟨l, .refl _, O⟩, Chg.refl _ _⟩
theorem PS.chg2 {g' : Heap} (P : PS h g s b l) (C : Chg g g' fun c => c ≠ b ∧ h c = none) : PS h g' s b l := by
  obtain ⟨⟨l1, p1, O1⟩, C1⟩ := P
  exact ⟨⟨l1, p1, O1.chg C fun hc => hc.1 rfl⟩, fun c o hc hn => C c o (C1 c o hc hn) fun h => by rw [h.2] at hc; cases hc⟩
/-- a call on the same array behind it -/
theorem PS.call {Q : Value → Prop} {f : FuncId} {args : Array Value} {K : Value → Heap → Prop} (P : PS h g s b l) (S : ∀ l', l'.length = l.length → Own g s 23 1 encU l' b → Spec TP f args g fun v g' => Q v ∧ PS g g' s b l')
    (H : ∀ v g', Q v → PS h g' s b l → K v g') : Spec TP f args g K := by
  obtain ⟨⟨l1, p1, O1⟩, C1⟩ := P
  refine (S l1 p1.length_eq O1).mono ?_
  rintro v g' ⟨h1, ⟨l2, p2, O2⟩, C2⟩
  exact H v g' h1 ⟨⟨l2, p2.trans p1, O2⟩, C1.trans C2 fun _ _ hc => hc⟩
theorem PS.rd (P : PS h g s b l) {i : Int} (h0 : 0 ≤ i) (h1 : i < l.length) {k : Addr → Int → Prop} (H : ∀ a v, k a v) :
    psome s.p fun a => 0 ≤ i ∧ i < ((s.n : Nat) : Int) ∧ ∃ v : Int, Has g (a.add (Int.toNat i * 1)) [.int .u32 v] ∧ k a v := by
  obtain ⟨⟨l1, p1, O1⟩, C1⟩ := P
  have hl := p1.length_eq
  exact O1.toR.read h0 (List.getElem?_eq_getElem (by omega)) fun a ha => ⟨_, ha, H _ _⟩
theorem PS.swp (P : PS h g s b l) {x y : Int} (hx0 : 0 ≤ x) (hx1 : x < l.length) (hy0 : 0 ≤ y) (hy1 : y < l.length) {k : Addr → Int → Addr → Int → Addr → Addr → Prop}
    (H : ∀ v w, PS h ((g.put ((adr b).add (Int.toNat x * 1)) [.int .u32 v]).put ((adr b).add (Int.toNat y * 1)) [.int .u32 w]) s b l → k (adr b) v (adr b) w (adr b) (adr b)) :
    psome s.p fun a1 => 0 ≤ y ∧ y < ((s.n : Nat) : Int) ∧ ∃ v : Int, Has g (a1.add (Int.toNat y * 1)) [.int .u32 v] ∧ psome s.p fun a2 => 0 ≤ x ∧ x < ((s.n : Nat) : Int) ∧ ∃ w : Int, Has g (a2.add (Int.toNat x * 1)) [.int .u32 w] ∧
      psome s.p fun a3 => 0 ≤ x ∧ x < ((s.n : Nat) : Int) ∧ CanPut g (a3.add (Int.toNat x * 1)) 1 ∧ psome s.p fun a4 => 0 ≤ y ∧ y < ((s.n : Nat) : Int) ∧ CanPut (g.put (a3.add (Int.toNat x * 1)) [.int .u32 v]) (a4.add (Int.toNat y * 1)) 1 ∧ k a1 v a2 w a3 a4 := by
  obtain ⟨⟨l1, p1, O1⟩, C1⟩ := P
  have hl := p1.length_eq
  have hn := O1.n
  have hp := O1.p
  rw [hp]
  have gx := List.getElem?_eq_getElem (l := l1) (i := x.toNat) (by omega)
  have gy := List.getElem?_eq_getElem (l := l1) (i := y.toNat) (by omega)
  have rd : ∀ {i : Nat} {v : Int}, l1[i]? = some v → Has g ((adr b).add (i * 1)) [.int .u32 v] := fun hv => by
    obtain ⟨a, h1, h2⟩ := O1.toR.at_ _ _ hv
    rw [hp] at h1; cases h1; exact h2
  have O2 := O1.put (i := x.toNat) (by omega) l1[y.toNat]
  have O3 := O2.put (i := y.toNat) (by simp; omega) l1[x.toNat]
  refine ⟨hy0, by omega, _, rd gy, hx0, by omega, _, rd gx, hx0, by omega, O1.canPut (by omega), hy0, by omega, O2.canPut (by simp; omega), H _ _ ⟨⟨_, (swap_perm gx gy).trans p1, O3⟩, ?_⟩⟩
  exact (C1.trans (setChg _ _ _ _) fun _ _ hc => hc).trans (setChg _ _ _ _) fun _ _ hc => hc
end

theorem less_spec {h : Heap} {v w : Int} : Spec TP 240 #[.int .u32 v, .int .u32 w] h fun r h' => r = .bool (decide (v < w)) ∧ h' = h := by
  refine f240_ok ?_
  unfold f240_sem
  have nan : ∀ {x : Int}, Spec TP 278 #[.int .u32 x] h fun r h' => r = .bool false ∧ h' = h := by
    intro x
    refine f278_ok ?_
    unfold f278_sem
    simp
  exact nan.ret ⟨_, rfl, rfl, rfl⟩

abbrev Done (h : Heap) (s : Sl) (b : Nat) (l : List Int) (v : Value) (h' : Heap) : Prop := v = .tuple #[] ∧ PS h h' s b l

section
variable {h : Heap} {s : Sl} {b : Nat} {l : List Int}
theorem inssort_spec (O : Own h s 23 1 encU l b) (hl : l.length < 1099511627776) {x y : Int} (hx : 0 ≤ x) (hx1 : x ≤ l.length) (hy : y ≤ l.length) : Spec TP 234 #[.slice s.p s.n s.c, .int .i64 x, .int .i64 y] h (Done h s b l) := by
  refine f234_ok ?_
  unfold f234_sem
  rw [w64 (x := x + 1) (by omega)]
  refine .by (fun st g => x + 1 ≤ st.1 ∧ st.1 ≤ l.length + 1 ∧ PS h g s b l) (fun st _ => (y - st.1).toNat) ⟨by simp, by simp; omega, PS.refl O⟩ ?_
  rintro ⟨i, _⟩ g ⟨hi0, hi1, P⟩
  dsimp only at hi0 hi1 ⊢
  refine pif_dec (fun hc => ?_) fun hc => ⟨rfl, P⟩
  rw [w64 (x := i + 1) (by omega)]
  refine .by (fun st g => x ≤ st.1 ∧ st.1 < l.length ∧ PS h g s b l) (fun st _ => st.1.toNat) ⟨by dsimp only; omega, by dsimp only; omega, P⟩ ?_
  rintro ⟨j, _⟩ g ⟨hj0, hj1, P⟩
  dsimp only at hj0 hj1 ⊢
  refine pif_dec (fun hc => ?_) fun hc => ⟨⟨by omega, by omega, P⟩, by omega⟩
  rw [w64 (x := j - 1) (by omega)]
  refine P.rd (by omega) (by omega) fun a v => P.rd (by omega) (by omega) fun a' v' => less_spec.ret ⟨_, rfl, ?_⟩
  refine pif_split (fun h1 => P.swp (by omega) (by omega) (by omega) (by omega) fun v w P' => ?_) fun h1 => ⟨⟨by omega, by omega, P⟩, by omega⟩
  exact ⟨⟨by omega, by omega, P'⟩, by omega⟩

theorem sift_spec (O : Own h s 23 1 encU l b) (hl : l.length < 1099511627776) {x y z : Int} (hx : 0 ≤ x) (hx1 : x ≤ l.length) (hz : 0 ≤ z) (hy : z + y ≤ l.length) : Spec TP 273 #[.slice s.p s.n s.c, .int .i64 x, .int .i64 y, .int .i64 z] h (Done h s b l) := by
  refine f273_ok ?_
  unfold f273_sem
  refine .by (fun st g => 0 ≤ st.1 ∧ st.1 ≤ l.length ∧ PS h g s b l) (fun st _ => (y - st.1).toNat) ⟨by simp [hx], by simp [hx1], PS.refl O⟩ ?_
  rintro ⟨i, _⟩ g ⟨hi0, hi1, P⟩
  dsimp only at hi0 hi1 ⊢
  rw [w64 (x := 2 * i) (by omega), w64 (x := 2 * i + 1) (by omega), w64 (x := 2 * i + 1 + 1) (by omega)]
  refine pif_dec (fun hc => ⟨rfl, P⟩) fun hc => ?_
  rw [w64 (x := z + (2 * i + 1)) (by omega), w64 (x := z + i) (by omega)]
  refine pif_dec (fun hc2 => ?_) fun hc2 => ?_
  · rw [w64 (x := z + (2 * i + 1) + 1) (by omega), w64 (x := z + (2 * i + 1 + 1)) (by omega)]
    refine P.rd (by omega) (by omega) fun a v => P.rd (by omega) (by omega) fun a' v' => less_spec.ret ⟨_, rfl, ?_⟩
    refine pif_split (fun h1 => ?_) fun h1 => ?_
    all_goals
      refine P.rd (by omega) (by omega) fun a v => P.rd (by omega) (by omega) fun a' v' => less_spec.ret ⟨_, rfl, ?_⟩
      refine pif_split (fun h1 => ⟨rfl, P⟩) fun h1 => P.swp (by omega) (by omega) (by omega) (by omega) fun v w P' => ?_
      exact ⟨⟨by omega, by omega, P'⟩, by omega⟩
  · refine P.rd (by omega) (by omega) fun a v => P.rd (by omega) (by omega) fun a' v' => less_spec.ret ⟨_, rfl, ?_⟩
    refine pif_split (fun h1 => ⟨rfl, P⟩) fun h1 => P.swp (by omega) (by omega) (by omega) (by omega) fun v w P' => ?_
    exact ⟨⟨by omega, by omega, P'⟩, by omega⟩

theorem heapsort_spec (O : Own h s 23 1 encU l b) (hl : l.length < 1099511627776) {x y : Int} (hx : 0 ≤ x) (hxy : x ≤ y) (hy : y ≤ l.length) : Spec TP 235 #[.slice s.p s.n s.c, .int .i64 x, .int .i64 y] h (Done h s b l) := by
  refine f235_ok ?_
  unfold f235_sem
  have ht : -1 ≤ Int.tdiv (y - x - 1) 2 ∧ Int.tdiv (y - x - 1) 2 ≤ y - x := by
    by_cases h0 : 0 ≤ y - x - 1
    · rw [Int.tdiv_eq_ediv_of_nonneg h0]; omega
    · have e : y - x - 1 = -1 := by omega
      rw [e]
      have : Int.tdiv (-1) 2 = 0 := by decide
      omega
  rw [w64 (x := y - x) (by omega), w64 (x := y - x - 1) (by omega), w64 (x := Int.tdiv (y - x - 1) 2) (by omega)]
  refine ⟨by decide, ?_⟩
  refine .by (fun st g => st.1 ≤ y - x ∧ -1 ≤ st.1 ∧ PS h g s b l) (fun st _ => (st.1 + 1).toNat) ⟨by dsimp only; omega, by dsimp only; omega, PS.refl O⟩ ?_
  rintro ⟨i, _⟩ g ⟨hi0, hi1, P⟩
  dsimp only at hi0 hi1 ⊢
  refine pif_dec (fun hc => ?_) fun hc => ?_
  · rw [w64 (x := i - 1) (by omega)]
    refine P.call (fun l' hl' O' => sift_spec O' (by omega) (by omega) (by omega) hx (by omega)) fun v g' hv P' => ⟨hv, ⟨by omega, by omega, P'⟩, by omega⟩
  · refine .by (fun st g => st.1 < y - x ∧ -1 ≤ st.1 ∧ PS h g s b l) (fun st _ => (st.1 + 1).toNat) ⟨by dsimp only; omega, by dsimp only; omega, P⟩ ?_
    rintro ⟨i, _⟩ g ⟨hi0, hi1, P⟩
    dsimp only at hi0 hi1 ⊢
    refine pif_dec (fun hc => ?_) fun hc => ⟨rfl, P⟩
    rw [w64 (x := x + i) (by omega), w64 (x := i - 1) (by omega)]
    refine P.swp (by omega) (by omega) (by omega) (by omega) fun v w P => ?_
    refine P.call (fun l' hl' O' => sift_spec O' (by omega) (by omega) (by omega) hx (by omega)) fun v g' hv P' => ⟨hv, ⟨by omega, by omega, P'⟩, by omega⟩

theorem reverse_spec (O : Own h s 23 1 encU l b) (hl : l.length < 1099511627776) {x y : Int} (hx : 0 ≤ x) (hy : y ≤ l.length) (hy0 : 0 ≤ y) : Spec TP 238 #[.slice s.p s.n s.c, .int .i64 x, .int .i64 y] h (Done h s b l) := by
  refine f238_ok ?_
  unfold f238_sem
  rw [w64 (x := y - 1) (by omega)]
  refine .by (fun st g => 0 ≤ st.1 ∧ st.2.1 < l.length ∧ -1 ≤ st.2.1 ∧ PS h g s b l) (fun st _ => (st.2.1 - st.1).toNat) ⟨by dsimp only; omega, by dsimp only; omega, by dsimp only; omega, PS.refl O⟩ ?_
  rintro ⟨i, j, _⟩ g ⟨hi0, hi1, hi2, P⟩
  dsimp only at hi0 hi1 hi2 ⊢
  refine pif_dec (fun hc => ?_) fun hc => ⟨rfl, P⟩
  rw [w64 (x := i + 1) (by omega), w64 (x := j - 1) (by omega)]
  refine P.swp (by omega) (by omega) (by omega) (by omega) fun v w P' => ?_
  exact ⟨⟨by omega, by omega, by omega, P'⟩, by omega⟩
end

/-! ### ways along the array -/
section
variable {h g : Heap} {s : Sl} {b : Nat} {l : List Int}
theorem PS.scan (P : PS h g s b l) {i1 i2 nx : Int × Unit → Int} {c : Int × Unit → Bool} {neg : Bool → Bool} {K : Int × Unit → Heap → Prop} (I : Int → Prop) (μ : Int → Nat) {s0 : Int} (h0 : I s0)
    (hb : ∀ i, I i → c (i, ()) = true → (0 ≤ i1 (i, ()) ∧ i1 (i, ()) < l.length) ∧ (0 ≤ i2 (i, ()) ∧ i2 (i, ()) < l.length) ∧ I (nx (i, ())) ∧ μ (nx (i, ())) < μ i) (HK : ∀ i, I i → K (i, ()) g) :
    LoopS (fun (st : Int × Unit) (hh : Heap) C => pif (c st) (psome s.p fun a => 0 ≤ i1 st ∧ i1 st < ((s.n : Nat) : Int) ∧ ∃ v : Int, Has hh (a.add (Int.toNat (i1 st) * 1)) [.int .u32 v] ∧ psome s.p fun a' => 0 ≤ i2 st ∧ i2 st < ((s.n : Nat) : Int) ∧ ∃ v' : Int, Has hh (a'.add (Int.toNat (i2 st) * 1)) [.int .u32 v'] ∧
      Spec TP 240 #[.int .u32 v, .int .u32 v'] hh fun r h' => ∃ x : Bool, r = .bool x ∧ pif (neg x) (C (nx st, ()) h') (K st h')) (K st hh)) (s0, ()) g := by
  refine .by (fun st g' => g' = g ∧ I st.1) (fun st _ => μ st.1) ⟨rfl, h0⟩ ?_
  rintro ⟨i, _⟩ g' ⟨rfl, hi⟩
  refine pif_split (fun hc => ?_) fun hc => HK i hi
  obtain ⟨h1, h2, h3, h4⟩ := hb i hi hc
  exact P.rd h1.1 h1.2 fun a v => P.rd h2.1 h2.2 fun a' v' => less_spec.ret ⟨_, rfl, pif_split (fun _ => ⟨⟨rfl, h3⟩, h4⟩) fun _ => HK i hi⟩

theorem PS.shift (P : PS h g s b l) {i2 nx : Int × Unit → Int} {c : Int × Unit → Bool} {K : Heap → Prop} (I : Int → Prop) (μ : Int → Nat) {s0 : Int} (h0 : I s0)
    (hb : ∀ i, I i → c (i, ()) = true → (0 ≤ i ∧ i < l.length) ∧ (0 ≤ i2 (i, ()) ∧ i2 (i, ()) < l.length) ∧ I (nx (i, ())) ∧ μ (nx (i, ())) < μ i) (HK : ∀ g, PS h g s b l → K g) :
    LoopS (fun (st : Int × Unit) (hh : Heap) C => pif (c st) (psome s.p fun a => 0 ≤ st.1 ∧ st.1 < ((s.n : Nat) : Int) ∧ ∃ v : Int, Has hh (a.add (Int.toNat st.1 * 1)) [.int .u32 v] ∧ psome s.p fun a' => 0 ≤ i2 st ∧ i2 st < ((s.n : Nat) : Int) ∧ ∃ v' : Int, Has hh (a'.add (Int.toNat (i2 st) * 1)) [.int .u32 v'] ∧
      Spec TP 240 #[.int .u32 v, .int .u32 v'] hh fun r h' => ∃ x : Bool, r = .bool x ∧ pif (!x) (K h') (psome s.p fun a1 => 0 ≤ i2 st ∧ i2 st < ((s.n : Nat) : Int) ∧ ∃ v : Int, Has h' (a1.add (Int.toNat (i2 st) * 1)) [.int .u32 v] ∧ psome s.p fun a2 => 0 ≤ st.1 ∧ st.1 < ((s.n : Nat) : Int) ∧ ∃ w : Int, Has h' (a2.add (Int.toNat st.1 * 1)) [.int .u32 w] ∧
        psome s.p fun a3 => 0 ≤ st.1 ∧ st.1 < ((s.n : Nat) : Int) ∧ CanPut h' (a3.add (Int.toNat st.1 * 1)) 1 ∧ psome s.p fun a4 => 0 ≤ i2 st ∧ i2 st < ((s.n : Nat) : Int) ∧ CanPut (h'.put (a3.add (Int.toNat st.1 * 1)) [.int .u32 v]) (a4.add (Int.toNat (i2 st) * 1)) 1 ∧
        C (nx st, ()) ((h'.put (a3.add (Int.toNat st.1 * 1)) [.int .u32 v]).put (a4.add (Int.toNat (i2 st) * 1)) [.int .u32 w]))) (K hh)) (s0, ()) g := by
  refine .by (fun st g' => PS h g' s b l ∧ I st.1) (fun st _ => μ st.1) ⟨P, h0⟩ ?_
  rintro ⟨i, _⟩ g' ⟨P, hi⟩
  refine pif_split (fun hc => ?_) fun hc => HK _ P
  obtain ⟨h1, h2, h3, h4⟩ := hb i hi hc
  refine P.rd h1.1 h1.2 fun a v => P.rd h2.1 h2.2 fun a' v' => less_spec.ret ⟨_, rfl, pif_split (fun _ => HK _ P) fun _ => ?_⟩
  exact P.swp h1.1 h1.2 h2.1 h2.2 fun v w P' => ⟨⟨P', h3⟩, h4⟩
end
section
variable {h : Heap} {s : Sl} {b : Nat} {l : List Int}
theorem partial_spec (O : Own h s 23 1 encU l b) (hl : l.length < 1099511627776) {x y : Int} (hx : 0 ≤ x) (hxy : x < y) (hy : y ≤ l.length) : Spec TP 239 #[.slice s.p s.n s.c, .int .i64 x, .int .i64 y] h fun v h' => (∃ r : Bool, v = .bool r) ∧ PS h h' s b l := by
  refine f239_ok ?_
  unfold f239_sem
  rw [w64 (x := x + 1) (by omega), w64 (x := y - x) (by omega)]
  refine .by (fun st g => x + 1 ≤ st.1 ∧ st.1 ≤ y ∧ 0 ≤ st.2.1 ∧ PS h g s b l) (fun st _ => (5 - st.2.1).toNat) ⟨by dsimp only; omega, by dsimp only; omega, by simp, PS.refl O⟩ ?_
  rintro ⟨i, k, _⟩ g ⟨hi0, hi1, hk0, P⟩
  dsimp only at hi0 hi1 hk0 ⊢
  refine pif_dec (fun hk => ?_) fun hk => ⟨⟨_, rfl⟩, P⟩
  rw [w64 (x := k + 1) (by omega)]
  refine P.scan (fun i => x + 1 ≤ i ∧ i ≤ y) (fun i => (y - i).toNat) ⟨hi0, hi1⟩ (fun i hi hc => ?_) fun i hi => ?_
  · simp only [decide_eq_true_eq] at hc
    rw [w64 (x := i - 1) (by omega), w64 (x := i + 1) (by omega)]
    omega
  · dsimp only
    refine pif_split (fun h1 => ⟨⟨_, rfl⟩, P⟩) fun h1 => pif_dec (fun h2 => ⟨⟨_, rfl⟩, P⟩) fun h2 => ?_
    simp only [beq_eq_false_iff_ne] at h1
    rw [w64 (x := i - 1) (by omega), w64 (x := i - x) (by omega), w64 (x := y - i) (by omega), w64 (x := i + 1) (by omega)]
    refine P.swp (by omega) (by omega) (by omega) (by omega) fun v w P => ?_
    have fin : ∀ g, PS h g s b l → (x + 1 ≤ i ∧ i ≤ y ∧ 0 ≤ k + 1 ∧ PS h g s b l) ∧ (5 - (k + 1)).toNat < (5 - k).toNat := fun g P => ⟨⟨by omega, by omega, by omega, P⟩, by omega⟩
    have right : ∀ (i : Int), x + 1 ≤ i → i ≤ y → ∀ j : Int, (x + 1 ≤ j ∧ j < 1099511627777) → decide (j < y) = true → (0 ≤ j ∧ j < l.length) ∧ (0 ≤ wrap .i64 (j - 1) ∧ wrap .i64 (j - 1) < l.length) ∧ (x + 1 ≤ wrap .i64 (j + 1) ∧ wrap .i64 (j + 1) < 1099511627777) ∧ (y - wrap .i64 (j + 1)).toNat < (y - j).toNat := by
      intro i _ _ j hj hc
      simp only [decide_eq_true_eq] at hc
      rw [w64 (x := j - 1) (by omega), w64 (x := j + 1) (by omega)]
      omega
    refine pif_dec (fun h3 => ?_) fun h3 => ?_
    · refine P.shift (fun j => j < i) (fun j => j.toNat) (by omega) (fun j hj hc => ?_) fun g P => ?_
      · simp only [ge_iff_le, decide_eq_true_eq] at hc
        rw [w64 (x := j - 1) (by omega)]
        omega
      · refine pif_dec (fun h4 => ?_) fun h4 => fin _ P
        exact P.shift (fun j => x + 1 ≤ j ∧ j < 1099511627777) (fun j => (y - j).toNat) (by omega) (right i hi.1 hi.2) fun g P => fin _ P
    · refine pif_dec (fun h4 => ?_) fun h4 => fin _ P
      exact P.shift (fun j => x + 1 ≤ j ∧ j < 1099511627777) (fun j => (y - j).toNat) (by omega) (right i hi.1 hi.2) fun g P => fin _ P

theorem parteq_spec (O : Own h s 23 1 encU l b) (hl : l.length < 1099511627776) {x y z : Int} (hx : 0 ≤ x) (hxz : x ≤ z) (hzy : z < y) (hy : y ≤ l.length) : Spec TP 241 #[.slice s.p s.n s.c, .int .i64 x, .int .i64 y, .int .i64 z] h fun v h' => (∃ m : Int, v = .int .i64 m ∧ x < m ∧ m ≤ y) ∧ PS h h' s b l := by
  refine f241_ok ?_
  unfold f241_sem
  rw [w64 (x := x + 1) (by omega), w64 (x := y - 1) (by omega)]
  refine (PS.refl O).swp (by omega) (by omega) (by omega) (by omega) fun v w P => ?_
  refine .by (fun st g => x + 1 ≤ st.1 ∧ st.2.1 < y ∧ st.1 ≤ st.2.1 + 2 ∧ st.1 ≤ y ∧ PS h g s b l) (fun st _ => (y - st.1).toNat) ⟨by dsimp only; omega, by dsimp only; omega, by dsimp only; omega, by dsimp only; omega, P⟩ ?_
  rintro ⟨i, j, _⟩ g ⟨hi0, hi1, hi2, hi3, P⟩
  dsimp only at hi0 hi1 hi2 hi3 ⊢
  refine P.scan (fun k => i ≤ k ∧ (k ≤ i ∨ k ≤ j + 1)) (fun k => (y - k).toNat) ⟨by omega, by omega⟩ (fun k hk hc => ?_) fun k hk => ?_
  · simp only [decide_eq_true_eq] at hc
    rw [w64 (x := k + 1) (by omega)]
    omega
  · dsimp only
    refine P.scan (fun m => m ≤ j ∧ (j ≤ m ∨ k - 1 ≤ m)) (fun m => m.toNat) (by omega) (fun m hm hc => ?_) fun m hm => ?_
    · simp only [decide_eq_true_eq] at hc
      rw [w64 (x := m - 1) (by omega)]
      omega
    · dsimp only
      refine pif_dec (fun h1 => ⟨⟨_, rfl, by omega, by omega⟩, P⟩) fun h1 => P.swp (by omega) (by omega) (by omega) (by omega) fun v w P => ?_
      rw [w64 (x := k + 1) (by omega), w64 (x := m - 1) (by omega)]
      exact ⟨⟨by omega, by omega, by omega, by omega, P⟩, by omega⟩

theorem part_spec (O : Own h s 23 1 encU l b) (hl : l.length < 1099511627776) {x y z : Int} (hx : 0 ≤ x) (hxz : x ≤ z) (hzy : z < y) (hy : y ≤ l.length) : Spec TP 242 #[.slice s.p s.n s.c, .int .i64 x, .int .i64 y, .int .i64 z] h fun v h' => (∃ (m : Int) (r : Bool), v = .tuple #[.int .i64 m, .bool r] ∧ x ≤ m ∧ m < y) ∧ PS h h' s b l := by
  refine f242_ok ?_
  unfold f242_sem
  rw [w64 (x := x + 1) (by omega), w64 (x := y - 1) (by omega)]
  refine (PS.refl O).swp (by omega) (by omega) (by omega) (by omega) fun v w P => ?_
  refine P.scan (fun k => x + 1 ≤ k ∧ k ≤ y) (fun k => (y - k).toNat) ⟨by omega, by omega⟩ (fun k hk hc => ?_) fun k hk => ?_
  · simp only [decide_eq_true_eq] at hc
    rw [w64 (x := k + 1) (by omega)]
    omega
  · dsimp only
    refine P.scan (fun m => m < y ∧ k - 1 ≤ m) (fun m => m.toNat) (by omega) (fun m hm hc => ?_) fun m hm => ?_
    · simp only [decide_eq_true_eq] at hc
      rw [w64 (x := m - 1) (by omega)]
      omega
    · dsimp only
      refine pif_dec (fun h1 => P.swp (by omega) (by omega) (by omega) (by omega) fun v w P => ⟨⟨_, _, rfl, by omega, by omega⟩, P⟩) fun h1 => P.swp (by omega) (by omega) (by omega) (by omega) fun v w P => ?_
      rw [w64 (x := k + 1) (by omega), w64 (x := m - 1) (by omega)]
      refine .by (fun st g => x + 1 ≤ st.1 ∧ st.2.1 < y ∧ st.1 ≤ st.2.1 + 2 ∧ x ≤ st.2.1 ∧ PS h g s b l) (fun st _ => (y + 1 - st.1).toNat) ⟨by dsimp only; omega, by dsimp only; omega, by dsimp only; omega, by dsimp only; omega, P⟩ ?_
      rintro ⟨i, j, _⟩ g ⟨hi0, hi1, hi2, hi3, P⟩
      dsimp only at hi0 hi1 hi2 hi3 ⊢
      refine P.scan (fun k => i ≤ k ∧ (k ≤ i ∨ k ≤ j + 1)) (fun k => (y - k).toNat) ⟨by omega, by omega⟩ (fun k hk hc => ?_) fun k hk => ?_
      · simp only [decide_eq_true_eq] at hc
        rw [w64 (x := k + 1) (by omega)]
        omega
      · dsimp only
        refine P.scan (fun m => m ≤ j ∧ (j ≤ m ∨ k - 1 ≤ m)) (fun m => m.toNat) (by omega) (fun m hm hc => ?_) fun m hm => ?_
        · simp only [decide_eq_true_eq] at hc
          rw [w64 (x := m - 1) (by omega)]
          omega
        · dsimp only
          refine pif_dec (fun h1 => P.swp (by omega) (by omega) (by omega) (by omega) fun v w P => ⟨⟨_, _, rfl, by omega, by omega⟩, P⟩) fun h1 => P.swp (by omega) (by omega) (by omega) (by omega) fun v w P => ?_
          rw [w64 (x := k + 1) (by omega), w64 (x := m - 1) (by omega)]
          exact ⟨⟨by omega, by omega, by omega, by omega, P⟩, by omega⟩
end

/-! ### how many bits a number has -/
def IsLen (n r : Nat) : Prop := (n = 0 ∧ r = 0) ∨ (1 ≤ r ∧ 2 ^ (r - 1) ≤ n ∧ n < 2 ^ r)
theorem IsLen.shift {n k r : Nat} (h : IsLen (n / 2 ^ k) r) (hn : 2 ^ k ≤ n) : IsLen n (r + k) := by
  have hp := Nat.two_pow_pos k
  have h1 : 1 ≤ n / 2 ^ k := (Nat.one_le_div_iff hp).2 hn
  rcases h with ⟨h0, -⟩ | ⟨h2, h3, h4⟩
  · omega
  · right
    refine ⟨by omega, ?_, ?_⟩
    · have e : r + k - 1 = (r - 1) + k := by omega
      rw [e, Nat.pow_add]
      exact (Nat.le_div_iff_mul_le hp).1 h3
    · rw [Nat.pow_add]
      exact (Nat.div_lt_iff_lt_mul hp).1 h4
def len8B (i : Nat) : Bool := (Nat.beq i 0 && Nat.beq (len8tab.get! i).toNat 0) || (Nat.ble 1 (len8tab.get! i).toNat && Nat.ble (2 ^ ((len8tab.get! i).toNat - 1)) i && Nat.ble (i + 1) (2 ^ (len8tab.get! i).toNat))
theorem len8_all : (List.range 256).all (fun i => len8B i && Nat.ble (len8tab.get! i).toNat 8) = true := by kernel_rfl
theorem isLen_of {i z : Nat} (h : ((Nat.beq i 0 && Nat.beq z 0) || (Nat.ble 1 z && Nat.ble (2 ^ (z - 1)) i && Nat.ble (i + 1) (2 ^ z))) = true) : IsLen i z := by
  rw [Bool.or_eq_true, Bool.and_eq_true, Bool.and_eq_true, Bool.and_eq_true] at h
  rcases h with ⟨a, b⟩ | ⟨⟨a, b⟩, c⟩
  · exact .inl ⟨Nat.eq_of_beq_eq_true a, Nat.eq_of_beq_eq_true b⟩
  · exact .inr ⟨Nat.le_of_ble_eq_true a, Nat.le_of_ble_eq_true b, Nat.le_of_ble_eq_true c⟩
theorem len8 {i : Nat} (h : i < 256) : IsLen i (len8tab.get! i).toNat ∧ (len8tab.get! i).toNat ≤ 8 := by
  have h1 := List.all_eq_true.1 len8_all i (List.mem_range.2 h)
  rw [Bool.and_eq_true] at h1
  exact ⟨isLen_of h1.1, Nat.le_of_ble_eq_true h1.2⟩
theorem len8_size : len8tab.size = 256 := by kernel_rfl
theorem shr_nat {n k : Nat} (hk : k < 64) : shrI .u64 (n : Int) (k : Int) = ((n / 2 ^ k : Nat) : Int) := by
  unfold shrI
  have e : min (k : Int).toNat (IntKind.bits .u64) = k := by
    have : IntKind.bits .u64 = 64 := rfl
    rw [this]; omega
  rw [e]
  have h2 : (0 : Int) < 2 ^ k := p2_pos k
  rw [Int.fdiv_eq_ediv_of_nonneg _ (by omega)]
  push_cast
  rfl
theorem len64_spec {h : Heap} {n : Nat} (hn : n < 18446744073709551616) : Spec TP 244 #[.int .u64 n] h fun v h' => (∃ r : Nat, v = .int .i64 r ∧ IsLen n r ∧ r ≤ 64) ∧ h' = h := by
  refine f244_ok ?_
  unfold f244_sem
  rw [len8_size]
  have s32 : ∀ m : Nat, shrI .u64 (m : Int) 32 = ((m / 2 ^ 32 : Nat) : Int) := fun m => shr_nat (k := 32) (by decide)
  have s16 : ∀ m : Nat, shrI .u64 (m : Int) 16 = ((m / 2 ^ 16 : Nat) : Int) := fun m => shr_nat (k := 16) (by decide)
  have s8 : ∀ m : Nat, shrI .u64 (m : Int) 8 = ((m / 2 ^ 8 : Nat) : Int) := fun m => shr_nat (k := 8) (by decide)
  have last : ∀ (m c : Nat) (C : Int), C = c → m < 256 → c ≤ 56 → (∀ r, IsLen m r → IsLen n (r + c)) → 0 ≤ wrap .u8 (m : Int) ∧ wrap .u8 (m : Int) < ((256 : Nat) : Int) ∧
      ((∃ r : Nat, Value.int .i64 (wrap .i64 (C + wrap .i64 (((len8tab.get! (Int.toNat (wrap .u8 (m : Int)))).toNat : Nat) : Int))) = .int .i64 r ∧ IsLen n r ∧ r ≤ 64) ∧ True) := by
    intro m c C hC hm hc H
    subst hC
    rw [wu8 (x := (m : Int)) (by omega)]
    obtain ⟨h1, h2⟩ := len8 hm
    have e : ((m : Int)).toNat = m := by omega
    rw [e]
    generalize (len8tab.get! m).toNat = z at h1 h2 ⊢
    rw [w64 (x := ((z : Nat) : Int)) (by omega), w64 (by omega), show (c : Int) + (z : Int) = ((z + c : Nat) : Int) by omega]
    exact ⟨by omega, by omega, ⟨_, rfl, H _ h1, by omega⟩, trivial⟩
  simp only [s32, s16, s8]
  refine pif_dec (fun h1 => ⟨by decide, pif_dec (fun h2 => ⟨by decide, pif_dec (fun h3 => ⟨by decide, ?_⟩) fun h3 => ?_⟩) fun h2 => pif_dec (fun h3 => ⟨by decide, ?_⟩) fun h3 => ?_⟩) fun h1 => pif_dec (fun h2 => ⟨by decide, pif_dec (fun h3 => ⟨by decide, ?_⟩) fun h3 => ?_⟩) fun h2 => pif_dec (fun h3 => ⟨by decide, ?_⟩) fun h3 => ?_
  · exact last _ 56 _ (by decide) (by omega) (by omega) fun r hr => IsLen.shift (n := n) (k := 32) (IsLen.shift (n := n / 2 ^ 32) (k := 16) (IsLen.shift (n := n / 2 ^ 32 / 2 ^ 16) (k := 8) hr (by omega)) (by omega)) (by omega)
  · exact last _ 48 _ (by decide) (by omega) (by omega) fun r hr => IsLen.shift (n := n) (k := 32) (IsLen.shift (n := n / 2 ^ 32) (k := 16) hr (by omega)) (by omega)
  · exact last _ 40 _ (by decide) (by omega) (by omega) fun r hr => IsLen.shift (n := n) (k := 32) (IsLen.shift (n := n / 2 ^ 32) (k := 8) hr (by omega)) (by omega)
  · exact last _ 32 _ (by decide) (by omega) (by omega) fun r hr => IsLen.shift (n := n) (k := 32) hr (by omega)
  · exact last _ 24 _ (by decide) (by omega) (by omega) fun r hr => IsLen.shift (n := n) (k := 16) (IsLen.shift (n := n / 2 ^ 16) (k := 8) hr (by omega)) (by omega)
  · exact last _ 16 _ (by decide) (by omega) (by omega) fun r hr => IsLen.shift (n := n) (k := 16) hr (by omega)
  · exact last _ 8 _ (by decide) (by omega) (by omega) fun r hr => IsLen.shift (n := n) (k := 8) hr (by omega)
  · exact last _ 0 _ (by decide) (by omega) (by omega) fun r hr => hr
theorem blen_spec {h : Heap} {n : Nat} (hn : n < 18446744073709551616) : Spec TP 192 #[.int .u64 n] h fun v h' => (∃ r : Nat, v = .int .i64 r ∧ IsLen n r ∧ r ≤ 64) ∧ h' = h := by
  refine f192_ok ?_
  unfold f192_sem
  refine (len64_spec hn).mono ?_
  rintro v h' ⟨⟨r, rfl, h1⟩, rfl⟩
  exact ⟨_, rfl, ⟨r, rfl, h1⟩, rfl⟩
theorem shl_one {r : Nat} (h : r < 64) : shlI .u64 1 (r : Int) = ((2 ^ r : Nat) : Int) := by
  unfold shlI
  have e : min (r : Int).toNat (IntKind.bits .u64) = r := by
    have : IntKind.bits .u64 = 64 := rfl
    rw [this]; omega
  have h1 : 2 ^ r < 2 ^ 64 := Nat.pow_lt_pow_right (by decide) h
  rw [e, Int.one_mul]
  have e2 : ((2 : Int) ^ r) = ((2 ^ r : Nat) : Int) := by push_cast; rfl
  have h3 : (0 : Int) ≤ ((2 ^ r : Nat) : Int) := Int.natCast_nonneg _
  rw [e2, wu64 (by omega)]
theorem npow_spec {h : Heap} {n : Nat} (h0 : 0 < n) (hn : n < 1099511627776) : Spec TP 274 #[.int .i64 n] h fun v h' => (∃ m : Nat, v = .int .u64 m ∧ 0 < m ∧ m ≤ 2 * n) ∧ h' = h := by
  refine f274_ok ?_
  unfold f274_sem
  rw [wu64 (by omega)]
  refine (blen_spec (n := n) (by omega)).mono ?_
  rintro v h' ⟨⟨r, rfl, h1, h2⟩, rfl⟩
  rcases h1 with h1 | ⟨h3, h4, h5⟩
  · omega
  · have e : 2 ^ r = 2 * 2 ^ (r - 1) := by rw [← Nat.pow_succ']; congr 1; omega
    have hr : r < 64 := by
      rcases Nat.lt_or_ge r 64 with h | h
      · exact h
      · have : 2 ^ 63 ≤ 2 ^ (r - 1) := Nat.pow_le_pow_right (by decide) (by omega)
        omega
    refine ⟨_, rfl, by omega, ⟨2 ^ r, by rw [shl_one hr], Nat.two_pow_pos r, by omega⟩, rfl⟩

theorem next_rnd {h : Heap} {b : Nat} {x : Int} (B : Blk h b 326 [.int .u64 x]) : Spec TP 275 #[.pointer (some (adr b))] h fun v h' => (∃ y, v = .int .u64 y ∧ Blk h' b 326 [.int .u64 y]) ∧ Chg h h' fun c => c = b := by
  refine f275_ok ?_
  unfold f275_sem
  simp only [psome_some]
  have can : ∀ {g : Heap} {x : Int}, Blk g b 326 [.int .u64 x] → CanPut g (adr b) 1 := fun B => B.can (k := 0) (by simp)
  have set : ∀ {g : Heap} {x : Int} (y : Int), Blk g b 326 [.int .u64 x] → Blk (g.put (adr b) [.int .u64 y]) b 326 [.int .u64 y] := fun y B => B.set (k := 0) (.int .u64 y) (by simp)
  have chg : ∀ (g : Heap) (y : Int), Chg g (g.put (adr b) [.int .u64 y]) fun c => c = b := fun g y => setChg g b 0 [.int .u64 y]
  refine ⟨_, B.all, _, B.all, by decide, can B, ?_⟩
  generalize hz : xorI .u64 x (shlI .u64 x 13) = z
  have B1 := set z B
  refine ⟨_, B1.all, _, B1.all, by decide, can B1, ?_⟩
  generalize hz2 : xorI .u64 z (shrI .u64 z 7) = z2
  have B2 := set z2 B1
  refine ⟨_, B2.all, _, B2.all, by decide, can B2, ?_⟩
  generalize hz3 : xorI .u64 z2 (shlI .u64 z2 17) = z3
  have B3 := set z3 B2
  exact ⟨_, B3.all, ⟨_, rfl, B3⟩, ((chg _ _).trans (chg _ _) fun _ _ hc => hc).trans (chg _ _) fun _ _ hc => hc⟩

section
variable {h : Heap} {s : Sl} {b : Nat} {l : List Int}
theorem PS.chgB {h g g' : Heap} {bn : Nat} (P : PS h g s b l) (C : Chg g g' fun c => c = bn) (hn : h bn = none) (hne : bn ≠ b) : PS h g' s b l :=
  P.chg2 (C.mono fun c _ hc => by subst hc; exact ⟨hne, hn⟩)
theorem PS.ext {h g g' : Heap} (P : PS h g s b l) (E : Ext g g') : PS h g' s b l := P.chg2 (Chg.ext E)
theorem PS.live {h g : Heap} (P : PS h g s b l) : g b ≠ none := by obtain ⟨⟨l1, _, O⟩, _⟩ := P; exact O.live
theorem PS.fresh {h g : Heap} (P : PS h g s b l) {c : Nat} (hc : g c = none) : h c = none ∧ c ≠ b := by
  have hne : c ≠ b := fun he => P.live (by rw [← he]; exact hc)
  refine ⟨?_, hne⟩
  cases hh : h c with
  | none => rfl
  | some o => rw [P.chg c o hh hne] at hc; cases hc

theorem break_spec (O : Own h s 23 1 encU l b) (hl : l.length < 1099511627776) {x y : Int} (hx : 0 ≤ x) (hxy : x ≤ y) (hy : y ≤ l.length) : Spec TP 236 #[.slice s.p s.n s.c, .int .i64 x, .int .i64 y] h (Done h s b l) := by
  refine f236_ok ?_
  unfold f236_sem
  rw [w64 (x := y - x) (by omega)]
  refine pif_dec (fun hc => ?_) fun hc => ⟨rfl, PS.refl O⟩
  intro bn hbn
  have P0 := PS.refl O
  have hf := P0.fresh hbn
  have B0 := Blk.new h bn 326 [.int .u64 0]
  have P1 := P0.ext (Ext.new (.cells #[.int .u64 0] 326 (0, 0)) hbn)
  refine ⟨B0.can (k := 0) (by simp), ?_⟩
  rw [wu64 (x := y - x) (by omega)]
  have B1 : Blk ((h.new bn (.cells #[.int .u64 0] 326)).put (adr bn) [.int .u64 (y - x)]) bn 326 [.int .u64 (y - x)] := B0.set (k := 0) (.int .u64 (y - x)) (by simp)
  have P2 : PS h ((h.new bn (.cells #[.int .u64 0] 326)).put (adr bn) [.int .u64 (y - x)]) s b l := P1.chgB (setChg _ bn 0 [.int .u64 (y - x)]) hf.1 hf.2
  generalize (h.new bn (.cells #[.int .u64 0] 326)).put (adr bn) [.int .u64 (y - x)] = g1 at B1 P2 ⊢
  have hyx : y - x = ((y - x).toNat : Int) := by omega
  rw [hyx]
  refine (npow_spec (n := (y - x).toNat) (by omega) (by omega)).mono ?_
  rintro v g ⟨⟨m, rfl, hm0, hm1⟩, rfl⟩
  rw [← hyx]
  have e4 : Int.tdiv (y - x) 4 = (y - x) / 4 := Int.tdiv_eq_ediv_of_nonneg (by omega)
  refine ⟨_, rfl, by decide, ?_⟩
  rw [e4, w64 (x := (y - x) / 4) (by omega), w64 (x := (y - x) / 4 * 2) (by omega), w64 (x := x + (y - x) / 4 * 2) (by omega), w64 (x := x + (y - x) / 4 * 2 - 1) (by omega), w64 (x := x + (y - x) / 4 * 2 + 1) (by omega), wu64 (x := (m : Int) - 1) (by omega)]
  refine .by (fun st g => x ≤ st.1 ∧ PS h g s b l ∧ ∃ z, Blk g bn 326 [.int .u64 z]) (fun st _ => (x + (y - x) / 4 * 2 + 2 - st.1).toNat) ⟨by dsimp only; omega, P2, _, B1⟩ ?_
  rintro ⟨i, _⟩ g ⟨hi, P, z, B⟩
  dsimp only at hi ⊢
  refine ⟨by decide, pif_dec (fun hc => ?_) fun hc => ⟨rfl, P⟩⟩
  refine (next_rnd B).mono ?_
  rintro v g' ⟨⟨q, rfl, B'⟩, C⟩
  have P' := P.chgB C hf.1 hf.2
  refine ⟨_, rfl, ?_⟩
  have hmc : ((m : Int) - 1) = ((m - 1 : Nat) : Int) := by omega
  rw [hmc]
  obtain ⟨k, hk1, hk2⟩ := and64_nat (x := q) (m := m - 1) (by omega)
  rw [hk1, w64 (x := (k : Int)) (by omega), w64 (x := i + 1) (by omega)]
  refine pif_dec (fun h1 => ?_) fun h1 => ?_
  · rw [w64 (x := (k : Int) - (y - x)) (by omega), w64 (x := x + ((k : Int) - (y - x))) (by omega)]
    exact P'.swp (by omega) (by omega) (by omega) (by omega) fun v w P => ⟨⟨by omega, P, q, (B'.chg (setChg _ _ _ _) hf.2).chg (setChg _ _ _ _) hf.2⟩, by omega⟩
  · rw [w64 (x := x + (k : Int)) (by omega)]
    exact P'.swp (by omega) (by omega) (by omega) (by omega) fun v w P => ⟨⟨by omega, P, q, (B'.chg (setChg _ _ _ _) hf.2).chg (setChg _ _ _ _) hf.2⟩, by omega⟩

theorem order2_spec {bn : Nat} {z : Int} (O : Own h s 23 1 encU l b) (B : Blk h bn 3 [.int .i64 z]) {x y : Int} (hx : 0 ≤ x ∧ x < l.length) (hy : 0 ≤ y ∧ y < l.length) :
    Spec TP 286 #[.slice s.p s.n s.c, .int .i64 x, .int .i64 y, .pointer (some (adr bn))] h fun v h' => (∃ p q, v = .tuple #[.int .i64 p, .int .i64 q] ∧ (p = x ∧ q = y ∨ p = y ∧ q = x)) ∧ (∃ z, Blk h' bn 3 [.int .i64 z]) ∧ Chg h h' fun c => c = bn := by
  refine f286_ok ?_
  unfold f286_sem
  have P := PS.refl O
  refine P.rd hy.1 hy.2 fun a v => P.rd hx.1 hx.2 fun a' v' => less_spec.ret ⟨_, rfl, pif_split (fun _ => ?_) fun _ => ⟨⟨_, _, rfl, .inl ⟨rfl, rfl⟩⟩, ⟨_, B⟩, Chg.refl _ _⟩⟩
  simp only [psome_some]
  have B1 : Blk (h.put (adr bn) [.int .i64 (wrap .i64 (z + 1))]) bn 3 [.int .i64 (wrap .i64 (z + 1))] := B.set (k := 0) (.int .i64 (wrap .i64 (z + 1))) (by simp)
  exact ⟨_, B.all, B.can (k := 0) (by simp), ⟨_, _, rfl, .inr ⟨rfl, rfl⟩⟩, ⟨_, B1⟩, setChg h bn 0 [.int .i64 (wrap .i64 (z + 1))]⟩

theorem median_spec {bn : Nat} {z : Int} (O : Own h s 23 1 encU l b) (B : Blk h bn 3 [.int .i64 z]) (hne : b ≠ bn) {x y w : Int} (hx : 0 ≤ x ∧ x < l.length) (hy : 0 ≤ y ∧ y < l.length) (hw : 0 ≤ w ∧ w < l.length) :
    Spec TP 277 #[.slice s.p s.n s.c, .int .i64 x, .int .i64 y, .int .i64 w, .pointer (some (adr bn))] h fun v h' => (∃ p, v = .int .i64 p ∧ (p = x ∨ p = y ∨ p = w)) ∧ (∃ z, Blk h' bn 3 [.int .i64 z]) ∧ Chg h h' fun c => c = bn := by
  refine f277_ok ?_
  unfold f277_sem
  refine (order2_spec O B hx hy).mono ?_
  rintro v h1 ⟨⟨p1, q1, rfl, e1⟩, ⟨z1, B1⟩, C1⟩
  have O1 := O.chg C1 hne
  refine ⟨_, _, rfl, (order2_spec O1 B1 (x := q1) (y := w) (by rcases e1 with ⟨rfl, rfl⟩ | ⟨rfl, rfl⟩ <;> assumption) hw).mono ?_⟩
  rintro v h2 ⟨⟨p2, q2, rfl, e2⟩, ⟨z2, B2⟩, C2⟩
  have O2 := O1.chg C2 hne
  refine ⟨_, _, rfl, (order2_spec O2 B2 (x := p1) (y := p2) (by rcases e1 with ⟨rfl, rfl⟩ | ⟨rfl, rfl⟩ <;> assumption) (by rcases e2 with ⟨rfl, rfl⟩ | ⟨rfl, rfl⟩ <;> rcases e1 with ⟨rfl, rfl⟩ | ⟨rfl, rfl⟩ <;> assumption)).mono ?_⟩
  rintro v h3 ⟨⟨p3, q3, rfl, e3⟩, B3, C3⟩
  exact ⟨_, _, rfl, ⟨_, rfl, by omega⟩, B3, (C1.trans C2 fun _ _ hc => hc).trans C3 fun _ _ hc => hc⟩

theorem medadj_spec {bn : Nat} {z : Int} (O : Own h s 23 1 encU l b) (B : Blk h bn 3 [.int .i64 z]) (hne : b ≠ bn) (hl : l.length < 1099511627776) {x : Int} (hx : 1 ≤ x ∧ x + 1 < l.length) :
    Spec TP 276 #[.slice s.p s.n s.c, .int .i64 x, .pointer (some (adr bn))] h fun v h' => (∃ p, v = .int .i64 p ∧ x - 1 ≤ p ∧ p ≤ x + 1) ∧ (∃ z, Blk h' bn 3 [.int .i64 z]) ∧ Chg h h' fun c => c = bn := by
  refine f276_ok ?_
  unfold f276_sem
  rw [w64 (x := x - 1) (by omega), w64 (x := x + 1) (by omega)]
  refine (median_spec O B hne (by omega) (by omega) (by omega)).mono ?_
  rintro v h1 ⟨⟨p, rfl, e⟩, B1, C1⟩
  exact ⟨_, rfl, ⟨_, rfl, by omega, by omega⟩, B1, C1⟩

theorem choose_spec (O : Own h s 23 1 encU l b) (hl : l.length < 1099511627776) {x y : Int} (hx : 0 ≤ x) (hxy : x + 8 ≤ y) (hy : y ≤ l.length) :
    Spec TP 237 #[.slice s.p s.n s.c, .int .i64 x, .int .i64 y] h fun v h' => (∃ p q, v = .tuple #[.int .i64 p, .int .i64 q] ∧ x ≤ p ∧ p < y) ∧ h' = h := by
  refine Spec.pure (f237_ok ?_)
  unfold f237_sem
  intro bn hbn
  have hf := (PS.refl O).fresh hbn
  have B0 := Blk.new h bn 3 [.int .i64 0]
  have E0 : Ext h (h.new bn (.cells #[.int .i64 0] 3)) := Ext.new _ hbn
  have O0 := O.ext E0
  change Blk (h.new bn (.cells #[.int .i64 0] 3)) _ _ _ at B0
  generalize h.new bn (.cells #[.int .i64 0] 3) = g0 at B0 E0 O0 ⊢
  refine ⟨by decide, by decide, by decide, ?_⟩
  have e4 : Int.tdiv (y - x) 4 = (y - x) / 4 := Int.tdiv_eq_ediv_of_nonneg (by omega)
  rw [w64 (x := y - x) (by omega), e4, w64 (x := (y - x) / 4) (by omega), w64 (x := (y - x) / 4 * 1) (by omega), w64 (x := (y - x) / 4 * 2) (by omega), w64 (x := (y - x) / 4 * 3) (by omega), w64 (x := x + (y - x) / 4 * 1) (by omega), w64 (x := x + (y - x) / 4 * 2) (by omega), w64 (x := x + (y - x) / 4 * 3) (by omega)]
  have fin : ∀ (p : Int) (g : Heap), x ≤ p → p < y → (∃ z, Blk g bn 3 [.int .i64 z]) → Chg g0 g (fun c => c = bn) → ∃ v49 : Int, Has g (adr bn) [.int .i64 v49] ∧ pif (v49 == 0) ((∃ p' q, Value.tuple #[.int .i64 p, .int .i64 1] = .tuple #[.int .i64 p', .int .i64 q] ∧ x ≤ p' ∧ p' < y) ∧ Ext h g) (pif (v49 == 12) ((∃ p' q, Value.tuple #[.int .i64 p, .int .i64 2] = .tuple #[.int .i64 p', .int .i64 q] ∧ x ≤ p' ∧ p' < y) ∧ Ext h g) ((∃ p' q, Value.tuple #[.int .i64 p, .int .i64 0] = .tuple #[.int .i64 p', .int .i64 q] ∧ x ≤ p' ∧ p' < y) ∧ Ext h g)) := by
    rintro p g h1 h2 ⟨z, B⟩ C
    have E : Ext h g := C.extR E0 fun c hc => by rw [hc]; exact hbn
    exact ⟨_, B.all, pif_split (fun _ => ⟨⟨_, _, rfl, h1, h2⟩, E⟩) fun _ => pif_split (fun _ => ⟨⟨_, _, rfl, h1, h2⟩, E⟩) fun _ => ⟨⟨_, _, rfl, h1, h2⟩, E⟩⟩
  refine pif_dec (fun h8 => pif_dec (fun h50 => ?_) fun h50 => ?_) fun h8 => by omega
  · refine (medadj_spec O0 B0 (Ne.symm hf.2) hl (by omega)).mono ?_
    rintro v g1 ⟨⟨p1, rfl, a1, a2⟩, ⟨z1, B1⟩, C1⟩
    have O1 := O0.chg C1 (Ne.symm hf.2)
    refine ⟨_, rfl, (medadj_spec O1 B1 (Ne.symm hf.2) hl (by omega)).mono ?_⟩
    rintro v g2 ⟨⟨p2, rfl, a3, a4⟩, ⟨z2, B2⟩, C2⟩
    have O2 := O1.chg C2 (Ne.symm hf.2)
    refine ⟨_, rfl, (medadj_spec O2 B2 (Ne.symm hf.2) hl (by omega)).mono ?_⟩
    rintro v g3 ⟨⟨p3, rfl, a5, a6⟩, ⟨z3, B3⟩, C3⟩
    have O3 := O2.chg C3 (Ne.symm hf.2)
    refine ⟨_, rfl, (median_spec O3 B3 (Ne.symm hf.2) (by omega) (by omega) (by omega)).mono ?_⟩
    rintro v g4 ⟨⟨p4, rfl, a7⟩, B4, C4⟩
    exact ⟨_, rfl, fin _ _ (by omega) (by omega) B4 (((C1.trans C2 fun _ _ hc => hc).trans C3 fun _ _ hc => hc).trans C4 fun _ _ hc => hc)⟩
  · refine (median_spec O0 B0 (Ne.symm hf.2) (by omega) (by omega) (by omega)).mono ?_
    rintro v g4 ⟨⟨p4, rfl, a7⟩, B4, C4⟩
    exact ⟨_, rfl, fin _ _ (by omega) (by omega) B4 C4⟩

abbrev PSt : Type := Int × Int × Int × Bool × Bool × Unit
def pdqT2 (s : Sl) (x y p lim : Int) (C : PSt → Heap → Prop) (g : Heap) : Prop :=
  Spec TP 242 #[.slice s.p s.n s.c, .int .i64 x, .int .i64 y, .int .i64 p] g fun r99 h99 => ∃ a : Int, ∃ q : Bool, r99 = .tuple #[.int .i64 a, .bool q] ∧ (8 : Int) ≠ 0 ∧ pif (decide (wrap .i64 (a - x) < wrap .i64 (y - a)))
    (Spec TP 191 #[.slice s.p s.n s.c, .int .i64 x, .int .i64 a, .int .i64 lim] h99 fun r121 h121 => r121 = .tuple #[] ∧ C (wrap .i64 (a + 1), y, lim, decide (wrap .i64 (a - x) ≥ wrap .i64 (Int.tdiv (wrap .i64 (y - x)) 8)), q, ()) h121)
    (Spec TP 191 #[.slice s.p s.n s.c, .int .i64 (wrap .i64 (a + 1)), .int .i64 y, .int .i64 lim] h99 fun r132 h132 => r132 = .tuple #[] ∧ C (x, a, lim, decide (wrap .i64 (y - a) ≥ wrap .i64 (Int.tdiv (wrap .i64 (y - x)) 8)), q, ()) h132)
def pdqT (s : Sl) (x y p lim : Int) (wb wp : Bool) (C : PSt → Heap → Prop) (g : Heap) : Prop :=
  pif (decide (x > 0)) (psome s.p fun a79 => 0 ≤ wrap .i64 (x - 1) ∧ wrap .i64 (x - 1) < ((s.n : Nat) : Int) ∧ ∃ v80 : Int, Has g (a79.add (Int.toNat (wrap .i64 (x - 1)) * 1)) [.int .u32 v80] ∧ psome s.p fun a83 => 0 ≤ p ∧ p < ((s.n : Nat) : Int) ∧ ∃ v84 : Int, Has g (a83.add (Int.toNat p * 1)) [.int .u32 v84] ∧
    Spec TP 240 #[.int .u32 v80, .int .u32 v84] g fun r85 h85 => ∃ x85 : Bool, r85 = .bool x85 ∧ pif (!x85) (Spec TP 241 #[.slice s.p s.n s.c, .int .i64 x, .int .i64 y, .int .i64 p] h85 fun r92 h92 => ∃ x92 : Int, r92 = .int .i64 x92 ∧ C (x92, y, lim, wb, wp, ()) h92) (pdqT2 s x y p lim C h85)) (pdqT2 s x y p lim C g)
def pdqF (s : Sl) (x y p lim hint : Int) (wb wp : Bool) (C : PSt → Heap → Prop) (R : Value → Heap → Prop) (g : Heap) : Prop :=
  pif wb (pif wp (pif (hint == 1) (Spec TP 239 #[.slice s.p s.n s.c, .int .i64 x, .int .i64 y] g fun r72 h72 => ∃ x72 : Bool, r72 = .bool x72 ∧ pif x72 (R (.tuple #[]) h72) (pdqT s x y p lim wb wp C h72)) (pdqT s x y p lim wb wp C g)) (pdqT s x y p lim wb wp C g)) (pdqT s x y p lim wb wp C g)
def pdqP (s : Sl) (x y lim : Int) (wb wp : Bool) (C : PSt → Heap → Prop) (R : Value → Heap → Prop) (g : Heap) : Prop :=
  Spec TP 237 #[.slice s.p s.n s.c, .int .i64 x, .int .i64 y] g fun r46 h46 => ∃ x46a : Int, ∃ x46b : Int, r46 = .tuple #[.int .i64 x46a, .int .i64 x46b] ∧ pif (x46b == 2) (Spec TP 238 #[.slice s.p s.n s.c, .int .i64 x, .int .i64 y] h46 fun r54 h54 => r54 = .tuple #[] ∧ pdqF s x y (wrap .i64 (wrap .i64 (y - 1) - wrap .i64 (x46a - x))) lim 1 wb wp C R h54) (pdqF s x y x46a lim x46b wb wp C R h46)

theorem pdq_tail {C : PSt → Heap → Prop} {R : Value → Heap → Prop} {h0 : Heap} {k : Nat} {x y lim : Int} {wb wp : Bool} (hl : l.length < 1099511627776) (hx : 0 ≤ x) (hxy : x + 12 < y) (hy : y ≤ l.length) (hk : (y - x).toNat ≤ k)
    (IH : ∀ (h : Heap) (l' : List Int) (x y lim : Int), l'.length = l.length → Own h s 23 1 encU l' b → 0 ≤ x → x ≤ y → y ≤ l.length → (y - x).toNat < k → Spec TP 191 #[.slice s.p s.n s.c, .int .i64 x, .int .i64 y, .int .i64 lim] h (Done h s b l'))
    (HC : ∀ (x' y' lim' : Int) (wb' wp' : Bool) (g : Heap), 0 ≤ x' → x' ≤ y' → y' ≤ l.length → y' - x' < y - x → PS h0 g s b l → C (x', y', lim', wb', wp', ()) g) (HR : ∀ g, PS h0 g s b l → R (.tuple #[]) g) {g : Heap} (P : PS h0 g s b l) :
    pdqP s x y lim wb wp C R g := by
  have T2 : ∀ (p : Int) (g : Heap), x ≤ p → p < y → PS h0 g s b l → pdqT2 s x y p lim C g := by
    intro p g hp0 hp1 P
    refine P.call (fun l' hl' O' => part_spec O' (by omega) hx hp0 hp1 (by omega)) ?_
    rintro v g1 ⟨a, q, rfl, ha0, ha1⟩ P1
    refine ⟨_, _, rfl, by decide, ?_⟩
    rw [w64 (x := a - x) (by omega), w64 (x := y - a) (by omega), w64 (x := a + 1) (by omega)]
    refine pif_dec (fun hc => ?_) fun hc => ?_
    · exact P1.call (fun l' hl' O' => IH _ _ _ _ _ hl' O' (by omega) (by omega) (by omega) (by omega)) fun v g2 hv P2 => ⟨hv, HC _ _ _ _ _ _ (by omega) (by omega) (by omega) (by omega) P2⟩
    · exact P1.call (fun l' hl' O' => IH _ _ _ _ _ hl' O' (by omega) (by omega) (by omega) (by omega)) fun v g2 hv P2 => ⟨hv, HC _ _ _ _ _ _ (by omega) (by omega) (by omega) (by omega) P2⟩
  have T : ∀ (p : Int) (g : Heap), x ≤ p → p < y → PS h0 g s b l → pdqT s x y p lim wb wp C g := by
    intro p g hp0 hp1 P
    unfold pdqT
    rw [w64 (x := x - 1) (by omega)]
    refine pif_dec (fun hc => ?_) fun hc => T2 p g hp0 hp1 P
    refine P.rd (by omega) (by omega) fun a v => P.rd (by omega) (by omega) fun a' v' => less_spec.ret ⟨_, rfl, pif_split (fun _ => ?_) fun _ => T2 p g hp0 hp1 P⟩
    refine P.call (fun l' hl' O' => parteq_spec O' (by omega) hx hp0 hp1 (by omega)) ?_
    rintro v g1 ⟨m, rfl, hm0, hm1⟩ P1
    exact ⟨_, rfl, HC _ _ _ _ _ _ (by omega) (by omega) (by omega) (by omega) P1⟩
  have F : ∀ (p hint : Int) (g : Heap), x ≤ p → p < y → PS h0 g s b l → pdqF s x y p lim hint wb wp C R g := by
    intro p hint g hp0 hp1 P
    refine pif_split (fun _ => pif_split (fun _ => pif_split (fun _ => ?_) fun _ => T p g hp0 hp1 P) fun _ => T p g hp0 hp1 P) fun _ => T p g hp0 hp1 P
    refine P.call (fun l' hl' O' => partial_spec O' (by omega) hx (by omega) (by omega)) ?_
    rintro v g1 ⟨r, rfl⟩ P1
    exact ⟨_, rfl, pif_split (fun _ => HR _ P1) fun _ => T p g1 hp0 hp1 P1⟩
  have P' := P
  obtain ⟨⟨l1, p1, O1⟩, C1⟩ := P'
  have hl1 := p1.length_eq
  refine (choose_spec O1 (by omega) hx (by omega) (by omega)).mono ?_
  rintro v g1 ⟨⟨p, q, rfl, hp0, hp1⟩, rfl⟩
  refine ⟨_, _, rfl, pif_split (fun _ => ?_) fun _ => F p q g1 hp0 hp1 P⟩
  refine P.call (fun l' hl' O' => reverse_spec O' (by omega) hx (by omega) (by omega)) ?_
  rintro v g2 rfl P2
  refine ⟨rfl, ?_⟩
  rw [w64 (x := y - 1) (by omega), w64 (x := p - x) (by omega), w64 (x := y - 1 - (p - x)) (by omega)]
  exact F _ _ g2 (by omega) (by omega) P2

theorem pdq_spec (hl : l.length < 1099511627776) : ∀ (k : Nat) (h : Heap) (l' : List Int) (x y lim : Int), l'.length = l.length → Own h s 23 1 encU l' b → 0 ≤ x → x ≤ y → y ≤ l.length → (y - x).toNat < k → Spec TP 191 #[.slice s.p s.n s.c, .int .i64 x, .int .i64 y, .int .i64 lim] h (Done h s b l') := by
  intro k
  induction k with
  | zero => intro h l' x y lim _ _ _ _ _ hk; omega
  | succ k ih =>
    intro h l1 x y lim hl1 O hx hxy hy hk
    refine f191_ok ?_
    unfold f191_sem
    refine .by (fun st g => 0 ≤ st.1 ∧ st.1 ≤ st.2.1 ∧ st.2.1 ≤ l1.length ∧ (st.2.1 - st.1).toNat ≤ k ∧ PS h g s b l1) (fun st _ => (st.2.1 - st.1).toNat) ⟨hx, hxy, by dsimp only; omega, by dsimp only; omega, PS.refl O⟩ ?_
    rintro ⟨x, y, lim, wb, wp, _⟩ g ⟨hx, hxy, hy, hk, P⟩
    dsimp only at hx hxy hy hk ⊢
    rw [w64 (x := y - x) (by omega)]
    refine pif_dec (fun hc => ?_) fun hc => pif_split (fun _ => ?_) fun _ => ?_
    · exact P.call (fun l' hl' O' => inssort_spec O' (by omega) hx (by omega) (by omega)) fun v g1 hv P1 => ⟨hv, rfl, P1⟩
    · exact P.call (fun l' hl' O' => heapsort_spec O' (by omega) hx (by omega) (by omega)) fun v g1 hv P1 => ⟨hv, rfl, P1⟩
    · have fin := fun (lim : Int) (g : Heap) (P : PS h g s b l1) => pdq_tail (s := s) (b := b) (l := l1) (h0 := h) (k := k) (x := x) (y := y) (lim := lim) (wb := wb) (wp := wp) (R := fun v h' => Done h s b l1 v h')
        (C := fun st' g' => (0 ≤ st'.1 ∧ st'.1 ≤ st'.2.1 ∧ st'.2.1 ≤ l1.length ∧ (st'.2.1 - st'.1).toNat ≤ k ∧ PS h g' s b l1) ∧ (st'.2.1 - st'.1).toNat < (y - x).toNat)
        (by omega) hx (by omega) hy hk (fun h l' x y lim hl' O' h1 h2 h3 h4 => ih h l' x y lim (by omega) O' h1 h2 (by omega) h4) (fun x' y' lim' wb' wp' g h1 h2 h3 h4 P => ⟨⟨h1, h2, h3, by dsimp only; omega, P⟩, by dsimp only; omega⟩) (fun g P => ⟨rfl, P⟩) (g := g) P
      refine pif_split (fun _ => ?_) fun _ => ?_
      · refine P.call (fun l' hl' O' => break_spec O' (by omega) hx (by omega) (by omega)) fun v g1 hv P1 => ⟨hv, ?_⟩
        have := fin (wrap .i64 (lim - 1)) g1 P1
        unfold pdqP pdqF pdqT pdqT2 at this
        rw [w64 (x := y - x) (by omega)] at this
        exact this
      · have := fin lim g P
        unfold pdqP pdqF pdqT pdqT2 at this
        rw [w64 (x := y - x) (by omega)] at this
        exact this

/-- slices.Sort: a permutation -/
theorem sort_spec (O : Own h s 23 1 encU l b) (hl : l.length < 1099511627776) : Spec TP 134 #[.slice s.p s.n s.c] h (Done h s b l) := by
  refine f134_ok ?_
  unfold f134_sem
  have hn := O.n
  rw [wu64 (by omega)]
  refine (blen_spec (n := s.n) (by omega)).mono ?_
  rintro v h' ⟨⟨r, rfl, -⟩, rfl⟩
  refine ⟨_, rfl, (pdq_spec (l := l) hl (s.n + 1) h' l 0 s.n r rfl O (by omega) (by omega) (by omega) (by omega)).mono ?_⟩
  rintro v h2 ⟨rfl, P⟩
  exact ⟨rfl, rfl, P⟩
end
end Go.Proofs.YtbeapoopomlgaaaGreat.Sx
