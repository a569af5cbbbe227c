/- The statement MeterRules' function: it returns true, and changes nothing. -/
import Derived.Test.YtbeapoopomlgaaaGreatDh
import Derived.Test.YtbeapoopomlgaaaGreatPb
namespace Go.Proofs.YtbeapoopomlgaaaGreat.Sx
open Go Go.Proofs
open Go.IntKind (wrap)

/-! ### plain sums -/
theorem wsum_two : ∀ (m : Nat) (g g' : List Bool → Bool), wsum 1 (fun b => g b && g' b) m + wsum 1 (fun b => g b || g' b) m = wsum 1 g m + wsum 1 g' m
  | 0, g, g' => by
    by_cases h1 : g [] = true <;> by_cases h2 : g' [] = true <;> simp [wsum, h1, h2]
  | m + 1, g, g' => by
    simp only [wsum]
    have h1 := wsum_two m (fun r => g (false :: r)) fun r => g' (false :: r)
    have h2 := wsum_two m (fun r => g (true :: r)) fun r => g' (true :: r)
    omega
theorem wsum_not : ∀ (m : Nat) (g : List Bool → Bool), wsum 1 g m + wsum 1 (fun b => !g b) m = 2 ^ m
  | 0, g => by
    by_cases h1 : g [] = true <;> simp [wsum, h1]
  | m + 1, g => by
    simp only [wsum]
    have h1 := wsum_not m fun r => g (false :: r)
    have h2 := wsum_not m fun r => g (true :: r)
    rw [Nat.pow_succ]
    omega
def sumN (F : Nat → Nat) : Nat → Nat
  | 0 => 0
  | k + 1 => sumN F k + F k
theorem sumN_front : ∀ (m : Nat) (F : Nat → Nat), sumN F (m + 1) = F 0 + sumN (fun k => F (k + 1)) m
  | 0, F => by simp [sumN]
  | m + 1, F => by
    have := sumN_front m F
    show sumN F (m + 1) + F (m + 1) = F 0 + (sumN (fun k => F (k + 1)) m + F (m + 1))
    omega
theorem poly_one : ∀ (m : Nat) (F : Nat → Nat), polyE 1 F m = sumN F m
  | 0, _ => rfl
  | m + 1, F => by
    rw [sumN_front]
    simp only [polyE]
    rw [poly_one m]; omega
theorem sumN_le (F : Nat → Nat) : ∀ {k m : Nat}, k ≤ m → sumN F k ≤ sumN F m := by
  intro k m h
  induction m with
  | zero => have : k = 0 := by omega
            subst this; exact Nat.le_refl _
  | succ m ih =>
    rcases Nat.lt_or_ge k (m + 1) with h1 | h1
    · have := ih (by omega)
      show _ ≤ sumN F m + F m
      omega
    · have : k = m + 1 := by omega
      subst this; exact Nat.le_refl _
theorem sum_ones {g : List Bool → Bool} {n : Nat} (hn : n ≤ 16) : ∀ k, k ≤ n + 1 → sumI (onesL (wsum 1048576 g n) (n + 1)) k = (sumN (cntK g n) k : Nat)
  | 0, _ => rfl
  | k + 1, h => by
    have ih := sum_ones (g := g) hn k (by omega)
    have hp : 2 ^ n ≤ 2 ^ 16 := Nat.pow_le_pow_right (by decide) hn
    have e1 : (onesL (wsum 1048576 g n) (n + 1))[k]? = some ((cntK g n k : Nat) : Int) := by
      unfold onesL
      rw [List.getElem?_map, List.getElem?_range (by omega)]
      show some _ = _
      have d := polyE_digit (c := 1048576) (by decide) k (n + 1) (cntK g n) (fun j => by have := cntK_le n j g; omega) (by omega)
      rw [wsum_poly]
      dsimp only
      rw [d]
    show sumI _ k + ((onesL (wsum 1048576 g n) (n + 1))[k]?).getD 0 = ((sumN (cntK g n) k + cntK g n k : Nat) : Int)
    rw [ih, e1]
    show _ + ((cntK g n k : Nat) : Int) = _
    omega
theorem countP_two {α : Type} {p q r : α → Bool} : ∀ {M : List α}, (∀ x ∈ M, (if p x then 1 else 0) + (if q x then 1 else 0) = if r x then 1 else 0) → M.countP p + M.countP q = M.countP r
  | [], _ => rfl
  | x :: M, h => by
    have ih := countP_two (M := M) fun y hy => h y (by simp [hy])
    have hx := h x (by simp)
    rw [List.countP_cons, List.countP_cons, List.countP_cons]
    omega
def topLt (get : Int → Option Rec) (k : Nat) (x : Int) : Bool := match get x with
  | some r => decide (r.tp < (k : Int))
  | none => false
theorem sum_prof {get : Int → Option Rec} {n : Nat} {M : List Int} (h0 : ∀ x ∈ M, ∃ r, get x = some r ∧ 0 ≤ r.tp) : ∀ k, k ≤ n → sumI (profL get n M) k = (M.countP (topLt get k) : Nat)
  | 0, _ => by
    have : M.countP (topLt get 0) = 0 := by
      rw [List.countP_eq_zero]
      intro x hx
      obtain ⟨r, hr, h1⟩ := h0 x hx
      unfold topLt
      rw [hr]
      simp; omega
    rw [this]; rfl
  | k + 1, h => by
    have ih := sum_prof (n := n) h0 k (by omega)
    show sumI _ k + ((profL get n M)[k]?).getD 0 = _
    rw [ih, prof_get (by omega)]
    have e := countP_two (M := M) (p := topLt get k) (q := topIs get k) (r := topLt get (k + 1)) fun x hx => by
      obtain ⟨r, hr, h1⟩ := h0 x hx
      unfold topLt topIs
      rw [hr]
      simp only [decide_eq_true_eq, beq_iff_eq]
      split <;> split <;> split <;> omega
    show ((M.countP (topLt get k) : Nat) : Int) + ((M.countP (topIs get k) : Nat) : Int) = _
    omega

theorem and_op (x y : Bool) : opB 192 x y false = (x && y) := by cases x <;> cases y <;> kernel_rfl
theorem or_op (x y : Bool) : opB 252 x y false = (x || y) := by cases x <;> cases y <;> kernel_rfl
theorem not_op (x : Bool) : opB 15 x x false = !x := by cases x <;> kernel_rfl
theorem w8 : wideP 8 8 = 192 := by kernel_rfl
theorem w14 : wideP 14 8 = 252 := by kernel_rfl
theorem w3 : wideP 3 8 = 15 := by kernel_rfl
theorem odd15 : andI .u8 15 1 = 1 := by kernel_rfl
theorem noF {h g : Heap} {S : Nat → Prop} (hS : ∀ c, S c → h c = none) (E : Ext h g) : ∀ c, Fp g S c → h c = none := fun c hc => hc.elim (hS c) fun q => E.fresh q

theorem meterRules_spec {h : Heap} {n f a c : Int} : Spec TP 8 #[.int .i64 n, .int .u8 f, .int .u64 a, .int .u64 c] h fun v h' => v = .bool true ∧ Ext h h' := by
  refine f8_ok ?_
  unfold f8_sem
  refine alive_spec.ret ⟨_, rfl, pif_f rfl (pif_dec (fun _ => ⟨rfl, Ext.refl _⟩) fun hn0 => pif_dec (fun _ => ⟨rfl, Ext.refl _⟩) fun hn6 => pif_dec (fun _ => ⟨rfl, Ext.refl _⟩) fun hf1 => pif_dec (fun _ => ⟨rfl, Ext.refl _⟩) fun hf5 => ?_)⟩
  have hf : formB f := by unfold formB; omega
  have hv : varsB n := by unfold varsB; omega
  have hN : n.toNat ≤ 6 := by omega
  have hp : 2 ^ n.toNat ≤ 2 ^ 6 := Nat.pow_le_pow_right (by decide) hN
  have hc1 : cost n.toNat ≤ 252 := by unfold cost; omega
  have hc2 : costM n.toNat ≤ 63 := by unfold costM; omega
  have hc0 := cost_pos n.toNat
  have hcM := costM_pos n.toNat
  refine (engine_spec (n := n) (room := 1500) (by omega) (by omega) (by decide) (by decide)).mono ?_
  rintro v g0 ⟨o, b, bc, bl, L, S, rfl, E0, X0, hS0, ho, hbc, hbl⟩
  refine ⟨_, _, _, rfl, pif_f rfl ?_⟩
  -- the first one
  refine (bits_spec (a := a) (by omega) (by omega)).mono ?_
  rintro v g1 ⟨t1, l1, rfl, T1, hl1, hcap1, hfr1, X1⟩
  have E1 := E0.ext X1
  refine ⟨t1, rfl, (made_spec hf n.toNat (l := 0) E1.st E1.live T1 hl1 hcap1 (fun q hq hS => (hS0 _ hS).2 (hfr1 q hq)) (by omega) (by omega) (by show (0 : Int) + _ ≤ 1500; omega)).mono ?_⟩
  rintro v g2 ⟨x, A2, rfl, St2, C2, G2, ox, lx⟩
  have R2 := E1.step St2 C2 G2
  have E2 := R2.eng.cut
  have X01 := X0.trans X1
  have hS1 : ∀ c, S c → h c = none := fun c hc => (hS0 c hc).1
  have X2 : Ext h g2 := C2.extR X01 hS1
  have hS2 : ∀ c, Fp g1 S c ∧ g2 c ≠ none → h c = none := fun c hc => noF hS1 X01 c hc.1
  refine ⟨_, _, _, rfl, ?_⟩
  -- the second one
  refine (bits_spec (a := c) (by omega) (by omega)).mono ?_
  rintro v g3 ⟨t2, l2, rfl, T2, hl2, hcap2, hfr2, X3⟩
  have E3 := E2.ext X3
  have n2 := G2.n1
  have r2 : A2.room = 1500 := G2.room
  have n2' : A2.n ≤ 63 := by have : A2.n ≤ 0 + costM n.toNat := n2; omega
  refine ⟨t2, rfl, (made_spec hf n.toNat (l := 0) E3.st E3.live T2 hl2 hcap2 (fun q hq hS => hS.2 (hfr2 q hq)) (by omega) (by omega) (by omega)).mono ?_⟩
  rintro v g4 ⟨y, A4, rfl, St4, C4, G4, oy, ly⟩
  have R4 := E3.step St4 C4 G4
  have E4 := R4.eng.cut
  have X23 := X2.trans X3
  have X4 : Ext h g4 := C4.extR X23 hS2
  have hS4 : ∀ c, Fp g3 (fun c => Fp g1 S c ∧ g2 c ≠ none) c ∧ g4 c ≠ none → h c = none := fun c hc => noF hS2 X23 c hc.1
  refine ⟨_, _, _, rfl, fun hb hhb => ?_⟩
  have n4 := G4.n1
  have r4 := G4.room
  -- the hand
  have X5 : Ext g4 (g4.new hb (.cells #[.pointer (some (adr o)), .int .u8 f, .bool false] 92)) := Ext.new _ hhb
  have H5 : HandAt (g4.new hb (.cells #[.pointer (some (adr o)), .int .u8 f, .bool false] 92)) hb o b bc bl A4 n L (fun c => Fp g3 (fun c => Fp g1 S c ∧ g2 c ≠ none) c ∧ g4 c ≠ none) f :=
    ⟨Blk.new _ _ _ _, E4.ext X5, fun q => q.2 hhb, (fun q => by have := E4.blk.row; rw [← q, hhb] at this; cases this), fun q => E4.ca.live.1 (q ▸ hhb), fun q => E4.ca.live.2 (q ▸ hhb)⟩
  have X05 := X4.trans X5
  generalize g4.new hb (.cells #[.pointer (some (adr o)), .int .u8 f, .bool false] 92) = g5 at H5 X05 X5 ⊢
  generalize hS5 : (fun c => Fp g3 (fun c => Fp g1 S c ∧ g2 c ≠ none) c ∧ g4 c ≠ none) = S5 at H5 hS4
  have hS5 : ∀ c, S5 c → h c = none := by subst hS5; exact hS4
  have lx4 := leads_grow G4.grows lx
  have le0 : ∀ A : Ar, leadsB (getC A.cells) n f e0 0 := fun A => leads_e0 hv hf (by omega) (by omega)
  have hhbh : h hb = none := X4.fresh hhb
  have hT : ∀ {T : Nat → Prop}, (∀ c, T c → h c = none) → ∀ c, (T c ∨ c = bc ∨ c = bl ∨ c = hb) → h c = none := fun hT c hc => hc.elim (hT c) fun hc => hc.elim (fun q => q ▸ hbc) fun hc => hc.elim (fun q => q ▸ hbl) fun q => q ▸ hhbh
  refine (hand_spec (op := 8) (wop := 192) H5 (by decide) w8 ⟨hf, show (0 : Int) ≤ 192 ∧ (192 : Int) < 256 by decide, show (0 : Int) ≤ 0 by decide, ox, oy, e0_ok, lx4, ly, le0 _, fun _ => by rw [and_op]; rfl⟩ (by omega)).mono ?_
  rintro v g6 ⟨z1, A6, L6, rfl, H6, C6, G6, oz1, lz1, M6⟩
  have X6 : Ext h g6 := C6.extR X05 (hT hS5)
  have hS6 := noF hS5 X05
  have n6 := G6.n1
  have r6 := G6.room
  refine ⟨_, _, rfl, (hand_spec (op := 14) (wop := 252) H6 (by decide) w14 ⟨hf, show (0 : Int) ≤ 252 ∧ (252 : Int) < 256 by decide, show (0 : Int) ≤ 0 by decide, ox, oy, e0_ok, leads_grow G6.grows lx4, leads_grow G6.grows ly, le0 _, fun _ => by rw [or_op]; rfl⟩ (by omega)).mono ?_⟩
  rintro v g7 ⟨z2, A7, L7, rfl, H7, C7, G7, oz2, lz2, M7⟩
  have X7 : Ext h g7 := C7.extR X6 (hT hS6)
  have hS7 := noF hS6 X6
  have n7 := G7.n1
  have r7 := G7.room
  have G67 := G6.trans G7
  refine ⟨_, _, rfl, (not_spec (wop := 15) H7 w3 ⟨hf, show (0 : Int) ≤ 15 ∧ (15 : Int) < 256 by decide, show (0 : Int) ≤ 0 by decide, ox, ox, e0_ok, leads_grow G67.grows lx4, leads_grow G67.grows lx4, le0 _, fun q => by dsimp only at q; rw [odd15] at q; cases q⟩ (by omega)).mono ?_⟩
  rintro v g8 ⟨z3, A8, L8, rfl, H8, C8, G8, oz3, lz3, M8⟩
  have X8 : Ext h g8 := C8.extR X7 (hT hS7)
  have G78 := G7.trans G8
  have G678 := G6.trans G78
  refine ⟨_, _, rfl, pif_f rfl (pif_f rfl ⟨false, H8.blk.all.cell 2 rfl, pif_f rfl ?_⟩)⟩
  -- what they mean
  have K4 := E4.live
  have K6 := H6.eng.live
  have K7 := H7.eng.live
  have K8 := H8.eng.live
  have G := K8.good
  have R8 := H8.eng.st.toR
  have hM : A8.cells.length < 1000000000 := by have := K8.ok.len; omega
  have lx8 := leads_grow G678.grows lx4
  have ly8 := leads_grow G678.grows ly
  have lz1' := leads_grow G78.grows lz1
  have lz2' := leads_grow G8.grows lz2
  have hlen : ∀ bs : List Bool, bs.length = n.toNat → (bs.length : Int) = n - 0 := fun bs hb => by omega
  have W1 : wsum 1 (hold (getC A8.cells) f z1 0) n.toNat = wsum 1 (fun bs => hold (getC A8.cells) f x 0 bs && hold (getC A8.cells) f y 0 bs) n.toNat := wsum_congr fun bs hb => by
    rw [G78.hold K6 lz1, M6 bs (hlen bs hb), and_op, G678.hold K4 lx4, G678.hold K4 ly]
  have W2 : wsum 1 (hold (getC A8.cells) f z2 0) n.toNat = wsum 1 (fun bs => hold (getC A8.cells) f x 0 bs || hold (getC A8.cells) f y 0 bs) n.toNat := wsum_congr fun bs hb => by
    rw [G8.hold K7 lz2, M7 bs (hlen bs hb), or_op, G6.hold K4 lx4, G6.hold K4 ly, G678.hold K4 lx4, G678.hold K4 ly]
  have W3 : wsum 1 (hold (getC A8.cells) f z3 0) n.toNat = wsum 1 (fun bs => !hold (getC A8.cells) f x 0 bs) n.toNat := wsum_congr fun bs hb => by
    rw [M8 bs (hlen bs hb), not_op, G67.hold K4 lx4, G678.hold K4 lx4]
  have S1 := wsum_two n.toNat (hold (getC A8.cells) f x 0) (hold (getC A8.cells) f y 0)
  have S2 := wsum_not n.toNat (hold (getC A8.cells) f x 0)
  refine (cnt_spec R8 G ox hM lx8 (by omega)).ret ⟨_, _, rfl, (cnt_spec R8 G oy hM ly8 (by omega)).ret ⟨_, _, rfl, (cnt_spec R8 G oz1 hM lz1' (by omega)).ret ⟨_, _, rfl, (cnt_spec R8 G oz2 hM lz2' (by omega)).ret ⟨_, _, rfl, (cnt_spec R8 G oz3 hM lz3 (by omega)).ret ⟨_, _, rfl, ?_⟩⟩⟩⟩⟩
  rw [W1, W2, W3]
  rw [← W1, ← W2] at S1
  rw [← W3] at S2
  rw [← W1, ← W2, ← W3]
  refine pif_f rfl (pif_f rfl (pif_f rfl (pif_f rfl (pif_f rfl (pif_f ?_ ((size_spec (by omega)).ret ⟨_, rfl, pif_f ?_ ?_⟩))))))
  · rw [bne_eq_false_iff_eq]; congr 1; omega
  · rw [bne_eq_false_iff_eq, pow_cast, w64 (by omega)]; omega
  -- the lists
  refine (ones_spec (f := f) R8 G ox hM).mono ?_
  rintro v g9 ⟨t3, rfl, -, c3, X9⟩
  rw [may_leads lx8] at c3 ⊢
  have O3 := c3 rfl
  refine ⟨t3, _, rfl, (profile_spec (f := f) (R8.ext X9) G ox hM).mono ?_⟩
  rintro v g10 ⟨t4, rfl, -, c4, X10⟩
  rw [may_leads lx8] at c4 ⊢
  obtain ⟨M, CM, O4⟩ := c4 rfl
  have X910 := X9.trans X10
  refine ⟨t4, _, rfl, (csize_spec (f := f) (l := 0) (R8.ext X910) G ox hM).mono ?_⟩
  rintro v g11 ⟨⟨z, rfl, -, c5⟩, rfl⟩
  rw [may_leads lx8] at c5 ⊢
  obtain ⟨M', CM', rfl⟩ := c5 rfl
  clear c3 c4 c5
  have O3' := O3.ext X10
  have hW : edgeW (getC A8.cells) n f 1048576 x 0 = wsum 1048576 (hold (getC A8.cells) f x 0) n.toNat := by unfold edgeW; rw [Int.sub_zero]
  rw [hW] at O3'
  have l3 := O3'.len
  have l4 := O4.len
  have l3' : (onesL (wsum 1048576 (hold (getC A8.cells) f x 0) n.toNat) (n.toNat + 1)).length = n.toNat + 1 := by simp [onesL]
  have l4' : (profL (getC A8.cells) n.toNat M).length = n.toNat := by simp [profL]
  rw [l3'] at l3
  rw [l4'] at l4
  refine ⟨_, _, rfl, pif_t rfl (pif_t ?_ (pif_t ?_ ?_))⟩
  · rw [beq_iff_eq, w64 (by omega)]; omega
  · rw [beq_iff_eq]; omega
  have tot : wsum 1 (hold (getC A8.cells) f x 0) n.toNat = sumN (cntK (hold (getC A8.cells) f x 0) n.toNat) (n.toNat + 1) := by rw [wsum_poly, poly_one]
  have hle := wsum_le 1 n.toNat (hold (getC A8.cells) f x 0)
  have so := sum_ones (g := hold (getC A8.cells) f x 0) (n := n.toNat) (by omega)
  have top : ∀ x ∈ M, ∃ r, getC A8.cells x = some r ∧ 0 ≤ r.tp := fun x hx => by
    obtain ⟨r, hr, -⟩ := CM.cl x hx
    exact ⟨r, hr, (G.ok _ _ hr).1.t0⟩
  have sp := sum_prof (get := getC A8.cells) (n := n.toNat) (M := M) top
  have hMl : M.length = M'.length := (CM'.same CM).length_eq
  have hM' : M.length ≤ A8.cells.length := by
    have := nodup_len (m := (List.range A8.cells.length).map fun i : Nat => (i : Int) + 2) CM.nd fun x hx => by
      obtain ⟨r, hr, -⟩ := CM.cl x hx
      have := getC_pos hr
      have q := (List.getElem?_eq_some_iff.1 this.2).1
      rw [List.mem_map]
      exact ⟨(x - 2).toNat, List.mem_range.2 q, by omega⟩
    simpa using this
  refine (sum_spec O3' (fun k hk => ?_) (by omega)).ret ⟨_, rfl, pif_t ?_ ((sum_spec O4 (fun k hk => ?_) (by omega)).ret ⟨_, rfl, ?_, X8.trans X910⟩)⟩
  · rw [l3'] at hk
    rw [so k hk]
    have := sumN_le (cntK (hold (getC A8.cells) f x 0) n.toNat) hk
    omega
  · rw [beq_iff_eq, l3', so _ (Nat.le_refl _), tot]
  · rw [l4'] at hk
    rw [sp k hk]
    have := List.countP_le_length (p := topLt (getC A8.cells) k) (l := M)
    omega
  · rw [l4', sp _ (Nat.le_refl _)]
    have : M.countP (topLt (getC A8.cells) n.toNat) = M.length := by
      rw [List.countP_eq_length]
      intro x hx
      obtain ⟨r, hr, -⟩ := CM.cl x hx
      have q := (G.ok _ _ hr).2.1
      simp only [rightB] at q
      unfold topLt
      rw [hr]
      simp; omega
    rw [this, hMl]
    simp
end Go.Proofs.YtbeapoopomlgaaaGreat.Sx
