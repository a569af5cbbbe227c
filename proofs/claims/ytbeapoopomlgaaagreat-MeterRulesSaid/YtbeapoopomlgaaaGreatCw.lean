/- Contracts: sets that are built. -/
import Derived.Test.YtbeapoopomlgaaaGreatCv
namespace Go.Proofs.YtbeapoopomlgaaaGreat.Sx
open Go Go.Proofs
open Go.IntKind (wrap)

/-! ### sets -/
def fullI (n : Int) : Int := if n ≥ 6 then 18446744073709551615 else ((2 ^ 2 ^ n.toNat - 1 : Nat) : Int)
structure SetOK (n : Int) (ws : List Int) : Prop where
  n0 : 0 ≤ n
  n1 : n ≤ 16
  len : (ws.length : Int) = max 1 (2 ^ n.toNat / 64)
  ok : WOK ws
  full : ∀ w, ws[0]? = some w → andNotI .u64 w (fullI n) = 0
/-- is an assignment in a set? -/
def hasW (ws : List Int) (x : Nat) : Bool := ((ws[x / 64]?).getD 0).toNat / 2 ^ (x % 64) % 2 == 1

section
variable {h : Heap} {s : Sl} {ws : List Int} {n : Int}
theorem full_spec (h0 : 0 ≤ n) : Spec TP 196 #[.int .i64 n] h fun v h' => v = .int .u64 (fullI n) ∧ h' = h := by
  refine f196_ok ?_
  unfold f196_sem fullI
  refine pif_dec (fun hc => by rw [if_pos hc]; exact ⟨rfl, rfl⟩) fun hc => ?_
  rw [if_neg hc]
  obtain ⟨N, rfl⟩ : ∃ N : Nat, n = N := ⟨n.toNat, by omega⟩
  have hN : N ≤ 5 := by omega
  have hp : 2 ^ N ≤ 2 ^ 5 := Nat.pow_le_pow_right (by decide) hN
  have h2 : 2 ^ 2 ^ N ≤ 2 ^ 2 ^ 5 := Nat.pow_le_pow_right (by decide) hp
  have h3 := Nat.two_pow_pos (2 ^ N)
  rw [shl_one (by omega), shl_one (by omega), Int.toNat_natCast]
  have h4 : (2 : Nat) ^ 2 ^ 5 = 4294967296 := by decide
  rw [h4] at h2
  refine ⟨by omega, Int.natCast_nonneg _, ?_, rfl⟩
  generalize 2 ^ 2 ^ N = q at h2 h3 ⊢
  rw [wu64 (by omega)]
  congr 1; omega
theorem setR_spec (S : SlR h s 1 encW ws) (O : SetOK n ws) : Spec TP 140 #[.agg #[.int .i64 n, .slice s.p s.n s.c]] h fun v h' => v = .bool true ∧ h' = h := by
  have hl := O.len
  have n0 := O.n0
  have n1 := O.n1
  have hsl := S.len
  refine f140_ok ?_
  unfold f140_sem
  refine smay_spec.ret ⟨_, rfl, pif_t (by simp [varsB, n0, n1]) ((words_spec O.n0 O.n1).ret ⟨_, rfl, pif_t (by rw [beq_iff_eq]; omega) ?_⟩)⟩
  have hpos : 0 < ws.length := by omega
  have hg := List.getElem?_eq_getElem hpos
  refine S.read (i := 0) (by decide) hg fun a ha => ⟨_, ha, (full_spec n0).ret ⟨_, rfl, ha, ?_, rfl⟩⟩
  rw [O.full _ hg]; rfl
theorem setHas_spec (S : SlR h s 1 encW ws) (O : SetOK n ws) {x : Nat} (hx : x < 2 ^ n.toNat) : Spec TP 197 #[.agg #[.int .i64 n, .slice s.p s.n s.c], .int .i64 x] h fun v h' => v = .bool (hasW ws x) ∧ h' = h := by
  have hl := O.len
  have n0 := O.n0
  have n1 := O.n1
  have hsl := S.len
  obtain ⟨N, rfl⟩ : ∃ N : Nat, n = N := ⟨n.toNat, by omega⟩
  rw [Int.toNat_natCast] at hx hl
  have hp : 2 ^ N ≤ 2 ^ 16 := Nat.pow_le_pow_right (by decide) (by omega)
  refine f197_ok ?_
  unfold f197_sem
  have e2 : (2 : Int) ^ N = ((2 ^ N : Nat) : Int) := by rw [Int.natCast_pow]; rfl
  rw [e2] at hl
  refine (setR_spec S O).ret ⟨_, rfl, pif_t rfl (pif_t (by simp) ⟨n0, ?_⟩)⟩
  rw [shl63 (by omega)]
  refine pif_t (by simp; omega) ⟨by decide, ?_⟩
  have ed : Int.tdiv (x : Int) 64 = ((x / 64 : Nat) : Int) := by rw [Int.tdiv_eq_ediv_of_nonneg (by omega)]; rfl
  have em : Int.tmod (x : Int) 64 = ((x % 64 : Nat) : Int) := by rw [Int.tmod_eq_emod_of_nonneg (by omega)]; rfl
  rw [ed, em, w64 (x := ((x / 64 : Nat) : Int)) (by omega)]
  have hlt : x / 64 < ws.length := by
    rcases Nat.lt_or_ge N 6 with h6 | h6
    · have : 2 ^ N ≤ 2 ^ 5 := Nat.pow_le_pow_right (by decide) (by omega)
      clear em ed
      omega
    · have e6 : 2 ^ N = 64 * 2 ^ (N - 6) := by
        have : N = 6 + (N - 6) := by omega
        rw [this, Nat.pow_add]; simp
      have : (2 ^ N : Nat) / 64 = 2 ^ (N - 6) := by rw [e6, Nat.mul_div_cancel_left _ (by decide)]
      clear em ed
      omega
  have hg := List.getElem?_eq_getElem hlt
  have hw := O.ok _ (List.getElem_mem hlt)
  refine S.read (i := ((x / 64 : Nat) : Int)) (by omega) (by rw [Int.toNat_natCast]; exact hg) fun a ha => ⟨_, ha, by decide, by omega, ?_, rfl⟩
  obtain ⟨W, hW⟩ : ∃ W : Nat, ws[x / 64] = W := ⟨ws[x / 64].toNat, by omega⟩
  unfold hasW
  rw [hg, Option.getD_some, hW, shr_nat (by omega), Int.toNat_natCast]
  have a1 : andI .u64 ((W / 2 ^ (x % 64) : Nat) : Int) 1 = ((W / 2 ^ (x % 64) % 2 : Nat) : Int) := by
    have hq : W / 2 ^ (x % 64) ≤ W := Nat.div_le_self _ _
    generalize W / 2 ^ (x % 64) = q at hq
    unfold andI
    have e1 : IntKind.bits .u64 = 64 := rfl
    rw [e1]
    have e2 : (BitVec.ofInt 64 (q : Int)).toNat = q := by rw [BitVec.toNat_ofInt]; omega
    have e3 : (BitVec.ofInt 64 (1 : Int)).toNat = 2 ^ 1 - 1 := by rw [BitVec.toNat_ofInt]; rfl
    rw [BitVec.toNat_and, e2, e3, Nat.and_two_pow_sub_one_eq_mod, wu64 (by omega)]
  rw [a1, nat_beq1]
end

/-! ### stores that stay well -/
structure AOK (A : Ar) : Prop where
  ok : ∀ id r, getC A.cells id = some r → r.ok
  len : A.cells.length ≤ 1048576
  room : A.room ≤ 1048576
  n1 : A.n + A.free.length = A.cells.length
theorem getC_set {cells : Cells} {k : Nat} {r x : Rec} {id : Int} (h : getC (cells.set k (some r)) id = some x) : x = r ∨ getC cells id = some x := by
  unfold getC at h ⊢
  split at h
  · cases h
  · rename_i h2
    rw [if_neg h2]
    rw [List.getElem?_set] at h
    split at h
    · split at h
      · left; simpa using h.symm
      · simp at h
    · exact .inr h
theorem getC_snoc {cells : Cells} {r x : Rec} {id : Int} (h : getC (cells ++ [some r]) id = some x) : x = r ∨ getC cells id = some x := by
  unfold getC at h ⊢
  split at h
  · cases h
  · rename_i h2
    rw [if_neg h2]
    rcases Nat.lt_or_ge (id - 2).toNat cells.length with h3 | h3
    · rw [List.getElem?_append_left h3] at h; exact .inr h
    · rw [List.getElem?_append_right h3] at h
      left
      cases hk : (id - 2).toNat - cells.length with
      | zero => rw [hk] at h; simpa using h.symm
      | succ k => rw [hk] at h; simp at h
theorem AOK.put {A : Ar} (K : AOK A) {r : Rec} (hr : r.ok) : AOK (A.put r).1 := by
  unfold Ar.put
  split
  · exact K
  · rename_i h0
    split
    · rename_i id hid
      have hne : A.free ≠ [] := by rintro h; rw [h] at hid; cases hid
      have hl := List.length_pos_iff.2 hne
      have n1 := K.n1
      refine ⟨fun i x hx => ?_, by simpa using K.len, K.room, ?_⟩
      · rcases getC_set hx with rfl | h
        · exact hr
        · exact K.ok _ _ h
      · simp only [List.length_set, List.length_dropLast]; omega
    · rename_i hid
      have hf : A.free = [] := by
        cases h : A.free with
        | nil => rfl
        | cons a l => rw [h] at hid; simp at hid
      have n1 := K.n1
      have kr := K.room
      rw [hf] at n1
      simp only [List.length_nil] at n1
      refine ⟨fun i x hx => ?_, ?_, K.room, ?_⟩
      · rcases getC_snoc hx with rfl | h
        · exact hr
        · exact K.ok _ _ h
      · simp only [List.length_append, List.length_cons, List.length_nil]; omega
      · simp only [List.length_append, List.length_cons, List.length_nil]; omega
theorem AOK.find {A : Ar} (K : AOK A) {n : Int} {r : Rec} (hr : r.ok) : AOK (A.find n r).1 := by
  unfold Ar.find
  split
  · exact K
  · split
    · exact K
    · split
      · exact K.put hr
      · exact K
theorem AOK.found {A : Ar} (K : AOK A) {f n : Int} {r : Rec} (hr : r.ok) : AOK (foundM f A n r).1 := by
  unfold foundM
  split
  · exact K.find hr
  · exact K.find hr
theorem AOK.make {A : Ar} (K : AOK A) {f n l : Int} {lo hi : Edg} (hf : formB f) (hn : n ≤ 16) (h1 : lo.ok) (h2 : hi.ok) : AOK (makeM f A n l lo hi).1 := by
  unfold makeM
  split
  · exact K
  · rename_i h0
    split
    · exact K
    · split
      · exact K
      · split
        · exact K
        · split
          · exact K
          · exact K.found (recM_ok K.ok (by unfold formB at hf; omega) (by omega) h1 h2)
theorem put_id {A : Ar} (K : AOK A) (hfr : ∀ id ∈ A.free, 2 ≤ id ∧ A.cells[(id - 2).toNat]? = some none) {r : Rec} : 0 ≤ (A.put r).2.1 ∧ (A.put r).2.1 < 4294967296 := by
  have hl := K.len
  unfold Ar.put
  split
  · exact ⟨by simp, by simp⟩
  · split
    · rename_i id hid
      have hm : id ∈ A.free := List.mem_of_getLast? hid
      obtain ⟨h1, h2⟩ := hfr id hm
      have := (List.getElem?_eq_some_iff.1 h2).1
      simp only; omega
    · simp only; omega
theorem has_id {A : Ar} (K : AOK A) {r : Rec} : 0 ≤ hasC A.cells r ∧ hasC A.cells r < 4294967296 := by
  have hl := K.len
  unfold hasC
  split
  · rename_i i hi
    have := (List.findIdx?_eq_some_iff_getElem.1 hi).1
    omega
  · exact ⟨by decide, by decide⟩
theorem StoreAt.free {h : Heap} {b : Nat} {A : Ar} {n : Int} {S : Nat → Prop} (R : StoreAt h b A n S) : ∀ id ∈ A.free, 2 ≤ id ∧ A.cells[(id - 2).toNat]? = some none := by
  obtain ⟨⟨ba, bi, slots, S1, S2, h1, h2, h3⟩, -, -⟩ := R
  exact h2.fr
theorem StoreAt.aok {h : Heap} {b : Nat} {A : Ar} {n : Int} {S : Nat → Prop} (R : StoreAt h b A n S) : A.n + A.free.length = A.cells.length := by
  obtain ⟨⟨ba, bi, slots, S1, S2, h1, h2, h3⟩, -, -⟩ := R
  exact h2.n1
theorem find_id {A : Ar} {n : Int} {r : Rec} (K : AOK A) (hfr : ∀ id ∈ A.free, 2 ≤ id ∧ A.cells[(id - 2).toNat]? = some none) : 0 ≤ (A.find n r).2.1 ∧ (A.find n r).2.1 < 4294967296 := by
  unfold Ar.find
  split
  · exact has_id K
  · split
    · exact ⟨by simp, by simp⟩
    · split
      · exact put_id K hfr
      · exact ⟨by simp, by simp⟩
theorem e0_ok : e0.ok := ⟨by decide, by decide, by decide, by decide⟩
theorem make_edg {A : Ar} (K : AOK A) (hfr : ∀ id ∈ A.free, 2 ≤ id ∧ A.cells[(id - 2).toNat]? = some none) {f n l : Int} {lo hi : Edg} (hf : formB f) (hn : n ≤ 16) (h1 : lo.ok) (h2 : hi.ok) : (makeM f A n l lo hi).2.1.ok := by
  unfold makeM
  split
  · exact e0_ok
  · rename_i h0
    split
    · exact e0_ok
    · split
      · exact h1
      · split
        · exact h1
        · split
          · exact ⟨by dsimp only; omega, by dsimp only; omega, h1.a0, h1.a1⟩
          · have hr := recM_ok (f := f) (l := l) (lo := lo) (hi := hi) K.ok (by unfold formB at hf; omega) (by omega) h1 h2
            have hi := find_id (n := n) (r := recM f (getC A.cells) l lo hi) K hfr
            unfold foundM
            split
            · refine ⟨?_, ?_, hi.1, hi.2⟩
              · show 0 ≤ (if f = 5 then _ else (0 : Int)); split
                · exact hr.t0
                · decide
              · show (if f = 5 then _ else (0 : Int)) < 256; split
                · exact hr.t1
                · decide
            · exact e0_ok

/-! ### built from above -/
def oneE (f n : Int) : Edg := ⟨if f = 5 then n else 0, 1⟩
def buildM (f n : Int) (p : List Int) (ws : List Int) : Nat → Ar → Int → Nat → Ar × Edg × Int
  | 0, A, _, x => (A, if hasW ws x then oneE f n else e0, 0)
  | k + 1, A, l, x =>
    let a := buildM f n p ws k A (l + 1) x
    if a.2.2 ≠ 0 then (a.1, e0, a.2.2) else
    let c := buildM f n p ws k a.1 (l + 1) (x ||| 2 ^ ((p[l.toNat]?).getD 0).toNat)
    if c.2.2 ≠ 0 then (c.1, e0, c.2.2) else makeM f c.1 n l a.2.1 c.2.1

theorem Fp.trans {h h1 : Heap} {S : Nat → Prop} (C : Chg h h1 S) {c : Nat} (hc : Fp h1 (Fp h S) c) : Fp h S c := by
  rcases hc with hc | hc
  · exact hc
  · by_cases hS : S c
    · exact .inl hS
    · right
      cases hh : h c with
      | none => rfl
      | some o => rw [C c o hh hS] at hc; cases hc
theorem Fp.chg {h h1 h2 : Heap} {S : Nat → Prop} (C : Chg h h1 S) (C' : Chg h1 h2 (Fp h S)) : Chg h h2 S := C.trans C' fun _ hc hS => hS.resolve_right hc

theorem one_ok {f n : Int} (h0 : 0 ≤ n) (h1 : n ≤ 16) : (oneE f n).ok := by
  refine ⟨?_, ?_, by simp [oneE], by simp [oneE]⟩ <;> (simp only [oneE]; split <;> omega)

structure BuildEnv (h0 : Heap) (d o : Addr) (b : Nat) (f n : Int) (p ws : List Int) : Prop where
  ex : ∃ w : Sl, Has h0 d [.pointer (some (adr b)), .pointer (some o), .int .u8 f, .int .i64 n, .slice w.p w.n w.c] ∧ SlR h0 w 1 encW ws
  ord : OrdR h0 o p
  set : SetOK n ws
  plen : (p.length : Int) = n
  form : formB f

theorem bfrom_spec {h0 : Heap} {d o : Addr} {b : Nat} {f n : Int} {p ws : List Int} (V : BuildEnv h0 d o b f n p ws) : ∀ (k : Nat) {h : Heap} {A : Ar} {S : Nat → Prop} {l : Int} {x : Nat}, Ext h0 h → (∀ c, S c → h0 c = none) → StoreAt h b A n S → AOK A → 0 ≤ l → l + k = n → x < 2 ^ n.toNat →
    Spec TP 141 #[.pointer (some d), .int .i64 l, .int .i64 x] h fun v h' => MadeC h b n S (buildM f n p ws k A l x) v h' ∧ AOK (buildM f n p ws k A l x).1 ∧ (buildM f n p ws k A l x).2.1.ok := by
  intro k
  have n0 := V.set.n0
  have n1 := V.set.n1
  obtain ⟨w, HD, SW⟩ := V.ex
  induction k with
  | zero =>
    intro h A S l x E hS R K hl0 hlk hx
    refine f141_ok ?_
    unfold f141_sem
    rw [psome_some]
    refine ⟨_, (HD.ext E).cell0 rfl, (svars_spec R.toR).ret ⟨_, rfl, pif_t (by rw [beq_iff_eq]; omega) ?_⟩⟩
    rw [psome_some]
    refine ⟨n, w, (HD.ext E).part 3 (getPart (rest := []) rfl), (setHas_spec (SW.ext E) V.set hx).ret ⟨_, rfl, ?_⟩⟩
    unfold buildM
    cases hw : hasW ws x with
    | false => exact pif_f rfl ⟨⟨rfl, R.keep', Chg.refl _ _⟩, K, e0_ok⟩
    | true =>
      refine pif_t rfl ?_
      rw [psome_some]
      have el : l = n := by omega
      subst el
      exact ⟨f, (HD.ext E).cell 2 rfl, (one_spec n0 n1 V.form).ret ⟨_, _, rfl, ⟨rfl, R.keep', Chg.refl _ _⟩, K, one_ok n0 n1⟩⟩
  | succ k ih =>
    intro h A S l x E hS R K hl0 hlk hx
    refine f141_ok ?_
    unfold f141_sem
    rw [psome_some]
    refine ⟨_, (HD.ext E).cell0 rfl, (svars_spec R.toR).ret ⟨_, rfl, pif_f (by rw [beq_eq_false_iff_ne]; omega) ?_⟩⟩
    rw [w64 (x := l + 1) (by omega)]
    have eB : buildM f n p ws (k + 1) A l x = if (buildM f n p ws k A (l + 1) x).2.2 ≠ 0 then ((buildM f n p ws k A (l + 1) x).1, e0, (buildM f n p ws k A (l + 1) x).2.2) else
        if (buildM f n p ws k (buildM f n p ws k A (l + 1) x).1 (l + 1) (x ||| 2 ^ ((p[l.toNat]?).getD 0).toNat)).2.2 ≠ 0 then ((buildM f n p ws k (buildM f n p ws k A (l + 1) x).1 (l + 1) (x ||| 2 ^ ((p[l.toNat]?).getD 0).toNat)).1, e0, (buildM f n p ws k (buildM f n p ws k A (l + 1) x).1 (l + 1) (x ||| 2 ^ ((p[l.toNat]?).getD 0).toNat)).2.2) else
        makeM f (buildM f n p ws k (buildM f n p ws k A (l + 1) x).1 (l + 1) (x ||| 2 ^ ((p[l.toNat]?).getD 0).toNat)).1 n l (buildM f n p ws k A (l + 1) x).2.1 (buildM f n p ws k (buildM f n p ws k A (l + 1) x).1 (l + 1) (x ||| 2 ^ ((p[l.toNat]?).getD 0).toNat)).2.1 := rfl
    rw [eB]
    clear eB
    have i1 := ih E hS R K (l := l + 1) (by omega) (by omega) hx
    generalize buildM f n p ws k A (l + 1) x = a at i1 ⊢
    refine i1.mono ?_
    rintro v h1 ⟨⟨rfl, R1, C1⟩, K1, o1⟩
    have E1 : Ext h0 h1 := C1.extR E hS
    have hS1 : ∀ c, Fp h S c → h0 c = none := fun c hc => hc.elim (hS c) fun hn => E.fresh hn
    refine ⟨_, _, _, rfl, pif_split (fun q => ?_) fun q => ?_⟩
    · simp only [bne_iff_ne, ne_eq] at q
      rw [if_pos q]
      exact ⟨⟨rfl, R1, C1⟩, K1, e0_ok⟩
    simp only [bne_eq_false_iff_eq] at q
    rw [if_neg (by simp [q])]
    rw [psome_some]
    refine ⟨_, (HD.ext E1).cell 1 rfl, (ovar_spec (V.ord.ext E1)).ret ⟨_, rfl, ?_⟩⟩
    have hll : l.toNat < p.length := by have := V.plen; omega
    have hg := List.getElem?_eq_getElem hll
    have hpv := V.ord.perm.2.1 _ (List.getElem_mem hll)
    rw [if_pos hl0, hg, Option.getD_some]
    obtain ⟨X, hX⟩ : ∃ X : Nat, p[l.toNat] = X := ⟨p[l.toNat].toNat, by omega⟩
    have hp16 := V.ord.perm.1
    have hpl := V.plen
    rw [hX]
    have hp1 : 2 ^ X < 2 ^ n.toNat := Nat.pow_lt_pow_right (by decide) (by omega)
    have hp2 : 2 ^ n.toNat ≤ 2 ^ 16 := Nat.pow_le_pow_right (by decide) (by omega)
    rw [shl63 (by omega), or63 (by omega) (by omega), Option.getD_some, Int.toNat_natCast]
    have i2 := ih E1 hS1 R1 K1 (l := l + 1) (by omega) (by omega) (Nat.or_lt_two_pow hx hp1)
    generalize buildM f n p ws k a.1 (l + 1) (x ||| 2 ^ X) = c at i2 ⊢
    refine ⟨by omega, i2.mono ?_⟩
    rintro v h2 ⟨⟨rfl, R2, C2⟩, K2, o2⟩
    have C12 := Fp.chg C1 C2
    have E2 : Ext h0 h2 := C12.extR E hS
    refine ⟨_, _, _, rfl, pif_split (fun q2 => ?_) fun q2 => ?_⟩
    · simp only [bne_iff_ne, ne_eq] at q2
      rw [if_pos q2]
      exact ⟨⟨rfl, R2.mono fun _ hc => Fp.trans C1 hc, C12⟩, K2, e0_ok⟩
    simp only [bne_eq_false_iff_eq] at q2
    rw [if_neg (by simp [q2])]
    rw [psome_some]
    refine ⟨_, (HD.ext E2).cell0 rfl, ?_⟩
    rw [psome_some]
    have R2' := R2.mono fun _ hc => Fp.trans C1 hc
    refine ⟨f, (HD.ext E2).cell 2 rfl, (make_spec R2' K2.ok (by have := K2.len; omega) n1 V.form (by omega) o1 o2).mono ?_⟩
    rintro v h3 ⟨rfl, R3, C3⟩
    exact ⟨_, _, _, rfl, ⟨rfl, R3.mono fun _ hc => Fp.trans C12 hc, Fp.chg C12 C3⟩, K2.make V.form n1 o1 o2, make_edg K2 R2.free V.form n1 o1 o2⟩

theorem bmay_spec {h : Heap} {a o : Addr} {cells : Cells} {n cnt room f : Int} {p : List Int} (R : StR h a cells n cnt room) (O : OrdR h o p) (hp : (p.length : Int) = n) (hf : formB f) : Spec TP 139 #[.pointer (some a), .pointer (some o), .int .u8 f] h fun v h' => v = .int .u8 0 ∧ h' = h := by
  refine f139_ok ?_
  unfold f139_sem
  exact pif_f rfl (pif_f rfl ((svars_spec R).ret ⟨_, rfl, (ovars_spec O).ret ⟨_, rfl, pif_f (by simp [hp]) (isForm_spec.ret ⟨_, rfl, pif_f (by simp [hf]) ⟨rfl, rfl⟩⟩)⟩⟩))

theorem bof_spec {h0 h : Heap} {o : Addr} {b : Nat} {A : Ar} {f n : Int} {S : Nat → Prop} {p ws : List Int} {w : Sl} (E : Ext h0 h) (hS : ∀ c, S c → h0 c = none) (R : StoreAt h b A n S) (K : AOK A) (O : OrdR h0 o p) (SW : SlR h0 w 1 encW ws) (V : SetOK n ws) (hp : (p.length : Int) = n) (hf : formB f) :
    Spec TP 83 #[.pointer (some (adr b)), .pointer (some o), .int .u8 f, .agg #[.int .i64 n, .slice w.p w.n w.c]] h fun v h' => MadeC h b n S (buildM f n p ws n.toNat A 0 0) v h' ∧ AOK (buildM f n p ws n.toNat A 0 0).1 ∧ (buildM f n p ws n.toNat A 0 0).2.1.ok := by
  have n0 := V.n0
  refine f83_ok ?_
  unfold f83_sem
  refine (bmay_spec R.toR (O.ext E) hp hf).ret ⟨_, rfl, pif_f rfl ((setR_spec (SW.ext E) V).ret ⟨_, rfl, pif_f rfl ((svars_spec R.toR).ret ⟨_, rfl, pif_f (by simp) fun d hd => ?_⟩)⟩)⟩
  have B0 : Blk (h.new d (.cells #[.pointer none, .pointer none, .int .u8 0, .int .i64 0, .slice none 0 0] 220)) d 220 [.pointer none, .pointer none, .int .u8 0, .int .i64 0, .slice none 0 0] := Blk.new _ _ _ _
  refine ⟨B0.canPut rfl rfl (by simp), ?_⟩
  have e5 := B0.put (p := adr d) (ws := [.pointer (some (adr b)), .pointer (some o), .int .u8 f, .int .i64 n, .slice w.p w.n w.c]) rfl (by simp)
  have e6 : (h.new d (.cells #[.pointer none, .pointer none, .int .u8 0, .int .i64 0, .slice none 0 0] 220)).put (adr d) [.pointer (some (adr b)), .pointer (some o), .int .u8 f, .int .i64 n, .slice w.p w.n w.c] = h.new d (.cells #[.pointer (some (adr b)), .pointer (some o), .int .u8 f, .int .i64 n, .slice w.p w.n w.c] 220 (0, 0)) := by
    rw [e5]
    funext c
    simp only [Heap.new]
    split <;> rfl
  rw [e6]
  have E1 : Ext h (h.new d (.cells #[.pointer (some (adr b)), .pointer (some o), .int .u8 f, .int .i64 n, .slice w.p w.n w.c] 220 (0, 0))) := Ext.new _ hd
  have hd0 : h0 d = none := E.fresh hd
  have E2 : Ext (h0.new d (.cells #[.pointer (some (adr b)), .pointer (some o), .int .u8 f, .int .i64 n, .slice w.p w.n w.c] 220 (0, 0))) (h.new d (.cells #[.pointer (some (adr b)), .pointer (some o), .int .u8 f, .int .i64 n, .slice w.p w.n w.c] 220 (0, 0))) := fun c q hc => by
    by_cases hcd : c = d
    · subst hcd; rw [new_at] at hc ⊢; exact hc
    · rw [new_ne hcd] at hc ⊢; exact E c q hc
  have H1 : Has (h0.new d (.cells #[.pointer (some (adr b)), .pointer (some o), .int .u8 f, .int .i64 n, .slice w.p w.n w.c] 220 (0, 0))) (adr d) [.pointer (some (adr b)), .pointer (some o), .int .u8 f, .int .i64 n, .slice w.p w.n w.c] := (Blk.new _ _ _ _).all
  have E3 : Ext h0 (h0.new d (.cells #[.pointer (some (adr b)), .pointer (some o), .int .u8 f, .int .i64 n, .slice w.p w.n w.c] 220 (0, 0))) := Ext.new _ hd0
  have Rc := R.cut.chg (Chg.ext E1 (S := fun _ => False)) fun _ _ hc => hc
  refine (bfrom_spec (h0 := h0.new d (.cells #[.pointer (some (adr b)), .pointer (some o), .int .u8 f, .int .i64 n, .slice w.p w.n w.c] 220 (0, 0))) (d := adr d) ⟨⟨w, H1, SW.ext E3⟩, O.ext E3, V, hp, hf⟩ n.toNat (l := 0) (x := 0) E2 (fun c hc => ?_) Rc K (by omega) (by omega) (Nat.two_pow_pos _)).mono ?_
  · have hcd : c ≠ d := by rintro rfl; exact hc.2 hd
    rw [new_ne hcd]; exact hS c hc.1
  · rintro v h2 ⟨⟨rfl, R2, C2⟩, K2, o2⟩
    refine ⟨_, _, _, rfl, ⟨rfl, R2.mono ?_, ?_⟩, K2, o2⟩
    · rintro c (hc | hc)
      · exact .inl hc.1
      · exact .inr (E1.fresh hc)
    · exact (Chg.ext E1 (S := S)).trans C2 fun c hc hS => hS.1
end Go.Proofs.YtbeapoopomlgaaaGreat.Sx
