/- Contracts: counts by 1s, ways, levels. -/
import Derived.Test.YtbeapoopomlgaaaGreatCm
namespace Go.Proofs.YtbeapoopomlgaaaGreat.Sx
open Go Go.Proofs
open Go.IntKind (wrap)

@[reducible] def encI (x : Int) : List Value := [.int .i64 x]
theorem Own.new_ {α : Type} {g g1 : Heap} {s : Sl} {T sz : Nat} {enc : α → List Value} {l : List α} {b : Nat} {o : Obj} (O : Own (g.new b o) s T sz enc l b) : Own (g1.new b o) s T sz enc l b := by
  refine ⟨O.p, O.n, O.cap, O.esz, ?_⟩
  obtain ⟨junk, q1, q2⟩ := O.row
  refine ⟨junk, q1, ⟨?_⟩⟩
  rw [new_at, ← q2.row, new_at]

def onesL (W : Nat) (k : Nat) : List Int := (List.range k).map fun i => ((W / 1048576 ^ i % 1048576 : Nat) : Int)

theorem ones_spec {h : Heap} {a : Addr} {cells : Cells} {n cnt room f : Int} {e : Edg} (R : StR h a cells n cnt room) (G : Good (getC cells) n) (he : e.ok) (hM : cells.length < 1000000000) :
    Spec TP 13 #[.pointer (some a), .int .u8 f, e.val] h fun v h' => ∃ t : Sl, v = .tuple #[.slice t.p t.n t.c, .int .u8 (mayE (getC cells) n f e 0)] ∧ (mayE (getC cells) n f e 0 ≠ 0 → t = ⟨none, 0, 0⟩) ∧
      (mayE (getC cells) n f e 0 = 0 → SlR h' t 1 encI (onesL (edgeW (getC cells) n f 1048576 e 0) (n.toNat + 1))) ∧ Ext h h' := by
  have hv := G.vars
  refine f13_ok ?_
  unfold f13_sem
  refine (svars_spec R).ret ⟨_, rfl, (same_spec' hv.1 (by omega)).mono ?_⟩
  rintro v g1 ⟨t1, rfl, S1, E1⟩
  refine ⟨t1, rfl, (svars_spec (R.ext E1)).ret ⟨_, rfl, (same_spec' hv.1 (by omega)).mono ?_⟩⟩
  rintro v g2 ⟨t2, rfl, S2, E2⟩
  have E02 := E1.trans E2
  refine ⟨t2, rfl, (weigh_spec (c := 1048576) (R.ext E02) G he hM (S1.ext E2) S2 (by decide)).mono ?_⟩
  rintro v g3 ⟨t3, rfl, h1, h2, E3⟩
  have E03 := E02.trans E3
  refine ⟨t3, _, rfl, pif_split (fun h0 => ?_) fun h0 => ?_⟩
  · simp only [bne_iff_ne, ne_eq] at h0
    exact ⟨⟨none, 0, 0⟩, rfl, fun _ => rfl, fun h => absurd h h0, E03⟩
  simp only [bne_eq_false_iff_eq] at h0
  have N := h2 h0
  refine (svars_spec (R.ext E03)).ret ⟨_, rfl, ?_⟩
  rw [w64 (x := n + 1) (by omega)]
  have em : (n + 1).toNat = n.toNat + 1 := by omega
  rw [em]
  refine ⟨⟨by omega, Int.le_refl _, by omega, by decide⟩, fun b hb => ?_⟩
  have O0 : Own (g3.new b (.cells (zrow [.int .i64 0] ((n.toNat + 1) * 1)).toArray 3 (0, 0))) ⟨some (adr b), n.toNat + 1, n.toNat + 1⟩ 3 1 encI (List.replicate (n.toNat + 1) 0) b := Own.make g3 b 3 (enc := encI) 0 rfl (fun _ => rfl) (by decide)
  have hlt := pow_big (c := 1048576) (k := n.toNat) (by decide) (by omega)
  have hle := edgeW_le (get := getC cells) (n := n) (f := f) 1048576 e 0
  have en0 : (n - 0).toNat = n.toNat := by omega
  rw [en0] at hle
  generalize edgeW (getC cells) n f 1048576 e 0 = W at N hle h2 ⊢
  refine .by (fun st g => 0 ≤ st.2.1 ∧ st.2.1 ≤ (n.toNat + 1 : Nat) ∧ ∃ g0 o, g = g0.new b o ∧ g0 b = none ∧ Ext h g0 ∧ NatR g0 st.1 (W / 1048576 ^ st.2.1.toNat) ∧ ∃ l, Own g ⟨some (adr b), n.toNat + 1, n.toNat + 1⟩ 3 1 encI l b ∧ ∀ j : Nat, j < st.2.1.toNat → l[j]? = some ((W / 1048576 ^ j % 1048576 : Nat) : Int)) (fun st _ => (n.toNat + 1 - st.2.1.toNat)) ⟨by simp, by dsimp only; omega, g3, _, rfl, hb, E03, by simpa using N, _, O0, by simp⟩ ?_
  rintro ⟨t, i, _⟩ g ⟨hi0, hi1, g0, o, rfl, hg0, E, Nt, l, O, hl⟩
  dsimp only at hi0 hi1 Nt hl ⊢
  have hol := O.len
  dsimp only at hol
  refine pif_dec (fun hc => ?_) fun hc => ?_
  · have hWle : W / 1048576 ^ i.toNat ≤ W := Nat.div_le_self _ _
    refine Spec.aside hg0 (natDiv_spec Nt (by omega)) ?_
    rintro v g1 ⟨t', rfl, N', E'⟩ hg1
    have O1 : Own (g1.new b o) ⟨some (adr b), n.toNat + 1, n.toNat + 1⟩ 3 1 encI l b := O.new_
    have hm : W / 1048576 ^ i.toNat % 1048576 < 1048576 := Nat.mod_lt _ (by omega)
    rw [w64 (x := i + 1) (by omega)]
    have O2 := O1.put (i := i.toNat) (by omega) ((W / 1048576 ^ i.toNat % 1048576 : Nat) : Int)
    obtain ⟨o', ho'⟩ := put_new g1 b o (i.toNat * 1) [.int .i64 ((W / 1048576 ^ i.toNat % 1048576 : Nat) : Int)]
    rw [ho'] at O2
    refine ⟨t', _, true, rfl, hi0, by omega, O1.canPut (by omega), ?_⟩
    rw [w64 (x := ((W / 1048576 ^ i.toNat % 1048576 : Nat) : Int)) (by omega), ho']
    have ei : (i + 1).toNat = i.toNat + 1 := by omega
    refine ⟨⟨by omega, by omega, g1, o', rfl, hg1, E.trans E', ?_, _, O2, fun j hj => ?_⟩, by omega⟩
    · rw [ei, Nat.pow_succ, ← Nat.div_div_eq_div_mul]; exact N'
    · rw [List.getElem?_set]
      split
      · rename_i hij
        subst hij
        rw [if_pos (by omega)]
      · exact hl j (by omega)
  · refine ⟨⟨some (adr b), n.toNat + 1, n.toNat + 1⟩, by rw [h0], fun h => absurd h0 h, fun _ => ?_, E.trans (Ext.new _ hg0)⟩
    have : l = onesL W (n.toNat + 1) := by
      apply List.ext_getElem?
      intro j
      unfold onesL
      rw [List.getElem?_map]
      by_cases hj : j < n.toNat + 1
      · rw [hl j (by omega), List.getElem?_range hj]; rfl
      · rw [List.getElem?_eq_none (by omega), List.getElem?_eq_none (by simp; omega)]; rfl
    rw [← this]
    exact O.toR

/-! ### ways -/
def depN (get : Int → Option Rec) : Nat → Int → Int
  | 0, _ => 0
  | k + 1, id => match get id with
    | none => 0
    | some r => max (depN get k r.lo.a) (depN get k r.hi.a) + 1
def wayN (get : Int → Option Rec) : Nat → Int → Int
  | 0, id => id
  | k + 1, id => match get id with
    | none => id
    | some r => wayN get k r.lo.a + wayN get k r.hi.a
/-- an id's node stands at no level above -/
abbrev Below (get : Int → Option Rec) (n : Int) (id : Int) (K : Nat) : Prop := ∀ r, get id = some r → (n - r.tp).toNat ≤ K
section
variable {get : Int → Option Rec} {n : Int}
theorem Good.kids (G : Good get n) {id : Int} {r : Rec} {K : Nat} (hg : get id = some r) (hK : (n - r.tp).toNat ≤ K + 1) : Below get n r.lo.a K ∧ Below get n r.hi.a K := by
  obtain ⟨rok, rr, llo, lhi⟩ := G.ok _ _ hg
  simp only [rightB] at rr
  refine ⟨fun r' hr' => ?_, fun r' hr' => ?_⟩
  · have h1 := (leads_child G.ids llo hr').2.1
    have h2 := (G.ok _ _ hr').2.1
    simp only [rightB] at h2
    omega
  · have h1 := (leads_child G.ids lhi hr').2.1
    have h2 := (G.ok _ _ hr').2.1
    simp only [rightB] at h2
    omega
theorem Good.pos (G : Good get n) {id : Int} {r : Rec} (hg : get id = some r) : 0 < (n - r.tp).toNat := by
  have h2 := (G.ok _ _ hg).2.1
  simp only [rightB] at h2
  omega
theorem dep_eq (G : Good get n) : ∀ (k k' : Nat) (id : Int), Below get n id k → Below get n id k' → depN get k id = depN get k' id ∧ wayN get k id = wayN get k' id := by
  intro k
  induction k with
  | zero =>
    intro k' id h h'
    cases hg : get id with
    | none => cases k' <;> simp [depN, wayN, hg]
    | some r => have := h r hg; have := G.pos hg; omega
  | succ k ih =>
    intro k' id h h'
    cases hg : get id with
    | none => cases k' <;> simp [depN, wayN, hg]
    | some r =>
      cases k' with
      | zero => have := h' r hg; have := G.pos hg; omega
      | succ k' =>
        obtain ⟨a1, a2⟩ := G.kids hg (h r hg)
        obtain ⟨b1, b2⟩ := G.kids hg (h' r hg)
        simp only [depN, wayN, hg]
        rw [(ih k' _ a1 b1).1, (ih k' _ a2 b2).1, (ih k' _ a1 b1).2, (ih k' _ a2 b2).2]
        exact ⟨rfl, rfl⟩
theorem lead_id (_ : Good get n) {f l : Int} {e : Edg} (L : leadsB get n f e l) : e.a < 2 ∨ ∃ r, get e.a = some r := by
  rcases L.2 with h | h
  · exact .inl h
  · cases hg : get e.a with
    | none => rw [hg] at h; exact h.elim
    | some r => exact .inr ⟨r, rfl⟩
theorem way_le (G : Good get n) : ∀ (k : Nat) (id : Int), Below get n id k → 0 ≤ id → (id < 2 ∨ ∃ r, get id = some r) → 0 ≤ depN get k id ∧ depN get k id ≤ k ∧ 0 ≤ wayN get k id ∧ wayN get k id ≤ 2 ^ k := by
  intro k
  induction k with
  | zero =>
    intro id h h0 hi
    rcases hi with hi | ⟨r, hr⟩
    · simp only [depN, wayN]; omega
    · have := h r hr; have := G.pos hr; omega
  | succ k ih =>
    intro id h h0 hi
    have hp := p2_pos k
    cases hg : get id with
    | none =>
      rcases hi with hi | ⟨r, hr⟩
      · simp only [depN, wayN, hg]
        rw [p2_succ]; omega
      · rw [hg] at hr; cases hr
    | some r =>
      obtain ⟨a1, a2⟩ := G.kids hg (h r hg)
      obtain ⟨rok, rr, llo, lhi⟩ := G.ok _ _ hg
      have q1 := ih _ a1 rok.lo.a0 (lead_id G llo)
      have q2 := ih _ a2 rok.hi.a0 (lead_id G lhi)
      simp only [depN, wayN, hg]
      rw [p2_succ]
      omega
end

def depI (get : Int → Option Rec) (id : Int) : Int := depN get 20 id
def wayI (get : Int → Option Rec) (id : Int) : Int := wayN get 20 id
theorem dep_leaf {get : Int → Option Rec} {id : Int} (h : get id = none) : depI get id = 0 ∧ wayI get id = id := by
  unfold depI wayI
  simp [depN, wayN, h]
theorem dep_node {get : Int → Option Rec} {n : Int} (G : Good get n) {id : Int} {r : Rec} (hg : get id = some r) (hn : (n - r.tp).toNat ≤ 17) : depI get id = max (depI get r.lo.a) (depI get r.hi.a) + 1 ∧ wayI get id = wayI get r.lo.a + wayI get r.hi.a := by
  obtain ⟨k1, k2⟩ := G.kids (K := 19) hg (by omega)
  have big : ∀ {id : Int}, Below get n id 19 → Below get n id 20 := fun h r hr => by have := h r hr; omega
  have c1 := dep_eq G 19 20 _ k1 (big k1)
  have c2 := dep_eq G 19 20 _ k2 (big k2)
  unfold depI wayI
  rw [← c1.1, ← c2.1, ← c1.2, ← c2.2, depN, wayN, hg]
  exact ⟨rfl, rfl⟩
theorem dep_bound {get : Int → Option Rec} {n : Int} (G : Good get n) {id : Int} (h0 : 0 ≤ id) (hi : id < 2 ∨ ∃ r, get id = some r) {K : Nat} (hb : Below get n id K) (hK : K ≤ 17) : 0 ≤ depI get id ∧ depI get id ≤ 17 ∧ 0 ≤ wayI get id ∧ wayI get id ≤ 131072 := by
  have q := way_le K id hb h0 hi (G := G)
  have big : Below get n id 20 := fun r hr => by have := hb r hr; omega
  have d := dep_eq G K 20 _ hb big
  rw [d.1, d.2] at q
  have hp : (2 : Int) ^ K ≤ 131072 := p2_le hK
  unfold depI wayI
  omega
structure WMemo (h : Heap) (m : Nat) (get : Int → Option Rec) : Prop where
  ex : ∃ es cl, h m = some (.map es cl) ∧ ∀ e ∈ es, ∃ id, e.key = .int .u32 id ∧ e.val = .agg #[.int .i64 (depI get id), .int .i64 (wayI get id)]
theorem WMemo.at_ {h : Heap} {m : Nat} {get : Int → Option Rec} (M : WMemo h m get) (id : Int) : ∃ es cl, h m = some (.map es cl) ∧ MapAt h (some m) .u32 es cl ∧
    (mget .u32 es id = none ∨ mget .u32 es id = some (.agg #[.int .i64 (depI get id), .int .i64 (wayI get id)])) ∧ WMemo (h.new m (mput .u32 es cl id (.agg #[.int .i64 (depI get id), .int .i64 (wayI get id)]))) m get := by
  obtain ⟨es, cl, h1, h2⟩ := M.ex
  refine ⟨es, cl, h1, ⟨fun e he => ?_, fun b hb => by cases hb; exact h1, fun h => by cases h⟩, ?_, ?_⟩
  · obtain ⟨id', q1, -⟩ := h2 e he
    exact ⟨id', q1⟩
  · unfold mget
    cases hf : es.toList.find? (mkey .u32 id) with
    | none => exact .inl rfl
    | some e =>
      right
      have he := List.mem_of_find?_eq_some hf
      have hk := List.find?_some hf
      obtain ⟨id', q1, q2⟩ := h2 e (by simpa using he)
      unfold mkey at hk
      rw [q1] at hk
      simp only [kEq, Bool.true_and, beq_iff_eq] at hk
      subst hk
      rw [Option.map_some, q2]
  · obtain ⟨es', cl', e1, e2⟩ := mput_mem (kd := .u32) (es := es) (cl := cl) (id := id) (v := .agg #[.int .i64 (depI get id), .int .i64 (wayI get id)])
    refine ⟨es', cl', by rw [new_at, e1], fun e he => ?_⟩
    rcases e2 e he with h3 | ⟨h3, h4⟩
    · exact h2 e h3
    · exact ⟨id, h3, h4⟩

theorem from_spec {a w : Addr} {cells : Cells} {n cnt room : Int} {m : Nat} (G : Good (getC cells) n) : ∀ (K : Nat) (h : Heap) (e : Edg), K ≤ 16 → StR h a cells n cnt room → Has h w [.pointer (some a), .map (some m)] → WMemo h m (getC cells) → e.ok → (e.a < 2 ∨ ∃ r, getC cells e.a = some r) → Below (getC cells) n e.a K →
    Spec TP 70 #[.pointer (some w), e.val] h fun v h' => v = .agg #[.int .i64 (depI (getC cells) e.a), .int .i64 (wayI (getC cells) e.a)] ∧ WMemo h' m (getC cells) ∧ Chg h h' fun b => b = m := by
  intro K
  induction K with
  | zero =>
    intro h e _ R H M he hid hb
    have e0 := he.a0
    have h2 : e.a < 2 := by
      rcases hid with h | ⟨r, hr⟩
      · exact h
      · have := hb r hr; have := G.pos hr; omega
    have hg : getC cells e.a = none := by
      cases hg : getC cells e.a with
      | none => rfl
      | some r => have := (G.ids _ _ hg).1; omega
    refine f70_ok ?_
    unfold f70_sem
    refine pif_t (by simpa using h2) ⟨?_, M, Chg.refl _ _⟩
    rw [w64 (by omega), (dep_leaf hg).1, (dep_leaf hg).2]
  | succ K ih =>
    intro h e hK R H M he hid hb
    have e0 := he.a0
    refine f70_ok ?_
    unfold f70_sem
    refine pif_dec (fun h2 => ⟨?_, M, Chg.refl _ _⟩) fun h2 => ?_
    · have hg : getC cells e.a = none := by
        cases hg : getC cells e.a with
        | none => rfl
        | some r => have := (G.ids _ _ hg).1; omega
      rw [w64 (by omega), (dep_leaf hg).1, (dep_leaf hg).2]
    obtain ⟨r, hg⟩ : ∃ r, getC cells e.a = some r := hid.resolve_left h2
    obtain ⟨es, cl, hm, HM, hget, -⟩ := M.at_ e.a
    rw [psome_some]
    refine ⟨_, H.cell 1 rfl, es, cl, HM, ?_⟩
    rcases hget with hget | hget
    · rw [hget]
      refine ⟨0, 0, rfl, pif_f rfl ?_⟩
      rw [psome_some]
      refine ⟨_, H.cell0 rfl, (sget_spec R he.a0 he.a1).ret ?_⟩
      rw [hg]
      obtain ⟨rok, rr, llo, lhi⟩ := G.ok _ _ hg
      obtain ⟨k1, k2⟩ := G.kids hg (hb r hg)
      refine ⟨_, _, _, _, _, _, _, _, rfl, (ih h r.lo (by omega) R H M rok.lo (lead_id G llo) k1).mono ?_⟩
      rintro v g1 ⟨rfl, M1, C1⟩
      have K1 := C1.keep hm
      obtain ⟨es1, cl1, hm1, -⟩ := M1.ex
      refine ⟨_, _, rfl, (ih g1 r.hi (by omega) (R.keep K1) (K1 _ _ H) M1 rok.hi (lead_id G lhi) k2).mono ?_⟩
      rintro v g2 ⟨rfl, M2, C2⟩
      have K2 := K1.trans (C2.keep hm1)
      refine ⟨_, _, rfl, ?_⟩
      rw [psome_some]
      obtain ⟨es2, cl2, hm2, HM2, -, M3⟩ := M2.at_ e.a
      have hbr := hb r hg
      obtain ⟨eD, eW⟩ := dep_node G hg (by omega)
      have q1 := dep_bound G rok.lo.a0 (lead_id G llo) k1 (by omega)
      have q2 := dep_bound G rok.hi.a0 (lead_id G lhi) k2 (by omega)
      have em : (if depI (getC cells) r.hi.a > depI (getC cells) r.lo.a then depI (getC cells) r.hi.a else depI (getC cells) r.lo.a) = max (depI (getC cells) r.lo.a) (depI (getC cells) r.hi.a) := by split <;> omega
      rw [em, w64 (x := wayI (getC cells) r.lo.a + wayI (getC cells) r.hi.a) (by omega), w64 (x := max (depI (getC cells) r.lo.a) (depI (getC cells) r.hi.a) + 1) (by omega), ← eW, ← eD]
      refine ⟨_, (K2 _ _ H).cell 1 rfl, m, es2, cl2, rfl, HM2, rfl, M3, ?_⟩
      exact (C1.trans C2 fun _ _ hc => hc).trans (fun b o hb hn => by rw [new_ne hn]; exact hb) fun _ _ (hc : _ = m) => hc
    · rw [hget]
      exact ⟨_, _, rfl, pif_t rfl ⟨rfl, M, Chg.refl _ _⟩⟩
end Go.Proofs.YtbeapoopomlgaaaGreat.Sx
