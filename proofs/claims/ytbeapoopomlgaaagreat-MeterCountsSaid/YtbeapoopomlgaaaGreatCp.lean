/- Contracts: the document's meaning of an edge, its table. -/
import Derived.Test.YtbeapoopomlgaaaGreatCo
namespace Go.Proofs.YtbeapoopomlgaaaGreat.Sx
open Go Go.Proofs
open Go.IntKind (wrap)

theorem rmay_spec {h : Heap} {a : Addr} {L : Nodes} {n room f l : Int} {e : Edg} (R : RefR h a L n room) (he : e.ok) (hr : ∀ p ∈ L, p.2.ok) :
    Spec TP 17 #[.pointer (some a), .int .u8 f, e.val, .int .i64 l] h fun v h' => v = .int .i64 (mayE (getL L) n f e l) ∧ h' = h := by
  obtain ⟨s, H, S, hL⟩ := R.ex
  refine f17_ok ?_
  unfold f17_sem mayE
  refine is_spec.ret ⟨_, rfl, pif_split (fun hc => ?_) fun hc => ?_⟩
  · simp only [Bool.not_eq_true', decide_eq_false_iff_not] at hc
    rw [if_pos hc]; exact ⟨rfl, rfl⟩
  · simp only [Bool.not_eq_false', decide_eq_true_eq] at hc
    rw [if_neg (not_not_intro hc)]
    refine pif_dec (fun h1 => by rw [if_pos (.inl h1)]; exact ⟨rfl, rfl⟩) fun h1 => ?_
    rw [psome_some]
    refine ⟨_, H.cell 3 rfl, pif_dec (fun h2 => by rw [if_pos (.inr h2)]; exact ⟨rfl, rfl⟩) fun h2 => ?_⟩
    rw [if_neg (by omega)]
    refine (rleads_spec R he hr).ret ⟨_, rfl, pif_split (fun h3 => ?_) fun h3 => ?_⟩
    · simp only [Bool.not_eq_true', decide_eq_false_iff_not] at h3
      rw [if_pos h3]; exact ⟨rfl, rfl⟩
    · simp only [Bool.not_eq_false', decide_eq_true_eq] at h3
      rw [if_neg (not_not_intro h3)]; exact ⟨rfl, rfl⟩

/-- the values of the levels from one on -/
def bitsI (x : Int) (l n : Int) : List Bool := (List.range (n - l).toNat).map fun (k : Nat) => valI x (l + k) == 1
theorem bits_len (x l n : Int) : (bitsI x l n).length = (n - l).toNat := by simp [bitsI]
theorem bits_cons {x l n : Int} (h : l < n) : bitsI x l n = (valI x l == 1) :: bitsI x (l + 1) n := by
  unfold bitsI
  have e : (n - l).toNat = (n - (l + 1)).toNat + 1 := by omega
  rw [e, List.range_succ_eq_map, List.map_cons, List.map_map]
  congr 1
  · simp
  · apply List.map_congr_left
    intro k _
    simp only [Function.comp]
    congr 2
    omega
theorem bits_nil {x l n : Int} (h : n ≤ l) : bitsI x l n = [] := by
  unfold bitsI
  have e : (n - l).toNat = 0 := by omega
  rw [e]; rfl
theorem bits_drop {x l n : Int} {k : Nat} (h : l + k ≤ n) : (bitsI x l n).drop k = bitsI x (l + k) n := by
  induction k generalizing l with
  | zero => simp
  | succ k ih =>
    rw [bits_cons (by omega), List.drop_succ_cons, ih (by omega)]
    congr 1
    omega
theorem bits_get {x l n : Int} {k : Nat} (h : l + k < n) : (bitsI x l n)[k]? = some (valI x (l + k) == 1) := by
  unfold bitsI
  rw [List.getElem?_map, List.getElem?_range (by omega)]; rfl

/-- what is asked at a level on the way -/
structure HoldOK (get : Int → Option Rec) (n f : Int) (e : Edg) (l : Int) : Prop where
  fm : formB f
  l0 : 0 ≤ l
  l1 : l ≤ n
  to : e.a < 2 ∨ ∃ r, get e.a = some r ∧ r.fm = f ∧ l ≤ r.tp
theorem leads_holdOK {get : Int → Option Rec} {n f : Int} {e : Edg} {l : Int} (L : leadsB get n f e l) : HoldOK get n f e l := by
  refine ⟨L.1.1, L.1.2.2.1, L.1.2.2.2.1, ?_⟩
  rcases L.2 with h | h
  · exact .inl h
  · cases hg : get e.a with
    | none => rw [hg] at h; exact h.elim
    | some r => rw [hg] at h; exact .inr ⟨r, rfl, h.1, h.2.1⟩

def holdSkip (d : Option Addr) (t p20 p21 p3 p4 x36 : Int) (R : Value → Heap → Prop) (h36 : Heap) : Prop :=
  pif (t == 2) (pif (x36 == 1) (R (.bool false) h36) (Spec TP 74 #[.pointer d, .int .u8 t, .agg #[.int .u8 p20, .int .u32 p21], .int .i64 (wrap .i64 (p3 + 1)), .int .i64 p4] h36 fun r81 h81 => ∃ x81 : Bool, r81 = .bool x81 ∧ R (.bool x81) h81)) (pif (t == 4) (pif (x36 == 1) (R (.bool false) h36) (Spec TP 74 #[.pointer d, .int .u8 t, .agg #[.int .u8 p20, .int .u32 p21], .int .i64 (wrap .i64 (p3 + 1)), .int .i64 p4] h36 fun r81 h81 => ∃ x81 : Bool, r81 = .bool x81 ∧ R (.bool x81) h81)) (pif (t == 5) (pif (decide ((wrap .i64 p20) ≤ p3)) (pif (x36 == 1) (R (.bool false) h36) (Spec TP 74 #[.pointer d, .int .u8 t, .agg #[.int .u8 p20, .int .u32 p21], .int .i64 (wrap .i64 (p3 + 1)), .int .i64 p4] h36 fun r81 h81 => ∃ x81 : Bool, r81 = .bool x81 ∧ R (.bool x81) h81)) (Spec TP 74 #[.pointer d, .int .u8 t, .agg #[.int .u8 p20, .int .u32 p21], .int .i64 (wrap .i64 (p3 + 1)), .int .i64 p4] h36 fun r81 h81 => ∃ x81 : Bool, r81 = .bool x81 ∧ R (.bool x81) h81)) (Spec TP 74 #[.pointer d, .int .u8 t, .agg #[.int .u8 p20, .int .u32 p21], .int .i64 (wrap .i64 (p3 + 1)), .int .i64 p4] h36 fun r81 h81 => ∃ x81 : Bool, r81 = .bool x81 ∧ R (.bool x81) h81)))

theorem holdSkip_ok {d : Option Addr} {f l x : Int} {e : Edg} {h : Heap} {B : Bool} (he : e.ok) (hl : 0 ≤ l ∧ l ≤ 16) (C : Spec TP 74 #[.pointer d, .int .u8 f, e.val, .int .i64 (l + 1), .int .i64 x] h fun v h' => v = .bool B ∧ h' = h) :
    holdSkip d f e.t e.a l x (valI x l) (fun v h' => v = .bool (if zeroAt f e l && (valI x l == 1) then false else B) ∧ h' = h) h := by
  have e0 := he.t0
  have e1 := he.t1
  unfold holdSkip
  rw [w64 (x := l + 1) (by omega), w64 (x := e.t) (by omega)]
  have go : (zeroAt f e l = false ∨ (valI x l == 1) = false) → Spec TP 74 #[.pointer d, .int .u8 f, e.val, .int .i64 (l + 1), .int .i64 x] h fun r81 h81 => ∃ x81 : Bool, r81 = .bool x81 ∧ (Value.bool x81 = .bool (if zeroAt f e l && (valI x l == 1) then false else B) ∧ h81 = h) := by
    intro hz
    refine C.mono ?_
    rintro v h' ⟨rfl, rfl⟩
    refine ⟨B, rfl, ?_, rfl⟩
    rcases hz with hz | hz <;> rw [hz] <;> simp
  have no : zeroAt f e l = true → (valI x l == 1) = true → (Value.bool false = .bool (if zeroAt f e l && (valI x l == 1) then false else B) ∧ h = h) := by
    intro h1 h2
    rw [h1, h2]; exact ⟨rfl, rfl⟩
  refine pif_split (fun q1 => pif_split (fun q => no ?_ q) fun q => go (.inr q)) fun q1 => pif_split (fun q2 => pif_split (fun q => no ?_ q) fun q => go (.inr q)) fun q2 => pif_split (fun q3 => pif_dec (fun q4 => pif_split (fun q => no ?_ q) fun q => go (.inr q)) fun q4 => go (.inl ?_)) fun q3 => go (.inl ?_)
  · simp only [beq_iff_eq] at q1; simp [zeroAt, q1]
  · simp only [beq_iff_eq] at q2; simp [zeroAt, q2]
  · simp only [beq_iff_eq] at q3; simp [zeroAt, q3, q4]
  · simp only [beq_iff_eq] at q3; simp [zeroAt, q3]; omega
  · simp only [beq_eq_false_iff_ne] at q1 q2 q3; simp [zeroAt, q1, q2, q3]

theorem any_snoc {x l n : Int} {k : Nat} (h : l + k < n) : ((bitsI x l n).take (k + 1)).any id = (((bitsI x l n).take k).any id || valI x (l + k) == 1) := by
  have hlen : k < (bitsI x l n).length := by rw [bits_len]; omega
  rw [List.take_succ_eq_append_getElem hlen, List.any_append]
  have := bits_get (x := x) h
  rw [List.getElem?_eq_getElem hlen] at this
  rw [Option.some.inj this]
  simp

theorem holds_spec {a : Addr} {L : Nodes} {n room f x : Int} (G : Good (getL L) n) (hx : 0 ≤ x) (hx' : x < 1099511627776) : ∀ (K : Nat) (h : Heap) (e : Edg) (l : Int), RefR h a L n room → e.ok → HoldOK (getL L) n f e l → (n - l).toNat ≤ K →
    Spec TP 74 #[.pointer (some a), .int .u8 f, e.val, .int .i64 l, .int .i64 x] h fun v h' => v = .bool (hold (getL L) f e l (bitsI x l n)) ∧ h' = h := by
  intro K
  induction K with
  | zero =>
    intro h e l R he O hK
    have hv := G.vars
    have l0 := O.l0
    have l1 := O.l1
    have hln : n ≤ l := by omega
    obtain ⟨s, H, S, hL⟩ := R.ex
    rw [bits_nil hln]
    refine f74_ok ?_
    unfold f74_sem
    refine (rat_spec R).ret ⟨_, rfl, pif_split (fun h0 => ?_) fun h0 => ?_⟩
    · simp only [beq_iff_eq] at h0
      rw [hold_zero h0]; exact ⟨rfl, rfl⟩
    simp only [beq_eq_false_iff_ne] at h0
    rw [psome_some]
    have hno : getL L e.a = none ∧ atL L e.a = -1 := by
      rcases atL_spec L e.a with ⟨q1, q2⟩ | ⟨i, r, q1, q2, q3⟩
      · exact ⟨q2, q1⟩
      · exfalso
        have := (G.ids _ _ q3).1
        have rr := (G.ok _ _ q3).2.1
        simp only [rightB] at rr
        rcases O.to with h | ⟨r', h1, h2, h3⟩
        · omega
        · rw [q3] at h1; cases h1; omega
    rw [hold_end h0 hno.1, hno.2]
    exact ⟨_, H.cell 3 rfl, pif_t (by simpa using hln) (pif_t (by decide) ⟨rfl, rfl⟩)⟩
  | succ K ih =>
    intro h e l R he O hK
    have hv := G.vars
    have l0 := O.l0
    have l1 := O.l1
    rcases (show l < n ∨ n ≤ l by omega) with hln | hln
    · obtain ⟨s, H, S, hL⟩ := R.ex
      have vs : Spec TP 73 #[.int .i64 x, .int .i64 l] h fun r h' => r = .int .i64 (valI x l) ∧ h' = h := value_spec hx (by omega) (by omega)
      refine f74_ok ?_
      unfold f74_sem
      refine (rat_spec R).ret ⟨_, rfl, pif_split (fun h0 => ?_) fun h0 => ?_⟩
      · simp only [beq_iff_eq] at h0
        rw [hold_zero h0]; exact ⟨rfl, rfl⟩
      simp only [beq_eq_false_iff_ne] at h0
      rw [psome_some]
      refine ⟨_, H.cell 3 rfl, pif_dec (fun h => by omega) fun _ => vs.ret ⟨_, rfl, ?_⟩⟩
      rw [bits_cons hln]
      have skip : (getL L e.a = none ∨ ∃ r, getL L e.a = some r ∧ l < r.tp) → holdSkip (some a) f e.t e.a l x (valI x l) (fun v h' => v = .bool (hold (getL L) f e l ((valI x l == 1) :: bitsI x (l + 1) n)) ∧ h' = h) h := by
        intro hs
        have ht : l < topOf (getL L) n e := by
          unfold topOf
          rcases hs with hs | ⟨r, hs, hlt⟩
          · rw [hs]; exact hln
          · rw [hs]; exact hlt
        rw [hold_step (n := n) h0 ht]
        refine holdSkip_ok he ⟨l0, by omega⟩ (ih h e (l + 1) R he ⟨O.fm, by omega, by omega, ?_⟩ (by omega))
        rcases O.to with h | ⟨r', h1, h2, h3⟩
        · exact .inl h
        · rcases hs with hs | ⟨r, hs, hlt⟩
          · rw [hs] at h1; cases h1
          · rw [hs] at h1; cases h1
            exact .inr ⟨_, hs, h2, by omega⟩
      rcases atL_spec L e.a with ⟨q1, q2⟩ | ⟨i, r, q1, q2, q3⟩
      · rw [q1]
        exact pif_t (by decide) (skip (.inl q2))
      · rw [q1]
        obtain ⟨rok, rr, llo, lhi⟩ := G.ok _ _ q3
        simp only [rightB] at rr
        have t0 := rok.t0
        have t1 := rok.t1
        have b1 := rok.b1
        have hid := (G.ids _ _ q3).1
        have htl : r.fm = f ∧ l ≤ r.tp := by
          rcases O.to with h | ⟨r', h1, h2, h3⟩
          · omega
          · rw [q3] at h1; cases h1; exact ⟨h2, h3⟩
        have rd : ∀ {k : Addr → Prop}, (∀ q, Has h (q.add (i * 8)) (encN (e.a, r)) → k q) → psome s.p fun q => 0 ≤ (i : Int) ∧ (i : Int) < ((s.n : Nat) : Int) ∧ k q := fun H => S.read (by omega) (by simpa using q2) fun q hq => H q (by simpa using hq)
        refine pif_f (by simp) ?_
        rw [psome_some]
        refine ⟨s, H.cell0 rfl, rd fun q hq => ⟨_, hq.cell 2 rfl, ?_⟩⟩
        rw [w64 (x := r.tp) (by omega)]
        refine pif_dec (fun hlt => skip (.inr ⟨r, q3, hlt⟩)) fun hlt => ?_
        have el : l = r.tp := by omega
        rw [psome_some]
        refine ⟨s, H.cell0 rfl, rd fun q hq => ⟨_, _, _, _, _, _, _, encN_rec hq, ?_⟩⟩
        rw [← bits_cons hln, hold_node h0 q3 (by omega) (by rw [bits_cons hln]; simp), w64 (x := r.bt) (by omega), w64 (x := r.tp) (by omega), w64 (x := r.bt + 1) (by omega)]
        have hd : (bitsI x l n).drop ((r.bt - r.tp).toNat + 1) = bitsI x (r.bt + 1) n := by
          rw [bits_drop (by omega)]
          congr 1
          omega
        rw [hd]
        have hhi : HoldOK (getL L) n f r.hi (r.bt + 1) := leads_holdOK (by rw [← htl.1]; exact lhi)
        have hlo : HoldOK (getL L) n f r.lo (r.bt + 1) := leads_holdOK (by rw [← htl.1]; exact llo)
        have cb : (valI x r.bt == 1) = ((bitsI x l n)[(r.bt - r.tp).toNat]?.getD false) := by
          rw [bits_get (by omega)]
          simp only [Option.getD_some]
          congr 2
          omega
        refine .by (fun st g => g = h ∧ l ≤ st.2.1 ∧ st.2.1 ≤ r.bt + 1 ∧ st.1 = ((bitsI x l n).take (st.2.1 - l).toNat).any id) (fun st _ => (r.bt + 1 - st.2.1).toNat) ⟨rfl, by dsimp only; omega, by dsimp only; omega, by rw [show (r.tp - l).toNat = 0 by omega]; rfl⟩ ?_
        rintro ⟨sm, k, _⟩ g ⟨rfl, hk0, hk1, hs⟩
        dsimp only at hk0 hk1 hs ⊢
        have hnext : k ≤ r.bt → ((bitsI x l n).take (k + 1 - l).toNat).any id = (sm || valI x k == 1) := by
          intro hk
          have e1 : (k + 1 - l).toNat = (k - l).toNat + 1 := by omega
          rw [e1, any_snoc (by omega), ← hs]
          congr 3
          omega
        refine pif_dec (fun hc => pif_split (fun hsm => ?_) fun hsm => ?_) fun hc => ?_
        · rw [w64 (x := k + 1) (by omega)]
          refine ⟨⟨rfl, by omega, by omega, ?_⟩, by omega⟩
          rw [hnext hc, hsm]; rfl
        · have vk : Spec TP 73 #[.int .i64 x, .int .i64 k] g fun r h' => r = .int .i64 (valI x k) ∧ h' = g := value_spec hx (by omega) (by omega)
          refine vk.ret ⟨_, rfl, ?_⟩
          rw [w64 (x := k + 1) (by omega)]
          refine ⟨⟨rfl, by omega, by omega, ?_⟩, by omega⟩
          rw [hnext hc, hsm]; rfl
        · have ek : (k - l).toNat = (r.bt - r.tp).toNat + 1 := by omega
          rw [ek] at hs
          refine pif_split (fun h3 => ?_) fun h3 => ?_
          · simp only [bne_iff_ne, ne_eq] at h3
            have vb : Spec TP 73 #[.int .i64 x, .int .i64 r.bt] g fun r' h' => r' = .int .i64 (valI x r.bt) ∧ h' = g := value_spec hx (by omega) (by omega)
            refine vb.ret ⟨_, rfl, ?_⟩
            unfold pickB
            rw [if_neg h3, ← cb]
            refine pif_split (fun hb => ?_) fun hb => ?_
            · rw [hb]
              refine (ih g r.hi (r.bt + 1) R rok.hi hhi (by omega)).mono ?_
              rintro v h' ⟨rfl, rfl⟩
              exact ⟨_, rfl, rfl, rfl⟩
            · rw [hb]
              refine (ih g r.lo (r.bt + 1) R rok.lo hlo (by omega)).mono ?_
              rintro v h' ⟨rfl, rfl⟩
              exact ⟨_, rfl, rfl, rfl⟩
          · simp only [bne_eq_false_iff_eq] at h3
            unfold pickB
            rw [if_pos h3, ← hs]
            refine pif_split (fun hb => ?_) fun hb => ?_
            · rw [hb]
              refine (ih g r.hi (r.bt + 1) R rok.hi hhi (by omega)).mono ?_
              rintro v h' ⟨rfl, rfl⟩
              exact ⟨_, rfl, rfl, rfl⟩
            · rw [hb]
              refine (ih g r.lo (r.bt + 1) R rok.lo hlo (by omega)).mono ?_
              rintro v h' ⟨rfl, rfl⟩
              exact ⟨_, rfl, rfl, rfl⟩
    · obtain ⟨s, H, S, hL⟩ := R.ex
      rw [bits_nil hln]
      refine f74_ok ?_
      unfold f74_sem
      refine (rat_spec R).ret ⟨_, rfl, pif_split (fun h0 => ?_) fun h0 => ?_⟩
      · simp only [beq_iff_eq] at h0
        rw [hold_zero h0]; exact ⟨rfl, rfl⟩
      simp only [beq_eq_false_iff_ne] at h0
      rw [psome_some]
      have hno : getL L e.a = none ∧ atL L e.a = -1 := by
        rcases atL_spec L e.a with ⟨q1, q2⟩ | ⟨i, r, q1, q2, q3⟩
        · exact ⟨q2, q1⟩
        · exfalso
          have := (G.ids _ _ q3).1
          have rr := (G.ok _ _ q3).2.1
          simp only [rightB] at rr
          rcases O.to with h | ⟨r', h1, h2, h3⟩
          · omega
          · rw [q3] at h1; cases h1; omega
      rw [hold_end h0 hno.1, hno.2]
      exact ⟨_, H.cell 3 rfl, pif_t (by simpa using hln) (pif_t (by decide) ⟨rfl, rfl⟩)⟩
end Go.Proofs.YtbeapoopomlgaaaGreat.Sx
