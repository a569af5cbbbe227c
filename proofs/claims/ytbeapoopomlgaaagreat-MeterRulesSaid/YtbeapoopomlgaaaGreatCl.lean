/- Contracts: what assignments weigh. -/
import Derived.Test.YtbeapoopomlgaaaGreatCk
import Derived.Test.YtbeapoopomlgaaaGreatPa
namespace Go.Proofs.YtbeapoopomlgaaaGreat.Sx
open Go Go.Proofs
open Go.IntKind (wrap)

theorem big_pow : (1048577 : Nat) ^ 16 < 18446744073709551616 ^ 64 := by decide
theorem pow_big {c k : Nat} (hc : c ≤ 1048576) (hk : k ≤ 16) : (1 + c) ^ k < 18446744073709551616 ^ 64 := by
  refine Nat.lt_of_le_of_lt ?_ big_pow
  calc (1 + c) ^ k ≤ 1048577 ^ k := Nat.pow_le_pow_left (by omega) k
    _ ≤ 1048577 ^ 16 := Nat.pow_le_pow_right (by omega) hk

theorem madd_spec {h : Heap} {s t : Sl} {x y : Nat} (S : NatR h s x) (T : NatR h t y) (hxy : x + y < 18446744073709551616 ^ 64) :
    Spec TP 231 #[.slice s.p s.n s.c, .slice t.p t.n t.c] h fun v h' => ∃ u : Sl, v = .slice u.p u.n u.c ∧ NatR h' u (x + y) ∧ Ext h h' := by
  refine f231_ok ?_
  unfold f231_sem
  refine (add_spec S T hxy).mono ?_
  rintro v g ⟨u, rfl, N, E⟩
  exact ⟨u, true, rfl, u, rfl, N, E⟩
theorem mmul_spec {h : Heap} {s t : Sl} {x y : Nat} (S : NatR h s x) (T : NatR h t y) (hx : x < 18446744073709551616 ^ 64) (hy : y < 18446744073709551616 ^ 64) (hxy : x * y < 18446744073709551616 ^ 64) :
    Spec TP 187 #[.slice s.p s.n s.c, .slice t.p t.n t.c] h fun v h' => ∃ u : Sl, v = .slice u.p u.n u.c ∧ NatR h' u (x * y) ∧ Ext h h' := by
  refine f187_ok ?_
  unfold f187_sem
  refine (mul_spec S T hx hy hxy).mono ?_
  rintro v g ⟨u, rfl, N, E⟩
  exact ⟨u, true, rfl, u, rfl, N, E⟩
theorem msub_spec {h : Heap} {s t : Sl} {x y : Nat} (S : NatR h s x) (T : NatR h t y) (hx : x < 18446744073709551616 ^ 64) (hyx : y ≤ x) :
    Spec TP 230 #[.slice s.p s.n s.c, .slice t.p t.n t.c] h fun v h' => ∃ u : Sl, v = .slice u.p u.n u.c ∧ NatR h' u (x - y) ∧ Ext h h' := by
  refine f230_ok ?_
  unfold f230_sem
  refine (sub_spec S T hx hyx).mono ?_
  rintro v g ⟨u, rfl, N, E⟩
  exact ⟨u, true, rfl, u, rfl, N, E⟩

/-- numbers that are read -/
structure NumsR (h : Heap) (s : Sl) (vals : List Nat) : Prop where
  len : s.n = vals.length
  at_ : ∀ i x, vals[i]? = some x → ∃ (a : Addr) (t : Sl), s.p = some a ∧ Has h (a.add (i * 1)) [.slice t.p t.n t.c] ∧ NatR h t x
theorem NumsR.keep {h h' : Heap} {s : Sl} {vals : List Nat} (N : NumsR h s vals) (E : Keep h h') : NumsR h' s vals :=
  ⟨N.len, fun i x hi => by obtain ⟨a, t, h1, h2, h3⟩ := N.at_ i x hi; exact ⟨a, t, h1, E _ _ h2, h3.keep E⟩⟩
theorem NumsR.read {h : Heap} {s : Sl} {vals : List Nat} (N : NumsR h s vals) {i : Int} (h0 : 0 ≤ i) {x : Nat} (hx : vals[i.toNat]? = some x) {k : Addr → Sl → Prop}
    (H : ∀ a t, Has h (a.add (i.toNat * 1)) [.slice t.p t.n t.c] → NatR h t x → k a t) : psome s.p fun a => 0 ≤ i ∧ i < ((s.n : Nat) : Int) ∧ ∃ v : Sl, Has h (a.add (Int.toNat i * 1)) [.slice v.p v.n v.c] ∧ k a v := by
  obtain ⟨a, t, h1, h2, h3⟩ := N.at_ _ x hx
  have hl := (List.getElem?_eq_some_iff.1 hx).1
  rw [h1]
  exact ⟨h0, by rw [N.len]; omega, t, h2, H a t h2 h3⟩

structure ScR (h : Heap) (w a : Addr) (f n : Int) (c m : Nat) : Prop where
  ex : ∃ lo hi : Sl, Has h w [.pointer (some a), .int .u8 f, .slice lo.p lo.n lo.c, .slice hi.p hi.n hi.c, .map (some m)] ∧ NumsR h lo (List.replicate n.toNat 1) ∧ NumsR h hi (List.replicate n.toNat c)
theorem ScR.keep {h h' : Heap} {w a : Addr} {f n : Int} {c m : Nat} (S : ScR h w a f n c m) (E : Keep h h') : ScR h' w a f n c m := by
  obtain ⟨lo, hi, h1, h2, h3⟩ := S.ex; exact ⟨lo, hi, E _ _ h1, h2.keep E, h3.keep E⟩

theorem product_spec {h : Heap} {w a : Addr} {f n : Int} {c m : Nat} (S : ScR h w a f n c m) {x y : Int} {both : Bool} (hx : 0 ≤ x) (hy : y ≤ n) (hn : n ≤ 16) (hc : c ≤ 1048576) :
    Spec TP 188 #[.pointer (some w), .int .i64 x, .int .i64 y, .bool both] h fun v h' => ∃ t : Sl, v = .slice t.p t.n t.c ∧ NatR h' t (if both then (1 + c) ^ (y - x).toNat else 1) ∧ Ext h h' := by
  refine f188_ok ?_
  unfold f188_sem
  refine (natOf_spec (x := 1) (by decide) (by decide)).mono ?_
  rintro v g ⟨t, rfl, N, E⟩
  refine ⟨t, rfl, ?_⟩
  refine .by (fun st g => x ≤ st.2.1 ∧ (st.2.1 ≤ y ∨ st.2.1 = x) ∧ Ext h g ∧ NatR g st.1 (if both then (1 + c) ^ (st.2.1 - x).toNat else 1)) (fun st _ => (y - st.2.1).toNat) ⟨Int.le_refl _, .inr rfl, E, ?_⟩ ?_
  · have e : (x - x).toNat = 0 := by omega
    dsimp only
    rw [e]
    cases both <;> exact N
  rintro ⟨t, i, _⟩ g ⟨hi0, hi1, E, N⟩
  dsimp only at hi0 hi1 N ⊢
  have Sg := S.keep E.keep
  refine pif_dec (fun hc1 => ?_) fun hc1 => ?_
  · obtain ⟨lo, hi, H, N1, N2⟩ := Sg.ex
    rw [psome_some, w64 (x := i + 1) (by omega)]
    have gl : (List.replicate n.toNat 1)[i.toNat]? = some 1 := by rw [List.getElem?_replicate, if_pos (by omega)]
    have gh : (List.replicate n.toNat c)[i.toNat]? = some c := by rw [List.getElem?_replicate, if_pos (by omega)]
    refine ⟨lo, H.cell 2 rfl, N1.read (by omega) gl fun a1 t1 _ M1 => ?_⟩
    cases both with
    | true =>
      refine pif_t rfl ?_
      rw [psome_some]
      refine ⟨hi, H.cell 3 rfl, N2.read (by omega) gh fun a2 t2 _ M2 => (madd_spec M1 M2 (by have := pow_big (k := 1) hc (by omega); simpa using this)).mono ?_⟩
      rintro v g1 ⟨u, rfl, M3, E1⟩
      have hb := pow_big (k := (i - x).toNat) hc (by omega)
      have hb2 := pow_big (k := (i + 1 - x).toNat) hc (by omega)
      have e1 : (i + 1 - x).toNat = (i - x).toNat + 1 := by omega
      rw [e1, Nat.pow_succ] at hb2
      refine ⟨u, rfl, (mmul_spec (N.ext E1) M3 hb (by have := pow_big (k := 1) hc (by omega); simpa using this) hb2).mono ?_⟩
      rintro v g2 ⟨u2, rfl, M4, E2⟩
      refine ⟨u2, rfl, ⟨by omega, by omega, (E.trans E1).trans E2, ?_⟩, by omega⟩
      rw [e1, Nat.pow_succ]
      exact M4
    | false =>
      have N' : NatR g t 1 := N
      refine pif_f rfl ((mmul_spec N' M1 (by decide) (by decide) (by decide)).mono ?_)
      rintro v g2 ⟨u2, rfl, M4, E2⟩
      exact ⟨u2, rfl, ⟨by omega, by omega, E.trans E2, M4⟩, by omega⟩
  · refine ⟨t, rfl, ?_, E⟩
    have e : (i - x).toNat = (y - x).toNat := by omega
    rw [← e]; exact N

/-! ### the numbers kept -/
structure Memo (h : Heap) (m : Nat) (get : Int → Option Rec) (n f : Int) (c : Nat) : Prop where
  ex : ∃ es cl, h m = some (.map es cl) ∧ ∀ e ∈ es, ∃ id r, e.key = .int .u32 id ∧ get id = some r ∧ ∃ t : Sl, e.val = .slice t.p t.n t.c ∧ NatR h t (nodeW get n f c r)
theorem Memo.ext {h h' : Heap} {m : Nat} {get : Int → Option Rec} {n f : Int} {c : Nat} (M : Memo h m get n f c) (E : Ext h h') : Memo h' m get n f c := by
  obtain ⟨es, cl, h1, h2⟩ := M.ex
  exact ⟨es, cl, E _ _ h1, fun e he => by obtain ⟨id, r, q1, q2, t, q3, q4⟩ := h2 e he; exact ⟨id, r, q1, q2, t, q3, q4.ext E⟩⟩
theorem Memo.chgKeep {h h' : Heap} {m : Nat} {get : Int → Option Rec} {n f : Int} {c : Nat} (M : Memo h m get n f c) (C : Chg h h' fun b => b = m) : Keep h h' := by
  obtain ⟨es, cl, h1, -⟩ := M.ex
  exact C.keep h1
theorem mput_mem {kd : IntKind} {es : Array MapEntry} {cl : Nat} {id : Int} {v : Value} : ∃ es' cl', mput kd es cl id v = .map es' cl' ∧ ∀ e ∈ es', e ∈ es ∨ (e.key = .int kd id ∧ e.val = v) := by
  unfold mput
  cases es.toList.findIdx? (mkey kd id) with
  | none =>
    refine ⟨_, _, rfl, fun e he => ?_⟩
    rw [Array.mem_push] at he
    rcases he with h | h
    · exact .inl h
    · rw [h]; exact .inr ⟨rfl, rfl⟩
  | some i =>
    refine ⟨_, _, rfl, fun e he => ?_⟩
    obtain ⟨j, hj, hje⟩ := Array.mem_iff_getElem.1 he
    rw [Array.getElem_modify] at hje
    split at hje
    · rw [← hje]; exact .inr ⟨rfl, rfl⟩
    · rw [← hje]; exact .inl (Array.getElem_mem _)
theorem Memo.put {h : Heap} {m : Nat} {get : Int → Option Rec} {n f : Int} {c : Nat} {id : Int} {r : Rec} {t : Sl} (M : Memo h m get n f c) (hg : get id = some r) (N : NatR h t (nodeW get n f c r)) :
    ∃ es cl, h m = some (.map es cl) ∧ MapAt h (some m) .u32 es cl ∧ Memo (h.new m (mput .u32 es cl id (.slice t.p t.n t.c))) m get n f c ∧ Chg h (h.new m (mput .u32 es cl id (.slice t.p t.n t.c))) fun b => b = m := by
  obtain ⟨es, cl, h1, h2⟩ := M.ex
  have C : Chg h (h.new m (mput .u32 es cl id (.slice t.p t.n t.c))) fun b => b = m := fun b o hb hn => by rw [new_ne hn]; exact hb
  refine ⟨es, cl, h1, ⟨fun e he => ?_, fun b hb => by cases hb; exact h1, fun h => by cases h⟩, ?_, C⟩
  · obtain ⟨id', r', q1, -⟩ := h2 e he
    exact ⟨id', q1⟩
  · have K := C.keep h1
    obtain ⟨es', cl', e1, e2⟩ := mput_mem (kd := .u32) (es := es) (cl := cl) (id := id) (v := .slice t.p t.n t.c)
    refine ⟨es', cl', by rw [new_at, e1], fun e he => ?_⟩
    rcases e2 e he with h3 | ⟨h3, h4⟩
    · obtain ⟨id', r', q1, q2, t', q3, q4⟩ := h2 e h3
      exact ⟨id', r', q1, q2, t', q3, q4.keep K⟩
    · exact ⟨id, r, h3, hg, t, h4, N.keep K⟩
theorem Memo.get_ {h : Heap} {m : Nat} {get : Int → Option Rec} {n f : Int} {c : Nat} {id : Int} {r : Rec} (M : Memo h m get n f c) (hg : get id = some r) :
    ∃ es cl, MapAt h (some m) .u32 es cl ∧ (mget .u32 es id = none ∨ ∃ t : Sl, mget .u32 es id = some (.slice t.p t.n t.c) ∧ NatR h t (nodeW get n f c r)) := by
  obtain ⟨es, cl, h1, h2⟩ := M.ex
  refine ⟨es, cl, ⟨fun e he => ?_, fun b hb => by cases hb; exact h1, fun h => by cases h⟩, ?_⟩
  · obtain ⟨id', r', q1, -⟩ := h2 e he
    exact ⟨id', q1⟩
  · unfold mget
    cases hf : es.toList.find? (mkey .u32 id) with
    | none => exact .inl rfl
    | some e =>
      right
      have he := List.mem_of_find?_eq_some hf
      have hk := List.find?_some hf
      obtain ⟨id', r', q1, q2, t, q3, q4⟩ := h2 e (by simpa using he)
      unfold mkey at hk
      rw [q1] at hk
      simp only [kEq, Bool.true_and, beq_iff_eq] at hk
      subst hk
      rw [hg] at q2; cases q2
      exact ⟨t, by rw [Option.map_some, q3], q4⟩

section
variable {a w : Addr} {cells : Cells} {n cnt room f : Int} {c m : Nat}
/-- the contract of edges whose levels are so many -/
abbrev EdgeC (w a : Addr) (cells : Cells) (n cnt room f : Int) (c m : Nat) (K : Nat) : Prop := ∀ (h : Heap) (e : Edg) (l : Int), StR h a cells n cnt room → ScR h w a f n c m → Memo h m (getC cells) n f c → e.ok → leadsB (getC cells) n f e l → (n - l).toNat < K →
  Spec TP 130 #[.pointer (some w), e.val, .int .i64 l] h fun v h' => ∃ t : Sl, v = .slice t.p t.n t.c ∧ NatR h' t (edgeW (getC cells) n f c e l) ∧ Memo h' m (getC cells) n f c ∧ Chg h h' fun b => b = m

theorem mnode_spec (G : Good (getC cells) n) (hc : c ≤ 1048576) {K : Nat} (EC : EdgeC w a cells n cnt room f c m K) {h : Heap} {id : Int} {r : Rec} (R : StR h a cells n cnt room) (S : ScR h w a f n c m) (M : Memo h m (getC cells) n f c) (hg : getC cells id = some r) (hf : r.fm = f) (hK : (n - r.tp).toNat ≤ K) :
    Spec TP 186 #[.pointer (some w), .int .u32 id, r.val] h fun v h' => ∃ t : Sl, v = .slice t.p t.n t.c ∧ NatR h' t (nodeW (getC cells) n f c r) ∧ Memo h' m (getC cells) n f c ∧ Chg h h' fun b => b = m := by
  obtain ⟨rok, rr, llo, lhi⟩ := G.ok _ _ hg
  have hv := G.vars
  simp only [rightB] at rr
  have t0 := rok.t0
  have t1 := rok.t1
  have b0 := rok.b0
  have b1 := rok.b1
  refine f186_ok ?_
  unfold f186_sem
  rw [psome_some, w64 (x := r.bt) (by omega), w64 (x := r.tp) (by omega), w64 (x := r.bt + 1) (by omega)]
  obtain ⟨lo, hi, H, -, -⟩ := S.ex
  obtain ⟨es, cl, HM, hm⟩ := M.get_ hg
  refine ⟨_, H.cell 4 rfl, es, cl, HM, ?_⟩
  rcases hm with hm | ⟨t, hm, N⟩
  · rw [hm]
    refine ⟨⟨none, 0, 0⟩, rfl, pif_f rfl ?_⟩
    rw [hf] at llo lhi
    refine (EC h r.lo (r.bt + 1) R S M rok.lo llo (by omega)).mono ?_
    rintro v h1 ⟨tl, rfl, Nl, M1, C1⟩
    have K1 := M.chgKeep C1
    have R1 := R.keep K1
    have S1 := S.keep K1
    refine ⟨tl, rfl, (EC h1 r.hi (r.bt + 1) R1 S1 M1 rok.hi lhi (by omega)).mono ?_⟩
    rintro v h2 ⟨th, rfl, Nh, M2, C2⟩
    have K2 := M1.chgKeep C2
    have R2 := R1.keep K2
    have S2 := S1.keep K2
    have Nl := Nl.keep K2
    have C02 : Chg h h2 fun b => b = m := C1.trans C2 fun _ _ hc => hc
    obtain ⟨lo2, hi2, H2, L2, I2⟩ := S2.ex
    refine ⟨th, rfl, ?_⟩
    rw [psome_some]
    have hle := nodeW_le (f := f) G (c := c) hg
    have hlt := pow_big (k := (n - r.tp).toNat) hc (by omega)
    have bl := edgeW_le (get := getC cells) (n := n) (f := f) c r.lo (r.bt + 1)
    have bh := edgeW_le (get := getC cells) (n := n) (f := f) c r.hi (r.bt + 1)
    have bq := pow_big (k := (n - (r.bt + 1)).toNat) hc (by omega)
    -- the end of both ways
    have fin : ∀ (g : Heap) (u : Sl), Ext h2 g → NatR g u (nodeW (getC cells) n f c r) → ∃ v98 : Option Nat, Has g (w.add 4) [.map v98] ∧ ∃ m6 es6 cl6, v98 = some m6 ∧ MapAt g (some m6) .u32 es6 cl6 ∧
        (∃ t : Sl, Value.slice u.p u.n u.c = .slice t.p t.n t.c ∧ NatR (Heap.new g m6 (mput .u32 es6 cl6 id (.slice u.p u.n u.c))) t (nodeW (getC cells) n f c r) ∧ Memo (Heap.new g m6 (mput .u32 es6 cl6 id (.slice u.p u.n u.c))) m (getC cells) n f c ∧ Chg h (Heap.new g m6 (mput .u32 es6 cl6 id (.slice u.p u.n u.c))) fun b => b = m) := by
      intro g u E N
      have Mg := M2.ext E
      obtain ⟨lo3, hi3, H3, -, -⟩ := (S2.keep E.keep).ex
      obtain ⟨es, cl, q1, q2, q3, q4⟩ := Mg.put hg N
      exact ⟨_, H3.cell 4 rfl, m, es, cl, rfl, q2, u, rfl, N.keep (Mg.chgKeep q4), q3, (C02.trans (Chg.ext E (S := fun b => b = m)) fun _ _ hc => hc).trans q4 fun _ _ hc => hc⟩
    refine ⟨f, H2.cell 1 rfl, ?_⟩
    unfold nodeW at hle
    have e1 : (n - r.tp).toNat = (r.bt + 1 - r.tp).toNat + (n - (r.bt + 1)).toNat := by omega
    by_cases h3 : f = 3
    · refine pif_t (by simp [h3]) ((product_spec S2 (by omega) (by omega) hv.2 hc).mono ?_)
      simp only [if_pos h3] at hle
      rintro v g1 ⟨u1, rfl, P1, E1⟩
      refine ⟨u1, rfl, (product_spec (S2.keep E1.keep) (by omega) (by omega) hv.2 hc).mono ?_⟩
      rintro v g2 ⟨u2, rfl, P2, E2⟩
      have P1 : NatR g1 u1 1 := P1
      have P2 : NatR g2 u2 ((1 + c) ^ (r.bt + 1 - r.tp).toNat) := P2
      have bp := pow_big (k := (r.bt + 1 - r.tp).toNat) hc (by omega)
      have p1 := pow1 c (r.bt + 1 - r.tp).toNat
      refine ⟨u2, rfl, (msub_spec P2 (P1.ext E2) bp p1).mono ?_⟩
      rintro v g3 ⟨u3, rfl, P3, E3⟩
      have E13 := (E1.trans E2).trans E3
      refine ⟨u3, rfl, (mmul_spec ((P1.ext E2).ext E3) (Nl.ext E13) (by decide) (by omega) (by omega)).mono ?_⟩
      rintro v g4 ⟨u4, rfl, P4, E4⟩
      have E14 := E13.trans E4
      rw [Nat.one_mul] at P4
      refine ⟨u4, rfl, (mmul_spec (P3.ext E4) (Nh.ext E14) (by omega) (by omega) (by omega)).mono ?_⟩
      rintro v g5 ⟨u5, rfl, P5, E5⟩
      have E15 := E14.trans E5
      refine ⟨u5, rfl, (madd_spec (P4.ext E5) P5 (by omega)).mono ?_⟩
      rintro v g6 ⟨u6, rfl, P6, E6⟩
      exact ⟨u6, rfl, by rw [psome_some]; exact fin g6 u6 (E15.trans E6) (by unfold nodeW; rw [if_pos h3]; exact P6)⟩
    · refine pif_f (by simp [h3]) ?_
      simp only [if_neg h3] at hle
      have gl : (List.replicate n.toNat 1)[r.bt.toNat]? = some 1 := by rw [List.getElem?_replicate, if_pos (by omega)]
      have gh : (List.replicate n.toNat c)[r.bt.toNat]? = some c := by rw [List.getElem?_replicate, if_pos (by omega)]
      have bp := pow_big (k := (r.bt - r.tp).toNat) hc (by omega)
      have hpos := pow1 c (r.bt - r.tp).toNat
      have hsum : edgeW (getC cells) n f c r.lo (r.bt + 1) + c * edgeW (getC cells) n f c r.hi (r.bt + 1) ≤ (1 + c) ^ (r.bt - r.tp).toNat * (edgeW (getC cells) n f c r.lo (r.bt + 1) + c * edgeW (getC cells) n f c r.hi (r.bt + 1)) := Nat.le_mul_of_pos_left _ hpos
      refine ⟨lo2, H2.cell 2 rfl, L2.read (by omega) gl fun a1 x1 A1 N1 => ?_⟩
      rw [psome_some]
      refine ⟨hi2, H2.cell 3 rfl, I2.read (by omega) gh fun a2 x2 A2 N2 => (mmul_spec N1 Nl (by decide) (by omega) (by omega)).mono ?_⟩
      rintro v g1 ⟨u1, rfl, P1, E1⟩
      rw [Nat.one_mul] at P1
      refine ⟨u1, rfl, E1.keep _ _ A2, E1.keep _ _ (H2.cell 3 rfl), (mmul_spec (N2.ext E1) (Nh.ext E1) (by have := pow_big (k := 1) hc (by omega); rw [Nat.pow_one] at this; omega) (by omega) (by omega)).mono ?_⟩
      rintro v g2 ⟨u2, rfl, P2, E2⟩
      refine ⟨u2, rfl, (madd_spec (P1.ext E2) P2 (by omega)).mono ?_⟩
      rintro v g3 ⟨u3, rfl, P3, E3⟩
      have E13 := (E1.trans E2).trans E3
      refine ⟨u3, rfl, (product_spec (S2.keep E13.keep) (by omega) (by omega) hv.2 hc).mono ?_⟩
      rintro v g4 ⟨u4, rfl, P4, E4⟩
      have P4 : NatR g4 u4 ((1 + c) ^ (r.bt - r.tp).toNat) := P4
      refine ⟨u4, rfl, (mmul_spec P4 (P3.ext E4) bp (by omega) (by omega)).mono ?_⟩
      rintro v g5 ⟨u5, rfl, P5, E5⟩
      exact ⟨u5, rfl, by rw [psome_some]; exact fin g5 u5 ((E13.trans E4).trans E5) (by unfold nodeW; rw [if_neg h3]; exact P5)⟩
  · rw [hm]
    exact ⟨t, rfl, pif_t rfl ⟨t, rfl, N, M, Chg.refl _ _⟩⟩

/-- behind what an edge's node is: its levels -/
theorem medge_tail {h : Heap} {l fr top : Int} {sm : Sl} {x : Nat} {R : Value → Heap → Prop} (S : ScR h w a f n c m) (N : NatR h sm x) (hl : 0 ≤ l) (hlf : 0 ≤ fr) (hft : fr ≤ top) (htn : top ≤ n) (hn : n ≤ 16) (hc : c ≤ 1048576)
    (hx : (1 + c) ^ (fr - l).toNat * x < 18446744073709551616 ^ 64) (H : ∀ (g : Heap) (u : Sl), Ext h g → NatR g u ((1 + c) ^ (fr - l).toNat * x) → R (.slice u.p u.n u.c) g) :
    Spec TP 188 #[.pointer (some w), .int .i64 l, .int .i64 fr, .bool true] h fun r57 h57 => ∃ x57 : Sl, r57 = .slice x57.p x57.n x57.c ∧ Spec TP 188 #[.pointer (some w), .int .i64 fr, .int .i64 top, .bool false] h57 fun r61 h61 => ∃ x61 : Sl, r61 = .slice x61.p x61.n x61.c ∧
      Spec TP 187 #[.slice x57.p x57.n x57.c, .slice x61.p x61.n x61.c] h61 fun r62 h62 => ∃ x62 : Sl, r62 = .slice x62.p x62.n x62.c ∧ Spec TP 187 #[.slice x62.p x62.n x62.c, .slice sm.p sm.n sm.c] h62 fun r64 h64 => ∃ x64 : Sl, r64 = .slice x64.p x64.n x64.c ∧ R (.slice x64.p x64.n x64.c) h64 := by
  refine (product_spec S hl (by omega) hn hc).mono ?_
  rintro v g1 ⟨u1, rfl, P1, E1⟩
  have P1 : NatR g1 u1 ((1 + c) ^ (fr - l).toNat) := P1
  refine ⟨u1, rfl, (product_spec (S.keep E1.keep) hlf htn hn hc).mono ?_⟩
  rintro v g2 ⟨u2, rfl, P2, E2⟩
  have P2 : NatR g2 u2 1 := P2
  have bp := pow_big (k := (fr - l).toNat) hc (by omega)
  have hpos := pow1 c (fr - l).toNat
  refine ⟨u2, rfl, (mmul_spec (P1.ext E2) P2 bp (by decide) (by omega)).mono ?_⟩
  rintro v g3 ⟨u3, rfl, P3, E3⟩
  rw [Nat.mul_one] at P3
  have hx2 : x ≤ (1 + c) ^ (fr - l).toNat * x := Nat.le_mul_of_pos_left _ hpos
  refine ⟨u3, rfl, (mmul_spec P3 (((N.ext E1).ext E2).ext E3) bp (by omega) hx).mono ?_⟩
  rintro v g4 ⟨u4, rfl, P4, E4⟩
  exact ⟨u4, rfl, H g4 u4 (((E1.trans E2).trans E3).trans E4) P4⟩

theorem medge_spec (G : Good (getC cells) n) (hc : c ≤ 1048576) : ∀ K : Nat, EdgeC w a cells n cnt room f c m K := by
  intro K
  induction K with
  | zero => intro h e l _ _ _ _ _ hk; omega
  | succ K ih =>
    intro h e l R S M he L hk
    have hv := G.vars
    have e0 := he.t0
    have e1 := he.t1
    obtain ⟨t1, t2, t3, t4⟩ := lead_top G L
    refine f130_ok ?_
    unfold f130_sem
    refine pif_split (fun h0 => ?_) fun h0 => ?_
    · simp only [beq_iff_eq] at h0
      exact ⟨⟨none, 0, 0⟩, rfl, by rw [edgeW_zero h0]; exact NatR.zero, M, Chg.refl _ _⟩
    simp only [beq_eq_false_iff_ne] at h0
    obtain ⟨lo, hi, H, -, -⟩ := S.ex
    rw [psome_some, w64 (x := e.t) (by omega)]
    refine ⟨_, H.cell0 rfl, (sget_spec R he.a0 he.a1).ret ?_⟩
    refine ⟨_, _, _, _, _, _, _, _, rfl, ?_⟩
    rw [psome_some]
    refine ⟨_, H.cell0 rfl, (svars_spec R).ret ⟨_, rfl, (natOf_spec (x := 1) (by decide) (by decide)).mono ?_⟩⟩
    rintro v g ⟨one, rfl, N1, E1⟩
    refine ⟨one, rfl, ?_⟩
    have hle := edgeW_le (get := getC cells) (n := n) (f := f) c e l
    have hlt := pow_big (k := (n - l).toNat) hc (by omega)
    have hform := L.1.1
    cases hg : getC cells e.a with
    | none =>
      refine pif_f rfl ?_
      have eW := edgeW_end G (c := c) L h0 hg
      have ht : topOf (getC cells) n e = n := by unfold topOf; rw [hg]
      rw [ht] at t4 t2
      rw [psome_some]
      obtain ⟨lo1, hi1, H1, -, -⟩ := (S.keep E1.keep).ex
      have fin : ∀ (g2 : Heap) (u : Sl), Ext g g2 → NatR g2 u (edgeW (getC cells) n f c e l) → ∃ t : Sl, Value.slice u.p u.n u.c = .slice t.p t.n t.c ∧ NatR g2 t (edgeW (getC cells) n f c e l) ∧ Memo g2 m (getC cells) n f c ∧ Chg h g2 fun b => b = m :=
        fun g2 u E N => ⟨u, rfl, N, M.ext (E1.trans E), Chg.ext (E1.trans E)⟩
      have N1 : NatR g one 1 := N1
      have go : ∀ fr : Int, 0 ≤ fr → fr ≤ n → freeOf f e l n = fr → _ := fun fr h1 h2 h3 => medge_tail (top := n) (R := fun v h' => ∃ t : Sl, v = .slice t.p t.n t.c ∧ NatR h' t (edgeW (getC cells) n f c e l) ∧ Memo h' m (getC cells) n f c ∧ Chg h h' fun b => b = m) (S.keep E1.keep) N1 t1 h1 h2 (Int.le_refl _) hv.2 hc
        (by rw [← h3, Nat.mul_one, ← eW]; omega) fun g2 u E N => fin g2 u E (by rw [← h3, Nat.mul_one, ← eW] at N; exact N)
      unfold freeOf at go
      refine ⟨f, H1.cell 1 rfl, pif_split (fun q1 => pif_split (fun q2 => ?_) fun q2 => ?_) fun q1 => pif_split (fun q2 => ?_) fun q2 => pif_split (fun q3 => ?_) fun q3 => ?_⟩
      · simp only [beq_iff_eq] at q1
        exact go n hv.1 (Int.le_refl _) (by rw [if_pos (.inl q1)])
      · simp only [beq_iff_eq, beq_eq_false_iff_ne] at q1 q2; exact absurd q1 q2
      · simp only [beq_iff_eq] at q2
        exact go n hv.1 (Int.le_refl _) (by rw [if_pos (.inr q2)])
      · simp only [beq_iff_eq, beq_eq_false_iff_ne] at q1 q2 q3
        have := t4 q3 h0
        exact go e.t e0 (by omega) (by rw [if_neg (by simp [q1, q2]), if_pos q3])
      · simp only [beq_eq_false_iff_ne] at q1 q2 q3
        exact go l t1 (by omega) (by rw [if_neg (by simp [q1, q2]), if_neg q3])
    | some r =>
      refine pif_t rfl ?_
      have eW := edgeW_node G (c := c) L h0 hg
      have ht : topOf (getC cells) n e = r.tp := by unfold topOf; rw [hg]
      rw [ht] at t4 t2 t3
      obtain ⟨rok, rr, -, -⟩ := G.ok _ _ hg
      have r0 := rok.t0
      have r1 := rok.t1
      have hfm := (leads_child G.ids L hg).1
      have Sg := S.keep E1.keep
      refine (mnode_spec G hc ih (R.ext E1) Sg (M.ext E1) hg hfm (by simp only [rightB] at rr; omega)).mono ?_
      rintro v g1 ⟨sm, rfl, N, M1, C1⟩
      have K1 := (M.ext E1).chgKeep C1
      have S1 := Sg.keep K1
      obtain ⟨lo1, hi1, H1, -, -⟩ := S1.ex
      refine ⟨sm, rfl, ?_⟩
      rw [psome_some]
      have etp : wrap .i64 ((some r).getD rec0).tp = r.tp := w64 (x := r.tp) (by omega)
      rw [etp]
      have C01 : Chg h g1 fun b => b = m := (Chg.ext E1 (S := fun b => b = m)).trans C1 fun _ _ hc => hc
      have fin : ∀ (g2 : Heap) (u : Sl), Ext g1 g2 → NatR g2 u (edgeW (getC cells) n f c e l) → ∃ t : Sl, Value.slice u.p u.n u.c = .slice t.p t.n t.c ∧ NatR g2 t (edgeW (getC cells) n f c e l) ∧ Memo g2 m (getC cells) n f c ∧ Chg h g2 fun b => b = m :=
        fun g2 u E N => ⟨u, rfl, N, M1.ext E, C01.trans (Chg.ext E (S := fun b => b = m)) fun _ _ hc => hc⟩
      have go : ∀ fr : Int, 0 ≤ fr → fr ≤ r.tp → freeOf f e l r.tp = fr → _ := fun fr h1 h2 h3 => medge_tail (top := r.tp) (R := fun v h' => ∃ t : Sl, v = .slice t.p t.n t.c ∧ NatR h' t (edgeW (getC cells) n f c e l) ∧ Memo h' m (getC cells) n f c ∧ Chg h h' fun b => b = m) S1 N t1 h1 h2 t3 hv.2 hc
        (by rw [← h3, ← eW]; omega) fun g2 u E N => fin g2 u E (by rw [← h3, ← eW] at N; exact N)
      unfold freeOf at go
      refine ⟨f, H1.cell 1 rfl, pif_split (fun q1 => pif_split (fun q2 => ?_) fun q2 => ?_) fun q1 => pif_split (fun q2 => ?_) fun q2 => pif_split (fun q3 => ?_) fun q3 => ?_⟩
      · simp only [beq_iff_eq] at q1
        exact go r.tp r0 (Int.le_refl _) (by rw [if_pos (.inl q1)])
      · simp only [beq_iff_eq, beq_eq_false_iff_ne] at q1 q2; exact absurd q1 q2
      · simp only [beq_iff_eq] at q2
        exact go r.tp r0 (Int.le_refl _) (by rw [if_pos (.inr q2)])
      · simp only [beq_iff_eq, beq_eq_false_iff_ne] at q1 q2 q3
        have := t4 q3 h0
        exact go e.t e0 (by omega) (by rw [if_neg (by simp [q1, q2]), if_pos q3])
      · simp only [beq_eq_false_iff_ne] at q1 q2 q3
        exact go l t1 (by omega) (by rw [if_neg (by simp [q1, q2]), if_neg q3])
end
end Go.Proofs.YtbeapoopomlgaaaGreat.Sx
