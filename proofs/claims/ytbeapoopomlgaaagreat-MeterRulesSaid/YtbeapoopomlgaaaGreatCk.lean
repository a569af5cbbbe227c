/- Contracts: a number by a power of two. -/
import Derived.Test.YtbeapoopomlgaaaGreatCj
namespace Go.Proofs.YtbeapoopomlgaaaGreat.Sx
open Go Go.Proofs
open Go.IntKind (wrap)

theorem shl_nat {n k : Nat} (hk : k < 64) : shlI .u64 (n : Int) (k : Int) = ((n * 2 ^ k % 18446744073709551616 : Nat) : Int) := by
  unfold shlI
  have e : min (k : Int).toNat (IntKind.bits .u64) = k := by
    have : IntKind.bits .u64 = 64 := rfl
    rw [this]; omega
  rw [e, wu64m]
  have : (n : Int) * 2 ^ k = ((n * 2 ^ k : Nat) : Int) := by rw [Int.natCast_mul]; rfl
  rw [this]; rfl
theorem or_nat {a b k : Nat} (hb : b < 2 ^ k) (h : 2 ^ k * a + b < 18446744073709551616) : orI .u64 ((2 ^ k * a : Nat) : Int) (b : Int) = ((2 ^ k * a + b : Nat) : Int) := by
  unfold orI
  have e1 : IntKind.bits .u64 = 64 := rfl
  rw [e1]
  have e2 : (BitVec.ofInt 64 ((2 ^ k * a : Nat) : Int)).toNat = 2 ^ k * a := by rw [BitVec.toNat_ofInt]; omega
  have e3 : (BitVec.ofInt 64 (b : Int)).toNat = b := by rw [BitVec.toNat_ofInt]; omega
  rw [BitVec.toNat_or, e2, e3, ← Nat.two_pow_add_eq_or_of_lt hb, wu64 (by omega)]
theorem lz_spec {h : Heap} : Spec TP 233 #[.int .u64 1048576] h fun v h' => v = .int .i64 43 ∧ h' = h := by
  refine f233_ok ?_
  unfold f233_sem
  refine (len64_spec (n := 1048576) (by omega)).mono ?_
  rintro v h' ⟨⟨r, rfl, h1, -⟩, rfl⟩
  have : r = 21 := by
    rcases h1 with ⟨h0, -⟩ | ⟨h1, h2, h3⟩
    · omega
    · have a1 : 20 < r := (Nat.pow_lt_pow_iff_right (a := 2) (by decide)).1 (by simpa using h3)
      have a2 : r - 1 ≤ 20 := (Nat.pow_le_pow_iff_right (a := 2) (by decide)).1 (by simpa using h2)
      omega
  subst this
  exact ⟨_, rfl, by rw [w64 (by omega)]; rfl, rfl⟩

theorem dv1 {U : Nat} (hU : U < 9223372036854775808) (h : ((U / 2147483648 : Nat) : Int) ≥ 4294967296) : False := by omega
theorem dv2 (a : Int) : ¬ ((0 : Int) % 18446744073709551616 > a % 18446744073709551616) := by
  rw [Int.zero_emod]
  have := Int.emod_nonneg a (show (18446744073709551616 : Int) ≠ 0 by omega)
  omega
theorem dv3 {U t' : Nat} (ht' : t' < 2097152) : (((((U : Int) * 4294967296) % 18446744073709551616 + ((t' * 2048 : Nat) : Int)) % 18446744073709551616) - (((U / 2147483648 : Nat) : Int) * 9223372036854775808) % 18446744073709551616) % 18446744073709551616 = ((U % 2147483648 * 4294967296 + t' * 2048 : Nat) : Int) := by
  have e : (U : Int) = ((U / 2147483648 : Nat) : Int) * 2147483648 + ((U % 2147483648 : Nat) : Int) := by omega
  have h1 : U % 2147483648 < 2147483648 := Nat.mod_lt _ (by omega)
  have e2 : ((U % 2147483648 * 4294967296 + t' * 2048 : Nat) : Int) = ((U % 2147483648 : Nat) : Int) * 4294967296 + (t' : Int) * 2048 := by rw [Int.natCast_add, Int.natCast_mul, Int.natCast_mul]; rfl
  have e3 : ((t' * 2048 : Nat) : Int) = (t' : Int) * 2048 := Int.natCast_mul _ _
  rw [e2, e3, e]
  generalize ((U / 2147483648 : Nat) : Int) = q
  generalize U % 2147483648 = r at h1 ⊢
  omega
theorem dv4 {U t' : Nat} (ht' : t' < 2097152) : U % 2147483648 * 4294967296 + t' * 2048 < 9223372036854775808 := by omega
theorem dv5 {U t' : Nat} : (U * 2097152 + t') / 1048576 = U / 2147483648 * 4294967296 + (U % 2147483648 * 4294967296 + t' * 2048) / 2147483648 := by omega
theorem dv6 {U t' : Nat} : (U * 2097152 + t') % 1048576 = (U % 2147483648 * 4294967296 + t' * 2048) % 2147483648 * 4294967296 / 8796093022208 := by omega
theorem dv7 {U : Nat} (hU : U < 9223372036854775808) : U / 2147483648 < 4294967296 := by omega
theorem dv8 {V : Nat} (hV : V < 9223372036854775808) : wrap .u64 (Int.tdiv (V : Int) 2147483648) = ((V / 2147483648 : Nat) : Int) := by
  rw [Int.tdiv_eq_ediv_of_nonneg (by omega), wu64 (by omega)]; omega
theorem dv9 {V : Nat} (hV : V < 9223372036854775808) : wrap .u64 ((V : Int) - wrap .u64 (((V / 2147483648 : Nat) : Int) * 2147483648)) = ((V % 2147483648 : Nat) : Int) := by
  rw [wu64 (x := ((V / 2147483648 : Nat) : Int) * 2147483648) (by omega), wu64 (by omega)]; omega
theorem dv10 {Q V : Nat} (hQ : Q < 4294967296) (hV : V < 9223372036854775808) : wrap .u64 (wrap .u64 (((Q : Nat) : Int) * 4294967296) + ((V / 2147483648 : Nat) : Int)) = ((Q * 4294967296 + V / 2147483648 : Nat) : Int) := by
  rw [wu64 (x := (Q : Int) * 4294967296) (by omega), wu64 (by omega)]; omega
theorem dv11 {V : Nat} : wrap .u64 (wrap .u64 (wrap .u64 ((V : Int) * 4294967296) + 0) - wrap .u64 (((V / 2147483648 : Nat) : Int) * 9223372036854775808)) = ((V % 2147483648 * 4294967296 : Nat) : Int) := by
  simp only [wu64m]
  have e : (V : Int) = ((V / 2147483648 : Nat) : Int) * 2147483648 + ((V % 2147483648 : Nat) : Int) := by omega
  have h1 : V % 2147483648 < 2147483648 := Nat.mod_lt _ (by omega)
  have e2 : ((V % 2147483648 * 4294967296 : Nat) : Int) = ((V % 2147483648 : Nat) : Int) * 4294967296 := by omega
  rw [e2, e]
  generalize ((V / 2147483648 : Nat) : Int) = q
  generalize V % 2147483648 = r at h1 ⊢
  omega
theorem div64_spec {h : Heap} {d t : Nat} (hd : d < 1048576) (ht : t < 18446744073709551616) :
    Spec TP 189 #[.int .u64 d, .int .u64 t, .int .u64 1048576] h fun v h' => v = .tuple #[.int .u64 (((d * 18446744073709551616 + t) / 1048576 : Nat) : Int), .int .u64 (((d * 18446744073709551616 + t) % 1048576 : Nat) : Int)] ∧ h' = h := by
  refine f189_ok ?_
  unfold f189_sem
  refine pif_f (by decide) (pif_f (by simp; omega) (pif_split (fun h0 => ?_) fun h0 => ?_))
  · simp only [beq_iff_eq] at h0
    have : d = 0 := by omega
    subst this
    refine ⟨by decide, by decide, ?_, rfl⟩
    rw [Int.tdiv_eq_ediv_of_nonneg (by omega), Int.tmod_eq_emod_of_nonneg (by omega), wu64 (by omega)]
    congr 4
    · omega
    · congr 1
      omega
  · refine lz_spec.ret ⟨_, rfl, ?_⟩
    have e43 : wrap .u64 43 = 43 := by kernel_rfl
    have e21 : wrap .u64 (64 - 43) = 21 := by kernel_rfl
    have ey : shlI .u64 1048576 43 = 9223372036854775808 := by kernel_rfl
    have ey1 : shrI .u64 9223372036854775808 32 = 2147483648 := by kernel_rfl
    have ey0 : andI .u64 9223372036854775808 4294967295 = 0 := by kernel_rfl
    simp only [e43, e21, ey, ey1, ey0]
    clear e43 e21 ey ey1 ey0
    have d43 := shl_nat (n := d) (k := 43) (by decide)
    have t43 := shl_nat (n := t) (k := 43) (by decide)
    have t21 := shr_nat (n := t) (k := 21) (by decide)
    have c43 : ((43 : Nat) : Int) = 43 := rfl
    have c21 : ((21 : Nat) : Int) = 21 := rfl
    rw [c43] at d43 t43
    rw [c21] at t21
    have ed : d * 2 ^ 43 % 18446744073709551616 = 2 ^ 43 * d := by clear d43 t43 t21; omega
    rw [ed] at d43
    clear ed
    have eor := or_nat (a := d) (b := t / 2 ^ 21) (k := 43) (by clear d43 t43 t21; omega) (by clear d43 t43 t21; omega)
    have et : t * 2 ^ 43 % 18446744073709551616 = t % 2097152 * 8796093022208 := Nat.mul_mod_mul_right 8796093022208 t 2097152
    rw [et] at t43
    clear et
    rw [d43, t21, t43, eor]
    clear d43 t43 t21 eor
    have hU : 2 ^ 43 * d + t / 2 ^ 21 < 9223372036854775808 := by omega
    have hD : d * 18446744073709551616 + t = (2 ^ 43 * d + t / 2 ^ 21) * 2097152 + t % 2097152 := by omega
    rw [hD]
    clear hD
    have ht' : t % 2097152 < 2097152 := Nat.mod_lt _ (by omega)
    generalize 2 ^ 43 * d + t / 2 ^ 21 = U at hU ⊢
    generalize t % 2097152 = t' at ht' ⊢
    have hN : t' * 8796093022208 < 18446744073709551616 := by omega
    have n32 : shrI .u64 ((t' * 8796093022208 : Nat) : Int) 32 = ((t' * 2048 : Nat) : Int) := by
      have := shr_nat (n := t' * 8796093022208) (k := 32) (by decide)
      have e : t' * 8796093022208 / 2 ^ 32 = t' * 2048 := by omega
      rw [e] at this; exact this
    have n0 : andI .u64 ((t' * 8796093022208 : Nat) : Int) 4294967295 = 0 := by
      rw [and32 hN]
      have e : t' * 8796093022208 % 4294967296 = 0 := by
        rw [show t' * 8796093022208 = t' * 2048 * 4294967296 by omega]
        exact Nat.mul_mod_left _ _
      rw [e]; rfl
    simp only [n32, n0]
    clear n32 n0
    have eq1 : wrap .u64 (Int.tdiv (U : Int) 2147483648) = ((U / 2147483648 : Nat) : Int) := by
      rw [Int.tdiv_eq_ediv_of_nonneg (by omega), wu64 (by omega)]; omega
    rw [eq1]
    clear eq1
    have erh : wrap .u64 ((U : Int) - wrap .u64 (((U / 2147483648 : Nat) : Int) * 2147483648)) = ((U % 2147483648 : Nat) : Int) := by
      rw [wu64 (x := ((U / 2147483648 : Nat) : Int) * 2147483648) (by omega), wu64 (by omega)]; omega
    rw [erh]
    clear erh
    refine ⟨by decide, by decide, by decide, by decide, by decide, by decide, by decide, ?_⟩
    refine .by (fun st g => g = h ∧ st.1 = ((U / 2147483648 : Nat) : Int) ∧ st.2.1 = ((U % 2147483648 : Nat) : Int)) (fun _ _ => 0) ⟨rfl, rfl, rfl⟩ ?_
    rintro ⟨q, r, _⟩ g ⟨rfl, hq, hr⟩
    dsimp only at hq hr ⊢
    refine pif_dec (fun h => (dv1 hU (by rw [← hq]; exact h)).elim) fun _ => pif_dec (fun h => ?_) fun _ => ?_
    · rw [Int.mul_zero, wu64m, wu64m] at h; exact (dv2 _ h).elim
    rw [hq]
    obtain ⟨V, hVd⟩ : ∃ V, V = U % 2147483648 * 4294967296 + t' * 2048 := ⟨_, rfl⟩
    have eu : wrap .u64 (wrap .u64 (wrap .u64 ((U : Int) * 4294967296) + ((t' * 2048 : Nat) : Int)) - wrap .u64 (((U / 2147483648 : Nat) : Int) * 9223372036854775808)) = (V : Int) := by
      rw [hVd]; simp only [wu64m]; exact dv3 ht'
    have d5 : (U * 2097152 + t') / 1048576 = U / 2147483648 * 4294967296 + V / 2147483648 := by rw [hVd]; exact dv5
    have d6 : (U * 2097152 + t') % 1048576 = V % 2147483648 * 4294967296 / 8796093022208 := by rw [hVd]; exact dv6
    have hV : V < 9223372036854775808 := by rw [hVd]; exact dv4 ht'
    have hQ : U / 2147483648 < 4294967296 := dv7 hU
    rw [eu, d5, d6, dv8 hV, dv9 hV]
    clear eu d5 d6 hVd
    refine ⟨by decide, ?_⟩
    refine .by (fun st g' => g' = g ∧ st.2.1 = ((V / 2147483648 : Nat) : Int) ∧ st.1 = ((V % 2147483648 : Nat) : Int)) (fun _ _ => 0) ⟨rfl, rfl, rfl⟩ ?_
    rintro ⟨r, q, _⟩ g ⟨rfl, hq, hr⟩
    dsimp only at hq hr ⊢
    refine pif_dec (fun h => (dv1 hV (by rw [← hq]; exact h)).elim) fun _ => pif_dec (fun h => ?_) fun _ => ⟨by decide, ?_, rfl⟩
    · rw [Int.mul_zero, wu64m, wu64m] at h; exact (dv2 _ h).elim
    rw [hq]
    have sh := shr_nat (n := V % 2147483648 * 4294967296) (k := 43) (by decide)
    rw [dv10 hQ hV, dv11]
    exact congrArg (fun z => Value.tuple #[.int .u64 ((U / 2147483648 * 4294967296 + V / 2147483648 : Nat) : Int), .int .u64 z]) sh

theorem dv12 {r w : Nat} (hr : r < 1048576) (hw : w < 18446744073709551616) : (r * 18446744073709551616 + w) / 1048576 < 18446744073709551616 ∧ (r * 18446744073709551616 + w) % 1048576 < 1048576 ∧
    r * 18446744073709551616 + w = (r * 18446744073709551616 + w) / 1048576 * 1048576 + (r * 18446744073709551616 + w) % 1048576 :=
  ⟨Nat.div_lt_of_lt_mul (by omega), Nat.mod_lt _ (by omega), (Nat.div_add_mod' _ _).symm⟩
theorem dv13 {r w q m z : Nat} (h : r * 18446744073709551616 + w = q * 1048576 + m) : w + 18446744073709551616 * (z * 1048576 + r) = (q + 18446744073709551616 * z) * 1048576 + m := by omega
theorem divided_spec {h : Heap} {s : Sl} {ws : List Int} (S : SlR h s 1 encW ws) (ow : WOK ws) (lw : ws.length ≤ 64) :
    Spec TP 132 #[.slice s.p s.n s.c, .int .u64 1048576] h fun v h' => ∃ (t : Sl) (r : Nat), v = .tuple #[.slice t.p t.n t.c, .int .u64 r] ∧ r = valW ws % 1048576 ∧ NatR h' t (valW ws / 1048576) ∧ Ext h h' := by
  have e1 := S.len
  refine f132_ok ?_
  unfold f132_sem
  have em : (((s.n : Nat) : Int)).toNat = s.n := by omega
  rw [em, w64 (x := ((s.n : Nat) : Int) - 1) (by omega)]
  refine ⟨⟨by omega, by omega, by omega, by decide⟩, fun b hb => ?_⟩
  have O0 : Own (h.new b (.cells (zrow [.int .u64 0] (s.n * 1)).toArray 46 (0, 0))) ⟨some (adr b), s.n, s.n⟩ 46 1 encW (List.replicate s.n 0) b := Own.make h b 46 (enc := encW) 0 rfl (fun _ => rfl) (by decide)
  have E0 : Ext h (h.new b (.cells (zrow [.int .u64 0] (s.n * 1)).toArray 46 (0, 0))) := Ext.new _ hb
  refine .by (fun st g => 0 ≤ st.1 ∧ st.1 < 1048576 ∧ -1 ≤ st.2.1 ∧ st.2.1 < s.n ∧ Ext h g ∧ ∃ out, Own g ⟨some (adr b), s.n, s.n⟩ 46 1 encW out b ∧ WOK out ∧ valW (ws.drop (st.2.1 + 1).toNat) = valW (out.drop (st.2.1 + 1).toNat) * 1048576 + st.1.toNat) (fun st _ => (st.2.1 + 1).toNat) ?_ ?_
  · refine ⟨by simp, by simp, by dsimp only; omega, by dsimp only; omega, E0, _, O0, fun w hw => by rw [List.mem_replicate] at hw; omega, ?_⟩
    have e3 : ((s.n : Int) - 1 + 1).toNat = s.n := by omega
    dsimp only
    rw [e3, List.drop_eq_nil_of_le (by omega), List.drop_eq_nil_of_le (by simp)]
    rfl
  rintro ⟨r, i, _⟩ g ⟨hr0, hr1, hi0, hi1, E, out, O, ho, he⟩
  dsimp only at hr0 hr1 hi0 hi1 he ⊢
  have hol := O.len
  dsimp only at hol
  refine pif_dec (fun hc => ?_) fun hc => ?_
  · have hil : i.toNat < ws.length := by omega
    have hio : i.toNat < out.length := by omega
    have hg := List.getElem?_eq_getElem hil
    have hwb := ow _ (List.getElem_mem hil)
    refine (S.ext E).read (by omega) hg fun a ha => ⟨_, ha, ?_⟩
    have er : r = ((r.toNat : Nat) : Int) := by omega
    have ew : ws[i.toNat] = ((ws[i.toNat].toNat : Nat) : Int) := by omega
    have D := div64_spec (h := g) (d := r.toNat) (t := ws[i.toNat].toNat) (by omega) (by omega)
    rw [← er, ← ew] at D
    rw [w64 (x := i - 1) (by omega)]
    obtain ⟨hq, hm, hdm⟩ := dv12 (r := r.toNat) (w := ws[i.toNat].toNat) (by omega) (by omega)
    generalize (r.toNat * 18446744073709551616 + ws[i.toNat].toNat) / 1048576 = q at D hq hdm ⊢
    generalize (r.toNat * 18446744073709551616 + ws[i.toNat].toNat) % 1048576 = m at D hm hdm ⊢
    refine D.ret ⟨_, _, rfl, by omega, by omega, O.canPut hio, ⟨by omega, by omega, by omega, by omega, (setChg _ _ _ _).extR E fun c hc => by rw [hc]; exact hb, _, O.put hio (q : Int), wok_set ho (by omega), ?_⟩, by omega⟩
    have e3 : (i + 1).toNat = i.toNat + 1 := by omega
    have e4 : (i - 1 + 1).toNat = i.toNat := by omega
    rw [e3] at he
    have hio2 : i.toNat < (out.set i.toNat (q : Int)).length := by simp; omega
    rw [e4, List.drop_eq_getElem_cons hil, List.drop_eq_getElem_cons hio2, List.getElem_set_self, List.drop_set_of_lt (by omega)]
    show ws[i.toNat].toNat + 18446744073709551616 * valW (ws.drop (i.toNat + 1)) = ((q : Int).toNat + 18446744073709551616 * valW (out.drop (i.toNat + 1))) * 1048576 + ((m : Nat) : Int).toNat
    rw [Int.toNat_natCast, Int.toNat_natCast, he]
    exact dv13 hdm
  · have ei : (i + 1).toNat = 0 := by omega
    rw [ei, List.drop_zero, List.drop_zero] at he
    refine (norm_spec (s := ⟨some (adr b), s.n, s.n⟩) O.toR (by omega) (Nat.le_refl _)).mono ?_
    rintro v g' ⟨t, rfl, O2, E2⟩
    have N := O2.natR ho
    have e5 : valW out = valW ws / 1048576 := by omega
    rw [e5] at N
    exact ⟨t, rfl, t, r.toNat, by rw [Int.toNat_of_nonneg hr0], by omega, N, E.trans E2⟩

theorem natDiv_spec {h : Heap} {s : Sl} {x : Nat} (S : NatR h s x) (hx : x < 18446744073709551616 ^ 64) :
    Spec TP 66 #[.slice s.p s.n s.c, .int .u64 1048576] h fun v h' => ∃ t : Sl, v = .tuple #[.slice t.p t.n t.c, .int .u64 ((x % 1048576 : Nat) : Int), .bool true] ∧ NatR h' t (x / 1048576) ∧ Ext h h' := by
  obtain ⟨hs, ws, S, nw, ow, rfl⟩ := S
  have lw := len_le nw ow 64 hx
  refine f66_ok ?_
  unfold f66_sem
  refine (norm_spec S (by omega) hs).mono ?_
  rintro v h1 ⟨p, rfl, O1, E1⟩
  rw [nw] at O1
  have S1 := O1.toR
  have e1 := S1.len
  refine ⟨p, rfl, pif_f (by simp) ((fits_spec (by omega)).ret ⟨_, rfl, pif_f rfl ((divided_spec S1 ow lw).mono ?_)⟩)⟩
  rintro v h2 ⟨t, r, rfl, rfl, N, E2⟩
  exact ⟨t, _, rfl, t, rfl, N, E1.trans E2⟩
end Go.Proofs.YtbeapoopomlgaaaGreat.Sx
