/- The statement's function: it returns true, and changes nothing. -/
import Derived.Test.YtbeapoopomlgaaaGreatCx
namespace Go.Proofs.YtbeapoopomlgaaaGreat.Sx
open Go Go.Proofs
open Go.IntKind (wrap)

theorem mayE_range (get : Int → Option Rec) (n f : Int) (e : Edg) (l : Int) : 0 ≤ mayE get n f e l ∧ mayE get n f e l ≤ 4 := by
  unfold mayE
  repeat' split
  all_goals omega
theorem count_words {N : Nat} {ws : List Int} (nw : NormW ws) (ow : WOK ws) (hv : valW ws = N) (hN : N < 18446744073709551616) : digitsOf [(N : Int)] = digitsOf ws := by
  rcases Nat.eq_zero_or_pos N with h0 | h0
  · have : ws = [] := norm_uniq nw ow rfl (fun _ hw => by cases hw) (by rw [hv, h0]; rfl)
    subst this h0
    show dgi 0 64 [] = []
    exact dgi_zero 64
  · have : ws = [(N : Int)] := norm_uniq nw ow (by show trimW [(N : Int)] = [(N : Int)]; rw [trim_cons, if_pos (show trimW [] = [] from rfl), if_neg (by omega)]) (fun w hw => by rw [List.mem_singleton] at hw; omega) (by rw [hv]; show N = (N : Int).toNat + 18446744073709551616 * 0; omega)
    rw [this]
theorem ones_eq {g : List Bool → Bool} {n : Nat} (hn : n ≤ 16) : onesL (wsum 1048576 g n) (n + 1) = onesT (tabG g n) n (tabG g n).length := by
  have hp : 2 ^ n ≤ 2 ^ 16 := Nat.pow_le_pow_right (by decide) hn
  unfold onesL onesT
  rw [tabG_len]
  apply List.map_congr_left
  intro k hk
  have hk := List.mem_range.1 hk
  rw [wsum_poly, polyE_digit (by decide) k (n + 1) (cntK g n) (fun j => by have := cntK_le n j g; omega) hk, cntT_tab]

theorem meterCounts_spec {h : Heap} {s : Sl} {recs : List Rec} (S : SlR h s 7 Rec.vals recs) (hok : ∀ x ∈ recs, x.ok) {n f : Int} {e : Edg} (he : e.ok) :
    Spec TP 3 #[.int .i64 n, .slice s.p s.n s.c, .int .u8 f, e.val] h fun v h' => v = .bool true ∧ Ext h h' := by
  have hsl := S.len
  refine f3_ok ?_
  unfold f3_sem
  refine alive_spec.ret ⟨_, rfl, pif_f rfl (pif_dec (fun _ => ⟨rfl, Ext.refl _⟩) fun h40 => pif_dec (fun _ => ⟨rfl, Ext.refl _⟩) fun hn0 => pif_dec (fun _ => ⟨rfl, Ext.refl _⟩) fun hn8 => ?_)⟩
  refine (built_spec S hok (by omega) (by omega) (by omega) (by decide) (by decide)).mono ?_
  rintro v g0 ⟨b, bm, S1, S2, rfl, B⟩
  have hinv := foldl_inv (n := n) (room := 100) recs [] hok (by simp)
  have hlen : (builtR n 100 recs).length ≤ 40 := by have := hinv.2; simp only [List.length_nil] at this; show (recs.foldl (findR n 100) []).length ≤ 40; omega
  have W : WFl n (builtR n 100 recs) := WFl.built recs [] hok (wf_nil n)
  have G := W.good (by omega) (by omega) (by omega)
  generalize builtR n 100 recs = l at B hlen W G
  have hgetC : getC (l.map some) = recAt l := funext fun id => getC_of l id
  have hgetL : getL (nodesOf l) = recAt l := funext fun id => getL_of l id
  have R0 : StR g0 (adr b) (l.map some) n l.length 100 := B.st.toR
  have Q0 : RefR g0 (adr bm) (nodesOf l) n 100 := B.rf.toR
  have E0 : Ext h g0 := B.ext
  have GC : Good (getC (l.map some)) n := by rw [hgetC]; exact G
  have GL : Good (getL (nodesOf l)) n := by rw [hgetL]; exact G
  have hML : (l.map some).length < 1000000000 := by simp; omega
  have hLok : ∀ p ∈ nodesOf l, p.2.ok := fun p hp => by
    obtain ⟨i, hi⟩ := List.mem_iff_getElem?.1 hp
    rw [nodes_get] at hi
    cases hx : l[i]? with
    | none => rw [hx] at hi; cases hi
    | some x => rw [hx] at hi; cases hi; exact (W.ok x (List.mem_of_getElem? hx)).1
  refine ⟨_, _, _, rfl, pif_f rfl ?_⟩
  refine (count_spec (f := f) R0 GC he hML).mono ?_
  rintro v g1 ⟨t1, rfl, c1, d1, E1⟩
  have E01 := E0.trans E1
  have R1 := R0.ext E1
  refine ⟨t1, _, rfl, (ones_spec (f := f) R1 GC he hML).mono ?_⟩
  rintro v g2 ⟨t2, rfl, c2, d2, E2⟩
  have E02 := E01.trans E2
  have R2 := R1.ext E2
  refine ⟨t2, _, rfl, (profile_spec (f := f) R2 GC he hML).mono ?_⟩
  rintro v g3 ⟨t3, rfl, c3, d3, E3⟩
  have E03 := E02.trans E3
  have R3 := R2.ext E3
  have E13 := E2.trans E3
  have Q3 := Q0.ext (E1.trans E13)
  refine ⟨t3, _, rfl, (depth_spec (f := f) R3 GC he hML).ret ⟨_, _, rfl, (ways_spec (f := f) R3 GC he hML).ret ⟨_, _, rfl, (rmay_spec Q3 he hLok).ret ⟨_, rfl, ?_⟩⟩⟩⟩
  rw [hgetC] at c1 d1 c2 d2 c3 d3 ⊢
  rw [hgetL]
  have hm := mayE_range (recAt l) n f e 0
  generalize hc : mayE (recAt l) n f e 0 = code at c1 d1 c2 d2 c3 d3 hm ⊢
  rw [w64 (x := code) (by omega)]
  have same : ∀ {A B : Prop}, B → pif (code != code) A B := fun hb => pif_f (by simp) hb
  refine same (same (same (same (same ?_))))
  refine pif_split (fun h0 => ?_) fun h0 => ?_
  · simp only [bne_iff_ne, ne_eq] at h0
    rw [c1 h0, c2 h0, c3 h0, if_neg h0, if_neg h0]
    refine pif_t ?_ (pif_t rfl ⟨rfl, E03⟩)
    show (wrap .i64 (wrap .i64 (((0 : Nat) : Int) + ((0 : Nat) : Int)) + ((0 : Nat) : Int)) == 0) = true
    rw [w64 (x := ((0 : Nat) : Int) + ((0 : Nat) : Int)) (by omega), w64 (by omega)]; rfl
  · simp only [bne_eq_false_iff_eq] at h0
    subst h0
    have N1 := d1 rfl
    have N2 := d2 rfl
    obtain ⟨M3, CM3, N3⟩ := d3 rfl
    have L := mayE_ok hc
    rw [if_pos rfl, if_pos rfl]
    have HO : HoldOK (getL (nodesOf l)) n f e 0 := by rw [hgetL]; exact leads_holdOK L
    refine (table_spec GL Q3 he HO).mono ?_
    rintro v g4 ⟨t4, rfl, T4, E4⟩
    rw [hgetL] at T4
    have en0 : (n - 0).toNat = n.toNat := by omega
    have hTl : (tabE (recAt l) n f e).length = 2 ^ n.toNat := tabG_len _ _
    have hp : 2 ^ n.toNat ≤ 2 ^ 8 := Nat.pow_le_pow_right (by decide) (by omega)
    refine ⟨t4, rfl, (rcount_spec T4 (by omega)).ret ⟨_, rfl, fun b5 hb5 => ?_⟩⟩
    have hcl : (tabE (recAt l) n f e).countP id ≤ 2 ^ n.toNat := by rw [← hTl]; exact List.countP_le_length
    have hW1 : edgeW (recAt l) n f 1 e 0 = (tabE (recAt l) n f e).countP id := by unfold edgeW; rw [en0, wsum_count]
    have hW2 : onesL (edgeW (recAt l) n f 1048576 e 0) (n.toNat + 1) = onesT (tabE (recAt l) n f e) n.toNat (tabE (recAt l) n f e).length := by unfold edgeW; rw [en0, ones_eq (by omega)]
    rw [hW1] at N1
    rw [hW2] at N2
    generalize hNN : (tabE (recAt l) n f e).countP id = N at N1 hcl ⊢
    rw [wu64 (x := (N : Int)) (by omega)]
    have E5 : Ext g4 (g4.new b5 (.cells #[.int .u64 N] 46)) := Ext.new _ hb5
    have B5 : Blk (g4.new b5 (.cells #[.int .u64 N] 46)) b5 46 (encW N) := Blk.new _ _ _ _
    refine (digits_spec (s := ⟨some (adr b5), 1, 1⟩) (ws := [(N : Int)]) ⟨rfl, fun i y hi => ?_⟩ (fun w hw => by rw [List.mem_singleton] at hw; omega) (by simp)).mono ?_
    · cases i with
      | zero => cases hi; exact ⟨_, rfl, B5.all⟩
      | succ i => simp at hi
    rintro v g6 ⟨⟨t6, rfl, D6⟩, E6⟩
    have E46 := E5.trans E6
    have E36 := E4.trans E46
    obtain ⟨hcap, ws, SW, nw, ow, hv⟩ := N1
    have hwl := len_le nw ow 1 (by rw [hv]; omega)
    rw [count_words nw ow hv (by omega)] at D6
    have E16 := E13.trans E36
    refine ⟨t6, rfl, (isD_spec (SW.ext E16) nw ow (by omega) D6 rfl).ret ⟨_, rfl, pif_t rfl ?_⟩⟩
    refine (rones_spec (T4.ext E46) hTl (by omega)).mono ?_
    rintro v g7 ⟨⟨t7, rfl, O7⟩, E7⟩
    have E27 := (E3.trans E36).trans E7
    refine ⟨t7, rfl, (ints_spec (N2.ext E27) O7 (by rw [ones_len]; omega)).ret ⟨_, rfl, pif_t rfl ?_⟩⟩
    have E37 := E36.trans E7
    refine (rprofile_spec (Q3.ext E37) G (by omega)).mono ?_
    rintro v g8 ⟨⟨t8, M8, rfl, CM8, P8⟩, E8⟩
    have E38 := E37.trans E8
    rw [prof_perm (CM3.same CM8)] at P8
    refine ⟨t8, rfl, (ints_spec (N3.ext E38) P8 (by simp [profL]; omega)).ret ⟨_, rfl, pif_t rfl ?_⟩⟩
    have Q8 := Q3.ext E38
    have hbel : Below (getL (nodesOf l)) n e.a 16 := fun r hr => by have := (GL.ok _ _ hr).1.t0; omega
    have hlid : e.a < 2 ∨ ∃ r, getL (nodesOf l) e.a = some r := by rw [hgetL]; exact lead_id G L
    refine (rdepth_spec GL 16 e (Nat.le_refl _) Q8 he hlid hbel).ret ⟨_, rfl, pif_t (by rw [hgetL]; simp) ?_⟩
    refine (rways_spec GL 16 e (Nat.le_refl _) Q8 he hlid hbel).ret ⟨_, rfl, pif_t (by rw [hgetL]; simp) ?_⟩
    exact (same_spec (R3.ext E38) Q8 (by omega)).ret ⟨_, rfl, rfl, E03.trans E38⟩
end Go.Proofs.YtbeapoopomlgaaaGreat.Sx
