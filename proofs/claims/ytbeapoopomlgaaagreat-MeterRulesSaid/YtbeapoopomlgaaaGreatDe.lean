/- Contracts: a cache of jobs. -/
import Derived.Test.YtbeapoopomlgaaaGreatDd
namespace Go.Proofs.YtbeapoopomlgaaaGreat.Sx
open Go Go.Proofs
open Go.IntKind (wrap)

structure Job where
  f : Int
  op : Int
  l : Int
  a : Edg
  b : Edg
  c : Edg
@[reducible] def Job.vals (j : Job) : List Value := [.int .u8 j.f, .int .u8 j.op, .int .u8 j.l, .int .u8 j.a.t, .int .u32 j.a.a, .int .u8 j.b.t, .int .u32 j.b.a, .int .u8 j.c.t, .int .u32 j.c.a]
@[reducible] def Job.val (j : Job) : Value := .agg #[.int .u8 j.f, .int .u8 j.op, .int .u8 j.l, .int .u8 j.a.t, .int .u32 j.a.a, .int .u8 j.b.t, .int .u32 j.b.a, .int .u8 j.c.t, .int .u32 j.c.a]
structure Ent where
  k : Job
  v : Edg
  ep : Int
@[reducible] def Ent.vals (x : Ent) : List Value := [.int .u8 x.k.f, .int .u8 x.k.op, .int .u8 x.k.l, .int .u8 x.k.a.t, .int .u32 x.k.a.a, .int .u8 x.k.b.t, .int .u32 x.k.b.a, .int .u8 x.k.c.t, .int .u32 x.k.c.a, .int .u8 x.v.t, .int .u32 x.v.a, .int .i64 x.ep]
def ent0 : Ent := ⟨⟨0, 0, 0, ⟨0, 0⟩, ⟨0, 0⟩, ⟨0, 0⟩⟩, ⟨0, 0⟩, 0⟩

theorem jmix_spec {h : Heap} {a b : Int} : Spec TP 315 #[.int .u64 a, .int .u64 b] h fun v h' => v = .int .u64 (mixI a b) ∧ h' = h := by
  refine f315_ok ?_
  unfold f315_sem
  exact ⟨by decide, rfl, rfl⟩
def edgI (e : Edg) : Int := orI .u64 (shlI .u64 (wrap .u64 e.t) 32) (wrap .u64 e.a)
theorem jedge_spec {h : Heap} {e : Edg} : Spec TP 316 #[e.val] h fun v h' => v = .int .u64 (edgI e) ∧ h' = h := by
  refine f316_ok ?_
  unfold f316_sem
  exact ⟨by decide, rfl, rfl⟩
def jobI (j : Job) : Int := mixI (mixI (mixI (mixI (orI .u64 (orI .u64 (shlI .u64 (wrap .u64 j.f) 16) (shlI .u64 (wrap .u64 j.op) 8)) (wrap .u64 j.l)) 1) (edgI j.a)) (edgI j.b)) (edgI j.c)
theorem jhash_spec {h : Heap} {j : Job} : Spec TP 314 #[j.val] h fun v h' => v = .int .u64 (jobI j) ∧ h' = h := by
  refine f314_ok ?_
  unfold f314_sem
  exact ⟨by decide, by decide, jmix_spec.ret ⟨_, rfl, jedge_spec.ret ⟨_, rfl, jmix_spec.ret ⟨_, rfl, jedge_spec.ret ⟨_, rfl, jmix_spec.ret ⟨_, rfl, jedge_spec.ret ⟨_, rfl, jmix_spec.ret ⟨_, rfl, rfl, rfl⟩⟩⟩⟩⟩⟩⟩⟩
theorem jhashM (a b c d e f g i k : Int) : MethRun TP 240 (.agg #[.int .u8 a, .int .u8 b, .int .u8 c, .int .u8 d, .int .u32 e, .int .u8 f, .int .u32 g, .int .u8 i, .int .u32 k]) "Hash" 314 (.agg #[.int .u8 a, .int .u8 b, .int .u8 c, .int .u8 d, .int .u32 e, .int .u8 f, .int .u32 g, .int .u8 i, .int .u32 k]) :=
  ⟨fun w => by kernel_rfl⟩
theorem jhashB : ∃ fn, TP.funcs[314]? = some fn ∧ fn.body.isSome = true := ⟨Tryz.f314, Tryz.func314, by kernel_rfl⟩
theorem and63 (x : Int) : 0 ≤ andI .u64 x 63 ∧ andI .u64 x 63 < 64 := by
  unfold andI
  have e1 : IntKind.bits .u64 = 64 := rfl
  rw [e1]
  have e3 : (BitVec.ofInt 64 (63 : Int)).toNat = 63 := by rw [BitVec.toNat_ofInt]; rfl
  have h := Nat.and_le_right (n := (BitVec.ofInt 64 x).toNat) (m := 63)
  rw [BitVec.toNat_and, e3]
  rw [wu64 (by omega)]
  omega

theorem Has.pre {h : Heap} {a : Addr} {ws rest : List Value} (H : Has h a (ws ++ rest)) : Has h a ws := by
  obtain ⟨hs, c, e, fr, hb, hi⟩ := H
  exact ⟨hs, c, e, fr, hb, fun i v hv => hi i v (by rw [List.getElem?_append_left (List.getElem?_eq_some_iff.1 hv).1]; exact hv)⟩
/-- a cache of 64 places -/
structure CaAt (h : Heap) (b bl : Nat) (L : List Ent) : Prop where
  ex : ∃ hits misses : Int, Blk h b 291 [.slice (some (adr bl)) 64 64, .int .i64 1, .int .i64 hits, .int .i64 misses]
  own : Own h ⟨some (adr bl), 64, 64⟩ 342 12 Ent.vals L bl
  ne : b ≠ bl
section
variable {h h' : Heap} {b bl : Nat} {L : List Ent} {j : Job}
theorem CaAt.len (R : CaAt h b bl L) : L.length = 64 := R.own.n.symm
theorem CaAt.chg {S : Nat → Prop} (R : CaAt h b bl L) (C : Chg h h' S) (h1 : ¬ S b) (h2 : ¬ S bl) : CaAt h' b bl L := by
  obtain ⟨⟨x, y, B⟩, O, hn⟩ := R
  exact ⟨⟨x, y, B.chg C h1⟩, O.chg C h2, hn⟩
theorem CaAt.ext (R : CaAt h b bl L) (E : Ext h h') : CaAt h' b bl L := by
  obtain ⟨⟨x, y, B⟩, O, hn⟩ := R
  exact ⟨⟨x, y, B.ext E⟩, O.ext E, hn⟩
theorem CaAt.live (R : CaAt h b bl L) : h b ≠ none ∧ h bl ≠ none := by
  obtain ⟨⟨x, y, B⟩, O, hn⟩ := R
  exact ⟨by rw [B.row]; simp, O.live⟩

theorem cat_spec (R : CaAt h b bl L) : Spec TP 282 #[.pointer (some (adr b)), j.val] h fun v h' => (∃ i : Nat, i < 64 ∧ v = .pointer (some ((adr bl).add (i * 12)))) ∧ h' = h := by
  obtain ⟨⟨x, y, B⟩, O, hn⟩ := R
  refine f282_ok ?_
  unfold f282_sem
  rw [psome_some]
  refine ⟨⟨some (adr bl), 64, 64⟩, B.all.cell0 rfl, ?_⟩
  rw [psome_some]
  refine ⟨⟨some (adr bl), 64, 64⟩, B.all.cell0 rfl, 314, _, jhashM _ _ _ _ _ _ _ _ _, jhashB, jhash_spec.ret ⟨_, rfl, B.all.cell0 rfl, B.all.cell0 rfl, ?_⟩⟩
  rw [psome_some]
  have e1 : wrap .u64 (wrap .i64 (((64 : Nat) : Int) - 1)) = 63 := by rw [w64 (by omega), wu64 (by omega)]; rfl
  rw [e1]
  have ha := and63 (jobI j)
  exact ⟨ha.1, ha.2, ⟨(andI .u64 (jobI j) 63).toNat, by omega, rfl⟩, rfl⟩
abbrev GotC (h : Heap) (b bl : Nat) (L : List Ent) (j : Job) (v : Value) (h' : Heap) : Prop := (∃ (e : Edg) (ok : Bool), v = .tuple #[e.val, .bool ok] ∧ (ok = true → ∃ x ∈ L, x.k = j ∧ x.ep = 1 ∧ x.v = e)) ∧ CaAt h' b bl L ∧ Chg h h' fun c => c = b
theorem cget_spec (R : CaAt h b bl L) : Spec TP 264 #[.pointer (some (adr b)), j.val] h (GotC h b bl L j) := by
  refine f264_ok ?_
  unfold f264_sem
  refine pif_f rfl ((cat_spec R).mono ?_)
  rintro v g ⟨⟨i, hi, rfl⟩, rfl⟩
  obtain ⟨⟨hits, misses, B⟩, O, hn⟩ := R
  have hL : i < L.length := by have := O.n; dsimp only at this; omega
  have hx := List.getElem?_eq_getElem hL
  obtain ⟨a, ha, H⟩ := O.toR.at_ i _ hx
  cases ha
  have hm := List.getElem_mem hL
  generalize L[i] = x at hx H hm
  refine ⟨_, rfl, ?_⟩
  rw [psome_some]
  refine ⟨x.ep, H.cell 11 rfl, ?_⟩
  rw [psome_some]
  refine ⟨1, B.all.cell 1 rfl, ?_⟩
  have miss : psome (some (adr b)) fun a32 => ∃ v34 : Int, Has g (a32.add 3) [.int .i64 v34] ∧ psome (some (adr b)) fun a36 => CanPut g (a36.add 3) 1 ∧ GotC g b bl L j (.tuple #[.agg #[.int .u8 0, .int .u32 0], .bool false]) (Heap.put g (a36.add 3) [.int .i64 (wrap .i64 (v34 + 1))]) := by
    rw [psome_some]
    refine ⟨misses, B.all.cell 3 rfl, ?_⟩
    rw [psome_some]
    refine ⟨B.can (by simp), ⟨e0, false, rfl, fun h => by cases h⟩, ⟨⟨hits, _, B.set _ (by simp)⟩, O.chg (setChg g b 3 _) (fun hb => hn hb.symm), hn⟩, setChg g b 3 _⟩
  refine pif_split (fun _ => miss) fun hep => ?_
  simp only [bne_eq_false_iff_eq] at hep
  rw [psome_some]
  refine ⟨_, _, _, _, _, _, _, _, _, Has.pre (rest := [.int .u8 x.v.t, .int .u32 x.v.a, .int .i64 x.ep]) H, pif_split (fun _ => miss) fun hk => ?_⟩
  simp only [Bool.not_eq_false', Bool.and_eq_true, beq_iff_eq, Bool.and_true] at hk
  rw [psome_some]
  refine ⟨hits, B.all.cell 2 rfl, ?_⟩
  rw [psome_some]
  refine ⟨B.can (by simp), ?_⟩
  rw [psome_some]
  refine ⟨_, _, (H.chg (setChg g b 2 _) fun hb => hn (by rw [add_block] at hb; exact hb.symm)).part 9 (getPart (rest := [.int .i64 x.ep]) rfl), ⟨x.v, true, rfl, fun _ => ⟨x, hm, ?_, hep, rfl⟩⟩, ⟨⟨_, misses, B.set _ (by simp)⟩, O.chg (setChg g b 2 _) (fun hb => hn hb.symm), hn⟩, setChg g b 2 _⟩
  obtain ⟨⟨f, op, l, a, b, c⟩, v, ep⟩ := x
  obtain ⟨f', op', l', a', b', c'⟩ := j
  obtain ⟨at', aa'⟩ := a'
  obtain ⟨bt', ba'⟩ := b'
  obtain ⟨ct', ca'⟩ := c'
  obtain ⟨at1, aa1⟩ := a
  obtain ⟨bt1, ba1⟩ := b
  obtain ⟨ct1, ca1⟩ := c
  dsimp only at hk
  obtain ⟨h1, h2, h3, ⟨h4, h5⟩, ⟨h6, h7⟩, h8, h9⟩ := hk
  simp only [h1, h2, h3, h4, h5, h6, h7, h8, h9]
theorem cput_spec {e : Edg} (R : CaAt h b bl L) : Spec TP 266 #[.pointer (some (adr b)), j.val, e.val] h fun v h' => v = .tuple #[] ∧ (∃ i : Nat, CaAt h' b bl (L.set i ⟨j, e, 1⟩)) ∧ Chg h h' fun c => c = bl := by
  refine f266_ok ?_
  unfold f266_sem
  obtain ⟨⟨hits, misses, B⟩, O, hn⟩ := id R
  refine pif_t rfl ?_
  rw [psome_some]
  refine ⟨1, B.all.cell 1 rfl, (cat_spec R).mono ?_⟩
  rintro v g ⟨⟨i, hi, rfl⟩, rfl⟩
  have hL : i < L.length := by have := O.n; dsimp only at this; omega
  refine ⟨_, rfl, B.all.cell 1 rfl, ?_⟩
  rw [psome_some]
  have C := put_chg g ((adr bl).add (i * 12)) (Ent.vals ⟨j, e, 1⟩)
  have C2 : Chg g (g.put ((adr bl).add (i * 12)) (Ent.vals ⟨j, e, 1⟩)) fun c => c = bl := C.mono fun c _ hc => by rw [add_block] at hc; exact hc
  exact ⟨O.canPut hL, rfl, ⟨i, ⟨hits, misses, B.chg C2 hn⟩, O.put hL ⟨j, e, 1⟩, hn⟩, C2⟩
theorem cnew_spec : Spec TP 155 #[.int .i64 6] h fun v h' => ∃ b bl, h b = none ∧ h bl = none ∧ v = .tuple #[.pointer (some (adr b)), .int .u8 0] ∧ CaAt h' b bl (List.replicate 64 ent0) ∧ Ext h h' := by
  refine f155_ok ?_
  unfold f155_sem
  have es : shlI .i64 1 6 = 64 := by kernel_rfl
  rw [es]
  refine pif_f rfl (pif_f rfl ⟨by decide, ⟨by decide, by decide, by decide, by decide⟩, fun b12 h12 b14 h14 => ?_⟩)
  have hne : b14 ≠ b12 := fun hb => by rw [hb, new_at] at h14; cases h14
  have h14' : h b14 = none := by rw [new_ne hne] at h14; exact h14
  have O := Own.make h b12 342 (sz := 12) (m := 64) (enc := Ent.vals) ent0 (z := [.int .u8 0, .int .u8 0, .int .u8 0, .int .u8 0, .int .u32 0, .int .u8 0, .int .u32 0, .int .u8 0, .int .u32 0, .int .u8 0, .int .u32 0, .int .i64 0]) rfl (fun _ => rfl) (by decide)
  exact ⟨b14, b12, h14', h12, rfl, ⟨⟨0, 0, Blk.new _ _ _ _⟩, O.ext (Ext.new _ h14), hne⟩, (Ext.new _ h12).trans (Ext.new _ h14)⟩
end
end Go.Proofs.YtbeapoopomlgaaaGreat.Sx
