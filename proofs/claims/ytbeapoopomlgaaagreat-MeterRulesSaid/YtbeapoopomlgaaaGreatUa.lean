/- Words for contracts: whole numbers, parts of the heap, slices that are read, arrays of one's own. -/
import Derived.Test.YtbeapoopomlgaaaGreatSl
namespace Go.Proofs.YtbeapoopomlgaaaGreat.Sx
open Go Go.Proofs
open Go.IntKind (wrap)

theorem psome_some (a : Addr) (k : Addr → Prop) : psome (some a) k = k a := rfl
theorem pif_true (A B : Prop) : pif true A B = A := rfl
theorem pif_false (A B : Prop) : pif false A B = B := rfl

/-! ### whole numbers -/
theorem w64 {x : Int} (h : -9223372036854775808 ≤ x ∧ x < 9223372036854775808) : wrap .i64 x = x := by
  have hb : IntKind.bits .i64 = 64 := rfl
  have hs : IntKind.signed .i64 = true := rfl
  unfold wrap
  simp only [hb, hs, Bool.true_and, decide_eq_true_eq]
  split <;> omega
theorem wu64m (x : Int) : wrap .u64 x = x % 18446744073709551616 := by simp [wrap, IntKind.bits, IntKind.signed]
theorem wu32m (x : Int) : wrap .u32 x = x % 4294967296 := by simp [wrap, IntKind.bits, IntKind.signed]
theorem wu16m (x : Int) : wrap .u16 x = x % 65536 := by simp [wrap, IntKind.bits, IntKind.signed]
theorem wu8m (x : Int) : wrap .u8 x = x % 256 := by simp [wrap, IntKind.bits, IntKind.signed]
theorem wu64 {x : Int} (h : 0 ≤ x ∧ x < 18446744073709551616) : wrap .u64 x = x := by rw [wu64m]; omega
theorem wu32 {x : Int} (h : 0 ≤ x ∧ x < 4294967296) : wrap .u32 x = x := by rw [wu32m]; omega
theorem wu16 {x : Int} (h : 0 ≤ x ∧ x < 65536) : wrap .u16 x = x := by rw [wu16m]; omega
theorem wu8 {x : Int} (h : 0 ≤ x ∧ x < 256) : wrap .u8 x = x := by rw [wu8m]; omega

/-! ### calls -/
section
variable {P : Program} {f : FuncId} {args : Array Value} {h : Heap}
theorem Spec.ret {w : Value} {K : Value → Heap → Prop} (C : Spec P f args h fun v h' => v = w ∧ h' = h) (H : K w h) : Spec P f args h K :=
  C.mono (by rintro _ _ ⟨rfl, rfl⟩; exact H)
/-- less of the heap may be told -/
theorem Spec.drop {K K' : Value → Heap → Prop} (C : Spec P f args h K) (H : ∀ v h', K v h' → ∃ h'', (∀ b o, h'' b = some o → h' b = some o) ∧ K' v h'') : Spec P f args h K' :=
  ⟨fun u hu => (C.run u hu).mono fun _ u' ⟨v, h', e1, e2, F⟩ => by
    obtain ⟨h'', hs, hk⟩ := H v h' e2
    exact ⟨v, h'', e1, hk, fun b o hb => F.heap b o (hs b o hb), F.size, F.frame, fun b o hb => F.dom b o (hs b o hb), F.os, F.out⟩⟩
end

/-! ### heaps that grow -/
def Ext (h h' : Heap) : Prop := ∀ b o, h b = some o → h' b = some o
/-- what is not in S stays -/
def Chg (h h' : Heap) (S : Nat → Prop) : Prop := ∀ b o, h b = some o → ¬ S b → h' b = some o
theorem Ext.refl (h : Heap) : Ext h h := fun _ _ hb => hb
theorem Ext.trans {a b c : Heap} (x : Ext a b) (y : Ext b c) : Ext a c := fun n o hn => y n o (x n o hn)
theorem Ext.new {h : Heap} {b : Nat} (o : Obj) (hb : h b = none) : Ext h (h.new b o) := fun c p hc => by
  unfold Heap.new; split
  · subst_vars; rw [hb] at hc; cases hc
  · exact hc
theorem Ext.newR {h0 h : Heap} (E : Ext h0 h) {b : Nat} (o : Obj) (hb : h0 b = none) : Ext h0 (h.new b o) := fun c p hc => by
  unfold Heap.new; split
  · subst_vars; rw [hb] at hc; cases hc
  · exact E c p hc
theorem Ext.fresh {h h' : Heap} (E : Ext h h') {b : Nat} (hb : h' b = none) : h b = none := by
  cases hh : h b with
  | none => rfl
  | some o => rw [E b o hh] at hb; cases hb
theorem Chg.ext {h h' : Heap} {S : Nat → Prop} (E : Ext h h') : Chg h h' S := fun b o hb _ => E b o hb
theorem Chg.toExt {h h' : Heap} (E : Chg h h' fun _ => False) : Ext h h' := fun b o hb => E b o hb id
theorem Chg.refl (h : Heap) (S : Nat → Prop) : Chg h h S := fun _ _ hb _ => hb
theorem Chg.mono {h h' : Heap} {S S' : Nat → Prop} (C : Chg h h' S) (hs : ∀ b, h b ≠ none → S b → S' b) : Chg h h' S' := fun b o hb hn => C b o hb fun hS => hn (hs b (by simp [hb]) hS)
theorem Chg.trans {a b c : Heap} {S S' : Nat → Prop} (x : Chg a b S) (y : Chg b c S') (hs : ∀ n, a n ≠ none → S' n → S n) : Chg a c S :=
  fun n o hn hS => y n o (x n o hn hS) fun hS' => hS (hs n (by simp [hn]) hS')
theorem new_at (h : Heap) (b : Nat) (o : Obj) : h.new b o b = some o := by simp [Heap.new]
theorem new_ne {h : Heap} {b c : Nat} {o : Obj} (hc : c ≠ b) : h.new b o c = h c := by simp [Heap.new, hc]
theorem put_ne {h : Heap} {p : Addr} {vs : List Value} {c : Nat} (hc : c ≠ p.block) : h.put p vs c = h c := by simp [Heap.put, hc]

/-- a pure call -/
theorem Spec.pure {P : Program} {f : FuncId} {args : Array Value} {h : Heap} {Q : Value → Prop} (C : Spec P f args h fun v h' => Q v ∧ Ext h h') : Spec P f args h fun v h' => Q v ∧ h' = h :=
  C.drop fun _ _ ⟨h1, h2⟩ => ⟨h, h2, h1, rfl⟩

theorem adr_add (b n : Nat) : (adr b).add n = ⟨b, n, none⟩ := by
  unfold Addr.add; split
  · subst_vars; rfl
  · simp
theorem add_block (a : Addr) (n : Nat) : (a.add n).block = a.block := by unfold Addr.add; split <;> rfl
theorem add_add (a : Addr) (m n : Nat) : (a.add m).add n = a.add (m + n) := by
  unfold Addr.add
  by_cases hm : m = 0 <;> by_cases hn : n = 0 <;> simp [hm, hn, Nat.add_assoc]

/-! ### parts of the heap -/
theorem Has.ext {h h' : Heap} {p : Addr} {vs : List Value} (H : Has h p vs) (E : Ext h h') : Has h' p vs := ⟨H.spot, by
  obtain ⟨c, e, fr, h1, h2⟩ := H.row; exact ⟨c, e, fr, E _ _ h1, h2⟩⟩
theorem Has.chg {h h' : Heap} {p : Addr} {vs : List Value} {S : Nat → Prop} (H : Has h p vs) (E : Chg h h' S) (hS : ¬ S p.block) : Has h' p vs := ⟨H.spot, by
  obtain ⟨c, e, fr, h1, h2⟩ := H.row; exact ⟨c, e, fr, E _ _ h1 hS, h2⟩⟩
theorem Has.live {h : Heap} {p : Addr} {vs : List Value} (H : Has h p vs) : h p.block ≠ none := by
  obtain ⟨c, e, fr, h1, h2⟩ := H.row; simp [h1]

/-- a block of one's own -/
structure Blk (h : Heap) (b T : Nat) (vs : List Value) : Prop where
  row : h b = some (.cells vs.toArray T (0, 0))
theorem Blk.has {h : Heap} {b T : Nat} {vs ws : List Value} (B : Blk h b T vs) {p : Addr} (hp : p.block = b) (hs : p.spot = none) (hw : ∀ i v, ws[i]? = some v → vs[p.off + i]? = some v) : Has h p ws :=
  ⟨hs, vs.toArray, T, (0, 0), by rw [hp]; exact B.row, fun i v hi => by rw [List.getElem?_toArray]; exact hw i v hi⟩
theorem Blk.has1 {h : Heap} {b T : Nat} {vs : List Value} {w : Value} (B : Blk h b T vs) {o : Nat} (hw : vs[o]? = some w) : Has h ⟨b, o, none⟩ [w] :=
  B.has (p := ⟨b, o, none⟩) rfl rfl fun i v hi => by
    cases i with
    | zero => simp only [List.getElem?_cons_zero, Option.some.injEq] at hi; subst hi; exact hw
    | succ i => simp at hi
theorem Blk.all {h : Heap} {b T : Nat} {vs : List Value} (B : Blk h b T vs) : Has h (adr b) vs := B.has rfl rfl fun i v hi => by simpa using hi
theorem Blk.canPut {h : Heap} {b T : Nat} {vs : List Value} (B : Blk h b T vs) {p : Addr} {n : Nat} (hp : p.block = b) (hs : p.spot = none) (hn : p.off + n ≤ vs.length) : CanPut h p n :=
  ⟨hs, vs.toArray, T, by rw [hp]; exact B.row, by simpa using hn⟩
theorem Blk.new (h : Heap) (b T : Nat) (vs : List Value) : Blk (h.new b (.cells vs.toArray T (0, 0))) b T vs := ⟨new_at _ _ _⟩
theorem Blk.chg {h h' : Heap} {b T : Nat} {vs : List Value} {S : Nat → Prop} (B : Blk h b T vs) (E : Chg h h' S) (hS : ¬ S b) : Blk h' b T vs := ⟨E _ _ B.row hS⟩
theorem Blk.ext {h h' : Heap} {b T : Nat} {vs : List Value} (B : Blk h b T vs) (E : Ext h h') : Blk h' b T vs := ⟨E _ _ B.row⟩
theorem Blk.ne {h : Heap} {b b' T T' : Nat} {vs vs' : List Value} (B : Blk h b T vs) (B' : Blk h b' T' vs') (hT : T ≠ T') : b ≠ b' := fun hb => by
  subst hb
  have := B.row.symm.trans B'.row
  simp only [Option.some.injEq, Obj.cells.injEq] at this
  exact hT this.2.1

def lput (vs : List Value) (o : Nat) (ws : List Value) : List Value := vs.take o ++ ws ++ vs.drop (o + ws.length)
theorem spl_lput : ∀ (ws : List Value) (vs : List Value) (o : Nat), o + ws.length ≤ vs.length → spl vs.toArray o ws = (lput vs o ws).toArray := by
  intro ws vs o ho
  apply Array.ext'
  apply List.ext_getElem?
  intro i
  have hg := spl_get ws vs.toArray o i (by simpa using ho)
  rw [Array.getElem?_toList, hg]
  simp only [lput]
  have e1 : min o vs.length = o := by omega
  split
  · rename_i h2
    rw [List.append_assoc, List.getElem?_append_left (by simp; omega), List.getElem?_take, if_pos h2]; simp
  · split
    · rename_i h1 h2
      rw [List.append_assoc, List.getElem?_append_right (by simp; omega)]
      simp only [List.length_take]
      rw [e1, List.getElem?_append_left (by omega)]
    · rename_i h1 h2
      rw [List.getElem?_append_right (by simp; omega)]
      simp only [List.length_append, List.length_take, List.getElem?_drop]
      rw [e1]
      have e2 : o + ws.length + (i - (o + ws.length)) = i := by omega
      rw [e2]; simp
theorem Blk.put {h : Heap} {b T : Nat} {vs ws : List Value} (B : Blk h b T vs) {p : Addr} (hp : p.block = b) (ho : p.off + ws.length ≤ vs.length) : h.put p ws = h.new b (.cells (lput vs p.off ws).toArray T (0, 0)) := by
  funext c
  simp only [Heap.put, Heap.new]
  subst hp
  split
  · rename_i hc; subst hc; rw [B.row]; simp only; rw [spl_lput _ _ _ ho]
  · rfl

/-! ### slices that are read -/
structure SlR {α : Type} (h : Heap) (s : Sl) (sz : Nat) (enc : α → List Value) (l : List α) : Prop where
  len : s.n = l.length
  at_ : ∀ i x, l[i]? = some x → ∃ a, s.p = some a ∧ Has h (a.add (i * sz)) (enc x)
section
variable {α : Type} {h h' : Heap} {s : Sl} {sz : Nat} {enc : α → List Value} {l : List α}
theorem SlR.ext (S : SlR h s sz enc l) (E : Ext h h') : SlR h' s sz enc l := ⟨S.len, fun i x hi => by obtain ⟨a, h1, h2⟩ := S.at_ i x hi; exact ⟨a, h1, h2.ext E⟩⟩
theorem SlR.chg {B : Nat → Prop} (S : SlR h s sz enc l) (E : Chg h h' B) (hB : ∀ a, s.p = some a → ¬ B a.block) : SlR h' s sz enc l :=
  ⟨S.len, fun i x hi => by obtain ⟨a, h1, h2⟩ := S.at_ i x hi; exact ⟨a, h1, h2.chg E (by rw [add_block]; exact hB a h1)⟩⟩
theorem SlR.read (S : SlR h s sz enc l) {i : Int} (h0 : 0 ≤ i) {x : α} (hx : l[i.toNat]? = some x) {k : Addr → Prop} (H : ∀ a, Has h (a.add (i.toNat * sz)) (enc x) → k a) :
    psome s.p fun a => 0 ≤ i ∧ i < ((s.n : Nat) : Int) ∧ k a := by
  obtain ⟨a, h1, h2⟩ := S.at_ _ x hx
  rw [h1]
  have := (List.getElem?_eq_some_iff.1 hx).1
  exact ⟨h0, by rw [S.len]; omega, H a h2⟩
theorem SlR.nil (c : Nat) : SlR h ⟨none, 0, c⟩ sz enc [] := ⟨rfl, fun i x hi => by simp at hi⟩
end

/-! ### arrays of one's own -/
structure Own {α : Type} (h : Heap) (s : Sl) (T sz : Nat) (enc : α → List Value) (l : List α) (b : Nat) : Prop where
  p : s.p = some (adr b)
  n : s.n = l.length
  cap : s.n ≤ s.c
  esz : ∀ x, (enc x).length = sz
  row : ∃ junk : List Value, junk.length = (s.c - s.n) * sz ∧ Blk h b T (l.flatMap enc ++ junk)

theorem flat_len {α : Type} {enc : α → List Value} {sz : Nat} (he : ∀ x, (enc x).length = sz) (l : List α) : (l.flatMap enc).length = l.length * sz := by
  induction l with
  | nil => simp
  | cons x l ih => simp only [List.flatMap_cons, List.length_append, ih, he, List.length_cons, Nat.succ_mul]; omega
theorem flat_get {α : Type} {enc : α → List Value} {sz : Nat} (he : ∀ x, (enc x).length = sz) : ∀ (l : List α) (i : Nat) (x : α), l[i]? = some x → ∀ j, j < sz → (l.flatMap enc)[i * sz + j]? = (enc x)[j]? := by
  intro l
  induction l with
  | nil => intro i x hi; simp at hi
  | cons y l ih =>
    intro i x hi j hj
    cases i with
    | zero =>
      simp only [List.getElem?_cons_zero, Option.some.injEq] at hi; subst hi
      rw [List.flatMap_cons, List.getElem?_append_left (by rw [he]; omega)]
      simp
    | succ i =>
      rw [List.flatMap_cons, List.getElem?_append_right (by rw [he, Nat.succ_mul]; omega), he]
      have : (i + 1) * sz + j - sz = i * sz + j := by rw [Nat.succ_mul]; omega
      rw [this]
      exact ih i x (by simpa using hi) j hj
theorem flat_set {α : Type} {enc : α → List Value} {sz : Nat} (he : ∀ x, (enc x).length = sz) : ∀ (l : List α) (junk : List Value) (i : Nat) (x : α), i < l.length → lput (l.flatMap enc ++ junk) (i * sz) (enc x) = (l.set i x).flatMap enc ++ junk := by
  intro l
  induction l with
  | nil => intro junk i x hi; simp at hi
  | cons y l ih =>
    intro junk i x hi
    cases i with
    | zero =>
      simp only [lput, Nat.zero_mul, List.take_zero, List.nil_append, Nat.zero_add, List.set_cons_zero, List.flatMap_cons, List.append_assoc]
      congr 1
      rw [List.drop_append, List.drop_eq_nil_of_le (by rw [he, he]; omega), List.nil_append, he x, he y, Nat.sub_self, List.drop_zero]
    | succ i =>
      simp only [List.length_cons] at hi
      have := ih junk i x (by omega)
      simp only [List.set_cons_succ, List.flatMap_cons, List.append_assoc]
      rw [← this]
      simp only [lput, he]
      have e1 : (i + 1) * sz = sz + i * sz := by rw [Nat.succ_mul]; omega
      rw [e1, List.take_append, List.drop_append, he y]
      have e2 : sz + i * sz - sz = i * sz := by omega
      have e3 : sz + i * sz + sz - sz = i * sz + sz := by omega
      rw [e2, e3, List.take_of_length_le (by rw [he]; omega), List.drop_eq_nil_of_le (by rw [he]; omega)]
      simp
section
variable {α : Type} {h h' : Heap} {s : Sl} {T sz : Nat} {enc : α → List Value} {l : List α} {b : Nat}
theorem Own.toR (O : Own h s T sz enc l b) : SlR h s sz enc l := ⟨O.n, fun i x hi => ⟨_, O.p, by
  obtain ⟨junk, hj, hb⟩ := O.row
  refine hb.has (p := (adr b).add (i * sz)) (by rw [adr_add]) (by rw [adr_add]) fun j v hv => ?_
  have hjl : j < sz := by rw [← O.esz x]; exact (List.getElem?_eq_some_iff.1 hv).1
  have hil := (List.getElem?_eq_some_iff.1 hi).1
  have hlt : i * sz + j < l.length * sz := by
    have : (i + 1) * sz ≤ l.length * sz := Nat.mul_le_mul_right _ hil
    rw [Nat.succ_mul] at this; omega
  rw [adr_add]
  show (l.flatMap enc ++ junk)[i * sz + j]? = some v
  rw [List.getElem?_append_left (by rw [flat_len O.esz]; exact hlt), flat_get O.esz l i x hi j hjl]
  exact hv⟩⟩
theorem Own.chg {S : Nat → Prop} (O : Own h s T sz enc l b) (E : Chg h h' S) (hS : ¬ S b) : Own h' s T sz enc l b := ⟨O.p, O.n, O.cap, O.esz, by
  obtain ⟨junk, h1, h2⟩ := O.row; exact ⟨junk, h1, h2.chg E hS⟩⟩
theorem Own.ext (O : Own h s T sz enc l b) (E : Ext h h') : Own h' s T sz enc l b := ⟨O.p, O.n, O.cap, O.esz, by
  obtain ⟨junk, h1, h2⟩ := O.row; exact ⟨junk, h1, h2.ext E⟩⟩
theorem Own.live (O : Own h s T sz enc l b) : h b ≠ none := by obtain ⟨junk, h1, h2⟩ := O.row; rw [h2.row]; simp
theorem Own.canPut (O : Own h s T sz enc l b) {i : Nat} (hi : i < l.length) : CanPut h ((adr b).add (i * sz)) sz := by
  obtain ⟨junk, h1, h2⟩ := O.row
  refine h2.canPut (by rw [adr_add]) (by rw [adr_add]) ?_
  simp only [adr_add, List.length_append, flat_len O.esz]
  have : (i + 1) * sz ≤ l.length * sz := Nat.mul_le_mul_right _ hi
  rw [Nat.succ_mul] at this
  omega
theorem Own.put (O : Own h s T sz enc l b) {i : Nat} (hi : i < l.length) (x : α) : Own (h.put ((adr b).add (i * sz)) (enc x)) s T sz enc (l.set i x) b := by
  obtain ⟨junk, h1, h2⟩ := O.row
  refine ⟨O.p, by simp [O.n], O.cap, O.esz, junk, h1, ?_⟩
  have hl : i * sz + sz ≤ l.length * sz := by
    have : (i + 1) * sz ≤ l.length * sz := Nat.mul_le_mul_right _ hi
    rwa [Nat.succ_mul] at this
  rw [h2.put (p := (adr b).add (i * sz)) (by rw [adr_add]) (by simp only [adr_add, List.length_append, flat_len O.esz, O.esz]; omega)]
  have : ((adr b).add (i * sz)).off = i * sz := by rw [adr_add]
  rw [this, flat_set O.esz l junk i x hi]
  exact Blk.new _ _ _ _
theorem put_chg (h : Heap) (p : Addr) (vs : List Value) : Chg h (h.put p vs) fun c => c = p.block := fun c o hc hn => by rw [put_ne hn]; exact hc

/-- nothing yet, or an array of one's own among allowed blocks -/
def OwnN (h : Heap) (s : Sl) (T sz : Nat) (enc : α → List Value) (l : List α) (F : Nat → Prop) : Prop := (s = ⟨none, 0, 0⟩ ∧ l = []) ∨ ∃ b, F b ∧ Own h s T sz enc l b
theorem OwnN.nil {F : Nat → Prop} : OwnN h ⟨none, 0, 0⟩ T sz enc ([] : List α) F := .inl ⟨rfl, rfl⟩
theorem OwnN.toR {F : Nat → Prop} (O : OwnN h s T sz enc l F) : SlR h s sz enc l := by
  rcases O with ⟨rfl, rfl⟩ | ⟨b, _, O⟩
  · exact SlR.nil 0
  · exact O.toR
theorem OwnN.chg {F S : Nat → Prop} (O : OwnN h s T sz enc l F) (E : Chg h h' S) (hS : ∀ b, F b → ¬ S b) : OwnN h' s T sz enc l F := by
  rcases O with O | ⟨b, hb, O⟩
  · exact .inl O
  · exact .inr ⟨b, hb, O.chg E (hS b hb)⟩
theorem OwnN.ext {F : Nat → Prop} (O : OwnN h s T sz enc l F) (E : Ext h h') : OwnN h' s T sz enc l F := by
  rcases O with O | ⟨b, hb, O⟩
  · exact .inl O
  · exact .inr ⟨b, hb, O.ext E⟩
theorem OwnN.mono {F F' : Nat → Prop} (O : OwnN h s T sz enc l F) (hF : ∀ b, F b → F' b) : OwnN h s T sz enc l F' := by
  rcases O with O | ⟨b, hb, O⟩
  · exact .inl O
  · exact .inr ⟨b, hF b hb, O⟩
theorem OwnN.p_F {F : Nat → Prop} (O : OwnN h s T sz enc l F) {a : Addr} (ha : s.p = some a) : F a.block ∧ h a.block ≠ none := by
  rcases O with ⟨rfl, rfl⟩ | ⟨b, hb, O⟩
  · cases ha
  · rw [O.p] at ha; cases ha; exact ⟨hb, O.live⟩

/-- a slice's own block -/
def sblk (s : Sl) (c : Nat) : Prop := ∃ a, s.p = some a ∧ a.block = c
theorem OwnN.inF {F : Nat → Prop} (O : OwnN h s T sz enc l F) {c : Nat} (hc : sblk s c) : F c := by
  obtain ⟨a, ha, rfl⟩ := hc
  exact (O.p_F ha).1

/-- one value is appended -/
theorem OwnN.append {P : Program} {F : Nat → Prop} {x : α} {z : Value} {K : Sl → Heap → Prop} (O : OwnN h s T sz enc l F) (hesz : ∀ y, (enc y).length = sz) (hone : ∀ v ∈ enc x, v.oneCell' = true)
    (hz : zeroOf P T = some z) (hzs : z.cells.size = sz) (hc : P.cellsOf T = sz) (hb0 : 0 < P.bytesOf T) (hb : (l.length + 1) * P.bytesOf T ≤ 140737488355328)
    (H : ∀ s' h', OwnN h' s' T sz enc (l ++ [x]) (fun b => F b ∨ h b = none) → Chg h h' (sblk s) → K s' h') : AppendS P h T s (enc x) 1 K := by
  obtain ⟨i, hi, -⟩ := info_of_zero hz
  refine ⟨hone, ⟨i, hi⟩, fun hr => ?_, fun hr => ?_⟩
  · rcases O with ⟨rfl, rfl⟩ | ⟨b, hF, O⟩
    · simp at hr
    · right
      obtain ⟨junk, h1, h2⟩ := O.row
      refine ⟨_, O.p, ?_, ?_⟩
      · rw [hc]
        refine h2.canPut (by rw [adr_add]) (by rw [adr_add]) ?_
        simp only [adr_add, List.length_append, flat_len O.esz, hesz, O.n, h1]
        have : (s.n + 1) * sz ≤ s.c * sz := Nat.mul_le_mul_right _ hr
        have e1 : (s.c - s.n) * sz = s.c * sz - s.n * sz := Nat.sub_mul _ _ _
        rw [Nat.succ_mul] at this
        rw [← O.n] at *
        omega
      · have hlen : (1 : Nat) * sz ≤ junk.length := by rw [h1]; exact Nat.mul_le_mul_right _ (by omega)
        rw [Nat.one_mul] at hlen
        have hput : h.put ((adr b).add (s.n * P.cellsOf T)) (enc x) = h.new b (.cells ((l ++ [x]).flatMap enc ++ junk.drop sz).toArray T (0, 0)) := by
          rw [h2.put (p := (adr b).add (s.n * P.cellsOf T)) (by rw [adr_add]) (by simp only [adr_add, List.length_append, flat_len O.esz, hesz, O.n, hc]; omega)]
          have e0 : ((adr b).add (s.n * P.cellsOf T)).off = l.length * sz := by rw [adr_add, hc, O.n]
          rw [e0]
          congr 3
          have e1 := flat_len O.esz l
          simp only [lput, List.flatMap_append, List.flatMap_cons, List.flatMap_nil, List.append_nil, hesz]
          rw [List.take_append, List.drop_append, e1, List.take_of_length_le (by omega), List.drop_eq_nil_of_le (by omega)]
          have e2 : l.length * sz - l.length * sz = 0 := by omega
          have e3 : l.length * sz + sz - l.length * sz = sz := by omega
          rw [e2, e3]; simp
        rw [hput]
        refine H _ _ (.inr ⟨b, .inl hF, O.p, by simp [O.n], by simpa using hr, hesz, junk.drop sz, ?_, Blk.new _ _ _ _⟩) (fun c o hc' hn => ?_)
        · simp only [List.length_drop, h1]
          have : (s.c - (s.n + 1)) * sz = (s.c - s.n) * sz - 1 * sz := by rw [← Nat.sub_mul]; congr 1
          rw [this, Nat.one_mul]
        · rw [new_ne (fun he => hn ⟨_, O.p, he.symm⟩)]; exact hc'
  · have hn : s.n = l.length := by
      rcases O with ⟨rfl, rfl⟩ | ⟨b, _, O⟩
      · rfl
      · exact O.n
    refine ⟨growslice_fits (by omega) (by rw [hn]; exact hb), hb0, l.flatMap enc, z, ?_, ?_, ?_, hz, ?_⟩
    · rw [flat_len hesz, hn, hc]
    · intro a ha
      rcases O with ⟨rfl, rfl⟩ | ⟨b, _, O⟩
      · cases ha
      · rw [O.p] at ha; cases ha
        obtain ⟨junk, h1, h2⟩ := O.row
        exact .inr (h2.has rfl rfl fun i v hv => by
          simp only [Nat.zero_add]
          rw [List.getElem?_append_left (List.getElem?_eq_some_iff.1 hv).1]; exact hv)
    · intro hp
      rcases O with ⟨rfl, rfl⟩ | ⟨b, _, O⟩
      · rfl
      · rw [O.p] at hp; cases hp
    · intro cap b hcap hb
      refine H _ _ (.inr ⟨b, .inr hb, rfl, by simp [hn], hcap, hesz, _, ?_, by rw [List.flatMap_append]; simp only [List.flatMap_cons, List.flatMap_nil, List.append_nil]; exact Blk.new _ _ _ _⟩) (fun c o hc' _ => ?_)
      · simp [zrow, hzs]
      · rw [new_ne (fun h => by subst h; rw [hb] at hc'; cases hc')]; exact hc'
end

/-! ### loops -/
theorem LoopS.by {S : Type} {body : S → Heap → (S → Heap → Prop) → Prop} {s : S} {h : Heap} (I : S → Heap → Prop) (μ : S → Heap → Nat) (h0 : I s h)
    (hs : ∀ s h, I s h → body s h fun s' h' => I s' h' ∧ μ s' h' < μ s h) : LoopS body s h := ⟨⟨I, μ, h0, hs⟩⟩

/-! ### powers of two -/
theorem p2_pos (k : Nat) : (0 : Int) < 2 ^ k := Int.pow_pos (by decide)
theorem p2_le {k m : Nat} (h : k ≤ m) : (2 : Int) ^ k ≤ 2 ^ m := by
  have := Nat.pow_le_pow_right (n := 2) (by decide) h
  exact_mod_cast this
theorem p2_succ (k : Nat) : (2 : Int) ^ (k + 1) = 2 * 2 ^ k := by rw [Int.pow_succ, Int.mul_comm]

/-! ### parts of what is read, searches -/
theorem Has.part {h : Heap} {a : Addr} {vs ws : List Value} (H : Has h a vs) (k : Nat) (hw : ∀ i v, ws[i]? = some v → vs[k + i]? = some v) : Has h (a.add k) ws := by
  obtain ⟨hs, c, e, fr, h1, h2⟩ := H
  refine ⟨?_, c, e, fr, ?_, ?_⟩
  · unfold Addr.add; split
    · exact hs
    · rfl
  · rw [add_block]; exact h1
  · intro i v hv
    have := h2 _ _ (hw i v hv)
    unfold Addr.add; split
    · subst_vars; rwa [Nat.zero_add] at this
    · rw [Nat.add_assoc]; exact this
theorem getOne {vs : List Value} {k : Nat} {w : Value} (hw : vs[k]? = some w) : ∀ (i : Nat) (v : Value), [w][i]? = some v → vs[k + i]? = some v := by
  intro i v hv
  cases i with
  | zero => simp only [List.getElem?_cons_zero, Option.some.injEq] at hv; subst hv; exact hw
  | succ i => simp at hv
/-- one cell of what is read -/
theorem Has.cell {h : Heap} {a : Addr} {vs : List Value} {w : Value} (H : Has h a vs) (k : Nat) (hw : vs[k]? = some w) : Has h (a.add k) [w] := H.part k (getOne hw)
theorem Has.cell0 {h : Heap} {a : Addr} {vs : List Value} {w : Value} (H : Has h a vs) (hw : vs[0]? = some w) : Has h a [w] := H.cell 0 hw
theorem getPart {vs ws rest : List Value} {k : Nat} (hw : vs.drop k = ws ++ rest) : ∀ (i : Nat) (v : Value), ws[i]? = some v → vs[k + i]? = some v := by
  intro i v hv
  rw [← List.getElem?_drop, hw, List.getElem?_append_left (List.getElem?_eq_some_iff.1 hv).1]; exact hv

theorem findIdx_at {α : Type} {p : α → Bool} {l : List α} {i : Nat} {x : α} (hx : l[i]? = some x) (hp : p x = true) (hj : ∀ j y, j < i → l[j]? = some y → p y = false) : l.findIdx? p = some i := by
  rw [List.findIdx?_eq_some_iff_getElem]
  obtain ⟨h1, h2⟩ := List.getElem?_eq_some_iff.1 hx
  refine ⟨h1, by rw [h2]; exact hp, fun j hji => ?_⟩
  rw [hj j l[j] hji (List.getElem?_eq_getElem _)]; simp
theorem findIdx_no {α : Type} {p : α → Bool} {l : List α} (hj : ∀ (j : Nat) y, l[j]? = some y → p y = false) : l.findIdx? p = none := by
  rw [List.findIdx?_eq_none_iff]
  intro x hx
  obtain ⟨j, hj'⟩ := List.mem_iff_getElem?.1 hx
  exact hj j x hj'
theorem find_at {α : Type} {p : α → Bool} {l : List α} {i : Nat} {x : α} (hx : l[i]? = some x) (hp : p x = true) (hj : ∀ j y, j < i → l[j]? = some y → p y = false) : l.find? p = some x := by
  induction l generalizing i with
  | nil => simp at hx
  | cons a l ih =>
    cases i with
    | zero => simp only [List.getElem?_cons_zero, Option.some.injEq] at hx; subst hx; simp [hp]
    | succ i =>
      have := hj 0 a (by omega) rfl
      simp only [List.find?_cons, this]
      exact ih (by simpa using hx) fun j y hji hy => hj (j + 1) y (by omega) (by simpa using hy)
theorem find_no {α : Type} {p : α → Bool} {l : List α} (hj : ∀ (j : Nat) y, l[j]? = some y → p y = false) : l.find? p = none := by
  rw [List.find?_eq_none]
  intro x hx
  obtain ⟨j, hj'⟩ := List.mem_iff_getElem?.1 hx
  simp [hj j x hj']

/-! ### element types -/
structure ElemOK (T sz : Nat) : Prop where
  zero : ∃ z, zeroOf TP T = some z ∧ z.cells.size = sz
  cells : TP.cellsOf T = sz
  b0 : 0 < TP.bytesOf T
  b1 : TP.bytesOf T ≤ 1000
noncomputable def elemB (T sz : Nat) : Bool := match zeroOf TP T with
  | some z => Nat.beq z.cells.size sz && Nat.beq (TP.cellsOf T) sz && Nat.ble 1 (TP.bytesOf T) && Nat.ble (TP.bytesOf T) 1000
  | none => false
theorem elemOK {T sz : Nat} (h : elemB T sz = true) : ElemOK T sz := by
  unfold elemB at h
  split at h
  · rename_i z hz
    simp only [Bool.and_eq_true] at h
    obtain ⟨⟨⟨h1, h2⟩, h3⟩, h4⟩ := h
    exact ⟨⟨z, hz, Nat.eq_of_beq_eq_true h1⟩, Nat.eq_of_beq_eq_true h2, Nat.le_of_ble_eq_true h3, Nat.le_of_ble_eq_true h4⟩
  · cases h

/-- one value is appended -/
theorem OwnN.app {α : Type} {h : Heap} {s : Sl} {T sz : Nat} {enc : α → List Value} {l : List α} {F : Nat → Prop} {x : α} {K : Sl → Heap → Prop} (O : OwnN h s T sz enc l F) (E : ElemOK T sz) (hesz : ∀ y, (enc y).length = sz) (hone : ∀ v ∈ enc x, v.oneCell' = true)
    (hl : l.length < 1000000000)
    (H : ∀ s' h', OwnN h' s' T sz enc (l ++ [x]) (fun b => F b ∨ h b = none) → Chg h h' (sblk s) → K s' h') : AppendS TP h T s (enc x) 1 K := by
  obtain ⟨z, hz, hzs⟩ := E.zero
  refine O.append hesz hone hz hzs E.cells E.b0 ?_ H
  have := E.b1
  calc (l.length + 1) * TP.bytesOf T ≤ 1000000001 * 1000 := Nat.mul_le_mul (by omega) this
    _ ≤ _ := by decide

theorem lput_set : ∀ (vs : List Value) (k : Nat) (w : Value), k < vs.length → lput vs k [w] = vs.set k w := by
  intro vs
  induction vs with
  | nil => intro k w hk; simp at hk
  | cons v vs ih =>
    intro k w hk
    cases k with
    | zero => simp [lput]
    | succ k =>
      have := ih k w (by simpa using hk)
      simp only [lput, List.set_cons_succ, List.length_cons, List.length_nil] at this ⊢
      rw [← this]; simp
/-- a field of a block of one's own is written -/
theorem Blk.set {h : Heap} {b T : Nat} {vs : List Value} (B : Blk h b T vs) {k : Nat} (w : Value) (hk : k < vs.length) : Blk (h.put ((adr b).add k) [w]) b T (vs.set k w) := by
  rw [B.put (p := (adr b).add k) (by rw [adr_add]) (by rw [adr_add]; simp only [List.length_cons, List.length_nil]; omega)]
  have : ((adr b).add k).off = k := by rw [adr_add]
  rw [this, lput_set _ _ _ hk]
  exact Blk.new _ _ _ _
theorem Blk.can {h : Heap} {b T : Nat} {vs : List Value} (B : Blk h b T vs) {k : Nat} (hk : k < vs.length) : CanPut h ((adr b).add k) 1 :=
  B.canPut (by rw [adr_add]) (by rw [adr_add]) (by rw [adr_add]; exact hk)
theorem setChg (h : Heap) (b k : Nat) (vs : List Value) : Chg h (h.put ((adr b).add k) vs) fun c => c = b := by
  have := put_chg h ((adr b).add k) vs
  rwa [add_block] at this

theorem Own.ne {α β : Type} {h : Heap} {s s' : Sl} {T T' sz sz' : Nat} {enc : α → List Value} {enc' : β → List Value} {l : List α} {l' : List β} {b b' : Nat}
    (O : Own h s T sz enc l b) (O' : Own h s' T' sz' enc' l' b') (hT : T ≠ T') : b ≠ b' := by
  obtain ⟨j, _, B⟩ := O.row
  obtain ⟨j', _, B'⟩ := O'.row
  exact B.ne B' hT
/-- the last one is taken away -/
theorem Own.pop {α : Type} {h : Heap} {s : Sl} {T sz : Nat} {enc : α → List Value} {l : List α} {x : α} {b : Nat} (O : Own h s T sz enc (l ++ [x]) b) : Own h ⟨s.p, s.n - 1, s.c⟩ T sz enc l b := by
  obtain ⟨j, h1, B⟩ := O.row
  have hn := O.n
  have hc := O.cap
  simp only [List.length_append, List.length_cons, List.length_nil] at hn
  refine ⟨O.p, by simp [hn], by simp; omega, O.esz, enc x ++ j, ?_, ?_⟩
  · simp only [List.length_append, O.esz, h1]
    have : s.c - (s.n - 1) = (s.c - s.n) + 1 := by omega
    rw [this, Nat.succ_mul]; omega
  · simpa [List.flatMap_append] using B

theorem OwnN.chg' {α : Type} {h h' : Heap} {s : Sl} {T sz : Nat} {enc : α → List Value} {l : List α} {F S : Nat → Prop} (O : OwnN h s T sz enc l F) (E : Chg h h' S) (hS : ∀ b, sblk s b → ¬ S b) : OwnN h' s T sz enc l F := by
  rcases O with O | ⟨b, hb, O⟩
  · exact .inl O
  · exact .inr ⟨b, hb, O.chg E (hS b ⟨_, O.p, rfl⟩)⟩
theorem OwnN.apart {α β : Type} {h : Heap} {s s' : Sl} {T T' sz sz' : Nat} {enc : α → List Value} {enc' : β → List Value} {l : List α} {l' : List β} {F F' : Nat → Prop}
    (O : OwnN h s T sz enc l F) (O' : OwnN h s' T' sz' enc' l' F') (hT : T ≠ T') {c : Nat} (h1 : sblk s c) (h2 : sblk s' c) : False := by
  obtain ⟨a, ha, rfl⟩ := h1
  obtain ⟨a', ha', he⟩ := h2
  rcases O with ⟨rfl, -⟩ | ⟨b, -, O⟩
  · cases ha
  · rcases O' with ⟨rfl, -⟩ | ⟨b', -, O'⟩
    · cases ha'
    · rw [O.p] at ha; cases ha
      rw [O'.p] at ha'; cases ha'
      exact O.ne O' hT he.symm

/-! ### a new row of zeros -/
theorem zrow_eq {z : List Value} {sz m : Nat} (hz : z.length = sz) (h0 : 0 < sz) : zrow z (m * sz) = (List.replicate m ()).flatMap fun _ => z := by
  apply List.ext_getElem?
  intro i
  by_cases hi : i < m * sz
  · have hm : i % sz < sz := Nat.mod_lt _ h0
    have hd : i / sz < m := (Nat.div_lt_iff_lt_mul h0).2 hi
    have e : i = i / sz * sz + i % sz := by rw [Nat.mul_comm]; exact (Nat.div_add_mod i sz).symm
    have h1 : (zrow z (m * sz))[i]? = z[i % sz]? := by
      unfold zrow
      rw [List.getElem?_map, List.getElem?_range hi]
      simp only [Option.map_some, hz]
      rw [List.getElem!_eq_getElem?_getD, List.getElem?_eq_getElem (by omega)]; rfl
    have h2 := flat_get (enc := fun _ : Unit => z) (sz := sz) (fun _ => hz) (List.replicate m ()) (i / sz) () (by rw [List.getElem?_replicate, if_pos hd]) (i % sz) hm
    rw [h1, ← h2, ← e]
  · rw [List.getElem?_eq_none (by simp [zrow]; omega), List.getElem?_eq_none]
    rw [flat_len (fun _ => hz)]; simp; omega
theorem flat_rep {α : Type} {enc : α → List Value} {x : α} {m : Nat} : (List.replicate m x).flatMap enc = (List.replicate m ()).flatMap fun _ => enc x := by
  induction m with
  | zero => rfl
  | succ m ih => simp only [List.replicate_succ, List.flatMap_cons, ih]
theorem Own.make {α : Type} (h : Heap) (b T : Nat) {sz m : Nat} {enc : α → List Value} (x : α) {z : List Value} (hz : z = enc x) (he : ∀ y, (enc y).length = sz) (h0 : 0 < sz) :
    Own (h.new b (.cells (zrow z (m * sz)).toArray T (0, 0))) ⟨some (adr b), m, m⟩ T sz enc (List.replicate m x) b := by
  refine ⟨rfl, by simp, Nat.le_refl _, he, [], by simp, ?_⟩
  subst hz
  have e : zrow (enc x) (m * sz) = (List.replicate m x).flatMap enc := by rw [zrow_eq (he x) h0, flat_rep (x := x)]
  rw [e, List.append_nil]
  exact Blk.new _ _ _ _

end Go.Proofs.YtbeapoopomlgaaaGreat.Sx
