/- Maps whose keys are whole numbers: what the machine does to them. -/
import Derived.Test.YtbeapoopomlgaaaGreatSe
import Derived.MapKept
namespace Go.Proofs.YtbeapoopomlgaaaGreat.Sx
open Go
section
variable {P : Program}

theorem mkey_eq {kd : IntKind} {n : Int} {e : MapEntry} {m : Int} (h : e.key = .int kd m) : mkey kd n e = (n == m) := by
  have : kEq kd kd = true := kEq_iff.2 rfl
  simp [mkey, h, this]

theorem findNow_int {k0 kd : IntKind} {n : Int} : ∀ {l : List MapEntry} (i : Nat), (∀ e ∈ l, ∃ m, e.key = .int kd m) →
    (Instr.findNow (.int k0) (.int kd n) l i = some none ∧ l.find? (mkey kd n) = none ∧ l.findIdx? (mkey kd n) = none) ∨
    ∃ j e, Instr.findNow (.int k0) (.int kd n) l i = some (some (i + j, e.val)) ∧ l.find? (mkey kd n) = some e ∧ l.findIdx? (mkey kd n) = some j ∧ l[j]? = some e ∧ e.key = .int kd n := by
  intro l
  induction l with
  | nil => intro i _; exact .inl ⟨rfl, rfl, rfl⟩
  | cons e l ih =>
    intro i hk
    obtain ⟨m, hm⟩ := hk e (by simp)
    have hme := mkey_eq (n := n) hm
    by_cases hnm : n = m
    · subst hnm
      refine .inr ⟨0, e, ?_, ?_, ?_, rfl, hm⟩
      · simp [Instr.findNow, hm, Instr.sameNow]
      · simp [hme]
      · simp [List.findIdx?_cons, hme]
    · have hmf : mkey kd n e = false := by rw [hme]; simp [hnm]
      have hs : Instr.sameNow (.int k0) (.int kd n) e.key = some false := by simp [hm, Instr.sameNow, hnm]
      rcases ih (i + 1) (fun e he => hk e (by simp [he])) with ⟨h1, h2, h3⟩ | ⟨j, e', h1, h2, h3, h4, h5⟩
      · refine .inl ⟨?_, ?_, ?_⟩
        · simp [Instr.findNow, hs, h1]
        · simp [hmf, h2]
        · simp [List.findIdx?_cons, hmf, h3]
      · refine .inr ⟨j + 1, e', ?_, ?_, ?_, by simpa using h4, h5⟩
        · simp [Instr.findNow, hs, h1]; omega
        · simp [hmf, h2]
        · simp [List.findIdx?_cons, hmf, h3]

theorem run_checkKey_int {kt : TypeId} {k0 kd : IntKind} {n : Int} (hu : P.underlying kt = some (.int k0)) (e : Bool) (w : World) : (Instr.checkKey e 10000 kt (.int kd n)).run P w = .ok () w := by
  show (Instr.checkKey e (9999 + 1) kt (.int kd n)).run P w = .ok () w
  unfold Instr.checkKey
  simp only [Sem.run_bind, run_underlying hu, Result.andThen]
  rfl

theorem run_lookup' {t kt et : TypeId} {k0 kd : IntKind} {n : Int} {r : Option Nat} {es : Array MapEntry} {clock : Nat} {z : Value} {h : Heap} (w : World) (hw : ∀ b o, h b = some o → w.heap[b]? = some o)
    (hu : P.underlying t = some (.map kt et)) (hk : P.underlying kt = some (.int k0)) (hz : zeroOf P et = some z) (hm : MapAt h r kd es clock) (ok : Bool) :
    (Instr.lookup t (.map r) (.int kd n) ok).run P w = .ok (match ok with | true => .tuple #[(mget kd es n).getD z, .bool (mget kd es n).isSome] | false => (mget kd es n).getD z) w := by
  have hfind : (Instr.findKey kt (.int kd n) es.toList).run P w = .ok ((es.toList.findIdx? (mkey kd n)).bind fun j => (es.toList[j]?).map fun e => (j, e.val)) w ∧
      (mget kd es n = ((es.toList.findIdx? (mkey kd n)).bind fun j => (es.toList[j]?).map fun e => (j, e.val)).map (·.2)) := by
    rcases findNow_int (k0 := k0) (kd := kd) (n := n) (l := es.toList) 0 (fun e he => hm.keys e (by simpa using he)) with ⟨h1, h2, h3⟩ | ⟨j, e, h1, h2, h3, h4, -⟩
    · rw [h3]; exact ⟨MapKept.run_findKey hk h1, by simp [mget, h2]⟩
    · rw [h3]; simp only [Option.bind_some, h4, Option.map_some]; exact ⟨by have := MapKept.run_findKey (w := w) hk h1; rwa [Nat.zero_add] at this, by simp [mget, h2]⟩
  obtain ⟨f1, f2⟩ := hfind
  generalize ((es.toList.findIdx? (mkey kd n)).bind fun j => (es.toList[j]?).map fun e => (j, e.val)) = r' at f1 f2
  rw [f2]
  cases r with
  | none =>
    have := hm.none rfl
    subst this
    simp only [Instr.lookup, Sem.run_bind, run_underlying hu, Result.andThen_ok, Sem.run_pure, run_checkKey_int hk, f1]
    cases r' with
    | none => simp only [Sem.run_bind, run_zeroValue' hz, Result.andThen_ok, Sem.run_pure]; cases ok <;> rfl
    | some p => simp only [Sem.run_pure, Sem.run_bind, Result.andThen_ok]; cases ok <;> rfl
  | some b =>
    have hb := hw _ _ (hm.some b rfl)
    simp only [Instr.lookup, Sem.run_bind, run_underlying hu, Result.andThen_ok, Sem.run_pure, MapKept.run_getObj_map hb, run_checkKey_int hk, f1]
    cases r' with
    | none => simp only [Sem.run_bind, run_zeroValue' hz, Result.andThen_ok, Sem.run_pure]; cases ok <;> rfl
    | some p => simp only [Sem.run_pure, Sem.run_bind, Result.andThen_ok]; cases ok <;> rfl

/-- an object of the heap's part gets another one's place -/
theorem Fr.set {u : World} {h : Heap} (hh : ∀ b o, h b = some o → u.heap[b]? = some o) {b : Nat} {o : Obj} (hb : h b = some o) (o' : Obj) :
    Fr u h (h.new b o') { u with heap := u.heap.setIfInBounds b o' } := by
  have hl : b < u.heap.size := by
    rcases Nat.lt_or_ge b u.heap.size with h' | h'
    · exact h'
    · have := hh b o hb; rw [Array.getElem?_eq_none h'] at this; cases this
  refine ⟨fun c o1 hc => ?_, by simp, fun c hc hn => ?_, fun c o1 hc => ?_, rfl, rfl⟩
  · simp only [Heap.new] at hc
    split at hc
    · rename_i he; subst he; cases hc; simp [hl]
    · rename_i he; rw [Array.getElem?_setIfInBounds_ne (Ne.symm he)]; exact hh c o1 hc
  · have : b ≠ c := fun he => by subst he; rw [hb] at hn; cases hn
    simp [Array.getElem?_setIfInBounds_ne this]
  · simp only [Heap.new] at hc
    split at hc
    · rename_i he; subst he; exact .inl (by simp [hb])
    · exact .inl (by simp [hc])

theorem run_mapUpdate' {t kt et : TypeId} {k0 kd : IntKind} {n : Int} {b : Nat} {es : Array MapEntry} {clock : Nat} {v : Value} {h : Heap} (u : World) (hw : ∀ b o, h b = some o → u.heap[b]? = some o)
    (hu : P.underlying t = some (.map kt et)) (hk : P.underlying kt = some (.int k0)) (hm : MapAt h (some b) kd es clock) :
    ∃ u', (Instr.mapUpdate t (.map (some b)) (.int kd n) v).run P u = .ok () u' ∧ Fr u h (h.new b (mput kd es clock n v)) u' := by
  have hb := hw _ _ (hm.some b rfl)
  refine ⟨{ u with heap := u.heap.setIfInBounds b (mput kd es clock n v) }, ?_, Fr.set hw (hm.some b rfl) _⟩
  simp only [Instr.mapUpdate, Sem.run_bind, run_underlying hu, Result.andThen_ok, MapKept.run_getObj_map hb, run_checkKey_int hk]
  rcases findNow_int (k0 := k0) (kd := kd) (n := n) (l := es.toList) 0 (fun e he => hm.keys e (by simpa using he)) with ⟨h1, h2, h3⟩ | ⟨j, e, h1, h2, h3, h4, h5⟩
  · rw [MapKept.run_findKey hk h1]
    simp only [Result.andThen_ok, MapKept.run_setObj_map _ hb]
    simp [mput, h3]
  · rw [MapKept.run_findKey hk h1]
    have h4' : es[j]? = some e := by simpa using h4
    have hkeep : ∀ w : World, (Instr.keyThatStays (.int kd n) (.int kd n)).run P w = .ok (.int kd n) w := by
      intro w; simp [Instr.keyThatStays, Instr.sameBits]
    simp only [Result.andThen_ok, Nat.zero_add, h4', Option.map_some, Option.getD_some, h5, Sem.run_bind, hkeep, MapKept.run_setObj_map _ hb]
    simp [mput, h3]

theorem run_range' {t kt et : TypeId} {m : Nat} {es : Array MapEntry} {clock : Nat} (u : World) (hu : P.underlying t = some (.map kt et)) (hb : u.heap[m]? = some (.map es clock)) :
    (Instr.range t (.map (some m))).run P u = .ok (.pointer (some ⟨u.heap.size, 0, none⟩)) (u.alloc (.mapIter (some m) clock #[] clock)) := by
  simp only [Instr.range, Sem.run_bind, run_underlying hu, Result.andThen_ok, MapKept.run_getObj_map hb, Sem.run_pure, run_newObj, World.alloc_eq]

theorem run_getObj' {w : World} {b s l : Nat} {m : Option Nat} {sn : Array Nat} (hb : w.heap[b]? = some (.mapIter m s sn l)) : (getObj b).run P w = .ok (.mapIter m s sn l) w := by simp [getObj, Sem.run, hb]
theorem run_setObj' {w : World} {b s l : Nat} {m : Option Nat} {sn : Array Nat} (o' : Obj) (hb : w.heap[b]? = some (.mapIter m s sn l)) : (setObj b o').run P w = .ok () { w with heap := w.heap.setIfInBounds b o' } := by simp [setObj, Sem.run, hb]

theorem run_next' {ty : TypeId} {b m since last : Nat} {seen : Array Nat} {es : Array MapEntry} {clock : Nat} {h : Heap} (u : World) (hw : ∀ b o, h b = some o → u.heap[b]? = some o)
    (hi : IterAt h b m since seen last es clock) (hold : ∀ e ∈ es, e.born < since) (hsl : since ≤ last) :
    ((∀ e ∈ es, seen.contains e.born = true) ∧ (Instr.next (.pointer (some ⟨b, 0, none⟩)) false ty).run P u = .ok (.tuple #[.bool false]) u) ∨
    ∃ e u', e ∈ es ∧ seen.contains e.born = false ∧ (Instr.next (.pointer (some ⟨b, 0, none⟩)) false ty).run P u = .ok (.tuple #[.bool true, e.key, e.val]) u' ∧
      Fr u h (h.new b (.mapIter (some m) since (seen.push e.born) clock)) u' := by
  have h1 := hw _ _ hi.it
  have h2 := hw _ _ hi.map
  simp only [Instr.next, Sem.run_bind, run_getObj' h1, MapKept.run_getObj_map h2, Result.andThen_ok, Sem.run_ite]
  have hall : ¬ ((!seen.isEmpty && !es.isEmpty && es.all fun x => decide (x.born ≥ last)) = true) := by
    intro hc
    simp only [Bool.and_eq_true, Bool.not_eq_true', Array.all_eq_true_iff_forall_mem, decide_eq_true_eq] at hc
    obtain ⟨⟨_, hne⟩, ha⟩ := hc
    have hs : 0 < es.size := by
      rcases Nat.eq_zero_or_pos es.size with h0 | h0
      · rw [Array.size_eq_zero_iff.1 h0] at hne; simp at hne
      · exact h0
    have hin : es[0] ∈ es := Array.getElem_mem hs
    have := ha _ hin
    have := hold _ hin
    omega
  rw [if_neg hall]
  have hnew : (es.filter fun e => !seen.contains e.born).filter (fun x => decide (x.born ≥ since)) = #[] := by
    rw [Array.filter_eq_empty_iff]
    intro e he
    have := hold e (Array.mem_filter.1 he).1
    simp; omega
  have hold' : (es.filter fun e => !seen.contains e.born).filter (fun x => decide (x.born < since)) = es.filter fun e => !seen.contains e.born := by
    rw [Array.filter_eq_self]
    intro e he
    have := hold e (Array.mem_filter.1 he).1
    simpa using this
  simp only [hnew, hold', Array.append_empty]
  by_cases hem : (es.filter fun e => !seen.contains e.born) = #[]
  · refine .inl ⟨fun e he => ?_, ?_⟩
    · rw [Array.filter_eq_empty_iff] at hem
      have := hem e he
      cases hc : seen.contains e.born <;> simp_all
    · generalize (es.filter fun e => !seen.contains e.born) = L at hem
      subst hem
      have hc : (choose (.mapNext 1)).run P u = .ok 0 u := by rw [run_choose]; rfl
      have h0 : ((if (#[] : Array MapEntry).isEmpty = true then #[none] else #[]) ++ Array.map some (#[] : Array MapEntry)) = #[none] := by simp
      rw [h0]
      have h1 : (#[none] : Array (Option MapEntry)).size = 1 := rfl
      rw [h1, hc]
      rfl
  · right
    generalize hL : (es.filter fun e => !seen.contains e.born) = L at hem ⊢
    have hne : L.isEmpty = false := by
      cases hL' : L.isEmpty
      · rfl
      · exact absurd (by simpa using hL') hem
    have hsz : 0 < L.size := by
      rcases Nat.eq_zero_or_pos L.size with h0 | h0
      · exact absurd (Array.size_eq_zero_iff.1 h0) hem
      · exact h0
    have hpick : ∃ (i : Nat) (u1 : World), i < L.size ∧ u1.heap = u.heap ∧ u1.os = u.os ∧ u1.output = u.output ∧ (choose (.mapNext (L.map some).size)).run P u = .ok i u1 := by
      rw [run_choose]
      split
      · exact ⟨0, u, hsz, rfl, rfl, rfl, rfl⟩
      · refine ⟨_, _, ?_, ?_, ?_, ?_, rfl⟩
        · simp only [Question.cut, Array.size_map]; exact Nat.mod_lt _ hsz
        all_goals rfl
    obtain ⟨i, u1, hil, g1, g2, g3, hch⟩ := hpick
    have hmem : L[i] ∈ es.filter fun e => !seen.contains e.born := by rw [hL]; exact Array.getElem_mem hil
    rw [Array.mem_filter] at hmem
    have h1' : u1.heap[b]? = some (.mapIter (some m) since seen last) := by rw [g1]; exact h1
    refine ⟨L[i], { u1 with heap := u1.heap.setIfInBounds b (.mapIter (some m) since (seen.push L[i].born) clock) }, hmem.1, by simpa using hmem.2, ?_, ?_⟩
    · simp only [hne, Bool.false_eq_true, if_false, Array.empty_append, hch, Result.andThen_ok]
      have hget : (L.map some)[i]? = some (some L[i]) := by simp [hil]
      simp only [hget, Sem.run_bind, run_setObj' _ h1', Result.andThen_ok, Sem.run_pure]
    · have F := Fr.set hw hi.it (.mapIter (some m) since (seen.push L[i].born) clock)
      exact ⟨fun c o hc => by have := F.heap c o hc; simpa [g1] using this, by simp [g1], fun c hc hn => by have := F.frame c hc hn; simpa [g1] using this, F.dom, g2, g3⟩

theorem run_entry' {b m since last stamp : Nat} {seen : Array Nat} {es : Array MapEntry} {clock : Nat} {e : MapEntry} {h : Heap} (u : World) (hw : ∀ b o, h b = some o → u.heap[b]? = some o)
    (hi : IterAt h b m since seen last es clock) (hc : clock = last) (hs : seen.back? = some stamp) (he : es.find? (·.born == stamp) = some e) :
    (Instr.entry (.pointer (some ⟨b, 0, none⟩))).run P u = .ok (.tuple #[e.key, e.val]) u := by
  subst hc
  simp only [Instr.entry, Sem.run_bind, run_getObj' (hw _ _ hi.it), Result.andThen_ok, hs, MapKept.run_getObj_map (hw _ _ hi.map), bne_self_eq_false, Bool.false_eq_true, if_false, Sem.run_pure, he]

theorem run_firstLoad {h : Heap} {s : Sl} {size : Nat} {new : List Value} (H : HasSl h s size new) (u : World) (hu : ∀ b o, h b = some o → u.heap[b]? = some o) {a : Addr} (hp : s.p = some a) :
    (loadCells a (s.n * size)).run P u = .ok new.toArray u := by
  rw [← H.len]
  rcases H.some a hp with rfl | ⟨hsp, c, e', fr, hb', hv⟩
  · rfl
  · exact run_loadCells_list _ a new fun j v hj => by rw [add_at a hsp]; exact cell_at (hu _ _ hb') (hv j v hj)

theorem run_toBytes {f : Value → ByteArray → Sem (ForInStep ByteArray)} (hf : ∀ (b : UInt8) s (w : World), (f (.int .u8 (b.toNat : Int)) s).run P w = .ok (.yield (s.push b)) w) :
    ∀ (bs : List UInt8) (s : ByteArray) (w : World), (forIn (bs.map fun b => Value.int .u8 (b.toNat : Int)) s f : Sem ByteArray).run P w = .ok ⟨s.data ++ bs.toArray⟩ w := by
  intro bs
  induction bs with
  | nil => intro s w; simp
  | cons b bs ih =>
    intro s w
    simp only [List.map_cons, List.forIn_cons, Sem.run_bind, hf, Result.andThen_ok, ih]
    congr 1
    simp [ByteArray.push]

theorem run_bytesToString' {h : Heap} {a : Option Addr} {n c : Nat} {bs : List UInt8} (H : HasSl h ⟨a, n, c⟩ 1 (bs.map fun b => .int .u8 (b.toNat : Int))) (u : World) (hu : ∀ b o, h b = some o → u.heap[b]? = some o) :
    (Conv.bytesToString (.slice a n c)).run P u = .ok (.string ⟨bs.toArray⟩) u := by
  cases a with
  | none =>
    have := H.none rfl
    simp only [List.map_eq_nil_iff] at this
    subst this
    rfl
  | some p =>
    have hl := run_firstLoad (P := P) H u hu (a := p) rfl
    simp only [Nat.mul_one] at hl
    simp only [Conv.bytesToString, Sem.run_bind, hl, Result.andThen_ok, List.forIn_toArray]
    rw [run_toBytes (fun b s w => by simp)]
    simp [ByteArray.empty, ByteArray.emptyWithCapacity]
    rfl

end
end Go.Proofs.YtbeapoopomlgaaaGreat.Sx
