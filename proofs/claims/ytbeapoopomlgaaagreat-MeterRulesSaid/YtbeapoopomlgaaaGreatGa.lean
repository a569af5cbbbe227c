/- The weakest conditions of functions, printed by a program and checked. -/
import Derived.Test.YtbeapoopomlgaaaGreatSl
namespace Go.Proofs.YtbeapoopomlgaaaGreat.Sx
open Go Go.Proofs
open Go.IntKind (wrap)
set_option linter.unusedVariables false
set_option maxRecDepth 20000

/-- ramage.perm.Same -/
def f117_sem (n : Int) (h : Heap) (R : Value → Heap → Prop) : Prop :=
  pif (decide (n < 0)) (R (.tuple #[.slice none 0 0, .bool false]) h) (pif (decide (n > 16)) (R (.tuple #[.slice none 0 0, .bool false]) h) (MkS n n 8 ∧ ∀ b13, h b13 = none → LoopS (fun (st0 : Int × Unit) (h_0 : Heap) C0 => pif (decide (st0.1 < ((Int.toNat n : Nat) : Int))) (0 ≤ st0.1 ∧ st0.1 < ((Int.toNat n : Nat) : Int) ∧ CanPut h_0 ((adr b13).add (Int.toNat st0.1 * 1)) 1 ∧ C0 (wrap .i64 (st0.1 + 1), ()) (Heap.put h_0 ((adr b13).add (Int.toNat st0.1 * 1)) [.int .i64 st0.1])) (R (.tuple #[.slice (some (adr b13)) (Int.toNat n) (Int.toNat n), .bool true]) h_0)) (0, ()) (Heap.new h b13 (.cells ((zrow [.int .i64 0] (Int.toNat n * 1)).toArray) 3))))
def f117_ann : Nat → Option LoopAnn := fun | 0 => some ⟨[(16, .one (.int .i64))], [], [5, 17, 18, 19, 20, 21, 22, 23]⟩ | _ => none
theorem f117_eq (n : Int) (h : Heap) (R : Value → Heap → Prop) : fnW TP [] f117_ann Tryz.f117 [.int .i64 n] h R = f117_sem n h R := by kernel_rfl
theorem f117_ok {n : Int} {h : Heap} {R : Value → Heap → Prop} (H : f117_sem n h R) : Spec TP 117 #[.int .i64 n] h R := spec_of [] f117_ann nmOK moOK Tryz.func117 (Eq.mpr (f117_eq n h R) H)

/-- ramage.perm.Right -/
def f165_sem (p : Sl) (h : Heap) (R : Value → Heap → Prop) : Prop :=
  pif (decide (((p.n : Nat) : Int) > 16)) (R (.bool false) h) (LoopS (fun (st0 : Int × Int × Unit) (h_0 : Heap) C0 => pif (decide (st0.2.1 < ((p.n : Nat) : Int))) (psome p.p fun a13 => 0 ≤ st0.2.1 ∧ st0.2.1 < ((p.n : Nat) : Int) ∧ ∃ v14 : Int, Has h_0 (a13.add (Int.toNat st0.2.1 * 1)) [.int .i64 v14] ∧ pif (decide (v14 < 0)) (R (.bool false) h_0) (pif (decide (v14 ≥ ((p.n : Nat) : Int))) (R (.bool false) h_0) (0 ≤ v14 ∧ pif ((andI .i64 (shrI .i64 st0.1 v14) 1) == 1) (R (.bool false) h_0) (0 ≤ v14 ∧ C0 (orI .i64 st0.1 (shlI .i64 1 v14), wrap .i64 (st0.2.1 + 1), ()) h_0)))) (R (.bool true) h_0)) (0, 0, ()) h)
def f165_ann : Nat → Option LoopAnn := fun | 0 => some ⟨[(3, .one (.int .i64)), (11, .one (.int .i64))], [], [2, 5, 12, 13, 14, 15, 16, 17, 18, 19, 20, 21, 22, 23, 24, 25, 26, 27, 28, 29, 30, 31, 32, 33, 34]⟩ | _ => none
theorem f165_eq (p : Sl) (h : Heap) (R : Value → Heap → Prop) : fnW TP [] f165_ann Tryz.f165 [.slice p.p p.n p.c] h R = f165_sem p h R := by kernel_rfl
theorem f165_ok {p : Sl} {h : Heap} {R : Value → Heap → Prop} (H : f165_sem p h R) : Spec TP 165 #[.slice p.p p.n p.c] h R := spec_of [] f165_ann nmOK moOK Tryz.func165 (Eq.mpr (f165_eq p h R) H)

/-- ramage.perm.Inverse -/
def f107_sem (p : Sl) (h : Heap) (R : Value → Heap → Prop) : Prop :=
  Spec TP 165 #[.slice p.p p.n p.c] h fun r8 h8 => ∃ x8 : Bool, r8 = .bool x8 ∧ pif (!x8) (R (.tuple #[.slice none 0 0, .bool false]) h8) (MkS ((p.n : Nat) : Int) ((p.n : Nat) : Int) 8 ∧ ∀ b12, h8 b12 = none → LoopS (fun (st0 : Int × Unit) (h_0 : Heap) C0 => pif (decide (st0.1 < ((p.n : Nat) : Int))) (psome p.p fun a18 => 0 ≤ st0.1 ∧ st0.1 < ((p.n : Nat) : Int) ∧ ∃ v19 : Int, Has h_0 (a18.add (Int.toNat st0.1 * 1)) [.int .i64 v19] ∧ 0 ≤ v19 ∧ v19 < ((Int.toNat ((p.n : Nat) : Int) : Nat) : Int) ∧ CanPut h_0 ((adr b12).add (Int.toNat v19 * 1)) 1 ∧ C0 (wrap .i64 (st0.1 + 1), ()) (Heap.put h_0 ((adr b12).add (Int.toNat v19 * 1)) [.int .i64 st0.1])) (R (.tuple #[.slice (some (adr b12)) (Int.toNat ((p.n : Nat) : Int)) (Int.toNat ((p.n : Nat) : Int)), .bool true]) h_0)) (0, ()) (Heap.new h8 b12 (.cells ((zrow [.int .i64 0] (Int.toNat ((p.n : Nat) : Int) * 1)).toArray) 3)))
def f107_ann : Nat → Option LoopAnn := fun | 0 => some ⟨[(15, .one (.int .i64))], [], [5, 6, 16, 17, 18, 19, 20, 21, 22, 23, 24]⟩ | _ => none
theorem f107_eq (p : Sl) (h : Heap) (R : Value → Heap → Prop) : fnW TP [] f107_ann Tryz.f107 [.slice p.p p.n p.c] h R = f107_sem p h R := by kernel_rfl
theorem f107_ok {p : Sl} {h : Heap} {R : Value → Heap → Prop} (H : f107_sem p h R) : Spec TP 107 #[.slice p.p p.n p.c] h R := spec_of [] f107_ann nmOK moOK Tryz.func107 (Eq.mpr (f107_eq p h R) H)

/-- slices.Clone[[]int,int] -/
def f91_sem (s : Sl) (h : Heap) (R : Value → Heap → Prop) : Prop :=
  pif s.p.isNone (R (.slice none 0 0) h) (∀ b5, h b5 = none → ∃ new7, HasSl (Heap.new h b5 (.cells #[] 3)) s 1 new7 ∧ AppendS TP (Heap.new h b5 (.cells #[] 3)) 3 ⟨some (adr b5), 0, 0⟩ new7 s.n fun s7 h7 => R (.slice s7.p s7.n s7.c) h7)
theorem f91_eq (s : Sl) (h : Heap) (R : Value → Heap → Prop) : fnW TP [5] (fun _ => none) Tryz.f91 [.slice s.p s.n s.c] h R = f91_sem s h R := by kernel_rfl
theorem f91_ok {s : Sl} {h : Heap} {R : Value → Heap → Prop} (H : f91_sem s h R) : Spec TP 91 #[.slice s.p s.n s.c] h R := spec_of [5] (fun _ => none) nmOK moOK Tryz.func91 (Eq.mpr (f91_eq s h R) H)

/-- ramage.order.Of -/
def f52_sem (p : Sl) (h : Heap) (R : Value → Heap → Prop) : Prop :=
  Spec TP 107 #[.slice p.p p.n p.c] h fun r8 h8 => ∃ x8a : Sl, ∃ x8b : Bool, r8 = .tuple #[.slice x8a.p x8a.n x8a.c, .bool x8b] ∧ pif (!x8b) (R (.tuple #[.pointer none, .int .u8 1]) h8) (Spec TP 91 #[.slice p.p p.n p.c] h8 fun r14 h14 => ∃ x14 : Sl, r14 = .slice x14.p x14.n x14.c ∧ ∀ b17, h14 b17 = none → R (.tuple #[.pointer (some (adr b17)), .int .u8 0]) (Heap.new h14 b17 (.cells #[.slice x14.p x14.n x14.c, .slice x8a.p x8a.n x8a.c] 165)))
theorem f52_eq (p : Sl) (h : Heap) (R : Value → Heap → Prop) : fnW TP [17] (fun _ => none) Tryz.f52 [.slice p.p p.n p.c] h R = f52_sem p h R := by kernel_rfl
theorem f52_ok {p : Sl} {h : Heap} {R : Value → Heap → Prop} (H : f52_sem p h R) : Spec TP 52 #[.slice p.p p.n p.c] h R := spec_of [17] (fun _ => none) nmOK moOK Tryz.func52 (Eq.mpr (f52_eq p h R) H)

/-- ramage.order.New -/
def f58_sem (n : Int) (h : Heap) (R : Value → Heap → Prop) : Prop :=
  Spec TP 117 #[.int .i64 n] h fun r8 h8 => ∃ x8a : Sl, ∃ x8b : Bool, r8 = .tuple #[.slice x8a.p x8a.n x8a.c, .bool x8b] ∧ pif (!x8b) (R (.tuple #[.pointer none, .int .u8 3]) h8) (Spec TP 52 #[.slice x8a.p x8a.n x8a.c] h8 fun r14 h14 => ∃ x14a : Option Addr, ∃ x14b : Int, r14 = .tuple #[.pointer x14a, .int .u8 x14b] ∧ R (.tuple #[.pointer x14a, .int .u8 x14b]) h14)
theorem f58_eq (n : Int) (h : Heap) (R : Value → Heap → Prop) : fnW TP [] (fun _ => none) Tryz.f58 [.int .i64 n] h R = f58_sem n h R := by kernel_rfl
theorem f58_ok {n : Int} {h : Heap} {R : Value → Heap → Prop} (H : f58_sem n h R) : Spec TP 58 #[.int .i64 n] h R := spec_of [] (fun _ => none) nmOK moOK Tryz.func58 (Eq.mpr (f58_eq n h R) H)

/-- (ramage.order.Order).Vars -/
def f118_sem (o : Option Addr) (h : Heap) (R : Value → Heap → Prop) : Prop :=
  pif o.isNone (R (.int .i64 0) h) (psome o fun a6 => ∃ v8 : Sl, Has h a6 [.slice v8.p v8.n v8.c] ∧ R (.int .i64 ((v8.n : Nat) : Int)) h)
theorem f118_eq (o : Option Addr) (h : Heap) (R : Value → Heap → Prop) : fnW TP [] (fun _ => none) Tryz.f118 [.pointer o] h R = f118_sem o h R := by kernel_rfl
theorem f118_ok {o : Option Addr} {h : Heap} {R : Value → Heap → Prop} (H : f118_sem o h R) : Spec TP 118 #[.pointer o] h R := spec_of [] (fun _ => none) nmOK moOK Tryz.func118 (Eq.mpr (f118_eq o h R) H)

/-- ramage.arena.New[ramage.api.Record] -/
def f119_sem (room : Int) (h : Heap) (R : Value → Heap → Prop) : Prop :=
  pif (decide (room < 0)) (R (.tuple #[.pointer none, .int .u8 1]) h) (pif (decide (room > 1048576)) (R (.tuple #[.pointer none, .int .u8 1]) h) (∀ b12, h b12 = none → R (.tuple #[.pointer (some (adr b12)), .int .u8 0]) (Heap.new h b12 (.cells #[.slice none 0 0, .slice none 0 0, .int .i64 0, .int .i64 room] 235))))
theorem f119_eq (room : Int) (h : Heap) (R : Value → Heap → Prop) : fnW TP [12] (fun _ => none) Tryz.f119 [.int .i64 room] h R = f119_sem room h R := by kernel_rfl
theorem f119_ok {room : Int} {h : Heap} {R : Value → Heap → Prop} (H : f119_sem room h R) : Spec TP 119 #[.int .i64 room] h R := spec_of [12] (fun _ => none) nmOK moOK Tryz.func119 (Eq.mpr (f119_eq room h R) H)

/-- ramage.index.New[ramage.node.Key] -/
def f120_sem  (h : Heap) (R : Value → Heap → Prop) : Prop :=
  MkS 8 8 28 ∧ ∀ b1, h b1 = none → ∀ b3, (Heap.new h b1 (.cells ((zrow [.int .u8 0, .int .u8 0, .int .u8 0, .int .u8 0, .int .u32 0, .int .u8 0, .int .u32 0, .int .u32 0, .bool false] (Int.toNat 8 * 9)).toArray) 259)) b3 = none → R (.pointer (some (adr b3))) (Heap.new (Heap.new h b1 (.cells ((zrow [.int .u8 0, .int .u8 0, .int .u8 0, .int .u8 0, .int .u32 0, .int .u8 0, .int .u32 0, .int .u32 0, .bool false] (Int.toNat 8 * 9)).toArray) 259)) b3 (.cells #[.slice (some (adr b1)) (Int.toNat 8) (Int.toNat 8), .int .i64 0] 257))
theorem f120_eq  (h : Heap) (R : Value → Heap → Prop) : fnW TP [3] (fun _ => none) Tryz.f120 [] h R = f120_sem  h R := by kernel_rfl
theorem f120_ok {h : Heap} {R : Value → Heap → Prop} (H : f120_sem h R) : Spec TP 120 #[] h R := spec_of [3] (fun _ => none) nmOK moOK Tryz.func120 (Eq.mpr (f120_eq h R) H)

/-- ramage.store.New -/
def f60_sem (n : Int) (room : Int) (h : Heap) (R : Value → Heap → Prop) : Prop :=
  pif (decide (n < 0)) (R (.tuple #[.pointer none, .int .u8 3]) h) (pif (decide (n > 16)) (R (.tuple #[.pointer none, .int .u8 3]) h) (Spec TP 119 #[.int .i64 room] h fun r16 h16 => ∃ x16a : Option Addr, ∃ x16b : Int, r16 = .tuple #[.pointer x16a, .int .u8 x16b] ∧ pif (x16b != 0) (R (.tuple #[.pointer none, .int .u8 x16b]) h16) (Spec TP 120 #[] h16 fun r24 h24 => ∃ x24 : Option Addr, r24 = .pointer x24 ∧ ∀ b26, h24 b26 = none → R (.tuple #[.pointer (some (adr b26)), .int .u8 0]) (Heap.new h24 b26 (.cells #[.int .i64 n, .pointer x16a, .pointer x24] 179)))))
theorem f60_eq (n : Int) (room : Int) (h : Heap) (R : Value → Heap → Prop) : fnW TP [26] (fun _ => none) Tryz.f60 [.int .i64 n, .int .i64 room] h R = f60_sem n room h R := by kernel_rfl
theorem f60_ok {n : Int} {room : Int} {h : Heap} {R : Value → Heap → Prop} (H : f60_sem n room h R) : Spec TP 60 #[.int .i64 n, .int .i64 room] h R := spec_of [26] (fun _ => none) nmOK moOK Tryz.func60 (Eq.mpr (f60_eq n room h R) H)

/-- (ramage.store.Store).Vars -/
def f64_sem (s : Option Addr) (h : Heap) (R : Value → Heap → Prop) : Prop :=
  pif s.isNone (R (.int .i64 0) h) (psome s fun a6 => ∃ v8 : Int, Has h a6 [.int .i64 v8] ∧ R (.int .i64 v8) h)
theorem f64_eq (s : Option Addr) (h : Heap) (R : Value → Heap → Prop) : fnW TP [] (fun _ => none) Tryz.f64 [.pointer s] h R = f64_sem s h R := by kernel_rfl
theorem f64_ok {s : Option Addr} {h : Heap} {R : Value → Heap → Prop} (H : f64_sem s h R) : Spec TP 64 #[.pointer s] h R := spec_of [] (fun _ => none) nmOK moOK Tryz.func64 (Eq.mpr (f64_eq s h R) H)

/-- ramage.node.IsForm -/
def f142_sem (f : Int) (h : Heap) (R : Value → Heap → Prop) : Prop :=
  pif (decide (f ≥ 1)) (R (.bool (decide (f ≤ 5))) h) (R (.bool false) h)
theorem f142_eq (f : Int) (h : Heap) (R : Value → Heap → Prop) : fnW TP [] (fun _ => none) Tryz.f142 [.int .u8 f] h R = f142_sem f h R := by kernel_rfl
theorem f142_ok {f : Int} {h : Heap} {R : Value → Heap → Prop} (H : f142_sem f h R) : Spec TP 142 #[.int .u8 f] h R := spec_of [] (fun _ => none) nmOK moOK Tryz.func142 (Eq.mpr (f142_eq f h R) H)

/-- ramage.build.may -/
def f139_sem (s : Option Addr) (o : Option Addr) (f : Int) (h : Heap) (R : Value → Heap → Prop) : Prop :=
  pif s.isNone (R (.int .u8 2) h) (pif o.isNone (R (.int .u8 2) h) (Spec TP 64 #[.pointer s] h fun r16 h16 => ∃ x16 : Int, r16 = .int .i64 x16 ∧ Spec TP 118 #[.pointer o] h16 fun r18 h18 => ∃ x18 : Int, r18 = .int .i64 x18 ∧ pif (x16 != x18) (R (.int .u8 1) h18) (Spec TP 142 #[.int .u8 f] h18 fun r22 h22 => ∃ x22 : Bool, r22 = .bool x22 ∧ pif (!x22) (R (.int .u8 4) h22) (R (.int .u8 0) h22))))
theorem f139_eq (s : Option Addr) (o : Option Addr) (f : Int) (h : Heap) (R : Value → Heap → Prop) : fnW TP [] (fun _ => none) Tryz.f139 [.pointer s, .pointer o, .int .u8 f] h R = f139_sem s o f h R := by kernel_rfl
theorem f139_ok {s : Option Addr} {o : Option Addr} {f : Int} {h : Heap} {R : Value → Heap → Prop} (H : f139_sem s o f h R) : Spec TP 139 #[.pointer s, .pointer o, .int .u8 f] h R := spec_of [] (fun _ => none) nmOK moOK Tryz.func139 (Eq.mpr (f139_eq s o f h R) H)

/-- ramage.set.may -/
def f194_sem (n : Int) (h : Heap) (R : Value → Heap → Prop) : Prop :=
  pif (decide (n ≥ 0)) (R (.bool (decide (n ≤ 16))) h) (R (.bool false) h)
theorem f194_eq (n : Int) (h : Heap) (R : Value → Heap → Prop) : fnW TP [] (fun _ => none) Tryz.f194 [.int .i64 n] h R = f194_sem n h R := by kernel_rfl
theorem f194_ok {n : Int} {h : Heap} {R : Value → Heap → Prop} (H : f194_sem n h R) : Spec TP 194 #[.int .i64 n] h R := spec_of [] (fun _ => none) nmOK moOK Tryz.func194 (Eq.mpr (f194_eq n h R) H)

/-- ramage.set.words -/
def f195_sem (n : Int) (h : Heap) (R : Value → Heap → Prop) : Prop :=
  0 ≤ n ∧ (64 : Int) ≠ 0 ∧ R (.int .i64 (if wrap .i64 (Int.tdiv (shlI .i64 1 n) 64) > 1 then wrap .i64 (Int.tdiv (shlI .i64 1 n) 64) else 1)) h
theorem f195_eq (n : Int) (h : Heap) (R : Value → Heap → Prop) : fnW TP [] (fun _ => none) Tryz.f195 [.int .i64 n] h R = f195_sem n h R := by kernel_rfl
theorem f195_ok {n : Int} {h : Heap} {R : Value → Heap → Prop} (H : f195_sem n h R) : Spec TP 195 #[.int .i64 n] h R := spec_of [] (fun _ => none) nmOK moOK Tryz.func195 (Eq.mpr (f195_eq n h R) H)

/-- ramage.set.full -/
def f196_sem (n : Int) (h : Heap) (R : Value → Heap → Prop) : Prop :=
  pif (decide (n ≥ 6)) (R (.int .u64 18446744073709551615) h) (0 ≤ n ∧ 0 ≤ (shlI .u64 1 n) ∧ R (.int .u64 (wrap .u64 ((shlI .u64 1 (shlI .u64 1 n)) - 1))) h)
theorem f196_eq (n : Int) (h : Heap) (R : Value → Heap → Prop) : fnW TP [] (fun _ => none) Tryz.f196 [.int .i64 n] h R = f196_sem n h R := by kernel_rfl
theorem f196_ok {n : Int} {h : Heap} {R : Value → Heap → Prop} (H : f196_sem n h R) : Spec TP 196 #[.int .i64 n] h R := spec_of [] (fun _ => none) nmOK moOK Tryz.func196 (Eq.mpr (f196_eq n h R) H)

/-- ramage.set.Right -/
def f140_sem (s0 : Int) (s1 : Sl) (h : Heap) (R : Value → Heap → Prop) : Prop :=
  Spec TP 194 #[.int .i64 s0] h fun r5 h5 => ∃ x5 : Bool, r5 = .bool x5 ∧ pif x5 (Spec TP 195 #[.int .i64 s0] h5 fun r12 h12 => ∃ x12 : Int, r12 = .int .i64 x12 ∧ pif (((s1.n : Nat) : Int) == x12) (psome s1.p fun a18 => 0 ≤ (0 : Int) ∧ (0 : Int) < ((s1.n : Nat) : Int) ∧ ∃ v19 : Int, Has h12 (a18.add (Int.toNat 0 * 1)) [.int .u64 v19] ∧ Spec TP 196 #[.int .i64 s0] h12 fun r22 h22 => ∃ x22 : Int, r22 = .int .u64 x22 ∧ Has h22 (a18.add (Int.toNat 0 * 1)) [.int .u64 v19] ∧ R (.bool ((andNotI .u64 v19 x22) == 0)) h22) (R (.bool false) h12)) (R (.bool false) h5)
theorem f140_eq (s0 : Int) (s1 : Sl) (h : Heap) (R : Value → Heap → Prop) : fnW TP [] (fun _ => none) Tryz.f140 [.agg #[.int .i64 s0, .slice s1.p s1.n s1.c]] h R = f140_sem s0 s1 h R := by kernel_rfl
theorem f140_ok {s0 : Int} {s1 : Sl} {h : Heap} {R : Value → Heap → Prop} (H : f140_sem s0 s1 h R) : Spec TP 140 #[.agg #[.int .i64 s0, .slice s1.p s1.n s1.c]] h R := spec_of [] (fun _ => none) nmOK moOK Tryz.func140 (Eq.mpr (f140_eq s0 s1 h R) H)

/-- ramage.set.Has -/
def f197_sem (s0 : Int) (s1 : Sl) (x : Int) (h : Heap) (R : Value → Heap → Prop) : Prop :=
  Spec TP 140 #[.agg #[.int .i64 s0, .slice s1.p s1.n s1.c]] h fun r6 h6 => ∃ x6 : Bool, r6 = .bool x6 ∧ pif x6 (pif (decide (x ≥ 0)) (0 ≤ s0 ∧ pif (decide (x < (shlI .i64 1 s0))) ((64 : Int) ≠ 0 ∧ psome s1.p fun a23 => 0 ≤ wrap .i64 (Int.tdiv x 64) ∧ wrap .i64 (Int.tdiv x 64) < ((s1.n : Nat) : Int) ∧ ∃ v24 : Int, Has h6 (a23.add (Int.toNat (wrap .i64 (Int.tdiv x 64)) * 1)) [.int .u64 v24] ∧ (64 : Int) ≠ 0 ∧ 0 ≤ (Int.tmod x 64) ∧ R (.bool ((andI .u64 (shrI .u64 v24 (Int.tmod x 64)) 1) == 1)) h6) (R (.bool false) h6)) (R (.bool false) h6)) (R (.bool false) h6)
theorem f197_eq (s0 : Int) (s1 : Sl) (x : Int) (h : Heap) (R : Value → Heap → Prop) : fnW TP [] (fun _ => none) Tryz.f197 [.agg #[.int .i64 s0, .slice s1.p s1.n s1.c], .int .i64 x] h R = f197_sem s0 s1 x h R := by kernel_rfl
theorem f197_ok {s0 : Int} {s1 : Sl} {x : Int} {h : Heap} {R : Value → Heap → Prop} (H : f197_sem s0 s1 x h R) : Spec TP 197 #[.agg #[.int .i64 s0, .slice s1.p s1.n s1.c], .int .i64 x] h R := spec_of [] (fun _ => none) nmOK moOK Tryz.func197 (Eq.mpr (f197_eq s0 s1 x h R) H)

/-- ramage.node.may -/
def f180_sem (n : Int) (h : Heap) (R : Value → Heap → Prop) : Prop :=
  pif (decide (n ≥ 0)) (R (.bool (decide (n ≤ 16))) h) (R (.bool false) h)
theorem f180_eq (n : Int) (h : Heap) (R : Value → Heap → Prop) : fnW TP [] (fun _ => none) Tryz.f180 [.int .i64 n] h R = f180_sem n h R := by kernel_rfl
theorem f180_ok {n : Int} {h : Heap} {R : Value → Heap → Prop} (H : f180_sem n h R) : Spec TP 180 #[.int .i64 n] h R := spec_of [] (fun _ => none) nmOK moOK Tryz.func180 (Eq.mpr (f180_eq n h R) H)

/-- ramage.node.One -/
def f198_sem (f : Int) (n : Int) (h : Heap) (R : Value → Heap → Prop) : Prop :=
  Spec TP 142 #[.int .u8 f] h fun r7 h7 => ∃ x7 : Bool, r7 = .bool x7 ∧ pif (!x7) (R (.agg #[.int .u8 0, .int .u32 0]) h7) (Spec TP 180 #[.int .i64 n] h7 fun r11 h11 => ∃ x11 : Bool, r11 = .bool x11 ∧ pif (!x11) (R (.agg #[.int .u8 0, .int .u32 0]) h11) (pif (f == 5) (R (.agg #[.int .u8 (wrap .u8 n), .int .u32 1]) h11) (R (.agg #[.int .u8 0, .int .u32 1]) h11)))
theorem f198_eq (f : Int) (n : Int) (h : Heap) (R : Value → Heap → Prop) : fnW TP [] (fun _ => none) Tryz.f198 [.int .u8 f, .int .i64 n] h R = f198_sem f n h R := by kernel_rfl
theorem f198_ok {f : Int} {n : Int} {h : Heap} {R : Value → Heap → Prop} (H : f198_sem f n h R) : Spec TP 198 #[.int .u8 f, .int .i64 n] h R := spec_of [] (fun _ => none) nmOK moOK Tryz.func198 (Eq.mpr (f198_eq f n h R) H)

/-- ramage.order.at -/
def f211_sem (l : Sl) (i : Int) (h : Heap) (R : Value → Heap → Prop) : Prop :=
  pif (decide (i < 0)) (R (.int .i64 (-1)) h) (pif (decide (i ≥ ((l.n : Nat) : Int))) (R (.int .i64 (-1)) h) (psome l.p fun a15 => 0 ≤ i ∧ i < ((l.n : Nat) : Int) ∧ ∃ v16 : Int, Has h (a15.add (Int.toNat i * 1)) [.int .i64 v16] ∧ R (.int .i64 v16) h))
theorem f211_eq (l : Sl) (i : Int) (h : Heap) (R : Value → Heap → Prop) : fnW TP [] (fun _ => none) Tryz.f211 [.slice l.p l.n l.c, .int .i64 i] h R = f211_sem l i h R := by kernel_rfl
theorem f211_ok {l : Sl} {i : Int} {h : Heap} {R : Value → Heap → Prop} (H : f211_sem l i h R) : Spec TP 211 #[.slice l.p l.n l.c, .int .i64 i] h R := spec_of [] (fun _ => none) nmOK moOK Tryz.func211 (Eq.mpr (f211_eq l i h R) H)

/-- (ramage.order.Order).Var -/
def f199_sem (o : Option Addr) (level : Int) (h : Heap) (R : Value → Heap → Prop) : Prop :=
  pif o.isNone (R (.int .i64 (-1)) h) (psome o fun a8 => ∃ v10 : Sl, Has h a8 [.slice v10.p v10.n v10.c] ∧ Spec TP 211 #[.slice v10.p v10.n v10.c, .int .i64 level] h fun r12 h12 => ∃ x12 : Int, r12 = .int .i64 x12 ∧ R (.int .i64 x12) h12)
theorem f199_eq (o : Option Addr) (level : Int) (h : Heap) (R : Value → Heap → Prop) : fnW TP [] (fun _ => none) Tryz.f199 [.pointer o, .int .i64 level] h R = f199_sem o level h R := by kernel_rfl
theorem f199_ok {o : Option Addr} {level : Int} {h : Heap} {R : Value → Heap → Prop} (H : f199_sem o level h R) : Spec TP 199 #[.pointer o, .int .i64 level] h R := spec_of [] (fun _ => none) nmOK moOK Tryz.func199 (Eq.mpr (f199_eq o level h R) H)

/-- ramage.node.Plain -/
def f182_sem (f : Int) (e0 : Int) (e1 : Int) (l : Int) (n : Int) (h : Heap) (R : Value → Heap → Prop) : Prop :=
  Spec TP 142 #[.int .u8 f] h fun r11 h11 => ∃ x11 : Bool, r11 = .bool x11 ∧ pif (!x11) (R (.bool false) h11) (Spec TP 180 #[.int .i64 n] h11 fun r15 h15 => ∃ x15 : Bool, r15 = .bool x15 ∧ pif (!x15) (R (.bool false) h15) (pif (decide (l < 0)) (R (.bool false) h15) (pif (decide (l > n)) (R (.bool false) h15) (pif (f != 5) (R (.bool (e0 == 0)) h15) (pif (e1 == 0) (R (.bool (e0 == 0)) h15) (pif (decide ((wrap .i64 e0) ≥ l)) (R (.bool (decide ((wrap .i64 e0) ≤ n))) h15) (R (.bool false) h15)))))))
theorem f182_eq (f : Int) (e0 : Int) (e1 : Int) (l : Int) (n : Int) (h : Heap) (R : Value → Heap → Prop) : fnW TP [] (fun _ => none) Tryz.f182 [.int .u8 f, .agg #[.int .u8 e0, .int .u32 e1], .int .i64 l, .int .i64 n] h R = f182_sem f e0 e1 l n h R := by kernel_rfl
theorem f182_ok {f : Int} {e0 : Int} {e1 : Int} {l : Int} {n : Int} {h : Heap} {R : Value → Heap → Prop} (H : f182_sem f e0 e1 l n h R) : Spec TP 182 #[.int .u8 f, .agg #[.int .u8 e0, .int .u32 e1], .int .i64 l, .int .i64 n] h R := spec_of [] (fun _ => none) nmOK moOK Tryz.func182 (Eq.mpr (f182_eq f e0 e1 l n h R) H)

/-- (ramage.arena.Arena[ramage.api.Record]).at -/
def f193_sem (a : Option Addr) (id : Int) (h : Heap) (R : Value → Heap → Prop) : Prop :=
  pif a.isNone (R (.pointer none) h) (pif (decide (id < 2)) (R (.pointer none) h) (psome a fun a16 => ∃ v18 : Sl, Has h a16 [.slice v18.p v18.n v18.c] ∧ pif (decide ((wrap .i64 (wrap .u32 (id - 2))) ≥ ((v18.n : Nat) : Int))) (R (.pointer none) h) (psome a fun a24 => ∃ v26 : Sl, Has h a24 [.slice v26.p v26.n v26.c] ∧ psome v26.p fun a29 => 0 ≤ wrap .u32 (id - 2) ∧ wrap .u32 (id - 2) < ((v26.n : Nat) : Int) ∧ ∃ v31 : Bool, Has h ((a29.add (Int.toNat (wrap .u32 (id - 2)) * 9)).add 7) [.bool v31] ∧ pif (!v31) (R (.pointer none) h) (psome a fun a35 => ∃ v37 : Sl, Has h a35 [.slice v37.p v37.n v37.c] ∧ psome v37.p fun a40 => 0 ≤ wrap .u32 (id - 2) ∧ wrap .u32 (id - 2) < ((v37.n : Nat) : Int) ∧ R (.pointer (some (a40.add (Int.toNat (wrap .u32 (id - 2)) * 9)))) h))))
theorem f193_eq (a : Option Addr) (id : Int) (h : Heap) (R : Value → Heap → Prop) : fnW TP [] (fun _ => none) Tryz.f193 [.pointer a, .int .u32 id] h R = f193_sem a id h R := by kernel_rfl
theorem f193_ok {a : Option Addr} {id : Int} {h : Heap} {R : Value → Heap → Prop} (H : f193_sem a id h R) : Spec TP 193 #[.pointer a, .int .u32 id] h R := spec_of [] (fun _ => none) nmOK moOK Tryz.func193 (Eq.mpr (f193_eq a id h R) H)

/-- (ramage.arena.Arena[ramage.api.Record]).Get -/
def f135_sem (a : Option Addr) (id : Int) (h : Heap) (R : Value → Heap → Prop) : Prop :=
  Spec TP 193 #[.pointer a, .int .u32 id] h fun r10 h10 => ∃ x10 : Option Addr, r10 = .pointer x10 ∧ pif (!x10.isNone) (psome x10 fun a14 => ∃ v16a : Int, ∃ v16b : Int, ∃ v16c : Int, ∃ v16d : Int, ∃ v16e : Int, ∃ v16f : Int, ∃ v16g : Int, Has h10 a14 [.int .u8 v16a, .int .u8 v16b, .int .u8 v16c, .int .u8 v16d, .int .u32 v16e, .int .u8 v16f, .int .u32 v16g] ∧ R (.tuple #[.agg #[.int .u8 v16a, .int .u8 v16b, .int .u8 v16c, .int .u8 v16d, .int .u32 v16e, .int .u8 v16f, .int .u32 v16g], .bool true]) h10) (R (.tuple #[.agg #[.int .u8 0, .int .u8 0, .int .u8 0, .int .u8 0, .int .u32 0, .int .u8 0, .int .u32 0], .bool false]) h10)
theorem f135_eq (a : Option Addr) (id : Int) (h : Heap) (R : Value → Heap → Prop) : fnW TP [] (fun _ => none) Tryz.f135 [.pointer a, .int .u32 id] h R = f135_sem a id h R := by kernel_rfl
theorem f135_ok {a : Option Addr} {id : Int} {h : Heap} {R : Value → Heap → Prop} (H : f135_sem a id h R) : Spec TP 135 #[.pointer a, .int .u32 id] h R := spec_of [] (fun _ => none) nmOK moOK Tryz.func135 (Eq.mpr (f135_eq a id h R) H)

/-- (ramage.store.Store).Leads -/
def f123_sem (s : Option Addr) (f : Int) (e0 : Int) (e1 : Int) (l : Int) (h : Heap) (R : Value → Heap → Prop) : Prop :=
  pif s.isNone (R (.bool false) h) (psome s fun a18 => ∃ v20 : Int, Has h a18 [.int .i64 v20] ∧ Spec TP 182 #[.int .u8 f, .agg #[.int .u8 e0, .int .u32 e1], .int .i64 l, .int .i64 v20] h fun r21 h21 => ∃ x21 : Bool, r21 = .bool x21 ∧ pif (!x21) (R (.bool false) h21) (pif (decide (e1 < 2)) (R (.bool true) h21) (psome s fun a29 => ∃ v31 : Option Addr, Has h21 (a29.add 1) [.pointer v31] ∧ Spec TP 135 #[.pointer v31, .int .u32 e1] h21 fun r34 h34 => ∃ x34a_0 : Int, ∃ x34a_1 : Int, ∃ x34a_2 : Int, ∃ x34a_3 : Int, ∃ x34a_4 : Int, ∃ x34a_5 : Int, ∃ x34a_6 : Int, ∃ x34b : Bool, r34 = .tuple #[.agg #[.int .u8 x34a_0, .int .u8 x34a_1, .int .u8 x34a_2, .int .u8 x34a_3, .int .u32 x34a_4, .int .u8 x34a_5, .int .u32 x34a_6], .bool x34b] ∧ pif x34b (pif (x34a_0 == f) (pif (decide ((wrap .i64 x34a_1) ≥ l)) (R (.bool (decide (e0 ≤ x34a_1))) h34) (R (.bool false) h34)) (R (.bool false) h34)) (R (.bool false) h34))))
theorem f123_eq (s : Option Addr) (f : Int) (e0 : Int) (e1 : Int) (l : Int) (h : Heap) (R : Value → Heap → Prop) : fnW TP [] (fun _ => none) Tryz.f123 [.pointer s, .int .u8 f, .agg #[.int .u8 e0, .int .u32 e1], .int .i64 l] h R = f123_sem s f e0 e1 l h R := by kernel_rfl
theorem f123_ok {s : Option Addr} {f : Int} {e0 : Int} {e1 : Int} {l : Int} {h : Heap} {R : Value → Heap → Prop} (H : f123_sem s f e0 e1 l h R) : Spec TP 123 #[.pointer s, .int .u8 f, .agg #[.int .u8 e0, .int .u32 e1], .int .i64 l] h R := spec_of [] (fun _ => none) nmOK moOK Tryz.func123 (Eq.mpr (f123_eq s f e0 e1 l h R) H)

/-- (ramage.index.Index[ramage.node.Key]).home -/
def f228_sem (x : Option Addr) (k0 : Int) (k1 : Int) (k2 : Int) (k3 : Int) (k4 : Int) (k5 : Int) (k6 : Int) (h : Heap) (R : Value → Heap → Prop) : Prop :=
  ∃ f8 rv8, MethRun TP 196 (.agg #[.int .u8 k0, .int .u8 k1, .int .u8 k2, .int .u8 k3, .int .u32 k4, .int .u8 k5, .int .u32 k6]) "Hash" f8 rv8 ∧ (∃ fn, TP.funcs[f8]? = some fn ∧ fn.body.isSome = true) ∧ Spec TP f8 (#[rv8] ++ [].toArray) h fun r8 h8 => ∃ x8 : Int, r8 = .int .u64 x8 ∧ 0 ≤ (32 : Int) ∧ psome x fun a15 => ∃ v17 : Sl, Has h8 a15 [.slice v17.p v17.n v17.c] ∧ R (.int .i64 (wrap .i64 (andI .u64 (xorI .u64 (wrap .u64 (x8 * 11400714819323198485)) (shrI .u64 (wrap .u64 (x8 * 11400714819323198485)) 32)) (wrap .u64 (wrap .i64 (((v17.n : Nat) : Int) - 1)))))) h8
theorem f228_eq (x : Option Addr) (k0 : Int) (k1 : Int) (k2 : Int) (k3 : Int) (k4 : Int) (k5 : Int) (k6 : Int) (h : Heap) (R : Value → Heap → Prop) : fnW TP [] (fun _ => none) Tryz.f228 [.pointer x, .agg #[.int .u8 k0, .int .u8 k1, .int .u8 k2, .int .u8 k3, .int .u32 k4, .int .u8 k5, .int .u32 k6]] h R = f228_sem x k0 k1 k2 k3 k4 k5 k6 h R := by kernel_rfl
theorem f228_ok {x : Option Addr} {k0 : Int} {k1 : Int} {k2 : Int} {k3 : Int} {k4 : Int} {k5 : Int} {k6 : Int} {h : Heap} {R : Value → Heap → Prop} (H : f228_sem x k0 k1 k2 k3 k4 k5 k6 h R) : Spec TP 228 #[.pointer x, .agg #[.int .u8 k0, .int .u8 k1, .int .u8 k2, .int .u8 k3, .int .u32 k4, .int .u8 k5, .int .u32 k6]] h R := spec_of [] (fun _ => none) nmOK moOK Tryz.func228 (Eq.mpr (f228_eq x k0 k1 k2 k3 k4 k5 k6 h R) H)

/-- (ramage.index.Index[ramage.node.Key]).next -/
def f229_sem (x : Option Addr) (i : Int) (h : Heap) (R : Value → Heap → Prop) : Prop :=
  psome x fun a8 => ∃ v10 : Sl, Has h a8 [.slice v10.p v10.n v10.c] ∧ R (.int .i64 (andI .i64 (wrap .i64 (i + 1)) (wrap .i64 (((v10.n : Nat) : Int) - 1)))) h
theorem f229_eq (x : Option Addr) (i : Int) (h : Heap) (R : Value → Heap → Prop) : fnW TP [] (fun _ => none) Tryz.f229 [.pointer x, .int .i64 i] h R = f229_sem x i h R := by kernel_rfl
theorem f229_ok {x : Option Addr} {i : Int} {h : Heap} {R : Value → Heap → Prop} (H : f229_sem x i h R) : Spec TP 229 #[.pointer x, .int .i64 i] h R := spec_of [] (fun _ => none) nmOK moOK Tryz.func229 (Eq.mpr (f229_eq x i h R) H)

/-- (ramage.index.Index[ramage.node.Key]).find -/
def f179_sem (x : Option Addr) (k0 : Int) (k1 : Int) (k2 : Int) (k3 : Int) (k4 : Int) (k5 : Int) (k6 : Int) (h : Heap) (R : Value → Heap → Prop) : Prop :=
  Spec TP 228 #[.pointer x, .agg #[.int .u8 k0, .int .u8 k1, .int .u8 k2, .int .u8 k3, .int .u32 k4, .int .u8 k5, .int .u32 k6]] h fun r8 h8 => ∃ x8 : Int, r8 = .int .i64 x8 ∧ LoopS (fun (st0 : Int × Unit) (h_0 : Heap) C0 => psome x fun a10 => ∃ v12 : Sl, Has h_0 a10 [.slice v12.p v12.n v12.c] ∧ psome v12.p fun a14 => 0 ≤ st0.1 ∧ st0.1 < ((v12.n : Nat) : Int) ∧ ∃ v16 : Bool, Has h_0 ((a14.add (Int.toNat st0.1 * 9)).add 8) [.bool v16] ∧ pif v16 (psome x fun a19 => ∃ v21 : Sl, Has h_0 a19 [.slice v21.p v21.n v21.c] ∧ psome v21.p fun a23 => 0 ≤ st0.1 ∧ st0.1 < ((v21.n : Nat) : Int) ∧ ∃ v25a : Int, ∃ v25b : Int, ∃ v25c : Int, ∃ v25d : Int, ∃ v25e : Int, ∃ v25f : Int, ∃ v25g : Int, Has h_0 (a23.add (Int.toNat st0.1 * 9)) [.int .u8 v25a, .int .u8 v25b, .int .u8 v25c, .int .u8 v25d, .int .u32 v25e, .int .u8 v25f, .int .u32 v25g] ∧ pif (!(((v25a == k0) && ((v25b == k1) && ((v25c == k2) && (((v25d == k3) && ((v25e == k4) && true)) && (((v25f == k5) && ((v25g == k6) && true)) && true))))) && true)) (Spec TP 229 #[.pointer x, .int .i64 st0.1] h_0 fun r31 h31 => ∃ x31 : Int, r31 = .int .i64 x31 ∧ C0 (x31, ()) h31) (R (.int .i64 st0.1) h_0)) (R (.int .i64 st0.1) h_0)) (x8, ()) h8
def f179_ann : Nat → Option LoopAnn := fun | 0 => some ⟨[(5, .one (.int .i64))], [], [9, 10, 11, 12, 13, 14, 15, 16, 17, 18, 19, 20, 21, 22, 23, 24, 25, 26, 27, 28, 29, 30, 31]⟩ | _ => none
theorem f179_eq (x : Option Addr) (k0 : Int) (k1 : Int) (k2 : Int) (k3 : Int) (k4 : Int) (k5 : Int) (k6 : Int) (h : Heap) (R : Value → Heap → Prop) : fnW TP [] f179_ann Tryz.f179 [.pointer x, .agg #[.int .u8 k0, .int .u8 k1, .int .u8 k2, .int .u8 k3, .int .u32 k4, .int .u8 k5, .int .u32 k6]] h R = f179_sem x k0 k1 k2 k3 k4 k5 k6 h R := by kernel_rfl
theorem f179_ok {x : Option Addr} {k0 : Int} {k1 : Int} {k2 : Int} {k3 : Int} {k4 : Int} {k5 : Int} {k6 : Int} {h : Heap} {R : Value → Heap → Prop} (H : f179_sem x k0 k1 k2 k3 k4 k5 k6 h R) : Spec TP 179 #[.pointer x, .agg #[.int .u8 k0, .int .u8 k1, .int .u8 k2, .int .u8 k3, .int .u32 k4, .int .u8 k5, .int .u32 k6]] h R := spec_of [] f179_ann nmOK moOK Tryz.func179 (Eq.mpr (f179_eq x k0 k1 k2 k3 k4 k5 k6 h R) H)

/-- (ramage.index.Index[ramage.node.Key]).Get -/
def f121_sem (x : Option Addr) (k0 : Int) (k1 : Int) (k2 : Int) (k3 : Int) (k4 : Int) (k5 : Int) (k6 : Int) (h : Heap) (R : Value → Heap → Prop) : Prop :=
  pif x.isNone (R (.tuple #[.int .u32 0, .bool false]) h) (psome x fun a10 => ∃ v12 : Sl, Has h a10 [.slice v12.p v12.n v12.c] ∧ Spec TP 179 #[.pointer x, .agg #[.int .u8 k0, .int .u8 k1, .int .u8 k2, .int .u8 k3, .int .u32 k4, .int .u8 k5, .int .u32 k6]] h fun r15 h15 => ∃ x15 : Int, r15 = .int .i64 x15 ∧ Has h15 a10 [.slice v12.p v12.n v12.c] ∧ psome v12.p fun a16 => 0 ≤ x15 ∧ x15 < ((v12.n : Nat) : Int) ∧ ∃ v17a : Int, ∃ v17b : Int, ∃ v17c : Int, ∃ v17d : Int, ∃ v17e : Int, ∃ v17f : Int, ∃ v17g : Int, ∃ v17h : Int, ∃ v17i : Bool, Has h15 (a16.add (Int.toNat x15 * 9)) [.int .u8 v17a, .int .u8 v17b, .int .u8 v17c, .int .u8 v17d, .int .u32 v17e, .int .u8 v17f, .int .u32 v17g, .int .u32 v17h, .bool v17i] ∧ pif (!v17i) (R (.tuple #[.int .u32 0, .bool false]) h15) (R (.tuple #[.int .u32 v17h, .bool true]) h15))
theorem f121_eq (x : Option Addr) (k0 : Int) (k1 : Int) (k2 : Int) (k3 : Int) (k4 : Int) (k5 : Int) (k6 : Int) (h : Heap) (R : Value → Heap → Prop) : fnW TP [] (fun _ => none) Tryz.f121 [.pointer x, .agg #[.int .u8 k0, .int .u8 k1, .int .u8 k2, .int .u8 k3, .int .u32 k4, .int .u8 k5, .int .u32 k6]] h R = f121_sem x k0 k1 k2 k3 k4 k5 k6 h R := by kernel_rfl
theorem f121_ok {x : Option Addr} {k0 : Int} {k1 : Int} {k2 : Int} {k3 : Int} {k4 : Int} {k5 : Int} {k6 : Int} {h : Heap} {R : Value → Heap → Prop} (H : f121_sem x k0 k1 k2 k3 k4 k5 k6 h R) : Spec TP 121 #[.pointer x, .agg #[.int .u8 k0, .int .u8 k1, .int .u8 k2, .int .u8 k3, .int .u32 k4, .int .u8 k5, .int .u32 k6]] h R := spec_of [] (fun _ => none) nmOK moOK Tryz.func121 (Eq.mpr (f121_eq x k0 k1 k2 k3 k4 k5 k6 h R) H)

/-- ramage.node.Chained -/
def f181_sem (f : Int) (h : Heap) (R : Value → Heap → Prop) : Prop :=
  pif (f == 3) (R (.bool true) h) (R (.bool (f == 4)) h)
theorem f181_eq (f : Int) (h : Heap) (R : Value → Heap → Prop) : fnW TP [] (fun _ => none) Tryz.f181 [.int .u8 f] h R = f181_sem f h R := by kernel_rfl
theorem f181_ok {f : Int} {h : Heap} {R : Value → Heap → Prop} (H : f181_sem f h R) : Spec TP 181 #[.int .u8 f] h R := spec_of [] (fun _ => none) nmOK moOK Tryz.func181 (Eq.mpr (f181_eq f h R) H)

/-- ramage.node.Right -/
def f122_sem (d0 : Int) (d1 : Int) (d2 : Int) (d3 : Int) (d4 : Int) (d5 : Int) (d6 : Int) (t : Int) (h : Heap) (R : Value → Heap → Prop) : Prop :=
  Spec TP 142 #[.int .u8 d0] h fun r15 h15 => ∃ x15 : Bool, r15 = .bool x15 ∧ pif (!x15) (R (.bool false) h15) (Spec TP 180 #[.int .i64 t] h15 fun r19 h19 => ∃ x19 : Bool, r19 = .bool x19 ∧ pif (!x19) (R (.bool false) h19) (pif (decide ((wrap .i64 d1) > (wrap .i64 d2))) (R (.bool false) h19) (pif (decide ((wrap .i64 d2) ≥ t)) (R (.bool false) h19) (pif ((wrap .i64 d1) != (wrap .i64 d2)) (Spec TP 181 #[.int .u8 d0] h19 fun r39 h39 => ∃ x39 : Bool, r39 = .bool x39 ∧ pif (!x39) (R (.bool false) h39) (Spec TP 182 #[.int .u8 d0, .agg #[.int .u8 d3, .int .u32 d4], .int .i64 (wrap .i64 ((wrap .i64 d2) + 1)), .int .i64 t] h39 fun r50 h50 => ∃ x50 : Bool, r50 = .bool x50 ∧ pif (!x50) (R (.bool false) h50) (Spec TP 182 #[.int .u8 d0, .agg #[.int .u8 d5, .int .u32 d6], .int .i64 (wrap .i64 ((wrap .i64 d2) + 1)), .int .i64 t] h50 fun r60 h60 => ∃ x60 : Bool, r60 = .bool x60 ∧ pif (!x60) (R (.bool false) h60) (pif (d0 == 2) (R (.bool (d6 != 0)) h60) (pif (d0 == 4) (R (.bool (d6 != 0)) h60) (R (.bool (!((d3 == d5) && ((d4 == d6) && true)))) h60)))))) (Spec TP 182 #[.int .u8 d0, .agg #[.int .u8 d3, .int .u32 d4], .int .i64 (wrap .i64 ((wrap .i64 d2) + 1)), .int .i64 t] h19 fun r50 h50 => ∃ x50 : Bool, r50 = .bool x50 ∧ pif (!x50) (R (.bool false) h50) (Spec TP 182 #[.int .u8 d0, .agg #[.int .u8 d5, .int .u32 d6], .int .i64 (wrap .i64 ((wrap .i64 d2) + 1)), .int .i64 t] h50 fun r60 h60 => ∃ x60 : Bool, r60 = .bool x60 ∧ pif (!x60) (R (.bool false) h60) (pif (d0 == 2) (R (.bool (d6 != 0)) h60) (pif (d0 == 4) (R (.bool (d6 != 0)) h60) (R (.bool (!((d3 == d5) && ((d4 == d6) && true)))) h60)))))))))
theorem f122_eq (d0 : Int) (d1 : Int) (d2 : Int) (d3 : Int) (d4 : Int) (d5 : Int) (d6 : Int) (t : Int) (h : Heap) (R : Value → Heap → Prop) : fnW TP [] (fun _ => none) Tryz.f122 [.agg #[.int .u8 d0, .int .u8 d1, .int .u8 d2, .int .u8 d3, .int .u32 d4, .int .u8 d5, .int .u32 d6], .int .i64 t] h R = f122_sem d0 d1 d2 d3 d4 d5 d6 t h R := by kernel_rfl
theorem f122_ok {d0 : Int} {d1 : Int} {d2 : Int} {d3 : Int} {d4 : Int} {d5 : Int} {d6 : Int} {t : Int} {h : Heap} {R : Value → Heap → Prop} (H : f122_sem d0 d1 d2 d3 d4 d5 d6 t h R) : Spec TP 122 #[.agg #[.int .u8 d0, .int .u8 d1, .int .u8 d2, .int .u8 d3, .int .u32 d4, .int .u8 d5, .int .u32 d6], .int .i64 t] h R := spec_of [] (fun _ => none) nmOK moOK Tryz.func122 (Eq.mpr (f122_eq d0 d1 d2 d3 d4 d5 d6 t h R) H)

end Go.Proofs.YtbeapoopomlgaaaGreat.Sx
