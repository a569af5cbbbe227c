/- The weakest conditions of functions, printed by a program and checked. -/
import Derived.Test.YtbeapoopomlgaaaGreatSl
namespace Go.Proofs.YtbeapoopomlgaaaGreat.Sx
open Go Go.Proofs
open Go.IntKind (wrap)
set_option linter.unusedVariables false
set_option maxRecDepth 20000

/-- (ramage.node.Key).Hash -/
def f311_sem (k0 : Int) (k1 : Int) (k2 : Int) (k3 : Int) (k4 : Int) (k5 : Int) (k6 : Int) (h : Heap) (R : Value → Heap → Prop) : Prop :=
  0 ≤ (48 : Int) ∧ 0 ≤ (40 : Int) ∧ 0 ≤ (32 : Int) ∧ Spec TP 312 #[.int .u64 1, .int .u64 (orI .u64 (orI .u64 (shlI .u64 (wrap .u64 k0) 48) (shlI .u64 (wrap .u64 k1) 40)) (shlI .u64 (wrap .u64 k2) 32))] h fun r21 h21 => ∃ x21 : Int, r21 = .int .u64 x21 ∧ 0 ≤ (32 : Int) ∧ Spec TP 312 #[.int .u64 x21, .int .u64 (orI .u64 (shlI .u64 (wrap .u64 k3) 32) (wrap .u64 k4))] h21 fun r33 h33 => ∃ x33 : Int, r33 = .int .u64 x33 ∧ 0 ≤ (32 : Int) ∧ Spec TP 312 #[.int .u64 x33, .int .u64 (orI .u64 (shlI .u64 (wrap .u64 k5) 32) (wrap .u64 k6))] h33 fun r45 h45 => ∃ x45 : Int, r45 = .int .u64 x45 ∧ R (.int .u64 x45) h45
theorem f311_eq (k0 : Int) (k1 : Int) (k2 : Int) (k3 : Int) (k4 : Int) (k5 : Int) (k6 : Int) (h : Heap) (R : Value → Heap → Prop) : fnW TP [] (fun _ => none) Tryz.f311 [.agg #[.int .u8 k0, .int .u8 k1, .int .u8 k2, .int .u8 k3, .int .u32 k4, .int .u8 k5, .int .u32 k6]] h R = f311_sem k0 k1 k2 k3 k4 k5 k6 h R := by kernel_rfl
theorem f311_ok {k0 : Int} {k1 : Int} {k2 : Int} {k3 : Int} {k4 : Int} {k5 : Int} {k6 : Int} {h : Heap} {R : Value → Heap → Prop} (H : f311_sem k0 k1 k2 k3 k4 k5 k6 h R) : Spec TP 311 #[.agg #[.int .u8 k0, .int .u8 k1, .int .u8 k2, .int .u8 k3, .int .u32 k4, .int .u8 k5, .int .u32 k6]] h R := spec_of [] (fun _ => none) nmOK moOK Tryz.func311 (Eq.mpr (f311_eq k0 k1 k2 k3 k4 k5 k6 h R) H)

/-- ramage.node.mix -/
def f312_sem (hh : Int) (part : Int) (h : Heap) (R : Value → Heap → Prop) : Prop :=
  0 ≤ (29 : Int) ∧ R (.int .u64 (xorI .u64 (wrap .u64 ((xorI .u64 hh part) * 11400714819323198485)) (shrI .u64 (wrap .u64 ((xorI .u64 hh part) * 11400714819323198485)) 29))) h
theorem f312_eq (hh : Int) (part : Int) (h : Heap) (R : Value → Heap → Prop) : fnW TP [] (fun _ => none) Tryz.f312 [.int .u64 hh, .int .u64 part] h R = f312_sem hh part h R := by kernel_rfl
theorem f312_ok {hh : Int} {part : Int} {h : Heap} {R : Value → Heap → Prop} (H : f312_sem hh part h R) : Spec TP 312 #[.int .u64 hh, .int .u64 part] h R := spec_of [] (fun _ => none) nmOK moOK Tryz.func312 (Eq.mpr (f312_eq hh part h R) H)

end Go.Proofs.YtbeapoopomlgaaaGreat.Sx
