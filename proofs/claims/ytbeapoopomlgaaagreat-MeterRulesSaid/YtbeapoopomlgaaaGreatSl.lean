/- The walk at the given program. -/
import Derived.Test.YtbeapoopomlgaaaGreatProg
import Derived.Test.YtbeapoopomlgaaaGreatSk
import Derived.KernelRfl
namespace Go.Proofs.YtbeapoopomlgaaaGreat.Sx
open Go Go.Proofs
noncomputable abbrev TP : Program := Tryz.prog
/-- a new block's own place -/
abbrev adr (b : Nat) : Addr := ⟨b, 0, none⟩
theorem moOK : TP.follows .mixedOrders = true := by kernel_rfl
def allNames (P : Program) : Bool := P.funcs.toList.all fun fn => !(fn.name == "runtime.NumGoroutine")
theorem allNames_TP : allNames TP = true := by kernel_rfl
theorem nmOK : NamesOK TP := fun f fn hf => by
  have h := allNames_TP
  unfold allNames at h
  rw [List.all_eq_true] at h
  have := h fn (by
    have := Array.mem_of_getElem? hf
    simpa using this)
  simpa using this
end Go.Proofs.YtbeapoopomlgaaaGreat.Sx
