/- The row of MeterRules, proved. -/
import Derived.Test.YtbeapoopomlgaaaGreatDi
import Derived.Test.YtbeapoopomlgaaaGreatCz
namespace Go.Proofs.YtbeapoopomlgaaaGreat.Sx
open Go Go.Proofs Go.ChangeShapes Go.WideShapes Go.RowKit
theorem read46 : TP.readableRec 46 = true := by kernel_rfl
theorem row46 : 46 < TP.types.size := of_decide_eq_true (by kernel_rfl)
set_option maxRecDepth 100000 in
theorem lifted8 (os : Os) (started : os.Started) (H : Type) (enc : TypeId × Value → H) :
    ReturnsInHanded {} Tryz.checked os 8 .any (Rows.meterRulesSpec.pre6 enc Tryz.prog Tryz.f8 Rows.meterRulesRow.domain false) (Rows.meterRulesSpec.post enc Tryz.prog Tryz.f8 false true false false) := by
  refine returnsInHanded_of_change (C := Tryz.checked) own started (by kernel_rfl) Tryz.func8
    (ChangeSpec.witness6 (enc := enc) (C := Tryz.checked) false ⟨#[], #[.int .i64 0, .int .u8 0, .int .u64 0, .int .u64 0], []⟩ 8 (by kernel_rfl) (by kernel_rfl) (by kernel_rfl) (by kernel_rfl)) ?_
  intro W base args ds gs before hval0 hW hcnd _
  have hval : ∀ (j : Nat) t v, Tryz.f8.params[j]? = some t → args[j]? = some v → Value.okWide Tryz.prog W .any base t v := hval0
  have hW' := hW
  obtain ⟨p, q, hA0, hV, rfl, _, _⟩ := hW
  have hA : DataW.TrodAll enc Tryz.prog W 0 (fun _ => true) true Tryz.f8.params.toList args.toList ds p := hA0
  clear hA0 hval0 hcnd
  rw [Tryz.params8] at hA hval
  obtain ⟨v0, vs1, d0, ds1, p0, q0, hv0, rfl, rfl, h0, hA⟩ := trodAll_cons hA
  obtain ⟨v1, vs2, d1, ds2, p1, q1, rfl, rfl, rfl, h1, hA⟩ := trodAll_cons hA
  obtain ⟨v2, vs3, d2, ds3, p2, q2, rfl, rfl, rfl, h2, hA⟩ := trodAll_cons hA
  obtain ⟨v3, vs4, d3, ds4, p3, q3, rfl, rfl, rfl, h3, hA⟩ := trodAll_cons hA
  obtain ⟨rfl, rfl, rfl⟩ := trodAll_nil hA
  obtain ⟨rfl, rfl⟩ := trodVars_none hV
  obtain rfl : args = #[v0, v1, v2, v3] := Array.toList_inj.1 hv0
  obtain ⟨n0, rfl, -, -, w0⟩ := open_int Tryz.underlying3 (hval 0 3 v0 rfl rfl) h0
  obtain ⟨n1, rfl, -, -, w1⟩ := open_int Tryz.underlying5 (hval 1 5 v1 rfl rfl) h1
  obtain ⟨n2, rfl, -, -, w2⟩ := open_int Tryz.underlying46 (hval 2 46 v2 rfl rfl) h2
  obtain ⟨n3, rfl, -, -, w3⟩ := open_int Tryz.underlying46 (hval 3 46 v3 rfl rfl) h3
  have hlt : ∀ x ∈ p0 ++ (p1 ++ (p2 ++ (p3 ++ []))) ++ [], x.block < W.heap.size := fun x hx => by simpa using hW'.lt x hx
  refine (calls_true (meterRules_spec (n := n0) (f := n1) (a := n2) (c := n3))).mono fun ev W' ⟨hev, K⟩ => ?_
  subst hev
  have l0 : ∀ x ∈ p0, x.block < W.heap.size := fun x hx => hlt x (by simp only [List.mem_append]; exact .inl (.inl hx))
  have l1 : ∀ x ∈ p1, x.block < W.heap.size := fun x hx => hlt x (by simp only [List.mem_append]; exact .inl (.inr (.inl hx)))
  have l2 : ∀ x ∈ p2, x.block < W.heap.size := fun x hx => hlt x (by simp only [List.mem_append]; exact .inl (.inr (.inr (.inl hx))))
  have l3 : ∀ x ∈ p3, x.block < W.heap.size := fun x hx => hlt x (by simp only [List.mem_append]; exact .inl (.inr (.inr (.inr (.inl hx)))))
  refine ⟨_, rfl, _, _, _, [], p0 ++ (p1 ++ (p2 ++ (p3 ++ []))), [], hW', ?_, ?_, rfl, K.frame _, fun h => by cases h⟩
  · exact trodAll_cons_mk (shut_true true) trodAll_mk0
  · exact trodAll_cons_mk (K.trod read3 row3 h0 l0) (trodAll_cons_mk (K.trod read5 row5 h1 l1) (trodAll_cons_mk (K.trod read46 row46 h2 l2) (trodAll_cons_mk (K.trod read46 row46 h3 l3) trodAll_mk0)))
end Go.Proofs.YtbeapoopomlgaaaGreat.Sx
namespace Go.Proofs.YtbeapoopomlgaaaGreat
open Go Go.Proofs
theorem meterRules_proved : Rows.MeterRulesSaid :=
  OpenClaim.holds_of_wide 8 Tryz.f8 rfl rfl rfl rfl rfl rfl rfl ⟨rfl, rfl, rfl, rfl, rfl⟩ rfl rfl rfl rfl rfl (by kernel_rfl) Tryz.func8 (by kernel_rfl)
    (of_decide_eq_true (by kernel_rfl)) (by unfold Func.isWrapper; first | (rw [if_pos (by decide +kernel)]; kernel_rfl) | (rw [if_neg (by decide +kernel)]; exact ⟨rfl, rfl⟩))
    (fun os started H enc _ => Sx.lifted8 os started H enc)
#print axioms meterRules_proved
end Go.Proofs.YtbeapoopomlgaaaGreat
