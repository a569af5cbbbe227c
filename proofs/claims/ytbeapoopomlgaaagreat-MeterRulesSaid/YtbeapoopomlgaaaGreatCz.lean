/- From a call's arguments to the contracts, and back to the row. -/
import Derived.Test.YtbeapoopomlgaaaGreatCx
import Derived.Test.YtbeapoopomlgaaaGreatRows
import Derived.WalkKit
import Derived.ProofKit
import Derived.OpenShut
import Derived.Deep.Slices
namespace Go.Proofs.YtbeapoopomlgaaaGreat.Sx
open Go Go.Proofs Go.ChangeShapes Go.WideShapes Go.RowKit Go.Deep

/-- all of a heap -/
def whole (W : World) : Heap := fun b => W.heap[b]?
structure Kept (W W' : World) : Prop where
  os : W'.os = W.os
  out : W'.output = W.output
  size : W.heap.size ≤ W'.heap.size
  block : ∀ k, k < W.heap.size → W'.heap[k]? = W.heap[k]?
theorem calls_true {f : FuncId} {args : Array Value} {W : World} (C : Spec TP f args (whole W) fun v h' => v = .bool true ∧ Ext (whole W) h') : Calls TP f args W fun e w' => e = .returned (.bool true) ∧ Kept W w' := by
  refine (C.run W fun b o hb => hb).mono ?_
  rintro e u' ⟨v, h', rfl, ⟨rfl, E⟩, F⟩
  refine ⟨rfl, F.os, F.out, F.size, fun k hk => ?_⟩
  have h1 := Array.getElem?_eq_getElem hk
  rw [F.heap k _ (E k _ h1), h1]
theorem Kept.same {W W' : World} (h : Kept W W') {p : MemPlace} (hp : p.block < W.heap.size) : W.sameAt W' p := by
  cases p with
  | cell b o => exact World.cell?_of_block (w := W) (h.block b hp)
  | map b => exact h.block b hp
theorem Kept.frame {W W' : World} (h : Kept W W') (may : MemPlace → Prop) : W.keptBut W' may := by
  refine ⟨h.os, h.out, fun i hi => ?_⟩
  rw [h.block i hi]
  split <;> simp_all

theorem has_cells {W : World} {base n : Nat} {a : Addr} {cs : List Value} (h : W.cells? base a n = some cs) (h0 : 0 < n) : Has (whole W) a cs := by
  obtain ⟨-, hl, hc⟩ := World.cells?_some h
  have key : ∀ i, i < n → ∃ c e fr, W.heap[a.block]? = some (.cells c e fr) ∧ a.spot = none ∧ c[a.off + i]? = cs[i]? := by
    intro i hi
    have h1 := hc i hi
    have hs : cs[i]? = some cs[i] := List.getElem?_eq_getElem (by omega)
    rw [hs] at h1 ⊢
    unfold World.cell? at h1
    rw [add_block] at h1
    split at h1
    · rename_i c e fr hb
      split at h1
      · cases h1
      · rename_i hsp
        have hsp' : (a.add i).spot = none := by simpa using hsp
        unfold Addr.add at h1 hsp'
        split at h1
        · rename_i h0i
          rw [if_pos h0i] at hsp'
          subst h0i
          exact ⟨c, e, fr, hb, hsp', h1⟩
        · rename_i h0i
          obtain ⟨c', e', fr', hb', hsp0, -⟩ : ∃ c' e' fr', W.heap[a.block]? = some (.cells c' e' fr') ∧ a.spot = none ∧ True := by
            have h2 := hc 0 h0
            have hs2 : cs[0]? = some cs[0] := List.getElem?_eq_getElem (by omega)
            rw [hs2] at h2
            unfold World.cell? at h2
            have ea : a.add 0 = a := by simp [Addr.add]
            rw [ea, hb] at h2
            simp only at h2
            split at h2
            · cases h2
            · rename_i hsp2
              exact ⟨c, e, fr, hb, by simpa using hsp2, trivial⟩
          exact ⟨c, e, fr, hb, hsp0, h1⟩
    · cases h1
  obtain ⟨c, e, fr, hb, hs, -⟩ := key 0 h0
  refine ⟨hs, c, e, fr, hb, fun i v hv => ?_⟩
  have hi : i < n := by have := (List.getElem?_eq_some_iff.1 hv).1; omega
  obtain ⟨c', e', fr', hb', -, hi'⟩ := key i hi
  rw [hb] at hb'; cases hb'
  rw [hi', hv]

theorem wf_u8 {n : Int} (h : (Lit.int .u8 n).wf = true) : 0 ≤ n ∧ n < 256 := by
  simp only [Lit.wf, Bool.and_eq_true, decide_eq_true_eq] at h
  have h1 : IntKind.min .u8 = 0 := rfl
  have h2 : IntKind.max .u8 = 255 := rfl
  omega
theorem wf_u32 {n : Int} (h : (Lit.int .u32 n).wf = true) : 0 ≤ n ∧ n < 4294967296 := by
  simp only [Lit.wf, Bool.and_eq_true, decide_eq_true_eq] at h
  have h1 : IntKind.min .u32 = 0 := rfl
  have h2 : IntKind.max .u32 = 4294967295 := rfl
  omega

section
variable {H : Type} {enc : TypeId × Value → H} {w : World} {base : Nat} {spare : Nat → Bool} {held : Bool}
theorem c25 : TP.cellsOf 25 = 2 := by kernel_rfl
theorem c122 : TP.cellsOf 122 = 7 := by kernel_rfl
theorem c5 : TP.cellsOf 5 = 1 := by kernel_rfl
theorem c23 : TP.cellsOf 23 = 1 := by kernel_rfl
theorem c31 : TP.cellsOf 31 = 1 := by kernel_rfl
theorem two {α : Type} {cs : List α} (h : cs.length = 2) : ∃ a b, cs = [a, b] := by
  match cs, h with
  | [a, b], _ => exact ⟨a, b, rfl⟩
theorem five {α : Type} {cs : List α} (h : cs.length = 5) : ∃ a b c d e, cs = [a, b, c, d, e] := by
  match cs, h with
  | [a, b, c, d, e], _ => exact ⟨a, b, c, d, e, rfl⟩
theorem seven {α : Type} {cs : List α} (h : cs.length = 7) : ∃ a b c d e f g, cs = [a, b, c, d, e, f, g] := by
  match cs, h with
  | [a, b, c, d, e, f, g], _ => exact ⟨a, b, c, d, e, f, g, rfl⟩
theorem open_edgeC {fuel : Nat} {cs : List Value} {x : DataW H × List MemPlace} (h : DataW.trod enc TP w base spare held fuel 25 cs = some x) : ∃ e : Edg, e.ok ∧ cs = e.vals := by
  obtain ⟨xs, n, -, -, hl, hxl, hf⟩ := DataW.trod_struct Tryz.underlying25 h
  rw [c25] at hl
  have g0 : DataW.trod enc TP w base spare held n 5 ((cs.drop 0).take (TP.cellsOf 5)) = xs[0]? := hf 0 _ rfl
  have g1 : DataW.trod enc TP w base spare held n 23 ((cs.drop 1).take (TP.cellsOf 23)) = xs[1]? := hf 1 _ rfl
  rw [c5] at g0
  rw [c23] at g1
  replace hxl : xs.length = 2 := hxl
  obtain ⟨v0, v1, rfl⟩ := two hl
  obtain ⟨y0, y1, rfl⟩ := two hxl
  · 
    obtain ⟨t, e1, -, w1⟩ := DataW.trod_int Tryz.underlying5 g0
    obtain ⟨a, e2, -, w2⟩ := DataW.trod_int Tryz.underlying23 g1
    simp at e1 e2
    subst e1 e2
    have b1 := wf_u8 w1
    have b2 := wf_u32 w2
    exact ⟨⟨t, a⟩, ⟨b1.1, b1.2, b2.1, b2.2⟩, rfl⟩
theorem open_recC {fuel : Nat} {cs : List Value} {x : DataW H × List MemPlace} (h : DataW.trod enc TP w base spare held fuel 122 cs = some x) : ∃ r : Rec, r.ok ∧ cs = r.vals := by
  obtain ⟨xs, n, -, -, hl, hxl, hf⟩ := DataW.trod_struct Tryz.underlying122 h
  rw [c122] at hl
  have g0 : DataW.trod enc TP w base spare held n 31 ((cs.drop 0).take (TP.cellsOf 31)) = xs[0]? := hf 0 _ rfl
  have g1 : DataW.trod enc TP w base spare held n 5 ((cs.drop 1).take (TP.cellsOf 5)) = xs[1]? := hf 1 _ rfl
  have g2 : DataW.trod enc TP w base spare held n 5 ((cs.drop 2).take (TP.cellsOf 5)) = xs[2]? := hf 2 _ rfl
  have g3 : DataW.trod enc TP w base spare held n 25 ((cs.drop 3).take (TP.cellsOf 25)) = xs[3]? := hf 3 _ rfl
  have g4 : DataW.trod enc TP w base spare held n 25 ((cs.drop 5).take (TP.cellsOf 25)) = xs[4]? := hf 4 _ rfl
  rw [c31] at g0
  rw [c5] at g1 g2
  rw [c25] at g3 g4
  replace hxl : xs.length = 5 := hxl
  obtain ⟨v0, v1, v2, v3, v4, v5, v6, rfl⟩ := seven hl
  obtain ⟨y0, y1, y2, y3, y4, rfl⟩ := five hxl
  · 
    obtain ⟨f, e1, -, w1⟩ := DataW.trod_int Tryz.underlying31 g0
    obtain ⟨t, e2, -, w2⟩ := DataW.trod_int Tryz.underlying5 g1
    obtain ⟨b, e3, -, w3⟩ := DataW.trod_int Tryz.underlying5 g2
    obtain ⟨lo, k1, e4⟩ := open_edgeC g3
    obtain ⟨hi, k2, e5⟩ := open_edgeC g4
    simp at e1 e2 e3 e4 e5
    obtain ⟨e4, e4'⟩ := e4
    obtain ⟨e5, e5'⟩ := e5
    subst e1 e2 e3 e4 e4' e5 e5'
    have b1 := wf_u8 w1
    have b2 := wf_u8 w2
    have b3 := wf_u8 w3
    exact ⟨⟨f, t, b, lo, hi⟩, ⟨b1.1, b1.2, b2.1, b2.2, b3.1, b3.2, k1, k2⟩, rfl⟩

/-- a slice of structs -/
theorem open_structs {Q : Program} {α : Type} {t e : TypeId} {sz : Nat} {enc' : α → List Value} {P : α → Prop} {v : Value} {d : DataW H} {ps : List MemPlace} (ht : Q.underlying t = some (.slice e)) (hc : Q.cellsOf e = sz) (h0 : 0 < sz)
    (hel : ∀ {n : Nat} {cs : List Value} {x : DataW H × List MemPlace}, DataW.trod enc Q w base spare held n e cs = some x → ∃ r : α, P r ∧ cs = enc' r)
    {rc : Reach} {b0 : Nat} (hval : Value.okWide Q w rc b0 t v) (h : DataW.Trod enc Q w base spare held t v d ps) :
    ∃ (s : Sl) (l : List α), v = .slice s.p s.n s.c ∧ SlR (whole w) s sz enc' l ∧ ∀ r ∈ l, P r := by
  obtain ⟨a, len, cap, rfl⟩ := okWide_slice ht hval
  obtain ⟨fuel, hf⟩ := h
  rcases open_slice ht hf with ⟨h1, -⟩ | ⟨a', len', cap', m, n, D, Pl, h1, -, h2, -, h3, -, h4⟩
  · simp [Value.cells] at h1
    obtain ⟨rfl, rfl, rfl⟩ := h1
    exact ⟨⟨none, 0, 0⟩, [], rfl, SlR.nil 0, by simp⟩
  · simp [Value.cells] at h1
    obtain ⟨rfl, rfl, rfl⟩ := h1
    have hlm : len ≤ m := by rw [h3]; split <;> omega
    have each : ∀ i, i < len → ∃ r : α, P r ∧ Has (whole w) (a'.add (i * sz)) (enc' r) := by
      intro i hi
      obtain ⟨cs, q1, q2⟩ := h4 i (by omega)
      obtain ⟨r, q3, rfl⟩ := hel q2
      rw [hc] at q1
      exact ⟨r, q3, has_cells q1 h0⟩
    have build : ∀ k, k ≤ len → ∃ l : List α, l.length = k ∧ (∀ r ∈ l, P r) ∧ ∀ i x, l[i]? = some x → Has (whole w) (a'.add (i * sz)) (enc' x) := by
      intro k
      induction k with
      | zero => intro _; exact ⟨[], rfl, by simp, by simp⟩
      | succ k ih =>
        intro hk
        obtain ⟨l, l1, l2, l3⟩ := ih (by omega)
        obtain ⟨r, r1, r2⟩ := each k (by omega)
        refine ⟨l ++ [r], by simp [l1], fun x hx => ?_, fun i x hx => ?_⟩
        · rw [List.mem_append, List.mem_singleton] at hx
          rcases hx with hx | rfl
          · exact l2 x hx
          · exact r1
        · rcases Nat.lt_or_ge i l.length with h5 | h5
          · rw [List.getElem?_append_left h5] at hx; exact l3 i x hx
          · rw [List.getElem?_append_right h5] at hx
            cases hj : i - l.length with
            | zero =>
              rw [hj] at hx
              have : i = k := by omega
              subst this
              simp only [List.getElem?_cons_zero, Option.some.injEq] at hx
              subst hx; exact r2
            | succ j => rw [hj] at hx; simp at hx
    obtain ⟨l, l1, l2, l3⟩ := build len (Nat.le_refl _)
    exact ⟨⟨some a', len, cap⟩, l, rfl, ⟨l1.symm, fun i x hi => ⟨a', rfl, l3 i x hi⟩⟩, l2⟩
theorem open_edge {v : Value} {d : DataW H} {ps : List MemPlace} (h : DataW.Trod enc TP w base spare held 25 v d ps) : ∃ e : Edg, e.ok ∧ v = e.val := by
  obtain ⟨fuel, hf⟩ := h
  obtain ⟨e, he, hc⟩ := open_edgeC hf
  refine ⟨e, he, ?_⟩
  cases v <;> simp [Value.cells, Edg.vals] at hc
  rename_i cs
  obtain ⟨l⟩ := cs
  simp at hc
  rw [hc]
end
/-! ### the row's ends -/
theorem own : ownKnob Tryz.prog.godebug = none := by kernel_rfl
theorem laidOut : laidOutB Tryz.prog = true := by kernel_rfl
theorem Kept.trod {H : Type} {enc : TypeId × Value → H} {t : TypeId} (hr : TP.readableRec t = true) (hrow : t < TP.types.size) {W W' : World} {v : Value} {d : DataW H} {ps : List MemPlace}
    (h : DataW.Trod enc TP W 0 (fun _ => true) true t v d ps) (hb : Kept W W') (hlt : ∀ x ∈ ps, x.block < W.heap.size) :
    DataW.Trod enc TP W' 0 (fun b => decide (b < W.heap.size)) true t v d ps :=
  WideElems.Trod_stays laidOut hr hrow h (fun x hx => hb.same (hlt x hx)) (fun x hx => by simpa using hlt x hx)
theorem shut_true {H : Type} {enc : TypeId × Value → H} {W : World} {base : Nat} {sp : Nat → Bool} {held : Bool} (b : Bool) : DataW.Trod enc Tryz.prog W base sp held 4 (.bool b) (.lit (.bool b)) [] :=
  ⟨1, by simp [DataW.trod, Value.cells, Tryz.underlying4]⟩
theorem read3 : TP.readableRec 3 = true := by kernel_rfl
theorem read22 : TP.readableRec 22 = true := by kernel_rfl
theorem read5 : TP.readableRec 5 = true := by kernel_rfl
theorem read25 : TP.readableRec 25 = true := by kernel_rfl
theorem row3 : 3 < TP.types.size := of_decide_eq_true (by kernel_rfl)
theorem row22 : 22 < TP.types.size := of_decide_eq_true (by kernel_rfl)
theorem row5 : 5 < TP.types.size := of_decide_eq_true (by kernel_rfl)
theorem row25 : 25 < TP.types.size := of_decide_eq_true (by kernel_rfl)
end Go.Proofs.YtbeapoopomlgaaaGreat.Sx
