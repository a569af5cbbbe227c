/- The words of a small symbolic walk of Go's code over a partial heap: values, local variables' boxes, forms of operations, and the weakest condition of a function's code. -/
import Derived.WalkKit
import Derived.Orders
namespace Go.Proofs.YtbeapoopomlgaaaGreat.Sx
open Go

/-! ### heaps -/
abbrev Heap := Nat → Option Obj

/-- The cells from p on hold these values. -/
structure Has (h : Heap) (p : Addr) (vs : List Value) : Prop where
  spot : p.spot = none
  row : ∃ c e fr, h p.block = some (.cells c e fr) ∧ ∀ i v, vs[i]? = some v → c[p.off + i]? = some v

/-- n cells from p on may be written. -/
structure CanPut (h : Heap) (p : Addr) (n : Nat) : Prop where
  spot : p.spot = none
  row : ∃ c e, h p.block = some (.cells c e (0, 0)) ∧ p.off + n ≤ c.size

def spl : Array Value → Nat → List Value → Array Value
  | c, _, [] => c
  | c, o, v :: r => spl (c.setIfInBounds o v) (o + 1) r

def Heap.put (h : Heap) (p : Addr) (vs : List Value) : Heap := fun b =>
  if b = p.block then (match h b with | some (.cells c e fr) => some (.cells (spl c p.off vs) e fr) | o => o) else h b

def Heap.new (h : Heap) (b : Nat) (o : Obj) : Heap := fun b' => if b' = b then some o else h b'

/-! ### a call's contract -/
/-- What a call leaves: the new part of the heap stands, all blocks that are not its own are as they were. -/
structure Fr (u : World) (h h' : Heap) (u' : World) : Prop where
  heap : ∀ b o, h' b = some o → u'.heap[b]? = some o
  size : u.heap.size ≤ u'.heap.size
  frame : ∀ b, b < u.heap.size → h b = none → u'.heap[b]? = u.heap[b]?
  dom : ∀ b o, h' b = some o → h b ≠ none ∨ u.heap.size ≤ b
  os : u'.os = u.os
  out : u'.output = u.output

structure Spec (P : Program) (f : FuncId) (args : Array Value) (h : Heap) (K : Value → Heap → Prop) : Prop where
  run : ∀ u : World, (∀ b o, h b = some o → u.heap[b]? = some o) →
    Calls P f args u fun e u' => ∃ v h', e = .returned v ∧ K v h' ∧ Fr u h h' u'

/-! ### shapes of values -/
structure Sl where
  p : Option Addr
  n : Nat
  c : Nat

inductive Sh where
  | int (k : IntKind) | bool | ptr | slice | str | map | any

@[reducible] def Sh.Dom : Sh → Type
  | .int _ => Int
  | .bool => Bool
  | .ptr => Option Addr
  | .slice => Sl
  | .str => ByteArray
  | .map => Option Nat
  | .any => Value

def Sh.val : (s : Sh) → s.Dom → Value
  | .int k, x => .int k x
  | .bool, b => .bool b
  | .ptr, p => .pointer p
  | .slice, s => .slice s.p s.n s.c
  | .str, s => .string s
  | .map, r => .map r
  | .any, v => v

def exSh : List Sh → (List Value → Prop) → Prop
  | [], k => k []
  | s :: r, k => ∃ x : s.Dom, exSh r fun vs => k (s.val x :: vs)

def shOf (P : Program) : Nat → TypeId → List Sh
  | 0, _ => []
  | n + 1, t => match P.underlying t with
    | some .bool => [.bool]
    | some (.int k) => [.int k]
    | some .string => [.str]
    | some (.pointer _) => [.ptr]
    | some (.slice _) => [.slice]
    | some (.map _ _) => [.map]
    | some (.struct fs) => fs.toList.flatMap fun f => shOf P n f.type
    | some (.array k e) => (List.replicate k (shOf P n e)).flatten
    | _ => [.any]

def isAggT (P : Program) (t : TypeId) : Bool := match P.underlying t with
  | some (.struct _) => true
  | some (.array _ _) => true
  | _ => false

def mkV (agg : Bool) (vs : List Value) : Value := match agg, vs with
  | true, vs => .agg vs.toArray
  | false, v :: _ => v
  | false, [] => undef

def exTup (P : Program) : List TypeId → (List Value → Prop) → Prop
  | [], k => k []
  | t :: ts, k => exSh (shOf P 9 t) fun vs => exTup P ts fun r => k (mkV (isAggT P t) vs :: r)

def exRes (P : Program) (t : TypeId) (k : Value → Prop) : Prop := match P.underlying t with
  | some (.tuple ts) => exTup P ts.toList fun vs => k (.tuple vs.toArray)
  | _ => exSh (shOf P 9 t) fun vs => k (mkV (isAggT P t) vs)

def pif (b : Bool) (A B : Prop) : Prop := match b with
  | true => A
  | false => B

def psome (p : Option Addr) (k : Addr → Prop) : Prop := match p with
  | some a => k a
  | none => False

theorem pif_iff {b : Bool} {A B : Prop} : pif b A B ↔ (b = true → A) ∧ (b = false → B) := by cases b <;> simp [pif]
theorem pif_t {b : Bool} {A B : Prop} (h : b = true) (a : A) : pif b A B := by subst h; exact a
theorem pif_f {b : Bool} {A B : Prop} (h : b = false) (a : B) : pif b A B := by subst h; exact a
theorem pif_dec {p : Prop} [Decidable p] {A B : Prop} (ht : p → A) (hf : ¬ p → B) : pif (decide p) A B := by
  by_cases h : p
  · exact pif_t (by simpa using h) (ht h)
  · exact pif_f (by simpa using h) (hf h)
theorem pif_split {b : Bool} {A B : Prop} (ht : b = true → A) (hf : b = false → B) : pif b A B := pif_iff.2 ⟨ht, hf⟩
theorem psome_iff {p : Option Addr} {k : Addr → Prop} : psome p k ↔ ∃ a, p = some a ∧ k a := by cases p <;> simp [psome]

/-! ### symbolic values -/
inductive SV where
  | v (x : Value)
  | loc (d off : Nat)
  | lsl (d n : Nat)
  | any

structure SS where
  env : Nat → SV
  box : Nat → Option (List SV)

def ev (env : Nat → SV) : Operand → SV
  | .tmp t => env t
  | .const v => .v v
  | .global g => .v (.pointer (some ⟨g, 0, none⟩))
  | .func f => .v (.func (.func f) #[] #[])

def putE (env : Nat → SV) (d : Option Nat) (r : SV) : Nat → SV := match d with
  | some d => fun t => bif Nat.beq t d then r else env t
  | none => env

def putB (box : Nat → Option (List SV)) (d : Nat) (r : List SV) : Nat → Option (List SV) := fun t => bif Nat.beq t d then some r else box t

def allV : List SV → Option (List Value)
  | [] => some []
  | .v x :: r => (allV r).map (x :: ·)
  | _ :: _ => none

def svAgg (agg : Bool) (cs : List SV) : Option SV := match agg, cs with
  | false, s :: _ => some s
  | false, [] => none
  | true, cs => (allV cs).map fun vs => .v (.agg vs.toArray)

def lspl (old : List SV) (off : Nat) (cs : List SV) : List SV := old.take off ++ cs ++ old.drop (off + cs.length)

/-! ### forms of operations -/
inductive Form where
  | pure (S : (SV → Prop) → Prop)
  | hload (p : Option Addr) (sh : List Sh) (agg : Bool)
  | lload (d off n : Nat) (agg : Bool)
  | alloc (cs : List SV) (sl : Option Nat)
  | lstore (d off : Nat) (cs : List SV)
  | eff (E : Heap → (SV → Heap → Prop) → Prop)
  | effb (d n : Nat) (E : List Value → Heap → (SV → Heap → Prop) → Prop)
  | bad

def okCell : SV → Bool
  | .v x => x.oneCell'
  | .loc _ _ => true
  | .lsl _ _ => true
  | .any => false

def okCells : List SV → Bool
  | [] => true
  | s :: r => bif okCell s then okCells r else false

def interp (F : Form) (dst : Option Nat) (K : SS → Heap → Prop) (σ : SS) (h : Heap) : Prop := match F with
  | .pure S => S fun r => K ⟨putE σ.env dst r, σ.box⟩ h
  | .hload p sh agg => psome p fun a => exSh sh fun vs => Has h a vs ∧ K ⟨putE σ.env dst (.v (mkV agg vs)), σ.box⟩ h
  | .lload d off n agg => match σ.box d with
    | some cs => match Nat.ble (off + n) cs.length, svAgg agg ((cs.drop off).take n) with
      | true, some r => K ⟨putE σ.env dst r, σ.box⟩ h
      | _, _ => False
    | none => False
  | .alloc cs sl => match dst with
    | some d => match σ.box d with
      | none => K ⟨putE σ.env dst (match sl with | none => .loc d 0 | some n => .lsl d n), putB σ.box d cs⟩ h
      | some _ => False
    | none => False
  | .lstore d off cs => match σ.box d with
    | some old => match Nat.ble (off + cs.length) old.length, okCells cs with
      | true, true => K ⟨putE σ.env dst .any, putB σ.box d (lspl old off cs)⟩ h
      | _, _ => False
    | none => False
  | .eff E => E h fun r h' => K ⟨putE σ.env dst r, σ.box⟩ h'
  | .effb d n E => match σ.box d with
    | some cs => match Nat.ble n cs.length, allV (cs.take n) with
      | true, some vs => E vs h fun r h' => K ⟨putE σ.env dst r, σ.box⟩ h'
      | _, _ => False
    | none => False
  | .bad => False

/-! ### which form an operation has -/
def zrow (z : List Value) (k : Nat) : List Value := (List.range k).map fun i => z[i % z.length]!

def zeroOf (P : Program) (t : TypeId) : Option Value := (P.info? t).bind (·.zero)

/-- append's two ways -/
structure AppendS (P : Program) (h : Heap) (elem : TypeId) (s : Sl) (new : List Value) (cnt : Nat) (K : Sl → Heap → Prop) : Prop where
  one : ∀ v ∈ new, v.oneCell' = true
  inf : ∃ i, P.info? elem = some i
  room : s.n + cnt ≤ s.c → (new = [] ∧ K ⟨s.p, s.n + cnt, s.c⟩ h) ∨
    ∃ a, s.p = some a ∧ CanPut h (a.add (s.n * P.cellsOf elem)) new.length ∧ K ⟨s.p, s.n + cnt, s.c⟩ (h.put (a.add (s.n * P.cellsOf elem)) new)
  grow : s.c < s.n + cnt → Builtin.nextslicecap (s.n + cnt) s.c * P.bytesOf elem ≤ 2 ^ 48 ∧ 0 < P.bytesOf elem ∧
    ∃ old z, old.length = s.n * P.cellsOf elem ∧ (∀ a, s.p = some a → old = [] ∨ Has h a old) ∧ (s.p = none → old = []) ∧ zeroOf P elem = some z ∧
      ∀ cap b, s.n + cnt ≤ cap → h b = none → K ⟨some ⟨b, 0, none⟩, s.n + cnt, cap⟩ (h.new b (.cells (old ++ new ++ zrow z.cells.toList ((cap - (s.n + cnt)) * z.cells.size)).toArray elem))

/-- a slice in the heap holds these cells -/
structure HasSl (h : Heap) (s : Sl) (size : Nat) (vs : List Value) : Prop where
  len : vs.length = s.n * size
  some : ∀ a, s.p = some a → vs = [] ∨ Has h a vs
  none : s.p = none → vs = []

structure MkS (l c : Int) (bytes : Nat) : Prop where
  l0 : 0 ≤ l
  lc : l ≤ c
  cb : c * bytes ≤ 2 ^ 48
  b0 : 0 < bytes

structure ExtRun (P : Program) (f : FuncId) (args : Array Value) (r : Value) : Prop where
  run : ∀ w, (callFunc f args).run P w = .ok (.value r) w

def andI (k : IntKind) (a b : Int) : Int := k.wrap ((BitVec.ofInt k.bits a &&& BitVec.ofInt k.bits b).toNat : Nat)
def orI (k : IntKind) (a b : Int) : Int := k.wrap ((BitVec.ofInt k.bits a ||| BitVec.ofInt k.bits b).toNat : Nat)
def xorI (k : IntKind) (a b : Int) : Int := k.wrap ((BitVec.ofInt k.bits a ^^^ BitVec.ofInt k.bits b).toNat : Nat)
def andNotI (k : IntKind) (a b : Int) : Int := k.wrap ((BitVec.ofInt k.bits a &&& ~~~ BitVec.ofInt k.bits b).toNat : Nat)
def shlI (k : IntKind) (a b : Int) : Int := k.wrap (a * 2 ^ (min b.toNat k.bits))
def shrI (k : IntKind) (a b : Int) : Int := a.fdiv (2 ^ (min b.toNat k.bits))

def kEq : IntKind → IntKind → Bool
  | .i8, .i8 | .i16, .i16 | .i32, .i32 | .i64, .i64 | .u8, .u8 | .u16, .u16 | .u32, .u32 | .u64, .u64 => true
  | _, _ => false

def intS (op : BinOp) (k k' : IntKind) (a b : Int) (K : Value → Prop) : Prop := match op, kEq k k' with
  | .shl, _ => 0 ≤ b ∧ K (.int k (shlI k a b))
  | .shr, _ => 0 ≤ b ∧ K (.int k (shrI k a b))
  | .add, true => K (.int k (k.wrap (a + b)))
  | .sub, true => K (.int k (k.wrap (a - b)))
  | .mul, true => K (.int k (k.wrap (a * b)))
  | .quo, true => b ≠ 0 ∧ K (.int k (k.wrap (a.tdiv b)))
  | .rem, true => b ≠ 0 ∧ K (.int k (a.tmod b))
  | .and, true => K (.int k (andI k a b))
  | .or, true => K (.int k (orI k a b))
  | .xor, true => K (.int k (xorI k a b))
  | .andNot, true => K (.int k (andNotI k a b))
  | .eql, true => K (.bool (a == b))
  | .neq, true => K (.bool (a != b))
  | .lss, true => K (.bool (decide (a < b)))
  | .leq, true => K (.bool (decide (a ≤ b)))
  | .gtr, true => K (.bool (decide (a > b)))
  | .geq, true => K (.bool (decide (a ≥ b)))
  | _, _ => False

/-- is a type known? -/
def okT (P : Program) (t : TypeId) : Bool := (P.underlying t).isSome

def partO (P : Program) (t : TypeId) (cs : Array Value) (off : Nat) : Option Value := match okT P t, isAggT P t with
  | true, true => some (.agg (cs.extract off (off + P.cellsOf t)))
  | true, false => cs[off]?
  | false, _ => none

/-! maps whose keys are whole numbers -/
def mkey (kd : IntKind) (n : Int) (e : MapEntry) : Bool := match e.key with
  | .int k m => kEq kd k && n == m
  | _ => false

def mget (kd : IntKind) (es : Array MapEntry) (n : Int) : Option Value := (es.toList.find? (mkey kd n)).map (·.val)

def mput (kd : IntKind) (es : Array MapEntry) (clock : Nat) (n : Int) (v : Value) : Obj := match es.toList.findIdx? (mkey kd n) with
  | some i => .map (es.modify i fun e => { e with key := .int kd n, val := v }) clock
  | none => .map (es.push { key := .int kd n, val := v, born := clock }) (clock + 1)

structure MapAt (h : Heap) (r : Option Nat) (kd : IntKind) (es : Array MapEntry) (clock : Nat) : Prop where
  keys : ∀ e ∈ es, ∃ m, e.key = .int kd m
  some : ∀ b, r = some b → h b = some (.map es clock)
  none : r = none → es = #[]

structure IterAt (h : Heap) (b m since : Nat) (seen : Array Nat) (last : Nat) (es : Array MapEntry) (clock : Nat) : Prop where
  it : h b = some (.mapIter (some m) since seen last)
  map : h m = some (.map es clock)

structure MethRun (P : Program) (t : TypeId) (v : Value) (name : String) (f : FuncId) (rv : Value) : Prop where
  run : ∀ w, (Go.method (P.types.size + Made.depth) t v name).run P w = .ok (f, rv) w

mutual
def eqS (P : Program) : Nat → TypeId → Value → Value → Option Bool
  | 0, _, _, _ => none
  | d + 1, t, x, y => match P.underlying t, x, y with
    | some (.int _), .int k a, .int k' b => (match kEq k k' with | true => some (a == b) | false => none)
    | some .bool, .bool a, .bool b => some (a == b)
    | some (.struct fs), .agg xs, .agg ys => (match P.stoodInHeld t with | false => eqFS P d xs ys fs.toList | true => none)
    | _, _, _ => none
def eqFS (P : Program) : Nat → Array Value → Array Value → List Field → Option Bool
  | _, _, _, [] => some true
  | 0, _, _, _ :: _ => none
  | d + 1, xs, ys, f :: fs => match f.name == "_", partO P f.type xs f.offset, partO P f.type ys f.offset with
    | false, some a, some b => (match eqS P d f.type a b, eqFS P d xs ys fs with
      | some r, some r' => some (r && r')
      | _, _ => none)
    | _, _, _ => none
end

def binS (P : Program) (op : BinOp) (t : TypeId) (x y : Value) (K : Value → Prop) : Prop := match x, y with
  | .int k a, .int k' b => intS op k k' a b K
  | .bool a, .bool b => (match op, P.underlying t with
    | .eql, some .bool => K (.bool (a == b))
    | .neq, some .bool => K (.bool (!(a == b)))
    | _, _ => False)
  | .string a, .string b => (match op with
    | .eql => K (.bool (a.toList == b.toList))
    | .neq => K (.bool (!(a.toList == b.toList)))
    | .add => a.size + b.size ≤ 140737488355328 ∧ K (.string (a ++ b))
    | _ => False)
  | .pointer p, .pointer none => (match op, P.underlying t with
    | .eql, some (.pointer _) => K (.bool p.isNone)
    | .neq, some (.pointer _) => K (.bool (!p.isNone))
    | _, _ => False)
  | .slice p _ _, .slice none _ _ => (match op, P.underlying t with
    | .eql, some (.slice _) => K (.bool p.isNone)
    | .neq, some (.slice _) => K (.bool (!p.isNone))
    | _, _ => False)
  | .agg xs, .agg ys => (match op, P.eqGuardType P.depth t, eqS P 60 t (.agg xs) (.agg ys) with
    | .eql, false, some b => K (.bool b)
    | .neq, false, some b => K (.bool (!b))
    | _, _, _ => False)
  | _, _ => False

def allVA (l : List SV) (k : List Value → Form) : Form := match allV l with
  | some vs => k vs
  | none => .bad

def isEsc (esc : List Nat) (d : Option Nat) : Bool := match d with
  | some d => esc.any fun e => Nat.beq e d
  | none => true

def newF (esc : List Nat) (dst : Option Nat) (t : TypeId) (cells : Array Value) : Form := match isEsc esc dst with
  | false => .alloc (cells.toList.map .v) none
  | true => .eff fun h k => ∀ b, h b = none → k (.v (.pointer (some ⟨b, 0, none⟩))) (h.new b (.cells cells t))

def places (P : Program) (fs : Array Field) (i : Nat) : Option (Nat × Nat) := (fs[i]?).map fun f => (f.offset, P.cellsOf f.type)

def svCells : SV → List SV
  | .v x => x.cells.toList.map .v
  | s => [s]

def sliceS (size : Nat) (s : Sl) (lo hi : Int) (k : Sl → Prop) : Prop :=
  0 ≤ lo ∧ lo ≤ hi ∧ hi ≤ s.c ∧ k ⟨if s.c = lo.toNat then s.p else s.p.map (·.add (lo.toNat * size)), hi.toNat - lo.toNat, s.c - lo.toNat⟩

def oInt (d : Int) : Option SV → Option Int
  | none => some d
  | some (.v (.int _ n)) => some n
  | some _ => none

def callF (P : Program) (f : FuncId) (args : Array Value) (t : TypeId) : Form := match P.funcs[f]? with
  | some fn => (match fn.body.isSome with
    | true => .eff fun h k => Spec P f args h fun v h' => exRes P t fun v' => v = v' ∧ k (.v v') h'
    | false => .eff fun h k => exRes P t fun v' => ExtRun P f args v' ∧ k (.v v') h)
  | none => .bad

def appF (P : Program) (t : TypeId) (x y : SV) : Form := match P.underlying t, x, y with
  | some (.slice e), .v (.slice a n c), .lsl d m => .effb d (m * P.cellsOf e) fun new h k => AppendS P h e ⟨a, n, c⟩ new m fun s' h' => k (.v (.slice s'.p s'.n s'.c)) h'
  | some (.slice e), .v (.slice a n c), .v (.slice a' n' c') => .eff fun h k => ∃ new, HasSl h ⟨a', n', c'⟩ (P.cellsOf e) new ∧ AppendS P h e ⟨a, n, c⟩ new n' fun s' h' => k (.v (.slice s'.p s'.n s'.c)) h'
  | _, _, _ => .bad

def callB (P : Program) (b : Builtin) (ts : Array TypeId) (args : List SV) : Form := match b, args with
  | .len, [.v (.slice _ n _)] => (match (ts[0]?).bind P.underlying with | some (.slice _) => .pure fun k => k (.v (.int .i64 n)) | _ => .bad)
  | .len, [.v (.string s)] => (match (ts[0]?).bind P.underlying with | some .string => .pure fun k => k (.v (.int .i64 s.size)) | _ => .bad)
  | .len, [.lsl _ n] => (match (ts[0]?).bind P.underlying with | some (.slice _) => .pure fun k => k (.v (.int .i64 n)) | _ => .bad)
  | .max, [.v (.int k x), .v (.int _ y)] => .pure fun K => K (.v (.int k (if y > x then y else x)))
  | .min, [.v (.int k x), .v (.int _ y)] => .pure fun K => K (.v (.int k (if y < x then y else x)))
  | .append, [x, y] => (match ts[0]? with | some t => (match (ts[1]?).bind P.underlying with | some (.slice _) => appF P t x y | _ => .bad) | none => .bad)
  | _, _ => .bad

def classify (P : Program) (esc : List Nat) (o : Oper) (ρ : Operand → SV) : Form := match o.op with
  | .move x => .pure fun k => k (ρ x)
  | .assign x => .pure fun k => k (ρ x)
  | .pick c a b => (match ρ c with
    | .v (.bool t) => .pure fun k => pif t (k (ρ a)) (k (ρ b))
    | _ => .bad)
  | .alloc t => (match zeroOf P t with
    | some z => newF esc o.dst t z.cells
    | none => .bad)
  | .box t x => (match ρ x with
    | .v x => newF esc o.dst t x.cells
    | _ => .bad)
  | .build t parts => (match P.underlying t, zeroOf P t, allV (parts.toList.map fun p => ρ p.2) with
    | some (.struct fs), some z, some vs => (match Instr.fill (places P fs) z.cells ((parts.toList.map (·.1)).zip vs), fs.all fun f => okT P f.type with
      | some cells, true => .pure fun k => k (.v (.agg cells))
      | _, _ => .bad)
    | some (.array _ e), some z, some vs => (match Instr.fill (fun i => some (i * P.cellsOf e, P.cellsOf e)) z.cells ((parts.toList.map (·.1)).zip vs), okT P e with
      | some cells, true => .pure fun k => k (.v (.agg cells))
      | _, _ => .bad)
    | _, _, _ => .bad)
  | .buildSlice t n parts => (match P.underlying t, allV (parts.toList.map fun p => ρ p.2) with
    | some (.slice e), some vs => (match zeroOf P e, Nat.ble (n * P.cellsOf e) 16777216 with
      | some z, true => (match Instr.fill (fun i => some (i * P.cellsOf e, P.cellsOf e)) (zrow z.cells.toList (n * P.cellsOf e)).toArray ((parts.toList.map (·.1)).zip vs), isEsc esc o.dst with
        | some cells, false => .alloc (cells.toList.map .v) (some n)
        | some cells, true => .eff fun h k => ∀ b, h b = none → k (.v (.slice (some ⟨b, 0, none⟩) n n)) (h.new b (.cells cells e))
        | none, _ => .bad)
      | _, _ => .bad)
    | _, _ => .bad)
  | .load t a => (match ρ a, Nat.beq (shOf P 9 t).length (match isAggT P t with | true => P.cellsOf t | false => 1), okT P t with
    | .loc d off, true, true => .lload d off (shOf P 9 t).length (isAggT P t)
    | .v (.pointer p), true, true => .hload p (shOf P 9 t) (isAggT P t)
    | _, _, _ => .bad)
  | .store t a x => (match ρ a, ρ x, okT P t with
    | .loc d off, x, true => (match Nat.beq (svCells x).length (P.cellsOf t), Nat.ble 10000 d with
      | true, false => .lstore d off (svCells x)
      | _, _ => .bad)
    | .v (.pointer p), .v y, true => (match Nat.beq y.cells.size (P.cellsOf t), okCells (svCells (.v y)) with
      | true, true => .eff fun h k => psome p fun a => CanPut h a y.cells.size ∧ k .any (h.put a y.cells.toList)
      | _, _ => .bad)
    | _, _, _ => .bad)
  | .nilCheck x => (match ρ x with
    | .loc d off => .pure fun k => k (.loc d off)
    | .v (.pointer p) => .pure fun k => psome p fun a => k (.v (.pointer (some a)))
    | .v (.func (.func f) a b) => .pure fun k => k (.v (.func (.func f) a b))
    | _ => .bad)
  | .binOp op t x y _ => (match ρ x, ρ y with
    | .v a, .v b => .pure fun k => binS P op t a b fun r => k (.v r)
    | _, _ => .bad)
  | .unOp op _ x => (match op, ρ x with
    | .not, .v (.bool b) => .pure fun k => k (.v (.bool (!b)))
    | .neg, .v (.int kd n) => .pure fun k => k (.v (.int kd (kd.wrap (0 - n))))
    | .xor, .v (.int kd n) => .pure fun k => k (.v (.int kd (xorI kd (if kd.signed then -1 else kd.max) n)))
    | _, _ => .bad)
  | .convert src dst x => (match P.underlying src, P.underlying dst, ρ x with
    | some (.slice e), some .string, .v (.slice a n c) => (match P.underlying e with
      | some (.int .u8) => .eff fun h k => ∃ bs : List UInt8, HasSl h ⟨a, n, c⟩ 1 (bs.map fun b => .int .u8 b.toNat) ∧ k (.v (.string ⟨bs.toArray⟩)) h
      | _ => .bad)
    | some (.int _), some (.int kd), .v (.int _ n) => .pure fun k => k (.v (.int kd (kd.wrap n)))
    | some .string, some .string, .v (.string s) => .pure fun k => k (.v (.string s))
    | _, _, _ => .bad)
  | .slice t x lo hi mx => (match P.underlying t, ρ x, mx with
    | some (.slice e), .v (.slice a n c), none => (match oInt 0 (lo.map ρ), oInt n (hi.map ρ), okT P e with
      | some l, some hh, true => .pure fun k => sliceS (P.cellsOf e) ⟨a, n, c⟩ l hh fun s => k (.v (.slice s.p s.n s.c))
      | _, _, _ => .bad)
    | some .string, .v (.string s), none => (match oInt 0 (lo.map ρ), oInt s.size (hi.map ρ) with
      | some l, some hh => .pure fun k => (0 ≤ l ∧ l ≤ hh ∧ hh ≤ s.size ∧ k (.v (.string (s.extract l.toNat hh.toNat))))
      | _, _ => .bad)
    | _, _, _ => .bad)
  | .fieldAddr s x f => (match P.underlying s with
    | some (.struct fs) => (match fs[f]? with
      | some f => (match P.cellsOf f.type, ρ x with
        | _ + 1, .loc d off => .pure fun k => k (.loc d (off + f.offset))
        | _ + 1, .v (.pointer p) => .pure fun k => psome p fun a => k (.v (.pointer (some (a.add f.offset))))
        | _, _ => .bad)
      | none => .bad)
    | _ => .bad)
  | .field t x f => (match P.underlying t, ρ x with
    | some (.struct fs), .v (.agg cs) => (match (fs[f]?).bind fun f => partO P f.type cs f.offset with
      | some v => .pure fun k => k (.v v)
      | none => .bad)
    | _, _ => .bad)
  | .indexAddr t x ix => (match P.underlying t, ρ x, ρ ix with
    | some (.slice e), .v (.slice a n _), .v (.int _ i) => (match okT P e with
      | true => .pure fun k => psome a fun p => 0 ≤ i ∧ i < n ∧ k (.v (.pointer (some (p.add (i.toNat * P.cellsOf e)))))
      | false => .bad)
    | some (.array n e), .loc d off, .v (.int _ (.ofNat i)) => (match Nat.ble (i + 1) n, okT P e with
      | true, true => .pure fun k => k (.loc d (off + i * P.cellsOf e))
      | _, _ => .bad)
    | _, _, _ => .bad)
  | .index t x ix => (match P.underlying t, ρ x, ρ ix with
    | some .string, .v (.string s), .v (.int _ i) => .pure fun k => 0 ≤ i ∧ i < s.size ∧ k (.v (.int .u8 ((s.get! i.toNat).toNat : Nat)))
    | some (.array n e), .v (.agg cs), .v (.int _ (.ofNat i)) => (match Nat.ble (i + 1) n, partO P e cs (i * P.cellsOf e) with
      | true, some v => .pure fun k => k (.v v)
      | _, _ => .bad)
    | _, _, _ => .bad)
  | .extract t i => (match ρ t with
    | .v (.tuple vs) => (match vs[i]? with
      | some v => .pure fun k => k (.v v)
      | none => .bad)
    | _ => .bad)
  | .makeFunc fn first captured => (match allV (first.toList.map ρ), allV (captured.toList.map ρ) with
    | some a, some b => .pure fun k => k (.v (.func fn a.toArray b.toArray))
    | _, _ => .bad)
  | .makeInterface t x => (match P.underlying t, ρ x with
    | some (.struct _), .v y => .pure fun k => k (.v (.iface t y))
    | some (.int _), .v y => .pure fun k => k (.v (.iface t y))
    | _, _ => .bad)
  | .makeSlice t l c => (match P.underlying t, ρ l, ρ c with
    | some (.slice e), .v (.int _ l), .v (.int _ c) => (match zeroOf P e with
      | some z => .eff fun h k => MkS l c (P.bytesOf e) ∧ ∀ b, h b = none → k (.v (.slice (some ⟨b, 0, none⟩) l.toNat c.toNat)) (h.new b (.cells (zrow z.cells.toList (c.toNat * P.cellsOf e)).toArray e))
      | none => .bad)
    | _, _, _ => .bad)
  | .makeMap _ r => (match r with
    | none => .eff fun h k => ∀ b, h b = none → k (.v (.map (some b))) (h.new b (.map #[] 0))
    | some _ => .bad)
  | .lookup t x ix ok => (match P.underlying t, ρ x, ρ ix with
    | some (.map kt et), .v (.map r), .v (.int kd n) => (match P.underlying kt, zeroOf P et with
      | some (.int _), some z => .eff fun h k => ∃ es clock, MapAt h r kd es clock ∧ exSh (shOf P 9 et) fun vs => mkV (isAggT P et) vs = (mget kd es n).getD z ∧
          k (.v (match ok with | true => .tuple #[mkV (isAggT P et) vs, .bool (mget kd es n).isSome] | false => mkV (isAggT P et) vs)) h
      | _, _ => .bad)
    | _, _, _ => .bad)
  | .mapUpdate t m ix x => (match P.underlying t, ρ m, ρ ix, ρ x with
    | some (.map kt _), .v (.map r), .v (.int kd n), .v v => (match P.underlying kt with
      | some (.int _) => .eff fun h k => ∃ b es clock, r = some b ∧ MapAt h (some b) kd es clock ∧ k .any (h.new b (mput kd es clock n v))
      | _ => .bad)
    | _, _, _, _ => .bad)
  | .range t x => (match P.underlying t, ρ x with
    | some (.map _ _), .v (.map r) => .eff fun h k => ∃ m es clock, r = some m ∧ h m = some (.map es clock) ∧ ∀ b, h b = none → k (.v (.pointer (some ⟨b, 0, none⟩))) (h.new b (.mapIter (some m) clock #[] clock))
    | _, _ => .bad)
  | .next it isS => (match ρ it, isS with
    | .v (.pointer (some ⟨b, 0, none⟩)), false => .eff fun h k => ∃ m since seen last es clock, IterAt h b m since seen last es clock ∧ (∀ e ∈ es, e.born < since) ∧ since ≤ last ∧
        ((∀ e ∈ es, seen.contains e.born = true) → k (.v (.tuple #[.bool false])) h) ∧
        ∀ e ∈ es, seen.contains e.born = false → k (.v (.tuple #[.bool true, e.key, e.val])) (h.new b (.mapIter (some m) since (seen.push e.born) clock))
    | _, _ => .bad)
  | .entry it => (match ρ it with
    | .v (.pointer (some ⟨b, 0, none⟩)) => .eff fun h k => ∃ m since seen last es clock stamp e, IterAt h b m since seen last es clock ∧ clock = last ∧ seen.back? = some stamp ∧ es.find? (·.born == stamp) = some e ∧
        ∃ n, e.key = .int .u32 n ∧ k (.v (.tuple #[.int .u32 n, e.val])) h
    | _ => .bad)
  | .call c => (match c.callee with
    | .builtin b => callB P b c.argTypes (c.args.toList.map ρ)
    | .value (.func f) => (match allV (c.args.toList.map ρ) with
      | some args => callF P f args.toArray o.type
      | _ => .bad)
    | .value fo => (match ρ fo, allV (c.args.toList.map ρ) with
      | .v x, some args => .eff fun h k => ∃ f first cap, x = .func (.func f) first cap ∧ (∃ fn, P.funcs[f]? = some fn ∧ fn.body.isSome = true) ∧
          Spec P f (first ++ args.toArray ++ cap) h fun v h' => exRes P o.type fun v' => v = v' ∧ k (.v v') h'
      | _, _ => .bad)
    | .invoke x name => (match ρ x, allV (c.args.toList.map ρ) with
      | .v (.iface t y), some args => .eff fun h k => ∃ f rv, MethRun P t y name f rv ∧ (∃ fn, P.funcs[f]? = some fn ∧ fn.body.isSome = true) ∧
          Spec P f (#[rv] ++ args.toArray) h fun v h' => exRes P o.type fun v' => v = v' ∧ k (.v v') h'
      | _, _ => .bad))
  | _ => .bad

/-- an operation of a region, its guard looked at -/
def opForm (P : Program) (esc : List Nat) (ops : Array Oper) (o : Oper) (env : Nat → SV) : Form := match o.guard with
  | none => classify P esc o (ev env)
  | some (j, want) => (match (ops[j]?).bind (·.dst) with
    | some t => (match env t with
      | .v (.bool b) => (match b, want with
        | true, true => classify P esc o (ev env)
        | false, false => classify P esc o (ev env)
        | true, false => .pure fun k => k (.v (.tuple #[]))
        | false, true => .pure fun k => k (.v (.tuple #[])))
      | .v (.tuple _) => .pure fun k => k (.v (.tuple #[]))
      | _ => .bad)
    | none => .bad)

/-- where an operation's result is another one's guard, the two ways are taken apart at once -/
def brK (g : Bool) (dst : Option Nat) (K : SS → Heap → Prop) (σ : SS) (h : Heap) : Prop := match g, dst with
  | true, some d => (match σ.env d with
    | .v (.bool b) => pif b (K ⟨putE σ.env dst (.v (.bool true)), σ.box⟩ h) (K ⟨putE σ.env dst (.v (.bool false)), σ.box⟩ h)
    | _ => K σ h)
  | _, _ => K σ h

def isGuard (ops : Array Oper) (i : Nat) : Bool := ops.any fun o => match o.guard with
  | some (j, _) => Nat.beq i j
  | none => false

def stepS (P : Program) (esc : List Nat) (ops : Array Oper) (i : Nat) (o : Oper) (K : SS → Heap → Prop) (σ : SS) (h : Heap) : Prop :=
  interp (opForm P esc ops o σ.env) o.dst (brK (isGuard ops i) o.dst K) σ h

def listS (P : Program) (esc : List Nat) (ops : Array Oper) : Nat → List Oper → (SS → Heap → Prop) → SS → Heap → Prop
  | _, [], K, σ, h => K σ h
  | i, o :: r, K, σ, h => stepS P esc ops i o (listS P esc ops (i + 1) r K) σ h

/-! ### a region whose order is drawn: values first, what changes memory one behind the other -/
inductive Pend where
  | hl (p : Addr) (vs : List Value)
  | ll (d off n : Nat)

def isFloat (P : Program) (esc : List Nat) (o : Oper) : Bool := match o.op with
  | .convert src _ _ => (match P.underlying src with | some (.slice _) => false | _ => true)
  | .move _ | .assign _ | .pick _ _ _ | .build _ _ | .load _ _ | .nilCheck _ | .binOp _ _ _ _ _ | .unOp _ _ _ | .slice _ _ _ _ _ | .fieldAddr _ _ _
  | .field _ _ _ | .indexAddr _ _ _ | .index _ _ _ | .extract _ _ | .makeFunc _ _ _ | .makeInterface _ _ => true
  | .alloc _ | .box _ _ | .buildSlice _ _ _ => !(isEsc esc o.dst)
  | .call c => (match c.callee with
    | .builtin .len | .builtin .max | .builtin .min => true
    | _ => false)
  | _ => false

def bindsB (e : Edge) : Bool := Region.binds .any e

/-- who stands ahead of each operation, as bits -/
def masks : List Oper → List Nat → List Nat
  | [], acc => acc
  | o :: r, acc => masks r (acc ++ [o.after.toList.foldl (fun s e => bif bindsB e then (s ||| 2 ^ e.on) ||| acc.getD e.on 0 else s) 0])

def reach (ms : List Nat) (i j : Nat) : Bool := Nat.testBit (ms.getD j 0) i

def readyB (ops : Array Oper) (listed : Array Bool) (i : Nat) : Bool := bif listed.getD i true then false else
  match ops[i]? with
  | some o => o.after.toList.all fun e => bif bindsB e then listed.getD e.on false else true
  | none => false

def okFloat (ops : Array Oper) (ms : List Nat) (listed : Array Bool) (i : Nat) (o : Oper) : Bool := bif readyB ops listed i then
    (List.range ops.size).all fun j => bif listed.getD j true then true else bif Nat.beq j i then true else bif reach ms i j then true else
      match ops[j]? with
      | some p => Oper.apart ops o p
      | none => true
  else false

def okEff (ops : Array Oper) (ms : List Nat) (listed : Array Bool) (i : Nat) : Bool := bif readyB ops listed i then
    (List.range ops.size).all fun j => bif listed.getD j true then true else bif Nat.beq j i then true else reach ms i j
  else false

def interpF (F : Form) (dst : Option Nat) (K : List Pend → SS → Heap → Prop) (σ : SS) (h : Heap) : Prop := match F with
  | .pure S => S fun r => K [] ⟨putE σ.env dst r, σ.box⟩ h
  | .hload p sh agg => psome p fun a => exSh sh fun vs => Has h a vs ∧ K [.hl a vs] ⟨putE σ.env dst (.v (mkV agg vs)), σ.box⟩ h
  | .lload d off n agg => match σ.box d with
    | some cs => match Nat.ble (off + n) cs.length, svAgg agg ((cs.drop off).take n) with
      | true, some r => K [.ll d off n] ⟨putE σ.env dst r, σ.box⟩ h
      | _, _ => False
    | none => False
  | .alloc cs sl => match dst with
    | some d => match σ.box d with
      | none => K [] ⟨putE σ.env dst (match sl with | none => .loc d 0 | some n => .lsl d n), putB σ.box d cs⟩ h
      | some _ => False
    | none => False
  | _ => False

def Form.isEff : Form → Bool
  | .eff _ => true
  | .effb _ _ _ => true
  | _ => false

/-- may a box's part be read, though this is done to boxes? -/
def Form.leaves (F : Form) (d off n : Nat) : Bool := match F with
  | .lstore d' off' cs => bif Nat.beq d d' then (Nat.ble (off + n) off' || Nat.ble (off' + cs.length) off) else true
  | _ => true

/-- what was read, and may still be read behind an operation, is as it was -/
def chks (ms : List Nat) (j : Nat) (F : Form) (h' : Heap) : List (Nat × Pend) → Prop → Prop
  | [], K => K
  | (k, .hl a vs) :: r, K => (match reach ms k j, F.isEff with
    | false, true => Has h' a vs ∧ chks ms j F h' r K
    | _, _ => chks ms j F h' r K)
  | (k, .ll d off n) :: r, K => (match reach ms k j, F.leaves d off n with
    | false, false => False
    | _, _ => chks ms j F h' r K)

def drawS (P : Program) (esc : List Nat) (ops : Array Oper) (ms : List Nat) (K : SS → Heap → Prop) : List Nat → Array Bool → List (Nat × Pend) → SS → Heap → Prop
  | [], listed, _, σ, h => (match listed.all id with
    | true => K σ h
    | false => False)
  | i :: r, listed, Φ, σ, h => match ops[i]? with
    | none => False
    | some o => match isFloat P esc o with
      | true => (match okFloat ops ms listed i o with
        | true => interpF (opForm P esc ops o σ.env) o.dst (fun pe => brK (isGuard ops i) o.dst (drawS P esc ops ms K r (listed.setIfInBounds i true) (pe.map (fun p => (i, p)) ++ Φ))) σ h
        | false => False)
      | false => (match okEff ops ms listed i with
        | true => interp (opForm P esc ops o σ.env) o.dst (fun σ' h' => chks ms i (opForm P esc ops o σ.env) h' Φ (drawS P esc ops ms K r (listed.setIfInBounds i true) Φ σ' h')) σ h
        | false => False)

/-- values first -/
def order (P : Program) (esc : List Nat) (ops : Array Oper) : Nat → Array Bool → List Nat
  | 0, _ => []
  | n + 1, listed =>
    let rs := (List.range ops.size).filter (readyB ops listed)
    match rs.find? (fun i => match ops[i]? with | some o => isFloat P esc o | none => false), rs with
    | some i, _ => i :: order P esc ops n (listed.setIfInBounds i true)
    | none, i :: _ => i :: order P esc ops n (listed.setIfInBounds i true)
    | none, [] => []

def regionS (P : Program) (esc : List Nat) (ops : Array Oper) (draw : Bool) (K : SS → Heap → Prop) (σ : SS) (h : Heap) : Prop := match draw with
  | false => listS P esc ops 0 ops.toList K σ h
  | true => drawS P esc ops (masks ops.toList []) K (order P esc ops ops.size (Array.replicate ops.size false)) (Array.replicate ops.size false) [] σ h

/-! ### code -/
@[reducible] def Tup : List Sh → Type
  | [] => Unit
  | s :: r => s.Dom × Tup r

def Tup.vals : (l : List Sh) → Tup l → List Value
  | [], _ => []
  | s :: r, (x, y) => s.val x :: Tup.vals r y

def Sh.of : (s : Sh) → Value → Option s.Dom
  | .int k, .int k' x => (match kEq k k' with | true => some x | false => none)
  | .bool, .bool b => some b
  | .ptr, .pointer p => some p
  | .slice, .slice p n c => some ⟨p, n, c⟩
  | .str, .string s => some s
  | .map, .map r => some r
  | .any, v => some v
  | _, _ => none

def Tup.of : (l : List Sh) → List Value → Option (Tup l)
  | [], [] => some ()
  | s :: r, v :: vs => (match s.of v, Tup.of r vs with
    | some x, some y => some (x, y)
    | _, _ => none)
  | _, _ => none

inductive VSh where
  | one (s : Sh)
  | agg (l : List Sh)

def VSh.shs : VSh → List Sh
  | .one s => [s]
  | .agg l => l

/-- a loop's state: slots, boxes that are written in it; slots whose values are of no more use at its head -/
structure LoopAnn where
  slots : List (Nat × VSh)
  boxes : List (Nat × List Sh)
  dead : List Nat

def LoopAnn.shs (A : LoopAnn) : List Sh := (A.slots.flatMap fun p => p.2.shs) ++ A.boxes.flatMap (·.2)

structure LoopS {S : Type} (body : S → Heap → (S → Heap → Prop) → Prop) (s : S) (h : Heap) : Prop where
  ex : ∃ (I : S → Heap → Prop) (μ : S → Heap → Nat), I s h ∧ ∀ s h, I s h → body s h fun s' h' => I s' h' ∧ μ s' h' < μ s h

def mem (l : List Nat) (d : Nat) : Bool := l.any fun e => Nat.beq d e

def vSlot : VSh → SV → Option (List Value)
  | .one _, .v x => some [x]
  | .agg l, .v (.agg cs) => (match Nat.beq cs.toList.length l.length with | true => some cs.toList | false => none)
  | _, _ => none

def catO : List (Option (List Value)) → Option (List Value)
  | [] => some []
  | some a :: r => (catO r).map (a ++ ·)
  | none :: _ => none

def collect (A : LoopAnn) (σ : SS) : Option (List Value) :=
  catO ((A.slots.map fun p => vSlot p.2 (σ.env p.1)) ++ A.boxes.map fun p => (σ.box p.1).bind fun cs => match Nat.beq cs.length p.2.length with | true => allV cs | false => none)

def modB (A : LoopAnn) (d : Nat) : Bool := A.boxes.any fun p => Nat.beq d p.1

/-- refs to boxes that are only read in the loop get names of their own -/
def ren (A : LoopAnn) (box : Nat → Option (List SV)) (d : Nat) : Option Nat := bif Nat.ble 10000 d then some d else bif modB A d then some d else match box (d + 10000) with
  | none => some (d + 10000)
  | some _ => none

def renSV (A : LoopAnn) (box : Nat → Option (List SV)) : SV → SV
  | .loc d o => (match ren A box d with | some e => .loc e o | none => .any)
  | .lsl d n => (match ren A box d with | some e => .lsl e n | none => .any)
  | s => s

def deref : SV → SV
  | .v x => .v x
  | _ => .any

def setSlots : List (Nat × VSh) → List Value → (Nat → SV) → (Nat → SV)
  | [], _, env => env
  | (d, .one _) :: r, v :: vs, env => setSlots r vs (putE env (some d) (.v v))
  | (_, .one _) :: _, [], env => env
  | (d, .agg l) :: r, vs, env => setSlots r (vs.drop l.length) (putE env (some d) (.v (.agg (vs.take l.length).toArray)))

def setBoxes : List (Nat × List Sh) → List Value → (Nat → Option (List SV)) → (Nat → Option (List SV))
  | [], _, box => box
  | (d, l) :: r, vs, box => setBoxes r (vs.drop l.length) (putB box d ((vs.take l.length).map .v))

def slotLen (A : LoopAnn) : Nat := (A.slots.flatMap fun p => p.2.shs).length

def keptB (A : LoopAnn) (box : Nat → Option (List SV)) (d : Nat) : Option (List SV) := bif Nat.ble 10000 d then (match box d with
      | some cs => some (cs.map deref)
      | none => bif Nat.ble 20000 d then none else bif modB A (d - 10000) then none else (box (d - 10000)).map (·.map deref))
    else none

def baseE (A : LoopAnn) (σ : SS) (t : Nat) : SV := bif mem A.dead t then .any else renSV A σ.box (σ.env t)

def headS (A : LoopAnn) (vs : List Value) (σ : SS) : SS where
  env := setSlots A.slots vs (baseE A σ)
  box := setBoxes A.boxes (vs.drop (slotLen A)) (keptB A σ.box)

def sameRef : SV → SV → Bool
  | .loc d o, .loc d' o' => Nat.beq d d' && Nat.beq o o'
  | .lsl d o, .lsl d' o' => Nat.beq d d' && Nat.beq o o'
  | .loc _ _, _ => false
  | .lsl _ _, _ => false
  | _, _ => true

def slotsOf (A : LoopAnn) : List Nat := A.slots.map (·.1)

/-- may the loop go on from here? -/
def againOK (N : Nat) (A : LoopAnn) (head σ' : SS) : Bool := (List.range N).all fun t => bif mem A.dead t then true else bif mem (slotsOf A) t then true else sameRef (head.env t) (σ'.env t)

def writes : Code → List Nat
  | .region _ ops _ => ops.toList.filterMap (·.dst)
  | .seq a b => writes a ++ writes b
  | .cond _ a b => writes a ++ writes b
  | .block _ a => writes a
  | .loop a => writes a
  | .scope a => writes a
  | _ => []

def enterOK (N : Nat) (A : LoopAnn) (body : Code) : Bool :=
  (slotsOf A).all (fun d => Nat.ble (d + 1) N && mem (writes body) d) && A.dead.all (fun d => mem (writes body) d) && A.boxes.all (fun p => Nat.ble (p.1 + 1) 10000) && (writes body).all fun d => mem (slotsOf A) d || mem A.dead d

def cw (P : Program) (esc : List Nat) (N : Nat) (ann : Nat → Option LoopAnn) : Code → (Exit → SS → Heap → Prop) → SS → Heap → Prop
  | .skip, K, σ, h => K .normal σ h
  | .ret, K, σ, h => K .ret σ h
  | .exit id, K, σ, h => K (.exit id) σ h
  | .region _ ops draw, K, σ, h => regionS P esc ops draw (K .normal) σ h
  | .seq a b, K, σ, h => cw P esc N ann a (fun e σ h => match e with
    | .normal => cw P esc N ann b K σ h
    | .exit id => K (.exit id) σ h
    | .ret => K .ret σ h
    | _ => False) σ h
  | .cond c a b, K, σ, h => (match ev σ.env c with
    | .v (.bool t) => pif t (cw P esc N ann a K σ h) (cw P esc N ann b K σ h)
    | _ => False)
  | .block id (.loop body), K, σ, h => (match ann id with
    | none => False
    | some A => (match collect A σ, enterOK N A body with
      | some vs, true => (match Tup.of A.shs vs with
        | some s => LoopS (fun (s : Tup A.shs) h C => cw P esc N ann body (fun e σ' h' => match e with
            | .normal => (match collect A σ', againOK N A (headS A (Tup.vals A.shs s) σ) σ' with
              | some vs', true => (match Tup.of A.shs vs' with
                | some s' => C s' h'
                | none => False)
              | _, _ => False)
            | .exit id' => (match Nat.beq id' id with
              | true => K .normal σ' h'
              | false => K (.exit id') σ' h')
            | .ret => K .ret σ' h'
            | _ => False) (headS A (Tup.vals A.shs s) σ) h) s h
        | none => False)
      | _, _ => False))
  | .block id a, K, σ, h => cw P esc N ann a (fun e σ h => match e with
    | .exit id' => (match Nat.beq id' id with
      | true => K .normal σ h
      | false => K (.exit id') σ h)
    | .normal => K .normal σ h
    | .ret => K .ret σ h
    | _ => False) σ h
  | _, _, _, _ => False

/-! ### a function -/
def res1 (P : Program) (σ : SS) : ResultVar → Option Value
  | .tmp t => (match σ.env t with
    | .v x => some x
    | _ => none)
  | .cell a t => (match σ.env a, okT P t, isAggT P t with
    | .loc d off, true, true => (match σ.box d with
      | some cs => (match Nat.ble (off + P.cellsOf t) cs.length with
        | true => (allV ((cs.drop off).take (P.cellsOf t))).map fun vs => .agg vs.toArray
        | false => none)
      | none => none)
    | _, _, _ => none)

def resL (P : Program) (σ : SS) : List ResultVar → Option (List Value)
  | [] => some []
  | r :: rs => (match res1 P σ r, resL P σ rs with
    | some v, some vs => some (v :: vs)
    | _, _ => none)

def resV : List Value → Value
  | [v] => v
  | vs => .tuple vs.toArray

def retK (P : Program) (rs : List ResultVar) (R : Value → Heap → Prop) : Exit → SS → Heap → Prop
  | .normal, σ, h => (match resL P σ rs with | some vs => R (resV vs) h | none => False)
  | .ret, σ, h => (match resL P σ rs with | some vs => R (resV vs) h | none => False)
  | _, _, _ => False

def argEnv : List Value → Nat → SV
  | [], _ => .any
  | v :: _, 0 => .v v
  | _ :: vs, t + 1 => argEnv vs t

def dstsOK (N : Nat) (c : Code) : Bool := (writes c).all fun d => Nat.ble (d + 1) N

/-- the weakest condition of a call -/
def fnW (P : Program) (esc : List Nat) (ann : Nat → Option LoopAnn) (fn : Func) (args : List Value) (h : Heap) (R : Value → Heap → Prop) : Prop := match fn.body with
  | some c => (match dstsOK fn.ntmps c, Nat.ble args.length fn.ntmps with
    | true, true => cw P esc fn.ntmps ann c (retK P fn.results.toList R) ⟨argEnv args, fun _ => none⟩ h
    | _, _ => False)
  | none => False

end Go.Proofs.YtbeapoopomlgaaaGreat.Sx
