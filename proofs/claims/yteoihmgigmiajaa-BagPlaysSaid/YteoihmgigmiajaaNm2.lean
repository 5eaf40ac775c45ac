/- The evaluator: what an operation does, at the level of names. -/
import Derived.Test.YteoihmgigmiajaaNm1
set_option linter.all false
set_option linter.unusedSimpArgs false
set_option linter.unusedVariables false
namespace Go.Nm

/-! ### the type table -/
def pv1 : Value → Option PV
  | .bool x => some (.b x)
  | .int k n => some (.i k n)
  | .string x => some (.s x.data.toList)
  | .pointer none => some .np
  | .map none => some .nm
  | .nilFunc => some .nfn
  | .slice none 0 0 => some (.fz [] (some 0))
  | _ => none

def pvs : List Value → Option (List PV)
  | [] => some []
  | v :: r => match pv1 v, pvs r with
    | some x, some l => some (x :: l)
    | _, _ => none

inductive TK where
  | bool | int (k : IntKind) | str | ptr (e : TypeId) | slice (e : TypeId) | arr (n : Nat) (e : TypeId) | map (k e : TypeId) | struct (fs : List (Nat × TypeId)) | func | other

def tkOf : TypeDesc → TK
  | .bool => .bool
  | .int k => .int k
  | .string => .str
  | .pointer e => .ptr e
  | .slice e => .slice e
  | .array n e => .arr n e
  | .map k e => .map k e
  | .struct fs => .struct (fs.toList.map fun f => (f.offset, f.type))
  | .func _ _ _ => .func
  | _ => .other

structure TI where
  size : Nat
  bytes : Nat
  zero : List PV
  zagg : Bool
  kind : TK

def isAggV : Value → Bool
  | .agg _ => true
  | _ => false

def tiOf (P : Program) (t : TypeId) : Option TI :=
  match P.info? t, P.underlying t with
  | some i, some d =>
    match i.zero with
    | some z => match pvs z.cells.toList with
      | some zc => some ⟨i.size, i.bytes, zc, isAggV z, tkOf d⟩
      | none => none
    | none => none
  | _, _ => none

def TK.agg : TK → Bool
  | .arr _ _ | .struct _ => true
  | _ => false

/-! ### environments -/
abbrev Env := List (Nat × SV)
def Env.get : Env → Nat → SV
  | [], _ => .j
  | (d, x) :: r, t => if d = t then x else Env.get r t
def Env.put (e : Env) (d : Option Nat) (x : SV) : Env := match d with | some d => (d, x) :: e | none => e

def cst (v : Value) : SV := match pv1 v with | some x => .u x | none => .j

def opnd (e : Env) : Operand → SV
  | .tmp t => e.get t
  | .const v => cst v
  | .func f => .u (.fn f [])
  | .global _ => .j

def EnvOK (β : List Value) (Φ : Fz) (e : Env) (tmps : Array Value) : Prop := ∀ t, V β Φ (e.get t) (tmps.getD t undef)

/-! ### small functions on values -/
def SV.cells : SV → List SV
  | .agg cs => cs
  | .u (.agg cs) => cs.map .u
  | x => [x]

/-- the value of one cell -/
def SV.one : SV → Bool
  | .u (.agg _) | .u (.tup _) | .agg _ | .tup _ | .gd _ _ _ | .j => false
  | _ => true

def SV.pure? : SV → Option PV
  | .u x => some x
  | _ => none

def pures : List SV → Option (List PV)
  | [] => some []
  | x :: r => match x.pure?, pures r with
    | some y, some l => some (y :: l)
    | _, _ => none

def setAll (σ : List SObj) : List (Nat × SObj) → List SObj
  | [] => σ
  | (n, ob) :: r => setAll (σ.set n ob) r

inductive Ev where
  | bad
  | ok (ob : Prop) (rd : List (Nat × SObj)) (r : SV) (wr : List (Nat × SObj))

/-- a value read out of cells -/
def rdCells (ti : TI) (cs : List SV) (off : Nat) : SV :=
  if ti.kind.agg then .agg ((cs.drop off).take ti.size) else cs.getD off .j

def wrCells (cs : List SV) (off : Nat) (x : List SV) : List SV := cs.take off ++ x ++ cs.drop (off + x.length)

def evLoad (σ : Nat → SObj) (ti : TI) : SV → Ev
  | .p n off => match σ n with
    | .cells vs => .ok (off + ti.size ≤ vs.length) [(n, .cells vs)] (rdCells ti vs off) []
    | _ => .bad
  | .rp n sz i off => match σ n with
    | .row T s els => .ok (s = sz ∧ i < els.length ∧ off + ti.size ≤ sz) [(n, .row T s els)] (rdCells ti ((els.getD i []).map .u) off) []
    | _ => .bad
  | .u (.fp cs) => .ok (ti.size ≤ cs.length) [] (rdCells ti (cs.map .u) 0) []
  | _ => .bad

def evStore (σ : Nat → SObj) (ti : TI) (a x : SV) : Ev :=
  match a with
  | .p n off => match σ n with
    | .cells vs => .ok (off + ti.size ≤ vs.length ∧ x.cells.length = ti.size ∧ x.cells.all SV.one = true) [(n, .cells vs)] .j [(n, .cells (wrCells vs off x.cells))]
    | _ => .bad
  | .rp n sz i off => match σ n, pures x.cells with
    | .row T s els, some l => .ok (s = sz ∧ i < els.length ∧ off + ti.size ≤ sz ∧ l.length = ti.size ∧ x.cells.all SV.one = true) [(n, .row T s els)] .j
        [(n, .row T s (els.set i ((els.getD i []).take off ++ l ++ (els.getD i []).drop (off + l.length))))]
    | _, _ => .bad
  | _ => .bad

def lexLt : List UInt8 → List UInt8 → Bool := Op.bytesLess

def pick2 (t : Bool) (x y : SV) : SV :=
  match x, y with
  | .u (.b p), .u (.b q) => .u (.b (cond t p q))
  | x, y => if t then x else y

end Go.Nm
