/- The data-level language and its evaluator: definitions. Every function here is plain structural Lean. -/
import Derived.Calls
import Derived.Orders
namespace Go.Di

/-- A name of an object that the code under evaluation has made or was handed. -/
abbrev Tok := List Nat

/-- What is known of a persistent slice beside its elements: it is nil; its capacity is its length; nothing; it is nil, or has no elements' place; it is not nil. -/
inductive LK where
  | nil | full | ro | no | nn
  deriving DecidableEq

inductive DV where
  | sc (v : Value)
  | ptr (t : Tok) (off : Nat)
  | rptr (sz : Nat) (t : Tok) (n i r : Nat)
  | pref (cs : List DV)
  | lst (sz : Nat) (xs : List DV) (k : LK)
  | row (sz : Nat) (t : Tok) (n off len : Nat)
  | map (t : Tok)
  | fn (f : Fn) (first cap : List DV)
  | iface (ty : TypeId) (v : DV)
  | agg (cs : List DV)
  | tup (vs : List DV)
  | any

instance : Inhabited DV := ⟨.any⟩

/-- A value of one cell that holds no address. -/
def plain : Value → Bool
  | .bool _ | .int .. | .float .. | .complex .. | .string _ | .pointer none | .map none | .chan none | .nilFunc | .nilIface => true
  | _ => false

def DV.cells : DV → List DV
  | .agg cs => cs
  | d => [d]

/-- Does a value fill one cell? -/
def one : DV → Bool
  | .agg _ | .tup _ | .any => false
  | _ => true

/-- May it be stored? -/
def stb : DV → Bool
  | .tup _ | .any => false
  | _ => true

inductive AObj where
  | cells (ty : TypeId) (cs : List DV)
  | row (ty : TypeId) (sz : Nat) (xs : List DV)
  | frz (ty : TypeId) (sz : Nat) (xs : List DV)
  | mp (es : List (Value × DV × Nat)) (clock : Nat)
  | sit (s : ByteArray) (pos : Nat)

-- The names in a value, and in an object. What is persistent holds none.
mutual
def toks : DV → List Tok
  | .ptr t _ => [t]
  | .rptr _ t _ _ _ => [t]
  | .row _ t _ _ _ => [t]
  | .map t => [t]
  | .fn _ a b => toksL a ++ toksL b
  | .iface _ v => toks v
  | .agg cs => toksL cs
  | .tup vs => toksL vs
  | _ => []
def toksL : List DV → List Tok
  | [] => []
  | d :: ds => toks d ++ toksL ds
end

-- Does a value hold nothing but what is persistent?
mutual
def closed : DV → Bool
  | .ptr .. | .rptr .. | .row .. | .map _ | .any => false
  | .sc v => plain v
  | .pref cs => closedL cs
  | .lst _ xs _ => closedL xs
  | .fn _ a b => closedL a && closedL b
  | .iface _ v => closed v
  | .agg cs => closedL cs
  | .tup vs => closedL vs
def closedL : List DV → Bool
  | [] => true
  | d :: ds => closed d && closedL ds
end

def toksE : List (Value × DV × Nat) → List Tok
  | [] => []
  | (_, d, _) :: es => toks d ++ toksE es

def AObj.toks : AObj → List Tok
  | .cells _ cs => toksL cs
  | .row .. | .frz .. | .sit .. => []
  | .mp es _ => toksE es

/-- Heaps and frames, as functions. -/
abbrev Hp := Tok → Option AObj
abbrev Env := Nat → DV

/-- How long a growing row is. -/
def AObj.len? : AObj → Option Nat
  | .row _ _ xs | .frz _ _ xs => some xs.length
  | _ => none

def Hp.len? (h : Hp) (t : Tok) : Option Nat := (h t).bind AObj.len?

end Go.Di
