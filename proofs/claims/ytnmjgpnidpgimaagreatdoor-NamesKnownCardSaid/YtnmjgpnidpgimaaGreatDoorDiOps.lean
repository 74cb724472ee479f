/- The operations at the level of data. -/
import Derived.Test.YtnmjgpnidpgimaaGreatDoorDiRel
namespace Go.Di

/-- A computation that asks nothing of memory. -/
def pureRun {α : Type} (P : Program) : Sem α → Option α
  | .pure a => some a
  | .program k => pureRun P (k P)
  | _ => none

theorem pureRun_run {α : Type} {P : Program} : ∀ {s : Sem α} {a : α}, pureRun P s = some a → ∀ w, s.run P w = .ok a w
  | .pure b, a, h, w => by simp only [pureRun, Option.some.injEq] at h; subst h; rfl
  | .program k, a, h, w => by simp only [pureRun] at h; simpa [Sem.run] using pureRun_run h w
  | .load .., _, h, _ => by simp [pureRun] at h
  | .store .., _, h, _ => by simp [pureRun] at h
  | .new .., _, h, _ => by simp [pureRun] at h
  | .shape .., _, h, _ => by simp [pureRun] at h
  | .freeze .., _, h, _ => by simp [pureRun] at h
  | .frozen .., _, h, _ => by simp [pureRun] at h
  | .getObj .., _, h, _ => by simp [pureRun] at h
  | .setObj .., _, h, _ => by simp [pureRun] at h
  | .choose .., _, h, _ => by simp [pureRun] at h
  | .sys .., _, h, _ => by simp [pureRun] at h
  | .mark .., _, h, _ => by simp [pureRun] at h
  | .halt .., _, h, _ => by simp [pureRun] at h

-- Data that holds no address, as the machine's value; and back.
mutual
def toVal : DV → Option Value
  | .sc v => if plain v then some v else none
  | .agg cs => (toValL cs).map fun l => .agg l.toArray
  | .iface ty d => (toVal d).map fun v => .iface ty v
  | _ => none
def toValL : List DV → Option (List Value)
  | [] => some []
  | d :: ds => match toVal d, toValL ds with
    | some v, some vs => some (v :: vs)
    | _, _ => none
end

mutual
def ofVal : Nat → Value → Option DV
  | 0, _ => none
  | n + 1, v => match v with
    | .agg cs => match ofValL n cs.toList with
      | some ds => if ds.all one then some (.agg ds) else none
      | none => none
    | .tuple cs => (ofValL n cs.toList).map .tup
    | .iface ty x => (ofVal n x).map (.iface ty)
    | .slice none 0 0 => some (.lst 0 [] .nil)
    | .func f a b => match ofValL n a.toList, ofValL n b.toList with
      | some a, some b => some (.fn f a b)
      | _, _ => none
    | v => if plain v then some (.sc v) else none
def ofValL : Nat → List Value → Option (List DV)
  | 0, _ => none
  | _ + 1, [] => some []
  | n + 1, v :: vs => match ofVal n v, ofValL n vs with
    | some d, some ds => some (d :: ds)
    | _, _ => none
end

inductive DOpd where
  | tmp (n : Nat)
  | con (d : DV)

inductive Out where
  | ret (d : DV)
  | pnc (d : DV)

abbrev Hl := List (Tok × AObj)

def Hl.get : Hl → Hp
  | [], _ => none
  | (u, o) :: l, t => if u = t then some o else Hl.get l t

/-- What stands for a function: of data alone, or of what its arguments lead to as well. -/
structure FSpec where
  pure : Bool
  run : List DV → Hl → Option (Out × Hl)

abbrev Gam := FuncId → Option FSpec

/-- The kinds of values that nil is one of. -/
inductive NK where
  | slice | ptr | map | func | iface
  deriving DecidableEq

/-- The kinds of keys that are told apart by their values alone. -/
inductive KK where
  | str | int | bool
  deriving DecidableEq

/-- Operations that came later. -/
inductive XOp where
  | isnil (nk : NK) (neg : Bool)
  | mmap
  | lkup (kk : KK) (zero : DV) (ok : Bool)
  | mupd (kk : KK)
  | mx3 (mx : Bool)
  | b2s

inductive DOp where
  | ex (k : XOp) (xs : List DOpd)
  | mv (x : DOpd)
  | pick (c a b : DOpd)
  | alloc (ty : TypeId) (zero : List DV)
  | box (ty : TypeId) (x : DOpd)
  | build (zero : List DV) (parts : List (Nat × Nat × DOpd))
  | bslice (ty : TypeId) (sz n : Nat) (zero : DV) (parts : List (Nat × DOpd))
  | load (k : Option Nat) (a : DOpd)
  | store (n : Nat) (a x : DOpd)
  | nilc (x : DOpd)
  | bin (op : BinOp) (ty : TypeId) (x y : DOpd)
  | un (op : UnOp) (x : DOpd)
  | cvt (k : IntKind) (x : DOpd)
  | cvtS (x : DOpd)
  | mkif (ty : TypeId) (x : DOpd)
  | mkfn (f : Fn) (first cap : List DOpd)
  | slcS (x : DOpd) (lo hi : Option DOpd)
  | slc (sz : Nat) (x : DOpd) (lo hi mx : Option DOpd)
  | faddr (off : Nat) (x : DOpd)
  | fld (off : Nat) (k : Option Nat) (x : DOpd)
  | iaddr (sz : Nat) (x i : DOpd)
  | idxS (x i : DOpd)
  | extr (x : DOpd) (i : Nat)
  | tas (ty : TypeId) (zero : DV) (ok : Bool) (x : DOpd)
  | call (f : FuncId) (args : List DOpd)
  | callv (f : DOpd) (args : List DOpd)
  | app (ty : TypeId) (sz : Nat) (x y : DOpd)
  | len (str : Bool) (x : DOpd)
  | mxmn (mx : Bool) (x y : DOpd)
  | panic (x : DOpd)
  | rngS (x : DOpd)
  | nxtS (x : DOpd)

structure Eff where
  out : Out
  reads : List Tok
  upds : Hl

def Eff.val (d : DV) : Eff := ⟨.ret d, [], []⟩

/-- A row becomes what nobody writes any more. -/
def frzUpd (h : Hp) (t : Tok) : Hl :=
  match h t with
  | some (.row ty sz xs) => [(t, .frz ty sz xs)]
  | _ => []

def frzAll (h : Hp) (ts : List Tok) : Hl := ts.flatMap (frzUpd h)

/-- The row behind a slice. -/
def rowOf (h : Hp) (t : Tok) : Option (Nat × List DV) :=
  match h t with
  | some (.row _ sz xs) => some (sz, xs)
  | some (.frz _ sz xs) => some (sz, xs)
  | _ => none

-- What is handed on as persistent: the rows that are in it stay as they are from then on.
mutual
def res (h : Hp) : DV → Option (DV × List Tok)
  | .row sz t n off len => match rowOf h t with
    | some (sz', xs) => if sz' = sz ∧ xs.length = n then some (.lst sz ((xs.drop off).take len) .ro, [t]) else none
    | none => none
  | .agg cs => (resL h cs).map fun p => (.agg p.1, p.2)
  | .iface ty d => (res h d).map fun p => (.iface ty p.1, p.2)
  | .tup cs => (resL h cs).map fun p => (.tup p.1, p.2)
  | .fn f a b => match resL h a, resL h b with
    | some p, some q => some (.fn f p.1 q.1, p.2 ++ q.2)
    | _, _ => none
  | .sc v => if plain v then some (.sc v, []) else none
  | .lst sz xs k => some (.lst sz xs k, [])
  | .pref cs => some (.pref cs, [])
  | _ => none
def resL (h : Hp) : List DV → Option (List DV × List Tok)
  | [] => some ([], [])
  | d :: ds => match res h d, resL h ds with
    | some p, some q => some (p.1 :: q.1, p.2 ++ q.2)
    | _, _ => none
end

/-- A segment of a list replaced. -/
def fillAt (cs : List DV) (off : Nat) (xs : List DV) : List DV := cs.take off ++ xs ++ cs.drop (off + xs.length)

def fillParts (g : DOpd → DV) : List (Nat × Nat × DOpd) → List DV → Option (List DV)
  | [], cs => some cs
  | (off, n, x) :: ps, cs => if stb (g x) = true ∧ (g x).cells.length = n ∧ off + n ≤ cs.length then fillParts g ps (fillAt cs off (g x).cells) else none

def setParts (h : Hp) (g : DOpd → DV) (sz : Nat) : List (Nat × DOpd) → List DV → Option (List DV × List Tok)
  | [], xs => some (xs, [])
  | (i, x) :: ps, xs => match res h (g x) with
    | some (d, ts) => if stb d = true ∧ d.cells.length = sz ∧ i < xs.length then (setParts h g sz ps (xs.set i d)).map fun p => (p.1, ts ++ p.2) else none
    | none => none

/-- Out of cells: one, or a struct's. -/
def pickCells (cs : List DV) (off : Nat) : Option Nat → Option DV
  | none => cs[off]?
  | some n => if off + n ≤ cs.length then some (.agg ((cs.drop off).take n)) else none

def asNat : DV → Option Nat
  | .sc (.int _ n) => if 0 ≤ n then some n.toNat else none
  | _ => none

def optNat (g : DOpd → DV) (dflt : Nat) : Option DOpd → Option Nat
  | none => some dflt
  | some x => asNat (g x)

/-- A new name at a place: the operation's slot. -/
def nameOf (d : Option Nat) : Option Tok := d.map fun n => [n + 1]

def maxLen32 : Nat := 4294967296

def outClosed : Out → Bool
  | .ret d => closed d
  | .pnc d => closed d

mutual
def ren (σ : Tok → Tok) : DV → DV
  | .ptr t o => .ptr (σ t) o
  | .rptr sz t n i r => .rptr sz (σ t) n i r
  | .row sz t n o l => .row sz (σ t) n o l
  | .map t => .map (σ t)
  | .fn f a b => .fn f (renL σ a) (renL σ b)
  | .iface ty d => .iface ty (ren σ d)
  | .agg cs => .agg (renL σ cs)
  | .tup cs => .tup (renL σ cs)
  | d => d
def renL (σ : Tok → Tok) : List DV → List DV
  | [] => []
  | d :: ds => ren σ d :: renL σ ds
end

def renE (σ : Tok → Tok) : List (Value × DV × Nat) → List (Value × DV × Nat)
  | [] => []
  | (k, d, b) :: es => (k, ren σ d, b) :: renE σ es

def AObj.ren (σ : Tok → Tok) : AObj → AObj
  | .cells ty cs => .cells ty (renL σ cs)
  | .mp es c => .mp (renE σ es) c
  | o => o

/-- The names that some values lead to, in order. -/
def addNew : List Tok → List Tok → List Tok
  | acc, [] => acc
  | acc, t :: ts => addNew (if acc.contains t then acc else acc ++ [t]) ts

def reachGo (h : Hp) : Nat → Nat → List Tok → List Tok
  | 0, _, acc => acc
  | n + 1, i, acc => match acc[i]? with
    | none => acc
    | some t => reachGo h n (i + 1) (match h t with | some o => addNew acc o.toks | none => acc)

def reach (h : Hp) (args : List DV) : List Tok := reachGo h 64 0 (addNew [] (toksL args))

def idxOf (t : Tok) : List Tok → Nat → Option Nat
  | [], _ => none
  | u :: us, i => if u = t then some i else idxOf t us (i + 1)

/-- The names as the callee has them: what it was handed, in order. -/
def inName (ts : List Tok) (t : Tok) : Tok := match idxOf t ts 0 with | some i => [0, i] | none => 0 :: t

/-- .. and back. -/
def outName (ts : List Tok) (d : Nat) (u : Tok) : Tok :=
  match u with
  | [0, i] => ts.getD i []
  | u => (d + 1) :: u

def handed (h : Hp) (ts : List Tok) (σ : Tok → Tok) : List Tok → Option Hl
  | [] => some []
  | t :: us => match h t, handed h ts σ us with
    | some o, some l => if o.toks.all ts.contains then some ((σ t, o.ren σ) :: l) else none
    | _, _ => none

def isIn : Tok → Bool
  | 0 :: _ => true
  | _ => false

def backIn (ts : List Tok) (τ : Tok → Tok) (h1 : Hl) : Nat → List Tok → Option Hl
  | _, [] => some []
  | i, t :: us => match h1.get [0, i], backIn ts τ h1 (i + 1) us with
    | some o, some l => some ((t, o.ren τ) :: l)
    | _, _ => none

def backNew (τ : Tok → Tok) : Hl → Hl
  | [] => []
  | (u, o) :: l => if isIn u then backNew τ l else (τ u, o.ren τ) :: backNew τ l

def Out.ren (σ : Tok → Tok) : Out → Out
  | .ret d => .ret (Go.Di.ren σ d)
  | .pnc d => .pnc (Go.Di.ren σ d)

/-- A name as it may come back from a callee that was handed so many. -/
def okTok (H : Hl) (n : Nat) : Tok → Bool
  | [0, i] => decide (i < n)
  | u => !isIn u && (H.get u).isSome

def Out.toks : Out → List Tok
  | .ret d => Go.Di.toks d
  | .pnc d => Go.Di.toks d

def okHl (H : Hl) (n : Nat) : Hl → Bool
  | [] => true
  | (_, o) :: l => o.toks.all (okTok H n) && okHl H n l

def nodup : List Tok → Bool
  | [] => true
  | t :: ts => !ts.contains t && nodup ts

/-- None of these is handed on already. -/
def noneIn (ts : List Tok) (l : Hl) : Bool := l.all fun p => !ts.contains p.1

/-- The names that are new in a change. -/
def newIn (ts : List Tok) : Hl → List Tok
  | [] => []
  | (t, _) :: l => if ts.contains t then newIn ts l else t :: newIn ts l

def callEff (Γ : Gam) (d : Option Nat) (h : Hp) (f : FuncId) (args : List DV) : Option Eff :=
  match Γ f with
  | none => none
  | some sp =>
    if sp.pure then
      match resL h args with
      | none => none
      | some p => match sp.run p.1 [] with
        | some q => if outClosed q.1 then some ⟨q.1, p.2, frzAll h p.2⟩ else none
        | none => none
    else
      let ts := reach h args
      if nodup ts && (toksL args).all ts.contains then
        match handed h ts (inName ts) ts, d with
        | some h0, some d => match sp.run (renL (inName ts) args) h0 with
          | some q => match backIn ts (outName ts d) q.2 0 ts with
            | some l => if okHl q.2 ts.length q.2 && q.1.toks.all (okTok q.2 ts.length) && noneIn ts (backNew (outName ts d) q.2) then some ⟨q.1.ren (outName ts d), ts, (l ++ backNew (outName ts d) q.2).reverse⟩ else none
            | none => none
          | none => none
        | _, _ => none
      else none

def isNilC : DOpd → Bool
  | .con (.sc .nilIface) => true
  | _ => false

def binEff (P : Program) (op : BinOp) (ty : TypeId) (nx ny : Bool) (x y : DV) : Option DV :=
  match toVal x, toVal y with
  | some a, some b =>
    (pureRun P (do eqGuard op ty (if nx then .const .nilIface else .tmp 0) (if ny then .const .nilIface else .tmp 0) a b; binOp op ty a b)).bind fun v =>
      if plain v then some (.sc v) else none
  | _, _ => none

def isRow : DV → Bool
  | .row .. => true
  | _ => false

def appEff (d : Option Nat) (h : Hp) (ty : TypeId) (sz : Nat) (x y : DV) : Option Eff :=
  match res h y with
  | some (.lst _ ys _, ts) =>
    if ys.all (fun e => e.cells.length == sz) then
      match x with
      | .lst _ xs k =>
        if (k = .nil ∨ k = .full) ∧ (xs = [] ∨ ys ≠ []) ∧ xs.all (fun e => e.cells.length == sz) ∧ xs.length + ys.length < maxLen32 then
          match nameOf d with
          | some t => some ⟨.ret (.row sz t (xs ++ ys).length 0 (xs ++ ys).length), ts, frzAll h ts ++ [(t, .row ty sz (xs ++ ys))]⟩
          | none => none
        else none
      | .row sz' t n off len =>
        match h t with
        | some (.row ty' sz'' xs) =>
          if sz' = sz ∧ sz'' = sz ∧ ty' = ty ∧ off = 0 ∧ len = n ∧ xs.length = n ∧ xs.length + ys.length < maxLen32 ∧ !ts.contains t then
            some ⟨.ret (.row sz t (xs ++ ys).length 0 (xs ++ ys).length), t :: ts, frzAll h ts ++ [(t, .row ty sz (xs ++ ys))]⟩
          else none
        | _ => none
      | _ => none
    else none
  | _ => none

def storeEff (h : Hp) (n : Nat) (a x : DV) : Option Eff :=
  match a with
  | .ptr t off => match h t with
    | some (.cells ty cs) => if stb x = true ∧ x.cells.length = n ∧ off + n ≤ cs.length then some ⟨.ret .any, [t], [(t, .cells ty (fillAt cs off x.cells))]⟩ else none
    | _ => none
  | .rptr sz t m i r => match h t with
    | some (.row ty sz' xs) => match res h x, xs[i]? with
      | some (d, ts), some e =>
        if sz' = sz ∧ xs.length = m ∧ stb d = true ∧ d.cells.length = n ∧ r + n ≤ sz ∧ !ts.contains t then
          let e' := if n = sz then d else .agg (fillAt e.cells r d.cells)
          some ⟨.ret .any, t :: ts, frzAll h ts ++ [(t, .row ty sz (xs.set i e'))]⟩
        else none
      | _, _ => none
    | _ => none
  | _ => none

def loadEff (h : Hp) (k : Option Nat) (a : DV) : Option Eff :=
  match a with
  | .ptr t off => match h t with
    | some (.cells _ cs) => (pickCells cs off k).map fun d => ⟨.ret d, [t], []⟩
    | _ => none
  | .rptr sz t m i r => match rowOf h t with
    | some (sz', xs) => if sz' = sz ∧ xs.length = m then ((xs[i]?).bind fun e => pickCells e.cells r k).map fun d => ⟨.ret d, [t], []⟩ else none
    | none => none
  | .pref cs => (pickCells cs 0 k).map .val
  | _ => none

def slcEff (sz : Nat) (x : DV) (g : DOpd → DV) (lo hi mx : Option DOpd) : Option Eff :=
  match x with
  | .lst sz' xs k => match optNat g 0 lo, optNat g xs.length hi, optNat g xs.length mx with
    | some l, some u, some m =>
      if (sz' = sz ∨ xs = []) ∧ l ≤ u ∧ u ≤ m ∧ m ≤ xs.length then
        some (.val (.lst sz ((xs.drop l).take (u - l)) (if mx.isSome ∧ u = m then .full else if k = .full ∧ u = xs.length then .full else .ro)))
      else none
    | _, _, _ => none
  | .row sz' t n off len => match mx with
    | some _ => match optNat g 0 lo, optNat g 0 hi, optNat g 0 mx with
      | some 0, some 0, some 0 => some (.val (.lst sz [] .full))
      | _, _, _ => none
    | none => match optNat g 0 lo, optNat g len hi with
      | some l, some u => if sz' = sz ∧ l ≤ u ∧ u ≤ len then some (.val (.row sz t n (off + l) (u - l))) else none
      | _, _ => none
  | _ => none

def strCut (s : ByteArray) (g : DOpd → DV) (lo hi : Option DOpd) : Option Eff :=
  match optNat g 0 lo, optNat g s.size hi with
  | some l, some u => if l ≤ u ∧ u ≤ s.size then some (.val (.sc (.string (s.extract l u)))) else none
  | _, _ => none

def faddrEff (h : Hp) (off : Nat) : DV → Option Eff
  | .ptr t o => if h.len? t = none then some ⟨.ret (.ptr t (o + off)), [t], []⟩ else none
  | .rptr sz t n i r => if r + off < sz ∧ h.len? t = some n then some ⟨.ret (.rptr sz t n i (r + off)), [t], []⟩ else none
  | .pref cs => some (.val (.pref (cs.drop off)))
  | _ => none

def tasEff (ty : TypeId) (zero : DV) (ok : Bool) : DV → Option DV
  | .iface u v => if u = ty then some (if ok then .tup [v, .sc (.bool true)] else v) else if ok then some (.tup [zero, .sc (.bool false)]) else none
  | .sc .nilIface => if ok then some (.tup [zero, .sc (.bool false)]) else none
  | _ => none

def lenEff (str : Bool) : DV → Option DV
  | .sc (.string s) => if str then some (.sc (.int .i64 s.size)) else none
  | .lst _ xs _ => if str then none else some (.sc (.int .i64 xs.length))
  | .row _ _ _ _ len => if str then none else some (.sc (.int .i64 len))
  | _ => none

/-- Is a value nil? -/
def nilOf (h : Hp) : NK → DV → Option (Bool × List Tok)
  | .slice, .lst _ xs k => match xs, k with
    | _ :: _, _ => some (false, [])
    | [], .nil => some (true, [])
    | [], .no => some (true, [])
    | [], .nn => some (false, [])
    | [], _ => none
  | .slice, .row _ t n _ len => if h.len? t = some n ∧ 0 < len then some (false, [t]) else none
  | .ptr, .sc (.pointer none) => some (true, [])
  | .ptr, .ptr t _ => if h.len? t = none then some (false, [t]) else none
  | .ptr, .rptr _ t n _ _ => if h.len? t = some n then some (false, [t]) else none
  | .ptr, .pref _ => some (false, [])
  | .map, .sc (.map none) => some (true, [])
  | .map, .map t => if h.len? t = none then some (false, [t]) else none
  | .func, .sc .nilFunc => some (true, [])
  | .func, .fn _ _ _ => some (false, [])
  | .iface, .sc .nilIface => some (true, [])
  | .iface, .iface _ _ => some (false, [])
  | _, _ => none

def keyEq : KK → Value → Value → Option Bool
  | .str, .string a, .string b => some (a == b)
  | .int, .int k a, .int k' b => if k = k' then some (a == b) else none
  | .bool, .bool a, .bool b => some (a == b)
  | _, _, _ => none

/-- Is a key of this kind? -/
def keyOf : KK → Value → Bool
  | .str, .string _ => true
  | .int, .int _ _ => true
  | .bool, .bool _ => true
  | _, _ => false

def findD (kk : KK) (k : Value) : List (Value × DV × Nat) → Nat → Option (Option (Nat × DV))
  | [], _ => some none
  | (q, d, _) :: es, i => match keyEq kk k q with
    | some true => some (some (i, d))
    | some false => findD kk k es (i + 1)
    | none => none

def setEnt : List (Value × DV × Nat) → Nat → DV → List (Value × DV × Nat)
  | [], _, _ => []
  | (k, _, n) :: es, 0, v => (k, v, n) :: es
  | e :: es, i + 1, v => e :: setEnt es i v

/-- What a look-up hands back. -/
def lkRes (ok : Bool) (d : DV) (is : Bool) : DV := match ok with
  | true => .tup [d, .sc (.bool is)]
  | false => d

def lkupEff (kk : KK) (zero : DV) (ok : Bool) (h : Hp) (m k : DV) : Option Eff :=
  match k with
  | .sc k => match keyOf kk k with
    | true => match m with
      | .map t => match h t with
        | some (.mp es _) => match findD kk k es 0 with
          | some (some (_, d)) => some ⟨.ret (lkRes ok d true), [t], []⟩
          | some none => some ⟨.ret (lkRes ok zero false), [t], []⟩
          | none => none
        | _ => none
      | .sc (.map none) => some ⟨.ret (lkRes ok zero false), [], []⟩
      | _ => none
    | false => none
  | _ => none

def mupdEff (kk : KK) (h : Hp) (m k v : DV) : Option Eff :=
  match m, k with
  | .map t, .sc k => match keyOf kk k, stb v, h t with
    | true, true, some (.mp es c) => match findD kk k es 0 with
      | some (some (i, _)) => some ⟨.ret .any, [t], [(t, .mp (setEnt es i v) c)]⟩
      | some none => some ⟨.ret .any, [t], [(t, .mp (es ++ [(k, v, c)]) (c + 1))]⟩
      | none => none
    | _, _, _ => none
  | _, _ => none

def mx2 (mx : Bool) (a b : Int) : Int := if mx then (if b > a then b else a) else if b < a then b else a

def bytesOf : List DV → Option (List UInt8)
  | [] => some []
  | .sc (.int .u8 n) :: ds => match bytesOf ds with
    | some bs => some (UInt8.ofNat n.toNat :: bs)
    | none => none
  | _ => none

def b2sEff (h : Hp) : DV → Option Eff
  | .lst _ xs _ => (bytesOf xs).map fun bs => .val (.sc (.string ⟨bs.toArray⟩))
  | .row sz t n off len => match sz, rowOf h t with
    | 1, some (1, xs) => if xs.length = n ∧ off + len ≤ n then (bytesOf ((xs.drop off).take len)).map fun bs => ⟨.ret (.sc (.string ⟨bs.toArray⟩)), [t], []⟩ else none
    | _, _ => none
  | _ => none

def xEff (P : Program) (d : Option Nat) (h : Hp) : XOp → List DV → Option Eff
  | .isnil nk neg, [x] => (nilOf h nk x).map fun p => ⟨.ret (.sc (.bool (if neg then !p.1 else p.1))), p.2, []⟩
  | .mmap, [] => (nameOf d).map fun t => ⟨.ret (.map t), [], [(t, .mp [] 0)]⟩
  | .lkup kk z ok, [m, k] => lkupEff kk z ok h m k
  | .mupd kk, [m, k, v] => mupdEff kk h m k v
  | .mx3 mx, [.sc (.int k a), .sc (.int _ b), .sc (.int _ c)] => some (.val (.sc (.int k (mx2 mx (mx2 mx a b) c))))
  | .b2s, [x] => b2sEff h x
  | _, _ => none

def opEff (P : Program) (Γ : Gam) (d : Option Nat) (g : DOpd → DV) (h : Hp) : DOp → Option Eff
  | .ex k xs => xEff P d h k (xs.map g)
  | .mv x => some (.val (g x))
  | .pick c a b => match g c with
    | .sc (.bool true) => some (.val (g a))
    | .sc (.bool false) => some (.val (g b))
    | _ => none
  | .alloc ty zero => (nameOf d).map fun t => ⟨.ret (.ptr t 0), [], [(t, .cells ty zero)]⟩
  | .box ty x => if stb (g x) = true then (nameOf d).map fun t => ⟨.ret (.ptr t 0), [], [(t, .cells ty (g x).cells)]⟩ else none
  | .build zero ps => (fillParts g ps zero).map fun cs => .val (.agg cs)
  | .bslice ty sz n zero ps => match nameOf d, setParts h g sz ps (List.replicate n zero) with
    | some t, some (xs, ts) => some ⟨.ret (.row sz t n 0 n), ts, frzAll h ts ++ [(t, .row ty sz xs)]⟩
    | _, _ => none
  | .load k a => loadEff h k (g a)
  | .store n a x => storeEff h n (g a) (g x)
  | .nilc x => match g x with
    | .ptr t o => if h.len? t = none then some ⟨.ret (.ptr t o), [t], []⟩ else none
    | .rptr sz t n i r => if h.len? t = some n then some ⟨.ret (.rptr sz t n i r), [t], []⟩ else none
    | .pref cs => some (.val (.pref cs))
    | .fn (.func f) a b => some (.val (.fn (.func f) a b))
    | .iface ty v => some (.val (.iface ty v))
    | _ => none
  | .bin op ty x y => (binEff P op ty (isNilC x) (isNilC y) (g x) (g y)).map .val
  | .un op x => match toVal (g x) with
    | some a => (pureRun P (Op.unary op a)).bind fun v => if plain v then some (.val (.sc v)) else none
    | none => none
  | .cvt k x => match g x with
    | .sc (.int _ n) => some (.val (.sc (.int k (k.wrap n))))
    | _ => none
  | .cvtS x => match g x with
    | .sc (.string s) => some (.val (.sc (.string s)))
    | _ => none
  | .mkif ty x => some (.val (.iface ty (g x)))
  | .mkfn f a b => some (.val (.fn f (a.map g) (b.map g)))
  | .slcS x lo hi => match g x with
    | .sc (.string s) => strCut s g lo hi
    | _ => none
  | .slc sz x lo hi mx => slcEff sz (g x) g lo hi mx
  | .faddr off x => faddrEff h off (g x)
  | .fld off k x => match g x with
    | .agg cs => (pickCells cs off k).map .val
    | _ => none
  | .iaddr sz x i => match g x, asNat (g i) with
    | .lst sz' xs _, some n => if sz' = sz then (xs[n]?).map fun e => .val (.pref e.cells) else none
    | .row sz' t m off len, some n => if sz' = sz ∧ n < len ∧ 0 < sz ∧ h.len? t = some m then some ⟨.ret (.rptr sz t m (off + n) 0), [t], []⟩ else none
    | _, _ => none
  | .idxS x i => match g x, asNat (g i) with
    | .sc (.string s), some n => (s[n]?).map fun b => .val (.sc (.int .u8 b.toNat))
    | _, _ => none
  | .extr x i => match g x with
    | .tup vs => (vs[i]?).map .val
    | _ => none
  | .tas ty zero ok x => (tasEff ty zero ok (g x)).map .val
  | .call f args => callEff Γ d h f (args.map g)
  | .callv f args => match g f with
    | .fn (.func n) [] cap => callEff Γ d h n (args.map g ++ cap)
    | _ => none
  | .app ty sz x y => appEff d h ty sz (g x) (g y)
  | .len str x => (lenEff str (g x)).map .val
  | .mxmn mx x y => match g x, g y with
    | .sc (.int k a), .sc (.int _ b) => some (.val (.sc (.int k (if mx then (if b > a then b else a) else if b < a then b else a))))
    | _, _ => none
  | .panic x => match g x with
    | .iface ty v => some ⟨.pnc (.iface ty v), [], []⟩
    | _ => none
  | .rngS x => match g x, nameOf d with
    | .sc (.string s), some t => some ⟨.ret (.ptr t 0), [], [(t, .sit s 0)]⟩
    | _, _ => none
  | .nxtS x => match g x with
    | .ptr t 0 => match h t with
      | some (.sit s pos) =>
        if pos < s.size then
          some ⟨.ret (.tup [.sc (.bool true), .sc (.int .i64 pos), .sc (.int .i32 (Utf8.decode s pos).1)]), [t], [(t, .sit s (pos + (Utf8.decode s pos).2))]⟩
        else some ⟨.ret (.tup [.sc (.bool false)]), [t], []⟩
      | _ => none
    | _ => none

end Go.Di
