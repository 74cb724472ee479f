/- From the machine's operations to those over data, and that they agree. -/
import Derived.Test.YtnmjgpnidpgimaaGreatDoorDiCall
namespace Go.Di
open Go.RowKit
set_option linter.unusedSectionVars false
set_option linter.unusedSimpArgs false
set_option linter.unusedVariables false

def digOpd : Operand → Option DOpd
  | .tmp t => some (.tmp t)
  | .const v => (ofVal 64 v).map .con
  | .func f => some (.con (.fn (.func f) [] []))
  | .global _ => none

def digOpds : List Operand → Option (List DOpd)
  | [] => some []
  | x :: xs => match digOpd x, digOpds xs with
    | some d, some ds => some (d :: ds)
    | _, _ => none

def digOpt : Option Operand → Option (Option DOpd)
  | none => some none
  | some x => (digOpd x).map some

/-- A struct's parts: where, how many cells, what. -/
def digParts (place : Nat → Option (Nat × Nat)) : List (Nat × Operand) → Option (List (Nat × Nat × DOpd))
  | [] => some []
  | (i, x) :: ps => match place i, digOpd x, digParts place ps with
    | some (off, n), some d, some ds => some ((off, n, d) :: ds)
    | _, _, _ => none

def digElems : List (Nat × Operand) → Option (List (Nat × DOpd))
  | [] => some []
  | (i, x) :: ps => match digOpd x, digElems ps with
    | some d, some ds => some ((i, d) :: ds)
    | _, _ => none

def notIface (P : Program) (t : TypeId) : Bool := match P.underlying t with | some (.interface _) => false | some _ => true | none => false

/-- Against nil. -/
def nilKind : Operand → Option NK
  | .const (.slice none 0 0) => some .slice
  | .const (.pointer none) => some .ptr
  | .const (.map none) => some .map
  | .const .nilFunc => some .func
  | .const .nilIface => some .iface
  | _ => none

def nilTy (P : Program) (t : TypeId) : NK → Bool
  | .slice => match P.underlying t with | some (.slice _) => true | _ => false
  | .ptr => match P.underlying t with | some (.pointer _) => true | _ => false
  | .map => match P.underlying t with | some (.map _ _) => true | _ => false
  | .func => match P.underlying t with | some (.func _ _ _) => true | _ => false
  | .iface => match P.underlying t with | some (.interface _) => true | _ => false

def digBin (P : Program) (op : BinOp) (t : TypeId) (x y : Operand) : Option DOp :=
  match digOpd x, digOpd y with
    | some a, some b => some (.bin op t a b)
    | _, _ => none

/-- The kind of a map's keys. -/
def kkOf (P : Program) (t : TypeId) : Option KK := match P.underlying t with
  | some .string => some .str
  | some (.int _) => some .int
  | some .bool => some .bool
  | _ => none

def digNil (P : Program) (op : BinOp) (t : TypeId) (x y : Operand) : Option (XOp × List DOpd) :=
  match (match op with | .eql => some false | .neq => some true | _ => none), nilKind y with
  | some neg, some nk => if nilTy P t nk then (digOpd x).map fun d => (.isnil nk neg, [d]) else none
  | _, _ => none

/-- Operations that came later. -/
def digX (P : Program) : Op → Option (XOp × List DOpd)
  | .binOp op t x y _ => digNil P op t x y
  | .makeMap _ none => some (.mmap, [])
  | .lookup t m k ok => match P.underlying t with
    | some (.map kt et) => match kkOf P kt, zeroTy P et, digOpd m, digOpd k with
      | some kk, some z, some dm, some dk => some (.lkup kk z ok, [dm, dk])
      | _, _, _, _ => none
    | _ => none
  | .mapUpdate t m k v => match P.underlying t with
    | some (.map kt _) => match kkOf P kt, digOpd m, digOpd k, digOpd v with
      | some kk, some dm, some dk, some dv => some (.mupd kk, [dm, dk, dv])
      | _, _, _, _ => none
    | _ => none
  | .convert s t x => match P.underlying s, P.underlying t with
    | some (.slice e), some .string => match P.underlying e with
      | some (.int .u8) => (digOpd x).map fun d => (.b2s, [d])
      | _ => none
    | _, _ => none
  | .call c => match c.callee with
    | .builtin .max => match c.args.toList with
      | [x, y, z] => match digOpd x, digOpd y, digOpd z with
        | some a, some b, some c => some (.mx3 true, [a, b, c])
        | _, _, _ => none
      | _ => none
    | .builtin .min => match c.args.toList with
      | [x, y, z] => match digOpd x, digOpd y, digOpd z with
        | some a, some b, some c => some (.mx3 false, [a, b, c])
        | _, _, _ => none
      | _ => none
    | _ => none
  | _ => none

def digCall (P : Program) (c : Call) : Option DOp :=
  match c.callee with
  | .value (.func f) => (digOpds c.args.toList).map (.call f)
  | .value x => match digOpd x, digOpds c.args.toList with
    | some d, some as => some (.callv d as)
    | _, _ => none
  | .builtin .append => match c.args.toList, c.argTypes.toList with
    | [x, y], [t, xt] => match P.underlying t, P.underlying xt, digOpd x, digOpd y with
      | some (.slice e), some (.slice _), some dx, some dy => match szTy P e with
        | some sz => if appTy P t e sz then some (.app e sz dx dy) else none
        | none => none
      | _, _, _, _ => none
    | _, _ => none
  | .builtin .len => match c.args.toList, c.argTypes.toList with
    | [x], [t] => match P.underlying t, digOpd x with
      | some .string, some d => some (.len true d)
      | some (.slice _), some d => some (.len false d)
      | _, _ => none
    | _, _ => none
  | .builtin .max => match c.args.toList with
    | [x, y] => match digOpd x, digOpd y with
      | some a, some b => some (.mxmn true a b)
      | _, _ => none
    | _ => none
  | .builtin .min => match c.args.toList with
    | [x, y] => match digOpd x, digOpd y with
      | some a, some b => some (.mxmn false a b)
      | _, _ => none
    | _ => none
  | _ => none

def digOp0 (P : Program) : Op → Option DOp
  | .move x | .assign x => (digOpd x).map .mv
  | .pick c a b => match digOpd c, digOpd a, digOpd b with
    | some c, some a, some b => some (.pick c a b)
    | _, _, _ => none
  | .alloc t => (zeroTy P t).map fun z => .alloc t z.cells
  | .box t x => (digOpd x).map (.box t)
  | .build t ps => match zeroTy P t, placesTy P t with
    | some z, some place => (digParts place ps.toList).map (.build z.cells)
    | _, _ => none
  | .buildSlice t n ps => match P.underlying t with
    | some (.slice e) => match szTy P e, zeroTy P e, digElems ps.toList with
      | some sz, some z, some ds => if 0 < sz ∧ n * sz ≤ 2 ^ 24 ∧ z.cells.length = sz then some (.bslice e sz n z ds) else none
      | _, _, _ => none
    | _ => none
  | .load t a => match ldTy P t, digOpd a with
    | some k, some d => some (.load k d)
    | _, _ => none
  | .store t a x => match szTy P t, digOpd a, digOpd x with
    | some n, some a, some x => some (.store n a x)
    | _, _, _ => none
  | .nilCheck x => (digOpd x).map .nilc
  | .binOp op t x y _ => digBin P op t x y
  | .unOp op _ x => (digOpd x).map (.un op)
  | .convert s t x => match P.underlying s, P.underlying t, digOpd x with
    | some (.int _), some (.int k), some d => some (.cvt k d)
    | some .string, some .string, some d => some (.cvtS d)
    | _, _, _ => none
  | .makeInterface t x => if notIface P t then (digOpd x).map (.mkif t) else none
  | .makeFunc f a b => match digOpds a.toList, digOpds b.toList with
    | some a, some b => some (.mkfn f a b)
    | _, _ => none
  | .slice t x lo hi mx => match P.underlying t, digOpd x, digOpt lo, digOpt hi, digOpt mx with
    | some .string, some x, some lo, some hi, some none => some (.slcS x lo hi)
    | some (.slice e), some x, some lo, some hi, some mx => match szTy P e with
      | some sz => if mx.isNone || hi.isSome then some (.slc sz x lo hi mx) else none
      | none => none
    | _, _, _, _, _ => none
  | .fieldAddr s x i => match P.underlying s, digOpd x with
    | some (.struct fs), some d => match fs[i]? with
      | some f => if (szTy P f.type).any (fun n => decide (0 < n)) then some (.faddr f.offset d) else none
      | none => none
    | _, _ => none
  | .field s x i => match P.underlying s, digOpd x with
    | some (.struct fs), some d => match fs[i]? with
      | some f => (ldTy P f.type).map fun k => .fld f.offset k d
      | none => none
    | _, _ => none
  | .indexAddr t x i => match P.underlying t, digOpd x, digOpd i with
    | some (.slice e), some x, some i => (szTy P e).map fun sz => .iaddr sz x i
    | _, _, _ => none
  | .index t x i => match P.underlying t, digOpd x, digOpd i with
    | some .string, some x, some i => some (.idxS x i)
    | _, _, _ => none
  | .typeAssert x _ t ok => if notIface P t then match zeroTy P t, digOpd x with
      | some z, some d => some (.tas t z ok d)
      | _, _ => none
    else none
  | .extract x i => (digOpd x).map fun d => .extr d i
  | .range t x => match P.underlying t, digOpd x with
    | some .string, some d => some (.rngS d)
    | _, _ => none
  | .next x true => (digOpd x).map .nxtS
  | .panic x => (digOpd x).map .panic
  | .call c => digCall P c
  | _ => none

def digOp (P : Program) (op : Op) : Option DOp := match digX P op with
  | some p => some (.ex p.1 p.2)
  | none => digOp0 P op

/-- Operations that make names. -/
def creates : DOp → Bool
  | .ex .mmap _ => true
  | .alloc .. | .box .. | .bslice .. | .app .. | .call .. | .callv .. | .rngS .. => true
  | _ => false

/-- Does an operation make a name, as things stand? -/
def mk (g : DOpd → DV) : DOp → Bool
  | .app _ _ x _ => !isRow (g x)
  | o => creates o

/-- The names that an operation made. -/
def made (d : Option Nat) (g : DOpd → DV) (dop : DOp) (e : Eff) : List Tok := match dop with
  | .call .. => newIn e.reads e.upds
  | .callv .. => newIn e.reads e.upds
  | op => match mk g op with
    | true => (nameOf d).toList
    | false => []

def getOpd (g : Env) : DOpd → DV
  | .tmp n => g n
  | .con d => d

section
variable {P : Program} {W0 : World} {T : Tok → Prop} {ρ : Rho} {F : Nat → Prop} {h : Hp} {w : World} {Γ : Gam}

/-- The frame's slots read as the environment says. -/
def RepEnv (ρ : Rho) (F : Nat → Prop) (h : Hp) (w : World) (g : Env) (a : Act) : Prop := ∀ n, RepV ρ F h w (g n) (a.tmps.getD n undef)

theorem opd_rep {g : Env} {a : Act} (hg : RepEnv ρ F h w g a) {x : Operand} {d : DOpd} (hd : digOpd x = some d) : RepV ρ F h w (getOpd g d) (a.eval x) := by
  cases x with
  | tmp t => simp only [digOpd, Option.some.injEq] at hd; subst hd; exact hg t
  | const v =>
    simp only [digOpd, Option.map_eq_some_iff] at hd
    obtain ⟨dv, h1, rfl⟩ := hd
    exact (ofVal_rep h1).1
  | func f =>
    simp only [digOpd, Option.some.injEq] at hd; subst hd
    simp only [getOpd, RepV, RepL]
    exact ⟨#[], #[], rfl, rfl, rfl⟩
  | global n => simp [digOpd] at hd

theorem opd_toks {g : Env} {x : Operand} {d : DOpd} (hd : digOpd x = some d) {S : Tok → Prop} (hg : ∀ n, ∀ t ∈ toks (g n), S t) : ∀ t ∈ toks (getOpd g d), S t := by
  cases x with
  | tmp t => simp only [digOpd, Option.some.injEq] at hd; subst hd; exact hg t
  | const v =>
    simp only [digOpd, Option.map_eq_some_iff] at hd
    obtain ⟨dv, h1, rfl⟩ := hd
    intro t ht
    simp only [getOpd] at ht
    rw [toks_closed _ (ofVal_rep (ρ := fun _ => none) (F := fun _ => False) (h := fun _ => none) (w := default) h1).2] at ht
    cases ht
  | func f =>
    simp only [digOpd, Option.some.injEq] at hd; subst hd
    intro t ht
    simp [getOpd, toks, toksL] at ht
  | global n => simp [digOpd] at hd

theorem opds_rep {g : Env} {a : Act} (hg : RepEnv ρ F h w g a) : ∀ {xs : List Operand} {ds : List DOpd}, digOpds xs = some ds → RepL ρ F h w (ds.map (getOpd g)) (xs.map a.eval)
  | [], ds, hd => by simp only [digOpds, Option.some.injEq] at hd; subst hd; simp [RepL]
  | x :: xs, ds, hd => by
    simp only [digOpds] at hd
    cases h1 : digOpd x with
    | none => simp [h1] at hd
    | some d =>
      cases h2 : digOpds xs with
      | none => simp [h1, h2] at hd
      | some ds' =>
        simp only [h1, h2, Option.some.injEq] at hd
        subst hd
        simp only [List.map_cons, RepL]
        exact ⟨_, _, rfl, opd_rep hg h1, opds_rep hg h2⟩

theorem opds_toks {g : Env} {S : Tok → Prop} (hg : ∀ n, ∀ t ∈ toks (g n), S t) : ∀ {xs : List Operand} {ds : List DOpd}, digOpds xs = some ds → ∀ t ∈ toksL (ds.map (getOpd g)), S t
  | [], ds, hd, t, ht => by simp only [digOpds, Option.some.injEq] at hd; subst hd; simp [toksL] at ht
  | x :: xs, ds, hd, t, ht => by
    simp only [digOpds] at hd
    cases h1 : digOpd x with
    | none => simp [h1] at hd
    | some d =>
      cases h2 : digOpds xs with
      | none => simp [h1, h2] at hd
      | some ds' =>
        simp only [h1, h2, Option.some.injEq] at hd
        subst hd
        simp only [List.map_cons, toksL, List.mem_append] at ht
        rcases ht with ht | ht
        · exact opd_toks h1 hg t ht
        · exact opds_toks hg h2 t ht

theorem opt_rep {g : Env} {a : Act} (hg : RepEnv ρ F h w g a) {x : Option Operand} {d : Option DOpd} (hd : digOpt x = some d) : RepO? ρ F h w (d.map (getOpd g)) (x.map a.eval) := by
  cases x with
  | none => simp only [digOpt, Option.some.injEq] at hd; subst hd; trivial
  | some x =>
    simp only [digOpt, Option.map_eq_some_iff] at hd
    obtain ⟨dv, h1, rfl⟩ := hd
    exact opd_rep hg h1

theorem parts_rep {g : Env} {a : Act} (hg : RepEnv ρ F h w g a) {place : Nat → Option (Nat × Nat)} : ∀ {ps : List (Nat × Operand)} {ds : List (Nat × Nat × DOpd)}, digParts place ps = some ds →
    ds.length = ps.length ∧ ∀ (i : Nat) off n x j v, ds[i]? = some (off, n, x) → (ps.map fun p => (p.1, a.eval p.2))[i]? = some (j, v) → place j = some (off, n) ∧ RepV ρ F h w (getOpd g x) v
  | [], ds, hd => by simp only [digParts, Option.some.injEq] at hd; subst hd; simp
  | (i, x) :: ps, ds, hd => by
    simp only [digParts] at hd
    split at hd
    · rename_i off n d ds' h1 h2 h3
      cases hd
      obtain ⟨e1, e2⟩ := parts_rep hg h3
      refine ⟨by simp [e1], fun k off' n' x' j v q1 q2 => ?_⟩
      cases k with
      | zero =>
        simp at q1 q2
        obtain ⟨rfl, rfl, rfl⟩ := q1
        obtain ⟨rfl, rfl⟩ := q2
        exact ⟨h1, opd_rep hg h2⟩
      | succ k => exact e2 k off' n' x' j v (by simpa using q1) (by simpa using q2)
    · cases hd

theorem elems_rep {g : Env} {a : Act} (hg : RepEnv ρ F h w g a) : ∀ {ps : List (Nat × Operand)} {ds : List (Nat × DOpd)}, digElems ps = some ds →
    ds.length = ps.length ∧ ∀ (i : Nat) n x j v, ds[i]? = some (n, x) → (ps.map fun p => (p.1, a.eval p.2))[i]? = some (j, v) → n = j ∧ RepV ρ F h w (getOpd g x) v
  | [], ds, hd => by simp only [digElems, Option.some.injEq] at hd; subst hd; simp
  | (i, x) :: ps, ds, hd => by
    simp only [digElems] at hd
    split at hd
    · rename_i d ds' h2 h3
      cases hd
      obtain ⟨e1, e2⟩ := elems_rep hg h3
      refine ⟨by simp [e1], fun k n' x' j v q1 q2 => ?_⟩
      cases k with
      | zero =>
        simp at q1 q2
        obtain ⟨rfl, rfl⟩ := q1
        obtain ⟨rfl, rfl⟩ := q2
        exact ⟨rfl, opd_rep hg h2⟩
      | succ k => exact e2 k n' x' j v (by simpa using q1) (by simpa using q2)
    · cases hd

theorem notIface_spec {t : TypeId} (hn : notIface P t = true) : ∃ td, P.underlying t = some td ∧ isIfaceD td = false := by
  unfold notIface at hn
  split at hn
  · cases hn
  · rename_i td h1 h2
    refine ⟨td, h2, ?_⟩
    cases td <;> first | rfl | exact (h1 _ rfl).elim
  · cases hn

/-- From an operation's run to its wp. -/
theorem wp_of_ok {o : Oper} {a : Act} {e : Eff} {s : Sem Value} (hex : execOp a.eval o = (do pure (Next.value (← s)))) (hok : OpOk P W0 T ρ F h w e s) {next : Act → World → Prop} {Q : Exit → Act → World → Prop}
    (hret : ∀ d v w' ρ' F', e.out = .ret d → Good W0 T ρ F h w ρ' F' (e.upds.app h) w' → RepV ρ' F' (e.upds.app h) w' d v → next (a.put o.dst v) w') : o.wp P a w next Q := by
  obtain ⟨d, v, w', ρ', F', e1, e2, e3, e4⟩ := hok
  unfold Oper.wp
  rw [hex]
  simp only [Sem.run_bind, e2, Result.andThen_ok, Sem.run_pure, Oper.upon_value]
  exact hret d v w' ρ' F' e1 e3 e4

theorem wp_of_call {o : Oper} {a : Act} {e : Eff} {f : FuncId} {vs : Array Value} (hex : (execOp a.eval o).run P w = .ok (.enter f vs) w) (hok : CallOk P W0 T ρ F h w e f vs) {next : Act → World → Prop} {Q : Exit → Act → World → Prop}
    (hret : ∀ d v w' ρ' F', e.out = .ret d → Good W0 T ρ F h w ρ' F' (e.upds.app h) w' → RepV ρ' F' (e.upds.app h) w' d v → next (a.put o.dst v) w')
    (hpnc : ∀ d v w' ρ' F', e.out = .pnc d → Good W0 T ρ F h w ρ' F' (e.upds.app h) w' → RepV ρ' F' (e.upds.app h) w' d v → Q (.panic [{ v, recovered := false }]) a w') : o.wp P a w next Q := by
  unfold Oper.wp
  rw [hex, Oper.upon_enter]
  refine hok.mono ?_
  rintro en w' ⟨ρ', F', g, ho⟩
  cases ho' : e.out with
  | ret d =>
    rw [ho'] at ho
    obtain ⟨v, rfl, hr⟩ := ho
    exact hret d v w' ρ' F' ho' g hr
  | pnc d =>
    rw [ho'] at ho
    obtain ⟨v, rfl, hr⟩ := ho
    exact hpnc d v w' ρ' F' ho' g hr

/-- A name is in nobody's hands. -/
structure FreshTok (t : Tok) (g : Env) (h : Hp) : Prop where
  env : ∀ n, t ∉ toks (g n)
  obj : ∀ u o, h u = some o → t ∉ o.toks

theorem fresh_of {d : Nat} {g : Env} (hf : FreshTok [d + 1] g h) (hT : ∀ u, T u → u ≠ [d + 1]) : ∀ tk, nameOf (some d) = some tk → Fresh T h tk := fun tk e => by
  simp [nameOf] at e
  subst e
  exact ⟨hT, hf.obj⟩

theorem newIn_iff {ts : List Tok} : ∀ {l : Hl} {t : Tok}, t ∈ newIn ts l ↔ t ∉ ts ∧ ∃ o, (t, o) ∈ l
  | [], t => by simp [newIn]
  | (u, o) :: l, t => by
    simp only [newIn]
    split
    · rename_i hc
      have hc : u ∈ ts := by simpa using hc
      rw [newIn_iff]
      constructor
      · rintro ⟨h1, o', h2⟩; exact ⟨h1, o', by simp [h2]⟩
      · rintro ⟨h1, o', h2⟩
        refine ⟨h1, o', ?_⟩
        rcases List.mem_cons.1 h2 with e | h2
        · cases e; exact absurd hc h1
        · exact h2
    · rename_i hc
      have hc : u ∉ ts := by simpa using hc
      rw [List.mem_cons, newIn_iff]
      constructor
      · rintro (rfl | ⟨h1, o', h2⟩)
        · exact ⟨hc, o, by simp⟩
        · exact ⟨h1, o', by simp [h2]⟩
      · rintro ⟨h1, o', h2⟩
        rcases List.mem_cons.1 h2 with e | h2
        · cases e; exact .inl rfl
        · exact .inr ⟨h1, o', h2⟩

theorem noneIn_spec {ts : List Tok} {l : Hl} (h : noneIn ts l = true) : ∀ t o, (t, o) ∈ l → t ∉ ts := fun t o hm => by
  have := List.all_eq_true.1 h (t, o) hm
  simpa using this

theorem get_mem : ∀ {l : Hl} {u : Tok} {o : AObj}, l.get u = some o → (u, o) ∈ l
  | [], _, _, h => by simp [Hl.get] at h
  | (v, o') :: l, u, o, h => by
    simp only [Hl.get] at h
    split at h
    · rename_i e; cases h; subst e; simp
    · exact List.mem_cons_of_mem _ (get_mem h)

theorem addNew_mem {S : Tok → Prop} : ∀ {ts acc : List Tok}, (∀ t ∈ acc, S t) → (∀ t ∈ ts, S t) → ∀ t ∈ addNew acc ts, S t
  | [], acc, ha, _, t, ht => ha t ht
  | u :: us, acc, ha, hs, t, ht => by
    simp only [addNew] at ht
    refine addNew_mem (ts := us) ?_ (fun x hx => hs x (by simp [hx])) t ht
    intro x hx
    split at hx
    · exact ha x hx
    · rcases List.mem_append.1 hx with hx | hx
      · exact ha x hx
      · simp at hx; subst hx; exact hs _ (by simp)

theorem reachGo_mem {S : Tok → Prop} (ho : ∀ u o, h u = some o → ∀ t ∈ o.toks, S t) : ∀ {n i : Nat} {acc : List Tok}, (∀ t ∈ acc, S t) → ∀ t ∈ reachGo h n i acc, S t
  | 0, i, acc, ha, t, ht => ha t ht
  | n + 1, i, acc, ha, t, ht => by
    simp only [reachGo] at ht
    split at ht
    · exact ha t ht
    · rename_i u hu
      refine reachGo_mem ho ?_ t ht
      intro x hx
      split at hx
      · rename_i o hob; exact addNew_mem ha (ho u o hob) x hx
      · exact ha x hx

theorem reach_mem {S : Tok → Prop} (ho : ∀ u o, h u = some o → ∀ t ∈ o.toks, S t) {args : List DV} (ha : ∀ t ∈ toksL args, S t) : ∀ t ∈ reach h args, S t :=
  reachGo_mem ho (addNew_mem (fun _ h => by cases h) ha)

theorem call_ok (hΓ : ∀ f sp, Γ f = some sp → FnOk P W0 f sp) (r : Rel W0 ρ F h w) {d : Option Nat} {f : FuncId} {args : List DV} {e : Eff} (he : callEff Γ d h f args = some e) {vs : Array Value} (hv : RepL ρ F h w args vs.toList)
    (hfr : ∀ t ∈ newIn e.reads e.upds, (∀ u, T u → u ≠ t) ∧ ∀ u o, h u = some o → t ∉ o.toks) :
    CallOk P W0 T ρ F h w e f vs ∧ ∀ (args : Array Value) (w : World), (callFunc f args).run P w = .ok (.enter f args) w := by
  unfold callEff at he
  split at he
  · cases he
  · rename_i sp hsp
    have hok := hΓ f sp hsp
    refine ⟨?_, hok.1⟩
    split at he
    · rename_i hp
      split at he
      · cases he
      · rename_i p hres
        split at he
        · rename_i q hq
          split at he
          · rename_i hcl
            cases he
            exact ok_call_pure r hok hp hres hq hcl hv
          · cases he
        · cases he
    · rename_i hp
      simp only at he
      split at he
      · rename_i hc
        simp only [Bool.and_eq_true] at hc
        split at he
        · rename_i h0 dd h0e
          split at he
          · rename_i q hq
            split at he
            · rename_i l hl
              split at he
              · rename_i hok2
                simp only [Bool.and_eq_true] at hok2
                cases he
                obtain ⟨_, c1⟩ := And.intro trivial (backNew_get (ts := reach h args) (d := dd) q.2)
                have hnew : ∀ u, isIn u = false → (q.2.get u).isSome = true → (∃ o, ((dd + 1) :: u, o) ∈ backNew (outName (reach h args) dd) q.2) := fun u h1 h2 => by
                  have := c1.1 u h1
                  cases hg : q.2.get u with
                  | none => simp [hg] at h2
                  | some o => rw [hg] at this; exact ⟨_, get_mem this⟩
                have hn : ∀ u, isIn u = false → (q.2.get u).isSome = true → (dd + 1) :: u ∈ newIn (reach h args) ((l ++ backNew (outName (reach h args) dd) q.2).reverse) := fun u h1 h2 => by
                  obtain ⟨o, ho⟩ := hnew u h1 h2
                  exact newIn_iff.2 ⟨noneIn_spec hok2.2 _ o ho, o, by simp [ho]⟩
                exact ok_call_imp r hok (by simpa using hp) hc.1 hc.2 h0e hq hl hok2.1.1 hok2.1.2 hv (fun t ht u h1 h2 => (hfr _ (hn u h1 h2)).1 t ht)
                  (fun v o ho t ht u h1 h2 e => (hfr _ (hn u h1 h2)).2 v o ho (e ▸ ht))
                  (fun t ht u h1 h2 e => by obtain ⟨o, ho⟩ := hnew u h1 h2; exact noneIn_spec hok2.2 _ o ho (e ▸ ht))
              · cases he
            · cases he
          · cases he
        · cases he
      · cases he
end
end Go.Di
