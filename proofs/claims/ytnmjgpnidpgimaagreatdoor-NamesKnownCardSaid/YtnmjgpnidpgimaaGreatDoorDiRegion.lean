/- Regions of operations, in the order of the text. -/
import Derived.Test.YtnmjgpnidpgimaaGreatDoorDiToks
namespace Go.Di
open Go.RowKit
set_option linter.unusedSectionVars false
set_option linter.unusedSimpArgs false
set_option linter.unusedVariables false

structure DOper where
  dst : Option Nat
  op : DOp
  grd : Option (Nat × Bool)

def digOper (P : Program) (ops : Array Oper) (o : Oper) : Option DOper :=
  match digOp P o.op with
  | none => none
  | some d => match o.guard with
    | none => some ⟨o.dst, d, none⟩
    | some (j, want) => match (ops[j]?).bind (·.dst) with
      | some s => some ⟨o.dst, d, some (s, want)⟩
      | none => none

def setEnv (g : Env) (d : Option Nat) (v : DV) : Env := match d with
  | some n => fun m => if m = n then v else g m
  | none => g

def gWant (grd : Option (Nat × Bool)) (g : Env) : Option Bool := match grd with
  | none => some true
  | some (s, want) => match g s with
    | .sc (.bool b) => some (b == want)
    | .tup _ => some false
    | _ => none

/-- What an operation comes to; none: it is not carried out. -/
def opStep (P : Program) (Γ : Gam) (o : DOper) (g : Env) (h : Hp) : Option (Option Eff) :=
  match gWant o.grd g with
  | some true => (opEff P Γ o.dst (getOpd g) h o.op).map some
  | some false => some none
  | none => none

def Out.dv : Out → DV
  | .ret d => d
  | .pnc d => d

/-- What is left in the slot. -/
def resVal : Option Eff → DV
  | some e => e.out.dv
  | none => .tup []
def resUpds : Option Eff → Hl
  | some e => e.upds
  | none => []
def resReads : Option Eff → List Tok
  | some e => e.reads
  | none => []
def resPanics : Option Eff → Bool
  | some e => match e.out with | .pnc _ => true | _ => false
  | none => false

structure Inv (W0 : World) (ρ : Rho) (F : Nat → Prop) (g : Env) (h : Hp) (N : Nat) (a : Act) (w : World) : Prop where
  rel : Rel W0 ρ F h w
  env : RepEnv ρ F h w g a
  size : a.tmps.size = N

/-- The names that an operation of a region made. -/
def madeOf (o : DOper) (g : Env) (r : Option Eff) : List Tok := match r with
  | some e => made o.dst (getOpd g) o.op e
  | none => []

/-- All that an operation makes is in nobody's hands. -/
def FreshOp (o : DOper) (g : Env) (h : Hp) (r : Option Eff) : Prop := ∀ t ∈ madeOf o g r, FreshTok t g h

section
variable {P : Program} {W0 : World} {ρ : Rho} {F : Nat → Prop} {g : Env} {h : Hp} {w : World} {Γ : Gam} {N : Nat}

theorem setEnv_toks {d : Option Nat} {v : DV} {S : Tok → Prop} (hg : ∀ n, ∀ t ∈ toks (g n), S t) (hv : ∀ t ∈ toks v, S t) : ∀ n, ∀ t ∈ toks (setEnv g d v n), S t := fun n t ht => by
  unfold setEnv at ht
  split at ht
  · split at ht
    · exact hv t ht
    · exact hg n t ht
  · exact hg n t ht

theorem app_obj {S : Tok → AObj → Prop} : ∀ {l : Hl} {h : Hp}, (∀ u o, h u = some o → S u o) → (∀ u o, (u, o) ∈ l → S u o) → ∀ u o, l.app h u = some o → S u o
  | [], h, h1, _, u, o, hu => h1 u o hu
  | (t, o') :: l, h, h1, h2, u, o, hu => by
    refine app_obj (l := l) (fun u o hu => ?_) (fun u o hm => h2 u o (by simp [hm])) u o hu
    by_cases e : u = t
    · subst e; rw [Hp.set_same] at hu; cases hu; exact h2 _ _ (by simp)
    · rw [Hp.set_ne _ _ e] at hu; exact h1 u o hu

theorem app_ne : ∀ {l : Hl} {h : Hp} {t : Tok}, (∀ u o, (u, o) ∈ l → u ≠ t) → l.app h t = h t
  | [], _, _, _ => rfl
  | (u, o) :: l, h, t, hn => by
    rw [Hl.app, app_ne fun u o hm => hn u o (by simp [hm])]
    exact Hp.set_ne _ _ (Ne.symm (hn u o (by simp)))

theorem put_env {a : Act} {d : Option Nat} {v : DV} {x : Value} (hg : RepEnv ρ F h w g a) (hv : RepV ρ F h w v x) (hd : ∀ n, d = some n → n < a.tmps.size) : RepEnv ρ F h w (setEnv g d v) (a.put d x) := fun n => by
  cases d with
  | none => exact hg n
  | some m =>
    simp only [setEnv, Act.put]
    by_cases e : n = m
    · subst e
      have := hd n rfl
      simp only [if_true, Array.getD_eq_getD_getElem?, Array.getElem?_setIfInBounds_self_of_lt this, Option.getD_some]
      exact hv
    · simp only [if_neg e, Array.getD_eq_getD_getElem?, Array.getElem?_setIfInBounds_ne (Ne.symm e)]
      simpa [Array.getD_eq_getD_getElem?] using hg n

theorem put_size (a : Act) (d : Option Nat) (x : Value) : (a.put d x).tmps.size = a.tmps.size := by
  cases d <;> simp [Act.put]

theorem digOper_spec {ops : Array Oper} {o : Oper} {d : DOper} (hd : digOper P ops o = some d) : digOp P o.op = some d.op ∧ d.dst = o.dst ∧
    (∀ (a : Act) b, RepEnv ρ F h w g a → gWant d.grd g = some b → Region.wanted o (yielded ops a.tmps) = b) := by
  unfold digOper at hd
  split at hd
  · cases hd
  · rename_i dop hop
    split at hd
    · rename_i hgd
      cases hd
      refine ⟨hop, rfl, fun a b _ hb => ?_⟩
      simp only [gWant, Option.some.injEq] at hb
      subst hb
      simp [Region.wanted, hgd]
    · rename_i j want hgd
      split at hd
      · rename_i s hs
        cases hd
        refine ⟨hop, rfl, fun a b hg hb => ?_⟩
        simp only [gWant] at hb
        split at hb
        · rename_i b' hb'
          cases hb
          have := hg s
          rw [hb'] at this
          have hv := rep_sc this
          have hx : a.tmps[s]? = some (.bool b') := by
            rw [Array.getD_eq_getD_getElem?] at hv
            cases hq : a.tmps[s]? with
            | none => rw [hq] at hv; cases hv
            | some q => rw [hq] at hv; simp at hv; rw [hv]
          simp only [Region.wanted, hgd, yielded, hs, Option.bind_some, hx]
          cases b' <;> cases want <;> rfl
        · rename_i u hb'
          cases hb
          have := hg s
          rw [hb'] at this
          simp only [RepV] at this
          obtain ⟨v, hv, _⟩ := this
          simp only [Region.wanted, hgd, yielded, hs, Option.bind_some]
          rw [Array.getD_eq_getD_getElem?] at hv
          cases hq : a.tmps[s]? with
          | none => rfl
          | some q => rw [hq] at hv; simp only [Option.getD_some] at hv; subst hv; rfl
        · cases hb
      · cases hd

/-- The constants of what was translated are closed, and so are its operands' constants. -/
theorem digOpd_con {x : Operand} {d : DOpd} (hd : digOpd x = some d) : ∀ z, d = .con z → closed z = true := fun z hz => by
  subst hz
  cases x with
  | tmp t => simp [digOpd] at hd
  | const v =>
    simp only [digOpd, Option.map_eq_some_iff] at hd
    obtain ⟨dv, h1, h2⟩ := hd
    cases h2
    exact (ofVal_rep (ρ := fun _ => none) (F := fun _ => False) (h := fun _ => none) (w := default) h1).2
  | func f => simp only [digOpd, Option.some.injEq] at hd; cases hd; rfl
  | global n => simp [digOpd] at hd

def ConOk (d : DOpd) : Prop := ∀ z, d = .con z → closed z = true

theorem digOpds_con : ∀ {xs : List Operand} {ds : List DOpd}, digOpds xs = some ds → ∀ d ∈ ds, ConOk d
  | [], ds, hd, d, hm => by simp only [digOpds, Option.some.injEq] at hd; subst hd; cases hm
  | x :: xs, ds, hd, d, hm => by
    simp only [digOpds] at hd
    split at hd
    · rename_i d0 ds0 h1 h2
      cases hd
      rcases List.mem_cons.1 hm with rfl | hm
      · exact digOpd_con h1
      · exact digOpds_con h2 d hm
    · cases hd

theorem digOpt_con {x : Option Operand} {d : Option DOpd} (hd : digOpt x = some d) : ∀ y ∈ d.toList, ConOk y := fun y hy => by
  cases x with
  | none => simp only [digOpt, Option.some.injEq] at hd; subst hd; simp at hy
  | some x =>
    simp only [digOpt, Option.map_eq_some_iff] at hd
    obtain ⟨dv, h1, rfl⟩ := hd
    simp at hy
    subst hy
    exact digOpd_con h1

theorem digParts_con {place : Nat → Option (Nat × Nat)} : ∀ {ps : List (Nat × Operand)} {ds : List (Nat × Nat × DOpd)}, digParts place ps = some ds → ∀ d ∈ ds.map (·.2.2), ConOk d
  | [], ds, hd, d, hm => by simp only [digParts, Option.some.injEq] at hd; subst hd; cases hm
  | (i, x) :: ps, ds, hd, d, hm => by
    simp only [digParts] at hd
    split at hd
    · rename_i off n d0 ds0 h1 h2 h3
      cases hd
      simp only [List.map_cons, List.mem_cons] at hm
      rcases hm with rfl | hm
      · exact digOpd_con h2
      · exact digParts_con h3 d hm
    · cases hd

theorem digElems_con : ∀ {ps : List (Nat × Operand)} {ds : List (Nat × DOpd)}, digElems ps = some ds → ∀ d ∈ ds.map (·.2), ConOk d
  | [], ds, hd, d, hm => by simp only [digElems, Option.some.injEq] at hd; subst hd; cases hm
  | (i, x) :: ps, ds, hd, d, hm => by
    simp only [digElems] at hd
    split at hd
    · rename_i d0 ds0 h1 h2
      cases hd
      simp only [List.map_cons, List.mem_cons] at hm
      rcases hm with rfl | hm
      · exact digOpd_con h1
      · exact digElems_con h2 d hm
    · cases hd

theorem zeroTy_closed {t : TypeId} {z : DV} (hz : zeroTy P t = some z) : closed z = true := by
  obtain ⟨_, _, _, h3, _⟩ := zeroTy_run (P := P) (w := default) (ρ := fun _ => none) (F := fun _ => False) (h := fun _ => none) hz
  exact h3

theorem closed_cells {z : DV} (hz : closed z = true) : ∀ x ∈ z.cells, closed x = true := fun x hx => by
  cases z with
  | agg cs => simp only [closed] at hz; exact closedL_mem hz hx
  | _ => simp only [DV.cells, List.mem_singleton] at hx; subst hx; exact hz

theorem digX_con {op : Op} {k : XOp} {ds : List DOpd} (hd : digX P op = some (k, ds)) : (∀ x ∈ ds, ConOk x) ∧ ∀ z ∈ cst (.ex k ds), closed z = true := by
  unfold digX at hd
  split at hd <;> try (cases hd; done)
  · unfold digNil at hd
    split at hd <;> try (cases hd; done)
    split at hd <;> try (cases hd; done)
    simp only [Option.map_eq_some_iff, Prod.mk.injEq] at hd
    obtain ⟨dx, hx, rfl, rfl⟩ := hd
    exact ⟨fun y hy => by simp at hy; subst hy; exact digOpd_con hx, fun z hz => by cases hz⟩
  · cases hd
    exact ⟨(fun y hy => by cases hy), fun z hz => by cases hz⟩
  · split at hd <;> try (cases hd; done)
    split at hd <;> try (cases hd; done)
    rename_i h1 h2 h3 h4
    cases hd
    refine ⟨fun y hy => ?_, fun z hz => by simp [cst] at hz; subst hz; exact zeroTy_closed h2⟩
    simp only [List.mem_cons, List.not_mem_nil, or_false] at hy
    rcases hy with rfl | rfl
    · exact digOpd_con h3
    · exact digOpd_con h4
  · split at hd <;> try (cases hd; done)
    split at hd <;> try (cases hd; done)
    rename_i h1 h2 h3 h4
    cases hd
    refine ⟨fun y hy => ?_, fun z hz => by cases hz⟩
    simp only [List.mem_cons, List.not_mem_nil, or_false] at hy
    rcases hy with rfl | rfl | rfl
    · exact digOpd_con h2
    · exact digOpd_con h3
    · exact digOpd_con h4
  · split at hd <;> try (cases hd; done)
    split at hd <;> try (cases hd; done)
    simp only [Option.map_eq_some_iff, Prod.mk.injEq] at hd
    obtain ⟨dx, hx, rfl, rfl⟩ := hd
    exact ⟨fun y hy => by simp at hy; subst hy; exact digOpd_con hx, fun z hz => by cases hz⟩
  · split at hd <;> try (cases hd; done)
    all_goals
      split at hd <;> try (cases hd; done)
      split at hd <;> try (cases hd; done)
      rename_i h1 h2 h3
      cases hd
      refine ⟨fun y hy => ?_, fun z hz => by cases hz⟩
      simp only [List.mem_cons, List.not_mem_nil, or_false] at hy
      rcases hy with rfl | rfl | rfl
      · exact digOpd_con h1
      · exact digOpd_con h2
      · exact digOpd_con h3

theorem dig_con {op : Op} {dop : DOp} (hd : digOp P op = some dop) : (∀ x ∈ opds dop, ConOk x) ∧ ∀ z ∈ cst dop, closed z = true := by
  cases hX : digX P op with
  | some p =>
    obtain ⟨k, ds⟩ := p
    simp only [digOp, hX, Option.some.injEq] at hd
    subst hd
    exact digX_con hX
  | none =>
  replace hd : digOp0 P op = some dop := by simpa only [digOp, hX] using hd
  clear hX
  cases op <;> simp only [digOp0] at hd <;> try (cases hd; done)
  case move x => simp only [Option.map_eq_some_iff] at hd; obtain ⟨d, h1, rfl⟩ := hd; exact ⟨fun y hy => by simp [opds] at hy; subst hy; exact digOpd_con h1, fun z hz => by cases hz⟩
  case assign x => simp only [Option.map_eq_some_iff] at hd; obtain ⟨d, h1, rfl⟩ := hd; exact ⟨fun y hy => by simp [opds] at hy; subst hy; exact digOpd_con h1, fun z hz => by cases hz⟩
  case pick c a b =>
    split at hd
    · rename_i h1 h2 h3
      cases hd
      refine ⟨fun y hy => ?_, fun z hz => by cases hz⟩
      simp only [opds, List.mem_cons, List.not_mem_nil, or_false] at hy
      rcases hy with rfl | rfl | rfl
      · exact digOpd_con h1
      · exact digOpd_con h2
      · exact digOpd_con h3
    · cases hd
  case alloc t => simp only [Option.map_eq_some_iff] at hd; obtain ⟨z, h1, rfl⟩ := hd; exact ⟨(fun y hy => by cases hy), closed_cells (zeroTy_closed h1)⟩
  case box t x => simp only [Option.map_eq_some_iff] at hd; obtain ⟨d, h1, rfl⟩ := hd; exact ⟨fun y hy => by simp [opds] at hy; subst hy; exact digOpd_con h1, fun z hz => by cases hz⟩
  case build t ps =>
    split at hd
    · rename_i z place h1 h2
      simp only [Option.map_eq_some_iff] at hd
      obtain ⟨ds, h3, rfl⟩ := hd
      exact ⟨digParts_con h3, closed_cells (zeroTy_closed h1)⟩
    · cases hd
  case buildSlice t n ps =>
    split at hd
    · split at hd
      · rename_i sz z ds h1 h2 h3
        split at hd
        · cases hd
          exact ⟨digElems_con h3, fun z hz => by simp [cst] at hz; subst hz; exact zeroTy_closed h2⟩
        · cases hd
      · cases hd
    · cases hd
  case load t x =>
    split at hd
    · rename_i h1 h2; cases hd; exact ⟨fun y hy => by simp [opds] at hy; subst hy; exact digOpd_con h2, fun z hz => by cases hz⟩
    · cases hd
  case store t x y =>
    split at hd
    · rename_i h1 h2 h3
      cases hd
      refine ⟨fun y hy => ?_, fun z hz => by cases hz⟩
      simp only [opds, List.mem_cons, List.not_mem_nil, or_false] at hy
      rcases hy with rfl | rfl
      · exact digOpd_con h2
      · exact digOpd_con h3
    · cases hd
  case nilCheck x => simp only [Option.map_eq_some_iff] at hd; obtain ⟨d, h1, rfl⟩ := hd; exact ⟨fun y hy => by simp [opds] at hy; subst hy; exact digOpd_con h1, fun z hz => by cases hz⟩
  case binOp op t x y yt =>
    unfold digBin at hd
    split at hd
    · rename_i h1 h2
      cases hd
      refine ⟨fun y hy => ?_, fun z hz => by cases hz⟩
      simp only [opds, List.mem_cons, List.not_mem_nil, or_false] at hy
      rcases hy with rfl | rfl
      · exact digOpd_con h1
      · exact digOpd_con h2
    · cases hd
  case unOp op t x => simp only [Option.map_eq_some_iff] at hd; obtain ⟨d, h1, rfl⟩ := hd; exact ⟨fun y hy => by simp [opds] at hy; subst hy; exact digOpd_con h1, fun z hz => by cases hz⟩
  case convert s t x =>
    split at hd
    · rename_i h1 h2 h3; cases hd; exact ⟨fun y hy => by simp [opds] at hy; subst hy; exact digOpd_con h3, fun z hz => by cases hz⟩
    · rename_i h1 h2 h3; cases hd; exact ⟨fun y hy => by simp [opds] at hy; subst hy; exact digOpd_con h3, fun z hz => by cases hz⟩
    · cases hd
  case makeInterface t x =>
    split at hd
    · simp only [Option.map_eq_some_iff] at hd; obtain ⟨d, h1, rfl⟩ := hd; exact ⟨fun y hy => by simp [opds] at hy; subst hy; exact digOpd_con h1, fun z hz => by cases hz⟩
    · cases hd
  case makeFunc f a b =>
    split at hd
    · rename_i h1 h2
      cases hd
      refine ⟨fun y hy => ?_, fun z hz => by cases hz⟩
      simp only [opds, List.mem_append] at hy
      rcases hy with hy | hy
      · exact digOpds_con h1 y hy
      · exact digOpds_con h2 y hy
    · cases hd
  case slice t x lo hi mx =>
    split at hd
    · rename_i h1 h2 h3 h4 h5
      cases hd
      refine ⟨fun y hy => ?_, fun z hz => by cases hz⟩
      simp only [opds, List.mem_append, List.mem_cons] at hy
      rcases hy with (rfl | hy) | hy
      · exact digOpd_con h2
      · exact digOpt_con h3 y hy
      · exact digOpt_con h4 y hy
    · rename_i h1 h2 h3 h4 h5
      split at hd
      · split at hd
        · cases hd
          refine ⟨fun y hy => ?_, fun z hz => by cases hz⟩
          simp only [opds, List.mem_append, List.mem_cons] at hy
          rcases hy with ((rfl | hy) | hy) | hy
          · exact digOpd_con h2
          · exact digOpt_con h3 y hy
          · exact digOpt_con h4 y hy
          · exact digOpt_con h5 y hy
        · cases hd
      · cases hd
    · cases hd
  case fieldAddr s x i =>
    split at hd
    · rename_i h1 h2
      split at hd
      · split at hd
        · cases hd; exact ⟨fun y hy => by simp [opds] at hy; subst hy; exact digOpd_con h2, fun z hz => by cases hz⟩
        · cases hd
      · cases hd
    · cases hd
  case field s x i =>
    split at hd
    · rename_i h1 h2
      split at hd
      · simp only [Option.map_eq_some_iff] at hd
        obtain ⟨k, _, rfl⟩ := hd
        exact ⟨fun y hy => by simp [opds] at hy; subst hy; exact digOpd_con h2, fun z hz => by cases hz⟩
      · cases hd
    · cases hd
  case indexAddr t x i =>
    split at hd
    · rename_i h1 h2 h3
      simp only [Option.map_eq_some_iff] at hd
      obtain ⟨sz, _, rfl⟩ := hd
      refine ⟨fun y hy => ?_, fun z hz => by cases hz⟩
      simp only [opds, List.mem_cons, List.not_mem_nil, or_false] at hy
      rcases hy with rfl | rfl
      · exact digOpd_con h2
      · exact digOpd_con h3
    · cases hd
  case index t x i =>
    split at hd
    · rename_i h1 h2 h3
      cases hd
      refine ⟨fun y hy => ?_, fun z hz => by cases hz⟩
      simp only [opds, List.mem_cons, List.not_mem_nil, or_false] at hy
      rcases hy with rfl | rfl
      · exact digOpd_con h2
      · exact digOpd_con h3
    · cases hd
  case typeAssert x xt t ok =>
    split at hd
    · split at hd
      · rename_i h1 h2
        cases hd
        exact ⟨fun y hy => by simp [opds] at hy; subst hy; exact digOpd_con h2, fun z hz => by simp [cst] at hz; subst hz; exact zeroTy_closed h1⟩
      · cases hd
    · cases hd
  case extract x i => simp only [Option.map_eq_some_iff] at hd; obtain ⟨d, h1, rfl⟩ := hd; exact ⟨fun y hy => by simp [opds] at hy; subst hy; exact digOpd_con h1, fun z hz => by cases hz⟩
  case range t x =>
    split at hd
    · rename_i h1 h2; cases hd; exact ⟨fun y hy => by simp [opds] at hy; subst hy; exact digOpd_con h2, fun z hz => by cases hz⟩
    · cases hd
  case next x s =>
    cases s with
    | false => simp [digOp] at hd
    | true => simp only [Option.map_eq_some_iff] at hd; obtain ⟨d, h1, rfl⟩ := hd; exact ⟨fun y hy => by simp [opds] at hy; subst hy; exact digOpd_con h1, fun z hz => by cases hz⟩
  case panic x => simp only [Option.map_eq_some_iff] at hd; obtain ⟨d, h1, rfl⟩ := hd; exact ⟨fun y hy => by simp [opds] at hy; subst hy; exact digOpd_con h1, fun z hz => by cases hz⟩
  case call c =>
    unfold digCall at hd
    split at hd
    · simp only [Option.map_eq_some_iff] at hd; obtain ⟨ds, h1, rfl⟩ := hd; exact ⟨digOpds_con h1, fun z hz => by cases hz⟩
    · split at hd
      · rename_i h1 h2
        cases hd
        refine ⟨fun y hy => ?_, fun z hz => by cases hz⟩
        simp only [opds, List.mem_cons] at hy
        rcases hy with rfl | hy
        · exact digOpd_con h1
        · exact digOpds_con h2 y hy
      · cases hd
    · split at hd
      · split at hd
        · rename_i h1 h2 h3 h4
          split at hd
          · split at hd
            · cases hd
              refine ⟨fun y hy => ?_, fun z hz => by cases hz⟩
              simp only [opds, List.mem_cons, List.not_mem_nil, or_false] at hy
              rcases hy with rfl | rfl
              · exact digOpd_con h3
              · exact digOpd_con h4
            · cases hd
          · cases hd
        · cases hd
      · cases hd
    · split at hd
      · split at hd
        · rename_i h1 h2; cases hd; exact ⟨fun y hy => by simp [opds] at hy; subst hy; exact digOpd_con h2, fun z hz => by cases hz⟩
        · rename_i h1 h2; cases hd; exact ⟨fun y hy => by simp [opds] at hy; subst hy; exact digOpd_con h2, fun z hz => by cases hz⟩
        · cases hd
      · cases hd
    · split at hd
      · split at hd
        · rename_i h1 h2
          cases hd
          refine ⟨fun y hy => ?_, fun z hz => by cases hz⟩
          simp only [opds, List.mem_cons, List.not_mem_nil, or_false] at hy
          rcases hy with rfl | rfl
          · exact digOpd_con h1
          · exact digOpd_con h2
        · cases hd
      · cases hd
    · split at hd
      · split at hd
        · rename_i h1 h2
          cases hd
          refine ⟨fun y hy => ?_, fun z hz => by cases hz⟩
          simp only [opds, List.mem_cons, List.not_mem_nil, or_false] at hy
          rcases hy with rfl | rfl
          · exact digOpd_con h1
          · exact digOpd_con h2
        · cases hd
      · cases hd
    · cases hd

theorem conOk_toks {d : DOpd} {S : Tok → Prop} (hc : ConOk d) (hg : ∀ n, ∀ t ∈ toks (g n), S t) : ∀ t ∈ toks (getOpd g d), S t := by
  cases d with
  | tmp n => exact hg n
  | con z => intro t ht; simp only [getOpd] at ht; rw [toks_closed _ (hc z rfl)] at ht; cases ht

mutual
theorem closed_wf : ∀ {d : DV}, closed d = true → wf d = true
  | .sc _, _ => rfl
  | .ptr .., h => by simp [closed] at h
  | .rptr .., h => by simp [closed] at h
  | .row .., h => by simp [closed] at h
  | .map _, h => by simp [closed] at h
  | .any, h => by simp [closed] at h
  | .pref cs, h => by simpa [closed, wf] using h
  | .lst sz xs k, h => by simpa [closed, wf] using h
  | .fn f a b, h => by simp only [closed, wf, Bool.and_eq_true] at *; exact ⟨closedL_wf h.1, closedL_wf h.2⟩
  | .iface ty d, h => by simp only [closed, wf] at *; exact closed_wf h
  | .agg cs, h => by simp only [closed, wf] at *; exact closedL_wf h
  | .tup cs, h => by simp only [closed, wf] at *; exact closedL_wf h
theorem closedL_wf : ∀ {l : List DV}, closedL l = true → wfL l = true
  | [], _ => rfl
  | d :: ds, h => by simp only [closedL, wfL, Bool.and_eq_true] at *; exact ⟨closed_wf h.1, closedL_wf h.2⟩
end

theorem conOk_wf {d : DOpd} {a : Act} (hc : ConOk d) (hg : RepEnv ρ F h w g a) : wf (getOpd g d) = true := by
  cases d with
  | tmp n => exact rep_wf (hg n)
  | con z => exact closed_wf (hc z rfl)

/-- What is fresh stays so for the operations to come. -/
theorem fresh_step {o : DOper} {op : Op} (hd : digOp P op = some o.op) {a : Act} (inv : Inv W0 ρ F g h N a w) {r : Option Eff} (hr : opStep P Γ o g h = some r) {t : Tok} (hf : FreshTok t g h)
    (hne : t ∉ madeOf o g r) : FreshTok t (setEnv g o.dst (resVal r)) ((resUpds r).app h) := by
  unfold opStep at hr
  split at hr
  · rename_i hw
    simp only [Option.map_eq_some_iff] at hr
    obtain ⟨e, he, rfl⟩ := hr
    obtain ⟨c1, c2⟩ := dig_con hd
    obtain ⟨t1, t2, _⟩ := opEff_toks (S := fun u => u ≠ t) he c2 (fun x hx => conOk_toks (c1 x hx) (fun n u hu e => hf.env n (e ▸ hu))) (fun x hx => conOk_wf (c1 x hx) inv.env) (rel_rows inv.rel) (fun u o ho x hx e => hf.obj u o ho (e ▸ hx))
      (fun u hu e => hne (e ▸ hu))
    refine ⟨fun n hn => setEnv_toks (S := fun u => u ≠ t) (fun n u hu e => hf.env n (e ▸ hu)) ?_ n t hn rfl, fun u ob hu hm => ?_⟩
    · simp only [resVal]; cases ho : e.out <;> simpa [Out.dv, ho, Out.toks] using t1
    · exact app_obj (S := fun _ o => ∀ x ∈ o.toks, x ≠ t) (fun u o ho x hx e => hf.obj u o ho (e ▸ hx)) t2 u ob hu t hm rfl
  · cases hr
    exact ⟨fun n hn => setEnv_toks (S := fun u => u ≠ t) (fun n u hu e => hf.env n (e ▸ hu)) (fun u hu => by simp [resVal, toks, toksL] at hu) n t hn rfl, hf.obj⟩
  · cases hr

/-- One operation of a region. -/
theorem oper_wp (hΓ : ∀ f sp, Γ f = some sp → FnOk P W0 f sp) {ops : Array Oper} {i : Nat} {o : Oper} (hi : ops[i]? = some o) {d : DOper} (hd : digOper P ops o = some d) {a : Act} (inv : Inv W0 ρ F g h N a w) {r : Option Eff} (hr : opStep P Γ d g h = some r)
    (hf : FreshOp d g h r) (hN : ∀ n, d.dst = some n → n < N) {K : Act → World → Prop} {Q : Exit → Act → World → Prop}
    (hK : resPanics r = false → ∀ a' w' ρ' F', a'.defers = a.defers → Inv W0 ρ' F' (setEnv g d.dst (resVal r)) ((resUpds r).app h) N a' w' → Ext ρ F h w ρ' F' ((resUpds r).app h) w' → Keep (fun t => FreshOp d g h r → t ∉ madeOf d g r) ρ F h w ρ' F' ((resUpds r).app h) w' → K a' w')
    (hQ : resPanics r = true → ∀ v w' ρ' F', Rel W0 ρ' F' ((resUpds r).app h) w' → Ext ρ F h w ρ' F' ((resUpds r).app h) w' → Keep (fun t => FreshOp d g h r → t ∉ madeOf d g r) ρ F h w ρ' F' ((resUpds r).app h) w' → RepV ρ' F' ((resUpds r).app h) w' (resVal r) v → RepEnv ρ' F' ((resUpds r).app h) w' g a → Q (.panic [{ v, recovered := false }]) a w') :
    wpOp P ops Q i K a w := by
  obtain ⟨d1, d2, d3⟩ := digOper_spec (ρ := ρ) (F := F) (g := g) (h := h) (w := w) hd
  unfold wpOp
  rw [hi]
  simp only
  unfold opStep at hr
  split at hr
  · rename_i hw
    simp only [Option.map_eq_some_iff] at hr
    obtain ⟨e, he, rfl⟩ := hr
    rw [d3 a true inv.env hw]
    simp only [if_true]
    refine .inl ?_
    rw [d2] at he
    have hTT : ∀ n, ∀ t ∈ toks (g n), (fun t => FreshOp d g h (some e) → t ∉ madeOf d g (some e)) t := fun n t ht hf hm => (hf t hm).env n ht
    refine op_wp (T := fun t => FreshOp d g h (some e) → t ∉ madeOf d g (some e)) hΓ d1 he inv.rel inv.env hTT (fun t ht => by
      have hm : t ∈ madeOf d g (some e) := by simp only [madeOf]; rw [d2]; exact ht
      exact ⟨hf t hm, fun u hu e => hu hf (e ▸ hm)⟩) ?_ ?_
    · intro dv v w' ρ' F' hout hg hv
      refine hK (by simp [resPanics, hout]) _ w' ρ' F' (by cases ho : o.dst <;> rfl) ⟨hg.rel, ?_, by rw [put_size]; exact inv.size⟩ hg.ext hg.keep
      simp only [resVal, hout, Out.dv, resUpds]
      rw [d2]
      exact put_env (fun n => RepV.keep hg.keep _ _ (hTT n) (inv.env n)) hv (fun n hn => by rw [inv.size]; exact hN n (by rw [d2]; exact hn))
    · intro dv v w' ρ' F' hout hg hv
      refine hQ (by simp [resPanics, hout]) v w' ρ' F' hg.rel hg.ext hg.keep ?_ (fun n => RepV.keep hg.keep _ _ (hTT n) (inv.env n))
      simp only [resVal, hout, Out.dv, resUpds]
      exact hv
  · rename_i hw
    cases hr
    rw [d3 a false inv.env hw]
    simp only [Bool.false_eq_true, if_false]
    refine hK rfl _ w ρ F (by cases ho : o.dst <;> rfl) ⟨inv.rel, ?_, by rw [put_size]; exact inv.size⟩ (Ext.refl ..) (Keep.refl ..)
    simp only [resVal]
    rw [d2]
    exact put_env inv.env (by simp only [RepV]; exact ⟨#[], rfl, by simp [RepL]⟩) (fun n hn => by rw [inv.size]; exact hN n (by rw [d2]; exact hn))
  · cases hr
end
end Go.Di
