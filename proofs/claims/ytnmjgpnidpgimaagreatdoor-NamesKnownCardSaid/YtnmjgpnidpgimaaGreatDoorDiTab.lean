/- Tables of functions. -/
import Derived.Test.YtnmjgpnidpgimaaGreatDoorDiDefer
namespace Go.Di
open Go.RowKit
set_option linter.unusedVariables false

inductive Row where
  | fn (df : DFn)
  | spl (df : DFn)
  | dfr (df : DFnD)
  | ext (sp : FSpec)

/-- An empty slice, wherever it is. -/
def emptyOf : List DV → Option Nat
  | [.lst sz [] .ro] => some sz
  | [.lst sz [] .full] => some sz
  | [.row sz _ _ _ 0] => some sz
  | _ => none

/-- What fits both: nil alone; an empty slice that is not nil. -/
def joinE (sz : Nat) : Option (Out × Hl) → Option (Out × Hl) → Option (Out × Hl)
  | some (.ret (.lst _ [] _), []), some (.ret (.lst _ [] _), []) => some (.ret (.lst sz [] .ro), [])
  | some (.ret (.lst _ [] .nil), []), some (.ret (.row s t 0 0 0), [(t', .row ty s' [])]) => match teq t t' && Nat.beq s s' && Nat.blt 0 s && !isIn t with
    | true => some (.ret (.row s t' 0 0 0), [(t', .row ty s' [])])
    | false => none
  | some (.ret (.lst _ [] .nil), [(u, .row ty1 s1 [])]), some (.ret (.row s t 0 0 0), [(u', .row ty2 s2 []), (t', .row ty s' [])]) => match teq t t' && Nat.beq s s' && Nat.blt 0 s && !isIn t && teq u u' && Nat.beq ty1 ty2 && Nat.beq s1 s2 && isIn u with
    | true => some (.ret (.row s t' 0 0 0), [(u, .row ty1 s1 []), (t', .row ty s' [])])
    | false => none
  | _, _ => none

/-- Of a slice that is empty, in an unknown place: both cases, joined. -/
def runSpl (run : List DV → Hl → Option (Out × Hl)) (args : List DV) (H : Hl) : Option (Out × Hl) :=
  match emptyOf args with
  | some sz => joinE sz (run [.lst sz [] .no] H) (run [.lst sz [] .nn] H)
  | none => run args H

theorem emptyOf_spec {ρ F h w} {args : List DV} {sz : Nat} (he : emptyOf args = some sz) {vs : Array Value} (hr : RepL ρ F h w args vs.toList) : ∃ A c, vs = #[.slice A 0 c] := by
  have one : ∀ {d : DV}, RepL ρ F h w [d] vs.toList → ∃ v, vs = #[v] ∧ RepV ρ F h w d v := fun {d} hr => by
    simp only [RepL] at hr
    obtain ⟨y, ys, hy, hv, rfl⟩ := hr
    exact ⟨y, by rw [← Array.toList_inj]; exact hy, hv⟩
  unfold emptyOf at he
  split at he <;> try (cases he; done)
  · obtain ⟨v, rfl, hv⟩ := one hr
    simp only [RepV] at hv
    obtain ⟨A, c, rfl, _⟩ := hv
    exact ⟨A, c, rfl⟩
  · obtain ⟨v, rfl, hv⟩ := one hr
    simp only [RepV] at hv
    obtain ⟨A, c, rfl, _⟩ := hv
    exact ⟨A, c, rfl⟩
  · obtain ⟨v, rfl, hv⟩ := one hr
    simp only [RepV] at hv
    obtain ⟨A, c, rfl, _⟩ := hv
    exact ⟨A, c, rfl⟩

theorem fnAt_spl {P : Program} {W0 : World} {f : FuncId} {pu : Bool} {run : List DV → Hl → Option (Out × Hl)} (hat : ∀ args H q, run args H = some q → FnAt P W0 f pu args H q) {args : List DV} {H : Hl} {q : Out × Hl} (hr : runSpl run args H = some q) : FnAt P W0 f pu args H q := by
  unfold runSpl at hr
  split at hr
  · rename_i sz he
    intro hp ρ F w vs rel hrep i1 i2
    obtain ⟨A, c, rfl⟩ := emptyOf_spec he hrep
    have arg : ∀ (k : LK), LkOk k A c 0 → k ≠ .nil → RepL ρ F (Hl.get H) w [.lst sz [] k] (#[Value.slice A 0 c] : Array Value).toList := fun k hk hkn => by
      simp only [RepL]
      exact ⟨_, [], rfl, by simp only [RepV]; exact ⟨A, c, rfl, Nat.zero_le _, fun e => absurd e hkn, hk, rfl, (fun d hd => by cases hd), fun e => absurd rfl e⟩, rfl⟩
    have no : A = none → LkOk .no A c 0 := fun e => ⟨(fun e => by cases e), (fun _ => e), (fun e => by cases e)⟩
    have nn : A ≠ none → LkOk .nn A c 0 := fun e => ⟨(fun e => by cases e), (fun e => by cases e), (fun _ => e)⟩
    have i1' : ∀ (k : LK), ∀ u ∈ toksL [DV.lst sz [] k], isIn u = true := fun k u hu => by simp [toksL, toks] at hu
    have weak : ∀ {ρ' : Rho} {F' : Nat → Prop} {h' : Hp} {w' : World} {s : Nat} {k : LK} {v : Value}, RepV ρ' F' h' w' (.lst s [] k) v → RepV ρ' F' h' w' (.lst sz [] .ro) v := fun hv => by
      simp only [RepV] at hv ⊢
      obtain ⟨A', c', rfl, b1, _, _, b4, b5, b6⟩ := hv
      exact ⟨A', c', rfl, b1, (fun e => by cases e), LkOk.ro, b4, (fun d hd => by cases hd), b6⟩
    have virt : ∀ {ρ' : Rho} {F' : Nat → Prop} {h1 h2 : Hl} {w' : World} {s s' : Nat} {k : LK} {v : Value} {t : Tok} {ty : TypeId}, Rel W0 ρ' F' (Hl.get h1) w' → Ext ρ F (Hl.get H) w ρ' F' (Hl.get h1) w' → Keep (fun t => isIn t = true) ρ F (Hl.get H) w ρ' F' (Hl.get h1) w' →
        RepV ρ' F' (Hl.get h1) w' (.lst s' [] .nil) v → 0 < s → isIn t = false → (∀ u o', u ≠ t → Hl.get h1 u = some o' → t ∉ o'.toks) → (∀ u, Hl.get h2 u = (Hl.get h1).set t (.row ty s []) u) →
        ∃ ρ' F', Rel W0 ρ' F' (Hl.get h2) w' ∧ Ext ρ F (Hl.get H) w ρ' F' (Hl.get h2) w' ∧ Keep (fun t => isIn t = true) ρ F (Hl.get H) w ρ' F' (Hl.get h2) w' ∧ RepOut ρ' F' (Hl.get h2) w' (.ret (.row s t 0 0 0)) (.returned v) := by
      intro ρ' F' h1 h2 w' s s' k v t ty a1 a2 a3 hv hs ht hfr hh
      have hh : Hl.get h2 = (Hl.get h1).set t (.row ty s []) := funext hh
      have g := good_virt (T := fun t => isIn t = true) (ty := ty) a1 hs (t := t) (fun u hu e => by subst e; rw [ht] at hu; cases hu) hfr
      rw [← hh] at g
      refine ⟨_, _, g.rel, a2.trans g.ext, a3.trans g.keep, v, rfl, ?_⟩
      simp only [RepV] at hv ⊢
      obtain ⟨A', c', rfl, b1, b2, _⟩ := hv
      refine ⟨A', c', rfl, b1, fun m hm => ⟨Nat.zero_le _, fun _ => ⟨by omega, fun hc => ?_⟩⟩⟩
      have := (b2 trivial).2
      omega
    unfold joinE at hr
    split at hr <;> try (cases hr; done)
    · rename_i s1 k1 s2 k2 h1 h2
      cases hr
      have go : ∀ (k : LK) (s : Nat) (k' : LK), LkOk k A c 0 → k ≠ .nil → FnAt P W0 f pu [.lst sz [] k] H (.ret (.lst s [] k'), []) → Calls P f #[.slice A 0 c] w fun e w' => ∃ ρ' F', Rel W0 ρ' F' (Hl.get []) w' ∧ Ext ρ F (Hl.get H) w ρ' F' (Hl.get []) w' ∧ Keep (fun t => isIn t = true) ρ F (Hl.get H) w ρ' F' (Hl.get []) w' ∧ RepOut ρ' F' (Hl.get []) w' (.ret (.lst sz [] .ro)) e := by
        intro k s k' hk hkn ha
        refine (ha hp ρ F w _ rel (arg k hk hkn) (i1' k) i2).mono ?_
        rintro e w' ⟨ρ', F', a1, a2, a3, v, rfl, hv⟩
        exact ⟨ρ', F', a1, a2, a3, v, rfl, weak hv⟩
      cases A with
      | none => exact go .no s1 k1 (no rfl) (by simp) (hat _ _ _ h1)
      | some a => exact go .nn s2 k2 (nn (by simp)) (by simp) (hat _ _ _ h2)
    · rename_i s1 s t t' ty s' h1 h2
      split at hr <;> try (cases hr; done)
      rename_i hc
      cases hr
      simp only [Bool.and_eq_true, teq_iff, Nat.beq_eq, Nat.blt_eq, Bool.not_eq_true'] at hc
      obtain ⟨⟨⟨rfl, rfl⟩, hs⟩, ht⟩ := hc
      cases A with
      | none =>
        refine ((hat _ _ _ h1) hp ρ F w _ rel (arg .no (no rfl) (by simp)) (i1' .no) i2).mono ?_
        rintro e w' ⟨ρ', F', a1, a2, a3, v, rfl, hv⟩
        exact virt (k := .nil) (ty := ty) a1 a2 a3 hv hs ht (fun u o' _ hu => by simp [Hl.get] at hu) (fun u => by by_cases e : t = u <;> simp [Hl.get, Hp.set, e, eq_comm])
      | some a => exact (hat _ _ _ h2) hp ρ F w _ rel (arg .nn (nn (by simp)) (by simp)) (i1' .nn) i2
    · rename_i s1 u ty1 sz1 s t u' ty2 sz2 t' ty s' h1 h2
      split at hr <;> try (cases hr; done)
      rename_i hc
      cases hr
      simp only [Bool.and_eq_true, teq_iff, Nat.beq_eq, Nat.blt_eq, Bool.not_eq_true'] at hc
      obtain ⟨⟨⟨⟨⟨⟨⟨rfl, rfl⟩, hs⟩, ht⟩, rfl⟩, rfl⟩, rfl⟩, hu⟩ := hc
      have hne : u ≠ t := fun e => by subst e; rw [ht] at hu; cases hu
      cases A with
      | none =>
        refine ((hat _ _ _ h1) hp ρ F w _ rel (arg .no (no rfl) (by simp)) (i1' .no) i2).mono ?_
        rintro e w' ⟨ρ', F', a1, a2, a3, v, rfl, hv⟩
        refine virt (k := .nil) (ty := ty) a1 a2 a3 hv hs ht (fun x o' _ hx => ?_) (fun x => ?_)
        · simp only [Hl.get] at hx
          split at hx
          · cases hx; simp [AObj.toks]
          · cases hx
        · by_cases e : t = x
          · subst e; simp [Hl.get, Hp.set, hne]
          · have e' : x ≠ t := fun h => e h.symm
            simp only [Hl.get, Hp.set, if_neg e, if_neg e']
      | some a => exact (hat _ _ _ h2) hp ρ F w _ rel (arg .nn (nn (by simp)) (by simp)) (i1' .nn) i2
  · exact hat _ _ _ hr

structure Tab where
  fns : FuncId → Option Row
  clo : FuncId → Option DClo

/-- What stands for the functions of a table, calls nested so deep. -/
def gam (P : Program) (T : Tab) (fuel : Nat) : Nat → Gam
  | 0 => fun _ => none
  | n + 1 => fun f => match T.fns f with
    | some (.fn df) => some ⟨df.mode.isPure, fun args H => runFn P (gam P T fuel n) fuel df args H⟩
    | some (.spl df) => some ⟨df.mode.isPure, runSpl fun args H => runFn P (gam P T fuel n) fuel df args H⟩
    | some (.dfr df) => some ⟨df.mode.isPure, fun args H => runFnD P (gam P T fuel n) fuel T.clo df args H⟩
    | some (.ext sp) => some sp
    | none => none

def RowOk (P : Program) (W0 : World) (f : FuncId) : Row → Prop
  | .fn df => ∃ fn hs, P.funcs[f]? = some fn ∧ digFn P fn hs df.mode = some df
  | .spl df => ∃ fn hs, P.funcs[f]? = some fn ∧ digFn P fn hs df.mode = some df
  | .dfr df => ∃ fn SX hs, P.funcs[f]? = some fn ∧ digFnD P fn SX hs df.mode = some df
  | .ext sp => FnOk P W0 f sp

/-- Each row of the table is of the program's function. -/
structure TabOk (P : Program) (W0 : World) (T : Tab) : Prop where
  row : ∀ f r, T.fns f = some r → RowOk P W0 f r
  clo : CloOk P T.clo

theorem gam_ok {P : Program} {W0 : World} (hmix : P.follows .mixedOrders = true) {T : Tab} (hT : TabOk P W0 T) {fuel : Nat} : ∀ (n : Nat) f sp, gam P T fuel n f = some sp → FnOk P W0 f sp
  | 0, f, sp, h => by simp [gam] at h
  | n + 1, f, sp, h => by
    simp only [gam] at h
    split at h
    · rename_i df hdf
      cases h
      obtain ⟨fn, hs, h1, h2⟩ := hT.row f _ hdf
      exact fn_ok h1 h2 rfl fun args H q hq => fn_at (gam_ok hmix hT n) hmix h1 h2 hq
    · rename_i df hdf
      cases h
      obtain ⟨fn, hs, h1, h2⟩ := hT.row f _ hdf
      exact fn_ok h1 h2 rfl fun args H q hq => fnAt_spl (fun args H q hq => fn_at (gam_ok hmix hT n) hmix h1 h2 hq) hq
    · rename_i df hdf
      cases h
      obtain ⟨fn, SX, hs, h1, h2⟩ := hT.row f _ hdf
      exact fnD_ok h1 h2 rfl fun args H q hq => fnD_at (gam_ok hmix hT n) hmix hT.clo h1 h2 hq
    · rename_i sp' hdf
      cases h
      exact hT.row f _ hdf
    · cases h

/-! ## Tables as lists -/
def rowAt (f : FuncId) : List (FuncId × Row) → Option Row
  | [] => none
  | (k, r) :: l => match Nat.beq f k with
    | true => some r
    | false => rowAt f l

def cloAt (f : FuncId) : List (FuncId × DClo) → Option DClo
  | [] => none
  | (k, r) :: l => match Nat.beq f k with
    | true => some r
    | false => cloAt f l

def RowsOkL (P : Program) (W0 : World) : List (FuncId × Row) → Prop
  | [] => True
  | (f, r) :: l => RowOk P W0 f r ∧ RowsOkL P W0 l

def ClosOkL (P : Program) : List (FuncId × DClo) → Prop
  | [] => True
  | (f, d) :: l => (∃ fn hs, P.funcs[f]? = some fn ∧ (fn.name == "runtime.NumGoroutine") = false ∧ digClo P fn hs = some d) ∧ ClosOkL P l

theorem rowAt_ok {P : Program} {W0 : World} {f : FuncId} {r : Row} : ∀ {l : List (FuncId × Row)}, RowsOkL P W0 l → rowAt f l = some r → RowOk P W0 f r
  | [], _, h => by simp [rowAt] at h
  | (k, r') :: l, hl, h => by
    simp only [rowAt] at h
    split at h
    · rename_i hb
      cases h
      rw [Nat.eq_of_beq_eq_true hb]
      exact hl.1
    · exact rowAt_ok hl.2 h

theorem cloAt_ok {P : Program} {f : FuncId} {r : DClo} : ∀ {l : List (FuncId × DClo)}, ClosOkL P l → cloAt f l = some r → ∃ fn hs, P.funcs[f]? = some fn ∧ (fn.name == "runtime.NumGoroutine") = false ∧ digClo P fn hs = some r
  | [], _, h => by simp [cloAt] at h
  | (k, r') :: l, hl, h => by
    simp only [cloAt] at h
    split at h
    · rename_i hb
      cases h
      rw [Nat.eq_of_beq_eq_true hb]
      exact hl.1
    · exact cloAt_ok hl.2 h

/-- Digested functions; others by what is proved of them. -/
def tabL (rows exts : List (FuncId × Row)) (clos : List (FuncId × DClo)) : Tab := ⟨fun f => match rowAt f rows with | some r => some r | none => rowAt f exts, fun f => cloAt f clos⟩

theorem tabL_ok {P : Program} {W0 : World} {rows exts : List (FuncId × Row)} {clos : List (FuncId × DClo)} (h1 : RowsOkL P W0 rows) (h2 : RowsOkL P W0 exts) (h3 : ClosOkL P clos) : TabOk P W0 (tabL rows exts clos) :=
  ⟨fun f r h => by
    simp only [tabL] at h
    split at h
    · rename_i r' hr; cases h; exact rowAt_ok h1 hr
    · exact rowAt_ok h2 h, fun f r h => cloAt_ok h3 h⟩
end Go.Di
