/- Functions. -/
import Derived.Test.YtnmjgpnidpgimaaGreatDoorDiCode
namespace Go.Di
open Go.RowKit
set_option linter.unusedSectionVars false
set_option linter.unusedSimpArgs false
set_option linter.unusedVariables false

inductive DRes where
  | tmp (t : Nat)
  | cell (a : Nat) (k : Option Nat)

/-- How a function hands back: data alone; its own objects beside them; these, the results made data. -/
inductive Mode where
  | pure | raw | made
  deriving DecidableEq

structure DFn where
  code : DCode
  ntmps : Nat
  res : List DRes
  mode : Mode

def Mode.isPure : Mode → Bool
  | .pure => true
  | _ => false

def ofArgs : Nat → List DV → EnvL
  | _, [] => []
  | i, d :: ds => (i, d) :: ofArgs (i + 1) ds

def runRes1 (g : EnvL) (h : Hl) : DRes → Option DV
  | .tmp t => some (g.get t)
  | .cell a k => match g.get a with
    | .ptr t off => match h.get t with
      | some (.cells _ cs) => pickCells cs off k
      | _ => none
    | _ => none

def runRes (g : EnvL) (h : Hl) : List DRes → Option (List DV)
  | [] => some []
  | r :: rs => match runRes1 g h r, runRes g h rs with
    | some d, some ds => some (d :: ds)
    | _, _ => none

def tupOf : List DV → DV
  | [d] => d
  | l => .tup l

def inToks : Hl → List Tok
  | [] => []
  | (t, o) :: l => match isIn t with
    | true => o.toks ++ inToks l
    | false => inToks l

def notIn : List Tok → List Tok
  | [] => []
  | t :: ts => match isIn t with
    | true => notIn ts
    | false => t :: notIn ts

def reachOf (h : Hl) : List Tok → List Tok
  | [] => []
  | ts => reachGo h.get 64 0 (addNew [] ts)

def keptT (R : List Tok) (t : Tok) : Bool := isIn t || tin t R

def allKept (R : List Tok) : List Tok → Bool
  | [] => true
  | t :: ts => keptT R t && allKept R ts

/-- What stays of a heap; none where it would lead to what does not stay. -/
def cut (R : List Tok) : Hl → Option Hl
  | [] => some []
  | (t, o) :: l => match keptT R t with
    | true => match allKept R o.toks, cut R l with
      | true, some l' => some ((t, o) :: l')
      | _, _ => none
    | false => cut R l

def Out.map (f : DV → Option (DV × List Tok)) : Out → Option (Out × List Tok)
  | .ret d => (f d).map fun p => (.ret p.1, p.2)
  | .pnc d => (f d).map fun p => (.pnc p.1, p.2)

def cutOut (out : Out) (h : Hl) : Option (Out × Hl) :=
  let R := reachOf h (notIn (out.toks ++ inToks h))
  match allKept R out.toks, cut R h with
  | true, some h' => some (out, h')
  | _, _ => none

def finish : Mode → Out → Hl → Option (Out × Hl)
  | .pure, out, h => match out.map (res h.get) with
    | some p => some (p.1, [])
    | none => none
  | .raw, out, h => cutOut out h
  | .made, out, h => match out.map (res h.get) with
    | some p => cutOut p.1 (Hl.upd (frzAll h.get p.2) h)
    | none => none

def runFn (P : Program) (Γ : Gam) (fuel : Nat) (df : DFn) (args : List DV) (H : Hl) : Option (Out × Hl) :=
  match Nat.ble args.length df.ntmps with
  | false => none
  | true => match runC P Γ fuel df.code (ofArgs 0 args) H with
    | some (.norm g h) => match runRes g h df.res with
      | some l => finish df.mode (.ret (tupOf l)) h
      | none => none
    | some (.ret g h) => match runRes g h df.res with
      | some l => finish df.mode (.ret (tupOf l)) h
      | none => none
    | some (.pnc v _ h) => finish df.mode (.pnc v) h
    | _ => none

def digRes1 (P : Program) : ResultVar → Option DRes
  | .tmp t => some (.tmp t)
  | .cell a t => (ldTy P t).map (.cell a)

def digRes (P : Program) : List ResultVar → Option (List DRes)
  | [] => some []
  | r :: rs => match digRes1 P r, digRes P rs with
    | some d, some ds => some (d :: ds)
    | _, _ => none

/-- The digest of a function of the program. -/
def digFn (P : Program) (fn : Func) (hs : List Hint) (m : Mode) : Option DFn :=
  match fn.name == "runtime.NumGoroutine", fn.body with
  | false, some c => match digCode P fn.ntmps c hs, digRes P fn.results.toList with
    | some (dc, []), some rs => some ⟨dc, fn.ntmps, rs, m⟩
    | _, _ => none
  | _, _ => none

section
variable {P : Program} {W0 : World} {ρ : Rho} {F : Nat → Prop} {h : Hp} {w : World} {Γ : Gam} {N : Nat}

theorem ofArgs_get : ∀ (l : List DV) (i n : Nat), (ofArgs i l).get n = if i ≤ n then (l[n - i]?).getD .any else .any
  | [], i, n => by simp [ofArgs, EnvL.get]
  | d :: ds, i, n => by
    simp only [ofArgs, EnvL.get]
    cases hb : Nat.beq n i with
    | true => have := Nat.eq_of_beq_eq_true hb; subst this; simp
    | false =>
      have hne : n ≠ i := fun e => by subst e; simp at hb
      simp only
      rw [ofArgs_get ds (i + 1) n]
      by_cases h1 : i + 1 ≤ n
      · rw [if_pos h1, if_pos (by omega), show n - i = (n - (i + 1)) + 1 by omega]; simp
      · rw [if_neg h1, if_neg (by omega)]

theorem ofArgs_env {args : List DV} {vs : Array Value} (hr : RepL ρ F h w args vs.toList) (n : Nat) {D : List Deferred} :
    RepEnv ρ F h w (ofArgs 0 args).get { tmps := vs ++ Array.replicate n undef, defers := D } := fun k => by
  rw [ofArgs_get, if_pos (Nat.zero_le _), Nat.sub_zero]
  cases hk : args[k]? with
  | none => simp [RepV]
  | some d =>
    obtain ⟨x, hx, hrx⟩ := hr.get k d hk
    have hlt : k < vs.size := by
      have := (List.getElem?_eq_some_iff.1 hx).1
      simpa using this
    have : (vs ++ Array.replicate n undef).getD k undef = x := by
      rw [Array.getD_eq_getD_getElem?, Array.getElem?_append_left hlt]
      have : vs[k]? = some x := by simpa using hx
      rw [this]; rfl
    simp only [Option.getD_some]
    show RepV ρ F h w d ((vs ++ Array.replicate n undef).getD k undef)
    rw [this]
    exact hrx

def resSem (tmps : Array Value) (r : ResultVar) : Sem Value := match r with
  | .tmp t => pure (tmps.getD t undef)
  | .cell a t => do loadVar t (← asAddr (tmps.getD a undef))

theorem results_eq (fn : Func) (tmps : Array Value) : results fn tmps = (do
    let vs ← fn.results.mapM (resSem tmps)
    pure (if h : vs.size = 1 then vs[0] else .tuple vs)) := by
  unfold results
  congr

theorem runRes1_spec {r : ResultVar} {dr : DRes} (hd : digRes1 P r = some dr) {g : EnvL} {hl : Hl} {tmps : Array Value} {d : DV} (hr : runRes1 g hl dr = some d) (rel : Rel W0 ρ F hl.get w)
    (henv : ∀ n, RepV ρ F hl.get w (g.get n) (tmps.getD n undef)) :
    ∃ v, (resSem tmps r).run P w = .ok v w ∧ RepV ρ F hl.get w d v := by
  cases r with
  | tmp t =>
    simp only [digRes1, Option.some.injEq] at hd
    subst hd
    simp only [runRes1, Option.some.injEq] at hr
    subst hr
    exact ⟨_, rfl, henv t⟩
  | cell a t =>
    simp only [digRes1, Option.map_eq_some_iff] at hd
    obtain ⟨k, hk, rfl⟩ := hd
    simp only [runRes1] at hr
    split at hr
    · rename_i tk off hg
      split at hr
      · rename_i ty cs ho
        have he := henv a
        rw [hg] at he
        simp only [RepV] at he
        obtain ⟨b, hb, hx⟩ := he.2 (by simp [Hp.len?, ho, AObj.len?])
        have := rel.obj tk _ ho
        simp only [RepO] at this
        obtain ⟨b', arr, h1, h2, h3, h4⟩ := this
        rw [hb] at h1
        cases h1
        obtain ⟨v, hv1, hv2⟩ := run_loadVar_rep (P := P) hk (o := 0) (repC_of_block h2 h3 h4) hr
        refine ⟨v, ?_, hv2⟩
        simp only [resSem, hx, asAddr, Sem.run_bind, Sem.run_pure, Result.andThen_ok]
        simpa using hv1
      · cases hr
    · cases hr

theorem mapM_res {g : EnvL} {hl : Hl} {tmps : Array Value} (rel : Rel W0 ρ F hl.get w) (henv : ∀ n, RepV ρ F hl.get w (g.get n) (tmps.getD n undef)) :
    ∀ {rs : List ResultVar} {ds : List DRes} {l : List DV}, digRes P rs = some ds → runRes g hl ds = some l →
    ∃ vs, (rs.mapM (resSem tmps)).run P w = .ok vs w ∧ RepL ρ F hl.get w l vs
  | [], ds, l, hd, hr => by
    simp only [digRes, Option.some.injEq] at hd
    subst hd
    simp only [runRes, Option.some.injEq] at hr
    subst hr
    exact ⟨[], rfl, by simp [RepL]⟩
  | r :: rs, ds, l, hd, hr => by
    simp only [digRes] at hd
    split at hd
    · rename_i d0 ds0 h1 h2
      cases hd
      simp only [runRes] at hr
      split at hr
      · rename_i x xs h3 h4
        cases hr
        obtain ⟨v, hv1, hv2⟩ := runRes1_spec h1 h3 rel henv
        obtain ⟨vs, hvs1, hvs2⟩ := mapM_res rel henv h2 h4
        refine ⟨v :: vs, ?_, by simp only [RepL]; exact ⟨v, vs, rfl, hv2, hvs2⟩⟩
        rw [List.mapM_cons]
        simp only [Sem.run_bind]
        erw [hv1]
        simp only [Result.andThen_ok, Sem.run_bind]
        erw [hvs1]
        simp only [Result.andThen_ok]
        rfl
      · cases hr
    · cases hd

theorem results_rep {fn : Func} {ds : List DRes} (hd : digRes P fn.results.toList = some ds) {g : EnvL} {hl : Hl} {a : Act} {l : List DV} (hr : runRes g hl ds = some l) (rel : Rel W0 ρ F hl.get w) (henv : RepEnv ρ F hl.get w g.get a) :
    ∃ v, (results fn a.tmps).run P w = .ok v w ∧ RepV ρ F hl.get w (tupOf l) v := by
  obtain ⟨vs, h1, h2⟩ := mapM_res (tmps := a.tmps) rel henv hd hr
  have hlen := h2.length
  refine ⟨if h : vs.toArray.size = 1 then vs.toArray[0] else .tuple vs.toArray, ?_, ?_⟩
  · rw [results_eq, Array.mapM_eq_mapM_toList]
    simp only [Sem.run_bind, map_eq_pure_bind]
    erw [h1]
    simp only [Result.andThen_ok]
    rfl
  · cases l with
    | nil =>
      have : vs = [] := List.eq_nil_of_length_eq_zero (by simpa using hlen)
      subst this
      simp only [tupOf, RepV]
      exact ⟨#[], rfl, by simp [RepL]⟩
    | cons d l =>
      cases l with
      | nil =>
        simp only [RepL] at h2
        obtain ⟨y, ys, rfl, h3, rfl⟩ := h2
        simpa [tupOf] using h3
      | cons d2 l =>
        have : ¬ vs.toArray.size = 1 := by simp [hlen]
        rw [dif_neg this]
        simp only [tupOf, RepV]
        exact ⟨vs.toArray, rfl, by simpa using h2⟩

/-! ## What stays -/

theorem keptT_iff {R : List Tok} {t : Tok} : keptT R t = true ↔ isIn t = true ∨ t ∈ R := by
  simp [keptT, tin_iff]

theorem allKept_spec {R : List Tok} : ∀ {ts : List Tok}, allKept R ts = true → ∀ t ∈ ts, keptT R t = true
  | [], _, t, ht => by cases ht
  | u :: ts, h, t, ht => by
    simp only [allKept, Bool.and_eq_true] at h
    rcases List.mem_cons.1 ht with rfl | ht
    · exact h.1
    · exact allKept_spec h.2 t ht

theorem cut_spec {R : List Tok} : ∀ {h h' : Hl}, cut R h = some h' → (∀ t, h'.get t = if keptT R t = true then h.get t else none) ∧ ∀ t o, h'.get t = some o → ∀ u ∈ o.toks, keptT R u = true
  | [], h', hc => by
    simp only [cut, Option.some.injEq] at hc
    subst hc
    exact ⟨fun t => by simp [Hl.get], fun t o ho => by simp [Hl.get] at ho⟩
  | (t0, o0) :: l, h', hc => by
    simp only [cut] at hc
    split at hc
    · rename_i hk
      split at hc
      · rename_i l' ha hl
        cases hc
        obtain ⟨h1, h2⟩ := cut_spec hl
        refine ⟨fun t => ?_, fun t o ho => ?_⟩
        · simp only [Hl.get]
          by_cases e : t0 = t
          · subst e; simp [hk]
          · simp only [if_neg e]; exact h1 t
        · simp only [Hl.get] at ho
          by_cases e : t0 = t
          · rw [if_pos e] at ho; cases ho; exact allKept_spec ha
          · rw [if_neg e] at ho; exact h2 t o ho
      · cases hc
    · rename_i hk
      obtain ⟨h1, h2⟩ := cut_spec hc
      refine ⟨fun t => ?_, h2⟩
      rw [h1 t]
      simp only [Hl.get]
      by_cases e : t0 = t
      · subst e; simp [hk]
      · rw [if_neg e]

theorem cut_good {R : List Tok} {hl hl' : Hl} (hc : cut R hl = some hl') (r : Rel W0 ρ F hl.get w) : Good W0 (fun t => keptT R t = true) ρ F hl.get w ρ F hl'.get w := by
  obtain ⟨h1, h2⟩ := cut_spec hc
  have hget : ∀ t, keptT R t = true → hl'.get t = hl.get t := fun t ht => by rw [h1 t, if_pos ht]
  have hsub : ∀ t o, hl'.get t = some o → hl.get t = some o := fun t o ho => by
    rw [h1 t] at ho
    split at ho
    · exact ho
    · cases ho
  have k : Keep (fun t => keptT R t = true) ρ F hl.get w ρ F hl'.get w :=
    ⟨fun _ h => h, fun _ _ => rfl, fun t ht hn => ⟨by simpa [Hp.len?, hget t ht] using hn, fun _ h => h⟩,
      fun t m ht hm => ⟨m, by simpa [Hp.len?, hget t ht] using hm, Nat.le_refl _, fun _ b hb => ⟨hb, fun _ h => h⟩⟩⟩
  have own : ∀ b, Own ρ hl'.get b → Own ρ hl.get b := fun b ⟨t, o, ho, hw, hb⟩ => ⟨t, o, hsub t o ho, hw, hb⟩
  exact ⟨⟨r.base, fun t o ho => RepO.keep k rfl (fun _ _ _ => rfl) (h2 t o ho) (r.obj t o (hsub t o ho)), r.fin, fun b hb => r.sep b (own b hb),
    fun t o t' o' b h1 h2 h3 h4 => r.inj t o t' o' b (hsub t o h1) h2 (hsub t' o' h3) h4⟩, k,
    ⟨rfl, rfl, rfl, Nat.le_refl _, fun _ _ _ => rfl, fun _ h => h, fun _ _ h => .inl h, fun b _ hb => own b hb⟩⟩

/-- An ending as the datum says. -/
theorem RepOut.of {out : Out} {e : Ending} (h1 : ∀ d, out = .ret d → ∃ v, e = .returned v ∧ RepV ρ F h w d v) (h2 : ∀ d, out = .pnc d → ∃ v, e = .panicked [{ v, recovered := false }] ∧ RepV ρ F h w d v) : RepOut ρ F h w out e := by
  cases out with
  | ret d => exact h1 d rfl
  | pnc d => exact h2 d rfl

def Out.isRet : Out → Bool
  | .ret _ => true
  | .pnc _ => false

/-- What an ending carries. -/
def endsWith (out : Out) (v : Value) : Ending := match out with
  | .ret _ => .returned v
  | .pnc _ => .panicked [{ v, recovered := false }]

theorem repOut_ends {out : Out} {v : Value} (hv : RepV ρ F h w out.dv v) : RepOut ρ F h w out (endsWith out v) := by
  cases out with
  | ret d => exact ⟨v, rfl, hv⟩
  | pnc d => exact ⟨v, rfl, hv⟩

theorem Out.map_spec {f : DV → Option (DV × List Tok)} {out : Out} {p : Out × List Tok} (hm : out.map f = some p) : ∃ d', f out.dv = some (d', p.2) ∧ p.1.dv = d' ∧ ∀ v, endsWith p.1 v = endsWith out v := by
  cases out with
  | ret d =>
    simp only [Out.map, Option.map_eq_some_iff] at hm
    obtain ⟨q, hq, rfl⟩ := hm
    exact ⟨q.1, hq, rfl, fun _ => rfl⟩
  | pnc d =>
    simp only [Out.map, Option.map_eq_some_iff] at hm
    obtain ⟨q, hq, rfl⟩ := hm
    exact ⟨q.1, hq, rfl, fun _ => rfl⟩

theorem out_toks {out : Out} : out.toks = toks out.dv := by cases out <;> rfl

/-- The state that a call leaves, from the state that its code leaves. -/
theorem finish_ok {m : Mode} {out out' : Out} {hl H H' : Hl} (hf : finish m out hl = some (out', H')) (hp : m.isPure = true → H = []) {ρ0 : Rho} {F0 : Nat → Prop} {w0 : World} (gd : Good W0 (fun t => isIn t = true) ρ0 F0 H.get w0 ρ F hl.get w) {v : Value}
    (hv : RepV ρ F hl.get w out.dv v) :
    ∃ ρ' F', Rel W0 ρ' F' (Hl.get H') w ∧ Ext ρ0 F0 (Hl.get H) w0 ρ' F' (Hl.get H') w ∧ Keep (fun t => isIn t = true) ρ0 F0 (Hl.get H) w0 ρ' F' (Hl.get H') w ∧ RepOut ρ' F' (Hl.get H') w out' (endsWith out v) := by
  have cutCase : ∀ {out out' : Out} {hl H' : Hl} {ρ : Rho} {F : Nat → Prop}, cutOut out hl = some (out', H') → Good W0 (fun t => isIn t = true) ρ0 F0 H.get w0 ρ F hl.get w → RepV ρ F hl.get w out.dv v →
      ∃ ρ' F', Rel W0 ρ' F' (Hl.get H') w ∧ Ext ρ0 F0 (Hl.get H) w0 ρ' F' (Hl.get H') w ∧ Keep (fun t => isIn t = true) ρ0 F0 (Hl.get H) w0 ρ' F' (Hl.get H') w ∧ RepOut ρ' F' (Hl.get H') w out' (endsWith out v) := by
    intro out out' hl H' ρ F hc gd hv
    simp only [cutOut] at hc
    split at hc
    · rename_i h' ha hcut
      cases hc
      have cg := cut_good hcut gd.rel
      have g2 := gd.trans (cg.weaken fun t ht => by rw [keptT_iff]; exact .inl ht)
      exact ⟨ρ, F, g2.rel, g2.ext, g2.keep, repOut_ends (RepV.keep cg.keep _ _ (fun t ht => allKept_spec ha t (by rw [out_toks]; exact ht)) hv)⟩
    · cases hc
  cases m with
  | pure =>
    have hH := hp rfl
    subst hH
    simp only [finish] at hf
    split at hf
    · rename_i p hm
      cases hf
      obtain ⟨d', hd1, hd2, hd3⟩ := Out.map_spec hm
      obtain ⟨F1, g1, _, hrep, hcl⟩ := res_good (T := fun t => isIn t = true) gd.rel hd1 hv
      have g2 := gd.trans g1
      refine ⟨ρ0, F1, ⟨g2.rel.base, fun t o ho => by simp [Hl.get] at ho, g2.rel.fin, fun b hb => (own_nil hb).elim, fun t o t' o' b ho => by simp [Hl.get] at ho⟩,
        ⟨g2.ext.os, g2.ext.tape, g2.ext.output, g2.ext.size, g2.ext.keep, g2.ext.imp, g2.ext.newF, fun b _ hb => (own_nil hb).elim⟩,
        ⟨g2.keep.imp, g2.keep.blk, fun t _ _ => ⟨rfl, fun _ h => h⟩, fun t m _ hm => by simp [Hp.len?, Hl.get] at hm⟩, ?_⟩
      rw [← hd3]
      exact repOut_ends (by rw [hd2]; exact RepV.closed_any hcl hrep)
    · cases hf
  | raw => exact cutCase hf gd hv
  | made =>
    simp only [finish] at hf
    split at hf
    · rename_i p hm
      obtain ⟨d', hd1, hd2, hd3⟩ := Out.map_spec hm
      obtain ⟨F1, g1, _, hrep, hcl⟩ := res_good (T := fun t => isIn t = true) gd.rel hd1 hv
      have g2 := gd.trans g1
      rw [← Hl.get_upd] at g2 hrep
      rw [← hd3]
      exact cutCase hf g2 (by rw [hd2]; exact hrep)
    · cases hf

/-- A function at one list of arguments. -/
def FnAt (P : Program) (W0 : World) (f : FuncId) (pure : Bool) (args : List DV) (H : Hl) (q : Out × Hl) : Prop :=
  (pure = true → H = []) → ∀ ρ F w (vs : Array Value), Rel W0 ρ F (Hl.get H) w → RepL ρ F (Hl.get H) w args vs.toList → (∀ u ∈ toksL args, isIn u = true) → (∀ u o, Hl.get H u = some o → isIn u = true ∧ ∀ x ∈ o.toks, isIn x = true) →
    Calls P f vs w fun e w' => ∃ ρ' F', Rel W0 ρ' F' (Hl.get q.2) w' ∧ Ext ρ F (Hl.get H) w ρ' F' (Hl.get q.2) w' ∧ Keep (fun t => isIn t = true) ρ F (Hl.get H) w ρ' F' (Hl.get q.2) w' ∧ RepOut ρ' F' (Hl.get q.2) w' q.1 e

theorem digFn_spec {fn : Func} {hs : List Hint} {m : Mode} {df : DFn} (hd : digFn P fn hs m = some df) : ∃ c, fn.body = some c ∧ (fn.name == "runtime.NumGoroutine") = false ∧ Digs P df.ntmps df.code c ∧ df.ntmps = fn.ntmps ∧ digRes P fn.results.toList = some df.res ∧ df.mode = m := by
  unfold digFn at hd
  split at hd
  · rename_i c hn hb
    split at hd
    · rename_i dc rs h1 h2
      cases hd
      exact ⟨c, hb, hn, digCode_digs h1, rfl, h2, rfl⟩
    · cases hd
  · cases hd

theorem fn_at (hΓ : ∀ f sp, Γ f = some sp → FnOk P W0 f sp) (hmix : P.follows .mixedOrders = true) {f : FuncId} {fn : Func} (hfn : P.funcs[f]? = some fn) {hs : List Hint} {m : Mode} {df : DFn} (hd : digFn P fn hs m = some df)
    {fuel : Nat} {args : List DV} {H : Hl} {q : Out × Hl} (hr : runFn P Γ fuel df args H = some q) : FnAt P W0 f m.isPure args H q := by
  obtain ⟨c, hb, _, hdig, hnt, hres, hm⟩ := digFn_spec hd
  intro hpure ρ F w vs rel hrep _ _
  have hlen : vs.size = args.length := by simpa using hrep.length
  simp only [runFn] at hr
  split at hr
  · cases hr
  · rename_i hble
    have hle : args.length ≤ df.ntmps := Nat.le_of_ble_eq_true hble
    refine calls_of_wp hfn hb ?_
    have at0 : At [] W0 ρ F (Hl.get H) w [] df.ntmps ρ F (ofArgs 0 args).get (Hl.get H) { tmps := vs ++ Array.replicate (fn.ntmps - vs.size) undef, defers := [] } w :=
      ⟨⟨rel, ofArgs_env hrep _, by simp; omega⟩, Good.refl rel, rfl⟩
    have hfin : ∀ {out out' : Out} {hl H' : Hl} {ρ1 F1 w1}, finish df.mode out hl = some (out', H') → q = (out', H') → Good W0 (fun t => isIn t = true) ρ F H.get w ρ1 F1 hl.get w1 → ∀ {v}, RepV ρ1 F1 hl.get w1 out.dv v →
        ∃ ρ' F', Rel W0 ρ' F' (Hl.get q.2) w1 ∧ Ext ρ F (Hl.get H) w ρ' F' (Hl.get q.2) w1 ∧ Keep (fun t => isIn t = true) ρ F (Hl.get H) w ρ' F' (Hl.get q.2) w1 ∧ RepOut ρ' F' (Hl.get q.2) w1 q.1 (endsWith out v) := by
      intro out out' hl H' ρ1 F1 w1 hf hq gd v hv
      subst hq
      exact finish_ok hf (fun hp => hpure (by rw [← hm]; exact hp)) gd hv
    have hend : ∀ {g : EnvL} {hl : Hl}, (match runRes g hl df.res with
        | some l => finish df.mode (.ret (tupOf l)) hl
        | none => none) = some q → ∀ {ρ1 F1 a1 w1}, At [] W0 ρ F (Hl.get H) w [] df.ntmps ρ1 F1 g.get hl.get a1 w1 →
        a1.defers = [] ∧ ∃ v, (results fn a1.tmps).run P w1 = .ok v w1 ∧ ∃ ρ' F', Rel W0 ρ' F' (Hl.get q.2) w1 ∧ Ext ρ F (Hl.get H) w ρ' F' (Hl.get q.2) w1 ∧ Keep (fun t => isIn t = true) ρ F (Hl.get H) w ρ' F' (Hl.get q.2) w1 ∧ RepOut ρ' F' (Hl.get q.2) w1 q.1 (.returned v) := by
      intro g hl hf ρ1 F1 a1 w1 at1
      split at hf
      · rename_i l hl1
        obtain ⟨v, h1, h2⟩ := results_rep hres hl1 at1.inv.rel at1.inv.env
        obtain ⟨out', H'⟩ := q
        exact ⟨at1.dfs, v, h1, hfin hf rfl (at1.good.weaken fun t ht => .inl ht) h2⟩
      · cases hf
    split at hr
    · rename_i g hl hrun
      refine code_sound hΓ hmix hdig clear_nil hrun at0 fun e a' w' hl' => ?_
      obtain ⟨rfl, ρ1, F1, at1⟩ := hl'
      exact hend hr at1
    · rename_i g hl hrun
      refine code_sound hΓ hmix hdig clear_nil hrun at0 fun e a' w' hl' => ?_
      obtain ⟨rfl, ρ1, F1, at1⟩ := hl'
      exact hend hr at1
    · rename_i d _ hl hrun
      refine code_sound hΓ hmix hdig clear_nil hrun at0 fun e a' w' hl' => ?_
      obtain ⟨v, rfl, ρ1, F1, at1⟩ := hl'
      obtain ⟨out', H'⟩ := q
      exact ⟨at1.dfs, hfin (out := .pnc d) hr rfl (at1.good.weaken fun t ht => .inl ht) at1.rep⟩
    · cases hr

/-- From single lists of arguments to the function. -/
theorem fn_ok {f : FuncId} {fn : Func} (hfn : P.funcs[f]? = some fn) {hs : List Hint} {m : Mode} {df : DFn} (hd : digFn P fn hs m = some df) {sp : FSpec} (hp : sp.pure = m.isPure)
    (hat : ∀ args H q, sp.run args H = some q → FnAt P W0 f m.isPure args H q) : FnOk P W0 f sp := by
  obtain ⟨c, hb, hname, _, _, _, _⟩ := digFn_spec hd
  refine ⟨fun args w => ?_, fun args H out H' hq hpure ρ F w vs rel hrep h1 h2 => hat args H (out, H') hq (fun h => hpure (by rw [hp]; exact h)) ρ F w vs rel hrep h1 h2⟩
  have hp : Sem.run P program w = .ok P w := rfl
  simp only [callFunc, Sem.run_bind, hp, Result.andThen_ok, hfn, hname, hb, Option.isNone_some, Bool.false_eq_true, if_false]
  rfl
end
end Go.Di
