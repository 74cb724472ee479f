/- What stands for a function, and a call of it. -/
import Derived.Test.YtnmjgpnidpgimaaGreatDoorDiSound5
namespace Go.Di
open Go.RowKit
set_option linter.unusedSectionVars false
set_option linter.unusedSimpArgs false
set_option linter.unusedVariables false

def RepOut (ρ : Rho) (F : Nat → Prop) (h : Hp) (w : World) : Out → Ending → Prop
  | .ret d, e => ∃ v, e = .returned v ∧ RepV ρ F h w d v
  | .pnc d, e => ∃ v, e = .panicked [{ v, recovered := false }] ∧ RepV ρ F h w d v

/-- A function does what stands for it. -/
def FnOk (P : Program) (W0 : World) (f : FuncId) (sp : FSpec) : Prop :=
  (∀ (args : Array Value) (w : World), (callFunc f args).run P w = .ok (.enter f args) w) ∧ ∀ args H out H', sp.run args H = some (out, H') → (sp.pure = true → H = []) → ∀ ρ F w (vs : Array Value), Rel W0 ρ F (Hl.get H) w → RepL ρ F (Hl.get H) w args vs.toList → (∀ u ∈ toksL args, isIn u = true) → (∀ u o, Hl.get H u = some o → isIn u = true ∧ ∀ x ∈ o.toks, isIn x = true) →
    Calls P f vs w fun e w' => ∃ ρ' F', Rel W0 ρ' F' (Hl.get H') w' ∧ Ext ρ F (Hl.get H) w ρ' F' (Hl.get H') w' ∧ Keep (fun t => isIn t = true) ρ F (Hl.get H) w ρ' F' (Hl.get H') w' ∧ RepOut ρ' F' (Hl.get H') w' out e

theorem renL_one {σ : Tok → Tok} : ∀ {l : List DV}, l.all one = true → (renL σ l).all one = true
  | [], _ => rfl
  | d :: ds, h => by
    simp only [List.all_cons, Bool.and_eq_true, renL] at *
    refine ⟨?_, renL_one h.2⟩
    have := h.1
    cases d <;> simp_all [one, Go.Di.ren]

section
variable {P : Program} {W0 : World} {T : Tok → Prop} {ρ : Rho} {F : Nat → Prop} {h : Hp} {w : World}

/-- What is closed reads the same beside other objects. -/
theorem keep_false {ρ' : Rho} {h' : Hp} : Keep (fun _ => False) ρ F h w ρ' F h' w :=
  ⟨fun _ h => h, fun _ _ => rfl, fun _ h => h.elim, fun _ _ h => h.elim⟩

theorem RepV.closed_any {ρ' : Rho} {h' : Hp} {d : DV} {x : Value} (hc : closed d = true) (hr : RepV ρ F h w d x) : RepV ρ' F h' w d x :=
  RepV.keep keep_false d x (fun t ht => by rw [toks_closed d hc] at ht; cases ht) hr
theorem RepL.closed_any {ρ' : Rho} {h' : Hp} {l : List DV} {xs : List Value} (hc : closedL l = true) (hr : RepL ρ F h w l xs) : RepL ρ' F h' w l xs :=
  RepL.keep keep_false l xs (fun t ht => by rw [toksL_closed l hc] at ht; cases ht) hr

theorem rel_nil (r : Rel W0 ρ F h w) : Rel W0 ρ F (Hl.get []) w :=
  ⟨r.base, fun t o ho => by simp [Hl.get] at ho, r.fin, fun b ⟨t, o, ho, _⟩ => by simp [Hl.get] at ho, fun t o t' o' b ho => by simp [Hl.get] at ho⟩

theorem own_nil {b : Nat} : ¬ Own ρ (Hl.get []) b := fun ⟨t, o, ho, _⟩ => by simp [Hl.get] at ho

/-- Behind a call that was handed data alone. -/
theorem good_pure (r : Rel W0 ρ F h w) {ρ2 : Rho} {F2 : Nat → Prop} {h2 : Hp} {w2 : World} (r2 : Rel W0 ρ2 F2 h2 w2) (e : Ext ρ F (Hl.get []) w ρ2 F2 h2 w2) : Good W0 T ρ F h w ρ F2 h w2 := by
  have same : ∀ b, b < w.heap.size → w2.heap[b]? = w.heap[b]? := fun b hb => e.keep b hb own_nil
  have k : Keep (fun _ => True) ρ F h w ρ F2 h w2 :=
    ⟨e.imp, fun b hb => same b (r.fin b hb), fun t _ hn => ⟨hn, fun _ h => h⟩, fun t m _ hm => ⟨m, hm, Nat.le_refl _, fun _ b hb => ⟨hb, fun k hk => capOk_of (same b (capOk_lt hk)) hk⟩⟩⟩
  refine ⟨⟨r2.base, fun t o ho => RepO.keep k rfl (fun b hb hw => same b (own_lt r ⟨t, o, ho, hw, hb⟩)) (fun _ _ => trivial) (r.obj t o ho), r2.fin, fun b hb hF => ?_, r.inj⟩, k.weaken fun _ _ => trivial,
    ⟨e.os, e.tape, e.output, e.size, fun b hb _ => same b hb, e.imp, fun b hb hF => ?_, fun b hb ho => ho⟩⟩
  · rcases e.newF b (own_lt r hb) hF with h1 | h1
    · exact r.sep b hb h1
    · exact own_nil h1
  · rcases e.newF b hb hF with h1 | h1
    · exact .inl h1
    · exact (own_nil h1).elim

/-- What a call leaves: for the wp of the operation. -/
def CallOk (P : Program) (W0 : World) (T : Tok → Prop) (ρ : Rho) (F : Nat → Prop) (h : Hp) (w : World) (e : Eff) (f : FuncId) (vs : Array Value) : Prop :=
  Calls P f vs w fun en w' => ∃ ρ' F', Good W0 T ρ F h w ρ' F' (e.upds.app h) w' ∧ RepOut ρ' F' (e.upds.app h) w' e.out en

theorem ok_call_pure (r : Rel W0 ρ F h w) {f : FuncId} {sp : FSpec} (hsp : FnOk P W0 f sp) (hp : sp.pure = true) {args : List DV} {p : List DV × List Tok} {q : Out × Hl} (hres : resL h args = some p) (hq : sp.run p.1 [] = some q) (hcl : outClosed q.1 = true)
    {vs : Array Value} (hv : RepL ρ F h w args vs.toList) : CallOk P W0 T ρ F h w ⟨q.1, p.2, frzAll h p.2⟩ f vs := by
  obtain ⟨F1, g1, hf, hv1, hc1⟩ := resL_good (T := fun _ => True) r hres hv
  refine (hsp.2 p.1 [] q.1 q.2 hq (fun _ => rfl) ρ F1 w vs (rel_nil g1.rel) (RepL.closed_any hc1 hv1) (fun u hu => by rw [toksL_closed _ hc1] at hu; cases hu) (fun u o ho => by simp [Hl.get] at ho)).mono ?_
  rintro en w' ⟨ρ2, F2, r2, e2, _, ho⟩
  have g2 := good_pure (T := fun _ => True) g1.rel r2 e2
  refine ⟨ρ, F2, (g1.trans g2).weaken fun _ _ => trivial, ?_⟩
  cases hq1 : q.1 with
  | ret d =>
    rw [hq1] at ho hcl
    obtain ⟨v, rfl, hr⟩ := ho
    exact ⟨v, rfl, hr.closed_any hcl⟩
  | pnc d =>
    rw [hq1] at ho hcl
    obtain ⟨v, rfl, hr⟩ := ho
    exact ⟨v, rfl, hr.closed_any hcl⟩

/-! ## Other names -/
mutual
theorem RepV.ren {σ : Tok → Tok} {ρ' : Rho} {h' : Hp} : ∀ {d : DV} {x : Value}, (∀ t ∈ toks d, ρ' (σ t) = ρ t ∧ h'.len? (σ t) = h.len? t) → RepV ρ F h w d x → RepV ρ' F h' w (ren σ d) x
  | .sc v, x, _, hr => by simpa [RepV, Go.Di.ren] using hr
  | .ptr t o, x, ht, hr => by
    obtain ⟨h1, h2⟩ := ht t (by simp [toks])
    simp only [RepV, Go.Di.ren, h1, h2] at *
    exact hr
  | .rptr sz t n i r, x, ht, hr => by
    obtain ⟨h1, h2⟩ := ht t (by simp [toks])
    simp only [RepV, Go.Di.ren, h1, h2] at *
    exact hr
  | .row sz t n o l, x, ht, hr => by
    obtain ⟨h1, h2⟩ := ht t (by simp [toks])
    simp only [RepV, Go.Di.ren, h1, h2] at *
    exact hr
  | .map t, x, ht, hr => by
    obtain ⟨h1, h2⟩ := ht t (by simp [toks])
    simp only [RepV, Go.Di.ren, h1, h2] at *
    exact hr
  | .pref cs, x, _, hr => by
    have hc : closed (.pref cs) = true := by simp only [RepV] at hr; obtain ⟨b, o, _, _, hc, _⟩ := hr; simpa [closed] using hc
    exact hr.closed_any hc
  | .lst sz xs k, x, _, hr => by
    have hc : closed (.lst sz xs k) = true := by simp only [RepV] at hr; obtain ⟨A, c, _, _, _, _, hc, _⟩ := hr; simpa [closed] using hc
    exact hr.closed_any hc
  | .fn f a b, x, ht, hr => by
    simp only [RepV, Go.Di.ren] at *
    obtain ⟨u, v, hx, h1, h2⟩ := hr
    exact ⟨u, v, hx, RepL.ren (fun t h => ht t (by simp [toks, h])) h1, RepL.ren (fun t h => ht t (by simp [toks, h])) h2⟩
  | .iface ty d, x, ht, hr => by
    simp only [RepV, Go.Di.ren] at *
    obtain ⟨y, hx, h1⟩ := hr
    exact ⟨y, hx, RepV.ren (fun t h => ht t (by simp [toks, h])) h1⟩
  | .agg cs, x, ht, hr => by
    simp only [RepV, Go.Di.ren] at *
    obtain ⟨u, hx, h0, h1⟩ := hr
    exact ⟨u, hx, renL_one h0, RepL.ren (fun t h => ht t (by simp [toks, h])) h1⟩
  | .tup cs, x, ht, hr => by
    simp only [RepV, Go.Di.ren] at *
    obtain ⟨u, hx, h1⟩ := hr
    exact ⟨u, hx, RepL.ren (fun t h => ht t (by simp [toks, h])) h1⟩
  | .any, _, _, _ => by simp [Go.Di.ren, RepV]
theorem RepL.ren {σ : Tok → Tok} {ρ' : Rho} {h' : Hp} : ∀ {l : List DV} {xs : List Value}, (∀ t ∈ toksL l, ρ' (σ t) = ρ t ∧ h'.len? (σ t) = h.len? t) → RepL ρ F h w l xs → RepL ρ' F h' w (renL σ l) xs
  | [], xs, _, hr => by simpa [renL, RepL] using hr
  | d :: ds, xs, ht, hr => by
    simp only [RepL, renL] at *
    obtain ⟨y, ys, hx, h1, h2⟩ := hr
    exact ⟨y, ys, hx, RepV.ren (fun t h => ht t (by simp [toksL, h])) h1, RepL.ren (fun t h => ht t (by simp [toksL, h])) h2⟩
end

theorem RepM.ren {σ : Tok → Tok} {ρ' : Rho} {h' : Hp} : ∀ {l : List (Value × DV × Nat)} {es : List MapEntry}, (∀ t ∈ toksE l, ρ' (σ t) = ρ t ∧ h'.len? (σ t) = h.len? t) → RepM ρ F h w l es → RepM ρ' F h' w (renE σ l) es
  | [], es, _, hr => by simpa [renE, RepM] using hr
  | (k, d, n) :: l, es, ht, hr => by
    simp only [RepM, renE] at *
    obtain ⟨e, r, h1, h2, h3, h4, h5⟩ := hr
    exact ⟨e, r, h1, h2, h3, RepV.ren (fun t h => ht t (by simp [toksE, h])) h4, RepM.ren (fun t h => ht t (by simp [toksE, h])) h5⟩

theorem RepO.ren {σ : Tok → Tok} {ρ' : Rho} {h' : Hp} {t : Tok} {o : AObj} (hρ : ρ' (σ t) = ρ t) (ht : ∀ u ∈ o.toks, ρ' (σ u) = ρ u ∧ h'.len? (σ u) = h.len? u) (hr : RepO ρ F h w t o) : RepO ρ' F h' w (σ t) (o.ren σ) := by
  have cl : ∀ {sz xs b}, closedL xs = true → RepE ρ F h w sz xs b 0 → RepE ρ' F h' w sz xs b 0 := fun hc hE =>
    RepE.keep keep_false _ _ _ _ (fun t ht => by rw [toksL_closed _ hc] at ht; cases ht) rfl hE
  cases o with
  | cells ty cs =>
    simp only [RepO, AObj.ren] at *
    obtain ⟨b, arr, h1, h2, h3, h4⟩ := hr
    exact ⟨b, arr, hρ.trans h1, h2, renL_one h3, RepL.ren ht h4⟩
  | row ty sz xs =>
    simp only [RepO, AObj.ren] at *
    obtain ⟨h0, h1, h2, h3⟩ := hr
    refine ⟨h0, h1, h2, ?_⟩
    rcases h3 with ⟨h3, h4⟩ | ⟨b, arr, h3, h4, h5, h6⟩
    · exact .inl ⟨h3, hρ.trans h4⟩
    · exact .inr ⟨b, arr, hρ.trans h3, h4, h5, cl h0 h6⟩
  | frz ty sz xs =>
    simp only [RepO, AObj.ren] at *
    obtain ⟨h0, h1, h2, hF, h3⟩ := hr
    refine ⟨h0, h1, h2, fun b hb => hF b (by rw [← hρ]; exact hb), fun hn => ?_⟩
    obtain ⟨b, h4, h6⟩ := h3 hn
    exact ⟨b, hρ.trans h4, cl h0 h6⟩
  | mp es c =>
    simp only [RepO, AObj.ren] at *
    obtain ⟨b, arr, h1, h2, h3⟩ := hr
    exact ⟨b, arr, hρ.trans h1, h2, RepM.ren ht h3⟩
  | sit s pos =>
    simp only [RepO, AObj.ren] at *
    obtain ⟨b, h1, h2⟩ := hr
    exact ⟨b, hρ.trans h1, h2⟩

theorem owns_ren (σ : Tok → Tok) (o : AObj) : owns (o.ren σ) = owns o := by cases o <;> rfl
theorem len_ren (σ : Tok → Tok) (o : AObj) : (o.ren σ).len? = o.len? := by cases o <;> rfl

/-! ## Names in and out -/
theorem nodup_spec : ∀ {ts : List Tok}, nodup ts = true → ∀ {i j : Nat} {t : Tok}, ts[i]? = some t → ts[j]? = some t → i = j
  | [], _, i, j, t, h1, _ => by simp at h1
  | u :: us, hn, i, j, t, h1, h2 => by
    simp only [nodup, Bool.and_eq_true, Bool.not_eq_true'] at hn
    have hc : ¬ u ∈ us := by simpa using hn.1
    cases i with
    | zero =>
      cases j with
      | zero => rfl
      | succ j => simp at h1 h2; subst h1; exact absurd (List.mem_of_getElem? h2) hc
    | succ i =>
      cases j with
      | zero => simp at h1 h2; subst h2; exact absurd (List.mem_of_getElem? h1) hc
      | succ j => simp at h1 h2; rw [nodup_spec hn.2 h1 h2]

theorem idxOf_spec : ∀ {ts : List Tok} {t : Tok} {k : Nat}, t ∈ ts → ∃ i, ts[i]? = some t ∧ idxOf t ts k = some (k + i)
  | [], t, k, h => by cases h
  | u :: us, t, k, h => by
    by_cases e : u = t
    · exact ⟨0, by simp [e], by simp [idxOf, e]⟩
    · obtain ⟨i, h1, h2⟩ := idxOf_spec (ts := us) (k := k + 1) ((List.mem_cons.1 h).resolve_left (Ne.symm e))
      exact ⟨i + 1, by simpa using h1, by simp [idxOf, e, h2]; omega⟩

theorem inName_mem {ts : List Tok} {t : Tok} (h : t ∈ ts) : ∃ i, ts[i]? = some t ∧ inName ts t = [0, i] := by
  obtain ⟨i, h1, h2⟩ := idxOf_spec (k := 0) h
  exact ⟨i, h1, by simp [inName, h2]⟩

theorem outName_in {ts : List Tok} {d i : Nat} {t : Tok} (h : ts[i]? = some t) : outName ts d [0, i] = t := by
  simp [outName, h]

theorem outName_new {ts : List Tok} {d : Nat} {u : Tok} (h : isIn u = false) : outName ts d u = (d + 1) :: u := by
  unfold outName
  split
  · simp [isIn] at h
  · rfl

theorem inName_isIn {ts : List Tok} {t : Tok} : isIn (inName ts t) = true := by
  unfold inName
  split <;> rfl

mutual
theorem ren_isIn {ts : List Tok} : ∀ (d : DV), ∀ u ∈ toks (ren (inName ts) d), isIn u = true
  | .sc _, u, hu => by simp [ren, toks] at hu
  | .pref _, u, hu => by simp [ren, toks] at hu
  | .lst .., u, hu => by simp [ren, toks] at hu
  | .any, u, hu => by simp [ren, toks] at hu
  | .ptr .., u, hu => by simp only [ren, toks, List.mem_singleton] at hu; subst hu; exact inName_isIn
  | .rptr .., u, hu => by simp only [ren, toks, List.mem_singleton] at hu; subst hu; exact inName_isIn
  | .row .., u, hu => by simp only [ren, toks, List.mem_singleton] at hu; subst hu; exact inName_isIn
  | .map .., u, hu => by simp only [ren, toks, List.mem_singleton] at hu; subst hu; exact inName_isIn
  | .fn _ a b, u, hu => by
    simp only [ren, toks, List.mem_append] at hu
    rcases hu with hu | hu
    · exact renL_isIn a u hu
    · exact renL_isIn b u hu
  | .iface _ v, u, hu => by simp only [ren, toks] at hu; exact ren_isIn v u hu
  | .agg cs, u, hu => by simp only [ren, toks] at hu; exact renL_isIn cs u hu
  | .tup cs, u, hu => by simp only [ren, toks] at hu; exact renL_isIn cs u hu
theorem renL_isIn {ts : List Tok} : ∀ (l : List DV), ∀ u ∈ toksL (renL (inName ts) l), isIn u = true
  | [], u, hu => by simp [renL, toksL] at hu
  | d :: ds, u, hu => by
    simp only [renL, toksL, List.mem_append] at hu
    rcases hu with hu | hu
    · exact ren_isIn d u hu
    · exact renL_isIn ds u hu
end

theorem renE_isIn {ts : List Tok} : ∀ (l : List (Value × DV × Nat)), ∀ u ∈ toksE (renE (inName ts) l), isIn u = true
  | [], u, hu => by simp [renE, toksE] at hu
  | (k, d, n) :: l, u, hu => by
    simp only [renE, toksE, List.mem_append] at hu
    rcases hu with hu | hu
    · exact ren_isIn d u hu
    · exact renE_isIn l u hu

theorem AObj.ren_isIn {ts : List Tok} (o : AObj) : ∀ u ∈ (o.ren (inName ts)).toks, isIn u = true := by
  intro u hu
  cases o <;> simp only [AObj.ren, AObj.toks, List.not_mem_nil] at hu
  · exact Go.Di.renL_isIn _ u hu
  · exact renE_isIn _ u hu

/-- What the callee is handed. -/
theorem handed_get {ts : List Tok} (hinj : ∀ t ∈ ts, ∀ t' ∈ ts, inName ts t = inName ts t' → t = t') : ∀ {us : List Tok} {h0 : Hl}, (∀ t ∈ us, t ∈ ts) → nodup us = true → handed h ts (inName ts) us = some h0 →
    (∀ t ∈ us, ∃ o, h t = some o ∧ (∀ x ∈ o.toks, x ∈ ts) ∧ h0.get (inName ts t) = some (o.ren (inName ts))) ∧
    (∀ u o', h0.get u = some o' → ∃ t o, t ∈ us ∧ u = inName ts t ∧ h t = some o ∧ o' = o.ren (inName ts) ∧ ∀ x ∈ o.toks, x ∈ ts)
  | [], h0, _, _, hh => by
    simp only [handed, Option.some.injEq] at hh
    subst hh
    exact ⟨(fun t ht => by cases ht), fun u o' hu => by simp [Hl.get] at hu⟩
  | t :: us, h0, hsub, hn, hh => by
    simp only [nodup, Bool.and_eq_true, Bool.not_eq_true'] at hn
    have hnt : t ∉ us := by simpa using hn.1
    simp only [handed] at hh
    cases ho : h t with
    | none => simp [ho] at hh
    | some o =>
      cases hl : handed h ts (inName ts) us with
      | none => simp [ho, hl] at hh
      | some l =>
        simp only [ho, hl] at hh
        split at hh
        · rename_i hall
          cases hh
          have hall' : ∀ x ∈ o.toks, x ∈ ts := fun x hx => by simpa using List.all_eq_true.1 hall x hx
          obtain ⟨i1, i2⟩ := handed_get hinj (us := us) (fun x hx => hsub x (by simp [hx])) hn.2 hl
          constructor
          · intro x hx
            rcases List.mem_cons.1 hx with rfl | hx
            · exact ⟨o, ho, hall', by simp [Hl.get]⟩
            · obtain ⟨o2, e1, e2, e3⟩ := i1 x hx
              refine ⟨o2, e1, e2, ?_⟩
              have hne : inName ts t ≠ inName ts x := fun e => hnt (by
                have := hinj t (hsub t (by simp)) x (hsub x (by simp [hx])) e
                rw [this]; exact hx)
              simp only [Hl.get, if_neg hne]
              exact e3
          · intro u o' hu
            simp only [Hl.get] at hu
            split at hu
            · rename_i e
              cases hu
              exact ⟨t, o, by simp, e.symm, ho, rfl, hall'⟩
            · obtain ⟨t2, o2, e1, e2, e3, e4, e5⟩ := i2 u o' hu
              exact ⟨t2, o2, by simp [e1], e2, e3, e4, e5⟩
        · cases hh

theorem Hl.app_reverse : ∀ (l : Hl) (h : Hp) (t : Tok), Hl.app l.reverse h t = match l.get t with | some o => some o | none => h t
  | [], h, t => rfl
  | (u, o) :: l, h, t => by
    rw [List.reverse_cons, Hl.app_append]
    simp only [Hl.app, Hl.get]
    by_cases e : u = t
    · subst e; simp [Hp.set]
    · rw [Hp.set_ne _ _ (Ne.symm e), Hl.app_reverse l h t, if_neg e]

theorem Hl.get_append : ∀ (a b : Hl) (t : Tok), Hl.get (a ++ b) t = match a.get t with | some o => some o | none => b.get t
  | [], b, t => rfl
  | (u, o) :: a, b, t => by
    simp only [List.cons_append, Hl.get]
    split
    · rfl
    · exact Hl.get_append a b t

theorem backIn_get {ts : List Tok} {τ : Tok → Tok} {H : Hl} : ∀ {us : List Tok} {k : Nat} {l : Hl}, nodup us = true → backIn ts τ H k us = some l →
    (∀ i t, us[i]? = some t → ∃ o, H.get [0, k + i] = some o ∧ l.get t = some (o.ren τ)) ∧ (∀ t, t ∉ us → l.get t = none)
  | [], k, l, _, hl => by
    simp only [backIn, Option.some.injEq] at hl
    subst hl
    exact ⟨fun i t h => by simp at h, fun _ _ => rfl⟩
  | u :: us, k, l, hn, hl => by
    simp only [nodup, Bool.and_eq_true, Bool.not_eq_true'] at hn
    have hnt : u ∉ us := by simpa using hn.1
    simp only [backIn] at hl
    cases ho : H.get [0, k] with
    | none => simp [ho] at hl
    | some o =>
      cases hb : backIn ts τ H (k + 1) us with
      | none => simp [ho, hb] at hl
      | some l' =>
        simp only [ho, hb, Option.some.injEq] at hl
        subst hl
        obtain ⟨i1, i2⟩ := backIn_get (us := us) hn.2 hb
        refine ⟨fun i t h => ?_, fun t ht => ?_⟩
        · cases i with
          | zero => simp at h; subst h; exact ⟨o, by simpa using ho, by simp [Hl.get]⟩
          | succ i =>
            simp at h
            obtain ⟨o2, e1, e2⟩ := i1 i t h
            refine ⟨o2, by rw [← e1, show k + (i + 1) = k + 1 + i by omega], ?_⟩
            have hne : u ≠ t := fun e => hnt (e ▸ List.mem_of_getElem? h)
            simp only [Hl.get, if_neg hne]; exact e2
        · simp only [List.mem_cons, not_or] at ht
          simp only [Hl.get, if_neg (Ne.symm ht.1)]
          exact i2 t ht.2

theorem backNew_get {ts : List Tok} {d : Nat} : ∀ (H : Hl), (∀ u, isIn u = false → (backNew (outName ts d) H).get ((d + 1) :: u) = (H.get u).map (AObj.ren (outName ts d))) ∧
    (∀ t o, (backNew (outName ts d) H).get t = some o → ∃ u, isIn u = false ∧ t = (d + 1) :: u)
  | [] => ⟨fun _ _ => rfl, fun t o h => by simp [backNew, Hl.get] at h⟩
  | (v, o) :: H => by
    obtain ⟨i1, i2⟩ := backNew_get (ts := ts) (d := d) H
    by_cases hv : isIn v = true
    · refine ⟨fun u hu => ?_, fun t o' h => ?_⟩
      · have : v ≠ u := fun e => by rw [e, hu] at hv; cases hv
        simp only [backNew, hv, if_true, Hl.get, if_neg this]
        exact i1 u hu
      · simp only [backNew, hv, if_true] at h; exact i2 t o' h
    · have hv : isIn v = false := by simpa using hv
      have hname := outName_new (ts := ts) (d := d) hv
      refine ⟨fun u hu => ?_, fun t o' h => ?_⟩
      · simp only [backNew, hv, Bool.false_eq_true, if_false, Hl.get, hname]
        by_cases e : v = u
        · subst e; simp
        · rw [if_neg (by simpa using e), if_neg e]; exact i1 u hu
      · simp only [backNew, hv, Bool.false_eq_true, if_false, Hl.get, hname] at h
        split at h
        · rename_i e; exact ⟨v, hv, e.symm⟩
        · exact i2 t o' h

theorem okHl_spec {H : Hl} {n : Nat} : ∀ {l : Hl}, okHl H n l = true → ∀ u o, l.get u = some o → ∀ x ∈ o.toks, okTok H n x = true
  | [], _, u, o, h => by simp [Hl.get] at h
  | (v, o') :: l, hk, u, o, h => by
    simp only [okHl, Bool.and_eq_true] at hk
    simp only [Hl.get] at h
    split at h
    · cases h; exact fun x hx => List.all_eq_true.1 hk.1 x hx
    · exact okHl_spec hk.2 u o h

/-- What the callee is handed, as it sees it; and from what it leaves to what the caller has. -/
theorem call_frame (r : Rel W0 ρ F h w) {args : List DV} {ts : List Tok} {h0 : Hl} (hnd : nodup ts = true) (hargs : (toksL args).all ts.contains = true) (h0e : handed h ts (inName ts) ts = some h0)
    {vs : Array Value} (hv : RepL ρ F h w args vs.toList) :
    ∃ ρc : Rho, Rel W0 ρc F h0.get w ∧ RepL ρc F h0.get w (renL (inName ts) args) vs.toList ∧ (∀ u ∈ toksL (renL (inName ts) args), isIn u = true) ∧ (∀ u o, h0.get u = some o → isIn u = true ∧ ∀ x ∈ o.toks, isIn x = true) ∧
      ∀ {d : Nat} {H2 l : Hl} {T : Tok → Prop}, backIn ts (outName ts d) H2 0 ts = some l → okHl H2 ts.length H2 = true → (∀ t, T t → ∀ u, isIn u = false → (H2.get u).isSome = true → t ≠ (d + 1) :: u) → (∀ u o, h u = some o → ∀ t ∈ o.toks, ∀ u, isIn u = false → (H2.get u).isSome = true → t ≠ (d + 1) :: u) → (∀ t ∈ ts, ∀ u, isIn u = false → (H2.get u).isSome = true → t ≠ (d + 1) :: u) →
        ∀ {w2 : World} {ρ2 : Rho} {F2 : Nat → Prop}, Rel W0 ρ2 F2 H2.get w2 → Ext ρc F h0.get w ρ2 F2 H2.get w2 → Keep (fun t => isIn t = true) ρc F h0.get w ρ2 F2 H2.get w2 →
        ∃ ρ3, Good W0 T ρ F h w ρ3 F2 (Hl.app (l ++ backNew (outName ts d) H2).reverse h) w2 ∧ ∀ dv v, (∀ t ∈ toks dv, okTok H2 ts.length t = true) → RepV ρ2 F2 H2.get w2 dv v → RepV ρ3 F2 (Hl.app (l ++ backNew (outName ts d) H2).reverse h) w2 (ren (outName ts d) dv) v := by
  have hinj : ∀ t ∈ ts, ∀ t' ∈ ts, inName ts t = inName ts t' → t = t' := fun t ht t' ht' e => by
    obtain ⟨i, h1, h2⟩ := inName_mem ht
    obtain ⟨j, h3, h4⟩ := inName_mem ht'
    rw [h2, h4] at e
    simp at e
    subst e
    rw [h1] at h3; exact Option.some.inj h3
  obtain ⟨a1, a2⟩ := handed_get hinj (fun _ h => h) hnd h0e
  -- the callee's names
  let ρc : Rho := fun u => match u with | [0, i] => (ts[i]?).bind ρ | _ => none
  have ρc_in : ∀ t ∈ ts, ρc (inName ts t) = ρ t := fun t ht => by
    obtain ⟨i, h1, h2⟩ := inName_mem ht
    rw [h2]; simp [ρc, h1]
  have len_in : ∀ t ∈ ts, Hp.len? h0.get (inName ts t) = h.len? t := fun t ht => by
    obtain ⟨o, h1, _, h3⟩ := a1 t ht
    simp [Hp.len?, h1, h3, len_ren]
  have own_c : ∀ b, Own ρc h0.get b → ∃ t o, t ∈ ts ∧ h t = some o ∧ owns o = true ∧ ρ t = some b := by
    rintro b ⟨u, o', h1, h2, h3⟩
    obtain ⟨t, o, e1, rfl, e3, rfl, _⟩ := a2 u o' h1
    rw [owns_ren] at h2
    rw [ρc_in t e1] at h3
    exact ⟨t, o, e1, e3, h2, h3⟩
  have relc : Rel W0 ρc F h0.get w := by
    refine ⟨r.base, fun u o' hu => ?_, r.fin, fun b hb => ?_, fun u o1 u' o2 b h1 h2 h3 h4 h5 h6 => ?_⟩
    · obtain ⟨t, o, e1, rfl, e3, rfl, e5⟩ := a2 u o' hu
      exact RepO.ren (ρc_in t e1) (fun x hx => ⟨ρc_in x (e5 x hx), len_in x (e5 x hx)⟩) (r.obj t o e3)
    · obtain ⟨t, o, _, e2, e3, e4⟩ := own_c b hb
      exact r.sep b ⟨t, o, e2, e3, e4⟩
    · obtain ⟨t, o, e1, rfl, e3, rfl, _⟩ := a2 u o1 h1
      obtain ⟨t', o', e1', rfl, e3', rfl, _⟩ := a2 u' o2 h3
      rw [owns_ren] at h2 h4
      rw [ρc_in t e1] at h5; rw [ρc_in t' e1'] at h6
      rw [r.inj t o t' o' b e3 h2 e3' h4 h5 h6]
  have hargs' : ∀ x ∈ toksL args, x ∈ ts := fun x hx => by simpa using List.all_eq_true.1 hargs x hx
  refine ⟨ρc, relc, RepL.ren (fun x hx => ⟨ρc_in x (hargs' x hx), len_in x (hargs' x hx)⟩) hv, renL_isIn args, fun u o' hu => ?_, ?_⟩
  · obtain ⟨t, o, _, rfl, _, rfl, _⟩ := a2 u o' hu
    exact ⟨inName_isIn, AObj.ren_isIn o⟩
  intro d H2 l T hl hok hT hfr hts w2 ρ2 F2 r2 e2 k2
  obtain ⟨b1, b2⟩ := backIn_get hnd hl
  obtain ⟨c1, c2⟩ := backNew_get (ts := ts) (d := d) H2
  -- the names behind
  let ρ3 : Rho := fun t => if t ∈ ts then ρ2 (inName ts t) else match t with
    | n :: u => if n = d + 1 ∧ isIn u = false ∧ (H2.get u).isSome = true then ρ2 u else ρ t
    | [] => ρ t
  have ρ3_in : ∀ t ∈ ts, ρ3 t = ρ2 (inName ts t) := fun t ht => by simp only [ρ3, if_pos ht]
  have new_not : ∀ u, isIn u = false → (H2.get u).isSome = true → (d + 1) :: u ∉ ts := fun u h1 h2 hu => hts _ hu u h1 h2 rfl
  have ρ3_new : ∀ u, isIn u = false → (H2.get u).isSome = true → ρ3 ((d + 1) :: u) = ρ2 u := fun u h1 h2 => by
    simp only [ρ3, if_neg (new_not u h1 h2)]; rw [if_pos ⟨trivial, h1, h2⟩]
  have ρ3_old : ∀ t, t ∉ ts → (∀ u, isIn u = false → (H2.get u).isSome = true → t ≠ (d + 1) :: u) → ρ3 t = ρ t := fun t h1 h2 => by
    simp only [ρ3, if_neg h1]
    split
    · rename_i n u; rw [if_neg]; rintro ⟨e, e1, e2⟩; subst e; exact h2 u e1 e2 rfl
    · rfl
  generalize hh3 : Hl.app (l ++ backNew (outName ts d) H2).reverse h = h3
  have app_eq : ∀ t, h3 t = match (l ++ backNew (outName ts d) H2).get t with | some o => some o | none => h t := fun t => by rw [← hh3, Hl.app_reverse]
  have h3_in : ∀ i t, ts[i]? = some t → ∃ o, H2.get [0, i] = some o ∧ h3 t = some (o.ren (outName ts d)) := fun i t ht => by
    obtain ⟨o, e1, e3⟩ := b1 i t ht
    rw [Nat.zero_add] at e1
    exact ⟨o, e1, by rw [app_eq, Hl.get_append, e3]⟩
  have h3_new : ∀ u o, isIn u = false → H2.get u = some o → h3 ((d + 1) :: u) = some (o.ren (outName ts d)) := fun u o h1 h2 => by
    rw [app_eq, Hl.get_append, b2 _ (new_not u h1 (by simp [h2])), c1 u h1, h2]; rfl
  have h3_old : ∀ t, t ∉ ts → (∀ u, isIn u = false → (H2.get u).isSome = true → t ≠ (d + 1) :: u) → h3 t = h t := fun t h1 h2 => by
    rw [app_eq, Hl.get_append, b2 t h1]
    cases hb : (backNew (outName ts d) H2).get t with
    | none => rfl
    | some o =>
      obtain ⟨u, hu, rfl⟩ := c2 t o hb
      have := c1 u hu
      rw [hb] at this
      refine absurd rfl (h2 u hu ?_)
      cases hg : H2.get u with
      | none => simp [hg] at this
      | some _ => rfl
  have h3_cases : ∀ t o', h3 t = some o' → (∃ u o, t = outName ts d u ∧ H2.get u = some o ∧ o' = o.ren (outName ts d) ∧ ρ3 t = ρ2 u ∧ (isIn u = true → ∃ i, u = [0, i] ∧ ts[i]? = some t)) ∨ (t ∉ ts ∧ h t = some o' ∧ ρ3 t = ρ t) := fun t o' ht => by
    by_cases hm : t ∈ ts
    · obtain ⟨i, e1, e3⟩ := inName_mem hm
      obtain ⟨o, e4, e5⟩ := h3_in i t e1
      rw [e5] at ht; cases ht
      exact .inl ⟨[0, i], o, (outName_in e1).symm, e4, rfl, by rw [ρ3_in t hm, e3], fun _ => ⟨i, rfl, e1⟩⟩
    · rw [app_eq, Hl.get_append, b2 t hm] at ht
      cases hb : (backNew (outName ts d) H2).get t with
      | none =>
        simp only [hb] at ht
        refine .inr ⟨hm, ht, ρ3_old t hm fun u h1 h2 e => ?_⟩
        subst e
        have := c1 u h1
        rw [hb] at this
        cases hg : H2.get u with
        | none => simp [hg] at h2
        | some o => simp [hg] at this
      | some o =>
        obtain ⟨u, h1, rfl⟩ := c2 t o hb
        have := c1 u h1
        rw [hb] at this
        cases hg : H2.get u with
        | none => simp [hg] at this
        | some o1 =>
          simp only [hb] at ht
          rw [hg] at this
          simp at this
          cases ht
          exact .inl ⟨u, o1, (outName_new h1).symm, hg, this, ρ3_new u h1 (by simp [hg]), fun hi => by rw [h1] at hi; cases hi⟩
  have okname : ∀ u, okTok H2 ts.length u = true → ρ3 (outName ts d u) = ρ2 u ∧ h3.len? (outName ts d u) = Hp.len? H2.get u := fun u hu => by
    by_cases hi : ∃ i, u = [0, i]
    · obtain ⟨i, rfl⟩ := hi
      simp only [okTok, decide_eq_true_eq] at hu
      have e1 := List.getElem?_eq_getElem hu
      have hm := List.mem_of_getElem? e1
      obtain ⟨j, e3, e4⟩ := inName_mem hm
      have := nodup_spec hnd e1 e3
      subst this
      rw [outName_in e1]
      obtain ⟨o, e5, e6⟩ := h3_in i _ e1
      refine ⟨by rw [ρ3_in _ hm, e4], by simp [Hp.len?, e5, e6, len_ren]⟩
    · have hu' : (!isIn u && (H2.get u).isSome) = true := by
        unfold okTok at hu
        split at hu
        · rename_i i; exact absurd ⟨i, rfl⟩ hi
        · exact hu
      simp only [Bool.and_eq_true, Bool.not_eq_true'] at hu'
      obtain ⟨o, hg⟩ := Option.isSome_iff_exists.1 hu'.2
      rw [outName_new hu'.1]
      exact ⟨ρ3_new u hu'.1 hu'.2, by simp [Hp.len?, hg, h3_new u o hu'.1 hg, len_ren]⟩
  have keepT : Keep (fun t => ∀ u, isIn u = false → (H2.get u).isSome = true → t ≠ (d + 1) :: u) ρ F h w ρ3 F2 h3 w2 := by
    refine ⟨k2.imp, k2.blk, fun t ht hn => ?_, fun t m ht hm => ?_⟩
    · by_cases hmem : t ∈ ts
      · obtain ⟨i, e1, e3⟩ := inName_mem hmem
        obtain ⟨o, e4, e5⟩ := h3_in i t e1
        have hn2 : Hp.len? H2.get [0, i] = none := by simpa [Hp.len?, e4, e5, len_ren] using hn
        obtain ⟨h1, h2⟩ := k2.non [0, i] rfl hn2
        rw [← e3, len_in t hmem] at h1
        refine ⟨h1, fun b hb => ?_⟩
        rw [ρ3_in t hmem, e3]
        exact h2 b (by rw [← e3, ρc_in t hmem]; exact hb)
      · refine ⟨?_, fun b hb => by rw [ρ3_old t hmem ht]; exact hb⟩
        simpa [Hp.len?, h3_old t hmem ht] using hn
    · by_cases hmem : t ∈ ts
      · obtain ⟨i, e1, e3⟩ := inName_mem hmem
        obtain ⟨o, e4, e5⟩ := h3_in i t e1
        have hm2 : Hp.len? H2.get [0, i] = some m := by simpa [Hp.len?, e4, e5, len_ren] using hm
        obtain ⟨m0, h1, h2, h3'⟩ := k2.row [0, i] m rfl hm2
        rw [← e3, len_in t hmem] at h1
        refine ⟨m0, h1, h2, fun e b hb => ?_⟩
        rw [ρ3_in t hmem, e3]
        exact h3' e b (by rw [← e3, ρc_in t hmem]; exact hb)
      · refine ⟨m, by simpa [Hp.len?, h3_old t hmem ht] using hm, Nat.le_refl _, fun _ b hb => ⟨by rw [ρ3_old t hmem ht]; exact hb, fun k hk => ?_⟩⟩
        -- a row that was not handed on: its block is as it was
        have hob : ¬ Own ρc h0.get b := fun hob => by
          obtain ⟨t', o', e1, e3, e4, e5⟩ := own_c b hob
          have hrow : ∃ o, h t = some o ∧ o.len? = some m := by
            have := hm
            simp only [Hp.len?, h3_old t hmem ht, Option.bind_eq_some_iff] at this
            exact this
          obtain ⟨o, e6, e7⟩ := hrow
          cases o with
          | row ty sz xs => exact hmem (r.inj t _ t' o' b e6 rfl e3 e4 hb e5 ▸ e1)
          | frz ty sz xs =>
            have := r.obj t _ e6
            simp only [RepO] at this
            exact r.sep b ⟨t', o', e3, e4, e5⟩ (this.2.2.2.1 b hb)
          | _ => simp [AObj.len?] at e7
        exact capOk_of (e2.keep b (capOk_lt hk) hob) hk
  have own_old : ∀ b, Own ρ3 h3 b → Own ρ2 H2.get b ∨ ∃ t o, t ∉ ts ∧ h t = some o ∧ owns o = true ∧ ρ t = some b := by
    rintro b ⟨t, o', h1, h2, h3'⟩
    rcases h3_cases t o' h1 with ⟨u, o, _, e2', rfl, e4, _⟩ | ⟨e1, e2', e3⟩
    · rw [owns_ren] at h2; exact .inl ⟨u, o, e2', h2, by rw [← e4]; exact h3'⟩
    · exact .inr ⟨t, o', e1, e2', h2, by rw [← e3]; exact h3'⟩
  have apart : ∀ b t o, t ∉ ts → h t = some o → owns o = true → ρ t = some b → ¬ Own ρ2 H2.get b := fun b t o h1 h2 h3' h4 hob => by
    obtain ⟨t', o', e1, e3, e4, e5⟩ := own_c b (e2.newO b (own_lt r ⟨t, o, h2, h3', h4⟩) hob)
    exact h1 (r.inj t o t' o' b h2 h3' e3 e4 h4 e5 ▸ e1)
  have apartF : ∀ b t o, t ∉ ts → h t = some o → owns o = true → ρ t = some b → ¬ Own ρc h0.get b := fun b t o h1 h2 h3' h4 hob => by
    obtain ⟨t', o', e1, e3, e4, e5⟩ := own_c b hob
    exact h1 (r.inj t o t' o' b h2 h3' e3 e4 h4 e5 ▸ e1)
  have own_in : ∀ b, Own ρc h0.get b → Own ρ h b := fun b hb => by
    obtain ⟨t, o, _, e2', e3, e4⟩ := own_c b hb
    exact ⟨t, o, e2', e3, e4⟩
  have good : Good W0 T ρ F h w ρ3 F2 h3 w2 := by
    refine ⟨⟨r2.base, fun t o' ht => ?_, r2.fin, fun b hb => ?_, fun t1 o1 t2 o2 b h1 h2 h3' h4 h5 h6 => ?_⟩, keepT.weaken hT,
      ⟨e2.os, e2.tape, e2.output, e2.size, fun b hb hno => e2.keep b hb fun hc => hno (own_in b hc), e2.imp, fun b hb hF => ?_, fun b hb ho => ?_⟩⟩
    · rcases h3_cases t o' ht with ⟨u, o, rfl, e2', rfl, e4, e5⟩ | ⟨e1, e2', e3⟩
      · exact RepO.ren e4 (fun x hx => okname x (okHl_spec hok u o e2' x hx)) (r2.obj u o e2')
      · exact RepO.keep keepT e3 (fun b hb hw => e2.keep b (own_lt r ⟨t, o', e2', hw, hb⟩) (apartF b t o' e1 e2' hw hb)) (fun x hx => hfr t o' e2' x hx) (r.obj t o' e2')
    · rcases own_old b hb with h1 | ⟨t, o, h1, h2, h3', h4⟩
      · exact r2.sep b h1
      · intro hF
        rcases e2.newF b (own_lt r ⟨t, o, h2, h3', h4⟩) hF with h5 | h5
        · exact r.sep b ⟨t, o, h2, h3', h4⟩ h5
        · exact apartF b t o h1 h2 h3' h4 h5
    · rcases h3_cases t1 o1 h1 with ⟨u1, p1, a3, a4, rfl, a6, a7⟩ | ⟨a3, a4, a5⟩
      · rcases h3_cases t2 o2 h3' with ⟨u2, p2, b3, b4, rfl, b6, b7⟩ | ⟨b3, b4, b5⟩
        · rw [owns_ren] at h2 h4
          rw [a6] at h5; rw [b6] at h6
          have := r2.inj u1 p1 u2 p2 b a4 h2 b4 h4 h5 h6
          rw [a3, b3, this]
        · rw [owns_ren] at h2
          rw [a6] at h5; rw [b5] at h6
          exact (apart b t2 o2 b3 b4 h4 h6 ⟨u1, p1, a4, h2, h5⟩).elim
      · rcases h3_cases t2 o2 h3' with ⟨u2, p2, b3, b4, rfl, b6, b7⟩ | ⟨b3, b4, b5⟩
        · rw [owns_ren] at h4
          rw [b6] at h6; rw [a5] at h5
          exact (apart b t1 o1 a3 a4 h2 h5 ⟨u2, p2, b4, h4, h6⟩).elim
        · rw [a5] at h5; rw [b5] at h6
          exact r.inj t1 o1 t2 o2 b a4 h2 b4 h4 h5 h6
    · rcases e2.newF b hb hF with h1 | h1
      · exact .inl h1
      · exact .inr (own_in b h1)
    · rcases own_old b ho with h1 | ⟨t, o, _, h2, h3', h4⟩
      · exact own_in b (e2.newO b hb h1)
      · exact ⟨t, o, h2, h3', h4⟩
  exact ⟨ρ3, good, fun dv v hdv hr => RepV.ren (fun t ht => okname t (hdv t ht)) hr⟩

theorem ok_call_imp (r : Rel W0 ρ F h w) {f : FuncId} {sp : FSpec} (hsp : FnOk P W0 f sp) (hp : sp.pure = false) {args : List DV} {ts : List Tok} {d : Nat} {h0 : Hl} {q : Out × Hl} {l : Hl}
    (hnd : nodup ts = true) (hargs : (toksL args).all ts.contains = true) (h0e : handed h ts (inName ts) ts = some h0) (hq : sp.run (renL (inName ts) args) h0 = some q)
    (hl : backIn ts (outName ts d) q.2 0 ts = some l) (hok : okHl q.2 ts.length q.2 = true) (hok2 : q.1.toks.all (okTok q.2 ts.length) = true)
    {vs : Array Value} (hv : RepL ρ F h w args vs.toList) (hT : ∀ t, T t → ∀ u, isIn u = false → (q.2.get u).isSome = true → t ≠ (d + 1) :: u) (hfr : ∀ u o, h u = some o → ∀ t ∈ o.toks, ∀ u, isIn u = false → (q.2.get u).isSome = true → t ≠ (d + 1) :: u) (hts : ∀ t ∈ ts, ∀ u, isIn u = false → (q.2.get u).isSome = true → t ≠ (d + 1) :: u) :
    CallOk P W0 T ρ F h w ⟨q.1.ren (outName ts d), ts, (l ++ backNew (outName ts d) q.2).reverse⟩ f vs := by
  obtain ⟨ρc, relc, hvc, i1, i2, out⟩ := call_frame r hnd hargs h0e hv
  refine (hsp.2 _ h0 q.1 q.2 hq (fun e => by rw [hp] at e; cases e) ρc F w vs relc hvc i1 i2).mono ?_
  rintro en w2 ⟨ρ2, F2, r2, e2, k2, ho⟩
  obtain ⟨ρ3, good, hrep⟩ := out (T := T) hl hok hT hfr hts r2 e2 k2
  refine ⟨ρ3, F2, good, ?_⟩
  show RepOut ρ3 F2 _ w2 (q.1.ren (outName ts d)) en
  cases hq1 : q.1 with
  | ret dv =>
    rw [hq1] at ho hok2
    obtain ⟨v, rfl, hr⟩ := ho
    exact ⟨v, rfl, hrep dv v (fun t ht => List.all_eq_true.1 hok2 t ht) hr⟩
  | pnc dv =>
    rw [hq1] at ho hok2
    obtain ⟨v, rfl, hr⟩ := ho
    exact ⟨v, rfl, hrep dv v (fun t ht => List.all_eq_true.1 hok2 t ht) hr⟩
end
end Go.Di
