/- Which names come out of an operation. -/
import Derived.Test.YtnmjgpnidpgimaaGreatDoorDiLocal
namespace Go.Di
open Go.RowKit
set_option linter.unusedSectionVars false
set_option linter.unusedSimpArgs false
set_option linter.unusedVariables false

def cst : DOp → List DV
  | .alloc _ z => z
  | .build z _ => z
  | .bslice _ _ _ z _ => [z]
  | .tas _ z _ _ => [z]
  | .ex (.lkup _ z _) _ => [z]
  | _ => []

theorem toksL_iff {l : List DV} {t : Tok} : t ∈ toksL l ↔ ∃ d ∈ l, t ∈ toks d := by
  induction l with
  | nil => simp [toksL]
  | cons x xs ih => simp [toksL, ih]

theorem toks_cells_sub {d : DV} {t : Tok} : t ∈ toksL d.cells ↔ t ∈ toks d := toksL_cells

theorem frzAll_toks {h : Hp} {ts : List Tok} {u : Tok} {o : AObj} (hm : (u, o) ∈ frzAll h ts) : o.toks = [] ∧ u ∈ ts := by
  simp only [frzAll, List.mem_flatMap] at hm
  obtain ⟨t, ht, hm⟩ := hm
  unfold frzUpd at hm
  split at hm
  · simp at hm; obtain ⟨rfl, rfl⟩ := hm; exact ⟨rfl, ht⟩
  · cases hm

-- what is closed
mutual
theorem res_closed {h : Hp} : ∀ {d d' : DV} {ts : List Tok}, res h d = some (d', ts) → toks d' = []
  | .row sz t n off len, d', ts, hr => by
    simp only [res] at hr
    split at hr
    · split at hr
      · cases hr; rfl
      · cases hr
    · cases hr
  | .agg cs, d', ts, hr => by
    simp only [res, Option.map_eq_some_iff] at hr
    obtain ⟨p, hp, e⟩ := hr
    cases e
    simpa [toks] using resL_closed hp
  | .iface ty d, d', ts, hr => by
    simp only [res, Option.map_eq_some_iff] at hr
    obtain ⟨p, hp, e⟩ := hr
    cases e
    simpa [toks] using res_closed (d' := p.1) (ts := p.2) hp
  | .tup cs, d', ts, hr => by
    simp only [res, Option.map_eq_some_iff] at hr
    obtain ⟨p, hp, e⟩ := hr
    cases e
    simpa [toks] using resL_closed hp
  | .fn f a b, d', ts, hr => by
    simp only [res] at hr
    cases hp : resL h a with
    | none => simp [hp] at hr
    | some p =>
      cases hq : resL h b with
      | none => simp [hp, hq] at hr
      | some q =>
        simp only [hp, hq, Option.some.injEq, Prod.mk.injEq] at hr
        obtain ⟨rfl, rfl⟩ := hr
        simp [toks, resL_closed hp, resL_closed hq]
  | .sc v, d', ts, hr => by
    simp only [res] at hr
    split at hr
    · cases hr; rfl
    · cases hr
  | .lst sz xs kk, d', ts, hr => by simp [res] at hr; obtain ⟨rfl, _⟩ := hr; rfl
  | .pref cs, d', ts, hr => by simp [res] at hr; obtain ⟨rfl, _⟩ := hr; rfl
  | .ptr .., _, _, hr => by simp [res] at hr
  | .rptr .., _, _, hr => by simp [res] at hr
  | .map .., _, _, hr => by simp [res] at hr
  | .any, _, _, hr => by simp [res] at hr
theorem resL_closed {h : Hp} : ∀ {l : List DV} {p : List DV × List Tok}, resL h l = some p → toksL p.1 = []
  | [], p, hr => by simp [resL] at hr; subst hr; rfl
  | d :: ds, p, hr => by
    simp only [resL] at hr
    cases hp : res h d with
    | none => simp [hp] at hr
    | some q =>
      cases hq : resL h ds with
      | none => simp [hp, hq] at hr
      | some s =>
        simp only [hp, hq, Option.some.injEq] at hr
        subst hr
        simp [toksL, res_closed (d' := q.1) (ts := q.2) hp, resL_closed hq]
end

theorem pickCells_toks {cs : List DV} {off : Nat} {k : Option Nat} {d : DV} (hp : pickCells cs off k = some d) {t : Tok} (ht : t ∈ toks d) : t ∈ toksL cs := by
  cases k with
  | none => simp only [pickCells] at hp; exact toksL_iff.2 ⟨d, List.mem_of_getElem? hp, ht⟩
  | some n =>
    simp only [pickCells] at hp
    split at hp
    · cases hp
      simp only [toks] at ht
      obtain ⟨x, hx, hxt⟩ := toksL_iff.1 ht
      exact toksL_iff.2 ⟨x, List.mem_of_mem_drop (List.mem_of_mem_take hx), hxt⟩
    · cases hp

theorem fillAt_toks {cs xs : List DV} {off : Nat} {t : Tok} (ht : t ∈ toksL (fillAt cs off xs)) : t ∈ toksL cs ∨ t ∈ toksL xs := by
  obtain ⟨x, hx, hxt⟩ := toksL_iff.1 ht
  unfold fillAt at hx
  simp only [List.mem_append] at hx
  rcases hx with (hx | hx) | hx
  · exact .inl (toksL_iff.2 ⟨x, List.mem_of_mem_take hx, hxt⟩)
  · exact .inr (toksL_iff.2 ⟨x, hx, hxt⟩)
  · exact .inl (toksL_iff.2 ⟨x, List.mem_of_mem_drop hx, hxt⟩)

theorem fillParts_toks {g : DOpd → DV} {S : Tok → Prop} : ∀ {ps : List (Nat × Nat × DOpd)} {cs cs' : List DV}, fillParts g ps cs = some cs' → (∀ x ∈ ps.map (·.2.2), ∀ t ∈ toks (g x), S t) → (∀ t ∈ toksL cs, S t) → ∀ t ∈ toksL cs', S t
  | [], cs, cs', hf, _, hc => by simp only [fillParts, Option.some.injEq] at hf; subst hf; exact hc
  | (off, n, x) :: ps, cs, cs', hf, hg, hc => by
    simp only [fillParts] at hf
    split at hf
    · refine fillParts_toks hf (fun y hy => hg y (by simp [hy])) fun t ht => ?_
      rcases fillAt_toks ht with h1 | h1
      · exact hc t h1
      · exact hg x (by simp) t (toksL_cells.1 h1)
    · cases hf

mutual
theorem ren_toks {σ : Tok → Tok} : ∀ {d : DV} {t : Tok}, t ∈ toks (ren σ d) → ∃ u ∈ toks d, t = σ u
  | .sc _, t, h => by simp [ren, toks] at h
  | .pref _, t, h => by simp [ren, toks] at h
  | .lst .., t, h => by simp [ren, toks] at h
  | .any, t, h => by simp [ren, toks] at h
  | .ptr u o, t, h => by simp only [ren, toks, List.mem_singleton] at h; exact ⟨u, by simp [toks], h⟩
  | .rptr _ u _ _ _, t, h => by simp only [ren, toks, List.mem_singleton] at h; exact ⟨u, by simp [toks], h⟩
  | .row _ u _ _ _, t, h => by simp only [ren, toks, List.mem_singleton] at h; exact ⟨u, by simp [toks], h⟩
  | .map u, t, h => by simp only [ren, toks, List.mem_singleton] at h; exact ⟨u, by simp [toks], h⟩
  | .fn _ a b, t, h => by
    simp only [ren, toks, List.mem_append] at h
    rcases h with h | h
    · obtain ⟨u, hu, e⟩ := renL_toks h; exact ⟨u, by simp [toks, hu], e⟩
    · obtain ⟨u, hu, e⟩ := renL_toks h; exact ⟨u, by simp [toks, hu], e⟩
  | .iface _ v, t, h => by simp only [ren, toks] at h; obtain ⟨u, hu, e⟩ := ren_toks h; exact ⟨u, by simp [toks, hu], e⟩
  | .agg cs, t, h => by simp only [ren, toks] at h; obtain ⟨u, hu, e⟩ := renL_toks h; exact ⟨u, by simp [toks, hu], e⟩
  | .tup cs, t, h => by simp only [ren, toks] at h; obtain ⟨u, hu, e⟩ := renL_toks h; exact ⟨u, by simp [toks, hu], e⟩
theorem renL_toks {σ : Tok → Tok} : ∀ {l : List DV} {t : Tok}, t ∈ toksL (renL σ l) → ∃ u ∈ toksL l, t = σ u
  | [], t, h => by simp [renL, toksL] at h
  | d :: ds, t, h => by
    simp only [renL, toksL, List.mem_append] at h
    rcases h with h | h
    · obtain ⟨u, hu, e⟩ := ren_toks h; exact ⟨u, by simp [toksL, hu], e⟩
    · obtain ⟨u, hu, e⟩ := renL_toks h; exact ⟨u, by simp [toksL, hu], e⟩
end

theorem renE_toks {σ : Tok → Tok} : ∀ {l : List (Value × DV × Nat)} {t : Tok}, t ∈ toksE (renE σ l) → ∃ u ∈ toksE l, t = σ u
  | [], t, h => by simp [renE, toksE] at h
  | (k, d, n) :: l, t, h => by
    simp only [renE, toksE, List.mem_append] at h
    rcases h with h | h
    · obtain ⟨u, hu, e⟩ := ren_toks h; exact ⟨u, by simp [toksE, hu], e⟩
    · obtain ⟨u, hu, e⟩ := renE_toks h; exact ⟨u, by simp [toksE, hu], e⟩

theorem AObj.ren_toks {σ : Tok → Tok} {o : AObj} {t : Tok} (h : t ∈ (o.ren σ).toks) : ∃ u ∈ o.toks, t = σ u := by
  cases o with
  | cells ty cs => exact renL_toks h
  | mp es c => exact renE_toks h
  | _ => simp [AObj.ren, AObj.toks] at h

/-- What comes back under a name is one that was handed in, or the operation's own. -/
theorem outName_S {ts : List Tok} {d : Nat} {H : Hl} {S : Tok → Prop} (hts : ∀ t ∈ ts, S t) (hd : ∀ u, isIn u = false → (H.get u).isSome = true → S ((d + 1) :: u)) {u : Tok} (hu : okTok H ts.length u = true) : S (outName ts d u) := by
  unfold okTok at hu
  split at hu
  · rename_i i
    simp only [decide_eq_true_eq] at hu
    rw [outName_in (List.getElem?_eq_getElem hu)]
    exact hts _ (List.getElem_mem hu)
  · simp only [Bool.and_eq_true, Bool.not_eq_true'] at hu
    rw [outName_new hu.1]
    exact hd u hu.1 hu.2

theorem okHl_mem {H : Hl} {n : Nat} : ∀ {l : Hl}, okHl H n l = true → ∀ u o, (u, o) ∈ l → ∀ x ∈ o.toks, okTok H n x = true
  | [], _, u, o, h => by cases h
  | (v, o') :: l, hk, u, o, h => by
    simp only [okHl, Bool.and_eq_true] at hk
    rcases List.mem_cons.1 h with h | h
    · cases h; exact fun x hx => List.all_eq_true.1 hk.1 x hx
    · exact okHl_mem hk.2 u o h

theorem Hl.get_mem : ∀ {l : Hl} {u : Tok} {o : AObj}, l.get u = some o → (u, o) ∈ l
  | [], _, _, h => by simp [Hl.get] at h
  | (v, o') :: l, u, o, h => by
    simp only [Hl.get] at h
    split at h
    · rename_i e; cases h; subst e; simp
    · exact List.mem_cons_of_mem _ (Hl.get_mem h)

theorem backIn_mem {ts : List Tok} {τ : Tok → Tok} {H : Hl} : ∀ {us : List Tok} {k : Nat} {l : Hl}, backIn ts τ H k us = some l → ∀ u o, (u, o) ∈ l → u ∈ us ∧ ∃ v o', (v, o') ∈ H ∧ o = o'.ren τ
  | [], k, l, hl, u, o, hm => by simp only [backIn, Option.some.injEq] at hl; subst hl; cases hm
  | t :: us, k, l, hl, u, o, hm => by
    simp only [backIn] at hl
    cases ho : H.get [0, k] with
    | none => simp [ho] at hl
    | some o1 =>
      cases hb : backIn ts τ H (k + 1) us with
      | none => simp [ho, hb] at hl
      | some l' =>
        simp only [ho, hb, Option.some.injEq] at hl
        subst hl
        rcases List.mem_cons.1 hm with hm | hm
        · cases hm; exact ⟨by simp, _, _, Hl.get_mem ho, rfl⟩
        · obtain ⟨h1, h2⟩ := backIn_mem hb u o hm
          exact ⟨by simp [h1], h2⟩

theorem backNew_mem {ts : List Tok} {d : Nat} : ∀ {H : Hl} (u : Tok) (o : AObj), (u, o) ∈ backNew (outName ts d) H → (∃ v, u = (d + 1) :: v) ∧ ∃ v o', (v, o') ∈ H ∧ o = o'.ren (outName ts d)
  | [], u, o, hm => by cases hm
  | (v, o1) :: H, u, o, hm => by
    simp only [backNew] at hm
    split at hm
    · obtain ⟨h1, v', o', h2, h3⟩ := backNew_mem (H := H) u o hm
      exact ⟨h1, v', o', by simp [h2], h3⟩
    · rename_i hv
      rcases List.mem_cons.1 hm with hm | hm
      · cases hm
        exact ⟨⟨v, outName_new (by simpa using hv)⟩, v, o1, by simp, rfl⟩
      · obtain ⟨h1, v', o', h2, h3⟩ := backNew_mem (H := H) u o hm
        exact ⟨h1, v', o', by simp [h2], h3⟩

theorem callEff_toks {Γ : Gam} {d : Option Nat} {h : Hp} {f : FuncId} {args : List DV} {e : Eff} {S : Tok → Prop} (he : callEff Γ d h f args = some e) (ha : ∀ t ∈ toksL args, S t) (ho : ∀ u o, h u = some o → ∀ t ∈ o.toks, S t)
    (hd : ∀ t ∈ newIn e.reads e.upds, S t) :
    (∀ t ∈ e.out.toks, S t) ∧ (∀ u o, (u, o) ∈ e.upds → ∀ t ∈ o.toks, S t) ∧ (∀ u o, (u, o) ∈ e.upds → u ∈ e.reads ∨ u ∈ newIn e.reads e.upds) := by
  unfold callEff at he
  split at he
  · cases he
  · rename_i sp hsp
    split at he
    · split at he
      · cases he
      · rename_i p hres
        split at he
        · rename_i q hq
          split at he
          · rename_i hcl
            cases he
            refine ⟨fun t ht => ?_, fun u o hm => ?_, fun u o hm => .inl (frzAll_toks hm).2⟩
            · have hcl' : ∀ dv, q.1 = .ret dv ∨ q.1 = .pnc dv → toks dv = [] := fun dv hdv => by
                rcases hdv with hdv | hdv <;> (rw [hdv] at hcl; exact toks_closed dv hcl)
              cases hq1 : q.1 with
              | ret dv => simp only [hq1, Out.toks, hcl' dv (.inl hq1)] at ht; cases ht
              | pnc dv => simp only [hq1, Out.toks, hcl' dv (.inr hq1)] at ht; cases ht
            · rw [(frzAll_toks hm).1]; intro t ht; cases ht
          · cases he
        · cases he
    · simp only at he
      split at he
      · rename_i hc
        split at he
        · rename_i h0 dd h0e
          split at he
          · rename_i q hq
            split at he
            · rename_i l hl
              split at he
              · rename_i hok2
                cases he
                simp only [Bool.and_eq_true] at hok2
                have hts := reach_mem ho ha
                have hd' : ∀ u, isIn u = false → (q.2.get u).isSome = true → S ((dd + 1) :: u) := fun u h1 h2 => by
                  have := (backNew_get (ts := reach h args) (d := dd) q.2).1 u h1
                  cases hg : q.2.get u with
                  | none => simp [hg] at h2
                  | some o =>
                    rw [hg] at this
                    have hm := get_mem this
                    exact hd _ (newIn_iff.2 ⟨noneIn_spec hok2.2 _ _ hm, _, by simp only [List.mem_reverse, List.mem_append]; exact .inr hm⟩)
                have okS := fun {u} (hu : okTok q.2 (reach h args).length u = true) => outName_S (d := dd) hts hd' hu
                refine ⟨fun t ht => ?_, fun u o hm t ht => ?_, fun u o hm => ?_⟩
                · cases hq1 : q.1 with
                  | ret dv =>
                    simp only [hq1, Out.ren, Out.toks] at ht
                    obtain ⟨u, hu, rfl⟩ := ren_toks ht
                    exact okS (List.all_eq_true.1 hok2.1.2 u (by rw [hq1]; exact hu))
                  | pnc dv =>
                    simp only [hq1, Out.ren, Out.toks] at ht
                    obtain ⟨u, hu, rfl⟩ := ren_toks ht
                    exact okS (List.all_eq_true.1 hok2.1.2 u (by rw [hq1]; exact hu))
                · have hm' : (∃ v o', (v, o') ∈ q.2 ∧ o = o'.ren (outName (reach h args) dd)) := by
                    simp only [List.mem_reverse, List.mem_append] at hm
                    rcases hm with hm | hm
                    · exact (backIn_mem hl u o hm).2
                    · exact (backNew_mem u o hm).2
                  obtain ⟨v, o', hv, rfl⟩ := hm'
                  obtain ⟨x, hx, rfl⟩ := AObj.ren_toks ht
                  exact okS (okHl_mem hok2.1.1 v o' hv x hx)
                · simp only [List.mem_reverse, List.mem_append] at hm
                  rcases hm with hm | hm
                  · exact .inl (backIn_mem hl u o hm).1
                  · exact .inr (newIn_iff.2 ⟨noneIn_spec hok2.2 _ _ hm, o, by simp [hm]⟩)
              · cases he
            · cases he
          · cases he
        · cases he
      · cases he

theorem toksL_append {a b : List DV} : toksL (a ++ b) = toksL a ++ toksL b := by
  induction a with
  | nil => rfl
  | cons x xs ih => simp [toksL, ih]

theorem nameOf_some {d : Option Nat} {t : Tok} (h : nameOf d = some t) : ∃ n, d = some n ∧ t = [n + 1] := by
  cases d with
  | none => simp [nameOf] at h
  | some n => simp [nameOf] at h; exact ⟨n, rfl, h.symm⟩

-- Are the persistent parts of a value closed?
mutual
def wf : DV → Bool
  | .pref cs => closedL cs
  | .lst _ xs _ => closedL xs
  | .fn _ a b => wfL a && wfL b
  | .iface _ v => wf v
  | .agg cs => wfL cs
  | .tup vs => wfL vs
  | _ => true
def wfL : List DV → Bool
  | [] => true
  | d :: ds => wf d && wfL ds
end

mutual
theorem rep_wf {ρ F h w} : ∀ {d : DV} {x : Value}, RepV ρ F h w d x → wf d = true
  | .sc _, _, _ => rfl
  | .ptr .., _, _ => rfl
  | .rptr .., _, _ => rfl
  | .row .., _, _ => rfl
  | .map _, _, _ => rfl
  | .any, _, _ => rfl
  | .pref cs, x, hr => by simp only [RepV] at hr; obtain ⟨b, o, _, _, hc, _⟩ := hr; exact hc
  | .lst sz xs k, x, hr => by simp only [RepV] at hr; obtain ⟨A, c, _, _, _, _, hc, _⟩ := hr; exact hc
  | .fn f a b, x, hr => by
    simp only [RepV] at hr
    obtain ⟨u, v, _, h1, h2⟩ := hr
    simp only [wf, Bool.and_eq_true]
    exact ⟨repL_wf h1, repL_wf h2⟩
  | .iface ty d, x, hr => by simp only [RepV] at hr; obtain ⟨y, _, h1⟩ := hr; show wf d = true; exact rep_wf h1
  | .agg cs, x, hr => by simp only [RepV] at hr; obtain ⟨u, _, _, h1⟩ := hr; show wfL cs = true; exact repL_wf h1
  | .tup cs, x, hr => by simp only [RepV] at hr; obtain ⟨u, _, h1⟩ := hr; show wfL cs = true; exact repL_wf h1
theorem repL_wf {ρ F h w} : ∀ {l : List DV} {xs : List Value}, RepL ρ F h w l xs → wfL l = true
  | [], _, _ => rfl
  | d :: ds, xs, hr => by
    simp only [RepL] at hr
    obtain ⟨y, ys, _, h1, h2⟩ := hr
    simp only [wfL, Bool.and_eq_true]
    exact ⟨rep_wf h1, repL_wf h2⟩
end

/-- The rows of a heap hold nothing but what is closed. -/
def RowsOk (h : Hp) : Prop := ∀ t sz xs, rowOf h t = some (sz, xs) → closedL xs = true

theorem rel_rows {W0 ρ F h w} (r : Rel W0 ρ F h w) : RowsOk h := fun t sz xs hx => (row_block r hx).2.1

theorem toksE_append {a b : List (Value × DV × Nat)} : toksE (a ++ b) = toksE a ++ toksE b := by
  induction a with
  | nil => rfl
  | cons p l ih => obtain ⟨k, d, n⟩ := p; simp [toksE, ih]

theorem findD_toks {kk : KK} {k : Value} : ∀ {es : List (Value × DV × Nat)} {i j : Nat} {d : DV}, findD kk k es i = some (some (j, d)) → ∀ t ∈ toks d, t ∈ toksE es
  | [], _, _, _, hf, _, _ => by simp [findD] at hf
  | (q, d0, n) :: es, i, j, d, hf, t, ht => by
    simp only [findD] at hf
    simp only [toksE, List.mem_append]
    split at hf
    · cases hf; exact .inl ht
    · exact .inr (findD_toks hf t ht)
    · cases hf

theorem setEnt_toks {v : DV} {t : Tok} : ∀ {es : List (Value × DV × Nat)} {i : Nat}, t ∈ toksE (setEnt es i v) → t ∈ toksE es ∨ t ∈ toks v
  | [], i, ht => by simp [setEnt, toksE] at ht
  | (q, d0, n) :: es, 0, ht => by
    simp only [setEnt, toksE, List.mem_append] at ht ⊢
    rcases ht with ht | ht
    · exact .inr ht
    · exact .inl (.inr ht)
  | (q, d0, n) :: es, i + 1, ht => by
    simp only [setEnt, toksE, List.mem_append] at ht ⊢
    rcases ht with ht | ht
    · exact .inl (.inl ht)
    · rcases setEnt_toks ht with h | h
      · exact .inl (.inr h)
      · exact .inr h

theorem opEff_toks {P : Program} {Γ : Gam} {d : Option Nat} {g : DOpd → DV} {h : Hp} {dop : DOp} {e : Eff} {S : Tok → Prop} (he : opEff P Γ d g h dop = some e) (hc : ∀ z ∈ cst dop, closed z = true) (hg : ∀ x ∈ opds dop, ∀ t ∈ toks (g x), S t) (hw : ∀ x ∈ opds dop, wf (g x) = true) (hrows : RowsOk h)
    (ho : ∀ u o, h u = some o → ∀ t ∈ o.toks, S t) (hd : ∀ t ∈ made d g dop e, S t) :
    (∀ t ∈ e.out.toks, S t) ∧ (∀ u o, (u, o) ∈ e.upds → ∀ t ∈ o.toks, S t) ∧ (∀ u o, (u, o) ∈ e.upds → u ∈ e.reads ∨ u ∈ made d g dop e) := by
  have vals : ∀ {dv : DV} {ts : List Tok}, e = ⟨.ret dv, ts, []⟩ → (∀ t ∈ toks dv, S t) → (∀ t ∈ e.out.toks, S t) ∧ (∀ u o, (u, o) ∈ e.upds → ∀ t ∈ o.toks, S t) ∧ (∀ u o, (u, o) ∈ e.upds → u ∈ e.reads ∨ u ∈ made d g dop e) := fun hee hs => by
    subst hee
    exact ⟨hs, (fun u o hm => by cases hm), (fun u o hm => by cases hm)⟩
  have objS : ∀ {u : Tok} {o : AObj}, h u = some o → ∀ t ∈ o.toks, S t := fun hu => ho _ _ hu
  cases dop <;> simp only [opds, List.mem_cons, List.not_mem_nil, or_false, forall_eq_or_imp, forall_eq] at hg hw <;> simp only [opEff] at he
  case ex k xs =>
    have hgx : ∀ x ∈ xs.map g, ∀ t ∈ toks x, S t := fun x hx => by
      obtain ⟨y, hy, rfl⟩ := List.mem_map.1 hx
      exact hg y hy
    generalize xs.map g = vs at he hgx
    unfold xEff at he
    split at he
    · simp only [Option.map_eq_some_iff] at he
      obtain ⟨p, hp, rfl⟩ := he
      exact vals rfl fun t ht => by simp [toks] at ht
    · simp only [Option.map_eq_some_iff] at he
      obtain ⟨tk, htk, rfl⟩ := he
      obtain ⟨n, rfl, rfl⟩ := nameOf_some htk
      refine ⟨fun t ht => ?_, fun u o hm t ht => ?_, fun u o hm => ?_⟩
      · simp only [Out.toks, toks, List.mem_singleton] at ht; subst ht; exact hd _ (by simp [made, mk, creates, nameOf])
      · simp only [List.mem_singleton] at hm; cases hm; simp [AObj.toks, toksE] at ht
      · simp only [List.mem_singleton] at hm; cases hm; exact .inr (by simp [made, mk, creates, nameOf])
    · rename_i kk z ok m kx
      have hz := toks_closed z (hc z (by simp [cst]))
      have hlk : ∀ {dv : DV} {b : Bool}, (∀ t ∈ toks dv, S t) → ∀ t ∈ toks (lkRes ok dv b), S t := fun {dv b} hs t ht => by
        cases ok <;> simp [lkRes, toks, toksL] at ht <;> exact hs t ht
      unfold lkupEff at he
      split at he <;> try (cases he; done)
      split at he <;> try (cases he; done)
      split at he <;> try (cases he; done)
      · rename_i tk
        split at he <;> try (cases he; done)
        rename_i es c hob
        split at he <;> try (cases he; done)
        · rename_i j d hf
          cases he
          exact vals rfl (hlk fun t ht => objS hob t (findD_toks hf t ht))
        · cases he
          exact vals rfl (hlk fun t ht => by rw [hz] at ht; cases ht)
      · cases he
        exact vals rfl (hlk fun t ht => by rw [hz] at ht; cases ht)
    · rename_i kk m kx v
      unfold mupdEff at he
      split at he <;> try (cases he; done)
      rename_i tk k
      split at he <;> try (cases he; done)
      rename_i es c _ _ hob
      have hv : ∀ t ∈ toks v, S t := hgx v (by simp)
      split at he <;> try (cases he; done)
      · cases he
        refine ⟨fun t ht => by simp [Out.toks, toks] at ht, fun u o hm t ht => ?_, fun u o hm => ?_⟩
        · simp only [List.mem_singleton] at hm; cases hm
          rcases setEnt_toks ht with ht | ht
          · exact objS hob t ht
          · exact hv t ht
        · simp only [List.mem_singleton] at hm; cases hm; exact .inl (by simp)
      · cases he
        refine ⟨fun t ht => by simp [Out.toks, toks] at ht, fun u o hm t ht => ?_, fun u o hm => ?_⟩
        · simp only [List.mem_singleton] at hm; cases hm
          simp only [AObj.toks, toksE_append, toksE, List.append_nil, List.mem_append] at ht
          rcases ht with ht | ht
          · exact objS hob t ht
          · exact hv t ht
        · simp only [List.mem_singleton] at hm; cases hm; exact .inl (by simp)
    · cases he; exact vals rfl fun t ht => by simp [toks] at ht
    · unfold b2sEff at he
      split at he <;> try (cases he; done)
      · simp only [Option.map_eq_some_iff] at he
        obtain ⟨bs, _, rfl⟩ := he
        exact vals rfl fun t ht => by simp [toks] at ht
      · split at he <;> try (cases he; done)
        split at he <;> try (cases he; done)
        simp only [Option.map_eq_some_iff] at he
        obtain ⟨bs, _, rfl⟩ := he
        exact vals rfl fun t ht => by simp [toks] at ht
    · cases he
  case mv x => cases he; exact vals rfl hg
  case pick c a b =>
    split at he
    · cases he; exact vals rfl hg.2.1
    · cases he; exact vals rfl hg.2.2
    · cases he
  case alloc ty z =>
    simp only [Option.map_eq_some_iff] at he
    obtain ⟨tk, htk, rfl⟩ := he
    obtain ⟨n, rfl, rfl⟩ := nameOf_some htk
    refine ⟨fun t ht => ?_, fun u o hm t ht => ?_, fun u o hm => ?_⟩
    · simp only [Out.toks, toks, List.mem_singleton] at ht; subst ht; exact hd _ (by simp [made, mk, creates, nameOf])
    · simp only [List.mem_singleton] at hm; cases hm
      simp only [AObj.toks] at ht
      obtain ⟨x, hx, hxt⟩ := toksL_iff.1 ht
      rw [toks_closed x (hc x hx)] at hxt; cases hxt
    · simp only [List.mem_singleton] at hm; cases hm; exact .inr (by simp [made, mk, creates, nameOf])
  case box ty x =>
    split at he
    · simp only [Option.map_eq_some_iff] at he
      obtain ⟨tk, htk, rfl⟩ := he
      obtain ⟨n, rfl, rfl⟩ := nameOf_some htk
      refine ⟨fun t ht => ?_, fun u o hm t ht => ?_, fun u o hm => ?_⟩
      · simp only [Out.toks, toks, List.mem_singleton] at ht; subst ht; exact hd _ (by simp [made, mk, creates, nameOf])
      · simp only [List.mem_singleton] at hm; cases hm
        exact hg t (toksL_cells.1 ht)
      · simp only [List.mem_singleton] at hm; cases hm; exact .inr (by simp [made, mk, creates, nameOf])
    · cases he
  case build z ps =>
    simp only [Option.map_eq_some_iff] at he
    obtain ⟨cs, hcs, rfl⟩ := he
    refine vals rfl fun t ht => fillParts_toks hcs hg (fun t ht => ?_) t (by simpa [toks] using ht)
    obtain ⟨x, hx, hxt⟩ := toksL_iff.1 ht
    rw [toks_closed x (hc x hx)] at hxt; cases hxt
  case bslice ty sz n z ps =>
    split at he
    · rename_i tk xs ts htk hs
      cases he
      obtain ⟨m, rfl, rfl⟩ := nameOf_some htk
      refine ⟨fun t ht => ?_, fun u o hm t ht => ?_, fun u o hm => ?_⟩
      · simp only [Out.toks, toks, List.mem_singleton] at ht; subst ht; exact hd _ (by simp [made, mk, creates, nameOf])
      · simp only [List.mem_append, List.mem_singleton] at hm
        rcases hm with hm | hm
        · rw [(frzAll_toks hm).1] at ht; cases ht
        · cases hm; simp [AObj.toks] at ht
      · simp only [List.mem_append, List.mem_singleton] at hm
        rcases hm with hm | hm
        · exact .inl (frzAll_toks hm).2
        · cases hm; exact .inr (by simp [made, mk, creates, nameOf])
    · cases he
  case load k x =>
    unfold loadEff at he
    split at he
    · split at he
      · rename_i ty cs hob
        simp only [Option.map_eq_some_iff] at he
        obtain ⟨dv, hp, rfl⟩ := he
        exact vals rfl fun t ht => objS hob t (pickCells_toks hp ht)
      · cases he
    · split at he
      · rename_i sz' xs hrow
        split at he
        · simp only [Option.map_eq_some_iff, Option.bind_eq_some_iff] at he
          obtain ⟨dv, ⟨el, hel, hp⟩, rfl⟩ := he
          refine vals rfl fun t ht => ?_
          have hcl := closedL_mem (hrows _ _ _ hrow) (List.mem_of_getElem? hel)
          have := toksL_cells.1 (pickCells_toks hp ht)
          rw [toks_closed _ hcl] at this; cases this
        · cases he
      · cases he
    · rename_i cs hcs
      simp only [Option.map_eq_some_iff] at he
      obtain ⟨dv, hp, rfl⟩ := he
      refine vals rfl fun t ht => ?_
      rw [hcs] at hw
      have := pickCells_toks hp ht
      rw [toksL_closed _ hw] at this; cases this
    · cases he
  case store n a x =>
    unfold storeEff at he
    split at he
    · rename_i tk off hdx
      split at he
      · rename_i ty cs hob
        split at he
        · cases he
          refine ⟨fun t ht => by simp [Out.toks, toks] at ht, fun u o hm t ht => ?_, fun u o hm => ?_⟩
          · simp only [List.mem_singleton] at hm; cases hm
            rcases fillAt_toks ht with h1 | h1
            · exact objS hob t h1
            · exact hg.2 t (toksL_cells.1 h1)
          · simp only [List.mem_singleton] at hm; cases hm; exact .inl (by simp)
        · cases he
      · cases he
    · split at he
      · rename_i ty sz' xs hob
        split at he
        · rename_i d' ts el hres hel
          split at he
          · cases he
            refine ⟨fun t ht => by simp [Out.toks, toks] at ht, fun u o hm t ht => ?_, fun u o hm => ?_⟩
            · simp only [List.mem_append, List.mem_singleton] at hm
              rcases hm with hm | hm
              · rw [(frzAll_toks hm).1] at ht; cases ht
              · cases hm; simp [AObj.toks] at ht
            · simp only [List.mem_append, List.mem_singleton] at hm
              rcases hm with hm | hm
              · exact .inl (by simp [(frzAll_toks hm).2])
              · cases hm; exact .inl (by simp)
          · cases he
        · cases he
      · cases he
    · cases he
  case nilc x =>
    split at he
    · rename_i t o hdx
      split at he
      · cases he; rw [hdx] at hg; exact vals rfl hg
      · cases he
    · rename_i sz t n i rr hdx
      split at he
      · cases he; rw [hdx] at hg; exact vals rfl hg
      · cases he
    · rename_i hdx; cases he; rw [hdx] at hg; exact vals rfl hg
    · rename_i hdx; cases he; rw [hdx] at hg; exact vals rfl hg
    · rename_i hdx; cases he; rw [hdx] at hg; exact vals rfl hg
    · cases he
  case bin op ty x y =>
    simp only [Option.map_eq_some_iff] at he
    obtain ⟨dv, hb, rfl⟩ := he
    refine vals rfl fun t ht => ?_
    unfold binEff at hb
    split at hb
    · simp only [Option.bind_eq_some_iff] at hb
      obtain ⟨v, _, hd2⟩ := hb
      split at hd2
      · cases hd2; simp [toks] at ht
      · cases hd2
    · cases hb
  case un op x =>
    split at he
    · simp only [Option.bind_eq_some_iff] at he
      obtain ⟨v, _, hd2⟩ := he
      split at hd2
      · cases hd2; exact vals rfl fun t ht => by simp [toks] at ht
      · cases hd2
    · cases he
  case cvt k x =>
    split at he
    · cases he; exact vals rfl fun t ht => by simp [toks] at ht
    · cases he
  case cvtS x =>
    split at he
    · cases he; exact vals rfl fun t ht => by simp [toks] at ht
    · cases he
  case mkif ty x => cases he; exact vals rfl fun t ht => hg t (by simpa [toks] using ht)
  case mkfn f a b =>
    cases he
    refine vals rfl fun t ht => ?_
    simp only [toks, List.mem_append] at ht
    rcases ht with ht | ht
    · obtain ⟨x, hx, hxt⟩ := toksL_iff.1 ht
      obtain ⟨y, hy, rfl⟩ := List.mem_map.1 hx
      exact hg y (by simp [hy]) t hxt
    · obtain ⟨x, hx, hxt⟩ := toksL_iff.1 ht
      obtain ⟨y, hy, rfl⟩ := List.mem_map.1 hx
      exact hg y (by simp [hy]) t hxt
  case slcS x lo hi =>
    split at he
    · unfold strCut at he
      split at he
      · split at he
        · cases he; exact vals rfl fun t ht => by simp [toks] at ht
        · cases he
      · cases he
    · cases he
  case slc sz x lo hi mx =>
    have hgx := hg x (by simp)
    unfold slcEff at he
    split at he
    · split at he
      · split at he
        · cases he; exact vals rfl fun t ht => by simp [toks] at ht
        · cases he
      · cases he
    · rename_i sz' tk n off len hdx
      rw [hdx] at hgx
      split at he
      · split at he
        · cases he; exact vals rfl fun t ht => by simp [toks] at ht
        · cases he
      · split at he
        · split at he
          · cases he; exact vals rfl fun t ht => hgx t (by simpa [toks] using ht)
          · cases he
        · cases he
    · cases he
  case faddr off x =>
    unfold faddrEff at he
    split at he
    · rename_i hdx
      rw [hdx] at hg
      split at he
      · cases he; exact vals rfl hg
      · cases he
    · rename_i hdx
      rw [hdx] at hg
      split at he
      · cases he; exact vals rfl hg
      · cases he
    · cases he; exact vals rfl fun t ht => by simp [toks] at ht
    · cases he
  case fld off k x =>
    split at he
    · rename_i cs hcs
      simp only [Option.map_eq_some_iff] at he
      obtain ⟨dv, hp, rfl⟩ := he
      rw [hcs] at hg
      exact vals rfl fun t ht => hg t (pickCells_toks hp ht)
    · cases he
  case iaddr sz x i =>
    split at he
    · split at he
      · simp only [Option.map_eq_some_iff] at he
        obtain ⟨el, _, rfl⟩ := he
        exact vals rfl fun t ht => by simp [toks] at ht
      · cases he
    · rename_i hdx _
      rw [hdx] at hg
      split at he
      · cases he; exact vals rfl fun t ht => hg.1 t (by simpa [toks] using ht)
      · cases he
    · cases he
  case idxS x i =>
    split at he
    · simp only [Option.map_eq_some_iff] at he
      obtain ⟨b, _, rfl⟩ := he
      exact vals rfl fun t ht => by simp [toks] at ht
    · cases he
  case extr x i =>
    split at he
    · rename_i vs hvs
      simp only [Option.map_eq_some_iff] at he
      obtain ⟨dv, hdv, rfl⟩ := he
      rw [hvs] at hg
      exact vals rfl fun t ht => hg t (toksL_iff.2 ⟨dv, List.mem_of_getElem? hdv, ht⟩)
    · cases he
  case tas ty z ok x =>
    simp only [Option.map_eq_some_iff] at he
    obtain ⟨dv, hdv, rfl⟩ := he
    have hz := toks_closed z (hc z (by simp [cst]))
    unfold tasEff at hdv
    split at hdv
    · rename_i u v hdx
      rw [hdx] at hg
      split at hdv
      · cases hdv
        refine vals rfl fun t ht => hg t ?_
        cases ok <;> simpa [toks, toksL] using ht
      · split at hdv
        · cases hdv; exact vals rfl fun t ht => by simp [toks, toksL, hz] at ht
        · cases hdv
    · split at hdv
      · cases hdv; exact vals rfl fun t ht => by simp [toks, toksL, hz] at ht
      · cases hdv
    · cases hdv
  case call f as =>
    obtain ⟨c1, c2, c3⟩ := callEff_toks (S := S) he (fun t ht => by
      obtain ⟨x, hx, hxt⟩ := toksL_iff.1 ht
      obtain ⟨y, hy, rfl⟩ := List.mem_map.1 hx
      exact hg y hy t hxt) ho hd
    exact ⟨c1, c2, c3⟩
  case callv f as =>
    split at he
    · rename_i n cap hfn
      obtain ⟨c1, c2, c3⟩ := callEff_toks (S := S) he (fun t ht => by
        rw [toksL_append, List.mem_append] at ht
        rcases ht with ht | ht
        · obtain ⟨x, hx, hxt⟩ := toksL_iff.1 ht
          obtain ⟨y, hy, rfl⟩ := List.mem_map.1 hx
          exact hg.2 y hy t hxt
        · have := hg.1 t
          rw [hfn] at this
          exact this (by simp [toks, toksL, ht])) ho hd
      exact ⟨c1, c2, c3⟩
    · cases he
  case app ty sz x y =>
    unfold appEff at he
    split at he
    · rename_i sz0 ys k0 ts hres
      split at he
      · split at he
        · split at he
          · split at he
            · rename_i hdx _ _ tk htk
              have hmk : mk g (.app ty sz x y) = true := by simp [mk, hdx, isRow]
              cases he
              obtain ⟨n, rfl, rfl⟩ := nameOf_some htk
              refine ⟨fun t ht => ?_, fun u o hm t ht => ?_, fun u o hm => ?_⟩
              · simp only [Out.toks, toks, List.mem_singleton] at ht; subst ht; exact hd _ (by simp [made, hmk, nameOf])
              · simp only [List.mem_append, List.mem_singleton] at hm
                rcases hm with hm | hm
                · rw [(frzAll_toks hm).1] at ht; cases ht
                · cases hm; simp [AObj.toks] at ht
              · simp only [List.mem_append, List.mem_singleton] at hm
                rcases hm with hm | hm
                · exact .inl (frzAll_toks hm).2
                · cases hm; exact .inr (by simp [made, hmk, nameOf])
            · cases he
          · cases he
        · rename_i sz1 tk n off len hdx
          rw [hdx] at hg
          split at he
          · split at he
            · cases he
              refine ⟨fun t ht => hg.1 t (by simpa [Out.toks, toks] using ht), fun u o hm t ht => ?_, fun u o hm => ?_⟩
              · simp only [List.mem_append, List.mem_singleton] at hm
                rcases hm with hm | hm
                · rw [(frzAll_toks hm).1] at ht; cases ht
                · cases hm; simp [AObj.toks] at ht
              · simp only [List.mem_append, List.mem_singleton] at hm
                rcases hm with hm | hm
                · exact .inl (by simp [(frzAll_toks hm).2])
                · cases hm; exact .inl (by simp)
            · cases he
          · cases he
        · cases he
      · cases he
    · cases he
  case len str x =>
    simp only [Option.map_eq_some_iff] at he
    obtain ⟨dv, hdv, rfl⟩ := he
    refine vals rfl fun t ht => ?_
    unfold lenEff at hdv
    split at hdv <;> first
      | (split at hdv <;> first | (cases hdv; simp [toks] at ht) | cases hdv)
      | cases hdv
  case mxmn mx x y =>
    split at he
    · cases he; exact vals rfl fun t ht => by simp [toks] at ht
    · cases he
  case panic x =>
    split at he
    · rename_i ty v hdx
      cases he
      rw [hdx] at hg
      exact ⟨fun t ht => hg t ht, (fun u o hm => by cases hm), (fun u o hm => by cases hm)⟩
    · cases he
  case rngS x =>
    split at he
    · rename_i s tk hs htk
      cases he
      obtain ⟨n, rfl, rfl⟩ := nameOf_some htk
      refine ⟨fun t ht => ?_, fun u o hm t ht => ?_, fun u o hm => ?_⟩
      · simp only [Out.toks, toks, List.mem_singleton] at ht; subst ht; exact hd _ (by simp [made, mk, creates, nameOf])
      · simp only [List.mem_singleton] at hm; cases hm; simp [AObj.toks] at ht
      · simp only [List.mem_singleton] at hm; cases hm; exact .inr (by simp [made, mk, creates, nameOf])
    · cases he
  case nxtS x =>
    split at he
    · split at he
      · split at he
        · cases he
          refine ⟨fun t ht => by simp [Out.toks, toks, toksL] at ht, fun u o hm t ht => ?_, fun u o hm => ?_⟩
          · simp only [List.mem_singleton] at hm; cases hm; simp [AObj.toks] at ht
          · simp only [List.mem_singleton] at hm; cases hm; exact .inl (by simp)
        · cases he; exact vals rfl fun t ht => by simp [toks, toksL] at ht
      · cases he
    · cases he
end Go.Di
