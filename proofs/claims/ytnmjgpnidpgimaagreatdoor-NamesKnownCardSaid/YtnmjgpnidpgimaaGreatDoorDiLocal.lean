/- What an operation over data hangs on, and which names come out of it. -/
import Derived.Test.YtnmjgpnidpgimaaGreatDoorDiWp
namespace Go.Di
open Go.RowKit
set_option linter.unusedSectionVars false
set_option linter.unusedSimpArgs false
set_option linter.unusedVariables false

def opds : DOp → List DOpd
  | .mv x | .box _ x | .load _ x | .nilc x | .un _ x | .cvt _ x | .cvtS x | .mkif _ x | .faddr _ x | .fld _ _ x | .extr x _ | .tas _ _ _ x | .len _ x | .panic x | .rngS x | .nxtS x => [x]
  | .pick c a b => [c, a, b]
  | .alloc .. => []
  | .build _ ps => ps.map (·.2.2)
  | .bslice _ _ _ _ ps => ps.map (·.2)
  | .store _ a x | .bin _ _ a x | .iaddr _ a x | .idxS a x | .app _ _ a x | .mxmn _ a x => [a, x]
  | .mkfn _ a b => a ++ b
  | .slcS x lo hi => x :: lo.toList ++ hi.toList
  | .slc _ x lo hi mx => x :: lo.toList ++ hi.toList ++ mx.toList
  | .ex _ xs => xs
  | .call _ as => as
  | .callv f as => f :: as

/-! ## The same, where what is read is the same -/
theorem rowOf_congr {h h' : Hp} {t : Tok} (he : h' t = h t) : rowOf h' t = rowOf h t := by unfold rowOf; rw [he]

mutual
theorem res_congr {h h' : Hp} : ∀ {d d' : DV} {ts : List Tok}, res h d = some (d', ts) → (∀ t ∈ ts, h' t = h t) → res h' d = some (d', ts)
  | .row sz t n off len, d', ts, hr, he => by
    simp only [res] at hr ⊢
    cases hrow : rowOf h t with
    | none => simp [hrow] at hr
    | some p =>
      simp only [hrow] at hr
      split at hr
      · rename_i hc
        cases hr
        have := rowOf_congr (he t (by simp))
        rw [this, hrow]
        simp [hc]
      · cases hr
  | .agg cs, d', ts, hr, he => by
    simp only [res, Option.map_eq_some_iff] at hr ⊢
    obtain ⟨p, hp, e⟩ := hr
    cases e
    exact ⟨p, resL_congr hp he, rfl⟩
  | .iface ty d, d', ts, hr, he => by
    simp only [res, Option.map_eq_some_iff] at hr ⊢
    obtain ⟨p, hp, e⟩ := hr
    cases e
    exact ⟨p, res_congr (d' := p.1) (ts := p.2) hp he, rfl⟩
  | .tup cs, d', ts, hr, he => by
    simp only [res, Option.map_eq_some_iff] at hr ⊢
    obtain ⟨p, hp, e⟩ := hr
    cases e
    exact ⟨p, resL_congr hp he, rfl⟩
  | .fn f a b, d', ts, hr, he => by
    simp only [res] at hr ⊢
    cases hp : resL h a with
    | none => simp [hp] at hr
    | some p =>
      cases hq : resL h b with
      | none => simp [hp, hq] at hr
      | some q =>
        simp only [hp, hq, Option.some.injEq, Prod.mk.injEq] at hr
        obtain ⟨rfl, rfl⟩ := hr
        rw [resL_congr hp fun t ht => he t (by simp [ht]), resL_congr hq fun t ht => he t (by simp [ht])]
  | .sc v, d', ts, hr, he => by simpa [res] using hr
  | .lst sz xs kk, d', ts, hr, he => by simpa [res] using hr
  | .pref cs, d', ts, hr, he => by simpa [res] using hr
  | .ptr .., _, _, hr, _ => by simp [res] at hr
  | .rptr .., _, _, hr, _ => by simp [res] at hr
  | .map .., _, _, hr, _ => by simp [res] at hr
  | .any, _, _, hr, _ => by simp [res] at hr
theorem resL_congr {h h' : Hp} : ∀ {l : List DV} {p : List DV × List Tok}, resL h l = some p → (∀ t ∈ p.2, h' t = h t) → resL h' l = some p
  | [], p, hr, _ => by simpa [resL] using hr
  | d :: ds, p, hr, he => by
    simp only [resL] at hr ⊢
    cases hp : res h d with
    | none => simp [hp] at hr
    | some q =>
      cases hq : resL h ds with
      | none => simp [hp, hq] at hr
      | some s =>
        simp only [hp, hq, Option.some.injEq] at hr
        subst hr
        rw [res_congr (d' := q.1) (ts := q.2) hp fun t ht => he t (by simp [ht]), resL_congr hq fun t ht => he t (by simp [ht])]
end

theorem frzAll_congr {h h' : Hp} : ∀ {ts : List Tok}, (∀ t ∈ ts, h' t = h t) → frzAll h' ts = frzAll h ts
  | [], _ => rfl
  | t :: ts, he => by
    show frzUpd h' t ++ frzAll h' ts = frzUpd h t ++ frzAll h ts
    rw [frzAll_congr fun x hx => he x (by simp [hx])]
    unfold frzUpd
    rw [he t (by simp)]

theorem fillParts_congr {g g' : DOpd → DV} : ∀ {ps : List (Nat × Nat × DOpd)} {cs : List DV}, (∀ x ∈ ps.map (·.2.2), g' x = g x) → fillParts g' ps cs = fillParts g ps cs
  | [], _, _ => rfl
  | (off, n, x) :: ps, cs, he => by
    have := he x (by simp)
    simp only [fillParts, this]
    split
    · exact fillParts_congr fun y hy => he y (by simp [hy])
    · rfl

theorem setParts_congr {g g' : DOpd → DV} {h h' : Hp} {sz : Nat} : ∀ {ps : List (Nat × DOpd)} {xs : List DV} {p : List DV × List Tok}, setParts h g sz ps xs = some p → (∀ x ∈ ps.map (·.2), g' x = g x) → (∀ t ∈ p.2, h' t = h t) →
    setParts h' g' sz ps xs = some p
  | [], _, _, hp, _, _ => hp
  | (i, x) :: ps, xs, p, hp, hg, he => by
    simp only [setParts] at hp ⊢
    rw [hg x (by simp)]
    cases hres : res h (g x) with
    | none => simp [hres] at hp
    | some dt =>
      obtain ⟨d, ts⟩ := dt
      simp only [hres] at hp
      split at hp
      · rename_i hc
        simp only [Option.map_eq_some_iff] at hp
        obtain ⟨p', hp', rfl⟩ := hp
        rw [res_congr hres fun t ht => he t (by simp [ht])]
        simp only [if_pos hc, Option.map_eq_some_iff]
        exact ⟨p', setParts_congr hp' (fun y hy => hg y (by simp [hy])) (fun t ht => he t (by simp [ht])), rfl⟩
      · cases hp

theorem addNew_sub : ∀ {ts acc : List Tok}, (∀ t ∈ acc, t ∈ addNew acc ts)
  | [], acc, t, ht => ht
  | u :: us, acc, t, ht => by
    simp only [addNew]
    refine addNew_sub (ts := us) t ?_
    split
    · exact ht
    · simp [ht]

theorem reachGo_sub {h : Hp} : ∀ {n i : Nat} {acc : List Tok}, ∀ t ∈ acc, t ∈ reachGo h n i acc
  | 0, _, _, t, ht => ht
  | n + 1, i, acc, t, ht => by
    simp only [reachGo]
    split
    · exact ht
    · refine reachGo_sub t ?_
      split
      · exact addNew_sub t ht
      · exact ht

theorem reachGo_congr {h h' : Hp} : ∀ {n i : Nat} {acc : List Tok}, (∀ t ∈ reachGo h n i acc, h' t = h t) → reachGo h' n i acc = reachGo h n i acc
  | 0, _, _, _ => rfl
  | n + 1, i, acc, he => by
    simp only [reachGo] at he ⊢
    cases hi : acc[i]? with
    | none => rfl
    | some t =>
      simp only [hi] at he ⊢
      have ht : h' t = h t := he t (by
        refine reachGo_sub t ?_
        split
        · exact addNew_sub t (List.mem_of_getElem? hi)
        · exact List.mem_of_getElem? hi)
      rw [ht]
      exact reachGo_congr he

theorem handed_congr {h h' : Hp} {ts : List Tok} {σ : Tok → Tok} : ∀ {us : List Tok}, (∀ t ∈ us, h' t = h t) → handed h' ts σ us = handed h ts σ us
  | [], _ => rfl
  | t :: us, he => by
    simp only [handed]
    rw [he t (by simp), handed_congr fun x hx => he x (by simp [hx])]

theorem callEff_congr {Γ : Gam} {d : Option Nat} {h h' : Hp} {f : FuncId} {args : List DV} {e : Eff} (he : callEff Γ d h f args = some e) (hh : ∀ t ∈ e.reads, h' t = h t) : callEff Γ d h' f args = some e := by
  unfold callEff at he ⊢
  split at he
  · cases he
  · rename_i sp hsp
    split at he
    · rename_i hp
      split at he
      · cases he
      · rename_i p hres
        split at he
        · rename_i q hq
          split at he
          · rename_i hcl
            cases he
            simp only at hh
            rw [if_pos hp, resL_congr hres hh]
            simp only [hq, hcl, if_true, frzAll_congr hh]
          · cases he
        · cases he
    · rename_i hp
      rw [if_neg hp]
      simp only at he ⊢
      split at he
      · rename_i hc
        split at he
        · rename_i h0 dd h0e
          split at he
          · rename_i q hq
            split at he
            · rename_i l hl
              split at he
              · rename_i hok2
                cases he
                simp only at hh
                have e1 : reach h' args = reach h args := reachGo_congr hh
                rw [e1, if_pos hc, handed_congr hh, h0e]
                simp only [hq, hl, hok2, if_true]
              · cases he
            · cases he
          · cases he
        · cases he
      · cases he

theorem appEff_congr {d : Option Nat} {h h' : Hp} {ty : TypeId} {sz : Nat} {x y : DV} {e : Eff} (he : appEff d h ty sz x y = some e) (hh : ∀ t ∈ e.reads, h' t = h t) : appEff d h' ty sz x y = some e := by
  unfold appEff at he ⊢
  split at he
  · rename_i sz0 ys k0 ts hres
    split at he
    · rename_i hys
      split at he
      · rename_i sz1 xs k
        split at he
        · rename_i hc
          split at he
          · rename_i tk htk
            cases he
            simp only at hh
            rw [res_congr hres hh]
            simp only [hys, if_true, if_pos hc, htk, frzAll_congr hh]
          · cases he
        · cases he
      · rename_i sz1 tk n off len
        split at he
        · rename_i ty1 sz2 xs hobj
          split at he
          · rename_i hc
            cases he
            simp only [List.mem_cons] at hh
            rw [res_congr hres fun t ht => hh t (.inr ht)]
            simp only [hys, if_true, hh tk (.inl rfl), hobj, if_pos hc, frzAll_congr fun t ht => hh t (.inr ht)]
          · cases he
        · cases he
      · cases he
    · cases he
  · cases he

theorem storeEff_congr {h h' : Hp} {n : Nat} {a x : DV} {e : Eff} (he : storeEff h n a x = some e) (hh : ∀ t ∈ e.reads, h' t = h t) : storeEff h' n a x = some e := by
  unfold storeEff at he ⊢
  split at he
  · rename_i tk off
    split at he
    · rename_i ty cs hob
      split at he
      · rename_i hc
        cases he
        simp only [List.mem_singleton] at hh
        simp only [hh tk rfl, hob, if_pos hc]
      · cases he
    · cases he
  · rename_i sz tk m i q
    split at he
    · rename_i ty sz' xs hob
      split at he
      · rename_i d' ts el hres hel
        split at he
        · rename_i hc
          cases he
          simp only [List.mem_cons] at hh
          simp only [hh tk (.inl rfl), hob, res_congr hres fun t ht => hh t (.inr ht), hel, if_pos hc, frzAll_congr fun t ht => hh t (.inr ht)]
        · cases he
      · cases he
    · cases he
  · cases he

theorem loadEff_congr {h h' : Hp} {k : Option Nat} {a : DV} {e : Eff} (he : loadEff h k a = some e) (hh : ∀ t ∈ e.reads, h' t = h t) : loadEff h' k a = some e := by
  unfold loadEff at he ⊢
  split at he
  · rename_i t off
    split at he
    · rename_i ty cs hob
      simp only [Option.map_eq_some_iff] at he
      obtain ⟨d, hd, rfl⟩ := he
      simp only [List.mem_singleton] at hh
      simp only [hh t rfl, hob, hd, Option.map_some]
    · cases he
  · rename_i sz t m i q
    split at he
    · rename_i sz' xs hrow
      split at he
      · rename_i hc
        simp only [Option.map_eq_some_iff] at he
        obtain ⟨d, hd, rfl⟩ := he
        simp only [List.mem_singleton] at hh
        rw [rowOf_congr (hh t rfl), hrow]
        simp only [if_pos hc, hd, Option.map_some]
      · cases he
    · cases he
  · exact he
  · cases he

theorem len_congr {h h' : Hp} {t : Tok} (he : h' t = h t) : h'.len? t = h.len? t := by simp [Hp.len?, he]

theorem optNat_congr {g g' : DOpd → DV} {dflt : Nat} {x : Option DOpd} (hg : ∀ y ∈ x.toList, g' y = g y) : optNat g' dflt x = optNat g dflt x := by
  cases x with
  | none => rfl
  | some y => simp only [optNat]; rw [hg y (by simp)]

theorem nilOf_congr {h h' : Hp} {nk : NK} {x : DV} {p : Bool × List Tok} (hn : nilOf h nk x = some p) (hh : ∀ t ∈ p.2, h' t = h t) : nilOf h' nk x = some p := by
  have lc : ∀ {t : Tok}, h' t = h t → h'.len? t = h.len? t := fun he => by simp [Hp.len?, he]
  cases nk <;> cases x <;> simp only [nilOf] at hn ⊢ <;> first
    | exact hn
    | (rename_i v; cases v <;> first | exact hn | (rename_i o; cases o <;> exact hn))
    | (split at hn
       · rename_i hc
         cases hn
         rw [lc (hh _ (by simp))]
         rw [if_pos hc]
       · cases hn)
    | cases hn

theorem lkupEff_congr {kk : KK} {z : DV} {ok : Bool} {h h' : Hp} {m k : DV} {e : Eff} (he : lkupEff kk z ok h m k = some e) (hh : ∀ t ∈ e.reads, h' t = h t) : lkupEff kk z ok h' m k = some e := by
  unfold lkupEff at he ⊢
  split at he <;> try (cases he; done)
  split at he <;> try (cases he; done)
  split at he <;> try (cases he; done)
  · rename_i tk
    split at he <;> try (cases he; done)
    rename_i es c hob
    have hr : e.reads = [tk] := by
      split at he <;> cases he <;> rfl
    simp only [hh tk (by simp [hr]), hob]
    exact he
  · exact he

theorem mupdEff_congr {kk : KK} {h h' : Hp} {m k v : DV} {e : Eff} (he : mupdEff kk h m k v = some e) (hh : ∀ t ∈ e.reads, h' t = h t) : mupdEff kk h' m k v = some e := by
  unfold mupdEff at he ⊢
  split at he <;> try (cases he; done)
  rename_i tk k
  split at he <;> try (cases he; done)
  rename_i es c h1 h2 hob
  have hr : e.reads = [tk] := by
    split at he <;> cases he <;> rfl
  simp only [hh tk (by simp [hr]), hob, h1, h2]
  exact he

theorem b2sEff_congr {h h' : Hp} {x : DV} {e : Eff} (he : b2sEff h x = some e) (hh : ∀ t ∈ e.reads, h' t = h t) : b2sEff h' x = some e := by
  unfold b2sEff at he ⊢
  split at he <;> try (cases he; done)
  · exact he
  · rename_i sz tk n off len
    have hr : e.reads = [tk] := by
      split at he <;> try (cases he; done)
      split at he <;> try (cases he; done)
      simp only [Option.map_eq_some_iff] at he
      obtain ⟨bs, _, rfl⟩ := he
      rfl
    rw [rowOf_congr (hh tk (by simp [hr]))]
    exact he

theorem xEff_congr {P : Program} {d : Option Nat} {h h' : Hp} {k : XOp} {l : List DV} {e : Eff} (he : xEff P d h k l = some e) (hh : ∀ t ∈ e.reads, h' t = h t) : xEff P d h' k l = some e := by
  unfold xEff at he ⊢
  split at he
  · simp only [Option.map_eq_some_iff] at he ⊢
    obtain ⟨p, hp, rfl⟩ := he
    exact ⟨p, nilOf_congr hp hh, rfl⟩
  · exact he
  · exact lkupEff_congr he hh
  · exact mupdEff_congr he hh
  · exact he
  · exact b2sEff_congr he hh
  · cases he

theorem opEff_congr {P : Program} {Γ : Gam} {d : Option Nat} {g g' : DOpd → DV} {h h' : Hp} {dop : DOp} {e : Eff} (he : opEff P Γ d g h dop = some e) (hg : ∀ x ∈ opds dop, g' x = g x) (hh : ∀ t ∈ e.reads, h' t = h t) :
    opEff P Γ d g' h' dop = some e := by
  cases dop <;> simp only [opds, List.mem_cons, List.not_mem_nil, or_false, forall_eq_or_imp, forall_eq] at hg <;> simp only [opEff] at he ⊢
  case ex k xs =>
    have : xs.map g' = xs.map g := List.map_congr_left hg
    rw [this]
    exact xEff_congr he hh
  case mv => rw [hg]; exact he
  case pick => rw [hg.1, hg.2.1, hg.2.2]; exact he
  case alloc => exact he
  case box => rw [hg]; exact he
  case build => rw [fillParts_congr hg]; exact he
  case bslice =>
    split at he
    · rename_i t xs ts ht hs
      cases he
      simp only at hh
      rw [setParts_congr hs hg hh, ht]
      simp only [frzAll_congr hh]
    · cases he
  case load => rw [hg]; exact loadEff_congr he hh
  case store => rw [hg.1, hg.2]; exact storeEff_congr he hh
  case nilc =>
    rw [hg]
    split at he
    · split at he
      · rename_i t o _ hl; cases he; simp only [List.mem_singleton] at hh; rw [len_congr (hh _ rfl), if_pos hl]
      · cases he
    · split at he
      · rename_i hl; cases he; simp only [List.mem_singleton] at hh; rw [len_congr (hh _ rfl), if_pos hl]
      · cases he
    · exact he
    · exact he
    · exact he
    · cases he
  case bin => rw [hg.1, hg.2]; exact he
  case un => rw [hg]; exact he
  case cvt => rw [hg]; exact he
  case cvtS => rw [hg]; exact he
  case mkif => rw [hg]; exact he
  case mkfn f a b =>
    have e1 : a.map g' = a.map g := List.map_congr_left fun x hx => hg x (by simp [hx])
    have e2 : b.map g' = b.map g := List.map_congr_left fun x hx => hg x (by simp [hx])
    rw [e1, e2]; exact he
  case slcS x lo hi =>
    rw [hg x (by simp)]
    split at he
    · unfold strCut at he ⊢
      rw [optNat_congr fun y hy => hg y (by simp [hy]), optNat_congr fun y hy => hg y (by simp [hy])]
      exact he
    · cases he
  case slc sz x lo hi mx =>
    rw [hg x (by simp)]
    unfold slcEff at he ⊢
    have e1 : ∀ n, optNat g' n lo = optNat g n lo := fun n => optNat_congr fun y hy => hg y (by simp [hy])
    have e2 : ∀ n, optNat g' n hi = optNat g n hi := fun n => optNat_congr fun y hy => hg y (by simp [hy])
    have e3 : ∀ n, optNat g' n mx = optNat g n mx := fun n => optNat_congr fun y hy => hg y (by simp [hy])
    simp only [e1, e2, e3]
    exact he
  case faddr =>
    rw [hg]
    unfold faddrEff at he ⊢
    split at he
    · split at he
      · rename_i hl; cases he; simp only [List.mem_singleton] at hh; rw [len_congr (hh _ rfl), if_pos hl]
      · cases he
    · split at he
      · rename_i hl; cases he; simp only [List.mem_singleton] at hh; rw [len_congr (hh _ rfl), if_pos hl]
      · cases he
    · exact he
    · cases he
  case fld => rw [hg]; exact he
  case iaddr =>
    rw [hg.1, hg.2]
    split at he
    · exact he
    · split at he
      · rename_i hl; cases he; simp only [List.mem_singleton] at hh; rw [len_congr (hh _ rfl), if_pos hl]
      · cases he
    · cases he
  case idxS => rw [hg.1, hg.2]; exact he
  case extr => rw [hg]; exact he
  case tas => rw [hg]; exact he
  case call f as =>
    have e1 : as.map g' = as.map g := List.map_congr_left fun x hx => hg x hx
    rw [e1]; exact callEff_congr he hh
  case callv f as =>
    have e1 : as.map g' = as.map g := List.map_congr_left fun x hx => hg.2 x hx
    rw [hg.1, e1]
    split at he
    · exact callEff_congr he hh
    · cases he
  case app => rw [hg.1, hg.2]; exact appEff_congr he hh
  case len => rw [hg]; exact he
  case mxmn => rw [hg.1, hg.2]; exact he
  case panic => rw [hg]; exact he
  case rngS => rw [hg]; exact he
  case nxtS =>
    rw [hg]
    split at he
    · rename_i t ht
      split at he
      · rename_i s pos hob
        have : h' t = h t := hh t (by split at he <;> (cases he; simp))
        rw [this, hob]
        exact he
      · cases he
    · cases he
end Go.Di
