/- Each operation at the level of data is the machine's: those that read, and those that store. -/
import Derived.Test.YtnmjgpnidpgimaaGreatDoorDiStep
import Derived.Laws.CopyRow
import Derived.Laws.Cells
import Derived.ChangeKeysEq
import Derived.WideShapes
namespace Go.Di
open Go.RowKit
set_option linter.unusedSectionVars false

def OpOk (P : Program) (W0 : World) (T : Tok → Prop) (ρ : Rho) (F : Nat → Prop) (h : Hp) (w : World) (e : Eff) (s : Sem Value) : Prop :=
  ∃ d v w' ρ' F', e.out = .ret d ∧ s.run P w = .ok v w' ∧ Good W0 T ρ F h w ρ' F' (e.upds.app h) w' ∧ RepV ρ' F' (e.upds.app h) w' d v

section
variable {P : Program} {W0 : World} {T : Tok → Prop} {ρ : Rho} {F : Nat → Prop} {h : Hp} {w : World}

theorem OpOk.val (r : Rel W0 ρ F h w) {d : DV} {v : Value} {s : Sem Value} (hs : s.run P w = .ok v w) (hv : RepV ρ F h w d v) : OpOk P W0 T ρ F h w (.val d) s :=
  ⟨d, v, w, ρ, F, rfl, hs, Good.refl r, hv⟩

theorem OpOk.ret (r : Rel W0 ρ F h w) {d : DV} {v : Value} {s : Sem Value} {ts : List Tok} (hs : s.run P w = .ok v w) (hv : RepV ρ F h w d v) : OpOk P W0 T ρ F h w ⟨.ret d, ts, []⟩ s :=
  ⟨d, v, w, ρ, F, rfl, hs, Good.refl r, hv⟩

theorem addr_add (b off j : Nat) : (⟨b, off, none⟩ : Addr).add j = ⟨b, off + j, none⟩ := Go.WideShapes.add_plain b off j

-- what data without addresses stands for
mutual
theorem toVal_rep : ∀ {d : DV} {v x : Value}, toVal d = some v → RepV ρ F h w d x → x = v
  | .sc u, v, x, ht, hr => by
    simp only [RepV] at hr
    simp only [toVal, hr.2, if_true, Option.some.injEq] at ht
    rw [hr.1, ht]
  | .agg cs, v, x, ht, hr => by
    simp only [RepV] at hr
    obtain ⟨u, rfl, _, hr⟩ := hr
    simp only [toVal, Option.map_eq_some_iff] at ht
    obtain ⟨l, hl, rfl⟩ := ht
    rw [← toValL_rep hl hr]
  | .iface ty d, v, x, ht, hr => by
    simp only [RepV] at hr
    obtain ⟨y, rfl, hr⟩ := hr
    simp only [toVal, Option.map_eq_some_iff] at ht
    obtain ⟨l, hl, rfl⟩ := ht
    rw [toVal_rep hl hr]
  | .ptr .., _, _, ht, _ => by simp [toVal] at ht
  | .rptr .., _, _, ht, _ => by simp [toVal] at ht
  | .pref .., _, _, ht, _ => by simp [toVal] at ht
  | .lst .., _, _, ht, _ => by simp [toVal] at ht
  | .row .., _, _, ht, _ => by simp [toVal] at ht
  | .map .., _, _, ht, _ => by simp [toVal] at ht
  | .fn .., _, _, ht, _ => by simp [toVal] at ht
  | .tup .., _, _, ht, _ => by simp [toVal] at ht
  | .any, _, _, ht, _ => by simp [toVal] at ht
theorem toValL_rep : ∀ {l : List DV} {vs xs : List Value}, toValL l = some vs → RepL ρ F h w l xs → xs = vs
  | [], vs, xs, ht, hr => by
    simp only [RepL] at hr
    simp only [toValL, Option.some.injEq] at ht
    rw [hr, ht]
  | d :: ds, vs, xs, ht, hr => by
    simp only [RepL] at hr
    obtain ⟨y, ys, rfl, h1, h2⟩ := hr
    simp only [toValL] at ht
    cases hd : toVal d with
    | none => simp [hd] at ht
    | some v =>
      cases hds : toValL ds with
      | none => simp [hd, hds] at ht
      | some vs' =>
        simp only [hd, hds, Option.some.injEq] at ht
        rw [← ht, toVal_rep hd h1, toValL_rep hds h2]
end

theorem ofVal_plain {v : Value} (hp : plain v = true) : RepV ρ F h w (.sc v) v := by simp [RepV, hp]

mutual
theorem ofVal_rep : ∀ {n : Nat} {v : Value} {d : DV}, ofVal n v = some d → RepV ρ F h w d v ∧ closed d = true
  | 0, v, d, hd => by simp [ofVal] at hd
  | n + 1, .agg cs, d, hd => by
    simp only [ofVal] at hd
    cases hl : ofValL n cs.toList with
    | none => simp [hl] at hd
    | some ds =>
      simp only [hl] at hd
      split at hd
      · rename_i h1
        cases hd
        obtain ⟨h2, h3⟩ := ofValL_rep hl
        exact ⟨by simp only [RepV]; exact ⟨cs, rfl, h1, h2⟩, by simpa [closed] using h3⟩
      · cases hd
  | n + 1, .tuple cs, d, hd => by
    simp only [ofVal, Option.map_eq_some_iff] at hd
    obtain ⟨ds, hl, rfl⟩ := hd
    obtain ⟨h2, h3⟩ := ofValL_rep hl
    exact ⟨by simp only [RepV]; exact ⟨cs, rfl, h2⟩, by simpa [closed] using h3⟩
  | n + 1, .iface ty x, d, hd => by
    simp only [ofVal, Option.map_eq_some_iff] at hd
    obtain ⟨ds, hl, rfl⟩ := hd
    obtain ⟨h2, h3⟩ := ofVal_rep hl
    exact ⟨by simp only [RepV]; exact ⟨x, rfl, h2⟩, by simpa [closed] using h3⟩
  | n + 1, .slice none 0 0, d, hd => by
    simp only [ofVal, Option.some.injEq] at hd
    subst hd
    simp only [RepV]
    exact ⟨⟨none, 0, rfl, Nat.le_refl _, fun _ => ⟨rfl, rfl⟩, ⟨(fun h => by cases h), (fun h => by cases h), (fun h => by cases h)⟩, rfl, (fun d hd => by cases hd), fun h => absurd rfl h⟩, rfl⟩
  | n + 1, .slice (some a) l c, d, hd => by simp [ofVal, plain] at hd
  | n + 1, .slice none (l + 1) c, d, hd => by simp [ofVal, plain] at hd
  | n + 1, .slice none 0 (c + 1), d, hd => by simp [ofVal, plain] at hd
  | n + 1, .func f a b, d, hd => by
    simp only [ofVal] at hd
    cases hl : ofValL n a.toList with
    | none => simp [hl] at hd
    | some ds =>
      cases hl' : ofValL n b.toList with
      | none => simp [hl, hl'] at hd
      | some ds' =>
        simp only [hl, hl', Option.some.injEq] at hd
        subst hd
        obtain ⟨h2, h3⟩ := ofValL_rep hl
        obtain ⟨h4, h5⟩ := ofValL_rep hl'
        exact ⟨by simp only [RepV]; exact ⟨a, b, rfl, h2, h4⟩, by simp [closed, h3, h5]⟩
  | n + 1, .bool b, d, hd => by simp [ofVal, plain] at hd; subst hd; simp [RepV, plain, closed]
  | n + 1, .int k b, d, hd => by simp [ofVal, plain] at hd; subst hd; simp [RepV, plain, closed]
  | n + 1, .float k b, d, hd => by simp [ofVal, plain] at hd; subst hd; simp [RepV, plain, closed]
  | n + 1, .complex k a b, d, hd => by simp [ofVal, plain] at hd; subst hd; simp [RepV, plain, closed]
  | n + 1, .string b, d, hd => by simp [ofVal, plain] at hd; subst hd; simp [RepV, plain, closed]
  | n + 1, .pointer none, d, hd => by simp [ofVal, plain] at hd; subst hd; simp [RepV, plain, closed]
  | n + 1, .pointer (some a), d, hd => by simp [ofVal, plain] at hd
  | n + 1, .map none, d, hd => by simp [ofVal, plain] at hd; subst hd; simp [RepV, plain, closed]
  | n + 1, .map (some a), d, hd => by simp [ofVal, plain] at hd
  | n + 1, .chan none, d, hd => by simp [ofVal, plain] at hd; subst hd; simp [RepV, plain, closed]
  | n + 1, .chan (some a), d, hd => by simp [ofVal, plain] at hd
  | n + 1, .nilFunc, d, hd => by simp [ofVal, plain] at hd; subst hd; simp [RepV, plain, closed]
  | n + 1, .nilIface, d, hd => by simp [ofVal, plain] at hd; subst hd; simp [RepV, plain, closed]
theorem ofValL_rep : ∀ {n : Nat} {vs : List Value} {l : List DV}, ofValL n vs = some l → RepL ρ F h w l vs ∧ closedL l = true
  | 0, vs, l, hd => by simp [ofValL] at hd
  | n + 1, [], l, hd => by simp only [ofValL, Option.some.injEq] at hd; subst hd; simp [RepL, closedL]
  | n + 1, v :: vs, l, hd => by
    simp only [ofValL] at hd
    cases h1 : ofVal n v with
    | none => simp [h1] at hd
    | some d =>
      cases h2 : ofValL n vs with
      | none => simp [h1, h2] at hd
      | some ds =>
        simp only [h1, h2, Option.some.injEq] at hd
        subst hd
        obtain ⟨h3, h4⟩ := ofVal_rep h1
        obtain ⟨h5, h6⟩ := ofValL_rep h2
        exact ⟨by simp only [RepL]; exact ⟨v, vs, rfl, h3, h5⟩, by simp [closedL, h4, h6]⟩
end

/-- The cells of a value, and what they read as. -/
theorem RepV.cells : ∀ {d : DV} {x : Value}, stb d = true → RepV ρ F h w d x → RepL ρ F h w d.cells x.cells.toList ∧ d.cells.all one = true
  | .agg cs, x, _, hr => by
    simp only [RepV] at hr
    obtain ⟨u, rfl, h1, h2⟩ := hr
    exact ⟨h2, h1⟩
  | .tup _, _, hs, _ => by simp [stb] at hs
  | .any, _, hs, _ => by simp [stb] at hs
  | .sc v, x, _, hr => by
    have ho := RepV.oneCell (d := .sc v) rfl hr
    refine ⟨?_, rfl⟩
    have hc : x.cells = #[x] := by cases x <;> simp_all [Value.cells, Value.oneCell']
    simp only [DV.cells, hc, RepL]
    exact ⟨x, [], rfl, hr, rfl⟩
  | .ptr a b, x, _, hr => by
    have ho := RepV.oneCell (d := .ptr a b) rfl hr
    refine ⟨?_, rfl⟩
    have hc : x.cells = #[x] := by cases x <;> simp_all [Value.cells, Value.oneCell']
    simp only [DV.cells, hc, RepL]
    exact ⟨x, [], rfl, hr, rfl⟩
  | .rptr a b c e f, x, _, hr => by
    have ho := RepV.oneCell (d := .rptr a b c e f) rfl hr
    refine ⟨?_, rfl⟩
    have hc : x.cells = #[x] := by cases x <;> simp_all [Value.cells, Value.oneCell']
    simp only [DV.cells, hc, RepL]
    exact ⟨x, [], rfl, hr, rfl⟩
  | .pref a, x, _, hr => by
    have ho := RepV.oneCell (d := .pref a) rfl hr
    refine ⟨?_, rfl⟩
    have hc : x.cells = #[x] := by cases x <;> simp_all [Value.cells, Value.oneCell']
    simp only [DV.cells, hc, RepL]
    exact ⟨x, [], rfl, hr, rfl⟩
  | .lst a b c, x, _, hr => by
    have ho := RepV.oneCell (d := .lst a b c) rfl hr
    refine ⟨?_, rfl⟩
    have hc : x.cells = #[x] := by cases x <;> simp_all [Value.cells, Value.oneCell']
    simp only [DV.cells, hc, RepL]
    exact ⟨x, [], rfl, hr, rfl⟩
  | .row a b c e f, x, _, hr => by
    have ho := RepV.oneCell (d := .row a b c e f) rfl hr
    refine ⟨?_, rfl⟩
    have hc : x.cells = #[x] := by cases x <;> simp_all [Value.cells, Value.oneCell']
    simp only [DV.cells, hc, RepL]
    exact ⟨x, [], rfl, hr, rfl⟩
  | .map a, x, _, hr => by
    have ho := RepV.oneCell (d := .map a) rfl hr
    refine ⟨?_, rfl⟩
    have hc : x.cells = #[x] := by cases x <;> simp_all [Value.cells, Value.oneCell']
    simp only [DV.cells, hc, RepL]
    exact ⟨x, [], rfl, hr, rfl⟩
  | .fn a b c, x, _, hr => by
    have ho := RepV.oneCell (d := .fn a b c) rfl hr
    refine ⟨?_, rfl⟩
    have hc : x.cells = #[x] := by cases x <;> simp_all [Value.cells, Value.oneCell']
    simp only [DV.cells, hc, RepL]
    exact ⟨x, [], rfl, hr, rfl⟩
  | .iface a b, x, _, hr => by
    have ho := RepV.oneCell (d := .iface a b) rfl hr
    refine ⟨?_, rfl⟩
    have hc : x.cells = #[x] := by cases x <;> simp_all [Value.cells, Value.oneCell']
    simp only [DV.cells, hc, RepL]
    exact ⟨x, [], rfl, hr, rfl⟩

theorem one_mem {cs : List DV} (h1 : cs.all one = true) {i : Nat} {d : DV} (hd : cs[i]? = some d) : one d = true :=
  List.all_eq_true.1 h1 d (List.mem_of_getElem? hd)

theorem RepL.oneCells {cs : List DV} {xs : List Value} (h1 : cs.all one = true) (hr : RepL ρ F h w cs xs) : ∀ v ∈ xs, v.oneCell' = true := by
  intro v hv
  obtain ⟨i, hi, rfl⟩ := List.mem_iff_getElem.1 hv
  have hl := hr.length
  have hd : cs[i]? = some (cs[i]'(by omega)) := List.getElem?_eq_getElem (by omega)
  obtain ⟨x, hx, hrx⟩ := hr.get i _ hd
  rw [List.getElem?_eq_getElem hi] at hx
  cases hx
  exact RepV.oneCell (one_mem h1 hd) hrx

/-- What a block's cells read as, cell by cell. -/
theorem repC_of_block {cs : List DV} {arr : Array Value} {ty : TypeId} {fr : Nat × Nat} {b : Nat} (hb : w.heap[b]? = some (.cells arr ty fr)) (h1 : cs.all one = true)
    (hr : RepL ρ F h w cs arr.toList) : RepC ρ F h w cs b 0 :=
  RepC.of fun i d hd => by
    obtain ⟨x, hx, hrx⟩ := hr.get i d hd
    exact ⟨one_mem h1 hd, x, by simpa [World.cell?, hb] using hx, hrx⟩

theorem repC_seg {cs : List DV} {b o : Nat} (hr : RepC ρ F h w cs b o) (off n : Nat) : RepC ρ F h w ((cs.drop off).take n) b (o + off) :=
  RepC.of fun i d hd => by
    have hi : cs[off + i]? = some d := by
      rw [List.getElem?_take] at hd
      split at hd
      · simpa [List.getElem?_drop] using hd
      · cases hd
    have := hr.get (off + i) d hi
    rwa [Nat.add_assoc]

/-! ## Types -/
/-- How a type's variable is read: one cell, or a struct's or an array's so many. -/
def ldTy (P : Program) (t : TypeId) : Option (Option Nat) :=
  match P.underlying t, P.info? t with
  | some (.struct _), some i => some (some i.size)
  | some (.array ..), some i => some (some i.size)
  | some _, some i => if i.size = 1 then some none else none
  | _, _ => none

theorem ldTy_some {t : TypeId} {n : Nat} (ht : ldTy P t = some (some n)) : (isAgg t).run P w = .ok true w ∧ (sizeOf t).run P w = .ok n w := by
  unfold ldTy at ht
  have key : ∀ {d : TypeDesc} {i : TypeInfo}, P.underlying t = some d → P.info? t = some i → (isAgg t).run P w = .ok (match d with | .struct _ | .array .. => true | _ => false) w ∧ (sizeOf t).run P w = .ok i.size w := by
    intro d i hu hi
    refine ⟨?_, ?_⟩
    · simp only [isAgg, Sem.run_bind, run_underlying hu, Result.andThen_ok]; cases d <;> rfl
    · simp [sizeOf, typeInfo, hi]
  split at ht
  · rename_i hu hi; cases ht; exact key hu hi
  · rename_i hu hi; cases ht; exact key hu hi
  · split at ht <;> cases ht
  · cases ht

theorem ldTy_none {t : TypeId} (ht : ldTy P t = some none) : (isAgg t).run P w = .ok false w ∧ (sizeOf t).run P w = .ok 1 w := by
  unfold ldTy at ht
  split at ht
  · cases ht
  · cases ht
  · rename_i d i hs ha hu hi
    split at ht
    · rename_i h1
      refine ⟨?_, ?_⟩
      · simp only [isAgg, Sem.run_bind, run_underlying hu, Result.andThen_ok]
        cases d <;> first | rfl | exact absurd rfl (by simpa using hs _) | exact absurd rfl (by simpa using ha _ _)
      · simp [sizeOf, typeInfo, hi, h1]
    · cases ht
  · cases ht

/-- The size, of either make. -/
def szTy (P : Program) (t : TypeId) : Option Nat := (ldTy P t).map fun k => k.getD 1

theorem szTy_run {t : TypeId} {n : Nat} (ht : szTy P t = some n) : (sizeOf t).run P w = .ok n w := by
  unfold szTy at ht
  cases hk : ldTy P t with
  | none => simp [hk] at ht
  | some k =>
    simp only [hk, Option.map_some, Option.some.injEq] at ht
    cases k with
    | none => simp at ht; subst ht; exact (ldTy_none hk).2
    | some m => simp at ht; subst ht; exact (ldTy_some hk).2

/-! ## Loads -/
theorem run_loadVar_rep {t : TypeId} {k : Option Nat} (ht : ldTy P t = some k) {cs : List DV} {b o off : Nat} {d : DV} (hr : RepC ρ F h w cs b o) (hp : pickCells cs off k = some d) :
    ∃ v, (loadVar t ⟨b, o + off, none⟩).run P w = .ok v w ∧ RepV ρ F h w d v := by
  cases k with
  | none =>
    simp only [pickCells] at hp
    obtain ⟨_, x, hx, hrx⟩ := hr.get off d hp
    refine ⟨x, ?_, hrx⟩
    simp only [loadVar, Sem.run_bind, (ldTy_none ht).1, Result.andThen_ok]
    simp [hx]
  | some n =>
    simp only [pickCells] at hp
    split at hp
    · rename_i hn
      cases hp
      have hseg := repC_seg hr off n
      have hlen : ((cs.drop off).take n).length = n := by simp; omega
      -- the values
      have hvals : ∃ vs : List Value, vs.length = n ∧ RepL ρ F h w ((cs.drop off).take n) vs ∧ ∀ j v, vs[j]? = some v → w.cell? ((⟨b, o + off, none⟩ : Addr).add j) = some v := by
        refine ⟨(List.range n).map fun j => (w.cell? ⟨b, o + off + j, none⟩).getD undef, by simp, ?_, ?_⟩
        · refine RepL.of (by simp; omega) fun i d' x h1 h2 => ?_
          obtain ⟨_, y, hy, hry⟩ := hseg.get i d' h1
          have hi : i < n := by have := (List.getElem?_eq_some_iff.1 h1).1; omega
          simp [hi, hy] at h2
          subst h2
          exact hry
        · intro j v hv
          have hj : j < n := by have := (List.getElem?_eq_some_iff.1 hv).1; simpa using this
          obtain ⟨_, y, hy, _⟩ := hseg.get j _ (List.getElem?_eq_getElem (by omega))
          simp [hj, hy] at hv
          subst hv
          rw [addr_add]; exact hy
      obtain ⟨vs, h1, h2, h3⟩ := hvals
      refine ⟨.agg vs.toArray, ?_, ?_⟩
      · have hl := run_loadCells_list (P := P) w ⟨b, o + off, none⟩ vs h3
        rw [h1] at hl
        simp only [loadVar, Sem.run_bind, (ldTy_some ht).1, (ldTy_some ht).2, Result.andThen_ok, if_true, hl]
        rfl
      · simp only [RepV]
        refine ⟨vs.toArray, rfl, ?_, h2⟩
        exact List.all_eq_true.2 fun x hx => by
          obtain ⟨i, hi, rfl⟩ := List.mem_iff_getElem.1 hx
          exact (hseg.get i _ (List.getElem?_eq_getElem hi)).1
    · cases hp

theorem row_block (r : Rel W0 ρ F h w) {t : Tok} {sz : Nat} {xs : List DV} (hx : rowOf h t = some (sz, xs)) :
    h.len? t = some xs.length ∧ closedL xs = true ∧ (∀ d ∈ xs, d.cells.length = sz) ∧ 0 < sz ∧
      (xs ≠ [] → ∃ b, ρ t = some b ∧ RepE ρ F h w sz xs b 0) := by
  unfold rowOf at hx
  split at hx
  · rename_i ty s y ho
    cases hx
    have := r.obj t _ ho
    simp only [RepO] at this
    obtain ⟨h1, h2, h3, h4⟩ := this
    refine ⟨by simp [Hp.len?, ho, AObj.len?], h1, h2, h3, fun hn => ?_⟩
    rcases h4 with ⟨h4, _⟩ | ⟨b, arr, h4, _, _, h5⟩
    · exact absurd h4 hn
    · exact ⟨b, h4, h5⟩
  · rename_i ty s y ho
    cases hx
    have := r.obj t _ ho
    simp only [RepO] at this
    obtain ⟨h1, h2, h3, _, h4⟩ := this
    refine ⟨by simp [Hp.len?, ho, AObj.len?], h1, h2, h3, fun hn => ?_⟩
    obtain ⟨b, h5, h6⟩ := h4 hn
    exact ⟨b, h5, h6⟩
  · cases hx

theorem ok_load (r : Rel W0 ρ F h w) {t : TypeId} {k : Option Nat} (ht : ldTy P t = some k) {a : DV} {x : Value} {e : Eff} (he : loadEff h k a = some e) (ha : RepV ρ F h w a x) :
    OpOk P W0 T ρ F h w e (Instr.loadAt t x) := by
  have fin : ∀ {cs : List DV} {b o off : Nat} {d : DV} {ts}, x = .pointer (some ⟨b, o + off, none⟩) → RepC ρ F h w cs b o → pickCells cs off k = some d →
      OpOk P W0 T ρ F h w ⟨.ret d, ts, []⟩ (Instr.loadAt t x) := fun hx hr hp => by
    obtain ⟨v, h1, h2⟩ := run_loadVar_rep ht hr hp
    subst hx
    exact OpOk.ret r (by simp only [Instr.loadAt, Instr.sureAddr, Sem.run_bind, Sem.run_pure, Result.andThen_ok]; exact h1) h2
  unfold loadEff at he
  split at he
  · rename_i tk off
    split at he
    · rename_i ty cs ho
      simp only [Option.map_eq_some_iff] at he
      obtain ⟨d, hp, rfl⟩ := he
      simp only [RepV] at ha
      obtain ⟨b, hb, hx⟩ := ha.2 (by simp [Hp.len?, ho, AObj.len?])
      have := r.obj tk _ ho
      simp only [RepO] at this
      obtain ⟨b', arr, h1, h2, h3, h4⟩ := this
      rw [hb] at h1; cases h1
      exact fin (o := 0) (by simpa using hx) (repC_of_block h2 h3 h4) hp
    · cases he
  · rename_i sz tk m i rr
    split at he
    · rename_i sz' xs hrow
      split at he
      · rename_i hc
        obtain ⟨rfl, hm⟩ := hc
        simp only [Option.map_eq_some_iff, Option.bind_eq_some_iff] at he
        obtain ⟨d, ⟨el, hel, hp⟩, rfl⟩ := he
        obtain ⟨h1, h2, h3, h4, h5⟩ := row_block r hrow
        simp only [RepV] at ha
        obtain ⟨hi, hr, b, hb, hx⟩ := (ha.2 _ h1).2 hm
        have hne : xs ≠ [] := fun e => by subst e; simp at hel
        obtain ⟨b', hb', hE⟩ := h5 hne
        rw [hb] at hb'; cases hb'
        have hD := hE.get i el hel
        simp only [RepD, Nat.zero_add] at hD
        exact fin hx hD hp
      · cases he
    · cases he
  · rename_i cs
    simp only [Option.map_eq_some_iff] at he
    obtain ⟨d, hp, rfl⟩ := he
    simp only [RepV] at ha
    obtain ⟨b, off, hx, _, _, hr⟩ := ha
    exact fin (off := 0) (by simpa using hx) hr hp
  · cases he
end
end Go.Di
