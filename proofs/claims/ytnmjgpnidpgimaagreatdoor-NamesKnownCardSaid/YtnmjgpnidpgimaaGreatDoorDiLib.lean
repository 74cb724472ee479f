/- Functions of the library, by what the shelf proves of them. -/
import Derived.Test.YtnmjgpnidpgimaaGreatDoorDiCut
import Derived.Lib.Fields
import Derived.Lib.Bytealg
import Derived.Lib.LaidTab
namespace Go.Di
open Go.RowKit
set_option linter.unusedVariables false

/-- What stands for a function of data that hands back data. -/
def pureSpec (run : List DV → Option DV) : FSpec := ⟨true, fun args _ => match closedL args with | true => (run args).map fun d => (.ret d, []) | false => none⟩

/-- A function that hands back data, and leaves new blocks behind it at most. -/
theorem fnOk_pure {P : Program} {W0 : World} {f : FuncId} {fn : Func} (hfn : P.funcs[f]? = some fn) (hname : (fn.name == "runtime.NumGoroutine") = false) (hbody : fn.body.isSome = true) {run : List DV → Option DV}
    (hrun : ∀ args d, run args = some d → ∀ F w (vs : Array Value), Rel W0 (fun _ => none) F (Hl.get []) w → RepL (fun _ => none) F (Hl.get []) w args vs.toList → closedL args = true →
      Calls P f vs w fun e w' => ∃ v, e = .returned v ∧ Below w.heap.size w w' ∧ RepV (fun _ => none) (fun b => F b ∨ (w.heap.size ≤ b ∧ b < w'.heap.size)) (Hl.get []) w' d v ∧ closed d = true) :
    FnOk P W0 f (pureSpec run) := by
  obtain ⟨c, hb⟩ := Option.isSome_iff_exists.1 hbody
  refine ⟨fun args w => ?_, fun args H out H' hq hp ρ F w vs rel hrep _ _ => ?_⟩
  · have hp : Sem.run P program w = .ok P w := rfl
    simp only [callFunc, Sem.run_bind, hp, Result.andThen_ok, hfn, hname, hb, Option.isNone_some, Bool.false_eq_true, if_false]
    rfl
  · simp only [pureSpec] at hq
    split at hq
    · rename_i hcl
      simp only [Option.map_eq_some_iff, Prod.mk.injEq] at hq
      obtain ⟨d, hd, rfl, rfl⟩ := hq
      have hH := hp rfl
      subst hH
      have own0 : ∀ {ρ : Rho} {b : Nat}, ¬ Own ρ (Hl.get []) b := fun ⟨t, o, ho, _⟩ => by simp [Hl.get] at ho
      have rel0 : Rel W0 (fun _ => none) F (Hl.get []) w := ⟨rel.base, fun t o ho => by simp [Hl.get] at ho, rel.fin, fun b hb => (own0 hb).elim, fun t o t' o' b ho => by simp [Hl.get] at ho⟩
      refine (hrun args d hd F w vs rel0 (RepL.closed_any hcl hrep) hcl).mono ?_
      rintro e w' ⟨v, rfl, bl, hv, hcd⟩
      refine ⟨ρ, fun b => F b ∨ (w.heap.size ≤ b ∧ b < w'.heap.size), ⟨fun b hb => ?_, fun t o ho => by simp [Hl.get] at ho, fun b hb => ?_, fun b hb => (own0 hb).elim, fun t o t' o' b ho => by simp [Hl.get] at ho⟩,
        ⟨bl.os, bl.tape, bl.output, bl.size, fun b hb _ => bl.block b hb, fun b hb => .inl hb, fun b hb hF => ?_, fun b _ hb => (own0 hb).elim⟩,
        ⟨fun b hb => .inl hb, fun b hb => bl.block b (rel.fin b hb), fun t _ _ => ⟨rfl, fun _ h => h⟩, fun t m _ hm => by simp [Hp.len?, Hl.get] at hm⟩, v, rfl, RepV.closed_any hcd hv⟩
      · obtain ⟨h1, h2⟩ := rel.base b hb
        exact ⟨.inl h1, (bl.block b (rel.fin b h1)).trans h2⟩
      · rcases hb with hb | hb
        · exact Nat.lt_of_lt_of_le (rel.fin b hb) bl.size
        · exact hb.2
      · rcases hF with hF | hF
        · exact .inl hF
        · omega
    · cases hq

/-- strings.Compare. -/
def runCompare : List DV → Option DV
  | [.sc (.string a), .sc (.string b)] => some (.sc (.int .i64 (Lib.compareBytes a.data.toList b.data.toList)))
  | _ => none

theorem compare_ok {P : Program} {W0 : World} {f : FuncId} {fn : Func} (hfn : P.funcs[f]? = some fn) (hname : (fn.name == "runtime.NumGoroutine") = false) (hbody : fn.body.isSome = true)
    (hc : ∀ (a b : ByteArray) (w : World), Calls P f #[.string a, .string b] w fun e w' => e = .returned (.int .i64 (Lib.compareBytes a.data.toList b.data.toList)) ∧ w' = w) :
    FnOk P W0 f (pureSpec runCompare) :=
  fnOk_pure hfn hname hbody fun args d hd F w vs rel hrep hcl => by
    unfold runCompare at hd
    split at hd <;> try (cases hd; done)
    rename_i a b
    cases hd
    simp only [RepL] at hrep
    obtain ⟨y, ys, e1, hy, z, zs, rfl, hz, rfl⟩ := hrep
    have : vs = #[y, z] := by rw [← Array.toList_inj]; exact e1
    subst this
    simp only [RepV] at hy hz
    rw [hy.1, hz.1]
    refine (hc a b w).mono ?_
    rintro e w' ⟨rfl, rfl⟩
    exact ⟨_, rfl, Below.refl _ _, by simp [RepV, plain], rfl⟩

/-- strings.Fields, of bytes below 128. -/
def runFields : List DV → Option DV
  | [.sc (.string s)] => match s.data.toList.all (fun b => Nat.blt b.toNat 128), Nat.blt s.data.toList.length 1000000 with
    | true, true => some (.lst 1 ((Lib.fields s.data.toList).map fun l => .sc (.string ⟨l.toArray⟩)) .full)
    | _, _ => none
  | _ => none

theorem var?_rel {P : Program} {W0 : World} {ρ : Rho} {F : Nat → Prop} {h : Hp} {w : World} (r : Rel W0 ρ F h w) {name : String} {cs : Array Value} (hv : W0.var? P name = some cs) : w.var? P name = some cs := by
  unfold World.var? at *
  simp only [Option.bind_eq_some_iff] at hv ⊢
  obtain ⟨g, hg, h1⟩ := hv
  refine ⟨g, hg, ?_⟩
  have hlt : g < W0.heap.size := by
    rcases Nat.lt_or_ge g W0.heap.size with h | h
    · exact h
    · rw [Array.getElem?_eq_none h] at h1; cases h1
  rw [(r.base g hlt).2]
  exact h1

theorem fields_ok {P : Program} {W0 : World} {f : FuncId} {fn : Func} (hfn : P.funcs[f]? = some fn) (hname : (fn.name == "runtime.NumGoroutine") = false) (hbody : fn.body.isSome = true) {ty : TypeId} (htab : Lib.TabIs P W0 "strings.asciiSpace" .u8 Lib.asciiSpaceTab)
    (hc : ∀ (s : ByteArray) (w : World) (hs : s.size < 4294967281) (hascii : ∀ (j : Nat) b, s.data.toList[j]? = some b → b.toNat < 128) (htab : Lib.TabIs P w "strings.asciiSpace" .u8 Lib.asciiSpaceTab), Calls P f #[.string s] w fun e w' =>
      e = .returned (.slice (some ⟨w.heap.size, 0, none⟩) (Lib.fields s.data.toList).length (Lib.fields s.data.toList).length) ∧ w' = w.alloc (.cells ((Lib.fields s.data.toList).map fun l => Value.string ⟨l.toArray⟩).toArray ty)) :
    FnOk P W0 f (pureSpec runFields) :=
  fnOk_pure hfn hname hbody fun args d hd F w vs rel hrep hcl => by
    unfold runFields at hd
    split at hd <;> try (cases hd; done)
    rename_i s
    split at hd <;> try (cases hd; done)
    rename_i h1 h2
    cases hd
    simp only [RepL] at hrep
    obtain ⟨y, ys, e1, hy, rfl⟩ := hrep
    have : vs = #[y] := by rw [← Array.toList_inj]; exact e1
    subst this
    simp only [RepV] at hy
    rw [hy.1]
    refine (hc s w (by have h3 := Nat.le_of_ble_eq_true h2; have e : s.data.toList.length = s.size := by rw [Array.length_toList]; rfl
                       omega) (fun j b hb => by
        have := List.all_eq_true.1 h1 b (List.mem_of_getElem? hb)
        exact Nat.le_of_ble_eq_true this) (var?_rel rel htab)).mono ?_
    rintro e w' ⟨rfl, rfl⟩
    have hcl2 : closedL ((Lib.fields s.data.toList).map fun l => DV.sc (.string ⟨l.toArray⟩)) = true := closedL_of fun d hd => by
      obtain ⟨l, _, rfl⟩ := List.mem_map.1 hd
      rfl
    refine ⟨_, rfl, (Below.refl _ _).alloc (Nat.le_refl _) _, ?_, by simpa [closed] using hcl2⟩
    simp only [RepV, List.length_map]
    refine ⟨_, _, rfl, Nat.le_refl _, (fun e => by cases e), ⟨(fun _ => rfl), (fun e => by cases e), (fun e => by cases e)⟩, hcl2, fun d hd => ?_, fun _ => ⟨_, _, rfl, .inr ⟨Nat.le_refl _, by simp⟩, RepE.of fun i d hd => ?_⟩⟩
    · obtain ⟨l, _, rfl⟩ := List.mem_map.1 hd
      rfl
    · rw [List.getElem?_map] at hd
      cases hl : (Lib.fields s.data.toList)[i]? with
      | none => simp [hl] at hd
      | some l =>
        simp only [hl, Option.map_some, Option.some.injEq] at hd
        subst hd
        simp only [RepD, DV.cells, RepC, RepV, one, true_and, and_true]
        refine ⟨.string ⟨l.toArray⟩, ?_, rfl, rfl⟩
        simp only [World.cell?, alloc_new]
        simp [hl]

/-! ## Blocks that nobody names; a variable set -/
section
variable {W0 : World} {T : Tok → Prop} {ρ : Rho} {F : Nat → Prop} {h : Hp} {w : World}

theorem good_below (r : Rel W0 ρ F h w) {w' : World} (bl : Below w.heap.size w w') : Good W0 T ρ F h w ρ F h w' := by
  have k : Keep (fun _ => True) ρ F h w ρ F h w' := ⟨fun _ h => h, fun b hb => bl.block b (r.fin b hb), fun t _ h => ⟨h, fun _ h => h⟩,
    fun t m _ hm => ⟨m, hm, Nat.le_refl _, fun _ b hb => ⟨hb, fun n hk => capOk_of (bl.block b (capOk_lt hk)) hk⟩⟩⟩
  refine ⟨⟨fun b hb => ?_, fun t o ho => ?_, fun b hb => Nat.lt_of_lt_of_le (r.fin b hb) bl.size, r.sep, r.inj⟩, k.weaken fun _ _ => trivial,
    ⟨bl.os, bl.tape, bl.output, bl.size, fun b hb _ => bl.block b hb, fun _ h => h, fun _ _ h => .inl h, fun _ _ h => h⟩⟩
  · obtain ⟨h1, h2⟩ := r.base b hb
    exact ⟨h1, (bl.block b (r.fin b h1)).trans h2⟩
  · exact RepO.keep k rfl (fun b hb hw => bl.block b (own_lt r ⟨t, o, ho, hw, hb⟩)) (fun _ _ => trivial) (r.obj t o ho)

theorem good_setRow (r : Rel W0 ρ F h w) {t : Tok} {ty : TypeId} {cs cs' : List DV} {b : Nat} {arr arr' : Array Value} (hobj : h t = some (.cells ty cs)) (hb : ρ t = some b) (hblk : w.heap[b]? = some (.cells arr ty (0, 0))) (hs : arr'.size = arr.size)
    (hone : cs'.all one = true) (hr : RepL ρ F h w cs' arr'.toList) : Good W0 T ρ F h w ρ F (h.set t (.cells ty cs')) (w.setRow b arr') := by
  have k := keep_upd r (o' := .cells ty cs') (w' := w.setRow b arr') hobj rfl hb (fun _ => rfl) (fun m hm => by cases hm) (fun k hk => capOk_setRow hblk hs hk) (fun c hc => setRow_far _ _ _ _ hc)
  refine good_upd r hobj rfl hb (fun _ => rfl) (fun m hm => by cases hm) (fun k hk => capOk_setRow hblk hs hk) (fun c hc => setRow_far _ _ _ _ hc) (by simp) (by simp) (by simp) (by simp) ?_
  simp only [RepO]
  exact ⟨b, _, hb, setRow_heap w b arr _ ty _ hblk, hone, RepL.keep k _ _ (fun _ _ => trivial) hr⟩
end

/-! ## errors.Is, errors.As at a struct of two numbers -/
def runIs (tf te : TypeId) : List DV → Option DV
  | [.iface t (.agg [.sc (.int .i64 a), .sc (.int .i64 e)]), .iface t' (.sc (.int .i64 z))] => match Nat.beq t tf, Nat.beq t' te, e, z with
    | true, true, .ofNat (n + 1), .ofNat 0 => some (.sc (.bool false))
    | _, _, _, _ => none
  | _ => none

theorem is_ok {P : Program} {W0 : World} {f : FuncId} {fn : Func} (hfn : P.funcs[f]? = some fn) (hname : (fn.name == "runtime.NumGoroutine") = false) (hbody : fn.body.isSome = true) {tf te : TypeId}
    (hc : ∀ (a e : Int) (he : e ≠ 0) (w : World), Calls P f #[.iface tf (.agg #[.int .i64 a, .int .i64 e]), .iface te (.int .i64 0)] w fun ev w' => ev = .returned (.bool false) ∧ w' = w.alloc (.cells #[.int .i64 a, .int .i64 e] tf)) :
    FnOk P W0 f (pureSpec (runIs tf te)) :=
  fnOk_pure hfn hname hbody fun args d hd F w vs rel hrep hcl => by
    unfold runIs at hd
    split at hd <;> try (cases hd; done)
    rename_i t a e t' z
    split at hd <;> try (cases hd; done)
    rename_i n h1 h2
    cases hd
    obtain rfl := Nat.eq_of_beq_eq_true h1
    obtain rfl := Nat.eq_of_beq_eq_true h2
    simp only [RepL, RepV] at hrep
    obtain ⟨y, ys, e1, ⟨y', rfl, u, rfl, _, v1, vs1, q1, ⟨rfl, _⟩, v2, vs2, rfl, ⟨rfl, _⟩, rfl⟩, z1, zs, rfl, ⟨z', rfl, rfl, _⟩, rfl⟩ := hrep
    have : vs = #[.iface t (.agg u), .iface t' (.int .i64 (Int.ofNat 0))] := by rw [← Array.toList_inj]; exact e1
    subst this
    have : u = #[.int .i64 a, .int .i64 (Int.ofNat (n + 1))] := by rw [← Array.toList_inj]; exact q1
    subst this
    refine (hc a (Int.ofNat (n + 1)) (by simp; omega) w).mono ?_
    rintro ev w' ⟨rfl, rfl⟩
    exact ⟨_, rfl, (Below.refl _ _).alloc (Nat.le_refl _) _, by simp [RepV, plain], rfl⟩

def runAs (tf tp : TypeId) (args : List DV) (H : Hl) : Option (Out × Hl) :=
  match args, H with
  | [.iface t (.agg [.sc (.int .i64 a), .sc (.int .i64 e)]), .iface t' (.ptr [0, 0] 0)], [([0, 0], .cells ty [_, _])] => match Nat.beq t tf, Nat.beq t' tp with
    | true, true => some (.ret (.sc (.bool true)), [([0, 0], .cells ty [.sc (.int .i64 a), .sc (.int .i64 e)])])
    | _, _ => none
  | _, _ => none

theorem as_ok {P : Program} {W0 : World} {f : FuncId} {fn : Func} (hfn : P.funcs[f]? = some fn) (hname : (fn.name == "runtime.NumGoroutine") = false) (hbody : fn.body.isSome = true) {tf tp : TypeId} {g : Nat} {hv : Value} (hg : W0.cell? ⟨g, 0, none⟩ = some hv)
    (hc : ∀ (a e : Int) (tb : Nat) (o1 o2 : Value) (ty : TypeId) (w : World), w.cell? ⟨g, 0, none⟩ = some hv → w.heap[tb]? = some (.cells #[o1, o2] ty (0, 0)) →
      Calls P f #[.iface tf (.agg #[.int .i64 a, .int .i64 e]), .iface tp (.pointer (some ⟨tb, 0, none⟩))] w fun ev w' => ev = .returned (.bool true) ∧ ∃ w1, Below w.heap.size w w1 ∧ w' = w1.setRow tb #[.int .i64 a, .int .i64 e]) :
    FnOk P W0 f ⟨false, runAs tf tp⟩ := by
  obtain ⟨c, hb⟩ := Option.isSome_iff_exists.1 hbody
  refine ⟨fun args w => ?_, fun args H out H' hq hp0 ρ F w vs rel hrep i1 i2 => ?_⟩
  · have hp : Sem.run P program w = .ok P w := rfl
    simp only [callFunc, Sem.run_bind, hp, Result.andThen_ok, hfn, hname, hb, Option.isNone_some, Bool.false_eq_true, if_false]
    rfl
  · clear hp0 i1 i2
    simp only at hq
    unfold runAs at hq
    split at hq <;> try (cases hq; done)
    rename_i t a e t' ty c1 c2
    split at hq <;> try (cases hq; done)
    rename_i h1 h2
    cases hq
    obtain rfl := Nat.eq_of_beq_eq_true h1
    obtain rfl := Nat.eq_of_beq_eq_true h2
    have hob : Hl.get [([0, 0], AObj.cells ty [c1, c2])] [0, 0] = some (.cells ty [c1, c2]) := by simp [Hl.get]
    have hlen : (Hl.get [([0, 0], AObj.cells ty [c1, c2])]).len? [0, 0] = none := by simp [Hp.len?, hob, AObj.len?]
    simp only [RepL, RepV] at hrep
    obtain ⟨y, ys, e1, ⟨y', rfl, u, rfl, _, v1, vs1, q1, ⟨rfl, _⟩, v2, vs2, rfl, ⟨rfl, _⟩, rfl⟩, z1, zs, rfl, ⟨z', rfl, _, hz⟩, rfl⟩ := hrep
    obtain ⟨b, hρ, rfl⟩ := hz hlen
    have : vs = #[.iface t (.agg u), .iface t' (.pointer (some ⟨b, 0, none⟩))] := by rw [← Array.toList_inj]; exact e1
    subst this
    have : u = #[.int .i64 a, .int .i64 e] := by rw [← Array.toList_inj]; exact q1
    subst this
    have hO := rel.obj _ _ hob
    simp only [RepO] at hO
    obtain ⟨b', arr, hb', hblk, hone, hL⟩ := hO
    rw [hρ] at hb'; cases hb'
    simp only [RepL] at hL
    obtain ⟨o1, r1, p1, _, o2, r2, rfl, _, rfl⟩ := hL
    have : arr = #[o1, o2] := by rw [← Array.toList_inj]; exact p1
    subst this
    have hgl : g < W0.heap.size := by
      rcases Nat.lt_or_ge g W0.heap.size with h | h
      · exact h
      · simp [World.cell?, Array.getElem?_eq_none h] at hg
    have hg' : w.cell? ⟨g, 0, none⟩ = some hv := by rw [← hg]; exact cell_eq (rel.base g hgl).2
    refine (hc a e b o1 o2 ty w hg' hblk).mono ?_
    rintro ev w' ⟨rfl, w1, bl, rfl⟩
    have g1 := good_below (T := fun t => isIn t = true) rel bl
    have hbl : b < w.heap.size := (Array.getElem?_eq_some_iff.1 hblk).1
    have g2 := good_setRow (T := fun t => isIn t = true) (cs' := [.sc (.int .i64 a), .sc (.int .i64 e)]) (arr' := #[.int .i64 a, .int .i64 e]) g1.rel hob hρ ((bl.block b hbl).trans hblk) rfl rfl (by simp [RepL, RepV, plain])
    have g3 := g1.trans g2
    have hh : (Hl.get [([0, 0], AObj.cells ty [c1, c2])]).set [0, 0] (.cells ty [.sc (.int .i64 a), .sc (.int .i64 e)]) = Hl.get [([0, 0], AObj.cells ty [.sc (.int .i64 a), .sc (.int .i64 e)])] := funext fun x => by
      simp only [Hp.set, Hl.get]
      by_cases e : x = [0, 0]
      · subst e; simp
      · rw [if_neg e, if_neg (fun h => e h.symm), if_neg (fun h => e h.symm)]
    rw [hh] at g3
    exact ⟨_, _, g3.rel, g3.ext, g3.keep, _, rfl, by simp [RepV, plain]⟩
end Go.Di
