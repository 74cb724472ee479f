/- Code run in parts; functions that stand for themselves. -/
import Derived.Test.YtnmjgpnidpgimaaGreatDoorDiTab
namespace Go.Di
open Go.RowKit
set_option linter.unusedVariables false

/-- The first n parts of a sequence. -/
def runPre (P : Program) (Γ : Gam) (fuel : Nat) : Nat → DCode → EnvL → Hl → Option CR
  | 0, _, g, h => some (.norm g h)
  | n + 1, .seq a b, g, h => match runC P Γ fuel a g h with
    | some (.norm g' h') => runPre P Γ fuel n b g' h'
    | r => r
  | _ + 1, _, _, _ => none

/-- .. what is left. -/
def restOf : Nat → DCode → DCode
  | 0, c => c
  | n + 1, .seq _ b => restOf n b
  | _ + 1, _ => .skip

theorem runC_cut {P : Program} {Γ : Gam} {fuel : Nat} : ∀ {n : Nat} {c : DCode} {g g' : EnvL} {h h' : Hl}, runPre P Γ fuel n c g h = some (.norm g' h') → runC P Γ fuel c g h = runC P Γ fuel (restOf n c) g' h'
  | 0, c, g, g', h, h', e => by
    simp only [runPre, Option.some.injEq, CR.norm.injEq] at e
    obtain ⟨rfl, rfl⟩ := e
    rfl
  | n + 1, .seq a b, g, g', h, h', e => by
    simp only [runPre] at e
    simp only [runC, restOf]
    split at e
    · rename_i g1 h1 h2
      rw [h2]
      exact runC_cut e
    · rename_i hr
      exact absurd e (hr _ _)
  | n + 1, .skip, _, _, _, _, e => by simp [runPre] at e
  | n + 1, .reg .., _, _, _, _, e => by simp [runPre] at e
  | n + 1, .drw .., _, _, _, _, e => by simp [runPre] at e
  | n + 1, .cond .., _, _, _, _, e => by simp [runPre] at e
  | n + 1, .block .., _, _, _, _, e => by simp [runPre] at e
  | n + 1, .loop _, _, _, _, _, e => by simp [runPre] at e
  | n + 1, .exit _, _, _, _, _, e => by simp [runPre] at e
  | n + 1, .ret, _, _, _, _, e => by simp [runPre] at e
  | n + 1, .virt .., _, _, _, _, e => by simp [runPre] at e

theorem runC_reg {P : Program} {Γ : Gam} {fuel : Nat} {ds : List DOper} {ks : List Nat} {b : DCode} {g g' : EnvL} {h h' : Hl} (e : seqRun P Γ ds g h = some (.ok g' h')) : runC P Γ fuel (.seq (.reg ds ks) b) g h = runC P Γ fuel b (g'.keep ks) h' := by
  simp only [runC, e, afterReg]

/-- The end of a function, of what its code has come to. -/
def finFn (df : DFn) : Option CR → Option (Out × Hl)
  | some (.norm g h) => match runRes g h df.res with
    | some l => finish df.mode (.ret (tupOf l)) h
    | none => none
  | some (.ret g h) => match runRes g h df.res with
    | some l => finish df.mode (.ret (tupOf l)) h
    | none => none
  | some (.pnc v _ h) => finish df.mode (.pnc v) h
  | _ => none

theorem runFn_fin {P : Program} {Γ : Gam} {fuel : Nat} {df : DFn} {args : List DV} {H : Hl} (hl : Nat.ble args.length df.ntmps = true) : runFn P Γ fuel df args H = finFn df (runC P Γ fuel df.code (ofArgs 0 args) H) := by
  unfold runFn finFn
  rw [hl]
  rfl

/-- A function of the program by what its digest comes to, wherever that is known. -/
theorem fnOk_of_run {P : Program} {W0 : World} {Γ : Gam} (hΓ : ∀ f sp, Γ f = some sp → FnOk P W0 f sp) (hmix : P.follows .mixedOrders = true) {f : FuncId} {fn : Func} (hfn : P.funcs[f]? = some fn) {hs : List Hint} {m : Mode} {df : DFn} (hd : digFn P fn hs m = some df) {sp : FSpec} (hp : sp.pure = m.isPure)
    {fuel : Nat} (hr : ∀ args H q, sp.run args H = some q → runFn P Γ fuel df args H = some q) : FnOk P W0 f sp :=
  fn_ok hfn hd hp fun args H q hq => fn_at hΓ hmix hfn hd (hr args H q hq)

/-- What a call over data says of the machine, from a state without names. -/
theorem calls_of_run {P : Program} {W0 : World} {Γ : Gam} (hΓ : ∀ f sp, Γ f = some sp → FnOk P W0 f sp) (hmix : P.follows .mixedOrders = true) {f : FuncId} {fn : Func} (hfn : P.funcs[f]? = some fn) {hs : List Hint} {m : Mode} {df : DFn} (hd : digFn P fn hs m = some df)
    {fuel : Nat} {args : List DV} {out : DV} (hr : runFn P Γ fuel df args [] = some (.ret out, [])) {w : World} (F : Nat → Prop) {vs : Array Value} (r : Rel W0 (fun _ => none) F (Hl.get []) w) (hv : RepL (fun _ => none) F (Hl.get []) w args vs.toList) (ha : toksL args = []) :
    Calls P f vs w fun e w' => ∃ ρ' F' v, e = .returned v ∧ RepV ρ' F' (Hl.get []) w' out v ∧ Below w.heap.size w w' := by
  refine (fn_at hΓ hmix hfn hd hr (fun _ => rfl) (fun _ => none) F w vs r hv (fun u hu => by rw [ha] at hu; cases hu) (fun u o hu => by simp [Hl.get] at hu)).mono ?_
  rintro e w' ⟨ρ', F', _, ext, _, v, rfl, hv⟩
  exact ⟨ρ', F', v, rfl, hv, ⟨ext.os, ext.tape, ext.output, ext.size, fun b hb => ext.keep b hb fun ⟨t, o, ho, _⟩ => by simp [Hl.get] at ho⟩⟩

/-- The state at the beginning: what is there stays as it is. -/
theorem rel_start (w : World) : Rel w (fun _ => none) (fun b => b < w.heap.size) (Hl.get []) w :=
  ⟨fun b hb => ⟨hb, rfl⟩, fun t o ho => by simp [Hl.get] at ho, fun b hb => hb, fun b ⟨t, o, ho, _⟩ => by simp [Hl.get] at ho, fun t o t' o' b ho => by simp [Hl.get] at ho⟩
end Go.Di
