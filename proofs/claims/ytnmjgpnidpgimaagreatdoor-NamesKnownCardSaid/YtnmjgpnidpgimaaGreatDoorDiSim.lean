/- Operations on numbers, strings that are not known: what they come to. -/
import Derived.Test.YtnmjgpnidpgimaaGreatDoorDiLib
namespace Go.Di
open Go.RowKit
set_option linter.unusedVariables false

section
variable {P : Program} {t : TypeId} {a b : Int} {x y : Bool} {u v : ByteArray}
theorem bin_add : binEff P .add t x y (.sc (.int .i64 a)) (.sc (.int .i64 b)) = some (.sc (.int .i64 (IntKind.wrap .i64 (a + b)))) := rfl
theorem bin_sub : binEff P .sub t x y (.sc (.int .i64 a)) (.sc (.int .i64 b)) = some (.sc (.int .i64 (IntKind.wrap .i64 (a - b)))) := rfl
theorem bin_mul : binEff P .mul t x y (.sc (.int .i64 a)) (.sc (.int .i64 b)) = some (.sc (.int .i64 (IntKind.wrap .i64 (a * b)))) := rfl
theorem bin_lss : binEff P .lss t x y (.sc (.int .i64 a)) (.sc (.int .i64 b)) = some (.sc (.bool (decide (a < b)))) := rfl
theorem bin_leq : binEff P .leq t x y (.sc (.int .i64 a)) (.sc (.int .i64 b)) = some (.sc (.bool (decide (a ≤ b)))) := rfl
theorem bin_gtr : binEff P .gtr t x y (.sc (.int .i64 a)) (.sc (.int .i64 b)) = some (.sc (.bool (decide (a > b)))) := rfl
theorem bin_geq : binEff P .geq t x y (.sc (.int .i64 a)) (.sc (.int .i64 b)) = some (.sc (.bool (decide (a ≥ b)))) := rfl
theorem bin_eql : binEff P .eql t x y (.sc (.int .i64 a)) (.sc (.int .i64 b)) = some (.sc (.bool (a == b))) := rfl
theorem bin_neq : binEff P .neq t x y (.sc (.int .i64 a)) (.sc (.int .i64 b)) = some (.sc (.bool (a != b))) := rfl
theorem bin_rem (h : b ≠ 0) : binEff P .rem t x y (.sc (.int .i64 a)) (.sc (.int .i64 b)) = some (.sc (.int .i64 (a.tmod b))) := by
  show ((pureRun P (do eqGuard .rem t _ _ _ _; binOp .rem t (.int .i64 a) (.int .i64 b))).bind _) = _
  have : binOp .rem t (.int .i64 a) (.int .i64 b) = pure (.int .i64 (a.tmod b)) := by
    show Op.intDiv .rem .i64 a b = _
    simp only [Op.intDiv, if_neg h]
  rw [this]
  rfl
theorem bin_quo (h : b ≠ 0) : binEff P .quo t x y (.sc (.int .i64 a)) (.sc (.int .i64 b)) = some (.sc (.int .i64 (IntKind.wrap .i64 (a.tdiv b)))) := by
  show ((pureRun P (do eqGuard .quo t _ _ _ _; binOp .quo t (.int .i64 a) (.int .i64 b))).bind _) = _
  have : binOp .quo t (.int .i64 a) (.int .i64 b) = pure (.int .i64 (IntKind.wrap .i64 (a.tdiv b))) := by
    show Op.intDiv .quo .i64 a b = _
    simp only [Op.intDiv, if_neg h]
  rw [this]
  rfl
end

theorem wrap_eq (n : Int) : IntKind.wrap .i64 n = (n + 9223372036854775808) % 18446744073709551616 - 9223372036854775808 := by
  have h1 : IntKind.wrap .i64 n = (if decide (n % 18446744073709551616 ≥ 9223372036854775808) = true then n % 18446744073709551616 - 18446744073709551616 else n % 18446744073709551616) := rfl
  rw [h1]
  split <;> simp_all <;> omega

theorem wrap_id {n : Int} (h1 : -9223372036854775808 ≤ n) (h2 : n < 9223372036854775808) : IntKind.wrap .i64 n = n := by
  rw [wrap_eq]; omega

/-- A call of a function of data. -/
theorem call_pure {Γ : Gam} {d : Option Nat} {h : Hp} {f : FuncId} {args vs : List DV} {sp : FSpec} {out : DV} (hsp : Γ f = some sp) (hp : sp.pure = true) (hr : resL h args = some (vs, [])) (hrun : sp.run vs [] = some (.ret out, [])) (hc : closed out = true) :
    callEff Γ d h f args = some ⟨.ret out, [], []⟩ := by
  unfold callEff
  rw [hsp]
  simp only [hp, if_true, hr, hrun, outClosed, hc]
  rfl

/-- One step of a region. -/
theorem seq_step {P : Program} {Γ : Gam} {dst : Option Nat} {op : DOp} {os : List DOper} {g : EnvL} {h : Hl} {v : DV} {r : Option RR} (he : opEff P Γ dst (getOpd g.get) h.get op = some (.val v)) (hm : made dst (getOpd g.get) op (.val v) = []) (hs : seqRun P Γ os (g.put dst v) h = r) :
    seqRun P Γ (⟨dst, op, none⟩ :: os) g h = r := by
  simp only [seqRun, opStep, gWant, he, Option.map_some, hm, freshN]
  exact hs
end Go.Di
