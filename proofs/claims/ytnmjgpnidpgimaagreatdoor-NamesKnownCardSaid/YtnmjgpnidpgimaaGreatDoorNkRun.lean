/- NamesKnown over data: true, whatever the number. -/
import Derived.Test.YtnmjgpnidpgimaaGreatDoorNkExt
import Derived.Test.YtnmjgpnidpgimaaGreatDoorDiSim
namespace Go.Proofs.YtnmjgpnidpgimaaGreatDoor
open Go Go.Di Go.RowKit
set_option linter.unusedSimpArgs false

/-- within. -/
def withinS (a n : Int) : Int := if a.tmod n < 0 then IntKind.wrap .i64 (a.tmod n + n) else a.tmod n

theorem within_run (Γ : Gam) (a n : Int) (hn : n ≠ 0) : runFn Tryz.prog Γ 2000 d15 [.sc (.int .i64 a), .sc (.int .i64 n)] [] = some (.ret (.sc (.int .i64 (withinS a n))), []) := by
  have h9 := bin_rem (P := Tryz.prog) (t := 3) (x := false) (y := false) (a := a) hn
  by_cases hb : a.tmod n < 0
  · have hd : decide (a.tmod n < 0) = true := by simpa using hb
    simp only [runFn, d15, List.length, Nat.ble, runC, seqRun, opStep, gWant, opEff, getOpd, ofArgs, EnvL.get, EnvL.put, Nat.beq, Eff.val, Option.map, freshN, made, mk, creates, Option.toList, Hl.upd, afterReg, EnvL.keep, isNilC, h9, bin_lss, bin_add, hd, runRes, runRes1, tupOf, finish, Out.map, res, plain, withinS, if_pos hb]
    rfl
  · have hd : decide (a.tmod n < 0) = false := by simpa using hb
    simp only [runFn, d15, List.length, Nat.ble, runC, seqRun, opStep, gWant, opEff, getOpd, ofArgs, EnvL.get, EnvL.put, Nat.beq, Eff.val, Option.map, freshN, made, mk, creates, Option.toList, Hl.upd, afterReg, EnvL.keep, isNilC, h9, bin_lss, bin_add, hd, runRes, runRes1, tupOf, finish, Out.map, res, plain, withinS, if_neg hb]
    rfl

theorem within_range (a : Int) (n : Int) (h : 0 < n) (hn : n < 1000) : 0 ≤ withinS a n ∧ withinS a n < n := by
  have h1 := Int.tmod_lt_of_pos a h
  have h2 : -n < a.tmod n := by exact Int.lt_tmod_of_pos a h
  unfold withinS
  split
  · rw [wrap_id (by omega) (by omega)]
    omega
  · omega

/-- The files, as they lie when the number comes in. -/
def heap6 : Hl := [([14], .frz 46 2 [(.agg [(.sc (.string ⟨#[97]⟩)), (.sc (.string ⟨#[102, 117, 110, 99, 32, 109, 97, 105, 110, 32, 123, 32, 117, 115, 101, 32, 120, 32, 125]⟩))])]), ([17], .frz 46 2 [(.agg [(.sc (.string ⟨#[98]⟩)), (.sc (.string ⟨#[102, 117, 110, 99, 32, 109, 97, 105, 110, 32, 123, 32, 125]⟩))]), (.agg [(.sc (.string ⟨#[97]⟩)), (.sc (.string ⟨#[32, 118, 97, 114, 32, 109, 97, 105, 110]⟩))])]), ([20], .frz 46 2 [(.agg [(.sc (.string ⟨#[97]⟩)), (.sc (.string ⟨#[118, 97, 114, 32, 120]⟩))]), (.agg [(.sc (.string ⟨#[98]⟩)), (.sc (.string ⟨#[108, 111, 99, 107, 32, 121, 32, 102, 117, 110, 99, 32, 109, 97, 105, 110, 32, 123, 32, 125, 32, 102, 117, 110, 99, 32, 120, 32, 123, 32, 125]⟩))])]), ([22], .frz 46 2 [(.agg [(.sc (.string ⟨#[97]⟩)), (.sc (.string ⟨#[102, 117, 110, 99, 32, 102, 32, 123, 32, 125]⟩))])]), ([25], .frz 46 2 [(.agg [(.sc (.string ⟨#[98]⟩)), (.sc (.string ⟨#[125]⟩))]), (.agg [(.sc (.string ⟨#[97]⟩)), (.sc (.string ⟨#[102, 117, 110, 99, 32, 109, 97, 105, 110, 32, 123, 32, 125]⟩))])]), ([27], .frz 46 2 [(.agg [(.sc (.string ⟨#[65]⟩)), (.sc (.string ⟨#[]⟩))])]), ([29], .frz 46 2 [(.agg [(.sc (.string ⟨#[97]⟩)), (.sc (.string ⟨#[102, 117, 110, 99, 32, 109, 97, 105, 110, 32, 123, 32, 108, 111, 111, 112, 32, 123, 32, 105, 102, 32, 123, 32, 125, 32, 101, 108, 115, 101, 32, 123, 32, 115, 112, 97, 119, 110, 32, 120, 32, 125, 32, 125, 32, 125]⟩))])]), ([31], .frz 46 2 [(.agg [(.sc (.string ⟨#[97]⟩)), (.sc (.string ⟨#[118, 97, 114, 32, 108, 32, 102, 117, 110, 99, 32, 109, 97, 105, 110, 32, 123, 32, 108, 111, 99, 107, 32, 108, 32, 125]⟩))])]), ([33], .frz 46 2 [(.agg [(.sc (.string ⟨#[97]⟩)), (.sc (.string ⟨#[102, 117, 110, 99, 32, 109, 97, 105, 110, 32, 123, 32, 99, 97, 108, 108, 32, 109, 97, 105, 110, 32, 115, 112, 97, 119, 110, 32, 109, 97, 105, 110, 32, 125]⟩))])]), ([34], .row 43 1 [(.lst 2 [(.agg [(.sc (.string ⟨#[97]⟩)), (.sc (.string ⟨#[102, 117, 110, 99, 32, 109, 97, 105, 110, 32, 123, 32, 117, 115, 101, 32, 120, 32, 125]⟩))])] .ro), (.lst 2 [(.agg [(.sc (.string ⟨#[98]⟩)), (.sc (.string ⟨#[102, 117, 110, 99, 32, 109, 97, 105, 110, 32, 123, 32, 125]⟩))]), (.agg [(.sc (.string ⟨#[97]⟩)), (.sc (.string ⟨#[32, 118, 97, 114, 32, 109, 97, 105, 110]⟩))])] .ro), (.lst 2 [(.agg [(.sc (.string ⟨#[97]⟩)), (.sc (.string ⟨#[118, 97, 114, 32, 120]⟩))]), (.agg [(.sc (.string ⟨#[98]⟩)), (.sc (.string ⟨#[108, 111, 99, 107, 32, 121, 32, 102, 117, 110, 99, 32, 109, 97, 105, 110, 32, 123, 32, 125, 32, 102, 117, 110, 99, 32, 120, 32, 123, 32, 125]⟩))])] .ro), (.lst 2 [(.agg [(.sc (.string ⟨#[97]⟩)), (.sc (.string ⟨#[102, 117, 110, 99, 32, 102, 32, 123, 32, 125]⟩))])] .ro), (.lst 2 [(.agg [(.sc (.string ⟨#[98]⟩)), (.sc (.string ⟨#[125]⟩))]), (.agg [(.sc (.string ⟨#[97]⟩)), (.sc (.string ⟨#[102, 117, 110, 99, 32, 109, 97, 105, 110, 32, 123, 32, 125]⟩))])] .ro), (.lst 2 [(.agg [(.sc (.string ⟨#[65]⟩)), (.sc (.string ⟨#[]⟩))])] .ro), (.lst 2 [(.agg [(.sc (.string ⟨#[97]⟩)), (.sc (.string ⟨#[102, 117, 110, 99, 32, 109, 97, 105, 110, 32, 123, 32, 108, 111, 111, 112, 32, 123, 32, 105, 102, 32, 123, 32, 125, 32, 101, 108, 115, 101, 32, 123, 32, 115, 112, 97, 119, 110, 32, 120, 32, 125, 32, 125, 32, 125]⟩))])] .ro), (.lst 2 [(.agg [(.sc (.string ⟨#[97]⟩)), (.sc (.string ⟨#[118, 97, 114, 32, 108, 32, 102, 117, 110, 99, 32, 109, 97, 105, 110, 32, 123, 32, 108, 111, 99, 107, 32, 108, 32, 125]⟩))])] .ro), (.lst 2 [(.agg [(.sc (.string ⟨#[97]⟩)), (.sc (.string ⟨#[102, 117, 110, 99, 32, 109, 97, 105, 110, 32, 123, 32, 99, 97, 108, 108, 32, 109, 97, 105, 110, 32, 115, 112, 97, 119, 110, 32, 109, 97, 105, 110, 32, 125]⟩))])] .ro)]), ([35], .row 3 1 [(.sc (.int .i64 12)), (.sc (.int .i64 10000)), (.sc (.int .i64 10021)), (.sc (.int .i64 0)), (.sc (.int .i64 10000)), (.sc (.int .i64 0)), (.sc (.int .i64 33)), (.sc (.int .i64 18)), (.sc (.int .i64 0))]), ([36], .row 37 1 [(.sc (.int .i64 10)), (.sc (.int .i64 9)), (.sc (.int .i64 9)), (.sc (.int .i64 11)), (.sc (.int .i64 7)), (.sc (.int .i64 1)), (.sc (.int .i64 10)), (.sc (.int .i64 10)), (.sc (.int .i64 0))])]

theorem pre6 (z : Int) : runPre Tryz.prog gamK 2000 5 d6.code [(0, .sc (.int .i64 z))] [] = some (.norm [(0, (.sc (.int .i64 z))), (3, (.row 1 [34] 9 0 9)), (4, (.row 1 [35] 9 0 9)), (5, (.row 1 [36] 9 0 9))] heap6) := by kernel_rfl

theorem tail6 (k : Nat) (hk : k < 9) : finFn d6 (runC Tryz.prog gamK 2000 (restOf 6 d6.code) [(3, (.row 1 [34] 9 0 9)), (4, (.row 1 [35] 9 0 9)), (5, (.row 1 [36] 9 0 9)), (6, .sc (.int .i64 k))] heap6) = some (.ret (.sc (.bool true)), []) := by
  obtain rfl | rfl | rfl | rfl | rfl | rfl | rfl | rfl | rfl : k = 0 ∨ k = 1 ∨ k = 2 ∨ k = 3 ∨ k = 4 ∨ k = 5 ∨ k = 6 ∨ k = 7 ∨ k = 8 := by omega
  all_goals kernel_rfl

theorem step6 (z : Int) : runC Tryz.prog gamK 2000 (restOf 5 d6.code) [(0, (.sc (.int .i64 z))), (3, (.row 1 [34] 9 0 9)), (4, (.row 1 [35] 9 0 9)), (5, (.row 1 [36] 9 0 9))] heap6 = runC Tryz.prog gamK 2000 (restOf 6 d6.code) [(3, (.row 1 [34] 9 0 9)), (4, (.row 1 [35] 9 0 9)), (5, (.row 1 [36] 9 0 9)), (6, .sc (.int .i64 (withinS z 9)))] heap6 := by
  have hw := within_run (gam Tryz.prog tabK 2000 59) z 9 (by decide)
  refine runC_reg (g' := [(6, .sc (.int .i64 (withinS z 9))), (39, .sc (.int .i64 (withinS z 9))), (38, .sc (.int .i64 9)), (37, .row 1 [34] 9 0 9), (36, .sc (.int .i64 z))] ++ [(0, (.sc (.int .i64 z))), (3, (.row 1 [34] 9 0 9)), (4, (.row 1 [35] 9 0 9)), (5, (.row 1 [36] 9 0 9))]) ?_
  refine seq_step (v := .sc (.int .i64 z)) (by kernel_rfl) rfl ?_
  refine seq_step (v := .row 1 [34] 9 0 9) (by kernel_rfl) rfl ?_
  refine seq_step (v := .sc (.int .i64 9)) (by kernel_rfl) rfl ?_
  have hcall : callEff gamK (some 39) heap6.get 15 [.sc (.int .i64 z), .sc (.int .i64 9)] = some (Eff.val (.sc (.int .i64 (withinS z 9)))) :=
    call_pure (sp := ⟨true, fun args H => runFn Tryz.prog (gam Tryz.prog tabK 2000 59) 2000 d15 args H⟩) (vs := [.sc (.int .i64 z), .sc (.int .i64 9)]) (by kernel_rfl) rfl (by kernel_rfl) hw rfl
  refine seq_step (v := .sc (.int .i64 (withinS z 9))) hcall rfl ?_
  refine seq_step (v := .sc (.int .i64 (withinS z 9))) (by kernel_rfl) rfl ?_
  rfl

theorem run6 (z : Int) : runFn Tryz.prog gamK 2000 d6 [.sc (.int .i64 z)] [] = some (.ret (.sc (.bool true)), []) := by
  rw [runFn_fin (by kernel_rfl)]
  show finFn d6 (runC Tryz.prog gamK 2000 d6.code [(0, .sc (.int .i64 z))] []) = _
  rw [runC_cut (pre6 z), step6]
  obtain ⟨h1, h2⟩ := within_range z 9 (by decide) (by decide)
  have := tail6 (withinS z 9).toNat (by omega)
  rw [Int.toNat_of_nonneg h1] at this
  exact this
end Go.Proofs.YtnmjgpnidpgimaaGreatDoor
