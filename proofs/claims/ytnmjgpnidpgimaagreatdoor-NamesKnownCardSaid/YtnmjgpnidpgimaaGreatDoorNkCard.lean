/- NamesKnown returns true, whatever the number; the number reads as it did. Conditions: the listed variables of the library hold what the program's text lays (tied). -/
import Derived.Test.YtnmjgpnidpgimaaGreatDoorCards
import Derived.Test.YtnmjgpnidpgimaaGreatDoorTie
import Derived.Test.YtnmjgpnidpgimaaGreatDoorNkRun
import Derived.Test.YtnmjgpnidpgimaaGreatDoorNkFacts
import Derived.WalkKit
import Derived.ProofKit
import Derived.OpenShut
import Derived.Deep.DeepHandedRow
import Derived.Lib.LaidTab
import Derived.Stop.LaidErr
import Derived.LaidHandle
import Derived.LaidMore
namespace Go.Proofs.YtnmjgpnidpgimaaGreatDoor
open Go.ChangeShapes Go.WideShapes Go.ChangeAt Go.RowKit Go.Di
set_option maxRecDepth 1000000

theorem own : ownKnob Tryz.prog.godebug = none := by kernel_rfl
theorem rtypeIs : (Tryz.prog.cutTypes.find? (·.1 == "internal/reflectlite.rtype")).map (·.2) = some 279 := by kernel_rfl
theorem oneErr : ((List.range 398).filter fun t => Tryz.prog.rowNamed t [101, 114, 114, 111, 114]) = [105] := by kernel_rfl
theorem sizeTypes : Tryz.prog.types.size = 398 := by kernel_rfl
theorem errIs : Tryz.prog.globalNamed "errors.errorType" = some 0 := by kernel_rfl

abbrev laidList : List (String × DataW Unit) := [("errors.errorType", Rows.laid_errors_errorType), ("unicode.White_Space", Rows.laid_unicode_White_Space), ("strings.asciiSpace", Rows.laid_strings_asciiSpace)]

theorem spaceData : (Rows.laid_strings_asciiSpace : DataW Unit) = Lib.tabData .u8 Lib.asciiSpaceTab := by kernel_rfl

/-- What the row's list gives: the type's handle; the table of blanks. -/
theorem laid_facts {W : World} (h : laidMetH Tryz.prog laidList W) : W.cell? ⟨0, 0, none⟩ = some (.iface 279 (.agg #[.pointer (some ⟨8, 105, none⟩)])) ∧ Lib.TabIs Tryz.prog W "strings.asciiSpace" .u8 Lib.asciiSpaceTab := by
  have h' : laidMet Tryz.prog [("unicode.White_Space", Rows.laid_unicode_White_Space), ("strings.asciiSpace", Rows.laid_strings_asciiSpace)] W ∧ handlesMet Tryz.prog [("errors.errorType", Rows.laid_errors_errorType)] W := h
  obtain ⟨h1, h2⟩ := h'
  refine ⟨?_, ?_⟩
  · obtain ⟨name, u, ty, e1, e2, e3, e4, e5⟩ := h2 _ (List.mem_singleton.2 rfl)
    have en : name = [101, 114, 114, 111, 114] := (Option.some.inj e1).symm
    subst en
    obtain rfl := Option.some.inj (rtypeIs.symm.trans e2)
    have hm : ty ∈ (List.range 398).filter fun t => Tryz.prog.rowNamed t [101, 114, 114, 111, 114] := List.mem_filter.2 ⟨List.mem_range.2 (by rw [← sizeTypes]; exact e3), e4⟩
    rw [oneErr] at hm
    obtain rfl := List.mem_singleton.1 hm
    have hh : typeHandle Tryz.prog 105 = .pointer (some ⟨8, 105, none⟩) := by kernel_rfl
    rw [hh] at e5
    simpa using World.var?_cell errIs e5 0
  · have ht := h1.tail
    rw [spaceData] at ht
    exact Lib.tabIs_of_head (rest := []) (g := 2) (t := 301) (e := 5) (n := 256) (by kernel_rfl) (by kernel_rfl) (by kernel_rfl) (by kernel_rfl) (by kernel_rfl) (by kernel_rfl) ht

theorem contract (H : Type) (enc : TypeId × Value → H) (W : World) (base : Nat) (args : Array Value) (ds gs : List (DataW H)) (before : List MemPlace)
    (hval : ∀ (j : Nat) t v, Tryz.f6.params[j]? = some t → args[j]? = some v → Value.okWide Tryz.prog W .any base t v)
    (hW : DataW.Whole enc Tryz.prog Tryz.f6.params.toList Rows.namesKnownSpec.vars false W args.toList ds gs before) (hL : laidMetH Tryz.prog laidList W) :
    Calls Tryz.prog 6 args W fun e W' => ∃ v, e = .returned v ∧ Rows.namesKnownSpec.post enc Tryz.prog Tryz.f6 false true false false W args v W' := by
  have hW' := hW
  obtain ⟨p, q, hA0, hV, rfl, hfz, hnd⟩ := hW
  have hA : DataW.TrodAll enc Tryz.prog W 0 (fun _ => true) true Tryz.f6.params.toList args.toList ds p := hA0
  rw [Tryz.params6] at hA hval
  obtain ⟨v0, vs0, d0, ds0, p0, q0, hargs, rfl, rfl, h0, r0⟩ := trodAll_cons hA
  obtain ⟨rfl, rfl, rfl⟩ := trodAll_nil r0
  obtain rfl : args = #[v0] := by cases args; simp_all
  obtain ⟨rfl, rfl⟩ := trodVars_none hV
  obtain ⟨n, rfl, rfl, rfl, hwn⟩ := open_int Tryz.underlying3 (hval 0 3 v0 rfl rfl) h0
  clear hA0
  simp only [List.append_nil] at hW'
  obtain ⟨hg, htab⟩ := laid_facts hL
  have walk : Calls Tryz.prog 6 #[.int .i64 n] W fun e w' => ∃ ρ' F' v, e = .returned v ∧ RepV ρ' F' (Hl.get []) w' (.sc (.bool true)) v ∧ Below W.heap.size W w' :=
    calls_of_run (gamK_ok htab hg) mixed Tryz.func6 g6 (run6 n) (fun b => b < W.heap.size) (rel_start W) (by simp [RepL, RepV, plain]) rfl
  refine walk.mono fun e W' ⟨ρ', F', v, he, hv, hb⟩ => ?_
  simp only [RepV] at hv
  obtain ⟨rfl, _⟩ := hv
  subst he
  exact ⟨_, rfl, _, _, _, [], [], [], hW', trodAll_cons_mk (shut_bool Tryz.underlying4 _) trodAll_mk0, trodAll_cons_mk (shut_int Tryz.underlying3 hwn) trodAll_mk0, rfl, hb.frame _, fun h => by cases h⟩

/-- A start for the witness: the variables laid as the program's text lays them. -/
theorem door_met (os : Os) (args : Array Value) : laidMetH Tryz.prog laidList ((World.doorLaid Tryz.prog 55 os).forCall (fun _ _ => 0) ⟨#[], args, []⟩).memory :=
  laidMetH_of_parts (laidMet_of_run' 8 (by kernel_rfl) (by kernel_rfl)) (by kernel_rfl)

theorem reads (os : Os) {H : Type} (enc : TypeId × Value → H) : ∃ places, DataW.whole enc Tryz.prog ((World.doorLaid Tryz.prog 55 os).forCall (fun _ _ => 0) ⟨#[], #[.int .i64 0], []⟩).memory Tryz.f6.params.toList Rows.namesKnownSpec.vars false #[Value.int .i64 0].toList 8 = some ([.lit (.int .i64 0)], [], places) :=
  ⟨[], by kernel_rfl⟩

theorem lifted (os : Os) (started : os.Started) (H : Type) (enc : TypeId × Value → H) (F : Stop.Interp) :
    ReturnsInHanded {} Tryz.checked os 6 .any ((OpenSpec.ofChange Rows.namesKnownSpec).preRow enc Tryz.prog Tryz.f6 Rows.namesKnownRow.domain false Rows.namesKnownRow.laid) (((OpenSpec.ofChange Rows.namesKnownSpec).at F).post enc Tryz.prog Tryz.f6 false true false false) := by
  obtain ⟨places, hx⟩ := reads os enc
  refine returnsInHanded_of_row (C := Tryz.checked) (s := OpenSpec.ofChange Rows.namesKnownSpec) own started (by kernel_rfl) Tryz.func6 ?_ ?_
  · refine ⟨World.doorLaid Tryz.prog 55 os, fun _ _ => 0, ⟨#[], #[.int .i64 0], []⟩, rfl, World.shaped_of_RefB (by kernel_rfl) (by kernel_rfl), rfl, (Input.okWide_of_okWideB (by kernel_rfl)).2,
      OpenSpec.preRow_of_cond 8 hx (by kernel_rfl) (fun k hk => by cases hk) (by kernel_rfl) (door_met os _), ?_⟩
    simp only [Assume.holds]
    exact ⟨by simp, by simp, by simp, by simp, by simp⟩
  intro W base args ds gs before hval hW _ _ _ hL _ _
  exact contract H enc W base args ds gs before hval hW hL

theorem facts : joinedFacts Tryz.prog 6 Tryz.f6 Rows.namesKnownSpec Rows.namesKnownRow = true := by
  unfold joinedFacts
  exact (and2 (and2 (and2 (and2 (and2 (and2 (and2 (and2 (and2 (and2 (and2 (and2 (and2 (and2 (and2 (and2 (and2 (and2 (and2 (and2 (and2 (and2 (and2 (and2 (and2 (and2 (and2 (and2 (and2 (and2 (and2 fact0 fact1) fact2) fact3) fact4) fact5) fact6) fact7) fact8) fact9) fact10) fact11) fact12) fact13) fact14) fact15) fact16) fact17) fact18) fact19) fact20) fact21) fact22) fact23) fact24) fact25) fact26) fact27) fact28) fact29) fact30) fact31)

theorem said : Rows.NamesKnownSaid :=
  OpenClaim.holds_of_cond 6 Tryz.f6 rfl rfl rfl rfl rfl rfl rfl ⟨rfl, rfl, rfl, rfl, rfl⟩ rfl rfl rfl rfl rfl (by kernel_rfl) Tryz.func6 facts
    (of_decide_eq_true (by kernel_rfl)) (by unfold Func.isWrapper; first | (rw [if_pos (by decide +kernel)]; kernel_rfl) | (rw [if_neg (by decide +kernel)]; exact ⟨rfl, rfl⟩))
    (fun os started H enc _ F => by rw [OpenClaim.pre_eq_preRow]; exact lifted os started H enc F)

/-- No parameter wants a stand-in; the program's own looks are as the card says. -/
theorem plainIs (f : FuncId) (fn : Func) (hf : Tryz.pinned.checked.prog.funcNamed "deadbolt/deadboltlaw7.NamesKnown" = some f) (hfn : Tryz.pinned.checked.prog.funcs[f]? = some fn) :
    true = Tryz.pinned.checked.prog.looks [] ∧ ∀ (j : Nat) t, fn.params[j]? = some t → Tryz.pinned.checked.prog.wantsStandIn t = false := by
  obtain rfl : f = 6 := Option.some.inj ((show Tryz.prog.funcNamed "deadbolt/deadboltlaw7.NamesKnown" = some 6 by kernel_rfl).symm.trans hf) |>.symm
  obtain rfl : fn = Tryz.f6 := (Option.some.inj (Tryz.func6.symm.trans hfn)).symm
  refine ⟨by kernel_rfl, fun j t ht => ?_⟩
  rw [Tryz.params6] at ht
  obtain rfl : t = 3 := by simpa using Array.mem_of_getElem? ht
  exact (show Tryz.prog.wantsStandIn 3 = false by kernel_rfl)

/-- The card. -/
theorem namesKnown_holds : Rows.NamesKnownCardSaid :=
  Claim7.holds_tied_plain_at .later [] _ _ _ _ said (fun _ h => by cases h) (by kernel_rfl) (fun _ h => by cases h) namesKnown_row_tie rfl ⟨rfl, rfl⟩ (by kernel_rfl) rfl plainIs (by kernel_rfl)
#print axioms namesKnown_holds
end Go.Proofs.YtnmjgpnidpgimaaGreatDoor
