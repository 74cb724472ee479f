/- The functions of the library that NamesKnown reaches, by their contracts; the table of all. -/
import Derived.Test.YtnmjgpnidpgimaaGreatDoorNkTab
import Derived.Test.YtnmjgpnidpgimaaGreatDoorNkErr
import Derived.Test.YtnmjgpnidpgimaaGreatDoorNkShelf
import Derived.Test.YtnmjgpnidpgimaaGreatDoorDiLib
import Derived.KernelRfl
namespace Go.Proofs.YtnmjgpnidpgimaaGreatDoor
open Go Go.Di Go.RowKit

def exts : List (FuncId × Row) := [(53, .ext (pureSpec runCompare)), (154, .ext (pureSpec runFields)), (86, .ext (pureSpec (runIs 158 37))), (87, .ext ⟨false, runAs 158 161⟩)]

theorem exts_ok {W0 : World} (htab : Lib.TabIs Tryz.prog W0 "strings.asciiSpace" .u8 Lib.asciiSpaceTab) (hg : W0.cell? ⟨0, 0, none⟩ = some (.iface 279 (.agg #[.pointer (some ⟨8, 105, none⟩)]))) : RowsOkL Tryz.prog W0 exts :=
  ⟨compare_ok Tryz.func53 (by kernel_rfl) (by kernel_rfl) Tryz.strings_Compare, fields_ok Tryz.func154 (by kernel_rfl) (by kernel_rfl) htab Tryz.strings_Fields,
    is_ok Tryz.func86 (by kernel_rfl) (by kernel_rfl) is_false,
    as_ok Tryz.func87 (by kernel_rfl) (by kernel_rfl) hg fun a e tb o1 o2 ty w h1 h2 => (as_hit a e tb o1 o2 ty w h1 h2).mono fun ev w' ⟨he, hw⟩ => ⟨he, _, ((((Below.refl _ _).alloc (Nat.le_refl _) _).alloc (by simp) _).alloc (by simp; omega) _).alloc (by simp; omega) _, hw⟩, trivial⟩

noncomputable def tabK : Tab := tabL rows exts clos
theorem mixed : Tryz.prog.follows .mixedOrders = true := by kernel_rfl
theorem tabK_ok {W0 : World} (htab : Lib.TabIs Tryz.prog W0 "strings.asciiSpace" .u8 Lib.asciiSpaceTab) (hg : W0.cell? ⟨0, 0, none⟩ = some (.iface 279 (.agg #[.pointer (some ⟨8, 105, none⟩)]))) : TabOk Tryz.prog W0 tabK :=
  tabL_ok rows_ok (exts_ok htab hg) clos_ok
/-- What stands for the functions. -/
noncomputable def gamK : Gam := gam Tryz.prog tabK 2000 60
theorem gamK_ok {W0 : World} (htab : Lib.TabIs Tryz.prog W0 "strings.asciiSpace" .u8 Lib.asciiSpaceTab) (hg : W0.cell? ⟨0, 0, none⟩ = some (.iface 279 (.agg #[.pointer (some ⟨8, 105, none⟩)]))) (f : FuncId) (sp : FSpec) (h : gamK f = some sp) : FnOk Tryz.prog W0 f sp :=
  gam_ok mixed (tabK_ok htab hg) 60 f sp h
end Go.Proofs.YtnmjgpnidpgimaaGreatDoor
