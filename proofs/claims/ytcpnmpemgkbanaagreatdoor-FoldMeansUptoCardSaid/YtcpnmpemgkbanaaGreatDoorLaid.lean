/- A world that holds what the rows list: the witness of every row of this seat; the table of blanks out of the rows' condition. No condition. -/
import Derived.Test.YtcpnmpemgkbanaaGreatDoorRows
import Derived.Lay
import Derived.MakeChecks
import Derived.Stop.LaidErr
import Derived.Lib.LaidTab
import Derived.Lib.Space
namespace Go.Proofs.YtcpnmpemgkbanaaGreatDoor.Laid
def lst : List (String × DataW Unit) := Rows.foldWindowsRow.laid
set_option maxRecDepth 100000 in
theorem fits (os : Os) : (World.holding Tryz.prog os ⟨#[], #[], []⟩).layFits Tryz.prog lst [] = true := by kernel_rfl
set_option maxRecDepth 100000 in
theorem ifaces (os : Os) : (World.holding Tryz.prog os ⟨#[], #[], []⟩).layIfaces Tryz.prog lst (World.laidAll Tryz.prog os lst) = true := by kernel_rfl
set_option maxRecDepth 100000 in
theorem plain : (lst.all fun x => x.2.handleName?.isNone) = true := by kernel_rfl
theorem met (os : Os) (args : Array Value) : laidMetH Tryz.prog lst ((World.laidAll Tryz.prog os lst).forCall (fun _ _ => 0) ⟨#[], args, []⟩).memory := by
  rw [MakeChecks.laidMetH_plain _ _ _ plain]
  exact laidMet_laidAll _ (fits os) (ifaces os)
set_option maxRecDepth 100000 in
theorem zipB (os : Os) (args : Array Value) : ((World.laidAll Tryz.prog os lst).forCall (fun _ _ => 0) ⟨#[], args, []⟩).variablesZipB Tryz.prog = true := by kernel_rfl
set_option maxRecDepth 100000 in
theorem dropB (os : Os) (args : Array Value) : (((World.laidAll Tryz.prog os lst).forCall (fun _ _ => 0) ⟨#[], args, []⟩).heap.toList.drop Tryz.prog.globals.size).take ((begin Tryz.prog (fun _ _ => 0) default).world.heap.size - Tryz.prog.globals.size) =
      (begin Tryz.prog (fun _ _ => 0) default).world.heap.toList.drop Tryz.prog.globals.size := by kernel_rfl
theorem shaped (os : Os) (args : Array Value) : ((World.laidAll Tryz.prog os lst).forCall (fun _ _ => 0) ⟨#[], args, []⟩).Shaped Tryz.prog := World.shaped_of_ZipB (zipB os args) (dropB os args)
theorem gSp : Tryz.prog.globalNamed "strings.asciiSpace" = some 0 := by kernel_rfl
theorem gSpType : (Tryz.prog.globals[0]?).map (·.type) = some 58 := by kernel_rfl
theorem cells58 : Tryz.prog.cellsOf 58 = 256 := by kernel_rfl
theorem cells5 : Tryz.prog.cellsOf 5 = 1 := by kernel_rfl
set_option maxRecDepth 100000 in
theorem sp_is : (Rows.laid_strings_asciiSpace : DataW Unit) = Lib.tabData .u8 Lib.asciiSpaceTab := by kernel_rfl
theorem space {W : World} (h : laidMetH Tryz.prog lst W) : Lib.TabIs Tryz.prog W "strings.asciiSpace" .u8 Lib.asciiSpaceTab := by
  rw [MakeChecks.laidMetH_plain _ _ _ plain] at h
  have h8 := (laidMet.tail (laidMet.tail (laidMet.tail (laidMet.tail (laidMet.tail (laidMet.tail (laidMet.tail (x := _) (r := _) h)))))))
  rw [sp_is] at h8
  exact Lib.tabIs_of_head gSp gSpType Tryz.underlying58 Tryz.underlying5 cells5 cells58 h8
end Go.Proofs.YtcpnmpemgkbanaaGreatDoor.Laid
