/- A world that holds what the row lists: the row's witness. No condition. -/
import Derived.Test.YtnnoefbmoafbnaaDoorRows
import Derived.Lay
import Derived.MakeChecks
import Derived.Stop.LaidErr
namespace Go.Proofs.YtnnoefbmoafbnaaDoor.Laid
def lst : List (String × DataW Unit) := Rows.waveEndsRow.laid
set_option maxRecDepth 100000 in
theorem fits (os : Os) : (World.holding Tryd.prog os ⟨#[], #[], []⟩).layFits Tryd.prog lst [] = true := by kernel_rfl
set_option maxRecDepth 100000 in
theorem ifaces (os : Os) : (World.holding Tryd.prog os ⟨#[], #[], []⟩).layIfaces Tryd.prog lst (World.laidAll Tryd.prog os lst) = true := by kernel_rfl
set_option maxRecDepth 100000 in
theorem plain : (lst.all fun x => x.2.handleName?.isNone) = true := by kernel_rfl
theorem met (os : Os) (args : Array Value) : laidMetH Tryd.prog lst ((World.laidAll Tryd.prog os lst).forCall (fun _ _ => 0) ⟨#[], args, []⟩).memory := by
  rw [MakeChecks.laidMetH_plain _ _ _ plain]
  exact laidMet_laidAll _ (fits os) (ifaces os)
set_option maxRecDepth 100000 in
theorem zipB (os : Os) (args : Array Value) : ((World.laidAll Tryd.prog os lst).forCall (fun _ _ => 0) ⟨#[], args, []⟩).variablesZipB Tryd.prog = true := by kernel_rfl
set_option maxRecDepth 100000 in
theorem dropB (os : Os) (args : Array Value) : (((World.laidAll Tryd.prog os lst).forCall (fun _ _ => 0) ⟨#[], args, []⟩).heap.toList.drop Tryd.prog.globals.size).take ((begin Tryd.prog (fun _ _ => 0) default).world.heap.size - Tryd.prog.globals.size) =
      (begin Tryd.prog (fun _ _ => 0) default).world.heap.toList.drop Tryd.prog.globals.size := by kernel_rfl
theorem shaped (os : Os) (args : Array Value) : ((World.laidAll Tryd.prog os lst).forCall (fun _ _ => 0) ⟨#[], args, []⟩).Shaped Tryd.prog := World.shaped_of_ZipB (zipB os args) (dropB os args)
end Go.Proofs.YtnnoefbmoafbnaaDoor.Laid
