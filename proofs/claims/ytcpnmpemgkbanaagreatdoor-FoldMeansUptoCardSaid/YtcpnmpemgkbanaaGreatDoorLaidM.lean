/- The witness world meets the rows' condition, plainly said. No condition. -/
import Derived.Test.YtcpnmpemgkbanaaGreatDoorLaid
namespace Go.Proofs.YtcpnmpemgkbanaaGreatDoor.Laid
theorem metM (os : Os) (args : Array Value) : laidMet Tryz.prog lst ((World.laidAll Tryz.prog os lst).forCall (fun _ _ => 0) ⟨#[], args, []⟩).memory := laidMet_laidAll _ (fits os) (ifaces os)
end Go.Proofs.YtcpnmpemgkbanaaGreatDoor.Laid
