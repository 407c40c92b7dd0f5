/- Facts of the whole program, which every frame asks. -/
import Derived.Test.YtpinjgdnhbogoaaGreatDoorWrap
import Derived.SevenTiedAt
import Derived.Stop.Joined
namespace Go.Proofs.YtpinjgdnhbogoaaGreatDoor
open Go.RowKit

theorem own : ownKnob Tryz.prog.godebug = none := by kernel_rfl
theorem laidOut : laidOutB Tryz.prog = true := by kernel_rfl
theorem main_is : Tryz.prog.mainIs = some (true, "b9cd785eaab0d100eff31bfbf35cc6e3d057da008c2e98a76fc5338197485d87".toList) := by kernel_rfl
theorem looks_all : true = Tryz.prog.looks [] := by kernel_rfl
end Go.Proofs.YtpinjgdnhbogoaaGreatDoor
