/- Facts of the whole program, which every frame asks. -/
import Derived.Test.YtpinjgdnhbogoaaDoorWrap
import Derived.SevenTiedAt
import Derived.Stop.Joined
namespace Go.Proofs.YtpinjgdnhbogoaaDoor
open Go.RowKit

theorem own : ownKnob Tryd.prog.godebug = none := by kernel_rfl
theorem laidOut : laidOutB Tryd.prog = true := by kernel_rfl
theorem main_is : Tryd.prog.mainIs = some (true, "4b0ba9b10f112c8bd9e9aefd20245d90039faad20f7852a089873a9784d6f632".toList) := by kernel_rfl
theorem looks_all : true = Tryd.prog.looks [] := by kernel_rfl
end Go.Proofs.YtpinjgdnhbogoaaDoor
