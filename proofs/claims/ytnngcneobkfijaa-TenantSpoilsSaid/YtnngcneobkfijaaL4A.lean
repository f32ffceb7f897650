/- TenantSpoils, number by number. -/
import Derived.Test.YtnngcneobkfijaaF2
set_option maxRecDepth 100000
namespace Go.Proofs.Ytnngcneobkfijaa
open Go.Eng
theorem spoils0 (how : Int) : (sp4 0 [.c (.int .u8 how)] []).runS [] = some ([decide (Int.tmod how 14 = 0)], .pure (.c .tt)) := by kernel_rfl
theorem spoils1 (how : Int) : (sp4 1 [.c (.int .u8 how)] []).runS [] = some ([decide (Int.tmod how 14 = 1)], .pure (.c .tt)) := by kernel_rfl
theorem spoils2 (how : Int) : (sp4 2 [.c (.int .u8 how)] []).runS [] = some ([decide (Int.tmod how 14 = 2)], .pure (.c .tt)) := by kernel_rfl
theorem spoils3 (how : Int) : (sp4 3 [.c (.int .u8 how)] []).runS [] = some ([decide (Int.tmod how 14 = 3)], .pure (.c .tt)) := by kernel_rfl
theorem spoils4 (how : Int) : (sp4 4 [.c (.int .u8 how)] []).runS [] = some ([decide (Int.tmod how 14 = 4)], .pure (.c .tt)) := by kernel_rfl
theorem spoils5 (how : Int) : (sp4 5 [.c (.int .u8 how)] []).runS [] = some ([decide (Int.tmod how 14 = 5)], .pure (.c .tt)) := by kernel_rfl
theorem spoils6 (how : Int) : (sp4 6 [.c (.int .u8 how)] []).runS [] = some ([decide (Int.tmod how 14 = 6)], .pure (.c .tt)) := by kernel_rfl
end Go.Proofs.Ytnngcneobkfijaa
