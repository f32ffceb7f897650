/- TenantSpoils, number by number. -/
import Derived.Test.YtnngcneobkfijaaF2
set_option maxRecDepth 100000
namespace Go.Proofs.Ytnngcneobkfijaa
open Go.Eng
theorem spoils7 (how : Int) : (sp4 7 [.c (.int .u8 how)] []).runS [] = some ([decide (Int.tmod how 14 = 7)], .pure (.c .tt)) := by kernel_rfl
theorem spoils8 (how : Int) : (sp4 8 [.c (.int .u8 how)] []).runS [] = some ([decide (Int.tmod how 14 = 8)], .pure (.c .tt)) := by kernel_rfl
theorem spoils9 (how : Int) : (sp4 9 [.c (.int .u8 how)] []).runS [] = some ([decide (Int.tmod how 14 = 9)], .pure (.c .tt)) := by kernel_rfl
theorem spoils10 (how : Int) : (sp4 10 [.c (.int .u8 how)] []).runS [] = some ([decide (Int.tmod how 14 = 10)], .pure (.c .tt)) := by kernel_rfl
theorem spoils11 (how : Int) : (sp4 11 [.c (.int .u8 how)] []).runS [] = some ([decide (Int.tmod how 14 = 11)], .pure (.c .tt)) := by kernel_rfl
theorem spoils12 (how : Int) : (sp4 12 [.c (.int .u8 how)] []).runS [] = some ([decide (Int.tmod how 14 = 12)], .pure (.c .tt)) := by kernel_rfl
theorem spoils13 (how : Int) : (sp4 13 [.c (.int .u8 how)] []).runS [] = some ([decide (Int.tmod how 14 = 13)], .pure (.c .tt)) := by kernel_rfl
end Go.Proofs.Ytnngcneobkfijaa
