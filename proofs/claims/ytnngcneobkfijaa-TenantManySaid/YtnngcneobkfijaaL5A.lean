/- TenantMany, by what is left of its argument. -/
import Derived.Test.YtnngcneobkfijaaF2
set_option maxRecDepth 100000
namespace Go.Proofs.Ytnngcneobkfijaa
open Go.Eng
def turned (turn r i : Int) : Bool := decide ((IntKind.i64.wrap (i + IntKind.i64.wrap turn)).tmod 5 = (i + r).tmod 5)
theorem many0 (turn : Int) : (sp5 0 [.c (.int .u8 turn)] []).runS [] = some ([turned turn 0 4, turned turn 0 3, turned turn 0 2, turned turn 0 1, turned turn 0 0], .pure (.c .tt)) := by kernel_rfl
theorem many1 (turn : Int) : (sp5 1 [.c (.int .u8 turn)] []).runS [] = some ([turned turn 1 4, turned turn 1 3, turned turn 1 2, turned turn 1 1, turned turn 1 0], .pure (.c .tt)) := by kernel_rfl
theorem many2 (turn : Int) : (sp5 2 [.c (.int .u8 turn)] []).runS [] = some ([turned turn 2 4, turned turn 2 3, turned turn 2 2, turned turn 2 1, turned turn 2 0], .pure (.c .tt)) := by kernel_rfl
theorem many3 (turn : Int) : (sp5 3 [.c (.int .u8 turn)] []).runS [] = some ([turned turn 3 4, turned turn 3 3, turned turn 3 2, turned turn 3 1, turned turn 3 0], .pure (.c .tt)) := by kernel_rfl
theorem many4 (turn : Int) : (sp5 4 [.c (.int .u8 turn)] []).runS [] = some ([turned turn 4 4, turned turn 4 3, turned turn 4 2, turned turn 4 1, turned turn 4 0], .pure (.c .tt)) := by kernel_rfl
end Go.Proofs.Ytnngcneobkfijaa
