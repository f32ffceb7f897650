/- What the contracts by reckoning lean on. -/
import Derived.Test.YtnngcneobkfijaaE22
import Derived.Test.YtnngcneobkfijaaProg
set_option maxRecDepth 100000
namespace Go.Proofs.Ytnngcneobkfijaa
open Go.Eng
def bodyOf (f : Func) : Code := f.body.getD .skip
theorem mixed : Try.prog.follows .mixedOrders = true := by kernel_rfl
end Go.Proofs.Ytnngcneobkfijaa
