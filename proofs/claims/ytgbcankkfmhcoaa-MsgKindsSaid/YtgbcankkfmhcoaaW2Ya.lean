import Derived.Test.YtgbcankkfmhcoaaProg
import Derived.Test.YtgbcankkfmhcoaaW2Xq
import Derived.KernelRfl
namespace Go.Proofs.Ytgbcankkfmhcoaa.VL
open Go
theorem hm:Try.prog.follows .mixedOrders=true:=by kernel_rfl
end Go.Proofs.Ytgbcankkfmhcoaa.VL
