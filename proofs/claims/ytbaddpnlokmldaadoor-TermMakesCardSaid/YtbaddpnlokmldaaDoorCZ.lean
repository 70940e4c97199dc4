/- The clean forms of some of the program's functions, written by a program of ours; each is the model's own by the kernel's reckoning. -/
import Derived.Test.YtbaddpnlokmldaaDoorGB
import Derived.KernelRfl
namespace Go.Proofs.YtbaddpnlokmldaaDoor
open Go
set_option maxRecDepth 100000

end Go.Proofs.YtbaddpnlokmldaaDoor
