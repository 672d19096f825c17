/- The examples, as a contract for every law. -/
import Derived.Test.YtgjpdjihjphbdaaGr1
import Derived.Test.YtgjpdjihjphbdaaAwake
namespace Go.Proofs.Ytgjpdjihjphbdaa
theorem awK_c (h : MHeap) : orA 12 15 [] h = some (Bo true, h) := callL (args' := []) rfl rfl awake_z
end Go.Proofs.Ytgjpdjihjphbdaa
