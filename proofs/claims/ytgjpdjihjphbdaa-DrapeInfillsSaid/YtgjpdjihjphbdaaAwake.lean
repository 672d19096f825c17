/- The examples that every law begins with. -/
import Derived.Test.YtgjpdjihjphbdaaTa
namespace Go.Proofs.Ytgjpdjihjphbdaa
open Go.RowKit

theorem awake_z : runZ MT (orA 11) (itA 11) 1000000 15 [] [] = some (.lit (.bool true), []) := by kernel_rfl
end Go.Proofs.Ytgjpdjihjphbdaa
