/- Comparators and sorts by them, as plain functions. -/
import Derived.Test.YtjddmekfeckphaaGreatVs
import Derived.Test.YtjddmekfeckphaaGreatVm7
set_option linter.unusedVariables false
set_option linter.unusedSimpArgs false
namespace Go.Proofs.YtjddmekfeckphaaGreatV
open Go Go.Vm
def cmpI (a b : Int) : Int := if a < b then -1 else if b < a then 1 else 0
def cfTurn (x y : Link) : Int := if cmpI x.1 y.1 = 0 then cmpI x.2.1 y.2.1 else cmpI x.1 y.1
def sortgraph_Turn_1 (xs : List Link) : List Link := xs.mergeSort fun x y => !(Go.Proofs.ltOf cfTurn) y x
end Go.Proofs.YtjddmekfeckphaaGreatV
