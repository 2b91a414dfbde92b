/- The table of types. -/
import Derived.Test.YtklfakmpfinlaaaVm6
import Derived.Test.YtklfakmpfinlaaaVs
import Derived.Test.YtklfakmpfinlaaaProg
set_option linter.unusedVariables false
set_option linter.unusedSimpArgs false
namespace Go.Proofs.YtklfakmpfinlaaaV
open Go Go.Vm
def tab : Tab := [⟨2, (.int .i64), .one, 8⟩, ⟨3, (.int .i64), .one, 8⟩, ⟨4, .bool, .one, 1⟩, ⟨5, (.int .u8), .one, 1⟩, ⟨6, (.int .u8), .one, 1⟩, ⟨7, (Str7.T), (.st [2, 3, 4, 6]), 24⟩, ⟨8, (Runtime_boundsError.T), (.st [2, 3, 4, 6]), 24⟩, ⟨9, .str, .one, 16⟩, ⟨10, .str, .one, 16⟩, ⟨11, .str, .one, 16⟩, ⟨12, (.int .u64), .one, 8⟩, ⟨13, (Str13.T), (.st [9, 12]), 24⟩, ⟨14, (Runtime_errorAddressString.T), (.st [9, 12]), 24⟩, ⟨21, (.int .i32), .one, 4⟩, ⟨22, (.sl (Arc.T)), (.sl 39), 24⟩, ⟨23, (.sl (Resource.T)), (.sl 42), 24⟩, ⟨24, (.sl (Need.T)), (.sl 44), 24⟩, ⟨25, (Str25.T), (.st [3, 3, 4, 22, 23, 24]), 96⟩, ⟨26, (Flow.T), (.st [3, 3, 4, 22, 23, 24]), 96⟩, ⟨27, (.sl (.int .i64)), (.sl 3), 24⟩, ⟨28, (Str28.T), (.st [3, 3, 27, 27, 27]), 88⟩, ⟨29, (Sched.T), (.st [3, 3, 27, 27, 27]), 88⟩, ⟨32, (.int .i64), .one, 8⟩, ⟨34, (.sl (Arr2_3.T)), (.sl 36), 24⟩, ⟨36, (Arr2_3.T), (.ar 2 3), 16⟩, ⟨38, (Str38.T), (.st [3, 3, 3, 3]), 32⟩, ⟨39, (Arc.T), (.st [3, 3, 3, 3]), 32⟩, ⟨41, (Str41.T), (.st [3, 3, 3, 3]), 32⟩, ⟨42, (Resource.T), (.st [3, 3, 3, 3]), 32⟩, ⟨43, (Str43.T), (.st [3, 3]), 16⟩, ⟨44, (Need.T), (.st [3, 3]), 16⟩, ⟨49, (.sl (.sl (.int .i64))), (.sl 27), 24⟩, ⟨63, (.int .u32), .one, 4⟩, ⟨64, (.int .u8), .one, 1⟩, ⟨65, (.int .u8), .one, 1⟩, ⟨68, (.int .i32), .one, 4⟩, ⟨69, (.int .i32), .one, 4⟩]
theorem tabOkB : allT (teB Go.Proofs.Try.prog tab) tab = true := by kernel_rfl
theorem tabOk : TabOk Go.Proofs.Try.prog tab := tabOk_of tabOkB
theorem eqOk : EqOk Go.Proofs.Try.prog tab := eqOk_of (by kernel_rfl)
theorem mixed : Go.Proofs.Try.prog.follows .mixedOrders = true := by kernel_rfl
end Go.Proofs.YtklfakmpfinlaaaV
