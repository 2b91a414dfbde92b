/- The table of types. -/
import Derived.Test.YtihkfliabchcmaaVm6
import Derived.Test.YtihkfliabchcmaaVs
import Derived.Test.YtihkfliabchcmaaProg
set_option linter.unusedVariables false
set_option linter.unusedSimpArgs false
namespace Go.Proofs.YtihkfliabchcmaaV
open Go Go.Vm
def tab : Tab := [⟨1, .op, .one, 8⟩, ⟨2, (.int .i64), .one, 8⟩, ⟨3, (.int .i64), .one, 8⟩, ⟨4, .bool, .one, 1⟩, ⟨5, (.int .u8), .one, 1⟩, ⟨6, (.int .u8), .one, 1⟩, ⟨7, (Str7.T), (.st [2, 3, 4, 6]), 24⟩, ⟨8, (Runtime_boundsError.T), (.st [2, 3, 4, 6]), 24⟩, ⟨9, .str, .one, 16⟩, ⟨10, .str, .one, 16⟩, ⟨11, .str, .one, 16⟩, ⟨12, (.int .u64), .one, 8⟩, ⟨13, (Str13.T), (.st [9, 12]), 24⟩, ⟨14, (Runtime_errorAddressString.T), (.st [9, 12]), 24⟩, ⟨15, .op, .one, 8⟩, ⟨16, .op, .one, 8⟩, ⟨17, .op, .one, 8⟩, ⟨18, (Str18.T), (.st [17]), 8⟩, ⟨19, (Maps_unhashableTypeError.T), (.st [17]), 8⟩, ⟨21, (.int .i32), .one, 4⟩, ⟨22, (Str22.T), (.st [3, 3]), 16⟩, ⟨23, (Span.T), (.st [3, 3]), 16⟩, ⟨24, .op, .one, 8⟩, ⟨25, .op, .one, 8⟩, ⟨26, (.sl (Span.T)), (.sl 23), 24⟩, ⟨27, .op, .one, 8⟩, ⟨28, (.sl (.int .i64)), (.sl 3), 24⟩, ⟨29, .op, .one, 8⟩, ⟨30, .op, .one, 8⟩, ⟨31, .op, .one, 8⟩, ⟨32, .op, .one, 8⟩, ⟨33, .op, .one, 8⟩, ⟨34, .op, .one, 8⟩, ⟨36, .op, .one, 8⟩, ⟨37, .op, .one, 8⟩, ⟨38, (.int .i64), .one, 8⟩, ⟨40, .op, .one, 8⟩, ⟨41, .op, .one, 8⟩, ⟨42, (.int .i16), .one, 2⟩, ⟨43, .op, .one, 8⟩, ⟨44, .op, .one, 8⟩, ⟨45, .op, .one, 8⟩, ⟨46, .op, .one, 8⟩, ⟨47, .op, .one, 8⟩, ⟨48, .op, .one, 8⟩, ⟨49, .op, .one, 8⟩, ⟨50, .op, .one, 8⟩, ⟨51, .op, .one, 8⟩, ⟨52, .op, .one, 8⟩, ⟨53, .op, .one, 8⟩, ⟨54, .op, .one, 8⟩, ⟨55, .op, .one, 8⟩, ⟨56, .op, .one, 8⟩, ⟨57, .op, .one, 8⟩, ⟨58, .op, .one, 8⟩, ⟨59, .op, .one, 8⟩, ⟨60, (.int .u64), .one, 8⟩, ⟨61, .op, .one, 8⟩, ⟨62, (Str62.T), (.st [17, 17, 17, 9]), 40⟩, ⟨63, (Runtime_TypeAssertionError.T), (.st [17, 17, 17, 9]), 40⟩, ⟨64, (Arr0_16.T), (.ar 0 16), 0⟩, ⟨67, .op, .one, 8⟩, ⟨68, (.int .u32), .one, 4⟩, ⟨69, (.int .u8), .one, 1⟩, ⟨70, (.int .u8), .one, 1⟩, ⟨71, .op, .one, 8⟩, ⟨72, .op, .one, 8⟩, ⟨73, (.int .i32), .one, 4⟩, ⟨74, (.int .i32), .one, 4⟩, ⟨75, (Str75.T), (.st [12, 12, 68, 69, 5, 5, 70, 71, 72, 73, 74]), 48⟩, ⟨76, (Abi_Type.T), (.st [12, 12, 68, 69, 5, 5, 70, 71, 72, 73, 74]), 48⟩]
theorem tabOkB : allT (teB Go.Proofs.Try.prog tab) tab = true := by kernel_rfl
theorem tabOk : TabOk Go.Proofs.Try.prog tab := tabOk_of tabOkB
theorem eqOk : EqOk Go.Proofs.Try.prog tab := eqOk_of (by kernel_rfl)
theorem mixed : Go.Proofs.Try.prog.follows .mixedOrders = true := by kernel_rfl
end Go.Proofs.YtihkfliabchcmaaV
