/- The functions are what the program's code computes: printed. -/
import Derived.Test.YtjddmekfeckphaaGreatVt
import Derived.Test.YtjddmekfeckphaaGreatF
import Derived.Test.YtjddmekfeckphaaGreatSo
import Derived.Test.YtjddmekfeckphaaGreatBk
set_option linter.unusedVariables false
set_option linter.unusedSimpArgs false
namespace Go.Proofs.YtjddmekfeckphaaGreatV
open Go Go.Vm
noncomputable section
namespace cmp_isNaN_int
def rs : Rt := (.fl .bool)
def ps : Ty := (.pr (.int .i64) .un)
def fn : Vm.Fn := ⟨98, ps, false, rs, fun d => f d.1⟩
theorem ok (k : Nat) : FnOk Tryz.prog (fn) := fs (n := 6) (FnInfo.of Tryz.func98 (by kernel_rfl)) 0 so al (fun _ => Γ) (fun _ => G) (fun _ => []) (fun k => (fn).F) (fun _ => trivial) (fun _ => trivial) trivial trivial (fun k => trivial) (fun k d => by kernel_rfl) k
end cmp_isNaN_int
namespace cmp_Compare_int
def rs : Rt := (.fl (.int .i64))
def ps : Ty := (.pr (.int .i64) (.pr (.int .i64) .un))
def fn : Vm.Fn := ⟨93, ps, false, rs, fun d => f d.1 d.2.1⟩
def Γ : List Vm.Fn := [cmp_isNaN_int.fn]
theorem ok (k : Nat) : FnOk Tryz.prog (fn) := fs (n := 20) (FnInfo.of Tryz.func93 (by kernel_rfl)) 0 so al (fun _ => Γ) (fun _ => G) (fun _ => []) (fun k => (fn).F) (fun k => by exact ⟨cmp_isNaN_int.ok k, trivial⟩) (fun _ => trivial) trivial trivial (fun k => trivial) (fun k d => by kernel_rfl) k
end cmp_Compare_int
namespace cmp_Or_int
def rs : Rt := (.fl (.int .i64))
def ps : Ty := (.pr (.sl (.int .i64)) .un)
def fn (k : Nat) : Vm.Fn := ⟨92, ps, false, rs, fun d => f k d.1⟩
def p3 : Pat := ⟨18, 0, [(3, (.va (.int .i64))), (6, (.va (.sl (.int .i64)))), (7, (.va (.int .i64))), (8, (.va (.int .i64)))], []⟩
def a3 (k : Nat) (d : p3.ty.D) : Option rs.D := c3 k d.1.1 d.1.2.1 d.1.2.2.1 d.1.2.2.2.1
def cuts (k : Nat) : List (Cut rs.D) := [⟨3, p3, a3 k⟩]
theorem z3 (d : p3.ty.D) : a3 0 d = none := by kernel_rfl
theorem ok (k : Nat) : FnOk Tryz.prog (fn k) := fs (n := 18) (FnInfo.of Tryz.func92 (by kernel_rfl)) 0 so al (fun _ => Γ) (fun _ => G) (cuts) (fun k => (fn k).F) (fun _ => trivial) (fun _ => trivial) trivial ⟨z3, trivial⟩ (fun k => ⟨fun d => by kernel_rfl, trivial⟩) (fun k d => by kernel_rfl) k
end cmp_Or_int
namespace graph_Turn_1
def rs : Rt := (.fl (.int .i64))
def al : List (Nat × List Nat) := [(2, [0]), (3, [1]), (15, [2])]
def ps : Ty := (.pr (Link.T) (.pr (Link.T) .un))
def fn (k : Nat) : Vm.Fn := ⟨91, ps, false, rs, fun d => f k d.1 d.2.1⟩
def Γ (k : Nat) : List Vm.Fn := [cmp_Compare_int.fn, cmp_Or_int.fn k]
theorem ok (k : Nat) : FnOk Tryz.prog (fn k) := fs (n := 17) (FnInfo.of Tryz.func91 (by kernel_rfl)) 3 so al (Γ) (fun _ => G) (fun _ => []) (fun k => (fn k).F) (fun k => by exact ⟨cmp_Compare_int.ok k, cmp_Or_int.ok k, trivial⟩) (fun _ => trivial) trivial trivial (fun k => trivial) (fun k d => by kernel_rfl) k
end graph_Turn_1
end
end Go.Proofs.YtjddmekfeckphaaGreatV
