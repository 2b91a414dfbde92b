/- The functions are what the program's code computes: printed. -/
import Derived.Test.YtjddmekfeckphaaGreatVt
import Derived.Test.YtjddmekfeckphaaGreatF
import Derived.Test.YtjddmekfeckphaaGreatSo
import Derived.Test.YtjddmekfeckphaaGreatBk
set_option linter.unusedVariables false
set_option linter.unusedSimpArgs false
namespace Go.Proofs.YtjddmekfeckphaaGreatV
open Go Go.Vm
noncomputable section
def cmp_isNaN_int.rs : Rt := (.fl .bool)
def cmp_isNaN_int.al : List (Nat × List Nat) := []
def cmp_isNaN_int.ps : Ty := (.pr (.int .i64) .un)
def cmp_isNaN_int.fn : Vm.Fn := ⟨98, cmp_isNaN_int.ps, false, cmp_isNaN_int.rs, fun d => cmp_isNaN_int.f d.1⟩
def cmp_isNaN_int.Γ : List Vm.Fn := []
def cmp_isNaN_int.G : List Vm.Fg := []
def cmp_isNaN_int.so : List So := []
def cmp_isNaN_int.cuts : List (Cut cmp_isNaN_int.rs.D) := []
theorem cmp_isNaN_int.e (d : cmp_isNaN_int.ps.D) : cmp_isNaN_int.f d.1 = runF ⟨tab, cmp_isNaN_int.Γ, cmp_isNaN_int.al, cmp_isNaN_int.G, cmp_isNaN_int.so⟩ Go.Proofs.Tryz.f98 false cmp_isNaN_int.rs (cmp_isNaN_int.cuts) (some (bodyOf Go.Proofs.Tryz.f98)) false (Vm.start cmp_isNaN_int.ps 6 0 d) := by kernel_rfl
theorem cmp_isNaN_int.ok (k : Nat) : FnOk Go.Proofs.Tryz.prog (cmp_isNaN_int.fn) := fn_sound mixed (FnInfo.of Go.Proofs.Tryz.func98 (by kernel_rfl)) (m := 0) (T := tab) (so := cmp_isNaN_int.so) (al := cmp_isNaN_int.al) (Γ := fun _ => cmp_isNaN_int.Γ) (G := fun _ => cmp_isNaN_int.G) (cuts := fun _ => cmp_isNaN_int.cuts) (fun k => ⟨tabOk, eqOk, AllF.mem (l := cmp_isNaN_int.Γ) trivial, AllG.mem (l := cmp_isNaN_int.G) trivial, AllS.mem (l := cmp_isNaN_int.so) trivial⟩) trivial (fun k => trivial) (F := fun k (d : cmp_isNaN_int.ps.D) => cmp_isNaN_int.f d.1) (fun k d => cmp_isNaN_int.e d) k
def cmp_Compare_int.rs : Rt := (.fl (.int .i64))
def cmp_Compare_int.al : List (Nat × List Nat) := []
def cmp_Compare_int.ps : Ty := (.pr (.int .i64) (.pr (.int .i64) .un))
def cmp_Compare_int.fn : Vm.Fn := ⟨93, cmp_Compare_int.ps, false, cmp_Compare_int.rs, fun d => cmp_Compare_int.f d.1 d.2.1⟩
def cmp_Compare_int.Γ : List Vm.Fn := [cmp_isNaN_int.fn]
def cmp_Compare_int.G : List Vm.Fg := []
def cmp_Compare_int.so : List So := []
def cmp_Compare_int.cuts : List (Cut cmp_Compare_int.rs.D) := []
theorem cmp_Compare_int.e (d : cmp_Compare_int.ps.D) : cmp_Compare_int.f d.1 d.2.1 = runF ⟨tab, cmp_Compare_int.Γ, cmp_Compare_int.al, cmp_Compare_int.G, cmp_Compare_int.so⟩ Go.Proofs.Tryz.f93 false cmp_Compare_int.rs (cmp_Compare_int.cuts) (some (bodyOf Go.Proofs.Tryz.f93)) false (Vm.start cmp_Compare_int.ps 20 0 d) := by kernel_rfl
theorem cmp_Compare_int.ok (k : Nat) : FnOk Go.Proofs.Tryz.prog (cmp_Compare_int.fn) := fn_sound mixed (FnInfo.of Go.Proofs.Tryz.func93 (by kernel_rfl)) (m := 0) (T := tab) (so := cmp_Compare_int.so) (al := cmp_Compare_int.al) (Γ := fun _ => cmp_Compare_int.Γ) (G := fun _ => cmp_Compare_int.G) (cuts := fun _ => cmp_Compare_int.cuts) (fun k => ⟨tabOk, eqOk, AllF.mem (l := cmp_Compare_int.Γ) (by exact ⟨cmp_isNaN_int.ok k, trivial⟩), AllG.mem (l := cmp_Compare_int.G) trivial, AllS.mem (l := cmp_Compare_int.so) trivial⟩) trivial (fun k => trivial) (F := fun k (d : cmp_Compare_int.ps.D) => cmp_Compare_int.f d.1 d.2.1) (fun k d => cmp_Compare_int.e d) k
def cmp_Or_int.rs : Rt := (.fl (.int .i64))
def cmp_Or_int.al : List (Nat × List Nat) := []
def cmp_Or_int.ps : Ty := (.pr (.sl (.int .i64)) .un)
def cmp_Or_int.fn (k : Nat) : Vm.Fn := ⟨92, cmp_Or_int.ps, false, cmp_Or_int.rs, fun d => cmp_Or_int.f k d.1⟩
def cmp_Or_int.Γ (k : Nat) : List Vm.Fn := []
def cmp_Or_int.G (k : Nat) : List Vm.Fg := []
def cmp_Or_int.so : List So := []
def cmp_Or_int.p3 : Pat := ⟨18, 0, [(3, (.va (.int .i64))), (6, (.va (.sl (.int .i64)))), (7, (.va (.int .i64))), (8, (.va (.int .i64)))], []⟩
def cmp_Or_int.cuts (k : Nat) : List (Cut cmp_Or_int.rs.D) := [⟨3, cmp_Or_int.p3, fun d => cmp_Or_int.c3 k d.1.1 d.1.2.1 d.1.2.2.1 d.1.2.2.2.1⟩]
theorem cmp_Or_int.z3 (d : cmp_Or_int.p3.ty.D) : cmp_Or_int.c3 0 d.1.1 d.1.2.1 d.1.2.2.1 d.1.2.2.2.1 = none := by kernel_rfl
theorem cmp_Or_int.e3 (k : Nat) (d : cmp_Or_int.p3.ty.D) : cmp_Or_int.c3 (k + 1) d.1.1 d.1.2.1 d.1.2.2.1 d.1.2.2.2.1 = runF ⟨tab, cmp_Or_int.Γ k, cmp_Or_int.al, cmp_Or_int.G k, cmp_Or_int.so⟩ Go.Proofs.Tryz.f92 false cmp_Or_int.rs (cmp_Or_int.cuts k) (todoAt 3 (bodyOf Go.Proofs.Tryz.f92)) true (cmp_Or_int.p3.mk' d) := by kernel_rfl
theorem cmp_Or_int.e (k : Nat) (d : cmp_Or_int.ps.D) : cmp_Or_int.f k d.1 = runF ⟨tab, cmp_Or_int.Γ k, cmp_Or_int.al, cmp_Or_int.G k, cmp_Or_int.so⟩ Go.Proofs.Tryz.f92 false cmp_Or_int.rs (cmp_Or_int.cuts k) (some (bodyOf Go.Proofs.Tryz.f92)) false (Vm.start cmp_Or_int.ps 18 0 d) := by kernel_rfl
theorem cmp_Or_int.ok (k : Nat) : FnOk Go.Proofs.Tryz.prog (cmp_Or_int.fn k) := fn_sound mixed (FnInfo.of Go.Proofs.Tryz.func92 (by kernel_rfl)) (m := 0) (T := tab) (so := cmp_Or_int.so) (al := cmp_Or_int.al) (Γ := fun k => cmp_Or_int.Γ k) (G := fun k => cmp_Or_int.G k) (cuts := fun k => cmp_Or_int.cuts k) (fun k => ⟨tabOk, eqOk, AllF.mem (l := cmp_Or_int.Γ k) trivial, AllG.mem (l := cmp_Or_int.G k) trivial, AllS.mem (l := cmp_Or_int.so) trivial⟩) ⟨cmp_Or_int.z3, trivial⟩ (fun k => ⟨cmp_Or_int.e3 k, trivial⟩) (F := fun k (d : cmp_Or_int.ps.D) => cmp_Or_int.f k d.1) (fun k d => cmp_Or_int.e k d) k
def graph_Turn_1.rs : Rt := (.fl (.int .i64))
def graph_Turn_1.al : List (Nat × List Nat) := [(2, [0]), (3, [1]), (15, [2])]
def graph_Turn_1.ps : Ty := (.pr (Link.T) (.pr (Link.T) .un))
def graph_Turn_1.fn (k : Nat) : Vm.Fn := ⟨91, graph_Turn_1.ps, false, graph_Turn_1.rs, fun d => graph_Turn_1.f k d.1 d.2.1⟩
def graph_Turn_1.Γ (k : Nat) : List Vm.Fn := [cmp_Compare_int.fn, cmp_Or_int.fn k]
def graph_Turn_1.G (k : Nat) : List Vm.Fg := []
def graph_Turn_1.so : List So := []
def graph_Turn_1.cuts (k : Nat) : List (Cut graph_Turn_1.rs.D) := []
theorem graph_Turn_1.e (k : Nat) (d : graph_Turn_1.ps.D) : graph_Turn_1.f k d.1 d.2.1 = runF ⟨tab, graph_Turn_1.Γ k, graph_Turn_1.al, graph_Turn_1.G k, graph_Turn_1.so⟩ Go.Proofs.Tryz.f91 false graph_Turn_1.rs (graph_Turn_1.cuts k) (some (bodyOf Go.Proofs.Tryz.f91)) false (Vm.start graph_Turn_1.ps 17 3 d) := by kernel_rfl
theorem graph_Turn_1.ok (k : Nat) : FnOk Go.Proofs.Tryz.prog (graph_Turn_1.fn k) := fn_sound mixed (FnInfo.of Go.Proofs.Tryz.func91 (by kernel_rfl)) (m := 3) (T := tab) (so := graph_Turn_1.so) (al := graph_Turn_1.al) (Γ := fun k => graph_Turn_1.Γ k) (G := fun k => graph_Turn_1.G k) (cuts := fun k => graph_Turn_1.cuts k) (fun k => ⟨tabOk, eqOk, AllF.mem (l := graph_Turn_1.Γ k) (by exact ⟨cmp_Compare_int.ok k, cmp_Or_int.ok k, trivial⟩), AllG.mem (l := graph_Turn_1.G k) trivial, AllS.mem (l := graph_Turn_1.so) trivial⟩) trivial (fun k => trivial) (F := fun k (d : graph_Turn_1.ps.D) => graph_Turn_1.f k d.1 d.2.1) (fun k d => graph_Turn_1.e k d) k
end
end Go.Proofs.YtjddmekfeckphaaGreatV
