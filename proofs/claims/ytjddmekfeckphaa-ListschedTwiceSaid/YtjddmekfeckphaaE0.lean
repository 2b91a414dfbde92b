/- The functions are what the program's code computes: printed. -/
import Derived.Test.YtjddmekfeckphaaVt
import Derived.Test.YtjddmekfeckphaaF
import Derived.Test.YtjddmekfeckphaaSo
import Derived.Test.YtjddmekfeckphaaBk
set_option linter.unusedVariables false
set_option linter.unusedSimpArgs false
namespace Go.Proofs.YtjddmekfeckphaaV
open Go Go.Vm
noncomputable section
namespace cmp_isNaN_int
def rs : Rt := (.fl .bool)
def al : List (Nat × List Nat) := []
def ps : Ty := (.pr (.int .i64) .un)
def fn : Vm.Fn := ⟨76, ps, false, rs, fun d => f d.1⟩
def Γ : List Vm.Fn := []
def G : List Vm.Fg := []
def so : List So := []
def Ev : Env := ⟨tab, Γ, al, G, so⟩
def cuts : List (Cut rs.D) := []
theorem e (d : ps.D) : f d.1 = runF (Ev) Try.f76 false rs (cuts) (some (bodyOf Try.f76)) false (Vm.start ps 6 0 d) := by kernel_rfl
theorem ok (k : Nat) : FnOk Try.prog (fn) := fn_sound mixed (FnInfo.of Try.func76 (by kernel_rfl)) (m := 0) (T := tab) (so := so) (al := al) (Γ := fun _ => Γ) (G := fun _ => G) (cuts := fun _ => cuts) (fun k => ⟨tabOk, eqOk, AllF.mem (l := Γ) trivial, AllG.mem (l := G) trivial, AllS.mem (l := so) trivial⟩) trivial (fun k => trivial) (F := fun k (d : ps.D) => f d.1) (fun k d => e d) k
end cmp_isNaN_int
namespace cmp_Compare_int
def rs : Rt := (.fl (.int .i64))
def al : List (Nat × List Nat) := []
def ps : Ty := (.pr (.int .i64) (.pr (.int .i64) .un))
def fn : Vm.Fn := ⟨71, ps, false, rs, fun d => f d.1 d.2.1⟩
def Γ : List Vm.Fn := [cmp_isNaN_int.fn]
def G : List Vm.Fg := []
def so : List So := []
def Ev : Env := ⟨tab, Γ, al, G, so⟩
def cuts : List (Cut rs.D) := []
theorem e (d : ps.D) : f d.1 d.2.1 = runF (Ev) Try.f71 false rs (cuts) (some (bodyOf Try.f71)) false (Vm.start ps 20 0 d) := by kernel_rfl
theorem ok (k : Nat) : FnOk Try.prog (fn) := fn_sound mixed (FnInfo.of Try.func71 (by kernel_rfl)) (m := 0) (T := tab) (so := so) (al := al) (Γ := fun _ => Γ) (G := fun _ => G) (cuts := fun _ => cuts) (fun k => ⟨tabOk, eqOk, AllF.mem (l := Γ) (by exact ⟨cmp_isNaN_int.ok k, trivial⟩), AllG.mem (l := G) trivial, AllS.mem (l := so) trivial⟩) trivial (fun k => trivial) (F := fun k (d : ps.D) => f d.1 d.2.1) (fun k d => e d) k
end cmp_Compare_int
namespace cmp_Or_int
def rs : Rt := (.fl (.int .i64))
def al : List (Nat × List Nat) := []
def ps : Ty := (.pr (.sl (.int .i64)) .un)
def fn (k : Nat) : Vm.Fn := ⟨70, ps, false, rs, fun d => f k d.1⟩
def Γ (k : Nat) : List Vm.Fn := []
def G (k : Nat) : List Vm.Fg := []
def so : List So := []
def Ev (k : Nat) : Env := ⟨tab, Γ k, al, G k, so⟩
def p3 : Pat := ⟨18, 0, [(3, (.va (.int .i64))), (6, (.va (.sl (.int .i64)))), (7, (.va (.int .i64))), (8, (.va (.int .i64)))], []⟩
def a3 (k : Nat) (d : p3.ty.D) : Option rs.D := c3 k d.1.1 d.1.2.1 d.1.2.2.1 d.1.2.2.2.1
def cuts (k : Nat) : List (Cut rs.D) := [⟨3, p3, a3 k⟩]
theorem z3 (d : p3.ty.D) : a3 0 d = none := by kernel_rfl
theorem e3 (k : Nat) (d : p3.ty.D) : a3 (k + 1) d = runF (Ev k) Try.f70 false rs (cuts k) (todoAt 3 (bodyOf Try.f70)) true (p3.mk' d) := by kernel_rfl
theorem e (k : Nat) (d : ps.D) : f k d.1 = runF (Ev k) Try.f70 false rs (cuts k) (some (bodyOf Try.f70)) false (Vm.start ps 18 0 d) := by kernel_rfl
theorem ok (k : Nat) : FnOk Try.prog (fn k) := fn_sound mixed (FnInfo.of Try.func70 (by kernel_rfl)) (m := 0) (T := tab) (so := so) (al := al) (Γ := fun k => Γ k) (G := fun k => G k) (cuts := fun k => cuts k) (fun k => ⟨tabOk, eqOk, AllF.mem (l := Γ k) trivial, AllG.mem (l := G k) trivial, AllS.mem (l := so) trivial⟩) ⟨z3, trivial⟩ (fun k => ⟨e3 k, trivial⟩) (F := fun k (d : ps.D) => f k d.1) (fun k d => e k d) k
end cmp_Or_int
namespace graph_Turn_1
def rs : Rt := (.fl (.int .i64))
def al : List (Nat × List Nat) := [(2, [0]), (3, [1]), (15, [2])]
def ps : Ty := (.pr (Link.T) (.pr (Link.T) .un))
def fn (k : Nat) : Vm.Fn := ⟨69, ps, false, rs, fun d => f k d.1 d.2.1⟩
def Γ (k : Nat) : List Vm.Fn := [cmp_Compare_int.fn, cmp_Or_int.fn k]
def G (k : Nat) : List Vm.Fg := []
def so : List So := []
def Ev (k : Nat) : Env := ⟨tab, Γ k, al, G k, so⟩
def cuts (k : Nat) : List (Cut rs.D) := []
theorem e (k : Nat) (d : ps.D) : f k d.1 d.2.1 = runF (Ev k) Try.f69 false rs (cuts k) (some (bodyOf Try.f69)) false (Vm.start ps 17 3 d) := by kernel_rfl
theorem ok (k : Nat) : FnOk Try.prog (fn k) := fn_sound mixed (FnInfo.of Try.func69 (by kernel_rfl)) (m := 3) (T := tab) (so := so) (al := al) (Γ := fun k => Γ k) (G := fun k => G k) (cuts := fun k => cuts k) (fun k => ⟨tabOk, eqOk, AllF.mem (l := Γ k) (by exact ⟨cmp_Compare_int.ok k, cmp_Or_int.ok k, trivial⟩), AllG.mem (l := G k) trivial, AllS.mem (l := so) trivial⟩) trivial (fun k => trivial) (F := fun k (d : ps.D) => f k d.1 d.2.1) (fun k d => e k d) k
end graph_Turn_1
end
end Go.Proofs.YtjddmekfeckphaaV
