/- The functions are what the program's code computes: printed. -/
import Derived.Test.YtjddmekfeckphaaVt
import Derived.Test.YtjddmekfeckphaaF
import Derived.Test.YtjddmekfeckphaaSo
import Derived.Test.YtjddmekfeckphaaBk
import Derived.Test.YtjddmekfeckphaaSo02
import Derived.Test.YtjddmekfeckphaaE0
set_option linter.unusedVariables false
set_option linter.unusedSimpArgs false
namespace Go.Proofs.YtjddmekfeckphaaV
open Go Go.Vm
noncomputable section
namespace jacquardlaw32_triple
def rs : Rt := (.pr (.fl (.int .i64)) (.pr (.fl (.int .i64)) (.pr (.fl .bool) (.pr (.os (Arc.T)) (.pr (.os (Resource.T)) (.pr (.os (Need.T)) .un))))))
def al : List (Nat × List Nat) := [(2, [0]), (9, [1]), (12, [2]), (3, [3]), (21, [4]), (22, [5]), (27, [6]), (28, [7])]
def ps : Ty := (.pr (.int .i64) .un)
def fn (k : Nat) : Vm.Fn := ⟨13, ps, false, rs, fun d => f k d.1⟩
def p3 : Pat := ⟨32, 9, [(2, (.pt 0)), (3, (.pt 3)), (14, (.va (.int .i64)))], [(0, (.var (.pr (.va (.int .i64)) (.pr (.va (.int .i64)) (.pr (.va .bool) (.pr .nl (.pr .nl (.pr .nl .un)))))))), (3, (.var (.pr (.va (.int .i64)) (.pr (.va (.int .i64)) (.pr (.va .bool) (.pr (.sl 1) (.pr (.sl 2) (.pr (.sl 8) .un)))))))), (1, (.arr (Arc.T) true)), (2, (.arr (Resource.T) true)), (8, (.arr (Need.T) false))]⟩
def a3 (k : Nat) (d : p3.ty.D) : Option rs.D := c3 k d.1.2.2.1 d.2.1.1 d.2.1.2.1 d.2.1.2.2.1 d.2.2.1.1 d.2.2.1.2.1 d.2.2.1.2.2.1 d.2.2.2.1 d.2.2.2.2.1 d.2.2.2.2.2.1
def cuts (k : Nat) : List (Cut rs.D) := [⟨3, p3, a3 k⟩]
theorem z3 (d : p3.ty.D) : a3 0 d = none := by kernel_rfl
theorem ok (k : Nat) : FnOk Try.prog (fn k) := fs (n := 32) (FnInfo.of Try.func13 (by kernel_rfl)) 9 so al (fun _ => Γ) (fun _ => G) (cuts) (fun k => (fn k).F) (fun _ => trivial) (fun _ => trivial) trivial ⟨z3, trivial⟩ (fun k => ⟨fun d => by kernel_rfl, trivial⟩) (fun k d => by kernel_rfl) k
end jacquardlaw32_triple
namespace dataflow_between
def rs : Rt := (.fl .bool)
def ps : Ty := (.pr (.int .i64) (.pr (.int .i64) (.pr (.int .i64) .un)))
def fn : Vm.Fn := ⟨32, ps, false, rs, fun d => f d.1 d.2.1 d.2.2.1⟩
theorem ok (k : Nat) : FnOk Try.prog (fn) := fs (n := 15) (FnInfo.of Try.func32 (by kernel_rfl)) 0 so al (fun _ => Γ) (fun _ => G) (fun _ => []) (fun k => (fn).F) (fun _ => trivial) (fun _ => trivial) trivial trivial (fun k => trivial) (fun k d => by kernel_rfl) k
end dataflow_between
namespace dataflow_Source
def rs : Rt := (.fl (.int .i64))
def al : List (Nat × List Nat) := [(1, [0])]
def ps : Ty := (.pr (Flow.T) .un)
def fn : Vm.Fn := ⟨24, ps, false, rs, fun d => f d.1⟩
theorem ok (k : Nat) : FnOk Try.prog (fn) := fs (n := 8) (FnInfo.of Try.func24 (by kernel_rfl)) 1 so al (fun _ => Γ) (fun _ => G) (fun _ => []) (fun k => (fn).F) (fun _ => trivial) (fun _ => trivial) trivial trivial (fun k => trivial) (fun k d => by kernel_rfl) k
end dataflow_Source
namespace dataflow_End
def rs : Rt := (.fl (.int .i64))
def al : List (Nat × List Nat) := [(1, [0])]
def ps : Ty := (.pr (Flow.T) .un)
def fn : Vm.Fn := ⟨26, ps, false, rs, fun d => f d.1⟩
theorem ok (k : Nat) : FnOk Try.prog (fn) := fs (n := 9) (FnInfo.of Try.func26 (by kernel_rfl)) 1 so al (fun _ => Γ) (fun _ => G) (fun _ => []) (fun k => (fn).F) (fun _ => trivial) (fun _ => trivial) trivial trivial (fun k => trivial) (fun k d => by kernel_rfl) k
end dataflow_End
namespace dataflow_framed
def rs : Rt := (.fl .bool)
def al : List (Nat × List Nat) := [(1, [0]), (7, [1])]
def ps : Ty := (.pr (Flow.T) .un)
def fn (k : Nat) : Vm.Fn := ⟨33, ps, false, rs, fun d => f k d.1⟩
def Γ (k : Nat) : List Vm.Fn := [dataflow_Source.fn, dataflow_End.fn]
def p5 : Pat := ⟨85, 2, [(1, (.pt 0)), (3, (.va (.int .i64))), (18, (.va (.int .i64))), (19, (.va (.int .i64)))], [(0, (.var (.va (Flow.T))))]⟩
def p10 : Pat := ⟨85, 2, [(1, (.pt 0)), (3, (.va (.int .i64))), (4, (.va (.int .i64))), (5, (.va (.int .i64))), (18, (.va (.int .i64))), (19, (.va (.int .i64)))], [(0, (.var (.va (Flow.T))))]⟩
def p14 : Pat := ⟨85, 2, [(1, (.pt 0)), (3, (.va (.int .i64))), (38, (.va (.int .i64))), (39, (.va (.int .i64)))], [(0, (.var (.va (Flow.T))))]⟩
def a5 (k : Nat) (d : p5.ty.D) : Option rs.D := c5 k d.1.2.1 d.1.2.2.1 d.1.2.2.2.1 d.2.1
def a10 (k : Nat) (d : p10.ty.D) : Option rs.D := c10 k d.1.2.1 d.1.2.2.1 d.1.2.2.2.1 d.1.2.2.2.2.1 d.1.2.2.2.2.2.1 d.2.1
def a14 (k : Nat) (d : p14.ty.D) : Option rs.D := c14 k d.1.2.1 d.1.2.2.1 d.1.2.2.2.1 d.2.1
def cuts (k : Nat) : List (Cut rs.D) := [⟨5, p5, a5 k⟩, ⟨10, p10, a10 k⟩, ⟨14, p14, a14 k⟩]
theorem z5 (d : p5.ty.D) : a5 0 d = none := by kernel_rfl
theorem z10 (d : p10.ty.D) : a10 0 d = none := by kernel_rfl
theorem z14 (d : p14.ty.D) : a14 0 d = none := by kernel_rfl
theorem ok (k : Nat) : FnOk Try.prog (fn k) := fs (n := 85) (FnInfo.of Try.func33 (by kernel_rfl)) 2 so al (Γ) (fun _ => G) (cuts) (fun k => (fn k).F) (fun k => by exact ⟨dataflow_Source.ok k, dataflow_End.ok k, trivial⟩) (fun _ => trivial) trivial ⟨z5, z10, z14, trivial⟩ (fun k => ⟨fun d => by kernel_rfl, fun d => by kernel_rfl, fun d => by kernel_rfl, trivial⟩) (fun k d => by kernel_rfl) k
end dataflow_framed
namespace dataflow_Valid
def rs : Rt := (.fl .bool)
def al : List (Nat × List Nat) := [(1, [0]), (5, [1]), (7, [2]), (9, [3])]
def ps : Ty := (.pr (Flow.T) .un)
def fn (k : Nat) : Vm.Fn := ⟨15, ps, false, rs, fun d => f k d.1⟩
def Γ (k : Nat) : List Vm.Fn := [dataflow_between.fn, dataflow_Source.fn, dataflow_End.fn, dataflow_framed.fn k]
def p6 : Pat := ⟨115, 4, [(1, (.pt 0)), (3, (.va (.int .i64)))], [(0, (.var (.va (Flow.T))))]⟩
def p7 : Pat := ⟨115, 4, [(1, (.pt 0)), (3, (.va (.int .i64))), (31, (.va (.sl (Arc.T)))), (32, (.va (.int .i64))), (33, (.va (.int .i64)))], [(0, (.var (.va (Flow.T))))]⟩
def p13 : Pat := ⟨115, 4, [(1, (.pt 0)), (66, (.va (.sl (Resource.T)))), (67, (.va (.int .i64))), (68, (.va (.int .i64)))], [(0, (.var (.va (Flow.T))))]⟩
def p19 : Pat := ⟨115, 4, [(1, (.pt 0)), (84, (.va (.sl (Need.T)))), (85, (.va (.int .i64))), (86, (.va (.int .i64)))], [(0, (.var (.va (Flow.T))))]⟩
def a6 (k : Nat) (d : p6.ty.D) : Option rs.D := c6 k d.1.2.1 d.2.1
def a7 (k : Nat) (d : p7.ty.D) : Option rs.D := c7 k d.1.2.1 d.1.2.2.1 d.1.2.2.2.1 d.1.2.2.2.2.1 d.2.1
def a13 (k : Nat) (d : p13.ty.D) : Option rs.D := c13 k d.1.2.1 d.1.2.2.1 d.1.2.2.2.1 d.2.1
def a19 (k : Nat) (d : p19.ty.D) : Option rs.D := c19 k d.1.2.1 d.1.2.2.1 d.1.2.2.2.1 d.2.1
def cuts (k : Nat) : List (Cut rs.D) := [⟨6, p6, a6 k⟩, ⟨7, p7, a7 k⟩, ⟨13, p13, a13 k⟩, ⟨19, p19, a19 k⟩]
theorem z6 (d : p6.ty.D) : a6 0 d = none := by kernel_rfl
theorem z7 (d : p7.ty.D) : a7 0 d = none := by kernel_rfl
theorem z13 (d : p13.ty.D) : a13 0 d = none := by kernel_rfl
theorem z19 (d : p19.ty.D) : a19 0 d = none := by kernel_rfl
theorem ok (k : Nat) : FnOk Try.prog (fn k) := fs (n := 115) (FnInfo.of Try.func15 (by kernel_rfl)) 4 so al (Γ) (fun _ => G) (cuts) (fun k => (fn k).F) (fun k => by exact ⟨dataflow_between.ok k, dataflow_Source.ok k, dataflow_End.ok k, dataflow_framed.ok k, trivial⟩) (fun _ => trivial) trivial ⟨z6, z7, z13, z19, trivial⟩ (fun k => ⟨fun d => by kernel_rfl, fun d => by kernel_rfl, fun d => by kernel_rfl, fun d => by kernel_rfl, trivial⟩) (fun k d => by kernel_rfl) k
end dataflow_Valid
namespace dataflow_Nodes
def rs : Rt := (.fl (.int .i64))
def al : List (Nat × List Nat) := [(1, [0])]
def ps : Ty := (.pr (Flow.T) .un)
def fn : Vm.Fn := ⟨18, ps, false, rs, fun d => f d.1⟩
theorem ok (k : Nat) : FnOk Try.prog (fn) := fs (n := 9) (FnInfo.of Try.func18 (by kernel_rfl)) 1 so al (fun _ => Γ) (fun _ => G) (fun _ => []) (fun k => (fn).F) (fun _ => trivial) (fun _ => trivial) trivial trivial (fun k => trivial) (fun k d => by kernel_rfl) k
end dataflow_Nodes
namespace diffcons_limit
def rs : Rt := (.fl (.int .i64))
def ps : Ty := (.pr (.int .i64) (.pr (.int .i64) (.pr (.int .i64) .un)))
def fn : Vm.Fn := ⟨63, ps, false, rs, fun d => f d.1 d.2.1 d.2.2.1⟩
theorem ok (k : Nat) : FnOk Try.prog (fn) := fs (n := 12) (FnInfo.of Try.func63 (by kernel_rfl)) 0 so al (fun _ => Γ) (fun _ => G) (fun _ => []) (fun k => (fn).F) (fun _ => trivial) (fun _ => trivial) trivial trivial (fun k => trivial) (fun k d => by kernel_rfl) k
end diffcons_limit
namespace diffcons_nodes
def rs : Rt := (.fl (.int .i64))
def ps : Ty := (.pr (.int .i64) .un)
def fn : Vm.Fn := ⟨48, ps, false, rs, fun d => f d.1⟩
def Γ : List Vm.Fn := [diffcons_limit.fn]
theorem ok (k : Nat) : FnOk Try.prog (fn) := fs (n := 5) (FnInfo.of Try.func48 (by kernel_rfl)) 0 so al (fun _ => Γ) (fun _ => G) (fun _ => []) (fun k => (fn).F) (fun k => by exact ⟨diffcons_limit.ok k, trivial⟩) (fun _ => trivial) trivial trivial (fun k => trivial) (fun k d => by kernel_rfl) k
end diffcons_nodes
namespace diffcons_bound
def rs : Rt := (.fl (.int .i64))
def ps : Ty := (.pr (.sl (.int .i64)) (.pr (.int .i64) .un))
def fn : Vm.Fn := ⟨49, ps, false, rs, fun d => f d.1 d.2.1⟩
def Γ : List Vm.Fn := [diffcons_limit.fn]
theorem ok (k : Nat) : FnOk Try.prog (fn) := fs (n := 14) (FnInfo.of Try.func49 (by kernel_rfl)) 0 so al (fun _ => Γ) (fun _ => G) (fun _ => []) (fun k => (fn).F) (fun k => by exact ⟨diffcons_limit.ok k, trivial⟩) (fun _ => trivial) trivial trivial (fun k => trivial) (fun k d => by kernel_rfl) k
end diffcons_bound
namespace diffcons_within
def rs : Rt := (.fl .bool)
def al : List (Nat × List Nat) := [(2, [0])]
def ps : Ty := (.pr (Arc.T) (.pr (.int .i64) .un))
def fn : Vm.Fn := ⟨50, ps, false, rs, fun d => f d.1 d.2.1⟩
theorem ok (k : Nat) : FnOk Try.prog (fn) := fs (n := 25) (FnInfo.of Try.func50 (by kernel_rfl)) 1 so al (fun _ => Γ) (fun _ => G) (fun _ => []) (fun k => (fn).F) (fun _ => trivial) (fun _ => trivial) trivial trivial (fun k => trivial) (fun k d => by kernel_rfl) k
end diffcons_within
namespace diffcons_Weight
def rs : Rt := (.fl (.int .i64))
def al : List (Nat × List Nat) := [(2, [0])]
def ps : Ty := (.pr (Arc.T) (.pr (.int .i64) .un))
def fn : Vm.Fn := ⟨51, ps, false, rs, fun d => f d.1 d.2.1⟩
def Γ : List Vm.Fn := [diffcons_limit.fn]
theorem ok (k : Nat) : FnOk Try.prog (fn) := fs (n := 15) (FnInfo.of Try.func51 (by kernel_rfl)) 1 so al (fun _ => Γ) (fun _ => G) (fun _ => []) (fun k => (fn).F) (fun k => by exact ⟨diffcons_limit.ok k, trivial⟩) (fun _ => trivial) trivial trivial (fun k => trivial) (fun k d => by kernel_rfl) k
end diffcons_Weight
namespace slices_Reverse_int_int
def rs : Rt := .un
def p : Pat := ⟨28, 1, [(0, (.sl 0))], [(0, (.arr (.int .i64) true))]⟩
def fx : List Nat := [0]
def xo : List (Nat × OP) := [(0, (.arr (.int .i64) true))]
def fg (k : Nat) : Vm.Fg := ⟨64, p, fx, true, rs, xo, fun d => f k d.2.1⟩
def p1 : Pat := ⟨28, 1, [(0, (.sl 0)), (2, (.va (.int .i64))), (3, (.va (.int .i64)))], [(0, (.arr (.int .i64) true))]⟩
def a1 (k : Nat) (d : p1.ty.D) : Option (rs.D × (objsTy xo).D) := c1 k d.1.2.1 d.1.2.2.1 d.2.1
def cuts (k : Nat) : List (Cut (rs.D × (objsTy xo).D)) := [⟨1, p1, a1 k⟩]
theorem z1 (d : p1.ty.D) : a1 0 d = none := by kernel_rfl
theorem ok (k : Nat) : FgOk Try.prog (fg k) := gs (FgInfo.of Try.func64 (by kernel_rfl)) (pat := p) fx xo (by kernel_rfl) so al (fun _ => Γ) (fun _ => G) (cuts) (fun k => (fg k).F) (fun _ => trivial) (fun _ => trivial) trivial ⟨z1, trivial⟩ (fun k => ⟨fun d => by kernel_rfl, trivial⟩) (fun k d => by kernel_rfl) k
end slices_Reverse_int_int
namespace diffcons_around
def rs : Rt := (.on (.int .i64))
def al : List (Nat × List Nat) := [(9, [0]), (34, [1]), (35, [2])]
def ps : Ty := (.pr (.sl (Arc.T)) (.pr (.sl (.int .i64)) (.pr (.int .i64) (.pr (.int .i64) .un))))
def fn (k : Nat) : Vm.Fn := ⟨52, ps, false, rs, fun d => f k d.1 d.2.1 d.2.2.1 d.2.2.2.1⟩
def G (k : Nat) : List Vm.Fg := [slices_Reverse_int_int.fg k]
def p2 : Pat := ⟨50, 3, [(0, (.va (.sl (Arc.T)))), (1, (.va (.sl (.int .i64)))), (2, (.va (.int .i64))), (11, (.va (.int .i64))), (12, (.va (.int .i64)))], []⟩
def p6 : Pat := ⟨50, 3, [(0, (.va (.sl (Arc.T)))), (1, (.va (.sl (.int .i64)))), (2, (.va (.int .i64)))], []⟩
def p8 : Pat := ⟨50, 3, [(0, (.va (.sl (Arc.T)))), (1, (.va (.sl (.int .i64)))), (2, (.va (.int .i64))), (9, (.sl 0)), (10, (.va (.int .i64)))], [(0, (.arr (.int .i64) false))]⟩
def a2 (k : Nat) (d : p2.ty.D) : Option rs.D := c2 k d.1.1 d.1.2.1 d.1.2.2.1 d.1.2.2.2.1 d.1.2.2.2.2.1
def a6 (k : Nat) (d : p6.ty.D) : Option rs.D := c6 k d.1.1 d.1.2.1 d.1.2.2.1
def a8 (k : Nat) (d : p8.ty.D) : Option rs.D := c8 k d.1.1 d.1.2.1 d.1.2.2.1 d.1.2.2.2.2.1 d.2.1
def cuts (k : Nat) : List (Cut rs.D) := [⟨2, p2, a2 k⟩, ⟨6, p6, a6 k⟩, ⟨8, p8, a8 k⟩]
theorem z2 (d : p2.ty.D) : a2 0 d = none := by kernel_rfl
theorem z6 (d : p6.ty.D) : a6 0 d = none := by kernel_rfl
theorem z8 (d : p8.ty.D) : a8 0 d = none := by kernel_rfl
theorem ok (k : Nat) : FnOk Try.prog (fn k) := fs (n := 50) (FnInfo.of Try.func52 (by kernel_rfl)) 3 so al (fun _ => Γ) (G) (cuts) (fun k => (fn k).F) (fun _ => trivial) (fun k => by exact ⟨slices_Reverse_int_int.ok k, trivial⟩) trivial ⟨z2, z6, z8, trivial⟩ (fun k => ⟨fun d => by kernel_rfl, fun d => by kernel_rfl, fun d => by kernel_rfl, trivial⟩) (fun k d => by kernel_rfl) k
end diffcons_around
namespace diffcons_After
def rs : Rt := (.pr (.os (.int .i64)) (.pr (.on (.int .i64)) .un))
def al : List (Nat × List Nat) := [(8, [0]), (20, [1]), (22, [2]), (15, [3]), (90, [4])]
def ps : Ty := (.pr (.int .i64) (.pr (.sl (Arc.T)) (.pr (.int .i64) (.pr (.sl (.int .i64)) .un))))
def fn (k : Nat) : Vm.Fn := ⟨34, ps, true, rs, fun d => f k d.1 d.2.1 d.2.2.1 d.2.2.2.1⟩
def Γ (k : Nat) : List Vm.Fn := [diffcons_nodes.fn, diffcons_bound.fn, diffcons_within.fn, diffcons_Weight.fn, diffcons_around.fn k]
def p5 : Pat := ⟨91, 5, [(0, (.va (.int .i64))), (1, (.va (.sl (Arc.T)))), (2, (.va (.int .i64))), (3, (.va (.sl (.int .i64)))), (8, (.sl 1)), (10, (.sl 2)), (24, (.va (.int .i64))), (25, (.va (.int .i64)))], [(1, (.arr (.int .i64) true)), (2, (.arr (.int .i64) true))]⟩
def p12 : Pat := ⟨91, 5, [(0, (.va (.int .i64))), (1, (.va (.sl (Arc.T)))), (2, (.va (.int .i64))), (8, (.sl 1)), (10, (.sl 2)), (12, (.va (.int .i64)))], [(1, (.arr (.int .i64) true)), (2, (.arr (.int .i64) true))]⟩
def p14 : Pat := ⟨91, 5, [(0, (.va (.int .i64))), (1, (.va (.sl (Arc.T)))), (2, (.va (.int .i64))), (8, (.sl 1)), (10, (.sl 2)), (12, (.va (.int .i64))), (13, (.va (.int .i64))), (40, (.va (.sl (Arc.T)))), (41, (.va (.int .i64))), (42, (.va (.int .i64)))], [(1, (.arr (.int .i64) true)), (2, (.arr (.int .i64) true))]⟩
def a5 (k : Nat) (d : p5.ty.D) : Option rs.D := c5 k d.1.1 d.1.2.1 d.1.2.2.1 d.1.2.2.2.1 d.1.2.2.2.2.2.2.1 d.1.2.2.2.2.2.2.2.1 d.2.1 d.2.2.1
def a12 (k : Nat) (d : p12.ty.D) : Option rs.D := c12 k d.1.1 d.1.2.1 d.1.2.2.1 d.1.2.2.2.2.2.1 d.2.1 d.2.2.1
def a14 (k : Nat) (d : p14.ty.D) : Option rs.D := c14 k d.1.1 d.1.2.1 d.1.2.2.1 d.1.2.2.2.2.2.1 d.1.2.2.2.2.2.2.1 d.1.2.2.2.2.2.2.2.1 d.1.2.2.2.2.2.2.2.2.1 d.1.2.2.2.2.2.2.2.2.2.1 d.2.1 d.2.2.1
def cuts (k : Nat) : List (Cut rs.D) := [⟨5, p5, a5 k⟩, ⟨12, p12, a12 k⟩, ⟨14, p14, a14 k⟩]
theorem z5 (d : p5.ty.D) : a5 0 d = none := by kernel_rfl
theorem z12 (d : p12.ty.D) : a12 0 d = none := by kernel_rfl
theorem z14 (d : p14.ty.D) : a14 0 d = none := by kernel_rfl
theorem ok (k : Nat) : FnOk Try.prog (fn k) := fs (n := 91) (FnInfo.of Try.func34 (by kernel_rfl)) 5 so al (Γ) (fun _ => G) (cuts) (fun k => (fn k).F) (fun k => by exact ⟨diffcons_nodes.ok k, diffcons_bound.ok k, diffcons_within.ok k, diffcons_Weight.ok k, diffcons_around.ok k, trivial⟩) (fun _ => trivial) trivial ⟨z5, z12, z14, trivial⟩ (fun k => ⟨fun d => by kernel_rfl, fun d => by kernel_rfl, fun d => by kernel_rfl, trivial⟩) (fun k d => by kernel_rfl) k
end diffcons_After
namespace diffcons_Earliest
def rs : Rt := (.pr (.os (.int .i64)) (.pr (.on (.int .i64)) .un))
def al : List (Nat × List Nat) := [(6, [0]), (11, [1, 2])]
def ps : Ty := (.pr (.int .i64) (.pr (.sl (Arc.T)) (.pr (.int .i64) .un)))
def fn (k : Nat) : Vm.Fn := ⟨19, ps, true, rs, fun d => f k d.1 d.2.1 d.2.2.1⟩
def Γ (k : Nat) : List Vm.Fn := [diffcons_After.fn k]
theorem ok (k : Nat) : FnOk Try.prog (fn k) := fs (n := 14) (FnInfo.of Try.func19 (by kernel_rfl)) 3 so al (Γ) (fun _ => G) (fun _ => []) (fun k => (fn k).F) (fun k => by exact ⟨diffcons_After.ok k, trivial⟩) (fun _ => trivial) trivial trivial (fun k => trivial) (fun k d => by kernel_rfl) k
end diffcons_Earliest
namespace graph_size
def rs : Rt := (.fl (.int .i64))
def al : List (Nat × List Nat) := [(1, [0])]
def ps : Ty := (.pr (Graph.T) .un)
def fn : Vm.Fn := ⟨65, ps, false, rs, fun d => f d.1⟩
theorem ok (k : Nat) : FnOk Try.prog (fn) := fs (n := 7) (FnInfo.of Try.func65 (by kernel_rfl)) 1 so al (fun _ => Γ) (fun _ => G) (fun _ => []) (fun k => (fn).F) (fun _ => trivial) (fun _ => trivial) trivial trivial (fun k => trivial) (fun k d => by kernel_rfl) k
end graph_size
namespace graph_Next
def rs : Rt := (.os (.sl (.int .i64)))
def al : List (Nat × List Nat) := [(1, [0]), (2, [1]), (11, [2]), (6, [3]), (49, [4]), (50, [7, 8]), (69, [9, 10])]
def ps : Ty := (.pr (Graph.T) .un)
def fn (k : Nat) : Vm.Fn := ⟨54, ps, false, rs, fun d => f k d.1⟩
def Γ (k : Nat) : List Vm.Fn := [graph_size.fn]
def G (k : Nat) : List Vm.Fg := [compactH.fg]
def so : List So := [so66]
def p4 : Pat := ⟨73, 11, [(3, (.va (.int .i64))), (4, (.sl 2)), (13, (.va (.sl (Link.T)))), (14, (.va (.int .i64))), (15, (.va (.int .i64)))], [(2, (.arr (.sl (.int .i64)) true))]⟩
def p10 : Pat := ⟨73, 11, [(4, (.sl 2)), (54, (.va (.int .i64))), (55, (.va (.int .i64)))], [(2, (.arr (.sl (.int .i64)) true))]⟩
def a4 (k : Nat) (d : p4.ty.D) : Option rs.D := c4 k d.1.1 d.1.2.2.1 d.1.2.2.2.1 d.1.2.2.2.2.1 d.2.1
def a10 (k : Nat) (d : p10.ty.D) : Option rs.D := c10 k d.1.2.1 d.1.2.2.1 d.2.1
def cuts (k : Nat) : List (Cut rs.D) := [⟨4, p4, a4 k⟩, ⟨10, p10, a10 k⟩]
theorem z4 (d : p4.ty.D) : a4 0 d = none := by kernel_rfl
theorem z10 (d : p10.ty.D) : a10 0 d = none := by kernel_rfl
theorem ok (k : Nat) : FnOk Try.prog (fn k) := fs (n := 73) (FnInfo.of Try.func54 (by kernel_rfl)) 11 so al (Γ) (G) (cuts) (fun k => (fn k).F) (fun k => by exact ⟨graph_size.ok k, trivial⟩) (fun k => by exact ⟨compactH.ok k, trivial⟩) (by exact ⟨so66_ok, trivial⟩) ⟨z4, z10, trivial⟩ (fun k => ⟨fun d => by kernel_rfl, fun d => by kernel_rfl, trivial⟩) (fun k d => by kernel_rfl) k
end graph_Next
namespace graph_finished
def rs : Rt := (.os (.int .i64))
def al : List (Nat × List Nat) := [(2, [0]), (12, [1]), (15, [2]), (5, [3]), (29, [4]), (51, [5]), (52, [6]), (57, [7]), (84, [8]), (85, [9])]
def ps : Ty := (.pr (.sl (.sl (.int .i64))) .un)
def fn (k : Nat) : Vm.Fn := ⟨53, ps, false, rs, fun d => f k d.1⟩
def p5 : Pat := ⟨88, 10, [(0, (.va (.sl (.sl (.int .i64))))), (3, (.sl 1)), (4, (.sl 2)), (5, (.sl 3)), (17, (.va (.int .i64))), (18, (.va (.int .i64)))], [(1, (.arr .bool true)), (2, (.arr (.int .i64) true)), (3, (.arr (.int .i64) false))]⟩
def p10 : Pat := ⟨88, 10, [(0, (.va (.sl (.sl (.int .i64))))), (3, (.sl 1)), (4, (.sl 2)), (5, (.sl 3)), (7, (.sl 4)), (17, (.va (.int .i64))), (18, (.va (.int .i64)))], [(1, (.arr .bool true)), (2, (.arr (.int .i64) true)), (3, (.arr (.int .i64) false)), (4, (.arr (.int .i64) false))]⟩
def a5 (k : Nat) (d : p5.ty.D) : Option rs.D := c5 k d.1.1 d.1.2.2.2.2.1 d.1.2.2.2.2.2.1 d.2.1 d.2.2.1 d.2.2.2.1
def a10 (k : Nat) (d : p10.ty.D) : Option rs.D := c10 k d.1.1 d.1.2.2.2.2.2.1 d.1.2.2.2.2.2.2.1 d.2.1 d.2.2.1 d.2.2.2.1 d.2.2.2.2.1
def cuts (k : Nat) : List (Cut rs.D) := [⟨5, p5, a5 k⟩, ⟨10, p10, a10 k⟩]
theorem z5 (d : p5.ty.D) : a5 0 d = none := by kernel_rfl
theorem z10 (d : p10.ty.D) : a10 0 d = none := by kernel_rfl
theorem ok (k : Nat) : FnOk Try.prog (fn k) := fs (n := 88) (FnInfo.of Try.func53 (by kernel_rfl)) 10 so al (fun _ => Γ) (fun _ => G) (cuts) (fun k => (fn k).F) (fun _ => trivial) (fun _ => trivial) trivial ⟨z5, z10, trivial⟩ (fun k => ⟨fun d => by kernel_rfl, fun d => by kernel_rfl, trivial⟩) (fun k d => by kernel_rfl) k
end graph_finished
namespace graph_Turn
def rs : Rt := (.pr (.fl (.int .i64)) (.pr (.os (Link.T)) .un))
def al : List (Nat × List Nat) := [(1, [0]), (2, [1]), (3, [2]), (12, [3]), (30, [4]), (31, [5])]
def ps : Ty := (.pr (Graph.T) .un)
def fn (k : Nat) : Vm.Fn := ⟨55, ps, false, rs, fun d => f k d.1⟩
def Γ (k : Nat) : List Vm.Fn := [graph_size.fn, graph_Next.fn k]
def so : List So := [so68_69]
def p3 : Pat := ⟨39, 8, [(2, (.pt 1)), (3, (.pt 2)), (12, (.va (.sl (.sl (.int .i64))))), (13, (.va (.int .i64))), (14, (.va (.int .i64)))], [(1, (.var (.pr (.va (.int .i64)) (.pr .nl .un)))), (2, (.var (.pr (.va (.int .i64)) (.pr (.sl 7) .un)))), (7, (.arr (Link.T) false))]⟩
def p6 : Pat := ⟨39, 8, [(2, (.pt 1)), (3, (.pt 2)), (4, (.va (.int .i64))), (12, (.va (.sl (.sl (.int .i64))))), (13, (.va (.int .i64))), (14, (.va (.int .i64))), (19, (.va (.sl (.int .i64)))), (20, (.va (.int .i64))), (21, (.va (.int .i64)))], [(1, (.var (.pr (.va (.int .i64)) (.pr .nl .un)))), (2, (.var (.pr (.va (.int .i64)) (.pr (.sl 6) .un)))), (6, (.arr (Link.T) false))]⟩
def a3 (k : Nat) (d : p3.ty.D) : Option rs.D := c3 k d.1.2.2.1 d.1.2.2.2.1 d.1.2.2.2.2.1 d.2.1.1 d.2.2.1.1 d.2.2.2.1
def a6 (k : Nat) (d : p6.ty.D) : Option rs.D := c6 k d.1.2.2.1 d.1.2.2.2.1 d.1.2.2.2.2.1 d.1.2.2.2.2.2.1 d.1.2.2.2.2.2.2.1 d.1.2.2.2.2.2.2.2.1 d.1.2.2.2.2.2.2.2.2.1 d.2.1.1 d.2.2.1.1 d.2.2.2.1
def cuts (k : Nat) : List (Cut rs.D) := [⟨3, p3, a3 k⟩, ⟨6, p6, a6 k⟩]
theorem z3 (d : p3.ty.D) : a3 0 d = none := by kernel_rfl
theorem z6 (d : p6.ty.D) : a6 0 d = none := by kernel_rfl
theorem ok (k : Nat) : FnOk Try.prog (fn k) := fs (n := 39) (FnInfo.of Try.func55 (by kernel_rfl)) 8 so al (Γ) (fun _ => G) (cuts) (fun k => (fn k).F) (fun k => by exact ⟨graph_size.ok k, graph_Next.ok k, trivial⟩) (fun _ => trivial) (by exact ⟨so68_69_ok, trivial⟩) ⟨z3, z6, trivial⟩ (fun k => ⟨fun d => by kernel_rfl, fun d => by kernel_rfl, trivial⟩) (fun k d => by kernel_rfl) k
end graph_Turn
namespace slices_Min_int_int
def rs : Rt := (.fl (.int .i64))
def ps : Ty := (.pr (.sl (.int .i64)) .un)
def fn (k : Nat) : Vm.Fn := ⟨57, ps, false, rs, fun d => f k d.1⟩
def p3 : Pat := ⟨25, 0, [(0, (.va (.sl (.int .i64))))], []⟩
def p5 : Pat := ⟨25, 0, [(0, (.va (.sl (.int .i64)))), (3, (.va (.int .i64))), (4, (.va (.int .i64)))], []⟩
def a3 (k : Nat) (d : p3.ty.D) : Option rs.D := c3 k d.1.1
def a5 (k : Nat) (d : p5.ty.D) : Option rs.D := c5 k d.1.1 d.1.2.1 d.1.2.2.1
def cuts (k : Nat) : List (Cut rs.D) := [⟨3, p3, a3 k⟩, ⟨5, p5, a5 k⟩]
theorem z3 (d : p3.ty.D) : a3 0 d = none := by kernel_rfl
theorem z5 (d : p5.ty.D) : a5 0 d = none := by kernel_rfl
theorem ok (k : Nat) : FnOk Try.prog (fn k) := fs (n := 25) (FnInfo.of Try.func57 (by kernel_rfl)) 0 so al (fun _ => Γ) (fun _ => G) (cuts) (fun k => (fn k).F) (fun _ => trivial) (fun _ => trivial) trivial ⟨z3, z5, trivial⟩ (fun k => ⟨fun d => by kernel_rfl, fun d => by kernel_rfl, trivial⟩) (fun k d => by kernel_rfl) k
end slices_Min_int_int
namespace graph_Components
def rs : Rt := (.os (.int .i64))
def al : List (Nat × List Nat) := [(1, [0]), (2, [1]), (17, [2]), (18, [3]), (20, [4]), (21, [5]), (4, [6]), (24, [7]), (5, [8]), (44, [9]), (78, [10]), (79, [11])]
def ps : Ty := (.pr (Graph.T) .un)
def fn (k : Nat) : Vm.Fn := ⟨35, ps, false, rs, fun d => f k d.1⟩
def Γ (k : Nat) : List Vm.Fn := [graph_Next.fn k, graph_finished.fn k, graph_Turn.fn k]
def G (k : Nat) : List Vm.Fg := []
def so : List So := []
def Ev (k : Nat) : Env := ⟨tab, Γ k, al, G k, so⟩
def rg : Rg := ⟨⟨95, 12, [(4, (.pt 6)), (5, (.pt 8))], [(6, (.var (.va (.sl (.sl (.int .i64)))))), (8, (.var (.sl 7))), (7, (.arr (.int .i64) true))]⟩, [6, 8, 7], 36, 37, 8⟩
def rz : Rz := ⟨56, 72, 3, 34, 35⟩
def sd : (slotsTy rg.pat.sl).D := ((), (), ())
noncomputable def z : List Item := (occFind 9 (occsK (bodyOf Try.f35))).getD []
theorem hz : occFind 9 (occsK (bodyOf Try.f35)) = some z := by kernel_rfl
theorem zb : zB z rg rz = true := by kernel_rfl
def b.al : List (Nat × List Nat) := [(44, [9]), (78, [10]), (79, [11])]
def b.Γ (k : Nat) : List Vm.Fn := [slices_Min_int_int.fn k]
def b.G (k : Nat) : List Vm.Fg := []
def b.so : List So := []
def b.p15 : Pat := ⟨95, 12, [(4, (.pt 6)), (5, (.pt 8)), (8, (.va (.int .i64))), (9, (.sl 9)), (10, (.va (.int .i64)))], [(6, (.var (.va (.sl (.sl (.int .i64)))))), (8, (.var (.sl 7))), (7, (.arr (.int .i64) true)), (9, (.arr (.int .i64) true))]⟩
def b.p18 : Pat := ⟨95, 12, [(4, (.pt 6)), (5, (.pt 8)), (8, (.va (.int .i64))), (9, (.sl 9)), (10, (.va (.int .i64))), (61, (.va (.sl (.int .i64)))), (62, (.va (.int .i64))), (63, (.va (.int .i64)))], [(6, (.var (.va (.sl (.sl (.int .i64)))))), (8, (.var (.sl 7))), (7, (.arr (.int .i64) true)), (9, (.arr (.int .i64) true))]⟩
def b.p26 : Pat := ⟨95, 12, [(5, (.pt 8)), (13, (.va (.int .i64))), (83, (.sl 9)), (84, (.va (.int .i64))), (85, (.va (.int .i64)))], [(6, (.var (.va (.sl (.sl (.int .i64)))))), (8, (.var (.sl 7))), (7, (.arr (.int .i64) true)), (9, (.arr (.int .i64) true))]⟩
def b.cuts (k : Nat) : List (Cut (objsTy rg.pat.ob).D) := [⟨15, b.p15, fun d => b.c15 k d.1.2.2.1 d.1.2.2.2.2.1 d.2.1 d.2.2.2.1 d.2.2.2.2.1⟩, ⟨18, b.p18, fun d => b.c18 k d.1.2.2.1 d.1.2.2.2.2.1 d.1.2.2.2.2.2.1 d.1.2.2.2.2.2.2.1 d.1.2.2.2.2.2.2.2.1 d.2.1 d.2.2.2.1 d.2.2.2.2.1⟩, ⟨26, b.p26, fun d => b.c26 k d.1.2.1 d.1.2.2.2.1 d.1.2.2.2.2.1 d.2.1 d.2.2.2.1 d.2.2.2.2.1⟩]
theorem b.z15 (d : b.p15.ty.D) : b.c15 0 d.1.2.2.1 d.1.2.2.2.2.1 d.2.1 d.2.2.2.1 d.2.2.2.2.1 = none := by kernel_rfl
theorem b.e15 (k : Nat) (d : b.p15.ty.D) : b.c15 (k + 1) d.1.2.2.1 d.1.2.2.2.2.1 d.2.1 d.2.2.2.1 d.2.2.2.2.1 = runX ⟨tab, b.Γ k, b.al, b.G k, b.so⟩ rg.fx rg.fin (b.cuts k) (occFind 15 (occsK [.code (zBody z)])) true (b.p15.mk' d) := by kernel_rfl
theorem b.z18 (d : b.p18.ty.D) : b.c18 0 d.1.2.2.1 d.1.2.2.2.2.1 d.1.2.2.2.2.2.1 d.1.2.2.2.2.2.2.1 d.1.2.2.2.2.2.2.2.1 d.2.1 d.2.2.2.1 d.2.2.2.2.1 = none := by kernel_rfl
theorem b.e18 (k : Nat) (d : b.p18.ty.D) : b.c18 (k + 1) d.1.2.2.1 d.1.2.2.2.2.1 d.1.2.2.2.2.2.1 d.1.2.2.2.2.2.2.1 d.1.2.2.2.2.2.2.2.1 d.2.1 d.2.2.2.1 d.2.2.2.2.1 = runX ⟨tab, b.Γ k, b.al, b.G k, b.so⟩ rg.fx rg.fin (b.cuts k) (occFind 18 (occsK [.code (zBody z)])) true (b.p18.mk' d) := by kernel_rfl
theorem b.z26 (d : b.p26.ty.D) : b.c26 0 d.1.2.1 d.1.2.2.2.1 d.1.2.2.2.2.1 d.2.1 d.2.2.2.1 d.2.2.2.2.1 = none := by kernel_rfl
theorem b.e26 (k : Nat) (d : b.p26.ty.D) : b.c26 (k + 1) d.1.2.1 d.1.2.2.2.1 d.1.2.2.2.2.1 d.2.1 d.2.2.2.1 d.2.2.2.2.1 = runX ⟨tab, b.Γ k, b.al, b.G k, b.so⟩ rg.fx rg.fin (b.cuts k) (occFind 26 (occsK [.code (zBody z)])) true (b.p26.mk' d) := by kernel_rfl
theorem b.e (k : Nat) (d : (objsTy rg.pat.ob).D) (i v : Int) : rf k d i v = runX ⟨tab, b.Γ k, b.al, b.G k, b.so⟩ rg.fx rg.fin (b.cuts k) (some [.code (zBody z)]) false (rg.start sd d i v) := by kernel_rfl
def p5 : Pat := ⟨95, 12, [(3, (.sl 3)), (4, (.pt 6)), (5, (.pt 8)), (26, (.va (.int .i64))), (27, (.va (.int .i64)))], [(3, (.arr (.int .i64) false)), (6, (.var (.sl 5))), (8, (.var (.sl 7))), (5, (.arr (.sl (.int .i64)) false)), (7, (.arr (.int .i64) true))]⟩
def p9 : Pat := ⟨95, 12, [(4, (.pt 6)), (5, (.pt 8)), (3, (.va (.sl (.int .i64))))], [(6, (.var (.va (.sl (.sl (.int .i64)))))), (8, (.var (.sl 7))), (7, (.arr (.int .i64) true))]⟩
def cuts (k : Nat) : List (Cut rs.D) := [⟨5, p5, fun d => c5 k d.1.2.2.2.1 d.1.2.2.2.2.1 d.2.1 d.2.2.2.2.1 d.2.2.2.2.2.1⟩, ⟨9, p9, fun d => c9 k d.1.2.2.1 d.2.1 d.2.2.2.1⟩]
theorem z5 (d : p5.ty.D) : c5 0 d.1.2.2.2.1 d.1.2.2.2.2.1 d.2.1 d.2.2.2.2.1 d.2.2.2.2.2.1 = none := by kernel_rfl
theorem e5 (k : Nat) (d : p5.ty.D) : c5 (k + 1) d.1.2.2.2.1 d.1.2.2.2.2.1 d.2.1 d.2.2.2.2.1 d.2.2.2.2.2.1 = runF (Ev k) Try.f35 false rs (cuts k) (todoAt 5 (bodyOf Try.f35)) true (p5.mk' d) := by kernel_rfl
theorem e9 (k : Nat) (d : p9.ty.D) : c9 k d.1.2.2.1 d.2.1 d.2.2.2.1 = cond (Nat.ble (List.length (α := Int) d.1.2.2.1) 1073741824) ((rst (rf k) d.1.2.2.1 (List.length (α := Int) d.1.2.2.1) d.2).bind fun dE => regRun (Ev k) (zTail z) false (rg.pat.mk' (sd, dE)) (finish tab Try.f35 false rs)) none := by kernel_rfl
theorem e (k : Nat) (d : ps.D) : f k d.1 = runF (Ev k) Try.f35 false rs (cuts k) (some (bodyOf Try.f35)) false (Vm.start ps 95 12 d) := by kernel_rfl
theorem h9 (k : Nat) : HandCut Try.prog Try.f35 (finish tab Try.f35 false rs) ⟨9, p9, fun d => c9 k d.1.2.2.1 d.2.1 d.2.2.2.1⟩ :=
  rangeHand mixed (g := rg) (q := rz) (by kernel_rfl) hz zb (E := fun k => ⟨tab, b.Γ k, b.al, b.G k, b.so⟩) (cuts := fun k => b.cuts k) (N := k) (fun k _ => ⟨tabOk, eqOk, AllF.mem (l := b.Γ k) (by exact ⟨slices_Min_int_int.ok k, trivial⟩), AllG.mem (l := b.G k) trivial, AllS.mem (l := b.so) trivial⟩) ⟨b.z15, b.z18, b.z26, trivial⟩ (fun k => ⟨b.e15 k, b.e18 k, b.e26 k, trivial⟩) (rf := rf k) (s := sd) (fun d i v => b.e k d i v) back56 iter72 ⟨_, _, Try.func72, name_ne (by kernel_rfl), rfl⟩ (ET := (Ev k)) ⟨tabOk, eqOk, AllF.mem (l := Γ k) (by exact ⟨graph_Next.ok k, graph_finished.ok k, graph_Turn.ok k, trivial⟩), AllG.mem (l := G k) trivial, AllS.mem (l := so) trivial⟩ (zs := fun d => d.1.2.2.1) (d0 := fun d => d.2) (fun d => by kernel_rfl) (fun d => e9 k d)
theorem ok (k : Nat) : FnOk Try.prog (fn k) := fn_soundH mixed (FnInfo.of Try.func35 (by kernel_rfl)) (m := 12) (T := tab) (so := so) (al := al) (Γ := fun k => Γ k) (G := fun k => G k) (cuts := fun k => cuts k) (fun k => ⟨tabOk, eqOk, AllF.mem (l := Γ k) (by exact ⟨graph_Next.ok k, graph_finished.ok k, graph_Turn.ok k, trivial⟩), AllG.mem (l := G k) trivial, AllS.mem (l := so) trivial⟩) ⟨.inl z5, .inr (h9 0), trivial⟩ (fun k => ⟨.inl (e5 k), .inr (h9 (k + 1)), trivial⟩) (F := fun k (d : ps.D) => f k d.1) (fun k d => e k d) k
end graph_Components
namespace listsched_tangled_1
def rs : Rt := (.fl .bool)
def p : Pat := ⟨8, 2, [(0, (.va (.int .i64))), (1, (.pt 0))], [(0, (.rv (.pt 1))), (1, (.mp .i64 (.int .i64)))]⟩
def fx : List Nat := [1]
def xo : List (Nat × OP) := [(1, (.mp .i64 (.int .i64)))]
def fg : Vm.Fg := ⟨36, p, fx, false, rs, xo, fun d => f d.1.1 d.2.2.1⟩
theorem ok (k : Nat) : FgOk Try.prog (fg) := gs (FgInfo.of Try.func36 (by kernel_rfl)) (pat := p) fx xo (by kernel_rfl) so al (fun _ => Γ) (fun _ => G) (fun _ => []) (fun k => (fg).F) (fun _ => trivial) (fun _ => trivial) trivial trivial (fun k => trivial) (fun k d => by kernel_rfl) k
end listsched_tangled_1
namespace slices_IndexFunc_int_int
def rs : Rt := (.fl (.int .i64))
def p : Pat := ⟨19, 2, [(0, (.va (.sl (.int .i64)))), (1, (.fn 36 (.pr (.pt 0) .un)))], [(0, (.rv (.pt 1))), (1, (.mp .i64 (.int .i64)))]⟩
def fx : List Nat := [1]
def xo : List (Nat × OP) := [(1, (.mp .i64 (.int .i64)))]
def fg (k : Nat) : Vm.Fg := ⟨37, p, fx, false, rs, xo, fun d => f k d.1.1 d.2.2.1⟩
def G (k : Nat) : List Vm.Fg := [listsched_tangled_1.fg]
def p2 : Pat := ⟨19, 2, [(0, (.va (.sl (.int .i64)))), (1, (.fn 36 (.pr (.pt 0) .un))), (7, (.va (.int .i64))), (8, (.va (.int .i64)))], [(1, (.mp .i64 (.int .i64))), (0, (.rv (.pt 1)))]⟩
def a2 (k : Nat) (d : p2.ty.D) : Option (rs.D × (objsTy xo).D) := c2 k d.1.1 d.1.2.2.1 d.1.2.2.2.1 d.2.1
def cuts (k : Nat) : List (Cut (rs.D × (objsTy xo).D)) := [⟨2, p2, a2 k⟩]
theorem z2 (d : p2.ty.D) : a2 0 d = none := by kernel_rfl
theorem ok (k : Nat) : FgOk Try.prog (fg k) := gs (FgInfo.of Try.func37 (by kernel_rfl)) (pat := p) fx xo (by kernel_rfl) so al (fun _ => Γ) (G) (cuts) (fun k => (fg k).F) (fun _ => trivial) (fun k => by exact ⟨listsched_tangled_1.ok k, trivial⟩) trivial ⟨z2, trivial⟩ (fun k => ⟨fun d => by kernel_rfl, trivial⟩) (fun k d => by kernel_rfl) k
end slices_IndexFunc_int_int
namespace slices_ContainsFunc_int_int
def rs : Rt := (.fl .bool)
def p : Pat := ⟨9, 2, [(0, (.va (.sl (.int .i64)))), (1, (.fn 36 (.pr (.pt 0) .un)))], [(0, (.rv (.pt 1))), (1, (.mp .i64 (.int .i64)))]⟩
def fx : List Nat := [1]
def xo : List (Nat × OP) := [(1, (.mp .i64 (.int .i64)))]
def fg (k : Nat) : Vm.Fg := ⟨21, p, fx, false, rs, xo, fun d => f k d.1.1 d.2.2.1⟩
def G (k : Nat) : List Vm.Fg := [slices_IndexFunc_int_int.fg k]
theorem ok (k : Nat) : FgOk Try.prog (fg k) := gs (FgInfo.of Try.func21 (by kernel_rfl)) (pat := p) fx xo (by kernel_rfl) so al (fun _ => Γ) (G) (fun _ => []) (fun k => (fg k).F) (fun _ => trivial) (fun k => by exact ⟨slices_IndexFunc_int_int.ok k, trivial⟩) trivial trivial (fun k => trivial) (fun k d => by kernel_rfl) k
end slices_ContainsFunc_int_int
namespace listsched_tangled
def rs : Rt := (.fl .bool)
def al : List (Nat × List Nat) := [(1, [0]), (3, [1]), (5, [2]), (60, [3]), (61, [4]), (65, [5]), (66, [6]), (7, [7])]
def ps : Ty := (.pr (Flow.T) .un)
def fn (k : Nat) : Vm.Fn := ⟨20, ps, false, rs, fun d => f k d.1⟩
def Γ (k : Nat) : List Vm.Fn := [dataflow_Nodes.fn, dataflow_Source.fn, graph_Components.fn k]
def G (k : Nat) : List Vm.Fg := [slices_ContainsFunc_int_int.fg k]
def p3 : Pat := ⟨84, 9, [(1, (.pt 0)), (3, (.pt 1)), (14, (.va (.sl (Arc.T)))), (15, (.va (.int .i64))), (16, (.va (.int .i64)))], [(0, (.var (.va (Flow.T)))), (1, (.var (.pr (.va (.int .i64)) (.pr (.sl 8) .un)))), (8, (.arr (Link.T) false))]⟩
def p12 : Pat := ⟨84, 9, [(1, (.pt 0)), (6, (.sl 5)), (7, (.pt 7)), (67, (.sl 5)), (68, (.va (.int .i64))), (69, (.va (.int .i64)))], [(0, (.var (.va (Flow.T)))), (5, (.arr (.int .i64) false)), (7, (.var (.pt 6))), (6, (.mp .i64 (.int .i64)))]⟩
def a3 (k : Nat) (d : p3.ty.D) : Option rs.D := c3 k d.1.2.2.1 d.1.2.2.2.1 d.1.2.2.2.2.1 d.2.1 d.2.2.1.1 d.2.2.2.1
def a12 (k : Nat) (d : p12.ty.D) : Option rs.D := c12 k d.1.2.2.2.2.1 d.1.2.2.2.2.2.1 d.2.1 d.2.2.1 d.2.2.2.2.1
def cuts (k : Nat) : List (Cut rs.D) := [⟨3, p3, a3 k⟩, ⟨12, p12, a12 k⟩]
theorem z3 (d : p3.ty.D) : a3 0 d = none := by kernel_rfl
theorem z12 (d : p12.ty.D) : a12 0 d = none := by kernel_rfl
theorem ok (k : Nat) : FnOk Try.prog (fn k) := fs (n := 84) (FnInfo.of Try.func20 (by kernel_rfl)) 9 so al (Γ) (G) (cuts) (fun k => (fn k).F) (fun k => by exact ⟨dataflow_Nodes.ok k, dataflow_Source.ok k, graph_Components.ok k, trivial⟩) (fun k => by exact ⟨slices_ContainsFunc_int_int.ok k, trivial⟩) trivial ⟨z3, z12, trivial⟩ (fun k => ⟨fun d => by kernel_rfl, fun d => by kernel_rfl, trivial⟩) (fun k d => by kernel_rfl) k
end listsched_tangled
namespace listsched_Schedule_1
def rs : Rt := (.fl .bool)
def p : Pat := ⟨5, 0, [(0, (.va (.int .i64)))], []⟩
def fx : List Nat := []
def xo : List (Nat × OP) := []
def fg : Vm.Fg := ⟨22, p, fx, false, rs, xo, fun d => f d.1.1⟩
theorem ok (k : Nat) : FgOk Try.prog (fg) := gs (FgInfo.of Try.func22 (by kernel_rfl)) (pat := p) fx xo (by kernel_rfl) so al (fun _ => Γ) (fun _ => G) (fun _ => []) (fun k => (fg).F) (fun _ => trivial) (fun _ => trivial) trivial trivial (fun k => trivial) (fun k d => by kernel_rfl) k
end listsched_Schedule_1
namespace slices_IndexFunc_int_int_i1
def rs : Rt := (.fl (.int .i64))
def p : Pat := ⟨19, 0, [(0, (.va (.sl (.int .i64)))), (1, (.fn 22 .un))], []⟩
def fx : List Nat := []
def xo : List (Nat × OP) := []
def fg (k : Nat) : Vm.Fg := ⟨37, p, fx, false, rs, xo, fun d => f k d.1.1⟩
def G (k : Nat) : List Vm.Fg := [listsched_Schedule_1.fg]
def p2 : Pat := ⟨19, 0, [(0, (.va (.sl (.int .i64)))), (1, (.fn 22 .un)), (7, (.va (.int .i64))), (8, (.va (.int .i64)))], []⟩
def a2 (k : Nat) (d : p2.ty.D) : Option (rs.D × (objsTy xo).D) := c2 k d.1.1 d.1.2.2.1 d.1.2.2.2.1
def cuts (k : Nat) : List (Cut (rs.D × (objsTy xo).D)) := [⟨2, p2, a2 k⟩]
theorem z2 (d : p2.ty.D) : a2 0 d = none := by kernel_rfl
theorem ok (k : Nat) : FgOk Try.prog (fg k) := gs (FgInfo.of Try.func37 (by kernel_rfl)) (pat := p) fx xo (by kernel_rfl) so al (fun _ => Γ) (G) (cuts) (fun k => (fg k).F) (fun _ => trivial) (fun k => by exact ⟨listsched_Schedule_1.ok k, trivial⟩) trivial ⟨z2, trivial⟩ (fun k => ⟨fun d => by kernel_rfl, trivial⟩) (fun k d => by kernel_rfl) k
end slices_IndexFunc_int_int_i1
namespace slices_ContainsFunc_int_int_i1
def rs : Rt := (.fl .bool)
def p : Pat := ⟨9, 0, [(0, (.va (.sl (.int .i64)))), (1, (.fn 22 .un))], []⟩
def fx : List Nat := []
def xo : List (Nat × OP) := []
def fg (k : Nat) : Vm.Fg := ⟨21, p, fx, false, rs, xo, fun d => f k d.1.1⟩
def G (k : Nat) : List Vm.Fg := [slices_IndexFunc_int_int_i1.fg k]
theorem ok (k : Nat) : FgOk Try.prog (fg k) := gs (FgInfo.of Try.func21 (by kernel_rfl)) (pat := p) fx xo (by kernel_rfl) so al (fun _ => Γ) (G) (fun _ => []) (fun k => (fg k).F) (fun _ => trivial) (fun k => by exact ⟨slices_IndexFunc_int_int_i1.ok k, trivial⟩) trivial trivial (fun k => trivial) (fun k d => by kernel_rfl) k
end slices_ContainsFunc_int_int_i1
namespace bits_Mul64
def rs : Rt := (.pr (.fl (.int .u64)) (.pr (.fl (.int .u64)) .un))
def ps : Ty := (.pr (.int .u64) (.pr (.int .u64) .un))
def fn : Vm.Fn := ⟨59, ps, true, rs, fun d => f d.1 d.2.1⟩
theorem ok (k : Nat) : FnOk Try.prog (fn) := fs (n := 51) (FnInfo.of Try.func59 (by kernel_rfl)) 0 so al (fun _ => Γ) (fun _ => G) (fun _ => []) (fun k => (fn).F) (fun _ => trivial) (fun _ => trivial) trivial trivial (fun k => trivial) (fun k d => by kernel_rfl) k
end bits_Mul64
namespace bits_Mul
def rs : Rt := (.pr (.fl (.int .u64)) (.pr (.fl (.int .u64)) .un))
def ps : Ty := (.pr (.int .u64) (.pr (.int .u64) .un))
def fn : Vm.Fn := ⟨38, ps, true, rs, fun d => f d.1 d.2.1⟩
def Γ : List Vm.Fn := [bits_Mul64.fn]
theorem ok (k : Nat) : FnOk Try.prog (fn) := fs (n := 30) (FnInfo.of Try.func38 (by kernel_rfl)) 0 so al (fun _ => Γ) (fun _ => G) (fun _ => []) (fun k => (fn).F) (fun k => by exact ⟨bits_Mul64.ok k, trivial⟩) (fun _ => trivial) trivial trivial (fun k => trivial) (fun k d => by kernel_rfl) k
end bits_Mul
namespace slices_Repeat_int_int
def rs : Rt := (.os (.int .i64))
def al : List (Nat × List Nat) := [(4, [0]), (30, [1])]
def ps : Ty := (.pr (.sl (.int .i64)) (.pr (.int .i64) .un))
def fn (k : Nat) : Vm.Fn := ⟨23, ps, false, rs, fun d => f k d.1 d.2.1⟩
def Γ (k : Nat) : List Vm.Fn := [bits_Mul.fn]
def p3 : Pat := ⟨48, 2, [(0, (.va (.sl (.int .i64)))), (1, (.va (.int .i64)))], []⟩
def p6 : Pat := ⟨48, 2, [(0, (.va (.sl (.int .i64)))), (6, (.va (.int .u64)))], []⟩
def p8 : Pat := ⟨48, 2, [(7, (.sl 1)), (8, (.va (.int .i64)))], [(1, (.arr (.int .i64) true))]⟩
def a3 (k : Nat) (d : p3.ty.D) : Option rs.D := c3 k d.1.1 d.1.2.1
def a6 (k : Nat) (d : p6.ty.D) : Option rs.D := c6 k d.1.1 d.1.2.1
def a8 (k : Nat) (d : p8.ty.D) : Option rs.D := c8 k d.1.2.1 d.2.1
def cuts (k : Nat) : List (Cut rs.D) := [⟨3, p3, a3 k⟩, ⟨6, p6, a6 k⟩, ⟨8, p8, a8 k⟩]
theorem z3 (d : p3.ty.D) : a3 0 d = none := by kernel_rfl
theorem z6 (d : p6.ty.D) : a6 0 d = none := by kernel_rfl
theorem z8 (d : p8.ty.D) : a8 0 d = none := by kernel_rfl
theorem ok (k : Nat) : FnOk Try.prog (fn k) := fs (n := 48) (FnInfo.of Try.func23 (by kernel_rfl)) 2 so al (Γ) (fun _ => G) (cuts) (fun k => (fn k).F) (fun k => by exact ⟨bits_Mul.ok k, trivial⟩) (fun _ => trivial) trivial ⟨z3, z6, z8, trivial⟩ (fun k => ⟨fun d => by kernel_rfl, fun d => by kernel_rfl, fun d => by kernel_rfl, trivial⟩) (fun k d => by kernel_rfl) k
end slices_Repeat_int_int
namespace listsched_lister_soon
def rs : Rt := (.fl (.int .i64))
def al : List (Nat × List Nat) := [(10, [1])]
def p : Pat := ⟨68, 2, [(0, (.pt 0)), (1, (.va (.sl .bool))), (2, (.va (.int .i64)))], [(0, (.rv (.pr (.va (Flow.T)) (.pr (.pr (.va (.int .i64)) (.pr (.va (.int .i64)) (.pr (.va (.sl (.int .i64))) (.pr (.va (.sl (.int .i64))) (.pr (.va (.sl (.int .i64))) .un))))) (.pr (.va (.sl (.int .i64))) (.pr (.va (.sl (.int .i64))) (.pr (.va (.sl (.sl (.int .i64)))) (.pr (.va (.sl (.sl (Arc.T)))) .un))))))))]⟩
def fx : List Nat := []
def xo : List (Nat × OP) := []
def fg (k : Nat) : Vm.Fg := ⟨39, p, fx, false, rs, xo, fun d => f k d.1.2.1 d.1.2.2.1 d.2.1.1 d.2.1.2.1.1 d.2.1.2.1.2.1 d.2.1.2.1.2.2.1 d.2.1.2.1.2.2.2.1 d.2.1.2.1.2.2.2.2.1 d.2.1.2.2.1 d.2.1.2.2.2.1 d.2.1.2.2.2.2.1 d.2.1.2.2.2.2.2.1⟩
def Γ (k : Nat) : List Vm.Fn := [slices_Min_int_int.fn k]
def p3 : Pat := ⟨68, 2, [(0, (.pt 0)), (1, (.va (.sl .bool))), (2, (.va (.int .i64))), (7, (.va (.int .i64))), (12, (.va (.int .i64))), (13, (.va (.int .i64)))], [(0, (.rv (.pr (.va (Flow.T)) (.pr (.pr (.va (.int .i64)) (.pr (.va (.int .i64)) (.pr (.va (.sl (.int .i64))) (.pr (.va (.sl (.int .i64))) (.pr (.va (.sl (.int .i64))) .un))))) (.pr (.va (.sl (.int .i64))) (.pr (.va (.sl (.int .i64))) (.pr (.va (.sl (.sl (.int .i64)))) (.pr (.va (.sl (.sl (Arc.T)))) .un))))))))]⟩
def a3 (k : Nat) (d : p3.ty.D) : Option (rs.D × (objsTy xo).D) := c3 k d.1.2.1 d.1.2.2.1 d.1.2.2.2.1 d.1.2.2.2.2.1 d.1.2.2.2.2.2.1 d.2.1.1 d.2.1.2.1.1 d.2.1.2.1.2.1 d.2.1.2.1.2.2.1 d.2.1.2.1.2.2.2.1 d.2.1.2.1.2.2.2.2.1 d.2.1.2.2.1 d.2.1.2.2.2.1 d.2.1.2.2.2.2.1 d.2.1.2.2.2.2.2.1
def cuts (k : Nat) : List (Cut (rs.D × (objsTy xo).D)) := [⟨3, p3, a3 k⟩]
theorem z3 (d : p3.ty.D) : a3 0 d = none := by kernel_rfl
theorem ok (k : Nat) : FgOk Try.prog (fg k) := gs (FgInfo.of Try.func39 (by kernel_rfl)) (pat := p) fx xo (by kernel_rfl) so al (Γ) (fun _ => G) (cuts) (fun k => (fg k).F) (fun k => by exact ⟨slices_Min_int_int.ok k, trivial⟩) (fun _ => trivial) trivial ⟨z3, trivial⟩ (fun k => ⟨fun d => by kernel_rfl, trivial⟩) (fun k d => by kernel_rfl) k
end listsched_lister_soon
namespace listsched_queue_Push_i4
def rs : Rt := .un
def al : List (Nat × List Nat) := [(11, [3]), (12, [4])]
def p : Pat := ⟨15, 5, [(0, (.pt 0)), (1, (.fn 1000000003 (.pr (.va (.int .i64)) .un)))], [(0, (.var (.pr (.sl 1) (.pr (.sl 2) .un)))), (1, (.arr (.int .i64) false)), (2, (.arr (.int .i64) false))]⟩
def fx : List Nat := [0, 2]
def xo : List (Nat × OP) := [(0, (.var (.pr (.sl 4) (.pr (.sl 2) .un)))), (2, (.arr (.int .i64) false)), (4, (.arr (.int .i64) true))]
def fg : Vm.Fg := ⟨124, p, fx, true, rs, xo, fun d => f d.1.2.1.1 d.2.2.1 d.2.2.2.1⟩
theorem ok (k : Nat) : FgOk Try.prog (fg) := gs (FgInfo.of Try.func124 (by kernel_rfl)) (pat := p) fx xo (by kernel_rfl) so al (fun _ => Γ) (fun _ => G) (fun _ => []) (fun k => (fg).F) (fun _ => trivial) (fun _ => trivial) trivial trivial (fun k => trivial) (fun k d => by kernel_rfl) k
end listsched_queue_Push_i4
namespace listsched_queue_Len
def rs : Rt := (.fl (.int .i64))
def p : Pat := ⟨8, 1, [(0, (.pt 0))], [(0, (.rv (.pr (.va (.sl (.int .i64))) (.pr (.va (.sl (.int .i64))) .un))))]⟩
def fx : List Nat := []
def xo : List (Nat × OP) := []
def fg : Vm.Fg := ⟨41, p, fx, false, rs, xo, fun d => f d.2.1.1 d.2.1.2.1⟩
theorem ok (k : Nat) : FgOk Try.prog (fg) := gs (FgInfo.of Try.func41 (by kernel_rfl)) (pat := p) fx xo (by kernel_rfl) so al (fun _ => Γ) (fun _ => G) (fun _ => []) (fun k => (fg).F) (fun _ => trivial) (fun _ => trivial) trivial trivial (fun k => trivial) (fun k d => by kernel_rfl) k
end listsched_queue_Len
namespace listsched_queue_Less
def rs : Rt := (.fl .bool)
def p : Pat := ⟨56, 1, [(0, (.pt 0)), (1, (.va (.int .i64))), (2, (.va (.int .i64)))], [(0, (.rv (.pr (.va (.sl (.int .i64))) (.pr (.va (.sl (.int .i64))) .un))))]⟩
def fx : List Nat := []
def xo : List (Nat × OP) := []
def fg : Vm.Fg := ⟨122, p, fx, false, rs, xo, fun d => f d.1.2.1 d.1.2.2.1 d.2.1.1 d.2.1.2.1⟩
theorem ok (k : Nat) : FgOk Try.prog (fg) := gs (FgInfo.of Try.func122 (by kernel_rfl)) (pat := p) fx xo (by kernel_rfl) so al (fun _ => Γ) (fun _ => G) (fun _ => []) (fun k => (fg).F) (fun _ => trivial) (fun _ => trivial) trivial trivial (fun k => trivial) (fun k d => by kernel_rfl) k
end listsched_queue_Less
namespace listsched_queue_Swap_i1
def rs : Rt := .un
def p : Pat := ⟨32, 2, [(0, (.pt 0)), (1, (.va (.int .i64))), (2, (.va (.int .i64)))], [(0, (.rv (.pr (.sl 1) (.pr (.va (.sl (.int .i64))) .un)))), (1, (.arr (.int .i64) true))]⟩
def fx : List Nat := [1]
def xo : List (Nat × OP) := [(1, (.arr (.int .i64) true))]
def fg : Vm.Fg := ⟨125, p, fx, true, rs, xo, fun d => f d.1.2.1 d.1.2.2.1 d.2.1.2.1 d.2.2.1⟩
theorem ok (k : Nat) : FgOk Try.prog (fg) := gs (FgInfo.of Try.func125 (by kernel_rfl)) (pat := p) fx xo (by kernel_rfl) so al (fun _ => Γ) (fun _ => G) (fun _ => []) (fun k => (fg).F) (fun _ => trivial) (fun _ => trivial) trivial trivial (fun k => trivial) (fun k d => by kernel_rfl) k
end listsched_queue_Swap_i1
namespace heap_up_i1
def rs : Rt := .un
def p : Pat := ⟨23, 2, [(0, (.fn 1000000078 (.pr (.pt 0) .un))), (1, (.va (.int .i64)))], [(0, (.rv (.pr (.sl 1) (.pr (.va (.sl (.int .i64))) .un)))), (1, (.arr (.int .i64) true))]⟩
def fx : List Nat := [1]
def xo : List (Nat × OP) := [(1, (.arr (.int .i64) true))]
def fg (k : Nat) : Vm.Fg := ⟨60, p, fx, true, rs, xo, fun d => f k d.1.2.1 d.2.1.2.1 d.2.2.1⟩
def G (k : Nat) : List Vm.Fg := [listsched_queue_Less.fg, listsched_queue_Swap_i1.fg]
def p0 : Pat := ⟨23, 2, [(0, (.fn 1000000078 (.pr (.pt 0) .un))), (1, (.va (.int .i64)))], [(1, (.arr (.int .i64) true)), (0, (.rv (.pr (.sl 1) (.pr (.va (.sl (.int .i64))) .un))))]⟩
def a0 (k : Nat) (d : p0.ty.D) : Option (rs.D × (objsTy xo).D) := c0 k d.1.2.1 d.2.1 d.2.2.1.2.1
def cuts (k : Nat) : List (Cut (rs.D × (objsTy xo).D)) := [⟨0, p0, a0 k⟩]
theorem z0 (d : p0.ty.D) : a0 0 d = none := by kernel_rfl
theorem ok (k : Nat) : FgOk Try.prog (fg k) := gs (FgInfo.of Try.func60 (by kernel_rfl)) (pat := p) fx xo (by kernel_rfl) so al (fun _ => Γ) (G) (cuts) (fun k => (fg k).F) (fun _ => trivial) (fun k => by exact ⟨listsched_queue_Less.ok k, listsched_queue_Swap_i1.ok k, trivial⟩) trivial ⟨z0, trivial⟩ (fun k => ⟨fun d => by kernel_rfl, trivial⟩) (fun k d => by kernel_rfl) k
end heap_up_i1
namespace heap_Push_i4
def rs : Rt := .un
def al : List (Nat × List Nat) := [(6, [3, 4])]
def p : Pat := ⟨12, 5, [(0, (.fn 1000000078 (.pr (.pt 0) .un))), (1, (.fn 1000000003 (.pr (.va (.int .i64)) .un)))], [(0, (.var (.pr (.sl 1) (.pr (.sl 2) .un)))), (1, (.arr (.int .i64) false)), (2, (.arr (.int .i64) false))]⟩
def fx : List Nat := [0, 2]
def xo : List (Nat × OP) := [(0, (.var (.pr (.sl 3) (.pr (.sl 2) .un)))), (2, (.arr (.int .i64) false)), (3, (.arr (.int .i64) true))]
def fg (k : Nat) : Vm.Fg := ⟨40, p, fx, true, rs, xo, fun d => f k d.1.2.1.1 d.2.2.1 d.2.2.2.1⟩
def G (k : Nat) : List Vm.Fg := [listsched_queue_Push_i4.fg, listsched_queue_Len.fg, heap_up_i1.fg k]
theorem ok (k : Nat) : FgOk Try.prog (fg k) := gs (FgInfo.of Try.func40 (by kernel_rfl)) (pat := p) fx xo (by kernel_rfl) so al (fun _ => Γ) (G) (fun _ => []) (fun k => (fg k).F) (fun _ => trivial) (fun k => by exact ⟨listsched_queue_Push_i4.ok k, listsched_queue_Len.ok k, heap_up_i1.ok k, trivial⟩) trivial trivial (fun k => trivial) (fun k d => by kernel_rfl) k
end heap_Push_i4
namespace listsched_queue_Swap_i2
def rs : Rt := .un
def p : Pat := ⟨32, 2, [(0, (.pt 0)), (1, (.va (.int .i64))), (2, (.va (.int .i64)))], [(0, (.rv (.pr (.sl 1) (.pr (.va (.sl (.int .i64))) .un)))), (1, (.arr (.int .i64) false))]⟩
def fx : List Nat := [1]
def xo : List (Nat × OP) := [(1, (.arr (.int .i64) false))]
def fg : Vm.Fg := ⟨125, p, fx, true, rs, xo, fun d => f d.1.2.1 d.1.2.2.1 d.2.1.2.1 d.2.2.1⟩
theorem ok (k : Nat) : FgOk Try.prog (fg) := gs (FgInfo.of Try.func125 (by kernel_rfl)) (pat := p) fx xo (by kernel_rfl) so al (fun _ => Γ) (fun _ => G) (fun _ => []) (fun k => (fg).F) (fun _ => trivial) (fun _ => trivial) trivial trivial (fun k => trivial) (fun k d => by kernel_rfl) k
end listsched_queue_Swap_i2
namespace heap_down_i1
def rs : Rt := (.fl .bool)
def p : Pat := ⟨48, 2, [(0, (.fn 1000000078 (.pr (.pt 0) .un))), (1, (.va (.int .i64))), (2, (.va (.int .i64)))], [(0, (.rv (.pr (.sl 1) (.pr (.va (.sl (.int .i64))) .un)))), (1, (.arr (.int .i64) false))]⟩
def fx : List Nat := [1]
def xo : List (Nat × OP) := [(1, (.arr (.int .i64) false))]
def fg (k : Nat) : Vm.Fg := ⟨61, p, fx, false, rs, xo, fun d => f k d.1.2.1 d.1.2.2.1 d.2.1.2.1 d.2.2.1⟩
def G (k : Nat) : List Vm.Fg := [listsched_queue_Less.fg, listsched_queue_Swap_i2.fg]
def p2 : Pat := ⟨48, 2, [(0, (.fn 1000000078 (.pr (.pt 0) .un))), (1, (.va (.int .i64))), (2, (.va (.int .i64))), (7, (.va (.int .i64)))], [(1, (.arr (.int .i64) false)), (0, (.rv (.pr (.sl 1) (.pr (.va (.sl (.int .i64))) .un))))]⟩
def p8 : Pat := ⟨48, 2, [(0, (.fn 1000000078 (.pr (.pt 0) .un))), (1, (.va (.int .i64))), (2, (.va (.int .i64))), (7, (.va (.int .i64))), (9, (.va (.int .i64)))], [(1, (.arr (.int .i64) false)), (0, (.rv (.pr (.sl 1) (.pr (.va (.sl (.int .i64))) .un))))]⟩
def a2 (k : Nat) (d : p2.ty.D) : Option (rs.D × (objsTy xo).D) := c2 k d.1.2.1 d.1.2.2.1 d.1.2.2.2.1 d.2.1 d.2.2.1.2.1
def a8 (k : Nat) (d : p8.ty.D) : Option (rs.D × (objsTy xo).D) := c8 k d.1.2.1 d.1.2.2.1 d.1.2.2.2.1 d.1.2.2.2.2.1 d.2.1 d.2.2.1.2.1
def cuts (k : Nat) : List (Cut (rs.D × (objsTy xo).D)) := [⟨2, p2, a2 k⟩, ⟨8, p8, a8 k⟩]
theorem z2 (d : p2.ty.D) : a2 0 d = none := by kernel_rfl
theorem z8 (d : p8.ty.D) : a8 0 d = none := by kernel_rfl
theorem ok (k : Nat) : FgOk Try.prog (fg k) := gs (FgInfo.of Try.func61 (by kernel_rfl)) (pat := p) fx xo (by kernel_rfl) so al (fun _ => Γ) (G) (cuts) (fun k => (fg k).F) (fun _ => trivial) (fun k => by exact ⟨listsched_queue_Less.ok k, listsched_queue_Swap_i2.ok k, trivial⟩) trivial ⟨z2, z8, trivial⟩ (fun k => ⟨fun d => by kernel_rfl, fun d => by kernel_rfl, trivial⟩) (fun k d => by kernel_rfl) k
end heap_down_i1
namespace listsched_queue_Pop_i3
def rs : Rt := (.fi 3 (.int .i64))
def al : List (Nat × List Nat) := [(27, [3])]
def p : Pat := ⟨32, 4, [(0, (.pt 0))], [(0, (.var (.pr (.sl 1) (.pr (.sl 2) .un)))), (1, (.arr (.int .i64) false)), (2, (.arr (.int .i64) false))]⟩
def fx : List Nat := [0, 2]
def xo : List (Nat × OP) := [(0, (.var (.pr (.sl 3) (.pr (.sl 2) .un)))), (2, (.arr (.int .i64) false)), (3, (.arr (.int .i64) false))]
def fg : Vm.Fg := ⟨123, p, fx, false, rs, xo, fun d => f d.2.2.1 d.2.2.2.1⟩
theorem ok (k : Nat) : FgOk Try.prog (fg) := gs (FgInfo.of Try.func123 (by kernel_rfl)) (pat := p) fx xo (by kernel_rfl) so al (fun _ => Γ) (fun _ => G) (fun _ => []) (fun k => (fg).F) (fun _ => trivial) (fun _ => trivial) trivial trivial (fun k => trivial) (fun k d => by kernel_rfl) k
end listsched_queue_Pop_i3
namespace heap_Pop_i3
def rs : Rt := (.fi 3 (.int .i64))
def al : List (Nat × List Nat) := [(14, [3, 4])]
def p : Pat := ⟨15, 5, [(0, (.fn 1000000078 (.pr (.pt 0) .un)))], [(0, (.var (.pr (.sl 1) (.pr (.sl 2) .un)))), (1, (.arr (.int .i64) false)), (2, (.arr (.int .i64) false))]⟩
def fx : List Nat := [0, 2]
def xo : List (Nat × OP) := [(0, (.var (.pr (.sl 3) (.pr (.sl 2) .un)))), (2, (.arr (.int .i64) false)), (3, (.arr (.int .i64) false))]
def fg (k : Nat) : Vm.Fg := ⟨42, p, fx, false, rs, xo, fun d => f k d.2.2.1 d.2.2.2.1⟩
def G (k : Nat) : List Vm.Fg := [listsched_queue_Len.fg, listsched_queue_Swap_i2.fg, heap_down_i1.fg k, listsched_queue_Pop_i3.fg]
theorem ok (k : Nat) : FgOk Try.prog (fg k) := gs (FgInfo.of Try.func42 (by kernel_rfl)) (pat := p) fx xo (by kernel_rfl) so al (fun _ => Γ) (G) (fun _ => []) (fun k => (fg k).F) (fun _ => trivial) (fun k => by exact ⟨listsched_queue_Len.ok k, listsched_queue_Swap_i2.ok k, heap_down_i1.ok k, listsched_queue_Pop_i3.ok k, trivial⟩) trivial trivial (fun k => trivial) (fun k d => by kernel_rfl) k
end heap_Pop_i3
namespace listsched_lister_unit_1
def rs : Rt := (.fl .bool)
def p : Pat := ⟨7, 1, [(0, (.va (.int .i64))), (1, (.pt 0))], [(0, (.rv (.va (.int .i64))))]⟩
def fx : List Nat := []
def xo : List (Nat × OP) := []
def fg : Vm.Fg := ⟨62, p, fx, false, rs, xo, fun d => f d.1.1 d.2.1⟩
theorem ok (k : Nat) : FgOk Try.prog (fg) := gs (FgInfo.of Try.func62 (by kernel_rfl)) (pat := p) fx xo (by kernel_rfl) so al (fun _ => Γ) (fun _ => G) (fun _ => []) (fun k => (fg).F) (fun _ => trivial) (fun _ => trivial) trivial trivial (fun k => trivial) (fun k d => by kernel_rfl) k
end listsched_lister_unit_1
namespace slices_IndexFunc_int_int_i2
def rs : Rt := (.fl (.int .i64))
def p : Pat := ⟨19, 1, [(0, (.va (.sl (.int .i64)))), (1, (.fn 62 (.pr (.pt 0) .un)))], [(0, (.rv (.va (.int .i64))))]⟩
def fx : List Nat := []
def xo : List (Nat × OP) := []
def fg (k : Nat) : Vm.Fg := ⟨37, p, fx, false, rs, xo, fun d => f k d.1.1 d.2.1⟩
def G (k : Nat) : List Vm.Fg := [listsched_lister_unit_1.fg]
def p2 : Pat := ⟨19, 1, [(0, (.va (.sl (.int .i64)))), (1, (.fn 62 (.pr (.pt 0) .un))), (7, (.va (.int .i64))), (8, (.va (.int .i64)))], [(0, (.rv (.va (.int .i64))))]⟩
def a2 (k : Nat) (d : p2.ty.D) : Option (rs.D × (objsTy xo).D) := c2 k d.1.1 d.1.2.2.1 d.1.2.2.2.1 d.2.1
def cuts (k : Nat) : List (Cut (rs.D × (objsTy xo).D)) := [⟨2, p2, a2 k⟩]
theorem z2 (d : p2.ty.D) : a2 0 d = none := by kernel_rfl
theorem ok (k : Nat) : FgOk Try.prog (fg k) := gs (FgInfo.of Try.func37 (by kernel_rfl)) (pat := p) fx xo (by kernel_rfl) so al (fun _ => Γ) (G) (cuts) (fun k => (fg k).F) (fun _ => trivial) (fun k => by exact ⟨listsched_lister_unit_1.ok k, trivial⟩) trivial ⟨z2, trivial⟩ (fun k => ⟨fun d => by kernel_rfl, trivial⟩) (fun k d => by kernel_rfl) k
end slices_IndexFunc_int_int_i2
namespace listsched_lister_unit
def rs : Rt := (.fl (.int .i64))
def al : List (Nat × List Nat) := [(5, [1])]
def p : Pat := ⟨16, 2, [(0, (.pt 0)), (1, (.va (.int .i64))), (2, (.va (.int .i64)))], [(0, (.rv (.pr (.va (Flow.T)) (.pr (.pr (.va (.int .i64)) (.pr (.va (.int .i64)) (.pr (.va (.sl (.int .i64))) (.pr (.va (.sl (.int .i64))) (.pr (.va (.sl (.int .i64))) .un))))) (.pr (.va (.sl (.int .i64))) (.pr (.va (.sl (.int .i64))) (.pr (.va (.sl (.sl (.int .i64)))) (.pr (.va (.sl (.sl (Arc.T)))) .un))))))))]⟩
def fx : List Nat := []
def xo : List (Nat × OP) := []
def fg (k : Nat) : Vm.Fg := ⟨43, p, fx, false, rs, xo, fun d => f k d.1.2.1 d.1.2.2.1 d.2.1.1 d.2.1.2.1.1 d.2.1.2.1.2.1 d.2.1.2.1.2.2.1 d.2.1.2.1.2.2.2.1 d.2.1.2.1.2.2.2.2.1 d.2.1.2.2.1 d.2.1.2.2.2.1 d.2.1.2.2.2.2.1 d.2.1.2.2.2.2.2.1⟩
def G (k : Nat) : List Vm.Fg := [slices_IndexFunc_int_int_i2.fg k]
theorem ok (k : Nat) : FgOk Try.prog (fg k) := gs (FgInfo.of Try.func43 (by kernel_rfl)) (pat := p) fx xo (by kernel_rfl) so al (fun _ => Γ) (G) (fun _ => []) (fun k => (fg k).F) (fun _ => trivial) (fun k => by exact ⟨slices_IndexFunc_int_int_i2.ok k, trivial⟩) trivial trivial (fun k => trivial) (fun k d => by kernel_rfl) k
end listsched_lister_unit
namespace listsched_lister_place_i3
def rs : Rt := .un
def al : List (Nat × List Nat) := [(7, [4])]
def p : Pat := ⟨59, 5, [(0, (.pt 0)), (1, (.va (.int .i64))), (2, (.va (.int .i64)))], [(0, (.rv (.pr (.va (Flow.T)) (.pr (.pr (.va (.int .i64)) (.pr (.va (.int .i64)) (.pr (.sl 1) (.pr (.va (.sl (.int .i64))) (.pr (.va (.sl (.int .i64))) .un))))) (.pr (.sl 2) (.pr (.sl 3) (.pr (.va (.sl (.sl (.int .i64)))) (.pr (.va (.sl (.sl (Arc.T)))) .un)))))))), (1, (.arr (.int .i64) true)), (2, (.arr (.int .i64) true)), (3, (.arr (.int .i64) true))]⟩
def fx : List Nat := [1, 2, 3]
def xo : List (Nat × OP) := [(1, (.arr (.int .i64) true)), (2, (.arr (.int .i64) true)), (3, (.arr (.int .i64) true))]
def fg (k : Nat) : Vm.Fg := ⟨44, p, fx, true, rs, xo, fun d => f k d.1.2.1 d.1.2.2.1 d.2.1.1 d.2.1.2.1.1 d.2.1.2.1.2.1 d.2.1.2.1.2.2.2.1 d.2.1.2.1.2.2.2.2.1 d.2.1.2.2.2.2.1 d.2.1.2.2.2.2.2.1 d.2.2.1 d.2.2.2.1 d.2.2.2.2.1⟩
def p2 : Pat := ⟨59, 5, [(0, (.pt 0)), (2, (.va (.int .i64))), (22, (.va (.sl (Arc.T)))), (23, (.va (.int .i64))), (24, (.va (.int .i64)))], [(1, (.arr (.int .i64) true)), (2, (.arr (.int .i64) true)), (3, (.arr (.int .i64) true)), (0, (.rv (.pr (.va (Flow.T)) (.pr (.pr (.va (.int .i64)) (.pr (.va (.int .i64)) (.pr (.sl 1) (.pr (.va (.sl (.int .i64))) (.pr (.va (.sl (.int .i64))) .un))))) (.pr (.sl 2) (.pr (.sl 3) (.pr (.va (.sl (.sl (.int .i64)))) (.pr (.va (.sl (.sl (Arc.T)))) .un))))))))]⟩
def a2 (k : Nat) (d : p2.ty.D) : Option (rs.D × (objsTy xo).D) := c2 k d.1.2.1 d.1.2.2.1 d.1.2.2.2.1 d.1.2.2.2.2.1 d.2.1 d.2.2.1 d.2.2.2.1 d.2.2.2.2.1.1 d.2.2.2.2.1.2.1.1 d.2.2.2.2.1.2.1.2.1 d.2.2.2.2.1.2.1.2.2.2.1 d.2.2.2.2.1.2.1.2.2.2.2.1 d.2.2.2.2.1.2.2.2.2.1 d.2.2.2.2.1.2.2.2.2.2.1
def cuts (k : Nat) : List (Cut (rs.D × (objsTy xo).D)) := [⟨2, p2, a2 k⟩]
theorem z2 (d : p2.ty.D) : a2 0 d = none := by kernel_rfl
theorem ok (k : Nat) : FgOk Try.prog (fg k) := gs (FgInfo.of Try.func44 (by kernel_rfl)) (pat := p) fx xo (by kernel_rfl) so al (fun _ => Γ) (fun _ => G) (cuts) (fun k => (fg k).F) (fun _ => trivial) (fun _ => trivial) trivial ⟨z2, trivial⟩ (fun k => ⟨fun d => by kernel_rfl, trivial⟩) (fun k d => by kernel_rfl) k
end listsched_lister_place_i3
namespace listsched_lister_run_i6
def rs : Rt := (.fl .bool)
def al : List (Nat × List Nat) := [(20, [7]), (46, [8]), (81, [9, 10]), (88, [11, 12]), (13, [13])]
def p : Pat := ⟨139, 15, [(0, (.pt 0)), (1, (.sl 1))], [(0, (.rv (.pr (.va (Flow.T)) (.pr (.pr (.va (.int .i64)) (.pr (.va (.int .i64)) (.pr (.sl 2) (.pr (.va (.sl (.int .i64))) (.pr (.sl 3) .un))))) (.pr (.sl 4) (.pr (.sl 5) (.pr (.sl 6) (.pr (.va (.sl (.sl (Arc.T)))) .un)))))))), (1, (.arr (.int .i64) false)), (2, (.arr (.int .i64) true)), (3, (.arr (.int .i64) false)), (4, (.arr (.int .i64) true)), (5, (.arr (.int .i64) true)), (6, (.arr (.sl (.int .i64)) false))]⟩
def fx : List Nat := [1, 2, 3, 4, 5, 6]
def xo : List (Nat × OP) := [(1, (.arr (.int .i64) false)), (2, (.arr (.int .i64) true)), (3, (.arr (.int .i64) false)), (4, (.arr (.int .i64) true)), (5, (.arr (.int .i64) true)), (6, (.arr (.sl (.int .i64)) false))]
def fg (k : Nat) : Vm.Fg := ⟨25, p, fx, false, rs, xo, fun d => f k d.2.1.1 d.2.1.2.1.1 d.2.1.2.1.2.1 d.2.1.2.1.2.2.2.1 d.2.1.2.2.2.2.2.1 d.2.2.1 d.2.2.2.1 d.2.2.2.2.1 d.2.2.2.2.2.1 d.2.2.2.2.2.2.1 d.2.2.2.2.2.2.2.1⟩
def G (k : Nat) : List Vm.Fg := [listsched_lister_soon.fg k, heap_Push_i4.fg k, listsched_queue_Len.fg, heap_Pop_i3.fg k, listsched_lister_unit.fg k, listsched_lister_place_i3.fg k]
def p3 : Pat := ⟨139, 15, [(0, (.pt 0)), (1, (.sl 1)), (5, (.sl 7)), (22, (.va (.int .i64))), (23, (.va (.int .i64)))], [(1, (.arr (.int .i64) false)), (2, (.arr (.int .i64) true)), (3, (.arr (.int .i64) false)), (4, (.arr (.int .i64) true)), (5, (.arr (.int .i64) true)), (6, (.arr (.sl (.int .i64)) false)), (0, (.rv (.pr (.va (Flow.T)) (.pr (.pr (.va (.int .i64)) (.pr (.va (.int .i64)) (.pr (.sl 2) (.pr (.va (.sl (.int .i64))) (.pr (.sl 3) .un))))) (.pr (.sl 4) (.pr (.sl 5) (.pr (.sl 6) (.pr (.va (.sl (.sl (Arc.T)))) .un)))))))), (7, (.arr .bool true))]⟩
def p9 : Pat := ⟨139, 15, [(0, (.pt 0)), (1, (.sl 1)), (5, (.sl 7)), (7, (.va (.int .i64))), (8, (.va (.int .i64)))], [(1, (.arr (.int .i64) false)), (2, (.arr (.int .i64) true)), (3, (.arr (.int .i64) false)), (4, (.arr (.int .i64) true)), (5, (.arr (.int .i64) true)), (6, (.arr (.sl (.int .i64)) false)), (0, (.rv (.pr (.va (Flow.T)) (.pr (.pr (.va (.int .i64)) (.pr (.va (.int .i64)) (.pr (.sl 2) (.pr (.va (.sl (.int .i64))) (.pr (.sl 3) .un))))) (.pr (.sl 4) (.pr (.sl 5) (.pr (.sl 6) (.pr (.va (.sl (.sl (Arc.T)))) .un)))))))), (7, (.arr .bool true))]⟩
def p14 : Pat := ⟨139, 15, [(0, (.pt 0)), (1, (.sl 1)), (5, (.sl 7)), (7, (.va (.int .i64))), (8, (.va (.int .i64))), (9, (.va .bool))], [(1, (.arr (.int .i64) false)), (2, (.arr (.int .i64) true)), (3, (.arr (.int .i64) false)), (4, (.arr (.int .i64) true)), (5, (.arr (.int .i64) true)), (6, (.arr (.sl (.int .i64)) false)), (0, (.rv (.pr (.va (Flow.T)) (.pr (.pr (.va (.int .i64)) (.pr (.va (.int .i64)) (.pr (.sl 2) (.pr (.va (.sl (.int .i64))) (.pr (.sl 3) .un))))) (.pr (.sl 4) (.pr (.sl 5) (.pr (.sl 6) (.pr (.va (.sl (.sl (Arc.T)))) .un)))))))), (7, (.arr .bool true))]⟩
def p18 : Pat := ⟨139, 15, [(0, (.pt 0)), (1, (.sl 1)), (5, (.sl 7)), (7, (.va (.int .i64))), (8, (.va (.int .i64))), (9, (.va .bool)), (10, (.pt 8)), (48, (.va (.int .i64))), (49, (.va (.int .i64)))], [(1, (.arr (.int .i64) false)), (2, (.arr (.int .i64) true)), (3, (.arr (.int .i64) false)), (4, (.arr (.int .i64) true)), (5, (.arr (.int .i64) true)), (6, (.arr (.sl (.int .i64)) false)), (0, (.rv (.pr (.va (Flow.T)) (.pr (.pr (.va (.int .i64)) (.pr (.va (.int .i64)) (.pr (.sl 2) (.pr (.va (.sl (.int .i64))) (.pr (.sl 3) .un))))) (.pr (.sl 4) (.pr (.sl 5) (.pr (.sl 6) (.pr (.va (.sl (.sl (Arc.T)))) .un)))))))), (7, (.arr .bool true)), (8, (.var (.pr (.sl 14) (.pr (.sl 1) .un)))), (14, (.arr (.int .i64) false))]⟩
def p23 : Pat := ⟨139, 15, [(0, (.pt 0)), (1, (.sl 1)), (5, (.sl 7)), (7, (.va (.int .i64))), (8, (.va (.int .i64))), (9, (.va .bool)), (10, (.pt 8))], [(1, (.arr (.int .i64) false)), (2, (.arr (.int .i64) true)), (3, (.arr (.int .i64) false)), (4, (.arr (.int .i64) true)), (5, (.arr (.int .i64) true)), (6, (.arr (.sl (.int .i64)) false)), (0, (.rv (.pr (.va (Flow.T)) (.pr (.pr (.va (.int .i64)) (.pr (.va (.int .i64)) (.pr (.sl 2) (.pr (.va (.sl (.int .i64))) (.pr (.sl 3) .un))))) (.pr (.sl 4) (.pr (.sl 5) (.pr (.sl 6) (.pr (.va (.sl (.sl (Arc.T)))) .un)))))))), (7, (.arr .bool true)), (8, (.var (.pr (.sl 14) (.pr (.sl 1) .un)))), (14, (.arr (.int .i64) false))]⟩
def p31 : Pat := ⟨139, 15, [(0, (.pt 0)), (1, (.sl 1)), (5, (.sl 7)), (7, (.va (.int .i64))), (8, (.va (.int .i64))), (10, (.pt 8)), (12, (.va (.int .i64)))], [(1, (.arr (.int .i64) false)), (2, (.arr (.int .i64) true)), (3, (.arr (.int .i64) false)), (4, (.arr (.int .i64) true)), (5, (.arr (.int .i64) true)), (6, (.arr (.sl (.int .i64)) false)), (0, (.rv (.pr (.va (Flow.T)) (.pr (.pr (.va (.int .i64)) (.pr (.va (.int .i64)) (.pr (.sl 2) (.pr (.va (.sl (.int .i64))) (.pr (.sl 3) .un))))) (.pr (.sl 4) (.pr (.sl 5) (.pr (.sl 6) (.pr (.va (.sl (.sl (Arc.T)))) .un)))))))), (7, (.arr .bool true)), (8, (.var (.pr (.sl 11) (.pr (.sl 1) .un)))), (11, (.arr (.int .i64) false))]⟩
def a3 (k : Nat) (d : p3.ty.D) : Option (rs.D × (objsTy xo).D) := c3 k d.1.2.2.2.1 d.1.2.2.2.2.1 d.2.1 d.2.2.1 d.2.2.2.1 d.2.2.2.2.1 d.2.2.2.2.2.1 d.2.2.2.2.2.2.1 d.2.2.2.2.2.2.2.1.1 d.2.2.2.2.2.2.2.1.2.1.1 d.2.2.2.2.2.2.2.1.2.1.2.1 d.2.2.2.2.2.2.2.1.2.1.2.2.2.1 d.2.2.2.2.2.2.2.1.2.2.2.2.2.1 d.2.2.2.2.2.2.2.2.1
def a9 (k : Nat) (d : p9.ty.D) : Option (rs.D × (objsTy xo).D) := c9 k d.1.2.2.2.1 d.1.2.2.2.2.1 d.2.1 d.2.2.1 d.2.2.2.1 d.2.2.2.2.1 d.2.2.2.2.2.1 d.2.2.2.2.2.2.1 d.2.2.2.2.2.2.2.1.1 d.2.2.2.2.2.2.2.1.2.1.1 d.2.2.2.2.2.2.2.1.2.1.2.1 d.2.2.2.2.2.2.2.1.2.1.2.2.2.1 d.2.2.2.2.2.2.2.1.2.2.2.2.2.1 d.2.2.2.2.2.2.2.2.1
def a14 (k : Nat) (d : p14.ty.D) : Option (rs.D × (objsTy xo).D) := c14 k d.1.2.2.2.1 d.1.2.2.2.2.1 d.1.2.2.2.2.2.1 d.2.1 d.2.2.1 d.2.2.2.1 d.2.2.2.2.1 d.2.2.2.2.2.1 d.2.2.2.2.2.2.1 d.2.2.2.2.2.2.2.1.1 d.2.2.2.2.2.2.2.1.2.1.1 d.2.2.2.2.2.2.2.1.2.1.2.1 d.2.2.2.2.2.2.2.1.2.1.2.2.2.1 d.2.2.2.2.2.2.2.1.2.2.2.2.2.1 d.2.2.2.2.2.2.2.2.1
def a18 (k : Nat) (d : p18.ty.D) : Option (rs.D × (objsTy xo).D) := c18 k d.1.2.2.2.1 d.1.2.2.2.2.1 d.1.2.2.2.2.2.1 d.1.2.2.2.2.2.2.2.1 d.1.2.2.2.2.2.2.2.2.1 d.2.1 d.2.2.1 d.2.2.2.1 d.2.2.2.2.1 d.2.2.2.2.2.1 d.2.2.2.2.2.2.1 d.2.2.2.2.2.2.2.1.1 d.2.2.2.2.2.2.2.1.2.1.1 d.2.2.2.2.2.2.2.1.2.1.2.1 d.2.2.2.2.2.2.2.1.2.1.2.2.2.1 d.2.2.2.2.2.2.2.1.2.2.2.2.2.1 d.2.2.2.2.2.2.2.2.1 d.2.2.2.2.2.2.2.2.2.2.1
def a23 (k : Nat) (d : p23.ty.D) : Option (rs.D × (objsTy xo).D) := c23 k d.1.2.2.2.1 d.1.2.2.2.2.1 d.1.2.2.2.2.2.1 d.2.1 d.2.2.1 d.2.2.2.1 d.2.2.2.2.1 d.2.2.2.2.2.1 d.2.2.2.2.2.2.1 d.2.2.2.2.2.2.2.1.1 d.2.2.2.2.2.2.2.1.2.1.1 d.2.2.2.2.2.2.2.1.2.1.2.1 d.2.2.2.2.2.2.2.1.2.1.2.2.2.1 d.2.2.2.2.2.2.2.1.2.2.2.2.2.1 d.2.2.2.2.2.2.2.2.1 d.2.2.2.2.2.2.2.2.2.2.1
def a31 (k : Nat) (d : p31.ty.D) : Option (rs.D × (objsTy xo).D) := c31 k d.1.2.2.2.1 d.1.2.2.2.2.1 d.1.2.2.2.2.2.2.1 d.2.1 d.2.2.1 d.2.2.2.1 d.2.2.2.2.1 d.2.2.2.2.2.1 d.2.2.2.2.2.2.1 d.2.2.2.2.2.2.2.1.1 d.2.2.2.2.2.2.2.1.2.1.1 d.2.2.2.2.2.2.2.1.2.1.2.1 d.2.2.2.2.2.2.2.1.2.1.2.2.2.1 d.2.2.2.2.2.2.2.1.2.2.2.2.2.1 d.2.2.2.2.2.2.2.2.1 d.2.2.2.2.2.2.2.2.2.2.1
def cuts (k : Nat) : List (Cut (rs.D × (objsTy xo).D)) := [⟨3, p3, a3 k⟩, ⟨9, p9, a9 k⟩, ⟨14, p14, a14 k⟩, ⟨18, p18, a18 k⟩, ⟨23, p23, a23 k⟩, ⟨31, p31, a31 k⟩]
theorem z3 (d : p3.ty.D) : a3 0 d = none := by kernel_rfl
theorem z9 (d : p9.ty.D) : a9 0 d = none := by kernel_rfl
theorem z14 (d : p14.ty.D) : a14 0 d = none := by kernel_rfl
theorem z18 (d : p18.ty.D) : a18 0 d = none := by kernel_rfl
theorem z23 (d : p23.ty.D) : a23 0 d = none := by kernel_rfl
theorem z31 (d : p31.ty.D) : a31 0 d = none := by kernel_rfl
theorem ok (k : Nat) : FgOk Try.prog (fg k) := gs (FgInfo.of Try.func25 (by kernel_rfl)) (pat := p) fx xo (by kernel_rfl) so al (fun _ => Γ) (G) (cuts) (fun k => (fg k).F) (fun _ => trivial) (fun k => by exact ⟨listsched_lister_soon.ok k, heap_Push_i4.ok k, listsched_queue_Len.ok k, heap_Pop_i3.ok k, listsched_lister_unit.ok k, listsched_lister_place_i3.ok k, trivial⟩) trivial ⟨z3, z9, z14, z18, z23, z31, trivial⟩ (fun k => ⟨fun d => by kernel_rfl, fun d => by kernel_rfl, fun d => by kernel_rfl, fun d => by kernel_rfl, fun d => by kernel_rfl, fun d => by kernel_rfl, trivial⟩) (fun k d => by kernel_rfl) k
end listsched_lister_run_i6
namespace listsched_Schedule
def rs : Rt := (.pr (.pr (.fl (.int .i64)) (.pr (.fl (.int .i64)) (.pr (.os (.int .i64)) (.pr (.os (.int .i64)) (.pr (.os (.int .i64)) .un))))) (.pr (.fl (.int .i64)) .un))
def al : List (Nat × List Nat) := [(1, [0]), (2, [1]), (32, [2, 3]), (56, [4]), (58, [5]), (60, [6]), (62, [7]), (66, [8]), (69, [9]), (70, [10]), (73, [11]), (78, [12]), (9, [13]), (11, [14]), (106, [15]), (107, [25, 26]), (150, [17]), (151, [18]), (156, [19, 20]), (15, [21]), (176, [22]), (177, [23]), (178, [24])]
def ps : Ty := (.pr (Flow.T) .un)
def fn (k : Nat) : Vm.Fn := ⟨11, ps, true, rs, fun d => f k d.1⟩
def Γ (k : Nat) : List Vm.Fn := [dataflow_Valid.fn k, dataflow_Nodes.fn, diffcons_Earliest.fn k, listsched_tangled.fn k, slices_Repeat_int_int.fn k, dataflow_Source.fn, dataflow_End.fn]
def G (k : Nat) : List Vm.Fg := [slices_ContainsFunc_int_int_i1.fg k, listsched_lister_run_i6.fg k]
def p14 : Pat := ⟨213, 28, [(1, (.pt 0)), (2, (.pt 1)), (4, (.va (.int .i64))), (7, (.pt 7)), (8, (.sl 12)), (9, (.sl 13)), (80, (.va (.sl (Arc.T)))), (81, (.va (.int .i64))), (82, (.va (.int .i64)))], [(0, (.var (.va (Flow.T)))), (1, (.var (.pr (.va (.int .i64)) (.pr (.va (.int .i64)) (.pr .nl (.pr .nl (.pr .nl .un))))))), (7, (.var (.pr (.va (Flow.T)) (.pr (.pr (.va (.int .i64)) (.pr (.va (.int .i64)) (.pr (.sl 8) (.pr (.sl 9) (.pr (.sl 11) .un))))) (.pr (.sl 5) (.pr (.sl 4) (.pr .nl (.pr (.sl 6) .un)))))))), (12, (.arr (.int .i64) true)), (13, (.arr (Arc.T) false)), (8, (.arr (.int .i64) true)), (9, (.arr (.int .i64) true)), (11, (.arr (.int .i64) false)), (5, (.arr (.int .i64) true)), (4, (.arr (.int .i64) true)), (6, (.arr (.sl (Arc.T)) true))]⟩
def p21 : Pat := ⟨213, 28, [(1, (.pt 0)), (2, (.pt 1)), (4, (.va (.int .i64))), (7, (.pt 7)), (8, (.sl 12)), (9, (.sl 13)), (11, (.pt 14)), (80, (.va (.sl (Arc.T)))), (81, (.va (.int .i64))), (82, (.va (.int .i64)))], [(0, (.var (.va (Flow.T)))), (1, (.var (.pr (.va (.int .i64)) (.pr (.va (.int .i64)) (.pr .nl (.pr .nl (.pr .nl .un))))))), (7, (.var (.pr (.va (Flow.T)) (.pr (.pr (.va (.int .i64)) (.pr (.va (.int .i64)) (.pr (.sl 8) (.pr (.sl 9) (.pr (.sl 11) .un))))) (.pr (.sl 5) (.pr (.sl 4) (.pr .nl (.pr (.sl 6) .un)))))))), (12, (.arr (.int .i64) true)), (13, (.arr (Arc.T) false)), (14, (.var (.va (Arc.T)))), (8, (.arr (.int .i64) true)), (9, (.arr (.int .i64) true)), (11, (.arr (.int .i64) false)), (5, (.arr (.int .i64) true)), (4, (.arr (.int .i64) true)), (6, (.arr (.sl (Arc.T)) true))]⟩
def p26 : Pat := ⟨213, 28, [(1, (.pt 0)), (2, (.pt 1)), (7, (.pt 7)), (8, (.sl 12))], [(0, (.var (.va (Flow.T)))), (1, (.var (.pr (.va (.int .i64)) (.pr (.va (.int .i64)) (.pr .nl (.pr .nl (.pr .nl .un))))))), (7, (.var (.pr (.va (Flow.T)) (.pr (.pr (.va (.int .i64)) (.pr (.va (.int .i64)) (.pr (.sl 8) (.pr (.sl 9) (.pr (.sl 11) .un))))) (.pr (.sl 5) (.pr (.sl 4) (.pr .nl (.pr (.sl 6) .un)))))))), (12, (.arr (.int .i64) false)), (8, (.arr (.int .i64) true)), (9, (.arr (.int .i64) true)), (11, (.arr (.int .i64) false)), (5, (.arr (.int .i64) true)), (4, (.arr (.int .i64) true)), (6, (.arr (.sl (Arc.T)) true))]⟩
def p27 : Pat := ⟨213, 28, [(1, (.pt 0)), (2, (.pt 1)), (7, (.pt 7)), (8, (.sl 12)), (163, (.va (.sl (Resource.T)))), (164, (.va (.int .i64))), (165, (.va (.int .i64)))], [(0, (.var (.va (Flow.T)))), (1, (.var (.pr (.va (.int .i64)) (.pr (.va (.int .i64)) (.pr .nl (.pr .nl (.pr .nl .un))))))), (7, (.var (.pr (.va (Flow.T)) (.pr (.pr (.va (.int .i64)) (.pr (.va (.int .i64)) (.pr (.sl 8) (.pr (.sl 9) (.pr (.sl 11) .un))))) (.pr (.sl 5) (.pr (.sl 4) (.pr (.sl 27) (.pr (.sl 6) .un)))))))), (12, (.arr (.int .i64) false)), (8, (.arr (.int .i64) true)), (9, (.arr (.int .i64) true)), (11, (.arr (.int .i64) false)), (5, (.arr (.int .i64) true)), (4, (.arr (.int .i64) true)), (6, (.arr (.sl (Arc.T)) true)), (27, (.arr (.sl (.int .i64)) false))]⟩
def a14 (k : Nat) (d : p14.ty.D) : Option rs.D := c14 k d.1.2.2.1 d.1.2.2.2.2.2.2.1 d.1.2.2.2.2.2.2.2.1 d.1.2.2.2.2.2.2.2.2.1 d.2.1 d.2.2.1.1 d.2.2.1.2.1 d.2.2.2.1.1 d.2.2.2.1.2.1.1 d.2.2.2.1.2.1.2.1 d.2.2.2.2.1 d.2.2.2.2.2.1 d.2.2.2.2.2.2.1 d.2.2.2.2.2.2.2.1 d.2.2.2.2.2.2.2.2.1 d.2.2.2.2.2.2.2.2.2.1 d.2.2.2.2.2.2.2.2.2.2.1 d.2.2.2.2.2.2.2.2.2.2.2.1
def a21 (k : Nat) (d : p21.ty.D) : Option rs.D := c21 k d.1.2.2.1 d.1.2.2.2.2.2.2.2.1 d.1.2.2.2.2.2.2.2.2.1 d.1.2.2.2.2.2.2.2.2.2.1 d.2.1 d.2.2.1.1 d.2.2.1.2.1 d.2.2.2.1.1 d.2.2.2.1.2.1.1 d.2.2.2.1.2.1.2.1 d.2.2.2.2.1 d.2.2.2.2.2.1 d.2.2.2.2.2.2.1 d.2.2.2.2.2.2.2.1 d.2.2.2.2.2.2.2.2.1 d.2.2.2.2.2.2.2.2.2.1 d.2.2.2.2.2.2.2.2.2.2.1 d.2.2.2.2.2.2.2.2.2.2.2.1 d.2.2.2.2.2.2.2.2.2.2.2.2.1
def a26 (k : Nat) (d : p26.ty.D) : Option rs.D := c26 k d.2.1 d.2.2.1.1 d.2.2.1.2.1 d.2.2.2.1.1 d.2.2.2.1.2.1.1 d.2.2.2.1.2.1.2.1 d.2.2.2.2.1 d.2.2.2.2.2.1 d.2.2.2.2.2.2.1 d.2.2.2.2.2.2.2.1 d.2.2.2.2.2.2.2.2.1 d.2.2.2.2.2.2.2.2.2.1 d.2.2.2.2.2.2.2.2.2.2.1
def a27 (k : Nat) (d : p27.ty.D) : Option rs.D := c27 k d.1.2.2.2.2.1 d.1.2.2.2.2.2.1 d.1.2.2.2.2.2.2.1 d.2.1 d.2.2.1.1 d.2.2.1.2.1 d.2.2.2.1.1 d.2.2.2.1.2.1.1 d.2.2.2.1.2.1.2.1 d.2.2.2.2.1 d.2.2.2.2.2.1 d.2.2.2.2.2.2.1 d.2.2.2.2.2.2.2.1 d.2.2.2.2.2.2.2.2.1 d.2.2.2.2.2.2.2.2.2.1 d.2.2.2.2.2.2.2.2.2.2.1 d.2.2.2.2.2.2.2.2.2.2.2.1
def cuts (k : Nat) : List (Cut rs.D) := [⟨14, p14, a14 k⟩, ⟨21, p21, a21 k⟩, ⟨26, p26, a26 k⟩, ⟨27, p27, a27 k⟩]
theorem z14 (d : p14.ty.D) : a14 0 d = none := by kernel_rfl
theorem z21 (d : p21.ty.D) : a21 0 d = none := by kernel_rfl
theorem z26 (d : p26.ty.D) : a26 0 d = none := by kernel_rfl
theorem z27 (d : p27.ty.D) : a27 0 d = none := by kernel_rfl
theorem ok (k : Nat) : FnOk Try.prog (fn k) := fs (n := 213) (FnInfo.of Try.func11 (by kernel_rfl)) 28 so al (Γ) (G) (cuts) (fun k => (fn k).F) (fun k => by exact ⟨dataflow_Valid.ok k, dataflow_Nodes.ok k, diffcons_Earliest.ok k, listsched_tangled.ok k, slices_Repeat_int_int.ok k, dataflow_Source.ok k, dataflow_End.ok k, trivial⟩) (fun k => by exact ⟨slices_ContainsFunc_int_int_i1.ok k, listsched_lister_run_i6.ok k, trivial⟩) trivial ⟨z14, z21, z26, z27, trivial⟩ (fun k => ⟨fun d => by kernel_rfl, fun d => by kernel_rfl, fun d => by kernel_rfl, fun d => by kernel_rfl, trivial⟩) (fun k d => by kernel_rfl) k
end listsched_Schedule
namespace jacquardlaw32_awake
def rs : Rt := (.fl .bool)
def al : List (Nat × List Nat) := [(4, [0, 1, 2]), (5, [3, 4, 5]), (1, [6])]
def ps : Ty := .un
def fn (k : Nat) : Vm.Fn := ⟨6, ps, false, rs, fun d => f k ⟩
def Γ (k : Nat) : List Vm.Fn := [jacquardlaw32_triple.fn k, listsched_Schedule.fn k]
theorem ok (k : Nat) : FnOk Try.prog (fn k) := fs (n := 21) (FnInfo.of Try.func6 (by kernel_rfl)) 7 so al (Γ) (fun _ => G) (fun _ => []) (fun k => (fn k).F) (fun k => by exact ⟨jacquardlaw32_triple.ok k, listsched_Schedule.ok k, trivial⟩) (fun _ => trivial) trivial trivial (fun k => trivial) (fun k d => by kernel_rfl) k
end jacquardlaw32_awake
namespace listsched_between
def rs : Rt := (.fl .bool)
def ps : Ty := (.pr (.int .i64) (.pr (.int .i64) (.pr (.int .i64) .un)))
def fn : Vm.Fn := ⟨45, ps, false, rs, fun d => f d.1 d.2.1 d.2.2.1⟩
theorem ok (k : Nat) : FnOk Try.prog (fn) := fs (n := 15) (FnInfo.of Try.func45 (by kernel_rfl)) 0 so al (fun _ => Γ) (fun _ => G) (fun _ => []) (fun k => (fn).F) (fun _ => trivial) (fun _ => trivial) trivial trivial (fun k => trivial) (fun k d => by kernel_rfl) k
end listsched_between
namespace slices_Clone_int_int
def rs : Rt := (.os (.int .i64))
def al : List (Nat × List Nat) := [(2, [0]), (5, [1]), (7, [2])]
def ps : Ty := (.pr (.sl (.int .i64)) .un)
def fn : Vm.Fn := ⟨29, ps, false, rs, fun d => f d.1⟩
theorem ok (k : Nat) : FnOk Try.prog (fn) := fs (n := 8) (FnInfo.of Try.func29 (by kernel_rfl)) 3 so al (fun _ => Γ) (fun _ => G) (fun _ => []) (fun k => (fn).F) (fun _ => trivial) (fun _ => trivial) trivial trivial (fun k => trivial) (fun k d => by kernel_rfl) k
end slices_Clone_int_int
namespace listsched_fits
def rs : Rt := (.fl .bool)
def al : List (Nat × List Nat) := [(2, [0]), (3, [1]), (54, [2]), (57, [3])]
def ps : Ty := (.pr (Flow.T) (.pr (Sched.T) .un))
def fn (k : Nat) : Vm.Fn := ⟨27, ps, false, rs, fun d => f k d.1 d.2.1⟩
def Γ (k : Nat) : List Vm.Fn := [listsched_between.fn, slices_Clone_int_int.fn]
def p4 : Pat := ⟨104, 4, [(2, (.pt 0)), (3, (.pt 1)), (57, (.sl 3)), (58, (.va (.int .i64))), (59, (.va (.int .i64)))], [(0, (.var (.va (Flow.T)))), (1, (.var (.va (Sched.T)))), (3, (.arr (.int .i64) false))]⟩
def p10 : Pat := ⟨104, 4, [(2, (.pt 0)), (68, (.va (.sl (.int .i64)))), (69, (.va (.int .i64))), (70, (.va (.int .i64)))], [(0, (.var (.va (Flow.T))))]⟩
def a4 (k : Nat) (d : p4.ty.D) : Option rs.D := c4 k d.1.2.2.2.1 d.1.2.2.2.2.1 d.2.1 d.2.2.1 d.2.2.2.1
def a10 (k : Nat) (d : p10.ty.D) : Option rs.D := c10 k d.1.2.1 d.1.2.2.1 d.1.2.2.2.1 d.2.1
def cuts (k : Nat) : List (Cut rs.D) := [⟨4, p4, a4 k⟩, ⟨10, p10, a10 k⟩]
theorem z4 (d : p4.ty.D) : a4 0 d = none := by kernel_rfl
theorem z10 (d : p10.ty.D) : a10 0 d = none := by kernel_rfl
theorem ok (k : Nat) : FnOk Try.prog (fn k) := fs (n := 104) (FnInfo.of Try.func27 (by kernel_rfl)) 4 so al (Γ) (fun _ => G) (cuts) (fun k => (fn k).F) (fun k => by exact ⟨listsched_between.ok k, slices_Clone_int_int.ok k, trivial⟩) (fun _ => trivial) trivial ⟨z4, z10, trivial⟩ (fun k => ⟨fun d => by kernel_rfl, fun d => by kernel_rfl, trivial⟩) (fun k d => by kernel_rfl) k
end listsched_fits
namespace listsched_legal_1
def rs : Rt := (.fl .bool)
def p : Pat := ⟨5, 0, [(0, (.va (.int .i64)))], []⟩
def fx : List Nat := []
def xo : List (Nat × OP) := []
def fg : Vm.Fg := ⟨46, p, fx, false, rs, xo, fun d => f d.1.1⟩
theorem ok (k : Nat) : FgOk Try.prog (fg) := gs (FgInfo.of Try.func46 (by kernel_rfl)) (pat := p) fx xo (by kernel_rfl) so al (fun _ => Γ) (fun _ => G) (fun _ => []) (fun k => (fg).F) (fun _ => trivial) (fun _ => trivial) trivial trivial (fun k => trivial) (fun k d => by kernel_rfl) k
end listsched_legal_1
namespace slices_IndexFunc_int_int_i3
def rs : Rt := (.fl (.int .i64))
def p : Pat := ⟨19, 0, [(0, (.va (.sl (.int .i64)))), (1, (.fn 46 .un))], []⟩
def fx : List Nat := []
def xo : List (Nat × OP) := []
def fg (k : Nat) : Vm.Fg := ⟨37, p, fx, false, rs, xo, fun d => f k d.1.1⟩
def G (k : Nat) : List Vm.Fg := [listsched_legal_1.fg]
def p2 : Pat := ⟨19, 0, [(0, (.va (.sl (.int .i64)))), (1, (.fn 46 .un)), (7, (.va (.int .i64))), (8, (.va (.int .i64)))], []⟩
def a2 (k : Nat) (d : p2.ty.D) : Option (rs.D × (objsTy xo).D) := c2 k d.1.1 d.1.2.2.1 d.1.2.2.2.1
def cuts (k : Nat) : List (Cut (rs.D × (objsTy xo).D)) := [⟨2, p2, a2 k⟩]
theorem z2 (d : p2.ty.D) : a2 0 d = none := by kernel_rfl
theorem ok (k : Nat) : FgOk Try.prog (fg k) := gs (FgInfo.of Try.func37 (by kernel_rfl)) (pat := p) fx xo (by kernel_rfl) so al (fun _ => Γ) (G) (cuts) (fun k => (fg k).F) (fun _ => trivial) (fun k => by exact ⟨listsched_legal_1.ok k, trivial⟩) trivial ⟨z2, trivial⟩ (fun k => ⟨fun d => by kernel_rfl, trivial⟩) (fun k d => by kernel_rfl) k
end slices_IndexFunc_int_int_i3
namespace slices_ContainsFunc_int_int_i2
def rs : Rt := (.fl .bool)
def p : Pat := ⟨9, 0, [(0, (.va (.sl (.int .i64)))), (1, (.fn 46 .un))], []⟩
def fx : List Nat := []
def xo : List (Nat × OP) := []
def fg (k : Nat) : Vm.Fg := ⟨21, p, fx, false, rs, xo, fun d => f k d.1.1⟩
def G (k : Nat) : List Vm.Fg := [slices_IndexFunc_int_int_i3.fg k]
theorem ok (k : Nat) : FgOk Try.prog (fg k) := gs (FgInfo.of Try.func21 (by kernel_rfl)) (pat := p) fx xo (by kernel_rfl) so al (fun _ => Γ) (G) (fun _ => []) (fun k => (fg k).F) (fun _ => trivial) (fun k => by exact ⟨slices_IndexFunc_int_int_i3.ok k, trivial⟩) trivial trivial (fun k => trivial) (fun k d => by kernel_rfl) k
end slices_ContainsFunc_int_int_i2
namespace listsched_at
def rs : Rt := (.fl (.int .i64))
def al : List (Nat × List Nat) := [(3, [0]), (4, [1])]
def ps : Ty := (.pr (Flow.T) (.pr (Sched.T) (.pr (.int .i64) .un)))
def fn : Vm.Fn := ⟨47, ps, false, rs, fun d => f d.1 d.2.1 d.2.2.1⟩
def Γ : List Vm.Fn := [dataflow_Source.fn, dataflow_End.fn]
theorem ok (k : Nat) : FnOk Try.prog (fn) := fs (n := 37) (FnInfo.of Try.func47 (by kernel_rfl)) 2 so al (fun _ => Γ) (fun _ => G) (fun _ => []) (fun k => (fn).F) (fun k => by exact ⟨dataflow_Source.ok k, dataflow_End.ok k, trivial⟩) (fun _ => trivial) trivial trivial (fun k => trivial) (fun k d => by kernel_rfl) k
end listsched_at
namespace listsched_clashes
def rs : Rt := (.fl .bool)
def al : List (Nat × List Nat) := [(3, [0]), (4, [1]), (7, [2]), (9, [3])]
def ps : Ty := (.pr (Flow.T) (.pr (Sched.T) (.pr (.int .i64) .un)))
def fn (k : Nat) : Vm.Fn := ⟨31, ps, false, rs, fun d => f k d.1 d.2.1 d.2.2.1⟩
def p5 : Pat := ⟨82, 4, [(2, (.va (.int .i64))), (4, (.pt 1)), (7, (.pt 2)), (19, (.va (.sl (Need.T)))), (20, (.va (.int .i64))), (21, (.va (.int .i64)))], [(1, (.var (.va (Sched.T)))), (2, (.var (.va (Need.T))))]⟩
def a5 (k : Nat) (d : p5.ty.D) : Option rs.D := c5 k d.1.1 d.1.2.2.2.1 d.1.2.2.2.2.1 d.1.2.2.2.2.2.1 d.2.1 d.2.2.1
def cuts (k : Nat) : List (Cut rs.D) := [⟨5, p5, a5 k⟩]
theorem z5 (d : p5.ty.D) : a5 0 d = none := by kernel_rfl
theorem ok (k : Nat) : FnOk Try.prog (fn k) := fs (n := 82) (FnInfo.of Try.func31 (by kernel_rfl)) 4 so al (fun _ => Γ) (fun _ => G) (cuts) (fun k => (fn k).F) (fun _ => trivial) (fun _ => trivial) trivial ⟨z5, trivial⟩ (fun k => ⟨fun d => by kernel_rfl, trivial⟩) (fun k d => by kernel_rfl) k
end listsched_clashes
namespace listsched_legal
def rs : Rt := (.fl .bool)
def al : List (Nat × List Nat) := [(2, [0]), (3, [1]), (6, [2])]
def ps : Ty := (.pr (Flow.T) (.pr (Sched.T) .un))
def fn (k : Nat) : Vm.Fn := ⟨28, ps, false, rs, fun d => f k d.1 d.2.1⟩
def Γ (k : Nat) : List Vm.Fn := [listsched_at.fn, listsched_clashes.fn k]
def G (k : Nat) : List Vm.Fg := [slices_ContainsFunc_int_int_i2.fg k]
def p4 : Pat := ⟨44, 3, [(2, (.pt 0)), (3, (.pt 1)), (12, (.va (.sl (Arc.T)))), (13, (.va (.int .i64))), (14, (.va (.int .i64)))], [(0, (.var (.va (Flow.T)))), (1, (.var (.va (Sched.T))))]⟩
def p10 : Pat := ⟨44, 3, [(2, (.pt 0)), (3, (.pt 1)), (35, (.va (.int .i64))), (36, (.va (.int .i64)))], [(0, (.var (.va (Flow.T)))), (1, (.var (.va (Sched.T))))]⟩
def a4 (k : Nat) (d : p4.ty.D) : Option rs.D := c4 k d.1.2.2.1 d.1.2.2.2.1 d.1.2.2.2.2.1 d.2.1 d.2.2.1
def a10 (k : Nat) (d : p10.ty.D) : Option rs.D := c10 k d.1.2.2.1 d.1.2.2.2.1 d.2.1 d.2.2.1
def cuts (k : Nat) : List (Cut rs.D) := [⟨4, p4, a4 k⟩, ⟨10, p10, a10 k⟩]
theorem z4 (d : p4.ty.D) : a4 0 d = none := by kernel_rfl
theorem z10 (d : p10.ty.D) : a10 0 d = none := by kernel_rfl
theorem ok (k : Nat) : FnOk Try.prog (fn k) := fs (n := 44) (FnInfo.of Try.func28 (by kernel_rfl)) 3 so al (Γ) (G) (cuts) (fun k => (fn k).F) (fun k => by exact ⟨listsched_at.ok k, listsched_clashes.ok k, trivial⟩) (fun k => by exact ⟨slices_ContainsFunc_int_int_i2.ok k, trivial⟩) trivial ⟨z4, z10, trivial⟩ (fun k => ⟨fun d => by kernel_rfl, fun d => by kernel_rfl, trivial⟩) (fun k d => by kernel_rfl) k
end listsched_legal
namespace listsched_least
def rs : Rt := (.fl (.int .i64))
def al : List (Nat × List Nat) := [(3, [0]), (4, [1]), (9, [2])]
def ps : Ty := (.pr (Flow.T) (.pr (Sched.T) (.pr (.int .i64) .un)))
def fn (k : Nat) : Vm.Fn := ⟨30, ps, false, rs, fun d => f k d.1 d.2.1 d.2.2.1⟩
def Γ (k : Nat) : List Vm.Fn := [listsched_at.fn]
def p3 : Pat := ⟨39, 3, [(2, (.va (.int .i64))), (3, (.pt 0)), (4, (.pt 1)), (7, (.va (.int .i64))), (11, (.va (.sl (Arc.T)))), (12, (.va (.int .i64))), (13, (.va (.int .i64)))], [(0, (.var (.va (Flow.T)))), (1, (.var (.va (Sched.T))))]⟩
def a3 (k : Nat) (d : p3.ty.D) : Option rs.D := c3 k d.1.1 d.1.2.2.2.1 d.1.2.2.2.2.1 d.1.2.2.2.2.2.1 d.1.2.2.2.2.2.2.1 d.2.1 d.2.2.1
def cuts (k : Nat) : List (Cut rs.D) := [⟨3, p3, a3 k⟩]
theorem z3 (d : p3.ty.D) : a3 0 d = none := by kernel_rfl
theorem ok (k : Nat) : FnOk Try.prog (fn k) := fs (n := 39) (FnInfo.of Try.func30 (by kernel_rfl)) 3 so al (Γ) (fun _ => G) (cuts) (fun k => (fn k).F) (fun k => by exact ⟨listsched_at.ok k, trivial⟩) (fun _ => trivial) trivial ⟨z3, trivial⟩ (fun k => ⟨fun d => by kernel_rfl, trivial⟩) (fun k d => by kernel_rfl) k
end listsched_least
namespace listsched_Compact
def rs : Rt := (.pr (.pr (.fl (.int .i64)) (.pr (.fl (.int .i64)) (.pr (.os (.int .i64)) (.pr (.os (.int .i64)) (.pr (.os (.int .i64)) .un))))) (.pr (.fl (.int .i64)) .un))
def al : List (Nat × List Nat) := [(2, [0]), (3, [1]), (4, [2]), (34, [3]), (37, [4]), (40, [5])]
def ps : Ty := (.pr (Flow.T) (.pr (Sched.T) .un))
def fn (k : Nat) : Vm.Fn := ⟨12, ps, true, rs, fun d => f k d.1 d.2.1⟩
def Γ (k : Nat) : List Vm.Fn := [dataflow_Valid.fn k, listsched_fits.fn k, listsched_legal.fn k, slices_Clone_int_int.fn, listsched_least.fn k, dataflow_End.fn, listsched_clashes.fn k]
def p9 : Pat := ⟨94, 6, [(2, (.pt 0)), (3, (.pt 1)), (4, (.pt 2)), (6, (.va .bool))], [(0, (.var (.va (Flow.T)))), (1, (.var (.pr (.va (.int .i64)) (.pr (.va (.int .i64)) (.pr (.sl 3) (.pr (.sl 4) (.pr (.sl 5) .un))))))), (2, (.var (.pr (.va (.int .i64)) (.pr (.va (.int .i64)) (.pr .nl (.pr .nl (.pr .nl .un))))))), (3, (.arr (.int .i64) false)), (4, (.arr (.int .i64) false)), (5, (.arr (.int .i64) false))]⟩
def p12 : Pat := ⟨94, 6, [(2, (.pt 0)), (3, (.pt 1)), (4, (.pt 2)), (6, (.va .bool)), (47, (.va (.int .i64))), (48, (.va (.int .i64)))], [(0, (.var (.va (Flow.T)))), (1, (.var (.pr (.va (.int .i64)) (.pr (.va (.int .i64)) (.pr (.sl 3) (.pr (.sl 4) (.pr (.sl 5) .un))))))), (2, (.var (.pr (.va (.int .i64)) (.pr (.va (.int .i64)) (.pr .nl (.pr .nl (.pr .nl .un))))))), (3, (.arr (.int .i64) false)), (4, (.arr (.int .i64) false)), (5, (.arr (.int .i64) false))]⟩
def p16 : Pat := ⟨94, 6, [(2, (.pt 0)), (3, (.pt 1)), (4, (.pt 2)), (6, (.va .bool)), (7, (.va (.int .i64))), (8, (.va (.int .i64))), (9, (.va (.int .i64))), (47, (.va (.int .i64))), (48, (.va (.int .i64)))], [(0, (.var (.va (Flow.T)))), (1, (.var (.pr (.va (.int .i64)) (.pr (.va (.int .i64)) (.pr (.sl 3) (.pr (.sl 4) (.pr (.sl 5) .un))))))), (2, (.var (.pr (.va (.int .i64)) (.pr (.va (.int .i64)) (.pr .nl (.pr .nl (.pr .nl .un))))))), (3, (.arr (.int .i64) false)), (4, (.arr (.int .i64) false)), (5, (.arr (.int .i64) false))]⟩
def a9 (k : Nat) (d : p9.ty.D) : Option rs.D := c9 k d.1.2.2.2.1 d.2.1 d.2.2.1.1 d.2.2.1.2.1 d.2.2.2.1.1 d.2.2.2.1.2.1 d.2.2.2.2.1 d.2.2.2.2.2.1 d.2.2.2.2.2.2.1
def a12 (k : Nat) (d : p12.ty.D) : Option rs.D := c12 k d.1.2.2.2.1 d.1.2.2.2.2.1 d.1.2.2.2.2.2.1 d.2.1 d.2.2.1.1 d.2.2.1.2.1 d.2.2.2.1.1 d.2.2.2.1.2.1 d.2.2.2.2.1 d.2.2.2.2.2.1 d.2.2.2.2.2.2.1
def a16 (k : Nat) (d : p16.ty.D) : Option rs.D := c16 k d.1.2.2.2.1 d.1.2.2.2.2.1 d.1.2.2.2.2.2.1 d.1.2.2.2.2.2.2.1 d.1.2.2.2.2.2.2.2.1 d.1.2.2.2.2.2.2.2.2.1 d.2.1 d.2.2.1.1 d.2.2.1.2.1 d.2.2.2.1.1 d.2.2.2.1.2.1 d.2.2.2.2.1 d.2.2.2.2.2.1 d.2.2.2.2.2.2.1
def cuts (k : Nat) : List (Cut rs.D) := [⟨9, p9, a9 k⟩, ⟨12, p12, a12 k⟩, ⟨16, p16, a16 k⟩]
theorem z9 (d : p9.ty.D) : a9 0 d = none := by kernel_rfl
theorem z12 (d : p12.ty.D) : a12 0 d = none := by kernel_rfl
theorem z16 (d : p16.ty.D) : a16 0 d = none := by kernel_rfl
theorem ok (k : Nat) : FnOk Try.prog (fn k) := fs (n := 94) (FnInfo.of Try.func12 (by kernel_rfl)) 6 so al (Γ) (fun _ => G) (cuts) (fun k => (fn k).F) (fun k => by exact ⟨dataflow_Valid.ok k, listsched_fits.ok k, listsched_legal.ok k, slices_Clone_int_int.ok k, listsched_least.ok k, dataflow_End.ok k, listsched_clashes.ok k, trivial⟩) (fun _ => trivial) trivial ⟨z9, z12, z16, trivial⟩ (fun k => ⟨fun d => by kernel_rfl, fun d => by kernel_rfl, fun d => by kernel_rfl, trivial⟩) (fun k d => by kernel_rfl) k
end listsched_Compact
namespace jacquardlaw32_ListschedAlone
def rs : Rt := (.fl .bool)
def al : List (Nat × List Nat) := [(41, [0]), (6, [1]), (52, [2]), (53, [3]), (62, [4]), (63, [5]), (80, [6]), (81, [7]), (90, [8]), (91, [9]), (102, [10, 11, 12]), (12, [13]), (110, [14, 15, 16]), (14, [17])]
def ps : Ty := (.pr (.sl (.int .u8)) (.pr (.int .u8) .un))
def fn (k : Nat) : Vm.Fn := ⟨5, ps, false, rs, fun d => f k d.1 d.2.1⟩
def Γ (k : Nat) : List Vm.Fn := [jacquardlaw32_awake.fn k, listsched_Schedule.fn k, listsched_Compact.fn k]
def p7 : Pat := ⟨177, 20, [(0, (.va (.sl (.int .u8)))), (5, (.va (.int .i64))), (6, (.pt 1)), (7, (.va (.int .i64))), (8, (.va (.int .i64))), (43, (.va (.int .i64))), (44, (.va (.int .i64)))], [(1, (.var (.pr (.va (.int .i64)) (.pr (.va (.int .i64)) (.pr (.va .bool) (.pr (.sl 18) (.pr (.sl 0) (.pr .nl .un)))))))), (0, (.arr (Resource.T) true)), (18, (.arr (Arc.T) false))]⟩
def p13 : Pat := ⟨177, 20, [(0, (.va (.sl (.int .u8)))), (5, (.va (.int .i64))), (6, (.pt 1)), (7, (.va (.int .i64))), (8, (.va (.int .i64))), (65, (.va (.int .i64))), (66, (.va (.int .i64)))], [(1, (.var (.pr (.va (.int .i64)) (.pr (.va (.int .i64)) (.pr (.va .bool) (.pr (.sl 5) (.pr (.sl 0) (.pr (.sl 19) .un)))))))), (5, (.arr (Arc.T) true)), (0, (.arr (Resource.T) true)), (19, (.arr (Need.T) false))]⟩
def p28 : Pat := ⟨177, 20, [(5, (.va (.int .i64))), (6, (.pt 1)), (7, (.va (.int .i64))), (14, (.pt 17)), (125, (.va (.int .i64))), (126, (.va (.int .i64)))], [(1, (.var (.pr (.va (.int .i64)) (.pr (.va (.int .i64)) (.pr (.va .bool) (.pr (.sl 5) (.pr (.sl 0) (.pr (.sl 19) .un)))))))), (17, (.var (.pr (.va (.int .i64)) (.pr (.va (.int .i64)) (.pr (.sl 14) (.pr (.sl 15) (.pr (.sl 16) .un))))))), (5, (.arr (Arc.T) true)), (0, (.arr (Resource.T) true)), (19, (.arr (Need.T) false)), (14, (.arr (.int .i64) false)), (15, (.arr (.int .i64) false)), (16, (.arr (.int .i64) false))]⟩
def p32 : Pat := ⟨177, 20, [(5, (.va (.int .i64))), (6, (.pt 1)), (7, (.va (.int .i64))), (14, (.pt 17)), (16, (.va (.int .i64))), (17, (.va (.int .i64))), (18, (.va (.int .i64))), (125, (.va (.int .i64))), (126, (.va (.int .i64))), (129, (.va (.int .i64))), (130, (.va (.int .i64)))], [(1, (.var (.pr (.va (.int .i64)) (.pr (.va (.int .i64)) (.pr (.va .bool) (.pr (.sl 5) (.pr (.sl 0) (.pr (.sl 19) .un)))))))), (17, (.var (.pr (.va (.int .i64)) (.pr (.va (.int .i64)) (.pr (.sl 14) (.pr (.sl 15) (.pr (.sl 16) .un))))))), (5, (.arr (Arc.T) true)), (0, (.arr (Resource.T) true)), (19, (.arr (Need.T) false)), (14, (.arr (.int .i64) false)), (15, (.arr (.int .i64) false)), (16, (.arr (.int .i64) false))]⟩
def a7 (k : Nat) (d : p7.ty.D) : Option rs.D := c7 k d.1.1 d.1.2.1 d.1.2.2.2.1 d.1.2.2.2.2.1 d.1.2.2.2.2.2.1 d.1.2.2.2.2.2.2.1 d.2.1.1 d.2.1.2.1 d.2.1.2.2.1 d.2.2.1 d.2.2.2.1
def a13 (k : Nat) (d : p13.ty.D) : Option rs.D := c13 k d.1.1 d.1.2.1 d.1.2.2.2.1 d.1.2.2.2.2.1 d.1.2.2.2.2.2.1 d.1.2.2.2.2.2.2.1 d.2.1.1 d.2.1.2.1 d.2.1.2.2.1 d.2.2.1 d.2.2.2.1 d.2.2.2.2.1
def a28 (k : Nat) (d : p28.ty.D) : Option rs.D := c28 k d.1.1 d.1.2.2.1 d.1.2.2.2.2.1 d.1.2.2.2.2.2.1 d.2.1.1 d.2.1.2.1 d.2.1.2.2.1 d.2.2.1.1 d.2.2.1.2.1 d.2.2.2.1 d.2.2.2.2.1 d.2.2.2.2.2.1 d.2.2.2.2.2.2.1 d.2.2.2.2.2.2.2.1 d.2.2.2.2.2.2.2.2.1
def a32 (k : Nat) (d : p32.ty.D) : Option rs.D := c32 k d.1.1 d.1.2.2.1 d.1.2.2.2.2.1 d.1.2.2.2.2.2.1 d.1.2.2.2.2.2.2.1 d.1.2.2.2.2.2.2.2.1 d.1.2.2.2.2.2.2.2.2.1 d.1.2.2.2.2.2.2.2.2.2.1 d.1.2.2.2.2.2.2.2.2.2.2.1 d.2.1.1 d.2.1.2.1 d.2.1.2.2.1 d.2.2.1.1 d.2.2.1.2.1 d.2.2.2.1 d.2.2.2.2.1 d.2.2.2.2.2.1 d.2.2.2.2.2.2.1 d.2.2.2.2.2.2.2.1 d.2.2.2.2.2.2.2.2.1
def cuts (k : Nat) : List (Cut rs.D) := [⟨7, p7, a7 k⟩, ⟨13, p13, a13 k⟩, ⟨28, p28, a28 k⟩, ⟨32, p32, a32 k⟩]
theorem z7 (d : p7.ty.D) : a7 0 d = none := by kernel_rfl
theorem z13 (d : p13.ty.D) : a13 0 d = none := by kernel_rfl
theorem z28 (d : p28.ty.D) : a28 0 d = none := by kernel_rfl
theorem z32 (d : p32.ty.D) : a32 0 d = none := by kernel_rfl
theorem ok (k : Nat) : FnOk Try.prog (fn k) := fs (n := 177) (FnInfo.of Try.func5 (by kernel_rfl)) 20 so al (Γ) (fun _ => G) (cuts) (fun k => (fn k).F) (fun k => by exact ⟨jacquardlaw32_awake.ok k, listsched_Schedule.ok k, listsched_Compact.ok k, trivial⟩) (fun _ => trivial) trivial ⟨z7, z13, z28, z32, trivial⟩ (fun k => ⟨fun d => by kernel_rfl, fun d => by kernel_rfl, fun d => by kernel_rfl, fun d => by kernel_rfl, trivial⟩) (fun k d => by kernel_rfl) k
end jacquardlaw32_ListschedAlone
end
end Go.Proofs.YtjddmekfeckphaaV
