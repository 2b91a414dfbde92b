/- The functions are what the program's code computes: printed. -/
import Derived.Test.YtjddmekfeckphaaGreatVt
import Derived.Test.YtjddmekfeckphaaGreatF
import Derived.Test.YtjddmekfeckphaaGreatSo
import Derived.Test.YtjddmekfeckphaaGreatBk
import Derived.Test.YtjddmekfeckphaaGreatSo02
import Derived.Test.YtjddmekfeckphaaGreatE0
set_option linter.unusedVariables false
set_option linter.unusedSimpArgs false
namespace Go.Proofs.YtjddmekfeckphaaGreatV
open Go Go.Vm
noncomputable section
namespace jacquardlaw32_triple
def rs : Rt := (.pr (.fl (.int .i64)) (.pr (.fl (.int .i64)) (.pr (.fl .bool) (.pr (.os (Arc.T)) (.pr (.os (Resource.T)) (.pr (.os (Need.T)) .un))))))
def al : List (Nat × List Nat) := [(2, [0]), (9, [1]), (12, [2]), (3, [3]), (21, [4]), (22, [5]), (27, [6]), (28, [7])]
def ps : Ty := (.pr (.int .i64) .un)
def fn (k : Nat) : Vm.Fn := ⟨22, ps, false, rs, fun d => f k d.1⟩
def p3 : Pat := ⟨32, 9, [(2, (.pt 0)), (3, (.pt 3)), (14, (.va (.int .i64)))], [(0, (.var (.pr (.va (.int .i64)) (.pr (.va (.int .i64)) (.pr (.va .bool) (.pr .nl (.pr .nl (.pr .nl .un)))))))), (3, (.var (.pr (.va (.int .i64)) (.pr (.va (.int .i64)) (.pr (.va .bool) (.pr (.sl 1) (.pr (.sl 2) (.pr (.sl 8) .un)))))))), (1, (.arr (Arc.T) true)), (2, (.arr (Resource.T) true)), (8, (.arr (Need.T) false))]⟩
def a3 (k : Nat) (d : p3.ty.D) : Option rs.D := c3 k d.1.2.2.1 d.2.1.1 d.2.1.2.1 d.2.1.2.2.1 d.2.2.1.1 d.2.2.1.2.1 d.2.2.1.2.2.1 d.2.2.2.1 d.2.2.2.2.1 d.2.2.2.2.2.1
def cuts (k : Nat) : List (Cut rs.D) := [⟨3, p3, a3 k⟩]
theorem z3 (d : p3.ty.D) : a3 0 d = none := by kernel_rfl
theorem ok (k : Nat) : FnOk Tryz.prog (fn k) := fs (n := 32) (FnInfo.of Tryz.func22 (by kernel_rfl)) 9 so al (fun _ => Γ) (fun _ => G) (cuts) (fun k => (fn k).F) (fun _ => trivial) (fun _ => trivial) trivial ⟨z3, trivial⟩ (fun k => ⟨fun d => by kernel_rfl, trivial⟩) (fun k d => by kernel_rfl) k
end jacquardlaw32_triple
namespace dataflow_between
def rs : Rt := (.fl .bool)
def ps : Ty := (.pr (.int .i64) (.pr (.int .i64) (.pr (.int .i64) .un)))
def fn : Vm.Fn := ⟨44, ps, false, rs, fun d => f d.1 d.2.1 d.2.2.1⟩
theorem ok (k : Nat) : FnOk Tryz.prog (fn) := fs (n := 15) (FnInfo.of Tryz.func44 (by kernel_rfl)) 0 so al (fun _ => Γ) (fun _ => G) (fun _ => []) (fun k => (fn).F) (fun _ => trivial) (fun _ => trivial) trivial trivial (fun k => trivial) (fun k d => by kernel_rfl) k
end dataflow_between
namespace dataflow_Source
def rs : Rt := (.fl (.int .i64))
def al : List (Nat × List Nat) := [(1, [0])]
def ps : Ty := (.pr (Flow.T) .un)
def fn : Vm.Fn := ⟨30, ps, false, rs, fun d => f d.1⟩
theorem ok (k : Nat) : FnOk Tryz.prog (fn) := fs (n := 8) (FnInfo.of Tryz.func30 (by kernel_rfl)) 1 so al (fun _ => Γ) (fun _ => G) (fun _ => []) (fun k => (fn).F) (fun _ => trivial) (fun _ => trivial) trivial trivial (fun k => trivial) (fun k d => by kernel_rfl) k
end dataflow_Source
namespace dataflow_End
def rs : Rt := (.fl (.int .i64))
def al : List (Nat × List Nat) := [(1, [0])]
def ps : Ty := (.pr (Flow.T) .un)
def fn : Vm.Fn := ⟨32, ps, false, rs, fun d => f d.1⟩
theorem ok (k : Nat) : FnOk Tryz.prog (fn) := fs (n := 9) (FnInfo.of Tryz.func32 (by kernel_rfl)) 1 so al (fun _ => Γ) (fun _ => G) (fun _ => []) (fun k => (fn).F) (fun _ => trivial) (fun _ => trivial) trivial trivial (fun k => trivial) (fun k d => by kernel_rfl) k
end dataflow_End
namespace dataflow_framed
def rs : Rt := (.fl .bool)
def al : List (Nat × List Nat) := [(1, [0]), (7, [1])]
def ps : Ty := (.pr (Flow.T) .un)
def fn (k : Nat) : Vm.Fn := ⟨45, ps, false, rs, fun d => f k d.1⟩
def Γ (k : Nat) : List Vm.Fn := [dataflow_Source.fn, dataflow_End.fn]
def p5 : Pat := ⟨85, 2, [(1, (.pt 0)), (3, (.va (.int .i64))), (18, (.va (.int .i64))), (19, (.va (.int .i64)))], [(0, (.var (.va (Flow.T))))]⟩
def p10 : Pat := ⟨85, 2, [(1, (.pt 0)), (3, (.va (.int .i64))), (4, (.va (.int .i64))), (5, (.va (.int .i64))), (18, (.va (.int .i64))), (19, (.va (.int .i64)))], [(0, (.var (.va (Flow.T))))]⟩
def p14 : Pat := ⟨85, 2, [(1, (.pt 0)), (3, (.va (.int .i64))), (38, (.va (.int .i64))), (39, (.va (.int .i64)))], [(0, (.var (.va (Flow.T))))]⟩
def a5 (k : Nat) (d : p5.ty.D) : Option rs.D := c5 k d.1.2.1 d.1.2.2.1 d.1.2.2.2.1 d.2.1
def a10 (k : Nat) (d : p10.ty.D) : Option rs.D := c10 k d.1.2.1 d.1.2.2.1 d.1.2.2.2.1 d.1.2.2.2.2.1 d.1.2.2.2.2.2.1 d.2.1
def a14 (k : Nat) (d : p14.ty.D) : Option rs.D := c14 k d.1.2.1 d.1.2.2.1 d.1.2.2.2.1 d.2.1
def cuts (k : Nat) : List (Cut rs.D) := [⟨5, p5, a5 k⟩, ⟨10, p10, a10 k⟩, ⟨14, p14, a14 k⟩]
theorem z5 (d : p5.ty.D) : a5 0 d = none := by kernel_rfl
theorem z10 (d : p10.ty.D) : a10 0 d = none := by kernel_rfl
theorem z14 (d : p14.ty.D) : a14 0 d = none := by kernel_rfl
theorem ok (k : Nat) : FnOk Tryz.prog (fn k) := fs (n := 85) (FnInfo.of Tryz.func45 (by kernel_rfl)) 2 so al (Γ) (fun _ => G) (cuts) (fun k => (fn k).F) (fun k => by exact ⟨dataflow_Source.ok k, dataflow_End.ok k, trivial⟩) (fun _ => trivial) trivial ⟨z5, z10, z14, trivial⟩ (fun k => ⟨fun d => by kernel_rfl, fun d => by kernel_rfl, fun d => by kernel_rfl, trivial⟩) (fun k d => by kernel_rfl) k
end dataflow_framed
namespace dataflow_Valid
def rs : Rt := (.fl .bool)
def al : List (Nat × List Nat) := [(1, [0]), (5, [1]), (7, [2]), (9, [3])]
def ps : Ty := (.pr (Flow.T) .un)
def fn (k : Nat) : Vm.Fn := ⟨23, ps, false, rs, fun d => f k d.1⟩
def Γ (k : Nat) : List Vm.Fn := [dataflow_between.fn, dataflow_Source.fn, dataflow_End.fn, dataflow_framed.fn k]
def p6 : Pat := ⟨115, 4, [(1, (.pt 0)), (3, (.va (.int .i64)))], [(0, (.var (.va (Flow.T))))]⟩
def p7 : Pat := ⟨115, 4, [(1, (.pt 0)), (3, (.va (.int .i64))), (31, (.va (.sl (Arc.T)))), (32, (.va (.int .i64))), (33, (.va (.int .i64)))], [(0, (.var (.va (Flow.T))))]⟩
def p13 : Pat := ⟨115, 4, [(1, (.pt 0)), (66, (.va (.sl (Resource.T)))), (67, (.va (.int .i64))), (68, (.va (.int .i64)))], [(0, (.var (.va (Flow.T))))]⟩
def p19 : Pat := ⟨115, 4, [(1, (.pt 0)), (84, (.va (.sl (Need.T)))), (85, (.va (.int .i64))), (86, (.va (.int .i64)))], [(0, (.var (.va (Flow.T))))]⟩
def a6 (k : Nat) (d : p6.ty.D) : Option rs.D := c6 k d.1.2.1 d.2.1
def a7 (k : Nat) (d : p7.ty.D) : Option rs.D := c7 k d.1.2.1 d.1.2.2.1 d.1.2.2.2.1 d.1.2.2.2.2.1 d.2.1
def a13 (k : Nat) (d : p13.ty.D) : Option rs.D := c13 k d.1.2.1 d.1.2.2.1 d.1.2.2.2.1 d.2.1
def a19 (k : Nat) (d : p19.ty.D) : Option rs.D := c19 k d.1.2.1 d.1.2.2.1 d.1.2.2.2.1 d.2.1
def cuts (k : Nat) : List (Cut rs.D) := [⟨6, p6, a6 k⟩, ⟨7, p7, a7 k⟩, ⟨13, p13, a13 k⟩, ⟨19, p19, a19 k⟩]
theorem z6 (d : p6.ty.D) : a6 0 d = none := by kernel_rfl
theorem z7 (d : p7.ty.D) : a7 0 d = none := by kernel_rfl
theorem z13 (d : p13.ty.D) : a13 0 d = none := by kernel_rfl
theorem z19 (d : p19.ty.D) : a19 0 d = none := by kernel_rfl
theorem ok (k : Nat) : FnOk Tryz.prog (fn k) := fs (n := 115) (FnInfo.of Tryz.func23 (by kernel_rfl)) 4 so al (Γ) (fun _ => G) (cuts) (fun k => (fn k).F) (fun k => by exact ⟨dataflow_between.ok k, dataflow_Source.ok k, dataflow_End.ok k, dataflow_framed.ok k, trivial⟩) (fun _ => trivial) trivial ⟨z6, z7, z13, z19, trivial⟩ (fun k => ⟨fun d => by kernel_rfl, fun d => by kernel_rfl, fun d => by kernel_rfl, fun d => by kernel_rfl, trivial⟩) (fun k d => by kernel_rfl) k
end dataflow_Valid
namespace dataflow_Nodes
def rs : Rt := (.fl (.int .i64))
def al : List (Nat × List Nat) := [(1, [0])]
def ps : Ty := (.pr (Flow.T) .un)
def fn : Vm.Fn := ⟨24, ps, false, rs, fun d => f d.1⟩
theorem ok (k : Nat) : FnOk Tryz.prog (fn) := fs (n := 9) (FnInfo.of Tryz.func24 (by kernel_rfl)) 1 so al (fun _ => Γ) (fun _ => G) (fun _ => []) (fun k => (fn).F) (fun _ => trivial) (fun _ => trivial) trivial trivial (fun k => trivial) (fun k d => by kernel_rfl) k
end dataflow_Nodes
namespace diffcons_limit
def rs : Rt := (.fl (.int .i64))
def ps : Ty := (.pr (.int .i64) (.pr (.int .i64) (.pr (.int .i64) .un)))
def fn : Vm.Fn := ⟨85, ps, false, rs, fun d => f d.1 d.2.1 d.2.2.1⟩
theorem ok (k : Nat) : FnOk Tryz.prog (fn) := fs (n := 12) (FnInfo.of Tryz.func85 (by kernel_rfl)) 0 so al (fun _ => Γ) (fun _ => G) (fun _ => []) (fun k => (fn).F) (fun _ => trivial) (fun _ => trivial) trivial trivial (fun k => trivial) (fun k d => by kernel_rfl) k
end diffcons_limit
namespace diffcons_nodes
def rs : Rt := (.fl (.int .i64))
def ps : Ty := (.pr (.int .i64) .un)
def fn : Vm.Fn := ⟨65, ps, false, rs, fun d => f d.1⟩
def Γ : List Vm.Fn := [diffcons_limit.fn]
theorem ok (k : Nat) : FnOk Tryz.prog (fn) := fs (n := 5) (FnInfo.of Tryz.func65 (by kernel_rfl)) 0 so al (fun _ => Γ) (fun _ => G) (fun _ => []) (fun k => (fn).F) (fun k => by exact ⟨diffcons_limit.ok k, trivial⟩) (fun _ => trivial) trivial trivial (fun k => trivial) (fun k d => by kernel_rfl) k
end diffcons_nodes
namespace diffcons_bound
def rs : Rt := (.fl (.int .i64))
def ps : Ty := (.pr (.sl (.int .i64)) (.pr (.int .i64) .un))
def fn : Vm.Fn := ⟨66, ps, false, rs, fun d => f d.1 d.2.1⟩
def Γ : List Vm.Fn := [diffcons_limit.fn]
theorem ok (k : Nat) : FnOk Tryz.prog (fn) := fs (n := 14) (FnInfo.of Tryz.func66 (by kernel_rfl)) 0 so al (fun _ => Γ) (fun _ => G) (fun _ => []) (fun k => (fn).F) (fun k => by exact ⟨diffcons_limit.ok k, trivial⟩) (fun _ => trivial) trivial trivial (fun k => trivial) (fun k d => by kernel_rfl) k
end diffcons_bound
namespace diffcons_within
def rs : Rt := (.fl .bool)
def al : List (Nat × List Nat) := [(2, [0])]
def ps : Ty := (.pr (Arc.T) (.pr (.int .i64) .un))
def fn : Vm.Fn := ⟨67, ps, false, rs, fun d => f d.1 d.2.1⟩
theorem ok (k : Nat) : FnOk Tryz.prog (fn) := fs (n := 25) (FnInfo.of Tryz.func67 (by kernel_rfl)) 1 so al (fun _ => Γ) (fun _ => G) (fun _ => []) (fun k => (fn).F) (fun _ => trivial) (fun _ => trivial) trivial trivial (fun k => trivial) (fun k d => by kernel_rfl) k
end diffcons_within
namespace diffcons_Weight
def rs : Rt := (.fl (.int .i64))
def al : List (Nat × List Nat) := [(2, [0])]
def ps : Ty := (.pr (Arc.T) (.pr (.int .i64) .un))
def fn : Vm.Fn := ⟨68, ps, false, rs, fun d => f d.1 d.2.1⟩
def Γ : List Vm.Fn := [diffcons_limit.fn]
theorem ok (k : Nat) : FnOk Tryz.prog (fn) := fs (n := 15) (FnInfo.of Tryz.func68 (by kernel_rfl)) 1 so al (fun _ => Γ) (fun _ => G) (fun _ => []) (fun k => (fn).F) (fun k => by exact ⟨diffcons_limit.ok k, trivial⟩) (fun _ => trivial) trivial trivial (fun k => trivial) (fun k d => by kernel_rfl) k
end diffcons_Weight
namespace slices_Reverse_int_int
def rs : Rt := .un
def p : Pat := ⟨28, 1, [(0, (.sl 0))], [(0, (.arr (.int .i64) true))]⟩
def fx : List Nat := [0]
def xo : List (Nat × OP) := [(0, (.arr (.int .i64) true))]
def fg (k : Nat) : Vm.Fg := ⟨86, p, fx, true, rs, xo, fun d => f k d.2.1⟩
def p1 : Pat := ⟨28, 1, [(0, (.sl 0)), (2, (.va (.int .i64))), (3, (.va (.int .i64)))], [(0, (.arr (.int .i64) true))]⟩
def a1 (k : Nat) (d : p1.ty.D) : Option (rs.D × (objsTy xo).D) := c1 k d.1.2.1 d.1.2.2.1 d.2.1
def cuts (k : Nat) : List (Cut (rs.D × (objsTy xo).D)) := [⟨1, p1, a1 k⟩]
theorem z1 (d : p1.ty.D) : a1 0 d = none := by kernel_rfl
theorem ok (k : Nat) : FgOk Tryz.prog (fg k) := gs (FgInfo.of Tryz.func86 (by kernel_rfl)) (pat := p) fx xo (by kernel_rfl) so al (fun _ => Γ) (fun _ => G) (cuts) (fun k => (fg k).F) (fun _ => trivial) (fun _ => trivial) trivial ⟨z1, trivial⟩ (fun k => ⟨fun d => by kernel_rfl, trivial⟩) (fun k d => by kernel_rfl) k
end slices_Reverse_int_int
namespace diffcons_around
def rs : Rt := (.on (.int .i64))
def al : List (Nat × List Nat) := [(9, [0]), (34, [1]), (35, [2])]
def ps : Ty := (.pr (.sl (Arc.T)) (.pr (.sl (.int .i64)) (.pr (.int .i64) (.pr (.int .i64) .un))))
def fn (k : Nat) : Vm.Fn := ⟨69, ps, false, rs, fun d => f k d.1 d.2.1 d.2.2.1 d.2.2.2.1⟩
def G (k : Nat) : List Vm.Fg := [slices_Reverse_int_int.fg k]
def p2 : Pat := ⟨50, 3, [(0, (.va (.sl (Arc.T)))), (1, (.va (.sl (.int .i64)))), (2, (.va (.int .i64))), (11, (.va (.int .i64))), (12, (.va (.int .i64)))], []⟩
def p6 : Pat := ⟨50, 3, [(0, (.va (.sl (Arc.T)))), (1, (.va (.sl (.int .i64)))), (2, (.va (.int .i64)))], []⟩
def p8 : Pat := ⟨50, 3, [(0, (.va (.sl (Arc.T)))), (1, (.va (.sl (.int .i64)))), (2, (.va (.int .i64))), (9, (.sl 0)), (10, (.va (.int .i64)))], [(0, (.arr (.int .i64) false))]⟩
def a2 (k : Nat) (d : p2.ty.D) : Option rs.D := c2 k d.1.1 d.1.2.1 d.1.2.2.1 d.1.2.2.2.1 d.1.2.2.2.2.1
def a6 (k : Nat) (d : p6.ty.D) : Option rs.D := c6 k d.1.1 d.1.2.1 d.1.2.2.1
def a8 (k : Nat) (d : p8.ty.D) : Option rs.D := c8 k d.1.1 d.1.2.1 d.1.2.2.1 d.1.2.2.2.2.1 d.2.1
def cuts (k : Nat) : List (Cut rs.D) := [⟨2, p2, a2 k⟩, ⟨6, p6, a6 k⟩, ⟨8, p8, a8 k⟩]
theorem z2 (d : p2.ty.D) : a2 0 d = none := by kernel_rfl
theorem z6 (d : p6.ty.D) : a6 0 d = none := by kernel_rfl
theorem z8 (d : p8.ty.D) : a8 0 d = none := by kernel_rfl
theorem ok (k : Nat) : FnOk Tryz.prog (fn k) := fs (n := 50) (FnInfo.of Tryz.func69 (by kernel_rfl)) 3 so al (fun _ => Γ) (G) (cuts) (fun k => (fn k).F) (fun _ => trivial) (fun k => by exact ⟨slices_Reverse_int_int.ok k, trivial⟩) trivial ⟨z2, z6, z8, trivial⟩ (fun k => ⟨fun d => by kernel_rfl, fun d => by kernel_rfl, fun d => by kernel_rfl, trivial⟩) (fun k d => by kernel_rfl) k
end diffcons_around
namespace diffcons_After
def rs : Rt := (.pr (.os (.int .i64)) (.pr (.on (.int .i64)) .un))
def al : List (Nat × List Nat) := [(8, [0]), (20, [1]), (22, [2]), (15, [3]), (90, [4])]
def ps : Ty := (.pr (.int .i64) (.pr (.sl (Arc.T)) (.pr (.int .i64) (.pr (.sl (.int .i64)) .un))))
def fn (k : Nat) : Vm.Fn := ⟨46, ps, true, rs, fun d => f k d.1 d.2.1 d.2.2.1 d.2.2.2.1⟩
def Γ (k : Nat) : List Vm.Fn := [diffcons_nodes.fn, diffcons_bound.fn, diffcons_within.fn, diffcons_Weight.fn, diffcons_around.fn k]
def p5 : Pat := ⟨91, 5, [(0, (.va (.int .i64))), (1, (.va (.sl (Arc.T)))), (2, (.va (.int .i64))), (3, (.va (.sl (.int .i64)))), (8, (.sl 1)), (10, (.sl 2)), (24, (.va (.int .i64))), (25, (.va (.int .i64)))], [(1, (.arr (.int .i64) true)), (2, (.arr (.int .i64) true))]⟩
def p12 : Pat := ⟨91, 5, [(0, (.va (.int .i64))), (1, (.va (.sl (Arc.T)))), (2, (.va (.int .i64))), (8, (.sl 1)), (10, (.sl 2)), (12, (.va (.int .i64)))], [(1, (.arr (.int .i64) true)), (2, (.arr (.int .i64) true))]⟩
def p14 : Pat := ⟨91, 5, [(0, (.va (.int .i64))), (1, (.va (.sl (Arc.T)))), (2, (.va (.int .i64))), (8, (.sl 1)), (10, (.sl 2)), (12, (.va (.int .i64))), (13, (.va (.int .i64))), (40, (.va (.sl (Arc.T)))), (41, (.va (.int .i64))), (42, (.va (.int .i64)))], [(1, (.arr (.int .i64) true)), (2, (.arr (.int .i64) true))]⟩
def a5 (k : Nat) (d : p5.ty.D) : Option rs.D := c5 k d.1.1 d.1.2.1 d.1.2.2.1 d.1.2.2.2.1 d.1.2.2.2.2.2.2.1 d.1.2.2.2.2.2.2.2.1 d.2.1 d.2.2.1
def a12 (k : Nat) (d : p12.ty.D) : Option rs.D := c12 k d.1.1 d.1.2.1 d.1.2.2.1 d.1.2.2.2.2.2.1 d.2.1 d.2.2.1
def a14 (k : Nat) (d : p14.ty.D) : Option rs.D := c14 k d.1.1 d.1.2.1 d.1.2.2.1 d.1.2.2.2.2.2.1 d.1.2.2.2.2.2.2.1 d.1.2.2.2.2.2.2.2.1 d.1.2.2.2.2.2.2.2.2.1 d.1.2.2.2.2.2.2.2.2.2.1 d.2.1 d.2.2.1
def cuts (k : Nat) : List (Cut rs.D) := [⟨5, p5, a5 k⟩, ⟨12, p12, a12 k⟩, ⟨14, p14, a14 k⟩]
theorem z5 (d : p5.ty.D) : a5 0 d = none := by kernel_rfl
theorem z12 (d : p12.ty.D) : a12 0 d = none := by kernel_rfl
theorem z14 (d : p14.ty.D) : a14 0 d = none := by kernel_rfl
theorem ok (k : Nat) : FnOk Tryz.prog (fn k) := fs (n := 91) (FnInfo.of Tryz.func46 (by kernel_rfl)) 5 so al (Γ) (fun _ => G) (cuts) (fun k => (fn k).F) (fun k => by exact ⟨diffcons_nodes.ok k, diffcons_bound.ok k, diffcons_within.ok k, diffcons_Weight.ok k, diffcons_around.ok k, trivial⟩) (fun _ => trivial) trivial ⟨z5, z12, z14, trivial⟩ (fun k => ⟨fun d => by kernel_rfl, fun d => by kernel_rfl, fun d => by kernel_rfl, trivial⟩) (fun k d => by kernel_rfl) k
end diffcons_After
namespace diffcons_Earliest
def rs : Rt := (.pr (.os (.int .i64)) (.pr (.on (.int .i64)) .un))
def al : List (Nat × List Nat) := [(6, [0]), (11, [1, 2])]
def ps : Ty := (.pr (.int .i64) (.pr (.sl (Arc.T)) (.pr (.int .i64) .un)))
def fn (k : Nat) : Vm.Fn := ⟨25, ps, true, rs, fun d => f k d.1 d.2.1 d.2.2.1⟩
def Γ (k : Nat) : List Vm.Fn := [diffcons_After.fn k]
theorem ok (k : Nat) : FnOk Tryz.prog (fn k) := fs (n := 14) (FnInfo.of Tryz.func25 (by kernel_rfl)) 3 so al (Γ) (fun _ => G) (fun _ => []) (fun k => (fn k).F) (fun k => by exact ⟨diffcons_After.ok k, trivial⟩) (fun _ => trivial) trivial trivial (fun k => trivial) (fun k d => by kernel_rfl) k
end diffcons_Earliest
namespace graph_size
def rs : Rt := (.fl (.int .i64))
def al : List (Nat × List Nat) := [(1, [0])]
def ps : Ty := (.pr (Graph.T) .un)
def fn : Vm.Fn := ⟨87, ps, false, rs, fun d => f d.1⟩
theorem ok (k : Nat) : FnOk Tryz.prog (fn) := fs (n := 7) (FnInfo.of Tryz.func87 (by kernel_rfl)) 1 so al (fun _ => Γ) (fun _ => G) (fun _ => []) (fun k => (fn).F) (fun _ => trivial) (fun _ => trivial) trivial trivial (fun k => trivial) (fun k d => by kernel_rfl) k
end graph_size
namespace graph_Next
def rs : Rt := (.os (.sl (.int .i64)))
def al : List (Nat × List Nat) := [(1, [0]), (2, [1]), (11, [2]), (6, [3]), (49, [4]), (50, [7, 8]), (69, [9, 10])]
def ps : Ty := (.pr (Graph.T) .un)
def fn (k : Nat) : Vm.Fn := ⟨71, ps, false, rs, fun d => f k d.1⟩
def Γ (k : Nat) : List Vm.Fn := [graph_size.fn]
def G (k : Nat) : List Vm.Fg := [compactH.fg]
def so : List So := [so88]
def p4 : Pat := ⟨73, 11, [(3, (.va (.int .i64))), (4, (.sl 2)), (13, (.va (.sl (Link.T)))), (14, (.va (.int .i64))), (15, (.va (.int .i64)))], [(2, (.arr (.sl (.int .i64)) true))]⟩
def p10 : Pat := ⟨73, 11, [(4, (.sl 2)), (54, (.va (.int .i64))), (55, (.va (.int .i64)))], [(2, (.arr (.sl (.int .i64)) true))]⟩
def a4 (k : Nat) (d : p4.ty.D) : Option rs.D := c4 k d.1.1 d.1.2.2.1 d.1.2.2.2.1 d.1.2.2.2.2.1 d.2.1
def a10 (k : Nat) (d : p10.ty.D) : Option rs.D := c10 k d.1.2.1 d.1.2.2.1 d.2.1
def cuts (k : Nat) : List (Cut rs.D) := [⟨4, p4, a4 k⟩, ⟨10, p10, a10 k⟩]
theorem z4 (d : p4.ty.D) : a4 0 d = none := by kernel_rfl
theorem z10 (d : p10.ty.D) : a10 0 d = none := by kernel_rfl
theorem ok (k : Nat) : FnOk Tryz.prog (fn k) := fs (n := 73) (FnInfo.of Tryz.func71 (by kernel_rfl)) 11 so al (Γ) (G) (cuts) (fun k => (fn k).F) (fun k => by exact ⟨graph_size.ok k, trivial⟩) (fun k => by exact ⟨compactH.ok k, trivial⟩) (by exact ⟨so88_ok, trivial⟩) ⟨z4, z10, trivial⟩ (fun k => ⟨fun d => by kernel_rfl, fun d => by kernel_rfl, trivial⟩) (fun k d => by kernel_rfl) k
end graph_Next
namespace graph_finished
def rs : Rt := (.os (.int .i64))
def al : List (Nat × List Nat) := [(2, [0]), (12, [1]), (15, [2]), (5, [3]), (29, [4]), (51, [5]), (52, [6]), (57, [7]), (84, [8]), (85, [9])]
def ps : Ty := (.pr (.sl (.sl (.int .i64))) .un)
def fn (k : Nat) : Vm.Fn := ⟨70, ps, false, rs, fun d => f k d.1⟩
def p5 : Pat := ⟨88, 10, [(0, (.va (.sl (.sl (.int .i64))))), (3, (.sl 1)), (4, (.sl 2)), (5, (.sl 3)), (17, (.va (.int .i64))), (18, (.va (.int .i64)))], [(1, (.arr .bool true)), (2, (.arr (.int .i64) true)), (3, (.arr (.int .i64) false))]⟩
def p10 : Pat := ⟨88, 10, [(0, (.va (.sl (.sl (.int .i64))))), (3, (.sl 1)), (4, (.sl 2)), (5, (.sl 3)), (7, (.sl 4)), (17, (.va (.int .i64))), (18, (.va (.int .i64)))], [(1, (.arr .bool true)), (2, (.arr (.int .i64) true)), (3, (.arr (.int .i64) false)), (4, (.arr (.int .i64) false))]⟩
def a5 (k : Nat) (d : p5.ty.D) : Option rs.D := c5 k d.1.1 d.1.2.2.2.2.1 d.1.2.2.2.2.2.1 d.2.1 d.2.2.1 d.2.2.2.1
def a10 (k : Nat) (d : p10.ty.D) : Option rs.D := c10 k d.1.1 d.1.2.2.2.2.2.1 d.1.2.2.2.2.2.2.1 d.2.1 d.2.2.1 d.2.2.2.1 d.2.2.2.2.1
def cuts (k : Nat) : List (Cut rs.D) := [⟨5, p5, a5 k⟩, ⟨10, p10, a10 k⟩]
theorem z5 (d : p5.ty.D) : a5 0 d = none := by kernel_rfl
theorem z10 (d : p10.ty.D) : a10 0 d = none := by kernel_rfl
theorem ok (k : Nat) : FnOk Tryz.prog (fn k) := fs (n := 88) (FnInfo.of Tryz.func70 (by kernel_rfl)) 10 so al (fun _ => Γ) (fun _ => G) (cuts) (fun k => (fn k).F) (fun _ => trivial) (fun _ => trivial) trivial ⟨z5, z10, trivial⟩ (fun k => ⟨fun d => by kernel_rfl, fun d => by kernel_rfl, trivial⟩) (fun k d => by kernel_rfl) k
end graph_finished
namespace graph_Turn
def rs : Rt := (.pr (.fl (.int .i64)) (.pr (.os (Link.T)) .un))
def al : List (Nat × List Nat) := [(1, [0]), (2, [1]), (3, [2]), (12, [3]), (30, [4]), (31, [5])]
def ps : Ty := (.pr (Graph.T) .un)
def fn (k : Nat) : Vm.Fn := ⟨72, ps, false, rs, fun d => f k d.1⟩
def Γ (k : Nat) : List Vm.Fn := [graph_size.fn, graph_Next.fn k]
def so : List So := [so90_91]
def p3 : Pat := ⟨39, 8, [(2, (.pt 1)), (3, (.pt 2)), (12, (.va (.sl (.sl (.int .i64))))), (13, (.va (.int .i64))), (14, (.va (.int .i64)))], [(1, (.var (.pr (.va (.int .i64)) (.pr .nl .un)))), (2, (.var (.pr (.va (.int .i64)) (.pr (.sl 7) .un)))), (7, (.arr (Link.T) false))]⟩
def p6 : Pat := ⟨39, 8, [(2, (.pt 1)), (3, (.pt 2)), (4, (.va (.int .i64))), (12, (.va (.sl (.sl (.int .i64))))), (13, (.va (.int .i64))), (14, (.va (.int .i64))), (19, (.va (.sl (.int .i64)))), (20, (.va (.int .i64))), (21, (.va (.int .i64)))], [(1, (.var (.pr (.va (.int .i64)) (.pr .nl .un)))), (2, (.var (.pr (.va (.int .i64)) (.pr (.sl 6) .un)))), (6, (.arr (Link.T) false))]⟩
def a3 (k : Nat) (d : p3.ty.D) : Option rs.D := c3 k d.1.2.2.1 d.1.2.2.2.1 d.1.2.2.2.2.1 d.2.1.1 d.2.2.1.1 d.2.2.2.1
def a6 (k : Nat) (d : p6.ty.D) : Option rs.D := c6 k d.1.2.2.1 d.1.2.2.2.1 d.1.2.2.2.2.1 d.1.2.2.2.2.2.1 d.1.2.2.2.2.2.2.1 d.1.2.2.2.2.2.2.2.1 d.1.2.2.2.2.2.2.2.2.1 d.2.1.1 d.2.2.1.1 d.2.2.2.1
def cuts (k : Nat) : List (Cut rs.D) := [⟨3, p3, a3 k⟩, ⟨6, p6, a6 k⟩]
theorem z3 (d : p3.ty.D) : a3 0 d = none := by kernel_rfl
theorem z6 (d : p6.ty.D) : a6 0 d = none := by kernel_rfl
theorem ok (k : Nat) : FnOk Tryz.prog (fn k) := fs (n := 39) (FnInfo.of Tryz.func72 (by kernel_rfl)) 8 so al (Γ) (fun _ => G) (cuts) (fun k => (fn k).F) (fun k => by exact ⟨graph_size.ok k, graph_Next.ok k, trivial⟩) (fun _ => trivial) (by exact ⟨so90_91_ok, trivial⟩) ⟨z3, z6, trivial⟩ (fun k => ⟨fun d => by kernel_rfl, fun d => by kernel_rfl, trivial⟩) (fun k d => by kernel_rfl) k
end graph_Turn
namespace slices_Min_int_int
def rs : Rt := (.fl (.int .i64))
def ps : Ty := (.pr (.sl (.int .i64)) .un)
def fn (k : Nat) : Vm.Fn := ⟨74, ps, false, rs, fun d => f k d.1⟩
def p3 : Pat := ⟨25, 0, [(0, (.va (.sl (.int .i64))))], []⟩
def p5 : Pat := ⟨25, 0, [(0, (.va (.sl (.int .i64)))), (3, (.va (.int .i64))), (4, (.va (.int .i64)))], []⟩
def a3 (k : Nat) (d : p3.ty.D) : Option rs.D := c3 k d.1.1
def a5 (k : Nat) (d : p5.ty.D) : Option rs.D := c5 k d.1.1 d.1.2.1 d.1.2.2.1
def cuts (k : Nat) : List (Cut rs.D) := [⟨3, p3, a3 k⟩, ⟨5, p5, a5 k⟩]
theorem z3 (d : p3.ty.D) : a3 0 d = none := by kernel_rfl
theorem z5 (d : p5.ty.D) : a5 0 d = none := by kernel_rfl
theorem ok (k : Nat) : FnOk Tryz.prog (fn k) := fs (n := 25) (FnInfo.of Tryz.func74 (by kernel_rfl)) 0 so al (fun _ => Γ) (fun _ => G) (cuts) (fun k => (fn k).F) (fun _ => trivial) (fun _ => trivial) trivial ⟨z3, z5, trivial⟩ (fun k => ⟨fun d => by kernel_rfl, fun d => by kernel_rfl, trivial⟩) (fun k d => by kernel_rfl) k
end slices_Min_int_int
namespace graph_Components
def rs : Rt := (.os (.int .i64))
def al : List (Nat × List Nat) := [(1, [0]), (2, [1]), (17, [2]), (18, [3]), (20, [4]), (21, [5]), (4, [6]), (24, [7]), (5, [8]), (44, [9]), (78, [10]), (79, [11])]
def ps : Ty := (.pr (Graph.T) .un)
def fn (k : Nat) : Vm.Fn := ⟨47, ps, false, rs, fun d => f k d.1⟩
def Γ (k : Nat) : List Vm.Fn := [graph_Next.fn k, graph_finished.fn k, graph_Turn.fn k]
def G (k : Nat) : List Vm.Fg := []
def so : List So := []
def Ev (k : Nat) : Env := ⟨tab, Γ k, al, G k, so⟩
def rg : Rg := ⟨⟨95, 12, [(4, (.pt 6)), (5, (.pt 8))], [(6, (.var (.va (.sl (.sl (.int .i64)))))), (8, (.var (.sl 7))), (7, (.arr (.int .i64) true))]⟩, [6, 8, 7], 36, 37, 8⟩
def rz : Rz := ⟨73, 94, 3, 34, 35⟩
def sd : (slotsTy rg.pat.sl).D := ((), (), ())
noncomputable def z : List Item := (occFind 9 (occsK (bodyOf Tryz.f47))).getD []
theorem hz : occFind 9 (occsK (bodyOf Tryz.f47)) = some z := by kernel_rfl
theorem zb : zB z rg rz = true := by kernel_rfl
def b.al : List (Nat × List Nat) := [(44, [9]), (78, [10]), (79, [11])]
def b.Γ (k : Nat) : List Vm.Fn := [slices_Min_int_int.fn k]
def b.G (k : Nat) : List Vm.Fg := []
def b.so : List So := []
def b.p15 : Pat := ⟨95, 12, [(4, (.pt 6)), (5, (.pt 8)), (8, (.va (.int .i64))), (9, (.sl 9)), (10, (.va (.int .i64)))], [(6, (.var (.va (.sl (.sl (.int .i64)))))), (8, (.var (.sl 7))), (7, (.arr (.int .i64) true)), (9, (.arr (.int .i64) true))]⟩
def b.p18 : Pat := ⟨95, 12, [(4, (.pt 6)), (5, (.pt 8)), (8, (.va (.int .i64))), (9, (.sl 9)), (10, (.va (.int .i64))), (61, (.va (.sl (.int .i64)))), (62, (.va (.int .i64))), (63, (.va (.int .i64)))], [(6, (.var (.va (.sl (.sl (.int .i64)))))), (8, (.var (.sl 7))), (7, (.arr (.int .i64) true)), (9, (.arr (.int .i64) true))]⟩
def b.p26 : Pat := ⟨95, 12, [(5, (.pt 8)), (13, (.va (.int .i64))), (83, (.sl 9)), (84, (.va (.int .i64))), (85, (.va (.int .i64)))], [(6, (.var (.va (.sl (.sl (.int .i64)))))), (8, (.var (.sl 7))), (7, (.arr (.int .i64) true)), (9, (.arr (.int .i64) true))]⟩
def b.cuts (k : Nat) : List (Cut (objsTy rg.pat.ob).D) := [⟨15, b.p15, fun d => b.c15 k d.1.2.2.1 d.1.2.2.2.2.1 d.2.1 d.2.2.2.1 d.2.2.2.2.1⟩, ⟨18, b.p18, fun d => b.c18 k d.1.2.2.1 d.1.2.2.2.2.1 d.1.2.2.2.2.2.1 d.1.2.2.2.2.2.2.1 d.1.2.2.2.2.2.2.2.1 d.2.1 d.2.2.2.1 d.2.2.2.2.1⟩, ⟨26, b.p26, fun d => b.c26 k d.1.2.1 d.1.2.2.2.1 d.1.2.2.2.2.1 d.2.1 d.2.2.2.1 d.2.2.2.2.1⟩]
theorem b.z15 (d : b.p15.ty.D) : b.c15 0 d.1.2.2.1 d.1.2.2.2.2.1 d.2.1 d.2.2.2.1 d.2.2.2.2.1 = none := by kernel_rfl
theorem b.e15 (k : Nat) (d : b.p15.ty.D) : b.c15 (k + 1) d.1.2.2.1 d.1.2.2.2.2.1 d.2.1 d.2.2.2.1 d.2.2.2.2.1 = runX ⟨tab, b.Γ k, b.al, b.G k, b.so⟩ rg.fx rg.fin (b.cuts k) (occFind 15 (occsK [.code (zBody z)])) true (b.p15.mk' d) := by kernel_rfl
theorem b.z18 (d : b.p18.ty.D) : b.c18 0 d.1.2.2.1 d.1.2.2.2.2.1 d.1.2.2.2.2.2.1 d.1.2.2.2.2.2.2.1 d.1.2.2.2.2.2.2.2.1 d.2.1 d.2.2.2.1 d.2.2.2.2.1 = none := by kernel_rfl
theorem b.e18 (k : Nat) (d : b.p18.ty.D) : b.c18 (k + 1) d.1.2.2.1 d.1.2.2.2.2.1 d.1.2.2.2.2.2.1 d.1.2.2.2.2.2.2.1 d.1.2.2.2.2.2.2.2.1 d.2.1 d.2.2.2.1 d.2.2.2.2.1 = runX ⟨tab, b.Γ k, b.al, b.G k, b.so⟩ rg.fx rg.fin (b.cuts k) (occFind 18 (occsK [.code (zBody z)])) true (b.p18.mk' d) := by kernel_rfl
theorem b.z26 (d : b.p26.ty.D) : b.c26 0 d.1.2.1 d.1.2.2.2.1 d.1.2.2.2.2.1 d.2.1 d.2.2.2.1 d.2.2.2.2.1 = none := by kernel_rfl
theorem b.e26 (k : Nat) (d : b.p26.ty.D) : b.c26 (k + 1) d.1.2.1 d.1.2.2.2.1 d.1.2.2.2.2.1 d.2.1 d.2.2.2.1 d.2.2.2.2.1 = runX ⟨tab, b.Γ k, b.al, b.G k, b.so⟩ rg.fx rg.fin (b.cuts k) (occFind 26 (occsK [.code (zBody z)])) true (b.p26.mk' d) := by kernel_rfl
theorem b.e (k : Nat) (d : (objsTy rg.pat.ob).D) (i v : Int) : rf k d i v = runX ⟨tab, b.Γ k, b.al, b.G k, b.so⟩ rg.fx rg.fin (b.cuts k) (some [.code (zBody z)]) false (rg.start sd d i v) := by kernel_rfl
def p5 : Pat := ⟨95, 12, [(3, (.sl 3)), (4, (.pt 6)), (5, (.pt 8)), (26, (.va (.int .i64))), (27, (.va (.int .i64)))], [(3, (.arr (.int .i64) false)), (6, (.var (.sl 5))), (8, (.var (.sl 7))), (5, (.arr (.sl (.int .i64)) false)), (7, (.arr (.int .i64) true))]⟩
def p9 : Pat := ⟨95, 12, [(4, (.pt 6)), (5, (.pt 8)), (3, (.va (.sl (.int .i64))))], [(6, (.var (.va (.sl (.sl (.int .i64)))))), (8, (.var (.sl 7))), (7, (.arr (.int .i64) true))]⟩
def cuts (k : Nat) : List (Cut rs.D) := [⟨5, p5, fun d => c5 k d.1.2.2.2.1 d.1.2.2.2.2.1 d.2.1 d.2.2.2.2.1 d.2.2.2.2.2.1⟩, ⟨9, p9, fun d => c9 k d.1.2.2.1 d.2.1 d.2.2.2.1⟩]
theorem z5 (d : p5.ty.D) : c5 0 d.1.2.2.2.1 d.1.2.2.2.2.1 d.2.1 d.2.2.2.2.1 d.2.2.2.2.2.1 = none := by kernel_rfl
theorem e5 (k : Nat) (d : p5.ty.D) : c5 (k + 1) d.1.2.2.2.1 d.1.2.2.2.2.1 d.2.1 d.2.2.2.2.1 d.2.2.2.2.2.1 = runF (Ev k) Tryz.f47 false rs (cuts k) (todoAt 5 (bodyOf Tryz.f47)) true (p5.mk' d) := by kernel_rfl
theorem e9 (k : Nat) (d : p9.ty.D) : c9 k d.1.2.2.1 d.2.1 d.2.2.2.1 = cond (Nat.ble (List.length (α := Int) d.1.2.2.1) 1073741824) ((rst (rf k) d.1.2.2.1 (List.length (α := Int) d.1.2.2.1) d.2).bind fun dE => regRun (Ev k) (zTail z) false (rg.pat.mk' (sd, dE)) (finish tab Tryz.f47 false rs)) none := by kernel_rfl
theorem e (k : Nat) (d : ps.D) : f k d.1 = runF (Ev k) Tryz.f47 false rs (cuts k) (some (bodyOf Tryz.f47)) false (Vm.start ps 95 12 d) := by kernel_rfl
theorem h9 (k : Nat) : HandCut Tryz.prog Tryz.f47 (finish tab Tryz.f47 false rs) ⟨9, p9, fun d => c9 k d.1.2.2.1 d.2.1 d.2.2.2.1⟩ :=
  rangeHand mixed (g := rg) (q := rz) (by kernel_rfl) hz zb (E := fun k => ⟨tab, b.Γ k, b.al, b.G k, b.so⟩) (cuts := fun k => b.cuts k) (N := k) (fun k _ => ⟨tabOk, eqOk, AllF.mem (l := b.Γ k) (by exact ⟨slices_Min_int_int.ok k, trivial⟩), AllG.mem (l := b.G k) trivial, AllS.mem (l := b.so) trivial⟩) ⟨b.z15, b.z18, b.z26, trivial⟩ (fun k => ⟨b.e15 k, b.e18 k, b.e26 k, trivial⟩) (rf := rf k) (s := sd) (fun d i v => b.e k d i v) back73 iter94 ⟨_, _, Tryz.func94, name_ne (by kernel_rfl), rfl⟩ (ET := (Ev k)) ⟨tabOk, eqOk, AllF.mem (l := Γ k) (by exact ⟨graph_Next.ok k, graph_finished.ok k, graph_Turn.ok k, trivial⟩), AllG.mem (l := G k) trivial, AllS.mem (l := so) trivial⟩ (zs := fun d => d.1.2.2.1) (d0 := fun d => d.2) (fun d => by kernel_rfl) (fun d => e9 k d)
theorem ok (k : Nat) : FnOk Tryz.prog (fn k) := fn_soundH mixed (FnInfo.of Tryz.func47 (by kernel_rfl)) (m := 12) (T := tab) (so := so) (al := al) (Γ := fun k => Γ k) (G := fun k => G k) (cuts := fun k => cuts k) (fun k => ⟨tabOk, eqOk, AllF.mem (l := Γ k) (by exact ⟨graph_Next.ok k, graph_finished.ok k, graph_Turn.ok k, trivial⟩), AllG.mem (l := G k) trivial, AllS.mem (l := so) trivial⟩) ⟨.inl z5, .inr (h9 0), trivial⟩ (fun k => ⟨.inl (e5 k), .inr (h9 (k + 1)), trivial⟩) (F := fun k (d : ps.D) => f k d.1) (fun k d => e k d) k
end graph_Components
namespace listsched_tangled_1
def rs : Rt := (.fl .bool)
def p : Pat := ⟨8, 2, [(0, (.va (.int .i64))), (1, (.pt 0))], [(0, (.rv (.pt 1))), (1, (.mp .i64 (.int .i64)))]⟩
def fx : List Nat := [1]
def xo : List (Nat × OP) := [(1, (.mp .i64 (.int .i64)))]
def fg : Vm.Fg := ⟨48, p, fx, false, rs, xo, fun d => f d.1.1 d.2.2.1⟩
theorem ok (k : Nat) : FgOk Tryz.prog (fg) := gs (FgInfo.of Tryz.func48 (by kernel_rfl)) (pat := p) fx xo (by kernel_rfl) so al (fun _ => Γ) (fun _ => G) (fun _ => []) (fun k => (fg).F) (fun _ => trivial) (fun _ => trivial) trivial trivial (fun k => trivial) (fun k d => by kernel_rfl) k
end listsched_tangled_1
namespace slices_IndexFunc_int_int
def rs : Rt := (.fl (.int .i64))
def p : Pat := ⟨19, 2, [(0, (.va (.sl (.int .i64)))), (1, (.fn 48 (.pr (.pt 0) .un)))], [(0, (.rv (.pt 1))), (1, (.mp .i64 (.int .i64)))]⟩
def fx : List Nat := [1]
def xo : List (Nat × OP) := [(1, (.mp .i64 (.int .i64)))]
def fg (k : Nat) : Vm.Fg := ⟨49, p, fx, false, rs, xo, fun d => f k d.1.1 d.2.2.1⟩
def G (k : Nat) : List Vm.Fg := [listsched_tangled_1.fg]
def p2 : Pat := ⟨19, 2, [(0, (.va (.sl (.int .i64)))), (1, (.fn 48 (.pr (.pt 0) .un))), (7, (.va (.int .i64))), (8, (.va (.int .i64)))], [(1, (.mp .i64 (.int .i64))), (0, (.rv (.pt 1)))]⟩
def a2 (k : Nat) (d : p2.ty.D) : Option (rs.D × (objsTy xo).D) := c2 k d.1.1 d.1.2.2.1 d.1.2.2.2.1 d.2.1
def cuts (k : Nat) : List (Cut (rs.D × (objsTy xo).D)) := [⟨2, p2, a2 k⟩]
theorem z2 (d : p2.ty.D) : a2 0 d = none := by kernel_rfl
theorem ok (k : Nat) : FgOk Tryz.prog (fg k) := gs (FgInfo.of Tryz.func49 (by kernel_rfl)) (pat := p) fx xo (by kernel_rfl) so al (fun _ => Γ) (G) (cuts) (fun k => (fg k).F) (fun _ => trivial) (fun k => by exact ⟨listsched_tangled_1.ok k, trivial⟩) trivial ⟨z2, trivial⟩ (fun k => ⟨fun d => by kernel_rfl, trivial⟩) (fun k d => by kernel_rfl) k
end slices_IndexFunc_int_int
namespace slices_ContainsFunc_int_int
def rs : Rt := (.fl .bool)
def p : Pat := ⟨9, 2, [(0, (.va (.sl (.int .i64)))), (1, (.fn 48 (.pr (.pt 0) .un)))], [(0, (.rv (.pt 1))), (1, (.mp .i64 (.int .i64)))]⟩
def fx : List Nat := [1]
def xo : List (Nat × OP) := [(1, (.mp .i64 (.int .i64)))]
def fg (k : Nat) : Vm.Fg := ⟨27, p, fx, false, rs, xo, fun d => f k d.1.1 d.2.2.1⟩
def G (k : Nat) : List Vm.Fg := [slices_IndexFunc_int_int.fg k]
theorem ok (k : Nat) : FgOk Tryz.prog (fg k) := gs (FgInfo.of Tryz.func27 (by kernel_rfl)) (pat := p) fx xo (by kernel_rfl) so al (fun _ => Γ) (G) (fun _ => []) (fun k => (fg k).F) (fun _ => trivial) (fun k => by exact ⟨slices_IndexFunc_int_int.ok k, trivial⟩) trivial trivial (fun k => trivial) (fun k d => by kernel_rfl) k
end slices_ContainsFunc_int_int
namespace listsched_tangled
def rs : Rt := (.fl .bool)
def al : List (Nat × List Nat) := [(1, [0]), (3, [1]), (5, [2]), (60, [3]), (61, [4]), (65, [5]), (66, [6]), (7, [7])]
def ps : Ty := (.pr (Flow.T) .un)
def fn (k : Nat) : Vm.Fn := ⟨26, ps, false, rs, fun d => f k d.1⟩
def Γ (k : Nat) : List Vm.Fn := [dataflow_Nodes.fn, dataflow_Source.fn, graph_Components.fn k]
def G (k : Nat) : List Vm.Fg := [slices_ContainsFunc_int_int.fg k]
def p3 : Pat := ⟨84, 9, [(1, (.pt 0)), (3, (.pt 1)), (14, (.va (.sl (Arc.T)))), (15, (.va (.int .i64))), (16, (.va (.int .i64)))], [(0, (.var (.va (Flow.T)))), (1, (.var (.pr (.va (.int .i64)) (.pr (.sl 8) .un)))), (8, (.arr (Link.T) false))]⟩
def p12 : Pat := ⟨84, 9, [(1, (.pt 0)), (6, (.sl 5)), (7, (.pt 7)), (67, (.sl 5)), (68, (.va (.int .i64))), (69, (.va (.int .i64)))], [(0, (.var (.va (Flow.T)))), (5, (.arr (.int .i64) false)), (7, (.var (.pt 6))), (6, (.mp .i64 (.int .i64)))]⟩
def a3 (k : Nat) (d : p3.ty.D) : Option rs.D := c3 k d.1.2.2.1 d.1.2.2.2.1 d.1.2.2.2.2.1 d.2.1 d.2.2.1.1 d.2.2.2.1
def a12 (k : Nat) (d : p12.ty.D) : Option rs.D := c12 k d.1.2.2.2.2.1 d.1.2.2.2.2.2.1 d.2.1 d.2.2.1 d.2.2.2.2.1
def cuts (k : Nat) : List (Cut rs.D) := [⟨3, p3, a3 k⟩, ⟨12, p12, a12 k⟩]
theorem z3 (d : p3.ty.D) : a3 0 d = none := by kernel_rfl
theorem z12 (d : p12.ty.D) : a12 0 d = none := by kernel_rfl
theorem ok (k : Nat) : FnOk Tryz.prog (fn k) := fs (n := 84) (FnInfo.of Tryz.func26 (by kernel_rfl)) 9 so al (Γ) (G) (cuts) (fun k => (fn k).F) (fun k => by exact ⟨dataflow_Nodes.ok k, dataflow_Source.ok k, graph_Components.ok k, trivial⟩) (fun k => by exact ⟨slices_ContainsFunc_int_int.ok k, trivial⟩) trivial ⟨z3, z12, trivial⟩ (fun k => ⟨fun d => by kernel_rfl, fun d => by kernel_rfl, trivial⟩) (fun k d => by kernel_rfl) k
end listsched_tangled
namespace listsched_Schedule_1
def rs : Rt := (.fl .bool)
def p : Pat := ⟨5, 0, [(0, (.va (.int .i64)))], []⟩
def fx : List Nat := []
def xo : List (Nat × OP) := []
def fg : Vm.Fg := ⟨28, p, fx, false, rs, xo, fun d => f d.1.1⟩
theorem ok (k : Nat) : FgOk Tryz.prog (fg) := gs (FgInfo.of Tryz.func28 (by kernel_rfl)) (pat := p) fx xo (by kernel_rfl) so al (fun _ => Γ) (fun _ => G) (fun _ => []) (fun k => (fg).F) (fun _ => trivial) (fun _ => trivial) trivial trivial (fun k => trivial) (fun k d => by kernel_rfl) k
end listsched_Schedule_1
namespace slices_IndexFunc_int_int_i1
def rs : Rt := (.fl (.int .i64))
def p : Pat := ⟨19, 0, [(0, (.va (.sl (.int .i64)))), (1, (.fn 28 .un))], []⟩
def fx : List Nat := []
def xo : List (Nat × OP) := []
def fg (k : Nat) : Vm.Fg := ⟨49, p, fx, false, rs, xo, fun d => f k d.1.1⟩
def G (k : Nat) : List Vm.Fg := [listsched_Schedule_1.fg]
def p2 : Pat := ⟨19, 0, [(0, (.va (.sl (.int .i64)))), (1, (.fn 28 .un)), (7, (.va (.int .i64))), (8, (.va (.int .i64)))], []⟩
def a2 (k : Nat) (d : p2.ty.D) : Option (rs.D × (objsTy xo).D) := c2 k d.1.1 d.1.2.2.1 d.1.2.2.2.1
def cuts (k : Nat) : List (Cut (rs.D × (objsTy xo).D)) := [⟨2, p2, a2 k⟩]
theorem z2 (d : p2.ty.D) : a2 0 d = none := by kernel_rfl
theorem ok (k : Nat) : FgOk Tryz.prog (fg k) := gs (FgInfo.of Tryz.func49 (by kernel_rfl)) (pat := p) fx xo (by kernel_rfl) so al (fun _ => Γ) (G) (cuts) (fun k => (fg k).F) (fun _ => trivial) (fun k => by exact ⟨listsched_Schedule_1.ok k, trivial⟩) trivial ⟨z2, trivial⟩ (fun k => ⟨fun d => by kernel_rfl, trivial⟩) (fun k d => by kernel_rfl) k
end slices_IndexFunc_int_int_i1
namespace slices_ContainsFunc_int_int_i1
def rs : Rt := (.fl .bool)
def p : Pat := ⟨9, 0, [(0, (.va (.sl (.int .i64)))), (1, (.fn 28 .un))], []⟩
def fx : List Nat := []
def xo : List (Nat × OP) := []
def fg (k : Nat) : Vm.Fg := ⟨27, p, fx, false, rs, xo, fun d => f k d.1.1⟩
def G (k : Nat) : List Vm.Fg := [slices_IndexFunc_int_int_i1.fg k]
theorem ok (k : Nat) : FgOk Tryz.prog (fg k) := gs (FgInfo.of Tryz.func27 (by kernel_rfl)) (pat := p) fx xo (by kernel_rfl) so al (fun _ => Γ) (G) (fun _ => []) (fun k => (fg k).F) (fun _ => trivial) (fun k => by exact ⟨slices_IndexFunc_int_int_i1.ok k, trivial⟩) trivial trivial (fun k => trivial) (fun k d => by kernel_rfl) k
end slices_ContainsFunc_int_int_i1
namespace bits_Mul64
def rs : Rt := (.pr (.fl (.int .u64)) (.pr (.fl (.int .u64)) .un))
def ps : Ty := (.pr (.int .u64) (.pr (.int .u64) .un))
def fn : Vm.Fn := ⟨76, ps, true, rs, fun d => f d.1 d.2.1⟩
theorem ok (k : Nat) : FnOk Tryz.prog (fn) := fs (n := 51) (FnInfo.of Tryz.func76 (by kernel_rfl)) 0 so al (fun _ => Γ) (fun _ => G) (fun _ => []) (fun k => (fn).F) (fun _ => trivial) (fun _ => trivial) trivial trivial (fun k => trivial) (fun k d => by kernel_rfl) k
end bits_Mul64
namespace bits_Mul
def rs : Rt := (.pr (.fl (.int .u64)) (.pr (.fl (.int .u64)) .un))
def ps : Ty := (.pr (.int .u64) (.pr (.int .u64) .un))
def fn : Vm.Fn := ⟨50, ps, true, rs, fun d => f d.1 d.2.1⟩
def Γ : List Vm.Fn := [bits_Mul64.fn]
theorem ok (k : Nat) : FnOk Tryz.prog (fn) := fs (n := 30) (FnInfo.of Tryz.func50 (by kernel_rfl)) 0 so al (fun _ => Γ) (fun _ => G) (fun _ => []) (fun k => (fn).F) (fun k => by exact ⟨bits_Mul64.ok k, trivial⟩) (fun _ => trivial) trivial trivial (fun k => trivial) (fun k d => by kernel_rfl) k
end bits_Mul
namespace slices_Repeat_int_int
def rs : Rt := (.os (.int .i64))
def al : List (Nat × List Nat) := [(4, [0]), (30, [1])]
def ps : Ty := (.pr (.sl (.int .i64)) (.pr (.int .i64) .un))
def fn (k : Nat) : Vm.Fn := ⟨29, ps, false, rs, fun d => f k d.1 d.2.1⟩
def Γ (k : Nat) : List Vm.Fn := [bits_Mul.fn]
def p3 : Pat := ⟨48, 2, [(0, (.va (.sl (.int .i64)))), (1, (.va (.int .i64)))], []⟩
def p6 : Pat := ⟨48, 2, [(0, (.va (.sl (.int .i64)))), (6, (.va (.int .u64)))], []⟩
def p8 : Pat := ⟨48, 2, [(7, (.sl 1)), (8, (.va (.int .i64)))], [(1, (.arr (.int .i64) true))]⟩
def a3 (k : Nat) (d : p3.ty.D) : Option rs.D := c3 k d.1.1 d.1.2.1
def a6 (k : Nat) (d : p6.ty.D) : Option rs.D := c6 k d.1.1 d.1.2.1
def a8 (k : Nat) (d : p8.ty.D) : Option rs.D := c8 k d.1.2.1 d.2.1
def cuts (k : Nat) : List (Cut rs.D) := [⟨3, p3, a3 k⟩, ⟨6, p6, a6 k⟩, ⟨8, p8, a8 k⟩]
theorem z3 (d : p3.ty.D) : a3 0 d = none := by kernel_rfl
theorem z6 (d : p6.ty.D) : a6 0 d = none := by kernel_rfl
theorem z8 (d : p8.ty.D) : a8 0 d = none := by kernel_rfl
theorem ok (k : Nat) : FnOk Tryz.prog (fn k) := fs (n := 48) (FnInfo.of Tryz.func29 (by kernel_rfl)) 2 so al (Γ) (fun _ => G) (cuts) (fun k => (fn k).F) (fun k => by exact ⟨bits_Mul.ok k, trivial⟩) (fun _ => trivial) trivial ⟨z3, z6, z8, trivial⟩ (fun k => ⟨fun d => by kernel_rfl, fun d => by kernel_rfl, fun d => by kernel_rfl, trivial⟩) (fun k d => by kernel_rfl) k
end slices_Repeat_int_int
namespace listsched_lister_soon
def rs : Rt := (.fl (.int .i64))
def al : List (Nat × List Nat) := [(10, [1])]
def p : Pat := ⟨68, 2, [(0, (.pt 0)), (1, (.va (.sl .bool))), (2, (.va (.int .i64)))], [(0, (.rv (.pr (.va (Flow.T)) (.pr (.pr (.va (.int .i64)) (.pr (.va (.int .i64)) (.pr (.va (.sl (.int .i64))) (.pr (.va (.sl (.int .i64))) (.pr (.va (.sl (.int .i64))) .un))))) (.pr (.va (.sl (.int .i64))) (.pr (.va (.sl (.int .i64))) (.pr (.va (.sl (.sl (.int .i64)))) (.pr (.va (.sl (.sl (Arc.T)))) .un))))))))]⟩
def fx : List Nat := []
def xo : List (Nat × OP) := []
def fg (k : Nat) : Vm.Fg := ⟨51, p, fx, false, rs, xo, fun d => f k d.1.2.1 d.1.2.2.1 d.2.1.1 d.2.1.2.1.1 d.2.1.2.1.2.1 d.2.1.2.1.2.2.1 d.2.1.2.1.2.2.2.1 d.2.1.2.1.2.2.2.2.1 d.2.1.2.2.1 d.2.1.2.2.2.1 d.2.1.2.2.2.2.1 d.2.1.2.2.2.2.2.1⟩
def Γ (k : Nat) : List Vm.Fn := [slices_Min_int_int.fn k]
def p3 : Pat := ⟨68, 2, [(0, (.pt 0)), (1, (.va (.sl .bool))), (2, (.va (.int .i64))), (7, (.va (.int .i64))), (12, (.va (.int .i64))), (13, (.va (.int .i64)))], [(0, (.rv (.pr (.va (Flow.T)) (.pr (.pr (.va (.int .i64)) (.pr (.va (.int .i64)) (.pr (.va (.sl (.int .i64))) (.pr (.va (.sl (.int .i64))) (.pr (.va (.sl (.int .i64))) .un))))) (.pr (.va (.sl (.int .i64))) (.pr (.va (.sl (.int .i64))) (.pr (.va (.sl (.sl (.int .i64)))) (.pr (.va (.sl (.sl (Arc.T)))) .un))))))))]⟩
def a3 (k : Nat) (d : p3.ty.D) : Option (rs.D × (objsTy xo).D) := c3 k d.1.2.1 d.1.2.2.1 d.1.2.2.2.1 d.1.2.2.2.2.1 d.1.2.2.2.2.2.1 d.2.1.1 d.2.1.2.1.1 d.2.1.2.1.2.1 d.2.1.2.1.2.2.1 d.2.1.2.1.2.2.2.1 d.2.1.2.1.2.2.2.2.1 d.2.1.2.2.1 d.2.1.2.2.2.1 d.2.1.2.2.2.2.1 d.2.1.2.2.2.2.2.1
def cuts (k : Nat) : List (Cut (rs.D × (objsTy xo).D)) := [⟨3, p3, a3 k⟩]
theorem z3 (d : p3.ty.D) : a3 0 d = none := by kernel_rfl
theorem ok (k : Nat) : FgOk Tryz.prog (fg k) := gs (FgInfo.of Tryz.func51 (by kernel_rfl)) (pat := p) fx xo (by kernel_rfl) so al (Γ) (fun _ => G) (cuts) (fun k => (fg k).F) (fun k => by exact ⟨slices_Min_int_int.ok k, trivial⟩) (fun _ => trivial) trivial ⟨z3, trivial⟩ (fun k => ⟨fun d => by kernel_rfl, trivial⟩) (fun k d => by kernel_rfl) k
end listsched_lister_soon
namespace listsched_queue_Push_i4
def rs : Rt := .un
def al : List (Nat × List Nat) := [(11, [3]), (12, [4])]
def p : Pat := ⟨15, 5, [(0, (.pt 0)), (1, (.fn 1000000003 (.pr (.va (.int .i64)) .un)))], [(0, (.var (.pr (.sl 1) (.pr (.sl 2) .un)))), (1, (.arr (.int .i64) false)), (2, (.arr (.int .i64) false))]⟩
def fx : List Nat := [0, 2]
def xo : List (Nat × OP) := [(0, (.var (.pr (.sl 4) (.pr (.sl 2) .un)))), (2, (.arr (.int .i64) false)), (4, (.arr (.int .i64) true))]
def fg : Vm.Fg := ⟨146, p, fx, true, rs, xo, fun d => f d.1.2.1.1 d.2.2.1 d.2.2.2.1⟩
theorem ok (k : Nat) : FgOk Tryz.prog (fg) := gs (FgInfo.of Tryz.func146 (by kernel_rfl)) (pat := p) fx xo (by kernel_rfl) so al (fun _ => Γ) (fun _ => G) (fun _ => []) (fun k => (fg).F) (fun _ => trivial) (fun _ => trivial) trivial trivial (fun k => trivial) (fun k d => by kernel_rfl) k
end listsched_queue_Push_i4
namespace listsched_queue_Len
def rs : Rt := (.fl (.int .i64))
def p : Pat := ⟨8, 1, [(0, (.pt 0))], [(0, (.rv (.pr (.va (.sl (.int .i64))) (.pr (.va (.sl (.int .i64))) .un))))]⟩
def fx : List Nat := []
def xo : List (Nat × OP) := []
def fg : Vm.Fg := ⟨53, p, fx, false, rs, xo, fun d => f d.2.1.1 d.2.1.2.1⟩
theorem ok (k : Nat) : FgOk Tryz.prog (fg) := gs (FgInfo.of Tryz.func53 (by kernel_rfl)) (pat := p) fx xo (by kernel_rfl) so al (fun _ => Γ) (fun _ => G) (fun _ => []) (fun k => (fg).F) (fun _ => trivial) (fun _ => trivial) trivial trivial (fun k => trivial) (fun k d => by kernel_rfl) k
end listsched_queue_Len
namespace listsched_queue_Less
def rs : Rt := (.fl .bool)
def p : Pat := ⟨56, 1, [(0, (.pt 0)), (1, (.va (.int .i64))), (2, (.va (.int .i64)))], [(0, (.rv (.pr (.va (.sl (.int .i64))) (.pr (.va (.sl (.int .i64))) .un))))]⟩
def fx : List Nat := []
def xo : List (Nat × OP) := []
def fg : Vm.Fg := ⟨144, p, fx, false, rs, xo, fun d => f d.1.2.1 d.1.2.2.1 d.2.1.1 d.2.1.2.1⟩
theorem ok (k : Nat) : FgOk Tryz.prog (fg) := gs (FgInfo.of Tryz.func144 (by kernel_rfl)) (pat := p) fx xo (by kernel_rfl) so al (fun _ => Γ) (fun _ => G) (fun _ => []) (fun k => (fg).F) (fun _ => trivial) (fun _ => trivial) trivial trivial (fun k => trivial) (fun k d => by kernel_rfl) k
end listsched_queue_Less
namespace listsched_queue_Swap_i1
def rs : Rt := .un
def p : Pat := ⟨32, 2, [(0, (.pt 0)), (1, (.va (.int .i64))), (2, (.va (.int .i64)))], [(0, (.rv (.pr (.sl 1) (.pr (.va (.sl (.int .i64))) .un)))), (1, (.arr (.int .i64) true))]⟩
def fx : List Nat := [1]
def xo : List (Nat × OP) := [(1, (.arr (.int .i64) true))]
def fg : Vm.Fg := ⟨147, p, fx, true, rs, xo, fun d => f d.1.2.1 d.1.2.2.1 d.2.1.2.1 d.2.2.1⟩
theorem ok (k : Nat) : FgOk Tryz.prog (fg) := gs (FgInfo.of Tryz.func147 (by kernel_rfl)) (pat := p) fx xo (by kernel_rfl) so al (fun _ => Γ) (fun _ => G) (fun _ => []) (fun k => (fg).F) (fun _ => trivial) (fun _ => trivial) trivial trivial (fun k => trivial) (fun k d => by kernel_rfl) k
end listsched_queue_Swap_i1
namespace heap_up_i1
def rs : Rt := .un
def p : Pat := ⟨23, 2, [(0, (.fn 1000000087 (.pr (.pt 0) .un))), (1, (.va (.int .i64)))], [(0, (.rv (.pr (.sl 1) (.pr (.va (.sl (.int .i64))) .un)))), (1, (.arr (.int .i64) true))]⟩
def fx : List Nat := [1]
def xo : List (Nat × OP) := [(1, (.arr (.int .i64) true))]
def fg (k : Nat) : Vm.Fg := ⟨77, p, fx, true, rs, xo, fun d => f k d.1.2.1 d.2.1.2.1 d.2.2.1⟩
def G (k : Nat) : List Vm.Fg := [listsched_queue_Less.fg, listsched_queue_Swap_i1.fg]
def p0 : Pat := ⟨23, 2, [(0, (.fn 1000000087 (.pr (.pt 0) .un))), (1, (.va (.int .i64)))], [(1, (.arr (.int .i64) true)), (0, (.rv (.pr (.sl 1) (.pr (.va (.sl (.int .i64))) .un))))]⟩
def a0 (k : Nat) (d : p0.ty.D) : Option (rs.D × (objsTy xo).D) := c0 k d.1.2.1 d.2.1 d.2.2.1.2.1
def cuts (k : Nat) : List (Cut (rs.D × (objsTy xo).D)) := [⟨0, p0, a0 k⟩]
theorem z0 (d : p0.ty.D) : a0 0 d = none := by kernel_rfl
theorem ok (k : Nat) : FgOk Tryz.prog (fg k) := gs (FgInfo.of Tryz.func77 (by kernel_rfl)) (pat := p) fx xo (by kernel_rfl) so al (fun _ => Γ) (G) (cuts) (fun k => (fg k).F) (fun _ => trivial) (fun k => by exact ⟨listsched_queue_Less.ok k, listsched_queue_Swap_i1.ok k, trivial⟩) trivial ⟨z0, trivial⟩ (fun k => ⟨fun d => by kernel_rfl, trivial⟩) (fun k d => by kernel_rfl) k
end heap_up_i1
namespace heap_Push_i4
def rs : Rt := .un
def al : List (Nat × List Nat) := [(6, [3, 4])]
def p : Pat := ⟨12, 5, [(0, (.fn 1000000087 (.pr (.pt 0) .un))), (1, (.fn 1000000003 (.pr (.va (.int .i64)) .un)))], [(0, (.var (.pr (.sl 1) (.pr (.sl 2) .un)))), (1, (.arr (.int .i64) false)), (2, (.arr (.int .i64) false))]⟩
def fx : List Nat := [0, 2]
def xo : List (Nat × OP) := [(0, (.var (.pr (.sl 3) (.pr (.sl 2) .un)))), (2, (.arr (.int .i64) false)), (3, (.arr (.int .i64) true))]
def fg (k : Nat) : Vm.Fg := ⟨52, p, fx, true, rs, xo, fun d => f k d.1.2.1.1 d.2.2.1 d.2.2.2.1⟩
def G (k : Nat) : List Vm.Fg := [listsched_queue_Push_i4.fg, listsched_queue_Len.fg, heap_up_i1.fg k]
theorem ok (k : Nat) : FgOk Tryz.prog (fg k) := gs (FgInfo.of Tryz.func52 (by kernel_rfl)) (pat := p) fx xo (by kernel_rfl) so al (fun _ => Γ) (G) (fun _ => []) (fun k => (fg k).F) (fun _ => trivial) (fun k => by exact ⟨listsched_queue_Push_i4.ok k, listsched_queue_Len.ok k, heap_up_i1.ok k, trivial⟩) trivial trivial (fun k => trivial) (fun k d => by kernel_rfl) k
end heap_Push_i4
namespace listsched_queue_Swap_i2
def rs : Rt := .un
def p : Pat := ⟨32, 2, [(0, (.pt 0)), (1, (.va (.int .i64))), (2, (.va (.int .i64)))], [(0, (.rv (.pr (.sl 1) (.pr (.va (.sl (.int .i64))) .un)))), (1, (.arr (.int .i64) false))]⟩
def fx : List Nat := [1]
def xo : List (Nat × OP) := [(1, (.arr (.int .i64) false))]
def fg : Vm.Fg := ⟨147, p, fx, true, rs, xo, fun d => f d.1.2.1 d.1.2.2.1 d.2.1.2.1 d.2.2.1⟩
theorem ok (k : Nat) : FgOk Tryz.prog (fg) := gs (FgInfo.of Tryz.func147 (by kernel_rfl)) (pat := p) fx xo (by kernel_rfl) so al (fun _ => Γ) (fun _ => G) (fun _ => []) (fun k => (fg).F) (fun _ => trivial) (fun _ => trivial) trivial trivial (fun k => trivial) (fun k d => by kernel_rfl) k
end listsched_queue_Swap_i2
namespace heap_down_i1
def rs : Rt := (.fl .bool)
def p : Pat := ⟨48, 2, [(0, (.fn 1000000087 (.pr (.pt 0) .un))), (1, (.va (.int .i64))), (2, (.va (.int .i64)))], [(0, (.rv (.pr (.sl 1) (.pr (.va (.sl (.int .i64))) .un)))), (1, (.arr (.int .i64) false))]⟩
def fx : List Nat := [1]
def xo : List (Nat × OP) := [(1, (.arr (.int .i64) false))]
def fg (k : Nat) : Vm.Fg := ⟨78, p, fx, false, rs, xo, fun d => f k d.1.2.1 d.1.2.2.1 d.2.1.2.1 d.2.2.1⟩
def G (k : Nat) : List Vm.Fg := [listsched_queue_Less.fg, listsched_queue_Swap_i2.fg]
def p2 : Pat := ⟨48, 2, [(0, (.fn 1000000087 (.pr (.pt 0) .un))), (1, (.va (.int .i64))), (2, (.va (.int .i64))), (7, (.va (.int .i64)))], [(1, (.arr (.int .i64) false)), (0, (.rv (.pr (.sl 1) (.pr (.va (.sl (.int .i64))) .un))))]⟩
def p8 : Pat := ⟨48, 2, [(0, (.fn 1000000087 (.pr (.pt 0) .un))), (1, (.va (.int .i64))), (2, (.va (.int .i64))), (7, (.va (.int .i64))), (9, (.va (.int .i64)))], [(1, (.arr (.int .i64) false)), (0, (.rv (.pr (.sl 1) (.pr (.va (.sl (.int .i64))) .un))))]⟩
def a2 (k : Nat) (d : p2.ty.D) : Option (rs.D × (objsTy xo).D) := c2 k d.1.2.1 d.1.2.2.1 d.1.2.2.2.1 d.2.1 d.2.2.1.2.1
def a8 (k : Nat) (d : p8.ty.D) : Option (rs.D × (objsTy xo).D) := c8 k d.1.2.1 d.1.2.2.1 d.1.2.2.2.1 d.1.2.2.2.2.1 d.2.1 d.2.2.1.2.1
def cuts (k : Nat) : List (Cut (rs.D × (objsTy xo).D)) := [⟨2, p2, a2 k⟩, ⟨8, p8, a8 k⟩]
theorem z2 (d : p2.ty.D) : a2 0 d = none := by kernel_rfl
theorem z8 (d : p8.ty.D) : a8 0 d = none := by kernel_rfl
theorem ok (k : Nat) : FgOk Tryz.prog (fg k) := gs (FgInfo.of Tryz.func78 (by kernel_rfl)) (pat := p) fx xo (by kernel_rfl) so al (fun _ => Γ) (G) (cuts) (fun k => (fg k).F) (fun _ => trivial) (fun k => by exact ⟨listsched_queue_Less.ok k, listsched_queue_Swap_i2.ok k, trivial⟩) trivial ⟨z2, z8, trivial⟩ (fun k => ⟨fun d => by kernel_rfl, fun d => by kernel_rfl, trivial⟩) (fun k d => by kernel_rfl) k
end heap_down_i1
namespace listsched_queue_Pop_i3
def rs : Rt := (.fi 3 (.int .i64))
def al : List (Nat × List Nat) := [(27, [3])]
def p : Pat := ⟨32, 4, [(0, (.pt 0))], [(0, (.var (.pr (.sl 1) (.pr (.sl 2) .un)))), (1, (.arr (.int .i64) false)), (2, (.arr (.int .i64) false))]⟩
def fx : List Nat := [0, 2]
def xo : List (Nat × OP) := [(0, (.var (.pr (.sl 3) (.pr (.sl 2) .un)))), (2, (.arr (.int .i64) false)), (3, (.arr (.int .i64) false))]
def fg : Vm.Fg := ⟨145, p, fx, false, rs, xo, fun d => f d.2.2.1 d.2.2.2.1⟩
theorem ok (k : Nat) : FgOk Tryz.prog (fg) := gs (FgInfo.of Tryz.func145 (by kernel_rfl)) (pat := p) fx xo (by kernel_rfl) so al (fun _ => Γ) (fun _ => G) (fun _ => []) (fun k => (fg).F) (fun _ => trivial) (fun _ => trivial) trivial trivial (fun k => trivial) (fun k d => by kernel_rfl) k
end listsched_queue_Pop_i3
namespace heap_Pop_i3
def rs : Rt := (.fi 3 (.int .i64))
def al : List (Nat × List Nat) := [(14, [3, 4])]
def p : Pat := ⟨15, 5, [(0, (.fn 1000000087 (.pr (.pt 0) .un)))], [(0, (.var (.pr (.sl 1) (.pr (.sl 2) .un)))), (1, (.arr (.int .i64) false)), (2, (.arr (.int .i64) false))]⟩
def fx : List Nat := [0, 2]
def xo : List (Nat × OP) := [(0, (.var (.pr (.sl 3) (.pr (.sl 2) .un)))), (2, (.arr (.int .i64) false)), (3, (.arr (.int .i64) false))]
def fg (k : Nat) : Vm.Fg := ⟨54, p, fx, false, rs, xo, fun d => f k d.2.2.1 d.2.2.2.1⟩
def G (k : Nat) : List Vm.Fg := [listsched_queue_Len.fg, listsched_queue_Swap_i2.fg, heap_down_i1.fg k, listsched_queue_Pop_i3.fg]
theorem ok (k : Nat) : FgOk Tryz.prog (fg k) := gs (FgInfo.of Tryz.func54 (by kernel_rfl)) (pat := p) fx xo (by kernel_rfl) so al (fun _ => Γ) (G) (fun _ => []) (fun k => (fg k).F) (fun _ => trivial) (fun k => by exact ⟨listsched_queue_Len.ok k, listsched_queue_Swap_i2.ok k, heap_down_i1.ok k, listsched_queue_Pop_i3.ok k, trivial⟩) trivial trivial (fun k => trivial) (fun k d => by kernel_rfl) k
end heap_Pop_i3
namespace listsched_lister_unit_1
def rs : Rt := (.fl .bool)
def p : Pat := ⟨7, 1, [(0, (.va (.int .i64))), (1, (.pt 0))], [(0, (.rv (.va (.int .i64))))]⟩
def fx : List Nat := []
def xo : List (Nat × OP) := []
def fg : Vm.Fg := ⟨79, p, fx, false, rs, xo, fun d => f d.1.1 d.2.1⟩
theorem ok (k : Nat) : FgOk Tryz.prog (fg) := gs (FgInfo.of Tryz.func79 (by kernel_rfl)) (pat := p) fx xo (by kernel_rfl) so al (fun _ => Γ) (fun _ => G) (fun _ => []) (fun k => (fg).F) (fun _ => trivial) (fun _ => trivial) trivial trivial (fun k => trivial) (fun k d => by kernel_rfl) k
end listsched_lister_unit_1
namespace slices_IndexFunc_int_int_i2
def rs : Rt := (.fl (.int .i64))
def p : Pat := ⟨19, 1, [(0, (.va (.sl (.int .i64)))), (1, (.fn 79 (.pr (.pt 0) .un)))], [(0, (.rv (.va (.int .i64))))]⟩
def fx : List Nat := []
def xo : List (Nat × OP) := []
def fg (k : Nat) : Vm.Fg := ⟨49, p, fx, false, rs, xo, fun d => f k d.1.1 d.2.1⟩
def G (k : Nat) : List Vm.Fg := [listsched_lister_unit_1.fg]
def p2 : Pat := ⟨19, 1, [(0, (.va (.sl (.int .i64)))), (1, (.fn 79 (.pr (.pt 0) .un))), (7, (.va (.int .i64))), (8, (.va (.int .i64)))], [(0, (.rv (.va (.int .i64))))]⟩
def a2 (k : Nat) (d : p2.ty.D) : Option (rs.D × (objsTy xo).D) := c2 k d.1.1 d.1.2.2.1 d.1.2.2.2.1 d.2.1
def cuts (k : Nat) : List (Cut (rs.D × (objsTy xo).D)) := [⟨2, p2, a2 k⟩]
theorem z2 (d : p2.ty.D) : a2 0 d = none := by kernel_rfl
theorem ok (k : Nat) : FgOk Tryz.prog (fg k) := gs (FgInfo.of Tryz.func49 (by kernel_rfl)) (pat := p) fx xo (by kernel_rfl) so al (fun _ => Γ) (G) (cuts) (fun k => (fg k).F) (fun _ => trivial) (fun k => by exact ⟨listsched_lister_unit_1.ok k, trivial⟩) trivial ⟨z2, trivial⟩ (fun k => ⟨fun d => by kernel_rfl, trivial⟩) (fun k d => by kernel_rfl) k
end slices_IndexFunc_int_int_i2
namespace listsched_lister_unit
def rs : Rt := (.fl (.int .i64))
def al : List (Nat × List Nat) := [(5, [1])]
def p : Pat := ⟨16, 2, [(0, (.pt 0)), (1, (.va (.int .i64))), (2, (.va (.int .i64)))], [(0, (.rv (.pr (.va (Flow.T)) (.pr (.pr (.va (.int .i64)) (.pr (.va (.int .i64)) (.pr (.va (.sl (.int .i64))) (.pr (.va (.sl (.int .i64))) (.pr (.va (.sl (.int .i64))) .un))))) (.pr (.va (.sl (.int .i64))) (.pr (.va (.sl (.int .i64))) (.pr (.va (.sl (.sl (.int .i64)))) (.pr (.va (.sl (.sl (Arc.T)))) .un))))))))]⟩
def fx : List Nat := []
def xo : List (Nat × OP) := []
def fg (k : Nat) : Vm.Fg := ⟨55, p, fx, false, rs, xo, fun d => f k d.1.2.1 d.1.2.2.1 d.2.1.1 d.2.1.2.1.1 d.2.1.2.1.2.1 d.2.1.2.1.2.2.1 d.2.1.2.1.2.2.2.1 d.2.1.2.1.2.2.2.2.1 d.2.1.2.2.1 d.2.1.2.2.2.1 d.2.1.2.2.2.2.1 d.2.1.2.2.2.2.2.1⟩
def G (k : Nat) : List Vm.Fg := [slices_IndexFunc_int_int_i2.fg k]
theorem ok (k : Nat) : FgOk Tryz.prog (fg k) := gs (FgInfo.of Tryz.func55 (by kernel_rfl)) (pat := p) fx xo (by kernel_rfl) so al (fun _ => Γ) (G) (fun _ => []) (fun k => (fg k).F) (fun _ => trivial) (fun k => by exact ⟨slices_IndexFunc_int_int_i2.ok k, trivial⟩) trivial trivial (fun k => trivial) (fun k d => by kernel_rfl) k
end listsched_lister_unit
namespace listsched_lister_place_i3
def rs : Rt := .un
def al : List (Nat × List Nat) := [(7, [4])]
def p : Pat := ⟨59, 5, [(0, (.pt 0)), (1, (.va (.int .i64))), (2, (.va (.int .i64)))], [(0, (.rv (.pr (.va (Flow.T)) (.pr (.pr (.va (.int .i64)) (.pr (.va (.int .i64)) (.pr (.sl 1) (.pr (.va (.sl (.int .i64))) (.pr (.va (.sl (.int .i64))) .un))))) (.pr (.sl 2) (.pr (.sl 3) (.pr (.va (.sl (.sl (.int .i64)))) (.pr (.va (.sl (.sl (Arc.T)))) .un)))))))), (1, (.arr (.int .i64) true)), (2, (.arr (.int .i64) true)), (3, (.arr (.int .i64) true))]⟩
def fx : List Nat := [1, 2, 3]
def xo : List (Nat × OP) := [(1, (.arr (.int .i64) true)), (2, (.arr (.int .i64) true)), (3, (.arr (.int .i64) true))]
def fg (k : Nat) : Vm.Fg := ⟨56, p, fx, true, rs, xo, fun d => f k d.1.2.1 d.1.2.2.1 d.2.1.1 d.2.1.2.1.1 d.2.1.2.1.2.1 d.2.1.2.1.2.2.2.1 d.2.1.2.1.2.2.2.2.1 d.2.1.2.2.2.2.1 d.2.1.2.2.2.2.2.1 d.2.2.1 d.2.2.2.1 d.2.2.2.2.1⟩
def p2 : Pat := ⟨59, 5, [(0, (.pt 0)), (2, (.va (.int .i64))), (22, (.va (.sl (Arc.T)))), (23, (.va (.int .i64))), (24, (.va (.int .i64)))], [(1, (.arr (.int .i64) true)), (2, (.arr (.int .i64) true)), (3, (.arr (.int .i64) true)), (0, (.rv (.pr (.va (Flow.T)) (.pr (.pr (.va (.int .i64)) (.pr (.va (.int .i64)) (.pr (.sl 1) (.pr (.va (.sl (.int .i64))) (.pr (.va (.sl (.int .i64))) .un))))) (.pr (.sl 2) (.pr (.sl 3) (.pr (.va (.sl (.sl (.int .i64)))) (.pr (.va (.sl (.sl (Arc.T)))) .un))))))))]⟩
def a2 (k : Nat) (d : p2.ty.D) : Option (rs.D × (objsTy xo).D) := c2 k d.1.2.1 d.1.2.2.1 d.1.2.2.2.1 d.1.2.2.2.2.1 d.2.1 d.2.2.1 d.2.2.2.1 d.2.2.2.2.1.1 d.2.2.2.2.1.2.1.1 d.2.2.2.2.1.2.1.2.1 d.2.2.2.2.1.2.1.2.2.2.1 d.2.2.2.2.1.2.1.2.2.2.2.1 d.2.2.2.2.1.2.2.2.2.1 d.2.2.2.2.1.2.2.2.2.2.1
def cuts (k : Nat) : List (Cut (rs.D × (objsTy xo).D)) := [⟨2, p2, a2 k⟩]
theorem z2 (d : p2.ty.D) : a2 0 d = none := by kernel_rfl
theorem ok (k : Nat) : FgOk Tryz.prog (fg k) := gs (FgInfo.of Tryz.func56 (by kernel_rfl)) (pat := p) fx xo (by kernel_rfl) so al (fun _ => Γ) (fun _ => G) (cuts) (fun k => (fg k).F) (fun _ => trivial) (fun _ => trivial) trivial ⟨z2, trivial⟩ (fun k => ⟨fun d => by kernel_rfl, trivial⟩) (fun k d => by kernel_rfl) k
end listsched_lister_place_i3
namespace listsched_lister_run_i6
def rs : Rt := (.fl .bool)
def al : List (Nat × List Nat) := [(20, [7]), (46, [8]), (81, [9, 10]), (88, [11, 12]), (13, [13])]
def p : Pat := ⟨139, 15, [(0, (.pt 0)), (1, (.sl 1))], [(0, (.rv (.pr (.va (Flow.T)) (.pr (.pr (.va (.int .i64)) (.pr (.va (.int .i64)) (.pr (.sl 2) (.pr (.va (.sl (.int .i64))) (.pr (.sl 3) .un))))) (.pr (.sl 4) (.pr (.sl 5) (.pr (.sl 6) (.pr (.va (.sl (.sl (Arc.T)))) .un)))))))), (1, (.arr (.int .i64) false)), (2, (.arr (.int .i64) true)), (3, (.arr (.int .i64) false)), (4, (.arr (.int .i64) true)), (5, (.arr (.int .i64) true)), (6, (.arr (.sl (.int .i64)) false))]⟩
def fx : List Nat := [1, 2, 3, 4, 5, 6]
def xo : List (Nat × OP) := [(1, (.arr (.int .i64) false)), (2, (.arr (.int .i64) true)), (3, (.arr (.int .i64) false)), (4, (.arr (.int .i64) true)), (5, (.arr (.int .i64) true)), (6, (.arr (.sl (.int .i64)) false))]
def fg (k : Nat) : Vm.Fg := ⟨31, p, fx, false, rs, xo, fun d => f k d.2.1.1 d.2.1.2.1.1 d.2.1.2.1.2.1 d.2.1.2.1.2.2.2.1 d.2.1.2.2.2.2.2.1 d.2.2.1 d.2.2.2.1 d.2.2.2.2.1 d.2.2.2.2.2.1 d.2.2.2.2.2.2.1 d.2.2.2.2.2.2.2.1⟩
def G (k : Nat) : List Vm.Fg := [listsched_lister_soon.fg k, heap_Push_i4.fg k, listsched_queue_Len.fg, heap_Pop_i3.fg k, listsched_lister_unit.fg k, listsched_lister_place_i3.fg k]
def p3 : Pat := ⟨139, 15, [(0, (.pt 0)), (1, (.sl 1)), (5, (.sl 7)), (22, (.va (.int .i64))), (23, (.va (.int .i64)))], [(1, (.arr (.int .i64) false)), (2, (.arr (.int .i64) true)), (3, (.arr (.int .i64) false)), (4, (.arr (.int .i64) true)), (5, (.arr (.int .i64) true)), (6, (.arr (.sl (.int .i64)) false)), (0, (.rv (.pr (.va (Flow.T)) (.pr (.pr (.va (.int .i64)) (.pr (.va (.int .i64)) (.pr (.sl 2) (.pr (.va (.sl (.int .i64))) (.pr (.sl 3) .un))))) (.pr (.sl 4) (.pr (.sl 5) (.pr (.sl 6) (.pr (.va (.sl (.sl (Arc.T)))) .un)))))))), (7, (.arr .bool true))]⟩
def p9 : Pat := ⟨139, 15, [(0, (.pt 0)), (1, (.sl 1)), (5, (.sl 7)), (7, (.va (.int .i64))), (8, (.va (.int .i64)))], [(1, (.arr (.int .i64) false)), (2, (.arr (.int .i64) true)), (3, (.arr (.int .i64) false)), (4, (.arr (.int .i64) true)), (5, (.arr (.int .i64) true)), (6, (.arr (.sl (.int .i64)) false)), (0, (.rv (.pr (.va (Flow.T)) (.pr (.pr (.va (.int .i64)) (.pr (.va (.int .i64)) (.pr (.sl 2) (.pr (.va (.sl (.int .i64))) (.pr (.sl 3) .un))))) (.pr (.sl 4) (.pr (.sl 5) (.pr (.sl 6) (.pr (.va (.sl (.sl (Arc.T)))) .un)))))))), (7, (.arr .bool true))]⟩
def p14 : Pat := ⟨139, 15, [(0, (.pt 0)), (1, (.sl 1)), (5, (.sl 7)), (7, (.va (.int .i64))), (8, (.va (.int .i64))), (9, (.va .bool))], [(1, (.arr (.int .i64) false)), (2, (.arr (.int .i64) true)), (3, (.arr (.int .i64) false)), (4, (.arr (.int .i64) true)), (5, (.arr (.int .i64) true)), (6, (.arr (.sl (.int .i64)) false)), (0, (.rv (.pr (.va (Flow.T)) (.pr (.pr (.va (.int .i64)) (.pr (.va (.int .i64)) (.pr (.sl 2) (.pr (.va (.sl (.int .i64))) (.pr (.sl 3) .un))))) (.pr (.sl 4) (.pr (.sl 5) (.pr (.sl 6) (.pr (.va (.sl (.sl (Arc.T)))) .un)))))))), (7, (.arr .bool true))]⟩
def p18 : Pat := ⟨139, 15, [(0, (.pt 0)), (1, (.sl 1)), (5, (.sl 7)), (7, (.va (.int .i64))), (8, (.va (.int .i64))), (9, (.va .bool)), (10, (.pt 8)), (48, (.va (.int .i64))), (49, (.va (.int .i64)))], [(1, (.arr (.int .i64) false)), (2, (.arr (.int .i64) true)), (3, (.arr (.int .i64) false)), (4, (.arr (.int .i64) true)), (5, (.arr (.int .i64) true)), (6, (.arr (.sl (.int .i64)) false)), (0, (.rv (.pr (.va (Flow.T)) (.pr (.pr (.va (.int .i64)) (.pr (.va (.int .i64)) (.pr (.sl 2) (.pr (.va (.sl (.int .i64))) (.pr (.sl 3) .un))))) (.pr (.sl 4) (.pr (.sl 5) (.pr (.sl 6) (.pr (.va (.sl (.sl (Arc.T)))) .un)))))))), (7, (.arr .bool true)), (8, (.var (.pr (.sl 14) (.pr (.sl 1) .un)))), (14, (.arr (.int .i64) false))]⟩
def p23 : Pat := ⟨139, 15, [(0, (.pt 0)), (1, (.sl 1)), (5, (.sl 7)), (7, (.va (.int .i64))), (8, (.va (.int .i64))), (9, (.va .bool)), (10, (.pt 8))], [(1, (.arr (.int .i64) false)), (2, (.arr (.int .i64) true)), (3, (.arr (.int .i64) false)), (4, (.arr (.int .i64) true)), (5, (.arr (.int .i64) true)), (6, (.arr (.sl (.int .i64)) false)), (0, (.rv (.pr (.va (Flow.T)) (.pr (.pr (.va (.int .i64)) (.pr (.va (.int .i64)) (.pr (.sl 2) (.pr (.va (.sl (.int .i64))) (.pr (.sl 3) .un))))) (.pr (.sl 4) (.pr (.sl 5) (.pr (.sl 6) (.pr (.va (.sl (.sl (Arc.T)))) .un)))))))), (7, (.arr .bool true)), (8, (.var (.pr (.sl 14) (.pr (.sl 1) .un)))), (14, (.arr (.int .i64) false))]⟩
def p31 : Pat := ⟨139, 15, [(0, (.pt 0)), (1, (.sl 1)), (5, (.sl 7)), (7, (.va (.int .i64))), (8, (.va (.int .i64))), (10, (.pt 8)), (12, (.va (.int .i64)))], [(1, (.arr (.int .i64) false)), (2, (.arr (.int .i64) true)), (3, (.arr (.int .i64) false)), (4, (.arr (.int .i64) true)), (5, (.arr (.int .i64) true)), (6, (.arr (.sl (.int .i64)) false)), (0, (.rv (.pr (.va (Flow.T)) (.pr (.pr (.va (.int .i64)) (.pr (.va (.int .i64)) (.pr (.sl 2) (.pr (.va (.sl (.int .i64))) (.pr (.sl 3) .un))))) (.pr (.sl 4) (.pr (.sl 5) (.pr (.sl 6) (.pr (.va (.sl (.sl (Arc.T)))) .un)))))))), (7, (.arr .bool true)), (8, (.var (.pr (.sl 11) (.pr (.sl 1) .un)))), (11, (.arr (.int .i64) false))]⟩
def a3 (k : Nat) (d : p3.ty.D) : Option (rs.D × (objsTy xo).D) := c3 k d.1.2.2.2.1 d.1.2.2.2.2.1 d.2.1 d.2.2.1 d.2.2.2.1 d.2.2.2.2.1 d.2.2.2.2.2.1 d.2.2.2.2.2.2.1 d.2.2.2.2.2.2.2.1.1 d.2.2.2.2.2.2.2.1.2.1.1 d.2.2.2.2.2.2.2.1.2.1.2.1 d.2.2.2.2.2.2.2.1.2.1.2.2.2.1 d.2.2.2.2.2.2.2.1.2.2.2.2.2.1 d.2.2.2.2.2.2.2.2.1
def a9 (k : Nat) (d : p9.ty.D) : Option (rs.D × (objsTy xo).D) := c9 k d.1.2.2.2.1 d.1.2.2.2.2.1 d.2.1 d.2.2.1 d.2.2.2.1 d.2.2.2.2.1 d.2.2.2.2.2.1 d.2.2.2.2.2.2.1 d.2.2.2.2.2.2.2.1.1 d.2.2.2.2.2.2.2.1.2.1.1 d.2.2.2.2.2.2.2.1.2.1.2.1 d.2.2.2.2.2.2.2.1.2.1.2.2.2.1 d.2.2.2.2.2.2.2.1.2.2.2.2.2.1 d.2.2.2.2.2.2.2.2.1
def a14 (k : Nat) (d : p14.ty.D) : Option (rs.D × (objsTy xo).D) := c14 k d.1.2.2.2.1 d.1.2.2.2.2.1 d.1.2.2.2.2.2.1 d.2.1 d.2.2.1 d.2.2.2.1 d.2.2.2.2.1 d.2.2.2.2.2.1 d.2.2.2.2.2.2.1 d.2.2.2.2.2.2.2.1.1 d.2.2.2.2.2.2.2.1.2.1.1 d.2.2.2.2.2.2.2.1.2.1.2.1 d.2.2.2.2.2.2.2.1.2.1.2.2.2.1 d.2.2.2.2.2.2.2.1.2.2.2.2.2.1 d.2.2.2.2.2.2.2.2.1
def a18 (k : Nat) (d : p18.ty.D) : Option (rs.D × (objsTy xo).D) := c18 k d.1.2.2.2.1 d.1.2.2.2.2.1 d.1.2.2.2.2.2.1 d.1.2.2.2.2.2.2.2.1 d.1.2.2.2.2.2.2.2.2.1 d.2.1 d.2.2.1 d.2.2.2.1 d.2.2.2.2.1 d.2.2.2.2.2.1 d.2.2.2.2.2.2.1 d.2.2.2.2.2.2.2.1.1 d.2.2.2.2.2.2.2.1.2.1.1 d.2.2.2.2.2.2.2.1.2.1.2.1 d.2.2.2.2.2.2.2.1.2.1.2.2.2.1 d.2.2.2.2.2.2.2.1.2.2.2.2.2.1 d.2.2.2.2.2.2.2.2.1 d.2.2.2.2.2.2.2.2.2.2.1
def a23 (k : Nat) (d : p23.ty.D) : Option (rs.D × (objsTy xo).D) := c23 k d.1.2.2.2.1 d.1.2.2.2.2.1 d.1.2.2.2.2.2.1 d.2.1 d.2.2.1 d.2.2.2.1 d.2.2.2.2.1 d.2.2.2.2.2.1 d.2.2.2.2.2.2.1 d.2.2.2.2.2.2.2.1.1 d.2.2.2.2.2.2.2.1.2.1.1 d.2.2.2.2.2.2.2.1.2.1.2.1 d.2.2.2.2.2.2.2.1.2.1.2.2.2.1 d.2.2.2.2.2.2.2.1.2.2.2.2.2.1 d.2.2.2.2.2.2.2.2.1 d.2.2.2.2.2.2.2.2.2.2.1
def a31 (k : Nat) (d : p31.ty.D) : Option (rs.D × (objsTy xo).D) := c31 k d.1.2.2.2.1 d.1.2.2.2.2.1 d.1.2.2.2.2.2.2.1 d.2.1 d.2.2.1 d.2.2.2.1 d.2.2.2.2.1 d.2.2.2.2.2.1 d.2.2.2.2.2.2.1 d.2.2.2.2.2.2.2.1.1 d.2.2.2.2.2.2.2.1.2.1.1 d.2.2.2.2.2.2.2.1.2.1.2.1 d.2.2.2.2.2.2.2.1.2.1.2.2.2.1 d.2.2.2.2.2.2.2.1.2.2.2.2.2.1 d.2.2.2.2.2.2.2.2.1 d.2.2.2.2.2.2.2.2.2.2.1
def cuts (k : Nat) : List (Cut (rs.D × (objsTy xo).D)) := [⟨3, p3, a3 k⟩, ⟨9, p9, a9 k⟩, ⟨14, p14, a14 k⟩, ⟨18, p18, a18 k⟩, ⟨23, p23, a23 k⟩, ⟨31, p31, a31 k⟩]
theorem z3 (d : p3.ty.D) : a3 0 d = none := by kernel_rfl
theorem z9 (d : p9.ty.D) : a9 0 d = none := by kernel_rfl
theorem z14 (d : p14.ty.D) : a14 0 d = none := by kernel_rfl
theorem z18 (d : p18.ty.D) : a18 0 d = none := by kernel_rfl
theorem z23 (d : p23.ty.D) : a23 0 d = none := by kernel_rfl
theorem z31 (d : p31.ty.D) : a31 0 d = none := by kernel_rfl
theorem ok (k : Nat) : FgOk Tryz.prog (fg k) := gs (FgInfo.of Tryz.func31 (by kernel_rfl)) (pat := p) fx xo (by kernel_rfl) so al (fun _ => Γ) (G) (cuts) (fun k => (fg k).F) (fun _ => trivial) (fun k => by exact ⟨listsched_lister_soon.ok k, heap_Push_i4.ok k, listsched_queue_Len.ok k, heap_Pop_i3.ok k, listsched_lister_unit.ok k, listsched_lister_place_i3.ok k, trivial⟩) trivial ⟨z3, z9, z14, z18, z23, z31, trivial⟩ (fun k => ⟨fun d => by kernel_rfl, fun d => by kernel_rfl, fun d => by kernel_rfl, fun d => by kernel_rfl, fun d => by kernel_rfl, fun d => by kernel_rfl, trivial⟩) (fun k d => by kernel_rfl) k
end listsched_lister_run_i6
namespace listsched_Schedule
def rs : Rt := (.pr (.pr (.fl (.int .i64)) (.pr (.fl (.int .i64)) (.pr (.os (.int .i64)) (.pr (.os (.int .i64)) (.pr (.os (.int .i64)) .un))))) (.pr (.fl (.int .i64)) .un))
def al : List (Nat × List Nat) := [(1, [0]), (2, [1]), (32, [2, 3]), (56, [4]), (58, [5]), (60, [6]), (62, [7]), (66, [8]), (69, [9]), (70, [10]), (73, [11]), (78, [12]), (9, [13]), (11, [14]), (106, [15]), (107, [25, 26]), (150, [17]), (151, [18]), (156, [19, 20]), (15, [21]), (176, [22]), (177, [23]), (178, [24])]
def ps : Ty := (.pr (Flow.T) .un)
def fn (k : Nat) : Vm.Fn := ⟨9, ps, true, rs, fun d => f k d.1⟩
def Γ (k : Nat) : List Vm.Fn := [dataflow_Valid.fn k, dataflow_Nodes.fn, diffcons_Earliest.fn k, listsched_tangled.fn k, slices_Repeat_int_int.fn k, dataflow_Source.fn, dataflow_End.fn]
def G (k : Nat) : List Vm.Fg := [slices_ContainsFunc_int_int_i1.fg k, listsched_lister_run_i6.fg k]
def p14 : Pat := ⟨213, 28, [(1, (.pt 0)), (2, (.pt 1)), (4, (.va (.int .i64))), (7, (.pt 7)), (8, (.sl 12)), (9, (.sl 13)), (80, (.va (.sl (Arc.T)))), (81, (.va (.int .i64))), (82, (.va (.int .i64)))], [(0, (.var (.va (Flow.T)))), (1, (.var (.pr (.va (.int .i64)) (.pr (.va (.int .i64)) (.pr .nl (.pr .nl (.pr .nl .un))))))), (7, (.var (.pr (.va (Flow.T)) (.pr (.pr (.va (.int .i64)) (.pr (.va (.int .i64)) (.pr (.sl 8) (.pr (.sl 9) (.pr (.sl 11) .un))))) (.pr (.sl 5) (.pr (.sl 4) (.pr .nl (.pr (.sl 6) .un)))))))), (12, (.arr (.int .i64) true)), (13, (.arr (Arc.T) false)), (8, (.arr (.int .i64) true)), (9, (.arr (.int .i64) true)), (11, (.arr (.int .i64) false)), (5, (.arr (.int .i64) true)), (4, (.arr (.int .i64) true)), (6, (.arr (.sl (Arc.T)) true))]⟩
def p21 : Pat := ⟨213, 28, [(1, (.pt 0)), (2, (.pt 1)), (4, (.va (.int .i64))), (7, (.pt 7)), (8, (.sl 12)), (9, (.sl 13)), (11, (.pt 14)), (80, (.va (.sl (Arc.T)))), (81, (.va (.int .i64))), (82, (.va (.int .i64)))], [(0, (.var (.va (Flow.T)))), (1, (.var (.pr (.va (.int .i64)) (.pr (.va (.int .i64)) (.pr .nl (.pr .nl (.pr .nl .un))))))), (7, (.var (.pr (.va (Flow.T)) (.pr (.pr (.va (.int .i64)) (.pr (.va (.int .i64)) (.pr (.sl 8) (.pr (.sl 9) (.pr (.sl 11) .un))))) (.pr (.sl 5) (.pr (.sl 4) (.pr .nl (.pr (.sl 6) .un)))))))), (12, (.arr (.int .i64) true)), (13, (.arr (Arc.T) false)), (14, (.var (.va (Arc.T)))), (8, (.arr (.int .i64) true)), (9, (.arr (.int .i64) true)), (11, (.arr (.int .i64) false)), (5, (.arr (.int .i64) true)), (4, (.arr (.int .i64) true)), (6, (.arr (.sl (Arc.T)) true))]⟩
def p26 : Pat := ⟨213, 28, [(1, (.pt 0)), (2, (.pt 1)), (7, (.pt 7)), (8, (.sl 12))], [(0, (.var (.va (Flow.T)))), (1, (.var (.pr (.va (.int .i64)) (.pr (.va (.int .i64)) (.pr .nl (.pr .nl (.pr .nl .un))))))), (7, (.var (.pr (.va (Flow.T)) (.pr (.pr (.va (.int .i64)) (.pr (.va (.int .i64)) (.pr (.sl 8) (.pr (.sl 9) (.pr (.sl 11) .un))))) (.pr (.sl 5) (.pr (.sl 4) (.pr .nl (.pr (.sl 6) .un)))))))), (12, (.arr (.int .i64) false)), (8, (.arr (.int .i64) true)), (9, (.arr (.int .i64) true)), (11, (.arr (.int .i64) false)), (5, (.arr (.int .i64) true)), (4, (.arr (.int .i64) true)), (6, (.arr (.sl (Arc.T)) true))]⟩
def p27 : Pat := ⟨213, 28, [(1, (.pt 0)), (2, (.pt 1)), (7, (.pt 7)), (8, (.sl 12)), (163, (.va (.sl (Resource.T)))), (164, (.va (.int .i64))), (165, (.va (.int .i64)))], [(0, (.var (.va (Flow.T)))), (1, (.var (.pr (.va (.int .i64)) (.pr (.va (.int .i64)) (.pr .nl (.pr .nl (.pr .nl .un))))))), (7, (.var (.pr (.va (Flow.T)) (.pr (.pr (.va (.int .i64)) (.pr (.va (.int .i64)) (.pr (.sl 8) (.pr (.sl 9) (.pr (.sl 11) .un))))) (.pr (.sl 5) (.pr (.sl 4) (.pr (.sl 27) (.pr (.sl 6) .un)))))))), (12, (.arr (.int .i64) false)), (8, (.arr (.int .i64) true)), (9, (.arr (.int .i64) true)), (11, (.arr (.int .i64) false)), (5, (.arr (.int .i64) true)), (4, (.arr (.int .i64) true)), (6, (.arr (.sl (Arc.T)) true)), (27, (.arr (.sl (.int .i64)) false))]⟩
def a14 (k : Nat) (d : p14.ty.D) : Option rs.D := c14 k d.1.2.2.1 d.1.2.2.2.2.2.2.1 d.1.2.2.2.2.2.2.2.1 d.1.2.2.2.2.2.2.2.2.1 d.2.1 d.2.2.1.1 d.2.2.1.2.1 d.2.2.2.1.1 d.2.2.2.1.2.1.1 d.2.2.2.1.2.1.2.1 d.2.2.2.2.1 d.2.2.2.2.2.1 d.2.2.2.2.2.2.1 d.2.2.2.2.2.2.2.1 d.2.2.2.2.2.2.2.2.1 d.2.2.2.2.2.2.2.2.2.1 d.2.2.2.2.2.2.2.2.2.2.1 d.2.2.2.2.2.2.2.2.2.2.2.1
def a21 (k : Nat) (d : p21.ty.D) : Option rs.D := c21 k d.1.2.2.1 d.1.2.2.2.2.2.2.2.1 d.1.2.2.2.2.2.2.2.2.1 d.1.2.2.2.2.2.2.2.2.2.1 d.2.1 d.2.2.1.1 d.2.2.1.2.1 d.2.2.2.1.1 d.2.2.2.1.2.1.1 d.2.2.2.1.2.1.2.1 d.2.2.2.2.1 d.2.2.2.2.2.1 d.2.2.2.2.2.2.1 d.2.2.2.2.2.2.2.1 d.2.2.2.2.2.2.2.2.1 d.2.2.2.2.2.2.2.2.2.1 d.2.2.2.2.2.2.2.2.2.2.1 d.2.2.2.2.2.2.2.2.2.2.2.1 d.2.2.2.2.2.2.2.2.2.2.2.2.1
def a26 (k : Nat) (d : p26.ty.D) : Option rs.D := c26 k d.2.1 d.2.2.1.1 d.2.2.1.2.1 d.2.2.2.1.1 d.2.2.2.1.2.1.1 d.2.2.2.1.2.1.2.1 d.2.2.2.2.1 d.2.2.2.2.2.1 d.2.2.2.2.2.2.1 d.2.2.2.2.2.2.2.1 d.2.2.2.2.2.2.2.2.1 d.2.2.2.2.2.2.2.2.2.1 d.2.2.2.2.2.2.2.2.2.2.1
def a27 (k : Nat) (d : p27.ty.D) : Option rs.D := c27 k d.1.2.2.2.2.1 d.1.2.2.2.2.2.1 d.1.2.2.2.2.2.2.1 d.2.1 d.2.2.1.1 d.2.2.1.2.1 d.2.2.2.1.1 d.2.2.2.1.2.1.1 d.2.2.2.1.2.1.2.1 d.2.2.2.2.1 d.2.2.2.2.2.1 d.2.2.2.2.2.2.1 d.2.2.2.2.2.2.2.1 d.2.2.2.2.2.2.2.2.1 d.2.2.2.2.2.2.2.2.2.1 d.2.2.2.2.2.2.2.2.2.2.1 d.2.2.2.2.2.2.2.2.2.2.2.1
def cuts (k : Nat) : List (Cut rs.D) := [⟨14, p14, a14 k⟩, ⟨21, p21, a21 k⟩, ⟨26, p26, a26 k⟩, ⟨27, p27, a27 k⟩]
theorem z14 (d : p14.ty.D) : a14 0 d = none := by kernel_rfl
theorem z21 (d : p21.ty.D) : a21 0 d = none := by kernel_rfl
theorem z26 (d : p26.ty.D) : a26 0 d = none := by kernel_rfl
theorem z27 (d : p27.ty.D) : a27 0 d = none := by kernel_rfl
theorem ok (k : Nat) : FnOk Tryz.prog (fn k) := fs (n := 213) (FnInfo.of Tryz.func9 (by kernel_rfl)) 28 so al (Γ) (G) (cuts) (fun k => (fn k).F) (fun k => by exact ⟨dataflow_Valid.ok k, dataflow_Nodes.ok k, diffcons_Earliest.ok k, listsched_tangled.ok k, slices_Repeat_int_int.ok k, dataflow_Source.ok k, dataflow_End.ok k, trivial⟩) (fun k => by exact ⟨slices_ContainsFunc_int_int_i1.ok k, listsched_lister_run_i6.ok k, trivial⟩) trivial ⟨z14, z21, z26, z27, trivial⟩ (fun k => ⟨fun d => by kernel_rfl, fun d => by kernel_rfl, fun d => by kernel_rfl, fun d => by kernel_rfl, trivial⟩) (fun k d => by kernel_rfl) k
end listsched_Schedule
namespace jacquardlaw32_awake
def rs : Rt := (.fl .bool)
def al : List (Nat × List Nat) := [(4, [0, 1, 2]), (5, [3, 4, 5]), (1, [6])]
def ps : Ty := .un
def fn (k : Nat) : Vm.Fn := ⟨7, ps, false, rs, fun d => f k ⟩
def Γ (k : Nat) : List Vm.Fn := [jacquardlaw32_triple.fn k, listsched_Schedule.fn k]
theorem ok (k : Nat) : FnOk Tryz.prog (fn k) := fs (n := 21) (FnInfo.of Tryz.func7 (by kernel_rfl)) 7 so al (Γ) (fun _ => G) (fun _ => []) (fun k => (fn k).F) (fun k => by exact ⟨jacquardlaw32_triple.ok k, listsched_Schedule.ok k, trivial⟩) (fun _ => trivial) trivial trivial (fun k => trivial) (fun k d => by kernel_rfl) k
end jacquardlaw32_awake
namespace jacquardref28_Small
def rs : Rt := (.fl .bool)
def al : List (Nat × List Nat) := [(3, [0])]
def ps : Ty := (.pr (Flow.T) (.pr (.int .i64) (.pr (.int .i64) .un)))
def fn (k : Nat) : Vm.Fn := ⟨18, ps, false, rs, fun d => f k d.1 d.2.1 d.2.2.1⟩
def p2 : Pat := ⟨68, 1, [(1, (.va (.int .i64))), (2, (.va (.int .i64))), (3, (.pt 0)), (11, (.va (.int .i64))), (12, (.va (.int .i64)))], [(0, (.var (.va (Flow.T))))]⟩
def p8 : Pat := ⟨68, 1, [(1, (.va (.int .i64))), (2, (.va (.int .i64))), (3, (.pt 0)), (34, (.va (.int .i64))), (35, (.va (.int .i64)))], [(0, (.var (.va (Flow.T))))]⟩
def a2 (k : Nat) (d : p2.ty.D) : Option rs.D := c2 k d.1.1 d.1.2.1 d.1.2.2.2.1 d.1.2.2.2.2.1 d.2.1
def a8 (k : Nat) (d : p8.ty.D) : Option rs.D := c8 k d.1.1 d.1.2.1 d.1.2.2.2.1 d.1.2.2.2.2.1 d.2.1
def cuts (k : Nat) : List (Cut rs.D) := [⟨2, p2, a2 k⟩, ⟨8, p8, a8 k⟩]
theorem z2 (d : p2.ty.D) : a2 0 d = none := by kernel_rfl
theorem z8 (d : p8.ty.D) : a8 0 d = none := by kernel_rfl
theorem ok (k : Nat) : FnOk Tryz.prog (fn k) := fs (n := 68) (FnInfo.of Tryz.func18 (by kernel_rfl)) 1 so al (fun _ => Γ) (fun _ => G) (cuts) (fun k => (fn k).F) (fun _ => trivial) (fun _ => trivial) trivial ⟨z2, z8, trivial⟩ (fun k => ⟨fun d => by kernel_rfl, fun d => by kernel_rfl, trivial⟩) (fun k d => by kernel_rfl) k
end jacquardref28_Small
namespace jacquardlaw32_few
def rs : Rt := (.fl .bool)
def al : List (Nat × List Nat) := [(1, [0])]
def ps : Ty := (.pr (Flow.T) .un)
def fn (k : Nat) : Vm.Fn := ⟨8, ps, false, rs, fun d => f k d.1⟩
def Γ (k : Nat) : List Vm.Fn := [jacquardref28_Small.fn k]
theorem ok (k : Nat) : FnOk Tryz.prog (fn k) := fs (n := 11) (FnInfo.of Tryz.func8 (by kernel_rfl)) 1 so al (Γ) (fun _ => G) (fun _ => []) (fun k => (fn k).F) (fun k => by exact ⟨jacquardref28_Small.ok k, trivial⟩) (fun _ => trivial) trivial trivial (fun k => trivial) (fun k d => by kernel_rfl) k
end jacquardlaw32_few
namespace jacquardref28_Source
def rs : Rt := (.fl (.int .i64))
def al : List (Nat × List Nat) := [(1, [0])]
def ps : Ty := (.pr (Flow.T) .un)
def fn : Vm.Fn := ⟨33, ps, false, rs, fun d => f d.1⟩
theorem ok (k : Nat) : FnOk Tryz.prog (fn) := fs (n := 8) (FnInfo.of Tryz.func33 (by kernel_rfl)) 1 so al (fun _ => Γ) (fun _ => G) (fun _ => []) (fun k => (fn).F) (fun _ => trivial) (fun _ => trivial) trivial trivial (fun k => trivial) (fun k d => by kernel_rfl) k
end jacquardref28_Source
namespace jacquardref28_End
def rs : Rt := (.fl (.int .i64))
def al : List (Nat × List Nat) := [(1, [0])]
def ps : Ty := (.pr (Flow.T) .un)
def fn : Vm.Fn := ⟨16, ps, false, rs, fun d => f d.1⟩
theorem ok (k : Nat) : FnOk Tryz.prog (fn) := fs (n := 9) (FnInfo.of Tryz.func16 (by kernel_rfl)) 1 so al (fun _ => Γ) (fun _ => G) (fun _ => []) (fun k => (fn).F) (fun _ => trivial) (fun _ => trivial) trivial trivial (fun k => trivial) (fun k d => by kernel_rfl) k
end jacquardref28_End
namespace jacquardref28_Valid
def rs : Rt := (.fl .bool)
def al : List (Nat × List Nat) := [(1, [0]), (5, [1]), (10, [2]), (12, [3])]
def ps : Ty := (.pr (Flow.T) .un)
def fn (k : Nat) : Vm.Fn := ⟨10, ps, false, rs, fun d => f k d.1⟩
def Γ (k : Nat) : List Vm.Fn := [jacquardref28_Source.fn, jacquardref28_End.fn]
def p5 : Pat := ⟨275, 4, [(1, (.pt 0)), (3, (.va (.int .i64))), (47, (.va (.int .i64))), (48, (.va (.int .i64)))], [(0, (.var (.va (Flow.T))))]⟩
def p14 : Pat := ⟨275, 4, [(1, (.pt 0)), (3, (.va (.int .i64))), (116, (.va (.int .i64))), (117, (.va (.int .i64)))], [(0, (.var (.va (Flow.T))))]⟩
def p19 : Pat := ⟨275, 4, [(1, (.pt 0)), (3, (.va (.int .i64))), (6, (.va (.int .i64))), (7, (.va (.int .i64))), (116, (.va (.int .i64))), (117, (.va (.int .i64)))], [(0, (.var (.va (Flow.T))))]⟩
def p23 : Pat := ⟨275, 4, [(1, (.pt 0)), (3, (.va (.int .i64))), (140, (.va (.int .i64))), (141, (.va (.int .i64)))], [(0, (.var (.va (Flow.T))))]⟩
def p29 : Pat := ⟨275, 4, [(1, (.pt 0)), (3, (.va (.int .i64))), (180, (.va (.int .i64))), (181, (.va (.int .i64)))], [(0, (.var (.va (Flow.T))))]⟩
def p36 : Pat := ⟨275, 4, [(1, (.pt 0)), (229, (.va (.int .i64))), (230, (.va (.int .i64)))], [(0, (.var (.va (Flow.T))))]⟩
def a5 (k : Nat) (d : p5.ty.D) : Option rs.D := c5 k d.1.2.1 d.1.2.2.1 d.1.2.2.2.1 d.2.1
def a14 (k : Nat) (d : p14.ty.D) : Option rs.D := c14 k d.1.2.1 d.1.2.2.1 d.1.2.2.2.1 d.2.1
def a19 (k : Nat) (d : p19.ty.D) : Option rs.D := c19 k d.1.2.1 d.1.2.2.1 d.1.2.2.2.1 d.1.2.2.2.2.1 d.1.2.2.2.2.2.1 d.2.1
def a23 (k : Nat) (d : p23.ty.D) : Option rs.D := c23 k d.1.2.1 d.1.2.2.1 d.1.2.2.2.1 d.2.1
def a29 (k : Nat) (d : p29.ty.D) : Option rs.D := c29 k d.1.2.1 d.1.2.2.1 d.1.2.2.2.1 d.2.1
def a36 (k : Nat) (d : p36.ty.D) : Option rs.D := c36 k d.1.2.1 d.1.2.2.1 d.2.1
def cuts (k : Nat) : List (Cut rs.D) := [⟨5, p5, a5 k⟩, ⟨14, p14, a14 k⟩, ⟨19, p19, a19 k⟩, ⟨23, p23, a23 k⟩, ⟨29, p29, a29 k⟩, ⟨36, p36, a36 k⟩]
theorem z5 (d : p5.ty.D) : a5 0 d = none := by kernel_rfl
theorem z14 (d : p14.ty.D) : a14 0 d = none := by kernel_rfl
theorem z19 (d : p19.ty.D) : a19 0 d = none := by kernel_rfl
theorem z23 (d : p23.ty.D) : a23 0 d = none := by kernel_rfl
theorem z29 (d : p29.ty.D) : a29 0 d = none := by kernel_rfl
theorem z36 (d : p36.ty.D) : a36 0 d = none := by kernel_rfl
theorem ok (k : Nat) : FnOk Tryz.prog (fn k) := fs (n := 275) (FnInfo.of Tryz.func10 (by kernel_rfl)) 4 so al (Γ) (fun _ => G) (cuts) (fun k => (fn k).F) (fun k => by exact ⟨jacquardref28_Source.ok k, jacquardref28_End.ok k, trivial⟩) (fun _ => trivial) trivial ⟨z5, z14, z19, z23, z29, z36, trivial⟩ (fun k => ⟨fun d => by kernel_rfl, fun d => by kernel_rfl, fun d => by kernel_rfl, fun d => by kernel_rfl, fun d => by kernel_rfl, fun d => by kernel_rfl, trivial⟩) (fun k d => by kernel_rfl) k
end jacquardref28_Valid
namespace jacquardlaw32_plain
def rs : Rt := (.fl .bool)
def al : List (Nat × List Nat) := [(1, [0])]
def ps : Ty := (.pr (Flow.T) .un)
def fn (k : Nat) : Vm.Fn := ⟨14, ps, false, rs, fun d => f k d.1⟩
def Γ (k : Nat) : List Vm.Fn := [jacquardref28_Valid.fn k]
theorem ok (k : Nat) : FnOk Tryz.prog (fn k) := fs (n := 10) (FnInfo.of Tryz.func14 (by kernel_rfl)) 1 so al (Γ) (fun _ => G) (fun _ => []) (fun k => (fn k).F) (fun k => by exact ⟨jacquardref28_Valid.ok k, trivial⟩) (fun _ => trivial) trivial trivial (fun k => trivial) (fun k d => by kernel_rfl) k
end jacquardlaw32_plain
namespace jacquardref30_Nodes
def rs : Rt := (.fl (.int .i64))
def ps : Ty := (.pr (.int .i64) .un)
def fn : Vm.Fn := ⟨80, ps, false, rs, fun d => f d.1⟩
theorem ok (k : Nat) : FnOk Tryz.prog (fn) := fs (n := 6) (FnInfo.of Tryz.func80 (by kernel_rfl)) 0 so al (fun _ => Γ) (fun _ => G) (fun _ => []) (fun k => (fn).F) (fun _ => trivial) (fun _ => trivial) trivial trivial (fun k => trivial) (fun k d => by kernel_rfl) k
end jacquardref30_Nodes
namespace jacquardref30_Counts
def rs : Rt := (.fl .bool)
def al : List (Nat × List Nat) := [(3, [0])]
def ps : Ty := (.pr (.int .i64) (.pr (Arc.T) .un))
def fn : Vm.Fn := ⟨81, ps, false, rs, fun d => f d.1 d.2.1⟩
def Γ : List Vm.Fn := [jacquardref30_Nodes.fn]
theorem ok (k : Nat) : FnOk Tryz.prog (fn) := fs (n := 27) (FnInfo.of Tryz.func81 (by kernel_rfl)) 1 so al (fun _ => Γ) (fun _ => G) (fun _ => []) (fun k => (fn).F) (fun k => by exact ⟨jacquardref30_Nodes.ok k, trivial⟩) (fun _ => trivial) trivial trivial (fun k => trivial) (fun k d => by kernel_rfl) k
end jacquardref30_Counts
namespace jacquardref30_Weight
def rs : Rt := (.fl (.int .i64))
def al : List (Nat × List Nat) := [(2, [0])]
def ps : Ty := (.pr (Arc.T) (.pr (.int .i64) .un))
def fn : Vm.Fn := ⟨82, ps, false, rs, fun d => f d.1 d.2.1⟩
theorem ok (k : Nat) : FnOk Tryz.prog (fn) := fs (n := 25) (FnInfo.of Tryz.func82 (by kernel_rfl)) 1 so al (fun _ => Γ) (fun _ => G) (fun _ => []) (fun k => (fn).F) (fun _ => trivial) (fun _ => trivial) trivial trivial (fun k => trivial) (fun k d => by kernel_rfl) k
end jacquardref30_Weight
namespace jacquardref30_Walks
def rs : Rt := (.pr (.os (.sl (.int .i64))) (.pr (.fl .bool) .un))
def al : List (Nat × List Nat) := [(6, [0]), (8, [1]), (24, [2]), (38, [3]), (39, [4])]
def ps : Ty := (.pr (.int .i64) (.pr (.sl (Arc.T)) (.pr (.int .i64) .un)))
def fn (k : Nat) : Vm.Fn := ⟨57, ps, true, rs, fun d => f k d.1 d.2.1 d.2.2.1⟩
def Γ (k : Nat) : List Vm.Fn := [jacquardref30_Nodes.fn, jacquardref30_Counts.fn, jacquardref30_Weight.fn]
def p4 : Pat := ⟨173, 5, [(0, (.va (.int .i64))), (1, (.va (.sl (Arc.T)))), (2, (.va (.int .i64))), (8, (.sl 1)), (19, (.va (.int .i64))), (20, (.va (.int .i64)))], [(1, (.arr (.sl (.int .i64)) false))]⟩
def p8 : Pat := ⟨173, 5, [(0, (.va (.int .i64))), (1, (.va (.sl (Arc.T)))), (2, (.va (.int .i64))), (8, (.sl 1)), (9, (.va (.int .i64))), (10, (.sl 2)), (19, (.va (.int .i64))), (20, (.va (.int .i64))), (25, (.va (.int .i64))), (26, (.va (.int .i64)))], [(1, (.arr (.sl (.int .i64)) false)), (2, (.arr (.int .i64) true))]⟩
def p16 : Pat := ⟨173, 5, [(0, (.va (.int .i64))), (1, (.va (.sl (Arc.T)))), (2, (.va (.int .i64))), (8, (.sl 1)), (42, (.va (.int .i64))), (43, (.va (.int .i64)))], [(1, (.arr (.sl (.int .i64)) false))]⟩
def p22 : Pat := ⟨173, 5, [(0, (.va (.int .i64))), (8, (.sl 1)), (89, (.va (.int .i64))), (90, (.va (.int .i64)))], [(1, (.arr (.sl (.int .i64)) false))]⟩
def p27 : Pat := ⟨173, 5, [(0, (.va (.int .i64))), (8, (.sl 1)), (13, (.va (.int .i64))), (89, (.va (.int .i64))), (90, (.va (.int .i64))), (101, (.va (.int .i64))), (102, (.va (.int .i64)))], [(1, (.arr (.sl (.int .i64)) false))]⟩
def p30 : Pat := ⟨173, 5, [(0, (.va (.int .i64))), (8, (.sl 1)), (13, (.va (.int .i64))), (14, (.va (.int .i64))), (89, (.va (.int .i64))), (90, (.va (.int .i64))), (101, (.va (.int .i64))), (102, (.va (.int .i64))), (105, (.va (.int .i64))), (106, (.va (.int .i64)))], [(1, (.arr (.sl (.int .i64)) false))]⟩
def p37 : Pat := ⟨173, 5, [(0, (.va (.int .i64))), (8, (.sl 1)), (89, (.va (.int .i64))), (90, (.va (.int .i64))), (158, (.va (.int .i64))), (159, (.va (.int .i64)))], [(1, (.arr (.sl (.int .i64)) false))]⟩
def a4 (k : Nat) (d : p4.ty.D) : Option rs.D := c4 k d.1.1 d.1.2.1 d.1.2.2.1 d.1.2.2.2.2.1 d.1.2.2.2.2.2.1 d.2.1
def a8 (k : Nat) (d : p8.ty.D) : Option rs.D := c8 k d.1.1 d.1.2.1 d.1.2.2.1 d.1.2.2.2.2.1 d.1.2.2.2.2.2.2.1 d.1.2.2.2.2.2.2.2.1 d.1.2.2.2.2.2.2.2.2.1 d.1.2.2.2.2.2.2.2.2.2.1 d.2.1 d.2.2.1
def a16 (k : Nat) (d : p16.ty.D) : Option rs.D := c16 k d.1.1 d.1.2.1 d.1.2.2.1 d.1.2.2.2.2.1 d.1.2.2.2.2.2.1 d.2.1
def a22 (k : Nat) (d : p22.ty.D) : Option rs.D := c22 k d.1.1 d.1.2.2.1 d.1.2.2.2.1 d.2.1
def a27 (k : Nat) (d : p27.ty.D) : Option rs.D := c27 k d.1.1 d.1.2.2.1 d.1.2.2.2.1 d.1.2.2.2.2.1 d.1.2.2.2.2.2.1 d.1.2.2.2.2.2.2.1 d.2.1
def a30 (k : Nat) (d : p30.ty.D) : Option rs.D := c30 k d.1.1 d.1.2.2.1 d.1.2.2.2.1 d.1.2.2.2.2.1 d.1.2.2.2.2.2.1 d.1.2.2.2.2.2.2.1 d.1.2.2.2.2.2.2.2.1 d.1.2.2.2.2.2.2.2.2.1 d.1.2.2.2.2.2.2.2.2.2.1 d.2.1
def a37 (k : Nat) (d : p37.ty.D) : Option rs.D := c37 k d.1.1 d.1.2.2.1 d.1.2.2.2.1 d.1.2.2.2.2.1 d.1.2.2.2.2.2.1 d.2.1
def cuts (k : Nat) : List (Cut rs.D) := [⟨4, p4, a4 k⟩, ⟨8, p8, a8 k⟩, ⟨16, p16, a16 k⟩, ⟨22, p22, a22 k⟩, ⟨27, p27, a27 k⟩, ⟨30, p30, a30 k⟩, ⟨37, p37, a37 k⟩]
theorem z4 (d : p4.ty.D) : a4 0 d = none := by kernel_rfl
theorem z8 (d : p8.ty.D) : a8 0 d = none := by kernel_rfl
theorem z16 (d : p16.ty.D) : a16 0 d = none := by kernel_rfl
theorem z22 (d : p22.ty.D) : a22 0 d = none := by kernel_rfl
theorem z27 (d : p27.ty.D) : a27 0 d = none := by kernel_rfl
theorem z30 (d : p30.ty.D) : a30 0 d = none := by kernel_rfl
theorem z37 (d : p37.ty.D) : a37 0 d = none := by kernel_rfl
theorem ok (k : Nat) : FnOk Tryz.prog (fn k) := fs (n := 173) (FnInfo.of Tryz.func57 (by kernel_rfl)) 5 so al (Γ) (fun _ => G) (cuts) (fun k => (fn k).F) (fun k => by exact ⟨jacquardref30_Nodes.ok k, jacquardref30_Counts.ok k, jacquardref30_Weight.ok k, trivial⟩) (fun _ => trivial) trivial ⟨z4, z8, z16, z22, z27, z30, z37, trivial⟩ (fun k => ⟨fun d => by kernel_rfl, fun d => by kernel_rfl, fun d => by kernel_rfl, fun d => by kernel_rfl, fun d => by kernel_rfl, fun d => by kernel_rfl, fun d => by kernel_rfl, trivial⟩) (fun k d => by kernel_rfl) k
end jacquardref30_Walks
namespace jacquardref30_Bound
def rs : Rt := (.fl (.int .i64))
def ps : Ty := (.pr (.sl (.int .i64)) (.pr (.int .i64) .un))
def fn : Vm.Fn := ⟨83, ps, false, rs, fun d => f d.1 d.2.1⟩
theorem ok (k : Nat) : FnOk Tryz.prog (fn) := fs (n := 15) (FnInfo.of Tryz.func83 (by kernel_rfl)) 0 so al (fun _ => Γ) (fun _ => G) (fun _ => []) (fun k => (fn).F) (fun _ => trivial) (fun _ => trivial) trivial trivial (fun k => trivial) (fun k d => by kernel_rfl) k
end jacquardref30_Bound
namespace jacquardref30_After
def rs : Rt := (.pr (.os (.int .i64)) (.pr (.fl .bool) .un))
def al : List (Nat × List Nat) := [(8, [0]), (20, [1]), (12, [2]), (62, [3]), (63, [4])]
def ps : Ty := (.pr (.int .i64) (.pr (.sl (Arc.T)) (.pr (.int .i64) (.pr (.sl (.int .i64)) .un))))
def fn (k : Nat) : Vm.Fn := ⟨58, ps, true, rs, fun d => f k d.1 d.2.1 d.2.2.1 d.2.2.2.1⟩
def Γ (k : Nat) : List Vm.Fn := [jacquardref30_Walks.fn k, jacquardref30_Bound.fn]
def p6 : Pat := ⟨66, 5, [(3, (.va (.sl (.int .i64)))), (10, (.sl 1)), (12, (.sl 2)), (26, (.va (.int .i64))), (27, (.va (.int .i64)))], [(1, (.arr (.sl (.int .i64)) false)), (2, (.arr (.int .i64) false))]⟩
def p10 : Pat := ⟨66, 5, [(3, (.va (.sl (.int .i64)))), (10, (.sl 1)), (12, (.sl 2)), (13, (.va (.int .i64))), (14, (.va (.int .i64))), (26, (.va (.int .i64))), (27, (.va (.int .i64))), (34, (.va (.int .i64))), (35, (.va (.int .i64)))], [(1, (.arr (.sl (.int .i64)) false)), (2, (.arr (.int .i64) false))]⟩
def a6 (k : Nat) (d : p6.ty.D) : Option rs.D := c6 k d.1.1 d.1.2.2.2.1 d.1.2.2.2.2.1 d.2.1 d.2.2.1
def a10 (k : Nat) (d : p10.ty.D) : Option rs.D := c10 k d.1.1 d.1.2.2.2.1 d.1.2.2.2.2.1 d.1.2.2.2.2.2.1 d.1.2.2.2.2.2.2.1 d.1.2.2.2.2.2.2.2.1 d.1.2.2.2.2.2.2.2.2.1 d.2.1 d.2.2.1
def cuts (k : Nat) : List (Cut rs.D) := [⟨6, p6, a6 k⟩, ⟨10, p10, a10 k⟩]
theorem z6 (d : p6.ty.D) : a6 0 d = none := by kernel_rfl
theorem z10 (d : p10.ty.D) : a10 0 d = none := by kernel_rfl
theorem ok (k : Nat) : FnOk Tryz.prog (fn k) := fs (n := 66) (FnInfo.of Tryz.func58 (by kernel_rfl)) 5 so al (Γ) (fun _ => G) (cuts) (fun k => (fn k).F) (fun k => by exact ⟨jacquardref30_Walks.ok k, jacquardref30_Bound.ok k, trivial⟩) (fun _ => trivial) trivial ⟨z6, z10, trivial⟩ (fun k => ⟨fun d => by kernel_rfl, fun d => by kernel_rfl, trivial⟩) (fun k d => by kernel_rfl) k
end jacquardref30_After
namespace jacquardref32_Settled
def rs : Rt := (.pr (.os (.int .i64)) (.pr (.fl .bool) .un))
def al : List (Nat × List Nat) := [(2, [0]), (4, [1]), (17, [2]), (10, [3]), (58, [4])]
def ps : Ty := (.pr (Flow.T) (.pr (.sl (Arc.T)) .un))
def fn (k : Nat) : Vm.Fn := ⟨34, ps, true, rs, fun d => f k d.1 d.2.1⟩
def Γ (k : Nat) : List Vm.Fn := [jacquardref28_End.fn, jacquardref30_Walks.fn k, jacquardref30_After.fn k]
def p6 : Pat := ⟨61, 5, [(1, (.va (.sl (Arc.T)))), (2, (.pt 0)), (6, (.va (.int .i64))), (7, (.sl 2)), (23, (.va (.int .i64))), (24, (.va (.int .i64)))], [(0, (.var (.va (Flow.T)))), (2, (.arr (.sl (.int .i64)) false))]⟩
def a6 (k : Nat) (d : p6.ty.D) : Option rs.D := c6 k d.1.1 d.1.2.2.1 d.1.2.2.2.2.1 d.1.2.2.2.2.2.1 d.2.1 d.2.2.1
def cuts (k : Nat) : List (Cut rs.D) := [⟨6, p6, a6 k⟩]
theorem z6 (d : p6.ty.D) : a6 0 d = none := by kernel_rfl
theorem ok (k : Nat) : FnOk Tryz.prog (fn k) := fs (n := 61) (FnInfo.of Tryz.func34 (by kernel_rfl)) 5 so al (Γ) (fun _ => G) (cuts) (fun k => (fn k).F) (fun k => by exact ⟨jacquardref28_End.ok k, jacquardref30_Walks.ok k, jacquardref30_After.ok k, trivial⟩) (fun _ => trivial) trivial ⟨z6, trivial⟩ (fun k => ⟨fun d => by kernel_rfl, trivial⟩) (fun k d => by kernel_rfl) k
end jacquardref32_Settled
namespace jacquardref32_Earliest
def rs : Rt := (.pr (.os (.int .i64)) (.pr (.fl .bool) .un))
def al : List (Nat × List Nat) := [(1, [0]), (2, [1]), (5, [2]), (44, [3])]
def ps : Ty := (.pr (Flow.T) .un)
def fn (k : Nat) : Vm.Fn := ⟨11, ps, true, rs, fun d => f k d.1⟩
def Γ (k : Nat) : List Vm.Fn := [jacquardref28_Source.fn, jacquardref32_Settled.fn k]
def p2 : Pat := ⟨64, 4, [(1, (.pt 0)), (11, (.va (.int .i64))), (12, (.va (.int .i64)))], [(0, (.var (.va (Flow.T))))]⟩
def p12 : Pat := ⟨64, 4, [(1, (.pt 0)), (6, (.sl 3)), (50, (.va (.int .i64))), (51, (.va (.int .i64)))], [(0, (.var (.va (Flow.T)))), (3, (.arr (.int .i64) false))]⟩
def a2 (k : Nat) (d : p2.ty.D) : Option rs.D := c2 k d.1.2.1 d.1.2.2.1 d.2.1
def a12 (k : Nat) (d : p12.ty.D) : Option rs.D := c12 k d.1.2.2.1 d.1.2.2.2.1 d.2.1 d.2.2.1
def cuts (k : Nat) : List (Cut rs.D) := [⟨2, p2, a2 k⟩, ⟨12, p12, a12 k⟩]
theorem z2 (d : p2.ty.D) : a2 0 d = none := by kernel_rfl
theorem z12 (d : p12.ty.D) : a12 0 d = none := by kernel_rfl
theorem ok (k : Nat) : FnOk Tryz.prog (fn k) := fs (n := 64) (FnInfo.of Tryz.func11 (by kernel_rfl)) 4 so al (Γ) (fun _ => G) (cuts) (fun k => (fn k).F) (fun k => by exact ⟨jacquardref28_Source.ok k, jacquardref32_Settled.ok k, trivial⟩) (fun _ => trivial) trivial ⟨z2, z12, trivial⟩ (fun k => ⟨fun d => by kernel_rfl, fun d => by kernel_rfl, trivial⟩) (fun k d => by kernel_rfl) k
end jacquardref32_Earliest
namespace bounds_usage
def rs : Rt := (.pr (.os (.int .i64)) (.pr (.os (.int .i64)) .un))
def al : List (Nat × List Nat) := [(1, [0]), (2, [1]), (3, [2]), (9, [3]), (13, [4]), (5, [5])]
def ps : Ty := (.pr (Flow.T) .un)
def fn (k : Nat) : Vm.Fn := ⟨37, ps, true, rs, fun d => f k d.1⟩
def p3 : Pat := ⟨48, 6, [(2, (.sl 3)), (3, (.sl 4)), (15, (.va (.sl (Need.T)))), (16, (.va (.int .i64))), (17, (.va (.int .i64)))], [(3, (.arr (.int .i64) true)), (4, (.arr (.int .i64) true))]⟩
def a3 (k : Nat) (d : p3.ty.D) : Option rs.D := c3 k d.1.2.2.1 d.1.2.2.2.1 d.1.2.2.2.2.1 d.2.1 d.2.2.1
def cuts (k : Nat) : List (Cut rs.D) := [⟨3, p3, a3 k⟩]
theorem z3 (d : p3.ty.D) : a3 0 d = none := by kernel_rfl
theorem ok (k : Nat) : FnOk Tryz.prog (fn k) := fs (n := 48) (FnInfo.of Tryz.func37 (by kernel_rfl)) 6 so al (fun _ => Γ) (fun _ => G) (cuts) (fun k => (fn k).F) (fun _ => trivial) (fun _ => trivial) trivial ⟨z3, trivial⟩ (fun k => ⟨fun d => by kernel_rfl, trivial⟩) (fun k d => by kernel_rfl) k
end bounds_usage
namespace bounds_share
def rs : Rt := (.fl (.int .i64))
def ps : Ty := (.pr (.int .i64) (.pr (.int .i64) .un))
def fn : Vm.Fn := ⟨38, ps, false, rs, fun d => f d.1 d.2.1⟩
theorem ok (k : Nat) : FnOk Tryz.prog (fn) := fs (n := 11) (FnInfo.of Tryz.func38 (by kernel_rfl)) 0 so al (fun _ => Γ) (fun _ => G) (fun _ => []) (fun k => (fn).F) (fun _ => trivial) (fun _ => trivial) trivial trivial (fun k => trivial) (fun k d => by kernel_rfl) k
end bounds_share
namespace bounds_Depth
def rs : Rt := (.pr (.fl (.int .i64)) (.pr (.fl (.int .i64)) .un))
def al : List (Nat × List Nat) := [(1, [0]), (21, [1, 2]), (34, [3, 4]), (10, [5])]
def ps : Ty := (.pr (Flow.T) .un)
def fn (k : Nat) : Vm.Fn := ⟨17, ps, true, rs, fun d => f k d.1⟩
def Γ (k : Nat) : List Vm.Fn := [dataflow_Valid.fn k, dataflow_Nodes.fn, diffcons_Earliest.fn k, dataflow_End.fn, bounds_usage.fn k, bounds_share.fn]
def p11 : Pat := ⟨56, 6, [(6, (.va (.int .i64))), (7, (.sl 3)), (38, (.va (.sl (Resource.T)))), (39, (.va (.int .i64))), (40, (.va (.int .i64)))], [(3, (.arr (.int .i64) false))]⟩
def a11 (k : Nat) (d : p11.ty.D) : Option rs.D := c11 k d.1.1 d.1.2.2.1 d.1.2.2.2.1 d.1.2.2.2.2.1 d.2.1
def cuts (k : Nat) : List (Cut rs.D) := [⟨11, p11, a11 k⟩]
theorem z11 (d : p11.ty.D) : a11 0 d = none := by kernel_rfl
theorem ok (k : Nat) : FnOk Tryz.prog (fn k) := fs (n := 56) (FnInfo.of Tryz.func17 (by kernel_rfl)) 6 so al (Γ) (fun _ => G) (cuts) (fun k => (fn k).F) (fun k => by exact ⟨dataflow_Valid.ok k, dataflow_Nodes.ok k, diffcons_Earliest.ok k, dataflow_End.ok k, bounds_usage.ok k, bounds_share.ok k, trivial⟩) (fun _ => trivial) trivial ⟨z11, trivial⟩ (fun k => ⟨fun d => by kernel_rfl, trivial⟩) (fun k d => by kernel_rfl) k
end bounds_Depth
namespace jacquardref32_Contested
def rs : Rt := (.os (.int .i64))
def al : List (Nat × List Nat) := [(1, [0]), (2, [1]), (3, [2]), (59, [3]), (60, [4])]
def ps : Ty := (.pr (Flow.T) .un)
def fn (k : Nat) : Vm.Fn := ⟨15, ps, false, rs, fun d => f k d.1⟩
def p3 : Pat := ⟨63, 5, [(1, (.pt 0)), (3, (.sl 2)), (9, (.va (.int .i64))), (10, (.va (.int .i64)))], [(0, (.var (.va (Flow.T)))), (2, (.arr (.int .i64) false))]⟩
def p7 : Pat := ⟨63, 5, [(1, (.pt 0)), (3, (.sl 2)), (4, (.va (.int .i64))), (5, (.va (.int .i64))), (9, (.va (.int .i64))), (10, (.va (.int .i64))), (15, (.va (.int .i64))), (16, (.va (.int .i64)))], [(0, (.var (.va (Flow.T)))), (2, (.arr (.int .i64) false))]⟩
def a3 (k : Nat) (d : p3.ty.D) : Option rs.D := c3 k d.1.2.2.1 d.1.2.2.2.1 d.2.1 d.2.2.1
def a7 (k : Nat) (d : p7.ty.D) : Option rs.D := c7 k d.1.2.2.1 d.1.2.2.2.1 d.1.2.2.2.2.1 d.1.2.2.2.2.2.1 d.1.2.2.2.2.2.2.1 d.1.2.2.2.2.2.2.2.1 d.2.1 d.2.2.1
def cuts (k : Nat) : List (Cut rs.D) := [⟨3, p3, a3 k⟩, ⟨7, p7, a7 k⟩]
theorem z3 (d : p3.ty.D) : a3 0 d = none := by kernel_rfl
theorem z7 (d : p7.ty.D) : a7 0 d = none := by kernel_rfl
theorem ok (k : Nat) : FnOk Tryz.prog (fn k) := fs (n := 63) (FnInfo.of Tryz.func15 (by kernel_rfl)) 5 so al (fun _ => Γ) (fun _ => G) (cuts) (fun k => (fn k).F) (fun _ => trivial) (fun _ => trivial) trivial ⟨z3, z7, trivial⟩ (fun k => ⟨fun d => by kernel_rfl, fun d => by kernel_rfl, trivial⟩) (fun k d => by kernel_rfl) k
end jacquardref32_Contested
namespace jacquardref32_Most
def rs : Rt := (.fl (.int .i64))
def al : List (Nat × List Nat) := [(2, [0]), (15, [1])]
def ps : Ty := (.pr (Flow.T) (.pr (.sl (.int .i64)) .un))
def fn (k : Nat) : Vm.Fn := ⟨12, ps, false, rs, fun d => f k d.1 d.2.1⟩
def Γ (k : Nat) : List Vm.Fn := [jacquardref28_End.fn, jacquardref32_Contested.fn k]
def p4 : Pat := ⟨34, 2, [(2, (.pt 0)), (5, (.va (.int .i64))), (6, (.sl 1)), (17, (.va (.int .i64))), (18, (.va (.int .i64)))], [(0, (.var (.va (Flow.T)))), (1, (.arr (.int .i64) false))]⟩
def a4 (k : Nat) (d : p4.ty.D) : Option rs.D := c4 k d.1.2.1 d.1.2.2.2.1 d.1.2.2.2.2.1 d.2.1 d.2.2.1
def cuts (k : Nat) : List (Cut rs.D) := [⟨4, p4, a4 k⟩]
theorem z4 (d : p4.ty.D) : a4 0 d = none := by kernel_rfl
theorem ok (k : Nat) : FnOk Tryz.prog (fn k) := fs (n := 34) (FnInfo.of Tryz.func12 (by kernel_rfl)) 2 so al (Γ) (fun _ => G) (cuts) (fun k => (fn k).F) (fun k => by exact ⟨jacquardref28_End.ok k, jacquardref32_Contested.ok k, trivial⟩) (fun _ => trivial) trivial ⟨z4, trivial⟩ (fun k => ⟨fun d => by kernel_rfl, trivial⟩) (fun k d => by kernel_rfl) k
end jacquardref32_Most
namespace jacquardlaw32_ListschedBounds
def rs : Rt := (.fl .bool)
def al : List (Nat × List Nat) := [(1, [0]), (24, [1, 2, 3]), (3, [4]), (31, [5])]
def ps : Ty := (.pr (Flow.T) .un)
def fn (k : Nat) : Vm.Fn := ⟨5, ps, false, rs, fun d => f k d.1⟩
def Γ (k : Nat) : List Vm.Fn := [jacquardlaw32_awake.fn k, jacquardlaw32_few.fn k, jacquardlaw32_plain.fn k, listsched_Schedule.fn k, jacquardref32_Earliest.fn k, bounds_Depth.fn k, jacquardref32_Most.fn k]
theorem ok (k : Nat) : FnOk Tryz.prog (fn k) := fs (n := 58) (FnInfo.of Tryz.func5 (by kernel_rfl)) 6 so al (Γ) (fun _ => G) (fun _ => []) (fun k => (fn k).F) (fun k => by exact ⟨jacquardlaw32_awake.ok k, jacquardlaw32_few.ok k, jacquardlaw32_plain.ok k, listsched_Schedule.ok k, jacquardref32_Earliest.ok k, bounds_Depth.ok k, jacquardref32_Most.ok k, trivial⟩) (fun _ => trivial) trivial trivial (fun k => trivial) (fun k d => by kernel_rfl) k
end jacquardlaw32_ListschedBounds
end
end Go.Proofs.YtjddmekfeckphaaGreatV
