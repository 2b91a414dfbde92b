/- The value machine, part 1 of 9. -/
import Derived.WalkKit
import Derived.KernelRfl
set_option linter.unusedVariables false
set_option linter.unusedSimpArgs false
set_option linter.unnecessarySimpa false
set_option linter.unusedVariables false
namespace Go.Vm
open Go
inductive Ty where
  | int (k : IntKind) | bool | str | sl (t : Ty) | pr (a b : Ty) | un
  | op   -- one cell that is not told as data (a pointer, a function)
  deriving DecidableEq
@[reducible] def Ty.D : Ty → Type
  | .int _ => Int
  | .bool => Bool
  | .str => ByteArray
  | .sl t => List t.D
  | .pr a b => a.D × b.D
  | .un => Unit
  | .op => Unit
def Ty.zero : (t : Ty) → t.D
  | .int _ => (0 : Int)
  | .bool => false
  | .str => ByteArray.empty
  | .sl _ => []
  | .pr a b => (a.zero, b.zero)
  | .un => ()
  | .op => ()
def Ty.good : (t : Ty) → t.D → Prop
  | .int k, n => (Lit.int k n).wf = true
  | .bool, _ => True
  | .str, s => s.size ≤ 140737488351232
  | .sl t, xs => List.length xs ≤ 140737488351232 ∧ ∀ x ∈ xs, t.good x
  | .pr a b, x => a.good x.1 ∧ b.good x.2
  | .un, _ => True
  | .op, _ => False
def Ty.cells : Ty → Nat
  | .pr a b => a.cells + b.cells
  | .un => 0
  | _ => 1
def Ty.agg : Ty → Bool
  | .pr _ _ | .un => true
  | _ => false
def Ty.flat : Ty → Bool
  | .sl _ | .op => false
  | .pr a b => a.flat && b.flat
  | _ => true
def Ty.data : Ty → Bool
  | .op => false
  | .sl t => t.data
  | .pr a b => a.data && (b.data && b.agg)
  | _ => true
def Ty.enc : (t : Ty) → t.D → List Value
  | .int k, n => [.int k n]
  | .bool, b => [.bool b]
  | .str, s => [.string s]
  | .pr a b, x => a.enc x.1 ++ b.enc x.2
  | .sl _, _ => [.slice none 0 0]
  | .un, _ => []
  | .op, _ => [.pointer none]
def eqB : (t : Ty) → t.D → t.D → Bool
  | .int _, x, y => decide ((x : Int) = y)
  | .bool, x, y => (x : Bool) == y
  | .str, _, _ => false
  | .sl _, _, _ => false
  | .pr a b, x, y => eqB a x.1 y.1 && eqB b x.2 y.2
  | .un, _, _ => true
  | .op, _, _ => false
def Ty.cmp : Ty → Bool
  | .int _ | .bool | .un => true
  | .pr a b => a.cmp && b.cmp
  | _ => false
structure Dy where
  t : Ty
  x : t.D
def Dy.as (d : Dy) (t : Ty) : Option t.D := if h : d.t = t then some (h ▸ d.x) else none
inductive Stp where
  | f (j : Nat)
  | i (n : Nat)
inductive VT where
  | va (t : Ty) (x : t.D)
  | rp (t : Ty) (x : t.D)
  | nl | em | np
  | sl (o g h : Nat) (p : List Stp) (w : Option (Nat × Nat))
  | pt (o g h : Nat) (p : List Stp)
  | pr (a b : VT) | un
  | tu (v : VT)
  | fn (f : Nat) (c : VT)
  | an   -- one cell, of which nothing is known
  | ud
inductive Ob where
  | arr (t : Ty) (xs : List t.D) (nn : Bool)   -- nn: the slice is not nil
  | var (v : VT)
  | rv (v : VT)      -- a variable that is only read
  | mp (k : IntKind) (t : Ty) (es : List (Int × t.D))   -- a map: numbers to flat data
  | arh (t : Ty) (xs : List (List t.D)) (nn : Bool) (j : Nat)   -- rows, of which one is taken out
def Ob.held : Ob → Option VT
  | .var v | .rv v => some v
  | .arr _ _ _ => none
  | .mp _ _ _ => none
  | .arh _ _ _ _ => none
structure Obe where
  g : Nat
  h : Nat
  c : Option Ob
structure X where
  sl : List (Option VT)
  ob : List Obe
def getP : (t : Ty) → t.D → List Stp → Option Dy
  | t, x, [] => some ⟨t, x⟩
  | .pr a _, x, .f 0 :: p => getP a x.1 p
  | .pr _ b, x, .f (j + 1) :: p => getP b x.2 (.f j :: p)
  | .sl t, x, .i n :: p => getP t (x.getD n t.zero) p
  | _, _, _ => none
def setP : (t : Ty) → t.D → List Stp → Dy → Option t.D
  | t, _, [], v => v.as t
  | .pr a _, x, .f 0 :: p, v => (setP a x.1 p v).map fun y => (y, x.2)
  | .pr _ b, x, .f (j + 1) :: p, v => (setP b x.2 (.f j :: p) v).map fun y => (x.1, y)
  | .sl t, x, .i n :: p, v => (setP t (x.getD n t.zero) p v).map fun y => x.set n y
  | _, _, _, _ => none
def tyAt : Ty → List Stp → Option Ty
  | t, [] => some t
  | .pr a _, .f 0 :: p => tyAt a p
  | .pr _ b, .f (j + 1) :: p => tyAt b (.f j :: p)
  | .sl t, .i _ :: p => tyAt t p
  | _, _ => none
def expT (o g h : Nat) : (t : Ty) → t.D → List Stp → Option Nat → VT
  | .sl _, _, p, _ => .sl o g h p none
  | .pr a b, x, p, j => .pr (expT o g h a x.1 (p ++ [.f (j.getD 0)]) none) (expT o g h b x.2 p (some (j.getD 0 + 1)))
  | .un, _, _, _ => .un
  | .int k, x, _, _ => .va (.int k) x
  | .bool, x, _, _ => .va .bool x
  | .str, x, _, _ => .va .str x
  | .op, _, _, _ => .ud
def VT.fld : Nat → VT → Option VT
  | 0, .va (.pr a _) x => some (.va a x.1)
  | j + 1, .va (.pr _ b) x => VT.fld j (.va b x.2)
  | 0, .pr a _ => some a
  | j + 1, .pr _ b => VT.fld j b
  | _, _ => none
def VT.setFld : Nat → VT → VT → Option VT
  | 0, .va (.pr _ b) x, v => some (.pr v (.va b x.2))
  | j + 1, .va (.pr a b) x, v => (VT.setFld j (.va b x.2) v).map (.pr (.va a x.1))
  | 0, .pr _ b, v => some (.pr v b)
  | j + 1, .pr a b, v => (VT.setFld j b v).map (.pr a)
  | _, _, _ => none
def VT.getPath : List Stp → VT → Option VT
  | [], v => some v
  | .f j :: p, v => (VT.fld j v).bind (VT.getPath p)
  | _, _ => none
def VT.setPath : List Stp → VT → VT → Option VT
  | [], _, u => some u
  | .f j :: p, v, u => (VT.fld j v).bind fun c => (VT.setPath p c u).bind fun c' => VT.setFld j v c'
  | _, _, _ => none
def VT.fits : VT → Ty → Bool
  | .va t _, u => decide (t = u)
  | .nl, .sl _ => true
  | .em, .sl _ => true
  | .sl _ _ _ _ _, .sl _ => true
  | .pt _ _ _ _, .op => true
  | .rp _ _, .op => true
  | .np, .op => true
  | .fn _ _, .op => true
  | .an, .op => true
  | .an, .sl _ => true
  | .pr a b, .pr s t => a.fits s && b.fits t
  | .un, .un => true
  | _, _ => false
def zeroVT : Ty → VT
  | .sl _ => .nl
  | .op => .an
  | .pr a b => .pr (zeroVT a) (zeroVT b)
  | .un => .un
  | .int k => .va (.int k) (0 : Int)
  | .bool => .va .bool false
  | .str => .va .str ByteArray.empty
inductive Br (α : Type) : Type 1 where
  | ret (a : α)
  | no
  | chk (c : Prop) (d : Decidable c) (t : Br α)
  | cnd (b : Bool) (t e : Br α)
  | call {β : Type} (y : Option β) (t : β → Br α)
def Br.run {α R : Type} (K : α → Option R) : Br α → Option R
  | .ret a => K a
  | .no => none
  | .chk c d t => @ite _ c d (t.run K) none
  | .cnd b t e => cond b (t.run K) (e.run K)
  | .call y t => y.bind fun v => (t v).run K
def Br.has {α : Type} : Br α → α → Prop
  | .ret a, e => a = e
  | .no, _ => False
  | .chk c _ t, e => c ∧ t.has e
  | .cnd b t f, e => cond b (t.has e) (f.has e)
  | .call y t, e => ∃ v, y = some v ∧ (t v).has e
def Br.mapE {α β : Type} (f : α → β) : Br α → Br β
  | .ret a => .ret (f a)
  | .no => .no
  | .chk c d t => .chk c d (t.mapE f)
  | .cnd b t e => .cnd b (t.mapE f) (e.mapE f)
  | .call y t => .call y fun v => (t v).mapE f
theorem Br.mapE_has {α β : Type} {f : α → β} : ∀ {m : Br α} {e : β}, (m.mapE f).has e → ∃ a, m.has a ∧ e = f a
  | .ret a, _, h => ⟨a, rfl, h.symm⟩
  | .no, _, h => h.elim
  | .chk _ _ t, _, ⟨h1, h2⟩ => by
    obtain ⟨a, h3, h4⟩ := Br.mapE_has (m := t) h2
    exact ⟨a, ⟨h1, h3⟩, h4⟩
  | .cnd b t e, _, h => by
    cases b
    · obtain ⟨a, h3, h4⟩ := Br.mapE_has (m := e) h
      exact ⟨a, h3, h4⟩
    · obtain ⟨a, h3, h4⟩ := Br.mapE_has (m := t) h
      exact ⟨a, h3, h4⟩
  | .call y t, _, ⟨v, h1, h2⟩ => by
    obtain ⟨a, h3, h4⟩ := Br.mapE_has (m := t v) h2
    exact ⟨a, ⟨v, h1, h3⟩, h4⟩
theorem Br.run_has {α R : Type} {K : α → Option R} {r : R} : ∀ {m : Br α}, m.run K = some r → ∃ e, m.has e ∧ K e = some r
  | .ret a, h => ⟨a, rfl, h⟩
  | .no, h => by cases h
  | .chk c d t, h => by
    simp only [Br.run] at h
    split at h
    · rename_i hc
      obtain ⟨e, he, hk⟩ := Br.run_has h
      exact ⟨e, ⟨hc, he⟩, hk⟩
    · cases h
  | .cnd b t f, h => by
    cases b
    · exact Br.run_has (m := f) h
    · exact Br.run_has (m := t) h
  | .call y t, h => by
    simp only [Br.run, Option.bind_eq_some_iff] at h
    obtain ⟨v, hv, h⟩ := h
    obtain ⟨e, he, hk⟩ := Br.run_has h
    exact ⟨e, ⟨v, hv, he⟩, hk⟩
theorem Br.run_of_has {α R : Type} {K : α → Option R} : ∀ {m : Br α} {e : α}, m.has e → m.run K = K e
  | .ret a, e, h => by cases h; rfl
  | .no, _, h => h.elim
  | .chk c d t, e, h => by simp only [Br.run, if_pos h.1]; exact Br.run_of_has h.2
  | .cnd b t f, e, h => by
    cases b
    · exact Br.run_of_has (m := f) h
    · exact Br.run_of_has (m := t) h
  | .call y t, e, h => by
    obtain ⟨v, hv, h⟩ := h
    simp only [Br.run, hv, Option.bind_some]
    exact Br.run_of_has h
def Br.ck {α : Type} (c : Prop) [d : Decidable c] (t : Br α) : Br α := .chk c d t
def Br.opt {α β : Type} (x : Option α) (f : α → Br β) : Br β := match x with
  | some a => f a
  | none => .no
def Br.when {β : Type} (b : Bool) (t : Br β) : Br β := cond b t .no
theorem Br.opt_has {α β : Type} {x : Option α} {f : α → Br β} {e : β} (h : (Br.opt x f).has e) : ∃ a, x = some a ∧ (f a).has e := by
  cases x with
  | none => exact h.elim
  | some a => exact ⟨a, rfl, h⟩
theorem Br.cnd_has {β : Type} {b : Bool} {t : Br β} {e : β} (h : (Br.cnd b t .no).has e) : b = true ∧ t.has e := by
  cases b
  · exact h.elim
  · exact ⟨rfl, h⟩
theorem Br.when_has {β : Type} {b : Bool} {t : Br β} {e : β} (h : (Br.when b t).has e) : b = true ∧ t.has e := by
  cases b
  · exact h.elim
  · exact ⟨rfl, h⟩
def getL {α : Type} : List (Option α) → Nat → Option α
  | [], _ => none
  | a :: _, 0 => a
  | _ :: l, n + 1 => getL l n
def getO : List Obe → Nat → Obe
  | [], _ => ⟨0, 0, none⟩
  | a :: _, 0 => a
  | _ :: l, n + 1 => getO l n
def memN : List Nat → Nat → Bool
  | [], _ => false
  | a :: l, n => cond (Nat.beq a n) true (memN l n)
def nodupN : List Nat → Bool
  | [] => true
  | a :: l => cond (memN l a) false (nodupN l)
def subN : List Nat → List Nat → Bool
  | [], _ => true
  | a :: l, m => cond (memN m a) (subN l m) false
def apartN : List Nat → List Nat → Bool
  | [], _ => true
  | a :: l, m => cond (memN m a) false (apartN l m)
def setAll {α : Type} (xs : List α) : List (Nat × α) → List α
  | [] => xs
  | (j, y) :: l => setAll (xs.set j y) l
def rdD {t : Ty} (xs : List t.D) (i : Int) : t.D := xs.getD i.toNat t.zero
def mx (x y : Int) : Int := if x < y then y else x
def mn (x y : Int) : Int := if y < x then y else x
def mpGet {α : Type} : List (Int × α) → Int → Option α
  | [], _ => none
  | (a, x) :: l, k => cond (decide (a = k)) (some x) (mpGet l k)
def mpPut {α : Type} : List (Int × α) → Int → α → List (Int × α)
  | [], k, x => [(k, x)]
  | (a, y) :: l, k, x => cond (decide (a = k)) ((a, x) :: l) ((a, y) :: mpPut l k x)
def splice {α : Type} (xs : List α) (lo m : Nat) (src : List α) : List α := xs.take lo ++ ((src.take m) ++ xs.drop (lo + min m src.length))
def rd {α : Type} [Inhabited α] (xs : List α) (i : Int) : α := xs.getD i.toNat default
abbrev w64 (n : Int) : Int := IntKind.i64.wrap n
def ifB : Nat := 1000000000
def boN : Nat := 999999999
noncomputable def both {R : Type} (x y : Option R) : Option R := @ite _ (x = y) (Classical.propDecidable _) x none
theorem both_some {R : Type} {x y : Option R} {r : R} (h : both x y = some r) : x = some r ∧ y = some r := by
  unfold both at h
  split at h
  · rename_i e; exact ⟨h, e ▸ h⟩
  · cases h
theorem both_same {R : Type} (x : Option R) : both x x = x := by unfold both; rw [if_pos rfl]
end Go.Vm
set_option linter.unusedVariables false
namespace Go.Vm
open Go
inductive TK where
  | one | sl (e : Nat) | st (fs : List Nat) | ar (n e : Nat) | mp (k e : Nat)
structure TE where
  id : Nat
  ty : Ty
  k : TK
  bytes : Nat
  ms : List (String × Nat)   -- methods that take the value itself: name, function
def msFind : List (String × Nat) → String → Option Nat
  | [], _ => none
  | (a, f) :: l, n => cond (decide (a = n)) (some f) (msFind l n)
def Tab := List TE
def Tab.find : Tab → Nat → Option TE
  | [], _ => none
  | e :: l, t => cond (Nat.beq e.id t) (some e) (Tab.find l t)
structure Rd where
  v : Operand → Option VT
  o : Nat → Obe
def constVT : Value → Option VT
  | .int k n => some (.va (.int k) n)
  | .bool b => some (.va .bool b)
  | .string s => some (.va .str s)
  | .slice none 0 0 => some .nl
  | .pointer none => some .np
  | .nilFunc => some .an
  | .nilIface => some .an
  | _ => none
def Rd.slice (r : Rd) (o g h : Nat) (p : List Stp) (w : Option (Nat × Nat)) : Option Dy :=
  match r.o o with
  | ⟨g', h', some (.arr t xs _)⟩ =>
    cond (Nat.beq g g' && (p.isEmpty || Nat.beq h h'))
      (match getP (.sl t) xs p with
        | some ⟨.sl t', ys⟩ => match w with
          | none => some ⟨.sl t', ys⟩
          | some (lo, n) => some ⟨.sl t', (ys.drop lo).take n⟩
        | _ => none)
      none
  | _ => none
def Rd.val (r : Rd) : (t : Ty) → VT → Option t.D
  | t, .va t' x => Dy.as ⟨t', x⟩ t
  | .sl _, .nl => some []
  | .sl _, .em => some []
  | .sl t, .sl o g h p w => (r.slice o g h p w).bind fun d => d.as (.sl t)
  | .pr a b, .pr v u => (r.val a v).bind fun x => (r.val b u).map fun y => (x, y)
  | .un, .un => some ()
  | _, _ => none
def Rd.own (r : Rd) : (t : Ty) → VT → Option (t.D × List Nat)
  | t, .va t' x => cond t.flat ((Dy.as ⟨t', x⟩ t).map fun y => (y, [])) none
  | .sl _, .nl => some ([], [])
  | .sl _, .em => some ([], [])
  | .sl t, .sl o g h [] none => (r.slice o g h [] none).bind fun d => (d.as (.sl t)).map fun y => (y, [o])
  | .pr a b, .pr v u => (r.own a v).bind fun x => (r.own b u).map fun y => ((x.1, y.1), x.2 ++ y.2)
  | .un, .un => some ((), [])
  | _, _ => none
def VT.refs : VT → List Nat
  | .sl o _ _ _ _ | .pt o _ _ _ => [o]
  | .pr a b => a.refs ++ b.refs
  | .tu a | .fn _ a => a.refs
  | _ => []
inductive VP where
  | va (t : Ty) | rp (t : Ty) | nl | em | np
  | sl (o : Nat) | pt (o : Nat)
  | pr (a b : VP) | un | tu (a : VP)
  | fn (f : Nat) (c : VP)
  | an   -- one cell, of which nothing is known
inductive OP where
  | arr (t : Ty) (nn : Bool) | var (v : VP) | rv (v : VP) | mp (k : IntKind) (t : Ty)
@[reducible] def VP.ty : VP → Ty
  | .va t | .rp t => t
  | .pr a b => .pr a.ty b.ty
  | .tu a | .fn _ a => a.ty
  | _ => .un
@[reducible] def OP.ty : OP → Ty
  | .arr t _ => .sl t
  | .var v | .rv v => v.ty
  | .mp k t => .sl (.pr (.int k) t)
def RenL := List (Nat × Nat)
def RenL.find : RenL → Nat → Option Nat
  | [], _ => none
  | (a, b) :: l, n => cond (Nat.beq a n) (some b) (RenL.find l n)
def RenL.imgs : RenL → List Nat
  | [] => []
  | (_, b) :: l => b :: RenL.imgs l
structure Ren where
  m : RenL
  c : List Nat      -- the objects that become data that is only read
  e : List Nat      -- objects of the pattern that are nil
def Ren.find (r : Ren) (n : Nat) : Option Nat := r.m.find n
def Ren.add (r : Ren) (a b : Nat) : Option Ren := match r.m.find a with
  | some b' => cond (Nat.beq b b') (some r) none
  | none => cond (memN r.m.imgs b || memN r.e a) none (some ⟨(a, b) :: r.m, r.c, r.e⟩)
def Ren.addE (r : Ren) (a : Nat) : Option Ren := match r.m.find a with
  | some _ => none
  | none => cond (memN r.e a) none (some ⟨r.m, r.c, a :: r.e⟩)
def live (ro : Nat → Obe) (o g : Nat) : Bool := match ro o with
  | ⟨g', _, some _⟩ => Nat.beq g g'
  | _ => false
def liveV (ro : Nat → Obe) (o g : Nat) : Bool := match ro o with
  | ⟨g', _, some (.var _)⟩ => Nat.beq g g'
  | ⟨g', _, some (.rv _)⟩ => Nat.beq g g'
  | ⟨g', _, some (.mp _ _ _)⟩ => Nat.beq g g'
  | _ => false
def splitPr : VT → Option (VT × VT)
  | .pr a b => some (a, b)
  | .va (.pr s t) x => some (.va s x.1, .va t x.2)
  | _ => none
def isUnV : VT → Bool
  | .un => true
  | .va .un _ => true
  | _ => false
def isNlV : VT → Bool
  | .nl => true
  | _ => false
def isEmV : VT → Bool
  | .em => true
  | _ => false
def isNpV : VT → Bool
  | .np => true
  | _ => false
def isOneV : VT → Bool
  | .nl | .em | .np | .an => true
  | .sl _ _ _ _ _ => true
  | .pt _ _ _ _ => true
  | .rp _ _ => true
  | .fn _ _ => true
  | _ => false
def cellV : VT → Bool
  | .va t _ => !t.agg && Nat.beq t.cells 1
  | .nl | .em | .np | .an => true
  | .sl _ _ _ _ _ => true
  | .pt _ _ _ _ => true
  | .rp _ _ => true
  | .fn _ _ => true
  | _ => false
def asRp (t : Ty) : VT → Option t.D
  | .rp t' x => Dy.as ⟨t', x⟩ t
  | _ => none
def asSl : VT → Option (Nat × Nat)
  | .sl o g _ [] none => some (o, g)
  | _ => none
def asPt : VT → Option (Nat × Nat)
  | .pt o g _ [] => some (o, g)
  | _ => none
def asTu : VT → Option VT
  | .tu a => some a
  | _ => none
def asFn (f : Nat) : VT → Option VT
  | .fn f' a => cond (Nat.beq f f') (some a) none
  | _ => none
def VP.chain : VP → Bool
  | .pr _ b => b.chain
  | .un => true
  | _ => false
def VP.get (rd : Rd) : (v : VP) → VT → Ren → Option (v.ty.D × Ren)
  | .va t, u, r => (rd.val t u).map fun y => (y, ⟨r.m, u.refs ++ r.c, r.e⟩)
  | .rp t, u, r => (asRp t u).map fun y => (y, r)
  | .nl, u, r => cond (isNlV u) (some ((), r)) none
  | .em, u, r => cond (isEmV u) (some ((), r)) none
  | .np, u, r => cond (isNpV u) (some ((), r)) none
  | .an, u, r => cond (isOneV u) (some ((), r)) none
  | .sl o, u, r => match asSl u with
    | some q => cond (live rd.o q.1 q.2) ((r.add o q.1).map fun r => ((), r)) none
    | none => cond (isNlV u) ((r.addE o).map fun r => ((), r)) none
  | .pt o, u, r => (asPt u).bind fun q => cond (liveV rd.o q.1 q.2) ((r.add o q.1).map fun r => ((), r)) none
  | .pr a b, u, r => (splitPr u).bind fun q => (a.get rd q.1 r).bind fun x => (b.get rd q.2 x.2).map fun y => ((x.1, y.1), y.2)
  | .un, u, r => cond (isUnV u) (some ((), r)) none
  | .tu a, u, r => cond a.chain ((asTu u).bind fun u => a.get rd u r) none
  | .fn f a, u, r => (asFn f u).bind fun u => a.get rd u r
def VP.mk : (v : VP) → v.ty.D → VT
  | .va t, x => .va t x
  | .rp t, x => .rp t x
  | .nl, _ => .nl
  | .em, _ => .em
  | .np, _ => .np
  | .an, _ => .an
  | .sl o, _ => .sl o 0 0 [] none
  | .pt o, _ => .pt o 0 0 []
  | .pr a b, x => .pr (a.mk x.1) (b.mk x.2)
  | .un, _ => .un
  | .tu a, x => .tu (a.mk x)
  | .fn f a, x => .fn f (a.mk x)
@[reducible] def slotsTy : List (Nat × VP) → Ty
  | [] => .un
  | (_, v) :: l => .pr v.ty (slotsTy l)
@[reducible] def objsTy : List (Nat × OP) → Ty
  | [] => .un
  | (_, v) :: l => .pr v.ty (objsTy l)
structure Pat where
  n : Nat
  m : Nat
  sl : List (Nat × VP)
  ob : List (Nat × OP)
@[reducible] def Pat.ty (p : Pat) : Ty := .pr (slotsTy p.sl) (objsTy p.ob)
def getSlots (rd : Rd) : (l : List (Nat × VP)) → Ren → Option ((slotsTy l).D × Ren)
  | [], r => some ((), r)
  | (t, v) :: l, r => (rd.v (.tmp t)).bind fun u => (v.get rd u r).bind fun x => (getSlots rd l x.2).map fun y => ((x.1, y.1), y.2)
def getObjs (rd : Rd) : (l : List (Nat × OP)) → Ren → Option ((objsTy l).D × Ren)
  | [], r => some ((), r)
  | (o, .arr t nn) :: l, r => cond (memN r.e o) (cond nn none ((getObjs rd l r).map fun y => ((([] : List t.D), y.1), y.2))) ((r.find o).bind fun o' => match (rd.o o').c with
    | some (.arr t' xs nn') => cond (!nn || nn') (Dy.as ⟨.sl t', xs⟩ (.sl t)) none |>.bind fun x => (getObjs rd l r).map fun y => ((x, y.1), y.2)
    | _ => none)
  | (o, .var v) :: l, r => (r.find o).bind fun o' => match (rd.o o').c with
    | some (.var u) => (v.get rd u r).bind fun x => (getObjs rd l x.2).map fun y => ((x.1, y.1), y.2)
    | _ => none
  | (o, .rv v) :: l, r => (r.find o).bind fun o' => match (rd.o o').c with
    | some (.var u) => (v.get rd u r).bind fun x => (getObjs rd l x.2).map fun y => ((x.1, y.1), y.2)
    | some (.rv u) => (v.get rd u r).bind fun x => (getObjs rd l x.2).map fun y => ((x.1, y.1), y.2)
    | _ => none
  | (o, .mp k t) :: l, r => (r.find o).bind fun o' => match (rd.o o').c with
    | some (.mp k' t' es) => (Dy.as ⟨.sl (.pr (.int k') t'), es⟩ (.sl (.pr (.int k) t))).bind fun x => (getObjs rd l r).map fun y => ((x, y.1), y.2)
    | _ => none
def idR (rd : Rd) : List Nat → Option RenL
  | [] => some []
  | o :: l => match rd.o o with
    | ⟨0, _, some _⟩ => (idR rd l).map fun m => (o, o) :: m
    | _ => none
def allArr (rd : Rd) : List Nat → Bool
  | [] => true
  | o :: l => match (rd.o o).c with
    | some (.arr _ _ _) => allArr rd l
    | _ => false
def Pat.getR (p : Pat) (fx : List Nat) (rd : Rd) : Option (p.ty.D × Ren) :=
  (idR rd fx).bind fun m => (getSlots rd p.sl ⟨m, [], []⟩).bind fun x => (getObjs rd p.ob x.2).bind fun y => cond (apartN y.2.c y.2.m.imgs && allArr rd y.2.c) (some ((x.1, y.1), y.2)) none
def mkSlots : (l : List (Nat × VP)) → (slotsTy l).D → List (Option VT) → List (Option VT)
  | [], _, z => z
  | (t, v) :: l, x, z => mkSlots l x.2 (z.set t (some (v.mk x.1)))
def mkObjs : (l : List (Nat × OP)) → (objsTy l).D → List Obe → List Obe
  | [], _, z => z
  | (o, .arr t nn) :: l, x, z => mkObjs l x.2 (z.set o ⟨0, 0, some (.arr t x.1 nn)⟩)
  | (o, .var v) :: l, x, z => mkObjs l x.2 (z.set o ⟨0, 0, some (.var (v.mk x.1))⟩)
  | (o, .rv v) :: l, x, z => mkObjs l x.2 (z.set o ⟨0, 0, some (.rv (v.mk x.1))⟩)
  | (o, .mp k t) :: l, x, z => mkObjs l x.2 (z.set o ⟨0, 0, some (.mp k t x.1)⟩)
def Pat.mk' (p : Pat) (x : p.ty.D) : X := ⟨mkSlots p.sl x.1 (List.replicate p.n none), mkObjs p.ob x.2 (List.replicate p.m ⟨0, 0, none⟩)⟩
inductive Rt where
  | fl (t : Ty) | os (t : Ty) | on (t : Ty) | ro (t : Ty) | pr (a b : Rt) | un
  | fi (n : Nat) (t : Ty)   -- flat data of one cell, of the type n, in an interface value
@[reducible] def Rt.D : Rt → Type
  | .fl t => t.D
  | .os t => List t.D
  | .on t => Option (List t.D)
  | .ro t => t.D
  | .pr a b => a.D × b.D
  | .un => Unit
  | .fi _ t => t.D
def Ty.one (t : Ty) : Bool := t.flat && (!t.agg && Nat.beq t.cells 1)
def Rt.hasRo : Rt → Bool
  | .ro _ => true
  | .pr a b => a.hasRo || b.hasRo
  | _ => false
structure Fn where
  id : Nat
  ps : Ty            -- the parameters: a chain of pairs
  tup : Bool         -- several results
  rs : Rt
  F : ps.D → Option rs.D
structure Eff where
  v : Option VT
  ob : List (Nat × Obe)
structure Fg where
  id : Nat
  pat : Pat
  fx : List Nat
  tup : Bool
  rs : Rt
  xo : List (Nat × OP)     -- the objects that are handed back: those of fx that may have been written, and new ones in them
  F : pat.ty.D → Option (rs.D × (objsTy xo).D)
structure So where
  id : Nat
  t : Ty
  rest : List Nat
  F : List t.D → List t.D
structure Env where
  T : Tab
  Γ : List Fn
  al : List (Nat × List Nat)   -- which objects an operation makes: by its slot
  G : List Fg
  so : List So
def alFind : List (Nat × List Nat) → Nat → List Nat
  | [], _ => []
  | (a, b) :: l, n => cond (Nat.beq a n) b (alFind l n)
def fnFind : List Fn → Nat → Option Fn
  | [], _ => none
  | f :: l, n => cond (Nat.beq f.id n) (some f) (fnFind l n)
def Rd.args (r : Rd) : (t : Ty) → List Operand → Option t.D
  | .pr a b, x :: l => (r.v x).bind fun v => (r.val a v).bind fun y => (r.args b l).map fun z => (y, z)
  | .un, [] => some ()
  | _, _ => none
def newO (r : Rd) (n : Nat) (c : Ob) : Nat × Obe := (n, ⟨(r.o n).g + 1, 0, some c⟩)
def newSl (r : Rd) (n : Nat) : VT := .sl n ((r.o n).g + 1) 0 [] none
def newPt (r : Rd) (n : Nat) : VT := .pt n ((r.o n).g + 1) 0 []
def gone (r : Rd) (l : List Nat) : List (Nat × Obe) := l.map fun o => (o, ⟨(r.o o).g, (r.o o).h, none⟩)
def resBr {α : Type} (r : Rd) : (t : Rt) → t.D → List Nat → (VT → List (Nat × Obe) → List Nat → Br α) → Br α
  | .fl t, x, l, K => Br.when t.flat (K (.va t x) [] l)
  | .os t, x, n :: l, K => K (newSl r n) [newO r n (.arr t x false)] l
  | .on t, x, n :: l, K => .cnd x.isSome (K (newSl r n) [newO r n (.arr t (x.getD []) true)] l) (K .nl [] l)
  | .ro t, x, l, K => K (.va t x) [] l
  | .pr a b, x, l, K => resBr r a x.1 l fun v e l => resBr r b x.2 l fun u f l => K (.pr v u) (e ++ f) l
  | .un, _, l, K => K .un [] l
  | .fi n t, x, l, K => Br.when t.one (K (.fn (ifB + n) (.pr (.va t x) .un)) [] l)
  | _, _, _, _ => .no
def partsOf (r : Rd) : List (Nat × Operand) → Option (List (Nat × VT))
  | [] => some []
  | (j, x) :: l => (r.v x).bind fun v => (partsOf r l).map fun m => (j, v) :: m
def fillVT (ty : Ty) (zs : VT) : List (Nat × VT) → Option VT
  | [] => some zs
  | (j, v) :: l => match tyAt ty [.f j] with
    | some t' => cond (v.fits t') ((VT.setFld j zs v).bind fun z => fillVT ty z l) none
    | none => none
def ownAll (r : Rd) (t : Ty) : List (Nat × VT) → Option (List (Nat × t.D) × List Nat)
  | [] => some ([], [])
  | (j, v) :: l => (r.own t v).bind fun y => (ownAll r t l).map fun z => ((j, y.1) :: z.1, y.2 ++ z.2)
def rov : (t : Ty) → VT → Option t.D
  | t, .va t' x => Dy.as ⟨t', x⟩ t
  | .sl _, .nl => some []
  | .sl _, .em => some []
  | .pr a b, .pr v u => (rov a v).bind fun x => (rov b u).map fun y => (x, y)
  | .un, .un => some ()
  | _, _ => none
def valAll (t : Ty) : List (Nat × VT) → Option (List (Nat × t.D))
  | [] => some []
  | (j, v) :: l => (rov t v).bind fun y => (valAll t l).map fun z => (j, y) :: z
def shlW (k : IntKind) (x y : Int) : Int := k.wrap (x * 2 ^ (min y.toNat k.bits))
def shrW (k : IntKind) (x y : Int) : Int := x.fdiv (2 ^ (min y.toNat k.bits))
def andW (k : IntKind) (x y : Int) : Int := k.wrap ((BitVec.ofInt k.bits x &&& BitVec.ofInt k.bits y).toNat : Int)
def orW (k : IntKind) (x y : Int) : Int := k.wrap ((BitVec.ofInt k.bits x ||| BitVec.ofInt k.bits y).toNat : Int)
def xorW (k : IntKind) (x y : Int) : Int := k.wrap ((BitVec.ofInt k.bits x ^^^ BitVec.ofInt k.bits y).toNat : Int)
def andNotW (k : IntKind) (x y : Int) : Int := k.wrap ((BitVec.ofInt k.bits x &&& ~~~(BitVec.ofInt k.bits y)).toNat : Int)
def opBin (op : BinOp) : VT → VT → Br VT
  | .va (.int k) x, .va (.int k') y => match op with
    | .shl => Br.ck (0 ≤ (y : Int)) (.ret (.va (.int k) (shlW k x y : Int)))
    | .shr => Br.ck (0 ≤ (y : Int)) (.ret (.va (.int k) (shrW k x y : Int)))
    | op => Br.when (decide (k = k')) (match op with
      | .add => .ret (.va (.int k) (k.wrap (x + y) : Int))
      | .sub => .ret (.va (.int k) (k.wrap (x - y) : Int))
      | .mul => .ret (.va (.int k) (k.wrap (x * y) : Int))
      | .quo => Br.ck (¬ (y : Int) = 0) (.ret (.va (.int k) (k.wrap (Int.tdiv x y) : Int)))
      | .rem => Br.ck (¬ (y : Int) = 0) (.ret (.va (.int k) (Int.tmod x y : Int)))
      | .eql => .ret (.va .bool (decide ((x : Int) = y)))
      | .neq => .ret (.va .bool (!decide ((x : Int) = y)))
      | .lss => .ret (.va .bool (decide ((x : Int) < y)))
      | .leq => .ret (.va .bool (decide ((x : Int) ≤ y)))
      | .gtr => .ret (.va .bool (decide ((y : Int) < x)))
      | .geq => .ret (.va .bool (decide ((y : Int) ≤ x)))
      | .and => .ret (.va (.int k) (andW k x y : Int))
      | .or => .ret (.va (.int k) (orW k x y : Int))
      | .xor => .ret (.va (.int k) (xorW k x y : Int))
      | .andNot => .ret (.va (.int k) (andNotW k x y : Int))
      | _ => .no)
  | _, _ => .no
def opEqS (T : Tab) (op : BinOp) (t : Nat) (r : Rd) (a b : VT) : Br VT :=
  Br.opt (T.find t) fun te => Br.when te.ty.cmp (Br.opt (r.val te.ty a) fun x => Br.opt (r.val te.ty b) fun y => match op with
    | .eql => .ret (.va .bool (eqB te.ty x y))
    | .neq => .ret (.va .bool (!eqB te.ty x y))
    | _ => .no)
def opNil (T : Tab) (op : BinOp) (t : Nat) (r : Rd) (a : VT) : Br VT := Br.opt (T.find t) fun te => match te.ty with
  | .sl _ => match a with
    | .nl => (match op with
      | .eql => .ret (.va .bool true)
      | .neq => .ret (.va .bool false)
      | _ => .no)
    | .va (.sl _) xs => match op with
      | .eql => .cnd (Nat.blt 0 (List.length xs)) (.ret (.va .bool false)) (.ret (.fn boN (.pr .an .un)))
      | .neq => .cnd (Nat.blt 0 (List.length xs)) (.ret (.va .bool true)) (.ret (.fn boN (.pr .an .un)))
      | _ => .no
    | .sl o g _ [] none => match r.o o with
      | ⟨g', _, some (.arr _ _ nn)⟩ => Br.when (Nat.beq g g' && nn) (match op with
        | .eql => .ret (.va .bool false)
        | .neq => .ret (.va .bool true)
        | _ => .no)
      | _ => .no
    | _ => .no
  | _ => .no
def VT.viaEq : VT → Bool
  | .pr _ _ | .un => true
  | .va t _ => t.agg || (match t with | .bool => true | _ => false)
  | _ => false
def VT.isAgg : VT → Bool
  | .pr _ _ | .un => true
  | .va t _ => t.agg
  | _ => false
def opUn (op : UnOp) : VT → Br VT
  | .va .bool b => match op with
    | .not => .ret (.va .bool (!(b : Bool)))
    | _ => .no
  | .va (.int k) n => match op with
    | .neg => .ret (.va (.int k) (k.wrap (0 - (n : Int)) : Int))
    | _ => .no
  | _ => .no
def opLoad (T : Tab) (t : Nat) (r : Rd) : VT → Br VT
  | .rp t' y => Br.opt (T.find t) fun te => Br.when (decide (te.ty = t')) (.ret (.va t' y))
  | .pt o g h p => Br.opt (T.find t) fun te => match r.o o with
    | ⟨g', h', some (.var v)⟩ => Br.when (Nat.beq g g') (Br.opt (VT.getPath p v) fun u => Br.when (u.fits te.ty) (.ret u))
    | ⟨g', h', some (.rv v)⟩ => Br.when (Nat.beq g g') (Br.opt (VT.getPath p v) fun u => Br.when (u.fits te.ty) (.ret u))
    | ⟨g', h', some (.arr t' xs _)⟩ => Br.when (Nat.beq g g' && Nat.beq h h') (Br.opt (getP (.sl t') xs p) fun d => Br.when (decide (d.t = te.ty) && te.ty.data) (.ret (expT o g h d.t d.x p none)))
    | _ => .no
  | _ => .no
def opStore (T : Tab) (t : Nat) (r : Rd) (a v : VT) : Br Eff := match a with
  | .pt o g h p => Br.opt (T.find t) fun te => match r.o o with
    | ⟨g', h', some (.var u)⟩ => Br.when (Nat.beq g g' && v.fits te.ty) (Br.opt (VT.getPath p u) fun u0 => Br.when (u0.fits te.ty) (Br.opt (VT.setPath p u v) fun u' => .ret ⟨none, [(o, ⟨g', h', some (.var u')⟩)]⟩))
    | ⟨g', h', some (.arr t' xs nn)⟩ => Br.when (Nat.beq g g' && Nat.beq h h' && decide (tyAt (.sl t') p = some te.ty)) (Br.opt (r.own te.ty v) fun z => Br.when (nodupN (o :: z.2))
        (Br.opt (setP (.sl t') xs p ⟨te.ty, z.1⟩) fun ys => .ret ⟨none, gone r z.2 ++ [(o, ⟨g', cond te.ty.flat h' (h' + 1), some (.arr t' ys nn)⟩)]⟩))
    | ⟨g', h', some (.arh t' xs nn j)⟩ => match p with
      | [.i i] => Br.when (Nat.beq g g' && (Nat.beq h h' && decide (te.ty = .sl t'))) (Br.opt (r.own (.sl t') v) fun z => Br.when (nodupN (o :: z.2)) (Br.ck (i = j) (.ret ⟨none, gone r z.2 ++ [(o, ⟨g', h' + 1, some (.arr (.sl t') (List.set xs j z.1) nn)⟩)]⟩)))
      | _ => .no
    | _ => .no
  | _ => .no
def ptTy (r : Rd) (o g h : Nat) (p : List Stp) (te : Ty) : Bool := match r.o o with
  | ⟨g', _, some (.var u)⟩ => Nat.beq g g' && (match VT.getPath p u with
    | some u0 => u0.fits te
    | none => false)
  | ⟨g', _, some (.rv u)⟩ => Nat.beq g g' && (match VT.getPath p u with
    | some u0 => u0.fits te
    | none => false)
  | ⟨g', h', some (.arr t' _ _)⟩ => Nat.beq g g' && Nat.beq h h' && decide (tyAt (.sl t') p = some te)
  | _ => false
def ptLive (r : Rd) (o g h : Nat) : Bool := match r.o o with
  | ⟨g', _, some (.var _)⟩ => Nat.beq g g'
  | ⟨g', _, some (.rv _)⟩ => Nat.beq g g'
  | ⟨g', h', some (.arr _ _ _)⟩ => Nat.beq g g' && Nat.beq h h'
  | _ => false
def opFieldAddr (T : Tab) (s : Nat) (r : Rd) (j : Nat) : VT → Br VT
  | .rp t y => Br.opt (T.find s) fun te => Br.when (decide (te.ty = t)) (match te.k, VT.fld j (.va t y) with
    | .st _, some (.va t' y') => Br.when (!decide (t'.cells = 0)) (.ret (.rp t' y'))
    | _, _ => .no)
  | .pt o g h p => Br.opt (T.find s) fun te => match te.k, tyAt te.ty [.f j] with
    | .st _, some t' => Br.when (ptTy r o g h p te.ty && !decide (t'.cells = 0)) (.ret (.pt o g h (p ++ [.f j])))
    | _, _ => .no
  | _ => .no
def opField (T : Tab) (s : Nat) (j : Nat) (v : VT) : Br VT := Br.opt (T.find s) fun te => match te.k with
  | .st _ => Br.when (v.fits te.ty) (Br.opt (VT.fld j v) fun u => .ret u)
  | _ => .no
def opIndexAddr0 (T : Tab) (t : Nat) (r : Rd) (x i : VT) : Br VT := Br.opt (T.find t) fun te => match i with
  | .va (.int _) n => match x, te.k with
    | .va (.sl t') xs, .sl _ => Br.when (decide (te.ty = .sl t')) (Br.ck (0 ≤ (n : Int) ∧ (n : Int) < (xs.length : Int)) (.ret (.rp t' (rdD xs n))))
    | .sl o g h p none, .sl _ => Br.opt (r.slice o g h p none) fun d => match d with
      | ⟨.sl t', xs⟩ => Br.when (decide (te.ty = .sl t')) (Br.ck (0 ≤ (n : Int) ∧ (n : Int) < (xs.length : Int)) (.ret (.pt o g (r.o o).h (p ++ [.i (Int.toNat n)]))))
      | _ => .no
    | _, _ => .no
  | _ => .no
def opIndexHole (T : Tab) (t : Nat) (o g g' h' : Nat) (t' : Ty) (len : Nat) (i : VT) : Br VT := Br.opt (T.find t) fun te => match i with
  | .va (.int _) n => match te.k with
    | .sl _ => Br.when (decide (te.ty = .sl (.sl t')) && Nat.beq g g') (Br.ck (0 ≤ (n : Int) ∧ (n : Int) < (len : Int)) (.ret (.pt o g h' [.i (Int.toNat n)])))
    | _ => .no
  | _ => .no
def opIndexAddr (T : Tab) (t : Nat) (r : Rd) (x i : VT) : Br VT := match x with
  | .sl o g _ [] none => match r.o o with
    | ⟨g', h', some (.arh t' xs _ _)⟩ => opIndexHole T t o g g' h' t' (List.length xs) i
    | _ => opIndexAddr0 T t r x i
  | _ => opIndexAddr0 T t r x i
def rowOut (r : Rd) (n0 o g h j : Nat) : Option (Obe × Obe) := match r.o o with
  | ⟨g', h', some (.arr (.sl t) xs nn)⟩ => cond (Nat.beq g g' && (Nat.beq h h' && !Nat.beq n0 o)) (some (⟨g', h', some (.arh t xs nn j)⟩, ⟨(r.o n0).g + 1, 0, some (.arr t (List.getD xs j []) false)⟩)) none
  | _ => none
def Rd.put2 (r : Rd) (o : Nat) (a : Obe) (n : Nat) (b : Obe) : Rd := ⟨r.v, fun m => cond (Nat.beq m n) b (cond (Nat.beq m o) a (r.o m))⟩
def bndL : Option Int → Nat
  | none => 0
  | some a => a.toNat
def bndH (len : Nat) : Option Int → Nat
  | none => len
  | some b => b.toNat
def inB (len : Nat) : Option Int → Option Int → Prop
  | none, none => False
  | none, some b => 0 ≤ b ∧ b ≤ (len : Int)
  | some a, none => 0 ≤ a ∧ a ≤ (len : Int)
  | some a, some b => 0 ≤ a ∧ a ≤ b ∧ b ≤ (len : Int)
def decB (len : Nat) : (lo hi : Option Int) → Decidable (inB len lo hi)
  | none, none => inferInstanceAs (Decidable False)
  | none, some b => inferInstanceAs (Decidable (0 ≤ b ∧ b ≤ (len : Int)))
  | some a, none => inferInstanceAs (Decidable (0 ≤ a ∧ a ≤ (len : Int)))
  | some a, some b => inferInstanceAs (Decidable (0 ≤ a ∧ a ≤ b ∧ b ≤ (len : Int)))
def cutL {α : Type} : Option Int → Option Int → List α → List α
  | none, none, xs => xs
  | none, some b, xs => xs.take b.toNat
  | some a, none, xs => xs.drop a.toNat
  | some a, some b, xs => (xs.take b.toNat).drop a.toNat
def getI : Option VT → Option (Option Int)
  | none => some none
  | some (.va (.int _) n) => some (some n)
  | _ => none
def opSlice (E : Env) (t : Nat) (dst : Nat) (r : Rd) (x : VT) (lo hi : Option VT) : Br Eff :=
  Br.opt (E.T.find t) fun te => Br.opt (getI lo) fun a => Br.opt (getI hi) fun b => match x with
  | .va (.sl t') xs => Br.when (decide (te.ty = .sl t')) (.chk (inB xs.length a b) (decB xs.length a b) (.ret ⟨some (.va (.sl t') (cutL a b xs)), []⟩))
  | .sl o g h p none => Br.opt (r.slice o g h p none) fun d => match d with
    | ⟨.sl t', xs⟩ => Br.when (decide (te.ty = .sl t')) (.chk (inB xs.length a b) (decB xs.length a b) (match alFind E.al dst with
      | n :: _ => Br.when (p.isEmpty && !Nat.beq n o) (.ret ⟨some (newSl r n), gone r [o] ++ [newO r n (.arr t' (cutL a b xs) false)]⟩)
      | [] => .ret ⟨some (.sl o g (r.o o).h p (some (bndL a, bndH xs.length b - bndL a))), []⟩))
    | _ => .no
  | _ => .no
def lim : Nat := 1073741824
def opAppend0 (E : Env) (ty : Ty) (dst : Nat) (r : Rd) (a b : VT) : Br Eff := match ty, alFind E.al dst with
  | .sl t, n :: _ => Br.when (t.data && !decide (t.cells = 0)) (match a with
    | .nl | .em => Br.opt (cond t.flat ((r.val (.sl t) b).map fun v => (v, [])) (r.own (.sl t) b)) fun ys => Br.when (nodupN (n :: ys.2))
        (.cnd (Nat.ble (List.length ys.1) 1073741824) (.ret ⟨some (newSl r n), gone r ys.2 ++ [newO r n (.arr t ys.1 (!ys.1.isEmpty))]⟩) .no)
    | .sl o g h [] none => Br.opt (r.slice o g h [] none) fun d => Br.opt (d.as (.sl t)) fun xs =>
        Br.opt (cond t.flat ((r.val (.sl t) b).map fun v => (v, [])) (r.own (.sl t) b)) fun ys => Br.when (nodupN (n :: o :: ys.2))
        (.cnd (Nat.ble (List.length xs + List.length ys.1) 1073741824) (.ret ⟨some (newSl r n), gone r (o :: ys.2) ++ [newO r n (.arr t (xs ++ ys.1) (!ys.1.isEmpty))]⟩) .no)
    | _ => .no)
  | _, _ => .no
def opAppend (E : Env) (ty : Ty) (dst : Nat) (r : Rd) (a b : VT) : Br Eff := match a with
  | .sl o g h [.i j] none => match alFind E.al dst with
    | _ :: n0 :: _ => Br.opt (rowOut r n0 o g h j) fun q => Br.mapE (fun e => ⟨e.v, (o, q.1) :: (n0, q.2) :: e.ob⟩) (opAppend0 E ty dst (r.put2 o q.1 n0 q.2) (.sl n0 q.2.g 0 [] none) b)
    | _ => .no
  | a => opAppend0 E ty dst r a b
def opCopy (ty : Ty) (r : Rd) (a b : VT) : Br Eff := match a with
  | .sl o g h [] w => match r.o o with
    | ⟨g', h', some (.arr t xs nn)⟩ => Br.when (Nat.beq g g' && (t.flat && (!Nat.beq t.cells 0 && decide (ty = .sl t)))) (Br.opt (r.val (.sl t) b) fun ys => match w with
      | none => .ret ⟨some (.va (.int .i64) ((min (List.length ys) (List.length xs) : Nat) : Int)), [(o, ⟨g', h', some (.arr t (splice xs 0 (List.length xs) ys) nn)⟩)]⟩
      | some (lo, m) => .ret ⟨some (.va (.int .i64) ((min (List.length ys) m : Nat) : Int)), [(o, ⟨g', h', some (.arr t (splice xs lo m ys) nn)⟩)]⟩)
    | _ => .no
  | _ => .no
def opLen (r : Rd) : VT → Br VT
  | .va (.sl t) xs => .ret (.va (.int .i64) (xs.length : Int))
  | .nl | .em => .ret (.va (.int .i64) (0 : Int))
  | .sl o g h p w => Br.opt (r.slice o g h p w) fun d => match d with
    | ⟨.sl t, xs⟩ => .ret (.va (.int .i64) (xs.length : Int))
    | _ => .no
  | _ => .no
def mmx (f : Int → Int → Int) : VT → List VT → Br VT
  | v, [] => .ret v
  | .va (.int k) x, .va (.int k') y :: l => Br.when (decide (k = k')) (mmx f (.va (.int k) (f x y)) l)
  | _, _ => .no
def Rd.vs (r : Rd) : List Operand → Option (List VT)
  | [] => some []
  | x :: l => (r.v x).bind fun v => (r.vs l).map fun m => v :: m
def optV (r : Rd) : Option Operand → Option (Option VT)
  | none => some none
  | some x => (r.v x).map some
def pure' (m : Br VT) : Br Eff := match m with
  | .ret v => .ret ⟨some v, []⟩
  | .no => .no
  | .chk c d t => .chk c d (pure' t)
  | .cnd b t e => .cnd b (pure' t) (pure' e)
  | .call y t => .call y fun v => pure' (t v)
def isNlC : VT → Bool
  | .nl => true
  | _ => false
def argTy (T : Tab) : List TypeId → Nat → Option Ty
  | [], _ => none
  | t :: _, 0 => (T.find t).map (·.ty)
  | _ :: l, n + 1 => argTy T l n
def isSlT : Option Ty → Bool
  | some (.sl _) => true
  | _ => false
def noRefs (r : Rd) : List Operand → Bool
  | [] => true
  | x :: l => match r.v x with
    | some v => cond v.refs.isEmpty (noRefs r l) false
    | none => false
def opCall (E : Env) (dst : Nat) (r : Rd) (f : Nat) (xs : List Operand) : Br Eff :=
  Br.opt (fnFind E.Γ f) fun fn => Br.opt (r.args fn.ps xs) fun a => Br.when (nodupN (alFind E.al dst) && (!fn.rs.hasRo || noRefs r xs)) (.call (fn.F a) fun y =>
    resBr r fn.rs y (alFind E.al dst) fun v e _ => .ret ⟨some (cond fn.tup (.tu v) v), e⟩)
def wrote : List (Nat × Obe) → List Nat
  | [] => []
  | (n, _) :: l => n :: wrote l
def VT.cells : VT → Nat
  | .va t _ => t.cells
  | .pr a b => a.cells + b.cells
  | .un => 0
  | _ => 1
def VT.capL : VT → Option (List VT)
  | .pr a b => cond (!a.isAgg && Nat.beq a.cells 1) (b.capL.map fun l => a :: l) none
  | .un => some []
  | _ => none
def nthV : List VT → Nat → Option VT
  | [], _ => none
  | v :: _, 0 => some v
  | _ :: l, n + 1 => nthV l n
def argRd (r : Rd) (vs : List VT) : Rd where
  v a := match a with
    | .tmp t => nthV vs t
    | _ => none
  o := r.o
def gFind (r : Rd) (f : Nat) (vs : List VT) : List Fg → Option (Σ g : Fg, g.pat.ty.D × Ren)
  | [] => none
  | g :: l => cond (Nat.beq g.id f && Nat.ble vs.length g.pat.n) (match g.pat.getR [] (argRd r vs) with
    | some q => some ⟨g, q⟩
    | none => gFind r f vs l) (gFind r f vs l)
def fxR (M : RenL) : List Nat → RenL
  | [] => []
  | o :: l => match M.find o with
    | some q => (o, q) :: fxR M l
    | none => fxR M l
def givenR (M : RenL) (fx : List Nat) : List (Nat × OP) → List Nat
  | [] => []
  | (_, .rv _) :: l => givenR M fx l
  | (o, _) :: l => cond (memN fx o) (givenR M fx l) (match M.find o with
    | some q => q :: givenR M fx l
    | none => givenR M fx l)
def freshR (fx : List Nat) : List (Nat × OP) → RenL → List Nat → Option RenL
  | [], m, _ => some m
  | (o, _) :: xs, m, l => cond (memN fx o) (freshR fx xs m l) (match m.find o with
    | some _ => none
    | none => match l with
      | n :: l => freshR fx xs ((o, n) :: m) l
      | [] => none)
def Ty.lay : Ty → Ty
  | .pr a b => .pr a.lay b.lay
  | .un => .un
  | _ => .op
def VP.lay : VP → Ty
  | .va t => t.lay
  | .pr a b => .pr a.lay b.lay
  | .un => .un
  | _ => .op
def idsO : List (Nat × OP) → List Nat
  | [] => []
  | (o, _) :: l => o :: idsO l
def findO : List (Nat × OP) → Nat → Option OP
  | [], _ => none
  | (o, p) :: l, n => cond (Nat.beq o n) (some p) (findO l n)
def OP.backB : Option OP → Option OP → Bool
  | some (.arr _ _), some (.arr _ _) => true
  | some (.var v), some (.var u) => decide (v.lay = u.lay)
  | some (.mp _ _), some (.mp _ _) => true
  | _, _ => false
def okG (g : Fg) : Bool :=
  nodupN (idsO g.pat.ob) && (((idsO g.pat.ob).all fun o => Nat.blt o g.pat.m) && (nodupN (idsO g.xo) && (((idsO g.xo).all fun o => Nat.blt o g.pat.m) &&
    (g.fx.all fun o => OP.backB (findO g.pat.ob o) (findO g.xo o)))))
def exitG (r : Rd) (fx : List Nat) (o q : Nat) : Nat := cond (memN fx o) (r.o q).g ((r.o q).g + 1)
def VP.mkR (r : Rd) (fx : List Nat) (m : RenL) : (v : VP) → v.ty.D → Option VT
  | .va t, x => cond t.flat (some (.va t x)) none
  | .rp _, _ => none
  | .nl, _ => some .nl
  | .em, _ => some .em
  | .np, _ => some .np
  | .an, _ => some .an
  | .sl o, _ => (m.find o).map fun q => .sl q (exitG r fx o q) 0 [] none
  | .pt o, _ => (m.find o).map fun q => .pt q (exitG r fx o q) 0 []
  | .pr a b, x => (a.mkR r fx m x.1).bind fun u => (b.mkR r fx m x.2).map fun v => .pr u v
  | .un, _ => some .un
  | .tu _, _ => none
  | .fn f a, x => (a.mkR r fx m x).map fun u => .fn f u
def OP.mkR (r : Rd) (fx : List Nat) (m : RenL) : (p : OP) → p.ty.D → Option Ob
  | .arr t nn, x => some (.arr t x nn)
  | .var v, x => (v.mkR r fx m x).map .var
  | .rv _, _ => none
  | .mp k t, x => some (.mp k t x)
def exitE (r : Rd) (fx : List Nat) (m : RenL) : (xo : List (Nat × OP)) → (objsTy xo).D → Option (List (Nat × Obe))
  | [], _ => some []
  | (o, .arr t nn) :: l, y => match m.find o with
    | some q => (exitE r fx m l y.2).map fun e => (q, ⟨exitG r fx o q, cond (memN fx o) ((r.o q).h + 1) 0, some (.arr t y.1 nn)⟩) :: e
    | none => exitE r fx m l y.2
  | (o, .var v) :: l, y => (m.find o).bind fun q => (v.mkR r fx m y.1).bind fun u =>
      (exitE r fx m l y.2).map fun e => (q, ⟨exitG r fx o q, cond (memN fx o) ((r.o q).h + 1) 0, some (.var u)⟩) :: e
  | (_, .rv _) :: _, _ => none
  | (o, .mp k t) :: l, y => (m.find o).bind fun q => (exitE r fx m l y.2).map fun e => (q, ⟨exitG r fx o q, cond (memN fx o) ((r.o q).h + 1) 0, some (.mp k t y.1)⟩) :: e
def opMakeMap (E : Env) (t dst : Nat) (r : Rd) : Br Eff := match alFind E.al dst with
  | n :: _ => Br.opt (E.T.find t) fun te => match te.k with
    | .mp a b => Br.opt (E.T.find a) fun ka => Br.opt (E.T.find b) fun eb => match ka.ty with
      | .int k => Br.when (eb.ty.flat && eb.ty.data) (.ret ⟨some (newPt r n), [newO r n (.mp k eb.ty [])]⟩)
      | _ => .no
    | _ => .no
  | [] => .no
def opLookup (T : Tab) (t : Nat) (r : Rd) (x i : VT) (ok : Bool) : Br VT := Br.opt (T.find t) fun te => match te.k, x, i with
  | .mp a b, .pt o g _ [], .va (.int k') n => Br.opt (T.find a) fun ka => Br.opt (T.find b) fun eb => match r.o o with
    | ⟨g', _, some (.mp k t' es)⟩ => Br.when (Nat.beq g g' && (decide (k' = k) && (decide (ka.ty = .int k) && (decide (eb.ty = t') && (t'.flat && t'.data)))))
        (.ret (cond ok (.tu (.pr (.va t' ((mpGet es n).getD t'.zero)) (.pr (.va .bool (mpGet es n).isSome) .un))) (.va t' ((mpGet es n).getD t'.zero))))
    | _ => .no
  | _, _, _ => .no
def opMapPut (T : Tab) (t : Nat) (r : Rd) (x i v : VT) : Br Eff := Br.opt (T.find t) fun te => match te.k, x, i with
  | .mp a _, .pt o g _ [], .va (.int k') n => Br.opt (T.find a) fun ka => match r.o o with
    | ⟨g', h', some (.mp k t' es)⟩ => Br.when (Nat.beq g g' && (decide (k' = k) && (decide (ka.ty = .int k) && t'.flat))) (Br.opt (r.val t' v) fun y => .ret ⟨none, [(o, ⟨g', h', some (.mp k t' (mpPut es n y))⟩)]⟩)
    | _ => .no
  | _, _, _ => .no
def freeOf (r : Rd) : List Nat → List Nat
  | [] => []
  | n :: l => match (r.o n).c with
    | some _ => freeOf r l
    | none => n :: freeOf r l
def opCallG0 (E : Env) (dst : Nat) (r : Rd) (f : Nat) (vs : List VT) : Br Eff :=
  match gFind r f vs E.G with
  | some ⟨g, d, M⟩ => Br.when (nodupN (freeOf r (alFind E.al dst)) && apartN (freeOf r (alFind E.al dst)) M.m.imgs) (.call (g.F d) fun y =>
      resBr r g.rs y.1 (freeOf r (alFind E.al dst)) fun v e l => Br.opt (freshR g.fx g.xo (fxR M.m g.fx) l) fun m => Br.opt (exitE r g.fx m g.xo y.2) fun e2 =>
        Br.when (nodupN (wrote e2) && apartN (wrote e2) (givenR M.m g.fx g.pat.ob)) (.ret ⟨some (cond g.tup (.tu v) v), gone r (givenR M.m g.fx g.pat.ob) ++ (e2 ++ e)⟩))
  | none => .no
def soFind : List So → Nat → Option So
  | [], _ => none
  | s :: l, n => cond (Nat.beq s.id n) (some s) (soFind l n)
def restOk : List VT → List Nat → Bool
  | [], [] => true
  | .fn f .un :: l, g :: m => Nat.blt f boN && (Nat.beq f g && restOk l m)
  | _, _ => false
def opSort (r : Rd) (s : So) : List VT → Br Eff
  | .sl o g h p none :: rest => Br.when (restOk rest s.rest) (Br.opt (r.slice o g h p none) fun d => Br.opt (d.as (.sl s.t)) fun ys => match r.o o with
    | ⟨g', h', some (.arr t xs nn)⟩ => Br.opt (setP (.sl t) xs p ⟨.sl s.t, s.F ys⟩) fun zs => .cnd (Nat.ble (List.length ys) 1073741824) (.ret ⟨some (.tu .un), [(o, ⟨g', h', some (.arr t zs nn)⟩)]⟩) .no
    | _ => .no)
  | .nl :: rest => Br.when (restOk rest s.rest) (.ret ⟨some (.tu .un), []⟩)
  | .em :: rest => Br.when (restOk rest s.rest) (.ret ⟨some (.tu .un), []⟩)
  | _ => .no
def rowArg : List VT → Nat → Option (Nat × Nat × Nat × Nat × Nat)
  | [], _ => none
  | .sl o g h [.i j] none :: _, i => some (i, o, g, h, j)
  | _ :: l, i => rowArg l (i + 1)
def opCallG (E : Env) (dst : Nat) (r : Rd) (f : Nat) (vs : List VT) : Br Eff := match gFind r f vs E.G with
  | some _ => opCallG0 E dst r f vs
  | none => match rowArg vs 0, alFind E.al dst with
    | some q, n0 :: _ => Br.opt (rowOut r n0 q.2.1 q.2.2.1 q.2.2.2.1 q.2.2.2.2) fun p => Br.mapE (fun e => ⟨e.v, (q.2.1, p.1) :: (n0, p.2) :: e.ob⟩) (opCallG0 E dst (r.put2 q.2.1 p.1 n0 p.2) f (vs.set q.1 (.sl n0 p.2.g 0 [] none)))
    | _, _ => .no
def opCallF (E : Env) (dst : Nat) (r : Rd) (f : Nat) (xs : List Operand) : Br Eff :=
  match fnFind E.Γ f with
  | some _ => opCall E dst r f xs
  | none => Br.opt (r.vs xs) fun vs => match soFind E.so f with
    | some s => opSort r s vs
    | none => opCallG E dst r f vs
def opCallV (E : Env) (dst : Nat) (r : Rd) (v : VT) (xs : List Operand) : Br Eff := match v with
  | .fn f c => Br.when (Nat.blt f boN) (Br.opt (r.vs xs) fun vs => Br.opt c.capL fun cs => opCallG E dst r f (vs ++ cs))
  | _ => .no
def opInvoke (E : Env) (dst : Nat) (r : Rd) (v : VT) (name : String) (xs : List Operand) : Br Eff := match v with
  | .fn f (.pr u .un) => Br.when (Nat.ble ifB f && cellV u) (Br.opt (E.T.find (f - ifB)) fun te => Br.opt (msFind te.ms name) fun m => Br.opt (r.vs xs) fun vs => opCallG E dst r m (u :: vs))
  | _ => .no
def alKey (dst : Option Nat) (o : Op) : Nat := match dst with
  | some d => d
  | none => match o with
    | .call c => match c.callee with
      | .value (.func f) => 1000000 + f
      | _ => 0
    | _ => 0
def chainV : List VT → Option VT
  | [] => some .un
  | v :: l => cond v.isAgg none (match v with
    | .tu _ => none
    | .ud => none
    | v => (chainV l).map fun u => .pr v u)
def opEff (E : Env) (ty : Nat) (dst : Nat) (o : Op) (r : Rd) : Br Eff :=
  match o with
  | .move x => Br.opt (r.v x) fun v => .ret ⟨some v, []⟩
  | .assign x => Br.opt (r.v x) fun v => match v with
    | .nl => match alFind E.al dst with
      | n :: _ => Br.opt (E.T.find ty) fun te => match te.ty with
        | .sl t => .ret ⟨some (newSl r n), [newO r n (.arr t [] false)]⟩
        | _ => .no
      | [] => .ret ⟨some .nl, []⟩
    | v => .ret ⟨some v, []⟩
  | .pick c a b => Br.opt (r.v c) fun v => match v with
    | .va .bool x => .cnd x (Br.opt (r.v a) fun u => .ret ⟨some u, []⟩) (Br.opt (r.v b) fun u => .ret ⟨some u, []⟩)
    | _ => .no
  | .alloc e => match alFind E.al dst with
    | n :: _ => Br.opt (E.T.find e) fun te => .ret ⟨some (newPt r n), [newO r n (.var (zeroVT te.ty))]⟩
    | [] => .no
  | .box e x => match alFind E.al dst with
    | n :: _ => Br.opt (E.T.find e) fun te => Br.opt (r.v x) fun v => Br.when (v.fits te.ty) (.ret ⟨some (newPt r n), [newO r n (.var v)]⟩)
    | [] => .no
  | .build t ps => Br.opt (E.T.find t) fun te => Br.opt (partsOf r ps.toList) fun l => Br.opt (fillVT te.ty (zeroVT te.ty) l) fun v => Br.when (match te.k with | .st _ | .ar _ _ => true | _ => false) (.ret ⟨some v, []⟩)
  | .buildSlice t len ps => match alFind E.al dst with
    | n :: _ => Br.opt (E.T.find t) fun te => match te.ty with
      | .sl t' => Br.opt (partsOf r ps.toList) fun l => Br.opt (ownAll r t' l) fun z => Br.when (nodupN (n :: z.2) && t'.data && Nat.ble (len * t'.cells) 16777216 && l.all fun q => Nat.ble (q.1 + 1) len)
          (.ret ⟨some (newSl r n), gone r z.2 ++ [newO r n (.arr t' (setAll (List.replicate len t'.zero) z.1) true)]⟩)
      | _ => .no
    | [] => Br.opt (E.T.find t) fun te => match te.ty with
      | .sl t' => Br.opt (partsOf r ps.toList) fun l => Br.opt (valAll t' l) fun z => Br.when (t'.data && Nat.ble (len * t'.cells) 16777216 && l.all fun q => Nat.ble (q.1 + 1) len)
          (.ret ⟨some (.va (.sl t') (setAll (List.replicate len t'.zero) z)), []⟩)
      | _ => .no
  | .load t x => Br.opt (r.v x) fun v => pure' (opLoad E.T t r v)
  | .store t x y => Br.opt (r.v x) fun a => Br.opt (r.v y) fun v => opStore E.T t r a v
  | .nilCheck x => Br.opt (r.v x) fun v => match v with
    | .pt o g h p => Br.when (ptLive r o g h) (.ret ⟨some (.pt o g h p), []⟩)
    | .rp t y => .ret ⟨some (.rp t y), []⟩
    | _ => .no
  | .fieldAddr s x j => Br.opt (r.v x) fun v => pure' (opFieldAddr E.T s r j v)
  | .field s x j => Br.opt (r.v x) fun v => pure' (opField E.T s j v)
  | .extract x j => Br.opt (r.v x) fun v => match v with
    | .tu u => Br.opt (VT.fld j u) fun z => .ret ⟨some z, []⟩
    | _ => .no
  | .indexAddr t x i => Br.opt (r.v x) fun v => Br.opt (r.v i) fun u => pure' (opIndexAddr E.T t r v u)
  | .binOp op t x y _ => Br.opt (r.v x) fun a => Br.opt (r.v y) fun b => cond a.viaEq (pure' (opEqS E.T op t r a b)) (cond (isNlC b) (pure' (opNil E.T op t r a)) (pure' (opBin op a b)))
  | .unOp op _ x => Br.opt (r.v x) fun a => pure' (opUn op a)
  | .convert s d x => Br.opt (E.T.find s) fun _ => Br.opt (E.T.find d) fun te => Br.opt (r.v x) fun v => match te.ty, v with
    | .int k, .va (.int _) n => .ret ⟨some (.va (.int k) (k.wrap (n : Int) : Int)), []⟩
    | _, _ => .no
  | .makeSlice t l c => match alFind E.al dst with
    | n :: _ => Br.opt (E.T.find t) fun te => Br.opt (r.v l) fun a => Br.opt (r.v c) fun b => match te.ty, a, b with
      | .sl t', .va (.int _) a, .va (.int _) b => Br.when t'.data (Br.ck (0 ≤ (a : Int) ∧ (a : Int) ≤ b ∧ (b : Int) ≤ 1073741824) (.ret ⟨some (newSl r n), [newO r n (.arr t' (List.replicate (Int.toNat a) t'.zero) true)]⟩))
      | _, _, _ => .no
    | [] => .no
  | .makeMap t res => match res with
    | none => opMakeMap E t dst r
    | some y => Br.opt (r.v y) fun v => match v with
      | .va (.int _) _ => opMakeMap E t dst r
      | _ => .no
  | .lookup t x i ok => Br.opt (r.v x) fun v => Br.opt (r.v i) fun u => pure' (opLookup E.T t r v u ok)
  | .mapUpdate t x i y => Br.opt (r.v x) fun v => Br.opt (r.v i) fun u => Br.opt (r.v y) fun z => opMapPut E.T t r v u z
  | .makeFunc f first caps => match f, first.toList with
    | .func f, [] => Br.when (Nat.blt f boN) (Br.opt (r.vs caps.toList) fun vs => Br.opt (chainV vs) fun c => .ret ⟨some (.fn f c), []⟩)
    | _, _ => .no
  | .makeInterface t x => Br.opt (E.T.find t) fun _ => Br.opt (r.v x) fun v => Br.when (cellV v) (.ret ⟨some (.fn (ifB + t) (.pr v .un)), []⟩)
  | .typeAssert x _ t ok => Br.when (!ok) (Br.opt (E.T.find t) fun _ => Br.opt (r.v x) fun v => match v with
    | .fn f (.pr u .un) => Br.when (Nat.beq f (ifB + t) && cellV u) (.ret ⟨some u, []⟩)
    | _ => .no)
  | .slice t x lo hi mx => match mx with
    | none => Br.opt (r.v x) fun v => Br.opt (optV r lo) fun a => Br.opt (optV r hi) fun b => opSlice E t dst r v a b
    | some _ => .no
  | .call c => match c.callee with
    | .value (.func f) => opCallF E dst r f c.args.toList
    | .value (.tmp t) => Br.opt (r.v (.tmp t)) fun v => opCallV E dst r v c.args.toList
    | .invoke x name => Br.opt (r.v x) fun v => opInvoke E dst r v name c.args.toList
    | .builtin b => Br.opt (r.vs c.args.toList) fun vs => match b, vs with
      | .len, [v] => Br.when (isSlT (argTy E.T c.argTypes.toList 0)) (pure' (opLen r v))
      | .append, [a, b] => Br.when (isSlT (argTy E.T c.argTypes.toList 1)) (Br.opt (argTy E.T c.argTypes.toList 0) fun t => opAppend E t dst r a b)
      | .copy, [a, b] => Br.opt (argTy E.T c.argTypes.toList 0) fun t => opCopy t r a b
      | .max, v :: l => pure' (mmx mx v l)
      | .min, v :: l => pure' (mmx mn v l)
      | _, _ => .no
    | _ => .no
  | _ => .no
def tmpsO : List Operand → List Nat
  | [] => []
  | .tmp t :: l => t :: tmpsO l
  | _ :: l => tmpsO l
def opIns : Op → List Operand
  | .move x | .assign x | .box _ x | .load _ x | .nilCheck x | .unOp _ _ x | .convert _ _ x | .fieldAddr _ x _ | .field _ x _ | .extract x _ | .makeInterface _ x | .typeAssert x _ _ _ => [x]
  | .pick c a b => [c, a, b]
  | .build _ ps | .buildSlice _ _ ps => ps.toList.map (·.2)
  | .store _ a v | .binOp _ _ a v _ | .makeSlice _ a v | .indexAddr _ a v => [a, v]
  | .lookup _ a v _ => [a, v]
  | .mapUpdate _ a i v => [a, i, v]
  | .makeMap _ y => y.toList
  | .slice _ x l h m => x :: (l.toList ++ (h.toList ++ m.toList))
  | .makeFunc _ first caps => first.toList ++ caps.toList
  | .call c => match c.callee with
    | .value f => f :: c.args.toList
    | .invoke x _ => x :: c.args.toList
    | _ => c.args.toList
  | _ => []
def refsOf (sl : List (Option VT)) : List Nat → List Nat
  | [] => []
  | t :: l => match getL sl t with
    | some v => v.refs ++ refsOf sl l
    | none => refsOf sl l
def obRefs (ob : List Obe) : List Nat → List Nat
  | [] => []
  | o :: l => match (getO ob o).c with
    | some (.var v) => v.refs ++ obRefs ob l
    | some (.rv v) => v.refs ++ obRefs ob l
    | _ => obRefs ob l
def obReach (ob : List Obe) : Nat → List Nat → List Nat
  | 0, _ => []
  | n + 1, l => match obRefs ob l with
    | [] => []
    | m => m ++ obReach ob n m
structure Fp where
  rs : List Nat
  ro : List Nat
def opLooks : Op → Bool
  | .move _ | .assign _ | .pick _ _ _ | .extract _ _ | .field _ _ _ | .unOp _ _ _ | .convert _ _ _ | .makeFunc _ _ _ | .makeInterface _ _ | .typeAssert _ _ _ _ => false
  | _ => true
def opDeep : Op → Bool
  | .call c => match c.callee with
    | .builtin _ => false
    | _ => true
  | _ => false
def opFp (E : Env) (ops : Array Oper) (o : Oper) (x : X) : Fp :=
  let rs := (match o.guard with | some (j, _) => (match (ops[j]?).bind (·.dst) with | some d => [d] | none => []) | none => []) ++ tmpsO (opIns o.op)
  let r0 := refsOf x.sl rs
  ⟨rs, alFind E.al (alKey o.dst o.op) ++ cond (opLooks o.op) (r0 ++ cond (opDeep o.op) (obReach x.ob 4 r0) []) []⟩
def rdR (x : X) (f : Fp) : Rd where
  v a := match a with
    | .tmp t => cond (memN f.rs t) (getL x.sl t) none
    | .const v => constVT v
    | .func f => cond (Nat.blt f boN) (some (.fn f .un)) none
    | .global _ => none
  o n := cond (memN f.ro n) (getO x.ob n) ⟨0, 0, none⟩
def rdOf (x : X) : Rd where
  v a := match a with
    | .tmp t => getL x.sl t
    | .const v => constVT v
    | .func f => cond (Nat.blt f boN) (some (.fn f .un)) none
    | .global _ => none
  o n := getO x.ob n
def putO (l : List Obe) : List (Nat × Obe) → List Obe
  | [] => l
  | (n, e) :: k => putO (l.set n e) k
def X.app (x : X) (dst : Option Nat) (e : Eff) : X where
  sl := match dst with
    | some d => x.sl.set d e.v
    | none => x.sl
  ob := putO x.ob e.ob
def X.lit (x : X) (t : Nat) (b : Bool) : X := { x with sl := x.sl.set t (some (.va .bool b)) }
def wrOk : List Nat → List Nat → Nat → Bool
  | [], _, _ => true
  | n :: l, ro, len => cond (memN ro n) (cond (Nat.blt n len) (wrOk l ro len) false) false
def OpRel (E : Env) (ops : Array Oper) (o : Oper) (x : X) (e : Eff) : Prop :=
  match o.guard with
  | none => (opEff E o.type (alKey o.dst o.op) o.op (rdR x (opFp E ops o x))).has e ∧ wrOk (wrote e.ob) (opFp E ops o x).ro x.ob.length = true
  | some (j, want) => match (ops[j]?).bind (·.dst) with
    | some d => match getL x.sl d with
      | some .ud => e = ⟨some .ud, []⟩
      | some (.va .bool b) => if (b : Bool) = want then (opEff E o.type (alKey o.dst o.op) o.op (rdR x (opFp E ops o x))).has e ∧ wrOk (wrote e.ob) (opFp E ops o x).ro x.ob.length = true
          else e = ⟨some .ud, []⟩
      | _ => False
    | none => False
section
variable {R : Type}
def opGo (E : Env) (ops : Array Oper) (o : Oper) (x : X) (K : Fp → Eff → X → Option R) : Option R :=
  (opEff E o.type (alKey o.dst o.op) o.op (rdR x (opFp E ops o x))).run fun e => cond (wrOk (wrote e.ob) (opFp E ops o x).ro x.ob.length) (K (opFp E ops o x) e (x.app o.dst e)) none
def opRun (E : Env) (ops : Array Oper) (o : Oper) (x : X) (K : Fp → Eff → X → Option R) : Option R :=
  match o.guard with
  | none => opGo E ops o x K
  | some (j, want) => match (ops[j]?).bind (·.dst) with
    | some d => match getL x.sl d with
      | some .ud => K (opFp E ops o x) ⟨some .ud, []⟩ (x.app o.dst ⟨some .ud, []⟩)
      | some (.va .bool b) => cond b
          (cond want (opGo E ops o (x.lit d true) K) (K (opFp E ops o (x.lit d true)) ⟨some .ud, []⟩ ((x.lit d true).app o.dst ⟨some .ud, []⟩)))
          (cond want (K (opFp E ops o (x.lit d false)) ⟨some .ud, []⟩ ((x.lit d false).app o.dst ⟨some .ud, []⟩)) (opGo E ops o (x.lit d false) K))
      | _ => none
    | none => none
def opsRun (E : Env) (ops : Array Oper) : List Oper → X → (X → Option R) → Option R
  | [], x, K => K x
  | o :: l, x, K => opRun E ops o x fun _ _ x' => opsRun E ops l x' K
structure Tr where
  i : Nat
  rs : List Nat
  ro : List Nat
  ws : List Nat
  wo : List Nat
def opsRunD (E : Env) (ops : Array Oper) : List Oper → Nat → X → List Tr → (List Tr → X → Option R) → Option R
  | [], _, x, t, K => K t x
  | o :: l, i, x, t, K => opRun E ops o x fun f e x' => opsRunD E ops l (i + 1) x' (⟨i, f.rs, f.ro, o.dst.toList, wrote e.ob⟩ :: t) K
end
def ancE (acc : List Nat) : List Edge → Nat
  | [] => 0
  | e :: l => cond (Region.binds .any e) (Nat.lor (Nat.lor (2 ^ e.on) (acc.getD e.on 0)) (ancE acc l)) (ancE acc l)
def ancL : List Oper → List Nat → List Nat
  | [], acc => acc
  | o :: l, acc => ancL l (acc ++ [ancE acc o.after.toList])
def ordered (anc : List Nat) (i j : Nat) : Bool := (anc.getD i 0).testBit j || (anc.getD j 0).testBit i
def slotOk (anc : List Nat) (a : Tr) (tr : List Tr) (t : Nat) : Bool := tr.all fun b => Nat.beq a.i b.i || (!memN b.ws t || ordered anc a.i b.i)
def obOk (anc : List Nat) (b : Tr) (tr : List Tr) : Bool := match b.wo with
  | [] => true
  | _ => tr.all fun a => Nat.beq a.i b.i || (apartN b.wo (a.ro ++ a.wo) || ordered anc a.i b.i)
def dstsOf : List Oper → List Nat
  | [] => []
  | o :: l => match o.dst with
    | some d => d :: dstsOf l
    | none => dstsOf l
def edgesLt : List Oper → Nat → Bool
  | [], _ => true
  | o :: l, i => (o.after.toList.all fun e => !Region.binds .any e || Nat.blt e.on i) && edgesLt l (i + 1)
def commOk (ops : Array Oper) (tr : List Tr) : Bool :=
  edgesLt ops.toList 0 &&
  (nodupN (dstsOf ops.toList) && (tr.all fun a => (a.rs.all (slotOk (ancL ops.toList []) a tr)) && obOk (ancL ops.toList []) a tr))
section
variable {R : Type}
def regRun (E : Env) (ops : Array Oper) (draw : Bool) (x : X) (K : X → Option R) : Option R :=
  cond draw (opsRunD E ops ops.toList 0 x [] fun tr x' => cond (commOk ops tr) (K x') none) (opsRun E ops ops.toList x K)
noncomputable def exec (E : Env) (cuts : List Nat) (J : Nat → X → Option R) (fin : X → Option R) : Nat → Bool → List Item → X → Option R
  | 0, _, _, _ => none
  | _ + 1, _, [], x => fin x
  | n + 1, s, .code c :: k, x => match c with
    | .skip => exec E cuts J fin n s k x
    | .seq a b => exec E cuts J fin n s (.code a :: .code b :: k) x
    | .region id ops draw => cond (memN cuts id && !s) (J id x) (regRun E ops draw x fun x' => exec E cuts J fin n false k x')
    | .cond c a b => match (rdOf x).v c with
      | some (.va .bool v) => match c with
        | .tmp t => cond v (exec E cuts J fin n false (.code a :: k) (x.lit t true)) (exec E cuts J fin n false (.code b :: k) (x.lit t false))
        | _ => cond v (exec E cuts J fin n false (.code a :: k) x) (exec E cuts J fin n false (.code b :: k) x)
      | some (.fn f _) => match c with
        | .tmp t => cond (Nat.beq f boN) (both (exec E cuts J fin n false (.code a :: k) (x.lit t true)) (exec E cuts J fin n false (.code b :: k) (x.lit t false))) none
        | _ => none
      | _ => none
    | .block id c => exec E cuts J fin n s (.code c :: .inBlock id :: k) x
    | .loop c => exec E cuts J fin n s (.code c :: .inLoop c :: k) x
    | .exit id => match exitTo id k with
      | some k' => exec E cuts J fin n false k' x
      | none => none
    | .ret => fin x
    | _ => none
  | n + 1, _, .inBlock _ :: k, x => exec E cuts J fin n false k x
  | n + 1, _, .inLoop c :: k, x => exec E cuts J fin n false (.code c :: .inLoop c :: k) x
  | _ + 1, _, _, _ => none
end
def occs : Code → List Item → List (Nat × List Item)
  | .region id ops d, k => [(id, .code (.region id ops d) :: k)]
  | .seq a b, k => occs a (.code b :: k) ++ occs b k
  | .cond _ a b, k => occs a k ++ occs b k
  | .block i c, k => occs c (.inBlock i :: k)
  | .loop c, k => occs c (.inLoop c :: k)
  | _, _ => []
def occsK : List Item → List (Nat × List Item)
  | [] => []
  | .code c :: k => occs c k ++ occsK k
  | .inLoop c :: k => occs c (.inLoop c :: k) ++ occsK k
  | _ :: k => occsK k
def occFind (id : Nat) : List (Nat × List Item) → Option (List Item)
  | [] => none
  | (i, k) :: l => cond (Nat.beq i id) (some k) (occFind id l)
def occIds : List (Nat × List Item) → List Nat
  | [] => []
  | (i, _) :: l => i :: occIds l
def todoAt (id : Nat) (k : List Item) : Option (List Item) := occFind id (occsK k)
structure Cut (R : Type) where
  id : Nat
  pat : Pat
  C : pat.ty.D → Option R
def jump {R : Type} (fx : List Nat) : List (Cut R) → Nat → X → Option R
  | [], _, _ => none
  | c :: l, id, x => cond (Nat.beq c.id id) (cond (Nat.beq x.sl.length c.pat.n) ((c.pat.getR fx (rdOf x)).bind fun d => c.C d.1) none) (jump fx l id x)
def ids {R : Type} : List (Cut R) → List Nat
  | [] => []
  | c :: l => c.id :: ids l
def nnOf (r : Rd) (o : Nat) : Bool := match (r.o o).c with
  | some (.arr _ _ nn) => nn
  | _ => false
def Rd.res (r : Rd) : (t : Rt) → VT → Option t.D
  | .fl t, v => cond t.flat (r.val t v) none
  | .os t, v => (r.own (.sl t) v).map (·.1)
  | .on _, .nl => some none
  | .on t, .sl o g h [] none => cond (nnOf r o) ((r.own (.sl t) (.sl o g h [] none)).map fun y => some y.1) none
  | .ro t, v => r.val t v
  | .pr a b, .pr v u => (r.res a v).bind fun x => (r.res b u).map fun y => (x, y)
  | .pr a b, .va (.pr s t) x => (r.res a (.va s x.1)).bind fun y => (r.res b (.va t x.2)).map fun z => (y, z)
  | .un, .un => some ()
  | .un, .va .un _ => some ()
  | .fi n t, .fn f (.pr v .un) => cond (Nat.beq f (ifB + n) && t.one) (r.val t v) none
  | _, _ => none
def resSlot (T : Tab) (r : Rd) : ResultVar → Option VT
  | .tmp t => r.v (.tmp t)
  | .cell t ty => (r.v (.tmp t)).bind fun v => match v with
    | .pt o g _ [] => match r.o o, T.find ty with
      | ⟨g', _, some (.var u)⟩, some te => cond (Nat.beq g g' && u.fits te.ty) (some u) none
      | ⟨g', _, some (.rv u)⟩, some te => cond (Nat.beq g g' && u.fits te.ty) (some u) none
      | _, _ => none
    | _ => none
def resSlots (T : Tab) (r : Rd) : List ResultVar → Option VT
  | [] => some .un
  | v :: l => (resSlot T r v).bind fun v => (resSlots T r l).map fun u => .pr v u
def VT.once (v : VT) : Bool := nodupN v.refs
def finish (T : Tab) (fn : Func) (tup : Bool) (rs : Rt) (x : X) : Option rs.D :=
  cond tup ((resSlots T (rdOf x) fn.results.toList).bind fun v => cond v.once ((rdOf x).res rs v) none)
    (match fn.results.toList with
      | [v] => (resSlot T (rdOf x) v).bind fun v => cond v.once ((rdOf x).res rs v) none
      | _ => none)
def startSlots : (t : Ty) → t.D → List (Option VT) → Nat → List (Option VT)
  | .pr a b, x, z, n => startSlots b x.2 (z.set n (some (.va a x.1))) (n + 1)
  | _, _, z, _ => z
def start (ps : Ty) (n m : Nat) (x : ps.D) : X := ⟨startSlots ps x (List.replicate n none) 0, List.replicate m ⟨0, 0, none⟩⟩
def bodyOf (fn : Func) : List Item := match fn.body with
  | some c => [.code c]
  | none => []
noncomputable def runF (E : Env) (fn : Func) (tup : Bool) (rs : Rt) (cuts : List (Cut rs.D)) (todo : Option (List Item)) (s : Bool) (x : X) : Option rs.D :=
  match todo with
  | some k => exec E (ids cuts) (jump [] cuts) (finish E.T fn tup rs) 4000 s k x
  | none => none
def resAll (T : Tab) (fn : Func) (tup : Bool) (x : X) : Option VT :=
  cond tup (resSlots T (rdOf x) fn.results.toList) (match fn.results.toList with
    | [v] => resSlot T (rdOf x) v
    | _ => none)
def finishG (T : Tab) (fn : Func) (tup : Bool) (rs : Rt) (fx : List Nat) (xo : List (Nat × OP)) (x : X) : Option (rs.D × (objsTy xo).D) :=
  (resAll T fn tup x).bind fun v => ((rdOf x).res rs v).bind fun y => (idR (rdOf x) fx).bind fun m => (getObjs (rdOf x) xo ⟨m, [], []⟩).bind fun z =>
    cond (v.once && (apartN v.refs z.2.m.imgs && z.2.c.isEmpty)) (some (y, z.1)) none
noncomputable def runG (E : Env) (fn : Func) (tup : Bool) (rs : Rt) (fx : List Nat) (xo : List (Nat × OP)) (cuts : List (Cut (rs.D × (objsTy xo).D))) (todo : Option (List Item)) (s : Bool) (x : X) : Option (rs.D × (objsTy xo).D) :=
  match todo with
  | some k => exec E (ids cuts) (jump fx cuts) (finishG E.T fn tup rs fx xo) 4000 s k x
  | none => none
end Go.Vm
