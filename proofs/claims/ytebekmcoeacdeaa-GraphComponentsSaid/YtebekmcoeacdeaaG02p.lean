/- Chapter 02: immediate dominators by meeting in a tree, as plain mathematics. -/
import Derived.Test.YtebekmcoeacdeaaG02i
set_option linter.unusedVariables false
set_option linter.unusedSimpArgs false
namespace Go.Vm
open Go

/-- what is found upwards -/
def it (O : Nat → Nat) : Nat → Nat → Nat
  | 0, a => a
  | k + 1, a => it O k (O a)
def AN (O : Nat → Nat) (a x : Nat) : Prop := ∃ k, it O k a = x
theorem AN.refl {O : Nat → Nat} (a : Nat) : AN O a a := ⟨0, rfl⟩
theorem AN.up {O : Nat → Nat} {a x : Nat} (h : AN O (O a) x) : AN O a x := by
  obtain ⟨k, h⟩ := h
  exact ⟨k + 1, h⟩
theorem it_add (O : Nat → Nat) : ∀ (k l a : Nat), it O (k + l) a = it O l (it O k a)
  | 0, l, a => by simp [it]
  | k + 1, l, a => by
    rw [show k + 1 + l = (k + l) + 1 by omega]
    exact it_add O k l (O a)
theorem AN.trans {O : Nat → Nat} {a b c : Nat} (h : AN O a b) (h' : AN O b c) : AN O a c := by
  obtain ⟨k, rfl⟩ := h
  obtain ⟨l, rfl⟩ := h'
  exact ⟨k + l, it_add O k l a⟩
theorem AN.cases {O : Nat → Nat} {a x : Nat} (h : AN O a x) : x = a ∨ AN O (O a) x := by
  obtain ⟨k, h⟩ := h
  cases k with
  | zero => exact .inl h.symm
  | succ k => exact .inr ⟨k, h⟩
theorem AN.lin {O : Nat → Nat} {u a b : Nat} (h : AN O u a) (h' : AN O u b) : AN O a b ∨ AN O b a := by
  obtain ⟨k, rfl⟩ := h
  obtain ⟨l, rfl⟩ := h'
  by_cases e : k ≤ l
  · exact .inl ⟨l - k, by rw [← it_add, show k + (l - k) = l by omega]⟩
  · exact .inr ⟨k - l, by rw [← it_add, show l + (k - l) = k by omega]⟩

structure TREE (root : Nat) (pl : Nat → Nat) (O : Nat → Nat) (P : Nat → Prop) : Prop where
  p0 : P root
  o0 : O root = root
  dn : ∀ v, P v → v ≠ root → P (O v) ∧ pl (O v) < pl v
section
variable {root : Nat} {pl O O' : Nat → Nat} {P : Nat → Prop}
theorem AN.top (o0 : O root = root) {x : Nat} (h : AN O root x) : x = root := by
  obtain ⟨k, h⟩ := h
  have : ∀ k, it O k root = root := by
    intro k
    induction k with
    | zero => rfl
    | succ k ih => show it O k (O root) = root; rw [o0]; exact ih
  rw [← h, this]
theorem TREE.le (T : TREE root pl O P) : ∀ (k a : Nat), P a → P (it O k a) ∧ pl (it O k a) ≤ pl a ∧ (it O k a = a ∨ pl (it O k a) < pl a)
  | 0, a, h => ⟨h, Nat.le_refl _, .inl rfl⟩
  | k + 1, a, h => by
    show P (it O k (O a)) ∧ pl (it O k (O a)) ≤ pl a ∧ (it O k (O a) = a ∨ pl (it O k (O a)) < pl a)
    by_cases e : a = root
    · have e2 : O a = a := by rw [e]; exact T.o0
      rw [e2]
      exact T.le k a h
    · obtain ⟨h1, h2⟩ := T.dn a h e
      obtain ⟨h3, h4, _⟩ := T.le k (O a) h1
      exact ⟨h3, by omega, .inr (by omega)⟩
theorem TREE.an (T : TREE root pl O P) {a x : Nat} (h : P a) (hx : AN O a x) : P x ∧ pl x ≤ pl a ∧ (x = a ∨ pl x < pl a) := by
  obtain ⟨k, rfl⟩ := hx
  exact T.le k a h
theorem TREE.toroot (T : TREE root pl O P) : ∀ (m a : Nat), pl a ≤ m → P a → AN O a root
  | m, a, hm, h => by
    by_cases e : a = root
    · rw [e]; exact .refl _
    · obtain ⟨h1, h2⟩ := T.dn a h e
      match m with
      | 0 => omega
      | m + 1 => exact .up (T.toroot m (O a) (by omega) h1)
/-- what lies not above y does not change with y -/
theorem TREE.hi (T : TREE root pl O P) {y : Nat} (hy : y ≠ root) (he : ∀ u, u ≠ y → O' u = O u) {u x : Nat} (hu : P u) (h : AN O u x) (hx : pl y ≤ pl x) : AN O' u x := by
  obtain ⟨k, h⟩ := h
  induction k generalizing u with
  | zero => exact ⟨0, h⟩
  | succ k ih =>
    have h' : it O k (O u) = x := h
    by_cases e : u = y
    · subst e
      obtain ⟨h1, h2⟩ := T.dn u hu hy
      have := T.le k (O u) h1
      rw [h'] at this
      omega
    · refine .up ?_
      rw [he u e]
      refine ih ?_ h'
      by_cases e2 : u = root
      · rw [e2, T.o0]; exact T.p0
      · exact (T.dn u hu e2).1
/-- a chain that does not pass y does not change with y -/
theorem AN.off {y : Nat} (he : ∀ u, u ≠ y → O' u = O u) {u x : Nat} (hn : ¬ AN O u y) : AN O' u x ↔ AN O u x := by
  constructor
  · rintro ⟨k, h⟩
    induction k generalizing u with
    | zero => exact ⟨0, h⟩
    | succ k ih =>
      have e : u ≠ y := fun e => hn (e ▸ .refl _)
      have h' : it O' k (O' u) = x := h
      rw [he u e] at h'
      exact .up (ih (fun h2 => hn (.up h2)) h')
  · rintro ⟨k, h⟩
    induction k generalizing u with
    | zero => exact ⟨0, h⟩
    | succ k ih =>
      have e : u ≠ y := fun e => hn (e ▸ .refl _)
      have h' : it O k (O u) = x := h
      rw [← he u e] at h'
      exact .up (by rw [he u e] at h' ⊢; exact ih (fun h2 => hn (.up h2)) h')
end

/-- reached from the root without passing x -/
def AV (r : Nat → Nat → Prop) (root x v : Nat) : Prop := x ≠ root ∧ x ≠ v ∧ (v = root ∨ TC (fun a b => r a b ∧ a ≠ x ∧ b ≠ x) root v)
theorem AV.step {r : Nat → Nat → Prop} {root x a b : Nat} (h : AV r root x a) (hr : r a b) (hb : x ≠ b) : AV r root x b := by
  refine ⟨h.1, hb, .inr ?_⟩
  rcases h.2.2 with rfl | h2
  · exact .one ⟨hr, Ne.symm h.1, Ne.symm hb⟩
  · exact h2.snoc ⟨hr, Ne.symm h.2.1, Ne.symm hb⟩
/-- a way on which all behind the first one have places behind k -/
def GP (r : Nat → Nat → Prop) (pl : Nat → Nat) (k a b : Nat) : Prop := TC (fun a b => r a b ∧ k < pl b) a b
theorem GP.weak {r : Nat → Nat → Prop} {pl : Nat → Nat} {k l a b : Nat} (hkl : k ≤ l) (h : GP r pl l a b) : GP r pl k a b := by
  induction h with
  | one h => exact .one ⟨h.1, by omega⟩
  | step h _ ih => exact .step ⟨h.1, by omega⟩ ih
theorem AV.way {r : Nat → Nat → Prop} {pl : Nat → Nat} {root x k a b : Nat} (h : GP r pl k a b) (hx : pl x ≤ k) : AV r root x a → AV r root x b := by
  induction h with
  | one h => exact fun ha => ha.step h.1 (fun e => by rw [← e] at h; omega)
  | step h _ ih => exact fun ha => ih (ha.step h.1 (fun e => by rw [← e] at h; omega))

structure DG (r : Nat → Nat → Prop) (R : Nat → Prop) (root : Nat) (pl f : Nat → Nat) : Prop where
  rt : R root
  cl : ∀ a b, R a → r a b → R b
  inj : ∀ a b, R a → R b → pl a = pl b → a = b
  fwd : ∀ v, R v → v ≠ root → R (f v) ∧ r (f v) v ∧ pl (f v) < pl v
structure CK (r : Nat → Nat → Prop) (R : Nat → Prop) (root : Nat) (pl f : Nat → Nat) (O : Nat → Nat) (P : Nat → Prop) (cur : Nat) : Prop where
  tr : TREE root pl O P
  pr : ∀ v, P v → R v
  pf : ∀ v, P v → v ≠ root → P (f v)
  gp : ∀ v, P v → v ≠ root → GP r pl (pl (O v)) (O v) v
  dom : ∀ v, P v → ∀ x, ¬ AV r root x v → AN O v x
  q2 : ∀ v, P v → v ≠ root → ∀ a, AN O (O v) a → (pl v < cur ∨ cur ≤ pl a) → AN O (f v) a
  s5 : ∀ v, P v → v ≠ root → ∀ x, (∀ p, P p → r p v → AN O p x) → AN O (O v) x
section
variable {r : Nat → Nat → Prop} {R : Nat → Prop} {root : Nat} {pl f O : Nat → Nat} {P : Nat → Prop} {cur : Nat}
theorem CK.way (C : CK r R root pl f O P cur) {u x : Nat} (hu : P u) (h : AN O u x) : x = u ∨ GP r pl (pl x) x u := by
  obtain ⟨k, h⟩ := h
  induction k generalizing u with
  | zero => exact .inl h.symm
  | succ k ih =>
    have h' : it O k (O u) = x := h
    by_cases e : u = root
    · subst e
      rw [C.tr.o0] at h'
      exact ih hu h'
    · obtain ⟨h1, h2⟩ := C.tr.dn u hu e
      have g := C.gp u hu e
      right
      rcases ih h1 h' with h3 | h3
      · rw [h3]; exact g
      · have hle := C.tr.le k (O u) h1
        rw [h'] at hle
        exact h3.trans (g.weak (by omega))

def upd (O : Nat → Nat) (y d : Nat) : Nat → Nat := fun u => if u = y then d else O u
theorem upd_eq (O : Nat → Nat) (y d : Nat) : upd O y d y = d := by simp [upd]
theorem upd_ne {O : Nat → Nat} {y d u : Nat} (h : u ≠ y) : upd O y d u = O u := by simp [upd, h]

/-- what is the meeting point of the predecessors -/
def MEET (r : Nat → Nat → Prop) (O : Nat → Nat) (P : Nat → Prop) (y d : Nat) : Prop := ∀ x, AN O d x ↔ ∀ p, P p → r p y → AN O p x

theorem CK.step (D : DG r R root pl f) (C : CK r R root pl f O P cur) {y d : Nat} (hy : R y) (hyr : y ≠ root) (hcur : pl y = cur) (hf : P (f y)) (hm : MEET r O P y d) :
    CK r R root pl f (upd O y d) (fun v => P v ∨ v = y) (cur + 1) ∧ (P y → AN O (O y) d) := by
  obtain ⟨f1, f2, f3⟩ := D.fwd y hy hyr
  have hfd : AN O (f y) d := (hm d).1 (.refl d) _ hf f2
  obtain ⟨hPd, hdle, _⟩ := C.tr.an hf hfd
  have hdy : pl d < pl y := by omega
  have he : ∀ u, u ≠ y → upd O y d u = O u := fun u hu => upd_ne hu
  have he' : ∀ u, u ≠ y → O u = upd O y d u := fun u hu => (upd_ne hu).symm
  have T' : TREE root pl (upd O y d) (fun v => P v ∨ v = y) := by
    refine ⟨.inl C.tr.p0, by rw [upd_ne (Ne.symm hyr)]; exact C.tr.o0, fun v hv hvr => ?_⟩
    by_cases e : v = y
    · subst e; rw [upd_eq]; exact ⟨.inl hPd, hdy⟩
    · rw [upd_ne e]
      have hv' : P v := hv.resolve_right e
      obtain ⟨h1, h2⟩ := C.tr.dn v hv' hvr
      exact ⟨.inl h1, h2⟩
  -- chains below y
  have low : ∀ {u x : Nat}, P u → pl u < pl y → (AN (upd O y d) u x ↔ AN O u x) := fun {u x} hu hlt => AN.off he (fun h => by have := (C.tr.an hu h).2.1; omega)
  have hiF : ∀ {u x : Nat}, P u → AN O u x → pl y ≤ pl x → AN (upd O y d) u x := fun hu h hx => C.tr.hi hyr he hu h hx
  have hiB : ∀ {u x : Nat}, P u → AN (upd O y d) u x → pl y ≤ pl x → AN O u x := fun hu h hx => T'.hi hyr he' (.inl hu) h hx
  have thru : ∀ {u x : Nat}, P u → AN O u y → AN (upd O y d) u x → pl x < pl y → AN (upd O y d) y x := fun {u x} hu h h2 hlt => by
    rcases (hiF hu h (Nat.le_refl _)).lin h2 with h3 | h3
    · exact h3
    · have := (T'.an (T'.an (.inl hu) h2).1 h3).2.1
      omega
  have ofy : ∀ {x : Nat}, AN (upd O y d) y x → pl x < pl y → AN O d x := fun {x} h hlt => by
    rcases h.cases with e | h
    · subst e; omega
    · rw [upd_eq] at h; exact (low hPd hdy).1 h
  have toy : ∀ {x : Nat}, AN O d x → AN (upd O y d) y x := fun {x} h => .up (by rw [upd_eq]; exact (low hPd hdy).2 h)
  have shrink : P y → ∀ x, AN O d x → AN O (O y) x := fun hPy x h => C.s5 y hPy hyr x fun p hp hr => (hm x).1 h p hp hr
  have domy : ∀ x, ¬ AV r root x y → AN (upd O y d) y x := fun x hx => by
    by_cases e : x = y
    · subst e; exact .refl _
    · refine toy ((hm x).2 fun p hp hr => C.dom p hp x fun h => hx (h.step hr e))
  refine ⟨⟨T', fun v hv => hv.elim (C.pr v) fun e => e ▸ hy, fun v hv hvr => ?_, fun v hv hvr => ?_, fun v hv x hx => ?_, fun v hv hvr a ha hor => ?_, fun v hv hvr x hx => ?_⟩, fun hPy => shrink hPy d (.refl d)⟩
  · rcases hv with hv | rfl
    · exact .inl (C.pf v hv hvr)
    · exact .inl hf
  · by_cases e : v = y
    · subst e
      rw [upd_eq]
      rcases C.way hf hfd with h | h
      · rw [h]; exact .one ⟨f2, f3⟩
      · exact h.snoc ⟨f2, hdy⟩
    · rw [upd_ne e]; exact C.gp v (hv.resolve_right e) hvr
  · by_cases e : v = y
    · subst e; exact domy x hx
    · have hv' := hv.resolve_right e
      have h0 := C.dom v hv' x hx
      by_cases hvy : AN O v y
      · by_cases hxy : pl y ≤ pl x
        · exact hiF hv' h0 hxy
        · refine (hiF hv' hvy (Nat.le_refl _)).trans (domy x fun h => hx ?_)
          rcases C.way hv' hvy with h2 | h2
          · exact absurd h2.symm e
          · exact AV.way h2 (by omega) h
      · exact (AN.off he hvy).2 h0
  · by_cases e : v = y
    · subst e
      rw [upd_eq] at ha
      exact (low hf f3).2 ((hm a).1 ((low hPd hdy).1 ha) _ hf f2)
    · have hv' := hv.resolve_right e
      rw [upd_ne e] at ha
      obtain ⟨k1, k2⟩ := C.tr.dn v hv' hvr
      have k3 := C.pf v hv' hvr
      have k4 := (D.fwd v (C.pr v hv') hvr).2.2
      rcases hor with h | h
      · have hlt : pl v < pl y := by
          rcases Nat.lt_or_ge (pl v) (pl y) with h2 | h2
          · exact h2
          · exact absurd (D.inj v y (C.pr v hv') hy (by omega)) e
        exact (low k3 (by omega)).2 (C.q2 v hv' hvr a ((low k1 (by omega)).1 ha) (.inl (by omega)))
      · exact hiF k3 (C.q2 v hv' hvr a (hiB k1 ha (by omega)) (.inr (by omega))) (by omega)
  · -- the predecessors' meeting point is above
    have hfv : P (f v) := by
      rcases hv with hv | rfl
      · exact C.pf v hv hvr
      · exact hf
    have hRv : R v := hv.elim (C.pr v) fun e => e ▸ hy
    obtain ⟨v1, v2, v3⟩ := D.fwd v hRv hvr
    have hxv := (T'.an (.inl hfv) (hx (f v) (.inl hfv) v2)).2.1
    by_cases e : v = y
    · subst e
      rw [upd_eq]
      have hlt : pl x < pl v := by omega
      by_cases hex : ∃ p, P p ∧ r p v ∧ AN O p v
      · obtain ⟨p, p1, p2, p3⟩ := hex
        exact (low hPd hdy).2 (ofy (thru p1 p3 (hx p (.inl p1) p2) hlt) hlt)
      · refine (low hPd hdy).2 ((hm x).2 fun p hp hr => ?_)
        exact (AN.off he (fun h => hex ⟨p, hp, hr, h⟩)).1 (hx p (.inl hp) hr)
    · have hv' := hv.resolve_right e
      rw [upd_ne e]
      obtain ⟨k1, k2⟩ := C.tr.dn v hv' hvr
      -- back to the old tree
      have back : ∀ p, P p → r p v → (pl y ≤ pl x ∨ ∀ z, AN O d z → AN O y z) → AN O p x := fun p hp hr hor => by
        have h := hx p (.inl hp) hr
        by_cases hpy : AN O p y
        · by_cases hxy : pl y ≤ pl x
          · exact hiB hp h hxy
          · exact hpy.trans ((hor.resolve_left hxy) x (ofy (thru hp hpy h (by omega)) (by omega)))
        · exact (AN.off he hpy).1 h
      by_cases hvy : AN O (O v) y
      · have hPy : P y := (C.tr.an k1 hvy).1
        by_cases hxy : pl y ≤ pl x
        · exact hiF k1 (C.s5 v hv' hvr x fun p hp hr => back p hp hr (.inl hxy)) hxy
        · have h1 := C.q2 v hv' hvr y hvy (.inr (by omega))
          exact (hiF k1 hvy (Nat.le_refl _)).trans (thru hfv h1 (hx (f v) (.inl hfv) v2) (by omega))
      · refine (AN.off he hvy).2 (C.s5 v hv' hvr x fun p hp hr => ?_)
        by_cases hpy : AN O p y
        · have hPy : P y := (C.tr.an hp hpy).1
          exact back p hp hr (.inr fun z hz => .up (shrink hPy z hz))
        · exact (AN.off he hpy).1 (hx p (.inl hp) hr)

theorem CK.again (C : CK r R root pl f O P cur) (h : ∀ v, P v → pl v < cur) {c : Nat} : CK r R root pl f O P c :=
  { C with q2 := fun v hv hvr a ha _ => C.q2 v hv hvr a ha (.inl (h v hv)) }
theorem CK.start (D : DG r R root pl f) (o0 : O root = root) {c : Nat} : CK r R root pl f O (fun v => v = root) c where
  tr := ⟨rfl, o0, fun v h h' => absurd h h'⟩
  pr v h := h ▸ D.rt
  pf v h h' := absurd h h'
  gp v h h' := absurd h h'
  dom v h x hx := by
    subst h
    by_cases e : x = v
    · rw [e]; exact .refl _
    · exact absurd ⟨e, e, .inl rfl⟩ hx
  q2 v h h' := absurd h h'
  s5 v h h' := absurd h h'
/-- where nothing changes: the chains are the dominators -/
theorem CK.done (D : DG r R root pl f) (C : CK r R root pl f O P cur) (hall : ∀ v, R v → P v) (hm : ∀ v, R v → v ≠ root → MEET r O P v (O v)) {v x : Nat} (hv : R v) : AN O v x ↔ ¬ AV r root x v := by
  refine ⟨fun h hav => ?_, C.dom v (hall v hv) x⟩
  obtain ⟨h1, h2, h3⟩ := hav
  have key : ∀ a b, TC (fun a b => r a b ∧ a ≠ x ∧ b ≠ x) a b → R a → ¬ AN O a x → ¬ AN O b x := by
    intro a b hab
    have edge : ∀ a b, r a b → b ≠ x → R a → ¬ AN O a x → ¬ AN O b x := fun a b hr hb ha hn hx => by
      have hRb := D.cl a b ha hr
      by_cases e : b = root
      · subst e
        exact hb (AN.top C.tr.o0 hx).symm
      · rcases hx.cases with h | h
        · exact hb h.symm
        · exact hn ((hm b hRb e x).1 h a (hall a ha) hr)
    induction hab with
    | one h => exact edge _ _ h.1 h.2.2
    | step h _ ih => exact fun ha hn => ih (D.cl _ _ ha h.1) (edge _ _ h.1 h.2.2 ha hn)
  have h0 : ¬ AN O root x := fun h => h1 (AN.top C.tr.o0 h)
  rcases h3 with rfl | h3
  · exact h0 h
  · exact key _ _ h3 D.rt h0 h
end
end Go.Vm
