/- The value machine, part 7 of 7. -/
import Derived.Test.YtklfakmpfinlaaaVm5
import Derived.Deep.Slices
import Derived.SizedLaws
import Derived.ChangeSlices
import Derived.ChangeArms
import Derived.OpenShut
import Derived.Below
import Derived.Carry
import Derived.RowKit
set_option linter.unusedVariables false
set_option linter.unusedSimpArgs false
set_option linter.unnecessarySimpa false
/- The value machine, 35: the table of types, checked; arguments that are read as data. -/
set_option linter.unusedVariables false
set_option linter.unusedSimpArgs false
namespace Go.Vm
open Go Go.RowKit Go.ChangeShapes Go.WideShapes

/-! ### the table, checked -/
def tyIs (T : Tab) (i : Nat) (a : Ty) : Bool := match T.find i with
  | some te => decide (te.ty = a)
  | none => false

def chainB (T : Tab) : List Field → List Nat → Ty → Nat → Bool
  | [], [], .un, _ => true
  | f :: fl, i :: l, .pr a b, off => Nat.beq f.type i && (Nat.beq f.offset off && (tyIs T i a && chainB T fl l b (off + a.cells)))
  | _, _, _, _ => false

def kOne : TK → Bool
  | .one => true
  | _ => false

def descB (T : Tab) (te : TE) : TypeDesc → Bool
  | .int k => kOne te.k && decide (te.ty = .int k)
  | .bool => kOne te.k && decide (te.ty = .bool)
  | .string => kOne te.k && decide (te.ty = .str)
  | .slice e => (match te.k with | .sl e' => Nat.beq e e' | _ => false) && (match T.find e with | some te' => decide (te.ty = .sl te'.ty) | none => false)
  | .struct fs => match te.k with
    | .st l => chainB T fs.toList l te.ty 0
    | _ => false
  | .array n e => (match te.k with | .ar n' e' => Nat.beq n n' && Nat.beq e e' | _ => false) && (match T.find e with | some te' => decide (te.ty = arrTy n te'.ty) | none => false)
  | _ => kOne te.k && decide (te.ty = .op)

def isNilL : Option (List Value) → Bool
  | some [] => true
  | _ => false

def infoB (te : TE) (i : TypeInfo) : Bool := Nat.beq i.size te.ty.cells && (Nat.ble i.bytes 131072 && (Nat.ble te.ty.cells i.bytes && (match i.zero with
  | some z => isNilL (zcB te.ty z.cells.toList)
  | none => false)))

def teB (P : Program) (T : Tab) (te : TE) : Bool := (match P.info? te.id with
  | some i => infoB te i
  | none => false) && (match P.underlying te.id with
  | some d => descB T te d
  | none => false)

def allT (f : TE → Bool) : Tab → Bool
  | [] => true
  | e :: l => cond (f e) (allT f l) false

theorem allT_find {f : TE → Bool} : ∀ {T : Tab} {t : Nat} {te : TE}, allT f T = true → T.find t = some te → f te = true ∧ te.id = t
  | e :: l, t, te, h, hf => by
    have h' : cond (f e) (allT f l) false = true := h
    have hf' : cond (Nat.beq e.id t) (some e) (Tab.find l t) = some te := hf
    cases hb : f e <;> rw [hb] at h'
    · cases h'
    · cases hi : Nat.beq e.id t <;> rw [hi] at hf'
      · exact allT_find (T := l) h' hf'
      · cases hf'
        exact ⟨hb, Nat.eq_of_beq_eq_true hi⟩
  | [], t, te, h, hf => by cases hf

theorem kOne_iff {k : TK} (h : kOne k = true) : k = .one := by cases k <;> first | rfl | cases h

theorem chainB_ok {T : Tab} : ∀ {fl : List Field} {l : List Nat} {ty : Ty} {off : Nat}, chainB T fl l ty off = true → chainOk T fl l ty off
  | [], [], .un, _, _ => trivial
  | f :: fl, i :: l, .pr a b, off, h => by
    simp only [chainB, Bool.and_eq_true] at h
    obtain ⟨h1, h2, h3, h4⟩ := h
    refine ⟨Nat.eq_of_beq_eq_true h1, Nat.eq_of_beq_eq_true h2, ?_, chainB_ok h4⟩
    unfold tyIs at h3
    split at h3
    · rename_i te hte; exact ⟨te, hte, of_decide_eq_true h3⟩
    · cases h3
  | [], [], .pr _ _, _, h | [], [], .int _, _, h | [], [], .bool, _, h | [], [], .str, _, h | [], [], .sl _, _, h | [], [], .op, _, h => by cases h
  | [], _ :: _, _, _, h => by simp [chainB] at h
  | _ :: _, [], _, _, h => by simp [chainB] at h
  | _ :: _, _ :: _, .un, _, h | _ :: _, _ :: _, .int _, _, h | _ :: _, _ :: _, .bool, _, h | _ :: _, _ :: _, .str, _, h | _ :: _, _ :: _, .sl _, _, h | _ :: _, _ :: _, .op, _, h => by simp [chainB] at h

theorem descB_ok {T : Tab} {te : TE} {d : TypeDesc} (h : descB T te d = true) : descOk T te d := by
  cases d with
  | struct fs =>
    simp only [descB] at h
    split at h
    · rename_i l hl; exact ⟨l, hl, chainB_ok h⟩
    · cases h
  | slice e =>
    simp only [descB, Bool.and_eq_true] at h
    obtain ⟨h1, h2⟩ := h
    refine ⟨?_, ?_⟩
    · split at h1
      · rename_i e' he; rw [he, Nat.eq_of_beq_eq_true h1]
      · cases h1
    · split at h2
      · rename_i te' hte; exact ⟨te', hte, of_decide_eq_true h2⟩
      · cases h2
  | array n e =>
    simp only [descB, Bool.and_eq_true] at h
    obtain ⟨h1, h2⟩ := h
    refine ⟨?_, ?_⟩
    · split at h1
      · rename_i n' e' he
        simp only [Bool.and_eq_true] at h1
        rw [he, Nat.eq_of_beq_eq_true h1.1, Nat.eq_of_beq_eq_true h1.2]
      · cases h1
    · split at h2
      · rename_i te' hte; exact ⟨te', hte, of_decide_eq_true h2⟩
      · cases h2
  | _ =>
    simp only [descB, Bool.and_eq_true] at h
    exact ⟨kOne_iff h.1, of_decide_eq_true h.2⟩

theorem isNilL_iff {o : Option (List Value)} (h : isNilL o = true) : o = some [] := by
  unfold isNilL at h
  split at h
  · rfl
  · cases h

theorem teB_ok {P : Program} {T : Tab} {te : TE} (h : teB P T te = true) : TEok P T te ∧ te.ty.cells ≤ P.bytesOf te.id ∧ P.cellsOf te.id = te.ty.cells := by
  simp only [teB, Bool.and_eq_true] at h
  obtain ⟨h1, h2⟩ := h
  split at h1
  · rename_i i hi
    simp only [infoB, Bool.and_eq_true] at h1
    obtain ⟨q1, q2, q3, q4⟩ := h1
    split at q4
    · rename_i z hz
      refine ⟨⟨⟨i, z, hi, Nat.eq_of_beq_eq_true q1, Nat.le_of_ble_eq_true q2, hz, isNilL_iff q4⟩, ?_⟩, ?_, ?_⟩
      · split at h2
        · rename_i d hd; exact ⟨d, hd, descB_ok h2⟩
        · cases h2
      · unfold Program.bytesOf
        rw [hi]
        exact Nat.le_of_ble_eq_true q3
      · unfold Program.cellsOf
        rw [hi]
        exact Nat.eq_of_beq_eq_true q1
    · cases q4
  · cases h1

theorem tabOk_of {P : Program} {T : Tab} (h : allT (teB P T) T = true) : TabOk P T := fun t te hf => by
  obtain ⟨h1, h2⟩ := allT_find h hf
  exact ⟨h2, (teB_ok h1).1⟩
theorem bytes_of {P : Program} {T : Tab} (h : allT (teB P T) T = true) {t : Nat} {te : TE} (hf : T.find t = some te) : te.ty.cells ≤ P.bytesOf t ∧ P.cellsOf t = te.ty.cells := by
  obtain ⟨h1, h2⟩ := allT_find h hf
  have := (teB_ok h1).2
  rw [h2] at this
  exact this

/-- what comparing needs -/
def nameOk (f : Field) : Bool := !decide (f.name = "_")
def eqTB (P : Program) (te : TE) : Bool := cond te.ty.cmp
  ((match te.k with | .st _ => !(P.stoodInHeld te.id) && (P.fieldsOf te.id).toList.all nameOk | _ => true) && ((!te.ty.agg || !(P.eqGuardType P.depth te.id)) && Nat.ble te.ty.dep 1000)) true

theorem eqOk_of {P : Program} {T : Tab} (h : allT (eqTB P) T = true) : EqOk P T := by
  have key : ∀ t te, T.find t = some te → te.ty.cmp = true → (match te.k with | .st _ => !(P.stoodInHeld t) && (P.fieldsOf t).toList.all nameOk | _ => true) = true ∧ (!te.ty.agg || !(P.eqGuardType P.depth t)) = true ∧ te.ty.dep ≤ 1000 := by
    intro t te hf hc
    obtain ⟨h1, h2⟩ := allT_find h hf
    unfold eqTB at h1
    rw [hc, cond_true, Bool.and_eq_true, Bool.and_eq_true, h2] at h1
    exact ⟨h1.1, h1.2.1, Nat.le_of_ble_eq_true h1.2.2⟩
  refine ⟨fun t te hf hc hk => ?_, fun t te hf hc ha => ?_, fun t te hf hc => (key t te hf hc).2.2⟩
  · have := (key t te hf hc).1
    split at hk
    · rename_i l hl
      rw [hl] at this
      simp only [Bool.and_eq_true, Bool.not_eq_true'] at this
      refine ⟨this.1, fun f hfm e => ?_⟩
      have := List.all_eq_true.1 this.2 f hfm
      unfold nameOk at this
      rw [e] at this
      simp at this
    · cases hk
  · have := (key t te hf hc).2.1
    rw [ha] at this
    simpa using this

/-! ### arguments -/
/-- types of arguments -/
def Ty.read : Ty → Bool
  | .op => false
  | .sl t => t.read && !Nat.beq t.cells 0
  | .pr a b => a.read && (b.read && b.agg)
  | _ => true

section
variable {P : Program} {T : Tab}

def OpQ (P : Program) (T : Tab) (ty : Ty) : Prop := ∀ t te, T.find t = some te → te.ty = ty → ∀ (H : Type) (enc : TypeId × Value → H) (w : World) (base : Nat) (sp : Nat → Bool) (held : Bool) (fuel : Nat) (cs : List Value) (x : DataW H × List MemPlace),
  DataW.trod enc P w base sp held fuel t cs = some x → (∀ n ∈ x.1.weights P t, n ≤ reachBytes) → ∃ v : ty.D, RO (fun b => b < w.heap.size) (cv w) ty cs v ∧ ty.good v

/-- the fields of a struct from some field on -/
def OpF (P : Program) (T : Tab) (ty : Ty) : Prop := ∀ fs l off, chainOk T fs l ty off → ∀ (H : Type) (enc : TypeId × Value → H) (w : World) (base : Nat) (sp : Nat → Bool) (held : Bool) (n : Nat) (cs : List Value) (xs : List (DataW H × List MemPlace)),
  xs.length = fs.length → (∀ (i : Nat) (f : Field), fs[i]? = some f → DataW.trod enc P w base sp held n f.type ((cs.drop f.offset).take (P.cellsOf f.type)) = xs[i]?) →
  (∀ z ∈ DataW.weightsEach P (fs.map (·.type)) (xs.map (·.1)), z ≤ reachBytes) → ∃ v : ty.D, RO (fun b => b < w.heap.size) (cv w) ty ((cs.drop off).take ty.cells) v ∧ ty.good v

def OpA (P : Program) (T : Tab) (ty : Ty) : Prop := ∀ n e te, T.find e = some te → ty = arrTy n te.ty → ∀ (H : Type) (enc : TypeId × Value → H) (w : World) (base : Nat) (sp : Nat → Bool) (held : Bool) (m k : Nat) (cs : List Value) (xs : List (DataW H × List MemPlace)),
  xs.length = n → (∀ (i : Nat), i < n → DataW.trod enc P w base sp held m e ((cs.drop ((k + i) * te.ty.cells)).take te.ty.cells) = xs[i]?) →
  (∀ z ∈ DataW.weightsAll P e (xs.map (·.1)), z ≤ reachBytes) → ∃ v : ty.D, RO (fun b => b < w.heap.size) (cv w) ty ((cs.drop (k * te.ty.cells)).take ty.cells) v ∧ ty.good v

theorem weightsAll_mem {H : Type} {P : Program} {e : TypeId} : ∀ {l : List (DataW H)} {d : DataW H}, d ∈ l → ∀ n ∈ d.weights P e, n ∈ DataW.weightsAll P e l
  | d0 :: l, d, hd, n, hn => by
    simp only [DataW.weightsAll, List.mem_append]
    rcases List.mem_cons.1 hd with rfl | hd
    · exact Or.inl hn
    · exact Or.inr (weightsAll_mem hd n hn)

theorem cell_plain {w : World} {a : Addr} {v : Value} (h : w.cell? a = some v) : a = ⟨a.block, a.off, none⟩ ∧ a.block < w.heap.size := by
  unfold World.cell? at h
  split at h
  · rename_i c e f hb
    split at h
    · cases h
    · rename_i hs
      refine ⟨?_, ?_⟩
      · cases a; simp at hs; simp [hs]
      · rcases Nat.lt_or_ge a.block w.heap.size with h1 | h1
        · exact h1
        · rw [Array.getElem?_eq_none h1] at hb; cases hb
  · cases h

theorem opQ_slice (hT : allT (teB P T) T = true) {ty : Ty} (hc : ty.cells ≠ 0) (ih : OpQ P T ty) : OpQ P T (.sl ty) := by
  intro t te ht hty H enc w base sp held fuel cs x h hw
  obtain ⟨e, te', hk, hu, he, hte'⟩ := sl_of (tabOk_of hT) ht hty
  obtain ⟨hb1, hb2⟩ := bytes_of hT he
  rw [hte'] at hb1 hb2
  rcases Go.Deep.open_slice hu h with ⟨rfl, rfl⟩ | ⟨a, len, cap, m, n, D, Pl, rfl, _, hl, hm, hmm, rfl, hx⟩
  · exact ⟨[], ⟨none, 0, rfl, Nat.le_refl _, fun h => absurd rfl h⟩, by simp [Ty.good]⟩
  · have hlm : len ≤ m := by rw [hmm]; split <;> omega
    have hwt : ∀ n ∈ DataW.weights P t (.slice ((List.range len).map D) ((List.range (m - len)).map fun j => D (len + j)) : DataW H), n ≤ reachBytes := hw
    simp only [DataW.weights, hu] at hwt
    have each : ∀ i, i < len → ∃ q : ty.D, ∃ c : List Value, c.length = ty.cells ∧ RO (fun b => b < w.heap.size) (cv w) ty c q ∧ (∀ j u, c[j]? = some u → w.cell? (a.add (i * ty.cells + j)) = some u) ∧ ty.good q := by
      intro i hi
      obtain ⟨cs', h1, h2⟩ := hx i (by omega)
      obtain ⟨_, hlen, hcell⟩ := World.cells?_some h1
      obtain ⟨q, hK, hG⟩ := ih e te' he hte' H enc w base sp held n cs' _ h2 (fun z hz => hwt z (by
        refine List.mem_cons_of_mem _ (List.mem_append_left _ (weightsAll_mem (d := D i) ?_ z hz))
        exact List.mem_map.2 ⟨i, List.mem_range.2 hi, rfl⟩))
      rw [hb2] at hlen hcell
      refine ⟨q, cs', hlen, hK, fun j u hj => ?_, hG⟩
      have hjl : j < cs'.length := by
        rcases Nat.lt_or_ge j cs'.length with h | h
        · exact h
        · rw [List.getElem?_eq_none h] at hj; cases hj
      have := hcell j (by omega)
      rw [Go.Deep.add_add] at this
      rw [this, hj]
    have hex : ∀ (k : Nat), k ≤ len → ∃ (xs : List ty.D) (ccs : List Value), xs.length = k ∧ ccs.length = k * ty.cells ∧ (∀ j u, ccs[j]? = some u → w.cell? (a.add ((len - k) * ty.cells + j)) = some u) ∧ Rows (RO (fun b => b < w.heap.size) (cv w) ty) ty.cells ccs xs ∧ ∀ x ∈ xs, ty.good x := by
      intro k
      induction k with
      | zero => exact fun _ => ⟨[], [], rfl, by simp, fun j u hj => by simp at hj, trivial, fun x hx => by cases hx⟩
      | succ k ihk =>
        intro hn
        obtain ⟨xs, ccs, h1, h2, h3, h4, h5⟩ := ihk (by omega)
        obtain ⟨q, c, g1, g2, g3, g4⟩ := each (len - (k + 1)) (by omega)
        refine ⟨q :: xs, c ++ ccs, by simp [h1], by rw [List.length_append, g1, h2, Nat.succ_mul, Nat.add_comm], fun j u hj => ?_, ⟨c, ccs, rfl, g1, g2, h4⟩, fun x hx => ?_⟩
        · by_cases hjc : j < c.length
          · rw [List.getElem?_append_left hjc] at hj
            exact g3 j u hj
          · rw [List.getElem?_append_right (by omega)] at hj
            have := h3 _ u hj
            have e1 : (len - k) * ty.cells + (j - c.length) = (len - (k + 1)) * ty.cells + j := by
              have : len - k = len - (k + 1) + 1 := by omega
              rw [this, Nat.add_mul, g1]
              omega
            rw [e1] at this
            exact this
        · rcases List.mem_cons.1 hx with rfl | hx
          · exact g4
          · exact h5 x hx
    obtain ⟨xs, ccs, h1, h2, h3, h4, h5⟩ := hex len (Nat.le_refl _)
    rw [Nat.sub_self, Nat.zero_mul] at h3
    refine ⟨xs, ⟨some a, cap, by rw [h1], by omega, fun hne => ?_⟩, ?_, h5⟩
    · have hpos : 0 < ccs.length := by
        rw [h2]
        refine Nat.mul_pos ?_ (Nat.pos_of_ne_zero hc)
        rw [← h1]
        exact List.length_pos_iff.2 hne
      have h0 := h3 0 ccs[0] (List.getElem?_eq_getElem hpos)
      have ea : a.add (0 + 0) = a := by simp [Addr.add]
      rw [ea] at h0
      obtain ⟨q1, q2⟩ := cell_plain h0
      refine ⟨a.block, a.off, by rw [← q1], q2, ccs, by rw [h2, h1], fun j v hv => ?_, h4⟩
      have := h3 j v hv
      rw [q1, Nat.zero_add, add_plain] at this
      exact this
    · have hle := hwt _ List.mem_cons_self
      simp only [List.length_map, List.length_range] at hle
      rw [h1]
      have hb : 1 ≤ P.bytesOf e := by omega
      have : len ≤ (len + (m - len)) * P.bytesOf e := Nat.le_trans (Nat.le_add_right _ _) (Nat.le_mul_of_pos_right _ hb)
      have hr : reachBytes = 140737488351232 := rfl
      omega

theorem opens (hT : allT (teB P T) T = true) : ∀ ty : Ty, ty.read = true → OpQ P T ty ∧ (ty.agg = true → OpF P T ty ∧ OpA P T ty) := by
  have hTab := tabOk_of hT
  have one : ∀ {ty : Ty} {t : Nat} {te : TE}, T.find t = some te → te.ty = ty → ∃ d, P.underlying t = some d ∧ descOk T te d := fun ht _ => hTab.und ht
  intro ty
  induction ty with
  | int k =>
    refine fun _ => ⟨?_, fun h => by cases h⟩
    intro t te ht hty H enc w base sp held fuel cs x h _
    obtain ⟨d, hu, hd⟩ := one ht hty
    have e2 : d = .int k := by
      cases d <;> simp only [descOk] at hd
      case int k2 => have := hd.2; rw [hty] at this; cases this; rfl
      case struct fs => obtain ⟨l, _, hch⟩ := hd; have := st_agg hch; rw [hty] at this; cases this
      case array n e => obtain ⟨_, te', _, hh⟩ := hd; rw [hty] at hh; cases n <;> cases hh
      case slice e => obtain ⟨_, te', _, hh⟩ := hd; rw [hty] at hh; cases hh
      all_goals (have := hd.2; rw [hty] at this; cases this)
    rw [e2] at hu
    obtain ⟨n, rfl, rfl, hw⟩ := DataW.trod_int hu h
    exact ⟨n, rfl, hw⟩
  | bool =>
    refine fun _ => ⟨?_, fun h => by cases h⟩
    intro t te ht hty H enc w base sp held fuel cs x h _
    obtain ⟨d, hu, hd⟩ := one ht hty
    have e2 : d = .bool := by
      cases d <;> simp only [descOk] at hd
      case bool => rfl
      case struct fs => obtain ⟨l, _, hch⟩ := hd; have := st_agg hch; rw [hty] at this; cases this
      case array n e => obtain ⟨_, te', _, hh⟩ := hd; rw [hty] at hh; cases n <;> cases hh
      case slice e => obtain ⟨_, te', _, hh⟩ := hd; rw [hty] at hh; cases hh
      all_goals (have := hd.2; rw [hty] at this; cases this)
    rw [e2] at hu
    obtain ⟨n, rfl, rfl⟩ := DataW.trod_bool hu h
    exact ⟨n, rfl, trivial⟩
  | str =>
    refine fun _ => ⟨?_, fun h => by cases h⟩
    intro t te ht hty H enc w base sp held fuel cs x h hw
    obtain ⟨d, hu, hd⟩ := one ht hty
    have e2 : d = .string := by
      cases d <;> simp only [descOk] at hd
      case string => rfl
      case struct fs => obtain ⟨l, _, hch⟩ := hd; have := st_agg hch; rw [hty] at this; cases this
      case array n e => obtain ⟨_, te', _, hh⟩ := hd; rw [hty] at hh; cases n <;> cases hh
      case slice e => obtain ⟨_, te', _, hh⟩ := hd; rw [hty] at hh; cases hh
      all_goals (have := hd.2; rw [hty] at this; cases this)
    rw [e2] at hu
    obtain ⟨s, rfl, rfl, hs⟩ := DataW.trod_string hu h
    refine ⟨s, rfl, ?_⟩
    have := hw s.data.toList.length (by simp [DataW.weights])
    rw [Array.length_toList] at this
    exact this
  | op => intro h; cases h
  | sl ty ih =>
    intro h
    simp only [Ty.read, Bool.and_eq_true, Bool.not_eq_true'] at h
    refine ⟨opQ_slice hT (fun e => ?_) (ih h.1).1, fun h => by cases h⟩
    rw [e] at h
    exact absurd h.2 (by simp)
  | un =>
    have hF : OpF P T .un := by
      intro fs l off hch H enc w base sp held n cs xs hl hx hw
      exact ⟨(), by show List.take 0 _ = []; simp, trivial⟩
    have hA : OpA P T .un := by
      intro n e te he hty H enc w base sp held m k cs xs hl hx hw
      exact ⟨(), by show List.take 0 _ = []; simp, trivial⟩
    refine fun _ => ⟨?_, fun _ => ⟨hF, hA⟩⟩
    intro t te ht hty H enc w base sp held fuel cs x h hw
    obtain ⟨d, hu, hd⟩ := one ht hty
    obtain ⟨_, hcl⟩ := bytes_of hT ht
    rw [hty] at hcl
    have hcl : P.cellsOf t = 0 := hcl
    have hcs : cs = [] := by
      cases d <;> simp only [descOk] at hd
      case struct fs =>
        obtain ⟨xs, n, rfl, rfl, hlen, _⟩ := DataW.trod_struct hu h
        rw [hcl] at hlen
        exact List.length_eq_zero_iff.1 hlen
      case array n e =>
        obtain ⟨xs, n, rfl, rfl, hlen, _⟩ := DataW.trod_array hu h
        rw [hcl] at hlen
        exact List.length_eq_zero_iff.1 hlen
      case slice e => obtain ⟨_, te', _, hh⟩ := hd; rw [hty] at hh; cases hh
      all_goals (have := hd.2; rw [hty] at this; cases this)
    exact ⟨(), hcs, trivial⟩
  | pr a b iha ihb =>
    intro hr
    simp only [Ty.read, Bool.and_eq_true] at hr
    obtain ⟨ra, rb, gb⟩ := hr
    obtain ⟨qa, _⟩ := iha ra
    obtain ⟨_, hbb⟩ := ihb rb
    obtain ⟨fb, ab⟩ := hbb gb
    have cut : ∀ (cs : List Value) (off : Nat), (cs.drop off).take (Ty.pr a b).cells = (cs.drop off).take a.cells ++ (cs.drop (off + a.cells)).take b.cells := by
      intro cs off
      show (cs.drop off).take (a.cells + b.cells) = _
      rw [List.take_add, List.drop_drop]
    have hF : OpF P T (.pr a b) := by
      intro fs l off hch H enc w base sp held n cs xs hl hx hw
      cases fs with
      | nil => cases l <;> cases hch
      | cons f fs =>
        cases l with
        | nil => cases hch
        | cons i l =>
          obtain ⟨e1, e2, ⟨te, hte, e3⟩, hch⟩ := hch
          cases xs with
          | nil => simp at hl
          | cons x xs =>
            have h0 := hx 0 f rfl
            have hcl := (bytes_of hT hte).2
            rw [e3, ← e1] at hcl
            rw [e2, hcl] at h0
            simp only [List.map_cons, DataW.weightsEach] at hw
            obtain ⟨v1, k1, g1⟩ := qa f.type te (by rw [e1]; exact hte) e3 H enc w base sp held n _ x (by simpa using h0) (fun z hz => hw z (List.mem_append_left _ hz))
            obtain ⟨v2, k2, g2⟩ := fb fs l (off + a.cells) hch H enc w base sp held n cs xs (by simpa using hl) (fun i f' hf => by simpa using hx (i + 1) f' (by simpa using hf)) (fun z hz => hw z (List.mem_append_right _ hz))
            exact ⟨(v1, v2), ⟨_, _, cut cs off, k1, k2⟩, g1, g2⟩
    have hA : OpA P T (.pr a b) := by
      intro n e te he hty H enc w base sp held m k cs xs hl hx hw
      cases n with
      | zero => cases hty
      | succ n =>
        have hty' : Ty.pr a b = .pr te.ty (arrTy n te.ty) := hty
        injection hty' with ea eb
        cases xs with
        | nil => simp at hl
        | cons x xs =>
          have h0 := hx 0 (by omega)
          simp only [List.map_cons, DataW.weightsAll] at hw
          obtain ⟨v1, k1, g1⟩ := qa e te he ea.symm H enc w base sp held m _ x (by simpa using h0) (fun z hz => hw z (List.mem_append_left _ hz))
          obtain ⟨v2, k2, g2⟩ := ab n e te he eb H enc w base sp held m (k + 1) cs xs (by simpa using hl) (fun i hi => by
            have := hx (i + 1) (by omega)
            rw [show k + 1 + i = k + (i + 1) by omega]
            simpa using this) (fun z hz => hw z (List.mem_append_right _ hz))
          rw [← ea] at k1 k2 ⊢
          refine ⟨(v1, v2), ⟨_, _, cut cs _, k1, ?_⟩, g1, g2⟩
          rw [show k * a.cells + a.cells = (k + 1) * a.cells by rw [Nat.add_mul, Nat.one_mul]]
          exact k2
    refine ⟨?_, fun _ => ⟨hF, hA⟩⟩
    intro t te ht hty H enc w base sp held fuel cs x h hw
    obtain ⟨d, hu, hd⟩ := one ht hty
    obtain ⟨_, hcl⟩ := bytes_of hT ht
    rw [hty] at hcl
    cases d <;> simp only [descOk] at hd
    case struct fs =>
      obtain ⟨l, _, hch⟩ := hd
      rw [hty] at hch
      obtain ⟨xs, n, rfl, rfl, hlen, hxl, hf⟩ := DataW.trod_struct hu h
      have hwt : ∀ n ∈ DataW.weights P t (.agg (xs.map (·.1)) : DataW H), n ≤ reachBytes := hw
      simp only [DataW.weights, hu] at hwt
      obtain ⟨v, hK, hG⟩ := hF fs.toList l 0 hch H enc w base sp held n cs xs (by rw [hxl, Array.length_toList]) (fun i f hi => hf i f (by rw [← Array.getElem?_toList]; exact hi)) hwt
      rw [List.drop_zero, List.take_of_length_le (by omega)] at hK
      exact ⟨v, hK, hG⟩
    case array n e =>
      obtain ⟨_, te', he, hh⟩ := hd
      rw [hty] at hh
      obtain ⟨_, hce⟩ := bytes_of hT he
      obtain ⟨xs, m, rfl, rfl, hlen, hxl, hf⟩ := DataW.trod_array hu h
      have hwt : ∀ n ∈ DataW.weights P t (.agg (xs.map (·.1)) : DataW H), n ≤ reachBytes := hw
      simp only [DataW.weights, hu] at hwt
      obtain ⟨v, hK, hG⟩ := hA n e te' he hh H enc w base sp held m 0 cs xs hxl (fun i hi => by rw [Nat.zero_add, ← hce]; exact hf i hi) hwt
      rw [Nat.zero_mul, List.drop_zero, List.take_of_length_le (by omega)] at hK
      exact ⟨v, hK, hG⟩
    case slice e => obtain ⟨_, te', _, hh⟩ := hd; rw [hty] at hh; cases hh
    all_goals (have := hd.2; rw [hty] at this; cases this)
end
end Go.Vm

/- The value machine, 36: a law's row. -/
set_option linter.unusedVariables false
set_option linter.unusedSimpArgs false
namespace Go.Vm
open Go Go.RowKit Go.ChangeShapes Go.WideShapes

/-- the types of the parameters are those of the table -/
def parsB (T : Tab) : List TypeId → Ty → Bool
  | [], .un => true
  | t :: ts, .pr a b => tyIs T t a && (a.read && parsB T ts b)
  | _, _ => false

section
variable {P : Program} {T : Tab}

theorem vOf_wide (hT : allT (teB P T) T = true) {w : World} {r : Reach} {base : Nat} {t : Nat} {te : TE} (ht : T.find t = some te) (hr : te.ty.read = true) {v : Value} (h : Value.okWide P w r base t v) {ok : Nat → Prop} {x : te.ty.D} (hx : RO ok (cv w) te.ty v.cells.toList x) : v = vOf te.ty v.cells.toList := by
  obtain ⟨d, hu, hd⟩ := (tabOk_of hT).und ht
  unfold vOf
  cases hag : te.ty.agg
  · have e1 : v.cells.toList = [v] := by
      cases d <;> simp only [descOk] at hd
      case int k => obtain ⟨n, rfl⟩ := okWide_int hu h; rfl
      case bool => obtain ⟨n, rfl⟩ := okWide_bool hu h; rfl
      case string => obtain ⟨n, rfl⟩ := okWide_string hu h; rfl
      case slice e => obtain ⟨a, l, c, rfl⟩ := okWide_slice hu h; rfl
      case struct fs => obtain ⟨l, _, hch⟩ := hd; have := st_agg hch; rw [hag] at this; cases this
      case array n e => obtain ⟨_, te', _, hh⟩ := hd; rw [hh] at hag; cases n <;> cases hag
      all_goals (rw [hd.2] at hr; cases hr)
    rw [e1]
    rfl
  · have e1 : ∃ cs, v = .agg cs := by
      cases d <;> simp only [descOk] at hd
      case struct fs => simp only [Value.okWide, hu] at h; obtain ⟨cs, h, _⟩ := h; exact ⟨cs, h⟩
      case array n e => simp only [Value.okWide, hu] at h; obtain ⟨cs, h, _⟩ := h; exact ⟨cs, h⟩
      case slice e => obtain ⟨_, te', _, hh⟩ := hd; rw [hh] at hag; cases hag
      all_goals (rw [hd.2] at hag; cases hag)
    obtain ⟨cs, rfl⟩ := e1
    rfl

theorem opens_args (hT : allT (teB P T) T = true) {H : Type} {enc : TypeId × Value → H} {w : World} {sp : Nat → Bool} {held : Bool} : ∀ {ts : List TypeId} {ps : Ty} {vs : List Value} {ds : List (DataW H)} {p : List MemPlace}, parsB T ts ps = true →
    DataW.TrodAll enc P w 0 sp held ts vs ds p → (∀ (j : Nat) t v, ts[j]? = some t → vs[j]? = some v → ∃ base, Value.okWide P w .any base t v) → (∀ z ∈ DataW.weightsEach P ts ds, z ≤ reachBytes) →
    ∃ a : ps.D, ArgsR (fun b => b < w.heap.size) w ps a vs ∧ ps.good a
  | [], .un, [], [], p, _, _, _, _ => ⟨(), rfl, trivial⟩
  | t :: ts, .pr a b, v :: vs, d :: ds, p, hp, h, hv, hw => by
    simp only [parsB, Bool.and_eq_true] at hp
    obtain ⟨h1, h2, h3⟩ := hp
    obtain ⟨p1, p2, ⟨fuel, q1⟩, q2, _⟩ := h
    simp only [DataW.weightsEach] at hw
    unfold tyIs at h1
    split at h1
    · rename_i te hte
      have e := of_decide_eq_true h1
      obtain ⟨x, k1, k2⟩ := (opens hT a h2).1 t te hte e H enc w 0 sp held fuel _ _ q1 (fun z hz => hw z (List.mem_append_left _ hz))
      obtain ⟨y, k3, k4⟩ := opens_args hT h3 q2 (fun j t v ht hv' => hv (j + 1) t v (by simpa using ht) (by simpa using hv')) (fun z hz => hw z (List.mem_append_right _ hz))
      obtain ⟨base, hwide⟩ := hv 0 t v rfl rfl
      subst e
      exact ⟨(x, y), ⟨⟨_, k1, vOf_wide hT hte h2 hwide k1⟩, k3⟩, k2, k4⟩
    · cases h1
  | [], .un, _ :: _, _, _, _, h, _, _ => by simp [DataW.TrodAll] at h
  | [], .un, [], _ :: _, _, _, h, _, _ => by simp [DataW.TrodAll] at h
  | [], .pr _ _, _, _, _, hp, _, _, _ | [], .int _, _, _, _, hp, _, _, _ | [], .bool, _, _, _, hp, _, _, _ | [], .str, _, _, _, hp, _, _, _ | [], .sl _, _, _, _, hp, _, _, _ | [], .op, _, _, _, hp, _, _, _ => by simp [parsB] at hp
  | _ :: _, .un, _, _, _, hp, _, _, _ | _ :: _, .int _, _, _, _, hp, _, _, _ | _ :: _, .bool, _, _, _, hp, _, _, _ | _ :: _, .str, _, _, _, hp, _, _, _ | _ :: _, .sl _, _, _, _, hp, _, _, _ | _ :: _, .op, _, _, _, hp, _, _, _ => by simp [parsB] at hp
  | _ :: _, .pr _ _, [], _, _, _, h, _, _ => by simp [DataW.TrodAll] at h
  | _ :: _, .pr _ _, _ :: _, [], _, _, h, _, _ => by simp [DataW.TrodAll] at h

def parsLaid (P : Program) : List TypeId → Bool
  | [] => true
  | t :: ts => P.readableRec t && (decide (t < P.types.size) && parsLaid P ts)

theorem trods_stay (hl : laidOutB P = true) {H : Type} {enc : TypeId × Value → H} {W W' : World} (hb : Below W.heap.size W W') : ∀ {ts : List TypeId} {vs : List Value} {ds : List (DataW H)} {p : List MemPlace}, parsLaid P ts = true →
    DataW.TrodAll enc P W 0 (fun _ => true) true ts vs ds p → DataW.TrodAll enc P W' 0 (fun b => decide (b < W.heap.size)) true ts vs ds p
  | [], [], [], p, _, h => h
  | t :: ts, v :: vs, d :: ds, p, hp, h => by
    simp only [parsLaid, Bool.and_eq_true] at hp
    obtain ⟨p1, p2, q1, q2, e⟩ := h
    refine ⟨p1, p2, Below.trod hl hp.1 (of_decide_eq_true hp.2.1) q1 hb ?_, trods_stay hl hb hp.2.2 q2, e⟩
    obtain ⟨m, hm⟩ := q1
    exact DataW.trod_lt m _ _ _ hm
  | [], [], _ :: _, _, _, h => by simp [DataW.TrodAll] at h
  | [], _ :: _, _, _, _, h => by simp [DataW.TrodAll] at h
  | _ :: _, [], _, _, _, h => by simp [DataW.TrodAll] at h
  | _ :: _, _ :: _, [], _, _, h => by simp [DataW.TrodAll] at h

theorem trodAll_len {H : Type} {enc : TypeId × Value → H} {W : World} {base : Nat} {sp : Nat → Bool} {held : Bool} : ∀ {ts : List TypeId} {vs : List Value} {ds : List (DataW H)} {p : List MemPlace}, DataW.TrodAll enc P W base sp held ts vs ds p → ds.length = ts.length
  | [], [], [], p, h => rfl
  | t :: ts, v :: vs, d :: ds, p, h => by obtain ⟨p1, p2, q1, q2, e⟩ := h; simp [trodAll_len q2]
  | [], [], _ :: _, _, h => by simp [DataW.TrodAll] at h
  | [], _ :: _, _, _, h => by simp [DataW.TrodAll] at h
  | _ :: _, [], _, _, h => by simp [DataW.TrodAll] at h
  | _ :: _, _ :: _, [], _, h => by simp [DataW.TrodAll] at h

/-- a law that returns true, and leaves its arguments as they were -/
theorem law_lifted {C : Checked} {os : Os} {H : Type} {enc : TypeId × Value → H} {f : FuncId} {fn : Func} {s : ChangeSpec} {conds : List PathCond}
    (own : ownKnob C.prog.godebug = none) (started : os.Started) (noInit : C.prog.inits.idxOf? f = none) (hfn : C.prog.funcs[f]? = some fn)
    (witness : ∃ (w : World) (tape : Tape) (i : Input), w.os = os ∧ (w.forCall tape i).Shaped C.prog ∧ i.vars = [] ∧ Input.okWide C.prog (w.forCall tape i) .any w.heap.size f i ∧
      s.pre6 enc C.prog fn conds false (w.forCall tape i).memory i.args ∧ ({} : Assume).holds C.prog (lone (Frame.enter C.prog f i.args .normal) [] (w.forCall tape i)))
    (laid : laidOutB C.prog = true) {T : Tab} (hT : allT (teB C.prog T) T = true) {ps : Ty} (hps : parsB T fn.params.toList ps = true) (hpl : parsLaid C.prog fn.params.toList = true) (hvars : s.vars = [])
    {tb : TypeId} (hres : fn.resultTypes = #[tb]) (hb : C.prog.underlying tb = some .bool)
    (hs : ∀ (H : Type) (ds : List (DataW H)), ds.length = fn.params.toList.length → s.fn H ds = { results := [.lit (.bool true)], args := ds })
    {F : Nat → ps.D → Option Bool} (hF : ∀ k, FnOk C.prog ⟨f, ps, false, .fl .bool, F k⟩) (pure : ∀ a, ps.good a → ∃ k, F k a = some true) :
    ReturnsInHanded {} C os f .any (s.pre6 enc C.prog fn conds false) (s.post enc C.prog fn false true false false) := by
  refine returnsInHanded_of_change_sized (C := C) own started noInit hfn witness ?_
  intro W base args ds gs before hval hW hcnd hsz _
  have hW' := hW
  obtain ⟨p, q, hA, hV, rfl, hfz, hnd⟩ := hW
  rw [hvars] at hV
  have hgs : gs = [] := by
    cases gs with
    | nil => rfl
    | cons g gs => simp [DataW.TrodVars] at hV
  subst hgs
  have hpv : s.plain.varTypes C.prog = [] := by
    simp [DataSpec.varTypes, ChangeSpec.plain, hvars]
  rw [hpv, List.append_nil, List.append_nil] at hsz
  obtain ⟨a, ha, hg⟩ := opens_args hT hps hA (fun j t v ht hv => ⟨base, hval j t v (by rw [← Array.getElem?_toList]; exact ht) (by rw [← Array.getElem?_toList]; exact hv)⟩) (fun z hz => by simpa using List.all_eq_true.1 hsz z hz)
  obtain ⟨k, hk⟩ := pure a hg
  obtain ⟨_, hcalls⟩ := hF k (fun b => b < W.heap.size) W a args.toList true (fun b hb => hb) ha hk
  have hcalls' : Calls C.prog f args W fun
    | .returned v, w' => Grown W w' ∧ ∃ F, ResR w' false (.fl .bool) true v F ∧ F.Nodup ∧ ∀ b ∈ F, W.heap.size ≤ b ∧ b < w'.heap.size
    | _, _ => False := hcalls
  refine Calls.mono hcalls' ?_
  rintro (v | ch | _) W' hr
  · obtain ⟨g, F', hr, _⟩ := hr
    have bel : Below W.heap.size W W' := ⟨g.os, g.tape, g.output, g.size, g.block⟩
    have hv : v = .bool true := by
      unfold ResR at hr
      simp only [Bool.false_eq_true, if_false] at hr
      obtain ⟨cs, ⟨_, _, hc⟩, e⟩ := hr
      have hc' : cs = [.bool true] := hc
      rw [hc'] at e
      exact e
    subst hv
    have hlen := trodAll_len hA
    refine ⟨_, rfl, ds, [], p ++ q, [], p, [], hW', ?_, ?_, ?_, bel.frame _, fun h => by cases h⟩
    · rw [List.append_nil, hs H ds hlen, hres]
      exact trodAll_mk1 (shut_bool hb _)
    · rw [List.append_nil, hs H ds hlen]
      exact trods_stay laid bel hpl hA
    · rw [List.append_nil, hs H ds hlen, hvars]
      rfl
  · exact hr.elim
  · exact hr.elim
end
end Go.Vm
