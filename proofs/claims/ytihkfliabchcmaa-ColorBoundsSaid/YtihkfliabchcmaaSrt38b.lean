/- Chapter 38: the stable sort: merging. -/
import Derived.Test.YtihkfliabchcmaaSrt38
set_option linter.unusedVariables false
set_option linter.unusedSimpArgs false
namespace Go.Proofs.YtihkfliabchcmaaV
open Go Go.Vm

theorem half_eq' {i j : Nat} (h : i + j < 4611686018427387904) : w64 (shrW .u64 (IntKind.wrap .u64 (w64 ((i : Int) + (j : Int)))) 1) = (((i + j) / 2 : Nat) : Int) := by
  rw [w64_id (n := (i : Int) + j) (by omega) (by omega), ← Int.natCast_add, half_eq h]

/-- the first of a range carried up -/
theorem up_ev {line : List Span} (a i b : Nat) (xs : List Int) (hai : a < i) (hib : i ≤ b) (hb : b ≤ xs.length) (hl : xs.length ≤ 1000000) :
    W (fun k => slices_symMergeCmpFunc_int_i1.c9 k (i : Int) (a : Int) xs) (fun r => RP xs r.2.1 a b ∧ ∀ p : Nat, rd r.2.1 (p : Int) = if a ≤ p ∧ p < i - 1 then rd xs ((p + 1 : Nat) : Int) else if p = i - 1 then rd xs (a : Int) else rd xs (p : Int)) := by
  have loop : ∀ (d k' : Nat), k' + d = i - 1 → a ≤ k' → ∀ ys, RP xs ys a b → (∀ p : Nat, rd ys (p : Int) = if a ≤ p ∧ p < k' then rd xs ((p + 1 : Nat) : Int) else if p = k' then rd xs (a : Int) else rd xs (p : Int)) →
      W (fun k => slices_symMergeCmpFunc_int_i1.c9 k (i : Int) (k' : Int) ys) (fun r => RP xs r.2.1 a b ∧ ∀ p : Nat, rd r.2.1 (p : Int) = if a ≤ p ∧ p < i - 1 then rd xs ((p + 1 : Nat) : Int) else if p = i - 1 then rd xs (a : Int) else rd xs (p : Int)) := by
    intro d
    induction d with
    | zero =>
      intro k' hk ha ys hr hf
      refine .succ ?_
      simp (disch := omega) only [slices_symMergeCmpFunc_int_i1.c9, w64_id, ↓cdF]
      exact .ret ⟨hr, by rw [show i - 1 = k' by omega]; exact hf⟩
    | succ d ih =>
      intro k' hk ha ys hr hf
      have hlen := hr.len
      refine .succ ?_
      simp (disch := first | omega | (simp only [List.length_set]; omega)) only [slices_symMergeCmpFunc_int_i1.c9, w64_id]
      simp (disch := omega) only [↓cdT]
      simp (disch := first | omega | (simp only [List.length_set]; omega)) only [↓if_pos]
      rw [show (k' : Int) + 1 = ((k' + 1 : Nat) : Int) by omega, Int.toNat_natCast, Int.toNat_natCast]
      have hsw : RP ys (swp ys k' (k' + 1)) a b := RP.swp (by omega) (by omega) (by omega) (by omega) (by omega)
      refine ih (k' + 1) (by omega) (by omega) (swp ys k' (k' + 1)) (hr.trans hsw) fun p => ?_
      rw [rd_swp (by omega) (by omega), hf, hf, hf]
      by_cases e1 : p = k' + 1
      · subst e1
        rw [if_pos rfl, if_neg (by omega), if_pos rfl, if_neg (by omega), if_pos rfl]
      · rw [if_neg e1]
        by_cases e2 : p = k'
        · subst e2
          rw [if_pos rfl, if_neg (by omega), if_neg (by omega), if_pos (by omega)]
        · rw [if_neg e2]
          by_cases e3 : a ≤ p ∧ p < k'
          · rw [if_pos e3, if_pos (by omega)]
          · rw [if_neg e3, if_neg e2, if_neg (by omega), if_neg e1]
  exact loop (i - 1 - a) a (by omega) (Nat.le_refl _) xs (RP.refl _ _ _) fun p => by
    by_cases e : p = a
    · subst e; rw [if_neg (by omega), if_pos rfl]
    · rw [if_neg (by omega), if_neg e]

/-- the last of a range carried down -/
theorem down_ev {line : List Span} (a i m b : Nat) (xs : List Int) (hai : a ≤ i) (him : i ≤ m) (hmb : m < b) (hb : b ≤ xs.length) (hl : xs.length ≤ 1000000) :
    W (fun k => slices_symMergeCmpFunc_int_i1.c21 k (i : Int) (m : Int) xs) (fun r => RP xs r.2.1 a b ∧ ∀ p : Nat, rd r.2.1 (p : Int) = if p = i then rd xs (m : Int) else if i < p ∧ p ≤ m then rd xs ((p - 1 : Nat) : Int) else rd xs (p : Int)) := by
  have loop : ∀ (d k' : Nat), k' = i + d → k' ≤ m → ∀ ys, RP xs ys a b → (∀ p : Nat, rd ys (p : Int) = if p = k' then rd xs (m : Int) else if k' < p ∧ p ≤ m then rd xs ((p - 1 : Nat) : Int) else rd xs (p : Int)) →
      W (fun k => slices_symMergeCmpFunc_int_i1.c21 k (i : Int) (k' : Int) ys) (fun r => RP xs r.2.1 a b ∧ ∀ p : Nat, rd r.2.1 (p : Int) = if p = i then rd xs (m : Int) else if i < p ∧ p ≤ m then rd xs ((p - 1 : Nat) : Int) else rd xs (p : Int)) := by
    intro d
    induction d with
    | zero =>
      intro k' hk hkm ys hr hf
      refine .succ ?_
      simp (disch := omega) only [slices_symMergeCmpFunc_int_i1.c21, ↓cdF]
      exact .ret ⟨hr, by rw [show i = k' by omega]; exact hf⟩
    | succ d ih =>
      intro k' hk hkm ys hr hf
      have hlen := hr.len
      refine .succ ?_
      simp (disch := first | omega | (simp only [List.length_set]; omega)) only [slices_symMergeCmpFunc_int_i1.c21, ↓cdT, w64_id, ↓if_pos]
      rw [show (k' : Int) - 1 = ((k' - 1 : Nat) : Int) by omega, Int.toNat_natCast, Int.toNat_natCast]
      have hsw : RP ys (swp ys k' (k' - 1)) a b := RP.swp (by omega) (by omega) (by omega) (by omega) (by omega)
      refine ih (k' - 1) (by omega) (by omega) (swp ys k' (k' - 1)) (hr.trans hsw) fun p => ?_
      rw [rd_swp (by omega) (by omega), hf, hf, hf]
      by_cases e1 : p = k' - 1
      · subst e1
        rw [if_pos rfl, if_pos rfl, if_pos rfl]
      · rw [if_neg e1, if_neg e1]
        by_cases e2 : p = k'
        · subst e2
          rw [if_pos rfl, if_neg (by omega), if_neg (by omega), if_pos (by omega)]
        · rw [if_neg e2]
          by_cases e3 : k' < p ∧ p ≤ m
          · rw [if_neg e2, if_pos e3, if_pos (by omega)]
          · rw [if_neg e2, if_neg e3, if_neg (by omega)]
  exact loop (m - i) m (by omega) (Nat.le_refl _) xs (RP.refl _ _ _) fun p => by
    by_cases e : p = m
    · subst e; rw [if_pos rfl]
    · rw [if_neg e, if_neg (by omega)]

theorem merge_ev {line : List Span} : ∀ (d a m b : Nat) (xs : List Int), b - a ≤ d → a < m → m < b → b ≤ xs.length → xs.length ≤ 1000000 → BD line xs → SO (LESS line) xs a m → SO (LESS line) xs m b →
    W (fun k => slices_symMergeCmpFunc_int_i1.f k (a : Int) (m : Int) (b : Int) xs line) (fun r => RP xs r.2.1 a b ∧ SO (LESS line) r.2.1 a b)
  | 0, a, m, b, xs, hd, ham, hmb, hbl, hl, hb, s1, s2 => by omega
  | d + 1, a, m, b, xs, hd, ham, hmb, hbl, hl, hb, s1, s2 => by
    have O := LESS_ord line
    have IH := merge_ev (line := line) d
    -- the orders of three
    have tr : ∀ p q r : Nat, ¬ LESS line (rd xs (q : Int)) (rd xs (p : Int)) → ¬ LESS line (rd xs (r : Int)) (rd xs (q : Int)) → ¬ LESS line (rd xs (r : Int)) (rd xs (p : Int)) := fun p q r h1 h2 => O.trans _ _ _ h1 h2
    refine .succ ?_
    simp (disch := omega) only [slices_symMergeCmpFunc_int_i1.f, w64_id (n := (m : Int) - a), w64_id (n := (b : Int) - m)]
    by_cases c1 : m = a + 1
    · simp (disch := omega) only [↓cdT]
      have loop : ∀ (e i j : Nat), i + e = j → m ≤ i → j ≤ b → (∀ p : Nat, m ≤ p → p < i → LESS line (rd xs (p : Int)) (rd xs (a : Int))) → (∀ p : Nat, j ≤ p → p < b → ¬ LESS line (rd xs (p : Int)) (rd xs (a : Int))) →
          W (fun k => slices_symMergeCmpFunc_int_i1.c3 k (a : Int) (i : Int) (j : Int) xs line) (fun r => RP xs r.2.1 a b ∧ SO (LESS line) r.2.1 a b) := by
        intro e
        induction e using Nat.strongRecOn with
        | _ e ih =>
          intro i j hij hmi hjb lo hi
          refine .succ ?_
          by_cases h : i < j
          · simp (disch := omega) only [slices_symMergeCmpFunc_int_i1.c3, ↓cdT, half_eq']
            simp (disch := omega) only [↓if_pos]
            refine W.bind (cmp_ev (hb.rd (by omega)) (hb.rd (by omega))) fun r hc => ?_
            refine .dec (fun hr => ?_) fun hr => ?_
            · have hL := hc.1 hr
              rw [w64_id (by omega) (by omega), show (((i + j) / 2 : Nat) : Int) + 1 = (((i + j) / 2 + 1 : Nat) : Int) by omega]
              refine ih (j - ((i + j) / 2 + 1)) (by omega) _ j (by omega) (by omega) hjb (fun p h1 h2 => ?_) hi
              by_cases hp : p = (i + j) / 2
              · subst hp; exact hL
              · exact Classical.byContradiction fun hn => tr a p _ hn (s2 p ((i + j) / 2) h1 (by omega) (by omega)) hL
            · have hL : ¬ LESS line (rd xs (((i + j) / 2 : Nat) : Int)) (rd xs (a : Int)) := fun q => hr (hc.2 q)
              refine ih ((i + j) / 2 - i) (by omega) i _ (by omega) hmi (by omega) lo fun p h1 h2 => ?_
              by_cases hp : p = (i + j) / 2
              · subst hp; exact hL
              · exact tr a _ p hL (s2 ((i + j) / 2) p (by omega) (by omega) h2)
          · have : j = i := by omega
            subst this
            simp (disch := omega) only [slices_symMergeCmpFunc_int_i1.c3, ↓cdF]
            refine (up_ev (line := line) a j b xs (by omega) hjb hbl hl).mono fun z hz => ⟨hz.1, fun p q h1 h2 h3 => ?_⟩
            rw [hz.2, hz.2]
            by_cases q1 : q < j - 1
            · rw [if_pos (by omega), if_pos (by omega)]
              exact s2 _ _ (by omega) (by omega) (by omega)
            · rw [if_neg (by omega : ¬ (a ≤ q ∧ q < j - 1))]
              by_cases q2 : q = j - 1
              · rw [if_pos q2, if_pos (by omega)]
                exact O.asymm _ _ (lo (p + 1) (by omega) (by omega))
              · rw [if_neg q2]
                by_cases p1 : p < j - 1
                · rw [if_pos (by omega)]
                  exact s2 _ _ (by omega) (by omega) h3
                · rw [if_neg (by omega)]
                  by_cases p2 : p = j - 1
                  · rw [if_pos p2]; exact hi q (by omega) h3
                  · rw [if_neg p2]; exact s2 _ _ (by omega) (by omega) h3
      exact loop (b - m) m b (by omega) (Nat.le_refl _) (Nat.le_refl _) (fun p h1 h2 => by omega) (fun p h1 h2 => by omega)
    simp (disch := omega) only [↓cdF]
    by_cases c2 : b = m + 1
    · simp (disch := omega) only [↓cdT]
      have loop : ∀ (e i j : Nat), i + e = j → a ≤ i → j ≤ m → (∀ p : Nat, a ≤ p → p < i → ¬ LESS line (rd xs (m : Int)) (rd xs (p : Int))) → (∀ p : Nat, j ≤ p → p < m → LESS line (rd xs (m : Int)) (rd xs (p : Int))) →
          W (fun k => slices_symMergeCmpFunc_int_i1.c15 k (m : Int) (i : Int) (j : Int) xs line) (fun r => RP xs r.2.1 a b ∧ SO (LESS line) r.2.1 a b) := by
        intro e
        induction e using Nat.strongRecOn with
        | _ e ih =>
          intro i j hij hai hjm lo hi
          refine .succ ?_
          by_cases h : i < j
          · simp (disch := omega) only [slices_symMergeCmpFunc_int_i1.c15, ↓cdT, half_eq']
            simp (disch := omega) only [↓if_pos]
            refine W.bind (cmp_ev (hb.rd (by omega)) (hb.rd (by omega))) fun r hc => ?_
            by_cases hr : r.1 < 0
            · have hL := hc.1 hr
              simp (disch := omega) only [↓cnF]
              refine ih ((i + j) / 2 - i) (by omega) i _ (by omega) hai (by omega) lo fun p h1 h2 => ?_
              by_cases hp : p = (i + j) / 2
              · subst hp; exact hL
              · exact Classical.byContradiction fun hn => tr _ p m (s1 ((i + j) / 2) p (by omega) (by omega) h2) hn hL
            · have hL : ¬ LESS line (rd xs (m : Int)) (rd xs (((i + j) / 2 : Nat) : Int)) := fun q => hr (hc.2 q)
              simp (disch := omega) only [↓cnT]
              rw [w64_id (by omega) (by omega), show (((i + j) / 2 : Nat) : Int) + 1 = (((i + j) / 2 + 1 : Nat) : Int) by omega]
              refine ih (j - ((i + j) / 2 + 1)) (by omega) _ j (by omega) (by omega) hjm (fun p h1 h2 => ?_) hi
              by_cases hp : p = (i + j) / 2
              · subst hp; exact hL
              · exact tr p _ m (s1 p ((i + j) / 2) h1 (by omega) (by omega)) hL
          · have : j = i := by omega
            subst this
            simp (disch := omega) only [slices_symMergeCmpFunc_int_i1.c15, ↓cdF]
            refine (down_ev (line := line) a j m b xs hai hjm hmb hbl hl).mono fun z hz => ⟨hz.1, fun p q h1 h2 h3 => ?_⟩
            rw [hz.2, hz.2]
            by_cases q1 : q = j
            · rw [if_pos q1, if_neg (by omega), if_neg (by omega)]
              exact lo p h1 (by omega)
            · rw [if_neg q1]
              by_cases q2 : j < q ∧ q ≤ m
              · rw [if_pos q2]
                by_cases p1 : p = j
                · rw [if_pos p1]
                  exact O.asymm _ _ (hi (q - 1) (by omega) (by omega))
                · rw [if_neg p1]
                  by_cases p2 : j < p ∧ p ≤ m
                  · rw [if_pos p2]; exact s1 _ _ (by omega) (by omega) (by omega)
                  · rw [if_neg p2]; exact s1 _ _ (by omega) (by omega) (by omega)
              · rw [if_neg q2, if_neg (by omega), if_neg (by omega)]
                exact s1 _ _ h1 h2 (by omega)
      exact loop (m - a) a m (by omega) (Nat.le_refl _) (Nat.le_refl _) (fun p h1 h2 => by omega) (fun p h1 h2 => by omega)
    simp (disch := omega) only [↓cdF]
    -- the halves
    simp (disch := omega) only [half_eq']
    obtain ⟨mid, hmid⟩ : ∃ mid, (a + b) / 2 = mid := ⟨_, rfl⟩
    simp only [hmid]
    have m1 : a < mid := by omega
    have m2 : mid < b := by omega
    simp (disch := omega) only [w64_id]
    -- behind the turn
    have tail : ∀ (s e : Nat), a ≤ s → s ≤ m → m ≤ e → e ≤ b → s + (e - m) = mid → ∀ ys, RP xs ys a b → (∀ p : Nat, rd ys (p : Int) = rot xs s (m - s) (e - m) p) →
        (∀ p q : Nat, a ≤ p → p < s → e ≤ q → q < b → ¬ LESS line (rd xs (q : Int)) (rd xs (p : Int))) → (∀ p q : Nat, m ≤ p → p < e → s ≤ q → q < m → ¬ LESS line (rd xs (q : Int)) (rd xs (p : Int))) →
        W (fun k => slices_symMergeCmpFunc_int_i1.c41 k (a : Int) (b : Int) (mid : Int) (s : Int) (e : Int) ys line) (fun r => RP xs r.2.1 a b ∧ SO (LESS line) r.2.1 a b) := by
      intro s e has hsm hme heb hse ys hr hf x1 x2
      have hlen := hr.len
      have t1 : SO (LESS line) ys a s := s1.sub (Nat.le_refl _) hsm |>.congr fun p h1 h2 => by
        rw [hf]; unfold rot; rw [if_neg (by omega), if_neg (by omega)]
      have t2 : SO (LESS line) ys s mid := SO.shift (e - m) (c := m) (s2.sub (Nat.le_refl _) (by omega)) (fun p hp => by
        rw [hf]; unfold rot; rw [if_pos (by omega), show s + p + (m - s) = m + p by omega]) (by omega)
      have t3 : SO (LESS line) ys mid e := SO.shift (m - s) (c := s) (s1.sub has (by omega)) (fun p hp => by
        rw [hf]; unfold rot; rw [if_neg (by omega), if_pos (by omega), show mid + p - (e - m) = s + p by omega]) (by omega)
      have t4 : SO (LESS line) ys e b := s2.sub hme (Nat.le_refl _) |>.congr fun p h1 h2 => by
        rw [hf]; unfold rot; rw [if_neg (by omega), if_neg (by omega)]
      have cross : ∀ p q : Nat, a ≤ p → p < mid → mid ≤ q → q < b → ¬ LESS line (rd ys (q : Int)) (rd ys (p : Int)) := fun p q h1 h2 h3 h4 => by
        rw [hf, hf]
        unfold rot
        rw [if_neg (by omega : ¬ (s ≤ q ∧ q < s + (e - m)))]
        by_cases p1 : s ≤ p ∧ p < s + (e - m)
        · rw [if_pos p1]
          by_cases q1 : s + (e - m) ≤ q ∧ q < s + (m - s) + (e - m)
          · rw [if_pos q1]; exact x2 _ _ (by omega) (by omega) (by omega) (by omega)
          · rw [if_neg q1]; exact s2 _ _ (by omega) (by omega) h4
        · rw [if_neg p1, if_neg (by omega : ¬ (s + (e - m) ≤ p ∧ p < s + (m - s) + (e - m)))]
          by_cases q1 : s + (e - m) ≤ q ∧ q < s + (m - s) + (e - m)
          · rw [if_pos q1]; exact s1 _ _ h1 (by omega) (by omega)
          · rw [if_neg q1]; exact x1 _ _ h1 (by omega) (by omega) h4
      -- the second half
      have second : ∀ zs, RP ys zs a mid → SO (LESS line) zs a mid → W (fun k => slices_symMergeCmpFunc_int_i1.c43 k (b : Int) (mid : Int) (e : Int) zs line) (fun r => RP xs r.2.1 a b ∧ SO (LESS line) r.2.1 a b) := by
        intro zs hz sz
        have hzl := hz.len
        have cz := hz.le cross
        have z3 : SO (LESS line) zs mid e := t3.congr fun p h1 h2 => hz.out p (by omega)
        have z4 : SO (LESS line) zs e b := t4.congr fun p h1 h2 => hz.out p (by omega)
        have hxz : RP xs zs a b := hr.trans (hz.mono (Nat.le_refl _) (by omega))
        have done : SO (LESS line) zs mid b → W (fun _ => some (((), zs, ()) : Unit × List Int × Unit)) (fun r => RP xs r.2.1 a b ∧ SO (LESS line) r.2.1 a b) := fun h => .ret ⟨hxz, sz.join h cz⟩
        refine .succ ?_
        simp only [slices_symMergeCmpFunc_int_i1.c43]
        refine .dec (fun h => ?_) fun h => ?_
        · refine .dec (fun h' => ?_) fun h' => ?_
          · refine W.bind (IH mid e b zs (by omega) (by omega) (by omega) (by omega) (by omega) ((hb.rp hr).rp hz) z3 z4) fun w hw => .ret ⟨hxz.trans (hw.1.mono (by omega) (Nat.le_refl _)), ?_⟩
            exact (sz.congr fun p h1 h2 => hw.1.out p (by omega)).join hw.2 (hw.1.le' cz)
          · refine done ?_
            rw [show b = e by omega]; exact z3
        · refine done ?_
          have : mid = e := by omega
          rw [this]; exact z4
      refine .succ ?_
      simp only [slices_symMergeCmpFunc_int_i1.c41]
      refine .dec (fun h => ?_) fun h => ?_
      · refine .dec (fun h' => ?_) fun h' => ?_
        · refine W.bind (IH a s mid ys (by omega) (by omega) (by omega) (by omega) (by omega) (hb.rp hr) t1 t2) fun w hw => second _ hw.1 hw.2
        · refine second ys (RP.refl _ _ _) ?_
          have : mid = s := by omega
          rw [this]; exact t1
      · refine second ys (RP.refl _ _ _) ?_
        have : a = s := by omega
        rw [this]; exact t2
    -- the search
    have search : ∀ (s0 r0 : Nat), a ≤ s0 → r0 ≤ m → r0 ≤ mid → mid + m - s0 ≤ b → s0 ≤ r0 → (s0 = a ∨ mid + m - s0 = b) → (r0 = m ∨ r0 = mid) → ∀ (e s r : Nat), s + e = r → s0 ≤ s → r ≤ r0 →
        (s = s0 ∨ ¬ LESS line (rd xs ((mid + m - s : Nat) : Int)) (rd xs ((s - 1 : Nat) : Int))) → (r = r0 ∨ LESS line (rd xs ((mid + m - 1 - r : Nat) : Int)) (rd xs (r : Int))) →
        W (fun k => slices_symMergeCmpFunc_int_i1.c33 k (a : Int) (m : Int) (b : Int) (mid : Int) ((mid + m : Nat) : Int) (s : Int) (r : Int) ((mid + m - 1 : Nat) : Int) xs line) (fun r => RP xs r.2.1 a b ∧ SO (LESS line) r.2.1 a b) := by
      intro s0 r0 g1 g2 g3 g4 g5 g6 g7 e
      induction e using Nat.strongRecOn with
      | _ e ih =>
        intro s r hsr hs hr lo hi
        refine .succ ?_
        by_cases h : s < r
        · simp (disch := omega) only [slices_symMergeCmpFunc_int_i1.c33, ↓cdT, half_eq']
          obtain ⟨c, hc⟩ : ∃ c, (s + r) / 2 = c := ⟨_, rfl⟩
          simp only [hc]
          simp (disch := omega) only [w64_id, ↓if_pos]
          rw [show ((mid + m - 1 : Nat) : Int) - (c : Int) = ((mid + m - 1 - c : Nat) : Int) by omega]
          refine W.bind (cmp_ev (hb.rd (by omega)) (hb.rd (by omega))) fun q hq => ?_
          by_cases hq0 : q.1 < 0
          · simp (disch := omega) only [↓cnF]
            exact ih (c - s) (by omega) s c (by omega) hs (by omega) lo (.inr (hq.1 hq0))
          · simp (disch := omega) only [↓cnT]
            exact ih (r - (c + 1)) (by omega) (c + 1) r (by omega) (by omega) hr (.inr (by
              rw [show mid + m - (c + 1) = mid + m - 1 - c by omega, show c + 1 - 1 = c by omega]
              exact fun q' => hq0 (hq.2 q'))) hi
        · have : r = s := by omega
          subst this
          simp (disch := omega) only [slices_symMergeCmpFunc_int_i1.c33, ↓cdF, w64_id]
          rw [show ((mid + m : Nat) : Int) - (r : Int) = ((mid + m - r : Nat) : Int) by omega]
          have x1 : ∀ p q : Nat, a ≤ p → p < r → mid + m - r ≤ q → q < b → ¬ LESS line (rd xs (q : Int)) (rd xs (p : Int)) := fun p q h1 h2 h3 h4 => by
            rcases lo with lo | lo
            · omega
            · have y1 : ¬ LESS line (rd xs ((r - 1 : Nat) : Int)) (rd xs (p : Int)) ∨ p = r - 1 := by
                by_cases e : p = r - 1
                · exact .inr e
                · exact .inl (s1 p (r - 1) h1 (by omega) (by omega))
              have y2 : ¬ LESS line (rd xs (q : Int)) (rd xs ((mid + m - r : Nat) : Int)) ∨ q = mid + m - r := by
                by_cases e : q = mid + m - r
                · exact .inr e
                · exact .inl (s2 (mid + m - r) q (by omega) (by omega) h4)
              have y3 : ¬ LESS line (rd xs ((mid + m - r : Nat) : Int)) (rd xs (p : Int)) := by
                rcases y1 with y1 | y1
                · exact tr _ _ _ y1 lo
                · rw [y1]; exact lo
              rcases y2 with y2 | y2
              · exact tr _ _ _ y3 y2
              · rw [y2]; exact y3
          have x2 : ∀ p q : Nat, m ≤ p → p < mid + m - r → r ≤ q → q < m → ¬ LESS line (rd xs (q : Int)) (rd xs (p : Int)) := fun p q h1 h2 h3 h4 => by
            rcases hi with hi | hi
            · omega
            · have hi' := O.asymm _ _ hi
              have y1 : ¬ LESS line (rd xs ((mid + m - 1 - r : Nat) : Int)) (rd xs (p : Int)) ∨ p = mid + m - 1 - r := by
                by_cases e : p = mid + m - 1 - r
                · exact .inr e
                · exact .inl (s2 p (mid + m - 1 - r) h1 (by omega) (by omega))
              have y2 : ¬ LESS line (rd xs (q : Int)) (rd xs (r : Int)) ∨ q = r := by
                by_cases e : q = r
                · exact .inr e
                · exact .inl (s1 r q (by omega) (by omega) h4)
              have y3 : ¬ LESS line (rd xs (r : Int)) (rd xs (p : Int)) := by
                rcases y1 with y1 | y1
                · exact tr _ _ _ y1 hi'
                · rw [y1]; exact hi'
              rcases y2 with y2 | y2
              · exact tr _ _ _ y3 y2
              · rw [y2]; exact y3
          refine .dec (fun h1 => ?_) fun h1 => ?_
          · refine .dec (fun h2 => ?_) fun h2 => ?_
            · refine W.bind (rotate_ev (line := line) r m (mid + m - r) xs (by omega) (by omega) (by omega) hl) fun w hw => ?_
              exact tail r (mid + m - r) (by omega) (by omega) (by omega) (by omega) (by omega) _ (hw.1.mono (by omega) (by omega)) hw.2 x1 x2
            · exact tail r (mid + m - r) (by omega) (by omega) (by omega) (by omega) (by omega) xs (RP.refl _ _ _) (fun p => by
                unfold rot
                rw [show mid + m - r - m = 0 by omega]
                split
                · omega
                · split <;> rfl) x1 x2
          · exact tail r (mid + m - r) (by omega) (by omega) (by omega) (by omega) (by omega) xs (RP.refl _ _ _) (fun p => by
              unfold rot
              rw [show m - r = 0 by omega]
              split
              · rfl
              · split
                · omega
                · rfl) x1 x2
    by_cases c3 : mid < m
    · simp (disch := omega) only [↓cdT]
      refine .succ ?_
      simp only [slices_symMergeCmpFunc_int_i1.c32]
      rw [w64_id (by omega) (by omega), show (mid : Int) + (m : Int) - 1 = ((mid + m - 1 : Nat) : Int) by omega, show (mid : Int) + (m : Int) - b = ((mid + m - b : Nat) : Int) by omega, show (mid : Int) + (m : Int) = ((mid + m : Nat) : Int) by omega]
      exact search (mid + m - b) mid (by omega) (by omega) (by omega) (by omega) (by omega) (by omega) (by omega) (mid - (mid + m - b)) _ _ (by omega) (by omega) (by omega) (.inl rfl) (.inl rfl)
    · simp (disch := omega) only [↓cdF]
      refine .succ ?_
      simp only [slices_symMergeCmpFunc_int_i1.c32]
      rw [w64_id (by omega) (by omega), show (mid : Int) + (m : Int) - 1 = ((mid + m - 1 : Nat) : Int) by omega, show (mid : Int) + (m : Int) = ((mid + m : Nat) : Int) by omega]
      exact search a m (by omega) (by omega) (by omega) (by omega) (by omega) (by omega) (by omega) (m - a) _ _ (by omega) (by omega) (by omega) (.inl rfl) (.inl rfl)

/-- the whole sort, of at most 30 numbers -/
theorem stable_ev {line : List Span} (xs : List Int) (hb : BD line xs) (hl : xs.length ≤ 30) :
    W (fun k => slices_SortStableFunc_int_int_i1.f k xs line) (fun r => RP xs r.2.1 0 xs.length ∧ SO (LESS line) r.2.1 0 xs.length) := by
  simp only [slices_SortStableFunc_int_int_i1.f, slices_stableCmpFunc_int_i1.f]
  suffices h : W (fun k => slices_stableCmpFunc_int_i1.c2 k (xs.length : Int) 20 0 20 xs line) (fun r => RP xs r.2.1 0 xs.length ∧ SO (LESS line) r.2.1 0 xs.length) from W.bind h fun r hr => .ret hr
  have last : ∀ bs : Nat, xs.length ≤ bs → bs ≤ 1000 → ∀ ys, RP xs ys 0 xs.length → SO (LESS line) ys 0 xs.length → W (fun k => slices_stableCmpFunc_int_i1.c7 k (xs.length : Int) (bs : Int) ys line) (fun r => RP xs r.2.1 0 xs.length ∧ SO (LESS line) r.2.1 0 xs.length) := by
    intro bs h1 h1' ys hr hs
    refine .succ ?_
    simp (disch := omega) only [slices_stableCmpFunc_int_i1.c7, ↓cdF]
    exact .ret ⟨hr, hs⟩
  by_cases h20 : 20 ≤ xs.length
  · refine .succ ?_
    simp (disch := omega) only [slices_stableCmpFunc_int_i1.c2, ↓cdT, w64_id]
    refine W.bind (insert_ev 0 20 xs hb (by omega) h20 (by omega)) fun r hr => ?_
    have hrl := hr.1.len
    refine .succ ?_
    simp (disch := omega) only [slices_stableCmpFunc_int_i1.c2, ↓cdF]
    refine W.bind (insert_ev 20 xs.length r.2.1 (hb.rp hr.1) (by omega) (by omega) (by omega)) fun z hz => ?_
    have hzl := hz.1.len
    have hxz : RP xs z.2.1 0 xs.length := (hr.1.mono (Nat.le_refl _) (by omega)).trans (hz.1.mono (by omega) (Nat.le_refl _))
    have sz : SO (LESS line) z.2.1 0 20 := hr.2.congr fun p h1 h2 => hz.1.out p (by omega)
    refine .succ ?_
    by_cases h21 : 20 < xs.length
    · simp (disch := omega) only [slices_stableCmpFunc_int_i1.c7, ↓cdT, w64_id]
      refine .succ ?_
      simp (disch := omega) only [slices_stableCmpFunc_int_i1.c9, ↓cdF, ↓cdT, w64_id]
      refine W.bind (merge_ev (line := line) 1000 0 20 xs.length z.2.1 (by omega) (by omega) (by omega) (by omega) (by omega) (hb.rp hxz) sz hz.2) fun w hw => ?_
      exact last 40 (by omega) (by omega) _ (hxz.trans hw.1) hw.2
    · simp (disch := omega) only [slices_stableCmpFunc_int_i1.c7, ↓cdF]
      exact .ret ⟨hxz, by rw [show xs.length = 20 by omega]; exact sz⟩
  · refine .succ ?_
    simp (disch := omega) only [slices_stableCmpFunc_int_i1.c2, ↓cdF]
    refine W.bind (insert_ev 0 xs.length xs hb (by omega) (Nat.le_refl _) (by omega)) fun r hr => ?_
    exact last 20 (by omega) (by omega) _ hr.1 hr.2
end Go.Proofs.YtihkfliabchcmaaV
