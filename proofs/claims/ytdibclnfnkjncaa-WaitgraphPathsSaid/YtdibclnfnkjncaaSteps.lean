/- The functions, told by lists. -/
import Derived.IntWalk
import Derived.Test.YtdibclnfnkjncaaPlain
section
set_option linter.all false
set_option linter.unusedVariables false
set_option linter.unusedSimpArgs false
set_option linter.unnecessarySimpa false
/-
  Waitgraph: the functions over graphs, told by lists: Valid.
-/
namespace Go.Abs.Wg
open Go Go.Abs Go.G19 Go.Abs.AbsP19

theorem w64 {x : Int} (h : -9223372036854775808 ≤ x ∧ x ≤ 9223372036854775807) : IntKind.wrap .i64 x = x := IntWalk.i64_in x h
theorem w64s (i : Nat) (h : i ≤ 1000000000) : IntKind.wrap .i64 ((i : Int) + 1) = ((i + 1 : Nat) : Int) := by rw [w64 (by omega)]; rfl
theorem iter_succ {X Y : Type} (S : (X → Option Y) → X → Option Y) (f : Nat) (x : X) : iter S (f + 1) x = S (iter S f) x := rfl
theorem lt_t {i n : Nat} (h : i < n) : decide ((i : Int) < (n : Int)) = true := by simp; omega
theorem lt_f {i n : Nat} (h : n ≤ i) : decide ((i : Int) < (n : Int)) = false := by simp; omega
theorem ge0 (i : Nat) : decide (0 ≤ (i : Int)) = true := by simp
theorem ixo_nat {α : Type} {l : List α} {i : Nat} {x : α} (h : l[i]? = some x) : ixo l (i : Int) = some x := by
  unfold ixo
  have : decide ((i : Int) < 0) = false := by simp
  rw [this, Int.toNat_natCast, cond_false, h]
theorem get_lt {α : Type} {l : List α} {i : Nat} {x : α} (h : l[i]? = some x) : i < l.length := by
  rcases Nat.lt_or_ge i l.length with h1 | h1
  · exact h1
  · rw [List.getElem?_eq_none h1] at h; cases h
theorem drop_cons {α : Type} {l : List α} {i : Nat} {x : α} (h : l[i]? = some x) : l.drop i = x :: l.drop (i + 1) := by
  have h1 := get_lt h
  rw [List.drop_eq_getElem_cons h1]
  rw [List.getElem?_eq_getElem h1] at h
  rw [Option.some.inj h]
theorem app_small {a b c : Nat} (h : (a + b) * c ≤ 70368744177664) : appOK a b c = true := by
  rw [appOK_iff]
  have : (((a + b) * c : Nat) : Int) ≤ 70368744177664 := by omega
  push_cast at this
  exact this
theorem make_small {a c : Nat} (h : a * c ≤ 70368744177664) : makeOK (a : Int) (a : Int) c = true := by
  rw [makeOK_iff]
  refine ⟨by omega, Int.le_refl _, ?_⟩
  have : ((a * c : Nat) : Int) ≤ 70368744177664 := by omega
  push_cast at this
  exact this
theorem iter_exists {f : Nat} (h : 0 < f) : ∃ g, f = g + 1 := ⟨f - 1, by omega⟩

/-! ### small -/
def small (g : List S38) : Bool := decide (g.length ≤ 40) && g.all fun x => decide (x.Next.length ≤ 40)
theorem L10_eq (n : Nat) (g : List S38) (hg : g.length ≤ 40) : ∀ (d i f : Nat), i + d = g.length → d < f →
    iter (U10_0 n) f (g, (i : Int)) = some (bif (g.drop i).all (fun x => decide (x.Next.length ≤ 40)) then .inl () else .inr false) := by
  intro d
  induction d with
  | zero =>
    intro i f hi hf
    obtain ⟨f, rfl⟩ := iter_exists (show 0 < f by omega)
    rw [iter_succ, U10_0.eq_1, S10_0.eq_1]
    simp only [lt_f (show g.length ≤ i by omega), cond_false]
    rw [List.drop_of_length_le (by omega)]
    rfl
  | succ d ih =>
    intro i f hi hf
    obtain ⟨f, rfl⟩ := iter_exists (show 0 < f by omega)
    rw [iter_succ, U10_0.eq_1, S10_0.eq_1]
    have hi1 : i < g.length := by omega
    have ht := List.getElem?_eq_getElem hi1
    simp only [lt_t hi1, cond_true, ixo_nat ht, Option.bind_some, w64s i (by omega)]
    rw [drop_cons ht, ih (i + 1) f (by omega) (by omega), List.all_cons]
    rcases Nat.lt_or_ge 40 g[i].Next.length with h | h
    · have h1 : decide (((g[i].Next.length : Nat) : Int) > 40) = true := by simp; omega
      have h2 : decide (g[i].Next.length ≤ 40) = false := by simp; omega
      rw [h1, h2]; rfl
    · have h1 : decide (((g[i].Next.length : Nat) : Int) > 40) = false := by simp; omega
      have h2 : decide (g[i].Next.length ≤ 40) = true := by simp; omega
      rw [h1, h2]; rfl
theorem F10_eq (n : Nat) (hn : 1000 ≤ n) (g : List S38) : F10 n g = some (small g) := by
  unfold F10 L10_0 small
  rcases Nat.lt_or_ge 40 g.length with h | h
  · have h1 : decide (((g.length : Nat) : Int) > 40) = true := by simp; omega
    have h2 : decide (g.length ≤ 40) = false := by simp; omega
    rw [h1, h2]; rfl
  · have h1 : decide (((g.length : Nat) : Int) > 40) = false := by simp; omega
    have h2 : decide (g.length ≤ 40) = true := by simp; omega
    rw [h1, h2]
    have := L10_eq n g h g.length 0 n (by omega) (by omega)
    have z : ((0 : Nat) : Int) = (0 : Int) := rfl
    rw [z] at this
    simp only [cond_false]
    rw [this, List.drop_zero]
    cases g.all (fun x => decide (x.Next.length ≤ 40)) <;> rfl

/-! ### Valid -/
/-- The successors are nodes, ascending. -/
def asc (len : Nat) : Option Int → List Int → Bool
  | _, [] => true
  | p, j :: l => (bif decide (j < 0) then false else bif decide (j ≥ (len : Int)) then false else match p with | none => true | some q => !decide (q ≥ j)) && asc len (some j) l
def okHead (x : S38) : Bool := !decide (x.K < 0) && (!decide (x.K > (x.Next.length : Int)) && !((x.K == 0) && decide ((x.Next.length : Int) > 0)))
def okNode (len : Nat) (x : S38) : Bool := okHead x && asc len none x.Next
def valid (g : List S38) : Bool := decide (g.length ≤ 160) && g.all (okNode g.length)
def prev (l : List Int) (i : Nat) : Option Int := match i with | 0 => none | k + 1 => l[k]?

theorem L12_1_eq (n : Nat) (g a1 : List S38) (a2 a3 k : Int) (l : List Int) (hl : l.length ≤ 1000000) : ∀ (d i f : Nat), i + d = l.length → d < f →
    iter (U12_1 n) f ((g, (a1, (a2, (a3, (l, ((l.length : Int), (i : Int))))))), (k, l)) = some (bif asc g.length (prev l i) (l.drop i) then .inl (g, (a1, (a2, a3))) else .inr false) := by
  intro d
  induction d with
  | zero =>
    intro i f hi hf
    obtain ⟨f, rfl⟩ := iter_exists (show 0 < f by omega)
    rw [iter_succ, U12_1.eq_1, S12_1.eq_1]
    simp only [lt_f (show l.length ≤ i by omega), cond_false]
    rw [List.drop_of_length_le (by omega)]
    rfl
  | succ d ih =>
    intro i f hi hf
    obtain ⟨f, rfl⟩ := iter_exists (show 0 < f by omega)
    rw [iter_succ, U12_1.eq_1, S12_1.eq_1]
    have hi1 : i < l.length := by omega
    have ht := List.getElem?_eq_getElem hi1
    simp only [lt_t hi1, cond_true, ixo_nat ht, Option.bind_some, w64s i (by omega)]
    rw [drop_cons ht, ih (i + 1) f (by omega) (by omega)]
    simp only [asc, prev, ht]
    cases h1 : decide (l[i] < 0) with
    | true => rfl
    | false =>
      cases h2 : decide (l[i] ≥ (g.length : Int)) with
      | true => rfl
      | false =>
        cases i with
        | zero => rfl
        | succ i =>
          have h3 : decide (((i + 1 : Nat) : Int) > 0) = true := by simp <;> omega
          have h4 : IntKind.wrap .i64 (((i + 1 : Nat) : Int) - 1) = (i : Int) := by rw [w64 (by omega)]; omega
          have h5 := List.getElem?_eq_getElem (show i < l.length by omega)
          simp only [h3, h4, cond_true, cond_false, ixo_nat h5, Option.bind_some, h5]
          cases decide (l[i] ≥ l[i + 1]) <;> rfl

theorem head_eq (x : S38) : (bif (decide (x.K < (0 : Int))) then
      true
    else
      (bif (decide (x.K > ((List.length x.Next : Nat) : Int))) then
        true
      else
        (bif (x.K == (0 : Int)) then (decide (((List.length x.Next : Nat) : Int) > (0 : Int))) else false))) = !okHead x := by
  unfold okHead
  cases decide (x.K < 0) <;> cases decide (x.K > (x.Next.length : Int)) <;> cases x.K == 0 <;> cases decide ((x.Next.length : Int) > 0) <;> rfl
theorem L12_0_eq (n : Nat) (g : List S38) (hg : g.length ≤ 160) (hn : ∀ x ∈ g, x.Next.length < n ∧ x.Next.length ≤ 1000000) : ∀ (d i f : Nat), i + d = g.length → d < f →
    iter (U12_0 n) f (g, (g, ((g.length : Int), (i : Int)))) = some (bif (g.drop i).all (okNode g.length) then .inl () else .inr false) := by
  intro d
  induction d with
  | zero =>
    intro i f hi hf
    obtain ⟨f, rfl⟩ := iter_exists (show 0 < f by omega)
    rw [iter_succ, U12_0.eq_1, S12_0.eq_1]
    simp only [lt_f (show g.length ≤ i by omega), cond_false]
    rw [List.drop_of_length_le (by omega)]
    rfl
  | succ d ih =>
    intro i f hi hf
    obtain ⟨f, rfl⟩ := iter_exists (show 0 < f by omega)
    rw [iter_succ, U12_0.eq_1, S12_0.eq_1]
    have hi1 : i < g.length := by omega
    have ht := List.getElem?_eq_getElem hi1
    have hx := hn g[i] (List.getElem_mem hi1)
    simp only [lt_t hi1, cond_true, ixo_nat ht, Option.bind_some]
    rw [head_eq, drop_cons ht, List.all_cons]
    unfold okNode
    cases hh : okHead g[i] with
    | false => rfl
    | true =>
      have e := L12_1_eq n g g (g.length : Int) (i : Int) g[i].K g[i].Next hx.2 g[i].Next.length 0 n (by omega) (by omega)
      have z : ((0 : Nat) : Int) = (0 : Int) := rfl
      rw [z] at e
      unfold L12_1
      simp only [Bool.not_true, cond_false]
      rw [e, List.drop_zero]
      simp only [prev, Option.bind_some, Bool.true_and]
      cases ha : asc g.length none g[i].Next with
      | false => rfl
      | true =>
        simp only [cond_true, Sum.elim_inl, w64s i (by omega), Bool.true_and]
        exact ih (i + 1) f (by omega) (by omega)
theorem F12_eq (n : Nat) (hn : 1000 ≤ n) (g : List S38) (hx : ∀ x ∈ g, x.Next.length < n ∧ x.Next.length ≤ 1000000) : F12 n g = some (valid g) := by
  unfold F12 L12_0 valid
  rcases Nat.lt_or_ge 160 g.length with h | h
  · have h1 : decide (((g.length : Nat) : Int) > 160) = true := by simp; omega
    have h2 : decide (g.length ≤ 160) = false := by simp; omega
    rw [h1, h2]; rfl
  · have h1 : decide (((g.length : Nat) : Int) > 160) = false := by simp; omega
    have h2 : decide (g.length ≤ 160) = true := by simp; omega
    rw [h1, h2]
    have := L12_0_eq n g h hx g.length 0 n (by omega) (by omega)
    have z : ((0 : Nat) : Int) = (0 : Int) := rfl
    rw [z] at this
    simp only [cond_false]
    rw [this, List.drop_zero]
    cases g.all (okNode g.length) <;> rfl

/-! ### the reference's -/
theorem L13_1_eq (n : Nat) (g : List S38) (a : Nat) (x : S38) (hx : g[a]? = some x) (hl : x.Next.length ≤ 1000000) : ∀ (d i f : Nat), i + d = x.Next.length → d < f →
    iter (U13_1 n) f (g, ((a : Int), (i : Int))) = some (bif asc g.length (prev x.Next i) (x.Next.drop i) then .inl (g, (a : Int)) else .inr false) := by
  intro d
  induction d with
  | zero =>
    intro i f hi hf
    obtain ⟨f, rfl⟩ := iter_exists (show 0 < f by omega)
    rw [iter_succ, U13_1.eq_1, S13_1.eq_1]
    simp only [ixo_nat hx, Option.bind_some, lt_f (show x.Next.length ≤ i by omega), cond_false]
    rw [List.drop_of_length_le (by omega)]
    rfl
  | succ d ih =>
    intro i f hi hf
    obtain ⟨f, rfl⟩ := iter_exists (show 0 < f by omega)
    rw [iter_succ, U13_1.eq_1, S13_1.eq_1]
    have hi1 : i < x.Next.length := by omega
    have ht := List.getElem?_eq_getElem hi1
    simp only [ixo_nat hx, Option.bind_some, lt_t hi1, cond_true, ixo_nat ht, w64s i (by omega)]
    rw [drop_cons ht, ih (i + 1) f (by omega) (by omega)]
    simp only [asc, prev, ht]
    cases h1 : decide (x.Next[i] < 0) with
    | true => rfl
    | false =>
      cases h2 : decide (x.Next[i] ≥ (g.length : Int)) with
      | true => rfl
      | false =>
        cases i with
        | zero => rfl
        | succ i =>
          have h3 : decide (((i + 1 : Nat) : Int) > 0) = true := by simp <;> omega
          have h4 : IntKind.wrap .i64 (((i + 1 : Nat) : Int) - 1) = (i : Int) := by rw [w64 (by omega)]; omega
          have h5 := List.getElem?_eq_getElem (show i < x.Next.length by omega)
          simp only [h3, h4, cond_true, cond_false, ixo_nat h5, Option.bind_some, h5]
          cases decide (x.Next[i] ≥ x.Next[i + 1]) <;> rfl
def lo : Option Int → Int
  | none => 0
  | some q => q + 1
theorem asc_len (len : Nat) : ∀ (l : List Int) (p : Option Int), asc len p l = true → lo p ≤ (len : Int) → (l.length : Int) ≤ (len : Int) - lo p := by
  intro l
  induction l with
  | nil => intro p _ h; simp; omega
  | cons j l ih =>
    intro p h hp
    simp only [asc, Bool.and_eq_true] at h
    obtain ⟨h1, h2⟩ := h
    cases h3 : decide (j < 0) with
    | true => rw [h3] at h1; cases h1
    | false =>
      cases h4 : decide (j ≥ (len : Int)) with
      | true => rw [h3, h4] at h1; cases h1
      | false =>
        have h5 : ¬ j < 0 := by simpa using h3
        have h6 : ¬ j ≥ (len : Int) := by simpa using h4
        have := ih (some j) h2 (by simp only [lo]; omega)
        simp only [lo] at this
        simp only [List.length_cons]
        rw [h3, h4] at h1
        cases p with
        | none => simp only [lo]; omega
        | some q =>
          simp only [cond_false, Bool.not_eq_true', decide_eq_false_iff_not] at h1
          simp only [lo]
          omega
theorem L13_0_eq (n : Nat) (g : List S38) (hg : g.length ≤ 160) (hn : ∀ x ∈ g, x.Next.length < n ∧ x.Next.length ≤ 1000000) : ∀ (d i f : Nat), i + d = g.length → d < f →
    iter (U13_0 n) f (g, (i : Int)) = some (bif (g.drop i).all (okNode g.length) then .inl () else .inr false) := by
  intro d
  induction d with
  | zero =>
    intro i f hi hf
    obtain ⟨f, rfl⟩ := iter_exists (show 0 < f by omega)
    rw [iter_succ, U13_0.eq_1, S13_0.eq_1]
    simp only [lt_f (show g.length ≤ i by omega), cond_false]
    rw [List.drop_of_length_le (by omega)]
    rfl
  | succ d ih =>
    intro i f hi hf
    obtain ⟨f, rfl⟩ := iter_exists (show 0 < f by omega)
    rw [iter_succ, U13_0.eq_1, S13_0.eq_1]
    have hi1 : i < g.length := by omega
    have ht := List.getElem?_eq_getElem hi1
    have hx := hn g[i] (List.getElem_mem hi1)
    have e := L13_1_eq n g i g[i] ht hx.2 g[i].Next.length 0 n (by omega) (by omega)
    have z : ((0 : Nat) : Int) = (0 : Int) := rfl
    rw [z, List.drop_zero] at e
    simp only [prev] at e
    unfold L13_1
    simp only [lt_t hi1, cond_true, ixo_nat ht, Option.bind_some]
    rw [drop_cons ht, List.all_cons]
    rcases Nat.lt_or_ge 160 g[i].Next.length with hb | hb
    · have h1 : decide (((g[i].Next.length : Nat) : Int) > 160) = true := by simp; omega
      have h2 : okNode g.length g[i] = false := by
        unfold okNode
        cases ha : asc g.length none g[i].Next with
        | false => simp
        | true =>
          have := asc_len _ _ _ ha (by simp only [lo]; omega)
          simp only [lo] at this
          omega
      rw [h1, h2]; rfl
    · have h1 : decide (((g[i].Next.length : Nat) : Int) > 160) = false := by simp; omega
      rw [h1]
      unfold okNode okHead
      rw [e]
      simp only [cond_false, Option.bind_some]
      cases decide (g[i].K < 0) with
      | true => rfl
      | false =>
        cases decide (g[i].K > ((g[i].Next.length : Nat) : Int)) with
        | true => rfl
        | false =>
          have fin : Option.bind (some (bif asc g.length none g[i].Next then Sum.inl (g, (i : Int)) else Sum.inr false)) (fun y7 => Sum.elim (fun y8 => (iter (U13_0 n) f (y8.1, IntKind.wrap .i64 (y8.2 + 1)) : Option (Unit ⊕ Bool))) (fun y9 => some (.inr y9)) y7) = some (bif (true && (asc g.length none g[i].Next)) && (g.drop (i + 1)).all (okNode g.length) then .inl () else .inr false) := by
            cases asc g.length none g[i].Next with
            | false => rfl
            | true =>
              simp only [cond_true, Option.bind_some, Sum.elim_inl, w64s i (by omega), Bool.true_and]
              exact ih (i + 1) f (by omega) (by omega)
          cases g[i].K == 0 with
          | false => exact fin
          | true =>
            cases decide (((g[i].Next.length : Nat) : Int) > 0) with
            | true => rfl
            | false => exact fin
theorem F13_eq (n : Nat) (hn : 1000 ≤ n) (g : List S38) (hx : ∀ x ∈ g, x.Next.length < n ∧ x.Next.length ≤ 1000000) : F13 n g = some (valid g) := by
  unfold F13 L13_0 valid
  rcases Nat.lt_or_ge 160 g.length with h | h
  · have h1 : decide (((g.length : Nat) : Int) > 160) = true := by simp; omega
    have h2 : decide (g.length ≤ 160) = false := by simp; omega
    rw [h1, h2]; rfl
  · have h1 : decide (((g.length : Nat) : Int) > 160) = false := by simp; omega
    have h2 : decide (g.length ≤ 160) = true := by simp; omega
    rw [h1, h2]
    have := L13_0_eq n g h hx g.length 0 n (by omega) (by omega)
    have z : ((0 : Nat) : Int) = (0 : Int) := rfl
    rw [z] at this
    simp only [cond_false]
    rw [this, List.drop_zero]
    cases g.all (okNode g.length) <;> rfl
end Go.Abs.Wg
end
section
set_option linter.all false
set_option linter.unusedVariables false
set_option linter.unusedSimpArgs false
set_option linter.unnecessarySimpa false
/-
  Waitgraph: Stuck.
-/
namespace Go.Abs.Wg
open Go Go.Abs Go.G19 Go.Abs.AbsP19

def bAt (d : List Bool) (j : Int) : Bool := match d[j.toNat]? with | some b => b | none => false
def cnt (d : List Bool) : List Int → Nat
  | [] => 0
  | j :: l => (bif bAt d j then 1 else 0) + cnt d l
def Inn (m : Nat) (l : List Int) : Prop := ∀ j ∈ l, 0 ≤ j ∧ j < (m : Int)
theorem in_ok {j : Int} {m : Nat} (h : 0 ≤ j ∧ j < (m : Int)) : (decide (0 ≤ j) && decide (j < (m : Int))) = true := by simp [h.1, h.2]
theorem bAt_get {d : List Bool} {j : Int} (h : 0 ≤ j ∧ j < (d.length : Int)) : d[j.toNat]? = some (bAt d j) := by
  unfold bAt
  have h1 : j.toNat < d.length := by omega
  rw [List.getElem?_eq_getElem h1]
theorem L15_2_eq (n : Nat) (g g4 : List S38) (m : Bool) (i2 a5 a6 k : Int) (nx l : List Int) (dn : List Bool) (hl : l.length ≤ 100000) (hd : Inn dn.length l) : ∀ (d i c f : Nat), i + d = l.length → d < f → c ≤ i →
    iter (U15_2 n) f ((g, (m, (i2, ((c : Int), (g4, (a5, (a6, (l, ((l.length : Int), (i : Int)))))))))), ((k, nx), dn)) = some ((g, (m, (i2, (((c + cnt dn (l.drop i) : Nat) : Int), (g4, (a5, a6)))))), ((k, nx), dn)) := by
  intro d
  induction d with
  | zero =>
    intro i c f hi hf hc
    obtain ⟨f, rfl⟩ := iter_exists (show 0 < f by omega)
    rw [iter_succ, U15_2.eq_1, S15_2.eq_1]
    simp only [lt_f (show l.length ≤ i by omega), cond_false]
    rw [List.drop_of_length_le (by omega)]
    rfl
  | succ d ih =>
    intro i c f hi hf hc
    obtain ⟨f, rfl⟩ := iter_exists (show 0 < f by omega)
    rw [iter_succ, U15_2.eq_1, S15_2.eq_1]
    have hi1 : i < l.length := by omega
    have ht := List.getElem?_eq_getElem hi1
    have hj := hd l[i] (List.getElem_mem hi1)
    simp only [lt_t hi1, cond_true, ixo_nat ht, Option.bind_some, w64s i (by omega), w64s c (by omega), in_ok hj, bAt_get hj]
    rw [drop_cons ht]
    simp only [cnt]
    cases bAt dn l[i] with
    | true =>
      simp only [cond_true]
      rw [ih (i + 1) (c + 1) f (by omega) (by omega) (by omega), Nat.add_assoc]
    | false =>
      simp only [cond_false]
      rw [ih (i + 1) c f (by omega) (by omega) (by omega), Nat.zero_add]
theorem L16_2_eq (n : Nat) (g : List S38) (m : Bool) (a : Nat) (x : S38) (hx : g[a]? = some x) (dn : List Bool) (hl : x.Next.length ≤ 100000) (hd : Inn dn.length x.Next) : ∀ (d i c f : Nat), i + d = x.Next.length → d < f → c ≤ i →
    iter (U16_2 n) f ((g, (m, ((a : Int), ((c : Int), (i : Int))))), dn) = some ((g, (m, ((a : Int), ((c + cnt dn (x.Next.drop i) : Nat) : Int)))), dn) := by
  intro d
  induction d with
  | zero =>
    intro i c f hi hf hc
    obtain ⟨f, rfl⟩ := iter_exists (show 0 < f by omega)
    rw [iter_succ, U16_2.eq_1, S16_2.eq_1]
    simp only [ixo_nat hx, Option.bind_some, lt_f (show x.Next.length ≤ i by omega), cond_false]
    rw [List.drop_of_length_le (by omega)]
    rfl
  | succ d ih =>
    intro i c f hi hf hc
    obtain ⟨f, rfl⟩ := iter_exists (show 0 < f by omega)
    rw [iter_succ, U16_2.eq_1, S16_2.eq_1]
    have hi1 : i < x.Next.length := by omega
    have ht := List.getElem?_eq_getElem hi1
    have hj := hd x.Next[i] (List.getElem_mem hi1)
    simp only [ixo_nat hx, Option.bind_some, lt_t hi1, cond_true, ixo_nat ht, w64s i (by omega), w64s c (by omega), in_ok hj, bAt_get hj]
    rw [drop_cons ht]
    simp only [cnt]
    cases bAt dn x.Next[i] with
    | true =>
      simp only [cond_true]
      rw [ih (i + 1) (c + 1) f (by omega) (by omega) (by omega), Nat.add_assoc]
    | false =>
      simp only [cond_false]
      rw [ih (i + 1) c f (by omega) (by omega) (by omega), Nat.zero_add]

/-- One pass over the nodes. -/
def pass : List S38 → Nat → Bool → List Bool → Bool × List Bool
  | [], _, m, d => (m, d)
  | x :: xs, i, m, d => bif !(bAt d (i : Int)) && decide ((cnt d x.Next : Int) ≥ x.K) then pass xs (i + 1) true (d.set i true) else pass xs (i + 1) m d
/-- What is wanted of a graph's nodes. -/
def Nice (g : List S38) : Prop := g.length ≤ 160 ∧ ∀ x ∈ g, x.Next.length ≤ 160 ∧ Inn g.length x.Next
theorem L15_1_eq (n : Nat) (hn : 1000 ≤ n) (g : List S38) (hg : Nice g) : ∀ (d i f : Nat) (m : Bool) (dn : List Bool), i + d = g.length → d < f → dn.length = g.length →
    iter (U15_1 n) f ((g, (m, (g, ((g.length : Int), (i : Int))))), dn) = some ((g, (pass (g.drop i) i m dn).1), (pass (g.drop i) i m dn).2) := by
  intro d
  induction d with
  | zero =>
    intro i f m dn hi hf hd
    obtain ⟨f, rfl⟩ := iter_exists (show 0 < f by omega)
    rw [iter_succ, U15_1.eq_1, S15_1.eq_1]
    simp only [lt_f (show g.length ≤ i by omega), cond_false]
    rw [List.drop_of_length_le (by omega)]
    rfl
  | succ d ih =>
    intro i f m dn hi hf hd
    have hg1 := hg.1
    obtain ⟨f, rfl⟩ := iter_exists (show 0 < f by omega)
    rw [iter_succ, U15_1.eq_1, S15_1.eq_1]
    have hi1 : i < g.length := by omega
    have ht := List.getElem?_eq_getElem hi1
    have hx := hg.2 g[i] (List.getElem_mem hi1)
    have e := L15_2_eq n g g m (i : Int) (g.length : Int) (i : Int) g[i].K g[i].Next g[i].Next dn (by omega) (by rw [hd]; exact hx.2) g[i].Next.length 0 0 n (by omega) (by omega) (by omega)
    have z : ((0 : Nat) : Int) = (0 : Int) := rfl
    rw [z, List.drop_zero, Nat.zero_add] at e
    have hb : 0 ≤ ((i : Nat) : Int) ∧ ((i : Nat) : Int) < (dn.length : Int) := by omega
    have hb2 : dn[i]? = some (bAt dn (i : Int)) := by have := bAt_get hb; rwa [Int.toNat_natCast] at this
    unfold L15_2
    simp only [lt_t hi1, cond_true, ixo_nat ht, Option.bind_some]
    rw [e]
    simp only [Option.bind_some, in_ok hb, cond_true, hb2, w64s i (by omega), bNot, Int.toNat_natCast]
    rw [drop_cons ht]
    simp only [pass]
    cases bAt dn (i : Int) with
    | true =>
      simp only [Bool.not_true, cond_false, Bool.false_and]
      exact ih (i + 1) f m dn (by omega) (by omega) hd
    | false =>
      simp only [Bool.not_false, cond_true, Bool.true_and]
      cases decide (((cnt dn g[i].Next : Nat) : Int) ≥ g[i].K) with
      | true =>
        simp only [cond_true]
        exact ih (i + 1) f true (dn.set i true) (by omega) (by omega) (by simp [hd])
      | false =>
        simp only [cond_false]
        exact ih (i + 1) f m dn (by omega) (by omega) hd
theorem L16_1_eq (n : Nat) (hn : 1000 ≤ n) (g : List S38) (hg : Nice g) : ∀ (d i f : Nat) (m : Bool) (dn : List Bool), i + d = g.length → d < f → dn.length = g.length →
    iter (U16_1 n) f ((g, (m, (i : Int))), dn) = some ((g, (pass (g.drop i) i m dn).1), (pass (g.drop i) i m dn).2) := by
  intro d
  induction d with
  | zero =>
    intro i f m dn hi hf hd
    obtain ⟨f, rfl⟩ := iter_exists (show 0 < f by omega)
    rw [iter_succ, U16_1.eq_1, S16_1.eq_1]
    simp only [lt_f (show g.length ≤ i by omega), cond_false]
    rw [List.drop_of_length_le (by omega)]
    rfl
  | succ d ih =>
    intro i f m dn hi hf hd
    have hg1 := hg.1
    obtain ⟨f, rfl⟩ := iter_exists (show 0 < f by omega)
    rw [iter_succ, U16_1.eq_1, S16_1.eq_1]
    have hi1 : i < g.length := by omega
    have ht := List.getElem?_eq_getElem hi1
    have hx := hg.2 g[i] (List.getElem_mem hi1)
    have e := L16_2_eq n g m i g[i] ht dn (by omega) (by rw [hd]; exact hx.2) g[i].Next.length 0 0 n (by omega) (by omega) (by omega)
    have z : ((0 : Nat) : Int) = (0 : Int) := rfl
    rw [z, List.drop_zero, Nat.zero_add] at e
    have hb : 0 ≤ ((i : Nat) : Int) ∧ ((i : Nat) : Int) < (dn.length : Int) := by omega
    have hb2 : dn[i]? = some (bAt dn (i : Int)) := by have := bAt_get hb; rwa [Int.toNat_natCast] at this
    unfold L16_2
    simp only [lt_t hi1, cond_true]
    rw [e]
    simp only [Option.bind_some, in_ok hb, cond_true, hb2, ixo_nat ht, w64s i (by omega), bNot, Int.toNat_natCast]
    rw [drop_cons ht]
    simp only [pass]
    cases bAt dn (i : Int) with
    | true =>
      simp only [Bool.not_true, cond_false, Bool.false_and]
      exact ih (i + 1) f m dn (by omega) (by omega) hd
    | false =>
      simp only [Bool.not_false, cond_true, Bool.true_and]
      cases decide (((cnt dn g[i].Next : Nat) : Int) ≥ g[i].K) with
      | true =>
        simp only [cond_true]
        exact ih (i + 1) f true (dn.set i true) (by omega) (by omega) (by simp [hd])
      | false =>
        simp only [cond_false]
        exact ih (i + 1) f m dn (by omega) (by omega) hd

/-! ### how often -/
def nf : List Bool → Nat
  | [] => 0
  | b :: l => (bif b then 0 else 1) + nf l
theorem nf_le : ∀ d : List Bool, nf d ≤ d.length := by
  intro d
  induction d with
  | nil => simp [nf]
  | cons b d ih => simp only [nf, List.length_cons]; cases b <;> simp <;> omega
theorem nf_set : ∀ {d : List Bool} {i : Nat}, d[i]? = some false → nf (d.set i true) + 1 = nf d := by
  intro d
  induction d with
  | nil => intro i h; simp at h
  | cons b d ih =>
    intro i h
    cases i with
    | zero => simp at h; subst h; simp [nf]; omega
    | succ i =>
      have := ih (i := i) (by simpa using h)
      simp only [List.set_cons_succ, nf]
      omega
theorem pass_len : ∀ (xs : List S38) (i : Nat) (m : Bool) (d : List Bool), (pass xs i m d).2.length = d.length := by
  intro xs
  induction xs with
  | nil => intro i m d; rfl
  | cons x xs ih =>
    intro i m d
    simp only [pass]
    cases (!(bAt d (i : Int)) && decide ((cnt d x.Next : Int) ≥ x.K)) with
    | true => simp only [cond_true]; rw [ih]; simp
    | false => simp only [cond_false]; exact ih _ _ _
theorem pass_nf : ∀ (xs : List S38) (i : Nat) (m : Bool) (d : List Bool), i + xs.length = d.length → nf (pass xs i m d).2 ≤ nf d ∧ ((pass xs i m d).1 = true → m = true ∨ nf (pass xs i m d).2 < nf d) := by
  intro xs
  induction xs with
  | nil => intro i m d _; exact ⟨Nat.le_refl _, fun h => .inl h⟩
  | cons x xs ih =>
    intro i m d hl
    simp only [List.length_cons] at hl
    simp only [pass]
    cases hc : (!(bAt d (i : Int)) && decide ((cnt d x.Next : Int) ≥ x.K)) with
    | false => simp only [cond_false]; exact ih _ _ _ (by omega)
    | true =>
      simp only [cond_true]
      have hb : bAt d (i : Int) = false := by
        simp only [Bool.and_eq_true, Bool.not_eq_true'] at hc
        exact hc.1
      have hg := bAt_get (d := d) (j := (i : Int)) (by omega)
      rw [hb, Int.toNat_natCast] at hg
      have h1 := nf_set hg
      have h2 := ih (i + 1) true (d.set i true) (by simp; omega)
      exact ⟨by omega, fun _ => .inr (by omega)⟩
def runP (g : List S38) : Nat → List Bool → List Bool
  | 0, d => d
  | f + 1, d => bif (pass g 0 false d).1 then runP g f (pass g 0 false d).2 else (pass g 0 false d).2
theorem runP_len (g : List S38) : ∀ (f : Nat) (d : List Bool), (runP g f d).length = d.length := by
  intro f
  induction f with
  | zero => intro d; rfl
  | succ f ih =>
    intro d
    simp only [runP]
    cases (pass g 0 false d).1 with
    | true => simp only [cond_true]; rw [ih, pass_len]
    | false => simp only [cond_false]; exact pass_len _ _ _ _
theorem L15_0_eq (n : Nat) (hn : 1000 ≤ n) (g : List S38) (hg : Nice g) : ∀ (k f : Nat) (d : List Bool), nf d ≤ k → k + 2 ≤ f → d.length = g.length →
    iter (U15_0 n) f ((g, true), d) = some (runP g (k + 1) d) := by
  intro k
  induction k with
  | zero =>
    intro f d hk hf hd
    obtain ⟨f, rfl⟩ : ∃ q, f = q + 2 := ⟨f - 2, by omega⟩
    have e := L15_1_eq n hn g hg g.length 0 n false d (by omega) (by have := hg.1; omega) hd
    have hp := (pass_nf g 0 false d (by omega)).2
    have z : ((0 : Nat) : Int) = (0 : Int) := rfl
    rw [z, List.drop_zero] at e
    rw [iter_succ, U15_0.eq_1, S15_0.eq_1]
    unfold L15_1
    simp only [cond_true]
    rw [e]
    simp only [Option.bind_some, runP]
    cases h1 : (pass g 0 false d).1 with
    | true =>
      rcases hp h1 with h2 | h2
      · cases h2
      · omega
    | false =>
      rw [iter_succ, U15_0.eq_1, S15_0.eq_1]
      rfl
  | succ k ih =>
    intro f d hk hf hd
    obtain ⟨f, rfl⟩ : ∃ q, f = q + 2 := ⟨f - 2, by omega⟩
    have e := L15_1_eq n hn g hg g.length 0 n false d (by omega) (by have := hg.1; omega) hd
    have hp := (pass_nf g 0 false d (by omega)).2
    have z : ((0 : Nat) : Int) = (0 : Int) := rfl
    rw [z, List.drop_zero] at e
    rw [iter_succ, U15_0.eq_1, S15_0.eq_1]
    unfold L15_1
    simp only [cond_true]
    rw [e]
    simp only [Option.bind_some]
    rw [runP]
    cases h1 : (pass g 0 false d).1 with
    | true =>
      rcases hp h1 with h2 | h2
      · cases h2
      · simp only [cond_true]
        exact ih (f + 1) _ (by omega) (by omega) (by rw [pass_len]; exact hd)
    | false =>
      rw [iter_succ, U15_0.eq_1, S15_0.eq_1]
      rfl
theorem L16_0_eq (n : Nat) (hn : 1000 ≤ n) (g : List S38) (hg : Nice g) : ∀ (k f : Nat) (d : List Bool), nf d ≤ k → k + 2 ≤ f → d.length = g.length →
    iter (U16_0 n) f ((g, true), d) = some (g, runP g (k + 1) d) := by
  intro k
  induction k with
  | zero =>
    intro f d hk hf hd
    obtain ⟨f, rfl⟩ : ∃ q, f = q + 2 := ⟨f - 2, by omega⟩
    have e := L16_1_eq n hn g hg g.length 0 n false d (by omega) (by have := hg.1; omega) hd
    have hp := (pass_nf g 0 false d (by omega)).2
    have z : ((0 : Nat) : Int) = (0 : Int) := rfl
    rw [z, List.drop_zero] at e
    rw [iter_succ, U16_0.eq_1, S16_0.eq_1]
    unfold L16_1
    simp only [cond_true]
    rw [e]
    simp only [Option.bind_some, runP]
    cases h1 : (pass g 0 false d).1 with
    | true =>
      rcases hp h1 with h2 | h2
      · cases h2
      · omega
    | false =>
      rw [iter_succ, U16_0.eq_1, S16_0.eq_1]
      rfl
  | succ k ih =>
    intro f d hk hf hd
    obtain ⟨f, rfl⟩ : ∃ q, f = q + 2 := ⟨f - 2, by omega⟩
    have e := L16_1_eq n hn g hg g.length 0 n false d (by omega) (by have := hg.1; omega) hd
    have hp := (pass_nf g 0 false d (by omega)).2
    have z : ((0 : Nat) : Int) = (0 : Int) := rfl
    rw [z, List.drop_zero] at e
    rw [iter_succ, U16_0.eq_1, S16_0.eq_1]
    unfold L16_1
    simp only [cond_true]
    rw [e]
    simp only [Option.bind_some]
    rw [runP]
    cases h1 : (pass g 0 false d).1 with
    | true =>
      rcases hp h1 with h2 | h2
      · cases h2
      · simp only [cond_true]
        exact ih (f + 1) _ (by omega) (by omega) (by rw [pass_len]; exact hd)
    | false =>
      rw [iter_succ, U16_0.eq_1, S16_0.eq_1]
      rfl

/-! ### lists of nodes -/
def lst (b : Bool) : List Bool → Nat → List Int
  | [], _ => []
  | x :: l, i => bif bEq x b then (i : Int) :: lst b l (i + 1) else lst b l (i + 1)
theorem L30_0_eq (n : Nat) (b : Bool) (l : List Bool) (hl : l.length ≤ 100000) : ∀ (d i f : Nat) (acc : List Int), i + d = l.length → d < f → acc.length ≤ i →
    iter (U30_0 n) f ((b, (l, ((l.length : Int), (i : Int)))), acc) = some (acc ++ lst b (l.drop i) i) := by
  intro d
  induction d with
  | zero =>
    intro i f acc hi hf ha
    obtain ⟨f, rfl⟩ := iter_exists (show 0 < f by omega)
    rw [iter_succ, U30_0.eq_1, S30_0.eq_1]
    simp only [lt_f (show l.length ≤ i by omega), cond_false]
    rw [List.drop_of_length_le (by omega)]
    simp [lst]
  | succ d ih =>
    intro i f acc hi hf ha
    obtain ⟨f, rfl⟩ := iter_exists (show 0 < f by omega)
    rw [iter_succ, U30_0.eq_1, S30_0.eq_1]
    have hi1 : i < l.length := by omega
    have ht := List.getElem?_eq_getElem hi1
    simp only [lt_t hi1, cond_true, ixo_nat ht, Option.bind_some, w64s i (by omega)]
    rw [drop_cons ht]
    simp only [lst]
    cases bEq l[i] b with
    | true =>
      rw [app_small (by simp only [List.length_cons, List.length_nil]; omega)]
      simp only [cond_true]
      rw [ih (i + 1) f _ (by omega) (by omega) (by simp; omega)]
      simp
    | false =>
      simp only [cond_false]
      exact ih (i + 1) f acc (by omega) (by omega) (by omega)
theorem F30_eq (n : Nat) (l : List Bool) (b : Bool) (hl : l.length ≤ 100000) (hn : l.length < n) : F30 n l b = some (lst b l 0) := by
  unfold F30 L30_0
  have e := L30_0_eq n b l hl l.length 0 n [] (by omega) hn (by simp)
  have z : ((0 : Nat) : Int) = (0 : Int) := rfl
  rw [z, List.drop_zero] at e
  rw [e]
  rfl
end Go.Abs.Wg
end
section
set_option linter.all false
set_option linter.unusedVariables false
set_option linter.unusedSimpArgs false
set_option linter.unnecessarySimpa false
/-
  Waitgraph: Stuck, Reach, and the law WaitgraphStuck.
-/
namespace Go.Abs.Wg
open Go Go.Abs Go.G19 Go.Abs.AbsP19

theorem asc_in (len : Nat) : ∀ (l : List Int) (p : Option Int), asc len p l = true → Inn len l := by
  intro l
  induction l with
  | nil => intro p _ j hj; cases hj
  | cons j l ih =>
    intro p h
    simp only [asc, Bool.and_eq_true] at h
    obtain ⟨h1, h2⟩ := h
    cases h3 : decide (j < 0) with
    | true => rw [h3] at h1; cases h1
    | false =>
      cases h4 : decide (j ≥ (len : Int)) with
      | true => rw [h3, h4] at h1; cases h1
      | false =>
        have h5 : ¬ j < 0 := by simpa using h3
        have h6 : ¬ j ≥ (len : Int) := by simpa using h4
        intro q hq
        rcases List.mem_cons.mp hq with rfl | hq
        · omega
        · exact ih _ h2 q hq
theorem valid_nice {g : List S38} (h : valid g = true) : Nice g := by
  simp only [valid, Bool.and_eq_true, decide_eq_true_eq, List.all_eq_true] at h
  refine ⟨h.1, fun x hx => ?_⟩
  have h2 := h.2 x hx
  simp only [okNode, Bool.and_eq_true] at h2
  have h3 := asc_len _ _ _ h2.2 (by simp only [lo]; omega)
  simp only [lo] at h3
  exact ⟨by omega, asc_in _ _ _ h2.2⟩
theorem L16_3_eq (n : Nat) (g : List S38) (l : List Bool) (hg : g.length = l.length) (hl : l.length ≤ 100000) : ∀ (d i f : Nat) (acc : List Int), i + d = l.length → d < f → acc.length ≤ i →
    iter (U16_3 n) f ((g, (i : Int)), (l, acc)) = some (acc ++ lst false (l.drop i) i) := by
  intro d
  induction d with
  | zero =>
    intro i f acc hi hf ha
    obtain ⟨f, rfl⟩ := iter_exists (show 0 < f by omega)
    rw [iter_succ, U16_3.eq_1, S16_3.eq_1]
    simp only [lt_f (show g.length ≤ i by omega), cond_false]
    rw [List.drop_of_length_le (by omega)]
    simp [lst]
  | succ d ih =>
    intro i f acc hi hf ha
    obtain ⟨f, rfl⟩ := iter_exists (show 0 < f by omega)
    rw [iter_succ, U16_3.eq_1, S16_3.eq_1]
    have hi1 : i < l.length := by omega
    have ht := List.getElem?_eq_getElem hi1
    simp only [lt_t (show i < g.length by omega), lt_t hi1, ge0 i, Bool.and_self, Int.toNat_natCast, cond_true, ht, Option.bind_some, w64s i (by omega)]
    rw [drop_cons ht]
    simp only [lst]
    cases l[i] with
    | false =>
      rw [app_small (by simp only [List.length_cons, List.length_nil]; omega)]
      have : bEq false false = true := rfl
      simp only [bNot, Bool.not_false, cond_true, this]
      rw [ih (i + 1) f _ (by omega) (by omega) (by simp; omega)]
      simp
    | true =>
      have : bEq true false = false := rfl
      simp only [bNot, Bool.not_true, cond_false, this]
      exact ih (i + 1) f acc (by omega) (by omega) (by omega)
theorem L18_1_eq (n : Nat) (g : List S38) (l : List Bool) (hg : g.length = l.length) (hl : l.length ≤ 100000) : ∀ (d i f : Nat) (acc : List Int), i + d = l.length → d < f → acc.length ≤ i →
    iter (U18_1 n) f ((g, (i : Int)), (l, acc)) = some (acc ++ lst true (l.drop i) i) := by
  intro d
  induction d with
  | zero =>
    intro i f acc hi hf ha
    obtain ⟨f, rfl⟩ := iter_exists (show 0 < f by omega)
    rw [iter_succ, U18_1.eq_1, S18_1.eq_1]
    simp only [lt_f (show g.length ≤ i by omega), cond_false]
    rw [List.drop_of_length_le (by omega)]
    simp [lst]
  | succ d ih =>
    intro i f acc hi hf ha
    obtain ⟨f, rfl⟩ := iter_exists (show 0 < f by omega)
    rw [iter_succ, U18_1.eq_1, S18_1.eq_1]
    have hi1 : i < l.length := by omega
    have ht := List.getElem?_eq_getElem hi1
    simp only [lt_t (show i < g.length by omega), lt_t hi1, ge0 i, Bool.and_self, Int.toNat_natCast, cond_true, ht, Option.bind_some, w64s i (by omega)]
    rw [drop_cons ht]
    simp only [lst]
    cases l[i] with
    | true =>
      rw [app_small (by simp only [List.length_cons, List.length_nil]; omega)]
      have : bEq true true = true := rfl
      simp only [cond_true, this]
      rw [ih (i + 1) f _ (by omega) (by omega) (by simp; omega)]
      simp
    | false =>
      have : bEq false true = false := rfl
      simp only [cond_false, this]
      exact ih (i + 1) f acc (by omega) (by omega) (by omega)
def stuck (g : List S38) : List Int := bif valid g then lst false (runP g (g.length + 1) (List.replicate g.length false)) 0 else []
def Fits (n : Nat) (g : List S38) : Prop := ∀ x ∈ g, x.Next.length < n ∧ x.Next.length ≤ 1000000
theorem F15_eq (n : Nat) (hn : 1000 ≤ n) (g : List S38) (hx : Fits n g) : F15 n g = some (stuck g) := by
  unfold F15 stuck L15_0
  rw [F12_eq n hn g hx]
  cases hv : valid g with
  | false => rfl
  | true =>
    have hg := valid_nice hv
    have h1 := hg.1
    simp only [Option.bind_some, bNot, Bool.not_true, cond_false, cond_true]
    rw [make_small (by omega)]
    have e := L15_0_eq n hn g hg g.length n (List.replicate g.length false) (by have := nf_le (List.replicate g.length false); simpa using this) (by omega) (by simp)
    simp only [cond_true, Int.toNat_natCast]
    rw [e]
    simp only [Option.bind_some]
    unfold F28
    rw [F30_eq n _ _ (by rw [runP_len]; simp; omega) (by rw [runP_len]; simp; omega)]
    rfl
theorem F16_eq (n : Nat) (hn : 1000 ≤ n) (g : List S38) (hx : Fits n g) : F16 n g = some (stuck g) := by
  unfold F16 stuck L16_0 L16_3
  rw [F13_eq n hn g hx]
  cases hv : valid g with
  | false => rfl
  | true =>
    have hg := valid_nice hv
    have h1 := hg.1
    simp only [Option.bind_some, bNot, Bool.not_true, cond_false, cond_true]
    rw [make_small (by omega)]
    have e := L16_0_eq n hn g hg g.length n (List.replicate g.length false) (by have := nf_le (List.replicate g.length false); simpa using this) (by omega) (by simp)
    simp only [cond_true, Int.toNat_natCast]
    rw [e]
    simp only [Option.bind_some]
    have hl : (runP g (g.length + 1) (List.replicate g.length false)).length = g.length := by rw [runP_len]; simp
    have e2 := L16_3_eq n g _ hl.symm (by omega) g.length 0 n [] (by omega) (by omega) (by simp)
    have z : ((0 : Nat) : Int) = (0 : Int) := rfl
    rw [z, List.drop_zero] at e2
    rw [e2]
    rfl

/-! ### SameInts -/
theorem L14_0_eq (n : Nat) (l : List Int) (hl : l.length ≤ 100000) : ∀ (d i f : Nat), i + d = l.length → d < f → iter (U14_0 n) f (l, (l, (i : Int))) = some (.inl ()) := by
  intro d
  induction d with
  | zero =>
    intro i f hi hf
    obtain ⟨f, rfl⟩ := iter_exists (show 0 < f by omega)
    rw [iter_succ, U14_0.eq_1, S14_0.eq_1]
    simp only [lt_f (show l.length ≤ i by omega), cond_false]
  | succ d ih =>
    intro i f hi hf
    obtain ⟨f, rfl⟩ := iter_exists (show 0 < f by omega)
    rw [iter_succ, U14_0.eq_1, S14_0.eq_1]
    have hi1 : i < l.length := by omega
    have ht := List.getElem?_eq_getElem hi1
    have hne : (l[i] != l[i]) = false := by simp
    simp only [lt_t hi1, cond_true, ixo_nat ht, Option.bind_some, w64s i (by omega), hne, cond_false]
    exact ih (i + 1) f (by omega) (by omega)
theorem F14_eq (n : Nat) (l : List Int) (hl : l.length ≤ 100000) (hn : l.length < n) : F14 n l l = some true := by
  unfold F14 L14_0
  have hne : (((l.length : Nat) : Int) != ((l.length : Nat) : Int)) = false := by simp
  have e := L14_0_eq n l hl l.length 0 n (by omega) hn
  have z : ((0 : Nat) : Int) = (0 : Int) := rfl
  rw [z] at e
  rw [hne]
  simp only [cond_false]
  rw [e]
  rfl
theorem lst_len (b : Bool) : ∀ (l : List Bool) (i : Nat), (lst b l i).length ≤ l.length := by
  intro l
  induction l with
  | nil => intro i; simp [lst]
  | cons x l ih =>
    intro i
    have := ih (i + 1)
    simp only [lst]
    cases bEq x b <;> simp <;> omega
theorem stuck_len (g : List S38) : (stuck g).length ≤ 160 := by
  unfold stuck
  cases hv : valid g with
  | false => simp
  | true =>
    have h1 := (valid_nice hv).1
    simp only [cond_true]
    have := lst_len false (runP g (g.length + 1) (List.replicate g.length false)) 0
    rw [runP_len] at this
    simp at this
    omega

/-! ### Reach -/
def nexts (g : List S38) (j : Int) : List Int := match g[j.toNat]? with | some x => x.Next | none => []
def runS (g : List S38) : Nat → List Bool → List Int → List Bool
  | 0, d, _ => d
  | f + 1, d, st => match st[st.length - 1]? with
    | none => d
    | some j => bif bAt d j then runS g f d (st.take (st.length - 1)) else runS g f (d.set j.toNat true) (st.take (st.length - 1) ++ nexts g j)
def wt : List S38 → List Bool → Nat
  | x :: xs, b :: bs => (bif b then 0 else x.Next.length) + wt xs bs
  | _, _ => 0
theorem wt_set : ∀ {g : List S38} {d : List Bool} {i : Nat} {x : S38}, g[i]? = some x → d[i]? = some false → wt g (d.set i true) + x.Next.length = wt g d := by
  intro g
  induction g with
  | nil => intro d i x h; simp at h
  | cons y g ih =>
    intro d i x hg hd
    cases d with
    | nil => simp at hd
    | cons b d =>
      cases i with
      | zero =>
        simp at hg hd
        subst hg; subst hd
        simp [wt]; omega
      | succ i =>
        have := ih (d := d) (i := i) (by simpa using hg) (by simpa using hd)
        simp only [List.set_cons_succ, wt]
        omega
theorem wt_le : ∀ (g : List S38) (d : List Bool), (∀ x ∈ g, x.Next.length ≤ 160) → wt g d ≤ 160 * g.length := by
  intro g
  induction g with
  | nil => intro d _; simp [wt]
  | cons x g ih =>
    intro d h
    cases d with
    | nil => simp [wt]
    | cons b d =>
      have h1 := ih d fun y hy => h y (List.mem_cons_of_mem _ hy)
      have h2 := h x List.mem_cons_self
      simp only [wt, List.length_cons]
      cases b <;> simp <;> omega
theorem runS_len (g : List S38) : ∀ (f : Nat) (d : List Bool) (st : List Int), (runS g f d st).length = d.length := by
  intro f
  induction f with
  | zero => intro d st; rfl
  | succ f ih =>
    intro d st
    simp only [runS]
    split
    · rfl
    · rename_i j _
      cases bAt d j with
      | true => simp only [cond_true]; exact ih _ _
      | false => simp only [cond_false]; rw [ih]; simp
theorem popLen (st : List Int) (h : 0 < st.length) (hl : st.length ≤ 1000000) : IntKind.wrap .i64 (((st.length : Nat) : Int) - 1) = ((st.length - 1 : Nat) : Int) := by rw [w64 (by omega)]; omega
theorem L31_0_eq (n : Nat) (g : List S38) (hg : Nice g) : ∀ (f : Nat) (d : List Bool) (st : List Int), d.length = g.length → Inn g.length st → wt g d + st.length < f → f ≤ 1000000 →
    iter (U31_0 n) f (g, (d, st)) = some (runS g f d st) := by
  intro f
  induction f with
  | zero => intro d st _ _ h; omega
  | succ f ih =>
    intro d st hd hs hf hb
    rw [iter_succ, U31_0.eq_1, S31_0.eq_1]
    simp only [runS]
    rcases Nat.eq_zero_or_pos st.length with h0 | h0
    · have : st = [] := List.length_eq_zero_iff.mp h0
      subst this
      rfl
    · have hi1 : st.length - 1 < st.length := by omega
      have ht := List.getElem?_eq_getElem hi1
      have hj := hs _ (List.getElem_mem hi1)
      have p1 : decide (((st.length : Nat) : Int) > 0) = true := by simp <;> omega
      have p2 : boundsE st.length none (some ((st.length - 1 : Nat) : Int)) = true := by simp [boundsE] <;> omega
      have hst : (List.take (st.length - 1) st).length = st.length - 1 := by simp
      have hin : Inn g.length (List.take (st.length - 1) st) := fun q hq => hs q (List.mem_of_mem_take hq)
      rw [ht]
      simp only [p1, popLen st h0 (by omega), lt_t hi1, ge0, Bool.and_self, cond_true, Int.toNat_natCast, ht, Option.bind_some, p2, Nat.sub_zero, List.drop_zero]
      generalize st[st.length - 1] = j at hj
      have hj' : 0 ≤ j ∧ j < (d.length : Int) := by omega
      simp only [in_ok hj', cond_true, bAt_get hj', Option.bind_some]
      cases hb2 : bAt d j with
      | true =>
        simp only [bNot, Bool.not_true, cond_false, cond_true]
        exact ih d _ hd hin (by omega) (by omega)
      | false =>
        have hx : j.toNat < g.length := by omega
        have hgx := List.getElem?_eq_getElem hx
        have hnx := hg.2 _ (List.getElem_mem hx)
        have hnj : nexts g j = g[j.toNat].Next := by unfold nexts; rw [hgx]
        have hixo : ixo g j = some g[j.toNat] := by
          have := ixo_nat hgx
          rwa [show ((j.toNat : Nat) : Int) = j by omega] at this
        have hw := wt_set hgx (by rw [bAt_get hj', hb2] : d[j.toNat]? = some false)
        simp only [bNot, Bool.not_false, cond_true, cond_false, hixo, Option.bind_some]
        rw [app_small (by rw [hst]; omega), hnj]
        simp only [cond_true]
        refine ih _ _ (by simp [hd]) (fun q hq => ?_) (by rw [List.length_append, hst]; omega) (by omega)
        rcases List.mem_append.mp hq with hq | hq
        · exact hin q hq
        · exact hnx.2 q hq
theorem L18_0_eq (n : Nat) (g : List S38) (hg : Nice g) : ∀ (f : Nat) (d : List Bool) (st : List Int), d.length = g.length → Inn g.length st → wt g d + st.length < f → f ≤ 1000000 →
    iter (U18_0 n) f (g, (d, st)) = some (g, runS g f d st) := by
  intro f
  induction f with
  | zero => intro d st _ _ h; omega
  | succ f ih =>
    intro d st hd hs hf hb
    rw [iter_succ, U18_0.eq_1, S18_0.eq_1]
    simp only [runS]
    rcases Nat.eq_zero_or_pos st.length with h0 | h0
    · have : st = [] := List.length_eq_zero_iff.mp h0
      subst this
      rfl
    · have hi1 : st.length - 1 < st.length := by omega
      have ht := List.getElem?_eq_getElem hi1
      have hj := hs _ (List.getElem_mem hi1)
      have p1 : decide (((st.length : Nat) : Int) > 0) = true := by simp <;> omega
      have p2 : boundsE st.length none (some ((st.length - 1 : Nat) : Int)) = true := by simp [boundsE] <;> omega
      have hst : (List.take (st.length - 1) st).length = st.length - 1 := by simp
      have hin : Inn g.length (List.take (st.length - 1) st) := fun q hq => hs q (List.mem_of_mem_take hq)
      rw [ht]
      simp only [p1, popLen st h0 (by omega), lt_t hi1, ge0, Bool.and_self, cond_true, Int.toNat_natCast, ht, Option.bind_some, p2, Nat.sub_zero, List.drop_zero]
      generalize st[st.length - 1] = j at hj
      have hj' : 0 ≤ j ∧ j < (d.length : Int) := by omega
      simp only [in_ok hj', cond_true, bAt_get hj', Option.bind_some]
      cases hb2 : bAt d j with
      | true =>
        simp only [bNot, Bool.not_true, cond_false, cond_true]
        exact ih d _ hd hin (by omega) (by omega)
      | false =>
        have hx : j.toNat < g.length := by omega
        have hgx := List.getElem?_eq_getElem hx
        have hnx := hg.2 _ (List.getElem_mem hx)
        have hnj : nexts g j = g[j.toNat].Next := by unfold nexts; rw [hgx]
        have hixo : ixo g j = some g[j.toNat] := by
          have := ixo_nat hgx
          rwa [show ((j.toNat : Nat) : Int) = j by omega] at this
        have hw := wt_set hgx (by rw [bAt_get hj', hb2] : d[j.toNat]? = some false)
        simp only [bNot, Bool.not_false, cond_true, cond_false, hixo, Option.bind_some]
        rw [app_small (by rw [hst]; omega), hnj]
        simp only [cond_true]
        refine ih _ _ (by simp [hd]) (fun q hq => ?_) (by rw [List.length_append, hst]; omega) (by omega)
        rcases List.mem_append.mp hq with hq | hq
        · exact hin q hq
        · exact hnx.2 q hq
def seen (n : Nat) (g : List S38) (i : Int) : List Bool := runS g n (List.replicate g.length false) (nexts g i)
def reach (n : Nat) (g : List S38) (i : Int) : List Int := bif valid g && (decide (0 ≤ i) && decide (i < (g.length : Int))) then lst true (seen n g i) 0 else []
theorem seen_len (n : Nat) (g : List S38) (i : Int) : (seen n g i).length = g.length := by unfold seen; rw [runS_len]; simp
theorem F31_eq (n : Nat) (hn : 30000 ≤ n) (hn2 : n ≤ 1000000) (g : List S38) (hg : Nice g) (i : Nat) (hi : i < g.length) : F31 n g (i : Int) = some (seen n g (i : Int)) := by
  have h1 := hg.1
  have ht := List.getElem?_eq_getElem hi
  have hx := hg.2 _ (List.getElem_mem hi)
  have hnx : nexts g (i : Int) = g[i].Next := by unfold nexts; rw [Int.toNat_natCast, ht]
  unfold F31 L31_0 seen
  rw [make_small (by omega)]
  simp only [cond_true, ixo_nat ht, Option.bind_some]
  unfold F41 F41s
  rw [app_small (by simp only [List.length_nil]; omega), hnx]
  simp only [cond_true, List.nil_append, Option.bind_some, Int.toNat_natCast]
  have hw := wt_le g (List.replicate g.length false) fun x hx => (hg.2 x hx).1
  rw [L31_0_eq n g hg n _ _ (by simp) hx.2 (by omega) hn2]
  rfl
theorem F17_eq (n : Nat) (hn : 30000 ≤ n) (hn2 : n ≤ 1000000) (g : List S38) (hx : Fits n g) (i : Int) : F17 n g i = some (reach n g i) := by
  unfold F17 F29 reach
  rw [F12_eq n (by omega) g hx]
  cases h1 : decide (0 ≤ i) with
  | false =>
    cases valid g <;> rfl
  | true =>
    cases h3 : decide (i < (g.length : Int)) with
    | false => cases valid g <;> rfl
    | true =>
      cases hv : valid g with
      | false => rfl
      | true =>
        have hg := valid_nice hv
        have hg1 := hg.1
        have hi0 : 0 ≤ i := by simpa using h1
        have hi1 : i < (g.length : Int) := by simpa using h3
        obtain ⟨k, rfl⟩ : ∃ k : Nat, i = (k : Int) := ⟨i.toNat, by omega⟩
        simp only [cond_true, Option.bind_some, bNot, Bool.not_true, cond_false, Bool.and_self]
        rw [F31_eq n hn hn2 g hg k (by omega)]
        simp only [Option.bind_some]
        rw [F30_eq n _ _ (by rw [seen_len]; omega) (by rw [seen_len]; omega)]
        rfl
theorem F18_eq (n : Nat) (hn : 30000 ≤ n) (hn2 : n ≤ 1000000) (g : List S38) (hx : Fits n g) (i : Int) : F18 n g i = some (reach n g i) := by
  unfold F18 reach L18_0 L18_1
  rw [F13_eq n (by omega) g hx]
  cases hv : valid g with
  | false => rfl
  | true =>
    have hg := valid_nice hv
    have hg1 := hg.1
    simp only [Option.bind_some, bNot, Bool.not_true, cond_false, Bool.true_and]
    rcases Int.lt_or_le i 0 with hi0 | hi0
    · have h1 : decide (i < 0) = true := by simp; omega
      have h2 : decide (0 ≤ i) = false := by simp; omega
      rw [h1, h2]; rfl
    · have h1 : decide (i < 0) = false := by simp; omega
      have h2 : decide (0 ≤ i) = true := by simp; omega
      rw [h1, h2]
      rcases Int.lt_or_le i (g.length : Int) with hi1 | hi1
      · have h3 : decide (i ≥ (g.length : Int)) = false := by simp; omega
        have h4 : decide (i < (g.length : Int)) = true := by simp; omega
        rw [h3, h4]
        obtain ⟨k, rfl⟩ : ∃ k : Nat, i = (k : Int) := ⟨i.toNat, by omega⟩
        have hk : k < g.length := by omega
        have ht := List.getElem?_eq_getElem hk
        have hxk := hg.2 _ (List.getElem_mem hk)
        have hnx : nexts g (k : Int) = g[k].Next := by unfold nexts; rw [Int.toNat_natCast, ht]
        rw [make_small (by omega)]
        simp only [cond_false, cond_true, ixo_nat ht, Option.bind_some, Bool.and_self]
        rw [app_small (by simp only [List.length_nil]; omega)]
        have hw := wt_le g (List.replicate g.length false) fun x hx => (hg.2 x hx).1
        simp only [cond_true, List.nil_append, Int.toNat_natCast]
        rw [L18_0_eq n g hg n _ _ (by simp) hxk.2 (by omega) hn2]
        simp only [Option.bind_some]
        have hl := seen_len n g (k : Int)
        unfold seen at hl
        rw [hnx] at hl
        have e2 := L18_1_eq n g _ hl.symm (by omega) g.length 0 n [] (by omega) (by omega) (by simp)
        have z : ((0 : Nat) : Int) = (0 : Int) := rfl
        rw [z, List.drop_zero] at e2
        rw [e2]
        unfold seen
        rw [hnx]
        rfl
      · have h3 : decide (i ≥ (g.length : Int)) = true := by simp; omega
        have h4 : decide (i < (g.length : Int)) = false := by simp; omega
        rw [h3, h4]; rfl
theorem reach_len (n : Nat) (g : List S38) (i : Int) : (reach n g i).length ≤ 160 := by
  unfold reach
  cases hv : valid g with
  | false => simp
  | true =>
    have h1 := (valid_nice hv).1
    cases (decide (0 ≤ i) && decide (i < (g.length : Int))) with
    | false => simp
    | true =>
      simp only [Bool.and_self, cond_true]
      have := lst_len true (seen n g i) 0
      rw [seen_len] at this
      omega

theorem awake : F11 100000 () = some true := by kernel_rfl
theorem small_fits {g : List S38} (h : small g = true) : Fits 100000 g := by
  simp only [small, Bool.and_eq_true, decide_eq_true_eq, List.all_eq_true] at h
  intro x hx
  have := h.2 x hx
  omega
theorem law (g : List S38) (i : Int) : F3 100000 g i = some true := by
  unfold F3
  rw [F10_eq 100000 (by omega), awake]
  cases hs : small g with
  | false => rfl
  | true =>
    have hx := small_fits hs
    have hbe : ∀ b : Bool, bEq b b = true := fun b => by cases b <;> rfl
    simp only [Option.bind_some, bNot, Bool.not_true, cond_false, cond_true]
    rw [F12_eq _ (by omega) g hx, F13_eq _ (by omega) g hx, F15_eq _ (by omega) g hx, F16_eq _ (by omega) g hx, F17_eq _ (by omega) (by omega) g hx, F18_eq _ (by omega) (by omega) g hx]
    simp only [Option.bind_some, hbe, cond_true]
    rw [F14_eq _ _ (by have := stuck_len g; omega) (by have := stuck_len g; omega)]
    simp only [Option.bind_some, cond_true]
    rw [F14_eq _ _ (by have := reach_len 100000 g i; omega) (by have := reach_len 100000 g i; omega)]
    rfl
end Go.Abs.Wg
end
