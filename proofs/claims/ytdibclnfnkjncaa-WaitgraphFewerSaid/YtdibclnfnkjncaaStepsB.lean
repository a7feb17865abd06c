/- The functions, told by lists: distances, cycles and knots. -/
import Derived.Test.YtdibclnfnkjncaaSteps
section
set_option linter.all false
set_option linter.unusedVariables false
set_option linter.unusedSimpArgs false
set_option linter.unnecessarySimpa false
/-
  Waitgraph: distances.
-/
namespace Go.Abs.Wg
open Go Go.Abs Go.G19 Go.Abs.AbsP19

def iAt (d : List Int) (j : Int) : Int := match d[j.toNat]? with | some b => b | none => 0
theorem iAt_get {d : List Int} {j : Int} (h : 0 ≤ j ∧ j < (d.length : Int)) : d[j.toNat]? = some (iAt d j) := by
  unfold iAt
  have h1 : j.toNat < d.length := by omega
  rw [List.getElem?_eq_getElem h1]
theorem iAt_ixo {d : List Int} {j : Int} (h : 0 ≤ j ∧ j < (d.length : Int)) : ixo d j = some (iAt d j) := by
  have := ixo_nat (by rw [iAt_get h] : d[j.toNat]? = some (iAt d j))
  rwa [show ((j.toNat : Nat) : Int) = j by omega] at this
/-- Is n one step nearer? -/
def rel (to : Int) (s : Nat) (d : List Int) (n : Int) : Bool := bif s == 1 then n == to else iAt d n == (s : Int) - 1
def lay1 (to : Int) (s : Nat) (R : List Int) : List S38 → List Int → List Int
  | x :: xs, r :: l => (bif (r == 0) && x.Next.any (rel to s R) then (s : Int) else r) :: lay1 to s R xs l
  | _, _ => []
/-- The next layer. -/
def lay (g : List S38) (to : Int) (s : Nat) (R : List Int) : List Int := lay1 to s R g R
theorem lay1_len (to : Int) (s : Nat) (R : List Int) : ∀ (xs : List S38) (l : List Int), xs.length = l.length → (lay1 to s R xs l).length = l.length := by
  intro xs
  induction xs with
  | nil => intro l h; cases l with | nil => rfl | cons => simp at h
  | cons x xs ih =>
    intro l h
    cases l with
    | nil => simp at h
    | cons r l => simp only [lay1, List.length_cons]; rw [ih l (by simpa using h)]
theorem lay1_get (to : Int) (s : Nat) (R : List Int) : ∀ (xs : List S38) (l : List Int) (i : Nat) (x : S38) (r : Int), xs[i]? = some x → l[i]? = some r →
    (lay1 to s R xs l)[i]? = some (bif (r == 0) && x.Next.any (rel to s R) then (s : Int) else r) := by
  intro xs
  induction xs with
  | nil => intro l i x r h; simp at h
  | cons y xs ih =>
    intro l i x r hx hl
    cases l with
    | nil => simp at hl
    | cons q l =>
      cases i with
      | zero => simp at hx hl; subst hx; subst hl; rfl
      | succ i => simp only [lay1, List.getElem?_cons_succ]; exact ih l i x r (by simpa using hx) (by simpa using hl)
theorem lay_len {g : List S38} {to : Int} {s : Nat} {R : List Int} (h : R.length = g.length) : (lay g to s R).length = g.length := by
  unfold lay; rw [lay1_len _ _ _ _ _ h.symm, h]
/-- Half of the layer is done. -/
def half (A B : List Int) (i : Nat) : List Int := A.take i ++ B.drop i
theorem half_len {A B : List Int} {i : Nat} (h : A.length = B.length) (hi : i ≤ B.length) : (half A B i).length = B.length := by simp [half]; omega
theorem half_get {A B : List Int} {i j : Nat} (h : A.length = B.length) (hi : i ≤ B.length) : (half A B i)[j]? = if j < i then A[j]? else B[j]? := by
  unfold half
  by_cases hj : j < i
  · rw [if_pos hj, List.getElem?_append_left (by simp; omega), List.getElem?_take]; simp [hj]
  · rw [if_neg hj, List.getElem?_append_right (by simp; omega), List.getElem?_drop]
    congr 1
    simp; omega
theorem half_set {A B : List Int} {i : Nat} {a : Int} (h : A.length = B.length) (hi : i < B.length) (ha : A[i]? = some a) : (half A B i).set i a = half A B (i + 1) := by
  apply List.ext_getElem?
  intro j
  rw [List.getElem?_set, half_get h (by omega), half_get h (by omega), half_len h (by omega)]
  by_cases hj : i = j
  · subst hj; rw [if_pos rfl, if_pos hi, if_pos (by omega), ha]
  · rw [if_neg hj]
    by_cases h1 : j < i
    · rw [if_pos h1, if_pos (by omega)]
    · rw [if_neg h1, if_neg (by omega)]
theorem half_keep {A B : List Int} {i : Nat} (h : A.length = B.length) (hi : i < B.length) (ha : A[i]? = B[i]?) : half A B i = half A B (i + 1) := by
  apply List.ext_getElem?
  intro j
  rw [half_get h (by omega), half_get h (by omega)]
  by_cases hj : j = i
  · subst hj; rw [if_neg (by omega), if_pos (by omega), ha]
  · by_cases h1 : j < i
    · rw [if_pos h1, if_pos (by omega)]
    · rw [if_neg h1, if_neg (by omega)]
theorem half_all {A B : List Int} (h : A.length = B.length) : half A B B.length = A := by
  unfold half; rw [← h, List.take_length, h, List.drop_length, List.append_nil]

/-! ### the reference's -/
theorem rel_half {g : List S38} {to : Int} {s : Nat} {R : List Int} (hR : R.length = g.length) (hs : 1 ≤ s) (i : Nat) (hi : i ≤ g.length) (n : Int) (hn : 0 ≤ n ∧ n < (g.length : Int)) :
    rel to s (half (lay g to s R) R i) n = rel to s R n := by
  unfold rel
  by_cases h1 : s = 1
  · subst h1; rfl
  · have hsb : (s == 1) = false := by simp [h1]
    rw [hsb]
    simp only [cond_false]
    have hl := lay_len (to := to) (s := s) hR
    have e : (half (lay g to s R) R i)[n.toNat]? = if n.toNat < i then (lay g to s R)[n.toNat]? else R[n.toNat]? := half_get (by omega) (by omega)
    unfold iAt
    rw [e]
    by_cases h2 : n.toNat < i
    · rw [if_pos h2]
      have hg := List.getElem?_eq_getElem (show n.toNat < g.length by omega)
      have hr := List.getElem?_eq_getElem (show n.toNat < R.length by omega)
      have := lay1_get to s R g R n.toNat _ _ hg hr
      unfold lay
      rw [this, hr]
      simp only
      cases hz : (R[n.toNat] == 0) with
      | false => rfl
      | true =>
        have hz : R[n.toNat] = 0 := by simpa using hz
        rw [hz]
        cases g[n.toNat].Next.any (rel to s R) with
        | false => rfl
        | true =>
          have a1 : ((s : Int) == (s : Int) - 1) = false := by simp; omega
          have a2 : ((0 : Int) == (s : Int) - 1) = false := by simp; omega
          simp only [Bool.and_self, cond_true, a1, a2]
    · rw [if_neg h2]
theorem L35_2_eq (n : Nat) (g : List S38) (to : Int) (s : Nat) (hs : 1 ≤ s) (hs2 : s ≤ 1000) (a : Nat) (x : S38) (hx : g[a]? = some x) (d : List Int) (hd : d.length = g.length) (hin : Inn g.length x.Next) (hl : x.Next.length ≤ 100000) :
    ∀ (q i f : Nat), i + q = x.Next.length → q + 1 < f → iAt d (a : Int) = 0 →
    iter (U35_2 n) f ((g, (to, ((s : Int), ((a : Int), (i : Int))))), d) = some ((g, (to, ((s : Int), (a : Int)))), bif (x.Next.drop i).any (rel to s d) then d.set a (s : Int) else d) := by
  have ha := get_lt hx
  have hai : 0 ≤ ((a : Nat) : Int) ∧ ((a : Nat) : Int) < (d.length : Int) := by omega
  have hda : d[a]? = some (iAt d (a : Int)) := by have := iAt_get hai; rwa [Int.toNat_natCast] at this
  intro q
  induction q with
  | zero =>
    intro i f hi hf hz
    obtain ⟨f, rfl⟩ := iter_exists (show 0 < f by omega)
    rw [iter_succ, U35_2.eq_1, S35_2.eq_1]
    simp only [ixo_nat hx, Option.bind_some, lt_f (show x.Next.length ≤ i by omega), cond_false]
    rw [List.drop_of_length_le (by omega)]
    rfl
  | succ q ih =>
    intro i f hi hf hz
    obtain ⟨f, rfl⟩ := iter_exists (show 0 < f by omega)
    rw [iter_succ, U35_2.eq_1, S35_2.eq_1]
    have hi1 : i < x.Next.length := by omega
    have ht := List.getElem?_eq_getElem hi1
    have hj := hin _ (List.getElem_mem hi1)
    have hj' : 0 ≤ x.Next[i] ∧ x.Next[i] < (d.length : Int) := by omega
    have hz0 : ((0 : Int) == 0) = true := rfl
    have w : IntKind.wrap .i64 ((s : Int) - 1) = (s : Int) - 1 := w64 (by omega)
    simp only [ixo_nat hx, Option.bind_some, lt_t hi1, cond_true, in_ok hai, Int.toNat_natCast, hda, hz, hz0, ixo_nat ht, w64s i (by omega), in_ok hj', iAt_get hj', w]
    rw [drop_cons ht, List.any_cons]
    -- where the node is set, the loop ends at once
    have done : ∀ f, 0 < f → iter (U35_2 n) f ((g, (to, ((s : Int), ((a : Int), ((i + 1 : Nat) : Int))))), d.set a (s : Int)) = some ((g, (to, ((s : Int), (a : Int)))), d.set a (s : Int)) := by
      intro f hf
      obtain ⟨f, rfl⟩ := iter_exists hf
      rw [iter_succ, U35_2.eq_1, S35_2.eq_1]
      have h1 : 0 ≤ ((a : Nat) : Int) ∧ ((a : Nat) : Int) < ((d.set a (s : Int)).length : Int) := by simp; omega
      have h2 : (d.set a (s : Int))[a]? = some (s : Int) := by rw [List.getElem?_set]; simp; omega
      have h3 : ((s : Int) == 0) = false := by simp; omega
      simp only [ixo_nat hx, Option.bind_some, in_ok h1, cond_true, Int.toNat_natCast, h2, h3, cond_false]
      cases decide (((i + 1 : Nat) : Int) < ((x.Next.length : Nat) : Int)) <;> rfl
    by_cases h1 : s = 1
    · subst h1
      have e1 : (((1 : Nat) : Int) == 1) = true := rfl
      have e2 : decide (((1 : Nat) : Int) > 1) = false := rfl
      have e3 : rel to 1 d x.Next[i] = (x.Next[i] == to) := rfl
      rw [e3]
      simp only [e1, e2, cond_true, cond_false]
      cases hto : (x.Next[i] == to) with
      | true => simp only [cond_true, Bool.true_or]; exact done f (by omega)
      | false => simp only [cond_false, Bool.false_or]; exact ih (i + 1) f (by omega) (by omega) hz
    · have e1 : ((s : Int) == 1) = false := by simp; omega
      have e2 : decide ((s : Int) > 1) = true := by simp; omega
      have e3 : rel to s d x.Next[i] = (iAt d x.Next[i] == (s : Int) - 1) := by
        have h2 : (s == 1) = false := by simp [h1]
        simp only [rel, h2, cond_false]
      rw [e3]
      simp only [e1, e2, cond_true, cond_false]
      cases hto : (iAt d x.Next[i] == (s : Int) - 1) with
      | true => simp only [cond_true, Bool.true_or]; exact done f (by omega)
      | false => simp only [cond_false, Bool.false_or]; exact ih (i + 1) f (by omega) (by omega) hz
/-- Where the node is told already. -/
theorem L35_2_past (n : Nat) (g : List S38) (to : Int) (s : Nat) (a : Nat) (x : S38) (hx : g[a]? = some x) (d : List Int) (hd : d.length = g.length) (i f : Nat) (hf : 0 < f) (hz : iAt d (a : Int) ≠ 0) :
    iter (U35_2 n) f ((g, (to, ((s : Int), ((a : Int), (i : Int))))), d) = some ((g, (to, ((s : Int), (a : Int)))), d) := by
  have ha := get_lt hx
  have hai : 0 ≤ ((a : Nat) : Int) ∧ ((a : Nat) : Int) < (d.length : Int) := by omega
  have hda : d[a]? = some (iAt d (a : Int)) := by have := iAt_get hai; rwa [Int.toNat_natCast] at this
  obtain ⟨f, rfl⟩ := iter_exists hf
  rw [iter_succ, U35_2.eq_1, S35_2.eq_1]
  have h3 : (iAt d (a : Int) == 0) = false := by simp [hz]
  simp only [ixo_nat hx, Option.bind_some, in_ok hai, cond_true, Int.toNat_natCast, hda, h3, cond_false]
  cases decide ((i : Int) < ((x.Next.length : Nat) : Int)) <;> rfl
theorem any_congr {α : Type} {l : List α} {p q : α → Bool} (h : ∀ x ∈ l, p x = q x) : l.any p = l.any q := by
  induction l with
  | nil => rfl
  | cons a l ih => rw [List.any_cons, List.any_cons, h a List.mem_cons_self, ih fun x hx => h x (List.mem_cons_of_mem _ hx)]
theorem L35_1_eq (n : Nat) (hn : 1000 ≤ n) (g : List S38) (hg : Nice g) (to : Int) (s : Nat) (hs : 1 ≤ s) (hs2 : s ≤ 1000) (R : List Int) (hR : R.length = g.length) :
    ∀ (q i f : Nat), i + q = g.length → q < f →
    iter (U35_1 n) f ((g, (to, ((s : Int), (i : Int)))), half (lay g to s R) R i) = some ((g, (to, (s : Int))), lay g to s R) := by
  have hl := lay_len (to := to) (s := s) hR
  intro q
  induction q with
  | zero =>
    intro i f hi hf
    obtain ⟨f, rfl⟩ := iter_exists (show 0 < f by omega)
    rw [iter_succ, U35_1.eq_1, S35_1.eq_1]
    simp only [lt_f (show g.length ≤ i by omega), cond_false]
    have : i = R.length := by omega
    subst this
    rw [half_all (by omega)]
  | succ q ih =>
    intro i f hi hf
    obtain ⟨f, rfl⟩ := iter_exists (show 0 < f by omega)
    rw [iter_succ, U35_1.eq_1, S35_1.eq_1]
    have hg1 := hg.1
    have hi1 : i < g.length := by omega
    have ht := List.getElem?_eq_getElem hi1
    have hx := hg.2 _ (List.getElem_mem hi1)
    have hr := List.getElem?_eq_getElem (show i < R.length by omega)
    have hlg : (lay g to s R)[i]? = _ := lay1_get to s R g R i _ _ ht hr
    have hhl : (half (lay g to s R) R i).length = g.length := by rw [half_len (by omega) (by omega)]; exact hR
    have hat : iAt (half (lay g to s R) R i) (i : Int) = R[i] := by
      unfold iAt
      rw [Int.toNat_natCast, half_get (by omega) (by omega), if_neg (by omega), hr]
    have hany : g[i].Next.any (rel to s (half (lay g to s R) R i)) = g[i].Next.any (rel to s R) := any_congr fun y hy => rel_half hR hs i (by omega) y (hx.2 y hy)
    unfold L35_2
    simp only [lt_t hi1, cond_true]
    by_cases hz : R[i] = 0
    · have e := L35_2_eq n g to s hs hs2 i g[i] ht _ hhl hx.2 (by omega) g[i].Next.length 0 n (by omega) (by omega) (by rw [hat]; exact hz)
      have z : ((0 : Nat) : Int) = (0 : Int) := rfl
      rw [z, List.drop_zero, hany] at e
      rw [e]
      simp only [Option.bind_some, w64s i (by omega)]
      have hz0 : (R[i] == 0) = true := by simp [hz]
      rw [hz0] at hlg
      cases ha : g[i].Next.any (rel to s R) with
      | true =>
        rw [ha] at hlg
        simp only [cond_true, Bool.and_self] at hlg ⊢
        rw [half_set (by omega) (by omega) hlg]
        exact ih (i + 1) f (by omega) (by omega)
      | false =>
        rw [ha] at hlg
        simp only [cond_false, Bool.and_false] at hlg ⊢
        rw [half_keep (by omega) (by omega) (by rw [hlg, hr])]
        exact ih (i + 1) f (by omega) (by omega)
    · have e := L35_2_past n g to s i g[i] ht _ hhl 0 n (by omega) (by rw [hat]; exact hz)
      have z : ((0 : Nat) : Int) = (0 : Int) := rfl
      rw [z] at e
      rw [e]
      simp only [Option.bind_some, w64s i (by omega)]
      have hz0 : (R[i] == 0) = false := by simp [hz]
      rw [hz0] at hlg
      simp only [Bool.false_and, cond_false] at hlg
      rw [half_keep (by omega) (by omega) (by rw [hlg, hr])]
      exact ih (i + 1) f (by omega) (by omega)
/-- The layers, one after the other. -/
def Rk (g : List S38) (to : Int) : Nat → List Int
  | 0 => List.replicate g.length 0
  | s + 1 => lay g to (s + 1) (Rk g to s)
theorem Rk_len (g : List S38) (to : Int) : ∀ s, (Rk g to s).length = g.length := by
  intro s
  induction s with
  | zero => simp [Rk]
  | succ s ih => exact lay_len ih
theorem L35_0_eq (n : Nat) (hn : 1000 ≤ n) (g : List S38) (hg : Nice g) (to : Int) : ∀ (q s f : Nat), s + q = g.length → q + 1 < f →
    iter (U35_0 n) f ((g, (to, ((s + 1 : Nat) : Int))), Rk g to s) = some (Rk g to g.length) := by
  intro q
  induction q with
  | zero =>
    intro s f hi hf
    obtain ⟨f, rfl⟩ := iter_exists (show 0 < f by omega)
    rw [iter_succ, U35_0.eq_1, S35_0.eq_1]
    have h1 : decide (((s + 1 : Nat) : Int) ≤ ((g.length : Nat) : Int)) = false := by simp; omega
    simp only [h1, cond_false]
    have : s = g.length := by omega
    rw [this]
  | succ q ih =>
    intro s f hi hf
    obtain ⟨f, rfl⟩ := iter_exists (show 0 < f by omega)
    rw [iter_succ, U35_0.eq_1, S35_0.eq_1]
    have hg1 := hg.1
    have h1 : decide (((s + 1 : Nat) : Int) ≤ ((g.length : Nat) : Int)) = true := by simp; omega
    have e := L35_1_eq n hn g hg to (s + 1) (by omega) (by omega) (Rk g to s) (Rk_len g to s) g.length 0 n (by omega) (by omega)
    have z : ((0 : Nat) : Int) = (0 : Int) := rfl
    have hh : half (lay g to (s + 1) (Rk g to s)) (Rk g to s) 0 = Rk g to s := by simp [half]
    rw [z, hh] at e
    unfold L35_1
    simp only [h1, cond_true]
    rw [e]
    simp only [Option.bind_some, w64s (s + 1) (by omega)]
    exact ih (s + 1) f (by omega) (by omega)
def dist (g : List S38) (to : Int) : List Int := Rk g to g.length
theorem F35_eq (n : Nat) (hn : 1000 ≤ n) (g : List S38) (hg : Nice g) (to : Int) : F35 n g to = some (dist g to) := by
  have hg1 := hg.1
  unfold F35 L35_0 dist
  rw [make_small (by omega)]
  have e := L35_0_eq n hn g hg to g.length 0 n (by omega) (by omega)
  have z : ((0 + 1 : Nat) : Int) = (1 : Int) := rfl
  rw [z] at e
  simp only [cond_true, Int.toNat_natCast]
  have : Rk g to 0 = List.replicate g.length 0 := rfl
  rw [this] at e
  rw [e]
  rfl
end Go.Abs.Wg
end
section
set_option linter.all false
set_option linter.unusedVariables false
set_option linter.unusedSimpArgs false
set_option linter.unnecessarySimpa false
/-
  Waitgraph: the program's distances.
-/
namespace Go.Abs.Wg
open Go Go.Abs Go.G19 Go.Abs.AbsP19

/-! ### Contains -/
def fi (v : Int) : List Int → Nat → Unit ⊕ Int
  | [], _ => .inl ()
  | y :: l, i => bif v == y then .inr (i : Int) else fi v l (i + 1)
theorem L44_0_eq (n : Nat) (v : Int) (l : List Int) (hl : l.length ≤ 100000) : ∀ (d i f : Nat), i + d = l.length → d < f → iter (U44_0 n) f (l, (v, ((l.length : Int), (i : Int)))) = some (fi v (l.drop i) i) := by
  intro d
  induction d with
  | zero =>
    intro i f hi hf
    obtain ⟨f, rfl⟩ := iter_exists (show 0 < f by omega)
    rw [iter_succ, U44_0.eq_1, S44_0.eq_1]
    simp only [lt_f (show l.length ≤ i by omega), cond_false]
    rw [List.drop_of_length_le (by omega)]
    rfl
  | succ d ih =>
    intro i f hi hf
    obtain ⟨f, rfl⟩ := iter_exists (show 0 < f by omega)
    rw [iter_succ, U44_0.eq_1, S44_0.eq_1]
    have hi1 : i < l.length := by omega
    have ht := List.getElem?_eq_getElem hi1
    simp only [lt_t hi1, cond_true, ixo_nat ht, Option.bind_some, w64s i (by omega)]
    rw [drop_cons ht]
    simp only [fi]
    cases v == l[i] with
    | true => rfl
    | false => simp only [cond_false]; exact ih (i + 1) f (by omega) (by omega)
theorem fi_any (v : Int) : ∀ (l : List Int) (i : Nat), decide (Sum.elim (fun _ => (-1 : Int)) (fun k => k) (fi v l i) ≥ 0) = l.any fun y => v == y := by
  intro l
  induction l with
  | nil => intro i; rfl
  | cons y l ih =>
    intro i
    rcases Bool.eq_false_or_eq_true (v == y) with hb | hb
    · simp [fi, List.any_cons, hb]
    · simp only [fi, List.any_cons, hb, cond_false, Bool.false_or]; exact ih (i + 1)
theorem F43_eq (n : Nat) (v : Int) (l : List Int) (hl : l.length ≤ 100000) (hn : l.length < n) : F43 n l v = some (l.any fun y => v == y) := by
  unfold F43 F44 L44_0
  have e := L44_0_eq n v l hl l.length 0 n (by omega) hn
  have z : ((0 : Nat) : Int) = (0 : Int) := rfl
  rw [z, List.drop_zero] at e
  rw [e]
  simp only [Option.bind_some]
  rw [← fi_any v l 0]
  cases fi v l 0 <;> rfl
def has (last : List Int) (v : Int) : Bool := last.any fun y => v == y
theorem F42_eq (n : Nat) (v : Int) (l : List Int) (hl : l.length ≤ 100000) (hn : l.length < n) : F42 n v l = some (has l v, l) := by
  unfold F42
  rw [F43_eq n v l hl hn]
  rfl
def fj (last : List Int) : List Int → Nat → List Int ⊕ (Int × List Int)
  | [], _ => .inl last
  | y :: l, i => bif has last y then .inr ((i : Int), last) else fj last l (i + 1)
theorem L33_0_eq (n : Nat) (last l : List Int) (hl : l.length ≤ 100000) (hk : last.length ≤ 100000) (hn : last.length < n) : ∀ (d i f : Nat), i + d = l.length → d < f → iter (U33_0 n) f ((l, ((l.length : Int), (i : Int))), last) = some (fj last (l.drop i) i) := by
  intro d
  induction d with
  | zero =>
    intro i f hi hf
    obtain ⟨f, rfl⟩ := iter_exists (show 0 < f by omega)
    rw [iter_succ, U33_0.eq_1, S33_0.eq_1]
    simp only [lt_f (show l.length ≤ i by omega), cond_false]
    rw [List.drop_of_length_le (by omega)]
    rfl
  | succ d ih =>
    intro i f hi hf
    obtain ⟨f, rfl⟩ := iter_exists (show 0 < f by omega)
    rw [iter_succ, U33_0.eq_1, S33_0.eq_1]
    have hi1 : i < l.length := by omega
    have ht := List.getElem?_eq_getElem hi1
    simp only [lt_t hi1, cond_true, ixo_nat ht, Option.bind_some, w64s i (by omega)]
    rw [F42_eq n _ last hk hn, drop_cons ht]
    simp only [fj, Option.bind_some]
    cases has last l[i] with
    | true => rfl
    | false => simp only [cond_false]; exact ih (i + 1) f (by omega) (by omega)
theorem fj_any (last : List Int) : ∀ (l : List Int) (i : Nat), Sum.elim (fun y => ((-1 : Int), y)) (fun k => k) (fj last l i) = (Sum.elim (fun _ => (-1 : Int)) (fun k => k.1) (fj last l i), last) ∧
    decide (Sum.elim (fun _ => (-1 : Int)) (fun k => k.1) (fj last l i) ≥ 0) = l.any (has last) := by
  intro l
  induction l with
  | nil => intro i; exact ⟨rfl, rfl⟩
  | cons y l ih =>
    intro i
    rcases Bool.eq_false_or_eq_true (has last y) with hb | hb
    · simp [fj, List.any_cons, hb]
    · simp only [fj, List.any_cons, hb, cond_false, Bool.false_or]; exact ih (i + 1)
theorem F38_eq (n : Nat) (last l : List Int) (hl : l.length ≤ 100000) (hk : last.length ≤ 100000) (hn : last.length < n) (hn2 : l.length < n) : F38 n l last = some (l.any (has last), last) := by
  unfold F38 F33 L33_0
  have e := L33_0_eq n last l hl hk hn l.length 0 n (by omega) hn2
  have z : ((0 : Nat) : Int) = (0 : Int) := rfl
  rw [z, List.drop_zero] at e
  rw [e]
  have h := fj_any last l 0
  simp only [Option.bind_some]
  cases hf : fj last l 0 with
  | inl y =>
    rw [hf] at h
    have h1 : y = last := congrArg Prod.snd h.1
    have h2 := h.2
    exact congrArg some (Prod.ext h2 h1)
  | inr y =>
    rw [hf] at h
    have h1 : y.2 = last := congrArg Prod.snd h.1
    have h2 := h.2
    exact congrArg some (Prod.ext h2 h1)

/-! ### layers, told by the nodes that are new -/
def cv (r : Int) : Int := bif r == 0 then -1 else r
def idx (v : Int) : List Int → Nat → List Int
  | [], _ => []
  | r :: l, i => bif r == v then (i : Int) :: idx v l (i + 1) else idx v l (i + 1)
theorem idx_len (v : Int) : ∀ (l : List Int) (i : Nat), (idx v l i).length ≤ l.length := by
  intro l
  induction l with
  | nil => intro i; simp [idx]
  | cons x l ih =>
    intro i
    have := ih (i + 1)
    simp only [idx]
    cases x == v <;> simp <;> omega
theorem has_idx (v : Int) : ∀ (l : List Int) (i : Nat) (n : Nat), has (idx v l i) ((i + n : Nat) : Int) = (match l[n]? with | some r => r == v | none => false) := by
  intro l
  induction l with
  | nil => intro i n; rfl
  | cons x l ih =>
    intro i n
    have below : ∀ (l : List Int) (j : Nat), i < j → has (idx v l j) (i : Int) = false := by
      intro l
      induction l with
      | nil => intro j _; rfl
      | cons y l ih2 =>
        intro j hj
        simp only [idx]
        cases y == v with
        | true =>
          simp only [cond_true, has, List.any_cons]
          have : ((i : Int) == (j : Int)) = false := by simp; omega
          rw [this, Bool.false_or]
          exact ih2 (j + 1) (by omega)
        | false => simp only [cond_false]; exact ih2 (j + 1) (by omega)
    cases n with
    | zero =>
      simp only [idx, Nat.add_zero, List.getElem?_cons_zero]
      cases hx : x == v with
      | true => simp [has]
      | false => simp only [cond_false]; exact below l (i + 1) (by omega)
    | succ n =>
      have e : (i + (n + 1) : Nat) = (i + 1) + n := by omega
      have ih' := ih (i + 1) n
      simp only [idx, List.getElem?_cons_succ]
      cases x == v with
      | true =>
        simp only [cond_true, has, List.any_cons]
        have : (((i + (n + 1) : Nat) : Int) == (i : Int)) = false := by simp; omega
        rw [this, Bool.false_or]
        rw [e]
        exact ih'
      | false =>
        simp only [cond_false]
        rw [e]
        exact ih'
/-- Values of a layer. -/
def Low (s : Nat) (R : List Int) : Prop := ∀ (i : Nat) (r : Int), R[i]? = some r → 0 ≤ r ∧ r ≤ (s : Int)
theorem Rk_low (g : List S38) (to : Int) : ∀ s, Low s (Rk g to s) := by
  intro s
  induction s with
  | zero =>
    intro i r h
    simp only [Rk] at h
    rw [List.getElem?_replicate] at h
    split at h
    · cases h; omega
    · cases h
  | succ s ih =>
    intro i r h
    have hi := get_lt h
    rw [Rk_len] at hi
    have ht := List.getElem?_eq_getElem hi
    have hil : i < (Rk g to s).length := by rw [Rk_len]; exact hi
    have hr := List.getElem?_eq_getElem hil
    have := lay1_get to (s + 1) (Rk g to s) g (Rk g to s) i _ _ ht hr
    have h' : (lay1 to (s + 1) (Rk g to s) g (Rk g to s))[i]? = some r := h
    rw [this] at h'
    have hlow := ih i _ hr
    have h'' := Option.some.inj h'
    revert h''
    generalize (Rk g to s)[i] = q at hlow
    cases (q == 0) && g[i].Next.any (rel to (s + 1) (Rk g to s)) with
    | true => intro h''; simp only [cond_true] at h''; omega
    | false => intro h''; simp only [cond_false] at h''; omega
theorem cv_neg {r : Int} (h : 0 ≤ r) : decide (cv r < 0) = (r == 0) := by
  unfold cv
  cases hr : r == 0 with
  | true => rfl
  | false =>
    have : r ≠ 0 := by simpa using hr
    simp; omega
theorem L32_2_eq (n : Nat) (hn : 1000 ≤ n) (g : List S38) (hg : Nice g) (to : Int) (s : Nat) (hs : 1 ≤ s) (R : List Int) (hR : R.length = g.length) (hlow : Low (s - 1) R) (last : List Int) (hk : last.length ≤ 160)
    (hlast : ∀ m : Int, 0 ≤ m ∧ m < (g.length : Int) → has last m = rel to s R m) : ∀ (q i f : Nat) (acc : List Int), i + q = g.length → q < f → acc.length ≤ i →
    iter (U32_2 n) f ((g, ((s : Int), (g, ((g.length : Int), (i : Int))))), (last, (half ((lay g to s R).map cv) (R.map cv) i, acc))) = some ((g, (s : Int)), (last, ((lay g to s R).map cv, acc ++ idx (s : Int) ((lay g to s R).drop i) i))) := by
  have hl := lay_len (to := to) (s := s) hR
  intro q
  induction q with
  | zero =>
    intro i f acc hi hf ha
    obtain ⟨f, rfl⟩ := iter_exists (show 0 < f by omega)
    rw [iter_succ, U32_2.eq_1, S32_2.eq_1]
    simp only [lt_f (show g.length ≤ i by omega), cond_false]
    have e : i = (R.map cv).length := by simp; omega
    have e2 : half ((lay g to s R).map cv) (R.map cv) i = (lay g to s R).map cv := by rw [e, half_all (by simp; omega)]
    rw [e2, List.drop_of_length_le (by omega)]
    simp [idx]
  | succ q ih =>
    intro i f acc hi hf ha
    have hg1 := hg.1
    obtain ⟨f, rfl⟩ := iter_exists (show 0 < f by omega)
    rw [iter_succ, U32_2.eq_1, S32_2.eq_1]
    have hi1 : i < g.length := by omega
    have ht := List.getElem?_eq_getElem hi1
    have hx := hg.2 _ (List.getElem_mem hi1)
    have hr := List.getElem?_eq_getElem (show i < R.length by omega)
    have hlg : (lay g to s R)[i]? = _ := lay1_get to s R g R i _ _ ht hr
    have hlen : ((lay g to s R).map cv).length = (R.map cv).length := by simp; omega
    have hil : i < (R.map cv).length := by simp; omega
    have hh : (half ((lay g to s R).map cv) (R.map cv) i)[i]? = some (cv R[i]) := by
      rw [half_get hlen (by omega), if_neg (by omega), List.getElem?_map, hr]; rfl
    have hhl : (half ((lay g to s R).map cv) (R.map cv) i).length = g.length := by rw [half_len hlen (by omega)]; simp; omega
    have hai : 0 ≤ ((i : Nat) : Int) ∧ ((i : Nat) : Int) < ((half ((lay g to s R).map cv) (R.map cv) i).length : Int) := by rw [hhl]; omega
    have h0 := hlow i _ hr
    have hany : g[i].Next.any (has last) = g[i].Next.any (rel to s R) := any_congr fun y hy => hlast y (hx.2 y hy)
    simp only [lt_t hi1, cond_true, ixo_nat ht, Option.bind_some, in_ok hai, Int.toNat_natCast, hh, cv_neg h0.1, w64s i (by omega)]
    rw [F38_eq n last g[i].Next (by omega) (by omega) (by omega) (by omega), hany]
    have hd : (lay g to s R).drop i = (bif (R[i] == 0) && g[i].Next.any (rel to s R) then (s : Int) else R[i]) :: (lay g to s R).drop (i + 1) := drop_cons hlg
    rw [hd]
    simp only [idx, Option.bind_some]
    cases hz : (R[i] == 0) with
    | true =>
      rw [hz] at hlg
      have hz' : R[i] = 0 := by simpa using hz
      cases ha2 : g[i].Next.any (rel to s R) with
      | true =>
        rw [ha2] at hlg
        have a1 : ((s : Int) == (s : Int)) = true := by simp
        simp only [cond_true, Bool.and_self] at hlg
        rw [app_small (by simp only [List.length_cons, List.length_nil]; omega)]
        simp only [cond_true, Bool.and_self, a1]
        have hset : ((lay g to s R).map cv)[i]? = some (s : Int) := by
          rw [List.getElem?_map, hlg]
          have hz2 : ((s : Int) == 0) = false := by simp; omega
          have : cv (s : Int) = (s : Int) := by simp only [cv, hz2, cond_false]
          simp [this]
        rw [half_set hlen hil hset, ih (i + 1) f _ (by omega) (by omega) (by simp; omega)]
        simp
      | false =>
        rw [ha2] at hlg
        have a2 : (R[i] == (s : Int)) = false := by rw [hz']; simp; omega
        simp only [cond_false, Bool.and_false] at hlg
        simp only [cond_true, cond_false, Bool.and_false, a2]
        rw [half_keep hlen hil (by rw [List.getElem?_map, hlg, List.getElem?_map, hr])]
        exact ih (i + 1) f acc (by omega) (by omega) (by omega)
    | false =>
      rw [hz] at hlg
      have a2 : (R[i] == (s : Int)) = false := by simp; omega
      simp only [Bool.false_and, cond_false] at hlg
      simp only [cond_false, Bool.false_and, a2]
      rw [half_keep hlen hil (by rw [List.getElem?_map, hlg, List.getElem?_map, hr])]
      exact ih (i + 1) f acc (by omega) (by omega) (by omega)

/-! ### how many layers -/
def zs : List Int → Nat
  | [] => 0
  | r :: l => (bif r == 0 then 1 else 0) + zs l
theorem zs_le : ∀ l : List Int, zs l ≤ l.length := by
  intro l
  induction l with
  | nil => simp [zs]
  | cons r l ih => simp only [zs, List.length_cons]; cases r == 0 <;> simp <;> omega
theorem zs_lay1 (to : Int) (s : Nat) (hs : 1 ≤ s) (R : List Int) : ∀ (xs : List S38) (l : List Int), xs.length = l.length → zs (lay1 to s R xs l) ≤ zs l ∧ (zs (lay1 to s R xs l) = zs l → lay1 to s R xs l = l) := by
  intro xs
  induction xs with
  | nil => intro l h; cases l with | nil => exact ⟨Nat.le_refl _, fun _ => rfl⟩ | cons => simp at h
  | cons x xs ih =>
    intro l h
    cases l with
    | nil => simp at h
    | cons r l =>
      have := ih l (by simpa using h)
      simp only [lay1, zs]
      cases hr : r == 0 with
      | false =>
        simp only [Bool.false_and, cond_false, hr]
        exact ⟨by omega, fun e => by rw [this.2 (by omega)]⟩
      | true =>
        cases x.Next.any (rel to s R) with
        | false =>
          simp only [Bool.and_false, cond_false, hr, cond_true]
          exact ⟨by omega, fun e => by rw [this.2 (by omega)]⟩
        | true =>
          have hz : ((s : Int) == 0) = false := by simp; omega
          simp only [Bool.and_self, cond_true, hz, cond_false]
          exact ⟨by omega, fun e => by omega⟩
theorem Rk_zs (g : List S38) (to : Int) (s : Nat) : zs (Rk g to (s + 1)) ≤ zs (Rk g to s) ∧ (zs (Rk g to (s + 1)) = zs (Rk g to s) → Rk g to (s + 1) = Rk g to s) :=
  zs_lay1 to (s + 1) (by omega) (Rk g to s) g (Rk g to s) (Rk_len g to s).symm
theorem iAt_out {d : List Int} {j : Int} (h : d[j.toNat]? = none) : iAt d j = 0 := by unfold iAt; rw [h]
/-- A layer with nobody in it is the last one. -/
theorem Rk_stop (g : List S38) (to : Int) (s : Nat) (h : Rk g to (s + 1) = Rk g to s) : ∀ k, Rk g to (s + k) = Rk g to s := by
  intro k
  induction k with
  | zero => rfl
  | succ k ih =>
    cases k with
    | zero => exact h
    | succ k =>
      -- nobody has the number s + k + 1
      have none : ∀ n : Int, (iAt (Rk g to (s + (k + 1))) n == ((s + (k + 1) + 1 : Nat) : Int) - 1) = false := by
        intro n
        rw [ih]
        cases hn : (Rk g to s)[n.toNat]? with
        | none => rw [iAt_out hn]; simp; omega
        | some r =>
          have := Rk_low g to s _ r hn
          have e : iAt (Rk g to s) n = r := by unfold iAt; rw [hn]
          rw [e]; simp; omega
      have hrel : ∀ n : Int, rel to (s + (k + 1) + 1) (Rk g to (s + (k + 1))) n = false := by
        intro n
        unfold rel
        have : (s + (k + 1) + 1 == 1) = false := by simp
        rw [this]
        exact none n
      have : ∀ (xs : List S38) (l : List Int), xs.length = l.length → lay1 to (s + (k + 1) + 1) (Rk g to (s + (k + 1))) xs l = l := by
        intro xs
        induction xs with
        | nil => intro l h; cases l with | nil => rfl | cons => simp at h
        | cons x xs ih2 =>
          intro l h
          cases l with
          | nil => simp at h
          | cons r l =>
            simp only [lay1]
            have ha : x.Next.any (rel to (s + (k + 1) + 1) (Rk g to (s + (k + 1)))) = false := by
              rw [List.any_eq_false]; intro y _; rw [hrel y]; simp
            rw [ha, Bool.and_false, cond_false, ih2 l (by simpa using h)]
      have e := this g (Rk g to (s + (k + 1))) (Rk_len _ _ _).symm
      show lay g to (s + (k + 1) + 1) (Rk g to (s + (k + 1))) = _
      unfold lay
      rw [e, ih]
def lastS (g : List S38) (to : Int) : Nat → List Int
  | 0 => [to]
  | s + 1 => idx ((s + 1 : Nat) : Int) (Rk g to (s + 1)) 0
theorem lastS_rel (g : List S38) (to : Int) (s : Nat) (m : Int) (hm : 0 ≤ m ∧ m < (g.length : Int)) : has (lastS g to s) m = rel to (s + 1) (Rk g to s) m := by
  cases s with
  | zero => simp [lastS, has, rel]
  | succ s =>
    have h1 := has_idx ((s + 1 : Nat) : Int) (Rk g to (s + 1)) 0 m.toNat
    rw [Nat.zero_add, show ((m.toNat : Nat) : Int) = m by omega] at h1
    unfold rel
    have h2 : (s + 1 + 1 == 1) = false := by simp
    rw [h2]
    simp only [lastS, cond_false]
    rw [h1]
    have hl := Rk_len g to (s + 1)
    have h3 := iAt_get (d := Rk g to (s + 1)) (j := m) (by omega)
    rw [h3]
    simp only
    congr 1
    omega
theorem lastS_len (g : List S38) (hg : Nice g) (to : Int) (s : Nat) : (lastS g to s).length ≤ 160 := by
  cases s with
  | zero => simp [lastS]
  | succ s =>
    have := idx_len ((s + 1 : Nat) : Int) (Rk g to (s + 1)) 0
    rw [Rk_len] at this
    have := hg.1
    simp only [lastS]
    omega
theorem idx_nil {v : Int} : ∀ {l : List Int} {i : Nat}, (∀ r ∈ l, r ≠ v) → idx v l i = [] := by
  intro l
  induction l with
  | nil => intro i _; rfl
  | cons r l ih =>
    intro i h
    have : (r == v) = false := by simpa using h r List.mem_cons_self
    simp only [idx, this, cond_false]
    exact ih fun q hq => h q (List.mem_cons_of_mem _ hq)
theorem L32_1_eq (n : Nat) (hn : 1000 ≤ n) (g : List S38) (hg : Nice g) (to : Int) : ∀ (z s f : Nat), zs (Rk g to s) ≤ z → zs (Rk g to s) + s ≤ g.length → z + 2 < f →
    iter (U32_1 n) f ((g, ((s + 1 : Nat) : Int)), (lastS g to s, (Rk g to s).map cv)) = some ((dist g to).map cv) := by
  have hg1 := hg.1
  have step : ∀ (s f : Nat), zs (Rk g to s) + s ≤ g.length → lastS g to s ≠ [] → iter (U32_1 n) (f + 1) ((g, ((s + 1 : Nat) : Int)), (lastS g to s, (Rk g to s).map cv)) = iter (U32_1 n) f ((g, ((s + 1 + 1 : Nat) : Int)), (lastS g to (s + 1), (Rk g to (s + 1)).map cv)) := by
    intro s f hz hne
    rw [iter_succ, U32_1.eq_1, S32_1.eq_1]
    have h0 : 0 < (lastS g to s).length := List.length_pos_iff.mpr hne
    have h1 : decide (((lastS g to s).length : Int) > 0) = true := by simp <;> omega
    have e := L32_2_eq n hn g hg to (s + 1) (by omega) (Rk g to s) (Rk_len g to s) (by simpa using Rk_low g to s) (lastS g to s) (lastS_len g hg to s) (lastS_rel g to s) g.length 0 n [] (by omega) (by omega) (by simp)
    have zz : ((0 : Nat) : Int) = (0 : Int) := rfl
    have hh : half ((lay g to (s + 1) (Rk g to s)).map cv) ((Rk g to s).map cv) 0 = (Rk g to s).map cv := by simp [half]
    rw [zz, hh, List.drop_zero, List.nil_append] at e
    unfold L32_2
    simp only [h1, cond_true]
    rw [e]
    simp only [Option.bind_some, w64s (s + 1) (by omega)]
    rfl
  have stop : ∀ (s f : Nat), 0 < f → lastS g to s = [] → iter (U32_1 n) f ((g, ((s + 1 : Nat) : Int)), (lastS g to s, (Rk g to s).map cv)) = some ((Rk g to s).map cv) := by
    intro s f hf he
    obtain ⟨f, rfl⟩ := iter_exists hf
    rw [iter_succ, U32_1.eq_1, S32_1.eq_1, he]
    rfl
  -- once a layer adds nobody
  have ended : ∀ (s : Nat), s ≤ g.length → Rk g to (s + 1) = Rk g to s → dist g to = Rk g to s := by
    intro s hs h
    have := Rk_stop g to s h (g.length - s)
    rw [show s + (g.length - s) = g.length by omega] at this
    exact this
  intro z
  induction z with
  | zero =>
    intro s f hz hs hf
    have h := Rk_zs g to s
    have heq : Rk g to (s + 1) = Rk g to s := h.2 (by omega)
    have hd := ended s (by omega) heq
    by_cases hl : lastS g to s = []
    · rw [stop s f (by omega) hl, hd]
    · obtain ⟨f, rfl⟩ := iter_exists (show 0 < f by omega)
      rw [step s f hs hl]
      have hl2 : lastS g to (s + 1) = [] := by
        simp only [lastS]
        refine idx_nil fun r hr => ?_
        rw [heq] at hr
        obtain ⟨i, hi⟩ := List.getElem?_of_mem hr
        have := Rk_low g to s i r hi
        omega
      rw [stop (s + 1) f (by omega) hl2, heq, hd]
  | succ z ih =>
    intro s f hz hs hf
    have h := Rk_zs g to s
    by_cases hl : lastS g to s = []
    · rw [stop s f (by omega) hl]
      cases s with
      | zero => simp [lastS] at hl
      | succ s =>
        -- nobody has the last number: the layer before was the same
        have heq : Rk g to (s + 1 + 1) = Rk g to (s + 1) := by
          have hrel : ∀ m : Int, 0 ≤ m ∧ m < (g.length : Int) → rel to (s + 1 + 1) (Rk g to (s + 1)) m = false := by
            intro m hm
            rw [← lastS_rel g to (s + 1) m hm, hl]; rfl
          have key : ∀ (xs : List S38) (l : List Int), (∀ x ∈ xs, Inn g.length x.Next) → xs.length = l.length → lay1 to (s + 1 + 1) (Rk g to (s + 1)) xs l = l := by
            intro xs
            induction xs with
            | nil => intro l _ h; cases l with | nil => rfl | cons => simp at h
            | cons x xs ih2 =>
              intro l hin h
              cases l with
              | nil => simp at h
              | cons r l =>
                simp only [lay1]
                have ha : x.Next.any (rel to (s + 1 + 1) (Rk g to (s + 1))) = false := by
                  rw [List.any_eq_false]; intro y hy; rw [hrel y (hin x List.mem_cons_self y hy)]; simp
                rw [ha, Bool.and_false, cond_false, ih2 l (fun y hy => hin y (List.mem_cons_of_mem _ hy)) (by simpa using h)]
          exact key g (Rk g to (s + 1)) (fun x hx => (hg.2 x hx).2) (Rk_len _ _ _).symm
        rw [ended (s + 1) (by omega) heq]
    · obtain ⟨f, rfl⟩ := iter_exists (show 0 < f by omega)
      rw [step s f hs hl]
      rcases Nat.lt_or_ge (zs (Rk g to (s + 1))) (zs (Rk g to s)) with h1 | h1
      · exact ih (s + 1) f (by omega) (by omega) (by omega)
      · have heq : Rk g to (s + 1) = Rk g to s := h.2 (by omega)
        have hd := ended s (by omega) heq
        have hl2 : lastS g to (s + 1) = [] := by
          simp only [lastS]
          refine idx_nil fun r hr => ?_
          rw [heq] at hr
          obtain ⟨i, hi⟩ := List.getElem?_of_mem hr
          have := Rk_low g to s i r hi
          omega
        rw [stop (s + 1) f (by omega) hl2, heq, hd]
theorem L32_0_eq (n : Nat) (g : List S38) (to : Int) (A B : List Int) (hA : A = List.replicate B.length (-1)) (hB : B.length ≤ 100000) : ∀ (q i f : Nat), i + q = B.length → q < f →
    iter (U32_0 n) f ((g, (to, ((B.length : Int), (i : Int)))), half A B i) = some ((g, to), A) := by
  have hl : A.length = B.length := by rw [hA]; simp
  intro q
  induction q with
  | zero =>
    intro i f hi hf
    obtain ⟨f, rfl⟩ := iter_exists (show 0 < f by omega)
    rw [iter_succ, U32_0.eq_1, S32_0.eq_1]
    simp only [lt_f (show B.length ≤ i by omega), cond_false]
    have : i = B.length := by omega
    subst this
    rw [half_all hl]
  | succ q ih =>
    intro i f hi hf
    obtain ⟨f, rfl⟩ := iter_exists (show 0 < f by omega)
    rw [iter_succ, U32_0.eq_1, S32_0.eq_1]
    have hi1 : i < B.length := by omega
    have hh := half_len hl (show i ≤ B.length by omega)
    have hai : 0 ≤ ((i : Nat) : Int) ∧ ((i : Nat) : Int) < ((half A B i).length : Int) := by rw [hh]; omega
    have hs : A[i]? = some (-1 : Int) := by rw [hA, List.getElem?_replicate]; simp; omega
    simp only [lt_t hi1, cond_true, in_ok hai, Int.toNat_natCast, w64s i (by omega)]
    rw [half_set hl hi1 hs]
    exact ih (i + 1) f (by omega) (by omega)
theorem F32_eq (n : Nat) (hn : 1000 ≤ n) (g : List S38) (hg : Nice g) (to : Int) : F32 n g to = some ((dist g to).map cv) := by
  have hg1 := hg.1
  unfold F32 L32_0 L32_1
  rw [make_small (by omega)]
  simp only [cond_true, Int.toNat_natCast]
  have e := L32_0_eq n g to _ (List.replicate g.length (0 : Int)) rfl (by simp; omega) g.length 0 n (by simp) (by omega)
  have z : ((0 : Nat) : Int) = (0 : Int) := rfl
  have hh : ∀ A B : List Int, half A B 0 = B := by intro A B; simp [half]
  rw [z, hh] at e
  rw [e]
  simp only [Option.bind_some]
  have e2 := L32_1_eq n hn g hg to (zs (Rk g to 0)) 0 n (Nat.le_refl _) (by have := zs_le (Rk g to 0); rw [Rk_len] at this; omega) (by have := zs_le (Rk g to 0); rw [Rk_len] at this; omega)
  have hm : (Rk g to 0).map cv = List.replicate (List.replicate g.length (0 : Int)).length (-1) := by simp [Rk, cv]
  have z1 : ((0 + 1 : Nat) : Int) = (1 : Int) := rfl
  rw [hm, z1] at e2
  have hl0 : lastS g to 0 = [to] := rfl
  rw [hl0] at e2
  rw [e2]
  rfl
end Go.Abs.Wg
end
section
set_option linter.all false
set_option linter.unusedVariables false
set_option linter.unusedSimpArgs false
set_option linter.unnecessarySimpa false
/-
  Waitgraph: cycles.
-/
namespace Go.Abs.Wg
open Go Go.Abs Go.G19 Go.Abs.AbsP19

theorem iAt_of {d : List Int} {i : Nat} {r : Int} (h : d[i]? = some r) : iAt d (i : Int) = r := by unfold iAt; rw [Int.toNat_natCast, h]
theorem Rk_keep (g : List S38) (to : Int) (s : Nat) (m : Int) (hm : 0 ≤ m ∧ m < (g.length : Int)) (h : iAt (Rk g to s) m ≠ 0) : iAt (Rk g to (s + 1)) m = iAt (Rk g to s) m := by
  obtain ⟨k, rfl⟩ : ∃ k : Nat, m = (k : Int) := ⟨m.toNat, by omega⟩
  have hk : k < g.length := by omega
  have ht := List.getElem?_eq_getElem hk
  have hkl : k < (Rk g to s).length := by rw [Rk_len]; exact hk
  have hr := List.getElem?_eq_getElem hkl
  have hl : (Rk g to (s + 1))[k]? = _ := lay1_get to (s + 1) (Rk g to s) g (Rk g to s) k _ _ ht hr
  rw [iAt_of hr] at h ⊢
  have hz : ((Rk g to s)[k] == 0) = false := by simp [h]
  rw [hz] at hl
  simp only [Bool.false_and, cond_false] at hl
  exact iAt_of hl
theorem Rk_prev (g : List S38) (hg : Nice g) (to : Int) : ∀ (s i : Nat) (x : S38) (r : Int), g[i]? = some x → (Rk g to s)[i]? = some r → 2 ≤ r → ∃ m ∈ x.Next, (0 ≤ m ∧ m < (g.length : Int)) ∧ iAt (Rk g to s) m = r - 1 := by
  intro s
  induction s with
  | zero =>
    intro i x r _ h hr
    simp only [Rk] at h
    rw [List.getElem?_replicate] at h
    split at h
    · cases h; omega
    · cases h
  | succ s ih =>
    intro i x r hx h hr
    have hi := get_lt hx
    have hxin := (hg.2 x (List.mem_of_getElem? hx)).2
    have hil : i < (Rk g to s).length := by rw [Rk_len]; exact hi
    have hr0 := List.getElem?_eq_getElem hil
    have hl : (Rk g to (s + 1))[i]? = _ := lay1_get to (s + 1) (Rk g to s) g (Rk g to s) i _ _ hx hr0
    rw [hl] at h
    have h' := Option.some.inj h
    generalize (Rk g to s)[i] = q at hr0 h'
    cases hc : ((q == 0) && x.Next.any (rel to (s + 1) (Rk g to s))) with
    | false =>
      rw [hc] at h'
      simp only [cond_false] at h'
      subst h'
      obtain ⟨m, h1, h2, h3⟩ := ih i x q hx hr0 hr
      exact ⟨m, h1, h2, by rw [Rk_keep g to s m h2 (by omega)]; exact h3⟩
    | true =>
      rw [hc] at h'
      simp only [cond_true] at h'
      simp only [Bool.and_eq_true, List.any_eq_true] at hc
      obtain ⟨_, m, h1, h2⟩ := hc
      have hm := hxin m h1
      have hs : ¬ s + 1 = 1 := by omega
      unfold rel at h2
      have hsb : (s + 1 == 1) = false := by simpa using hs
      rw [hsb] at h2
      simp only [cond_false, beq_iff_eq] at h2
      exact ⟨m, h1, hm, by rw [Rk_keep g to s m hm (by omega)]; omega⟩
theorem dist_len (g : List S38) (to : Int) : (dist g to).length = g.length := Rk_len g to g.length
theorem dist_low (g : List S38) (to : Int) (m : Int) : 0 ≤ iAt (dist g to) m ∧ iAt (dist g to) m ≤ (g.length : Int) := by
  cases h : (dist g to)[m.toNat]? with
  | none => rw [iAt_out h]; omega
  | some r =>
    have := Rk_low g to g.length _ r h
    have e : iAt (dist g to) m = r := by unfold iAt; rw [h]
    rw [e]; exact this
theorem dist_prev (g : List S38) (hg : Nice g) (to : Int) (i : Nat) (x : S38) (hx : g[i]? = some x) (h : 2 ≤ iAt (dist g to) (i : Int)) : ∃ m ∈ x.Next, (0 ≤ m ∧ m < (g.length : Int)) ∧ iAt (dist g to) m = iAt (dist g to) (i : Int) - 1 := by
  have hi := get_lt hx
  have hil : i < (dist g to).length := by rw [dist_len]; exact hi
  have hr := List.getElem?_eq_getElem hil
  have e := iAt_of hr
  rw [e] at h ⊢
  exact Rk_prev g hg to g.length i x _ hx hr h

/-! ### the first one -/
def fpos (p : Int → Bool) : List Int → Nat → Option (Nat × Int)
  | [], _ => none
  | y :: l, i => bif p y then some (i, y) else fpos p l (i + 1)
theorem fpos_congr {p q : Int → Bool} : ∀ {l : List Int} {i : Nat}, (∀ y ∈ l, p y = q y) → fpos p l i = fpos q l i := by
  intro l
  induction l with
  | nil => intro i _; rfl
  | cons y l ih => intro i h; simp only [fpos]; rw [h y List.mem_cons_self, ih fun z hz => h z (List.mem_cons_of_mem _ hz)]
theorem fpos_get {p : Int → Bool} : ∀ {l : List Int} {i k : Nat} {y : Int}, fpos p l i = some (k, y) → i ≤ k ∧ l[k - i]? = some y ∧ p y = true := by
  intro l
  induction l with
  | nil => intro i k y h; cases h
  | cons x l ih =>
    intro i k y h
    simp only [fpos] at h
    cases hp : p x with
    | true =>
      rw [hp] at h
      cases h
      exact ⟨Nat.le_refl _, by simp, hp⟩
    | false =>
      rw [hp] at h
      obtain ⟨h1, h2, h3⟩ := ih h
      refine ⟨by omega, ?_, h3⟩
      rw [show k - i = (k - (i + 1)) + 1 by omega]
      exact h2
theorem fpos_some {p : Int → Bool} : ∀ {l : List Int} {i : Nat}, (∃ y ∈ l, p y = true) → ∃ k y, fpos p l i = some (k, y) := by
  intro l
  induction l with
  | nil => rintro i ⟨y, h, _⟩; cases h
  | cons x l ih =>
    rintro i ⟨y, hy, hp⟩
    simp only [fpos]
    cases hx : p x with
    | true => exact ⟨i, x, rfl⟩
    | false =>
      rcases List.mem_cons.mp hy with rfl | hy
      · rw [hx] at hp; cases hp
      · exact ih ⟨y, hy, hp⟩
theorem L33x1_0_eq (n : Nat) (to left : Int) (d : List Int) (p : Int → Bool) (l : List Int) (hl : l.length ≤ 100000) (hp : ∀ y ∈ l, F34 n y to d left = some (p y, (to, (d, left)))) : ∀ (q i f : Nat), i + q = l.length → q < f →
    iter (U33x1_0 n) f ((l, ((l.length : Int), (i : Int))), (to, (d, left))) = some (match fpos p (l.drop i) i with | some (k, _) => .inr ((k : Int), (to, (d, left))) | none => .inl (to, (d, left))) := by
  intro q
  induction q with
  | zero =>
    intro i f hi hf
    obtain ⟨f, rfl⟩ := iter_exists (show 0 < f by omega)
    rw [iter_succ, U33x1_0.eq_1, S33x1_0.eq_1]
    simp only [lt_f (show l.length ≤ i by omega), cond_false]
    rw [List.drop_of_length_le (by omega)]
    rfl
  | succ q ih =>
    intro i f hi hf
    obtain ⟨f, rfl⟩ := iter_exists (show 0 < f by omega)
    rw [iter_succ, U33x1_0.eq_1, S33x1_0.eq_1]
    have hi1 : i < l.length := by omega
    have ht := List.getElem?_eq_getElem hi1
    have hpy := hp _ (List.getElem_mem hi1)
    simp only [lt_t hi1, cond_true, ixo_nat ht, Option.bind_some, hpy, w64s i (by omega)]
    rw [drop_cons ht]
    simp only [fpos]
    cases p l[i] with
    | true => rfl
    | false => simp only [cond_false]; exact ih (i + 1) f (by omega) (by omega)
theorem F33x1_eq (n : Nat) (to left : Int) (d : List Int) (p : Int → Bool) (l : List Int) (hl : l.length ≤ 100000) (hn : l.length < n) (hp : ∀ y ∈ l, F34 n y to d left = some (p y, (to, (d, left)))) {k : Nat} {y : Int} (h : fpos p l 0 = some (k, y)) :
    F33x1 n l to d left = some ((k : Int), (to, (d, left))) := by
  unfold F33x1 L33x1_0
  have e := L33x1_0_eq n to left d p l hl hp l.length 0 n (by omega) hn
  have z : ((0 : Nat) : Int) = (0 : Int) := rfl
  rw [z, List.drop_zero, h] at e
  rw [e]
  rfl
theorem F34_eq (n : Nat) (D : List Int) (to : Int) (left : Nat) (hleft : 1 ≤ left) (hto : (left : Int) < iAt D to) (hD : ∀ m : Int, 0 ≤ iAt D m) (y : Int) (hy : 0 ≤ y ∧ y < (D.length : Int)) :
    F34 n y to (D.map cv) (left : Int) = some ((iAt D y == (left : Int)), (to, (D.map cv, (left : Int)))) := by
  unfold F34
  cases hne : y != to with
  | false =>
    have : y = to := by simpa using hne
    subst this
    have h1 : (iAt D y == (left : Int)) = false := by simp; omega
    rw [h1]; rfl
  | true =>
    have hix : ixo (D.map cv) y = some (cv (iAt D y)) := by
      have h1 := iAt_get hy
      have h2 : (D.map cv)[y.toNat]? = some (cv (iAt D y)) := by rw [List.getElem?_map, h1]; rfl
      have := ixo_nat h2
      rwa [show ((y.toNat : Nat) : Int) = y by omega] at this
    simp only [cond_true, hix, Option.bind_some]
    have : (cv (iAt D y) == (left : Int)) = (iAt D y == (left : Int)) := by
      have h0 := hD y
      unfold cv
      cases hz : iAt D y == 0 with
      | true =>
        have hz' : iAt D y = 0 := by simpa using hz
        have a1 : ((-1 : Int) == (left : Int)) = false := by simp <;> omega
        have a2 : (iAt D y == (left : Int)) = false := by rw [hz']; simp; omega
        rw [a2]; exact a1
      | false => rfl
    rw [this]
/-- The way from a node of distance l + 1. -/
def pth (g : List S38) (D : List Int) : Nat → Int → List Int
  | 0, _ => []
  | l + 1, at' => match fpos (fun m => iAt D m == ((l + 1 : Nat) : Int)) (nexts g at') 0 with
    | some (_, y) => y :: pth g D l y
    | none => []
theorem pth_len (g : List S38) (D : List Int) : ∀ (l : Nat) (a : Int), (pth g D l a).length ≤ l := by
  intro l
  induction l with
  | zero => intro a; simp [pth]
  | succ l ih =>
    intro a
    simp only [pth]
    split
    · rename_i y _; have := ih y; simp; omega
    · simp
theorem next_hit (g : List S38) (hg : Nice g) (to : Int) (l k : Nat) (x : S38) (hx : g[k]? = some x) (h : iAt (dist g to) (k : Int) = ((l + 2 : Nat) : Int)) : ∃ q y, fpos (fun m => iAt (dist g to) m == ((l + 1 : Nat) : Int)) x.Next 0 = some (q, y) ∧ x.Next[q]? = some y ∧ iAt (dist g to) y = ((l + 1 : Nat) : Int) ∧ (0 ≤ y ∧ y < (g.length : Int)) := by
  obtain ⟨m, h1, h2, h3⟩ := dist_prev g hg to k x hx (by omega)
  obtain ⟨q, y, h4⟩ := fpos_some (p := fun m => iAt (dist g to) m == ((l + 1 : Nat) : Int)) (l := x.Next) (i := 0) ⟨m, h1, by simp only [beq_iff_eq]; omega⟩
  obtain ⟨_, h5, h6⟩ := fpos_get h4
  simp only [beq_iff_eq] at h6
  exact ⟨q, y, h4, by simpa using h5, h6, (hg.2 x (List.mem_of_getElem? hx)).2 y (List.mem_of_getElem? h5)⟩
theorem L19_0_eq (n : Nat) (hn : 1000 ≤ n) (g : List S38) (hg : Nice g) (to : Int) : ∀ (l f k : Nat) (acc : List Int), l < f → k < g.length → iAt (dist g to) (k : Int) = ((l + 1 : Nat) : Int) → ((l + 1 : Nat) : Int) ≤ iAt (dist g to) to → acc.length + l ≤ 1000 →
    iter (U19_0 n) f ((g, (k : Int)), (to, ((dist g to).map cv, ((l : Int), acc)))) = some (acc ++ pth g (dist g to) l (k : Int)) := by
  intro l
  induction l with
  | zero =>
    intro f k acc hf hk hd hto ha
    obtain ⟨f, rfl⟩ := iter_exists (show 0 < f by omega)
    rw [iter_succ, U19_0.eq_1, S19_0.eq_1]
    simp [pth]
  | succ l ih =>
    intro f k acc hf hk hd hto ha
    have hg1 := hg.1
    obtain ⟨f, rfl⟩ := iter_exists (show 0 < f by omega)
    rw [iter_succ, U19_0.eq_1, S19_0.eq_1]
    have ht := List.getElem?_eq_getElem hk
    have hxn := hg.2 _ (List.getElem_mem hk)
    obtain ⟨q, y, h1, h2, h3, h4⟩ := next_hit g hg to l k g[k] ht hd
    have hp : ∀ z ∈ g[k].Next, F34 n z to ((dist g to).map cv) ((l + 1 : Nat) : Int) = some ((iAt (dist g to) z == ((l + 1 : Nat) : Int)), (to, ((dist g to).map cv, ((l + 1 : Nat) : Int)))) := fun z hz =>
      F34_eq n (dist g to) to (l + 1) (by omega) (by omega) (fun m => (dist_low g to m).1) z (by rw [dist_len]; exact hxn.2 z hz)
    have e := F33x1_eq n to ((l + 1 : Nat) : Int) ((dist g to).map cv) _ g[k].Next (by omega) (by omega) hp h1
    have p1 : decide (((l + 1 : Nat) : Int) > 0) = true := by simp <;> omega
    have w : IntKind.wrap .i64 (((l + 1 : Nat) : Int) - 1) = (l : Int) := by rw [w64 (by have := dist_low g to to; omega)]; omega
    simp only [p1, cond_true, ixo_nat ht, Option.bind_some, e, ixo_nat h2, w]
    rw [app_small (by simp only [List.length_cons, List.length_nil]; omega)]
    simp only [cond_true]
    obtain ⟨k', rfl⟩ : ∃ k' : Nat, y = (k' : Int) := ⟨y.toNat, by omega⟩
    rw [ih f k' _ (by omega) (by omega) h3 (by omega) (by simp; omega)]
    simp only [pth]
    have hnx : nexts g (k : Int) = g[k].Next := by unfold nexts; rw [Int.toNat_natCast, ht]
    rw [hnx, h1]
    simp
theorem L20_1_eq (n : Nat) (g : List S38) (D : List Int) (k : Nat) (x : S38) (hx : g[k]? = some x) (left : Nat) (hleft : left ≤ 1000000) (hl : x.Next.length ≤ 100000) (hin : Inn D.length x.Next) (acc : List Int) : ∀ (q i f : Nat), i + q = x.Next.length → q < f →
    iter (U20_1 n) f ((g, (D, ((k : Int), (((left + 1 : Nat) : Int), (i : Int))))), acc) = some ((g, (D, ((match fpos (fun m => iAt D m == (left : Int)) (x.Next.drop i) i with | some (_, y) => y | none => (k : Int)), ((left + 1 : Nat) : Int)))), acc) := by
  intro q
  induction q with
  | zero =>
    intro i f hi hf
    obtain ⟨f, rfl⟩ := iter_exists (show 0 < f by omega)
    rw [iter_succ, U20_1.eq_1, S20_1.eq_1]
    simp only [ixo_nat hx, Option.bind_some, lt_f (show x.Next.length ≤ i by omega), cond_false]
    rw [List.drop_of_length_le (by omega)]
    rfl
  | succ q ih =>
    intro i f hi hf
    obtain ⟨f, rfl⟩ := iter_exists (show 0 < f by omega)
    rw [iter_succ, U20_1.eq_1, S20_1.eq_1]
    have hi1 : i < x.Next.length := by omega
    have ht := List.getElem?_eq_getElem hi1
    have hj := hin _ (List.getElem_mem hi1)
    have w : IntKind.wrap .i64 (((left + 1 : Nat) : Int) - 1) = (left : Int) := by rw [w64 (by omega)]; omega
    simp only [ixo_nat hx, Option.bind_some, lt_t hi1, cond_true, ixo_nat ht, iAt_ixo hj, w, w64s i (by omega)]
    rw [drop_cons ht]
    simp only [fpos]
    cases iAt D x.Next[i] == (left : Int) with
    | true => rfl
    | false => simp only [cond_false]; exact ih (i + 1) f (by omega) (by omega)
theorem L20_0_eq (n : Nat) (hn : 1000 ≤ n) (g : List S38) (hg : Nice g) (to : Int) : ∀ (l f k : Nat) (acc : List Int), l < f → k < g.length → iAt (dist g to) (k : Int) = ((l + 1 : Nat) : Int) → acc.length + l ≤ 1000 →
    iter (U20_0 n) f ((g, (dist g to, ((k : Int), ((l + 1 : Nat) : Int)))), acc) = some (acc ++ pth g (dist g to) l (k : Int)) := by
  intro l
  induction l with
  | zero =>
    intro f k acc hf hk hd ha
    obtain ⟨f, rfl⟩ := iter_exists (show 0 < f by omega)
    rw [iter_succ, U20_0.eq_1, S20_0.eq_1]
    simp [pth]
  | succ l ih =>
    intro f k acc hf hk hd ha
    have hg1 := hg.1
    obtain ⟨f, rfl⟩ := iter_exists (show 0 < f by omega)
    rw [iter_succ, U20_0.eq_1, S20_0.eq_1]
    have ht := List.getElem?_eq_getElem hk
    have hxn := hg.2 _ (List.getElem_mem hk)
    obtain ⟨q, y, h1, h2, h3, h4⟩ := next_hit g hg to l k g[k] ht hd
    have p1 : decide (((l + 1 + 1 : Nat) : Int) > 1) = true := by simp <;> omega
    have w : IntKind.wrap .i64 (((l + 1 + 1 : Nat) : Int) - 1) = ((l + 1 : Nat) : Int) := by rw [w64 (by omega)]; omega
    have e := L20_1_eq n g (dist g to) k g[k] ht (l + 1) (by omega) (by omega) (by rw [dist_len]; exact hxn.2) acc g[k].Next.length 0 n (by omega) (by omega)
    have z : ((0 : Nat) : Int) = (0 : Int) := rfl
    rw [z, List.drop_zero, h1] at e
    unfold L20_1
    simp only [p1, cond_true]
    rw [e]
    simp only [Option.bind_some, w]
    rw [app_small (by simp only [List.length_cons, List.length_nil]; omega)]
    simp only [cond_true]
    obtain ⟨k', rfl⟩ : ∃ k' : Nat, y = (k' : Int) := ⟨y.toNat, by omega⟩
    rw [ih f k' _ (by omega) (by omega) h3 (by simp; omega)]
    simp only [pth]
    have hnx : nexts g (k : Int) = g[k].Next := by unfold nexts; rw [Int.toNat_natCast, ht]
    rw [hnx, h1]
    simp
def cyc (g : List S38) (i : Int) : List Int := bif valid g && (decide (0 ≤ i) && decide (i < (g.length : Int))) then (bif iAt (dist g i) i == 0 then [] else i :: pth g (dist g i) ((iAt (dist g i) i).toNat - 1) i) else []
theorem cyc_len (g : List S38) (i : Int) : (cyc g i).length ≤ 1000 := by
  unfold cyc
  cases hv : valid g with
  | false => simp
  | true =>
    have h1 := (valid_nice hv).1
    cases (decide (0 ≤ i) && decide (i < (g.length : Int))) with
    | false => simp
    | true =>
      cases iAt (dist g i) i == 0 with
      | true => simp
      | false =>
        have := pth_len g (dist g i) ((iAt (dist g i) i).toNat - 1) i
        have h2 := dist_low g i i
        simp only [Bool.and_self, cond_true, cond_false, List.length_cons]
        omega
theorem F19_eq (n : Nat) (hn : 1000 ≤ n) (g : List S38) (hx : Fits n g) (i : Int) : F19 n g i = some (cyc g i) := by
  unfold F19 F29 cyc L19_0
  rw [F12_eq n (by omega) g hx]
  cases h1 : decide (0 ≤ i) with
  | false => cases valid g <;> rfl
  | true =>
    cases h3 : decide (i < (g.length : Int)) with
    | false => cases valid g <;> rfl
    | true =>
      cases hv : valid g with
      | false => rfl
      | true =>
        have hg := valid_nice hv
        have hg1 := hg.1
        have hi0 : 0 ≤ i := by simpa using h1
        have hi1 : i < (g.length : Int) := by simpa using h3
        obtain ⟨k, rfl⟩ : ∃ k : Nat, i = (k : Int) := ⟨i.toNat, by omega⟩
        have hk : k < g.length := by omega
        have hlow := dist_low g (k : Int) (k : Int)
        have hy := iAt_get (d := dist g (k : Int)) (j := (k : Int)) (by rw [dist_len]; omega)
        rw [Int.toNat_natCast] at hy
        have hm : ((dist g (k : Int)).map cv)[k]? = some (cv (iAt (dist g (k : Int)) (k : Int))) := by rw [List.getElem?_map, hy]; rfl
        simp only [cond_true, Option.bind_some, bNot, Bool.not_true, cond_false, Bool.and_self]
        rw [F32_eq n hn g hg]
        simp only [Option.bind_some, ixo_nat hm, cv_neg hlow.1]
        cases hz : iAt (dist g (k : Int)) (k : Int) == 0 with
        | true => rfl
        | false =>
          have hz' : iAt (dist g (k : Int)) (k : Int) ≠ 0 := by simpa using hz
          obtain ⟨l, hl⟩ : ∃ l : Nat, iAt (dist g (k : Int)) (k : Int) = ((l + 1 : Nat) : Int) := ⟨(iAt (dist g (k : Int)) (k : Int)).toNat - 1, by omega⟩
          have hcv : cv (iAt (dist g (k : Int)) (k : Int)) = ((l + 1 : Nat) : Int) := by unfold cv; rw [hz]; exact hl
          have w : IntKind.wrap .i64 (((l + 1 : Nat) : Int) - 1) = (l : Int) := by rw [w64 (by omega)]; omega
          have e := L19_0_eq n hn g hg (k : Int) l n k [(k : Int)] (by omega) hk hl (by omega) (by simp; omega)
          simp only [cond_false, hcv, w]
          rw [e, hl]
          have : (((l + 1 : Nat) : Int)).toNat - 1 = l := by omega
          rw [this]
          rfl
theorem F20_eq (n : Nat) (hn : 1000 ≤ n) (g : List S38) (hx : Fits n g) (i : Int) : F20 n g i = some (cyc g i) := by
  unfold F20 cyc L20_0
  rw [F13_eq n (by omega) g hx]
  cases hv : valid g with
  | false => rfl
  | true =>
    have hg := valid_nice hv
    have hg1 := hg.1
    simp only [Option.bind_some, bNot, Bool.not_true, cond_false, Bool.true_and]
    rcases Int.lt_or_le i 0 with hi0 | hi0
    · have h1 : decide (i < 0) = true := by simp; omega
      have h2 : decide (0 ≤ i) = false := by simp; omega
      rw [h1, h2]; rfl
    · have h1 : decide (i < 0) = false := by simp; omega
      have h2 : decide (0 ≤ i) = true := by simp; omega
      rw [h1, h2]
      rcases Int.lt_or_le i (g.length : Int) with hi1 | hi1
      · have h3 : decide (i ≥ (g.length : Int)) = false := by simp; omega
        have h4 : decide (i < (g.length : Int)) = true := by simp; omega
        rw [h3, h4]
        obtain ⟨k, rfl⟩ : ∃ k : Nat, i = (k : Int) := ⟨i.toNat, by omega⟩
        have hk : k < g.length := by omega
        have hlow := dist_low g (k : Int) (k : Int)
        have hix := iAt_ixo (d := dist g (k : Int)) (j := (k : Int)) (by rw [dist_len]; omega)
        rw [F35_eq n hn g hg]
        simp only [cond_false, cond_true, Option.bind_some, hix, Bool.and_self]
        cases hz : iAt (dist g (k : Int)) (k : Int) == 0 with
        | true => rfl
        | false =>
          have hz' : iAt (dist g (k : Int)) (k : Int) ≠ 0 := by simpa using hz
          obtain ⟨l, hl⟩ : ∃ l : Nat, iAt (dist g (k : Int)) (k : Int) = ((l + 1 : Nat) : Int) := ⟨(iAt (dist g (k : Int)) (k : Int)).toNat - 1, by omega⟩
          have e := L20_0_eq n hn g hg (k : Int) l n k [(k : Int)] (by omega) hk hl (by simp; omega)
          simp only [cond_false]
          rw [hl, e]
          have : (((l + 1 : Nat) : Int)).toNat - 1 = l := by omega
          rw [this]
          rfl
      · have h3 : decide (i ≥ (g.length : Int)) = true := by simp; omega
        have h4 : decide (i < (g.length : Int)) = false := by simp; omega
        rw [h3, h4]; rfl
end Go.Abs.Wg
end
section
set_option linter.all false
set_option linter.unusedVariables false
set_option linter.unusedSimpArgs false
set_option linter.unnecessarySimpa false
/-
  Waitgraph: knots, and the law WaitgraphCycles.
-/
namespace Go.Abs.Wg
open Go Go.Abs Go.G19 Go.Abs.AbsP19

/-! ### equal lists -/
def eqB : List Bool → List Bool → Bool
  | x :: a, y :: b => bEq x y && eqB a b
  | _, _ => true
def eqI : List Int → List Int → Bool
  | x :: a, y :: b => !(x != y) && eqI a b
  | _, _ => true
theorem eqB_iff : ∀ {a b : List Bool}, a.length = b.length → (eqB a b = true ↔ a = b) := by
  intro a
  induction a with
  | nil => intro b h; cases b with | nil => simp [eqB] | cons => simp at h
  | cons x a ih =>
    intro b h
    cases b with
    | nil => simp at h
    | cons y b =>
      have hb : bEq x y = (x == y) := rfl
      simp only [eqB, hb, Bool.and_eq_true, beq_iff_eq, List.cons.injEq, ih (by simpa using h)]
theorem eqI_iff : ∀ {a b : List Int}, a.length = b.length → (eqI a b = true ↔ a = b) := by
  intro a
  induction a with
  | nil => intro b h; cases b with | nil => simp [eqI] | cons => simp at h
  | cons x a ih =>
    intro b h
    cases b with
    | nil => simp at h
    | cons y b => simp only [eqI, Bool.and_eq_true, Bool.not_eq_true', bne_eq_false_iff_eq, List.cons.injEq, ih (by simpa using h)]
theorem L37_0_eq (n : Nat) (a b : List Bool) (hab : a.length = b.length) (hl : a.length ≤ 100000) : ∀ (q i f : Nat), i + q = a.length → q < f →
    iter (U37_0 n) f (a, (b, ((a.length : Int), (i : Int)))) = some (bif eqB (a.drop i) (b.drop i) then .inl () else .inr false) := by
  intro q
  induction q with
  | zero =>
    intro i f hi hf
    obtain ⟨f, rfl⟩ := iter_exists (show 0 < f by omega)
    rw [iter_succ, U37_0.eq_1, S37_0.eq_1]
    simp only [lt_f (show a.length ≤ i by omega), cond_false]
    rw [List.drop_of_length_le (by omega)]
    rfl
  | succ q ih =>
    intro i f hi hf
    obtain ⟨f, rfl⟩ := iter_exists (show 0 < f by omega)
    rw [iter_succ, U37_0.eq_1, S37_0.eq_1]
    have hi1 : i < a.length := by omega
    have ht := List.getElem?_eq_getElem hi1
    have hi2 : i < b.length := by omega
    have ht2 := List.getElem?_eq_getElem hi2
    simp only [lt_t hi1, cond_true, ixo_nat ht, ixo_nat ht2, Option.bind_some, w64s i (by omega)]
    rw [drop_cons ht, drop_cons ht2, ih (i + 1) f (by omega) (by omega)]
    simp only [eqB, bNot]
    cases bEq a[i] b[i] <;> rfl
theorem F37_eq (n : Nat) (a b : List Bool) (hab : a.length = b.length) (hl : a.length ≤ 100000) (hn : a.length < n) : F37 n a b = some (eqB a b) := by
  unfold F37 L37_0
  have hne : (((a.length : Nat) : Int) != ((b.length : Nat) : Int)) = false := by simp [hab]
  have e := L37_0_eq n a b hab hl a.length 0 n (by omega) hn
  have z : ((0 : Nat) : Int) = (0 : Int) := rfl
  rw [z, List.drop_zero, List.drop_zero] at e
  rw [hne]
  simp only [cond_false]
  rw [e]
  cases eqB a b <;> rfl
theorem L14_0_gen (n : Nat) (a b : List Int) (hab : a.length = b.length) (hl : a.length ≤ 100000) : ∀ (q i f : Nat), i + q = a.length → q < f →
    iter (U14_0 n) f (a, (b, (i : Int))) = some (bif eqI (a.drop i) (b.drop i) then .inl () else .inr false) := by
  intro q
  induction q with
  | zero =>
    intro i f hi hf
    obtain ⟨f, rfl⟩ := iter_exists (show 0 < f by omega)
    rw [iter_succ, U14_0.eq_1, S14_0.eq_1]
    simp only [lt_f (show a.length ≤ i by omega), cond_false]
    rw [List.drop_of_length_le (by omega)]
    rfl
  | succ q ih =>
    intro i f hi hf
    obtain ⟨f, rfl⟩ := iter_exists (show 0 < f by omega)
    rw [iter_succ, U14_0.eq_1, S14_0.eq_1]
    have hi1 : i < a.length := by omega
    have ht := List.getElem?_eq_getElem hi1
    have hi2 : i < b.length := by omega
    have ht2 := List.getElem?_eq_getElem hi2
    simp only [lt_t hi1, cond_true, ixo_nat ht, ixo_nat ht2, Option.bind_some, w64s i (by omega)]
    rw [drop_cons ht, drop_cons ht2, ih (i + 1) f (by omega) (by omega)]
    simp only [eqI]
    cases a[i] != b[i] <;> rfl
def sameL (a b : List Int) : Bool := decide (a.length = b.length) && eqI a b
theorem sameL_iff (a b : List Int) : sameL a b = true ↔ a = b := by
  unfold sameL
  simp only [Bool.and_eq_true, decide_eq_true_eq]
  constructor
  · rintro ⟨h1, h2⟩; exact (eqI_iff h1).mp h2
  · intro h; subst h; exact ⟨rfl, (eqI_iff rfl).mpr rfl⟩
theorem F14_gen (n : Nat) (a b : List Int) (hl : a.length ≤ 100000) (hn : a.length < n) : F14 n a b = some (sameL a b) := by
  unfold F14 L14_0 sameL
  by_cases hab : a.length = b.length
  · have hne : (((a.length : Nat) : Int) != ((b.length : Nat) : Int)) = false := by simp [hab]
    have e := L14_0_gen n a b hab hl a.length 0 n (by omega) hn
    have z : ((0 : Nat) : Int) = (0 : Int) := rfl
    rw [z, List.drop_zero, List.drop_zero] at e
    rw [hne]
    simp only [cond_false]
    rw [e]
    simp only [hab, decide_true, Bool.true_and]
    cases eqI a b <;> rfl
  · have hne : (((a.length : Nat) : Int) != ((b.length : Nat) : Int)) = true := by simp; omega
    rw [hne]
    simp only [cond_true, hab, decide_false, Bool.false_and]
theorem lst_low (b : Bool) : ∀ (l : List Bool) (i : Nat) (j : Int), j ∈ lst b l i → (i : Int) ≤ j ∧ j < (i : Int) + (l.length : Int) := by
  intro l
  induction l with
  | nil => intro i j h; cases h
  | cons x l ih =>
    intro i j h
    simp only [lst] at h
    have tail : j ∈ lst b l (i + 1) → (i : Int) ≤ j ∧ j < (i : Int) + ((x :: l).length : Int) := fun h => by
      have := ih (i + 1) j h
      simp only [List.length_cons]
      omega
    cases hb : bEq x b with
    | true =>
      rw [hb] at h
      rcases List.mem_cons.mp h with h | h
      · simp only [List.length_cons]; omega
      · exact tail h
    | false => rw [hb] at h; exact tail h
theorem lst_inj : ∀ {a b : List Bool} {i : Nat}, a.length = b.length → lst true a i = lst true b i → a = b := by
  intro a
  induction a with
  | nil => intro b i h _; cases b with | nil => rfl | cons => simp at h
  | cons x a ih =>
    intro b i h e
    cases b with
    | nil => simp at h
    | cons y b =>
      have hl : a.length = b.length := by simpa using h
      have t1 : bEq true true = true := rfl
      have t2 : bEq false true = false := rfl
      cases x with
      | true =>
        cases y with
        | true =>
          simp only [lst, t1, cond_true, List.cons.injEq, true_and] at e
          rw [ih hl e]
        | false =>
          simp only [lst, t1, t2, cond_true, cond_false] at e
          have := lst_low true b (i + 1) (i : Int) (by rw [← e]; exact List.mem_cons_self)
          omega
      | false =>
        cases y with
        | true =>
          simp only [lst, t1, t2, cond_true, cond_false] at e
          have := lst_low true a (i + 1) (i : Int) (by rw [e]; exact List.mem_cons_self)
          omega
        | false =>
          simp only [lst, t2, cond_false] at e
          rw [ih hl e]
theorem eqB_same (n : Nat) (g : List S38) (i j : Int) : eqB (seen n g j) (seen n g i) = sameL (lst true (seen n g j) 0) (lst true (seen n g i) 0) := by
  have hl : (seen n g j).length = (seen n g i).length := by rw [seen_len, seen_len]
  rw [Bool.eq_iff_iff, eqB_iff hl, sameL_iff]
  exact ⟨fun h => by rw [h], fun h => lst_inj hl h⟩

/-! ### knots -/
def lk (n : Nat) (g : List S38) (i : Int) : List Int := lst true (seen n g i) 0
def isKnot (n : Nat) (g : List S38) (i : Nat) : Bool := match lk n g (i : Int) with
  | [] => false
  | h :: _ => !(h != (i : Int)) && (lk n g (i : Int)).all fun j => eqB (seen n g j) (seen n g (i : Int))
def kn (n : Nat) (g : List S38) : Nat → Nat → List (List Int)
  | 0, _ => []
  | d + 1, i => bif isKnot n g i then lk n g (i : Int) :: kn n g d (i + 1) else kn n g d (i + 1)
theorem kn_len (n : Nat) (g : List S38) : ∀ (d i : Nat), (kn n g d i).length ≤ d := by
  intro d
  induction d with
  | zero => intro i; simp [kn]
  | succ d ih => intro i; have := ih (i + 1); simp only [kn]; cases isKnot n g i <;> simp <;> omega
theorem lk_in (n : Nat) (g : List S38) (i j : Int) (h : j ∈ lk n g i) : 0 ≤ j ∧ j < (g.length : Int) := by
  have := lst_low true (seen n g i) 0 j h
  rw [seen_len] at this
  omega
theorem lk_len (n : Nat) (g : List S38) (i : Int) : (lk n g i).length ≤ g.length := by
  have := lst_len true (seen n g i) 0
  rw [seen_len] at this
  exact this
/-- All sets. -/
def All (n : Nat) (g : List S38) (all : List (List Bool)) : Prop := all.length = g.length ∧ ∀ j : Nat, j < g.length → all[j]? = some (seen n g (j : Int))
theorem L22_0_eq (n : Nat) (hn : 30000 ≤ n) (hn2 : n ≤ 1000000) (g : List S38) (hg : Nice g) (acc : List (List Int)) : ∀ (q i f : Nat) (st : List (List Bool)), i + q = g.length → q < f → st.length = g.length → (∀ j : Nat, j < i → st[j]? = some (seen n g (j : Int))) →
    ∃ all, iter (U22_0 n) f ((g, ((g.length : Int), (i : Int))), (st, acc)) = some (g, (all, acc)) ∧ All n g all := by
  intro q
  induction q with
  | zero =>
    intro i f st hi hf hl hst
    obtain ⟨f, rfl⟩ := iter_exists (show 0 < f by omega)
    rw [iter_succ, U22_0.eq_1, S22_0.eq_1]
    simp only [lt_f (show g.length ≤ i by omega), cond_false]
    exact ⟨st, rfl, hl, fun j hj => hst j (by omega)⟩
  | succ q ih =>
    intro i f st hi hf hl hst
    have hg1 := hg.1
    obtain ⟨f, rfl⟩ := iter_exists (show 0 < f by omega)
    rw [iter_succ, U22_0.eq_1, S22_0.eq_1]
    have hi1 : i < g.length := by omega
    have hai : 0 ≤ ((i : Nat) : Int) ∧ ((i : Nat) : Int) < (st.length : Int) := by omega
    simp only [lt_t hi1, cond_true]
    rw [F31_eq n hn hn2 g hg i hi1]
    simp only [Option.bind_some, in_ok hai, cond_true, Int.toNat_natCast, w64s i (by omega)]
    refine ih (i + 1) f _ (by omega) (by omega) (by simp [hl]) fun j hj => ?_
    rw [List.getElem?_set]
    by_cases h : i = j
    · subst h; rw [if_pos rfl, if_pos (by omega)]
    · rw [if_neg h]; exact hst j (by omega)
theorem F39_eq (n : Nat) (hn : 1000 ≤ n) (g : List S38) (hg : Nice g) (all : List (List Bool)) (ha : All n g all) (i j : Int) (hi : 0 ≤ i ∧ i < (g.length : Int)) (hj : 0 ≤ j ∧ j < (g.length : Int)) :
    F39 n j i all = some (!eqB (seen n g j) (seen n g i), (i, all)) := by
  have hg1 := hg.1
  have e1 : all[j.toNat]? = some (seen n g j) := by have := ha.2 j.toNat (by omega); rwa [show ((j.toNat : Nat) : Int) = j by omega] at this
  have e2 : all[i.toNat]? = some (seen n g i) := by have := ha.2 i.toNat (by omega); rwa [show ((i.toNat : Nat) : Int) = i by omega] at this
  unfold F39 F36
  have b1 : 0 ≤ j ∧ j < (all.length : Int) := by rw [ha.1]; exact hj
  have b2 : 0 ≤ i ∧ i < (all.length : Int) := by rw [ha.1]; exact hi
  simp only [in_ok b1, in_ok b2, cond_true, e1, e2, Option.bind_some]
  rw [F37_eq n _ _ (by rw [seen_len, seen_len]) (by rw [seen_len]; omega) (by rw [seen_len]; omega)]
  rfl
theorem L33x2_0_eq (n : Nat) (hn : 1000 ≤ n) (g : List S38) (hg : Nice g) (all : List (List Bool)) (ha : All n g all) (i0 : Int) (hi0 : 0 ≤ i0 ∧ i0 < (g.length : Int)) (l : List Int) (hl : l.length ≤ 1000) (hin : Inn g.length l) : ∀ (q i f : Nat), i + q = l.length → q < f →
    ∃ k : Nat, iter (U33x2_0 n) f ((l, ((l.length : Int), (i : Int))), (i0, all)) = some (bif (l.drop i).all (fun j => eqB (seen n g j) (seen n g i0)) then .inl (i0, all) else .inr ((k : Int), (i0, all))) := by
  intro q
  induction q with
  | zero =>
    intro i f hi hf
    obtain ⟨f, rfl⟩ := iter_exists (show 0 < f by omega)
    rw [iter_succ, U33x2_0.eq_1, S33x2_0.eq_1]
    simp only [lt_f (show l.length ≤ i by omega), cond_false]
    rw [List.drop_of_length_le (by omega)]
    exact ⟨0, rfl⟩
  | succ q ih =>
    intro i f hi hf
    obtain ⟨f, rfl⟩ := iter_exists (show 0 < f by omega)
    rw [iter_succ, U33x2_0.eq_1, S33x2_0.eq_1]
    have hi1 : i < l.length := by omega
    have ht := List.getElem?_eq_getElem hi1
    have hj := hin _ (List.getElem_mem hi1)
    simp only [lt_t hi1, cond_true, ixo_nat ht, Option.bind_some, w64s i (by omega)]
    rw [F39_eq n hn g hg all ha i0 _ hi0 hj, drop_cons ht, List.all_cons]
    simp only [Option.bind_some]
    cases eqB (seen n g l[i]) (seen n g i0) with
    | false => exact ⟨i, rfl⟩
    | true => simp only [Bool.not_true, cond_false, Bool.true_and]; exact ih (i + 1) f (by omega) (by omega)
theorem F38x1_eq (n : Nat) (hn : 10000 ≤ n) (g : List S38) (hg : Nice g) (all : List (List Bool)) (ha : All n g all) (i0 : Int) (hi0 : 0 ≤ i0 ∧ i0 < (g.length : Int)) (l : List Int) (hl : l.length ≤ 1000) (hin : Inn g.length l) :
    F38x1 n l i0 all = some (!l.all (fun j => eqB (seen n g j) (seen n g i0)), (i0, all)) := by
  unfold F38x1 F33x2 L33x2_0
  obtain ⟨k, e⟩ := L33x2_0_eq n (by omega) g hg all ha i0 hi0 l hl hin l.length 0 n (by omega) (by omega)
  have z : ((0 : Nat) : Int) = (0 : Int) := rfl
  rw [z, List.drop_zero] at e
  rw [e]
  cases l.all (fun j => eqB (seen n g j) (seen n g i0)) with
  | true => rfl
  | false =>
    have h : decide ((k : Int) ≥ 0) = true := by simp
    simp only [cond_false, Option.bind_some, Sum.elim_inr, h, Bool.not_false]
theorem L22_1_eq (n : Nat) (hn : 30000 ≤ n) (g : List S38) (hg : Nice g) (all : List (List Bool)) (ha : All n g all) : ∀ (q i f : Nat) (acc : List (List Int)), i + q = g.length → q < f → acc.length ≤ i →
    iter (U22_1 n) f (((g.length : Int), (i : Int)), (all, acc)) = some (acc ++ kn n g q i) := by
  intro q
  induction q with
  | zero =>
    intro i f acc hi hf hac
    obtain ⟨f, rfl⟩ := iter_exists (show 0 < f by omega)
    rw [iter_succ, U22_1.eq_1, S22_1.eq_1]
    simp only [lt_f (show g.length ≤ i by omega), cond_false]
    simp [kn]
  | succ q ih =>
    intro i f acc hi hf hac
    have hg1 := hg.1
    obtain ⟨f, rfl⟩ := iter_exists (show 0 < f by omega)
    rw [iter_succ, U22_1.eq_1, S22_1.eq_1]
    have hi1 : i < g.length := by omega
    have hai : 0 ≤ ((i : Nat) : Int) ∧ ((i : Nat) : Int) < (all.length : Int) := by rw [ha.1]; omega
    have hal := ha.2 i hi1
    have hF : F30 n (seen n g (i : Int)) true = some (lk n g (i : Int)) := F30_eq n _ _ (by rw [seen_len]; omega) (by rw [seen_len]; omega)
    have hll := lk_len n g (i : Int)
    simp only [lt_t hi1, cond_true, in_ok hai, Int.toNat_natCast, hal, Option.bind_some, hF, w64s i (by omega)]
    have hk38 := F38x1_eq n (by omega) g hg all ha (i : Int) (by omega) (lk n g (i : Int)) (by omega) (fun j hj => lk_in n g (i : Int) j hj)
    simp only [kn]
    cases hlk : lk n g (i : Int) with
    | nil =>
      have h0 : (((([] : List Int).length : Nat) : Int) == 0) = true := rfl
      have hik : isKnot n g i = false := by simp only [isKnot, hlk]
      simp only [h0, hik, cond_true, cond_false]
      exact ih (i + 1) f acc (by omega) (by omega) (by omega)
    | cons h t =>
      have hik : isKnot n g i = (!(h != (i : Int)) && (lk n g (i : Int)).all fun j => eqB (seen n g j) (seen n g (i : Int))) := by simp only [isKnot, hlk]
      rw [← hlk, hik]
      have h0 : ((((lk n g (i : Int)).length : Nat) : Int) == 0) = false := by rw [hlk]; simp; omega
      have hix : ixo (lk n g (i : Int)) (0 : Int) = some h := by
        have : (lk n g (i : Int))[0]? = some h := by rw [hlk]; rfl
        exact ixo_nat this
      simp only [h0, cond_false, hix, Option.bind_some]
      cases hh : h != (i : Int) with
      | true =>
        simp only [cond_true, Bool.not_true, Bool.false_and, cond_false]
        exact ih (i + 1) f acc (by omega) (by omega) (by omega)
      | false =>
        simp only [cond_false, Bool.not_false, Bool.true_and]
        rw [hk38]
        simp only [Option.bind_some, bNot, Bool.not_not]
        cases (lk n g (i : Int)).all (fun j => eqB (seen n g j) (seen n g (i : Int))) with
        | false =>
          simp only [cond_false]
          exact ih (i + 1) f acc (by omega) (by omega) (by omega)
        | true =>
          rw [app_small (by simp only [List.length_cons, List.length_nil]; omega)]
          simp only [cond_true]
          rw [ih (i + 1) f _ (by omega) (by omega) (by simp; omega)]
          simp
def knots (n : Nat) (g : List S38) : List (List Int) := bif valid g then kn n g g.length 0 else []
theorem F22_eq (n : Nat) (hn : 30000 ≤ n) (hn2 : n ≤ 1000000) (g : List S38) (hx : Fits n g) : F22 n g = some (knots n g) := by
  unfold F22 knots L22_0 L22_1
  rw [F12_eq n (by omega) g hx]
  cases hv : valid g with
  | false => rfl
  | true =>
    have hg := valid_nice hv
    have hg1 := hg.1
    simp only [Option.bind_some, bNot, Bool.not_true, cond_false, cond_true]
    rw [make_small (by omega)]
    obtain ⟨all, e, ha⟩ := L22_0_eq n hn hn2 g hg [] g.length 0 n (List.replicate g.length []) (by omega) (by omega) (by simp) (fun j hj => by omega)
    have z : ((0 : Nat) : Int) = (0 : Int) := rfl
    rw [z] at e
    simp only [cond_true, Int.toNat_natCast]
    rw [e]
    simp only [Option.bind_some]
    have e2 := L22_1_eq n hn g hg all ha g.length 0 n [] (by omega) (by omega) (by simp)
    rw [z] at e2
    rw [e2]
    rfl

/-! ### the reference's -/
theorem reach_lk (n : Nat) {g : List S38} (hv : valid g = true) {j : Int} (hj : 0 ≤ j ∧ j < (g.length : Int)) : reach n g j = lk n g j := by
  unfold reach lk
  rw [hv, in_ok hj]
  rfl
theorem L23_1_eq (n : Nat) (hn : 30000 ≤ n) (hn2 : n ≤ 1000000) (g : List S38) (hx : Fits n g) (i : Int) (l : List Int) (hl : l.length ≤ 1000) (out : List (List Int)) : ∀ (q k f : Nat) (m : Bool), k + q = l.length → q < f →
    iter (U23_1 n) f ((g, (i, (l, (m, (k : Int))))), out) = some ((g, (i, (l, m && (l.drop k).all fun j => sameL (reach n g j) l))), out) := by
  intro q
  induction q with
  | zero =>
    intro k f m hi hf
    obtain ⟨f, rfl⟩ := iter_exists (show 0 < f by omega)
    rw [iter_succ, U23_1.eq_1, S23_1.eq_1]
    simp only [lt_f (show l.length ≤ k by omega), cond_false]
    rw [List.drop_of_length_le (by omega)]
    simp
  | succ q ih =>
    intro k f m hi hf
    obtain ⟨f, rfl⟩ := iter_exists (show 0 < f by omega)
    rw [iter_succ, U23_1.eq_1, S23_1.eq_1]
    have hi1 : k < l.length := by omega
    have ht := List.getElem?_eq_getElem hi1
    simp only [lt_t hi1, cond_true, ixo_nat ht, Option.bind_some, w64s k (by omega)]
    rw [drop_cons ht, List.all_cons, F18_eq n hn hn2 g hx]
    simp only [Option.bind_some]
    rw [F14_gen n _ _ (by have := reach_len n g l[k]; omega) (by have := reach_len n g l[k]; omega)]
    simp only [Option.bind_some]
    cases m with
    | false =>
      simp only [cond_false]
      rw [ih (k + 1) f false (by omega) (by omega)]
      simp
    | true =>
      simp only [cond_true]
      rw [ih (k + 1) f _ (by omega) (by omega)]
      simp
theorem L23_0_eq (n : Nat) (hn : 30000 ≤ n) (hn2 : n ≤ 1000000) (g : List S38) (hv : valid g = true) (hx : Fits n g) : ∀ (q i f : Nat) (acc : List (List Int)), i + q = g.length → q < f → acc.length ≤ i →
    iter (U23_0 n) f ((g, (i : Int)), acc) = some (acc ++ kn n g q i) := by
  have hg := valid_nice hv
  have hg1 := hg.1
  intro q
  induction q with
  | zero =>
    intro i f acc hi hf hac
    obtain ⟨f, rfl⟩ := iter_exists (show 0 < f by omega)
    rw [iter_succ, U23_0.eq_1, S23_0.eq_1]
    simp only [lt_f (show g.length ≤ i by omega), cond_false]
    simp [kn]
  | succ q ih =>
    intro i f acc hi hf hac
    obtain ⟨f, rfl⟩ := iter_exists (show 0 < f by omega)
    rw [iter_succ, U23_0.eq_1, S23_0.eq_1]
    have hi1 : i < g.length := by omega
    have hR : F18 n g (i : Int) = some (lk n g (i : Int)) := by rw [F18_eq n hn hn2 g hx, reach_lk n hv (by omega)]
    have hll := lk_len n g (i : Int)
    simp only [lt_t hi1, cond_true, hR, Option.bind_some, w64s i (by omega)]
    have hall : (lk n g (i : Int)).all (fun j => sameL (reach n g j) (lk n g (i : Int))) = (lk n g (i : Int)).all (fun j => eqB (seen n g j) (seen n g (i : Int))) := by
      rw [Bool.eq_iff_iff, List.all_eq_true, List.all_eq_true]
      constructor
      · intro h j hj
        have := h j hj
        rw [reach_lk n hv (lk_in n g _ j hj)] at this
        rw [eqB_same]; exact this
      · intro h j hj
        have := h j hj
        rw [eqB_same] at this
        rw [reach_lk n hv (lk_in n g _ j hj)]; exact this
    have e := L23_1_eq n hn hn2 g hx (i : Int) (lk n g (i : Int)) (by omega) acc (lk n g (i : Int)).length 0 n true (by omega) (by omega)
    have z : ((0 : Nat) : Int) = (0 : Int) := rfl
    rw [z, List.drop_zero, hall, Bool.true_and] at e
    simp only [kn]
    cases hlk : lk n g (i : Int) with
    | nil =>
      have h0 : (((([] : List Int).length : Nat) : Int) == 0) = true := rfl
      have hik : isKnot n g i = false := by simp only [isKnot, hlk]
      simp only [h0, hik, cond_true, cond_false]
      exact ih (i + 1) f acc (by omega) (by omega) (by omega)
    | cons h t =>
      have hik : isKnot n g i = (!(h != (i : Int)) && (lk n g (i : Int)).all fun j => eqB (seen n g j) (seen n g (i : Int))) := by simp only [isKnot, hlk]
      rw [← hlk, hik]
      have h0 : ((((lk n g (i : Int)).length : Nat) : Int) == 0) = false := by rw [hlk]; simp; omega
      have hix : ixo (lk n g (i : Int)) (0 : Int) = some h := by
        have : (lk n g (i : Int))[0]? = some h := by rw [hlk]; rfl
        exact ixo_nat this
      simp only [h0, cond_false, hix, Option.bind_some]
      cases hh : h != (i : Int) with
      | true =>
        simp only [cond_true, Bool.not_true, Bool.false_and, cond_false]
        exact ih (i + 1) f acc (by omega) (by omega) (by omega)
      | false =>
        simp only [cond_false, Bool.not_false, Bool.true_and]
        unfold L23_1
        rw [e]
        simp only [Option.bind_some]
        cases (lk n g (i : Int)).all (fun j => eqB (seen n g j) (seen n g (i : Int))) with
        | false =>
          simp only [cond_false, w64s i (by omega)]
          exact ih (i + 1) f acc (by omega) (by omega) (by omega)
        | true =>
          rw [app_small (by simp only [List.length_cons, List.length_nil]; omega)]
          simp only [cond_true, w64s i (by omega)]
          rw [ih (i + 1) f _ (by omega) (by omega) (by simp; omega)]
          simp
theorem F23_eq (n : Nat) (hn : 30000 ≤ n) (hn2 : n ≤ 1000000) (g : List S38) (hx : Fits n g) : F23 n g = some (knots n g) := by
  unfold F23 knots L23_0
  rw [F13_eq n (by omega) g hx]
  cases hv : valid g with
  | false => rfl
  | true =>
    have hg1 := (valid_nice hv).1
    simp only [Option.bind_some, bNot, Bool.not_true, cond_false, cond_true]
    have e := L23_0_eq n hn hn2 g hv hx g.length 0 n [] (by omega) (by omega) (by simp)
    have z : ((0 : Nat) : Int) = (0 : Int) := rfl
    rw [z] at e
    rw [e]
    rfl
theorem L21_0_eq (n : Nat) (K : List (List Int)) (hK : K.length ≤ 1000) (hl : ∀ l ∈ K, l.length ≤ 1000) (hn : 10000 ≤ n) : ∀ (q i f : Nat), i + q = K.length → q < f → iter (U21_0 n) f (K, (K, (i : Int))) = some (.inl ()) := by
  intro q
  induction q with
  | zero =>
    intro i f hi hf
    obtain ⟨f, rfl⟩ := iter_exists (show 0 < f by omega)
    rw [iter_succ, U21_0.eq_1, S21_0.eq_1]
    simp only [lt_f (show K.length ≤ i by omega), cond_false]
  | succ q ih =>
    intro i f hi hf
    obtain ⟨f, rfl⟩ := iter_exists (show 0 < f by omega)
    rw [iter_succ, U21_0.eq_1, S21_0.eq_1]
    have hi1 : i < K.length := by omega
    have ht := List.getElem?_eq_getElem hi1
    have h1 := hl _ (List.getElem_mem hi1)
    simp only [lt_t hi1, cond_true, ixo_nat ht, Option.bind_some, w64s i (by omega)]
    rw [F14_eq n _ (by omega) (by omega)]
    simp only [Option.bind_some, bNot, Bool.not_true, cond_false]
    exact ih (i + 1) f (by omega) (by omega)
theorem F21_eq (n : Nat) (K : List (List Int)) (hK : K.length ≤ 1000) (hl : ∀ l ∈ K, l.length ≤ 1000) (hn : 10000 ≤ n) : F21 n K K = some true := by
  unfold F21 L21_0
  have hne : (((K.length : Nat) : Int) != ((K.length : Nat) : Int)) = false := by simp
  have e := L21_0_eq n K hK hl hn K.length 0 n (by omega) (by omega)
  have z : ((0 : Nat) : Int) = (0 : Int) := rfl
  rw [z] at e
  rw [hne]
  simp only [cond_false]
  rw [e]
  rfl
theorem kn_elem (n : Nat) (g : List S38) : ∀ (d i : Nat) (l : List Int), l ∈ kn n g d i → l.length ≤ g.length := by
  intro d
  induction d with
  | zero => intro i l h; cases h
  | succ d ih =>
    intro i l h
    simp only [kn] at h
    cases hk : isKnot n g i with
    | false => rw [hk] at h; exact ih (i + 1) l h
    | true =>
      rw [hk] at h
      rcases List.mem_cons.mp h with h | h
      · rw [h]; exact lk_len n g _
      · exact ih (i + 1) l h
theorem lawCycles (g : List S38) (i : Int) : F4 100000 g i = some true := by
  unfold F4
  rw [F10_eq 100000 (by omega), awake]
  cases hs : small g with
  | false => rfl
  | true =>
    have hx := small_fits hs
    have hg40 : g.length ≤ 40 := by
      simp only [small, Bool.and_eq_true, decide_eq_true_eq] at hs
      exact hs.1
    simp only [Option.bind_some, bNot, Bool.not_true, cond_false, cond_true]
    rw [F19_eq _ (by omega) g hx, F20_eq _ (by omega) g hx]
    simp only [Option.bind_some]
    rw [F14_eq _ _ (by have := cyc_len g i; omega) (by have := cyc_len g i; omega)]
    simp only [Option.bind_some, cond_true]
    rw [F22_eq _ (by omega) (by omega) g hx, F23_eq _ (by omega) (by omega) g hx]
    simp only [Option.bind_some]
    have hk : (knots 100000 g).length ≤ 1000 ∧ ∀ l ∈ knots 100000 g, l.length ≤ 1000 := by
      unfold knots
      cases valid g with
      | false => exact ⟨by simp, fun l hl => by cases hl⟩
      | true =>
        have := kn_len 100000 g g.length 0
        exact ⟨by simp only [cond_true]; omega, fun l hl => by have := kn_elem 100000 g g.length 0 l hl; omega⟩
    rw [F21_eq _ _ hk.1 hk.2 (by omega)]
    rfl
end Go.Abs.Wg
end
