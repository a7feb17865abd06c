/- The graphs that are made of numbers; the law, plain. -/
import Derived.Test.YtdibclnfnkjncaaStepsB
section
set_option linter.all false
set_option linter.unusedVariables false
set_option linter.unusedSimpArgs false
set_option linter.unnecessarySimpa false
/-
  Waitgraph: the graphs that are made of numbers.
-/
namespace Go.Abs.Wg
open Go Go.Abs Go.G19 Go.Abs.AbsP19

theorem tmod_b (v : Int) {m : Int} (hm : 0 < m) : -m < Int.tmod v m ∧ Int.tmod v m < m := by
  refine ⟨?_, Int.tmod_lt_of_pos v hm⟩
  rcases Int.le_total 0 v with h | h
  · have := Int.tmod_nonneg m h; omega
  · have h1 := Int.tmod_lt_of_pos (-v) hm
    rw [Int.neg_tmod] at h1
    omega
theorem F26_eq (n : Nat) (v m : Int) (h1 : 1 ≤ m) (h2 : m ≤ 1000000) : ∃ r, F26 n v m = some r ∧ 0 ≤ r ∧ r < m := by
  unfold F26
  have b1 : decide (m < 1) = false := by simp; omega
  have b2 : (m == 0) = false := by simp; omega
  have h := tmod_b v (show 0 < m by omega)
  rw [b1, b2]
  simp only [cond_false]
  cases hc : decide (Int.tmod v m < 0) with
  | true =>
    have : Int.tmod v m < 0 := by simpa using hc
    exact ⟨_, rfl, by rw [w64 (by omega)]; omega, by rw [w64 (by omega)]; omega⟩
  | false =>
    have : ¬ Int.tmod v m < 0 := by simpa using hc
    exact ⟨_, rfl, by omega, h.2⟩
theorem F40_eq (n : Nat) (m : Int) (l : List Int) (p : Int) (h1 : 1 ≤ m) (h2 : m ≤ 1000000) (hl : l.length ≤ 1000) (hp : 0 ≤ p) (hp2 : p ≤ 1000) :
    ∃ r p', F40 n m l p = some (r, (l, p')) ∧ (0 ≤ r ∧ r < m) ∧ (0 ≤ p' ∧ p' ≤ 1000) := by
  unfold F40
  cases hc : decide (p ≥ ((l.length : Nat) : Int)) with
  | true => exact ⟨0, p, rfl, by omega, by omega⟩
  | false =>
    have hc' : ¬ p ≥ ((l.length : Nat) : Int) := by simpa using hc
    obtain ⟨k, rfl⟩ : ∃ k : Nat, p = (k : Int) := ⟨p.toNat, by omega⟩
    have hk : k < l.length := by omega
    have w1 : IntKind.wrap .i64 ((k : Int) + 1) = ((k + 1 : Nat) : Int) := w64s k (by omega)
    have w2 : IntKind.wrap .i64 (((k + 1 : Nat) : Int) - 1) = (k : Int) := by rw [w64 (by omega)]; omega
    have ht := List.getElem?_eq_getElem hk
    obtain ⟨r, e, hr⟩ := F26_eq n l[k] m h1 h2
    simp only [cond_false, w1, w2, ixo_nat ht, Option.bind_some, e]
    exact ⟨r, _, rfl, hr, by omega, by omega⟩

theorem asc_snoc (len : Nat) (k : Int) (h0 : 0 ≤ k) (h1 : k < (len : Int)) : ∀ (acc : List Int) (p : Option Int), asc len p acc = true → (∀ j ∈ acc, j < k) → (∀ q, p = some q → q < k) → asc len p (acc ++ [k]) = true := by
  intro acc
  induction acc with
  | nil =>
    intro p _ _ hp
    simp only [List.nil_append, asc]
    have b1 : decide (k < 0) = false := by simp; omega
    have b2 : decide (k ≥ (len : Int)) = false := by simp; omega
    rw [b1, b2]
    cases p with
    | none => rfl
    | some q => have := hp q rfl; have b3 : decide (q ≥ k) = false := by simp; omega
                simp [b3]
  | cons j acc ih =>
    intro p h hj _
    simp only [List.cons_append, asc, Bool.and_eq_true] at h ⊢
    exact ⟨h.1, ih (some j) h.2 (fun q hq => hj q (List.mem_cons_of_mem _ hq)) (fun q hq => by cases hq; exact hj j List.mem_cons_self)⟩

theorem u64n (k : Nat) (h : k ≤ 1000000) : IntKind.wrap .u64 (k : Int) = (k : Int) := by
  unfold IntKind.wrap; simp [IntKind.signed, IntKind.bits]; omega
theorem blt_t {i n : Nat} (h : i < n) : Nat.blt i n = true := Nat.ble_eq_true_of_le h
theorem fill_j (i : Nat) : Nat.beq (Int.toNat (i : Int)) i = true := by rw [Int.toNat_natCast]; exact Nat.beq_refl i

theorem L25_1_eq (n : Nat) (al on : Bool) (N : Nat) (bits K : Int) (xs : List S38) (l : List Int) (p : Int) (hN : N ≤ 9) (hi : xs.length < N) : ∀ (d k f : Nat) (acc : List Int), k + d = N → d < f →
    asc N none acc = true → (∀ j ∈ acc, j < (k : Int)) → acc.length ≤ 4 →
    ∃ acc', iter (U25_1 n) f ((al, (on, ((N : Int), ((xs.length : Int), (bits, (k : Int)))))), ((xs, (N, K)), ((l, p), acc))) = some ((al, (on, ((N : Int), (xs.length : Int)))), ((xs, (N, K)), ((l, p), acc'))) ∧ asc N none acc' = true ∧ acc'.length ≤ 4 := by
  intro d
  induction d with
  | zero =>
    intro k f acc hk hf h1 h2 h3
    obtain ⟨f, rfl⟩ := iter_exists (show 0 < f by omega)
    rw [iter_succ, U25_1.eq_1, S25_1.eq_1]
    simp only [lt_f (show N ≤ k by omega), cond_false]
    exact ⟨acc, rfl, h1, h3⟩
  | succ d ih =>
    intro k f acc hk hf h1 h2 h3
    obtain ⟨f, rfl⟩ := iter_exists (show 0 < f by omega)
    rw [iter_succ, U25_1.eq_1, S25_1.eq_1]
    have hkN : k < N := by omega
    have b0 : decide ((k : Int) < 0) = false := by simp
    simp only [lt_t hkN, cond_true, u64n k (by omega), b0, cond_false]
    have skip := fun acc h1 h2 h3 => ih (k + 1) f acc (by omega) (by omega) h1 h2 h3
    cases (IntKind.wrap .i64 (BitVec.ofInt (IntKind.bits .i64) (Int.fdiv bits (2 ^ (min (Int.toNat (k : Int)) (IntKind.bits .i64)))) &&& BitVec.ofInt (IntKind.bits .i64) (1 : Int)).toNat == (1 : Int)) with
    | false =>
      simp only [cond_false, w64s k (by omega)]
      exact skip acc h1 (fun j hj => by have := h2 j hj; omega) h3
    | true =>
      simp only [cond_true, fill_j, ge0, blt_t hi, Bool.and_self]
      cases h4 : decide (((acc.length : Nat) : Int) < (4 : Int)) with
      | false =>
        simp only [cond_false, w64s k (by omega)]
        exact skip acc h1 (fun j hj => by have := h2 j hj; omega) h3
      | true =>
        have h4' : ((acc.length : Nat) : Int) < 4 := by simpa using h4
        simp only [cond_true, w64s k (by omega)]
        rw [app_small (by simp; omega)]
        simp only [cond_true]
        refine skip (acc ++ [(k : Int)]) (asc_snoc N k (by omega) (by omega) acc none h1 h2 (fun q hq => by cases hq)) (fun j hj => ?_) (by simp; omega)
        rcases List.mem_append.mp hj with hj | hj
        · have := h2 j hj; omega
        · simp at hj; omega

/-- How many of its successors a node waits for. -/
def Kc (al on : Bool) (x : S38) : Prop := (al = true → x.K = (x.Next.length : Int)) ∧ (al = false → on = true → x.K = if x.Next.length = 0 then 0 else 1)
def NodeOK (N : Nat) (al on : Bool) (x : S38) : Prop := okNode N x = true ∧ x.Next.length ≤ 4 ∧ Kc al on x
theorem node_of {N : Nat} {al on : Bool} {K : Int} {acc : List Int} (h1 : asc N none acc = true) (h2 : acc.length ≤ 4) (hK : 0 ≤ K ∧ K ≤ (acc.length : Int) ∧ (0 < acc.length → 0 < K)) (hc : Kc al on (S38.mk K acc)) : NodeOK N al on (S38.mk K acc) := by
  refine ⟨?_, h2, hc⟩
  unfold okNode okHead
  rw [h1]
  have b1 : decide (K < 0) = false := by simp; omega
  have b2 : decide (K > (acc.length : Int)) = false := by simp; omega
  simp only [b1, b2, Bool.not_false, Bool.true_and, Bool.and_true]
  rcases Nat.eq_zero_or_pos acc.length with h | h
  · obtain rfl : acc = [] := List.length_eq_zero_iff.mp h
    simp
  · have := hK.2.2 h
    have b3 : (K == 0) = false := by simp; omega
    simp [b3]

theorem shl_ok (N : Nat) (h1 : 1 ≤ N) (h2 : N ≤ 9) : ∃ m : Int, IntKind.wrap .i64 ((1 : Int) * 2 ^ (min (Int.toNat (N : Int)) (IntKind.bits .i64))) = m ∧ 1 ≤ m ∧ m ≤ 1000000 := by
  have : N = 1 ∨ N = 2 ∨ N = 3 ∨ N = 4 ∨ N = 5 ∨ N = 6 ∨ N = 7 ∨ N = 8 ∨ N = 9 := by omega
  rcases this with rfl | rfl | rfl | rfl | rfl | rfl | rfl | rfl | rfl <;> exact ⟨_, rfl, by decide, by decide⟩

theorem L25_0_eq (n : Nat) (hn : 1000 ≤ n) (al on : Bool) (N : Nat) (hN1 : 1 ≤ N) (hN : N ≤ 9) (l : List Int) (hl : l.length ≤ 1000) : ∀ (d f : Nat) (xs : List S38) (p : Int), xs.length + d = N → d < f → (0 ≤ p ∧ p ≤ 1000) → (∀ x ∈ xs, NodeOK N al on x) →
    ∃ xs', iter (U25_0 n) f ((al, (on, ((N : Int), (xs.length : Int)))), ((xs, N), (l, p))) = some (xs', N) ∧ xs'.length = N ∧ ∀ x ∈ xs', NodeOK N al on x := by
  intro d
  induction d with
  | zero =>
    intro f xs p hk hf hp hx
    obtain ⟨f, rfl⟩ := iter_exists (show 0 < f by omega)
    rw [iter_succ, U25_0.eq_1, S25_0.eq_1]
    simp only [lt_f (show N ≤ xs.length by omega), cond_false]
    exact ⟨xs, rfl, by omega, hx⟩
  | succ d ih =>
    intro f xs p hk hf hp hx
    obtain ⟨f, rfl⟩ := iter_exists (show 0 < f by omega)
    rw [iter_succ, U25_0.eq_1, S25_0.eq_1]
    have hi : xs.length < N := by omega
    have b0 : decide ((N : Int) < 0) = false := by simp
    obtain ⟨m, hm, hm1, hm2⟩ := shl_ok N hN1 hN
    obtain ⟨r1, p1, e1, hr1, hp1⟩ := F40_eq n m l p hm1 hm2 hl hp.1 hp.2
    obtain ⟨r2, p2, e2, hr2, hp2⟩ := F40_eq n 4 l p1 (by omega) (by omega) hl hp1.1 hp1.2
    simp only [lt_t hi, cond_true, u64n N (by omega), b0, cond_false, hm, e1, Option.bind_some, e2]
    -- what follows, for whatever bits
    have next : ∀ (x : S38) (q : Int), (0 ≤ q ∧ q ≤ 1000) → NodeOK N al on x → ∃ xs', iter (U25_0 n) f ((al, (on, ((N : Int), ((xs.length + 1 : Nat) : Int)))), ((xs ++ [x], N), (l, q))) = some (xs', N) ∧ xs'.length = N ∧ ∀ x ∈ xs', NodeOK N al on x := by
      intro x q hq hxo
      have := ih f (xs ++ [x]) q (by simp; omega) (by omega) hq (fun y hy => by
        rcases List.mem_append.mp hy with hy | hy
        · exact hx y hy
        · simp at hy; subst hy; exact hxo)
      simpa using this
    have z : (0 : Int) = ((0 : Nat) : Int) := rfl
    have body : ∀ bits : Int, ∃ acc, L25_1 n al on (N : Int) (xs.length : Int) bits 0 xs N 0 l p2 [] = some ((al, (on, ((N : Int), (xs.length : Int)))), ((xs, (N, 0)), ((l, p2), acc))) ∧ asc N none acc = true ∧ acc.length ≤ 4 := by
      intro bits
      unfold L25_1
      exact L25_1_eq n al on N bits 0 xs l p2 hN hi N 0 n [] (by omega) (by omega) rfl (fun j hj => by cases hj) (by simp)
    cases (r2 == (0 : Int)) with
    | true =>
      obtain ⟨acc, ea, ha1, ha2⟩ := body 0
      simp only [cond_true, ea, Option.bind_some, fill_j, ge0, blt_t hi, Bool.and_self, w64s xs.length (by omega)]
      cases hm : decide (((acc.length : Nat) : Int) > 0) with
      | false =>
        have h0 : ¬ ((acc.length : Nat) : Int) > 0 := by simpa using hm
        have hac : acc.length = 0 := by omega
        simp only [cond_false]
        exact next _ _ hp2 (node_of ha1 ha2 ⟨by omega, by omega, fun h => by omega⟩ ⟨fun _ => by simp [hac], fun _ _ => by simp [hac]⟩)
      | true =>
        have h0 : ((acc.length : Nat) : Int) > 0 := by simpa using hm
        obtain ⟨r3, p3, e3, hr3, hp3⟩ := F40_eq n ((acc.length : Nat) : Int) l p2 (by omega) (by omega) hl hp2.1 hp2.2
        simp only [cond_true, e3, Option.bind_some, fill_j, ge0, blt_t hi, Bool.and_self]
        cases al with
        | true =>
          simp only [cond_true]
          exact next _ _ hp3 (node_of ha1 ha2 ⟨by omega, by omega, fun h => by omega⟩ ⟨fun _ => rfl, fun h => by cases h⟩)
        | false =>
          cases on with
          | true =>
            simp only [cond_true, cond_false]
            exact next _ _ hp3 (node_of ha1 ha2 ⟨by omega, by omega, fun h => by omega⟩ ⟨fun h => (by cases h), fun _ _ => by show (1 : Int) = _; rw [if_neg (show ¬ acc.length = 0 by omega)]⟩)
          | false =>
            simp only [cond_false]
            rw [w64 (by omega)]
            exact next _ _ hp3 (node_of ha1 ha2 ⟨by omega, by omega, fun h => by omega⟩ ⟨fun h => (by cases h), fun _ h => by cases h⟩)
    | false =>
      obtain ⟨acc, ea, ha1, ha2⟩ := body r1
      simp only [cond_false, ea, Option.bind_some, fill_j, ge0, blt_t hi, Bool.and_self, w64s xs.length (by omega), cond_true]
      cases hm : decide (((acc.length : Nat) : Int) > 0) with
      | false =>
        have h0 : ¬ ((acc.length : Nat) : Int) > 0 := by simpa using hm
        have hac : acc.length = 0 := by omega
        simp only [cond_false]
        exact next _ _ hp2 (node_of ha1 ha2 ⟨by omega, by omega, fun h => by omega⟩ ⟨fun _ => by simp [hac], fun _ _ => by simp [hac]⟩)
      | true =>
        have h0 : ((acc.length : Nat) : Int) > 0 := by simpa using hm
        obtain ⟨r3, p3, e3, hr3, hp3⟩ := F40_eq n ((acc.length : Nat) : Int) l p2 (by omega) (by omega) hl hp2.1 hp2.2
        simp only [cond_true, e3, Option.bind_some, fill_j, ge0, blt_t hi, Bool.and_self]
        cases al with
        | true =>
          simp only [cond_true]
          exact next _ _ hp3 (node_of ha1 ha2 ⟨by omega, by omega, fun h => by omega⟩ ⟨fun _ => rfl, fun h => by cases h⟩)
        | false =>
          cases on with
          | true =>
            simp only [cond_true, cond_false]
            exact next _ _ hp3 (node_of ha1 ha2 ⟨by omega, by omega, fun h => by omega⟩ ⟨fun h => (by cases h), fun _ _ => by show (1 : Int) = _; rw [if_neg (show ¬ acc.length = 0 by omega)]⟩)
          | false =>
            simp only [cond_false]
            rw [w64 (by omega)]
            exact next _ _ hp3 (node_of ha1 ha2 ⟨by omega, by omega, fun h => by omega⟩ ⟨fun h => (by cases h), fun _ h => by cases h⟩)

structure Made (al on : Bool) (g : List S38) : Prop where
  pos : 1 ≤ g.length
  len : g.length ≤ 9
  node : ∀ x ∈ g, NodeOK g.length al on x
theorem F25_eq (n : Nat) (hn : 1000 ≤ n) (l : List Int) (hl : l.length ≤ 1000) (al on : Bool) : ∃ g, F25 n l al on = some g ∧ Made al on g := by
  unfold F25 L25_0
  obtain ⟨r, p, e, hr, hp⟩ := F40_eq n 9 l 0 (by omega) (by omega) hl (by omega) (by omega)
  obtain ⟨N, hN⟩ : ∃ N : Nat, IntKind.wrap .i64 ((1 : Int) + r) = (N : Int) := ⟨(1 + r).toNat, by rw [w64 (by omega)]; omega⟩
  have hN' : (N : Int) = 1 + r := by rw [← hN, w64 (by omega)]
  simp only [e, Option.bind_some, hN, Int.toNat_natCast]
  rw [make_small (by omega)]
  obtain ⟨xs, e1, h1, h2⟩ := L25_0_eq n hn al on N (by omega) (by omega) l hl N n [] p (by simp) (by omega) hp (fun x hx => by cases hx)
  simp only [cond_true]
  have z : ((([] : List S38).length : Nat) : Int) = (0 : Int) := rfl
  rw [z] at e1
  rw [e1]
  simp only [Option.bind_some]
  have ht : List.take N (xs ++ S38.mk 0 [] :: List.replicate (N - (xs.length + 1)) (S38.mk 0 [])) = xs := by
    rw [List.take_append_of_le_length (by omega), List.take_of_length_le (by omega)]
  rw [ht]
  exact ⟨xs, rfl, by omega, by omega, by rw [h1]; exact h2⟩
theorem made_valid {al on : Bool} {g : List S38} (h : Made al on g) : valid g = true := by
  unfold valid
  have h1 := h.len
  simp only [Bool.and_eq_true, decide_eq_true_eq, List.all_eq_true]
  exact ⟨by omega, fun x hx => (h.node x hx).1⟩
theorem made_fits {al on : Bool} {g : List S38} (h : Made al on g) : Fits 100000 g := fun x hx => by have := (h.node x hx).2.1; omega
theorem light (n : Nat) (l : List Int) : F24 n l = some (decide (((l.length : Nat) : Int) ≤ 300)) := rfl
theorem lawMade (l : List Int) (i : Int) : F5 100000 l i = some true := by
  unfold F5
  rw [light, awake]
  cases hl : decide (((l.length : Nat) : Int) ≤ 300) with
  | false => rfl
  | true =>
    have hl' : ((l.length : Nat) : Int) ≤ 300 := by simpa using hl
    obtain ⟨g, eg, hg⟩ := F25_eq 100000 (by omega) l (by omega) false false
    have h1 := hg.pos
    have h2 := hg.len
    obtain ⟨k, ek, hk⟩ := F26_eq 100000 i ((g.length : Nat) : Int) (by omega) (by omega)
    have hx := made_fits hg
    simp only [Option.bind_some, bNot, Bool.not_true, cond_false, eg, ek, cond_true]
    rw [F12_eq _ (by omega) g hx, made_valid hg, F15_eq _ (by omega) g hx, F16_eq _ (by omega) g hx]
    simp only [Option.bind_some, cond_true]
    rw [F14_eq _ _ (by have := stuck_len g; omega) (by have := stuck_len g; omega)]
    simp only [Option.bind_some, cond_true]
    rw [F19_eq _ (by omega) g hx, F20_eq _ (by omega) g hx]
    simp only [Option.bind_some]
    rw [F14_eq _ _ (by have := cyc_len g k; omega) (by have := cyc_len g k; omega)]
    simp only [Option.bind_some, cond_true]
    rw [F22_eq _ (by omega) (by omega) g hx, F23_eq _ (by omega) (by omega) g hx]
    simp only [Option.bind_some]
    have hk : (knots 100000 g).length ≤ 1000 ∧ ∀ l ∈ knots 100000 g, l.length ≤ 1000 := by
      unfold knots
      cases valid g with
      | false => exact ⟨by simp, fun l hl => by cases hl⟩
      | true =>
        have := kn_len 100000 g g.length 0
        exact ⟨by simp only [cond_true]; omega, fun l hl => by have := kn_elem 100000 g g.length 0 l hl; omega⟩
    rw [F21_eq _ _ hk.1 hk.2 (by omega)]
    simp only [Option.bind_some, cond_true]
    rw [F17_eq _ (by omega) (by omega) g hx, F18_eq _ (by omega) (by omega) g hx]
    simp only [Option.bind_some]
    rw [F14_eq _ _ (by have := reach_len 100000 g k; omega) (by have := reach_len 100000 g k; omega)]
    rfl
end Go.Abs.Wg
end
section
set_option linter.all false
set_option linter.unusedVariables false
set_option linter.unusedSimpArgs false
set_option linter.unnecessarySimpa false
/-
  Waitgraph: what is reached, and what is finished.
-/
namespace Go.Abs.Wg
open Go Go.Abs Go.G19 Go.Abs.AbsP19

/-- The transitive closure of the edges. -/
inductive TC (g : List S38) : Int → Int → Prop
  | one {i j : Int} : j ∈ nexts g i → TC g i j
  | cons {i j k : Int} : j ∈ nexts g i → TC g j k → TC g i k
theorem TC.trans {g : List S38} {i j k : Int} (h : TC g i j) (h2 : TC g j k) : TC g i k := by
  induction h with
  | one h => exact .cons h h2
  | cons h _ ih => exact .cons h (ih h2)
theorem nexts_of {g : List S38} {k : Nat} {x : S38} (h : g[k]? = some x) : nexts g (k : Int) = x.Next := by unfold nexts; rw [Int.toNat_natCast, h]
theorem nexts_in {g : List S38} (hg : Nice g) {i j : Int} (h : j ∈ nexts g i) : 0 ≤ j ∧ j < (g.length : Int) := by
  unfold nexts at h
  cases hx : g[i.toNat]? with
  | none => rw [hx] at h; cases h
  | some x => rw [hx] at h; exact (hg.2 x (List.mem_of_getElem? hx)).2 j h
theorem TC.inr {g : List S38} (hg : Nice g) {i j : Int} (h : TC g i j) : 0 ≤ j ∧ j < (g.length : Int) := by
  induction h with
  | one h => exact nexts_in hg h
  | cons _ _ ih => exact ih
/-- The first step. -/
theorem TC.head {g : List S38} {i j : Int} (h : TC g i j) : ∃ m, m ∈ nexts g i ∧ (m = j ∨ TC g m j) := by
  cases h with
  | one h => exact ⟨j, h, .inl rfl⟩
  | cons h h2 => exact ⟨_, h, .inr h2⟩

/-! ### flags -/
theorem bAt_set {d : List Bool} {i : Nat} {j : Int} (h : i < d.length) : bAt (d.set i true) j = if j.toNat = i then true else bAt d j := by
  unfold bAt
  rw [List.getElem?_set]
  by_cases hj : i = j.toNat
  · rw [if_pos hj, if_pos h, if_pos hj.symm]
  · rw [if_neg hj, if_neg (fun e => hj e.symm)]
theorem bAt_self {d : List Bool} {j : Int} (h : 0 ≤ j ∧ j < (d.length : Int)) : bAt (d.set j.toNat true) j = true := by rw [bAt_set (by omega), if_pos rfl]
theorem bAt_mono {d : List Bool} {i : Nat} {j : Int} (h : i < d.length) (hb : bAt d j = true) : bAt (d.set i true) j = true := by
  rw [bAt_set h]; split
  · rfl
  · exact hb
theorem bAt_rep (n : Nat) (j : Int) : bAt (List.replicate n false) j = false := by
  unfold bAt
  rw [List.getElem?_replicate]
  by_cases h : j.toNat < n
  · rw [if_pos h]
  · rw [if_neg h]
theorem last_take {st : List Int} {j : Int} (h : st[st.length - 1]? = some j) : ∀ k, k ∈ st ↔ k ∈ st.take (st.length - 1) ∨ k = j := by
  have h1 := get_lt h
  have e : st = st.take (st.length - 1) ++ [j] := by
    have h2 := List.take_append_drop (st.length - 1) st
    rw [drop_cons h, List.drop_of_length_le (by omega)] at h2
    exact h2.symm
  intro k
  constructor
  · intro hk
    rw [e] at hk
    rcases List.mem_append.mp hk with hk | hk
    · exact .inl hk
    · exact .inr (by simpa using hk)
  · intro hk
    rw [e]
    rcases hk with hk | hk
    · exact List.mem_append_left _ hk
    · exact List.mem_append_right _ (by simpa using hk)

/-! ### what is seen -/
theorem runS_inv {g : List S38} (hg : Nice g) (i : Int) : ∀ (f : Nat) (d : List Bool) (st : List Int), d.length = g.length → Inn g.length st → wt g d + st.length < f →
    (∀ j : Int, 0 ≤ j ∧ j < (g.length : Int) → bAt d j = true → TC g i j) → (∀ j ∈ st, TC g i j) →
    (∀ j : Int, 0 ≤ j ∧ j < (g.length : Int) → bAt d j = true → ∀ k ∈ nexts g j, bAt d k = true ∨ k ∈ st) → (∀ k ∈ nexts g i, bAt d k = true ∨ k ∈ st) →
    (∀ j : Int, 0 ≤ j ∧ j < (g.length : Int) → bAt (runS g f d st) j = true → TC g i j) ∧
    (∀ j : Int, 0 ≤ j ∧ j < (g.length : Int) → bAt (runS g f d st) j = true → ∀ k ∈ nexts g j, bAt (runS g f d st) k = true) ∧ (∀ k ∈ nexts g i, bAt (runS g f d st) k = true) := by
  intro f
  induction f with
  | zero => intro d st _ _ h; omega
  | succ f ih =>
    intro d st hd hs hf h1 h2 h3 h4
    simp only [runS]
    cases ht : st[st.length - 1]? with
    | none =>
      have h0 : st = [] := by
        rw [List.getElem?_eq_none_iff] at ht
        exact List.length_eq_zero_iff.mp (by omega)
      subst h0
      exact ⟨h1, fun j hj hb k hk => (h3 j hj hb k hk).resolve_right (by simp), fun k hk => (h4 k hk).resolve_right (by simp)⟩
    | some j =>
      have hm := last_take ht
      have hjs : j ∈ st := (hm j).mpr (.inr rfl)
      have hj := hs j hjs
      have hin : Inn g.length (st.take (st.length - 1)) := fun q hq => hs q ((hm q).mpr (.inl hq))
      have hl := get_lt ht
      have htl : (st.take (st.length - 1)).length = st.length - 1 := by simp
      simp only
      cases hb : bAt d j with
      | true =>
        simp only [cond_true]
        refine ih d _ hd hin (by omega) h1 (fun q hq => h2 q ((hm q).mpr (.inl hq))) (fun a ha hba k hk => ?_) (fun k hk => ?_)
        · rcases h3 a ha hba k hk with h | h
          · exact .inl h
          · rcases (hm k).mp h with h | h
            · exact .inr h
            · exact .inl (by rw [h]; exact hb)
        · rcases h4 k hk with h | h
          · exact .inl h
          · rcases (hm k).mp h with h | h
            · exact .inr h
            · exact .inl (by rw [h]; exact hb)
      | false =>
        simp only [cond_false]
        have hjd : j.toNat < d.length := by omega
        have hx : j.toNat < g.length := by omega
        have hgx := List.getElem?_eq_getElem hx
        have hnj : nexts g j = g[j.toNat].Next := by unfold nexts; rw [hgx]
        have hw := wt_set hgx (by rw [bAt_get (by omega), hb] : d[j.toNat]? = some false)
        refine ih _ _ (by simp [hd]) (fun q hq => ?_) (by rw [List.length_append, htl, hnj]; omega) (fun a ha hba => ?_) (fun q hq => ?_) (fun a ha hba k hk => ?_) (fun k hk => ?_)
        · rcases List.mem_append.mp hq with hq | hq
          · exact hin q hq
          · exact nexts_in hg hq
        · rw [bAt_set hjd] at hba
          by_cases e : a.toNat = j.toNat
          · have : a = j := by omega
            rw [this]; exact h2 j hjs
          · rw [if_neg e] at hba; exact h1 a ha hba
        · rcases List.mem_append.mp hq with hq | hq
          · exact h2 q ((hm q).mpr (.inl hq))
          · exact (h2 j hjs).trans (.one hq)
        · by_cases e : a.toNat = j.toNat
          · have : a = j := by omega
            subst this
            exact .inr (List.mem_append_right _ hk)
          · rw [bAt_set hjd, if_neg e] at hba
            rcases h3 a ha hba k hk with h | h
            · exact .inl (bAt_mono hjd h)
            · rcases (hm k).mp h with h | h
              · exact .inr (List.mem_append_left _ h)
              · subst h; exact .inl (bAt_self (by omega))
        · rcases h4 k hk with h | h
          · exact .inl (bAt_mono hjd h)
          · rcases (hm k).mp h with h | h
            · exact .inr (List.mem_append_left _ h)
            · subst h; exact .inl (bAt_self (by omega))
theorem nexts_len {g : List S38} (hg : Nice g) (i : Int) : (nexts g i).length ≤ 160 := by
  unfold nexts
  cases hx : g[i.toNat]? with
  | none => simp
  | some x => exact (hg.2 x (List.mem_of_getElem? hx)).1
theorem seen_iff {n : Nat} (hn : 30000 ≤ n) {g : List S38} (hg : Nice g) (i : Int) {j : Int} (hj : 0 ≤ j ∧ j < (g.length : Int)) : bAt (seen n g i) j = true ↔ TC g i j := by
  have hw := wt_le g (List.replicate g.length false) fun x hx => (hg.2 x hx).1
  have hl := nexts_len hg i
  have hg1 := hg.1
  have h := runS_inv hg i n (List.replicate g.length false) (nexts g i) (by simp) (fun q hq => nexts_in hg hq) (by omega)
    (fun a _ hb => by rw [bAt_rep] at hb; cases hb) (fun q hq => .one hq) (fun a _ hb => by rw [bAt_rep] at hb; cases hb) (fun k hk => .inr hk)
  constructor
  · exact h.1 j hj
  · intro t
    have key : ∀ {a b : Int}, TC g a b → (∀ k ∈ nexts g a, bAt (seen n g i) k = true) → bAt (seen n g i) b = true := by
      intro a b t
      induction t with
      | one h1 => intro hk; exact hk _ h1
      | cons h1 _ ih => intro hk; exact ih (h.2.1 _ (nexts_in hg h1) (hk _ h1))
    exact key t h.2.2
theorem lst_mem (b : Bool) : ∀ (l : List Bool) (i : Nat) (j : Int), j ∈ lst b l i ↔ ∃ k : Nat, l[k]? = some b ∧ j = ((i + k : Nat) : Int) := by
  intro l
  induction l with
  | nil => intro i j; simp [lst]
  | cons x l ih =>
    intro i j
    have hbe : bEq x b = (x == b) := rfl
    simp only [lst, hbe]
    have tail : (∃ k : Nat, l[k]? = some b ∧ j = ((i + 1 + k : Nat) : Int)) → ∃ k : Nat, (x :: l)[k]? = some b ∧ j = ((i + k : Nat) : Int) := by
      rintro ⟨k, h1, h2⟩
      exact ⟨k + 1, h1, by rw [h2]; congr 1; omega⟩
    cases hb : x == b with
    | true =>
      have hxb : x = b := by simpa using hb
      simp only [cond_true, List.mem_cons, ih]
      constructor
      · rintro (h | h)
        · exact ⟨0, by rw [hxb]; rfl, h⟩
        · exact tail h
      · rintro ⟨k, h1, h2⟩
        cases k with
        | zero => exact .inl h2
        | succ k => exact .inr ⟨k, h1, by rw [h2]; congr 1; omega⟩
    | false =>
      have hxb : ¬ x = b := by simpa using hb
      simp only [cond_false, ih]
      constructor
      · exact tail
      · rintro ⟨k, h1, h2⟩
        cases k with
        | zero => simp at h1; exact absurd h1 hxb
        | succ k => exact ⟨k, h1, by rw [h2]; congr 1; omega⟩
theorem lst_bAt (b : Bool) (d : List Bool) (j : Int) : j ∈ lst b d 0 ↔ (0 ≤ j ∧ j < (d.length : Int)) ∧ bAt d j = b := by
  rw [lst_mem]
  constructor
  · rintro ⟨k, h1, h2⟩
    have := get_lt h1
    rw [Nat.zero_add] at h2
    subst h2
    exact ⟨by omega, by unfold bAt; rw [Int.toNat_natCast, h1]⟩
  · rintro ⟨h1, h2⟩
    exact ⟨j.toNat, by rw [bAt_get h1, h2], by omega⟩
theorem reach_mem {n : Nat} (hn : 30000 ≤ n) {g : List S38} (hv : valid g = true) {i : Int} (hi : 0 ≤ i ∧ i < (g.length : Int)) (j : Int) : j ∈ reach n g i ↔ TC g i j := by
  have hg := valid_nice hv
  rw [reach_lk n hv hi]
  unfold lk
  rw [lst_bAt, seen_len]
  constructor
  · rintro ⟨h1, h2⟩; exact (seen_iff hn hg i h1).mp h2
  · intro h; exact ⟨h.inr hg, (seen_iff hn hg i (h.inr hg)).mpr h⟩

/-! ### who is finished -/
def dn (g : List S38) : List Bool := runP g (g.length + 1) (List.replicate g.length false)
theorem dn_len (g : List S38) : (dn g).length = g.length := by unfold dn; rw [runP_len]; simp
theorem pass_true : ∀ (xs : List S38) (i : Nat) (d : List Bool), (pass xs i true d).1 = true := by
  intro xs
  induction xs with
  | nil => intro i d; rfl
  | cons x xs ih =>
    intro i d
    simp only [pass]
    cases (!(bAt d (i : Int)) && decide ((cnt d x.Next : Int) ≥ x.K)) with
    | true => simp only [cond_true]; exact ih _ _
    | false => simp only [cond_false]; exact ih _ _
theorem pass_false : ∀ (xs : List S38) (i : Nat) (d : List Bool), (pass xs i false d).1 = false → (pass xs i false d).2 = d ∧ ∀ (k : Nat) (x : S38), xs[k]? = some x → bAt d ((i + k : Nat) : Int) = false → (cnt d x.Next : Int) < x.K := by
  intro xs
  induction xs with
  | nil => intro i d _; exact ⟨rfl, fun k x h => by simp at h⟩
  | cons y xs ih =>
    intro i d h
    simp only [pass] at h ⊢
    cases hc : (!(bAt d (i : Int)) && decide ((cnt d y.Next : Int) ≥ y.K)) with
    | true => rw [hc] at h; simp only [cond_true] at h; rw [pass_true] at h; cases h
    | false =>
      rw [hc] at h
      simp only [cond_false] at h ⊢
      obtain ⟨h1, h2⟩ := ih (i + 1) d h
      refine ⟨h1, fun k x hk hb => ?_⟩
      cases k with
      | zero =>
        simp at hk; subst hk
        rw [Nat.add_zero] at hb
        rw [hb] at hc
        have : ¬ ((cnt d y.Next : Int) ≥ y.K) := by simpa using hc
        omega
      | succ k => exact h2 k x hk (by rw [show i + 1 + k = i + (k + 1) by omega]; exact hb)
theorem runP_fix (g : List S38) : ∀ (f : Nat) (d : List Bool), nf d < f → d.length = g.length → ∀ (k : Nat) (x : S38), g[k]? = some x → bAt (runP g f d) (k : Int) = false → (cnt (runP g f d) x.Next : Int) < x.K := by
  intro f
  induction f with
  | zero => intro d h; omega
  | succ f ih =>
    intro d hf hd k x hx
    simp only [runP]
    have hp := (pass_nf g 0 false d (by omega)).2
    cases hc : (pass g 0 false d).1 with
    | true =>
      simp only [cond_true]
      rcases hp hc with h | h
      · cases h
      · exact ih _ (by omega) (by rw [pass_len]; exact hd) k x hx
    | false =>
      simp only [cond_false]
      obtain ⟨h1, h2⟩ := pass_false g 0 d hc
      rw [h1]
      intro hb
      exact h2 k x hx (by rw [Nat.zero_add]; exact hb)
/-- Whoever is not finished lacks somebody. -/
theorem dn_fix {g : List S38} {k : Nat} {x : S38} (hx : g[k]? = some x) (hb : bAt (dn g) (k : Int) = false) : (cnt (dn g) x.Next : Int) < x.K :=
  runP_fix g _ _ (by have := nf_le (List.replicate g.length false); simp at this; omega) (by simp) k x hx hb
theorem cnt_mono {d D : List Bool} : ∀ {l : List Int}, (∀ j ∈ l, bAt d j = true → bAt D j = true) → cnt d l ≤ cnt D l := by
  intro l
  induction l with
  | nil => intro _; exact Nat.le_refl _
  | cons j l ih =>
    intro h
    have h1 := ih fun q hq => h q (List.mem_cons_of_mem _ hq)
    have h2 := h j List.mem_cons_self
    simp only [cnt]
    cases hb : bAt d j with
    | true => rw [h2 hb]; simp only [cond_true]; omega
    | false => simp only [cond_false]; omega
theorem cnt_le (d : List Bool) : ∀ l : List Int, cnt d l ≤ l.length := by
  intro l
  induction l with
  | nil => exact Nat.le_refl _
  | cons j l ih => simp only [cnt, List.length_cons]; cases bAt d j <;> simp <;> omega
theorem cnt_all {d : List Bool} : ∀ {l : List Int}, l.length ≤ cnt d l → ∀ j ∈ l, bAt d j = true := by
  intro l
  induction l with
  | nil => intro _ j h; cases h
  | cons q l ih =>
    intro h j hj
    have h1 := cnt_le d l
    simp only [cnt, List.length_cons] at h
    cases hb : bAt d q with
    | false => rw [hb] at h; simp only [cond_false] at h; omega
    | true =>
      rw [hb] at h
      simp only [cond_true] at h
      rcases List.mem_cons.mp hj with rfl | hj
      · exact hb
      · exact ih (by omega) j hj
theorem cnt_full {d : List Bool} : ∀ {l : List Int}, (∀ j ∈ l, bAt d j = true) → cnt d l = l.length := by
  intro l
  induction l with
  | nil => intro _; rfl
  | cons q l ih =>
    intro h
    simp only [cnt, List.length_cons]
    rw [h q List.mem_cons_self, ih fun j hj => h j (List.mem_cons_of_mem _ hj)]
    simp only [cond_true]; omega
theorem cnt_pos {d : List Bool} : ∀ {l : List Int}, 0 < cnt d l ↔ ∃ j ∈ l, bAt d j = true := by
  intro l
  induction l with
  | nil => simp [cnt]
  | cons q l ih =>
    simp only [cnt, List.mem_cons, exists_eq_or_imp]
    cases hb : bAt d q with
    | true => simp only [cond_true, true_or, iff_true]; omega
    | false => simp only [cond_false, Nat.zero_add, ih]; simp
/-- Sets that hold whoever has enough in them. -/
def Closed (g : List S38) (D : Int → Prop) : Prop := ∀ (k : Nat) (x : S38), g[k]? = some x → (∀ d : List Bool, (∀ j ∈ x.Next, bAt d j = true → D j) → x.K ≤ (cnt d x.Next : Int) → D (k : Int))
theorem pass_least {g : List S38} {D : Int → Prop} (hD : Closed g D) : ∀ (xs : List S38) (i : Nat) (m : Bool) (d : List Bool), i + xs.length = d.length → (∀ k : Nat, xs[k]? = g[i + k]?) → (∀ x ∈ xs, Inn d.length x.Next) →
    (∀ j : Int, 0 ≤ j ∧ j < (d.length : Int) → bAt d j = true → D j) → ∀ j : Int, 0 ≤ j ∧ j < (d.length : Int) → bAt (pass xs i m d).2 j = true → D j := by
  intro xs
  induction xs with
  | nil => intro i m d _ _ _ h; exact h
  | cons x xs ih =>
    intro i m d hl hxs hin h
    simp only [List.length_cons] at hl
    have hxs' : ∀ k : Nat, xs[k]? = g[i + 1 + k]? := fun k => by have := hxs (k + 1); rw [show i + (k + 1) = i + 1 + k by omega] at this; simpa using this
    simp only [pass]
    cases hc : (!(bAt d (i : Int)) && decide ((cnt d x.Next : Int) ≥ x.K)) with
    | false => simp only [cond_false]; exact ih (i + 1) m d (by omega) hxs' (fun y hy => hin y (List.mem_cons_of_mem _ hy)) h
    | true =>
      simp only [cond_true]
      simp only [Bool.and_eq_true, Bool.not_eq_true', decide_eq_true_eq] at hc
      have hgi : g[i]? = some x := by have := hxs 0; simpa using this.symm
      have hDi := hD i x hgi d (fun j hj hb => h j (hin x List.mem_cons_self j hj) hb) hc.2
      have := ih (i + 1) true (d.set i true) (by simp; omega) hxs' (fun y hy => by simpa using hin y (List.mem_cons_of_mem _ hy)) (fun j hj hb => by
        rw [bAt_set (by omega)] at hb
        simp only [List.length_set] at hj
        by_cases e : j.toNat = i
        · have : j = (i : Int) := by omega
          rw [this]; exact hDi
        · rw [if_neg e] at hb; exact h j hj hb)
      simpa using this
/-- The finished ones are in each such set. -/
theorem dn_least {g : List S38} (hg : Nice g) {D : Int → Prop} (hD : Closed g D) {j : Int} (hj : 0 ≤ j ∧ j < (g.length : Int)) (hb : bAt (dn g) j = true) : D j := by
  have key : ∀ (f : Nat) (d : List Bool), d.length = g.length → (∀ j : Int, 0 ≤ j ∧ j < (g.length : Int) → bAt d j = true → D j) → ∀ j : Int, 0 ≤ j ∧ j < (g.length : Int) → bAt (runP g f d) j = true → D j := by
    intro f
    induction f with
    | zero => intro d _ h; exact h
    | succ f ih =>
      intro d hd h
      have hp := pass_least hD g 0 false d (by omega) (fun k => by rw [Nat.zero_add]) (fun x hx => by rw [hd]; exact (hg.2 x hx).2) (by rw [hd]; exact h)
      rw [hd] at hp
      simp only [runP]
      cases (pass g 0 false d).1 with
      | true => simp only [cond_true]; exact ih _ (by rw [pass_len]; exact hd) hp
      | false => simp only [cond_false]; exact hp
  exact key _ _ (by simp) (fun j _ hb => by rw [bAt_rep] at hb; cases hb) j hj hb
theorem stuck_mem {g : List S38} (hv : valid g = true) (j : Int) : j ∈ stuck g ↔ (0 ≤ j ∧ j < (g.length : Int)) ∧ bAt (dn g) j = false := by
  unfold stuck
  rw [hv]
  simp only [cond_true]
  have := lst_bAt false (dn g) j
  rw [dn_len] at this
  exact this
theorem stuck_in {g : List S38} (hv : valid g = true) {j : Int} (h : j ∈ stuck g) : 0 ≤ j ∧ j < (g.length : Int) := ((stuck_mem hv j).mp h).1

/-! ### has -/
def hasL (l : List Int) (v : Int) : Bool := l.any fun y => y == v
theorem hasL_iff {l : List Int} {v : Int} : hasL l v = true ↔ v ∈ l := by
  unfold hasL
  rw [List.any_eq_true]
  constructor
  · rintro ⟨y, h1, h2⟩
    have : y = v := by simpa using h2
    rw [← this]; exact h1
  · intro h; exact ⟨v, h, by simp⟩
theorem L27_0_eq (n : Nat) (v : Int) (l : List Int) (hl : l.length ≤ 100000) : ∀ (d i f : Nat), i + d = l.length → d < f →
    iter (U27_0 n) f (l, (v, (i : Int))) = some (bif hasL (l.drop i) v then .inr true else .inl ()) := by
  intro d
  induction d with
  | zero =>
    intro i f hi hf
    obtain ⟨f, rfl⟩ := iter_exists (show 0 < f by omega)
    rw [iter_succ, U27_0.eq_1, S27_0.eq_1]
    simp only [lt_f (show l.length ≤ i by omega), cond_false]
    rw [List.drop_of_length_le (by omega)]
    rfl
  | succ d ih =>
    intro i f hi hf
    obtain ⟨f, rfl⟩ := iter_exists (show 0 < f by omega)
    rw [iter_succ, U27_0.eq_1, S27_0.eq_1]
    have hi1 : i < l.length := by omega
    have ht := List.getElem?_eq_getElem hi1
    simp only [lt_t hi1, cond_true, ixo_nat ht, Option.bind_some, w64s i (by omega)]
    rw [drop_cons ht]
    unfold hasL
    rw [List.any_cons]
    cases l[i] == v with
    | true => rfl
    | false => simp only [cond_false, Bool.false_or]; exact ih (i + 1) f (by omega) (by omega)
theorem F27_eq (n : Nat) (l : List Int) (v : Int) (hl : l.length ≤ 100000) (hn : l.length < n) : F27 n l v = some (hasL l v) := by
  unfold F27 L27_0
  have e := L27_0_eq n v l hl l.length 0 n (by omega) hn
  have z : ((0 : Nat) : Int) = (0 : Int) := rfl
  rw [z, List.drop_zero] at e
  rw [e]
  cases hasL l v <;> rfl
end Go.Abs.Wg
end
section
set_option linter.all false
set_option linter.unusedVariables false
set_option linter.unusedSimpArgs false
set_option linter.unnecessarySimpa false
/-
  Waitgraph: the law WaitgraphFewer.
-/
namespace Go.Abs.Wg
open Go Go.Abs Go.G19 Go.Abs.AbsP19

theorem L9_0_eq (n : Nat) (hn : 10000 ≤ n) (a l : List Int) (ha : a.length ≤ 1000) (hl : l.length ≤ 1000) (h : ∀ j ∈ l, j ∈ a) : ∀ (d i f : Nat), i + d = l.length → d < f → iter (U9_0 n) f (a, (l, (i : Int))) = some (.inl ()) := by
  intro d
  induction d with
  | zero =>
    intro i f hi hf
    obtain ⟨f, rfl⟩ := iter_exists (show 0 < f by omega)
    rw [iter_succ, U9_0.eq_1, S9_0.eq_1]
    simp only [lt_f (show l.length ≤ i by omega), cond_false]
  | succ d ih =>
    intro i f hi hf
    obtain ⟨f, rfl⟩ := iter_exists (show 0 < f by omega)
    rw [iter_succ, U9_0.eq_1, S9_0.eq_1]
    have hi1 : i < l.length := by omega
    have ht := List.getElem?_eq_getElem hi1
    have hb : hasL a l[i] = true := hasL_iff.mpr (h _ (List.getElem_mem hi1))
    simp only [lt_t hi1, cond_true, ixo_nat ht, Option.bind_some, F27_eq n a l[i] (by omega) (by omega), hb, bNot, Bool.not_true, cond_false, w64s i (by omega)]
    exact ih (i + 1) f (by omega) (by omega)
theorem okNode_K {N : Nat} {x : S38} (h : okNode N x = true) : 0 ≤ x.K ∧ x.K ≤ (x.Next.length : Int) ∧ (x.K = 0 → x.Next.length = 0) := by
  unfold okNode okHead at h
  simp only [Bool.and_eq_true, Bool.not_eq_true', decide_eq_false_iff_not, Bool.and_eq_false_iff, beq_eq_false_iff_ne] at h
  obtain ⟨⟨h1, h2, h3⟩, _⟩ := h
  refine ⟨by omega, by omega, fun h0 => ?_⟩
  rcases h3 with h3 | h3
  · exact absurd h0 h3
  · omega
theorem valid_set {g : List S38} (hv : valid g = true) {k : Nat} {x : S38} (hx : g[k]? = some x) (K : Int) (h1 : 1 ≤ K) (h2 : K ≤ x.K) : valid (g.set k (S38.mk K x.Next)) = true := by
  simp only [valid, Bool.and_eq_true, decide_eq_true_eq, List.all_eq_true, List.length_set] at hv ⊢
  refine ⟨hv.1, fun y hy => ?_⟩
  rcases List.mem_or_eq_of_mem_set hy with hy | hy
  · exact hv.2 y hy
  · subst hy
    have hk := hv.2 x (List.mem_of_getElem? hx)
    have hK := okNode_K hk
    unfold okNode at hk ⊢
    simp only [Bool.and_eq_true] at hk ⊢
    refine ⟨?_, hk.2⟩
    unfold okHead
    have b1 : decide (K < 0) = false := by simp; omega
    have b2 : decide (K > (x.Next.length : Int)) = false := by simp; omega
    have b3 : (K == 0) = false := by simp; omega
    simp only [b1, b2, b3, Bool.not_false, Bool.false_and, Bool.and_self]
/-- Whoever waits for fewer of its successors makes nobody stuck. -/
theorem stuck_fewer {g : List S38} (hv : valid g = true) {k : Nat} {x : S38} (hx : g[k]? = some x) (K : Int) (h1 : 1 ≤ K) (h2 : K ≤ x.K) : ∀ j ∈ stuck (g.set k (S38.mk K x.Next)), j ∈ stuck g := by
  have hv2 := valid_set hv hx K h1 h2
  intro j hj
  rw [stuck_mem hv2, List.length_set] at hj
  rw [stuck_mem hv]
  refine ⟨hj.1, ?_⟩
  cases hb : bAt (dn g) j with
  | false => rfl
  | true =>
    have := dn_least (valid_nice hv) (D := fun j => bAt (dn (g.set k (S38.mk K x.Next))) j = true) (fun i y hy d hd hc => by
      show bAt _ _ = true
      cases hq : bAt (dn (g.set k (S38.mk K x.Next))) (i : Int) with
      | true => rfl
      | false =>
        have hm := cnt_mono hd
        have hi := get_lt hy
        have hset : (g.set k (S38.mk K x.Next))[i]? = if k = i then some (S38.mk K x.Next) else some y := by
          rw [List.getElem?_set]
          by_cases e : k = i
          · rw [if_pos e, if_pos e, if_pos (by omega)]
          · rw [if_neg e, if_neg e, hy]
        by_cases e : k = i
        · rw [if_pos e] at hset
          have hf := dn_fix hset hq
          subst e
          rw [hx] at hy
          cases hy
          simp only at hf
          omega
        · rw [if_neg e] at hset
          have hf := dn_fix hset hq
          omega) hj.1 hb
    rw [hj.2] at this
    cases this
theorem lawFewer (l : List Int) (i k : Int) : F9 100000 l i k = some true := by
  unfold F9
  rw [light, awake]
  cases hl : decide (((l.length : Nat) : Int) ≤ 300) with
  | false => rfl
  | true =>
    have hl' : ((l.length : Nat) : Int) ≤ 300 := by simpa using hl
    obtain ⟨g, eg, hg⟩ := F25_eq 100000 (by omega) l (by omega) false false
    have h1 := hg.pos
    have h2 := hg.len
    have hv := made_valid hg
    have hx := made_fits hg
    obtain ⟨a, ea, ha⟩ := F26_eq 100000 i ((g.length : Nat) : Int) (by omega) (by omega)
    obtain ⟨q, rfl⟩ : ∃ q : Nat, a = (q : Int) := ⟨a.toNat, by omega⟩
    have hq : q < g.length := by omega
    have ht := List.getElem?_eq_getElem hq
    have hn := hg.node _ (List.getElem_mem hq)
    have hK := okNode_K hn.1
    have hN := hn.2.1
    simp only [Option.bind_some, bNot, Bool.not_true, cond_false, eg, ea, F15_eq 100000 (by omega) g hx, ixo_nat ht]
    generalize g[q] = x at ht hn hK hN
    cases h3 : decide (x.K < 2) with
    | true => rfl
    | false =>
      have h3' : ¬ x.K < 2 := by simpa using h3
      have w : IntKind.wrap .i64 (x.K - 1) = x.K - 1 := w64 (by omega)
      obtain ⟨r, er, hr⟩ := F26_eq 100000 k (x.K - 1) (by omega) (by omega)
      have w2 : IntKind.wrap .i64 ((1 : Int) + r) = 1 + r := w64 (by omega)
      have hin : 0 ≤ ((q : Nat) : Int) ∧ ((q : Nat) : Int) < (g.length : Int) := by omega
      rw [app_small (by simp only [List.length_nil]; omega)]
      simp only [cond_true, cond_false, List.nil_append, in_ok hin, Int.toNat_natCast, ht, Option.bind_some, w, er, w2]
      have hv2 := valid_set hv ht (1 + r) (by omega) (by omega)
      have hx2 : Fits 100000 (g.set q (S38.mk (1 + r) x.Next)) := fun y hy => by
        rcases List.mem_or_eq_of_mem_set hy with hy | hy
        · exact hx y hy
        · subst hy; simp only; omega
      rw [F15_eq 100000 (by omega) _ hx2]
      simp only [Option.bind_some]
      unfold L9_0
      have e := L9_0_eq 100000 (by omega) (stuck g) (stuck (g.set q (S38.mk (1 + r) x.Next))) (by have := stuck_len g; omega) (by have := stuck_len (g.set q (S38.mk (1 + r) x.Next)); omega) (stuck_fewer hv ht (1 + r) (by omega) (by omega)) _ 0 100000 (Nat.zero_add _) (by have := stuck_len (g.set q (S38.mk (1 + r) x.Next)); omega)
      have z : ((0 : Nat) : Int) = (0 : Int) := rfl
      rw [z] at e
      rw [e]
      rfl
end Go.Abs.Wg
end
