/- The graphs that are made of numbers; the law, plain. -/
import Derived.Test.YtdibclnfnkjncaaStepsB
section
set_option linter.all false
set_option linter.unusedVariables false
set_option linter.unusedSimpArgs false
set_option linter.unnecessarySimpa false
/-
  Waitgraph: the graphs that are made of numbers.
-/
namespace Go.Abs.Wg
open Go Go.Abs Go.G19 Go.Abs.AbsP19

theorem tmod_b (v : Int) {m : Int} (hm : 0 < m) : -m < Int.tmod v m ∧ Int.tmod v m < m := by
  refine ⟨?_, Int.tmod_lt_of_pos v hm⟩
  rcases Int.le_total 0 v with h | h
  · have := Int.tmod_nonneg m h; omega
  · have h1 := Int.tmod_lt_of_pos (-v) hm
    rw [Int.neg_tmod] at h1
    omega
theorem F26_eq (n : Nat) (v m : Int) (h1 : 1 ≤ m) (h2 : m ≤ 1000000) : ∃ r, F26 n v m = some r ∧ 0 ≤ r ∧ r < m := by
  unfold F26
  have b1 : decide (m < 1) = false := by simp; omega
  have b2 : (m == 0) = false := by simp; omega
  have h := tmod_b v (show 0 < m by omega)
  rw [b1, b2]
  simp only [cond_false]
  cases hc : decide (Int.tmod v m < 0) with
  | true =>
    have : Int.tmod v m < 0 := by simpa using hc
    exact ⟨_, rfl, by rw [w64 (by omega)]; omega, by rw [w64 (by omega)]; omega⟩
  | false =>
    have : ¬ Int.tmod v m < 0 := by simpa using hc
    exact ⟨_, rfl, by omega, h.2⟩
theorem F40_eq (n : Nat) (m : Int) (l : List Int) (p : Int) (h1 : 1 ≤ m) (h2 : m ≤ 1000000) (hl : l.length ≤ 1000) (hp : 0 ≤ p) (hp2 : p ≤ 1000) :
    ∃ r p', F40 n m l p = some (r, (l, p')) ∧ (0 ≤ r ∧ r < m) ∧ (0 ≤ p' ∧ p' ≤ 1000) := by
  unfold F40
  cases hc : decide (p ≥ ((l.length : Nat) : Int)) with
  | true => exact ⟨0, p, rfl, by omega, by omega⟩
  | false =>
    have hc' : ¬ p ≥ ((l.length : Nat) : Int) := by simpa using hc
    obtain ⟨k, rfl⟩ : ∃ k : Nat, p = (k : Int) := ⟨p.toNat, by omega⟩
    have hk : k < l.length := by omega
    have w1 : IntKind.wrap .i64 ((k : Int) + 1) = ((k + 1 : Nat) : Int) := w64s k (by omega)
    have w2 : IntKind.wrap .i64 (((k + 1 : Nat) : Int) - 1) = (k : Int) := by rw [w64 (by omega)]; omega
    have ht := List.getElem?_eq_getElem hk
    obtain ⟨r, e, hr⟩ := F26_eq n l[k] m h1 h2
    simp only [cond_false, w1, w2, ixo_nat ht, Option.bind_some, e]
    exact ⟨r, _, rfl, hr, by omega, by omega⟩

theorem asc_snoc (len : Nat) (k : Int) (h0 : 0 ≤ k) (h1 : k < (len : Int)) : ∀ (acc : List Int) (p : Option Int), asc len p acc = true → (∀ j ∈ acc, j < k) → (∀ q, p = some q → q < k) → asc len p (acc ++ [k]) = true := by
  intro acc
  induction acc with
  | nil =>
    intro p _ _ hp
    simp only [List.nil_append, asc]
    have b1 : decide (k < 0) = false := by simp; omega
    have b2 : decide (k ≥ (len : Int)) = false := by simp; omega
    rw [b1, b2]
    cases p with
    | none => rfl
    | some q => have := hp q rfl; have b3 : decide (q ≥ k) = false := by simp; omega
                simp [b3]
  | cons j acc ih =>
    intro p h hj _
    simp only [List.cons_append, asc, Bool.and_eq_true] at h ⊢
    exact ⟨h.1, ih (some j) h.2 (fun q hq => hj q (List.mem_cons_of_mem _ hq)) (fun q hq => by cases hq; exact hj j List.mem_cons_self)⟩

theorem u64n (k : Nat) (h : k ≤ 1000000) : IntKind.wrap .u64 (k : Int) = (k : Int) := by
  unfold IntKind.wrap; simp [IntKind.signed, IntKind.bits]; omega
theorem blt_t {i n : Nat} (h : i < n) : Nat.blt i n = true := Nat.ble_eq_true_of_le h
theorem fill_j (i : Nat) : Nat.beq (Int.toNat (i : Int)) i = true := by rw [Int.toNat_natCast]; exact Nat.beq_refl i

theorem L25_1_eq (n : Nat) (al on : Bool) (N : Nat) (bits K : Int) (xs : List S38) (l : List Int) (p : Int) (hN : N ≤ 9) (hi : xs.length < N) : ∀ (d k f : Nat) (acc : List Int), k + d = N → d < f →
    asc N none acc = true → (∀ j ∈ acc, j < (k : Int)) → acc.length ≤ 4 →
    ∃ acc', iter (U25_1 n) f ((al, (on, ((N : Int), ((xs.length : Int), (bits, (k : Int)))))), ((xs, (N, K)), ((l, p), acc))) = some ((al, (on, ((N : Int), (xs.length : Int)))), ((xs, (N, K)), ((l, p), acc'))) ∧ asc N none acc' = true ∧ acc'.length ≤ 4 := by
  intro d
  induction d with
  | zero =>
    intro k f acc hk hf h1 h2 h3
    obtain ⟨f, rfl⟩ := iter_exists (show 0 < f by omega)
    rw [iter_succ, U25_1.eq_1, S25_1.eq_1]
    simp only [lt_f (show N ≤ k by omega), cond_false]
    exact ⟨acc, rfl, h1, h3⟩
  | succ d ih =>
    intro k f acc hk hf h1 h2 h3
    obtain ⟨f, rfl⟩ := iter_exists (show 0 < f by omega)
    rw [iter_succ, U25_1.eq_1, S25_1.eq_1]
    have hkN : k < N := by omega
    have b0 : decide ((k : Int) < 0) = false := by simp
    simp only [lt_t hkN, cond_true, u64n k (by omega), b0, cond_false]
    have skip := fun acc h1 h2 h3 => ih (k + 1) f acc (by omega) (by omega) h1 h2 h3
    cases (IntKind.wrap .i64 (BitVec.ofInt (IntKind.bits .i64) (Int.fdiv bits (2 ^ (min (Int.toNat (k : Int)) (IntKind.bits .i64)))) &&& BitVec.ofInt (IntKind.bits .i64) (1 : Int)).toNat == (1 : Int)) with
    | false =>
      simp only [cond_false, w64s k (by omega)]
      exact skip acc h1 (fun j hj => by have := h2 j hj; omega) h3
    | true =>
      simp only [cond_true, fill_j, ge0, blt_t hi, Bool.and_self]
      cases h4 : decide (((acc.length : Nat) : Int) < (4 : Int)) with
      | false =>
        simp only [cond_false, w64s k (by omega)]
        exact skip acc h1 (fun j hj => by have := h2 j hj; omega) h3
      | true =>
        have h4' : ((acc.length : Nat) : Int) < 4 := by simpa using h4
        simp only [cond_true, w64s k (by omega)]
        rw [app_small (by simp; omega)]
        simp only [cond_true]
        refine skip (acc ++ [(k : Int)]) (asc_snoc N k (by omega) (by omega) acc none h1 h2 (fun q hq => by cases hq)) (fun j hj => ?_) (by simp; omega)
        rcases List.mem_append.mp hj with hj | hj
        · have := h2 j hj; omega
        · simp at hj; omega

/-- How many of its successors a node waits for. -/
def Kc (al on : Bool) (x : S38) : Prop := (al = true → x.K = (x.Next.length : Int)) ∧ (al = false → on = true → x.K = if x.Next.length = 0 then 0 else 1)
def NodeOK (N : Nat) (al on : Bool) (x : S38) : Prop := okNode N x = true ∧ x.Next.length ≤ 4 ∧ Kc al on x
theorem node_of {N : Nat} {al on : Bool} {K : Int} {acc : List Int} (h1 : asc N none acc = true) (h2 : acc.length ≤ 4) (hK : 0 ≤ K ∧ K ≤ (acc.length : Int) ∧ (0 < acc.length → 0 < K)) (hc : Kc al on (S38.mk K acc)) : NodeOK N al on (S38.mk K acc) := by
  refine ⟨?_, h2, hc⟩
  unfold okNode okHead
  rw [h1]
  have b1 : decide (K < 0) = false := by simp; omega
  have b2 : decide (K > (acc.length : Int)) = false := by simp; omega
  simp only [b1, b2, Bool.not_false, Bool.true_and, Bool.and_true]
  rcases Nat.eq_zero_or_pos acc.length with h | h
  · obtain rfl : acc = [] := List.length_eq_zero_iff.mp h
    simp
  · have := hK.2.2 h
    have b3 : (K == 0) = false := by simp; omega
    simp [b3]

theorem shl_ok (N : Nat) (h1 : 1 ≤ N) (h2 : N ≤ 9) : ∃ m : Int, IntKind.wrap .i64 ((1 : Int) * 2 ^ (min (Int.toNat (N : Int)) (IntKind.bits .i64))) = m ∧ 1 ≤ m ∧ m ≤ 1000000 := by
  have : N = 1 ∨ N = 2 ∨ N = 3 ∨ N = 4 ∨ N = 5 ∨ N = 6 ∨ N = 7 ∨ N = 8 ∨ N = 9 := by omega
  rcases this with rfl | rfl | rfl | rfl | rfl | rfl | rfl | rfl | rfl <;> exact ⟨_, rfl, by decide, by decide⟩

theorem L25_0_eq (n : Nat) (hn : 1000 ≤ n) (al on : Bool) (N : Nat) (hN1 : 1 ≤ N) (hN : N ≤ 9) (l : List Int) (hl : l.length ≤ 1000) : ∀ (d f : Nat) (xs : List S38) (p : Int), xs.length + d = N → d < f → (0 ≤ p ∧ p ≤ 1000) → (∀ x ∈ xs, NodeOK N al on x) →
    ∃ xs', iter (U25_0 n) f ((al, (on, ((N : Int), (xs.length : Int)))), ((xs, N), (l, p))) = some (xs', N) ∧ xs'.length = N ∧ ∀ x ∈ xs', NodeOK N al on x := by
  intro d
  induction d with
  | zero =>
    intro f xs p hk hf hp hx
    obtain ⟨f, rfl⟩ := iter_exists (show 0 < f by omega)
    rw [iter_succ, U25_0.eq_1, S25_0.eq_1]
    simp only [lt_f (show N ≤ xs.length by omega), cond_false]
    exact ⟨xs, rfl, by omega, hx⟩
  | succ d ih =>
    intro f xs p hk hf hp hx
    obtain ⟨f, rfl⟩ := iter_exists (show 0 < f by omega)
    rw [iter_succ, U25_0.eq_1, S25_0.eq_1]
    have hi : xs.length < N := by omega
    have b0 : decide ((N : Int) < 0) = false := by simp
    obtain ⟨m, hm, hm1, hm2⟩ := shl_ok N hN1 hN
    obtain ⟨r1, p1, e1, hr1, hp1⟩ := F40_eq n m l p hm1 hm2 hl hp.1 hp.2
    obtain ⟨r2, p2, e2, hr2, hp2⟩ := F40_eq n 4 l p1 (by omega) (by omega) hl hp1.1 hp1.2
    simp only [lt_t hi, cond_true, u64n N (by omega), b0, cond_false, hm, e1, Option.bind_some, e2]
    -- what follows, for whatever bits
    have next : ∀ (x : S38) (q : Int), (0 ≤ q ∧ q ≤ 1000) → NodeOK N al on x → ∃ xs', iter (U25_0 n) f ((al, (on, ((N : Int), ((xs.length + 1 : Nat) : Int)))), ((xs ++ [x], N), (l, q))) = some (xs', N) ∧ xs'.length = N ∧ ∀ x ∈ xs', NodeOK N al on x := by
      intro x q hq hxo
      have := ih f (xs ++ [x]) q (by simp; omega) (by omega) hq (fun y hy => by
        rcases List.mem_append.mp hy with hy | hy
        · exact hx y hy
        · simp at hy; subst hy; exact hxo)
      simpa using this
    have z : (0 : Int) = ((0 : Nat) : Int) := rfl
    have body : ∀ bits : Int, ∃ acc, L25_1 n al on (N : Int) (xs.length : Int) bits 0 xs N 0 l p2 [] = some ((al, (on, ((N : Int), (xs.length : Int)))), ((xs, (N, 0)), ((l, p2), acc))) ∧ asc N none acc = true ∧ acc.length ≤ 4 := by
      intro bits
      unfold L25_1
      exact L25_1_eq n al on N bits 0 xs l p2 hN hi N 0 n [] (by omega) (by omega) rfl (fun j hj => by cases hj) (by simp)
    cases (r2 == (0 : Int)) with
    | true =>
      obtain ⟨acc, ea, ha1, ha2⟩ := body 0
      simp only [cond_true, ea, Option.bind_some, fill_j, ge0, blt_t hi, Bool.and_self, w64s xs.length (by omega)]
      cases hm : decide (((acc.length : Nat) : Int) > 0) with
      | false =>
        have h0 : ¬ ((acc.length : Nat) : Int) > 0 := by simpa using hm
        have hac : acc.length = 0 := by omega
        simp only [cond_false]
        exact next _ _ hp2 (node_of ha1 ha2 ⟨by omega, by omega, fun h => by omega⟩ ⟨fun _ => by simp [hac], fun _ _ => by simp [hac]⟩)
      | true =>
        have h0 : ((acc.length : Nat) : Int) > 0 := by simpa using hm
        obtain ⟨r3, p3, e3, hr3, hp3⟩ := F40_eq n ((acc.length : Nat) : Int) l p2 (by omega) (by omega) hl hp2.1 hp2.2
        simp only [cond_true, e3, Option.bind_some, fill_j, ge0, blt_t hi, Bool.and_self]
        cases al with
        | true =>
          simp only [cond_true]
          exact next _ _ hp3 (node_of ha1 ha2 ⟨by omega, by omega, fun h => by omega⟩ ⟨fun _ => rfl, fun h => by cases h⟩)
        | false =>
          cases on with
          | true =>
            simp only [cond_true, cond_false]
            exact next _ _ hp3 (node_of ha1 ha2 ⟨by omega, by omega, fun h => by omega⟩ ⟨fun h => (by cases h), fun _ _ => by show (1 : Int) = _; rw [if_neg (show ¬ acc.length = 0 by omega)]⟩)
          | false =>
            simp only [cond_false]
            rw [w64 (by omega)]
            exact next _ _ hp3 (node_of ha1 ha2 ⟨by omega, by omega, fun h => by omega⟩ ⟨fun h => (by cases h), fun _ h => by cases h⟩)
    | false =>
      obtain ⟨acc, ea, ha1, ha2⟩ := body r1
      simp only [cond_false, ea, Option.bind_some, fill_j, ge0, blt_t hi, Bool.and_self, w64s xs.length (by omega), cond_true]
      cases hm : decide (((acc.length : Nat) : Int) > 0) with
      | false =>
        have h0 : ¬ ((acc.length : Nat) : Int) > 0 := by simpa using hm
        have hac : acc.length = 0 := by omega
        simp only [cond_false]
        exact next _ _ hp2 (node_of ha1 ha2 ⟨by omega, by omega, fun h => by omega⟩ ⟨fun _ => by simp [hac], fun _ _ => by simp [hac]⟩)
      | true =>
        have h0 : ((acc.length : Nat) : Int) > 0 := by simpa using hm
        obtain ⟨r3, p3, e3, hr3, hp3⟩ := F40_eq n ((acc.length : Nat) : Int) l p2 (by omega) (by omega) hl hp2.1 hp2.2
        simp only [cond_true, e3, Option.bind_some, fill_j, ge0, blt_t hi, Bool.and_self]
        cases al with
        | true =>
          simp only [cond_true]
          exact next _ _ hp3 (node_of ha1 ha2 ⟨by omega, by omega, fun h => by omega⟩ ⟨fun _ => rfl, fun h => by cases h⟩)
        | false =>
          cases on with
          | true =>
            simp only [cond_true, cond_false]
            exact next _ _ hp3 (node_of ha1 ha2 ⟨by omega, by omega, fun h => by omega⟩ ⟨fun h => (by cases h), fun _ _ => by show (1 : Int) = _; rw [if_neg (show ¬ acc.length = 0 by omega)]⟩)
          | false =>
            simp only [cond_false]
            rw [w64 (by omega)]
            exact next _ _ hp3 (node_of ha1 ha2 ⟨by omega, by omega, fun h => by omega⟩ ⟨fun h => (by cases h), fun _ h => by cases h⟩)

structure Made (al on : Bool) (g : List S38) : Prop where
  pos : 1 ≤ g.length
  len : g.length ≤ 9
  node : ∀ x ∈ g, NodeOK g.length al on x
theorem F25_eq (n : Nat) (hn : 1000 ≤ n) (l : List Int) (hl : l.length ≤ 1000) (al on : Bool) : ∃ g, F25 n l al on = some g ∧ Made al on g := by
  unfold F25 L25_0
  obtain ⟨r, p, e, hr, hp⟩ := F40_eq n 9 l 0 (by omega) (by omega) hl (by omega) (by omega)
  obtain ⟨N, hN⟩ : ∃ N : Nat, IntKind.wrap .i64 ((1 : Int) + r) = (N : Int) := ⟨(1 + r).toNat, by rw [w64 (by omega)]; omega⟩
  have hN' : (N : Int) = 1 + r := by rw [← hN, w64 (by omega)]
  simp only [e, Option.bind_some, hN, Int.toNat_natCast]
  rw [make_small (by omega)]
  obtain ⟨xs, e1, h1, h2⟩ := L25_0_eq n hn al on N (by omega) (by omega) l hl N n [] p (by simp) (by omega) hp (fun x hx => by cases hx)
  simp only [cond_true]
  have z : ((([] : List S38).length : Nat) : Int) = (0 : Int) := rfl
  rw [z] at e1
  rw [e1]
  simp only [Option.bind_some]
  have ht : List.take N (xs ++ S38.mk 0 [] :: List.replicate (N - (xs.length + 1)) (S38.mk 0 [])) = xs := by
    rw [List.take_append_of_le_length (by omega), List.take_of_length_le (by omega)]
  rw [ht]
  exact ⟨xs, rfl, by omega, by omega, by rw [h1]; exact h2⟩
theorem made_valid {al on : Bool} {g : List S38} (h : Made al on g) : valid g = true := by
  unfold valid
  have h1 := h.len
  simp only [Bool.and_eq_true, decide_eq_true_eq, List.all_eq_true]
  exact ⟨by omega, fun x hx => (h.node x hx).1⟩
theorem made_fits {al on : Bool} {g : List S38} (h : Made al on g) : Fits 100000 g := fun x hx => by have := (h.node x hx).2.1; omega
theorem light (n : Nat) (l : List Int) : F24 n l = some (decide (((l.length : Nat) : Int) ≤ 300)) := rfl
theorem lawMade (l : List Int) (i : Int) : F5 100000 l i = some true := by
  unfold F5
  rw [light, awake]
  cases hl : decide (((l.length : Nat) : Int) ≤ 300) with
  | false => rfl
  | true =>
    have hl' : ((l.length : Nat) : Int) ≤ 300 := by simpa using hl
    obtain ⟨g, eg, hg⟩ := F25_eq 100000 (by omega) l (by omega) false false
    have h1 := hg.pos
    have h2 := hg.len
    obtain ⟨k, ek, hk⟩ := F26_eq 100000 i ((g.length : Nat) : Int) (by omega) (by omega)
    have hx := made_fits hg
    simp only [Option.bind_some, bNot, Bool.not_true, cond_false, eg, ek, cond_true]
    rw [F12_eq _ (by omega) g hx, made_valid hg, F15_eq _ (by omega) g hx, F16_eq _ (by omega) g hx]
    simp only [Option.bind_some, cond_true]
    rw [F14_eq _ _ (by have := stuck_len g; omega) (by have := stuck_len g; omega)]
    simp only [Option.bind_some, cond_true]
    rw [F19_eq _ (by omega) g hx, F20_eq _ (by omega) g hx]
    simp only [Option.bind_some]
    rw [F14_eq _ _ (by have := cyc_len g k; omega) (by have := cyc_len g k; omega)]
    simp only [Option.bind_some, cond_true]
    rw [F22_eq _ (by omega) (by omega) g hx, F23_eq _ (by omega) (by omega) g hx]
    simp only [Option.bind_some]
    have hk : (knots 100000 g).length ≤ 1000 ∧ ∀ l ∈ knots 100000 g, l.length ≤ 1000 := by
      unfold knots
      cases valid g with
      | false => exact ⟨by simp, fun l hl => by cases hl⟩
      | true =>
        have := kn_len 100000 g g.length 0
        exact ⟨by simp only [cond_true]; omega, fun l hl => by have := kn_elem 100000 g g.length 0 l hl; omega⟩
    rw [F21_eq _ _ hk.1 hk.2 (by omega)]
    simp only [Option.bind_some, cond_true]
    rw [F17_eq _ (by omega) (by omega) g hx, F18_eq _ (by omega) (by omega) g hx]
    simp only [Option.bind_some]
    rw [F14_eq _ _ (by have := reach_len 100000 g k; omega) (by have := reach_len 100000 g k; omega)]
    rfl
end Go.Abs.Wg
end
