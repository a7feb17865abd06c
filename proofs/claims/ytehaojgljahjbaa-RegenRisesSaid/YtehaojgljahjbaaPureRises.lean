/- The law, plain. -/
import Derived.Test.YtehaojgljahjbaaStepsB
section
set_option linter.all false
set_option linter.unusedVariables false
set_option linter.unusedSimpArgs false
set_option linter.unnecessarySimpa false
/-
  Regen: never two tokens.
-/
namespace Go.Abs.Rg
open Go Go.Abs Go.G28 Go.Abs.AbsP28

theorem u8_in {x : Int} (h : (Lit.int .u8 x).wf = true) : 0 ≤ x ∧ x ≤ 255 := by
  have := h
  simp [Lit.wf] at this
  have e1 : IntKind.u8.min = 0 := rfl
  have e2 : IntKind.u8.max = 255 := rfl
  omega
theorem lawOne (a0 : List Int) (a1 : Int) (h : (Lit.int .u8 a1).wf = true) : F3 100000 a0 a1 = some true := by
  have hr := u8_in h
  unfold F3 F6
  rw [Option.bind_some, awake, Option.bind_some]
  by_cases hl : a0.length ≤ 400
  · have d : decide ((a0.length : Int) ≤ 400) = true := by simp; omega
    have e4 : ((4 : Int) == 0) = false := rfl
    simp only [d, bNot, Bool.not_true, cond_false, e4]
    obtain ⟨k, hk, hk2⟩ : ∃ k : Nat, (1 ≤ k ∧ k ≤ 4) ∧ IntKind.wrap .i64 (1 + Int.tmod (IntKind.wrap .i64 a1) 4) = (k : Int) := by
      rw [w64 (by omega : -9223372036854775808 ≤ a1 ∧ a1 ≤ 9223372036854775807), Int.tmod_eq_emod_of_nonneg hr.1, w64 (by omega)]
      exact ⟨(1 + a1 % 4).toNat, by omega, by omega⟩
    obtain ⟨rs, up, ml, D, h1, _⟩ := F8_eq 100000 (by omega) a0 hl hk.1 hk.2
    rw [hk2, h1]
    rfl
  · have d : decide ((a0.length : Int) ≤ 400) = false := by simp; omega
    simp [d, bNot]
end Go.Abs.Rg
end
section
set_option linter.all false
set_option linter.unusedVariables false
set_option linter.unusedSimpArgs false
set_option linter.unnecessarySimpa false
/-
  Regen: epochs rise.
-/
namespace Go.Abs.Rg
open Go Go.Abs Go.G28 Go.Abs.AbsP28

theorem L5_1_eq (n : Nat) (a0 : Int) (i j : Nat) (a3 a4 : Int) (k : Nat) (ml : Mail) (rs : List S37) (up : List Bool) (ms : List S57) (hi : i < rs.length) (hl : ms.length ≤ 1000)
    (h : ∀ m ∈ ms, ∃ x l, F13 n (rs.getD i zr) (i : Int) (rs.length : Int) (j : Int) m = some (x, (l, 18))) : ∀ (d t f : Nat), t + d = ms.length → d < f →
    iter (U5_1 n) f ((a0, ((i : Int), ((j : Int), (a3, (a4, (((ms.length : Nat) : Int), (t : Int))))))), (k, (ml, (rs, (up, ms))))) = some (.inl ((a0, ((i : Int), ((j : Int), (a3, a4)))), (k, (ml, (rs, up))))) := by
  intro d
  induction d with
  | zero =>
    intro t f ht hf
    obtain ⟨f, rfl⟩ := iter_exists (show 0 < f by omega)
    rw [iter_succ, U5_1.eq_1, S5_1.eq_1]
    simp only [lt_f (show ms.length ≤ t by omega), cond_false]
  | succ d ih =>
    intro t f ht hf
    obtain ⟨f, rfl⟩ := iter_exists (show 0 < f by omega)
    rw [iter_succ, U5_1.eq_1, S5_1.eq_1]
    have h1 : t < ms.length := by omega
    obtain ⟨x, l, hx⟩ := h ms[t] (List.getElem_mem h1)
    have e0 : ((18 : Int) != 18) = false := rfl
    simp only [lt_t h1, cond_true, ge0, Bool.and_self, Int.toNat_natCast, List.getElem?_eq_getElem h1, Option.bind_some, lt_t hi, getD_some hi zr, hx, e0, cond_false, w64s t (by omega)]
    exact ih (t + 1) f (by omega) (by omega)
theorem hear_stale {r : S37} {i f : Int} {m : S57} (h : ¬ fresh r m) : hearS r i f m = (zr, [], 18) := by unfold hearS; simp [h]
theorem L5_0_eq (n : Nat) (hn : 5000 ≤ n) (a0 : Int) {k : Nat} (hk : 2 ≤ k) (rs : List S37) (up : List Bool) (ml : Mail) (hok : Ok k rs up ml) : ∀ (d i f : Nat), i + d = k → d < f →
    iter (U5_0 n) f ((a0, ((k : Int), (i : Int))), (k, (ml, (rs, up)))) = some (.inl ()) := by
  have hrl := hok.rl
  have hk4 := hok.k4
  intro d
  induction d with
  | zero =>
    intro i f hi hf
    obtain ⟨f, rfl⟩ := iter_exists (show 0 < f by omega)
    rw [iter_succ, U5_0.eq_1, S5_0.eq_1]
    simp only [lt_f (show k ≤ i by omega), cond_false]
  | succ d ih =>
    intro i f hi hf
    obtain ⟨f, rfl⟩ := iter_exists (show 0 < f by omega)
    rw [iter_succ, U5_0.eq_1, S5_0.eq_1]
    have hik : i < k := by omega
    have hv := hok.val i hik
    have hp := hok.p4 hik
    have hE := hok.ep i hik
    have hk0 : ((k : Int) == 0) = false := by simp; omega
    have hir : i < rs.length := by omega
    simp only [lt_t hik, cond_true, hrl, hk0, cond_false, ge0, Bool.and_self, Int.toNat_natCast, getD_some hir zr, Option.bind_some, w64s i (by omega)]
    by_cases hz : (rs.getD i zr).Epoch = 0
    · have b : ((rs.getD i zr).Epoch == 0) = true := by simpa using hz
      rw [b, cond_true]
      exact ih (i + 1) f (by omega) (by omega)
    · have b : ((rs.getD i zr).Epoch == 0) = false := by simpa using hz
      have hlo := hv.lo
      rw [b, cond_false, F12_eq n a0 _ (by omega) (by omega), Option.bind_some]
      have hj : ∃ j : Nat, Int.tmod (((i + 1 : Nat) : Int)) (k : Int) = (j : Int) ∧ j < k ∧ j ≠ i := by
        rw [Int.tmod_eq_emod_of_nonneg (by omega)]
        by_cases h1 : i + 1 = k
        · exact ⟨0, by rw [h1, Int.emod_self]; rfl, by omega, by omega⟩
        · exact ⟨i + 1, by rw [Int.emod_eq_of_lt (by omega) (by omega)], by omega, by omega⟩
      obtain ⟨j, hj1, hjk, hji⟩ := hj
      rw [hj1]
      have hoj : oth (j : Int) (i : Int) (k : Int) := ⟨by omega, by omega, by omega⟩
      have he0 := Int.emod_nonneg a0 hz
      have he1 := Int.emod_lt_of_pos a0 (show 0 < (rs.getD i zr).Epoch by omega)
      generalize a0 % (rs.getD i zr).Epoch = ep at *
      generalize hms : ([(S57.mk (13 : Int) (0 : Int) (0 : Int) (0 : Int) (0 : Int) (ByteArray.mk #[]) (0 : Int) (0 : Int) (0 : Int) (0 : Int) (0 : Int) ep (0 : Int) (0 : Int) false ([] : List Unit) ([] : List Unit) ([] : List Unit)), (S57.mk (14 : Int) (0 : Int) (0 : Int) (0 : Int) (0 : Int) (ByteArray.mk #[]) (0 : Int) (0 : Int) (0 : Int) (0 : Int) (0 : Int) ep (0 : Int) (0 : Int) false ([] : List Unit) ([] : List Unit) ([] : List Unit)), (S57.mk (15 : Int) (0 : Int) (0 : Int) (0 : Int) (0 : Int) (ByteArray.mk #[]) (0 : Int) (0 : Int) (0 : Int) (0 : Int) (0 : Int) ep (0 : Int) (0 : Int) false ([] : List Unit) ([] : List Unit) ([] : List Unit)), (S57.mk (12 : Int) (0 : Int) (0 : Int) (0 : Int) (0 : Int) (ByteArray.mk #[]) (0 : Int) (0 : Int) (0 : Int) (0 : Int) (0 : Int) ep (j : Int) (0 : Int) false ([] : List Unit) ([] : List Unit) ([] : List Unit))] : List S57) = ms
      have hst : ∀ m ∈ ms, MsgOK m (i : Int) (k : Int) ∧ ¬ fresh (rs.getD i zr) m := by
        intro m hm
        subst hms
        simp only [List.mem_cons, List.not_mem_nil, or_false] at hm
        unfold fresh
        rcases hm with rfl | rfl | rfl | rfl
        · exact ⟨⟨.inr (.inl rfl), fun c => by simp at c, he0, by show ep ≤ _; omega⟩, by rw [if_neg (by simp)]; show ¬ ep = (rs.getD i zr).Epoch; omega⟩
        · exact ⟨⟨.inr (.inr (.inl rfl)), fun c => by simp at c, he0, by show ep ≤ _; omega⟩, by rw [if_pos rfl]; show ¬ (rs.getD i zr).Epoch < ep; omega⟩
        · exact ⟨⟨.inr (.inr (.inr rfl)), fun c => by simp at c, he0, by show ep ≤ _; omega⟩, by rw [if_neg (by simp)]; show ¬ ep = (rs.getD i zr).Epoch; omega⟩
        · exact ⟨⟨.inl rfl, fun _ => hoj, he0, by show ep ≤ _; omega⟩, by rw [if_neg (by simp)]; show ¬ ep = (rs.getD i zr).Epoch; omega⟩
      have hl : ms.length = 4 := by subst hms; rfl
      have h1 := L5_1_eq n a0 i j (k : Int) (i : Int) k ml rs up ms hir (by omega) (fun m hm => ⟨zr, [], by rw [hrl, F13_eq n hn hp hv hoj (hst m hm).1, hear_stale (hst m hm).2]⟩) ms.length 0 n (by omega) (by omega)
      have z : ((0 : Nat) : Int) = (0 : Int) := rfl
      rw [z] at h1
      unfold L5_1
      rw [h1, Option.bind_some]
      simp only [Sum.elim_inl, hrl, ge0, lt_t hik, Bool.and_self, cond_true, Int.toNat_natCast, getD_some hir zr, Option.bind_some]
      rw [w64 (show -9223372036854775808 ≤ (rs.getD i zr).Epoch + 1 ∧ (rs.getD i zr).Epoch + 1 ≤ 9223372036854775807 by omega)]
      rw [F13_eq n hn hp hv hoj ⟨.inr (.inr (.inl rfl)), fun c => by simp at c, by show 0 ≤ (rs.getD i zr).Epoch + 1; omega, by show (rs.getD i zr).Epoch + 1 ≤ _; omega⟩, Option.bind_some]
      have hpr : ∃ l out, hearS (rs.getD i zr) (i : Int) (j : Int) (S57.mk (14 : Int) (0 : Int) (0 : Int) (0 : Int) (0 : Int) (ByteArray.mk #[]) (0 : Int) (0 : Int) (0 : Int) (0 : Int) (0 : Int) ((rs.getD i zr).Epoch + 1) (0 : Int) (0 : Int) false ([] : List Unit) ([] : List Unit) ([] : List Unit)) = (proms (rs.getD i zr) ((rs.getD i zr).Epoch + 1) l, (out, 0)) := by
        unfold hearS fresh
        simp only [if_true, show (rs.getD i zr).Epoch < (rs.getD i zr).Epoch + 1 by omega, not_true_eq_false, if_false]
        split
        · exact ⟨_, _, rfl⟩
        · exact ⟨_, _, rfl⟩
      obtain ⟨l, out, hpr⟩ := hpr
      rw [hpr]
      have b1 : ((0 : Int) != 0) = false := rfl
      have b2 : ((proms (rs.getD i zr) ((rs.getD i zr).Epoch + 1) l).Epoch != (rs.getD i zr).Epoch + 1) = false := by
        show (((rs.getD i zr).Epoch + 1) != ((rs.getD i zr).Epoch + 1)) = false
        simp
      simp only [b1, b2, cond_false]
      rw [w64s i (by omega)]
      exact ih (i + 1) f (by omega) (by omega)
theorem lawRises (a0 : List Int) (a1 a2 : Int) (h : (Lit.int .u8 a1).wf = true) (_ : (Lit.int .i64 a2).wf = true) : F5 100000 a0 a1 a2 = some true := by
  have hr := u8_in h
  unfold F5 F6
  rw [Option.bind_some]
  by_cases hl : a0.length ≤ 400
  · have d : decide ((a0.length : Int) ≤ 400) = true := by simp; omega
    have e4 : ((3 : Int) == 0) = false := rfl
    simp only [d, bNot, Bool.not_true, cond_false, e4]
    obtain ⟨k, hk, hk2⟩ : ∃ k : Nat, (2 ≤ k ∧ k ≤ 4) ∧ IntKind.wrap .i64 (2 + Int.tmod (IntKind.wrap .i64 a1) 3) = (k : Int) := by
      rw [w64 (by omega : -9223372036854775808 ≤ a1 ∧ a1 ≤ 9223372036854775807), Int.tmod_eq_emod_of_nonneg hr.1, w64 (by omega)]
      exact ⟨(2 + a1 % 3).toNat, by omega, by omega⟩
    obtain ⟨rs, up, ml, D, h1, h2⟩ := F8_eq 100000 (by omega) a0 hl (show 1 ≤ k by omega) hk.2
    rw [hk2, h1, Option.bind_some]
    have h3 := L5_0_eq 100000 (by omega) a2 hk.1 rs up ml (h2.ok (by omega) (by omega)) k 0 100000 (by omega) (by omega)
    have z : ((0 : Nat) : Int) = (0 : Int) := rfl
    rw [z] at h3
    unfold L5_0
    simp only [Bool.not_true, cond_false, h2.rl, h3, Option.bind_some, Sum.elim_inl, awake]
  · have d : decide ((a0.length : Int) ≤ 400) = false := by simp; omega
    simp only [d, bNot, Bool.not_false, cond_true, awake, Option.bind_some]
end Go.Abs.Rg
end
