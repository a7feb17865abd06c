/- The law, plain. -/
import Derived.Test.YtehaojgljahjbaaStepsB
section
set_option linter.all false
set_option linter.unusedVariables false
set_option linter.unusedSimpArgs false
set_option linter.unnecessarySimpa false
/-
  Regen: never two tokens.
-/
namespace Go.Abs.Rg
open Go Go.Abs Go.G28 Go.Abs.AbsP28

theorem u8_in {x : Int} (h : (Lit.int .u8 x).wf = true) : 0 ≤ x ∧ x ≤ 255 := by
  have := h
  simp [Lit.wf] at this
  have e1 : IntKind.u8.min = 0 := rfl
  have e2 : IntKind.u8.max = 255 := rfl
  omega
theorem lawOne (a0 : List Int) (a1 : Int) (h : (Lit.int .u8 a1).wf = true) : F3 100000 a0 a1 = some true := by
  have hr := u8_in h
  unfold F3 F6
  rw [Option.bind_some, awake, Option.bind_some]
  by_cases hl : a0.length ≤ 400
  · have d : decide ((a0.length : Int) ≤ 400) = true := by simp; omega
    have e4 : ((4 : Int) == 0) = false := rfl
    simp only [d, bNot, Bool.not_true, cond_false, e4]
    obtain ⟨k, hk, hk2⟩ : ∃ k : Nat, (1 ≤ k ∧ k ≤ 4) ∧ IntKind.wrap .i64 (1 + Int.tmod (IntKind.wrap .i64 a1) 4) = (k : Int) := by
      rw [w64 (by omega : -9223372036854775808 ≤ a1 ∧ a1 ≤ 9223372036854775807), Int.tmod_eq_emod_of_nonneg hr.1, w64 (by omega)]
      exact ⟨(1 + a1 % 4).toNat, by omega, by omega⟩
    obtain ⟨rs, up, ml, D, h1, _⟩ := F8_eq 100000 (by omega) a0 hl hk.1 hk.2
    rw [hk2, h1]
    rfl
  · have d : decide ((a0.length : Int) ≤ 400) = false := by simp; omega
    simp [d, bNot]
end Go.Abs.Rg
end
