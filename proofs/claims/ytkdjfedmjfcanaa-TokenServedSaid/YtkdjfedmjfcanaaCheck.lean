/- The table is closed, and its states are good. -/
import Derived.Test.YtkdjfedmjfcanaaTab
section
set_option linter.all false
set_option linter.unusedVariables false
set_option linter.unusedSimpArgs false
set_option linter.unnecessarySimpa false
/-
  The token's sites: the table is closed.
-/
namespace Go.Abs.Tok
open Go Go.Abs Go.G27
theorem ok1 : okTr 1 tr1 tr1 = true := by kernel_rfl
theorem ok2 : okTr 2 tr2 tr2 = true := by kernel_rfl
theorem ok3 : okTr 3 tr3 tr3 = true := by kernel_rfl
theorem ok4a : okTr 4 tr4 tr4a = true := by kernel_rfl
theorem ok4b : okTr 4 tr4 tr4b = true := by kernel_rfl
theorem ok4c : okTr 4 tr4 tr4c = true := by kernel_rfl
theorem ok4d : okTr 4 tr4 tr4d = true := by kernel_rfl
theorem ok4e : okTr 4 tr4 tr4e = true := by kernel_rfl
theorem ok4f : okTr 4 tr4 tr4f = true := by kernel_rfl
theorem ok4g : okTr 4 tr4 tr4g = true := by kernel_rfl
theorem ok4h : okTr 4 tr4 tr4h = true := by kernel_rfl
theorem ok4 : okTr 4 tr4 tr4 = true := by
  have h : okTr 4 tr4 tr4 = (((okTr 4 tr4 tr4a && okTr 4 tr4 tr4b) && (okTr 4 tr4 tr4c && okTr 4 tr4 tr4d)) && ((okTr 4 tr4 tr4e && okTr 4 tr4 tr4f) && (okTr 4 tr4 tr4g && okTr 4 tr4 tr4h))) := by kernel_rfl
  rw [h, ok4a, ok4b, ok4c, ok4d, ok4e, ok4f, ok4g, ok4h]
  rfl
end Go.Abs.Tok
end
