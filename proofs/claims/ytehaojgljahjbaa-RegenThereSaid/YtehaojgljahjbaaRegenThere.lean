/- The law RegenThere returns true for every input, and its arguments read as before. No conditions. -/
import Derived.Test.YtehaojgljahjbaaRows
import Derived.WalkKit
import Derived.ProofKit
import Derived.OpenShut
import Derived.ShutString
import Derived.ChangeOld
import Derived.Below
import Derived.SizedLaws
import Derived.Test.YtehaojgljahjbaaPureThere
namespace Go.Proofs.Ytehaojgljahjbaa
set_option linter.unusedVariables false
namespace regenThere
open Go.ChangeShapes Go.WideShapes Go.ChangeAt Go.RowKit Go.Abs Go.G28
open Go.ChangeMaps (open_string shut_string)
theorem own : ownKnob Try.prog.godebug = none := by kernel_rfl
theorem laidOut : laidOutB Try.prog = true := by kernel_rfl
def Pure : Prop := ∀ (a0 : List Int) (_ : ∀ z ∈ a0, (Lit.int .i64 z).wf = true) (a1 : Int) (_ : (Lit.int .u8 a1).wf = true) (a2 : Int) (_ : (Lit.int .u8 a2).wf = true), ∃ n, Go.Abs.AbsP28.F4 n a0 a1 a2 = some true
theorem told (n : Nat) (a0 : List Int) (a1 : Int) (a2 : Int) (h : Go.Abs.AbsP28.F4 n a0 a1 a2 = some true) : Contract Try.prog 4 ([.d (.sl (.int .i64)) (a0 : List Int), .d (.int .u8) (a1 : Int), .d (.int .u8) (a2 : Int)] : List (EV Go.G28.gam)) [] (.d .bool true) [] [] :=
  fnT_contract (Go.Abs.AbsP28.okt4 n) (x := (a0, a1, a2)) (y := true) h (by kernel_rfl)
set_option maxRecDepth 100000 in
theorem lifted (hp : Pure) (os : Os) (started : os.Started) (H : Type) (enc : TypeId × Value → H) :
    ReturnsInHanded {} Try.checked os 4 .any (Rows.regenThereSpec.pre6 enc Try.prog Try.f4 Rows.regenThereRow.domain false) (Rows.regenThereSpec.post enc Try.prog Try.f4 false true false false) := by
  refine returnsInHanded_of_change_sized (C := Try.checked) own started (by kernel_rfl) Try.func4
    (ChangeSpec.witness6 (enc := enc) (C := Try.checked) false ⟨#[], #[.slice none 0 0, .int .u8 0, .int .u8 0], []⟩ 8 (by kernel_rfl) (by kernel_rfl) (by kernel_rfl) (by kernel_rfl)) ?_
  intro W base args ds gs before hval0 hW hcnd hsz0 _
  have hval : ∀ (j : Nat) t v, Try.f4.params[j]? = some t → args[j]? = some v → Value.okWide Try.prog W .any base t v := hval0
  have hW' := hW
  obtain ⟨p, q, hA0, hV, rfl, hfz, hnd⟩ := hW
  have hA : DataW.TrodAll enc Try.prog W 0 (fun _ => true) true Try.f4.params.toList args.toList ds p := hA0
  rw [Try.params4] at hA hval
  obtain ⟨v0, vs0, d0, ds0, p0, q0, hargs, rfl, rfl, h0, r0⟩ := trodAll_cons hA
  obtain ⟨v1, vs1, d1, ds1, p1, q1, rfl, rfl, rfl, h1, r1⟩ := trodAll_cons r0
  obtain ⟨v2, vs2, d2, ds2, p2, q2, rfl, rfl, rfl, h2, r2⟩ := trodAll_cons r1
  obtain ⟨rfl, rfl, rfl⟩ := trodAll_nil r2
  obtain rfl : args = #[v0, v1, v2] := by cases args; simp_all
  obtain ⟨rfl, rfl⟩ := trodVars_none hV
  obtain ⟨a0, len0, cap0, rfl⟩ := okWide_slice Try.underlying22 (hval 0 22 v0 rfl rfl)
  have k0 := h0
  have lt0 : ∀ x ∈ p0, x.block < W.heap.size := by obtain ⟨m, hm⟩ := k0; exact DataW.trod_lt m _ _ _ hm
  obtain ⟨z0, w0, g0⟩ : ∃ zs : List Int, RepD Go.G28.gam (fun _ _ => True) W (.sl (.int .i64)) zs [.slice a0 len0 cap0] ∧ ∀ z ∈ zs, (Lit.int .i64 z).wf = true := by
    obtain ⟨fuel, hf⟩ := h0
    rcases open_ints Try.underlying22 Try.underlying3 (by kernel_rfl) hf with ⟨hcs, _⟩ | ⟨x, l, c, zs, hcs, _, hl, hm, hz, _, hcell, hwz⟩
    · simp [Value.cells] at hcs
      obtain ⟨rfl, rfl, rfl⟩ := hcs
      exact ⟨[], rep_ints (zs := []) rfl (Nat.le_refl _) (.inl rfl) (.inl rfl), by intro z hz; cases hz⟩
    · simp [Value.cells] at hcs
      obtain ⟨rfl, rfl, rfl⟩ := hcs
      exact ⟨zs.take len0, rep_row hl (by simpa using hz) hcell, fun z hz => hwz z (List.mem_of_mem_take hz)⟩
  obtain ⟨a1, rfl, rfl, rfl, w1⟩ := open_int Try.underlying5 (hval 1 5 v1 rfl rfl) h1
  obtain ⟨a2, rfl, rfl, rfl, w2⟩ := open_int Try.underlying5 (hval 2 5 v2 rfl rfl) h2
  obtain ⟨n, hn⟩ := hp z0 g0 a1 w1 a2 w2
  refine (law_calls (told n z0 a1 a2 hn) (w := W) (by exact ⟨⟨rfl, w0⟩, ⟨rfl, .int _ _⟩, ⟨rfl, .int _ _⟩, trivial⟩) (by kernel_rfl) (u := .bool true) rep_bool).mono fun e W' ⟨he, bel⟩ => ?_
  subst he
  exact ⟨_, rfl, _, _, _, [], _, [], hW', trodAll_mk1 (shut_bool Try.underlying4 _), (trodAll_cons_mk (Below.trod laidOut (by kernel_rfl) (of_decide_eq_true (by kernel_rfl)) k0 bel lt0) (trodAll_cons_mk (shut_int Try.underlying5 w1) (trodAll_cons_mk (shut_int Try.underlying5 w2) trodAll_mk0))), rfl, bel.frame _, fun h => by cases h⟩
theorem over (hp : Pure) : Rows.regenThereRow.holds Try.pinned (OpenSpec.ofChange Rows.regenThereSpec) :=
  OpenClaim.holds_of_wide 4 Try.f4 rfl rfl rfl rfl rfl rfl rfl ⟨rfl, rfl, rfl, rfl, rfl⟩ rfl rfl rfl rfl rfl (by kernel_rfl) Try.func4 (by kernel_rfl)
    (of_decide_eq_true (by kernel_rfl)) (by unfold Func.isWrapper; first | (rw [if_pos (by decide +kernel)]; kernel_rfl) | (rw [if_neg (by decide +kernel)]; exact ⟨rfl, rfl⟩))
    (fun os started H enc _ => lifted hp os started H enc)
theorem proved (hp : Pure) : Rows.RegenThereSaid := over hp
end regenThere
theorem RegenThere_proved : Rows.RegenThereSaid := regenThere.proved fun a0 _ a1 h a2 h2 => ⟨100000, Go.Abs.Rg.lawThere a0 a1 a2 h h2⟩
end Go.Proofs.Ytehaojgljahjbaa
