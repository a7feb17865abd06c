/- The law WaitgraphOr returns true for every input, and its arguments read as before. No conditions. -/
import Derived.Test.YtdibclnfnkjncaaRows
import Derived.WalkKit
import Derived.ProofKit
import Derived.OpenShut
import Derived.ShutString
import Derived.ChangeOld
import Derived.Below
import Derived.SizedLaws
import Derived.Test.YtdibclnfnkjncaaMadeOr
namespace Go.Proofs.Ytdibclnfnkjncaa
set_option linter.unusedVariables false
namespace waitgraphOr
open Go.ChangeShapes Go.WideShapes Go.ChangeAt Go.RowKit Go.Abs Go.G19
open Go.ChangeMaps (open_string shut_string)
theorem own : ownKnob Try.prog.godebug = none := by kernel_rfl
theorem laidOut : laidOutB Try.prog = true := by kernel_rfl
def Pure : Prop := ∀ (a0 : List Int) (_ : ∀ z ∈ a0, (Lit.int .i64 z).wf = true), ∃ n, Go.Abs.AbsP19.F8 n a0 = some true
theorem told (n : Nat) (a0 : List Int) (h : Go.Abs.AbsP19.F8 n a0 = some true) : Contract Try.prog 8 ([.d (.sl (.int .i64)) (a0 : List Int)] : List (EV Go.G19.gam)) [] (.d .bool true) [] [] :=
  fnT_contract (Go.Abs.AbsP19.okt8 n) (x := a0) (y := true) h (by kernel_rfl)
set_option maxRecDepth 100000 in
theorem lifted (hp : Pure) (os : Os) (started : os.Started) (H : Type) (enc : TypeId × Value → H) :
    ReturnsInHanded {} Try.checked os 8 .any (Rows.waitgraphOrSpec.pre6 enc Try.prog Try.f8 Rows.waitgraphOrRow.domain false) (Rows.waitgraphOrSpec.post enc Try.prog Try.f8 false true false false) := by
  refine returnsInHanded_of_change_sized (C := Try.checked) own started (by kernel_rfl) Try.func8
    (ChangeSpec.witness6 (enc := enc) (C := Try.checked) false ⟨#[], #[.slice none 0 0], []⟩ 8 (by kernel_rfl) (by kernel_rfl) (by kernel_rfl) (by kernel_rfl)) ?_
  intro W base args ds gs before hval0 hW hcnd hsz0 _
  have hval : ∀ (j : Nat) t v, Try.f8.params[j]? = some t → args[j]? = some v → Value.okWide Try.prog W .any base t v := hval0
  have hW' := hW
  obtain ⟨p, q, hA0, hV, rfl, hfz, hnd⟩ := hW
  have hA : DataW.TrodAll enc Try.prog W 0 (fun _ => true) true Try.f8.params.toList args.toList ds p := hA0
  rw [Try.params8] at hA hval
  obtain ⟨v0, vs0, d0, ds0, p0, q0, hargs, rfl, rfl, h0, r0⟩ := trodAll_cons hA
  obtain ⟨rfl, rfl, rfl⟩ := trodAll_nil r0
  obtain rfl : args = #[v0] := by cases args; simp_all
  obtain ⟨rfl, rfl⟩ := trodVars_none hV
  obtain ⟨a0, len0, cap0, rfl⟩ := okWide_slice Try.underlying26 (hval 0 26 v0 rfl rfl)
  have k0 := h0
  have lt0 : ∀ x ∈ p0, x.block < W.heap.size := by obtain ⟨m, hm⟩ := k0; exact DataW.trod_lt m _ _ _ hm
  obtain ⟨z0, w0, g0⟩ : ∃ zs : List Int, RepD Go.G19.gam (fun _ _ => True) W (.sl (.int .i64)) zs [.slice a0 len0 cap0] ∧ ∀ z ∈ zs, (Lit.int .i64 z).wf = true := by
    obtain ⟨fuel, hf⟩ := h0
    rcases open_ints Try.underlying26 Try.underlying3 (by kernel_rfl) hf with ⟨hcs, _⟩ | ⟨x, l, c, zs, hcs, _, hl, hm, hz, _, hcell, hwz⟩
    · simp [Value.cells] at hcs
      obtain ⟨rfl, rfl, rfl⟩ := hcs
      exact ⟨[], rep_ints (zs := []) rfl (Nat.le_refl _) (.inl rfl) (.inl rfl), by intro z hz; cases hz⟩
    · simp [Value.cells] at hcs
      obtain ⟨rfl, rfl, rfl⟩ := hcs
      exact ⟨zs.take len0, rep_row hl (by simpa using hz) hcell, fun z hz => hwz z (List.mem_of_mem_take hz)⟩
  obtain ⟨n, hn⟩ := hp z0 g0
  refine (law_calls (told n z0 hn) (w := W) (by exact ⟨⟨rfl, w0⟩, trivial⟩) (by kernel_rfl) (u := .bool true) rep_bool).mono fun e W' ⟨he, bel⟩ => ?_
  subst he
  exact ⟨_, rfl, _, _, _, [], _, [], hW', trodAll_mk1 (shut_bool Try.underlying4 _), (trodAll_cons_mk (Below.trod laidOut (by kernel_rfl) (of_decide_eq_true (by kernel_rfl)) k0 bel lt0) trodAll_mk0), rfl, bel.frame _, fun h => by cases h⟩
theorem over (hp : Pure) : Rows.waitgraphOrRow.holds Try.pinned (OpenSpec.ofChange Rows.waitgraphOrSpec) :=
  OpenClaim.holds_of_wide 8 Try.f8 rfl rfl rfl rfl rfl rfl rfl ⟨rfl, rfl, rfl, rfl, rfl⟩ rfl rfl rfl rfl rfl (by kernel_rfl) Try.func8 (by kernel_rfl)
    (of_decide_eq_true (by kernel_rfl)) (by unfold Func.isWrapper; first | (rw [if_pos (by decide +kernel)]; kernel_rfl) | (rw [if_neg (by decide +kernel)]; exact ⟨rfl, rfl⟩))
    (fun os started H enc _ => lifted hp os started H enc)
theorem proved (hp : Pure) : Rows.WaitgraphOrSaid := over hp
end waitgraphOr
theorem WaitgraphOr_proved : Rows.WaitgraphOrSaid := waitgraphOr.proved fun a0 _ => ⟨100000, Go.Abs.Wg.lawOr a0⟩
end Go.Proofs.Ytdibclnfnkjncaa
