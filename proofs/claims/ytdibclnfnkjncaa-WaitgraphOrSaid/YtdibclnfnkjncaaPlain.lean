/- The functions of the package waitgraph and of its laws are the plain functions below. No conditions. -/
import Derived.Test.YtdibclnfnkjncaaProg
import Derived.Test.YtdibclnfnkjncaaLibC
section
set_option linter.all false
set_option linter.unusedVariables false
set_option linter.unusedSimpArgs false
set_option linter.unnecessarySimpa false
namespace Go.G19
open Go Go.Abs
structure S38 where
  K : Int
  Next : List Int
  deriving DecidableEq, Inhabited
def SS : TypeId → Type
  | 38 => S38
  | _ => Unit
def lv38 : List Ty := [(.int .i64), (.sl (.int .i64))]
def cells38 (x : S38) : List (Lf SS) := [.mk (.int .i64) (S38.K x), .mk (.sl (.int .i64)) (S38.Next x)]
def coll38 : List (Lf SS) → Option S38
  | [.mk τ0 x0, .mk τ1 x1] => (castD τ0 (.int .i64) x0).bind fun y0 => (castD τ1 (.sl (.int .i64)) x1).bind fun y1 => some ⟨y0, y1⟩
  | _ => none
theorem law38 (l : List (Lf SS)) (x : S38) (h : coll38 l = some x) : cells38 x = l := by
  unfold coll38 at h
  split at h
  · obtain ⟨y0, e0, h⟩ := bindS h; obtain ⟨q0, e0⟩ := castD_eq e0; subst q0; subst e0
    obtain ⟨y1, e1, h⟩ := bindS h; obtain ⟨q1, e1⟩ := castD_eq e1; subst q1; subst e1
    cases h; rfl
  · cases h
def se38 : SE SS S38 where
  lv := lv38
  cells := cells38
  coll := coll38
  law := law38
  tys := by intro x; rfl
  flat := by decide
def seS : (t : TypeId) → SE SS (SS t)
  | 38 => se38
  | _ => .none _
def gam : Gam := .of SS seS
theorem full38 (l : List (Lf gam.S)) (h : l.map lfT = lv38) : ∃ x : S38, coll38 l = some x := by
  match l, h with
  | [.mk τ0 x0, .mk τ1 x1], h =>
    simp only [lv38, List.map_cons, List.map_nil, lfT, List.cons.injEq, and_true] at h
    obtain ⟨rfl, rfl⟩ := h
    exact ⟨⟨x0, x1⟩, rfl⟩
theorem full : ∀ t ∈ ([38] : List Nat), ∀ l : List (Lf gam.S), l.map lfT = gam.lv t → ∃ x, gam.coll t l = some x := by
  intro t ht l h
  simp only [List.mem_cons, List.not_mem_nil, or_false] at ht
  rcases ht with rfl
  · exact full38 l h
end Go.G19
end
section
set_option linter.all false
set_option linter.unusedVariables false
set_option linter.unusedSimpArgs false
set_option linter.unnecessarySimpa false
/- Printed by gen.py. -/
open Go Go.Abs Go.G19 Go.Proofs
set_option linter.all false
namespace Go.Abs.AbsP19
/-! ### clusterlockslaw19.small -/
noncomputable def S10_0 (n : Nat) (L : (List S38) → Int → Option (Unit ⊕ Bool)) (a0 : List S38) (a1 : Int) : Option (Unit ⊕ Bool) :=
  (bif (decide (a1 < ((List.length a0 : Nat) : Int))) then
    (Option.bind (ixo a0 a1) fun y1 =>
    (bif (decide (((List.length y1.Next : Nat) : Int) > (40 : Int))) then
      (some (.inr false))
    else
      (L a0 (IntKind.wrap .i64 (a1 + (1 : Int))))))
  else
    (some (.inl ())))
noncomputable def U10_0 (n : Nat) (L : ((List S38) × Int) → Option (Unit ⊕ Bool)) (x : (List S38) × Int) : Option (Unit ⊕ Bool) := S10_0 n (fun a0 a1 => L (a0, a1)) x.1 x.2
noncomputable def L10_0 (n : Nat) (a0 : List S38) (a1 : Int) : Option (Unit ⊕ Bool) := iter (U10_0 n) n (a0, a1)
noncomputable def F10 (n : Nat) (a0 : List S38) : Option Bool :=
  (bif (decide (((List.length a0 : Nat) : Int) > (40 : Int))) then
    (some false)
  else
    (Option.bind (L10_0 n a0 (0 : Int)) fun y1 =>
    (Sum.elim (fun y2 => (some true)) (fun y3 => (some y3)) y1)))
noncomputable def c10 : Co (List (EV gam) × List (Ent gam)) (List S38) := (.pairL (.consL (.d gam (.sl (.st 38))) (.nil _)) (.nil _))
noncomputable def r10 : Co (EV gam × List (Ent gam) × List (Ent gam)) Bool := (.pairL (.d gam .bool) (.pairU (.nil _) (.nil _)))
noncomputable def b10 : Code := (Try.f10.body).getD .skip
noncomputable def b10_0 : Code := (loopsIn b10).getD 0 .skip
noncomputable def kp10_0 : Keep := { slots := [0, 3], rows := [], boxes := [], tombs := [] }
noncomputable def c10_0 : Co (List (EV gam) × List (Ent gam)) ((List S38) × Int) := (.pairL (.cons (.d gam (.sl (.st 38))) (.consL (.d gam (.int .i64)) (.nil _))) (.nil _))
noncomputable def x10_0 : Xc gam (Unit ⊕ Bool) := (.or (.one (.exit 0) { slots := [], rows := [], boxes := [], tombs := [] } (.pairU (.nil _) (.nil _))) (.one .ret { slots := [2], rows := [], boxes := [], tombs := [] } (.pairL (.consL (.d gam .bool) (.nil _)) (.nil _))))
noncomputable def t10_0 (n : Nat) : LoopT gam := loopT kp10_0 c10_0 x10_0 (iter (U10_0 n) n)
noncomputable def e10 (n : Nat) : FnT gam := fnN [[some (.st 38)]] (fnT [] c10 r10 (fun x => F10 n x))
noncomputable def p10 (a : List (EV gam)) (l : List (Ent gam)) : Bool := (c10.dec (nilArgs [[some (.st 38)]] a, l)).isSome
noncomputable def env10 (n : Nat) : Env gam := { P := Try.prog, fns := lookU [], loops := lookU [(4, t10_0 n)], nt := 20, m := 0, keeps := [], eqs := [] }
theorem env10_ok (n : Nat) : EnvOK (env10 n) := .of _ rfl (by exact trivial) (by exact fun t h => nomatch h) (by kernel_rfl)
theorem lin10_0 (n : Nat) : LoopsOK (env10 n) b10_0 := .of [] (by kernel_rfl) trivial
theorem lok10_0 (n : Nat) : LoopOK (env10 n) b10_0 (t10_0 n) := loopT_ok (env10_ok n) (lin10_0 n) (fun L x => by kernel_rfl) n
theorem lin10 (n : Nat) : LoopsOK (env10 n) b10 := .of [(b10_0, 4, t10_0 n)] (by kernel_rfl) ⟨by kernel_rfl, by kernel_rfl, lok10_0 n, trivial⟩
theorem eq10 (n : Nat) (x : List S38) : (F10 n x) = fnE (env10 n) Try.f10 [[.asis]] none c10 r10 x := by kernel_rfl
theorem okt10 (n : Nat) : FnOK Try.prog 10 (fnT (G := gam) [] c10 r10 (fun x => F10 n x)) := fnT_ok (env10_ok n) (by kernel_rfl) (by kernel_rfl) (by kernel_rfl) (b := b10) (by kernel_rfl) (fun x => by kernel_rfl) (lin10 n) (eq10 n)
theorem ok10 (n : Nat) : FnOK Try.prog 10 (e10 n) := fnN_ok (okt10 n)
/-! ### waitgraph.Valid -/
noncomputable def S12_1 (n : Nat) (L : (List S38) → (List S38) → Int → Int → (List Int) → Int → Int → Int → (List Int) → Option (((List S38) × ((List S38) × (Int × Int))) ⊕ Bool)) (a0 : List S38) (a1 : List S38) (a2 : Int) (a3 : Int) (a4 : List Int) (a5 : Int) (a6 : Int) (a7 : Int) (a8 : List Int) : Option (((List S38) × ((List S38) × (Int × Int))) ⊕ Bool) :=
  (bif (decide (a6 < a5)) then
    (Option.bind (ixo a4 a6) fun y1 =>
    (bif (decide (y1 < (0 : Int))) then
      (some (.inr false))
    else
      (bif (decide (y1 ≥ ((List.length a0 : Nat) : Int))) then
        (some (.inr false))
      else
        (bif (decide (a6 > (0 : Int))) then
          (Option.bind (ixo a8 (IntKind.wrap .i64 (a6 - (1 : Int)))) fun y2 =>
          (bif (decide (y2 ≥ y1)) then
            (some (.inr false))
          else
            (L a0 a1 a2 a3 a4 a5 (IntKind.wrap .i64 (a6 + (1 : Int))) a7 a8)))
        else
          (L a0 a1 a2 a3 a4 a5 (IntKind.wrap .i64 (a6 + (1 : Int))) a7 a8)))))
  else
    (some (.inl (a0, (a1, (a2, a3))))))
noncomputable def U12_1 (n : Nat) (L : (((List S38) × ((List S38) × (Int × (Int × ((List Int) × (Int × Int)))))) × (Int × (List Int))) → Option (((List S38) × ((List S38) × (Int × Int))) ⊕ Bool)) (x : ((List S38) × ((List S38) × (Int × (Int × ((List Int) × (Int × Int)))))) × (Int × (List Int))) : Option (((List S38) × ((List S38) × (Int × Int))) ⊕ Bool) := S12_1 n (fun a0 a1 a2 a3 a4 a5 a6 a7 a8 => L ((a0, (a1, (a2, (a3, (a4, (a5, a6)))))), (a7, a8))) x.1.1 x.1.2.1 x.1.2.2.1 x.1.2.2.2.1 x.1.2.2.2.2.1 x.1.2.2.2.2.2.1 x.1.2.2.2.2.2.2 x.2.1 x.2.2
noncomputable def L12_1 (n : Nat) (a0 : List S38) (a1 : List S38) (a2 : Int) (a3 : Int) (a4 : List Int) (a5 : Int) (a6 : Int) (a7 : Int) (a8 : List Int) : Option (((List S38) × ((List S38) × (Int × Int))) ⊕ Bool) := iter (U12_1 n) n ((a0, (a1, (a2, (a3, (a4, (a5, a6)))))), (a7, a8))
noncomputable def S12_0 (n : Nat) (L : (List S38) → (List S38) → Int → Int → Option (Unit ⊕ Bool)) (a0 : List S38) (a1 : List S38) (a2 : Int) (a3 : Int) : Option (Unit ⊕ Bool) :=
  (bif (decide (a3 < a2)) then
    (Option.bind (ixo a1 a3) fun y1 =>
    (bif (bif (decide (y1.K < (0 : Int))) then
      true
    else
      (bif (decide (y1.K > ((List.length y1.Next : Nat) : Int))) then
        true
      else
        (bif (y1.K == (0 : Int)) then (decide (((List.length y1.Next : Nat) : Int) > (0 : Int))) else false))) then
      (some (.inr false))
    else
      (Option.bind (L12_1 n a0 a1 a2 a3 y1.Next ((List.length y1.Next : Nat) : Int) (0 : Int) y1.K y1.Next) fun y2 =>
      (Sum.elim (fun y3 => (L y3.1 y3.2.1 y3.2.2.1 (IntKind.wrap .i64 (y3.2.2.2 + (1 : Int))))) (fun y4 => (some (.inr y4))) y2))))
  else
    (some (.inl ())))
noncomputable def U12_0 (n : Nat) (L : ((List S38) × ((List S38) × (Int × Int))) → Option (Unit ⊕ Bool)) (x : (List S38) × ((List S38) × (Int × Int))) : Option (Unit ⊕ Bool) := S12_0 n (fun a0 a1 a2 a3 => L (a0, (a1, (a2, a3)))) x.1 x.2.1 x.2.2.1 x.2.2.2
noncomputable def L12_0 (n : Nat) (a0 : List S38) (a1 : List S38) (a2 : Int) (a3 : Int) : Option (Unit ⊕ Bool) := iter (U12_0 n) n (a0, (a1, (a2, a3)))
noncomputable def F12 (n : Nat) (a0 : List S38) : Option Bool :=
  (bif (decide (((List.length a0 : Nat) : Int) > (160 : Int))) then
    (some false)
  else
    (Option.bind (L12_0 n a0 a0 ((List.length a0 : Nat) : Int) (0 : Int)) fun y1 =>
    (Sum.elim (fun y2 => (some true)) (fun y3 => (some y3)) y1)))
noncomputable def c12 : Co (List (EV gam) × List (Ent gam)) (List S38) := (.pairL (.consL (.d gam (.sl (.st 38))) (.nil _)) (.nil _))
noncomputable def r12 : Co (EV gam × List (Ent gam) × List (Ent gam)) Bool := (.pairL (.d gam .bool) (.pairU (.nil _) (.nil _)))
noncomputable def b12 : Code := (Try.f12.body).getD .skip
noncomputable def b12_0 : Code := (loopsIn b12).getD 0 .skip
noncomputable def kp12_0 : Keep := { slots := [0, 10, 11, 12], rows := [], boxes := [], tombs := [] }
noncomputable def c12_0 : Co (List (EV gam) × List (Ent gam)) ((List S38) × ((List S38) × (Int × Int))) := (.pairL (.cons (.d gam (.sl (.st 38))) (.cons (.d gam (.sl (.st 38))) (.cons (.d gam (.int .i64)) (.consL (.d gam (.int .i64)) (.nil _))))) (.nil _))
noncomputable def x12_0 : Xc gam (Unit ⊕ Bool) := (.or (.one (.exit 0) { slots := [], rows := [], boxes := [], tombs := [] } (.pairU (.nil _) (.nil _))) (.one .ret { slots := [2], rows := [], boxes := [], tombs := [] } (.pairL (.consL (.d gam .bool) (.nil _)) (.nil _))))
noncomputable def b12_1 : Code := (loopsIn b12).getD 1 .skip
noncomputable def kp12_1 : Keep := { slots := [0, 4, 10, 11, 12, 39, 40, 41], rows := [], boxes := [5003000], tombs := [] }
noncomputable def c12_1 : Co (List (EV gam) × List (Ent gam)) (((List S38) × ((List S38) × (Int × (Int × ((List Int) × (Int × Int)))))) × (Int × (List Int))) := (.pair (.cons (.d gam (.sl (.st 38))) (.consU (.ptr gam 5003000 0) (.cons (.d gam (.sl (.st 38))) (.cons (.d gam (.int .i64)) (.cons (.d gam (.int .i64)) (.cons (.d gam (.sl (.int .i64))) (.cons (.d gam (.int .i64)) (.consL (.d gam (.int .i64)) (.nil _))))))))) (.consL (.box (.cons (.d gam (.int .i64)) (.consL (.d gam (.sl (.int .i64))) (.nil _)))) (.nil _)))
noncomputable def x12_1 : Xc gam (((List S38) × ((List S38) × (Int × Int))) ⊕ Bool) := (.or (.one (.exit 2) { slots := [0, 10, 11, 12], rows := [], boxes := [], tombs := [] } (.pairL (.cons (.d gam (.sl (.st 38))) (.cons (.d gam (.sl (.st 38))) (.cons (.d gam (.int .i64)) (.consL (.d gam (.int .i64)) (.nil _))))) (.nil _))) (.one .ret { slots := [2], rows := [], boxes := [], tombs := [] } (.pairL (.consL (.d gam .bool) (.nil _)) (.nil _))))
noncomputable def t12_0 (n : Nat) : LoopT gam := loopT kp12_0 c12_0 x12_0 (iter (U12_0 n) n)
noncomputable def t12_1 (n : Nat) : LoopT gam := loopT kp12_1 c12_1 x12_1 (iter (U12_1 n) n)
noncomputable def e12 (n : Nat) : FnT gam := fnN [[some (.st 38)]] (fnT [] c12 r12 (fun x => F12 n x))
noncomputable def p12 (a : List (EV gam)) (l : List (Ent gam)) : Bool := (c12.dec (nilArgs [[some (.st 38)]] a, l)).isSome
noncomputable def env12 (n : Nat) : Env gam := { P := Try.prog, fns := lookU [], loops := lookU [(4, t12_0 n), (9, t12_1 n)], nt := 70, m := 0, keeps := [], eqs := [] }
theorem env12_ok (n : Nat) : EnvOK (env12 n) := .of _ rfl (by exact trivial) (by exact fun t h => nomatch h) (by kernel_rfl)
theorem lin12_1 (n : Nat) : LoopsOK (env12 n) b12_1 := .of [] (by kernel_rfl) trivial
theorem lok12_1 (n : Nat) : LoopOK (env12 n) b12_1 (t12_1 n) := loopT_ok (env12_ok n) (lin12_1 n) (fun L x => by kernel_rfl) n
theorem lin12_0 (n : Nat) : LoopsOK (env12 n) b12_0 := .of [(b12_1, 9, t12_1 n)] (by kernel_rfl) ⟨by kernel_rfl, by kernel_rfl, lok12_1 n, trivial⟩
theorem lok12_0 (n : Nat) : LoopOK (env12 n) b12_0 (t12_0 n) := loopT_ok (env12_ok n) (lin12_0 n) (fun L x => by kernel_rfl) n
theorem lin12 (n : Nat) : LoopsOK (env12 n) b12 := .of [(b12_0, 4, t12_0 n), (b12_1, 9, t12_1 n)] (by kernel_rfl) ⟨by kernel_rfl, by kernel_rfl, lok12_0 n, by kernel_rfl, by kernel_rfl, lok12_1 n, trivial⟩
theorem eq12 (n : Nat) (x : List S38) : (F12 n x) = fnE (env12 n) Try.f12 [[.asis]] none c12 r12 x := by kernel_rfl
theorem okt12 (n : Nat) : FnOK Try.prog 12 (fnT (G := gam) [] c12 r12 (fun x => F12 n x)) := fnT_ok (env12_ok n) (by kernel_rfl) (by kernel_rfl) (by kernel_rfl) (b := b12) (by kernel_rfl) (fun x => by kernel_rfl) (lin12 n) (eq12 n)
theorem ok12 (n : Nat) : FnOK Try.prog 12 (e12 n) := fnN_ok (okt12 n)
/-! ### waitgraph.inside -/
noncomputable def F29 (n : Nat) (a0 : List S38) (a1 : Int) : Option Bool :=
  (bif (decide (a1 ≥ (0 : Int))) then
    (bif (decide (a1 < ((List.length a0 : Nat) : Int))) then (Option.bind (F12 n a0) fun y1 =>
    (some y1)) else (some false))
  else
    (some false))
noncomputable def c29 : Co (List (EV gam) × List (Ent gam)) ((List S38) × Int) := (.pairL (.cons (.d gam (.sl (.st 38))) (.consL (.d gam (.int .i64)) (.nil _))) (.nil _))
noncomputable def r29 : Co (EV gam × List (Ent gam) × List (Ent gam)) Bool := (.pairL (.d gam .bool) (.pairU (.nil _) (.nil _)))
noncomputable def b29 : Code := (Try.f29.body).getD .skip
noncomputable def e29 (n : Nat) : FnT gam := fnN [[some (.st 38)]] (fnT [] c29 r29 (fun x => F29 n x.1 x.2))
noncomputable def p29 (a : List (EV gam)) (l : List (Ent gam)) : Bool := (c29.dec (nilArgs [[some (.st 38)]] a, l)).isSome
noncomputable def env29 (n : Nat) : Env gam := { P := Try.prog, fns := lookU [(12, e12 n)], loops := lookU [], nt := 17, m := 0, keeps := [], eqs := [] }
theorem env29_ok (n : Nat) : EnvOK (env29 n) := .of _ rfl (by exact ⟨ok12 n, trivial⟩) (by exact fun t h => nomatch h) (by kernel_rfl)
theorem lin29 (n : Nat) : LoopsOK (env29 n) b29 := .of [] (by kernel_rfl) trivial
theorem eq29 (n : Nat) (x : (List S38) × Int) : (F29 n x.1 x.2) = fnE (env29 n) Try.f29 [[.asis]] none c29 r29 x := by kernel_rfl
theorem okt29 (n : Nat) : FnOK Try.prog 29 (fnT (G := gam) [] c29 r29 (fun x => F29 n x.1 x.2)) := fnT_ok (env29_ok n) (by kernel_rfl) (by kernel_rfl) (by kernel_rfl) (b := b29) (by kernel_rfl) (fun x => by kernel_rfl) (lin29 n) (eq29 n)
theorem ok29 (n : Nat) : FnOK Try.prog 29 (e29 n) := fnN_ok (okt29 n)
/-! ### slices.Index[[]int,int] -/
noncomputable def S44_0 (n : Nat) (L : (List Int) → Int → Int → Int → Option (Unit ⊕ Int)) (a0 : List Int) (a1 : Int) (a2 : Int) (a3 : Int) : Option (Unit ⊕ Int) :=
  (bif (decide (a3 < a2)) then
    (Option.bind (ixo a0 a3) fun y1 =>
    (bif (a1 == y1) then (some (.inr a3)) else (L a0 a1 a2 (IntKind.wrap .i64 (a3 + (1 : Int))))))
  else
    (some (.inl ())))
noncomputable def U44_0 (n : Nat) (L : ((List Int) × (Int × (Int × Int))) → Option (Unit ⊕ Int)) (x : (List Int) × (Int × (Int × Int))) : Option (Unit ⊕ Int) := S44_0 n (fun a0 a1 a2 a3 => L (a0, (a1, (a2, a3)))) x.1 x.2.1 x.2.2.1 x.2.2.2
noncomputable def L44_0 (n : Nat) (a0 : List Int) (a1 : Int) (a2 : Int) (a3 : Int) : Option (Unit ⊕ Int) := iter (U44_0 n) n (a0, (a1, (a2, a3)))
noncomputable def F44 (n : Nat) (a0 : List Int) (a1 : Int) : Option Int :=
  (Option.bind (L44_0 n a0 a1 ((List.length a0 : Nat) : Int) (0 : Int)) fun y1 =>
  (Sum.elim (fun y2 => (some (-1 : Int))) (fun y3 => (some y3)) y1))
noncomputable def c44 : Co (List (EV gam) × List (Ent gam)) ((List Int) × Int) := (.pairL (.cons (.d gam (.sl (.int .i64))) (.consL (.d gam (.int .i64)) (.nil _))) (.nil _))
noncomputable def r44 : Co (EV gam × List (Ent gam) × List (Ent gam)) Int := (.pairL (.d gam (.int .i64)) (.pairU (.nil _) (.nil _)))
noncomputable def b44 : Code := (Try.f44.body).getD .skip
noncomputable def b44_0 : Code := (loopsIn b44).getD 0 .skip
noncomputable def kp44_0 : Keep := { slots := [0, 1, 7, 8], rows := [], boxes := [], tombs := [] }
noncomputable def c44_0 : Co (List (EV gam) × List (Ent gam)) ((List Int) × (Int × (Int × Int))) := (.pairL (.cons (.d gam (.sl (.int .i64))) (.cons (.d gam (.int .i64)) (.cons (.d gam (.int .i64)) (.consL (.d gam (.int .i64)) (.nil _))))) (.nil _))
noncomputable def x44_0 : Xc gam (Unit ⊕ Int) := (.or (.one (.exit 0) { slots := [], rows := [], boxes := [], tombs := [] } (.pairU (.nil _) (.nil _))) (.one .ret { slots := [4], rows := [], boxes := [], tombs := [] } (.pairL (.consL (.d gam (.int .i64)) (.nil _)) (.nil _))))
noncomputable def t44_0 (n : Nat) : LoopT gam := loopT kp44_0 c44_0 x44_0 (iter (U44_0 n) n)
noncomputable def e44 (n : Nat) : FnT gam := fnN [[some (.int .i64)]] (fnT [] c44 r44 (fun x => F44 n x.1 x.2))
noncomputable def p44 (a : List (EV gam)) (l : List (Ent gam)) : Bool := (c44.dec (nilArgs [[some (.int .i64)]] a, l)).isSome
noncomputable def env44 (n : Nat) : Env gam := { P := Try.prog, fns := lookU [], loops := lookU [(2, t44_0 n)], nt := 19, m := 0, keeps := [], eqs := [] }
theorem env44_ok (n : Nat) : EnvOK (env44 n) := .of _ rfl (by exact trivial) (by exact fun t h => nomatch h) (by kernel_rfl)
theorem lin44_0 (n : Nat) : LoopsOK (env44 n) b44_0 := .of [] (by kernel_rfl) trivial
theorem lok44_0 (n : Nat) : LoopOK (env44 n) b44_0 (t44_0 n) := loopT_ok (env44_ok n) (lin44_0 n) (fun L x => by kernel_rfl) n
theorem lin44 (n : Nat) : LoopsOK (env44 n) b44 := .of [(b44_0, 2, t44_0 n)] (by kernel_rfl) ⟨by kernel_rfl, by kernel_rfl, lok44_0 n, trivial⟩
theorem eq44 (n : Nat) (x : (List Int) × Int) : (F44 n x.1 x.2) = fnE (env44 n) Try.f44 [[.asis]] none c44 r44 x := by kernel_rfl
theorem okt44 (n : Nat) : FnOK Try.prog 44 (fnT (G := gam) [] c44 r44 (fun x => F44 n x.1 x.2)) := fnT_ok (env44_ok n) (by kernel_rfl) (by kernel_rfl) (by kernel_rfl) (b := b44) (by kernel_rfl) (fun x => by kernel_rfl) (lin44 n) (eq44 n)
theorem ok44 (n : Nat) : FnOK Try.prog 44 (e44 n) := fnN_ok (okt44 n)
/-! ### slices.Contains[[]int,int] -/
noncomputable def F43 (n : Nat) (a0 : List Int) (a1 : Int) : Option Bool :=
  (Option.bind (F44 n a0 a1) fun y1 =>
  (some (decide (y1 ≥ (0 : Int)))))
noncomputable def c43 : Co (List (EV gam) × List (Ent gam)) ((List Int) × Int) := (.pairL (.cons (.d gam (.sl (.int .i64))) (.consL (.d gam (.int .i64)) (.nil _))) (.nil _))
noncomputable def r43 : Co (EV gam × List (Ent gam) × List (Ent gam)) Bool := (.pairL (.d gam .bool) (.pairU (.nil _) (.nil _)))
noncomputable def b43 : Code := (Try.f43.body).getD .skip
noncomputable def e43 (n : Nat) : FnT gam := fnN [[some (.int .i64)]] (fnT [] c43 r43 (fun x => F43 n x.1 x.2))
noncomputable def p43 (a : List (EV gam)) (l : List (Ent gam)) : Bool := (c43.dec (nilArgs [[some (.int .i64)]] a, l)).isSome
noncomputable def env43 (n : Nat) : Env gam := { P := Try.prog, fns := lookU [(44, e44 n)], loops := lookU [], nt := 9, m := 0, keeps := [], eqs := [] }
theorem env43_ok (n : Nat) : EnvOK (env43 n) := .of _ rfl (by exact ⟨ok44 n, trivial⟩) (by exact fun t h => nomatch h) (by kernel_rfl)
theorem lin43 (n : Nat) : LoopsOK (env43 n) b43 := .of [] (by kernel_rfl) trivial
theorem eq43 (n : Nat) (x : (List Int) × Int) : (F43 n x.1 x.2) = fnE (env43 n) Try.f43 [[.asis]] none c43 r43 x := by kernel_rfl
theorem okt43 (n : Nat) : FnOK Try.prog 43 (fnT (G := gam) [] c43 r43 (fun x => F43 n x.1 x.2)) := fnT_ok (env43_ok n) (by kernel_rfl) (by kernel_rfl) (by kernel_rfl) (b := b43) (by kernel_rfl) (fun x => by kernel_rfl) (lin43 n) (eq43 n)
theorem ok43 (n : Nat) : FnOK Try.prog 43 (e43 n) := fnN_ok (okt43 n)
/-! ### waitgraph.distances$1 -/
noncomputable def F42 (n : Nat) (a0 : Int) (a1 : List Int) : Option (Bool × (List Int)) :=
  (Option.bind (F43 n a1 a0) fun y1 =>
  (some (y1, a1)))
noncomputable def c42 : Co (List (EV gam) × List (Ent gam)) (Int × (List Int)) := (.pair (.consL (.d gam (.int .i64)) (.consU (.ptr gam 0 0) (.nil _))) (.consU (.box (.consU (.ow gam 1) (.nil _))) (.consL (.row gam (.int .i64) 0) (.nil _))))
noncomputable def r42 : Co (EV gam × List (Ent gam) × List (Ent gam)) (Bool × (List Int)) := (.pair (.d gam .bool) (.pairL (.consU (.box (.consU (.ow gam 1) (.nil _))) (.consL (.row gam (.int .i64) 0) (.nil _))) (.nil _)))
noncomputable def b42 : Code := (Try.f42.body).getD .skip
noncomputable def e42 (n : Nat) : FnT gam := fnN [] (fnT [] c42 r42 (fun x => F42 n x.1 x.2))
noncomputable def p42 (a : List (EV gam)) (l : List (Ent gam)) : Bool := (c42.dec (nilArgs [] a, l)).isSome
noncomputable def env42 (n : Nat) : Env gam := { P := Try.prog, fns := lookU [(43, e43 n)], loops := lookU [], nt := 7, m := 2, keeps := [], eqs := [] }
theorem env42_ok (n : Nat) : EnvOK (env42 n) := .of _ rfl (by exact ⟨ok43 n, trivial⟩) (by exact fun t h => nomatch h) (by kernel_rfl)
theorem lin42 (n : Nat) : LoopsOK (env42 n) b42 := .of [] (by kernel_rfl) trivial
theorem eq42 (n : Nat) (x : Int × (List Int)) : (F42 n x.1 x.2) = fnE (env42 n) Try.f42 [[.asis]] none c42 r42 x := by kernel_rfl
theorem okt42 (n : Nat) : FnOK Try.prog 42 (fnT (G := gam) [] c42 r42 (fun x => F42 n x.1 x.2)) := fnT_ok (env42_ok n) (by kernel_rfl) (by kernel_rfl) (by kernel_rfl) (b := b42) (by kernel_rfl) (fun x => by kernel_rfl) (lin42 n) (eq42 n)
theorem ok42 (n : Nat) : FnOK Try.prog 42 (e42 n) := fnN_ok (okt42 n)
/-! ### slices.IndexFunc[[]int,int] -/
noncomputable def S33_0 (n : Nat) (L : (List Int) → Int → Int → (List Int) → Option ((List Int) ⊕ (Int × (List Int)))) (a0 : List Int) (a1 : Int) (a2 : Int) (a3 : List Int) : Option ((List Int) ⊕ (Int × (List Int))) :=
  (bif (decide (a2 < a1)) then
    (Option.bind (ixo a0 a2) fun y1 =>
    (Option.bind (F42 n y1 a3) fun y2 =>
    (bif y2.1 then
      (some (.inr (a2, y2.2)))
    else
      (L a0 a1 (IntKind.wrap .i64 (a2 + (1 : Int))) y2.2))))
  else
    (some (.inl a3)))
noncomputable def U33_0 (n : Nat) (L : (((List Int) × (Int × Int)) × (List Int)) → Option ((List Int) ⊕ (Int × (List Int)))) (x : ((List Int) × (Int × Int)) × (List Int)) : Option ((List Int) ⊕ (Int × (List Int))) := S33_0 n (fun a0 a1 a2 a3 => L ((a0, (a1, a2)), a3)) x.1.1 x.1.2.1 x.1.2.2 x.2
noncomputable def L33_0 (n : Nat) (a0 : List Int) (a1 : Int) (a2 : Int) (a3 : List Int) : Option ((List Int) ⊕ (Int × (List Int))) := iter (U33_0 n) n ((a0, (a1, a2)), a3)
noncomputable def F33 (n : Nat) (a0 : List Int) (a1 : List Int) : Option (Int × (List Int)) :=
  (Option.bind (L33_0 n a0 ((List.length a0 : Nat) : Int) (0 : Int) a1) fun y1 =>
  (Sum.elim (fun y2 => (some ((-1 : Int), y2))) (fun y3 => (some (y3.1, y3.2))) y1))
noncomputable def c33 : Co (List (EV gam) × List (Ent gam)) ((List Int) × (List Int)) := (.pair (.consL (.d gam (.sl (.int .i64))) (.consU (.fn 42 (.consU (.ptr gam 0 0) (.nil _))) (.nil _))) (.consU (.box (.consU (.ow gam 1) (.nil _))) (.consL (.row gam (.int .i64) 0) (.nil _))))
noncomputable def r33 : Co (EV gam × List (Ent gam) × List (Ent gam)) (Int × (List Int)) := (.pair (.d gam (.int .i64)) (.pairL (.consU (.box (.consU (.ow gam 1) (.nil _))) (.consL (.row gam (.int .i64) 0) (.nil _))) (.nil _)))
noncomputable def b33 : Code := (Try.f33.body).getD .skip
noncomputable def b33_0 : Code := (loopsIn b33).getD 0 .skip
noncomputable def kp33_0 : Keep := { slots := [0, 1, 7, 8], rows := [((0, some 0), 1, (.int .i64))], boxes := [0], tombs := [] }
noncomputable def c33_0 : Co (List (EV gam) × List (Ent gam)) (((List Int) × (Int × Int)) × (List Int)) := (.pair (.cons (.d gam (.sl (.int .i64))) (.consU (.fn 42 (.consU (.ptr gam 0 0) (.nil _))) (.cons (.d gam (.int .i64)) (.consL (.d gam (.int .i64)) (.nil _))))) (.consU (.box (.consU (.ow gam 1) (.nil _))) (.consL (.row gam (.int .i64) 0) (.nil _))))
noncomputable def x33_0 : Xc gam ((List Int) ⊕ (Int × (List Int))) := (.or (.one (.exit 0) { slots := [], rows := [((0, some 0), 1, (.int .i64))], boxes := [0], tombs := [] } (.pairU (.nil _) (.consU (.box (.consU (.ow gam 1) (.nil _))) (.consL (.row gam (.int .i64) 0) (.nil _))))) (.one .ret { slots := [4], rows := [((0, some 0), 1, (.int .i64))], boxes := [0], tombs := [] } (.pair (.consL (.d gam (.int .i64)) (.nil _)) (.consU (.box (.consU (.ow gam 1) (.nil _))) (.consL (.row gam (.int .i64) 0) (.nil _))))))
noncomputable def t33_0 (n : Nat) : LoopT gam := loopT kp33_0 c33_0 x33_0 (iter (U33_0 n) n)
noncomputable def e33 (n : Nat) : FnT gam := fnN [[some (.int .i64)]] (fnT [] c33 r33 (fun x => F33 n x.1 x.2))
noncomputable def p33 (a : List (EV gam)) (l : List (Ent gam)) : Bool := (c33.dec (nilArgs [[some (.int .i64)]] a, l)).isSome
noncomputable def env33 (n : Nat) : Env gam := { P := Try.prog, fns := lookU [(42, e42 n)], loops := lookU [(2, t33_0 n)], nt := 19, m := 2, keeps := [], eqs := [] }
theorem env33_ok (n : Nat) : EnvOK (env33 n) := .of _ rfl (by exact ⟨ok42 n, trivial⟩) (by exact fun t h => nomatch h) (by kernel_rfl)
theorem lin33_0 (n : Nat) : LoopsOK (env33 n) b33_0 := .of [] (by kernel_rfl) trivial
theorem lok33_0 (n : Nat) : LoopOK (env33 n) b33_0 (t33_0 n) := loopT_ok (env33_ok n) (lin33_0 n) (fun L x => by kernel_rfl) n
theorem lin33 (n : Nat) : LoopsOK (env33 n) b33 := .of [(b33_0, 2, t33_0 n)] (by kernel_rfl) ⟨by kernel_rfl, by kernel_rfl, lok33_0 n, trivial⟩
theorem eq33 (n : Nat) (x : (List Int) × (List Int)) : (F33 n x.1 x.2) = fnE (env33 n) Try.f33 [[.asis]] none c33 r33 x := by kernel_rfl
theorem okt33 (n : Nat) : FnOK Try.prog 33 (fnT (G := gam) [] c33 r33 (fun x => F33 n x.1 x.2)) := fnT_ok (env33_ok n) (by kernel_rfl) (by kernel_rfl) (by kernel_rfl) (b := b33) (by kernel_rfl) (fun x => by kernel_rfl) (lin33 n) (eq33 n)
theorem ok33 (n : Nat) : FnOK Try.prog 33 (e33 n) := fnN_ok (okt33 n)
/-! ### slices.ContainsFunc[[]int,int] -/
noncomputable def F38 (n : Nat) (a0 : List Int) (a1 : List Int) : Option (Bool × (List Int)) :=
  (Option.bind (F33 n a0 a1) fun y1 =>
  (some ((decide (y1.1 ≥ (0 : Int))), y1.2)))
noncomputable def c38 : Co (List (EV gam) × List (Ent gam)) ((List Int) × (List Int)) := (.pair (.consL (.d gam (.sl (.int .i64))) (.consU (.fn 42 (.consU (.ptr gam 0 0) (.nil _))) (.nil _))) (.consU (.box (.consU (.ow gam 1) (.nil _))) (.consL (.row gam (.int .i64) 0) (.nil _))))
noncomputable def r38 : Co (EV gam × List (Ent gam) × List (Ent gam)) (Bool × (List Int)) := (.pair (.d gam .bool) (.pairL (.consU (.box (.consU (.ow gam 1) (.nil _))) (.consL (.row gam (.int .i64) 0) (.nil _))) (.nil _)))
noncomputable def b38 : Code := (Try.f38.body).getD .skip
noncomputable def e38 (n : Nat) : FnT gam := fnN [[some (.int .i64)]] (fnT [] c38 r38 (fun x => F38 n x.1 x.2))
noncomputable def p38 (a : List (EV gam)) (l : List (Ent gam)) : Bool := (c38.dec (nilArgs [[some (.int .i64)]] a, l)).isSome
noncomputable def env38 (n : Nat) : Env gam := { P := Try.prog, fns := lookU [(33, e33 n)], loops := lookU [], nt := 9, m := 2, keeps := [], eqs := [] }
theorem env38_ok (n : Nat) : EnvOK (env38 n) := .of _ rfl (by exact ⟨ok33 n, trivial⟩) (by exact fun t h => nomatch h) (by kernel_rfl)
theorem lin38 (n : Nat) : LoopsOK (env38 n) b38 := .of [] (by kernel_rfl) trivial
theorem eq38 (n : Nat) (x : (List Int) × (List Int)) : (F38 n x.1 x.2) = fnE (env38 n) Try.f38 [[.asis]] none c38 r38 x := by kernel_rfl
theorem okt38 (n : Nat) : FnOK Try.prog 38 (fnT (G := gam) [] c38 r38 (fun x => F38 n x.1 x.2)) := fnT_ok (env38_ok n) (by kernel_rfl) (by kernel_rfl) (by kernel_rfl) (b := b38) (by kernel_rfl) (fun x => by kernel_rfl) (lin38 n) (eq38 n)
theorem ok38 (n : Nat) : FnOK Try.prog 38 (e38 n) := fnN_ok (okt38 n)
/-! ### waitgraph.distances -/
noncomputable def S32_2 (n : Nat) (L : (List S38) → Int → (List S38) → Int → Int → (List Int) → (List Int) → (List Int) → Option (((List S38) × Int) × ((List Int) × ((List Int) × (List Int))))) (a0 : List S38) (a1 : Int) (a2 : List S38) (a3 : Int) (a4 : Int) (a5 : List Int) (a6 : List Int) (a7 : List Int) : Option (((List S38) × Int) × ((List Int) × ((List Int) × (List Int)))) :=
  (bif (decide (a4 < a3)) then
    (Option.bind (ixo a2 a4) fun y1 =>
    (bif (decide (0 ≤ a4) && decide (a4 < ((List.length a6 : Nat) : Int))) then
      (Option.bind (a6[(Int.toNat a4)]?) fun y2 =>
      (bif (decide (y2 < (0 : Int))) then
        (Option.bind (F38 n y1.Next a5) fun y3 =>
        (bif y3.1 then
          (bif (decide (0 ≤ a4) && decide (a4 < ((List.length a6 : Nat) : Int))) then
            (bif (appOK (List.length a7) (List.length [a4]) 8) then
              (L a0 a1 a2 a3 (IntKind.wrap .i64 (a4 + (1 : Int))) y3.2 (List.set a6 (Int.toNat a4) a1) (a7 ++ [a4]))
            else
              none)
          else
            none)
        else
          (L a0 a1 a2 a3 (IntKind.wrap .i64 (a4 + (1 : Int))) y3.2 a6 a7)))
      else
        (L a0 a1 a2 a3 (IntKind.wrap .i64 (a4 + (1 : Int))) a5 a6 a7)))
    else
      none))
  else
    (some ((a0, a1), (a5, (a6, a7)))))
noncomputable def U32_2 (n : Nat) (L : (((List S38) × (Int × ((List S38) × (Int × Int)))) × ((List Int) × ((List Int) × (List Int)))) → Option (((List S38) × Int) × ((List Int) × ((List Int) × (List Int))))) (x : ((List S38) × (Int × ((List S38) × (Int × Int)))) × ((List Int) × ((List Int) × (List Int)))) : Option (((List S38) × Int) × ((List Int) × ((List Int) × (List Int)))) := S32_2 n (fun a0 a1 a2 a3 a4 a5 a6 a7 => L ((a0, (a1, (a2, (a3, a4)))), (a5, (a6, a7)))) x.1.1 x.1.2.1 x.1.2.2.1 x.1.2.2.2.1 x.1.2.2.2.2 x.2.1 x.2.2.1 x.2.2.2
noncomputable def L32_2 (n : Nat) (a0 : List S38) (a1 : Int) (a2 : List S38) (a3 : Int) (a4 : Int) (a5 : List Int) (a6 : List Int) (a7 : List Int) : Option (((List S38) × Int) × ((List Int) × ((List Int) × (List Int)))) := iter (U32_2 n) n ((a0, (a1, (a2, (a3, a4)))), (a5, (a6, a7)))
noncomputable def S32_1 (n : Nat) (L : (List S38) → Int → (List Int) → (List Int) → Option (List Int)) (a0 : List S38) (a1 : Int) (a2 : List Int) (a3 : List Int) : Option (List Int) :=
  (bif (decide (((List.length a2 : Nat) : Int) > (0 : Int))) then
    (Option.bind (L32_2 n a0 a1 a0 ((List.length a0 : Nat) : Int) (0 : Int) a2 a3 ([] : List Int)) fun y1 =>
    (L y1.1.1 (IntKind.wrap .i64 (y1.1.2 + (1 : Int))) y1.2.2.2 y1.2.2.1))
  else
    (some a3))
noncomputable def U32_1 (n : Nat) (L : (((List S38) × Int) × ((List Int) × (List Int))) → Option (List Int)) (x : ((List S38) × Int) × ((List Int) × (List Int))) : Option (List Int) := S32_1 n (fun a0 a1 a2 a3 => L ((a0, a1), (a2, a3))) x.1.1 x.1.2 x.2.1 x.2.2
noncomputable def L32_1 (n : Nat) (a0 : List S38) (a1 : Int) (a2 : List Int) (a3 : List Int) : Option (List Int) := iter (U32_1 n) n ((a0, a1), (a2, a3))
noncomputable def S32_0 (n : Nat) (L : (List S38) → Int → Int → Int → (List Int) → Option (((List S38) × Int) × (List Int))) (a0 : List S38) (a1 : Int) (a2 : Int) (a3 : Int) (a4 : List Int) : Option (((List S38) × Int) × (List Int)) :=
  (bif (decide (a3 < a2)) then
    (bif (decide (0 ≤ a3) && decide (a3 < ((List.length a4 : Nat) : Int))) then
      (L a0 a1 a2 (IntKind.wrap .i64 (a3 + (1 : Int))) (List.set a4 (Int.toNat a3) (-1 : Int)))
    else
      none)
  else
    (some ((a0, a1), a4)))
noncomputable def U32_0 (n : Nat) (L : (((List S38) × (Int × (Int × Int))) × (List Int)) → Option (((List S38) × Int) × (List Int))) (x : ((List S38) × (Int × (Int × Int))) × (List Int)) : Option (((List S38) × Int) × (List Int)) := S32_0 n (fun a0 a1 a2 a3 a4 => L ((a0, (a1, (a2, a3))), a4)) x.1.1 x.1.2.1 x.1.2.2.1 x.1.2.2.2 x.2
noncomputable def L32_0 (n : Nat) (a0 : List S38) (a1 : Int) (a2 : Int) (a3 : Int) (a4 : List Int) : Option (((List S38) × Int) × (List Int)) := iter (U32_0 n) n ((a0, (a1, (a2, a3))), a4)
noncomputable def F32 (n : Nat) (a0 : List S38) (a1 : Int) : Option (List Int) :=
  (bif (makeOK ((List.length a0 : Nat) : Int) ((List.length a0 : Nat) : Int) 8) then
    (Option.bind (L32_0 n a0 a1 ((List.length (List.replicate (Int.toNat ((List.length a0 : Nat) : Int)) (0 : Int)) : Nat) : Int) (0 : Int) (List.replicate (Int.toNat ((List.length a0 : Nat) : Int)) (0 : Int))) fun y1 =>
    (Option.bind (L32_1 n y1.1.1 (1 : Int) [y1.1.2] y1.2) fun y2 =>
    (some y2)))
  else
    none)
noncomputable def c32 : Co (List (EV gam) × List (Ent gam)) ((List S38) × Int) := (.pairL (.cons (.d gam (.sl (.st 38))) (.consL (.d gam (.int .i64)) (.nil _))) (.nil _))
noncomputable def r32 : Co (EV gam × List (Ent gam) × List (Ent gam)) (List Int) := (.pairL (.d gam (.sl (.int .i64))) (.pairU (.nil _) (.nil _)))
noncomputable def b32 : Code := (Try.f32.body).getD .skip
noncomputable def b32_0 : Code := (loopsIn b32).getD 0 .skip
noncomputable def kp32_0 : Keep := { slots := [0, 1, 5, 17, 18], rows := [((5, none), 7000000599, (.int .i64))], boxes := [], tombs := [] }
noncomputable def c32_0 : Co (List (EV gam) × List (Ent gam)) (((List S38) × (Int × (Int × Int))) × (List Int)) := (.pair (.cons (.d gam (.sl (.st 38))) (.cons (.d gam (.int .i64)) (.consU (.ow gam 7000000599) (.cons (.d gam (.int .i64)) (.consL (.d gam (.int .i64)) (.nil _)))))) (.consL (.row gam (.int .i64) 0) (.nil _)))
noncomputable def x32_0 : Xc gam (((List S38) × Int) × (List Int)) := (.one (.exit 0) { slots := [0, 1, 5], rows := [((5, none), 7000000599, (.int .i64))], boxes := [], tombs := [] } (.pair (.cons (.d gam (.sl (.st 38))) (.consL (.d gam (.int .i64)) (.consU (.ow gam 7000000599) (.nil _)))) (.consL (.row gam (.int .i64) 0) (.nil _))))
noncomputable def b32_1 : Code := (loopsIn b32).getD 1 .skip
noncomputable def kp32_1 : Keep := { slots := [0, 5, 7, 8], rows := [((9000000008, some 0), 7001000000, (.int .i64)), ((5, none), 7000000599, (.int .i64))], boxes := [9000000008], tombs := [], mv := [(8, 9000000008)] }
noncomputable def c32_1 : Co (List (EV gam) × List (Ent gam)) (((List S38) × Int) × ((List Int) × (List Int))) := (.pair (.cons (.d gam (.sl (.st 38))) (.consU (.ow gam 7000000599) (.consL (.d gam (.int .i64)) (.consU (.ptr gam 9000000008 0) (.nil _))))) (.consU (.box (.consU (.ow gam 7001000000) (.nil _))) (.cons (.row gam (.int .i64) 0) (.consL (.row gam (.int .i64) 0) (.nil _)))))
noncomputable def x32_1 : Xc gam (List Int) := (.one (.exit 2) { slots := [5], rows := [((5, none), 7000000599, (.int .i64))], boxes := [], tombs := [] } (.pairU (.consU (.ow gam 7000000599) (.nil _)) (.consL (.row gam (.int .i64) 0) (.nil _))))
noncomputable def b32_2 : Code := (loopsIn b32).getD 2 .skip
noncomputable def kp32_2 : Keep := { slots := [0, 5, 7, 8, 9, 32, 33, 34], rows := [((9000000008, some 0), 7001000000, (.int .i64)), ((5, none), 7000000599, (.int .i64)), ((9, none), 7000000999, (.int .i64))], boxes := [9000000008], tombs := [], mv := [(8, 9000000008)] }
noncomputable def c32_2 : Co (List (EV gam) × List (Ent gam)) (((List S38) × (Int × ((List S38) × (Int × Int)))) × ((List Int) × ((List Int) × (List Int)))) := (.pair (.cons (.d gam (.sl (.st 38))) (.consU (.ow gam 7000000599) (.cons (.d gam (.int .i64)) (.consU (.ptr gam 9000000008 0) (.consU (.ow gam 7000000999) (.cons (.d gam (.sl (.st 38))) (.cons (.d gam (.int .i64)) (.consL (.d gam (.int .i64)) (.nil _))))))))) (.consU (.box (.consU (.ow gam 7001000000) (.nil _))) (.cons (.row gam (.int .i64) 0) (.cons (.row gam (.int .i64) 0) (.consL (.row gam (.int .i64) 0) (.nil _))))))
noncomputable def x32_2 : Xc gam (((List S38) × Int) × ((List Int) × ((List Int) × (List Int)))) := (.one (.exit 4) { slots := [0, 5, 7, 8, 9], rows := [((9000000008, some 0), 7001000000, (.int .i64)), ((5, none), 7000000599, (.int .i64)), ((9, none), 7000000999, (.int .i64))], boxes := [9000000008], tombs := [], mv := [(8, 9000000008)] } (.pair (.cons (.d gam (.sl (.st 38))) (.consU (.ow gam 7000000599) (.consL (.d gam (.int .i64)) (.consU (.ptr gam 9000000008 0) (.consU (.ow gam 7000000999) (.nil _)))))) (.consU (.box (.consU (.ow gam 7001000000) (.nil _))) (.cons (.row gam (.int .i64) 0) (.cons (.row gam (.int .i64) 0) (.consL (.row gam (.int .i64) 0) (.nil _)))))))
noncomputable def t32_0 (n : Nat) : LoopT gam := loopT kp32_0 c32_0 x32_0 (iter (U32_0 n) n)
noncomputable def t32_1 (n : Nat) : LoopT gam := loopT kp32_1 c32_1 x32_1 (iter (U32_1 n) n)
noncomputable def t32_2 (n : Nat) : LoopT gam := loopT kp32_2 c32_2 x32_2 (iter (U32_2 n) n)
noncomputable def e32 (n : Nat) : FnT gam := fnN [[some (.st 38)]] (fnT [] c32 r32 (fun x => F32 n x.1 x.2))
noncomputable def p32 (a : List (EV gam)) (l : List (Ent gam)) : Bool := (c32.dec (nilArgs [[some (.st 38)]] a, l)).isSome
noncomputable def env32 (n : Nat) : Env gam := { P := Try.prog, fns := lookU [(38, e38 n)], loops := lookU [(3, t32_0 n), (8, t32_1 n), (12, t32_2 n)], nt := 63, m := 0, keeps := [], eqs := [] }
theorem env32_ok (n : Nat) : EnvOK (env32 n) := .of _ rfl (by exact ⟨ok38 n, trivial⟩) (by exact fun t h => nomatch h) (by kernel_rfl)
theorem lin32_2 (n : Nat) : LoopsOK (env32 n) b32_2 := .of [] (by kernel_rfl) trivial
theorem lok32_2 (n : Nat) : LoopOK (env32 n) b32_2 (t32_2 n) := loopT_ok (env32_ok n) (lin32_2 n) (fun L x => by kernel_rfl) n
theorem lin32_1 (n : Nat) : LoopsOK (env32 n) b32_1 := .of [(b32_2, 12, t32_2 n)] (by kernel_rfl) ⟨by kernel_rfl, by kernel_rfl, lok32_2 n, trivial⟩
theorem lok32_1 (n : Nat) : LoopOK (env32 n) b32_1 (t32_1 n) := loopT_ok (env32_ok n) (lin32_1 n) (fun L x => by kernel_rfl) n
theorem lin32_0 (n : Nat) : LoopsOK (env32 n) b32_0 := .of [] (by kernel_rfl) trivial
theorem lok32_0 (n : Nat) : LoopOK (env32 n) b32_0 (t32_0 n) := loopT_ok (env32_ok n) (lin32_0 n) (fun L x => by kernel_rfl) n
theorem lin32 (n : Nat) : LoopsOK (env32 n) b32 := .of [(b32_0, 3, t32_0 n), (b32_1, 8, t32_1 n), (b32_2, 12, t32_2 n)] (by kernel_rfl) ⟨by kernel_rfl, by kernel_rfl, lok32_0 n, by kernel_rfl, by kernel_rfl, lok32_1 n, by kernel_rfl, by kernel_rfl, lok32_2 n, trivial⟩
theorem eq32 (n : Nat) (x : (List S38) × Int) : (F32 n x.1 x.2) = fnE (env32 n) Try.f32 [[.dat (.int .i64)]] none c32 r32 x := by kernel_rfl
theorem okt32 (n : Nat) : FnOK Try.prog 32 (fnT (G := gam) [] c32 r32 (fun x => F32 n x.1 x.2)) := fnT_ok (env32_ok n) (by kernel_rfl) (by kernel_rfl) (by kernel_rfl) (b := b32) (by kernel_rfl) (fun x => by kernel_rfl) (lin32 n) (eq32 n)
theorem ok32 (n : Nat) : FnOK Try.prog 32 (e32 n) := fnN_ok (okt32 n)
/-! ### waitgraph.Cycle$1 -/
noncomputable def F34 (n : Nat) (a0 : Int) (a1 : Int) (a2 : List Int) (a3 : Int) : Option (Bool × (Int × ((List Int) × Int))) :=
  (bif (a0 != a1) then
    (Option.bind (ixo a2 a0) fun y1 =>
    (some ((y1 == a3), (a1, (a2, a3)))))
  else
    (some (false, (a1, (a2, a3)))))
noncomputable def c34 : Co (List (EV gam) × List (Ent gam)) (Int × (Int × ((List Int) × Int))) := (.pair (.consL (.d gam (.int .i64)) (.consU (.ptr gam 0 0) (.consU (.ptr gam 1 0) (.consU (.ptr gam 2 0) (.nil _))))) (.cons (.box (.consL (.d gam (.int .i64)) (.nil _))) (.cons (.box (.consL (.d gam (.sl (.int .i64))) (.nil _))) (.consL (.box (.consL (.d gam (.int .i64)) (.nil _))) (.nil _)))))
noncomputable def r34 : Co (EV gam × List (Ent gam) × List (Ent gam)) (Bool × (Int × ((List Int) × Int))) := (.pair (.d gam .bool) (.pairL (.cons (.box (.consL (.d gam (.int .i64)) (.nil _))) (.cons (.box (.consL (.d gam (.sl (.int .i64))) (.nil _))) (.consL (.box (.consL (.d gam (.int .i64)) (.nil _))) (.nil _)))) (.nil _)))
noncomputable def b34 : Code := (Try.f34.body).getD .skip
noncomputable def e34 (n : Nat) : FnT gam := fnN [] (fnT [] c34 r34 (fun x => F34 n x.1 x.2.1 x.2.2.1 x.2.2.2))
noncomputable def p34 (a : List (EV gam)) (l : List (Ent gam)) : Bool := (c34.dec (nilArgs [] a, l)).isSome
noncomputable def env34 (n : Nat) : Env gam := { P := Try.prog, fns := lookU [], loops := lookU [], nt := 17, m := 3, keeps := [], eqs := [] }
theorem env34_ok (n : Nat) : EnvOK (env34 n) := .of _ rfl (by exact trivial) (by exact fun t h => nomatch h) (by kernel_rfl)
theorem lin34 (n : Nat) : LoopsOK (env34 n) b34 := .of [] (by kernel_rfl) trivial
theorem eq34 (n : Nat) (x : Int × (Int × ((List Int) × Int))) : (F34 n x.1 x.2.1 x.2.2.1 x.2.2.2) = fnE (env34 n) Try.f34 [[.asis]] none c34 r34 x := by kernel_rfl
theorem okt34 (n : Nat) : FnOK Try.prog 34 (fnT (G := gam) [] c34 r34 (fun x => F34 n x.1 x.2.1 x.2.2.1 x.2.2.2)) := fnT_ok (env34_ok n) (by kernel_rfl) (by kernel_rfl) (by kernel_rfl) (b := b34) (by kernel_rfl) (fun x => by kernel_rfl) (lin34 n) (eq34 n)
theorem ok34 (n : Nat) : FnOK Try.prog 34 (e34 n) := fnN_ok (okt34 n)
/-! ### slices.IndexFunc[[]int,int] -/
noncomputable def S33x1_0 (n : Nat) (L : (List Int) → Int → Int → Int → (List Int) → Int → Option ((Int × ((List Int) × Int)) ⊕ (Int × (Int × ((List Int) × Int))))) (a0 : List Int) (a1 : Int) (a2 : Int) (a3 : Int) (a4 : List Int) (a5 : Int) : Option ((Int × ((List Int) × Int)) ⊕ (Int × (Int × ((List Int) × Int)))) :=
  (bif (decide (a2 < a1)) then
    (Option.bind (ixo a0 a2) fun y1 =>
    (Option.bind (F34 n y1 a3 a4 a5) fun y2 =>
    (bif y2.1 then
      (some (.inr (a2, (y2.2.1, (y2.2.2.1, y2.2.2.2)))))
    else
      (L a0 a1 (IntKind.wrap .i64 (a2 + (1 : Int))) y2.2.1 y2.2.2.1 y2.2.2.2))))
  else
    (some (.inl (a3, (a4, a5)))))
noncomputable def U33x1_0 (n : Nat) (L : (((List Int) × (Int × Int)) × (Int × ((List Int) × Int))) → Option ((Int × ((List Int) × Int)) ⊕ (Int × (Int × ((List Int) × Int))))) (x : ((List Int) × (Int × Int)) × (Int × ((List Int) × Int))) : Option ((Int × ((List Int) × Int)) ⊕ (Int × (Int × ((List Int) × Int)))) := S33x1_0 n (fun a0 a1 a2 a3 a4 a5 => L ((a0, (a1, a2)), (a3, (a4, a5)))) x.1.1 x.1.2.1 x.1.2.2 x.2.1 x.2.2.1 x.2.2.2
noncomputable def L33x1_0 (n : Nat) (a0 : List Int) (a1 : Int) (a2 : Int) (a3 : Int) (a4 : List Int) (a5 : Int) : Option ((Int × ((List Int) × Int)) ⊕ (Int × (Int × ((List Int) × Int)))) := iter (U33x1_0 n) n ((a0, (a1, a2)), (a3, (a4, a5)))
noncomputable def F33x1 (n : Nat) (a0 : List Int) (a1 : Int) (a2 : List Int) (a3 : Int) : Option (Int × (Int × ((List Int) × Int))) :=
  (Option.bind (L33x1_0 n a0 ((List.length a0 : Nat) : Int) (0 : Int) a1 a2 a3) fun y1 =>
  (Sum.elim (fun y2 => (some ((-1 : Int), (y2.1, (y2.2.1, y2.2.2))))) (fun y3 => (some (y3.1, (y3.2.1, (y3.2.2.1, y3.2.2.2))))) y1))
noncomputable def c33x1 : Co (List (EV gam) × List (Ent gam)) ((List Int) × (Int × ((List Int) × Int))) := (.pair (.consL (.d gam (.sl (.int .i64))) (.consU (.fn 34 (.consU (.ptr gam 0 0) (.consU (.ptr gam 1 0) (.consU (.ptr gam 2 0) (.nil _))))) (.nil _))) (.cons (.box (.consL (.d gam (.int .i64)) (.nil _))) (.cons (.box (.consL (.d gam (.sl (.int .i64))) (.nil _))) (.consL (.box (.consL (.d gam (.int .i64)) (.nil _))) (.nil _)))))
noncomputable def r33x1 : Co (EV gam × List (Ent gam) × List (Ent gam)) (Int × (Int × ((List Int) × Int))) := (.pair (.d gam (.int .i64)) (.pairL (.cons (.box (.consL (.d gam (.int .i64)) (.nil _))) (.cons (.box (.consL (.d gam (.sl (.int .i64))) (.nil _))) (.consL (.box (.consL (.d gam (.int .i64)) (.nil _))) (.nil _)))) (.nil _)))
noncomputable def b33x1 : Code := (Try.f33.body).getD .skip
noncomputable def b33x1_0 : Code := (loopsIn b33x1).getD 0 .skip
noncomputable def kp33x1_0 : Keep := { slots := [0, 1, 7, 8], rows := [], boxes := [0, 1, 2], tombs := [] }
noncomputable def c33x1_0 : Co (List (EV gam) × List (Ent gam)) (((List Int) × (Int × Int)) × (Int × ((List Int) × Int))) := (.pair (.cons (.d gam (.sl (.int .i64))) (.consU (.fn 34 (.consU (.ptr gam 0 0) (.consU (.ptr gam 1 0) (.consU (.ptr gam 2 0) (.nil _))))) (.cons (.d gam (.int .i64)) (.consL (.d gam (.int .i64)) (.nil _))))) (.cons (.box (.consL (.d gam (.int .i64)) (.nil _))) (.cons (.box (.consL (.d gam (.sl (.int .i64))) (.nil _))) (.consL (.box (.consL (.d gam (.int .i64)) (.nil _))) (.nil _)))))
noncomputable def x33x1_0 : Xc gam ((Int × ((List Int) × Int)) ⊕ (Int × (Int × ((List Int) × Int)))) := (.or (.one (.exit 0) { slots := [], rows := [], boxes := [0, 1, 2], tombs := [] } (.pairU (.nil _) (.cons (.box (.consL (.d gam (.int .i64)) (.nil _))) (.cons (.box (.consL (.d gam (.sl (.int .i64))) (.nil _))) (.consL (.box (.consL (.d gam (.int .i64)) (.nil _))) (.nil _)))))) (.one .ret { slots := [4], rows := [], boxes := [0, 1, 2], tombs := [] } (.pair (.consL (.d gam (.int .i64)) (.nil _)) (.cons (.box (.consL (.d gam (.int .i64)) (.nil _))) (.cons (.box (.consL (.d gam (.sl (.int .i64))) (.nil _))) (.consL (.box (.consL (.d gam (.int .i64)) (.nil _))) (.nil _)))))))
noncomputable def t33x1_0 (n : Nat) : LoopT gam := loopT kp33x1_0 c33x1_0 x33x1_0 (iter (U33x1_0 n) n)
noncomputable def e33x1 (n : Nat) : FnT gam := fnN [[some (.int .i64)]] (fnT [] c33x1 r33x1 (fun x => F33x1 n x.1 x.2.1 x.2.2.1 x.2.2.2))
noncomputable def p33x1 (a : List (EV gam)) (l : List (Ent gam)) : Bool := (c33x1.dec (nilArgs [[some (.int .i64)]] a, l)).isSome
noncomputable def env33x1 (n : Nat) : Env gam := { P := Try.prog, fns := lookU [(34, e34 n)], loops := lookU [(2, t33x1_0 n)], nt := 19, m := 3, keeps := [], eqs := [] }
theorem env33x1_ok (n : Nat) : EnvOK (env33x1 n) := .of _ rfl (by exact ⟨ok34 n, trivial⟩) (by exact fun t h => nomatch h) (by kernel_rfl)
theorem lin33x1_0 (n : Nat) : LoopsOK (env33x1 n) b33x1_0 := .of [] (by kernel_rfl) trivial
theorem lok33x1_0 (n : Nat) : LoopOK (env33x1 n) b33x1_0 (t33x1_0 n) := loopT_ok (env33x1_ok n) (lin33x1_0 n) (fun L x => by kernel_rfl) n
theorem lin33x1 (n : Nat) : LoopsOK (env33x1 n) b33x1 := .of [(b33x1_0, 2, t33x1_0 n)] (by kernel_rfl) ⟨by kernel_rfl, by kernel_rfl, lok33x1_0 n, trivial⟩
theorem eq33x1 (n : Nat) (x : (List Int) × (Int × ((List Int) × Int))) : (F33x1 n x.1 x.2.1 x.2.2.1 x.2.2.2) = fnE (env33x1 n) Try.f33 [[.asis]] none c33x1 r33x1 x := by kernel_rfl
theorem okt33x1 (n : Nat) : FnOK Try.prog 33 (fnT (G := gam) [] c33x1 r33x1 (fun x => F33x1 n x.1 x.2.1 x.2.2.1 x.2.2.2)) := fnT_ok (env33x1_ok n) (by kernel_rfl) (by kernel_rfl) (by kernel_rfl) (b := b33x1) (by kernel_rfl) (fun x => by kernel_rfl) (lin33x1 n) (eq33x1 n)
theorem ok33x1 (n : Nat) : FnOK Try.prog 33 (e33x1 n) := fnN_ok (okt33x1 n)
/-! ### waitgraph.Cycle -/
noncomputable def S19_0 (n : Nat) (L : (List S38) → Int → Int → (List Int) → Int → (List Int) → Option (List Int)) (a0 : List S38) (a1 : Int) (a2 : Int) (a3 : List Int) (a4 : Int) (a5 : List Int) : Option (List Int) :=
  (bif (decide (a4 > (0 : Int))) then
    (Option.bind (ixo a0 a1) fun y1 =>
    (Option.bind (F33x1 n y1.Next a2 a3 a4) fun y2 =>
    (Option.bind (ixo a0 a1) fun y3 =>
    (Option.bind (ixo y3.Next y2.1) fun y4 =>
    (bif (appOK (List.length a5) (List.length [y4]) 8) then
      (L a0 y4 y2.2.1 y2.2.2.1 (IntKind.wrap .i64 (y2.2.2.2 - (1 : Int))) (a5 ++ [y4]))
    else
      none)))))
  else
    (some a5))
noncomputable def U19_0 (n : Nat) (L : (((List S38) × Int) × (Int × ((List Int) × (Int × (List Int))))) → Option (List Int)) (x : ((List S38) × Int) × (Int × ((List Int) × (Int × (List Int))))) : Option (List Int) := S19_0 n (fun a0 a1 a2 a3 a4 a5 => L ((a0, a1), (a2, (a3, (a4, a5))))) x.1.1 x.1.2 x.2.1 x.2.2.1 x.2.2.2.1 x.2.2.2.2
noncomputable def L19_0 (n : Nat) (a0 : List S38) (a1 : Int) (a2 : Int) (a3 : List Int) (a4 : Int) (a5 : List Int) : Option (List Int) := iter (U19_0 n) n ((a0, a1), (a2, (a3, (a4, a5))))
noncomputable def F19 (n : Nat) (a0 : List S38) (a1 : Int) : Option (List Int) :=
  (Option.bind (F29 n a0 a1) fun y1 =>
  (bif (bNot y1) then
    (some ([] : List Int))
  else
    (Option.bind (F32 n a0 a1) fun y2 =>
    (Option.bind (ixo y2 a1) fun y3 =>
    (bif (decide (y3 < (0 : Int))) then
      (some ([] : List Int))
    else
      (Option.bind (ixo y2 a1) fun y4 =>
      (Option.bind (L19_0 n a0 a1 a1 y2 (IntKind.wrap .i64 (y4 - (1 : Int))) [a1]) fun y5 =>
      (some y5))))))))
noncomputable def c19 : Co (List (EV gam) × List (Ent gam)) ((List S38) × Int) := (.pairL (.cons (.d gam (.sl (.st 38))) (.consL (.d gam (.int .i64)) (.nil _))) (.nil _))
noncomputable def r19 : Co (EV gam × List (Ent gam) × List (Ent gam)) (List Int) := (.pairL (.d gam (.sl (.int .i64))) (.pairU (.nil _) (.nil _)))
noncomputable def b19 : Code := (Try.f19.body).getD .skip
noncomputable def b19_0 : Code := (loopsIn b19).getD 0 .skip
noncomputable def kp19_0 : Keep := { slots := [0, 3, 5, 6, 7, 8], rows := [((6, none), 7000000699, (.int .i64))], boxes := [1000, 3004000, 9000000008], tombs := [], mv := [(8, 9000000008)] }
noncomputable def c19_0 : Co (List (EV gam) × List (Ent gam)) (((List S38) × Int) × (Int × ((List Int) × (Int × (List Int))))) := (.pair (.cons (.d gam (.sl (.st 38))) (.consU (.ptr gam 1000 0) (.consU (.ptr gam 3004000 0) (.consU (.ow gam 7000000699) (.consL (.d gam (.int .i64)) (.consU (.ptr gam 9000000008 0) (.nil _))))))) (.cons (.box (.consL (.d gam (.int .i64)) (.nil _))) (.cons (.box (.consL (.d gam (.sl (.int .i64))) (.nil _))) (.cons (.box (.consL (.d gam (.int .i64)) (.nil _))) (.consL (.row gam (.int .i64) 0) (.nil _))))))
noncomputable def x19_0 : Xc gam (List Int) := (.one (.exit 0) { slots := [6], rows := [((6, none), 7000000699, (.int .i64))], boxes := [], tombs := [] } (.pairU (.consU (.ow gam 7000000699) (.nil _)) (.consL (.row gam (.int .i64) 0) (.nil _))))
noncomputable def t19_0 (n : Nat) : LoopT gam := loopT kp19_0 c19_0 x19_0 (iter (U19_0 n) n)
noncomputable def e19 (n : Nat) : FnT gam := fnN [[some (.st 38)]] (fnT [] c19 r19 (fun x => F19 n x.1 x.2))
noncomputable def p19 (a : List (EV gam)) (l : List (Ent gam)) : Bool := (c19.dec (nilArgs [[some (.st 38)]] a, l)).isSome
noncomputable def env19 (n : Nat) : Env gam := { P := Try.prog, fns := lookU [(29, e29 n), (32, e32 n), (33, e33x1 n)], loops := lookU [(8, t19_0 n)], nt := 55, m := 0, keeps := [], eqs := [] }
theorem env19_ok (n : Nat) : EnvOK (env19 n) := .of _ rfl (by exact ⟨ok29 n, ok32 n, ok33x1 n, trivial⟩) (by exact fun t h => nomatch h) (by kernel_rfl)
theorem lin19_0 (n : Nat) : LoopsOK (env19 n) b19_0 := .of [] (by kernel_rfl) trivial
theorem lok19_0 (n : Nat) : LoopOK (env19 n) b19_0 (t19_0 n) := loopT_ok (env19_ok n) (lin19_0 n) (fun L x => by kernel_rfl) n
theorem lin19 (n : Nat) : LoopsOK (env19 n) b19 := .of [(b19_0, 8, t19_0 n)] (by kernel_rfl) ⟨by kernel_rfl, by kernel_rfl, lok19_0 n, trivial⟩
theorem eq19 (n : Nat) (x : (List S38) × Int) : (F19 n x.1 x.2) = fnE (env19 n) Try.f19 [[.dat (.int .i64)]] none c19 r19 x := by kernel_rfl
theorem okt19 (n : Nat) : FnOK Try.prog 19 (fnT (G := gam) [] c19 r19 (fun x => F19 n x.1 x.2)) := fnT_ok (env19_ok n) (by kernel_rfl) (by kernel_rfl) (by kernel_rfl) (b := b19) (by kernel_rfl) (fun x => by kernel_rfl) (lin19 n) (eq19 n)
theorem ok19 (n : Nat) : FnOK Try.prog 19 (e19 n) := fnN_ok (okt19 n)
/-! ### slices.Clone[[]int,int] -/
noncomputable def F41n (n : Nat) (_ : Unit) : Option (List Int) :=
  (some ([] : List Int))
noncomputable def c41n : Co (List (EV gam) × List (Ent gam)) Unit := (.pairU (.consU (.nl gam) (.nil _)) (.nil _))
noncomputable def r41n : Co (EV gam × List (Ent gam) × List (Ent gam)) (List Int) := (.pairU (.ow gam 0) (.pairU (.nil _) (.consL (.row gam (.int .i64) 0) (.nil _))))
noncomputable def b41n : Code := (Try.f41.body).getD .skip
noncomputable def e41n (n : Nat) : FnT gam := fnN [] (fnT [] c41n r41n (fun x => F41n n ()))
noncomputable def p41n (a : List (EV gam)) (l : List (Ent gam)) : Bool := (c41n.dec (nilArgs [] a, l)).isSome
noncomputable def env41n (n : Nat) : Env gam := { P := Try.prog, fns := lookU [], loops := lookU [], nt := 8, m := 0, keeps := [], eqs := [] }
theorem env41n_ok (n : Nat) : EnvOK (env41n n) := .of _ rfl (by exact trivial) (by exact fun t h => nomatch h) (by kernel_rfl)
theorem lin41n (n : Nat) : LoopsOK (env41n n) b41n := .of [] (by kernel_rfl) trivial
theorem eq41n (n : Nat) (x : Unit) : (F41n n ()) = fnE (env41n n) Try.f41 [[.own (.int .i64)]] none c41n r41n x := by kernel_rfl
theorem okt41n (n : Nat) : FnOK Try.prog 41 (fnT (G := gam) [] c41n r41n (fun x => F41n n ())) := fnT_ok (env41n_ok n) (by kernel_rfl) (by kernel_rfl) (by kernel_rfl) (b := b41n) (by kernel_rfl) (fun x => by kernel_rfl) (lin41n n) (eq41n n)
theorem ok41n (n : Nat) : FnOK Try.prog 41 (e41n n) := fnN_ok (okt41n n)
/-! ### slices.Clone[[]int,int] -/
noncomputable def F41s (n : Nat) (a0 : List Int) : Option (List Int) :=
  (bif (appOK (List.length ([] : List Int)) (List.length a0) 8) then (some (([] : List Int) ++ a0)) else none)
noncomputable def c41s : Co (List (EV gam) × List (Ent gam)) (List Int) := (.pairL (.consL (.d gam (.sn (.int .i64))) (.nil _)) (.nil _))
noncomputable def r41s : Co (EV gam × List (Ent gam) × List (Ent gam)) (List Int) := (.pairU (.ow gam 0) (.pairU (.nil _) (.consL (.row gam (.int .i64) 0) (.nil _))))
noncomputable def b41s : Code := (Try.f41.body).getD .skip
noncomputable def e41s (n : Nat) : FnT gam := fnN [] (fnT [] c41s r41s (fun x => F41s n x))
noncomputable def p41s (a : List (EV gam)) (l : List (Ent gam)) : Bool := (c41s.dec (nilArgs [] a, l)).isSome
noncomputable def env41s (n : Nat) : Env gam := { P := Try.prog, fns := lookU [], loops := lookU [], nt := 8, m := 0, keeps := [], eqs := [] }
theorem env41s_ok (n : Nat) : EnvOK (env41s n) := .of _ rfl (by exact trivial) (by exact fun t h => nomatch h) (by kernel_rfl)
theorem lin41s (n : Nat) : LoopsOK (env41s n) b41s := .of [] (by kernel_rfl) trivial
theorem eq41s (n : Nat) (x : List Int) : (F41s n x) = fnE (env41s n) Try.f41 [[.own (.int .i64)]] none c41s r41s x := by kernel_rfl
theorem okt41s (n : Nat) : FnOK Try.prog 41 (fnT (G := gam) [] c41s r41s (fun x => F41s n x)) := fnT_ok (env41s_ok n) (by kernel_rfl) (by kernel_rfl) (by kernel_rfl) (b := b41s) (by kernel_rfl) (fun x => by kernel_rfl) (lin41s n) (eq41s n)
theorem ok41s (n : Nat) : FnOK Try.prog 41 (e41s n) := fnN_ok (okt41s n)
/-! ### slices.Clone[[]int,int] -/
noncomputable def F41 (n : Nat) (a0 : List Int) : Option (List Int) := F41s n a0
noncomputable def c41 : Co (List (EV gam) × List (Ent gam)) (List Int) := (.pairL (.consL (.d gam (.sl (.int .i64))) (.nil _)) (.nil _))
noncomputable def r41 : Co (EV gam × List (Ent gam) × List (Ent gam)) (List Int) := (.pairU (.ow gam 0) (.pairU (.nil _) (.consL (.row gam (.int .i64) 0) (.nil _))))
noncomputable def e41 (n : Nat) : FnT gam := fnN [[some (.int .i64)]] (fnT [] c41 r41 (fun x => F41 n x))
noncomputable def p41 (a : List (EV gam)) (l : List (Ent gam)) : Bool := (c41.dec (nilArgs [[some (.int .i64)]] a, l)).isSome
theorem okt41 (n : Nat) : FnOK Try.prog 41 (fnT (G := gam) [] c41 r41 (fun x => F41 n x)) := split_ok (r := r41) (okt41n n) (okt41s n) 0 (.int .i64) (fun x => x) (fun x => ()) (fun x => x) (fun x => by kernel_rfl) (fun x => by kernel_rfl) (fun x => by kernel_rfl) (fun x => by kernel_rfl) (fun x => by kernel_rfl) (fun x => by kernel_rfl) (fun x y hp h => by cases (show x = [] from hp); exact clone_nil h)
theorem ok41 (n : Nat) : FnOK Try.prog 41 (e41 n) := fnN_ok (okt41 n)
/-! ### waitgraph.reach -/
noncomputable def S31_0 (n : Nat) (L : (List S38) → (List Bool) → (List Int) → Option (List Bool)) (a0 : List S38) (a1 : List Bool) (a2 : List Int) : Option (List Bool) :=
  (bif (decide (((List.length a2 : Nat) : Int) > (0 : Int))) then
    (bif (decide (0 ≤ (IntKind.wrap .i64 (((List.length a2 : Nat) : Int) - (1 : Int)))) && decide ((IntKind.wrap .i64 (((List.length a2 : Nat) : Int) - (1 : Int))) < ((List.length a2 : Nat) : Int))) then
      (Option.bind (a2[(Int.toNat (IntKind.wrap .i64 (((List.length a2 : Nat) : Int) - (1 : Int))))]?) fun y1 =>
      (bif (boundsE (List.length a2) none (some (IntKind.wrap .i64 (((List.length a2 : Nat) : Int) - (1 : Int))))) then
        (bif (decide (0 ≤ y1) && decide (y1 < ((List.length a1 : Nat) : Int))) then
          (Option.bind (a1[(Int.toNat y1)]?) fun y2 =>
          (bif (bNot y2) then
            (bif (decide (0 ≤ y1) && decide (y1 < ((List.length a1 : Nat) : Int))) then
              (Option.bind (ixo a0 y1) fun y3 =>
              (bif (appOK (List.length (List.take ((Int.toNat (IntKind.wrap .i64 (((List.length a2 : Nat) : Int) - (1 : Int)))) - 0) (List.drop 0 a2))) (List.length y3.Next) 8) then
                (L a0 (List.set a1 (Int.toNat y1) true) ((List.take ((Int.toNat (IntKind.wrap .i64 (((List.length a2 : Nat) : Int) - (1 : Int)))) - 0) (List.drop 0 a2)) ++ y3.Next))
              else
                none))
            else
              none)
          else
            (L a0 a1 (List.take ((Int.toNat (IntKind.wrap .i64 (((List.length a2 : Nat) : Int) - (1 : Int)))) - 0) (List.drop 0 a2)))))
        else
          none)
      else
        none))
    else
      none)
  else
    (some a1))
noncomputable def U31_0 (n : Nat) (L : ((List S38) × ((List Bool) × (List Int))) → Option (List Bool)) (x : (List S38) × ((List Bool) × (List Int))) : Option (List Bool) := S31_0 n (fun a0 a1 a2 => L (a0, (a1, a2))) x.1 x.2.1 x.2.2
noncomputable def L31_0 (n : Nat) (a0 : List S38) (a1 : List Bool) (a2 : List Int) : Option (List Bool) := iter (U31_0 n) n (a0, (a1, a2))
noncomputable def F31 (n : Nat) (a0 : List S38) (a1 : Int) : Option (List Bool) :=
  (bif (makeOK ((List.length a0 : Nat) : Int) ((List.length a0 : Nat) : Int) 1) then
    (Option.bind (ixo a0 a1) fun y1 =>
    (Option.bind (F41 n y1.Next) fun y2 =>
    (Option.bind (L31_0 n a0 (List.replicate (Int.toNat ((List.length a0 : Nat) : Int)) false) y2) fun y3 =>
    (some y3))))
  else
    none)
noncomputable def c31 : Co (List (EV gam) × List (Ent gam)) ((List S38) × Int) := (.pairL (.cons (.d gam (.sl (.st 38))) (.consL (.d gam (.int .i64)) (.nil _))) (.nil _))
noncomputable def r31 : Co (EV gam × List (Ent gam) × List (Ent gam)) (List Bool) := (.pairL (.d gam (.sl .bool)) (.pairU (.nil _) (.nil _)))
noncomputable def b31 : Code := (Try.f31.body).getD .skip
noncomputable def b31_0 : Code := (loopsIn b31).getD 0 .skip
noncomputable def kp31_0 : Keep := { slots := [0, 5, 6], rows := [((5, none), 7000000599, .bool), ((6, none), 7000000699, (.int .i64))], boxes := [], tombs := [], cut := [(6, 8000000006)] }
noncomputable def c31_0 : Co (List (EV gam) × List (Ent gam)) ((List S38) × ((List Bool) × (List Int))) := (.pair (.consL (.d gam (.sl (.st 38))) (.consU (.ow gam 7000000599) (.consU (.ow gam 7000000699) (.nil _)))) (.cons (.row gam .bool 0) (.consL (.row gam (.int .i64) 0) (.nil _))))
noncomputable def x31_0 : Xc gam (List Bool) := (.one (.exit 0) { slots := [5], rows := [((5, none), 7000000599, .bool)], boxes := [], tombs := [] } (.pairU (.consU (.ow gam 7000000599) (.nil _)) (.consL (.row gam .bool 0) (.nil _))))
noncomputable def t31_0 (n : Nat) : LoopT gam := loopT kp31_0 c31_0 x31_0 (iter (U31_0 n) n)
noncomputable def e31 (n : Nat) : FnT gam := fnN [[some (.st 38)]] (fnT [] c31 r31 (fun x => F31 n x.1 x.2))
noncomputable def p31 (a : List (EV gam)) (l : List (Ent gam)) : Bool := (c31.dec (nilArgs [[some (.st 38)]] a, l)).isSome
noncomputable def env31 (n : Nat) : Env gam := { P := Try.prog, fns := lookU [(41, e41 n)], loops := lookU [(3, t31_0 n)], nt := 47, m := 0, keeps := [], eqs := [] }
theorem env31_ok (n : Nat) : EnvOK (env31 n) := .of _ rfl (by exact ⟨ok41 n, trivial⟩) (by exact fun t h => nomatch h) (by kernel_rfl)
theorem lin31_0 (n : Nat) : LoopsOK (env31 n) b31_0 := .of [] (by kernel_rfl) trivial
theorem lok31_0 (n : Nat) : LoopOK (env31 n) b31_0 (t31_0 n) := loopT_ok (env31_ok n) (lin31_0 n) (fun L x => by kernel_rfl) n
theorem lin31 (n : Nat) : LoopsOK (env31 n) b31 := .of [(b31_0, 3, t31_0 n)] (by kernel_rfl) ⟨by kernel_rfl, by kernel_rfl, lok31_0 n, trivial⟩
theorem eq31 (n : Nat) (x : (List S38) × Int) : (F31 n x.1 x.2) = fnE (env31 n) Try.f31 [[.dat .bool]] none c31 r31 x := by kernel_rfl
theorem okt31 (n : Nat) : FnOK Try.prog 31 (fnT (G := gam) [] c31 r31 (fun x => F31 n x.1 x.2)) := fnT_ok (env31_ok n) (by kernel_rfl) (by kernel_rfl) (by kernel_rfl) (b := b31) (by kernel_rfl) (fun x => by kernel_rfl) (lin31 n) (eq31 n)
theorem ok31 (n : Nat) : FnOK Try.prog 31 (e31 n) := fnN_ok (okt31 n)
/-! ### (waitgraph.set).list -/
noncomputable def S30_0 (n : Nat) (L : Bool → (List Bool) → Int → Int → (List Int) → Option (List Int)) (a0 : Bool) (a1 : List Bool) (a2 : Int) (a3 : Int) (a4 : List Int) : Option (List Int) :=
  (bif (decide (a3 < a2)) then
    (Option.bind (ixo a1 a3) fun y1 =>
    (bif (bEq y1 a0) then
      (bif (appOK (List.length a4) (List.length [a3]) 8) then
        (L a0 a1 a2 (IntKind.wrap .i64 (a3 + (1 : Int))) (a4 ++ [a3]))
      else
        none)
    else
      (L a0 a1 a2 (IntKind.wrap .i64 (a3 + (1 : Int))) a4)))
  else
    (some a4))
noncomputable def U30_0 (n : Nat) (L : ((Bool × ((List Bool) × (Int × Int))) × (List Int)) → Option (List Int)) (x : (Bool × ((List Bool) × (Int × Int))) × (List Int)) : Option (List Int) := S30_0 n (fun a0 a1 a2 a3 a4 => L ((a0, (a1, (a2, a3))), a4)) x.1.1 x.1.2.1 x.1.2.2.1 x.1.2.2.2 x.2
noncomputable def L30_0 (n : Nat) (a0 : Bool) (a1 : List Bool) (a2 : Int) (a3 : Int) (a4 : List Int) : Option (List Int) := iter (U30_0 n) n ((a0, (a1, (a2, a3))), a4)
noncomputable def F30 (n : Nat) (a0 : List Bool) (a1 : Bool) : Option (List Int) :=
  (Option.bind (L30_0 n a1 a0 ((List.length a0 : Nat) : Int) (0 : Int) ([] : List Int)) fun y1 =>
  (some y1))
noncomputable def c30 : Co (List (EV gam) × List (Ent gam)) ((List Bool) × Bool) := (.pairL (.cons (.d gam (.sl .bool)) (.consL (.d gam .bool) (.nil _))) (.nil _))
noncomputable def r30 : Co (EV gam × List (Ent gam) × List (Ent gam)) (List Int) := (.pairL (.d gam (.sl (.int .i64))) (.pairU (.nil _) (.nil _)))
noncomputable def b30 : Code := (Try.f30.body).getD .skip
noncomputable def b30_0 : Code := (loopsIn b30).getD 0 .skip
noncomputable def kp30_0 : Keep := { slots := [1, 5, 8, 9, 10], rows := [((5, none), 7000000599, (.int .i64))], boxes := [], tombs := [] }
noncomputable def c30_0 : Co (List (EV gam) × List (Ent gam)) ((Bool × ((List Bool) × (Int × Int))) × (List Int)) := (.pair (.cons (.d gam .bool) (.consU (.ow gam 7000000599) (.cons (.d gam (.sl .bool)) (.cons (.d gam (.int .i64)) (.consL (.d gam (.int .i64)) (.nil _)))))) (.consL (.row gam (.int .i64) 0) (.nil _)))
noncomputable def x30_0 : Xc gam (List Int) := (.one (.exit 0) { slots := [5], rows := [((5, none), 7000000599, (.int .i64))], boxes := [], tombs := [] } (.pairU (.consU (.ow gam 7000000599) (.nil _)) (.consL (.row gam (.int .i64) 0) (.nil _))))
noncomputable def t30_0 (n : Nat) : LoopT gam := loopT kp30_0 c30_0 x30_0 (iter (U30_0 n) n)
noncomputable def e30 (n : Nat) : FnT gam := fnN [[some .bool]] (fnT [] c30 r30 (fun x => F30 n x.1 x.2))
noncomputable def p30 (a : List (EV gam)) (l : List (Ent gam)) : Bool := (c30.dec (nilArgs [[some .bool]] a, l)).isSome
noncomputable def env30 (n : Nat) : Env gam := { P := Try.prog, fns := lookU [], loops := lookU [(3, t30_0 n)], nt := 24, m := 0, keeps := [], eqs := [] }
theorem env30_ok (n : Nat) : EnvOK (env30 n) := .of _ rfl (by exact trivial) (by exact fun t h => nomatch h) (by kernel_rfl)
theorem lin30_0 (n : Nat) : LoopsOK (env30 n) b30_0 := .of [] (by kernel_rfl) trivial
theorem lok30_0 (n : Nat) : LoopOK (env30 n) b30_0 (t30_0 n) := loopT_ok (env30_ok n) (lin30_0 n) (fun L x => by kernel_rfl) n
theorem lin30 (n : Nat) : LoopsOK (env30 n) b30 := .of [(b30_0, 3, t30_0 n)] (by kernel_rfl) ⟨by kernel_rfl, by kernel_rfl, lok30_0 n, trivial⟩
theorem eq30 (n : Nat) (x : (List Bool) × Bool) : (F30 n x.1 x.2) = fnE (env30 n) Try.f30 [[.dat (.int .i64)]] none c30 r30 x := by kernel_rfl
theorem okt30 (n : Nat) : FnOK Try.prog 30 (fnT (G := gam) [] c30 r30 (fun x => F30 n x.1 x.2)) := fnT_ok (env30_ok n) (by kernel_rfl) (by kernel_rfl) (by kernel_rfl) (b := b30) (by kernel_rfl) (fun x => by kernel_rfl) (lin30 n) (eq30 n)
theorem ok30 (n : Nat) : FnOK Try.prog 30 (e30 n) := fnN_ok (okt30 n)
/-! ### slices.Equal[waitgraph.set,bool] -/
noncomputable def S37_0 (n : Nat) (L : (List Bool) → (List Bool) → Int → Int → Option (Unit ⊕ Bool)) (a0 : List Bool) (a1 : List Bool) (a2 : Int) (a3 : Int) : Option (Unit ⊕ Bool) :=
  (bif (decide (a3 < a2)) then
    (Option.bind (ixo a0 a3) fun y1 =>
    (Option.bind (ixo a1 a3) fun y2 =>
    (bif (bNot (bEq y1 y2)) then
      (some (.inr false))
    else
      (L a0 a1 a2 (IntKind.wrap .i64 (a3 + (1 : Int)))))))
  else
    (some (.inl ())))
noncomputable def U37_0 (n : Nat) (L : ((List Bool) × ((List Bool) × (Int × Int))) → Option (Unit ⊕ Bool)) (x : (List Bool) × ((List Bool) × (Int × Int))) : Option (Unit ⊕ Bool) := S37_0 n (fun a0 a1 a2 a3 => L (a0, (a1, (a2, a3)))) x.1 x.2.1 x.2.2.1 x.2.2.2
noncomputable def L37_0 (n : Nat) (a0 : List Bool) (a1 : List Bool) (a2 : Int) (a3 : Int) : Option (Unit ⊕ Bool) := iter (U37_0 n) n (a0, (a1, (a2, a3)))
noncomputable def F37 (n : Nat) (a0 : List Bool) (a1 : List Bool) : Option Bool :=
  (bif (((List.length a0 : Nat) : Int) != ((List.length a1 : Nat) : Int)) then
    (some false)
  else
    (Option.bind (L37_0 n a0 a1 ((List.length a0 : Nat) : Int) (0 : Int)) fun y1 =>
    (Sum.elim (fun y2 => (some true)) (fun y3 => (some y3)) y1)))
noncomputable def c37 : Co (List (EV gam) × List (Ent gam)) ((List Bool) × (List Bool)) := (.pairL (.cons (.d gam (.sl .bool)) (.consL (.d gam (.sl .bool)) (.nil _))) (.nil _))
noncomputable def r37 : Co (EV gam × List (Ent gam) × List (Ent gam)) Bool := (.pairL (.d gam .bool) (.pairU (.nil _) (.nil _)))
noncomputable def b37 : Code := (Try.f37.body).getD .skip
noncomputable def b37_0 : Code := (loopsIn b37).getD 0 .skip
noncomputable def kp37_0 : Keep := { slots := [0, 1, 12, 13], rows := [], boxes := [], tombs := [] }
noncomputable def c37_0 : Co (List (EV gam) × List (Ent gam)) ((List Bool) × ((List Bool) × (Int × Int))) := (.pairL (.cons (.d gam (.sl .bool)) (.cons (.d gam (.sl .bool)) (.cons (.d gam (.int .i64)) (.consL (.d gam (.int .i64)) (.nil _))))) (.nil _))
noncomputable def x37_0 : Xc gam (Unit ⊕ Bool) := (.or (.one (.exit 0) { slots := [], rows := [], boxes := [], tombs := [] } (.pairU (.nil _) (.nil _))) (.one .ret { slots := [4], rows := [], boxes := [], tombs := [] } (.pairL (.consL (.d gam .bool) (.nil _)) (.nil _))))
noncomputable def t37_0 (n : Nat) : LoopT gam := loopT kp37_0 c37_0 x37_0 (iter (U37_0 n) n)
noncomputable def e37 (n : Nat) : FnT gam := fnN [[some .bool], [some .bool]] (fnT [] c37 r37 (fun x => F37 n x.1 x.2))
noncomputable def p37 (a : List (EV gam)) (l : List (Ent gam)) : Bool := (c37.dec (nilArgs [[some .bool], [some .bool]] a, l)).isSome
noncomputable def env37 (n : Nat) : Env gam := { P := Try.prog, fns := lookU [], loops := lookU [(4, t37_0 n)], nt := 26, m := 0, keeps := [], eqs := [] }
theorem env37_ok (n : Nat) : EnvOK (env37 n) := .of _ rfl (by exact trivial) (by exact fun t h => nomatch h) (by kernel_rfl)
theorem lin37_0 (n : Nat) : LoopsOK (env37 n) b37_0 := .of [] (by kernel_rfl) trivial
theorem lok37_0 (n : Nat) : LoopOK (env37 n) b37_0 (t37_0 n) := loopT_ok (env37_ok n) (lin37_0 n) (fun L x => by kernel_rfl) n
theorem lin37 (n : Nat) : LoopsOK (env37 n) b37 := .of [(b37_0, 4, t37_0 n)] (by kernel_rfl) ⟨by kernel_rfl, by kernel_rfl, lok37_0 n, trivial⟩
theorem eq37 (n : Nat) (x : (List Bool) × (List Bool)) : (F37 n x.1 x.2) = fnE (env37 n) Try.f37 [[.asis]] none c37 r37 x := by kernel_rfl
theorem okt37 (n : Nat) : FnOK Try.prog 37 (fnT (G := gam) [] c37 r37 (fun x => F37 n x.1 x.2)) := fnT_ok (env37_ok n) (by kernel_rfl) (by kernel_rfl) (by kernel_rfl) (b := b37) (by kernel_rfl) (fun x => by kernel_rfl) (lin37 n) (eq37 n)
theorem ok37 (n : Nat) : FnOK Try.prog 37 (e37 n) := fnN_ok (okt37 n)
/-! ### waitgraph.Knots$1 -/
noncomputable def F36 (n : Nat) (a0 : Int) (a1 : Int) (a2 : List (List Bool)) : Option (Bool × (Int × (List (List Bool)))) :=
  (bif (decide (0 ≤ a0) && decide (a0 < ((List.length a2 : Nat) : Int))) then
    (Option.bind (a2[(Int.toNat a0)]?) fun y1 =>
    (bif (decide (0 ≤ a1) && decide (a1 < ((List.length a2 : Nat) : Int))) then
      (Option.bind (a2[(Int.toNat a1)]?) fun y2 =>
      (Option.bind (F37 n y1 y2) fun y3 =>
      (some (y3, (a1, a2)))))
    else
      none))
  else
    none)
noncomputable def c36 : Co (List (EV gam) × List (Ent gam)) (Int × (Int × (List (List Bool)))) := (.pair (.consL (.d gam (.int .i64)) (.consU (.ptr gam 0 0) (.consU (.ptr gam 1 0) (.nil _)))) (.consU (.box (.consU (.ow gam 2) (.nil _))) (.cons (.box (.consL (.d gam (.int .i64)) (.nil _))) (.consL (.row gam (.sl .bool) 0) (.nil _)))))
noncomputable def r36 : Co (EV gam × List (Ent gam) × List (Ent gam)) (Bool × (Int × (List (List Bool)))) := (.pair (.d gam .bool) (.pairL (.consU (.box (.consU (.ow gam 2) (.nil _))) (.cons (.box (.consL (.d gam (.int .i64)) (.nil _))) (.consL (.row gam (.sl .bool) 0) (.nil _)))) (.nil _)))
noncomputable def b36 : Code := (Try.f36.body).getD .skip
noncomputable def e36 (n : Nat) : FnT gam := fnN [] (fnT [] c36 r36 (fun x => F36 n x.1 x.2.1 x.2.2))
noncomputable def p36 (a : List (EV gam)) (l : List (Ent gam)) : Bool := (c36.dec (nilArgs [] a, l)).isSome
noncomputable def env36 (n : Nat) : Env gam := { P := Try.prog, fns := lookU [(37, e37 n)], loops := lookU [], nt := 14, m := 3, keeps := [], eqs := [] }
theorem env36_ok (n : Nat) : EnvOK (env36 n) := .of _ rfl (by exact ⟨ok37 n, trivial⟩) (by exact fun t h => nomatch h) (by kernel_rfl)
theorem lin36 (n : Nat) : LoopsOK (env36 n) b36 := .of [] (by kernel_rfl) trivial
theorem eq36 (n : Nat) (x : Int × (Int × (List (List Bool)))) : (F36 n x.1 x.2.1 x.2.2) = fnE (env36 n) Try.f36 [[.asis]] none c36 r36 x := by kernel_rfl
theorem okt36 (n : Nat) : FnOK Try.prog 36 (fnT (G := gam) [] c36 r36 (fun x => F36 n x.1 x.2.1 x.2.2)) := fnT_ok (env36_ok n) (by kernel_rfl) (by kernel_rfl) (by kernel_rfl) (b := b36) (by kernel_rfl) (fun x => by kernel_rfl) (lin36 n) (eq36 n)
theorem ok36 (n : Nat) : FnOK Try.prog 36 (e36 n) := fnN_ok (okt36 n)
/-! ### waitgraph.Knots$2 -/
noncomputable def F39 (n : Nat) (a0 : Int) (a1 : Int) (a2 : List (List Bool)) : Option (Bool × (Int × (List (List Bool)))) :=
  (Option.bind (F36 n a0 a1 a2) fun y1 =>
  (some ((bNot y1.1), (y1.2.1, y1.2.2))))
noncomputable def c39 : Co (List (EV gam) × List (Ent gam)) (Int × (Int × (List (List Bool)))) := (.pair (.consL (.d gam (.int .i64)) (.consU (.ptr gam 0 0) (.nil _))) (.consU (.box (.consU (.fn 36 (.consU (.ptr gam 1 0) (.consU (.ptr gam 2 0) (.nil _)))) (.nil _))) (.consU (.box (.consU (.ow gam 3) (.nil _))) (.cons (.box (.consL (.d gam (.int .i64)) (.nil _))) (.consL (.row gam (.sl .bool) 0) (.nil _))))))
noncomputable def r39 : Co (EV gam × List (Ent gam) × List (Ent gam)) (Bool × (Int × (List (List Bool)))) := (.pair (.d gam .bool) (.pairL (.consU (.box (.consU (.fn 36 (.consU (.ptr gam 1 0) (.consU (.ptr gam 2 0) (.nil _)))) (.nil _))) (.consU (.box (.consU (.ow gam 3) (.nil _))) (.cons (.box (.consL (.d gam (.int .i64)) (.nil _))) (.consL (.row gam (.sl .bool) 0) (.nil _))))) (.nil _)))
noncomputable def b39 : Code := (Try.f39.body).getD .skip
noncomputable def e39 (n : Nat) : FnT gam := fnN [] (fnT [] c39 r39 (fun x => F39 n x.1 x.2.1 x.2.2))
noncomputable def p39 (a : List (EV gam)) (l : List (Ent gam)) : Bool := (c39.dec (nilArgs [] a, l)).isSome
noncomputable def env39 (n : Nat) : Env gam := { P := Try.prog, fns := lookU [(36, e36 n)], loops := lookU [], nt := 8, m := 4, keeps := [], eqs := [] }
theorem env39_ok (n : Nat) : EnvOK (env39 n) := .of _ rfl (by exact ⟨ok36 n, trivial⟩) (by exact fun t h => nomatch h) (by kernel_rfl)
theorem lin39 (n : Nat) : LoopsOK (env39 n) b39 := .of [] (by kernel_rfl) trivial
theorem eq39 (n : Nat) (x : Int × (Int × (List (List Bool)))) : (F39 n x.1 x.2.1 x.2.2) = fnE (env39 n) Try.f39 [[.asis]] none c39 r39 x := by kernel_rfl
theorem okt39 (n : Nat) : FnOK Try.prog 39 (fnT (G := gam) [] c39 r39 (fun x => F39 n x.1 x.2.1 x.2.2)) := fnT_ok (env39_ok n) (by kernel_rfl) (by kernel_rfl) (by kernel_rfl) (b := b39) (by kernel_rfl) (fun x => by kernel_rfl) (lin39 n) (eq39 n)
theorem ok39 (n : Nat) : FnOK Try.prog 39 (e39 n) := fnN_ok (okt39 n)
/-! ### slices.IndexFunc[[]int,int] -/
noncomputable def S33x2_0 (n : Nat) (L : (List Int) → Int → Int → Int → (List (List Bool)) → Option ((Int × (List (List Bool))) ⊕ (Int × (Int × (List (List Bool)))))) (a0 : List Int) (a1 : Int) (a2 : Int) (a3 : Int) (a4 : List (List Bool)) : Option ((Int × (List (List Bool))) ⊕ (Int × (Int × (List (List Bool))))) :=
  (bif (decide (a2 < a1)) then
    (Option.bind (ixo a0 a2) fun y1 =>
    (Option.bind (F39 n y1 a3 a4) fun y2 =>
    (bif y2.1 then
      (some (.inr (a2, (y2.2.1, y2.2.2))))
    else
      (L a0 a1 (IntKind.wrap .i64 (a2 + (1 : Int))) y2.2.1 y2.2.2))))
  else
    (some (.inl (a3, a4))))
noncomputable def U33x2_0 (n : Nat) (L : (((List Int) × (Int × Int)) × (Int × (List (List Bool)))) → Option ((Int × (List (List Bool))) ⊕ (Int × (Int × (List (List Bool)))))) (x : ((List Int) × (Int × Int)) × (Int × (List (List Bool)))) : Option ((Int × (List (List Bool))) ⊕ (Int × (Int × (List (List Bool))))) := S33x2_0 n (fun a0 a1 a2 a3 a4 => L ((a0, (a1, a2)), (a3, a4))) x.1.1 x.1.2.1 x.1.2.2 x.2.1 x.2.2
noncomputable def L33x2_0 (n : Nat) (a0 : List Int) (a1 : Int) (a2 : Int) (a3 : Int) (a4 : List (List Bool)) : Option ((Int × (List (List Bool))) ⊕ (Int × (Int × (List (List Bool))))) := iter (U33x2_0 n) n ((a0, (a1, a2)), (a3, a4))
noncomputable def F33x2 (n : Nat) (a0 : List Int) (a1 : Int) (a2 : List (List Bool)) : Option (Int × (Int × (List (List Bool)))) :=
  (Option.bind (L33x2_0 n a0 ((List.length a0 : Nat) : Int) (0 : Int) a1 a2) fun y1 =>
  (Sum.elim (fun y2 => (some ((-1 : Int), (y2.1, y2.2)))) (fun y3 => (some (y3.1, (y3.2.1, y3.2.2)))) y1))
noncomputable def c33x2 : Co (List (EV gam) × List (Ent gam)) ((List Int) × (Int × (List (List Bool)))) := (.pair (.consL (.d gam (.sl (.int .i64))) (.consU (.fn 39 (.consU (.ptr gam 0 0) (.nil _))) (.nil _))) (.consU (.box (.consU (.fn 36 (.consU (.ptr gam 1 0) (.consU (.ptr gam 2 0) (.nil _)))) (.nil _))) (.consU (.box (.consU (.ow gam 3) (.nil _))) (.cons (.box (.consL (.d gam (.int .i64)) (.nil _))) (.consL (.row gam (.sl .bool) 0) (.nil _))))))
noncomputable def r33x2 : Co (EV gam × List (Ent gam) × List (Ent gam)) (Int × (Int × (List (List Bool)))) := (.pair (.d gam (.int .i64)) (.pairL (.consU (.box (.consU (.fn 36 (.consU (.ptr gam 1 0) (.consU (.ptr gam 2 0) (.nil _)))) (.nil _))) (.consU (.box (.consU (.ow gam 3) (.nil _))) (.cons (.box (.consL (.d gam (.int .i64)) (.nil _))) (.consL (.row gam (.sl .bool) 0) (.nil _))))) (.nil _)))
noncomputable def b33x2 : Code := (Try.f33.body).getD .skip
noncomputable def b33x2_0 : Code := (loopsIn b33x2).getD 0 .skip
noncomputable def kp33x2_0 : Keep := { slots := [0, 1, 7, 8], rows := [((1, some 0), 3, (.sl .bool))], boxes := [0, 1, 2], tombs := [] }
noncomputable def c33x2_0 : Co (List (EV gam) × List (Ent gam)) (((List Int) × (Int × Int)) × (Int × (List (List Bool)))) := (.pair (.cons (.d gam (.sl (.int .i64))) (.consU (.fn 39 (.consU (.ptr gam 0 0) (.nil _))) (.cons (.d gam (.int .i64)) (.consL (.d gam (.int .i64)) (.nil _))))) (.consU (.box (.consU (.fn 36 (.consU (.ptr gam 1 0) (.consU (.ptr gam 2 0) (.nil _)))) (.nil _))) (.consU (.box (.consU (.ow gam 3) (.nil _))) (.cons (.box (.consL (.d gam (.int .i64)) (.nil _))) (.consL (.row gam (.sl .bool) 0) (.nil _))))))
noncomputable def x33x2_0 : Xc gam ((Int × (List (List Bool))) ⊕ (Int × (Int × (List (List Bool))))) := (.or (.one (.exit 0) { slots := [], rows := [((1, some 0), 3, (.sl .bool))], boxes := [0, 1, 2], tombs := [] } (.pairU (.nil _) (.consU (.box (.consU (.fn 36 (.consU (.ptr gam 1 0) (.consU (.ptr gam 2 0) (.nil _)))) (.nil _))) (.consU (.box (.consU (.ow gam 3) (.nil _))) (.cons (.box (.consL (.d gam (.int .i64)) (.nil _))) (.consL (.row gam (.sl .bool) 0) (.nil _))))))) (.one .ret { slots := [4], rows := [((1, some 0), 3, (.sl .bool))], boxes := [0, 1, 2], tombs := [] } (.pair (.consL (.d gam (.int .i64)) (.nil _)) (.consU (.box (.consU (.fn 36 (.consU (.ptr gam 1 0) (.consU (.ptr gam 2 0) (.nil _)))) (.nil _))) (.consU (.box (.consU (.ow gam 3) (.nil _))) (.cons (.box (.consL (.d gam (.int .i64)) (.nil _))) (.consL (.row gam (.sl .bool) 0) (.nil _))))))))
noncomputable def t33x2_0 (n : Nat) : LoopT gam := loopT kp33x2_0 c33x2_0 x33x2_0 (iter (U33x2_0 n) n)
noncomputable def e33x2 (n : Nat) : FnT gam := fnN [[some (.int .i64)]] (fnT [] c33x2 r33x2 (fun x => F33x2 n x.1 x.2.1 x.2.2))
noncomputable def p33x2 (a : List (EV gam)) (l : List (Ent gam)) : Bool := (c33x2.dec (nilArgs [[some (.int .i64)]] a, l)).isSome
noncomputable def env33x2 (n : Nat) : Env gam := { P := Try.prog, fns := lookU [(39, e39 n)], loops := lookU [(2, t33x2_0 n)], nt := 19, m := 4, keeps := [], eqs := [] }
theorem env33x2_ok (n : Nat) : EnvOK (env33x2 n) := .of _ rfl (by exact ⟨ok39 n, trivial⟩) (by exact fun t h => nomatch h) (by kernel_rfl)
theorem lin33x2_0 (n : Nat) : LoopsOK (env33x2 n) b33x2_0 := .of [] (by kernel_rfl) trivial
theorem lok33x2_0 (n : Nat) : LoopOK (env33x2 n) b33x2_0 (t33x2_0 n) := loopT_ok (env33x2_ok n) (lin33x2_0 n) (fun L x => by kernel_rfl) n
theorem lin33x2 (n : Nat) : LoopsOK (env33x2 n) b33x2 := .of [(b33x2_0, 2, t33x2_0 n)] (by kernel_rfl) ⟨by kernel_rfl, by kernel_rfl, lok33x2_0 n, trivial⟩
theorem eq33x2 (n : Nat) (x : (List Int) × (Int × (List (List Bool)))) : (F33x2 n x.1 x.2.1 x.2.2) = fnE (env33x2 n) Try.f33 [[.asis]] none c33x2 r33x2 x := by kernel_rfl
theorem okt33x2 (n : Nat) : FnOK Try.prog 33 (fnT (G := gam) [] c33x2 r33x2 (fun x => F33x2 n x.1 x.2.1 x.2.2)) := fnT_ok (env33x2_ok n) (by kernel_rfl) (by kernel_rfl) (by kernel_rfl) (b := b33x2) (by kernel_rfl) (fun x => by kernel_rfl) (lin33x2 n) (eq33x2 n)
theorem ok33x2 (n : Nat) : FnOK Try.prog 33 (e33x2 n) := fnN_ok (okt33x2 n)
/-! ### slices.ContainsFunc[[]int,int] -/
noncomputable def F38x1 (n : Nat) (a0 : List Int) (a1 : Int) (a2 : List (List Bool)) : Option (Bool × (Int × (List (List Bool)))) :=
  (Option.bind (F33x2 n a0 a1 a2) fun y1 =>
  (some ((decide (y1.1 ≥ (0 : Int))), (y1.2.1, y1.2.2))))
noncomputable def c38x1 : Co (List (EV gam) × List (Ent gam)) ((List Int) × (Int × (List (List Bool)))) := (.pair (.consL (.d gam (.sl (.int .i64))) (.consU (.fn 39 (.consU (.ptr gam 0 0) (.nil _))) (.nil _))) (.consU (.box (.consU (.fn 36 (.consU (.ptr gam 1 0) (.consU (.ptr gam 2 0) (.nil _)))) (.nil _))) (.consU (.box (.consU (.ow gam 3) (.nil _))) (.cons (.box (.consL (.d gam (.int .i64)) (.nil _))) (.consL (.row gam (.sl .bool) 0) (.nil _))))))
noncomputable def r38x1 : Co (EV gam × List (Ent gam) × List (Ent gam)) (Bool × (Int × (List (List Bool)))) := (.pair (.d gam .bool) (.pairL (.consU (.box (.consU (.fn 36 (.consU (.ptr gam 1 0) (.consU (.ptr gam 2 0) (.nil _)))) (.nil _))) (.consU (.box (.consU (.ow gam 3) (.nil _))) (.cons (.box (.consL (.d gam (.int .i64)) (.nil _))) (.consL (.row gam (.sl .bool) 0) (.nil _))))) (.nil _)))
noncomputable def b38x1 : Code := (Try.f38.body).getD .skip
noncomputable def e38x1 (n : Nat) : FnT gam := fnN [[some (.int .i64)]] (fnT [] c38x1 r38x1 (fun x => F38x1 n x.1 x.2.1 x.2.2))
noncomputable def p38x1 (a : List (EV gam)) (l : List (Ent gam)) : Bool := (c38x1.dec (nilArgs [[some (.int .i64)]] a, l)).isSome
noncomputable def env38x1 (n : Nat) : Env gam := { P := Try.prog, fns := lookU [(33, e33x2 n)], loops := lookU [], nt := 9, m := 4, keeps := [], eqs := [] }
theorem env38x1_ok (n : Nat) : EnvOK (env38x1 n) := .of _ rfl (by exact ⟨ok33x2 n, trivial⟩) (by exact fun t h => nomatch h) (by kernel_rfl)
theorem lin38x1 (n : Nat) : LoopsOK (env38x1 n) b38x1 := .of [] (by kernel_rfl) trivial
theorem eq38x1 (n : Nat) (x : (List Int) × (Int × (List (List Bool)))) : (F38x1 n x.1 x.2.1 x.2.2) = fnE (env38x1 n) Try.f38 [[.asis]] none c38x1 r38x1 x := by kernel_rfl
theorem okt38x1 (n : Nat) : FnOK Try.prog 38 (fnT (G := gam) [] c38x1 r38x1 (fun x => F38x1 n x.1 x.2.1 x.2.2)) := fnT_ok (env38x1_ok n) (by kernel_rfl) (by kernel_rfl) (by kernel_rfl) (b := b38x1) (by kernel_rfl) (fun x => by kernel_rfl) (lin38x1 n) (eq38x1 n)
theorem ok38x1 (n : Nat) : FnOK Try.prog 38 (e38x1 n) := fnN_ok (okt38x1 n)
/-! ### waitgraph.Knots -/
noncomputable def S22_1 (n : Nat) (L : Int → Int → (List (List Bool)) → (List (List Int)) → Option (List (List Int))) (a0 : Int) (a1 : Int) (a2 : List (List Bool)) (a3 : List (List Int)) : Option (List (List Int)) :=
  (bif (decide (a1 < a0)) then
    (bif (decide (0 ≤ a1) && decide (a1 < ((List.length a2 : Nat) : Int))) then
      (Option.bind (a2[(Int.toNat a1)]?) fun y1 =>
      (Option.bind (F30 n y1 true) fun y2 =>
      (bif (((List.length y2 : Nat) : Int) == (0 : Int)) then
        (L a0 (IntKind.wrap .i64 (a1 + (1 : Int))) a2 a3)
      else
        (Option.bind (ixo y2 (0 : Int)) fun y3 =>
        (bif (y3 != a1) then
          (L a0 (IntKind.wrap .i64 (a1 + (1 : Int))) a2 a3)
        else
          (Option.bind (F38x1 n y2 a1 a2) fun y4 =>
          (bif (bNot y4.1) then
            (bif (appOK (List.length a3) (List.length [y2]) 24) then
              (L a0 (IntKind.wrap .i64 (a1 + (1 : Int))) y4.2.2 (a3 ++ [y2]))
            else
              none)
          else
            (L a0 (IntKind.wrap .i64 (a1 + (1 : Int))) y4.2.2 a3))))))))
    else
      none)
  else
    (some a3))
noncomputable def U22_1 (n : Nat) (L : ((Int × Int) × ((List (List Bool)) × (List (List Int)))) → Option (List (List Int))) (x : (Int × Int) × ((List (List Bool)) × (List (List Int)))) : Option (List (List Int)) := S22_1 n (fun a0 a1 a2 a3 => L ((a0, a1), (a2, a3))) x.1.1 x.1.2 x.2.1 x.2.2
noncomputable def L22_1 (n : Nat) (a0 : Int) (a1 : Int) (a2 : List (List Bool)) (a3 : List (List Int)) : Option (List (List Int)) := iter (U22_1 n) n ((a0, a1), (a2, a3))
noncomputable def S22_0 (n : Nat) (L : (List S38) → Int → Int → (List (List Bool)) → (List (List Int)) → Option ((List S38) × ((List (List Bool)) × (List (List Int))))) (a0 : List S38) (a1 : Int) (a2 : Int) (a3 : List (List Bool)) (a4 : List (List Int)) : Option ((List S38) × ((List (List Bool)) × (List (List Int)))) :=
  (bif (decide (a2 < a1)) then
    (Option.bind (F31 n a0 a2) fun y1 =>
    (bif (decide (0 ≤ a2) && decide (a2 < ((List.length a3 : Nat) : Int))) then
      (L a0 a1 (IntKind.wrap .i64 (a2 + (1 : Int))) (List.set a3 (Int.toNat a2) y1) a4)
    else
      none))
  else
    (some (a0, (a3, a4))))
noncomputable def U22_0 (n : Nat) (L : (((List S38) × (Int × Int)) × ((List (List Bool)) × (List (List Int)))) → Option ((List S38) × ((List (List Bool)) × (List (List Int))))) (x : ((List S38) × (Int × Int)) × ((List (List Bool)) × (List (List Int)))) : Option ((List S38) × ((List (List Bool)) × (List (List Int)))) := S22_0 n (fun a0 a1 a2 a3 a4 => L ((a0, (a1, a2)), (a3, a4))) x.1.1 x.1.2.1 x.1.2.2 x.2.1 x.2.2
noncomputable def L22_0 (n : Nat) (a0 : List S38) (a1 : Int) (a2 : Int) (a3 : List (List Bool)) (a4 : List (List Int)) : Option ((List S38) × ((List (List Bool)) × (List (List Int)))) := iter (U22_0 n) n ((a0, (a1, a2)), (a3, a4))
noncomputable def F22 (n : Nat) (a0 : List S38) : Option (List (List Int)) :=
  (Option.bind (F12 n a0) fun y1 =>
  (bif (bNot y1) then
    (some ([] : List (List Int)))
  else
    (bif (makeOK ((List.length a0 : Nat) : Int) ((List.length a0 : Nat) : Int) 24) then
      (Option.bind (L22_0 n a0 ((List.length a0 : Nat) : Int) (0 : Int) (List.replicate (Int.toNat ((List.length a0 : Nat) : Int)) ([] : List Bool)) ([] : List (List Int))) fun y2 =>
      (Option.bind (L22_1 n ((List.length y2.1 : Nat) : Int) (0 : Int) y2.2.1 y2.2.2) fun y3 =>
      (some y3)))
    else
      none)))
noncomputable def c22 : Co (List (EV gam) × List (Ent gam)) (List S38) := (.pairL (.consL (.d gam (.sl (.st 38))) (.nil _)) (.nil _))
noncomputable def r22 : Co (EV gam × List (Ent gam) × List (Ent gam)) (List (List Int)) := (.pairL (.d gam (.sl (.sl (.int .i64)))) (.pairU (.nil _) (.nil _)))
noncomputable def b22 : Code := (Try.f22.body).getD .skip
noncomputable def b22_0 : Code := (loopsIn b22).getD 0 .skip
noncomputable def kp22_0 : Keep := { slots := [0, 3, 4, 16, 17], rows := [((4004000, some 0), 7001000000, (.sl .bool)), ((3, none), 7000000399, (.sl (.int .i64)))], boxes := [4004000], tombs := [] }
noncomputable def c22_0 : Co (List (EV gam) × List (Ent gam)) (((List S38) × (Int × Int)) × ((List (List Bool)) × (List (List Int)))) := (.pair (.cons (.d gam (.sl (.st 38))) (.consU (.ow gam 7000000399) (.consU (.ptr gam 4004000 0) (.cons (.d gam (.int .i64)) (.consL (.d gam (.int .i64)) (.nil _)))))) (.consU (.box (.consU (.ow gam 7001000000) (.nil _))) (.cons (.row gam (.sl .bool) 0) (.consL (.row gam (.sl (.int .i64)) 0) (.nil _)))))
noncomputable def x22_0 : Xc gam ((List S38) × ((List (List Bool)) × (List (List Int)))) := (.one (.exit 0) { slots := [0, 3, 4], rows := [((4004000, some 0), 7001000000, (.sl .bool)), ((3, none), 7000000399, (.sl (.int .i64)))], boxes := [4004000], tombs := [] } (.pair (.consL (.d gam (.sl (.st 38))) (.consU (.ow gam 7000000399) (.consU (.ptr gam 4004000 0) (.nil _)))) (.consU (.box (.consU (.ow gam 7001000000) (.nil _))) (.cons (.row gam (.sl .bool) 0) (.consL (.row gam (.sl (.int .i64)) 0) (.nil _))))))
noncomputable def b22_1 : Code := (loopsIn b22).getD 1 .skip
noncomputable def kp22_1 : Keep := { slots := [3, 4, 28, 29], rows := [((4004000, some 0), 7001000000, (.sl .bool)), ((3, none), 7000000399, (.sl (.int .i64)))], boxes := [4004000], tombs := [] }
noncomputable def c22_1 : Co (List (EV gam) × List (Ent gam)) ((Int × Int) × ((List (List Bool)) × (List (List Int)))) := (.pair (.consU (.ow gam 7000000399) (.consU (.ptr gam 4004000 0) (.cons (.d gam (.int .i64)) (.consL (.d gam (.int .i64)) (.nil _))))) (.consU (.box (.consU (.ow gam 7001000000) (.nil _))) (.cons (.row gam (.sl .bool) 0) (.consL (.row gam (.sl (.int .i64)) 0) (.nil _)))))
noncomputable def x22_1 : Xc gam (List (List Int)) := (.one (.exit 2) { slots := [3], rows := [((3, none), 7000000399, (.sl (.int .i64)))], boxes := [], tombs := [] } (.pairU (.consU (.ow gam 7000000399) (.nil _)) (.consL (.row gam (.sl (.int .i64)) 0) (.nil _))))
noncomputable def t22_0 (n : Nat) : LoopT gam := loopT kp22_0 c22_0 x22_0 (iter (U22_0 n) n)
noncomputable def t22_1 (n : Nat) : LoopT gam := loopT kp22_1 c22_1 x22_1 (iter (U22_1 n) n)
noncomputable def e22 (n : Nat) : FnT gam := fnN [[some (.st 38)]] (fnT [] c22 r22 (fun x => F22 n x))
noncomputable def p22 (a : List (EV gam)) (l : List (Ent gam)) : Bool := (c22.dec (nilArgs [[some (.st 38)]] a, l)).isSome
noncomputable def env22 (n : Nat) : Env gam := { P := Try.prog, fns := lookU [(12, e12 n), (30, e30 n), (31, e31 n), (38, e38x1 n)], loops := lookU [(6, t22_0 n), (11, t22_1 n)], nt := 58, m := 0, keeps := [], eqs := [] }
theorem env22_ok (n : Nat) : EnvOK (env22 n) := .of _ rfl (by exact ⟨ok12 n, ok30 n, ok31 n, ok38x1 n, trivial⟩) (by exact fun t h => nomatch h) (by kernel_rfl)
theorem lin22_1 (n : Nat) : LoopsOK (env22 n) b22_1 := .of [] (by kernel_rfl) trivial
theorem lok22_1 (n : Nat) : LoopOK (env22 n) b22_1 (t22_1 n) := loopT_ok (env22_ok n) (lin22_1 n) (fun L x => by kernel_rfl) n
theorem lin22_0 (n : Nat) : LoopsOK (env22 n) b22_0 := .of [] (by kernel_rfl) trivial
theorem lok22_0 (n : Nat) : LoopOK (env22 n) b22_0 (t22_0 n) := loopT_ok (env22_ok n) (lin22_0 n) (fun L x => by kernel_rfl) n
theorem lin22 (n : Nat) : LoopsOK (env22 n) b22 := .of [(b22_0, 6, t22_0 n), (b22_1, 11, t22_1 n)] (by kernel_rfl) ⟨by kernel_rfl, by kernel_rfl, lok22_0 n, by kernel_rfl, by kernel_rfl, lok22_1 n, trivial⟩
theorem eq22 (n : Nat) (x : List S38) : (F22 n x) = fnE (env22 n) Try.f22 [[.dat (.sl (.int .i64))]] none c22 r22 x := by kernel_rfl
theorem okt22 (n : Nat) : FnOK Try.prog 22 (fnT (G := gam) [] c22 r22 (fun x => F22 n x)) := fnT_ok (env22_ok n) (by kernel_rfl) (by kernel_rfl) (by kernel_rfl) (b := b22) (by kernel_rfl) (fun x => by kernel_rfl) (lin22 n) (eq22 n)
theorem ok22 (n : Nat) : FnOK Try.prog 22 (e22 n) := fnN_ok (okt22 n)
/-! ### (waitgraph.set).without -/
noncomputable def F28 (n : Nat) (a0 : List Bool) : Option (List Int) :=
  (Option.bind (F30 n a0 false) fun y1 =>
  (some y1))
noncomputable def c28 : Co (List (EV gam) × List (Ent gam)) (List Bool) := (.pairL (.consL (.d gam (.sl .bool)) (.nil _)) (.nil _))
noncomputable def r28 : Co (EV gam × List (Ent gam) × List (Ent gam)) (List Int) := (.pairL (.d gam (.sl (.int .i64))) (.pairU (.nil _) (.nil _)))
noncomputable def b28 : Code := (Try.f28.body).getD .skip
noncomputable def e28 (n : Nat) : FnT gam := fnN [[some .bool]] (fnT [] c28 r28 (fun x => F28 n x))
noncomputable def p28 (a : List (EV gam)) (l : List (Ent gam)) : Bool := (c28.dec (nilArgs [[some .bool]] a, l)).isSome
noncomputable def env28 (n : Nat) : Env gam := { P := Try.prog, fns := lookU [(30, e30 n)], loops := lookU [], nt := 5, m := 0, keeps := [], eqs := [] }
theorem env28_ok (n : Nat) : EnvOK (env28 n) := .of _ rfl (by exact ⟨ok30 n, trivial⟩) (by exact fun t h => nomatch h) (by kernel_rfl)
theorem lin28 (n : Nat) : LoopsOK (env28 n) b28 := .of [] (by kernel_rfl) trivial
theorem eq28 (n : Nat) (x : List Bool) : (F28 n x) = fnE (env28 n) Try.f28 [[.dat (.int .i64)]] none c28 r28 x := by kernel_rfl
theorem okt28 (n : Nat) : FnOK Try.prog 28 (fnT (G := gam) [] c28 r28 (fun x => F28 n x)) := fnT_ok (env28_ok n) (by kernel_rfl) (by kernel_rfl) (by kernel_rfl) (b := b28) (by kernel_rfl) (fun x => by kernel_rfl) (lin28 n) (eq28 n)
theorem ok28 (n : Nat) : FnOK Try.prog 28 (e28 n) := fnN_ok (okt28 n)
/-! ### waitgraph.Stuck -/
noncomputable def S15_2 (n : Nat) (L : (List S38) → Bool → Int → Int → (List S38) → Int → Int → (List Int) → Int → Int → Int → (List Int) → (List Bool) → Option (((List S38) × (Bool × (Int × (Int × ((List S38) × (Int × Int)))))) × ((Int × (List Int)) × (List Bool)))) (a0 : List S38) (a1 : Bool) (a2 : Int) (a3 : Int) (a4 : List S38) (a5 : Int) (a6 : Int) (a7 : List Int) (a8 : Int) (a9 : Int) (a10 : Int) (a11 : List Int) (a12 : List Bool) : Option (((List S38) × (Bool × (Int × (Int × ((List S38) × (Int × Int)))))) × ((Int × (List Int)) × (List Bool))) :=
  (bif (decide (a9 < a8)) then
    (Option.bind (ixo a7 a9) fun y1 =>
    (bif (decide (0 ≤ y1) && decide (y1 < ((List.length a12 : Nat) : Int))) then
      (Option.bind (a12[(Int.toNat y1)]?) fun y2 =>
      (bif y2 then
        (L a0 a1 a2 (IntKind.wrap .i64 (a3 + (1 : Int))) a4 a5 a6 a7 a8 (IntKind.wrap .i64 (a9 + (1 : Int))) a10 a11 a12)
      else
        (L a0 a1 a2 a3 a4 a5 a6 a7 a8 (IntKind.wrap .i64 (a9 + (1 : Int))) a10 a11 a12)))
    else
      none))
  else
    (some ((a0, (a1, (a2, (a3, (a4, (a5, a6)))))), ((a10, a11), a12))))
noncomputable def U15_2 (n : Nat) (L : (((List S38) × (Bool × (Int × (Int × ((List S38) × (Int × (Int × ((List Int) × (Int × Int))))))))) × ((Int × (List Int)) × (List Bool))) → Option (((List S38) × (Bool × (Int × (Int × ((List S38) × (Int × Int)))))) × ((Int × (List Int)) × (List Bool)))) (x : ((List S38) × (Bool × (Int × (Int × ((List S38) × (Int × (Int × ((List Int) × (Int × Int))))))))) × ((Int × (List Int)) × (List Bool))) : Option (((List S38) × (Bool × (Int × (Int × ((List S38) × (Int × Int)))))) × ((Int × (List Int)) × (List Bool))) := S15_2 n (fun a0 a1 a2 a3 a4 a5 a6 a7 a8 a9 a10 a11 a12 => L ((a0, (a1, (a2, (a3, (a4, (a5, (a6, (a7, (a8, a9))))))))), ((a10, a11), a12))) x.1.1 x.1.2.1 x.1.2.2.1 x.1.2.2.2.1 x.1.2.2.2.2.1 x.1.2.2.2.2.2.1 x.1.2.2.2.2.2.2.1 x.1.2.2.2.2.2.2.2.1 x.1.2.2.2.2.2.2.2.2.1 x.1.2.2.2.2.2.2.2.2.2 x.2.1.1 x.2.1.2 x.2.2
noncomputable def L15_2 (n : Nat) (a0 : List S38) (a1 : Bool) (a2 : Int) (a3 : Int) (a4 : List S38) (a5 : Int) (a6 : Int) (a7 : List Int) (a8 : Int) (a9 : Int) (a10 : Int) (a11 : List Int) (a12 : List Bool) : Option (((List S38) × (Bool × (Int × (Int × ((List S38) × (Int × Int)))))) × ((Int × (List Int)) × (List Bool))) := iter (U15_2 n) n ((a0, (a1, (a2, (a3, (a4, (a5, (a6, (a7, (a8, a9))))))))), ((a10, a11), a12))
noncomputable def S15_1 (n : Nat) (L : (List S38) → Bool → (List S38) → Int → Int → (List Bool) → Option (((List S38) × Bool) × (List Bool))) (a0 : List S38) (a1 : Bool) (a2 : List S38) (a3 : Int) (a4 : Int) (a5 : List Bool) : Option (((List S38) × Bool) × (List Bool)) :=
  (bif (decide (a4 < a3)) then
    (Option.bind (ixo a2 a4) fun y1 =>
    (Option.bind (L15_2 n a0 a1 a4 (0 : Int) a2 a3 a4 y1.Next ((List.length y1.Next : Nat) : Int) (0 : Int) y1.K y1.Next a5) fun y2 =>
    (bif (decide (0 ≤ y2.1.2.2.1) && decide (y2.1.2.2.1 < ((List.length y2.2.2 : Nat) : Int))) then
      (Option.bind (y2.2.2[(Int.toNat y2.1.2.2.1)]?) fun y3 =>
      (bif (bNot y3) then
        (bif (decide (y2.1.2.2.2.1 ≥ y2.2.1.1)) then
          (bif (decide (0 ≤ y2.1.2.2.1) && decide (y2.1.2.2.1 < ((List.length y2.2.2 : Nat) : Int))) then
            (L y2.1.1 true y2.1.2.2.2.2.1 y2.1.2.2.2.2.2.1 (IntKind.wrap .i64 (y2.1.2.2.2.2.2.2 + (1 : Int))) (List.set y2.2.2 (Int.toNat y2.1.2.2.1) true))
          else
            none)
        else
          (L y2.1.1 y2.1.2.1 y2.1.2.2.2.2.1 y2.1.2.2.2.2.2.1 (IntKind.wrap .i64 (y2.1.2.2.2.2.2.2 + (1 : Int))) y2.2.2))
      else
        (L y2.1.1 y2.1.2.1 y2.1.2.2.2.2.1 y2.1.2.2.2.2.2.1 (IntKind.wrap .i64 (y2.1.2.2.2.2.2.2 + (1 : Int))) y2.2.2)))
    else
      none)))
  else
    (some ((a0, a1), a5)))
noncomputable def U15_1 (n : Nat) (L : (((List S38) × (Bool × ((List S38) × (Int × Int)))) × (List Bool)) → Option (((List S38) × Bool) × (List Bool))) (x : ((List S38) × (Bool × ((List S38) × (Int × Int)))) × (List Bool)) : Option (((List S38) × Bool) × (List Bool)) := S15_1 n (fun a0 a1 a2 a3 a4 a5 => L ((a0, (a1, (a2, (a3, a4)))), a5)) x.1.1 x.1.2.1 x.1.2.2.1 x.1.2.2.2.1 x.1.2.2.2.2 x.2
noncomputable def L15_1 (n : Nat) (a0 : List S38) (a1 : Bool) (a2 : List S38) (a3 : Int) (a4 : Int) (a5 : List Bool) : Option (((List S38) × Bool) × (List Bool)) := iter (U15_1 n) n ((a0, (a1, (a2, (a3, a4)))), a5)
noncomputable def S15_0 (n : Nat) (L : (List S38) → Bool → (List Bool) → Option (List Bool)) (a0 : List S38) (a1 : Bool) (a2 : List Bool) : Option (List Bool) :=
  (bif a1 then
    (Option.bind (L15_1 n a0 false a0 ((List.length a0 : Nat) : Int) (0 : Int) a2) fun y1 =>
    (L y1.1.1 y1.1.2 y1.2))
  else
    (some a2))
noncomputable def U15_0 (n : Nat) (L : (((List S38) × Bool) × (List Bool)) → Option (List Bool)) (x : ((List S38) × Bool) × (List Bool)) : Option (List Bool) := S15_0 n (fun a0 a1 a2 => L ((a0, a1), a2)) x.1.1 x.1.2 x.2
noncomputable def L15_0 (n : Nat) (a0 : List S38) (a1 : Bool) (a2 : List Bool) : Option (List Bool) := iter (U15_0 n) n ((a0, a1), a2)
noncomputable def F15 (n : Nat) (a0 : List S38) : Option (List Int) :=
  (Option.bind (F12 n a0) fun y1 =>
  (bif (bNot y1) then
    (some ([] : List Int))
  else
    (bif (makeOK ((List.length a0 : Nat) : Int) ((List.length a0 : Nat) : Int) 1) then
      (Option.bind (L15_0 n a0 true (List.replicate (Int.toNat ((List.length a0 : Nat) : Int)) false)) fun y2 =>
      (Option.bind (F28 n y2) fun y3 =>
      (some y3)))
    else
      none)))
noncomputable def c15 : Co (List (EV gam) × List (Ent gam)) (List S38) := (.pairL (.consL (.d gam (.sl (.st 38))) (.nil _)) (.nil _))
noncomputable def r15 : Co (EV gam × List (Ent gam) × List (Ent gam)) (List Int) := (.pairL (.d gam (.sl (.int .i64))) (.pairU (.nil _) (.nil _)))
noncomputable def b15 : Code := (Try.f15.body).getD .skip
noncomputable def b15_0 : Code := (loopsIn b15).getD 0 .skip
noncomputable def kp15_0 : Keep := { slots := [0, 3, 4], rows := [((3, none), 7000000399, .bool)], boxes := [], tombs := [] }
noncomputable def c15_0 : Co (List (EV gam) × List (Ent gam)) (((List S38) × Bool) × (List Bool)) := (.pair (.cons (.d gam (.sl (.st 38))) (.consU (.ow gam 7000000399) (.consL (.d gam .bool) (.nil _)))) (.consL (.row gam .bool 0) (.nil _)))
noncomputable def x15_0 : Xc gam (List Bool) := (.one (.exit 0) { slots := [3], rows := [((3, none), 7000000399, .bool)], boxes := [], tombs := [] } (.pairU (.consU (.ow gam 7000000399) (.nil _)) (.consL (.row gam .bool 0) (.nil _))))
noncomputable def b15_1 : Code := (loopsIn b15).getD 1 .skip
noncomputable def kp15_1 : Keep := { slots := [0, 3, 4, 17, 18, 19], rows := [((3, none), 7000000399, .bool)], boxes := [], tombs := [] }
noncomputable def c15_1 : Co (List (EV gam) × List (Ent gam)) (((List S38) × (Bool × ((List S38) × (Int × Int)))) × (List Bool)) := (.pair (.cons (.d gam (.sl (.st 38))) (.consU (.ow gam 7000000399) (.cons (.d gam .bool) (.cons (.d gam (.sl (.st 38))) (.cons (.d gam (.int .i64)) (.consL (.d gam (.int .i64)) (.nil _))))))) (.consL (.row gam .bool 0) (.nil _)))
noncomputable def x15_1 : Xc gam (((List S38) × Bool) × (List Bool)) := (.one (.exit 2) { slots := [0, 3, 4], rows := [((3, none), 7000000399, .bool)], boxes := [], tombs := [] } (.pair (.cons (.d gam (.sl (.st 38))) (.consU (.ow gam 7000000399) (.consL (.d gam .bool) (.nil _)))) (.consL (.row gam .bool 0) (.nil _))))
noncomputable def b15_2 : Code := (loopsIn b15).getD 2 .skip
noncomputable def kp15_2 : Keep := { slots := [0, 3, 4, 5, 6, 7, 17, 18, 19, 25, 26, 27], rows := [((3, none), 7000000399, .bool)], boxes := [9004000], tombs := [] }
noncomputable def c15_2 : Co (List (EV gam) × List (Ent gam)) (((List S38) × (Bool × (Int × (Int × ((List S38) × (Int × (Int × ((List Int) × (Int × Int))))))))) × ((Int × (List Int)) × (List Bool))) := (.pair (.cons (.d gam (.sl (.st 38))) (.consU (.ow gam 7000000399) (.cons (.d gam .bool) (.cons (.d gam (.int .i64)) (.consU (.ptr gam 9004000 0) (.cons (.d gam (.int .i64)) (.cons (.d gam (.sl (.st 38))) (.cons (.d gam (.int .i64)) (.cons (.d gam (.int .i64)) (.cons (.d gam (.sl (.int .i64))) (.cons (.d gam (.int .i64)) (.consL (.d gam (.int .i64)) (.nil _))))))))))))) (.cons (.box (.cons (.d gam (.int .i64)) (.consL (.d gam (.sl (.int .i64))) (.nil _)))) (.consL (.row gam .bool 0) (.nil _))))
noncomputable def x15_2 : Xc gam (((List S38) × (Bool × (Int × (Int × ((List S38) × (Int × Int)))))) × ((Int × (List Int)) × (List Bool))) := (.one (.exit 4) { slots := [0, 3, 4, 5, 6, 7, 17, 18, 19], rows := [((3, none), 7000000399, .bool)], boxes := [9004000], tombs := [] } (.pair (.cons (.d gam (.sl (.st 38))) (.consU (.ow gam 7000000399) (.cons (.d gam .bool) (.cons (.d gam (.int .i64)) (.consU (.ptr gam 9004000 0) (.cons (.d gam (.int .i64)) (.cons (.d gam (.sl (.st 38))) (.cons (.d gam (.int .i64)) (.consL (.d gam (.int .i64)) (.nil _)))))))))) (.cons (.box (.cons (.d gam (.int .i64)) (.consL (.d gam (.sl (.int .i64))) (.nil _)))) (.consL (.row gam .bool 0) (.nil _)))))
noncomputable def t15_0 (n : Nat) : LoopT gam := loopT kp15_0 c15_0 x15_0 (iter (U15_0 n) n)
noncomputable def t15_1 (n : Nat) : LoopT gam := loopT kp15_1 c15_1 x15_1 (iter (U15_1 n) n)
noncomputable def t15_2 (n : Nat) : LoopT gam := loopT kp15_2 c15_2 x15_2 (iter (U15_2 n) n)
noncomputable def e15 (n : Nat) : FnT gam := fnN [[some (.st 38)]] (fnT [] c15 r15 (fun x => F15 n x))
noncomputable def p15 (a : List (EV gam)) (l : List (Ent gam)) : Bool := (c15.dec (nilArgs [[some (.st 38)]] a, l)).isSome
noncomputable def env15 (n : Nat) : Env gam := { P := Try.prog, fns := lookU [(12, e12 n), (28, e28 n)], loops := lookU [(5, t15_0 n), (8, t15_1 n), (12, t15_2 n)], nt := 55, m := 0, keeps := [], eqs := [] }
theorem env15_ok (n : Nat) : EnvOK (env15 n) := .of _ rfl (by exact ⟨ok12 n, ok28 n, trivial⟩) (by exact fun t h => nomatch h) (by kernel_rfl)
theorem lin15_2 (n : Nat) : LoopsOK (env15 n) b15_2 := .of [] (by kernel_rfl) trivial
theorem lok15_2 (n : Nat) : LoopOK (env15 n) b15_2 (t15_2 n) := loopT_ok (env15_ok n) (lin15_2 n) (fun L x => by kernel_rfl) n
theorem lin15_1 (n : Nat) : LoopsOK (env15 n) b15_1 := .of [(b15_2, 12, t15_2 n)] (by kernel_rfl) ⟨by kernel_rfl, by kernel_rfl, lok15_2 n, trivial⟩
theorem lok15_1 (n : Nat) : LoopOK (env15 n) b15_1 (t15_1 n) := loopT_ok (env15_ok n) (lin15_1 n) (fun L x => by kernel_rfl) n
theorem lin15_0 (n : Nat) : LoopsOK (env15 n) b15_0 := .of [(b15_1, 8, t15_1 n), (b15_2, 12, t15_2 n)] (by kernel_rfl) ⟨by kernel_rfl, by kernel_rfl, lok15_1 n, by kernel_rfl, by kernel_rfl, lok15_2 n, trivial⟩
theorem lok15_0 (n : Nat) : LoopOK (env15 n) b15_0 (t15_0 n) := loopT_ok (env15_ok n) (lin15_0 n) (fun L x => by kernel_rfl) n
theorem lin15 (n : Nat) : LoopsOK (env15 n) b15 := .of [(b15_0, 5, t15_0 n), (b15_1, 8, t15_1 n), (b15_2, 12, t15_2 n)] (by kernel_rfl) ⟨by kernel_rfl, by kernel_rfl, lok15_0 n, by kernel_rfl, by kernel_rfl, lok15_1 n, by kernel_rfl, by kernel_rfl, lok15_2 n, trivial⟩
theorem eq15 (n : Nat) (x : List S38) : (F15 n x) = fnE (env15 n) Try.f15 [[.dat (.int .i64)]] none c15 r15 x := by kernel_rfl
theorem okt15 (n : Nat) : FnOK Try.prog 15 (fnT (G := gam) [] c15 r15 (fun x => F15 n x)) := fnT_ok (env15_ok n) (by kernel_rfl) (by kernel_rfl) (by kernel_rfl) (b := b15) (by kernel_rfl) (fun x => by kernel_rfl) (lin15 n) (eq15 n)
theorem ok15 (n : Nat) : FnOK Try.prog 15 (e15 n) := fnN_ok (okt15 n)
/-! ### waitgraph.Reach -/
noncomputable def F17 (n : Nat) (a0 : List S38) (a1 : Int) : Option (List Int) :=
  (Option.bind (F29 n a0 a1) fun y1 =>
  (bif (bNot y1) then
    (some ([] : List Int))
  else
    (Option.bind (F31 n a0 a1) fun y2 =>
    (Option.bind (F30 n y2 true) fun y3 =>
    (some y3)))))
noncomputable def c17 : Co (List (EV gam) × List (Ent gam)) ((List S38) × Int) := (.pairL (.cons (.d gam (.sl (.st 38))) (.consL (.d gam (.int .i64)) (.nil _))) (.nil _))
noncomputable def r17 : Co (EV gam × List (Ent gam) × List (Ent gam)) (List Int) := (.pairL (.d gam (.sl (.int .i64))) (.pairU (.nil _) (.nil _)))
noncomputable def b17 : Code := (Try.f17.body).getD .skip
noncomputable def e17 (n : Nat) : FnT gam := fnN [[some (.st 38)]] (fnT [] c17 r17 (fun x => F17 n x.1 x.2))
noncomputable def p17 (a : List (EV gam)) (l : List (Ent gam)) : Bool := (c17.dec (nilArgs [[some (.st 38)]] a, l)).isSome
noncomputable def env17 (n : Nat) : Env gam := { P := Try.prog, fns := lookU [(29, e29 n), (30, e30 n), (31, e31 n)], loops := lookU [], nt := 15, m := 0, keeps := [], eqs := [] }
theorem env17_ok (n : Nat) : EnvOK (env17 n) := .of _ rfl (by exact ⟨ok29 n, ok30 n, ok31 n, trivial⟩) (by exact fun t h => nomatch h) (by kernel_rfl)
theorem lin17 (n : Nat) : LoopsOK (env17 n) b17 := .of [] (by kernel_rfl) trivial
theorem eq17 (n : Nat) (x : (List S38) × Int) : (F17 n x.1 x.2) = fnE (env17 n) Try.f17 [[.dat (.int .i64)]] none c17 r17 x := by kernel_rfl
theorem okt17 (n : Nat) : FnOK Try.prog 17 (fnT (G := gam) [] c17 r17 (fun x => F17 n x.1 x.2)) := fnT_ok (env17_ok n) (by kernel_rfl) (by kernel_rfl) (by kernel_rfl) (b := b17) (by kernel_rfl) (fun x => by kernel_rfl) (lin17 n) (eq17 n)
theorem ok17 (n : Nat) : FnOK Try.prog 17 (e17 n) := fnN_ok (okt17 n)
/-! ### clusterlockslaw19.awake -/
noncomputable def F11 (n : Nat) (_ : Unit) : Option Bool :=
  (Option.bind (F19 n [(S38.mk (1 : Int) [(1 : Int)]), (S38.mk (1 : Int) [(0 : Int)])] (1 : Int)) fun y1 =>
  (Option.bind (F22 n [(S38.mk (1 : Int) [(1 : Int)]), (S38.mk (1 : Int) [(0 : Int)])]) fun y2 =>
  (Option.bind (F12 n [(S38.mk (1 : Int) [(1 : Int)]), (S38.mk (1 : Int) [(0 : Int)])]) fun y3 =>
  (bif y3 then
    (Option.bind (F15 n [(S38.mk (1 : Int) [(1 : Int)]), (S38.mk (1 : Int) [(0 : Int)])]) fun y4 =>
    (bif (((List.length y4 : Nat) : Int) == (2 : Int)) then
      (bif (((List.length y1 : Nat) : Int) == (2 : Int)) then
        (Option.bind (ixo y1 (0 : Int)) fun y5 =>
        (bif (y5 == (1 : Int)) then
          (Option.bind (F15 n [(S38.mk (1 : Int) [(1 : Int), (2 : Int)]), (S38.mk (1 : Int) [(0 : Int)]), (S38.mk (0 : Int) ([] : List Int))]) fun y6 =>
          (bif (((List.length y6 : Nat) : Int) == (0 : Int)) then
            (Option.bind (F22 n [(S38.mk (1 : Int) [(1 : Int), (2 : Int)]), (S38.mk (1 : Int) [(0 : Int)]), (S38.mk (0 : Int) ([] : List Int))]) fun y7 =>
            (bif (((List.length y7 : Nat) : Int) == (0 : Int)) then
              (bif (((List.length y2 : Nat) : Int) == (1 : Int)) then
                (Option.bind (ixo y2 (0 : Int)) fun y8 =>
                (bif (((List.length y8 : Nat) : Int) == (2 : Int)) then
                  (Option.bind (F17 n [(S38.mk (1 : Int) [(1 : Int), (2 : Int)]), (S38.mk (1 : Int) [(0 : Int)]), (S38.mk (0 : Int) ([] : List Int))] (0 : Int)) fun y9 =>
                  (some (((List.length y9 : Nat) : Int) == (3 : Int))))
                else
                  (some false)))
              else
                (some false))
            else
              (some false)))
          else
            (some false)))
        else
          (some false)))
      else
        (some false))
    else
      (some false)))
  else
    (some false)))))
noncomputable def c11 : Co (List (EV gam) × List (Ent gam)) Unit := (.pairU (.nil _) (.nil _))
noncomputable def r11 : Co (EV gam × List (Ent gam) × List (Ent gam)) Bool := (.pairL (.d gam .bool) (.pairU (.nil _) (.nil _)))
noncomputable def b11 : Code := (Try.f11.body).getD .skip
noncomputable def e11 (n : Nat) : FnT gam := fnN [] (fnT [] c11 r11 (fun x => F11 n ()))
noncomputable def p11 (a : List (EV gam)) (l : List (Ent gam)) : Bool := (c11.dec (nilArgs [] a, l)).isSome
noncomputable def env11 (n : Nat) : Env gam := { P := Try.prog, fns := lookU [(12, e12 n), (15, e15 n), (17, e17 n), (19, e19 n), (22, e22 n)], loops := lookU [], nt := 69, m := 0, keeps := [], eqs := [] }
theorem env11_ok (n : Nat) : EnvOK (env11 n) := .of _ rfl (by exact ⟨ok12 n, ok15 n, ok17 n, ok19 n, ok22 n, trivial⟩) (by exact fun t h => nomatch h) (by kernel_rfl)
theorem lin11 (n : Nat) : LoopsOK (env11 n) b11 := .of [] (by kernel_rfl) trivial
theorem eq11 (n : Nat) (x : Unit) : (F11 n ()) = fnE (env11 n) Try.f11 [[.asis]] none c11 r11 x := by kernel_rfl
theorem okt11 (n : Nat) : FnOK Try.prog 11 (fnT (G := gam) [] c11 r11 (fun x => F11 n ())) := fnT_ok (env11_ok n) (by kernel_rfl) (by kernel_rfl) (by kernel_rfl) (b := b11) (by kernel_rfl) (fun x => by kernel_rfl) (lin11 n) (eq11 n)
theorem ok11 (n : Nat) : FnOK Try.prog 11 (e11 n) := fnN_ok (okt11 n)
/-! ### clusterlocksref19.Valid -/
noncomputable def S13_1 (n : Nat) (L : (List S38) → Int → Int → Option (((List S38) × Int) ⊕ Bool)) (a0 : List S38) (a1 : Int) (a2 : Int) : Option (((List S38) × Int) ⊕ Bool) :=
  (Option.bind (ixo a0 a1) fun y1 =>
  (bif (decide (a2 < ((List.length y1.Next : Nat) : Int))) then
    (Option.bind (ixo a0 a1) fun y2 =>
    (Option.bind (ixo y2.Next a2) fun y3 =>
    (bif (decide (y3 < (0 : Int))) then
      (some (.inr false))
    else
      (Option.bind (ixo a0 a1) fun y4 =>
      (Option.bind (ixo y4.Next a2) fun y5 =>
      (bif (decide (y5 ≥ ((List.length a0 : Nat) : Int))) then
        (some (.inr false))
      else
        (bif (decide (a2 > (0 : Int))) then
          (Option.bind (ixo a0 a1) fun y6 =>
          (Option.bind (ixo y6.Next (IntKind.wrap .i64 (a2 - (1 : Int)))) fun y7 =>
          (Option.bind (ixo a0 a1) fun y8 =>
          (Option.bind (ixo y8.Next a2) fun y9 =>
          (bif (decide (y7 ≥ y9)) then (some (.inr false)) else (L a0 a1 (IntKind.wrap .i64 (a2 + (1 : Int)))))))))
        else
          (L a0 a1 (IntKind.wrap .i64 (a2 + (1 : Int)))))))))))
  else
    (some (.inl (a0, a1)))))
noncomputable def U13_1 (n : Nat) (L : ((List S38) × (Int × Int)) → Option (((List S38) × Int) ⊕ Bool)) (x : (List S38) × (Int × Int)) : Option (((List S38) × Int) ⊕ Bool) := S13_1 n (fun a0 a1 a2 => L (a0, (a1, a2))) x.1 x.2.1 x.2.2
noncomputable def L13_1 (n : Nat) (a0 : List S38) (a1 : Int) (a2 : Int) : Option (((List S38) × Int) ⊕ Bool) := iter (U13_1 n) n (a0, (a1, a2))
noncomputable def S13_0 (n : Nat) (L : (List S38) → Int → Option (Unit ⊕ Bool)) (a0 : List S38) (a1 : Int) : Option (Unit ⊕ Bool) :=
  (bif (decide (a1 < ((List.length a0 : Nat) : Int))) then
    (Option.bind (ixo a0 a1) fun y1 =>
    (bif (decide (((List.length y1.Next : Nat) : Int) > (160 : Int))) then
      (some (.inr false))
    else
      (Option.bind (ixo a0 a1) fun y2 =>
      (bif (decide (y2.K < (0 : Int))) then
        (some (.inr false))
      else
        (Option.bind (ixo a0 a1) fun y3 =>
        (Option.bind (ixo a0 a1) fun y4 =>
        (bif (decide (y3.K > ((List.length y4.Next : Nat) : Int))) then
          (some (.inr false))
        else
          (Option.bind (ixo a0 a1) fun y5 =>
          (bif (y5.K == (0 : Int)) then
            (Option.bind (ixo a0 a1) fun y6 =>
            (bif (decide (((List.length y6.Next : Nat) : Int) > (0 : Int))) then
              (some (.inr false))
            else
              (Option.bind (L13_1 n a0 a1 (0 : Int)) fun y7 =>
              (Sum.elim (fun y8 => (L y8.1 (IntKind.wrap .i64 (y8.2 + (1 : Int))))) (fun y9 => (some (.inr y9))) y7))))
          else
            (Option.bind (L13_1 n a0 a1 (0 : Int)) fun y10 =>
            (Sum.elim (fun y11 => (L y11.1 (IntKind.wrap .i64 (y11.2 + (1 : Int))))) (fun y12 => (some (.inr y12))) y10)))))))))))
  else
    (some (.inl ())))
noncomputable def U13_0 (n : Nat) (L : ((List S38) × Int) → Option (Unit ⊕ Bool)) (x : (List S38) × Int) : Option (Unit ⊕ Bool) := S13_0 n (fun a0 a1 => L (a0, a1)) x.1 x.2
noncomputable def L13_0 (n : Nat) (a0 : List S38) (a1 : Int) : Option (Unit ⊕ Bool) := iter (U13_0 n) n (a0, a1)
noncomputable def F13 (n : Nat) (a0 : List S38) : Option Bool :=
  (bif (decide (((List.length a0 : Nat) : Int) > (160 : Int))) then
    (some false)
  else
    (Option.bind (L13_0 n a0 (0 : Int)) fun y1 =>
    (Sum.elim (fun y2 => (some true)) (fun y3 => (some y3)) y1)))
noncomputable def c13 : Co (List (EV gam) × List (Ent gam)) (List S38) := (.pairL (.consL (.d gam (.sl (.st 38))) (.nil _)) (.nil _))
noncomputable def r13 : Co (EV gam × List (Ent gam) × List (Ent gam)) Bool := (.pairL (.d gam .bool) (.pairU (.nil _) (.nil _)))
noncomputable def b13 : Code := (Try.f13.body).getD .skip
noncomputable def b13_0 : Code := (loopsIn b13).getD 0 .skip
noncomputable def kp13_0 : Keep := { slots := [0, 3], rows := [], boxes := [], tombs := [] }
noncomputable def c13_0 : Co (List (EV gam) × List (Ent gam)) ((List S38) × Int) := (.pairL (.cons (.d gam (.sl (.st 38))) (.consL (.d gam (.int .i64)) (.nil _))) (.nil _))
noncomputable def x13_0 : Xc gam (Unit ⊕ Bool) := (.or (.one (.exit 0) { slots := [], rows := [], boxes := [], tombs := [] } (.pairU (.nil _) (.nil _))) (.one .ret { slots := [2], rows := [], boxes := [], tombs := [] } (.pairL (.consL (.d gam .bool) (.nil _)) (.nil _))))
noncomputable def b13_1 : Code := (loopsIn b13).getD 1 .skip
noncomputable def kp13_1 : Keep := { slots := [0, 3, 4], rows := [], boxes := [], tombs := [] }
noncomputable def c13_1 : Co (List (EV gam) × List (Ent gam)) ((List S38) × (Int × Int)) := (.pairL (.cons (.d gam (.sl (.st 38))) (.cons (.d gam (.int .i64)) (.consL (.d gam (.int .i64)) (.nil _)))) (.nil _))
noncomputable def x13_1 : Xc gam (((List S38) × Int) ⊕ Bool) := (.or (.one (.exit 2) { slots := [0, 3], rows := [], boxes := [], tombs := [] } (.pairL (.cons (.d gam (.sl (.st 38))) (.consL (.d gam (.int .i64)) (.nil _))) (.nil _))) (.one .ret { slots := [2], rows := [], boxes := [], tombs := [] } (.pairL (.consL (.d gam .bool) (.nil _)) (.nil _))))
noncomputable def t13_0 (n : Nat) : LoopT gam := loopT kp13_0 c13_0 x13_0 (iter (U13_0 n) n)
noncomputable def t13_1 (n : Nat) : LoopT gam := loopT kp13_1 c13_1 x13_1 (iter (U13_1 n) n)
noncomputable def e13 (n : Nat) : FnT gam := fnN [[some (.st 38)]] (fnT [] c13 r13 (fun x => F13 n x))
noncomputable def p13 (a : List (EV gam)) (l : List (Ent gam)) : Bool := (c13.dec (nilArgs [[some (.st 38)]] a, l)).isSome
noncomputable def env13 (n : Nat) : Env gam := { P := Try.prog, fns := lookU [], loops := lookU [(4, t13_0 n), (9, t13_1 n)], nt := 116, m := 0, keeps := [], eqs := [] }
theorem env13_ok (n : Nat) : EnvOK (env13 n) := .of _ rfl (by exact trivial) (by exact fun t h => nomatch h) (by kernel_rfl)
theorem lin13_1 (n : Nat) : LoopsOK (env13 n) b13_1 := .of [] (by kernel_rfl) trivial
theorem lok13_1 (n : Nat) : LoopOK (env13 n) b13_1 (t13_1 n) := loopT_ok (env13_ok n) (lin13_1 n) (fun L x => by kernel_rfl) n
theorem lin13_0 (n : Nat) : LoopsOK (env13 n) b13_0 := .of [(b13_1, 9, t13_1 n)] (by kernel_rfl) ⟨by kernel_rfl, by kernel_rfl, lok13_1 n, trivial⟩
theorem lok13_0 (n : Nat) : LoopOK (env13 n) b13_0 (t13_0 n) := loopT_ok (env13_ok n) (lin13_0 n) (fun L x => by kernel_rfl) n
theorem lin13 (n : Nat) : LoopsOK (env13 n) b13 := .of [(b13_0, 4, t13_0 n), (b13_1, 9, t13_1 n)] (by kernel_rfl) ⟨by kernel_rfl, by kernel_rfl, lok13_0 n, by kernel_rfl, by kernel_rfl, lok13_1 n, trivial⟩
theorem eq13 (n : Nat) (x : List S38) : (F13 n x) = fnE (env13 n) Try.f13 [[.asis]] none c13 r13 x := by kernel_rfl
theorem okt13 (n : Nat) : FnOK Try.prog 13 (fnT (G := gam) [] c13 r13 (fun x => F13 n x)) := fnT_ok (env13_ok n) (by kernel_rfl) (by kernel_rfl) (by kernel_rfl) (b := b13) (by kernel_rfl) (fun x => by kernel_rfl) (lin13 n) (eq13 n)
theorem ok13 (n : Nat) : FnOK Try.prog 13 (e13 n) := fnN_ok (okt13 n)
/-! ### clusterlocksref19.Stuck -/
noncomputable def S16_3 (n : Nat) (L : (List S38) → Int → (List Bool) → (List Int) → Option (List Int)) (a0 : List S38) (a1 : Int) (a2 : List Bool) (a3 : List Int) : Option (List Int) :=
  (bif (decide (a1 < ((List.length a0 : Nat) : Int))) then
    (bif (decide (0 ≤ a1) && decide (a1 < ((List.length a2 : Nat) : Int))) then
      (Option.bind (a2[(Int.toNat a1)]?) fun y1 =>
      (bif (bNot y1) then
        (bif (appOK (List.length a3) (List.length [a1]) 8) then
          (L a0 (IntKind.wrap .i64 (a1 + (1 : Int))) a2 (a3 ++ [a1]))
        else
          none)
      else
        (L a0 (IntKind.wrap .i64 (a1 + (1 : Int))) a2 a3)))
    else
      none)
  else
    (some a3))
noncomputable def U16_3 (n : Nat) (L : (((List S38) × Int) × ((List Bool) × (List Int))) → Option (List Int)) (x : ((List S38) × Int) × ((List Bool) × (List Int))) : Option (List Int) := S16_3 n (fun a0 a1 a2 a3 => L ((a0, a1), (a2, a3))) x.1.1 x.1.2 x.2.1 x.2.2
noncomputable def L16_3 (n : Nat) (a0 : List S38) (a1 : Int) (a2 : List Bool) (a3 : List Int) : Option (List Int) := iter (U16_3 n) n ((a0, a1), (a2, a3))
noncomputable def S16_2 (n : Nat) (L : (List S38) → Bool → Int → Int → Int → (List Bool) → Option (((List S38) × (Bool × (Int × Int))) × (List Bool))) (a0 : List S38) (a1 : Bool) (a2 : Int) (a3 : Int) (a4 : Int) (a5 : List Bool) : Option (((List S38) × (Bool × (Int × Int))) × (List Bool)) :=
  (Option.bind (ixo a0 a2) fun y1 =>
  (bif (decide (a4 < ((List.length y1.Next : Nat) : Int))) then
    (Option.bind (ixo a0 a2) fun y2 =>
    (Option.bind (ixo y2.Next a4) fun y3 =>
    (bif (decide (0 ≤ y3) && decide (y3 < ((List.length a5 : Nat) : Int))) then
      (Option.bind (a5[(Int.toNat y3)]?) fun y4 =>
      (bif y4 then
        (L a0 a1 a2 (IntKind.wrap .i64 (a3 + (1 : Int))) (IntKind.wrap .i64 (a4 + (1 : Int))) a5)
      else
        (L a0 a1 a2 a3 (IntKind.wrap .i64 (a4 + (1 : Int))) a5)))
    else
      none)))
  else
    (some ((a0, (a1, (a2, a3))), a5))))
noncomputable def U16_2 (n : Nat) (L : (((List S38) × (Bool × (Int × (Int × Int)))) × (List Bool)) → Option (((List S38) × (Bool × (Int × Int))) × (List Bool))) (x : ((List S38) × (Bool × (Int × (Int × Int)))) × (List Bool)) : Option (((List S38) × (Bool × (Int × Int))) × (List Bool)) := S16_2 n (fun a0 a1 a2 a3 a4 a5 => L ((a0, (a1, (a2, (a3, a4)))), a5)) x.1.1 x.1.2.1 x.1.2.2.1 x.1.2.2.2.1 x.1.2.2.2.2 x.2
noncomputable def L16_2 (n : Nat) (a0 : List S38) (a1 : Bool) (a2 : Int) (a3 : Int) (a4 : Int) (a5 : List Bool) : Option (((List S38) × (Bool × (Int × Int))) × (List Bool)) := iter (U16_2 n) n ((a0, (a1, (a2, (a3, a4)))), a5)
noncomputable def S16_1 (n : Nat) (L : (List S38) → Bool → Int → (List Bool) → Option (((List S38) × Bool) × (List Bool))) (a0 : List S38) (a1 : Bool) (a2 : Int) (a3 : List Bool) : Option (((List S38) × Bool) × (List Bool)) :=
  (bif (decide (a2 < ((List.length a0 : Nat) : Int))) then
    (Option.bind (L16_2 n a0 a1 a2 (0 : Int) (0 : Int) a3) fun y1 =>
    (bif (decide (0 ≤ y1.1.2.2.1) && decide (y1.1.2.2.1 < ((List.length y1.2 : Nat) : Int))) then
      (Option.bind (y1.2[(Int.toNat y1.1.2.2.1)]?) fun y2 =>
      (bif (bNot y2) then
        (Option.bind (ixo y1.1.1 y1.1.2.2.1) fun y3 =>
        (bif (decide (y1.1.2.2.2 ≥ y3.K)) then
          (bif (decide (0 ≤ y1.1.2.2.1) && decide (y1.1.2.2.1 < ((List.length y1.2 : Nat) : Int))) then
            (L y1.1.1 true (IntKind.wrap .i64 (y1.1.2.2.1 + (1 : Int))) (List.set y1.2 (Int.toNat y1.1.2.2.1) true))
          else
            none)
        else
          (L y1.1.1 y1.1.2.1 (IntKind.wrap .i64 (y1.1.2.2.1 + (1 : Int))) y1.2)))
      else
        (L y1.1.1 y1.1.2.1 (IntKind.wrap .i64 (y1.1.2.2.1 + (1 : Int))) y1.2)))
    else
      none))
  else
    (some ((a0, a1), a3)))
noncomputable def U16_1 (n : Nat) (L : (((List S38) × (Bool × Int)) × (List Bool)) → Option (((List S38) × Bool) × (List Bool))) (x : ((List S38) × (Bool × Int)) × (List Bool)) : Option (((List S38) × Bool) × (List Bool)) := S16_1 n (fun a0 a1 a2 a3 => L ((a0, (a1, a2)), a3)) x.1.1 x.1.2.1 x.1.2.2 x.2
noncomputable def L16_1 (n : Nat) (a0 : List S38) (a1 : Bool) (a2 : Int) (a3 : List Bool) : Option (((List S38) × Bool) × (List Bool)) := iter (U16_1 n) n ((a0, (a1, a2)), a3)
noncomputable def S16_0 (n : Nat) (L : (List S38) → Bool → (List Bool) → Option ((List S38) × (List Bool))) (a0 : List S38) (a1 : Bool) (a2 : List Bool) : Option ((List S38) × (List Bool)) :=
  (bif a1 then
    (Option.bind (L16_1 n a0 false (0 : Int) a2) fun y1 =>
    (L y1.1.1 y1.1.2 y1.2))
  else
    (some (a0, a2)))
noncomputable def U16_0 (n : Nat) (L : (((List S38) × Bool) × (List Bool)) → Option ((List S38) × (List Bool))) (x : ((List S38) × Bool) × (List Bool)) : Option ((List S38) × (List Bool)) := S16_0 n (fun a0 a1 a2 => L ((a0, a1), a2)) x.1.1 x.1.2 x.2
noncomputable def L16_0 (n : Nat) (a0 : List S38) (a1 : Bool) (a2 : List Bool) : Option ((List S38) × (List Bool)) := iter (U16_0 n) n ((a0, a1), a2)
noncomputable def F16 (n : Nat) (a0 : List S38) : Option (List Int) :=
  (Option.bind (F13 n a0) fun y1 =>
  (bif (bNot y1) then
    (some ([] : List Int))
  else
    (bif (makeOK ((List.length a0 : Nat) : Int) ((List.length a0 : Nat) : Int) 1) then
      (Option.bind (L16_0 n a0 true (List.replicate (Int.toNat ((List.length a0 : Nat) : Int)) false)) fun y2 =>
      (Option.bind (L16_3 n y2.1 (0 : Int) y2.2 ([] : List Int)) fun y3 =>
      (some y3)))
    else
      none)))
noncomputable def c16 : Co (List (EV gam) × List (Ent gam)) (List S38) := (.pairL (.consL (.d gam (.sl (.st 38))) (.nil _)) (.nil _))
noncomputable def r16 : Co (EV gam × List (Ent gam) × List (Ent gam)) (List Int) := (.pairL (.d gam (.sl (.int .i64))) (.pairU (.nil _) (.nil _)))
noncomputable def b16 : Code := (Try.f16.body).getD .skip
noncomputable def b16_0 : Code := (loopsIn b16).getD 0 .skip
noncomputable def kp16_0 : Keep := { slots := [0, 3, 4], rows := [((3, none), 7000000399, .bool)], boxes := [], tombs := [] }
noncomputable def c16_0 : Co (List (EV gam) × List (Ent gam)) (((List S38) × Bool) × (List Bool)) := (.pair (.cons (.d gam (.sl (.st 38))) (.consU (.ow gam 7000000399) (.consL (.d gam .bool) (.nil _)))) (.consL (.row gam .bool 0) (.nil _)))
noncomputable def x16_0 : Xc gam ((List S38) × (List Bool)) := (.one (.exit 0) { slots := [0, 3], rows := [((3, none), 7000000399, .bool)], boxes := [], tombs := [] } (.pair (.consL (.d gam (.sl (.st 38))) (.consU (.ow gam 7000000399) (.nil _))) (.consL (.row gam .bool 0) (.nil _))))
noncomputable def b16_1 : Code := (loopsIn b16).getD 1 .skip
noncomputable def kp16_1 : Keep := { slots := [0, 3, 4, 5], rows := [((3, none), 7000000399, .bool)], boxes := [], tombs := [] }
noncomputable def c16_1 : Co (List (EV gam) × List (Ent gam)) (((List S38) × (Bool × Int)) × (List Bool)) := (.pair (.cons (.d gam (.sl (.st 38))) (.consU (.ow gam 7000000399) (.cons (.d gam .bool) (.consL (.d gam (.int .i64)) (.nil _))))) (.consL (.row gam .bool 0) (.nil _)))
noncomputable def x16_1 : Xc gam (((List S38) × Bool) × (List Bool)) := (.one (.exit 2) { slots := [0, 3, 4], rows := [((3, none), 7000000399, .bool)], boxes := [], tombs := [] } (.pair (.cons (.d gam (.sl (.st 38))) (.consU (.ow gam 7000000399) (.consL (.d gam .bool) (.nil _)))) (.consL (.row gam .bool 0) (.nil _))))
noncomputable def b16_2 : Code := (loopsIn b16).getD 2 .skip
noncomputable def kp16_2 : Keep := { slots := [0, 3, 4, 5, 6, 7], rows := [((3, none), 7000000399, .bool)], boxes := [], tombs := [] }
noncomputable def c16_2 : Co (List (EV gam) × List (Ent gam)) (((List S38) × (Bool × (Int × (Int × Int)))) × (List Bool)) := (.pair (.cons (.d gam (.sl (.st 38))) (.consU (.ow gam 7000000399) (.cons (.d gam .bool) (.cons (.d gam (.int .i64)) (.cons (.d gam (.int .i64)) (.consL (.d gam (.int .i64)) (.nil _))))))) (.consL (.row gam .bool 0) (.nil _)))
noncomputable def x16_2 : Xc gam (((List S38) × (Bool × (Int × Int))) × (List Bool)) := (.one (.exit 4) { slots := [0, 3, 4, 5, 6], rows := [((3, none), 7000000399, .bool)], boxes := [], tombs := [] } (.pair (.cons (.d gam (.sl (.st 38))) (.consU (.ow gam 7000000399) (.cons (.d gam .bool) (.cons (.d gam (.int .i64)) (.consL (.d gam (.int .i64)) (.nil _)))))) (.consL (.row gam .bool 0) (.nil _))))
noncomputable def b16_3 : Code := (loopsIn b16).getD 3 .skip
noncomputable def kp16_3 : Keep := { slots := [0, 3, 8, 9], rows := [((3, none), 7000000399, .bool), ((8, none), 7000000899, (.int .i64))], boxes := [], tombs := [] }
noncomputable def c16_3 : Co (List (EV gam) × List (Ent gam)) (((List S38) × Int) × ((List Bool) × (List Int))) := (.pair (.cons (.d gam (.sl (.st 38))) (.consU (.ow gam 7000000399) (.consU (.ow gam 7000000899) (.consL (.d gam (.int .i64)) (.nil _))))) (.cons (.row gam .bool 0) (.consL (.row gam (.int .i64) 0) (.nil _))))
noncomputable def x16_3 : Xc gam (List Int) := (.one (.exit 6) { slots := [8], rows := [((8, none), 7000000899, (.int .i64))], boxes := [], tombs := [] } (.pairU (.consU (.ow gam 7000000899) (.nil _)) (.consL (.row gam (.int .i64) 0) (.nil _))))
noncomputable def t16_0 (n : Nat) : LoopT gam := loopT kp16_0 c16_0 x16_0 (iter (U16_0 n) n)
noncomputable def t16_1 (n : Nat) : LoopT gam := loopT kp16_1 c16_1 x16_1 (iter (U16_1 n) n)
noncomputable def t16_2 (n : Nat) : LoopT gam := loopT kp16_2 c16_2 x16_2 (iter (U16_2 n) n)
noncomputable def t16_3 (n : Nat) : LoopT gam := loopT kp16_3 c16_3 x16_3 (iter (U16_3 n) n)
noncomputable def e16 (n : Nat) : FnT gam := fnN [[some (.st 38)]] (fnT [] c16 r16 (fun x => F16 n x))
noncomputable def p16 (a : List (EV gam)) (l : List (Ent gam)) : Bool := (c16.dec (nilArgs [[some (.st 38)]] a, l)).isSome
noncomputable def env16 (n : Nat) : Env gam := { P := Try.prog, fns := lookU [(13, e13 n)], loops := lookU [(5, t16_0 n), (8, t16_1 n), (12, t16_2 n), (20, t16_3 n)], nt := 79, m := 0, keeps := [], eqs := [] }
theorem env16_ok (n : Nat) : EnvOK (env16 n) := .of _ rfl (by exact ⟨ok13 n, trivial⟩) (by exact fun t h => nomatch h) (by kernel_rfl)
theorem lin16_3 (n : Nat) : LoopsOK (env16 n) b16_3 := .of [] (by kernel_rfl) trivial
theorem lok16_3 (n : Nat) : LoopOK (env16 n) b16_3 (t16_3 n) := loopT_ok (env16_ok n) (lin16_3 n) (fun L x => by kernel_rfl) n
theorem lin16_2 (n : Nat) : LoopsOK (env16 n) b16_2 := .of [] (by kernel_rfl) trivial
theorem lok16_2 (n : Nat) : LoopOK (env16 n) b16_2 (t16_2 n) := loopT_ok (env16_ok n) (lin16_2 n) (fun L x => by kernel_rfl) n
theorem lin16_1 (n : Nat) : LoopsOK (env16 n) b16_1 := .of [(b16_2, 12, t16_2 n)] (by kernel_rfl) ⟨by kernel_rfl, by kernel_rfl, lok16_2 n, trivial⟩
theorem lok16_1 (n : Nat) : LoopOK (env16 n) b16_1 (t16_1 n) := loopT_ok (env16_ok n) (lin16_1 n) (fun L x => by kernel_rfl) n
theorem lin16_0 (n : Nat) : LoopsOK (env16 n) b16_0 := .of [(b16_1, 8, t16_1 n), (b16_2, 12, t16_2 n)] (by kernel_rfl) ⟨by kernel_rfl, by kernel_rfl, lok16_1 n, by kernel_rfl, by kernel_rfl, lok16_2 n, trivial⟩
theorem lok16_0 (n : Nat) : LoopOK (env16 n) b16_0 (t16_0 n) := loopT_ok (env16_ok n) (lin16_0 n) (fun L x => by kernel_rfl) n
theorem lin16 (n : Nat) : LoopsOK (env16 n) b16 := .of [(b16_0, 5, t16_0 n), (b16_1, 8, t16_1 n), (b16_2, 12, t16_2 n), (b16_3, 20, t16_3 n)] (by kernel_rfl) ⟨by kernel_rfl, by kernel_rfl, lok16_0 n, by kernel_rfl, by kernel_rfl, lok16_1 n, by kernel_rfl, by kernel_rfl, lok16_2 n, by kernel_rfl, by kernel_rfl, lok16_3 n, trivial⟩
theorem eq16 (n : Nat) (x : List S38) : (F16 n x) = fnE (env16 n) Try.f16 [[.dat (.int .i64)]] none c16 r16 x := by kernel_rfl
theorem okt16 (n : Nat) : FnOK Try.prog 16 (fnT (G := gam) [] c16 r16 (fun x => F16 n x)) := fnT_ok (env16_ok n) (by kernel_rfl) (by kernel_rfl) (by kernel_rfl) (b := b16) (by kernel_rfl) (fun x => by kernel_rfl) (lin16 n) (eq16 n)
theorem ok16 (n : Nat) : FnOK Try.prog 16 (e16 n) := fnN_ok (okt16 n)
/-! ### clusterlocksref19.SameInts -/
noncomputable def S14_0 (n : Nat) (L : (List Int) → (List Int) → Int → Option (Unit ⊕ Bool)) (a0 : List Int) (a1 : List Int) (a2 : Int) : Option (Unit ⊕ Bool) :=
  (bif (decide (a2 < ((List.length a0 : Nat) : Int))) then
    (Option.bind (ixo a0 a2) fun y1 =>
    (Option.bind (ixo a1 a2) fun y2 =>
    (bif (y1 != y2) then (some (.inr false)) else (L a0 a1 (IntKind.wrap .i64 (a2 + (1 : Int)))))))
  else
    (some (.inl ())))
noncomputable def U14_0 (n : Nat) (L : ((List Int) × ((List Int) × Int)) → Option (Unit ⊕ Bool)) (x : (List Int) × ((List Int) × Int)) : Option (Unit ⊕ Bool) := S14_0 n (fun a0 a1 a2 => L (a0, (a1, a2))) x.1 x.2.1 x.2.2
noncomputable def L14_0 (n : Nat) (a0 : List Int) (a1 : List Int) (a2 : Int) : Option (Unit ⊕ Bool) := iter (U14_0 n) n (a0, (a1, a2))
noncomputable def F14 (n : Nat) (a0 : List Int) (a1 : List Int) : Option Bool :=
  (bif (((List.length a0 : Nat) : Int) != ((List.length a1 : Nat) : Int)) then
    (some false)
  else
    (Option.bind (L14_0 n a0 a1 (0 : Int)) fun y1 =>
    (Sum.elim (fun y2 => (some true)) (fun y3 => (some y3)) y1)))
noncomputable def c14 : Co (List (EV gam) × List (Ent gam)) ((List Int) × (List Int)) := (.pairL (.cons (.d gam (.sl (.int .i64))) (.consL (.d gam (.sl (.int .i64))) (.nil _))) (.nil _))
noncomputable def r14 : Co (EV gam × List (Ent gam) × List (Ent gam)) Bool := (.pairL (.d gam .bool) (.pairU (.nil _) (.nil _)))
noncomputable def b14 : Code := (Try.f14.body).getD .skip
noncomputable def b14_0 : Code := (loopsIn b14).getD 0 .skip
noncomputable def kp14_0 : Keep := { slots := [0, 1, 5], rows := [], boxes := [], tombs := [] }
noncomputable def c14_0 : Co (List (EV gam) × List (Ent gam)) ((List Int) × ((List Int) × Int)) := (.pairL (.cons (.d gam (.sl (.int .i64))) (.cons (.d gam (.sl (.int .i64))) (.consL (.d gam (.int .i64)) (.nil _)))) (.nil _))
noncomputable def x14_0 : Xc gam (Unit ⊕ Bool) := (.or (.one (.exit 0) { slots := [], rows := [], boxes := [], tombs := [] } (.pairU (.nil _) (.nil _))) (.one .ret { slots := [4], rows := [], boxes := [], tombs := [] } (.pairL (.consL (.d gam .bool) (.nil _)) (.nil _))))
noncomputable def t14_0 (n : Nat) : LoopT gam := loopT kp14_0 c14_0 x14_0 (iter (U14_0 n) n)
noncomputable def e14 (n : Nat) : FnT gam := fnN [[some (.int .i64)], [some (.int .i64)]] (fnT [] c14 r14 (fun x => F14 n x.1 x.2))
noncomputable def p14 (a : List (EV gam)) (l : List (Ent gam)) : Bool := (c14.dec (nilArgs [[some (.int .i64)], [some (.int .i64)]] a, l)).isSome
noncomputable def env14 (n : Nat) : Env gam := { P := Try.prog, fns := lookU [], loops := lookU [(4, t14_0 n)], nt := 26, m := 0, keeps := [], eqs := [] }
theorem env14_ok (n : Nat) : EnvOK (env14 n) := .of _ rfl (by exact trivial) (by exact fun t h => nomatch h) (by kernel_rfl)
theorem lin14_0 (n : Nat) : LoopsOK (env14 n) b14_0 := .of [] (by kernel_rfl) trivial
theorem lok14_0 (n : Nat) : LoopOK (env14 n) b14_0 (t14_0 n) := loopT_ok (env14_ok n) (lin14_0 n) (fun L x => by kernel_rfl) n
theorem lin14 (n : Nat) : LoopsOK (env14 n) b14 := .of [(b14_0, 4, t14_0 n)] (by kernel_rfl) ⟨by kernel_rfl, by kernel_rfl, lok14_0 n, trivial⟩
theorem eq14 (n : Nat) (x : (List Int) × (List Int)) : (F14 n x.1 x.2) = fnE (env14 n) Try.f14 [[.asis]] none c14 r14 x := by kernel_rfl
theorem okt14 (n : Nat) : FnOK Try.prog 14 (fnT (G := gam) [] c14 r14 (fun x => F14 n x.1 x.2)) := fnT_ok (env14_ok n) (by kernel_rfl) (by kernel_rfl) (by kernel_rfl) (b := b14) (by kernel_rfl) (fun x => by kernel_rfl) (lin14 n) (eq14 n)
theorem ok14 (n : Nat) : FnOK Try.prog 14 (e14 n) := fnN_ok (okt14 n)
/-! ### clusterlocksref19.Reach -/
noncomputable def S18_1 (n : Nat) (L : (List S38) → Int → (List Bool) → (List Int) → Option (List Int)) (a0 : List S38) (a1 : Int) (a2 : List Bool) (a3 : List Int) : Option (List Int) :=
  (bif (decide (a1 < ((List.length a0 : Nat) : Int))) then
    (bif (decide (0 ≤ a1) && decide (a1 < ((List.length a2 : Nat) : Int))) then
      (Option.bind (a2[(Int.toNat a1)]?) fun y1 =>
      (bif y1 then
        (bif (appOK (List.length a3) (List.length [a1]) 8) then
          (L a0 (IntKind.wrap .i64 (a1 + (1 : Int))) a2 (a3 ++ [a1]))
        else
          none)
      else
        (L a0 (IntKind.wrap .i64 (a1 + (1 : Int))) a2 a3)))
    else
      none)
  else
    (some a3))
noncomputable def U18_1 (n : Nat) (L : (((List S38) × Int) × ((List Bool) × (List Int))) → Option (List Int)) (x : ((List S38) × Int) × ((List Bool) × (List Int))) : Option (List Int) := S18_1 n (fun a0 a1 a2 a3 => L ((a0, a1), (a2, a3))) x.1.1 x.1.2 x.2.1 x.2.2
noncomputable def L18_1 (n : Nat) (a0 : List S38) (a1 : Int) (a2 : List Bool) (a3 : List Int) : Option (List Int) := iter (U18_1 n) n ((a0, a1), (a2, a3))
noncomputable def S18_0 (n : Nat) (L : (List S38) → (List Bool) → (List Int) → Option ((List S38) × (List Bool))) (a0 : List S38) (a1 : List Bool) (a2 : List Int) : Option ((List S38) × (List Bool)) :=
  (bif (decide (((List.length a2 : Nat) : Int) > (0 : Int))) then
    (bif (decide (0 ≤ (IntKind.wrap .i64 (((List.length a2 : Nat) : Int) - (1 : Int)))) && decide ((IntKind.wrap .i64 (((List.length a2 : Nat) : Int) - (1 : Int))) < ((List.length a2 : Nat) : Int))) then
      (Option.bind (a2[(Int.toNat (IntKind.wrap .i64 (((List.length a2 : Nat) : Int) - (1 : Int))))]?) fun y1 =>
      (bif (boundsE (List.length a2) none (some (IntKind.wrap .i64 (((List.length a2 : Nat) : Int) - (1 : Int))))) then
        (bif (decide (0 ≤ y1) && decide (y1 < ((List.length a1 : Nat) : Int))) then
          (Option.bind (a1[(Int.toNat y1)]?) fun y2 =>
          (bif (bNot y2) then
            (bif (decide (0 ≤ y1) && decide (y1 < ((List.length a1 : Nat) : Int))) then
              (Option.bind (ixo a0 y1) fun y3 =>
              (bif (appOK (List.length (List.take ((Int.toNat (IntKind.wrap .i64 (((List.length a2 : Nat) : Int) - (1 : Int)))) - 0) (List.drop 0 a2))) (List.length y3.Next) 8) then
                (L a0 (List.set a1 (Int.toNat y1) true) ((List.take ((Int.toNat (IntKind.wrap .i64 (((List.length a2 : Nat) : Int) - (1 : Int)))) - 0) (List.drop 0 a2)) ++ y3.Next))
              else
                none))
            else
              none)
          else
            (L a0 a1 (List.take ((Int.toNat (IntKind.wrap .i64 (((List.length a2 : Nat) : Int) - (1 : Int)))) - 0) (List.drop 0 a2)))))
        else
          none)
      else
        none))
    else
      none)
  else
    (some (a0, a1)))
noncomputable def U18_0 (n : Nat) (L : ((List S38) × ((List Bool) × (List Int))) → Option ((List S38) × (List Bool))) (x : (List S38) × ((List Bool) × (List Int))) : Option ((List S38) × (List Bool)) := S18_0 n (fun a0 a1 a2 => L (a0, (a1, a2))) x.1 x.2.1 x.2.2
noncomputable def L18_0 (n : Nat) (a0 : List S38) (a1 : List Bool) (a2 : List Int) : Option ((List S38) × (List Bool)) := iter (U18_0 n) n (a0, (a1, a2))
noncomputable def F18 (n : Nat) (a0 : List S38) (a1 : Int) : Option (List Int) :=
  (Option.bind (F13 n a0) fun y1 =>
  (bif (bNot y1) then
    (some ([] : List Int))
  else
    (bif (decide (a1 < (0 : Int))) then
      (some ([] : List Int))
    else
      (bif (decide (a1 ≥ ((List.length a0 : Nat) : Int))) then
        (some ([] : List Int))
      else
        (bif (makeOK ((List.length a0 : Nat) : Int) ((List.length a0 : Nat) : Int) 1) then
          (Option.bind (ixo a0 a1) fun y2 =>
          (bif (appOK (List.length ([] : List Int)) (List.length y2.Next) 8) then
            (Option.bind (L18_0 n a0 (List.replicate (Int.toNat ((List.length a0 : Nat) : Int)) false) (([] : List Int) ++ y2.Next)) fun y3 =>
            (Option.bind (L18_1 n y3.1 (0 : Int) y3.2 ([] : List Int)) fun y4 =>
            (some y4)))
          else
            none))
        else
          none)))))
noncomputable def c18 : Co (List (EV gam) × List (Ent gam)) ((List S38) × Int) := (.pairL (.cons (.d gam (.sl (.st 38))) (.consL (.d gam (.int .i64)) (.nil _))) (.nil _))
noncomputable def r18 : Co (EV gam × List (Ent gam) × List (Ent gam)) (List Int) := (.pairL (.d gam (.sl (.int .i64))) (.pairU (.nil _) (.nil _)))
noncomputable def b18 : Code := (Try.f18.body).getD .skip
noncomputable def b18_0 : Code := (loopsIn b18).getD 0 .skip
noncomputable def kp18_0 : Keep := { slots := [0, 5, 6], rows := [((5, none), 7000000599, .bool), ((6, none), 7000000699, (.int .i64))], boxes := [], tombs := [], cut := [(6, 8000000006)] }
noncomputable def c18_0 : Co (List (EV gam) × List (Ent gam)) ((List S38) × ((List Bool) × (List Int))) := (.pair (.consL (.d gam (.sl (.st 38))) (.consU (.ow gam 7000000599) (.consU (.ow gam 7000000699) (.nil _)))) (.cons (.row gam .bool 0) (.consL (.row gam (.int .i64) 0) (.nil _))))
noncomputable def x18_0 : Xc gam ((List S38) × (List Bool)) := (.one (.exit 0) { slots := [0, 5], rows := [((5, none), 7000000599, .bool)], boxes := [], tombs := [] } (.pair (.consL (.d gam (.sl (.st 38))) (.consU (.ow gam 7000000599) (.nil _))) (.consL (.row gam .bool 0) (.nil _))))
noncomputable def b18_1 : Code := (loopsIn b18).getD 1 .skip
noncomputable def kp18_1 : Keep := { slots := [0, 5, 8, 9], rows := [((5, none), 7000000599, .bool), ((8, none), 7000000899, (.int .i64))], boxes := [], tombs := [] }
noncomputable def c18_1 : Co (List (EV gam) × List (Ent gam)) (((List S38) × Int) × ((List Bool) × (List Int))) := (.pair (.cons (.d gam (.sl (.st 38))) (.consU (.ow gam 7000000599) (.consU (.ow gam 7000000899) (.consL (.d gam (.int .i64)) (.nil _))))) (.cons (.row gam .bool 0) (.consL (.row gam (.int .i64) 0) (.nil _))))
noncomputable def x18_1 : Xc gam (List Int) := (.one (.exit 2) { slots := [8], rows := [((8, none), 7000000899, (.int .i64))], boxes := [], tombs := [] } (.pairU (.consU (.ow gam 7000000899) (.nil _)) (.consL (.row gam (.int .i64) 0) (.nil _))))
noncomputable def t18_0 (n : Nat) : LoopT gam := loopT kp18_0 c18_0 x18_0 (iter (U18_0 n) n)
noncomputable def t18_1 (n : Nat) : LoopT gam := loopT kp18_1 c18_1 x18_1 (iter (U18_1 n) n)
noncomputable def e18 (n : Nat) : FnT gam := fnN [[some (.st 38)]] (fnT [] c18 r18 (fun x => F18 n x.1 x.2))
noncomputable def p18 (a : List (EV gam)) (l : List (Ent gam)) : Bool := (c18.dec (nilArgs [[some (.st 38)]] a, l)).isSome
noncomputable def env18 (n : Nat) : Env gam := { P := Try.prog, fns := lookU [(13, e13 n)], loops := lookU [(5, t18_0 n), (13, t18_1 n)], nt := 77, m := 0, keeps := [], eqs := [] }
theorem env18_ok (n : Nat) : EnvOK (env18 n) := .of _ rfl (by exact ⟨ok13 n, trivial⟩) (by exact fun t h => nomatch h) (by kernel_rfl)
theorem lin18_1 (n : Nat) : LoopsOK (env18 n) b18_1 := .of [] (by kernel_rfl) trivial
theorem lok18_1 (n : Nat) : LoopOK (env18 n) b18_1 (t18_1 n) := loopT_ok (env18_ok n) (lin18_1 n) (fun L x => by kernel_rfl) n
theorem lin18_0 (n : Nat) : LoopsOK (env18 n) b18_0 := .of [] (by kernel_rfl) trivial
theorem lok18_0 (n : Nat) : LoopOK (env18 n) b18_0 (t18_0 n) := loopT_ok (env18_ok n) (lin18_0 n) (fun L x => by kernel_rfl) n
theorem lin18 (n : Nat) : LoopsOK (env18 n) b18 := .of [(b18_0, 5, t18_0 n), (b18_1, 13, t18_1 n)] (by kernel_rfl) ⟨by kernel_rfl, by kernel_rfl, lok18_0 n, by kernel_rfl, by kernel_rfl, lok18_1 n, trivial⟩
theorem eq18 (n : Nat) (x : (List S38) × Int) : (F18 n x.1 x.2) = fnE (env18 n) Try.f18 [[.dat (.int .i64)]] none c18 r18 x := by kernel_rfl
theorem okt18 (n : Nat) : FnOK Try.prog 18 (fnT (G := gam) [] c18 r18 (fun x => F18 n x.1 x.2)) := fnT_ok (env18_ok n) (by kernel_rfl) (by kernel_rfl) (by kernel_rfl) (b := b18) (by kernel_rfl) (fun x => by kernel_rfl) (lin18 n) (eq18 n)
theorem ok18 (n : Nat) : FnOK Try.prog 18 (e18 n) := fnN_ok (okt18 n)
/-! ### clusterlockslaw19.WaitgraphStuck -/
noncomputable def F3 (n : Nat) (a0 : List S38) (a1 : Int) : Option Bool :=
  (Option.bind (F10 n a0) fun y1 =>
  (bif (bNot y1) then
    (Option.bind (F11 n ()) fun y2 =>
    (some y2))
  else
    (Option.bind (F11 n ()) fun y3 =>
    (bif y3 then
      (Option.bind (F12 n a0) fun y4 =>
      (Option.bind (F13 n a0) fun y5 =>
      (bif (bEq y4 y5) then
        (Option.bind (F15 n a0) fun y6 =>
        (Option.bind (F16 n a0) fun y7 =>
        (Option.bind (F14 n y6 y7) fun y8 =>
        (bif y8 then
          (Option.bind (F17 n a0 a1) fun y9 =>
          (Option.bind (F18 n a0 a1) fun y10 =>
          (Option.bind (F14 n y9 y10) fun y11 =>
          (some y11))))
        else
          (some false)))))
      else
        (some false))))
    else
      (some false)))))
noncomputable def c3 : Co (List (EV gam) × List (Ent gam)) ((List S38) × Int) := (.pairL (.cons (.d gam (.sl (.st 38))) (.consL (.d gam (.int .i64)) (.nil _))) (.nil _))
noncomputable def r3 : Co (EV gam × List (Ent gam) × List (Ent gam)) Bool := (.pairL (.d gam .bool) (.pairU (.nil _) (.nil _)))
noncomputable def b3 : Code := (Try.f3.body).getD .skip
noncomputable def e3 (n : Nat) : FnT gam := fnN [[some (.st 38)]] (fnT [] c3 r3 (fun x => F3 n x.1 x.2))
noncomputable def p3 (a : List (EV gam)) (l : List (Ent gam)) : Bool := (c3.dec (nilArgs [[some (.st 38)]] a, l)).isSome
noncomputable def env3 (n : Nat) : Env gam := { P := Try.prog, fns := lookU [(10, e10 n), (11, e11 n), (12, e12 n), (13, e13 n), (14, e14 n), (15, e15 n), (16, e16 n), (17, e17 n), (18, e18 n)], loops := lookU [], nt := 33, m := 0, keeps := [], eqs := [] }
theorem env3_ok (n : Nat) : EnvOK (env3 n) := .of _ rfl (by exact ⟨ok10 n, ok11 n, ok12 n, ok13 n, ok14 n, ok15 n, ok16 n, ok17 n, ok18 n, trivial⟩) (by exact fun t h => nomatch h) (by kernel_rfl)
theorem lin3 (n : Nat) : LoopsOK (env3 n) b3 := .of [] (by kernel_rfl) trivial
theorem eq3 (n : Nat) (x : (List S38) × Int) : (F3 n x.1 x.2) = fnE (env3 n) Try.f3 [[.asis]] none c3 r3 x := by kernel_rfl
theorem okt3 (n : Nat) : FnOK Try.prog 3 (fnT (G := gam) [] c3 r3 (fun x => F3 n x.1 x.2)) := fnT_ok (env3_ok n) (by kernel_rfl) (by kernel_rfl) (by kernel_rfl) (b := b3) (by kernel_rfl) (fun x => by kernel_rfl) (lin3 n) (eq3 n)
theorem ok3 (n : Nat) : FnOK Try.prog 3 (e3 n) := fnN_ok (okt3 n)
/-! ### clusterlocksref19.distances -/
noncomputable def S35_2 (n : Nat) (L : (List S38) → Int → Int → Int → Int → (List Int) → Option (((List S38) × (Int × (Int × Int))) × (List Int))) (a0 : List S38) (a1 : Int) (a2 : Int) (a3 : Int) (a4 : Int) (a5 : List Int) : Option (((List S38) × (Int × (Int × Int))) × (List Int)) :=
  (Option.bind (ixo a0 a3) fun y1 =>
  (bif (decide (a4 < ((List.length y1.Next : Nat) : Int))) then
    (bif (decide (0 ≤ a3) && decide (a3 < ((List.length a5 : Nat) : Int))) then
      (Option.bind (a5[(Int.toNat a3)]?) fun y2 =>
      (bif (y2 == (0 : Int)) then
        (Option.bind (ixo a0 a3) fun y3 =>
        (Option.bind (ixo y3.Next a4) fun y4 =>
        (bif (a2 == (1 : Int)) then
          (bif (y4 == a1) then
            (bif (decide (0 ≤ a3) && decide (a3 < ((List.length a5 : Nat) : Int))) then
              (L a0 a1 a2 a3 (IntKind.wrap .i64 (a4 + (1 : Int))) (List.set a5 (Int.toNat a3) a2))
            else
              none)
          else
            (bif (decide (a2 > (1 : Int))) then
              (bif (decide (0 ≤ y4) && decide (y4 < ((List.length a5 : Nat) : Int))) then
                (Option.bind (a5[(Int.toNat y4)]?) fun y5 =>
                (bif (y5 == (IntKind.wrap .i64 (a2 - (1 : Int)))) then
                  (bif (decide (0 ≤ a3) && decide (a3 < ((List.length a5 : Nat) : Int))) then
                    (L a0 a1 a2 a3 (IntKind.wrap .i64 (a4 + (1 : Int))) (List.set a5 (Int.toNat a3) a2))
                  else
                    none)
                else
                  (L a0 a1 a2 a3 (IntKind.wrap .i64 (a4 + (1 : Int))) a5)))
              else
                none)
            else
              (L a0 a1 a2 a3 (IntKind.wrap .i64 (a4 + (1 : Int))) a5)))
        else
          (bif (decide (a2 > (1 : Int))) then
            (bif (decide (0 ≤ y4) && decide (y4 < ((List.length a5 : Nat) : Int))) then
              (Option.bind (a5[(Int.toNat y4)]?) fun y6 =>
              (bif (y6 == (IntKind.wrap .i64 (a2 - (1 : Int)))) then
                (bif (decide (0 ≤ a3) && decide (a3 < ((List.length a5 : Nat) : Int))) then
                  (L a0 a1 a2 a3 (IntKind.wrap .i64 (a4 + (1 : Int))) (List.set a5 (Int.toNat a3) a2))
                else
                  none)
              else
                (L a0 a1 a2 a3 (IntKind.wrap .i64 (a4 + (1 : Int))) a5)))
            else
              none)
          else
            (L a0 a1 a2 a3 (IntKind.wrap .i64 (a4 + (1 : Int))) a5)))))
      else
        (some ((a0, (a1, (a2, a3))), a5))))
    else
      none)
  else
    (some ((a0, (a1, (a2, a3))), a5))))
noncomputable def U35_2 (n : Nat) (L : (((List S38) × (Int × (Int × (Int × Int)))) × (List Int)) → Option (((List S38) × (Int × (Int × Int))) × (List Int))) (x : ((List S38) × (Int × (Int × (Int × Int)))) × (List Int)) : Option (((List S38) × (Int × (Int × Int))) × (List Int)) := S35_2 n (fun a0 a1 a2 a3 a4 a5 => L ((a0, (a1, (a2, (a3, a4)))), a5)) x.1.1 x.1.2.1 x.1.2.2.1 x.1.2.2.2.1 x.1.2.2.2.2 x.2
noncomputable def L35_2 (n : Nat) (a0 : List S38) (a1 : Int) (a2 : Int) (a3 : Int) (a4 : Int) (a5 : List Int) : Option (((List S38) × (Int × (Int × Int))) × (List Int)) := iter (U35_2 n) n ((a0, (a1, (a2, (a3, a4)))), a5)
noncomputable def S35_1 (n : Nat) (L : (List S38) → Int → Int → Int → (List Int) → Option (((List S38) × (Int × Int)) × (List Int))) (a0 : List S38) (a1 : Int) (a2 : Int) (a3 : Int) (a4 : List Int) : Option (((List S38) × (Int × Int)) × (List Int)) :=
  (bif (decide (a3 < ((List.length a0 : Nat) : Int))) then
    (Option.bind (L35_2 n a0 a1 a2 a3 (0 : Int) a4) fun y1 =>
    (L y1.1.1 y1.1.2.1 y1.1.2.2.1 (IntKind.wrap .i64 (y1.1.2.2.2 + (1 : Int))) y1.2))
  else
    (some ((a0, (a1, a2)), a4)))
noncomputable def U35_1 (n : Nat) (L : (((List S38) × (Int × (Int × Int))) × (List Int)) → Option (((List S38) × (Int × Int)) × (List Int))) (x : ((List S38) × (Int × (Int × Int))) × (List Int)) : Option (((List S38) × (Int × Int)) × (List Int)) := S35_1 n (fun a0 a1 a2 a3 a4 => L ((a0, (a1, (a2, a3))), a4)) x.1.1 x.1.2.1 x.1.2.2.1 x.1.2.2.2 x.2
noncomputable def L35_1 (n : Nat) (a0 : List S38) (a1 : Int) (a2 : Int) (a3 : Int) (a4 : List Int) : Option (((List S38) × (Int × Int)) × (List Int)) := iter (U35_1 n) n ((a0, (a1, (a2, a3))), a4)
noncomputable def S35_0 (n : Nat) (L : (List S38) → Int → Int → (List Int) → Option (List Int)) (a0 : List S38) (a1 : Int) (a2 : Int) (a3 : List Int) : Option (List Int) :=
  (bif (decide (a2 ≤ ((List.length a0 : Nat) : Int))) then
    (Option.bind (L35_1 n a0 a1 a2 (0 : Int) a3) fun y1 =>
    (L y1.1.1 y1.1.2.1 (IntKind.wrap .i64 (y1.1.2.2 + (1 : Int))) y1.2))
  else
    (some a3))
noncomputable def U35_0 (n : Nat) (L : (((List S38) × (Int × Int)) × (List Int)) → Option (List Int)) (x : ((List S38) × (Int × Int)) × (List Int)) : Option (List Int) := S35_0 n (fun a0 a1 a2 a3 => L ((a0, (a1, a2)), a3)) x.1.1 x.1.2.1 x.1.2.2 x.2
noncomputable def L35_0 (n : Nat) (a0 : List S38) (a1 : Int) (a2 : Int) (a3 : List Int) : Option (List Int) := iter (U35_0 n) n ((a0, (a1, a2)), a3)
noncomputable def F35 (n : Nat) (a0 : List S38) (a1 : Int) : Option (List Int) :=
  (bif (makeOK ((List.length a0 : Nat) : Int) ((List.length a0 : Nat) : Int) 8) then
    (Option.bind (L35_0 n a0 a1 (1 : Int) (List.replicate (Int.toNat ((List.length a0 : Nat) : Int)) (0 : Int))) fun y1 =>
    (some y1))
  else
    none)
noncomputable def c35 : Co (List (EV gam) × List (Ent gam)) ((List S38) × Int) := (.pairL (.cons (.d gam (.sl (.st 38))) (.consL (.d gam (.int .i64)) (.nil _))) (.nil _))
noncomputable def r35 : Co (EV gam × List (Ent gam) × List (Ent gam)) (List Int) := (.pairL (.d gam (.sl (.int .i64))) (.pairU (.nil _) (.nil _)))
noncomputable def b35 : Code := (Try.f35.body).getD .skip
noncomputable def b35_0 : Code := (loopsIn b35).getD 0 .skip
noncomputable def kp35_0 : Keep := { slots := [0, 1, 5, 6], rows := [((5, none), 7000000599, (.int .i64))], boxes := [], tombs := [] }
noncomputable def c35_0 : Co (List (EV gam) × List (Ent gam)) (((List S38) × (Int × Int)) × (List Int)) := (.pair (.cons (.d gam (.sl (.st 38))) (.cons (.d gam (.int .i64)) (.consU (.ow gam 7000000599) (.consL (.d gam (.int .i64)) (.nil _))))) (.consL (.row gam (.int .i64) 0) (.nil _)))
noncomputable def x35_0 : Xc gam (List Int) := (.one (.exit 0) { slots := [5], rows := [((5, none), 7000000599, (.int .i64))], boxes := [], tombs := [] } (.pairU (.consU (.ow gam 7000000599) (.nil _)) (.consL (.row gam (.int .i64) 0) (.nil _))))
noncomputable def b35_1 : Code := (loopsIn b35).getD 1 .skip
noncomputable def kp35_1 : Keep := { slots := [0, 1, 5, 6, 7], rows := [((5, none), 7000000599, (.int .i64))], boxes := [], tombs := [] }
noncomputable def c35_1 : Co (List (EV gam) × List (Ent gam)) (((List S38) × (Int × (Int × Int))) × (List Int)) := (.pair (.cons (.d gam (.sl (.st 38))) (.cons (.d gam (.int .i64)) (.consU (.ow gam 7000000599) (.cons (.d gam (.int .i64)) (.consL (.d gam (.int .i64)) (.nil _)))))) (.consL (.row gam (.int .i64) 0) (.nil _)))
noncomputable def x35_1 : Xc gam (((List S38) × (Int × Int)) × (List Int)) := (.one (.exit 2) { slots := [0, 1, 5, 6], rows := [((5, none), 7000000599, (.int .i64))], boxes := [], tombs := [] } (.pair (.cons (.d gam (.sl (.st 38))) (.cons (.d gam (.int .i64)) (.consU (.ow gam 7000000599) (.consL (.d gam (.int .i64)) (.nil _))))) (.consL (.row gam (.int .i64) 0) (.nil _))))
noncomputable def b35_2 : Code := (loopsIn b35).getD 2 .skip
noncomputable def kp35_2 : Keep := { slots := [0, 1, 5, 6, 7, 8], rows := [((5, none), 7000000599, (.int .i64))], boxes := [], tombs := [] }
noncomputable def c35_2 : Co (List (EV gam) × List (Ent gam)) (((List S38) × (Int × (Int × (Int × Int)))) × (List Int)) := (.pair (.cons (.d gam (.sl (.st 38))) (.cons (.d gam (.int .i64)) (.consU (.ow gam 7000000599) (.cons (.d gam (.int .i64)) (.cons (.d gam (.int .i64)) (.consL (.d gam (.int .i64)) (.nil _))))))) (.consL (.row gam (.int .i64) 0) (.nil _)))
noncomputable def x35_2 : Xc gam (((List S38) × (Int × (Int × Int))) × (List Int)) := (.one (.exit 4) { slots := [0, 1, 5, 6, 7], rows := [((5, none), 7000000599, (.int .i64))], boxes := [], tombs := [] } (.pair (.cons (.d gam (.sl (.st 38))) (.cons (.d gam (.int .i64)) (.consU (.ow gam 7000000599) (.cons (.d gam (.int .i64)) (.consL (.d gam (.int .i64)) (.nil _)))))) (.consL (.row gam (.int .i64) 0) (.nil _))))
noncomputable def t35_0 (n : Nat) : LoopT gam := loopT kp35_0 c35_0 x35_0 (iter (U35_0 n) n)
noncomputable def t35_1 (n : Nat) : LoopT gam := loopT kp35_1 c35_1 x35_1 (iter (U35_1 n) n)
noncomputable def t35_2 (n : Nat) : LoopT gam := loopT kp35_2 c35_2 x35_2 (iter (U35_2 n) n)
noncomputable def e35 (n : Nat) : FnT gam := fnN [[some (.st 38)]] (fnT [] c35 r35 (fun x => F35 n x.1 x.2))
noncomputable def p35 (a : List (EV gam)) (l : List (Ent gam)) : Bool := (c35.dec (nilArgs [[some (.st 38)]] a, l)).isSome
noncomputable def env35 (n : Nat) : Env gam := { P := Try.prog, fns := lookU [], loops := lookU [(3, t35_0 n), (6, t35_1 n), (9, t35_2 n)], nt := 75, m := 0, keeps := [], eqs := [] }
theorem env35_ok (n : Nat) : EnvOK (env35 n) := .of _ rfl (by exact trivial) (by exact fun t h => nomatch h) (by kernel_rfl)
theorem lin35_2 (n : Nat) : LoopsOK (env35 n) b35_2 := .of [] (by kernel_rfl) trivial
theorem lok35_2 (n : Nat) : LoopOK (env35 n) b35_2 (t35_2 n) := loopT_ok (env35_ok n) (lin35_2 n) (fun L x => by kernel_rfl) n
theorem lin35_1 (n : Nat) : LoopsOK (env35 n) b35_1 := .of [(b35_2, 9, t35_2 n)] (by kernel_rfl) ⟨by kernel_rfl, by kernel_rfl, lok35_2 n, trivial⟩
theorem lok35_1 (n : Nat) : LoopOK (env35 n) b35_1 (t35_1 n) := loopT_ok (env35_ok n) (lin35_1 n) (fun L x => by kernel_rfl) n
theorem lin35_0 (n : Nat) : LoopsOK (env35 n) b35_0 := .of [(b35_1, 6, t35_1 n), (b35_2, 9, t35_2 n)] (by kernel_rfl) ⟨by kernel_rfl, by kernel_rfl, lok35_1 n, by kernel_rfl, by kernel_rfl, lok35_2 n, trivial⟩
theorem lok35_0 (n : Nat) : LoopOK (env35 n) b35_0 (t35_0 n) := loopT_ok (env35_ok n) (lin35_0 n) (fun L x => by kernel_rfl) n
theorem lin35 (n : Nat) : LoopsOK (env35 n) b35 := .of [(b35_0, 3, t35_0 n), (b35_1, 6, t35_1 n), (b35_2, 9, t35_2 n)] (by kernel_rfl) ⟨by kernel_rfl, by kernel_rfl, lok35_0 n, by kernel_rfl, by kernel_rfl, lok35_1 n, by kernel_rfl, by kernel_rfl, lok35_2 n, trivial⟩
theorem eq35 (n : Nat) (x : (List S38) × Int) : (F35 n x.1 x.2) = fnE (env35 n) Try.f35 [[.dat (.int .i64)]] none c35 r35 x := by kernel_rfl
theorem okt35 (n : Nat) : FnOK Try.prog 35 (fnT (G := gam) [] c35 r35 (fun x => F35 n x.1 x.2)) := fnT_ok (env35_ok n) (by kernel_rfl) (by kernel_rfl) (by kernel_rfl) (b := b35) (by kernel_rfl) (fun x => by kernel_rfl) (lin35 n) (eq35 n)
theorem ok35 (n : Nat) : FnOK Try.prog 35 (e35 n) := fnN_ok (okt35 n)
/-! ### clusterlocksref19.Cycle -/
noncomputable def S20_1 (n : Nat) (L : (List S38) → (List Int) → Int → Int → Int → (List Int) → Option (((List S38) × ((List Int) × (Int × Int))) × (List Int))) (a0 : List S38) (a1 : List Int) (a2 : Int) (a3 : Int) (a4 : Int) (a5 : List Int) : Option (((List S38) × ((List Int) × (Int × Int))) × (List Int)) :=
  (Option.bind (ixo a0 a2) fun y1 =>
  (bif (decide (a4 < ((List.length y1.Next : Nat) : Int))) then
    (Option.bind (ixo a0 a2) fun y2 =>
    (Option.bind (ixo y2.Next a4) fun y3 =>
    (Option.bind (ixo a1 y3) fun y4 =>
    (bif (y4 == (IntKind.wrap .i64 (a3 - (1 : Int)))) then
      (Option.bind (ixo a0 a2) fun y5 =>
      (Option.bind (ixo y5.Next a4) fun y6 =>
      (some ((a0, (a1, (y6, a3))), a5))))
    else
      (L a0 a1 a2 a3 (IntKind.wrap .i64 (a4 + (1 : Int))) a5)))))
  else
    (some ((a0, (a1, (a2, a3))), a5))))
noncomputable def U20_1 (n : Nat) (L : (((List S38) × ((List Int) × (Int × (Int × Int)))) × (List Int)) → Option (((List S38) × ((List Int) × (Int × Int))) × (List Int))) (x : ((List S38) × ((List Int) × (Int × (Int × Int)))) × (List Int)) : Option (((List S38) × ((List Int) × (Int × Int))) × (List Int)) := S20_1 n (fun a0 a1 a2 a3 a4 a5 => L ((a0, (a1, (a2, (a3, a4)))), a5)) x.1.1 x.1.2.1 x.1.2.2.1 x.1.2.2.2.1 x.1.2.2.2.2 x.2
noncomputable def L20_1 (n : Nat) (a0 : List S38) (a1 : List Int) (a2 : Int) (a3 : Int) (a4 : Int) (a5 : List Int) : Option (((List S38) × ((List Int) × (Int × Int))) × (List Int)) := iter (U20_1 n) n ((a0, (a1, (a2, (a3, a4)))), a5)
noncomputable def S20_0 (n : Nat) (L : (List S38) → (List Int) → Int → Int → (List Int) → Option (List Int)) (a0 : List S38) (a1 : List Int) (a2 : Int) (a3 : Int) (a4 : List Int) : Option (List Int) :=
  (bif (decide (a3 > (1 : Int))) then
    (Option.bind (L20_1 n a0 a1 a2 a3 (0 : Int) a4) fun y1 =>
    (bif (appOK (List.length y1.2) (List.length [y1.1.2.2.1]) 8) then
      (L y1.1.1 y1.1.2.1 y1.1.2.2.1 (IntKind.wrap .i64 (y1.1.2.2.2 - (1 : Int))) (y1.2 ++ [y1.1.2.2.1]))
    else
      none))
  else
    (some a4))
noncomputable def U20_0 (n : Nat) (L : (((List S38) × ((List Int) × (Int × Int))) × (List Int)) → Option (List Int)) (x : ((List S38) × ((List Int) × (Int × Int))) × (List Int)) : Option (List Int) := S20_0 n (fun a0 a1 a2 a3 a4 => L ((a0, (a1, (a2, a3))), a4)) x.1.1 x.1.2.1 x.1.2.2.1 x.1.2.2.2 x.2
noncomputable def L20_0 (n : Nat) (a0 : List S38) (a1 : List Int) (a2 : Int) (a3 : Int) (a4 : List Int) : Option (List Int) := iter (U20_0 n) n ((a0, (a1, (a2, a3))), a4)
noncomputable def F20 (n : Nat) (a0 : List S38) (a1 : Int) : Option (List Int) :=
  (Option.bind (F13 n a0) fun y1 =>
  (bif (bNot y1) then
    (some ([] : List Int))
  else
    (bif (decide (a1 < (0 : Int))) then
      (some ([] : List Int))
    else
      (bif (decide (a1 ≥ ((List.length a0 : Nat) : Int))) then
        (some ([] : List Int))
      else
        (Option.bind (F35 n a0 a1) fun y2 =>
        (Option.bind (ixo y2 a1) fun y3 =>
        (bif (y3 == (0 : Int)) then
          (some ([] : List Int))
        else
          (Option.bind (ixo y2 a1) fun y4 =>
          (Option.bind (L20_0 n a0 y2 a1 y4 [a1]) fun y5 =>
          (some y5))))))))))
noncomputable def c20 : Co (List (EV gam) × List (Ent gam)) ((List S38) × Int) := (.pairL (.cons (.d gam (.sl (.st 38))) (.consL (.d gam (.int .i64)) (.nil _))) (.nil _))
noncomputable def r20 : Co (EV gam × List (Ent gam) × List (Ent gam)) (List Int) := (.pairL (.d gam (.sl (.int .i64))) (.pairU (.nil _) (.nil _)))
noncomputable def b20 : Code := (Try.f20.body).getD .skip
noncomputable def b20_0 : Code := (loopsIn b20).getD 0 .skip
noncomputable def kp20_0 : Keep := { slots := [0, 5, 6, 7, 8], rows := [((6, none), 7000000699, (.int .i64))], boxes := [], tombs := [] }
noncomputable def c20_0 : Co (List (EV gam) × List (Ent gam)) (((List S38) × ((List Int) × (Int × Int))) × (List Int)) := (.pair (.cons (.d gam (.sl (.st 38))) (.cons (.d gam (.sl (.int .i64))) (.consU (.ow gam 7000000699) (.cons (.d gam (.int .i64)) (.consL (.d gam (.int .i64)) (.nil _)))))) (.consL (.row gam (.int .i64) 0) (.nil _)))
noncomputable def x20_0 : Xc gam (List Int) := (.one (.exit 0) { slots := [6], rows := [((6, none), 7000000699, (.int .i64))], boxes := [], tombs := [] } (.pairU (.consU (.ow gam 7000000699) (.nil _)) (.consL (.row gam (.int .i64) 0) (.nil _))))
noncomputable def b20_1 : Code := (loopsIn b20).getD 1 .skip
noncomputable def kp20_1 : Keep := { slots := [0, 5, 6, 7, 8, 9], rows := [((6, none), 7000000699, (.int .i64))], boxes := [], tombs := [] }
noncomputable def c20_1 : Co (List (EV gam) × List (Ent gam)) (((List S38) × ((List Int) × (Int × (Int × Int)))) × (List Int)) := (.pair (.cons (.d gam (.sl (.st 38))) (.cons (.d gam (.sl (.int .i64))) (.consU (.ow gam 7000000699) (.cons (.d gam (.int .i64)) (.cons (.d gam (.int .i64)) (.consL (.d gam (.int .i64)) (.nil _))))))) (.consL (.row gam (.int .i64) 0) (.nil _)))
noncomputable def x20_1 : Xc gam (((List S38) × ((List Int) × (Int × Int))) × (List Int)) := (.one (.exit 2) { slots := [0, 5, 6, 7, 8], rows := [((6, none), 7000000699, (.int .i64))], boxes := [], tombs := [] } (.pair (.cons (.d gam (.sl (.st 38))) (.cons (.d gam (.sl (.int .i64))) (.consU (.ow gam 7000000699) (.cons (.d gam (.int .i64)) (.consL (.d gam (.int .i64)) (.nil _)))))) (.consL (.row gam (.int .i64) 0) (.nil _))))
noncomputable def t20_0 (n : Nat) : LoopT gam := loopT kp20_0 c20_0 x20_0 (iter (U20_0 n) n)
noncomputable def t20_1 (n : Nat) : LoopT gam := loopT kp20_1 c20_1 x20_1 (iter (U20_1 n) n)
noncomputable def e20 (n : Nat) : FnT gam := fnN [[some (.st 38)]] (fnT [] c20 r20 (fun x => F20 n x.1 x.2))
noncomputable def p20 (a : List (EV gam)) (l : List (Ent gam)) : Bool := (c20.dec (nilArgs [[some (.st 38)]] a, l)).isSome
noncomputable def env20 (n : Nat) : Env gam := { P := Try.prog, fns := lookU [(13, e13 n), (35, e35 n)], loops := lookU [(9, t20_0 n), (12, t20_1 n)], nt := 79, m := 0, keeps := [], eqs := [] }
theorem env20_ok (n : Nat) : EnvOK (env20 n) := .of _ rfl (by exact ⟨ok13 n, ok35 n, trivial⟩) (by exact fun t h => nomatch h) (by kernel_rfl)
theorem lin20_1 (n : Nat) : LoopsOK (env20 n) b20_1 := .of [] (by kernel_rfl) trivial
theorem lok20_1 (n : Nat) : LoopOK (env20 n) b20_1 (t20_1 n) := loopT_ok (env20_ok n) (lin20_1 n) (fun L x => by kernel_rfl) n
theorem lin20_0 (n : Nat) : LoopsOK (env20 n) b20_0 := .of [(b20_1, 12, t20_1 n)] (by kernel_rfl) ⟨by kernel_rfl, by kernel_rfl, lok20_1 n, trivial⟩
theorem lok20_0 (n : Nat) : LoopOK (env20 n) b20_0 (t20_0 n) := loopT_ok (env20_ok n) (lin20_0 n) (fun L x => by kernel_rfl) n
theorem lin20 (n : Nat) : LoopsOK (env20 n) b20 := .of [(b20_0, 9, t20_0 n), (b20_1, 12, t20_1 n)] (by kernel_rfl) ⟨by kernel_rfl, by kernel_rfl, lok20_0 n, by kernel_rfl, by kernel_rfl, lok20_1 n, trivial⟩
theorem eq20 (n : Nat) (x : (List S38) × Int) : (F20 n x.1 x.2) = fnE (env20 n) Try.f20 [[.dat (.int .i64)]] none c20 r20 x := by kernel_rfl
theorem okt20 (n : Nat) : FnOK Try.prog 20 (fnT (G := gam) [] c20 r20 (fun x => F20 n x.1 x.2)) := fnT_ok (env20_ok n) (by kernel_rfl) (by kernel_rfl) (by kernel_rfl) (b := b20) (by kernel_rfl) (fun x => by kernel_rfl) (lin20 n) (eq20 n)
theorem ok20 (n : Nat) : FnOK Try.prog 20 (e20 n) := fnN_ok (okt20 n)
/-! ### clusterlocksref19.Knots -/
noncomputable def S23_1 (n : Nat) (L : (List S38) → Int → (List Int) → Bool → Int → (List (List Int)) → Option (((List S38) × (Int × ((List Int) × Bool))) × (List (List Int)))) (a0 : List S38) (a1 : Int) (a2 : List Int) (a3 : Bool) (a4 : Int) (a5 : List (List Int)) : Option (((List S38) × (Int × ((List Int) × Bool))) × (List (List Int))) :=
  (bif (decide (a4 < ((List.length a2 : Nat) : Int))) then
    (bif a3 then
      (Option.bind (ixo a2 a4) fun y1 =>
      (Option.bind (F18 n a0 y1) fun y2 =>
      (Option.bind (F14 n y2 a2) fun y3 =>
      (L a0 a1 a2 y3 (IntKind.wrap .i64 (a4 + (1 : Int))) a5))))
    else
      (L a0 a1 a2 false (IntKind.wrap .i64 (a4 + (1 : Int))) a5))
  else
    (some ((a0, (a1, (a2, a3))), a5)))
noncomputable def U23_1 (n : Nat) (L : (((List S38) × (Int × ((List Int) × (Bool × Int)))) × (List (List Int))) → Option (((List S38) × (Int × ((List Int) × Bool))) × (List (List Int)))) (x : ((List S38) × (Int × ((List Int) × (Bool × Int)))) × (List (List Int))) : Option (((List S38) × (Int × ((List Int) × Bool))) × (List (List Int))) := S23_1 n (fun a0 a1 a2 a3 a4 a5 => L ((a0, (a1, (a2, (a3, a4)))), a5)) x.1.1 x.1.2.1 x.1.2.2.1 x.1.2.2.2.1 x.1.2.2.2.2 x.2
noncomputable def L23_1 (n : Nat) (a0 : List S38) (a1 : Int) (a2 : List Int) (a3 : Bool) (a4 : Int) (a5 : List (List Int)) : Option (((List S38) × (Int × ((List Int) × Bool))) × (List (List Int))) := iter (U23_1 n) n ((a0, (a1, (a2, (a3, a4)))), a5)
noncomputable def S23_0 (n : Nat) (L : (List S38) → Int → (List (List Int)) → Option (List (List Int))) (a0 : List S38) (a1 : Int) (a2 : List (List Int)) : Option (List (List Int)) :=
  (bif (decide (a1 < ((List.length a0 : Nat) : Int))) then
    (Option.bind (F18 n a0 a1) fun y1 =>
    (bif (((List.length y1 : Nat) : Int) == (0 : Int)) then
      (L a0 (IntKind.wrap .i64 (a1 + (1 : Int))) a2)
    else
      (Option.bind (ixo y1 (0 : Int)) fun y2 =>
      (bif (y2 != a1) then
        (L a0 (IntKind.wrap .i64 (a1 + (1 : Int))) a2)
      else
        (Option.bind (L23_1 n a0 a1 y1 true (0 : Int) a2) fun y3 =>
        (bif y3.1.2.2.2 then
          (bif (appOK (List.length y3.2) (List.length [y3.1.2.2.1]) 24) then
            (L y3.1.1 (IntKind.wrap .i64 (y3.1.2.1 + (1 : Int))) (y3.2 ++ [y3.1.2.2.1]))
          else
            none)
        else
          (L y3.1.1 (IntKind.wrap .i64 (y3.1.2.1 + (1 : Int))) y3.2)))))))
  else
    (some a2))
noncomputable def U23_0 (n : Nat) (L : (((List S38) × Int) × (List (List Int))) → Option (List (List Int))) (x : ((List S38) × Int) × (List (List Int))) : Option (List (List Int)) := S23_0 n (fun a0 a1 a2 => L ((a0, a1), a2)) x.1.1 x.1.2 x.2
noncomputable def L23_0 (n : Nat) (a0 : List S38) (a1 : Int) (a2 : List (List Int)) : Option (List (List Int)) := iter (U23_0 n) n ((a0, a1), a2)
noncomputable def F23 (n : Nat) (a0 : List S38) : Option (List (List Int)) :=
  (Option.bind (F13 n a0) fun y1 =>
  (bif (bNot y1) then
    (some ([] : List (List Int)))
  else
    (Option.bind (L23_0 n a0 (0 : Int) ([] : List (List Int))) fun y2 =>
    (some y2))))
noncomputable def c23 : Co (List (EV gam) × List (Ent gam)) (List S38) := (.pairL (.consL (.d gam (.sl (.st 38))) (.nil _)) (.nil _))
noncomputable def r23 : Co (EV gam × List (Ent gam) × List (Ent gam)) (List (List Int)) := (.pairL (.d gam (.sl (.sl (.int .i64)))) (.pairU (.nil _) (.nil _)))
noncomputable def b23 : Code := (Try.f23.body).getD .skip
noncomputable def b23_0 : Code := (loopsIn b23).getD 0 .skip
noncomputable def kp23_0 : Keep := { slots := [0, 3, 4], rows := [((3, none), 7000000399, (.sl (.int .i64)))], boxes := [], tombs := [] }
noncomputable def c23_0 : Co (List (EV gam) × List (Ent gam)) (((List S38) × Int) × (List (List Int))) := (.pair (.cons (.d gam (.sl (.st 38))) (.consU (.ow gam 7000000399) (.consL (.d gam (.int .i64)) (.nil _)))) (.consL (.row gam (.sl (.int .i64)) 0) (.nil _)))
noncomputable def x23_0 : Xc gam (List (List Int)) := (.one (.exit 0) { slots := [3], rows := [((3, none), 7000000399, (.sl (.int .i64)))], boxes := [], tombs := [] } (.pairU (.consU (.ow gam 7000000399) (.nil _)) (.consL (.row gam (.sl (.int .i64)) 0) (.nil _))))
noncomputable def b23_1 : Code := (loopsIn b23).getD 1 .skip
noncomputable def kp23_1 : Keep := { slots := [0, 3, 4, 5, 6, 7], rows := [((3, none), 7000000399, (.sl (.int .i64)))], boxes := [], tombs := [] }
noncomputable def c23_1 : Co (List (EV gam) × List (Ent gam)) (((List S38) × (Int × ((List Int) × (Bool × Int)))) × (List (List Int))) := (.pair (.cons (.d gam (.sl (.st 38))) (.consU (.ow gam 7000000399) (.cons (.d gam (.int .i64)) (.cons (.d gam (.sl (.int .i64))) (.cons (.d gam .bool) (.consL (.d gam (.int .i64)) (.nil _))))))) (.consL (.row gam (.sl (.int .i64)) 0) (.nil _)))
noncomputable def x23_1 : Xc gam (((List S38) × (Int × ((List Int) × Bool))) × (List (List Int))) := (.one (.exit 2) { slots := [0, 3, 4, 5, 6], rows := [((3, none), 7000000399, (.sl (.int .i64)))], boxes := [], tombs := [] } (.pair (.cons (.d gam (.sl (.st 38))) (.consU (.ow gam 7000000399) (.cons (.d gam (.int .i64)) (.cons (.d gam (.sl (.int .i64))) (.consL (.d gam .bool) (.nil _)))))) (.consL (.row gam (.sl (.int .i64)) 0) (.nil _))))
noncomputable def t23_0 (n : Nat) : LoopT gam := loopT kp23_0 c23_0 x23_0 (iter (U23_0 n) n)
noncomputable def t23_1 (n : Nat) : LoopT gam := loopT kp23_1 c23_1 x23_1 (iter (U23_1 n) n)
noncomputable def e23 (n : Nat) : FnT gam := fnN [[some (.st 38)]] (fnT [] c23 r23 (fun x => F23 n x))
noncomputable def p23 (a : List (EV gam)) (l : List (Ent gam)) : Bool := (c23.dec (nilArgs [[some (.st 38)]] a, l)).isSome
noncomputable def env23 (n : Nat) : Env gam := { P := Try.prog, fns := lookU [(13, e13 n), (14, e14 n), (18, e18 n)], loops := lookU [(5, t23_0 n), (11, t23_1 n)], nt := 53, m := 0, keeps := [], eqs := [] }
theorem env23_ok (n : Nat) : EnvOK (env23 n) := .of _ rfl (by exact ⟨ok13 n, ok14 n, ok18 n, trivial⟩) (by exact fun t h => nomatch h) (by kernel_rfl)
theorem lin23_1 (n : Nat) : LoopsOK (env23 n) b23_1 := .of [] (by kernel_rfl) trivial
theorem lok23_1 (n : Nat) : LoopOK (env23 n) b23_1 (t23_1 n) := loopT_ok (env23_ok n) (lin23_1 n) (fun L x => by kernel_rfl) n
theorem lin23_0 (n : Nat) : LoopsOK (env23 n) b23_0 := .of [(b23_1, 11, t23_1 n)] (by kernel_rfl) ⟨by kernel_rfl, by kernel_rfl, lok23_1 n, trivial⟩
theorem lok23_0 (n : Nat) : LoopOK (env23 n) b23_0 (t23_0 n) := loopT_ok (env23_ok n) (lin23_0 n) (fun L x => by kernel_rfl) n
theorem lin23 (n : Nat) : LoopsOK (env23 n) b23 := .of [(b23_0, 5, t23_0 n), (b23_1, 11, t23_1 n)] (by kernel_rfl) ⟨by kernel_rfl, by kernel_rfl, lok23_0 n, by kernel_rfl, by kernel_rfl, lok23_1 n, trivial⟩
theorem eq23 (n : Nat) (x : List S38) : (F23 n x) = fnE (env23 n) Try.f23 [[.dat (.sl (.int .i64))]] none c23 r23 x := by kernel_rfl
theorem okt23 (n : Nat) : FnOK Try.prog 23 (fnT (G := gam) [] c23 r23 (fun x => F23 n x)) := fnT_ok (env23_ok n) (by kernel_rfl) (by kernel_rfl) (by kernel_rfl) (b := b23) (by kernel_rfl) (fun x => by kernel_rfl) (lin23 n) (eq23 n)
theorem ok23 (n : Nat) : FnOK Try.prog 23 (e23 n) := fnN_ok (okt23 n)
/-! ### clusterlockslaw19.same -/
noncomputable def S21_0 (n : Nat) (L : (List (List Int)) → (List (List Int)) → Int → Option (Unit ⊕ Bool)) (a0 : List (List Int)) (a1 : List (List Int)) (a2 : Int) : Option (Unit ⊕ Bool) :=
  (bif (decide (a2 < ((List.length a0 : Nat) : Int))) then
    (Option.bind (ixo a0 a2) fun y1 =>
    (Option.bind (ixo a1 a2) fun y2 =>
    (Option.bind (F14 n y1 y2) fun y3 =>
    (bif (bNot y3) then (some (.inr false)) else (L a0 a1 (IntKind.wrap .i64 (a2 + (1 : Int))))))))
  else
    (some (.inl ())))
noncomputable def U21_0 (n : Nat) (L : ((List (List Int)) × ((List (List Int)) × Int)) → Option (Unit ⊕ Bool)) (x : (List (List Int)) × ((List (List Int)) × Int)) : Option (Unit ⊕ Bool) := S21_0 n (fun a0 a1 a2 => L (a0, (a1, a2))) x.1 x.2.1 x.2.2
noncomputable def L21_0 (n : Nat) (a0 : List (List Int)) (a1 : List (List Int)) (a2 : Int) : Option (Unit ⊕ Bool) := iter (U21_0 n) n (a0, (a1, a2))
noncomputable def F21 (n : Nat) (a0 : List (List Int)) (a1 : List (List Int)) : Option Bool :=
  (bif (((List.length a0 : Nat) : Int) != ((List.length a1 : Nat) : Int)) then
    (some false)
  else
    (Option.bind (L21_0 n a0 a1 (0 : Int)) fun y1 =>
    (Sum.elim (fun y2 => (some true)) (fun y3 => (some y3)) y1)))
noncomputable def c21 : Co (List (EV gam) × List (Ent gam)) ((List (List Int)) × (List (List Int))) := (.pairL (.cons (.d gam (.sl (.sl (.int .i64)))) (.consL (.d gam (.sl (.sl (.int .i64)))) (.nil _))) (.nil _))
noncomputable def r21 : Co (EV gam × List (Ent gam) × List (Ent gam)) Bool := (.pairL (.d gam .bool) (.pairU (.nil _) (.nil _)))
noncomputable def b21 : Code := (Try.f21.body).getD .skip
noncomputable def b21_0 : Code := (loopsIn b21).getD 0 .skip
noncomputable def kp21_0 : Keep := { slots := [0, 1, 5], rows := [], boxes := [], tombs := [] }
noncomputable def c21_0 : Co (List (EV gam) × List (Ent gam)) ((List (List Int)) × ((List (List Int)) × Int)) := (.pairL (.cons (.d gam (.sl (.sl (.int .i64)))) (.cons (.d gam (.sl (.sl (.int .i64)))) (.consL (.d gam (.int .i64)) (.nil _)))) (.nil _))
noncomputable def x21_0 : Xc gam (Unit ⊕ Bool) := (.or (.one (.exit 0) { slots := [], rows := [], boxes := [], tombs := [] } (.pairU (.nil _) (.nil _))) (.one .ret { slots := [4], rows := [], boxes := [], tombs := [] } (.pairL (.consL (.d gam .bool) (.nil _)) (.nil _))))
noncomputable def t21_0 (n : Nat) : LoopT gam := loopT kp21_0 c21_0 x21_0 (iter (U21_0 n) n)
noncomputable def e21 (n : Nat) : FnT gam := fnN [[some (.sl (.int .i64))], [some (.sl (.int .i64))]] (fnT [] c21 r21 (fun x => F21 n x.1 x.2))
noncomputable def p21 (a : List (EV gam)) (l : List (Ent gam)) : Bool := (c21.dec (nilArgs [[some (.sl (.int .i64))], [some (.sl (.int .i64))]] a, l)).isSome
noncomputable def env21 (n : Nat) : Env gam := { P := Try.prog, fns := lookU [(14, e14 n)], loops := lookU [(4, t21_0 n)], nt := 27, m := 0, keeps := [], eqs := [] }
theorem env21_ok (n : Nat) : EnvOK (env21 n) := .of _ rfl (by exact ⟨ok14 n, trivial⟩) (by exact fun t h => nomatch h) (by kernel_rfl)
theorem lin21_0 (n : Nat) : LoopsOK (env21 n) b21_0 := .of [] (by kernel_rfl) trivial
theorem lok21_0 (n : Nat) : LoopOK (env21 n) b21_0 (t21_0 n) := loopT_ok (env21_ok n) (lin21_0 n) (fun L x => by kernel_rfl) n
theorem lin21 (n : Nat) : LoopsOK (env21 n) b21 := .of [(b21_0, 4, t21_0 n)] (by kernel_rfl) ⟨by kernel_rfl, by kernel_rfl, lok21_0 n, trivial⟩
theorem eq21 (n : Nat) (x : (List (List Int)) × (List (List Int))) : (F21 n x.1 x.2) = fnE (env21 n) Try.f21 [[.asis]] none c21 r21 x := by kernel_rfl
theorem okt21 (n : Nat) : FnOK Try.prog 21 (fnT (G := gam) [] c21 r21 (fun x => F21 n x.1 x.2)) := fnT_ok (env21_ok n) (by kernel_rfl) (by kernel_rfl) (by kernel_rfl) (b := b21) (by kernel_rfl) (fun x => by kernel_rfl) (lin21 n) (eq21 n)
theorem ok21 (n : Nat) : FnOK Try.prog 21 (e21 n) := fnN_ok (okt21 n)
/-! ### clusterlockslaw19.WaitgraphCycles -/
noncomputable def F4 (n : Nat) (a0 : List S38) (a1 : Int) : Option Bool :=
  (Option.bind (F10 n a0) fun y1 =>
  (bif (bNot y1) then
    (Option.bind (F11 n ()) fun y2 =>
    (some y2))
  else
    (Option.bind (F11 n ()) fun y3 =>
    (bif y3 then
      (Option.bind (F19 n a0 a1) fun y4 =>
      (Option.bind (F20 n a0 a1) fun y5 =>
      (Option.bind (F14 n y4 y5) fun y6 =>
      (bif y6 then
        (Option.bind (F22 n a0) fun y7 =>
        (Option.bind (F23 n a0) fun y8 =>
        (Option.bind (F21 n y7 y8) fun y9 =>
        (some y9))))
      else
        (some false)))))
    else
      (some false)))))
noncomputable def c4 : Co (List (EV gam) × List (Ent gam)) ((List S38) × Int) := (.pairL (.cons (.d gam (.sl (.st 38))) (.consL (.d gam (.int .i64)) (.nil _))) (.nil _))
noncomputable def r4 : Co (EV gam × List (Ent gam) × List (Ent gam)) Bool := (.pairL (.d gam .bool) (.pairU (.nil _) (.nil _)))
noncomputable def b4 : Code := (Try.f4.body).getD .skip
noncomputable def e4 (n : Nat) : FnT gam := fnN [[some (.st 38)]] (fnT [] c4 r4 (fun x => F4 n x.1 x.2))
noncomputable def p4 (a : List (EV gam)) (l : List (Ent gam)) : Bool := (c4.dec (nilArgs [[some (.st 38)]] a, l)).isSome
noncomputable def env4 (n : Nat) : Env gam := { P := Try.prog, fns := lookU [(10, e10 n), (11, e11 n), (14, e14 n), (19, e19 n), (20, e20 n), (21, e21 n), (22, e22 n), (23, e23 n)], loops := lookU [], nt := 26, m := 0, keeps := [], eqs := [] }
theorem env4_ok (n : Nat) : EnvOK (env4 n) := .of _ rfl (by exact ⟨ok10 n, ok11 n, ok14 n, ok19 n, ok20 n, ok21 n, ok22 n, ok23 n, trivial⟩) (by exact fun t h => nomatch h) (by kernel_rfl)
theorem lin4 (n : Nat) : LoopsOK (env4 n) b4 := .of [] (by kernel_rfl) trivial
theorem eq4 (n : Nat) (x : (List S38) × Int) : (F4 n x.1 x.2) = fnE (env4 n) Try.f4 [[.asis]] none c4 r4 x := by kernel_rfl
theorem okt4 (n : Nat) : FnOK Try.prog 4 (fnT (G := gam) [] c4 r4 (fun x => F4 n x.1 x.2)) := fnT_ok (env4_ok n) (by kernel_rfl) (by kernel_rfl) (by kernel_rfl) (b := b4) (by kernel_rfl) (fun x => by kernel_rfl) (lin4 n) (eq4 n)
theorem ok4 (n : Nat) : FnOK Try.prog 4 (e4 n) := fnN_ok (okt4 n)
/-! ### clusterlocksmill.Light -/
noncomputable def F24 (n : Nat) (a0 : List Int) : Option Bool :=
  (some (decide (((List.length a0 : Nat) : Int) ≤ (300 : Int))))
noncomputable def c24 : Co (List (EV gam) × List (Ent gam)) (List Int) := (.pairL (.consL (.d gam (.sl (.int .i64))) (.nil _)) (.nil _))
noncomputable def r24 : Co (EV gam × List (Ent gam) × List (Ent gam)) Bool := (.pairL (.d gam .bool) (.pairU (.nil _) (.nil _)))
noncomputable def b24 : Code := (Try.f24.body).getD .skip
noncomputable def e24 (n : Nat) : FnT gam := fnN [[some (.int .i64)]] (fnT [] c24 r24 (fun x => F24 n x))
noncomputable def p24 (a : List (EV gam)) (l : List (Ent gam)) : Bool := (c24.dec (nilArgs [[some (.int .i64)]] a, l)).isSome
noncomputable def env24 (n : Nat) : Env gam := { P := Try.prog, fns := lookU [], loops := lookU [], nt := 6, m := 0, keeps := [], eqs := [] }
theorem env24_ok (n : Nat) : EnvOK (env24 n) := .of _ rfl (by exact trivial) (by exact fun t h => nomatch h) (by kernel_rfl)
theorem lin24 (n : Nat) : LoopsOK (env24 n) b24 := .of [] (by kernel_rfl) trivial
theorem eq24 (n : Nat) (x : List Int) : (F24 n x) = fnE (env24 n) Try.f24 [[.asis]] none c24 r24 x := by kernel_rfl
theorem okt24 (n : Nat) : FnOK Try.prog 24 (fnT (G := gam) [] c24 r24 (fun x => F24 n x)) := fnT_ok (env24_ok n) (by kernel_rfl) (by kernel_rfl) (by kernel_rfl) (b := b24) (by kernel_rfl) (fun x => by kernel_rfl) (lin24 n) (eq24 n)
theorem ok24 (n : Nat) : FnOK Try.prog 24 (e24 n) := fnN_ok (okt24 n)
/-! ### clusterlocksmill.Mod -/
noncomputable def F26 (n : Nat) (a0 : Int) (a1 : Int) : Option Int :=
  (bif (decide (a1 < (1 : Int))) then
    (some (0 : Int))
  else
    (bif (a1 == 0) then
      none
    else
      (bif (decide ((Int.tmod a0 a1) < (0 : Int))) then
        (some (IntKind.wrap .i64 ((Int.tmod a0 a1) + a1)))
      else
        (some (Int.tmod a0 a1)))))
noncomputable def c26 : Co (List (EV gam) × List (Ent gam)) (Int × Int) := (.pairL (.cons (.d gam (.int .i64)) (.consL (.d gam (.int .i64)) (.nil _))) (.nil _))
noncomputable def r26 : Co (EV gam × List (Ent gam) × List (Ent gam)) Int := (.pairL (.d gam (.int .i64)) (.pairU (.nil _) (.nil _)))
noncomputable def b26 : Code := (Try.f26.body).getD .skip
noncomputable def e26 (n : Nat) : FnT gam := fnN [] (fnT [] c26 r26 (fun x => F26 n x.1 x.2))
noncomputable def p26 (a : List (EV gam)) (l : List (Ent gam)) : Bool := (c26.dec (nilArgs [] a, l)).isSome
noncomputable def env26 (n : Nat) : Env gam := { P := Try.prog, fns := lookU [], loops := lookU [], nt := 16, m := 0, keeps := [], eqs := [] }
theorem env26_ok (n : Nat) : EnvOK (env26 n) := .of _ rfl (by exact trivial) (by exact fun t h => nomatch h) (by kernel_rfl)
theorem lin26 (n : Nat) : LoopsOK (env26 n) b26 := .of [] (by kernel_rfl) trivial
theorem eq26 (n : Nat) (x : Int × Int) : (F26 n x.1 x.2) = fnE (env26 n) Try.f26 [[.asis]] none c26 r26 x := by kernel_rfl
theorem okt26 (n : Nat) : FnOK Try.prog 26 (fnT (G := gam) [] c26 r26 (fun x => F26 n x.1 x.2)) := fnT_ok (env26_ok n) (by kernel_rfl) (by kernel_rfl) (by kernel_rfl) (b := b26) (by kernel_rfl) (fun x => by kernel_rfl) (lin26 n) (eq26 n)
theorem ok26 (n : Nat) : FnOK Try.prog 26 (e26 n) := fnN_ok (okt26 n)
/-! ### (*clusterlocksmill.Tape).Next -/
noncomputable def F40 (n : Nat) (a0 : Int) (a1 : List Int) (a2 : Int) : Option (Int × ((List Int) × Int)) :=
  (bif (decide (a2 ≥ ((List.length a1 : Nat) : Int))) then
    (some ((0 : Int), (a1, a2)))
  else
    (Option.bind (ixo a1 (IntKind.wrap .i64 ((IntKind.wrap .i64 (a2 + (1 : Int))) - (1 : Int)))) fun y1 =>
    (Option.bind (F26 n y1 a0) fun y2 =>
    (some (y2, (a1, (IntKind.wrap .i64 (a2 + (1 : Int)))))))))
noncomputable def c40 : Co (List (EV gam) × List (Ent gam)) (Int × ((List Int) × Int)) := (.pair (.consU (.ptr gam 0 0) (.consL (.d gam (.int .i64)) (.nil _))) (.consL (.box (.cons (.d gam (.sl (.int .i64))) (.consL (.d gam (.int .i64)) (.nil _)))) (.nil _)))
noncomputable def r40 : Co (EV gam × List (Ent gam) × List (Ent gam)) (Int × ((List Int) × Int)) := (.pair (.d gam (.int .i64)) (.pairL (.consL (.box (.cons (.d gam (.sl (.int .i64))) (.consL (.d gam (.int .i64)) (.nil _)))) (.nil _)) (.nil _)))
noncomputable def b40 : Code := (Try.f40.body).getD .skip
noncomputable def e40 (n : Nat) : FnT gam := fnN [] (fnT [] c40 r40 (fun x => F40 n x.1 x.2.1 x.2.2))
noncomputable def p40 (a : List (EV gam)) (l : List (Ent gam)) : Bool := (c40.dec (nilArgs [] a, l)).isSome
noncomputable def env40 (n : Nat) : Env gam := { P := Try.prog, fns := lookU [(26, e26 n)], loops := lookU [], nt := 35, m := 1, keeps := [], eqs := [] }
theorem env40_ok (n : Nat) : EnvOK (env40 n) := .of _ rfl (by exact ⟨ok26 n, trivial⟩) (by exact fun t h => nomatch h) (by kernel_rfl)
theorem lin40 (n : Nat) : LoopsOK (env40 n) b40 := .of [] (by kernel_rfl) trivial
theorem eq40 (n : Nat) (x : Int × ((List Int) × Int)) : (F40 n x.1 x.2.1 x.2.2) = fnE (env40 n) Try.f40 [[.asis]] none c40 r40 x := by kernel_rfl
theorem okt40 (n : Nat) : FnOK Try.prog 40 (fnT (G := gam) [] c40 r40 (fun x => F40 n x.1 x.2.1 x.2.2)) := fnT_ok (env40_ok n) (by kernel_rfl) (by kernel_rfl) (by kernel_rfl) (b := b40) (by kernel_rfl) (fun x => by kernel_rfl) (lin40 n) (eq40 n)
theorem ok40 (n : Nat) : FnOK Try.prog 40 (e40 n) := fnN_ok (okt40 n)
/-! ### clusterlockslaw19.made -/
noncomputable def S25_1 (n : Nat) (L : Bool → Bool → Int → Int → Int → Int → (List S38) → Nat → Int → (List Int) → Int → (List Int) → Option ((Bool × (Bool × (Int × Int))) × (((List S38) × (Nat × Int)) × (((List Int) × Int) × (List Int))))) (a0 : Bool) (a1 : Bool) (a2 : Int) (a3 : Int) (a4 : Int) (a5 : Int) (a6 : List S38) (a7 : Nat) (a8 : Int) (a9 : List Int) (a10 : Int) (a11 : List Int) : Option ((Bool × (Bool × (Int × Int))) × (((List S38) × (Nat × Int)) × (((List Int) × Int) × (List Int)))) :=
  (bif (decide (a5 < a2)) then
    (bif (decide ((IntKind.wrap .u64 a5) < 0)) then
      none
    else
      (bif ((IntKind.wrap .i64 (BitVec.ofInt (IntKind.bits .i64) (Int.fdiv a4 (2 ^ (min (Int.toNat (IntKind.wrap .u64 a5)) (IntKind.bits .i64)))) &&& BitVec.ofInt (IntKind.bits .i64) (1 : Int)).toNat) == (1 : Int)) then
        (bif (decide (0 ≤ a3) && (Nat.beq (Int.toNat a3) (List.length a6) && Nat.blt (List.length a6) a7)) then
          (bif (Nat.beq (Int.toNat a3) (List.length a6)) then
            (bif (decide (((List.length a11 : Nat) : Int) < (4 : Int))) then
              (bif (decide (0 ≤ a3) && (Nat.beq (Int.toNat a3) (List.length a6) && Nat.blt (List.length a6) a7)) then
                (bif (Nat.beq (Int.toNat a3) (List.length a6)) then
                  (bif (appOK (List.length a11) (List.length [a5]) 8) then
                    (bif (decide (0 ≤ a3) && (Nat.beq (Int.toNat a3) (List.length a6) && Nat.blt (List.length a6) a7)) then
                      (bif (Nat.beq (Int.toNat a3) (List.length a6)) then
                        (L a0 a1 a2 a3 a4 (IntKind.wrap .i64 (a5 + (1 : Int))) a6 a7 a8 a9 a10 (a11 ++ [a5]))
                      else
                        none)
                    else
                      none)
                  else
                    none)
                else
                  none)
              else
                none)
            else
              (L a0 a1 a2 a3 a4 (IntKind.wrap .i64 (a5 + (1 : Int))) a6 a7 a8 a9 a10 a11))
          else
            none)
        else
          none)
      else
        (L a0 a1 a2 a3 a4 (IntKind.wrap .i64 (a5 + (1 : Int))) a6 a7 a8 a9 a10 a11)))
  else
    (some ((a0, (a1, (a2, a3))), ((a6, (a7, a8)), ((a9, a10), a11)))))
noncomputable def U25_1 (n : Nat) (L : ((Bool × (Bool × (Int × (Int × (Int × Int))))) × (((List S38) × (Nat × Int)) × (((List Int) × Int) × (List Int)))) → Option ((Bool × (Bool × (Int × Int))) × (((List S38) × (Nat × Int)) × (((List Int) × Int) × (List Int))))) (x : (Bool × (Bool × (Int × (Int × (Int × Int))))) × (((List S38) × (Nat × Int)) × (((List Int) × Int) × (List Int)))) : Option ((Bool × (Bool × (Int × Int))) × (((List S38) × (Nat × Int)) × (((List Int) × Int) × (List Int)))) := S25_1 n (fun a0 a1 a2 a3 a4 a5 a6 a7 a8 a9 a10 a11 => L ((a0, (a1, (a2, (a3, (a4, a5))))), ((a6, (a7, a8)), ((a9, a10), a11)))) x.1.1 x.1.2.1 x.1.2.2.1 x.1.2.2.2.1 x.1.2.2.2.2.1 x.1.2.2.2.2.2 x.2.1.1 x.2.1.2.1 x.2.1.2.2 x.2.2.1.1 x.2.2.1.2 x.2.2.2
noncomputable def L25_1 (n : Nat) (a0 : Bool) (a1 : Bool) (a2 : Int) (a3 : Int) (a4 : Int) (a5 : Int) (a6 : List S38) (a7 : Nat) (a8 : Int) (a9 : List Int) (a10 : Int) (a11 : List Int) : Option ((Bool × (Bool × (Int × Int))) × (((List S38) × (Nat × Int)) × (((List Int) × Int) × (List Int)))) := iter (U25_1 n) n ((a0, (a1, (a2, (a3, (a4, a5))))), ((a6, (a7, a8)), ((a9, a10), a11)))
noncomputable def S25_0 (n : Nat) (L : Bool → Bool → Int → Int → (List S38) → Nat → (List Int) → Int → Option ((List S38) × Nat)) (a0 : Bool) (a1 : Bool) (a2 : Int) (a3 : Int) (a4 : List S38) (a5 : Nat) (a6 : List Int) (a7 : Int) : Option ((List S38) × Nat) :=
  (bif (decide (a3 < a2)) then
    (bif (decide ((IntKind.wrap .u64 a2) < 0)) then
      none
    else
      (Option.bind (F40 n (IntKind.wrap .i64 ((1 : Int) * 2 ^ (min (Int.toNat (IntKind.wrap .u64 a2)) (IntKind.bits .i64)))) a6 a7) fun y1 =>
      (Option.bind (F40 n (4 : Int) y1.2.1 y1.2.2) fun y2 =>
      (bif (y2.1 == (0 : Int)) then
        (Option.bind (L25_1 n a0 a1 a2 a3 (0 : Int) (0 : Int) a4 a5 (0 : Int) y2.2.1 y2.2.2 ([] : List Int)) fun y3 =>
        (bif (decide (0 ≤ y3.1.2.2.2) && (Nat.beq (Int.toNat y3.1.2.2.2) (List.length y3.2.1.1) && Nat.blt (List.length y3.2.1.1) y3.2.1.2.1)) then
          (bif (Nat.beq (Int.toNat y3.1.2.2.2) (List.length y3.2.1.1)) then
            (bif (decide (((List.length y3.2.2.2 : Nat) : Int) > (0 : Int))) then
              (Option.bind (F40 n ((List.length y3.2.2.2 : Nat) : Int) y3.2.2.1.1 y3.2.2.1.2) fun y4 =>
              (bif (decide (0 ≤ y3.1.2.2.2) && (Nat.beq (Int.toNat y3.1.2.2.2) (List.length y3.2.1.1) && Nat.blt (List.length y3.2.1.1) y3.2.1.2.1)) then
                (bif (Nat.beq (Int.toNat y3.1.2.2.2) (List.length y3.2.1.1)) then
                  (bif y3.1.1 then
                    (bif (decide (0 ≤ y3.1.2.2.2) && (Nat.beq (Int.toNat y3.1.2.2.2) (List.length y3.2.1.1) && Nat.blt (List.length y3.2.1.1) y3.2.1.2.1)) then
                      (bif (Nat.beq (Int.toNat y3.1.2.2.2) (List.length y3.2.1.1)) then
                        (L y3.1.1 y3.1.2.1 y3.1.2.2.1 (IntKind.wrap .i64 (y3.1.2.2.2 + (1 : Int))) (y3.2.1.1 ++ [(S38.mk ((List.length y3.2.2.2 : Nat) : Int) y3.2.2.2)]) y3.2.1.2.1 y4.2.1 y4.2.2)
                      else
                        none)
                    else
                      none)
                  else
                    (bif y3.1.2.1 then
                      (bif (decide (0 ≤ y3.1.2.2.2) && (Nat.beq (Int.toNat y3.1.2.2.2) (List.length y3.2.1.1) && Nat.blt (List.length y3.2.1.1) y3.2.1.2.1)) then
                        (bif (Nat.beq (Int.toNat y3.1.2.2.2) (List.length y3.2.1.1)) then
                          (L y3.1.1 y3.1.2.1 y3.1.2.2.1 (IntKind.wrap .i64 (y3.1.2.2.2 + (1 : Int))) (y3.2.1.1 ++ [(S38.mk (1 : Int) y3.2.2.2)]) y3.2.1.2.1 y4.2.1 y4.2.2)
                        else
                          none)
                      else
                        none)
                    else
                      (L y3.1.1 y3.1.2.1 y3.1.2.2.1 (IntKind.wrap .i64 (y3.1.2.2.2 + (1 : Int))) (y3.2.1.1 ++ [(S38.mk (IntKind.wrap .i64 ((1 : Int) + y4.1)) y3.2.2.2)]) y3.2.1.2.1 y4.2.1 y4.2.2)))
                else
                  none)
              else
                none))
            else
              (L y3.1.1 y3.1.2.1 y3.1.2.2.1 (IntKind.wrap .i64 (y3.1.2.2.2 + (1 : Int))) (y3.2.1.1 ++ [(S38.mk y3.2.1.2.2 y3.2.2.2)]) y3.2.1.2.1 y3.2.2.1.1 y3.2.2.1.2))
          else
            none)
        else
          none))
      else
        (Option.bind (L25_1 n a0 a1 a2 a3 y1.1 (0 : Int) a4 a5 (0 : Int) y2.2.1 y2.2.2 ([] : List Int)) fun y5 =>
        (bif (decide (0 ≤ y5.1.2.2.2) && (Nat.beq (Int.toNat y5.1.2.2.2) (List.length y5.2.1.1) && Nat.blt (List.length y5.2.1.1) y5.2.1.2.1)) then
          (bif (Nat.beq (Int.toNat y5.1.2.2.2) (List.length y5.2.1.1)) then
            (bif (decide (((List.length y5.2.2.2 : Nat) : Int) > (0 : Int))) then
              (Option.bind (F40 n ((List.length y5.2.2.2 : Nat) : Int) y5.2.2.1.1 y5.2.2.1.2) fun y6 =>
              (bif (decide (0 ≤ y5.1.2.2.2) && (Nat.beq (Int.toNat y5.1.2.2.2) (List.length y5.2.1.1) && Nat.blt (List.length y5.2.1.1) y5.2.1.2.1)) then
                (bif (Nat.beq (Int.toNat y5.1.2.2.2) (List.length y5.2.1.1)) then
                  (bif y5.1.1 then
                    (bif (decide (0 ≤ y5.1.2.2.2) && (Nat.beq (Int.toNat y5.1.2.2.2) (List.length y5.2.1.1) && Nat.blt (List.length y5.2.1.1) y5.2.1.2.1)) then
                      (bif (Nat.beq (Int.toNat y5.1.2.2.2) (List.length y5.2.1.1)) then
                        (L y5.1.1 y5.1.2.1 y5.1.2.2.1 (IntKind.wrap .i64 (y5.1.2.2.2 + (1 : Int))) (y5.2.1.1 ++ [(S38.mk ((List.length y5.2.2.2 : Nat) : Int) y5.2.2.2)]) y5.2.1.2.1 y6.2.1 y6.2.2)
                      else
                        none)
                    else
                      none)
                  else
                    (bif y5.1.2.1 then
                      (bif (decide (0 ≤ y5.1.2.2.2) && (Nat.beq (Int.toNat y5.1.2.2.2) (List.length y5.2.1.1) && Nat.blt (List.length y5.2.1.1) y5.2.1.2.1)) then
                        (bif (Nat.beq (Int.toNat y5.1.2.2.2) (List.length y5.2.1.1)) then
                          (L y5.1.1 y5.1.2.1 y5.1.2.2.1 (IntKind.wrap .i64 (y5.1.2.2.2 + (1 : Int))) (y5.2.1.1 ++ [(S38.mk (1 : Int) y5.2.2.2)]) y5.2.1.2.1 y6.2.1 y6.2.2)
                        else
                          none)
                      else
                        none)
                    else
                      (L y5.1.1 y5.1.2.1 y5.1.2.2.1 (IntKind.wrap .i64 (y5.1.2.2.2 + (1 : Int))) (y5.2.1.1 ++ [(S38.mk (IntKind.wrap .i64 ((1 : Int) + y6.1)) y5.2.2.2)]) y5.2.1.2.1 y6.2.1 y6.2.2)))
                else
                  none)
              else
                none))
            else
              (L y5.1.1 y5.1.2.1 y5.1.2.2.1 (IntKind.wrap .i64 (y5.1.2.2.2 + (1 : Int))) (y5.2.1.1 ++ [(S38.mk y5.2.1.2.2 y5.2.2.2)]) y5.2.1.2.1 y5.2.2.1.1 y5.2.2.1.2))
          else
            none)
        else
          none))))))
  else
    (some (a4, a5)))
noncomputable def U25_0 (n : Nat) (L : ((Bool × (Bool × (Int × Int))) × (((List S38) × Nat) × ((List Int) × Int))) → Option ((List S38) × Nat)) (x : (Bool × (Bool × (Int × Int))) × (((List S38) × Nat) × ((List Int) × Int))) : Option ((List S38) × Nat) := S25_0 n (fun a0 a1 a2 a3 a4 a5 a6 a7 => L ((a0, (a1, (a2, a3))), ((a4, a5), (a6, a7)))) x.1.1 x.1.2.1 x.1.2.2.1 x.1.2.2.2 x.2.1.1 x.2.1.2 x.2.2.1 x.2.2.2
noncomputable def L25_0 (n : Nat) (a0 : Bool) (a1 : Bool) (a2 : Int) (a3 : Int) (a4 : List S38) (a5 : Nat) (a6 : List Int) (a7 : Int) : Option ((List S38) × Nat) := iter (U25_0 n) n ((a0, (a1, (a2, a3))), ((a4, a5), (a6, a7)))
noncomputable def F25 (n : Nat) (a0 : List Int) (a1 : Bool) (a2 : Bool) : Option (List S38) :=
  (Option.bind (F40 n (9 : Int) a0 (0 : Int)) fun y1 =>
  (bif (makeOK (IntKind.wrap .i64 ((1 : Int) + y1.1)) (IntKind.wrap .i64 ((1 : Int) + y1.1)) 32) then
    (Option.bind (L25_0 n a1 a2 (IntKind.wrap .i64 ((1 : Int) + y1.1)) (0 : Int) ([] : List S38) (Int.toNat (IntKind.wrap .i64 ((1 : Int) + y1.1))) y1.2.1 y1.2.2) fun y2 =>
    (some (List.take y2.2 (y2.1 ++ (S38.mk (0 : Int) ([] : List Int)) :: List.replicate (y2.2 - (List.length y2.1 + 1)) (S38.mk (0 : Int) ([] : List Int))))))
  else
    none))
noncomputable def c25 : Co (List (EV gam) × List (Ent gam)) ((List Int) × (Bool × Bool)) := (.pairL (.cons (.d gam (.sl (.int .i64))) (.cons (.d gam .bool) (.consL (.d gam .bool) (.nil _)))) (.nil _))
noncomputable def r25 : Co (EV gam × List (Ent gam) × List (Ent gam)) (List S38) := (.pairL (.d gam (.sl (.st 38))) (.pairU (.nil _) (.nil _)))
noncomputable def b25 : Code := (Try.f25.body).getD .skip
noncomputable def b25_0 : Code := (loopsIn b25).getD 0 .skip
noncomputable def kp25_0 : Keep := { slots := [1, 2, 7, 8, 9, 10], rows := [], boxes := [3002000, 1003000], tombs := [], cls := [3002000] }
noncomputable def c25_0 : Co (List (EV gam) × List (Ent gam)) ((Bool × (Bool × (Int × Int))) × (((List S38) × Nat) × ((List Int) × Int))) := (.pair (.cons (.d gam .bool) (.cons (.d gam .bool) (.consU (.ptr gam 1003000 0) (.cons (.d gam (.int .i64)) (.consU (.ow gam 3002000) (.consL (.d gam (.int .i64)) (.nil _))))))) (.cons (.fillU (.st 38) (.zl gam ((zeroCells Try.prog 38).getD [])) ((zeroCells Try.prog 38).getD [])) (.consL (.box (.cons (.d gam (.sl (.int .i64))) (.consL (.d gam (.int .i64)) (.nil _)))) (.nil _))))
noncomputable def x25_0 : Xc gam ((List S38) × Nat) := (.one (.exit 0) { slots := [9], rows := [], boxes := [3002000], tombs := [] } (.pairU (.consU (.ow gam 3002000) (.nil _)) (.consL (.fillU (.st 38) (.zl gam ((zeroCells Try.prog 38).getD [])) ((zeroCells Try.prog 38).getD [])) (.nil _))))
noncomputable def b25_1 : Code := (loopsIn b25).getD 1 .skip
noncomputable def kp25_1 : Keep := { slots := [1, 2, 7, 8, 9, 10, 11, 12], rows := [((3002000, some 1), 7001000001, (.int .i64))], boxes := [3002000, 1003000], tombs := [] }
noncomputable def c25_1 : Co (List (EV gam) × List (Ent gam)) ((Bool × (Bool × (Int × (Int × (Int × Int))))) × (((List S38) × (Nat × Int)) × (((List Int) × Int) × (List Int)))) := (.pair (.cons (.d gam .bool) (.cons (.d gam .bool) (.consU (.ptr gam 1003000 0) (.cons (.d gam (.int .i64)) (.consU (.ow gam 3002000) (.cons (.d gam (.int .i64)) (.cons (.d gam (.int .i64)) (.consL (.d gam (.int .i64)) (.nil _))))))))) (.cons (.fill (.st 38) (.consL (.d gam (.int .i64)) (.consU (.ow gam 7001000001) (.nil _))) ((zeroCells Try.prog 38).getD [])) (.cons (.box (.cons (.d gam (.sl (.int .i64))) (.consL (.d gam (.int .i64)) (.nil _)))) (.consL (.row gam (.int .i64) 0) (.nil _)))))
noncomputable def x25_1 : Xc gam ((Bool × (Bool × (Int × Int))) × (((List S38) × (Nat × Int)) × (((List Int) × Int) × (List Int)))) := (.one (.exit 2) { slots := [1, 2, 7, 8, 9, 10], rows := [((3002000, some 1), 7001000001, (.int .i64))], boxes := [3002000, 1003000], tombs := [] } (.pair (.cons (.d gam .bool) (.cons (.d gam .bool) (.consU (.ptr gam 1003000 0) (.cons (.d gam (.int .i64)) (.consU (.ow gam 3002000) (.consL (.d gam (.int .i64)) (.nil _))))))) (.cons (.fill (.st 38) (.consL (.d gam (.int .i64)) (.consU (.ow gam 7001000001) (.nil _))) ((zeroCells Try.prog 38).getD [])) (.cons (.box (.cons (.d gam (.sl (.int .i64))) (.consL (.d gam (.int .i64)) (.nil _)))) (.consL (.row gam (.int .i64) 0) (.nil _))))))
noncomputable def t25_0 (n : Nat) : LoopT gam := loopT kp25_0 c25_0 x25_0 (iter (U25_0 n) n)
noncomputable def t25_1 (n : Nat) : LoopT gam := loopT kp25_1 c25_1 x25_1 (iter (U25_1 n) n)
noncomputable def e25 (n : Nat) : FnT gam := fnN [[some (.int .i64)]] (fnT [] c25 r25 (fun x => F25 n x.1 x.2.1 x.2.2))
noncomputable def p25 (a : List (EV gam)) (l : List (Ent gam)) : Bool := (c25.dec (nilArgs [[some (.int .i64)]] a, l)).isSome
noncomputable def env25 (n : Nat) : Env gam := { P := Try.prog, fns := lookU [(40, e40 n)], loops := lookU [(5, t25_0 n), (11, t25_1 n)], nt := 95, m := 0, keeps := [], eqs := [], fills := [3002000] }
theorem env25_ok (n : Nat) : EnvOK (env25 n) := .of _ rfl (by exact ⟨ok40 n, trivial⟩) (by exact fun t h => nomatch h) (by kernel_rfl)
theorem lin25_1 (n : Nat) : LoopsOK (env25 n) b25_1 := .of [] (by kernel_rfl) trivial
theorem lok25_1 (n : Nat) : LoopOK (env25 n) b25_1 (t25_1 n) := loopT_ok (env25_ok n) (lin25_1 n) (fun L x => by kernel_rfl) n
theorem lin25_0 (n : Nat) : LoopsOK (env25 n) b25_0 := .of [(b25_1, 11, t25_1 n)] (by kernel_rfl) ⟨by kernel_rfl, by kernel_rfl, lok25_1 n, trivial⟩
theorem lok25_0 (n : Nat) : LoopOK (env25 n) b25_0 (t25_0 n) := loopT_ok (env25_ok n) (lin25_0 n) (fun L x => by kernel_rfl) n
theorem lin25 (n : Nat) : LoopsOK (env25 n) b25 := .of [(b25_0, 5, t25_0 n), (b25_1, 11, t25_1 n)] (by kernel_rfl) ⟨by kernel_rfl, by kernel_rfl, lok25_0 n, by kernel_rfl, by kernel_rfl, lok25_1 n, trivial⟩
theorem eq25 (n : Nat) (x : (List Int) × (Bool × Bool)) : (F25 n x.1 x.2.1 x.2.2) = fnE (env25 n) Try.f25 [[.dat (.st 38)]] (some { slots := [6], rows := [((6, none), 7000000699, (.st 38))], boxes := [], tombs := [], fin := [3002000] }) c25 r25 x := by kernel_rfl
theorem okt25 (n : Nat) : FnOK Try.prog 25 (fnT (G := gam) [] c25 r25 (fun x => F25 n x.1 x.2.1 x.2.2)) := fnT_ok (env25_ok n) (by kernel_rfl) (by kernel_rfl) (by kernel_rfl) (b := b25) (by kernel_rfl) (fun x => by kernel_rfl) (lin25 n) (eq25 n)
theorem ok25 (n : Nat) : FnOK Try.prog 25 (e25 n) := fnN_ok (okt25 n)
/-! ### clusterlockslaw19.WaitgraphMade -/
noncomputable def F5 (n : Nat) (a0 : List Int) (a1 : Int) : Option Bool :=
  (Option.bind (F24 n a0) fun y1 =>
  (bif (bNot y1) then
    (Option.bind (F11 n ()) fun y2 =>
    (some y2))
  else
    (Option.bind (F25 n a0 false false) fun y3 =>
    (Option.bind (F26 n a1 ((List.length y3 : Nat) : Int)) fun y4 =>
    (Option.bind (F11 n ()) fun y5 =>
    (bif y5 then
      (Option.bind (F12 n y3) fun y6 =>
      (bif y6 then
        (Option.bind (F15 n y3) fun y7 =>
        (Option.bind (F16 n y3) fun y8 =>
        (Option.bind (F14 n y7 y8) fun y9 =>
        (bif y9 then
          (Option.bind (F19 n y3 y4) fun y10 =>
          (Option.bind (F20 n y3 y4) fun y11 =>
          (Option.bind (F14 n y10 y11) fun y12 =>
          (bif y12 then
            (Option.bind (F22 n y3) fun y13 =>
            (Option.bind (F23 n y3) fun y14 =>
            (Option.bind (F21 n y13 y14) fun y15 =>
            (bif y15 then
              (Option.bind (F17 n y3 y4) fun y16 =>
              (Option.bind (F18 n y3 y4) fun y17 =>
              (Option.bind (F14 n y16 y17) fun y18 =>
              (some y18))))
            else
              (some false)))))
          else
            (some false)))))
        else
          (some false)))))
      else
        (some false)))
    else
      (some false)))))))
noncomputable def c5 : Co (List (EV gam) × List (Ent gam)) ((List Int) × Int) := (.pairL (.cons (.d gam (.sl (.int .i64))) (.consL (.d gam (.int .i64)) (.nil _))) (.nil _))
noncomputable def r5 : Co (EV gam × List (Ent gam) × List (Ent gam)) Bool := (.pairL (.d gam .bool) (.pairU (.nil _) (.nil _)))
noncomputable def b5 : Code := (Try.f5.body).getD .skip
noncomputable def e5 (n : Nat) : FnT gam := fnN [[some (.int .i64)]] (fnT [] c5 r5 (fun x => F5 n x.1 x.2))
noncomputable def p5 (a : List (EV gam)) (l : List (Ent gam)) : Bool := (c5.dec (nilArgs [[some (.int .i64)]] a, l)).isSome
noncomputable def env5 (n : Nat) : Env gam := { P := Try.prog, fns := lookU [(11, e11 n), (12, e12 n), (14, e14 n), (15, e15 n), (16, e16 n), (17, e17 n), (18, e18 n), (19, e19 n), (20, e20 n), (21, e21 n), (22, e22 n), (23, e23 n), (24, e24 n), (25, e25 n), (26, e26 n)], loops := lookU [], nt := 53, m := 0, keeps := [], eqs := [] }
theorem env5_ok (n : Nat) : EnvOK (env5 n) := .of _ rfl (by exact ⟨ok11 n, ok12 n, ok14 n, ok15 n, ok16 n, ok17 n, ok18 n, ok19 n, ok20 n, ok21 n, ok22 n, ok23 n, ok24 n, ok25 n, ok26 n, trivial⟩) (by exact fun t h => nomatch h) (by kernel_rfl)
theorem lin5 (n : Nat) : LoopsOK (env5 n) b5 := .of [] (by kernel_rfl) trivial
theorem eq5 (n : Nat) (x : (List Int) × Int) : (F5 n x.1 x.2) = fnE (env5 n) Try.f5 [[.asis]] none c5 r5 x := by kernel_rfl
theorem okt5 (n : Nat) : FnOK Try.prog 5 (fnT (G := gam) [] c5 r5 (fun x => F5 n x.1 x.2)) := fnT_ok (env5_ok n) (by kernel_rfl) (by kernel_rfl) (by kernel_rfl) (b := b5) (by kernel_rfl) (fun x => by kernel_rfl) (lin5 n) (eq5 n)
theorem ok5 (n : Nat) : FnOK Try.prog 5 (e5 n) := fnN_ok (okt5 n)
/-! ### clusterlockslaw19.has -/
noncomputable def S27_0 (n : Nat) (L : (List Int) → Int → Int → Option (Unit ⊕ Bool)) (a0 : List Int) (a1 : Int) (a2 : Int) : Option (Unit ⊕ Bool) :=
  (bif (decide (a2 < ((List.length a0 : Nat) : Int))) then
    (Option.bind (ixo a0 a2) fun y1 =>
    (bif (y1 == a1) then (some (.inr true)) else (L a0 a1 (IntKind.wrap .i64 (a2 + (1 : Int))))))
  else
    (some (.inl ())))
noncomputable def U27_0 (n : Nat) (L : ((List Int) × (Int × Int)) → Option (Unit ⊕ Bool)) (x : (List Int) × (Int × Int)) : Option (Unit ⊕ Bool) := S27_0 n (fun a0 a1 a2 => L (a0, (a1, a2))) x.1 x.2.1 x.2.2
noncomputable def L27_0 (n : Nat) (a0 : List Int) (a1 : Int) (a2 : Int) : Option (Unit ⊕ Bool) := iter (U27_0 n) n (a0, (a1, a2))
noncomputable def F27 (n : Nat) (a0 : List Int) (a1 : Int) : Option Bool :=
  (Option.bind (L27_0 n a0 a1 (0 : Int)) fun y1 =>
  (Sum.elim (fun y2 => (some false)) (fun y3 => (some y3)) y1))
noncomputable def c27 : Co (List (EV gam) × List (Ent gam)) ((List Int) × Int) := (.pairL (.cons (.d gam (.sl (.int .i64))) (.consL (.d gam (.int .i64)) (.nil _))) (.nil _))
noncomputable def r27 : Co (EV gam × List (Ent gam) × List (Ent gam)) Bool := (.pairL (.d gam .bool) (.pairU (.nil _) (.nil _)))
noncomputable def b27 : Code := (Try.f27.body).getD .skip
noncomputable def b27_0 : Code := (loopsIn b27).getD 0 .skip
noncomputable def kp27_0 : Keep := { slots := [0, 1, 5], rows := [], boxes := [], tombs := [] }
noncomputable def c27_0 : Co (List (EV gam) × List (Ent gam)) ((List Int) × (Int × Int)) := (.pairL (.cons (.d gam (.sl (.int .i64))) (.cons (.d gam (.int .i64)) (.consL (.d gam (.int .i64)) (.nil _)))) (.nil _))
noncomputable def x27_0 : Xc gam (Unit ⊕ Bool) := (.or (.one (.exit 0) { slots := [], rows := [], boxes := [], tombs := [] } (.pairU (.nil _) (.nil _))) (.one .ret { slots := [4], rows := [], boxes := [], tombs := [] } (.pairL (.consL (.d gam .bool) (.nil _)) (.nil _))))
noncomputable def t27_0 (n : Nat) : LoopT gam := loopT kp27_0 c27_0 x27_0 (iter (U27_0 n) n)
noncomputable def e27 (n : Nat) : FnT gam := fnN [[some (.int .i64)]] (fnT [] c27 r27 (fun x => F27 n x.1 x.2))
noncomputable def p27 (a : List (EV gam)) (l : List (Ent gam)) : Bool := (c27.dec (nilArgs [[some (.int .i64)]] a, l)).isSome
noncomputable def env27 (n : Nat) : Env gam := { P := Try.prog, fns := lookU [], loops := lookU [(2, t27_0 n)], nt := 18, m := 0, keeps := [], eqs := [] }
theorem env27_ok (n : Nat) : EnvOK (env27 n) := .of _ rfl (by exact trivial) (by exact fun t h => nomatch h) (by kernel_rfl)
theorem lin27_0 (n : Nat) : LoopsOK (env27 n) b27_0 := .of [] (by kernel_rfl) trivial
theorem lok27_0 (n : Nat) : LoopOK (env27 n) b27_0 (t27_0 n) := loopT_ok (env27_ok n) (lin27_0 n) (fun L x => by kernel_rfl) n
theorem lin27 (n : Nat) : LoopsOK (env27 n) b27 := .of [(b27_0, 2, t27_0 n)] (by kernel_rfl) ⟨by kernel_rfl, by kernel_rfl, lok27_0 n, trivial⟩
theorem eq27 (n : Nat) (x : (List Int) × Int) : (F27 n x.1 x.2) = fnE (env27 n) Try.f27 [[.asis]] none c27 r27 x := by kernel_rfl
theorem okt27 (n : Nat) : FnOK Try.prog 27 (fnT (G := gam) [] c27 r27 (fun x => F27 n x.1 x.2)) := fnT_ok (env27_ok n) (by kernel_rfl) (by kernel_rfl) (by kernel_rfl) (b := b27) (by kernel_rfl) (fun x => by kernel_rfl) (lin27 n) (eq27 n)
theorem ok27 (n : Nat) : FnOK Try.prog 27 (e27 n) := fnN_ok (okt27 n)
/-! ### clusterlockslaw19.WaitgraphPaths -/
noncomputable def S6_0 (n : Nat) (L : Int → (List S38) → (List Int) → Int → Option ((Int × ((List S38) × (List Int))) ⊕ Bool)) (a0 : Int) (a1 : List S38) (a2 : List Int) (a3 : Int) : Option ((Int × ((List S38) × (List Int))) ⊕ Bool) :=
  (bif (decide (a3 < ((List.length a2 : Nat) : Int))) then
    (Option.bind (ixo a2 a3) fun y1 =>
    (bif (decide (y1 < (0 : Int))) then
      (some (.inr false))
    else
      (Option.bind (ixo a2 a3) fun y2 =>
      (bif (decide (y2 ≥ ((List.length a1 : Nat) : Int))) then
        (some (.inr false))
      else
        (Option.bind (ixo a2 a3) fun y3 =>
        (Option.bind (ixo a1 y3) fun y4 =>
        (bif (((List.length a2 : Nat) : Int) == 0) then
          none
        else
          (Option.bind (ixo a2 (Int.tmod (IntKind.wrap .i64 (a3 + (1 : Int))) ((List.length a2 : Nat) : Int))) fun y5 =>
          (Option.bind (F27 n y4.Next y5) fun y6 =>
          (bif (bNot y6) then (some (.inr false)) else (L a0 a1 a2 (IntKind.wrap .i64 (a3 + (1 : Int))))))))))))))
  else
    (some (.inl (a0, (a1, a2)))))
noncomputable def U6_0 (n : Nat) (L : (Int × ((List S38) × ((List Int) × Int))) → Option ((Int × ((List S38) × (List Int))) ⊕ Bool)) (x : Int × ((List S38) × ((List Int) × Int))) : Option ((Int × ((List S38) × (List Int))) ⊕ Bool) := S6_0 n (fun a0 a1 a2 a3 => L (a0, (a1, (a2, a3)))) x.1 x.2.1 x.2.2.1 x.2.2.2
noncomputable def L6_0 (n : Nat) (a0 : Int) (a1 : List S38) (a2 : List Int) (a3 : Int) : Option ((Int × ((List S38) × (List Int))) ⊕ Bool) := iter (U6_0 n) n (a0, (a1, (a2, a3)))
noncomputable def F6 (n : Nat) (a0 : List Int) (a1 : Int) : Option Bool :=
  (Option.bind (F24 n a0) fun y1 =>
  (bif (bNot y1) then
    (Option.bind (F11 n ()) fun y2 =>
    (some y2))
  else
    (Option.bind (F25 n a0 false false) fun y3 =>
    (Option.bind (F26 n a1 ((List.length y3 : Nat) : Int)) fun y4 =>
    (Option.bind (F19 n y3 y4) fun y5 =>
    (bif (((List.length y5 : Nat) : Int) == (0 : Int)) then
      (Option.bind (F11 n ()) fun y6 =>
      (bif y6 then
        (Option.bind (F17 n y3 y4) fun y7 =>
        (Option.bind (F27 n y7 y4) fun y8 =>
        (some (bNot y8))))
      else
        (some false)))
    else
      (Option.bind (L6_0 n y4 y3 y5 (0 : Int)) fun y9 =>
      (Sum.elim (fun y10 => (Option.bind (F11 n ()) fun y12 =>
      (bif y12 then
        (Option.bind (ixo y10.2.2 (0 : Int)) fun y13 =>
        (bif (y13 == y10.1) then
          (Option.bind (F17 n y10.2.1 y10.1) fun y14 =>
          (Option.bind (F27 n y14 y10.1) fun y15 =>
          (some y15)))
        else
          (some false)))
      else
        (some false)))) (fun y11 => (some y11)) y9))))))))
noncomputable def c6 : Co (List (EV gam) × List (Ent gam)) ((List Int) × Int) := (.pairL (.cons (.d gam (.sl (.int .i64))) (.consL (.d gam (.int .i64)) (.nil _))) (.nil _))
noncomputable def r6 : Co (EV gam × List (Ent gam) × List (Ent gam)) Bool := (.pairL (.d gam .bool) (.pairU (.nil _) (.nil _)))
noncomputable def b6 : Code := (Try.f6.body).getD .skip
noncomputable def b6_0 : Code := (loopsIn b6).getD 0 .skip
noncomputable def kp6_0 : Keep := { slots := [1, 5, 6, 7], rows := [], boxes := [], tombs := [] }
noncomputable def c6_0 : Co (List (EV gam) × List (Ent gam)) (Int × ((List S38) × ((List Int) × Int))) := (.pairL (.cons (.d gam (.int .i64)) (.cons (.d gam (.sl (.st 38))) (.cons (.d gam (.sl (.int .i64))) (.consL (.d gam (.int .i64)) (.nil _))))) (.nil _))
noncomputable def x6_0 : Xc gam ((Int × ((List S38) × (List Int))) ⊕ Bool) := (.or (.one (.exit 0) { slots := [1, 5, 6], rows := [], boxes := [], tombs := [] } (.pairL (.cons (.d gam (.int .i64)) (.cons (.d gam (.sl (.st 38))) (.consL (.d gam (.sl (.int .i64))) (.nil _)))) (.nil _))) (.one .ret { slots := [4], rows := [], boxes := [], tombs := [] } (.pairL (.consL (.d gam .bool) (.nil _)) (.nil _))))
noncomputable def t6_0 (n : Nat) : LoopT gam := loopT kp6_0 c6_0 x6_0 (iter (U6_0 n) n)
noncomputable def e6 (n : Nat) : FnT gam := fnN [[some (.int .i64)]] (fnT [] c6 r6 (fun x => F6 n x.1 x.2))
noncomputable def p6 (a : List (EV gam)) (l : List (Ent gam)) : Bool := (c6.dec (nilArgs [[some (.int .i64)]] a, l)).isSome
noncomputable def env6 (n : Nat) : Env gam := { P := Try.prog, fns := lookU [(11, e11 n), (17, e17 n), (19, e19 n), (24, e24 n), (25, e25 n), (26, e26 n), (27, e27 n)], loops := lookU [(9, t6_0 n)], nt := 88, m := 0, keeps := [], eqs := [] }
theorem env6_ok (n : Nat) : EnvOK (env6 n) := .of _ rfl (by exact ⟨ok11 n, ok17 n, ok19 n, ok24 n, ok25 n, ok26 n, ok27 n, trivial⟩) (by exact fun t h => nomatch h) (by kernel_rfl)
theorem lin6_0 (n : Nat) : LoopsOK (env6 n) b6_0 := .of [] (by kernel_rfl) trivial
theorem lok6_0 (n : Nat) : LoopOK (env6 n) b6_0 (t6_0 n) := loopT_ok (env6_ok n) (lin6_0 n) (fun L x => by kernel_rfl) n
theorem lin6 (n : Nat) : LoopsOK (env6 n) b6 := .of [(b6_0, 9, t6_0 n)] (by kernel_rfl) ⟨by kernel_rfl, by kernel_rfl, lok6_0 n, trivial⟩
theorem eq6 (n : Nat) (x : (List Int) × Int) : (F6 n x.1 x.2) = fnE (env6 n) Try.f6 [[.asis]] none c6 r6 x := by kernel_rfl
theorem okt6 (n : Nat) : FnOK Try.prog 6 (fnT (G := gam) [] c6 r6 (fun x => F6 n x.1 x.2)) := fnT_ok (env6_ok n) (by kernel_rfl) (by kernel_rfl) (by kernel_rfl) (b := b6) (by kernel_rfl) (fun x => by kernel_rfl) (lin6 n) (eq6 n)
theorem ok6 (n : Nat) : FnOK Try.prog 6 (e6 n) := fnN_ok (okt6 n)
/-! ### clusterlockslaw19.WaitgraphAnd -/
noncomputable def S7_1 (n : Nat) (L : (List S38) → (List Int) → Int → Bool → (List Int) → Int → Option ((List S38) × ((List Int) × (Int × Bool)))) (a0 : List S38) (a1 : List Int) (a2 : Int) (a3 : Bool) (a4 : List Int) (a5 : Int) : Option ((List S38) × ((List Int) × (Int × Bool))) :=
  (bif (decide (a5 < ((List.length a4 : Nat) : Int))) then
    (bif a3 then
      (L a0 a1 a2 true a4 (IntKind.wrap .i64 (a5 + (1 : Int))))
    else
      (Option.bind (ixo a4 a5) fun y1 =>
      (Option.bind (F19 n a0 y1) fun y2 =>
      (L a0 a1 a2 (decide (((List.length y2 : Nat) : Int) > (0 : Int))) a4 (IntKind.wrap .i64 (a5 + (1 : Int)))))))
  else
    (some (a0, (a1, (a2, a3)))))
noncomputable def U7_1 (n : Nat) (L : ((List S38) × ((List Int) × (Int × (Bool × ((List Int) × Int))))) → Option ((List S38) × ((List Int) × (Int × Bool)))) (x : (List S38) × ((List Int) × (Int × (Bool × ((List Int) × Int))))) : Option ((List S38) × ((List Int) × (Int × Bool))) := S7_1 n (fun a0 a1 a2 a3 a4 a5 => L (a0, (a1, (a2, (a3, (a4, a5)))))) x.1 x.2.1 x.2.2.1 x.2.2.2.1 x.2.2.2.2.1 x.2.2.2.2.2
noncomputable def L7_1 (n : Nat) (a0 : List S38) (a1 : List Int) (a2 : Int) (a3 : Bool) (a4 : List Int) (a5 : Int) : Option ((List S38) × ((List Int) × (Int × Bool))) := iter (U7_1 n) n (a0, (a1, (a2, (a3, (a4, a5)))))
noncomputable def S7_0 (n : Nat) (L : (List S38) → (List Int) → Int → Option (Unit ⊕ Bool)) (a0 : List S38) (a1 : List Int) (a2 : Int) : Option (Unit ⊕ Bool) :=
  (bif (decide (a2 < ((List.length a0 : Nat) : Int))) then
    (Option.bind (F19 n a0 a2) fun y1 =>
    (Option.bind (F17 n a0 a2) fun y2 =>
    (Option.bind (L7_1 n a0 a1 a2 (decide (((List.length y1 : Nat) : Int) > (0 : Int))) y2 (0 : Int)) fun y3 =>
    (Option.bind (F27 n y3.2.1 y3.2.2.1) fun y4 =>
    (bif (bNot (bEq y3.2.2.2 y4)) then
      (some (.inr false))
    else
      (L y3.1 y3.2.1 (IntKind.wrap .i64 (y3.2.2.1 + (1 : Int)))))))))
  else
    (some (.inl ())))
noncomputable def U7_0 (n : Nat) (L : ((List S38) × ((List Int) × Int)) → Option (Unit ⊕ Bool)) (x : (List S38) × ((List Int) × Int)) : Option (Unit ⊕ Bool) := S7_0 n (fun a0 a1 a2 => L (a0, (a1, a2))) x.1 x.2.1 x.2.2
noncomputable def L7_0 (n : Nat) (a0 : List S38) (a1 : List Int) (a2 : Int) : Option (Unit ⊕ Bool) := iter (U7_0 n) n (a0, (a1, a2))
noncomputable def F7 (n : Nat) (a0 : List Int) : Option Bool :=
  (Option.bind (F24 n a0) fun y1 =>
  (bif (bNot y1) then
    (Option.bind (F11 n ()) fun y2 =>
    (some y2))
  else
    (Option.bind (F25 n a0 true false) fun y3 =>
    (Option.bind (F15 n y3) fun y4 =>
    (Option.bind (L7_0 n y3 y4 (0 : Int)) fun y5 =>
    (Sum.elim (fun y6 => (Option.bind (F11 n ()) fun y8 =>
    (some y8))) (fun y7 => (some y7)) y5))))))
noncomputable def c7 : Co (List (EV gam) × List (Ent gam)) (List Int) := (.pairL (.consL (.d gam (.sl (.int .i64))) (.nil _)) (.nil _))
noncomputable def r7 : Co (EV gam × List (Ent gam) × List (Ent gam)) Bool := (.pairL (.d gam .bool) (.pairU (.nil _) (.nil _)))
noncomputable def b7 : Code := (Try.f7.body).getD .skip
noncomputable def b7_0 : Code := (loopsIn b7).getD 0 .skip
noncomputable def kp7_0 : Keep := { slots := [3, 4, 5], rows := [], boxes := [], tombs := [] }
noncomputable def c7_0 : Co (List (EV gam) × List (Ent gam)) ((List S38) × ((List Int) × Int)) := (.pairL (.cons (.d gam (.sl (.st 38))) (.cons (.d gam (.sl (.int .i64))) (.consL (.d gam (.int .i64)) (.nil _)))) (.nil _))
noncomputable def x7_0 : Xc gam (Unit ⊕ Bool) := (.or (.one (.exit 0) { slots := [], rows := [], boxes := [], tombs := [] } (.pairU (.nil _) (.nil _))) (.one .ret { slots := [2], rows := [], boxes := [], tombs := [] } (.pairL (.consL (.d gam .bool) (.nil _)) (.nil _))))
noncomputable def b7_1 : Code := (loopsIn b7).getD 1 .skip
noncomputable def kp7_1 : Keep := { slots := [3, 4, 5, 6, 7, 8], rows := [], boxes := [], tombs := [] }
noncomputable def c7_1 : Co (List (EV gam) × List (Ent gam)) ((List S38) × ((List Int) × (Int × (Bool × ((List Int) × Int))))) := (.pairL (.cons (.d gam (.sl (.st 38))) (.cons (.d gam (.sl (.int .i64))) (.cons (.d gam (.int .i64)) (.cons (.d gam .bool) (.cons (.d gam (.sl (.int .i64))) (.consL (.d gam (.int .i64)) (.nil _))))))) (.nil _))
noncomputable def x7_1 : Xc gam ((List S38) × ((List Int) × (Int × Bool))) := (.one (.exit 2) { slots := [3, 4, 5, 6], rows := [], boxes := [], tombs := [] } (.pairL (.cons (.d gam (.sl (.st 38))) (.cons (.d gam (.sl (.int .i64))) (.cons (.d gam (.int .i64)) (.consL (.d gam .bool) (.nil _))))) (.nil _)))
noncomputable def t7_0 (n : Nat) : LoopT gam := loopT kp7_0 c7_0 x7_0 (iter (U7_0 n) n)
noncomputable def t7_1 (n : Nat) : LoopT gam := loopT kp7_1 c7_1 x7_1 (iter (U7_1 n) n)
noncomputable def e7 (n : Nat) : FnT gam := fnN [[some (.int .i64)]] (fnT [] c7 r7 (fun x => F7 n x))
noncomputable def p7 (a : List (EV gam)) (l : List (Ent gam)) : Bool := (c7.dec (nilArgs [[some (.int .i64)]] a, l)).isSome
noncomputable def env7 (n : Nat) : Env gam := { P := Try.prog, fns := lookU [(11, e11 n), (15, e15 n), (17, e17 n), (19, e19 n), (24, e24 n), (25, e25 n), (27, e27 n)], loops := lookU [(6, t7_0 n), (11, t7_1 n)], nt := 54, m := 0, keeps := [], eqs := [] }
theorem env7_ok (n : Nat) : EnvOK (env7 n) := .of _ rfl (by exact ⟨ok11 n, ok15 n, ok17 n, ok19 n, ok24 n, ok25 n, ok27 n, trivial⟩) (by exact fun t h => nomatch h) (by kernel_rfl)
theorem lin7_1 (n : Nat) : LoopsOK (env7 n) b7_1 := .of [] (by kernel_rfl) trivial
theorem lok7_1 (n : Nat) : LoopOK (env7 n) b7_1 (t7_1 n) := loopT_ok (env7_ok n) (lin7_1 n) (fun L x => by kernel_rfl) n
theorem lin7_0 (n : Nat) : LoopsOK (env7 n) b7_0 := .of [(b7_1, 11, t7_1 n)] (by kernel_rfl) ⟨by kernel_rfl, by kernel_rfl, lok7_1 n, trivial⟩
theorem lok7_0 (n : Nat) : LoopOK (env7 n) b7_0 (t7_0 n) := loopT_ok (env7_ok n) (lin7_0 n) (fun L x => by kernel_rfl) n
theorem lin7 (n : Nat) : LoopsOK (env7 n) b7 := .of [(b7_0, 6, t7_0 n), (b7_1, 11, t7_1 n)] (by kernel_rfl) ⟨by kernel_rfl, by kernel_rfl, lok7_0 n, by kernel_rfl, by kernel_rfl, lok7_1 n, trivial⟩
theorem eq7 (n : Nat) (x : List Int) : (F7 n x) = fnE (env7 n) Try.f7 [[.asis]] none c7 r7 x := by kernel_rfl
theorem okt7 (n : Nat) : FnOK Try.prog 7 (fnT (G := gam) [] c7 r7 (fun x => F7 n x)) := fnT_ok (env7_ok n) (by kernel_rfl) (by kernel_rfl) (by kernel_rfl) (b := b7) (by kernel_rfl) (fun x => by kernel_rfl) (lin7 n) (eq7 n)
theorem ok7 (n : Nat) : FnOK Try.prog 7 (e7 n) := fnN_ok (okt7 n)
/-! ### clusterlockslaw19.WaitgraphOr -/
noncomputable def S8_3 (n : Nat) (L : (List Int) → (List (List Int)) → Int → Int → Option (((List Int) × ((List (List Int)) × Int)) ⊕ Bool)) (a0 : List Int) (a1 : List (List Int)) (a2 : Int) (a3 : Int) : Option (((List Int) × ((List (List Int)) × Int)) ⊕ Bool) :=
  (Option.bind (ixo a1 a2) fun y1 =>
  (bif (decide (a3 < ((List.length y1 : Nat) : Int))) then
    (Option.bind (ixo a1 a2) fun y2 =>
    (Option.bind (ixo y2 a3) fun y3 =>
    (Option.bind (F27 n a0 y3) fun y4 =>
    (bif (bNot y4) then (some (.inr false)) else (L a0 a1 a2 (IntKind.wrap .i64 (a3 + (1 : Int))))))))
  else
    (some (.inl (a0, (a1, a2))))))
noncomputable def U8_3 (n : Nat) (L : ((List Int) × ((List (List Int)) × (Int × Int))) → Option (((List Int) × ((List (List Int)) × Int)) ⊕ Bool)) (x : (List Int) × ((List (List Int)) × (Int × Int))) : Option (((List Int) × ((List (List Int)) × Int)) ⊕ Bool) := S8_3 n (fun a0 a1 a2 a3 => L (a0, (a1, (a2, a3)))) x.1 x.2.1 x.2.2.1 x.2.2.2
noncomputable def L8_3 (n : Nat) (a0 : List Int) (a1 : List (List Int)) (a2 : Int) (a3 : Int) : Option (((List Int) × ((List (List Int)) × Int)) ⊕ Bool) := iter (U8_3 n) n (a0, (a1, (a2, a3)))
noncomputable def S8_2 (n : Nat) (L : (List Int) → (List (List Int)) → Int → Option (Unit ⊕ Bool)) (a0 : List Int) (a1 : List (List Int)) (a2 : Int) : Option (Unit ⊕ Bool) :=
  (bif (decide (a2 < ((List.length a1 : Nat) : Int))) then
    (Option.bind (L8_3 n a0 a1 a2 (0 : Int)) fun y1 =>
    (Sum.elim (fun y2 => (L y2.1 y2.2.1 (IntKind.wrap .i64 (y2.2.2 + (1 : Int))))) (fun y3 => (some (.inr y3))) y1))
  else
    (some (.inl ())))
noncomputable def U8_2 (n : Nat) (L : ((List Int) × ((List (List Int)) × Int)) → Option (Unit ⊕ Bool)) (x : (List Int) × ((List (List Int)) × Int)) : Option (Unit ⊕ Bool) := S8_2 n (fun a0 a1 a2 => L (a0, (a1, a2))) x.1 x.2.1 x.2.2
noncomputable def L8_2 (n : Nat) (a0 : List Int) (a1 : List (List Int)) (a2 : Int) : Option (Unit ⊕ Bool) := iter (U8_2 n) n (a0, (a1, a2))
noncomputable def S8_1 (n : Nat) (L : (List S38) → (List Int) → Int → Bool → (List Int) → Int → Option ((List S38) × ((List Int) × (Int × Bool)))) (a0 : List S38) (a1 : List Int) (a2 : Int) (a3 : Bool) (a4 : List Int) (a5 : Int) : Option ((List S38) × ((List Int) × (Int × Bool))) :=
  (bif (decide (a5 < ((List.length a4 : Nat) : Int))) then
    (bif a3 then
      (Option.bind (ixo a4 a5) fun y1 =>
      (bif (decide (y1 ≥ (0 : Int))) then
        (Option.bind (ixo a4 a5) fun y2 =>
        (bif (decide (y2 < ((List.length a0 : Nat) : Int))) then
          (Option.bind (ixo a4 a5) fun y3 =>
          (Option.bind (ixo a0 y3) fun y4 =>
          (L a0 a1 a2 (decide (y4.K > (0 : Int))) a4 (IntKind.wrap .i64 (a5 + (1 : Int))))))
        else
          (L a0 a1 a2 false a4 (IntKind.wrap .i64 (a5 + (1 : Int))))))
      else
        (L a0 a1 a2 false a4 (IntKind.wrap .i64 (a5 + (1 : Int))))))
    else
      (L a0 a1 a2 false a4 (IntKind.wrap .i64 (a5 + (1 : Int)))))
  else
    (some (a0, (a1, (a2, a3)))))
noncomputable def U8_1 (n : Nat) (L : ((List S38) × ((List Int) × (Int × (Bool × ((List Int) × Int))))) → Option ((List S38) × ((List Int) × (Int × Bool)))) (x : (List S38) × ((List Int) × (Int × (Bool × ((List Int) × Int))))) : Option ((List S38) × ((List Int) × (Int × Bool))) := S8_1 n (fun a0 a1 a2 a3 a4 a5 => L (a0, (a1, (a2, (a3, (a4, a5)))))) x.1 x.2.1 x.2.2.1 x.2.2.2.1 x.2.2.2.2.1 x.2.2.2.2.2
noncomputable def L8_1 (n : Nat) (a0 : List S38) (a1 : List Int) (a2 : Int) (a3 : Bool) (a4 : List Int) (a5 : Int) : Option ((List S38) × ((List Int) × (Int × Bool))) := iter (U8_1 n) n (a0, (a1, (a2, (a3, (a4, a5)))))
noncomputable def S8_0 (n : Nat) (L : (List S38) → (List Int) → Int → Option (((List S38) × (List Int)) ⊕ Bool)) (a0 : List S38) (a1 : List Int) (a2 : Int) : Option (((List S38) × (List Int)) ⊕ Bool) :=
  (bif (decide (a2 < ((List.length a0 : Nat) : Int))) then
    (Option.bind (ixo a0 a2) fun y1 =>
    (Option.bind (F17 n a0 a2) fun y2 =>
    (Option.bind (L8_1 n a0 a1 a2 (decide (y1.K > (0 : Int))) y2 (0 : Int)) fun y3 =>
    (Option.bind (F27 n y3.2.1 y3.2.2.1) fun y4 =>
    (bif (bNot (bEq y3.2.2.2 y4)) then
      (some (.inr false))
    else
      (L y3.1 y3.2.1 (IntKind.wrap .i64 (y3.2.2.1 + (1 : Int)))))))))
  else
    (some (.inl (a0, a1))))
noncomputable def U8_0 (n : Nat) (L : ((List S38) × ((List Int) × Int)) → Option (((List S38) × (List Int)) ⊕ Bool)) (x : (List S38) × ((List Int) × Int)) : Option (((List S38) × (List Int)) ⊕ Bool) := S8_0 n (fun a0 a1 a2 => L (a0, (a1, a2))) x.1 x.2.1 x.2.2
noncomputable def L8_0 (n : Nat) (a0 : List S38) (a1 : List Int) (a2 : Int) : Option (((List S38) × (List Int)) ⊕ Bool) := iter (U8_0 n) n (a0, (a1, a2))
noncomputable def F8 (n : Nat) (a0 : List Int) : Option Bool :=
  (Option.bind (F24 n a0) fun y1 =>
  (bif (bNot y1) then
    (Option.bind (F11 n ()) fun y2 =>
    (some y2))
  else
    (Option.bind (F25 n a0 false true) fun y3 =>
    (Option.bind (F15 n y3) fun y4 =>
    (Option.bind (L8_0 n y3 y4 (0 : Int)) fun y5 =>
    (Sum.elim (fun y6 => (Option.bind (F22 n y6.1) fun y8 =>
    (Option.bind (L8_2 n y6.2 y8 (0 : Int)) fun y9 =>
    (Sum.elim (fun y10 => (Option.bind (F11 n ()) fun y12 =>
    (some y12))) (fun y11 => (some y11)) y9)))) (fun y7 => (some y7)) y5))))))
noncomputable def c8 : Co (List (EV gam) × List (Ent gam)) (List Int) := (.pairL (.consL (.d gam (.sl (.int .i64))) (.nil _)) (.nil _))
noncomputable def r8 : Co (EV gam × List (Ent gam) × List (Ent gam)) Bool := (.pairL (.d gam .bool) (.pairU (.nil _) (.nil _)))
noncomputable def b8 : Code := (Try.f8.body).getD .skip
noncomputable def b8_0 : Code := (loopsIn b8).getD 0 .skip
noncomputable def kp8_0 : Keep := { slots := [3, 4, 5], rows := [], boxes := [], tombs := [] }
noncomputable def c8_0 : Co (List (EV gam) × List (Ent gam)) ((List S38) × ((List Int) × Int)) := (.pairL (.cons (.d gam (.sl (.st 38))) (.cons (.d gam (.sl (.int .i64))) (.consL (.d gam (.int .i64)) (.nil _)))) (.nil _))
noncomputable def x8_0 : Xc gam (((List S38) × (List Int)) ⊕ Bool) := (.or (.one (.exit 0) { slots := [3, 4], rows := [], boxes := [], tombs := [] } (.pairL (.cons (.d gam (.sl (.st 38))) (.consL (.d gam (.sl (.int .i64))) (.nil _))) (.nil _))) (.one .ret { slots := [2], rows := [], boxes := [], tombs := [] } (.pairL (.consL (.d gam .bool) (.nil _)) (.nil _))))
noncomputable def b8_1 : Code := (loopsIn b8).getD 1 .skip
noncomputable def kp8_1 : Keep := { slots := [3, 4, 5, 6, 7, 8], rows := [], boxes := [], tombs := [] }
noncomputable def c8_1 : Co (List (EV gam) × List (Ent gam)) ((List S38) × ((List Int) × (Int × (Bool × ((List Int) × Int))))) := (.pairL (.cons (.d gam (.sl (.st 38))) (.cons (.d gam (.sl (.int .i64))) (.cons (.d gam (.int .i64)) (.cons (.d gam .bool) (.cons (.d gam (.sl (.int .i64))) (.consL (.d gam (.int .i64)) (.nil _))))))) (.nil _))
noncomputable def x8_1 : Xc gam ((List S38) × ((List Int) × (Int × Bool))) := (.one (.exit 2) { slots := [3, 4, 5, 6], rows := [], boxes := [], tombs := [] } (.pairL (.cons (.d gam (.sl (.st 38))) (.cons (.d gam (.sl (.int .i64))) (.cons (.d gam (.int .i64)) (.consL (.d gam .bool) (.nil _))))) (.nil _)))
noncomputable def b8_2 : Code := (loopsIn b8).getD 2 .skip
noncomputable def kp8_2 : Keep := { slots := [4, 9, 10], rows := [], boxes := [], tombs := [] }
noncomputable def c8_2 : Co (List (EV gam) × List (Ent gam)) ((List Int) × ((List (List Int)) × Int)) := (.pairL (.cons (.d gam (.sl (.int .i64))) (.cons (.d gam (.sl (.sl (.int .i64)))) (.consL (.d gam (.int .i64)) (.nil _)))) (.nil _))
noncomputable def x8_2 : Xc gam (Unit ⊕ Bool) := (.or (.one (.exit 4) { slots := [], rows := [], boxes := [], tombs := [] } (.pairU (.nil _) (.nil _))) (.one .ret { slots := [2], rows := [], boxes := [], tombs := [] } (.pairL (.consL (.d gam .bool) (.nil _)) (.nil _))))
noncomputable def b8_3 : Code := (loopsIn b8).getD 3 .skip
noncomputable def kp8_3 : Keep := { slots := [4, 9, 10, 11], rows := [], boxes := [], tombs := [] }
noncomputable def c8_3 : Co (List (EV gam) × List (Ent gam)) ((List Int) × ((List (List Int)) × (Int × Int))) := (.pairL (.cons (.d gam (.sl (.int .i64))) (.cons (.d gam (.sl (.sl (.int .i64)))) (.cons (.d gam (.int .i64)) (.consL (.d gam (.int .i64)) (.nil _))))) (.nil _))
noncomputable def x8_3 : Xc gam (((List Int) × ((List (List Int)) × Int)) ⊕ Bool) := (.or (.one (.exit 6) { slots := [4, 9, 10], rows := [], boxes := [], tombs := [] } (.pairL (.cons (.d gam (.sl (.int .i64))) (.cons (.d gam (.sl (.sl (.int .i64)))) (.consL (.d gam (.int .i64)) (.nil _)))) (.nil _))) (.one .ret { slots := [2], rows := [], boxes := [], tombs := [] } (.pairL (.consL (.d gam .bool) (.nil _)) (.nil _))))
noncomputable def t8_0 (n : Nat) : LoopT gam := loopT kp8_0 c8_0 x8_0 (iter (U8_0 n) n)
noncomputable def t8_1 (n : Nat) : LoopT gam := loopT kp8_1 c8_1 x8_1 (iter (U8_1 n) n)
noncomputable def t8_2 (n : Nat) : LoopT gam := loopT kp8_2 c8_2 x8_2 (iter (U8_2 n) n)
noncomputable def t8_3 (n : Nat) : LoopT gam := loopT kp8_3 c8_3 x8_3 (iter (U8_3 n) n)
noncomputable def e8 (n : Nat) : FnT gam := fnN [[some (.int .i64)]] (fnT [] c8 r8 (fun x => F8 n x))
noncomputable def p8 (a : List (EV gam)) (l : List (Ent gam)) : Bool := (c8.dec (nilArgs [[some (.int .i64)]] a, l)).isSome
noncomputable def env8 (n : Nat) : Env gam := { P := Try.prog, fns := lookU [(11, e11 n), (15, e15 n), (17, e17 n), (22, e22 n), (24, e24 n), (25, e25 n), (27, e27 n)], loops := lookU [(6, t8_0 n), (11, t8_1 n), (18, t8_2 n), (21, t8_3 n)], nt := 102, m := 0, keeps := [], eqs := [] }
theorem env8_ok (n : Nat) : EnvOK (env8 n) := .of _ rfl (by exact ⟨ok11 n, ok15 n, ok17 n, ok22 n, ok24 n, ok25 n, ok27 n, trivial⟩) (by exact fun t h => nomatch h) (by kernel_rfl)
theorem lin8_3 (n : Nat) : LoopsOK (env8 n) b8_3 := .of [] (by kernel_rfl) trivial
theorem lok8_3 (n : Nat) : LoopOK (env8 n) b8_3 (t8_3 n) := loopT_ok (env8_ok n) (lin8_3 n) (fun L x => by kernel_rfl) n
theorem lin8_2 (n : Nat) : LoopsOK (env8 n) b8_2 := .of [(b8_3, 21, t8_3 n)] (by kernel_rfl) ⟨by kernel_rfl, by kernel_rfl, lok8_3 n, trivial⟩
theorem lok8_2 (n : Nat) : LoopOK (env8 n) b8_2 (t8_2 n) := loopT_ok (env8_ok n) (lin8_2 n) (fun L x => by kernel_rfl) n
theorem lin8_1 (n : Nat) : LoopsOK (env8 n) b8_1 := .of [] (by kernel_rfl) trivial
theorem lok8_1 (n : Nat) : LoopOK (env8 n) b8_1 (t8_1 n) := loopT_ok (env8_ok n) (lin8_1 n) (fun L x => by kernel_rfl) n
theorem lin8_0 (n : Nat) : LoopsOK (env8 n) b8_0 := .of [(b8_1, 11, t8_1 n)] (by kernel_rfl) ⟨by kernel_rfl, by kernel_rfl, lok8_1 n, trivial⟩
theorem lok8_0 (n : Nat) : LoopOK (env8 n) b8_0 (t8_0 n) := loopT_ok (env8_ok n) (lin8_0 n) (fun L x => by kernel_rfl) n
theorem lin8 (n : Nat) : LoopsOK (env8 n) b8 := .of [(b8_0, 6, t8_0 n), (b8_1, 11, t8_1 n), (b8_2, 18, t8_2 n), (b8_3, 21, t8_3 n)] (by kernel_rfl) ⟨by kernel_rfl, by kernel_rfl, lok8_0 n, by kernel_rfl, by kernel_rfl, lok8_1 n, by kernel_rfl, by kernel_rfl, lok8_2 n, by kernel_rfl, by kernel_rfl, lok8_3 n, trivial⟩
theorem eq8 (n : Nat) (x : List Int) : (F8 n x) = fnE (env8 n) Try.f8 [[.asis]] none c8 r8 x := by kernel_rfl
theorem okt8 (n : Nat) : FnOK Try.prog 8 (fnT (G := gam) [] c8 r8 (fun x => F8 n x)) := fnT_ok (env8_ok n) (by kernel_rfl) (by kernel_rfl) (by kernel_rfl) (b := b8) (by kernel_rfl) (fun x => by kernel_rfl) (lin8 n) (eq8 n)
theorem ok8 (n : Nat) : FnOK Try.prog 8 (e8 n) := fnN_ok (okt8 n)
/-! ### clusterlockslaw19.WaitgraphFewer -/
noncomputable def S9_0 (n : Nat) (L : (List Int) → (List Int) → Int → Option (Unit ⊕ Bool)) (a0 : List Int) (a1 : List Int) (a2 : Int) : Option (Unit ⊕ Bool) :=
  (bif (decide (a2 < ((List.length a1 : Nat) : Int))) then
    (Option.bind (ixo a1 a2) fun y1 =>
    (Option.bind (F27 n a0 y1) fun y2 =>
    (bif (bNot y2) then (some (.inr false)) else (L a0 a1 (IntKind.wrap .i64 (a2 + (1 : Int)))))))
  else
    (some (.inl ())))
noncomputable def U9_0 (n : Nat) (L : ((List Int) × ((List Int) × Int)) → Option (Unit ⊕ Bool)) (x : (List Int) × ((List Int) × Int)) : Option (Unit ⊕ Bool) := S9_0 n (fun a0 a1 a2 => L (a0, (a1, a2))) x.1 x.2.1 x.2.2
noncomputable def L9_0 (n : Nat) (a0 : List Int) (a1 : List Int) (a2 : Int) : Option (Unit ⊕ Bool) := iter (U9_0 n) n (a0, (a1, a2))
noncomputable def F9 (n : Nat) (a0 : List Int) (a1 : Int) (a2 : Int) : Option Bool :=
  (Option.bind (F24 n a0) fun y1 =>
  (bif (bNot y1) then
    (Option.bind (F11 n ()) fun y2 =>
    (some y2))
  else
    (Option.bind (F25 n a0 false false) fun y3 =>
    (Option.bind (F15 n y3) fun y4 =>
    (Option.bind (F26 n a1 ((List.length y3 : Nat) : Int)) fun y5 =>
    (Option.bind (ixo y3 y5) fun y6 =>
    (bif (decide (y6.K < (2 : Int))) then
      (Option.bind (F11 n ()) fun y7 =>
      (some y7))
    else
      (bif (appOK (List.length ([] : List S38)) (List.length y3) 32) then
        (bif (decide (0 ≤ y5) && decide (y5 < ((List.length (([] : List S38) ++ y3) : Nat) : Int))) then
          (Option.bind ((([] : List S38) ++ y3)[(Int.toNat y5)]?) fun y8 =>
          (Option.bind (F26 n a2 (IntKind.wrap .i64 (y8.K - (1 : Int)))) fun y9 =>
          (bif (decide (0 ≤ y5) && decide (y5 < ((List.length (([] : List S38) ++ y3) : Nat) : Int))) then
            (Option.bind ((([] : List S38) ++ y3)[(Int.toNat y5)]?) fun y10 =>
            (Option.bind (F15 n (List.set (([] : List S38) ++ y3) (Int.toNat y5) { y10 with K := (IntKind.wrap .i64 ((1 : Int) + y9)) })) fun y11 =>
            (Option.bind (L9_0 n y4 y11 (0 : Int)) fun y12 =>
            (Sum.elim (fun y13 => (Option.bind (F11 n ()) fun y15 =>
            (some y15))) (fun y14 => (some y14)) y12))))
          else
            none)))
        else
          none)
      else
        none))))))))
noncomputable def c9 : Co (List (EV gam) × List (Ent gam)) ((List Int) × (Int × Int)) := (.pairL (.cons (.d gam (.sl (.int .i64))) (.cons (.d gam (.int .i64)) (.consL (.d gam (.int .i64)) (.nil _)))) (.nil _))
noncomputable def r9 : Co (EV gam × List (Ent gam) × List (Ent gam)) Bool := (.pairL (.d gam .bool) (.pairU (.nil _) (.nil _)))
noncomputable def b9 : Code := (Try.f9.body).getD .skip
noncomputable def b9_0 : Code := (loopsIn b9).getD 0 .skip
noncomputable def kp9_0 : Keep := { slots := [8, 10, 11], rows := [], boxes := [], tombs := [] }
noncomputable def c9_0 : Co (List (EV gam) × List (Ent gam)) ((List Int) × ((List Int) × Int)) := (.pairL (.cons (.d gam (.sl (.int .i64))) (.cons (.d gam (.sl (.int .i64))) (.consL (.d gam (.int .i64)) (.nil _)))) (.nil _))
noncomputable def x9_0 : Xc gam (Unit ⊕ Bool) := (.or (.one (.exit 0) { slots := [], rows := [], boxes := [], tombs := [] } (.pairU (.nil _) (.nil _))) (.one .ret { slots := [6], rows := [], boxes := [], tombs := [] } (.pairL (.consL (.d gam .bool) (.nil _)) (.nil _))))
noncomputable def t9_0 (n : Nat) : LoopT gam := loopT kp9_0 c9_0 x9_0 (iter (U9_0 n) n)
noncomputable def e9 (n : Nat) : FnT gam := fnN [[some (.int .i64)]] (fnT [] c9 r9 (fun x => F9 n x.1 x.2.1 x.2.2))
noncomputable def p9 (a : List (EV gam)) (l : List (Ent gam)) : Bool := (c9.dec (nilArgs [[some (.int .i64)]] a, l)).isSome
noncomputable def env9 (n : Nat) : Env gam := { P := Try.prog, fns := lookU [(11, e11 n), (15, e15 n), (24, e24 n), (25, e25 n), (26, e26 n), (27, e27 n)], loops := lookU [(12, t9_0 n)], nt := 63, m := 0, keeps := [], eqs := [] }
theorem env9_ok (n : Nat) : EnvOK (env9 n) := .of _ rfl (by exact ⟨ok11 n, ok15 n, ok24 n, ok25 n, ok26 n, ok27 n, trivial⟩) (by exact fun t h => nomatch h) (by kernel_rfl)
theorem lin9_0 (n : Nat) : LoopsOK (env9 n) b9_0 := .of [] (by kernel_rfl) trivial
theorem lok9_0 (n : Nat) : LoopOK (env9 n) b9_0 (t9_0 n) := loopT_ok (env9_ok n) (lin9_0 n) (fun L x => by kernel_rfl) n
theorem lin9 (n : Nat) : LoopsOK (env9 n) b9 := .of [(b9_0, 12, t9_0 n)] (by kernel_rfl) ⟨by kernel_rfl, by kernel_rfl, lok9_0 n, trivial⟩
theorem eq9 (n : Nat) (x : (List Int) × (Int × Int)) : (F9 n x.1 x.2.1 x.2.2) = fnE (env9 n) Try.f9 [[.asis]] none c9 r9 x := by kernel_rfl
theorem okt9 (n : Nat) : FnOK Try.prog 9 (fnT (G := gam) [] c9 r9 (fun x => F9 n x.1 x.2.1 x.2.2)) := fnT_ok (env9_ok n) (by kernel_rfl) (by kernel_rfl) (by kernel_rfl) (b := b9) (by kernel_rfl) (fun x => by kernel_rfl) (lin9 n) (eq9 n)
theorem ok9 (n : Nat) : FnOK Try.prog 9 (e9 n) := fnN_ok (okt9 n)
end Go.Abs.AbsP19
end
