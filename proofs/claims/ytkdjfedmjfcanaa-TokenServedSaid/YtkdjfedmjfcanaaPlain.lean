/- The functions of the package token and of its laws are the plain functions below. No conditions. -/
import Derived.Test.YtkdjfedmjfcanaaProg
import Derived.Test.YtkdjfedmjfcanaaLibC
section
set_option linter.all false
set_option linter.unusedVariables false
set_option linter.unusedSimpArgs false
set_option linter.unnecessarySimpa false
namespace Go.G27
open Go Go.Abs
structure S34 where
  Has : Bool
  Want : Bool
  Using : Bool
  Last : Int
  Next : Int
  deriving DecidableEq, Inhabited
structure S53 where
  Kind : Int
  Proc_Site : Int
  Proc_Inc : Int
  Proc_Num : Int
  Gen : Int
  Atom_Name : ByteArray
  Atom_Amount_Mode : Int
  Atom_Amount_Units : Int
  Priority : Int
  Inc : Int
  Round : Int
  Epoch : Int
  Site : Int
  Label : Int
  Done : Bool
  State_Queues : List Unit
  State_Needs : List Unit
  Options : List Unit
structure S55 where
  To : Int
  Message_Kind : Int
  Message_Proc_Site : Int
  Message_Proc_Inc : Int
  Message_Proc_Num : Int
  Message_Gen : Int
  Message_Atom_Name : ByteArray
  Message_Atom_Amount_Mode : Int
  Message_Atom_Amount_Units : Int
  Message_Priority : Int
  Message_Inc : Int
  Message_Round : Int
  Message_Epoch : Int
  Message_Site : Int
  Message_Label : Int
  Message_Done : Bool
  Message_State_Queues : List Unit
  Message_State_Needs : List Unit
  Message_Options : List Unit
def SS : TypeId → Type
  | 34 => S34
  | 53 => S53
  | 55 => S55
  | _ => Unit
def lv34 : List Ty := [.bool, .bool, .bool, (.int .i64), (.int .i64)]
def cells34 (x : S34) : List (Lf SS) := [.mk .bool (S34.Has x), .mk .bool (S34.Want x), .mk .bool (S34.Using x), .mk (.int .i64) (S34.Last x), .mk (.int .i64) (S34.Next x)]
def coll34 : List (Lf SS) → Option S34
  | [.mk τ0 x0, .mk τ1 x1, .mk τ2 x2, .mk τ3 x3, .mk τ4 x4] => (castD τ0 .bool x0).bind fun y0 => (castD τ1 .bool x1).bind fun y1 => (castD τ2 .bool x2).bind fun y2 => (castD τ3 (.int .i64) x3).bind fun y3 => (castD τ4 (.int .i64) x4).bind fun y4 => some ⟨y0, y1, y2, y3, y4⟩
  | _ => none
theorem law34 (l : List (Lf SS)) (x : S34) (h : coll34 l = some x) : cells34 x = l := by
  unfold coll34 at h
  split at h
  · obtain ⟨y0, e0, h⟩ := bindS h; obtain ⟨q0, e0⟩ := castD_eq e0; subst q0; subst e0
    obtain ⟨y1, e1, h⟩ := bindS h; obtain ⟨q1, e1⟩ := castD_eq e1; subst q1; subst e1
    obtain ⟨y2, e2, h⟩ := bindS h; obtain ⟨q2, e2⟩ := castD_eq e2; subst q2; subst e2
    obtain ⟨y3, e3, h⟩ := bindS h; obtain ⟨q3, e3⟩ := castD_eq e3; subst q3; subst e3
    obtain ⟨y4, e4, h⟩ := bindS h; obtain ⟨q4, e4⟩ := castD_eq e4; subst q4; subst e4
    cases h; rfl
  · cases h
def lv53 : List Ty := [(.int .i64), (.int .i64), (.int .i64), (.int .i64), (.int .i64), .str, (.int .i64), (.int .i64), (.int .i64), (.int .i64), (.int .i64), (.int .i64), (.int .i64), (.int .i64), .bool, (.sl (.st 91)), (.sl (.st 96)), (.sl (.st 99))]
def cells53 (x : S53) : List (Lf SS) := [.mk (.int .i64) (S53.Kind x), .mk (.int .i64) (S53.Proc_Site x), .mk (.int .i64) (S53.Proc_Inc x), .mk (.int .i64) (S53.Proc_Num x), .mk (.int .i64) (S53.Gen x), .mk .str (S53.Atom_Name x), .mk (.int .i64) (S53.Atom_Amount_Mode x), .mk (.int .i64) (S53.Atom_Amount_Units x), .mk (.int .i64) (S53.Priority x), .mk (.int .i64) (S53.Inc x), .mk (.int .i64) (S53.Round x), .mk (.int .i64) (S53.Epoch x), .mk (.int .i64) (S53.Site x), .mk (.int .i64) (S53.Label x), .mk .bool (S53.Done x), .mk (.sl (.st 91)) (S53.State_Queues x), .mk (.sl (.st 96)) (S53.State_Needs x), .mk (.sl (.st 99)) (S53.Options x)]
def coll53 : List (Lf SS) → Option S53
  | [.mk τ0 x0, .mk τ1 x1, .mk τ2 x2, .mk τ3 x3, .mk τ4 x4, .mk τ5 x5, .mk τ6 x6, .mk τ7 x7, .mk τ8 x8, .mk τ9 x9, .mk τ10 x10, .mk τ11 x11, .mk τ12 x12, .mk τ13 x13, .mk τ14 x14, .mk τ15 x15, .mk τ16 x16, .mk τ17 x17] => (castD τ0 (.int .i64) x0).bind fun y0 => (castD τ1 (.int .i64) x1).bind fun y1 => (castD τ2 (.int .i64) x2).bind fun y2 => (castD τ3 (.int .i64) x3).bind fun y3 => (castD τ4 (.int .i64) x4).bind fun y4 => (castD τ5 .str x5).bind fun y5 => (castD τ6 (.int .i64) x6).bind fun y6 => (castD τ7 (.int .i64) x7).bind fun y7 => (castD τ8 (.int .i64) x8).bind fun y8 => (castD τ9 (.int .i64) x9).bind fun y9 => (castD τ10 (.int .i64) x10).bind fun y10 => (castD τ11 (.int .i64) x11).bind fun y11 => (castD τ12 (.int .i64) x12).bind fun y12 => (castD τ13 (.int .i64) x13).bind fun y13 => (castD τ14 .bool x14).bind fun y14 => (castD τ15 (.sl (.st 91)) x15).bind fun y15 => (castD τ16 (.sl (.st 96)) x16).bind fun y16 => (castD τ17 (.sl (.st 99)) x17).bind fun y17 => some ⟨y0, y1, y2, y3, y4, y5, y6, y7, y8, y9, y10, y11, y12, y13, y14, y15, y16, y17⟩
  | _ => none
theorem law53 (l : List (Lf SS)) (x : S53) (h : coll53 l = some x) : cells53 x = l := by
  unfold coll53 at h
  split at h
  · obtain ⟨y0, e0, h⟩ := bindS h; obtain ⟨q0, e0⟩ := castD_eq e0; subst q0; subst e0
    obtain ⟨y1, e1, h⟩ := bindS h; obtain ⟨q1, e1⟩ := castD_eq e1; subst q1; subst e1
    obtain ⟨y2, e2, h⟩ := bindS h; obtain ⟨q2, e2⟩ := castD_eq e2; subst q2; subst e2
    obtain ⟨y3, e3, h⟩ := bindS h; obtain ⟨q3, e3⟩ := castD_eq e3; subst q3; subst e3
    obtain ⟨y4, e4, h⟩ := bindS h; obtain ⟨q4, e4⟩ := castD_eq e4; subst q4; subst e4
    obtain ⟨y5, e5, h⟩ := bindS h; obtain ⟨q5, e5⟩ := castD_eq e5; subst q5; subst e5
    obtain ⟨y6, e6, h⟩ := bindS h; obtain ⟨q6, e6⟩ := castD_eq e6; subst q6; subst e6
    obtain ⟨y7, e7, h⟩ := bindS h; obtain ⟨q7, e7⟩ := castD_eq e7; subst q7; subst e7
    obtain ⟨y8, e8, h⟩ := bindS h; obtain ⟨q8, e8⟩ := castD_eq e8; subst q8; subst e8
    obtain ⟨y9, e9, h⟩ := bindS h; obtain ⟨q9, e9⟩ := castD_eq e9; subst q9; subst e9
    obtain ⟨y10, e10, h⟩ := bindS h; obtain ⟨q10, e10⟩ := castD_eq e10; subst q10; subst e10
    obtain ⟨y11, e11, h⟩ := bindS h; obtain ⟨q11, e11⟩ := castD_eq e11; subst q11; subst e11
    obtain ⟨y12, e12, h⟩ := bindS h; obtain ⟨q12, e12⟩ := castD_eq e12; subst q12; subst e12
    obtain ⟨y13, e13, h⟩ := bindS h; obtain ⟨q13, e13⟩ := castD_eq e13; subst q13; subst e13
    obtain ⟨y14, e14, h⟩ := bindS h; obtain ⟨q14, e14⟩ := castD_eq e14; subst q14; subst e14
    obtain ⟨y15, e15, h⟩ := bindS h; obtain ⟨q15, e15⟩ := castD_eq e15; subst q15; subst e15
    obtain ⟨y16, e16, h⟩ := bindS h; obtain ⟨q16, e16⟩ := castD_eq e16; subst q16; subst e16
    obtain ⟨y17, e17, h⟩ := bindS h; obtain ⟨q17, e17⟩ := castD_eq e17; subst q17; subst e17
    cases h; rfl
  · cases h
def lv55 : List Ty := [(.int .i64), (.int .i64), (.int .i64), (.int .i64), (.int .i64), (.int .i64), .str, (.int .i64), (.int .i64), (.int .i64), (.int .i64), (.int .i64), (.int .i64), (.int .i64), (.int .i64), .bool, (.sl (.st 91)), (.sl (.st 96)), (.sl (.st 99))]
def cells55 (x : S55) : List (Lf SS) := [.mk (.int .i64) (S55.To x), .mk (.int .i64) (S55.Message_Kind x), .mk (.int .i64) (S55.Message_Proc_Site x), .mk (.int .i64) (S55.Message_Proc_Inc x), .mk (.int .i64) (S55.Message_Proc_Num x), .mk (.int .i64) (S55.Message_Gen x), .mk .str (S55.Message_Atom_Name x), .mk (.int .i64) (S55.Message_Atom_Amount_Mode x), .mk (.int .i64) (S55.Message_Atom_Amount_Units x), .mk (.int .i64) (S55.Message_Priority x), .mk (.int .i64) (S55.Message_Inc x), .mk (.int .i64) (S55.Message_Round x), .mk (.int .i64) (S55.Message_Epoch x), .mk (.int .i64) (S55.Message_Site x), .mk (.int .i64) (S55.Message_Label x), .mk .bool (S55.Message_Done x), .mk (.sl (.st 91)) (S55.Message_State_Queues x), .mk (.sl (.st 96)) (S55.Message_State_Needs x), .mk (.sl (.st 99)) (S55.Message_Options x)]
def coll55 : List (Lf SS) → Option S55
  | [.mk τ0 x0, .mk τ1 x1, .mk τ2 x2, .mk τ3 x3, .mk τ4 x4, .mk τ5 x5, .mk τ6 x6, .mk τ7 x7, .mk τ8 x8, .mk τ9 x9, .mk τ10 x10, .mk τ11 x11, .mk τ12 x12, .mk τ13 x13, .mk τ14 x14, .mk τ15 x15, .mk τ16 x16, .mk τ17 x17, .mk τ18 x18] => (castD τ0 (.int .i64) x0).bind fun y0 => (castD τ1 (.int .i64) x1).bind fun y1 => (castD τ2 (.int .i64) x2).bind fun y2 => (castD τ3 (.int .i64) x3).bind fun y3 => (castD τ4 (.int .i64) x4).bind fun y4 => (castD τ5 (.int .i64) x5).bind fun y5 => (castD τ6 .str x6).bind fun y6 => (castD τ7 (.int .i64) x7).bind fun y7 => (castD τ8 (.int .i64) x8).bind fun y8 => (castD τ9 (.int .i64) x9).bind fun y9 => (castD τ10 (.int .i64) x10).bind fun y10 => (castD τ11 (.int .i64) x11).bind fun y11 => (castD τ12 (.int .i64) x12).bind fun y12 => (castD τ13 (.int .i64) x13).bind fun y13 => (castD τ14 (.int .i64) x14).bind fun y14 => (castD τ15 .bool x15).bind fun y15 => (castD τ16 (.sl (.st 91)) x16).bind fun y16 => (castD τ17 (.sl (.st 96)) x17).bind fun y17 => (castD τ18 (.sl (.st 99)) x18).bind fun y18 => some ⟨y0, y1, y2, y3, y4, y5, y6, y7, y8, y9, y10, y11, y12, y13, y14, y15, y16, y17, y18⟩
  | _ => none
theorem law55 (l : List (Lf SS)) (x : S55) (h : coll55 l = some x) : cells55 x = l := by
  unfold coll55 at h
  split at h
  · obtain ⟨y0, e0, h⟩ := bindS h; obtain ⟨q0, e0⟩ := castD_eq e0; subst q0; subst e0
    obtain ⟨y1, e1, h⟩ := bindS h; obtain ⟨q1, e1⟩ := castD_eq e1; subst q1; subst e1
    obtain ⟨y2, e2, h⟩ := bindS h; obtain ⟨q2, e2⟩ := castD_eq e2; subst q2; subst e2
    obtain ⟨y3, e3, h⟩ := bindS h; obtain ⟨q3, e3⟩ := castD_eq e3; subst q3; subst e3
    obtain ⟨y4, e4, h⟩ := bindS h; obtain ⟨q4, e4⟩ := castD_eq e4; subst q4; subst e4
    obtain ⟨y5, e5, h⟩ := bindS h; obtain ⟨q5, e5⟩ := castD_eq e5; subst q5; subst e5
    obtain ⟨y6, e6, h⟩ := bindS h; obtain ⟨q6, e6⟩ := castD_eq e6; subst q6; subst e6
    obtain ⟨y7, e7, h⟩ := bindS h; obtain ⟨q7, e7⟩ := castD_eq e7; subst q7; subst e7
    obtain ⟨y8, e8, h⟩ := bindS h; obtain ⟨q8, e8⟩ := castD_eq e8; subst q8; subst e8
    obtain ⟨y9, e9, h⟩ := bindS h; obtain ⟨q9, e9⟩ := castD_eq e9; subst q9; subst e9
    obtain ⟨y10, e10, h⟩ := bindS h; obtain ⟨q10, e10⟩ := castD_eq e10; subst q10; subst e10
    obtain ⟨y11, e11, h⟩ := bindS h; obtain ⟨q11, e11⟩ := castD_eq e11; subst q11; subst e11
    obtain ⟨y12, e12, h⟩ := bindS h; obtain ⟨q12, e12⟩ := castD_eq e12; subst q12; subst e12
    obtain ⟨y13, e13, h⟩ := bindS h; obtain ⟨q13, e13⟩ := castD_eq e13; subst q13; subst e13
    obtain ⟨y14, e14, h⟩ := bindS h; obtain ⟨q14, e14⟩ := castD_eq e14; subst q14; subst e14
    obtain ⟨y15, e15, h⟩ := bindS h; obtain ⟨q15, e15⟩ := castD_eq e15; subst q15; subst e15
    obtain ⟨y16, e16, h⟩ := bindS h; obtain ⟨q16, e16⟩ := castD_eq e16; subst q16; subst e16
    obtain ⟨y17, e17, h⟩ := bindS h; obtain ⟨q17, e17⟩ := castD_eq e17; subst q17; subst e17
    obtain ⟨y18, e18, h⟩ := bindS h; obtain ⟨q18, e18⟩ := castD_eq e18; subst q18; subst e18
    cases h; rfl
  · cases h
def se34 : SE SS S34 where
  lv := lv34
  cells := cells34
  coll := coll34
  law := law34
  tys := by intro x; rfl
  flat := by decide
def se53 : SE SS S53 where
  lv := lv53
  cells := cells53
  coll := coll53
  law := law53
  tys := by intro x; rfl
  flat := by decide
def se55 : SE SS S55 where
  lv := lv55
  cells := cells55
  coll := coll55
  law := law55
  tys := by intro x; rfl
  flat := by decide
def seS : (t : TypeId) → SE SS (SS t)
  | 34 => se34
  | 53 => se53
  | 55 => se55
  | _ => .none _
def gam : Gam := .of SS seS
end Go.G27
end
section
set_option linter.all false
set_option linter.unusedVariables false
set_option linter.unusedSimpArgs false
set_option linter.unnecessarySimpa false
/- Printed by gen.py. -/
open Go Go.Abs Go.G27 Go.Proofs
set_option linter.unusedVariables false
namespace Go.Abs.AbsP27
/-! ### clusterlocksplan.Light -/
noncomputable def F5 (n : Nat) (a0 : List Int) : Option Bool :=
  (some (decide (((List.length a0 : Nat) : Int) ≤ (400 : Int))))
noncomputable def c5 : Co (List (EV gam) × List (Ent gam)) (List Int) := (.pairL (.consL (.d gam (.sl (.int .i64))) (.nil _)) (.nil _))
noncomputable def r5 : Co (EV gam × List (Ent gam) × List (Ent gam)) Bool := (.pairL (.d gam .bool) (.pairU (.nil _) (.nil _)))
noncomputable def b5 : Code := (Try.f5.body).getD .skip
noncomputable def e5 (n : Nat) : FnT gam := fnT [] c5 r5 (fun x => F5 n x)
noncomputable def env5 (n : Nat) : Env gam := { P := Try.prog, fns := lookU [], loops := lookU [], nt := 6, m := 0, keeps := [], eqs := [] }
theorem env5_ok (n : Nat) : EnvOK (env5 n) := .of _ rfl (by exact trivial) (by exact fun t h => nomatch h) (by kernel_rfl)
theorem lin5 (n : Nat) : LoopsOK (env5 n) b5 := .of [] (by kernel_rfl) trivial
theorem eq5 (n : Nat) (x : List Int) : (F5 n x) = fnE (env5 n) Try.f5 [[.asis]] none c5 r5 x := by kernel_rfl
theorem ok5 (n : Nat) : FnOK Try.prog 5 (e5 n) := fnT_ok (env5_ok n) (by kernel_rfl) (by kernel_rfl) (by kernel_rfl) (b := b5) (by kernel_rfl) (fun x => by kernel_rfl) (lin5 n) (eq5 n)
/-! ### token.proper -/
noncomputable def F19 (n : Nat) (a0 : Int) (a1 : Int) : Option Bool :=
  (some (bif (decide (a1 ≥ (1 : Int))) then
    (bif (decide (a1 ≤ (4 : Int))) then (bif (decide (a0 ≥ (0 : Int))) then (decide (a0 < a1)) else false) else false)
  else
    false))
noncomputable def c19 : Co (List (EV gam) × List (Ent gam)) (Int × Int) := (.pairL (.cons (.d gam (.int .i64)) (.consL (.d gam (.int .i64)) (.nil _))) (.nil _))
noncomputable def r19 : Co (EV gam × List (Ent gam) × List (Ent gam)) Bool := (.pairL (.d gam .bool) (.pairU (.nil _) (.nil _)))
noncomputable def b19 : Code := (Try.f19.body).getD .skip
noncomputable def e19 (n : Nat) : FnT gam := fnT [] c19 r19 (fun x => F19 n x.1 x.2)
noncomputable def env19 (n : Nat) : Env gam := { P := Try.prog, fns := lookU [], loops := lookU [], nt := 20, m := 0, keeps := [], eqs := [] }
theorem env19_ok (n : Nat) : EnvOK (env19 n) := .of _ rfl (by exact trivial) (by exact fun t h => nomatch h) (by kernel_rfl)
theorem lin19 (n : Nat) : LoopsOK (env19 n) b19 := .of [] (by kernel_rfl) trivial
theorem eq19 (n : Nat) (x : Int × Int) : (F19 n x.1 x.2) = fnE (env19 n) Try.f19 [[.asis]] none c19 r19 x := by kernel_rfl
theorem ok19 (n : Nat) : FnOK Try.prog 19 (e19 n) := fnT_ok (env19_ok n) (by kernel_rfl) (by kernel_rfl) (by kernel_rfl) (b := b19) (by kernel_rfl) (fun x => by kernel_rfl) (lin19 n) (eq19 n)
/-! ### token.New -/
noncomputable def F11 (n : Nat) (a0 : Int) (a1 : Int) : Option (S34 × Int) :=
  (Option.bind (F19 n a0 a1) fun y1 =>
  (bif (bNot y1) then
    (some ((S34.mk false false false (0 : Int) (0 : Int)), (1 : Int)))
  else
    (bif (a0 == (0 : Int)) then
      (some ((S34.mk true false false (-1 : Int) (-1 : Int)), (0 : Int)))
    else
      (some ((S34.mk false false false (0 : Int) (-1 : Int)), (0 : Int))))))
noncomputable def c11 : Co (List (EV gam) × List (Ent gam)) (Int × Int) := (.pairL (.cons (.d gam (.int .i64)) (.consL (.d gam (.int .i64)) (.nil _))) (.nil _))
noncomputable def r11 : Co (EV gam × List (Ent gam) × List (Ent gam)) (S34 × Int) := (.pairL (.tp (.cons (.st gam 34) (.consL (.d gam (.int .i64)) (.nil _)))) (.pairU (.nil _) (.nil _)))
noncomputable def b11 : Code := (Try.f11.body).getD .skip
noncomputable def e11 (n : Nat) : FnT gam := fnT [] c11 r11 (fun x => F11 n x.1 x.2)
noncomputable def env11 (n : Nat) : Env gam := { P := Try.prog, fns := lookU [(19, e19 n)], loops := lookU [], nt := 17, m := 0, keeps := [], eqs := [] }
theorem env11_ok (n : Nat) : EnvOK (env11 n) := .of _ rfl (by exact ⟨ok19 n, trivial⟩) (by exact fun t h => nomatch h) (by kernel_rfl)
theorem lin11 (n : Nat) : LoopsOK (env11 n) b11 := .of [] (by kernel_rfl) trivial
theorem eq11 (n : Nat) (x : Int × Int) : (F11 n x.1 x.2) = fnE (env11 n) Try.f11 [[.asis, .asis, .asis, .asis, .asis], [.asis]] none c11 r11 x := by kernel_rfl
theorem ok11 (n : Nat) : FnOK Try.prog 11 (e11 n) := fnT_ok (env11_ok n) (by kernel_rfl) (by kernel_rfl) (by kernel_rfl) (b := b11) (by kernel_rfl) (fun x => by kernel_rfl) (lin11 n) (eq11 n)
/-! ### token.other -/
noncomputable def F20 (n : Nat) (a0 : Int) (a1 : Int) (a2 : Int) : Option Bool :=
  (some (bif (decide (a0 ≥ (0 : Int))) then (bif (decide (a0 < a2)) then (a0 != a1) else false) else false))
noncomputable def c20 : Co (List (EV gam) × List (Ent gam)) (Int × (Int × Int)) := (.pairL (.cons (.d gam (.int .i64)) (.cons (.d gam (.int .i64)) (.consL (.d gam (.int .i64)) (.nil _)))) (.nil _))
noncomputable def r20 : Co (EV gam × List (Ent gam) × List (Ent gam)) Bool := (.pairL (.d gam .bool) (.pairU (.nil _) (.nil _)))
noncomputable def b20 : Code := (Try.f20.body).getD .skip
noncomputable def e20 (n : Nat) : FnT gam := fnT [] c20 r20 (fun x => F20 n x.1 x.2.1 x.2.2)
noncomputable def env20 (n : Nat) : Env gam := { P := Try.prog, fns := lookU [], loops := lookU [], nt := 19, m := 0, keeps := [], eqs := [] }
theorem env20_ok (n : Nat) : EnvOK (env20 n) := .of _ rfl (by exact trivial) (by exact fun t h => nomatch h) (by kernel_rfl)
theorem lin20 (n : Nat) : LoopsOK (env20 n) b20 := .of [] (by kernel_rfl) trivial
theorem eq20 (n : Nat) (x : Int × (Int × Int)) : (F20 n x.1 x.2.1 x.2.2) = fnE (env20 n) Try.f20 [[.asis]] none c20 r20 x := by kernel_rfl
theorem ok20 (n : Nat) : FnOK Try.prog 20 (e20 n) := fnT_ok (env20_ok n) (by kernel_rfl) (by kernel_rfl) (by kernel_rfl) (b := b20) (by kernel_rfl) (fun x => by kernel_rfl) (lin20 n) (eq20 n)
/-! ### token.Valid -/
noncomputable def F14 (n : Nat) (a0 : S34) (a1 : Int) (a2 : Int) : Option Bool :=
  (Option.bind (F19 n a1 a2) fun y1 =>
  (bif (bNot y1) then
    (some false)
  else
    (bif (a0.Last != (-1 : Int)) then
      (Option.bind (F20 n a0.Last a1 a2) fun y2 =>
      (bif (bNot y2) then
        (some false)
      else
        (bif (a0.Next != (-1 : Int)) then
          (Option.bind (F20 n a0.Next a1 a2) fun y3 =>
          (bif (bNot y3) then
            (some false)
          else
            (bif (bif a0.Using then
              (bif (bNot a0.Has) then true else (bif a0.Want then a0.Has else false))
            else
              (bif a0.Want then a0.Has else false)) then
              (some false)
            else
              (bif (bif (bNot a0.Using) then
                (bif (bNot a0.Want) then
                  (bif (a0.Next != (-1 : Int)) then
                    true
                  else
                    (bNot (bEq (a0.Last == (-1 : Int)) a0.Has)))
                else
                  false)
              else
                false) then
                (some false)
              else
                (some (bif (bNot a0.Using) then
                  (bif (bNot a0.Want) then
                    true
                  else
                    (bEq (a0.Next == (-1 : Int)) (a0.Last == (-1 : Int))))
                else
                  (bEq (a0.Next == (-1 : Int)) (a0.Last == (-1 : Int)))))))))
        else
          (bif (bif a0.Using then
            (bif (bNot a0.Has) then true else (bif a0.Want then a0.Has else false))
          else
            (bif a0.Want then a0.Has else false)) then
            (some false)
          else
            (bif (bif (bNot a0.Using) then
              (bif (bNot a0.Want) then
                (bif (a0.Next != (-1 : Int)) then
                  true
                else
                  (bNot (bEq (a0.Last == (-1 : Int)) a0.Has)))
              else
                false)
            else
              false) then
              (some false)
            else
              (some (bif (bNot a0.Using) then
                (bif (bNot a0.Want) then
                  true
                else
                  (bEq (a0.Next == (-1 : Int)) (a0.Last == (-1 : Int))))
              else
                (bEq (a0.Next == (-1 : Int)) (a0.Last == (-1 : Int))))))))))
    else
      (bif (a0.Next != (-1 : Int)) then
        (Option.bind (F20 n a0.Next a1 a2) fun y4 =>
        (bif (bNot y4) then
          (some false)
        else
          (bif (bif a0.Using then
            (bif (bNot a0.Has) then true else (bif a0.Want then a0.Has else false))
          else
            (bif a0.Want then a0.Has else false)) then
            (some false)
          else
            (bif (bif (bNot a0.Using) then
              (bif (bNot a0.Want) then
                (bif (a0.Next != (-1 : Int)) then
                  true
                else
                  (bNot (bEq (a0.Last == (-1 : Int)) a0.Has)))
              else
                false)
            else
              false) then
              (some false)
            else
              (some (bif (bNot a0.Using) then
                (bif (bNot a0.Want) then
                  true
                else
                  (bEq (a0.Next == (-1 : Int)) (a0.Last == (-1 : Int))))
              else
                (bEq (a0.Next == (-1 : Int)) (a0.Last == (-1 : Int)))))))))
      else
        (bif (bif a0.Using then
          (bif (bNot a0.Has) then true else (bif a0.Want then a0.Has else false))
        else
          (bif a0.Want then a0.Has else false)) then
          (some false)
        else
          (bif (bif (bNot a0.Using) then
            (bif (bNot a0.Want) then
              (bif (a0.Next != (-1 : Int)) then
                true
              else
                (bNot (bEq (a0.Last == (-1 : Int)) a0.Has)))
            else
              false)
          else
            false) then
            (some false)
          else
            (some (bif (bNot a0.Using) then
              (bif (bNot a0.Want) then
                true
              else
                (bEq (a0.Next == (-1 : Int)) (a0.Last == (-1 : Int))))
            else
              (bEq (a0.Next == (-1 : Int)) (a0.Last == (-1 : Int)))))))))))
noncomputable def c14 : Co (List (EV gam) × List (Ent gam)) (S34 × (Int × Int)) := (.pairL (.cons (.st gam 34) (.cons (.d gam (.int .i64)) (.consL (.d gam (.int .i64)) (.nil _)))) (.nil _))
noncomputable def r14 : Co (EV gam × List (Ent gam) × List (Ent gam)) Bool := (.pairL (.d gam .bool) (.pairU (.nil _) (.nil _)))
noncomputable def b14 : Code := (Try.f14.body).getD .skip
noncomputable def e14 (n : Nat) : FnT gam := fnT [] c14 r14 (fun x => F14 n x.1 x.2.1 x.2.2)
noncomputable def env14 (n : Nat) : Env gam := { P := Try.prog, fns := lookU [(19, e19 n), (20, e20 n)], loops := lookU [], nt := 92, m := 0, keeps := [], eqs := [] }
theorem env14_ok (n : Nat) : EnvOK (env14 n) := .of _ rfl (by exact ⟨ok19 n, ok20 n, trivial⟩) (by exact fun t h => nomatch h) (by kernel_rfl)
theorem lin14 (n : Nat) : LoopsOK (env14 n) b14 := .of [] (by kernel_rfl) trivial
theorem eq14 (n : Nat) (x : S34 × (Int × Int)) : (F14 n x.1 x.2.1 x.2.2) = fnE (env14 n) Try.f14 [[.asis]] none c14 r14 x := by kernel_rfl
theorem ok14 (n : Nat) : FnOK Try.prog 14 (e14 n) := fnT_ok (env14_ok n) (by kernel_rfl) (by kernel_rfl) (by kernel_rfl) (b := b14) (by kernel_rfl) (fun x => by kernel_rfl) (lin14 n) (eq14 n)
/-! ### token.newMaker$1 -/
noncomputable def F22 (n : Nat) (a0 : Int) (a1 : Int) (a2 : Int) : Option (S55 × Int) :=
  (some ((S55.mk a0 (12 : Int) (0 : Int) (0 : Int) (0 : Int) (0 : Int) (ByteArray.mk #[]) (0 : Int) (0 : Int) (0 : Int) (0 : Int) (0 : Int) a2 a1 (0 : Int) false ([] : List Unit) ([] : List Unit) ([] : List Unit)), a2))
noncomputable def c22 : Co (List (EV gam) × List (Ent gam)) ((Int × Int) × Int) := (.pair (.cons (.d gam (.int .i64)) (.consL (.d gam (.int .i64)) (.consU (.ptr gam 0 0) (.nil _)))) (.consL (.box (.consL (.d gam (.int .i64)) (.nil _))) (.nil _)))
noncomputable def r22 : Co (EV gam × List (Ent gam) × List (Ent gam)) (S55 × Int) := (.pair (.st gam 55) (.pairL (.consL (.box (.consL (.d gam (.int .i64)) (.nil _))) (.nil _)) (.nil _)))
noncomputable def b22 : Code := (Try.f22.body).getD .skip
noncomputable def e22 (n : Nat) : FnT gam := fnT [] c22 r22 (fun x => F22 n x.1.1 x.1.2 x.2)
noncomputable def env22 (n : Nat) : Env gam := { P := Try.prog, fns := lookU [], loops := lookU [], nt := 11, m := 1, keeps := [], eqs := [] }
theorem env22_ok (n : Nat) : EnvOK (env22 n) := .of _ rfl (by exact trivial) (by exact fun t h => nomatch h) (by kernel_rfl)
theorem lin22 (n : Nat) : LoopsOK (env22 n) b22 := .of [] (by kernel_rfl) trivial
theorem eq22 (n : Nat) (x : (Int × Int) × Int) : (F22 n x.1.1 x.1.2 x.2) = fnE (env22 n) Try.f22 [[.asis, .asis, .asis, .asis, .asis, .asis, .asis, .asis, .asis, .asis, .asis, .asis, .asis, .asis, .asis, .asis, .dat (.st 91), .dat (.st 96), .dat (.st 99)]] none c22 r22 x := by kernel_rfl
theorem ok22 (n : Nat) : FnOK Try.prog 22 (e22 n) := fnT_ok (env22_ok n) (by kernel_rfl) (by kernel_rfl) (by kernel_rfl) (b := b22) (by kernel_rfl) (fun x => by kernel_rfl) (lin22 n) (eq22 n)
/-! ### token.newMaker$2 -/
noncomputable def F23 (n : Nat) (a0 : Int) (a1 : Int) : Option (S55 × Int) :=
  (some ((S55.mk a0 (13 : Int) (0 : Int) (0 : Int) (0 : Int) (0 : Int) (ByteArray.mk #[]) (0 : Int) (0 : Int) (0 : Int) (0 : Int) (0 : Int) a1 (0 : Int) (0 : Int) false ([] : List Unit) ([] : List Unit) ([] : List Unit)), a1))
noncomputable def c23 : Co (List (EV gam) × List (Ent gam)) (Int × Int) := (.pair (.consL (.d gam (.int .i64)) (.consU (.ptr gam 0 0) (.nil _))) (.consL (.box (.consL (.d gam (.int .i64)) (.nil _))) (.nil _)))
noncomputable def r23 : Co (EV gam × List (Ent gam) × List (Ent gam)) (S55 × Int) := (.pair (.st gam 55) (.pairL (.consL (.box (.consL (.d gam (.int .i64)) (.nil _))) (.nil _)) (.nil _)))
noncomputable def b23 : Code := (Try.f23.body).getD .skip
noncomputable def e23 (n : Nat) : FnT gam := fnT [] c23 r23 (fun x => F23 n x.1 x.2)
noncomputable def env23 (n : Nat) : Env gam := { P := Try.prog, fns := lookU [], loops := lookU [], nt := 8, m := 1, keeps := [], eqs := [] }
theorem env23_ok (n : Nat) : EnvOK (env23 n) := .of _ rfl (by exact trivial) (by exact fun t h => nomatch h) (by kernel_rfl)
theorem lin23 (n : Nat) : LoopsOK (env23 n) b23 := .of [] (by kernel_rfl) trivial
theorem eq23 (n : Nat) (x : Int × Int) : (F23 n x.1 x.2) = fnE (env23 n) Try.f23 [[.asis, .asis, .asis, .asis, .asis, .asis, .asis, .asis, .asis, .asis, .asis, .asis, .asis, .asis, .asis, .asis, .dat (.st 91), .dat (.st 96), .dat (.st 99)]] none c23 r23 x := by kernel_rfl
theorem ok23 (n : Nat) : FnOK Try.prog 23 (e23 n) := fnT_ok (env23_ok n) (by kernel_rfl) (by kernel_rfl) (by kernel_rfl) (b := b23) (by kernel_rfl) (fun x => by kernel_rfl) (lin23 n) (eq23 n)
/-! ### token.newMaker -/
noncomputable def F18 (n : Nat) (a0 : Int) : Option Int :=
  (some a0)
noncomputable def c18 : Co (List (EV gam) × List (Ent gam)) Int := (.pairL (.consL (.d gam (.int .i64)) (.nil _)) (.nil _))
noncomputable def r18 : Co (EV gam × List (Ent gam) × List (Ent gam)) Int := (.pairU (.ag (.consU (.fn 22 (.consU (.ptr gam 0 0) (.nil _))) (.consU (.fn 23 (.consU (.ptr gam 0 0) (.nil _))) (.nil _)))) (.pairU (.nil _) (.consL (.box (.consL (.d gam (.int .i64)) (.nil _))) (.nil _))))
noncomputable def b18 : Code := (Try.f18.body).getD .skip
noncomputable def e18 (n : Nat) : FnT gam := fnT [] c18 r18 (fun x => F18 n x)
noncomputable def env18 (n : Nat) : Env gam := { P := Try.prog, fns := lookU [], loops := lookU [], nt := 6, m := 0, keeps := [], eqs := [] }
theorem env18_ok (n : Nat) : EnvOK (env18 n) := .of _ rfl (by exact trivial) (by exact fun t h => nomatch h) (by kernel_rfl)
theorem lin18 (n : Nat) : LoopsOK (env18 n) b18 := .of [] (by kernel_rfl) trivial
theorem eq18 (n : Nat) (x : Int) : (F18 n x) = fnE (env18 n) Try.f18 [[.asis, .asis]] none c18 r18 x := by kernel_rfl
theorem ok18 (n : Nat) : FnOK Try.prog 18 (e18 n) := fnT_ok (env18_ok n) (by kernel_rfl) (by kernel_rfl) (by kernel_rfl) (b := b18) (by kernel_rfl) (fun x => by kernel_rfl) (lin18 n) (eq18 n)
/-! ### token.Want -/
noncomputable def F12 (n : Nat) (a0 : S34) (a1 : Int) (a2 : Int) (a3 : Int) : Option (S34 × ((List S55) × Int)) :=
  (Option.bind (F14 n a0 a1 a2) fun y1 =>
  (bif (bNot y1) then
    (some ((S34.mk false false false (0 : Int) (0 : Int)), (([] : List S55), (2 : Int))))
  else
    (bif (bif (decide (a3 < (0 : Int))) then true else (decide (a3 > (1073741824 : Int)))) then
      (some ((S34.mk false false false (0 : Int) (0 : Int)), (([] : List S55), (1 : Int))))
    else
      (bif (bif a0.Using then true else a0.Want) then
        (some ((S34.mk false false false (0 : Int) (0 : Int)), (([] : List S55), (14 : Int))))
      else
        (bif a0.Has then
          (some ({ a0 with Using := true }, (([] : List S55), (0 : Int))))
        else
          (Option.bind (F18 n a3) fun y2 =>
          (Option.bind (F22 n a0.Last a1 y2) fun y3 =>
          (some ({ a0 with Want := true, Last := (-1 : Int) }, ([y3.1], (0 : Int)))))))))))
noncomputable def c12 : Co (List (EV gam) × List (Ent gam)) (S34 × (Int × (Int × Int))) := (.pairL (.cons (.st gam 34) (.cons (.d gam (.int .i64)) (.cons (.d gam (.int .i64)) (.consL (.d gam (.int .i64)) (.nil _))))) (.nil _))
noncomputable def r12 : Co (EV gam × List (Ent gam) × List (Ent gam)) (S34 × ((List S55) × Int)) := (.pairL (.tp (.cons (.st gam 34) (.cons (.d gam (.sl (.st 55))) (.consL (.d gam (.int .i64)) (.nil _))))) (.pairU (.nil _) (.nil _)))
noncomputable def b12 : Code := (Try.f12.body).getD .skip
noncomputable def e12 (n : Nat) : FnT gam := fnT [] c12 r12 (fun x => F12 n x.1 x.2.1 x.2.2.1 x.2.2.2)
noncomputable def env12 (n : Nat) : Env gam := { P := Try.prog, fns := lookU [(14, e14 n), (18, e18 n), (22, e22 n)], loops := lookU [], nt := 52, m := 0, keeps := [], eqs := [] }
theorem env12_ok (n : Nat) : EnvOK (env12 n) := .of _ rfl (by exact ⟨ok14 n, ok18 n, ok22 n, trivial⟩) (by exact fun t h => nomatch h) (by kernel_rfl)
theorem lin12 (n : Nat) : LoopsOK (env12 n) b12 := .of [] (by kernel_rfl) trivial
theorem eq12 (n : Nat) (x : S34 × (Int × (Int × Int))) : (F12 n x.1 x.2.1 x.2.2.1 x.2.2.2) = fnE (env12 n) Try.f12 [[.asis, .asis, .asis, .asis, .asis], [.dat (.st 55)], [.asis]] none c12 r12 x := by kernel_rfl
theorem ok12 (n : Nat) : FnOK Try.prog 12 (e12 n) := fnT_ok (env12_ok n) (by kernel_rfl) (by kernel_rfl) (by kernel_rfl) (b := b12) (by kernel_rfl) (fun x => by kernel_rfl) (lin12 n) (eq12 n)
/-! ### token.Hear -/
noncomputable def F13 (n : Nat) (a0 : S34) (a1 : Int) (a2 : Int) (a3 : Int) (a4 : S53) : Option (S34 × ((List S55) × Int)) :=
  (bif (a4.Kind == (12 : Int)) then
    (Option.bind (F20 n a4.Site a1 a2) fun y1 =>
    (Option.bind (F14 n a0 a1 a2) fun y2 =>
    (bif (bNot y2) then
      (some ((S34.mk false false false (0 : Int) (0 : Int)), (([] : List S55), (2 : Int))))
    else
      (bif (bif (decide (a3 < (0 : Int))) then
        true
      else
        (bif (decide (a3 > (1073741824 : Int))) then
          true
        else
          (bif (bNot (a4.Kind == (13 : Int))) then (bNot y1) else false))) then
        (some ((S34.mk false false false (0 : Int) (0 : Int)), (([] : List S55), (1 : Int))))
      else
        (bif (a4.Epoch != a3) then
          (some ((S34.mk false false false (0 : Int) (0 : Int)), (([] : List S55), (18 : Int))))
        else
          (bif (bif (a4.Kind == (13 : Int)) then (bNot a0.Want) else false) then
            (some ((S34.mk false false false (0 : Int) (0 : Int)), (([] : List S55), (14 : Int))))
          else
            (bif (a4.Kind == (13 : Int)) then
              (some ((S34.mk true false true a0.Last a0.Next), (([] : List S55), (0 : Int))))
            else
              (Option.bind (F18 n a3) fun y3 =>
              (bif (a0.Last != (-1 : Int)) then
                (Option.bind (F22 n a0.Last a4.Site y3) fun y4 =>
                (some ({ a0 with Last := a4.Site }, ([y4.1], (0 : Int)))))
              else
                (bif (bif a0.Has then (bNot a0.Using) else false) then
                  (Option.bind (F23 n a4.Site y3) fun y5 =>
                  (some ({ a0 with Has := false, Last := a4.Site }, ([y5.1], (0 : Int)))))
                else
                  (some ({ a0 with Last := a4.Site, Next := a4.Site }, (([] : List S55), (0 : Int))))))))))))))
  else
    (Option.bind (F14 n a0 a1 a2) fun y6 =>
    (bif (bNot y6) then
      (some ((S34.mk false false false (0 : Int) (0 : Int)), (([] : List S55), (2 : Int))))
    else
      (bif (bif (decide (a3 < (0 : Int))) then
        true
      else
        (bif (decide (a3 > (1073741824 : Int))) then
          true
        else
          (bif (bNot (a4.Kind == (13 : Int))) then (bNot false) else false))) then
        (some ((S34.mk false false false (0 : Int) (0 : Int)), (([] : List S55), (1 : Int))))
      else
        (bif (a4.Epoch != a3) then
          (some ((S34.mk false false false (0 : Int) (0 : Int)), (([] : List S55), (18 : Int))))
        else
          (bif (bif (a4.Kind == (13 : Int)) then (bNot a0.Want) else false) then
            (some ((S34.mk false false false (0 : Int) (0 : Int)), (([] : List S55), (14 : Int))))
          else
            (bif (a4.Kind == (13 : Int)) then
              (some ((S34.mk true false true a0.Last a0.Next), (([] : List S55), (0 : Int))))
            else
              (Option.bind (F18 n a3) fun y7 =>
              (bif (a0.Last != (-1 : Int)) then
                (Option.bind (F22 n a0.Last a4.Site y7) fun y8 =>
                (some ({ a0 with Last := a4.Site }, ([y8.1], (0 : Int)))))
              else
                (bif (bif a0.Has then (bNot a0.Using) else false) then
                  (Option.bind (F23 n a4.Site y7) fun y9 =>
                  (some ({ a0 with Has := false, Last := a4.Site }, ([y9.1], (0 : Int)))))
                else
                  (some ({ a0 with Last := a4.Site, Next := a4.Site }, (([] : List S55), (0 : Int))))))))))))))
noncomputable def c13 : Co (List (EV gam) × List (Ent gam)) (S34 × (Int × (Int × (Int × S53)))) := (.pairL (.cons (.st gam 34) (.cons (.d gam (.int .i64)) (.cons (.d gam (.int .i64)) (.cons (.d gam (.int .i64)) (.consL (.st gam 53) (.nil _)))))) (.nil _))
noncomputable def r13 : Co (EV gam × List (Ent gam) × List (Ent gam)) (S34 × ((List S55) × Int)) := (.pairL (.tp (.cons (.st gam 34) (.cons (.d gam (.sl (.st 55))) (.consL (.d gam (.int .i64)) (.nil _))))) (.pairU (.nil _) (.nil _)))
noncomputable def b13 : Code := (Try.f13.body).getD .skip
noncomputable def e13 (n : Nat) : FnT gam := fnT [] c13 r13 (fun x => F13 n x.1 x.2.1 x.2.2.1 x.2.2.2.1 x.2.2.2.2)
noncomputable def env13 (n : Nat) : Env gam := { P := Try.prog, fns := lookU [(14, e14 n), (18, e18 n), (20, e20 n), (22, e22 n), (23, e23 n)], loops := lookU [], nt := 111, m := 0, keeps := [], eqs := [] }
theorem env13_ok (n : Nat) : EnvOK (env13 n) := .of _ rfl (by exact ⟨ok14 n, ok18 n, ok20 n, ok22 n, ok23 n, trivial⟩) (by exact fun t h => nomatch h) (by kernel_rfl)
theorem lin13 (n : Nat) : LoopsOK (env13 n) b13 := .of [] (by kernel_rfl) trivial
theorem eq13 (n : Nat) (x : S34 × (Int × (Int × (Int × S53)))) : (F13 n x.1 x.2.1 x.2.2.1 x.2.2.2.1 x.2.2.2.2) = fnE (env13 n) Try.f13 [[.asis, .asis, .asis, .asis, .asis], [.dat (.st 55)], [.asis]] none c13 r13 x := by kernel_rfl
theorem ok13 (n : Nat) : FnOK Try.prog 13 (e13 n) := fnT_ok (env13_ok n) (by kernel_rfl) (by kernel_rfl) (by kernel_rfl) (b := b13) (by kernel_rfl) (fun x => by kernel_rfl) (lin13 n) (eq13 n)
/-! ### clusterlockslaw27.awake -/
noncomputable def F6 (n : Nat) (_ : Unit) : Option Bool :=
  (Option.bind (F11 n (0 : Int) (3 : Int)) fun y1 =>
  (Option.bind (F11 n (1 : Int) (3 : Int)) fun y2 =>
  (Option.bind (F12 n y2.1 (1 : Int) (3 : Int) (5 : Int)) fun y3 =>
  (bif (y1.2 != (0 : Int)) then
    (some false)
  else
    (bif (y2.2 != (0 : Int)) then
      (some false)
    else
      (bif (y3.2.2 != (0 : Int)) then
        (some false)
      else
        (bif (((List.length y3.2.1 : Nat) : Int) != (1 : Int)) then
          (some false)
        else
          (Option.bind (ixo y3.2.1 (0 : Int)) fun y4 =>
          (bif (y4.To != (0 : Int)) then
            (some false)
          else
            (bif (bNot y3.1.Want) then
              (some false)
            else
              (bif (y3.1.Last != (-1 : Int)) then
                (some false)
              else
                (Option.bind (ixo y3.2.1 (0 : Int)) fun y5 =>
                (Option.bind (F13 n y1.1 (0 : Int) (3 : Int) (5 : Int) (S53.mk y5.Message_Kind y5.Message_Proc_Site y5.Message_Proc_Inc y5.Message_Proc_Num y5.Message_Gen y5.Message_Atom_Name y5.Message_Atom_Amount_Mode y5.Message_Atom_Amount_Units y5.Message_Priority y5.Message_Inc y5.Message_Round y5.Message_Epoch y5.Message_Site y5.Message_Label y5.Message_Done y5.Message_State_Queues y5.Message_State_Needs y5.Message_Options)) fun y6 =>
                (bif (y6.2.2 == (0 : Int)) then
                  (bif (((List.length y6.2.1 : Nat) : Int) == (1 : Int)) then
                    (Option.bind (ixo y6.2.1 (0 : Int)) fun y7 =>
                    (bif (y7.To == (1 : Int)) then
                      (Option.bind (ixo y6.2.1 (0 : Int)) fun y8 =>
                      (bif (y8.Message_Kind == (13 : Int)) then
                        (bif (bNot y6.1.Has) then
                          (bif (y6.1.Last == (1 : Int)) then
                            (Option.bind (F14 n y6.1 (0 : Int) (3 : Int)) fun y9 =>
                            (some y9))
                          else
                            (some false))
                        else
                          (some false))
                      else
                        (some false)))
                    else
                      (some false)))
                  else
                    (some false))
                else
                  (some false)))))))))))))))
noncomputable def c6 : Co (List (EV gam) × List (Ent gam)) Unit := (.pairU (.nil _) (.nil _))
noncomputable def r6 : Co (EV gam × List (Ent gam) × List (Ent gam)) Bool := (.pairL (.d gam .bool) (.pairU (.nil _) (.nil _)))
noncomputable def b6 : Code := (Try.f6.body).getD .skip
noncomputable def e6 (n : Nat) : FnT gam := fnT [] c6 r6 (fun x => F6 n ())
noncomputable def env6 (n : Nat) : Env gam := { P := Try.prog, fns := lookU [(11, e11 n), (12, e12 n), (13, e13 n), (14, e14 n)], loops := lookU [], nt := 101, m := 0, keeps := [], eqs := [] }
theorem env6_ok (n : Nat) : EnvOK (env6 n) := .of _ rfl (by exact ⟨ok11 n, ok12 n, ok13 n, ok14 n, trivial⟩) (by exact fun t h => nomatch h) (by kernel_rfl)
theorem lin6 (n : Nat) : LoopsOK (env6 n) b6 := .of [] (by kernel_rfl) trivial
theorem eq6 (n : Nat) (x : Unit) : (F6 n ()) = fnE (env6 n) Try.f6 [[.asis]] none c6 r6 x := by kernel_rfl
theorem ok6 (n : Nat) : FnOK Try.prog 6 (e6 n) := fnT_ok (env6_ok n) (by kernel_rfl) (by kernel_rfl) (by kernel_rfl) (b := b6) (by kernel_rfl) (fun x => by kernel_rfl) (lin6 n) (eq6 n)
/-! ### (*clusterlockslaw27.cluster).one -/
noncomputable def S10_1 (n : Nat) (L : Int → Int → Int → (List S34) → (List S55) → Option (Int × ((List S34) × (List S55)))) (a0 : Int) (a1 : Int) (a2 : Int) (a3 : List S34) (a4 : List S55) : Option (Int × ((List S34) × (List S55))) :=
  (bif (decide (a2 < a1)) then
    (bif (decide (0 ≤ a2) && decide (a2 < ((List.length a4 : Nat) : Int))) then
      (Option.bind (a4[(Int.toNat a2)]?) fun y1 =>
      (bif (y1.Message_Kind == (13 : Int)) then
        (L (IntKind.wrap .i64 (a0 + (1 : Int))) a1 (IntKind.wrap .i64 (a2 + (1 : Int))) a3 a4)
      else
        (L a0 a1 (IntKind.wrap .i64 (a2 + (1 : Int))) a3 a4)))
    else
      none)
  else
    (some (a0, (a3, a4))))
noncomputable def U10_1 (n : Nat) (L : ((Int × (Int × Int)) × ((List S34) × (List S55))) → Option (Int × ((List S34) × (List S55)))) (x : (Int × (Int × Int)) × ((List S34) × (List S55))) : Option (Int × ((List S34) × (List S55))) := S10_1 n (fun a0 a1 a2 a3 a4 => L ((a0, (a1, a2)), (a3, a4))) x.1.1 x.1.2.1 x.1.2.2 x.2.1 x.2.2
noncomputable def L10_1 (n : Nat) (a0 : Int) (a1 : Int) (a2 : Int) (a3 : List S34) (a4 : List S55) : Option (Int × ((List S34) × (List S55))) := iter (U10_1 n) n ((a0, (a1, a2)), (a3, a4))
noncomputable def S10_0 (n : Nat) (L : Int → Int → Int → (List S34) → (List S55) → Option ((Int × ((List S34) × (List S55))) ⊕ (Bool × ((List S34) × (List S55))))) (a0 : Int) (a1 : Int) (a2 : Int) (a3 : List S34) (a4 : List S55) : Option ((Int × ((List S34) × (List S55))) ⊕ (Bool × ((List S34) × (List S55)))) :=
  (bif (decide (a2 < a1)) then
    (bif (decide (0 ≤ a2) && decide (a2 < ((List.length a3 : Nat) : Int))) then
      (Option.bind (a3[(Int.toNat a2)]?) fun y1 =>
      (Option.bind (F14 n y1 a2 ((List.length a3 : Nat) : Int)) fun y2 =>
      (bif (bNot y2) then
        (some (.inr (false, (a3, a4))))
      else
        (bif (decide (0 ≤ a2) && decide (a2 < ((List.length a3 : Nat) : Int))) then
          (Option.bind (a3[(Int.toNat a2)]?) fun y3 =>
          (bif y3.Has then
            (L (IntKind.wrap .i64 (a0 + (1 : Int))) a1 (IntKind.wrap .i64 (a2 + (1 : Int))) a3 a4)
          else
            (L a0 a1 (IntKind.wrap .i64 (a2 + (1 : Int))) a3 a4)))
        else
          none))))
    else
      none)
  else
    (some (.inl (a0, (a3, a4)))))
noncomputable def U10_0 (n : Nat) (L : ((Int × (Int × Int)) × ((List S34) × (List S55))) → Option ((Int × ((List S34) × (List S55))) ⊕ (Bool × ((List S34) × (List S55))))) (x : (Int × (Int × Int)) × ((List S34) × (List S55))) : Option ((Int × ((List S34) × (List S55))) ⊕ (Bool × ((List S34) × (List S55)))) := S10_0 n (fun a0 a1 a2 a3 a4 => L ((a0, (a1, a2)), (a3, a4))) x.1.1 x.1.2.1 x.1.2.2 x.2.1 x.2.2
noncomputable def L10_0 (n : Nat) (a0 : Int) (a1 : Int) (a2 : Int) (a3 : List S34) (a4 : List S55) : Option ((Int × ((List S34) × (List S55))) ⊕ (Bool × ((List S34) × (List S55)))) := iter (U10_0 n) n ((a0, (a1, a2)), (a3, a4))
noncomputable def F10 (n : Nat) (a0 : List S34) (a1 : List S55) : Option (Bool × ((List S34) × (List S55))) :=
  (Option.bind (L10_0 n (0 : Int) ((List.length a0 : Nat) : Int) (0 : Int) a0 a1) fun y1 =>
  (Sum.elim (fun y2 => (Option.bind (L10_1 n y2.1 ((List.length y2.2.2 : Nat) : Int) (0 : Int) y2.2.1 y2.2.2) fun y4 =>
  (some ((y4.1 == (1 : Int)), (y4.2.1, y4.2.2))))) (fun y3 => (some (y3.1, (y3.2.1, y3.2.2)))) y1))
noncomputable def c10 : Co (List (EV gam) × List (Ent gam)) ((List S34) × (List S55)) := (.pairU (.consU (.ptr gam 0 0) (.nil _)) (.consU (.box (.consU (.ow gam 1) (.consU (.ow gam 2) (.nil _)))) (.cons (.row gam (.st 34) 0) (.consL (.row gam (.st 55) 0) (.nil _)))))
noncomputable def r10 : Co (EV gam × List (Ent gam) × List (Ent gam)) (Bool × ((List S34) × (List S55))) := (.pair (.d gam .bool) (.pairL (.consU (.box (.consU (.ow gam 1) (.consU (.ow gam 2) (.nil _)))) (.cons (.row gam (.st 34) 0) (.consL (.row gam (.st 55) 0) (.nil _)))) (.nil _)))
noncomputable def b10 : Code := (Try.f10.body).getD .skip
noncomputable def b10_0 : Code := (loopsIn b10).getD 0 .skip
noncomputable def kp10_0 : Keep := { slots := [0, 3, 11, 12], rows := [((0, some 0), 1, (.st 34)), ((0, some 1), 2, (.st 55))], boxes := [0], tombs := [] }
noncomputable def c10_0 : Co (List (EV gam) × List (Ent gam)) ((Int × (Int × Int)) × ((List S34) × (List S55))) := (.pair (.consU (.ptr gam 0 0) (.cons (.d gam (.int .i64)) (.cons (.d gam (.int .i64)) (.consL (.d gam (.int .i64)) (.nil _))))) (.consU (.box (.consU (.ow gam 1) (.consU (.ow gam 2) (.nil _)))) (.cons (.row gam (.st 34) 0) (.consL (.row gam (.st 55) 0) (.nil _)))))
noncomputable def x10_0 : Xc gam ((Int × ((List S34) × (List S55))) ⊕ (Bool × ((List S34) × (List S55)))) := (.or (.one (.exit 0) { slots := [0, 3], rows := [((0, some 0), 1, (.st 34)), ((0, some 1), 2, (.st 55))], boxes := [0], tombs := [] } (.pair (.consU (.ptr gam 0 0) (.consL (.d gam (.int .i64)) (.nil _))) (.consU (.box (.consU (.ow gam 1) (.consU (.ow gam 2) (.nil _)))) (.cons (.row gam (.st 34) 0) (.consL (.row gam (.st 55) 0) (.nil _)))))) (.one .ret { slots := [2], rows := [((0, some 0), 1, (.st 34)), ((0, some 1), 2, (.st 55))], boxes := [0], tombs := [] } (.pair (.consL (.d gam .bool) (.nil _)) (.consU (.box (.consU (.ow gam 1) (.consU (.ow gam 2) (.nil _)))) (.cons (.row gam (.st 34) 0) (.consL (.row gam (.st 55) 0) (.nil _)))))))
noncomputable def b10_1 : Code := (loopsIn b10).getD 1 .skip
noncomputable def kp10_1 : Keep := { slots := [3, 44, 45, 46], rows := [((0, some 0), 1, (.st 34)), ((0, some 1), 2, (.st 55))], boxes := [0], tombs := [] }
noncomputable def c10_1 : Co (List (EV gam) × List (Ent gam)) ((Int × (Int × Int)) × ((List S34) × (List S55))) := (.pair (.cons (.d gam (.int .i64)) (.consU (.ow gam 2) (.cons (.d gam (.int .i64)) (.consL (.d gam (.int .i64)) (.nil _))))) (.consU (.box (.consU (.ow gam 1) (.consU (.ow gam 2) (.nil _)))) (.cons (.row gam (.st 34) 0) (.consL (.row gam (.st 55) 0) (.nil _)))))
noncomputable def x10_1 : Xc gam (Int × ((List S34) × (List S55))) := (.one (.exit 2) { slots := [3], rows := [((0, some 0), 1, (.st 34)), ((0, some 1), 2, (.st 55))], boxes := [0], tombs := [] } (.pair (.consL (.d gam (.int .i64)) (.nil _)) (.consU (.box (.consU (.ow gam 1) (.consU (.ow gam 2) (.nil _)))) (.cons (.row gam (.st 34) 0) (.consL (.row gam (.st 55) 0) (.nil _))))))
noncomputable def t10_0 (n : Nat) : LoopT gam := loopT kp10_0 c10_0 x10_0 (iter (U10_0 n) n)
noncomputable def t10_1 (n : Nat) : LoopT gam := loopT kp10_1 c10_1 x10_1 (iter (U10_1 n) n)
noncomputable def e10 (n : Nat) : FnT gam := fnT [] c10 r10 (fun x => F10 n x.1 x.2)
noncomputable def env10 (n : Nat) : Env gam := { P := Try.prog, fns := lookU [(14, e14 n)], loops := lookU [(3, t10_0 n), (11, t10_1 n)], nt := 59, m := 3, keeps := [], eqs := [] }
theorem env10_ok (n : Nat) : EnvOK (env10 n) := .of _ rfl (by exact ⟨ok14 n, trivial⟩) (by exact fun t h => nomatch h) (by kernel_rfl)
theorem lin10_1 (n : Nat) : LoopsOK (env10 n) b10_1 := .of [] (by kernel_rfl) trivial
theorem lok10_1 (n : Nat) : LoopOK (env10 n) b10_1 (t10_1 n) := loopT_ok (env10_ok n) (lin10_1 n) (fun L x => by kernel_rfl) n
theorem lin10_0 (n : Nat) : LoopsOK (env10 n) b10_0 := .of [] (by kernel_rfl) trivial
theorem lok10_0 (n : Nat) : LoopOK (env10 n) b10_0 (t10_0 n) := loopT_ok (env10_ok n) (lin10_0 n) (fun L x => by kernel_rfl) n
theorem lin10 (n : Nat) : LoopsOK (env10 n) b10 := .of [(b10_0, 3, t10_0 n), (b10_1, 11, t10_1 n)] (by kernel_rfl) ⟨by kernel_rfl, by kernel_rfl, lok10_0 n, by kernel_rfl, by kernel_rfl, lok10_1 n, trivial⟩
theorem eq10 (n : Nat) (x : (List S34) × (List S55)) : (F10 n x.1 x.2) = fnE (env10 n) Try.f10 [[.asis]] none c10 r10 x := by kernel_rfl
theorem ok10 (n : Nat) : FnOK Try.prog 10 (e10 n) := fnT_ok (env10_ok n) (by kernel_rfl) (by kernel_rfl) (by kernel_rfl) (b := b10) (by kernel_rfl) (fun x => by kernel_rfl) (lin10 n) (eq10 n)
/-! ### (*clusterlocksmill.Tape).More -/
noncomputable def F15 (n : Nat) (a0 : List Int) (a1 : Int) : Option (Bool × ((List Int) × Int)) :=
  (some ((decide (a1 < ((List.length a0 : Nat) : Int))), (a0, a1)))
noncomputable def c15 : Co (List (EV gam) × List (Ent gam)) ((List Int) × Int) := (.pairU (.consU (.ptr gam 0 0) (.nil _)) (.consL (.box (.cons (.d gam (.sl (.int .i64))) (.consL (.d gam (.int .i64)) (.nil _)))) (.nil _)))
noncomputable def r15 : Co (EV gam × List (Ent gam) × List (Ent gam)) (Bool × ((List Int) × Int)) := (.pair (.d gam .bool) (.pairL (.consL (.box (.cons (.d gam (.sl (.int .i64))) (.consL (.d gam (.int .i64)) (.nil _)))) (.nil _)) (.nil _)))
noncomputable def b15 : Code := (Try.f15.body).getD .skip
noncomputable def e15 (n : Nat) : FnT gam := fnT [] c15 r15 (fun x => F15 n x.1 x.2)
noncomputable def env15 (n : Nat) : Env gam := { P := Try.prog, fns := lookU [], loops := lookU [], nt := 13, m := 1, keeps := [], eqs := [] }
theorem env15_ok (n : Nat) : EnvOK (env15 n) := .of _ rfl (by exact trivial) (by exact fun t h => nomatch h) (by kernel_rfl)
theorem lin15 (n : Nat) : LoopsOK (env15 n) b15 := .of [] (by kernel_rfl) trivial
theorem eq15 (n : Nat) (x : (List Int) × Int) : (F15 n x.1 x.2) = fnE (env15 n) Try.f15 [[.asis]] none c15 r15 x := by kernel_rfl
theorem ok15 (n : Nat) : FnOK Try.prog 15 (e15 n) := fnT_ok (env15_ok n) (by kernel_rfl) (by kernel_rfl) (by kernel_rfl) (b := b15) (by kernel_rfl) (fun x => by kernel_rfl) (lin15 n) (eq15 n)
/-! ### token.Done -/
noncomputable def F8 (n : Nat) (a0 : S34) (a1 : Int) (a2 : Int) (a3 : Int) : Option (S34 × ((List S55) × Int)) :=
  (Option.bind (F14 n a0 a1 a2) fun y1 =>
  (bif (bNot y1) then
    (some ((S34.mk false false false (0 : Int) (0 : Int)), (([] : List S55), (2 : Int))))
  else
    (bif (bif (decide (a3 < (0 : Int))) then true else (decide (a3 > (1073741824 : Int)))) then
      (some ((S34.mk false false false (0 : Int) (0 : Int)), (([] : List S55), (1 : Int))))
    else
      (bif (bNot a0.Using) then
        (some ((S34.mk false false false (0 : Int) (0 : Int)), (([] : List S55), (14 : Int))))
      else
        (bif (a0.Next == (-1 : Int)) then
          (some ({ a0 with Using := false }, (([] : List S55), (0 : Int))))
        else
          (Option.bind (F18 n a3) fun y2 =>
          (Option.bind (F23 n a0.Next y2) fun y3 =>
          (some ((S34.mk false a0.Want false a0.Last (-1 : Int)), ([y3.1], (0 : Int)))))))))))
noncomputable def c8 : Co (List (EV gam) × List (Ent gam)) (S34 × (Int × (Int × Int))) := (.pairL (.cons (.st gam 34) (.cons (.d gam (.int .i64)) (.cons (.d gam (.int .i64)) (.consL (.d gam (.int .i64)) (.nil _))))) (.nil _))
noncomputable def r8 : Co (EV gam × List (Ent gam) × List (Ent gam)) (S34 × ((List S55) × Int)) := (.pairL (.tp (.cons (.st gam 34) (.cons (.d gam (.sl (.st 55))) (.consL (.d gam (.int .i64)) (.nil _))))) (.pairU (.nil _) (.nil _)))
noncomputable def b8 : Code := (Try.f8.body).getD .skip
noncomputable def e8 (n : Nat) : FnT gam := fnT [] c8 r8 (fun x => F8 n x.1 x.2.1 x.2.2.1 x.2.2.2)
noncomputable def env8 (n : Nat) : Env gam := { P := Try.prog, fns := lookU [(14, e14 n), (18, e18 n), (23, e23 n)], loops := lookU [], nt := 48, m := 0, keeps := [], eqs := [] }
theorem env8_ok (n : Nat) : EnvOK (env8 n) := .of _ rfl (by exact ⟨ok14 n, ok18 n, ok23 n, trivial⟩) (by exact fun t h => nomatch h) (by kernel_rfl)
theorem lin8 (n : Nat) : LoopsOK (env8 n) b8 := .of [] (by kernel_rfl) trivial
theorem eq8 (n : Nat) (x : S34 × (Int × (Int × Int))) : (F8 n x.1 x.2.1 x.2.2.1 x.2.2.2) = fnE (env8 n) Try.f8 [[.asis, .asis, .asis, .asis, .asis], [.dat (.st 55)], [.asis]] none c8 r8 x := by kernel_rfl
theorem ok8 (n : Nat) : FnOK Try.prog 8 (e8 n) := fnT_ok (env8_ok n) (by kernel_rfl) (by kernel_rfl) (by kernel_rfl) (b := b8) (by kernel_rfl) (fun x => by kernel_rfl) (lin8 n) (eq8 n)
/-! ### (*clusterlockslaw27.cluster).deliver -/
noncomputable def F9 (n : Nat) (a0 : Int) (a1 : List S34) (a2 : List S55) : Option (Bool × (((List S34) × (List S55)) × (List S55))) :=
  (bif (decide (0 ≤ a0) && decide (a0 < ((List.length a2 : Nat) : Int))) then
    (Option.bind (a2[(Int.toNat a0)]?) fun y1 =>
    (bif (boundsE (List.length a2) none (some a0)) then
      (bif (appOK (List.length ([] : List S55)) (List.length (List.take ((Int.toNat a0) - 0) (List.drop 0 a2))) 208) then
        (bif (boundsE (List.length a2) (some (IntKind.wrap .i64 (a0 + (1 : Int)))) none) then
          (bif (appOK (List.length (([] : List S55) ++ (List.take ((Int.toNat a0) - 0) (List.drop 0 a2)))) (List.length (List.take ((List.length a2) - (Int.toNat (IntKind.wrap .i64 (a0 + (1 : Int))))) (List.drop (Int.toNat (IntKind.wrap .i64 (a0 + (1 : Int)))) a2))) 208) then
            (bif (bif (decide (y1.To < (0 : Int))) then true else (decide (y1.To ≥ ((List.length a1 : Nat) : Int)))) then
              (some (false, ((a1, a2), ((([] : List S55) ++ (List.take ((Int.toNat a0) - 0) (List.drop 0 a2))) ++ (List.take ((List.length a2) - (Int.toNat (IntKind.wrap .i64 (a0 + (1 : Int))))) (List.drop (Int.toNat (IntKind.wrap .i64 (a0 + (1 : Int)))) a2))))))
            else
              (bif (decide (0 ≤ y1.To) && decide (y1.To < ((List.length a1 : Nat) : Int))) then
                (Option.bind (a1[(Int.toNat y1.To)]?) fun y2 =>
                (Option.bind (F13 n y2 y1.To ((List.length a1 : Nat) : Int) (1 : Int) (S53.mk y1.Message_Kind y1.Message_Proc_Site y1.Message_Proc_Inc y1.Message_Proc_Num y1.Message_Gen y1.Message_Atom_Name y1.Message_Atom_Amount_Mode y1.Message_Atom_Amount_Units y1.Message_Priority y1.Message_Inc y1.Message_Round y1.Message_Epoch y1.Message_Site y1.Message_Label y1.Message_Done y1.Message_State_Queues y1.Message_State_Needs y1.Message_Options)) fun y3 =>
                (bif (decide (0 ≤ y1.To) && decide (y1.To < ((List.length a1 : Nat) : Int))) then
                  (bif (appOK (List.length ((([] : List S55) ++ (List.take ((Int.toNat a0) - 0) (List.drop 0 a2))) ++ (List.take ((List.length a2) - (Int.toNat (IntKind.wrap .i64 (a0 + (1 : Int))))) (List.drop (Int.toNat (IntKind.wrap .i64 (a0 + (1 : Int)))) a2)))) (List.length y3.2.1) 208) then
                    (some ((y3.2.2 == (0 : Int)), (((List.set a1 (Int.toNat y1.To) y3.1), a2), (((([] : List S55) ++ (List.take ((Int.toNat a0) - 0) (List.drop 0 a2))) ++ (List.take ((List.length a2) - (Int.toNat (IntKind.wrap .i64 (a0 + (1 : Int))))) (List.drop (Int.toNat (IntKind.wrap .i64 (a0 + (1 : Int)))) a2))) ++ y3.2.1))))
                  else
                    none)
                else
                  none)))
              else
                none))
          else
            none)
        else
          none)
      else
        none)
    else
      none))
  else
    none)
noncomputable def c9 : Co (List (EV gam) × List (Ent gam)) (Int × ((List S34) × (List S55))) := (.pair (.consU (.ptr gam 0 0) (.consL (.d gam (.int .i64)) (.nil _))) (.consU (.box (.consU (.ow gam 1) (.consU (.ow gam 2) (.nil _)))) (.cons (.row gam (.st 34) 0) (.consL (.row gam (.st 55) 0) (.nil _)))))
noncomputable def r9 : Co (EV gam × List (Ent gam) × List (Ent gam)) (Bool × (((List S34) × (List S55)) × (List S55))) := (.pair (.d gam .bool) (.pair (.consU (.box (.consU (.ow gam 1) (.consU (.ow gam 3) (.nil _)))) (.cons (.row gam (.st 34) 0) (.consL (.row gam (.st 55) 0) (.nil _)))) (.consL (.row gam (.st 55) 0) (.nil _))))
noncomputable def b9 : Code := (Try.f9.body).getD .skip
noncomputable def e9 (n : Nat) : FnT gam := fnT [] c9 r9 (fun x => F9 n x.1 x.2.1 x.2.2)
noncomputable def env9 (n : Nat) : Env gam := { P := Try.prog, fns := lookU [(13, e13 n)], loops := lookU [], nt := 88, m := 3, keeps := [], eqs := [] }
theorem env9_ok (n : Nat) : EnvOK (env9 n) := .of _ rfl (by exact ⟨ok13 n, trivial⟩) (by exact fun t h => nomatch h) (by kernel_rfl)
theorem lin9 (n : Nat) : LoopsOK (env9 n) b9 := .of [] (by kernel_rfl) trivial
theorem eq9 (n : Nat) (x : Int × ((List S34) × (List S55))) : (F9 n x.1 x.2.1 x.2.2) = fnE (env9 n) Try.f9 [[.asis]] none c9 r9 x := by kernel_rfl
theorem ok9 (n : Nat) : FnOK Try.prog 9 (e9 n) := fnT_ok (env9_ok n) (by kernel_rfl) (by kernel_rfl) (by kernel_rfl) (b := b9) (by kernel_rfl) (fun x => by kernel_rfl) (lin9 n) (eq9 n)
/-! ### (*clusterlockslaw27.cluster).step -/
noncomputable def F16 (n : Nat) (a0 : Int) (a1 : Int) (a2 : List S34) (a3 : List S55) : Option (Bool × ((List S34) × (List S55))) :=
  (bif (((List.length a2 : Nat) : Int) == 0) then
    none
  else
    (bif (bif (decide (a0 < (4 : Int))) then (decide (((List.length a3 : Nat) : Int) > (0 : Int))) else false) then
      (bif (((List.length a3 : Nat) : Int) == 0) then
        none
      else
        (Option.bind (F9 n (Int.tmod a1 ((List.length a3 : Nat) : Int)) a2 a3) fun y1 =>
        (some (y1.1, (y1.2.1.1, y1.2.2)))))
    else
      (bif (decide (0 ≤ (Int.tmod a1 ((List.length a2 : Nat) : Int))) && decide ((Int.tmod a1 ((List.length a2 : Nat) : Int)) < ((List.length a2 : Nat) : Int))) then
        (Option.bind (a2[(Int.toNat (Int.tmod a1 ((List.length a2 : Nat) : Int)))]?) fun y2 =>
        (bif y2.Using then
          (bif (decide (0 ≤ (Int.tmod a1 ((List.length a2 : Nat) : Int))) && decide ((Int.tmod a1 ((List.length a2 : Nat) : Int)) < ((List.length a2 : Nat) : Int))) then
            (Option.bind (a2[(Int.toNat (Int.tmod a1 ((List.length a2 : Nat) : Int)))]?) fun y3 =>
            (Option.bind (F8 n y3 (Int.tmod a1 ((List.length a2 : Nat) : Int)) ((List.length a2 : Nat) : Int) (1 : Int)) fun y4 =>
            (bif (appOK (List.length a3) (List.length y4.2.1) 208) then
              (bif (decide (0 ≤ (Int.tmod a1 ((List.length a2 : Nat) : Int))) && decide ((Int.tmod a1 ((List.length a2 : Nat) : Int)) < ((List.length a2 : Nat) : Int))) then
                (some ((y4.2.2 == (0 : Int)), ((List.set a2 (Int.toNat (Int.tmod a1 ((List.length a2 : Nat) : Int))) y4.1), (a3 ++ y4.2.1))))
              else
                none)
            else
              none)))
          else
            none)
        else
          (bif (decide (0 ≤ (Int.tmod a1 ((List.length a2 : Nat) : Int))) && decide ((Int.tmod a1 ((List.length a2 : Nat) : Int)) < ((List.length a2 : Nat) : Int))) then
            (Option.bind (a2[(Int.toNat (Int.tmod a1 ((List.length a2 : Nat) : Int)))]?) fun y5 =>
            (bif (bNot y5.Want) then
              (bif (decide (0 ≤ (Int.tmod a1 ((List.length a2 : Nat) : Int))) && decide ((Int.tmod a1 ((List.length a2 : Nat) : Int)) < ((List.length a2 : Nat) : Int))) then
                (Option.bind (a2[(Int.toNat (Int.tmod a1 ((List.length a2 : Nat) : Int)))]?) fun y6 =>
                (Option.bind (F12 n y6 (Int.tmod a1 ((List.length a2 : Nat) : Int)) ((List.length a2 : Nat) : Int) (1 : Int)) fun y7 =>
                (bif (appOK (List.length a3) (List.length y7.2.1) 208) then
                  (bif (decide (0 ≤ (Int.tmod a1 ((List.length a2 : Nat) : Int))) && decide ((Int.tmod a1 ((List.length a2 : Nat) : Int)) < ((List.length a2 : Nat) : Int))) then
                    (some ((y7.2.2 == (0 : Int)), ((List.set a2 (Int.toNat (Int.tmod a1 ((List.length a2 : Nat) : Int))) y7.1), (a3 ++ y7.2.1))))
                  else
                    none)
                else
                  none)))
              else
                none)
            else
              (some (true, (a2, a3)))))
          else
            none)))
      else
        none)))
noncomputable def c16 : Co (List (EV gam) × List (Ent gam)) ((Int × Int) × ((List S34) × (List S55))) := (.pair (.consU (.ptr gam 0 0) (.cons (.d gam (.int .i64)) (.consL (.d gam (.int .i64)) (.nil _)))) (.consU (.box (.consU (.ow gam 1) (.consU (.ow gam 2) (.nil _)))) (.cons (.row gam (.st 34) 0) (.consL (.row gam (.st 55) 0) (.nil _)))))
noncomputable def r16 : Co (EV gam × List (Ent gam) × List (Ent gam)) (Bool × ((List S34) × (List S55))) := (.pair (.d gam .bool) (.pair (.consU (.box (.consU (.ow gam 1) (.consU (.ow gam 3) (.nil _)))) (.consL (.row gam (.st 34) 0) (.consU (.tomb gam) (.nil _)))) (.consL (.row gam (.st 55) 0) (.nil _))))
noncomputable def b16 : Code := (Try.f16.body).getD .skip
noncomputable def e16 (n : Nat) : FnT gam := fnT [] c16 r16 (fun x => F16 n x.1.1 x.1.2 x.2.1 x.2.2)
noncomputable def env16 (n : Nat) : Env gam := { P := Try.prog, fns := lookU [(8, e8 n), (9, e9 n), (12, e12 n)], loops := lookU [], nt := 132, m := 3, keeps := [], eqs := [] }
theorem env16_ok (n : Nat) : EnvOK (env16 n) := .of _ rfl (by exact ⟨ok8 n, ok9 n, ok12 n, trivial⟩) (by exact fun t h => nomatch h) (by kernel_rfl)
theorem lin16 (n : Nat) : LoopsOK (env16 n) b16 := .of [] (by kernel_rfl) trivial
theorem eq16 (n : Nat) (x : (Int × Int) × ((List S34) × (List S55))) : (F16 n x.1.1 x.1.2 x.2.1 x.2.2) = fnE (env16 n) Try.f16 [[.asis]] (some { slots := [6], rows := [((0, some 0), 1, (.st 34)), ((0, some 1), 7000000001, (.st 55))], boxes := [0], tombs := [2] }) c16 r16 x := by kernel_rfl
theorem ok16 (n : Nat) : FnOK Try.prog 16 (e16 n) := fnT_ok (env16_ok n) (by kernel_rfl) (by kernel_rfl) (by kernel_rfl) (b := b16) (by kernel_rfl) (fun x => by kernel_rfl) (lin16 n) (eq16 n)
/-! ### clusterlocksmill.Mod -/
noncomputable def F21 (n : Nat) (a0 : Int) (a1 : Int) : Option Int :=
  (bif (decide (a1 < (1 : Int))) then
    (some (0 : Int))
  else
    (bif (a1 == 0) then
      none
    else
      (bif (decide ((Int.tmod a0 a1) < (0 : Int))) then
        (some (IntKind.wrap .i64 ((Int.tmod a0 a1) + a1)))
      else
        (some (Int.tmod a0 a1)))))
noncomputable def c21 : Co (List (EV gam) × List (Ent gam)) (Int × Int) := (.pairL (.cons (.d gam (.int .i64)) (.consL (.d gam (.int .i64)) (.nil _))) (.nil _))
noncomputable def r21 : Co (EV gam × List (Ent gam) × List (Ent gam)) Int := (.pairL (.d gam (.int .i64)) (.pairU (.nil _) (.nil _)))
noncomputable def b21 : Code := (Try.f21.body).getD .skip
noncomputable def e21 (n : Nat) : FnT gam := fnT [] c21 r21 (fun x => F21 n x.1 x.2)
noncomputable def env21 (n : Nat) : Env gam := { P := Try.prog, fns := lookU [], loops := lookU [], nt := 16, m := 0, keeps := [], eqs := [] }
theorem env21_ok (n : Nat) : EnvOK (env21 n) := .of _ rfl (by exact trivial) (by exact fun t h => nomatch h) (by kernel_rfl)
theorem lin21 (n : Nat) : LoopsOK (env21 n) b21 := .of [] (by kernel_rfl) trivial
theorem eq21 (n : Nat) (x : Int × Int) : (F21 n x.1 x.2) = fnE (env21 n) Try.f21 [[.asis]] none c21 r21 x := by kernel_rfl
theorem ok21 (n : Nat) : FnOK Try.prog 21 (e21 n) := fnT_ok (env21_ok n) (by kernel_rfl) (by kernel_rfl) (by kernel_rfl) (b := b21) (by kernel_rfl) (fun x => by kernel_rfl) (lin21 n) (eq21 n)
/-! ### (*clusterlocksmill.Tape).Next -/
noncomputable def F17 (n : Nat) (a0 : Int) (a1 : List Int) (a2 : Int) : Option (Int × ((List Int) × Int)) :=
  (bif (decide (a2 ≥ ((List.length a1 : Nat) : Int))) then
    (some ((0 : Int), (a1, a2)))
  else
    (Option.bind (ixo a1 (IntKind.wrap .i64 ((IntKind.wrap .i64 (a2 + (1 : Int))) - (1 : Int)))) fun y1 =>
    (Option.bind (F21 n y1 a0) fun y2 =>
    (some (y2, (a1, (IntKind.wrap .i64 (a2 + (1 : Int)))))))))
noncomputable def c17 : Co (List (EV gam) × List (Ent gam)) (Int × ((List Int) × Int)) := (.pair (.consU (.ptr gam 0 0) (.consL (.d gam (.int .i64)) (.nil _))) (.consL (.box (.cons (.d gam (.sl (.int .i64))) (.consL (.d gam (.int .i64)) (.nil _)))) (.nil _)))
noncomputable def r17 : Co (EV gam × List (Ent gam) × List (Ent gam)) (Int × ((List Int) × Int)) := (.pair (.d gam (.int .i64)) (.pairL (.consL (.box (.cons (.d gam (.sl (.int .i64))) (.consL (.d gam (.int .i64)) (.nil _)))) (.nil _)) (.nil _)))
noncomputable def b17 : Code := (Try.f17.body).getD .skip
noncomputable def e17 (n : Nat) : FnT gam := fnT [] c17 r17 (fun x => F17 n x.1 x.2.1 x.2.2)
noncomputable def env17 (n : Nat) : Env gam := { P := Try.prog, fns := lookU [(21, e21 n)], loops := lookU [], nt := 35, m := 1, keeps := [], eqs := [] }
theorem env17_ok (n : Nat) : EnvOK (env17 n) := .of _ rfl (by exact ⟨ok21 n, trivial⟩) (by exact fun t h => nomatch h) (by kernel_rfl)
theorem lin17 (n : Nat) : LoopsOK (env17 n) b17 := .of [] (by kernel_rfl) trivial
theorem eq17 (n : Nat) (x : Int × ((List Int) × Int)) : (F17 n x.1 x.2.1 x.2.2) = fnE (env17 n) Try.f17 [[.asis]] none c17 r17 x := by kernel_rfl
theorem ok17 (n : Nat) : FnOK Try.prog 17 (e17 n) := fnT_ok (env17_ok n) (by kernel_rfl) (by kernel_rfl) (by kernel_rfl) (b := b17) (by kernel_rfl) (fun x => by kernel_rfl) (lin17 n) (eq17 n)
/-! ### clusterlockslaw27.play -/
noncomputable def S7_1 (n : Nat) (L : (List Int) → Int → (List S34) → (List S55) → Option (((List S34) × (List S55)) ⊕ (Bool × ((List S34) × (List S55))))) (a0 : List Int) (a1 : Int) (a2 : List S34) (a3 : List S55) : Option (((List S34) × (List S55)) ⊕ (Bool × ((List S34) × (List S55)))) :=
  (Option.bind (F15 n a0 a1) fun y1 =>
  (bif y1.1 then
    (Option.bind (F17 n (7 : Int) y1.2.1 y1.2.2) fun y2 =>
    (Option.bind (F17 n (60 : Int) y2.2.1 y2.2.2) fun y3 =>
    (Option.bind (F16 n y2.1 y3.1 a2 a3) fun y4 =>
    (bif (bNot y4.1) then
      (some (.inr (false, (y4.2.1, y4.2.2))))
    else
      (Option.bind (F10 n y4.2.1 y4.2.2) fun y5 =>
      (bif (bNot y5.1) then
        (some (.inr (false, (y5.2.1, y5.2.2))))
      else
        (L y3.2.1 y3.2.2 y5.2.1 y5.2.2)))))))
  else
    (some (.inl (a2, a3)))))
noncomputable def U7_1 (n : Nat) (L : (((List Int) × Int) × ((List S34) × (List S55))) → Option (((List S34) × (List S55)) ⊕ (Bool × ((List S34) × (List S55))))) (x : ((List Int) × Int) × ((List S34) × (List S55))) : Option (((List S34) × (List S55)) ⊕ (Bool × ((List S34) × (List S55)))) := S7_1 n (fun a0 a1 a2 a3 => L ((a0, a1), (a2, a3))) x.1.1 x.1.2 x.2.1 x.2.2
noncomputable def L7_1 (n : Nat) (a0 : List Int) (a1 : Int) (a2 : List S34) (a3 : List S55) : Option (((List S34) × (List S55)) ⊕ (Bool × ((List S34) × (List S55)))) := iter (U7_1 n) n ((a0, a1), (a2, a3))
noncomputable def S7_0 (n : Nat) (L : (List Int) → Int → Int → (List S34) → (List S55) → Option (((List Int) × ((List S34) × (List S55))) ⊕ (Bool × ((List S34) × (List S55))))) (a0 : List Int) (a1 : Int) (a2 : Int) (a3 : List S34) (a4 : List S55) : Option (((List Int) × ((List S34) × (List S55))) ⊕ (Bool × ((List S34) × (List S55)))) :=
  (bif (decide (a2 < a1)) then
    (Option.bind (F11 n a2 a1) fun y1 =>
    (bif (y1.2 != (0 : Int)) then
      (some (.inr (false, (a3, a4))))
    else
      (bif (appOK (List.length a3) (List.length [y1.1]) 24) then
        (L a0 a1 (IntKind.wrap .i64 (a2 + (1 : Int))) (a3 ++ [y1.1]) a4)
      else
        none)))
  else
    (some (.inl (a0, (a3, a4)))))
noncomputable def U7_0 (n : Nat) (L : (((List Int) × (Int × Int)) × ((List S34) × (List S55))) → Option (((List Int) × ((List S34) × (List S55))) ⊕ (Bool × ((List S34) × (List S55))))) (x : ((List Int) × (Int × Int)) × ((List S34) × (List S55))) : Option (((List Int) × ((List S34) × (List S55))) ⊕ (Bool × ((List S34) × (List S55)))) := S7_0 n (fun a0 a1 a2 a3 a4 => L ((a0, (a1, a2)), (a3, a4))) x.1.1 x.1.2.1 x.1.2.2 x.2.1 x.2.2
noncomputable def L7_0 (n : Nat) (a0 : List Int) (a1 : Int) (a2 : Int) (a3 : List S34) (a4 : List S55) : Option (((List Int) × ((List S34) × (List S55))) ⊕ (Bool × ((List S34) × (List S55)))) := iter (U7_0 n) n ((a0, (a1, a2)), (a3, a4))
noncomputable def F7 (n : Nat) (a0 : List Int) (a1 : Int) : Option (Bool × ((List S34) × (List S55))) :=
  (Option.bind (L7_0 n a0 a1 (0 : Int) ([] : List S34) ([] : List S55)) fun y1 =>
  (Sum.elim (fun y2 => (Option.bind (L7_1 n y2.1 (0 : Int) y2.2.1 y2.2.2) fun y4 =>
  (Sum.elim (fun y5 => (some (true, (y5.1, y5.2)))) (fun y6 => (some (y6.1, (y6.2.1, y6.2.2)))) y4))) (fun y3 => (some (y3.1, (y3.2.1, y3.2.2)))) y1))
noncomputable def c7 : Co (List (EV gam) × List (Ent gam)) ((List Int) × Int) := (.pairL (.cons (.d gam (.sl (.int .i64))) (.consL (.d gam (.int .i64)) (.nil _))) (.nil _))
noncomputable def r7 : Co (EV gam × List (Ent gam) × List (Ent gam)) (Bool × ((List S34) × (List S55))) := (.pair (.tp (.consU (.ptr gam 0 0) (.consL (.d gam .bool) (.nil _)))) (.pairU (.nil _) (.consU (.box (.consU (.ow gam 1) (.consU (.ow gam 2) (.nil _)))) (.cons (.row gam (.st 34) 0) (.consL (.row gam (.st 55) 0) (.nil _))))))
noncomputable def b7 : Code := (Try.f7.body).getD .skip
noncomputable def b7_0 : Code := (loopsIn b7).getD 0 .skip
noncomputable def kp7_0 : Keep := { slots := [0, 1, 6, 7], rows := [((1002000, some 0), 7001000000, (.st 34)), ((1002000, some 1), 7001000101, (.st 55))], boxes := [1002000], tombs := [] }
noncomputable def c7_0 : Co (List (EV gam) × List (Ent gam)) (((List Int) × (Int × Int)) × ((List S34) × (List S55))) := (.pair (.cons (.d gam (.sl (.int .i64))) (.cons (.d gam (.int .i64)) (.consU (.ptr gam 1002000 0) (.consL (.d gam (.int .i64)) (.nil _))))) (.consU (.box (.consU (.ow gam 7001000000) (.consU (.ow gam 7001000101) (.nil _)))) (.cons (.row gam (.st 34) 0) (.consL (.row gam (.st 55) 0) (.nil _)))))
noncomputable def x7_0 : Xc gam (((List Int) × ((List S34) × (List S55))) ⊕ (Bool × ((List S34) × (List S55)))) := (.or (.one (.exit 0) { slots := [0, 6], rows := [((1002000, some 0), 7001000000, (.st 34)), ((1002000, some 1), 7001000101, (.st 55))], boxes := [1002000], tombs := [] } (.pair (.consL (.d gam (.sl (.int .i64))) (.consU (.ptr gam 1002000 0) (.nil _))) (.consU (.box (.consU (.ow gam 7001000000) (.consU (.ow gam 7001000101) (.nil _)))) (.cons (.row gam (.st 34) 0) (.consL (.row gam (.st 55) 0) (.nil _)))))) (.one .ret { slots := [4, 5], rows := [((1002000, some 0), 7001000000, (.st 34)), ((1002000, some 1), 7001000101, (.st 55))], boxes := [1002000], tombs := [] } (.pair (.consU (.ptr gam 1002000 0) (.consL (.d gam .bool) (.nil _))) (.consU (.box (.consU (.ow gam 7001000000) (.consU (.ow gam 7001000101) (.nil _)))) (.cons (.row gam (.st 34) 0) (.consL (.row gam (.st 55) 0) (.nil _)))))))
noncomputable def b7_1 : Code := (loopsIn b7).getD 1 .skip
noncomputable def kp7_1 : Keep := { slots := [6, 10], rows := [((1002000, some 0), 7001000000, (.st 34)), ((1002000, some 1), 7001000101, (.st 55))], boxes := [1002000, 9003000], tombs := [] }
noncomputable def c7_1 : Co (List (EV gam) × List (Ent gam)) (((List Int) × Int) × ((List S34) × (List S55))) := (.pairU (.consU (.ptr gam 1002000 0) (.consU (.ptr gam 9003000 0) (.nil _))) (.consU (.box (.consU (.ow gam 7001000000) (.consU (.ow gam 7001000101) (.nil _)))) (.cons (.box (.cons (.d gam (.sl (.int .i64))) (.consL (.d gam (.int .i64)) (.nil _)))) (.cons (.row gam (.st 34) 0) (.consL (.row gam (.st 55) 0) (.nil _))))))
noncomputable def x7_1 : Xc gam (((List S34) × (List S55)) ⊕ (Bool × ((List S34) × (List S55)))) := (.or (.one (.exit 2) { slots := [6], rows := [((1002000, some 0), 7001000000, (.st 34)), ((1002000, some 1), 7001000101, (.st 55))], boxes := [1002000], tombs := [] } (.pairU (.consU (.ptr gam 1002000 0) (.nil _)) (.consU (.box (.consU (.ow gam 7001000000) (.consU (.ow gam 7001000101) (.nil _)))) (.cons (.row gam (.st 34) 0) (.consL (.row gam (.st 55) 0) (.nil _)))))) (.one .ret { slots := [4, 5], rows := [((1002000, some 0), 7001000000, (.st 34)), ((1002000, some 1), 7001000101, (.st 55))], boxes := [1002000], tombs := [] } (.pair (.consU (.ptr gam 1002000 0) (.consL (.d gam .bool) (.nil _))) (.consU (.box (.consU (.ow gam 7001000000) (.consU (.ow gam 7001000101) (.nil _)))) (.cons (.row gam (.st 34) 0) (.consL (.row gam (.st 55) 0) (.nil _)))))))
noncomputable def t7_0 (n : Nat) : LoopT gam := loopT kp7_0 c7_0 x7_0 (iter (U7_0 n) n)
noncomputable def t7_1 (n : Nat) : LoopT gam := loopT kp7_1 c7_1 x7_1 (iter (U7_1 n) n)
noncomputable def e7 (n : Nat) : FnT gam := fnT [] c7 r7 (fun x => F7 n x.1 x.2)
noncomputable def env7 (n : Nat) : Env gam := { P := Try.prog, fns := lookU [(10, e10 n), (11, e11 n), (15, e15 n), (16, e16 n), (17, e17 n)], loops := lookU [(3, t7_0 n), (10, t7_1 n)], nt := 56, m := 0, keeps := [], eqs := [] }
theorem env7_ok (n : Nat) : EnvOK (env7 n) := .of _ rfl (by exact ⟨ok10 n, ok11 n, ok15 n, ok16 n, ok17 n, trivial⟩) (by exact fun t h => nomatch h) (by kernel_rfl)
theorem lin7_1 (n : Nat) : LoopsOK (env7 n) b7_1 := .of [] (by kernel_rfl) trivial
theorem lok7_1 (n : Nat) : LoopOK (env7 n) b7_1 (t7_1 n) := loopT_ok (env7_ok n) (lin7_1 n) (fun L x => by kernel_rfl) n
theorem lin7_0 (n : Nat) : LoopsOK (env7 n) b7_0 := .of [] (by kernel_rfl) trivial
theorem lok7_0 (n : Nat) : LoopOK (env7 n) b7_0 (t7_0 n) := loopT_ok (env7_ok n) (lin7_0 n) (fun L x => by kernel_rfl) n
theorem lin7 (n : Nat) : LoopsOK (env7 n) b7 := .of [(b7_0, 3, t7_0 n), (b7_1, 10, t7_1 n)] (by kernel_rfl) ⟨by kernel_rfl, by kernel_rfl, lok7_0 n, by kernel_rfl, by kernel_rfl, lok7_1 n, trivial⟩
theorem eq7 (n : Nat) (x : (List Int) × Int) : (F7 n x.1 x.2) = fnE (env7 n) Try.f7 [[.asis], [.asis]] none c7 r7 x := by kernel_rfl
theorem ok7 (n : Nat) : FnOK Try.prog 7 (e7 n) := fnT_ok (env7_ok n) (by kernel_rfl) (by kernel_rfl) (by kernel_rfl) (b := b7) (by kernel_rfl) (fun x => by kernel_rfl) (lin7 n) (eq7 n)
/-! ### clusterlockslaw27.TokenOne -/
noncomputable def F3 (n : Nat) (a0 : List Int) (a1 : Int) : Option Bool :=
  (Option.bind (F5 n a0) fun y1 =>
  (bif (bNot y1) then
    (Option.bind (F6 n ()) fun y2 =>
    (some y2))
  else
    (bif ((4 : Int) == 0) then
      none
    else
      (Option.bind (F7 n a0 (IntKind.wrap .i64 ((1 : Int) + (Int.tmod (IntKind.wrap .i64 a1) (4 : Int))))) fun y3 =>
      (Option.bind (F6 n ()) fun y4 =>
      (bif y4 then (some y3.1) else (some false)))))))
noncomputable def c3 : Co (List (EV gam) × List (Ent gam)) ((List Int) × Int) := (.pairL (.cons (.d gam (.sl (.int .i64))) (.consL (.d gam (.int .u8)) (.nil _))) (.nil _))
noncomputable def r3 : Co (EV gam × List (Ent gam) × List (Ent gam)) Bool := (.pairL (.d gam .bool) (.pairU (.nil _) (.nil _)))
noncomputable def b3 : Code := (Try.f3.body).getD .skip
noncomputable def e3 (n : Nat) : FnT gam := fnT [] c3 r3 (fun x => F3 n x.1 x.2)
noncomputable def env3 (n : Nat) : Env gam := { P := Try.prog, fns := lookU [(5, e5 n), (6, e6 n), (7, e7 n)], loops := lookU [], nt := 24, m := 0, keeps := [], eqs := [] }
theorem env3_ok (n : Nat) : EnvOK (env3 n) := .of _ rfl (by exact ⟨ok5 n, ok6 n, ok7 n, trivial⟩) (by exact fun t h => nomatch h) (by kernel_rfl)
theorem lin3 (n : Nat) : LoopsOK (env3 n) b3 := .of [] (by kernel_rfl) trivial
theorem eq3 (n : Nat) (x : (List Int) × Int) : (F3 n x.1 x.2) = fnE (env3 n) Try.f3 [[.asis]] none c3 r3 x := by kernel_rfl
theorem ok3 (n : Nat) : FnOK Try.prog 3 (e3 n) := fnT_ok (env3_ok n) (by kernel_rfl) (by kernel_rfl) (by kernel_rfl) (b := b3) (by kernel_rfl) (fun x => by kernel_rfl) (lin3 n) (eq3 n)
/-! ### clusterlockslaw27.TokenServed -/
noncomputable def S4_2 (n : Nat) (L : Int → Int → (List S34) → (List S55) → Option (((List S34) × (List S55)) ⊕ Bool)) (a0 : Int) (a1 : Int) (a2 : List S34) (a3 : List S55) : Option (((List S34) × (List S55)) ⊕ Bool) :=
  (bif (decide (a1 < a0)) then
    (bif (decide (0 ≤ a1) && decide (a1 < ((List.length a2 : Nat) : Int))) then
      (Option.bind (a2[(Int.toNat a1)]?) fun y1 =>
      (bif y1.Want then
        (some (.inr false))
      else
        (bif (decide (0 ≤ a1) && decide (a1 < ((List.length a2 : Nat) : Int))) then
          (Option.bind (a2[(Int.toNat a1)]?) fun y2 =>
          (bif y2.Using then (some (.inr false)) else (L a0 (IntKind.wrap .i64 (a1 + (1 : Int))) a2 a3)))
        else
          none)))
    else
      none)
  else
    (some (.inl (a2, a3))))
noncomputable def U4_2 (n : Nat) (L : ((Int × Int) × ((List S34) × (List S55))) → Option (((List S34) × (List S55)) ⊕ Bool)) (x : (Int × Int) × ((List S34) × (List S55))) : Option (((List S34) × (List S55)) ⊕ Bool) := S4_2 n (fun a0 a1 a2 a3 => L ((a0, a1), (a2, a3))) x.1.1 x.1.2 x.2.1 x.2.2
noncomputable def L4_2 (n : Nat) (a0 : Int) (a1 : Int) (a2 : List S34) (a3 : List S55) : Option (((List S34) × (List S55)) ⊕ Bool) := iter (U4_2 n) n ((a0, a1), (a2, a3))
noncomputable def S4_1 (n : Nat) (L : Int → Bool → Int → Int → (List S34) → (List S55) → Option (((Int × Bool) × ((List S34) × (List S55))) ⊕ Bool)) (a0 : Int) (a1 : Bool) (a2 : Int) (a3 : Int) (a4 : List S34) (a5 : List S55) : Option (((Int × Bool) × ((List S34) × (List S55))) ⊕ Bool) :=
  (bif (decide (a3 < a2)) then
    (bif (decide (0 ≤ a3) && decide (a3 < ((List.length a4 : Nat) : Int))) then
      (Option.bind (a4[(Int.toNat a3)]?) fun y1 =>
      (bif y1.Using then
        (bif (decide (0 ≤ a3) && decide (a3 < ((List.length a4 : Nat) : Int))) then
          (Option.bind (a4[(Int.toNat a3)]?) fun y2 =>
          (Option.bind (F8 n y2 a3 ((List.length a4 : Nat) : Int) (1 : Int)) fun y3 =>
          (bif (y3.2.2 != (0 : Int)) then
            (some (.inr false))
          else
            (bif (appOK (List.length a5) (List.length y3.2.1) 208) then
              (bif (decide (0 ≤ a3) && decide (a3 < ((List.length a4 : Nat) : Int))) then
                (L a0 true a2 (IntKind.wrap .i64 (a3 + (1 : Int))) (List.set a4 (Int.toNat a3) y3.1) (a5 ++ y3.2.1))
              else
                none)
            else
              none))))
        else
          none)
      else
        (L a0 a1 a2 (IntKind.wrap .i64 (a3 + (1 : Int))) a4 a5)))
    else
      none)
  else
    (some (.inl ((a0, a1), (a4, a5)))))
noncomputable def U4_1 (n : Nat) (L : ((Int × (Bool × (Int × Int))) × ((List S34) × (List S55))) → Option (((Int × Bool) × ((List S34) × (List S55))) ⊕ Bool)) (x : (Int × (Bool × (Int × Int))) × ((List S34) × (List S55))) : Option (((Int × Bool) × ((List S34) × (List S55))) ⊕ Bool) := S4_1 n (fun a0 a1 a2 a3 a4 a5 => L ((a0, (a1, (a2, a3))), (a4, a5))) x.1.1 x.1.2.1 x.1.2.2.1 x.1.2.2.2 x.2.1 x.2.2
noncomputable def L4_1 (n : Nat) (a0 : Int) (a1 : Bool) (a2 : Int) (a3 : Int) (a4 : List S34) (a5 : List S55) : Option (((Int × Bool) × ((List S34) × (List S55))) ⊕ Bool) := iter (U4_1 n) n ((a0, (a1, (a2, a3))), (a4, a5))
noncomputable def S4_0 (n : Nat) (L : Int → (List S34) → (List S55) → Option (((List S34) × (List S55)) ⊕ Bool)) (a0 : Int) (a1 : List S34) (a2 : List S55) : Option (((List S34) × (List S55)) ⊕ Bool) :=
  (bif (decide (a0 < (1000 : Int))) then
    (Option.bind (L4_1 n a0 false ((List.length a1 : Nat) : Int) (0 : Int) a1 a2) fun y1 =>
    (Sum.elim (fun y2 => (bif (decide (((List.length y2.2.2 : Nat) : Int) > (0 : Int))) then
      (bif (((List.length y2.2.2 : Nat) : Int) == 0) then
        none
      else
        (Option.bind (F9 n (Int.tmod y2.1.1 ((List.length y2.2.2 : Nat) : Int)) y2.2.1 y2.2.2) fun y4 =>
        (bif (bNot y4.1) then
          (some (.inr false))
        else
          (Option.bind (F10 n y4.2.1.1 y4.2.2) fun y5 =>
          (bif (bNot y5.1) then
            (some (.inr false))
          else
            (bif (bNot true) then
              (some (.inl (y5.2.1, y5.2.2)))
            else
              (L (IntKind.wrap .i64 (y2.1.1 + (1 : Int))) y5.2.1 y5.2.2)))))))
    else
      (bif (bNot y2.1.2) then
        (some (.inl (y2.2.1, y2.2.2)))
      else
        (L (IntKind.wrap .i64 (y2.1.1 + (1 : Int))) y2.2.1 y2.2.2)))) (fun y3 => (some (.inr y3))) y1))
  else
    (some (.inl (a1, a2))))
noncomputable def U4_0 (n : Nat) (L : (Int × ((List S34) × (List S55))) → Option (((List S34) × (List S55)) ⊕ Bool)) (x : Int × ((List S34) × (List S55))) : Option (((List S34) × (List S55)) ⊕ Bool) := S4_0 n (fun a0 a1 a2 => L (a0, (a1, a2))) x.1 x.2.1 x.2.2
noncomputable def L4_0 (n : Nat) (a0 : Int) (a1 : List S34) (a2 : List S55) : Option (((List S34) × (List S55)) ⊕ Bool) := iter (U4_0 n) n (a0, (a1, a2))
noncomputable def F4 (n : Nat) (a0 : List Int) (a1 : Int) : Option Bool :=
  (Option.bind (F5 n a0) fun y1 =>
  (bif (bNot y1) then
    (Option.bind (F6 n ()) fun y2 =>
    (some y2))
  else
    (bif ((4 : Int) == 0) then
      none
    else
      (Option.bind (F7 n a0 (IntKind.wrap .i64 ((1 : Int) + (Int.tmod (IntKind.wrap .i64 a1) (4 : Int))))) fun y3 =>
      (bif (bNot y3.1) then
        (some false)
      else
        (Option.bind (L4_0 n (0 : Int) y3.2.1 y3.2.2) fun y4 =>
        (Sum.elim (fun y5 => (Option.bind (L4_2 n ((List.length y5.1 : Nat) : Int) (0 : Int) y5.1 y5.2) fun y7 =>
        (Sum.elim (fun y8 => (Option.bind (F6 n ()) fun y10 =>
        (bif y10 then (some (((List.length y8.2 : Nat) : Int) == (0 : Int))) else (some false)))) (fun y9 => (some y9)) y7))) (fun y6 => (some y6)) y4)))))))
noncomputable def c4 : Co (List (EV gam) × List (Ent gam)) ((List Int) × Int) := (.pairL (.cons (.d gam (.sl (.int .i64))) (.consL (.d gam (.int .u8)) (.nil _))) (.nil _))
noncomputable def r4 : Co (EV gam × List (Ent gam) × List (Ent gam)) Bool := (.pairL (.d gam .bool) (.pairU (.nil _) (.nil _)))
noncomputable def b4 : Code := (Try.f4.body).getD .skip
noncomputable def b4_0 : Code := (loopsIn b4).getD 0 .skip
noncomputable def kp4_0 : Keep := { slots := [5, 7], rows := [((3006000, some 0), 7001000000, (.st 34)), ((3006000, some 1), 7001000101, (.st 55))], boxes := [3006000], tombs := [] }
noncomputable def c4_0 : Co (List (EV gam) × List (Ent gam)) (Int × ((List S34) × (List S55))) := (.pair (.consU (.ptr gam 3006000 0) (.consL (.d gam (.int .i64)) (.nil _))) (.consU (.box (.consU (.ow gam 7001000000) (.consU (.ow gam 7001000101) (.nil _)))) (.cons (.row gam (.st 34) 0) (.consL (.row gam (.st 55) 0) (.nil _)))))
noncomputable def x4_0 : Xc gam (((List S34) × (List S55)) ⊕ Bool) := (.or (.one (.exit 0) { slots := [5], rows := [((3006000, some 0), 7001000000, (.st 34)), ((3006000, some 1), 7001000101, (.st 55))], boxes := [3006000], tombs := [] } (.pairU (.consU (.ptr gam 3006000 0) (.nil _)) (.consU (.box (.consU (.ow gam 7001000000) (.consU (.ow gam 7001000101) (.nil _)))) (.cons (.row gam (.st 34) 0) (.consL (.row gam (.st 55) 0) (.nil _)))))) (.one .ret { slots := [4], rows := [], boxes := [], tombs := [] } (.pairL (.consL (.d gam .bool) (.nil _)) (.nil _))))
noncomputable def b4_1 : Code := (loopsIn b4).getD 1 .skip
noncomputable def kp4_1 : Keep := { slots := [5, 7, 8, 37, 38], rows := [((3006000, some 0), 7001000000, (.st 34)), ((3006000, some 1), 7001000101, (.st 55))], boxes := [3006000], tombs := [] }
noncomputable def c4_1 : Co (List (EV gam) × List (Ent gam)) ((Int × (Bool × (Int × Int))) × ((List S34) × (List S55))) := (.pair (.consU (.ptr gam 3006000 0) (.cons (.d gam (.int .i64)) (.cons (.d gam .bool) (.cons (.d gam (.int .i64)) (.consL (.d gam (.int .i64)) (.nil _)))))) (.consU (.box (.consU (.ow gam 7001000000) (.consU (.ow gam 7001000101) (.nil _)))) (.cons (.row gam (.st 34) 0) (.consL (.row gam (.st 55) 0) (.nil _)))))
noncomputable def x4_1 : Xc gam (((Int × Bool) × ((List S34) × (List S55))) ⊕ Bool) := (.or (.one (.exit 2) { slots := [5, 7, 8], rows := [((3006000, some 0), 7001000000, (.st 34)), ((3006000, some 1), 7001000101, (.st 55))], boxes := [3006000], tombs := [] } (.pair (.consU (.ptr gam 3006000 0) (.cons (.d gam (.int .i64)) (.consL (.d gam .bool) (.nil _)))) (.consU (.box (.consU (.ow gam 7001000000) (.consU (.ow gam 7001000101) (.nil _)))) (.cons (.row gam (.st 34) 0) (.consL (.row gam (.st 55) 0) (.nil _)))))) (.one .ret { slots := [4], rows := [], boxes := [], tombs := [] } (.pairL (.consL (.d gam .bool) (.nil _)) (.nil _))))
noncomputable def b4_2 : Code := (loopsIn b4).getD 2 .skip
noncomputable def kp4_2 : Keep := { slots := [5, 113, 114], rows := [((3006000, some 0), 7001000000, (.st 34)), ((3006000, some 1), 7001000101, (.st 55))], boxes := [3006000], tombs := [] }
noncomputable def c4_2 : Co (List (EV gam) × List (Ent gam)) ((Int × Int) × ((List S34) × (List S55))) := (.pair (.consU (.ptr gam 3006000 0) (.cons (.d gam (.int .i64)) (.consL (.d gam (.int .i64)) (.nil _)))) (.consU (.box (.consU (.ow gam 7001000000) (.consU (.ow gam 7001000101) (.nil _)))) (.cons (.row gam (.st 34) 0) (.consL (.row gam (.st 55) 0) (.nil _)))))
noncomputable def x4_2 : Xc gam (((List S34) × (List S55)) ⊕ Bool) := (.or (.one (.exit 4) { slots := [5], rows := [((3006000, some 0), 7001000000, (.st 34)), ((3006000, some 1), 7001000101, (.st 55))], boxes := [3006000], tombs := [] } (.pairU (.consU (.ptr gam 3006000 0) (.nil _)) (.consU (.box (.consU (.ow gam 7001000000) (.consU (.ow gam 7001000101) (.nil _)))) (.cons (.row gam (.st 34) 0) (.consL (.row gam (.st 55) 0) (.nil _)))))) (.one .ret { slots := [4], rows := [], boxes := [], tombs := [] } (.pairL (.consL (.d gam .bool) (.nil _)) (.nil _))))
noncomputable def t4_0 (n : Nat) : LoopT gam := loopT kp4_0 c4_0 x4_0 (iter (U4_0 n) n)
noncomputable def t4_1 (n : Nat) : LoopT gam := loopT kp4_1 c4_1 x4_1 (iter (U4_1 n) n)
noncomputable def t4_2 (n : Nat) : LoopT gam := loopT kp4_2 c4_2 x4_2 (iter (U4_2 n) n)
noncomputable def e4 (n : Nat) : FnT gam := fnT [] c4 r4 (fun x => F4 n x.1 x.2)
noncomputable def env4 (n : Nat) : Env gam := { P := Try.prog, fns := lookU [(5, e5 n), (6, e6 n), (7, e7 n), (8, e8 n), (9, e9 n), (10, e10 n)], loops := lookU [(7, t4_0 n), (11, t4_1 n), (25, t4_2 n)], nt := 145, m := 0, keeps := [], eqs := [] }
theorem env4_ok (n : Nat) : EnvOK (env4 n) := .of _ rfl (by exact ⟨ok5 n, ok6 n, ok7 n, ok8 n, ok9 n, ok10 n, trivial⟩) (by exact fun t h => nomatch h) (by kernel_rfl)
theorem lin4_2 (n : Nat) : LoopsOK (env4 n) b4_2 := .of [] (by kernel_rfl) trivial
theorem lok4_2 (n : Nat) : LoopOK (env4 n) b4_2 (t4_2 n) := loopT_ok (env4_ok n) (lin4_2 n) (fun L x => by kernel_rfl) n
theorem lin4_1 (n : Nat) : LoopsOK (env4 n) b4_1 := .of [] (by kernel_rfl) trivial
theorem lok4_1 (n : Nat) : LoopOK (env4 n) b4_1 (t4_1 n) := loopT_ok (env4_ok n) (lin4_1 n) (fun L x => by kernel_rfl) n
theorem lin4_0 (n : Nat) : LoopsOK (env4 n) b4_0 := .of [(b4_1, 11, t4_1 n)] (by kernel_rfl) ⟨by kernel_rfl, by kernel_rfl, lok4_1 n, trivial⟩
theorem lok4_0 (n : Nat) : LoopOK (env4 n) b4_0 (t4_0 n) := loopT_ok (env4_ok n) (lin4_0 n) (fun L x => by kernel_rfl) n
theorem lin4 (n : Nat) : LoopsOK (env4 n) b4 := .of [(b4_0, 7, t4_0 n), (b4_1, 11, t4_1 n), (b4_2, 25, t4_2 n)] (by kernel_rfl) ⟨by kernel_rfl, by kernel_rfl, lok4_0 n, by kernel_rfl, by kernel_rfl, lok4_1 n, by kernel_rfl, by kernel_rfl, lok4_2 n, trivial⟩
theorem eq4 (n : Nat) (x : (List Int) × Int) : (F4 n x.1 x.2) = fnE (env4 n) Try.f4 [[.asis]] none c4 r4 x := by kernel_rfl
theorem ok4 (n : Nat) : FnOK Try.prog 4 (e4 n) := fnT_ok (env4_ok n) (by kernel_rfl) (by kernel_rfl) (by kernel_rfl) (b := b4) (by kernel_rfl) (fun x => by kernel_rfl) (lin4 n) (eq4 n)
end Go.Abs.AbsP27
end
