/- The functions of the package regen and of its laws are the plain functions below. No conditions. -/
import Derived.Test.YtehaojgljahjbaaProg
import Derived.Test.YtehaojgljahjbaaLibD
section
set_option linter.all false
set_option linter.unusedVariables false
set_option linter.unusedSimpArgs false
set_option linter.unnecessarySimpa false
namespace Go.G28
open Go Go.Abs
structure S35 where
  Has : Bool
  Want : Bool
  Using : Bool
  Last : Int
  Next : Int
  deriving DecidableEq, Inhabited
structure S37 where
  Epoch : Int
  Lost : Bool
  Asking : Bool
  Promised : List Bool
  Token_Has : Bool
  Token_Want : Bool
  Token_Using : Bool
  Token_Last : Int
  Token_Next : Int
  deriving DecidableEq, Inhabited
structure S57 where
  Kind : Int
  Proc_Site : Int
  Proc_Inc : Int
  Proc_Num : Int
  Gen : Int
  Atom_Name : ByteArray
  Atom_Amount_Mode : Int
  Atom_Amount_Units : Int
  Priority : Int
  Inc : Int
  Round : Int
  Epoch : Int
  Site : Int
  Label : Int
  Done : Bool
  State_Queues : List Unit
  State_Needs : List Unit
  Options : List Unit
structure S64 where
  To : Int
  Message_Kind : Int
  Message_Proc_Site : Int
  Message_Proc_Inc : Int
  Message_Proc_Num : Int
  Message_Gen : Int
  Message_Atom_Name : ByteArray
  Message_Atom_Amount_Mode : Int
  Message_Atom_Amount_Units : Int
  Message_Priority : Int
  Message_Inc : Int
  Message_Round : Int
  Message_Epoch : Int
  Message_Site : Int
  Message_Label : Int
  Message_Done : Bool
  Message_State_Queues : List Unit
  Message_State_Needs : List Unit
  Message_Options : List Unit
def SS : TypeId → Type
  | 35 => S35
  | 37 => S37
  | 57 => S57
  | 64 => S64
  | _ => Unit
def lv35 : List Ty := [.bool, .bool, .bool, (.int .i64), (.int .i64)]
def cells35 (x : S35) : List (Lf SS) := [.mk .bool (S35.Has x), .mk .bool (S35.Want x), .mk .bool (S35.Using x), .mk (.int .i64) (S35.Last x), .mk (.int .i64) (S35.Next x)]
def coll35 : List (Lf SS) → Option S35
  | [.mk τ0 x0, .mk τ1 x1, .mk τ2 x2, .mk τ3 x3, .mk τ4 x4] => (castD τ0 .bool x0).bind fun y0 => (castD τ1 .bool x1).bind fun y1 => (castD τ2 .bool x2).bind fun y2 => (castD τ3 (.int .i64) x3).bind fun y3 => (castD τ4 (.int .i64) x4).bind fun y4 => some ⟨y0, y1, y2, y3, y4⟩
  | _ => none
theorem law35 (l : List (Lf SS)) (x : S35) (h : coll35 l = some x) : cells35 x = l := by
  unfold coll35 at h
  split at h
  · obtain ⟨y0, e0, h⟩ := bindS h; obtain ⟨q0, e0⟩ := castD_eq e0; subst q0; subst e0
    obtain ⟨y1, e1, h⟩ := bindS h; obtain ⟨q1, e1⟩ := castD_eq e1; subst q1; subst e1
    obtain ⟨y2, e2, h⟩ := bindS h; obtain ⟨q2, e2⟩ := castD_eq e2; subst q2; subst e2
    obtain ⟨y3, e3, h⟩ := bindS h; obtain ⟨q3, e3⟩ := castD_eq e3; subst q3; subst e3
    obtain ⟨y4, e4, h⟩ := bindS h; obtain ⟨q4, e4⟩ := castD_eq e4; subst q4; subst e4
    cases h; rfl
  · cases h
def lv37 : List Ty := [(.int .i64), .bool, .bool, (.sl .bool), .bool, .bool, .bool, (.int .i64), (.int .i64)]
def cells37 (x : S37) : List (Lf SS) := [.mk (.int .i64) (S37.Epoch x), .mk .bool (S37.Lost x), .mk .bool (S37.Asking x), .mk (.sl .bool) (S37.Promised x), .mk .bool (S37.Token_Has x), .mk .bool (S37.Token_Want x), .mk .bool (S37.Token_Using x), .mk (.int .i64) (S37.Token_Last x), .mk (.int .i64) (S37.Token_Next x)]
def coll37 : List (Lf SS) → Option S37
  | [.mk τ0 x0, .mk τ1 x1, .mk τ2 x2, .mk τ3 x3, .mk τ4 x4, .mk τ5 x5, .mk τ6 x6, .mk τ7 x7, .mk τ8 x8] => (castD τ0 (.int .i64) x0).bind fun y0 => (castD τ1 .bool x1).bind fun y1 => (castD τ2 .bool x2).bind fun y2 => (castD τ3 (.sl .bool) x3).bind fun y3 => (castD τ4 .bool x4).bind fun y4 => (castD τ5 .bool x5).bind fun y5 => (castD τ6 .bool x6).bind fun y6 => (castD τ7 (.int .i64) x7).bind fun y7 => (castD τ8 (.int .i64) x8).bind fun y8 => some ⟨y0, y1, y2, y3, y4, y5, y6, y7, y8⟩
  | _ => none
theorem law37 (l : List (Lf SS)) (x : S37) (h : coll37 l = some x) : cells37 x = l := by
  unfold coll37 at h
  split at h
  · obtain ⟨y0, e0, h⟩ := bindS h; obtain ⟨q0, e0⟩ := castD_eq e0; subst q0; subst e0
    obtain ⟨y1, e1, h⟩ := bindS h; obtain ⟨q1, e1⟩ := castD_eq e1; subst q1; subst e1
    obtain ⟨y2, e2, h⟩ := bindS h; obtain ⟨q2, e2⟩ := castD_eq e2; subst q2; subst e2
    obtain ⟨y3, e3, h⟩ := bindS h; obtain ⟨q3, e3⟩ := castD_eq e3; subst q3; subst e3
    obtain ⟨y4, e4, h⟩ := bindS h; obtain ⟨q4, e4⟩ := castD_eq e4; subst q4; subst e4
    obtain ⟨y5, e5, h⟩ := bindS h; obtain ⟨q5, e5⟩ := castD_eq e5; subst q5; subst e5
    obtain ⟨y6, e6, h⟩ := bindS h; obtain ⟨q6, e6⟩ := castD_eq e6; subst q6; subst e6
    obtain ⟨y7, e7, h⟩ := bindS h; obtain ⟨q7, e7⟩ := castD_eq e7; subst q7; subst e7
    obtain ⟨y8, e8, h⟩ := bindS h; obtain ⟨q8, e8⟩ := castD_eq e8; subst q8; subst e8
    cases h; rfl
  · cases h
def lv57 : List Ty := [(.int .i64), (.int .i64), (.int .i64), (.int .i64), (.int .i64), .str, (.int .i64), (.int .i64), (.int .i64), (.int .i64), (.int .i64), (.int .i64), (.int .i64), (.int .i64), .bool, (.sl (.st 118)), (.sl (.st 123)), (.sl (.st 126))]
def cells57 (x : S57) : List (Lf SS) := [.mk (.int .i64) (S57.Kind x), .mk (.int .i64) (S57.Proc_Site x), .mk (.int .i64) (S57.Proc_Inc x), .mk (.int .i64) (S57.Proc_Num x), .mk (.int .i64) (S57.Gen x), .mk .str (S57.Atom_Name x), .mk (.int .i64) (S57.Atom_Amount_Mode x), .mk (.int .i64) (S57.Atom_Amount_Units x), .mk (.int .i64) (S57.Priority x), .mk (.int .i64) (S57.Inc x), .mk (.int .i64) (S57.Round x), .mk (.int .i64) (S57.Epoch x), .mk (.int .i64) (S57.Site x), .mk (.int .i64) (S57.Label x), .mk .bool (S57.Done x), .mk (.sl (.st 118)) (S57.State_Queues x), .mk (.sl (.st 123)) (S57.State_Needs x), .mk (.sl (.st 126)) (S57.Options x)]
def coll57 : List (Lf SS) → Option S57
  | [.mk τ0 x0, .mk τ1 x1, .mk τ2 x2, .mk τ3 x3, .mk τ4 x4, .mk τ5 x5, .mk τ6 x6, .mk τ7 x7, .mk τ8 x8, .mk τ9 x9, .mk τ10 x10, .mk τ11 x11, .mk τ12 x12, .mk τ13 x13, .mk τ14 x14, .mk τ15 x15, .mk τ16 x16, .mk τ17 x17] => (castD τ0 (.int .i64) x0).bind fun y0 => (castD τ1 (.int .i64) x1).bind fun y1 => (castD τ2 (.int .i64) x2).bind fun y2 => (castD τ3 (.int .i64) x3).bind fun y3 => (castD τ4 (.int .i64) x4).bind fun y4 => (castD τ5 .str x5).bind fun y5 => (castD τ6 (.int .i64) x6).bind fun y6 => (castD τ7 (.int .i64) x7).bind fun y7 => (castD τ8 (.int .i64) x8).bind fun y8 => (castD τ9 (.int .i64) x9).bind fun y9 => (castD τ10 (.int .i64) x10).bind fun y10 => (castD τ11 (.int .i64) x11).bind fun y11 => (castD τ12 (.int .i64) x12).bind fun y12 => (castD τ13 (.int .i64) x13).bind fun y13 => (castD τ14 .bool x14).bind fun y14 => (castD τ15 (.sl (.st 118)) x15).bind fun y15 => (castD τ16 (.sl (.st 123)) x16).bind fun y16 => (castD τ17 (.sl (.st 126)) x17).bind fun y17 => some ⟨y0, y1, y2, y3, y4, y5, y6, y7, y8, y9, y10, y11, y12, y13, y14, y15, y16, y17⟩
  | _ => none
theorem law57 (l : List (Lf SS)) (x : S57) (h : coll57 l = some x) : cells57 x = l := by
  unfold coll57 at h
  split at h
  · obtain ⟨y0, e0, h⟩ := bindS h; obtain ⟨q0, e0⟩ := castD_eq e0; subst q0; subst e0
    obtain ⟨y1, e1, h⟩ := bindS h; obtain ⟨q1, e1⟩ := castD_eq e1; subst q1; subst e1
    obtain ⟨y2, e2, h⟩ := bindS h; obtain ⟨q2, e2⟩ := castD_eq e2; subst q2; subst e2
    obtain ⟨y3, e3, h⟩ := bindS h; obtain ⟨q3, e3⟩ := castD_eq e3; subst q3; subst e3
    obtain ⟨y4, e4, h⟩ := bindS h; obtain ⟨q4, e4⟩ := castD_eq e4; subst q4; subst e4
    obtain ⟨y5, e5, h⟩ := bindS h; obtain ⟨q5, e5⟩ := castD_eq e5; subst q5; subst e5
    obtain ⟨y6, e6, h⟩ := bindS h; obtain ⟨q6, e6⟩ := castD_eq e6; subst q6; subst e6
    obtain ⟨y7, e7, h⟩ := bindS h; obtain ⟨q7, e7⟩ := castD_eq e7; subst q7; subst e7
    obtain ⟨y8, e8, h⟩ := bindS h; obtain ⟨q8, e8⟩ := castD_eq e8; subst q8; subst e8
    obtain ⟨y9, e9, h⟩ := bindS h; obtain ⟨q9, e9⟩ := castD_eq e9; subst q9; subst e9
    obtain ⟨y10, e10, h⟩ := bindS h; obtain ⟨q10, e10⟩ := castD_eq e10; subst q10; subst e10
    obtain ⟨y11, e11, h⟩ := bindS h; obtain ⟨q11, e11⟩ := castD_eq e11; subst q11; subst e11
    obtain ⟨y12, e12, h⟩ := bindS h; obtain ⟨q12, e12⟩ := castD_eq e12; subst q12; subst e12
    obtain ⟨y13, e13, h⟩ := bindS h; obtain ⟨q13, e13⟩ := castD_eq e13; subst q13; subst e13
    obtain ⟨y14, e14, h⟩ := bindS h; obtain ⟨q14, e14⟩ := castD_eq e14; subst q14; subst e14
    obtain ⟨y15, e15, h⟩ := bindS h; obtain ⟨q15, e15⟩ := castD_eq e15; subst q15; subst e15
    obtain ⟨y16, e16, h⟩ := bindS h; obtain ⟨q16, e16⟩ := castD_eq e16; subst q16; subst e16
    obtain ⟨y17, e17, h⟩ := bindS h; obtain ⟨q17, e17⟩ := castD_eq e17; subst q17; subst e17
    cases h; rfl
  · cases h
def lv64 : List Ty := [(.int .i64), (.int .i64), (.int .i64), (.int .i64), (.int .i64), (.int .i64), .str, (.int .i64), (.int .i64), (.int .i64), (.int .i64), (.int .i64), (.int .i64), (.int .i64), (.int .i64), .bool, (.sl (.st 118)), (.sl (.st 123)), (.sl (.st 126))]
def cells64 (x : S64) : List (Lf SS) := [.mk (.int .i64) (S64.To x), .mk (.int .i64) (S64.Message_Kind x), .mk (.int .i64) (S64.Message_Proc_Site x), .mk (.int .i64) (S64.Message_Proc_Inc x), .mk (.int .i64) (S64.Message_Proc_Num x), .mk (.int .i64) (S64.Message_Gen x), .mk .str (S64.Message_Atom_Name x), .mk (.int .i64) (S64.Message_Atom_Amount_Mode x), .mk (.int .i64) (S64.Message_Atom_Amount_Units x), .mk (.int .i64) (S64.Message_Priority x), .mk (.int .i64) (S64.Message_Inc x), .mk (.int .i64) (S64.Message_Round x), .mk (.int .i64) (S64.Message_Epoch x), .mk (.int .i64) (S64.Message_Site x), .mk (.int .i64) (S64.Message_Label x), .mk .bool (S64.Message_Done x), .mk (.sl (.st 118)) (S64.Message_State_Queues x), .mk (.sl (.st 123)) (S64.Message_State_Needs x), .mk (.sl (.st 126)) (S64.Message_Options x)]
def coll64 : List (Lf SS) → Option S64
  | [.mk τ0 x0, .mk τ1 x1, .mk τ2 x2, .mk τ3 x3, .mk τ4 x4, .mk τ5 x5, .mk τ6 x6, .mk τ7 x7, .mk τ8 x8, .mk τ9 x9, .mk τ10 x10, .mk τ11 x11, .mk τ12 x12, .mk τ13 x13, .mk τ14 x14, .mk τ15 x15, .mk τ16 x16, .mk τ17 x17, .mk τ18 x18] => (castD τ0 (.int .i64) x0).bind fun y0 => (castD τ1 (.int .i64) x1).bind fun y1 => (castD τ2 (.int .i64) x2).bind fun y2 => (castD τ3 (.int .i64) x3).bind fun y3 => (castD τ4 (.int .i64) x4).bind fun y4 => (castD τ5 (.int .i64) x5).bind fun y5 => (castD τ6 .str x6).bind fun y6 => (castD τ7 (.int .i64) x7).bind fun y7 => (castD τ8 (.int .i64) x8).bind fun y8 => (castD τ9 (.int .i64) x9).bind fun y9 => (castD τ10 (.int .i64) x10).bind fun y10 => (castD τ11 (.int .i64) x11).bind fun y11 => (castD τ12 (.int .i64) x12).bind fun y12 => (castD τ13 (.int .i64) x13).bind fun y13 => (castD τ14 (.int .i64) x14).bind fun y14 => (castD τ15 .bool x15).bind fun y15 => (castD τ16 (.sl (.st 118)) x16).bind fun y16 => (castD τ17 (.sl (.st 123)) x17).bind fun y17 => (castD τ18 (.sl (.st 126)) x18).bind fun y18 => some ⟨y0, y1, y2, y3, y4, y5, y6, y7, y8, y9, y10, y11, y12, y13, y14, y15, y16, y17, y18⟩
  | _ => none
theorem law64 (l : List (Lf SS)) (x : S64) (h : coll64 l = some x) : cells64 x = l := by
  unfold coll64 at h
  split at h
  · obtain ⟨y0, e0, h⟩ := bindS h; obtain ⟨q0, e0⟩ := castD_eq e0; subst q0; subst e0
    obtain ⟨y1, e1, h⟩ := bindS h; obtain ⟨q1, e1⟩ := castD_eq e1; subst q1; subst e1
    obtain ⟨y2, e2, h⟩ := bindS h; obtain ⟨q2, e2⟩ := castD_eq e2; subst q2; subst e2
    obtain ⟨y3, e3, h⟩ := bindS h; obtain ⟨q3, e3⟩ := castD_eq e3; subst q3; subst e3
    obtain ⟨y4, e4, h⟩ := bindS h; obtain ⟨q4, e4⟩ := castD_eq e4; subst q4; subst e4
    obtain ⟨y5, e5, h⟩ := bindS h; obtain ⟨q5, e5⟩ := castD_eq e5; subst q5; subst e5
    obtain ⟨y6, e6, h⟩ := bindS h; obtain ⟨q6, e6⟩ := castD_eq e6; subst q6; subst e6
    obtain ⟨y7, e7, h⟩ := bindS h; obtain ⟨q7, e7⟩ := castD_eq e7; subst q7; subst e7
    obtain ⟨y8, e8, h⟩ := bindS h; obtain ⟨q8, e8⟩ := castD_eq e8; subst q8; subst e8
    obtain ⟨y9, e9, h⟩ := bindS h; obtain ⟨q9, e9⟩ := castD_eq e9; subst q9; subst e9
    obtain ⟨y10, e10, h⟩ := bindS h; obtain ⟨q10, e10⟩ := castD_eq e10; subst q10; subst e10
    obtain ⟨y11, e11, h⟩ := bindS h; obtain ⟨q11, e11⟩ := castD_eq e11; subst q11; subst e11
    obtain ⟨y12, e12, h⟩ := bindS h; obtain ⟨q12, e12⟩ := castD_eq e12; subst q12; subst e12
    obtain ⟨y13, e13, h⟩ := bindS h; obtain ⟨q13, e13⟩ := castD_eq e13; subst q13; subst e13
    obtain ⟨y14, e14, h⟩ := bindS h; obtain ⟨q14, e14⟩ := castD_eq e14; subst q14; subst e14
    obtain ⟨y15, e15, h⟩ := bindS h; obtain ⟨q15, e15⟩ := castD_eq e15; subst q15; subst e15
    obtain ⟨y16, e16, h⟩ := bindS h; obtain ⟨q16, e16⟩ := castD_eq e16; subst q16; subst e16
    obtain ⟨y17, e17, h⟩ := bindS h; obtain ⟨q17, e17⟩ := castD_eq e17; subst q17; subst e17
    obtain ⟨y18, e18, h⟩ := bindS h; obtain ⟨q18, e18⟩ := castD_eq e18; subst q18; subst e18
    cases h; rfl
  · cases h
def se35 : SE SS S35 where
  lv := lv35
  cells := cells35
  coll := coll35
  law := law35
  tys := by intro x; rfl
  flat := by decide
def se37 : SE SS S37 where
  lv := lv37
  cells := cells37
  coll := coll37
  law := law37
  tys := by intro x; rfl
  flat := by decide
def se57 : SE SS S57 where
  lv := lv57
  cells := cells57
  coll := coll57
  law := law57
  tys := by intro x; rfl
  flat := by decide
def se64 : SE SS S64 where
  lv := lv64
  cells := cells64
  coll := coll64
  law := law64
  tys := by intro x; rfl
  flat := by decide
def seS : (t : TypeId) → SE SS (SS t)
  | 35 => se35
  | 37 => se37
  | 57 => se57
  | 64 => se64
  | _ => .none _
def gam : Gam := .of SS seS
theorem full35 (l : List (Lf gam.S)) (h : l.map lfT = lv35) : ∃ x : S35, coll35 l = some x := by
  match l, h with
  | [.mk τ0 x0, .mk τ1 x1, .mk τ2 x2, .mk τ3 x3, .mk τ4 x4], h =>
    simp only [lv35, List.map_cons, List.map_nil, lfT, List.cons.injEq, and_true] at h
    obtain ⟨rfl, rfl, rfl, rfl, rfl⟩ := h
    exact ⟨⟨x0, x1, x2, x3, x4⟩, rfl⟩
theorem full37 (l : List (Lf gam.S)) (h : l.map lfT = lv37) : ∃ x : S37, coll37 l = some x := by
  match l, h with
  | [.mk τ0 x0, .mk τ1 x1, .mk τ2 x2, .mk τ3 x3, .mk τ4 x4, .mk τ5 x5, .mk τ6 x6, .mk τ7 x7, .mk τ8 x8], h =>
    simp only [lv37, List.map_cons, List.map_nil, lfT, List.cons.injEq, and_true] at h
    obtain ⟨rfl, rfl, rfl, rfl, rfl, rfl, rfl, rfl, rfl⟩ := h
    exact ⟨⟨x0, x1, x2, x3, x4, x5, x6, x7, x8⟩, rfl⟩
theorem full57 (l : List (Lf gam.S)) (h : l.map lfT = lv57) : ∃ x : S57, coll57 l = some x := by
  match l, h with
  | [.mk τ0 x0, .mk τ1 x1, .mk τ2 x2, .mk τ3 x3, .mk τ4 x4, .mk τ5 x5, .mk τ6 x6, .mk τ7 x7, .mk τ8 x8, .mk τ9 x9, .mk τ10 x10, .mk τ11 x11, .mk τ12 x12, .mk τ13 x13, .mk τ14 x14, .mk τ15 x15, .mk τ16 x16, .mk τ17 x17], h =>
    simp only [lv57, List.map_cons, List.map_nil, lfT, List.cons.injEq, and_true] at h
    obtain ⟨rfl, rfl, rfl, rfl, rfl, rfl, rfl, rfl, rfl, rfl, rfl, rfl, rfl, rfl, rfl, rfl, rfl, rfl⟩ := h
    exact ⟨⟨x0, x1, x2, x3, x4, x5, x6, x7, x8, x9, x10, x11, x12, x13, x14, x15, x16, x17⟩, rfl⟩
theorem full64 (l : List (Lf gam.S)) (h : l.map lfT = lv64) : ∃ x : S64, coll64 l = some x := by
  match l, h with
  | [.mk τ0 x0, .mk τ1 x1, .mk τ2 x2, .mk τ3 x3, .mk τ4 x4, .mk τ5 x5, .mk τ6 x6, .mk τ7 x7, .mk τ8 x8, .mk τ9 x9, .mk τ10 x10, .mk τ11 x11, .mk τ12 x12, .mk τ13 x13, .mk τ14 x14, .mk τ15 x15, .mk τ16 x16, .mk τ17 x17, .mk τ18 x18], h =>
    simp only [lv64, List.map_cons, List.map_nil, lfT, List.cons.injEq, and_true] at h
    obtain ⟨rfl, rfl, rfl, rfl, rfl, rfl, rfl, rfl, rfl, rfl, rfl, rfl, rfl, rfl, rfl, rfl, rfl, rfl, rfl⟩ := h
    exact ⟨⟨x0, x1, x2, x3, x4, x5, x6, x7, x8, x9, x10, x11, x12, x13, x14, x15, x16, x17, x18⟩, rfl⟩
theorem full : ∀ t ∈ ([35, 37, 57, 64] : List Nat), ∀ l : List (Lf gam.S), l.map lfT = gam.lv t → ∃ x, gam.coll t l = some x := by
  intro t ht l h
  simp only [List.mem_cons, List.not_mem_nil, or_false] at ht
  rcases ht with rfl | rfl | rfl | rfl
  · exact full35 l h
  · exact full37 l h
  · exact full57 l h
  · exact full64 l h
end Go.G28
end
section
set_option linter.all false
set_option linter.unusedVariables false
set_option linter.unusedSimpArgs false
set_option linter.unnecessarySimpa false
/- Printed by gen.py. -/
open Go Go.Abs Go.G28 Go.Proofs
set_option linter.all false
namespace Go.Abs.AbsP28
/-! ### clusterlocksplan.Light -/
noncomputable def F6 (n : Nat) (a0 : List Int) : Option Bool :=
  (some (decide (((List.length a0 : Nat) : Int) ≤ (400 : Int))))
noncomputable def c6 : Co (List (EV gam) × List (Ent gam)) (List Int) := (.pairL (.consL (.d gam (.sl (.int .i64))) (.nil _)) (.nil _))
noncomputable def r6 : Co (EV gam × List (Ent gam) × List (Ent gam)) Bool := (.pairL (.d gam .bool) (.pairU (.nil _) (.nil _)))
noncomputable def b6 : Code := (Try.f6.body).getD .skip
noncomputable def e6 (n : Nat) : FnT gam := fnN [[some (.int .i64)]] (fnT [] c6 r6 (fun x => F6 n x))
noncomputable def p6 (a : List (EV gam)) (l : List (Ent gam)) : Bool := (c6.dec (nilArgs [[some (.int .i64)]] a, l)).isSome
noncomputable def env6 (n : Nat) : Env gam := { P := Try.prog, fns := lookU [], loops := lookU [], nt := 6, m := 0, keeps := [], eqs := [] }
theorem env6_ok (n : Nat) : EnvOK (env6 n) := .of _ rfl (by exact trivial) (by exact fun t h => nomatch h) (by kernel_rfl)
theorem lin6 (n : Nat) : LoopsOK (env6 n) b6 := .of [] (by kernel_rfl) trivial
theorem eq6 (n : Nat) (x : List Int) : (F6 n x) = fnE (env6 n) Try.f6 [[.asis]] none c6 r6 x := by kernel_rfl
theorem okt6 (n : Nat) : FnOK Try.prog 6 (fnT (G := gam) [] c6 r6 (fun x => F6 n x)) := fnT_ok (env6_ok n) (by kernel_rfl) (by kernel_rfl) (by kernel_rfl) (b := b6) (by kernel_rfl) (fun x => by kernel_rfl) (lin6 n) (eq6 n)
theorem ok6 (n : Nat) : FnOK Try.prog 6 (e6 n) := fnN_ok (okt6 n)
/-! ### token.proper -/
noncomputable def F40 (n : Nat) (a0 : Int) (a1 : Int) : Option Bool :=
  (some (bif (decide (a1 ≥ (1 : Int))) then
    (bif (decide (a1 ≤ (4 : Int))) then (bif (decide (a0 ≥ (0 : Int))) then (decide (a0 < a1)) else false) else false)
  else
    false))
noncomputable def c40 : Co (List (EV gam) × List (Ent gam)) (Int × Int) := (.pairL (.cons (.d gam (.int .i64)) (.consL (.d gam (.int .i64)) (.nil _))) (.nil _))
noncomputable def r40 : Co (EV gam × List (Ent gam) × List (Ent gam)) Bool := (.pairL (.d gam .bool) (.pairU (.nil _) (.nil _)))
noncomputable def b40 : Code := (Try.f40.body).getD .skip
noncomputable def e40 (n : Nat) : FnT gam := fnN [] (fnT [] c40 r40 (fun x => F40 n x.1 x.2))
noncomputable def p40 (a : List (EV gam)) (l : List (Ent gam)) : Bool := (c40.dec (nilArgs [] a, l)).isSome
noncomputable def env40 (n : Nat) : Env gam := { P := Try.prog, fns := lookU [], loops := lookU [], nt := 20, m := 0, keeps := [], eqs := [] }
theorem env40_ok (n : Nat) : EnvOK (env40 n) := .of _ rfl (by exact trivial) (by exact fun t h => nomatch h) (by kernel_rfl)
theorem lin40 (n : Nat) : LoopsOK (env40 n) b40 := .of [] (by kernel_rfl) trivial
theorem eq40 (n : Nat) (x : Int × Int) : (F40 n x.1 x.2) = fnE (env40 n) Try.f40 [[.asis]] none c40 r40 x := by kernel_rfl
theorem okt40 (n : Nat) : FnOK Try.prog 40 (fnT (G := gam) [] c40 r40 (fun x => F40 n x.1 x.2)) := fnT_ok (env40_ok n) (by kernel_rfl) (by kernel_rfl) (by kernel_rfl) (b := b40) (by kernel_rfl) (fun x => by kernel_rfl) (lin40 n) (eq40 n)
theorem ok40 (n : Nat) : FnOK Try.prog 40 (e40 n) := fnN_ok (okt40 n)
/-! ### token.New -/
noncomputable def F30 (n : Nat) (a0 : Int) (a1 : Int) : Option (S35 × Int) :=
  (Option.bind (F40 n a0 a1) fun y1 =>
  (bif (bNot y1) then
    (some ((S35.mk false false false (0 : Int) (0 : Int)), (1 : Int)))
  else
    (bif (a0 == (0 : Int)) then
      (some ((S35.mk true false false (-1 : Int) (-1 : Int)), (0 : Int)))
    else
      (some ((S35.mk false false false (0 : Int) (-1 : Int)), (0 : Int))))))
noncomputable def c30 : Co (List (EV gam) × List (Ent gam)) (Int × Int) := (.pairL (.cons (.d gam (.int .i64)) (.consL (.d gam (.int .i64)) (.nil _))) (.nil _))
noncomputable def r30 : Co (EV gam × List (Ent gam) × List (Ent gam)) (S35 × Int) := (.pairL (.tp (.cons (.st gam 35) (.consL (.d gam (.int .i64)) (.nil _)))) (.pairU (.nil _) (.nil _)))
noncomputable def b30 : Code := (Try.f30.body).getD .skip
noncomputable def e30 (n : Nat) : FnT gam := fnN [] (fnT [] c30 r30 (fun x => F30 n x.1 x.2))
noncomputable def p30 (a : List (EV gam)) (l : List (Ent gam)) : Bool := (c30.dec (nilArgs [] a, l)).isSome
noncomputable def env30 (n : Nat) : Env gam := { P := Try.prog, fns := lookU [(40, e40 n)], loops := lookU [], nt := 17, m := 0, keeps := [], eqs := [] }
theorem env30_ok (n : Nat) : EnvOK (env30 n) := .of _ rfl (by exact ⟨ok40 n, trivial⟩) (by exact fun t h => nomatch h) (by kernel_rfl)
theorem lin30 (n : Nat) : LoopsOK (env30 n) b30 := .of [] (by kernel_rfl) trivial
theorem eq30 (n : Nat) (x : Int × Int) : (F30 n x.1 x.2) = fnE (env30 n) Try.f30 [[.asis, .asis, .asis, .asis, .asis], [.asis]] none c30 r30 x := by kernel_rfl
theorem okt30 (n : Nat) : FnOK Try.prog 30 (fnT (G := gam) [] c30 r30 (fun x => F30 n x.1 x.2)) := fnT_ok (env30_ok n) (by kernel_rfl) (by kernel_rfl) (by kernel_rfl) (b := b30) (by kernel_rfl) (fun x => by kernel_rfl) (lin30 n) (eq30 n)
theorem ok30 (n : Nat) : FnOK Try.prog 30 (e30 n) := fnN_ok (okt30 n)
/-! ### regen.New -/
noncomputable def F14 (n : Nat) (a0 : Int) (a1 : Int) : Option (S37 × Int) :=
  (Option.bind (F30 n a0 a1) fun y1 =>
  (bif (y1.2 != (0 : Int)) then
    (some ((S37.mk (0 : Int) false false ([] : List Bool) false false false (0 : Int) (0 : Int)), (1 : Int)))
  else
    (some ((S37.mk (0 : Int) false false ([] : List Bool) y1.1.Has y1.1.Want y1.1.Using y1.1.Last y1.1.Next), (0 : Int)))))
noncomputable def c14 : Co (List (EV gam) × List (Ent gam)) (Int × Int) := (.pairL (.cons (.d gam (.int .i64)) (.consL (.d gam (.int .i64)) (.nil _))) (.nil _))
noncomputable def r14 : Co (EV gam × List (Ent gam) × List (Ent gam)) (S37 × Int) := (.pairL (.tp (.cons (.st gam 37) (.consL (.d gam (.int .i64)) (.nil _)))) (.pairU (.nil _) (.nil _)))
noncomputable def b14 : Code := (Try.f14.body).getD .skip
noncomputable def e14 (n : Nat) : FnT gam := fnN [] (fnT [] c14 r14 (fun x => F14 n x.1 x.2))
noncomputable def p14 (a : List (EV gam)) (l : List (Ent gam)) : Bool := (c14.dec (nilArgs [] a, l)).isSome
noncomputable def env14 (n : Nat) : Env gam := { P := Try.prog, fns := lookU [(30, e30 n)], loops := lookU [], nt := 19, m := 0, keeps := [], eqs := [] }
theorem env14_ok (n : Nat) : EnvOK (env14 n) := .of _ rfl (by exact ⟨ok30 n, trivial⟩) (by exact fun t h => nomatch h) (by kernel_rfl)
theorem lin14 (n : Nat) : LoopsOK (env14 n) b14 := .of [] (by kernel_rfl) trivial
theorem eq14 (n : Nat) (x : Int × Int) : (F14 n x.1 x.2) = fnE (env14 n) Try.f14 [[.asis, .asis, .asis, .dat .bool, .asis, .asis, .asis, .asis, .asis], [.asis]] none c14 r14 x := by kernel_rfl
theorem okt14 (n : Nat) : FnOK Try.prog 14 (fnT (G := gam) [] c14 r14 (fun x => F14 n x.1 x.2)) := fnT_ok (env14_ok n) (by kernel_rfl) (by kernel_rfl) (by kernel_rfl) (b := b14) (by kernel_rfl) (fun x => by kernel_rfl) (lin14 n) (eq14 n)
theorem ok14 (n : Nat) : FnOK Try.prog 14 (e14 n) := fnN_ok (okt14 n)
/-! ### regen.proper -/
noncomputable def F31 (n : Nat) (a0 : Int) (a1 : Int) : Option Bool :=
  (some (bif (decide (a1 ≥ (1 : Int))) then
    (bif (decide (a1 ≤ (4 : Int))) then (bif (decide (a0 ≥ (0 : Int))) then (decide (a0 < a1)) else false) else false)
  else
    false))
noncomputable def c31 : Co (List (EV gam) × List (Ent gam)) (Int × Int) := (.pairL (.cons (.d gam (.int .i64)) (.consL (.d gam (.int .i64)) (.nil _))) (.nil _))
noncomputable def r31 : Co (EV gam × List (Ent gam) × List (Ent gam)) Bool := (.pairL (.d gam .bool) (.pairU (.nil _) (.nil _)))
noncomputable def b31 : Code := (Try.f31.body).getD .skip
noncomputable def e31 (n : Nat) : FnT gam := fnN [] (fnT [] c31 r31 (fun x => F31 n x.1 x.2))
noncomputable def p31 (a : List (EV gam)) (l : List (Ent gam)) : Bool := (c31.dec (nilArgs [] a, l)).isSome
noncomputable def env31 (n : Nat) : Env gam := { P := Try.prog, fns := lookU [], loops := lookU [], nt := 20, m := 0, keeps := [], eqs := [] }
theorem env31_ok (n : Nat) : EnvOK (env31 n) := .of _ rfl (by exact trivial) (by exact fun t h => nomatch h) (by kernel_rfl)
theorem lin31 (n : Nat) : LoopsOK (env31 n) b31 := .of [] (by kernel_rfl) trivial
theorem eq31 (n : Nat) (x : Int × Int) : (F31 n x.1 x.2) = fnE (env31 n) Try.f31 [[.asis]] none c31 r31 x := by kernel_rfl
theorem okt31 (n : Nat) : FnOK Try.prog 31 (fnT (G := gam) [] c31 r31 (fun x => F31 n x.1 x.2)) := fnT_ok (env31_ok n) (by kernel_rfl) (by kernel_rfl) (by kernel_rfl) (b := b31) (by kernel_rfl) (fun x => by kernel_rfl) (lin31 n) (eq31 n)
theorem ok31 (n : Nat) : FnOK Try.prog 31 (e31 n) := fnN_ok (okt31 n)
/-! ### regen.pathless -/
noncomputable def F32 (n : Nat) (_ : Unit) : Option S35 :=
  (some (S35.mk false false false (-1 : Int) (-1 : Int)))
noncomputable def c32 : Co (List (EV gam) × List (Ent gam)) Unit := (.pairU (.nil _) (.nil _))
noncomputable def r32 : Co (EV gam × List (Ent gam) × List (Ent gam)) S35 := (.pairL (.st gam 35) (.pairU (.nil _) (.nil _)))
noncomputable def b32 : Code := (Try.f32.body).getD .skip
noncomputable def e32 (n : Nat) : FnT gam := fnN [] (fnT [] c32 r32 (fun x => F32 n ()))
noncomputable def p32 (a : List (EV gam)) (l : List (Ent gam)) : Bool := (c32.dec (nilArgs [] a, l)).isSome
noncomputable def env32 (n : Nat) : Env gam := { P := Try.prog, fns := lookU [], loops := lookU [], nt := 2, m := 0, keeps := [], eqs := [] }
theorem env32_ok (n : Nat) : EnvOK (env32 n) := .of _ rfl (by exact trivial) (by exact fun t h => nomatch h) (by kernel_rfl)
theorem lin32 (n : Nat) : LoopsOK (env32 n) b32 := .of [] (by kernel_rfl) trivial
theorem eq32 (n : Nat) (x : Unit) : (F32 n ()) = fnE (env32 n) Try.f32 [[.asis, .asis, .asis, .asis, .asis]] none c32 r32 x := by kernel_rfl
theorem okt32 (n : Nat) : FnOK Try.prog 32 (fnT (G := gam) [] c32 r32 (fun x => F32 n ())) := fnT_ok (env32_ok n) (by kernel_rfl) (by kernel_rfl) (by kernel_rfl) (b := b32) (by kernel_rfl) (fun x => by kernel_rfl) (lin32 n) (eq32 n)
theorem ok32 (n : Nat) : FnOK Try.prog 32 (e32 n) := fnN_ok (okt32 n)
/-! ### slices.Index[[]bool,bool] -/
noncomputable def S38_0 (n : Nat) (L : (List Bool) → Bool → Int → Int → Option (Unit ⊕ Int)) (a0 : List Bool) (a1 : Bool) (a2 : Int) (a3 : Int) : Option (Unit ⊕ Int) :=
  (bif (decide (a3 < a2)) then
    (Option.bind (ixo a0 a3) fun y1 =>
    (bif (bEq a1 y1) then (some (.inr a3)) else (L a0 a1 a2 (IntKind.wrap .i64 (a3 + (1 : Int))))))
  else
    (some (.inl ())))
noncomputable def U38_0 (n : Nat) (L : ((List Bool) × (Bool × (Int × Int))) → Option (Unit ⊕ Int)) (x : (List Bool) × (Bool × (Int × Int))) : Option (Unit ⊕ Int) := S38_0 n (fun a0 a1 a2 a3 => L (a0, (a1, (a2, a3)))) x.1 x.2.1 x.2.2.1 x.2.2.2
noncomputable def L38_0 (n : Nat) (a0 : List Bool) (a1 : Bool) (a2 : Int) (a3 : Int) : Option (Unit ⊕ Int) := iter (U38_0 n) n (a0, (a1, (a2, a3)))
noncomputable def F38 (n : Nat) (a0 : List Bool) (a1 : Bool) : Option Int :=
  (Option.bind (L38_0 n a0 a1 ((List.length a0 : Nat) : Int) (0 : Int)) fun y1 =>
  (Sum.elim (fun y2 => (some (-1 : Int))) (fun y3 => (some y3)) y1))
noncomputable def c38 : Co (List (EV gam) × List (Ent gam)) ((List Bool) × Bool) := (.pairL (.cons (.d gam (.sl .bool)) (.consL (.d gam .bool) (.nil _))) (.nil _))
noncomputable def r38 : Co (EV gam × List (Ent gam) × List (Ent gam)) Int := (.pairL (.d gam (.int .i64)) (.pairU (.nil _) (.nil _)))
noncomputable def b38 : Code := (Try.f38.body).getD .skip
noncomputable def b38_0 : Code := (loopsIn b38).getD 0 .skip
noncomputable def kp38_0 : Keep := { slots := [0, 1, 7, 8], rows := [], boxes := [], tombs := [] }
noncomputable def c38_0 : Co (List (EV gam) × List (Ent gam)) ((List Bool) × (Bool × (Int × Int))) := (.pairL (.cons (.d gam (.sl .bool)) (.cons (.d gam .bool) (.cons (.d gam (.int .i64)) (.consL (.d gam (.int .i64)) (.nil _))))) (.nil _))
noncomputable def x38_0 : Xc gam (Unit ⊕ Int) := (.or (.one (.exit 0) { slots := [], rows := [], boxes := [], tombs := [] } (.pairU (.nil _) (.nil _))) (.one .ret { slots := [4], rows := [], boxes := [], tombs := [] } (.pairL (.consL (.d gam (.int .i64)) (.nil _)) (.nil _))))
noncomputable def t38_0 (n : Nat) : LoopT gam := loopT kp38_0 c38_0 x38_0 (iter (U38_0 n) n)
noncomputable def e38 (n : Nat) : FnT gam := fnN [[some .bool]] (fnT [] c38 r38 (fun x => F38 n x.1 x.2))
noncomputable def p38 (a : List (EV gam)) (l : List (Ent gam)) : Bool := (c38.dec (nilArgs [[some .bool]] a, l)).isSome
noncomputable def env38 (n : Nat) : Env gam := { P := Try.prog, fns := lookU [], loops := lookU [(2, t38_0 n)], nt := 19, m := 0, keeps := [], eqs := [] }
theorem env38_ok (n : Nat) : EnvOK (env38 n) := .of _ rfl (by exact trivial) (by exact fun t h => nomatch h) (by kernel_rfl)
theorem lin38_0 (n : Nat) : LoopsOK (env38 n) b38_0 := .of [] (by kernel_rfl) trivial
theorem lok38_0 (n : Nat) : LoopOK (env38 n) b38_0 (t38_0 n) := loopT_ok (env38_ok n) (lin38_0 n) (fun L x => by kernel_rfl) n
theorem lin38 (n : Nat) : LoopsOK (env38 n) b38 := .of [(b38_0, 2, t38_0 n)] (by kernel_rfl) ⟨by kernel_rfl, by kernel_rfl, lok38_0 n, trivial⟩
theorem eq38 (n : Nat) (x : (List Bool) × Bool) : (F38 n x.1 x.2) = fnE (env38 n) Try.f38 [[.asis]] none c38 r38 x := by kernel_rfl
theorem okt38 (n : Nat) : FnOK Try.prog 38 (fnT (G := gam) [] c38 r38 (fun x => F38 n x.1 x.2)) := fnT_ok (env38_ok n) (by kernel_rfl) (by kernel_rfl) (by kernel_rfl) (b := b38) (by kernel_rfl) (fun x => by kernel_rfl) (lin38 n) (eq38 n)
theorem ok38 (n : Nat) : FnOK Try.prog 38 (e38 n) := fnN_ok (okt38 n)
/-! ### slices.Contains[[]bool,bool] -/
noncomputable def F28 (n : Nat) (a0 : List Bool) (a1 : Bool) : Option Bool :=
  (Option.bind (F38 n a0 a1) fun y1 =>
  (some (decide (y1 ≥ (0 : Int)))))
noncomputable def c28 : Co (List (EV gam) × List (Ent gam)) ((List Bool) × Bool) := (.pairL (.cons (.d gam (.sl .bool)) (.consL (.d gam .bool) (.nil _))) (.nil _))
noncomputable def r28 : Co (EV gam × List (Ent gam) × List (Ent gam)) Bool := (.pairL (.d gam .bool) (.pairU (.nil _) (.nil _)))
noncomputable def b28 : Code := (Try.f28.body).getD .skip
noncomputable def e28 (n : Nat) : FnT gam := fnN [[some .bool]] (fnT [] c28 r28 (fun x => F28 n x.1 x.2))
noncomputable def p28 (a : List (EV gam)) (l : List (Ent gam)) : Bool := (c28.dec (nilArgs [[some .bool]] a, l)).isSome
noncomputable def env28 (n : Nat) : Env gam := { P := Try.prog, fns := lookU [(38, e38 n)], loops := lookU [], nt := 9, m := 0, keeps := [], eqs := [] }
theorem env28_ok (n : Nat) : EnvOK (env28 n) := .of _ rfl (by exact ⟨ok38 n, trivial⟩) (by exact fun t h => nomatch h) (by kernel_rfl)
theorem lin28 (n : Nat) : LoopsOK (env28 n) b28 := .of [] (by kernel_rfl) trivial
theorem eq28 (n : Nat) (x : (List Bool) × Bool) : (F28 n x.1 x.2) = fnE (env28 n) Try.f28 [[.asis]] none c28 r28 x := by kernel_rfl
theorem okt28 (n : Nat) : FnOK Try.prog 28 (fnT (G := gam) [] c28 r28 (fun x => F28 n x.1 x.2)) := fnT_ok (env28_ok n) (by kernel_rfl) (by kernel_rfl) (by kernel_rfl) (b := b28) (by kernel_rfl) (fun x => by kernel_rfl) (lin28 n) (eq28 n)
theorem ok28 (n : Nat) : FnOK Try.prog 28 (e28 n) := fnN_ok (okt28 n)
/-! ### regen.other -/
noncomputable def F25 (n : Nat) (a0 : Int) (a1 : Int) (a2 : Int) : Option Bool :=
  (some (bif (decide (a0 ≥ (0 : Int))) then (bif (decide (a0 < a2)) then (a0 != a1) else false) else false))
noncomputable def c25 : Co (List (EV gam) × List (Ent gam)) (Int × (Int × Int)) := (.pairL (.cons (.d gam (.int .i64)) (.cons (.d gam (.int .i64)) (.consL (.d gam (.int .i64)) (.nil _)))) (.nil _))
noncomputable def r25 : Co (EV gam × List (Ent gam) × List (Ent gam)) Bool := (.pairL (.d gam .bool) (.pairU (.nil _) (.nil _)))
noncomputable def b25 : Code := (Try.f25.body).getD .skip
noncomputable def e25 (n : Nat) : FnT gam := fnN [] (fnT [] c25 r25 (fun x => F25 n x.1 x.2.1 x.2.2))
noncomputable def p25 (a : List (EV gam)) (l : List (Ent gam)) : Bool := (c25.dec (nilArgs [] a, l)).isSome
noncomputable def env25 (n : Nat) : Env gam := { P := Try.prog, fns := lookU [], loops := lookU [], nt := 19, m := 0, keeps := [], eqs := [] }
theorem env25_ok (n : Nat) : EnvOK (env25 n) := .of _ rfl (by exact trivial) (by exact fun t h => nomatch h) (by kernel_rfl)
theorem lin25 (n : Nat) : LoopsOK (env25 n) b25 := .of [] (by kernel_rfl) trivial
theorem eq25 (n : Nat) (x : Int × (Int × Int)) : (F25 n x.1 x.2.1 x.2.2) = fnE (env25 n) Try.f25 [[.asis]] none c25 r25 x := by kernel_rfl
theorem okt25 (n : Nat) : FnOK Try.prog 25 (fnT (G := gam) [] c25 r25 (fun x => F25 n x.1 x.2.1 x.2.2)) := fnT_ok (env25_ok n) (by kernel_rfl) (by kernel_rfl) (by kernel_rfl) (b := b25) (by kernel_rfl) (fun x => by kernel_rfl) (lin25 n) (eq25 n)
theorem ok25 (n : Nat) : FnOK Try.prog 25 (e25 n) := fnN_ok (okt25 n)
/-! ### token.other -/
noncomputable def F41 (n : Nat) (a0 : Int) (a1 : Int) (a2 : Int) : Option Bool :=
  (some (bif (decide (a0 ≥ (0 : Int))) then (bif (decide (a0 < a2)) then (a0 != a1) else false) else false))
noncomputable def c41 : Co (List (EV gam) × List (Ent gam)) (Int × (Int × Int)) := (.pairL (.cons (.d gam (.int .i64)) (.cons (.d gam (.int .i64)) (.consL (.d gam (.int .i64)) (.nil _)))) (.nil _))
noncomputable def r41 : Co (EV gam × List (Ent gam) × List (Ent gam)) Bool := (.pairL (.d gam .bool) (.pairU (.nil _) (.nil _)))
noncomputable def b41 : Code := (Try.f41.body).getD .skip
noncomputable def e41 (n : Nat) : FnT gam := fnN [] (fnT [] c41 r41 (fun x => F41 n x.1 x.2.1 x.2.2))
noncomputable def p41 (a : List (EV gam)) (l : List (Ent gam)) : Bool := (c41.dec (nilArgs [] a, l)).isSome
noncomputable def env41 (n : Nat) : Env gam := { P := Try.prog, fns := lookU [], loops := lookU [], nt := 19, m := 0, keeps := [], eqs := [] }
theorem env41_ok (n : Nat) : EnvOK (env41 n) := .of _ rfl (by exact trivial) (by exact fun t h => nomatch h) (by kernel_rfl)
theorem lin41 (n : Nat) : LoopsOK (env41 n) b41 := .of [] (by kernel_rfl) trivial
theorem eq41 (n : Nat) (x : Int × (Int × Int)) : (F41 n x.1 x.2.1 x.2.2) = fnE (env41 n) Try.f41 [[.asis]] none c41 r41 x := by kernel_rfl
theorem okt41 (n : Nat) : FnOK Try.prog 41 (fnT (G := gam) [] c41 r41 (fun x => F41 n x.1 x.2.1 x.2.2)) := fnT_ok (env41_ok n) (by kernel_rfl) (by kernel_rfl) (by kernel_rfl) (b := b41) (by kernel_rfl) (fun x => by kernel_rfl) (lin41 n) (eq41 n)
theorem ok41 (n : Nat) : FnOK Try.prog 41 (e41 n) := fnN_ok (okt41 n)
/-! ### token.Valid -/
noncomputable def F33 (n : Nat) (a0 : S35) (a1 : Int) (a2 : Int) : Option Bool :=
  (Option.bind (F40 n a1 a2) fun y1 =>
  (bif (bNot y1) then
    (some false)
  else
    (bif (a0.Last != (-1 : Int)) then
      (Option.bind (F41 n a0.Last a1 a2) fun y2 =>
      (bif (bNot y2) then
        (some false)
      else
        (bif (a0.Next != (-1 : Int)) then
          (Option.bind (F41 n a0.Next a1 a2) fun y3 =>
          (bif (bNot y3) then
            (some false)
          else
            (bif (bif a0.Using then
              (bif (bNot a0.Has) then true else (bif a0.Want then a0.Has else false))
            else
              (bif a0.Want then a0.Has else false)) then
              (some false)
            else
              (bif (bif (bNot a0.Using) then
                (bif (bNot a0.Want) then
                  (bif (a0.Next != (-1 : Int)) then
                    true
                  else
                    (bNot (bEq (a0.Last == (-1 : Int)) a0.Has)))
                else
                  false)
              else
                false) then
                (some false)
              else
                (some (bif (bNot a0.Using) then
                  (bif (bNot a0.Want) then
                    true
                  else
                    (bEq (a0.Next == (-1 : Int)) (a0.Last == (-1 : Int))))
                else
                  (bEq (a0.Next == (-1 : Int)) (a0.Last == (-1 : Int)))))))))
        else
          (bif (bif a0.Using then
            (bif (bNot a0.Has) then true else (bif a0.Want then a0.Has else false))
          else
            (bif a0.Want then a0.Has else false)) then
            (some false)
          else
            (bif (bif (bNot a0.Using) then
              (bif (bNot a0.Want) then
                (bif (a0.Next != (-1 : Int)) then
                  true
                else
                  (bNot (bEq (a0.Last == (-1 : Int)) a0.Has)))
              else
                false)
            else
              false) then
              (some false)
            else
              (some (bif (bNot a0.Using) then
                (bif (bNot a0.Want) then
                  true
                else
                  (bEq (a0.Next == (-1 : Int)) (a0.Last == (-1 : Int))))
              else
                (bEq (a0.Next == (-1 : Int)) (a0.Last == (-1 : Int))))))))))
    else
      (bif (a0.Next != (-1 : Int)) then
        (Option.bind (F41 n a0.Next a1 a2) fun y4 =>
        (bif (bNot y4) then
          (some false)
        else
          (bif (bif a0.Using then
            (bif (bNot a0.Has) then true else (bif a0.Want then a0.Has else false))
          else
            (bif a0.Want then a0.Has else false)) then
            (some false)
          else
            (bif (bif (bNot a0.Using) then
              (bif (bNot a0.Want) then
                (bif (a0.Next != (-1 : Int)) then
                  true
                else
                  (bNot (bEq (a0.Last == (-1 : Int)) a0.Has)))
              else
                false)
            else
              false) then
              (some false)
            else
              (some (bif (bNot a0.Using) then
                (bif (bNot a0.Want) then
                  true
                else
                  (bEq (a0.Next == (-1 : Int)) (a0.Last == (-1 : Int))))
              else
                (bEq (a0.Next == (-1 : Int)) (a0.Last == (-1 : Int)))))))))
      else
        (bif (bif a0.Using then
          (bif (bNot a0.Has) then true else (bif a0.Want then a0.Has else false))
        else
          (bif a0.Want then a0.Has else false)) then
          (some false)
        else
          (bif (bif (bNot a0.Using) then
            (bif (bNot a0.Want) then
              (bif (a0.Next != (-1 : Int)) then
                true
              else
                (bNot (bEq (a0.Last == (-1 : Int)) a0.Has)))
            else
              false)
          else
            false) then
            (some false)
          else
            (some (bif (bNot a0.Using) then
              (bif (bNot a0.Want) then
                true
              else
                (bEq (a0.Next == (-1 : Int)) (a0.Last == (-1 : Int))))
            else
              (bEq (a0.Next == (-1 : Int)) (a0.Last == (-1 : Int)))))))))))
noncomputable def c33 : Co (List (EV gam) × List (Ent gam)) (S35 × (Int × Int)) := (.pairL (.cons (.st gam 35) (.cons (.d gam (.int .i64)) (.consL (.d gam (.int .i64)) (.nil _)))) (.nil _))
noncomputable def r33 : Co (EV gam × List (Ent gam) × List (Ent gam)) Bool := (.pairL (.d gam .bool) (.pairU (.nil _) (.nil _)))
noncomputable def b33 : Code := (Try.f33.body).getD .skip
noncomputable def e33 (n : Nat) : FnT gam := fnN [] (fnT [] c33 r33 (fun x => F33 n x.1 x.2.1 x.2.2))
noncomputable def p33 (a : List (EV gam)) (l : List (Ent gam)) : Bool := (c33.dec (nilArgs [] a, l)).isSome
noncomputable def env33 (n : Nat) : Env gam := { P := Try.prog, fns := lookU [(40, e40 n), (41, e41 n)], loops := lookU [], nt := 92, m := 0, keeps := [], eqs := [] }
theorem env33_ok (n : Nat) : EnvOK (env33 n) := .of _ rfl (by exact ⟨ok40 n, ok41 n, trivial⟩) (by exact fun t h => nomatch h) (by kernel_rfl)
theorem lin33 (n : Nat) : LoopsOK (env33 n) b33 := .of [] (by kernel_rfl) trivial
theorem eq33 (n : Nat) (x : S35 × (Int × Int)) : (F33 n x.1 x.2.1 x.2.2) = fnE (env33 n) Try.f33 [[.asis]] none c33 r33 x := by kernel_rfl
theorem okt33 (n : Nat) : FnOK Try.prog 33 (fnT (G := gam) [] c33 r33 (fun x => F33 n x.1 x.2.1 x.2.2)) := fnT_ok (env33_ok n) (by kernel_rfl) (by kernel_rfl) (by kernel_rfl) (b := b33) (by kernel_rfl) (fun x => by kernel_rfl) (lin33 n) (eq33 n)
theorem ok33 (n : Nat) : FnOK Try.prog 33 (e33 n) := fnN_ok (okt33 n)
/-! ### regen.Valid -/
noncomputable def F15 (n : Nat) (a0 : S37) (a1 : Int) (a2 : Int) : Option Bool :=
  (Option.bind (F31 n a1 a2) fun y1 =>
  (bif (bNot y1) then
    (some false)
  else
    (bif (decide (a0.Epoch < (0 : Int))) then
      (some false)
    else
      (bif (decide (a0.Epoch > (1073741824 : Int))) then
        (some false)
      else
        (bif a0.Lost then
          (bif (bNot a0.Asking) then
            (bif (((List.length a0.Promised : Nat) : Int) == (0 : Int)) then
              (Option.bind (F32 n ()) fun y2 =>
              (some ((bEq a0.Token_Has y2.Has) && ((bEq a0.Token_Want y2.Want) && ((bEq a0.Token_Using y2.Using) && ((iEq a0.Token_Last y2.Last) && (iEq a0.Token_Next y2.Next)))))))
            else
              (some false))
          else
            (some false))
        else
          (bif a0.Asking then
            (bif (((List.length a0.Promised : Nat) : Int) != a2) then
              (some false)
            else
              (Option.bind (ixo a0.Promised a1) fun y3 =>
              (bif (bNot y3) then
                (some false)
              else
                (Option.bind (F28 n a0.Promised false) fun y4 =>
                (bif (bNot y4) then
                  (some false)
                else
                  (bif a0.Token_Has then
                    (some false)
                  else
                    (bif a0.Token_Using then
                      (some false)
                    else
                      (bif (a0.Token_Last == (-1 : Int)) then
                        (bif (a0.Token_Next == (-1 : Int)) then
                          (some true)
                        else
                          (Option.bind (F25 n a0.Token_Last a1 a2) fun y5 =>
                          (bif y5 then (Option.bind (F25 n a0.Token_Next a1 a2) fun y6 =>
                          (some y6)) else (some false))))
                      else
                        (Option.bind (F25 n a0.Token_Last a1 a2) fun y7 =>
                        (bif y7 then (Option.bind (F25 n a0.Token_Next a1 a2) fun y8 =>
                        (some y8)) else (some false)))))))))))
          else
            (bif (((List.length a0.Promised : Nat) : Int) == (0 : Int)) then
              (Option.bind (F33 n (S35.mk a0.Token_Has a0.Token_Want a0.Token_Using a0.Token_Last a0.Token_Next) a1 a2) fun y9 =>
              (some y9))
            else
              (some false))))))))
noncomputable def c15 : Co (List (EV gam) × List (Ent gam)) (S37 × (Int × Int)) := (.pairL (.cons (.st gam 37) (.cons (.d gam (.int .i64)) (.consL (.d gam (.int .i64)) (.nil _)))) (.nil _))
noncomputable def r15 : Co (EV gam × List (Ent gam) × List (Ent gam)) Bool := (.pairL (.d gam .bool) (.pairU (.nil _) (.nil _)))
noncomputable def b15 : Code := (Try.f15.body).getD .skip
noncomputable def e15 (n : Nat) : FnT gam := fnN [[none, none, none, some .bool, none, none, none, none, none]] (fnT [] c15 r15 (fun x => F15 n x.1 x.2.1 x.2.2))
noncomputable def p15 (a : List (EV gam)) (l : List (Ent gam)) : Bool := (c15.dec (nilArgs [[none, none, none, some .bool, none, none, none, none, none]] a, l)).isSome
noncomputable def env15 (n : Nat) : Env gam := { P := Try.prog, fns := lookU [(25, e25 n), (28, e28 n), (31, e31 n), (32, e32 n), (33, e33 n)], loops := lookU [], nt := 104, m := 0, keeps := [], eqs := [35] }
theorem eqs15 : ∀ t ∈ ([35] : List Nat), EqOK Try.prog t := by
  intro t ht
  simp only [List.mem_cons, List.not_mem_nil, or_false] at ht
  rcases ht with rfl <;> exact ⟨by kernel_rfl, by kernel_rfl⟩
theorem env15_ok (n : Nat) : EnvOK (env15 n) := .of _ rfl (by exact ⟨ok25 n, ok28 n, ok31 n, ok32 n, ok33 n, trivial⟩) (by exact eqs15) (by kernel_rfl)
theorem lin15 (n : Nat) : LoopsOK (env15 n) b15 := .of [] (by kernel_rfl) trivial
theorem eq15 (n : Nat) (x : S37 × (Int × Int)) : (F15 n x.1 x.2.1 x.2.2) = fnE (env15 n) Try.f15 [[.asis]] none c15 r15 x := by kernel_rfl
theorem okt15 (n : Nat) : FnOK Try.prog 15 (fnT (G := gam) [] c15 r15 (fun x => F15 n x.1 x.2.1 x.2.2)) := fnT_ok (env15_ok n) (by kernel_rfl) (by kernel_rfl) (by kernel_rfl) (b := b15) (by kernel_rfl) (fun x => by kernel_rfl) (lin15 n) (eq15 n)
theorem ok15 (n : Nat) : FnOK Try.prog 15 (e15 n) := fnN_ok (okt15 n)
/-! ### regen.promise -/
noncomputable def F21 (n : Nat) (a0 : S37) (a1 : Int) : Option S37 :=
  (Option.bind (F32 n ()) fun y1 =>
  (bif a0.Token_Using then
    (some (S37.mk a1 false false ([] : List Bool) y1.Has true y1.Using y1.Last y1.Next))
  else
    (some (S37.mk a1 false false ([] : List Bool) y1.Has a0.Token_Want y1.Using y1.Last y1.Next))))
noncomputable def c21 : Co (List (EV gam) × List (Ent gam)) (S37 × Int) := (.pairL (.cons (.st gam 37) (.consL (.d gam (.int .i64)) (.nil _))) (.nil _))
noncomputable def r21 : Co (EV gam × List (Ent gam) × List (Ent gam)) S37 := (.pairL (.st gam 37) (.pairU (.nil _) (.nil _)))
noncomputable def b21 : Code := (Try.f21.body).getD .skip
noncomputable def e21 (n : Nat) : FnT gam := fnN [[none, none, none, some .bool, none, none, none, none, none]] (fnT [] c21 r21 (fun x => F21 n x.1 x.2))
noncomputable def p21 (a : List (EV gam)) (l : List (Ent gam)) : Bool := (c21.dec (nilArgs [[none, none, none, some .bool, none, none, none, none, none]] a, l)).isSome
noncomputable def env21 (n : Nat) : Env gam := { P := Try.prog, fns := lookU [(32, e32 n)], loops := lookU [], nt := 20, m := 0, keeps := [], eqs := [] }
theorem env21_ok (n : Nat) : EnvOK (env21 n) := .of _ rfl (by exact ⟨ok32 n, trivial⟩) (by exact fun t h => nomatch h) (by kernel_rfl)
theorem lin21 (n : Nat) : LoopsOK (env21 n) b21 := .of [] (by kernel_rfl) trivial
theorem eq21 (n : Nat) (x : S37 × Int) : (F21 n x.1 x.2) = fnE (env21 n) Try.f21 [[.asis, .asis, .asis, .dat .bool, .asis, .asis, .asis, .asis, .asis]] none c21 r21 x := by kernel_rfl
theorem okt21 (n : Nat) : FnOK Try.prog 21 (fnT (G := gam) [] c21 r21 (fun x => F21 n x.1 x.2)) := fnT_ok (env21_ok n) (by kernel_rfl) (by kernel_rfl) (by kernel_rfl) (b := b21) (by kernel_rfl) (fun x => by kernel_rfl) (lin21 n) (eq21 n)
theorem ok21 (n : Nat) : FnOK Try.prog 21 (e21 n) := fnN_ok (okt21 n)
/-! ### regen.post -/
noncomputable def F23 (n : Nat) (a0 : S37) (a1 : Int) (a2 : Int) (a3 : Int) : Option S64 :=
  (some (S64.mk a1 a2 (0 : Int) (0 : Int) (0 : Int) (0 : Int) (ByteArray.mk #[]) (0 : Int) (0 : Int) (0 : Int) (0 : Int) (0 : Int) a0.Epoch a3 (0 : Int) false ([] : List Unit) ([] : List Unit) ([] : List Unit)))
noncomputable def c23 : Co (List (EV gam) × List (Ent gam)) (S37 × (Int × (Int × Int))) := (.pairL (.cons (.st gam 37) (.cons (.d gam (.int .i64)) (.cons (.d gam (.int .i64)) (.consL (.d gam (.int .i64)) (.nil _))))) (.nil _))
noncomputable def r23 : Co (EV gam × List (Ent gam) × List (Ent gam)) S64 := (.pairL (.st gam 64) (.pairU (.nil _) (.nil _)))
noncomputable def b23 : Code := (Try.f23.body).getD .skip
noncomputable def e23 (n : Nat) : FnT gam := fnN [[none, none, none, some .bool, none, none, none, none, none]] (fnT [] c23 r23 (fun x => F23 n x.1 x.2.1 x.2.2.1 x.2.2.2))
noncomputable def p23 (a : List (EV gam)) (l : List (Ent gam)) : Bool := (c23.dec (nilArgs [[none, none, none, some .bool, none, none, none, none, none]] a, l)).isSome
noncomputable def env23 (n : Nat) : Env gam := { P := Try.prog, fns := lookU [], loops := lookU [], nt := 16, m := 0, keeps := [], eqs := [] }
theorem env23_ok (n : Nat) : EnvOK (env23 n) := .of _ rfl (by exact trivial) (by exact fun t h => nomatch h) (by kernel_rfl)
theorem lin23 (n : Nat) : LoopsOK (env23 n) b23 := .of [] (by kernel_rfl) trivial
theorem eq23 (n : Nat) (x : S37 × (Int × (Int × Int))) : (F23 n x.1 x.2.1 x.2.2.1 x.2.2.2) = fnE (env23 n) Try.f23 [[.asis, .asis, .asis, .asis, .asis, .asis, .asis, .asis, .asis, .asis, .asis, .asis, .asis, .asis, .asis, .asis, .dat (.st 118), .dat (.st 123), .dat (.st 126)]] none c23 r23 x := by kernel_rfl
theorem okt23 (n : Nat) : FnOK Try.prog 23 (fnT (G := gam) [] c23 r23 (fun x => F23 n x.1 x.2.1 x.2.2.1 x.2.2.2)) := fnT_ok (env23_ok n) (by kernel_rfl) (by kernel_rfl) (by kernel_rfl) (b := b23) (by kernel_rfl) (fun x => by kernel_rfl) (lin23 n) (eq23 n)
theorem ok23 (n : Nat) : FnOK Try.prog 23 (e23 n) := fnN_ok (okt23 n)
/-! ### regen.there -/
noncomputable def F22 (n : Nat) (a0 : S37) : Option (S37 × (List S64)) :=
  (bif a0.Token_Want then
    (some ((S37.mk a0.Epoch a0.Lost false ([] : List Bool) true false true a0.Token_Last a0.Token_Next), ([] : List S64)))
  else
    (bif (a0.Token_Next == (-1 : Int)) then
      (some ({ a0 with Asking := false, Promised := ([] : List Bool), Token_Has := true }, ([] : List S64)))
    else
      (Option.bind (F23 n { a0 with Asking := false, Promised := ([] : List Bool), Token_Has := true } a0.Token_Next (13 : Int) (0 : Int)) fun y1 =>
      (some ({ a0 with Asking := false, Promised := ([] : List Bool), Token_Has := false, Token_Next := (-1 : Int) }, [y1])))))
noncomputable def c22 : Co (List (EV gam) × List (Ent gam)) S37 := (.pairL (.consL (.st gam 37) (.nil _)) (.nil _))
noncomputable def r22 : Co (EV gam × List (Ent gam) × List (Ent gam)) (S37 × (List S64)) := (.pairL (.tp (.cons (.st gam 37) (.consL (.d gam (.sl (.st 64))) (.nil _)))) (.pairU (.nil _) (.nil _)))
noncomputable def b22 : Code := (Try.f22.body).getD .skip
noncomputable def e22 (n : Nat) : FnT gam := fnN [[none, none, none, some .bool, none, none, none, none, none]] (fnT [] c22 r22 (fun x => F22 n x))
noncomputable def p22 (a : List (EV gam)) (l : List (Ent gam)) : Bool := (c22.dec (nilArgs [[none, none, none, some .bool, none, none, none, none, none]] a, l)).isSome
noncomputable def env22 (n : Nat) : Env gam := { P := Try.prog, fns := lookU [(23, e23 n)], loops := lookU [], nt := 34, m := 0, keeps := [], eqs := [] }
theorem env22_ok (n : Nat) : EnvOK (env22 n) := .of _ rfl (by exact ⟨ok23 n, trivial⟩) (by exact fun t h => nomatch h) (by kernel_rfl)
theorem lin22 (n : Nat) : LoopsOK (env22 n) b22 := .of [] (by kernel_rfl) trivial
theorem eq22 (n : Nat) (x : S37) : (F22 n x) = fnE (env22 n) Try.f22 [[.asis, .asis, .asis, .dat .bool, .asis, .asis, .asis, .asis, .asis], [.dat (.st 64)]] none c22 r22 x := by kernel_rfl
theorem okt22 (n : Nat) : FnOK Try.prog 22 (fnT (G := gam) [] c22 r22 (fun x => F22 n x)) := fnT_ok (env22_ok n) (by kernel_rfl) (by kernel_rfl) (by kernel_rfl) (b := b22) (by kernel_rfl) (fun x => by kernel_rfl) (lin22 n) (eq22 n)
theorem ok22 (n : Nat) : FnOK Try.prog 22 (e22 n) := fnN_ok (okt22 n)
/-! ### regen.Begin -/
noncomputable def S10_1 (n : Nat) (L : Int → Int → Int → Int → Bool → Bool → Bool → Bool → Bool → Int → Int → Int → Bool → Bool → Bool → Bool → Bool → Int → Int → (List Bool) → Nat → (List Bool) → (List S64) → Option ((Int × (Bool × (Bool × (Bool × (Bool × (Bool × (Int × Int))))))) × ((Int × (Bool × (Bool × (Bool × (Bool × (Bool × (Int × Int))))))) × (((List Bool) × Nat) × ((List Bool) × (List S64)))))) (a0 : Int) (a1 : Int) (a2 : Int) (a3 : Int) (a4 : Bool) (a5 : Bool) (a6 : Bool) (a7 : Bool) (a8 : Bool) (a9 : Int) (a10 : Int) (a11 : Int) (a12 : Bool) (a13 : Bool) (a14 : Bool) (a15 : Bool) (a16 : Bool) (a17 : Int) (a18 : Int) (a19 : List Bool) (a20 : Nat) (a21 : List Bool) (a22 : List S64) : Option ((Int × (Bool × (Bool × (Bool × (Bool × (Bool × (Int × Int))))))) × ((Int × (Bool × (Bool × (Bool × (Bool × (Bool × (Int × Int))))))) × (((List Bool) × Nat) × ((List Bool) × (List S64))))) :=
  (bif (decide (a2 < a1)) then
    (bif (a2 != a0) then
      (Option.bind (F23 n (S37.mk a3 a4 a5 a19 a6 a7 a8 a9 a10) a2 (14 : Int) (0 : Int)) fun y1 =>
      (bif (appOK (List.length a22) (List.length [y1]) 208) then
        (L a0 a1 (IntKind.wrap .i64 (a2 + (1 : Int))) a3 a4 a5 a6 a7 a8 a9 a10 a11 a12 a13 a14 a15 a16 a17 a18 a19 (List.length a19) a21 (a22 ++ [y1]))
      else
        none))
    else
      (L a0 a1 (IntKind.wrap .i64 (a2 + (1 : Int))) a3 a4 a5 a6 a7 a8 a9 a10 a11 a12 a13 a14 a15 a16 a17 a18 a19 a20 a21 a22))
  else
    (some ((a3, (a4, (a5, (a6, (a7, (a8, (a9, a10))))))), ((a11, (a12, (a13, (a14, (a15, (a16, (a17, a18))))))), ((a19, a20), (a21, a22))))))
noncomputable def U10_1 (n : Nat) (L : ((Int × (Int × Int)) × ((Int × (Bool × (Bool × (Bool × (Bool × (Bool × (Int × Int))))))) × ((Int × (Bool × (Bool × (Bool × (Bool × (Bool × (Int × Int))))))) × (((List Bool) × Nat) × ((List Bool) × (List S64)))))) → Option ((Int × (Bool × (Bool × (Bool × (Bool × (Bool × (Int × Int))))))) × ((Int × (Bool × (Bool × (Bool × (Bool × (Bool × (Int × Int))))))) × (((List Bool) × Nat) × ((List Bool) × (List S64)))))) (x : (Int × (Int × Int)) × ((Int × (Bool × (Bool × (Bool × (Bool × (Bool × (Int × Int))))))) × ((Int × (Bool × (Bool × (Bool × (Bool × (Bool × (Int × Int))))))) × (((List Bool) × Nat) × ((List Bool) × (List S64)))))) : Option ((Int × (Bool × (Bool × (Bool × (Bool × (Bool × (Int × Int))))))) × ((Int × (Bool × (Bool × (Bool × (Bool × (Bool × (Int × Int))))))) × (((List Bool) × Nat) × ((List Bool) × (List S64))))) := S10_1 n (fun a0 a1 a2 a3 a4 a5 a6 a7 a8 a9 a10 a11 a12 a13 a14 a15 a16 a17 a18 a19 a20 a21 a22 => L ((a0, (a1, a2)), ((a3, (a4, (a5, (a6, (a7, (a8, (a9, a10))))))), ((a11, (a12, (a13, (a14, (a15, (a16, (a17, a18))))))), ((a19, a20), (a21, a22)))))) x.1.1 x.1.2.1 x.1.2.2 x.2.1.1 x.2.1.2.1 x.2.1.2.2.1 x.2.1.2.2.2.1 x.2.1.2.2.2.2.1 x.2.1.2.2.2.2.2.1 x.2.1.2.2.2.2.2.2.1 x.2.1.2.2.2.2.2.2.2 x.2.2.1.1 x.2.2.1.2.1 x.2.2.1.2.2.1 x.2.2.1.2.2.2.1 x.2.2.1.2.2.2.2.1 x.2.2.1.2.2.2.2.2.1 x.2.2.1.2.2.2.2.2.2.1 x.2.2.1.2.2.2.2.2.2.2 x.2.2.2.1.1 x.2.2.2.1.2 x.2.2.2.2.1 x.2.2.2.2.2
noncomputable def L10_1 (n : Nat) (a0 : Int) (a1 : Int) (a2 : Int) (a3 : Int) (a4 : Bool) (a5 : Bool) (a6 : Bool) (a7 : Bool) (a8 : Bool) (a9 : Int) (a10 : Int) (a11 : Int) (a12 : Bool) (a13 : Bool) (a14 : Bool) (a15 : Bool) (a16 : Bool) (a17 : Int) (a18 : Int) (a19 : List Bool) (a20 : Nat) (a21 : List Bool) (a22 : List S64) : Option ((Int × (Bool × (Bool × (Bool × (Bool × (Bool × (Int × Int))))))) × ((Int × (Bool × (Bool × (Bool × (Bool × (Bool × (Int × Int))))))) × (((List Bool) × Nat) × ((List Bool) × (List S64))))) := iter (U10_1 n) n ((a0, (a1, a2)), ((a3, (a4, (a5, (a6, (a7, (a8, (a9, a10))))))), ((a11, (a12, (a13, (a14, (a15, (a16, (a17, a18))))))), ((a19, a20), (a21, a22)))))
noncomputable def S10_0 (n : Nat) (L : Int → Int → Int → Int → Bool → Bool → (List Bool) → Bool → Bool → Bool → Int → Int → Int → Bool → Bool → Bool → Bool → Bool → Int → Int → (List Bool) → Option ((Int × (Int × Int)) × ((Int × (Bool × (Bool × ((List Bool) × (Bool × (Bool × (Bool × (Int × Int)))))))) × ((Int × (Bool × (Bool × (Bool × (Bool × (Bool × (Int × Int))))))) × (List Bool))))) (a0 : Int) (a1 : Int) (a2 : Int) (a3 : Int) (a4 : Bool) (a5 : Bool) (a6 : List Bool) (a7 : Bool) (a8 : Bool) (a9 : Bool) (a10 : Int) (a11 : Int) (a12 : Int) (a13 : Bool) (a14 : Bool) (a15 : Bool) (a16 : Bool) (a17 : Bool) (a18 : Int) (a19 : Int) (a20 : List Bool) : Option ((Int × (Int × Int)) × ((Int × (Bool × (Bool × ((List Bool) × (Bool × (Bool × (Bool × (Int × Int)))))))) × ((Int × (Bool × (Bool × (Bool × (Bool × (Bool × (Int × Int))))))) × (List Bool)))) :=
  (bif (a1 == 0) then
    none
  else
    (bif ((Int.tmod a2 a1) != a0) then
      (L a0 a1 (IntKind.wrap .i64 (a2 + (1 : Int))) a3 a4 a5 a6 a7 a8 a9 a10 a11 a12 a13 a14 a15 a16 a17 a18 a19 a20)
    else
      (some ((a0, (a1, a2)), ((a3, (a4, (a5, (a6, (a7, (a8, (a9, (a10, a11)))))))), ((a12, (a13, (a14, (a15, (a16, (a17, (a18, a19))))))), a20))))))
noncomputable def U10_0 (n : Nat) (L : ((Int × (Int × Int)) × ((Int × (Bool × (Bool × ((List Bool) × (Bool × (Bool × (Bool × (Int × Int)))))))) × ((Int × (Bool × (Bool × (Bool × (Bool × (Bool × (Int × Int))))))) × (List Bool)))) → Option ((Int × (Int × Int)) × ((Int × (Bool × (Bool × ((List Bool) × (Bool × (Bool × (Bool × (Int × Int)))))))) × ((Int × (Bool × (Bool × (Bool × (Bool × (Bool × (Int × Int))))))) × (List Bool))))) (x : (Int × (Int × Int)) × ((Int × (Bool × (Bool × ((List Bool) × (Bool × (Bool × (Bool × (Int × Int)))))))) × ((Int × (Bool × (Bool × (Bool × (Bool × (Bool × (Int × Int))))))) × (List Bool)))) : Option ((Int × (Int × Int)) × ((Int × (Bool × (Bool × ((List Bool) × (Bool × (Bool × (Bool × (Int × Int)))))))) × ((Int × (Bool × (Bool × (Bool × (Bool × (Bool × (Int × Int))))))) × (List Bool)))) := S10_0 n (fun a0 a1 a2 a3 a4 a5 a6 a7 a8 a9 a10 a11 a12 a13 a14 a15 a16 a17 a18 a19 a20 => L ((a0, (a1, a2)), ((a3, (a4, (a5, (a6, (a7, (a8, (a9, (a10, a11)))))))), ((a12, (a13, (a14, (a15, (a16, (a17, (a18, a19))))))), a20)))) x.1.1 x.1.2.1 x.1.2.2 x.2.1.1 x.2.1.2.1 x.2.1.2.2.1 x.2.1.2.2.2.1 x.2.1.2.2.2.2.1 x.2.1.2.2.2.2.2.1 x.2.1.2.2.2.2.2.2.1 x.2.1.2.2.2.2.2.2.2.1 x.2.1.2.2.2.2.2.2.2.2 x.2.2.1.1 x.2.2.1.2.1 x.2.2.1.2.2.1 x.2.2.1.2.2.2.1 x.2.2.1.2.2.2.2.1 x.2.2.1.2.2.2.2.2.1 x.2.2.1.2.2.2.2.2.2.1 x.2.2.1.2.2.2.2.2.2.2 x.2.2.2
noncomputable def L10_0 (n : Nat) (a0 : Int) (a1 : Int) (a2 : Int) (a3 : Int) (a4 : Bool) (a5 : Bool) (a6 : List Bool) (a7 : Bool) (a8 : Bool) (a9 : Bool) (a10 : Int) (a11 : Int) (a12 : Int) (a13 : Bool) (a14 : Bool) (a15 : Bool) (a16 : Bool) (a17 : Bool) (a18 : Int) (a19 : Int) (a20 : List Bool) : Option ((Int × (Int × Int)) × ((Int × (Bool × (Bool × ((List Bool) × (Bool × (Bool × (Bool × (Int × Int)))))))) × ((Int × (Bool × (Bool × (Bool × (Bool × (Bool × (Int × Int))))))) × (List Bool)))) := iter (U10_0 n) n ((a0, (a1, a2)), ((a3, (a4, (a5, (a6, (a7, (a8, (a9, (a10, a11)))))))), ((a12, (a13, (a14, (a15, (a16, (a17, (a18, a19))))))), a20)))
noncomputable def F10 (n : Nat) (a0 : S37) (a1 : Int) (a2 : Int) : Option (S37 × ((List S64) × Int)) :=
  (Option.bind (F15 n a0 a1 a2) fun y1 =>
  (bif (bNot y1) then
    (some ((S37.mk (0 : Int) false false ([] : List Bool) false false false (0 : Int) (0 : Int)), (([] : List S64), (2 : Int))))
  else
    (Option.bind (L10_0 n a1 a2 (IntKind.wrap .i64 (a0.Epoch + (1 : Int))) a0.Epoch a0.Lost a0.Asking a0.Promised a0.Token_Has a0.Token_Want a0.Token_Using a0.Token_Last a0.Token_Next (0 : Int) false false false false false (0 : Int) (0 : Int) ([] : List Bool)) fun y2 =>
    (bif (decide (y2.1.2.2 > (1073741824 : Int))) then
      (some ((S37.mk (0 : Int) false false ([] : List Bool) false false false (0 : Int) (0 : Int)), (([] : List S64), (16 : Int))))
    else
      (Option.bind (F21 n (S37.mk y2.2.1.1 y2.2.1.2.1 y2.2.1.2.2.1 y2.2.1.2.2.2.1 y2.2.1.2.2.2.2.1 y2.2.1.2.2.2.2.2.1 y2.2.1.2.2.2.2.2.2.1 y2.2.1.2.2.2.2.2.2.2.1 y2.2.1.2.2.2.2.2.2.2.2) y2.1.2.2) fun y3 =>
      (bif (makeOK y2.1.2.1 y2.1.2.1 1) then
        (bif (decide (0 ≤ y2.1.1) && decide (y2.1.1 < ((List.length (List.replicate (Int.toNat y2.1.2.1) false) : Nat) : Int))) then
          (bif (y2.1.2.1 == (1 : Int)) then
            (Option.bind (F22 n { y3 with Asking := true, Promised := (List.set (List.replicate (Int.toNat y2.1.2.1) false) (Int.toNat y2.1.1) true) }) fun y4 =>
            (some (y4.1, (y4.2, (0 : Int)))))
          else
            (Option.bind (L10_1 n y2.1.1 y2.1.2.1 (0 : Int) y3.Epoch y3.Lost true y3.Token_Has y3.Token_Want y3.Token_Using y3.Token_Last y3.Token_Next y2.2.2.1.1 y2.2.2.1.2.1 y2.2.2.1.2.2.1 y2.2.2.1.2.2.2.1 y2.2.2.1.2.2.2.2.1 y2.2.2.1.2.2.2.2.2.1 y2.2.2.1.2.2.2.2.2.2.1 y2.2.2.1.2.2.2.2.2.2.2 (List.set (List.replicate (Int.toNat y2.1.2.1) false) (Int.toNat y2.1.1) true) 0 y2.2.2.2 ([] : List S64)) fun y5 =>
            (some ((S37.mk y5.1.1 y5.1.2.1 y5.1.2.2.1 y5.2.2.1.1 y5.1.2.2.2.1 y5.1.2.2.2.2.1 y5.1.2.2.2.2.2.1 y5.1.2.2.2.2.2.2.1 y5.1.2.2.2.2.2.2.2), (y5.2.2.2.2, (0 : Int))))))
        else
          none)
      else
        none))))))
noncomputable def c10 : Co (List (EV gam) × List (Ent gam)) (S37 × (Int × Int)) := (.pairL (.cons (.st gam 37) (.cons (.d gam (.int .i64)) (.consL (.d gam (.int .i64)) (.nil _)))) (.nil _))
noncomputable def r10 : Co (EV gam × List (Ent gam) × List (Ent gam)) (S37 × ((List S64) × Int)) := (.pairL (.tp (.cons (.st gam 37) (.cons (.d gam (.sl (.st 64))) (.consL (.d gam (.int .i64)) (.nil _))))) (.pairU (.nil _) (.nil _)))
noncomputable def b10 : Code := (Try.f10.body).getD .skip
noncomputable def b10_0 : Code := (loopsIn b10).getD 0 .skip
noncomputable def kp10_0 : Keep := { slots := [1, 2, 3, 6, 9], rows := [((2000, some 3), 7000200003, .bool)], boxes := [1000, 2000], tombs := [] }
noncomputable def c10_0 : Co (List (EV gam) × List (Ent gam)) ((Int × (Int × Int)) × ((Int × (Bool × (Bool × ((List Bool) × (Bool × (Bool × (Bool × (Int × Int)))))))) × ((Int × (Bool × (Bool × (Bool × (Bool × (Bool × (Int × Int))))))) × (List Bool)))) := (.pair (.cons (.d gam (.int .i64)) (.cons (.d gam (.int .i64)) (.consU (.ptr gam 1000 0) (.consU (.ptr gam 2000 0) (.consL (.d gam (.int .i64)) (.nil _)))))) (.cons (.box (.cons (.d gam (.int .i64)) (.cons (.d gam .bool) (.cons (.d gam .bool) (.cons (.d gam (.sl .bool)) (.cons (.d gam .bool) (.cons (.d gam .bool) (.cons (.d gam .bool) (.cons (.d gam (.int .i64)) (.consL (.d gam (.int .i64)) (.nil _))))))))))) (.cons (.box (.cons (.d gam (.int .i64)) (.cons (.d gam .bool) (.cons (.d gam .bool) (.consU (.ow gam 7000200003) (.cons (.d gam .bool) (.cons (.d gam .bool) (.cons (.d gam .bool) (.cons (.d gam (.int .i64)) (.consL (.d gam (.int .i64)) (.nil _))))))))))) (.consL (.row gam .bool 0) (.nil _)))))
noncomputable def x10_0 : Xc gam ((Int × (Int × Int)) × ((Int × (Bool × (Bool × ((List Bool) × (Bool × (Bool × (Bool × (Int × Int)))))))) × ((Int × (Bool × (Bool × (Bool × (Bool × (Bool × (Int × Int))))))) × (List Bool)))) := (.one (.exit 0) { slots := [1, 2, 3, 6, 9], rows := [((2000, some 3), 7000200003, .bool)], boxes := [1000, 2000], tombs := [] } (.pair (.cons (.d gam (.int .i64)) (.cons (.d gam (.int .i64)) (.consU (.ptr gam 1000 0) (.consU (.ptr gam 2000 0) (.consL (.d gam (.int .i64)) (.nil _)))))) (.cons (.box (.cons (.d gam (.int .i64)) (.cons (.d gam .bool) (.cons (.d gam .bool) (.cons (.d gam (.sl .bool)) (.cons (.d gam .bool) (.cons (.d gam .bool) (.cons (.d gam .bool) (.cons (.d gam (.int .i64)) (.consL (.d gam (.int .i64)) (.nil _))))))))))) (.cons (.box (.cons (.d gam (.int .i64)) (.cons (.d gam .bool) (.cons (.d gam .bool) (.consU (.ow gam 7000200003) (.cons (.d gam .bool) (.cons (.d gam .bool) (.cons (.d gam .bool) (.cons (.d gam (.int .i64)) (.consL (.d gam (.int .i64)) (.nil _))))))))))) (.consL (.row gam .bool 0) (.nil _))))))
noncomputable def b10_1 : Code := (loopsIn b10).getD 1 .skip
noncomputable def kp10_1 : Keep := { slots := [1, 3, 6, 12, 53, 54], rows := [((1000, some 3), 7000100003, .bool), ((2000, some 3), 7000200003, .bool), ((12, none), 7000001299, (.st 64))], boxes := [1000, 2000], tombs := [] }
noncomputable def c10_1 : Co (List (EV gam) × List (Ent gam)) ((Int × (Int × Int)) × ((Int × (Bool × (Bool × (Bool × (Bool × (Bool × (Int × Int))))))) × ((Int × (Bool × (Bool × (Bool × (Bool × (Bool × (Int × Int))))))) × (((List Bool) × Nat) × ((List Bool) × (List S64)))))) := (.pair (.cons (.d gam (.int .i64)) (.consU (.ptr gam 1000 0) (.consU (.ptr gam 2000 0) (.consU (.ow gam 7000001299) (.cons (.d gam (.int .i64)) (.consL (.d gam (.int .i64)) (.nil _))))))) (.cons (.box (.cons (.d gam (.int .i64)) (.cons (.d gam .bool) (.cons (.d gam .bool) (.consU (.ow gam 7000100003) (.cons (.d gam .bool) (.cons (.d gam .bool) (.cons (.d gam .bool) (.cons (.d gam (.int .i64)) (.consL (.d gam (.int .i64)) (.nil _))))))))))) (.cons (.box (.cons (.d gam (.int .i64)) (.cons (.d gam .bool) (.cons (.d gam .bool) (.consU (.ow gam 7000200003) (.cons (.d gam .bool) (.cons (.d gam .bool) (.cons (.d gam .bool) (.cons (.d gam (.int .i64)) (.consL (.d gam (.int .i64)) (.nil _))))))))))) (.cons (.rowN gam .bool) (.cons (.row gam .bool 0) (.consL (.row gam (.st 64) 0) (.nil _)))))))
noncomputable def x10_1 : Xc gam ((Int × (Bool × (Bool × (Bool × (Bool × (Bool × (Int × Int))))))) × ((Int × (Bool × (Bool × (Bool × (Bool × (Bool × (Int × Int))))))) × (((List Bool) × Nat) × ((List Bool) × (List S64))))) := (.one (.exit 2) { slots := [3, 6, 12], rows := [((1000, some 3), 7000100003, .bool), ((2000, some 3), 7000200003, .bool), ((12, none), 7000001299, (.st 64))], boxes := [1000, 2000], tombs := [] } (.pairU (.consU (.ptr gam 1000 0) (.consU (.ptr gam 2000 0) (.consU (.ow gam 7000001299) (.nil _)))) (.cons (.box (.cons (.d gam (.int .i64)) (.cons (.d gam .bool) (.cons (.d gam .bool) (.consU (.ow gam 7000100003) (.cons (.d gam .bool) (.cons (.d gam .bool) (.cons (.d gam .bool) (.cons (.d gam (.int .i64)) (.consL (.d gam (.int .i64)) (.nil _))))))))))) (.cons (.box (.cons (.d gam (.int .i64)) (.cons (.d gam .bool) (.cons (.d gam .bool) (.consU (.ow gam 7000200003) (.cons (.d gam .bool) (.cons (.d gam .bool) (.cons (.d gam .bool) (.cons (.d gam (.int .i64)) (.consL (.d gam (.int .i64)) (.nil _))))))))))) (.cons (.rowN gam .bool) (.cons (.row gam .bool 0) (.consL (.row gam (.st 64) 0) (.nil _))))))))
noncomputable def t10_0 (n : Nat) : LoopT gam := loopT kp10_0 c10_0 x10_0 (iter (U10_0 n) n)
noncomputable def t10_1 (n : Nat) : LoopT gam := loopT kp10_1 c10_1 x10_1 (iter (U10_1 n) n)
noncomputable def e10 (n : Nat) : FnT gam := fnN [[none, none, none, some .bool, none, none, none, none, none]] (fnT [] c10 r10 (fun x => F10 n x.1 x.2.1 x.2.2))
noncomputable def p10 (a : List (EV gam)) (l : List (Ent gam)) : Bool := (c10.dec (nilArgs [[none, none, none, some .bool, none, none, none, none, none]] a, l)).isSome
noncomputable def env10 (n : Nat) : Env gam := { P := Try.prog, fns := lookU [(15, e15 n), (21, e21 n), (22, e22 n), (23, e23 n)], loops := lookU [(4, t10_0 n), (16, t10_1 n)], nt := 69, m := 0, keeps := [], eqs := [] }
theorem env10_ok (n : Nat) : EnvOK (env10 n) := .of _ rfl (by exact ⟨ok15 n, ok21 n, ok22 n, ok23 n, trivial⟩) (by exact fun t h => nomatch h) (by kernel_rfl)
theorem lin10_1 (n : Nat) : LoopsOK (env10 n) b10_1 := .of [] (by kernel_rfl) trivial
theorem lok10_1 (n : Nat) : LoopOK (env10 n) b10_1 (t10_1 n) := loopT_ok (env10_ok n) (lin10_1 n) (fun L x => by kernel_rfl) n
theorem lin10_0 (n : Nat) : LoopsOK (env10 n) b10_0 := .of [] (by kernel_rfl) trivial
theorem lok10_0 (n : Nat) : LoopOK (env10 n) b10_0 (t10_0 n) := loopT_ok (env10_ok n) (lin10_0 n) (fun L x => by kernel_rfl) n
theorem lin10 (n : Nat) : LoopsOK (env10 n) b10 := .of [(b10_0, 4, t10_0 n), (b10_1, 16, t10_1 n)] (by kernel_rfl) ⟨by kernel_rfl, by kernel_rfl, lok10_0 n, by kernel_rfl, by kernel_rfl, lok10_1 n, trivial⟩
theorem eq10 (n : Nat) (x : S37 × (Int × Int)) : (F10 n x.1 x.2.1 x.2.2) = fnE (env10 n) Try.f10 [[.asis, .asis, .asis, .dat .bool, .asis, .asis, .asis, .asis, .asis], [.dat (.st 64)], [.asis]] none c10 r10 x := by kernel_rfl
theorem okt10 (n : Nat) : FnOK Try.prog 10 (fnT (G := gam) [] c10 r10 (fun x => F10 n x.1 x.2.1 x.2.2)) := fnT_ok (env10_ok n) (by kernel_rfl) (by kernel_rfl) (by kernel_rfl) (b := b10) (by kernel_rfl) (fun x => by kernel_rfl) (lin10 n) (eq10 n)
theorem ok10 (n : Nat) : FnOK Try.prog 10 (e10 n) := fnN_ok (okt10 n)
/-! ### regen.proves -/
noncomputable def F26 (n : Nat) (a0 : S57) (a1 : Int) (a2 : Int) : Option Bool :=
  (bif (a0.Kind == (12 : Int)) then
    (Option.bind (F25 n a0.Site a1 a2) fun y1 =>
    (bif (bNot y1) then
      (some false)
    else
      (some (bif (decide (a0.Epoch ≥ (0 : Int))) then (decide (a0.Epoch ≤ (1073741824 : Int))) else false))))
  else
    (bif (a0.Kind == (13 : Int)) then
      (bif (a0.Kind == (13 : Int)) then
        (some (bif (decide (a0.Epoch ≥ (0 : Int))) then (decide (a0.Epoch ≤ (1073741824 : Int))) else false))
      else
        (some false))
    else
      (bif (a0.Kind == (14 : Int)) then
        (bif (a0.Kind == (14 : Int)) then
          (some (bif (decide (a0.Epoch ≥ (0 : Int))) then (decide (a0.Epoch ≤ (1073741824 : Int))) else false))
        else
          (some false))
      else
        (bif (a0.Kind == (15 : Int)) then
          (some (bif (decide (a0.Epoch ≥ (0 : Int))) then (decide (a0.Epoch ≤ (1073741824 : Int))) else false))
        else
          (some false)))))
noncomputable def c26 : Co (List (EV gam) × List (Ent gam)) (S57 × (Int × Int)) := (.pairL (.cons (.st gam 57) (.cons (.d gam (.int .i64)) (.consL (.d gam (.int .i64)) (.nil _)))) (.nil _))
noncomputable def r26 : Co (EV gam × List (Ent gam) × List (Ent gam)) Bool := (.pairL (.d gam .bool) (.pairU (.nil _) (.nil _)))
noncomputable def b26 : Code := (Try.f26.body).getD .skip
noncomputable def e26 (n : Nat) : FnT gam := fnN [[none, none, none, none, none, none, none, none, none, none, none, none, none, none, none, some (.st 118), some (.st 123), some (.st 126)]] (fnT [] c26 r26 (fun x => F26 n x.1 x.2.1 x.2.2))
noncomputable def p26 (a : List (EV gam)) (l : List (Ent gam)) : Bool := (c26.dec (nilArgs [[none, none, none, none, none, none, none, none, none, none, none, none, none, none, none, some (.st 118), some (.st 123), some (.st 126)]] a, l)).isSome
noncomputable def env26 (n : Nat) : Env gam := { P := Try.prog, fns := lookU [(25, e25 n)], loops := lookU [], nt := 29, m := 0, keeps := [], eqs := [] }
theorem env26_ok (n : Nat) : EnvOK (env26 n) := .of _ rfl (by exact ⟨ok25 n, trivial⟩) (by exact fun t h => nomatch h) (by kernel_rfl)
theorem lin26 (n : Nat) : LoopsOK (env26 n) b26 := .of [] (by kernel_rfl) trivial
theorem eq26 (n : Nat) (x : S57 × (Int × Int)) : (F26 n x.1 x.2.1 x.2.2) = fnE (env26 n) Try.f26 [[.asis]] none c26 r26 x := by kernel_rfl
theorem okt26 (n : Nat) : FnOK Try.prog 26 (fnT (G := gam) [] c26 r26 (fun x => F26 n x.1 x.2.1 x.2.2)) := fnT_ok (env26_ok n) (by kernel_rfl) (by kernel_rfl) (by kernel_rfl) (b := b26) (by kernel_rfl) (fun x => by kernel_rfl) (lin26 n) (eq26 n)
theorem ok26 (n : Nat) : FnOK Try.prog 26 (e26 n) := fnN_ok (okt26 n)
/-! ### regen.stale -/
noncomputable def F27 (n : Nat) (a0 : S37) (a1 : S57) : Option Bool :=
  (bif (a1.Kind == (14 : Int)) then
    (some (decide (a1.Epoch ≤ a0.Epoch)))
  else
    (some (a1.Epoch != a0.Epoch)))
noncomputable def c27 : Co (List (EV gam) × List (Ent gam)) (S37 × S57) := (.pairL (.cons (.st gam 37) (.consL (.st gam 57) (.nil _))) (.nil _))
noncomputable def r27 : Co (EV gam × List (Ent gam) × List (Ent gam)) Bool := (.pairL (.d gam .bool) (.pairU (.nil _) (.nil _)))
noncomputable def b27 : Code := (Try.f27.body).getD .skip
noncomputable def e27 (n : Nat) : FnT gam := fnN [[none, none, none, some .bool, none, none, none, none, none], [none, none, none, none, none, none, none, none, none, none, none, none, none, none, none, some (.st 118), some (.st 123), some (.st 126)]] (fnT [] c27 r27 (fun x => F27 n x.1 x.2))
noncomputable def p27 (a : List (EV gam)) (l : List (Ent gam)) : Bool := (c27.dec (nilArgs [[none, none, none, some .bool, none, none, none, none, none], [none, none, none, none, none, none, none, none, none, none, none, none, none, none, none, some (.st 118), some (.st 123), some (.st 126)]] a, l)).isSome
noncomputable def env27 (n : Nat) : Env gam := { P := Try.prog, fns := lookU [], loops := lookU [], nt := 18, m := 0, keeps := [], eqs := [] }
theorem env27_ok (n : Nat) : EnvOK (env27 n) := .of _ rfl (by exact trivial) (by exact fun t h => nomatch h) (by kernel_rfl)
theorem lin27 (n : Nat) : LoopsOK (env27 n) b27 := .of [] (by kernel_rfl) trivial
theorem eq27 (n : Nat) (x : S37 × S57) : (F27 n x.1 x.2) = fnE (env27 n) Try.f27 [[.asis]] none c27 r27 x := by kernel_rfl
theorem okt27 (n : Nat) : FnOK Try.prog 27 (fnT (G := gam) [] c27 r27 (fun x => F27 n x.1 x.2)) := fnT_ok (env27_ok n) (by kernel_rfl) (by kernel_rfl) (by kernel_rfl) (b := b27) (by kernel_rfl) (fun x => by kernel_rfl) (lin27 n) (eq27 n)
theorem ok27 (n : Nat) : FnOK Try.prog 27 (e27 n) := fnN_ok (okt27 n)
/-! ### slices.Clone[[]bool,bool] -/
noncomputable def F37n (n : Nat) (_ : Unit) : Option (List Bool) :=
  (some ([] : List Bool))
noncomputable def c37n : Co (List (EV gam) × List (Ent gam)) Unit := (.pairU (.consU (.nl gam) (.nil _)) (.nil _))
noncomputable def r37n : Co (EV gam × List (Ent gam) × List (Ent gam)) (List Bool) := (.pairU (.ow gam 0) (.pairU (.nil _) (.consL (.row gam .bool 0) (.nil _))))
noncomputable def b37n : Code := (Try.f37.body).getD .skip
noncomputable def e37n (n : Nat) : FnT gam := fnN [] (fnT [] c37n r37n (fun x => F37n n ()))
noncomputable def p37n (a : List (EV gam)) (l : List (Ent gam)) : Bool := (c37n.dec (nilArgs [] a, l)).isSome
noncomputable def env37n (n : Nat) : Env gam := { P := Try.prog, fns := lookU [], loops := lookU [], nt := 8, m := 0, keeps := [], eqs := [] }
theorem env37n_ok (n : Nat) : EnvOK (env37n n) := .of _ rfl (by exact trivial) (by exact fun t h => nomatch h) (by kernel_rfl)
theorem lin37n (n : Nat) : LoopsOK (env37n n) b37n := .of [] (by kernel_rfl) trivial
theorem eq37n (n : Nat) (x : Unit) : (F37n n ()) = fnE (env37n n) Try.f37 [[.own .bool]] none c37n r37n x := by kernel_rfl
theorem okt37n (n : Nat) : FnOK Try.prog 37 (fnT (G := gam) [] c37n r37n (fun x => F37n n ())) := fnT_ok (env37n_ok n) (by kernel_rfl) (by kernel_rfl) (by kernel_rfl) (b := b37n) (by kernel_rfl) (fun x => by kernel_rfl) (lin37n n) (eq37n n)
theorem ok37n (n : Nat) : FnOK Try.prog 37 (e37n n) := fnN_ok (okt37n n)
/-! ### slices.Clone[[]bool,bool] -/
noncomputable def F37s (n : Nat) (a0 : List Bool) : Option (List Bool) :=
  (bif (appOK (List.length ([] : List Bool)) (List.length a0) 1) then (some (([] : List Bool) ++ a0)) else none)
noncomputable def c37s : Co (List (EV gam) × List (Ent gam)) (List Bool) := (.pairL (.consL (.d gam (.sn .bool)) (.nil _)) (.nil _))
noncomputable def r37s : Co (EV gam × List (Ent gam) × List (Ent gam)) (List Bool) := (.pairU (.ow gam 0) (.pairU (.nil _) (.consL (.row gam .bool 0) (.nil _))))
noncomputable def b37s : Code := (Try.f37.body).getD .skip
noncomputable def e37s (n : Nat) : FnT gam := fnN [] (fnT [] c37s r37s (fun x => F37s n x))
noncomputable def p37s (a : List (EV gam)) (l : List (Ent gam)) : Bool := (c37s.dec (nilArgs [] a, l)).isSome
noncomputable def env37s (n : Nat) : Env gam := { P := Try.prog, fns := lookU [], loops := lookU [], nt := 8, m := 0, keeps := [], eqs := [] }
theorem env37s_ok (n : Nat) : EnvOK (env37s n) := .of _ rfl (by exact trivial) (by exact fun t h => nomatch h) (by kernel_rfl)
theorem lin37s (n : Nat) : LoopsOK (env37s n) b37s := .of [] (by kernel_rfl) trivial
theorem eq37s (n : Nat) (x : List Bool) : (F37s n x) = fnE (env37s n) Try.f37 [[.own .bool]] none c37s r37s x := by kernel_rfl
theorem okt37s (n : Nat) : FnOK Try.prog 37 (fnT (G := gam) [] c37s r37s (fun x => F37s n x)) := fnT_ok (env37s_ok n) (by kernel_rfl) (by kernel_rfl) (by kernel_rfl) (b := b37s) (by kernel_rfl) (fun x => by kernel_rfl) (lin37s n) (eq37s n)
theorem ok37s (n : Nat) : FnOK Try.prog 37 (e37s n) := fnN_ok (okt37s n)
/-! ### slices.Clone[[]bool,bool] -/
noncomputable def F37 (n : Nat) (a0 : List Bool) : Option (List Bool) := F37s n a0
noncomputable def c37 : Co (List (EV gam) × List (Ent gam)) (List Bool) := (.pairL (.consL (.d gam (.sl .bool)) (.nil _)) (.nil _))
noncomputable def r37 : Co (EV gam × List (Ent gam) × List (Ent gam)) (List Bool) := (.pairU (.ow gam 0) (.pairU (.nil _) (.consL (.row gam .bool 0) (.nil _))))
noncomputable def e37 (n : Nat) : FnT gam := fnN [[some .bool]] (fnT [] c37 r37 (fun x => F37 n x))
noncomputable def p37 (a : List (EV gam)) (l : List (Ent gam)) : Bool := (c37.dec (nilArgs [[some .bool]] a, l)).isSome
theorem okt37 (n : Nat) : FnOK Try.prog 37 (fnT (G := gam) [] c37 r37 (fun x => F37 n x)) := split_ok (r := r37) (okt37n n) (okt37s n) 0 .bool (fun x => x) (fun x => ()) (fun x => x) (fun x => by kernel_rfl) (fun x => by kernel_rfl) (fun x => by kernel_rfl) (fun x => by kernel_rfl) (fun x => by kernel_rfl) (fun x => by kernel_rfl) (fun x y hp h => by cases (show x = [] from hp); exact clone_nil h)
theorem ok37 (n : Nat) : FnOK Try.prog 37 (e37 n) := fnN_ok (okt37 n)
/-! ### regen.copied -/
noncomputable def F24 (n : Nat) (a0 : S37) : Option ((Int × (Bool × (Bool × (Bool × (Bool × (Bool × (Int × Int))))))) × (List Bool)) :=
  (Option.bind (F37 n a0.Promised) fun y1 =>
  (some ((a0.Epoch, (a0.Lost, (a0.Asking, (a0.Token_Has, (a0.Token_Want, (a0.Token_Using, (a0.Token_Last, a0.Token_Next))))))), y1)))
noncomputable def c24 : Co (List (EV gam) × List (Ent gam)) S37 := (.pairL (.consL (.st gam 37) (.nil _)) (.nil _))
noncomputable def r24 : Co (EV gam × List (Ent gam) × List (Ent gam)) ((Int × (Bool × (Bool × (Bool × (Bool × (Bool × (Int × Int))))))) × (List Bool)) := (.pair (.ag (.cons (.d gam (.int .i64)) (.cons (.d gam .bool) (.cons (.d gam .bool) (.consU (.ow gam 0) (.cons (.d gam .bool) (.cons (.d gam .bool) (.cons (.d gam .bool) (.cons (.d gam (.int .i64)) (.consL (.d gam (.int .i64)) (.nil _))))))))))) (.pairU (.nil _) (.consL (.row gam .bool 0) (.nil _))))
noncomputable def b24 : Code := (Try.f24.body).getD .skip
noncomputable def e24 (n : Nat) : FnT gam := fnN [[none, none, none, some .bool, none, none, none, none, none]] (fnT [] c24 r24 (fun x => F24 n x))
noncomputable def p24 (a : List (EV gam)) (l : List (Ent gam)) : Bool := (c24.dec (nilArgs [[none, none, none, some .bool, none, none, none, none, none]] a, l)).isSome
noncomputable def env24 (n : Nat) : Env gam := { P := Try.prog, fns := lookU [(37, e37 n)], loops := lookU [], nt := 8, m := 0, keeps := [], eqs := [] }
theorem env24_ok (n : Nat) : EnvOK (env24 n) := .of _ rfl (by exact ⟨ok37 n, trivial⟩) (by exact fun t h => nomatch h) (by kernel_rfl)
theorem lin24 (n : Nat) : LoopsOK (env24 n) b24 := .of [] (by kernel_rfl) trivial
theorem eq24 (n : Nat) (x : S37) : (F24 n x) = fnE (env24 n) Try.f24 [[.asis, .asis, .asis, .own .bool, .asis, .asis, .asis, .asis, .asis]] none c24 r24 x := by kernel_rfl
theorem okt24 (n : Nat) : FnOK Try.prog 24 (fnT (G := gam) [] c24 r24 (fun x => F24 n x)) := fnT_ok (env24_ok n) (by kernel_rfl) (by kernel_rfl) (by kernel_rfl) (b := b24) (by kernel_rfl) (fun x => by kernel_rfl) (lin24 n) (eq24 n)
theorem ok24 (n : Nat) : FnOK Try.prog 24 (e24 n) := fnN_ok (okt24 n)
/-! ### token.newMaker -/
noncomputable def F44 (n : Nat) (a0 : Int) : Option Int :=
  (some a0)
noncomputable def c44 : Co (List (EV gam) × List (Ent gam)) Int := (.pairL (.consL (.d gam (.int .i64)) (.nil _)) (.nil _))
noncomputable def r44 : Co (EV gam × List (Ent gam) × List (Ent gam)) Int := (.pairU (.ag (.consU (.fn 45 (.consU (.ptr gam 0 0) (.nil _))) (.consU (.fn 46 (.consU (.ptr gam 0 0) (.nil _))) (.nil _)))) (.pairU (.nil _) (.consL (.box (.consL (.d gam (.int .i64)) (.nil _))) (.nil _))))
noncomputable def b44 : Code := (Try.f44.body).getD .skip
noncomputable def e44 (n : Nat) : FnT gam := fnN [] (fnT [] c44 r44 (fun x => F44 n x))
noncomputable def p44 (a : List (EV gam)) (l : List (Ent gam)) : Bool := (c44.dec (nilArgs [] a, l)).isSome
noncomputable def env44 (n : Nat) : Env gam := { P := Try.prog, fns := lookU [], loops := lookU [], nt := 6, m := 0, keeps := [], eqs := [] }
theorem env44_ok (n : Nat) : EnvOK (env44 n) := .of _ rfl (by exact trivial) (by exact fun t h => nomatch h) (by kernel_rfl)
theorem lin44 (n : Nat) : LoopsOK (env44 n) b44 := .of [] (by kernel_rfl) trivial
theorem eq44 (n : Nat) (x : Int) : (F44 n x) = fnE (env44 n) Try.f44 [[.asis, .asis]] none c44 r44 x := by kernel_rfl
theorem okt44 (n : Nat) : FnOK Try.prog 44 (fnT (G := gam) [] c44 r44 (fun x => F44 n x)) := fnT_ok (env44_ok n) (by kernel_rfl) (by kernel_rfl) (by kernel_rfl) (b := b44) (by kernel_rfl) (fun x => by kernel_rfl) (lin44 n) (eq44 n)
theorem ok44 (n : Nat) : FnOK Try.prog 44 (e44 n) := fnN_ok (okt44 n)
/-! ### token.newMaker$1 -/
noncomputable def F45 (n : Nat) (a0 : Int) (a1 : Int) (a2 : Int) : Option (S64 × Int) :=
  (some ((S64.mk a0 (12 : Int) (0 : Int) (0 : Int) (0 : Int) (0 : Int) (ByteArray.mk #[]) (0 : Int) (0 : Int) (0 : Int) (0 : Int) (0 : Int) a2 a1 (0 : Int) false ([] : List Unit) ([] : List Unit) ([] : List Unit)), a2))
noncomputable def c45 : Co (List (EV gam) × List (Ent gam)) ((Int × Int) × Int) := (.pair (.cons (.d gam (.int .i64)) (.consL (.d gam (.int .i64)) (.consU (.ptr gam 0 0) (.nil _)))) (.consL (.box (.consL (.d gam (.int .i64)) (.nil _))) (.nil _)))
noncomputable def r45 : Co (EV gam × List (Ent gam) × List (Ent gam)) (S64 × Int) := (.pair (.st gam 64) (.pairL (.consL (.box (.consL (.d gam (.int .i64)) (.nil _))) (.nil _)) (.nil _)))
noncomputable def b45 : Code := (Try.f45.body).getD .skip
noncomputable def e45 (n : Nat) : FnT gam := fnN [] (fnT [] c45 r45 (fun x => F45 n x.1.1 x.1.2 x.2))
noncomputable def p45 (a : List (EV gam)) (l : List (Ent gam)) : Bool := (c45.dec (nilArgs [] a, l)).isSome
noncomputable def env45 (n : Nat) : Env gam := { P := Try.prog, fns := lookU [], loops := lookU [], nt := 11, m := 1, keeps := [], eqs := [] }
theorem env45_ok (n : Nat) : EnvOK (env45 n) := .of _ rfl (by exact trivial) (by exact fun t h => nomatch h) (by kernel_rfl)
theorem lin45 (n : Nat) : LoopsOK (env45 n) b45 := .of [] (by kernel_rfl) trivial
theorem eq45 (n : Nat) (x : (Int × Int) × Int) : (F45 n x.1.1 x.1.2 x.2) = fnE (env45 n) Try.f45 [[.asis, .asis, .asis, .asis, .asis, .asis, .asis, .asis, .asis, .asis, .asis, .asis, .asis, .asis, .asis, .asis, .dat (.st 118), .dat (.st 123), .dat (.st 126)]] none c45 r45 x := by kernel_rfl
theorem okt45 (n : Nat) : FnOK Try.prog 45 (fnT (G := gam) [] c45 r45 (fun x => F45 n x.1.1 x.1.2 x.2)) := fnT_ok (env45_ok n) (by kernel_rfl) (by kernel_rfl) (by kernel_rfl) (b := b45) (by kernel_rfl) (fun x => by kernel_rfl) (lin45 n) (eq45 n)
theorem ok45 (n : Nat) : FnOK Try.prog 45 (e45 n) := fnN_ok (okt45 n)
/-! ### token.newMaker$2 -/
noncomputable def F46 (n : Nat) (a0 : Int) (a1 : Int) : Option (S64 × Int) :=
  (some ((S64.mk a0 (13 : Int) (0 : Int) (0 : Int) (0 : Int) (0 : Int) (ByteArray.mk #[]) (0 : Int) (0 : Int) (0 : Int) (0 : Int) (0 : Int) a1 (0 : Int) (0 : Int) false ([] : List Unit) ([] : List Unit) ([] : List Unit)), a1))
noncomputable def c46 : Co (List (EV gam) × List (Ent gam)) (Int × Int) := (.pair (.consL (.d gam (.int .i64)) (.consU (.ptr gam 0 0) (.nil _))) (.consL (.box (.consL (.d gam (.int .i64)) (.nil _))) (.nil _)))
noncomputable def r46 : Co (EV gam × List (Ent gam) × List (Ent gam)) (S64 × Int) := (.pair (.st gam 64) (.pairL (.consL (.box (.consL (.d gam (.int .i64)) (.nil _))) (.nil _)) (.nil _)))
noncomputable def b46 : Code := (Try.f46.body).getD .skip
noncomputable def e46 (n : Nat) : FnT gam := fnN [] (fnT [] c46 r46 (fun x => F46 n x.1 x.2))
noncomputable def p46 (a : List (EV gam)) (l : List (Ent gam)) : Bool := (c46.dec (nilArgs [] a, l)).isSome
noncomputable def env46 (n : Nat) : Env gam := { P := Try.prog, fns := lookU [], loops := lookU [], nt := 8, m := 1, keeps := [], eqs := [] }
theorem env46_ok (n : Nat) : EnvOK (env46 n) := .of _ rfl (by exact trivial) (by exact fun t h => nomatch h) (by kernel_rfl)
theorem lin46 (n : Nat) : LoopsOK (env46 n) b46 := .of [] (by kernel_rfl) trivial
theorem eq46 (n : Nat) (x : Int × Int) : (F46 n x.1 x.2) = fnE (env46 n) Try.f46 [[.asis, .asis, .asis, .asis, .asis, .asis, .asis, .asis, .asis, .asis, .asis, .asis, .asis, .asis, .asis, .asis, .dat (.st 118), .dat (.st 123), .dat (.st 126)]] none c46 r46 x := by kernel_rfl
theorem okt46 (n : Nat) : FnOK Try.prog 46 (fnT (G := gam) [] c46 r46 (fun x => F46 n x.1 x.2)) := fnT_ok (env46_ok n) (by kernel_rfl) (by kernel_rfl) (by kernel_rfl) (b := b46) (by kernel_rfl) (fun x => by kernel_rfl) (lin46 n) (eq46 n)
theorem ok46 (n : Nat) : FnOK Try.prog 46 (e46 n) := fnN_ok (okt46 n)
/-! ### token.Hear -/
noncomputable def F39 (n : Nat) (a0 : S35) (a1 : Int) (a2 : Int) (a3 : Int) (a4 : S57) : Option (S35 × ((List S64) × Int)) :=
  (bif (a4.Kind == (12 : Int)) then
    (Option.bind (F41 n a4.Site a1 a2) fun y1 =>
    (Option.bind (F33 n a0 a1 a2) fun y2 =>
    (bif (bNot y2) then
      (some ((S35.mk false false false (0 : Int) (0 : Int)), (([] : List S64), (2 : Int))))
    else
      (bif (bif (decide (a3 < (0 : Int))) then
        true
      else
        (bif (decide (a3 > (1073741824 : Int))) then
          true
        else
          (bif (bNot (a4.Kind == (13 : Int))) then (bNot y1) else false))) then
        (some ((S35.mk false false false (0 : Int) (0 : Int)), (([] : List S64), (1 : Int))))
      else
        (bif (a4.Epoch != a3) then
          (some ((S35.mk false false false (0 : Int) (0 : Int)), (([] : List S64), (18 : Int))))
        else
          (bif (bif (a4.Kind == (13 : Int)) then (bNot a0.Want) else false) then
            (some ((S35.mk false false false (0 : Int) (0 : Int)), (([] : List S64), (14 : Int))))
          else
            (bif (a4.Kind == (13 : Int)) then
              (some ((S35.mk true false true a0.Last a0.Next), (([] : List S64), (0 : Int))))
            else
              (Option.bind (F44 n a3) fun y3 =>
              (bif (a0.Last != (-1 : Int)) then
                (Option.bind (F45 n a0.Last a4.Site y3) fun y4 =>
                (some ({ a0 with Last := a4.Site }, ([y4.1], (0 : Int)))))
              else
                (bif (bif a0.Has then (bNot a0.Using) else false) then
                  (Option.bind (F46 n a4.Site y3) fun y5 =>
                  (some ({ a0 with Has := false, Last := a4.Site }, ([y5.1], (0 : Int)))))
                else
                  (some ({ a0 with Last := a4.Site, Next := a4.Site }, (([] : List S64), (0 : Int))))))))))))))
  else
    (Option.bind (F33 n a0 a1 a2) fun y6 =>
    (bif (bNot y6) then
      (some ((S35.mk false false false (0 : Int) (0 : Int)), (([] : List S64), (2 : Int))))
    else
      (bif (bif (decide (a3 < (0 : Int))) then
        true
      else
        (bif (decide (a3 > (1073741824 : Int))) then
          true
        else
          (bif (bNot (a4.Kind == (13 : Int))) then (bNot false) else false))) then
        (some ((S35.mk false false false (0 : Int) (0 : Int)), (([] : List S64), (1 : Int))))
      else
        (bif (a4.Epoch != a3) then
          (some ((S35.mk false false false (0 : Int) (0 : Int)), (([] : List S64), (18 : Int))))
        else
          (bif (bif (a4.Kind == (13 : Int)) then (bNot a0.Want) else false) then
            (some ((S35.mk false false false (0 : Int) (0 : Int)), (([] : List S64), (14 : Int))))
          else
            (bif (a4.Kind == (13 : Int)) then
              (some ((S35.mk true false true a0.Last a0.Next), (([] : List S64), (0 : Int))))
            else
              (Option.bind (F44 n a3) fun y7 =>
              (bif (a0.Last != (-1 : Int)) then
                (Option.bind (F45 n a0.Last a4.Site y7) fun y8 =>
                (some ({ a0 with Last := a4.Site }, ([y8.1], (0 : Int)))))
              else
                (bif (bif a0.Has then (bNot a0.Using) else false) then
                  (Option.bind (F46 n a4.Site y7) fun y9 =>
                  (some ({ a0 with Has := false, Last := a4.Site }, ([y9.1], (0 : Int)))))
                else
                  (some ({ a0 with Last := a4.Site, Next := a4.Site }, (([] : List S64), (0 : Int))))))))))))))
noncomputable def c39 : Co (List (EV gam) × List (Ent gam)) (S35 × (Int × (Int × (Int × S57)))) := (.pairL (.cons (.st gam 35) (.cons (.d gam (.int .i64)) (.cons (.d gam (.int .i64)) (.cons (.d gam (.int .i64)) (.consL (.st gam 57) (.nil _)))))) (.nil _))
noncomputable def r39 : Co (EV gam × List (Ent gam) × List (Ent gam)) (S35 × ((List S64) × Int)) := (.pairL (.tp (.cons (.st gam 35) (.cons (.d gam (.sl (.st 64))) (.consL (.d gam (.int .i64)) (.nil _))))) (.pairU (.nil _) (.nil _)))
noncomputable def b39 : Code := (Try.f39.body).getD .skip
noncomputable def e39 (n : Nat) : FnT gam := fnN [[none, none, none, none, none], [none], [none], [none], [none, none, none, none, none, none, none, none, none, none, none, none, none, none, none, some (.st 118), some (.st 123), some (.st 126)]] (fnT [] c39 r39 (fun x => F39 n x.1 x.2.1 x.2.2.1 x.2.2.2.1 x.2.2.2.2))
noncomputable def p39 (a : List (EV gam)) (l : List (Ent gam)) : Bool := (c39.dec (nilArgs [[none, none, none, none, none], [none], [none], [none], [none, none, none, none, none, none, none, none, none, none, none, none, none, none, none, some (.st 118), some (.st 123), some (.st 126)]] a, l)).isSome
noncomputable def env39 (n : Nat) : Env gam := { P := Try.prog, fns := lookU [(33, e33 n), (41, e41 n), (44, e44 n), (45, e45 n), (46, e46 n)], loops := lookU [], nt := 111, m := 0, keeps := [], eqs := [] }
theorem env39_ok (n : Nat) : EnvOK (env39 n) := .of _ rfl (by exact ⟨ok33 n, ok41 n, ok44 n, ok45 n, ok46 n, trivial⟩) (by exact fun t h => nomatch h) (by kernel_rfl)
theorem lin39 (n : Nat) : LoopsOK (env39 n) b39 := .of [] (by kernel_rfl) trivial
theorem eq39 (n : Nat) (x : S35 × (Int × (Int × (Int × S57)))) : (F39 n x.1 x.2.1 x.2.2.1 x.2.2.2.1 x.2.2.2.2) = fnE (env39 n) Try.f39 [[.asis, .asis, .asis, .asis, .asis], [.dat (.st 64)], [.asis]] none c39 r39 x := by kernel_rfl
theorem okt39 (n : Nat) : FnOK Try.prog 39 (fnT (G := gam) [] c39 r39 (fun x => F39 n x.1 x.2.1 x.2.2.1 x.2.2.2.1 x.2.2.2.2)) := fnT_ok (env39_ok n) (by kernel_rfl) (by kernel_rfl) (by kernel_rfl) (b := b39) (by kernel_rfl) (fun x => by kernel_rfl) (lin39 n) (eq39 n)
theorem ok39 (n : Nat) : FnOK Try.prog 39 (e39 n) := fnN_ok (okt39 n)
/-! ### regen.pass -/
noncomputable def F29 (n : Nat) (a0 : S37) (a1 : Int) (a2 : Int) (a3 : S57) : Option (S37 × ((List S64) × Int)) :=
  (bif a0.Lost then
    (some ((S37.mk (0 : Int) false false ([] : List Bool) false false false (0 : Int) (0 : Int)), (([] : List S64), (19 : Int))))
  else
    (bif (bNot a0.Asking) then
      (Option.bind (F39 n (S35.mk a0.Token_Has a0.Token_Want a0.Token_Using a0.Token_Last a0.Token_Next) a1 a2 a0.Epoch a3) fun y1 =>
      (bif (y1.2.2 != (0 : Int)) then
        (some ((S37.mk (0 : Int) false false ([] : List Bool) false false false (0 : Int) (0 : Int)), (([] : List S64), y1.2.2)))
      else
        (some ((S37.mk a0.Epoch a0.Lost a0.Asking a0.Promised y1.1.Has y1.1.Want y1.1.Using y1.1.Last y1.1.Next), (y1.2.1, (0 : Int))))))
    else
      (bif (a3.Kind == (13 : Int)) then
        (some ((S37.mk (0 : Int) false false ([] : List Bool) false false false (0 : Int) (0 : Int)), (([] : List S64), (14 : Int))))
      else
        (bif (a0.Token_Last != (-1 : Int)) then
          (Option.bind (F23 n { a0 with Token_Last := a3.Site } a0.Token_Last (12 : Int) a3.Site) fun y2 =>
          (some ({ a0 with Token_Last := a3.Site }, ([y2], (0 : Int)))))
        else
          (some ({ a0 with Token_Last := a3.Site, Token_Next := a3.Site }, (([] : List S64), (0 : Int))))))))
noncomputable def c29 : Co (List (EV gam) × List (Ent gam)) (S37 × (Int × (Int × S57))) := (.pairL (.cons (.st gam 37) (.cons (.d gam (.int .i64)) (.cons (.d gam (.int .i64)) (.consL (.st gam 57) (.nil _))))) (.nil _))
noncomputable def r29 : Co (EV gam × List (Ent gam) × List (Ent gam)) (S37 × ((List S64) × Int)) := (.pairL (.tp (.cons (.st gam 37) (.cons (.d gam (.sl (.st 64))) (.consL (.d gam (.int .i64)) (.nil _))))) (.pairU (.nil _) (.nil _)))
noncomputable def b29 : Code := (Try.f29.body).getD .skip
noncomputable def e29 (n : Nat) : FnT gam := fnN [[none, none, none, some .bool, none, none, none, none, none], [none], [none], [none, none, none, none, none, none, none, none, none, none, none, none, none, none, none, some (.st 118), some (.st 123), some (.st 126)]] (fnT [] c29 r29 (fun x => F29 n x.1 x.2.1 x.2.2.1 x.2.2.2))
noncomputable def p29 (a : List (EV gam)) (l : List (Ent gam)) : Bool := (c29.dec (nilArgs [[none, none, none, some .bool, none, none, none, none, none], [none], [none], [none, none, none, none, none, none, none, none, none, none, none, none, none, none, none, some (.st 118), some (.st 123), some (.st 126)]] a, l)).isSome
noncomputable def env29 (n : Nat) : Env gam := { P := Try.prog, fns := lookU [(23, e23 n), (39, e39 n)], loops := lookU [], nt := 69, m := 0, keeps := [], eqs := [] }
theorem env29_ok (n : Nat) : EnvOK (env29 n) := .of _ rfl (by exact ⟨ok23 n, ok39 n, trivial⟩) (by exact fun t h => nomatch h) (by kernel_rfl)
theorem lin29 (n : Nat) : LoopsOK (env29 n) b29 := .of [] (by kernel_rfl) trivial
theorem eq29 (n : Nat) (x : S37 × (Int × (Int × S57))) : (F29 n x.1 x.2.1 x.2.2.1 x.2.2.2) = fnE (env29 n) Try.f29 [[.asis, .asis, .asis, .dat .bool, .asis, .asis, .asis, .asis, .asis], [.dat (.st 64)], [.asis]] none c29 r29 x := by kernel_rfl
theorem okt29 (n : Nat) : FnOK Try.prog 29 (fnT (G := gam) [] c29 r29 (fun x => F29 n x.1 x.2.1 x.2.2.1 x.2.2.2)) := fnT_ok (env29_ok n) (by kernel_rfl) (by kernel_rfl) (by kernel_rfl) (b := b29) (by kernel_rfl) (fun x => by kernel_rfl) (lin29 n) (eq29 n)
theorem ok29 (n : Nat) : FnOK Try.prog 29 (e29 n) := fnN_ok (okt29 n)
/-! ### regen.Hear -/
noncomputable def F13 (n : Nat) (a0 : S37) (a1 : Int) (a2 : Int) (a3 : Int) (a4 : S57) : Option (S37 × ((List S64) × Int)) :=
  (Option.bind (F24 n a0) fun y1 =>
  (Option.bind (F15 n (S37.mk y1.1.1 y1.1.2.1 y1.1.2.2.1 y1.2 y1.1.2.2.2.1 y1.1.2.2.2.2.1 y1.1.2.2.2.2.2.1 y1.1.2.2.2.2.2.2.1 y1.1.2.2.2.2.2.2.2) a1 a2) fun y2 =>
  (bif (bNot y2) then
    (some ((S37.mk (0 : Int) false false ([] : List Bool) false false false (0 : Int) (0 : Int)), (([] : List S64), (2 : Int))))
  else
    (Option.bind (F25 n a3 a1 a2) fun y3 =>
    (bif (bNot y3) then
      (some ((S37.mk (0 : Int) false false ([] : List Bool) false false false (0 : Int) (0 : Int)), (([] : List S64), (1 : Int))))
    else
      (Option.bind (F26 n a4 a1 a2) fun y4 =>
      (bif (bNot y4) then
        (some ((S37.mk (0 : Int) false false ([] : List Bool) false false false (0 : Int) (0 : Int)), (([] : List S64), (1 : Int))))
      else
        (Option.bind (F27 n (S37.mk y1.1.1 y1.1.2.1 y1.1.2.2.1 y1.2 y1.1.2.2.2.1 y1.1.2.2.2.2.1 y1.1.2.2.2.2.2.1 y1.1.2.2.2.2.2.2.1 y1.1.2.2.2.2.2.2.2) a4) fun y5 =>
        (bif y5 then
          (some ((S37.mk (0 : Int) false false ([] : List Bool) false false false (0 : Int) (0 : Int)), (([] : List S64), (18 : Int))))
        else
          (bif (a4.Kind == (14 : Int)) then
            (Option.bind (F21 n (S37.mk y1.1.1 y1.1.2.1 y1.1.2.2.1 y1.2 y1.1.2.2.2.1 y1.1.2.2.2.2.1 y1.1.2.2.2.2.2.1 y1.1.2.2.2.2.2.2.1 y1.1.2.2.2.2.2.2.2) a4.Epoch) fun y6 =>
            (Option.bind (F23 n y6 a3 (15 : Int) (0 : Int)) fun y7 =>
            (bif y6.Token_Want then
              (Option.bind (F23 n { y6 with Token_Last := a3 } a3 (12 : Int) a1) fun y8 =>
              (bif (appOK (List.length [y7]) (List.length [y8]) 208) then
                (some ({ y6 with Token_Last := (-1 : Int) }, (([y7] ++ [y8]), (0 : Int))))
              else
                none))
            else
              (some ({ y6 with Token_Last := a3 }, ([y7], (0 : Int)))))))
          else
            (bif (a4.Kind == (15 : Int)) then
              (bif (bNot y1.1.2.2.1) then
                (some ((S37.mk (0 : Int) false false ([] : List Bool) false false false (0 : Int) (0 : Int)), (([] : List S64), (14 : Int))))
              else
                (bif (decide (0 ≤ a3) && decide (a3 < ((List.length y1.2 : Nat) : Int))) then
                  (Option.bind (F28 n (List.set y1.2 (Int.toNat a3) true) false) fun y9 =>
                  (bif y9 then
                    (some ((S37.mk y1.1.1 y1.1.2.1 y1.1.2.2.1 (List.set y1.2 (Int.toNat a3) true) y1.1.2.2.2.1 y1.1.2.2.2.2.1 y1.1.2.2.2.2.2.1 y1.1.2.2.2.2.2.2.1 y1.1.2.2.2.2.2.2.2), (([] : List S64), (0 : Int))))
                  else
                    (Option.bind (F22 n (S37.mk y1.1.1 y1.1.2.1 y1.1.2.2.1 (List.set y1.2 (Int.toNat a3) true) y1.1.2.2.2.1 y1.1.2.2.2.2.1 y1.1.2.2.2.2.2.1 y1.1.2.2.2.2.2.2.1 y1.1.2.2.2.2.2.2.2)) fun y10 =>
                    (some (y10.1, (y10.2, (0 : Int)))))))
                else
                  none))
            else
              (Option.bind (F29 n (S37.mk y1.1.1 y1.1.2.1 y1.1.2.2.1 y1.2 y1.1.2.2.2.1 y1.1.2.2.2.2.1 y1.1.2.2.2.2.2.1 y1.1.2.2.2.2.2.2.1 y1.1.2.2.2.2.2.2.2) a1 a2 a4) fun y11 =>
              (some (y11.1, (y11.2.1, y11.2.2)))))))))))))))
noncomputable def c13 : Co (List (EV gam) × List (Ent gam)) (S37 × (Int × (Int × (Int × S57)))) := (.pairL (.cons (.st gam 37) (.cons (.d gam (.int .i64)) (.cons (.d gam (.int .i64)) (.cons (.d gam (.int .i64)) (.consL (.st gam 57) (.nil _)))))) (.nil _))
noncomputable def r13 : Co (EV gam × List (Ent gam) × List (Ent gam)) (S37 × ((List S64) × Int)) := (.pairL (.tp (.cons (.st gam 37) (.cons (.d gam (.sl (.st 64))) (.consL (.d gam (.int .i64)) (.nil _))))) (.pairU (.nil _) (.nil _)))
noncomputable def b13 : Code := (Try.f13.body).getD .skip
noncomputable def e13 (n : Nat) : FnT gam := fnN [[none, none, none, some .bool, none, none, none, none, none], [none], [none], [none], [none, none, none, none, none, none, none, none, none, none, none, none, none, none, none, some (.st 118), some (.st 123), some (.st 126)]] (fnT [] c13 r13 (fun x => F13 n x.1 x.2.1 x.2.2.1 x.2.2.2.1 x.2.2.2.2))
noncomputable def p13 (a : List (EV gam)) (l : List (Ent gam)) : Bool := (c13.dec (nilArgs [[none, none, none, some .bool, none, none, none, none, none], [none], [none], [none], [none, none, none, none, none, none, none, none, none, none, none, none, none, none, none, some (.st 118), some (.st 123), some (.st 126)]] a, l)).isSome
noncomputable def env13 (n : Nat) : Env gam := { P := Try.prog, fns := lookU [(15, e15 n), (21, e21 n), (22, e22 n), (23, e23 n), (24, e24 n), (25, e25 n), (26, e26 n), (27, e27 n), (28, e28 n), (29, e29 n)], loops := lookU [], nt := 102, m := 0, keeps := [], eqs := [] }
theorem env13_ok (n : Nat) : EnvOK (env13 n) := .of _ rfl (by exact ⟨ok15 n, ok21 n, ok22 n, ok23 n, ok24 n, ok25 n, ok26 n, ok27 n, ok28 n, ok29 n, trivial⟩) (by exact fun t h => nomatch h) (by kernel_rfl)
theorem lin13 (n : Nat) : LoopsOK (env13 n) b13 := .of [] (by kernel_rfl) trivial
theorem eq13 (n : Nat) (x : S37 × (Int × (Int × (Int × S57)))) : (F13 n x.1 x.2.1 x.2.2.1 x.2.2.2.1 x.2.2.2.2) = fnE (env13 n) Try.f13 [[.asis, .asis, .asis, .dat .bool, .asis, .asis, .asis, .asis, .asis], [.dat (.st 64)], [.asis]] none c13 r13 x := by kernel_rfl
theorem okt13 (n : Nat) : FnOK Try.prog 13 (fnT (G := gam) [] c13 r13 (fun x => F13 n x.1 x.2.1 x.2.2.1 x.2.2.2.1 x.2.2.2.2)) := fnT_ok (env13_ok n) (by kernel_rfl) (by kernel_rfl) (by kernel_rfl) (b := b13) (by kernel_rfl) (fun x => by kernel_rfl) (lin13 n) (eq13 n)
theorem ok13 (n : Nat) : FnOK Try.prog 13 (e13 n) := fnN_ok (okt13 n)
/-! ### clusterlockslaw28.awake -/
noncomputable def F7 (n : Nat) (_ : Unit) : Option Bool :=
  (Option.bind (F14 n (0 : Int) (2 : Int)) fun y1 =>
  (Option.bind (F14 n (1 : Int) (2 : Int)) fun y2 =>
  (Option.bind (F10 n y2.1 (1 : Int) (2 : Int)) fun y3 =>
  (bif (y1.2 != (0 : Int)) then
    (some false)
  else
    (bif (y2.2 != (0 : Int)) then
      (some false)
    else
      (bif (y3.2.2 != (0 : Int)) then
        (some false)
      else
        (bif (((List.length y3.2.1 : Nat) : Int) != (1 : Int)) then
          (some false)
        else
          (Option.bind (ixo y3.2.1 (0 : Int)) fun y4 =>
          (bif (y4.Message_Epoch != (1 : Int)) then
            (some false)
          else
            (bif (bNot y3.1.Asking) then
              (some false)
            else
              (Option.bind (ixo y3.2.1 (0 : Int)) fun y5 =>
              (Option.bind (F13 n y1.1 (0 : Int) (2 : Int) (1 : Int) (S57.mk y5.Message_Kind y5.Message_Proc_Site y5.Message_Proc_Inc y5.Message_Proc_Num y5.Message_Gen y5.Message_Atom_Name y5.Message_Atom_Amount_Mode y5.Message_Atom_Amount_Units y5.Message_Priority y5.Message_Inc y5.Message_Round y5.Message_Epoch y5.Message_Site y5.Message_Label y5.Message_Done y5.Message_State_Queues y5.Message_State_Needs y5.Message_Options)) fun y6 =>
              (bif (bif (y6.2.2 != (0 : Int)) then
                true
              else
                (bif (((List.length y6.2.1 : Nat) : Int) != (1 : Int)) then
                  true
                else
                  (bif y6.1.Token_Has then true else (y6.1.Token_Last != (1 : Int))))) then
                (some false)
              else
                (Option.bind (ixo y6.2.1 (0 : Int)) fun y7 =>
                (Option.bind (F13 n y3.1 (1 : Int) (2 : Int) (0 : Int) (S57.mk y7.Message_Kind y7.Message_Proc_Site y7.Message_Proc_Inc y7.Message_Proc_Num y7.Message_Gen y7.Message_Atom_Name y7.Message_Atom_Amount_Mode y7.Message_Atom_Amount_Units y7.Message_Priority y7.Message_Inc y7.Message_Round y7.Message_Epoch y7.Message_Site y7.Message_Label y7.Message_Done y7.Message_State_Queues y7.Message_State_Needs y7.Message_Options)) fun y8 =>
                (bif (y8.2.2 == (0 : Int)) then
                  (bif y8.1.Token_Has then
                    (bif (bNot y8.1.Asking) then
                      (Option.bind (F15 n y6.1 (0 : Int) (2 : Int)) fun y9 =>
                      (bif y9 then
                        (Option.bind (F15 n y8.1 (1 : Int) (2 : Int)) fun y10 =>
                        (some y10))
                      else
                        (some false)))
                    else
                      (some false))
                  else
                    (some false))
                else
                  (some false)))))))))))))))))
noncomputable def c7 : Co (List (EV gam) × List (Ent gam)) Unit := (.pairU (.nil _) (.nil _))
noncomputable def r7 : Co (EV gam × List (Ent gam) × List (Ent gam)) Bool := (.pairL (.d gam .bool) (.pairU (.nil _) (.nil _)))
noncomputable def b7 : Code := (Try.f7.body).getD .skip
noncomputable def e7 (n : Nat) : FnT gam := fnN [] (fnT [] c7 r7 (fun x => F7 n ()))
noncomputable def p7 (a : List (EV gam)) (l : List (Ent gam)) : Bool := (c7.dec (nilArgs [] a, l)).isSome
noncomputable def env7 (n : Nat) : Env gam := { P := Try.prog, fns := lookU [(10, e10 n), (13, e13 n), (14, e14 n), (15, e15 n)], loops := lookU [], nt := 111, m := 0, keeps := [], eqs := [] }
theorem env7_ok (n : Nat) : EnvOK (env7 n) := .of _ rfl (by exact ⟨ok10 n, ok13 n, ok14 n, ok15 n, trivial⟩) (by exact fun t h => nomatch h) (by kernel_rfl)
theorem lin7 (n : Nat) : LoopsOK (env7 n) b7 := .of [] (by kernel_rfl) trivial
theorem eq7 (n : Nat) (x : Unit) : (F7 n ()) = fnE (env7 n) Try.f7 [[.asis]] none c7 r7 x := by kernel_rfl
theorem okt7 (n : Nat) : FnOK Try.prog 7 (fnT (G := gam) [] c7 r7 (fun x => F7 n ())) := fnT_ok (env7_ok n) (by kernel_rfl) (by kernel_rfl) (by kernel_rfl) (b := b7) (by kernel_rfl) (fun x => by kernel_rfl) (lin7 n) (eq7 n)
theorem ok7 (n : Nat) : FnOK Try.prog 7 (e7 n) := fnN_ok (okt7 n)
/-! ### (*clusterlocksmill.Tape).More -/
noncomputable def F16 (n : Nat) (a0 : List Int) (a1 : Int) : Option (Bool × ((List Int) × Int)) :=
  (some ((decide (a1 < ((List.length a0 : Nat) : Int))), (a0, a1)))
noncomputable def c16 : Co (List (EV gam) × List (Ent gam)) ((List Int) × Int) := (.pairU (.consU (.ptr gam 0 0) (.nil _)) (.consL (.box (.cons (.d gam (.sl (.int .i64))) (.consL (.d gam (.int .i64)) (.nil _)))) (.nil _)))
noncomputable def r16 : Co (EV gam × List (Ent gam) × List (Ent gam)) (Bool × ((List Int) × Int)) := (.pair (.d gam .bool) (.pairL (.consL (.box (.cons (.d gam (.sl (.int .i64))) (.consL (.d gam (.int .i64)) (.nil _)))) (.nil _)) (.nil _)))
noncomputable def b16 : Code := (Try.f16.body).getD .skip
noncomputable def e16 (n : Nat) : FnT gam := fnN [] (fnT [] c16 r16 (fun x => F16 n x.1 x.2))
noncomputable def p16 (a : List (EV gam)) (l : List (Ent gam)) : Bool := (c16.dec (nilArgs [] a, l)).isSome
noncomputable def env16 (n : Nat) : Env gam := { P := Try.prog, fns := lookU [], loops := lookU [], nt := 13, m := 1, keeps := [], eqs := [] }
theorem env16_ok (n : Nat) : EnvOK (env16 n) := .of _ rfl (by exact trivial) (by exact fun t h => nomatch h) (by kernel_rfl)
theorem lin16 (n : Nat) : LoopsOK (env16 n) b16 := .of [] (by kernel_rfl) trivial
theorem eq16 (n : Nat) (x : (List Int) × Int) : (F16 n x.1 x.2) = fnE (env16 n) Try.f16 [[.asis]] none c16 r16 x := by kernel_rfl
theorem okt16 (n : Nat) : FnOK Try.prog 16 (fnT (G := gam) [] c16 r16 (fun x => F16 n x.1 x.2)) := fnT_ok (env16_ok n) (by kernel_rfl) (by kernel_rfl) (by kernel_rfl) (b := b16) (by kernel_rfl) (fun x => by kernel_rfl) (lin16 n) (eq16 n)
theorem ok16 (n : Nat) : FnOK Try.prog 16 (e16 n) := fnN_ok (okt16 n)
/-! ### clusterlocksmill.Mod -/
noncomputable def F12 (n : Nat) (a0 : Int) (a1 : Int) : Option Int :=
  (bif (decide (a1 < (1 : Int))) then
    (some (0 : Int))
  else
    (bif (a1 == 0) then
      none
    else
      (bif (decide ((Int.tmod a0 a1) < (0 : Int))) then
        (some (IntKind.wrap .i64 ((Int.tmod a0 a1) + a1)))
      else
        (some (Int.tmod a0 a1)))))
noncomputable def c12 : Co (List (EV gam) × List (Ent gam)) (Int × Int) := (.pairL (.cons (.d gam (.int .i64)) (.consL (.d gam (.int .i64)) (.nil _))) (.nil _))
noncomputable def r12 : Co (EV gam × List (Ent gam) × List (Ent gam)) Int := (.pairL (.d gam (.int .i64)) (.pairU (.nil _) (.nil _)))
noncomputable def b12 : Code := (Try.f12.body).getD .skip
noncomputable def e12 (n : Nat) : FnT gam := fnN [] (fnT [] c12 r12 (fun x => F12 n x.1 x.2))
noncomputable def p12 (a : List (EV gam)) (l : List (Ent gam)) : Bool := (c12.dec (nilArgs [] a, l)).isSome
noncomputable def env12 (n : Nat) : Env gam := { P := Try.prog, fns := lookU [], loops := lookU [], nt := 16, m := 0, keeps := [], eqs := [] }
theorem env12_ok (n : Nat) : EnvOK (env12 n) := .of _ rfl (by exact trivial) (by exact fun t h => nomatch h) (by kernel_rfl)
theorem lin12 (n : Nat) : LoopsOK (env12 n) b12 := .of [] (by kernel_rfl) trivial
theorem eq12 (n : Nat) (x : Int × Int) : (F12 n x.1 x.2) = fnE (env12 n) Try.f12 [[.asis]] none c12 r12 x := by kernel_rfl
theorem okt12 (n : Nat) : FnOK Try.prog 12 (fnT (G := gam) [] c12 r12 (fun x => F12 n x.1 x.2)) := fnT_ok (env12_ok n) (by kernel_rfl) (by kernel_rfl) (by kernel_rfl) (b := b12) (by kernel_rfl) (fun x => by kernel_rfl) (lin12 n) (eq12 n)
theorem ok12 (n : Nat) : FnOK Try.prog 12 (e12 n) := fnN_ok (okt12 n)
/-! ### (*clusterlocksmill.Tape).Next -/
noncomputable def F18 (n : Nat) (a0 : Int) (a1 : List Int) (a2 : Int) : Option (Int × ((List Int) × Int)) :=
  (bif (decide (a2 ≥ ((List.length a1 : Nat) : Int))) then
    (some ((0 : Int), (a1, a2)))
  else
    (Option.bind (ixo a1 (IntKind.wrap .i64 ((IntKind.wrap .i64 (a2 + (1 : Int))) - (1 : Int)))) fun y1 =>
    (Option.bind (F12 n y1 a0) fun y2 =>
    (some (y2, (a1, (IntKind.wrap .i64 (a2 + (1 : Int)))))))))
noncomputable def c18 : Co (List (EV gam) × List (Ent gam)) (Int × ((List Int) × Int)) := (.pair (.consU (.ptr gam 0 0) (.consL (.d gam (.int .i64)) (.nil _))) (.consL (.box (.cons (.d gam (.sl (.int .i64))) (.consL (.d gam (.int .i64)) (.nil _)))) (.nil _)))
noncomputable def r18 : Co (EV gam × List (Ent gam) × List (Ent gam)) (Int × ((List Int) × Int)) := (.pair (.d gam (.int .i64)) (.pairL (.consL (.box (.cons (.d gam (.sl (.int .i64))) (.consL (.d gam (.int .i64)) (.nil _)))) (.nil _)) (.nil _)))
noncomputable def b18 : Code := (Try.f18.body).getD .skip
noncomputable def e18 (n : Nat) : FnT gam := fnN [] (fnT [] c18 r18 (fun x => F18 n x.1 x.2.1 x.2.2))
noncomputable def p18 (a : List (EV gam)) (l : List (Ent gam)) : Bool := (c18.dec (nilArgs [] a, l)).isSome
noncomputable def env18 (n : Nat) : Env gam := { P := Try.prog, fns := lookU [(12, e12 n)], loops := lookU [], nt := 35, m := 1, keeps := [], eqs := [] }
theorem env18_ok (n : Nat) : EnvOK (env18 n) := .of _ rfl (by exact ⟨ok12 n, trivial⟩) (by exact fun t h => nomatch h) (by kernel_rfl)
theorem lin18 (n : Nat) : LoopsOK (env18 n) b18 := .of [] (by kernel_rfl) trivial
theorem eq18 (n : Nat) (x : Int × ((List Int) × Int)) : (F18 n x.1 x.2.1 x.2.2) = fnE (env18 n) Try.f18 [[.asis]] none c18 r18 x := by kernel_rfl
theorem okt18 (n : Nat) : FnOK Try.prog 18 (fnT (G := gam) [] c18 r18 (fun x => F18 n x.1 x.2.1 x.2.2)) := fnT_ok (env18_ok n) (by kernel_rfl) (by kernel_rfl) (by kernel_rfl) (b := b18) (by kernel_rfl) (fun x => by kernel_rfl) (lin18 n) (eq18 n)
theorem ok18 (n : Nat) : FnOK Try.prog 18 (e18 n) := fnN_ok (okt18 n)
/-! ### (*clusterlockslaw28.cluster).take -/
noncomputable def S11_0 (n : Nat) (L : Int → (List S64) → Int → Int → Nat → (List (List (List S57))) → (List S37) → (List Bool) → Option ((Nat × ((List (List (List S57))) × ((List S37) × (List Bool)))) ⊕ (Bool × (Nat × ((List (List (List S57))) × ((List S37) × (List Bool))))))) (a0 : Int) (a1 : List S64) (a2 : Int) (a3 : Int) (a4 : Nat) (a5 : List (List (List S57))) (a6 : List S37) (a7 : List Bool) : Option ((Nat × ((List (List (List S57))) × ((List S37) × (List Bool)))) ⊕ (Bool × (Nat × ((List (List (List S57))) × ((List S37) × (List Bool)))))) :=
  (bif (decide (a3 < a2)) then
    (Option.bind (ixo a1 a3) fun y1 =>
    (bif (bif (decide (y1.To < (0 : Int))) then
      true
    else
      (bif (decide (y1.To ≥ ((List.length a6 : Nat) : Int))) then true else (y1.To == a0))) then
      (some (.inr (false, (a4, (a5, (a6, a7))))))
    else
      (bif (decide (0 ≤ a0) && decide (a0 < ((a4 : Nat) : Int))) then
        (bif (decide (0 ≤ a0) && decide (a0 < ((a4 : Nat) : Int))) then
          (Option.bind (a5[(Int.toNat a0)]?) fun y2 =>
          (bif (decide (0 ≤ y1.To) && decide (y1.To < ((List.length y2 : Nat) : Int))) then
            (Option.bind (a5[(Int.toNat a0)]?) fun y3 =>
            (Option.bind (y3[(Int.toNat y1.To)]?) fun y4 =>
            (bif (appOK (List.length y4) (List.length [(S57.mk y1.Message_Kind y1.Message_Proc_Site y1.Message_Proc_Inc y1.Message_Proc_Num y1.Message_Gen y1.Message_Atom_Name y1.Message_Atom_Amount_Mode y1.Message_Atom_Amount_Units y1.Message_Priority y1.Message_Inc y1.Message_Round y1.Message_Epoch y1.Message_Site y1.Message_Label y1.Message_Done y1.Message_State_Queues y1.Message_State_Needs y1.Message_Options)]) 200) then
              (Option.bind (a5[(Int.toNat a0)]?) fun y5 =>
              (bif (decide (0 ≤ y1.To) && decide (y1.To < ((List.length y5 : Nat) : Int))) then
                (bif ((Nat.beq (Int.toNat a0) (Int.toNat a0) && Nat.beq (Int.toNat y1.To) (Int.toNat y1.To)) && true) then
                  (L a0 a1 a2 (IntKind.wrap .i64 (a3 + (1 : Int))) a4 (List.set a5 (Int.toNat a0) (List.set y3 (Int.toNat y1.To) (y4 ++ [(S57.mk y1.Message_Kind y1.Message_Proc_Site y1.Message_Proc_Inc y1.Message_Proc_Num y1.Message_Gen y1.Message_Atom_Name y1.Message_Atom_Amount_Mode y1.Message_Atom_Amount_Units y1.Message_Priority y1.Message_Inc y1.Message_Round y1.Message_Epoch y1.Message_Site y1.Message_Label y1.Message_Done y1.Message_State_Queues y1.Message_State_Needs y1.Message_Options)]))) a6 a7)
                else
                  none)
              else
                none))
            else
              none)))
          else
            none))
        else
          none)
      else
        none)))
  else
    (some (.inl (a4, (a5, (a6, a7))))))
noncomputable def U11_0 (n : Nat) (L : ((Int × ((List S64) × (Int × Int))) × (Nat × ((List (List (List S57))) × ((List S37) × (List Bool))))) → Option ((Nat × ((List (List (List S57))) × ((List S37) × (List Bool)))) ⊕ (Bool × (Nat × ((List (List (List S57))) × ((List S37) × (List Bool))))))) (x : (Int × ((List S64) × (Int × Int))) × (Nat × ((List (List (List S57))) × ((List S37) × (List Bool))))) : Option ((Nat × ((List (List (List S57))) × ((List S37) × (List Bool)))) ⊕ (Bool × (Nat × ((List (List (List S57))) × ((List S37) × (List Bool)))))) := S11_0 n (fun a0 a1 a2 a3 a4 a5 a6 a7 => L ((a0, (a1, (a2, a3))), (a4, (a5, (a6, a7))))) x.1.1 x.1.2.1 x.1.2.2.1 x.1.2.2.2 x.2.1 x.2.2.1 x.2.2.2.1 x.2.2.2.2
noncomputable def L11_0 (n : Nat) (a0 : Int) (a1 : List S64) (a2 : Int) (a3 : Int) (a4 : Nat) (a5 : List (List (List S57))) (a6 : List S37) (a7 : List Bool) : Option ((Nat × ((List (List (List S57))) × ((List S37) × (List Bool)))) ⊕ (Bool × (Nat × ((List (List (List S57))) × ((List S37) × (List Bool)))))) := iter (U11_0 n) n ((a0, (a1, (a2, a3))), (a4, (a5, (a6, a7))))
noncomputable def F11 (n : Nat) (a0 : Int) (a1 : S37) (a2 : List S64) (a3 : Nat) (a4 : List S37) (a5 : List Bool) (a6 : List (List (List S57))) : Option (Bool × (Nat × ((List S37) × ((List Bool) × (List (List (List S57))))))) :=
  (bif (decide (0 ≤ a0) && decide (a0 < ((List.length a4 : Nat) : Int))) then
    (Option.bind (L11_0 n a0 a2 ((List.length a2 : Nat) : Int) (0 : Int) a3 a6 (List.set a4 (Int.toNat a0) a1) a5) fun y1 =>
    (Sum.elim (fun y2 => (some (true, (y2.1, (y2.2.2.1, (y2.2.2.2, y2.2.1)))))) (fun y3 => (some (y3.1, (y3.2.1, (y3.2.2.2.1, (y3.2.2.2.2, y3.2.2.1)))))) y1))
  else
    none)
noncomputable def c11 : Co (List (EV gam) × List (Ent gam)) ((Int × (S37 × (List S64))) × (Nat × ((List S37) × ((List Bool) × (List (List (List S57))))))) := (.pair (.consU (.ptr gam 0 0) (.cons (.d gam (.int .i64)) (.cons (.st gam 37) (.consL (.d gam (.sl (.st 64))) (.nil _))))) (.cons (.box (.consU (.ow gam 1) (.consU (.ow gam 2) (.consL (.spn gam 3) (.nil _))))) (.cons (.row gam (.st 37) 0) (.cons (.row gam .bool 0) (.consL (.tree gam false (.st 57)) (.nil _))))))
noncomputable def r11 : Co (EV gam × List (Ent gam) × List (Ent gam)) (Bool × (Nat × ((List S37) × ((List Bool) × (List (List (List S57))))))) := (.pair (.d gam .bool) (.pairL (.cons (.box (.consU (.ow gam 1) (.consU (.ow gam 2) (.consL (.spn gam 3) (.nil _))))) (.cons (.row gam (.st 37) 0) (.cons (.row gam .bool 0) (.consL (.tree gam false (.st 57)) (.nil _))))) (.nil _)))
noncomputable def b11 : Code := (Try.f11.body).getD .skip
noncomputable def b11_0 : Code := (loopsIn b11).getD 0 .skip
noncomputable def kp11_0 : Keep := { slots := [0, 1, 18, 19, 20], rows := [((0, some 0), 1, (.st 37)), ((0, some 1), 2, .bool)], boxes := [0, 3], tombs := [] }
noncomputable def c11_0 : Co (List (EV gam) × List (Ent gam)) ((Int × ((List S64) × (Int × Int))) × (Nat × ((List (List (List S57))) × ((List S37) × (List Bool))))) := (.pair (.consU (.ptr gam 0 0) (.cons (.d gam (.int .i64)) (.cons (.d gam (.sl (.st 64))) (.cons (.d gam (.int .i64)) (.consL (.d gam (.int .i64)) (.nil _)))))) (.cons (.box (.consU (.ow gam 1) (.consU (.ow gam 2) (.consL (.spn gam 3) (.nil _))))) (.cons (.tree gam false (.st 57)) (.cons (.row gam (.st 37) 0) (.consL (.row gam .bool 0) (.nil _))))))
noncomputable def x11_0 : Xc gam ((Nat × ((List (List (List S57))) × ((List S37) × (List Bool)))) ⊕ (Bool × (Nat × ((List (List (List S57))) × ((List S37) × (List Bool)))))) := (.or (.one (.exit 0) { slots := [], rows := [((0, some 0), 1, (.st 37)), ((0, some 1), 2, .bool)], boxes := [0, 3], tombs := [] } (.pairU (.nil _) (.cons (.box (.consU (.ow gam 1) (.consU (.ow gam 2) (.consL (.spn gam 3) (.nil _))))) (.cons (.tree gam false (.st 57)) (.cons (.row gam (.st 37) 0) (.consL (.row gam .bool 0) (.nil _))))))) (.one .ret { slots := [8], rows := [((0, some 0), 1, (.st 37)), ((0, some 1), 2, .bool)], boxes := [0, 3], tombs := [] } (.pair (.consL (.d gam .bool) (.nil _)) (.cons (.box (.consU (.ow gam 1) (.consU (.ow gam 2) (.consL (.spn gam 3) (.nil _))))) (.cons (.tree gam false (.st 57)) (.cons (.row gam (.st 37) 0) (.consL (.row gam .bool 0) (.nil _))))))))
noncomputable def t11_0 (n : Nat) : LoopT gam := loopT kp11_0 c11_0 x11_0 (iter (U11_0 n) n)
noncomputable def e11 (n : Nat) : FnT gam := fnN [[], [none], [none, none, none, some .bool, none, none, none, none, none], [some (.st 64)]] (fnT [] c11 r11 (fun x => F11 n x.1.1 x.1.2.1 x.1.2.2 x.2.1 x.2.2.1 x.2.2.2.1 x.2.2.2.2))
noncomputable def p11 (a : List (EV gam)) (l : List (Ent gam)) : Bool := (c11.dec (nilArgs [[], [none], [none, none, none, some .bool, none, none, none, none, none], [some (.st 64)]] a, l)).isSome
noncomputable def env11 (n : Nat) : Env gam := { P := Try.prog, fns := lookU [], loops := lookU [(3, t11_0 n)], nt := 69, m := 4, keeps := [], eqs := [], tr := true }
theorem env11_ok (n : Nat) : EnvOK (env11 n) := .of _ rfl (by exact trivial) (by exact fun t h => nomatch h) (by kernel_rfl)
theorem lin11_0 (n : Nat) : LoopsOK (env11 n) b11_0 := .of [] (by kernel_rfl) trivial
theorem lok11_0 (n : Nat) : LoopOK (env11 n) b11_0 (t11_0 n) := loopT_ok (env11_ok n) (lin11_0 n) (fun L x => by kernel_rfl) n
theorem lin11 (n : Nat) : LoopsOK (env11 n) b11 := .of [(b11_0, 3, t11_0 n)] (by kernel_rfl) ⟨by kernel_rfl, by kernel_rfl, lok11_0 n, trivial⟩
theorem eq11 (n : Nat) (x : (Int × (S37 × (List S64))) × (Nat × ((List S37) × ((List Bool) × (List (List (List S57))))))) : (F11 n x.1.1 x.1.2.1 x.1.2.2 x.2.1 x.2.2.1 x.2.2.2.1 x.2.2.2.2) = fnE (env11 n) Try.f11 [[.asis]] none c11 r11 x := by kernel_rfl
theorem okt11 (n : Nat) : FnOK Try.prog 11 (fnT (G := gam) [] c11 r11 (fun x => F11 n x.1.1 x.1.2.1 x.1.2.2 x.2.1 x.2.2.1 x.2.2.2.1 x.2.2.2.2)) := fnT_ok (env11_ok n) (by kernel_rfl) (by kernel_rfl) (by kernel_rfl) (b := b11) (by kernel_rfl) (fun x => by kernel_rfl) (lin11 n) (eq11 n)
theorem ok11 (n : Nat) : FnOK Try.prog 11 (e11 n) := fnN_ok (okt11 n)
/-! ### (*clusterlockslaw28.cluster).deliver -/
noncomputable def F20 (n : Nat) (a0 : Int) (a1 : Int) (a2 : Nat) (a3 : List S37) (a4 : List Bool) (a5 : List (List (List S57))) : Option (Bool × (Nat × ((List S37) × ((List Bool) × (List (List (List S57))))))) :=
  (bif (decide (0 ≤ a0) && decide (a0 < ((a2 : Nat) : Int))) then
    (Option.bind (a5[(Int.toNat a0)]?) fun y1 =>
    (bif (decide (0 ≤ a1) && decide (a1 < ((List.length y1 : Nat) : Int))) then
      (Option.bind (a5[(Int.toNat a0)]?) fun y2 =>
      (Option.bind (y2[(Int.toNat a1)]?) fun y3 =>
      (bif (decide (0 ≤ (0 : Int)) && decide ((0 : Int) < ((List.length y3 : Nat) : Int))) then
        (Option.bind (y3[(Int.toNat (0 : Int))]?) fun y4 =>
        (bif (decide (0 ≤ a0) && decide (a0 < ((a2 : Nat) : Int))) then
          (bif (decide (0 ≤ a0) && decide (a0 < ((a2 : Nat) : Int))) then
            (Option.bind ((List.set a5 (Int.toNat a0) (List.set y2 (Int.toNat a1) y3))[(Int.toNat a0)]?) fun y5 =>
            (bif (decide (0 ≤ a1) && decide (a1 < ((List.length y5 : Nat) : Int))) then
              (Option.bind ((List.set a5 (Int.toNat a0) (List.set y2 (Int.toNat a1) y3))[(Int.toNat a0)]?) fun y6 =>
              (Option.bind (y6[(Int.toNat a1)]?) fun y7 =>
              (bif (boundsE (List.length y7) (some (1 : Int)) none) then
                (Option.bind ((List.set a5 (Int.toNat a0) (List.set y2 (Int.toNat a1) y3))[(Int.toNat a0)]?) fun y8 =>
                (bif (decide (0 ≤ a1) && decide (a1 < ((List.length y8 : Nat) : Int))) then
                  (bif ((Nat.beq (Int.toNat a0) (Int.toNat a0) && Nat.beq (Int.toNat a1) (Int.toNat a1)) && true) then
                    (bif (decide (0 ≤ a1) && decide (a1 < ((List.length a3 : Nat) : Int))) then
                      (Option.bind (a3[(Int.toNat a1)]?) fun y9 =>
                      (Option.bind (F13 n y9 a1 ((List.length a3 : Nat) : Int) a0 y4) fun y10 =>
                      (bif (y10.2.2 != (0 : Int)) then
                        (some ((bif (y10.2.2 != (2 : Int)) then (y10.2.2 != (1 : Int)) else false), (a2, (a3, (a4, (List.set (List.set a5 (Int.toNat a0) (List.set y2 (Int.toNat a1) y3)) (Int.toNat a0) (List.set y6 (Int.toNat a1) (List.take ((List.length y7) - (Int.toNat (1 : Int))) (List.drop (Int.toNat (1 : Int)) y7)))))))))
                      else
                        (Option.bind (F11 n a1 y10.1 y10.2.1 a2 a3 a4 (List.set (List.set a5 (Int.toNat a0) (List.set y2 (Int.toNat a1) y3)) (Int.toNat a0) (List.set y6 (Int.toNat a1) (List.take ((List.length y7) - (Int.toNat (1 : Int))) (List.drop (Int.toNat (1 : Int)) y7))))) fun y11 =>
                        (some (y11.1, (y11.2.1, (y11.2.2.1, (y11.2.2.2.1, y11.2.2.2.2)))))))))
                    else
                      none)
                  else
                    none)
                else
                  none))
              else
                none)))
            else
              none))
          else
            none)
        else
          none))
      else
        none)))
    else
      none))
  else
    none)
noncomputable def c20 : Co (List (EV gam) × List (Ent gam)) ((Int × Int) × (Nat × ((List S37) × ((List Bool) × (List (List (List S57))))))) := (.pair (.consU (.ptr gam 0 0) (.cons (.d gam (.int .i64)) (.consL (.d gam (.int .i64)) (.nil _)))) (.cons (.box (.consU (.ow gam 1) (.consU (.ow gam 2) (.consL (.spn gam 3) (.nil _))))) (.cons (.row gam (.st 37) 0) (.cons (.row gam .bool 0) (.consL (.tree gam false (.st 57)) (.nil _))))))
noncomputable def r20 : Co (EV gam × List (Ent gam) × List (Ent gam)) (Bool × (Nat × ((List S37) × ((List Bool) × (List (List (List S57))))))) := (.pair (.d gam .bool) (.pairL (.cons (.box (.consU (.ow gam 1) (.consU (.ow gam 2) (.consL (.spn gam 3) (.nil _))))) (.cons (.row gam (.st 37) 0) (.cons (.row gam .bool 0) (.consL (.tree gam false (.st 57)) (.nil _))))) (.nil _)))
noncomputable def b20 : Code := (Try.f20.body).getD .skip
noncomputable def e20 (n : Nat) : FnT gam := fnN [] (fnT [] c20 r20 (fun x => F20 n x.1.1 x.1.2 x.2.1 x.2.2.1 x.2.2.2.1 x.2.2.2.2))
noncomputable def p20 (a : List (EV gam)) (l : List (Ent gam)) : Bool := (c20.dec (nilArgs [] a, l)).isSome
noncomputable def env20 (n : Nat) : Env gam := { P := Try.prog, fns := lookU [(11, e11 n), (13, e13 n)], loops := lookU [], nt := 76, m := 4, keeps := [], eqs := [], tr := true }
theorem env20_ok (n : Nat) : EnvOK (env20 n) := .of _ rfl (by exact ⟨ok11 n, ok13 n, trivial⟩) (by exact fun t h => nomatch h) (by kernel_rfl)
theorem lin20 (n : Nat) : LoopsOK (env20 n) b20 := .of [] (by kernel_rfl) trivial
theorem eq20 (n : Nat) (x : (Int × Int) × (Nat × ((List S37) × ((List Bool) × (List (List (List S57))))))) : (F20 n x.1.1 x.1.2 x.2.1 x.2.2.1 x.2.2.2.1 x.2.2.2.2) = fnE (env20 n) Try.f20 [[.asis]] none c20 r20 x := by kernel_rfl
theorem okt20 (n : Nat) : FnOK Try.prog 20 (fnT (G := gam) [] c20 r20 (fun x => F20 n x.1.1 x.1.2 x.2.1 x.2.2.1 x.2.2.2.1 x.2.2.2.2)) := fnT_ok (env20_ok n) (by kernel_rfl) (by kernel_rfl) (by kernel_rfl) (b := b20) (by kernel_rfl) (fun x => by kernel_rfl) (lin20 n) (eq20 n)
theorem ok20 (n : Nat) : FnOK Try.prog 20 (e20 n) := fnN_ok (okt20 n)
/-! ### regen.Restart -/
noncomputable def F34 (n : Nat) (a0 : Int) (a1 : Int) (a2 : Int) : Option (S37 × Int) :=
  (Option.bind (F31 n a0 a1) fun y1 =>
  (bif (bNot y1) then
    (some ((S37.mk (0 : Int) false false ([] : List Bool) false false false (0 : Int) (0 : Int)), (1 : Int)))
  else
    (bif (decide (a2 < (0 : Int))) then
      (some ((S37.mk (0 : Int) false false ([] : List Bool) false false false (0 : Int) (0 : Int)), (1 : Int)))
    else
      (bif (decide (a2 > (1073741824 : Int))) then
        (some ((S37.mk (0 : Int) false false ([] : List Bool) false false false (0 : Int) (0 : Int)), (1 : Int)))
      else
        (Option.bind (F32 n ()) fun y2 =>
        (some ((S37.mk a2 true false ([] : List Bool) y2.Has y2.Want y2.Using y2.Last y2.Next), (0 : Int))))))))
noncomputable def c34 : Co (List (EV gam) × List (Ent gam)) (Int × (Int × Int)) := (.pairL (.cons (.d gam (.int .i64)) (.cons (.d gam (.int .i64)) (.consL (.d gam (.int .i64)) (.nil _)))) (.nil _))
noncomputable def r34 : Co (EV gam × List (Ent gam) × List (Ent gam)) (S37 × Int) := (.pairL (.tp (.cons (.st gam 37) (.consL (.d gam (.int .i64)) (.nil _)))) (.pairU (.nil _) (.nil _)))
noncomputable def b34 : Code := (Try.f34.body).getD .skip
noncomputable def e34 (n : Nat) : FnT gam := fnN [] (fnT [] c34 r34 (fun x => F34 n x.1 x.2.1 x.2.2))
noncomputable def p34 (a : List (EV gam)) (l : List (Ent gam)) : Bool := (c34.dec (nilArgs [] a, l)).isSome
noncomputable def env34 (n : Nat) : Env gam := { P := Try.prog, fns := lookU [(31, e31 n), (32, e32 n)], loops := lookU [], nt := 24, m := 0, keeps := [], eqs := [] }
theorem env34_ok (n : Nat) : EnvOK (env34 n) := .of _ rfl (by exact ⟨ok31 n, ok32 n, trivial⟩) (by exact fun t h => nomatch h) (by kernel_rfl)
theorem lin34 (n : Nat) : LoopsOK (env34 n) b34 := .of [] (by kernel_rfl) trivial
theorem eq34 (n : Nat) (x : Int × (Int × Int)) : (F34 n x.1 x.2.1 x.2.2) = fnE (env34 n) Try.f34 [[.asis, .asis, .asis, .dat .bool, .asis, .asis, .asis, .asis, .asis], [.asis]] none c34 r34 x := by kernel_rfl
theorem okt34 (n : Nat) : FnOK Try.prog 34 (fnT (G := gam) [] c34 r34 (fun x => F34 n x.1 x.2.1 x.2.2)) := fnT_ok (env34_ok n) (by kernel_rfl) (by kernel_rfl) (by kernel_rfl) (b := b34) (by kernel_rfl) (fun x => by kernel_rfl) (lin34 n) (eq34 n)
theorem ok34 (n : Nat) : FnOK Try.prog 34 (e34 n) := fnN_ok (okt34 n)
/-! ### token.Done -/
noncomputable def F42 (n : Nat) (a0 : S35) (a1 : Int) (a2 : Int) (a3 : Int) : Option (S35 × ((List S64) × Int)) :=
  (Option.bind (F33 n a0 a1 a2) fun y1 =>
  (bif (bNot y1) then
    (some ((S35.mk false false false (0 : Int) (0 : Int)), (([] : List S64), (2 : Int))))
  else
    (bif (bif (decide (a3 < (0 : Int))) then true else (decide (a3 > (1073741824 : Int)))) then
      (some ((S35.mk false false false (0 : Int) (0 : Int)), (([] : List S64), (1 : Int))))
    else
      (bif (bNot a0.Using) then
        (some ((S35.mk false false false (0 : Int) (0 : Int)), (([] : List S64), (14 : Int))))
      else
        (bif (a0.Next == (-1 : Int)) then
          (some ({ a0 with Using := false }, (([] : List S64), (0 : Int))))
        else
          (Option.bind (F44 n a3) fun y2 =>
          (Option.bind (F46 n a0.Next y2) fun y3 =>
          (some ((S35.mk false a0.Want false a0.Last (-1 : Int)), ([y3.1], (0 : Int)))))))))))
noncomputable def c42 : Co (List (EV gam) × List (Ent gam)) (S35 × (Int × (Int × Int))) := (.pairL (.cons (.st gam 35) (.cons (.d gam (.int .i64)) (.cons (.d gam (.int .i64)) (.consL (.d gam (.int .i64)) (.nil _))))) (.nil _))
noncomputable def r42 : Co (EV gam × List (Ent gam) × List (Ent gam)) (S35 × ((List S64) × Int)) := (.pairL (.tp (.cons (.st gam 35) (.cons (.d gam (.sl (.st 64))) (.consL (.d gam (.int .i64)) (.nil _))))) (.pairU (.nil _) (.nil _)))
noncomputable def b42 : Code := (Try.f42.body).getD .skip
noncomputable def e42 (n : Nat) : FnT gam := fnN [] (fnT [] c42 r42 (fun x => F42 n x.1 x.2.1 x.2.2.1 x.2.2.2))
noncomputable def p42 (a : List (EV gam)) (l : List (Ent gam)) : Bool := (c42.dec (nilArgs [] a, l)).isSome
noncomputable def env42 (n : Nat) : Env gam := { P := Try.prog, fns := lookU [(33, e33 n), (44, e44 n), (46, e46 n)], loops := lookU [], nt := 48, m := 0, keeps := [], eqs := [] }
theorem env42_ok (n : Nat) : EnvOK (env42 n) := .of _ rfl (by exact ⟨ok33 n, ok44 n, ok46 n, trivial⟩) (by exact fun t h => nomatch h) (by kernel_rfl)
theorem lin42 (n : Nat) : LoopsOK (env42 n) b42 := .of [] (by kernel_rfl) trivial
theorem eq42 (n : Nat) (x : S35 × (Int × (Int × Int))) : (F42 n x.1 x.2.1 x.2.2.1 x.2.2.2) = fnE (env42 n) Try.f42 [[.asis, .asis, .asis, .asis, .asis], [.dat (.st 64)], [.asis]] none c42 r42 x := by kernel_rfl
theorem okt42 (n : Nat) : FnOK Try.prog 42 (fnT (G := gam) [] c42 r42 (fun x => F42 n x.1 x.2.1 x.2.2.1 x.2.2.2)) := fnT_ok (env42_ok n) (by kernel_rfl) (by kernel_rfl) (by kernel_rfl) (b := b42) (by kernel_rfl) (fun x => by kernel_rfl) (lin42 n) (eq42 n)
theorem ok42 (n : Nat) : FnOK Try.prog 42 (e42 n) := fnN_ok (okt42 n)
/-! ### regen.Done -/
noncomputable def F35 (n : Nat) (a0 : S37) (a1 : Int) (a2 : Int) : Option (S37 × ((List S64) × Int)) :=
  (Option.bind (F24 n a0) fun y1 =>
  (Option.bind (F15 n (S37.mk y1.1.1 y1.1.2.1 y1.1.2.2.1 y1.2 y1.1.2.2.2.1 y1.1.2.2.2.2.1 y1.1.2.2.2.2.2.1 y1.1.2.2.2.2.2.2.1 y1.1.2.2.2.2.2.2.2) a1 a2) fun y2 =>
  (bif (bNot y2) then
    (some ((S37.mk (0 : Int) false false ([] : List Bool) false false false (0 : Int) (0 : Int)), (([] : List S64), (2 : Int))))
  else
    (bif (bNot y1.1.2.2.2.2.2.1) then
      (some ((S37.mk (0 : Int) false false ([] : List Bool) false false false (0 : Int) (0 : Int)), (([] : List S64), (14 : Int))))
    else
      (Option.bind (F42 n (S35.mk y1.1.2.2.2.1 y1.1.2.2.2.2.1 y1.1.2.2.2.2.2.1 y1.1.2.2.2.2.2.2.1 y1.1.2.2.2.2.2.2.2) a1 a2 y1.1.1) fun y3 =>
      (bif (y3.2.2 != (0 : Int)) then
        (some ((S37.mk (0 : Int) false false ([] : List Bool) false false false (0 : Int) (0 : Int)), (([] : List S64), y3.2.2)))
      else
        (some ((S37.mk y1.1.1 y1.1.2.1 y1.1.2.2.1 y1.2 y3.1.Has y3.1.Want y3.1.Using y3.1.Last y3.1.Next), (y3.2.1, (0 : Int))))))))))
noncomputable def c35 : Co (List (EV gam) × List (Ent gam)) (S37 × (Int × Int)) := (.pairL (.cons (.st gam 37) (.cons (.d gam (.int .i64)) (.consL (.d gam (.int .i64)) (.nil _)))) (.nil _))
noncomputable def r35 : Co (EV gam × List (Ent gam) × List (Ent gam)) (S37 × ((List S64) × Int)) := (.pairL (.tp (.cons (.st gam 37) (.cons (.d gam (.sl (.st 64))) (.consL (.d gam (.int .i64)) (.nil _))))) (.pairU (.nil _) (.nil _)))
noncomputable def b35 : Code := (Try.f35.body).getD .skip
noncomputable def e35 (n : Nat) : FnT gam := fnN [[none, none, none, some .bool, none, none, none, none, none]] (fnT [] c35 r35 (fun x => F35 n x.1 x.2.1 x.2.2))
noncomputable def p35 (a : List (EV gam)) (l : List (Ent gam)) : Bool := (c35.dec (nilArgs [[none, none, none, some .bool, none, none, none, none, none]] a, l)).isSome
noncomputable def env35 (n : Nat) : Env gam := { P := Try.prog, fns := lookU [(15, e15 n), (24, e24 n), (42, e42 n)], loops := lookU [], nt := 46, m := 0, keeps := [], eqs := [] }
theorem env35_ok (n : Nat) : EnvOK (env35 n) := .of _ rfl (by exact ⟨ok15 n, ok24 n, ok42 n, trivial⟩) (by exact fun t h => nomatch h) (by kernel_rfl)
theorem lin35 (n : Nat) : LoopsOK (env35 n) b35 := .of [] (by kernel_rfl) trivial
theorem eq35 (n : Nat) (x : S37 × (Int × Int)) : (F35 n x.1 x.2.1 x.2.2) = fnE (env35 n) Try.f35 [[.asis, .asis, .asis, .dat .bool, .asis, .asis, .asis, .asis, .asis], [.dat (.st 64)], [.asis]] none c35 r35 x := by kernel_rfl
theorem okt35 (n : Nat) : FnOK Try.prog 35 (fnT (G := gam) [] c35 r35 (fun x => F35 n x.1 x.2.1 x.2.2)) := fnT_ok (env35_ok n) (by kernel_rfl) (by kernel_rfl) (by kernel_rfl) (b := b35) (by kernel_rfl) (fun x => by kernel_rfl) (lin35 n) (eq35 n)
theorem ok35 (n : Nat) : FnOK Try.prog 35 (e35 n) := fnN_ok (okt35 n)
/-! ### token.Want -/
noncomputable def F43 (n : Nat) (a0 : S35) (a1 : Int) (a2 : Int) (a3 : Int) : Option (S35 × ((List S64) × Int)) :=
  (Option.bind (F33 n a0 a1 a2) fun y1 =>
  (bif (bNot y1) then
    (some ((S35.mk false false false (0 : Int) (0 : Int)), (([] : List S64), (2 : Int))))
  else
    (bif (bif (decide (a3 < (0 : Int))) then true else (decide (a3 > (1073741824 : Int)))) then
      (some ((S35.mk false false false (0 : Int) (0 : Int)), (([] : List S64), (1 : Int))))
    else
      (bif (bif a0.Using then true else a0.Want) then
        (some ((S35.mk false false false (0 : Int) (0 : Int)), (([] : List S64), (14 : Int))))
      else
        (bif a0.Has then
          (some ({ a0 with Using := true }, (([] : List S64), (0 : Int))))
        else
          (Option.bind (F44 n a3) fun y2 =>
          (Option.bind (F45 n a0.Last a1 y2) fun y3 =>
          (some ({ a0 with Want := true, Last := (-1 : Int) }, ([y3.1], (0 : Int)))))))))))
noncomputable def c43 : Co (List (EV gam) × List (Ent gam)) (S35 × (Int × (Int × Int))) := (.pairL (.cons (.st gam 35) (.cons (.d gam (.int .i64)) (.cons (.d gam (.int .i64)) (.consL (.d gam (.int .i64)) (.nil _))))) (.nil _))
noncomputable def r43 : Co (EV gam × List (Ent gam) × List (Ent gam)) (S35 × ((List S64) × Int)) := (.pairL (.tp (.cons (.st gam 35) (.cons (.d gam (.sl (.st 64))) (.consL (.d gam (.int .i64)) (.nil _))))) (.pairU (.nil _) (.nil _)))
noncomputable def b43 : Code := (Try.f43.body).getD .skip
noncomputable def e43 (n : Nat) : FnT gam := fnN [] (fnT [] c43 r43 (fun x => F43 n x.1 x.2.1 x.2.2.1 x.2.2.2))
noncomputable def p43 (a : List (EV gam)) (l : List (Ent gam)) : Bool := (c43.dec (nilArgs [] a, l)).isSome
noncomputable def env43 (n : Nat) : Env gam := { P := Try.prog, fns := lookU [(33, e33 n), (44, e44 n), (45, e45 n)], loops := lookU [], nt := 52, m := 0, keeps := [], eqs := [] }
theorem env43_ok (n : Nat) : EnvOK (env43 n) := .of _ rfl (by exact ⟨ok33 n, ok44 n, ok45 n, trivial⟩) (by exact fun t h => nomatch h) (by kernel_rfl)
theorem lin43 (n : Nat) : LoopsOK (env43 n) b43 := .of [] (by kernel_rfl) trivial
theorem eq43 (n : Nat) (x : S35 × (Int × (Int × Int))) : (F43 n x.1 x.2.1 x.2.2.1 x.2.2.2) = fnE (env43 n) Try.f43 [[.asis, .asis, .asis, .asis, .asis], [.dat (.st 64)], [.asis]] none c43 r43 x := by kernel_rfl
theorem okt43 (n : Nat) : FnOK Try.prog 43 (fnT (G := gam) [] c43 r43 (fun x => F43 n x.1 x.2.1 x.2.2.1 x.2.2.2)) := fnT_ok (env43_ok n) (by kernel_rfl) (by kernel_rfl) (by kernel_rfl) (b := b43) (by kernel_rfl) (fun x => by kernel_rfl) (lin43 n) (eq43 n)
theorem ok43 (n : Nat) : FnOK Try.prog 43 (e43 n) := fnN_ok (okt43 n)
/-! ### regen.Want -/
noncomputable def F36 (n : Nat) (a0 : S37) (a1 : Int) (a2 : Int) : Option (S37 × ((List S64) × Int)) :=
  (Option.bind (F24 n a0) fun y1 =>
  (Option.bind (F15 n (S37.mk y1.1.1 y1.1.2.1 y1.1.2.2.1 y1.2 y1.1.2.2.2.1 y1.1.2.2.2.2.1 y1.1.2.2.2.2.2.1 y1.1.2.2.2.2.2.2.1 y1.1.2.2.2.2.2.2.2) a1 a2) fun y2 =>
  (bif (bNot y2) then
    (some ((S37.mk (0 : Int) false false ([] : List Bool) false false false (0 : Int) (0 : Int)), (([] : List S64), (2 : Int))))
  else
    (bif y1.1.2.1 then
      (some ((S37.mk (0 : Int) false false ([] : List Bool) false false false (0 : Int) (0 : Int)), (([] : List S64), (19 : Int))))
    else
      (bif (bif y1.1.2.2.2.2.2.1 then
        true
      else
        y1.1.2.2.2.2.1) then
        (some ((S37.mk (0 : Int) false false ([] : List Bool) false false false (0 : Int) (0 : Int)), (([] : List S64), (14 : Int))))
      else
        (bif y1.1.2.2.1 then
          (some ((S37.mk y1.1.1 y1.1.2.1 y1.1.2.2.1 y1.2 y1.1.2.2.2.1 true y1.1.2.2.2.2.2.1 y1.1.2.2.2.2.2.2.1 y1.1.2.2.2.2.2.2.2), (([] : List S64), (0 : Int))))
        else
          (Option.bind (F43 n (S35.mk y1.1.2.2.2.1 y1.1.2.2.2.2.1 y1.1.2.2.2.2.2.1 y1.1.2.2.2.2.2.2.1 y1.1.2.2.2.2.2.2.2) a1 a2 y1.1.1) fun y3 =>
          (bif (y3.2.2 != (0 : Int)) then
            (some ((S37.mk (0 : Int) false false ([] : List Bool) false false false (0 : Int) (0 : Int)), (([] : List S64), y3.2.2)))
          else
            (some ((S37.mk y1.1.1 y1.1.2.1 y1.1.2.2.1 y1.2 y3.1.Has y3.1.Want y3.1.Using y3.1.Last y3.1.Next), (y3.2.1, (0 : Int))))))))))))
noncomputable def c36 : Co (List (EV gam) × List (Ent gam)) (S37 × (Int × Int)) := (.pairL (.cons (.st gam 37) (.cons (.d gam (.int .i64)) (.consL (.d gam (.int .i64)) (.nil _)))) (.nil _))
noncomputable def r36 : Co (EV gam × List (Ent gam) × List (Ent gam)) (S37 × ((List S64) × Int)) := (.pairL (.tp (.cons (.st gam 37) (.cons (.d gam (.sl (.st 64))) (.consL (.d gam (.int .i64)) (.nil _))))) (.pairU (.nil _) (.nil _)))
noncomputable def b36 : Code := (Try.f36.body).getD .skip
noncomputable def e36 (n : Nat) : FnT gam := fnN [[none, none, none, some .bool, none, none, none, none, none]] (fnT [] c36 r36 (fun x => F36 n x.1 x.2.1 x.2.2))
noncomputable def p36 (a : List (EV gam)) (l : List (Ent gam)) : Bool := (c36.dec (nilArgs [[none, none, none, some .bool, none, none, none, none, none]] a, l)).isSome
noncomputable def env36 (n : Nat) : Env gam := { P := Try.prog, fns := lookU [(15, e15 n), (24, e24 n), (43, e43 n)], loops := lookU [], nt := 60, m := 0, keeps := [], eqs := [] }
theorem env36_ok (n : Nat) : EnvOK (env36 n) := .of _ rfl (by exact ⟨ok15 n, ok24 n, ok43 n, trivial⟩) (by exact fun t h => nomatch h) (by kernel_rfl)
theorem lin36 (n : Nat) : LoopsOK (env36 n) b36 := .of [] (by kernel_rfl) trivial
theorem eq36 (n : Nat) (x : S37 × (Int × Int)) : (F36 n x.1 x.2.1 x.2.2) = fnE (env36 n) Try.f36 [[.asis, .asis, .asis, .dat .bool, .asis, .asis, .asis, .asis, .asis], [.dat (.st 64)], [.asis]] none c36 r36 x := by kernel_rfl
theorem okt36 (n : Nat) : FnOK Try.prog 36 (fnT (G := gam) [] c36 r36 (fun x => F36 n x.1 x.2.1 x.2.2)) := fnT_ok (env36_ok n) (by kernel_rfl) (by kernel_rfl) (by kernel_rfl) (b := b36) (by kernel_rfl) (fun x => by kernel_rfl) (lin36 n) (eq36 n)
theorem ok36 (n : Nat) : FnOK Try.prog 36 (e36 n) := fnN_ok (okt36 n)
/-! ### (*clusterlockslaw28.cluster).step -/
noncomputable def F17 (n : Nat) (a0 : Int) (a1 : Int) (a2 : Int) (a3 : Nat) (a4 : List S37) (a5 : List Bool) (a6 : List (List (List S57))) : Option (Bool × (Nat × ((List S37) × ((List Bool) × (List (List (List S57))))))) :=
  (bif (((List.length a4 : Nat) : Int) == 0) then
    none
  else
    (bif (((List.length a4 : Nat) : Int) == 0) then
      none
    else
      (bif (decide (a0 < (6 : Int))) then
        (bif (decide (0 ≤ (Int.tmod a2 ((List.length a4 : Nat) : Int))) && decide ((Int.tmod a2 ((List.length a4 : Nat) : Int)) < ((List.length a5 : Nat) : Int))) then
          (Option.bind (a5[(Int.toNat (Int.tmod a2 ((List.length a4 : Nat) : Int)))]?) fun y1 =>
          (bif (bNot y1) then
            (some (true, (a3, (a4, (a5, a6)))))
          else
            (bif (decide (0 ≤ (Int.tmod a1 ((List.length a4 : Nat) : Int))) && decide ((Int.tmod a1 ((List.length a4 : Nat) : Int)) < ((a3 : Nat) : Int))) then
              (Option.bind (a6[(Int.toNat (Int.tmod a1 ((List.length a4 : Nat) : Int)))]?) fun y2 =>
              (bif (decide (0 ≤ (Int.tmod a2 ((List.length a4 : Nat) : Int))) && decide ((Int.tmod a2 ((List.length a4 : Nat) : Int)) < ((List.length y2 : Nat) : Int))) then
                (Option.bind (a6[(Int.toNat (Int.tmod a1 ((List.length a4 : Nat) : Int)))]?) fun y3 =>
                (Option.bind (y3[(Int.toNat (Int.tmod a2 ((List.length a4 : Nat) : Int)))]?) fun y4 =>
                (bif (((List.length y4 : Nat) : Int) == (0 : Int)) then
                  (some (true, (a3, (a4, (a5, (List.set a6 (Int.toNat (Int.tmod a1 ((List.length a4 : Nat) : Int))) (List.set y3 (Int.toNat (Int.tmod a2 ((List.length a4 : Nat) : Int))) y4)))))))
                else
                  (Option.bind (F20 n (Int.tmod a1 ((List.length a4 : Nat) : Int)) (Int.tmod a2 ((List.length a4 : Nat) : Int)) a3 a4 a5 (List.set a6 (Int.toNat (Int.tmod a1 ((List.length a4 : Nat) : Int))) (List.set y3 (Int.toNat (Int.tmod a2 ((List.length a4 : Nat) : Int))) y4))) fun y5 =>
                  (some (y5.1, (y5.2.1, (y5.2.2.1, (y5.2.2.2.1, y5.2.2.2.2)))))))))
              else
                none))
            else
              none)))
        else
          none)
      else
        (bif (a0 == (9 : Int)) then
          (bif (decide (0 ≤ (Int.tmod a1 ((List.length a4 : Nat) : Int))) && decide ((Int.tmod a1 ((List.length a4 : Nat) : Int)) < ((List.length a5 : Nat) : Int))) then
            (Option.bind (a5[(Int.toNat (Int.tmod a1 ((List.length a4 : Nat) : Int)))]?) fun y6 =>
            (bif y6 then
              (bif (decide (0 ≤ (Int.tmod a1 ((List.length a4 : Nat) : Int))) && decide ((Int.tmod a1 ((List.length a4 : Nat) : Int)) < ((List.length a5 : Nat) : Int))) then
                (some (true, (a3, (a4, ((List.set a5 (Int.toNat (Int.tmod a1 ((List.length a4 : Nat) : Int))) false), a6)))))
              else
                none)
            else
              (bif (decide (0 ≤ (Int.tmod a1 ((List.length a4 : Nat) : Int))) && decide ((Int.tmod a1 ((List.length a4 : Nat) : Int)) < ((List.length a5 : Nat) : Int))) then
                (Option.bind (a5[(Int.toNat (Int.tmod a1 ((List.length a4 : Nat) : Int)))]?) fun y7 =>
                (bif (bNot y7) then
                  (bif (decide (0 ≤ (Int.tmod a1 ((List.length a4 : Nat) : Int))) && decide ((Int.tmod a1 ((List.length a4 : Nat) : Int)) < ((List.length a4 : Nat) : Int))) then
                    (Option.bind (a4[(Int.toNat (Int.tmod a1 ((List.length a4 : Nat) : Int)))]?) fun y8 =>
                    (Option.bind (F34 n (Int.tmod a1 ((List.length a4 : Nat) : Int)) ((List.length a4 : Nat) : Int) y8.Epoch) fun y9 =>
                    (bif (decide (0 ≤ (Int.tmod a1 ((List.length a4 : Nat) : Int))) && decide ((Int.tmod a1 ((List.length a4 : Nat) : Int)) < ((List.length a5 : Nat) : Int))) then
                      (bif (y9.2 == (0 : Int)) then
                        (Option.bind (F11 n (Int.tmod a1 ((List.length a4 : Nat) : Int)) y9.1 ([] : List S64) a3 a4 (List.set a5 (Int.toNat (Int.tmod a1 ((List.length a4 : Nat) : Int))) true) a6) fun y10 =>
                        (some (y10.1, (y10.2.1, (y10.2.2.1, (y10.2.2.2.1, y10.2.2.2.2))))))
                      else
                        (some (false, (a3, (a4, ((List.set a5 (Int.toNat (Int.tmod a1 ((List.length a4 : Nat) : Int))) true), a6))))))
                    else
                      none)))
                  else
                    none)
                else
                  (bif (a0 == (8 : Int)) then
                    (bif (decide (0 ≤ (Int.tmod a1 ((List.length a4 : Nat) : Int))) && decide ((Int.tmod a1 ((List.length a4 : Nat) : Int)) < ((List.length a4 : Nat) : Int))) then
                      (Option.bind (a4[(Int.toNat (Int.tmod a1 ((List.length a4 : Nat) : Int)))]?) fun y11 =>
                      (Option.bind (F10 n y11 (Int.tmod a1 ((List.length a4 : Nat) : Int)) ((List.length a4 : Nat) : Int)) fun y12 =>
                      (bif (y12.2.2 == (0 : Int)) then
                        (Option.bind (F11 n (Int.tmod a1 ((List.length a4 : Nat) : Int)) y12.1 y12.2.1 a3 a4 a5 a6) fun y13 =>
                        (some (y13.1, (y13.2.1, (y13.2.2.1, (y13.2.2.2.1, y13.2.2.2.2))))))
                      else
                        (some (false, (a3, (a4, (a5, a6))))))))
                    else
                      none)
                  else
                    (bif (decide (0 ≤ (Int.tmod a1 ((List.length a4 : Nat) : Int))) && decide ((Int.tmod a1 ((List.length a4 : Nat) : Int)) < ((List.length a4 : Nat) : Int))) then
                      (Option.bind (a4[(Int.toNat (Int.tmod a1 ((List.length a4 : Nat) : Int)))]?) fun y14 =>
                      (bif y14.Token_Using then
                        (bif (decide (0 ≤ (Int.tmod a1 ((List.length a4 : Nat) : Int))) && decide ((Int.tmod a1 ((List.length a4 : Nat) : Int)) < ((List.length a4 : Nat) : Int))) then
                          (Option.bind (a4[(Int.toNat (Int.tmod a1 ((List.length a4 : Nat) : Int)))]?) fun y15 =>
                          (Option.bind (F35 n y15 (Int.tmod a1 ((List.length a4 : Nat) : Int)) ((List.length a4 : Nat) : Int)) fun y16 =>
                          (bif (y16.2.2 == (0 : Int)) then
                            (Option.bind (F11 n (Int.tmod a1 ((List.length a4 : Nat) : Int)) y16.1 y16.2.1 a3 a4 a5 a6) fun y17 =>
                            (some (y17.1, (y17.2.1, (y17.2.2.1, (y17.2.2.2.1, y17.2.2.2.2))))))
                          else
                            (some (false, (a3, (a4, (a5, a6))))))))
                        else
                          none)
                      else
                        (bif (decide (0 ≤ (Int.tmod a1 ((List.length a4 : Nat) : Int))) && decide ((Int.tmod a1 ((List.length a4 : Nat) : Int)) < ((List.length a4 : Nat) : Int))) then
                          (Option.bind (a4[(Int.toNat (Int.tmod a1 ((List.length a4 : Nat) : Int)))]?) fun y18 =>
                          (bif (bNot y18.Token_Want) then
                            (bif (decide (0 ≤ (Int.tmod a1 ((List.length a4 : Nat) : Int))) && decide ((Int.tmod a1 ((List.length a4 : Nat) : Int)) < ((List.length a4 : Nat) : Int))) then
                              (Option.bind (a4[(Int.toNat (Int.tmod a1 ((List.length a4 : Nat) : Int)))]?) fun y19 =>
                              (bif (bNot y19.Lost) then
                                (bif (decide (0 ≤ (Int.tmod a1 ((List.length a4 : Nat) : Int))) && decide ((Int.tmod a1 ((List.length a4 : Nat) : Int)) < ((List.length a4 : Nat) : Int))) then
                                  (Option.bind (a4[(Int.toNat (Int.tmod a1 ((List.length a4 : Nat) : Int)))]?) fun y20 =>
                                  (Option.bind (F36 n y20 (Int.tmod a1 ((List.length a4 : Nat) : Int)) ((List.length a4 : Nat) : Int)) fun y21 =>
                                  (bif (y21.2.2 == (0 : Int)) then
                                    (Option.bind (F11 n (Int.tmod a1 ((List.length a4 : Nat) : Int)) y21.1 y21.2.1 a3 a4 a5 a6) fun y22 =>
                                    (some (y22.1, (y22.2.1, (y22.2.2.1, (y22.2.2.2.1, y22.2.2.2.2))))))
                                  else
                                    (some (false, (a3, (a4, (a5, a6))))))))
                                else
                                  none)
                              else
                                (some (true, (a3, (a4, (a5, a6)))))))
                            else
                              none)
                          else
                            (some (true, (a3, (a4, (a5, a6)))))))
                        else
                          none)))
                    else
                      none))))
              else
                none)))
          else
            none)
        else
          (bif (decide (0 ≤ (Int.tmod a1 ((List.length a4 : Nat) : Int))) && decide ((Int.tmod a1 ((List.length a4 : Nat) : Int)) < ((List.length a5 : Nat) : Int))) then
            (Option.bind (a5[(Int.toNat (Int.tmod a1 ((List.length a4 : Nat) : Int)))]?) fun y23 =>
            (bif (bNot y23) then
              (bif (decide (0 ≤ (Int.tmod a1 ((List.length a4 : Nat) : Int))) && decide ((Int.tmod a1 ((List.length a4 : Nat) : Int)) < ((List.length a4 : Nat) : Int))) then
                (Option.bind (a4[(Int.toNat (Int.tmod a1 ((List.length a4 : Nat) : Int)))]?) fun y24 =>
                (Option.bind (F34 n (Int.tmod a1 ((List.length a4 : Nat) : Int)) ((List.length a4 : Nat) : Int) y24.Epoch) fun y25 =>
                (bif (decide (0 ≤ (Int.tmod a1 ((List.length a4 : Nat) : Int))) && decide ((Int.tmod a1 ((List.length a4 : Nat) : Int)) < ((List.length a5 : Nat) : Int))) then
                  (bif (y25.2 == (0 : Int)) then
                    (Option.bind (F11 n (Int.tmod a1 ((List.length a4 : Nat) : Int)) y25.1 ([] : List S64) a3 a4 (List.set a5 (Int.toNat (Int.tmod a1 ((List.length a4 : Nat) : Int))) true) a6) fun y26 =>
                    (some (y26.1, (y26.2.1, (y26.2.2.1, (y26.2.2.2.1, y26.2.2.2.2))))))
                  else
                    (some (false, (a3, (a4, ((List.set a5 (Int.toNat (Int.tmod a1 ((List.length a4 : Nat) : Int))) true), a6))))))
                else
                  none)))
              else
                none)
            else
              (bif (a0 == (8 : Int)) then
                (bif (decide (0 ≤ (Int.tmod a1 ((List.length a4 : Nat) : Int))) && decide ((Int.tmod a1 ((List.length a4 : Nat) : Int)) < ((List.length a4 : Nat) : Int))) then
                  (Option.bind (a4[(Int.toNat (Int.tmod a1 ((List.length a4 : Nat) : Int)))]?) fun y27 =>
                  (Option.bind (F10 n y27 (Int.tmod a1 ((List.length a4 : Nat) : Int)) ((List.length a4 : Nat) : Int)) fun y28 =>
                  (bif (y28.2.2 == (0 : Int)) then
                    (Option.bind (F11 n (Int.tmod a1 ((List.length a4 : Nat) : Int)) y28.1 y28.2.1 a3 a4 a5 a6) fun y29 =>
                    (some (y29.1, (y29.2.1, (y29.2.2.1, (y29.2.2.2.1, y29.2.2.2.2))))))
                  else
                    (some (false, (a3, (a4, (a5, a6))))))))
                else
                  none)
              else
                (bif (decide (0 ≤ (Int.tmod a1 ((List.length a4 : Nat) : Int))) && decide ((Int.tmod a1 ((List.length a4 : Nat) : Int)) < ((List.length a4 : Nat) : Int))) then
                  (Option.bind (a4[(Int.toNat (Int.tmod a1 ((List.length a4 : Nat) : Int)))]?) fun y30 =>
                  (bif y30.Token_Using then
                    (bif (decide (0 ≤ (Int.tmod a1 ((List.length a4 : Nat) : Int))) && decide ((Int.tmod a1 ((List.length a4 : Nat) : Int)) < ((List.length a4 : Nat) : Int))) then
                      (Option.bind (a4[(Int.toNat (Int.tmod a1 ((List.length a4 : Nat) : Int)))]?) fun y31 =>
                      (Option.bind (F35 n y31 (Int.tmod a1 ((List.length a4 : Nat) : Int)) ((List.length a4 : Nat) : Int)) fun y32 =>
                      (bif (y32.2.2 == (0 : Int)) then
                        (Option.bind (F11 n (Int.tmod a1 ((List.length a4 : Nat) : Int)) y32.1 y32.2.1 a3 a4 a5 a6) fun y33 =>
                        (some (y33.1, (y33.2.1, (y33.2.2.1, (y33.2.2.2.1, y33.2.2.2.2))))))
                      else
                        (some (false, (a3, (a4, (a5, a6))))))))
                    else
                      none)
                  else
                    (bif (decide (0 ≤ (Int.tmod a1 ((List.length a4 : Nat) : Int))) && decide ((Int.tmod a1 ((List.length a4 : Nat) : Int)) < ((List.length a4 : Nat) : Int))) then
                      (Option.bind (a4[(Int.toNat (Int.tmod a1 ((List.length a4 : Nat) : Int)))]?) fun y34 =>
                      (bif (bNot y34.Token_Want) then
                        (bif (decide (0 ≤ (Int.tmod a1 ((List.length a4 : Nat) : Int))) && decide ((Int.tmod a1 ((List.length a4 : Nat) : Int)) < ((List.length a4 : Nat) : Int))) then
                          (Option.bind (a4[(Int.toNat (Int.tmod a1 ((List.length a4 : Nat) : Int)))]?) fun y35 =>
                          (bif (bNot y35.Lost) then
                            (bif (decide (0 ≤ (Int.tmod a1 ((List.length a4 : Nat) : Int))) && decide ((Int.tmod a1 ((List.length a4 : Nat) : Int)) < ((List.length a4 : Nat) : Int))) then
                              (Option.bind (a4[(Int.toNat (Int.tmod a1 ((List.length a4 : Nat) : Int)))]?) fun y36 =>
                              (Option.bind (F36 n y36 (Int.tmod a1 ((List.length a4 : Nat) : Int)) ((List.length a4 : Nat) : Int)) fun y37 =>
                              (bif (y37.2.2 == (0 : Int)) then
                                (Option.bind (F11 n (Int.tmod a1 ((List.length a4 : Nat) : Int)) y37.1 y37.2.1 a3 a4 a5 a6) fun y38 =>
                                (some (y38.1, (y38.2.1, (y38.2.2.1, (y38.2.2.2.1, y38.2.2.2.2))))))
                              else
                                (some (false, (a3, (a4, (a5, a6))))))))
                            else
                              none)
                          else
                            (some (true, (a3, (a4, (a5, a6)))))))
                        else
                          none)
                      else
                        (some (true, (a3, (a4, (a5, a6)))))))
                    else
                      none)))
                else
                  none))))
          else
            none)))))
noncomputable def c17 : Co (List (EV gam) × List (Ent gam)) ((Int × (Int × Int)) × (Nat × ((List S37) × ((List Bool) × (List (List (List S57))))))) := (.pair (.consU (.ptr gam 0 0) (.cons (.d gam (.int .i64)) (.cons (.d gam (.int .i64)) (.consL (.d gam (.int .i64)) (.nil _))))) (.cons (.box (.consU (.ow gam 1) (.consU (.ow gam 2) (.consL (.spn gam 3) (.nil _))))) (.cons (.row gam (.st 37) 0) (.cons (.row gam .bool 0) (.consL (.tree gam false (.st 57)) (.nil _))))))
noncomputable def r17 : Co (EV gam × List (Ent gam) × List (Ent gam)) (Bool × (Nat × ((List S37) × ((List Bool) × (List (List (List S57))))))) := (.pair (.d gam .bool) (.pairL (.cons (.box (.consU (.ow gam 1) (.consU (.ow gam 2) (.consL (.spn gam 3) (.nil _))))) (.cons (.row gam (.st 37) 0) (.cons (.row gam .bool 0) (.consL (.tree gam false (.st 57)) (.nil _))))) (.nil _)))
noncomputable def b17 : Code := (Try.f17.body).getD .skip
noncomputable def e17 (n : Nat) : FnT gam := fnN [] (fnT [] c17 r17 (fun x => F17 n x.1.1 x.1.2.1 x.1.2.2 x.2.1 x.2.2.1 x.2.2.2.1 x.2.2.2.2))
noncomputable def p17 (a : List (EV gam)) (l : List (Ent gam)) : Bool := (c17.dec (nilArgs [] a, l)).isSome
noncomputable def env17 (n : Nat) : Env gam := { P := Try.prog, fns := lookU [(10, e10 n), (11, e11 n), (20, e20 n), (34, e34 n), (35, e35 n), (36, e36 n)], loops := lookU [], nt := 238, m := 4, keeps := [], eqs := [], tr := true }
theorem env17_ok (n : Nat) : EnvOK (env17 n) := .of _ rfl (by exact ⟨ok10 n, ok11 n, ok20 n, ok34 n, ok35 n, ok36 n, trivial⟩) (by exact fun t h => nomatch h) (by kernel_rfl)
theorem lin17 (n : Nat) : LoopsOK (env17 n) b17 := .of [] (by kernel_rfl) trivial
theorem eq17 (n : Nat) (x : (Int × (Int × Int)) × (Nat × ((List S37) × ((List Bool) × (List (List (List S57))))))) : (F17 n x.1.1 x.1.2.1 x.1.2.2 x.2.1 x.2.2.1 x.2.2.2.1 x.2.2.2.2) = fnE (env17 n) Try.f17 [[.asis]] none c17 r17 x := by kernel_rfl
theorem okt17 (n : Nat) : FnOK Try.prog 17 (fnT (G := gam) [] c17 r17 (fun x => F17 n x.1.1 x.1.2.1 x.1.2.2 x.2.1 x.2.2.1 x.2.2.2.1 x.2.2.2.2)) := fnT_ok (env17_ok n) (by kernel_rfl) (by kernel_rfl) (by kernel_rfl) (b := b17) (by kernel_rfl) (fun x => by kernel_rfl) (lin17 n) (eq17 n)
theorem ok17 (n : Nat) : FnOK Try.prog 17 (e17 n) := fnN_ok (okt17 n)
/-! ### (*clusterlockslaw28.cluster).one -/
noncomputable def S19_0 (n : Nat) (L : Int → Int → Int → Nat → (List (List (List S57))) → (List S37) → (List Bool) → Option ((Int × (Nat × ((List (List (List S57))) × ((List S37) × (List Bool))))) ⊕ (Bool × (Nat × ((List (List (List S57))) × ((List S37) × (List Bool))))))) (a0 : Int) (a1 : Int) (a2 : Int) (a3 : Nat) (a4 : List (List (List S57))) (a5 : List S37) (a6 : List Bool) : Option ((Int × (Nat × ((List (List (List S57))) × ((List S37) × (List Bool))))) ⊕ (Bool × (Nat × ((List (List (List S57))) × ((List S37) × (List Bool)))))) :=
  (bif (decide (a2 < a1)) then
    (bif (decide (0 ≤ a2) && decide (a2 < ((List.length a6 : Nat) : Int))) then
      (Option.bind (a6[(Int.toNat a2)]?) fun y1 =>
      (bif (bNot y1) then
        (L a0 a1 (IntKind.wrap .i64 (a2 + (1 : Int))) a3 a4 a5 a6)
      else
        (bif (decide (0 ≤ a2) && decide (a2 < ((List.length a5 : Nat) : Int))) then
          (Option.bind (a5[(Int.toNat a2)]?) fun y2 =>
          (Option.bind (F15 n y2 a2 ((List.length a5 : Nat) : Int)) fun y3 =>
          (bif (bNot y3) then
            (some (.inr (false, (a3, (a4, (a5, a6))))))
          else
            (bif (decide (0 ≤ a2) && decide (a2 < ((List.length a5 : Nat) : Int))) then
              (Option.bind (a5[(Int.toNat a2)]?) fun y4 =>
              (bif y4.Token_Has then
                (L (IntKind.wrap .i64 (a0 + (1 : Int))) a1 (IntKind.wrap .i64 (a2 + (1 : Int))) a3 a4 a5 a6)
              else
                (L a0 a1 (IntKind.wrap .i64 (a2 + (1 : Int))) a3 a4 a5 a6)))
            else
              none))))
        else
          none)))
    else
      none)
  else
    (some (.inl (a0, (a3, (a4, (a5, a6)))))))
noncomputable def U19_0 (n : Nat) (L : ((Int × (Int × Int)) × (Nat × ((List (List (List S57))) × ((List S37) × (List Bool))))) → Option ((Int × (Nat × ((List (List (List S57))) × ((List S37) × (List Bool))))) ⊕ (Bool × (Nat × ((List (List (List S57))) × ((List S37) × (List Bool))))))) (x : (Int × (Int × Int)) × (Nat × ((List (List (List S57))) × ((List S37) × (List Bool))))) : Option ((Int × (Nat × ((List (List (List S57))) × ((List S37) × (List Bool))))) ⊕ (Bool × (Nat × ((List (List (List S57))) × ((List S37) × (List Bool)))))) := S19_0 n (fun a0 a1 a2 a3 a4 a5 a6 => L ((a0, (a1, a2)), (a3, (a4, (a5, a6))))) x.1.1 x.1.2.1 x.1.2.2 x.2.1 x.2.2.1 x.2.2.2.1 x.2.2.2.2
noncomputable def L19_0 (n : Nat) (a0 : Int) (a1 : Int) (a2 : Int) (a3 : Nat) (a4 : List (List (List S57))) (a5 : List S37) (a6 : List Bool) : Option ((Int × (Nat × ((List (List (List S57))) × ((List S37) × (List Bool))))) ⊕ (Bool × (Nat × ((List (List (List S57))) × ((List S37) × (List Bool)))))) := iter (U19_0 n) n ((a0, (a1, a2)), (a3, (a4, (a5, a6))))
noncomputable def F19 (n : Nat) (a0 : Nat) (a1 : List S37) (a2 : List Bool) (a3 : List (List (List S57))) : Option (Bool × (Nat × ((List S37) × ((List Bool) × (List (List (List S57))))))) :=
  (Option.bind (L19_0 n (0 : Int) ((List.length a1 : Nat) : Int) (0 : Int) a0 a3 a1 a2) fun y1 =>
  (Sum.elim (fun y2 => (some ((decide (y2.1 ≤ (1 : Int))), (y2.2.1, (y2.2.2.2.1, (y2.2.2.2.2, y2.2.2.1)))))) (fun y3 => (some (y3.1, (y3.2.1, (y3.2.2.2.1, (y3.2.2.2.2, y3.2.2.1)))))) y1))
noncomputable def c19 : Co (List (EV gam) × List (Ent gam)) (Nat × ((List S37) × ((List Bool) × (List (List (List S57)))))) := (.pairU (.consU (.ptr gam 0 0) (.nil _)) (.cons (.box (.consU (.ow gam 1) (.consU (.ow gam 2) (.consL (.spn gam 3) (.nil _))))) (.cons (.row gam (.st 37) 0) (.cons (.row gam .bool 0) (.consL (.tree gam false (.st 57)) (.nil _))))))
noncomputable def r19 : Co (EV gam × List (Ent gam) × List (Ent gam)) (Bool × (Nat × ((List S37) × ((List Bool) × (List (List (List S57))))))) := (.pair (.d gam .bool) (.pairL (.cons (.box (.consU (.ow gam 1) (.consU (.ow gam 2) (.consL (.spn gam 3) (.nil _))))) (.cons (.row gam (.st 37) 0) (.cons (.row gam .bool 0) (.consL (.tree gam false (.st 57)) (.nil _))))) (.nil _)))
noncomputable def b19 : Code := (Try.f19.body).getD .skip
noncomputable def b19_0 : Code := (loopsIn b19).getD 0 .skip
noncomputable def kp19_0 : Keep := { slots := [0, 3, 9, 10], rows := [((0, some 0), 1, (.st 37)), ((0, some 1), 2, .bool)], boxes := [0, 3], tombs := [] }
noncomputable def c19_0 : Co (List (EV gam) × List (Ent gam)) ((Int × (Int × Int)) × (Nat × ((List (List (List S57))) × ((List S37) × (List Bool))))) := (.pair (.consU (.ptr gam 0 0) (.cons (.d gam (.int .i64)) (.cons (.d gam (.int .i64)) (.consL (.d gam (.int .i64)) (.nil _))))) (.cons (.box (.consU (.ow gam 1) (.consU (.ow gam 2) (.consL (.spn gam 3) (.nil _))))) (.cons (.tree gam false (.st 57)) (.cons (.row gam (.st 37) 0) (.consL (.row gam .bool 0) (.nil _))))))
noncomputable def x19_0 : Xc gam ((Int × (Nat × ((List (List (List S57))) × ((List S37) × (List Bool))))) ⊕ (Bool × (Nat × ((List (List (List S57))) × ((List S37) × (List Bool)))))) := (.or (.one (.exit 0) { slots := [3], rows := [((0, some 0), 1, (.st 37)), ((0, some 1), 2, .bool)], boxes := [0, 3], tombs := [] } (.pair (.consL (.d gam (.int .i64)) (.nil _)) (.cons (.box (.consU (.ow gam 1) (.consU (.ow gam 2) (.consL (.spn gam 3) (.nil _))))) (.cons (.tree gam false (.st 57)) (.cons (.row gam (.st 37) 0) (.consL (.row gam .bool 0) (.nil _))))))) (.one .ret { slots := [2], rows := [((0, some 0), 1, (.st 37)), ((0, some 1), 2, .bool)], boxes := [0, 3], tombs := [] } (.pair (.consL (.d gam .bool) (.nil _)) (.cons (.box (.consU (.ow gam 1) (.consU (.ow gam 2) (.consL (.spn gam 3) (.nil _))))) (.cons (.tree gam false (.st 57)) (.cons (.row gam (.st 37) 0) (.consL (.row gam .bool 0) (.nil _))))))))
noncomputable def t19_0 (n : Nat) : LoopT gam := loopT kp19_0 c19_0 x19_0 (iter (U19_0 n) n)
noncomputable def e19 (n : Nat) : FnT gam := fnN [] (fnT [] c19 r19 (fun x => F19 n x.1 x.2.1 x.2.2.1 x.2.2.2))
noncomputable def p19 (a : List (EV gam)) (l : List (Ent gam)) : Bool := (c19.dec (nilArgs [] a, l)).isSome
noncomputable def env19 (n : Nat) : Env gam := { P := Try.prog, fns := lookU [(15, e15 n)], loops := lookU [(3, t19_0 n)], nt := 50, m := 4, keeps := [], eqs := [], tr := true }
theorem env19_ok (n : Nat) : EnvOK (env19 n) := .of _ rfl (by exact ⟨ok15 n, trivial⟩) (by exact fun t h => nomatch h) (by kernel_rfl)
theorem lin19_0 (n : Nat) : LoopsOK (env19 n) b19_0 := .of [] (by kernel_rfl) trivial
theorem lok19_0 (n : Nat) : LoopOK (env19 n) b19_0 (t19_0 n) := loopT_ok (env19_ok n) (lin19_0 n) (fun L x => by kernel_rfl) n
theorem lin19 (n : Nat) : LoopsOK (env19 n) b19 := .of [(b19_0, 3, t19_0 n)] (by kernel_rfl) ⟨by kernel_rfl, by kernel_rfl, lok19_0 n, trivial⟩
theorem eq19 (n : Nat) (x : Nat × ((List S37) × ((List Bool) × (List (List (List S57)))))) : (F19 n x.1 x.2.1 x.2.2.1 x.2.2.2) = fnE (env19 n) Try.f19 [[.asis]] none c19 r19 x := by kernel_rfl
theorem okt19 (n : Nat) : FnOK Try.prog 19 (fnT (G := gam) [] c19 r19 (fun x => F19 n x.1 x.2.1 x.2.2.1 x.2.2.2)) := fnT_ok (env19_ok n) (by kernel_rfl) (by kernel_rfl) (by kernel_rfl) (b := b19) (by kernel_rfl) (fun x => by kernel_rfl) (lin19 n) (eq19 n)
theorem ok19 (n : Nat) : FnOK Try.prog 19 (e19 n) := fnN_ok (okt19 n)
/-! ### clusterlockslaw28.play -/
noncomputable def S8_1 (n : Nat) (L : Nat → (List Int) → Int → (List (List (List S57))) → (List S37) → (List Bool) → Option ((Nat × ((List (List (List S57))) × ((List S37) × (List Bool)))) ⊕ (Bool × (Nat × ((List (List (List S57))) × ((List S37) × (List Bool))))))) (a0 : Nat) (a1 : List Int) (a2 : Int) (a3 : List (List (List S57))) (a4 : List S37) (a5 : List Bool) : Option ((Nat × ((List (List (List S57))) × ((List S37) × (List Bool)))) ⊕ (Bool × (Nat × ((List (List (List S57))) × ((List S37) × (List Bool)))))) :=
  (Option.bind (F16 n a1 a2) fun y1 =>
  (bif y1.1 then
    (Option.bind (F18 n (10 : Int) y1.2.1 y1.2.2) fun y2 =>
    (Option.bind (F18 n (12 : Int) y2.2.1 y2.2.2) fun y3 =>
    (Option.bind (F18 n (12 : Int) y3.2.1 y3.2.2) fun y4 =>
    (Option.bind (F17 n y2.1 y3.1 y4.1 a0 a4 a5 a3) fun y5 =>
    (bif (bNot y5.1) then
      (some (.inr (false, (y5.2.1, (y5.2.2.2.2, (y5.2.2.1, y5.2.2.2.1))))))
    else
      (Option.bind (F19 n y5.2.1 y5.2.2.1 y5.2.2.2.1 y5.2.2.2.2) fun y6 =>
      (bif (bNot y6.1) then
        (some (.inr (false, (y6.2.1, (y6.2.2.2.2, (y6.2.2.1, y6.2.2.2.1))))))
      else
        (L y6.2.1 y4.2.1 y4.2.2 y6.2.2.2.2 y6.2.2.1 y6.2.2.2.1))))))))
  else
    (some (.inl (a0, (a3, (a4, a5)))))))
noncomputable def U8_1 (n : Nat) (L : (Nat × (((List Int) × Int) × ((List (List (List S57))) × ((List S37) × (List Bool))))) → Option ((Nat × ((List (List (List S57))) × ((List S37) × (List Bool)))) ⊕ (Bool × (Nat × ((List (List (List S57))) × ((List S37) × (List Bool))))))) (x : Nat × (((List Int) × Int) × ((List (List (List S57))) × ((List S37) × (List Bool))))) : Option ((Nat × ((List (List (List S57))) × ((List S37) × (List Bool)))) ⊕ (Bool × (Nat × ((List (List (List S57))) × ((List S37) × (List Bool)))))) := S8_1 n (fun a0 a1 a2 a3 a4 a5 => L (a0, ((a1, a2), (a3, (a4, a5))))) x.1 x.2.1.1 x.2.1.2 x.2.2.1 x.2.2.2.1 x.2.2.2.2
noncomputable def L8_1 (n : Nat) (a0 : Nat) (a1 : List Int) (a2 : Int) (a3 : List (List (List S57))) (a4 : List S37) (a5 : List Bool) : Option ((Nat × ((List (List (List S57))) × ((List S37) × (List Bool)))) ⊕ (Bool × (Nat × ((List (List (List S57))) × ((List S37) × (List Bool)))))) := iter (U8_1 n) n (a0, ((a1, a2), (a3, (a4, a5))))
noncomputable def S8_0 (n : Nat) (L : (List Int) → Int → Int → (List S37) → (List Bool) → (List (List (List S57))) → Option (((List Int) × ((List S37) × ((List Bool) × (List (List (List S57)))))) ⊕ (Bool × ((List S37) × ((List Bool) × (List (List (List S57)))))))) (a0 : List Int) (a1 : Int) (a2 : Int) (a3 : List S37) (a4 : List Bool) (a5 : List (List (List S57))) : Option (((List Int) × ((List S37) × ((List Bool) × (List (List (List S57)))))) ⊕ (Bool × ((List S37) × ((List Bool) × (List (List (List S57))))))) :=
  (bif (decide (a2 < a1)) then
    (Option.bind (F14 n a2 a1) fun y1 =>
    (bif (y1.2 != (0 : Int)) then
      (some (.inr (false, (a3, (a4, a5)))))
    else
      (bif (appOK (List.length a3) (List.length [y1.1]) 64) then
        (bif (appOK (List.length a4) (List.length [true]) 1) then
          (bif (makeOK a1 a1 24) then
            (bif (appOK (List.length a5) 1 24) then
              (L a0 a1 (IntKind.wrap .i64 (a2 + (1 : Int))) (a3 ++ [y1.1]) (a4 ++ [true]) (a5 ++ [(List.replicate (Int.toNat a1) ([] : List S57))]))
            else
              none)
          else
            none)
        else
          none)
      else
        none)))
  else
    (some (.inl (a0, (a3, (a4, a5))))))
noncomputable def U8_0 (n : Nat) (L : (((List Int) × (Int × Int)) × ((List S37) × ((List Bool) × (List (List (List S57)))))) → Option (((List Int) × ((List S37) × ((List Bool) × (List (List (List S57)))))) ⊕ (Bool × ((List S37) × ((List Bool) × (List (List (List S57)))))))) (x : ((List Int) × (Int × Int)) × ((List S37) × ((List Bool) × (List (List (List S57)))))) : Option (((List Int) × ((List S37) × ((List Bool) × (List (List (List S57)))))) ⊕ (Bool × ((List S37) × ((List Bool) × (List (List (List S57))))))) := S8_0 n (fun a0 a1 a2 a3 a4 a5 => L ((a0, (a1, a2)), (a3, (a4, a5)))) x.1.1 x.1.2.1 x.1.2.2 x.2.1 x.2.2.1 x.2.2.2
noncomputable def L8_0 (n : Nat) (a0 : List Int) (a1 : Int) (a2 : Int) (a3 : List S37) (a4 : List Bool) (a5 : List (List (List S57))) : Option (((List Int) × ((List S37) × ((List Bool) × (List (List (List S57)))))) ⊕ (Bool × ((List S37) × ((List Bool) × (List (List (List S57))))))) := iter (U8_0 n) n ((a0, (a1, a2)), (a3, (a4, a5)))
noncomputable def F8 (n : Nat) (a0 : List Int) (a1 : Int) : Option (Bool × (Nat × ((List S37) × ((List Bool) × (List (List (List S57))))))) :=
  (Option.bind (L8_0 n a0 a1 (0 : Int) ([] : List S37) ([] : List Bool) ([] : List (List (List S57)))) fun y1 =>
  (Sum.elim (fun y2 => (Option.bind (L8_1 n (List.length y2.2.2.2) y2.1 (0 : Int) y2.2.2.2 y2.2.1 y2.2.2.1) fun y4 =>
  (Sum.elim (fun y5 => (some (true, (y5.1, (y5.2.2.1, (y5.2.2.2, y5.2.1)))))) (fun y6 => (some (y6.1, (y6.2.1, (y6.2.2.2.1, (y6.2.2.2.2, y6.2.2.1)))))) y4))) (fun y3 => (some (y3.1, ((List.length y3.2.2.2), (y3.2.1, (y3.2.2.1, y3.2.2.2)))))) y1))
noncomputable def c8 : Co (List (EV gam) × List (Ent gam)) ((List Int) × Int) := (.pairL (.cons (.d gam (.sl (.int .i64))) (.consL (.d gam (.int .i64)) (.nil _))) (.nil _))
noncomputable def r8 : Co (EV gam × List (Ent gam) × List (Ent gam)) (Bool × (Nat × ((List S37) × ((List Bool) × (List (List (List S57))))))) := (.pair (.tp (.consU (.ptr gam 0 0) (.consL (.d gam .bool) (.nil _)))) (.pairU (.nil _) (.cons (.box (.consU (.ow gam 1) (.consU (.ow gam 2) (.consL (.spn gam 3) (.nil _))))) (.cons (.row gam (.st 37) 0) (.cons (.row gam .bool 0) (.consL (.tree gam false (.st 57)) (.nil _)))))))
noncomputable def b8 : Code := (Try.f8.body).getD .skip
noncomputable def b8_0 : Code := (loopsIn b8).getD 0 .skip
noncomputable def kp8_0 : Keep := { slots := [0, 1, 6, 7], rows := [((1002000, some 0), 7001000000, (.st 37)), ((1002000, some 1), 7001000101, .bool), ((1002000, some 2), 7001000202, (.sl (.sl (.st 57))))], boxes := [1002000], tombs := [], trs := [7001000202] }
noncomputable def c8_0 : Co (List (EV gam) × List (Ent gam)) (((List Int) × (Int × Int)) × ((List S37) × ((List Bool) × (List (List (List S57)))))) := (.pair (.cons (.d gam (.sl (.int .i64))) (.cons (.d gam (.int .i64)) (.consU (.ptr gam 1002000 0) (.consL (.d gam (.int .i64)) (.nil _))))) (.consU (.box (.consU (.ow gam 7001000000) (.consU (.ow gam 7001000101) (.consU (.ow gam 7001000202) (.nil _))))) (.cons (.row gam (.st 37) 0) (.cons (.row gam .bool 0) (.consL (.tree gam true (.st 57)) (.nil _))))))
noncomputable def x8_0 : Xc gam (((List Int) × ((List S37) × ((List Bool) × (List (List (List S57)))))) ⊕ (Bool × ((List S37) × ((List Bool) × (List (List (List S57))))))) := (.or (.one (.exit 0) { slots := [0, 6], rows := [((1002000, some 0), 7001000000, (.st 37)), ((1002000, some 1), 7001000101, .bool), ((1002000, some 2), 7001000202, (.sl (.sl (.st 57))))], boxes := [1002000], tombs := [], trs := [7001000202] } (.pair (.consL (.d gam (.sl (.int .i64))) (.consU (.ptr gam 1002000 0) (.nil _))) (.consU (.box (.consU (.ow gam 7001000000) (.consU (.ow gam 7001000101) (.consU (.ow gam 7001000202) (.nil _))))) (.cons (.row gam (.st 37) 0) (.cons (.row gam .bool 0) (.consL (.tree gam true (.st 57)) (.nil _))))))) (.one .ret { slots := [4, 5], rows := [((1002000, some 0), 7001000000, (.st 37)), ((1002000, some 1), 7001000101, .bool), ((1002000, some 2), 7001000202, (.sl (.sl (.st 57))))], boxes := [1002000], tombs := [], trs := [7001000202] } (.pair (.consU (.ptr gam 1002000 0) (.consL (.d gam .bool) (.nil _))) (.consU (.box (.consU (.ow gam 7001000000) (.consU (.ow gam 7001000101) (.consU (.ow gam 7001000202) (.nil _))))) (.cons (.row gam (.st 37) 0) (.cons (.row gam .bool 0) (.consL (.tree gam true (.st 57)) (.nil _))))))))
noncomputable def b8_1 : Code := (loopsIn b8).getD 1 .skip
noncomputable def kp8_1 : Keep := { slots := [6, 10], rows := [((1002000, some 0), 7001000000, (.st 37)), ((1002000, some 1), 7001000101, .bool)], boxes := [1002000, 9003000, 7001000202], tombs := [], frs := [(1002000, 2)] }
noncomputable def c8_1 : Co (List (EV gam) × List (Ent gam)) (Nat × (((List Int) × Int) × ((List (List (List S57))) × ((List S37) × (List Bool))))) := (.pairU (.consU (.ptr gam 1002000 0) (.consU (.ptr gam 9003000 0) (.nil _))) (.cons (.box (.consU (.ow gam 7001000000) (.consU (.ow gam 7001000101) (.consL (.spn gam 7001000202) (.nil _))))) (.cons (.box (.cons (.d gam (.sl (.int .i64))) (.consL (.d gam (.int .i64)) (.nil _)))) (.cons (.tree gam false (.st 57)) (.cons (.row gam (.st 37) 0) (.consL (.row gam .bool 0) (.nil _)))))))
noncomputable def x8_1 : Xc gam ((Nat × ((List (List (List S57))) × ((List S37) × (List Bool)))) ⊕ (Bool × (Nat × ((List (List (List S57))) × ((List S37) × (List Bool)))))) := (.or (.one (.exit 2) { slots := [6], rows := [((1002000, some 0), 7001000000, (.st 37)), ((1002000, some 1), 7001000101, .bool)], boxes := [1002000, 7001000202], tombs := [] } (.pairU (.consU (.ptr gam 1002000 0) (.nil _)) (.cons (.box (.consU (.ow gam 7001000000) (.consU (.ow gam 7001000101) (.consL (.spn gam 7001000202) (.nil _))))) (.cons (.tree gam false (.st 57)) (.cons (.row gam (.st 37) 0) (.consL (.row gam .bool 0) (.nil _))))))) (.one .ret { slots := [4, 5], rows := [((1002000, some 0), 7001000000, (.st 37)), ((1002000, some 1), 7001000101, .bool)], boxes := [1002000, 7001000202], tombs := [] } (.pair (.consU (.ptr gam 1002000 0) (.consL (.d gam .bool) (.nil _))) (.cons (.box (.consU (.ow gam 7001000000) (.consU (.ow gam 7001000101) (.consL (.spn gam 7001000202) (.nil _))))) (.cons (.tree gam false (.st 57)) (.cons (.row gam (.st 37) 0) (.consL (.row gam .bool 0) (.nil _))))))))
noncomputable def t8_0 (n : Nat) : LoopT gam := loopT kp8_0 c8_0 x8_0 (iter (U8_0 n) n)
noncomputable def t8_1 (n : Nat) : LoopT gam := loopT kp8_1 c8_1 x8_1 (iter (U8_1 n) n)
noncomputable def e8 (n : Nat) : FnT gam := fnN [[some (.int .i64)]] (fnT [] c8 r8 (fun x => F8 n x.1 x.2))
noncomputable def p8 (a : List (EV gam)) (l : List (Ent gam)) : Bool := (c8.dec (nilArgs [[some (.int .i64)]] a, l)).isSome
noncomputable def env8 (n : Nat) : Env gam := { P := Try.prog, fns := lookU [(14, e14 n), (16, e16 n), (17, e17 n), (18, e18 n), (19, e19 n)], loops := lookU [(3, t8_0 n), (10, t8_1 n)], nt := 78, m := 0, keeps := [], eqs := [], trees := [8022000, 8023000, 8024000], tr := true }
theorem env8_ok (n : Nat) : EnvOK (env8 n) := .of _ rfl (by exact ⟨ok14 n, ok16 n, ok17 n, ok18 n, ok19 n, trivial⟩) (by exact fun t h => nomatch h) (by kernel_rfl)
theorem lin8_1 (n : Nat) : LoopsOK (env8 n) b8_1 := .of [] (by kernel_rfl) trivial
theorem lok8_1 (n : Nat) : LoopOK (env8 n) b8_1 (t8_1 n) := loopT_ok (env8_ok n) (lin8_1 n) (fun L x => by kernel_rfl) n
theorem lin8_0 (n : Nat) : LoopsOK (env8 n) b8_0 := .of [] (by kernel_rfl) trivial
theorem lok8_0 (n : Nat) : LoopOK (env8 n) b8_0 (t8_0 n) := loopT_ok (env8_ok n) (lin8_0 n) (fun L x => by kernel_rfl) n
theorem lin8 (n : Nat) : LoopsOK (env8 n) b8 := .of [(b8_0, 3, t8_0 n), (b8_1, 10, t8_1 n)] (by kernel_rfl) ⟨by kernel_rfl, by kernel_rfl, lok8_0 n, by kernel_rfl, by kernel_rfl, lok8_1 n, trivial⟩
theorem eq8 (n : Nat) (x : (List Int) × Int) : (F8 n x.1 x.2) = fnE (env8 n) Try.f8 [[.asis], [.asis]] (some { slots := [4, 5], rows := [((1002000, some 0), 7001000000, (.st 37)), ((1002000, some 1), 7001000101, .bool)], boxes := [1002000, 7001000202], tombs := [], frs := [(1002000, 2)] }) c8 r8 x := by kernel_rfl
theorem okt8 (n : Nat) : FnOK Try.prog 8 (fnT (G := gam) [] c8 r8 (fun x => F8 n x.1 x.2)) := fnT_ok (env8_ok n) (by kernel_rfl) (by kernel_rfl) (by kernel_rfl) (b := b8) (by kernel_rfl) (fun x => by kernel_rfl) (lin8 n) (eq8 n)
theorem ok8 (n : Nat) : FnOK Try.prog 8 (e8 n) := fnN_ok (okt8 n)
/-! ### clusterlockslaw28.RegenOne -/
noncomputable def F3 (n : Nat) (a0 : List Int) (a1 : Int) : Option Bool :=
  (Option.bind (F6 n a0) fun y1 =>
  (bif (bNot y1) then
    (Option.bind (F7 n ()) fun y2 =>
    (some y2))
  else
    (bif ((4 : Int) == 0) then
      none
    else
      (Option.bind (F8 n a0 (IntKind.wrap .i64 ((1 : Int) + (Int.tmod (IntKind.wrap .i64 a1) (4 : Int))))) fun y3 =>
      (Option.bind (F7 n ()) fun y4 =>
      (bif y4 then (some y3.1) else (some false)))))))
noncomputable def c3 : Co (List (EV gam) × List (Ent gam)) ((List Int) × Int) := (.pairL (.cons (.d gam (.sl (.int .i64))) (.consL (.d gam (.int .u8)) (.nil _))) (.nil _))
noncomputable def r3 : Co (EV gam × List (Ent gam) × List (Ent gam)) Bool := (.pairL (.d gam .bool) (.pairU (.nil _) (.nil _)))
noncomputable def b3 : Code := (Try.f3.body).getD .skip
noncomputable def e3 (n : Nat) : FnT gam := fnN [[some (.int .i64)]] (fnT [] c3 r3 (fun x => F3 n x.1 x.2))
noncomputable def p3 (a : List (EV gam)) (l : List (Ent gam)) : Bool := (c3.dec (nilArgs [[some (.int .i64)]] a, l)).isSome
noncomputable def env3 (n : Nat) : Env gam := { P := Try.prog, fns := lookU [(6, e6 n), (7, e7 n), (8, e8 n)], loops := lookU [], nt := 24, m := 0, keeps := [], eqs := [] }
theorem env3_ok (n : Nat) : EnvOK (env3 n) := .of _ rfl (by exact ⟨ok6 n, ok7 n, ok8 n, trivial⟩) (by exact fun t h => nomatch h) (by kernel_rfl)
theorem lin3 (n : Nat) : LoopsOK (env3 n) b3 := .of [] (by kernel_rfl) trivial
theorem eq3 (n : Nat) (x : (List Int) × Int) : (F3 n x.1 x.2) = fnE (env3 n) Try.f3 [[.asis]] none c3 r3 x := by kernel_rfl
theorem okt3 (n : Nat) : FnOK Try.prog 3 (fnT (G := gam) [] c3 r3 (fun x => F3 n x.1 x.2)) := fnT_ok (env3_ok n) (by kernel_rfl) (by kernel_rfl) (by kernel_rfl) (b := b3) (by kernel_rfl) (fun x => by kernel_rfl) (lin3 n) (eq3 n)
theorem ok3 (n : Nat) : FnOK Try.prog 3 (e3 n) := fnN_ok (okt3 n)
/-! ### (*clusterlockslaw28.cluster).drain -/
noncomputable def S9_3 (n : Nat) (L : Int → Bool → Int → Int → Int → Int → Int → Nat → (List (List (List S57))) → (List S37) → (List Bool) → Option (((Int × (Bool × (Int × Int))) × (Nat × ((List (List (List S57))) × ((List S37) × (List Bool))))) ⊕ (Bool × (Nat × ((List (List (List S57))) × ((List S37) × (List Bool))))))) (a0 : Int) (a1 : Bool) (a2 : Int) (a3 : Int) (a4 : Int) (a5 : Int) (a6 : Int) (a7 : Nat) (a8 : List (List (List S57))) (a9 : List S37) (a10 : List Bool) : Option (((Int × (Bool × (Int × Int))) × (Nat × ((List (List (List S57))) × ((List S37) × (List Bool))))) ⊕ (Bool × (Nat × ((List (List (List S57))) × ((List S37) × (List Bool)))))) :=
  (bif (decide (a6 < a5)) then
    (bif (decide (0 ≤ a2) && decide (a2 < ((a7 : Nat) : Int))) then
      (Option.bind (a8[(Int.toNat a2)]?) fun y1 =>
      (bif (decide (0 ≤ a6) && decide (a6 < ((List.length y1 : Nat) : Int))) then
        (Option.bind (a8[(Int.toNat a2)]?) fun y2 =>
        (Option.bind (y2[(Int.toNat a6)]?) fun y3 =>
        (bif (decide (((List.length y3 : Nat) : Int) > (0 : Int))) then
          (Option.bind (F20 n a2 a6 a7 a9 a10 (List.set a8 (Int.toNat a2) (List.set y2 (Int.toNat a6) y3))) fun y4 =>
          (bif (bNot y4.1) then
            (some (.inr (false, (y4.2.1, (y4.2.2.2.2, (y4.2.2.1, y4.2.2.2.1))))))
          else
            (Option.bind (F19 n y4.2.1 y4.2.2.1 y4.2.2.2.1 y4.2.2.2.2) fun y5 =>
            (bif (bNot y5.1) then
              (some (.inr (false, (y5.2.1, (y5.2.2.2.2, (y5.2.2.1, y5.2.2.2.1))))))
            else
              (L a0 true a2 a3 a4 a5 (IntKind.wrap .i64 (a6 + (1 : Int))) y5.2.1 y5.2.2.2.2 y5.2.2.1 y5.2.2.2.1)))))
        else
          (L a0 a1 a2 a3 a4 a5 (IntKind.wrap .i64 (a6 + (1 : Int))) a7 (List.set a8 (Int.toNat a2) (List.set y2 (Int.toNat a6) y3)) a9 a10))))
      else
        none))
    else
      none)
  else
    (some (.inl ((a0, (a1, (a3, a4))), (a7, (a8, (a9, a10)))))))
noncomputable def U9_3 (n : Nat) (L : ((Int × (Bool × (Int × (Int × (Int × (Int × Int)))))) × (Nat × ((List (List (List S57))) × ((List S37) × (List Bool))))) → Option (((Int × (Bool × (Int × Int))) × (Nat × ((List (List (List S57))) × ((List S37) × (List Bool))))) ⊕ (Bool × (Nat × ((List (List (List S57))) × ((List S37) × (List Bool))))))) (x : (Int × (Bool × (Int × (Int × (Int × (Int × Int)))))) × (Nat × ((List (List (List S57))) × ((List S37) × (List Bool))))) : Option (((Int × (Bool × (Int × Int))) × (Nat × ((List (List (List S57))) × ((List S37) × (List Bool))))) ⊕ (Bool × (Nat × ((List (List (List S57))) × ((List S37) × (List Bool)))))) := S9_3 n (fun a0 a1 a2 a3 a4 a5 a6 a7 a8 a9 a10 => L ((a0, (a1, (a2, (a3, (a4, (a5, a6)))))), (a7, (a8, (a9, a10))))) x.1.1 x.1.2.1 x.1.2.2.1 x.1.2.2.2.1 x.1.2.2.2.2.1 x.1.2.2.2.2.2.1 x.1.2.2.2.2.2.2 x.2.1 x.2.2.1 x.2.2.2.1 x.2.2.2.2
noncomputable def L9_3 (n : Nat) (a0 : Int) (a1 : Bool) (a2 : Int) (a3 : Int) (a4 : Int) (a5 : Int) (a6 : Int) (a7 : Nat) (a8 : List (List (List S57))) (a9 : List S37) (a10 : List Bool) : Option (((Int × (Bool × (Int × Int))) × (Nat × ((List (List (List S57))) × ((List S37) × (List Bool))))) ⊕ (Bool × (Nat × ((List (List (List S57))) × ((List S37) × (List Bool)))))) := iter (U9_3 n) n ((a0, (a1, (a2, (a3, (a4, (a5, a6)))))), (a7, (a8, (a9, a10))))
noncomputable def S9_2 (n : Nat) (L : Int → Bool → Int → Int → Nat → (List (List (List S57))) → (List S37) → (List Bool) → Option (((Int × Bool) × (Nat × ((List (List (List S57))) × ((List S37) × (List Bool))))) ⊕ (Bool × (Nat × ((List (List (List S57))) × ((List S37) × (List Bool))))))) (a0 : Int) (a1 : Bool) (a2 : Int) (a3 : Int) (a4 : Nat) (a5 : List (List (List S57))) (a6 : List S37) (a7 : List Bool) : Option (((Int × Bool) × (Nat × ((List (List (List S57))) × ((List S37) × (List Bool))))) ⊕ (Bool × (Nat × ((List (List (List S57))) × ((List S37) × (List Bool)))))) :=
  (bif (decide (a3 < a2)) then
    (bif (decide (0 ≤ a3) && decide (a3 < ((List.length a6 : Nat) : Int))) then
      (Option.bind (a6[(Int.toNat a3)]?) fun y1 =>
      (bif y1.Token_Using then
        (Option.bind (F17 n (7 : Int) a3 (0 : Int) a4 a6 a7 a5) fun y2 =>
        (bif (bNot y2.1) then
          (some (.inr (false, (y2.2.1, (y2.2.2.2.2, (y2.2.2.1, y2.2.2.2.1))))))
        else
          (Option.bind (L9_3 n a0 true a3 a2 a3 ((List.length y2.2.2.1 : Nat) : Int) (0 : Int) y2.2.1 y2.2.2.2.2 y2.2.2.1 y2.2.2.2.1) fun y3 =>
          (Sum.elim (fun y4 => (L y4.1.1 y4.1.2.1 y4.1.2.2.1 (IntKind.wrap .i64 (y4.1.2.2.2 + (1 : Int))) y4.2.1 y4.2.2.1 y4.2.2.2.1 y4.2.2.2.2)) (fun y5 => (some (.inr (y5.1, (y5.2.1, (y5.2.2.1, (y5.2.2.2.1, y5.2.2.2.2))))))) y3))))
      else
        (Option.bind (L9_3 n a0 a1 a3 a2 a3 ((List.length a6 : Nat) : Int) (0 : Int) a4 a5 a6 a7) fun y6 =>
        (Sum.elim (fun y7 => (L y7.1.1 y7.1.2.1 y7.1.2.2.1 (IntKind.wrap .i64 (y7.1.2.2.2 + (1 : Int))) y7.2.1 y7.2.2.1 y7.2.2.2.1 y7.2.2.2.2)) (fun y8 => (some (.inr (y8.1, (y8.2.1, (y8.2.2.1, (y8.2.2.2.1, y8.2.2.2.2))))))) y6))))
    else
      none)
  else
    (some (.inl ((a0, a1), (a4, (a5, (a6, a7)))))))
noncomputable def U9_2 (n : Nat) (L : ((Int × (Bool × (Int × Int))) × (Nat × ((List (List (List S57))) × ((List S37) × (List Bool))))) → Option (((Int × Bool) × (Nat × ((List (List (List S57))) × ((List S37) × (List Bool))))) ⊕ (Bool × (Nat × ((List (List (List S57))) × ((List S37) × (List Bool))))))) (x : (Int × (Bool × (Int × Int))) × (Nat × ((List (List (List S57))) × ((List S37) × (List Bool))))) : Option (((Int × Bool) × (Nat × ((List (List (List S57))) × ((List S37) × (List Bool))))) ⊕ (Bool × (Nat × ((List (List (List S57))) × ((List S37) × (List Bool)))))) := S9_2 n (fun a0 a1 a2 a3 a4 a5 a6 a7 => L ((a0, (a1, (a2, a3))), (a4, (a5, (a6, a7))))) x.1.1 x.1.2.1 x.1.2.2.1 x.1.2.2.2 x.2.1 x.2.2.1 x.2.2.2.1 x.2.2.2.2
noncomputable def L9_2 (n : Nat) (a0 : Int) (a1 : Bool) (a2 : Int) (a3 : Int) (a4 : Nat) (a5 : List (List (List S57))) (a6 : List S37) (a7 : List Bool) : Option (((Int × Bool) × (Nat × ((List (List (List S57))) × ((List S37) × (List Bool))))) ⊕ (Bool × (Nat × ((List (List (List S57))) × ((List S37) × (List Bool)))))) := iter (U9_2 n) n ((a0, (a1, (a2, a3))), (a4, (a5, (a6, a7))))
noncomputable def S9_1 (n : Nat) (L : Int → Nat → (List (List (List S57))) → (List S37) → (List Bool) → Option ((Nat × ((List (List (List S57))) × ((List S37) × (List Bool)))) ⊕ (Bool × (Nat × ((List (List (List S57))) × ((List S37) × (List Bool))))))) (a0 : Int) (a1 : Nat) (a2 : List (List (List S57))) (a3 : List S37) (a4 : List Bool) : Option ((Nat × ((List (List (List S57))) × ((List S37) × (List Bool)))) ⊕ (Bool × (Nat × ((List (List (List S57))) × ((List S37) × (List Bool)))))) :=
  (bif (decide (a0 < (3000 : Int))) then
    (Option.bind (L9_2 n a0 false ((List.length a3 : Nat) : Int) (0 : Int) a1 a2 a3 a4) fun y1 =>
    (Sum.elim (fun y2 => (bif (bNot y2.1.2) then
      (some (.inr (true, (y2.2.1, (y2.2.2.1, (y2.2.2.2.1, y2.2.2.2.2))))))
    else
      (L (IntKind.wrap .i64 (y2.1.1 + (1 : Int))) y2.2.1 y2.2.2.1 y2.2.2.2.1 y2.2.2.2.2))) (fun y3 => (some (.inr (y3.1, (y3.2.1, (y3.2.2.1, (y3.2.2.2.1, y3.2.2.2.2))))))) y1))
  else
    (some (.inl (a1, (a2, (a3, a4))))))
noncomputable def U9_1 (n : Nat) (L : (Int × (Nat × ((List (List (List S57))) × ((List S37) × (List Bool))))) → Option ((Nat × ((List (List (List S57))) × ((List S37) × (List Bool)))) ⊕ (Bool × (Nat × ((List (List (List S57))) × ((List S37) × (List Bool))))))) (x : Int × (Nat × ((List (List (List S57))) × ((List S37) × (List Bool))))) : Option ((Nat × ((List (List (List S57))) × ((List S37) × (List Bool)))) ⊕ (Bool × (Nat × ((List (List (List S57))) × ((List S37) × (List Bool)))))) := S9_1 n (fun a0 a1 a2 a3 a4 => L (a0, (a1, (a2, (a3, a4))))) x.1 x.2.1 x.2.2.1 x.2.2.2.1 x.2.2.2.2
noncomputable def L9_1 (n : Nat) (a0 : Int) (a1 : Nat) (a2 : List (List (List S57))) (a3 : List S37) (a4 : List Bool) : Option ((Nat × ((List (List (List S57))) × ((List S37) × (List Bool)))) ⊕ (Bool × (Nat × ((List (List (List S57))) × ((List S37) × (List Bool)))))) := iter (U9_1 n) n (a0, (a1, (a2, (a3, a4))))
noncomputable def S9_0 (n : Nat) (L : Int → Int → Nat → (List (List (List S57))) → (List S37) → (List Bool) → Option ((Nat × ((List (List (List S57))) × ((List S37) × (List Bool)))) ⊕ (Bool × (Nat × ((List (List (List S57))) × ((List S37) × (List Bool))))))) (a0 : Int) (a1 : Int) (a2 : Nat) (a3 : List (List (List S57))) (a4 : List S37) (a5 : List Bool) : Option ((Nat × ((List (List (List S57))) × ((List S37) × (List Bool)))) ⊕ (Bool × (Nat × ((List (List (List S57))) × ((List S37) × (List Bool)))))) :=
  (bif (decide (a1 < a0)) then
    (bif (decide (0 ≤ a1) && decide (a1 < ((List.length a5 : Nat) : Int))) then
      (Option.bind (a5[(Int.toNat a1)]?) fun y1 =>
      (bif (bNot y1) then
        (Option.bind (F17 n (7 : Int) a1 (0 : Int) a2 a4 a5 a3) fun y2 =>
        (bif (bNot y2.1) then
          (some (.inr (false, (y2.2.1, (y2.2.2.2.2, (y2.2.2.1, y2.2.2.2.1))))))
        else
          (L a0 (IntKind.wrap .i64 (a1 + (1 : Int))) y2.2.1 y2.2.2.2.2 y2.2.2.1 y2.2.2.2.1)))
      else
        (L a0 (IntKind.wrap .i64 (a1 + (1 : Int))) a2 a3 a4 a5)))
    else
      none)
  else
    (some (.inl (a2, (a3, (a4, a5))))))
noncomputable def U9_0 (n : Nat) (L : ((Int × Int) × (Nat × ((List (List (List S57))) × ((List S37) × (List Bool))))) → Option ((Nat × ((List (List (List S57))) × ((List S37) × (List Bool)))) ⊕ (Bool × (Nat × ((List (List (List S57))) × ((List S37) × (List Bool))))))) (x : (Int × Int) × (Nat × ((List (List (List S57))) × ((List S37) × (List Bool))))) : Option ((Nat × ((List (List (List S57))) × ((List S37) × (List Bool)))) ⊕ (Bool × (Nat × ((List (List (List S57))) × ((List S37) × (List Bool)))))) := S9_0 n (fun a0 a1 a2 a3 a4 a5 => L ((a0, a1), (a2, (a3, (a4, a5))))) x.1.1 x.1.2 x.2.1 x.2.2.1 x.2.2.2.1 x.2.2.2.2
noncomputable def L9_0 (n : Nat) (a0 : Int) (a1 : Int) (a2 : Nat) (a3 : List (List (List S57))) (a4 : List S37) (a5 : List Bool) : Option ((Nat × ((List (List (List S57))) × ((List S37) × (List Bool)))) ⊕ (Bool × (Nat × ((List (List (List S57))) × ((List S37) × (List Bool)))))) := iter (U9_0 n) n ((a0, a1), (a2, (a3, (a4, a5))))
noncomputable def F9 (n : Nat) (a0 : Nat) (a1 : List S37) (a2 : List Bool) (a3 : List (List (List S57))) : Option (Bool × (Nat × ((List S37) × ((List Bool) × (List (List (List S57))))))) :=
  (Option.bind (L9_0 n ((List.length a1 : Nat) : Int) (0 : Int) a0 a3 a1 a2) fun y1 =>
  (Sum.elim (fun y2 => (Option.bind (L9_1 n (0 : Int) y2.1 y2.2.1 y2.2.2.1 y2.2.2.2) fun y4 =>
  (Sum.elim (fun y5 => (some (false, (y5.1, (y5.2.2.1, (y5.2.2.2, y5.2.1)))))) (fun y6 => (some (y6.1, (y6.2.1, (y6.2.2.2.1, (y6.2.2.2.2, y6.2.2.1)))))) y4))) (fun y3 => (some (y3.1, (y3.2.1, (y3.2.2.2.1, (y3.2.2.2.2, y3.2.2.1)))))) y1))
noncomputable def c9 : Co (List (EV gam) × List (Ent gam)) (Nat × ((List S37) × ((List Bool) × (List (List (List S57)))))) := (.pairU (.consU (.ptr gam 0 0) (.nil _)) (.cons (.box (.consU (.ow gam 1) (.consU (.ow gam 2) (.consL (.spn gam 3) (.nil _))))) (.cons (.row gam (.st 37) 0) (.cons (.row gam .bool 0) (.consL (.tree gam false (.st 57)) (.nil _))))))
noncomputable def r9 : Co (EV gam × List (Ent gam) × List (Ent gam)) (Bool × (Nat × ((List S37) × ((List Bool) × (List (List (List S57))))))) := (.pair (.d gam .bool) (.pairL (.cons (.box (.consU (.ow gam 1) (.consU (.ow gam 2) (.consL (.spn gam 3) (.nil _))))) (.cons (.row gam (.st 37) 0) (.cons (.row gam .bool 0) (.consL (.tree gam false (.st 57)) (.nil _))))) (.nil _)))
noncomputable def b9 : Code := (Try.f9.body).getD .skip
noncomputable def b9_0 : Code := (loopsIn b9).getD 0 .skip
noncomputable def kp9_0 : Keep := { slots := [0, 12, 13], rows := [((0, some 0), 1, (.st 37)), ((0, some 1), 2, .bool)], boxes := [0, 3], tombs := [] }
noncomputable def c9_0 : Co (List (EV gam) × List (Ent gam)) ((Int × Int) × (Nat × ((List (List (List S57))) × ((List S37) × (List Bool))))) := (.pair (.consU (.ptr gam 0 0) (.cons (.d gam (.int .i64)) (.consL (.d gam (.int .i64)) (.nil _)))) (.cons (.box (.consU (.ow gam 1) (.consU (.ow gam 2) (.consL (.spn gam 3) (.nil _))))) (.cons (.tree gam false (.st 57)) (.cons (.row gam (.st 37) 0) (.consL (.row gam .bool 0) (.nil _))))))
noncomputable def x9_0 : Xc gam ((Nat × ((List (List (List S57))) × ((List S37) × (List Bool)))) ⊕ (Bool × (Nat × ((List (List (List S57))) × ((List S37) × (List Bool)))))) := (.or (.one (.exit 0) { slots := [0], rows := [((0, some 0), 1, (.st 37)), ((0, some 1), 2, .bool)], boxes := [0, 3], tombs := [] } (.pairU (.consU (.ptr gam 0 0) (.nil _)) (.cons (.box (.consU (.ow gam 1) (.consU (.ow gam 2) (.consL (.spn gam 3) (.nil _))))) (.cons (.tree gam false (.st 57)) (.cons (.row gam (.st 37) 0) (.consL (.row gam .bool 0) (.nil _))))))) (.one .ret { slots := [2], rows := [((0, some 0), 1, (.st 37)), ((0, some 1), 2, .bool)], boxes := [0, 3], tombs := [] } (.pair (.consL (.d gam .bool) (.nil _)) (.cons (.box (.consU (.ow gam 1) (.consU (.ow gam 2) (.consL (.spn gam 3) (.nil _))))) (.cons (.tree gam false (.st 57)) (.cons (.row gam (.st 37) 0) (.consL (.row gam .bool 0) (.nil _))))))))
noncomputable def b9_1 : Code := (loopsIn b9).getD 1 .skip
noncomputable def kp9_1 : Keep := { slots := [0, 4], rows := [((0, some 0), 1, (.st 37)), ((0, some 1), 2, .bool)], boxes := [0, 3], tombs := [] }
noncomputable def c9_1 : Co (List (EV gam) × List (Ent gam)) (Int × (Nat × ((List (List (List S57))) × ((List S37) × (List Bool))))) := (.pair (.consU (.ptr gam 0 0) (.consL (.d gam (.int .i64)) (.nil _))) (.cons (.box (.consU (.ow gam 1) (.consU (.ow gam 2) (.consL (.spn gam 3) (.nil _))))) (.cons (.tree gam false (.st 57)) (.cons (.row gam (.st 37) 0) (.consL (.row gam .bool 0) (.nil _))))))
noncomputable def x9_1 : Xc gam ((Nat × ((List (List (List S57))) × ((List S37) × (List Bool)))) ⊕ (Bool × (Nat × ((List (List (List S57))) × ((List S37) × (List Bool)))))) := (.or (.one (.exit 2) { slots := [], rows := [((0, some 0), 1, (.st 37)), ((0, some 1), 2, .bool)], boxes := [0, 3], tombs := [] } (.pairU (.nil _) (.cons (.box (.consU (.ow gam 1) (.consU (.ow gam 2) (.consL (.spn gam 3) (.nil _))))) (.cons (.tree gam false (.st 57)) (.cons (.row gam (.st 37) 0) (.consL (.row gam .bool 0) (.nil _))))))) (.one .ret { slots := [2], rows := [((0, some 0), 1, (.st 37)), ((0, some 1), 2, .bool)], boxes := [0, 3], tombs := [] } (.pair (.consL (.d gam .bool) (.nil _)) (.cons (.box (.consU (.ow gam 1) (.consU (.ow gam 2) (.consL (.spn gam 3) (.nil _))))) (.cons (.tree gam false (.st 57)) (.cons (.row gam (.st 37) 0) (.consL (.row gam .bool 0) (.nil _))))))))
noncomputable def b9_2 : Code := (loopsIn b9).getD 2 .skip
noncomputable def kp9_2 : Keep := { slots := [0, 4, 5, 39, 40], rows := [((0, some 0), 1, (.st 37)), ((0, some 1), 2, .bool)], boxes := [0, 3], tombs := [] }
noncomputable def c9_2 : Co (List (EV gam) × List (Ent gam)) ((Int × (Bool × (Int × Int))) × (Nat × ((List (List (List S57))) × ((List S37) × (List Bool))))) := (.pair (.consU (.ptr gam 0 0) (.cons (.d gam (.int .i64)) (.cons (.d gam .bool) (.cons (.d gam (.int .i64)) (.consL (.d gam (.int .i64)) (.nil _)))))) (.cons (.box (.consU (.ow gam 1) (.consU (.ow gam 2) (.consL (.spn gam 3) (.nil _))))) (.cons (.tree gam false (.st 57)) (.cons (.row gam (.st 37) 0) (.consL (.row gam .bool 0) (.nil _))))))
noncomputable def x9_2 : Xc gam (((Int × Bool) × (Nat × ((List (List (List S57))) × ((List S37) × (List Bool))))) ⊕ (Bool × (Nat × ((List (List (List S57))) × ((List S37) × (List Bool)))))) := (.or (.one (.exit 4) { slots := [0, 4, 5], rows := [((0, some 0), 1, (.st 37)), ((0, some 1), 2, .bool)], boxes := [0, 3], tombs := [] } (.pair (.consU (.ptr gam 0 0) (.cons (.d gam (.int .i64)) (.consL (.d gam .bool) (.nil _)))) (.cons (.box (.consU (.ow gam 1) (.consU (.ow gam 2) (.consL (.spn gam 3) (.nil _))))) (.cons (.tree gam false (.st 57)) (.cons (.row gam (.st 37) 0) (.consL (.row gam .bool 0) (.nil _))))))) (.one .ret { slots := [2], rows := [((0, some 0), 1, (.st 37)), ((0, some 1), 2, .bool)], boxes := [0, 3], tombs := [] } (.pair (.consL (.d gam .bool) (.nil _)) (.cons (.box (.consU (.ow gam 1) (.consU (.ow gam 2) (.consL (.spn gam 3) (.nil _))))) (.cons (.tree gam false (.st 57)) (.cons (.row gam (.st 37) 0) (.consL (.row gam .bool 0) (.nil _))))))))
noncomputable def b9_3 : Code := (loopsIn b9).getD 3 .skip
noncomputable def kp9_3 : Keep := { slots := [0, 4, 5, 6, 39, 40, 60, 61], rows := [((0, some 0), 1, (.st 37)), ((0, some 1), 2, .bool)], boxes := [0, 3], tombs := [] }
noncomputable def c9_3 : Co (List (EV gam) × List (Ent gam)) ((Int × (Bool × (Int × (Int × (Int × (Int × Int)))))) × (Nat × ((List (List (List S57))) × ((List S37) × (List Bool))))) := (.pair (.consU (.ptr gam 0 0) (.cons (.d gam (.int .i64)) (.cons (.d gam .bool) (.cons (.d gam (.int .i64)) (.cons (.d gam (.int .i64)) (.cons (.d gam (.int .i64)) (.cons (.d gam (.int .i64)) (.consL (.d gam (.int .i64)) (.nil _))))))))) (.cons (.box (.consU (.ow gam 1) (.consU (.ow gam 2) (.consL (.spn gam 3) (.nil _))))) (.cons (.tree gam false (.st 57)) (.cons (.row gam (.st 37) 0) (.consL (.row gam .bool 0) (.nil _))))))
noncomputable def x9_3 : Xc gam (((Int × (Bool × (Int × Int))) × (Nat × ((List (List (List S57))) × ((List S37) × (List Bool))))) ⊕ (Bool × (Nat × ((List (List (List S57))) × ((List S37) × (List Bool)))))) := (.or (.one (.exit 6) { slots := [0, 4, 5, 39, 40], rows := [((0, some 0), 1, (.st 37)), ((0, some 1), 2, .bool)], boxes := [0, 3], tombs := [] } (.pair (.consU (.ptr gam 0 0) (.cons (.d gam (.int .i64)) (.cons (.d gam .bool) (.cons (.d gam (.int .i64)) (.consL (.d gam (.int .i64)) (.nil _)))))) (.cons (.box (.consU (.ow gam 1) (.consU (.ow gam 2) (.consL (.spn gam 3) (.nil _))))) (.cons (.tree gam false (.st 57)) (.cons (.row gam (.st 37) 0) (.consL (.row gam .bool 0) (.nil _))))))) (.one .ret { slots := [2], rows := [((0, some 0), 1, (.st 37)), ((0, some 1), 2, .bool)], boxes := [0, 3], tombs := [] } (.pair (.consL (.d gam .bool) (.nil _)) (.cons (.box (.consU (.ow gam 1) (.consU (.ow gam 2) (.consL (.spn gam 3) (.nil _))))) (.cons (.tree gam false (.st 57)) (.cons (.row gam (.st 37) 0) (.consL (.row gam .bool 0) (.nil _))))))))
noncomputable def t9_0 (n : Nat) : LoopT gam := loopT kp9_0 c9_0 x9_0 (iter (U9_0 n) n)
noncomputable def t9_1 (n : Nat) : LoopT gam := loopT kp9_1 c9_1 x9_1 (iter (U9_1 n) n)
noncomputable def t9_2 (n : Nat) : LoopT gam := loopT kp9_2 c9_2 x9_2 (iter (U9_2 n) n)
noncomputable def t9_3 (n : Nat) : LoopT gam := loopT kp9_3 c9_3 x9_3 (iter (U9_3 n) n)
noncomputable def e9 (n : Nat) : FnT gam := fnN [] (fnT [] c9 r9 (fun x => F9 n x.1 x.2.1 x.2.2.1 x.2.2.2))
noncomputable def p9 (a : List (EV gam)) (l : List (Ent gam)) : Bool := (c9.dec (nilArgs [] a, l)).isSome
noncomputable def env9 (n : Nat) : Env gam := { P := Try.prog, fns := lookU [(17, e17 n), (19, e19 n), (20, e20 n)], loops := lookU [(2, t9_0 n), (8, t9_1 n), (12, t9_2 n), (19, t9_3 n)], nt := 90, m := 4, keeps := [], eqs := [], tr := true }
theorem env9_ok (n : Nat) : EnvOK (env9 n) := .of _ rfl (by exact ⟨ok17 n, ok19 n, ok20 n, trivial⟩) (by exact fun t h => nomatch h) (by kernel_rfl)
theorem lin9_3 (n : Nat) : LoopsOK (env9 n) b9_3 := .of [] (by kernel_rfl) trivial
theorem lok9_3 (n : Nat) : LoopOK (env9 n) b9_3 (t9_3 n) := loopT_ok (env9_ok n) (lin9_3 n) (fun L x => by kernel_rfl) n
theorem lin9_2 (n : Nat) : LoopsOK (env9 n) b9_2 := .of [(b9_3, 19, t9_3 n)] (by kernel_rfl) ⟨by kernel_rfl, by kernel_rfl, lok9_3 n, trivial⟩
theorem lok9_2 (n : Nat) : LoopOK (env9 n) b9_2 (t9_2 n) := loopT_ok (env9_ok n) (lin9_2 n) (fun L x => by kernel_rfl) n
theorem lin9_1 (n : Nat) : LoopsOK (env9 n) b9_1 := .of [(b9_2, 12, t9_2 n), (b9_3, 19, t9_3 n)] (by kernel_rfl) ⟨by kernel_rfl, by kernel_rfl, lok9_2 n, by kernel_rfl, by kernel_rfl, lok9_3 n, trivial⟩
theorem lok9_1 (n : Nat) : LoopOK (env9 n) b9_1 (t9_1 n) := loopT_ok (env9_ok n) (lin9_1 n) (fun L x => by kernel_rfl) n
theorem lin9_0 (n : Nat) : LoopsOK (env9 n) b9_0 := .of [] (by kernel_rfl) trivial
theorem lok9_0 (n : Nat) : LoopOK (env9 n) b9_0 (t9_0 n) := loopT_ok (env9_ok n) (lin9_0 n) (fun L x => by kernel_rfl) n
theorem lin9 (n : Nat) : LoopsOK (env9 n) b9 := .of [(b9_0, 2, t9_0 n), (b9_1, 8, t9_1 n), (b9_2, 12, t9_2 n), (b9_3, 19, t9_3 n)] (by kernel_rfl) ⟨by kernel_rfl, by kernel_rfl, lok9_0 n, by kernel_rfl, by kernel_rfl, lok9_1 n, by kernel_rfl, by kernel_rfl, lok9_2 n, by kernel_rfl, by kernel_rfl, lok9_3 n, trivial⟩
theorem eq9 (n : Nat) (x : Nat × ((List S37) × ((List Bool) × (List (List (List S57)))))) : (F9 n x.1 x.2.1 x.2.2.1 x.2.2.2) = fnE (env9 n) Try.f9 [[.asis]] none c9 r9 x := by kernel_rfl
theorem okt9 (n : Nat) : FnOK Try.prog 9 (fnT (G := gam) [] c9 r9 (fun x => F9 n x.1 x.2.1 x.2.2.1 x.2.2.2)) := fnT_ok (env9_ok n) (by kernel_rfl) (by kernel_rfl) (by kernel_rfl) (b := b9) (by kernel_rfl) (fun x => by kernel_rfl) (lin9 n) (eq9 n)
theorem ok9 (n : Nat) : FnOK Try.prog 9 (e9 n) := fnN_ok (okt9 n)
/-! ### clusterlockslaw28.RegenThere -/
noncomputable def S4_0 (n : Nat) (L : Int → Int → Int → Nat → Int → Bool → Bool → (List Bool) → Bool → Bool → Bool → Int → Int → (List (List (List S57))) → (List S37) → (List Bool) → Option (Int ⊕ Bool)) (a0 : Int) (a1 : Int) (a2 : Int) (a3 : Nat) (a4 : Int) (a5 : Bool) (a6 : Bool) (a7 : List Bool) (a8 : Bool) (a9 : Bool) (a10 : Bool) (a11 : Int) (a12 : Int) (a13 : List (List (List S57))) (a14 : List S37) (a15 : List Bool) : Option (Int ⊕ Bool) :=
  (bif (decide (a2 < a1)) then
    (bif (decide (0 ≤ a2) && decide (a2 < ((List.length a14 : Nat) : Int))) then
      (Option.bind (a14[(Int.toNat a2)]?) fun y1 =>
      (bif y1.Token_Has then
        (bif (decide (0 ≤ a2) && decide (a2 < ((List.length a14 : Nat) : Int))) then
          (Option.bind (a14[(Int.toNat a2)]?) fun y2 =>
          (bif y2.Token_Want then
            (some (.inr false))
          else
            (bif (decide (0 ≤ a2) && decide (a2 < ((List.length a14 : Nat) : Int))) then
              (Option.bind (a14[(Int.toNat a2)]?) fun y3 =>
              (bif y3.Lost then
                (some (.inr false))
              else
                (bif (decide (0 ≤ a2) && decide (a2 < ((List.length a14 : Nat) : Int))) then
                  (Option.bind (a14[(Int.toNat a2)]?) fun y4 =>
                  (bif y4.Asking then
                    (some (.inr false))
                  else
                    (bif (decide (0 ≤ a2) && decide (a2 < ((List.length a14 : Nat) : Int))) then
                      (Option.bind (a14[(Int.toNat a2)]?) fun y5 =>
                      (bif (y5.Epoch != a4) then
                        (some (.inr false))
                      else
                        (L (IntKind.wrap .i64 (a0 + (1 : Int))) a1 (IntKind.wrap .i64 (a2 + (1 : Int))) a3 a4 a5 a6 a7 a8 a9 a10 a11 a12 a13 a14 a15)))
                    else
                      none)))
                else
                  none)))
            else
              none)))
        else
          none)
      else
        (bif (decide (0 ≤ a2) && decide (a2 < ((List.length a14 : Nat) : Int))) then
          (Option.bind (a14[(Int.toNat a2)]?) fun y6 =>
          (bif y6.Token_Want then
            (some (.inr false))
          else
            (bif (decide (0 ≤ a2) && decide (a2 < ((List.length a14 : Nat) : Int))) then
              (Option.bind (a14[(Int.toNat a2)]?) fun y7 =>
              (bif y7.Lost then
                (some (.inr false))
              else
                (bif (decide (0 ≤ a2) && decide (a2 < ((List.length a14 : Nat) : Int))) then
                  (Option.bind (a14[(Int.toNat a2)]?) fun y8 =>
                  (bif y8.Asking then
                    (some (.inr false))
                  else
                    (bif (decide (0 ≤ a2) && decide (a2 < ((List.length a14 : Nat) : Int))) then
                      (Option.bind (a14[(Int.toNat a2)]?) fun y9 =>
                      (bif (y9.Epoch != a4) then
                        (some (.inr false))
                      else
                        (L a0 a1 (IntKind.wrap .i64 (a2 + (1 : Int))) a3 a4 a5 a6 a7 a8 a9 a10 a11 a12 a13 a14 a15)))
                    else
                      none)))
                else
                  none)))
            else
              none)))
        else
          none)))
    else
      none)
  else
    (some (.inl a0)))
noncomputable def U4_0 (n : Nat) (L : ((Int × (Int × Int)) × (Nat × ((Int × (Bool × (Bool × ((List Bool) × (Bool × (Bool × (Bool × (Int × Int)))))))) × ((List (List (List S57))) × ((List S37) × (List Bool)))))) → Option (Int ⊕ Bool)) (x : (Int × (Int × Int)) × (Nat × ((Int × (Bool × (Bool × ((List Bool) × (Bool × (Bool × (Bool × (Int × Int)))))))) × ((List (List (List S57))) × ((List S37) × (List Bool)))))) : Option (Int ⊕ Bool) := S4_0 n (fun a0 a1 a2 a3 a4 a5 a6 a7 a8 a9 a10 a11 a12 a13 a14 a15 => L ((a0, (a1, a2)), (a3, ((a4, (a5, (a6, (a7, (a8, (a9, (a10, (a11, a12)))))))), (a13, (a14, a15)))))) x.1.1 x.1.2.1 x.1.2.2 x.2.1 x.2.2.1.1 x.2.2.1.2.1 x.2.2.1.2.2.1 x.2.2.1.2.2.2.1 x.2.2.1.2.2.2.2.1 x.2.2.1.2.2.2.2.2.1 x.2.2.1.2.2.2.2.2.2.1 x.2.2.1.2.2.2.2.2.2.2.1 x.2.2.1.2.2.2.2.2.2.2.2 x.2.2.2.1 x.2.2.2.2.1 x.2.2.2.2.2
noncomputable def L4_0 (n : Nat) (a0 : Int) (a1 : Int) (a2 : Int) (a3 : Nat) (a4 : Int) (a5 : Bool) (a6 : Bool) (a7 : List Bool) (a8 : Bool) (a9 : Bool) (a10 : Bool) (a11 : Int) (a12 : Int) (a13 : List (List (List S57))) (a14 : List S37) (a15 : List Bool) : Option (Int ⊕ Bool) := iter (U4_0 n) n ((a0, (a1, a2)), (a3, ((a4, (a5, (a6, (a7, (a8, (a9, (a10, (a11, a12)))))))), (a13, (a14, a15)))))
noncomputable def F4 (n : Nat) (a0 : List Int) (a1 : Int) (a2 : Int) : Option Bool :=
  (Option.bind (F6 n a0) fun y1 =>
  (bif (bNot y1) then
    (Option.bind (F7 n ()) fun y2 =>
    (some y2))
  else
    (bif ((4 : Int) == 0) then
      none
    else
      (Option.bind (F8 n a0 (IntKind.wrap .i64 ((1 : Int) + (Int.tmod (IntKind.wrap .i64 a1) (4 : Int))))) fun y3 =>
      (bif (bNot y3.1) then
        (some false)
      else
        (Option.bind (F9 n y3.2.1 y3.2.2.1 y3.2.2.2.1 y3.2.2.2.2) fun y4 =>
        (bif (bNot y4.1) then
          (some false)
        else
          (bif (((List.length y4.2.2.1 : Nat) : Int) == 0) then
            none
          else
            (bif (decide (0 ≤ (Int.tmod (IntKind.wrap .i64 a2) ((List.length y4.2.2.1 : Nat) : Int))) && decide ((Int.tmod (IntKind.wrap .i64 a2) ((List.length y4.2.2.1 : Nat) : Int)) < ((List.length y4.2.2.1 : Nat) : Int))) then
              (Option.bind (y4.2.2.1[(Int.toNat (Int.tmod (IntKind.wrap .i64 a2) ((List.length y4.2.2.1 : Nat) : Int)))]?) fun y5 =>
              (Option.bind (F10 n y5 (Int.tmod (IntKind.wrap .i64 a2) ((List.length y4.2.2.1 : Nat) : Int)) ((List.length y4.2.2.1 : Nat) : Int)) fun y6 =>
              (bif (y6.2.2 != (0 : Int)) then
                (some false)
              else
                (Option.bind (F11 n (Int.tmod (IntKind.wrap .i64 a2) ((List.length y4.2.2.1 : Nat) : Int)) y6.1 y6.2.1 y4.2.1 y4.2.2.1 y4.2.2.2.1 y4.2.2.2.2) fun y7 =>
                (bif (bNot y7.1) then
                  (some false)
                else
                  (Option.bind (F9 n y7.2.1 y7.2.2.1 y7.2.2.2.1 y7.2.2.2.2) fun y8 =>
                  (bif (bNot y8.1) then
                    (some false)
                  else
                    (Option.bind (L4_0 n (0 : Int) ((List.length y8.2.2.1 : Nat) : Int) (0 : Int) y8.2.1 y6.1.Epoch y6.1.Lost y6.1.Asking y6.1.Promised y6.1.Token_Has y6.1.Token_Want y6.1.Token_Using y6.1.Token_Last y6.1.Token_Next y8.2.2.2.2 y8.2.2.1 y8.2.2.2.1) fun y9 =>
                    (Sum.elim (fun y10 => (Option.bind (F7 n ()) fun y12 =>
                    (bif y12 then (some (y10 == (1 : Int))) else (some false)))) (fun y11 => (some y11)) y9)))))))))
            else
              none)))))))))
noncomputable def c4 : Co (List (EV gam) × List (Ent gam)) ((List Int) × (Int × Int)) := (.pairL (.cons (.d gam (.sl (.int .i64))) (.cons (.d gam (.int .u8)) (.consL (.d gam (.int .u8)) (.nil _)))) (.nil _))
noncomputable def r4 : Co (EV gam × List (Ent gam) × List (Ent gam)) Bool := (.pairL (.d gam .bool) (.pairU (.nil _) (.nil _)))
noncomputable def b4 : Code := (Try.f4.body).getD .skip
noncomputable def b4_0 : Code := (loopsIn b4).getD 0 .skip
noncomputable def kp4_0 : Keep := { slots := [7, 10, 13, 80, 81], rows := [((3006000, some 0), 7001000000, (.st 37)), ((3006000, some 1), 7001000101, .bool)], boxes := [3006000, 7019000, 3006003], tombs := [] }
noncomputable def c4_0 : Co (List (EV gam) × List (Ent gam)) ((Int × (Int × Int)) × (Nat × ((Int × (Bool × (Bool × ((List Bool) × (Bool × (Bool × (Bool × (Int × Int)))))))) × ((List (List (List S57))) × ((List S37) × (List Bool)))))) := (.pair (.consU (.ptr gam 3006000 0) (.consU (.ptr gam 7019000 0) (.cons (.d gam (.int .i64)) (.cons (.d gam (.int .i64)) (.consL (.d gam (.int .i64)) (.nil _)))))) (.cons (.box (.consU (.ow gam 7001000000) (.consU (.ow gam 7001000101) (.consL (.spn gam 3006003) (.nil _))))) (.cons (.box (.cons (.d gam (.int .i64)) (.cons (.d gam .bool) (.cons (.d gam .bool) (.cons (.d gam (.sl .bool)) (.cons (.d gam .bool) (.cons (.d gam .bool) (.cons (.d gam .bool) (.cons (.d gam (.int .i64)) (.consL (.d gam (.int .i64)) (.nil _))))))))))) (.cons (.tree gam false (.st 57)) (.cons (.row gam (.st 37) 0) (.consL (.row gam .bool 0) (.nil _)))))))
noncomputable def x4_0 : Xc gam (Int ⊕ Bool) := (.or (.one (.exit 0) { slots := [13], rows := [], boxes := [], tombs := [] } (.pairL (.consL (.d gam (.int .i64)) (.nil _)) (.nil _))) (.one .ret { slots := [6], rows := [], boxes := [], tombs := [] } (.pairL (.consL (.d gam .bool) (.nil _)) (.nil _))))
noncomputable def t4_0 (n : Nat) : LoopT gam := loopT kp4_0 c4_0 x4_0 (iter (U4_0 n) n)
noncomputable def e4 (n : Nat) : FnT gam := fnN [[some (.int .i64)]] (fnT [] c4 r4 (fun x => F4 n x.1 x.2.1 x.2.2))
noncomputable def p4 (a : List (EV gam)) (l : List (Ent gam)) : Bool := (c4.dec (nilArgs [[some (.int .i64)]] a, l)).isSome
noncomputable def env4 (n : Nat) : Env gam := { P := Try.prog, fns := lookU [(6, e6 n), (7, e7 n), (8, e8 n), (9, e9 n), (10, e10 n), (11, e11 n)], loops := lookU [(12, t4_0 n)], nt := 143, m := 0, keeps := [], eqs := [] }
theorem env4_ok (n : Nat) : EnvOK (env4 n) := .of _ rfl (by exact ⟨ok6 n, ok7 n, ok8 n, ok9 n, ok10 n, ok11 n, trivial⟩) (by exact fun t h => nomatch h) (by kernel_rfl)
theorem lin4_0 (n : Nat) : LoopsOK (env4 n) b4_0 := .of [] (by kernel_rfl) trivial
theorem lok4_0 (n : Nat) : LoopOK (env4 n) b4_0 (t4_0 n) := loopT_ok (env4_ok n) (lin4_0 n) (fun L x => by kernel_rfl) n
theorem lin4 (n : Nat) : LoopsOK (env4 n) b4 := .of [(b4_0, 12, t4_0 n)] (by kernel_rfl) ⟨by kernel_rfl, by kernel_rfl, lok4_0 n, trivial⟩
theorem eq4 (n : Nat) (x : (List Int) × (Int × Int)) : (F4 n x.1 x.2.1 x.2.2) = fnE (env4 n) Try.f4 [[.asis]] none c4 r4 x := by kernel_rfl
theorem okt4 (n : Nat) : FnOK Try.prog 4 (fnT (G := gam) [] c4 r4 (fun x => F4 n x.1 x.2.1 x.2.2)) := fnT_ok (env4_ok n) (by kernel_rfl) (by kernel_rfl) (by kernel_rfl) (b := b4) (by kernel_rfl) (fun x => by kernel_rfl) (lin4 n) (eq4 n)
theorem ok4 (n : Nat) : FnOK Try.prog 4 (e4 n) := fnN_ok (okt4 n)
/-! ### clusterlockslaw28.RegenRises -/
noncomputable def S5_1 (n : Nat) (L : Int → Int → Int → Int → Int → Int → Int → Nat → (List (List (List S57))) → (List S37) → (List Bool) → (List S57) → Option (((Int × (Int × (Int × (Int × Int)))) × (Nat × ((List (List (List S57))) × ((List S37) × (List Bool))))) ⊕ Bool)) (a0 : Int) (a1 : Int) (a2 : Int) (a3 : Int) (a4 : Int) (a5 : Int) (a6 : Int) (a7 : Nat) (a8 : List (List (List S57))) (a9 : List S37) (a10 : List Bool) (a11 : List S57) : Option (((Int × (Int × (Int × (Int × Int)))) × (Nat × ((List (List (List S57))) × ((List S37) × (List Bool))))) ⊕ Bool) :=
  (bif (decide (a6 < a5)) then
    (bif (decide (0 ≤ a6) && decide (a6 < ((List.length a11 : Nat) : Int))) then
      (Option.bind (a11[(Int.toNat a6)]?) fun y1 =>
      (bif (decide (0 ≤ a1) && decide (a1 < ((List.length a9 : Nat) : Int))) then
        (Option.bind (a9[(Int.toNat a1)]?) fun y2 =>
        (Option.bind (F13 n y2 a1 ((List.length a9 : Nat) : Int) a2 y1) fun y3 =>
        (bif (y3.2.2 != (18 : Int)) then
          (some (.inr false))
        else
          (L a0 a1 a2 a3 a4 a5 (IntKind.wrap .i64 (a6 + (1 : Int))) a7 a8 a9 a10 a11))))
      else
        none))
    else
      none)
  else
    (some (.inl ((a0, (a1, (a2, (a3, a4)))), (a7, (a8, (a9, a10)))))))
noncomputable def U5_1 (n : Nat) (L : ((Int × (Int × (Int × (Int × (Int × (Int × Int)))))) × (Nat × ((List (List (List S57))) × ((List S37) × ((List Bool) × (List S57)))))) → Option (((Int × (Int × (Int × (Int × Int)))) × (Nat × ((List (List (List S57))) × ((List S37) × (List Bool))))) ⊕ Bool)) (x : (Int × (Int × (Int × (Int × (Int × (Int × Int)))))) × (Nat × ((List (List (List S57))) × ((List S37) × ((List Bool) × (List S57)))))) : Option (((Int × (Int × (Int × (Int × Int)))) × (Nat × ((List (List (List S57))) × ((List S37) × (List Bool))))) ⊕ Bool) := S5_1 n (fun a0 a1 a2 a3 a4 a5 a6 a7 a8 a9 a10 a11 => L ((a0, (a1, (a2, (a3, (a4, (a5, a6)))))), (a7, (a8, (a9, (a10, a11)))))) x.1.1 x.1.2.1 x.1.2.2.1 x.1.2.2.2.1 x.1.2.2.2.2.1 x.1.2.2.2.2.2.1 x.1.2.2.2.2.2.2 x.2.1 x.2.2.1 x.2.2.2.1 x.2.2.2.2.1 x.2.2.2.2.2
noncomputable def L5_1 (n : Nat) (a0 : Int) (a1 : Int) (a2 : Int) (a3 : Int) (a4 : Int) (a5 : Int) (a6 : Int) (a7 : Nat) (a8 : List (List (List S57))) (a9 : List S37) (a10 : List Bool) (a11 : List S57) : Option (((Int × (Int × (Int × (Int × Int)))) × (Nat × ((List (List (List S57))) × ((List S37) × (List Bool))))) ⊕ Bool) := iter (U5_1 n) n ((a0, (a1, (a2, (a3, (a4, (a5, a6)))))), (a7, (a8, (a9, (a10, a11)))))
noncomputable def S5_0 (n : Nat) (L : Int → Int → Int → Nat → (List (List (List S57))) → (List S37) → (List Bool) → Option (Unit ⊕ Bool)) (a0 : Int) (a1 : Int) (a2 : Int) (a3 : Nat) (a4 : List (List (List S57))) (a5 : List S37) (a6 : List Bool) : Option (Unit ⊕ Bool) :=
  (bif (decide (a2 < a1)) then
    (bif (((List.length a5 : Nat) : Int) == 0) then
      none
    else
      (bif (decide (0 ≤ a2) && decide (a2 < ((List.length a5 : Nat) : Int))) then
        (Option.bind (a5[(Int.toNat a2)]?) fun y1 =>
        (bif (y1.Epoch == (0 : Int)) then
          (L a0 a1 (IntKind.wrap .i64 (a2 + (1 : Int))) a3 a4 a5 a6)
        else
          (bif (decide (0 ≤ a2) && decide (a2 < ((List.length a5 : Nat) : Int))) then
            (Option.bind (a5[(Int.toNat a2)]?) fun y2 =>
            (Option.bind (F12 n a0 y2.Epoch) fun y3 =>
            (Option.bind (L5_1 n a0 a2 (Int.tmod (IntKind.wrap .i64 (a2 + (1 : Int))) ((List.length a5 : Nat) : Int)) a1 a2 ((List.length [(S57.mk (13 : Int) (0 : Int) (0 : Int) (0 : Int) (0 : Int) (ByteArray.mk #[]) (0 : Int) (0 : Int) (0 : Int) (0 : Int) (0 : Int) y3 (0 : Int) (0 : Int) false ([] : List Unit) ([] : List Unit) ([] : List Unit)), (S57.mk (14 : Int) (0 : Int) (0 : Int) (0 : Int) (0 : Int) (ByteArray.mk #[]) (0 : Int) (0 : Int) (0 : Int) (0 : Int) (0 : Int) y3 (0 : Int) (0 : Int) false ([] : List Unit) ([] : List Unit) ([] : List Unit)), (S57.mk (15 : Int) (0 : Int) (0 : Int) (0 : Int) (0 : Int) (ByteArray.mk #[]) (0 : Int) (0 : Int) (0 : Int) (0 : Int) (0 : Int) y3 (0 : Int) (0 : Int) false ([] : List Unit) ([] : List Unit) ([] : List Unit)), (S57.mk (12 : Int) (0 : Int) (0 : Int) (0 : Int) (0 : Int) (ByteArray.mk #[]) (0 : Int) (0 : Int) (0 : Int) (0 : Int) (0 : Int) y3 (Int.tmod (IntKind.wrap .i64 (a2 + (1 : Int))) ((List.length a5 : Nat) : Int)) (0 : Int) false ([] : List Unit) ([] : List Unit) ([] : List Unit))] : Nat) : Int) (0 : Int) a3 a4 a5 a6 [(S57.mk (13 : Int) (0 : Int) (0 : Int) (0 : Int) (0 : Int) (ByteArray.mk #[]) (0 : Int) (0 : Int) (0 : Int) (0 : Int) (0 : Int) y3 (0 : Int) (0 : Int) false ([] : List Unit) ([] : List Unit) ([] : List Unit)), (S57.mk (14 : Int) (0 : Int) (0 : Int) (0 : Int) (0 : Int) (ByteArray.mk #[]) (0 : Int) (0 : Int) (0 : Int) (0 : Int) (0 : Int) y3 (0 : Int) (0 : Int) false ([] : List Unit) ([] : List Unit) ([] : List Unit)), (S57.mk (15 : Int) (0 : Int) (0 : Int) (0 : Int) (0 : Int) (ByteArray.mk #[]) (0 : Int) (0 : Int) (0 : Int) (0 : Int) (0 : Int) y3 (0 : Int) (0 : Int) false ([] : List Unit) ([] : List Unit) ([] : List Unit)), (S57.mk (12 : Int) (0 : Int) (0 : Int) (0 : Int) (0 : Int) (ByteArray.mk #[]) (0 : Int) (0 : Int) (0 : Int) (0 : Int) (0 : Int) y3 (Int.tmod (IntKind.wrap .i64 (a2 + (1 : Int))) ((List.length a5 : Nat) : Int)) (0 : Int) false ([] : List Unit) ([] : List Unit) ([] : List Unit))]) fun y4 =>
            (Sum.elim (fun y5 => (bif (decide (0 ≤ y5.1.2.1) && decide (y5.1.2.1 < ((List.length y5.2.2.2.1 : Nat) : Int))) then
              (Option.bind (y5.2.2.2.1[(Int.toNat y5.1.2.1)]?) fun y7 =>
              (bif (decide (0 ≤ y5.1.2.1) && decide (y5.1.2.1 < ((List.length y5.2.2.2.1 : Nat) : Int))) then
                (Option.bind (y5.2.2.2.1[(Int.toNat y5.1.2.1)]?) fun y8 =>
                (Option.bind (F13 n y7 y5.1.2.1 ((List.length y5.2.2.2.1 : Nat) : Int) y5.1.2.2.1 (S57.mk (14 : Int) (0 : Int) (0 : Int) (0 : Int) (0 : Int) (ByteArray.mk #[]) (0 : Int) (0 : Int) (0 : Int) (0 : Int) (0 : Int) (IntKind.wrap .i64 (y8.Epoch + (1 : Int))) (0 : Int) (0 : Int) false ([] : List Unit) ([] : List Unit) ([] : List Unit))) fun y9 =>
                (bif (y9.2.2 != (0 : Int)) then
                  (some (.inr false))
                else
                  (bif (decide (0 ≤ y5.1.2.1) && decide (y5.1.2.1 < ((List.length y5.2.2.2.1 : Nat) : Int))) then
                    (Option.bind (y5.2.2.2.1[(Int.toNat y5.1.2.1)]?) fun y10 =>
                    (bif (y9.1.Epoch != (IntKind.wrap .i64 (y10.Epoch + (1 : Int)))) then
                      (some (.inr false))
                    else
                      (bif y9.1.Token_Has then
                        (some (.inr false))
                      else
                        (bif y9.1.Token_Using then
                          (some (.inr false))
                        else
                          (L y5.1.1 y5.1.2.2.2.1 (IntKind.wrap .i64 (y5.1.2.2.2.2 + (1 : Int))) y5.2.1 y5.2.2.1 y5.2.2.2.1 y5.2.2.2.2)))))
                  else
                    none))))
              else
                none))
            else
              none)) (fun y6 => (some (.inr y6))) y4))))
          else
            none)))
      else
        none))
  else
    (some (.inl ())))
noncomputable def U5_0 (n : Nat) (L : ((Int × (Int × Int)) × (Nat × ((List (List (List S57))) × ((List S37) × (List Bool))))) → Option (Unit ⊕ Bool)) (x : (Int × (Int × Int)) × (Nat × ((List (List (List S57))) × ((List S37) × (List Bool))))) : Option (Unit ⊕ Bool) := S5_0 n (fun a0 a1 a2 a3 a4 a5 a6 => L ((a0, (a1, a2)), (a3, (a4, (a5, a6))))) x.1.1 x.1.2.1 x.1.2.2 x.2.1 x.2.2.1 x.2.2.2.1 x.2.2.2.2
noncomputable def L5_0 (n : Nat) (a0 : Int) (a1 : Int) (a2 : Int) (a3 : Nat) (a4 : List (List (List S57))) (a5 : List S37) (a6 : List Bool) : Option (Unit ⊕ Bool) := iter (U5_0 n) n ((a0, (a1, a2)), (a3, (a4, (a5, a6))))
noncomputable def F5 (n : Nat) (a0 : List Int) (a1 : Int) (a2 : Int) : Option Bool :=
  (Option.bind (F6 n a0) fun y1 =>
  (bif (bNot y1) then
    (Option.bind (F7 n ()) fun y2 =>
    (some y2))
  else
    (bif ((3 : Int) == 0) then
      none
    else
      (Option.bind (F8 n a0 (IntKind.wrap .i64 ((2 : Int) + (Int.tmod (IntKind.wrap .i64 a1) (3 : Int))))) fun y3 =>
      (bif (bNot y3.1) then
        (some false)
      else
        (Option.bind (L5_0 n a2 ((List.length y3.2.2.1 : Nat) : Int) (0 : Int) y3.2.1 y3.2.2.2.2 y3.2.2.1 y3.2.2.2.1) fun y4 =>
        (Sum.elim (fun y5 => (Option.bind (F7 n ()) fun y7 =>
        (some y7))) (fun y6 => (some y6)) y4)))))))
noncomputable def c5 : Co (List (EV gam) × List (Ent gam)) ((List Int) × (Int × Int)) := (.pairL (.cons (.d gam (.sl (.int .i64))) (.cons (.d gam (.int .u8)) (.consL (.d gam (.int .i64)) (.nil _)))) (.nil _))
noncomputable def r5 : Co (EV gam × List (Ent gam) × List (Ent gam)) Bool := (.pairL (.d gam .bool) (.pairU (.nil _) (.nil _)))
noncomputable def b5 : Code := (Try.f5.body).getD .skip
noncomputable def b5_0 : Code := (loopsIn b5).getD 0 .skip
noncomputable def kp5_0 : Keep := { slots := [2, 7, 39, 40], rows := [((3006000, some 0), 7001000000, (.st 37)), ((3006000, some 1), 7001000101, .bool)], boxes := [3006000, 3006003], tombs := [] }
noncomputable def c5_0 : Co (List (EV gam) × List (Ent gam)) ((Int × (Int × Int)) × (Nat × ((List (List (List S57))) × ((List S37) × (List Bool))))) := (.pair (.cons (.d gam (.int .i64)) (.consU (.ptr gam 3006000 0) (.cons (.d gam (.int .i64)) (.consL (.d gam (.int .i64)) (.nil _))))) (.cons (.box (.consU (.ow gam 7001000000) (.consU (.ow gam 7001000101) (.consL (.spn gam 3006003) (.nil _))))) (.cons (.tree gam false (.st 57)) (.cons (.row gam (.st 37) 0) (.consL (.row gam .bool 0) (.nil _))))))
noncomputable def x5_0 : Xc gam (Unit ⊕ Bool) := (.or (.one (.exit 0) { slots := [], rows := [], boxes := [], tombs := [] } (.pairU (.nil _) (.nil _))) (.one .ret { slots := [6], rows := [], boxes := [], tombs := [] } (.pairL (.consL (.d gam .bool) (.nil _)) (.nil _))))
noncomputable def b5_1 : Code := (loopsIn b5).getD 1 .skip
noncomputable def kp5_1 : Keep := { slots := [2, 7, 9, 10, 39, 40, 79, 80, 81], rows := [((3006000, some 0), 7001000000, (.st 37)), ((3006000, some 1), 7001000101, .bool), ((79, none), 7000007999, (.st 57))], boxes := [3006000, 3006003], tombs := [] }
noncomputable def c5_1 : Co (List (EV gam) × List (Ent gam)) ((Int × (Int × (Int × (Int × (Int × (Int × Int)))))) × (Nat × ((List (List (List S57))) × ((List S37) × ((List Bool) × (List S57)))))) := (.pair (.cons (.d gam (.int .i64)) (.consU (.ptr gam 3006000 0) (.cons (.d gam (.int .i64)) (.cons (.d gam (.int .i64)) (.cons (.d gam (.int .i64)) (.cons (.d gam (.int .i64)) (.consU (.ow gam 7000007999) (.cons (.d gam (.int .i64)) (.consL (.d gam (.int .i64)) (.nil _)))))))))) (.cons (.box (.consU (.ow gam 7001000000) (.consU (.ow gam 7001000101) (.consL (.spn gam 3006003) (.nil _))))) (.cons (.tree gam false (.st 57)) (.cons (.row gam (.st 37) 0) (.cons (.row gam .bool 0) (.consL (.row gam (.st 57) 0) (.nil _)))))))
noncomputable def x5_1 : Xc gam (((Int × (Int × (Int × (Int × Int)))) × (Nat × ((List (List (List S57))) × ((List S37) × (List Bool))))) ⊕ Bool) := (.or (.one (.exit 2) { slots := [2, 7, 9, 10, 39, 40], rows := [((3006000, some 0), 7001000000, (.st 37)), ((3006000, some 1), 7001000101, .bool)], boxes := [3006000, 3006003], tombs := [] } (.pair (.cons (.d gam (.int .i64)) (.consU (.ptr gam 3006000 0) (.cons (.d gam (.int .i64)) (.cons (.d gam (.int .i64)) (.cons (.d gam (.int .i64)) (.consL (.d gam (.int .i64)) (.nil _))))))) (.cons (.box (.consU (.ow gam 7001000000) (.consU (.ow gam 7001000101) (.consL (.spn gam 3006003) (.nil _))))) (.cons (.tree gam false (.st 57)) (.cons (.row gam (.st 37) 0) (.consL (.row gam .bool 0) (.nil _))))))) (.one .ret { slots := [6], rows := [], boxes := [], tombs := [] } (.pairL (.consL (.d gam .bool) (.nil _)) (.nil _))))
noncomputable def t5_0 (n : Nat) : LoopT gam := loopT kp5_0 c5_0 x5_0 (iter (U5_0 n) n)
noncomputable def t5_1 (n : Nat) : LoopT gam := loopT kp5_1 c5_1 x5_1 (iter (U5_1 n) n)
noncomputable def e5 (n : Nat) : FnT gam := fnN [[some (.int .i64)]] (fnT [] c5 r5 (fun x => F5 n x.1 x.2.1 x.2.2))
noncomputable def p5 (a : List (EV gam)) (l : List (Ent gam)) : Bool := (c5.dec (nilArgs [[some (.int .i64)]] a, l)).isSome
noncomputable def env5 (n : Nat) : Env gam := { P := Try.prog, fns := lookU [(6, e6 n), (7, e7 n), (8, e8 n), (12, e12 n), (13, e13 n)], loops := lookU [(7, t5_0 n), (13, t5_1 n)], nt := 165, m := 0, keeps := [], eqs := [] }
theorem env5_ok (n : Nat) : EnvOK (env5 n) := .of _ rfl (by exact ⟨ok6 n, ok7 n, ok8 n, ok12 n, ok13 n, trivial⟩) (by exact fun t h => nomatch h) (by kernel_rfl)
theorem lin5_1 (n : Nat) : LoopsOK (env5 n) b5_1 := .of [] (by kernel_rfl) trivial
theorem lok5_1 (n : Nat) : LoopOK (env5 n) b5_1 (t5_1 n) := loopT_ok (env5_ok n) (lin5_1 n) (fun L x => by kernel_rfl) n
theorem lin5_0 (n : Nat) : LoopsOK (env5 n) b5_0 := .of [(b5_1, 13, t5_1 n)] (by kernel_rfl) ⟨by kernel_rfl, by kernel_rfl, lok5_1 n, trivial⟩
theorem lok5_0 (n : Nat) : LoopOK (env5 n) b5_0 (t5_0 n) := loopT_ok (env5_ok n) (lin5_0 n) (fun L x => by kernel_rfl) n
theorem lin5 (n : Nat) : LoopsOK (env5 n) b5 := .of [(b5_0, 7, t5_0 n), (b5_1, 13, t5_1 n)] (by kernel_rfl) ⟨by kernel_rfl, by kernel_rfl, lok5_0 n, by kernel_rfl, by kernel_rfl, lok5_1 n, trivial⟩
theorem eq5 (n : Nat) (x : (List Int) × (Int × Int)) : (F5 n x.1 x.2.1 x.2.2) = fnE (env5 n) Try.f5 [[.asis]] none c5 r5 x := by kernel_rfl
theorem okt5 (n : Nat) : FnOK Try.prog 5 (fnT (G := gam) [] c5 r5 (fun x => F5 n x.1 x.2.1 x.2.2)) := fnT_ok (env5_ok n) (by kernel_rfl) (by kernel_rfl) (by kernel_rfl) (b := b5) (by kernel_rfl) (fun x => by kernel_rfl) (lin5 n) (eq5 n)
theorem ok5 (n : Nat) : FnOK Try.prog 5 (e5 n) := fnN_ok (okt5 n)
end Go.Abs.AbsP28
end
