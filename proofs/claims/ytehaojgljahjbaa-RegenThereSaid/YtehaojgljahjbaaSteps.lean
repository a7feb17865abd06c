/- The functions, told plainly: a site, a step. -/
import Derived.IntWalk
import Derived.Test.YtehaojgljahjbaaPlain
section
set_option linter.all false
set_option linter.unusedVariables false
set_option linter.unusedSimpArgs false
set_option linter.unnecessarySimpa false
/-
  Regen: a site by itself.
-/
namespace Go.Abs.Rg
open Go Go.Abs Go.G28 Go.Abs.AbsP28

theorem w64 {x : Int} (h : -9223372036854775808 ≤ x ∧ x ≤ 9223372036854775807) : IntKind.wrap .i64 x = x := IntWalk.i64_in x h
theorem w64s (i : Nat) (h : i ≤ 1000000000) : IntKind.wrap .i64 ((i : Int) + 1) = ((i + 1 : Nat) : Int) := by rw [w64 (by omega)]; rfl
theorem iter_succ {X Y : Type} (S : (X → Option Y) → X → Option Y) (f : Nat) (x : X) : iter S (f + 1) x = S (iter S f) x := rfl
theorem lt_t {i n : Nat} (h : i < n) : decide ((i : Int) < (n : Int)) = true := by simp; omega
theorem lt_f {i n : Nat} (h : n ≤ i) : decide ((i : Int) < (n : Int)) = false := by simp; omega
theorem ge0 (i : Nat) : decide (0 ≤ (i : Int)) = true := by simp
theorem ixo_nat {α : Type} {l : List α} {i : Nat} {x : α} (h : l[i]? = some x) : ixo l (i : Int) = some x := by
  unfold ixo
  have : decide ((i : Int) < 0) = false := by simp
  rw [this, Int.toNat_natCast, cond_false, h]
theorem get_lt {α : Type} {l : List α} {i : Nat} {x : α} (h : l[i]? = some x) : i < l.length := by
  rcases Nat.lt_or_ge i l.length with h1 | h1
  · exact h1
  · rw [List.getElem?_eq_none h1] at h; cases h
theorem drop_cons {α : Type} {l : List α} {i : Nat} {x : α} (h : l[i]? = some x) : l.drop i = x :: l.drop (i + 1) := by
  have h1 := get_lt h
  rw [List.drop_eq_getElem_cons h1]
  rw [List.getElem?_eq_getElem h1] at h
  rw [Option.some.inj h]
theorem app_small {a b c : Nat} (h : (a + b) * c ≤ 70368744177664) : appOK a b c = true := by
  rw [appOK_iff]
  have : (((a + b) * c : Nat) : Int) ≤ 70368744177664 := by omega
  push_cast at this
  exact this
theorem make_small {a c : Nat} (h : a * c ≤ 70368744177664) : makeOK (a : Int) (a : Int) c = true := by
  rw [makeOK_iff]
  refine ⟨by omega, Int.le_refl _, ?_⟩
  have : ((a * c : Nat) : Int) ≤ 70368744177664 := by omega
  push_cast at this
  exact this
theorem iter_exists {f : Nat} (h : 0 < f) : ∃ g, f = g + 1 := ⟨f - 1, by omega⟩

/-! ### valid states -/
/-- Another site. -/
def oth (x i k : Int) : Prop := 0 ≤ x ∧ x < k ∧ x ≠ i
instance (x i k : Int) : Decidable (oth x i k) := inferInstanceAs (Decidable (_ ∧ _))
structure TokV (r : S37) (i k : Int) : Prop where
  last : r.Token_Last ≠ -1 → oth r.Token_Last i k
  next : r.Token_Next ≠ -1 → oth r.Token_Next i k
  us : r.Token_Using = true → r.Token_Has = true
  wa : r.Token_Want = true → r.Token_Has = false
  idle : r.Token_Using = false → r.Token_Want = false → r.Token_Next = -1 ∧ (r.Token_Last = -1 ↔ r.Token_Has = true)
  busy : (r.Token_Using = true ∨ r.Token_Want = true) → (r.Token_Next = -1 ↔ r.Token_Last = -1)
structure LostV (r : S37) : Prop where
  lost : r.Lost = true
  ask : r.Asking = false
  pro : r.Promised = []
  has : r.Token_Has = false
  want : r.Token_Want = false
  us : r.Token_Using = false
  last : r.Token_Last = -1
  next : r.Token_Next = -1
structure AskV (r : S37) (i k : Int) : Prop where
  lost : r.Lost = false
  ask : r.Asking = true
  len : ((r.Promised.length : Nat) : Int) = k
  self : r.Promised[i.toNat]? = some true
  lack : false ∈ r.Promised
  has : r.Token_Has = false
  us : r.Token_Using = false
  path : (r.Token_Last = -1 ∧ r.Token_Next = -1) ∨ (oth r.Token_Last i k ∧ oth r.Token_Next i k)
structure RunV (r : S37) (i k : Int) : Prop where
  lost : r.Lost = false
  ask : r.Asking = false
  pro : r.Promised = []
  tok : TokV r i k
structure Valid (r : S37) (i k : Int) : Prop where
  lo : 0 ≤ r.Epoch
  hi : r.Epoch ≤ 1073741824
  st : LostV r ∨ AskV r i k ∨ RunV r i k
structure Prop4 (i k : Int) : Prop where
  k1 : 1 ≤ k
  k4 : k ≤ 4
  i0 : 0 ≤ i
  ik : i < k

theorem L38_eq (n : Nat) (l : List Bool) (hl : l.length ≤ 1000) : ∀ (d i f : Nat), i + d = l.length → d < f →
    ∃ r, iter (U38_0 n) f (l, (false, ((l.length : Int), (i : Int)))) = some r ∧ ((∃ u, r = .inl u) ∧ false ∉ l.drop i ∨ ∃ j : Nat, r = .inr (j : Int) ∧ false ∈ l.drop i) := by
  intro d
  induction d with
  | zero =>
    intro i f hi hf
    obtain ⟨f, rfl⟩ := iter_exists (show 0 < f by omega)
    rw [iter_succ, U38_0.eq_1, S38_0.eq_1]
    simp only [lt_f (show l.length ≤ i by omega), cond_false]
    refine ⟨_, rfl, .inl ⟨⟨(), rfl⟩, ?_⟩⟩
    rw [List.drop_of_length_le (by omega)]; simp
  | succ d ih =>
    intro i f hi hf
    obtain ⟨f, rfl⟩ := iter_exists (show 0 < f by omega)
    rw [iter_succ, U38_0.eq_1, S38_0.eq_1]
    have hi1 : i < l.length := by omega
    have ht := List.getElem?_eq_getElem hi1
    simp only [lt_t hi1, cond_true, ixo_nat ht, Option.bind_some, w64s i (by omega)]
    rw [drop_cons ht]
    cases hb : l[i] with
    | false => exact ⟨_, rfl, .inr ⟨i, rfl, by simp⟩⟩
    | true =>
      obtain ⟨r, h1, h2⟩ := ih (i + 1) f (by omega) (by omega)
      refine ⟨r, h1, ?_⟩
      rcases h2 with ⟨h2, h3⟩ | ⟨j, h2, h3⟩
      · exact .inl ⟨h2, by simpa using h3⟩
      · exact .inr ⟨j, h2, by simpa using h3⟩
theorem F28_eq (n : Nat) (hn : 5000 ≤ n) (l : List Bool) (hl : l.length ≤ 1000) : F28 n l false = some (decide (false ∈ l)) := by
  obtain ⟨r, h1, h2⟩ := L38_eq n l hl l.length 0 n (by omega) (by omega)
  have z : ((0 : Nat) : Int) = (0 : Int) := rfl
  rw [z] at h1
  unfold F28 F38 L38_0
  rw [h1, List.drop_zero] at *
  rcases h2 with ⟨⟨u, rfl⟩, h3⟩ | ⟨j, rfl, h3⟩
  · simp [h3]
  · simp [h3]
theorem proper_eq (n : Nat) {i k : Int} (h : Prop4 i k) : F31 n i k = some true := by
  have := h.k1; have := h.k4; have := h.i0; have := h.ik
  unfold F31; simp [*]
theorem proper_eq' (n : Nat) {i k : Int} (h : Prop4 i k) : F40 n i k = some true := by
  have := h.k1; have := h.k4; have := h.i0; have := h.ik
  unfold F40; simp [*]
theorem F25_eq (n : Nat) (x i k : Int) : F25 n x i k = some (decide (oth x i k)) := by
  unfold F25 oth
  by_cases h1 : 0 ≤ x <;> by_cases h2 : x < k <;> by_cases h3 : x = i <;> simp [h1, h2, h3]
theorem F41_eq (n : Nat) (x i k : Int) : F41 n x i k = some (decide (oth x i k)) := F25_eq n x i k
theorem F33_eq (n : Nat) {r : S37} {i k : Int} (hp : Prop4 i k) (h : TokV r i k) : F33 n (S35.mk r.Token_Has r.Token_Want r.Token_Using r.Token_Last r.Token_Next) i k = some true := by
  obtain ⟨h1, h2, h3, h4, h5, h6⟩ := h
  unfold F33
  simp only [proper_eq' n hp, F41_eq, Option.bind_some]
  cases hu : r.Token_Using <;> cases hw : r.Token_Want <;> cases hh : r.Token_Has <;> rw [hu, hh] at h3 <;> rw [hw, hh] at h4 <;> rw [hu, hw, hh] at h5 <;> rw [hu, hw] at h6 <;>
    simp only [reduceCtorEq, forall_const, false_or, or_false, or_true, true_or, iff_true, iff_false, false_implies, imp_false, not_true_eq_false, imp_self] at h3 h4 h5 h6 <;>
    by_cases e1 : r.Token_Last = -1 <;> by_cases e2 : r.Token_Next = -1 <;> (have b1 : (r.Token_Last == -1) = decide (r.Token_Last = -1) := rfl) <;> (have b2 : (r.Token_Next == -1) = decide (r.Token_Next = -1) := rfl) <;>
    simp only [bne, b1, b2, e1, e2, bNot, bEq, decide_true, decide_false, cond_true, cond_false, Bool.not_true, Bool.not_false] <;> simp_all
theorem F15_eq (n : Nat) (hn : 5000 ≤ n) {r : S37} {i k : Int} (hp : Prop4 i k) (h : Valid r i k) : F15 n r i k = some true := by
  obtain ⟨h1, h2, h3⟩ := h
  unfold F15
  have d1 : decide (r.Epoch < 0) = false := by simp; omega
  have d2 : decide (r.Epoch > 1073741824) = false := by simp; omega
  simp only [proper_eq n hp, Option.bind_some, bNot, cond_false, cond_true, d1, d2]
  rcases h3 with h | h | h
  · simp [h.lost, h.ask, h.pro, h.has, h.want, h.us, h.last, h.next, F32, iEq, bEq]
  · have hi : ixo r.Promised i = some true := by
      have := hp.i0
      have e : i = ((i.toNat : Nat) : Int) := by omega
      have := ixo_nat h.self
      rwa [← e] at this
    have hl := h.len
    have hk := hp.k4
    simp only [h.lost, h.ask, h.has, h.us, hi, F28_eq n hn _ (show r.Promised.length ≤ 1000 by omega), Option.bind_some, cond_false, cond_true, h.lack, decide_true, F25_eq, h.len]
    rcases h.path with ⟨a, b⟩ | ⟨a, b⟩
    · simp [a, b, bNot]
    · have a1 : r.Token_Last ≠ -1 := fun e => by have := a.1; omega
      have b1 : (r.Token_Last == -1) = decide (r.Token_Last = -1) := rfl
      simp [b1, a1, a, b, bNot]
  · simp only [h.lost, h.ask, h.pro, cond_false, List.length_nil, F33_eq n hp h.tok]
    rfl
end Go.Abs.Rg
end
section
set_option linter.all false
set_option linter.unusedVariables false
set_option linter.unusedSimpArgs false
set_option linter.unnecessarySimpa false
/-
  Regen: what a site does.
-/
namespace Go.Abs.Rg
open Go Go.Abs Go.G28 Go.Abs.AbsP28

def noEmpty : ByteArray := ByteArray.mk #[]
def pst (to kind epoch site : Int) : S64 := S64.mk to kind 0 0 0 0 (ByteArray.mk #[]) 0 0 0 0 0 epoch site 0 false [] [] []
def toMsg (p : S64) : S57 := S57.mk p.Message_Kind p.Message_Proc_Site p.Message_Proc_Inc p.Message_Proc_Num p.Message_Gen p.Message_Atom_Name p.Message_Atom_Amount_Mode p.Message_Atom_Amount_Units p.Message_Priority p.Message_Inc p.Message_Round p.Message_Epoch p.Message_Site p.Message_Label p.Message_Done p.Message_State_Queues p.Message_State_Needs p.Message_Options
def zr : S37 := S37.mk 0 false false [] false false false 0 0
def proms (r : S37) (e l : Int) : S37 := S37.mk e false false [] false (r.Token_Using || r.Token_Want) false l (-1)
/-- The token is made. -/
def thereS (r : S37) : S37 × List S64 :=
  if r.Token_Want = true then ({ r with Asking := false, Promised := [], Token_Has := true, Token_Want := false, Token_Using := true }, [])
  else if r.Token_Next = -1 then ({ r with Asking := false, Promised := [], Token_Has := true }, [])
  else ({ r with Asking := false, Promised := [], Token_Has := false, Token_Next := -1 }, [pst r.Token_Next 13 r.Epoch 0])
/-- A request of its own epoch is heard. -/
def reqS (r : S37) (s : Int) : S37 × List S64 :=
  if r.Token_Last ≠ -1 then ({ r with Token_Last := s }, [pst r.Token_Last 12 r.Epoch s])
  else if r.Token_Has = true ∧ r.Token_Using = false then ({ r with Token_Has := false, Token_Last := s }, [pst s 13 r.Epoch 0])
  else ({ r with Token_Last := s, Token_Next := s }, [])
def fresh (r : S37) (m : S57) : Prop := if m.Kind = 14 then r.Epoch < m.Epoch else m.Epoch = r.Epoch
instance (r : S37) (m : S57) : Decidable (fresh r m) := by unfold fresh; infer_instance
def hearS (r : S37) (i f : Int) (m : S57) : S37 × (List S64 × Int) :=
  if ¬ fresh r m then (zr, [], 18)
  else if m.Kind = 14 then
    (if r.Token_Using = true ∨ r.Token_Want = true then (proms r m.Epoch (-1), [pst f 15 m.Epoch 0, pst f 12 m.Epoch i], 0)
     else (proms r m.Epoch f, [pst f 15 m.Epoch 0], 0))
  else if m.Kind = 15 then
    (if r.Asking = false then (zr, [], 14)
     else if false ∈ r.Promised.set f.toNat true then ({ r with Promised := r.Promised.set f.toNat true }, [], 0)
     else ((thereS r).1, (thereS r).2, 0))
  else if r.Lost = true then (zr, [], 19)
  else if m.Kind = 13 then
    (if r.Asking = true ∨ r.Token_Want = false then (zr, [], 14) else ({ r with Token_Has := true, Token_Want := false, Token_Using := true }, [], 0))
  else ((reqS r m.Site).1, (reqS r m.Site).2, 0)

/-- What a message must be. -/
structure MsgOK (m : S57) (i k : Int) : Prop where
  kind : m.Kind = 12 ∨ m.Kind = 13 ∨ m.Kind = 14 ∨ m.Kind = 15
  site : m.Kind = 12 → oth m.Site i k
  lo : 0 ≤ m.Epoch
  hi : m.Epoch ≤ 1073741824
theorem F26_eq (n : Nat) {m : S57} {i k : Int} (h : MsgOK m i k) : F26 n m i k = some true := by
  have d1 : decide (m.Epoch ≥ 0) = true := by simpa using h.lo
  have d2 : decide (m.Epoch ≤ 1073741824) = true := by simpa using h.hi
  unfold F26
  simp only [F25_eq, Option.bind_some, d1, d2]
  rcases h.kind with e | e | e | e
  · simp [e, h.site e, bNot]
  · simp [e]
  · simp [e]
  · simp [e]
theorem F24_eq (n : Nat) (r : S37) (h : r.Promised.length ≤ 1000) : F24 n r = some ((r.Epoch, (r.Lost, (r.Asking, (r.Token_Has, (r.Token_Want, (r.Token_Using, (r.Token_Last, r.Token_Next))))))), r.Promised) := by
  unfold F24 F37 F37s
  rw [app_small (by simp; omega)]
  simp
theorem F27_eq (n : Nat) (r : S37) (m : S57) : F27 n r m = some (decide (¬ fresh r m)) := by
  unfold F27 fresh
  by_cases e : m.Kind = 14
  · simp [e]
  · have : (m.Kind == 14) = false := by simpa using e
    simp [this, e, bne]
    rfl
theorem Valid.plen {r : S37} {i k : Int} (hp : Prop4 i k) (h : Valid r i k) : r.Promised.length ≤ 1000 := by
  have := hp.k4
  rcases h.st with h | h | h
  · rw [h.pro]; simp
  · have := h.len; omega
  · rw [h.pro]; simp
theorem F22_eq (n : Nat) (r : S37) : F22 n r = some (thereS r) := by
  unfold F22 thereS F23
  cases hw : r.Token_Want
  · by_cases e : r.Token_Next = -1
    · simp [e]
    · have : (r.Token_Next == -1) = false := by simpa using e
      simp [e, this, pst]
  · simp
theorem F39_tok (n : Nat) {r : S37} {i k : Int} (hp : Prop4 i k) (h : TokV r i k) (h0 : 0 ≤ r.Epoch) (h1 : r.Epoch ≤ 1073741824) {m : S57} (hk : m.Kind = 13) (he : m.Epoch = r.Epoch) :
    F39 n (S35.mk r.Token_Has r.Token_Want r.Token_Using r.Token_Last r.Token_Next) i k r.Epoch m =
      some (if r.Token_Want = false then (S35.mk false false false 0 0, [], 14) else (S35.mk true false true r.Token_Last r.Token_Next, [], 0)) := by
  have d1 : decide (r.Epoch < 0) = false := by simp; omega
  have d2 : decide (r.Epoch > 1073741824) = false := by simp; omega
  unfold F39
  simp only [hk, F33_eq n hp h, Option.bind_some, he, d1, d2, bNot, bne, cond_true, cond_false]
  cases r.Token_Want <;> simp
theorem F39_req (n : Nat) {r : S37} {i k : Int} (hp : Prop4 i k) (h : TokV r i k) (h0 : 0 ≤ r.Epoch) (h1 : r.Epoch ≤ 1073741824) {m : S57} (hk : m.Kind = 12) (he : m.Epoch = r.Epoch) (hs : oth m.Site i k) :
    F39 n (S35.mk r.Token_Has r.Token_Want r.Token_Using r.Token_Last r.Token_Next) i k r.Epoch m =
      some (S35.mk (reqS r m.Site).1.Token_Has (reqS r m.Site).1.Token_Want (reqS r m.Site).1.Token_Using (reqS r m.Site).1.Token_Last (reqS r m.Site).1.Token_Next, (reqS r m.Site).2, 0) := by
  have d1 : decide (r.Epoch < 0) = false := by simp; omega
  have d2 : decide (r.Epoch > 1073741824) = false := by simp; omega
  unfold F39 reqS
  simp only [hk, F33_eq n hp h, F41_eq, hs, Option.bind_some, he, d1, d2, bNot, bne, cond_true, cond_false, F44, F45, F46]
  by_cases e : r.Token_Last = -1
  · cases hh : r.Token_Has <;> cases hu : r.Token_Using <;> simp [e, hh, hu, pst]
  · have : (r.Token_Last == -1) = false := by simpa using e
    simp [e, this, pst]
theorem F13_eq (n : Nat) (hn : 5000 ≤ n) {r : S37} {i k f : Int} {m : S57} (hp : Prop4 i k) (h : Valid r i k) (hf : oth f i k) (hm : MsgOK m i k) : F13 n r i k f m = some (hearS r i f m) := by
  unfold F13
  simp only [F24_eq n r (h.plen hp), Option.bind_some, F15_eq n hn hp h, F25_eq, hf, F26_eq n hm, F27_eq, bNot, decide_true, Bool.not_true, cond_false]
  unfold hearS
  by_cases hfr : fresh r m
  · simp only [hfr, not_true_eq_false, decide_false, cond_false, if_false]
    unfold fresh at hfr
    have hlen := h.plen hp
    rcases hm.kind with e | e | e | e
    · have hs := hm.site e
      rw [if_neg (by omega)] at hfr
      simp only [e, F29]
      rcases h.st with h2 | h2 | h2
      · simp [h2.lost, zr]
      · simp only [h2.lost, h2.ask]
        rcases h2.path with ⟨a, b⟩ | ⟨a, b⟩
        · simp [bNot, a, reqS, h2.has]
          cases r; simp_all
          have h3 := h2.lost; have h4 := h2.ask; simp at h3 h4; simp [h3, h4]
        · have a1 : r.Token_Last ≠ -1 := fun e => by have := a.1; omega
          have : (r.Token_Last == -1) = false := by simpa using a1
          simp [bNot, a1, reqS, this, F23, pst, bne]
          cases r; simp_all
          have h3 := h2.lost; have h4 := h2.ask; simp at h3 h4; simp [h3, h4]
      · simp only [h2.lost, h2.ask, bNot, F39_req n hp h2.tok h.lo h.hi e hfr hs]
        simp
        have h3 := h2.lost; have h4 := h2.ask
        cases r; simp at h3 h4; subst h3 h4
        unfold reqS
        split
        · simp
        · split <;> simp
    · rw [if_neg (by omega)] at hfr
      simp only [e, F29]
      rcases h.st with h2 | h2 | h2
      · simp [h2.lost, zr]
      · simp [h2.lost, h2.ask, bNot, zr]
      · simp only [h2.lost, h2.ask, bNot, F39_tok n hp h2.tok h.lo h.hi e hfr]
        cases hw : r.Token_Want
        · simp [zr]
        · simp
    · rw [if_pos e] at hfr
      simp only [e, F21, F32, F23, Option.bind_some]
      cases hu : r.Token_Using <;> cases hw : r.Token_Want <;> simp [proms, pst, hu, hw, app_small]
    · simp only [e]
      rcases h.st with h2 | h2 | h2
      · simp [h2.ask, bNot, zr]
      · have hl := h2.len
        have d1 : decide (0 ≤ f) = true := by simpa using hf.1
        have d2 : decide (f < ((r.Promised.length : Nat) : Int)) = true := by rw [hl]; simpa using hf.2.1
        simp only [h2.ask, bNot, d1, d2, F28_eq n hn _ (show (r.Promised.set f.toNat true).length ≤ 1000 by simpa using hlen), F22_eq, Option.bind_some]
        by_cases hc : false ∈ r.Promised.set f.toNat true
        · simp [hc]
        · simp [hc, thereS]
      · simp [h2.ask, bNot, zr]
  · simp [hfr, zr]
end Go.Abs.Rg
end
section
set_option linter.all false
set_option linter.unusedVariables false
set_option linter.unusedSimpArgs false
set_option linter.unnecessarySimpa false
/-
  Regen: a site begins to make a token, wants it, is done, starts.
-/
namespace Go.Abs.Rg
open Go Go.Abs Go.G28 Go.Abs.AbsP28

theorem L10_0_eq (n : Nat) (i k : Int) (hp : Prop4 i k) (Q : (Int × (Bool × (Bool × ((List Bool) × (Bool × (Bool × (Bool × (Int × Int)))))))) × ((Int × (Bool × (Bool × (Bool × (Bool × (Bool × (Int × Int))))))) × (List Bool))) :
    ∀ (t f : Nat) (x : Int), 0 ≤ x → x + (t : Int) ≤ 2000000000 → (i - x) % k = (t : Int) → t < f → iter (U10_0 n) f ((i, (k, x)), Q) = some ((i, (k, x + (t : Int))), Q) := by
  have h1 := hp.k1
  have h4 := hp.k4
  have hi0 := hp.i0
  have hik := hp.ik
  have hk0 : (k == 0) = false := by simp; omega
  intro t
  induction t with
  | zero =>
    intro f x hx hx2 ht hf
    obtain ⟨f, rfl⟩ := iter_exists (show 0 < f by omega)
    rw [iter_succ, U10_0.eq_1, S10_0.eq_1]
    have : Int.tmod x k = i := by
      rw [Int.tmod_eq_emod_of_nonneg hx]
      obtain h | h | h | h : k = 1 ∨ k = 2 ∨ k = 3 ∨ k = 4 := by omega
      all_goals (subst h; omega)
    simp only [this, hk0, cond_false]
    simp
  | succ t ih =>
    intro f x hx hx2 ht hf
    obtain ⟨f, rfl⟩ := iter_exists (show 0 < f by omega)
    rw [iter_succ, U10_0.eq_1, S10_0.eq_1]
    have h5 : Int.tmod x k ≠ i ∧ (i - (x + 1)) % k = (t : Int) := by
      rw [Int.tmod_eq_emod_of_nonneg hx]
      obtain h | h | h | h : k = 1 ∨ k = 2 ∨ k = 3 ∨ k = 4 := by omega
      all_goals (subst h; omega)
    have h6 : (Int.tmod x k != i) = true := by simpa using h5.1
    simp only [h6, hk0, cond_false, cond_true]
    rw [w64 (by omega)]
    have := ih f (x + 1) (by omega) (by omega) h5.2 (by omega)
    refine Eq.trans this ?_
    congr 4
    push_cast
    omega

/-- The promises asked for. -/
def proms1 (i e : Int) (j : Nat) : List S64 := if (j : Int) = i then [] else [pst (j : Int) 14 e 0]
theorem L10_1_eq (n : Nat) (i : Int) (k : Nat) (hk : k ≤ 4) (e : Int) (r : S37) (he : r.Epoch = e) (Y : Int × (Bool × (Bool × (Bool × (Bool × (Bool × (Int × Int))))))) (z : List Bool) :
    ∀ (d j f c : Nat) (out : List S64), j + d = k → d < f → out.length ≤ j → ∃ c', iter (U10_1 n) f ((i, ((k : Int), (j : Int))), ((r.Epoch, (r.Lost, (r.Asking, (r.Token_Has, (r.Token_Want, (r.Token_Using, (r.Token_Last, r.Token_Next))))))), (Y, ((r.Promised, c), (z, out))))) =
      some ((r.Epoch, (r.Lost, (r.Asking, (r.Token_Has, (r.Token_Want, (r.Token_Using, (r.Token_Last, r.Token_Next))))))), (Y, ((r.Promised, c'), (z, out ++ (List.range' j d).flatMap (proms1 i e))))) := by
  intro d
  induction d with
  | zero =>
    intro j f c out hj hf ho
    obtain ⟨f, rfl⟩ := iter_exists (show 0 < f by omega)
    rw [iter_succ, U10_1.eq_1, S10_1.eq_1]
    simp only [lt_f (show k ≤ j by omega), cond_false]
    exact ⟨c, by simp⟩
  | succ d ih =>
    intro j f c out hj hf ho
    obtain ⟨f, rfl⟩ := iter_exists (show 0 < f by omega)
    rw [iter_succ, U10_1.eq_1, S10_1.eq_1]
    simp only [lt_t (show j < k by omega), cond_true, w64s j (by omega)]
    rw [List.range'_succ, List.flatMap_cons, ← List.append_assoc]
    by_cases hji : (j : Int) = i
    · have h1 : ((j : Int) != i) = false := by simpa using hji
      simp only [h1, cond_false]
      have h2 : proms1 i e j = [] := by unfold proms1; rw [if_pos hji]
      rw [h2, List.append_nil]
      exact ih (j + 1) f c out (by omega) (by omega) (by omega)
    · have h1 : ((j : Int) != i) = true := by simpa using hji
      have h2 : proms1 i e j = [pst (j : Int) 14 e 0] := by unfold proms1; rw [if_neg hji]
      simp only [h1, cond_true, F23, Option.bind_some, he]
      rw [app_small (by simp; omega), cond_true, h2]
      obtain ⟨c', h3⟩ := ih (j + 1) f r.Promised.length (out ++ [pst (j : Int) 14 e 0]) (by omega) (by omega) (by simp; omega)
      rw [he] at h3
      exact ⟨c', h3⟩
/-- A site begins epoch e. -/
def askS (r : S37) (i : Int) (k : Nat) (e : Int) : S37 := { proms r e (-1) with Asking := true, Promised := (List.replicate k false).set i.toNat true }
def beginS (r : S37) (i : Int) (k : Nat) (e : Int) : S37 × List S64 :=
  if k = 1 then thereS (askS r i k e) else (askS r i k e, (List.range' 0 k).flatMap (proms1 i e))
theorem F10_eq (n : Nat) (hn : 5000 ≤ n) {r : S37} {i : Int} {k : Nat} (hp : Prop4 i (k : Int)) (h : Valid r i (k : Int)) (hE : r.Epoch ≤ 1000000000) :
    ∃ e, r.Epoch < e ∧ e ≤ r.Epoch + 4 ∧ e % (k : Int) = i ∧ F10 n r i (k : Int) = some ((beginS r i k e).1, ((beginS r i k e).2, 0)) := by
  have h1 := hp.k1
  have h4 := hp.k4
  have hi0 := hp.i0
  have hik := hp.ik
  have h0 := h.lo
  have ht0 := Int.emod_nonneg (i - (r.Epoch + 1)) (show (k : Int) ≠ 0 by omega)
  have htk := Int.emod_lt_of_pos (i - (r.Epoch + 1)) (show 0 < (k : Int) by omega)
  obtain ⟨t, ht⟩ := Int.eq_ofNat_of_zero_le ht0
  have hl := L10_0_eq n i k hp ((r.Epoch, (r.Lost, (r.Asking, (r.Promised, (r.Token_Has, (r.Token_Want, (r.Token_Using, (r.Token_Last, r.Token_Next)))))))), ((0, (false, (false, (false, (false, (false, (0, 0))))))), [])) t n (r.Epoch + 1) (by omega) (by omega) ht (by omega)
  refine ⟨r.Epoch + 1 + t, by omega, by omega, ?_, ?_⟩
  · obtain h | h | h | h : k = 1 ∨ k = 2 ∨ k = 3 ∨ k = 4 := by omega
    all_goals (subst h; omega)
  · generalize hed : r.Epoch + 1 + (t : Int) = e at hl ⊢
    unfold F10 L10_0
    rw [w64 (by omega)]
    have d1 : decide (e > 1073741824) = false := by simp; omega
    have d2 : decide (0 ≤ i) = true := by simpa using hi0
    have d3 : decide (i < ((List.length (List.replicate k false) : Nat) : Int)) = true := by simpa using hik
    simp only [F15_eq n hn hp h, Option.bind_some, bNot, Bool.not_true, cond_false, hl, d1, F21, F32, make_small (show k * 1 ≤ 70368744177664 by omega), cond_true, Int.toNat_natCast, d2, d3, Bool.and_self, F22_eq]
    have e1 : (bif r.Token_Using then some (S37.mk e false false [] false true false (-1) (-1)) else some (S37.mk e false false [] false r.Token_Want false (-1) (-1))) = some (proms r e (-1)) := by
      unfold proms; cases r.Token_Using <;> rfl
    rw [e1, Option.bind_some]
    unfold beginS
    by_cases hk1 : k = 1
    · subst hk1
      simp [askS]
    · have h2 : ((k : Int) == 1) = false := by simp; omega
      rw [h2, if_neg hk1, cond_false]
      obtain ⟨c', h3⟩ := L10_1_eq n i k (by omega) e (askS r i k e) rfl (0, (false, (false, (false, (false, (false, (0, 0))))))) [] k 0 n 0 [] (by omega) (by omega) (by simp)
      unfold L10_1
      have z : ((0 : Nat) : Int) = (0 : Int) := rfl
      rw [z] at h3
      unfold askS at h3
      simp only at h3
      rw [h3]
      simp only [Option.bind_some, List.nil_append]
      rfl
theorem F34_eq (n : Nat) {i k e : Int} (hp : Prop4 i k) (h0 : 0 ≤ e) (h1 : e ≤ 1073741824) : F34 n i k e = some (S37.mk e true false [] false false false (-1) (-1), 0) := by
  have d1 : decide (e < 0) = false := by simp; omega
  have d2 : decide (e > 1073741824) = false := by simp; omega
  unfold F34
  simp [proper_eq n hp, d1, d2, bNot, F32]
def newS (i : Int) : S37 := if i = 0 then S37.mk 0 false false [] true false false (-1) (-1) else S37.mk 0 false false [] false false false 0 (-1)
theorem F14_eq (n : Nat) {i k : Int} (hp : Prop4 i k) : F14 n i k = some (newS i, 0) := by
  unfold F14 F30 newS
  simp only [proper_eq' n hp, Option.bind_some, bNot]
  by_cases h : i = 0
  · simp [h]
  · have : (i == 0) = false := by simpa using h
    simp [h, this]
/-- The critical section is left. -/
def doneS (r : S37) : S37 × List S64 :=
  if r.Token_Next = -1 then ({ r with Token_Using := false }, [])
  else ({ r with Token_Has := false, Token_Using := false, Token_Next := -1 }, [pst r.Token_Next 13 r.Epoch 0])
theorem Valid.run {r : S37} {i k : Int} (h : Valid r i k) (hu : r.Token_Using = true) : RunV r i k := by
  rcases h.st with h | h | h
  · rw [h.us] at hu; cases hu
  · rw [h.us] at hu; cases hu
  · exact h
theorem F35_eq (n : Nat) (hn : 5000 ≤ n) {r : S37} {i k : Int} (hp : Prop4 i k) (h : Valid r i k) (hu : r.Token_Using = true) : F35 n r i k = some ((doneS r).1, ((doneS r).2, 0)) := by
  have hr := h.run hu
  have d1 : decide (r.Epoch < 0) = false := by have := h.lo; simp; omega
  have d2 : decide (r.Epoch > 1073741824) = false := by have := h.hi; simp; omega
  unfold F35 F42
  simp only [F24_eq n r (h.plen hp), Option.bind_some, F15_eq n hn hp h, F33_eq n hp hr.tok]
  simp only [bNot, hu, d1, d2]
  unfold doneS
  by_cases e : r.Token_Next = -1
  · simp [e]
  · have : (r.Token_Next == -1) = false := by simpa using e
    simp [e, this, F44, F46, pst]
/-- The token is wanted. -/
def wantS (r : S37) (i : Int) : S37 × List S64 :=
  if r.Asking = true then ({ r with Token_Want := true }, [])
  else if r.Token_Has = true then ({ r with Token_Using := true }, [])
  else ({ r with Token_Want := true, Token_Last := -1 }, [pst r.Token_Last 12 r.Epoch i])
theorem F36_eq (n : Nat) (hn : 5000 ≤ n) {r : S37} {i k : Int} (hp : Prop4 i k) (h : Valid r i k) (hl : r.Lost = false) (hu : r.Token_Using = false) (hw : r.Token_Want = false) : F36 n r i k = some ((wantS r i).1, ((wantS r i).2, 0)) := by
  have d1 : decide (r.Epoch < 0) = false := by have := h.lo; simp; omega
  have d2 : decide (r.Epoch > 1073741824) = false := by have := h.hi; simp; omega
  unfold F36
  simp only [F24_eq n r (h.plen hp), Option.bind_some, F15_eq n hn hp h]
  unfold wantS
  rcases h.st with h2 | h2 | h2
  · rw [h2.lost] at hl; cases hl
  · simp only [bNot, hu, hl, hw, h2.ask]
    simp
  · simp only [F43, F33_eq n hp h2.tok, Option.bind_some]
    simp only [bNot, hu, hl, hw, h2.ask, d1, d2]
    cases hh : r.Token_Has
    · simp [F44, F45, pst]
    · simp
end Go.Abs.Rg
end
section
set_option linter.all false
set_option linter.unusedVariables false
set_option linter.unusedSimpArgs false
set_option linter.unnecessarySimpa false
/-
  Regen: the sites together: messages.
-/
namespace Go.Abs.Rg
open Go Go.Abs Go.G28 Go.Abs.AbsP28

abbrev Mail := List (List (List S57))
def qS (ml : Mail) (i j : Nat) : List S57 := (ml.getD i []).getD j []
def putS (ml : Mail) (i j : Nat) (q : List S57) : Mail := ml.set i ((ml.getD i []).set j q)
structure Dim (k : Nat) (ml : Mail) : Prop where
  len : ml.length = k
  rows : ∀ i, i < k → (ml.getD i []).length = k
theorem Dim.put {k : Nat} {ml : Mail} (h : Dim k ml) (i j : Nat) (q : List S57) : Dim k (putS ml i j q) := by
  refine ⟨by unfold putS; rw [List.length_set]; exact h.len, fun a ha => ?_⟩
  unfold putS
  by_cases e : i = a
  · subst e
    rw [List.getD_eq_getElem?_getD, List.getElem?_set_self (by rw [h.len]; exact ha)]
    simp only [Option.getD_some, List.length_set]
    exact h.rows i ha
  · rw [List.getD_eq_getElem?_getD, List.getElem?_set_ne e, ← List.getD_eq_getElem?_getD]
    exact h.rows a ha
theorem Dim.row {k : Nat} {ml : Mail} (h : Dim k ml) {i : Nat} (hi : i < k) : ml[i]? = some (ml.getD i []) := by
  rw [List.getD_eq_getElem?_getD, List.getElem?_eq_getElem (by rw [h.len]; exact hi)]; rfl
theorem Dim.q {k : Nat} {ml : Mail} (h : Dim k ml) {i j : Nat} (hi : i < k) (hj : j < k) : (ml.getD i [])[j]? = some (qS ml i j) := by
  unfold qS
  rw [List.getD_eq_getElem?_getD (l := ml.getD i []), List.getElem?_eq_getElem (by rw [h.rows i hi]; exact hj)]; rfl
theorem qS_put {k : Nat} {ml : Mail} (h : Dim k ml) {i j : Nat} (hi : i < k) (hj : j < k) (q : List S57) (a b : Nat) : qS (putS ml i j q) a b = if a = i ∧ b = j then q else qS ml a b := by
  unfold qS putS
  by_cases e : i = a
  · subst e
    rw [List.getD_eq_getElem?_getD (l := ml.set _ _), List.getElem?_set_self (by rw [h.len]; exact hi)]
    simp only [Option.getD_some]
    by_cases e2 : j = b
    · subst e2
      rw [List.getD_eq_getElem?_getD, List.getElem?_set_self (by rw [h.rows i hi]; exact hj)]
      simp
    · rw [List.getD_eq_getElem?_getD, List.getElem?_set_ne e2, if_neg (fun x => e2 x.2.symm), ← List.getD_eq_getElem?_getD]
  · rw [List.getD_eq_getElem?_getD (l := ml.set _ _), List.getElem?_set_ne e, if_neg (fun x => e x.1.symm), ← List.getD_eq_getElem?_getD]
def takeM (ml : Mail) (i : Nat) (l : List S64) : Mail := l.foldl (fun ml p => putS ml i p.To.toNat (qS ml i p.To.toNat ++ [toMsg p])) ml
/-- No queue is longer. -/
def Few (ml : Mail) (b : Nat) : Prop := ∀ i j, (qS ml i j).length ≤ b
theorem Few.put {k : Nat} {ml : Mail} {b : Nat} (hd : Dim k ml) (h : Few ml b) {i j : Nat} (hi : i < k) (hj : j < k) (m : S57) : Few (putS ml i j (qS ml i j ++ [m])) (b + 1) := by
  intro a c
  rw [qS_put hd hi hj]
  split
  · have := h i j; simp; omega
  · have := h a c; omega
theorem L11_eq (n : Nat) (i k : Nat) (hi : i < k) (rs : List S37) (hrs : rs.length = k) (up : List Bool) (l : List S64) (hl : l.length ≤ 1000) (hto : ∀ p ∈ l, oth p.To i k) :
    ∀ (d t f : Nat) (ml : Mail), t + d = l.length → d < f → Dim k ml → Few ml (1000000 - d) → iter (U11_0 n) f (((i : Int), (l, (((l.length : Nat) : Int), (t : Int)))), (k, (ml, (rs, up)))) = some (.inl (k, (takeM ml i (l.drop t), (rs, up)))) := by
  intro d
  induction d with
  | zero =>
    intro t f ml ht hf hd hq
    obtain ⟨f, rfl⟩ := iter_exists (show 0 < f by omega)
    rw [iter_succ, U11_0.eq_1, S11_0.eq_1]
    simp only [lt_f (show l.length ≤ t by omega), cond_false]
    rw [List.drop_of_length_le (by omega)]
    rfl
  | succ d ih =>
    intro t f ml ht hf hd hq
    obtain ⟨f, rfl⟩ := iter_exists (show 0 < f by omega)
    rw [iter_succ, U11_0.eq_1, S11_0.eq_1]
    have hi1 : t < l.length := by omega
    have hg := List.getElem?_eq_getElem hi1
    have ho := hto l[t] (List.getElem_mem hi1)
    obtain ⟨j, hj⟩ := Int.eq_ofNat_of_zero_le ho.1
    have hjk : j < k := by have := ho.2.1; omega
    have hji : ((l[t].To) == (i : Int)) = false := by simpa using ho.2.2
    have c1 : decide (l[t].To < 0) = false := by have := ho.1; simp; omega
    have c2 : decide (l[t].To ≥ (rs.length : Int)) = false := by rw [hrs]; have := ho.2.1; simp; omega
    simp only [lt_t hi1, cond_true, ixo_nat hg, Option.bind_some, w64s t (by omega), c1, c2, hji, cond_false]
    simp only [hj, Int.toNat_natCast, ge0, lt_t hi, hd.row hi, Option.bind_some, hd.rows i hi, lt_t hjk, Bool.and_self, cond_true, hd.q hi hjk]
    rw [app_small (by have := hq i j; simp; omega)]
    simp only [cond_true, Nat.beq_refl, Bool.and_self]
    rw [drop_cons hg]
    have e : takeM ml i (l[t] :: l.drop (t + 1)) = takeM (putS ml i j (qS ml i j ++ [toMsg l[t]])) i (l.drop (t + 1)) := by
      unfold takeM
      rw [List.foldl_cons, hj, Int.toNat_natCast]
    rw [e]
    refine ih (t + 1) f _ (by omega) (by omega) (hd.put i j _) ?_
    have := Few.put hd hq hi hjk (toMsg l[t])
    intro a b
    exact Nat.le_trans (this a b) (by omega)
theorem F11_eq (n : Nat) (hn : 5000 ≤ n) {i k : Nat} (hi : i < k) (r : S37) (rs : List S37) (hrs : rs.length = k) (up : List Bool) (l : List S64) (hl : l.length ≤ 1000) (hto : ∀ p ∈ l, oth p.To i k) (ml : Mail) (hd : Dim k ml) (hq : Few ml 900000) :
    F11 n (i : Int) r l k rs up ml = some (true, (k, (rs.set i r, (up, takeM ml i l)))) := by
  have h := L11_eq n i k hi (rs.set i r) (by simp [hrs]) up l hl hto l.length 0 n ml (by omega) (by omega) hd (fun a b => by have := hq a b; omega)
  have z : ((0 : Nat) : Int) = (0 : Int) := rfl
  rw [z, List.drop_zero] at h
  unfold F11 L11_0
  simp only [ge0, hrs, lt_t hi, Bool.and_self, cond_true, Int.toNat_natCast, h]
  rfl
end Go.Abs.Rg
end
section
set_option linter.all false
set_option linter.unusedVariables false
set_option linter.unusedSimpArgs false
set_option linter.unnecessarySimpa false
/-
  Regen: the sites together: a message is delivered, a site acts, at most one has a token.
-/
namespace Go.Abs.Rg
open Go Go.Abs Go.G28 Go.Abs.AbsP28

theorem hear_err (r : S37) (i f : Int) (m : S57) : ((hearS r i f m).2.2 = 0) ∨ (((hearS r i f m).2.2 = 18 ∨ (hearS r i f m).2.2 = 14 ∨ (hearS r i f m).2.2 = 19) ∧ (hearS r i f m).2.1 = []) := by
  unfold hearS
  repeat' split
  all_goals simp
theorem there_to {r : S37} {i k : Int} (h : Valid r i k) (p : S64) (hp : p ∈ (thereS r).2) : oth p.To i k := by
  unfold thereS at hp
  split at hp
  · simp at hp
  · split at hp
    · simp at hp
    · rename_i h1 h2
      simp at hp
      subst hp
      rcases h.st with h | h | h
      · exact absurd h.next h2
      · rcases h.path with ⟨a, b⟩ | ⟨a, b⟩
        · exact absurd b h2
        · exact b
      · exact h.tok.next h2
theorem last_oth {r : S37} {i k : Int} (h : Valid r i k) (h2 : r.Token_Last ≠ -1) : oth r.Token_Last i k := by
  rcases h.st with h | h | h
  · exact absurd h.last h2
  · rcases h.path with ⟨a, b⟩ | ⟨a, b⟩
    · exact absurd a h2
    · exact a
  · exact h.tok.last h2
theorem next_oth {r : S37} {i k : Int} (h : Valid r i k) (h2 : r.Token_Next ≠ -1) : oth r.Token_Next i k := by
  rcases h.st with h | h | h
  · exact absurd h.next h2
  · rcases h.path with ⟨a, b⟩ | ⟨a, b⟩
    · exact absurd b h2
    · exact b
  · exact h.tok.next h2
theorem hear_to {r : S37} {i f k : Int} {m : S57} (h : Valid r i k) (hf : oth f i k) (hm : MsgOK m i k) (p : S64) (hp : p ∈ (hearS r i f m).2.1) : oth p.To i k := by
  unfold hearS at hp
  split at hp
  · simp at hp
  · split at hp
    · split at hp
      · simp at hp; rcases hp with hp | hp <;> (subst hp; exact hf)
      · simp at hp; subst hp; exact hf
    · split at hp
      · split at hp
        · simp at hp
        · split at hp
          · simp at hp
          · exact there_to h p hp
      · split at hp
        · simp at hp
        · split at hp
          · split at hp <;> simp at hp
          · rename_i h1 h2 h3 h4 h5
            have hk : m.Kind = 12 := by rcases hm.kind with e | e | e | e <;> first | exact e | contradiction
            simp only at hp
            unfold reqS at hp
            split at hp
            · rename_i h6; simp at hp; subst hp; exact last_oth h h6
            · split at hp
              · simp at hp; subst hp; exact hm.site hk
              · simp at hp
theorem hear_len (r : S37) (i f : Int) (m : S57) : (hearS r i f m).2.1.length ≤ 2 := by
  unfold hearS thereS reqS
  repeat' split
  all_goals simp
theorem set_self {k : Nat} {ml : Mail} (hd : Dim k ml) {i j : Nat} (hi : i < k) (hj : j < k) : ml.set i ((ml.getD i []).set j (qS ml i j)) = ml := by
  have h1 : (ml.getD i []).set j (qS ml i j) = ml.getD i [] := by
    apply List.ext_getElem?
    intro b
    rw [List.getElem?_set]
    split
    · rename_i e; subst e
      rw [hd.q hi hj]; split
      · rfl
      · rename_i e; rw [hd.rows i hi] at e; omega
    · rfl
  rw [h1]
  apply List.ext_getElem?
  intro b
  rw [List.getElem?_set]
  split
  · rename_i e; subst e
    rw [hd.row hi]; split
    · rfl
    · rename_i e; rw [hd.len] at e; omega
  · rfl
theorem Few.tail {k : Nat} {ml : Mail} {b : Nat} (hd : Dim k ml) (h : Few ml b) {i j : Nat} (hi : i < k) (hj : j < k) {m : S57} {q : List S57} (hq : qS ml i j = m :: q) : Few (putS ml i j q) b := by
  intro a c
  rw [qS_put hd hi hj]
  split
  · have := h i j; rw [hq] at this; simp at this; omega
  · exact h a c
/-- A message is delivered. -/
def dRs (rs : List S37) (i j : Nat) (m : S57) : List S37 := if (hearS (rs.getD j zr) j i m).2.2 = 0 then rs.set j (hearS (rs.getD j zr) j i m).1 else rs
def dMl (rs : List S37) (ml : Mail) (i j : Nat) (m : S57) (q : List S57) : Mail := takeM (putS ml i j q) j (hearS (rs.getD j zr) j i m).2.1
theorem getD_some {α : Type} {l : List α} {i : Nat} (h : i < l.length) (d : α) : l[i]? = some (l.getD i d) := by
  rw [List.getD_eq_getElem?_getD, List.getElem?_eq_getElem h]; rfl
theorem F20_eq (n : Nat) (hn : 5000 ≤ n) {i j k : Nat} (hi : i < k) (hj : j < k) (hk : k ≤ 4) (hij : i ≠ j) (rs : List S37) (hrs : rs.length = k) (up : List Bool) (ml : Mail) (hd : Dim k ml) (hf : Few ml 900000)
    {m : S57} {q : List S57} (hq : qS ml i j = m :: q) (hv : Valid (rs.getD j zr) j k) (hm : MsgOK m j k) :
    F20 n (i : Int) (j : Int) k rs up ml = some (true, (k, (dRs rs i j m, (up, dMl rs ml i j m q)))) := by
  have hp : Prop4 (j : Int) (k : Int) := ⟨by omega, by omega, by omega, by omega⟩
  have ho : oth (i : Int) j k := ⟨by omega, by omega, by omega⟩
  have hss := set_self hd hi hj
  unfold F20
  simp only [ge0, lt_t hi, Bool.and_self, cond_true, Int.toNat_natCast, hd.row hi, Option.bind_some, hd.rows i hi, lt_t hj, hd.q hi hj, hss]
  simp only [hq, List.length_cons, Nat.beq_refl, Bool.and_self, cond_true]
  have b1 : decide ((0 : Int) < ((q.length + 1 : Nat) : Int)) = true := by simp
  have b2 : boundsE (q.length + 1) (some 1) none = true := by unfold boundsE; simp; omega
  have b3 : ((m :: q)[Int.toNat 0]?) = some m := rfl
  have b4 : List.take (q.length + 1 - Int.toNat 1) (List.drop (Int.toNat 1) (m :: q)) = q := by
    show List.take (q.length + 1 - 1) q = q
    rw [List.take_of_length_le (by omega)]
  have b0 : decide ((0 : Int) ≤ 0) = true := rfl
  simp only [b0, b1, Bool.and_self, cond_true, b3, Option.bind_some, b2, hrs, lt_t hj, getD_some (show j < rs.length by omega) zr, F13_eq n hn hp hv ho hm, b4]
  have e1 : ml.set i ((ml.getD i []).set j q) = putS ml i j q := rfl
  rw [e1]
  unfold dRs dMl
  rcases hear_err (rs.getD j zr) j i m with h | ⟨h, h2⟩
  · have hb : ((hearS (rs.getD j zr) j i m).2.2 != 0) = false := by rw [h]; rfl
    rw [hb, cond_false, if_pos h]
    have := F11_eq n hn hj (hearS (rs.getD j zr) j i m).1 rs hrs up (hearS (rs.getD j zr) j i m).2.1 (by have := hear_len (rs.getD j zr) j i m; omega) (fun p hp => hear_to hv ho hm p hp) (putS ml i j q) (hd.put i j q) (hf.tail hd hi hj hq)
    rw [this, Option.bind_some]
  · have hb : ((hearS (rs.getD j zr) j i m).2.2 != 0) = true := by rcases h with h | h | h <;> (rw [h]; rfl)
    have hb2 : (bif ((hearS (rs.getD j zr) j i m).2.2 != 2) then ((hearS (rs.getD j zr) j i m).2.2 != 1) else false) = true := by rcases h with h | h | h <;> (rw [h]; rfl)
    have hne : ¬ (hearS (rs.getD j zr) j i m).2.2 = 0 := by rcases h with h | h | h <;> (rw [h]; decide)
    rw [hb, cond_true, hb2, h2, if_neg hne]
    rfl

/-! ### one -/
/-- All is as it must be for the code to go on. -/
structure Ok (k : Nat) (rs : List S37) (up : List Bool) (ml : Mail) : Prop where
  k1 : 1 ≤ k
  k4 : k ≤ 4
  rl : rs.length = k
  ul : up.length = k
  dim : Dim k ml
  few : Few ml 900000
  val : ∀ i, i < k → Valid (rs.getD i zr) i k
  ep : ∀ i, i < k → (rs.getD i zr).Epoch ≤ 1000000000
  msg : ∀ i j, i < k → j < k → ∀ m ∈ qS ml i j, i ≠ j ∧ MsgOK m j k
theorem Ok.p4 {k : Nat} {rs : List S37} {up : List Bool} {ml : Mail} (h : Ok k rs up ml) {i : Nat} (hi : i < k) : Prop4 (i : Int) (k : Int) := by
  have := h.k1; have := h.k4
  exact ⟨by omega, by omega, by omega, by omega⟩
theorem L19_eq (n : Nat) (hn : 5000 ≤ n) {k : Nat} {rs : List S37} {up : List Bool} {ml : Mail} (h : Ok k rs up ml) (h1 : ∀ i j, i < k → j < k → (rs.getD i zr).Token_Has = true → (rs.getD j zr).Token_Has = true → i = j) :
    ∀ (d i f c : Nat), i + d = k → d < f → (c = 0 ∨ c = 1 ∧ ∃ a, a < i ∧ (rs.getD a zr).Token_Has = true) →
    ∃ c', c' ≤ 1 ∧ iter (U19_0 n) f (((c : Int), ((k : Int), (i : Int))), (k, (ml, (rs, up)))) = some (.inl ((c' : Int), (k, (ml, (rs, up))))) := by
  have hrl := h.rl
  have hul := h.ul
  have hk4 := h.k4
  intro d
  induction d with
  | zero =>
    intro i f c hi hf hc
    obtain ⟨f, rfl⟩ := iter_exists (show 0 < f by omega)
    rw [iter_succ, U19_0.eq_1, S19_0.eq_1]
    simp only [lt_f (show k ≤ i by omega), cond_false]
    exact ⟨c, by omega, rfl⟩
  | succ d ih =>
    intro i f c hi hf hc
    obtain ⟨f, rfl⟩ := iter_exists (show 0 < f by omega)
    rw [iter_succ, U19_0.eq_1, S19_0.eq_1]
    have hik : i < k := by omega
    have hr := getD_some (show i < rs.length by omega) zr
    have hu := getD_some (show i < up.length by omega) false
    simp only [lt_t hik, cond_true, hul, hrl, ge0, Bool.and_self, Int.toNat_natCast, hu, hr, Option.bind_some, F15_eq n hn (h.p4 hik) (h.val i hik), w64s i (by omega), bNot, Bool.not_true, cond_false]
    have hc' : c = 0 ∨ c = 1 ∧ ∃ a, a < i + 1 ∧ (rs.getD a zr).Token_Has = true := by
      rcases hc with hc | ⟨hc, a, ha, hb⟩
      · exact .inl hc
      · exact .inr ⟨hc, a, by omega, hb⟩
    cases up.getD i false with
    | false => exact ih (i + 1) f c (by omega) (by omega) hc'
    | true =>
      cases hh : (rs.getD i zr).Token_Has with
      | false => exact ih (i + 1) f c (by omega) (by omega) hc'
      | true =>
        have hc0 : c = 0 := by
          rcases hc with hc | ⟨hc, a, ha, hb⟩
          · exact hc
          · have := h1 a i (by omega) hik hb hh; omega
        subst hc0
        have e : IntKind.wrap .i64 (((0 : Nat) : Int) + 1) = ((1 : Nat) : Int) := w64s 0 (by omega)
        simp only [e, cond_true]
        exact ih (i + 1) f 1 (by omega) (by omega) (.inr ⟨rfl, i, by omega, hh⟩)
theorem F19_eq (n : Nat) (hn : 5000 ≤ n) {k : Nat} {rs : List S37} {up : List Bool} {ml : Mail} (h : Ok k rs up ml) (h1 : ∀ i j, i < k → j < k → (rs.getD i zr).Token_Has = true → (rs.getD j zr).Token_Has = true → i = j) :
    F19 n k rs up ml = some (true, (k, (rs, (up, ml)))) := by
  obtain ⟨c', h2, h3⟩ := L19_eq n hn h h1 k 0 n 0 (by omega) (by have := h.k4; omega) (.inl rfl)
  have z : ((0 : Nat) : Int) = (0 : Int) := rfl
  rw [z] at h3
  unfold F19 L19_0
  rw [h.rl, h3]
  have : decide ((c' : Int) ≤ 1) = true := by simp; omega
  simp [this]
end Go.Abs.Rg
end
section
set_option linter.all false
set_option linter.unusedVariables false
set_option linter.unusedSimpArgs false
set_option linter.unnecessarySimpa false
/-
  Regen: a step.
-/
namespace Go.Abs.Rg
open Go Go.Abs Go.G28 Go.Abs.AbsP28

def lostS (e : Int) : S37 := S37.mk e true false [] false false false (-1) (-1)
/-- What a step may do. -/
inductive StepR (k : Nat) (rs : List S37) (up : List Bool) (ml : Mail) : List S37 → List Bool → Mail → Prop
  | same : StepR k rs up ml rs up ml
  | crash (i : Nat) : i < k → StepR k rs up ml rs (up.set i false) ml
  | start (i : Nat) : i < k → StepR k rs up ml (rs.set i (lostS (rs.getD i zr).Epoch)) (up.set i true) ml
  | deliver (i j : Nat) (m : S57) (q : List S57) : i < k → j < k → qS ml i j = m :: q → StepR k rs up ml (dRs rs i j m) up (dMl rs ml i j m q)
  | begin (i : Nat) (e : Int) : i < k → (rs.getD i zr).Epoch < e → e ≤ (rs.getD i zr).Epoch + 4 → e % (k : Int) = i →
      StepR k rs up ml (rs.set i (beginS (rs.getD i zr) i k e).1) up (takeM ml i (beginS (rs.getD i zr) i k e).2)
  | done (i : Nat) : i < k → (rs.getD i zr).Token_Using = true → StepR k rs up ml (rs.set i (doneS (rs.getD i zr)).1) up (takeM ml i (doneS (rs.getD i zr)).2)
  | want (i : Nat) : i < k → (rs.getD i zr).Lost = false → (rs.getD i zr).Token_Using = false → (rs.getD i zr).Token_Want = false →
      StepR k rs up ml (rs.set i (wantS (rs.getD i zr) i).1) up (takeM ml i (wantS (rs.getD i zr) i).2)
theorem begin_to {r : S37} {i : Int} {k : Nat} {e : Int} (p : S64) (hp : p ∈ (beginS r i k e).2) : oth p.To i k := by
  unfold beginS at hp
  split at hp
  · unfold thereS askS proms at hp
    simp only at hp
    split at hp
    · simp at hp
    · simp at hp
  · simp only [List.mem_flatMap, List.mem_range'] at hp
    obtain ⟨j, ⟨a, h1, h2⟩, h3⟩ := hp
    unfold proms1 at h3
    split at h3
    · simp at h3
    · rename_i hne
      simp at h3
      subst h3
      exact ⟨by show (0 : Int) ≤ (j : Int); omega, by show (j : Int) < (k : Int); omega, hne⟩
theorem begin_len (r : S37) (i : Int) (k : Nat) (e : Int) : (beginS r i k e).2.length ≤ k := by
  unfold beginS
  split
  · unfold thereS askS proms
    simp only
    split
    · simp
    · simp
  · have : ∀ (d j : Nat), ((List.range' j d).flatMap (proms1 i e)).length ≤ d := by
      intro d
      induction d with
      | zero => intro j; simp
      | succ d ih =>
        intro j
        rw [List.range'_succ, List.flatMap_cons, List.length_append]
        have h1 := ih (j + 1)
        have h2 : (proms1 i e j).length ≤ 1 := by unfold proms1; split <;> simp
        omega
    exact this k 0
theorem done_to {r : S37} {i k : Int} (h : Valid r i k) (p : S64) (hp : p ∈ (doneS r).2) : oth p.To i k := by
  unfold doneS at hp
  split at hp
  · simp at hp
  · rename_i h2
    simp at hp; subst hp
    exact next_oth h h2
theorem want_to {r : S37} {i k : Int} (h : Valid r i k) (hl : r.Lost = false) (hu : r.Token_Using = false) (hw : r.Token_Want = false) (p : S64) (hp : p ∈ (wantS r i).2) : oth p.To i k := by
  unfold wantS at hp
  split at hp
  · simp at hp
  · split at hp
    · simp at hp
    · rename_i h1 h2
      simp at hp; subst hp
      refine last_oth h fun e => ?_
      rcases h.st with h | h | h
      · rw [h.lost] at hl; cases hl
      · exact h1 h.ask
      · exact h2 ((h.tok.idle hu hw).2.mp e)
theorem F17_eq (n : Nat) (hn : 5000 ≤ n) {k : Nat} {rs : List S37} {up : List Bool} {ml : Mail} (h : Ok k rs up ml) (a0 a1 a2 : Int) {i j : Nat} (hi : i < k) (hj : j < k) (h1 : Int.tmod a1 (k : Int) = (i : Int)) (h2 : Int.tmod a2 (k : Int) = (j : Int)) :
    ∃ rs' up' ml', F17 n a0 a1 a2 k rs up ml = some (true, (k, (rs', (up', ml')))) ∧ StepR k rs up ml rs' up' ml' ∧
      (¬ a0 < 6 → ¬ a0 = 9 → up.getD i false = false → rs' = rs.set i (lostS (rs.getD i zr).Epoch) ∧ up' = up.set i true ∧ ml' = ml) ∧
      (¬ a0 < 6 → ¬ a0 = 9 → ¬ a0 = 8 → up.getD i false = true → (rs.getD i zr).Token_Using = true → rs' = rs.set i (doneS (rs.getD i zr)).1 ∧ up' = up ∧ ml' = takeM ml i (doneS (rs.getD i zr)).2) := by
  have hrl := h.rl
  have hul := h.ul
  have hk1 := h.k1
  have hk4 := h.k4
  have hd := h.dim
  have hri := getD_some (show i < rs.length by omega) zr
  have hui := getD_some (show i < up.length by omega) false
  have huj := getD_some (show j < up.length by omega) false
  have hss := set_self hd hi hj
  have hk0 : ((k : Int) == 0) = false := by simp; omega
  have hv := h.val i hi
  have hp := h.p4 hi
  have hE := h.ep i hi
  have hst : F17 n a0 a1 a2 k rs up ml = F17 n a0 a1 a2 k rs up ml := rfl
  have hrest : F34 n (i : Int) (k : Int) (rs.getD i zr).Epoch = some (lostS (rs.getD i zr).Epoch, 0) := F34_eq n hp hv.lo hv.hi
  have htk0 : F11 n (i : Int) (lostS (rs.getD i zr).Epoch) [] k rs (up.set i true) ml = some (true, (k, (rs.set i (lostS (rs.getD i zr).Epoch), (up.set i true, ml)))) :=
    F11_eq n hn hi _ rs hrl _ [] (by simp) (by simp) ml hd h.few
  unfold F17
  simp only [hrl, hul, hk0, cond_false, h1, h2, ge0, lt_t hi, lt_t hj, Bool.and_self, cond_true, Int.toNat_natCast, hui, huj, Option.bind_some, hd.row hi, hd.rows i hi, hd.q hi hj, hss, hri]
  by_cases c6 : a0 < 6
  · have b6 : decide (a0 < 6) = true := by simpa using c6
    simp only [b6, cond_true, c6, not_true_eq_false, false_implies]
    cases huj' : up.getD j false with
    | false => exact ⟨_, _, _, rfl, .same, trivial, trivial⟩
    | true =>
      simp only [bNot, Bool.not_true, cond_false]
      cases hq : qS ml i j with
      | nil => exact ⟨_, _, _, rfl, .same, trivial, trivial⟩
      | cons m q =>
        have hm := h.msg i j hi hj m (by rw [hq]; simp)
        have hl : (((m :: q).length : Int) == 0) = false := by simp; omega
        simp only [hl, cond_false]
        rw [F20_eq n hn hi hj hk4 hm.1 rs hrl up ml hd h.few hq (h.val j hj) hm.2]
        exact ⟨_, _, _, rfl, .deliver i j m q hi hj hq, trivial, trivial⟩
  · have b6 : decide (a0 < 6) = false := by simpa using c6
    simp only [b6, cond_false, c6, not_false_eq_true, forall_const]
    by_cases c9 : a0 = 9
    · subst c9
      simp only [not_true_eq_false, false_implies]
      have b9 : ((9 : Int) == 9) = true := rfl
      simp only [b9, cond_true]
      cases hu : up.getD i false with
      | true => exact ⟨_, _, _, rfl, .crash i hi, trivial, trivial⟩
      | false =>
        simp only [bNot, Bool.not_false, cond_true, cond_false, hrest, Option.bind_some, htk0]
        exact ⟨_, _, _, rfl, .start i hi, trivial, trivial⟩
    · have b9 : (a0 == 9) = false := by simpa using c9
      simp only [b9, cond_false, c9, not_false_eq_true, forall_const]
      cases hu : up.getD i false with
      | false =>
        simp only [bNot, Bool.not_false, cond_true, cond_false, hrest, Option.bind_some, htk0]
        exact ⟨_, _, _, rfl, .start i hi, fun _ => ⟨rfl, rfl, rfl⟩, fun _ e => by cases e⟩
      | true =>
        simp only [bNot, Bool.not_true, cond_false, reduceCtorEq, false_implies, true_and, forall_const]
        by_cases c8 : a0 = 8
        · subst c8
          have b8 : ((8 : Int) == 8) = true := rfl
          obtain ⟨e, he1, he2, he3, he4⟩ := F10_eq n hn hp hv hE
          have := F11_eq n hn hi (beginS (rs.getD i zr) i k e).1 rs hrl up (beginS (rs.getD i zr) i k e).2 (by have := begin_len (rs.getD i zr) i k e; omega) (fun p hp => begin_to p hp) ml hd h.few
          simp only [b8, cond_true, he4, Option.bind_some, this]
          exact ⟨_, _, _, rfl, .begin i e hi he1 he2 he3, fun e => absurd trivial e⟩
        · have b8 : (a0 == 8) = false := by simpa using c8
          simp only [b8, cond_false, c8, not_false_eq_true, forall_const]
          cases hus : (rs.getD i zr).Token_Using with
          | true =>
            have := F11_eq n hn hi (doneS (rs.getD i zr)).1 rs hrl up (doneS (rs.getD i zr)).2 (by unfold doneS; split <;> simp) (fun p hp => done_to hv p hp) ml hd h.few
            simp only [cond_true, F35_eq n hn hp hv hus, Option.bind_some, this]
            exact ⟨_, _, _, rfl, .done i hi hus, fun _ => ⟨rfl, rfl, rfl⟩⟩
          | false =>
            simp only [cond_false, reduceCtorEq, false_implies, and_true]
            cases hw : (rs.getD i zr).Token_Want with
            | true => exact ⟨_, _, _, rfl, .same⟩
            | false =>
              cases hl : (rs.getD i zr).Lost with
              | true => exact ⟨_, _, _, rfl, .same⟩
              | false =>
                have := F11_eq n hn hi (wantS (rs.getD i zr) i).1 rs hrl up (wantS (rs.getD i zr) i).2 (by unfold wantS; split <;> simp; split <;> simp) (fun p hp => want_to hv hl hus hw p hp) ml hd h.few
                simp only [Bool.not_false, cond_true, F36_eq n hn hp hv hl hus hw, Option.bind_some, this]
                exact ⟨_, _, _, rfl, .want i hi hl hus hw⟩
end Go.Abs.Rg
end
