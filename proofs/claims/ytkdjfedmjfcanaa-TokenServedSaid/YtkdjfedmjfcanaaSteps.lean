/- The functions, told by the states of the table; the laws, plain. -/
import Derived.IntWalk
import Derived.Test.YtkdjfedmjfcanaaTab
section
set_option linter.all false
set_option linter.unusedVariables false
set_option linter.unusedSimpArgs false
set_option linter.unnecessarySimpa false
/-
  The token's functions, told by messages.
-/
namespace Go.Abs.Tok
open Go Go.Abs Go.G27 Go.Abs.AbsP27

def mkM : Msg → S55
  | .req t s => S55.mk t 12 0 0 0 0 (ByteArray.mk #[]) 0 0 0 0 0 1 s 0 false [] [] []
  | .tok t => S55.mk t 13 0 0 0 0 (ByteArray.mk #[]) 0 0 0 0 0 1 0 0 false [] [] []
def body (m : S55) : S53 := S53.mk m.Message_Kind m.Message_Proc_Site m.Message_Proc_Inc m.Message_Proc_Num m.Message_Gen m.Message_Atom_Name m.Message_Atom_Amount_Mode m.Message_Atom_Amount_Units m.Message_Priority m.Message_Inc m.Message_Round m.Message_Epoch m.Message_Site m.Message_Label m.Message_Done m.Message_State_Queues m.Message_State_Needs m.Message_Options

theorem F20_eq (n : Nat) (a b c : Int) : F20 n a b c = some (other a b c) := by
  unfold F20 other
  cases decide (a ≥ 0) <;> cases decide (a < c) <;> rfl
theorem F19_eq (n : Nat) (a b : Int) : F19 n a b = some (decide (b ≥ 1) && (decide (b ≤ 4) && (decide (a ≥ 0) && decide (a < b)))) := by
  unfold F19
  cases decide (b ≥ 1) <;> cases decide (b ≤ 4) <;> cases decide (a ≥ 0) <;> rfl
theorem F14_eq (n : Nat) (t : S34) (i s : Int) : F14 n t i s = some (valid t i s) := by
  obtain ⟨H, W, U, L, N⟩ := t
  unfold F14 valid
  simp only [F19_eq, F20_eq, Option.bind_some, bNot]
  generalize (decide (s ≥ 1) && (decide (s ≤ 4) && (decide (i ≥ 0) && decide (i < s)))) = p
  generalize other L i s = q
  generalize other N i s = r
  have hb : ∀ a b : Bool, bEq a b = (a == b) := fun _ _ => rfl
  simp only [hb]
  have hL : (L == -1) = !(L != -1) := by simp [bne]
  have hN : (N == -1) = !(N != -1) := by simp [bne]
  rw [hL, hN]
  generalize (L != -1) = x
  generalize (N != -1) = y
  revert p q r x y H W U
  decide
theorem F12_eq (n : Nat) (t : S34) (i s : Int) : F12 n t i s 1 = some ((G12 (valid t i s) t i).1, ((G12 (valid t i s) t i).2.1.map mkM, (G12 (valid t i s) t i).2.2)) := by
  obtain ⟨H, W, U, L, N⟩ := t
  unfold F12 G12
  simp only [F14_eq, Option.bind_some, bNot, F18, F22]
  cases valid ⟨H, W, U, L, N⟩ i s <;> cases H <;> cases W <;> cases U <;> rfl
theorem F8_eq (n : Nat) (t : S34) (i s : Int) : F8 n t i s 1 = some ((G8 (valid t i s) t).1, ((G8 (valid t i s) t).2.1.map mkM, (G8 (valid t i s) t).2.2)) := by
  obtain ⟨H, W, U, L, N⟩ := t
  unfold F8 G8
  simp only [F14_eq, Option.bind_some, bNot, F18, F23]
  cases valid ⟨H, W, U, L, N⟩ i s <;> cases U <;> cases hN : N == -1 <;> simp [hN, bad, mkM]
theorem F13_eq (n : Nat) (t : S34) (i s : Int) (m : Msg) : F13 n t i s 1 (body (mkM m)) = some ((G13 (valid t i s) (oth m i s) t m).1, ((G13 (valid t i s) (oth m i s) t m).2.1.map mkM, (G13 (valid t i s) (oth m i s) t m).2.2)) := by
  obtain ⟨H, W, U, L, N⟩ := t
  unfold F13
  cases m with
  | req t0 s0 =>
    simp only [body, mkM, F14_eq, F20_eq, Option.bind_some, bNot, F18, F22, F23, G13, oth]
    cases valid ⟨H, W, U, L, N⟩ i s <;> cases other s0 i s <;> cases hL : L != -1 <;> cases H <;> cases U <;> simp [bad, mkM]
  | tok t0 =>
    simp only [body, mkM, F14_eq, F20_eq, Option.bind_some, bNot, F18, F22, F23, G13, oth]
    cases valid ⟨H, W, U, L, N⟩ i s <;> cases W <;> simp [bad]
end Go.Abs.Tok
end
section
set_option linter.all false
set_option linter.unusedVariables false
set_option linter.unusedSimpArgs false
set_option linter.unnecessarySimpa false
/-
  The table of the token's states: what its check says.
-/
namespace Go.Abs.Tok
open Go Go.Abs Go.G27 Go.Abs.AbsP27

theorem okL_mem {n : Nat} {T : Tr} {big : Nat} : ∀ (k i : Nat), okL n T big k i = true → ∀ j, i ≤ j → j < i + k → okState n T (at_ big j) = true := by
  intro k
  induction k with
  | zero => intro i _ j h1 h2; omega
  | succ k ih =>
    intro i h j h1 h2
    simp only [okL, Bool.and_eq_true] at h
    rcases Nat.eq_or_lt_of_le h1 with rfl | h3
    · exact h.1
    · exact ih (i + 1) h.2 j h3 (by omega)
theorem findL_ok {big c r : Nat} : ∀ (f lo hi : Nat), findL big c f lo hi = some r → ∃ j, lo ≤ j ∧ j < hi ∧ at_ big j / 16 = c ∧ at_ big j % 16 = r := by
  intro f
  induction f with
  | zero => intro lo hi h; simp [findL] at h
  | succ f ih =>
    intro lo hi h
    simp only [findL] at h
    cases h1 : Nat.ble hi lo with
    | true => simp [h1] at h
    | false =>
      have hlt : lo < hi := by
        rcases Nat.lt_or_ge lo hi with h2 | h2
        · exact h2
        · rw [Nat.ble_eq_true_of_le h2] at h1; cases h1
      rw [h1] at h
      simp only [cond_false] at h
      cases h2 : Nat.beq (at_ big ((lo + hi) / 2) / 16) c with
      | true =>
        rw [h2] at h
        simp only [cond_true, Option.some.injEq] at h
        exact ⟨_, by omega, by omega, Nat.eq_of_beq_eq_true h2, h⟩
      | false =>
        rw [h2] at h
        simp only [cond_false] at h
        cases h3 : Nat.blt (at_ big ((lo + hi) / 2) / 16) c with
        | true =>
          rw [h3] at h
          obtain ⟨j, q1, q2, q3⟩ := ih _ _ h
          exact ⟨j, by omega, by omega, q3⟩
        | false =>
          rw [h3] at h
          obtain ⟨j, q1, q2, q3⟩ := ih _ _ h
          exact ⟨j, by omega, by omega, q3⟩
theorem find_ok {n : Nat} {T : Tr} {c r : Nat} : ∀ (U : Tr), okTr n T U = true → find c U = some r → ∃ w, w / 16 = c ∧ w % 16 = r ∧ okState n T w = true := by
  intro U
  induction U with
  | l big len =>
    intro h hf
    obtain ⟨j, h1, h2, h3, h4⟩ := findL_ok _ _ _ hf
    exact ⟨_, h3, h4, okL_mem len 0 h j h1 (by omega)⟩
  | n k a b iha ihb =>
    intro h hf
    simp only [okTr, Bool.and_eq_true] at h
    simp only [find] at hf
    cases q : Nat.blt c k with
    | true => rw [q] at hf; exact iha h.1 hf
    | false => rw [q] at hf; exact ihb h.2 hf

theorem eqS_eq {a b : S34} (h : eqS a b = true) : a = b := by
  obtain ⟨h1, h2, h3, h4, h5⟩ := a
  obtain ⟨g1, g2, g3, g4, g5⟩ := b
  simp only [eqS, Bool.and_eq_true, beq_iff_eq] at h
  obtain ⟨rfl, rfl, rfl, rfl, rfl⟩ := h
  rfl
theorem eqSs_eq : ∀ {a b : List S34}, eqSs a b = true → a = b := by
  intro a
  induction a with
  | nil => intro b h; cases b with | nil => rfl | cons => simp [eqSs] at h
  | cons x a ih =>
    intro b h
    cases b with
    | nil => simp [eqSs] at h
    | cons y b =>
      simp only [eqSs, Bool.and_eq_true] at h
      rw [eqS_eq h.1, ih h.2]

/-- A state of the table. -/
def At (n : Nat) (T : Tr) (r : Nat) (ts : List S34) (ms : List Msg) : Prop := ∃ c, find c T = some r ∧ ts = dSites n c ∧ ms.Perm (mail c)

section
variable {n : Nat} {T : Tr}
theorem next_at {ts : List S34} {ms : List Msg} {p : Nat → Bool} (h : next n T ts ms p = true) : ∃ r, p r = true ∧ At n T r ts ms := by
  unfold next at h
  split at h
  · rename_i r hr
    simp only [Bool.and_eq_true] at h
    exact ⟨r, h.1, _, hr, (eqSs_eq h.2.1).symm, (List.isPerm_iff.mp h.2.2).symm⟩
  · cases h
theorem At.perm {r : Nat} {ts : List S34} {ms ms' : List Msg} (h : At n T r ts ms) (hp : ms'.Perm ms) : At n T r ts ms' := by
  obtain ⟨c, h1, h2, h3⟩ := h
  exact ⟨c, h1, h2, hp.trans h3⟩
theorem dSites_length : ∀ (n c : Nat), (dSites n c).length = n := by
  intro n
  induction n with
  | zero => intro c; rfl
  | succ n ih => intro c; simp [dSites, ih]
theorem dMail_length : ∀ (k c : Nat), (dMail k c).length ≤ k := by
  intro k
  induction k with
  | zero => intro c; simp [dMail]
  | succ k ih =>
    intro c
    simp only [dMail]
    cases Nat.beq c 0 with
    | true => simp
    | false => simp [ih]
theorem At.len {r : Nat} {ts : List S34} {ms : List Msg} (h : At n T r ts ms) : ts.length = n ∧ ms.length ≤ 4 := by
  obtain ⟨c, h1, rfl, h3⟩ := h
  exact ⟨dSites_length _ _, by rw [h3.length_eq]; exact dMail_length _ _⟩
theorem ops_get {r : Nat} {ts : List S34} {ms : List Msg} : ∀ (l : List S34) (i : Nat), ops n T r ts ms i l = true → ∀ (j : Nat) (t : S34), l[j]? = some t →
    (t.Using = true → (G8 (valid t (i + j : Nat) n) t).2.2 = 0 ∧ ∃ r', r' ≤ r ∧ At n T r' (ts.set (i + j) (G8 (valid t (i + j : Nat) n) t).1) (ms ++ (G8 (valid t (i + j : Nat) n) t).2.1)) ∧
    (t.Using = false → t.Want = false → (G12 (valid t (i + j : Nat) n) t (i + j : Nat)).2.2 = 0 ∧ ∃ r', At n T r' (ts.set (i + j) (G12 (valid t (i + j : Nat) n) t (i + j : Nat)).1) (ms ++ (G12 (valid t (i + j : Nat) n) t (i + j : Nat)).2.1)) := by
  intro l
  induction l with
  | nil => intro i _ j t h; simp at h
  | cons x l ih =>
    intro i h j t hj
    simp only [ops, Bool.and_eq_true] at h
    cases j with
    | zero =>
      simp at hj; subst hj
      refine ⟨fun hu => ?_, fun hu hw => ?_⟩
      · have h1 := h.1
        rw [hu] at h1
        simp only [cond_true, Bool.and_eq_true, beq_iff_eq] at h1
        obtain ⟨r', q1, q2⟩ := next_at h1.2
        exact ⟨h1.1, r', Nat.le_of_ble_eq_true q1, q2⟩
      · have h1 := h.1
        rw [hu, hw] at h1
        simp only [cond_true, cond_false, Bool.not_false, Bool.and_eq_true, beq_iff_eq] at h1
        obtain ⟨r', q1, q2⟩ := next_at h1.2
        exact ⟨h1.1, r', q2⟩
    | succ j =>
      have := ih (i + 1) h.2 j t (by simpa using hj)
      rw [show i + 1 + j = i + (j + 1) by omega] at this
      exact this
theorem hears_get {r : Nat} {ts : List S34} {ms : List Msg} : ∀ (l : List Msg) (k : Nat), hears n T r ts ms k l = true → ∀ (j : Nat) (m : Msg), l[j]? = some m →
    ∃ (to : Nat) (t : S34), m.to = (to : Int) ∧ ts[to]? = some t ∧ (G13 (valid t to n) (oth m to n) t m).2.2 = 0 ∧
      ∃ r', (anyU ts = false → r' < r) ∧ At n T r' (ts.set to (G13 (valid t to n) (oth m to n) t m).1) (ms.eraseIdx (k + j) ++ (G13 (valid t to n) (oth m to n) t m).2.1) := by
  intro l
  induction l with
  | nil => intro k _ j m h; simp at h
  | cons x l ih =>
    intro k h j m hj
    simp only [hears, Bool.and_eq_true] at h
    cases j with
    | zero =>
      simp at hj; subst hj
      have h1 := h.1
      split at h1
      · rename_i to hto
        split at h1
        · rename_i t ht
          simp only [Bool.and_eq_true, beq_iff_eq] at h1
          obtain ⟨r', q1, q2⟩ := next_at h1.2
          refine ⟨to, t, hto, ht, h1.1, r', fun hu => ?_, q2⟩
          rw [hu] at q1
          simp only [Bool.false_or] at q1
          exact Nat.le_of_ble_eq_true q1
        · cases h1
      · cases h1
    | succ j =>
      have := ih (k + 1) h.2 j m (by simpa using hj)
      rw [show k + 1 + j = k + (j + 1) by omega] at this
      exact this
theorem validAll_get : ∀ (l : List S34) (i : Nat), validAll n i l = true → ∀ (j : Nat) (t : S34), l[j]? = some t → valid t (i + j : Nat) n = true := by
  intro l
  induction l with
  | nil => intro i _ j t h; simp at h
  | cons x l ih =>
    intro i h j t hj
    simp only [validAll, Bool.and_eq_true] at h
    cases j with
    | zero => simp at hj; subst hj; exact h.1
    | succ j =>
      have := ih (i + 1) h.2 j t (by simpa using hj)
      rw [show i + 1 + j = i + (j + 1) by omega] at this
      exact this
theorem cntM_perm {a b : List Msg} (h : a.Perm b) : cntM a = cntM b := by
  induction h with
  | nil => rfl
  | cons x _ ih => cases x <;> simp [cntM, ih]
  | swap x y l => cases x <;> cases y <;> simp [cntM]
  | trans _ _ h1 h2 => rw [h1, h2]
theorem erase_cons {m : Msg} : ∀ (l : List Msg) (i : Nat), l[i]? = some m → (m :: l.eraseIdx i).Perm l := by
  intro l
  induction l with
  | nil => intro i h; simp at h
  | cons x l ih =>
    intro i h
    cases i with
    | zero => simp at h; subst h; simp
    | succ i =>
      simp only [List.eraseIdx_cons_succ]
      exact (List.Perm.swap x m _).trans ((ih i (by simpa using h)).cons x)
theorem erase_perm {a b : List Msg} (h : a.Perm b) {i j : Nat} {m : Msg} (hi : a[i]? = some m) (hj : b[j]? = some m) : (a.eraseIdx i).Perm (b.eraseIdx j) := by
  exact ((erase_cons a i hi).trans (h.trans (erase_cons b j hj).symm)).cons_inv

/-- What the table says of a state. -/
theorem At.facts (hT : okTr n T T = true) {r : Nat} {ts : List S34} {ms : List Msg} (h : At n T r ts ms) :
    validAll n 0 ts = true ∧ cntS ts + cntM ms = 1 ∧
    (∀ (j : Nat) (t : S34), ts[j]? = some t → t.Using = true → (G8 (valid t j n) t).2.2 = 0 ∧ ∃ r', r' ≤ r ∧ At n T r' (ts.set j (G8 (valid t j n) t).1) (ms ++ (G8 (valid t j n) t).2.1)) ∧
    (∀ (j : Nat) (t : S34), ts[j]? = some t → t.Using = false → t.Want = false → (G12 (valid t j n) t j).2.2 = 0 ∧ ∃ r', At n T r' (ts.set j (G12 (valid t j n) t j).1) (ms ++ (G12 (valid t j n) t j).2.1)) ∧
    (∀ (k : Nat) (m : Msg), ms[k]? = some m → ∃ (to : Nat) (t : S34), m.to = (to : Int) ∧ ts[to]? = some t ∧ (G13 (valid t to n) (oth m to n) t m).2.2 = 0 ∧
      ∃ r', (anyU ts = false → r' < r) ∧ At n T r' (ts.set to (G13 (valid t to n) (oth m to n) t m).1) (ms.eraseIdx k ++ (G13 (valid t to n) (oth m to n) t m).2.1)) ∧
    (ms = [] → anyU ts = false → anyW ts = false) := by
  obtain ⟨c, hf, rfl, hp⟩ := h
  obtain ⟨w, rfl, rfl, hw⟩ := find_ok T hT hf
  simp only [okState, Bool.and_eq_true] at hw
  obtain ⟨h1, h2, h3, h4, h5⟩ := hw
  refine ⟨h1, by rw [cntM_perm hp]; exact Nat.eq_of_beq_eq_true h2, fun j t hj hu => ?_, fun j t hj hu hw => ?_, fun k m hk => ?_, fun hm hu => ?_⟩
  · have := (ops_get _ 0 h3 j t hj).1 hu
    simp only [Nat.zero_add] at this
    obtain ⟨q1, r', q2, q3⟩ := this
    exact ⟨q1, r', q2, q3.perm (hp.append_right _)⟩
  · have := (ops_get _ 0 h3 j t hj).2 hu hw
    simp only [Nat.zero_add] at this
    obtain ⟨q1, r', q3⟩ := this
    exact ⟨q1, r', q3.perm (hp.append_right _)⟩
  · have hmem : m ∈ mail (w / 16) := hp.mem_iff.mp (List.mem_of_getElem? hk)
    obtain ⟨k', hk'⟩ := List.getElem?_of_mem hmem
    have := hears_get _ 0 h4 k' m hk'
    simp only [Nat.zero_add] at this
    obtain ⟨to, t, q1, q2, q3, r', q4, q5⟩ := this
    exact ⟨to, t, q1, q2, q3, r', q4, q5.perm ((erase_perm hp hk hk').append_right _)⟩
  · subst hm
    have : mail (w / 16) = [] := List.nil_perm.mp hp
    rw [this, hu] at h5
    simpa using h5
end
end Go.Abs.Tok
end
section
set_option linter.all false
set_option linter.unusedVariables false
set_option linter.unusedSimpArgs false
set_option linter.unnecessarySimpa false
/-
  The cluster's functions, told by the table's states.
-/
namespace Go.Abs.Tok
open Go Go.Abs Go.G27 Go.Abs.AbsP27

theorem w64 {x : Int} (h : -9223372036854775808 ≤ x ∧ x ≤ 9223372036854775807) : IntKind.wrap .i64 x = x := IntWalk.i64_in x h
theorem inOK {i n : Nat} (h : i < n) : (decide (0 ≤ (i : Int)) && decide ((i : Int) < ((n : Nat) : Int))) = true := by
  have h1 : (0 : Int) ≤ (i : Int) := by omega
  have h2 : (i : Int) < (n : Int) := by omega
  simp [h1, h2]
theorem app_small {a b c : Nat} (h : (a + b) * c ≤ 70368744177664) : appOK a b c = true := by
  rw [appOK_iff]
  have : (((a + b) * c : Nat) : Int) ≤ 70368744177664 := by omega
  push_cast at this
  exact this
theorem to_mk (m : Msg) : (mkM m).To = m.to := by cases m <;> rfl
theorem G13_len (v o : Bool) (t : S34) (m : Msg) : (G13 v o t m).2.1.length ≤ 1 := by
  cases m with
  | req a b =>
    simp only [G13]
    cases v <;> cases o <;> cases t.Last != -1 <;> cases t.Has && !t.Using <;> simp
  | tok a =>
    simp only [G13]
    cases v <;> cases t.Want <;> simp
theorem G8_len (v : Bool) (t : S34) : (G8 v t).2.1.length ≤ 1 := by
  simp only [G8]
  cases v <;> cases t.Using <;> cases t.Next == -1 <;> simp
theorem G12_len (v : Bool) (t : S34) (i : Int) : (G12 v t i).2.1.length ≤ 1 := by
  simp only [G12]
  cases v <;> cases t.Using <;> cases t.Want <;> cases t.Has <;> simp

theorem F9_eq (n k to : Nat) (ts : List S34) (l : List Msg) (m : Msg) (t : S34) (hk : l[k]? = some m) (hl : l.length ≤ 4) (hs : ts.length ≤ 4) (hto : m.to = (to : Int)) (ht : ts[to]? = some t) :
    F9 n k ts (l.map mkM) = some ((G13 (valid t to ts.length) (oth m to ts.length) t m).2.2 == 0, ((ts.set to (G13 (valid t to ts.length) (oth m to ts.length) t m).1, l.map mkM), (l.eraseIdx k ++ (G13 (valid t to ts.length) (oth m to ts.length) t m).2.1).map mkM)) := by
  have hk1 : k < l.length := by
    rcases Nat.lt_or_ge k l.length with h1 | h1
    · exact h1
    · rw [List.getElem?_eq_none h1] at hk; cases hk
  have ht1 : to < ts.length := by
    rcases Nat.lt_or_ge to ts.length with h1 | h1
    · exact h1
    · rw [List.getElem?_eq_none h1] at ht; cases ht
  have a1 : (l.map mkM)[Int.toNat (k : Int)]? = some (mkM m) := by simp [hk]
  have a2 : boundsE (l.map mkM).length none (some (k : Int)) = true := by
    simp only [boundsE, List.length_map]
    have h1 : (0 : Int) ≤ (k : Int) := by omega
    have h2 : (k : Int) ≤ (l.length : Int) := by omega
    simp [h1, h2]
  have a3 : IntKind.wrap .i64 ((k : Int) + 1) = ((k + 1 : Nat) : Int) := by rw [w64 (by omega)]; rfl
  have a4 : boundsE (l.map mkM).length (some ((k + 1 : Nat) : Int)) none = true := by
    simp only [boundsE, List.length_map]
    simp
    omega
  have a5 : (List.take ((List.length (l.map mkM)) - (Int.toNat ((k + 1 : Nat) : Int))) (List.drop (Int.toNat ((k + 1 : Nat) : Int)) (l.map mkM))) = (l.drop (k + 1)).map mkM := by
    rw [Int.toNat_natCast, List.take_of_length_le (by simp), List.map_drop]
  have a6 : (List.take ((Int.toNat (k : Int)) - 0) (List.drop 0 (l.map mkM))) = (l.take k).map mkM := by
    rw [Int.toNat_natCast, Nat.sub_zero, List.drop_zero, List.map_take]
  have a7 : (decide ((mkM m).To < (0 : Int))) = false := by rw [to_mk, hto]; simp
  have a8 : (decide ((mkM m).To ≥ ((List.length ts : Nat) : Int))) = false := by rw [to_mk, hto]; simp; omega
  have a9 : (mkM m).To = (to : Int) := by rw [to_mk, hto]
  have lo : (G13 (valid t to ts.length) (oth m to ts.length) t m).2.1.length ≤ 1 := G13_len _ _ _ _
  unfold F9
  rw [List.length_map, inOK hk1]
  simp only [cond_true]
  rw [a1]
  simp only [Option.bind_some]
  rw [← List.length_map (f := mkM), a2, a6]
  simp only [cond_true]
  rw [app_small (by simp; omega), a3, a4, a5]
  simp only [cond_true, List.nil_append]
  rw [app_small (by simp; omega), a7, a8, a9, inOK ht1]
  simp only [cond_true, cond_false, Int.toNat_natCast, ht, Option.bind_some]
  have hb : (S53.mk (mkM m).Message_Kind (mkM m).Message_Proc_Site (mkM m).Message_Proc_Inc (mkM m).Message_Proc_Num (mkM m).Message_Gen (mkM m).Message_Atom_Name (mkM m).Message_Atom_Amount_Mode (mkM m).Message_Atom_Amount_Units (mkM m).Message_Priority (mkM m).Message_Inc (mkM m).Message_Round (mkM m).Message_Epoch (mkM m).Message_Site (mkM m).Message_Label (mkM m).Message_Done (mkM m).Message_State_Queues (mkM m).Message_State_Needs (mkM m).Message_Options) = body (mkM m) := rfl
  rw [hb, F13_eq]
  simp only [Option.bind_some]
  rw [app_small (by simp; omega)]
  simp only [cond_true]
  rw [List.eraseIdx_eq_take_drop_succ]
  simp only [List.map_append]

theorem F15_eq (n : Nat) (l : List Int) (i : Int) : F15 n l i = some (decide (i < ((l.length : Nat) : Int)), (l, i)) := rfl

theorem F21_eq (n : Nat) (y m : Int) (hm : 0 < m) (hm2 : m ≤ 1000) : ∃ v : Nat, F21 n y m = some (v : Int) := by
  unfold F21
  have h1 : decide (m < 1) = false := by simp; omega
  have h2 : (m == 0) = false := by simp; omega
  rw [h1, h2]
  simp only [cond_false]
  have h3 : Int.tmod y m < m := Int.tmod_lt_of_pos y hm
  have h4 : -m < Int.tmod y m := by
    have := Int.lt_tmod_of_pos y hm
    omega
  cases h5 : decide (Int.tmod y m < 0) with
  | true =>
    have h6 : Int.tmod y m < 0 := by simpa using h5
    rw [w64 (by omega)]
    exact ⟨(Int.tmod y m + m).toNat, by simp only [cond_true]; congr 1; omega⟩
  | false =>
    have h6 : ¬ Int.tmod y m < 0 := by simpa using h5
    exact ⟨(Int.tmod y m).toNat, by simp only [cond_false]; congr 1; omega⟩
theorem F17_eq (n : Nat) (m : Int) (hm : 0 < m) (hm2 : m ≤ 1000) (l : List Int) (hl : l.length ≤ 1000000) (i : Nat) (hi : i ≤ l.length) : ∃ v j : Nat, F17 n m l i = some ((v : Int), (l, (j : Int))) ∧ i ≤ j ∧ j ≤ l.length ∧ (i < l.length → i < j) := by
  unfold F17
  rcases Nat.lt_or_ge i l.length with h1 | h1
  · have h2 : decide ((i : Int) ≥ ((l.length : Nat) : Int)) = false := by simp; omega
    rw [h2, w64 (x := (i : Int) + 1) (by omega), w64 (by omega)]
    have h3 : (i : Int) + 1 - 1 = (i : Int) := by omega
    rw [h3]
    have h4 : ixo l (i : Int) = some l[i] := by
      unfold ixo
      have : decide ((i : Int) < 0) = false := by simp
      rw [this]
      simp [h1]
    rw [h4]
    simp only [cond_false, Option.bind_some]
    obtain ⟨v, hv⟩ := F21_eq n l[i] m hm hm2
    rw [hv]
    exact ⟨v, i + 1, rfl, by omega, by omega, fun _ => by omega⟩
  · have h2 : decide ((i : Int) ≥ ((l.length : Nat) : Int)) = true := by simp; omega
    rw [h2]
    exact ⟨0, i, rfl, by omega, by omega, fun h => by omega⟩

section
variable {N : Nat} {T : Tr}
theorem F16_eq (hT : okTr N T T = true) (hN : 1 ≤ N) (hN4 : N ≤ 4) {r : Nat} {ts : List S34} {l : List Msg} (h : At N T r ts l) (n a b : Nat) :
    ∃ r' ts' l', F16 n (a : Int) (b : Int) ts (l.map mkM) = some (true, (ts', l'.map mkM)) ∧ At N T r' ts' l' := by
  obtain ⟨hl1, hl2⟩ := h.len
  obtain ⟨f1, f2, f3, f4, f5, f6⟩ := h.facts hT
  have tm : ∀ k : Nat, Int.tmod (b : Int) ((k : Nat) : Int) = ((b % k : Nat) : Int) := fun k => (Int.ofNat_tmod b k).symm
  unfold F16
  have h1 : (((ts.length : Nat) : Int) == 0) = false := by simp; intro h; rw [h] at hl1; simp at hl1; omega
  rw [h1]
  simp only [cond_false, List.length_map]
  have hop : ∃ r' ts' l', (bif (decide (0 ≤ (Int.tmod (b : Int) ((List.length ts : Nat) : Int))) && decide ((Int.tmod (b : Int) ((List.length ts : Nat) : Int)) < ((List.length ts : Nat) : Int))) then
        (Option.bind (ts[(Int.toNat (Int.tmod (b : Int) ((List.length ts : Nat) : Int)))]?) fun y2 =>
        (bif y2.Using then
          (bif (decide (0 ≤ (Int.tmod (b : Int) ((List.length ts : Nat) : Int))) && decide ((Int.tmod (b : Int) ((List.length ts : Nat) : Int)) < ((List.length ts : Nat) : Int))) then
            (Option.bind (ts[(Int.toNat (Int.tmod (b : Int) ((List.length ts : Nat) : Int)))]?) fun y3 =>
            (Option.bind (F8 n y3 (Int.tmod (b : Int) ((List.length ts : Nat) : Int)) ((List.length ts : Nat) : Int) (1 : Int)) fun y4 =>
            (bif (appOK (List.length l) (List.length y4.2.1) 208) then
              (bif (decide (0 ≤ (Int.tmod (b : Int) ((List.length ts : Nat) : Int))) && decide ((Int.tmod (b : Int) ((List.length ts : Nat) : Int)) < ((List.length ts : Nat) : Int))) then
                (some ((y4.2.2 == (0 : Int)), ((List.set ts (Int.toNat (Int.tmod (b : Int) ((List.length ts : Nat) : Int))) y4.1), ((l.map mkM) ++ y4.2.1))))
              else
                none)
            else
              none)))
          else
            none)
        else
          (bif (decide (0 ≤ (Int.tmod (b : Int) ((List.length ts : Nat) : Int))) && decide ((Int.tmod (b : Int) ((List.length ts : Nat) : Int)) < ((List.length ts : Nat) : Int))) then
            (Option.bind (ts[(Int.toNat (Int.tmod (b : Int) ((List.length ts : Nat) : Int)))]?) fun y5 =>
            (bif (bNot y5.Want) then
              (bif (decide (0 ≤ (Int.tmod (b : Int) ((List.length ts : Nat) : Int))) && decide ((Int.tmod (b : Int) ((List.length ts : Nat) : Int)) < ((List.length ts : Nat) : Int))) then
                (Option.bind (ts[(Int.toNat (Int.tmod (b : Int) ((List.length ts : Nat) : Int)))]?) fun y6 =>
                (Option.bind (F12 n y6 (Int.tmod (b : Int) ((List.length ts : Nat) : Int)) ((List.length ts : Nat) : Int) (1 : Int)) fun y7 =>
                (bif (appOK (List.length l) (List.length y7.2.1) 208) then
                  (bif (decide (0 ≤ (Int.tmod (b : Int) ((List.length ts : Nat) : Int))) && decide ((Int.tmod (b : Int) ((List.length ts : Nat) : Int)) < ((List.length ts : Nat) : Int))) then
                    (some ((y7.2.2 == (0 : Int)), ((List.set ts (Int.toNat (Int.tmod (b : Int) ((List.length ts : Nat) : Int))) y7.1), ((l.map mkM) ++ y7.2.1))))
                  else
                    none)
                else
                  none)))
              else
                none)
            else
              (some (true, (ts, l.map mkM)))))
          else
            none)))
      else
        none) = some (true, (ts', List.map mkM l')) ∧ At N T r' ts' l' := by
    rw [tm]
    have hi : b % ts.length < ts.length := Nat.mod_lt _ (by omega)
    rw [inOK hi]
    have ht : ts[Int.toNat ((b % ts.length : Nat) : Int)]? = some ts[b % ts.length] := by rw [Int.toNat_natCast]; exact List.getElem?_eq_getElem hi
    have ht' : ts[b % ts.length]? = some ts[b % ts.length] := List.getElem?_eq_getElem hi
    rw [ht]
    simp only [cond_true, Option.bind_some, Int.toNat_natCast]
    generalize ts[b % ts.length] = t at ht'
    cases hu : t.Using with
    | true =>
      simp only [cond_true]
      rw [F8_eq]
      simp only [Option.bind_some]
      obtain ⟨g1, r', _, g3⟩ := f3 _ _ ht' hu
      rw [hl1]
      have := G8_len (valid t ((b % N : Nat) : Int) (N : Int)) t
      rw [hl1] at g1 g3
      rw [app_small (by rw [List.length_map]; omega), g1]
      exact ⟨r', _, l ++ (G8 (valid t ((b % N : Nat) : Int) (N : Int)) t).2.1, by simp, g3⟩
    | false =>
      simp only [cond_false]
      cases hw : t.Want with
      | false =>
        simp only [bNot, Bool.not_false, cond_true]
        rw [F12_eq]
        simp only [Option.bind_some]
        obtain ⟨g1, r', g3⟩ := f4 _ _ ht' hu hw
        rw [hl1]
        have := G12_len (valid t ((b % N : Nat) : Int) (N : Int)) t ((b % N : Nat) : Int)
        rw [hl1] at g1 g3
        rw [app_small (by rw [List.length_map]; omega), g1]
        exact ⟨r', _, l ++ (G12 (valid t ((b % N : Nat) : Int) (N : Int)) t ((b % N : Nat) : Int)).2.1, by simp, g3⟩
      | true => exact ⟨r, ts, l, rfl, h⟩
  cases h2 : (bif (decide ((a : Int) < (4 : Int))) then (decide (((List.length l : Nat) : Int) > (0 : Int))) else false) with
  | false => simp only [cond_false]; exact hop
  | true =>
    simp only [cond_true]
    have h3 : 0 < l.length := by
      cases h4 : decide ((a : Int) < 4) with
      | false => rw [h4] at h2; cases h2
      | true => rw [h4] at h2; simp only [cond_true, gt_iff_lt, decide_eq_true_eq] at h2; omega
    have h4 : (((l.length : Nat) : Int) == 0) = false := by simp; intro h; rw [h] at h3; simp at h3
    rw [h4, tm]
    simp only [cond_false]
    have hk : b % l.length < l.length := Nat.mod_lt _ h3
    obtain ⟨to, t, g1, g2, g3, r', _, g5⟩ := f5 (b % l.length) _ (List.getElem?_eq_getElem hk)
    rw [F9_eq n (b % l.length) to ts l _ t (List.getElem?_eq_getElem hk) hl2 (by omega) g1 g2]
    rw [hl1, g3]
    exact ⟨r', _, _, rfl, g5⟩
end
end Go.Abs.Tok
end
section
set_option linter.all false
set_option linter.unusedVariables false
set_option linter.unusedSimpArgs false
set_option linter.unnecessarySimpa false
/-
  The token's laws, plain: TokenOne.
-/
namespace Go.Abs.Tok
open Go Go.Abs Go.G27 Go.Abs.AbsP27

theorem iter_succ {X Y : Type} (S : (X → Option Y) → X → Option Y) (f : Nat) (x : X) : iter S (f + 1) x = S (iter S f) x := rfl
theorem drop_cons {α : Type} {l : List α} {i : Nat} {x : α} (h : l[i]? = some x) : l.drop i = x :: l.drop (i + 1) := by
  have h1 : i < l.length := by
    rcases Nat.lt_or_ge i l.length with h1 | h1
    · exact h1
    · rw [List.getElem?_eq_none h1] at h; cases h
  rw [List.drop_eq_getElem_cons h1]
  rw [List.getElem?_eq_getElem h1] at h
  rw [Option.some.inj h]
theorem cntS_le : ∀ l : List S34, cntS l ≤ l.length := by
  intro l
  induction l with
  | nil => simp [cntS]
  | cons t l ih => simp only [cntS, List.length_cons]; cases t.Has <;> simp <;> omega
theorem cntM_le : ∀ l : List Msg, cntM l ≤ l.length := by
  intro l
  induction l with
  | nil => simp [cntM]
  | cons t l ih => cases t <;> simp only [cntM, List.length_cons] <;> omega

theorem L10_0_eq (n N : Nat) (ts : List S34) (ms : List S55) (hl : ts.length = N) (hN : N ≤ 4) (hv : ∀ (j : Nat) (t : S34), ts[j]? = some t → valid t j N = true) :
    ∀ (d i c f : Nat), i + d = N → d < f → c ≤ 100 + i → iter (U10_0 n) f (((c : Int), ((N : Int), (i : Int))), (ts, ms)) = some (.inl (((c + cntS (ts.drop i) : Nat) : Int), (ts, ms))) := by
  intro d
  induction d with
  | zero =>
    intro i c f hi hf hc
    obtain ⟨f, rfl⟩ : ∃ g, f = g + 1 := ⟨f - 1, by omega⟩
    rw [iter_succ, U10_0.eq_1, S10_0.eq_1]
    have h1 : decide ((i : Int) < (N : Int)) = false := by simp; omega
    simp only [h1, cond_false]
    rw [List.drop_of_length_le (by omega)]
    rfl
  | succ d ih =>
    intro i c f hi hf hc
    obtain ⟨f, rfl⟩ : ∃ g, f = g + 1 := ⟨f - 1, by omega⟩
    have hi1 : i < ts.length := by omega
    have ht : ts[i]? = some ts[i] := List.getElem?_eq_getElem hi1
    rw [iter_succ, U10_0.eq_1, S10_0.eq_1]
    have h1 : decide ((i : Int) < (N : Int)) = true := by simp; omega
    simp only [h1, cond_true, Int.toNat_natCast]
    rw [inOK hi1]
    simp only [cond_true, ht, Option.bind_some]
    rw [F14_eq]
    simp only [Option.bind_some]
    rw [hl, hv i _ ht]
    have w1 : IntKind.wrap .i64 ((i : Int) + 1) = ((i + 1 : Nat) : Int) := by rw [w64 (by omega)]; rfl
    have w2 : IntKind.wrap .i64 ((c : Int) + 1) = ((c + 1 : Nat) : Int) := by rw [w64 (by omega)]; rfl
    simp only [bNot, Bool.not_true, cond_false, w1, w2]
    rw [drop_cons ht]
    simp only [cntS]
    cases hH : ts[i].Has with
    | true =>
      simp only [cond_true]
      rw [ih (i + 1) (c + 1) f (by omega) (by omega) (by omega)]
      congr 4
      omega
    | false =>
      simp only [cond_false]
      rw [ih (i + 1) c f (by omega) (by omega) (by omega)]
      congr 4
      omega
theorem L10_1_eq (n : Nat) (ts : List S34) (ms : List Msg) (hm : ms.length ≤ 4) :
    ∀ (d i c f : Nat), i + d = ms.length → d < f → c ≤ 100 + i → iter (U10_1 n) f (((c : Int), ((ms.length : Int), (i : Int))), (ts, ms.map mkM)) = some (((c + cntM (ms.drop i) : Nat) : Int), (ts, ms.map mkM)) := by
  intro d
  induction d with
  | zero =>
    intro i c f hi hf hc
    obtain ⟨f, rfl⟩ : ∃ g, f = g + 1 := ⟨f - 1, by omega⟩
    rw [iter_succ, U10_1.eq_1, S10_1.eq_1]
    have h1 : decide ((i : Int) < (ms.length : Int)) = false := by simp; omega
    simp only [h1, cond_false]
    rw [List.drop_of_length_le (by omega)]
    rfl
  | succ d ih =>
    intro i c f hi hf hc
    obtain ⟨f, rfl⟩ : ∃ g, f = g + 1 := ⟨f - 1, by omega⟩
    have hi1 : i < ms.length := by omega
    have ht : ms[i]? = some ms[i] := List.getElem?_eq_getElem hi1
    rw [iter_succ, U10_1.eq_1, S10_1.eq_1]
    have h1 : decide ((i : Int) < (ms.length : Int)) = true := by simp; omega
    have h2 : (ms.map mkM)[i]? = some (mkM ms[i]) := by simp [ht]
    have h0 : decide (0 ≤ (i : Int)) = true := by simp
    simp only [h0, h1, h2, Bool.and_self, cond_true, Int.toNat_natCast, List.length_map, Option.bind_some]
    have w1 : IntKind.wrap .i64 ((i : Int) + 1) = ((i + 1 : Nat) : Int) := by rw [w64 (by omega)]; rfl
    have w2 : IntKind.wrap .i64 ((c : Int) + 1) = ((c + 1 : Nat) : Int) := by rw [w64 (by omega)]; rfl
    simp only [w1, w2]
    rw [drop_cons ht]
    cases hH : ms[i] with
    | tok a =>
      have : ((mkM (Msg.tok a)).Message_Kind == (13 : Int)) = true := rfl
      simp only [this, cond_true, cntM]
      rw [ih (i + 1) (c + 1) f (by omega) (by omega) (by omega)]
      congr 3
      omega
    | req a b =>
      have : ((mkM (Msg.req a b)).Message_Kind == (13 : Int)) = false := rfl
      simp only [this, cond_false, cntM]
      rw [ih (i + 1) c f (by omega) (by omega) (by omega)]
section
variable {N : Nat} {T : Tr}
theorem F10_eq (hT : okTr N T T = true) (hN : 1 ≤ N) (hN4 : N ≤ 4) {r : Nat} {ts : List S34} {l : List Msg} (h : At N T r ts l) (n : Nat) (hn : 10 ≤ n) :
    F10 n ts (l.map mkM) = some (true, (ts, l.map mkM)) := by
  obtain ⟨hl1, hl2⟩ := h.len
  obtain ⟨f1, f2, _⟩ := h.facts hT
  unfold F10 L10_0 L10_1
  have e0 := L10_0_eq n N ts (l.map mkM) hl1 hN4 (fun j t hj => by have := validAll_get ts 0 f1 j t hj; simpa using this) N 0 0 n (by omega) (by omega) (by omega)
  rw [hl1]
  simp only [Nat.zero_add, List.drop_zero] at e0
  have z : ((0 : Nat) : Int) = (0 : Int) := rfl
  rw [z] at e0
  rw [e0]
  simp only [Option.bind_some, Sum.elim_inl, List.length_map]
  have hc := cntS_le ts
  have e1 := L10_1_eq n ts l hl2 l.length 0 (cntS ts) n (by omega) (by omega) (by omega)
  simp only [List.drop_zero] at e1
  rw [z] at e1
  rw [e1, f2]
  rfl

/-- The loop over the numbers. -/
theorem L7_1_eq (hT : okTr N T T = true) (hN : 1 ≤ N) (hN4 : N ≤ 4) (n : Nat) (hn : 10 ≤ n) (tape : List Int) (ht : tape.length ≤ 1000000) :
    ∀ (d i f r : Nat) (ts : List S34) (l : List Msg), i + d = tape.length → d < f → At N T r ts l →
      ∃ r' ts' l', iter (U7_1 n) f ((tape, (i : Int)), (ts, l.map mkM)) = some (.inl (ts', l'.map mkM)) ∧ At N T r' ts' l' := by
  intro d
  induction d using Nat.strongRecOn with
  | ind d ih =>
    intro i f r ts l hi hf h
    obtain ⟨f, rfl⟩ : ∃ g, f = g + 1 := ⟨f - 1, by omega⟩
    rw [iter_succ, U7_1.eq_1, S7_1.eq_1]
    simp only [F15_eq, Option.bind_some]
    rcases Nat.eq_zero_or_pos d with h0 | h0
    · have h1 : decide ((i : Int) < ((tape.length : Nat) : Int)) = false := by simp; omega
      rw [h1]
      exact ⟨r, ts, l, rfl, h⟩
    · have h1 : decide ((i : Int) < ((tape.length : Nat) : Int)) = true := by simp; omega
      rw [h1]
      simp only [cond_true]
      obtain ⟨v, j, q1, q2, q3, q4⟩ := F17_eq n 7 (by omega) (by omega) tape ht i (by omega)
      rw [q1]
      simp only [Option.bind_some]
      obtain ⟨v', j', p1, p2, p3, p4⟩ := F17_eq n 60 (by omega) (by omega) tape ht j q3
      rw [p1]
      simp only [Option.bind_some]
      obtain ⟨r', ts', l', s1, s2⟩ := F16_eq hT hN hN4 h n v v'
      rw [s1]
      simp only [Option.bind_some, bNot, Bool.not_true, cond_false]
      rw [F10_eq hT hN hN4 s2 n hn]
      simp only [Option.bind_some, Bool.not_true, cond_false]
      have := q4 (by omega)
      exact ih (tape.length - j') (by omega) j' f r' ts' l' (by omega) (by omega) s2
end
def init : Nat → Nat → List S34
  | 0, _ => []
  | k + 1, i => (bif Nat.beq i 0 then ⟨true, false, false, -1, -1⟩ else ⟨false, false, false, 0, -1⟩) :: init k (i + 1)
theorem F11_eq (n i N : Nat) (hi : i < N) (hN : N ≤ 4) : F11 n i N = some ((bif Nat.beq i 0 then ⟨true, false, false, -1, -1⟩ else ⟨false, false, false, 0, -1⟩), 0) := by
  unfold F11
  rw [F19_eq]
  have h1 : decide ((N : Int) ≥ 1) = true := by simp; omega
  have h2 : decide ((N : Int) ≤ 4) = true := by simp; omega
  have h3 : decide ((i : Int) ≥ 0) = true := by simp
  have h4 : decide ((i : Int) < (N : Int)) = true := by simp; omega
  rw [h1, h2, h3, h4]
  cases i with
  | zero => rfl
  | succ i => 
    have : (((i + 1 : Nat) : Int) == 0) = false := by simp; omega
    simp only [Option.bind_some, bNot, Bool.and_self, Bool.not_true, cond_false, this]
    rfl
theorem L7_0_eq (n N : Nat) (hN : N ≤ 4) (tape : List Int) :
    ∀ (d i f : Nat) (ts : List S34), i + d = N → d < f → ts.length = i → iter (U7_0 n) f ((tape, ((N : Int), (i : Int))), (ts, [])) = some (.inl (tape, (ts ++ init d i, []))) := by
  intro d
  induction d with
  | zero =>
    intro i f ts hi hf hl
    obtain ⟨f, rfl⟩ : ∃ g, f = g + 1 := ⟨f - 1, by omega⟩
    rw [iter_succ, U7_0.eq_1, S7_0.eq_1]
    have h1 : decide ((i : Int) < (N : Int)) = false := by simp; omega
    simp only [h1, cond_false, init, List.append_nil]
  | succ d ih =>
    intro i f ts hi hf hl
    obtain ⟨f, rfl⟩ : ∃ g, f = g + 1 := ⟨f - 1, by omega⟩
    rw [iter_succ, U7_0.eq_1, S7_0.eq_1]
    have h1 : decide ((i : Int) < (N : Int)) = true := by simp; omega
    simp only [h1, cond_true]
    rw [F11_eq n i N (by omega) hN]
    have h2 : ((0 : Int) != 0) = false := rfl
    have w1 : IntKind.wrap .i64 ((i : Int) + 1) = ((i + 1 : Nat) : Int) := by rw [w64 (by omega)]; rfl
    simp only [Option.bind_some, h2, cond_false, w1]
    rw [app_small (by simp only [List.length_cons, List.length_nil]; omega)]
    simp only [cond_true]
    rw [ih (i + 1) f _ (by omega) (by omega) (by simp [hl])]
    simp [init]
theorem F6_eq (n : Nat) : F6 n () = some true := by kernel_rfl
/-- The table and its first state. -/
def Good (N : Nat) (T : Tr) : Prop := okTr N T T = true ∧ ∃ r, At N T r (init N 0) []
theorem F7_eq {N : Nat} {T : Tr} (hG : Good N T) (hN : 1 ≤ N) (hN4 : N ≤ 4) (tape : List Int) (ht : tape.length ≤ 400) (n : Nat) (hn : 500 ≤ n) :
    ∃ r ts l, F7 n tape (N : Int) = some (true, (ts, l.map mkM)) ∧ At N T r ts l := by
  obtain ⟨hT, r, hA⟩ := hG
  unfold F7 L7_0 L7_1
  have e0 := L7_0_eq n N hN4 tape N 0 n [] (by omega) (by omega) rfl
  have z : ((0 : Nat) : Int) = (0 : Int) := rfl
  rw [z] at e0
  rw [e0]
  simp only [Option.bind_some, Sum.elim_inl, List.nil_append]
  obtain ⟨r', ts', l', q1, q2⟩ := L7_1_eq hT hN hN4 n (by omega) tape (by omega) tape.length 0 n r (init N 0) [] (by omega) (by omega) hA
  rw [z] at q1
  simp only [List.map_nil] at q1
  rw [q1]
  exact ⟨r', ts', l', rfl, q2⟩
theorem sites_eq (a1 : Int) (h0 : 0 ≤ a1) (h1 : a1 ≤ 255) : ∃ N : Nat, 1 ≤ N ∧ N ≤ 4 ∧ IntKind.wrap .i64 ((1 : Int) + (Int.tmod (IntKind.wrap .i64 a1) (4 : Int))) = (N : Int) := by
  obtain ⟨k, rfl⟩ : ∃ k : Nat, a1 = (k : Int) := ⟨a1.toNat, by omega⟩
  rw [w64 (x := (k : Int)) (by omega)]
  have : Int.tmod (k : Int) 4 = ((k % 4 : Nat) : Int) := (Int.ofNat_tmod k 4).symm
  rw [this, w64 (by omega)]
  exact ⟨1 + k % 4, by omega, by omega, by push_cast; rfl⟩
theorem tokenOne (hG : ∀ N : Nat, 1 ≤ N → N ≤ 4 → ∃ T, Good N T) (l : List Int) (a1 : Int) (h0 : 0 ≤ a1) (h1 : a1 ≤ 255) : F3 1000 l a1 = some true := by
  unfold F3 F5
  simp only [Option.bind_some, F6_eq]
  cases hL : decide (((l.length : Nat) : Int) ≤ 400) with
  | false => rfl
  | true =>
    have hlen : l.length ≤ 400 := by have := of_decide_eq_true hL; omega
    have h4 : ((4 : Int) == 0) = false := rfl
    simp only [bNot, Bool.not_true, cond_false, h4]
    obtain ⟨N, n1, n2, n3⟩ := sites_eq a1 h0 h1
    rw [n3]
    obtain ⟨T, hT⟩ := hG N n1 n2
    obtain ⟨r, ts, m, q1, q2⟩ := F7_eq hT n1 n2 l hlen 1000 (by omega)
    rw [q1]
    rfl
end Go.Abs.Tok
end
section
set_option linter.all false
set_option linter.unusedVariables false
set_option linter.unusedSimpArgs false
set_option linter.unnecessarySimpa false
/-
  The token's laws, plain: TokenServed.
-/
namespace Go.Abs.Tok
open Go Go.Abs Go.G27 Go.Abs.AbsP27

theorem anyU_get : ∀ {l : List S34}, anyU l = false → ∀ (j : Nat) (t : S34), l[j]? = some t → t.Using = false := by
  intro l
  induction l with
  | nil => intro _ j t h; simp at h
  | cons x l ih =>
    intro h j t hj
    simp only [anyU, Bool.or_eq_false_iff] at h
    cases j with
    | zero => simp at hj; subst hj; exact h.1
    | succ j => exact ih h.2 j t (by simpa using hj)
theorem anyW_get : ∀ {l : List S34}, anyW l = false → ∀ (j : Nat) (t : S34), l[j]? = some t → t.Want = false := by
  intro l
  induction l with
  | nil => intro _ j t h; simp at h
  | cons x l ih =>
    intro h j t hj
    simp only [anyW, Bool.or_eq_false_iff] at h
    cases j with
    | zero => simp at hj; subst hj; exact h.1
    | succ j => exact ih h.2 j t (by simpa using hj)
theorem get_anyU : ∀ {l : List S34}, (∀ (j : Nat) (t : S34), l[j]? = some t → t.Using = false) → anyU l = false := by
  intro l
  induction l with
  | nil => intro _; rfl
  | cons x l ih =>
    intro h
    simp only [anyU, Bool.or_eq_false_iff]
    exact ⟨h 0 x rfl, ih fun j t hj => h (j + 1) t (by simpa using hj)⟩
theorem G8_using (v : Bool) (t : S34) : (G8 v t).1.Using = false := by
  simp only [G8]
  cases v <;> cases t.Using <;> cases t.Next == -1 <;> rfl
section
variable {N : Nat} {T : Tr}
theorem L4_1_eq (hT : okTr N T T = true) (hN : 1 ≤ N) (hN4 : N ≤ 4) (n : Nat) (k : Int) :
    ∀ (d i f r : Nat) (ts : List S34) (l : List Msg) (b : Bool), i + d = N → d < f → At N T r ts l → (∀ (j : Nat) (t : S34), j < i → ts[j]? = some t → t.Using = false) →
      ∃ r' ts' l' b', iter (U4_1 n) f ((k, (b, ((N : Int), (i : Int)))), (ts, l.map mkM)) = some (.inl ((k, b'), (ts', l'.map mkM))) ∧ r' ≤ r ∧ At N T r' ts' l' ∧ anyU ts' = false ∧ (anyU ts = false → b' = b ∧ ts' = ts ∧ l' = l) := by
  intro d
  induction d with
  | zero =>
    intro i f r ts l b hi hf h hq
    obtain ⟨f, rfl⟩ : ∃ g, f = g + 1 := ⟨f - 1, by omega⟩
    obtain ⟨hl1, hl2⟩ := h.len
    rw [iter_succ, U4_1.eq_1, S4_1.eq_1]
    have h1 : decide ((i : Int) < (N : Int)) = false := by simp; omega
    simp only [h1, cond_false]
    refine ⟨r, ts, l, b, rfl, Nat.le_refl _, h, get_anyU fun j t hj => hq j t ?_ hj, fun _ => ⟨rfl, rfl, rfl⟩⟩
    rcases Nat.lt_or_ge j ts.length with h3 | h3
    · omega
    · rw [List.getElem?_eq_none h3] at hj; cases hj
  | succ d ih =>
    intro i f r ts l b hi hf h hq
    obtain ⟨f, rfl⟩ : ∃ g, f = g + 1 := ⟨f - 1, by omega⟩
    obtain ⟨hl1, hl2⟩ := h.len
    rw [iter_succ, U4_1.eq_1, S4_1.eq_1]
    have h1 : decide ((i : Int) < (N : Int)) = true := by simp; omega
    have h0 : decide (0 ≤ (i : Int)) = true := by simp
    have hi1 : i < ts.length := by omega
    have ht : ts[i]? = some ts[i] := List.getElem?_eq_getElem hi1
    have w1 : IntKind.wrap .i64 ((i : Int) + 1) = ((i + 1 : Nat) : Int) := by rw [w64 (by omega)]; rfl
    simp only [hl1, h0, h1, Bool.and_self, cond_true, Int.toNat_natCast, ht, Option.bind_some, w1]
    cases hu : ts[i].Using with
    | false =>
      simp only [cond_false]
      exact ih (i + 1) f r ts l b (by omega) (by omega) h fun j t hj hjt => by
        rcases Nat.lt_or_ge j i with h3 | h3
        · exact hq j t h3 hjt
        · obtain rfl : j = i := by omega
          rw [ht] at hjt
          rw [← Option.some.inj hjt]
          exact hu
    | true =>
      simp only [cond_true]
      obtain ⟨f1, f2, f3, _⟩ := h.facts hT
      obtain ⟨g1, r', g2, g3⟩ := f3 i _ ht hu
      rw [F8_eq]
      have hlen := G8_len (valid ts[i] (i : Int) (N : Int)) ts[i]
      have z : ((0 : Int) != 0) = false := rfl
      simp only [Option.bind_some, g1, z, cond_false]
      rw [app_small (by rw [List.length_map, List.length_map]; omega)]
      simp only [cond_true, ← List.map_append]
      obtain ⟨r2, ts2, l2, b2, p1, p2, p3, p4, p5⟩ := ih (i + 1) f r' _ _ true (by omega) (by omega) g3 (fun j t hj hjt => by
        rw [List.getElem?_set] at hjt
        split at hjt
        · rename_i e
          rw [← Option.some.inj hjt]; exact G8_using _ _
        · exact hq j t (by omega) hjt)
      refine ⟨r2, ts2, l2, b2, p1, Nat.le_trans p2 g2, p3, p4, fun hno => ?_⟩
      have := anyU_get hno i _ ht
      rw [hu] at this
      cases this
theorem L4_quiet (hT : okTr N T T = true) (hN : 1 ≤ N) (hN4 : N ≤ 4) (n : Nat) (hn : 10 ≤ n) (k f r : Nat) (hk : k < 1000) (ts : List S34) (h : At N T r ts []) (hu : anyU ts = false) :
    iter (U4_0 n) (f + 1) ((k : Int), (ts, [])) = some (.inl (ts, [])) := by
  obtain ⟨hl1, hl2⟩ := h.len
  rw [iter_succ, U4_0.eq_1, S4_0.eq_1, L4_1]
  have h1 : decide ((k : Int) < 1000) = true := by simp; omega
  obtain ⟨r', ts', l', b', p1, p2, p3, p4, p5⟩ := L4_1_eq hT hN hN4 n (k : Int) N 0 n r ts [] false (by omega) (by omega) h (fun j t hj => by omega)
  obtain ⟨rfl, rfl, rfl⟩ := p5 hu
  have z : ((0 : Nat) : Int) = (0 : Int) := rfl
  rw [z] at p1
  simp only [List.map_nil] at p1
  simp only [h1, cond_true, hl1]
  rw [p1]
  rfl
theorem L4_0_eq (hT : okTr N T T = true) (hN : 1 ≤ N) (hN4 : N ≤ 4) (n : Nat) (hn : 10 ≤ n) :
    ∀ (r k f : Nat) (ts : List S34) (l : List Msg), At N T r ts l → k + r + 2 < 1000 → r + 2 < f → ∃ r' ts', iter (U4_0 n) f ((k : Int), (ts, l.map mkM)) = some (.inl (ts', [])) ∧ At N T r' ts' [] ∧ anyU ts' = false := by
  intro r
  induction r using Nat.strongRecOn with
  | ind r ih =>
    intro k f ts l h hk hf
    obtain ⟨f, rfl⟩ : ∃ g, f = g + 1 := ⟨f - 1, by omega⟩
    obtain ⟨hl1, hl2⟩ := h.len
    rw [iter_succ, U4_0.eq_1, S4_0.eq_1, L4_1]
    have h1 : decide ((k : Int) < 1000) = true := by simp; omega
    have w1 : IntKind.wrap .i64 ((k : Int) + 1) = ((k + 1 : Nat) : Int) := by rw [w64 (by omega)]; rfl
    obtain ⟨r', ts', l', b', p1, p2, p3, p4, p5⟩ := L4_1_eq hT hN hN4 n (k : Int) N 0 n r ts l false (by omega) (by omega) h (fun j t hj => by omega)
    have z : ((0 : Nat) : Int) = (0 : Int) := rfl
    rw [z] at p1
    simp only [h1, cond_true, hl1]
    rw [p1]
    simp only [Option.bind_some, Sum.elim_inl, List.length_map]
    obtain ⟨hm1, hm2⟩ := p3.len
    obtain ⟨f1, f2, f3, f4, f5, f6⟩ := p3.facts hT
    cases hl : l' with
    | nil =>
      have h2 : decide ((([] : List Msg).length : Int) > 0) = false := rfl
      simp only [h2, cond_false]
      subst hl
      cases b' with
      | false => exact ⟨r', ts', rfl, p3, p4⟩
      | true =>
        obtain ⟨f, rfl⟩ : ∃ g, f = g + 1 := ⟨f - 1, by omega⟩
        simp only [bNot, Bool.not_true, cond_false, w1, List.map_nil]
        exact ⟨r', ts', L4_quiet hT hN hN4 n hn (k + 1) f r' (by omega) ts' p3 p4, p3, p4⟩
    | cons m0 l0 =>
      rw [← hl]
      have h3 : 0 < l'.length := by rw [hl]; simp
      have h2 : decide ((l'.length : Int) > 0) = true := by simp; omega
      have h4 : (((l'.length : Nat) : Int) == 0) = false := by simp; intro q; rw [q] at h3; simp at h3
      simp only [h2, h4, cond_true, cond_false]
      have tm : Int.tmod (k : Int) ((l'.length : Nat) : Int) = ((k % l'.length : Nat) : Int) := (Int.ofNat_tmod k l'.length).symm
      rw [tm]
      have hkk : k % l'.length < l'.length := Nat.mod_lt _ h3
      obtain ⟨to, t, g1, g2, g3, r2, g4, g5⟩ := f5 (k % l'.length) _ (List.getElem?_eq_getElem hkk)
      rw [F9_eq n (k % l'.length) to ts' l' _ t (List.getElem?_eq_getElem hkk) hm2 (by omega) g1 g2]
      have zz : ((0 : Int) == 0) = true := rfl
      simp only [Option.bind_some, hm1, g3, zz, bNot, Bool.not_true, cond_false]
      rw [F10_eq hT hN hN4 g5 n hn]
      simp only [Option.bind_some, Bool.not_true, cond_false, w1]
      have hr2 := g4 p4
      exact ih r2 (by omega) (k + 1) f _ _ g5 (by omega) (by omega)
theorem L4_2_eq (n : Nat) (ts : List S34) (ms : List S55) (hl : ts.length = N) (hN4 : N ≤ 4) (hu : anyU ts = false) (hw : anyW ts = false) :
    ∀ (d i f : Nat), i + d = N → d < f → iter (U4_2 n) f (((N : Int), (i : Int)), (ts, ms)) = some (.inl (ts, ms)) := by
  intro d
  induction d with
  | zero =>
    intro i f hi hf
    obtain ⟨f, rfl⟩ : ∃ g, f = g + 1 := ⟨f - 1, by omega⟩
    rw [iter_succ, U4_2.eq_1, S4_2.eq_1]
    have h1 : decide ((i : Int) < (N : Int)) = false := by simp; omega
    simp only [h1, cond_false]
  | succ d ih =>
    intro i f hi hf
    obtain ⟨f, rfl⟩ : ∃ g, f = g + 1 := ⟨f - 1, by omega⟩
    rw [iter_succ, U4_2.eq_1, S4_2.eq_1]
    have h1 : decide ((i : Int) < (N : Int)) = true := by simp; omega
    have h0 : decide (0 ≤ (i : Int)) = true := by simp
    have hi1 : i < ts.length := by omega
    have ht : ts[i]? = some ts[i] := List.getElem?_eq_getElem hi1
    have w1 : IntKind.wrap .i64 ((i : Int) + 1) = ((i + 1 : Nat) : Int) := by rw [w64 (by omega)]; rfl
    simp only [hl, h0, h1, Bool.and_self, cond_true, Int.toNat_natCast, ht, Option.bind_some, w1, anyU_get hu i _ ht, anyW_get hw i _ ht, cond_false]
    exact ih (i + 1) f (by omega) (by omega)
end
theorem At.rank {N : Nat} {T : Tr} (hT : okTr N T T = true) {r : Nat} {ts : List S34} {l : List Msg} (h : At N T r ts l) : r < 16 := by
  obtain ⟨c, hf, _⟩ := h
  obtain ⟨w, _, rfl, _⟩ := find_ok T hT hf
  exact Nat.mod_lt _ (by omega)
theorem tokenServed (hG : ∀ N : Nat, 1 ≤ N → N ≤ 4 → ∃ T, Good N T) (l : List Int) (a1 : Int) (h0 : 0 ≤ a1) (h1 : a1 ≤ 255) : F4 1000 l a1 = some true := by
  unfold F4 F5 L4_0 L4_2
  simp only [Option.bind_some, F6_eq]
  cases hL : decide (((l.length : Nat) : Int) ≤ 400) with
  | false => rfl
  | true =>
    have hlen : l.length ≤ 400 := by have := of_decide_eq_true hL; omega
    have h4 : ((4 : Int) == 0) = false := rfl
    simp only [bNot, Bool.not_true, cond_false, h4]
    obtain ⟨N, n1, n2, n3⟩ := sites_eq a1 h0 h1
    rw [n3]
    obtain ⟨T, hT⟩ := hG N n1 n2
    obtain ⟨r, ts, m, q1, q2⟩ := F7_eq hT n1 n2 l hlen 1000 (by omega)
    rw [q1]
    simp only [Option.bind_some, Bool.not_true, cond_false]
    have hr := q2.rank hT.1
    obtain ⟨r', ts', p1, p2, p3⟩ := L4_0_eq hT.1 n1 n2 1000 (by omega) r 0 1000 ts m q2 (by omega) (by omega)
    have z : ((0 : Nat) : Int) = (0 : Int) := rfl
    rw [z] at p1
    rw [p1]
    simp only [Option.bind_some, Sum.elim_inl]
    obtain ⟨hl1, _⟩ := p2.len
    have hw := (p2.facts hT.1).2.2.2.2.2 rfl p3
    have e2 := L4_2_eq (N := N) 1000 ts' [] hl1 n2 p3 hw N 0 1000 (by omega) (by omega)
    rw [z] at e2
    rw [hl1, e2]
    rfl
end Go.Abs.Tok
end
