/- What always holds of the sites and of their messages. -/
import Derived.Test.YtehaojgljahjbaaSteps
section
set_option linter.all false
set_option linter.unusedVariables false
set_option linter.unusedSimpArgs false
set_option linter.unnecessarySimpa false
/-
  Forests by potentials; bags of messages.
-/
namespace Go.Abs.Rg
open Go Go.Abs Go.G28

/-! ### forests -/
abbrev Edges := List (Nat × Nat)
/-- The edges do not connect them. -/
def Sep (es : Edges) (u v : Nat) : Prop := ∃ p : Nat → Int, (∀ x ∈ es, p x.1 = p x.2) ∧ p u ≠ p v
def Forest : Edges → Prop
  | [] => True
  | x :: es => Sep es x.1 x.2 ∧ Forest es
theorem Sep.sub {es es' : Edges} {u v : Nat} (h : Sep es u v) (hs : ∀ x ∈ es', x ∈ es) : Sep es' u v := by
  obtain ⟨p, h1, h2⟩ := h
  exact ⟨p, fun x hx => h1 x (hs x hx), h2⟩
theorem Sep.symm {es : Edges} {u v : Nat} (h : Sep es u v) : Sep es v u := by
  obtain ⟨p, h1, h2⟩ := h
  exact ⟨p, h1, fun e => h2 e.symm⟩
theorem forest_swap2 {x y : Nat × Nat} {es : Edges} (h : Sep (y :: es) x.1 x.2) (h2 : Sep es y.1 y.2) : Sep (x :: es) y.1 y.2 := by
  obtain ⟨p, p1, p2⟩ := h
  obtain ⟨q, q1, q2⟩ := h2
  have py := p1 y (by simp)
  refine ⟨fun v => (p x.1 - p x.2) * q v - (q x.1 - q x.2) * p v, fun z hz => ?_, ?_⟩
  · simp only [List.mem_cons] at hz
    rcases hz with hz | hz
    · subst hz; simp only; grind
    · have a1 := p1 z (by simp [hz])
      have a2 := q1 z hz
      simp only [a1, a2]
  · simp only [py]
    intro e
    have h3 : (p x.1 - p x.2) * (q y.1 - q y.2) = 0 := by grind
    rcases Int.mul_eq_zero.mp h3 with h3 | h3
    · exact p2 (by omega)
    · exact q2 (by omega)
theorem forest_perm {a b : Edges} (h : a.Perm b) : Forest a → Forest b := by
  have both : ∀ {a b : Edges}, a.Perm b → (Forest a → Forest b) := by
    intro a b h
    induction h with
    | nil => exact id
    | cons x hp ih =>
      rintro ⟨h1, h2⟩
      exact ⟨h1.sub (fun z hz => hp.mem_iff.mpr hz), ih h2⟩
    | swap x y l =>
      rintro ⟨h1, h2, h3⟩
      exact ⟨forest_swap2 h1 h2, h1.sub (fun z hz => by simp [hz]), h3⟩
    | trans _ _ ih1 ih2 => exact fun h => ih2 (ih1 h)
  exact both h
theorem forest_drop {a b : Edges} (h : Forest (a ++ b)) : Forest b := by
  induction a with
  | nil => exact h
  | cons x a ih => exact ih h.2
theorem forest_flip {u v : Nat} {es : Edges} (h : Forest ((u, v) :: es)) : Forest ((v, u) :: es) := ⟨h.1.symm, h.2⟩
/-- A site that stands alone is tied to another one. -/
theorem forest_leaf {u v : Nat} {es : Edges} (huv : u ≠ v) (h : ∀ x ∈ es, x.1 ≠ u ∧ x.2 ≠ u) (hf : Forest es) : Forest ((u, v) :: es) := by
  refine ⟨⟨fun z => if z = u then 1 else 0, fun x hx => ?_, ?_⟩, hf⟩
  · simp [(h x hx).1, (h x hx).2]
  · simp; exact fun e => huv e.symm
/-- A path is turned: s - i - y becomes i - s - y. -/
theorem forest_hop {s i y : Nat} {es : Edges} (h : Forest ((s, i) :: (i, y) :: es)) : Forest ((i, s) :: (s, y) :: es) := by
  obtain ⟨⟨p, p1, p2⟩, ⟨q, q1, q2⟩, h3⟩ := h
  have py : p i = p y := p1 (i, y) (by simp)
  simp only at p2 q2
  refine ⟨⟨fun v => (p s - p y) * q v - (q s - q y) * p v, fun z hz => ?_, ?_⟩, ⟨p, fun z hz => p1 z (by simp [hz]), fun e => p2 (by simp only at e; omega)⟩, h3⟩
  · simp only [List.mem_cons] at hz
    rcases hz with hz | hz
    · subst hz; simp only; grind
    · have a1 := p1 z (by simp [hz])
      have a2 := q1 z hz
      simp only [a1, a2]
  · simp only
    intro e
    have h3 : (p s - p y) * (q i - q y) = 0 := by grind
    rcases Int.mul_eq_zero.mp h3 with h3 | h3
    · exact p2 (by omega)
    · exact q2 (by omega)
theorem forest_loop {u : Nat} {es : Edges} (h : Forest ((u, u) :: es)) : False := by
  obtain ⟨⟨p, _, p2⟩, _⟩ := h
  exact p2 rfl
theorem forest_two {u v : Nat} {es : Edges} (h : Forest ((u, v) :: (v, u) :: es)) : False := by
  obtain ⟨⟨p, p1, p2⟩, _⟩ := h
  exact p2 (p1 (v, u) (by simp)).symm
theorem forest_dup {u v : Nat} {es : Edges} (h : Forest ((u, v) :: (u, v) :: es)) : False := by
  obtain ⟨⟨p, p1, p2⟩, _⟩ := h
  exact p2 (p1 (u, v) (by simp))
theorem forest_three {s i y : Nat} {es : Edges} (h : Forest ((s, i) :: (i, y) :: (s, y) :: es)) : False := by
  obtain ⟨⟨p, p1, p2⟩, _⟩ := h
  have a := p1 (i, y) (by simp)
  have b := p1 (s, y) (by simp)
  simp only at a b p2
  exact p2 (by omega)

/-! ### bags -/
abbrev Msgs := List (Nat × Nat × S57)
def flatRow (i : Nat) : Nat → List (List S57) → Msgs
  | _, [] => []
  | j, q :: l => q.map (fun m => (i, j, m)) ++ flatRow i (j + 1) l
def flatM : Nat → Mail → Msgs
  | _, [] => []
  | i, row :: l => flatRow i 0 row ++ flatM (i + 1) l
def bag (ml : Mail) : Msgs := flatM 0 ml
theorem flatRow_set (i : Nat) : ∀ (row : List (List S57)) (a j : Nat) (q : List S57), row[j]? = some q →
    ∃ rest, (flatRow i a row).Perm (q.map (fun m => (i, a + j, m)) ++ rest) ∧ ∀ q', (flatRow i a (row.set j q')).Perm (q'.map (fun m => (i, a + j, m)) ++ rest) := by
  intro row
  induction row with
  | nil => intro a j q h; simp at h
  | cons x l ih =>
    intro a j q h
    cases j with
    | zero =>
      simp at h; subst h
      exact ⟨flatRow i (a + 1) l, .refl _, fun q' => .refl _⟩
    | succ j =>
      simp at h
      obtain ⟨rest, h1, h2⟩ := ih (a + 1) j q h
      have e : a + 1 + j = a + (j + 1) := by omega
      rw [e] at h1 h2
      have sw : ∀ (A B C : Msgs), (A ++ (B ++ C)).Perm (B ++ (A ++ C)) := fun A B C => by
        rw [← List.append_assoc, ← List.append_assoc]; exact List.Perm.append_right _ List.perm_append_comm
      exact ⟨x.map (fun m => (i, a, m)) ++ rest, (List.Perm.append_left _ h1).trans (sw _ _ _), fun q' => (List.Perm.append_left _ (h2 q')).trans (sw _ _ _)⟩
theorem flatM_set : ∀ (ml : Mail) (a i : Nat) (row : List (List S57)), ml[i]? = some row →
    ∃ rest, (flatM a ml).Perm (flatRow (a + i) 0 row ++ rest) ∧ ∀ row', (flatM a (ml.set i row')).Perm (flatRow (a + i) 0 row' ++ rest) := by
  intro ml
  induction ml with
  | nil => intro a i row h; simp at h
  | cons x l ih =>
    intro a i row h
    cases i with
    | zero =>
      simp at h; subst h
      exact ⟨flatM (a + 1) l, .refl _, fun q' => .refl _⟩
    | succ i =>
      simp at h
      obtain ⟨rest, h1, h2⟩ := ih (a + 1) i row h
      have e : a + 1 + i = a + (i + 1) := by omega
      rw [e] at h1 h2
      have sw : ∀ (A B C : Msgs), (A ++ (B ++ C)).Perm (B ++ (A ++ C)) := fun A B C => by
        rw [← List.append_assoc, ← List.append_assoc]; exact List.Perm.append_right _ List.perm_append_comm
      exact ⟨flatRow a 0 x ++ rest, (List.Perm.append_left _ h1).trans (sw _ _ _), fun q' => (List.Perm.append_left _ (h2 q')).trans (sw _ _ _)⟩
theorem bag_set {k : Nat} {ml : Mail} (hd : Dim k ml) {i j : Nat} (hi : i < k) (hj : j < k) :
    ∃ rest, (bag ml).Perm ((qS ml i j).map (fun m => (i, j, m)) ++ rest) ∧ ∀ q', (bag (putS ml i j q')).Perm (q'.map (fun m => (i, j, m)) ++ rest) := by
  obtain ⟨r1, h1, h2⟩ := flatM_set ml 0 i _ (hd.row hi)
  obtain ⟨r2, h3, h4⟩ := flatRow_set i _ 0 j _ (hd.q hi hj)
  simp only [Nat.zero_add] at h1 h2 h3 h4
  refine ⟨r2 ++ r1, ?_, fun q' => ?_⟩
  · have := h1.trans (List.Perm.append_right r1 h3)
    rwa [List.append_assoc] at this
  · have := (h2 ((ml.getD i []).set j q')).trans (List.Perm.append_right r1 (h4 q'))
    rwa [List.append_assoc] at this
theorem bag_mem {k : Nat} {ml : Mail} (hd : Dim k ml) {i j : Nat} (hi : i < k) (hj : j < k) {m : S57} (h : m ∈ qS ml i j) : (i, j, m) ∈ bag ml := by
  obtain ⟨r, h1, _⟩ := bag_set hd hi hj
  exact h1.mem_iff.mpr (List.mem_append_left _ (List.mem_map.mpr ⟨m, h, rfl⟩))
theorem bag_pop {k : Nat} {ml : Mail} (hd : Dim k ml) {i j : Nat} (hi : i < k) (hj : j < k) {m : S57} {q : List S57} (h : qS ml i j = m :: q) : (bag ml).Perm ((i, j, m) :: bag (putS ml i j q)) := by
  obtain ⟨r, h1, h2⟩ := bag_set hd hi hj
  rw [h] at h1
  exact h1.trans ((h2 q).symm.cons _)
theorem bag_push {k : Nat} {ml : Mail} (hd : Dim k ml) {i j : Nat} (hi : i < k) (hj : j < k) (m : S57) : (bag (putS ml i j (qS ml i j ++ [m]))).Perm (bag ml ++ [(i, j, m)]) := by
  obtain ⟨r, h1, h2⟩ := bag_set hd hi hj
  have h3 := h2 (qS ml i j ++ [m])
  rw [List.map_append, List.append_assoc] at h3
  refine h3.trans (List.Perm.trans ?_ (List.Perm.append_right _ h1.symm))
  rw [List.append_assoc]
  exact List.Perm.append_left _ List.perm_append_comm
def outS (i : Nat) (l : List S64) : Msgs := l.map fun p => (i, p.To.toNat, toMsg p)
theorem take_dim {k : Nat} {i : Nat} : ∀ (l : List S64) {ml : Mail}, Dim k ml → Dim k (takeM ml i l) := by
  intro l
  induction l with
  | nil => intro ml h; exact h
  | cons p l ih => intro ml h; exact ih (h.put _ _ _)
theorem bag_take {k : Nat} {i : Nat} (hi : i < k) : ∀ (l : List S64) {ml : Mail}, Dim k ml → (∀ p ∈ l, oth p.To i k) → (bag (takeM ml i l)).Perm (bag ml ++ outS i l) := by
  intro l
  induction l with
  | nil => intro ml h _; simp [takeM, outS]
  | cons p l ih =>
    intro ml h ho
    have h1 := ho p (by simp)
    have h2 := bag_push h hi (show p.To.toNat < k by have := h1.1; have := h1.2.1; omega) (toMsg p)
    refine (ih (h.put i p.To.toNat (qS ml i p.To.toNat ++ [toMsg p])) fun p hp => ho p (by simp [hp])).trans ?_
    refine (List.Perm.append_right _ h2).trans ?_
    rw [List.append_assoc]
    exact .refl _
theorem bag_len {k : Nat} {ml : Mail} (hd : Dim k ml) {i j : Nat} : (qS ml i j).length ≤ (bag ml).length := by
  by_cases hi : i < k
  · by_cases hj : j < k
    · obtain ⟨r, h1, _⟩ := bag_set hd hi hj
      have := h1.length_eq
      simp at this; omega
    · unfold qS
      rw [List.getD_eq_getElem?_getD (l := ml.getD i []), List.getElem?_eq_none (by rw [hd.rows i hi]; omega)]; simp
  · unfold qS
    rw [List.getD_eq_getElem?_getD (l := ml), List.getElem?_eq_none (by rw [hd.len]; omega)]; simp
end Go.Abs.Rg
end
section
set_option linter.all false
set_option linter.unusedVariables false
set_option linter.unusedSimpArgs false
set_option linter.unnecessarySimpa false
/-
  Regen: what always holds.
-/
namespace Go.Abs.Rg
open Go Go.Abs Go.G28

abbrev Sites := Nat → S37
def upd (R : Sites) (j : Nat) (r : S37) : Sites := fun i => if i = j then r else R i
theorem upd_same (R : Sites) (j : Nat) : upd R j (R j) = R := by
  funext i; unfold upd; split
  · rename_i h; rw [h]
  · rfl
theorem upd_at (R : Sites) (j : Nat) (r : S37) : upd R j r j = r := by unfold upd; simp
theorem upd_ne (R : Sites) {j i : Nat} (r : S37) (h : i ≠ j) : upd R j r i = R i := by unfold upd; simp [h]

/-- An epoch all know, or will know. -/
def Used (k : Nat) (R : Sites) (b : Msgs) (e : Int) : Prop := ∀ a, a < k → e ≤ (R a).Epoch ∨ ∃ x ∈ b, x.2.1 = a ∧ x.2.2.Kind = 14 ∧ x.2.2.Epoch = e
structure MOK (k : Nat) (R : Sites) (x : Nat × Nat × S57) : Prop where
  i : x.1 < k
  j : x.2.1 < k
  ij : x.1 ≠ x.2.1
  ok : MsgOK x.2.2 (x.2.1 : Int) k
  from_ : x.2.2.Epoch ≤ (R x.1).Epoch
  req : x.2.2.Kind = 12 → x.2.2.Epoch ≤ (R x.2.2.Site.toNat).Epoch ∧ x.2.2.Epoch ≤ (R x.2.1).Epoch
  tok : x.2.2.Kind = 13 → ∀ a, a < k → x.2.2.Epoch ≤ (R a).Epoch
  prd : x.2.2.Kind = 15 → x.2.2.Epoch ≤ (R x.2.1).Epoch
def tk (r : S37) (e : Int) : Bool := (r.Token_Has || r.Asking) && decide (r.Epoch = e)
def tkm (e : Int) (x : Nat × Nat × S57) : Bool := decide (x.2.2.Kind = 13) && decide (x.2.2.Epoch = e)
def cnt (k : Nat) (R : Sites) (b : Msgs) (e : Int) : Nat := (List.range k).countP (fun i => tk (R i) e) + b.countP (tkm e)
abbrev Ghosts := List (Int × Nat × Nat)
def le1 (r : S37) (j : Nat) (e : Int) : Edges := if r.Epoch = e ∧ r.Token_Last ≠ -1 then [(j, r.Token_Last.toNat)] else []
def me (e : Int) (x : Nat × Nat × S57) : Edges := if x.2.2.Kind = 12 ∧ x.2.2.Epoch = e then [(x.2.2.Site.toNat, x.2.1)] else []
def de (e : Int) (d : Int × Nat × Nat) : Edges := if d.1 = e then [d.2] else []
def edges (k : Nat) (R : Sites) (b : Msgs) (D : Ghosts) (e : Int) : Edges := (List.range k).flatMap (fun i => le1 (R i) i e) ++ (b.flatMap (me e) ++ D.flatMap (de e))
structure GOK (k : Nat) (R : Sites) (d : Int × Nat × Nat) : Prop where
  u : d.2.1 < k
  v : d.2.2 < k
  eu : d.1 ≤ (R d.2.1).Epoch
  ev : d.1 ≤ (R d.2.2).Epoch
structure Inv (k : Nat) (B : Int) (R : Sites) (b : Msgs) (D : Ghosts) : Prop where
  val : ∀ i, i < k → Valid (R i) i k
  ep : ∀ i, i < k → (R i).Epoch ≤ B
  msg : ∀ x ∈ b, MOK k R x
  cn : ∀ e, cnt k R b e ≤ 1
  has : ∀ i, i < k → (R i).Token_Has = true → ∀ j, j < k → (R i).Epoch ≤ (R j).Epoch
  ask : ∀ i, i < k → (R i).Asking = true → (R i).Epoch % (k : Int) = i ∧ ∀ j : Nat, j < k → (R i).Promised[j]? = some true → (R i).Epoch ≤ (R j).Epoch
  last : ∀ i, i < k → (R i).Token_Last ≠ -1 → (R i).Epoch ≤ (R (R i).Token_Last.toNat).Epoch
  used : ∀ i, i < k → Used k R b (R i).Epoch
  usedm : ∀ x ∈ b, x.2.2.Kind = 14 → Used k R b x.2.2.Epoch
  gh : ∀ d ∈ D, GOK k R d
  forest : ∀ e, Forest (edges k R b D e)
theorem Used.perm {k : Nat} {R : Sites} {b b' : Msgs} {e : Int} (h : Used k R b e) (hp : b.Perm b') : Used k R b' e := fun a ha => by
  rcases h a ha with h | ⟨x, h1, h2⟩
  · exact .inl h
  · exact .inr ⟨x, hp.mem_iff.mp h1, h2⟩
theorem Inv.perm {k : Nat} {B : Int} {R : Sites} {b b' : Msgs} {D : Ghosts} (h : Inv k B R b D) (hp : b.Perm b') : Inv k B R b' D where
  val := h.val
  ep := h.ep
  msg := fun x hx => h.msg x (hp.mem_iff.mpr hx)
  cn := fun e => by
    have := h.cn e
    unfold cnt at this ⊢
    rwa [← hp.countP_eq]
  has := h.has
  ask := h.ask
  last := h.last
  used := fun i hi => (h.used i hi).perm hp
  usedm := fun x hx hk => (h.usedm x (hp.mem_iff.mpr hx) hk).perm hp
  gh := h.gh
  forest := fun e => forest_perm (List.Perm.append_left _ (List.Perm.append_right _ (hp.flatMap_right _))) (h.forest e)

theorem range_split {j k : Nat} (h : j < k) : (List.range k).Perm (j :: (List.range k).filter (fun i => i != j)) := by
  have h1 := List.perm_cons_erase (List.mem_range.mpr h)
  rw [List.nodup_range.erase_eq_filter] at h1
  exact h1
theorem flatMap_congr' {α β : Type} {l : List α} {f g : α → List β} (h : ∀ x ∈ l, f x = g x) : l.flatMap f = l.flatMap g := by
  induction l with
  | nil => rfl
  | cons x l ih => rw [List.flatMap_cons, List.flatMap_cons, h x (by simp), ih fun y hy => h y (by simp [hy])]
theorem flat_others (k j : Nat) (R : Sites) (r : S37) (e : Int) : ((List.range k).filter (fun i => i != j)).flatMap (fun i => le1 (upd R j r i) i e) = ((List.range k).filter (fun i => i != j)).flatMap (fun i => le1 (R i) i e) := by
  apply flatMap_congr'
  intro i hi
  rw [List.mem_filter] at hi
  rw [upd_ne]
  simpa using hi.2
theorem count_others (k j : Nat) (R : Sites) (r : S37) (e : Int) : ((List.range k).filter (fun i => i != j)).countP (fun i => tk (upd R j r i) e) = ((List.range k).filter (fun i => i != j)).countP (fun i => tk (R i) e) := by
  apply List.countP_congr
  intro i hi
  rw [List.mem_filter] at hi
  rw [upd_ne]
  simpa using hi.2
/-- The edges' ends know the epoch. -/
theorem Inv.ends {k : Nat} {B : Int} {R : Sites} {b : Msgs} {D : Ghosts} (h : Inv k B R b D) (e : Int) (x : Nat × Nat) (hx : x ∈ edges k R b D e) : x.1 < k ∧ x.2 < k ∧ e ≤ (R x.1).Epoch ∧ e ≤ (R x.2).Epoch := by
  unfold edges at hx
  simp only [List.mem_append, List.mem_flatMap, List.mem_range] at hx
  rcases hx with ⟨i, hi, hx⟩ | ⟨m, hm, hx⟩ | ⟨d, hd, hx⟩
  · unfold le1 at hx
    split at hx
    · rename_i hc
      simp at hx; subst hx
      have h1 := last_oth (h.val i hi) hc.2
      have h2 := h.last i hi hc.2
      refine ⟨hi, by have := h1.1; have := h1.2.1; show (R i).Token_Last.toNat < k; omega, by show e ≤ (R i).Epoch; omega, by show e ≤ (R (R i).Token_Last.toNat).Epoch; omega⟩
    · simp at hx
  · unfold me at hx
    split at hx
    · rename_i hc
      simp at hx; subst hx
      have h0 := h.msg m hm
      have h1 := h0.ok.site hc.1
      have h2 := h0.req hc.1
      refine ⟨by have := h1.1; have := h1.2.1; show m.2.2.Site.toNat < k; omega, h0.j, by show e ≤ (R m.2.2.Site.toNat).Epoch; omega, by show e ≤ (R m.2.1).Epoch; omega⟩
    · simp at hx
  · unfold de at hx
    split at hx
    · rename_i hc
      simp at hx; subst hx
      have h0 := h.gh d hd
      exact ⟨h0.u, h0.v, by have := h0.eu; omega, by have := h0.ev; omega⟩
    · simp at hx
theorem perm4 (A B C D : Edges) : (A ++ (B ++ (C ++ D))).Perm (B ++ (C ++ (A ++ D))) := by
  have sw : ∀ (A B C : Edges), (A ++ (B ++ C)).Perm (B ++ (A ++ C)) := fun A B C => by
    have := List.Perm.append_right C (List.perm_append_comm : (A ++ B).Perm (B ++ A))
    rwa [List.append_assoc, List.append_assoc] at this
  have h1 := sw A B (C ++ D)
  have h2 := sw A C D
  exact h1.trans (List.Perm.append_left _ h2)
/-- The edges, told apart: those of site j, those of the messages taken, the others. -/
theorem edges_split2 {k : Nat} (R : Sites) {b xs bb : Msgs} (D : Ghosts) (e : Int) {j : Nat} (hj : j < k) (hb : b.Perm (xs ++ bb)) :
    ∃ rest, (edges k R b D e).Perm (le1 (R j) j e ++ (xs.flatMap (me e) ++ rest)) ∧
      (∀ r' out dd, (edges k (upd R j r') (bb ++ out) (dd ++ D) e).Perm (le1 r' j e ++ (out.flatMap (me e) ++ (dd.flatMap (de e) ++ rest)))) ∧ ∀ x ∈ bb, ∀ f ∈ me e x, f ∈ rest := by
  refine ⟨((List.range k).filter (fun i => i != j)).flatMap (fun i => le1 (R i) i e) ++ (bb.flatMap (me e) ++ D.flatMap (de e)), ?_, fun r' out dd => ?_, fun x hx f hf => List.mem_append_right _ (List.mem_append_left _ (List.mem_flatMap.mpr ⟨x, hx, hf⟩))⟩
  · unfold edges
    have h1 : ((List.range k).flatMap (fun i => le1 (R i) i e)).Perm (le1 (R j) j e ++ ((List.range k).filter (fun i => i != j)).flatMap (fun i => le1 (R i) i e)) := (range_split hj).flatMap_right _
    have h2 : (b.flatMap (me e)).Perm (xs.flatMap (me e) ++ bb.flatMap (me e)) := by rw [← List.flatMap_append]; exact hb.flatMap_right _
    refine (List.Perm.append h1 (List.Perm.append_right _ h2)).trans ?_
    rw [List.append_assoc, List.append_assoc]
    refine List.Perm.append_left _ ?_
    rw [← List.append_assoc, ← List.append_assoc (xs.flatMap (me e))]
    exact List.Perm.append_right _ List.perm_append_comm
  · unfold edges
    have h1 : ((List.range k).flatMap (fun i => le1 (upd R j r' i) i e)).Perm (le1 r' j e ++ ((List.range k).filter (fun i => i != j)).flatMap (fun i => le1 (R i) i e)) := by
      have := (range_split hj).flatMap_right (fun i => le1 (upd R j r' i) i e)
      rw [List.flatMap_cons, flat_others, upd_at] at this
      exact this
    rw [List.flatMap_append, List.flatMap_append]
    refine (List.Perm.append_right _ h1).trans ?_
    rw [List.append_assoc]
    refine List.Perm.append_left _ ?_
    have h3 : ((List.flatMap (me e) bb ++ List.flatMap (me e) out) ++ (List.flatMap (de e) dd ++ List.flatMap (de e) D)).Perm (List.flatMap (me e) out ++ (List.flatMap (de e) dd ++ (List.flatMap (me e) bb ++ List.flatMap (de e) D))) := by
      rw [List.append_assoc]; exact perm4 _ _ _ _
    refine (List.Perm.append_left _ h3).trans ?_
    have h4 := perm4 (((List.range k).filter (fun i => i != j)).flatMap (fun i => le1 (R i) i e)) (List.flatMap (me e) out) (List.flatMap (de e) dd) (List.flatMap (me e) bb ++ List.flatMap (de e) D)
    exact h4
theorem edges_split {k : Nat} (R : Sites) {b xs bb : Msgs} (D : Ghosts) (e : Int) {j : Nat} (hj : j < k) (hb : b.Perm (xs ++ bb)) :
    ∃ rest, (edges k R b D e).Perm (le1 (R j) j e ++ (xs.flatMap (me e) ++ rest)) ∧
      ∀ r' out dd, (edges k (upd R j r') (bb ++ out) (dd ++ D) e).Perm (le1 r' j e ++ (out.flatMap (me e) ++ (dd.flatMap (de e) ++ rest))) := by
  obtain ⟨rest, h1, h2, _⟩ := edges_split2 R D e hj hb
  exact ⟨rest, h1, h2⟩
theorem used_mono {k : Nat} {R : Sites} {b xs bb out : Msgs} {j : Nat} {r' : S37} {e : Int} (hb : b.Perm (xs ++ bb)) (he : (R j).Epoch ≤ r'.Epoch)
    (hx : ∀ x ∈ xs, x.2.2.Kind = 14 → x.2.1 = j ∧ x.2.2.Epoch ≤ r'.Epoch) (h : Used k R b e) : Used k (upd R j r') (bb ++ out) e := fun a ha => by
  by_cases haj : a = j
  · subst haj
    rw [upd_at]
    rcases h a ha with h | ⟨x, h1, h2, h3, h4⟩
    · exact .inl (by omega)
    · rcases List.mem_append.mp (hb.mem_iff.mp h1) with h1 | h1
      · have := hx x h1 h3; exact .inl (by omega)
      · exact .inr ⟨x, List.mem_append_left _ h1, h2, h3, h4⟩
  · rw [upd_ne R r' haj]
    rcases h a ha with h | ⟨x, h1, h2, h3, h4⟩
    · exact .inl h
    · rcases List.mem_append.mp (hb.mem_iff.mp h1) with h1 | h1
      · have := hx x h1 h3; omega
      · exact .inr ⟨x, List.mem_append_left _ h1, h2, h3, h4⟩
theorem upd_mono {R : Sites} {j : Nat} {r' : S37} (he : (R j).Epoch ≤ r'.Epoch) (a : Nat) : (R a).Epoch ≤ (upd R j r' a).Epoch := by
  unfold upd; split
  · rename_i h; rw [h]; exact he
  · exact Int.le_refl _
theorem Inv.step {k : Nat} {B B' : Int} {R : Sites} {b : Msgs} {D : Ghosts} (h : Inv k B R b D) {j : Nat} (hj : j < k) {xs bb out : Msgs} (hb : b.Perm (xs ++ bb)) {r' : S37} (hB : B ≤ B') {dd : Ghosts}
    (v : Valid r' j k) (e1 : (R j).Epoch ≤ r'.Epoch) (e2 : r'.Epoch ≤ B')
    (ho : ∀ x ∈ out, MOK k (upd R j r') x)
    (hou : ∀ x ∈ out, x.2.2.Kind = 14 → Used k (upd R j r') (bb ++ out) x.2.2.Epoch)
    (hx : ∀ x ∈ xs, x.2.2.Kind = 14 → x.2.1 = j ∧ x.2.2.Epoch ≤ r'.Epoch)
    (hu : r'.Epoch = (R j).Epoch ∨ Used k (upd R j r') (bb ++ out) r'.Epoch)
    (hc : ∀ e N, N + ((bif tk (R j) e then 1 else 0) + xs.countP (tkm e)) = cnt k R b e → N + ((bif tk r' e then 1 else 0) + out.countP (tkm e)) ≤ 1)
    (hh : r'.Token_Has = true → ∀ a, a < k → r'.Epoch ≤ (upd R j r' a).Epoch)
    (ha : r'.Asking = true → r'.Epoch % (k : Int) = j ∧ ∀ a : Nat, a < k → r'.Promised[a]? = some true → r'.Epoch ≤ (upd R j r' a).Epoch)
    (hl : r'.Token_Last ≠ -1 → r'.Epoch ≤ (upd R j r' r'.Token_Last.toNat).Epoch)
    (hd : ∀ d ∈ dd, GOK k (upd R j r') d)
    (hf : ∀ e rest, (∀ p ∈ rest, e ≤ (R p.1).Epoch ∧ e ≤ (R p.2).Epoch) → Forest (le1 (R j) j e ++ (xs.flatMap (me e) ++ rest)) → Forest (le1 r' j e ++ (out.flatMap (me e) ++ (dd.flatMap (de e) ++ rest)))) :
    Inv k B' (upd R j r') (bb ++ out) (dd ++ D) where
  val := fun i hi => by
    by_cases e : i = j
    · subst e; rw [upd_at]; exact v
    · rw [upd_ne R r' e]; exact h.val i hi
  ep := fun i hi => by
    by_cases e : i = j
    · subst e; rw [upd_at]; exact e2
    · rw [upd_ne R r' e]; exact Int.le_trans (h.ep i hi) hB
  msg := fun x hx' => by
    rcases List.mem_append.mp hx' with hx' | hx'
    · have h1 := h.msg x (hb.mem_iff.mpr (List.mem_append_right _ hx'))
      have mono := fun a => upd_mono (R := R) (r' := r') e1 a
      exact ⟨h1.i, h1.j, h1.ij, h1.ok, Int.le_trans h1.from_ (mono _), fun e => ⟨Int.le_trans (h1.req e).1 (mono _), Int.le_trans (h1.req e).2 (mono _)⟩, fun e a ha => Int.le_trans (h1.tok e a ha) (mono _), fun e => Int.le_trans (h1.prd e) (mono _)⟩
    · exact ho x hx'
  cn := fun e => by
    have h1 := hc e (((List.range k).filter (fun i => i != j)).countP (fun i => tk (R i) e) + bb.countP (tkm e)) ?_
    · unfold cnt
      rw [(range_split hj).countP_eq, List.countP_cons, count_others, upd_at, List.countP_append]
      have e0 : (if tk r' e = true then 1 else 0) = (bif tk r' e then 1 else 0) := by cases tk r' e <;> rfl
      rw [e0]
      omega
    · unfold cnt
      rw [(range_split hj).countP_eq, List.countP_cons, hb.countP_eq, List.countP_append]
      have e0 : (if tk (R j) e = true then 1 else 0) = (bif tk (R j) e then 1 else 0) := by cases tk (R j) e <;> rfl
      rw [e0]
      omega
  has := fun i hi hhas a hak => by
    by_cases e : i = j
    · subst e; rw [upd_at] at hhas ⊢; exact hh hhas a hak
    · rw [upd_ne R r' e] at hhas ⊢
      exact Int.le_trans (h.has i hi hhas a hak) (upd_mono e1 a)
  ask := fun i hi hask => by
    by_cases e : i = j
    · subst e; rw [upd_at] at hask ⊢; exact ha hask
    · rw [upd_ne R r' e] at hask ⊢
      have h1 := h.ask i hi hask
      exact ⟨h1.1, fun a hak hp => Int.le_trans (h1.2 a hak hp) (upd_mono e1 a)⟩
  last := fun i hi hlast => by
    by_cases e : i = j
    · subst e; rw [upd_at] at hlast ⊢; exact hl hlast
    · rw [upd_ne R r' e] at hlast ⊢
      exact Int.le_trans (h.last i hi hlast) (upd_mono e1 _)
  used := fun i hi => by
    by_cases e : i = j
    · subst e; rw [upd_at]
      rcases hu with hu | hu
      · rw [hu]; exact used_mono hb e1 hx (h.used i hi)
      · exact hu
    · rw [upd_ne R r' e]; exact used_mono hb e1 hx (h.used i hi)
  usedm := fun x hx' hk => by
    rcases List.mem_append.mp hx' with hx' | hx'
    · exact used_mono hb e1 hx (h.usedm x (hb.mem_iff.mpr (List.mem_append_right _ hx')) hk)
    · exact hou x hx' hk
  gh := fun d hd' => by
    rcases List.mem_append.mp hd' with hd' | hd'
    · exact hd d hd'
    · have h1 := h.gh d hd'
      exact ⟨h1.u, h1.v, Int.le_trans h1.eu (upd_mono e1 _), Int.le_trans h1.ev (upd_mono e1 _)⟩
  forest := fun e => by
    obtain ⟨rest, h1, h2⟩ := edges_split R D e hj hb
    refine forest_perm (h2 r' out dd).symm (hf e rest (fun p hp => ?_) (forest_perm h1 (h.forest e)))
    have := h.ends e p (h1.mem_iff.mpr (by simp [hp]))
    exact ⟨this.2.2.1, this.2.2.2⟩
end Go.Abs.Rg
end
section
set_option linter.all false
set_option linter.unusedVariables false
set_option linter.unusedSimpArgs false
set_option linter.unnecessarySimpa false
/-
  Regen: what always holds, goes on to hold when a message is heard.
-/
namespace Go.Abs.Rg
open Go Go.Abs Go.G28

theorem Inv.hc {k : Nat} {B : Int} {R : Sites} {b : Msgs} {D : Ghosts} (h : Inv k B R b D) {j : Nat} {xs out : Msgs} {r' : S37}
    (hle : ∀ e, (bif tk r' e then 1 else 0) + out.countP (tkm e) ≤ (bif tk (R j) e then 1 else 0) + xs.countP (tkm e)) :
    ∀ e N, N + ((bif tk (R j) e then 1 else 0) + xs.countP (tkm e)) = cnt k R b e → N + ((bif tk r' e then 1 else 0) + out.countP (tkm e)) ≤ 1 := fun e N hN => by
  have h1 := h.cn e
  have h2 := hle e
  omega
def mkm (to kind epoch site : Int) : S57 := toMsg (pst to kind epoch site)
/-- The edge of a request that is gone. -/
def ghX (j : Nat) (m : S57) : Ghosts := if m.Kind = 12 then [(m.Epoch, m.Site.toNat, j)] else []
def ghH (r : S37) (j : Nat) (m : S57) : Ghosts :=
  if fresh r m then (if m.Kind = 14 then (if r.Token_Last ≠ -1 then [(r.Epoch, j, r.Token_Last.toNat)] else []) else if r.Lost = true then ghX j m else []) else ghX j m
def hearR (R : Sites) (i j : Nat) (m : S57) : Sites := if (hearS (R j) j i m).2.2 = 0 then upd R j (hearS (R j) j i m).1 else R
theorem Inv.err {k : Nat} {B : Int} {R : Sites} {b : Msgs} {D : Ghosts} (h : Inv k B R b D) {i j : Nat} {m : S57} {bb : Msgs} (hb : b.Perm ((i, j, m) :: bb)) (hx : m.Kind = 14 → m.Epoch ≤ (R j).Epoch) :
    Inv k B R (bb ++ []) (ghX j m ++ D) := by
  have hm := h.msg (i, j, m) (hb.mem_iff.mpr (by simp))
  have hj : j < k := hm.j
  have := h.step (xs := [(i, j, m)]) (out := []) (r' := R j) (B' := B) (dd := ghX j m) hj hb (Int.le_refl _) (h.val j hj) (Int.le_refl _) (h.ep j hj) (by simp) (by simp)
    (fun x hx' hk => by simp at hx'; subst hx'; exact ⟨rfl, hx hk⟩) (.inl rfl) (h.hc fun e => by simp) (fun hh a ha => by rw [upd_same]; exact h.has j hj hh a ha)
    (fun ha => by rw [upd_same]; exact h.ask j hj ha) (fun hl => by rw [upd_same]; exact h.last j hj hl)
    (fun d hd => by
      rw [upd_same]
      unfold ghX at hd
      split at hd
      · rename_i hk
        simp at hd; subst hd
        have h1 := hm.ok.site hk
        have h2 := hm.req hk
        have h3 : 0 ≤ m.Site := h1.1
        have h4 : m.Site < k := h1.2.1
        exact ⟨by show m.Site.toNat < k; omega, hj, h2.1, h2.2⟩
      · simp at hd)
    (fun e rest _ hfo => by
      have : (ghX j m).flatMap (de e) = ([(i, j, m)] : Msgs).flatMap (me e) := by
        unfold ghX me
        by_cases hk : m.Kind = 12
        · by_cases he : m.Epoch = e
          · simp [hk, he, de]
          · simp [hk, he, de]
        · simp [hk]
      rw [this]; simpa using hfo)
  rw [upd_same] at this
  exact this
theorem tk_no {r : S37} (h : r.Token_Has = false) (h2 : r.Asking = false) (e : Int) : tk r e = false := by unfold tk; simp [h, h2]
theorem tk_yes {r : S37} (h : r.Token_Has = true ∨ r.Asking = true) (e : Int) : tk r e = decide (r.Epoch = e) := by
  unfold tk; rcases h with h | h <;> simp [h]
theorem oneTok (i j : Nat) (m : S57) (h : m.Kind = 13) (e : Int) : ([(i, j, m)] : Msgs).countP (tkm e) = bif decide (m.Epoch = e) then 1 else 0 := by
  unfold tkm
  by_cases he : m.Epoch = e <;> simp [h, he]
theorem noTok (i j : Nat) (m : S57) (h : m.Kind ≠ 13) (e : Int) : ([(i, j, m)] : Msgs).countP (tkm e) = 0 := by
  unfold tkm; simp [h]
theorem noMe (i j : Nat) (m : S57) (h : m.Kind ≠ 12) (e : Int) : ([(i, j, m)] : Msgs).flatMap (me e) = [] := by unfold me; simp [h]
theorem oneMe (i j : Nat) (m : S57) (h : m.Kind = 12) (e : Int) : ([(i, j, m)] : Msgs).flatMap (me e) = if m.Epoch = e then [(m.Site.toNat, j)] else [] := by
  unfold me; by_cases he : m.Epoch = e <;> simp [h, he]
/-- A promise is heard. -/
theorem Inv.promise {k : Nat} {B : Int} {R : Sites} {b : Msgs} {D : Ghosts} (h : Inv k B R b D) {i j : Nat} {m : S57} {bb : Msgs} (hb : b.Perm ((i, j, m) :: bb)) (hk : m.Kind = 14) (hfr : (R j).Epoch < m.Epoch)
    {l : Int} {out : Msgs} (hlo : ((R j).Token_Using = true ∨ (R j).Token_Want = true) ∧ l = -1 ∧ out = [(j, i, mkm i 15 m.Epoch 0), (j, i, mkm i 12 m.Epoch j)] ∨
      ((R j).Token_Using = false ∧ (R j).Token_Want = false) ∧ l = i ∧ out = [(j, i, mkm i 15 m.Epoch 0)]) :
    Inv k B (upd R j (proms (R j) m.Epoch l)) (bb ++ out) ((if (R j).Token_Last ≠ -1 then [((R j).Epoch, j, (R j).Token_Last.toNat)] else []) ++ D) := by
  have hm := h.msg (i, j, m) (hb.mem_iff.mpr (by simp))
  have hj : j < k := hm.j
  have hi : i < k := hm.i
  have hij : i ≠ j := hm.ij
  have hfrom : m.Epoch ≤ (R i).Epoch := hm.from_
  have hlo0 := hm.ok.lo
  have hhi := hm.ok.hi
  have hEi : (upd R j (proms (R j) m.Epoch l) i) = R i := upd_ne R _ hij
  have hEj : (upd R j (proms (R j) m.Epoch l) j) = proms (R j) m.Epoch l := upd_at R _ _
  have mono := fun a => upd_mono (R := R) (j := j) (r' := proms (R j) m.Epoch l) (Int.le_of_lt hfr) a
  have hus := h.usedm (i, j, m) (hb.mem_iff.mpr (by simp)) hk
  have hxs : ∀ x ∈ ([(i, j, m)] : Msgs), x.2.2.Kind = 14 → x.2.1 = j ∧ x.2.2.Epoch ≤ (proms (R j) m.Epoch l).Epoch := fun x hx' hk => by simp at hx'; subst hx'; exact ⟨rfl, Int.le_refl _⟩
  refine h.step (xs := [(i, j, m)]) (out := out) (r' := proms (R j) m.Epoch l) (B' := B) hj hb (Int.le_refl _) ?_ (Int.le_of_lt hfr) (Int.le_trans hfrom (h.ep i hi)) ?_ ?_ hxs ?_ ?_ ?_ ?_ ?_ ?_ ?_
  · refine ⟨hlo0, hhi, .inr (.inr ⟨rfl, rfl, rfl, ?_⟩)⟩
    rcases hlo with ⟨hw, hl, _⟩ | ⟨⟨hu, hw⟩, hl, _⟩
    · subst hl
      have : ((R j).Token_Using || (R j).Token_Want) = true := by simpa using hw
      refine ⟨?_, ?_, ?_, ?_, ?_, ?_⟩ <;> simp [proms, this]
    · subst hl
      refine ⟨?_, ?_, ?_, ?_, ?_, ?_⟩ <;> simp [proms, hu, hw]
      exact ⟨by omega, by omega, by omega⟩
  · intro x hx
    have h15 : MOK k (upd R j (proms (R j) m.Epoch l)) (j, i, mkm i 15 m.Epoch 0) :=
      ⟨hj, hi, hij.symm, ⟨.inr (.inr (.inr rfl)), fun e => by simp [mkm, toMsg, pst] at e, hlo0, hhi⟩, by show m.Epoch ≤ _; rw [hEj]; exact Int.le_refl _, fun e => by simp [mkm, toMsg, pst] at e, fun e => by simp [mkm, toMsg, pst] at e, fun _ => by show m.Epoch ≤ (upd R j _ i).Epoch; rw [hEi]; exact hfrom⟩
    rcases hlo with ⟨hw, hl, rfl⟩ | ⟨hw, hl, rfl⟩
    · simp only [List.mem_cons, List.not_mem_nil, or_false] at hx
      rcases hx with rfl | rfl
      · exact h15
      · refine ⟨hj, hi, hij.symm, ⟨.inl rfl, fun e => ?_, hlo0, hhi⟩, by show m.Epoch ≤ _; rw [hEj]; exact Int.le_refl _, fun e => ⟨?_, ?_⟩, fun e => by simp [mkm, toMsg, pst] at e, fun e => by simp [mkm, toMsg, pst] at e⟩
        · exact ⟨by show (0 : Int) ≤ j; omega, by show (j : Int) < k; omega, by show (j : Int) ≠ i; omega⟩
        · show m.Epoch ≤ (upd R j _ (Int.toNat (j : Int))).Epoch
          rw [Int.toNat_natCast, hEj]; exact Int.le_refl _
        · show m.Epoch ≤ (upd R j _ i).Epoch
          rw [hEi]; exact hfrom
    · simp only [List.mem_cons, List.not_mem_nil, or_false] at hx
      subst hx
      exact h15
  · intro x hx hk'
    rcases hlo with ⟨hw, hl, rfl⟩ | ⟨hw, hl, rfl⟩
    · simp only [List.mem_cons, List.not_mem_nil, or_false] at hx
      rcases hx with rfl | rfl <;> simp [mkm, toMsg, pst] at hk'
    · simp only [List.mem_cons, List.not_mem_nil, or_false] at hx
      subst hx; simp [mkm, toMsg, pst] at hk'
  · exact .inr (used_mono hb (Int.le_of_lt hfr) hxs hus)
  · refine h.hc fun e => ?_
    have : tk (proms (R j) m.Epoch l) e = false := rfl
    rw [this]
    have h2 : out.countP (tkm e) = 0 := by
      rcases hlo with ⟨hw, hl, rfl⟩ | ⟨hw, hl, rfl⟩ <;> rfl
    rw [h2]; simp
  · intro e; exact absurd e (by simp [proms])
  · intro e; exact absurd e (by simp [proms])
  · intro hl'
    rcases hlo with ⟨hw, hl, _⟩ | ⟨hw, hl, _⟩
    · subst hl; exact absurd rfl hl'
    · subst hl
      show m.Epoch ≤ (upd R j _ (Int.toNat (i : Int))).Epoch
      rw [Int.toNat_natCast, hEi]; exact hfrom
  · intro d hd
    split at hd
    · rename_i hla
      simp at hd; subst hd
      have h1 := last_oth (h.val j hj) hla
      have h2 := h.last j hj hla
      have h3 := h1.1
      have h4 := h1.2.1
      exact ⟨hj, by show (R j).Token_Last.toNat < k; omega, mono j, Int.le_trans h2 (mono _)⟩
    · simp at hd
  · intro e rest hrest hfo
    rw [noMe i j m (by omega), List.nil_append] at hfo
    by_cases he : m.Epoch = e
    · have hdd : (if (R j).Token_Last ≠ -1 then [((R j).Epoch, j, (R j).Token_Last.toNat)] else [] : Ghosts).flatMap (de e) = [] := by
        have hne : (R j).Epoch ≠ e := by omega
        split
        · simp [de, hne]
        · rfl
      have hnew : le1 (proms (R j) m.Epoch l) j e ++ out.flatMap (me e) = [(j, i)] := by
        rcases hlo with ⟨hw, hl, rfl⟩ | ⟨hw, hl, rfl⟩
        · subst hl
          have e1 : le1 (proms (R j) m.Epoch (-1)) j e = [] := by unfold le1 proms; simp
          rw [e1, List.nil_append, List.flatMap_cons]
          have e2 : me e (j, i, mkm i 15 m.Epoch 0) = [] := by unfold me; rfl
          have e3 : me e (j, i, mkm i 12 m.Epoch j) = [(j, i)] := by
            unfold me
            rw [if_pos ⟨rfl, he⟩]
            show [(Int.toNat (j : Int), i)] = _
            rw [Int.toNat_natCast]
          rw [e2]; simp [e3]
        · subst hl
          have e1 : le1 (proms (R j) m.Epoch i) j e = [(j, i)] := by
            unfold le1 proms
            rw [if_pos ⟨he, by show (i : Int) ≠ -1; omega⟩]
            show [(j, Int.toNat (i : Int))] = _
            rw [Int.toNat_natCast]
          have e2 : me e (j, i, mkm i 15 m.Epoch 0) = [] := by unfold me; rfl
          rw [e1]; simp [e2]
      rw [hdd, List.nil_append, ← List.append_assoc, hnew]
      refine forest_leaf hij.symm (fun x hx => ?_) (forest_drop hfo)
      have := hrest x hx
      exact ⟨fun e => by rw [e] at this; omega, fun e => by rw [e] at this; omega⟩
    · have e1 : le1 (proms (R j) m.Epoch l) j e = [] := by unfold le1; rw [if_neg (fun c => he c.1)]
      have e2 : out.flatMap (me e) = [] := by
        rcases hlo with ⟨hw, hl, rfl⟩ | ⟨hw, hl, rfl⟩
        · have : ∀ s, me e (j, i, mkm i s m.Epoch j) = [] := fun s => by unfold me; rw [if_neg (fun c => he c.2)]
          have e3 : me e (j, i, mkm i 15 m.Epoch 0) = [] := by unfold me; rfl
          simp [this, e3]
        · have e3 : me e (j, i, mkm i 15 m.Epoch 0) = [] := by unfold me; rfl
          simp [e3]
      have e3 : (if (R j).Token_Last ≠ -1 then [((R j).Epoch, j, (R j).Token_Last.toNat)] else [] : Ghosts).flatMap (de e) = le1 (R j) j e := by
        unfold le1
        by_cases hla : (R j).Token_Last = -1
        · simp [hla]
        · by_cases hE : (R j).Epoch = e
          · simp [hla, hE, de]
          · simp [hla, hE, de]
      rw [e1, e2, e3]
      exact hfo
end Go.Abs.Rg
end
section
set_option linter.all false
set_option linter.unusedVariables false
set_option linter.unusedSimpArgs false
set_option linter.unnecessarySimpa false
/-
  Regen: what always holds, goes on to hold when a message is heard: promised, the token, a request.
-/
namespace Go.Abs.Rg
open Go Go.Abs Go.G28

theorem mkm_kind (a b c d : Int) : (mkm a b c d).Kind = b := rfl
theorem mkm_epoch (a b c d : Int) : (mkm a b c d).Epoch = c := rfl
theorem mkm_site (a b c d : Int) : (mkm a b c d).Site = d := rfl
/-- A token that is sent. -/
theorem MOK.token {k : Nat} {R : Sites} {j t : Nat} {e : Int} (hj : j < k) (ht : t < k) (hjt : j ≠ t) (h0 : 0 ≤ e) (h1 : e ≤ 1073741824) (hf : e ≤ (R j).Epoch) (ha : ∀ a, a < k → e ≤ (R a).Epoch) : MOK k R (j, t, mkm t 13 e 0) :=
  ⟨hj, ht, hjt, ⟨.inr (.inl rfl), fun e => by simp [mkm, toMsg, pst] at e, h0, h1⟩, hf, fun e => by simp [mkm, toMsg, pst] at e, fun _ => ha, fun e => by simp [mkm, toMsg, pst] at e⟩
/-- A request that is sent. -/
theorem MOK.request {k : Nat} {R : Sites} {j t s : Nat} {e : Int} (hj : j < k) (ht : t < k) (hs : s < k) (hjt : j ≠ t) (hst : s ≠ t) (h0 : 0 ≤ e) (h1 : e ≤ 1073741824) (hf : e ≤ (R j).Epoch) (ha : e ≤ (R s).Epoch) (hb : e ≤ (R t).Epoch) : MOK k R (j, t, mkm t 12 e s) :=
  ⟨hj, ht, hjt, ⟨.inl rfl, fun _ => ⟨by show (0 : Int) ≤ s; omega, by show (s : Int) < k; omega, by show (s : Int) ≠ t; omega⟩, h0, h1⟩, hf, fun _ => ⟨by show e ≤ (R (Int.toNat (s : Int))).Epoch; rw [Int.toNat_natCast]; exact ha, hb⟩, fun e => by simp [mkm, toMsg, pst] at e, fun e => by simp [mkm, toMsg, pst] at e⟩
/-- A site whose epoch stays. -/
theorem Inv.stay {k : Nat} {B : Int} {R : Sites} {b : Msgs} {D : Ghosts} (h : Inv k B R b D) {j : Nat} (hj : j < k) {xs bb out : Msgs} (hb : b.Perm (xs ++ bb)) {r' : S37}
    (v : Valid r' j k) (e1 : r'.Epoch = (R j).Epoch)
    (ho : ∀ x ∈ out, MOK k (upd R j r') x ∧ x.2.2.Kind ≠ 14)
    (hx : ∀ x ∈ xs, x.2.2.Kind = 14 → x.2.1 = j ∧ x.2.2.Epoch ≤ r'.Epoch)
    (hc : ∀ e, (bif tk r' e then 1 else 0) + out.countP (tkm e) ≤ (bif tk (R j) e then 1 else 0) + xs.countP (tkm e))
    (hh : r'.Token_Has = true → ∀ a, a < k → r'.Epoch ≤ (R a).Epoch)
    (ha : r'.Asking = true → r'.Epoch % (k : Int) = j ∧ ∀ a : Nat, a < k → r'.Promised[a]? = some true → r'.Epoch ≤ (R a).Epoch)
    (hl : r'.Token_Last ≠ -1 → r'.Epoch ≤ (R r'.Token_Last.toNat).Epoch)
    (hf : ∀ e rest, Forest (le1 (R j) j e ++ (xs.flatMap (me e) ++ rest)) → Forest (le1 r' j e ++ (out.flatMap (me e) ++ rest))) :
    Inv k B (upd R j r') (bb ++ out) D := by
  have mono := fun a => upd_mono (R := R) (j := j) (r' := r') (Int.le_of_eq e1.symm) a
  exact h.step hj hb (Int.le_refl B) (dd := []) v (Int.le_of_eq e1.symm) (by rw [e1]; exact h.ep j hj) (fun x hx => (ho x hx).1) (fun x hx hk => absurd hk (ho x hx).2) hx (.inl e1) (h.hc hc)
    (fun hh' a hak => Int.le_trans (hh hh' a hak) (mono a)) (fun ha' => ⟨(ha ha').1, fun a hak hp => Int.le_trans ((ha ha').2 a hak hp) (mono a)⟩) (fun hl' => Int.le_trans (hl hl') (mono _)) (by simp)
    (fun e rest _ hfo => by simpa using hf e rest hfo)

/-- It is promised, and others are awaited still. -/
theorem Inv.promised1 {k : Nat} {B : Int} {R : Sites} {b : Msgs} {D : Ghosts} (h : Inv k B R b D) {i j : Nat} {m : S57} {bb : Msgs} (hb : b.Perm ((i, j, m) :: bb)) (hk : m.Kind = 15) (hfr : m.Epoch = (R j).Epoch)
    (hask : (R j).Asking = true) (hla : false ∈ (R j).Promised.set i true) : Inv k B (upd R j { R j with Promised := (R j).Promised.set i true }) (bb ++ []) D := by
  have hm := h.msg (i, j, m) (hb.mem_iff.mpr (by simp))
  have hj : j < k := hm.j
  have hi : i < k := hm.i
  have hij : i ≠ j := hm.ij
  have hfrom : m.Epoch ≤ (R i).Epoch := hm.from_
  have hav : AskV (R j) j k := by
    rcases (h.val j hj).st with h1 | h1 | h1
    · rw [h1.ask] at hask; cases hask
    · exact h1
    · rw [h1.ask] at hask; cases hask
  refine h.stay hj (xs := [(i, j, m)]) hb (r' := { R j with Promised := (R j).Promised.set i true }) ⟨(h.val j hj).lo, (h.val j hj).hi, .inr (.inl ⟨hav.lost, hask, by simpa using hav.len, ?_, hla, hav.has, hav.us, hav.path⟩)⟩ rfl (by simp)
    (fun x hx hk' => by simp at hx; subst hx; have hk2 : m.Kind = 14 := hk'; omega) ?_ (fun hh => by have := hav.has; rw [show (R j).Token_Has = true from hh] at this; cases this) (fun _ => ⟨(h.ask j hj hask).1, fun a hak hp => ?_⟩) (fun hl => h.last j hj hl) ?_
  · rw [Int.toNat_natCast, List.getElem?_set_ne hij]
    have := hav.self
    rwa [Int.toNat_natCast] at this
  · intro e
    rw [noTok i j m (by omega)]
    have : tk { R j with Promised := (R j).Promised.set i true } e = tk (R j) e := rfl
    rw [this]; simp
  · by_cases hai : i = a
    · subst hai; show (R j).Epoch ≤ _; omega
    · rw [show ({ R j with Promised := (R j).Promised.set i true } : S37).Promised = (R j).Promised.set i true from rfl, List.getElem?_set_ne hai] at hp
      exact (h.ask j hj hask).2 a hak hp
  · intro e rest hfo
    rw [noMe i j m (by omega)] at hfo
    exact hfo
theorem all_true {l : List Bool} (h : false ∉ l) {a : Nat} (ha : a < l.length) : l[a]? = some true := by
  rw [List.getElem?_eq_getElem ha]
  cases hb : l[a] with
  | true => rfl
  | false => exact absurd (by rw [← hb]; exact List.getElem_mem ha) h
/-- A site's token is made: it waits itself, or nobody does, or it is sent on. -/
theorem thereS_cases (r : S37) : (r.Token_Want = true ∧ thereS r = ({ r with Asking := false, Promised := [], Token_Has := true, Token_Want := false, Token_Using := true }, [])) ∨
    (r.Token_Want = false ∧ r.Token_Next = -1 ∧ thereS r = ({ r with Asking := false, Promised := [], Token_Has := true }, [])) ∨
    (r.Token_Want = false ∧ r.Token_Next ≠ -1 ∧ thereS r = ({ r with Asking := false, Promised := [], Token_Has := false, Token_Next := -1 }, [pst r.Token_Next 13 r.Epoch 0])) := by
  unfold thereS
  cases hw : r.Token_Want
  · by_cases hn : r.Token_Next = -1
    · right; left; simp [hn]
    · right; right; simp [hn]
  · left; simp
/-- All have promised. -/
theorem Inv.promised2 {k : Nat} {B : Int} {R : Sites} {b : Msgs} {D : Ghosts} (h : Inv k B R b D) {i j : Nat} {m : S57} {bb : Msgs} (hb : b.Perm ((i, j, m) :: bb)) (hk : m.Kind = 15) (hfr : m.Epoch = (R j).Epoch)
    (hask : (R j).Asking = true) (hla : false ∉ (R j).Promised.set i true) : Inv k B (upd R j (thereS (R j)).1) (bb ++ outS j (thereS (R j)).2) D := by
  have hm := h.msg (i, j, m) (hb.mem_iff.mpr (by simp))
  have hj : j < k := hm.j
  have hi : i < k := hm.i
  have hij : i ≠ j := hm.ij
  have hfrom : m.Epoch ≤ (R i).Epoch := hm.from_
  have hv := h.val j hj
  have hav : AskV (R j) j k := by
    rcases hv.st with h1 | h1 | h1
    · rw [h1.ask] at hask; cases hask
    · exact h1
    · rw [h1.ask] at hask; cases hask
  have hall : ∀ a, a < k → (R j).Epoch ≤ (R a).Epoch := fun a hak => by
    by_cases hai : i = a
    · subst hai; omega
    · have h1 := all_true hla (a := a) (by have := hav.len; simp; omega)
      rw [List.getElem?_set_ne hai] at h1
      exact (h.ask j hj hask).2 a hak h1
  have hx : ∀ (r' : S37), ∀ x ∈ ([(i, j, m)] : Msgs), x.2.2.Kind = 14 → x.2.1 = j ∧ x.2.2.Epoch ≤ r'.Epoch := fun r' x hx hk' => by simp at hx; subst hx; have hk2 : m.Kind = 14 := hk'; omega
  have hL : ∀ e, tk (R j) e = decide ((R j).Epoch = e) := tk_yes (.inr hask)
  have hlast : (R j).Token_Last ≠ -1 → oth (R j).Token_Last j k ∧ oth (R j).Token_Next j k := fun hne => by
    rcases hav.path with ⟨a, _⟩ | ⟨a, b⟩
    · exact absurd a hne
    · exact ⟨a, b⟩
  rcases thereS_cases (R j) with ⟨hw, he⟩ | ⟨hw, hn, he⟩ | ⟨hw, hn, he⟩
  · rw [he]
    refine h.stay hj (xs := [(i, j, m)]) hb ⟨hv.lo, hv.hi, .inr (.inr ⟨hav.lost, rfl, rfl, ⟨fun e => (hlast e).1, fun e => ?_, fun _ => rfl, fun e => (by cases e), fun e => (by cases e), fun _ => ?_⟩⟩)⟩ rfl (by simp [outS]) (hx _) ?_ (fun _ => hall) (fun e => (by cases e)) (fun hl => h.last j hj hl) ?_
    · exact next_oth (r := R j) hv (show (R j).Token_Next ≠ -1 from e)
    · rcases hav.path with ⟨a, b⟩ | ⟨a, b⟩
      · simp [a, b]
      · have := a.1; have := b.1
        show (R j).Token_Next = -1 ↔ (R j).Token_Last = -1
        omega
    · intro e
      rw [noTok i j m (by omega), hL, tk_yes (.inl rfl)]; simp [outS]
    · intro e rest hfo
      rw [noMe i j m (by omega)] at hfo
      simpa [outS, le1] using hfo
  · rw [he]
    have hl1 : (R j).Token_Last = -1 := by
      rcases hav.path with ⟨a, b⟩ | ⟨a, b⟩
      · exact a
      · have := b.1; omega
    refine h.stay hj (xs := [(i, j, m)]) hb ⟨hv.lo, hv.hi, .inr (.inr ⟨hav.lost, rfl, rfl, ⟨fun e => (hlast e).1, fun e => absurd hn e, fun _ => rfl, fun e => ?_, fun _ _ => ⟨hn, by simp [hl1]⟩, fun e => ?_⟩⟩)⟩ rfl (by simp [outS]) (hx _) ?_ (fun _ => hall) (fun e => (by cases e)) (fun hl => h.last j hj hl) ?_
    · rw [show (R j).Token_Want = true from e] at hw; cases hw
    · rcases e with e | e
      · have := hav.us; rw [show (R j).Token_Using = true from e] at this; cases this
      · rw [show (R j).Token_Want = true from e] at hw; cases hw
    · intro e
      rw [noTok i j m (by omega), hL, tk_yes (.inl rfl)]; simp [outS]
    · intro e rest hfo
      rw [noMe i j m (by omega)] at hfo
      simpa [outS, le1] using hfo
  · rw [he]
    have hpa : oth (R j).Token_Last j k ∧ oth (R j).Token_Next j k := by
      rcases hav.path with ⟨a, b⟩ | ⟨a, b⟩
      · exact absurd b hn
      · exact ⟨a, b⟩
    obtain ⟨t, ht⟩ := Int.eq_ofNat_of_zero_le hpa.2.1
    have htk : t < k := by have := hpa.2.2.1; omega
    have hjt : j ≠ t := by have := hpa.2.2.2; omega
    have hout : outS j [pst (R j).Token_Next 13 (R j).Epoch 0] = [(j, t, mkm t 13 (R j).Epoch 0)] := by
      unfold outS mkm
      rw [ht]
      show [(j, Int.toNat (t : Int), _)] = _
      rw [Int.toNat_natCast]
    simp only
    rw [hout]
    refine h.stay hj (xs := [(i, j, m)]) hb ⟨hv.lo, hv.hi, .inr (.inr ⟨hav.lost, rfl, rfl, ⟨fun e => hpa.1, fun e => absurd rfl e, fun e => ?_, fun e => rfl, fun _ _ => ⟨rfl, ?_⟩, fun e => ?_⟩⟩)⟩ rfl ?_ (hx _) ?_ (fun e => (by cases e)) (fun e => (by cases e)) (fun hl => h.last j hj hl) ?_
    · have := hav.us; rw [show (R j).Token_Using = true from e] at this; cases this
    · have := hpa.1.1
      show (R j).Token_Last = -1 ↔ false = true
      simp; omega
    · rcases e with e | e
      · have := hav.us; rw [show (R j).Token_Using = true from e] at this; cases this
      · rw [show (R j).Token_Want = true from e] at hw; cases hw
    · intro x hx'
      simp at hx'; subst hx'
      refine ⟨MOK.token hj htk hjt hv.lo hv.hi (by rw [upd_at]; exact Int.le_refl _) (fun a hak => Int.le_trans (hall a hak) (upd_mono (by exact Int.le_refl _) a)), by rw [mkm_kind]; decide⟩
    · intro e
      rw [noTok i j m (by omega), hL, oneTok j t _ rfl, mkm_epoch, tk_no rfl rfl]; simp
    · intro e rest hfo
      rw [noMe i j m (by omega)] at hfo
      rw [noMe j t _ (by rw [mkm_kind]; decide)]
      simpa [le1] using hfo
/-- The token is heard. -/
theorem Inv.token {k : Nat} {B : Int} {R : Sites} {b : Msgs} {D : Ghosts} (h : Inv k B R b D) {i j : Nat} {m : S57} {bb : Msgs} (hb : b.Perm ((i, j, m) :: bb)) (hk : m.Kind = 13) (hfr : m.Epoch = (R j).Epoch)
    (hlo : (R j).Lost = false) (hask : (R j).Asking = false) (hw : (R j).Token_Want = true) : Inv k B (upd R j { R j with Token_Has := true, Token_Want := false, Token_Using := true }) (bb ++ []) D := by
  have hm := h.msg (i, j, m) (hb.mem_iff.mpr (by simp))
  have hj : j < k := hm.j
  have hv := h.val j hj
  have hrv : RunV (R j) j k := by
    rcases hv.st with h1 | h1 | h1
    · rw [h1.lost] at hlo; cases hlo
    · rw [h1.ask] at hask; cases hask
    · exact h1
  refine h.stay hj (xs := [(i, j, m)]) hb ⟨hv.lo, hv.hi, .inr (.inr ⟨hlo, hask, hrv.pro, ⟨hrv.tok.last, hrv.tok.next, fun _ => rfl, fun e => (by cases e), fun e => (by cases e), fun _ => hrv.tok.busy (.inr hw)⟩⟩)⟩ rfl (by simp) (fun x hx hk' => by simp at hx; subst hx; have hk2 : m.Kind = 14 := hk'; omega) ?_
    (fun _ a hak => by show (R j).Epoch ≤ _; rw [← hfr]; exact hm.tok hk a hak) (fun e => by rw [show (R j).Asking = true from e] at hask; cases hask) (fun hl => h.last j hj hl) ?_
  · intro e
    rw [oneTok i j m hk, tk_yes (.inl rfl), hfr]
    simp
  · intro e rest hfo
    rw [noMe i j m (by omega)] at hfo
    simpa [le1] using hfo
/-- A request is heard. -/
theorem Inv.request {k : Nat} {B : Int} {R : Sites} {b : Msgs} {D : Ghosts} (h : Inv k B R b D) {i j : Nat} {m : S57} {bb : Msgs} (hb : b.Perm ((i, j, m) :: bb)) (hk : m.Kind = 12) (hfr : m.Epoch = (R j).Epoch)
    (hlo : (R j).Lost = false) : Inv k B (upd R j (reqS (R j) m.Site).1) (bb ++ outS j (reqS (R j) m.Site).2) D := by
  have hm := h.msg (i, j, m) (hb.mem_iff.mpr (by simp))
  have hj : j < k := hm.j
  have hv := h.val j hj
  have hso : oth m.Site j k := hm.ok.site hk
  obtain ⟨s, hs⟩ := Int.eq_ofNat_of_zero_le hso.1
  have hsk : s < k := by have := hso.2.1; omega
  have hsj : s ≠ j := by have := hso.2.2; omega
  have hEs : (R j).Epoch ≤ (R s).Epoch := by
    have := (hm.req hk).1
    simp only [hs, Int.toNat_natCast, hfr] at this
    exact this
  have hx : ∀ (r' : S37), ∀ x ∈ ([(i, j, m)] : Msgs), x.2.2.Kind = 14 → x.2.1 = j ∧ x.2.2.Epoch ≤ r'.Epoch := fun r' x hx hk' => by simp at hx; subst hx; have hk2 : m.Kind = 14 := hk'; omega
  rw [hs]
  unfold reqS
  by_cases hl : (R j).Token_Last = -1
  · rw [if_neg (by simp [hl])]
    by_cases hc : (R j).Token_Has = true ∧ (R j).Token_Using = false
    · rw [if_pos hc]
      have hrv : RunV (R j) j k := by
        rcases hv.st with h1 | h1 | h1
        · rw [h1.lost] at hlo; cases hlo
        · have := h1.has; rw [hc.1] at this; cases this
        · exact h1
      have hw : (R j).Token_Want = false := by
        cases hw : (R j).Token_Want
        · rfl
        · have := hrv.tok.wa hw; rw [hc.1] at this; cases this
      have hout : outS j [pst (s : Int) 13 (R j).Epoch 0] = [(j, s, mkm s 13 (R j).Epoch 0)] := by
        unfold outS mkm
        show [(j, Int.toNat (s : Int), _)] = _
        rw [Int.toNat_natCast]
      simp only
      rw [hout]
      refine h.stay hj (xs := [(i, j, m)]) hb ⟨hv.lo, hv.hi, .inr (.inr ⟨hlo, hrv.ask, hrv.pro, ⟨fun e => ?_, hrv.tok.next, fun e => ?_, fun e => ?_, fun _ _ => ⟨(hrv.tok.idle hc.2 hw).1, ?_⟩, fun e => ?_⟩⟩)⟩ rfl ?_ (hx _) ?_ (fun e => (by cases e)) (fun e => ?_) (fun _ => ?_) ?_
      · exact ⟨by show (0 : Int) ≤ s; omega, by show (s : Int) < k; omega, by show (s : Int) ≠ j; omega⟩
      · rw [show (R j).Token_Using = true from e] at hc; exact absurd hc.2 (by simp)
      · rfl
      · show ((s : Int) = -1) ↔ false = true
        simp
      · rcases e with e | e
        · rw [show (R j).Token_Using = true from e] at hc; exact absurd hc.2 (by simp)
        · rw [show (R j).Token_Want = true from e] at hw; cases hw
      · intro x hx'
        simp at hx'; subst hx'
        refine ⟨MOK.token hj hsk (Ne.symm hsj) hv.lo hv.hi (by rw [upd_at]; exact Int.le_refl _) (fun a hak => Int.le_trans (h.has j hj hc.1 a hak) (upd_mono (by exact Int.le_refl _) a)), by rw [mkm_kind]; decide⟩
      · intro e
        rw [oneTok j s _ rfl, mkm_epoch, tk_yes (r := R j) (.inl hc.1), tk_no (r := { R j with Token_Has := false, Token_Last := (s : Int) }) rfl hrv.ask]; simp
      · have := hrv.ask; rw [show (R j).Asking = true from e] at this; cases this
      · show (R j).Epoch ≤ (R (Int.toNat (s : Int))).Epoch
        rw [Int.toNat_natCast]; exact hEs
      · intro e rest hfo
        rw [oneMe i j m hk, hfr, hs, Int.toNat_natCast] at hfo
        rw [noMe j s _ (by rw [mkm_kind]; decide), List.nil_append]
        unfold le1 at hfo ⊢
        simp only [hl, ne_eq, not_true_eq_false, and_false, if_false, List.nil_append] at hfo
        by_cases he : (R j).Epoch = e
        · rw [if_pos he] at hfo
          rw [if_pos ⟨he, by show (s : Int) ≠ -1; omega⟩]
          exact forest_flip hfo
        · rw [if_neg he] at hfo
          rw [if_neg (fun c => he c.1)]
          exact hfo
    · rw [if_neg hc]
      refine h.stay hj (xs := [(i, j, m)]) (out := outS j []) (r' := { R j with Token_Last := (s : Int), Token_Next := (s : Int) }) hb ⟨hv.lo, hv.hi, ?_⟩ rfl (by simp [outS]) (hx _) ?_ (fun e => h.has j hj e) (fun e => h.ask j hj e) (fun _ => ?_) ?_
      · have hoth : oth (s : Int) j k := ⟨by omega, by omega, by omega⟩
        rcases hv.st with h1 | h1 | h1
        · rw [h1.lost] at hlo; cases hlo
        · exact .inr (.inl ⟨h1.lost, h1.ask, h1.len, h1.self, h1.lack, h1.has, h1.us, .inr ⟨hoth, hoth⟩⟩)
        · refine .inr (.inr ⟨hlo, h1.ask, h1.pro, ⟨fun _ => hoth, fun _ => hoth, h1.tok.us, h1.tok.wa, fun e1 e2 => ?_, fun _ => Iff.rfl⟩⟩)
          exact absurd ⟨(h1.tok.idle e1 e2).2.mp hl, e1⟩ hc
      · intro e
        have : tk { R j with Token_Last := (s : Int), Token_Next := (s : Int) } e = tk (R j) e := rfl
        rw [noTok i j m (by omega), this]; simp [outS]
      · show (R j).Epoch ≤ (R (Int.toNat (s : Int))).Epoch
        rw [Int.toNat_natCast]; exact hEs
      · intro e rest hfo
        rw [oneMe i j m hk, hfr, hs, Int.toNat_natCast] at hfo
        unfold le1 at hfo ⊢
        simp only [hl, ne_eq, not_true_eq_false, and_false, if_false, List.nil_append] at hfo
        show Forest (_ ++ ([] ++ rest))
        by_cases he : (R j).Epoch = e
        · rw [if_pos he] at hfo
          rw [if_pos ⟨he, by show (s : Int) ≠ -1; omega⟩]
          exact forest_flip hfo
        · rw [if_neg he] at hfo
          rw [if_neg (fun c => he c.1)]
          exact hfo
  · rw [if_pos hl]
    have hlo' := last_oth hv hl
    obtain ⟨y, hy⟩ := Int.eq_ofNat_of_zero_le hlo'.1
    have hyk : y < k := by have := hlo'.2.1; omega
    have hyj : y ≠ j := by have := hlo'.2.2; omega
    have hEy : (R j).Epoch ≤ (R y).Epoch := by
      have := h.last j hj hl
      rw [hy, Int.toNat_natCast] at this
      exact this
    have hsy : s ≠ y := by
      intro e
      subst e
      obtain ⟨rest, h1, _⟩ := edges_split (xs := [(i, j, m)]) R D (R j).Epoch hj hb
      have h2 := forest_perm h1 (h.forest _)
      have : ([(i, j, m)] : Msgs).flatMap (me (R j).Epoch) = [(s, j)] := by rw [oneMe i j m hk, hfr, if_pos rfl, hs, Int.toNat_natCast]
      rw [this] at h2
      unfold le1 at h2
      rw [if_pos ⟨rfl, hl⟩, hy, Int.toNat_natCast] at h2
      exact forest_two h2
    have hout : outS j [pst (R j).Token_Last 12 (R j).Epoch (s : Int)] = [(j, y, mkm y 12 (R j).Epoch s)] := by
      unfold outS mkm
      rw [hy]
      show [(j, Int.toNat (y : Int), _)] = _
      rw [Int.toNat_natCast]
    simp only
    rw [hout]
    have hne : (s : Int) ≠ -1 := by omega
    refine h.stay hj (xs := [(i, j, m)]) (r' := { R j with Token_Last := (s : Int) }) hb ⟨hv.lo, hv.hi, ?_⟩ rfl ?_ (hx _) ?_ (fun e => h.has j hj e) (fun e => h.ask j hj e) (fun _ => ?_) ?_
    · have hoth : oth (s : Int) j k := ⟨by omega, by omega, by omega⟩
      rcases hv.st with h1 | h1 | h1
      · rw [h1.lost] at hlo; cases hlo
      · refine .inr (.inl ⟨h1.lost, h1.ask, h1.len, h1.self, h1.lack, h1.has, h1.us, .inr ⟨hoth, ?_⟩⟩)
        rcases h1.path with ⟨a, b⟩ | ⟨a, b⟩
        · exact absurd a hl
        · exact b
      · refine .inr (.inr ⟨hlo, h1.ask, h1.pro, ⟨fun _ => hoth, h1.tok.next, h1.tok.us, h1.tok.wa, fun e1 e2 => ⟨(h1.tok.idle e1 e2).1, ?_⟩, fun e => ?_⟩⟩)
        · have := (h1.tok.idle e1 e2).2
          show (s : Int) = -1 ↔ (R j).Token_Has = true
          constructor
          · intro e; omega
          · intro e; exact absurd (this.mpr e) hl
        · have := h1.tok.busy e
          show (R j).Token_Next = -1 ↔ (s : Int) = -1
          constructor
          · intro e; exact absurd (this.mp e) hl
          · intro e; omega
    · intro x hx'
      simp at hx'; subst hx'
      exact ⟨MOK.request hj hyk hsk (Ne.symm hyj) hsy hv.lo hv.hi (by rw [upd_at]; exact Int.le_refl _) (Int.le_trans hEs (upd_mono (by exact Int.le_refl _) s)) (Int.le_trans hEy (upd_mono (by exact Int.le_refl _) y)), by rw [mkm_kind]; decide⟩
    · intro e
      have : tk { R j with Token_Last := (s : Int) } e = tk (R j) e := rfl
      rw [noTok i j m (by omega), noTok j y _ (by rw [mkm_kind]; decide), this]; simp
    · show (R j).Epoch ≤ (R (Int.toNat (s : Int))).Epoch
      rw [Int.toNat_natCast]; exact hEs
    · intro e rest hfo
      rw [oneMe i j m hk, hfr, hs, Int.toNat_natCast] at hfo
      rw [oneMe j y _ rfl, mkm_epoch, mkm_site, Int.toNat_natCast]
      unfold le1 at hfo ⊢
      by_cases he : (R j).Epoch = e
      · rw [if_pos ⟨he, hl⟩, hy, Int.toNat_natCast, if_pos he] at hfo
        rw [if_pos ⟨he, hne⟩, if_pos he]
        show Forest ((j, Int.toNat (s : Int)) :: (s, y) :: rest)
        rw [Int.toNat_natCast]
        exact forest_hop (forest_perm (List.Perm.swap _ _ _) hfo)
      · rw [if_neg (fun c => he c.1), if_neg he] at hfo
        rw [if_neg (fun c => he c.1), if_neg he]
        exact hfo
end Go.Abs.Rg
end
section
set_option linter.all false
set_option linter.unusedVariables false
set_option linter.unusedSimpArgs false
set_option linter.unnecessarySimpa false
/-
  Regen: what always holds, goes on to hold.
-/
namespace Go.Abs.Rg
open Go Go.Abs Go.G28

theorem outS_nil (j : Nat) : outS j [] = [] := rfl
theorem outS_cons (j t : Nat) (a b c : Int) (l : List S64) : outS j (pst (t : Int) a b c :: l) = (j, t, mkm t a b c) :: outS j l := by
  unfold outS mkm
  rw [List.map_cons]
  show (j, Int.toNat (t : Int), _) :: _ = _
  rw [Int.toNat_natCast]
theorem ghX_nil {j : Nat} {m : S57} (h : m.Kind ≠ 12) : ghX j m = [] := by unfold ghX; rw [if_neg h]
theorem Inv.hear {k : Nat} {B : Int} {R : Sites} {b : Msgs} {D : Ghosts} (h : Inv k B R b D) {i j : Nat} {m : S57} {bb : Msgs} (hb : b.Perm ((i, j, m) :: bb)) :
    Inv k B (hearR R i j m) (bb ++ outS j (hearS (R j) j i m).2.1) (ghH (R j) j m ++ D) := by
  have hm := h.msg (i, j, m) (hb.mem_iff.mpr (by simp))
  have hj : j < k := hm.j
  have hv := h.val j hj
  unfold hearR
  by_cases hfr : fresh (R j) m
  · have hfr' := hfr
    unfold fresh at hfr'
    rcases hm.ok.kind with hk | hk | hk | hk
    · have hk : m.Kind = 12 := hk
      rw [if_neg (by omega)] at hfr'
      cases hlo : (R j).Lost with
      | true =>
        have e1 : hearS (R j) j i m = (zr, [], 19) := by unfold hearS; simp [hfr, hk, hlo]
        have e2 : ghH (R j) j m = ghX j m := by unfold ghH; simp [hfr, hk, hlo]
        rw [e1, e2, if_neg (by decide)]
        exact h.err hb (by omega)
      | false =>
        have e1 : hearS (R j) j i m = ((reqS (R j) m.Site).1, (reqS (R j) m.Site).2, 0) := by unfold hearS; simp [hfr, hk, hlo]
        have e2 : ghH (R j) j m = [] := by unfold ghH; simp [hfr, hk, hlo]
        rw [e1, e2, if_pos rfl]
        exact h.request hb hk hfr' hlo
    · have hk : m.Kind = 13 := hk
      rw [if_neg (by omega)] at hfr'
      have e2 : ghH (R j) j m = [] := by unfold ghH; rw [ghX_nil (by omega)]; simp [hk]
      rw [e2]
      have eg : ∀ c, hearS (R j) j i m = (zr, [], c) → c ≠ 0 → Inv k B (if (hearS (R j) j i m).2.2 = 0 then upd R j (hearS (R j) j i m).1 else R) (bb ++ outS j (hearS (R j) j i m).2.1) ([] ++ D) := fun c e1 hc => by
        rw [e1, if_neg hc]
        have := h.err hb (by omega)
        rwa [ghX_nil (by omega)] at this
      cases hlo : (R j).Lost with
      | true => exact eg 19 (by unfold hearS; simp [hfr, hk, hlo]) (by decide)
      | false =>
        cases ha : (R j).Asking with
        | true => exact eg 14 (by unfold hearS; simp [hfr, hk, hlo, ha]) (by decide)
        | false =>
          cases hw : (R j).Token_Want with
          | false => exact eg 14 (by unfold hearS; simp [hfr, hk, hlo, hw]) (by decide)
          | true =>
            have e1 : hearS (R j) j i m = ({ R j with Token_Has := true, Token_Want := false, Token_Using := true }, [], 0) := by unfold hearS; simp [hfr, hk, hlo, ha, hw]
            rw [e1, if_pos rfl]
            exact h.token hb hk hfr' hlo ha hw
    · have hk : m.Kind = 14 := hk
      rw [if_pos hk] at hfr'
      have e2 : ghH (R j) j m = (if (R j).Token_Last ≠ -1 then [((R j).Epoch, j, (R j).Token_Last.toNat)] else []) := by unfold ghH; rw [if_pos hfr, if_pos hk]
      rw [e2]
      by_cases hw : (R j).Token_Using = true ∨ (R j).Token_Want = true
      · have e1 : hearS (R j) j i m = (proms (R j) m.Epoch (-1), [pst i 15 m.Epoch 0, pst i 12 m.Epoch j], 0) := by unfold hearS; simp only [hfr, not_true_eq_false, if_false, hk, if_true]; rw [if_pos hw]
        rw [e1, if_pos rfl]
        simp only [outS_cons, outS_nil]
        exact h.promise hb hk hfr' (.inl ⟨hw, rfl, rfl⟩)
      · have e1 : hearS (R j) j i m = (proms (R j) m.Epoch i, [pst i 15 m.Epoch 0], 0) := by unfold hearS; simp only [hfr, not_true_eq_false, if_false, hk, if_true]; rw [if_neg hw]
        rw [e1, if_pos rfl]
        simp only [outS_cons, outS_nil]
        exact h.promise hb hk hfr' (.inr ⟨by simpa using hw, rfl, rfl⟩)
    · have hk : m.Kind = 15 := hk
      rw [if_neg (by omega)] at hfr'
      have e2 : ghH (R j) j m = [] := by unfold ghH; rw [ghX_nil (by omega)]; simp [hk]
      rw [e2]
      cases ha : (R j).Asking with
      | false =>
        have e1 : hearS (R j) j i m = (zr, [], 14) := by unfold hearS; simp [hfr, hk, ha]
        rw [e1, if_neg (by decide)]
        have := h.err hb (by omega)
        rwa [ghX_nil (by omega)] at this
      | true =>
        by_cases hc : false ∈ (R j).Promised.set i true
        · have e1 : hearS (R j) j i m = ({ R j with Promised := (R j).Promised.set i true }, [], 0) := by unfold hearS; simp [hfr, hk, ha, hc]
          rw [e1, if_pos rfl]
          exact h.promised1 hb hk hfr' ha hc
        · have e1 : hearS (R j) j i m = ((thereS (R j)).1, (thereS (R j)).2, 0) := by unfold hearS; simp [hfr, hk, ha, hc]
          rw [e1, if_pos rfl]
          exact h.promised2 hb hk hfr' ha hc
  · have e1 : hearS (R j) j i m = (zr, [], 18) := by unfold hearS; simp [hfr]
    have e2 : ghH (R j) j m = ghX j m := by unfold ghH; simp [hfr]
    rw [e1, e2, if_neg (by decide)]
    refine h.err hb (fun hk => ?_)
    unfold fresh at hfr
    rw [if_pos hk] at hfr
    omega

/-! ### a site by itself -/
theorem hb_nil (b : Msgs) : b.Perm ([] ++ b) := .refl _
theorem Inv.start {k : Nat} {B : Int} {R : Sites} {b : Msgs} {D : Ghosts} (h : Inv k B R b D) {j : Nat} (hj : j < k) : Inv k B (upd R j (lostS (R j).Epoch)) (b ++ []) D := by
  have hv := h.val j hj
  refine h.stay hj (hb_nil b) ⟨hv.lo, hv.hi, .inl ⟨rfl, rfl, rfl, rfl, rfl, rfl, rfl, rfl⟩⟩ rfl (by simp) (by simp) (fun e => ?_) (fun e => (by cases e)) (fun e => (by cases e)) (fun e => absurd rfl e) (fun e rest hfo => ?_)
  · rw [tk_no rfl rfl]; simp
  · have : le1 (lostS (R j).Epoch) j e = [] := by unfold le1 lostS; simp
    rw [this]
    exact forest_drop hfo
theorem Inv.done {k : Nat} {B : Int} {R : Sites} {b : Msgs} {D : Ghosts} (h : Inv k B R b D) {j : Nat} (hj : j < k) (hu : (R j).Token_Using = true) : Inv k B (upd R j (doneS (R j)).1) (b ++ outS j (doneS (R j)).2) D := by
  have hv := h.val j hj
  have hrv := hv.run hu
  have hhas := hrv.tok.us hu
  have hw : (R j).Token_Want = false := by
    cases hw : (R j).Token_Want
    · rfl
    · have := hrv.tok.wa hw; rw [hhas] at this; cases this
  have hbu := hrv.tok.busy (.inl hu)
  unfold doneS
  by_cases hn : (R j).Token_Next = -1
  · rw [if_pos hn]
    refine h.stay hj (hb_nil b) (r' := { R j with Token_Using := false }) ⟨hv.lo, hv.hi, .inr (.inr ⟨hrv.lost, hrv.ask, hrv.pro, ⟨hrv.tok.last, hrv.tok.next, fun e => (by cases e), hrv.tok.wa, fun _ _ => ⟨hn, ?_⟩, fun e => ?_⟩⟩)⟩ rfl (by simp [outS]) (by simp) (fun e => ?_) (fun e => h.has j hj e) (fun e => h.ask j hj e) (fun e => h.last j hj e) (fun e rest hfo => ?_)
    · show (R j).Token_Last = -1 ↔ (R j).Token_Has = true
      simp [hhas, hbu.mp hn]
    · rcases e with e | e
      · cases e
      · rw [show (R j).Token_Want = true from e] at hw; cases hw
    · have : tk { R j with Token_Using := false } e = tk (R j) e := rfl
      rw [this]; simp [outS]
    · exact hfo
  · rw [if_neg hn]
    have ho := hrv.tok.next hn
    obtain ⟨t, ht⟩ := Int.eq_ofNat_of_zero_le ho.1
    have htk : t < k := by have := ho.2.1; omega
    have hjt : j ≠ t := by have := ho.2.2; omega
    simp only [ht, outS_cons, outS_nil]
    refine h.stay hj (hb_nil b) (r' := { R j with Token_Has := false, Token_Using := false, Token_Next := -1 }) ⟨hv.lo, hv.hi, .inr (.inr ⟨hrv.lost, hrv.ask, hrv.pro, ⟨hrv.tok.last, fun e => absurd rfl e, fun e => (by cases e), fun _ => rfl, fun _ _ => ⟨rfl, ?_⟩, fun e => ?_⟩⟩)⟩ rfl ?_ (by simp) (fun e => ?_) (fun e => (by cases e)) (fun e => h.ask j hj e) (fun e => h.last j hj e) (fun e rest hfo => ?_)
    · show (R j).Token_Last = -1 ↔ false = true
      simp; exact fun e => hn (hbu.mpr e)
    · rcases e with e | e
      · cases e
      · rw [show (R j).Token_Want = true from e] at hw; cases hw
    · intro x hx
      simp at hx; subst hx
      exact ⟨MOK.token hj htk hjt hv.lo hv.hi (by rw [upd_at]; exact Int.le_refl _) (fun a hak => Int.le_trans (h.has j hj hhas a hak) (upd_mono (by exact Int.le_refl _) a)), by rw [mkm_kind]; decide⟩
    · rw [oneTok j t _ rfl, mkm_epoch, tk_yes (r := R j) (.inl hhas), tk_no (r := { R j with Token_Has := false, Token_Using := false, Token_Next := -1 }) rfl hrv.ask]; simp
    · rw [noMe j t _ (by rw [mkm_kind]; decide)]
      exact hfo
theorem Inv.want {k : Nat} {B : Int} {R : Sites} {b : Msgs} {D : Ghosts} (h : Inv k B R b D) {j : Nat} (hj : j < k) (hl : (R j).Lost = false) (hu : (R j).Token_Using = false) (hw : (R j).Token_Want = false) :
    Inv k B (upd R j (wantS (R j) j).1) (b ++ outS j (wantS (R j) j).2) D := by
  have hv := h.val j hj
  unfold wantS
  rcases Bool.eq_false_or_eq_true (R j).Asking with ha | ha
  · rw [if_pos ha]
    have hav : AskV (R j) j k := by
      rcases hv.st with h1 | h1 | h1
      · rw [h1.ask] at ha; cases ha
      · exact h1
      · rw [h1.ask] at ha; cases ha
    refine h.stay hj (hb_nil b) (r' := { R j with Token_Want := true }) ⟨hv.lo, hv.hi, .inr (.inl ⟨hav.lost, hav.ask, hav.len, hav.self, hav.lack, hav.has, hav.us, hav.path⟩)⟩ rfl (by simp [outS]) (by simp) (fun e => ?_) (fun e => h.has j hj e) (fun e => h.ask j hj e) (fun e => h.last j hj e) (fun e rest hfo => hfo)
    have : tk { R j with Token_Want := true } e = tk (R j) e := rfl
    rw [this]; simp [outS]
  · rw [if_neg (by rw [ha]; simp)]
    have hrv : RunV (R j) j k := by
      rcases hv.st with h1 | h1 | h1
      · rw [h1.lost] at hl; cases hl
      · rw [h1.ask] at ha; cases ha
      · exact h1
    have hid := hrv.tok.idle hu hw
    rcases Bool.eq_false_or_eq_true (R j).Token_Has with hh | hh
    · rw [if_pos hh]
      refine h.stay hj (hb_nil b) (r' := { R j with Token_Using := true }) ⟨hv.lo, hv.hi, .inr (.inr ⟨hrv.lost, hrv.ask, hrv.pro, ⟨hrv.tok.last, hrv.tok.next, fun _ => hh, hrv.tok.wa, fun e => (by cases e), fun _ => ?_⟩⟩)⟩ rfl (by simp [outS]) (by simp) (fun e => ?_) (fun e => h.has j hj e) (fun e => h.ask j hj e) (fun e => h.last j hj e) (fun e rest hfo => hfo)
      · show (R j).Token_Next = -1 ↔ (R j).Token_Last = -1
        simp [hid.1, hid.2.mpr hh]
      · have : tk { R j with Token_Using := true } e = tk (R j) e := rfl
        rw [this]; simp [outS]
    · rw [if_neg (by rw [hh]; simp)]
      have hne : (R j).Token_Last ≠ -1 := fun e => by have := hid.2.mp e; rw [hh] at this; cases this
      have ho := hrv.tok.last hne
      obtain ⟨t, ht⟩ := Int.eq_ofNat_of_zero_le ho.1
      have htk : t < k := by have := ho.2.1; omega
      have hjt : j ≠ t := by have := ho.2.2; omega
      have hEt : (R j).Epoch ≤ (R t).Epoch := by have := h.last j hj hne; rwa [ht, Int.toNat_natCast] at this
      simp only [ht, outS_cons, outS_nil]
      refine h.stay hj (hb_nil b) (r' := { R j with Token_Want := true, Token_Last := -1 }) ⟨hv.lo, hv.hi, .inr (.inr ⟨hrv.lost, hrv.ask, hrv.pro, ⟨fun e => absurd rfl e, hrv.tok.next, hrv.tok.us, fun _ => hh, fun _ e => (by cases e), fun _ => ?_⟩⟩)⟩ rfl ?_ (by simp) (fun e => ?_) (fun e => h.has j hj e) (fun e => h.ask j hj e) (fun e => absurd rfl e) (fun e rest hfo => ?_)
      · show (R j).Token_Next = -1 ↔ (-1 : Int) = -1
        simp [hid.1]
      · intro x hx
        simp at hx; subst hx
        exact ⟨MOK.request hj htk hj hjt hjt hv.lo hv.hi (by rw [upd_at]; exact Int.le_refl _) (by rw [upd_at]; exact Int.le_refl _) (Int.le_trans hEt (upd_mono (by exact Int.le_refl _) t)), by rw [mkm_kind]; decide⟩
      · have : tk { R j with Token_Want := true, Token_Last := -1 } e = tk (R j) e := rfl
        rw [noTok j t _ (by rw [mkm_kind]; decide), this]; simp
      · rw [oneMe j t _ rfl, mkm_epoch, mkm_site, Int.toNat_natCast]
        have e1 : le1 { R j with Token_Want := true, Token_Last := -1 } j e = [] := by unfold le1; simp
        have e2 : le1 (R j) j e = if (R j).Epoch = e then [(j, t)] else [] := by
          unfold le1
          rw [ht, Int.toNat_natCast]
          by_cases he : (R j).Epoch = e
          · rw [if_pos ⟨he, by omega⟩, if_pos he]
          · rw [if_neg (fun c => he c.1), if_neg he]
        rw [e1, List.nil_append]
        rw [e2] at hfo
        exact hfo
theorem mem_promises {j : Nat} {e : Int} {k : Nat} (x : Nat × Nat × S57) : x ∈ outS j ((List.range' 0 k).flatMap (proms1 j e)) ↔ ∃ a : Nat, a < k ∧ a ≠ j ∧ x = (j, a, mkm a 14 e 0) := by
  unfold outS
  simp only [List.mem_map, List.mem_flatMap, List.mem_range'_1]
  constructor
  · rintro ⟨p, ⟨a, ⟨_, ha⟩, hp⟩, rfl⟩
    unfold proms1 at hp
    split at hp
    · simp at hp
    · rename_i hne
      simp at hp; subst hp
      refine ⟨a, by omega, by omega, ?_⟩
      show (j, Int.toNat (a : Int), _) = _
      rw [Int.toNat_natCast]; rfl
  · rintro ⟨a, ha, hne, rfl⟩
    refine ⟨pst a 14 e 0, ⟨a, ⟨by omega, by omega⟩, ?_⟩, ?_⟩
    · unfold proms1; rw [if_neg (by omega)]; simp
    · show (j, Int.toNat (a : Int), _) = _
      rw [Int.toNat_natCast]; rfl
/-- Nobody knows a new epoch's token. -/
theorem Inv.fresh0 {k : Nat} {B : Int} {R : Sites} {b : Msgs} {D : Ghosts} (h : Inv k B R b D) {j : Nat} (hj : j < k) {e : Int} (he : (R j).Epoch < e) (hm : e % (k : Int) = j) : cnt k R b e = 0 := by
  unfold cnt
  have h1 : (List.range k).countP (fun i => tk (R i) e) = 0 := by
    rw [List.countP_eq_zero]
    intro i hi
    rw [List.mem_range] at hi
    unfold tk
    intro hc
    simp only [Bool.and_eq_true, Bool.or_eq_true, decide_eq_true_eq] at hc
    rcases hc with ⟨hc | hc, hE⟩
    · have := h.has i hi hc j hj; omega
    · have h2 := (h.ask i hi hc).1
      rw [hE, hm] at h2
      have : i = j := by omega
      subst this; omega
  have h2 : b.countP (tkm e) = 0 := by
    rw [List.countP_eq_zero]
    intro x hx
    unfold tkm
    intro hc
    simp only [Bool.and_eq_true, decide_eq_true_eq] at hc
    have := (h.msg x hx).tok hc.1 j hj
    omega
  rw [h1, h2]
theorem Inv.begin {k : Nat} {B : Int} {R : Sites} {b : Msgs} {D : Ghosts} (h : Inv k B R b D) {j : Nat} (hj : j < k) {e : Int} (he : (R j).Epoch < e) (he4 : e ≤ (R j).Epoch + 4) (hm : e % (k : Int) = j) (hB : B + 4 ≤ 1073741824) :
    Inv k (B + 4) (upd R j (beginS (R j) j k e).1) (b ++ outS j (beginS (R j) j k e).2) D := by
  have hv := h.val j hj
  have hEB := h.ep j hj
  have hlo := hv.lo
  have hcz := h.fresh0 hj he hm
  have hcn : ∀ (r' : S37) (out : Msgs), r'.Epoch = e → (∀ e', out.countP (tkm e') = 0) → ∀ e' N, N + ((bif tk (R j) e' then 1 else 0) + ([] : Msgs).countP (tkm e')) = cnt k R b e' → N + ((bif tk r' e' then 1 else 0) + out.countP (tkm e')) ≤ 1 := by
    intro r' out hr' ho e' N hN
    rw [ho e']
    by_cases h1 : e' = e
    · subst h1
      have : (bif tk r' e' then 1 else 0) ≤ 1 := by cases tk r' e' <;> simp
      omega
    · have h2 : tk r' e' = false := by unfold tk; rw [hr']; simp; exact fun _ x => h1 x.symm
      rw [h2]
      have := h.cn e'
      simp; omega
  unfold beginS
  by_cases hk1 : k = 1
  · rw [if_pos hk1]
    have hj0 : j = 0 := by omega
    have hall : ∀ (r' : S37), r'.Epoch = e → ∀ a, a < k → r'.Epoch ≤ (upd R j r' a).Epoch := fun r' hr a hak => by
      have : a = j := by omega
      subst this; rw [upd_at]; exact Int.le_refl _
    have huse : ∀ (r' : S37) (b' : Msgs), r'.Epoch = e → Used k (upd R j r') b' r'.Epoch := fun r' b' hr a hak => .inl (hall r' hr a hak)
    have fin : ∀ (r' : S37), r'.Epoch = e → r'.Lost = false → r'.Asking = false → r'.Promised = [] → TokV r' j k → r'.Token_Last = -1 → Inv k (B + 4) (upd R j r') (b ++ []) D := fun r' hr hlo' hask hpro htok hlast => by
      refine h.step hj (hb_nil b) (dd := []) (by omega) ⟨by omega, by omega, .inr (.inr ⟨hlo', hask, hpro, htok⟩)⟩ (by omega) (by omega) (by simp) (by simp) (by simp) (.inr (huse r' _ hr)) (hcn r' [] hr (fun _ => rfl)) (fun _ => hall r' hr) (fun c => by rw [hask] at c; cases c) (fun c => absurd hlast c) (by simp) (fun e' rest _ hfo => ?_)
      have : le1 r' j e' = [] := by unfold le1; rw [if_neg (fun c => c.2 hlast)]
      rw [this]
      exact forest_drop hfo
    rcases thereS_cases (askS (R j) j k e) with ⟨hw, hc⟩ | ⟨hw, hn, hc⟩ | ⟨hw, hn, hc⟩
    · rw [hc]
      exact fin _ rfl rfl rfl rfl ⟨fun c => absurd rfl c, fun c => absurd rfl c, fun _ => rfl, fun c => (by cases c), fun c => (by cases c), fun _ => Iff.rfl⟩ rfl
    · rw [hc]
      refine fin _ rfl rfl rfl rfl ⟨fun c => absurd rfl c, fun c => absurd rfl c, fun _ => rfl, fun c => ?_, fun _ _ => ⟨rfl, ⟨fun _ => rfl, fun _ => rfl⟩⟩, fun c => ?_⟩ rfl
      · rw [show (askS (R j) j k e).Token_Want = true from c] at hw; cases hw
      · rcases c with c | c
        · cases c
        · rw [show (askS (R j) j k e).Token_Want = true from c] at hw; cases hw
    · exact absurd rfl hn
  · rw [if_neg hk1]
    have h0 : ∀ e', (outS j ((List.range' 0 k).flatMap (proms1 j e))).countP (tkm e') = 0 := fun e' => by
      rw [List.countP_eq_zero]
      intro x hx
      obtain ⟨a, _, _, rfl⟩ := (mem_promises x).mp hx
      simp [tkm, mkm_kind]
    have hme : ∀ e', (outS j ((List.range' 0 k).flatMap (proms1 j e))).flatMap (me e') = [] := fun e' => by
      rw [List.flatMap_eq_nil_iff]
      intro x hx
      obtain ⟨a, _, _, rfl⟩ := (mem_promises x).mp hx
      simp [me, mkm_kind]
    have hused : Used k (upd R j (askS (R j) j k e)) (b ++ outS j ((List.range' 0 k).flatMap (proms1 j e))) e := fun a hak => by
      by_cases ha : a = j
      · subst ha; left; rw [upd_at]; exact Int.le_refl _
      · exact .inr ⟨(j, a, mkm a 14 e 0), List.mem_append_right _ ((mem_promises _).mpr ⟨a, hak, ha, rfl⟩), rfl, rfl, rfl⟩
    have hjk : (Int.toNat (j : Int)) = j := Int.toNat_natCast j
    refine h.step hj (hb_nil b) (dd := []) (by omega) ⟨by show 0 ≤ e; omega, by show e ≤ _; omega, .inr (.inl ⟨rfl, rfl, by show ((((List.replicate k false).set _ true).length : Nat) : Int) = k; simp, ?_, ?_, rfl, rfl, .inl ⟨rfl, rfl⟩⟩)⟩ (by show _ ≤ e; omega) (by show e ≤ _; omega) ?_ ?_ (by simp) (.inr hused) (hcn _ _ rfl h0) (fun c => (by cases c)) (fun _ => ⟨hm, fun a hak hp => ?_⟩) (fun c => absurd rfl c) (by simp) (fun e' rest _ hfo => ?_)
    · show ((List.replicate k false).set _ true)[_]? = some true
      rw [List.getElem?_set_self (by simp; omega)]
    · show false ∈ (List.replicate k false).set (Int.toNat (j : Int)) true
      rw [hjk]
      have : ∃ a, a < k ∧ a ≠ j := by
        rcases Nat.eq_zero_or_pos j with h | h
        · exact ⟨1, by omega, by omega⟩
        · exact ⟨0, by omega, by omega⟩
      obtain ⟨a, ha, hne⟩ := this
      have h2 : ((List.replicate k false).set j true)[a]? = some false := by
        rw [List.getElem?_set_ne (Ne.symm hne)]; simp [ha]
      exact List.mem_of_getElem? h2
    · intro x hx
      obtain ⟨a, ha, hne, rfl⟩ := (mem_promises x).mp hx
      exact ⟨hj, ha, Ne.symm hne, ⟨.inr (.inr (.inl rfl)), fun c => by simp [mkm, toMsg, pst] at c, by show 0 ≤ e; omega, by show e ≤ _; omega⟩, by rw [upd_at]; exact Int.le_refl _, fun c => by simp [mkm, toMsg, pst] at c, fun c => by simp [mkm, toMsg, pst] at c, fun c => by simp [mkm, toMsg, pst] at c⟩
    · intro x hx _
      obtain ⟨a, ha, hne, rfl⟩ := (mem_promises x).mp hx
      exact hused
    · have hp' : ((List.replicate k false).set (Int.toNat (j : Int)) true)[a]? = some true := hp
      rw [hjk] at hp'
      by_cases haj : a = j
      · subst haj; rw [upd_at]; exact Int.le_refl _
      · rw [List.getElem?_set_ne (Ne.symm haj)] at hp'
        simp [hak] at hp'
    · have : le1 (askS (R j) j k e) j e' = [] := by unfold le1; rw [if_neg (fun c => c.2 rfl)]
      rw [this, hme]
      exact forest_drop hfo
end Go.Abs.Rg
end
section
set_option linter.all false
set_option linter.unusedVariables false
set_option linter.unusedSimpArgs false
set_option linter.unnecessarySimpa false
/-
  Regen: what always holds, of the cluster.
-/
namespace Go.Abs.Rg
open Go Go.Abs Go.G28 Go.Abs.AbsP28

def at_ (rs : List S37) : Sites := fun i => rs.getD i zr
theorem at_set {rs : List S37} {j : Nat} (hj : j < rs.length) (r : S37) : at_ (rs.set j r) = upd (at_ rs) j r := by
  funext i
  unfold at_ upd
  rw [List.getD_eq_getElem?_getD]
  by_cases h : i = j
  · subst h; rw [List.getElem?_set_self hj, if_pos rfl]; rfl
  · rw [List.getElem?_set_ne (Ne.symm h), if_neg h, ← List.getD_eq_getElem?_getD]
structure CI (k : Nat) (B : Int) (L : Nat) (rs : List S37) (up : List Bool) (ml : Mail) (D : Ghosts) : Prop where
  k1 : 1 ≤ k
  k4 : k ≤ 4
  rl : rs.length = k
  ul : up.length = k
  dim : Dim k ml
  len : (bag ml).length ≤ L
  inv : Inv k B (at_ rs) (bag ml) D
theorem CI.ok {k : Nat} {B : Int} {L : Nat} {rs : List S37} {up : List Bool} {ml : Mail} {D : Ghosts} (h : CI k B L rs up ml D) (hB : B ≤ 1000000000) (hL : L ≤ 900000) : Ok k rs up ml where
  k1 := h.k1
  k4 := h.k4
  rl := h.rl
  ul := h.ul
  dim := h.dim
  few := fun i j => by have := bag_len h.dim (i := i) (j := j); have := h.len; omega
  val := h.inv.val
  ep := fun i hi => Int.le_trans (h.inv.ep i hi) hB
  msg := fun i j hi hj m hm => by
    have := h.inv.msg _ (bag_mem h.dim hi hj hm)
    exact ⟨this.ij, this.ok⟩
theorem CI.uniq {k : Nat} {B : Int} {L : Nat} {rs : List S37} {up : List Bool} {ml : Mail} {D : Ghosts} (h : CI k B L rs up ml D) (i j : Nat) (hi : i < k) (hj : j < k) (h1 : (rs.getD i zr).Token_Has = true) (h2 : (rs.getD j zr).Token_Has = true) : i = j := by
  have e1 := h.inv.has i hi h1 j hj
  have e2 := h.inv.has j hj h2 i hi
  have e3 : (at_ rs i).Epoch = (at_ rs j).Epoch := by omega
  by_cases hij : i = j
  · exact hij
  · exfalso
    have hc := h.inv.cn (at_ rs i).Epoch
    unfold cnt at hc
    rw [(range_split hi).countP_eq, List.countP_cons] at hc
    have t1 : tk (at_ rs i) (at_ rs i).Epoch = true := by rw [tk_yes (r := at_ rs i) (.inl h1)]; simp
    have t2 : tk (at_ rs j) (at_ rs i).Epoch = true := by rw [tk_yes (r := at_ rs j) (.inl h2)]; simp [e3]
    have : 0 < ((List.range k).filter (fun x => x != i)).countP (fun x => tk (at_ rs x) (at_ rs i).Epoch) := by
      rw [List.countP_pos_iff]
      exact ⟨j, List.mem_filter.mpr ⟨List.mem_range.mpr hj, by simpa using Ne.symm hij⟩, t2⟩
    rw [if_pos t1] at hc
    omega
theorem Inv.mono {k : Nat} {B B' : Int} {R : Sites} {b : Msgs} {D : Ghosts} (h : Inv k B R b D) (hB : B ≤ B') : Inv k B' R b D :=
  ⟨h.val, fun i hi => Int.le_trans (h.ep i hi) hB, h.msg, h.cn, h.has, h.ask, h.last, h.used, h.usedm, h.gh, h.forest⟩
theorem CI.mono {k : Nat} {B B' : Int} {L L' : Nat} {rs : List S37} {up : List Bool} {ml : Mail} {D : Ghosts} (h : CI k B L rs up ml D) (hB : B ≤ B') (hL : L ≤ L') : CI k B' L' rs up ml D :=
  ⟨h.k1, h.k4, h.rl, h.ul, h.dim, Nat.le_trans h.len hL, h.inv.mono hB⟩
theorem outS_len (j : Nat) (l : List S64) : (outS j l).length = l.length := by unfold outS; simp
/-- A site acts. -/
theorem CI.act {k : Nat} {B B' : Int} {L : Nat} {rs : List S37} {up up' : List Bool} {ml : Mail} {D D' : Ghosts} (h : CI k B L rs up ml D) {j : Nat} (hj : j < k) {r : S37} {l : List S64} (hl : l.length ≤ 3) (hu : up'.length = k) (hto : ∀ p ∈ l, oth p.To j k)
    (hi : Inv k B' (upd (at_ rs) j r) (bag ml ++ outS j l) D') : CI k B' (L + 3) (rs.set j r) up' (takeM ml j l) D' := by
  have hp := bag_take hj l h.dim hto
  refine ⟨h.k1, h.k4, by simp [h.rl], hu, take_dim l h.dim, ?_, ?_⟩
  · rw [hp.length_eq, List.length_append, outS_len]; have := h.len; omega
  · rw [at_set (by rw [h.rl]; exact hj)]
    exact hi.perm hp.symm
theorem at_dRs {k : Nat} {rs : List S37} (hrl : rs.length = k) {i j : Nat} (hj : j < k) (m : S57) : at_ (dRs rs i j m) = hearR (at_ rs) i j m := by
  unfold dRs hearR
  show at_ (if (hearS (at_ rs j) j i m).2.2 = 0 then _ else _) = _
  split
  · exact at_set (by omega) _
  · rfl
theorem CI.deliver {k : Nat} {B : Int} {L : Nat} {rs : List S37} {up : List Bool} {ml : Mail} {D : Ghosts} (h : CI k B L rs up ml D) {i j : Nat} (hi : i < k) (hj : j < k) {m : S57} {q : List S57} (hq : qS ml i j = m :: q) :
    CI k B (L + 1) (dRs rs i j m) up (dMl rs ml i j m q) (ghH (at_ rs j) j m ++ D) ∧ (bag ml).Perm ((i, j, m) :: bag (putS ml i j q)) ∧ (bag (dMl rs ml i j m q)).Perm (bag (putS ml i j q) ++ outS j (hearS (at_ rs j) j i m).2.1) := by
  have hb := bag_pop h.dim hi hj hq
  have hm := h.inv.msg (i, j, m) (hb.mem_iff.mpr (by simp))
  have ho : oth (i : Int) j k := by have : i ≠ j := hm.ij; exact ⟨by omega, by omega, by omega⟩
  have hp := bag_take hj (hearS (at_ rs j) j i m).2.1 (h.dim.put i j q) (fun p hp => hear_to (h.inv.val j hj) ho hm.ok p hp)
  have hl := hear_len (at_ rs j) j i m
  refine ⟨⟨h.k1, h.k4, ?_, h.ul, take_dim _ (h.dim.put i j q), ?_, ?_⟩, hb, hp⟩
  · unfold dRs; split <;> simp [h.rl]
  · have e1 := hp.length_eq
    have e2 := hb.length_eq
    rw [List.length_append, outS_len] at e1
    have e3 : (bag (dMl rs ml i j m q)).length = (bag (takeM (putS ml i j q) j (hearS (at_ rs j) j i m).2.1)).length := rfl
    simp only [List.length_cons] at e2
    have := h.len
    omega
  · rw [at_dRs h.rl hj]
    exact (h.inv.hear hb).perm hp.symm
theorem CI.step {k : Nat} {B : Int} {L : Nat} {rs rs' : List S37} {up up' : List Bool} {ml ml' : Mail} {D : Ghosts} (h : CI k B L rs up ml D) (hB : B ≤ 1000000000) (hs : StepR k rs up ml rs' up' ml') : ∃ D', CI k (B + 4) (L + 3) rs' up' ml' D' := by
  cases hs with
  | same => exact ⟨D, h.mono (by omega) (by omega)⟩
  | crash i hi => exact ⟨D, CI.mono ⟨h.k1, h.k4, h.rl, by simp [h.ul], h.dim, h.len, h.inv⟩ (by omega) (by omega)⟩
  | start i hi => exact ⟨D, (h.act hi (l := []) (by simp) (by simp [h.ul]) (by simp) (h.inv.start hi)).mono (by omega) (Nat.le_refl _)⟩
  | deliver i j m q hi hj hq => exact ⟨_, (h.deliver hi hj hq).1.mono (by omega) (by omega)⟩
  | begin i e hi he he4 hm =>
    refine ⟨D, h.act hi ?_ h.ul (fun p hp => begin_to p hp) (h.inv.begin hi he he4 hm (by omega))⟩
    unfold beginS
    split
    · unfold thereS; repeat' split
      all_goals simp
    · have := begin_len (rs.getD i zr) i k e
      rename_i hk1
      unfold beginS at this
      rw [if_neg hk1] at this
      have hk4 := h.k4
      by_cases hk : k ≤ 3
      · exact Nat.le_trans this hk
      · have : k = 4 := by omega
        subst this
        have hi4 : i = 0 ∨ i = 1 ∨ i = 2 ∨ i = 3 := by omega
        rcases hi4 with rfl | rfl | rfl | rfl <;> exact Nat.le_refl _
  | done i hi hu => exact ⟨D, (h.act hi (by unfold doneS; split <;> simp) h.ul (fun p hp => done_to (h.inv.val i hi) p hp) (h.inv.done hi hu)).mono (by omega) (Nat.le_refl _)⟩
  | want i hi hl hu hw => exact ⟨D, (h.act hi (by unfold wantS; (repeat' split) <;> simp) h.ul (fun p hp => want_to (h.inv.val i hi) hl hu hw p hp) (h.inv.want hi hl hu hw)).mono (by omega) (Nat.le_refl _)⟩
end Go.Abs.Rg
end
section
set_option linter.all false
set_option linter.unusedVariables false
set_option linter.unusedSimpArgs false
set_option linter.unnecessarySimpa false
/-
  Regen: the play.
-/
namespace Go.Abs.Rg
open Go Go.Abs Go.G28 Go.Abs.AbsP28

theorem F12_eq (n : Nat) (x m : Int) (h1 : 1 ≤ m) (h2 : m ≤ 2147483648) : F12 n x m = some (x % m) := by
  unfold F12
  have d1 : decide (m < 1) = false := by simp; omega
  have d2 : (m == 0) = false := by simp; omega
  simp only [d1, d2, cond_false]
  have a1 := Int.emod_nonneg x (show m ≠ 0 by omega)
  have a2 := Int.emod_lt_of_pos x (show 0 < m by omega)
  rcases Int.lt_or_le x 0 with hx | hx
  · by_cases hd : Int.tmod x m = 0
    · have : x % m = 0 := by
        have := Int.dvd_of_tmod_eq_zero hd
        exact Int.emod_eq_zero_of_dvd this
      rw [hd, this]; rfl
    · have h3 : Int.tmod x m = x % m - m := by
        rw [Int.tmod_eq_emod]
        have hnd : ¬ m ∣ x := fun h => hd (Int.tmod_eq_zero_of_dvd h)
        rw [if_neg (by simp [hnd]; omega)]
        omega
      rw [h3]
      have d3 : decide (x % m - m < 0) = true := by simp; omega
      rw [d3, cond_true, w64 (by omega)]
      congr 1; omega
  · rw [Int.tmod_eq_emod_of_nonneg hx]
    have d3 : decide (x % m < 0) = false := by simp; omega
    rw [d3, cond_false]
/-- The next number. -/
theorem F18_eq (n : Nat) (m : Int) (h1 : 1 ≤ m) (h2 : m ≤ 2147483648) (l : List Int) (hl : l.length ≤ 1000) (t : Nat) (ht : t ≤ l.length) :
    ∃ v t', F18 n m l (t : Int) = some (v, (l, ((t' : Nat) : Int))) ∧ 0 ≤ v ∧ v < m ∧ t' ≤ l.length ∧ (t < l.length → t' = t + 1) ∧ (t = l.length → t' = t) := by
  unfold F18
  by_cases h : t < l.length
  · have d : decide ((t : Int) ≥ (l.length : Int)) = false := by simp; omega
    have e : IntKind.wrap .i64 (IntKind.wrap .i64 ((t : Int) + 1) - 1) = (t : Int) := by rw [w64s t (by omega), w64 (by omega)]; omega
    refine ⟨l[t] % m, t + 1, ?_, Int.emod_nonneg _ (by omega), Int.emod_lt_of_pos _ (by omega), by omega, fun _ => rfl, fun h => by omega⟩
    rw [d, cond_false, e, ixo_nat (List.getElem?_eq_getElem h), Option.bind_some, F12_eq n _ m h1 h2, Option.bind_some, w64s t (by omega)]
  · have d : decide ((t : Int) ≥ (l.length : Int)) = true := by simp; omega
    refine ⟨0, t, ?_, Int.le_refl _, by omega, ht, fun h' => absurd h' h, fun _ => rfl⟩
    rw [d, cond_true]
theorem tmod_lt {v : Int} {k : Nat} (h0 : 0 ≤ v) (hk : 1 ≤ k) : ∃ i : Nat, i < k ∧ Int.tmod v (k : Int) = (i : Int) := by
  rw [Int.tmod_eq_emod_of_nonneg h0]
  have a1 := Int.emod_nonneg v (show (k : Int) ≠ 0 by omega)
  have a2 := Int.emod_lt_of_pos v (show 0 < (k : Int) by omega)
  obtain ⟨i, hi⟩ := Int.eq_ofNat_of_zero_le a1
  exact ⟨i, by omega, hi⟩
theorem L8_1_eq (n : Nat) (hn : 5000 ≤ n) (k : Nat) (l : List Int) (hl : l.length ≤ 400) :
    ∀ (d s t f : Nat) (rs : List S37) (up : List Bool) (ml : Mail) (D : Ghosts), t ≤ l.length → l.length - t ≤ d → d < f → (3 * s ≤ t ∨ t = l.length) → s ≤ 134 → CI k (4 * (s : Int)) (3 * s) rs up ml D →
    ∃ rs' up' ml' D', iter (U8_1 n) f (k, ((l, ((t : Nat) : Int)), (ml, (rs, up)))) = some (.inl (k, (ml', (rs', up')))) ∧ CI k 536 402 rs' up' ml' D' := by
  intro d
  induction d with
  | zero =>
    intro s t f rs up ml D ht hd hf h3 hs hc
    obtain ⟨f, rfl⟩ := iter_exists (show 0 < f by omega)
    rw [iter_succ, U8_1.eq_1, S8_1.eq_1]
    have e1 : decide ((t : Int) < (l.length : Int)) = false := lt_f (by omega)
    simp only [F16, e1, Option.bind_some, cond_false]
    exact ⟨rs, up, ml, D, rfl, hc.mono (by omega) (by omega)⟩
  | succ d ih =>
    intro s t f rs up ml D ht hd hf h3 hs hc
    obtain ⟨f, rfl⟩ := iter_exists (show 0 < f by omega)
    rw [iter_succ, U8_1.eq_1, S8_1.eq_1]
    by_cases hlt : t < l.length
    · have e1 : decide ((t : Int) < (l.length : Int)) = true := lt_t hlt
      simp only [F16, e1, Option.bind_some, cond_true]
      obtain ⟨v0, t0, f0, a0, b0, c0, d0, x0⟩ := F18_eq n 10 (by omega) (by omega) l (by omega) t ht
      obtain ⟨v1, t1, f1, a1, b1, c1, d1, x1⟩ := F18_eq n 12 (by omega) (by omega) l (by omega) t0 c0
      obtain ⟨v2, t2, f2, a2, b2, c2, d2, x2⟩ := F18_eq n 12 (by omega) (by omega) l (by omega) t1 c1
      simp only [f0, f1, f2, Option.bind_some]
      have hok := hc.ok (by omega) (by omega)
      obtain ⟨i, hi, hi2⟩ := tmod_lt a1 hc.k1
      obtain ⟨j, hj, hj2⟩ := tmod_lt a2 hc.k1
      obtain ⟨rs', up', ml', e2, hst, _, _⟩ := F17_eq n hn hok v0 v1 v2 hi hj hi2 hj2
      obtain ⟨D', hc'⟩ := hc.step (by omega) hst
      have hok' := hc'.ok (by omega) (by omega)
      simp only [e2, Option.bind_some, bNot, Bool.not_true, cond_false, F19_eq n hn hok' hc'.uniq]
      have hs' : s + 1 ≤ 134 := by omega
      exact ih (s + 1) t2 f rs' up' ml' D' c2 (by omega) (by omega) (by omega) hs' (hc'.mono (by omega) (by omega))
    · have e1 : decide ((t : Int) < (l.length : Int)) = false := lt_f (by omega)
      simp only [F16, e1, Option.bind_some, cond_false]
      exact ⟨rs, up, ml, D, rfl, hc.mono (by omega) (by omega)⟩

/-! ### the start -/
theorem L8_0_eq (n : Nat) (k : Nat) (hk : 1 ≤ k) (hk4 : k ≤ 4) (l : List Int) : ∀ (d i f : Nat), i + d = k → d < f →
    iter (U8_0 n) f ((l, ((k : Int), (i : Int))), ((List.range i).map (fun a : Nat => newS (a : Int)), (List.replicate i true, List.replicate i (List.replicate k ([] : List S57))))) =
      some (.inl (l, ((List.range k).map (fun a : Nat => newS (a : Int)), (List.replicate k true, List.replicate k (List.replicate k ([] : List S57)))))) := by
  intro d
  induction d with
  | zero =>
    intro i f hi hf
    obtain ⟨f, rfl⟩ := iter_exists (show 0 < f by omega)
    rw [iter_succ, U8_0.eq_1, S8_0.eq_1]
    simp only [lt_f (show k ≤ i by omega), cond_false]
    have : i = k := by omega
    subst this; rfl
  | succ d ih =>
    intro i f hi hf
    obtain ⟨f, rfl⟩ := iter_exists (show 0 < f by omega)
    rw [iter_succ, U8_0.eq_1, S8_0.eq_1]
    have hp : Prop4 (i : Int) (k : Int) := ⟨by omega, by omega, by omega, by omega⟩
    have e0 : ((0 : Int) != 0) = false := rfl
    simp only [lt_t (show i < k by omega), cond_true, F14_eq n hp, Option.bind_some, e0, cond_false, w64s i (by omega), Int.toNat_natCast]
    rw [app_small (by simp; omega), app_small (by simp; omega), make_small (by omega), app_small (by simp; omega)]
    simp only [cond_true]
    have h1 : (List.range i).map (fun a : Nat => newS (a : Int)) ++ [newS (i : Int)] = (List.range (i + 1)).map (fun a : Nat => newS (a : Int)) := by rw [List.range_succ, List.map_append]; rfl
    have h2 : ∀ {α : Type} (x : α), List.replicate i x ++ [x] = List.replicate (i + 1) x := fun x => by rw [List.replicate_succ']
    rw [h1, h2, h2]
    exact ih (i + 1) f (by omega) (by omega)
theorem at_new {k i : Nat} (hi : i < k) : at_ ((List.range k).map (fun a : Nat => newS (a : Int))) i = newS (i : Int) := by
  unfold at_
  rw [List.getD_eq_getElem?_getD, List.getElem?_map, List.getElem?_range hi]; rfl
theorem flatRow_empty (i : Nat) : ∀ (c a : Nat), flatRow i a (List.replicate c ([] : List S57)) = [] := by
  intro c
  induction c with
  | zero => intro a; rfl
  | succ c ih => intro a; rw [List.replicate_succ]; simp only [flatRow]; rw [ih]; rfl
theorem bag_empty (k : Nat) : ∀ (c a : Nat), flatM a (List.replicate c (List.replicate k ([] : List S57))) = [] := by
  intro c
  induction c with
  | zero => intro a; rfl
  | succ c ih => intro a; rw [List.replicate_succ]; simp only [flatM]; rw [ih, flatRow_empty]; rfl
theorem forest_star : ∀ (l : List Nat), l.Nodup → (∀ x ∈ l, x ≠ 0) → Forest (l.map fun i => (i, 0)) := by
  intro l
  induction l with
  | nil => intro _ _; exact trivial
  | cons x l ih =>
    intro hn h0
    rw [List.nodup_cons] at hn
    refine forest_leaf (h0 x (by simp)) (fun y hy => ?_) (ih hn.2 fun y hy => h0 y (by simp [hy]))
    obtain ⟨z, hz, rfl⟩ := List.mem_map.mp hy
    exact ⟨fun e => hn.1 (by rw [← show z = x from e]; exact hz), fun e => h0 x (by simp) (show 0 = x from e).symm⟩
theorem start_inv {k : Nat} (hk : 1 ≤ k) (hk4 : k ≤ 4) : CI k 0 0 ((List.range k).map (fun a : Nat => newS (a : Int))) (List.replicate k true) (List.replicate k (List.replicate k ([] : List S57))) [] := by
  have hb : bag (List.replicate k (List.replicate k ([] : List S57))) = [] := bag_empty k k 0
  have hE : ∀ i : Nat, (newS (i : Int)).Epoch = 0 := fun i => by unfold newS; split <;> rfl
  have hA : ∀ i : Nat, (newS (i : Int)).Asking = false := fun i => by unfold newS; split <;> rfl
  refine ⟨hk, hk4, by simp, by simp, ⟨by simp, fun i hi => ?_⟩, by rw [hb]; simp, ?_⟩
  · rw [List.getD_eq_getElem?_getD, List.getElem?_replicate, if_pos hi]; simp
  · rw [hb]
    refine ⟨fun i hi => ?_, fun i hi => by rw [at_new hi, hE]; exact Int.le_refl _, by simp, fun e => ?_, fun i hi _ j hj => by rw [at_new hi, at_new hj, hE, hE]; exact Int.le_refl _, fun i hi ha => (by rw [at_new hi, hA] at ha; cases ha), fun i hi hl => ?_, fun i hi a ha => .inl (by rw [at_new hi, at_new ha, hE, hE]; exact Int.le_refl _), by simp, by simp, fun e => ?_⟩
    · rw [at_new hi]
      refine ⟨by rw [hE]; exact Int.le_refl _, by rw [hE]; omega, .inr (.inr ?_)⟩
      unfold newS
      by_cases h : (i : Int) = 0
      · rw [if_pos h]
        exact ⟨rfl, rfl, rfl, ⟨fun c => absurd rfl c, fun c => absurd rfl c, fun _ => rfl, fun c => (by cases c), fun _ _ => ⟨rfl, ⟨fun _ => rfl, fun _ => rfl⟩⟩, fun _ => Iff.rfl⟩⟩
      · rw [if_neg h]
        exact ⟨rfl, rfl, rfl, ⟨fun _ => ⟨Int.le_refl _, by show (0 : Int) < k; omega, fun c => h c.symm⟩, fun c => absurd rfl c, fun c => (by cases c), fun c => (by cases c), fun _ _ => ⟨rfl, ⟨fun c => (by cases c), fun c => (by cases c)⟩⟩, fun c => (by rcases c with c | c <;> cases c)⟩⟩
    · unfold cnt
      obtain ⟨c, rfl⟩ : ∃ c, k = c + 1 := ⟨k - 1, by omega⟩
      have h0 : ((List.range c).map Nat.succ).countP (fun i => tk (at_ ((List.range (c + 1)).map (fun a : Nat => newS (a : Int))) i) e) = 0 := by
        rw [List.countP_eq_zero]
        intro i hi
        obtain ⟨a, ha, rfl⟩ := List.mem_map.mp hi
        rw [List.mem_range] at ha
        rw [at_new (by omega)]
        have : newS ((a.succ : Nat) : Int) = S37.mk 0 false false [] false false false 0 (-1) := by unfold newS; rw [if_neg (by omega)]
        rw [this]; simp [tk]
      rw [List.range_succ_eq_map, List.countP_cons, ← List.range_succ_eq_map, h0]
      simp
      split <;> omega
    · rw [at_new hi] at hl ⊢
      have h0 : ∀ a : Nat, (at_ ((List.range k).map (fun a : Nat => newS (a : Int))) 0).Epoch = 0 := fun _ => by rw [at_new (by omega), hE]
      have : (newS (i : Int)).Token_Last.toNat = 0 := by unfold newS; split <;> rfl
      rw [this, h0 0, hE]; exact Int.le_refl _
    · unfold edges
      rw [List.flatMap_nil, List.flatMap_nil, List.append_nil, List.append_nil]
      have h1 : (List.range k).flatMap (fun i => le1 (at_ ((List.range k).map (fun a : Nat => newS (a : Int))) i) i e) = (List.range k).flatMap (fun i => if e = 0 ∧ i ≠ 0 then [(i, 0)] else []) := by
        apply flatMap_congr'
        intro i hi
        rw [List.mem_range] at hi
        rw [at_new hi]
        unfold le1 newS
        by_cases h : i = 0
        · subst h; simp
        · rw [if_neg (show ¬ (i : Int) = 0 by omega)]
          by_cases he : e = 0
          · subst he; simp [h]
          · rw [if_neg (fun c => he c.1.symm), if_neg (fun c => he c.1)]
      rw [h1]
      by_cases he : e = 0
      · subst he
        have : ∀ l : List Nat, l.flatMap (fun i => if (0 : Int) = 0 ∧ i ≠ 0 then [(i, 0)] else []) = (l.filter (fun i => i != 0)).map (fun i => (i, 0)) := by
          intro l
          induction l with
          | nil => rfl
          | cons x l ih =>
            rw [List.flatMap_cons, ih]
            by_cases h : x = 0
            · subst h; simp
            · simp [h]
        rw [this]
        exact forest_star _ (List.nodup_range.filter _) (fun x hx => by have := (List.mem_filter.mp hx).2; simpa using this)
      · have : ∀ l : List Nat, l.flatMap (fun i => if e = 0 ∧ i ≠ 0 then [(i, 0)] else []) = ([] : Edges) := by
          intro l
          rw [List.flatMap_eq_nil_iff]
          intro x _
          rw [if_neg (fun c => he c.1)]
        rw [this]; exact trivial
/-- The play is played. -/
theorem F8_eq (n : Nat) (hn : 5000 ≤ n) (l : List Int) (hl : l.length ≤ 400) {k : Nat} (hk : 1 ≤ k) (hk4 : k ≤ 4) :
    ∃ rs up ml D, F8 n l (k : Int) = some (true, (k, (rs, (up, ml)))) ∧ CI k 536 402 rs up ml D := by
  have h0 := L8_0_eq n k hk hk4 l k 0 n (by omega) (by omega)
  obtain ⟨rs, up, ml, D, h1, h2⟩ := L8_1_eq n hn k l hl 400 0 0 n _ _ _ [] (by omega) (by omega) (by omega) (.inl (by omega)) (by omega) (start_inv hk hk4)
  refine ⟨rs, up, ml, D, ?_, h2⟩
  have z : ((0 : Nat) : Int) = (0 : Int) := rfl
  rw [z] at h0 h1
  have h0' : L8_0 n l (k : Int) 0 [] [] [] = some (.inl (l, ((List.range k).map (fun a : Nat => newS (a : Int)), (List.replicate k true, List.replicate k (List.replicate k ([] : List S57)))))) := h0
  unfold F8
  rw [h0', Option.bind_some]
  simp only [Sum.elim_inl, List.length_replicate]
  unfold L8_1
  rw [h1]
  rfl
theorem awake : F7 100000 () = some true := by kernel_rfl
end Go.Abs.Rg
end
