/- The law, plain. -/
import Derived.Test.YtehaojgljahjbaaStepsB
section
set_option linter.all false
set_option linter.unusedVariables false
set_option linter.unusedSimpArgs false
set_option linter.unnecessarySimpa false
/-
  Regen: never two tokens.
-/
namespace Go.Abs.Rg
open Go Go.Abs Go.G28 Go.Abs.AbsP28

theorem u8_in {x : Int} (h : (Lit.int .u8 x).wf = true) : 0 ≤ x ∧ x ≤ 255 := by
  have := h
  simp [Lit.wf] at this
  have e1 : IntKind.u8.min = 0 := rfl
  have e2 : IntKind.u8.max = 255 := rfl
  omega
theorem lawOne (a0 : List Int) (a1 : Int) (h : (Lit.int .u8 a1).wf = true) : F3 100000 a0 a1 = some true := by
  have hr := u8_in h
  unfold F3 F6
  rw [Option.bind_some, awake, Option.bind_some]
  by_cases hl : a0.length ≤ 400
  · have d : decide ((a0.length : Int) ≤ 400) = true := by simp; omega
    have e4 : ((4 : Int) == 0) = false := rfl
    simp only [d, bNot, Bool.not_true, cond_false, e4]
    obtain ⟨k, hk, hk2⟩ : ∃ k : Nat, (1 ≤ k ∧ k ≤ 4) ∧ IntKind.wrap .i64 (1 + Int.tmod (IntKind.wrap .i64 a1) 4) = (k : Int) := by
      rw [w64 (by omega : -9223372036854775808 ≤ a1 ∧ a1 ≤ 9223372036854775807), Int.tmod_eq_emod_of_nonneg hr.1, w64 (by omega)]
      exact ⟨(1 + a1 % 4).toNat, by omega, by omega⟩
    obtain ⟨rs, up, ml, D, h1, _⟩ := F8_eq 100000 (by omega) a0 hl hk.1 hk.2
    rw [hk2, h1]
    rfl
  · have d : decide ((a0.length : Int) ≤ 400) = false := by simp; omega
    simp [d, bNot]
end Go.Abs.Rg
end
section
set_option linter.all false
set_option linter.unusedVariables false
set_option linter.unusedSimpArgs false
set_option linter.unnecessarySimpa false
/-
  Regen: how long messages may go on.
-/
namespace Go.Abs.Rg
open Go Go.Abs Go.G28

/-- Without this edge, they are not connected. -/
def far (E : Edges) (f : Nat × Nat) (v : Nat) : Prop := ∃ p : Nat → Int, (∀ x ∈ E, x ≠ f → p x.1 = p x.2) ∧ p f.1 ≠ p v
noncomputable def nf (k : Nat) (E : Edges) (f : Nat × Nat) : Nat := (List.range k).countP (fun v => @decide (far E f v) (Classical.propDecidable _))
theorem nf_le {k : Nat} {E E' : Edges} {f f' : Nat × Nat} (h : ∀ v, far E' f' v → far E f v) : nf k E' f' ≤ nf k E f := by
  unfold nf
  apply List.countP_mono_left
  intro v _ hv
  simp only [decide_eq_true_eq] at hv ⊢
  exact h v hv
theorem nf_3 {k : Nat} (hk4 : k ≤ 4) {E : Edges} {f : Nat × Nat} (h : f.1 < k) : nf k E f ≤ 3 := by
  unfold nf
  rw [(range_split h).countP_eq, List.countP_cons]
  have h1 : ¬ far E f f.1 := fun ⟨p, _, h2⟩ => h2 rfl
  have h2 := (range_split h).length_eq
  simp only [List.length_range, List.length_cons] at h2
  have h3 := List.countP_le_length (p := fun v => @decide (far E f v) (Classical.propDecidable _)) (l := (List.range k).filter (fun i => i != f.1))
  simp only [decide_eq_true_eq, h1, if_false]
  omega
theorem nf_lt {k : Nat} {E E' : Edges} {f f' : Nat × Nat} (h : ∀ v, far E' f' v → far E f v) {i : Nat} (hi : i < k) (h1 : far E f i) (h2 : ¬ far E' f' i) : nf k E' f' + 1 ≤ nf k E f := by
  unfold nf
  rw [(range_split hi).countP_eq, List.countP_cons, (range_split hi).countP_eq, List.countP_cons]
  have : ((List.range k).filter (fun x => x != i)).countP (fun v => @decide (far E' f' v) (Classical.propDecidable _)) ≤ ((List.range k).filter (fun x => x != i)).countP (fun v => @decide (far E f v) (Classical.propDecidable _)) := by
    apply List.countP_mono_left
    intro v _ hv
    simp only [decide_eq_true_eq] at hv ⊢
    exact h v hv
  simp only [decide_eq_true_eq, h1, h2, if_true, if_false]
  omega
def bn (b : Bool) (n : Nat) : Nat := bif b then n else 0
def ws (r : S37) : Nat := bn r.Token_Has 1 + bn r.Asking 1 + bn r.Token_Want 2 + bn r.Token_Using 1
noncomputable def wm (k : Nat) (E : Int → Edges) (x : Nat × Nat × S57) : Nat :=
  if x.2.2.Kind = 14 then 6 else if x.2.2.Kind = 12 then 1 + nf k (E x.2.2.Epoch) (x.2.2.Site.toNat, x.2.1) else 1
noncomputable def mu (k : Nat) (R : Sites) (b : Msgs) (D : Ghosts) : Nat := ((List.range k).map (fun i => ws (R i))).sum + (b.map (wm k (edges k R b D))).sum
theorem sum_perm {l l' : List Nat} (h : l.Perm l') : l.sum = l'.sum := by
  induction h with
  | nil => rfl
  | cons x _ ih => simp [ih]
  | swap x y l => simp; omega
  | trans _ _ ih1 ih2 => exact ih1.trans ih2
theorem sum_le {α : Type} {l : List α} {f g : α → Nat} (h : ∀ x ∈ l, f x ≤ g x) : (l.map f).sum ≤ (l.map g).sum := by
  induction l with
  | nil => exact Nat.le_refl _
  | cons x l ih =>
    simp only [List.map_cons, List.sum_cons]
    have := h x (by simp)
    have := ih fun y hy => h y (by simp [hy])
    omega
theorem sites_split {k j : Nat} (hj : j < k) (R : Sites) (r' : S37) : ∃ N, ((List.range k).map (fun i => ws (R i))).sum = ws (R j) + N ∧ ((List.range k).map (fun i => ws (upd R j r' i))).sum = ws r' + N := by
  refine ⟨(((List.range k).filter (fun i => i != j)).map (fun i => ws (R i))).sum, ?_, ?_⟩
  · rw [sum_perm ((range_split hj).map _), List.map_cons, List.sum_cons]
  · rw [sum_perm ((range_split hj).map _), List.map_cons, List.sum_cons, upd_at]
    congr 2
    apply List.map_congr_left
    intro i hi
    rw [List.mem_filter] at hi
    rw [upd_ne]
    simpa using hi.2
theorem wm_le {k : Nat} {E E' : Int → Edges} {x : Nat × Nat × S57} (h : x.2.2.Kind = 12 → ∀ v, far (E' x.2.2.Epoch) (x.2.2.Site.toNat, x.2.1) v → far (E x.2.2.Epoch) (x.2.2.Site.toNat, x.2.1) v) : wm k E' x ≤ wm k E x := by
  unfold wm
  split
  · exact Nat.le_refl _
  · split
    · rename_i h12
      have := nf_le (k := k) (h h12)
      omega
    · exact Nat.le_refl _
/-- The edges keep what they connect. -/
def Keeps (E E' : Edges) (f : Nat × Nat) : Prop := ∀ p : Nat → Int, (∀ x ∈ E', x ≠ f → p x.1 = p x.2) → ∀ x ∈ E, x ≠ f → p x.1 = p x.2
theorem Keeps.far {E E' : Edges} {f : Nat × Nat} (h : Keeps E E' f) (v : Nat) : Rg.far E' f v → Rg.far E f v := fun ⟨p, h1, h2⟩ => ⟨p, h p h1, h2⟩
theorem Keeps.sub {E E' : Edges} {f : Nat × Nat} (h : ∀ x ∈ E, x ∈ E') : Keeps E E' f := fun p h1 x hx hne => h1 x (h x hx) hne
theorem mu_step {k : Nat} {R : Sites} {b xs bb out b' : Msgs} {D D' : Ghosts} {j : Nat} (hj : j < k) (hb : b.Perm (xs ++ bb)) (hb' : b'.Perm (bb ++ out)) {r' : S37}
    (hk : ∀ x ∈ bb, x.2.2.Kind = 12 → Keeps (edges k R b D x.2.2.Epoch) (edges k (upd R j r') b' D' x.2.2.Epoch) (x.2.2.Site.toNat, x.2.1))
    (hw : ws r' + (out.map (wm k (edges k (upd R j r') b' D'))).sum + 1 ≤ ws (R j) + (xs.map (wm k (edges k R b D))).sum) :
    mu k (upd R j r') b' D' + 1 ≤ mu k R b D := by
  obtain ⟨N, h1, h2⟩ := sites_split hj R r'
  unfold mu
  rw [h1, h2, sum_perm (hb.map _), sum_perm (hb'.map _), List.map_append, List.map_append, List.sum_append, List.sum_append]
  have h3 := sum_le (l := bb) (f := wm k (edges k (upd R j r') b' D')) (g := wm k (edges k R b D)) fun x hx => wm_le fun h12 v => (hk x hx h12).far v
  omega
/-- The measure does not grow beyond. -/
theorem mu_bound {k : Nat} (hk4 : k ≤ 4) {B : Int} {R : Sites} {b : Msgs} {D : Ghosts} (h : Inv k B R b D) : mu k R b D ≤ 12 + 6 * b.length := by
  unfold mu
  have h1 : ((List.range k).map (fun i => ws (R i))).sum ≤ ((List.range k).map (fun _ => 3)).sum := sum_le fun i hi => by
    rw [List.mem_range] at hi
    unfold ws
    rcases (h.val i hi).st with h1 | h1 | h1
    · rw [h1.has, h1.ask, h1.want, h1.us]; decide
    · rw [h1.has, h1.ask, h1.us]
      cases (R i).Token_Want <;> decide
    · have hu := h1.tok.us
      have hw := h1.tok.wa
      rw [h1.ask]
      revert hu hw
      cases (R i).Token_Want <;> cases (R i).Token_Using <;> cases (R i).Token_Has <;> intro hu hw <;> first | decide | (have := hw rfl; cases this; done) | (have := hu rfl; cases this; done)
  have h2 : (b.map (wm k (edges k R b D))).sum ≤ (b.map (fun _ => 6)).sum := sum_le fun x hx => by
    unfold wm
    split
    · exact Nat.le_refl _
    · split
      · rename_i h12
        have h3 := (h.msg x hx).ok.site h12
        have := nf_3 hk4 (E := edges k R b D x.2.2.Epoch) (f := (x.2.2.Site.toNat, x.2.1)) (by show x.2.2.Site.toNat < k; have := h3.1; have := h3.2.1; omega)
        omega
      · omega
  have h3 : ∀ l : List Nat, (l.map (fun _ => 3)).sum = 3 * l.length := fun l => by induction l with | nil => rfl | cons x l ih => simp [ih]; omega
  have h4 : (b.map (fun _ => 6)).sum = 6 * b.length := by
    clear h1 h2 h
    induction b with
    | nil => rfl
    | cons x l ih => simp [ih]; omega
  rw [h3, List.length_range] at h1
  rw [h4] at h2
  omega
/-- Every message counts. -/
theorem len_mu {k : Nat} {R : Sites} {b : Msgs} {D : Ghosts} : b.length ≤ mu k R b D := by
  unfold mu
  have h2 : (b.map (fun _ => 1)).sum ≤ (b.map (wm k (edges k R b D))).sum := sum_le fun x hx => by
    unfold wm
    split
    · omega
    · split <;> omega
  have h4 : (b.map (fun _ => 1)).sum = b.length := by
    clear h2
    induction b with
    | nil => rfl
    | cons x l ih => simp [ih]; omega
  omega
end Go.Abs.Rg
end
section
set_option linter.all false
set_option linter.unusedVariables false
set_option linter.unusedSimpArgs false
set_option linter.unnecessarySimpa false
/-
  Regen: every message that is heard, and every site that is done, brings the end nearer.
-/
namespace Go.Abs.Rg
open Go Go.Abs Go.G28

theorem edges_mem {k : Nat} {R : Sites} {b b' : Msgs} {D : Ghosts} {e : Int} (h : b.Perm b') (x : Nat × Nat) : x ∈ edges k R b D e ↔ x ∈ edges k R b' D e :=
  (List.Perm.append_left _ (List.Perm.append_right _ (h.flatMap_right _))).mem_iff
/-- No edge is lost. -/
theorem mu_sub {k : Nat} {R : Sites} {b xs bb out b' : Msgs} {D dd : Ghosts} {j : Nat} (hj : j < k) (hb : b.Perm (xs ++ bb)) (hb' : b'.Perm (bb ++ out)) {r' : S37}
    (hs : ∀ e, ∀ x ∈ le1 (R j) j e ++ xs.flatMap (me e), x ∈ le1 r' j e ++ (out.flatMap (me e) ++ dd.flatMap (de e)))
    (hw : ws r' + (out.map (wm k (edges k (upd R j r') b' (dd ++ D)))).sum + 1 ≤ ws (R j) + (xs.map (wm k (edges k R b D))).sum) :
    mu k (upd R j r') b' (dd ++ D) + 1 ≤ mu k R b D := by
  refine mu_step hj hb hb' (fun x hx _ => Keeps.sub fun y hy => ?_) hw
  obtain ⟨rest, h1, h2⟩ := edges_split R D x.2.2.Epoch hj hb
  rw [edges_mem hb', (h2 r' out dd).mem_iff]
  have h3 := h1.mem_iff.mp hy
  have h4 := hs x.2.2.Epoch y
  simp only [List.mem_append] at h3 h4 ⊢
  rcases h3 with h3 | h3 | h3
  · rcases h4 (.inl h3) with h | h | h
    · exact .inl h
    · exact .inr (.inl h)
    · exact .inr (.inr (.inl h))
  · rcases h4 (.inr h3) with h | h | h
    · exact .inl h
    · exact .inr (.inl h)
    · exact .inr (.inr (.inl h))
  · exact .inr (.inr (.inr h3))
theorem ghX_de (i j : Nat) (m : S57) (e : Int) : (ghX j m).flatMap (de e) = ([(i, j, m)] : Msgs).flatMap (me e) := by
  unfold ghX me
  by_cases hk : m.Kind = 12
  · by_cases he : m.Epoch = e
    · simp [hk, he, de]
    · simp [hk, he, de]
  · simp [hk]
theorem wm_pos {k : Nat} (E : Int → Edges) (x : Nat × Nat × S57) : 1 ≤ wm k E x := by
  unfold wm
  split
  · omega
  · split <;> omega
theorem wm_one {k : Nat} (E : Int → Edges) {x : Nat × Nat × S57} (h : x.2.2.Kind ≠ 14) (h2 : x.2.2.Kind ≠ 12) : wm k E x = 1 := by
  unfold wm
  rw [if_neg h, if_neg h2]
theorem wm_six {k : Nat} (E : Int → Edges) {x : Nat × Nat × S57} (h : x.2.2.Kind = 14) : wm k E x = 6 := by unfold wm; rw [if_pos h]
theorem wm_req {k : Nat} (E : Int → Edges) (j t : Nat) (a e s : Int) : wm k E (j, t, mkm a 12 e s) = 1 + nf k (E e) (s.toNat, t) := by
  unfold wm
  rw [if_neg (by rw [mkm_kind]; decide), if_pos (mkm_kind _ _ _ _)]
  rfl
/-- It is refused. -/
theorem mu_err {k : Nat} {R : Sites} {b bb b' : Msgs} {D : Ghosts} {i j : Nat} (hj : j < k) {m : S57} (hb : b.Perm ((i, j, m) :: bb)) (hb' : b'.Perm (bb ++ [])) : mu k R b' (ghX j m ++ D) + 1 ≤ mu k R b D := by
  have := mu_sub (xs := [(i, j, m)]) (out := []) (dd := ghX j m) (D := D) (R := R) (r' := R j) hj hb hb' (fun e x hx => by rw [ghX_de i]; simpa using hx) (by
    have := wm_pos (k := k) (edges k R b D) (i, j, m)
    simp; omega)
  rwa [upd_same] at this
/-- The site's path stays, and no request is sent or heard. -/
theorem mu_stay {k : Nat} {R : Sites} {b bb b' out : Msgs} {D : Ghosts} {i j : Nat} (hj : j < k) {m : S57} (hb : b.Perm ((i, j, m) :: bb)) (hb' : b'.Perm (bb ++ out)) (hk : m.Kind ≠ 12) {r' : S37}
    (hr : r'.Epoch = (R j).Epoch) (hl : r'.Token_Last = (R j).Token_Last) (hw : ws r' + (out.map (wm k (edges k (upd R j r') b' ([] ++ D)))).sum + 1 ≤ ws (R j) + 1) : mu k (upd R j r') b' D + 1 ≤ mu k R b D := by
  refine mu_sub (xs := [(i, j, m)]) (dd := []) hj hb hb' (fun e x hx => ?_) ?_
  · rw [noMe i j m hk, List.append_nil] at hx
    have : le1 r' j e = le1 (R j) j e := by unfold le1; rw [hr, hl]
    rw [this]
    exact List.mem_append_left _ hx
  · have := wm_pos (k := k) (edges k R b D) (i, j, m)
    simp only [List.map_cons, List.map_nil, List.sum_cons, List.sum_nil]
    omega
theorem mu_promise {k : Nat} (hk4 : k ≤ 4) {B : Int} {R : Sites} {b : Msgs} {D : Ghosts} (h : Inv k B R b D) {i j : Nat} {m : S57} {bb b' : Msgs} (hb : b.Perm ((i, j, m) :: bb)) (hk : m.Kind = 14) (hfr : (R j).Epoch < m.Epoch)
    {l : Int} {out : Msgs} (hlo : ((R j).Token_Using = true ∨ (R j).Token_Want = true) ∧ l = -1 ∧ out = [(j, i, mkm i 15 m.Epoch 0), (j, i, mkm i 12 m.Epoch j)] ∨
      ((R j).Token_Using = false ∧ (R j).Token_Want = false) ∧ l = i ∧ out = [(j, i, mkm i 15 m.Epoch 0)]) (hb' : b'.Perm (bb ++ out)) :
    mu k (upd R j (proms (R j) m.Epoch l)) b' ((if (R j).Token_Last ≠ -1 then [((R j).Epoch, j, (R j).Token_Last.toNat)] else []) ++ D) + 1 ≤ mu k R b D := by
  have hm := h.msg (i, j, m) (hb.mem_iff.mpr (by simp))
  have hj : j < k := hm.j
  refine mu_sub (xs := [(i, j, m)]) hj hb hb' (fun e x hx => ?_) ?_
  · rw [noMe i j m (by omega), List.append_nil] at hx
    refine List.mem_append_right _ (List.mem_append_right _ ?_)
    unfold le1 at hx
    split at hx
    · rename_i hc
      simp at hx; subst hx
      rw [if_pos hc.2]
      simp [de, hc.1]
    · simp at hx
  · simp only [List.map_cons, List.map_nil, List.sum_cons, List.sum_nil]
    rw [wm_six _ (by exact hk)]
    rcases hlo with ⟨hw, _, rfl⟩ | ⟨hw, _, rfl⟩
    · simp only [List.map_cons, List.map_nil, List.sum_cons, List.sum_nil, wm_req]
      rw [wm_one _ (by rw [mkm_kind]; decide) (by rw [mkm_kind]; decide)]
      have h3 := nf_3 hk4 (E := edges k (upd R j (proms (R j) m.Epoch l)) b' ((if (R j).Token_Last ≠ -1 then [((R j).Epoch, j, (R j).Token_Last.toNat)] else []) ++ D) m.Epoch) (f := ((j : Int).toNat, i)) (by show Int.toNat (j : Int) < k; omega)
      have h4 : ws (proms (R j) m.Epoch l) ≤ 2 := by
        unfold ws proms
        simp only
        cases (R j).Token_Using <;> cases (R j).Token_Want <;> decide
      have h5 : 2 ≤ ws (R j) := by
        unfold ws
        rcases hw with hw | hw
        · have := ((h.val j hj).run hw).tok.us hw
          rw [hw, this]; simp [bn]; omega
        · rw [hw]; simp [bn]; omega
      omega
    · simp only [List.map_cons, List.map_nil, List.sum_cons, List.sum_nil]
      rw [wm_one _ (by rw [mkm_kind]; decide) (by rw [mkm_kind]; decide)]
      have h4 : ws (proms (R j) m.Epoch l) = 0 := by
        unfold ws proms
        simp only [hw.1, hw.2]; decide
      omega
/-- A request is heard. -/
theorem mu_request {k : Nat} {B : Int} {R : Sites} {b : Msgs} {D : Ghosts} (h : Inv k B R b D) {i j : Nat} {m : S57} {bb b' : Msgs} (hb : b.Perm ((i, j, m) :: bb)) (hk : m.Kind = 12) (hfr : m.Epoch = (R j).Epoch)
    (hlo : (R j).Lost = false) (hb' : b'.Perm (bb ++ outS j (reqS (R j) m.Site).2)) : mu k (upd R j (reqS (R j) m.Site).1) b' D + 1 ≤ mu k R b D := by
  have hm := h.msg (i, j, m) (hb.mem_iff.mpr (by simp))
  have hj : j < k := hm.j
  have hso : oth m.Site j k := hm.ok.site hk
  obtain ⟨s, hs⟩ := Int.eq_ofNat_of_zero_le hso.1
  have hsk : s < k := by have := hso.2.1; omega
  have hsj : s ≠ j := by have := hso.2.2; omega
  have hne : (s : Int) ≠ -1 := by omega
  have hdd : D = [] ++ D := rfl
  have hxm : ∀ x ∈ bb, x.2.2.Kind = 12 → (x.2.2.Site.toNat, x.2.1) ∈ me x.2.2.Epoch x := fun x _ h12 => by unfold me; rw [if_pos ⟨h12, rfl⟩]; simp
  have hox : ∀ e, ([(i, j, m)] : Msgs).flatMap (me e) = if (R j).Epoch = e then [(s, j)] else [] := fun e => by rw [oneMe i j m hk, hfr, hs, Int.toNat_natCast]
  have hwx : ∀ E : Int → Edges, wm k E (i, j, m) = 1 + nf k (E (R j).Epoch) (s, j) := fun E => by
    unfold wm
    rw [if_neg (show ¬ (i, j, m).2.2.Kind = 14 by show ¬ m.Kind = 14; omega), if_pos (show (i, j, m).2.2.Kind = 12 from hk)]
    show 1 + nf k (E m.Epoch) (m.Site.toNat, j) = _
    rw [hfr, hs, Int.toNat_natCast]
  rw [hs] at hb' ⊢
  by_cases hl : (R j).Token_Last = -1
  · -- it is kept, or answered
    have hold : ∀ e, le1 (R j) j e = [] := fun e => by unfold le1; rw [if_neg (fun c => c.2 hl)]
    have hkeep : ∀ (r' : S37) (out : Msgs) (b' : Msgs), b'.Perm (bb ++ out) → r'.Epoch = (R j).Epoch → r'.Token_Last = (s : Int) → (∀ e, out.flatMap (me e) = []) →
        ∀ x ∈ bb, x.2.2.Kind = 12 → Keeps (edges k R b D x.2.2.Epoch) (edges k (upd R j r') b' D x.2.2.Epoch) (x.2.2.Site.toNat, x.2.1) := by
      intro r' out b' hb' he hla ho x hx h12
      obtain ⟨rest, h1, h2, h3⟩ := edges_split2 (xs := [(i, j, m)]) R D x.2.2.Epoch hj hb
      have h4 := h3 x hx _ (hxm x hx h12)
      have hfo := forest_perm h1 (h.forest _)
      have h2' := h2 r' out []
      rw [hold, hox, List.nil_append] at h1 hfo
      rw [ho, List.flatMap_nil, List.nil_append, List.nil_append] at h2'
      intro p hp y hy hyf
      have hy' := h1.mem_iff.mp hy
      rcases List.mem_append.mp hy' with hy' | hy'
      · by_cases hE : (R j).Epoch = x.2.2.Epoch
        · rw [if_pos hE] at hy' hfo
          simp at hy'; subst hy'
          have hnew : (j, s) ∈ edges k (upd R j r') b' D x.2.2.Epoch := by
            rw [edges_mem hb']
            refine h2'.mem_iff.mpr (List.mem_append_left _ ?_)
            unfold le1
            rw [if_pos ⟨by omega, by omega⟩, hla, Int.toNat_natCast]; simp
          have hnf : (j, s) ≠ (x.2.2.Site.toNat, x.2.1) := fun e => by
            rw [← e] at h4
            have hp2 := List.perm_cons_erase h4
            have := forest_perm ((List.Perm.refl [(s, j)]).append hp2) hfo
            exact forest_two this
          exact (hp (j, s) hnew hnf).symm
        · rw [if_neg hE] at hy'; simp at hy'
      · refine hp y ?_ hyf
        rw [edges_mem hb']
        exact h2'.mem_iff.mpr (List.mem_append_right _ hy')
    unfold reqS at hb' ⊢
    rw [if_neg (by simp [hl])] at hb' ⊢
    by_cases hc : (R j).Token_Has = true ∧ (R j).Token_Using = false
    · rw [if_pos hc] at hb' ⊢
      simp only [outS_cons, outS_nil] at hb'
      refine mu_step (D' := D) (xs := [(i, j, m)]) hj hb hb' (hkeep { R j with Token_Has := false, Token_Last := (s : Int) } _ b' hb' rfl rfl (fun e => noMe j s _ (by rw [mkm_kind]; decide) e)) ?_
      simp only [List.map_cons, List.map_nil, List.sum_cons, List.sum_nil, hwx]
      rw [wm_one _ (by rw [mkm_kind]; decide) (by rw [mkm_kind]; decide)]
      unfold ws
      simp only [hc.1, hc.2]
      simp only [bn, cond_true, cond_false]
      omega
    · rw [if_neg hc] at hb' ⊢
      refine mu_step (D' := D) (xs := [(i, j, m)]) (out := []) hj hb hb' (hkeep { R j with Token_Last := (s : Int), Token_Next := (s : Int) } [] b' hb' rfl rfl (fun e => rfl)) ?_
      simp only [List.map_cons, List.map_nil, List.sum_cons, List.sum_nil, hwx]
      show ws (R j) + 0 + 1 ≤ ws (R j) + _
      omega
  · have hlo' := last_oth (h.val j hj) hl
    obtain ⟨y, hy⟩ := Int.eq_ofNat_of_zero_le hlo'.1
    have hyk : y < k := by have := hlo'.2.1; omega
    have hyj : y ≠ j := by have := hlo'.2.2; omega
    have hold : ∀ e, le1 (R j) j e = if (R j).Epoch = e then [(j, y)] else [] := fun e => by
      unfold le1
      rw [hy, Int.toNat_natCast]
      by_cases he : (R j).Epoch = e
      · rw [if_pos ⟨he, by omega⟩, if_pos he]
      · rw [if_neg (fun c => he c.1), if_neg he]
    unfold reqS at hb' ⊢
    rw [if_pos hl] at hb' ⊢
    simp only [hy, outS_cons, outS_nil] at hb' ⊢
    have hnew : ∀ e, le1 { R j with Token_Last := (s : Int) } j e = if (R j).Epoch = e then [(j, s)] else [] := fun e => by
      unfold le1
      by_cases he : (R j).Epoch = e
      · rw [if_pos ⟨he, hne⟩, if_pos he]
        show [(j, Int.toNat (s : Int))] = _
        rw [Int.toNat_natCast]
      · rw [if_neg (fun c => he c.1), if_neg he]
    have hout : ∀ e, ([(j, y, mkm y 12 (R j).Epoch s)] : Msgs).flatMap (me e) = if (R j).Epoch = e then [(s, y)] else [] := fun e => by
      rw [oneMe j y _ rfl, mkm_epoch, mkm_site, Int.toNat_natCast]
    refine mu_step (D' := D) (xs := [(i, j, m)]) (out := [(j, y, mkm y 12 (R j).Epoch s)]) (r' := { R j with Token_Last := (s : Int) }) hj hb hb' ?_ ?_
    · intro x hx h12
      obtain ⟨rest, h1, h2, h3⟩ := edges_split2 (xs := [(i, j, m)]) R D x.2.2.Epoch hj hb
      have h4 := h3 x hx _ (hxm x hx h12)
      have hfo := forest_perm h1 (h.forest _)
      have h2' := h2 { R j with Token_Last := (s : Int) } [(j, y, mkm y 12 (R j).Epoch s)] []
      rw [hold, hox] at h1 hfo
      rw [hout, hnew, List.flatMap_nil, List.nil_append] at h2'
      intro p hp z hz hzf
      have hz' := h1.mem_iff.mp hz
      by_cases hE : (R j).Epoch = x.2.2.Epoch
      · rw [if_pos hE, if_pos hE] at hz' hfo h2'
        have n1 : (j, s) ≠ (x.2.2.Site.toNat, x.2.1) := fun e => by
          rw [← e] at h4
          have hp2 := List.perm_cons_erase h4
          have := forest_perm ((List.Perm.refl [(j, y)]).append ((List.Perm.refl [(s, j)]).append hp2)) hfo
          exact forest_two this.2
        have n2 : (s, y) ≠ (x.2.2.Site.toNat, x.2.1) := fun e => by
          rw [← e] at h4
          have hp2 := List.perm_cons_erase h4
          have := forest_perm ((List.Perm.refl [(j, y)]).append ((List.Perm.refl [(s, j)]).append hp2)) hfo
          exact forest_three (forest_perm (List.Perm.swap _ _ _) this)
        have p1 : p j = p s := hp (j, s) ((edges_mem hb' _).mpr (h2'.mem_iff.mpr (by simp))) n1
        have p2 : p s = p y := hp (s, y) ((edges_mem hb' _).mpr (h2'.mem_iff.mpr (by simp))) n2
        simp only [List.cons_append, List.nil_append, List.mem_cons] at hz'
        rcases hz' with hz' | hz' | hz'
        · subst hz'; exact p1.trans p2
        · subst hz'; exact p1.symm
        · exact hp z ((edges_mem hb' _).mpr (h2'.mem_iff.mpr (by simp [hz']))) hzf
      · rw [if_neg hE, if_neg hE] at hz' h2'
        simp only [List.nil_append] at hz' h2'
        exact hp z ((edges_mem hb' _).mpr (h2'.mem_iff.mpr hz')) hzf
    · simp only [List.map_cons, List.map_nil, List.sum_cons, List.sum_nil, hwx, wm_req, Int.toNat_natCast]
      have hws : ws { R j with Token_Last := (s : Int) } = ws (R j) := rfl
      rw [hws]
      obtain ⟨rest, h1, h2⟩ := edges_split (xs := [(i, j, m)]) R D (R j).Epoch hj hb
      have hfo := forest_perm h1 (h.forest _)
      have h2' := h2 { R j with Token_Last := (s : Int) } [(j, y, mkm y 12 (R j).Epoch s)] []
      rw [hold, hox, if_pos rfl, if_pos rfl] at h1 hfo
      rw [hout, hnew, if_pos rfl, if_pos rfl, List.flatMap_nil, List.nil_append] at h2'
      have hfo2 := forest_perm (List.Perm.swap (s, j) (j, y) rest) hfo
      obtain ⟨q, q1, q2⟩ := hfo2.1
      have hE1 : ∀ x ∈ edges k R b D (R j).Epoch, x ≠ (s, j) → q x.1 = q x.2 := fun x hx hne => by
        have := h1.mem_iff.mp hx
        simp only [List.cons_append, List.nil_append, List.mem_cons] at this
        rcases this with h | h | h
        · exact q1 x (by simp [h])
        · exact absurd h hne
        · exact q1 x (by simp [h])
      have hqy : q j = q y := q1 (j, y) (by simp)
      have hlt := nf_lt (k := k) (E := edges k R b D (R j).Epoch) (E' := edges k (upd R j { R j with Token_Last := (s : Int) }) b' D (R j).Epoch) (f := (s, j)) (f' := (s, y)) (i := j) ?_ hj ⟨q, hE1, q2⟩ ?_
      · simp only at hlt
        omega
      · rintro v ⟨r, r1, r2⟩
        refine ⟨fun z => if q z = q s then r z else r s + 1, fun x hx hne => ?_, ?_⟩
        · have hx' := h1.mem_iff.mp hx
          have hq := hE1 x hx hne
          simp only [List.cons_append, List.nil_append, List.mem_cons] at hx'
          rcases hx' with hx' | hx' | hx'
          · subst hx'
            have a1 : ¬ q j = q s := fun e => q2 e.symm
            have a2 : ¬ q y = q s := fun e => q2 (by show q s = q j; omega)
            simp only [a1, a2, if_false]
          · exact absurd hx' hne
          · have hxy : x ≠ (s, y) := fun e => by
              rw [e] at hx'
              have hp2 := List.perm_cons_erase hx'
              exact forest_three (forest_perm ((List.Perm.refl [(s, j), (j, y)]).append hp2) hfo2)
            have hr := r1 x ((edges_mem hb' _).mpr (h2'.mem_iff.mpr (by simp [hx']))) hxy
            simp only [hq, hr]
        · show (if q s = q s then r s else r s + 1) ≠ (if q v = q s then r v else r s + 1)
          rw [if_pos rfl]
          split
          · exact r2
          · omega
      · rintro ⟨r, r1, r2⟩
        have := r1 (j, s) ((edges_mem hb' _).mpr (h2'.mem_iff.mpr (by simp))) (fun e => hsj (Prod.mk.inj e).1.symm)
        exact r2 this.symm
end Go.Abs.Rg
end
section
set_option linter.all false
set_option linter.unusedVariables false
set_option linter.unusedSimpArgs false
set_option linter.unnecessarySimpa false
/-
  Regen: the measure falls.
-/
namespace Go.Abs.Rg
open Go Go.Abs Go.G28

theorem mu_hear {k : Nat} (hk4 : k ≤ 4) {B : Int} {R : Sites} {b : Msgs} {D : Ghosts} (h : Inv k B R b D) {i j : Nat} {m : S57} {bb b' : Msgs} (hb : b.Perm ((i, j, m) :: bb)) (hb' : b'.Perm (bb ++ outS j (hearS (R j) j i m).2.1)) :
    mu k (hearR R i j m) b' (ghH (R j) j m ++ D) + 1 ≤ mu k R b D := by
  have hm := h.msg (i, j, m) (hb.mem_iff.mpr (by simp))
  have hj : j < k := hm.j
  have hv := h.val j hj
  unfold hearR
  by_cases hfr : fresh (R j) m
  · have hfr' := hfr
    unfold fresh at hfr'
    rcases hm.ok.kind with hk | hk | hk | hk
    · have hk : m.Kind = 12 := hk
      rw [if_neg (by omega)] at hfr'
      cases hlo : (R j).Lost with
      | true =>
        have e1 : hearS (R j) j i m = (zr, [], 19) := by unfold hearS; simp [hfr, hk, hlo]
        have e2 : ghH (R j) j m = ghX j m := by unfold ghH; simp [hfr, hk, hlo]
        rw [e1] at hb'
        rw [e1, e2, if_neg (by decide)]
        exact mu_err hj hb hb'
      | false =>
        have e1 : hearS (R j) j i m = ((reqS (R j) m.Site).1, (reqS (R j) m.Site).2, 0) := by unfold hearS; simp [hfr, hk, hlo]
        have e2 : ghH (R j) j m = [] := by unfold ghH; simp [hfr, hk, hlo]
        rw [e1] at hb'
        rw [e1, e2, if_pos rfl]
        exact mu_request h hb hk hfr' hlo hb'
    · have hk : m.Kind = 13 := hk
      rw [if_neg (by omega)] at hfr'
      have e2 : ghH (R j) j m = [] := by unfold ghH; rw [ghX_nil (by omega)]; simp [hk]
      rw [e2]
      have eg : ∀ c, hearS (R j) j i m = (zr, [], c) → c ≠ 0 → mu k (if (hearS (R j) j i m).2.2 = 0 then upd R j (hearS (R j) j i m).1 else R) b' ([] ++ D) + 1 ≤ mu k R b D := fun c e1 hc => by
        rw [e1] at hb'
        rw [e1, if_neg hc]
        have := mu_err (R := R) (D := D) hj hb hb'
        rwa [ghX_nil (by omega)] at this
      cases hlo : (R j).Lost with
      | true => exact eg 19 (by unfold hearS; simp [hfr, hk, hlo]) (by decide)
      | false =>
        cases ha : (R j).Asking with
        | true => exact eg 14 (by unfold hearS; simp [hfr, hk, hlo, ha]) (by decide)
        | false =>
          cases hw : (R j).Token_Want with
          | false => exact eg 14 (by unfold hearS; simp [hfr, hk, hlo, hw]) (by decide)
          | true =>
            have e1 : hearS (R j) j i m = ({ R j with Token_Has := true, Token_Want := false, Token_Using := true }, [], 0) := by unfold hearS; simp [hfr, hk, hlo, ha, hw]
            rw [e1] at hb'
            rw [e1, if_pos rfl]
            have hrv : RunV (R j) j k := by
              rcases hv.st with h1 | h1 | h1
              · rw [h1.lost] at hlo; cases hlo
              · rw [h1.ask] at ha; cases ha
              · exact h1
            have hh := hrv.tok.wa hw
            have hu : (R j).Token_Using = false := by
              cases hu : (R j).Token_Using
              · rfl
              · have := hrv.tok.us hu; rw [hh] at this; cases this
            refine mu_stay (out := []) (r' := { R j with Token_Has := true, Token_Want := false, Token_Using := true }) hj hb hb' (by omega) rfl rfl ?_
            unfold ws
            simp only [hw, hh, hu, ha, List.map_nil, List.sum_nil]
            decide
    · have hk : m.Kind = 14 := hk
      rw [if_pos hk] at hfr'
      have e2 : ghH (R j) j m = (if (R j).Token_Last ≠ -1 then [((R j).Epoch, j, (R j).Token_Last.toNat)] else []) := by unfold ghH; rw [if_pos hfr, if_pos hk]
      rw [e2]
      by_cases hw : (R j).Token_Using = true ∨ (R j).Token_Want = true
      · have e1 : hearS (R j) j i m = (proms (R j) m.Epoch (-1), [pst i 15 m.Epoch 0, pst i 12 m.Epoch j], 0) := by unfold hearS; simp only [hfr, not_true_eq_false, if_false, hk, if_true]; rw [if_pos hw]
        rw [e1] at hb'
        rw [e1, if_pos rfl]
        simp only [outS_cons, outS_nil] at hb'
        exact mu_promise hk4 h hb hk hfr' (.inl ⟨hw, rfl, rfl⟩) hb'
      · have e1 : hearS (R j) j i m = (proms (R j) m.Epoch i, [pst i 15 m.Epoch 0], 0) := by unfold hearS; simp only [hfr, not_true_eq_false, if_false, hk, if_true]; rw [if_neg hw]
        rw [e1] at hb'
        rw [e1, if_pos rfl]
        simp only [outS_cons, outS_nil] at hb'
        exact mu_promise hk4 h hb hk hfr' (.inr ⟨by simpa using hw, rfl, rfl⟩) hb'
    · have hk : m.Kind = 15 := hk
      rw [if_neg (by omega)] at hfr'
      have e2 : ghH (R j) j m = [] := by unfold ghH; rw [ghX_nil (by omega)]; simp [hk]
      rw [e2]
      rcases Bool.eq_false_or_eq_true (R j).Asking with ha | ha
      · have hav : AskV (R j) j k := by
          rcases hv.st with h1 | h1 | h1
          · rw [h1.ask] at ha; cases ha
          · exact h1
          · rw [h1.ask] at ha; cases ha
        by_cases hc : false ∈ (R j).Promised.set i true
        · have e1 : hearS (R j) j i m = ({ R j with Promised := (R j).Promised.set i true }, [], 0) := by unfold hearS; simp [hfr, hk, ha, hc]
          rw [e1] at hb'
          rw [e1, if_pos rfl]
          refine mu_stay (out := []) (r' := { R j with Promised := (R j).Promised.set i true }) hj hb hb' (by omega) rfl rfl ?_
          exact Nat.le_refl _
        · have e1 : hearS (R j) j i m = ((thereS (R j)).1, (thereS (R j)).2, 0) := by unfold hearS; simp [hfr, hk, ha, hc]
          rw [e1] at hb'
          rw [e1, if_pos rfl]
          rcases thereS_cases (R j) with ⟨hw, he⟩ | ⟨hw, hn, he⟩ | ⟨hw, hn, he⟩
          · rw [he] at hb' ⊢
            refine mu_stay (out := []) (r' := { R j with Asking := false, Promised := [], Token_Has := true, Token_Want := false, Token_Using := true }) hj hb hb' (by omega) rfl rfl ?_
            unfold ws
            simp only [hw, hav.has, hav.us, ha, List.map_nil, List.sum_nil]
            decide
          · rw [he] at hb' ⊢
            refine mu_stay (out := []) (r' := { R j with Asking := false, Promised := [], Token_Has := true }) hj hb hb' (by omega) rfl rfl ?_
            unfold ws
            simp only [hw, hav.has, hav.us, ha, List.map_nil, List.sum_nil]
            decide
          · rw [he] at hb' ⊢
            have hno := next_oth hv hn
            obtain ⟨t, ht⟩ := Int.eq_ofNat_of_zero_le hno.1
            simp only [ht, outS_cons, outS_nil] at hb' ⊢
            refine mu_stay (out := [(j, t, mkm t 13 (R j).Epoch 0)]) (r' := { R j with Asking := false, Promised := [], Token_Has := false, Token_Next := -1 }) hj hb hb' (by omega) rfl rfl ?_
            simp only [List.map_cons, List.map_nil, List.sum_cons, List.sum_nil]
            rw [wm_one _ (by rw [mkm_kind]; decide) (by rw [mkm_kind]; decide)]
            unfold ws
            simp only [hw, hav.has, hav.us, ha, List.map_nil, List.sum_nil]
            decide
      · have e1 : hearS (R j) j i m = (zr, [], 14) := by unfold hearS; simp [hfr, hk, ha]
        rw [e1] at hb'
        rw [e1, if_neg (by decide)]
        have := mu_err (R := R) (D := D) hj hb hb'
        rwa [ghX_nil (by omega)] at this
  · have e1 : hearS (R j) j i m = (zr, [], 18) := by unfold hearS; simp [hfr]
    have e2 : ghH (R j) j m = ghX j m := by unfold ghH; simp [hfr]
    rw [e1] at hb'
    rw [e1, e2, if_neg (by decide)]
    exact mu_err hj hb hb'
theorem mu_done {k : Nat} {B : Int} {R : Sites} {b b' : Msgs} {D : Ghosts} (h : Inv k B R b D) {j : Nat} (hj : j < k) (hu : (R j).Token_Using = true) (hb' : b'.Perm (b ++ outS j (doneS (R j)).2)) :
    mu k (upd R j (doneS (R j)).1) b' D + 1 ≤ mu k R b D := by
  have hv := h.val j hj
  have hrv := hv.run hu
  have hhas := hrv.tok.us hu
  have key : ∀ (r' : S37) (out : Msgs), b'.Perm (b ++ out) → r'.Epoch = (R j).Epoch → r'.Token_Last = (R j).Token_Last → ws r' + (out.map (wm k (edges k (upd R j r') b' ([] ++ D)))).sum + 1 ≤ ws (R j) → mu k (upd R j r') b' D + 1 ≤ mu k R b D := fun r' out hb' hr hl hw => by
    refine mu_sub (xs := []) (dd := []) hj (hb_nil b) hb' (fun e x hx => ?_) (by simpa using hw)
    have : le1 r' j e = le1 (R j) j e := by unfold le1; rw [hr, hl]
    rw [this]
    exact List.mem_append_left _ (by simpa using hx)
  unfold doneS at hb' ⊢
  by_cases hn : (R j).Token_Next = -1
  · rw [if_pos hn] at hb' ⊢
    refine key { R j with Token_Using := false } [] hb' rfl rfl ?_
    unfold ws
    simp only [hhas, hu, hrv.ask, List.map_nil, List.sum_nil]
    simp only [bn, cond_true, cond_false]
    omega
  · rw [if_neg hn] at hb' ⊢
    have hno := hrv.tok.next hn
    obtain ⟨t, ht⟩ := Int.eq_ofNat_of_zero_le hno.1
    simp only [ht, outS_cons, outS_nil] at hb' ⊢
    refine key { R j with Token_Has := false, Token_Using := false, Token_Next := -1 } [(j, t, mkm t 13 (R j).Epoch 0)] hb' rfl rfl ?_
    simp only [List.map_cons, List.map_nil, List.sum_cons, List.sum_nil]
    rw [wm_one _ (by rw [mkm_kind]; decide) (by rw [mkm_kind]; decide)]
    unfold ws
    simp only [hhas, hu, hrv.ask]
    simp only [bn, cond_true, cond_false]
    omega
end Go.Abs.Rg
end
section
set_option linter.all false
set_option linter.unusedVariables false
set_option linter.unusedSimpArgs false
set_option linter.unnecessarySimpa false
/-
  Regen: all messages are delivered.
-/
namespace Go.Abs.Rg
open Go Go.Abs Go.G28 Go.Abs.AbsP28

abbrev St2 := List S37 × Mail
def delS (i j : Nat) (s : St2) : St2 := match qS s.2 i j with | [] => s | m :: q => (dRs s.1 i j m, dMl s.1 s.2 i j m q)
def hasMsg (i j : Nat) (s : St2) : Bool := !(qS s.2 i j).isEmpty
def usesT (i : Nat) (s : St2) : Bool := (s.1.getD i zr).Token_Using
def doneI (i : Nat) (s : St2) : St2 := bif usesT i s then (s.1.set i (doneS (s.1.getD i zr)).1, takeM s.2 i (doneS (s.1.getD i zr)).2) else s
def colsF (i : Nat) : Nat → Nat → Bool × St2 → Bool × St2
  | 0, _, x => x
  | d + 1, j, x => colsF i d (j + 1) (x.1 || hasMsg i j x.2, delS i j x.2)
def rowsF (k : Nat) : Nat → Nat → Bool × St2 → Bool × St2
  | 0, _, x => x
  | d + 1, i, x => rowsF k d (i + 1) (colsF i k 0 (x.1 || usesT i x.2, doneI i x.2))
def settle (k : Nat) : Nat → St2 → Option St2
  | 0, _ => none
  | t + 1, s => bif (rowsF k k 0 (false, s)).1 then settle k t (rowsF k k 0 (false, s)).2 else some (rowsF k k 0 (false, s)).2

def PM (k : Nat) (B : Int) (up : List Bool) (M : Nat) (s : St2) : Prop := ∃ D, CI k B M s.1 up s.2 D ∧ mu k (at_ s.1) (bag s.2) D ≤ M
theorem PM.ok {k : Nat} {B : Int} {up : List Bool} {M : Nat} {s : St2} (h : PM k B up M s) (hB : B ≤ 1000000000) (hM : M ≤ 900000) : Ok k s.1 up s.2 := by
  obtain ⟨D, h1, _⟩ := h
  exact h1.ok hB hM
theorem PM.del {k : Nat} {B : Int} {up : List Bool} {M : Nat} {s : St2} (h : PM k B up M s) {i j : Nat} (hi : i < k) (hj : j < k) (hm : hasMsg i j s = true) : ∃ M', M' + 1 = M ∧ PM k B up M' (delS i j s) := by
  obtain ⟨D, h1, h2⟩ := h
  unfold hasMsg at hm
  unfold delS
  cases hq : qS s.2 i j with
  | nil => rw [hq] at hm; simp at hm
  | cons m q =>
    obtain ⟨h3, hb, hb'⟩ := h1.deliver hi hj hq
    have h4 := mu_hear h1.k4 h1.inv hb hb'
    rw [← at_dRs h1.rl hj] at h4
    refine ⟨M - 1, by omega, ghH (at_ s.1 j) j m ++ D, ⟨h3.k1, h3.k4, h3.rl, h3.ul, h3.dim, ?_, h3.inv⟩, by show mu k (at_ (dRs s.1 i j m)) (bag (dMl s.1 s.2 i j m q)) _ ≤ _; omega⟩
    have h5 := len_mu (k := k) (R := at_ (dRs s.1 i j m)) (b := bag (dMl s.1 s.2 i j m q)) (D := ghH (at_ s.1 j) j m ++ D)
    show (bag (dMl s.1 s.2 i j m q)).length ≤ _
    omega
theorem PM.done {k : Nat} {B : Int} {up : List Bool} {M : Nat} {s : St2} (h : PM k B up M s) {i : Nat} (hi : i < k) (hu : usesT i s = true) : ∃ M', M' + 1 = M ∧ PM k B up M' (doneI i s) := by
  obtain ⟨D, h1, h2⟩ := h
  unfold doneI
  rw [hu, cond_true]
  have hu' : (at_ s.1 i).Token_Using = true := hu
  have hto := fun p hp => done_to (h1.inv.val i hi) p hp
  have hb := bag_take hi (doneS (at_ s.1 i)).2 h1.dim hto
  have h4 := mu_done h1.inv hi hu' hb
  have h3 := h1.act hi (by unfold doneS; split <;> simp) h1.ul hto (h1.inv.done hi hu')
  have e : at_ (s.1.set i (doneS (at_ s.1 i)).1) = upd (at_ s.1) i (doneS (at_ s.1 i)).1 := at_set (by rw [h1.rl]; exact hi) _
  rw [← e] at h4
  have h5 := len_mu (k := k) (R := at_ (s.1.set i (doneS (at_ s.1 i)).1)) (b := bag (takeM s.2 i (doneS (at_ s.1 i)).2)) (D := D)
  exact ⟨M - 1, by omega, D, ⟨h3.k1, h3.k4, h3.rl, h3.ul, h3.dim, by show (bag (takeM s.2 i (doneS (at_ s.1 i)).2)).length ≤ _; omega, h3.inv⟩, by show mu k (at_ (s.1.set i (doneS (at_ s.1 i)).1)) (bag (takeM s.2 i (doneS (at_ s.1 i)).2)) D ≤ _; omega⟩
theorem L9_3_eq (n : Nat) (hn : 5000 ≤ n) {k : Nat} {B : Int} (hB : B ≤ 1000000000) (up : List Bool) (a0 a3 a4 : Int) {i : Nat} (hi : i < k) : ∀ (d j f M : Nat) (b : Bool) (s : St2), j + d = k → d < f → M ≤ 900000 → PM k B up M s →
    ∃ M', M' ≤ M ∧ PM k B up M' (colsF i d j (b, s)).2 ∧ ((colsF i d j (b, s)).1 = true → b = true ∨ M' + 1 ≤ M) ∧
      iter (U9_3 n) f ((a0, (b, ((i : Int), (a3, (a4, ((k : Int), (j : Int))))))), (k, (s.2, (s.1, up)))) = some (.inl ((a0, ((colsF i d j (b, s)).1, (a3, a4))), (k, ((colsF i d j (b, s)).2.2, ((colsF i d j (b, s)).2.1, up))))) := by
  intro d
  induction d with
  | zero =>
    intro j f M b s hj hf hM hp
    obtain ⟨f, rfl⟩ := iter_exists (show 0 < f by omega)
    rw [iter_succ, U9_3.eq_1, S9_3.eq_1]
    simp only [lt_f (show k ≤ j by omega), cond_false]
    exact ⟨M, Nat.le_refl _, hp, fun h => .inl h, rfl⟩
  | succ d ih =>
    intro j f M b s hj hf hM hp
    obtain ⟨f, rfl⟩ := iter_exists (show 0 < f by omega)
    rw [iter_succ, U9_3.eq_1, S9_3.eq_1]
    have hjk : j < k := by omega
    have hok := hp.ok hB hM
    have hd := hok.dim
    simp only [lt_t hjk, cond_true, ge0, lt_t hi, Bool.and_self, Int.toNat_natCast, hd.row hi, Option.bind_some, hd.rows i hi, hd.q hi hjk, set_self hd hi hjk, w64s j (by have := hok.k4; omega)]
    simp only [colsF]
    cases hq : qS s.2 i j with
    | nil =>
      have e1 : hasMsg i j s = false := by unfold hasMsg; rw [hq]; rfl
      have e2 : delS i j s = s := by unfold delS; rw [hq]
      rw [e1, e2]
      simp only [Bool.or_false]
      have e3 : decide ((([] : List S57).length : Int) > 0) = false := rfl
      rw [e3, cond_false]
      exact ih (j + 1) f M b s (by omega) (by omega) hM hp
    | cons m q =>
      have e1 : hasMsg i j s = true := by unfold hasMsg; rw [hq]; rfl
      have e2 : delS i j s = (dRs s.1 i j m, dMl s.1 s.2 i j m q) := by unfold delS; rw [hq]
      obtain ⟨M1, hM1, hp1⟩ := hp.del hi hjk e1
      have hm := hok.msg i j hi hjk m (by rw [hq]; simp)
      have e3 : decide (((m :: q).length : Int) > 0) = true := by simp
      rw [e3, cond_true, F20_eq n hn hi hjk hok.k4 hm.1 s.1 hok.rl up s.2 hd hok.few hq (hok.val j hjk) hm.2]
      rw [e2] at hp1
      have hok1 := hp1.ok hB (by omega)
      obtain ⟨D1, hc1, _⟩ := hp1
      simp only [Option.bind_some, bNot, Bool.not_true, cond_false, F19_eq n hn hok1 hc1.uniq]
      obtain ⟨M2, h1, h2, h3, h4⟩ := ih (j + 1) f M1 true (dRs s.1 i j m, dMl s.1 s.2 i j m q) (by omega) (by omega) (by omega) ⟨D1, hc1, by assumption⟩
      have e4 : (b || hasMsg i j s, delS i j s) = (true, (dRs s.1 i j m, dMl s.1 s.2 i j m q)) := by rw [e1, e2]; simp
      rw [e4]
      exact ⟨M2, by omega, h2, fun _ => .inr (by omega), h4⟩
theorem L9_2_eq (n : Nat) (hn : 5000 ≤ n) {k : Nat} {B : Int} (hB : B ≤ 1000000000) (up : List Bool) (hup : ∀ a, a < k → up.getD a false = true) (a0 : Int) : ∀ (d i f M : Nat) (b : Bool) (s : St2), i + d = k → d < f → M ≤ 900000 → PM k B up M s →
    ∃ M', M' ≤ M ∧ PM k B up M' (rowsF k d i (b, s)).2 ∧ ((rowsF k d i (b, s)).1 = true → b = true ∨ M' + 1 ≤ M) ∧
      iter (U9_2 n) f ((a0, (b, ((k : Int), (i : Int)))), (k, (s.2, (s.1, up)))) = some (.inl ((a0, (rowsF k d i (b, s)).1), (k, ((rowsF k d i (b, s)).2.2, ((rowsF k d i (b, s)).2.1, up))))) := by
  intro d
  induction d with
  | zero =>
    intro i f M b s hi hf hM hp
    obtain ⟨f, rfl⟩ := iter_exists (show 0 < f by omega)
    rw [iter_succ, U9_2.eq_1, S9_2.eq_1]
    simp only [lt_f (show k ≤ i by omega), cond_false]
    exact ⟨M, Nat.le_refl _, hp, fun h => .inl h, rfl⟩
  | succ d ih =>
    intro i f M b s hi hf hM hp
    obtain ⟨f, rfl⟩ := iter_exists (show 0 < f by omega)
    rw [iter_succ, U9_2.eq_1, S9_2.eq_1]
    have hik : i < k := by omega
    have hok := hp.ok hB hM
    have hk4 := hok.k4
    have hri := getD_some (show i < s.1.length by rw [hok.rl]; exact hik) zr
    have z : ((0 : Nat) : Int) = (0 : Int) := rfl
    simp only [lt_t hik, cond_true, ge0, hok.rl, Bool.and_self, Int.toNat_natCast, hri, Option.bind_some]
    simp only [rowsF]
    cases hu : (s.1.getD i zr).Token_Using with
    | true =>
      have hu' : usesT i s = true := hu
      obtain ⟨M1, hM1, hp1⟩ := hp.done hik hu'
      have hd : doneI i s = (s.1.set i (doneS (s.1.getD i zr)).1, takeM s.2 i (doneS (s.1.getD i zr)).2) := by unfold doneI; rw [hu']; rfl
      have ht : Int.tmod (i : Int) (k : Int) = (i : Int) := by rw [Int.tmod_eq_emod_of_nonneg (by omega), Int.emod_eq_of_lt (by omega) (by omega)]
      obtain ⟨rs', up', ml', h1, _, _, h2⟩ := F17_eq n hn hok 7 (i : Int) 0 hik (show 0 < k by omega) ht (by rw [Int.zero_tmod]; rfl)
      obtain ⟨rfl, rfl, rfl⟩ := h2 (by decide) (by decide) (by decide) (hup i hik) hu
      simp only [h1, Option.bind_some, cond_true, bNot, Bool.not_true, cond_false]
      rw [hd] at hp1
      have hok1 := hp1.ok hB (by omega)
      rw [hu', hd]
      simp only [Bool.or_true]
      obtain ⟨M2, g1, g2, g3, g4⟩ := L9_3_eq n hn hB up' a0 (k : Int) (i : Int) hik k 0 n M1 true _ (by omega) (by omega) (by omega) hp1
      rw [z] at g4
      have hrl1 : (s.1.set i (doneS (s.1.getD i zr)).1).length = k := hok1.rl
      unfold L9_3
      rw [hrl1, g4]
      simp only [Option.bind_some, Sum.elim_inl, w64s i (by omega)]
      obtain ⟨M3, k1, k2, k3, k4⟩ := ih (i + 1) f M2 (colsF i k 0 (true, (s.1.set i (doneS (s.1.getD i zr)).1, takeM s.2 i (doneS (s.1.getD i zr)).2))).1 (colsF i k 0 (true, (s.1.set i (doneS (s.1.getD i zr)).1, takeM s.2 i (doneS (s.1.getD i zr)).2))).2 (by omega) (by omega) (by omega) g2
      exact ⟨M3, by omega, k2, fun _ => .inr (by omega), k4⟩
    | false =>
      have hu' : usesT i s = false := hu
      have hd : doneI i s = s := by unfold doneI; rw [hu']; rfl
      rw [hu', hd]
      simp only [Bool.or_false, cond_false]
      obtain ⟨M2, g1, g2, g3, g4⟩ := L9_3_eq n hn hB up a0 (k : Int) (i : Int) hik k 0 n M b s (by omega) (by omega) hM hp
      rw [z] at g4
      unfold L9_3
      rw [g4]
      simp only [Option.bind_some, Sum.elim_inl, w64s i (by omega)]
      obtain ⟨M3, k1, k2, k3, k4⟩ := ih (i + 1) f M2 (colsF i k 0 (b, s)).1 (colsF i k 0 (b, s)).2 (by omega) (by omega) (by omega) g2
      refine ⟨M3, by omega, k2, fun h => ?_, k4⟩
      rcases k3 h with h | h
      · rcases g3 h with h | h
        · exact .inl h
        · exact .inr (by omega)
      · exact .inr (by omega)
theorem del_no {i j : Nat} {s : St2} (h : hasMsg i j s = false) : delS i j s = s ∧ qS s.2 i j = [] := by
  unfold hasMsg at h
  unfold delS
  cases hq : qS s.2 i j with
  | nil => exact ⟨rfl, rfl⟩
  | cons m q => rw [hq] at h; cases h
theorem cols_no (i : Nat) (s : St2) : ∀ (d j : Nat) (b : Bool), (colsF i d j (b, s)).1 = false → b = false ∧ colsF i d j (b, s) = (false, s) ∧ ∀ a, j ≤ a → a < j + d → qS s.2 i a = [] := by
  intro d
  induction d with
  | zero => intro j b h; exact ⟨h, by show (b, s) = _; rw [show b = false from h], fun a h1 h2 => by omega⟩
  | succ d ih =>
    intro j b h
    simp only [colsF] at h ⊢
    cases hm : hasMsg i j s with
    | true =>
      rw [hm, Bool.or_true] at h
      have : ∀ (d j : Nat) (s : St2), (colsF i d j (true, s)).1 = true := by
        intro d
        induction d with
        | zero => intro j s; rfl
        | succ d ih => intro j s; simp only [colsF, Bool.true_or]; exact ih _ _
      rw [this] at h; cases h
    | false =>
      obtain ⟨h1, h2⟩ := del_no hm
      rw [hm, h1, Bool.or_false] at h
      rw [h1, Bool.or_false]
      obtain ⟨g1, g2, g3⟩ := ih (j + 1) b h
      refine ⟨g1, g2, fun a ha hb => ?_⟩
      by_cases e : a = j
      · subst e; exact h2
      · exact g3 a (by omega) (by omega)
theorem rows_no (k : Nat) (s : St2) : ∀ (d i : Nat) (b : Bool), (rowsF k d i (b, s)).1 = false → b = false ∧ rowsF k d i (b, s) = (false, s) ∧ ∀ a, i ≤ a → a < i + d → usesT a s = false ∧ ∀ c, c < k → qS s.2 a c = [] := by
  intro d
  induction d with
  | zero => intro i b h; exact ⟨h, by show (b, s) = _; rw [show b = false from h], fun a h1 h2 => by omega⟩
  | succ d ih =>
    intro i b h
    simp only [rowsF] at h ⊢
    have rt : ∀ (d i : Nat) (x : Bool × St2), x.1 = true → (rowsF k d i x).1 = true := by
      have ct : ∀ (i d j : Nat) (x : Bool × St2), x.1 = true → (colsF i d j x).1 = true := by
        intro i d
        induction d with
        | zero => intro j x hx; exact hx
        | succ d ih => intro j x hx; exact ih _ _ (by simp [hx])
      intro d
      induction d with
      | zero => intro i x hx; exact hx
      | succ d ih => intro i x hx; exact ih _ _ (ct _ _ _ _ (by simp [hx]))
    have hc : (colsF i k 0 (b || usesT i s, doneI i s)).1 = false := by
      cases e : (colsF i k 0 (b || usesT i s, doneI i s)).1 with
      | false => rfl
      | true => rw [rt d (i + 1) _ e] at h; cases h
    obtain ⟨g1, g2, g3⟩ := cols_no i (doneI i s) k 0 _ hc
    have hu : usesT i s = false := by
      cases hu : usesT i s with
      | false => rfl
      | true => rw [hu, Bool.or_true] at g1; cases g1
    have hb : b = false := by
      cases hb : b with
      | false => rfl
      | true => rw [hb, Bool.true_or] at g1; cases g1
    have hd : doneI i s = s := by unfold doneI; rw [hu]; rfl
    rw [hd] at g2 g3 h ⊢
    rw [g2] at h ⊢
    obtain ⟨k1, k2, k3⟩ := ih (i + 1) false h
    refine ⟨hb, k2, fun a ha hb => ?_⟩
    by_cases e : a = i
    · subst e; exact ⟨hu, fun c hc => g3 c (by omega) (by omega)⟩
    · exact k3 a (by omega) (by omega)
theorem L9_1_eq (n : Nat) (hn : 5000 ≤ n) {k : Nat} {B : Int} (hB : B ≤ 1000000000) (up : List Bool) (hup : ∀ a, a < k → up.getD a false = true) : ∀ (c t f M : Nat) (s : St2), M ≤ c → c + t < 3000 → c < f → PM k B up M s →
    ∃ s' M', M' ≤ M ∧ PM k B up M' s' ∧ settle k (c + 1) s = some s' ∧ (rowsF k k 0 (false, s')).1 = false ∧ iter (U9_1 n) f ((t : Int), (k, (s.2, (s.1, up)))) = some (.inr (true, (k, (s'.2, (s'.1, up))))) := by
  intro c
  induction c with
  | zero =>
    intro t f M s hM hc hf hp
    obtain ⟨f, rfl⟩ := iter_exists (show 0 < f by omega)
    rw [iter_succ, U9_1.eq_1, S9_1.eq_1]
    have hok := hp.ok hB (by omega)
    have e1 : decide ((t : Int) < 3000) = true := by simp; omega
    have z : ((0 : Nat) : Int) = (0 : Int) := rfl
    obtain ⟨M1, h1, h2, h3, h4⟩ := L9_2_eq n hn hB up hup (t : Int) k 0 n M false s (by omega) (by have := hok.k4; omega) (by omega) hp
    rw [z] at h4
    unfold L9_2
    simp only [e1, cond_true, hok.rl, h4, Option.bind_some, Sum.elim_inl]
    cases hb : (rowsF k k 0 (false, s)).1 with
    | true =>
      rcases h3 hb with h | h
      · cases h
      · omega
    | false =>
      have hr := (rows_no k s k 0 false hb).2.1
      refine ⟨s, M1, h1, by rw [hr] at h2; exact h2, ?_, hb, ?_⟩
      · simp only [settle, hb, cond_false, hr]
      · rw [hr]; rfl
  | succ c ih =>
    intro t f M s hM hc hf hp
    obtain ⟨f, rfl⟩ := iter_exists (show 0 < f by omega)
    rw [iter_succ, U9_1.eq_1, S9_1.eq_1]
    have hok := hp.ok hB (by omega)
    have e1 : decide ((t : Int) < 3000) = true := by simp; omega
    have z : ((0 : Nat) : Int) = (0 : Int) := rfl
    obtain ⟨M1, h1, h2, h3, h4⟩ := L9_2_eq n hn hB up hup (t : Int) k 0 n M false s (by omega) (by have := hok.k4; omega) (by omega) hp
    rw [z] at h4
    unfold L9_2
    simp only [e1, cond_true, hok.rl, h4, Option.bind_some, Sum.elim_inl]
    cases hb : (rowsF k k 0 (false, s)).1 with
    | true =>
      rcases h3 hb with h | h
      · cases h
      · obtain ⟨s', M', g1, g2, g3, g4, g5⟩ := ih (t + 1) f M1 (rowsF k k 0 (false, s)).2 (by omega) (by omega) (by omega) h2
        refine ⟨s', M', by omega, g2, ?_, g4, ?_⟩
        · rw [settle, hb, cond_true]; exact g3
        · simp only [bNot, Bool.not_true, cond_false, w64s t (by omega)]
          exact g5
    | false =>
      have hr := (rows_no k s k 0 false hb).2.1
      refine ⟨s, M1, h1, by rw [hr] at h2; exact h2, ?_, hb, ?_⟩
      · simp only [settle, hb, cond_false, hr]
      · rw [hr]; rfl
/-- All sites are started. -/
theorem CI.start {k : Nat} {B : Int} {L : Nat} {rs : List S37} {up : List Bool} {ml : Mail} {D : Ghosts} (h : CI k B L rs up ml D) {i : Nat} (hi : i < k) : CI k B L (rs.set i (lostS (rs.getD i zr).Epoch)) (up.set i true) ml D := by
  refine ⟨h.k1, h.k4, by simp [h.rl], by simp [h.ul], h.dim, h.len, ?_⟩
  rw [at_set (by rw [h.rl]; exact hi)]
  have := h.inv.start hi
  rwa [List.append_nil] at this
theorem L9_0_eq (n : Nat) (hn : 5000 ≤ n) {k : Nat} {B : Int} (hB : B ≤ 1000000000) {L : Nat} (hL : L ≤ 900000) (ml : Mail) : ∀ (d i f : Nat) (rs : List S37) (up : List Bool) (D : Ghosts), i + d = k → d < f → CI k B L rs up ml D → (∀ a, a < i → up.getD a false = true) →
    ∃ rs' up', CI k B L rs' up' ml D ∧ (∀ a, a < k → up'.getD a false = true) ∧ ((∀ a, a < k → up.getD a false = true) → rs' = rs ∧ up' = up) ∧ iter (U9_0 n) f (((k : Int), (i : Int)), (k, (ml, (rs, up)))) = some (.inl (k, (ml, (rs', up')))) := by
  intro d
  induction d with
  | zero =>
    intro i f rs up D hi hf hc hup
    obtain ⟨f, rfl⟩ := iter_exists (show 0 < f by omega)
    rw [iter_succ, U9_0.eq_1, S9_0.eq_1]
    simp only [lt_f (show k ≤ i by omega), cond_false]
    exact ⟨rs, up, hc, fun a ha => hup a (by omega), fun _ => ⟨rfl, rfl⟩, rfl⟩
  | succ d ih =>
    intro i f rs up D hi hf hc hup
    obtain ⟨f, rfl⟩ := iter_exists (show 0 < f by omega)
    rw [iter_succ, U9_0.eq_1, S9_0.eq_1]
    have hik : i < k := by omega
    have hok := hc.ok hB hL
    have hk4 := hok.k4
    have hui := getD_some (show i < up.length by rw [hok.ul]; exact hik) false
    simp only [lt_t hik, cond_true, ge0, hok.ul, Bool.and_self, Int.toNat_natCast, hui, Option.bind_some]
    cases hu : up.getD i false with
    | true =>
      simp only [bNot, Bool.not_true, cond_false, w64s i (by omega)]
      exact ih (i + 1) f rs up D (by omega) (by omega) hc (fun a ha => by
        by_cases e : a = i
        · subst e; exact hu
        · exact hup a (by omega))
    | false =>
      have ht : Int.tmod (i : Int) (k : Int) = (i : Int) := by rw [Int.tmod_eq_emod_of_nonneg (by omega), Int.emod_eq_of_lt (by omega) (by omega)]
      obtain ⟨rs', up', ml', h1, _, h2, _⟩ := F17_eq n hn hok 7 (i : Int) 0 hik (show 0 < k by omega) ht (by rw [Int.zero_tmod]; rfl)
      obtain ⟨rfl, rfl, rfl⟩ := h2 (by decide) (by decide) hu
      simp only [h1, Option.bind_some, cond_true, bNot, Bool.not_true, Bool.not_false, cond_false, w64s i (by omega)]
      obtain ⟨rs', up', g1, g2, g3, g4⟩ := ih (i + 1) f (rs.set i (lostS (rs.getD i zr).Epoch)) (up.set i true) D (by omega) (by omega) (hc.start hik) (fun a ha => by
        rw [List.getD_eq_getElem?_getD]
        by_cases e : a = i
        · subst e; rw [List.getElem?_set_self (by rw [hok.ul]; exact hik)]; rfl
        · rw [List.getElem?_set_ne (Ne.symm e), ← List.getD_eq_getElem?_getD]; exact hup a (by omega))
      exact ⟨rs', up', g1, g2, fun hall => (by rw [hall i hik] at hu; cases hu), g4⟩
/-- Nothing is under way, and nobody uses the token. -/
structure Quiet (k : Nat) (s : St2) : Prop where
  use : ∀ i, i < k → (s.1.getD i zr).Token_Using = false
  box : ∀ i j, i < k → j < k → qS s.2 i j = []
theorem F9_eq (n : Nat) (hn : 5000 ≤ n) {k : Nat} {B : Int} (hB : B ≤ 1000000000) {L : Nat} (hL : L ≤ 470) {rs : List S37} {up : List Bool} {ml : Mail} {D : Ghosts} (h : CI k B L rs up ml D) :
    ∃ rs1 up' s' D', F9 n k rs up ml = some (true, (k, (s'.1, (up', s'.2)))) ∧ CI k B 3000 s'.1 up' s'.2 D' ∧ Quiet k s' ∧ (∀ a, a < k → up'.getD a false = true) ∧ ((∀ a, a < k → up.getD a false = true) → rs1 = rs ∧ up' = up) ∧ ∃ c, settle k c (rs1, ml) = some s' := by
  have z : ((0 : Nat) : Int) = (0 : Int) := rfl
  obtain ⟨rs1, up', h1, h2, h3, h4⟩ := L9_0_eq n hn hB (by omega) ml k 0 n rs up D (by omega) (by have := h.k4; omega) h (fun a ha => by omega)
  have hmb := mu_bound h1.k4 h1.inv
  have hlen := h1.len
  have hp : PM k B up' 2990 (rs1, ml) := ⟨D, ⟨h1.k1, h1.k4, h1.rl, h1.ul, h1.dim, by show (bag ml).length ≤ _; omega, h1.inv⟩, by show mu k (at_ rs1) (bag ml) D ≤ _; omega⟩
  obtain ⟨s', M', g1, ⟨D', g2, _⟩, g3, g4, g5⟩ := L9_1_eq n hn hB up' h2 2990 0 n 2990 (rs1, ml) (Nat.le_refl _) (by omega) (by omega) hp
  have hq := rows_no k s' k 0 false g4
  refine ⟨rs1, up', s', D', ?_, g2.mono (Int.le_refl _) (by omega), ⟨fun i hi => (hq.2.2 i (by omega) (by omega)).1, fun i j hi hj => (hq.2.2 i (by omega) (by omega)).2 j hj⟩, h2, h3, _, g3⟩
  rw [z] at h4 g5
  unfold F9 L9_0
  rw [h.rl, h4]
  simp only [Option.bind_some, Sum.elim_inl]
  unfold L9_1
  rw [g5]
  rfl
end Go.Abs.Rg
end
section
set_option linter.all false
set_option linter.unusedVariables false
set_option linter.unusedSimpArgs false
set_option linter.unnecessarySimpa false
/-
  Regen: behind a new token's beginning, the run is one of few.
-/
namespace Go.Abs.Rg
open Go Go.Abs Go.G28 Go.Abs.AbsP28

def n1 (r : S37) : S37 := { r with Epoch := 1 }
def oldS (w : Bool) : S37 := S37.mk 0 false false [] false w false (-1) (-1)
def nS (e : Int) (r : S37) : S37 := if r.Epoch = e then n1 r else oldS r.Token_Want
def nM (m : S57) : S57 := mkm 0 m.Kind 1 m.Site
def nP (p : S64) : S64 := pst p.To p.Message_Kind 1 p.Message_Site
def nMl (ml : Mail) : Mail := ml.map fun row => row.map fun q => q.map nM
def nSt (e : Int) (s : St2) : St2 := (s.1.map (nS e), nMl s.2)

theorem nS_eq {e : Int} {r : S37} (h : r.Epoch = e) : nS e r = n1 r := by unfold nS; rw [if_pos h]
theorem nS_ne {e : Int} {r : S37} (h : r.Epoch ≠ e) : nS e r = oldS r.Token_Want := by unfold nS; rw [if_neg h]
theorem there_n (r : S37) : thereS (n1 r) = (n1 (thereS r).1, (thereS r).2.map nP) := by
  unfold thereS n1
  cases r.Token_Want
  · by_cases h : r.Token_Next = -1
    · simp [h]
    · simp [h, nP, pst]
  · simp
theorem req_n (r : S37) (s : Int) : reqS (n1 r) s = (n1 (reqS r s).1, (reqS r s).2.map nP) := by
  unfold reqS n1
  by_cases h : r.Token_Last = -1
  · by_cases h2 : r.Token_Has = true ∧ r.Token_Using = false
    · simp [h, h2, nP, pst]
    · simp [h, h2]
  · simp [h, nP, pst]
theorem there_ep (r : S37) : (thereS r).1.Epoch = r.Epoch ∧ ∀ p ∈ (thereS r).2, p.Message_Epoch = r.Epoch := by
  unfold thereS
  split
  · simp
  · split
    · simp
    · simp [pst]
theorem req_ep (r : S37) (s : Int) : (reqS r s).1.Epoch = r.Epoch ∧ ∀ p ∈ (reqS r s).2, p.Message_Epoch = r.Epoch := by
  unfold reqS
  split
  · simp [pst]
  · split
    · simp [pst]
    · simp
theorem hear_ep (r : S37) (i f : Int) (m : S57) (h : (hearS r i f m).2.2 = 0) : (hearS r i f m).1.Epoch = m.Epoch ∧ ∀ p ∈ (hearS r i f m).2.1, p.Message_Epoch = m.Epoch := by
  unfold hearS at h ⊢
  by_cases hfr : fresh r m
  · simp only [hfr, not_true_eq_false, if_false] at h ⊢
    unfold fresh at hfr
    by_cases k14 : m.Kind = 14
    · simp only [k14, if_true] at h ⊢
      split
      · simp [proms, pst]
      · simp [proms, pst]
    · rw [if_neg k14] at hfr
      simp only [k14, if_false] at h ⊢
      by_cases k15 : m.Kind = 15
      · simp only [k15, if_true] at h ⊢
        split
        · rename_i h1; rw [if_pos h1] at h; simp at h
        · split
          · simp [hfr]
          · rw [hfr]; exact there_ep r
      · simp only [k15, if_false] at h ⊢
        split
        · rename_i h1; rw [if_pos h1] at h; simp at h
        · rename_i h1
          rw [if_neg h1] at h
          split
          · rename_i h2
            rw [if_pos h2] at h
            split
            · rename_i h3; rw [if_pos h3] at h; simp at h
            · simp [hfr]
          · rw [hfr]; exact req_ep r m.Site
  · simp [hfr] at h
theorem hear_no {r : S37} {i f : Int} {m : S57} (h : ¬ fresh r m) : hearS r i f m = (zr, [], 18) := by unfold hearS; simp [h]
theorem hear_n {e : Int} {r : S37} {m : S57} (i f : Int) (hm : m.Epoch = e) (he : r.Epoch = e ∨ (r.Epoch < e ∧ r.Token_Using = false ∧ m.Kind = 14)) :
    (hearS (nS e r) i f (nM m)).2.2 = (hearS r i f m).2.2 ∧ (hearS (nS e r) i f (nM m)).2.1 = (hearS r i f m).2.1.map nP ∧ ((hearS r i f m).2.2 = 0 → (hearS (nS e r) i f (nM m)).1 = nS e (hearS r i f m).1) := by
  have kM : (nM m).Kind = m.Kind := rfl
  have eM : (nM m).Epoch = 1 := rfl
  have sM : (nM m).Site = m.Site := rfl
  rcases he with he | ⟨he, hu, k14⟩
  · rw [nS_eq he]
    by_cases k14 : m.Kind = 14
    · have f1 : ¬ fresh r m := by unfold fresh; rw [if_pos k14]; omega
      have f2 : ¬ fresh (n1 r) (nM m) := by unfold fresh; rw [kM, if_pos k14]; show ¬ (1 : Int) < 1; omega
      rw [hear_no f1, hear_no f2]
      simp
    · have f1 : fresh r m := by unfold fresh; rw [if_neg k14]; omega
      have f2 : fresh (n1 r) (nM m) := by unfold fresh; rw [kM, if_neg k14]; rfl
      unfold hearS
      simp only [f1, f2, not_true_eq_false, if_false, kM, k14, sM]
      by_cases k15 : m.Kind = 15
      · simp only [k15, if_true]
        have a1 : (n1 r).Asking = r.Asking := rfl
        have a2 : (n1 r).Promised = r.Promised := rfl
        rw [a1, a2]
        by_cases h1 : r.Asking = false
        · rw [if_pos h1, if_pos h1]; simp
        · rw [if_neg h1, if_neg h1]
          by_cases h2 : false ∈ r.Promised.set f.toNat true
          · rw [if_pos h2, if_pos h2]
            refine ⟨rfl, rfl, fun _ => ?_⟩
            rw [nS_eq (by exact he)]; rfl
          · rw [if_neg h2, if_neg h2, there_n]
            refine ⟨rfl, rfl, fun _ => ?_⟩
            rw [nS_eq (by rw [(there_ep r).1]; exact he)]
      · simp only [k15, if_false]
        have a1 : (n1 r).Lost = r.Lost := rfl
        have a2 : (n1 r).Asking = r.Asking := rfl
        have a3 : (n1 r).Token_Want = r.Token_Want := rfl
        rw [a1, a2, a3]
        by_cases h1 : r.Lost = true
        · rw [if_pos h1, if_pos h1]; simp
        · rw [if_neg h1, if_neg h1]
          by_cases k13 : m.Kind = 13
          · rw [if_pos k13, if_pos k13]
            by_cases h3 : r.Asking = true ∨ r.Token_Want = false
            · rw [if_pos h3, if_pos h3]; simp
            · rw [if_neg h3, if_neg h3]
              refine ⟨rfl, rfl, fun _ => ?_⟩
              rw [nS_eq (by exact he)]; rfl
          · rw [if_neg k13, if_neg k13, req_n]
            refine ⟨rfl, rfl, fun _ => ?_⟩
            rw [nS_eq (by rw [(req_ep r m.Site).1]; exact he)]
  · rw [nS_ne (by omega)]
    have f1 : fresh r m := by unfold fresh; rw [if_pos k14]; omega
    have f2 : fresh (oldS r.Token_Want) (nM m) := by unfold fresh; rw [kM, if_pos k14]; show (0 : Int) < 1; omega
    unfold hearS
    simp only [f1, f2, not_true_eq_false, if_false, kM, k14, if_true]
    have a1 : (oldS r.Token_Want).Token_Using = false := rfl
    have a2 : (oldS r.Token_Want).Token_Want = r.Token_Want := rfl
    rw [a1, a2, hu]
    simp only [Bool.false_eq_true, false_or]
    by_cases hw : r.Token_Want = true
    · rw [if_pos hw, if_pos hw]
      refine ⟨rfl, rfl, fun _ => ?_⟩
      rw [nS_eq (by exact hm)]
      unfold proms n1
      rw [a1, a2, hu]; rfl
    · rw [if_neg hw, if_neg hw]
      refine ⟨rfl, rfl, fun _ => ?_⟩
      rw [nS_eq (by exact hm)]
      unfold proms n1
      rw [a1, a2, hu]; rfl
theorem done_n {e : Int} {r : S37} (h : r.Epoch = e) : doneS (nS e r) = (nS e (doneS r).1, (doneS r).2.map nP) ∧ (doneS r).1.Epoch = e ∧ ∀ p ∈ (doneS r).2, p.Message_Epoch = e := by
  have he : (doneS r).1.Epoch = e := by unfold doneS; split <;> exact h
  refine ⟨?_, he, ?_⟩
  · rw [nS_eq h, nS_eq he]
    unfold doneS n1
    by_cases h : r.Token_Next = -1
    · simp [h]
    · simp [h, nP, pst]
  · unfold doneS
    split
    · simp
    · simp [pst, h]
theorem begin_n {e : Int} {r : S37} {i : Int} {k : Nat} (hu : r.Token_Using = false) : beginS (oldS r.Token_Want) i k 1 = (nS e (beginS r i k e).1, (beginS r i k e).2.map nP) ∧ (beginS r i k e).1.Epoch = e ∧ ∀ p ∈ (beginS r i k e).2, p.Message_Epoch = e := by
  have ha : askS (oldS r.Token_Want) i k 1 = n1 (askS r i k e) := by
    unfold askS proms n1
    rw [show (oldS r.Token_Want).Token_Using = false from rfl, show (oldS r.Token_Want).Token_Want = r.Token_Want from rfl, hu]
  have hae : (askS r i k e).Epoch = e := rfl
  unfold beginS
  by_cases hk : k = 1
  · rw [if_pos hk, if_pos hk, ha, there_n]
    have := there_ep (askS r i k e)
    rw [hae] at this
    exact ⟨by rw [nS_eq this.1], this.1, this.2⟩
  · rw [if_neg hk, if_neg hk, ha]
    refine ⟨?_, rfl, ?_⟩
    · rw [nS_eq hae]
      congr 1
      rw [List.map_flatMap]
      apply flatMap_congr'
      intro j _
      unfold proms1
      split
      · rfl
      · rfl
    · intro p hp
      simp only [List.mem_flatMap] at hp
      obtain ⟨j, _, hp⟩ := hp
      unfold proms1 at hp
      split at hp
      · simp at hp
      · simp at hp; subst hp; rfl

/-! ### messages, told plainly -/
theorem qS_n (ml : Mail) (i j : Nat) : qS (nMl ml) i j = (qS ml i j).map nM := by
  unfold qS nMl
  simp only [List.getD_eq_getElem?_getD, List.getElem?_map]
  cases ml[i]? with
  | none => rfl
  | some row =>
    simp only [Option.map_some, Option.getD_some, List.getElem?_map]
    cases row[j]? with
    | none => rfl
    | some q => rfl
theorem putS_n (ml : Mail) (i j : Nat) (q : List S57) : putS (nMl ml) i j (q.map nM) = nMl (putS ml i j q) := by
  unfold putS nMl
  rw [List.map_set, List.map_set]
  congr 2
  simp only [List.getD_eq_getElem?_getD, List.getElem?_map]
  cases ml[i]? with
  | none => rfl
  | some row => rfl
theorem toMsg_n (p : S64) : toMsg (nP p) = nM (toMsg p) := rfl
theorem takeM_n (i : Nat) : ∀ (l : List S64) (ml : Mail), takeM (nMl ml) i (l.map nP) = nMl (takeM ml i l) := by
  intro l
  induction l with
  | nil => intro ml; rfl
  | cons p l ih =>
    intro ml
    unfold takeM
    rw [List.map_cons, List.foldl_cons, List.foldl_cons]
    have h1 : (nP p).To = p.To := rfl
    rw [h1, toMsg_n, qS_n]
    have h2 : (qS ml i p.To.toNat).map nM ++ [nM (toMsg p)] = (qS ml i p.To.toNat ++ [toMsg p]).map nM := by simp
    rw [h2, putS_n]
    exact ih _
theorem getD_n {rs : List S37} {j : Nat} (h : j < rs.length) (e : Int) : (rs.map (nS e)).getD j zr = nS e (rs.getD j zr) := by
  rw [List.getD_eq_getElem?_getD, List.getElem?_map, List.getD_eq_getElem?_getD, List.getElem?_eq_getElem h]; rfl
end Go.Abs.Rg
end
section
set_option linter.all false
set_option linter.unusedVariables false
set_option linter.unusedSimpArgs false
set_option linter.unnecessarySimpa false
/-
  Regen: the run, told plainly, goes the same way.
-/
namespace Go.Abs.Rg
open Go Go.Abs Go.G28 Go.Abs.AbsP28

structure JP (e : Int) (k : Nat) (B : Int) (up : List Bool) (s : St2) : Prop where
  ci : ∃ D L, CI k B L s.1 up s.2 D
  site : ∀ i, i < k → (at_ s.1 i).Epoch = e ∨ ((at_ s.1 i).Epoch < e ∧ (at_ s.1 i).Token_Using = false)
  msg : ∀ x ∈ bag s.2, x.2.2.Epoch = e
theorem JP.del {e : Int} {k : Nat} {B : Int} {up : List Bool} {s : St2} (h : JP e k B up s) {i j : Nat} (hi : i < k) (hj : j < k) :
    JP e k B up (delS i j s) ∧ delS i j (nSt e s) = nSt e (delS i j s) ∧ hasMsg i j (nSt e s) = hasMsg i j s := by
  obtain ⟨D, L, hc⟩ := h.ci
  have hqn : qS (nSt e s).2 i j = (qS s.2 i j).map nM := qS_n s.2 i j
  unfold hasMsg delS
  rw [hqn]
  cases hq : qS s.2 i j with
  | nil => exact ⟨h, rfl, rfl⟩
  | cons m q =>
    simp only [List.map_cons]
    obtain ⟨hc', hb, hb'⟩ := hc.deliver hi hj hq
    have hmem : (i, j, m) ∈ bag s.2 := hb.mem_iff.mpr (by simp)
    have hme : m.Epoch = e := h.msg _ hmem
    have hmo := hc.inv.msg _ hmem
    have hs : (at_ s.1 j).Epoch = e ∨ ((at_ s.1 j).Epoch < e ∧ (at_ s.1 j).Token_Using = false ∧ m.Kind = 14) := by
      rcases h.site j hj with h1 | ⟨h1, h2⟩
      · exact .inl h1
      · refine .inr ⟨h1, h2, ?_⟩
        rcases hmo.ok.kind with k1 | k1 | k1 | k1
        · have := (hmo.req k1).2; simp only at this; omega
        · have := hmo.tok k1 j hj; simp only at this; omega
        · exact k1
        · have := hmo.prd k1; simp only at this; omega
    obtain ⟨n1', n2, n3⟩ := hear_n (j : Int) (i : Int) hme hs
    have hjl : j < s.1.length := by rw [hc.rl]; exact hj
    have hg : (nSt e s).1.getD j zr = nS e (at_ s.1 j) := getD_n hjl e
    refine ⟨⟨⟨_, _, hc'⟩, fun a ha => ?_, fun x hx => ?_⟩, ?_, rfl⟩
    · show (at_ (dRs s.1 i j m) a).Epoch = e ∨ ((at_ (dRs s.1 i j m) a).Epoch < e ∧ (at_ (dRs s.1 i j m) a).Token_Using = false)
      rw [at_dRs hc.rl hj]
      unfold hearR
      by_cases h0 : (hearS (at_ s.1 j) j i m).2.2 = 0
      · rw [if_pos h0]
        by_cases haj : a = j
        · subst haj; rw [upd_at]; left; rw [(hear_ep _ _ _ _ h0).1]; exact hme
        · rw [upd_ne _ _ haj]; exact h.site a ha
      · rw [if_neg h0]; exact h.site a ha
    · rcases List.mem_append.mp (hb'.mem_iff.mp hx) with hx | hx
      · exact h.msg x (hb.mem_iff.mpr (List.mem_cons_of_mem _ hx))
      · unfold outS at hx
        obtain ⟨p, hp, rfl⟩ := List.mem_map.mp hx
        rcases hear_err (at_ s.1 j) j i m with h0 | ⟨_, h0⟩
        · have := (hear_ep _ _ _ _ h0).2 p hp
          show p.Message_Epoch = e
          omega
        · rw [h0] at hp; simp at hp
    · show (dRs (nSt e s).1 i j (nM m), dMl (nSt e s).1 (nSt e s).2 i j (nM m) (q.map nM)) = nSt e (dRs s.1 i j m, dMl s.1 s.2 i j m q)
      unfold dRs dMl
      rw [hg, n1', n2]
      have e1 : putS (nSt e s).2 i j (q.map nM) = nMl (putS s.2 i j q) := putS_n s.2 i j q
      rw [e1, takeM_n]
      unfold nSt
      simp only
      congr 1
      by_cases h0 : (hearS (at_ s.1 j) j i m).2.2 = 0
      · have h0' : (hearS (s.1.getD j zr) j i m).2.2 = 0 := h0
        rw [if_pos h0, if_pos h0', n3 h0, List.map_set]; rfl
      · have h0' : ¬ (hearS (s.1.getD j zr) j i m).2.2 = 0 := h0
        rw [if_neg h0, if_neg h0']
theorem JP.done {e : Int} {k : Nat} {B : Int} {up : List Bool} {s : St2} (h : JP e k B up s) {i : Nat} (hi : i < k) :
    JP e k B up (doneI i s) ∧ doneI i (nSt e s) = nSt e (doneI i s) ∧ usesT i (nSt e s) = usesT i s := by
  obtain ⟨D, L, hc⟩ := h.ci
  have hil : i < s.1.length := by rw [hc.rl]; exact hi
  have hg : (nSt e s).1.getD i zr = nS e (at_ s.1 i) := getD_n hil e
  have hus : usesT i (nSt e s) = usesT i s := by
    unfold usesT
    rw [hg]
    rcases h.site i hi with h1 | ⟨h1, h2⟩
    · rw [nS_eq h1]; rfl
    · rw [nS_ne (by omega)]; exact h2.symm
  unfold doneI
  rw [hus]
  cases hu : usesT i s with
  | false => exact ⟨h, rfl, rfl⟩
  | true =>
    simp only [cond_true]
    have hE : (at_ s.1 i).Epoch = e := by
      rcases h.site i hi with h1 | ⟨_, h2⟩
      · exact h1
      · have : (at_ s.1 i).Token_Using = true := hu
        rw [h2] at this; cases this
    have hto := fun p hp => done_to (hc.inv.val i hi) p hp
    have hb := bag_take hi (doneS (at_ s.1 i)).2 hc.dim hto
    have hc' := hc.act hi (by unfold doneS; split <;> simp) hc.ul hto (hc.inv.done hi hu)
    obtain ⟨d1, d2, d3⟩ := done_n hE
    have d1' : doneS (nS e (at_ s.1 i)) = (nS e (doneS (at_ s.1 i)).1, (doneS (at_ s.1 i)).2.map nP) := d1
    refine ⟨⟨⟨_, _, hc'⟩, fun a ha => ?_, fun x hx => ?_⟩, ?_, trivial⟩
    · show (at_ (s.1.set i (doneS (at_ s.1 i)).1) a).Epoch = e ∨ ((at_ (s.1.set i (doneS (at_ s.1 i)).1) a).Epoch < e ∧ (at_ (s.1.set i (doneS (at_ s.1 i)).1) a).Token_Using = false)
      rw [at_set hil]
      by_cases hai : a = i
      · subst hai; rw [upd_at]; exact .inl d2
      · rw [upd_ne _ _ hai]; exact h.site a ha
    · rcases List.mem_append.mp (hb.mem_iff.mp hx) with hx | hx
      · exact h.msg x hx
      · unfold outS at hx
        obtain ⟨p, hp, rfl⟩ := List.mem_map.mp hx
        exact d3 p hp
    · rw [hg, d1']
      unfold nSt
      simp only
      rw [List.map_set, takeM_n]; rfl
def nX (e : Int) (x : Bool × St2) : Bool × St2 := (x.1, nSt e x.2)
theorem cols_n {e : Int} {k : Nat} {B : Int} {up : List Bool} {i : Nat} (hi : i < k) : ∀ (d j : Nat) (x : Bool × St2), j + d = k → JP e k B up x.2 → JP e k B up (colsF i d j x).2 ∧ colsF i d j (nX e x) = nX e (colsF i d j x) := by
  intro d
  induction d with
  | zero => intro j x _ h; exact ⟨h, rfl⟩
  | succ d ih =>
    intro j x hj h
    obtain ⟨h1, h2, h3⟩ := h.del hi (show j < k by omega)
    simp only [colsF]
    have e1 : ((nX e x).1 || hasMsg i j (nX e x).2, delS i j (nX e x).2) = nX e (x.1 || hasMsg i j x.2, delS i j x.2) := by
      unfold nX
      simp only
      rw [h2, h3]
    rw [e1]
    exact ih (j + 1) _ (by omega) h1
theorem rows_n {e : Int} {k : Nat} {B : Int} {up : List Bool} : ∀ (d i : Nat) (x : Bool × St2), i + d = k → JP e k B up x.2 → JP e k B up (rowsF k d i x).2 ∧ rowsF k d i (nX e x) = nX e (rowsF k d i x) := by
  intro d
  induction d with
  | zero => intro i x _ h; exact ⟨h, rfl⟩
  | succ d ih =>
    intro i x hi h
    obtain ⟨h1, h2, h3⟩ := h.done (show i < k by omega)
    simp only [rowsF]
    have e1 : ((nX e x).1 || usesT i (nX e x).2, doneI i (nX e x).2) = nX e (x.1 || usesT i x.2, doneI i x.2) := by
      unfold nX
      simp only
      rw [h2, h3]
    rw [e1]
    obtain ⟨g1, g2⟩ := cols_n (show i < k by omega) k 0 (x.1 || usesT i x.2, doneI i x.2) (by omega) h1
    rw [g2]
    exact ih (i + 1) _ (by omega) g1
theorem settle_n {e : Int} {k : Nat} {B : Int} {up : List Bool} : ∀ (c : Nat) (s s' : St2), JP e k B up s → settle k c s = some s' → settle k c (nSt e s) = some (nSt e s') ∧ JP e k B up s' := by
  intro c
  induction c with
  | zero => intro s s' _ h; cases h
  | succ c ih =>
    intro s s' h hs
    obtain ⟨g1, g2⟩ := rows_n k 0 (false, s) (by omega) h
    have e1 : rowsF k k 0 (false, nSt e s) = nX e (rowsF k k 0 (false, s)) := g2
    simp only [settle] at hs ⊢
    rw [e1]
    cases hb : (rowsF k k 0 (false, s)).1 with
    | true =>
      rw [hb, cond_true] at hs
      show (bif (rowsF k k 0 (false, s)).1 then settle k c (nSt e (rowsF k k 0 (false, s)).2) else some (nSt e (rowsF k k 0 (false, s)).2)) = _ ∧ _
      rw [hb, cond_true]
      exact ih _ _ g1 hs
    | false =>
      rw [hb, cond_false] at hs
      cases hs
      show (bif (rowsF k k 0 (false, s)).1 then settle k c (nSt e (rowsF k k 0 (false, s)).2) else some (nSt e (rowsF k k 0 (false, s)).2)) = _ ∧ _
      rw [hb, cond_false]
      exact ⟨rfl, g1⟩
theorem settle_det {k : Nat} : ∀ (c c' : Nat) (s a b : St2), settle k c s = some a → settle k c' s = some b → a = b := by
  intro c
  induction c with
  | zero => intro c' s a b h; cases h
  | succ c ih =>
    intro c' s a b h h'
    cases c' with
    | zero => cases h'
    | succ c' =>
      simp only [settle] at h h'
      cases hb : (rowsF k k 0 (false, s)).1 with
      | true => rw [hb, cond_true] at h h'; exact ih c' _ a b h h'
      | false => rw [hb, cond_false] at h h'; cases h; cases h'; rfl

/-! ### the few runs -/
def start0 (k i : Nat) (w : List Bool) : St2 :=
  ((w.map oldS).set i (beginS (oldS (w.getD i false)) (i : Int) k 1).1, takeM (List.replicate k (List.replicate k [])) i (beginS (oldS (w.getD i false)) (i : Int) k 1).2)
def good (s : St2) : Bool := s.1.all (fun r => !r.Token_Want && !r.Lost && !r.Asking && decide (r.Epoch = 1)) && Nat.beq (s.1.countP fun r => r.Token_Has) 1
def chk (k i : Nat) (w : List Bool) : Bool := match settle k 60 (start0 k i w) with | none => false | some s => good s
def allW : Nat → List (List Bool)
  | 0 => [[]]
  | n + 1 => (allW n).map (false :: ·) ++ (allW n).map (true :: ·)
theorem allW_mem (n : Nat) : ∀ w : List Bool, w.length = n → w ∈ allW n := by
  induction n with
  | zero => intro w h; rw [List.length_eq_zero_iff.mp h]; simp [allW]
  | succ n ih =>
    intro w h
    cases w with
    | nil => cases h
    | cons x w =>
      have := ih w (by simpa using h)
      unfold allW
      cases x <;> simp [this]
def chkAll (k : Nat) : Bool := (List.range k).all fun i => (allW k).all fun w => chk k i w
theorem chk1 : chkAll 1 = true := by decide +kernel
theorem chk2 : chkAll 2 = true := by decide +kernel
theorem chk3 : chkAll 3 = true := by decide +kernel
theorem chk4 : chkAll 4 = true := by decide +kernel
end Go.Abs.Rg
end
section
set_option linter.all false
set_option linter.unusedVariables false
set_option linter.unusedSimpArgs false
set_option linter.unnecessarySimpa false
/-
  Regen: a new token is there in the end.
-/
namespace Go.Abs.Rg
open Go Go.Abs Go.G28 Go.Abs.AbsP28

theorem flatRow_mem (i : Nat) : ∀ (row : List (List S57)) (a : Nat) (x : Nat × Nat × S57), x ∈ flatRow i a row → ∃ j q, row[j]? = some q ∧ x.2.2 ∈ q ∧ x.1 = i ∧ x.2.1 = a + j := by
  intro row
  induction row with
  | nil => intro a x h; simp [flatRow] at h
  | cons q l ih =>
    intro a x h
    simp only [flatRow, List.mem_append, List.mem_map] at h
    rcases h with ⟨m, hm, rfl⟩ | h
    · exact ⟨0, q, rfl, hm, rfl, rfl⟩
    · obtain ⟨j, q', h1, h2, h3, h4⟩ := ih (a + 1) x h
      exact ⟨j + 1, q', by simpa using h1, h2, h3, by omega⟩
theorem flatM_mem : ∀ (ml : Mail) (a : Nat) (x : Nat × Nat × S57), x ∈ flatM a ml → ∃ (i j : Nat) (row : List (List S57)) (q : List S57), ml[i]? = some row ∧ row[j]? = some q ∧ x.2.2 ∈ q := by
  intro ml
  induction ml with
  | nil => intro a x h; simp [flatM] at h
  | cons row l ih =>
    intro a x h
    simp only [flatM, List.mem_append] at h
    rcases h with h | h
    · obtain ⟨j, q, h1, h2, _⟩ := flatRow_mem a row 0 x h
      exact ⟨0, j, row, q, rfl, h1, h2⟩
    · obtain ⟨i, j, row', q, h1, h2, h3⟩ := ih (a + 1) x h
      exact ⟨i + 1, j, row', q, by simpa using h1, h2, h3⟩
theorem Quiet.bag {k : Nat} {s : St2} (h : Quiet k s) (hd : Dim k s.2) : bag s.2 = [] := by
  cases hb : Rg.bag s.2 with
  | nil => rfl
  | cons x l =>
    have hx : x ∈ flatM 0 s.2 := by show x ∈ Rg.bag s.2; rw [hb]; simp
    obtain ⟨i, j, row, q, h1, h2, h3⟩ := flatM_mem s.2 0 x hx
    have hi : i < k := by have := get_lt h1; rw [hd.len] at this; exact this
    have hr := hd.row hi
    rw [h1] at hr
    have hrow : row = s.2.getD i [] := Option.some.inj hr
    subst hrow
    have hj : j < k := by have := get_lt h2; rw [hd.rows i hi] at this; exact this
    have hq := hd.q hi hj
    rw [h2] at hq
    have : q = qS s.2 i j := Option.some.inj hq
    rw [this, h.box i j hi hj] at h3
    simp at h3
theorem Quiet.ml {k : Nat} {s : St2} (h : Quiet k s) (hd : Dim k s.2) : s.2 = List.replicate k (List.replicate k []) := by
  apply List.ext_getElem?
  intro i
  by_cases hi : i < k
  · rw [hd.row hi, List.getElem?_replicate, if_pos hi]
    congr 1
    apply List.ext_getElem?
    intro j
    by_cases hj : j < k
    · rw [hd.q hi hj, List.getElem?_replicate, if_pos hj, h.box i j hi hj]
    · rw [List.getElem?_eq_none (by rw [hd.rows i hi]; omega), List.getElem?_replicate, if_neg hj]
  · rw [List.getElem?_eq_none (by rw [hd.len]; omega), List.getElem?_replicate, if_neg hi]
theorem L4_0_eq (n : Nat) (k0 : Nat) (e : Int) (z : Bool × (Bool × ((List Bool) × (Bool × (Bool × (Bool × (Int × Int))))))) (ml : Mail) (rs : List S37) (up : List Bool) (hl : rs.length ≤ 1000)
    (h : ∀ r ∈ rs, r.Token_Want = false ∧ r.Lost = false ∧ r.Asking = false ∧ r.Epoch = e) : ∀ (d i f c : Nat), i + d = rs.length → d < f → c ≤ i →
    iter (U4_0 n) f (((c : Int), (((rs.length : Nat) : Int), (i : Int))), (k0, ((e, z), (ml, (rs, up))))) = some (.inl (((c + (rs.drop i).countP (fun r => r.Token_Has) : Nat) : Int))) := by
  intro d
  induction d with
  | zero =>
    intro i f c hi hf hc
    obtain ⟨f, rfl⟩ := iter_exists (show 0 < f by omega)
    rw [iter_succ, U4_0.eq_1, S4_0.eq_1]
    simp only [lt_f (show rs.length ≤ i by omega), cond_false]
    rw [List.drop_of_length_le (by omega)]; rfl
  | succ d ih =>
    intro i f c hi hf hc
    obtain ⟨f, rfl⟩ := iter_exists (show 0 < f by omega)
    rw [iter_succ, U4_0.eq_1, S4_0.eq_1]
    have hil : i < rs.length := by omega
    have hg := List.getElem?_eq_getElem hil
    obtain ⟨h1, h2, h3, h4⟩ := h rs[i] (List.getElem_mem hil)
    have h5 : (rs[i].Epoch != e) = false := by rw [h4]; simp
    simp only [lt_t hil, cond_true, ge0, Bool.and_self, Int.toNat_natCast, hg, Option.bind_some, h1, h2, h3, h5, cond_false, w64s i (by omega)]
    rw [drop_cons hg, List.countP_cons]
    cases hh : rs[i].Token_Has with
    | true =>
      simp only [cond_true, w64s c (by omega)]
      have := ih (i + 1) f (c + 1) (by omega) (by omega) (by omega)
      refine Eq.trans this ?_
      simp only [if_true]
      congr 3
      omega
    | false =>
      simp only [cond_false]
      have := ih (i + 1) f c (by omega) (by omega) (by omega)
      refine Eq.trans this ?_
      simp
theorem chkAll_all {k : Nat} (h1 : 1 ≤ k) (h4 : k ≤ 4) : chkAll k = true := by
  obtain h | h | h | h : k = 1 ∨ k = 2 ∨ k = 3 ∨ k = 4 := by omega
  · subst h; exact chk1
  · subst h; exact chk2
  · subst h; exact chk3
  · subst h; exact chk4
theorem lawThere (a0 : List Int) (a1 a2 : Int) (h : (Lit.int .u8 a1).wf = true) (h2 : (Lit.int .u8 a2).wf = true) : F4 100000 a0 a1 a2 = some true := by
  have hr := u8_in h
  have hr2 := u8_in h2
  unfold F4 F6
  rw [Option.bind_some]
  by_cases hl : a0.length ≤ 400
  · have d : decide ((a0.length : Int) ≤ 400) = true := by simp; omega
    have e4 : ((4 : Int) == 0) = false := rfl
    simp only [d, bNot, Bool.not_true, cond_false, e4]
    obtain ⟨k, hk, hk2⟩ : ∃ k : Nat, (1 ≤ k ∧ k ≤ 4) ∧ IntKind.wrap .i64 (1 + Int.tmod (IntKind.wrap .i64 a1) 4) = (k : Int) := by
      rw [w64 (by omega : -9223372036854775808 ≤ a1 ∧ a1 ≤ 9223372036854775807), Int.tmod_eq_emod_of_nonneg hr.1, w64 (by omega)]
      exact ⟨(1 + a1 % 4).toNat, by omega, by omega⟩
    obtain ⟨rs, up, ml, D, g1, g2⟩ := F8_eq 100000 (by omega) a0 hl hk.1 hk.2
    obtain ⟨_, up1, s1, D1, f1, c1, q1, u1, _, _⟩ := F9_eq 100000 (by omega) (by omega) (by omega) g2
    have hrl := c1.rl
    have hk0 : ((k : Int) == 0) = false := by simp; omega
    obtain ⟨i, hi, hi2⟩ := tmod_lt (show 0 ≤ a2 from hr2.1) hk.1
    have hw2 : IntKind.wrap .i64 a2 = a2 := w64 (by omega)
    have hok := c1.ok (by omega) (by omega)
    have hil : i < s1.1.length := by omega
    obtain ⟨e, he1, he2, he3, he4⟩ := F10_eq 100000 (by omega) (hok.p4 hi) (hok.val i hi) (hok.ep i hi)
    have ht := F11_eq 100000 (by omega) hi (beginS (s1.1.getD i zr) i k e).1 s1.1 hrl up1 (beginS (s1.1.getD i zr) i k e).2 (by have := begin_len (s1.1.getD i zr) i k e; omega) (fun p hp => begin_to p hp) s1.2 hok.dim hok.few
    -- the state behind the beginning
    have hbag := q1.bag c1.dim
    have c1' : CI k 536 0 s1.1 up1 s1.2 D1 := ⟨c1.k1, c1.k4, c1.rl, c1.ul, c1.dim, by rw [hbag]; simp, c1.inv⟩
    have hblen : (beginS (s1.1.getD i zr) i k e).2.length ≤ 3 := by
      have := begin_len (s1.1.getD i zr) i k e
      by_cases hk3 : k ≤ 3
      · exact Nat.le_trans this hk3
      · have hk4 : k = 4 := by omega
        subst hk4
        unfold beginS
        rw [if_neg (by decide)]
        have hi4 : i = 0 ∨ i = 1 ∨ i = 2 ∨ i = 3 := by omega
        rcases hi4 with rfl | rfl | rfl | rfl <;> exact Nat.le_refl _
    have c2 := c1'.act hi hblen c1.ul (fun p hp => begin_to p hp) (c1.inv.begin hi he1 he2 he3 (by omega))
    obtain ⟨rs1, up2, s', D2, f2, c3, q2, u2, same, cc, hset⟩ := F9_eq 100000 (by omega) (by omega) (by omega) c2
    obtain ⟨rfl, rfl⟩ := same u1
    -- all know the same epoch
    have hEq : ∀ a, a < k → (at_ s1.1 a).Epoch = (at_ s1.1 i).Epoch := by
      intro a ha
      have b1 := c1.inv.used a ha i hi
      have b2 := c1.inv.used i hi a ha
      rw [hbag] at b1 b2
      rcases b1 with b1 | ⟨_, b1, _⟩
      · rcases b2 with b2 | ⟨_, b2, _⟩
        · omega
        · simp at b2
      · simp at b1
    have hbn := begin_n (e := e) (i := (i : Int)) (k := k) (q1.use i hi)
    have he1' : (at_ s1.1 i).Epoch < e := he1
    have hjp : JP e k 540 up2 (s1.1.set i (beginS (s1.1.getD i zr) i k e).1, takeM s1.2 i (beginS (s1.1.getD i zr) i k e).2) := by
      refine ⟨⟨_, _, c2⟩, fun a ha => ?_, fun x hx => ?_⟩
      · show (at_ (s1.1.set i _) a).Epoch = e ∨ ((at_ (s1.1.set i _) a).Epoch < e ∧ (at_ (s1.1.set i _) a).Token_Using = false)
        rw [at_set hil]
        by_cases hai : a = i
        · subst hai; rw [upd_at]; exact .inl hbn.2.1
        · rw [upd_ne _ _ hai]
          exact .inr ⟨by have := hEq a ha; omega, q1.use a ha⟩
      · have hp := bag_take hi (beginS (s1.1.getD i zr) i k e).2 c1.dim (fun p hp => begin_to p hp)
        have hx' := hp.mem_iff.mp hx
        rw [hbag, List.nil_append] at hx'
        unfold outS at hx'
        obtain ⟨p, hpm, rfl⟩ := List.mem_map.mp hx'
        exact hbn.2.2 p hpm
    obtain ⟨hsn, hjp'⟩ := settle_n cc _ _ hjp hset
    have hstart : nSt e (s1.1.set i (beginS (s1.1.getD i zr) i k e).1, takeM s1.2 i (beginS (s1.1.getD i zr) i k e).2) = start0 k i (s1.1.map fun r => r.Token_Want) := by
      have hwi : (s1.1.map fun r => r.Token_Want).getD i false = (s1.1.getD i zr).Token_Want := by
        rw [List.getD_eq_getElem?_getD, List.getElem?_map, List.getD_eq_getElem?_getD, List.getElem?_eq_getElem hil]; rfl
      have hmap : s1.1.map (nS e) = (s1.1.map fun r => r.Token_Want).map oldS := by
        rw [List.map_map]
        apply List.map_congr_left
        intro r hrm
        obtain ⟨a, ha, rfl⟩ := List.mem_iff_getElem.mp hrm
        have h1 : at_ s1.1 a = s1.1[a] := by unfold at_; rw [List.getD_eq_getElem?_getD, List.getElem?_eq_getElem ha]; rfl
        have h2 := hEq a (by omega)
        rw [h1] at h2
        rw [nS_ne (by omega)]; rfl
      unfold nSt start0
      simp only
      rw [hwi, hbn.1, List.map_set, hmap, ← takeM_n]
      have hml : nMl s1.2 = List.replicate k (List.replicate k []) := by
        rw [q1.ml c1.dim]
        unfold nMl
        simp
      rw [hml]
    rw [hstart] at hsn
    have hgood : good (nSt e s') = true := by
      have hca := chkAll_all hk.1 hk.2
      unfold chkAll at hca
      rw [List.all_eq_true] at hca
      have h3 := hca i (List.mem_range.mpr hi)
      rw [List.all_eq_true] at h3
      have h4 := h3 (s1.1.map fun r => r.Token_Want) (allW_mem k _ (by simp [hrl]))
      unfold chk at h4
      cases hs : settle k 60 (start0 k i (s1.1.map fun r => r.Token_Want)) with
      | none => rw [hs] at h4; cases h4
      | some s'' =>
        rw [hs] at h4
        rw [settle_det _ _ _ _ _ hsn hs]; exact h4
    unfold good at hgood
    simp only [Bool.and_eq_true, List.all_eq_true] at hgood
    have hall : ∀ r ∈ s'.1, r.Token_Want = false ∧ r.Lost = false ∧ r.Asking = false ∧ r.Epoch = e := by
      intro r hrm
      have h3 := hgood.1 (nS e r) (List.mem_map.mpr ⟨r, hrm, rfl⟩)
      simp only [Bool.not_eq_true', decide_eq_true_eq] at h3
      by_cases hE : r.Epoch = e
      · rw [nS_eq hE] at h3
        exact ⟨h3.1.1.1, h3.1.1.2, h3.1.2, hE⟩
      · rw [nS_ne hE] at h3
        have := h3.2
        cases this
    have hcnt : s'.1.countP (fun r => r.Token_Has) = 1 := by
      have h3 := Nat.eq_of_beq_eq_true hgood.2
      have h4 : (nSt e s').1.countP (fun r => r.Token_Has) = s'.1.countP (fun r => r.Token_Has) := by
        show (s'.1.map (nS e)).countP _ = _
        rw [List.countP_map]
        apply List.countP_congr
        intro r hrm
        show (nS e r).Token_Has = true ↔ _
        rw [nS_eq (hall r hrm).2.2.2]; rfl
      omega
    have hfin := L4_0_eq 100000 k e ((beginS (s1.1.getD i zr) i k e).1.Lost, ((beginS (s1.1.getD i zr) i k e).1.Asking, ((beginS (s1.1.getD i zr) i k e).1.Promised, ((beginS (s1.1.getD i zr) i k e).1.Token_Has, ((beginS (s1.1.getD i zr) i k e).1.Token_Want, ((beginS (s1.1.getD i zr) i k e).1.Token_Using, ((beginS (s1.1.getD i zr) i k e).1.Token_Last, (beginS (s1.1.getD i zr) i k e).1.Token_Next))))))) s'.2 s'.1 up2 (by rw [c3.rl]; omega) hall s'.1.length 0 100000 0 (by omega) (by rw [c3.rl]; omega) (by omega)
    have z : ((0 : Nat) : Int) = (0 : Int) := rfl
    rw [z, List.drop_zero, hcnt] at hfin
    have e0 : ((0 : Int) != 0) = false := rfl
    have f2' : F9 100000 k (s1.1.set i (beginS (s1.1.getD i zr) i k e).1) up2 (takeM s1.2 i (beginS (s1.1.getD i zr) i k e).2) = some (true, (k, (s'.1, (up2, s'.2)))) := f2
    rw [hk2, g1]
    simp only [Option.bind_some, Bool.not_true, cond_false, f1, hrl, hk0, hw2, hi2, ge0, lt_t hi, Bool.and_self, cond_true, Int.toNat_natCast, getD_some hil zr, he4, ht, e0, f2']
    unfold L4_0
    rw [hbn.2.1, hfin]
    simp only [Option.bind_some, Sum.elim_inl, awake]
    rfl
  · have d : decide ((a0.length : Int) ≤ 400) = false := by simp; omega
    simp only [d, bNot, Bool.not_false, cond_true, awake, Option.bind_some]
end Go.Abs.Rg
end
