/- An evaluator of the model over pure data, and that its answers are those of the code; part 2. No conditions. -/
import Derived.Deep.Upon
import Derived.Conc.MuLone
import Derived.Test.YtehaojgljahjbaaLibA
section
set_option linter.all false
set_option linter.unusedVariables false
set_option linter.unusedSimpArgs false
set_option linter.unnecessarySimpa false
/-
  ABS, part 13: literals of slices, parts of slices, numbers, append.
-/
namespace Go.Abs
open Go
variable {G : Gam}

section
variable {P : Program} {F : Frm} {nt : Nat} {L : LM} {s : St G} {a : Act} {w : World}

/-! ### []T{..} -/
theorem fill_row {sz : Nat} : ∀ (parts : List (Nat × Value)) (j : Nat) (cur : Array Value), (∀ i (p : Nat × Value), parts[i]? = some p → p.1 = j + i ∧ p.2.cells.size = sz) → (j + parts.length) * sz ≤ cur.size →
    ∃ c', Instr.fill (fun i => some (i * sz, sz)) cur parts = some c' ∧ c'.toList = splice cur.toList (j * sz) (parts.map fun p => p.2.cells.toList).flatten := by
  intro parts
  induction parts with
  | nil => intro j cur _ _; exact ⟨cur, by simp [Instr.fill], by simp [splice]⟩
  | cons p parts ih =>
    intro j cur hp hsz
    obtain ⟨i, v⟩ := p
    have h0 := hp 0 (i, v) (by simp)
    simp only [Nat.add_zero] at h0
    obtain ⟨rfl, hv⟩ := h0
    have hmul : (i + (parts.length + 1)) * sz = i * sz + (parts.length * sz + sz) := by rw [Nat.add_mul, Nat.add_mul]; simp
    simp only [List.length_cons, hmul] at hsz
    have hf := fill_one (cells := cur) (off := i * sz) (cs := v.cells) (by omega)
    have hcs : (v.cells.zipIdx.foldl (fun a (c, j) => a.setIfInBounds (i * sz + j) c) cur).size = cur.size := by
      have := congrArg List.length hf
      simp only [Array.length_toList] at this
      rw [this]; unfold splice; simp; omega
    obtain ⟨c', h1, h2⟩ := ih (i + 1) (v.cells.zipIdx.foldl (fun a (c, j) => a.setIfInBounds (i * sz + j) c) cur)
      (fun k p hk => by have := hp (k + 1) p (by simpa using hk); exact ⟨by rw [this.1]; omega, this.2⟩)
      (by rw [hcs]; have : (i + 1 + parts.length) * sz = i * sz + (parts.length * sz + sz) := by rw [Nat.add_mul, Nat.add_mul]; omega
          omega)
    refine ⟨c', ?_, ?_⟩
    · simp only [Instr.fill, hv]
      rw [if_neg (by simp; omega)]
      exact h1
    · rw [h2, hf]
      simp only [List.map_cons, List.flatten_cons]
      have hvl : v.cells.toList.length = sz := by simp [hv]
      apply List.ext_getElem?
      intro q
      have hfl : (parts.map fun p => p.2.cells.toList).flatten.length = parts.length * sz := by
        clear ih h1 h2
        have : ∀ (ps : List (Nat × Value)) k, (∀ i (p : Nat × Value), ps[i]? = some p → p.1 = k + i ∧ p.2.cells.size = sz) → (ps.map fun p => p.2.cells.toList).flatten.length = ps.length * sz := by
          intro ps
          induction ps with
          | nil => intro _ _; simp
          | cons p ps ih =>
            intro k hp
            have := ih (k + 1) (fun i p' h' => by have := hp (i + 1) p' (by simpa using h'); exact ⟨by rw [this.1]; omega, this.2⟩)
            have h0 := (hp 0 p (by simp)).2
            simp only [List.map_cons, List.flatten_cons, List.length_append, this, List.length_cons, Nat.add_mul, Nat.one_mul]
            simp [h0]; omega
        exact this parts (i + 1) (fun k p hk => by have := hp (k + 1) p (by simpa using hk); exact ⟨by rw [this.1]; omega, this.2⟩)
      have e1 : (i + 1) * sz = i * sz + sz := by rw [Nat.add_mul]; simp
      rw [splice_get (by rw [hfl]; unfold splice; simp; omega), splice_get (by simp [hv]; omega), splice_get (by simp only [List.length_append, hfl, hvl]; simp; omega)]
      simp only [List.length_append, hfl, hvl, e1]
      rcases Nat.lt_or_ge q (i * sz) with hq | hq
      · rw [if_pos (by omega), if_pos hq, if_pos hq]
      · rcases Nat.lt_or_ge q (i * sz + sz) with hq2 | hq2
        · rw [if_pos hq2, if_neg (by omega), if_pos hq2, if_neg (by omega), if_pos (by omega), List.getElem?_append_left (by omega)]
        · rw [if_neg (by omega)]
          rcases Nat.lt_or_ge q (i * sz + sz + parts.length * sz) with hq3 | hq3
          · rw [if_pos hq3, if_neg (by omega), if_pos (by omega), List.getElem?_append_right (by omega)]
            congr 1; omega
          · rw [if_neg (by omega), if_neg (by omega), if_neg (by omega), if_neg (by omega), if_neg (by omega)]

theorem buildRow_ex {R : Type} {s : St G} {e : Ty} : ∀ (xs : List Operand) (k : List (G.D e) → List Nat → Option R) (r : R), buildRow s e xs k = some r →
    ∃ ys f, k ys f = some r ∧ ys.length = xs.length ∧ ∀ (i : Nat) (x : Operand), xs[i]? = some x → ∃ (y : G.D e) (g : List Nat), ys[i]? = some y ∧ asEl s e (s.ev x) = some (y, g) ∧ ∀ j ∈ g, j ∈ f := by
  intro xs
  induction xs with
  | nil => intro k r h; exact ⟨[], [], h, rfl, by intro i x hx; simp at hx⟩
  | cons x xs ih =>
    intro k r h
    simp only [buildRow] at h
    split at h
    · rename_i y f hy
      obtain ⟨ys, g, h1, h2, h3⟩ := ih _ r h
      refine ⟨y :: ys, f ++ g, h1, by simp [h2], fun i x' hx => ?_⟩
      cases i with
      | zero => simp at hx; subst hx; exact ⟨y, f, by simp, hy, fun j hj => by simp [hj]⟩
      | succ i =>
        obtain ⟨y', g', p1, p2, p3⟩ := h3 i x' (by simpa using hx)
        exact ⟨y', g', by simpa using p1, p2, fun j hj => by simp [p3 j hj]⟩
    · cases h

theorem inOrder_get : ∀ (l : List (Nat × Operand)) (j : Nat), inOrder j l = true → ∀ i (p : Nat × Operand), l[i]? = some p → p.1 = j + i := by
  intro l
  induction l with
  | nil => intro j _ i p h; simp at h
  | cons q l ih =>
    intro j h i p hp
    obtain ⟨q1, q2⟩ := q
    simp only [inOrder] at h
    obtain ⟨h1, h2⟩ := band h
    cases i with
    | zero => simp at hp; subst hp; simpa using beqT h1
    | succ i => have := ih (j + 1) h2 i p (by simpa using hp); omega

theorem asLfs_congr {s s' : St G} {ts : List Ty} {vs : List (EV G)} (h : ∀ i ∈ EV.idss vs, s'.look i = s.look i) : asLfs s' ts vs = asLfs s ts vs := by
  induction ts generalizing vs with
  | nil => cases vs <;> rfl
  | cons τ ts ih =>
    cases vs with
    | nil => rfl
    | cons v vs =>
      have h1 : asD s' τ v = asD s τ v := asD_congr fun i hi => h i (by simp [EV.idss, hi])
      have h2 : asLfs s' ts vs = asLfs s ts vs := ih fun i hi => h i (by simp [EV.idss, hi])
      simp only [asLfs, h1, h2]
theorem asEl_congr {s s' : St G} {e : Ty} {v : EV G} (h : ∀ i ∈ v.ids, s'.look i = s.look i) : asEl s' e v = asEl s e v := by
  unfold asEl; rw [asLfs_congr (by rw [cells_ids']; exact h)]

theorem buildSlice_ok {o : Oper} {t et len : Nat} {parts : Array (Nat × Operand)} {e : Ty} {ys : List (G.D e)} {f : List Nat} {nid : Nat} {s0 : St G} (hd : ∀ t, o.dst = some t → t < nt) (ho : o.op = .buildSlice t len parts) (he : elemT P t = some et)
    (hs : sizeT P et = some (szT G e)) (hf : s0.look nid = none) (hlen : len * szT G e ≤ 16777216) (hord : inOrder 0 parts.toList = true) (hn : parts.toList.length = len)
    (hys : ys.length = len) (hel : ∀ (i : Nat) (x : Operand), (parts.toList.map (·.2))[i]? = some x → ∃ (y : G.D e) (g : List Nat), ys[i]? = some y ∧ asEl s0 e (s0.ev x) = some (y, g) ∧ ∀ j ∈ g, j ∈ f)
    (hz : len * szT G e = 0 ∨ ∃ zc : List (EV G), zeroCells P et = some zc) (rd : List Nat) (hrd : ∀ p ∈ parts.toList, ∀ j ∈ (s0.ev p.2).ids, j ∈ rd) (hfr : ∀ j ∈ f, j ∈ rd) :
    OpOK P nt o s0.ev (nid :: rd) s0.look (.ow nid) ((nid, .row e ys 0) :: frz s0 f) := by
  intro F L s a w h hev hlk
  have hfree : s.look nid = none := by rw [hlk nid (by simp)]; exact hf
  have hpe : ∀ p ∈ parts.toList, s.ev p.2 = s0.ev p.2 := fun p hp => hev p.2 (by simp [ho, Op.operands]; exact ⟨p.1, by simpa using hp⟩)
  have hfz : frz s f = frz s0 f := frz_congr f (fun k hk => hlk k (by simp [hfr k hk]))
  have h1 := h.freeze f
  rw [hfz] at h1
  have hfree1 : (s.upd (frz s0 f)).look nid = none := by
    rw [St.look_upd, ← hfz]
    cases hx : lookT (frz s f) nid with
    | none => simpa using hfree
    | some e' => obtain ⟨_, _, _, _, h2, _⟩ := frz_look s f nid e' hx; rw [hfree] at h2; cases h2
  -- the elements
  have hels : ∀ i (hi : i < ys.length), ∃ l, (parts.toList.map fun p => (a.eval p.2).cells.toList)[i]? = some l ∧ RepD G (okOf F L (s.upd (frz s0 f))) w e ys[i] l := by
    intro i hi
    have hi' : i < parts.toList.length := by omega
    obtain ⟨y, g, p1, p2, p3⟩ := hel i (parts.toList[i].2) (by rw [List.getElem?_map, List.getElem?_eq_getElem hi']; rfl)
    have hp : parts.toList[i] ∈ parts.toList := List.getElem_mem hi'
    have hev' := hpe _ hp
    have hasE : asEl s e (s.ev parts.toList[i].2) = some (y, g) := by
      rw [hev', ← p2]; exact asEl_congr fun j hj => hlk j (by simp [hrd _ hp j hj])
    obtain ⟨_, hrep⟩ := asEl_sem h hasE (h.ev _) (okOf F L (s.upd (frz s0 f))) (by rw [← hfz]; exact keeps_less (frz_owned h.e f)) (fun i hi e xs n m q1 q2 o r1 r2 => by
      rw [← hfz]; exact frozen_ok h (p3 i hi) q1 q2 o r1 r2)
    have hyi : ys[i] = y := by rw [List.getElem?_eq_getElem hi] at p1; exact some_inj p1
    exact ⟨_, by rw [List.getElem?_map, List.getElem?_eq_getElem hi']; rfl, by rw [hyi]; exact hrep⟩
  have hcl : ∀ i (p : Nat × Value), (parts.toList.map fun p => (p.1, a.eval p.2))[i]? = some p → p.1 = 0 + i ∧ p.2.cells.size = szT G e := by
    intro i p hp
    have hi : i < parts.toList.length := by
      rcases Nat.lt_or_ge i parts.toList.length with h2 | h2
      · exact h2
      · rw [List.getElem?_eq_none (by simpa using h2)] at hp; cases hp
    rw [List.getElem?_map, List.getElem?_eq_getElem hi] at hp
    have hp := some_inj (by simpa using hp)
    obtain ⟨l, q1, q2⟩ := hels i (by omega)
    rw [List.getElem?_map, List.getElem?_eq_getElem hi] at q1
    have q1 := some_inj (by simpa using q1)
    have q3 := q2.length
    rw [← q1] at q3
    have := inOrder_get parts.toList 0 hord i _ (List.getElem?_eq_getElem hi)
    rw [← hp]
    exact ⟨this, by simpa using q3⟩
  have hzr : ∃ zs : Array Value, zs.size * len = len * szT G e * 0 + zs.size * len ∧ (Instr.buildSlice t len (parts.map fun (i, x) => (i, a.eval x))).run P w =
      (match Instr.fill (fun i => some (i * szT G e, szT G e)) ((Array.range (len * szT G e)).map (zs[· % zs.size]!)) (parts.toList.map fun p => (p.1, a.eval p.2)) with
        | some cells => (Result.ok (.slice (some ⟨w.heap.size, 0, none⟩) len len) (w.alloc (.cells cells et)))
        | none => .halt (.stuck "buildSlice: a part of the wrong size") w) := by
    rcases hz with hz | ⟨zc, hz⟩
    · refine ⟨#[], by simp, ?_⟩
      simp only [Instr.buildSlice, Sem.run_bind, run_underlying (elemT_under he), Result.andThen_ok, sizeT_run hs]
      rw [if_neg (by omega)]
      simp only [hz, if_true, pure_bind, Array.toList_map]
      cases Instr.fill (fun i => some (i * szT G e, szT G e)) (Array.map (fun x => (#[] : Array Value)[x % (#[] : Array Value).size]!) (Array.range 0)) (parts.toList.map fun p => (p.1, a.eval p.2)) with
      | none => simp
      | some cells => simp [newRow]
    · obtain ⟨z, hzv, _⟩ := zeroCells_sem hz w
      by_cases h0 : len * szT G e = 0
      · refine ⟨#[], by simp, ?_⟩
        simp only [Instr.buildSlice, Sem.run_bind, run_underlying (elemT_under he), Result.andThen_ok, sizeT_run hs]
        rw [if_neg (by omega)]
        simp only [h0, if_true, pure_bind, Array.toList_map]
        cases Instr.fill (fun i => some (i * szT G e, szT G e)) (Array.map (fun x => (#[] : Array Value)[x % (#[] : Array Value).size]!) (Array.range 0)) (parts.toList.map fun p => (p.1, a.eval p.2)) with
        | none => simp
        | some cells => simp [newRow]
      · refine ⟨z.cells, by simp, ?_⟩
        simp only [Instr.buildSlice, Sem.run_bind, run_underlying (elemT_under he), Result.andThen_ok, sizeT_run hs]
        rw [if_neg (by omega)]
        simp only [h0, if_false, Sem.run_bind, hzv, Result.andThen_ok, Array.toList_map, pure_bind]
        cases Instr.fill (fun i => some (i * szT G e, szT G e)) (Array.map (fun x => z.cells[x % z.cells.size]!) (Array.range (len * szT G e))) (parts.toList.map fun p => (p.1, a.eval p.2)) with
        | none => simp
        | some cells => simp [newRow]
  obtain ⟨zs, _, hrun⟩ := hzr
  obtain ⟨c', hc1, hc2⟩ := fill_row (sz := szT G e) (parts.toList.map fun p => (p.1, a.eval p.2)) 0 ((Array.range (len * szT G e)).map (zs[· % zs.size]!)) hcl (by simp [← hn])
  rw [hc1] at hrun
  simp only at hrun
  have hflat : c'.toList = (parts.toList.map fun p => (a.eval p.2).cells.toList).flatten ++ [] := by
    rw [hc2]
    have hm : (List.map (fun p : Nat × Value => p.2.cells.toList) (parts.toList.map fun p => (p.1, a.eval p.2))) = parts.toList.map fun p => (a.eval p.2).cells.toList := by
      rw [List.map_map]; rfl
    rw [hm]
    have hl : (parts.toList.map fun p => (a.eval p.2).cells.toList).flatten.length = len * szT G e := by
      have : ∀ l ∈ parts.toList.map (fun p => (a.eval p.2).cells.toList), l.length = szT G e := by
        intro l hl
        obtain ⟨i, hi, rfl⟩ := List.mem_iff_getElem.mp hl
        have hi' : i < parts.toList.length := by simpa using hi
        have := hcl i _ (by rw [List.getElem?_map, List.getElem?_eq_getElem hi']; rfl)
        simpa using this.2
      have gen : ∀ (ls : List (List Value)), (∀ l ∈ ls, l.length = szT G e) → ls.flatten.length = ls.length * szT G e := by
        intro ls
        induction ls with
        | nil => intro _; simp
        | cons l ls ih =>
          intro hl
          rw [List.flatten_cons, List.length_append, ih (fun l' h' => hl l' (by simp [h'])), hl l (by simp), List.length_cons, Nat.add_mul]; omega
      rw [gen _ this, List.length_map, hn]
    unfold splice
    rw [Nat.zero_mul, List.take_zero, List.nil_append, List.drop_of_length_le (by rw [hl]; simp)]
  have hsz : c'.size = len * szT G e := by
    have := congrArg List.length hc2
    simp only [Array.length_toList] at this
    rw [this]
    unfold splice
    have hm : (List.map (fun p : Nat × Value => p.2.cells.toList) (parts.toList.map fun p => (p.1, a.eval p.2))).flatten.length = len * szT G e := by
      have h3 := congrArg List.length hflat
      rw [hc2] at h3
      simp only [List.append_nil] at h3
      have hm' : (List.map (fun p : Nat × Value => p.2.cells.toList) (parts.toList.map fun p => (p.1, a.eval p.2))) = parts.toList.map fun p => (a.eval p.2).cells.toList := by
        rw [List.map_map]; rfl
      rw [hm']
      have gen : ∀ (ls : List (List Value)), (∀ l ∈ ls, l.length = szT G e) → ls.flatten.length = ls.length * szT G e := by
        intro ls
        induction ls with
        | nil => intro _; simp
        | cons l ls ih =>
          intro hl
          rw [List.flatten_cons, List.length_append, ih (fun l' h' => hl l' (by simp [h'])), hl l (by simp), List.length_cons, Nat.add_mul]; omega
      rw [gen _ (by
        intro l hl
        obtain ⟨i, hi, rfl⟩ := List.mem_iff_getElem.mp hl
        have hi' : i < parts.toList.length := by simpa using hi
        have := hcl i _ (by rw [List.getElem?_map, List.getElem?_eq_getElem hi']; rfl)
        simpa using this.2), List.length_map, hn]
    rw [List.length_append, List.length_append, hm, Nat.zero_mul, List.take_zero, List.length_nil, List.length_drop, Nat.zero_add, Nat.zero_add]
    simp
  have hnew := h1.newRow hfree1 (el := et) (w' := w.alloc (.cells c' et)) (cvs := c') rfl rfl rfl rfl (e := e) (xs := ys) (cap := len) (by omega) (by omega) (ls := parts.toList.map fun p => (a.eval p.2).cells.toList) (by rw [List.length_map]; omega) hels ⟨[], hflat⟩
  refine wp_value (u := .slice (some ⟨w.heap.size, 0, none⟩) len len) (w' := w.alloc (.cells c' et)) ?_ ⟨_, hnew.put o.dst hd _ _ (new_ow (by omega) (by omega)) ?_⟩
  · simp only [execOp, ho]
    rw [Sem.run_bind, hrun]; rfl
  · intro j hj; simp [EV.ids] at hj; subst hj; rw [upd1_look]; simp
end
end Go.Abs
end
section
set_option linter.all false
set_option linter.unusedVariables false
set_option linter.unusedSimpArgs false
set_option linter.unnecessarySimpa false
/-
  ABS, part 14: parts of slices and strings; numbers; append.
-/
namespace Go.Abs
open Go
variable {G : Gam}

section
variable {P : Program} {F : Frm} {nt : Nat} {L : LM} {s : St G} {a : Act} {w : World}

/-! ### x[l:h] -/
def loN (l : Option Int) : Nat := match l with | some l => l.toNat | none => 0
def hiN (h : Option Int) (n : Nat) : Nat := match h with | some h => h.toNat | none => n

theorem boundsE_nat {n : Nat} {l h : Option Int} (hb : boundsE n l h = true) : loN l ≤ hiN h n ∧ hiN h n ≤ n ∧ (∀ x, l = some x → 0 ≤ x) ∧ (∀ x, h = some x → 0 ≤ x) := by
  cases l with
  | none =>
    cases h with
    | none => simp [loN, hiN]
    | some h =>
      simp only [boundsE] at hb
      obtain ⟨h1, h2⟩ := band hb
      have h1 := of_decide_eq_true h1
      have h2 := of_decide_eq_true h2
      refine ⟨Nat.zero_le _, by simp only [hiN]; omega, by simp, by intro x hx; cases hx; exact h1⟩
  | some l =>
    cases h with
    | none =>
      simp only [boundsE] at hb
      obtain ⟨h1, h2⟩ := band hb
      have h1 := of_decide_eq_true h1
      have h2 := of_decide_eq_true h2
      refine ⟨by simp only [loN, hiN]; omega, Nat.le_refl _, by intro x hx; cases hx; exact h1, by simp⟩
    | some h =>
      simp only [boundsE] at hb
      obtain ⟨h1, h3⟩ := band hb
      obtain ⟨h1, h2⟩ := band h1
      have h1 := of_decide_eq_true h1
      have h2 := of_decide_eq_true h2
      have h3 := of_decide_eq_true h3
      refine ⟨by simp only [loN, hiN]; omega, by simp only [hiN]; omega, by intro x hx; cases hx; exact h1, by intro x hx; cases hx; omega⟩
theorem sliceD_eq {α : Type} {xs : List α} {l h : Option Int} (hb : boundsE xs.length l h = true) : sliceD xs l h = (xs.drop (loN l)).take (hiN h xs.length - loN l) := by
  obtain ⟨h1, h2, _, _⟩ := boundsE_nat hb
  cases l <;> cases h <;> simp only [sliceD, loN, hiN]
  · simp
  · simp
  · rw [List.take_of_length_le (by simp)]

theorem intOp_sem (h : Rel F nt L s a w) {x : Option Operand} {r : Option Int} (hi : intOp s x = some r) : x.map a.eval = r.map fun n => .int .i64 n := by
  cases x with
  | none => simp only [intOp] at hi; cases hi; rfl
  | some x =>
    simp only [intOp] at hi
    split at hi
    · rename_i n hx; cases hi; rw [Option.map_some, h.int hx]; rfl
    · cases hi

theorem sliceBounds_run {isS : Bool} {len cap : Nat} {l h : Option Int} (hb : boundsE len l h = true) (hc : len ≤ cap) :
    (Instr.sliceBounds isS len cap (l.map fun n => .int .i64 n) (h.map fun n => .int .i64 n) none).run P w = .ok (loN l, hiN h len, cap) w := by
  obtain ⟨h1, h2, h3, h4⟩ := boundsE_nat hb
  cases l with
  | none =>
    cases h with
    | none => simp [Instr.sliceBounds, loN, hiN]
    | some h =>
      have := h4 h rfl
      simp only [hiN, loN] at h1 h2 ⊢
      simp [Instr.sliceBounds, Instr.sliceBound, asIntOf, this, show h ≤ (cap : Int) by omega]
  | some l =>
    have hl := h3 l rfl
    cases h with
    | none =>
      simp only [hiN, loN] at h1 h2 ⊢
      simp [Instr.sliceBounds, Instr.sliceBound, asIntOf, hl, show l ≤ (len : Int) by omega]
    | some h =>
      have := h4 h rfl
      simp only [hiN, loN] at h1 h2 ⊢
      have e1 : l ≤ h := by omega
      have e2 : max h 0 = h := by omega
      simp [Instr.sliceBounds, Instr.sliceBound, asIntOf, hl, this, e2, show h ≤ (cap : Int) by omega]
      omega

theorem slice_run {t et z : Nat} (hu : P.underlying t = some (.slice et)) (hz : sizeT P et = some z) {A : Option Addr} {n c : Nat} {l h : Option Int} (hb : boundsE n l h = true) (hc : n ≤ c) :
    (Instr.sliceAt t (.slice A n c) (l.map fun n => .int .i64 n) (h.map fun n => .int .i64 n) none).run P w =
      .ok (.slice (if c = loN l then A else A.map (·.add (loN l * z))) (hiN h n - loN l) (c - loN l)) w := by
  simp [Instr.sliceAt, Instr.slice, run_underlying hu, sliceBounds_run hb hc, sizeT_run hz]

theorem sliceData_ok {o : Oper} {t et : Nat} {x : Operand} {lo hi : Option Operand} {l h : Option Int} {e : Ty} {xs : List (G.D e)} {s0 : St G} (hd : ∀ t, o.dst = some t → t < nt) (ho : o.op = .slice t x lo hi none) (hu : P.underlying t = some (.slice et))
    (hz : sizeT P et = some (szT G e)) (hx : s0.ev x = .d (.sl e) xs) (hlo : intOp s0 lo = some l) (hhi : intOp s0 hi = some h) (hb : boundsE xs.length l h = true) : OpOK P nt o s0.ev [] s0.look (.d (.sl e) (sliceD xs l h)) [] := by
  intro F L s a w hr hev hlk
  have hxs : s.ev x = .d (.sl e) xs := by rw [hev x (by simp [ho, Op.operands]), hx]
  have hl' : intOp s lo = some l := by
    rw [← hlo]; cases lo with
    | none => rfl
    | some q => simp only [intOp]; rw [hev q (by simp [ho, Op.operands])]
  have hh' : intOp s hi = some h := by
    rw [← hhi]; cases hi with
    | none => rfl
    | some q => simp only [intOp]; rw [hev q (by simp [ho, Op.operands])]
  have hxv := hr.ev x
  rw [hxs] at hxv
  simp only [RepV] at hxv
  obtain ⟨A, c, css, hcs, hc, hA0, hel, hm⟩ := hxv.2.inv
  have hav : a.eval x = .slice A xs.length c := by simpa using hcs
  obtain ⟨h1, h2, _, _⟩ := boundsE_nat hb
  refine wp_value (u := .slice (if c = loN l then A else A.map (·.add (loN l * szT G e))) (hiN h xs.length - loN l) (c - loN l)) (w' := w) ?_ (hr.fin hd ?_ (by simp [EV.ids]))
  · simp only [execOp, ho, hav, intOp_sem hr hl', intOp_sem hr hh', Option.map_none]
    rw [Sem.run_bind, slice_run hu hz hb hc]; rfl
  · simp only [RepV]
    refine ⟨rfl, ?_⟩
    rw [sliceD_eq hb]
    have hlen : ((xs.drop (loN l)).take (hiN h xs.length - loN l)).length = hiN h xs.length - loN l := by simp; omega
    have := RepD.sl (G := G) (ok := okOf F L s) (w := w) e ((xs.drop (loN l)).take (hiN h xs.length - loN l)) (if c = loN l then A else A.map (·.add (loN l * szT G e))) (c - loN l) (fun i => css (loN l + i)) (by omega) (by
        split
        · left; omega
        · rcases hA0 with h0 | ⟨q, h0⟩
          · left; omega
          · right; rw [h0]; exact ⟨_, rfl⟩)
      (fun i hi => by
        have e0 : ((xs.drop (loN l)).take (hiN h xs.length - loN l))[i] = xs[loN l + i]'(by omega) := by simp
        rw [e0]; exact hel _ _)
      (fun i hi => by
        rw [hlen] at hi
        obtain ⟨b, q, hA, hcell⟩ := hm (loN l + i) (by omega)
        refine ⟨b, q + loN l * szT G e, ?_, fun j v hj => ?_⟩
        · rw [if_neg (by omega), hA]; simp [Addr.add_mid]
        · have := hcell j v hj
          have e1 : q + loN l * szT G e + (i * szT G e + j) = q + ((loN l + i) * szT G e + j) := by rw [Nat.add_mul]; omega
          rw [e1]; exact this)
    rw [hlen] at this
    exact this

theorem sliceOwn_ok {o : Oper} {t et : Nat} {x : Operand} {lo hi : Option Operand} {l h : Option Int} {e : Ty} {xs : List (G.D e)} {lock id b n : Nat} {s0 : St G} (hd : ∀ t, o.dst = some t → t < nt) (ho : o.op = .slice t x lo hi none) (hu : P.underlying t = some (.slice et))
    (hz : sizeT P et = some (szT G e)) (hrow : s0.look id = some (.row e xs lock)) (hx : (s0.ev x = .ow id ∧ b = 0 ∧ n = xs.length) ∨ s0.ev x = .vw id b n) (hlo : intOp s0 lo = some l) (hhi : intOp s0 hi = some h) (hb : boundsE n l h = true) :
    OpOK P nt o s0.ev [id] s0.look (.vw id (b + loN l) (hiN h n - loN l)) [] := by
  intro F L s a w hr hev hlk
  have hxe : s.ev x = s0.ev x := hev x (by simp [ho, Op.operands])
  have hbk : s.look id = some (.row e xs lock) := by rw [hlk id (by simp), hrow]
  have hl' : intOp s lo = some l := by
    rw [← hlo]; cases lo with
    | none => rfl
    | some q => simp only [intOp]; rw [hev q (by simp [ho, Op.operands])]
  have hh' : intOp s hi = some h := by
    rw [← hhi]; cases hi with
    | none => rfl
    | some q => simp only [intOp]; rw [hev q (by simp [ho, Op.operands])]
  have hxv := hr.ev x
  rw [hxe] at hxv
  have hre := hr.e.en id _ hbk
  simp only [RepE] at hre
  obtain ⟨h1, h2, _, _⟩ := boundsE_nat hb
  have key : ∃ A c, a.eval x = .slice A n c ∧ n ≤ c ∧ match L id with
      | none => b = 0 ∧ n = 0 ∧ c = 0
      | some l => b + n ≤ l.len ∧ b + c ≤ l.cap ∧ (c = 0 ∨ A = some ⟨l.b, l.off + b * l.sz, none⟩) := by
    rcases hx with ⟨hx, rfl, rfl⟩ | hx
    · rw [hx] at hxv
      simp only [RepV] at hxv
      cases hl : L id with
      | none => simp only [hl] at hxv hre ⊢; obtain ⟨A, ha⟩ := hxv; rw [hre.2]; exact ⟨A, 0, ha, Nat.le_refl _, by first | trivial | rfl, by first | trivial | rfl, by first | trivial | rfl⟩
      | some l =>
        simp only [hl] at hxv hre ⊢
        obtain ⟨A, c, ha, p1, p2, p3⟩ := hxv
        rw [hre.2.2.1] at ha p1
        exact ⟨A, c, ha, p1, by have := hre.2.2.1; omega, by omega, by simpa using p3⟩
    · rw [hx] at hxv
      simp only [RepV] at hxv
      cases hl : L id with
      | none => simp only [hl] at hxv ⊢; obtain ⟨A, ha, p1, p2⟩ := hxv; subst p1; subst p2; exact ⟨A, 0, ha, Nat.le_refl _, rfl, rfl, rfl⟩
      | some l => simp only [hl] at hxv ⊢; obtain ⟨A, c, ha, p1, p2, p3, p4⟩ := hxv; exact ⟨A, c, ha, p1, p2, p3, p4⟩
  obtain ⟨A, c, hav, hnc, hm⟩ := key
  refine wp_value (u := .slice (if c = loN l then A else A.map (·.add (loN l * szT G e))) (hiN h n - loN l) (c - loN l)) (w' := w) ?_ (hr.fin hd ?_ ?_)
  · simp only [execOp, ho, hav, intOp_sem hr hl', intOp_sem hr hh', Option.map_none]
    rw [Sem.run_bind, slice_run hu hz hb hnc]; rfl
  · simp only [RepV]
    cases hl : L id with
    | none =>
      simp only [hl] at hm ⊢
      obtain ⟨rfl, rfl, rfl⟩ := hm
      have : loN l = 0 := by omega
      have h0 : hiN h 0 = 0 := by omega
      rw [this, h0]
      exact ⟨_, rfl, rfl, rfl⟩
    | some l' =>
      simp only [hl] at hm hre ⊢
      obtain ⟨p1, p2, p3⟩ := hm
      refine ⟨_, _, rfl, by omega, by omega, by omega, ?_⟩
      by_cases hcl : c = loN l
      · left; omega
      · right
        rw [if_neg hcl]
        rcases p3 with p3 | p3
        · omega
        · rw [p3, ← hre.2.1]
          simp only [Option.map_some, Addr.add_mid, Nat.add_mul, Nat.add_assoc]
  · intro j hj; simp [EV.ids] at hj; subst hj; simp [hbk]

theorem sliceNil_ok {o : Oper} {t et : Nat} {x : Operand} {lo hi : Option Operand} {l h : Option Int} {s0 : St G} (hd : ∀ t, o.dst = some t → t < nt) (ho : o.op = .slice t x lo hi none) (hu : P.underlying t = some (.slice et)) {z : Nat} (hz : sizeT P et = some z)
    (hx : s0.ev x = .nl) (hlo : intOp s0 lo = some l) (hhi : intOp s0 hi = some h) (hb : boundsE 0 l h = true) : OpOK P nt o s0.ev [] s0.look .nl [] := by
  intro F L s a w hr hev hlk
  have hxs : s.ev x = .nl := by rw [hev x (by simp [ho, Op.operands]), hx]
  have hl' : intOp s lo = some l := by
    rw [← hlo]; cases lo with
    | none => rfl
    | some q => simp only [intOp]; rw [hev q (by simp [ho, Op.operands])]
  have hh' : intOp s hi = some h := by
    rw [← hhi]; cases hi with
    | none => rfl
    | some q => simp only [intOp]; rw [hev q (by simp [ho, Op.operands])]
  have hxv := hr.ev x
  rw [hxs] at hxv
  simp only [RepV] at hxv
  obtain ⟨h1, h2, _, _⟩ := boundsE_nat hb
  refine wp_value (u := .slice none 0 0) (w' := w) ?_ (hr.fin hd (by simp only [RepV]) (by simp [EV.ids]))
  simp only [execOp, ho, hxv, intOp_sem hr hl', intOp_sem hr hh', Option.map_none]
  rw [Sem.run_bind, slice_run hu hz hb (Nat.le_refl _)]
  have e1 : loN l = 0 := by omega
  have e2 : hiN h 0 = 0 := by omega
  simp [e1, e2]

theorem sliceStr_ok {o : Oper} {t : Nat} {x : Operand} {lo hi : Option Operand} {l h : Option Int} {b : ByteArray} {s0 : St G} (hd : ∀ t, o.dst = some t → t < nt) (ho : o.op = .slice t x lo hi none) (hu : P.underlying t = some .string)
    (hx : s0.ev x = .d .str b) (hlo : intOp s0 lo = some l) (hhi : intOp s0 hi = some h) (hb : boundsE b.size l h = true) : OpOK P nt o s0.ev [] s0.look (.d .str (b.extract (loN l) (hiN h b.size))) [] := by
  intro F L s a w hr hev hlk
  have hxs : s.ev x = .d .str b := by rw [hev x (by simp [ho, Op.operands]), hx]
  have hl' : intOp s lo = some l := by
    rw [← hlo]; cases lo with
    | none => rfl
    | some q => simp only [intOp]; rw [hev q (by simp [ho, Op.operands])]
  have hh' : intOp s hi = some h := by
    rw [← hhi]; cases hi with
    | none => rfl
    | some q => simp only [intOp]; rw [hev q (by simp [ho, Op.operands])]
  have hav := hr.str hxs
  refine wp_value (u := .string (b.extract (loN l) (hiN h b.size))) (w' := w) ?_ (hr.fin hd (repStr _) (by simp [EV.ids]))
  simp only [execOp, ho, hav, intOp_sem hr hl', intOp_sem hr hh', Option.map_none]
  simp [Instr.sliceAt, Instr.slice, run_underlying hu, sliceBounds_run hb (Nat.le_refl _)]

/-! ### numbers that may fail -/
theorem div_ok {o : Oper} {t t2 : Nat} {x y : Operand} {k : IntKind} {m n r : Int} {op : BinOp} {s0 : St G} (hd : ∀ t, o.dst = some t → t < nt) (ho : o.op = .binOp op t x y t2) (hx : s0.ev x = .d (.int k) m) (hy : s0.ev y = .d (.int k) n)
    (h0 : n ≠ 0) (hop : (op = .quo ∧ r = k.wrap (m.tdiv n)) ∨ (op = .rem ∧ r = m.tmod n)) : OpOK P nt o s0.ev [] s0.look (.d (.int k) r) [] := by
  intro F L s a w hr hev hlk
  have hxs := hr.int (by rw [hev x (by simp [ho, Op.operands]), hx] : s.ev x = .d (.int k) m)
  have hys := hr.int (by rw [hev y (by simp [ho, Op.operands]), hy] : s.ev y = .d (.int k) n)
  refine wp_value (u := .int k r) (w' := w) ?_ (hr.fin hd (repInt _ _) (by simp [EV.ids]))
  simp only [execOp, ho, hxs, hys]
  rw [Sem.run_bind, Sem.run_bind, eqGuard_plain (by simp) (by simp)]
  simp only [Result.andThen_ok]
  rcases hop with ⟨rfl, rfl⟩ | ⟨rfl, rfl⟩ <;> simp [binOp, Op.intDiv, h0]
theorem shift_ok {o : Oper} {t t2 : Nat} {x y : Operand} {k k' : IntKind} {m n r : Int} {op : BinOp} {s0 : St G} (hd : ∀ t, o.dst = some t → t < nt) (ho : o.op = .binOp op t x y t2) (hx : s0.ev x = .d (.int k) m) (hy : s0.ev y = .d (.int k') n)
    (h0 : ¬ n < 0) (hop : (op = .shl ∧ r = k.wrap (m * 2 ^ (min n.toNat k.bits))) ∨ (op = .shr ∧ r = m.fdiv (2 ^ (min n.toNat k.bits)))) : OpOK P nt o s0.ev [] s0.look (.d (.int k) r) [] := by
  intro F L s a w hr hev hlk
  have hxs := hr.int (by rw [hev x (by simp [ho, Op.operands]), hx] : s.ev x = .d (.int k) m)
  have hys := hr.int (by rw [hev y (by simp [ho, Op.operands]), hy] : s.ev y = .d (.int k') n)
  refine wp_value (u := .int k r) (w' := w) ?_ (hr.fin hd (repInt _ _) (by simp [EV.ids]))
  simp only [execOp, ho, hxs, hys]
  rw [Sem.run_bind, Sem.run_bind, eqGuard_plain (by simp) (by simp)]
  simp only [Result.andThen_ok]
  rcases hop with ⟨rfl, rfl⟩ | ⟨rfl, rfl⟩ <;> simp [binOp, Op.shift, h0]
theorem cat_ok {o : Oper} {t t2 : Nat} {x y : Operand} {m n : ByteArray} {s0 : St G} (hd : ∀ t, o.dst = some t → t < nt) (ho : o.op = .binOp .add t x y t2) (hx : s0.ev x = .d .str m) (hy : s0.ev y = .d .str n)
    (h0 : (m.size : Int) + n.size ≤ 9223372036854775807) : OpOK P nt o s0.ev [] s0.look (.d .str (sCat m n)) [] := by
  intro F L s a w hr hev hlk
  have hxs := hr.str (by rw [hev x (by simp [ho, Op.operands]), hx] : s.ev x = .d .str m)
  have hys := hr.str (by rw [hev y (by simp [ho, Op.operands]), hy] : s.ev y = .d .str n)
  refine wp_value (u := .string (m ++ n)) (w' := w) ?_ (hr.fin hd (repStr _) (by simp [EV.ids]))
  simp only [execOp, ho, hxs, hys]
  rw [Sem.run_bind, Sem.run_bind, eqGuard_plain (by simp) (by simp)]
  simp only [Result.andThen_ok]
  have : ¬ (((m.size + n.size : Nat) : Int) > IntKind.i64.max) := by
    have e : IntKind.i64.max = 9223372036854775807 := by decide
    rw [e]; omega
  simp only [binOp, Op.stringOp]
  rw [if_neg this]
  rfl
end
end Go.Abs
end
section
set_option linter.all false
set_option linter.unusedVariables false
set_option linter.unusedSimpArgs false
set_option linter.unnecessarySimpa false
/-
  ABS, part 15: append.
-/
namespace Go.Abs
open Go
variable {G : Gam}

section
variable {P : Program} {F : Frm} {nt : Nat} {L : LM} {s : St G} {a : Act} {w : World}

theorem cellV_one {v : Value} (hv : CellV v) : v.oneCell' = true := by cases v <;> first | rfl | exact hv.elim
theorem RepL.oneCell {ok : Cells} : ∀ {l : List (Lf G.S)} {cs : List Value}, (∀ τ ∈ l.map (fun | .mk τ _ => τ), τ.leaf = true) → RepL G ok w l cs → ∀ v ∈ cs, v.oneCell' = true := by
  intro l
  induction l with
  | nil => intro cs _ h v hv; cases h; cases hv
  | cons a l ih =>
    intro cs hl h v hv
    cases h with
    | cons τ x u _ vs h t =>
      rcases List.mem_cons.mp hv with rfl | hv
      · exact cellV_one (cellV_of (hl τ (by simp)) h)
      · exact ih (fun τ' h' => hl τ' (by simp at h' ⊢; exact .inr h')) t v hv
theorem RepD.oneCell {ok : Cells} {τ : Ty} {x : G.D τ} {cs : List Value} (h : RepD G ok w τ x cs) : ∀ v ∈ cs, v.oneCell' = true :=
  RepL.oneCell (cellsT_leaf τ x) h.cells

/-- Elements that lie one after the other: their cells as one list. -/
structure Row (G : Gam) (ok : Cells) (w : World) (e : Ty) (ys : List (G.D e)) (B : Option Addr) (news : List Value) : Prop where
  len : news.length = ys.length * szT G e
  el : ∃ ls : List (List Value), ls.length = ys.length ∧ news = ls.flatten ∧ ∀ i (hi : i < ys.length), ∃ l, ls[i]? = some l ∧ RepD G ok w e ys[i] l
  mem : ys.length = 0 ∨ ∃ b o, B = some ⟨b, o, none⟩ ∧ ∀ j u, news[j]? = some u → w.cell? ⟨b, o + j, none⟩ = some u

theorem flatten_len (sz : Nat) : ∀ (ls : List (List Value)), (∀ l ∈ ls, l.length = sz) → ls.flatten.length = ls.length * sz := by
  intro ls
  induction ls with
  | nil => intro _; simp
  | cons l ls ih =>
    intro hl
    rw [List.flatten_cons, List.length_append, ih (fun l' h' => hl l' (by simp [h'])), hl l (by simp), List.length_cons, Nat.add_mul]; omega

theorem Row.of {ok : Cells} {e : Ty} {ys : List (G.D e)} {B : Option Addr} (css : Nat → List Value) (hel : ∀ i (hi : i < ys.length), RepD G ok w e ys[i] (css i))
    (hm : ys.length = 0 ∨ ∃ b o, B = some ⟨b, o, none⟩ ∧ ∀ i, i < ys.length → ∀ j v, (css i)[j]? = some v → w.cell? ⟨b, o + (i * szT G e + j), none⟩ = some v) :
    Row G ok w e ys B ((List.range ys.length).map css).flatten := by
  have hls : ∀ l ∈ (List.range ys.length).map css, l.length = szT G e := by
    intro l hl
    obtain ⟨i, hi, rfl⟩ := List.mem_map.mp hl
    exact (hel i (by simpa using hi)).length
  have hlen := flatten_len (szT G e) _ hls
  simp only [List.length_map, List.length_range] at hlen
  refine ⟨hlen, ⟨_, by simp, rfl, fun i hi => ⟨css i, by simp [hi], hel i hi⟩⟩, hm.imp id ?_⟩
  rintro ⟨b, o, hB, hc⟩
  refine ⟨b, o, hB, fun j u hj => ?_⟩
  have hjl : j < ys.length * szT G e := by
    rw [← hlen]
    rcases Nat.lt_or_ge j ((List.range ys.length).map css).flatten.length with h | h
    · exact h
    · rw [List.getElem?_eq_none h] at hj; cases hj
  have hz : 0 < szT G e := by
    rcases Nat.eq_zero_or_pos (szT G e) with hz | hz
    · rw [hz] at hjl; simp at hjl
    · exact hz
  have hi : j / szT G e < ys.length := by apply Nat.div_lt_of_lt_mul; rw [Nat.mul_comm]; exact hjl
  have hq : j % szT G e < szT G e := Nat.mod_lt _ hz
  have hcl := (hel _ hi).length
  have hg : (css (j / szT G e))[j % szT G e]? = some ((css (j / szT G e))[j % szT G e]'(by omega)) := List.getElem?_eq_getElem (by omega)
  have e0 : j / szT G e * szT G e + j % szT G e = j := by rw [Nat.mul_comm]; exact Nat.div_add_mod _ _
  have h1 := hc _ hi _ _ hg
  have h2 := concat_get (szT G e) _ hls (j / szT G e) (j % szT G e) _ (by simp only [List.getElem?_map, List.getElem?_range hi, Option.map_some, Option.bind_some]; exact hg)
  rw [e0] at h1 h2
  rw [h2] at hj
  rw [← some_inj hj]; exact h1

theorem Row.ofRowAt {e : Ty} {xs : List (G.D e)} {b off lo n : Nat} {ok : Cells} (h : RowAt G ok w e xs b off) (hn : lo + n ≤ xs.length) {A : Option Addr} (hA : n = 0 ∨ A = some ⟨b, off + lo * szT G e, none⟩) :
    ∃ news, Row G ok w e ((xs.drop lo).take n) A news := by
  obtain ⟨css, hcs⟩ := h
  have hlen : ((xs.drop lo).take n).length = n := by simp; omega
  refine ⟨_, Row.of (fun i => css (lo + i)) (fun i hi => ?_) ?_⟩
  · have e0 : ((xs.drop lo).take n)[i] = xs[lo + i]'(by omega) := by simp
    rw [e0]; exact (hcs (lo + i) (by omega)).1
  · rw [hlen]
    rcases hA with hA | hA
    · exact .inl hA
    · refine .inr ⟨b, _, hA, fun i hi j v hj => ?_⟩
      have := (hcs (lo + i) (by omega)).2 j v hj
      have e1 : off + lo * szT G e + (i * szT G e + j) = off + ((lo + i) * szT G e + j) := by rw [Nat.add_mul]; omega
      rw [e1]; exact this

theorem Row.nil {ok : Cells} {e : Ty} {A : Option Addr} : Row G ok w e ([] : List (G.D e)) A [] := ⟨by simp, ⟨[], rfl, rfl, fun i hi => absurd hi (Nat.not_lt_zero _)⟩, .inl rfl⟩

theorem Row.ofData {ok : Cells} {e : Ty} {xs : List (G.D e)} {v : Value} (h : RepD G ok w (.sl e) xs [v]) : ∃ B c news, v = .slice B xs.length c ∧ xs.length ≤ c ∧ Row G ok w e xs B news := by
  obtain ⟨A, c, css, hcs, hc, hA0, hel, hm⟩ := h.inv
  simp at hcs
  refine ⟨A, c, _, hcs, hc, Row.of css hel ?_⟩
  rcases Nat.eq_zero_or_pos xs.length with h0 | h0
  · exact .inl h0
  · obtain ⟨b, o, hA, _⟩ := hm 0 h0
    refine .inr ⟨b, o, hA, fun i hi j v hj => ?_⟩
    obtain ⟨b', o', hA', hc'⟩ := hm i hi
    rw [hA] at hA'; cases hA'
    exact (hc' j v hj).2

theorem rowOf_sem (h : Rel F nt L s a w) {e : Ty} {v : EV G} {ys : List (G.D e)} {u : Value} (hr : rowOfD s e v = some ys) (hv : RepV (okOf F L s) w L v u) :
    ∃ B c news, u = .slice B ys.length c ∧ ys.length ≤ c ∧ Row G (okOf F L s) w e ys B news := by
  have own : ∀ (i lo n : Nat) (xs : List (G.D e)) (A : Option Addr) (c : Nat), n ≤ c → ((∃ kk, s.look i = some (.row e xs kk)) ∨ s.look i = some (.fz e xs)) →
      (match L i with | none => lo = 0 ∧ n = 0 | some l => lo + n ≤ l.len ∧ (c = 0 ∨ A = some ⟨l.b, l.off + lo * l.sz, none⟩)) →
      ∃ news, Row G (okOf F L s) w e ((xs.drop lo).take n) A news ∧ ((xs.drop lo).take n).length = n := by
    intro i lo n xs A c hnc hi hm
    have key : (match L i with | none => xs = [] | some l => l.sz = szT G e ∧ l.len = xs.length ∧ RowAt G (okOf F L s) w e xs l.b l.off) := by
      rcases hi with ⟨kk, hi⟩ | hi
      · have := h.e.en i _ hi
        simp only [RepE] at this
        cases hl : L i with
        | none => simpa [hl] using this.2
        | some l => simp only [hl] at this ⊢; exact ⟨this.2.1, this.2.2.1, this.2.2.2.2.2⟩
      · have := h.e.en i _ hi
        simp only [RepE] at this
        cases hl : L i with
        | none => simpa [hl] using this
        | some l => simp only [hl] at this ⊢; exact ⟨this.1, this.2.1, this.2.2.2⟩
    cases hl : L i with
    | none =>
      simp only [hl] at hm key
      obtain ⟨rfl, rfl⟩ := hm
      exact ⟨[], by simpa using Row.nil, by simp⟩
    | some l =>
      simp only [hl] at hm key
      obtain ⟨p1, p2, p3⟩ := key
      obtain ⟨news, hn⟩ := Row.ofRowAt (A := A) p3 (lo := lo) (n := n) (by omega) (by rcases hm.2 with q | q; exact .inl (by omega); exact .inr (by rw [← p1]; exact q))
      exact ⟨news, hn, by simp; omega⟩
  unfold rowOfD at hr
  split at hr
  · rename_i τ x
    split at hr
    · rename_i y hy
      cases hr
      obtain ⟨e0, he⟩ := castD_eq hy
      subst e0
      have he : x = ys := he
      subst he
      simp only [RepV] at hv
      exact Row.ofData hv.2
    · split at hr
      · rename_i y hy
        obtain ⟨e0, he⟩ := castD_eq hy
        subst e0
        have hr : y = ys := Option.some.inj hr
        have he : x = ys := Eq.trans he hr
        subst he
        simp only [RepV] at hv
        obtain ⟨A, c, hxs, hsl⟩ := hv.2.inv
        exact Row.ofData hsl
      · cases hr
  · cases hr
    simp only [RepV] at hv
    exact ⟨none, 0, [], by simpa using hv, Nat.le_refl _, Row.nil⟩
  · rename_i i
    split at hr
    · rename_i e' xs kk hi
      obtain ⟨e0, he⟩ := castD_eq hr
      cases e0
      have he : xs = ys := he
      subst he
      simp only [RepV] at hv
      have hre := h.e.en i _ hi
      simp only [RepE] at hre
      cases hl : L i with
      | none => simp only [hl] at hv hre; obtain ⟨A, rfl⟩ := hv; rw [hre.2]; exact ⟨A, 0, [], rfl, Nat.le_refl _, Row.nil⟩
      | some l =>
        simp only [hl] at hv hre
        obtain ⟨A, c, rfl, p1, p2, p3⟩ := hv
        obtain ⟨news, hn, _⟩ := own i 0 l.len xs A c p1 (.inl ⟨kk, hi⟩) (by simp only [hl]; exact ⟨by omega, by simpa using p3⟩)
        have e1 : (xs.drop 0).take l.len = xs := by rw [hre.2.2.1]; simp
        rw [e1] at hn
        exact ⟨A, c, news, by rw [hre.2.2.1], by rw [← hre.2.2.1]; exact p1, hn⟩
    · rename_i e' xs hi
      obtain ⟨e0, he⟩ := castD_eq hr
      cases e0
      have he : xs = ys := he
      subst he
      simp only [RepV] at hv
      have hre := h.e.en i _ hi
      simp only [RepE] at hre
      cases hl : L i with
      | none => simp only [hl] at hv hre; obtain ⟨A, rfl⟩ := hv; rw [hre]; exact ⟨A, 0, [], rfl, Nat.le_refl _, Row.nil⟩
      | some l =>
        simp only [hl] at hv hre
        obtain ⟨A, c, rfl, p1, p2, p3⟩ := hv
        obtain ⟨news, hn, _⟩ := own i 0 l.len xs A c p1 (.inr hi) (by simp only [hl]; exact ⟨by omega, by simpa using p3⟩)
        have e1 : (xs.drop 0).take l.len = xs := by rw [hre.2.1]; simp
        rw [e1] at hn
        exact ⟨A, c, news, by rw [hre.2.1], by rw [← hre.2.1]; exact p1, hn⟩
    · cases hr
  · rename_i i lo n
    split at hr
    · rename_i e' xs kk hi
      obtain ⟨e0, he⟩ := castD_eq hr
      cases e0
      have he : (xs.drop lo).take n = ys := he
      subst he
      simp only [RepV] at hv
      cases hl : L i with
      | none =>
        simp only [hl] at hv
        obtain ⟨A, rfl, rfl, rfl⟩ := hv
        exact ⟨A, 0, [], by simp, by simp, by simpa using Row.nil⟩
      | some l =>
        simp only [hl] at hv
        obtain ⟨A, c, rfl, p1, p2, p3, p4⟩ := hv
        obtain ⟨news, hn, hlen⟩ := own i lo n xs A c p1 (.inl ⟨kk, hi⟩) (by simp only [hl]; exact ⟨p2, p4⟩)
        exact ⟨A, c, news, by rw [hlen], by rw [hlen]; exact p1, hn⟩
    · rename_i e' xs hi
      obtain ⟨e0, he⟩ := castD_eq hr
      cases e0
      have he : (xs.drop lo).take n = ys := he
      subst he
      simp only [RepV] at hv
      cases hl : L i with
      | none =>
        simp only [hl] at hv
        obtain ⟨A, rfl, rfl, rfl⟩ := hv
        exact ⟨A, 0, [], by simp, by simp, by simpa using Row.nil⟩
      | some l =>
        simp only [hl] at hv
        obtain ⟨A, c, rfl, p1, p2, p3, p4⟩ := hv
        obtain ⟨news, hn, hlen⟩ := own i lo n xs A c p1 (.inr hi) (by simp only [hl]; exact ⟨p2, p4⟩)
        exact ⟨A, c, news, by rw [hlen], by rw [hlen]; exact p1, hn⟩
    · cases hr
  · cases hr

/-- What the base of an append is. -/
inductive Base (G : Gam) (F : Frm) (L : LM) (s : St G) (e : Ty) (xs : List (G.D e)) (A : Option Addr) (c lock : Nat) : List (Nat × Ent G) → Prop
  | nil (hx : xs = []) (hc : c = 0) (hl : lock = 0) : Base G F L s e xs A c lock []
  | bare (id : Nat) (lk : Nat) (zs : List (G.D e)) (hs : s.look id = some (.row e zs lk)) (hl : L id = none) (hx : xs = []) (hc : c = 0) (h0 : lock = 0) (e' : Ent G) (he : e' = .tomb ∨ e' = .fz e xs) : Base G F L s e xs A c lock [(id, e')]
  | row (id lo lk : Nat) (l : Loc) (zs : List (G.D e)) (hs : s.look id = some (.row e zs lk)) (hl : L id = some l) (hx : xs = (zs.drop lo).take xs.length) (hn : lo + xs.length ≤ l.len) (hc : lo + c ≤ l.cap) (hA : c = 0 ∨ A = some ⟨l.b, l.off + lo * l.sz, none⟩)
      (hlk : lk ≤ lo + xs.length) (hlock : lk ≤ lo + lock) (hle : lock ≤ xs.length) (e' : Ent G) (he : e' = .tomb ∨ (e' = .fz e xs ∧ lo = 0 ∧ xs = zs ∧ lock = xs.length)) : Base G F L s e xs A c lock [(id, e')]

theorem baseOf_sem (h : Rel F nt L s a w) {keep : Bool} {e : Ty} {v : EV G} {xs : List (G.D e)} {lock : Nat} {used : List (Nat × Ent G)} {u : Value} (hb : baseOf s keep e v = some (xs, lock, used)) (hv : RepV (okOf F L s) w L v u) :
    ∃ A c, u = .slice A xs.length c ∧ xs.length ≤ c ∧ Base G F L s e xs A c lock used := by
  unfold baseOf at hb
  split at hb
  · cases hb
    simp only [RepV] at hv
    exact ⟨none, 0, hv, Nat.le_refl _, .nil rfl rfl rfl⟩
  · rename_i i
    split at hb
    · rename_i e' zs lk hi
      split at hb
      · rename_i y hy
        obtain ⟨e0, he⟩ := castD_eq hy
        cases e0
        have he : zs = y := he
        subst he
        cases hb
        simp only [RepV] at hv
        have hre := h.e.en i _ hi
        simp only [RepE] at hre
        cases hl : L i with
        | none =>
          simp only [hl] at hv hre
          obtain ⟨A, rfl⟩ := hv
          obtain ⟨h0, h1⟩ := hre
          subst h1
          have : lk = 0 := by simpa using h0
          subst this
          exact ⟨A, 0, rfl, Nat.le_refl _, .bare i 0 [] hi hl rfl rfl (by cases keep <;> rfl) _ (by cases keep <;> simp)⟩
        | some l =>
          simp only [hl] at hv hre
          obtain ⟨A, c, rfl, p1, p2, p3⟩ := hv
          have q := hre.2.2.1
          refine ⟨A, c, by rw [q], by omega, .row i 0 lk l _ hi hl (by simp) (by omega) (by omega) (by simpa using p3) (by omega) ?_ ?_ _ ?_⟩
          · cases keep <;> simp <;> omega
          · cases keep <;> simp <;> omega
          · cases keep
            · exact .inl rfl
            · exact .inr ⟨rfl, rfl, rfl, rfl⟩
      · cases hb
    · cases hb
  · rename_i i lo n
    split at hb
    · rename_i e' zs lk hi
      split at hb
      · rename_i y hy
        obtain ⟨e0, he⟩ := castD_eq hy
        cases e0
        have he : (zs.drop lo).take n = y := he
        subst he
        obtain ⟨hk, hb⟩ := guardb hb
        obtain ⟨hk1, _⟩ := band hk
        have hk1 := lockOK_le hk1
        cases hb
        simp only [RepV] at hv
        have hre := h.e.en i _ hi
        simp only [RepE] at hre
        cases hl : L i with
        | none =>
          simp only [hl] at hv hre
          obtain ⟨A, rfl, rfl, rfl⟩ := hv
          obtain ⟨h0, h1⟩ := hre
          subst h1
          have : lk = 0 := by simpa using h0
          subst this
          exact ⟨A, 0, by simp, by simp, .bare i 0 [] hi hl (by simp) rfl rfl _ (.inl rfl)⟩
        | some l =>
          simp only [hl] at hv hre
          obtain ⟨A, c, rfl, p1, p2, p3, p4⟩ := hv
          have q := hre.2.2.1
          have hlen : ((zs.drop lo).take n).length = n := by simp; omega
          exact ⟨A, c, by rw [hlen], by rw [hlen]; exact p1, .row i lo lk l zs hi hl (by rw [hlen]) (by rw [hlen]; exact p2) p3 p4 (by rw [hlen]; exact hk1) (by omega) (by rw [hlen]; omega) _ (.inl rfl)⟩
      · cases hb
    · cases hb
  · cases hb
end
end Go.Abs
end
section
set_option linter.all false
set_option linter.unusedVariables false
set_option linter.unusedSimpArgs false
set_option linter.unnecessarySimpa false
/-
  ABS, part 16: append, the whole.
-/
namespace Go.Abs
open Go
variable {G : Gam}

section
variable {P : Program} {F : Frm} {nt : Nat} {L : LM} {s : St G} {a : Act} {w : World}

theorem Rel.ext (h : Rel F nt L s a w) {s' : St G} (hg : ∀ t, s'.get t = s.get t) (hk : ∀ i, s'.look i = s.look i) : Rel F nt L s' a w := by
  have ho : okOf F L s' = okOf F L s := by funext b o; simp only [okOf, owned, hk]
  refine ⟨⟨h.e.fits, ?_, ?_, ?_, ?_, fun i hi => by rw [hk]; exact h.e.lent i hi⟩, ?_, ?_, h.defers, h.size⟩
  · intro i e hi; rw [ho]; rw [hk] at hi; exact h.e.en i e hi
  · intro i e hi j hj; rw [hk] at *; exact h.e.ids i e hi j hj
  · intro i j e f l m hi hj; rw [hk] at hi hj; exact h.e.dis i j e f l m hi hj
  · intro i e l hi; rw [hk] at hi; exact h.e.own i e l hi
  · intro t; rw [ho, hg]; exact h.tm t
  · intro t j hj; rw [hg] at hj; rw [hk]; exact h.tids t j hj

theorem Rel.base' (h : Rel F nt L s a w) {i : Nat} {e : Ent G} {l : Loc} (hi : s.look i = some e) (hl : L i = some l) (oe : owner e) {x : Nat} (hx : blks e l x) (o : Nat) : F.base x o := by
  rcases (h.e.own i e l hi hl oe x hx).2 with h3 | h3
  · exact .inr (.inr h3)
  · exact (h3 o).2
theorem Rel.base (h : Rel F nt L s a w) {i : Nat} {e : Ent G} {l : Loc} (hi : s.look i = some e) (hl : L i = some l) (oe : owner e) (o : Nat) (hb : blks e l l.b := by exact rfl) : F.base l.b o :=
  h.base' hi hl oe hb o
theorem blks_of {e f : Ent G} {l : Loc} (oe : owner e) (h : ∀ b o, owns l e b o → owns l f b o) {x : Nat} (hx : blks e l x) : blks f l x := by
  obtain ⟨o, ho⟩ := owns_any oe hx
  exact (owns_blk (h x o ho)).2

/-- Entries are given up, or locked further: the world stays. -/
theorem Rel.release (h : Rel F nt L s a w) (up : List (Nat × Ent G)) (L' : LM) (hL : ∀ i, (s.look i).isSome → L' i = L i)
    (less : ∀ i e, lookT up i = some e → (∀ l, L' i = some l → owner e → ∃ e0, s.look i = some e0 ∧ owner e0 ∧ ∀ b o, owns l e b o → owns l e0 b o))
    (ch : ∀ i e, lookT up i = some e → (∀ j ∈ e.nms, ((s.upd up).look j).isSome) ∧ ∀ ok', Keeps (okOf F L s) ok' w w → (∀ b o, ok' b o ↔ okOf F L' (s.upd up) b o) → RepE ok' w L' i e) :
    Rel F nt L' (s.upd up) a w := by
  have ownd : ∀ b o, owned (s.upd up) L' b o → owned s L b o := by
    rintro b o ⟨i, e, l, hi, hl, hw⟩
    have oe : owner e := (owns_blk hw).1
    rw [St.look_upd] at hi
    cases hu : lookT up i with
    | none =>
      rw [hu] at hi
      have hi : s.look i = some e := by simpa using hi
      exact ⟨i, e, l, hi, by rw [← hL i (by simp [hi])]; exact hl, hw⟩
    | some e' =>
      rw [hu] at hi
      have : e' = e := by simpa using hi
      subst this
      obtain ⟨e0, h1, _, h3⟩ := less i e' hu l hl oe
      exact ⟨i, e0, l, h1, by rw [← hL i (by simp [h1])]; exact hl, h3 b o hw⟩
  have k : Keeps (okOf F L s) (okOf F L' (s.upd up)) w w := fun b o v h1 h2 => ⟨⟨h1.1, fun h3 => h1.2 (ownd b o h3)⟩, h2⟩
  refine h.step up h.e.fits k hL (fun _ _ _ _ _ _ _ _ _ => rfl) ?_ (Nat.le_refl _) ?_ ?_
  · intro i e hi
    exact ⟨(ch i e hi).2 _ k (fun _ _ => Iff.rfl), (ch i e hi).1⟩
  · intro i j e f l m hi hj hl hm oe og ne x hx
    obtain ⟨e0, h1, h2, h3⟩ := less i e hi l hl oe
    have hx := blks_of oe h3 hx
    rw [hL i (by simp [h1])] at hl
    rw [St.look_upd] at hj
    cases hu : lookT up j with
    | none =>
      rw [hu] at hj
      have hj : s.look j = some f := by simpa using hj
      rw [hL j (by simp [hj])] at hm
      exact h.e.dis i j _ _ l m h1 hj hl hm h2 og ne x hx
    | some f' =>
      rw [hu] at hj
      have : f' = f := by simpa using hj
      subst this
      obtain ⟨f0, g1, g2, g3⟩ := less j f' hu m hm og
      rw [hL j (by simp [g1])] at hm
      exact fun hy => h.e.dis i j _ _ l m h1 g1 hl hm h2 g2 ne x hx (blks_of og g3 hy)
  · intro i e l hi hl oe x hx
    obtain ⟨e0, h1, h2, h3⟩ := less i e hi l hl oe
    rw [hL i (by simp [h1])] at hl
    obtain ⟨q1, q2⟩ := h.e.own i e0 l h1 hl h2 x (blks_of oe h3 hx)
    exact ⟨q1, q2.imp id fun q2 o => ⟨fun hw => (q2 o).1 (h3 _ _ hw), (q2 o).2⟩⟩

theorem append_grow (h : Rel F nt L s a w) {nid : Nat} (hfree : s.look nid = none) {e : Ty} {xs ys : List (G.D e)} {A : Option Addr} {c lock : Nat} {used : List (Nat × Ent G)} (hb : Base G F L s e xs A c lock used) {et : TypeId}
    {w' : World} {cvs : Array Value} (hh : w'.heap = w.heap.push (.cells cvs et)) (ho : w'.os = w.os) (ht : w'.tape = w.tape) (hp : w'.output = w.output) {cap : Nat} (hcap : xs.length + ys.length ≤ cap) (hsz : cap * szT G e ≤ cvs.size)
    {ls : List (List Value)} (hls : ls.length = (xs ++ ys).length) (hel : ∀ i (hi : i < (xs ++ ys).length), ∃ l, ls[i]? = some l ∧ RepD G (okOf F L s) w e (xs ++ ys)[i] l) (hcv : ∃ r, cvs.toList = ls.flatten ++ r) :
    Rel F nt (fun i => if i = nid then some ⟨w.heap.size, 0, szT G e, cap, (xs ++ ys).length, fun _ _ => False, fun _ => none⟩ else L i) (s.upd ((nid, .row e (xs ++ ys) lock) :: used)) a w' := by
  have h1 := h.newRow hfree hh ho ht hp (e := e) (xs := xs ++ ys) (cap := cap) (by simpa using hcap) hsz hls hel hcv
  have nn : ∀ i, (s.look i).isSome → i ≠ nid := fun i hi e => by subst e; rw [hfree] at hi; cases hi
  have hlk1 : ∀ i, (s.look i).isSome → (s.upd [(nid, Ent.row e (xs ++ ys) 0)]).look i = s.look i := fun i hi => by rw [upd1_look, if_neg (Ne.symm (nn i hi))]
  have hnid1 : (s.upd [(nid, Ent.row e (xs ++ ys) 0)]).look nid = some (.row e (xs ++ ys) 0) := by rw [upd1_look, if_pos rfl]
  have hlock : lock ≤ xs.length := by cases hb with | nil _ _ h => omega | bare _ _ _ _ _ _ _ h => omega | row _ _ _ _ _ _ _ _ _ _ _ _ _ h => exact h
  have hused : ∀ i f, lookT used i = some f → i ≠ nid ∧ ∃ zs lk, s.look i = some (.row e zs lk) ∧ (f = .tomb ∨ (f = .fz e xs ∧ xs = zs)) := by
    intro i f hf
    cases hb with
    | nil => cases hf
    | bare id lk zs hs hl hx hc h0 e' he =>
      rw [lookT_cons] at hf
      split at hf
      · rename_i hid; subst hid; cases hf
        have hre := h.e.en id _ hs
        simp only [RepE, hl] at hre
        exact ⟨nn id (by simp [hs]), zs, lk, hs, he.imp (fun h => h) fun he => ⟨he, by rw [hx, hre.2]⟩⟩
      · cases hf
    | row id lo lk l zs hs hl hx hn hc hA hlk hlk2 hle e' he =>
      rw [lookT_cons] at hf
      split at hf
      · rename_i hid; subst hid; cases hf
        exact ⟨nn id (by simp [hs]), zs, lk, hs, he.imp (fun h => h) fun he => ⟨he.1, he.2.2.1⟩⟩
      · cases hf
  have h2 := h1.release ((nid, .row e (xs ++ ys) lock) :: used) (fun i => if i = nid then some ⟨w.heap.size, 0, szT G e, cap, (xs ++ ys).length, fun _ _ => False, fun _ => none⟩ else L i) (fun _ _ => rfl) ?_ ?_
  · refine h2.ext (fun t => rfl) (fun i => ?_)
    simp only [St.look_upd, lookT_cons]
    by_cases hi : nid = i
    · simp [hi]
    · simp [hi, lookT]
  · intro i f hf l hl oe
    rw [lookT_cons] at hf
    split at hf
    · rename_i hi; subst hi; cases hf
      refine ⟨_, hnid1, trivial, fun b o hw => ⟨hw.1, ?_⟩⟩
      have := hw.2
      simp only [Nat.zero_mul]
      omega
    · obtain ⟨_, _, _, _, hf' | ⟨hf', _⟩⟩ := hused i f hf
      · subst hf'; exact oe.elim
      · subst hf'; exact oe.elim
  · intro i f hf
    rw [lookT_cons] at hf
    split at hf
    · rename_i hi; subst hi; cases hf
      refine ⟨by simp [Ent.nms], fun ok' k _ => ?_⟩
      have hre := h1.e.en _ _ hnid1
      simp only [RepE, if_true] at hre ⊢
      exact ⟨by simp; omega, hre.2.1, hre.2.2.1, hre.2.2.2.1, hre.2.2.2.2.1, hre.2.2.2.2.2.mono k fun o v hc _ => hc⟩
    · obtain ⟨hne, zs, lk, hs, hf' | ⟨hf', hz⟩⟩ := hused i f hf
      · subst hf'; exact ⟨by simp [Ent.nms], fun _ _ _ => trivial⟩
      · subst hf'; subst hz
        refine ⟨by simp [Ent.nms], fun ok' k hok => ?_⟩
        have hs1 : (s.upd [(nid, Ent.row e (xs ++ ys) 0)]).look i = some (.row e xs lk) := by rw [hlk1 i (by simp [hs]), hs]
        have hre := h1.e.en i _ hs1
        simp only [RepE, if_neg hne] at hre ⊢
        cases hl : L i with
        | none => simpa [hl] using hre.2
        | some l =>
          simp only [hl] at hre ⊢
          refine ⟨hre.2.1, hre.2.2.1, fun o v p q _ => ?_, hre.2.2.2.2.2.mono k fun o v hc _ => hc⟩
          rw [hok]
          refine ⟨h.base hs hl trivial o, ?_⟩
          rintro ⟨j, g, m, hj, hm, hw⟩
          have og : owner g := by cases g <;> first | trivial | exact hw.elim
          have hmb := (owns_blk hw).2
          rw [St.look_upd, lookT_cons] at hj
          by_cases hjn : nid = j
          · rw [if_pos hjn] at hj
            have : Ent.row e (xs ++ ys) lock = g := by simpa using hj
            subst this
            have hm : (if j = nid then some _ else L j) = some m := hm
            rw [if_pos hjn.symm] at hm
            cases hm
            have := (h.e.ownb i _ l hs hl trivial).1
            have hmb : l.b = w.heap.size := hmb
            omega
          · rw [if_neg hjn] at hj
            have hm : (if j = nid then some _ else L j) = some m := hm
            rw [if_neg (Ne.symm hjn)] at hm
            cases hu : lookT used j with
            | some g' =>
              rw [hu] at hj
              have : g' = g := by simpa using hj
              subst this
              obtain ⟨_, _, _, _, hg | ⟨hg, _⟩⟩ := hused j g' hu
              · subst hg; exact og.elim
              · subst hg; exact og.elim
            | none =>
              rw [hu] at hj
              simp only [Option.none_or, upd1_look, if_neg hjn] at hj
              have hij : i ≠ j := by
                intro hij; subst hij
                rw [hu] at hf; cases hf
              exact h.e.dis i j _ _ l m hs hj hl hm trivial og hij l.b rfl hmb
end
end Go.Abs
end
section
set_option linter.all false
set_option linter.unusedVariables false
set_option linter.unusedSimpArgs false
set_option linter.unnecessarySimpa false
/-
  ABS, part 17: append, in place, and all of it.
-/
namespace Go.Abs
open Go
variable {G : Gam}

section
variable {P : Program} {F : Frm} {nt : Nat} {L : LM} {s : St G} {a : Act} {w : World}

theorem cell_setCells {b o : Nat} {vs : List Value} {cur : Array Value} {el : TypeId} (hc : w.heap[b]? = some (.cells cur el (0, 0))) (hsz : o + vs.length ≤ cur.size) (o' : Nat) :
    (w.setCells b o vs).cell? ⟨b, o', none⟩ = if o ≤ o' ∧ o' < o + vs.length then vs[o' - o]? else w.cell? ⟨b, o', none⟩ := by
  simp only [World.cell?, heap_setCells b vs o w cur hc hsz, hc]
  simp only [List.getElem?_toArray, Option.isSome_none, Bool.false_eq_true, if_false]
  rw [splice_get (by simpa using hsz)]
  by_cases h1 : o' < o
  · rw [if_pos h1, if_neg (by omega)]; simp
  · rw [if_neg h1]
    by_cases h2 : o' < o + vs.length
    · rw [if_pos h2, if_pos ⟨by omega, h2⟩]
    · rw [if_neg h2, if_neg (by omega)]; simp

theorem RowAt.sub {ok : Cells} {e : Ty} {xs : List (G.D e)} {b off : Nat} (h : RowAt G ok w e xs b off) (lo n : Nat) : RowAt G ok w e ((xs.drop lo).take n) b (off + lo * szT G e) := by
  obtain ⟨css, hcs⟩ := h
  refine ⟨fun i => css (lo + i), fun i hi => ?_⟩
  have hi' : lo + i < xs.length := by simp at hi; omega
  have e0 : ((xs.drop lo).take n)[i] = xs[lo + i] := by simp
  rw [e0]
  refine ⟨(hcs _ hi').1, fun j v hj => ?_⟩
  have := (hcs _ hi').2 j v hj
  have e1 : off + lo * szT G e + (i * szT G e + j) = off + ((lo + i) * szT G e + j) := by rw [Nat.add_mul]; omega
  rw [e1]; exact this

theorem RowAt.append {ok : Cells} {e : Ty} {xs ys : List (G.D e)} {b off : Nat} (h : RowAt G ok w e xs b off) {B : Option Addr} {news : List Value} (hr : Row G ok w e ys B news)
    (hc : ∀ j v, news[j]? = some v → w.cell? ⟨b, off + (xs.length * szT G e + j), none⟩ = some v) : RowAt G ok w e (xs ++ ys) b off := by
  obtain ⟨css, hcs⟩ := h
  obtain ⟨ls, p1, p2, p3⟩ := hr.el
  have hls : ∀ l ∈ ls, l.length = szT G e := by
    intro l hl
    obtain ⟨i, hi, rfl⟩ := List.mem_iff_getElem.mp hl
    obtain ⟨l', q1, q2⟩ := p3 i (by omega)
    rw [List.getElem?_eq_getElem hi] at q1
    rw [some_inj q1]; exact q2.length
  refine ⟨fun i => if i < xs.length then css i else (ls[i - xs.length]?).getD [], fun i hi => ?_⟩
  by_cases h1 : i < xs.length
  · simp only [h1, if_true]
    rw [List.getElem_append_left h1]
    exact hcs i h1
  · simp only [h1, if_false]
    rw [List.getElem_append_right (by omega)]
    have hi' : i - xs.length < ys.length := by simp at hi; omega
    obtain ⟨l, q1, q2⟩ := p3 _ hi'
    rw [q1]
    refine ⟨q2, fun j v hj => ?_⟩
    have := concat_get (szT G e) ls hls (i - xs.length) j v (by rw [q1]; exact hj)
    rw [← p2] at this
    have := hc _ v this
    have e1 : xs.length * szT G e + ((i - xs.length) * szT G e + j) = i * szT G e + j := by
      rw [← Nat.add_assoc, ← Nat.add_mul]; congr 2; omega
    rw [e1] at this; exact this

theorem Row.keeps {ok ok' : Cells} {w' : World} {e : Ty} {ys : List (G.D e)} {B : Option Addr} {news : List Value} (h : Row G ok w e ys B news) (k : Keeps ok ok' w w') (hm : ∃ b o, B = some ⟨b, o, none⟩ ∧ ∀ j u, news[j]? = some u → w'.cell? ⟨b, o + j, none⟩ = some u) :
    Row G ok' w' e ys B news := by
  obtain ⟨ls, p1, p2, p3⟩ := h.el
  exact ⟨h.len, ⟨ls, p1, p2, fun i hi => by obtain ⟨l, q1, q2⟩ := p3 i hi; exact ⟨l, q1, q2.mono k⟩⟩, .inr hm⟩

theorem Row.one {ok : Cells} {e : Ty} {ys : List (G.D e)} {B : Option Addr} {news : List Value} (h : Row G ok w e ys B news) : ∀ v ∈ news, v.oneCell' = true := by
  obtain ⟨ls, p1, p2, p3⟩ := h.el
  subst p2
  intro v hv
  obtain ⟨l, hl, hv⟩ := List.mem_flatten.mp hv
  obtain ⟨i, hi, rfl⟩ := List.mem_iff_getElem.mp hl
  obtain ⟨l', q1, q2⟩ := p3 i (by omega)
  rw [List.getElem?_eq_getElem hi] at q1
  rw [some_inj q1] at hv; exact q2.oneCell v hv

theorem append_place (h : Rel F nt L s a w) {nid : Nat} (hfree : s.look nid = none) {e : Ty} {xs ys : List (G.D e)} {id lo lk : Nat} {l : Loc} {zs : List (G.D e)} {c lock : Nat} {e' : Ent G} (hs : s.look id = some (.row e zs lk)) (hl : L id = some l)
    (hx : xs = (zs.drop lo).take xs.length) (hn : lo + xs.length ≤ l.len) (hc : lo + c ≤ l.cap) (hlk : lk ≤ lo + xs.length) (hlock : lk ≤ lo + lock) (hle : lock ≤ xs.length) (he : e' = .tomb ∨ (e' = .fz e xs ∧ lo = 0 ∧ xs = zs ∧ lock = xs.length))
    {B : Option Addr} {news : List Value} (hr : Row G (okOf F L s) w e ys B news) (hroom : xs.length + ys.length ≤ c) :
    Rel F nt (fun i => if i = nid then some ⟨l.b, l.off + lo * l.sz, l.sz, c, xs.length + ys.length, fun _ _ => False, fun _ => none⟩ else L i) (s.upd [(nid, .row e (xs ++ ys) lock), (id, e')]) a (w.setCells l.b (l.off + (lo + xs.length) * l.sz) news) := by
  have hre := h.e.en id _ hs
  simp only [RepE, hl] at hre
  obtain ⟨r0, r1, r2, r3, ⟨cur, el, r4, r5⟩, r6⟩ := hre
  have nn : ∀ i, (s.look i).isSome → i ≠ nid := fun i hi e => by subst e; rw [hfree] at hi; cases hi
  have hid : id ≠ nid := nn id (by simp [hs])
  have own := h.e.ownb id _ l hs hl trivial
  generalize ho0 : l.off + (lo + xs.length) * l.sz = o0
  have hnl : news.length = ys.length * l.sz := by rw [hr.len, r1]
  have hsz : o0 + news.length ≤ cur.size := by
    have h1 : (lo + (xs.length + ys.length)) * l.sz ≤ l.cap * l.sz := Nat.mul_le_mul_right _ (by omega)
    rw [← ho0, hnl]
    have h2 : (lo + (xs.length + ys.length)) * l.sz = (lo + xs.length) * l.sz + ys.length * l.sz := by rw [← Nat.add_mul]; congr 1; omega
    omega
  have hlk0 : lk * l.sz ≤ (lo + xs.length) * l.sz := Nat.mul_le_mul_right _ hlk
  have hin : ∀ o', o0 ≤ o' → owns l (.row e zs lk) l.b o' := fun o' h1 => ⟨rfl, by omega⟩
  -- the cells after
  have cellb := cell_setCells (w := w) (vs := news) r4 hsz
  have cells : ∀ b o', ¬ (b = l.b ∧ o0 ≤ o' ∧ o' < o0 + news.length) → (w.setCells l.b o0 news).cell? ⟨b, o', none⟩ = w.cell? ⟨b, o', none⟩ := by
    intro b o' hn
    by_cases hb : b = l.b
    · subst hb
      rw [cellb, if_neg (fun h => hn ⟨rfl, h⟩)]
    · exact cell_block (heap_setCells_other l.b news o0 w b hb) o'
  have cellN : ∀ j v, news[j]? = some v → (w.setCells l.b o0 news).cell? ⟨l.b, o0 + j, none⟩ = some v := by
    intro j v hj
    have : j < news.length := by
      rcases Nat.lt_or_ge j news.length with h | h
      · exact h
      · rw [List.getElem?_eq_none h] at hj; cases hj
    rw [cellb, if_pos ⟨by omega, by omega⟩, show o0 + j - o0 = j by omega]; exact hj
  have hlo : lock * l.sz + lo * l.sz ≥ lk * l.sz := by rw [← Nat.add_mul]; exact Nat.mul_le_mul_right _ (by omega)
  -- who owns what
  let L' : LM := fun i => if i = nid then some ⟨l.b, l.off + lo * l.sz, l.sz, c, xs.length + ys.length, fun _ _ => False, fun _ => none⟩ else L i
  have hLn : L' nid = some ⟨l.b, l.off + lo * l.sz, l.sz, c, xs.length + ys.length, fun _ _ => False, fun _ => none⟩ := if_pos rfl
  have hLo : ∀ i, (s.look i).isSome → L' i = L i := fun i hi => if_neg (nn i hi)
  have lku : ∀ i, (s.upd [(nid, Ent.row e (xs ++ ys) lock), (id, e')]).look i = if i = nid then some (.row e (xs ++ ys) lock) else if i = id then some e' else s.look i := by
    intro i
    rw [St.look_upd, lookT_cons, lookT_cons]
    by_cases h1 : nid = i
    · simp [h1]
    · by_cases h2 : id = i
      · simp [h1, h2, Ne.symm h1]
      · simp [h1, h2, Ne.symm h1, Ne.symm h2, lookT]
  have noe' : ¬ owner e' := by rcases he with rfl | ⟨rfl, _⟩ <;> simp [owner]
  have ownd : ∀ b o, owned (s.upd [(nid, Ent.row e (xs ++ ys) lock), (id, e')]) L' b o → owned s L b o ∧ (b = l.b → l.off + lo * l.sz + lock * l.sz ≤ o) := by
    rintro b o ⟨i, f, m, hi, hm, hw⟩
    have of : owner f := (owns_blk hw).1
    rw [lku] at hi
    split at hi
    · rename_i h1; subst h1; cases hi
      rw [hLn] at hm; cases hm
      obtain ⟨h1, h2⟩ := hw
      simp only at h1 h2
      subst h1
      exact ⟨⟨id, _, l, hs, hl, rfl, by omega⟩, fun _ => h2⟩
    · split at hi
      · cases hi; exact absurd of noe'
      · rename_i h1 h2
        rw [hLo i (by simp [hi])] at hm
        refine ⟨⟨i, f, m, hi, hm, hw⟩, fun hb => ?_⟩
        exact absurd hb (h.e.dis i id f _ m l hi hs hm hl of trivial h2 b (owns_blk hw).2)
  have k : Keeps (okOf F L s) (okOf F L' (s.upd [(nid, Ent.row e (xs ++ ys) lock), (id, e')])) w (w.setCells l.b o0 news) := by
    intro b o v h1 h2
    refine ⟨⟨h1.1, fun h3 => h1.2 (ownd b o h3).1⟩, ?_⟩
    rw [cells b o (fun h3 => h1.2 ⟨id, _, l, hs, hl, h3.1 ▸ hin o h3.2.1⟩)]; exact h2
  have hf : Fits F (w.setCells l.b o0 news) := by
    have fo := setCells_os l.b news o0 w
    refine ⟨by rw [fo.1]; exact h.e.fits.os, by rw [fo.2.1]; exact h.e.fits.tape, by rw [fo.2.2]; exact h.e.fits.output, by rw [setCells_size]; exact h.e.fits.size, ?_, ?_⟩
    · intro b hb hx
      by_cases hbl : b = l.b
      · subst hbl
        rcases own.2 with h1 | h1
        · omega
        · cases news with
          | nil => exact h.e.fits.block _ hb hx
          | cons v vs => exact absurd ((h1 o0).1 (hin o0 (Nat.le_refl _))) (hx o0)
      · rw [heap_setCells_other l.b news o0 w b hbl]; exact h.e.fits.block b hb hx
    · intro b o' hb hx
      rw [cells b o' ?_]
      · exact h.e.fits.cell b o' hb hx
      · rintro ⟨hbl, h2, _⟩
        subst hbl
        rcases own.2 with h1 | h1
        · omega
        · exact hx ((h1 o').1 (hin o' h2))
  -- the row
  have hrow0 : RowAt G (okOf F L' (s.upd [(nid, Ent.row e (xs ++ ys) lock), (id, e')])) (w.setCells l.b o0 news) e xs l.b (l.off + lo * szT G e) := by
    have h1 := r6.sub lo xs.length
    rw [← hx] at h1
    refine h1.mono k fun o v hcl ho => ?_
    rw [cells]
    · exact hcl
    · rintro ⟨_, h2, _⟩
      rw [← ho0, r1, Nat.add_mul] at h2
      omega
  have hrow : RowAt G (okOf F L' (s.upd [(nid, Ent.row e (xs ++ ys) lock), (id, e')])) (w.setCells l.b o0 news) e (xs ++ ys) l.b (l.off + lo * szT G e) := by
    obtain ⟨ls, p1, p2, p3⟩ := hr.el
    refine hrow0.append (B := some ⟨l.b, o0, none⟩) (news := news) ⟨hr.len, ⟨ls, p1, p2, fun i hi => by obtain ⟨l, q1, q2⟩ := p3 i hi; exact ⟨l, q1, q2.mono k⟩⟩, .inr ⟨_, _, rfl, cellN⟩⟩ fun j v hj => ?_
    have := cellN j v hj
    have e1 : l.off + lo * szT G e + (xs.length * szT G e + j) = o0 + j := by rw [← ho0, r1, Nat.add_mul]; omega
    rw [e1]; exact this
  refine h.step [(nid, .row e (xs ++ ys) lock), (id, e')] hf k hLo ?_ ?_ (by rw [setCells_size]; exact Nat.le_refl _) ?_ ?_
  · intro i f m hu hi of hm x hx
    have hij : i ≠ id := by
      intro e0; subst e0
      rw [lookT_cons, lookT_cons, if_neg (Ne.symm hid), if_pos rfl] at hu; cases hu
    exact heap_setCells_other l.b news o0 w x (h.e.dis i id f _ m l hi hs hm hl of trivial hij x hx)
  · intro i f hu
    rw [lookT_cons] at hu
    split at hu
    · rename_i h1; subst h1; cases hu
      refine ⟨?_, by simp [Ent.nms]⟩
      simp only [RepE, if_true]
      refine ⟨by simp; omega, r1, by simp, hroom, ⟨_, el, heap_setCells l.b news o0 w cur r4 hsz, ?_⟩, Eq.mp (congrArg (RowAt G (okOf F L' (s.upd [(nid, Ent.row e (xs ++ ys) lock), (id, e')])) (w.setCells l.b o0 news) e (xs ++ ys) l.b) (by rw [r1] : l.off + lo * szT G e = l.off + lo * l.sz)) hrow⟩
      have h1 : (lo + c) * l.sz ≤ l.cap * l.sz := Nat.mul_le_mul_right _ hc
      have h2 : (lo + c) * l.sz = lo * l.sz + c * l.sz := Nat.add_mul _ _ _
      have h3 : (splice cur.toList o0 news).length = cur.size := by unfold splice; simp; omega
      simp only [List.size_toArray, h3]; omega
    · rw [lookT_cons] at hu
      split at hu
      · rename_i h1 h2; subst h2; cases hu
        rcases he with rfl | ⟨rfl, rfl, rfl, rfl⟩
        · exact ⟨trivial, by simp [Ent.nms]⟩
        · refine ⟨?_, by simp [Ent.nms]⟩
          simp only [RepE, if_neg hid, hl]
          refine ⟨r1, r2, fun o v p q _ => ⟨h.base hs hl trivial o, fun h3 => ?_⟩, ?_⟩
          · have := (ownd _ _ h3).2 rfl
            rw [r2] at q; omega
          · exact Eq.mp (congrArg (RowAt G (okOf F L' (s.upd [(nid, Ent.row e (xs ++ ys) xs.length), (id, Ent.fz e xs)])) (w.setCells l.b o0 news) e xs l.b) (by simp : l.off + 0 * szT G e = l.off)) hrow0
      · cases hu
  · intro i j f g m m' hu hj hm hm' of og ne
    have hi : i = nid := by
      rw [lookT_cons] at hu
      split at hu
      · rename_i h1; exact h1.symm
      · rw [lookT_cons] at hu
        split at hu
        · cases hu; exact absurd of noe'
        · cases hu
    subst hi
    rw [lookT_cons, if_pos rfl] at hu; cases hu
    rw [lku, if_neg (Ne.symm ne)] at hj
    split at hj
    · cases hj; exact absurd og noe'
    · rename_i h2
      have hm' : L' j = some m' := hm'
      rw [hLo j (by simp [hj])] at hm'
      have hm : L' i = some m := hm
      rw [hLn] at hm; cases hm
      exact fun x hx hy => h.e.dis j id g _ m' l hj hs hm' hl og trivial h2 x hy hx
  · intro i f m hu hm of x hx
    have hi : i = nid := by
      rw [lookT_cons] at hu
      split at hu
      · rename_i h1; exact h1.symm
      · rw [lookT_cons] at hu
        split at hu
        · cases hu; exact absurd of noe'
        · cases hu
    subst hi
    rw [lookT_cons, if_pos rfl] at hu; cases hu
    have hm : L' i = some m := hm
    rw [hLn] at hm; cases hm
    rw [setCells_size]
    have hx : x = l.b := hx
    subst hx
    refine ⟨own.1, own.2.imp (fun h => h) fun h1 o' => ⟨fun hw => (h1 o').1 ⟨rfl, ?_⟩, (h1 o').2⟩⟩
    have := hw.2
    simp only at this; omega
end
end Go.Abs
end
section
set_option linter.all false
set_option linter.unusedVariables false
set_option linter.unusedSimpArgs false
set_option linter.unnecessarySimpa false
/-
  ABS, part 18: append, as an operation.
-/
namespace Go.Abs
open Go
variable {G : Gam}

section
variable {P : Program} {F : Frm} {nt : Nat} {L : LM} {s : St G} {a : Act} {w : World}

theorem Row.src {ok : Cells} {e : Ty} {ys : List (G.D e)} {B : Option Addr} {news : List Value} (h : Row G ok w e ys B news) {t e' : TypeId} (hk : P.underlying t = some (.slice e')) (c : Nat) {z : Nat} (hz : z = szT G e) :
    Src P z t (.slice B ys.length c) ys.length news w := by
  subst hz
  cases B with
  | none =>
    rcases h.mem with h0 | ⟨b, o, h0, _⟩
    · have hl := h.len
      rw [h0, Nat.zero_mul] at hl
      rw [h0, List.length_eq_zero_iff.mp hl]
      exact Src.ofNil w hk c
    · cases h0
  | some A =>
    refine Src.ofSlice w hk A ys.length c news h.len (fun j u hj => ?_) h.one
    rcases h.mem with h0 | ⟨b, o, h0, h1⟩
    · have hl := h.len
      rw [h0, Nat.zero_mul] at hl
      rw [List.length_eq_zero_iff.mp hl] at hj; simp at hj
    · cases h0
      simpa [Addr.add_lit] using h1 j u hj

/-- The base's elements. -/
theorem Base.row_of (h : Rel F nt L s a w) {e : Ty} {xs : List (G.D e)} {A : Option Addr} {c lock : Nat} {used : List (Nat × Ent G)} (hb : Base G F L s e xs A c lock used) (hle : xs.length ≤ c) : ∃ olds, Row G (okOf F L s) w e xs A olds := by
  cases hb with
  | nil hx => subst hx; exact ⟨[], Row.nil⟩
  | bare _ _ _ _ _ hx => subst hx; exact ⟨[], Row.nil⟩
  | row id lo lk l zs hs hl hx hn hc hA =>
    have hre := h.e.en id _ hs
    simp only [RepE, hl] at hre
    have := Row.ofRowAt (A := A) hre.2.2.2.2.2 (lo := lo) (n := xs.length) (by omega) (by rcases hA with h1 | h1; exact .inl (by omega); exact .inr (by rw [← hre.2.1]; exact h1))
    rw [← hx] at this; exact this

theorem Base.lock_le {e : Ty} {xs : List (G.D e)} {A : Option Addr} {c lock : Nat} {used : List (Nat × Ent G)} (hb : Base G F L s e xs A c lock used) : lock ≤ xs.length := by
  cases hb with
  | nil _ _ h => omega
  | bare _ _ _ _ _ _ _ h => omega
  | row _ _ _ _ _ _ _ _ _ _ _ _ _ h => exact h

theorem append_ok {o : Oper} {t et b z nid : Nat} {x y : Operand} {e : Ty} {xs ys : List (G.D e)} {lock : Nat} {used : List (Nat × Ent G)} {keep : Bool} {args : Array Operand} {ats : Array TypeId} {res : Array TypeId} {s0 : St G} {zc : List (EV G)} {call : Call}
    (hd : ∀ t, o.dst = some t → t < nt) (ho : o.op = .call call) (hcal : call.callee = .builtin .append) (hargs : call.args = #[x, y]) (hats : call.argTypes = #[t, t])
    (he : elemT P t = some et) (hby : bytesT P et = some b) (hs : sizeT P et = some z) (hz : z = szT G e) (hb : baseOf s0 keep e (s0.ev x) = some (xs, lock, used)) (hy : rowOfD s0 e (s0.ev y) = some ys)
    (hf : s0.look nid = none) (hz1 : 1 ≤ z) (hzc : zeroCells P et = some zc) (hzl : zc.length = z) (hlim : ((xs.length : Int) + ys.length) * (b : Int) ≤ 70368744177664) (hb1 : 1 ≤ b)
    (hbc : ∀ s : St G, (∀ i ∈ (s0.ev x).ids, s.look i = s0.look i) → baseOf s keep e (s0.ev x) = baseOf s0 keep e (s0.ev x)) (hyc : ∀ s : St G, (∀ i ∈ (s0.ev y).ids, s.look i = s0.look i) → rowOfD s e (s0.ev y) = rowOfD s0 e (s0.ev y)) :
    OpOK P nt o s0.ev (nid :: ((s0.ev x).ids ++ (s0.ev y).ids)) s0.look (.ow nid) ((nid, .row e (xs ++ ys) lock) :: used) := by
  intro F L s a w h hev hlk
  have hfree : s.look nid = none := by rw [hlk nid (by simp)]; exact hf
  have hxe : s.ev x = s0.ev x := hev x (by simp [ho, Op.operands, Call.operands, hcal, hargs])
  have hye : s.ev y = s0.ev y := hev y (by simp [ho, Op.operands, Call.operands, hcal, hargs])
  have hb' : baseOf s keep e (s.ev x) = some (xs, lock, used) := by rw [hxe, hbc s (fun i hi => hlk i (by simp [hi]))]; exact hb
  have hy' : rowOfD s e (s.ev y) = some ys := by rw [hye, hyc s (fun i hi => hlk i (by simp [hi]))]; exact hy
  obtain ⟨A, c, hax, hle, hbase⟩ := baseOf_sem h hb' (h.ev x)
  obtain ⟨B, c2, news, hay, hle2, hrow⟩ := rowOf_sem h hy' (h.ev y)
  obtain ⟨olds, holds⟩ := hbase.row_of h hle
  have hu := elemT_under he
  unfold sizeT at hs
  unfold bytesT at hby
  cases hi : P.info? et with
  | none => rw [hi] at hs; cases hs
  | some i =>
  rw [hi] at hs hby
  have hiz : i.size = z := some_inj hs
  have hib : i.bytes = b := some_inj hby
  have hsrc : Src P i.size t (.slice B ys.length c2) ys.length news w := hrow.src hu c2 (by rw [hiz, hz])
  have nn : ∀ i, (s.look i).isSome → i ≠ nid := fun i hi e => by subst e; rw [hfree] at hi; cases hi
  have hin : (s.upd ((nid, Ent.row e (xs ++ ys) lock) :: used)).look nid = some (.row e (xs ++ ys) lock) := by rw [St.look_upd, lookT_cons, if_pos rfl]; rfl
  have fin : ∀ (v : Value) (w' : World) (L' : LM), (Builtin.append_ #[t, t] o.type #[.slice A xs.length c, .slice B ys.length c2]).run P w = .ok v w' → Rel F nt L' (s.upd ((nid, .row e (xs ++ ys) lock) :: used)) a w' →
      RepV (okOf F L' (s.upd ((nid, .row e (xs ++ ys) lock) :: used))) w' L' (EV.ow nid : EV G) v →
      o.wp P a w (fun a' w' => ∃ L', Rel F nt L' ((s.upd ((nid, .row e (xs ++ ys) lock) :: used)).put o.dst (.ow nid)) a' w') (fun _ _ _ => False) := by
    intro v w' L' hrun hrel hrep
    refine wp_value (u := v) (w' := w') ?_ ⟨L', hrel.put o.dst hd _ _ hrep (by simp [EV.ids, hin])⟩
    have e1 : call.args.map a.eval = #[.slice A xs.length c, .slice B ys.length c2] := by rw [hargs]; simp [hax, hay]
    simp [execOp, ho, resolve, invoke, builtin, hcal, e1, hats, hrun]
  by_cases hroom : xs.length + ys.length ≤ c
  · by_cases hc0 : c = 0
    · -- nothing, onto nothing
      have hx0 : xs = [] := List.length_eq_zero_iff.mp (by omega)
      have hy0 : ys = [] := List.length_eq_zero_iff.mp (by omega)
      subst hx0; subst hy0; subst hc0
      have hlock : lock = 0 := by have := hbase.lock_le; simpa using this
      subst hlock
      have hn0 : news = [] := List.length_eq_zero_iff.mp (by rw [hrow.len]; simp)
      subst hn0
      refine fin _ w (fun i => if i = nid then none else L i) (run_append_nothing w t t _ et i hu hi A 0 0 (Nat.le_refl _) _ hsrc) ?_ ?_
      · have hused : ∀ i f, lookT used i = some f → i ≠ nid ∧ ¬ owner f ∧ f.nms = [] ∧ (f = .tomb ∨ (f = .fz e [] ∧ ∀ l, L i = some l → l.sz = szT G e ∧ l.len = 0)) := by
          intro i f hf
          cases hbase with
          | nil => cases hf
          | bare id lk zs hs hl hx hc h0 e' he =>
            rw [lookT_cons] at hf
            split at hf
            · rename_i hid; subst hid; cases hf
              refine ⟨nn id (by simp [hs]), by rcases he with rfl | rfl <;> simp [owner], by rcases he with rfl | rfl <;> simp [Ent.nms], he.imp (fun h => h) fun he => ⟨he, fun l q => by rw [hl] at q; cases q⟩⟩
            · cases hf
          | row id lo lk l zs hs hl hx hn hc hA hlk hlk2 hle e' he =>
            rw [lookT_cons] at hf
            split at hf
            · rename_i hid; subst hid; cases hf
              refine ⟨nn id (by simp [hs]), by rcases he with rfl | ⟨rfl, _⟩ <;> simp [owner], by rcases he with rfl | ⟨rfl, _⟩ <;> simp [Ent.nms], he.imp (fun h => h) fun he => ⟨he.1, fun l' q => ?_⟩⟩
              rw [hl] at q; cases q
              have hre := h.e.en id _ hs
              simp only [RepE, hl] at hre
              exact ⟨hre.2.1, by rw [hre.2.2.1, ← he.2.2.1]; rfl⟩
            · cases hf
        refine h.release _ _ (fun i hi => if_neg (nn i hi)) ?_ ?_
        · intro i f hf l hl of
          rw [lookT_cons] at hf
          split at hf
          · rename_i h1; subst h1; simp at hl
          · exact absurd of (hused i f hf).2.1
        · intro i f hf
          rw [lookT_cons] at hf
          split at hf
          · rename_i h1; subst h1; cases hf
            exact ⟨by simp [Ent.nms], fun _ _ _ => by simp [RepE]⟩
          · obtain ⟨h1, h2, h3, h4⟩ := hused i f hf
            refine ⟨by simp [h3], fun ok' k _ => ?_⟩
            rcases h4 with rfl | ⟨rfl, h5⟩
            · trivial
            · simp only [RepE, if_neg h1]
              cases hl : L i with
              | none => trivial
              | some l =>
                obtain ⟨q1, q2⟩ := h5 l hl
                refine ⟨q1, q2, fun o v p q _ => by rw [q2] at q; omega, fun _ => [], fun i hi => absurd hi (Nat.not_lt_zero _)⟩
      · simp only [RepV, if_true]; exact ⟨A, rfl⟩
    · -- there is room
      cases hbase with
      | nil _ hc => exact absurd hc hc0
      | bare _ _ _ _ _ _ hc => exact absurd hc hc0
      | row id lo lk l zs hs hl hx hn hc hA hlk hlk2 hle' e' he =>
        have hA' : A = some ⟨l.b, l.off + lo * l.sz, none⟩ := by rcases hA with h1 | h1; exact absurd h1 hc0; exact h1
        subst hA'
        have hre := h.e.en id _ hs
        simp only [RepE, hl] at hre
        obtain ⟨r0, r1, r2, r3, ⟨cur, el, r4, r5⟩, r6⟩ := hre
        have hzl' : i.size = l.sz := by rw [hiz, hz, r1]
        have hnl : news.length = ys.length * l.sz := by rw [hrow.len, r1]
        have hbound : ∀ j, j < news.length → l.off + lo * l.sz + xs.length * i.size + j < cur.size := by
          intro j hj
          have h1 : (lo + (xs.length + ys.length)) * l.sz ≤ l.cap * l.sz := Nat.mul_le_mul_right _ (by omega)
          have h2 : (lo + (xs.length + ys.length)) * l.sz = lo * l.sz + xs.length * l.sz + ys.length * l.sz := by rw [← Nat.add_mul, ← Nat.add_mul]; congr 1; omega
          rw [hzl']; omega
        have hrun := run_append_room_src (P := P) w t t o.type et i hu hi l.b (l.off + lo * l.sz) xs.length c (.slice B ys.length c2) ys.length news hsrc hroom
          (fun j hj => by have := hbound j hj; simp only [World.cell?, r4]; simp [this]) (fun j hj => by simp [World.frozen?, r4])
        have e1 : l.off + lo * l.sz + xs.length * i.size = l.off + (lo + xs.length) * l.sz := by rw [hzl', Nat.add_mul]; omega
        rw [e1] at hrun
        refine fin _ _ _ hrun (append_place h hfree hs hl hx hn hc hlk hlk2 hle' he hrow hroom) ?_
        simp only [RepV, if_true]
        exact ⟨_, c, rfl, hroom, Nat.le_refl _, .inr rfl⟩
  · -- it grows
    have hzr : ∃ zv, i.zero = some zv ∧ zv.cells.size = z := by
      obtain ⟨zv, z1, z2⟩ := zeroCells_sem hzc w
      have := (z2 (fun _ _ => True) w L).length
      cases hzv : i.zero with
      | none => simp [zeroValue, typeInfo, hi, hzv] at z1
      | some zv' =>
        have : zv' = zv := by simpa [zeroValue, typeInfo, hi, hzv] using z1
        subst this
        exact ⟨_, rfl, by rw [← hzl, ‹zc.length = _›]; simp⟩
    obtain ⟨zv, hzv, hzs⟩ := hzr
    have hold : (Builtin.firstCells i.size xs.length (.slice A xs.length c)).run P w.drew = .ok olds.toArray w.drew := by
      have hos := (holds.src (P := P) hu c (z := i.size) (by rw [hiz, hz])).cellsD
      cases A <;> exact hos
    have hb48 : (xs.length + ys.length) * b ≤ 70368744177664 := by
      have : (((xs.length + ys.length) * b : Nat) : Int) ≤ 70368744177664 := by push_cast; exact hlim
      omega
    have h63 : xs.length + ys.length ≤ 70368744177664 := Nat.le_trans (Nat.le_mul_of_pos_right _ hb1) hb48
    have hrun := run_append_grow_src (P := P) w t t o.type et i zv hu hi hzv A xs.length c olds hold (.slice B ys.length c2) ys.length news hsrc (by omega) (by omega) (growslice_fits (by omega) (by rw [hib]; omega))
    have hge := grownCap_ge w (xs.length + ys.length) c et
    obtain ⟨ls1, p1, p2, p3⟩ := holds.el
    obtain ⟨ls2, q1, q2, q3⟩ := hrow.el
    have hg := append_grow h hfree hbase (ys := ys) (et := et) (w' := w.drew.alloc (.cells ((olds ++ news).toArray ++ Builtin.zeroCells zv.cells (grownCap w (xs.length + ys.length) c et - (xs.length + ys.length))) et))
      (cvs := (olds ++ news).toArray ++ Builtin.zeroCells zv.cells (grownCap w (xs.length + ys.length) c et - (xs.length + ys.length))) rfl rfl rfl rfl (cap := grownCap w (xs.length + ys.length) c et) hge ?_ (ls := ls1 ++ ls2) (by simp [p1, q1]) ?_ ?_
    · refine fin _ _ _ hrun hg ?_
      simp only [RepV, if_true]
      exact ⟨_, _, by simp; rfl, by simpa using hge, Nat.le_refl _, .inr (by simp)⟩
    · simp only [Array.size_append, List.size_toArray, size_zeroCells, hzs, List.length_append, holds.len, hrow.len, ← Nat.add_mul, ← hz]
      exact Nat.mul_le_mul_right _ (by omega)
    · intro j hj
      by_cases h1 : j < xs.length
      · obtain ⟨l, a1, a2⟩ := p3 j h1
        exact ⟨l, by rw [List.getElem?_append_left (by omega)]; exact a1, by rw [List.getElem_append_left h1]; exact a2⟩
      · have hj' : j - xs.length < ys.length := by simp at hj; omega
        obtain ⟨l, a1, a2⟩ := q3 _ hj'
        exact ⟨l, by rw [List.getElem?_append_right (by omega), p1]; exact a1, by rw [List.getElem_append_right (by omega)]; exact a2⟩
    · rw [Array.toList_append, p2, q2, List.flatten_append]
      exact ⟨_, rfl⟩
end
end Go.Abs
end
section
set_option linter.all false
set_option linter.unusedVariables false
set_option linter.unusedSimpArgs false
set_option linter.unnecessarySimpa false
/-
  ABS, part 19: calls: names of entries turned, and what does not lie in memory.
-/
namespace Go.Abs
open Go
variable {G : Gam}

/-! ### names turned -/
mutual
theorem EV.rn_ids {ρ : Nat → Option Nat} : ∀ {v : EV G} {j : Nat}, j ∈ (v.rn ρ).ids → ∃ i ∈ v.ids, ρ i = some j
  | .ow i, j, h => by
      simp only [EV.rn] at h
      split at h
      · rename_i k hk; simp [EV.ids] at h; subst h; exact ⟨i, by simp [EV.ids], hk⟩
      · simp [EV.ids] at h
  | .vw i lo n, j, h => by
      simp only [EV.rn] at h
      split at h
      · rename_i k hk; simp [EV.ids] at h; subst h; exact ⟨i, by simp [EV.ids], hk⟩
      · simp [EV.ids] at h
  | .ptr i o, j, h => by
      simp only [EV.rn] at h
      split at h
      · rename_i k hk; simp [EV.ids] at h; subst h; exact ⟨i, by simp [EV.ids], hk⟩
      · simp [EV.ids] at h
  | .ept i x o, j, h => by
      simp only [EV.rn] at h
      split at h
      · rename_i k hk; simp [EV.ids] at h; subst h; exact ⟨i, by simp [EV.ids], hk⟩
      · simp [EV.ids] at h
  | .spn i x, j, h => by
      simp only [EV.rn] at h
      split at h
      · rename_i k hk; simp [EV.ids] at h; subst h; exact ⟨i, by simp [EV.ids], hk⟩
      · simp [EV.ids] at h
  | .spp i x, j, h => by
      simp only [EV.rn] at h
      split at h
      · rename_i k hk; simp [EV.ids] at h; subst h; exact ⟨i, by simp [EV.ids], hk⟩
      · simp [EV.ids] at h
  | .inn i x, j, h => by
      simp only [EV.rn] at h
      split at h
      · rename_i k hk; simp [EV.ids] at h; subst h; exact ⟨i, by simp [EV.ids], hk⟩
      · simp [EV.ids] at h
  | .lfp i x y, j, h => by
      simp only [EV.rn] at h
      split at h
      · rename_i k hk; simp [EV.ids] at h; subst h; exact ⟨i, by simp [EV.ids], hk⟩
      · simp [EV.ids] at h
  | .fn f cs, j, h => by simp only [EV.rn, EV.ids] at h ⊢; exact EV.rns_ids h
  | .ag l, j, h => by simp only [EV.rn, EV.ids] at h ⊢; exact EV.rns_ids h
  | .tp l, j, h => by simp only [EV.rn, EV.ids] at h ⊢; exact EV.rns_ids h
  | .d τ x, j, h => by simp [EV.rn, EV.ids] at h
  | .nl, j, h => by simp [EV.rn, EV.ids] at h
  | .rp τ x o, j, h => by simp [EV.rn, EV.ids] at h
  | .c v, j, h => by simp [EV.rn, EV.ids] at h
  | .un, j, h => by simp [EV.rn, EV.ids] at h
  | .u, j, h => by simp [EV.rn, EV.ids] at h
theorem EV.rns_ids {ρ : Nat → Option Nat} : ∀ {l : List (EV G)} {j : Nat}, j ∈ EV.idss (EV.rns ρ l) → ∃ i ∈ EV.idss l, ρ i = some j
  | [], j, h => by simp [EV.rns, EV.idss] at h
  | v :: l, j, h => by
      simp only [EV.rns, EV.idss, List.mem_append] at h
      rcases h with h | h
      · obtain ⟨i, hi, hj⟩ := EV.rn_ids h; exact ⟨i, by simp [EV.idss, hi], hj⟩
      · obtain ⟨i, hi, hj⟩ := EV.rns_ids h; exact ⟨i, by simp [EV.idss, hi], hj⟩
end

/-- What lay where under the old names, lies there under the new ones. -/
def Turn (ρ : Nat → Option Nat) (L L' : LM) (ids : List Nat) : Prop := ∀ i ∈ ids, ∀ j, ρ i = some j → L' j = L i

mutual
theorem RepV.rn {ok : Cells} {w : World} {L L' : LM} {ρ : Nat → Option Nat} : ∀ {x : EV G} {v : Value}, Turn ρ L L' x.ids → RepV ok w L x v → RepV ok w L' (x.rn ρ) v
  | .d τ x, v, _, h => by simpa only [EV.rn, RepV] using h
  | .nl, v, _, h => by simpa only [EV.rn, RepV] using h
  | .ow id, v, hs, h => by
      simp only [EV.rn]
      split
      · rename_i j hj; simp only [RepV] at h ⊢; rw [hs id (by simp [EV.ids]) j hj]; exact h
      · simp only [RepV]
  | .vw id lo n, v, hs, h => by
      simp only [EV.rn]
      split
      · rename_i j hj; simp only [RepV] at h ⊢; rw [hs id (by simp [EV.ids]) j hj]; exact h
      · simp only [RepV]
  | .ptr id off, v, hs, h => by
      simp only [EV.rn]
      split
      · rename_i j hj; simp only [RepV] at h ⊢; rw [hs id (by simp [EV.ids]) j hj]; exact h
      · simp only [RepV]
  | .ept id i off, v, hs, h => by
      simp only [EV.rn]
      split
      · rename_i j hj; simp only [RepV] at h ⊢; rw [hs id (by simp [EV.ids]) j hj]; exact h
      · simp only [RepV]
  | .spn id n, v, hs, h => by
      simp only [EV.rn]
      split
      · rename_i j hj; simp only [RepV] at h ⊢; rw [hs id (by simp [EV.ids]) j hj]; exact h
      · simp only [RepV]
  | .spp id n, v, hs, h => by
      simp only [EV.rn]
      split
      · rename_i j hj; simp only [RepV] at h ⊢; rw [hs id (by simp [EV.ids]) j hj]; exact h
      · simp only [RepV]
  | .inn id n, v, hs, h => by
      simp only [EV.rn]
      split
      · rename_i j hj; simp only [RepV] at h ⊢; rw [hs id (by simp [EV.ids]) j hj]; exact h
      · simp only [RepV]
  | .lfp id n m, v, hs, h => by
      simp only [EV.rn]
      split
      · rename_i j hj; simp only [RepV] at h ⊢; rw [hs id (by simp [EV.ids]) j hj]; exact h
      · simp only [RepV]
  | .rp τ x off, v, _, h => by simpa only [EV.rn, RepV] using h
  | .fn f cs, v, hs, h => by simp only [EV.rn, RepV] at h ⊢; obtain ⟨a, ha, hr⟩ := h; exact ⟨a, ha, RepVs.rn (by simpa [EV.ids] using hs) hr⟩
  | .ag l, v, hs, h => by simp only [EV.rn, RepV] at h ⊢; obtain ⟨a, ha, hr⟩ := h; exact ⟨a, ha, RepVs.rn (by simpa [EV.ids] using hs) hr⟩
  | .tp l, v, hs, h => by simp only [EV.rn, RepV] at h ⊢; obtain ⟨a, ha, hr⟩ := h; exact ⟨a, ha, RepVs.rn (by simpa [EV.ids] using hs) hr⟩
  | .c v', v, _, h => by simpa only [EV.rn, RepV] using h
  | .un, v, _, h => by simpa only [EV.rn, RepV] using h
  | .u, v, _, _ => by simp only [EV.rn, RepV]
theorem RepVs.rn {ok : Cells} {w : World} {L L' : LM} {ρ : Nat → Option Nat} : ∀ {l : List (EV G)} {vs : List Value}, Turn ρ L L' (EV.idss l) → RepVs ok w L l vs → RepVs ok w L' (EV.rns ρ l) vs
  | [], [], _, _ => by simp only [EV.rns, RepVs]
  | x :: l, v :: vs, hs, h => by
      simp only [EV.rns, RepVs] at h ⊢
      exact ⟨RepV.rn (fun i hi => hs i (by simp [EV.idss, hi])) h.1, RepVs.rn (fun i hi => hs i (by simp [EV.idss, hi])) h.2⟩
  | [], _ :: _, _, h => by simp [RepVs] at h
  | _ :: _, [], _, h => by simp [RepVs] at h
end

theorem Ent.rn_ids {ρ : Nat → Option Nat} {e : Ent G} {j : Nat} (h : j ∈ (e.rn ρ).ids) : ∃ i ∈ e.ids, ρ i = some j := by
  cases e with
  | box cs => exact EV.rns_ids h
  | fill e xs cs zc n t => exact EV.rns_ids h
  | tree o e xs h0 ys0 =>
    simp only [Ent.rn, Ent.ids, Ent.nms] at h ⊢
    cases h0 with
    | none => simp at h
    | some q =>
      obtain ⟨i, k, r⟩ := q
      cases r with
      | none => simp at h
      | some r =>
        simp only at h ⊢
        cases hr : ρ r with
        | none => rw [hr] at h; simp at h
        | some t => rw [hr] at h; simp at h; subst h; exact ⟨r, by simp, hr⟩
  | one o =>
    cases o with
    | none => simp [Ent.rn, Ent.ids, Ent.nms] at h
    | some r =>
      simp only [Ent.rn, Ent.ids, Ent.nms] at h ⊢
      cases hr : ρ r with
      | none => rw [hr] at h; simp at h
      | some t => rw [hr] at h; simp at h; subst h; exact ⟨r, by simp, hr⟩
  | _ => simp [Ent.rn, Ent.ids, Ent.nms] at h
theorem Ent.rn_nms {ρ : Nat → Option Nat} {e : Ent G} : (e.rn ρ).nms = (e.rn ρ).ids := rfl
theorem Ent.ids_nms {e : Ent G} {j : Nat} (h : j ∈ e.ids) : j ∈ e.nms := h
theorem Ent.rn_blks {ρ : Nat → Option Nat} {e : Ent G} {l : Loc} {x : Nat} : blks (e.rn ρ) l x = blks e l x := by
  cases e with
  | one o => cases o <;> rfl
  | _ => rfl
theorem Ent.rn_owner {ρ : Nat → Option Nat} {e : Ent G} : owner (e.rn ρ) ↔ owner e := by
  cases e with
  | one o => cases o <;> rfl
  | _ => rfl
theorem Ent.rn_owns {ρ : Nat → Option Nat} {e : Ent G} {l : Loc} : owns l (e.rn ρ) = owns l e := by
  cases e with
  | one o => cases o <;> rfl
  | _ => rfl
theorem TreeAt.turn {ok : Cells} {w : World} {L L' : LM} {e : Ty} {xs : List (List (List (G.D e)))} {h h' : Option (Nat × Nat × Option Nat)} {ys0 : List (List (G.D e))} {l : Loc} {lf : Nat → Nat → Option Loc} (h1 : ∀ i j, isHole h' i j = isHole h i j)
    (h2 : ∀ i j k, h' = some (i, j, some k) → ∃ k0, h = some (i, j, some k0) ∧ LocS (L' k) (L k0)) (h3 : ∀ i j S, h' = some (i, j, S) → ∃ S0, h = some (i, j, S0)) (ht : TreeAt G ok w L e xs h ys0 l lf) : TreeAt G ok w L' e xs h' ys0 l lf where
  inn := ht.inn
  blk := ht.blk
  leaf i ys j zs b off len cap p1 p2 p3 p4 := ht.leaf i ys j zs b off len cap p1 p2 p3 (by rw [← h1]; exact p4)
  at' i j m hm := by rw [h1]; exact ht.at' i j m hm
  hin i j k hk := by obtain ⟨k0, q1⟩ := h3 i j k hk; exact ht.hin i j k0 q1
  hole i j k b off len cap p1 p2 := by
    obtain ⟨k0, q1, q2⟩ := h2 i j k p1
    obtain ⟨u, r1, r2⟩ := ht.hole i j k0 b off len cap q1 p2
    exact ⟨u, r1, r2.loc q2⟩
  d1 := ht.d1
  d2 := ht.d2
  d3 := ht.d3

theorem EV.rns_len (ρ : Nat → Option Nat) : ∀ l : List (EV G), (EV.rns ρ l).length = l.length
  | [] => rfl
  | _ :: l => by simp [EV.rns, EV.rns_len ρ l]
theorem FillAt.rn {ok : Cells} {w : World} {L L' : LM} {ρ : Nat → Option Nat} {cs zc : List (EV G)} {m n sz b off : Nat} {t : Bool} (ht : Turn ρ L L' (EV.idss cs)) (h : FillAt ok w L cs zc m n sz b off t) : FillAt ok w L' (EV.rns ρ cs) zc m n sz b off t where
  le := h.le
  tk := h.tk
  cl := by rw [EV.rns_len]; exact h.cl
  zl := h.zl
  zi := h.zi
  at' := fun hm => by obtain ⟨us, h1, h2⟩ := h.at' hm; exact ⟨us, h1.rn ht, h2⟩
  zs := h.zs

theorem RepE.rn {ok : Cells} {w : World} {L L' : LM} {ρ : Nat → Option Nat} {i j : Nat} {e : Ent G} (hi : L' j = L i) (ht : Turn ρ L L' e.ids) (h : RepE ok w L i e) : RepE ok w L' j (e.rn ρ) := by
  cases e with
  | box cs => obtain ⟨l, cvs, el, h1, h2, h3⟩ := h; exact ⟨l, cvs, el, by rw [hi]; exact h1, h2, h3.rn ht⟩
  | row e xs lock => simp only [RepE, Ent.rn] at h ⊢; rw [hi]; exact h
  | fz e xs => simp only [RepE, Ent.rn] at h ⊢; rw [hi]; exact h
  | tomb => trivial
  | fill e xs cs zc n t =>
    obtain ⟨l, cvs, el, h1, h2, h3, h4, h5, h6, h7, h8, h9⟩ := h
    exact ⟨l, cvs, el, by rw [hi]; exact h1, h2, h3, h4, h5, h6, h7, h8, h9.rn ht⟩
  | nils n => obtain ⟨l, h1, h2⟩ := h; exact ⟨l, by rw [hi]; exact h1, h2⟩
  | one o =>
    obtain ⟨l, h1, h2, u, h3, h4⟩ := h
    cases o with
    | none => exact ⟨l, by rw [hi]; exact h1, h2, u, h3, fun k hk => by cases hk⟩
    | some r => exact ⟨l, by rw [hi]; exact h1, h2, u, h3, fun k hk => by
        have := h4 r rfl
        simp only [RepV] at this ⊢
        rw [ht r (by simp [Ent.ids, Ent.nms]) k hk]; exact this⟩
  | tree o e xs h0 ys0 =>
    simp only [RepE, Ent.rn] at h ⊢
    rw [hi]
    cases hl : L i with
    | none =>
      rw [hl] at h
      obtain ⟨h1, h2⟩ := h
      subst h2
      exact ⟨h1, rfl⟩
    | some l =>
      rw [hl] at h
      obtain ⟨h1, lf, h2⟩ := h
      refine ⟨h1, lf, h2.turn (fun i' j' => ?_) (fun i' j' k hk => ?_) ?_⟩
      · cases h0 with
        | none => rfl
        | some q => obtain ⟨a, b, r⟩ := q; cases r <;> rfl
      · cases h0 with
        | none => cases hk
        | some q =>
          obtain ⟨a, b, r⟩ := q
          cases r with
          | none => cases hk
          | some r =>
            simp only [Option.some.injEq, Prod.mk.injEq] at hk
            obtain ⟨e1, e2, e3⟩ := hk
            subst e1; subst e2
            exact ⟨r, rfl, .of (ht r (by simp [Ent.ids, Ent.nms]) k e3)⟩
      · intro i' j' S hk
        cases h0 with
        | none => cases hk
        | some q =>
          obtain ⟨a, b, r⟩ := q
          cases r with
          | none => simp only [Option.some.injEq, Prod.mk.injEq] at hk; obtain ⟨e1, e2, e3⟩ := hk; subst e1; subst e2; exact ⟨_, rfl⟩
          | some r => simp only [Option.some.injEq, Prod.mk.injEq] at hk; obtain ⟨e1, e2, e3⟩ := hk; subst e1; subst e2; exact ⟨_, rfl⟩

/-! ### what lies nowhere -/
theorem RepD.free_leaf {ok ok' : Cells} {w : World} {τ : Ty} {x : G.D τ} {cs : List Value} (hl : τ.leaf = true) (hn : ∀ e, τ ≠ .sl e ∧ τ ≠ .sn e) (h : RepD G ok w τ x cs) : RepD G ok' w τ x cs := by
  cases h with
  | int k n => exact .int k n
  | bool b => exact .bool b
  | str s => exact .str s
  | sl e => exact absurd rfl (hn e).1
  | sn e => exact absurd rfl (hn e).2
  | st => cases hl
theorem RepL.free {ok ok' : Cells} {w : World} : ∀ {l : List (Lf G.S)} {cs : List Value}, (∀ τ ∈ l.map (fun | .mk τ _ => τ), τ.leaf = true ∧ ∀ e, τ ≠ .sl e ∧ τ ≠ .sn e) → RepL G ok w l cs → RepL G ok' w l cs := by
  intro l
  induction l with
  | nil => intro cs _ h; cases h; exact .nil
  | cons a l ih =>
    intro cs hl h
    cases h with
    | cons τ x u _ vs h t =>
      refine .cons _ _ _ _ _ (h.free_leaf (hl τ (by simp)).1 (hl τ (by simp)).2) (ih (fun τ' h' => hl τ' (by simp at h' ⊢; exact .inr h')) t)
theorem RepD.free {ok ok' : Cells} {w : World} {τ : Ty} {x : G.D τ} {cs : List Value} (hn : τ.hasSl G = false) (h : RepD G ok w τ x cs) : RepD G ok' w τ x cs := by
  cases h with
  | int k n => exact .int k n
  | bool b => exact .bool b
  | str s => exact .str s
  | sl e => cases hn
  | sn e => cases hn
  | st t x cs h =>
    refine .st t x cs (h.free fun τ hτ => ?_)
    rw [G.tys t x] at hτ
    refine ⟨G.flat t τ hτ, fun e => ⟨fun he => ?_, fun he => ?_⟩⟩ <;>
    · subst he
      have := List.any_eq_false.mp hn _ hτ
      simp at this

mutual
theorem RepV.free {ok ok' : Cells} {w : World} {L : LM} : ∀ {x : EV G} {v : Value}, x.hasSl = false → RepV ok w L x v → RepV ok' w L x v
  | .d τ x, v, hs, h => by
      simp only [RepV] at h ⊢
      exact ⟨h.1, h.2.free_leaf h.1 (fun e => ⟨fun he => by subst he; simp [EV.hasSl] at hs, fun he => by subst he; simp [EV.hasSl] at hs⟩)⟩
  | .nl, v, _, h => by simpa only [RepV] using h
  | .ow id, v, hs, h => by simpa only [RepV] using h
  | .vw id lo n, v, hs, h => by simpa only [RepV] using h
  | .ptr id off, v, hs, h => by simpa only [RepV] using h
  | .ept id i off, v, hs, h => by simpa only [RepV] using h
  | .rp τ x off, v, hs, h => by simp [EV.hasSl] at hs
  | .spn id n, v, hs, h => by simp [EV.hasSl] at hs
  | .spp id n, v, hs, h => by simp [EV.hasSl] at hs
  | .inn id n, v, hs, h => by simpa only [RepV] using h
  | .lfp id n m, v, hs, h => by simpa only [RepV] using h
  | .fn f cs, v, hs, h => by simp only [RepV] at h ⊢; obtain ⟨a, ha, hr⟩ := h; exact ⟨a, ha, RepVs.free (by simpa [EV.hasSl] using hs) hr⟩
  | .ag l, v, hs, h => by simp only [RepV] at h ⊢; obtain ⟨a, ha, hr⟩ := h; exact ⟨a, ha, RepVs.free (by simpa [EV.hasSl] using hs) hr⟩
  | .tp l, v, hs, h => by simp only [RepV] at h ⊢; obtain ⟨a, ha, hr⟩ := h; exact ⟨a, ha, RepVs.free (by simpa [EV.hasSl] using hs) hr⟩
  | .c v', v, _, h => by simpa only [RepV] using h
  | .un, v, _, h => by simpa only [RepV] using h
  | .u, v, _, _ => by simp only [RepV]
theorem RepVs.free {ok ok' : Cells} {w : World} {L : LM} : ∀ {l : List (EV G)} {vs : List Value}, EV.hasSls l = false → RepVs ok w L l vs → RepVs ok' w L l vs
  | [], [], _, _ => by simp only [RepVs]
  | x :: l, v :: vs, hs, h => by
      simp only [RepVs] at h ⊢
      simp only [EV.hasSls, Bool.or_eq_false_iff] at hs
      exact ⟨RepV.free hs.1 h.1, RepVs.free hs.2 h.2⟩
  | [], _ :: _, _, h => by simp [RepVs] at h
  | _ :: _, [], _, h => by simp [RepVs] at h
end

theorem RepE.free {ok ok' : Cells} {w : World} {L : LM} {i : Nat} {e : Ent G} (hn : e.hasSl = false) (h : RepE ok w L i e) : RepE ok' w L i e := by
  cases e with
  | box cs => obtain ⟨l, cvs, el, h1, h2, h3⟩ := h; exact ⟨l, cvs, el, h1, h2, h3.free hn⟩
  | row e xs lock =>
    simp only [RepE] at h ⊢
    refine ⟨h.1, ?_⟩
    cases hl : L i with
    | none => simpa [hl] using h.2
    | some l =>
      simp only [hl] at h
      obtain ⟨_, h1, h2, h3, h4, css, h5⟩ := h
      exact ⟨h1, h2, h3, h4, css, fun i hi => ⟨(h5 i hi).1.free hn, (h5 i hi).2⟩⟩
  | fz e xs => simp [Ent.hasSl] at hn
  | tomb => trivial
  | nils n => exact h
  | one o => obtain ⟨l, h1, h2, u, h3, h4⟩ := h; exact ⟨l, h1, h2, u, h3, fun k hk => by have := h4 k hk; simpa only [RepV] using this⟩
  | tree => simp [Ent.hasSl] at hn
  | fill => simp [Ent.hasSl] at hn

/-! ### lists of names -/
theorem addNew_spec : ∀ (r l : List Nat), l.Nodup → (addNew l r).Nodup ∧ ∀ i, i ∈ addNew l r ↔ i ∈ l ∨ i ∈ r := by
  intro r
  induction r with
  | nil => intro l hl; exact ⟨hl, fun i => by simp [addNew]⟩
  | cons a r ih =>
    intro l hl
    simp only [addNew]
    by_cases h : l.contains a = true
    · rw [h]
      obtain ⟨h1, h2⟩ := ih l hl
      refine ⟨h1, fun i => ?_⟩
      simp only [cond_true, h2, List.mem_cons]
      have : a ∈ l := by simpa using h
      constructor
      · rintro (h | h) <;> simp [h]
      · rintro (h | rfl | h) <;> simp [*]
    · have h' : l.contains a = false := by simpa using h
      rw [h']
      have hn : a ∉ l := by simpa using h'
      obtain ⟨h1, h2⟩ := ih (l ++ [a]) (by
        rw [List.nodup_append]
        exact ⟨hl, by simp, fun x hx y hy => by simp at hy; subst hy; exact fun e => hn (e ▸ hx)⟩)
      refine ⟨h1, fun i => ?_⟩
      simp only [cond_false, h2, List.mem_append, List.mem_cons, or_assoc, List.not_mem_nil, false_or]

theorem indexOf_some {i : Nat} : ∀ {l : List Nat} {n j : Nat}, indexOf i l n = some j → n ≤ j ∧ l[j - n]? = some i := by
  intro l
  induction l with
  | nil => intro n j h; cases h
  | cons a l ih =>
    intro n j h
    simp only [indexOf, beq_nat, cond_dec] at h
    split at h
    · rename_i e; cases h; subst e; simp
    · obtain ⟨h1, h2⟩ := ih h
      refine ⟨by omega, ?_⟩
      rw [show j - n = (j - (n + 1)) + 1 by omega, List.getElem?_cons_succ]; exact h2

theorem looks_spec {s : St G} : ∀ {l : List Nat} {es : List (Ent G)}, looks s l = some es → es.length = l.length ∧ ∀ (i j : Nat), l[i]? = some j → ∃ e, s.look j = some e ∧ es[i]? = some e := by
  intro l
  induction l with
  | nil => intro es h; simp [looks] at h; subst h; exact ⟨rfl, fun i j h => by simp at h⟩
  | cons a l ih =>
    intro es h
    simp only [looks] at h
    split at h
    · rename_i e he
      split at h
      · rename_i m hm
        cases h
        obtain ⟨h1, h2⟩ := ih hm
        refine ⟨by simp [h1], fun i j h => ?_⟩
        cases i with
        | zero => simp at h; subst h; exact ⟨e, he, by simp⟩
        | succ i => simpa using h2 i j (by simpa using h)
      · cases h
    · cases h

theorem number_look : ∀ (es : List (Ent G)) (n i : Nat), lookT (number n es) i = if n ≤ i then es[i - n]? else none := by
  intro es
  induction es with
  | nil => intro n i; simp [number, lookT]
  | cons e es ih =>
    intro n i
    simp only [number, lookT_cons, ih]
    by_cases h : n = i
    · subst h; simp
    · rw [if_neg h]
      by_cases h2 : n + 1 ≤ i
      · rw [if_pos h2, if_pos (by omega), show i - n = (i - (n + 1)) + 1 by omega, List.getElem?_cons_succ]
      · rw [if_neg h2, if_neg (by omega)]

theorem zipE_some : ∀ {l : List Nat} {es : List (Ent G)} {j : Nat} {e : Ent G}, lookT (zipE l es) j = some e → ∃ i : Nat, l[i]? = some j ∧ es[i]? = some e := by
  intro l
  induction l with
  | nil => intro es j e h; simp [zipE, lookT] at h
  | cons a l ih =>
    intro es j e h
    cases es with
    | nil => simp [zipE, lookT] at h
    | cons e' es =>
      simp only [zipE, lookT_cons] at h
      split at h
      · rename_i h1; cases h; exact ⟨0, by simp [h1], by simp⟩
      · obtain ⟨i, h1, h2⟩ := ih h; exact ⟨i + 1, by simpa using h1, by simpa using h2⟩
theorem zipE_none : ∀ {l : List Nat} {es : List (Ent G)} {j : Nat}, es.length = l.length → lookT (zipE l es) j = none → j ∉ l := by
  intro l
  induction l with
  | nil => intro es j _ _; simp
  | cons a l ih =>
    intro es j hl h
    cases es with
    | nil => simp at hl
    | cons e' es =>
      simp only [zipE, lookT_cons] at h
      split at h
      · cases h
      · rename_i h1
        simp only [List.mem_cons, not_or]
        exact ⟨Ne.symm h1, ih (by simpa using hl) h⟩

theorem fresh_spec {s : St G} : ∀ {l : List (Ent G)} {n : Nat}, fresh s n l = true → ∀ j, j < l.length → s.look (n + j) = none := by
  intro l
  induction l with
  | nil => intro n _ j h; simp at h
  | cons a l ih =>
    intro n h j hj
    simp only [fresh, Bool.and_eq_true] at h
    cases j with
    | zero =>
      cases hl : s.look n with
      | none => simpa using hl
      | some e => rw [hl] at h; simp at h
    | succ j =>
      have := ih h.2 j (by simpa using hj)
      rw [show n + (j + 1) = n + 1 + j by omega]; exact this

theorem entIds_mem {s : St G} {i j : Nat} {e : Ent G} (hs : s.look i = some e) (hj : j ∈ e.ids) : ∀ {l : List Nat}, i ∈ l → j ∈ entIds s l := by
  intro l
  induction l with
  | nil => intro h; cases h
  | cons a l ih =>
    intro h
    simp only [entIds, List.mem_append]
    rcases List.mem_cons.mp h with rfl | h
    · left; rw [hs]; exact hj
    · exact .inr (ih h)
end Go.Abs
end
section
set_option linter.all false
set_option linter.unusedVariables false
set_option linter.unusedSimpArgs false
set_option linter.unnecessarySimpa false
/-
  ABS, part 20: a call: what is lent to the callee, what comes back.
-/
namespace Go.Abs
open Go
variable {G : Gam}

def St.of (es : List (Ent G)) : St G := { tm := [], en := number 0 es }
theorem St.of_look (es : List (Ent G)) (i : Nat) : (St.of es).look i = es[i]? := by
  simp only [St.look, St.of, number_look]; simp

/-- What a call of a function does. -/
def Contract (P : Program) (f : FuncId) (args : List (EV G)) (lent : List (Ent G)) (res : EV G) (lent' news : List (Ent G)) : Prop :=
  ∀ (F : Frm) (L : LM) (w : World) (vs : Array Value), F.w0 = w → F.n = lent.length → F.L0 = L → RelE F L (St.of lent) w → RepVs (okOf F L (St.of lent)) w L args vs.toList → (∀ j ∈ EV.idss args, j < lent.length) →
    Calls P f vs w fun e w' => ∃ v L', e = .returned v ∧ RelE F L' (St.of (lent' ++ news)) w' ∧ (∀ i, i < lent.length → LocS (L' i) (L i)) ∧ RepV (okOf F L' (St.of (lent' ++ news))) w' L' res v ∧ ∀ j ∈ res.ids, j < (lent' ++ news).length

theorem RepE.ok_mono {ok ok' : Cells} {w : World} {L : LM} {i : Nat} {e : Ent G} (hk : ∀ b o, ok b o → ok' b o) (h : RepE ok w L i e) : RepE ok' w L i e :=
  h.mono (fun b o _ h1 h2 => ⟨hk b o h1, h2⟩) rfl (fun _ _ _ _ _ => rfl) (same_refl _ _)

theorem owns_owner {l : Loc} {e : Ent G} {b o : Nat} (h : owns l e b o) : owner e ∧ blks e l b := owns_blk h
theorem indexOf_none {i : Nat} : ∀ {l : List Nat} {n : Nat}, indexOf i l n = none → i ∉ l := by
  intro l
  induction l with
  | nil => intro n _ h; cases h
  | cons a l ih =>
    intro n h hm
    simp only [indexOf, beq_nat, cond_dec] at h
    split at h
    · cases h
    · rename_i hne
      rcases List.mem_cons.mp hm with e | hm
      · exact hne e
      · exact ih h hm

def lentL (L : LM) (ls : List Nat) : LM := fun i => match ls[i]? with | some j => L j | none => none
def lentF (F : Frm) (L : LM) (s1 : St G) (w : World) (es0 : List (Ent G)) (ls : List Nat) : Frm := { w0 := w, okA := okOf F L s1, X := owned (St.of es0) (lentL L ls), n := es0.length, L0 := lentL L ls }

section
variable {P : Program} {F : Frm} {nt : Nat} {L : LM} {s : St G} {a : Act} {w : World}

theorem frz_notin {fr : List Nat} {i : Nat} (h : i ∉ fr) : (s.upd (frz s fr)).look i = s.look i := by
  rw [St.look_upd]
  cases hf : lookT (frz s fr) i with
  | none => simp
  | some e => exact absurd (frz_look s fr i e hf).1 h

theorem lent_look {ls : List Nat} {es : List (Ent G)} (hes : looks s ls = some es) {ρ : Nat → Option Nat} {i : Nat} {e' : Ent G} (h : (St.of (es.map (Ent.rn ρ))).look i = some e') : ∃ j e, ls[i]? = some j ∧ s.look j = some e ∧ e' = e.rn ρ := by
  obtain ⟨h1, h2⟩ := looks_spec hes
  rw [St.of_look, List.getElem?_map] at h
  have hi : i < ls.length := by
    rcases Nat.lt_or_ge i ls.length with h3 | h3
    · exact h3
    · rw [List.getElem?_eq_none (by omega)] at h; cases h
  obtain ⟨e, q1, q2⟩ := h2 i _ (List.getElem?_eq_getElem hi)
  rw [q2] at h
  exact ⟨_, e, List.getElem?_eq_getElem hi, q1, (some_inj h).symm⟩

theorem lent_owned {ls : List Nat} {es : List (Ent G)} (hes : looks s ls = some es) {ρ : Nat → Option Nat} {b o : Nat} (h : owned (St.of (es.map (Ent.rn ρ))) (lentL L ls) b o) : ∃ j e l, j ∈ ls ∧ s.look j = some e ∧ L j = some l ∧ owns l e b o := by
  obtain ⟨i, e', l, hi, hl, hw⟩ := h
  obtain ⟨j, e, h1, h2, rfl⟩ := lent_look hes hi
  simp only [lentL, h1] at hl
  rw [Ent.rn_owns] at hw
  exact ⟨j, e, l, List.mem_of_getElem? h1, h2, hl, hw⟩

theorem lent_turn (ls : List Nat) (ids : List Nat) : Turn (fun i => indexOf i ls 0) L (lentL L ls) ids := by
  intro i _ j hj
  have := (indexOf_some hj).2
  simp only [lentL, Nat.sub_zero] at this ⊢
  rw [this]

/-- What the callee is given. -/
theorem lent_rel (h : Rel F nt L s a w) {fr ls : List Nat} (hnd : ls.Nodup) {es : List (Ent G)} (hes : looks s ls = some es) (hdj : ∀ i ∈ fr, i ∉ ls) (hcl : ∀ i ∈ ls, ∀ e, s.look i = some e → ∀ j ∈ e.ids, j ∈ ls) {es0 : List (Ent G)} (h0 : es0 = es.map (Ent.rn fun i => indexOf i ls 0)) :
    (∀ b o, okOf F L (s.upd (frz s fr)) b o → okOf (lentF F L (s.upd (frz s fr)) w es0 ls) (lentL L ls) (St.of es0) b o) ∧ RelE (lentF F L (s.upd (frz s fr)) w es0 ls) (lentL L ls) (St.of es0) w := by
  subst h0
  have h1 := h.freeze fr
  have same : ∀ i ∈ ls, (s.upd (frz s fr)).look i = s.look i := fun i hi => frz_notin fun hf => hdj i hf hi
  have hok : ∀ b o, okOf F L (s.upd (frz s fr)) b o → okOf (lentF F L (s.upd (frz s fr)) w (es.map (Ent.rn fun i => indexOf i ls 0)) ls) (lentL L ls) (St.of (es.map (Ent.rn fun i => indexOf i ls 0))) b o := by
    intro b o hb
    refine ⟨.inl hb, fun ho => ?_⟩
    obtain ⟨j, e, l, hj, hs, hl, hw⟩ := lent_owned hes ho
    exact hb.2 ⟨j, e, l, by rw [same j hj]; exact hs, hl, hw⟩
  refine ⟨hok, ⟨⟨rfl, rfl, rfl, Nat.le_refl _, fun _ _ _ => rfl, fun _ _ _ _ => rfl⟩, ?_, ?_, ?_, ?_, fun i hi => ⟨by rw [St.of_look, List.getElem?_eq_getElem hi]; rfl, rfl⟩⟩⟩
  · intro i e' hi
    obtain ⟨j, e, p1, p2, rfl⟩ := lent_look hes hi
    have hj := List.mem_of_getElem? p1
    exact ((h1.e.en j e (by rw [same j hj]; exact p2)).ok_mono hok).rn (by simp [lentL, p1]) (lent_turn ls _)
  · intro i e' hi j' hj'
    obtain ⟨j, e, p1, p2, rfl⟩ := lent_look hes hi
    rw [Ent.rn_nms] at hj'
    obtain ⟨i', q1, q2⟩ := Ent.rn_ids hj'
    have := (indexOf_some q2).2
    simp only [Nat.sub_zero] at this
    obtain ⟨e'', r1, r2⟩ := (looks_spec hes).2 j' i' this
    rw [St.of_look, List.getElem?_map, r2]; rfl
  · intro i i' e' f' l m hi hi' hl hm oe of ne x hx hy
    obtain ⟨j, e, p1, p2, rfl⟩ := lent_look hes hi
    obtain ⟨k, f, q1, q2, rfl⟩ := lent_look hes hi'
    simp only [lentL, p1] at hl
    simp only [lentL, q1] at hm
    rw [Ent.rn_blks] at hx hy
    refine h.e.dis j k e f l m p2 q2 hl hm (Ent.rn_owner.mp oe) (Ent.rn_owner.mp of) (fun ejk => ne ?_) x hx hy
    subst ejk
    have hlen1 : i < ls.length := by
      rcases Nat.lt_or_ge i ls.length with h3 | h3
      · exact h3
      · rw [List.getElem?_eq_none h3] at p1; cases p1
    exact (List.getElem?_inj hlen1 hnd).mp (p1.trans q1.symm)
  · intro i e' l hi hl oe x hx
    obtain ⟨j, e, p1, p2, rfl⟩ := lent_look hes hi
    simp only [lentL, p1] at hl
    rw [Ent.rn_blks] at hx
    have oe := Ent.rn_owner.mp oe
    have hj := List.mem_of_getElem? p1
    have own := h.e.own j e l p2 hl oe x hx
    refine ⟨own.1, .inr fun o => ⟨fun hw => ⟨i, _, l, hi, by simp [lentL, p1, hl], hw⟩, ?_⟩⟩
    by_cases ho : owned (s.upd (frz s fr)) L x o
    · refine .inr (.inl ?_)
      obtain ⟨k, f, m, q1, q2, q3⟩ := ho
      obtain ⟨of, hb⟩ := owns_owner q3
      have hjk : k = j := by
        refine Classical.byContradiction fun ne => ?_
        exact h1.e.dis k j f e m l q1 (by rw [same j hj]; exact p2) q2 hl of oe ne x hb hx
      subst hjk
      rw [same k hj] at q1
      rw [p2] at q1; cases q1
      rw [hl] at q2; cases q2
      exact ⟨i, _, l, hi, by simp [lentL, p1, hl], by rw [Ent.rn_owns]; exact q3⟩
    · exact .inl ⟨h.base' p2 hl oe hx o, ho⟩

/-- What comes back. -/
theorem back_rel (h : Rel F nt L s a w) {fr ls : List Nat} (hnd : ls.Nodup) {es : List (Ent G)} (hes : looks s ls = some es) (hdj : ∀ i ∈ fr, i ∉ ls) {es0 : List (Ent G)} (h0 : es0 = es.map (Ent.rn fun i => indexOf i ls 0))
    {Lc : LM} {es' news : List (Ent G)} {w' : World} (hlen : es'.length = ls.length) {nid : Nat} (hfr : fresh s nid news = true)
    (hc : RelE (lentF F L (s.upd (frz s fr)) w es0 ls) Lc (St.of (es' ++ news)) w') (hLc : ∀ i, i < es0.length → LocS (Lc i) (lentL L ls i)) {res : EV G} {v : Value}
    (hv : RepV (okOf (lentF F L (s.upd (frz s fr)) w es0 ls) Lc (St.of (es' ++ news))) w' Lc res v) (hvi : ∀ j ∈ res.ids, j < (es' ++ news).length)
    (hold : Bool) (hh : hold = (EV.hasSl res || es'.any Ent.hasSl || news.any Ent.hasSl)) :
    ∃ L', Rel F nt L' (s.upd (zipE ls (es'.map (Ent.rn (backTo ls nid))) ++ (number nid (news.map (Ent.rn (backTo ls nid))) ++ (bif hold then frz s fr else [])))) a w' ∧
      RepV (okOf F L' (s.upd (zipE ls (es'.map (Ent.rn (backTo ls nid))) ++ (number nid (news.map (Ent.rn (backTo ls nid))) ++ (bif hold then frz s fr else []))))) w' L' (res.rn (backTo ls nid)) v ∧
      ∀ j ∈ (res.rn (backTo ls nid)).ids, ((s.upd (zipE ls (es'.map (Ent.rn (backTo ls nid))) ++ (number nid (news.map (Ent.rn (backTo ls nid))) ++ (bif hold then frz s fr else [])))).look j).isSome := by
  have h1 := h.freeze fr
  obtain ⟨hesl, hesg⟩ := looks_spec hes
  have hes0 : es0.length = ls.length := by rw [h0, List.length_map, hesl]
  have same1 : ∀ i ∈ ls, (s.upd (frz s fr)).look i = s.look i := fun i hi => frz_notin fun hf => hdj i hf hi
  have lsome : ∀ i j, ls[i]? = some j → (s.look j).isSome := fun i j hij => by obtain ⟨e, q, _⟩ := hesg i j hij; simp [q]
  have fsp := fresh_spec hfr
  -- the two starts in one
  obtain ⟨t, ht, hts, htl, htf, hst⟩ : ∃ t : St G, Rel F nt L t a w ∧ (∀ i ∈ ls, t.look i = s.look i) ∧ (∀ i, (t.look i).isSome = (s.look i).isSome) ∧ ((t = s.upd (frz s fr)) ∨ (t = s ∧ hold = false)) ∧
      ∀ A B : List (Nat × Ent G), s.upd (A ++ (B ++ (bif hold then frz s fr else []))) = t.upd (A ++ B) := by
    cases hold with
    | true =>
      refine ⟨_, h1, same1, fun i => ?_, .inl rfl, fun A B => by simp [St.upd]⟩
      rw [St.look_upd]
      cases hf : lookT (frz s fr) i with
      | none => simp
      | some e => obtain ⟨_, _, _, _, q, _⟩ := frz_look s fr i e hf; simp [q]
    | false => exact ⟨s, h, fun _ _ => rfl, fun _ => rfl, .inr ⟨rfl, rfl⟩, fun A B => by simp⟩
  rw [hst]
  generalize hup : zipE ls (es'.map (Ent.rn (backTo ls nid))) ++ number nid (news.map (Ent.rn (backTo ls nid))) = up
  let L' : LM := fun i => match indexOf i ls 0 with | some n => Lc n | none => if (s.look i).isSome then L i else Lc (ls.length + (i - nid))
  -- the new names
  have lin : ∀ j, j ∉ ls → indexOf j ls 0 = none := by
    intro j hj
    cases hi : indexOf j ls 0 with
    | none => rfl
    | some n => exact absurd (List.mem_of_getElem? (by have := (indexOf_some hi).2; simpa using this)) hj
  have lix : ∀ i j, ls[i]? = some j → indexOf j ls 0 = some i := by
    intro i j hij
    cases hi : indexOf j ls 0 with
    | none => exact absurd (List.mem_of_getElem? hij) (indexOf_none hi)
    | some n =>
      have h3 := (indexOf_some hi).2
      rw [Nat.sub_zero] at h3
      exact congrArg some ((List.getElem?_inj (by
        rcases Nat.lt_or_ge n ls.length with h4 | h4
        · exact h4
        · rw [List.getElem?_eq_none h4] at h3; cases h3) hnd).mp (h3.trans hij.symm))
  have lc : ∀ i j, ls[i]? = some j → LocS (Lc i) (L j) := by
    intro i j hij
    have hi : i < ls.length := by
      rcases Nat.lt_or_ge i ls.length with h3 | h3
      · exact h3
      · rw [List.getElem?_eq_none h3] at hij; cases hij
    have := hLc i (by omega)
    simpa [lentL, hij] using this
  have bk : ∀ i j, i < (es' ++ news).length → backTo ls nid i = some j → L' j = Lc i ∧ (i < ls.length → ls[i]? = some j) ∧ (ls.length ≤ i → j = nid + (i - ls.length) ∧ s.look j = none) := by
    intro i j hi hb
    simp only [List.length_append, hlen] at hi
    unfold backTo at hb
    cases hl : ls[i]? with
    | some k =>
      rw [hl] at hb
      have hb : k = j := by simpa using hb
      subst hb
      have hi' : i < ls.length := by
        rcases Nat.lt_or_ge i ls.length with h3 | h3
        · exact h3
        · rw [List.getElem?_eq_none h3] at hl; cases hl
      exact ⟨by simp only [L', lix i k hl], fun _ => rfl, fun h => absurd hi' (by omega)⟩
    | none =>
      rw [hl] at hb
      have hb : nid + (i - ls.length) = j := by simpa using hb
      have hge : ls.length ≤ i := by
        rcases Nat.lt_or_ge i ls.length with h3 | h3
        · rw [List.getElem?_eq_getElem h3] at hl; cases hl
        · exact h3
      have hn := fsp (i - ls.length) (by omega)
      rw [hb] at hn
      refine ⟨?_, fun h => absurd h (by omega), fun _ => ⟨hb.symm, hn⟩⟩
      have hnj : j ∉ ls := fun hj => by
        obtain ⟨q, hq⟩ := List.getElem?_of_mem hj
        have := lsome q j hq
        rw [hn] at this; cases this
      have hL' : L' j = Lc (ls.length + (j - nid)) := by simp only [L', hn, lin j hnj]; simp
      rw [hL']; congr 1; omega
  have upS : ∀ j e', lookT up j = some e' → ∃ i e, (es' ++ news)[i]? = some e ∧ e' = e.rn (backTo ls nid) ∧ backTo ls nid i = some j ∧ i < (es' ++ news).length := by
    intro j e' hj
    rw [← hup, lookT_append] at hj
    cases hz : lookT (zipE ls (es'.map (Ent.rn (backTo ls nid)))) j with
    | some e =>
      rw [hz] at hj
      have hj : e = e' := by simpa using hj
      subst hj
      obtain ⟨i, p1, p2⟩ := zipE_some hz
      rw [List.getElem?_map] at p2
      have hi : i < ls.length := by
        rcases Nat.lt_or_ge i ls.length with h3 | h3
        · exact h3
        · rw [List.getElem?_eq_none h3] at p1; cases p1
      rw [List.getElem?_eq_getElem (by omega)] at p2
      refine ⟨i, es'[i]'(by omega), ?_, (some_inj (by simpa using p2)).symm, by simp [backTo, p1], by simp; omega⟩
      rw [List.getElem?_append_left (by omega), List.getElem?_eq_getElem]
    | none =>
      rw [hz] at hj
      simp only [Option.none_or, number_look] at hj
      split at hj
      · rename_i hn
        rw [List.getElem?_map] at hj
        have hi : j - nid < news.length := by
          rcases Nat.lt_or_ge (j - nid) news.length with h3 | h3
          · exact h3
          · rw [List.getElem?_eq_none h3] at hj; cases hj
        rw [List.getElem?_eq_getElem hi] at hj
        refine ⟨ls.length + (j - nid), news[j - nid], ?_, (some_inj (by simpa using hj)).symm, ?_, by simp; omega⟩
        · rw [List.getElem?_append_right (by omega), hlen, show ls.length + (j - nid) - ls.length = j - nid by omega, List.getElem?_eq_getElem hi]
        · unfold backTo
          rw [List.getElem?_eq_none (by omega)]
          simp only [Option.some.injEq]; omega
      · cases hj
  have upN : ∀ j, lookT up j = none → j ∉ ls := by
    intro j hj
    rw [← hup, lookT_append] at hj
    cases hz : lookT (zipE ls (es'.map (Ent.rn (backTo ls nid)))) j with
    | some e => rw [hz] at hj; simp at hj
    | none => exact zipE_none (by simpa using hlen) hz
  have upD : ∀ i j, i < (es' ++ news).length → backTo ls nid i = some j → ((t.upd up).look j).isSome := by
    intro i j hi hb
    obtain ⟨_, b1, b2⟩ := bk i j hi hb
    rw [St.look_upd]
    rcases Nat.lt_or_ge i ls.length with h3 | h3
    · have := lsome i j (b1 h3)
      cases lookT up j with
      | some _ => rfl
      | none => simp [htl, this]
    · obtain ⟨e1, hn⟩ := b2 h3
      cases hz : lookT up j with
      | some _ => rfl
      | none =>
        exfalso
        rw [← hup, lookT_append] at hz
        cases hz1 : lookT (zipE ls (es'.map (Ent.rn (backTo ls nid)))) j with
        | some e => rw [hz1] at hz; simp at hz
        | none =>
          rw [hz1] at hz
          simp only [Option.none_or, number_look] at hz
          rw [if_pos (by omega), List.getElem?_map, List.getElem?_eq_getElem (by simp only [List.length_append, hlen] at hi; omega)] at hz
          cases hz
  have hX : ∀ b o, (lentF F L (s.upd (frz s fr)) w es0 ls).X b o → ∃ j e l, j ∈ ls ∧ s.look j = some e ∧ L j = some l ∧ owns l e b o := by
    intro b o hx
    have hx : owned (St.of es0) (lentL L ls) b o := hx
    rw [h0] at hx
    exact lent_owned hes hx
  have clook : ∀ (i : Nat) (e : Ent G), (es' ++ news)[i]? = some e → (St.of (es' ++ news)).look i = some e := fun i e he => by rw [St.of_look]; exact he
  -- an entry of the callee's lies in no block of another's
  have apart : ∀ (i : Nat) (e : Ent G) (l : Loc), (es' ++ news)[i]? = some e → Lc i = some l → owner e → ∀ j f m, j ∉ ls → t.look j = some f → L j = some m → owner f → ∀ x, blks e l x → ¬ blks f m x := by
    intro i e l hi hl oe j f m hj hf hm of x hx hy
    have mb := (ht.e.own j f m hf hm of x hy).1
    obtain ⟨f1, hf1, of1, hy1⟩ : ∃ f1, (s.upd (frz s fr)).look j = some f1 ∧ owner f1 ∧ blks f1 m x := by
      rcases htf with rfl | ⟨rfl, _⟩
      · exact ⟨f, hf, of, hy⟩
      · rw [St.look_upd]
        cases hz : lookT (frz t fr) j with
        | none => exact ⟨f, by simpa using hf, of, hy⟩
        | some e =>
          obtain ⟨_, _, _, _, q5, rfl⟩ := frz_look t fr j e hz
          rw [q5] at hf; cases hf
          exact ⟨_, rfl, trivial, hy⟩
    obtain ⟨o, ho⟩ := owns_any of1 hy1
    rcases (hc.own i e l (clook i e hi) hl oe x hx).2 with h2 | h2
    · have : w.heap.size ≤ x := h2
      omega
    · rcases (h2 o).2 with h3 | h3 | h3
      · exact h3.2 ⟨j, f1, m, hf1, hm, ho⟩
      · obtain ⟨j', e', l', p1, p2, p3, p4⟩ := hX _ _ h3
        obtain ⟨oe', hb'⟩ := owns_owner p4
        exact h1.e.dis j' j e' f1 l' m (by rw [same1 j' p1]; exact p2) hf1 p3 hm oe' of1 (fun e0 => hj (e0 ▸ p1)) x hb' hy1
      · have : w.heap.size ≤ x := h3
        omega
  -- what the callee may see, the caller may
  have hokc : hold = true → ∀ b o, okOf (lentF F L (s.upd (frz s fr)) w es0 ls) Lc (St.of (es' ++ news)) b o → okOf F L' (t.upd up) b o := by
    intro hho b o hb
    have htt : t = s.upd (frz s fr) := by rcases htf with h2 | ⟨_, h2⟩; exact h2; rw [hho] at h2; cases h2
    refine ⟨?_, ?_⟩
    · rcases hb.1 with h2 | h2 | h2
      · exact h2.1
      · obtain ⟨j', e', l', p1, p2, p3, p4⟩ := hX _ _ h2
        obtain ⟨oe', hb'⟩ := owns_owner p4
        exact h.base' p2 p3 oe' hb' o
      · have : w.heap.size ≤ b := h2
        exact .inr (.inr (Nat.le_trans h.e.fits.size this))
    · rintro ⟨j, f, m, hj, hm, hw⟩
      obtain ⟨of, hmb⟩ := owns_owner hw
      rw [St.look_upd] at hj
      cases hu : lookT up j with
      | some e' =>
        rw [hu] at hj
        have hj : e' = f := by simpa using hj
        subst hj
        obtain ⟨i, e, p1, rfl, p3, p4⟩ := upS j _ hu
        rw [(bk i j p4 p3).1] at hm
        rw [Ent.rn_owns] at hw
        exact hb.2 ⟨i, e, m, clook i e p1, hm, hw⟩
      | none =>
        rw [hu] at hj
        have hj : t.look j = some f := by simpa using hj
        have hm : L j = some m := by
          have : (s.look j).isSome = true := by rw [← htl, hj]; rfl
          simpa [L', this, lin j (upN j hu)] using hm
        have hjl := upN j hu
        rcases hb.1 with h2 | h2 | h2
        · exact h2.2 ⟨j, f, m, by rw [← htt]; exact hj, hm, hw⟩
        · obtain ⟨j', e', l', p1, p2, p3, p4⟩ := hX _ _ h2
          obtain ⟨oe', hb'⟩ := owns_owner p4
          exact ht.e.dis j' j e' f l' m (by rw [hts j' p1]; exact p2) hj p3 hm oe' of (fun e0 => hjl (e0 ▸ p1)) b hb' hmb
        · have h3 : w.heap.size ≤ b := h2
          have := (ht.e.own j f m hj hm of b hmb).1
          omega
  have hk : Keeps (okOf F L t) (okOf F L' (t.upd up)) w w' := by
    intro b o u hb hcell
    have hbs := cell_lt hcell
    have hnx : ¬ (lentF F L (s.upd (frz s fr)) w es0 ls).X b o := by
      intro hx
      obtain ⟨j', e', l', p1, p2, p3, p4⟩ := hX _ _ hx
      exact hb.2 ⟨j', e', l', by rw [hts j' p1]; exact p2, p3, p4⟩
    refine ⟨⟨hb.1, ?_⟩, by rw [hc.fits.cell b o hbs hnx]; exact hcell⟩
    rintro ⟨j, f, m, hj, hm, hw⟩
    obtain ⟨of, hmb⟩ := owns_owner hw
    rw [St.look_upd] at hj
    cases hu : lookT up j with
    | some e' =>
      rw [hu] at hj
      have hj : e' = f := by simpa using hj
      subst hj
      obtain ⟨i, e, p1, rfl, p3, p4⟩ := upS j _ hu
      rw [(bk i j p4 p3).1] at hm
      rw [Ent.rn_owns] at hw
      rw [Ent.rn_blks] at hmb
      rcases (hc.own i e m (clook i e p1) hm (Ent.rn_owner.mp of) b hmb).2 with h2 | h2
      · have h2 : w.heap.size ≤ b := h2
        have hbs' : b < w.heap.size := hbs
        omega
      · exact hnx ((h2 o).1 hw)
    | none =>
      rw [hu] at hj
      have hj : t.look j = some f := by simpa using hj
      have : (s.look j).isSome = true := by rw [← htl, hj]; rfl
      have hm : L j = some m := by simpa [L', this, lin j (upN j hu)] using hm
      exact hb.2 ⟨j, f, m, hj, hm, hw⟩
  have turn : ∀ ids : List Nat, (∀ i ∈ ids, i < (es' ++ news).length) → Turn (backTo ls nid) Lc L' ids := fun ids hi i him j hj => (bk i j (hi i him) hj).1
  have hcids : ∀ (i : Nat) (e : Ent G), (es' ++ news)[i]? = some e → ∀ j ∈ e.ids, j < (es' ++ news).length := by
    intro i e hi j hj
    have := hc.ids i e (clook i e hi) j (Ent.ids_nms hj)
    rw [St.of_look] at this
    rcases Nat.lt_or_ge j (es' ++ news).length with h3 | h3
    · exact h3
    · rw [List.getElem?_eq_none h3] at this; cases this
  have final : Rel F nt L' (t.upd up) a w' := by
    refine ht.step' up ?_ hk ?_ ?_ ?_ ?_ hc.fits.size ?_ ?_
    · refine ⟨hc.fits.os.trans h.e.fits.os, hc.fits.tape.trans h.e.fits.tape, hc.fits.output.trans h.e.fits.output, Nat.le_trans h.e.fits.size hc.fits.size, fun b hb hx => ?_, fun b o hb hx => ?_⟩
      · refine (hc.fits.block b (Nat.lt_of_lt_of_le hb h.e.fits.size) fun o ho => ?_).trans (h.e.fits.block b hb hx)
        obtain ⟨j', e', l', p1, p2, p3, p4⟩ := hX _ _ ho
        obtain ⟨oe', hb'⟩ := owns_owner p4
        rcases (h.e.own j' e' l' p2 p3 oe' b hb').2 with h2 | h2
        · omega
        · exact hx o ((h2 o).1 p4)
      · refine (hc.fits.cell b o (Nat.lt_of_lt_of_le hb h.e.fits.size) fun ho => ?_).trans (h.e.fits.cell b o hb hx)
        obtain ⟨j', e', l', p1, p2, p3, p4⟩ := hX _ _ ho
        obtain ⟨oe', hb'⟩ := owns_owner p4
        rcases (h.e.own j' e' l' p2 p3 oe' b hb').2 with h2 | h2
        · omega
        · exact hx ((h2 o).1 p4)
    · intro i hi hu
      rw [htl] at hi
      simp [L', hi, lin i (upN i hu)]
    · intro i hi
      rw [htl] at hi
      cases hx : indexOf i ls 0 with
      | none => simp only [L', hx, hi, if_true]; exact .of rfl
      | some n =>
        simp only [L', hx]
        exact lc n i (by have := (indexOf_some hx).2; simpa using this)
    · intro j f m hu hj of hm x hx
      refine hc.fits.block x (ht.e.own j f m hj hm of x hx).1 fun o ho => ?_
      obtain ⟨j', e', l', p1, p2, p3, p4⟩ := hX _ _ ho
      obtain ⟨oe', hb'⟩ := owns_owner p4
      exact ht.e.dis j' j e' f l' m (by rw [hts j' p1]; exact p2) hj p3 hm oe' of (fun e0 => upN j hu (e0 ▸ p1)) x hb' hx
    · intro j e' hu
      obtain ⟨i, e, p1, rfl, p3, p4⟩ := upS j _ hu
      refine ⟨?_, fun k hk' => ?_⟩
      · have hre := hc.en i e (clook i e p1)
        cases hho : hold with
        | true => exact (hre.ok_mono (hokc hho)).rn (bk i j p4 p3).1 (turn _ (hcids i e p1))
        | false =>
          rw [hh, Bool.or_eq_false_iff, Bool.or_eq_false_iff] at hho
          have hf : e.hasSl = false := by
            rcases List.mem_append.mp (List.mem_of_getElem? p1) with h3 | h3
            · simpa using List.any_eq_false.mp hho.1.2 e h3
            · simpa using List.any_eq_false.mp hho.2 e h3
          exact (hre.free hf).rn (bk i j p4 p3).1 (turn _ (hcids i e p1))
      · rw [Ent.rn_nms] at hk'
        obtain ⟨i', q1, q2⟩ := Ent.rn_ids hk'
        exact upD i' k (hcids i e p1 i' q1) q2
    · intro j k e' f l m hu hk' hl hm oe of ne x hx hy
      obtain ⟨i, e, p1, rfl, p3, p4⟩ := upS j _ hu
      rw [Ent.rn_blks] at hx
      rw [(bk i j p4 p3).1] at hl
      have oe := Ent.rn_owner.mp oe
      rw [St.look_upd] at hk'
      cases hv' : lookT up k with
      | some f' =>
        rw [hv'] at hk'
        have hk' : f' = f := by simpa using hk'
        subst hk'
        obtain ⟨i', e2, q1, rfl, q3, q4⟩ := upS k _ hv'
        rw [(bk i' k q4 q3).1] at hm
        rw [Ent.rn_blks] at hy
        exact hc.dis i i' e e2 l m (clook i e p1) (clook i' e2 q1) hl hm oe (Ent.rn_owner.mp of) (fun e0 => ne (by subst e0; rw [p3] at q3; exact some_inj q3)) x hx hy
      | none =>
        rw [hv'] at hk'
        have hk' : t.look k = some f := by simpa using hk'
        have : (s.look k).isSome = true := by rw [← htl, hk']; rfl
        have hm : L k = some m := by simpa [L', this, lin k (upN k hv')] using hm
        exact apart i e l p1 hl oe k f m (upN k hv') hk' hm of x hx hy
    · intro j e' l hu hl oe x hx
      obtain ⟨i, e, p1, rfl, p3, p4⟩ := upS j _ hu
      rw [(bk i j p4 p3).1] at hl
      rw [Ent.rn_blks] at hx
      have oe := Ent.rn_owner.mp oe
      obtain ⟨o1, o2⟩ := hc.own i e l (clook i e p1) hl oe x hx
      refine ⟨o1, ?_⟩
      rcases o2 with o2 | o2
      · have o2 : w.heap.size ≤ x := o2
        exact .inl (Nat.le_trans h.e.fits.size o2)
      · rcases Nat.lt_or_ge x F.w0.heap.size with h3 | h3
        · refine .inr fun o => ⟨fun hw => ?_, ?_⟩
          · rw [Ent.rn_owns] at hw
            obtain ⟨j', e', l', p1, p2, p3, p4⟩ := hX _ _ ((o2 o).1 hw)
            obtain ⟨oe', hb'⟩ := owns_owner p4
            rcases (h.e.own j' e' l' p2 p3 oe' x hb').2 with h2 | h2
            · omega
            · exact (h2 o).1 p4
          · rcases (o2 o).2 with h4 | h4 | h4
            · exact h4.1
            · obtain ⟨j', e', l', p1, p2, p3, p4⟩ := hX _ _ h4
              obtain ⟨oe', hb'⟩ := owns_owner p4
              exact h.base' p2 p3 oe' hb' o
            · have h4 : w.heap.size ≤ x := h4
              exact .inr (.inr (Nat.le_trans h.e.fits.size h4))
        · exact .inl h3
  refine ⟨L', final, ?_, fun k hk' => ?_⟩
  · cases hho : hold with
    | true => exact (hv.mono (L' := Lc) (fun b o u p q => ⟨hokc hho b o p, q⟩) (fun _ _ => rfl)).rn (turn _ hvi)
    | false =>
      rw [hh, Bool.or_eq_false_iff, Bool.or_eq_false_iff] at hho
      exact (hv.free hho.1.1).rn (turn _ hvi)
  · obtain ⟨i', q1, q2⟩ := EV.rn_ids hk'
    exact upD i' k (hvi i' q1) q2
end
end Go.Abs
end
section
set_option linter.all false
set_option linter.unusedVariables false
set_option linter.unusedSimpArgs false
set_option linter.unnecessarySimpa false
/-
  ABS, part 21: the evaluator's calls are sound.
-/
namespace Go.Abs
open Go
variable {G : Gam}

structure FnOK (P : Program) (f : FuncId) (T : FnT G) : Prop where
  enters : ∃ fn c, P.funcs[f]? = some fn ∧ (fn.name == "runtime.NumGoroutine") = false ∧ fn.body = some c
  sem : ∀ (R : Type) (args : List (EV G)) (lent : List (Ent G)) (k : EV G → List (Ent G) → List (Ent G) → Option R) (r : R), T.sem R args lent k = some r → ∃ res lent' news, Contract P f args lent res lent' news ∧ k res lent' news = some r

def CallOK (P : Program) (nt : Nat) (f : FuncId) (args : List (EV G)) (ids : List Nat) (lk : Nat → Option (Ent G)) (v : EV G) (up : List (Nat × Ent G)) : Prop :=
  ∀ (F : Frm) (L : LM) (s : St G) (a : Act) (w : World), Rel F nt L s a w → (∀ i ∈ ids, s.look i = lk i) → ∀ vs : Array Value, RepVs (okOf F L s) w L args vs.toList → (∀ j ∈ EV.idss args, (s.look j).isSome) →
    Calls P f vs w fun e w' => ∃ u L', e = .returned u ∧ Rel F nt L' (s.upd up) a w' ∧ RepV (okOf F L' (s.upd up)) w' L' v u ∧ ∀ j ∈ v.ids, ((s.upd up).look j).isSome

section
variable {P : Program} {F : Frm} {nt : Nat} {L : LM} {s : St G} {a : Act} {w : World}

/-- What must hold of cells for what was frozen. -/
def FzOK (L : LM) (s : St G) (ok' : Cells) (f : List Nat) : Prop :=
  ∀ i ∈ f, ∀ (e : Ty) (xs : List (G.D e)) (n : Nat) (l : Loc), s.look i = some (.row e xs n) → L i = some l → ∀ o, l.off ≤ o → o < l.off + l.len * l.sz → ok' l.b o

theorem snap_sem (h : Rel F nt L s a w) {v x : EV G} {f : List Nat} {u : Value} (hs : snap P s v = some (x, f)) (hv : RepV (okOf F L s) w L v u) (ok' : Cells) (k : Keeps (okOf F L s) ok' w w) (hf : FzOK L s ok' f) : RepV ok' w L x u := by
  unfold snap at hs
  split at hs
  · rename_i i
    split at hs
    · rename_i e xs lk hi
      cases hs
      have := asD_sem h (τ := .sl e) (v := .ow i) (x := xs) (f := [i]) (by simp [asD, hi, castD]) hv ok' k hf
      simp only [RepV]; exact this
    · rename_i e xs hi
      cases hs
      have := asD_sem h (τ := .sl e) (v := .ow i) (x := xs) (f := []) (by simp [asD, hi, castD]) hv ok' k hf
      simp only [RepV]; exact this
    · cases hs
  · rename_i i lo n
    split at hs
    · rename_i e xs lk hi
      cases hs
      have := asD_sem h (τ := .sl e) (v := .vw i lo n) (x := (xs.drop lo).take n) (f := [i]) (by simp [asD, hi, castD]) hv ok' k hf
      simp only [RepV]; exact this
    · rename_i e xs hi
      cases hs
      have := asD_sem h (τ := .sl e) (v := .vw i lo n) (x := (xs.drop lo).take n) (f := []) (by simp [asD, hi, castD]) hv ok' k hf
      simp only [RepV]; exact this
    · cases hs
  · cases hs; exact hv.mono k (fun _ _ => rfl)

theorem snaps_sem (h : Rel F nt L s a w) (ok' : Cells) (k : Keeps (okOf F L s) ok' w w) : ∀ {l m : List (EV G)} {f : List Nat} {us : List Value}, snaps P s l = some (m, f) → RepVs (okOf F L s) w L l us → FzOK L s ok' f → RepVs ok' w L m us := by
  intro l
  induction l with
  | nil => intro m f us hs hv _; simp [snaps] at hs; obtain ⟨rfl, rfl⟩ := hs; cases us <;> simpa [RepVs] using hv
  | cons v l ih =>
    intro m f us hs hv hf
    simp only [snaps] at hs
    split at hs
    · rename_i x f1 hx
      split at hs
      · rename_i m' g hm
        cases hs
        cases us with
        | nil => simp [RepVs] at hv
        | cons u us =>
          simp only [RepVs] at hv ⊢
          exact ⟨snap_sem h hx hv.1 ok' k fun i hi => hf i (by simp [hi]), ih hm hv.2 fun i hi => hf i (by simp [hi])⟩
      · cases hs
    · cases hs

theorem snapA_sem (h : Rel F nt L s a w) {v x : EV G} {f : List Nat} {u : Value} (hs : snapA P s v = some (x, f)) (hv : RepV (okOf F L s) w L v u) (ok' : Cells) (k : Keeps (okOf F L s) ok' w w) (hf : FzOK L s ok' f) : RepV ok' w L x u := by
  unfold snapA at hs
  split at hs
  · split at hs
    · rename_i m f' hm
      cases hs
      simp only [RepV] at hv ⊢
      obtain ⟨cvs, h1, h2⟩ := hv
      exact ⟨cvs, h1, snaps_sem h ok' k hm h2 hf⟩
    · cases hs
  · exact snap_sem h hs hv ok' k hf

theorem snapArgs_sem (h : Rel F nt L s a w) (ok' : Cells) (k : Keeps (okOf F L s) ok' w w) {io : List Nat} : ∀ {l m : List (EV G)} {n : Nat} {f : List Nat} {us : List Value}, snapArgs P s io n l = some (m, f) → RepVs (okOf F L s) w L l us → FzOK L s ok' f → RepVs ok' w L m us := by
  intro l
  induction l with
  | nil => intro m n f us hs hv _; simp [snapArgs] at hs; obtain ⟨rfl, rfl⟩ := hs; cases us <;> simpa [RepVs] using hv
  | cons v l ih =>
    intro m n f us hs hv hf
    simp only [snapArgs] at hs
    split at hs
    · rename_i x f1 hx
      split at hs
      · rename_i m' g hm
        cases hs
        cases us with
        | nil => simp [RepVs] at hv
        | cons u us =>
          simp only [RepVs] at hv ⊢
          refine ⟨?_, ih hm hv.2 fun i hi => hf i (by simp [hi])⟩
          cases hio : io.contains n with
          | true => rw [hio] at hx; simp at hx; obtain ⟨rfl, rfl⟩ := hx; exact hv.1.mono k (fun _ _ => rfl)
          | false => rw [hio] at hx; exact snapA_sem h hx hv.1 ok' k fun i hi => hf i (by simp [hi])
      · cases hs
    · cases hs

theorem snap_congr {s' : St G} {v : EV G} (h : ∀ i ∈ v.ids, s'.look i = s.look i) : snap P s' v = snap P s v := by
  cases v <;> first | rfl | (simp only [snap]; rw [h _ (by simp [EV.ids])])
theorem snaps_congr {s' : St G} : ∀ {l : List (EV G)}, (∀ i ∈ EV.idss l, s'.look i = s.look i) → snaps P s' l = snaps P s l := by
  intro l
  induction l with
  | nil => intro _; rfl
  | cons v l ih =>
    intro h
    simp only [snaps, snap_congr (P := P) (v := v) fun i hi => h i (by simp [EV.idss, hi]), ih fun i hi => h i (by simp [EV.idss, hi])]
theorem snapA_congr {s' : St G} {v : EV G} (h : ∀ i ∈ v.ids, s'.look i = s.look i) : snapA P s' v = snapA P s v := by
  cases v with
  | ag l => simp only [snapA, snaps_congr (P := P) (l := l) fun i hi => h i (by simpa [EV.ids] using hi)]
  | _ => exact snap_congr (P := P) h
theorem snapArgs_congr {s' : St G} {io : List Nat} : ∀ {l : List (EV G)} {n : Nat}, (∀ i ∈ EV.idss l, s'.look i = s.look i) → snapArgs P s' io n l = snapArgs P s io n l := by
  intro l
  induction l with
  | nil => intro _ _; rfl
  | cons v l ih =>
    intro n h
    simp only [snapArgs, snapA_congr (P := P) (v := v) fun i hi => h i (by simp [EV.idss, hi]), ih fun i hi => h i (by simp [EV.idss, hi])]
theorem looks_congr {s' : St G} : ∀ {l : List Nat}, (∀ i ∈ l, s'.look i = s.look i) → looks s' l = looks s l := by
  intro l
  induction l with
  | nil => intro _; rfl
  | cons v l ih => intro h; simp only [looks, h v (by simp), ih fun i hi => h i (by simp [hi])]
theorem entIds_congr {s' : St G} : ∀ {l : List Nat}, (∀ i ∈ l, s'.look i = s.look i) → entIds s' l = entIds s l := by
  intro l
  induction l with
  | nil => intro _; rfl
  | cons v l ih => intro h; simp only [entIds, h v (by simp), ih fun i hi => h i (by simp [hi])]
theorem fresh_congr {s' : St G} : ∀ {l : List (Ent G)} {n : Nat}, (∀ j, j < l.length → s'.look (n + j) = s.look (n + j)) → fresh s' n l = fresh s n l := by
  intro l
  induction l with
  | nil => intro _ _; rfl
  | cons v l ih =>
    intro n h
    have h0 := h 0 (by simp)
    simp only [fresh, ih (n := n + 1) fun j hj => by have := h (j + 1) (by simpa using hj); rw [show n + 1 + j = n + (j + 1) by omega]; exact this]
    rw [show s'.look n = s.look n from h0]
theorem number_keys : ∀ (es : List (Ent G)) (n j : Nat), j < es.length → n + j ∈ (number n es).map (·.1) := by
  intro es
  induction es with
  | nil => intro n j h; simp at h
  | cons e es ih =>
    intro n j h
    simp only [number, List.map_cons, List.mem_cons]
    cases j with
    | zero => left; rfl
    | succ j => right; rw [show n + (j + 1) = n + 1 + j by omega]; exact ih (n + 1) j (by simpa using h)

theorem reach_nodup (s : St G) (vs : List (EV G)) : (reach s vs).Nodup := by
  unfold reach
  exact (addNew_spec _ _ (addNew_spec _ _ (addNew_spec _ _ (addNew_spec _ _ (by simp)).1).1).1).1
end

section
variable {E : Env G} {R : Type}
theorem callE_sound (hE : ∀ f T, E.fns f = some T → FnOK E.P f T) {s0 : St G} {nid f : Nat} {args : List (EV G)} {k : EV G → List (Nat × Ent G) → List Nat → Option R} {r : R} (hcall : callE E s0 nid f args k = some r) :
    ∃ v up rd, k v up rd = some r ∧ (∃ T, E.fns f = some T) ∧ CallOK E.P E.nt f args (rd ++ up.map (·.1)) s0.look v up := by
  unfold callE at hcall
  split at hcall
  · cases hcall
  rename_i T hT
  split at hcall
  · cases hcall
  rename_i as fr hsn
  simp only at hcall
  split at hcall
  · cases hcall
  rename_i es hes
  generalize hls : reach s0 as = ls at *
  have hnd : ls.Nodup := by rw [← hls]; exact reach_nodup _ _
  cases hg : (fr.any (fun i => ls.contains i) || (entIds s0 ls).any (fun i => !ls.contains i)) with
  | true => rw [hg] at hcall; cases hcall
  | false =>
  rw [hg] at hcall
  simp only [cond_false] at hcall
  rw [Bool.or_eq_false_iff] at hg
  have hdj : ∀ i ∈ fr, i ∉ ls := fun i hi hl => by have := List.any_eq_false.mp hg.1 i hi; simp [hl] at this
  obtain ⟨res, es', news, hcon, hcall⟩ := (hE f T hT).sem R _ _ _ _ hcall
  cases hg2 : (!(Nat.beq es'.length ls.length) || !fresh s0 nid news) with
  | true => rw [hg2] at hcall; cases hcall
  | false =>
  rw [hg2] at hcall
  simp only [cond_false] at hcall
  rw [Bool.or_eq_false_iff] at hg2
  have hlen : es'.length = ls.length := Nat.eq_of_beq_eq_true (by simpa using hg2.1)
  have hfr : fresh s0 nid news = true := by simpa using hg2.2
  refine ⟨_, _, _, hcall, ⟨T, hT⟩, ?_⟩
  intro F L s a w h hlk vs hvs hids
  have hls' : ∀ i ∈ ls, s.look i = s0.look i := fun i hi => hlk i (by simp [hi])
  have hfr' : ∀ i ∈ fr, s.look i = s0.look i := fun i hi => hlk i (by simp [hi])
  have has' : ∀ i ∈ EV.idss args, s.look i = s0.look i := fun i hi => hlk i (by simp [hi])
  have hsn' : snapArgs E.P s T.inout 0 args = some (as, fr) := by rw [snapArgs_congr has']; exact hsn
  have hes' : looks s ls = some es := by rw [looks_congr hls']; exact hes
  have hei : entIds s ls = entIds s0 ls := entIds_congr hls'
  have hfre : fresh s nid news = true := by
    rw [fresh_congr (s := s0)]
    · exact hfr
    · intro j hj
      refine hlk _ (List.mem_append.mpr (.inr ?_))
      rw [List.map_append, List.map_append]
      refine List.mem_append.mpr (.inr (List.mem_append.mpr (.inl ?_)))
      exact number_keys _ _ _ (by simpa using hj)
  have hfz : frz s0 fr = frz s fr := (frz_congr fr hfr').symm
  have hcl : ∀ i ∈ ls, ∀ e, s.look i = some e → ∀ j ∈ e.ids, j ∈ ls := by
    intro i hi e he j hj
    have h1 := entIds_mem he hj hi
    rw [hei] at h1
    have := List.any_eq_false.mp hg.2 j h1
    simpa using this
  obtain ⟨hok, hrel⟩ := lent_rel h hnd hes' hdj hcl rfl
  have h1 := snapArgs_sem h (okOf F L (s.upd (frz s fr))) (keeps_less (frz_owned h.e fr)) hsn' hvs (fun i hi e xs n l p q o p1 p2 => frozen_ok h hi p q o p1 p2)
  have h2 : RepVs (okOf (lentF F L (s.upd (frz s fr)) w (es.map (Ent.rn fun i => indexOf i ls 0)) ls) (lentL L ls) (St.of (es.map (Ent.rn fun i => indexOf i ls 0)))) w (lentL L ls) (EV.rns (fun i => indexOf i ls 0) as) vs.toList :=
    (h1.mono (L' := L) (fun b o v p q => ⟨hok b o p, q⟩) (fun _ _ => rfl)).rn (lent_turn ls _)
  have hesl := (looks_spec hes').1
  refine (hcon (lentF F L (s.upd (frz s fr)) w (es.map (Ent.rn fun i => indexOf i ls 0)) ls) (lentL L ls) w vs rfl rfl rfl hrel h2 ?_).mono ?_
  · intro j hj
    obtain ⟨i, _, hi⟩ := EV.rns_ids hj
    have := (indexOf_some hi).2
    rcases Nat.lt_or_ge j ls.length with h3 | h3
    · rw [List.length_map]; omega
    · simp only [Nat.sub_zero] at this; rw [List.getElem?_eq_none h3] at this; cases this
  · rintro e w' ⟨v, Lc, rfl, q1, q2, q3, q4⟩
    obtain ⟨L', r1, r2, r3⟩ := back_rel h hnd hes' hdj rfl hlen hfre q1 q2 q3 q4 _ rfl
    rw [hfz]
    exact ⟨v, L', rfl, r1, r2, r3⟩
end
end Go.Abs
end
section
set_option linter.all false
set_option linter.unusedVariables false
set_option linter.unusedSimpArgs false
set_option linter.unnecessarySimpa false
/-
  ABS, part 21b: slices that are filled in order.
-/
namespace Go.Abs
open Go
variable {G : Gam}

section
variable {P : Program} {F : Frm} {nt : Nat} {L : LM} {s s0 : St G} {a : Act} {w : World}

theorem makeFill_ok {o : Oper} {t et b : Nat} {x y : Operand} {l c : Int} {e : Ty} {zc : List (EV G)} {nid : Nat} {s0 : St G} (hd : ∀ t, o.dst = some t → t < nt) (ho : o.op = .makeSlice t x y) (he : elemT P t = some et) (hb : bytesT P et = some b)
    (hs : sizeT P et = some (szT G e)) (hx : s0.ev x = .d (.int .i64) l) (hy : s0.ev y = .d (.int .i64) c) (hf : s0.look nid = none) (h0 : 0 ≤ l) (h1 : l ≤ c) (h2 : c * (b : Int) ≤ 70368744177664) (hc63 : c ≤ 9223372036854775807) (hz : zeroCells P et = some zc) (hzcl : zc.length = szT G e) (hz1 : 1 ≤ szT G e) :
    OpOK P nt o s0.ev [nid] s0.look (.ow nid) [(nid, .fill e [] zc zc l.toNat false)] := by
  intro F L s a w h hev hlk
  have hxs := h.int (by rw [hev x (by simp [ho, Op.operands]), hx] : s.ev x = .d (.int .i64) l)
  have hys := h.int (by rw [hev y (by simp [ho, Op.operands]), hy] : s.ev y = .d (.int .i64) c)
  have hfree : s.look nid = none := by rw [hlk nid (by simp)]; exact hf
  obtain ⟨zv, hzr, hrep⟩ := zeroCells_sem hz w
  have hi : ∃ i, P.info? et = some i ∧ i.bytes = b := by
    unfold bytesT at hb
    split at hb
    · rename_i i hi; exact ⟨i, hi, some_inj hb⟩
    · cases hb
  obtain ⟨i, hi, hib⟩ := hi
  have hlw : IntKind.i64.wrap l = l := by unfold IntKind.wrap; simp [IntKind.signed, IntKind.bits]; omega
  have hcw : IntKind.i64.wrap c = c := by unfold IntKind.wrap; simp [IntKind.signed, IntKind.bits]; omega
  have hzl : zv.cells.size = szT G e := by have := (hrep (okOf F L s) w L).length; simp at this; omega
  let cvs : Array Value := if c.toNat * szT G e = 0 then #[] else (Array.range (c.toNat * szT G e)).map (zv.cells[· % zv.cells.size]!)
  have hrun : (Instr.makeSlice t (.int .i64 l) (.int .i64 c)).run P w = .ok (.slice (some ⟨w.heap.size, 0, none⟩) l.toNat c.toNat) (w.alloc (.cells cvs et)) := by
    have hlt : ¬ (c * (b : Int) > 2 ^ 48) := by omega
    have hbc : (b : Int) * c = c * b := Int.mul_comm _ _
    simp only [Instr.makeSlice, Sem.run_bind, run_underlying (elemT_under he), Result.andThen_ok, asInt, asIntOf, Sem.run_pure, typeInfo, run_program, hi, hlw, hcw, hib]
    rw [if_neg (by rw [hbc]; simp; omega)]
    simp only [Sem.run_bind, run_askRoom, Result.andThen_ok]
    by_cases hn : c.toNat * szT G e = 0
    · simp [hn, newRow, cvs, sizeT_run hs]
      rw [show Array.map (fun x => (default : Value)) (Array.range 0) = #[] from Array.eq_empty_of_size_eq_zero (by simp)]
    · simp [hn, hzr, newRow, cvs, sizeT_run hs]
  have hzf : ∀ n, (List.replicate n zv.cells.toList).flatten.length = n * szT G e := by
    intro n; simp [hzl]
  have hcv : cvs.size = c.toNat * szT G e := by
    show (if c.toNat * szT G e = 0 then #[] else _ : Array Value).size = _
    split
    · rename_i h0; simp [h0]
    · simp
  have hcl : ∃ r, cvs.toList = (List.replicate l.toNat zv.cells.toList).flatten ++ r := by
    refine ⟨(List.replicate (c.toNat - l.toNat) zv.cells.toList).flatten, ?_⟩
    rw [← List.flatten_append, List.replicate_append_replicate, show l.toNat + (c.toNat - l.toNat) = c.toNat by omega]
    apply List.ext_getElem?
    intro q
    rcases Nat.lt_or_ge q (c.toNat * szT G e) with hq | hq
    · have hpos : 0 < szT G e := by
        rcases Nat.eq_zero_or_pos (szT G e) with h3 | h3
        · rw [h3] at hq; simp at hq
        · exact h3
      have hne : c.toNat * szT G e ≠ 0 := by omega
      have hq1 : q % szT G e < zv.cells.size := by rw [hzl]; exact Nat.mod_lt _ hpos
      have hq2 : q / szT G e < c.toNat := by apply Nat.div_lt_of_lt_mul; rw [Nat.mul_comm]; exact hq
      have e1 : cvs.toList[q]? = some (zv.cells[q % szT G e]'hq1) := by
        show (if c.toNat * szT G e = 0 then #[] else _ : Array Value).toList[q]? = _
        rw [if_neg hne]
        simp [hq, hzl]
        rw [getElem!_pos]
      rw [e1]
      have := concat_get (szT G e) (List.replicate c.toNat zv.cells.toList) (by intro l' hl'; rw [List.eq_of_mem_replicate hl']; simpa using hzl) (q / szT G e) (q % szT G e) (zv.cells[q % szT G e]'hq1)
        (by rw [List.getElem?_replicate, if_pos hq2]; simp)
      rw [Nat.mul_comm, Nat.div_add_mod] at this
      exact this.symm
    · rw [List.getElem?_eq_none (by simpa [hcv] using hq), List.getElem?_eq_none (by rw [hzf]; exact hq)]
  have hn := h.newBlock hfree (cvs := cvs) (el := et) (w' := w.alloc (.cells cvs et)) rfl rfl rfl rfl (e := .fill e [] zc zc l.toNat false) ⟨w.heap.size, 0, szT G e, c.toNat, l.toNat, fun _ _ => False, fun _ => none⟩ rfl
    (by intro j hj; simp [Ent.nms, zeroCells_ids hz] at hj)
    (fun ok' L' k hL hl => by
      have zcell : ∀ i, i < l.toNat → ∀ j u, zv.cells.toList[j]? = some u → (w.alloc (.cells cvs et)).cell? ⟨w.heap.size, 0 + (i * szT G e + j), none⟩ = some u := by
        intro i hi j u hj
        obtain ⟨r, hr⟩ := hcl
        have hg := concat_get (szT G e) (List.replicate l.toNat zv.cells.toList) (by intro l' hl'; rw [List.eq_of_mem_replicate hl']; simpa using hzl) i j u (by rw [List.getElem?_replicate, if_pos hi]; exact hj)
        have hlt : i * szT G e + j < (List.replicate l.toNat zv.cells.toList).flatten.length := by
          rcases Nat.lt_or_ge (i * szT G e + j) (List.replicate l.toNat zv.cells.toList).flatten.length with h3 | h3
          · exact h3
          · rw [List.getElem?_eq_none h3] at hg; cases hg
        have : cvs[i * szT G e + j]? = some u := by rw [← Array.getElem?_toList, hr, List.getElem?_append_left hlt]; exact hg
        simp only [World.cell?, push_new (w' := w.alloc (.cells cvs et)) rfl, Nat.zero_add, Option.isSome_none, Bool.false_eq_true, if_false]
        exact this
      exact ⟨_, cvs, et, hl, push_new rfl, rfl, hz1, rfl, by show l.toNat ≤ c.toNat; omega, by show 0 + c.toNat * szT G e ≤ cvs.size; omega, ⟨fun _ => [], fun i hi => absurd hi (Nat.not_lt_zero _)⟩,
        { le := Nat.zero_le _, tk := (fun h => by cases h), cl := hzcl, zl := hzcl, zi := zeroCells_ids hz, at' := fun h0 => ⟨zv.cells.toList, hrep _ _ _, zcell 0 h0⟩, zs := ⟨zv.cells.toList, hrep, fun i _ hi => zcell i hi⟩ }⟩)
  refine wp_value (u := .slice (some ⟨w.heap.size, 0, none⟩) l.toNat c.toNat) (w' := w.alloc (.cells cvs et)) ?_ ⟨_, hn.put o.dst hd _ _ ?_ ?_⟩
  · simp only [execOp, ho, hxs, hys]
    rw [Sem.run_bind, hrun]; rfl
  · simp only [RepV, if_true]
    exact ⟨_, c.toNat, rfl, by omega, Nat.le_refl _, .inr rfl⟩
  · intro j hj; simp [EV.ids] at hj; subst hj; rw [upd1_look]; simp

/-- The next place is begun. -/
theorem Rel.touchFill (h : Rel F nt L s a w) {id : Nat} {e : Ty} {xs : List (G.D e)} {cs zc : List (EV G)} {n : Nat} {t : Bool} (hi : s.look id = some (.fill e xs cs zc n t)) (hn : xs.length < n) :
    Rel F nt L (s.upd [(id, .fill e xs cs zc n true)]) a w := by
  have up : ∀ i e', lookT [(id, (Ent.fill e xs cs zc n true : Ent G))] i = some e' → i = id ∧ e' = .fill e xs cs zc n true := fun i e' hi => by
    rw [lookT_cons] at hi
    split at hi
    · rename_i hin; cases hi; exact ⟨hin.symm, rfl⟩
    · cases hi
  obtain ⟨l, cvs, el, h1, h2, h3, h4, h5, h6, h7, h8, h9⟩ := h.e.en id _ hi
  refine h.release _ L (fun _ _ => rfl) ?_ ?_
  · intro i e' hu l' hl oe
    obtain ⟨rfl, rfl⟩ := up i e' hu
    exact ⟨_, hi, trivial, fun b o hw => hw⟩
  · intro i e' hu
    obtain ⟨rfl, rfl⟩ := up i e' hu
    refine ⟨fun j hj => ?_, fun ok' k _ => ⟨l, cvs, el, h1, h2, h3, h4, h5, h6, h7, h8.mono k fun o v hc _ => hc, { (h9.mono k (fun _ => rfl) (fun _ _ => rfl)) with tk := fun _ => hn }⟩⟩
    have := h.e.ids i _ hi j hj
    rw [upd1_look]; split
    · rfl
    · exact this

theorem fill_ow (h : Rel F nt L s a w) {x : Operand} {id : Nat} {e : Ty} {xs : List (G.D e)} {cs zc : List (EV G)} {n : Nat} {t : Bool} (hx : s.ev x = .ow id) (hi : s.look id = some (.fill e xs cs zc n t)) {i : Nat} (hin : i < n) :
    ∃ l c, L id = some l ∧ l.len = n ∧ l.sz = szT G e ∧ a.eval x = .slice (some ⟨l.b, l.off, none⟩) n c := by
  obtain ⟨l, cvs, el, h1, h2, h3, h4, h5, h6, h7, h8, h9⟩ := h.e.en id _ hi
  have hxv := h.ev x
  rw [hx] at hxv
  simp only [RepV, h1] at hxv
  obtain ⟨A, c, hav, p1, p2, p3⟩ := hxv
  have : A = some ⟨l.b, l.off, none⟩ := by rcases p3 with p3 | p3; omega; exact p3
  exact ⟨l, c, h1, h5, h3, by rw [hav, this, h5]⟩

theorem indexFill_ok {o : Oper} {t et : Nat} {x ix : Operand} {k : IntKind} {i : Int} {e : Ty} {xs : List (G.D e)} {cs zc : List (EV G)} {n id : Nat} {tt : Bool} {s0 : St G} (hd : ∀ t, o.dst = some t → t < nt) (ho : o.op = .indexAddr t x ix) (he : elemT P t = some et)
    (hz : sizeT P et = some (szT G e)) (hrow : s0.look id = some (.fill e xs cs zc n tt)) (hix : s0.ev ix = .d (.int k) i) (h0 : 0 ≤ i) (h1 : i.toNat = xs.length) (h2 : xs.length < n)
    (hx : s0.ev x = .ow id) : OpOK P nt o s0.ev [id, id] s0.look (.ept id i.toNat 0) [(id, .fill e xs cs zc n true)] := by
  intro F L s a w h hev hlk
  have hixs : s.ev ix = .d (.int k) i := by rw [hev ix (by simp [ho, Op.operands]), hix]
  have hxe : s.ev x = .ow id := by rw [hev x (by simp [ho, Op.operands]), hx]
  have hb : s.look id = some (.fill e xs cs zc n tt) := by rw [hlk id (by simp), hrow]
  have hiv := h.int hixs
  obtain ⟨l, cc, hl, q1, q2, hav⟩ := fill_ow h hxe hb (i := i.toNat) (by omega)
  have hn := h.touchFill hb h2
  refine wp_value (u := .pointer (some ⟨l.b, l.off + i.toNat * szT G e, none⟩)) (w' := w) ?_ (hn.fin hd ?_ ?_)
  · simp only [execOp, ho, hav, hiv]
    rw [Sem.run_bind, indexAt_run (elemT_under he) hz h0 (by omega)]; rfl
  · simp only [RepV]
    exact ⟨l, hl, by omega, by rw [q2, Nat.add_zero]⟩
  · intro j hj
    simp [EV.ids] at hj
    subst hj
    rw [upd1_look]; simp

theorem loadFill_ok {o : Oper} {t n i j off m : Nat} {x : Operand} {e : Ty} {xs : List (G.D e)} {cs zc : List (EV G)} {tt : Bool} {v : EV G} {s0 : St G} (hd : ∀ t, o.dst = some t → t < nt) (ho : o.op = .load t x) (hn : sizeT P t = some n)
    (hx : s0.ev x = .ept i j off) (hi : s0.look i = some (.fill e xs cs zc m tt)) (hj : j = xs.length) (hp : part P t n off cs = some v) :
    OpOK P nt o s0.ev [i] s0.look v [] := by
  intro F L s a w h hev hlk
  subst hj
  have hxs : s.ev x = .ept i xs.length off := by rw [hev x (by simp [ho, Op.operands]), hx]
  have hb : s.look i = some (.fill e xs cs zc m tt) := by rw [hlk i (by simp), hi]
  have hxv := h.ev x
  rw [hxs] at hxv
  simp only [RepV] at hxv
  obtain ⟨l, hl, hjl, hav⟩ := hxv
  obtain ⟨l', cvs, el, h1, h2, h3, h4, h5, h6, h7, h8, h9⟩ := h.e.en i _ hb
  rw [hl] at h1; cases h1
  obtain ⟨us, g1, g2⟩ := h9.at' (by omega)
  obtain ⟨u, hu, hv⟩ := loadVar_part (P := P) (w := w) (b := l.b) (o := l.off + xs.length * l.sz) (L := L) hn hp g1 (fun q u hq => by
    have := g2 q u hq
    rwa [← Nat.add_assoc] at this)
  refine wp_value (u := u) (w' := w) (by simp [execOp, ho, hav, hu]) (h.fin hd hv ?_)
  intro q hq
  exact h.e.ids i _ hb q (part_ids hp q hq)

theorem splice_len {α : Type} {l m : List α} {off : Nat} (h : off + m.length ≤ l.length) : (splice l off m).length = l.length := by
  unfold splice; simp; omega

theorem storeFill_ok {o : Oper} {t n i j off m : Nat} {x y : Operand} {e : Ty} {xs : List (G.D e)} {cs zc : List (EV G)} {tt : Bool} {s0 : St G} (hd : ∀ t, o.dst = some t → t < nt) (ho : o.op = .store t x y) (hn : sizeT P t = some n)
    (hx : s0.ev x = .ept i j off) (hi : s0.look i = some (.fill e xs cs zc m tt)) (hj : j = xs.length) (h1 : (s0.ev y).cells.length = n) (h2 : off + n ≤ cs.length) (h3 : (s0.ev y).cells.all EV.cell = true) :
    OpOK P nt o s0.ev [i, i] s0.look .un [(i, .fill e xs (splice cs off (s0.ev y).cells) zc m tt)] := by
  intro F L s a w h hev hlk
  subst hj
  have hxs : s.ev x = .ept i xs.length off := by rw [hev x (by simp [ho, Op.operands]), hx]
  have hys : s.ev y = s0.ev y := hev y (by simp [ho, Op.operands])
  have hb : s.look i = some (.fill e xs cs zc m tt) := by rw [hlk i (by simp), hi]
  have hxv := h.ev x
  rw [hxs] at hxv
  simp only [RepV] at hxv
  obtain ⟨l, hl, hjl, hav⟩ := hxv
  obtain ⟨l', cvs, el, g1, g2, g3, g4, g5, g6, g7, g8, g9⟩ := h.e.en i _ hb
  rw [hl] at g1; cases g1
  have hyv := h.ev y
  rw [hys] at hyv
  have hyc := hyv.cells (sound_of_all (n := n) h3)
  have hus : (a.eval y).cells.size = n := by have := hyc.length; simp at this; omega
  obtain ⟨us, p1, p2⟩ := g9.at' (by omega)
  have hul := p1.length
  -- the cells of the place lie in the block
  have hcs : off + n ≤ l.sz := by have := g9.cl; omega
  have hlt : (xs.length + 1) * l.sz ≤ l.cap * l.sz := Nat.mul_le_mul_right _ (by omega)
  rw [Nat.add_mul] at hlt
  have hsz : l.off + xs.length * l.sz + off + n ≤ cvs.size := by omega
  have hcell : ∀ q, (w.setCells l.b (l.off + xs.length * l.sz + off) (a.eval y).cells.toList).cell? ⟨l.b, q, none⟩ = (splice cvs.toList (l.off + xs.length * l.sz + off) (a.eval y).cells.toList)[q]? := by
    intro q
    have hh := heap_setCells l.b (a.eval y).cells.toList (l.off + xs.length * l.sz + off) w cvs g2 (by simp [hus]; omega)
    simp only [World.cell?, hh]
    simp
  have hold : ∀ q, w.cell? ⟨l.b, q, none⟩ = cvs.toList[q]? := by intro q; simp only [World.cell?, g2]; simp
  have other : ∀ q, q < l.off + xs.length * l.sz + off ∨ l.off + xs.length * l.sz + off + n ≤ q → (w.setCells l.b (l.off + xs.length * l.sz + off) (a.eval y).cells.toList).cell? ⟨l.b, q, none⟩ = w.cell? ⟨l.b, q, none⟩ := by
    intro q hq
    rw [hcell, hold, splice_get (by simp [hus]; omega)]
    rcases hq with hq | hq
    · rw [if_pos hq]
    · rw [if_neg (by omega), if_neg (by simp [hus]; omega)]
  have hlen : (splice cs off (s0.ev y).cells).length = cs.length := splice_len (by omega)
  have hw := h.write hb hl trivial (e' := .fill e xs (splice cs off (s0.ev y).cells) zc m tt) trivial (fun _ _ => Iff.rfl) g2 (o := l.off + xs.length * l.sz + off) (vs := (a.eval y).cells.toList) (by simp [hus]; omega) (fun _ _ => rfl)
    (by
      intro j hj
      simp only [Ent.nms] at hj
      rcases splice_ids j hj with hj | hj
      · exact h.e.ids i _ hb j hj
      · rw [cells_ids'] at hj; exact h.evIds y j (by rw [hys]; exact hj))
    (fun ok' k => ⟨l, _, el, hl, heap_setCells l.b _ _ w cvs g2 (by simp [hus]; omega), g3, g4, g5, g6, by rw [List.size_toArray, splice_len (by simp [hus]; omega)]; simpa using g7, ?_, ?_⟩)
  · refine wp_skip' (w' := w.setCells l.b (l.off + xs.length * l.sz + off) (a.eval y).cells.toList) ?_ ⟨_, hw.put o.dst hd _ _ rfl (by simp [EV.ids])⟩
    simp only [execOp, ho, hav]
    rw [Sem.run_bind, storeAt_run hn hus g2 (by omega) (hyc.oneCell h3)]
    rfl
  · refine g8.mono k fun o' v hc ho' => ?_
    rw [other _ (.inl (by rw [g3]; omega))]; exact hc
  · refine { le := g9.le, tk := g9.tk, cl := by rw [hlen]; exact g9.cl, zl := g9.zl, zi := g9.zi, at' := fun _ => ?_, zs := ?_ }
    · refine ⟨splice us off (a.eval y).cells.toList, (splice_rep off p1 hyc).mono k (fun _ _ => rfl), fun q u hq => ?_⟩
      rw [splice_get (by simp [hus]; omega)] at hq
      rw [hcell, splice_get (by simp [hus]; omega)]
      simp only [Array.length_toList, hus] at hq ⊢
      split at hq
      · rw [if_pos (by omega), ← hold]; exact p2 q u hq
      · rename_i e1
        split at hq
        · rw [if_neg (by omega), if_pos (by omega), show l.off + (xs.length * l.sz + q) - (l.off + xs.length * l.sz + off) = q - off by omega]; exact hq
        · rw [if_neg (by omega), if_neg (by omega), ← hold]; exact p2 q u hq
    · obtain ⟨zs, z1, z2⟩ := g9.zs
      refine ⟨zs, z1, fun q hq hqm j u hj => ?_⟩
      have h8 : (xs.length + 1) * l.sz ≤ q * l.sz := Nat.mul_le_mul_right _ (by omega)
      rw [Nat.add_mul] at h8
      rw [other _ (.inr (by omega))]; exact z2 q hq hqm j u hj

/-- What stands in the next place, as data. -/
theorem fill_el (h : Rel F nt L s a w) {e : Ty} {cs : List (EV G)} {us : List Value} (p1 : RepVs (okOf F L s) w L cs us) {y : G.D e} {f : List Nat} (hy : asEl s e (.ag cs) = some (y, f)) :
    ∀ ok', Keeps (okOf F L (s.upd (frz s f))) ok' w w → RepD G ok' w e y us := by
  intro ok' k
  have := (asEl_sem h hy (u := .agg us.toArray) (by simp only [RepV]; exact ⟨us.toArray, rfl, by simpa using p1⟩) (okOf F L (s.upd (frz s f))) (keeps_less (frz_owned h.e f)) (frzOK h f)).2
  exact this.mono k

/-- The place is done. -/
theorem Rel.closeFill (h : Rel F nt L s a w) {id : Nat} {e : Ty} {xs : List (G.D e)} {cs zc : List (EV G)} {n : Nat} (hi : s.look id = some (.fill e xs cs zc n true)) {y : G.D e} {f : List Nat}
    (hy : asEl s e (.ag cs) = some (y, f)) (hf : f.contains id = false) : Rel F nt L (s.upd ((id, .fill e (xs ++ [y]) zc zc n false) :: frz s f)) a w := by
  have h1 := h.freeze f
  have hb1 : (s.upd (frz s f)).look id = some (.fill e xs cs zc n true) := by rw [St.look_upd, frz_none hf]; simpa using hi
  have up : ∀ i e', lookT [(id, (Ent.fill e (xs ++ [y]) zc zc n false : Ent G))] i = some e' → i = id ∧ e' = .fill e (xs ++ [y]) zc zc n false := fun i e' hi => by
    rw [lookT_cons] at hi
    split at hi
    · rename_i hin; cases hi; exact ⟨hin.symm, rfl⟩
    · cases hi
  obtain ⟨l, cvs, el, g1, g2, g3, g4, g5, g6, g7, g8, g9⟩ := h.e.en id _ hi
  have hkn := g9.tk rfl
  obtain ⟨us, p1, p2⟩ := g9.at' hkn
  have key := fill_el h p1 hy
  have h2 := h1.release [(id, .fill e (xs ++ [y]) zc zc n false)] L (fun _ _ => rfl) ?_ ?_
  · exact h2.ext (fun t => rfl) (fun i => by
      simp only [St.look_upd, lookT_cons]
      by_cases hi : id = i
      · simp [hi]
      · simp [hi, lookT])
  · intro i e' hu l' hl oe
    obtain ⟨rfl, rfl⟩ := up i e' hu
    exact ⟨_, hb1, trivial, fun b o hw => hw⟩
  · intro i e' hu
    obtain ⟨rfl, rfl⟩ := up i e' hu
    obtain ⟨l', _, _, q1, q2, q3, q4, q5, q6, q7, q8, q9⟩ := h1.e.en i _ hb1
    rw [g1] at q1; cases q1
    refine ⟨by simp [Ent.nms, g9.zi], fun ok' k _ => ⟨l, cvs, el, g1, g2, g3, g4, g5, g6, g7, ?_, ?_⟩⟩
    · obtain ⟨css, hcs⟩ := q8
      refine ⟨fun i => if i < xs.length then css i else us, fun i hi => ?_⟩
      simp only [List.length_append, List.length_cons, List.length_nil, Nat.zero_add] at hi
      by_cases hlt : i < xs.length
      · simp only [if_pos hlt]
        rw [List.getElem_append_left hlt]
        exact ⟨(hcs i hlt).1.mono k, (hcs i hlt).2⟩
      · have : i = xs.length := by omega
        subst this
        simp only [if_neg hlt]
        rw [List.getElem_append_right (Nat.le_refl _)]
        simp only [Nat.sub_self, List.getElem_cons_zero]
        exact ⟨key ok' k, fun j v hj => by rw [← g3]; exact p2 j v hj⟩
    · obtain ⟨zs, z1, z2⟩ := g9.zs
      exact { le := by simp; omega, tk := (fun h => by cases h), cl := g9.zl, zl := g9.zl, zi := g9.zi, at' := (fun hm => ⟨zs, z1 _ _ _, by
                simp only [List.length_append, List.length_cons, List.length_nil, Nat.zero_add] at hm ⊢
                exact z2 _ (Nat.le_refl _) hm⟩)
              zs := ⟨zs, z1, fun i p q => z2 i (by simp at p ⊢; omega) q⟩ }

/-- What is filled so far, and zeros. -/
theorem Rel.finFill (h : Rel F nt L s a w) {id : Nat} {e : Ty} {xs : List (G.D e)} {cs zc : List (EV G)} {n : Nat} {t : Bool} (hi : s.look id = some (.fill e xs cs zc n t)) {y z : G.D e} {f : List Nat}
    (hy : asEl s e (.ag cs) = some (y, f)) (hz : asEl s e (.ag zc) = some (z, [])) (hf : f.contains id = false) :
    Rel F nt L (s.upd ((id, .row e ((xs ++ y :: List.replicate (n - (xs.length + 1)) z).take n) 0) :: frz s f)) a w := by
  generalize hr : (xs ++ y :: List.replicate (n - (xs.length + 1)) z).take n = r
  have h1 := h.freeze f
  have hb1 : (s.upd (frz s f)).look id = some (.fill e xs cs zc n t) := by rw [St.look_upd, frz_none hf]; simpa using hi
  have up : ∀ i e', lookT [(id, (Ent.row e r 0 : Ent G))] i = some e' → i = id ∧ e' = .row e r 0 := fun i e' hi => by
    rw [lookT_cons] at hi
    split at hi
    · rename_i hin; cases hi; exact ⟨hin.symm, rfl⟩
    · cases hi
  obtain ⟨l, cvs, el, g1, g2, g3, g4, g5, g6, g7, g8, g9⟩ := h.e.en id _ hi
  have hle := g9.le
  have hrl : r.length = n := by rw [← hr]; simp; omega
  have h2 := h1.release [(id, .row e r 0)] L (fun _ _ => rfl) ?_ ?_
  · exact h2.ext (fun t => rfl) (fun i => by
      simp only [St.look_upd, lookT_cons]
      by_cases hi : id = i
      · simp [hi]
      · simp [hi, lookT])
  · intro i e' hu l' hl oe
    obtain ⟨rfl, rfl⟩ := up i e' hu
    exact ⟨_, hb1, trivial, fun b o hw => hw.1⟩
  · intro i e' hu
    obtain ⟨rfl, rfl⟩ := up i e' hu
    obtain ⟨l', _, _, q1, q2, q3, q4, q5, q6, q7, q8, q9⟩ := h1.e.en i _ hb1
    rw [g1] at q1; cases q1
    refine ⟨by simp [Ent.nms], fun ok' k _ => ?_⟩
    simp only [RepE, g1]
    refine ⟨Nat.zero_le _, g3, by omega, g6, ⟨cvs, el, g2, g7⟩, ?_⟩
    obtain ⟨css, hcs⟩ := q8
    obtain ⟨zs, z1, z2⟩ := g9.zs
    have zkey : RepD G ok' w e z zs := (fill_el (f := []) h (z1 _ _ _) hz) ok' (fun b o v p q => k b o v ⟨p.1, fun ho => p.2 (by
      have := frz_owned h.e f b o ho
      exact this)⟩ q)
    by_cases hkn : xs.length < n
    · obtain ⟨us, p1, p2⟩ := g9.at' hkn
      have key := fill_el h p1 hy
      refine ⟨fun i => if i < xs.length then css i else if i = xs.length then us else zs, fun i hi => ?_⟩
      have hg : r[i]? = (xs ++ y :: List.replicate (n - (xs.length + 1)) z)[i]? := by rw [← hr, List.getElem?_take, if_pos (by omega)]
      rcases Nat.lt_trichotomy i xs.length with hlt | heq | hgt
      · simp only [if_pos hlt]
        have : r[i] = xs[i] := by
          rw [List.getElem?_append_left hlt, List.getElem?_eq_getElem hi, List.getElem?_eq_getElem hlt] at hg
          exact Option.some.inj hg
        rw [this]
        exact ⟨(hcs i hlt).1.mono k, (hcs i hlt).2⟩
      · subst heq
        simp only [Nat.lt_irrefl, if_false, if_true]
        have : r[xs.length] = y := by
          rw [List.getElem?_append_right (Nat.le_refl _), List.getElem?_eq_getElem hi] at hg
          simpa using hg
        rw [this]
        exact ⟨key ok' k, fun j v hj => by rw [← g3]; exact p2 j v hj⟩
      · simp only [if_neg (show ¬ i < xs.length by omega), if_neg (show ¬ i = xs.length by omega)]
        have : r[i] = z := by
          rw [List.getElem?_append_right (by omega), List.getElem?_eq_getElem hi, show i - xs.length = (i - xs.length - 1) + 1 by omega, List.getElem?_cons_succ, List.getElem?_replicate] at hg
          split at hg
          · exact Option.some.inj hg
          · cases hg
        rw [this]
        exact ⟨zkey, fun j v hj => by rw [← g3]; exact z2 i (by omega) (by omega) j v hj⟩
    · refine ⟨css, fun i hi => ?_⟩
      have hlt : i < xs.length := by omega
      have hg : r[i]? = (xs ++ y :: List.replicate (n - (xs.length + 1)) z)[i]? := by rw [← hr, List.getElem?_take, if_pos (by omega)]
      have : r[i] = xs[i] := by
        rw [List.getElem?_append_left hlt, List.getElem?_eq_getElem hi, List.getElem?_eq_getElem hlt] at hg
        exact Option.some.inj hg
      rw [this]
      exact ⟨(hcs i hlt).1.mono k, (hcs i hlt).2⟩

theorem closes_rel : ∀ (l : List Nat) {s : St G}, Rel F nt L s a w → Rel F nt L (closes l s) a w := by
  intro l
  induction l with
  | nil => intro s h; exact h
  | cons i l ih =>
    intro s h
    simp only [closes]
    split
    · rename_i e xs cs zc n hi
      split
      · rename_i y f hy
        cases hf : f.contains i with
        | true => exact ih h
        | false => exact ih (h.closeFill hi hy hf)
      · exact ih h
    · exact ih h
theorem fins_rel : ∀ (l : List Nat) {s : St G}, Rel F nt L s a w → Rel F nt L (fins l s) a w := by
  intro l
  induction l with
  | nil => intro s h; exact h
  | cons i l ih =>
    intro s h
    simp only [fins]
    split
    · rename_i e xs cs zc n t hi
      split
      · rename_i y f z hy hz
        cases hf : f.contains i with
        | true => exact ih h
        | false => exact ih (h.finFill hi hy hz hf)
      · exact ih h
    · exact ih h
end
end Go.Abs
end
section
set_option linter.all false
set_option linter.unusedVariables false
set_option linter.unusedSimpArgs false
set_option linter.unnecessarySimpa false
/-
  ABS, part 21c: trees: what is taken out, what is put back.
-/
namespace Go.Abs
open Go
variable {G : Gam}

section
variable {P : Program} {F : Frm} {nt : Nat} {L : LM} {s s0 : St G} {a : Act} {w : World}

theorem get_lt' {α : Type} {l : List α} {i : Nat} {x : α} (h : l[i]? = some x) : i < l.length := by
  rcases Nat.lt_or_ge i l.length with h1 | h1
  · exact h1
  · rw [List.getElem?_eq_none h1] at h; cases h

/-- Entries share out anew what they own; inside it, memory may change. -/
theorem Rel.regroup (h : Rel F nt L s a w) {w' : World} {L' : LM} (up : List (Nat × Ent G)) (hf : Fits F w') (hs : w.heap.size ≤ w'.heap.size)
    (hc : ∀ b o v, w.cell? ⟨b, o, none⟩ = some v → ¬ owned s L b o → w'.cell? ⟨b, o, none⟩ = some v)
    (hb : ∀ x, (∀ j f m, lookT up j ≠ none → s.look j = some f → L j = some m → owner f → ¬ blks f m x) → w'.heap[x]? = w.heap[x]?)
    (hL : ∀ i, (s.look i).isSome → lookT up i = none → L' i = L i)
    (hS : ∀ i, (s.look i).isSome → LocS (L' i) (L i))
    (less : ∀ i e l, lookT up i = some e → L' i = some l → owner e → ∀ b o, owns l e b o → ∃ j f m, lookT up j ≠ none ∧ s.look j = some f ∧ L j = some m ∧ owns m f b o)
    (dis : ∀ i j e f l m, lookT up i = some e → lookT up j = some f → L' i = some l → L' j = some m → owner e → owner f → i ≠ j → ∀ x, blks e l x → ¬ blks f m x)
    (ch : ∀ i e, lookT up i = some e → (∀ ok', Keeps (okOf F L s) ok' w w' → RepE ok' w' L' i e) ∧ ∀ j ∈ e.nms, ((s.upd up).look j).isSome) :
    Rel F nt L' (s.upd up) a w' := by
  have ownd : ∀ b o, owned (s.upd up) L' b o → owned s L b o := by
    rintro b o ⟨i, e, l, hi, hl, hw⟩
    rw [St.look_upd] at hi
    cases hu : lookT up i with
    | none =>
      rw [hu] at hi
      have hi : s.look i = some e := by simpa using hi
      exact ⟨i, e, l, hi, by rw [← hL i (by simp [hi]) hu]; exact hl, hw⟩
    | some e' =>
      rw [hu] at hi
      have : e' = e := by simpa using hi
      subst this
      obtain ⟨j, f, m, _, p2, p3, p4⟩ := less i e' l hu hl (owns_blk hw).1 b o hw
      exact ⟨j, f, m, p2, p3, p4⟩
  have k : Keeps (okOf F L s) (okOf F L' (s.upd up)) w w' := fun b o v h1 h2 => ⟨⟨h1.1, fun h3 => h1.2 (ownd b o h3)⟩, hc b o v h2 h1.2⟩
  have from' : ∀ i e l, lookT up i = some e → L' i = some l → owner e → ∀ x, blks e l x → ∃ j f m, lookT up j ≠ none ∧ s.look j = some f ∧ L j = some m ∧ owner f ∧ blks f m x := by
    intro i e l hu hl oe x hx
    obtain ⟨o, ho⟩ := owns_any oe hx
    obtain ⟨j, f, m, p1, p2, p3, p4⟩ := less i e l hu hl oe x o ho
    exact ⟨j, f, m, p1, p2, p3, owns_blk p4⟩
  refine h.step' up hf k hL hS ?_ (fun i e hu => ⟨(ch i e hu).1 _ k, (ch i e hu).2⟩) hs ?_ ?_
  · intro i e l hu hi oe hl x hx
    refine hb x fun j f m hj hf hm of hy => ?_
    exact h.e.dis i j e f l m hi hf hl hm oe of (fun e0 => hj (e0 ▸ hu)) x hx hy
  · intro i j e f l m hi hj hl hm oe of ne x hx hy
    rw [St.look_upd] at hj
    cases hu : lookT up j with
    | some f' =>
      rw [hu] at hj
      have : f' = f := by simpa using hj
      subst this
      exact dis i j e f' l m hi hu hl hm oe of ne x hx hy
    | none =>
      rw [hu] at hj
      have hj : s.look j = some f := by simpa using hj
      rw [hL j (by simp [hj]) hu] at hm
      obtain ⟨j', f', m', p1, p2, p3, p4, p5⟩ := from' i e l hi hl oe x hx
      exact h.e.dis j' j f' f m' m p2 hj p3 hm p4 of (fun e0 => p1 (e0 ▸ hu)) x p5 hy
  · intro i e l hi hl oe x hx
    obtain ⟨j', f', m', p1, p2, p3, p4, p5⟩ := from' i e l hi hl oe x hx
    obtain ⟨q1, q2⟩ := h.e.own j' f' m' p2 p3 p4 x p5
    refine ⟨Nat.lt_of_lt_of_le q1 hs, ?_⟩
    rcases Nat.lt_or_ge x F.w0.heap.size with h0 | h0
    · refine .inr fun o => ⟨fun hw => ?_, ?_⟩
      · obtain ⟨j2, f2, m2, _, r2, r3, r4⟩ := less i e l hi hl oe x o hw
        obtain ⟨r5, r6⟩ := owns_blk r4
        rcases (h.e.own j2 f2 m2 r2 r3 r5 x r6).2 with h2 | h2
        · omega
        · exact (h2 o).1 r4
      · rcases q2 with h2 | h2
        · omega
        · exact (h2 o).2
    · exact .inl h0

/-- One cell of what is owned is written. -/
theorem Fits.one (h : Rel F nt L s a w) {i : Nat} {e : Ent G} {l : Loc} {b o : Nat} (hi : s.look i = some e) (hl : L i = some l) (hw : owns l e b o) (u : Value) : Fits F (w.setCells b o [u]) := by
  have fo := setCells_os b [u] o w
  obtain ⟨oe, hx⟩ := owns_blk hw
  have own := h.e.own i e l hi hl oe b hx
  refine ⟨by rw [fo.1]; exact h.e.fits.os, by rw [fo.2.1]; exact h.e.fits.tape, by rw [fo.2.2]; exact h.e.fits.output, by rw [setCells_size]; exact h.e.fits.size, fun b' hb hn => ?_, fun b' o' hb hn => ?_⟩
  · by_cases e0 : b' = b
    · subst e0
      rcases own.2 with h1 | h1
      · omega
      · exact absurd ((h1 o).1 hw) (hn o)
    · rw [heap_setCells_other b [u] o w b' e0]; exact h.e.fits.block b' hb hn
  · have : (w.setCells b o [u]).cell? ⟨b', o', none⟩ = w.cell? ⟨b', o', none⟩ := by
      by_cases e0 : b' = b
      · subst e0
        by_cases e1 : o' = o
        · subst e1
          rcases own.2 with h1 | h1
          · omega
          · exact absurd ((h1 o').1 hw) hn
        · simp only [World.setCells, World.setCell, World.cell?, Array.getElem?_modify]
          rw [if_pos (by simp)]
          cases hh : w.heap[b']? with
          | none => rfl
          | some ob =>
            cases ob with
            | cells cvs el fr => simp [Array.getElem?_setIfInBounds, Ne.symm e1]
            | _ => rfl
      · exact cell_block (heap_setCells_other b [u] o w b' e0) o'
    rw [this]; exact h.e.fits.cell b' o' hb hn

/-! ### taken out, put back -/
theorem isHole_some {i j : Nat} {S : Option Nat} {a b : Nat} : isHole (some (i, j, S)) a b = true ↔ i = a ∧ j = b := by
  simp only [isHole, beq_nat, Bool.and_eq_true, decide_eq_true_eq]
theorem isHole_ne {i j : Nat} {S : Option Nat} {a b : Nat} (h : (a, b) ≠ (i, j)) : isHole (some (i, j, S)) a b = false := by
  cases hb : isHole (some (i, j, S)) a b with
  | false => rfl
  | true => obtain ⟨h1, h2⟩ := isHole_some.mp hb; exact absurd (by rw [h1, h2]) h
theorem TreeAt.take {ok ok' : Cells} {L' : LM} {e : Ty} {xs : List (List (List (G.D e)))} {ys0 ys : List (List (G.D e))} {zs : List (G.D e)} {l : Loc} {lf : Nat → Nat → Option Loc} {i j nid : Nat} (k : Keeps ok ok' w w)
    (ht : TreeAt G ok w L e xs none ys0 l lf) (hx : xs[i]? = some ys) (hy : ys[j]? = some zs) (hn : L' nid = lf i j) :
    TreeAt G ok' w L' e xs (some (i, j, some nid)) ys { l with bs := fun x o => l.bs x o ∧ ∀ m, lf i j = some m → x ≠ m.b } (fun a b => if a = i ∧ b = j then none else lf a b) where
  inn := ht.inn
  blk a ys' b off len cap h1 h2 := by
    obtain ⟨q1, q2, q3, q4⟩ := ht.blk a ys' b off len cap h1 h2
    exact ⟨q1, q2, fun o => ⟨q3 o, fun m hm => ht.d2 a i j b off len cap m (get_lt' h1) h2 hm⟩, q4⟩
  leaf a ys' q zs' b off len cap h1 h2 h3 h4 := by
    have hne : ¬ (a = i ∧ q = j) := fun e0 => by
      have := isHole_some (S := some nid).mpr ⟨e0.1.symm, e0.2.symm⟩
      rw [h4] at this; cases this
    simp only [if_neg hne]
    exact ht.leaf a ys' q zs' b off len cap h1 h2 h3 rfl
  at' a q m hm := by
    by_cases e0 : a = i ∧ q = j
    · simp only [if_pos e0] at hm; cases hm
    · simp only [if_neg e0] at hm
      obtain ⟨_, p2, ys', zs', p3, p4, p5⟩ := ht.at' a q m hm
      refine ⟨isHole_ne fun e1 => e0 ?_, fun o ho => ⟨p2 o ho, fun m' hm' => ht.d3 a q i j m m' (fun e1 => e0 ?_) hm hm'⟩, ys', zs', p3, p4, p5.mono k rfl⟩
      · cases e1; exact ⟨rfl, rfl⟩
      · cases e1; exact ⟨rfl, rfl⟩
  hin a q S h := by
    simp only [Option.some.injEq, Prod.mk.injEq] at h
    obtain ⟨e1, e2, _⟩ := h
    subst e1; subst e2
    exact ⟨hx, get_lt' hy⟩
  hole a q kk b off len cap h h2 := by
    simp only [Option.some.injEq, Prod.mk.injEq] at h
    obtain ⟨e1, e2, e3⟩ := h
    subst e1; subst e2; subst e3
    rw [hn]
    exact (ht.leaf i ys j zs b off len cap hx hy h2 rfl).1
  d1 := ht.d1
  d2 a a' q b off len cap m h1 h2 hm := by
    by_cases e0 : a' = i ∧ q = j
    · simp only [if_pos e0] at hm; cases hm
    · simp only [if_neg e0] at hm; exact ht.d2 a a' q b off len cap m h1 h2 hm
  d3 a q a' q' m m' hne hm hm' := by
    by_cases e0 : a = i ∧ q = j
    · simp only [if_pos e0] at hm; cases hm
    · by_cases e1 : a' = i ∧ q' = j
      · simp only [if_pos e1] at hm'; cases hm'
      · simp only [if_neg e0] at hm; simp only [if_neg e1] at hm'; exact ht.d3 a q a' q' m m' hne hm hm'

theorem TreeAt.put {ok ok' : Cells} {w' : World} {L' : LM} {e : Ty} {xs : List (List (List (G.D e)))} {ys : List (List (G.D e))} {zs : List (G.D e)} {l : Loc} {lf : Nat → Nat → Option Loc} {i j : Nat} {S : Option Nat} {lo : Option Loc} {b off len cap : Nat} {u : Value} (k : Keeps ok ok' w w')
    (ht : TreeAt G ok w L e xs (some (i, j, S)) ys l lf) (hch : l.ch i = some (b, off, len, cap)) (hu : w'.cell? ⟨b, off + j, none⟩ = some u) (hh : hdr lo u) (hlo : lo = none → zs = []) (hlf : ∀ m, lo = some m → Leaf G ok' w' e zs m ∧ ∀ o, ¬ l.bs m.b o)
    (hc : ∀ o, o ≠ off + j → w'.cell? ⟨b, o, none⟩ = w.cell? ⟨b, o, none⟩) (hbk : ∃ cvs el, w'.heap[b]? = some (.cells cvs el (0, 0)) ∧ off + cap ≤ cvs.size) (ho : ∀ x o, x ≠ b → l.bs x o → w'.heap[x]? = w.heap[x]?) :
    TreeAt G ok' w' L' e (xs.set i (ys.set j zs)) none [] { l with bs := fun x o => l.bs x o ∨ ∃ m, lo = some m ∧ x = m.b ∧ m.off ≤ o } (fun a q => if a = i ∧ q = j then lo else lf a q) := by
  obtain ⟨hx, hj⟩ := ht.hin i j S rfl
  have hxi := get_lt' hx
  have get : ∀ a ys', (xs.set i (ys.set j zs))[a]? = some ys' → (a = i ∧ ys' = ys.set j zs) ∨ (a ≠ i ∧ xs[a]? = some ys') := by
    intro a ys' h
    rw [List.getElem?_set] at h
    by_cases e0 : i = a
    · rw [if_pos e0, if_pos hxi] at h; exact .inl ⟨e0.symm, (Option.some.inj h).symm⟩
    · rw [if_neg e0] at h; exact .inr ⟨fun e1 => e0 e1.symm, h⟩
  have gety : ∀ q zs', (ys.set j zs)[q]? = some zs' → (q = j ∧ zs' = zs) ∨ (q ≠ j ∧ ys[q]? = some zs') := by
    intro q zs' h
    rw [List.getElem?_set] at h
    by_cases e0 : j = q
    · rw [if_pos e0, if_pos hj] at h; exact .inl ⟨e0.symm, (Option.some.inj h).symm⟩
    · rw [if_neg e0] at h; exact .inr ⟨fun e1 => e0 e1.symm, h⟩
  have old : ∀ a q m, lf a q = some m → ¬ (a = i ∧ q = j) := fun a q m hm e0 => by
    have := (ht.at' a q m hm).1
    rw [isHole_some.mpr ⟨e0.1.symm, e0.2.symm⟩] at this; cases this
  obtain ⟨b1, b2, b3, b4⟩ := ht.blk i ys b off len cap hx hch
  refine { inn := ?_, blk := ?_, leaf := ?_, at' := ?_, hin := (fun _ _ _ h => by cases h), hole := (fun _ _ _ _ _ _ _ h => by cases h), d1 := ?_, d2 := ?_, d3 := ?_ }
  · intro a ys' h1 h2
    rcases get a ys' h1 with ⟨e0, _⟩ | ⟨_, h3⟩
    · subst e0; rw [hch] at h2; cases h2
    · exact ht.inn a ys' h3 h2
  · intro a ys' b' off' len' cap' h1 h2
    rcases get a ys' h1 with ⟨e0, e1⟩ | ⟨e0, h3⟩
    · subst e0; subst e1
      have h2 : l.ch a = _ := h2
      rw [hch] at h2; cases h2
      exact ⟨by simpa using b1, b2, fun o => .inl (b3 o), hbk⟩
    · obtain ⟨q1, q2, q3, q4⟩ := ht.blk a ys' b' off' len' cap' h3 h2
      exact ⟨q1, q2, fun o => .inl (q3 o), by rw [ho b' 0 (ht.d1 a i b' off' len' cap' b off len cap e0 (get_lt' h3) hxi h2 hch) (q3 0)]; exact q4⟩
  · intro a ys' q zs' b' off' len' cap' h1 h2 h3 _
    rcases get a ys' h1 with ⟨e0, e1⟩ | ⟨e0, h4⟩
    · subst e0; subst e1
      have h3 : l.ch a = _ := h3
      rw [hch] at h3; cases h3
      rcases gety q zs' h2 with ⟨e2, e3⟩ | ⟨e2, h5⟩
      · subst e2; subst e3
        simp only [and_self, if_true]
        exact ⟨⟨u, hu, hh⟩, hlo⟩
      · simp only [e2, and_false, if_false]
        obtain ⟨⟨v, r1, r2⟩, r3⟩ := ht.leaf a ys q zs' b off len cap hx h5 hch (isHole_ne fun e1 => e2 (by cases e1; rfl))
        exact ⟨⟨v, by rw [hc _ (by omega)]; exact r1, r2⟩, r3⟩
    · have hne : ¬ (a = i ∧ q = j) := fun e1 => e0 e1.1
      simp only [if_neg hne]
      obtain ⟨q1, q2, q3, q4⟩ := ht.blk a ys' b' off' len' cap' h4 h3
      have hb := ho b' 0 (ht.d1 a i b' off' len' cap' b off len cap e0 (get_lt' h4) hxi h3 hch) (q3 0)
      obtain ⟨⟨v, r1, r2⟩, r3⟩ := ht.leaf a ys' q zs' b' off' len' cap' h4 h2 h3 (isHole_ne fun e1 => e0 (by cases e1; rfl))
      exact ⟨⟨v, by rw [cell_blk hb]; exact r1, r2⟩, r3⟩
  · intro a q m hm
    by_cases e0 : a = i ∧ q = j
    · simp only [if_pos e0] at hm
      obtain ⟨r1, r2⟩ := hlf m hm
      refine ⟨rfl, fun o ho => .inr ⟨m, hm, rfl, ho⟩, ys.set j zs, zs, ?_, ?_, r1⟩
      · rw [e0.1, List.getElem?_set, if_pos rfl, if_pos hxi]
      · rw [e0.2, List.getElem?_set, if_pos rfl, if_pos hj]
    · simp only [if_neg e0] at hm
      obtain ⟨_, p2, ys', zs', p3, p4, p5⟩ := ht.at' a q m hm
      have hmb : m.b ≠ b := Ne.symm (ht.d2 i a q b off len cap m hxi hch hm)
      by_cases e1 : a = i
      · subst e1
        rw [hx] at p3; cases p3
        refine ⟨rfl, fun o ho => .inl (p2 o ho), ys.set j zs, zs', ?_, ?_, p5.mono k (ho _ _ hmb (p2 _ (Nat.le_refl _)))⟩
        · rw [List.getElem?_set, if_pos rfl, if_pos hxi]
        · rw [List.getElem?_set, if_neg (fun e2 => e0 ⟨rfl, e2.symm⟩)]; exact p4
      · refine ⟨rfl, fun o ho => .inl (p2 o ho), ys', zs', ?_, p4, p5.mono k (ho _ _ hmb (p2 _ (Nat.le_refl _)))⟩
        rw [List.getElem?_set, if_neg (fun e2 => e1 e2.symm)]; exact p3
  · intro a a' b1 o1 l1 c1 b2 o2 l2 c2 hne h1 h2 h3 h4
    exact ht.d1 a a' b1 o1 l1 c1 b2 o2 l2 c2 hne (by simpa using h1) (by simpa using h2) h3 h4
  · intro a a' q' b1 o1 l1 c1 m h1 h2 hm
    have h1 : a < xs.length := by simpa using h1
    by_cases e0 : a' = i ∧ q' = j
    · simp only [if_pos e0] at hm
      have hb1 := (ht.blk a _ b1 o1 l1 c1 (List.getElem?_eq_getElem h1) h2).2.2.1
      exact fun e1 => (hlf m hm).2 0 (e1 ▸ hb1 0)
    · simp only [if_neg e0] at hm
      exact ht.d2 a a' q' b1 o1 l1 c1 m h1 h2 hm
  · intro a q a' q' m m' hne hm hm'
    by_cases e0 : a = i ∧ q = j
    · by_cases e1 : a' = i ∧ q' = j
      · exact absurd (by rw [e0.1, e0.2, e1.1, e1.2]) hne
      · simp only [if_pos e0] at hm; simp only [if_neg e1] at hm'
        exact fun e2 => (hlf m hm).2 _ (e2 ▸ (ht.at' a' q' m' hm').2.1 _ (Nat.le_refl _))
    · by_cases e1 : a' = i ∧ q' = j
      · simp only [if_neg e0] at hm; simp only [if_pos e1] at hm'
        exact fun e2 => (hlf m' hm').2 _ (e2 ▸ (ht.at' a q m hm).2.1 _ (Nat.le_refl _))
      · simp only [if_neg e0] at hm; simp only [if_neg e1] at hm'
        exact ht.d3 a q a' q' m m' hne hm hm'

theorem lookT2 {α : Type} {i j : Nat} {x y : α} {q : Nat} {z : α} (h : lookT [(i, x), (j, y)] q = some z) : (q = i ∧ z = x) ∨ (q ≠ i ∧ q = j ∧ z = y) := by
  rw [lookT_cons, lookT_cons] at h
  by_cases h1 : i = q
  · rw [if_pos h1] at h; exact .inl ⟨h1.symm, (Option.some.inj h).symm⟩
  · rw [if_neg h1] at h
    by_cases h2 : j = q
    · rw [if_pos h2] at h; exact .inr ⟨fun e => h1 e.symm, h2.symm, (Option.some.inj h).symm⟩
    · rw [if_neg h2] at h; cases h
theorem lookT2_none {α : Type} {i j : Nat} {x y : α} {q : Nat} (h : lookT [(i, x), (j, y)] q = none) : q ≠ i ∧ q ≠ j := by
  rw [lookT_cons, lookT_cons] at h
  by_cases h1 : i = q
  · rw [if_pos h1] at h; cases h
  · rw [if_neg h1] at h
    by_cases h2 : j = q
    · rw [if_pos h2] at h; cases h
    · exact ⟨fun e => h1 e.symm, fun e => h2 e.symm⟩
theorem lookT2_fst {α : Type} {i j : Nat} {x y : α} : lookT [(i, x), (j, y)] i ≠ none := by rw [lookT_cons, if_pos rfl]; exact fun h => by cases h
theorem lookT2_snd {α : Type} {i j : Nat} {x y : α} : lookT [(i, x), (j, y)] j ≠ none := by
  rw [lookT_cons, lookT_cons]
  by_cases h : i = j
  · rw [if_pos h]; exact fun h => by cases h
  · rw [if_neg h, if_pos rfl]; exact fun h => by cases h
theorem upd2_isSome {s : St G} {i j : Nat} {x y : Ent G} {q : Nat} (h : q = i ∨ q = j ∨ (s.look q).isSome) : ((s.upd [(i, x), (j, y)]).look q).isSome := by
  rw [St.look_upd]
  cases hu : lookT [(i, x), (j, y)] q with
  | some z => rfl
  | none =>
    obtain ⟨h1, h2⟩ := lookT2_none hu
    rcases h with h | h | h
    · exact absurd h h1
    · exact absurd h h2
    · simpa using h

/-- A leaf slice is taken out of a tree. -/
theorem Rel.take (h : Rel F nt L s a w) {id nid i j : Nat} {ow : Bool} {e : Ty} {xs : List (List (List (G.D e)))} {ys0 ys : List (List (G.D e))} {zs : List (G.D e)} {l : Loc} {b off len cap : Nat} (hi : s.look id = some (.tree ow e xs none ys0)) (hf : s.look nid = none) (hl : L id = some l)
    (hx : xs[i]? = some ys) (hy : ys[j]? = some zs) (hch : l.ch i = some (b, off, len, cap)) :
    ∃ L' u, Rel F nt L' (s.upd [(nid, .row e zs 0), (id, .tree ow e xs (some (i, j, some nid)) ys)]) a w ∧ w.cell? ⟨b, off + j, none⟩ = some u ∧ ∀ ok, RepV ok w L' (.ow nid : EV G) u := by
  have hre := h.e.en id _ hi
  simp only [RepE, hl] at hre
  obtain ⟨hout, lf, ht⟩ := hre
  have hne : nid ≠ id := fun e0 => by rw [e0, hi] at hf; cases hf
  have nn : ∀ q, (s.look q).isSome → q ≠ nid := fun q hq e0 => by rw [e0, hf] at hq; cases hq
  let l' : Loc := { l with bs := fun x o => l.bs x o ∧ ∀ m, lf i j = some m → x ≠ m.b }
  let L' : LM := fun q => if q = nid then lf i j else if q = id then some l' else L q
  have hLn : L' nid = lf i j := if_pos rfl
  have hLi : L' id = some l' := by simp only [L', if_neg (Ne.symm hne), if_true]
  have hLo : ∀ q, q ≠ nid → q ≠ id → L' q = L q := fun q h1 h2 => by simp only [L', if_neg h1, if_neg h2]
  obtain ⟨⟨u, hu, hh⟩, hz⟩ := ht.leaf i ys j zs b off len cap hx hy hch rfl
  refine ⟨L', u, ?_, hu, fun ok => ?_⟩
  · refine h.regroup _ h.e.fits (Nat.le_refl _) (fun _ _ _ hc _ => hc) (fun _ _ => rfl) (fun q hq hn => hLo q (lookT2_none hn).1 (lookT2_none hn).2) (fun q hq => ?_) ?_ ?_ ?_
    · by_cases e0 : q = id
      · subst e0; rw [hLi, hl]; rfl
      · exact .of (hLo q (nn q hq) e0)
    · intro q e' m hq hm oe b' o hw
      refine ⟨id, _, l, lookT2_snd, hi, hl, ?_⟩
      rcases lookT2 hq with ⟨e0, e1⟩ | ⟨_, e0, e1⟩
      · subst e0; subst e1
        rw [hLn] at hm
        exact .inr (hw.1 ▸ (ht.at' i j m hm).2.1 o (by have := hw.2; omega))
      · subst e0; subst e1
        rw [hLi] at hm; cases hm
        exact hw.imp id fun hw => hw.1
    · intro q q' e' f' m m' hq hq' hm hm' oe of ne x hx' hy'
      have key : ∀ m, lf i j = some m → (ow = true ∧ m.b = l.b ∨ ∃ o, l'.bs m.b o) → False := by
        intro m hm hb
        rcases hb with ⟨h1, h2⟩ | ⟨o, h2⟩
        · exact (hout h1).nb _ (h2 ▸ (ht.at' i j m hm).2.1 _ (Nat.le_refl _))
        · exact h2.2 m hm rfl
      rcases lookT2 hq with ⟨e0, e1⟩ | ⟨_, e0, e1⟩
      · subst e0; subst e1
        rcases lookT2 hq' with ⟨e2, e3⟩ | ⟨_, e2, e3⟩
        · exact ne e2.symm
        · subst e2; subst e3
          rw [hLn] at hm; rw [hLi] at hm'; cases hm'
          have hx' : x = m.b := hx'
          subst hx'
          exact key m hm hy'
      · subst e0; subst e1
        rcases lookT2 hq' with ⟨e2, e3⟩ | ⟨_, e2, e3⟩
        · subst e2; subst e3
          rw [hLn] at hm'; rw [hLi] at hm; cases hm
          have hy' : x = m'.b := hy'
          subst hy'
          exact key m' hm' hx'
        · exact ne e2.symm
    · intro q e' hq
      rcases lookT2 hq with ⟨e0, e1⟩ | ⟨_, e0, e1⟩
      · subst e0; subst e1
        refine ⟨fun ok' k => ?_, fun j hj => by simp [Ent.nms] at hj⟩
        simp only [RepE]
        refine ⟨Nat.zero_le _, ?_⟩
        rw [hLn]
        cases hm : lf i j with
        | none => exact hz hm
        | some m =>
          obtain ⟨_, _, ys', zs', p3, p4, p5⟩ := ht.at' i j m hm
          rw [hx] at p3; cases p3
          rw [hy] at p4; cases p4
          exact ⟨p5.node.sz, p5.node.len, p5.node.cap, p5.node.blk, (p5.mono k rfl).row⟩
      · subst e0; subst e1
        refine ⟨fun ok' k => ?_, fun q hq => ?_⟩
        · simp only [RepE]
          rw [hLi]
          exact ⟨fun ho => { node := { sz := (hout ho).node.sz, len := (hout ho).node.len, cap := (hout ho).node.cap, blk := (hout ho).node.blk }, nb := fun o hb => (hout ho).nb o hb.1, hd := (hout ho).hd }, _, ht.take k hx hy hLn⟩
        · simp [Ent.nms] at hq
          exact upd2_isSome (.inl hq)
  · simp only [RepV, hLn]
    cases hm : lf i j with
    | none => rw [hm] at hh; exact hh
    | some m =>
      rw [hm] at hh
      exact ⟨some ⟨m.b, m.off, none⟩, m.cap, hh, (ht.at' i j m hm).2.2.choose_spec.choose_spec.2.2.node.cap, Nat.le_refl _, .inr rfl⟩

/-- At most one cell is another. -/
structure One (F : Frm) (w w' : World) (b o : Nat) : Prop where
  cells : ∀ b' o', ¬ (b' = b ∧ o' = o) → w'.cell? ⟨b', o', none⟩ = w.cell? ⟨b', o', none⟩
  heap : ∀ x, x ≠ b → w'.heap[x]? = w.heap[x]?
  blk : ∀ cvs el, w.heap[b]? = some (.cells cvs el (0, 0)) → ∃ cvs', w'.heap[b]? = some (.cells cvs' el (0, 0)) ∧ cvs'.size = cvs.size
  size : w.heap.size ≤ w'.heap.size
  fits : Fits F w'
theorem One.rfl' (h : Rel F nt L s a w) (b o : Nat) : One F w w b o := ⟨fun _ _ _ => rfl, fun _ _ => rfl, fun cvs el h => ⟨cvs, h, rfl⟩, Nat.le_refl _, h.e.fits⟩
theorem One.set (h : Rel F nt L s a w) {i : Nat} {e : Ent G} {l : Loc} {b o : Nat} (hi : s.look i = some e) (hl : L i = some l) (hw : owns l e b o) (u : Value) : One F w (w.setCells b o [u]) b o where
  cells b' o' hn := by
    by_cases e0 : b' = b
    · subst e0
      have e1 : o' ≠ o := fun e1 => hn ⟨rfl, e1⟩
      simp only [World.setCells, World.setCell, World.cell?, Array.getElem?_modify]
      rw [if_pos (by simp)]
      cases hh : w.heap[b']? with
      | none => rfl
      | some ob =>
        cases ob with
        | cells cvs el fr => simp [Array.getElem?_setIfInBounds, Ne.symm e1]
        | _ => rfl
    · exact cell_block (heap_setCells_other b [u] o w b' e0) o'
  heap x hx := heap_setCells_other b [u] o w x hx
  blk cvs el h := ⟨cvs.setIfInBounds o u, by simp [World.setCells, World.setCell, Array.getElem?_modify, h], by simp⟩
  size := by rw [setCells_size]; exact Nat.le_refl _
  fits := Fits.one h hi hl hw u

/-- A slice is put into a tree, where one was taken out. -/
theorem Rel.putT (h : Rel F nt L s a w) {id k i j : Nat} {S : Option Nat} {ow : Bool} {e e' : Ty} {xs : List (List (List (G.D e)))} {ys : List (List (G.D e))} {zs : List (G.D e)} {zs0 : List (G.D e')} {l : Loc} {b off len cap : Nat}
    (hi : s.look id = some (.tree ow e xs (some (i, j, S)) ys)) (hk : s.look k = some (.row e' zs0 0)) (hl : L id = some l) (hch : l.ch i = some (b, off, len, cap)) {w' : World} (hw : One F w w' b (off + j))
    {lo : Option Loc} {u : Value} (hu : w'.cell? ⟨b, off + j, none⟩ = some u) (hh : hdr lo u) (hlo : lo = none → zs = []) (hlf : ∀ m', lo = some m' → Leaf G (okOf F L s) w e zs m' ∧ ∃ m, L k = some m ∧ m'.b = m.b ∧ m.off ≤ m'.off) :
    ∃ L', Rel F nt L' (s.upd [(id, .tree ow e (xs.set i (ys.set j zs)) none []), (k, .tomb)]) a w' := by
  have hre := h.e.en id _ hi
  simp only [RepE, hl] at hre
  obtain ⟨hout, lf, ht⟩ := hre
  have hne : k ≠ id := fun e0 => by rw [e0, hi] at hk; cases hk
  obtain ⟨hx, hj⟩ := ht.hin i j S rfl
  obtain ⟨b1, b2, b3, cvs, el, b4, b5⟩ := ht.blk i ys b off len cap hx hch
  let l' : Loc := { l with bs := fun x o => l.bs x o ∨ ∃ m, lo = some m ∧ x = m.b ∧ m.off ≤ o }
  let L' : LM := fun q => if q = id then some l' else L q
  have hLi : L' id = some l' := if_pos rfl
  have hLo : ∀ q, q ≠ id → L' q = L q := fun q h2 => if_neg h2
  have apart : ∀ m', lo = some m' → (∀ o, ¬ l.bs m'.b o) ∧ (ow = true → m'.b ≠ l.b) := by
    intro m' hm
    obtain ⟨_, m, p1, p2, _⟩ := hlf m' hm
    have := h.e.dis k id _ _ m l hk hi p1 hl trivial trivial hne m.b rfl
    rw [← p2] at this
    exact ⟨fun o ho => this (.inr ⟨o, ho⟩), fun h1 h2 => this (.inl ⟨h1, h2⟩)⟩
  refine ⟨L', h.regroup _ hw.fits hw.size (fun b' o v hc hn => ?_) (fun x hx' => ?_) (fun q _ hn => hLo q (lookT2_none hn).1) (fun q _ => ?_) ?_ ?_ ?_⟩
  · rw [hw.cells b' o fun e0 => hn ⟨id, _, l, hi, hl, .inr (e0.1 ▸ b3 o)⟩]; exact hc
  · exact hw.heap x fun e0 => hx' id _ l lookT2_fst hi hl trivial (.inr ⟨0, e0 ▸ b3 0⟩)
  · by_cases e0 : q = id
    · subst e0; rw [hLi, hl]; rfl
    · exact .of (hLo q e0)
  · intro q f m hq hm oe b' o hwn
    rcases lookT2 hq with ⟨e0, e1⟩ | ⟨_, e0, e1⟩
    · subst e0; subst e1
      rw [hLi] at hm; cases hm
      rcases hwn with hwn | hwn | ⟨m', h1, h2, h3⟩
      · exact ⟨q, _, l, lookT2_fst, hi, hl, .inl hwn⟩
      · exact ⟨q, _, l, lookT2_fst, hi, hl, .inr hwn⟩
      · obtain ⟨_, m, p1, p2, p3⟩ := hlf m' h1
        exact ⟨k, _, m, lookT2_snd, hk, p1, by rw [h2, p2], by omega⟩
    · subst e1; exact oe.elim
  · intro q q' f f' m m' hq hq' hm hm' oe of ne
    rcases lookT2 hq with ⟨e0, e1⟩ | ⟨_, e0, e1⟩
    · rcases lookT2 hq' with ⟨e2, e3⟩ | ⟨_, e2, e3⟩
      · exact absurd (e0.trans e2.symm) ne
      · subst e3; exact of.elim
    · subst e1; exact oe.elim
  · intro q f hq
    rcases lookT2 hq with ⟨e0, e1⟩ | ⟨_, e0, e1⟩
    · subst e0; subst e1
      refine ⟨fun ok' kk => ?_, fun q hq => by simp [Ent.nms] at hq⟩
      simp only [RepE]
      rw [hLi]
      refine ⟨fun ho => ?_, _, ht.put kk hch hu hh hlo (fun m' hm => ?_) (fun o ho => hw.cells _ _ fun e0 => ho e0.2) ?_ (fun x o h1 _ => hw.heap x h1)⟩
      · have hb0 : l.b ≠ b := fun e0 => (hout ho).nb 0 (e0 ▸ b3 0)
        have hm0 := (hout ho).mono (hw.heap l.b hb0)
        exact { node := { sz := by simpa using hm0.node.sz, len := by simpa using hm0.node.len, cap := hm0.node.cap, blk := hm0.node.blk }
                nb := fun o hb => by
                  rcases hb with hb | ⟨m', h1, h2, _⟩
                  · exact hm0.nb o hb
                  · exact (apart m' h1).2 ho h2.symm
                hd := fun q hq => hm0.hd q (by simpa using hq) }
      · exact ⟨(hlf m' hm).1.mono kk (hw.heap _ fun e0 => (apart m' hm).1 0 (e0 ▸ b3 0)), (apart m' hm).1⟩
      · obtain ⟨cvs', q1, q2⟩ := hw.blk cvs el b4
        exact ⟨cvs', el, q1, by omega⟩
    · subst e1; exact ⟨fun _ _ => trivial, fun q hq => by simp [Ent.nms] at hq⟩

theorem row_leaf (h : Rel F nt L s a w) {k : Nat} {e : Ty} {zs : List (G.D e)} {lock : Nat} (hk : s.look k = some (.row e zs lock)) : (L k = none → zs = []) ∧ ∀ m, L k = some m → Leaf G (okOf F L s) w e zs m := by
  have hre := h.e.en k _ hk
  simp only [RepE] at hre
  cases hl : L k with
  | none => rw [hl] at hre; exact ⟨fun _ => hre.2, fun m hm => by cases hm⟩
  | some m =>
    rw [hl] at hre
    refine ⟨(fun h => by cases h), fun m' hm => ?_⟩
    cases hm
    exact ⟨⟨hre.2.1, hre.2.2.1, hre.2.2.2.1, hre.2.2.2.2.1⟩, hre.2.2.2.2.2⟩

/-- What was taken out is put back as it is. -/
theorem Rel.rest (h : Rel F nt L s a w) {id k i j : Nat} {ow : Bool} {e : Ty} {xs : List (List (List (G.D e)))} {ys : List (List (G.D e))} {zs : List (G.D e)}
    (hi : s.look id = some (.tree ow e xs (some (i, j, some k)) ys)) (hk : s.look k = some (.row e zs 0)) : ∃ L', Rel F nt L' (s.upd [(id, .tree ow e (xs.set i (ys.set j zs)) none []), (k, .tomb)]) a w := by
  have hre := h.e.en id _ hi
  simp only [RepE] at hre
  cases hl : L id with
  | none => rw [hl] at hre; cases hre.2
  | some l =>
    rw [hl] at hre
    obtain ⟨_, lf, ht⟩ := hre
    obtain ⟨hx, hj⟩ := ht.hin i j _ rfl
    cases hch : l.ch i with
    | none => rw [ht.inn i ys hx hch] at hj; simp at hj
    | some q =>
      obtain ⟨b, off, len, cap⟩ := q
      obtain ⟨u, hu, hh⟩ := ht.hole i j k b off len cap rfl hch
      have hr := row_leaf h hk
      exact h.putT hi hk hl hch (.rfl' h b (off + j)) hu hh hr.1 fun m hm => ⟨hr.2 m hm, m, hm, rfl, Nat.le_refl _⟩
theorem restOne_rel (h : Rel F nt L s a w) (id : Nat) : ∃ L', Rel F nt L' (restOne s id) a w := by
  unfold restOne
  split
  · rename_i ow e xs i j k ys hi
    split
    · rename_i e' zs hk
      split
      · rename_i zs' hz
        obtain ⟨e0, e1⟩ := castD_eq hz
        cases e0
        have e1 : zs = zs' := e1
        subst e1
        cases Nat.beq k id with
        | true => exact ⟨L, h⟩
        | false => exact h.rest hi hk
      · exact ⟨L, h⟩
    · exact ⟨L, h⟩
  · exact ⟨L, h⟩
theorem restL_rel : ∀ (l : List Nat) {s : St G} {L : LM}, Rel F nt L s a w → ∃ L', Rel F nt L' (restL s l) a w := by
  intro l
  induction l with
  | nil => intro s L h; exact ⟨L, h⟩
  | cons i l ih =>
    intro s L h
    obtain ⟨L1, h1⟩ := restOne_rel h i
    exact ih h1
theorem restAll_rel (h : Rel F nt L s a w) : ∃ L', Rel F nt L' (restAll s) a w := restL_rel _ h

/-! ### the operations -/
theorem oneCell_spec {t : TypeId} (h : oneCell P t = true) : sizeT P t = some 1 ∧ aggT P t = some false := by
  unfold oneCell at h
  split at h
  · rename_i h1 h2; exact ⟨h1, h2⟩
  · cases h
theorem loadCell_run {t b o : Nat} {u : Value} (hag : aggT P t = some false) (hc : w.cell? ⟨b, o, none⟩ = some u) : (Instr.loadAt t (.pointer (some ⟨b, o, none⟩))).run P w = .ok u w := by
  simp [Instr.loadAt, Instr.sureAddr, loadVar, aggT_run hag, hc]
theorem sppLoad_ok {o : Oper} {t id i : Nat} {x : Operand} {s0 : St G} (hd : ∀ t, o.dst = some t → t < nt) (ho : o.op = .load t x) (h1 : oneCell P t = true) (hx : s0.ev x = .spp id i) : OpOK P nt o s0.ev [] s0.look (.inn id i) [] := by
  intro F L s a w h hev hlk
  have hxs : s.ev x = .spp id i := by rw [hev x (by simp [ho, Op.operands]), hx]
  have hxv := h.ev x
  have hxi := h.evIds x
  rw [hxs] at hxv hxi
  simp only [RepV] at hxv
  obtain ⟨l, b, off, u, hl, hav, hok, hc, hh⟩ := hxv
  have hu := loadCell_run (P := P) (oneCell_spec h1).2 hc
  exact wp_value (u := u) (w' := w) (by simp [execOp, ho, hav, hu]) (h.fin hd (by simp only [RepV]; exact ⟨l, hl, hh⟩) (fun j hj => hxi j (by simpa [EV.ids] using hj)))
theorem spnIndex_ok {o : Oper} {t et id n : Nat} {x ix : Operand} {k : IntKind} {i : Int} {s0 : St G} (hd : ∀ t, o.dst = some t → t < nt) (ho : o.op = .indexAddr t x ix) (he : elemT P t = some et) (h1 : oneCell P et = true)
    (hx : s0.ev x = .spn id n) (hix : s0.ev ix = .d (.int k) i) (h0 : 0 ≤ i) (hn : i < (n : Int)) : OpOK P nt o s0.ev [] s0.look (.spp id i.toNat) [] := by
  intro F L s a w h hev hlk
  have hxs : s.ev x = .spn id n := by rw [hev x (by simp [ho, Op.operands]), hx]
  have hixs : s.ev ix = .d (.int k) i := by rw [hev ix (by simp [ho, Op.operands]), hix]
  have hiv := h.int hixs
  have hxv := h.ev x
  have hxi := h.evIds x
  rw [hxs] at hxv hxi
  simp only [RepV] at hxv
  cases hl : L id with
  | none => rw [hl] at hxv; omega
  | some l =>
    rw [hl] at hxv
    obtain ⟨A, c, hav, hnc, hcell⟩ := hxv
    rcases hcell with hcell | ⟨b, off, hA, hcell⟩
    · omega
    subst hA
    obtain ⟨r1, u, r2, r3⟩ := hcell i.toNat (by omega)
    refine wp_value (u := .pointer (some ⟨b, off + i.toNat * 1, none⟩)) (w' := w) ?_ (h.fin hd ?_ (fun j hj => hxi j (by simpa [EV.ids] using hj)))
    · simp only [execOp, ho, hav, hiv]
      rw [Sem.run_bind, indexAt_run (elemT_under he) (oneCell_spec h1).1 h0 (by omega)]; rfl
    · simp only [RepV]
      exact ⟨l, b, off + i.toNat, u, hl, by rw [Nat.mul_one], r1, r2, r3⟩
theorem innIndex_ok {o : Oper} {t et id c : Nat} {x ix : Operand} {k : IntKind} {i : Int} {s0 : St G} {ow : Bool} {e : Ty} {xs : List (List (List (G.D e)))} {ys0 ys : List (List (G.D e))} {h0' : Option (Nat × Nat × Option Nat)} (hd : ∀ t, o.dst = some t → t < nt) (ho : o.op = .indexAddr t x ix) (he : elemT P t = some et) (h1 : oneCell P et = true)
    (hx : s0.ev x = .inn id c) (hi : s0.look id = some (.tree ow e xs h0' ys0)) (hy : xs[c]? = some ys) (hix : s0.ev ix = .d (.int k) i) (h0 : 0 ≤ i) (hn : i < (ys.length : Int)) : OpOK P nt o s0.ev [id] s0.look (.lfp id c i.toNat) [] := by
  intro F L s a w h hev hlk
  have hxs : s.ev x = .inn id c := by rw [hev x (by simp [ho, Op.operands]), hx]
  have hixs : s.ev ix = .d (.int k) i := by rw [hev ix (by simp [ho, Op.operands]), hix]
  have hb : s.look id = some (.tree ow e xs h0' ys0) := by rw [hlk id (by simp), hi]
  have hiv := h.int hixs
  have hxv := h.ev x
  have hxi := h.evIds x
  rw [hxs] at hxv hxi
  simp only [RepV] at hxv
  obtain ⟨l, hl, hh⟩ := hxv
  have hre := h.e.en id _ hb
  simp only [RepE, hl] at hre
  obtain ⟨_, lf, ht⟩ := hre
  cases hch : l.ch c with
  | none => rw [ht.inn c ys hy hch] at hn; simp at hn; omega
  | some q =>
    obtain ⟨b, off, len, cap⟩ := q
    rw [hch] at hh
    simp only [hdr4] at hh
    obtain ⟨b1, b2, _⟩ := ht.blk c ys b off len cap hy hch
    refine wp_value (u := .pointer (some ⟨b, off + i.toNat * 1, none⟩)) (w' := w) ?_ (h.fin hd ?_ (fun j hj => hxi j (by simpa [EV.ids] using hj)))
    · simp only [execOp, ho, hh, hiv]
      rw [Sem.run_bind, indexAt_run (elemT_under he) (oneCell_spec h1).1 h0 (by omega)]; rfl
    · simp only [RepV]
      exact ⟨l, b, off, len, cap, hl, hch, by omega, by rw [Nat.mul_one]⟩
theorem take_ok {o : Oper} {t id i j nid : Nat} {x : Operand} {s0 : St G} {ow : Bool} {e : Ty} {xs : List (List (List (G.D e)))} {ys0 ys : List (List (G.D e))} {zs : List (G.D e)} (hd : ∀ t, o.dst = some t → t < nt) (ho : o.op = .load t x) (h1 : oneCell P t = true)
    (hx : s0.ev x = .lfp id i j) (hi : s0.look id = some (.tree ow e xs none ys0)) (hf : s0.look nid = none) (hy : xs[i]? = some ys) (hz : ys[j]? = some zs) :
    OpOK P nt o s0.ev [id, nid] s0.look (.ow nid) [(nid, .row e zs 0), (id, .tree ow e xs (some (i, j, some nid)) ys)] := by
  intro F L s a w h hev hlk
  have hxs : s.ev x = .lfp id i j := by rw [hev x (by simp [ho, Op.operands]), hx]
  have hb : s.look id = some (.tree ow e xs none ys0) := by rw [hlk id (by simp), hi]
  have hfree : s.look nid = none := by rw [hlk nid (by simp)]; exact hf
  have hxv := h.ev x
  rw [hxs] at hxv
  simp only [RepV] at hxv
  obtain ⟨l, b, off, len, cap, hl, hch, hj, hav⟩ := hxv
  obtain ⟨L', u, hr, hc, hv⟩ := h.take hb hfree hl hy hz hch
  have hu := loadCell_run (P := P) (oneCell_spec h1).2 hc
  refine wp_value (u := u) (w' := w) (by simp [execOp, ho, hav, hu]) (hr.fin hd (hv _) ?_)
  intro q hq
  simp [EV.ids] at hq
  exact upd2_isSome (.inl hq)
theorem leafOf_sem (h : Rel F nt L s a w) {e : Ty} {x : Operand} {r : Nat} {zs : List (G.D e)} (hx : leafOf s e (s.ev x) = some (r, zs)) :
    ∃ (e' : Ty) (zs0 : List (G.D e')) (lo : Option Loc), s.look r = some (.row e' zs0 0) ∧ hdr lo (a.eval x) ∧ (lo = none → zs = []) ∧ ∀ m', lo = some m' → Leaf G (okOf F L s) w e zs m' ∧ ∃ m, L r = some m ∧ m'.b = m.b ∧ m.off ≤ m'.off := by
  have hv := h.ev x
  unfold leafOf at hx
  split at hx
  · rename_i r' hxs
    rw [hxs] at hv
    simp only [RepV] at hv
    split at hx
    · rename_i e' zs0 hk
      split at hx
      · rename_i y hy
        cases hx
        obtain ⟨e0, e1⟩ := castD_eq hy
        cases e0
        have e1 : zs0 = zs := e1
        subst e1
        have hr := row_leaf h hk
        cases hl : L r with
        | none =>
          rw [hl] at hv
          exact ⟨_, _, none, hk, hv, fun _ => hr.1 hl, fun m hm => by cases hm⟩
        | some m =>
          rw [hl] at hv
          obtain ⟨A, c, hav, p1, p2, p3⟩ := hv
          have hlf := hr.2 m hl
          rcases Nat.eq_zero_or_pos c with h0 | h0
          · subst h0
            have hz : zs0.length = 0 := by have := hlf.node.len; omega
            have h00 : m.len = 0 := by omega
            refine ⟨_, _, none, hk, ⟨A, by rw [hav, h00]⟩, fun _ => List.length_eq_zero_iff.mp hz, fun m hm => by cases hm⟩
          · have hA : A = some ⟨m.b, m.off, none⟩ := by rcases p3 with p3 | p3; omega; exact p3
            refine ⟨_, _, some { m with cap := c }, hk, by simp only [hdr]; rw [hav, hA], (fun h => by cases h), fun m' hm => ?_⟩
            cases hm
            obtain ⟨cvs, el, g1, g2⟩ := hlf.node.blk
            have hle : c * m.sz ≤ m.cap * m.sz := Nat.mul_le_mul_right _ p2
            exact ⟨⟨⟨hlf.node.sz, hlf.node.len, p1, cvs, el, g1, by show m.off + c * m.sz ≤ cvs.size; omega⟩, hlf.row⟩, m, rfl, rfl, Nat.le_refl _⟩
      · cases hx
    · cases hx
  · rename_i r' lo n hxs
    rw [hxs] at hv
    simp only [RepV] at hv
    split at hx
    · rename_i e' zs0 hk
      split at hx
      · rename_i y hy
        cases hx
        obtain ⟨e0, e1⟩ := castD_eq hy
        cases e0
        have e1 : (zs0.drop lo).take n = zs := e1
        subst e1
        have hr := row_leaf h hk
        cases hl : L r with
        | none =>
          rw [hl] at hv
          obtain ⟨A, q1, q2, q3⟩ := hv
          subst q3
          exact ⟨_, _, none, hk, ⟨A, q1⟩, fun _ => by simp, fun m hm => by cases hm⟩
        | some m =>
          rw [hl] at hv
          obtain ⟨A, c, hav, p1, p2, p4, p3⟩ := hv
          have hlf := hr.2 m hl
          have hzl := hlf.node.len
          rcases Nat.eq_zero_or_pos c with h0 | h0
          · subst h0
            have h00 : n = 0 := by omega
            subst h00
            exact ⟨_, _, none, hk, ⟨A, hav⟩, fun _ => by simp, fun m hm => by cases hm⟩
          · have hA : A = some ⟨m.b, m.off + lo * m.sz, none⟩ := by rcases p3 with p3 | p3; omega; exact p3
            refine ⟨_, _, some { m with off := m.off + lo * m.sz, cap := c, len := n }, hk, by simp only [hdr]; rw [hav, hA], (fun h => by cases h), fun m' hm => ?_⟩
            cases hm
            obtain ⟨cvs, el, g1, g2⟩ := hlf.node.blk
            have hle : (lo + c) * m.sz ≤ m.cap * m.sz := Nat.mul_le_mul_right _ p4
            rw [Nat.add_mul] at hle
            have hsz := hlf.node.sz
            refine ⟨⟨⟨hsz, by simp; omega, p1, cvs, el, g1, by show m.off + lo * m.sz + c * m.sz ≤ cvs.size; omega⟩, ?_⟩, m, rfl, rfl, Nat.le_add_right _ _⟩
            have := hlf.row.sub lo n
            rw [← hsz] at this
            exact this
      · cases hx
    · cases hx
  · cases hx
theorem put_ok {o : Oper} {t id i j r : Nat} {S : Option Nat} {x y : Operand} {s0 : St G} {ow : Bool} {e : Ty} {xs : List (List (List (G.D e)))} {ys : List (List (G.D e))} {zs : List (G.D e)} (hd : ∀ t, o.dst = some t → t < nt) (ho : o.op = .store t x y) (h1 : oneCell P t = true)
    (hx : s0.ev x = .lfp id i j) (hi : s0.look id = some (.tree ow e xs (some (i, j, S)) ys)) (hy : leafOf s0 e (s0.ev y) = some (r, zs)) :
    OpOK P nt o s0.ev [id, r] s0.look .un [(id, .tree ow e (xs.set i (ys.set j zs)) none []), (r, .tomb)] := by
  intro F L s a w h hev hlk
  have hxs : s.ev x = .lfp id i j := by rw [hev x (by simp [ho, Op.operands]), hx]
  have hys : s.ev y = s0.ev y := hev y (by simp [ho, Op.operands])
  have hb : s.look id = some (.tree ow e xs (some (i, j, S)) ys) := by rw [hlk id (by simp), hi]
  have hy' : leafOf s e (s.ev y) = some (r, zs) := by
    rw [hys]
    have hr : s.look r = s0.look r := hlk r (by simp)
    unfold leafOf at hy ⊢
    split at hy
    · rename_i r' hr'
      have : r' = r := by
        split at hy
        · split at hy
          · cases hy; rfl
          · cases hy
        · cases hy
      subst this
      rw [hr]; exact hy
    · rename_i r' lo n hr'
      have : r' = r := by
        split at hy
        · split at hy
          · cases hy; rfl
          · cases hy
        · cases hy
      subst this
      rw [hr]; exact hy
    · cases hy
  have hxv := h.ev x
  rw [hxs] at hxv
  simp only [RepV] at hxv
  obtain ⟨l, b, off, len, cap, hl, hch, hj, hav⟩ := hxv
  obtain ⟨e', zs0, lo, hk, hh, hlo, hlf⟩ := leafOf_sem h hy'
  have hre := h.e.en id _ hb
  simp only [RepE, hl] at hre
  obtain ⟨_, lf, ht⟩ := hre
  obtain ⟨hx', hj'⟩ := ht.hin i j S rfl
  obtain ⟨b1, b2, b3, cvs, el, b4, b5⟩ := ht.blk i ys b off len cap hx' hch
  have hcell : ∃ A n c, a.eval y = .slice A n c := by
    cases lo with
    | none => obtain ⟨A, q⟩ := hh; exact ⟨A, 0, 0, q⟩
    | some m => exact ⟨_, _, _, hh⟩
  obtain ⟨A, n, c, hay⟩ := hcell
  have hcs : (a.eval y).cells = #[a.eval y] := by rw [hay]; rfl
  have hone := One.set h hb hl (.inr (b3 (off + j))) (a.eval y)
  have hu : (w.setCells b (off + j) [a.eval y]).cell? ⟨b, off + j, none⟩ = some (a.eval y) := by
    have := cell_setCells (w := w) (vs := [a.eval y]) (o := off + j) b4 (by simp; omega) (off + j)
    rw [this, if_pos ⟨Nat.le_refl _, by simp⟩]; simp
  obtain ⟨L', hr⟩ := h.putT hb hk hl hch hone hu hh hlo hlf
  refine wp_skip' (w' := w.setCells b (off + j) [a.eval y]) ?_ ⟨L', hr.put o.dst hd _ _ rfl (by simp [EV.ids])⟩
  simp only [execOp, ho, hav]
  rw [Sem.run_bind, storeAt_run (oneCell_spec h1).1 (by rw [hcs]; rfl) b4 (by omega) (by rw [hcs, hay]; intro v hv; simp at hv; subst hv; rfl), hcs]
  rfl
end
end Go.Abs
end
