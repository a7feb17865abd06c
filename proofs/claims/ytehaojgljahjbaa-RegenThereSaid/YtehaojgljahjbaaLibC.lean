/- An evaluator of the model over pure data, and that its answers are those of the code; part 3. No conditions. -/
import Derived.Below
import Derived.Test.YtehaojgljahjbaaLibB
section
set_option linter.all false
set_option linter.unusedVariables false
set_option linter.unusedSimpArgs false
set_option linter.unnecessarySimpa false
/-
  ABS, part 21d: trees are built.
-/
namespace Go.Abs
open Go
variable {G : Gam}

section
variable {P : Program} {F : Frm} {nt : Nat} {L : LM} {s s0 : St G} {a : Act} {w : World}

theorem makeNils_ok {o : Oper} {t et b z : Nat} {x y : Operand} {l c : Int} {nid : Nat} {s0 : St G} (hd : ∀ t, o.dst = some t → t < nt) (ho : o.op = .makeSlice t x y) (he : elemT P t = some et) (hb : bytesT P et = some b)
    (hs : sizeT P et = some z) (hz1 : z = 1) (hx : s0.ev x = .d (.int .i64) l) (hy : s0.ev y = .d (.int .i64) c) (hf : s0.look nid = none) (h0 : 0 ≤ l) (h1 : l ≤ c) (h2 : c * (b : Int) ≤ 70368744177664) (hc63 : c ≤ 9223372036854775807) (hz : zeroCells P et = some ([.nl] : List (EV G))) :
    OpOK P nt o s0.ev [nid] s0.look (.ow nid) [(nid, .nils l.toNat)] := by
  intro F L s a w h hev hlk
  have hxs := h.int (by rw [hev x (by simp [ho, Op.operands]), hx] : s.ev x = .d (.int .i64) l)
  have hys := h.int (by rw [hev y (by simp [ho, Op.operands]), hy] : s.ev y = .d (.int .i64) c)
  have hfree : s.look nid = none := by rw [hlk nid (by simp)]; exact hf
  obtain ⟨zv, hzr, hrep⟩ := zeroCells_sem hz w
  have hi : ∃ i, P.info? et = some i ∧ i.bytes = b := by
    unfold bytesT at hb
    split at hb
    · rename_i i hi; exact ⟨i, hi, some_inj hb⟩
    · cases hb
  obtain ⟨i, hi, hib⟩ := hi
  have hlw : IntKind.i64.wrap l = l := by unfold IntKind.wrap; simp [IntKind.signed, IntKind.bits]; omega
  have hcw : IntKind.i64.wrap c = c := by unfold IntKind.wrap; simp [IntKind.signed, IntKind.bits]; omega
  have hzl : zv.cells.size = z := by have := (hrep (okOf F L s) w L).length; simp at this; omega
  have hznl : zv.cells.toList = [.slice none 0 0] := by
    have := hrep (okOf F L s) w L
    cases hzt : zv.cells.toList with
    | nil => rw [hzt] at this; simp [RepVs] at this
    | cons v vs =>
      rw [hzt] at this
      simp only [RepVs] at this
      cases vs with
      | nil => simp only [RepV] at this; rw [this.1]
      | cons _ _ => simp [RepVs] at this
  let cvs : Array Value := if c.toNat * z = 0 then #[] else (Array.range (c.toNat * z)).map (zv.cells[· % zv.cells.size]!)
  have hrun : (Instr.makeSlice t (.int .i64 l) (.int .i64 c)).run P w = .ok (.slice (some ⟨w.heap.size, 0, none⟩) l.toNat c.toNat) (w.alloc (.cells cvs et)) := by
    have hlt : ¬ (c * (b : Int) > 2 ^ 48) := by omega
    have hbc : (b : Int) * c = c * b := Int.mul_comm _ _
    simp only [Instr.makeSlice, Sem.run_bind, run_underlying (elemT_under he), Result.andThen_ok, asInt, asIntOf, Sem.run_pure, typeInfo, run_program, hi, hlw, hcw, hib]
    rw [if_neg (by rw [hbc]; simp; omega)]
    simp only [Sem.run_bind, run_askRoom, Result.andThen_ok]
    by_cases hn : c.toNat * z = 0
    · simp [hn, newRow, cvs, sizeT_run hs]
      rw [show Array.map (fun x => (default : Value)) (Array.range 0) = #[] from Array.eq_empty_of_size_eq_zero (by simp)]
    · simp [hn, hzr, newRow, cvs, sizeT_run hs]
  have hzf : ∀ n, (List.replicate n zv.cells.toList).flatten.length = n * z := by
    intro n; simp [hzl]
  have hcv : cvs.size = c.toNat * z := by
    show (if c.toNat * z = 0 then #[] else _ : Array Value).size = _
    split
    · rename_i h0; simp [h0]
    · simp
  have hcl : ∃ r, cvs.toList = (List.replicate l.toNat zv.cells.toList).flatten ++ r := by
    refine ⟨(List.replicate (c.toNat - l.toNat) zv.cells.toList).flatten, ?_⟩
    rw [← List.flatten_append, List.replicate_append_replicate, show l.toNat + (c.toNat - l.toNat) = c.toNat by omega]
    apply List.ext_getElem?
    intro q
    rcases Nat.lt_or_ge q (c.toNat * z) with hq | hq
    · have hpos : 0 < z := by
        rcases Nat.eq_zero_or_pos (z) with h3 | h3
        · rw [h3] at hq; simp at hq
        · exact h3
      have hne : c.toNat * z ≠ 0 := by omega
      have hq1 : q % z < zv.cells.size := by rw [hzl]; exact Nat.mod_lt _ hpos
      have hq2 : q / z < c.toNat := by apply Nat.div_lt_of_lt_mul; rw [Nat.mul_comm]; exact hq
      have e1 : cvs.toList[q]? = some (zv.cells[q % z]'hq1) := by
        show (if c.toNat * z = 0 then #[] else _ : Array Value).toList[q]? = _
        rw [if_neg hne]
        simp [hq, hzl]
        rw [getElem!_pos]
      rw [e1]
      have := concat_get (z) (List.replicate c.toNat zv.cells.toList) (by intro l' hl'; rw [List.eq_of_mem_replicate hl']; simpa using hzl) (q / z) (q % z) (zv.cells[q % z]'hq1)
        (by rw [List.getElem?_replicate, if_pos hq2]; simp)
      rw [Nat.mul_comm, Nat.div_add_mod] at this
      exact this.symm
    · rw [List.getElem?_eq_none (by simpa [hcv] using hq), List.getElem?_eq_none (by rw [hzf]; exact hq)]
  have hn := h.newBlock hfree (cvs := cvs) (el := et) (w' := w.alloc (.cells cvs et)) rfl rfl rfl rfl (e := .nils l.toNat) ⟨w.heap.size, 0, 1, c.toNat, l.toNat, fun _ _ => False, fun _ => none⟩ rfl
    (by intro j hj; simp [Ent.nms] at hj)
    (fun ok' L' k hL hl => by
      refine ⟨_, hl, ⟨rfl, rfl, by show l.toNat ≤ c.toNat; omega, cvs, et, push_new rfl, by show 0 + c.toNat * 1 ≤ cvs.size; rw [hcv, hz1]; omega⟩, fun i hi => ?_⟩
      obtain ⟨r, hr⟩ := hcl
      have hg := concat_get z (List.replicate l.toNat zv.cells.toList) (by intro l' hl'; rw [List.eq_of_mem_replicate hl']; simpa using hzl) i 0 (.slice none 0 0) (by rw [List.getElem?_replicate, if_pos hi, hznl]; rfl)
      have hlt : i * z + 0 < (List.replicate l.toNat zv.cells.toList).flatten.length := by
        rcases Nat.lt_or_ge (i * z + 0) (List.replicate l.toNat zv.cells.toList).flatten.length with h3 | h3
        · exact h3
        · rw [List.getElem?_eq_none h3] at hg; cases hg
      have : cvs[i * z + 0]? = some (.slice none 0 0) := by rw [← Array.getElem?_toList, hr, List.getElem?_append_left hlt]; exact hg
      rw [hz1] at this
      simp only [World.cell?, push_new (w' := w.alloc (.cells cvs et)) rfl, Nat.zero_add, Option.isSome_none, Bool.false_eq_true, if_false]
      simpa using this)
  refine wp_value (u := .slice (some ⟨w.heap.size, 0, none⟩) l.toNat c.toNat) (w' := w.alloc (.cells cvs et)) ?_ ⟨_, hn.put o.dst hd _ _ ?_ ?_⟩
  · simp only [execOp, ho, hxs, hys]
    rw [Sem.run_bind, hrun]; rfl
  · simp only [RepV, if_true]
    exact ⟨_, c.toNat, rfl, by omega, Nat.le_refl _, .inr rfl⟩
  · intro j hj; simp [EV.ids] at hj; subst hj; rw [upd1_look]; simp

theorem one_ok {o : Oper} {t et id n : Nat} {x : Operand} {parts : Array (Nat × Operand)} {nid : Nat} {s0 : St G} (hd : ∀ t, o.dst = some t → t < nt) (ho : o.op = .buildSlice t 1 parts) (hp : parts.toList = [(0, x)]) (he : elemT P t = some et)
    (h1 : oneCell P et = true) (hz : ∃ zc : List (EV G), zeroCells P et = some zc) (hx : s0.ev x = .ow id) (hi : s0.look id = some (.nils n)) (hf : s0.look nid = none) :
    OpOK P nt o s0.ev [nid, id] s0.look (.ow nid) [(nid, .one (some id))] := by
  intro F L s a w h hev hlk
  have hfree : s.look nid = none := by rw [hlk nid (by simp)]; exact hf
  have hxs : s.ev x = .ow id := by rw [hev x (by simp only [ho, Op.operands]; simp; exact ⟨0, by rw [← Array.mem_toList_iff, hp]; simp⟩), hx]
  have hb : s.look id = some (.nils n) := by rw [hlk id (by simp), hi]
  have hv := h.ev x
  rw [hxs] at hv
  have hs := (oneCell_spec h1).1
  have hcs : (a.eval x).cells = #[a.eval x] := by
    have := cell_oneCell (x := (.ow id : EV G)) rfl hv
    cases hax : a.eval x <;> first | rfl | (rw [hax] at this; simp [Value.oneCell'] at this)
  obtain ⟨zc, hz⟩ := hz
  obtain ⟨z, hzv, _⟩ := zeroCells_sem hz w
  have hpe : (parts.map fun (i, x) => (i, a.eval x)).toList = [(0, a.eval x)] := by rw [Array.toList_map, hp]; rfl
  obtain ⟨c', hc1, hc2⟩ := fill_row (sz := 1) [(0, a.eval x)] 0 ((Array.range (1 * 1)).map (z.cells[· % z.cells.size]!)) (by
    intro i p hp
    cases i with
    | zero => simp at hp; subst hp; exact ⟨rfl, by rw [hcs]; rfl⟩
    | succ i => simp at hp) (by simp)
  have hrun : (Instr.buildSlice t 1 (parts.map fun (i, x) => (i, a.eval x))).run P w = .ok (.slice (some ⟨w.heap.size, 0, none⟩) 1 1) (w.alloc (.cells c' et)) := by
    simp only [Instr.buildSlice, Sem.run_bind, run_underlying (elemT_under he), Result.andThen_ok, sizeT_run hs]
    rw [if_neg (by omega)]
    simp only [show ¬ (1 * 1 = 0) by omega, if_false, Sem.run_bind, hzv, Result.andThen_ok, hpe, pure_bind]
    rw [hc1]
    simp [newRow]
  have hc0 : c'.toList = [a.eval x] := by
    rw [hc2]
    simp [splice, hcs]
  have hsz : c'.size = 1 := by rw [← Array.length_toList, hc0]; rfl
  have hn := h.newBlock hfree (cvs := c') (el := et) (w' := w.alloc (.cells c' et)) rfl rfl rfl rfl (e := .one (some id)) ⟨w.heap.size, 0, 1, 1, 1, fun _ _ => False, fun _ => none⟩ rfl
    (by intro j hj; simp [Ent.nms] at hj; subst hj; simp [hb])
    (fun ok' L' k hL hl => by
      refine ⟨_, hl, ⟨rfl, rfl, Nat.le_refl _, c', et, push_new rfl, by show 0 + 1 * 1 ≤ c'.size; omega⟩, a.eval x, ?_, fun q hq => ?_⟩
      · simp only [World.cell?, push_new (w' := w.alloc (.cells c' et)) rfl, Option.isSome_none, Bool.false_eq_true, if_false]
        rw [← Array.getElem?_toList, hc0]; rfl
      · cases hq
        exact hv.mono k fun j hj => .of (hL j (by simp [EV.ids] at hj; subst hj; simp [hb])))
  refine wp_value (u := .slice (some ⟨w.heap.size, 0, none⟩) 1 1) (w' := w.alloc (.cells c' et)) ?_ ⟨_, hn.put o.dst hd _ _ ?_ ?_⟩
  · simp only [execOp, ho]
    rw [Sem.run_bind, hrun]; rfl
  · simp only [RepV, if_true]
    exact ⟨_, 1, rfl, Nat.le_refl _, Nat.le_refl _, .inr rfl⟩
  · intro j hj; simp [EV.ids] at hj; subst hj; rw [upd1_look]; simp

theorem TreeAt.nil {ok : Cells} {e : Ty} {l : Loc} : TreeAt G ok w L e [] none [] l (fun _ _ => none) where
  inn i ys h := by simp at h
  blk i ys b off len cap h := by simp at h
  leaf i ys j zs b off len cap h := by simp at h
  at' i j m h := by cases h
  hin i j S h := by cases h
  hole i j k b off len cap h := by cases h
  d1 i i' b off len cap b' off' len' cap' _ h := by simp at h
  d2 i i' j' b off len cap m h := by simp at h
  d3 i j i' j' m m' _ h := by cases h
theorem TreeAt.any {ok : Cells} {e : Ty} {xs : List (List (List (G.D e)))} {ys0 : List (List (G.D e))} {l : Loc} {lf : Nat → Nat → Option Loc} (ht : TreeAt G ok w L e xs none ys0 l lf) : TreeAt G ok w L e xs none [] l lf :=
  { ht with hin := fun _ _ _ h => by cases h }
theorem TreeAt.snoc {ok ok' : Cells} {w' : World} {L' : LM} {e : Ty} {xs : List (List (List (G.D e)))} {l l' : Loc} {lf : Nat → Nat → Option Loc} {n : Nat} {q : Option (Nat × Nat × Nat × Nat)} (k : Keeps ok ok' w w') (ht : TreeAt G ok w L e xs none [] l lf)
    (hch : ∀ i, i < xs.length → l'.ch i = l.ch i) (hq : l'.ch xs.length = q) (hbs : ∀ x o, l.bs x o → l'.bs x o) (hold : ∀ x o, l.bs x o → w'.heap[x]? = w.heap[x]?) (hq0 : q = none → n = 0)
    (hq1 : ∀ b off len cap, q = some (b, off, len, cap) → len = n ∧ len ≤ cap ∧ (∀ o, l'.bs b o ∧ ¬ l.bs b o) ∧ (∃ cvs el, w'.heap[b]? = some (.cells cvs el (0, 0)) ∧ off + cap ≤ cvs.size) ∧ ∀ j, j < n → w'.cell? ⟨b, off + j, none⟩ = some (.slice none 0 0)) :
    TreeAt G ok' w' L' e (xs ++ [List.replicate n []]) none [] l' lf := by
  have get : ∀ i ys, (xs ++ [List.replicate n ([] : List (G.D e))])[i]? = some ys → (i < xs.length ∧ xs[i]? = some ys) ∨ (i = xs.length ∧ ys = List.replicate n []) := by
    intro i ys h
    rcases Nat.lt_or_ge i xs.length with h1 | h1
    · rw [List.getElem?_append_left h1] at h; exact .inl ⟨h1, h⟩
    · have h2 := get_lt' h
      simp at h2
      have : i = xs.length := by omega
      subst this
      rw [List.getElem?_append_right (Nat.le_refl _)] at h
      simp at h
      exact .inr ⟨rfl, h.symm⟩
  have lfn : ∀ j, lf xs.length j = none := by
    intro j
    cases hl : lf xs.length j with
    | none => rfl
    | some m => obtain ⟨_, _, ys, zs, h3, _⟩ := ht.at' _ j m hl; have := get_lt' h3; omega
  refine { inn := ?_, blk := ?_, leaf := ?_, at' := ?_, hin := (fun _ _ _ h => by cases h), hole := (fun _ _ _ _ _ _ _ h => by cases h), d1 := ?_, d2 := ?_, d3 := ht.d3 }
  · intro i ys h1 h2
    rcases get i ys h1 with ⟨h3, h4⟩ | ⟨h3, h4⟩
    · rw [hch i h3] at h2; exact ht.inn i ys h4 h2
    · subst h3; rw [hq] at h2; rw [h4, hq0 h2]; rfl
  · intro i ys b off len cap h1 h2
    rcases get i ys h1 with ⟨h3, h4⟩ | ⟨h3, h4⟩
    · rw [hch i h3] at h2
      obtain ⟨q1, q2, q3, q4⟩ := ht.blk i ys b off len cap h4 h2
      exact ⟨q1, q2, fun o => hbs _ _ (q3 o), by rw [hold b 0 (q3 0)]; exact q4⟩
    · subst h3; rw [hq] at h2
      obtain ⟨q1, q2, q3, q4, _⟩ := hq1 b off len cap h2
      exact ⟨by rw [h4, q1]; simp, q2, fun o => (q3 o).1, q4⟩
  · intro i ys j zs b off len cap h1 h2 h3 _
    rcases get i ys h1 with ⟨h4, h5⟩ | ⟨h4, h5⟩
    · rw [hch i h4] at h3
      obtain ⟨_, _, q3, _⟩ := ht.blk i ys b off len cap h5 h3
      obtain ⟨⟨u, r1, r2⟩, r3⟩ := ht.leaf i ys j zs b off len cap h5 h2 h3 rfl
      exact ⟨⟨u, by rw [cell_blk (hold b 0 (q3 0))]; exact r1, r2⟩, r3⟩
    · subst h4; rw [hq] at h3
      obtain ⟨_, _, _, _, q5⟩ := hq1 b off len cap h3
      rw [h5, List.getElem?_replicate] at h2
      split at h2
      · rename_i hj
        cases h2
        rw [lfn j]
        exact ⟨⟨_, q5 j hj, none, rfl⟩, fun _ => rfl⟩
      · cases h2
  · intro i j m hm
    obtain ⟨_, p2, ys, zs, p3, p4, p5⟩ := ht.at' i j m hm
    exact ⟨rfl, fun o ho => hbs _ _ (p2 o ho), ys, zs, by rw [List.getElem?_append_left (get_lt' p3)]; exact p3, p4, p5.mono k (hold _ _ (p2 _ (Nat.le_refl _)))⟩
  · intro i i' b off len cap b' off' len' cap' hne h1 h2 h3 h4
    simp only [List.length_append, List.length_cons, List.length_nil] at h1 h2
    have old : ∀ i b off len cap, i < xs.length → l.ch i = some (b, off, len, cap) → l.bs b 0 := fun i b off len cap h1 h3 => (ht.blk i _ b off len cap (List.getElem?_eq_getElem h1) h3).2.2.1 0
    rcases Nat.lt_or_ge i xs.length with h5 | h5
    · rw [hch i h5] at h3
      rcases Nat.lt_or_ge i' xs.length with h6 | h6
      · rw [hch i' h6] at h4; exact ht.d1 i i' b off len cap b' off' len' cap' hne h5 h6 h3 h4
      · have : i' = xs.length := by omega
        subst this
        rw [hq] at h4
        have := (hq1 b' off' len' cap' h4).2.2.1 0
        exact fun e0 => this.2 (e0 ▸ old i b off len cap h5 h3)
    · have : i = xs.length := by omega
      subst this
      rw [hq] at h3
      have h6 : i' < xs.length := by omega
      rw [hch i' h6] at h4
      have := (hq1 b off len cap h3).2.2.1 0
      exact fun e0 => this.2 (e0 ▸ old i' b' off' len' cap' h6 h4)
  · intro i i' j' b off len cap m h1 h3 hm
    simp only [List.length_append, List.length_cons, List.length_nil] at h1
    rcases Nat.lt_or_ge i xs.length with h5 | h5
    · rw [hch i h5] at h3; exact ht.d2 i i' j' b off len cap m h5 h3 hm
    · have : i = xs.length := by omega
      subst this
      rw [hq] at h3
      have h6 := (hq1 b off len cap h3).2.2.1 m.off
      exact fun e0 => h6.2 (e0 ▸ (ht.at' i' j' m hm).2.1 _ (Nat.le_refl _))

/-- The slice of nil slices that is put behind: where it lies, seen from the outer slice. -/
theorem nils_hdr (h : Rel F nt L s a w) {yi ki n : Nat} (hY : s.look yi = some (.one (some ki))) (hK : s.look ki = some (.nils n)) : ∃ ly m u q, L yi = some ly ∧ NodeOK w 1 1 ly ∧ w.cell? ⟨ly.b, ly.off, none⟩ = some u ∧ L ki = some m ∧ hdr4 q u ∧ (q = none → n = 0) ∧ (∃ A c, u = .slice A n c) ∧
    ∀ b off len cap, q = some (b, off, len, cap) → b = m.b ∧ len = n ∧ len ≤ cap ∧ ∀ (L' : LM) (s' : St G) (w' : World), Rel F nt L' s' a w' → s'.look ki = some (.nils n) → L' ki = some m → (∃ cvs el, w'.heap[b]? = some (.cells cvs el (0, 0)) ∧ off + cap ≤ cvs.size) ∧ ∀ j, j < n → w'.cell? ⟨b, off + j, none⟩ = some (.slice none 0 0) := by
  obtain ⟨ly, h1, h2, u, h3, h4⟩ := h.e.en yi _ hY
  obtain ⟨m, k1, k2, k3⟩ := h.e.en ki _ hK
  have hv := h4 ki rfl
  simp only [RepV, k1] at hv
  obtain ⟨A, c, hu, p1, p2, p3⟩ := hv
  have hmn := k2.len
  rcases Nat.eq_zero_or_pos c with h0 | h0
  · subst h0
    have hn : n = 0 := by omega
    exact ⟨ly, m, u, none, h1, h2, h3, k1, ⟨A, by rw [hu]; congr 1; omega⟩, fun _ => hn, ⟨A, 0, by rw [hu, hmn]⟩, fun b off len cap h => by cases h⟩
  · have hA : A = some ⟨m.b, m.off, none⟩ := by rcases p3 with p3 | p3; omega; exact p3
    refine ⟨ly, m, u, some (m.b, m.off, n, c), h1, h2, h3, k1, by simp only [hdr4]; rw [hu, hA, hmn], (fun h => by cases h), ⟨A, c, by rw [hu, hmn]⟩, fun b off len cap h => ?_⟩
    cases h
    refine ⟨rfl, rfl, by omega, fun L' s' w' hr hk hl => ?_⟩
    obtain ⟨m', g1, g2, g3⟩ := hr.e.en ki _ hk
    rw [hl] at g1; cases g1
    obtain ⟨cvs, el, g4, g5⟩ := g2.blk
    have := g2.sz
    exact ⟨⟨cvs, el, g4, by rw [this] at g5; omega⟩, g3⟩

theorem boxU (n : Nat) : ∀ (vs : List Value), vs.length = n → ∀ (ok : Cells) (w : World) (L : LM), RepVs ok w L (List.replicate n (EV.u : EV G)) vs := by
  induction n with
  | zero => intro vs h ok w L; cases vs with | nil => simp [RepVs] | cons => simp at h
  | succ n ih =>
    intro vs h ok w L
    cases vs with
    | nil => simp at h
    | cons v vs => simp only [List.replicate_succ, RepVs, RepV, true_and]; exact ih vs (by simpa using h) ok w L
theorem boxU_ids (n : Nat) : EV.idss (List.replicate n (EV.u : EV G)) = [] := by
  induction n with
  | zero => rfl
  | succ n ih => simp only [List.replicate_succ, EV.idss, EV.ids, ih]; rfl

/-- The outer slice grows: it lies in a new block. -/
theorem appTree_grow (h : Rel F nt L s a w) {nid yi ki n : Nat} {e : Ty} {xs : List (List (List (G.D e)))} {used : List (Nat × Ent G)} {l0 m : Loc} {q : Option (Nat × Nat × Nat × Nat)} (hfree : s.look nid = none)
    (husd : ∀ j f, lookT used j = some f → f = .tomb ∧ (s.look j).isSome)
    (hT : ∀ (L1 : LM) (s1 : St G) (w1 : World), Rel F nt L1 s1 a w1 → (∀ j, (s.look j).isSome → s1.look j = s.look j ∧ L1 j = L j) → ∃ lf, TreeAt G (okOf F L1 s1) w1 L1 e xs none [] l0 lf)
    (hbs : ∀ x o, l0.bs x o → ∃ j f m, lookT used j ≠ none ∧ j ≠ ki ∧ s.look j = some f ∧ L j = some m ∧ owns m f x o)
    (hY : s.look yi = some (.one (some ki))) (hK : s.look ki = some (.nils n)) (hm : L ki = some m) (hq0 : q = none → n = 0)
    (hq1 : ∀ b off len cap, q = some (b, off, len, cap) → b = m.b ∧ len = n ∧ len ≤ cap ∧ ∀ (L' : LM) (s' : St G) (w' : World), Rel F nt L' s' a w' → s'.look ki = some (.nils n) → L' ki = some m → (∃ cvs el, w'.heap[b]? = some (.cells cvs el (0, 0)) ∧ off + cap ≤ cvs.size) ∧ ∀ j, j < n → w'.cell? ⟨b, off + j, none⟩ = some (.slice none 0 0))
    {w' : World} {cvs : Array Value} {el : TypeId} (hh : w'.heap = w.heap.push (.cells cvs el)) (ho : w'.os = w.os) (ht : w'.tape = w.tape) (hp : w'.output = w.output) {cap : Nat} (hcap : xs.length + 1 ≤ cap) (hsz : cap ≤ cvs.size)
    (hcv : ∀ i, i < xs.length + 1 → ∃ v, cvs[i]? = some v ∧ hdr4 (if i = xs.length then q else l0.ch i) v) :
    ∃ L' bs, Rel F nt L' (s.upd ((nid, .tree true e (xs ++ [List.replicate n []]) none []) :: (yi, .tomb) :: (ki, .tomb) :: used)) a w' ∧ L' nid = some ⟨w.heap.size, 0, 1, cap, xs.length + 1, bs, fun i => if i = xs.length then q else l0.ch i⟩ := by
  have nn : ∀ j, (s.look j).isSome → j ≠ nid := fun j hj e0 => by rw [e0, hfree] at hj; cases hj
  let ch : Nat → Option (Nat × Nat × Nat × Nat) := fun i => if i = xs.length then q else l0.ch i
  have h1 := h.newBlock hfree hh ho ht hp (e := .box (List.replicate cvs.size .u)) ⟨w.heap.size, 0, 1, cap, xs.length + 1, fun _ _ => False, ch⟩ rfl (by intro j hj; simp only [Ent.nms, boxU_ids] at hj; cases hj)
    (fun ok' L' k hL hl => ⟨_, cvs, el, hl, push_new hh, boxU _ _ (by simp) _ _ _⟩)
  generalize hs1 : s.upd [(nid, Ent.box (List.replicate cvs.size EV.u))] = s1 at h1
  generalize hL1 : (fun i => if i = nid then some (⟨w.heap.size, 0, 1, cap, xs.length + 1, fun _ _ => False, ch⟩ : Loc) else L i) = L1 at h1
  have lk1 : ∀ j, (s.look j).isSome → s1.look j = s.look j := fun j hj => by rw [← hs1, upd1_look, if_neg (Ne.symm (nn j hj))]
  have lkn : s1.look nid = some (.box (List.replicate cvs.size .u)) := by rw [← hs1, upd1_look, if_pos rfl]
  have L1o : ∀ j, j ≠ nid → L1 j = L j := fun j hj => by rw [← hL1]; exact if_neg hj
  have L1n : L1 nid = some ⟨w.heap.size, 0, 1, cap, xs.length + 1, fun _ _ => False, ch⟩ := by rw [← hL1]; exact if_pos rfl
  have old : ∀ j, (s.look j).isSome → s1.look j = s.look j ∧ L1 j = L j := fun j hj => ⟨lk1 j hj, L1o j (nn j hj)⟩
  obtain ⟨lf, hT1⟩ := hT L1 s1 w' h1 old
  have hKs : (s.look ki).isSome := by simp [hK]
  have hYs : (s.look yi).isSome := by simp [hY]
  have hK1 : s1.look ki = some (.nils n) := by rw [lk1 ki hKs]; exact hK
  have hm1 : L1 ki = some m := by rw [L1o ki (nn ki hKs)]; exact hm
  let bs' : Nat → Nat → Prop := fun x o => l0.bs x o ∨ x = m.b
  let l' : Loc := ⟨w.heap.size, 0, 1, cap, xs.length + 1, bs', ch⟩
  let L' : LM := fun j => if j = nid then some l' else L1 j
  have hLn : L' nid = some l' := if_pos rfl
  have hLo : ∀ j, j ≠ nid → L' j = L1 j := fun j hj => if_neg hj
  generalize hup : ((nid, .tree true e (xs ++ [List.replicate n []]) none []) :: (yi, .tomb) :: (ki, .tomb) :: used : List (Nat × Ent G)) = up
  have upc : ∀ j f, lookT up j = some f → (j = nid ∧ f = .tree true e (xs ++ [List.replicate n []]) none []) ∨ (j ≠ nid ∧ f = .tomb) := by
    intro j f hj
    rw [← hup, lookT_cons] at hj
    by_cases e0 : nid = j
    · rw [if_pos e0] at hj; exact .inl ⟨e0.symm, (Option.some.inj hj).symm⟩
    · rw [if_neg e0, lookT_cons, lookT_cons] at hj
      refine .inr ⟨fun e1 => e0 e1.symm, ?_⟩
      split at hj
      · exact (Option.some.inj hj).symm
      · split at hj
        · exact (Option.some.inj hj).symm
        · exact (husd j f hj).1
  have upn : lookT up nid ≠ none := by rw [← hup, lookT_cons, if_pos rfl]; exact fun h => by cases h
  have upk : lookT up ki ≠ none := by
    rw [← hup, lookT_cons, lookT_cons, lookT_cons, if_neg (Ne.symm (nn ki hKs))]
    split
    · exact fun h => by cases h
    · rw [if_pos rfl]; exact fun h => by cases h
  have upu : ∀ j, lookT used j ≠ none → lookT up j ≠ none := by
    intro j hj
    rw [← hup, lookT_cons, lookT_cons, lookT_cons]
    split
    · exact fun h => by cases h
    · split
      · exact fun h => by cases h
      · split
        · exact fun h => by cases h
        · exact hj
  have bsk : ∀ b off len cap', q = some (b, off, len, cap') → ∀ o, bs' b o ∧ ¬ l0.bs b o := by
    intro b off len cap' hqq o
    obtain ⟨e0, _⟩ := hq1 b off len cap' hqq
    subst e0
    refine ⟨.inr rfl, fun hb => ?_⟩
    obtain ⟨j, f, m', p1, p0, p2, p3, p4⟩ := hbs _ _ hb
    obtain ⟨p5, p6⟩ := owns_blk p4
    exact h.e.dis j ki f _ m' m p2 hK p3 hm p5 trivial p0 m.b p6 rfl
  have szl : ∀ x o, l0.bs x o → x < w.heap.size := by
    intro x o hb
    obtain ⟨j, f, m', _, _, p2, p3, p4⟩ := hbs x o hb
    obtain ⟨p5, p6⟩ := owns_blk p4
    exact (h.e.own j f m' p2 p3 p5 x p6).1
  have szm : m.b < w.heap.size := (h.e.own ki _ m hK hm trivial m.b rfl).1
  have final : Rel F nt L' (s1.upd up) a w' := by
    refine h1.regroup up h1.e.fits (Nat.le_refl _) (fun _ _ _ hc _ => hc) (fun _ _ => rfl) (fun j _ hn => hLo j fun e0 => upn (e0 ▸ hn)) (fun j _ => ?_) ?_ ?_ ?_
    · by_cases e0 : j = nid
      · subst e0; rw [hLn, L1n]; rfl
      · exact .of (hLo j e0)
    · intro j f l hj hl oe b o hw
      rcases upc j f hj with ⟨e0, e1⟩ | ⟨_, e1⟩
      · subst e0; subst e1
        rw [hLn] at hl; cases hl
        rcases hw with ⟨_, hw⟩ | hw | hw
        · exact ⟨j, _, _, upn, lkn, L1n, hw⟩
        · obtain ⟨j', f', m', p1, _, p2, p3, p4⟩ := hbs b o hw
          have hs' : (s.look j').isSome := by simp [p2]
          exact ⟨j', f', m', upu j' p1, by rw [lk1 j' hs']; exact p2, by rw [L1o j' (nn j' hs')]; exact p3, p4⟩
        · exact ⟨ki, _, m, upk, hK1, hm1, hw⟩
      · subst e1; exact oe.elim
    · intro j j' f f' l l2 hj hj' _ _ oe of ne
      rcases upc j f hj with ⟨e0, e1⟩ | ⟨_, e1⟩
      · rcases upc j' f' hj' with ⟨e2, e3⟩ | ⟨_, e3⟩
        · exact absurd (e0.trans e2.symm) ne
        · subst e3; exact of.elim
      · subst e1; exact oe.elim
    · intro j f hj
      rcases upc j f hj with ⟨e0, e1⟩ | ⟨_, e1⟩
      · subst e0; subst e1
        refine ⟨fun ok' kk => ?_, fun q hq => by simp [Ent.nms] at hq⟩
        simp only [RepE]
        rw [hLn]
        refine ⟨fun _ => ⟨⟨rfl, by simp [l'], hcap, cvs, el, push_new hh, by show 0 + cap * 1 ≤ cvs.size; omega⟩, fun o hb => ?_, fun i hi => ?_⟩, lf, hT1.snoc kk (q := q) (fun i hi => if_neg (by omega)) (if_pos rfl) (fun x o hb => .inl hb) (fun _ _ _ => rfl) hq0 (fun b off len cap' hqq => ?_)⟩
        · rcases hb with hb | hb
          · exact Nat.lt_irrefl _ (szl _ _ hb)
          · have hb : w.heap.size = m.b := hb
            omega
        · obtain ⟨v, v1, v2⟩ := hcv i (by simpa using hi)
          refine ⟨v, ?_, v2⟩
          simp only [l', World.cell?, push_new hh, Option.isSome_none, Bool.false_eq_true, if_false, Nat.zero_add]
          exact v1
        · obtain ⟨e0, e1, e2, e3⟩ := hq1 b off len cap' hqq
          obtain ⟨g1, g2⟩ := e3 L1 s1 w' h1 hK1 hm1
          exact ⟨e1, e2, bsk b off len cap' hqq, g1, g2⟩
      · subst e1; exact ⟨fun _ _ => trivial, fun q hq => by simp [Ent.nms] at hq⟩
  refine ⟨L', bs', final.ext (fun _ => by rw [← hs1]; rfl) fun j => ?_, hLn⟩
  rw [St.look_upd, St.look_upd, ← hs1, upd1_look]
  by_cases e0 : nid = j
  · subst e0
    rw [← hup, lookT_cons, if_pos rfl]; rfl
  · rw [if_neg e0]

/-- The outer slice has room. -/
theorem appTree_room (h : Rel F nt L s a w) {nid yi ki xi n c : Nat} {e : Ty} {xs : List (List (List (G.D e)))} {ys0 : List (List (G.D e))} {l m : Loc} {q : Option (Nat × Nat × Nat × Nat)} {u : Value} (hfree : s.look nid = none)
    (hX : s.look xi = some (.tree true e xs none ys0)) (hl : L xi = some l) (hc1 : xs.length + 1 ≤ c) (hc2 : c ≤ l.cap)
    (hY : s.look yi = some (.one (some ki))) (hK : s.look ki = some (.nils n)) (hm : L ki = some m) (hq0 : q = none → n = 0) (hqu : hdr4 q u)
    (hq1 : ∀ b off len cap, q = some (b, off, len, cap) → b = m.b ∧ len = n ∧ len ≤ cap ∧ ∀ (L' : LM) (s' : St G) (w' : World), Rel F nt L' s' a w' → s'.look ki = some (.nils n) → L' ki = some m → (∃ cvs el, w'.heap[b]? = some (.cells cvs el (0, 0)) ∧ off + cap ≤ cvs.size) ∧ ∀ j, j < n → w'.cell? ⟨b, off + j, none⟩ = some (.slice none 0 0)) :
    ∃ L' bs, Rel F nt L' (s.upd ((nid, .tree true e (xs ++ [List.replicate n []]) none []) :: (yi, .tomb) :: (ki, .tomb) :: [(xi, .tomb)])) a (w.setCells l.b (l.off + xs.length) [u]) ∧ L' nid = some ⟨l.b, l.off, 1, c, xs.length + 1, bs, fun i => if i = xs.length then q else l.ch i⟩ := by
  have nn : ∀ j, (s.look j).isSome → j ≠ nid := fun j hj e0 => by rw [e0, hfree] at hj; cases hj
  have hre := h.e.en xi _ hX
  simp only [RepE, hl] at hre
  obtain ⟨hout, lf, ht⟩ := hre
  have hout := hout trivial
  have ht := ht.any
  obtain ⟨cur, el, n1, n2⟩ := hout.node.blk
  have nsz := hout.node.sz
  rw [nsz] at n2
  have nlen := hout.node.len
  have hXs : (s.look xi).isSome := by simp [hX]
  have hKs : (s.look ki).isSome := by simp [hK]
  have hne : ki ≠ xi := fun e0 => by rw [e0, hX] at hK; cases hK
  have hapart := h.e.dis ki xi _ _ m l hK hX hm hl trivial trivial hne m.b rfl
  let ch : Nat → Option (Nat × Nat × Nat × Nat) := fun i => if i = xs.length then q else l.ch i
  let bs' : Nat → Nat → Prop := fun x o => l.bs x o ∨ x = m.b
  let l' : Loc := ⟨l.b, l.off, 1, c, xs.length + 1, bs', ch⟩
  let L' : LM := fun j => if j = nid then some l' else L j
  have hLn : L' nid = some l' := if_pos rfl
  have hLo : ∀ j, j ≠ nid → L' j = L j := fun j hj => if_neg hj
  have hone := One.set h hX hl (b := l.b) (o := l.off + xs.length) (.inl ⟨rfl, rfl⟩) u
  generalize hup : ((nid, .tree true e (xs ++ [List.replicate n []]) none []) :: (yi, .tomb) :: (ki, .tomb) :: [(xi, .tomb)] : List (Nat × Ent G)) = up
  have upc : ∀ j f, lookT up j = some f → (j = nid ∧ f = .tree true e (xs ++ [List.replicate n []]) none []) ∨ (j ≠ nid ∧ f = .tomb) := by
    intro j f hj
    rw [← hup, lookT_cons] at hj
    by_cases e0 : nid = j
    · rw [if_pos e0] at hj; exact .inl ⟨e0.symm, (Option.some.inj hj).symm⟩
    · rw [if_neg e0, lookT_cons, lookT_cons, lookT_cons] at hj
      refine .inr ⟨fun e1 => e0 e1.symm, ?_⟩
      split at hj
      · exact (Option.some.inj hj).symm
      · split at hj
        · exact (Option.some.inj hj).symm
        · split at hj
          · exact (Option.some.inj hj).symm
          · cases hj
  have upn : lookT up nid ≠ none := by rw [← hup, lookT_cons, if_pos rfl]; exact fun h => by cases h
  have upx : lookT up xi ≠ none := by
    rw [← hup, lookT_cons, lookT_cons, lookT_cons, lookT_cons, if_neg (Ne.symm (nn xi hXs)), if_neg hne, if_pos rfl]
    split
    · exact fun h => by cases h
    · exact fun h => by cases h
  have upk : lookT up ki ≠ none := by
    rw [← hup, lookT_cons, lookT_cons, lookT_cons, if_neg (Ne.symm (nn ki hKs))]
    split
    · exact fun h => by cases h
    · rw [if_pos rfl]; exact fun h => by cases h
  refine ⟨L', bs', h.regroup up hone.fits hone.size (fun b' o v hc hn => ?_) (fun x hx' => ?_) (fun j _ hn => hLo j fun e0 => upn (e0 ▸ hn)) (fun j hj => .of (hLo j (nn j hj))) ?_ ?_ ?_, hLn⟩
  · rw [hone.cells b' o fun e0 => hn ⟨xi, _, l, hX, hl, .inl ⟨rfl, e0.1⟩⟩]; exact hc
  · exact hone.heap x fun e0 => hx' xi _ l upx hX hl trivial (.inl ⟨rfl, e0⟩)
  · intro j f l2 hj hl2 oe b o hw
    rcases upc j f hj with ⟨e0, e1⟩ | ⟨_, e1⟩
    · subst e0; subst e1
      rw [hLn] at hl2; cases hl2
      rcases hw with ⟨_, hw⟩ | hw | hw
      · exact ⟨xi, _, l, upx, hX, hl, .inl ⟨rfl, hw⟩⟩
      · exact ⟨xi, _, l, upx, hX, hl, .inr hw⟩
      · exact ⟨ki, _, m, upk, hK, hm, hw⟩
    · subst e1; exact oe.elim
  · intro j j' f f' l2 l3 hj hj' _ _ oe of ne
    rcases upc j f hj with ⟨e0, e1⟩ | ⟨_, e1⟩
    · rcases upc j' f' hj' with ⟨e2, e3⟩ | ⟨_, e3⟩
      · exact absurd (e0.trans e2.symm) ne
      · subst e3; exact of.elim
    · subst e1; exact oe.elim
  · intro j f hj
    rcases upc j f hj with ⟨e0, e1⟩ | ⟨_, e1⟩
    · subst e0; subst e1
      refine ⟨fun ok' kk => ?_, fun q hq => by simp [Ent.nms] at hq⟩
      simp only [RepE]
      rw [hLn]
      have bne : ∀ x o, l.bs x o → x ≠ l.b := fun x o hb e0 => hout.nb o (e0 ▸ hb)
      obtain ⟨cvs', g1, g2⟩ := hone.blk cur el n1
      refine ⟨fun _ => ⟨⟨rfl, by simp [l'], hc1, cvs', el, g1, by show l.off + c * 1 ≤ cvs'.size; omega⟩, fun o hb => ?_, fun i hi => ?_⟩, lf, ht.snoc kk (q := q) (fun i hi => if_neg (by omega)) (if_pos rfl) (fun x o hb => .inl hb) (fun x o hb => hone.heap x (bne x o hb)) hq0 (fun b off len cap' hqq => ?_)⟩
      · rcases hb with hb | hb
        · exact hout.nb o hb
        · have hb : l.b = m.b := hb
          exact hapart (.inl ⟨rfl, hb.symm⟩)
      · have hi : i < xs.length + 1 := by simpa using hi
        by_cases e0 : i = xs.length
        · subst e0
          refine ⟨u, ?_, by show hdr4 (if xs.length = xs.length then q else _) u; rw [if_pos rfl]; exact hqu⟩
          have := cell_setCells (w := w) (vs := [u]) (o := l.off + xs.length) n1 (by simp; omega) (l.off + xs.length)
          show (w.setCells l.b (l.off + xs.length) [u]).cell? ⟨l.b, l.off + xs.length, none⟩ = some u
          rw [this, if_pos ⟨Nat.le_refl _, by simp⟩]; simp
        · obtain ⟨v, v1, v2⟩ := hout.hd i (by omega)
          refine ⟨v, ?_, by show hdr4 (if i = xs.length then q else _) v; rw [if_neg e0]; exact v2⟩
          rw [hone.cells _ _ (fun e1 => e0 (by have := e1.2; simp [l'] at this; omega))]; exact v1
      · obtain ⟨e0, e1, e2, e3⟩ := hq1 b off len cap' hqq
        obtain ⟨⟨cv, el', g1, g2⟩, g3⟩ := e3 L s w h hK hm
        have hbl : b ≠ l.b := fun e4 => hapart (.inl ⟨rfl, by rw [← e0]; exact e4⟩)
        refine ⟨e1, e2, fun o => ⟨.inr e0, fun hb => hapart (.inr ⟨o, e0 ▸ hb⟩)⟩, ⟨cv, el', by rw [hone.heap b hbl]; exact g1, g2⟩, fun j hj => ?_⟩
        rw [cell_blk (hone.heap b hbl)]; exact g3 j hj
    · subst e1; exact ⟨fun _ _ => trivial, fun q hq => by simp [Ent.nms] at hq⟩

theorem hdr4_one {q : Option (Nat × Nat × Nat × Nat)} {u : Value} (h : hdr4 q u) : u.oneCell' = true := by
  cases q with
  | none => obtain ⟨A, rfl⟩ := h; rfl
  | some q => obtain ⟨b, off, len, cap⟩ := q; simp only [hdr4] at h; subst h; rfl
theorem srcEmpty {t et : Nat} (hu : P.underlying t = some (.slice et)) (A : Option Addr) (c : Nat) : Src P 1 t (.slice A 0 c) 0 [] w := by
  cases A with
  | none => exact Src.ofNil w hu c
  | some A => exact Src.ofSlice w hu A 0 c [] rfl (fun j u hj => by simp at hj) (fun u hu => by cases hu)

/-- The outer slice, as an append finds it. -/
theorem treeBase (h : Rel F nt L s a w) {t et ki : Nat} (hu : P.underlying t = some (.slice et)) {x : Operand} {e : Ty} {xs : List (List (List (G.D e)))} {used : List (Nat × Ent G)} {n : Nat} (hK : s.look ki = some (.nils n))
    (hx : (s.ev x = .nl ∧ xs = [] ∧ used = []) ∨ ∃ xi ys0, s.ev x = .ow xi ∧ s.look xi = some (.tree true e xs none ys0) ∧ used = [(xi, .tomb)]) :
    ∃ A c olds l0, a.eval x = .slice A xs.length c ∧ xs.length ≤ c ∧ olds.length = xs.length ∧ Src P 1 t (.slice A xs.length c) xs.length olds w ∧ (∀ i u, olds[i]? = some u → hdr4 (l0.ch i) u) ∧
      (∀ (L1 : LM) (s1 : St G) (w1 : World), Rel F nt L1 s1 a w1 → (∀ j, (s.look j).isSome → s1.look j = s.look j ∧ L1 j = L j) → ∃ lf, TreeAt G (okOf F L1 s1) w1 L1 e xs none [] l0 lf) ∧
      (∀ x o, l0.bs x o → ∃ j f m, lookT used j ≠ none ∧ j ≠ ki ∧ s.look j = some f ∧ L j = some m ∧ owns m f x o) ∧
      (xs.length + 1 ≤ c → ∃ xi ys0, used = [(xi, .tomb)] ∧ s.look xi = some (.tree true e xs none ys0) ∧ L xi = some l0 ∧ A = some ⟨l0.b, l0.off, none⟩ ∧ c ≤ l0.cap) := by
  have hv := h.ev x
  rcases hx with ⟨h1, h2, h3⟩ | ⟨xi, ys0, h1, h2, h3⟩
  · rw [h1] at hv
    simp only [RepV] at hv
    subst h2; subst h3
    exact ⟨none, 0, [], ⟨0, 0, 0, 0, 0, fun _ _ => False, fun _ => none⟩, hv, Nat.le_refl _, rfl, srcEmpty hu none 0, fun i u hi => by simp at hi, fun _ _ _ _ _ => ⟨_, TreeAt.nil⟩, fun _ _ h => h.elim, fun h => absurd h (by simp)⟩
  · rw [h1] at hv
    subst h3
    have hne : xi ≠ ki := fun e0 => by rw [e0, hK] at h2; cases h2
    have hs : (s.look xi).isSome := by simp [h2]
    simp only [RepV] at hv
    cases hl : L xi with
    | none =>
      rw [hl] at hv
      obtain ⟨A, hv⟩ := hv
      have hre := h.e.en xi _ h2
      simp only [RepE, hl] at hre
      obtain ⟨hx0, _⟩ := hre
      subst hx0
      exact ⟨A, 0, [], ⟨0, 0, 0, 0, 0, fun _ _ => False, fun _ => none⟩, hv, Nat.le_refl _, rfl, srcEmpty hu A 0, fun i u hi => by simp at hi, fun _ _ _ _ _ => ⟨_, TreeAt.nil⟩, fun _ _ h => h.elim, fun h => absurd h (by simp)⟩
    | some l =>
      rw [hl] at hv
      obtain ⟨A, c, hav, p1, p2, p3⟩ := hv
      have hre := h.e.en xi _ h2
      simp only [RepE, hl] at hre
      obtain ⟨hout, lf, ht⟩ := hre
      have hout := hout trivial
      have hlen := hout.node.len
      have hT : ∀ (L1 : LM) (s1 : St G) (w1 : World), Rel F nt L1 s1 a w1 → (∀ j, (s.look j).isSome → s1.look j = s.look j ∧ L1 j = L j) → ∃ lf, TreeAt G (okOf F L1 s1) w1 L1 e xs none [] l lf := by
        intro L1 s1 w1 hr ho
        obtain ⟨q1, q2⟩ := ho xi hs
        have hre := hr.e.en xi _ (q1.trans h2)
        simp only [RepE, q2, hl] at hre
        obtain ⟨_, lf, ht⟩ := hre
        exact ⟨lf, ht.any⟩
      have hbs : ∀ x o, l.bs x o → ∃ j f m, lookT [(xi, (Ent.tomb : Ent G))] j ≠ none ∧ j ≠ ki ∧ s.look j = some f ∧ L j = some m ∧ owns m f x o :=
        fun x o hb => ⟨xi, _, l, (by rw [lookT_cons, if_pos rfl]; exact fun h => (by cases h)), hne, h2, hl, Or.inr hb⟩
      rcases Nat.eq_zero_or_pos c with h0 | h0
      · subst h0
        have hx0 : xs = [] := List.length_eq_zero_iff.mp (by omega)
        subst hx0
        have : l.len = 0 := by omega
        rw [this] at hav
        exact ⟨A, 0, [], l, hav, Nat.le_refl _, rfl, srcEmpty hu A 0, fun i u hi => by simp at hi, hT, hbs, fun h => absurd h (by simp)⟩
      · have hA : A = some ⟨l.b, l.off, none⟩ := by rcases p3 with p3 | p3; omega; exact p3
        subst hA
        let olds : List Value := (List.range xs.length).map fun i => (w.cell? ⟨l.b, l.off + i, none⟩).getD undef
        have hget : ∀ i u, olds[i]? = some u → w.cell? ⟨l.b, l.off + i, none⟩ = some u ∧ hdr4 (l.ch i) u := by
          intro i u hi
          have hil := get_lt' hi
          simp only [olds, List.length_map, List.length_range] at hil
          obtain ⟨v, v1, v2⟩ := hout.hd i hil
          simp only [olds, List.getElem?_map, List.getElem?_range hil, Option.map_some, v1, Option.getD_some, Option.some.injEq] at hi
          subst hi
          exact ⟨v1, v2⟩
        have hol : olds.length = xs.length := by simp [olds]
        refine ⟨_, c, olds, l, by rw [hav, hlen], by omega, hol, Src.ofSlice w hu _ _ _ _ (by rw [hol, Nat.mul_one]) (fun j u hj => ?_) (fun u hu => ?_), fun i u hi => (hget i u hi).2, hT, hbs, fun _ => ⟨xi, ys0, rfl, h2, hl, rfl, p2⟩⟩
        · have := (hget j u hj).1
          simpa [Addr.add_lit] using this
        · obtain ⟨i, hi⟩ := List.getElem?_of_mem hu
          exact hdr4_one (hget i u hi).2

theorem appTree_ok {o : Oper} {t et b nid yi ki n : Nat} {x y : Operand} {e : Ty} {xs : List (List (List (G.D e)))} {used : List (Nat × Ent G)} {s0 : St G} {zc : List (EV G)} {call : Call}
    (hd : ∀ t, o.dst = some t → t < nt) (ho : o.op = .call call) (hcal : call.callee = .builtin .append) (hargs : call.args = #[x, y]) (hats : call.argTypes = #[t, t])
    (he : elemT P t = some et) (hby : bytesT P et = some b) (hs : sizeT P et = some 1) (hy : s0.ev y = .ow yi) (hY : s0.look yi = some (.one (some ki))) (hK : s0.look ki = some (.nils n))
    (hf : s0.look nid = none) (hzc : zeroCells P et = some zc) (hzl : zc.length = 1) (hb1 : 1 ≤ b) (hlim : ((xs.length : Int) + 1) * (b : Int) ≤ 70368744177664)
    (hx : (s0.ev x = .nl ∧ xs = [] ∧ used = []) ∨ ∃ xi ys0, s0.ev x = .ow xi ∧ s0.look xi = some (.tree true e xs none ys0) ∧ used = [(xi, .tomb)]) :
    OpOK P nt o s0.ev (nid :: yi :: ki :: used.map (·.1)) s0.look (.ow nid) ((nid, .tree true e (xs ++ [List.replicate n []]) none []) :: (yi, .tomb) :: (ki, .tomb) :: used) := by
  intro F L s a w h hev hlk
  have hfree : s.look nid = none := by rw [hlk nid (by simp)]; exact hf
  have hxe : s.ev x = s0.ev x := hev x (by simp [ho, Op.operands, Call.operands, hcal, hargs])
  have hye : s.ev y = .ow yi := by rw [hev y (by simp [ho, Op.operands, Call.operands, hcal, hargs]), hy]
  have hYs : s.look yi = some (.one (some ki)) := by rw [hlk yi (by simp), hY]
  have hKs : s.look ki = some (.nils n) := by rw [hlk ki (by simp), hK]
  have hxs : (s.ev x = .nl ∧ xs = [] ∧ used = []) ∨ ∃ xi ys0, s.ev x = .ow xi ∧ s.look xi = some (.tree true e xs none ys0) ∧ used = [(xi, .tomb)] := by
    rcases hx with ⟨h1, h2, h3⟩ | ⟨xi, ys0, h1, h2, h3⟩
    · exact .inl ⟨by rw [hxe, h1], h2, h3⟩
    · exact .inr ⟨xi, ys0, by rw [hxe, h1], by rw [hlk xi (by simp [h3]), h2], h3⟩
  have hu := elemT_under he
  obtain ⟨A, c, olds, l0, hax, hle, hol, hsrcX, hoh, hT, hbs, hroom⟩ := treeBase (P := P) h hu hKs hxs
  obtain ⟨ly, m, u, q, y1, y2, y3, hm, hqu, hq0, ⟨Au, cu, hau⟩, hq1⟩ := nils_hdr h hYs hKs
  have hyv := h.ev y
  rw [hye] at hyv
  simp only [RepV, y1] at hyv
  obtain ⟨B, c2, hay, b1, b2, b3⟩ := hyv
  have hyl := y2.len
  have hB : B = some ⟨ly.b, ly.off, none⟩ := by rcases b3 with b3 | b3; omega; exact b3
  subst hB
  rw [hyl] at hay
  have hone : u.oneCell' = true := by rw [hau]; rfl
  have hsrc : Src P 1 t (.slice (some ⟨ly.b, ly.off, none⟩) 1 c2) 1 [u] w := Src.ofSlice w hu _ 1 c2 [u] rfl (fun j v hj => by
    cases j with
    | zero => simp at hj; subst hj; simpa [Addr.add_lit] using y3
    | succ j => simp at hj) (fun v hv => by simp at hv; subst hv; exact hone)
  unfold sizeT at hs
  unfold bytesT at hby
  cases hi : P.info? et with
  | none => rw [hi] at hs; cases hs
  | some i =>
  rw [hi] at hs hby
  have hiz : i.size = 1 := some_inj hs
  have hib : i.bytes = b := some_inj hby
  have hin : ∀ f, (s.upd ((nid, f) :: (yi, .tomb) :: (ki, .tomb) :: used)).look nid = some f := fun f => by rw [St.look_upd, lookT_cons, if_pos rfl]; rfl
  have fin : ∀ (v : Value) (w' : World) (L' : LM), (Builtin.append_ #[t, t] o.type #[.slice A xs.length c, .slice (some ⟨ly.b, ly.off, none⟩) 1 c2]).run P w = .ok v w' → Rel F nt L' (s.upd ((nid, .tree true e (xs ++ [List.replicate n []]) none []) :: (yi, .tomb) :: (ki, .tomb) :: used)) a w' →
      (∀ ok, RepV ok w' L' (EV.ow nid : EV G) v) →
      o.wp P a w (fun a' w' => ∃ L', Rel F nt L' ((s.upd ((nid, .tree true e (xs ++ [List.replicate n []]) none []) :: (yi, .tomb) :: (ki, .tomb) :: used)).put o.dst (.ow nid)) a' w') (fun _ _ _ => False) := by
    intro v w' L' hrun hrel hrep
    refine wp_value (u := v) (w' := w') ?_ ⟨L', hrel.put o.dst hd _ _ (hrep _) (by simp [EV.ids, hin])⟩
    have e1 : call.args.map a.eval = #[.slice A xs.length c, .slice (some ⟨ly.b, ly.off, none⟩) 1 c2] := by rw [hargs]; simp [hax, hay]
    simp [execOp, ho, resolve, invoke, builtin, hcal, e1, hats, hrun]
  by_cases hr : xs.length + 1 ≤ c
  · obtain ⟨xi, ys0, g1, g2, g3, g4, g5⟩ := hroom hr
    subst g1; subst g4
    have hre := h.e.en xi _ g2
    simp only [RepE, g3] at hre
    obtain ⟨cur, el, n1, n2⟩ := (hre.1 trivial).node.blk
    rw [(hre.1 trivial).node.sz] at n2
    have hrun := run_append_room_src (P := P) w t t o.type et i hu hi l0.b l0.off xs.length c (.slice (some ⟨ly.b, ly.off, none⟩) 1 c2) 1 [u] (by rw [hiz]; exact hsrc) hr
      (fun j hj => by simp at hj; subst hj; simp only [World.cell?, n1, hiz]; simp; omega) (fun j hj => by simp [World.frozen?, n1])
    obtain ⟨L', bs, r1, r2⟩ := appTree_room h hfree g2 g3 hr g5 hYs hKs hm hq0 hqu hq1
    rw [hiz, Nat.mul_one] at hrun
    refine fin _ _ L' hrun r1 fun ok => ?_
    simp only [RepV, r2]
    exact ⟨_, c, rfl, hr, Nat.le_refl _, .inr rfl⟩
  · have hzr : ∃ zv, i.zero = some zv ∧ zv.cells.size = 1 := by
      obtain ⟨zv, z1, z2⟩ := zeroCells_sem hzc w
      have := (z2 (fun _ _ => True) w L).length
      cases hzv : i.zero with
      | none => simp [zeroValue, typeInfo, hi, hzv] at z1
      | some zv' =>
        have : zv' = zv := by simpa [zeroValue, typeInfo, hi, hzv] using z1
        subst this
        exact ⟨_, rfl, by rw [← hzl, ‹zc.length = _›]; simp⟩
    obtain ⟨zv, hzv, hzs⟩ := hzr
    have hold : (Builtin.firstCells i.size xs.length (.slice A xs.length c)).run P w.drew = .ok olds.toArray w.drew := by rw [hiz]; exact hsrcX.cellsD
    have hb48 : (xs.length + 1) * b ≤ 70368744177664 := by
      have : (((xs.length + 1) * b : Nat) : Int) ≤ 70368744177664 := by push_cast; exact hlim
      omega
    have h63 : xs.length + 1 ≤ 70368744177664 := Nat.le_trans (Nat.le_mul_of_pos_right _ hb1) hb48
    have hrun := run_append_grow_src (P := P) w t t o.type et i zv hu hi hzv A xs.length c olds hold (.slice (some ⟨ly.b, ly.off, none⟩) 1 c2) 1 [u] (by rw [hiz]; exact hsrc) (by omega) (by omega) (growslice_fits (by omega) (by rw [hib]; omega))
    have hge := grownCap_ge w (xs.length + 1) c et
    obtain ⟨L', bs, r1, r2⟩ := appTree_grow h (used := used) (l0 := l0) (q := q) (e := e) (xs := xs) hfree (fun j f hj => by
        rcases hxs with ⟨_, _, h3⟩ | ⟨xi, ys0, _, h2, h3⟩
        · rw [h3] at hj; cases hj
        · rw [h3, lookT_cons] at hj
          split at hj
          · rename_i e0; subst e0; exact ⟨(Option.some.inj hj).symm, by simp [h2]⟩
          · cases hj) hT hbs hYs hKs hm hq0 hq1
      (w' := w.drew.alloc (.cells ((olds ++ [u]).toArray ++ Builtin.zeroCells zv.cells (grownCap w (xs.length + 1) c et - (xs.length + 1))) et)) rfl rfl rfl rfl (cap := grownCap w (xs.length + 1) c et) hge
      (by simp only [Array.size_append, List.size_toArray, size_zeroCells, hzs, List.length_append, hol, List.length_cons, List.length_nil]; omega)
      (fun j hj => by
        by_cases e0 : j = xs.length
        · subst e0
          refine ⟨u, ?_, by rw [if_pos rfl]; exact hqu⟩
          rw [← Array.getElem?_toList, Array.toList_append, List.getElem?_append_left (by simp [hol])]
          simp [← hol]
        · have hjl : j < olds.length := by omega
          refine ⟨olds[j], ?_, by rw [if_neg e0]; exact hoh j _ (List.getElem?_eq_getElem hjl)⟩
          rw [← Array.getElem?_toList, Array.toList_append, List.getElem?_append_left (by simp; omega)]
          simp only [List.getElem?_append_left hjl]
          rw [List.getElem?_eq_getElem hjl])
    refine fin _ _ L' hrun r1 fun ok => ?_
    simp only [RepV, r2]
    exact ⟨_, _, rfl, hge, Nat.le_refl _, .inr (by simp)⟩

/-! ### the outer slice is done -/
theorem RepVs.setv {ok : Cells} : ∀ {cs : List (EV G)} {vs : List Value} {off : Nat} {x : EV G}, RepVs ok w L cs vs → (∀ u, vs[off]? = some u → RepV ok w L x u) → RepVs ok w L (cs.set off x) vs := by
  intro cs
  induction cs with
  | nil => intro vs off x h _; simpa using h
  | cons c cs ih =>
    intro vs off x h hx
    cases vs with
    | nil => simp [RepVs] at h
    | cons v vs =>
      simp only [RepVs] at h
      cases off with
      | zero => simp only [List.set_cons_zero, RepVs]; exact ⟨hx v (by simp), h.2⟩
      | succ off => simp only [List.set_cons_succ, RepVs]; exact ⟨h.1, ih h.2 fun u hu => hx u (by simpa using hu)⟩
theorem idss_set {cs : List (EV G)} {off : Nat} {x : EV G} {j : Nat} (h : j ∈ EV.idss (cs.set off x)) : j ∈ EV.idss cs ∨ j ∈ x.ids := by
  induction cs generalizing off with
  | nil => simp [EV.idss] at h
  | cons c cs ih =>
    cases off with
    | zero =>
      simp only [List.set_cons_zero, EV.idss, List.mem_append] at h ⊢
      rcases h with h | h
      · exact .inr h
      · exact .inl (.inr h)
    | succ off =>
      simp only [List.set_cons_succ, EV.idss, List.mem_append] at h ⊢
      rcases h with h | h
      · exact .inl (.inl h)
      · exact (ih h).imp .inr id
theorem frst_rel (h : Rel F nt L s a w) {i off b : Nat} {cs : List (EV G)} {e : Ty} {xs : List (List (List (G.D e)))} {ys0 : List (List (G.D e))} (hi : s.look i = some (.box cs)) (hc : cs[off]? = some (.ow b)) (hb : s.look b = some (.tree true e xs none ys0)) (hne : i ≠ b) :
    Rel F nt L (s.upd [(i, .box (cs.set off (.spn b xs.length))), (b, .tree false e xs none [])]) a w := by
  have hre := h.e.en b _ hb
  simp only [RepE] at hre
  obtain ⟨lb, cvs, el, k1, k2, k3⟩ := h.e.en i _ hi
  refine h.release _ L (fun _ _ => rfl) ?_ ?_
  · intro q f hq l hl oe
    rcases lookT2 hq with ⟨e0, e1⟩ | ⟨_, e0, e1⟩
    · subst e0; subst e1; exact ⟨_, hi, trivial, fun _ _ hw => hw⟩
    · subst e0; subst e1
      exact ⟨_, hb, trivial, fun _ _ hw => hw.elim (fun hw => by cases hw.1) fun hw => .inr hw⟩
  · intro q f hq
    rcases lookT2 hq with ⟨e0, e1⟩ | ⟨_, e0, e1⟩
    · subst e0; subst e1
      refine ⟨fun j hj => ?_, fun ok' k hok => ⟨lb, cvs, el, k1, k2, (k3.mono k (fun _ _ => rfl)).setv fun u hu => ?_⟩⟩
      · simp only [Ent.nms] at hj
        rcases idss_set hj with hj | hj
        · exact upd2_isSome (.inr (.inr (h.e.ids q _ hi j hj)))
        · simp [EV.ids] at hj; exact upd2_isSome (.inr (.inl hj))
      · obtain ⟨v, hv, hrv⟩ := k3.get hc
        rw [hu] at hv; cases hv
        simp only [RepV] at hrv ⊢
        cases hl : L b with
        | none =>
          rw [hl] at hrv hre
          obtain ⟨A, hA⟩ := hrv
          exact ⟨by rw [hre.1]; rfl, A, hA⟩
        | some l =>
          rw [hl] at hrv hre
          obtain ⟨A, c, hav, p1, p2, p3⟩ := hrv
          obtain ⟨hout, lf, ht⟩ := hre
          have hout := hout trivial
          have hlen := hout.node.len
          refine ⟨A, c, by rw [hav, hlen], by omega, ?_⟩
          rcases Nat.eq_zero_or_pos xs.length with h0 | h0
          · exact .inl h0
          · refine .inr ⟨l.b, l.off, by rcases p3 with p3 | p3; omega; exact p3, fun j hj => ⟨(hok _ _).mpr ⟨h.base' hb hl trivial (.inl ⟨rfl, rfl⟩) _, ?_⟩, hout.hd j hj⟩⟩
            rintro ⟨j', f', m', q1, q2, q3⟩
            obtain ⟨q4, q5⟩ := owns_blk q3
            rw [St.look_upd] at q1
            cases hu2 : lookT [(q, Ent.box (cs.set off (.spn b xs.length))), (b, (Ent.tree false e xs none [] : Ent G))] j' with
            | some f2 =>
              rw [hu2] at q1
              have : f2 = f' := by simpa using q1
              subst this
              rcases lookT2 hu2 with ⟨e0, e1⟩ | ⟨_, e0, e1⟩
              · subst e0; subst e1
                exact h.e.dis j' b _ _ m' l hi hb q2 hl trivial trivial hne l.b q5 (.inl ⟨rfl, rfl⟩)
              · subst e0; subst e1
                rw [hl] at q2; cases q2
                rcases q3 with q3 | q3
                · cases q3.1
                · exact hout.nb _ q3
            | none =>
              rw [hu2] at q1
              have q1 : s.look j' = some f' := by simpa using q1
              have hjb : j' ≠ b := (lookT2_none hu2).2
              exact h.e.dis j' b _ _ m' l q1 hb q2 hl q4 trivial hjb l.b q5 (.inl ⟨rfl, rfl⟩)
    · subst e0; subst e1
      refine ⟨fun j hj => by simp [Ent.nms] at hj, fun ok' k hok => ?_⟩
      simp only [RepE]
      cases hl : L q with
      | none => rw [hl] at hre; exact hre
      | some l =>
        rw [hl] at hre
        obtain ⟨_, lf, ht⟩ := hre
        exact ⟨(fun h => by cases h), lf, ht.any.mono k (fun _ _ _ => rfl) (fun i j k h => by cases h)⟩
theorem frsts_rel : ∀ (l : List (Nat × Nat)) {s : St G}, Rel F nt L s a w → Rel F nt L (frsts l s) a w := by
  intro l
  induction l with
  | nil => intro s h; exact h
  | cons x l ih =>
    intro s h
    obtain ⟨i, off⟩ := x
    simp only [frsts]
    split
    · rename_i cs hi
      split
      · rename_i b hc
        split
        · rename_i e xs ys0 hb
          cases hn : Nat.beq i b with
          | true => exact ih h
          | false => exact ih (frst_rel h hi hc hb (fun e0 => by rw [e0, Nat.beq_refl] at hn; cases hn))
        · exact ih h
      · exact ih h
    · exact ih h
end
end Go.Abs
end
section
set_option linter.all false
set_option linter.unusedVariables false
set_option linter.unusedSimpArgs false
set_option linter.unnecessarySimpa false
/-
  ABS, part 21e: the operations on trees are sound.
-/
namespace Go.Abs
open Go
variable {G : Gam}

section
variable {E : Env G} {R : Type}

theorem bindT {α β : Type} {x : Option α} {f : α → Option β} {r : β} (h : x.bind f = some r) : ∃ y, x = some y ∧ f y = some r := by
  cases x with
  | none => cases h
  | some y => exact ⟨y, rfl, h⟩
theorem freeT {s : St G} {i : Nat} (h : isFree s i = true) : s.look i = none := by
  unfold isFree at h; split at h
  · assumption
  · cases h
theorem OpOK.more' {P : Program} {nt : Nat} {o : Oper} {ev : Operand → EV G} {ids ids' : List Nat} {lk : Nat → Option (Ent G)} {v : EV G} {up : List (Nat × Ent G)} (h : OpOK P nt o ev ids lk v up) (hi : ∀ i ∈ ids, i ∈ ids') : OpOK P nt o ev ids' lk v up :=
  fun F L s a w hr hev hlk => h F L s a w hr hev fun i him => hlk i (hi i him)

theorem opT_sound {s0 : St G} {nid : Nat} {o : Oper} (hd : ∀ t, o.dst = some t → t < E.nt) {k : EV G → List (Nat × Ent G) → List Nat → Option R} {r : R} (h : opT E s0 nid o k = some r) :
    ∃ v up rd, k v up rd = some r ∧ OpOK E.P E.nt o s0.ev (rd ++ up.map (·.1)) s0.look v up := by
  unfold opT at h
  split at h
  · -- load
    rename_i t x ho
    split at h
    · rename_i id i hx
      obtain ⟨h1, h⟩ := guardb h
      exact ⟨_, _, _, h, (sppLoad_ok hd ho h1 hx).more' (by simp)⟩
    · rename_i id i j hx
      split at h
      · rename_i ow e xs ys0 hi
        obtain ⟨hg, h⟩ := guardb h
        obtain ⟨h0, h1⟩ := band hg
        obtain ⟨ys, hy, h⟩ := bindT h
        obtain ⟨zs, hz, h⟩ := bindT h
        exact ⟨_, _, _, h, (take_ok hd ho h1 hx hi (freeT h0) hy hz).more' (by simp)⟩
      · cases h
    · cases h
  · -- indexAddr
    rename_i t x ix ho
    split at h
    · cases h
    rename_i et he
    split at h
    · rename_i kk i hix
      split at h
      · rename_i id n hx
        obtain ⟨h1, h⟩ := guardb h
        obtain ⟨hg, h⟩ := guardb h
        obtain ⟨h0, h2⟩ := band hg
        exact ⟨_, _, _, h, (spnIndex_ok hd ho he h1 hx hix (of_decide_eq_true h0) (of_decide_eq_true h2)).more' (by simp)⟩
      · rename_i id c hx
        split at h
        · rename_i ow e xs h0' ys0 hi
          obtain ⟨h1, h⟩ := guardb h
          obtain ⟨ys, hy, h⟩ := bindT h
          obtain ⟨hg, h⟩ := guardb h
          obtain ⟨h0, h2⟩ := band hg
          exact ⟨_, _, _, h, (innIndex_ok hd ho he h1 hx hi hy hix (of_decide_eq_true h0) (of_decide_eq_true h2)).more' (by simp)⟩
        · cases h
      · cases h
    · cases h
  · -- store
    rename_i t x y ho
    split at h
    · rename_i id i j hx
      split at h
      · rename_i ow e xs i' j' S ys hi
        obtain ⟨hg, h⟩ := guardb h
        obtain ⟨hg, h1⟩ := band hg
        obtain ⟨h2, h3⟩ := band hg
        have h2 := beqT h2
        have h3 := beqT h3
        subst h2; subst h3
        split at h
        · rename_i r' zs hy
          obtain ⟨_, h⟩ := guardn h
          exact ⟨_, _, _, h, (put_ok hd ho h1 hx hi hy).more' (by simp)⟩
        · cases h
      · cases h
    · cases h
  · -- makeSlice
    rename_i t x y ho
    split at h
    · cases h
    rename_i et he
    split at h
    · rename_i et2 b l c h2 hb hz hl hc
      obtain ⟨hg, h⟩ := guardb h
      obtain ⟨hg, hzc⟩ := band hg
      obtain ⟨h0, h1⟩ := band hg
      obtain ⟨hm, h⟩ := guardb h
      obtain ⟨m0, m1, m2⟩ := makeOK_iff.mp hm
      split at hzc
      · rename_i hzc'
        have hb1 := bleT h1
        have : c ≤ 9223372036854775807 := by
          have hb1 : (1 : Int) ≤ (b : Int) := by omega
          have hc0 : 0 ≤ c := by omega
          have : c * 1 ≤ c * (b : Int) := Int.mul_le_mul_of_nonneg_left hb1 hc0
          omega
        exact ⟨_, _, _, h, (makeNils_ok hd ho he hb hz rfl hl hc (freeT h0) m0 m1 m2 this hzc').more' (by simp)⟩
      · cases hzc
    · cases h
  · -- buildSlice
    rename_i t len parts ho
    split at h
    · rename_i et x he hp
      split at h
      · rename_i id hx
        split at h
        · rename_i n hi
          obtain ⟨hg, hk⟩ := guardb h
          clear h
          obtain ⟨hg, hzc⟩ := band hg
          obtain ⟨hg, h1⟩ := band hg
          obtain ⟨h0, h2⟩ := band hg
          have h2 := beqT h2
          subst h2
          have hz : ∃ zc : List (EV G), zeroCells E.P et = some zc := by
            split at hzc
            · rename_i zc hzc'; exact ⟨zc, hzc'⟩
            · cases hzc
          exact ⟨_, _, _, hk, (one_ok hd ho hp he h1 hz hx hi (freeT h0)).more' (by simp)⟩
        · cases h
      · cases h
    · cases h
  · -- append
    rename_i c ho
    split at h
    · rename_i hcal
      split at h
      · rename_i x y t t2 ha hat
        split at h
        · cases h
        rename_i et he
        split at h
        · rename_i e b hty hb hs htt
          have htt := beqT htt
          subst htt
          have hargs : c.args = #[x, y] := by rw [← Array.toArray_toList (xs := c.args), ha]
          have hats : c.argTypes = #[t, t] := by rw [← Array.toArray_toList (xs := c.argTypes), hat]
          split at h
          · rename_i yi hy
            split at h
            · rename_i ki hY
              split at h
              · rename_i n hK
                obtain ⟨hg, h⟩ := guardb h
                obtain ⟨hg, hzc⟩ := band hg
                obtain ⟨h0, h1⟩ := band hg
                have hz : ∃ zc : List (EV G), zeroCells E.P et = some zc ∧ zc.length = 1 := by
                  split at hzc
                  · rename_i zc hzc'; exact ⟨zc, hzc', beqT hzc⟩
                  · cases hzc
                obtain ⟨zc, hz1, hz2⟩ := hz
                split at h
                · rename_i hx
                  obtain ⟨hap, h⟩ := guardb h
                  exact ⟨_, _, _, h, (appTree_ok (e := e) (xs := []) (used := []) hd ho hcal hargs hats he hb hs hy hY hK (freeT h0) hz1 hz2 (bleT h1) (by have := appOK_iff.mp hap; simpa using this) (.inl ⟨hx, rfl, rfl⟩)).more' (by simp)⟩
                · rename_i xi hx
                  split at h
                  · rename_i e' xs ys0 hX
                    split at h
                    · rename_i xs' hc
                      obtain ⟨hap, hk⟩ := guardb h
                      clear h
                      obtain ⟨e0, e1⟩ := castD_eq hc
                      cases e0
                      have e1 : xs = xs' := e1
                      subst e1
                      exact ⟨_, _, _, hk, (appTree_ok (used := [(xi, .tomb)]) hd ho hcal hargs hats he hb hs hy hY hK (freeT h0) hz1 hz2 (bleT h1) (by have := appOK_iff.mp hap; simpa using this) (.inr ⟨xi, ys0, hx, hX, rfl⟩)).more' (by simp)⟩
                    · cases h
                  · cases h
                · cases h
              · cases h
            · cases h
          · cases h
        · cases h
      · cases h
    · cases h
  · cases h
end
end Go.Abs
end
section
set_option linter.all false
set_option linter.unusedVariables false
set_option linter.unusedSimpArgs false
set_option linter.unnecessarySimpa false
/-
  ABS, part 22: the evaluator's operations are sound.
-/
namespace Go.Abs
open Go
variable {G : Gam}

section
variable {P : Program} {F : Frm} {nt : Nat} {L : LM} {s s0 : St G} {a : Act} {w : World}

theorem buildE_congr {t : TypeId} : ∀ {ps : List (Nat × Operand)} {cs : List (EV G)}, (∀ p ∈ ps, s.ev p.2 = s0.ev p.2) → buildE P s t ps cs = buildE P s0 t ps cs := by
  intro ps
  induction ps with
  | nil => intro _ _; rfl
  | cons p ps ih =>
    intro cs h
    obtain ⟨f, x⟩ := p
    have hx : s.ev x = s0.ev x := h (f, x) (by simp)
    simp only [buildE, hx, ih fun p hp => h p (by simp [hp])]

theorem pureOp_congr {eqs : List Nat} {o : Oper} {v : EV G} (hev : ∀ x ∈ o.op.operands, s.ev x = s0.ev x) (hlk : ∀ i ∈ pureReads s0 o, s.look i = s0.look i) (hp : pureOp P eqs s0 o = some v) : pureOp P eqs s o = some v := by
  have hp' := hp
  unfold pureOp at hp
  split at hp
  · rename_i x ho; unfold pureOp; simp only [ho]; rw [hev x (by simp [ho, Op.operands])]; exact hp
  · rename_i x ho; unfold pureOp; simp only [ho]; rw [hev x (by simp [ho, Op.operands])]; exact hp
  · rename_i c x y ho; unfold pureOp; simp only [ho]; rw [hev c (by simp [ho, Op.operands]), hev x (by simp [ho, Op.operands]), hev y (by simp [ho, Op.operands])]; exact hp
  · rename_i t parts ho
    unfold pureOp; simp only [ho]
    have : ∀ z : List (EV G), buildE P s t parts.toList z = buildE P s0 t parts.toList z := fun z => buildE_congr fun p hp => hev p.2 (by simp [ho, Op.operands]; exact ⟨p.1, by simpa using hp⟩)
    simp only [this]; exact hp
  · rename_i t x f ho; unfold pureOp; simp only [ho]; rw [hev x (by simp [ho, Op.operands])]; exact hp
  · rename_i x i ho; unfold pureOp; simp only [ho]; rw [hev x (by simp [ho, Op.operands])]; exact hp
  · rename_i t x f ho; unfold pureOp; simp only [ho]; rw [hev x (by simp [ho, Op.operands])]; exact hp
  · rename_i t x ho
    unfold pureOp; simp only [ho]; rw [hev x (by simp [ho, Op.operands]), ← hp]
    have hl : ∀ i ∈ (s0.ev x).ids, s.look i = s0.look i := fun i hi => hlk i (by simp only [pureReads, ho]; exact hi)
    cases hx : s0.ev x with
    | ptr i off => rw [hx] at hl; simp only [loadE]; rw [hl i (by simp [EV.ids])]
    | _ => rfl
  · rename_i op _ x ho; unfold pureOp; simp only [ho]; rw [hev x (by simp [ho, Op.operands])]; exact hp
  · rename_i src dst x ho; unfold pureOp; simp only [ho]; rw [hev x (by simp [ho, Op.operands])]; exact hp
  · rename_i x ho; unfold pureOp; simp only [ho]; rw [hev x (by simp [ho, Op.operands])]; exact hp
  · rename_i f first caps ho
    unfold pureOp; simp only [ho]; rw [← hp]
    have : caps.toList.map s.ev = caps.toList.map s0.ev := List.map_congr_left fun x hx => hev x (by simp only [ho, Op.operands, Array.mem_append]; exact .inr (by simpa using hx))
    rw [this]
  · rename_i op t x y _ ho; unfold pureOp; simp only [ho]; rw [hev x (by simp [ho, Op.operands]), hev y (by simp [ho, Op.operands])]; exact hp
  · rename_i args argTypes ho
    unfold pureOp; simp only [ho]; rw [← hp]
    split
    · rename_i x t hx ht
      have hxa : x ∈ args := by have : x ∈ args.toList := by rw [hx]; simp
                                simpa using this
      have hxe := hev x (by simp only [ho, Op.operands, Call.operands]; simpa using hxa)
      have hl : ∀ i ∈ (s0.ev x).ids, s.look i = s0.look i := fun i hi => hlk i (by simp only [pureReads, ho, hx]; exact hi)
      have : lenE s (s0.ev x) = lenE s0 (s0.ev x) := by
        cases hz : s0.ev x with
        | ow i => rw [hz] at hl; simp only [lenE]; rw [hl i (by simp [EV.ids])]
        | d τ x => cases τ <;> rfl
        | _ => rfl
      simp only [hxe, this]
    · rfl
  · rename_i args _ ho
    unfold pureOp; simp only [ho]; rw [← hp]
    have : args.toList.map s.ev = args.toList.map s0.ev := List.map_congr_left fun x hx => hev x (by simp only [ho, Op.operands, Call.operands]; simpa using hx)
    rw [this]
  · rename_i args _ ho
    unfold pureOp; simp only [ho]; rw [← hp]
    have : args.toList.map s.ev = args.toList.map s0.ev := List.map_congr_left fun x hx => hev x (by simp only [ho, Op.operands, Call.operands]; simpa using hx)
    rw [this]
  · cases hp

theorem pure_ok {eqs : List Nat} (heq : ∀ t ∈ eqs, EqOK P t) {o : Oper} (hd : ∀ t, o.dst = some t → t < nt) {v : EV G} (hp : pureOp P eqs s0 o = some v) : OpOK P nt o s0.ev (pureReads s0 o) s0.look v [] := by
  intro F L s a w h hev hlk
  obtain ⟨u, h1, h2, h3⟩ := pure_run heq h (pureOp_congr hev hlk hp)
  exact wp_value h1 (h.fin hd h2 h3)
theorem OpOK.more {o : Oper} {ev : Operand → EV G} {ids ids' : List Nat} {lk : Nat → Option (Ent G)} {v : EV G} {up : List (Nat × Ent G)} (h : OpOK P nt o ev ids lk v up) (hi : ∀ i ∈ ids, i ∈ ids') : OpOK P nt o ev ids' lk v up :=
  fun F L s a w hr hev hlk => h F L s a w hr hev fun i him => hlk i (hi i him)
end

theorem isFree_look {s : St G} {i : Nat} (h : isFree s i = true) : s.look i = none := by
  unfold isFree at h; split at h
  · assumption
  · cases h

theorem bindS {α β : Type} {x : Option α} {f : α → Option β} {r : β} (h : x.bind f = some r) : ∃ y, x = some y ∧ f y = some r := by
  cases x with
  | none => cases h
  | some y => exact ⟨y, rfl, h⟩

section
variable {E : Env G} {R : Type}

theorem baseOf_congr {s s' : St G} {keep : Bool} {e : Ty} {v : EV G} (h : ∀ i ∈ v.ids, s'.look i = s.look i) : baseOf s' keep e v = baseOf s keep e v := by
  cases v <;> first | rfl | (simp only [baseOf]; rw [h _ (by simp [EV.ids])])
theorem rowOfD_congr {s s' : St G} {e : Ty} {v : EV G} (h : ∀ i ∈ v.ids, s'.look i = s.look i) : rowOfD s' e v = rowOfD s e v := by
  cases v <;> first | rfl | (simp only [rowOfD]; rw [h _ (by simp [EV.ids])])

theorem buildRow_sound {s : St G} {e : Ty} : ∀ {xs : List Operand} {k : List (G.D e) → List Nat → Option R} {r : R}, buildRow s e xs k = some r → ∃ ys f, k ys f = some r ∧ ys.length = xs.length ∧
    ∀ (i : Nat) (x : Operand), xs[i]? = some x → ∃ (y : G.D e) (g : List Nat), ys[i]? = some y ∧ asEl s e (s.ev x) = some (y, g) ∧ ∀ j ∈ g, j ∈ f := by
  intro xs
  induction xs with
  | nil => intro k r h; exact ⟨[], [], h, rfl, fun i x hx => by simp at hx⟩
  | cons x xs ih =>
    intro k r h
    simp only [buildRow] at h
    split at h
    · rename_i y f hy
      obtain ⟨ys, g, h1, h2, h3⟩ := ih h
      refine ⟨y :: ys, f ++ g, h1, by simp [h2], fun i z hz => ?_⟩
      cases i with
      | zero => simp at hz; subst hz; exact ⟨y, f, by simp, hy, fun j hj => by simp [hj]⟩
      | succ i =>
        obtain ⟨y', g', q1, q2, q3⟩ := h3 i z (by simpa using hz)
        exact ⟨y', g', by simpa using q1, q2, fun j hj => by simp [q3 j hj]⟩
    · cases h

theorem asLfs_len {s : St G} : ∀ {ts : List Ty} {vs : List (EV G)} {l : List (Lf G.S)} {f : List Nat}, asLfs s ts vs = some (l, f) → vs.length = ts.length ∧ l.map (fun | .mk τ _ => τ) = ts := by
  intro ts
  induction ts with
  | nil =>
    intro vs l f h
    cases vs with
    | nil => simp only [asLfs] at h; cases h; exact ⟨rfl, rfl⟩
    | cons _ _ => cases h
  | cons τ ts ih =>
    intro vs l f h
    cases vs with
    | nil => cases h
    | cons v vs =>
      simp only [asLfs] at h
      split at h
      · split at h
        · rename_i l' g h2
          cases h
          obtain ⟨h3, h4⟩ := ih h2
          exact ⟨by simp [h3], by simp [h4]⟩
        · cases h
      · cases h

theorem storeE_sound {s0 : St G} {o : Oper} (hd : ∀ t, o.dst = some t → t < E.nt) {t n i j off lock : Nat} {x y : Operand} {e : Ty} {xs : List (G.D e)} {k : EV G → List (Nat × Ent G) → List Nat → Option R} {r : R} (ho : o.op = .store t x y)
    (hx : s0.ev x = .ept i j off) (hn : sizeT E.P t = some n) (hi : s0.look i = some (.row e xs lock)) (hlk : lockOK lock j = true)
    (h : (bif Nat.beq off 0 && Nat.beq n (szT G e) then
          match asEl s0 e (s0.ev y) with
          | some (z, f) => bif f.contains i then none else k .un ((i, .row e (xs.set j z) lock) :: frz s0 f) (i :: (f ++ (s0.ev y).ids))
          | none => none
        else match asLfs s0 (((lvT G e).drop off).take n) (s0.ev y).cells with
          | some (l, f) => bif f.contains i || !(Nat.beq l.length n && Nat.ble (off + n) (szT G e)) then none else
            (xs[j]?).bind fun z => (collT G e (splice (cellsT G e z) off l)).bind fun z' => k .un ((i, .row e (xs.set j z') lock) :: frz s0 f) (i :: (f ++ (s0.ev y).ids))
          | none => none) = some r) : ∃ v up rd, k v up rd = some r ∧ OpOK E.P E.nt o s0.ev (rd ++ up.map (·.1)) s0.look v up := by
  have hsz : ∀ e : Ty, (lvT G e).length = szT G e := fun e => by cases e <;> rfl
  cases hc : (Nat.beq off 0 && Nat.beq n (szT G e)) with
  | true =>
    rw [hc] at h
    obtain ⟨h1, h2⟩ := band hc
    have h1 := beqT h1
    have h2 := beqT h2
    subst h1
    simp only [cond_true] at h
    split at h
    · rename_i z f hz
      obtain ⟨hf, h⟩ := guardn h
      have hcl : (s0.ev y).cells.length = n := by
        unfold asEl at hz
        split at hz
        · rename_i l f1 h1; rw [(asLfs_len h1).1, hsz, h2]
        · cases hz
      refine ⟨_, _, _, h, (storeEl_ok (s0.ev y).ids hd ho hn hx hi (lockOK_le hlk) (by omega) hf hcl ?_).more (by simp)⟩
      intro F L s a w hr hev hlk' hj
      have hye : s.ev y = s0.ev y := hev y (by simp [ho, Op.operands])
      have hfz : frz s f = frz s0 f := frz_congr f fun k hk => hlk' k (by simp [hk])
      have hasE : asEl s e (s.ev y) = some (z, f) := by rw [hye, ← hz]; exact asEl_congr fun k hk => hlk' k (by simp [hk])
      obtain ⟨q1, q2⟩ := asEl_sem hr hasE (hr.ev y) (okOf F L (s.upd (frz s0 f))) (by rw [← hfz]; exact keeps_less (frz_owned hr.e f)) (fun i hi e xs n m p1 p2 o r1 r2 => by
        rw [← hfz]; exact frozen_ok hr hi p1 p2 o r1 r2)
      refine ⟨by rw [← hye]; exact q1, q2.oneCell, fun cs hcs => ?_⟩
      have e1 : splice cs 0 (a.eval y).cells.toList = (a.eval y).cells.toList := by
        unfold splice
        rw [List.take_zero, List.nil_append, Nat.zero_add, List.drop_of_length_le (by rw [q2.length, hcs.length]; exact Nat.le_refl _), List.append_nil]
      rw [e1]; exact q2
    · cases h
  | false =>
    rw [hc] at h
    simp only [cond_false] at h
    split at h
    · rename_i l f hl
      obtain ⟨hf, h⟩ := guardn h
      rw [Bool.or_eq_false_iff] at hf
      obtain ⟨hf, hg⟩ := hf
      obtain ⟨hg1, hg2⟩ := band (by simpa using hg : (Nat.beq l.length n && Nat.ble (off + n) (szT G e)) = true)
      have hln := beqT hg1
      have hle := bleT hg2
      obtain ⟨z, hz, h⟩ := bindS h
      obtain ⟨z', hz', h⟩ := bindS h
      obtain ⟨l1, l2⟩ := asLfs_len hl
      have hcl : (s0.ev y).cells.length = n := by rw [l1, ← l2, List.length_map, hln]
      have hleaf : ∀ τ ∈ l.map (fun | .mk τ _ => τ), τ.leaf = true := by
        rw [l2]; intro τ hτ; exact lvT_leaf e τ (List.mem_of_mem_drop (List.mem_of_mem_take hτ))
      refine ⟨_, _, _, h, (storeEl_ok (s0.ev y).ids hd ho hn hx hi (lockOK_le hlk) hle hf hcl ?_).more (by simp)⟩
      intro F L s a w hr hev hlk' hj
      have hye : s.ev y = s0.ev y := hev y (by simp [ho, Op.operands])
      have hfz : frz s f = frz s0 f := frz_congr f fun k hk => hlk' k (by simp [hk])
      have hasL : asLfs s (((lvT G e).drop off).take n) (s.ev y).cells = some (l, f) := by rw [hye, ← hl]; exact asLfs_congr fun k hk => hlk' k (by rw [cells_ids'] at hk; simp [hk])
      have hso : (s.ev y).sound = true := asLfs_sound (e := e) (fun τ hτ => lvT_leaf e τ (List.mem_of_mem_drop (List.mem_of_mem_take hτ))) hasL
      have q2 := asLfs_sem hr (okOf F L (s.upd (frz s0 f))) (by rw [← hfz]; exact keeps_less (frz_owned hr.e f)) hasL ((hr.ev y).cells hso) (fun i hi e xs n m p1 p2 o r1 r2 => by
        rw [← hfz]; exact frozen_ok hr hi p1 p2 o r1 r2)
      refine ⟨by rw [← hye]; exact hso, RepL.oneCell hleaf q2, fun cs hcs => ?_⟩
      rw [List.getElem?_eq_getElem hj] at hz
      have hz := some_inj hz
      subst hz
      exact RepD.ofCells hz' (hcs.cells.splice off q2)
    · cases h

theorem opE_sound (hE : ∀ f T, E.fns f = some T → FnOK E.P f T) (heq : ∀ t ∈ E.eqs, EqOK E.P t) {s0 : St G} {nid : Nat} {o : Oper} (hd : ∀ t, o.dst = some t → t < E.nt) {k : EV G → List (Nat × Ent G) → List Nat → Option R} {r : R}
    (h : opE E s0 nid o k = some r) : ∃ v up rd, k v up rd = some r ∧ OpOK E.P E.nt o s0.ev (rd ++ up.map (·.1)) s0.look v up := by
  unfold opE at h
  split at h
  · rename_i v hp
    exact ⟨v, [], _, h, (pure_ok heq hd hp).more (by simp)⟩
  cases htr : treeOp E s0 nid o with
  | true => rw [htr] at h; exact opT_sound hd h
  | false =>
  rw [htr] at h
  simp only [cond_false] at h
  split at h
  · -- alloc
    rename_i t ho
    split at h
    · rename_i cs hz
      obtain ⟨hg, h⟩ := guardb h
      obtain ⟨h1, h2⟩ := band hg
      exact ⟨_, _, _, h, (alloc_ok hd ho hz h2 s0.look (isFree_look h1) s0.ev).more (by simp)⟩
    · cases h
  · -- box
    rename_i t x ho
    split at h
    · rename_i n hn
      obtain ⟨hg, h⟩ := guardb h
      obtain ⟨hg, h3⟩ := band hg
      obtain ⟨h1, h2⟩ := band hg
      exact ⟨_, _, _, h, (box_ok (n := n) hd ho s0.look (isFree_look h1) s0.ev (sound_of_all (n := n) h2)).more (by simp)⟩
    · cases h
  · -- store
    rename_i t x y ho
    split at h
    · rename_i i off n hx hn
      split at h
      · rename_i cs hi
        obtain ⟨hg, h⟩ := guardb h
        obtain ⟨hg, h3⟩ := band hg
        obtain ⟨h1, h2⟩ := band hg
        exact ⟨_, _, _, h, (storeBox_ok hd ho hn hx hi (beqT h1) (bleT h2) h3).more (by simp)⟩
      · cases h
    · rename_i i j off n hx hn
      split at h
      · rename_i e xs lock hi
        obtain ⟨hlk, h⟩ := guardn h
        exact storeE_sound hd ho hx hn hi (by simpa using hlk) h
      · rename_i e xs cs zc m tt hi
        obtain ⟨hg, h⟩ := guardb h
        obtain ⟨hg, hj⟩ := band hg
        obtain ⟨hg, h3⟩ := band hg
        obtain ⟨h1, h2⟩ := band hg
        exact ⟨_, _, _, h, (storeFill_ok hd ho hn hx hi (beqT hj) (beqT h1) (bleT h2) h3).more (by simp)⟩
      · cases h
    · cases h
  · -- load
    rename_i t x ho
    split at h
    · rename_i i j off n hx hn
      split at h
      · rename_i e xs lock hi
        obtain ⟨z, hz, h⟩ := bindS h
        split at h
        · rename_i v hv
          exact ⟨_, _, _, h, (loadEl_ok hd ho hn hx hi hz hv).more (by simp)⟩
        · cases h
      · rename_i e xs cs zc m tt hi
        obtain ⟨hj, h⟩ := guardb h
        split at h
        · rename_i v hv
          exact ⟨_, _, _, h, (loadFill_ok hd ho hn hx hi (beqT hj) hv).more (by simp)⟩
        · cases h
      · cases h
    · cases h
  · -- indexAddr
    rename_i t x ix ho
    split at h
    · cases h
    rename_i et he
    split at h
    · rename_i kk i hix
      split at h
      · rename_i e xs hx
        obtain ⟨hz, h⟩ := guardb h
        obtain ⟨y, hy, h⟩ := bindS h
        exact ⟨_, _, _, h, (indexData_ok hd ho he (of_decide_eq_true hz) hx hix hy).more (by simp)⟩
      · rename_i id hx
        split at h
        · rename_i e xs lock hrow
          obtain ⟨hz, h⟩ := guardb h
          obtain ⟨hg, h⟩ := guardb h
          obtain ⟨h0, h1⟩ := band hg
          have := indexOwn_ok hd ho he (of_decide_eq_true hz) hrow hix (of_decide_eq_true h0) (lo := 0) (.inl ⟨hx, rfl, of_decide_eq_true h1⟩)
          rw [Nat.zero_add] at this
          exact ⟨_, _, _, h, this.more (by simp)⟩
        · rename_i e xs hrow
          obtain ⟨hz, h⟩ := guardb h
          obtain ⟨y, hy, h⟩ := bindS h
          exact ⟨_, _, _, h, (indexFz_ok (ys := xs) hd ho he (of_decide_eq_true hz) hrow hix (by rw [hx]; simp only [asD, hrow, castD]; rfl) (by rw [hx]; rfl) hy).more (by simp)⟩
        · rename_i e xs cs zc n tt hrow
          obtain ⟨hg, h'⟩ := guardb h
          obtain ⟨hz, hg⟩ := band hg
          obtain ⟨h0, hg⟩ := band hg
          obtain ⟨h1, h2⟩ := band hg
          exact ⟨_, _, _, h', (indexFill_ok hd ho he (of_decide_eq_true hz) hrow hix (of_decide_eq_true h0) (beqT h1) (bleT h2) hx).more (by simp)⟩
        · cases h
      · rename_i id lo n hx
        split at h
        · rename_i e xs lock hrow
          obtain ⟨hz, h⟩ := guardb h
          obtain ⟨hg, h⟩ := guardb h
          obtain ⟨h0, h1⟩ := band hg
          exact ⟨_, _, _, h, (indexOwn_ok hd ho he (of_decide_eq_true hz) hrow hix (of_decide_eq_true h0) (lo := lo) (.inr ⟨n, hx, of_decide_eq_true h1⟩)).more (by simp)⟩
        · rename_i e xs hrow
          obtain ⟨hz, h⟩ := guardb h
          obtain ⟨y, hy, h⟩ := bindS h
          exact ⟨_, _, _, h, (indexFz_ok (ys := (xs.drop lo).take n) hd ho he (of_decide_eq_true hz) hrow hix (by rw [hx]; simp only [asD, hrow, castD]; rfl) (by rw [hx]; rfl) hy).more (by simp)⟩
        · cases h
      · cases h
    · cases h
  · -- index
    rename_i t x ix ho
    split at h
    · rename_i b k' i hx hix hu
      obtain ⟨y, hy, h⟩ := bindS h
      exact ⟨_, _, _, h, (indexStr_ok hd ho hu hx hix hy).more (by simp)⟩
    · cases h
  · -- makeSlice
    rename_i t l c ho
    split at h
    · cases h
    rename_i et he
    split at h
    · rename_i e b z l' c' hty hb hz hl hc
      obtain ⟨hg, h'⟩ := guardb h
      obtain ⟨hg', hb1'⟩ := band hg
      obtain ⟨hfr, hze'⟩ := band hg'
      have hze := beqT hze'
      subst hze
      have hb1 := bleT hb1'
      obtain ⟨hg2, h''⟩ := guardb h'
      obtain ⟨h0, h1, h2⟩ := makeOK_iff.mp hg2
      have hc63 : c' ≤ 9223372036854775807 := by
        have h3 : c' * 1 ≤ c' * (b : Int) := Int.mul_le_mul_of_nonneg_left (by omega) (by omega)
        rw [Int.mul_one] at h3; omega
      cases hfl : E.fills.contains nid with
      | true =>
       simp only [hfl, cond_true] at h''
       split at h''
       · rename_i zc hzc
         obtain ⟨hg4, h3⟩ := guardb h''
         obtain ⟨hg5, hg6⟩ := band hg4
         exact ⟨_, _, _, h3, (makeFill_ok hd ho he hb hz hl hc (isFree_look hfr) h0 h1 h2 hc63 hzc (beqT hg5) (bleT hg6)).more (by simp)⟩
       · cases h''
      | false =>
      simp only [hfl, cond_false] at h''
      split at h''
      · rename_i y hy
        exact ⟨_, _, _, h'', (makeSlice_ok hd ho he hb hz hl hc (isFree_look hfr) h0 h1 h2 hc63 hy).more (by simp)⟩
      · cases h''
    · cases h
  · -- buildSlice
    rename_i t len parts ho
    split at h
    · cases h
    rename_i et he
    split at h
    · rename_i e z hty hz
      obtain ⟨hg, h'⟩ := guardb h
      obtain ⟨hg1, h6⟩ := band hg
      obtain ⟨hg2, h5⟩ := band hg1
      obtain ⟨hg3, h4⟩ := band hg2
      obtain ⟨hg4, h3⟩ := band hg3
      obtain ⟨h1, h2'⟩ := band hg4
      have h2 := beqT h2'
      subst h2
      obtain ⟨ys, f, h'', hys, hel⟩ := buildRow_sound h'
      have hlen := beqT h5
      refine ⟨_, _, _, h'', (buildSlice_ok (f := f) hd ho he hz (isFree_look h1) (bleT h3) h4 hlen (by rw [hys, List.length_map, hlen]) hel ?_ (EV.idss (parts.toList.map fun p => s0.ev p.2) ++ f) ?_ (fun j hj => by simp [hj])).more ?_⟩
      · cases hzc : (zeroCells E.P et : Option (List (EV G))) with
        | some zc => exact .inr ⟨zc, rfl⟩
        | none => rw [hzc] at h6; exact .inl (beqT h6)
      · intro p hp j hj
        refine List.mem_append.mpr (.inl ?_)
        have gen : ∀ l : List (EV G), s0.ev p.2 ∈ l → j ∈ EV.idss l := by
          intro l
          induction l with
          | nil => intro h; cases h
          | cons b l ih =>
            intro h
            simp only [EV.idss, List.mem_append]
            rcases List.mem_cons.mp h with h | h
            · left; rw [← h]; exact hj
            · exact .inr (ih h)
        exact gen _ (List.mem_map.mpr ⟨p, hp, rfl⟩)
      · intro i hi
        simp only [List.mem_cons, List.mem_append, List.map_cons] at hi ⊢
        rcases hi with h | h | h
        · exact .inr (.inl h)
        · exact .inl (.inl h)
        · exact .inl (.inr h)
    · cases h
  · -- slice
    rename_i t x lo hi mx ho
    split at h
    · cases h
    split at h
    · rename_i l hh hl hh'
      split at h
      · rename_i b hx hu
        obtain ⟨hb, h⟩ := guardb h
        exact ⟨_, _, _, h, (sliceStr_ok hd ho hu hx hl hh' hb).more (by simp)⟩
      · rename_i e xs et hx hu
        obtain ⟨hz, h⟩ := guardb h
        obtain ⟨hb, h⟩ := guardb h
        exact ⟨_, _, _, h, (sliceData_ok hd ho hu (of_decide_eq_true hz) hx hl hh' hb).more (by simp)⟩
      · rename_i et hx hu
        obtain ⟨hz, h⟩ := guardb h
        obtain ⟨hb, h⟩ := guardb h
        split at hz
        · rename_i z hz'
          exact ⟨_, _, _, h, (sliceNil_ok hd ho hu hz' hx hl hh' hb).more (by simp)⟩
        · cases hz
      · rename_i id et hx hu
        split at h
        · rename_i e xs lock hrow
          obtain ⟨hz, h⟩ := guardb h
          obtain ⟨hb, h⟩ := guardb h
          have := sliceOwn_ok hd ho hu (of_decide_eq_true hz) hrow (b := 0) (n := xs.length) (.inl ⟨hx, rfl, rfl⟩) hl hh' hb
          rw [Nat.zero_add] at this
          exact ⟨_, _, _, h, this.more (by simp)⟩
        · cases h
      · rename_i id lo' n et hx hu
        split at h
        · rename_i e xs lock hrow
          obtain ⟨hz, h⟩ := guardb h
          obtain ⟨hb, h⟩ := guardb h
          exact ⟨_, _, _, h, (sliceOwn_ok hd ho hu (of_decide_eq_true hz) hrow (b := lo') (n := n) (.inr hx) hl hh' hb).more (by simp)⟩
        · cases h
      · cases h
    · cases h
  · -- binOp
    rename_i op t x y t2 ho
    split at h
    · rename_i kx a ky b hx hy
      split at h
      · obtain ⟨hk', h'⟩ := guardb h
        have hk := of_decide_eq_true hk'
        subst hk
        obtain ⟨hb, h''⟩ := guardn h'
        exact ⟨_, _, _, h'', (div_ok hd ho hx hy (by simpa using hb) (.inl ⟨rfl, rfl⟩)).more (by simp)⟩
      · obtain ⟨hk', h'⟩ := guardb h
        have hk := of_decide_eq_true hk'
        subst hk
        obtain ⟨hb, h''⟩ := guardn h'
        exact ⟨_, _, _, h'', (div_ok hd ho hx hy (by simpa using hb) (.inr ⟨rfl, rfl⟩)).more (by simp)⟩
      · obtain ⟨hb, h⟩ := guardn h
        exact ⟨_, _, _, h, (shift_ok hd ho hx hy (of_decide_eq_false hb) (.inl ⟨rfl, rfl⟩)).more (by simp)⟩
      · obtain ⟨hb, h⟩ := guardn h
        exact ⟨_, _, _, h, (shift_ok hd ho hx hy (of_decide_eq_false hb) (.inr ⟨rfl, rfl⟩)).more (by simp)⟩
      · cases h
    · rename_i a b hx hy
      split at h
      · obtain ⟨hb, h⟩ := guardb h
        exact ⟨_, _, _, h, (cat_ok hd ho hx hy (of_decide_eq_true hb)).more (by simp)⟩
      · cases h
    · cases h
  · -- call
    rename_i c ho
    split at h
    · rename_i f hcal
      split at h
      · rename_i g caps hf
        obtain ⟨v, up, rd, h, ⟨T, hT⟩, hok⟩ := callE_sound hE h
        refine ⟨v, up, rd, h, ?_⟩
        intro F L s a w hr hev hlk
        have hfe : s.ev f = .fn g caps := by rw [hev f (by simp [ho, Op.operands, Call.operands, hcal]), hf]
        have hargs : c.args.toList.map s.ev = c.args.toList.map s0.ev := List.map_congr_left fun x hx => hev x (by simp only [ho, Op.operands, Call.operands, Array.mem_append]; exact .inr (by simpa using hx))
        have hfv := hr.ev f
        rw [hfe] at hfv
        simp only [RepV] at hfv
        obtain ⟨cvs, hav, hcv⟩ := hfv
        obtain ⟨fn, c0, e1, e2, e3⟩ := (hE g T hT).enters
        have hrun : (execOp a.eval o).run E.P w = .ok (.enter g (c.args.map a.eval ++ cvs)) w := by
          have := MuLone.run_callFunc_enter e1 e2 e3 (c.args.map a.eval ++ cvs) w
          simp [execOp, ho, resolve, hcal, Deferred.ofValue, hav, invoke, this]
        unfold Oper.wp
        rw [hrun, Oper.upon_enter]
        have hm := operand_map hr c.args.toList
        rw [hargs] at hm
        refine (hok F L s a w hr hlk (c.args.map a.eval ++ cvs) (by rw [Array.toList_append, Array.toList_map]; exact hm.append hcv) ?_).mono ?_
        · intro j hj
          have hj' : j ∈ EV.idss (c.args.toList.map s0.ev) ∨ j ∈ EV.idss caps := by
            have gen : ∀ l m : List (EV G), j ∈ EV.idss (l ++ m) → j ∈ EV.idss l ∨ j ∈ EV.idss m := by
              intro l m
              induction l with
              | nil => intro h; exact .inr h
              | cons b l ih =>
                intro h
                simp only [List.cons_append, EV.idss, List.mem_append] at h ⊢
                rcases h with h | h
                · exact .inl (.inl h)
                · rcases ih h with h | h
                  · exact .inl (.inr h)
                  · exact .inr h
            exact gen _ _ hj
          rcases hj' with hj | hj
          · rw [← hargs] at hj; exact operand_ids hr _ j hj
          · exact hr.evIds f j (by rw [hfe]; simpa [EV.ids] using hj)
        · rintro e w' ⟨u, L', rfl, q1, q2, q3⟩
          exact ⟨L', q1.put o.dst hd v u q2 q3⟩
      · cases h
    · rename_i hcal
      split at h
      · rename_i x y t t2 ha hta
        split at h
        · cases h
        rename_i et he
        split at h
        · rename_i e b z hty hb hz htt
          have htt := beqT htt
          subst htt
          split at h
          · cases h
          rename_i xs lock used hbase
          split at h
          · cases h
          rename_i ys hrow
          obtain ⟨hg, h⟩ := guardb h
          obtain ⟨hg, h5⟩ := band hg
          obtain ⟨hg, h4⟩ := band hg
          obtain ⟨hg, h3⟩ := band hg
          obtain ⟨h1, h2⟩ := band hg
          obtain ⟨hlim, h⟩ := guardb h
          split at h5
          · rename_i zc hzc
            have hca : c.args = #[x, y] := by cases hc : c.args; rw [hc] at ha; simpa using ha
            have hct : c.argTypes = #[t, t] := by cases hc : c.argTypes; rw [hc] at hta; simpa using hta
            exact ⟨_, _, _, h, (append_ok (args := c.args) (ats := c.argTypes) (res := c.argTypes) hd ho hcal hca hct he hb hz (beqT h2) hbase hrow (isFree_look h1) (bleT h3) hzc (beqT h5) (appOK_iff.mp hlim) (bleT h4)
              (fun s hs => baseOf_congr hs) (fun s hs => rowOfD_congr hs)).more (by
                intro i hi
                simp only [List.mem_cons, List.mem_append, List.map_cons] at hi ⊢
                rcases hi with h | h
                · exact .inr (.inl h)
                · exact .inl h)⟩
          · cases h5
        · cases h
      · cases h
    · cases h
  · cases h
end
end Go.Abs
end
section
set_option linter.all false
set_option linter.unusedVariables false
set_option linter.unusedSimpArgs false
set_option linter.unnecessarySimpa false
/-
  ABS, part 23: regions: operations one after the other, in every order that the edges allow.
-/
namespace Go.Abs
open Go
variable {G : Gam}

def St.Same (s s' : St G) : Prop := (∀ t, s'.get t = s.get t) ∧ ∀ i, s'.look i = s.look i
theorem St.Same.rfl' (s : St G) : St.Same s s := ⟨fun _ => rfl, fun _ => rfl⟩
theorem St.Same.symm {s s' : St G} (h : St.Same s s') : St.Same s' s := ⟨fun t => (h.1 t).symm, fun i => (h.2 i).symm⟩
theorem St.Same.trans {s s' s'' : St G} (h : St.Same s s') (h' : St.Same s' s'') : St.Same s s'' := ⟨fun t => (h'.1 t).trans (h.1 t), fun i => (h'.2 i).trans (h.2 i)⟩
theorem St.Same.ev {s s' : St G} (h : St.Same s s') (x : Operand) : s'.ev x = s.ev x := by cases x <;> first | exact h.1 _ | rfl
theorem St.Same.put {s s' : St G} (h : St.Same s s') (d : Option Nat) (v : EV G) : St.Same (s.put d v) (s'.put d v) := by
  refine ⟨fun t => ?_, fun i => by rw [St.look_put, St.look_put]; exact h.2 i⟩
  cases d with
  | none => exact h.1 t
  | some d => rw [St.get_put, St.get_put]; split <;> first | rfl | exact h.1 t
theorem St.Same.upd {s s' : St G} (h : St.Same s s') (l : List (Nat × Ent G)) : St.Same (s.upd l) (s'.upd l) :=
  ⟨h.1, fun i => by rw [St.look_upd, St.look_upd, h.2 i]⟩

structure Lab (G : Gam) where
  i : Nat
  run : Option (EV G × List (Nat × Ent G))
  rd : List Nat
def Lab.wr (ℓ : Lab G) : List Nat := match ℓ.run with | some (_, up) => up.map (·.1) | none => []
def Lab.ids (ℓ : Lab G) : List Nat := ℓ.rd ++ ℓ.wr
def Lab.T (ops : Array Oper) (ℓ : Lab G) (s : St G) : St G :=
  match ops[ℓ.i]? with
  | none => s
  | some o => match ℓ.run with
    | some (v, up) => (s.upd up).put o.dst v
    | none => s.put o.dst .un

/-- The operation behind an index, and its guard's slot, and what is held there. -/
def Guards (ops : Array Oper) (s : St G) (o : Oper) (run : Bool) : Prop :=
  match o.guard with
  | none => run = true
  | some (j, want) => ∃ oj g, ops[j]? = some oj ∧ oj.dst = some g ∧ (if run = true then s.get g = .d .bool want else s.get g = .un ∨ s.get g = .d .bool (!want))
def Lab.Step (P : Program) (nt : Nat) (ops : Array Oper) (ℓ : Lab G) (s : St G) : Prop :=
  ∃ o, ops[ℓ.i]? = some o ∧ (∀ t, o.dst = some t → t < nt) ∧ Guards ops s o ℓ.run.isSome ∧
    match ℓ.run with
    | some (v, up) => OpOK P nt o s.ev (ℓ.rd ++ up.map (·.1)) s.look v up
    | none => True
def Run (P : Program) (nt : Nat) (ops : Array Oper) : List (Lab G) → St G → St G → Prop
  | [], s, s' => St.Same s s'
  | ℓ :: l, s, s' => ℓ.Step P nt ops s ∧ Run P nt ops l (ℓ.T ops s) s'

section
variable {P : Program} {F : Frm} {nt : Nat} {L : LM} {s s' : St G} {a : Act} {w : World} {ops : Array Oper}

theorem Lab.T_congr (h : St.Same s s') (ℓ : Lab G) : St.Same (ℓ.T ops s) (ℓ.T ops s') := by
  unfold Lab.T
  split
  · exact h
  · split
    · exact (h.upd _).put _ _
    · exact h.put _ _
theorem OpOK.congr {o : Oper} {ev ev' : Operand → EV G} {ids : List Nat} {lk lk' : Nat → Option (Ent G)} {v : EV G} {up : List (Nat × Ent G)} (h : OpOK P nt o ev ids lk v up) (he : ∀ x ∈ o.op.operands, ev' x = ev x) (hl : ∀ i ∈ ids, lk' i = lk i) : OpOK P nt o ev' ids lk' v up :=
  fun F L s a w hr hev hlk => h F L s a w hr (fun x hx => (hev x hx).trans (he x hx)) fun i hi => (hlk i hi).trans (hl i hi)

/-- A step looks at its operands, its guard, its entries. -/
theorem Lab.Step.congr {ℓ : Lab G} (h : ℓ.Step P nt ops s) (hg : ∀ o, ops[ℓ.i]? = some o → ∀ t ∈ o.looksAt ops, s'.get t = s.get t) (hl : ∀ i ∈ ℓ.ids, s'.look i = s.look i) : ℓ.Step P nt ops s' := by
  obtain ⟨o, h1, h2, h3, h4⟩ := h
  have hgo := hg o h1
  refine ⟨o, h1, h2, ?_, ?_⟩
  · unfold Guards at h3 ⊢
    cases hgd : o.guard with
    | none => simp only [hgd] at h3 ⊢; exact h3
    | some jw =>
      obtain ⟨j, want⟩ := jw
      simp only [hgd] at h3 ⊢
      obtain ⟨oj, g, p1, p2, p3⟩ := h3
      refine ⟨oj, g, p1, p2, ?_⟩
      rw [hgo g (by simp [Oper.looksAt, hgd, p1, p2])]; exact p3
  · cases hr : ℓ.run with
    | none => trivial
    | some vu =>
      obtain ⟨v, up⟩ := vu
      simp only [hr] at h4 ⊢
      refine h4.congr (fun x hx => ?_) (fun i hi => hl i (by simpa [Lab.ids, Lab.wr, hr] using hi))
      cases x with
      | tmp t => exact hgo t (List.mem_append_left _ (List.mem_filterMap.2 ⟨.tmp t, by simpa using hx, rfl⟩))
      | const v => rfl
      | func f => rfl
      | global g => rfl
theorem Run.congr : ∀ {l : List (Lab G)} {s s1 s' : St G}, St.Same s s1 → Run P nt ops l s s' → Run P nt ops l s1 s' := by
  intro l
  induction l with
  | nil => intro s s1 s' h hr; exact h.symm.trans hr
  | cons ℓ l ih =>
    intro s s1 s' h hr
    exact ⟨hr.1.congr (fun _ _ t _ => h.1 t) (fun i _ => h.2 i), ih (ℓ.T_congr h) hr.2⟩

theorem Lab.T_get {ℓ : Lab G} {t : Nat} (h : ∀ o, ops[ℓ.i]? = some o → o.dst ≠ some t) : (ℓ.T ops s).get t = s.get t := by
  unfold Lab.T
  split
  · rfl
  · rename_i o ho
    have hn := h o ho
    have key : ∀ (u : St G) (v : EV G), (u.put o.dst v).get t = u.get t := by
      intro u v
      cases hd : o.dst with
      | none => rfl
      | some d => rw [St.get_put, if_neg (fun e => hn (by rw [hd, e]))]
    split <;> rw [key]; rfl
theorem Lab.T_look {ℓ : Lab G} {i : Nat} (h : i ∉ ℓ.wr) : (ℓ.T ops s).look i = s.look i := by
  unfold Lab.T
  split
  · rfl
  · split
    · rename_i v up hr
      rw [St.look_put, St.look_upd, lookT_none (by simpa [Lab.wr, hr] using h)]; rfl
    · rw [St.look_put]

def Free (ops : Array Oper) (ℓ m : Lab G) : Prop :=
  (∃ x y, ops[ℓ.i]? = some x ∧ ops[m.i]? = some y ∧ x.apart ops y = true) ∧ (∀ i ∈ ℓ.wr, i ∉ m.ids) ∧ (∀ i ∈ m.wr, i ∉ ℓ.ids)

theorem swap {ℓ m : Lab G} (hf : Free ops ℓ m) (h1 : ℓ.Step P nt ops s) (h2 : m.Step P nt ops (ℓ.T ops s)) : m.Step P nt ops s ∧ ℓ.Step P nt ops (m.T ops s) ∧ St.Same (m.T ops (ℓ.T ops s)) (ℓ.T ops (m.T ops s)) := by
  obtain ⟨⟨x, y, hx, hy, hap⟩, f1, f2⟩ := hf
  obtain ⟨a1, a2, a3⟩ := Oper.apart_spec hap
  refine ⟨h2.congr (fun o ho t ht => ?_) (fun i hi => ?_), h1.congr (fun o ho t ht => ?_) (fun i hi => ?_), ?_, ?_⟩
  · rw [hy] at ho; cases ho
    exact (Lab.T_get fun o ho hd => by rw [hx] at ho; cases ho; exact a1 t hd ht).symm
  · exact (Lab.T_look fun hw => f1 i hw hi).symm
  · rw [hx] at ho; cases ho
    exact Lab.T_get fun o ho hd => by rw [hy] at ho; cases ho; exact a3 t hd ht
  · exact Lab.T_look fun hw => f2 i hw hi
  · intro t
    by_cases hxt : x.dst = some t
    · have hyt : ∀ o, ops[m.i]? = some o → o.dst ≠ some t := fun o ho => by rw [hy] at ho; cases ho; exact a2 t hxt
      rw [Lab.T_get (ℓ := m) hyt]
      have key : ∀ u : St G, (ℓ.T ops u).get t = match ℓ.run with | some (v, _) => v | none => .un := by
        intro u
        unfold Lab.T
        simp only [hx]
        split <;> rename_i hr <;> (rw [hxt, St.get_put, if_pos rfl])
      rw [key, key]
    · have hxt' : ∀ o, ops[ℓ.i]? = some o → o.dst ≠ some t := fun o ho => by rw [hx] at ho; cases ho; exact hxt
      rw [Lab.T_get (ℓ := ℓ) hxt']
      by_cases hyt : y.dst = some t
      · have key : ∀ u : St G, (m.T ops u).get t = match m.run with | some (v, _) => v | none => .un := by
          intro u
          unfold Lab.T
          simp only [hy]
          split <;> rename_i hr <;> (rw [hyt, St.get_put, if_pos rfl])
        rw [key, key]
      · have hyt' : ∀ o, ops[m.i]? = some o → o.dst ≠ some t := fun o ho => by rw [hy] at ho; cases ho; exact hyt
        rw [Lab.T_get hyt', Lab.T_get hyt', Lab.T_get hxt']
  · intro i
    by_cases hxi : i ∈ ℓ.wr
    · have hmi : i ∉ m.wr := fun hw => f1 i hxi (by simp [Lab.ids, hw])
      rw [Lab.T_look (ℓ := m) hmi]
      have key : ∀ u : St G, (ℓ.T ops u).look i = match ℓ.run with | some (_, up) => (lookT up i).or (u.look i) | none => u.look i := by
        intro u
        unfold Lab.T
        simp only [hx]
        split <;> rename_i hr
        · rw [St.look_put, St.look_upd]
        · rw [St.look_put]
      rw [key, key, Lab.T_look hmi]
    · rw [Lab.T_look (ℓ := ℓ) hxi]
      have key : ∀ u : St G, (m.T ops u).look i = match m.run with | some (_, up) => (lookT up i).or (u.look i) | none => u.look i := by
        intro u
        unfold Lab.T
        simp only [hy]
        split <;> rename_i hr
        · rw [St.look_put, St.look_upd]
        · rw [St.look_put]
      rw [key, key, Lab.T_look hxi]

/-- What nothing before it bears upon may come first. -/
theorem Run.front : ∀ {l1 : List (Lab G)} {ℓ : Lab G} {l2 : List (Lab G)} {s s' : St G}, (∀ m ∈ l1, Free ops m ℓ) → Run P nt ops (l1 ++ ℓ :: l2) s s' → ℓ.Step P nt ops s ∧ Run P nt ops (l1 ++ l2) (ℓ.T ops s) s' := by
  intro l1
  induction l1 with
  | nil => intro ℓ l2 s s' _ h; exact h
  | cons m l1 ih =>
    intro ℓ l2 s s' hf h
    obtain ⟨h1, h2⟩ := ih (fun x hx => hf x (by simp [hx])) h.2
    obtain ⟨q1, q2, q3⟩ := swap (hf m (by simp)) h.1 h1
    exact ⟨q1, q2, h2.congr q3⟩

/-! ### running -/
theorem undef_bool (b : Bool) : undef ≠ Value.bool b := by intro h; cases h

theorem yielded_of (h : Rel F nt L s a w) {j g : Nat} {oj : Oper} (h1 : ops[j]? = some oj) (h2 : oj.dst = some g) {v : EV G} (hv : s.get g = v) :
    (∀ c, v = .d .bool c → yielded ops a.tmps j = some c) ∧ (v = .un → yielded ops a.tmps j = none) := by
  have ht := h.tm g
  rw [hv] at ht
  unfold yielded
  simp only [h1, h2, Option.bind_some]
  constructor
  · rintro c rfl
    simp only [RepV] at ht
    have hb := ht.2.inv
    have hb : a.tmps.getD g undef = .bool c := by simpa [RepD.Inv] using hb
    rw [Array.getD_eq_getD_getElem?] at hb
    cases hx : a.tmps[g]? with
    | none => rw [hx] at hb; exact absurd hb (undef_bool c)
    | some x => rw [hx] at hb; simp at hb; subst hb; rfl
  · rintro rfl
    simp only [RepV] at ht
    rw [Array.getD_eq_getD_getElem?] at ht
    cases hx : a.tmps[g]? with
    | none => rfl
    | some x => rw [hx] at ht; simp at ht; subst ht; rfl

theorem Lab.exec {ℓ : Lab G} (h : Rel F nt L s a w) (hs : ℓ.Step P nt ops s) {Q : Exit → Act → World → Prop} {K : Act → World → Prop} (hK : ∀ L' a' w', Rel F nt L' (ℓ.T ops s) a' w' → K a' w') : wpOp P ops Q ℓ.i K a w := by
  obtain ⟨o, h1, h2, h3, h4⟩ := hs
  unfold wpOp
  simp only [h1]
  cases hr : ℓ.run with
  | some vu =>
    obtain ⟨v, up⟩ := vu
    simp only [hr] at h4
    rw [hr] at h3
    have hw : Region.wanted o (yielded ops a.tmps) = true := by
      unfold Region.wanted
      unfold Guards at h3
      cases hg : o.guard with
      | none => rfl
      | some jw =>
        obtain ⟨j, want⟩ := jw
        simp only [hg] at h3 ⊢
        obtain ⟨oj, g, p1, p2, p3⟩ := h3
        simp only [Option.isSome_some, if_true] at p3
        have e : yielded ops a.tmps j = some (want : Bool) := (yielded_of h p1 p2 p3).1 want rfl
        rw [e]; cases want <;> rfl
    simp only [hw, if_true]
    refine .inl ?_
    have := h4 F L s a w h (fun _ _ => rfl) (fun _ _ => rfl)
    have hT : ℓ.T ops s = (s.upd up).put o.dst v := by unfold Lab.T; simp only [h1, hr]
    unfold Oper.wp at this ⊢
    generalize (execOp a.eval o).run P w = r at *
    cases r with
    | ok n w' =>
      cases n <;> simp only [Oper.upon] at this ⊢ <;>
        first
          | (obtain ⟨L', hL⟩ := this; exact hK L' _ _ (by rw [hT]; exact hL))
          | exact Calls.mono this (fun e w'' he => by cases e <;> first | (obtain ⟨L', hL⟩ := he; exact hK L' _ _ (by rw [hT]; exact hL)) | exact he.elim | (obtain ⟨_, _, he⟩ := he; exact he.elim))
          | exact Rows.mono this (fun _ _ he => by obtain ⟨L', hL⟩ := he; exact hK L' _ _ (by rw [hT]; exact hL))
    | halt x w' => cases x <;> simp only [Oper.upon] at this
  | none =>
    rw [hr] at h3
    have hw : Region.wanted o (yielded ops a.tmps) = false := by
      unfold Region.wanted
      unfold Guards at h3
      cases hg : o.guard with
      | none => simp only [hg] at h3; cases h3
      | some jw =>
        obtain ⟨j, want⟩ := jw
        simp only [hg] at h3 ⊢
        obtain ⟨oj, g, p1, p2, p3⟩ := h3
        simp only [Option.isSome_none, Bool.false_eq_true, if_false] at p3
        rcases p3 with p3 | p3
        · have e : yielded ops a.tmps j = none := (yielded_of h p1 p2 p3).2 rfl
          rw [e]; rfl
        · have e : yielded ops a.tmps j = some (!want : Bool) := (yielded_of h p1 p2 p3).1 _ rfl
          rw [e]; cases want <;> rfl
    simp only [hw, Bool.false_eq_true, if_false]
    refine hK L _ w ?_
    have hT : ℓ.T ops s = s.put o.dst .un := by unfold Lab.T; simp only [h1, hr]
    rw [hT]
    exact h.put o.dst h2 .un undef (by simp only [RepV]) (by simp [EV.ids])

theorem Rel.same (h : Rel F nt L s a w) (hs : St.Same s s') : Rel F nt L s' a w := h.ext hs.1 hs.2

/-- One order: as they stand. -/
theorem Run.inOrder {Q : Exit → Act → World → Prop} : ∀ {l : List (Lab G)} {s s' : St G} {L : LM} {a : Act} {w : World}, Run P nt ops l s s' → Rel F nt L s a w → (∀ L' a' w', Rel F nt L' s' a' w' → Q .normal a' w') → wpOps P ops Q (l.map (·.i)) a w := by
  intro l
  induction l with
  | nil => intro s s' L a w hr h hQ; exact hQ L a w (h.same hr)
  | cons ℓ l ih =>
    intro s s' L a w hr h hQ
    rw [List.map_cons, wpOps_cons]
    exact Lab.exec h hr.1 fun L' a' w' h' => ih hr.2 h' hQ
end
end Go.Abs
end
section
set_option linter.all false
set_option linter.unusedVariables false
set_option linter.unusedSimpArgs false
set_option linter.unnecessarySimpa false
/-
  ABS, part 24: regions whose order is drawn.
-/
namespace Go.Abs
open Go
variable {G : Gam}

theorem forceN_eq {α : Type} (n : Nat) (k : Nat → α) : forceN n k = k n := by cases n <;> rfl

theorem preOf_spec (acc : List Nat) : ∀ (es : List Edge) (i : Nat), (preOf acc es).testBit i = true → ∃ e ∈ es, Region.binds .any e = true ∧ (e.on = i ∨ ∃ m, acc[e.on]? = some m ∧ m.testBit i = true) := by
  intro es
  induction es with
  | nil => intro i h; simp [preOf] at h
  | cons e es ih =>
    intro i h
    simp only [preOf] at h
    cases hb : Region.binds .any e with
    | false =>
      rw [hb] at h
      obtain ⟨e', h1, h2⟩ := ih i h
      exact ⟨e', by simp [h1], h2⟩
    | true =>
      rw [hb] at h
      simp only [cond_true, Nat.testBit_or, Bool.or_eq_true] at h
      rcases h with (h | h) | h
      · rw [Nat.testBit_two_pow] at h
        exact ⟨e, by simp, hb, .inl (by simpa using h)⟩
      · refine ⟨e, by simp, hb, .inr ?_⟩
        split at h
        · rename_i n hn; exact ⟨n, hn, h⟩
        · simp at h
      · obtain ⟨e', h1, h2⟩ := ih i h
        exact ⟨e', by simp [h1], h2⟩

theorem preds_spec : ∀ (l : List Oper) (acc : List Nat), ∃ tail, preds l acc = acc ++ tail ∧ tail.length = l.length ∧
    ∀ (p : Nat) (o : Oper) (n : Nat), l[p]? = some o → tail[p]? = some n → ∀ i, n.testBit i = true → ∃ e ∈ o.after.toList, Region.binds .any e = true ∧ (e.on = i ∨ ∃ m, (preds l acc)[e.on]? = some m ∧ m.testBit i = true) := by
  intro l
  induction l with
  | nil => intro acc; exact ⟨[], by simp [preds], rfl, fun p o n h => by simp at h⟩
  | cons o l ih =>
    intro acc
    obtain ⟨tail, h1, h2, h3⟩ := ih (acc ++ [preOf acc o.after.toList])
    have he : preds (o :: l) acc = preds l (acc ++ [preOf acc o.after.toList]) := by simp only [preds, forceN_eq]
    refine ⟨preOf acc o.after.toList :: tail, by rw [he, h1]; simp, by simp [h2], fun p q n hp hn i hi => ?_⟩
    cases p with
    | zero =>
      simp at hp hn
      subst hp; subst hn
      obtain ⟨e, q1, q2, q3⟩ := preOf_spec acc _ i hi
      refine ⟨e, q1, q2, q3.imp (fun h => h) fun ⟨m, hm, hb⟩ => ⟨m, ?_, hb⟩⟩
      have hlt : e.on < acc.length := by
        rcases Nat.lt_or_ge e.on acc.length with h | h
        · exact h
        · rw [List.getElem?_eq_none h] at hm; cases hm
      rw [he, h1, List.append_assoc, List.getElem?_append_left hlt]; exact hm
    | succ p =>
      obtain ⟨e, q1, q2, q3⟩ := h3 p q n (by simpa using hp) (by simpa using hn) i hi
      exact ⟨e, q1, q2, by rw [he]; exact q3⟩

theorem backOK_spec : ∀ (l : List Oper) (j : Nat), backOK j l = true → ∀ (p : Nat) (o : Oper), l[p]? = some o → ∀ e ∈ o.after.toList, Region.binds .any e = true → e.on < j + p := by
  intro l
  induction l with
  | nil => intro j _ p o h; simp at h
  | cons x l ih =>
    intro j h p o hp e he hbn
    simp only [backOK, Bool.and_eq_true] at h
    cases p with
    | zero =>
      simp at hp; subst hp
      have := List.all_eq_true.mp h.1 e he
      rw [hbn] at this
      have := Nat.le_of_ble_eq_true this
      omega
    | succ p =>
      have := ih (j + 1) h.2 p o (by simpa using hp) e he hbn
      omega

section
variable {P : Program} {F : Frm} {nt : Nat} {ops : Array Oper}

theorem mem_ready {listed : Array Bool} {i : Nat} (h : i ∈ Region.ready .any ops listed) : i < ops.size ∧ listed.getD i true = false ∧ ∃ o, ops[i]? = some o ∧ ∀ e ∈ o.after.toList, Region.binds .any e = true → listed.getD e.on false = true := by
  unfold Region.ready at h
  rw [List.mem_filter] at h
  obtain ⟨h1, h2⟩ := h
  have h1 : i < ops.size := by simpa using h1
  rw [Bool.and_eq_true] at h2
  obtain ⟨h2, h3⟩ := h2
  refine ⟨h1, by simpa using h2, ops[i], by simp [h1], fun e he hb => ?_⟩
  have h4 : ops[i]? = some ops[i] := by simp [h1]
  rw [h4] at h3
  simp only [Option.map_some, Option.getD_some, Array.all_eq_true_iff_forall_mem] at h3
  have := h3 e (by simpa using he)
  rw [hb] at this
  simpa using this

theorem ready_mem {listed : Array Bool} {i : Nat} (h1 : i < ops.size) (h2 : listed.getD i true = false) (h3 : ∀ o, ops[i]? = some o → ∀ e ∈ o.after.toList, Region.binds .any e = true → listed.getD e.on false = true) : i ∈ Region.ready .any ops listed := by
  unfold Region.ready
  rw [List.mem_filter]
  refine ⟨by simpa using h1, ?_⟩
  have h4 : ops[i]? = some ops[i] := by simp [h1]
  rw [h2, h4]
  simp only [Bool.not_false, Bool.true_and, Option.map_some, Option.getD_some, Array.all_eq_true_iff_forall_mem]
  intro e he
  cases hb : Region.binds .any e with
  | false => rfl
  | true => rw [h3 _ h4 e (by simpa using he) hb]; rfl

theorem getD_set {l : Array Bool} {i j : Nat} {d : Bool} (hi : i < l.size) : (l.setIfInBounds i true).getD j d = if i = j then true else l.getD j d := by
  simp only [Array.getD_eq_getD_getElem?, Array.getElem?_setIfInBounds]
  by_cases h : i = j
  · subst h; simp [hi]
  · simp [h]
theorem getD_lt {l : Array Bool} {j : Nat} (h : j < l.size) (d d' : Bool) : l.getD j d = l.getD j d' := by
  simp [Array.getD_eq_getD_getElem?, h]

theorem run_any {Q : Exit → Act → World → Prop} (hback : backOK 0 ops.toList = true) {s' : St G} (hQ : ∀ L' a' w', Rel F nt L' s' a' w' → Q .normal a' w') :
    ∀ (fuel : Nat) (l : List (Lab G)) (listed : Array Bool) (s : St G) (L : LM) (a : Act) (w : World), Run P nt ops l s s' → Rel F nt L s a w → l.length = fuel → listed.size = ops.size →
      (∀ i, i < ops.size → (listed.getD i true = false ↔ ∃ ℓ ∈ l, ℓ.i = i)) → (∀ ℓ ∈ l, ℓ.i < ops.size) → l.Pairwise (fun m ℓ => m.i < ℓ.i) →
      l.Pairwise (fun m ℓ => (∃ n, (preds ops.toList [])[ℓ.i]? = some n ∧ n.testBit m.i = true) ∨ Free ops m ℓ) →
      (∀ p n i, listed.getD p false = true → (preds ops.toList [])[p]? = some n → n.testBit i = true → listed.getD i true = true) →
      wpAny P .any ops Q fuel listed a w := by
  obtain ⟨tail, t1, t2, t3⟩ := preds_spec ops.toList []
  simp only [List.nil_append] at t1
  have bits : ∀ {listed : Array Bool} {p : Nat} {o : Oper}, ops[p]? = some o → (∀ e ∈ o.after.toList, Region.binds .any e = true → listed.getD e.on false = true) →
      (∀ p n i, listed.getD p false = true → (preds ops.toList [])[p]? = some n → n.testBit i = true → listed.getD i true = true) → ∀ n i, (preds ops.toList [])[p]? = some n → n.testBit i = true → listed.getD i true = true := by
    intro listed p o ho hr hc n i hn hi
    rw [t1] at hn
    obtain ⟨e, e1, e2, e3⟩ := t3 p o n (by simpa using ho) hn i hi
    have he := hr e e1 e2
    rcases e3 with rfl | ⟨m, hm, hb⟩
    · rcases Nat.lt_or_ge e.on listed.size with h | h
      · rw [getD_lt h true false]; exact he
      · simp [Array.getD_eq_getD_getElem?, Array.getElem?_eq_none h]
    · exact hc e.on m i he hm hb
  intro fuel
  induction fuel with
  | zero =>
    intro l listed s L a w hr h hl hls hun hlt hso hp hcl
    have hl0 : l = [] := List.length_eq_zero_iff.mp hl
    subst hl0
    refine ⟨?_, hQ L a w (h.same hr)⟩
    rw [List.eq_nil_iff_forall_not_mem]
    intro i hi
    obtain ⟨q1, q2, _⟩ := mem_ready hi
    obtain ⟨ℓ, hm, _⟩ := (hun i q1).mp q2
    cases hm
  | succ fuel ih =>
    intro l listed s L a w hr h hl hls hun hlt hso hp hcl
    refine ⟨fun hnil => ?_, fun i hi => ?_⟩
    · cases l with
      | nil => simp at hl
      | cons ℓ l =>
        exfalso
        have : ℓ.i ∈ Region.ready .any ops listed := by
          refine ready_mem (hlt ℓ (by simp)) ((hun _ (hlt ℓ (by simp))).mpr ⟨ℓ, by simp, rfl⟩) fun o ho e he hbn => ?_
          have hb := backOK_spec ops.toList 0 hback ℓ.i o (by simpa using ho) e he hbn
          have hes : e.on < ops.size := by have := hlt ℓ (by simp); omega
          rw [getD_lt (by omega) false true]
          cases hx : listed.getD e.on true with
          | true => rfl
          | false =>
            obtain ⟨m, hm, hmi⟩ := (hun e.on hes).mp hx
            rcases List.mem_cons.mp hm with rfl | hm
            · omega
            · have := (List.pairwise_cons.mp hso).1 m hm
              omega
        rw [hnil] at this; cases this
    · obtain ⟨q1, q2, o, q3, q4⟩ := mem_ready hi
      obtain ⟨ℓ, hm, hli⟩ := (hun i q1).mp q2
      obtain ⟨l1, l2, rfl⟩ := List.append_of_mem hm
      have hso' := List.pairwise_append.mp hso
      have hp' := List.pairwise_append.mp hp
      have hfree : ∀ m ∈ l1, Free ops m ℓ := by
        intro m hml
        rcases hp'.2.2 m hml ℓ (by simp) with ⟨n, hn, hb⟩ | hf
        · exfalso
          rw [hli] at hn
          have h1 := bits q3 q4 hcl n m.i hn hb
          have h2 := (hun m.i (hlt m (by simp [hml]))).mpr ⟨m, by simp [hml], rfl⟩
          rw [h1] at h2; cases h2
        · exact hf
      obtain ⟨r1, r2⟩ := hr.front hfree
      rw [← hli]
      refine Lab.exec h r1 fun L' a' w' h' => ?_
      have hbnd : ℓ.i < listed.size := by rw [hls, hli]; exact q1
      refine ih (l1 ++ l2) _ _ L' a' w' r2 h' (by simp at hl ⊢; omega) (by simp [hls]) ?_ (fun m hm => hlt m (by simp at hm ⊢; rcases hm with h | h <;> simp [h])) ?_ ?_ ?_
      · intro j hj
        rw [getD_set hbnd]
        by_cases hij : ℓ.i = j
        · rw [if_pos hij]
          constructor
          · intro h; cases h
          · rintro ⟨m, hm, hmj⟩
            exfalso
            rcases List.mem_append.mp hm with hm | hm
            · have := hso'.2.2 m hm ℓ (by simp); omega
            · have := (List.pairwise_cons.mp hso'.2.1).1 m hm; omega
        · rw [if_neg hij, hun j hj]
          constructor
          · rintro ⟨m, hm, hmj⟩
            refine ⟨m, ?_, hmj⟩
            simp at hm ⊢
            rcases hm with h | h | h
            · exact .inl h
            · subst h; exact absurd hmj hij
            · exact .inr h
          · rintro ⟨m, hm, hmj⟩
            exact ⟨m, by simp at hm ⊢; rcases hm with h | h <;> simp [h], hmj⟩
      · exact hso.sublist (by simp)
      · exact hp.sublist (by simp)
      · intro p n j hlp hn hb
        rw [getD_set hbnd] at hlp ⊢
        by_cases hij : ℓ.i = j
        · rw [if_pos hij]
        · rw [if_neg hij]
          by_cases hp2 : ℓ.i = p
          · subst hp2
            rw [hli] at hn
            exact bits q3 q4 hcl n j hn hb
          · rw [if_neg hp2] at hlp
            exact hcl p n j hlp hn hb
end
end Go.Abs
end
section
set_option linter.all false
set_option linter.unusedVariables false
set_option linter.unusedSimpArgs false
set_option linter.unnecessarySimpa false
/-
  ABS, part 25: the evaluator's regions are sound.
-/
namespace Go.Abs
open Go
variable {G : Gam}

def Lab.tr (ℓ : Lab G) : Nat × List Nat × List Nat := (ℓ.i, ℓ.rd, ℓ.wr)

theorem same_put {s : St G} {g : Nat} {v : EV G} (h : s.get g = v) : St.Same s (s.put (some g) v) := by
  refine ⟨fun t => ?_, fun i => St.look_put _ _ _ _⟩
  rw [St.get_put]; split
  · rename_i e; subst e; exact h.symm
  · rfl

section
variable {E : Env G} {ops : Array Oper}

theorem okDst_lt {o : Oper} (h : okDst E o = true) : ∀ t, o.dst = some t → t < E.nt := by
  intro t ht
  unfold okDst at h
  rw [ht] at h
  exact Nat.le_of_ble_eq_true h

theorem T_run {ℓ : Lab G} {s : St G} {o : Oper} {v : EV G} {up : List (Nat × Ent G)} (ho : ops[ℓ.i]? = some o) (hr : ℓ.run = some (v, up)) : ℓ.T ops s = (s.upd up).put o.dst v := by
  unfold Lab.T; simp only [ho, hr]
theorem T_skip {ℓ : Lab G} {s : St G} {o : Oper} (ho : ops[ℓ.i]? = some o) (hr : ℓ.run = none) : ℓ.T ops s = s.put o.dst .un := by
  unfold Lab.T; simp only [ho, hr]

theorem opsE_sound {R : Type} (hE : ∀ f T, E.fns f = some T → FnOK E.P f T) (heq : ∀ t ∈ E.eqs, EqOK E.P t) {rid : Nat} {k : St G → Tr → Option R} {r : R} : ∀ (l : List Nat) (s : St G) (tr : Tr), (∀ i ∈ l, i < ops.size) → opsE E rid ops l s tr k = some r →
    ∃ (labs : List (Lab G)) (s' : St G), labs.map (·.i) = l ∧ Run E.P E.nt ops labs s s' ∧ k s' ((labs.map Lab.tr).reverse ++ tr) = some r := by
  intro l
  induction l with
  | nil => intro s tr _ h; exact ⟨[], s, rfl, St.Same.rfl' s, h⟩
  | cons i rest ih =>
    intro s tr hlt h
    have hi : i < ops.size := hlt i (by simp)
    have ho : ops[i]? = some ops[i] := by simp [hi]
    have hrest : ∀ j ∈ rest, j < ops.size := fun j hj => hlt j (by simp [hj])
    simp only [opsE, ho] at h
    obtain ⟨hd', h⟩ := guardn h
    have hd := okDst_lt (E := E) (o := ops[i]) (by simpa using hd')
    generalize hoo : ops[i] = o at *
    -- an operation that runs
    have runs : ∀ s1 : St G, St.Same s s1 → Guards ops s1 o true → opE E s1 ((rid * 1000 + i + 1) * 1000) o (fun v up rd => opsE E rid ops rest ((s1.upd up).put o.dst v) ((i, rd, up.map (·.1)) :: tr) k) = some r →
        ∃ (labs : List (Lab G)) (s' : St G), labs.map (·.i) = i :: rest ∧ Run E.P E.nt ops labs s s' ∧ k s' ((labs.map Lab.tr).reverse ++ tr) = some r := by
      intro s1 hsame hg h
      obtain ⟨v, up, rd, h, hok⟩ := opE_sound hE heq hd h
      obtain ⟨labs, s', q1, q2, q3⟩ := ih _ _ hrest h
      refine ⟨⟨i, some (v, up), rd⟩ :: labs, s', by simp [q1], Run.congr hsame.symm ⟨⟨o, ho, hd, hg, hok⟩, ?_⟩, ?_⟩
      · rw [T_run (ℓ := ⟨i, some (v, up), rd⟩) ho rfl]; exact q2
      · simpa [Lab.tr, Lab.wr] using q3
    have skips : ∀ s1 : St G, St.Same s s1 → Guards ops s1 o false → opsE E rid ops rest (s1.put o.dst .un) ((i, [], []) :: tr) k = some r →
        ∃ (labs : List (Lab G)) (s' : St G), labs.map (·.i) = i :: rest ∧ Run E.P E.nt ops labs s s' ∧ k s' ((labs.map Lab.tr).reverse ++ tr) = some r := by
      intro s1 hsame hg h
      obtain ⟨labs, s', q1, q2, q3⟩ := ih _ _ hrest h
      refine ⟨⟨i, none, []⟩ :: labs, s', by simp [q1], Run.congr hsame.symm ⟨⟨o, ho, hd, hg, trivial⟩, ?_⟩, ?_⟩
      · rw [T_skip (ℓ := ⟨i, none, []⟩) ho rfl]; exact q2
      · simpa [Lab.tr, Lab.wr] using q3
    split at h
    · rename_i hg
      exact runs s (St.Same.rfl' s) (by unfold Guards; simp only [hg]) h
    · rename_i j want hg
      split at h
      · rename_i oj hj
        split at h
        · rename_i g hgd
          split at h
          · rename_i hs
            exact skips s (St.Same.rfl' s) (by unfold Guards; simp only [hg]; exact ⟨oj, g, hj, hgd, by simp [hs]⟩) h
          · rename_i c hs
            have getp : ∀ b : Bool, (s.put (some g) (.d .bool b)).get g = .d .bool b := fun b => by rw [St.get_put, if_pos rfl]
            cases c with
            | true =>
              cases want with
              | true => exact runs _ (same_put hs) (by unfold Guards; simp only [hg]; exact ⟨oj, g, hj, hgd, by simp [getp]⟩) h
              | false => exact skips _ (same_put hs) (by unfold Guards; simp only [hg]; exact ⟨oj, g, hj, hgd, by simp [getp]⟩) h
            | false =>
              cases want with
              | true => exact skips _ (same_put hs) (by unfold Guards; simp only [hg]; exact ⟨oj, g, hj, hgd, by simp [getp]⟩) h
              | false => exact runs _ (same_put hs) (by unfold Guards; simp only [hg]; exact ⟨oj, g, hj, hgd, by simp [getp]⟩) h
          · cases h
        · cases h
      · cases h

/-! ### the pure ones -/
/-- What the second says of the world, the first says. -/
def Weak (s s' : St G) : Prop := (∀ i, s'.look i = s.look i) ∧ ∀ t, (∀ (ok : Cells) (w : World) (L : LM) (v : Value), RepV ok w L (s.get t) v → RepV ok w L (s'.get t) v) ∧ ∀ j ∈ (s'.get t).ids, j ∈ (s.get t).ids
theorem Weak.rfl' (s : St G) : Weak s s := ⟨fun _ => rfl, fun _ => ⟨fun _ _ _ _ h => h, fun _ h => h⟩⟩
theorem Weak.trans {s s' s'' : St G} (h : Weak s s') (h' : Weak s' s'') : Weak s s'' :=
  ⟨fun i => (h'.1 i).trans (h.1 i), fun t => ⟨fun ok w L v hv => (h'.2 t).1 ok w L v ((h.2 t).1 ok w L v hv), fun j hj => (h.2 t).2 j ((h'.2 t).2 j hj)⟩⟩
theorem Rel.weak {F : Frm} {nt : Nat} {L : LM} {s s' : St G} {a : Act} {w : World} (h : Rel F nt L s a w) (hw : Weak s s') : Rel F nt L s' a w := by
  have ho : okOf F L s' = okOf F L s := by funext b o; simp only [okOf, owned, hw.1]
  refine ⟨⟨h.e.fits, ?_, ?_, ?_, ?_, fun i hi => by rw [hw.1]; exact h.e.lent i hi⟩, ?_, ?_, h.defers, h.size⟩
  · intro i e hi; rw [ho]; rw [hw.1] at hi; exact h.e.en i e hi
  · intro i e hi j hj; rw [hw.1] at *; exact h.e.ids i e hi j hj
  · intro i j e f l m hi hj; rw [hw.1] at hi hj; exact h.e.dis i j e f l m hi hj
  · intro i e l hi; rw [hw.1] at hi; exact h.e.own i e l hi
  · intro t; rw [ho]; exact (hw.2 t).1 _ _ _ _ (h.tm t)
  · intro t j hj; rw [hw.1]; exact h.tids t j ((hw.2 t).2 j hj)

theorem pickE_true (x y : EV G) : (∀ (ok : Cells) (w : World) (L : LM) (v : Value), RepV ok w L x v → RepV ok w L (pickE true x y) v) ∧ ∀ j ∈ (pickE true x y).ids, j ∈ x.ids := by
  unfold pickE
  split
  · split
    · exact ⟨fun _ _ _ _ h => h, fun _ h => h⟩
    · exact ⟨fun _ _ _ _ h => h, fun _ h => h⟩
  · exact ⟨fun _ _ _ _ h => h, fun _ h => h⟩
theorem pickE_false (x y : EV G) : (∀ (ok : Cells) (w : World) (L : LM) (v : Value), RepV ok w L y v → RepV ok w L (pickE false x y) v) ∧ ∀ j ∈ (pickE false x y).ids, j ∈ y.ids := by
  unfold pickE
  split
  · split
    · rename_i z hz
      obtain ⟨e, he⟩ := castD_eq hz
      subst e
      have he : _ = z := he
      subst he
      exact ⟨fun _ _ _ _ h => h, fun _ h => h⟩
    · exact ⟨fun _ _ _ _ h => h, fun _ h => h⟩
  · exact ⟨fun _ _ _ _ h => h, fun _ h => h⟩

theorem mergeTm_look (c : Bool) (s1 s2 : St G) (base : List (Nat × EV G)) : ∀ (l : List Nat) (t : Nat), lookT (mergeTm c s1 s2 base l) t = if t ∈ l then some (pickE c (s1.get t) (s2.get t)) else lookT base t := by
  intro l
  induction l with
  | nil => intro t; simp [mergeTm]
  | cons d l ih =>
    intro t
    simp only [mergeTm, lookT_cons, ih, List.mem_cons]
    by_cases h : d = t
    · subst h; simp
    · simp [h, Ne.symm h]

abbrev dsts (ops : Array Oper) : List Nat := ops.toList.filterMap (·.dst)
theorem mem_dsts {i d : Nat} {o : Oper} (ho : ops[i]? = some o) (hd : o.dst = some d) : d ∈ dsts ops := by
  refine List.mem_filterMap.mpr ⟨o, ?_, hd⟩
  exact List.mem_of_getElem? (i := i) (by simpa using ho)
def Keeps' (ops : Array Oper) (s s' : St G) : Prop := (∀ i, s'.look i = s.look i) ∧ ∀ t, t ∉ dsts ops → s'.get t = s.get t
theorem keeps_put {s s' : St G} {i : Nat} {o : Oper} (ho : ops[i]? = some o) {v : EV G} (h : Keeps' ops (s.put o.dst v) s') : Keeps' ops s s' := by
  refine ⟨fun i => (h.1 i).trans (St.look_put _ _ _ _), fun t ht => (h.2 t ht).trans ?_⟩
  cases hd : o.dst with
  | none => rfl
  | some d =>
    have hne : ¬ d = t := fun e => ht (e ▸ mem_dsts ho hd)
    rw [St.get_put, if_neg hne]
theorem keeps_same {s s1 s' : St G} (hs : St.Same s s1) (h : Keeps' ops s1 s') : Keeps' ops s s' := ⟨fun i => (h.1 i).trans (hs.2 i), fun t ht => (h.2 t ht).trans (hs.1 t)⟩

theorem merge_get {s s1 s2 : St G} {c : Bool} (t : Nat) : St.get { s with tm := mergeTm c s1 s2 s.tm (dsts ops) } t = if t ∈ dsts ops then pickE c (s1.get t) (s2.get t) else s.get t := by
  show (match lookT (mergeTm c s1 s2 s.tm (dsts ops)) t with | some v => v | none => .u) = _
  rw [mergeTm_look]
  by_cases h : t ∈ dsts ops
  · rw [if_pos h, if_pos h]
  · rw [if_neg h, if_neg h]; rfl
theorem merge_true {s s1 s2 : St G} (k1 : Keeps' ops s s1) : Weak s1 { s with tm := mergeTm true s1 s2 s.tm (dsts ops) } := by
  refine ⟨fun i => (k1.1 i).symm, fun t => ?_⟩
  rw [merge_get]
  by_cases ht : t ∈ dsts ops
  · rw [if_pos ht]; exact pickE_true _ _
  · rw [if_neg ht, k1.2 t ht]; exact ⟨fun _ _ _ _ h => h, fun _ h => h⟩
theorem merge_false {s s1 s2 : St G} (k2 : Keeps' ops s s2) : Weak s2 { s with tm := mergeTm false s1 s2 s.tm (dsts ops) } := by
  refine ⟨fun i => (k2.1 i).symm, fun t => ?_⟩
  rw [merge_get]
  by_cases ht : t ∈ dsts ops
  · rw [if_pos ht]; exact pickE_false _ _
  · rw [if_neg ht, k2.2 t ht]; exact ⟨fun _ _ _ _ h => h, fun _ h => h⟩
end
end Go.Abs
end
section
set_option linter.all false
set_option linter.unusedVariables false
set_option linter.unusedSimpArgs false
set_option linter.unnecessarySimpa false
/-
  ABS, part 26: a region, whole.
-/
namespace Go.Abs
open Go
variable {G : Gam}

section
variable {E : Env G} {ops : Array Oper}

theorem bEq_true {a b : Bool} (h : bEq a b = true) : a = b := by cases a <;> cases b <;> first | rfl | cases h
theorem bEq_false {a b : Bool} (h : bEq a b = false) : a = !b := by cases a <;> cases b <;> first | rfl | cases h

theorem opsP_sound (heq : ∀ t ∈ E.eqs, EqOK E.P t) : ∀ (l : List Nat) (kn : List (Nat × Bool)) (s s' : St G), (∀ i ∈ l, i < ops.size) → opsP E ops l kn s = some s' →
    Keeps' ops s s' ∧ ∃ (labs : List (Lab G)) (s'' : St G), labs.map (·.i) = l ∧ Run E.P E.nt ops labs s s'' ∧ Weak s'' s' ∧ ∀ ℓ ∈ labs, ℓ.wr = [] := by
  intro l
  induction l with
  | nil =>
    intro kn s s' _ h
    simp only [opsP] at h; cases h
    exact ⟨⟨fun _ => rfl, fun _ _ => rfl⟩, [], s, rfl, St.Same.rfl' s, Weak.rfl' s, fun ℓ h => by cases h⟩
  | cons i rest ih =>
    intro kn s s' hlt h
    have hi : i < ops.size := hlt i (by simp)
    have ho : ops[i]? = some ops[i] := by simp [hi]
    have hrest : ∀ j ∈ rest, j < ops.size := fun j hj => hlt j (by simp [hj])
    simp only [opsP, ho] at h
    obtain ⟨hd', h⟩ := guardn h
    have hd := okDst_lt (E := E) (o := ops[i]) (by simpa using hd')
    generalize hoo : ops[i] = o at *
    have runs : ∀ (s1 s' : St G) (kn : List (Nat × Bool)), Guards ops s1 o true → (match pureOp E.P E.eqs s1 o with | some v => opsP E ops rest kn (s1.put o.dst v) | none => none) = some s' →
        Keeps' ops s1 s' ∧ (St.Same s s1 → ∃ (labs : List (Lab G)) (s'' : St G), labs.map (·.i) = i :: rest ∧ Run E.P E.nt ops labs s s'' ∧ Weak s'' s' ∧ ∀ ℓ ∈ labs, ℓ.wr = []) := by
      intro s1 s' kn hg h
      split at h
      · rename_i v hv
        obtain ⟨q0, labs, s'', q1, q2, q3, q4⟩ := ih _ _ _ hrest h
        refine ⟨keeps_put ho q0, fun hsame => ⟨⟨i, some (v, []), pureReads s1 o⟩ :: labs, s'', by simp [q1], Run.congr hsame.symm ⟨⟨o, ho, hd, hg, (pure_ok heq hd hv).more (by simp)⟩, ?_⟩, q3, ?_⟩⟩
        · rw [T_run (ℓ := ⟨i, some (v, []), pureReads s1 o⟩) ho rfl]; exact q2
        · intro ℓ hl
          rcases List.mem_cons.mp hl with rfl | hl
          · rfl
          · exact q4 ℓ hl
      · cases h
    have skips : ∀ (s1 s' : St G) (kn : List (Nat × Bool)), Guards ops s1 o false → opsP E ops rest kn (s1.put o.dst .un) = some s' →
        Keeps' ops s1 s' ∧ (St.Same s s1 → ∃ (labs : List (Lab G)) (s'' : St G), labs.map (·.i) = i :: rest ∧ Run E.P E.nt ops labs s s'' ∧ Weak s'' s' ∧ ∀ ℓ ∈ labs, ℓ.wr = []) := by
      intro s1 s' kn hg h
      obtain ⟨q0, labs, s'', q1, q2, q3, q4⟩ := ih _ _ _ hrest h
      refine ⟨keeps_put ho q0, fun hsame => ⟨⟨i, none, []⟩ :: labs, s'', by simp [q1], Run.congr hsame.symm ⟨⟨o, ho, hd, hg, trivial⟩, ?_⟩, q3, ?_⟩⟩
      · rw [T_skip (ℓ := ⟨i, none, []⟩) ho rfl]; exact q2
      · intro ℓ hl
        rcases List.mem_cons.mp hl with rfl | hl
        · rfl
        · exact q4 ℓ hl
    split at h
    · rename_i hg
      obtain ⟨a1, a2⟩ := runs s s' kn (by unfold Guards; simp only [hg]) h
      exact ⟨a1, a2 (St.Same.rfl' s)⟩
    · rename_i j want hg
      split at h
      · rename_i oj hj
        split at h
        · rename_i g hgd
          split at h
          · -- decided before
            rename_i c hkn
            split at h
            · rename_i c' hs
              obtain ⟨hcc, h'⟩ := guardb h
              have hcc : c' = c := bEq_true hcc
              subst hcc
              cases hcw : bEq c' want with
              | true =>
                have hcw' : c' = want := bEq_true hcw
                rw [hcw] at h'
                obtain ⟨a1, a2⟩ := runs s s' kn (by unfold Guards; simp only [hg]; exact ⟨oj, g, hj, hgd, by simp [hs, hcw']⟩) h'
                exact ⟨a1, a2 (St.Same.rfl' s)⟩
              | false =>
                have hcw' : c' = !want := bEq_false hcw
                rw [hcw] at h'
                obtain ⟨a1, a2⟩ := skips s s' kn (by unfold Guards; simp only [hg]; exact ⟨oj, g, hj, hgd, by simp [hs, hcw']⟩) h'
                exact ⟨a1, a2 (St.Same.rfl' s)⟩
            · cases h
          · split at h
            · rename_i hs
              obtain ⟨a1, a2⟩ := skips s s' kn (by unfold Guards; simp only [hg]; exact ⟨oj, g, hj, hgd, by simp [hs]⟩) h
              exact ⟨a1, a2 (St.Same.rfl' s)⟩
            · rename_i c hs
              split at h
              · rename_i s1 s2 h1 h2
                have getp : ∀ b : Bool, (s.put (some g) (.d .bool b)).get g = .d .bool b := fun b => by rw [St.get_put, if_pos rfl]
                obtain ⟨a1, a2⟩ := runs _ s1 _ (by unfold Guards; simp only [hg]; exact ⟨oj, g, hj, hgd, by simp [getp]⟩) h1
                obtain ⟨b1, b2⟩ := skips _ s2 _ (by unfold Guards; simp only [hg]; exact ⟨oj, g, hj, hgd, by simp [getp]⟩) h2
                have kput : ∀ (v : EV G) (s' : St G), Keeps' ops (s.put (some g) v) s' → Keeps' ops s s' := fun v s' hk => keeps_put hj (v := v) (by rw [hgd]; exact hk)
                have a1' := kput _ _ a1
                have b1' := kput _ _ b1
                have h := some_inj h
                have wk : ∀ {x y : St G}, Keeps' ops s x → Keeps' ops s y → ∀ c : Bool, Keeps' ops s { s with tm := mergeTm c x y s.tm (dsts ops) } := by
                  intro x y kx ky c
                  refine ⟨fun _ => rfl, fun t ht => ?_⟩
                  simp only [St.get, mergeTm_look, if_neg ht]
                cases want with
                | true =>
                  simp only at h
                  subst h
                  refine ⟨wk a1' b1' c, ?_⟩
                  cases c with
                  | true =>
                    obtain ⟨labs, s'', q1, q2, q3, q4⟩ := a2 (same_put hs)
                    exact ⟨labs, s'', q1, q2, q3.trans (merge_true a1'), q4⟩
                  | false =>
                    obtain ⟨labs, s'', q1, q2, q3, q4⟩ := b2 (same_put hs)
                    exact ⟨labs, s'', q1, q2, q3.trans (merge_false b1'), q4⟩
                | false =>
                  simp only at h
                  subst h
                  refine ⟨wk b1' a1' c, ?_⟩
                  cases c with
                  | true =>
                    obtain ⟨labs, s'', q1, q2, q3, q4⟩ := b2 (same_put hs)
                    exact ⟨labs, s'', q1, q2, q3.trans (merge_true b1'), q4⟩
                  | false =>
                    obtain ⟨labs, s'', q1, q2, q3, q4⟩ := a2 (same_put hs)
                    exact ⟨labs, s'', q1, q2, q3.trans (merge_false a1'), q4⟩
              · cases h
            · cases h
        · cases h
      · cases h

theorem meets_false {l m : List Nat} (h : meets l m = false) : ∀ i ∈ l, i ∉ m := by
  intro i hi hm
  have := List.any_eq_false.mp h i hi
  simp [hm] at this

theorem trOK_pairs {pre : List Nat} : ∀ {tr : Tr}, trOK ops pre tr = true → tr.Pairwise fun x y => (∃ n, pre[x.1]? = some n ∧ n.testBit y.1 = true) ∨ (apartB ops y.1 x.1 = true ∧ (∀ i ∈ x.2.2, i ∉ y.2.1 ++ y.2.2) ∧ ∀ i ∈ y.2.2, i ∉ x.2.1) := by
  intro tr
  induction tr with
  | nil => intro _; exact .nil
  | cons x tr ih =>
    intro h
    obtain ⟨i, rd, wr⟩ := x
    simp only [trOK, Bool.and_eq_true] at h
    refine .cons (fun y hy => ?_) (ih h.2)
    have := List.all_eq_true.mp h.1 y hy
    obtain ⟨j, rd', wr'⟩ := y
    simp only [Bool.or_eq_true, Bool.and_eq_true, Bool.not_eq_true', Bool.or_eq_false_iff] at this
    rcases this with this | ⟨t1, t2, t3⟩
    · left
      split at this
      · rename_i n hn; exact ⟨n, hn, this⟩
      · cases this
    · exact .inr ⟨t1, meets_false t2, meets_false t3⟩

theorem apartB_spec {i j : Nat} (h : apartB ops i j = true) : ∃ x y, ops[i]? = some x ∧ ops[j]? = some y ∧ x.apart ops y = true := by
  unfold apartB at h
  split at h
  · rename_i x y hx hy; exact ⟨x, y, hx, hy, h⟩
  · cases h

theorem range_pairs (n : Nat) : (List.range n).Pairwise (· < ·) := List.pairwise_lt_range

theorem region_wp {Q : Exit → Act → World → Prop} {F : Frm} {L : LM} {s s' : St G} {a : Act} {w : World} {id : Nat} {draw : Bool} {labs : List (Lab G)} (hm : E.P.follows .mixedOrders = true) (hi : labs.map (·.i) = List.range ops.size) (hr : Run E.P E.nt ops labs s s') (h : Rel F E.nt L s a w)
    (hQ : ∀ L' a' w', Rel F E.nt L' s' a' w' → Q .normal a' w') (hd : draw = true → backOK 0 ops.toList = true ∧ (labs.map Lab.tr).Pairwise fun y x => (∃ n, (preds ops.toList [])[x.1]? = some n ∧ n.testBit y.1 = true) ∨ (apartB ops y.1 x.1 = true ∧ (∀ i ∈ x.2.2, i ∉ y.2.1 ++ y.2.2) ∧ ∀ i ∈ y.2.2, i ∉ x.2.1)) :
    (Code.region id ops draw).wp E.P Q a w := by
  cases draw with
  | false =>
    refine wp_region ?_
    rw [← hi]
    exact hr.inOrder h hQ
  | true =>
    obtain ⟨hb, hp⟩ := hd rfl
    refine wp_region_any hm ?_
    have h' : Rel F E.nt L s a { w with drawn := w.drawn + 1 } := h.world rfl rfl rfl rfl
    have hlen : labs.length = ops.size := by have := congrArg List.length hi; simpa using this
    refine run_any hb hQ ops.size labs _ s L a _ hr h' hlen (by simp) ?_ ?_ ?_ ?_ ?_
    · intro i hi'
      have h1 : (Array.replicate ops.size false).getD i true = false := by simp [Array.getD_eq_getD_getElem?, hi']
      rw [h1]
      simp only [true_iff]
      have : i ∈ labs.map (·.i) := by rw [hi]; simpa using hi'
      obtain ⟨ℓ, q1, q2⟩ := List.mem_map.mp this
      exact ⟨ℓ, q1, q2⟩
    · intro ℓ hl
      have : ℓ.i ∈ labs.map (·.i) := List.mem_map.mpr ⟨ℓ, hl, rfl⟩
      rw [hi] at this; simpa using this
    · have := range_pairs ops.size
      rw [← hi, List.pairwise_map] at this
      exact this
    · rw [List.pairwise_map] at hp
      refine hp.imp fun {m ℓ} hx => hx.imp (fun h => h) fun ⟨t1, t2, t3⟩ => ⟨apartB_spec t1, fun i hi hx => ?_, fun i hi hx => ?_⟩
      · rcases List.mem_append.mp hx with hx | hx
        · exact t3 i hi hx
        · exact t2 i hx (List.mem_append.mpr (.inr hi))
      · exact t2 i hi hx
    · intro p n i hp' hn hb'
      exfalso
      simp [Array.getD_eq_getD_getElem?, Array.getElem?_replicate] at hp'
      split at hp' <;> simp at hp'

theorem region_sound {R : Type} (hE : ∀ f T, E.fns f = some T → FnOK E.P f T) (heq : ∀ t ∈ E.eqs, EqOK E.P t) (hm : E.P.follows .mixedOrders = true) {id : Nat} {draw : Bool} {s : St G} {k : Ex → St G → Option R} {r : R} (h : exec E (.region id ops draw) s k = some r) :
    ∃ s', k .normal s' = some r ∧ ∀ (F : Frm) (L : LM) (a : Act) (w : World) (Q : Exit → Act → World → Prop), Rel F E.nt L s a w → (∀ L' a' w', Rel F E.nt L' s' a' w' → Q .normal a' w') → (Code.region id ops draw).wp E.P Q a w := by
  simp only [exec] at h
  have hrl : ∀ i ∈ List.range ops.size, i < ops.size := fun i hi => by simpa using hi
  split at h
  · rename_i s' hs
    obtain ⟨hg, h⟩ := guardb h
    obtain ⟨_, labs, s'', q1, q2, q3, q4⟩ := opsP_sound heq _ _ _ _ hrl hs
    refine ⟨s', h, fun F L a w Q hr hQ => region_wp hm q1 q2 hr (fun L' a' w' h' => hQ L' a' w' (h'.weak q3)) fun hd => ?_⟩
    subst hd
    simp only [Bool.not_true, Bool.false_or, orderOK, Bool.and_eq_true] at hg
    refine ⟨hg.1, ?_⟩
    have hp := trOK_pairs hg.2
    rw [List.pairwise_map, List.pairwise_reverse, ← q1, List.pairwise_map] at hp
    rw [List.pairwise_map]
    refine List.Pairwise.imp_of_mem (fun {m ℓ} hm hl hx => ?_) hp
    refine hx.imp (fun h => h) fun ⟨t1, _, _⟩ => ⟨t1, ?_, ?_⟩
    · intro i hi; simp only [Lab.tr, q4 ℓ hl] at hi; cases hi
    · intro i hi; simp only [Lab.tr, q4 m hm] at hi; cases hi
  · obtain ⟨labs, s', q1, q2, h⟩ := opsE_sound hE heq _ _ _ hrl h
    obtain ⟨hg, h⟩ := guardb h
    refine ⟨_, h, fun F L a w Q hr hQ => region_wp hm q1 q2 hr (fun L' a' w' h' => ?_) fun hd => ?_⟩
    · cases htr : E.tr with
      | false => rw [htr] at hQ; exact hQ _ _ _ h'
      | true => rw [htr] at hQ; obtain ⟨L2, h2⟩ := restAll_rel h'; exact hQ _ _ _ h2
    subst hd
    simp only [Bool.not_true, Bool.false_or, orderOK, Bool.and_eq_true, List.append_nil] at hg
    refine ⟨hg.1, ?_⟩
    have hp := trOK_pairs hg.2
    rw [List.pairwise_reverse] at hp
    exact hp
end
end Go.Abs
end
section
set_option linter.all false
set_option linter.unusedVariables false
set_option linter.unusedSimpArgs false
set_option linter.unnecessarySimpa false
/-
  ABS, part 27: a state told anew.
-/
namespace Go.Abs
open Go
variable {G : Gam}

section
variable {F : Frm} {nt : Nat} {L : LM} {s s' : St G} {a : Act} {w : World}

/-- What stands at a place: a slot, or a box's cell. -/
def placeV (s : St G) (a : Nat) : Option Nat → EV G
  | none => s.get a
  | some o => match s.look a with | some (.box cs) => (match cs[o]? with | some v => v | none => .u) | some (.fill _ _ cs _ _ _) => (match cs[o]? with | some v => v | none => .u) | _ => .u

/-- Cells that hold values of the frame. -/
def Ent.cellsOf : Ent G → Option (List (EV G))
  | .box cs => some cs
  | .fill _ _ cs _ _ _ => some cs
  | _ => none
def Ent.setC (e : Ent G) (cs : List (EV G)) : Ent G :=
  match e with
  | .box _ => .box cs
  | .fill e xs _ zc n _ => .fill e xs cs zc n false
  | e => e
theorem setC_owns {l : Loc} {e : Ent G} {cs : List (EV G)} : owns l (e.setC cs) = owns l e := by cases e <;> rfl
theorem setC_blks {l : Loc} {e : Ent G} {cs : List (EV G)} {x : Nat} : blks (e.setC cs) l x = blks e l x := by cases e <;> rfl
theorem cellsOf_owner {e : Ent G} {cs : List (EV G)} (h : e.cellsOf = some cs) : owner e := by cases e <;> first | trivial | cases h
theorem setC_ids {e : Ent G} {cs cs' : List (EV G)} (h : e.cellsOf = some cs) : (e.setC cs').ids = EV.idss cs' := by cases e <;> first | rfl | cases h

theorem again_owns {e e1 : Ent G} (h : e.again = some e1) {l : Loc} : owns l e1 = owns l e := by
  unfold Ent.again at h
  split at h
  · cases h; rfl
  · cases h; rfl
  · cases h
theorem again_blks {e e1 : Ent G} (h : e.again = some e1) {l : Loc} {x : Nat} : blks e1 l x = blks e l x := by
  unfold Ent.again at h
  split at h
  · cases h; rfl
  · cases h; rfl
  · cases h
theorem again_owner {e e1 : Ent G} (h : e.again = some e1) : owner e := by
  unfold Ent.again at h
  split at h
  · trivial
  · trivial
  · cases h
theorem again_nms {e e1 : Ent G} (h : e.again = some e1) : e1.nms = [] := by
  unfold Ent.again at h
  split at h
  · cases h; rfl
  · cases h; rfl
  · cases h
theorem again_cells {e e1 : Ent G} (h : e.again = some e1) : e.cellsOf = none := by
  unfold Ent.again at h
  split at h
  · rfl
  · rfl
  · cases h
theorem again_rep {e e1 : Ent G} (h : e.again = some e1) {ok : Cells} {w : World} {L L' : LM} {i j : Nat} (hl : L' j = L i) (hr : RepE ok w L i e) : RepE ok w L' j e1 := by
  unfold Ent.again at h
  split at h
  · cases h
    simp only [RepE] at hr ⊢
    rw [hl]; exact hr
  · cases h
    simp only [RepE] at hr ⊢
    rw [hl]
    cases hli : L i with
    | none => rw [hli] at hr; exact hr
    | some l =>
      rw [hli] at hr
      obtain ⟨h1, lf, h2⟩ := hr
      exact ⟨h1, lf, (h2.any).turn (fun _ _ => rfl) (fun _ _ _ h => by cases h) (fun _ _ _ h => by cases h)⟩
  · cases h
/-- What a nil slice becomes. -/
def Ent.isNil (e : Ent G) : Prop := (∃ τ, e = .row τ [] 0) ∨ ∃ τ, e = .tree true τ [] none []
theorem nilEnt_isNil (trs : List Nat) (cid : Nat) (e : Ty) : (nilEnt (G := G) trs cid e).isNil := by
  unfold nilEnt
  cases trs.contains cid with
  | false => exact .inl ⟨_, rfl⟩
  | true =>
    simp only [cond_true]
    split
    · exact .inr ⟨_, rfl⟩
    · exact .inl ⟨_, rfl⟩

structure Rows' (s : St G) (rows : List ((Nat × Option Nat) × Nat × Ty)) (ren : List (Nat × Nat)) (new : List (Nat × Ent G)) : Prop where
  keys : new.map (·.1) = rows.map (·.2.1)
  sub : ∀ p ∈ ren, p.2 ∈ rows.map (·.2.1)
  nd : (ren.map (·.1)).Nodup
  nd2 : (ren.map (·.2)).Nodup
  src : ∀ q ∈ new, (∃ id e0, (id, q.1) ∈ ren ∧ s.look id = some e0 ∧ e0.again = some q.2) ∨ (q.2.isNil ∧ q.1 ∉ ren.map (·.2))
  place : ∀ t ∈ rows, (placeV s t.1.1 t.1.2 = .nl ∧ t.2.1 ∉ ren.map (·.2)) ∨ ∃ id, placeV s t.1.1 t.1.2 = .ow id ∧ (id, t.2.1) ∈ ren

theorem rowsOf_spec {trs : List Nat} : ∀ {rows : List ((Nat × Option Nat) × Nat × Ty)} {ren : List (Nat × Nat)} {new : List (Nat × Ent G)}, (rows.map (·.2.1)).Nodup → rowsOf trs s rows = some (ren, new) → Rows' s rows ren new := by
  intro rows
  induction rows with
  | nil =>
    intro ren new _ h
    simp only [rowsOf] at h; cases h
    exact ⟨rfl, fun _ h => by simp at h, by simp, by simp, fun _ h => by simp at h, fun _ h => by simp at h⟩
  | cons t rows ih =>
    intro ren new hnd h
    obtain ⟨⟨a, off⟩, cid, e⟩ := t
    simp only [List.map_cons, List.nodup_cons] at hnd
    simp only [rowsOf] at h
    split at h
    · cases h
    rename_i ren0 new0 h0
    have R := ih hnd.2 h0
    have hcn : cid ∉ ren0.map (·.2) := fun hm => by
      obtain ⟨p, hp, rfl⟩ := List.mem_map.mp hm
      exact hnd.1 (R.sub p hp)
    split at h
    · rename_i hv
      cases h
      refine ⟨by simp [R.keys], fun p hp => by simp [R.sub p hp], R.nd, R.nd2, fun q hq => ?_, fun q hq => ?_⟩
      · rcases List.mem_cons.mp hq with rfl | hq
        · exact .inr ⟨nilEnt_isNil _ _ _, hcn⟩
        · exact R.src q hq
      · rcases List.mem_cons.mp hq with rfl | hq
        · exact .inl ⟨by cases off <;> exact hv, hcn⟩
        · exact R.place q hq
    · rename_i id hv
      split at h
      · rename_i e0 hi
        split at h
        · rename_i e1 hag
          obtain ⟨hg, h⟩ := guardn h
          cases h
          have hid : id ∉ ren0.map (·.1) := fun hm => by
            obtain ⟨p, hp, hpe⟩ := List.mem_map.mp hm
            have := List.any_eq_false.mp hg p hp
            simp [beq_nat, hpe] at this
          refine ⟨by simp [R.keys], fun p hp => ?_, by simp only [List.map_cons, List.nodup_cons]; exact ⟨hid, R.nd⟩, by simp only [List.map_cons, List.nodup_cons]; exact ⟨hcn, R.nd2⟩, fun q hq => ?_, fun q hq => ?_⟩
          · rcases List.mem_cons.mp hp with rfl | hp
            · simp
            · simp [R.sub p hp]
          · rcases List.mem_cons.mp hq with rfl | hq
            · exact .inl ⟨id, e0, by simp, hi, hag⟩
            · rcases R.src q hq with ⟨id', e', q1, q2, q3⟩ | ⟨q1, q2⟩
              · exact .inl ⟨id', e', by simp [q1], q2, q3⟩
              · refine .inr ⟨q1, fun hm => ?_⟩
                simp only [List.map_cons, List.mem_cons] at hm
                rcases hm with hm | hm
                · have : q.1 ∈ new0.map (·.1) := List.mem_map.mpr ⟨q, hq, rfl⟩
                  rw [R.keys, hm] at this
                  exact hnd.1 this
                · exact q2 hm
          · rcases List.mem_cons.mp hq with rfl | hq
            · exact .inr ⟨id, by cases off <;> exact hv, by simp⟩
            · rcases R.place q hq with ⟨q1, q2⟩ | ⟨id', q1, q2⟩
              · refine .inl ⟨q1, fun hm => ?_⟩
                simp only [List.map_cons, List.mem_cons] at hm
                rcases hm with hm | hm
                · have : q.2.1 ∈ rows.map (·.2.1) := List.mem_map.mpr ⟨q, hq, rfl⟩
                  rw [hm] at this; exact hnd.1 this
                · exact q2 hm
              · exact .inr ⟨id', q1, by simp [q2]⟩
        · cases h
      · cases h
    · cases h

theorem placeRow_spec {rows : List ((Nat × Option Nat) × Nat × Ty)} {a : Nat} {off : Option Nat} {cid : Nat} (h : placeRow rows a off = some cid) : ∃ t ∈ rows, t.1 = (a, off) ∧ t.2.1 = cid := by
  induction rows with
  | nil => cases h
  | cons t rows ih =>
    obtain ⟨⟨b, o⟩, c, e⟩ := t
    simp only [placeRow] at h
    cases hc : (Nat.beq a b && decide (off = o)) with
    | true =>
      rw [hc] at h
      obtain ⟨h1, h2⟩ := band hc
      have h1 := beqT h1
      have h2 := of_decide_eq_true h2
      simp only [cond_true, Option.some.injEq] at h
      subst h1; subst h2; subst h
      exact ⟨((a, off), c, e), List.mem_cons_self, rfl, rfl⟩
    | false =>
      rw [hc] at h
      obtain ⟨t, q1, q2⟩ := ih h
      exact ⟨t, by simp [q1], q2⟩

/-- A box with its cells told anew, or a tree that stays. -/
def Kept (s : St G) (rows : List ((Nat × Option Nat) × Nat × Ty)) (ρ : Nat → Option Nat) (i : Nat) (e : Ent G) : Prop :=
  (∃ e0 cs, s.look i = some e0 ∧ Ent.cellsOf e0 = some cs ∧ e = e0.setC (canonCells rows ρ i 0 cs)) ∨ ∃ e0, s.look i = some e0 ∧ e0.again = some e
theorem canonBoxes_spec {rows : List ((Nat × Option Nat) × Nat × Ty)} {ρ : Nat → Option Nat} : ∀ {l : List Nat} {bx : List (Nat × Ent G)}, canonBoxes s rows ρ l = some bx → bx.map (·.1) = l ∧ ∀ q ∈ bx, Kept s rows ρ q.1 q.2 := by
  intro l
  induction l with
  | nil => intro bx h; simp only [canonBoxes] at h; cases h; exact ⟨rfl, fun q h => by cases h⟩
  | cons i l ih =>
    intro bx h
    simp only [canonBoxes] at h
    split at h
    · rename_i cs hi
      split at h
      · rename_i m hm
        cases h
        obtain ⟨h1, h2⟩ := ih hm
        refine ⟨by simp [h1], fun q hq => ?_⟩
        rcases List.mem_cons.mp hq with rfl | hq
        · exact .inl ⟨_, cs, hi, rfl, rfl⟩
        · exact h2 q hq
      · cases h
    · rename_i e xs cs zc n tt hi
      split at h
      · rename_i m hm
        cases h
        obtain ⟨h1, h2⟩ := ih hm
        refine ⟨by simp [h1], fun q hq => ?_⟩
        rcases List.mem_cons.mp hq with rfl | hq
        · exact .inl ⟨_, cs, hi, rfl, rfl⟩
        · exact h2 q hq
      · cases h
    · rename_i o e xs ys0 hi
      split at h
      · rename_i m hm
        cases h
        obtain ⟨h1, h2⟩ := ih hm
        refine ⟨by simp [h1], fun q hq => ?_⟩
        rcases List.mem_cons.mp hq with rfl | hq
        · exact .inr ⟨_, hi, rfl⟩
        · exact h2 q hq
      · cases h
    · cases h

theorem canonTm_keys {rows : List ((Nat × Option Nat) × Nat × Ty)} {ρ : Nat → Option Nat} : ∀ (l : List Nat), (canonTm s rows ρ l).map (·.1) = l := by
  intro l
  induction l with
  | nil => rfl
  | cons t l ih => simp [canonTm, ih]
theorem canonTm_get {rows : List ((Nat × Option Nat) × Nat × Ty)} {ρ : Nat → Option Nat} : ∀ (l : List Nat) (t : Nat) (v : EV G), lookT (canonTm s rows ρ l) t = some v → v = (match placeRow rows t none with | some cid => .ow cid | none => (s.get t).rn ρ) := by
  intro l
  induction l with
  | nil => intro t v h; simp [canonTm, lookT] at h
  | cons a l ih =>
    intro t v h
    simp only [canonTm, lookT_cons] at h
    split at h
    · rename_i e; subst e; exact (some_inj h).symm
    · exact ih t v h

theorem nodupB_spec : ∀ {l : List Nat}, nodupB l = true → l.Nodup := by
  intro l
  induction l with
  | nil => intro _; simp
  | cons a l ih =>
    intro h
    simp only [nodupB, Bool.and_eq_true] at h
    rw [List.nodup_cons]
    exact ⟨by simpa using h.1, ih h.2⟩

theorem lookT_of_mem {α : Type} {l : List (Nat × α)} {j : Nat} {v : α} (hnd : (l.map (·.1)).Nodup) (h : (j, v) ∈ l) : lookT l j = some v := by
  induction l with
  | nil => cases h
  | cons p l ih =>
    obtain ⟨i, u⟩ := p
    simp only [List.map_cons, List.nodup_cons] at hnd
    rw [lookT_cons]
    rcases List.mem_cons.mp h with h | h
    · cases h; simp
    · have : j ∈ l.map (·.1) := List.mem_map.mpr ⟨_, h, rfl⟩
      have hne : ¬ i = j := fun e => hnd.1 (e ▸ this)
      rw [if_neg hne]
      exact ih hnd.2 h

/-- Where a name's new name is the key. -/
def backL (boxes : List Nat) (ren : List (Nat × Nat)) (L : LM) : LM := fun j =>
  if boxes.contains j = true then L j else match ren.find? (fun p => p.2 == j) with | some p => L p.1 | none => none

theorem backL_ren {boxes : List Nat} {ren : List (Nat × Nat)} {id cid : Nat} (hb : cid ∉ boxes) (hnd : (ren.map (·.2)).Nodup) (h : (id, cid) ∈ ren) : backL boxes ren L cid = L id := by
  unfold backL
  rw [if_neg (by simpa using hb)]
  have : ren.find? (fun p => p.2 == cid) = some (id, cid) := by
    induction ren with
    | nil => cases h
    | cons p ren ih =>
      obtain ⟨i, c⟩ := p
      simp only [List.map_cons, List.nodup_cons] at hnd
      rcases List.mem_cons.mp h with h | h
      · cases h; simp
      · have hm : cid ∈ ren.map (·.2) := List.mem_map.mpr ⟨_, h, rfl⟩
        have hne : ¬ c = cid := fun e => hnd.1 (e ▸ hm)
        rw [List.find?_cons_of_neg (by simpa using hne)]
        exact ih hnd.2 h
  rw [this]
theorem backL_none {boxes : List Nat} {ren : List (Nat × Nat)} {cid : Nat} (hb : cid ∉ boxes) (h : cid ∉ ren.map (·.2)) : backL boxes ren L cid = none := by
  unfold backL
  rw [if_neg (by simpa using hb)]
  have : ren.find? (fun p => p.2 == cid) = none := by
    rw [List.find?_eq_none]
    intro p hp he
    exact h (List.mem_map.mpr ⟨p, hp, by simpa using he⟩)
  rw [this]
theorem backL_box {boxes : List Nat} {ren : List (Nat × Nat)} {i : Nat} (hb : i ∈ boxes) : backL boxes ren L i = L i := by
  unfold backL; rw [if_pos (by simpa using hb)]

theorem lookT_isSome {α : Type} {l : List (Nat × α)} {j : Nat} (h : j ∈ l.map (·.1)) : (lookT l j).isSome = true := by
  induction l with
  | nil => cases h
  | cons p l ih =>
    obtain ⟨i, u⟩ := p
    rw [lookT_cons]
    split
    · rfl
    · rename_i hne
      simp only [List.map_cons, List.mem_cons] at h
      rcases h with h | h
      · exact absurd h.symm hne
      · exact ih h

theorem canonCells_rep {ok ok' : Cells} {L' : LM} {rows : List ((Nat × Option Nat) × Nat × Ty)} {ρ : Nat → Option Nat} {id : Nat} (hk : ∀ b o, ok b o → ok' b o) {CS : List (EV G)}
    (ht : ∀ ids, Turn ρ L L' ids) (hp : ∀ n cid, placeRow rows id (some n) = some cid → ∀ v u, CS[n]? = some v → RepV ok w L v u → RepV ok' w L' (EV.ow cid : EV G) u) :
    ∀ {cs : List (EV G)} {vs : List Value} {n : Nat}, (∀ i : Nat, i < cs.length → cs[i]? = CS[n + i]?) → RepVs ok w L cs vs → RepVs ok' w L' (canonCells rows ρ id n cs) vs := by
  intro cs
  induction cs with
  | nil => intro vs n _ h; cases vs <;> simpa [canonCells, RepVs] using h
  | cons v cs ih =>
    intro vs n hcs h
    cases vs with
    | nil => simp [RepVs] at h
    | cons u vs =>
      simp only [RepVs] at h
      simp only [canonCells, RepVs]
      refine ⟨?_, ih (fun i hi => ?_) h.2⟩
      · split
        · rename_i cid hc
          exact hp n cid hc v u (by have := hcs 0 (by simp); simpa using this.symm) h.1
        · exact (h.1.mono (L' := L) (fun b o v p q => ⟨hk b o p, q⟩) (fun _ _ => rfl)).rn (ht _)
      · have := hcs (i + 1) (by simpa using hi)
        rw [show n + 1 + i = n + (i + 1) by omega]; simpa using this
theorem canonCells_len {rows : List ((Nat × Option Nat) × Nat × Ty)} {ρ : Nat → Option Nat} {id : Nat} : ∀ (cs : List (EV G)) (n : Nat), (canonCells rows ρ id n cs).length = cs.length
  | [], _ => rfl
  | _ :: cs, n => by simp [canonCells, canonCells_len cs (n + 1)]
theorem canonCells_ids {rows : List ((Nat × Option Nat) × Nat × Ty)} {ρ : Nat → Option Nat} {id : Nat} {j : Nat} : ∀ {cs : List (EV G)} {n : Nat}, j ∈ EV.idss (canonCells rows ρ id n cs) → (∃ a off, placeRow rows a off = some j) ∨ ∃ i, ρ i = some j := by
  intro cs
  induction cs with
  | nil => intro n h; simp [canonCells, EV.idss] at h
  | cons v cs ih =>
    intro n h
    simp only [canonCells, EV.idss, List.mem_append] at h
    rcases h with h | h
    · split at h
      · rename_i cid hc; simp [EV.ids] at h; subst h; exact .inl ⟨_, _, hc⟩
      · obtain ⟨i, _, hi⟩ := EV.rn_ids h; exact .inr ⟨i, hi⟩
    · exact ih h

theorem zip_eta {α : Type} : ∀ (l : List (Nat × α)), l = zipT (l.map (·.1)) (l.map (·.2)) := by
  intro l
  induction l with
  | nil => rfl
  | cons p l ih => simp only [List.map_cons, zipT]; rw [← ih]

theorem zipT_append {α : Type} : ∀ {l m : List Nat} {x y : List α}, l.length = x.length → zipT (l ++ m) (x ++ y) = zipT l x ++ zipT m y := by
  intro l
  induction l with
  | nil => intro m x y h; cases x with | nil => rfl | cons _ _ => simp at h
  | cons a l ih =>
    intro m x y h
    cases x with
    | nil => simp at h
    | cons b x => simp only [List.cons_append, zipT]; rw [ih (by simpa using h)]

theorem canon0_shape {m : Nat} {kp : Keep} (hc : canon0 m kp s = some s') : s' = kp.st (s'.tm.map (·.2)) ((s'.en.map (·.2)).take (kp.boxes.length + kp.rows.length)) := by
  unfold canon0 at hc
  split at hc
  · cases hc
  rename_i ren new hrows
  simp only at hc
  generalize hρ : (fun i => bif kp.boxes.contains i then some i else lookT ren i) = ρ at hc
  split at hc
  · cases hc
  rename_i bx hbx
  obtain ⟨hnd, hc⟩ := guardb hc
  have hnd' := List.nodup_append.mp (nodupB_spec (band (band (band hnd).1).1).1)
  cases hc
  have R := rowsOf_spec (List.nodup_append.mp hnd'.2.1).1 hrows
  obtain ⟨bk, bs⟩ := canonBoxes_spec hbx
  unfold Keep.st
  congr 1
  · have := zip_eta (canonTm s kp.rows ρ kp.slots)
    rw [canonTm_keys] at this; exact this
  · have h1 := zip_eta (bx ++ new)
    rw [List.map_append, bk, R.keys] at h1
    have hl : (List.map (·.2) (bx ++ new)).length = kp.boxes.length + kp.rows.length := by
      rw [List.length_map, List.length_append, ← bk, List.length_map]
      have := congrArg List.length R.keys
      simp only [List.length_map] at this
      rw [this]
    have h2 : List.take (kp.boxes.length + kp.rows.length) (List.map (·.2) (bx ++ new ++ kp.tombs.map fun i => (i, (Ent.tomb : Ent G)))) = List.map (·.2) (bx ++ new) := by
      rw [List.map_append, ← hl, List.take_left]
    simp only [h2]
    rw [← h1]

theorem canon0_rel {m : Nat} (hm0 : F.n = m) (h : Rel F nt L s a w) {kp : Keep} (hc : canon0 m kp s = some s') : (∃ L', Rel F nt L' s' a w) ∧ s' = kp.st (s'.tm.map (·.2)) ((s'.en.map (·.2)).take (kp.boxes.length + kp.rows.length)) := by
  refine ⟨?_, canon0_shape hc⟩
  unfold canon0 at hc
  split at hc
  · cases hc
  rename_i ren new hrows
  simp only at hc
  generalize hρ : (fun i => bif kp.boxes.contains i then some i else lookT ren i) = ρ at hc
  split at hc
  · cases hc
  rename_i bx hbx
  obtain ⟨hnd0, hc⟩ := guardb hc
  obtain ⟨hnd1, hlent⟩ := band hnd0
  obtain ⟨hnd2, htomb⟩ := band hnd1
  obtain ⟨hnd2, hrb⟩ := band hnd2
  have hnd := nodupB_spec hnd2
  cases hc
  have hnd' := List.nodup_append.mp hnd
  have hnd3 := List.nodup_append.mp hnd'.2.1
  have R := rowsOf_spec hnd3.1 hrows
  obtain ⟨bk, bs⟩ := canonBoxes_spec hbx
  have hdisj : ∀ c ∈ kp.rows.map (·.2.1), c ∉ kp.boxes := fun c hc hb => hnd'.2.2 c hb c (List.mem_append.mpr (.inl hc)) rfl
  let L' := backL (kp.boxes ++ kp.tombs) ren L
  generalize hs' : ({ tm := canonTm s kp.rows ρ kp.slots, en := bx ++ new ++ kp.tombs.map fun i => (i, .tomb) } : St G) = t
  have tlook : ∀ j, t.look j = lookT (bx ++ new ++ kp.tombs.map fun i => (i, (Ent.tomb : Ent G))) j := fun j => by rw [← hs']; rfl
  have tget : ∀ j, t.get j = match lookT (canonTm s kp.rows ρ kp.slots) j with | some v => v | none => .u := fun j => by rw [← hs']; rfl
  have hdisj2 : ∀ c ∈ kp.rows.map (·.2.1), c ∉ kp.boxes ++ kp.tombs := fun c hc hb => by
    rcases List.mem_append.mp hb with hb | hb
    · exact hdisj c hc hb
    · exact hnd3.2.2 c hc c hb rfl
  have turn : ∀ ids, Turn ρ L L' ids := by
    intro ids i _ j hj
    rw [← hρ] at hj
    simp only at hj
    cases hb : kp.boxes.contains i with
    | true =>
      rw [hb] at hj; cases hj
      exact backL_box (List.mem_append.mpr (.inl (by simpa using hb)))
    | false =>
      rw [hb] at hj
      have hm := lookT_mem hj
      exact backL_ren (hdisj2 j (R.sub _ hm)) R.nd2 hm
  have isS : ∀ j, j ∈ kp.boxes ∨ j ∈ kp.rows.map (·.2.1) → (t.look j).isSome = true := by
    intro j hj
    rw [tlook]
    refine lookT_isSome ?_
    rw [List.map_append, List.map_append, bk, R.keys]
    exact List.mem_append.mpr (.inl (List.mem_append.mpr hj))
  have isT : ∀ j, j ∈ kp.tombs → (t.look j).isSome = true := by
    intro j hj
    rw [tlook]
    refine lookT_isSome ?_
    rw [List.map_append]
    exact List.mem_append.mpr (.inr (by simpa using hj))
  have isR : ∀ i j, ρ i = some j → (t.look j).isSome = true := by
    intro i j hj
    rw [← hρ] at hj
    simp only at hj
    cases hb : kp.boxes.contains i with
    | true => rw [hb] at hj; cases hj; exact isS _ (.inl (by simpa using hb))
    | false => rw [hb] at hj; exact isS j (.inr (R.sub _ (lookT_mem hj)))
  have isP : ∀ a off j, placeRow kp.rows a off = some j → (t.look j).isSome = true := by
    intro a off j hj
    obtain ⟨q, q1, _, q3⟩ := placeRow_spec hj
    exact isS j (.inr (List.mem_map.mpr ⟨q, q1, q3⟩))
  have cases' : ∀ j e', t.look j = some e' → (∃ e0 cs, s.look j = some e0 ∧ Ent.cellsOf e0 = some cs ∧ e' = e0.setC (canonCells kp.rows ρ j 0 cs) ∧ L' j = L j) ∨ (∃ id e0, s.look id = some e0 ∧ e0.again = some e' ∧ L' j = L id ∧ ((id, j) ∈ ren ∧ j ∉ kp.boxes ∨ id = j ∧ j ∈ kp.boxes)) ∨ (e'.isNil ∧ L' j = none) ∨ e' = .tomb := by
    intro j e' hj
    rw [tlook] at hj
    rcases List.mem_append.mp (lookT_mem hj) with hm1 | hm1
    case inr =>
      obtain ⟨i, _, hi⟩ := List.mem_map.mp hm1
      cases hi; exact .inr (.inr (.inr rfl))
    rcases List.mem_append.mp hm1 with hm | hm
    · have hjb : j ∈ kp.boxes := by rw [← bk]; exact List.mem_map.mpr ⟨_, hm, rfl⟩
      have hlb := backL_box (L := L) (ren := ren) (List.mem_append.mpr (.inl hjb) : j ∈ kp.boxes ++ kp.tombs)
      rcases bs _ hm with ⟨e0, cs, q1, q2, q2'⟩ | ⟨e0, q1, q2⟩
      · exact .inl ⟨e0, cs, q1, q2, q2', hlb⟩
      · exact .inr (.inl ⟨j, e0, q1, q2, hlb, .inr ⟨rfl, hjb⟩⟩)
    · have hjc : j ∈ kp.rows.map (·.2.1) := by rw [← R.keys]; exact List.mem_map.mpr ⟨_, hm, rfl⟩
      rcases R.src _ hm with ⟨id, e0, q1, q2, q3⟩ | ⟨q1, q2⟩
      · exact .inr (.inl ⟨id, e0, q2, q3, backL_ren (hdisj2 j hjc) R.nd2 q1, .inl ⟨q1, hdisj j hjc⟩⟩)
      · exact .inr (.inr (.inl ⟨q1, backL_none (hdisj2 j hjc) q2⟩))
  have ownd : ∀ b o, owned t L' b o → owned s L b o := by
    rintro b o ⟨j, e', l, hj, hl, hw⟩
    rcases cases' j e' hj with ⟨e0, cs, q1, q2, rfl, q3⟩ | ⟨id, e0, q1, q2, q3, _⟩ | ⟨_, q3⟩ | rfl
    · rw [q3] at hl; rw [setC_owns] at hw; exact ⟨j, _, l, q1, hl, hw⟩
    · rw [q3] at hl; rw [again_owns q2] at hw; exact ⟨id, _, l, q1, hl, hw⟩
    · rw [q3] at hl; cases hl
    · exact hw.elim
  have hok : ∀ b o, okOf F L s b o → okOf F L' t b o := fun b o hb => ⟨hb.1, fun ho => hb.2 (ownd b o ho)⟩
  have place : ∀ a off cid, placeRow kp.rows a off = some cid → ∀ (ok : Cells) (u : Value), RepV ok w L (placeV s a off) u → RepV ok w L' (EV.ow cid : EV G) u := by
    intro a off cid hp ok u hv
    obtain ⟨⟨⟨a', off'⟩, cid', e'⟩, q1, q2, q3⟩ := placeRow_spec hp
    cases q2; simp only at q3; subst q3
    have hcr : cid' ∈ kp.rows.map (·.2.1) := List.mem_map.mpr ⟨_, q1, rfl⟩
    rcases R.place _ q1 with ⟨r1, r2⟩ | ⟨id, r1, r2⟩
    · rw [r1] at hv
      simp only [RepV] at hv ⊢
      have hn : L' cid' = none := backL_none (hdisj2 _ hcr) r2
      rw [hn]; exact ⟨none, hv⟩
    · rw [r1] at hv
      simp only [RepV] at hv ⊢
      have hn : L' cid' = L id := backL_ren (hdisj2 _ hcr) R.nd2 r2
      rw [hn]; exact hv
  have hlt : ∀ i, i < F.n → (t.look i).isSome = true ∧ LocS (L' i) (F.L0 i) := by
    intro i hi
    rw [hm0] at hi
    have h1 := List.all_eq_true.mp hlent i (by simpa using hi)
    have h2 := (h.e.lent i (by rw [hm0]; exact hi)).2
    rw [Bool.or_eq_true, Bool.or_eq_true] at h1
    rcases h1 with (h1 | h1) | h1
    · have h1 : i ∈ kp.boxes := by simpa using h1
      exact ⟨isS i (.inl h1), (LocS.of (backL_box (List.mem_append.mpr (.inl h1)))).trans h2⟩
    · have h1 : i ∈ kp.tombs := by simpa using h1
      exact ⟨isT i h1, (LocS.of (backL_box (List.mem_append.mpr (.inr h1)))).trans h2⟩
    · split at h1
      · rename_i j hj
        have h3 := beqT h1
        subst h3
        have hm := lookT_mem hj
        have hc := R.sub _ hm
        exact ⟨isS _ (.inr hc), (LocS.of (backL_ren (hdisj2 _ hc) R.nd2 hm)).trans h2⟩
      · cases h1
  refine ⟨L', ⟨⟨h.e.fits, ?_, ?_, ?_, ?_, hlt⟩, ?_, ?_, h.defers, h.size⟩⟩
  · intro j e' hj
    rcases cases' j e' hj with ⟨e0, cs, q1, q2, rfl, q3⟩ | ⟨id, e0, q1, q2, q3, _⟩ | ⟨hn, q3⟩ | rfl
    · have hre := h.e.en j _ q1
      have kk : Keeps (okOf F L s) (okOf F L' t) w w := fun b o v p q => ⟨hok b o p, q⟩
      have cells : ∀ us, RepVs (okOf F L s) w L cs us → RepVs (okOf F L' t) w L' (canonCells kp.rows ρ j 0 cs) us := by
        intro us h3
        refine canonCells_rep (L := L) (L' := L') hok (CS := cs) turn (fun n cid hp v u hcv hv => ?_) (fun i _ => by simp) h3
        have : placeV s j (some n) = v := by cases e0 <;> first | (cases q2; simp only [placeV, q1, hcv]) | cases q2
        exact place j (some n) cid hp _ u (by rw [this]; exact hv.mono (L' := L) kk (fun _ _ => rfl))
      cases e0 with
      | box cs0 =>
        cases q2
        obtain ⟨l, cvs, el, h1, h2, h3⟩ := hre
        exact ⟨l, cvs, el, by rw [q3]; exact h1, h2, cells _ h3⟩
      | fill e xs cs0 zc n tt =>
        cases q2
        obtain ⟨l, cvs, el, h1, h2, h3, h4, h5, h6, h7, h8, h9⟩ := hre
        refine ⟨l, cvs, el, by rw [q3]; exact h1, h2, h3, h4, h5, h6, h7, h8.mono kk fun o v hc _ => hc, ?_⟩
        have hl : (canonCells kp.rows ρ j 0 cs).length = cs.length := canonCells_len _ _
        exact { le := h9.le, tk := (fun h => by cases h), cl := by rw [hl]; exact h9.cl, zl := h9.zl, zi := h9.zi
                at' := fun hm => by obtain ⟨us, p1, p2⟩ := h9.at' hm; exact ⟨us, cells us p1, p2⟩
                zs := h9.zs }
      | row => cases q2
      | fz => cases q2
      | tomb => cases q2
      | tree => cases q2
      | nils => cases q2
      | one => cases q2
    · exact again_rep q2 q3 ((h.e.en id _ q1).ok_mono hok)
    · rcases hn with ⟨τ, rfl⟩ | ⟨τ, rfl⟩
      · simp only [RepE]; rw [q3]; exact ⟨by simp, trivial⟩
      · simp only [RepE]; rw [q3]; exact ⟨trivial, trivial⟩
    · trivial
  · intro j e' hj i hi
    rcases cases' j e' hj with ⟨e0, cs, q1, q2, rfl, q3⟩ | ⟨id, e0, q1, q2, q3, _⟩ | ⟨hn, q3⟩ | rfl
    · have hi : i ∈ (e0.setC (canonCells kp.rows ρ j 0 cs)).ids := hi
      rw [setC_ids q2] at hi
      rcases canonCells_ids hi with ⟨a, off, hp⟩ | ⟨i', hi'⟩
      · exact isP a off i hp
      · exact isR i' i hi'
    · rw [again_nms q2] at hi; cases hi
    · rcases hn with ⟨τ, rfl⟩ | ⟨τ, rfl⟩ <;> simp [Ent.nms] at hi
    · simp [Ent.nms] at hi
  · intro i j e f l m hi hj hl hm oe of ne x hx hy
    -- each comes from an entry of before, which owns as much; two of two
    have from' : ∀ i e l, t.look i = some e → L' i = some l → owner e → ∀ x, blks e l x → ∃ id e0, s.look id = some e0 ∧ L id = some l ∧ owner e0 ∧ blks e0 l x ∧ ((id = i ∧ i ∈ kp.boxes) ∨ ((id, i) ∈ ren ∧ i ∉ kp.boxes)) := by
      intro i e l hi hl oe x hx
      have hib : ∀ e0 cs, s.look i = some e0 → e0.cellsOf = some cs → e = e0.setC (canonCells kp.rows ρ i 0 cs) → i ∈ kp.boxes := by
        intro e0 cs q1 q2 q3
        refine Classical.byContradiction fun hn => ?_
        rw [tlook] at hi
        rcases List.mem_append.mp (lookT_mem hi) with hm1 | hm1
        · rcases List.mem_append.mp hm1 with hm | hm
          · exact hn (by rw [← bk]; exact List.mem_map.mpr ⟨_, hm, rfl⟩)
          · have hjc : i ∈ kp.rows.map (·.2.1) := by rw [← R.keys]; exact List.mem_map.mpr ⟨_, hm, rfl⟩
            rcases R.src _ hm with ⟨id, e1, _, _, r3⟩ | ⟨r1, _⟩
            · have r3 : e1.again = some e := r3
              rw [q3] at r3
              unfold Ent.again at r3
              cases e0 <;> (first | (cases q2; split at r3 <;> cases r3) | cases q2)
            · have r1 : e.isNil := r1
              rw [q3] at r1
              rcases r1 with ⟨τ, r1⟩ | ⟨τ, r1⟩ <;> (cases e0 <;> (first | (cases q2; cases r1) | cases q2))
        · obtain ⟨k, _, hk⟩ := List.mem_map.mp hm1
          cases hk; exact oe.elim
      rcases cases' i e hi with ⟨e0, cs, q1, q2, rfl, q3⟩ | ⟨id, e0, q1, q2, q3, q4⟩ | ⟨hn, q3⟩ | rfl
      · rw [q3] at hl
        exact ⟨i, e0, q1, hl, cellsOf_owner q2, by rwa [setC_blks] at hx, .inl ⟨rfl, hib e0 cs q1 q2 rfl⟩⟩
      · rw [q3] at hl
        exact ⟨id, e0, q1, hl, again_owner q2, by rwa [again_blks q2] at hx, q4.symm⟩
      · rw [q3] at hl; cases hl
      · exact oe.elim
    obtain ⟨id, e0, p1, p2, p3, p4, p5⟩ := from' i e l hi hl oe x hx
    obtain ⟨id', f0, r1, r2, r3, r4, r5⟩ := from' j f m hj hm of x hy
    refine h.e.dis id id' e0 f0 l m p1 r1 p2 r2 p3 r3 (fun e1 => ?_) x p4 r4
    subst e1
    have nrb : ∀ c, (id, c) ∈ ren → id ∉ kp.boxes := fun c hc => by
      have := List.all_eq_true.mp hrb _ hc
      simpa using this
    rcases p5 with ⟨e2, e3⟩ | ⟨e2, e3⟩
    · rcases r5 with ⟨e4, e5⟩ | ⟨e4, e5⟩
      · exact ne (e2.symm.trans e4)
      · exact nrb j e4 (e2 ▸ e3)
    · rcases r5 with ⟨e4, e5⟩ | ⟨e4, e5⟩
      · exact nrb i e2 (e4 ▸ e5)
      · have g1 := lookT_of_mem R.nd e2
        have g2 := lookT_of_mem R.nd e4
        rw [g1] at g2; exact ne (some_inj g2)
  · intro i e l hi hl oe x hx
    rcases cases' i e hi with ⟨e0, cs, q1, q2, rfl, q3⟩ | ⟨id, e0, q1, q2, q3, q4⟩ | ⟨hn, q3⟩ | rfl
    · rw [q3] at hl; rw [setC_owns]; rw [setC_blks] at hx; exact h.e.own i _ l q1 hl (cellsOf_owner q2) x hx
    · rw [q3] at hl; rw [again_owns q2]; rw [again_blks q2] at hx; exact h.e.own id _ l q1 hl (again_owner q2) x hx
    · rw [q3] at hl; cases hl
    · exact oe.elim
  · intro j
    rw [tget]
    cases hv : lookT (canonTm s kp.rows ρ kp.slots) j with
    | none => simp only [RepV]
    | some v =>
      simp only
      have hv := canonTm_get _ _ _ hv
      have h0 := (h.tm j).mono (L' := L) (ok' := okOf F L' t) (fun b o v p q => ⟨hok b o p, q⟩) (fun _ _ => rfl)
      subst hv
      split
      · rename_i cid hp
        exact place j none cid hp _ _ (by simpa only [placeV] using h0)
      · exact h0.rn (turn _)
  · intro j i hi
    rw [tget] at hi
    cases hv : lookT (canonTm s kp.rows ρ kp.slots) j with
    | none => rw [hv] at hi; simp [EV.ids] at hi
    | some v =>
      rw [hv] at hi
      simp only at hi
      have hv := canonTm_get _ _ _ hv
      subst hv
      split at hi
      · rename_i cid hp; simp [EV.ids] at hi; subst hi; exact isP _ _ _ hp
      · obtain ⟨i', _, hi'⟩ := EV.rn_ids hi; exact isR i' i hi'

theorem swapN_swapN (a b i : Nat) : swapN a b (swapN a b i) = i := by
  simp only [swapN, beq_nat, cond_dec]
  by_cases h1 : i = a
  · subst h1
    simp only [if_true]
    by_cases h2 : b = i
    · subst h2; simp
    · simp [h2]
  · by_cases h2 : i = b
    · subst h2; simp [h1]
    · simp [h1, h2]
theorem swapN_fix {a b i m : Nat} (ha : m ≤ a) (hb : m ≤ b) (hi : i < m) : swapN a b i = i := by
  simp only [swapN, beq_nat, cond_dec]
  rw [if_neg (by omega), if_neg (by omega)]
theorem St.swap_look (p q : Nat) (s : St G) (i : Nat) : (s.swap p q).look i = (s.look (swapN p q i)).map (Ent.rn fun i => some (swapN p q i)) := by
  simp only [St.swap, St.look]
  generalize s.en = l
  induction l with
  | nil => rfl
  | cons x l ih =>
    obtain ⟨j, e⟩ := x
    simp only [List.map_cons, lookT_cons]
    by_cases h : j = swapN p q i
    · subst h; rw [swapN_swapN]; simp
    · have h' : ¬ swapN p q j = i := fun e => h (by rw [← e, swapN_swapN])
      rw [if_neg h, if_neg h', ih]
theorem St.swap_get (p q : Nat) (s : St G) (t : Nat) : (s.swap p q).get t = (s.get t).rn fun i => some (swapN p q i) := by
  simp only [St.swap, St.get]
  generalize s.tm = l
  induction l with
  | nil => rfl
  | cons x l ih =>
    obtain ⟨j, v⟩ := x
    simp only [List.map_cons, lookT_cons]
    by_cases h : j = t
    · simp [h]
    · simp only [if_neg h]; exact ih
theorem swap_rel {p q : Nat} (hp : F.n ≤ p) (hq : F.n ≤ q) (h : Rel F nt L s a w) : Rel F nt (fun i => L (swapN p q i)) (s.swap p q) a w := by
  have turn : ∀ ids, Turn (fun i => some (swapN p q i)) L (fun i => L (swapN p q i)) ids := by
    intro ids i _ j hj
    cases hj
    simp only [swapN_swapN]
  have inv : ∀ {i : Nat} {e : Ent G}, (s.swap p q).look i = some e → ∃ e0, s.look (swapN p q i) = some e0 ∧ e = e0.rn fun i => some (swapN p q i) := by
    intro i e hi
    rw [St.swap_look] at hi
    cases h0 : s.look (swapN p q i) with
    | none => rw [h0] at hi; cases hi
    | some e0 => rw [h0] at hi; cases hi; exact ⟨e0, rfl, rfl⟩
  have ownd : ∀ b o, owned (s.swap p q) (fun i => L (swapN p q i)) b o ↔ owned s L b o := by
    intro b o
    constructor
    · rintro ⟨i, e, l, hi, hl, hw⟩
      obtain ⟨e0, h0, rfl⟩ := inv hi
      exact ⟨_, e0, l, h0, hl, by rwa [Ent.rn_owns] at hw⟩
    · rintro ⟨i, e, l, hi, hl, hw⟩
      refine ⟨swapN p q i, e.rn fun i => some (swapN p q i), l, ?_, ?_, by rw [Ent.rn_owns]; exact hw⟩
      · rw [St.swap_look, swapN_swapN, hi]; rfl
      · simp only [swapN_swapN]; exact hl
  have hok : okOf F (fun i => L (swapN p q i)) (s.swap p q) = okOf F L s := by
    funext b o
    simp only [okOf, eq_iff_iff]
    rw [ownd]
  have isS : ∀ {i : Nat}, (s.look i).isSome → ((s.swap p q).look (swapN p q i)).isSome := by
    intro i hi
    rw [St.swap_look, swapN_swapN]
    cases h0 : s.look i with
    | none => rw [h0] at hi; cases hi
    | some e => rfl
  refine ⟨⟨h.e.fits, ?_, ?_, ?_, ?_, ?_⟩, ?_, ?_, h.defers, h.size⟩
  · intro i e hi
    obtain ⟨e0, h0, rfl⟩ := inv hi
    rw [hok]
    exact RepE.rn (i := swapN p q i) rfl (turn _) (h.e.en _ _ h0)
  · intro i e hi j hj
    obtain ⟨e0, h0, rfl⟩ := inv hi
    obtain ⟨k, hk, hk2⟩ := Ent.rn_ids hj
    cases hk2
    exact isS (h.e.ids _ _ h0 k hk)
  · intro i j e f l m hi hj hl hm oe of ne x hx hy
    obtain ⟨e0, h0, rfl⟩ := inv hi
    obtain ⟨f0, g0, rfl⟩ := inv hj
    rw [Ent.rn_blks] at hx hy
    refine h.e.dis _ _ _ _ l m h0 g0 hl hm (Ent.rn_owner.mp oe) (Ent.rn_owner.mp of) (fun e => ne ?_) x hx hy
    have := congrArg (swapN p q) e
    rwa [swapN_swapN, swapN_swapN] at this
  · intro i e l hi hl oe x hx
    obtain ⟨e0, h0, rfl⟩ := inv hi
    rw [Ent.rn_blks] at hx
    rw [Ent.rn_owns]
    exact h.e.own _ _ l h0 hl (Ent.rn_owner.mp oe) x hx
  · intro i hi
    have h1 := h.e.lent i hi
    rw [St.swap_look, swapN_fix hp hq hi]
    refine ⟨?_, h1.2⟩
    cases h0 : s.look i with
    | none => rw [h0] at h1; exact h1.1
    | some e => rfl
  · intro t
    rw [hok, St.swap_get]
    exact (h.tm t).rn (turn _)
  · intro t j hj
    rw [St.swap_get] at hj
    obtain ⟨k, hk, hk2⟩ := EV.rn_ids hj
    cases hk2
    exact isS (h.tids t k hk)
theorem swaps_rel {m : Nat} (hm : F.n = m) : ∀ (l : List (Nat × Nat)) {s : St G} {L : LM}, Rel F nt L s a w → ∃ L', Rel F nt L' (swaps m l s) a w := by
  intro l
  induction l with
  | nil => intro s L h; exact ⟨L, h⟩
  | cons x l ih =>
    intro s L h
    obtain ⟨t, c⟩ := x
    simp only [swaps]
    split
    · rename_i i _ _
      cases hb : (Nat.ble m i && Nat.ble m c) with
      | false => exact ih h
      | true =>
        obtain ⟨h1, h2⟩ := band hb
        exact ih (swap_rel (by rw [hm]; exact Nat.le_of_ble_eq_true h1) (by rw [hm]; exact Nat.le_of_ble_eq_true h2) h)
    · exact ih h
theorem cut_rel {t c i lo n lock : Nat} {e : Ty} {xs : List (G.D e)} (hv : s.get t = .vw i lo n) (hi : s.look i = some (.row e xs lock)) (hc : s.look c = none) (hlk : lock ≤ lo + n) (h : Rel F nt L s a w) :
    ∃ L', Rel F nt L' { tm := (t, .ow c) :: s.tm, en := (c, .row e ((xs.drop lo).take n) (lock - lo)) :: (i, .tomb) :: s.en } a w := by
  have hne : c ≠ i := fun e0 => by rw [e0, hi] at hc; cases hc
  let nl : Option Loc := (L i).map fun l => { b := l.b, off := l.off + lo * l.sz, sz := l.sz, cap := l.cap - lo, len := n }
  let L' : LM := fun j => if j = c then nl else L j
  have hLc : L' c = nl := if_pos rfl
  have hLo : ∀ j, j ≠ c → L' j = L j := fun j hj => if_neg hj
  refine ⟨L', ?_⟩
  generalize hs' : ({ tm := (t, .ow c) :: s.tm, en := (c, .row e ((xs.drop lo).take n) (lock - lo)) :: (i, .tomb) :: s.en } : St G) = s'
  have look' : ∀ j, s'.look j = if c = j then some (.row e ((xs.drop lo).take n) (lock - lo)) else if i = j then some .tomb else s.look j := by
    intro j
    rw [← hs']
    simp only [St.look, lookT_cons]
  have get' : ∀ j, s'.get j = if t = j then .ow c else s.get j := by
    intro j
    rw [← hs']
    simp only [St.get, lookT_cons]
    by_cases hj : t = j
    · rw [if_pos hj, if_pos hj]
    · rw [if_neg hj, if_neg hj]
  have hrep := h.tm t
  rw [hv] at hrep
  simp only [RepV] at hrep
  have hent := h.e.en i _ hi
  simp only [RepE] at hent
  -- what is owned becomes less
  have ownd : ∀ b o, owned s' L' b o → owned s L b o := by
    rintro b o ⟨j, f, l, hj, hl, hw⟩
    rw [look'] at hj
    split at hj
    · rename_i e0
      subst e0
      cases hj
      rw [hLc] at hl
      cases hLi : L i with
      | none => simp only [nl, hLi, Option.map_none] at hl; cases hl
      | some l0 =>
        simp only [nl, hLi, Option.map_some, Option.some.injEq] at hl
        subst hl
        refine ⟨i, _, l0, hi, hLi, hw.1, ?_⟩
        have h2 := hw.2
        simp only at h2
        have : lock * l0.sz ≤ (lo + (lock - lo)) * l0.sz := Nat.mul_le_mul_right _ (by omega)
        rw [Nat.add_mul] at this
        omega
    · rename_i hjc
      split at hj
      · cases hj; exact hw.elim
      · rw [hLo j (fun e => hjc e.symm)] at hl
        exact ⟨j, f, l, hj, hl, hw⟩
  have hok : ∀ b o, okOf F L s b o → okOf F L' s' b o := fun b o hb => ⟨hb.1, fun ho => hb.2 (ownd b o ho)⟩
  have isS : ∀ j, (s.look j).isSome → (s'.look j).isSome := by
    intro j hj
    rw [look']
    split
    · rfl
    · split
      · rfl
      · exact hj
  have nec : ∀ {j : Nat}, (s.look j).isSome → j ≠ c := fun {j} hj e0 => by rw [e0, hc] at hj; cases hj
  have same : ∀ {ids : List Nat}, (∀ j ∈ ids, (s.look j).isSome) → Same L L' ids := fun hids j hj => .of (hLo j (nec (hids j hj)))
  have keeps : Keeps (okOf F L s) (okOf F L' s') w w := fun b o v p q => ⟨hok b o p, q⟩
  refine ⟨⟨h.e.fits, ?_, ?_, ?_, ?_, ?_⟩, ?_, ?_, h.defers, h.size⟩
  · intro j f hj
    rw [look'] at hj
    split at hj
    · rename_i e0; subst e0
      cases hj
      simp only [RepE]
      rw [hLc]
      cases hLi : L i with
      | none =>
        simp only [hLi] at hrep hent
        obtain ⟨A, _, p1, p2⟩ := hrep
        subst p1; subst p2
        refine ⟨by simp; omega, ?_⟩
        simp only [nl, hLi, Option.map_none]
        simp
      | some l0 =>
        simp only [hLi] at hrep hent
        obtain ⟨A, cc, _, p1, p2, p3, p4⟩ := hrep
        obtain ⟨q1, q2, q3, q4, ⟨cvs, el, q5, q6⟩, ⟨css, q7⟩⟩ := hent
        have hlen : ((xs.drop lo).take n).length = n := by simp; omega
        refine ⟨by rw [hlen]; omega, ?_⟩
        simp only [nl, hLi, Option.map_some]
        refine ⟨q2, hlen.symm, by omega, ⟨cvs, el, q5, ?_⟩, ⟨fun k => css (lo + k), fun k hk => ?_⟩⟩
        · have : (lo + (l0.cap - lo)) * l0.sz ≤ l0.cap * l0.sz := Nat.mul_le_mul_right _ (by omega)
          rw [Nat.add_mul] at this
          omega
        · rw [hlen] at hk
          have e1 : ((xs.drop lo).take n)[k] = xs[lo + k]'(by omega) := by simp
          rw [e1]
          have q8 := q7 (lo + k) (by omega)
          refine ⟨q8.1.mono keeps, fun j v hj => ?_⟩
          have := q8.2 j v hj
          have e2 : l0.off + lo * l0.sz + (k * szT G e + j) = l0.off + ((lo + k) * szT G e + j) := by rw [q2, Nat.add_mul]; omega
          rw [e2]; exact this
    · rename_i hjc
      split at hj
      · cases hj; trivial
      · exact (h.e.en j f hj).mono keeps (hLo j (fun e => hjc e.symm)) (fun _ _ _ _ _ => rfl) (same (h.e.ids j f hj))
  · intro j f hj k hk
    rw [look'] at hj
    split at hj
    · cases hj; simp [Ent.nms] at hk
    · split at hj
      · cases hj; simp [Ent.nms] at hk
      · exact isS k (h.e.ids j f hj k hk)
  · intro j k f g l m hj hk hl hm of og ne x hx hy
    rw [look'] at hj hk
    have back : ∀ {l : Loc}, L' c = some l → ∃ l0, L i = some l0 ∧ l.b = l0.b := by
      intro l hl
      rw [hLc] at hl
      cases hLi : L i with
      | none => simp only [nl, hLi, Option.map_none] at hl; cases hl
      | some l0 => simp only [nl, hLi, Option.map_some, Option.some.injEq] at hl; subst hl; exact ⟨l0, rfl, rfl⟩
    split at hj
    · rename_i e0; subst e0
      cases hj
      have hx : x = l.b := hx
      obtain ⟨l0, r1, r2⟩ := back hl
      split at hk
      · rename_i e1; exact absurd e1 ne
      · rename_i hkc
        split at hk
        · cases hk; exact og.elim
        · rename_i hki
          rw [hLo k (fun e => hkc e.symm)] at hm
          exact h.e.dis i k _ g l0 m hi hk r1 hm trivial og hki x (hx.trans r2) hy
    · rename_i hjc
      split at hj
      · cases hj; exact of.elim
      · rename_i hji
        rw [hLo j (fun e => hjc e.symm)] at hl
        split at hk
        · rename_i e1; subst e1
          cases hk
          have hy : x = m.b := hy
          obtain ⟨m0, r1, r2⟩ := back hm
          exact h.e.dis j i f _ l m0 hj hi hl r1 of trivial (fun e => hji e.symm) x hx (hy.trans r2)
        · rename_i hkc
          split at hk
          · cases hk; exact og.elim
          · rw [hLo k (fun e => hkc e.symm)] at hm
            exact h.e.dis j k f g l m hj hk hl hm of og ne x hx hy
  · intro j f l hj hl of x hx
    rw [look'] at hj
    split at hj
    · rename_i e0; subst e0
      cases hj
      rw [hLc] at hl
      cases hLi : L i with
      | none => simp only [nl, hLi, Option.map_none] at hl; cases hl
      | some l0 =>
        simp only [nl, hLi, Option.map_some, Option.some.injEq] at hl
        subst hl
        have hx : x = l0.b := hx
        subst hx
        obtain ⟨r1, r2⟩ := h.e.ownb i _ l0 hi hLi trivial
        refine ⟨r1, r2.imp (fun h => h) fun r2 o => ⟨fun ho => (r2 o).1 ⟨rfl, ?_⟩, (r2 o).2⟩⟩
        have h2 := ho.2
        simp only at h2
        have : lock * l0.sz ≤ (lo + (lock - lo)) * l0.sz := Nat.mul_le_mul_right _ (by omega)
        rw [Nat.add_mul] at this
        omega
    · rename_i hjc
      split at hj
      · cases hj; exact of.elim
      · rw [hLo j (fun e => hjc e.symm)] at hl
        exact h.e.own j f l hj hl of x hx
  · intro j hj
    have h1 := h.e.lent j hj
    exact ⟨isS j h1.1, by rw [hLo j (nec h1.1)]; exact h1.2⟩
  · intro j
    rw [get']
    split
    · rename_i e0; subst e0
      simp only [RepV]
      rw [hLc]
      cases hLi : L i with
      | none =>
        simp only [hLi] at hrep
        obtain ⟨A, p0, _, _⟩ := hrep
        simp only [nl, hLi, Option.map_none]
        exact ⟨A, p0⟩
      | some l0 =>
        simp only [hLi] at hrep
        obtain ⟨A, cc, p0, p1, p2, p3, p4⟩ := hrep
        simp only [nl, hLi, Option.map_some]
        exact ⟨A, cc, p0, p1, by omega, p4⟩
    · exact (h.tm j).mono keeps (same (h.tids j))
  · intro j k hk
    rw [get'] at hk
    split at hk
    · simp [EV.ids] at hk; subst hk
      rw [look', if_pos rfl]; rfl
    · exact isS k (h.tids j k hk)
theorem cuts_rel : ∀ (l : List (Nat × Nat)) {s : St G} {L : LM}, Rel F nt L s a w → ∃ L', Rel F nt L' (cuts l s) a w := by
  intro l
  induction l with
  | nil => intro s L h; exact ⟨L, h⟩
  | cons x l ih =>
    intro s L h
    obtain ⟨t, c⟩ := x
    simp only [cuts]
    split
    · rename_i i lo n hv
      split
      · rename_i e xs lock hi
        split
        · rename_i hc
          cases hb : lockOK lock (lo + n) with
          | false => exact ih h
          | true =>
            obtain ⟨L1, h1⟩ := cut_rel hv hi hc (lockOK_le hb) h
            exact ih h1
        · exact ih h
      · exact ih h
    · exact ih h
theorem canon_shape {m : Nat} {kp : Keep} (hc : canon m kp s = some s') : s' = kp.st (s'.tm.map (·.2)) ((s'.en.map (·.2)).take (kp.boxes.length + kp.rows.length)) := canon0_shape hc
theorem canon_rel {m : Nat} (hm0 : F.n = m) (h : Rel F nt L s a w) {kp : Keep} (hc : canon m kp s = some s') : (∃ L', Rel F nt L' s' a w) ∧ s' = kp.st (s'.tm.map (·.2)) ((s'.en.map (·.2)).take (kp.boxes.length + kp.rows.length)) := by
  obtain ⟨L1, h1⟩ := swaps_rel hm0 kp.mv h
  obtain ⟨L2, h2⟩ := cuts_rel kp.cut h1
  exact canon0_rel hm0 (frsts_rel kp.frs (fins_rel kp.fin (closes_rel kp.cls h2))) hc
end
end Go.Abs
end
section
set_option linter.all false
set_option linter.unusedVariables false
set_option linter.unusedSimpArgs false
set_option linter.unnecessarySimpa false
/-
  ABS, part 28: code, and its loops.
-/
namespace Go.Abs
open Go
variable {G : Gam}

def Ex.toExit : Ex → Exit
  | .normal => .normal
  | .exit id => .exit id
  | .ret => .ret
def ExecOK (E : Env G) (c : Code) (s : St G) (e : Ex) (s' : St G) : Prop :=
  ∀ (F : Frm) (L : LM) (a : Act) (w : World), F.n = E.m → Rel F E.nt L s a w → c.wp E.P (fun x a' w' => x = e.toExit ∧ ∃ L', Rel F E.nt L' s' a' w') a w

/-- The loops in a piece of code. -/
def loopsIn : Code → List Code
  | .seq a b => loopsIn a ++ loopsIn b
  | .cond _ a b => loopsIn a ++ loopsIn b
  | .block _ b => loopsIn b
  | .loop b => b :: loopsIn b
  | _ => []

def LoopOK (E : Env G) (c : Code) (T : LoopT G) : Prop :=
  ∀ (R : Type) (vs : List (EV G)) (es : List (Ent G)) (k : Ex → St G → Option R) (r : R), T.sem R vs es k = some r → ∃ e s', k e s' = some r ∧ ExecOK E (.loop c) (T.keep.st vs es) e s'

structure EnvOK (E : Env G) : Prop where
  fns : ∀ f T, E.fns f = some T → FnOK E.P f T
  eqs : ∀ t ∈ E.eqs, EqOK E.P t
  mixed : E.P.follows .mixedOrders = true

section
variable {E : Env G}

theorem exec_sound (hE : EnvOK E) {R : Type} : ∀ (c : Code), (∀ c' ∈ loopsIn c, ∀ key T, firstRegion c' = some key → E.loops key = some T → LoopOK E c' T) → ∀ (s : St G) (k : Ex → St G → Option R) (r : R), exec E c s k = some r →
    ∃ e s', k e s' = some r ∧ ExecOK E c s e s' := by
  intro c
  induction c with
  | skip => intro _ s k r h; exact ⟨.normal, s, h, fun F L a w hn hr => wp_skip ⟨rfl, L, hr⟩⟩
  | region id ops draw =>
    intro _ s k r h
    obtain ⟨s', h1, h2⟩ := region_sound hE.fns hE.eqs hE.mixed h
    exact ⟨.normal, s', h1, fun F L a w hn hr => h2 F L a w _ hr fun L' a' w' h' => ⟨rfl, L', h'⟩⟩
  | seq x y ihx ihy =>
    intro hl s k r h
    simp only [exec] at h
    obtain ⟨e, s1, h, hx⟩ := ihx (fun c' hc => hl c' (by simp [loopsIn, hc])) s _ r h
    cases e with
    | normal =>
      obtain ⟨e, s', h, hy⟩ := ihy (fun c' hc => hl c' (by simp [loopsIn, hc])) s1 k r h
      refine ⟨e, s', h, fun F L a w hn hr => wp_seq (wp_mono (hx F L a w hn hr) ?_)⟩
      rintro x a' w' ⟨rfl, L', h'⟩
      exact hy F L' a' w' hn h'
    | exit id =>
      refine ⟨.exit id, s1, h, fun F L a w hn hr => wp_seq (wp_mono (hx F L a w hn hr) ?_)⟩
      rintro x a' w' ⟨rfl, L', h'⟩
      exact ⟨rfl, L', h'⟩
    | ret =>
      refine ⟨.ret, s1, h, fun F L a w hn hr => wp_seq (wp_mono (hx F L a w hn hr) ?_)⟩
      rintro x a' w' ⟨rfl, L', h'⟩
      exact ⟨rfl, L', h'⟩
  | cond c x y ihx ihy =>
    intro hl s k r h
    simp only [exec] at h
    split at h
    · rename_i t ht
      cases t with
      | true =>
        obtain ⟨e, s', h, hx⟩ := ihx (fun c' hc => hl c' (by simp [loopsIn, hc])) s k r h
        exact ⟨e, s', h, fun F L a w hn hr => wp_cond_true (hr.bool ht) (hx F L a w hn hr)⟩
      | false =>
        obtain ⟨e, s', h, hx⟩ := ihy (fun c' hc => hl c' (by simp [loopsIn, hc])) s k r h
        exact ⟨e, s', h, fun F L a w hn hr => wp_cond_false (hr.bool ht) (hx F L a w hn hr)⟩
    · cases h
  | block id c ih =>
    intro hl s k r h
    simp only [exec] at h
    obtain ⟨e, s1, h, hx⟩ := ih (fun c' hc => hl c' (by simpa [loopsIn] using hc)) s _ r h
    cases e with
    | normal =>
      refine ⟨.normal, s1, h, fun F L a w hn hr => wp_block (wp_mono (hx F L a w hn hr) ?_)⟩
      rintro x a' w' ⟨rfl, L', h'⟩
      exact ⟨rfl, L', h'⟩
    | exit j =>
      simp only [beq_nat, cond_dec] at h
      by_cases hj : j = id
      · rw [if_pos hj] at h
        refine ⟨.normal, s1, h, fun F L a w hn hr => wp_block (wp_mono (hx F L a w hn hr) ?_)⟩
        rintro x a' w' ⟨rfl, L', h'⟩
        simp only [Ex.toExit, Exit.inBlock, hj, if_true]
        exact ⟨trivial, L', h'⟩
      · rw [if_neg hj] at h
        refine ⟨.exit j, s1, h, fun F L a w hn hr => wp_block (wp_mono (hx F L a w hn hr) ?_)⟩
        rintro x a' w' ⟨rfl, L', h'⟩
        simp only [Ex.toExit, Exit.inBlock, hj, if_false]
        exact ⟨trivial, L', h'⟩
    | ret =>
      refine ⟨.ret, s1, h, fun F L a w hn hr => wp_block (wp_mono (hx F L a w hn hr) ?_)⟩
      rintro x a' w' ⟨rfl, L', h'⟩
      exact ⟨rfl, L', h'⟩
  | loop c ih =>
    intro hl s k r h
    simp only [exec] at h
    split at h
    · cases h
    rename_i key hkey
    split at h
    · cases h
    rename_i T hT
    split at h
    · cases h
    rename_i s1 hs1
    obtain ⟨e, s', h, hx⟩ := hl c (by simp [loopsIn]) key T hkey hT _ _ _ _ _ h
    refine ⟨e, s', h, fun F L a w hn hr => ?_⟩
    obtain ⟨⟨L1, h1⟩, hsh⟩ := canon_rel hn hr hs1
    rw [hsh] at h1
    exact hx F L1 a w hn h1
  | exit id => intro _ s k r h; exact ⟨.exit id, s, h, fun F L a w hn hr => wp_exit ⟨rfl, L, hr⟩⟩
  | ret => intro _ s k r h; exact ⟨.ret, s, h, fun F L a w hn hr => wp_ret ⟨rfl, L, hr⟩⟩
  | _ => intro _ s k r h; simp only [exec] at h; cases h

/-- The rounds of a loop. -/
inductive Rounds (E : Env G) (c : Code) (kp : Keep) : Nat → St G → Ex → St G → Prop
  | out (n : Nat) (s : St G) (e : Ex) (s1 : St G) (h : ExecOK E c s e s1) (hne : e ≠ .normal) : Rounds E c kp (n + 1) s e s1
  | again (n : Nat) (s s1 s2 : St G) (e : Ex) (s' : St G) (h : ExecOK E c s .normal s1) (hc : canon E.m kp s1 = some s2) (hr : Rounds E c kp n s2 e s') : Rounds E c kp (n + 1) s e s'

theorem least {p : Nat → Prop} (h : ∃ n, p n) : ∃ n, p n ∧ ∀ m, p m → n ≤ m := by
  refine Classical.byContradiction fun hc => ?_
  have none : ∀ n, ¬ p n := by
    intro n
    induction n using Nat.strongRecOn with
    | _ n ih =>
      intro hn
      refine hc ⟨n, hn, fun m hm => ?_⟩
      rcases Nat.lt_or_ge m n with h1 | h1
      · exact absurd hm (ih m h1)
      · exact h1
  obtain ⟨n, hn⟩ := h
  exact none n hn

theorem rounds_ok {c : Code} {kp : Keep} {n : Nat} {s s' : St G} {e : Ex} (h : Rounds E c kp n s e s') : ExecOK E (.loop c) s e s' := by
  intro F L a w hn hr
  classical
  let Good : Nat → Act → World → Prop := fun n a w => ∃ s L, Rounds E c kp n s e s' ∧ Rel F E.nt L s a w
  let μ : Act → World → Nat := fun a w => if hx : ∃ n, Good n a w then Classical.choose (least hx) else 0
  have hμ : ∀ n a w, Good n a w → μ a w ≤ n := fun n a w hg => by
    have hx : ∃ n, Good n a w := ⟨n, hg⟩
    simp only [μ, dif_pos hx]
    exact (Classical.choose_spec (least hx)).2 n hg
  refine wp_loop (fun a w => ∃ n, Good n a w) μ ⟨n, s, L, h, hr⟩ ?_
  intro a w hx
  have hf : Good (Classical.choose (least hx)) a w := (Classical.choose_spec (least hx)).1
  have hm : μ a w = Classical.choose (least hx) := by simp only [μ, dif_pos hx]
  obtain ⟨s0, L0, hro, hrel⟩ := hf
  generalize Classical.choose (least hx) = m at hro hm
  cases hro with
  | out n s e' s1 hb hne =>
    refine wp_mono (hb F L0 a w hn hrel) ?_
    rintro x a' w' ⟨rfl, L', h'⟩
    cases e with
    | normal => exact absurd rfl hne
    | exit id => exact ⟨rfl, L', h'⟩
    | ret => exact ⟨rfl, L', h'⟩
  | again n s s1 s2 e' s'' hb hc hro =>
    refine wp_mono (hb F L0 a w hn hrel) ?_
    rintro x a' w' ⟨rfl, L', h'⟩
    obtain ⟨⟨L2, h2⟩, _⟩ := canon_rel hn h' hc
    have hg : Good n a' w' := ⟨s2, L2, hro, h2⟩
    refine ⟨⟨n, hg⟩, ?_⟩
    have := hμ n a' w' hg
    omega

/-- What a loop's body hands on. -/
def nextE {R : Type} (m : Nat) (kp : Keep) (again : List (EV G) → List (Ent G) → Option R) (k : Ex → St G → Option R) : Ex → St G → Option R := fun e s =>
  match e with
  | .normal => match canon m kp s with
    | some s2 => again (s2.tm.map (·.2)) ((s2.en.map (·.2)).take (kp.boxes.length + kp.rows.length))
    | none => none
  | e => k e s

/-- A loop whose rounds are told by fuel. -/
theorem loop_ok (hE : EnvOK E) {c : Code} {kp : Keep} (hl : ∀ c' ∈ loopsIn c, ∀ key T, firstRegion c' = some key → E.loops key = some T → LoopOK E c' T)
    (sem : (R : Type) → Nat → List (EV G) → List (Ent G) → (Ex → St G → Option R) → Option R)
    (h0 : ∀ R vs es k, sem R 0 vs es k = none)
    (hs : ∀ R n vs es k r, sem R (n + 1) vs es k = some r → exec E c (kp.st vs es) (nextE E.m kp (fun vs es => sem R n vs es k) k) = some r) (n : Nat) :
    LoopOK E c { keep := kp, sem := fun R vs es k => sem R n vs es k } := by
  have key : ∀ (R : Type) (n : Nat) (vs : List (EV G)) (es : List (Ent G)) (k : Ex → St G → Option R) (r : R), sem R n vs es k = some r → ∃ e s', k e s' = some r ∧ Rounds E c kp n (kp.st vs es) e s' := by
    intro R n
    induction n with
    | zero => intro vs es k r h; rw [h0] at h; cases h
    | succ n ih =>
      intro vs es k r h
      obtain ⟨e, s1, h, hx⟩ := exec_sound hE c hl _ _ _ (hs R n vs es k r h)
      cases e with
      | normal =>
        simp only [nextE] at h
        split at h
        · rename_i s2 hs2
          obtain ⟨e, s', h, hr⟩ := ih _ _ _ _ h
          -- the shape of what is told anew is the keep's
          have hsh : s2 = kp.st (s2.tm.map (·.2)) ((s2.en.map (·.2)).take (kp.boxes.length + kp.rows.length)) := canon_shape hs2
          rw [← hsh] at hr
          exact ⟨e, s', h, .again n _ s1 s2 e s' hx hs2 hr⟩
        · cases h
      | exit id => exact ⟨.exit id, s1, h, .out n _ _ s1 hx (by simp)⟩
      | ret => exact ⟨.ret, s1, h, .out n _ _ s1 hx (by simp)⟩
  intro R vs es k r h
  obtain ⟨e, s', h1, h2⟩ := key R n vs es k r h
  exact ⟨e, s', h1, rounds_ok h2⟩
end
end Go.Abs
end
section
set_option linter.all false
set_option linter.unusedVariables false
set_option linter.unusedSimpArgs false
set_option linter.unnecessarySimpa false
/-
  ABS, part 29: functions.
-/
namespace Go.Abs
open Go
variable {G : Gam}

section
variable {P : Program} {F : Frm} {nt : Nat} {L : LM} {s : St G} {a : Act} {w : World}

/-! ### results, read -/
theorem loadE_ptr (h : Rel F nt L s a w) {t : Nat} {x : Operand} {v : EV G} (hf : loadE P s t (s.ev x) = some v) : ∃ A, a.eval x = .pointer (some A) := by
  have hv := h.ev x
  unfold loadE at hf
  split at hf
  · rename_i hx; rw [hx] at hv; simp only [RepV] at hv; obtain ⟨l, _, ha⟩ := hv; exact ⟨_, ha⟩
  · rename_i hx; rw [hx] at hv; simp only [RepV] at hv; obtain ⟨b, o, cs, ha, _⟩ := hv; exact ⟨_, ha⟩
  · cases hf
theorem loadE_ids (h : Rel F nt L s a w) {t : Nat} {x : EV G} {v : EV G} (hp : loadE P s t x = some v) : ∀ j ∈ v.ids, (s.look j).isSome = true := by
  intro j hj
  unfold loadE at hp
  split at hp
  · split at hp
    · rename_i cs n hcs _; exact h.e.ids _ _ hcs j (part_ids hp j hj)
    · cases hp
  · split at hp
    · have := part_ids hp j hj
      have none : ∀ l : List (Lf G.S), EV.idss (l.map lfEV) = [] := by
        intro l
        induction l with
        | nil => rfl
        | cons b l ih => cases b; simp only [List.map_cons, EV.idss, lfEV, EV.ids, ih]; rfl
      rw [none] at this; cases this
    · cases hp
  · cases hp

theorem resVars_sem (h : Rel F nt L s a w) : ∀ {rv : List ResultVar} {vs : List (EV G)}, resVars P s rv = some vs →
    ∃ us : List Value, (rv.mapM (m := Sem) fun | .tmp t => pure (a.tmps.getD t undef) | .cell x t => do loadVar t (← asAddr (a.tmps.getD x undef))).run P w = .ok us w ∧ RepVs (okOf F L s) w L vs us ∧ ∀ j ∈ EV.idss vs, (s.look j).isSome = true := by
  intro rv
  induction rv with
  | nil => intro vs h; simp only [resVars] at h; cases h; exact ⟨[], by simp, by simp [RepVs], by simp [EV.idss]⟩
  | cons v rv ih =>
    intro vs hv
    cases v with
    | tmp t =>
      simp only [resVars] at hv
      split at hv
      · rename_i l hl
        cases hv
        obtain ⟨us, q1, q2, q3⟩ := ih hl
        refine ⟨a.tmps.getD t undef :: us, by simp only [List.mapM_cons, Sem.run_bind, Sem.run_pure, Result.andThen_ok, q1], by simp only [RepVs]; exact ⟨h.tm t, q2⟩, fun j hj => ?_⟩
        simp only [EV.idss, List.mem_append] at hj
        rcases hj with hj | hj
        · exact h.tids t j hj
        · exact q3 j hj
      · cases hv
    | cell x t =>
      simp only [resVars] at hv
      split at hv
      · rename_i v0 hv0
        split at hv
        · rename_i l hl
          cases hv
          obtain ⟨us, q1, q2, q3⟩ := ih hl
          have hx : s.ev (.tmp x) = s.get x := rfl
          obtain ⟨A, hA⟩ := loadE_ptr h (x := .tmp x) (by rw [hx]; exact hv0)
          obtain ⟨u, hu, hr⟩ := load_sem (P := P) h (x := .tmp x) (by rw [hx]; exact hv0)
          rw [hA] at hu
          have hA' : a.tmps.getD x undef = .pointer (some A) := hA
          have hu' : (loadVar t A).run P w = .ok u w := by simpa [Instr.loadAt, Instr.sureAddr] using hu
          have hasA : (asAddr (a.tmps.getD x undef)).run P w = .ok A w := by rw [hA']; rfl
          refine ⟨u :: us, by simp only [List.mapM_cons, Sem.run_bind, Sem.run_pure, Result.andThen_ok, q1, hasA, hu'], by simp only [RepVs]; exact ⟨hr, q2⟩, fun j hj => ?_⟩
          simp only [EV.idss, List.mem_append] at hj
          rcases hj with hj | hj
          · exact loadE_ids h hv0 j hj
          · exact q3 j hj
        · cases hv
      · cases hv

/-! ### results, handed over -/
/-- What handing over may do to entries: rows are frozen, empty rows are new. -/
def UpOK (s : St G) (up : List (Nat × Ent G)) : Prop :=
  ∀ i e, (i, e) ∈ up → (∃ τ xs k, s.look i = some (.row τ xs k) ∧ e = .row τ xs xs.length) ∨ (s.look i = none ∧ ∃ τ, e = .row τ [] 0)
def upL (s : St G) (L : LM) : LM := fun i => if (s.look i).isSome = true then L i else none

theorem frz_mem (s : St G) : ∀ (f : List Nat) (i : Nat) (e : Ent G), (i, e) ∈ frz s f → i ∈ f ∧ ∃ τ xs k, s.look i = some (.row τ xs k) ∧ e = .row τ xs xs.length := by
  intro f
  induction f with
  | nil => intro i e h; cases h
  | cons j f ih =>
    intro i e h
    unfold frz at h
    split at h
    · rename_i τ xs k hj
      rcases List.mem_cons.mp h with h | h
      · cases h; exact ⟨by simp, τ, xs, k, hj, rfl⟩
      · obtain ⟨h1, h2⟩ := ih i e h; exact ⟨by simp [h1], h2⟩
    · obtain ⟨h1, h2⟩ := ih i e h; exact ⟨by simp [h1], h2⟩
theorem mem_frz (s : St G) : ∀ (f : List Nat) (i : Nat) (τ : Ty) (xs : List (G.D τ)) (k : Nat), i ∈ f → s.look i = some (.row τ xs k) → (i, Ent.row τ xs xs.length) ∈ frz s f := by
  intro f
  induction f with
  | nil => intro i τ xs k h; cases h
  | cons j f ih =>
    intro i τ xs k h hi
    unfold frz
    rcases List.mem_cons.mp h with rfl | h
    · rw [hi]; simp
    · have := ih i τ xs k h hi
      split
      · simp [this]
      · exact this

theorem up_rel (h : Rel F nt L s a w) {up : List (Nat × Ent G)} (hu : UpOK s up) : Rel F nt (upL s L) (s.upd up) a w ∧ (∀ b o, okOf F L s b o → okOf F (upL s L) (s.upd up) b o) ∧
    ∀ (i : Nat) (τ : Ty) (xs : List (G.D τ)) (k : Nat) (l : Loc), (i, Ent.row τ xs xs.length) ∈ up → s.look i = some (.row τ xs k) → L i = some l → ∀ o, l.off ≤ o → o < l.off + l.len * l.sz → okOf F (upL s L) (s.upd up) l.b o := by
  have hL : ∀ i, (s.look i).isSome → upL s L i = L i := fun i hi => if_pos hi
  have ent : ∀ i e, lookT up i = some e → (∃ τ xs k, s.look i = some (.row τ xs k) ∧ e = .row τ xs xs.length) ∨ (s.look i = none ∧ ∃ τ, e = .row τ [] 0) := fun i e hi => hu i e (lookT_mem hi)
  have ownd : ∀ b o, owned (s.upd up) (upL s L) b o → ∃ i e l, s.look i = some e ∧ L i = some l ∧ owns l e b o ∧ (∀ τ xs k, s.look i = some (.row τ xs k) → (∃ e', lookT up i = some e') → l.off + xs.length * l.sz ≤ o) := by
    rintro b o ⟨i, e, l, hi, hl, hw⟩
    rw [St.look_upd] at hi
    cases hx : lookT up i with
    | none =>
      rw [hx] at hi
      have hi : s.look i = some e := by simpa using hi
      rw [hL i (by simp [hi])] at hl
      exact ⟨i, e, l, hi, hl, hw, fun τ xs k _ ⟨e', he'⟩ => by rw [hx] at he'; cases he'⟩
    | some e' =>
      rw [hx] at hi
      have hi : e' = e := by simpa using hi
      subst hi
      rcases ent i e' hx with ⟨τ, xs, k, q1, rfl⟩ | ⟨q1, τ, rfl⟩
      · rw [hL i (by simp [q1])] at hl
        have hr := h.e.en i _ q1
        simp only [RepE] at hr
        refine ⟨i, _, l, q1, hl, ⟨hw.1, Nat.le_trans (Nat.add_le_add_left (Nat.mul_le_mul_right _ hr.1) _) hw.2⟩, fun τ' xs' k' q2 _ => ?_⟩
        rw [q1] at q2; cases q2; exact hw.2
      · simp [upL, q1] at hl
  have hok : ∀ b o, okOf F L s b o → okOf F (upL s L) (s.upd up) b o := fun b o hb => ⟨hb.1, fun ho => by
    obtain ⟨i, e, l, q1, q2, q3, _⟩ := ownd b o ho
    exact hb.2 ⟨i, e, l, q1, q2, q3⟩⟩
  refine ⟨?_, hok, ?_⟩
  · refine h.release up (upL s L) hL ?_ ?_
    · intro i e hi l hl oe
      rcases ent i e hi with ⟨τ, xs, k, q1, rfl⟩ | ⟨q1, τ, rfl⟩
      · have hr := h.e.en i _ q1
        simp only [RepE] at hr
        exact ⟨_, q1, trivial, fun b o hw => ⟨hw.1, Nat.le_trans (Nat.add_le_add_left (Nat.mul_le_mul_right _ hr.1) _) hw.2⟩⟩
      · simp [upL, q1] at hl
    · intro i e hi
      rcases ent i e hi with ⟨τ, xs, k, q1, rfl⟩ | ⟨q1, τ, rfl⟩
      · refine ⟨by simp [Ent.nms], fun ok' kk _ => ?_⟩
        have hr := h.e.en i _ q1
        simp only [RepE] at hr ⊢
        refine ⟨Nat.le_refl _, ?_⟩
        rw [hL i (by simp [q1])]
        cases hl : L i with
        | none => simpa [hl] using hr.2
        | some l =>
          simp only [hl] at hr
          obtain ⟨_, h1, h2, h3, h4, h5⟩ := hr
          exact ⟨h1, h2, h3, h4, h5.mono kk fun o v hc _ => hc⟩
      · refine ⟨by simp [Ent.nms], fun ok' kk _ => ?_⟩
        simp only [RepE]
        have : upL s L i = none := by simp [upL, q1]
        rw [this]; exact ⟨by simp, trivial⟩
  · intro i τ xs k l hm hi hl o h1 h2
    have hr := h.e.en i _ hi
    simp only [RepE, hl] at hr
    refine ⟨h.base hi hl trivial o, fun ho => ?_⟩
    obtain ⟨j, e, m, q1, q2, q3, q4⟩ := ownd _ _ ho
    obtain ⟨oe, hb⟩ := owns_owner q3
    by_cases hij : i = j
    · subst hij
      rw [hl] at q2; cases q2
      have hex : ∃ e', lookT up i = some e' := by
        have := lookT_isSome (List.mem_map.mpr ⟨_, hm, rfl⟩ : i ∈ up.map (·.1))
        exact Option.isSome_iff_exists.mp this
      have := q4 τ xs k hi hex
      rw [hr.2.2.1] at h2
      omega
    · exact h.e.dis i j _ _ l m hi q1 hl q2 trivial oe hij l.b rfl hb

theorem resCell_sem (h : Rel F nt L s a w) {up : List (Nat × Ent G)} (hu : UpOK s up) {nid : Nat} {md : Md} {v x : EV G} {piece : List (Nat × Ent G)} {u : Value} (hc : resCell s nid md v = some (x, piece)) (hp : ∀ p ∈ piece, p ∈ up)
    (hv : RepV (okOf F L s) w L v u) (hi : ∀ j ∈ v.ids, (s.look j).isSome = true) : RepV (okOf F (upL s L) (s.upd up)) w (upL s L) x u ∧ ∀ j ∈ x.ids, ((s.upd up).look j).isSome = true := by
  obtain ⟨_, hok, hfz⟩ := up_rel h hu
  have dom : ∀ j, (s.look j).isSome = true → ((s.upd up).look j).isSome = true := fun j hj => by
    rw [St.look_upd]; cases lookT up j <;> simp [hj]
  have keep : Keeps (okOf F L s) (okOf F (upL s L) (s.upd up)) w w := fun b o v p q => ⟨hok b o p, q⟩
  have same : RepV (okOf F (upL s L) (s.upd up)) w (upL s L) v u ∧ ∀ j ∈ v.ids, ((s.upd up).look j).isSome = true :=
    ⟨hv.mono keep (fun j hj => .of (if_pos (hi j hj))), fun j hj => dom j (hi j hj)⟩
  unfold resCell at hc
  split at hc
  · cases hc; exact same
  · rename_i e
    split at hc
    · rename_i d f hd
      cases hc
      obtain ⟨q1, q2⟩ := asD_sem h hd hv (okOf F (upL s L) (s.upd up)) keep (fun i hif e' xs n m p1 p2 o r1 r2 => hfz i e' xs n m (hp _ (mem_frz s f i e' xs n hif p1)) p1 p2 o r1 r2)
      exact ⟨by simp only [RepV]; exact ⟨q1, q2⟩, by simp [EV.ids]⟩
    · cases hc
  · split at hc
    · cases hc; exact same
    · cases hc
  · split at hc
    · rename_i hn
      cases hc
      refine ⟨?_, fun j hj => ?_⟩
      · simp only [RepV] at hv ⊢
        have : upL s L nid = none := by simp [upL, hn]
        rw [this]; exact ⟨none, hv⟩
      · simp [EV.ids] at hj; subst hj
        rw [St.look_upd]
        have := lookT_isSome (List.mem_map.mpr ⟨_, hp _ (List.mem_singleton.mpr rfl), rfl⟩ : j ∈ up.map (·.1))
        cases hx : lookT up j with
        | none => rw [hx] at this; cases this
        | some _ => simp
    · cases hc
  · split at hc
    · obtain ⟨_, hc⟩ := guardb hc
      cases hc; exact same
    · cases hc
  · cases hc

theorem resCell_up {nid : Nat} {md : Md} {v x : EV G} {piece : List (Nat × Ent G)} (hc : resCell s nid md v = some (x, piece)) : UpOK s piece := by
  unfold resCell at hc
  split at hc
  · cases hc; intro i e h; cases h
  · split at hc
    · cases hc
      intro i e h
      obtain ⟨_, q⟩ := frz_mem s _ i e h
      exact .inl q
    · cases hc
  · split at hc
    · cases hc; intro i e h; cases h
    · cases hc
  · split at hc
    · rename_i τ _ hn
      cases hc
      intro i e h
      cases List.mem_singleton.mp h
      exact .inr ⟨hn, _, rfl⟩
    · cases hc
  · split at hc
    · obtain ⟨_, hc⟩ := guardb hc
      cases hc; intro i e h; cases h
    · cases hc
  · cases hc

theorem resCells_up : ∀ {ms : List Md} {n : Nat} {vs l : List (EV G)} {up : List (Nat × Ent G)}, resCells s n ms vs = some (l, up) → UpOK s up := by
  intro ms
  induction ms with
  | nil => intro n vs l up h; cases vs with
    | nil => simp only [resCells] at h; cases h; intro i e h; cases h
    | cons _ _ => cases h
  | cons md ms ih =>
    intro n vs l up h
    cases vs with
    | nil => cases h
    | cons v vs =>
      simp only [resCells] at h
      split at h
      · rename_i x p hx
        split at h
        · rename_i l' up' hl
          cases h
          intro i e hm
          rcases List.mem_append.mp hm with hm | hm
          · exact resCell_up hx i e hm
          · exact ih hl i e hm
        · cases h
      · cases h
theorem resVals_up : ∀ {ms : List (List Md)} {n : Nat} {vs l : List (EV G)} {up : List (Nat × Ent G)}, resVals s n ms vs = some (l, up) → UpOK s up := by
  intro ms
  induction ms with
  | nil => intro n vs l up h; cases vs with
    | nil => simp only [resVals] at h; cases h; intro i e h; cases h
    | cons _ _ => cases h
  | cons md ms ih =>
    intro n vs l up h
    cases vs with
    | nil => cases h
    | cons v vs =>
      simp only [resVals] at h
      split at h
      · rename_i x p hx
        split at h
        · rename_i l' up' hl
          cases h
          intro i e hm
          rcases List.mem_append.mp hm with hm | hm
          · exact resCells_up hx i e hm
          · exact ih hl i e hm
        · cases h
      · cases h

theorem resCells_sem (h : Rel F nt L s a w) {UP : List (Nat × Ent G)} (hu : UpOK s UP) : ∀ {ms : List Md} {n : Nat} {vs l : List (EV G)} {up : List (Nat × Ent G)} {us : List Value}, resCells s n ms vs = some (l, up) → (∀ p ∈ up, p ∈ UP) →
    RepVs (okOf F L s) w L vs us → (∀ j ∈ EV.idss vs, (s.look j).isSome = true) → RepVs (okOf F (upL s L) (s.upd UP)) w (upL s L) l us ∧ ∀ j ∈ EV.idss l, ((s.upd UP).look j).isSome = true := by
  intro ms
  induction ms with
  | nil => intro n vs l up us hc _ hv _; cases vs with
    | nil => simp only [resCells] at hc; cases hc; cases us with
      | nil => exact ⟨by simp [RepVs], by simp [EV.idss]⟩
      | cons _ _ => simp [RepVs] at hv
    | cons _ _ => cases hc
  | cons md ms ih =>
    intro n vs l up us hc hp hv hi
    cases vs with
    | nil => cases hc
    | cons v vs =>
      cases us with
      | nil => simp [RepVs] at hv
      | cons u us =>
        simp only [RepVs] at hv
        simp only [resCells] at hc
        split at hc
        · rename_i x p hx
          split at hc
          · rename_i l' up' hl
            cases hc
            obtain ⟨a1, a2⟩ := resCell_sem h hu hx (fun q hq => hp q (by simp [hq])) hv.1 (fun j hj => hi j (by simp [EV.idss, hj]))
            obtain ⟨b1, b2⟩ := ih hl (fun q hq => hp q (by simp [hq])) hv.2 (fun j hj => hi j (by simp [EV.idss, hj]))
            refine ⟨by simp only [RepVs]; exact ⟨a1, b1⟩, fun j hj => ?_⟩
            simp only [EV.idss, List.mem_append] at hj
            rcases hj with hj | hj
            · exact a2 j hj
            · exact b2 j hj
          · cases hc
        · cases hc

theorem resVals_sem (h : Rel F nt L s a w) {UP : List (Nat × Ent G)} (hu : UpOK s UP) : ∀ {ms : List (List Md)} {n : Nat} {vs l : List (EV G)} {up : List (Nat × Ent G)} {us : List Value}, resVals s n ms vs = some (l, up) → (∀ p ∈ up, p ∈ UP) →
    RepVs (okOf F L s) w L vs us → (∀ j ∈ EV.idss vs, (s.look j).isSome = true) → RepVs (okOf F (upL s L) (s.upd UP)) w (upL s L) l us ∧ ∀ j ∈ EV.idss l, ((s.upd UP).look j).isSome = true := by
  intro ms
  induction ms with
  | nil => intro n vs l up us hc _ hv _; cases vs with
    | nil => simp only [resVals] at hc; cases hc; cases us with
      | nil => exact ⟨by simp [RepVs], by simp [EV.idss]⟩
      | cons _ _ => simp [RepVs] at hv
    | cons _ _ => cases hc
  | cons md ms ih =>
    intro n vs l up us hc hp hv hi
    cases vs with
    | nil => cases hc
    | cons v vs =>
      cases us with
      | nil => simp [RepVs] at hv
      | cons u us =>
        simp only [RepVs] at hv
        simp only [resVals] at hc
        split at hc
        · rename_i cs p hx
          split at hc
          · rename_i l' up' hl
            cases hc
            obtain ⟨b1, b2⟩ := ih hl (fun q hq => hp q (by simp [hq])) hv.2 (fun j hj => hi j (by simp [EV.idss, hj]))
            have hvi : ∀ j ∈ v.ids, (s.look j).isSome = true := fun j hj => hi j (by simp [EV.idss, hj])
            have one : ∀ (v : EV G), v.cells = [v] → RepV (okOf F L s) w L v u → (∀ j ∈ v.ids, (s.look j).isSome = true) → resCells s n md v.cells = some (cs, p) →
                RepV (okOf F (upL s L) (s.upd UP)) w (upL s L) (oneV cs) u ∧ ∀ j ∈ (oneV cs).ids, ((s.upd UP).look j).isSome = true := by
              intro v hvc hv hvi hx
              rw [hvc] at hx
              obtain ⟨a1, a2⟩ := resCells_sem h hu hx (fun q hq => hp q (by simp [hq])) (us := [u]) (by simp only [RepVs]; exact ⟨hv, trivial⟩) (by simpa [EV.idss] using hvi)
              unfold oneV
              split
              · simp only [RepVs] at a1; exact ⟨a1.1, fun j hj => a2 j (by simp [EV.idss, hj])⟩
              · exact ⟨by simp only [RepV], by simp [EV.ids]⟩
            have key : RepV (okOf F (upL s L) (s.upd UP)) w (upL s L) (reV v cs) u ∧ ∀ j ∈ (reV v cs).ids, ((s.upd UP).look j).isSome = true := by
              cases v with
              | ag l0 =>
                have hv1 := hv.1
                simp only [RepV] at hv1
                obtain ⟨cvs, rfl, hcv⟩ := hv1
                obtain ⟨a1, a2⟩ := resCells_sem h hu hx (fun q hq => hp q (by simp [hq])) (us := cvs.toList) (by simpa [EV.cells] using hcv) (by simpa [EV.cells, EV.ids] using hvi)
                exact ⟨by simp only [reV, RepV]; exact ⟨cvs, rfl, a1⟩, by simpa [reV, EV.ids] using a2⟩
              | _ => exact one _ rfl hv.1 hvi hx
            refine ⟨by simp only [RepVs]; exact ⟨key.1, b1⟩, fun j hj => ?_⟩
            simp only [EV.idss, List.mem_append] at hj
            rcases hj with hj | hj
            · exact key.2 j hj
            · exact b2 j hj
          · cases hc
        · cases hc
end
end Go.Abs
end
section
set_option linter.all false
set_option linter.unusedVariables false
set_option linter.unusedSimpArgs false
set_option linter.unnecessarySimpa false
/-
  ABS, part 30: a function's answer is its contract.
-/
namespace Go.Abs
open Go
variable {G : Gam}

section
variable {P : Program} {F : Frm} {nt : Nat} {L : LM} {s : St G} {a : Act} {w : World}

theorem addNew_prefix : ∀ (r l : List Nat), ∃ t, addNew l r = l ++ t := by
  intro r
  induction r with
  | nil => intro l; exact ⟨[], by simp [addNew]⟩
  | cons a r ih =>
    intro l
    simp only [addNew]
    cases l.contains a with
    | true => exact ih l
    | false =>
      obtain ⟨t, ht⟩ := ih (l ++ [a])
      exact ⟨a :: t, by simp only [cond_false]; rw [ht]; simp⟩
theorem numbers_eq : ∀ (n i : Nat), numbers n i = List.range' i n := by
  intro n
  induction n with
  | zero => intro i; rfl
  | succ n ih => intro i; simp only [numbers, ih, List.range'_succ]
theorem slots_look : ∀ (vs : List (EV G)) (n t : Nat), lookT (slots n vs) t = if n ≤ t then vs[t - n]? else none := by
  intro vs
  induction vs with
  | nil => intro n t; simp [slots, lookT]
  | cons v vs ih =>
    intro n t
    simp only [slots, lookT_cons, ih]
    by_cases h : n = t
    · subst h; simp
    · rw [if_neg h]
      by_cases h2 : n + 1 ≤ t
      · rw [if_pos h2, if_pos (by omega), show t - n = (t - (n + 1)) + 1 by omega, List.getElem?_cons_succ]
      · rw [if_neg h2, if_neg (by omega)]

theorem ret_rel (h : Rel F nt L s a w) {ls : List Nat} (hnd : ls.Nodup) {es : List (Ent G)} (hes : looks s ls = some es) (hcl : ∀ i ∈ ls, ∀ e, s.look i = some e → ∀ j ∈ e.ids, j ∈ ls) (hpre : ∀ i, i < F.n → ls[i]? = some i) {es0 : List (Ent G)} (h0 : es0 = es.map (Ent.rn fun i => indexOf i ls 0)) :
    (∀ b o, okOf F L s b o → okOf F (lentL L ls) (St.of es0) b o) ∧ RelE F (lentL L ls) (St.of es0) w := by
  subst h0
  have hok : ∀ b o, okOf F L s b o → okOf F (lentL L ls) (St.of (es.map (Ent.rn fun i => indexOf i ls 0))) b o := by
    intro b o hb
    refine ⟨hb.1, fun ho => ?_⟩
    obtain ⟨j, e, l, hj, hs, hl, hw⟩ := lent_owned hes ho
    exact hb.2 ⟨j, e, l, hs, hl, hw⟩
  have hesl := (looks_spec hes).1
  refine ⟨hok, ⟨h.e.fits, ?_, ?_, ?_, ?_, ?_⟩⟩
  · intro i e' hi
    obtain ⟨j, e, p1, p2, rfl⟩ := lent_look hes hi
    exact ((h.e.en j e p2).ok_mono hok).rn (by simp [lentL, p1]) (lent_turn ls _)
  · intro i e' hi j' hj'
    obtain ⟨j, e, p1, p2, rfl⟩ := lent_look hes hi
    obtain ⟨i', q1, q2⟩ := Ent.rn_ids hj'
    have := (indexOf_some q2).2
    simp only [Nat.sub_zero] at this
    obtain ⟨e'', r1, r2⟩ := (looks_spec hes).2 j' i' this
    rw [St.of_look, List.getElem?_map, r2]; rfl
  · intro i i' e' f' l m hi hi' hl hm oe of ne x hx hy
    obtain ⟨j, e, p1, p2, rfl⟩ := lent_look hes hi
    obtain ⟨k, f, q1, q2, rfl⟩ := lent_look hes hi'
    simp only [lentL, p1] at hl
    simp only [lentL, q1] at hm
    rw [Ent.rn_blks] at hx hy
    refine h.e.dis j k e f l m p2 q2 hl hm (Ent.rn_owner.mp oe) (Ent.rn_owner.mp of) (fun ejk => ne ?_) x hx hy
    subst ejk
    have hlen1 : i < ls.length := by
      rcases Nat.lt_or_ge i ls.length with h3 | h3
      · exact h3
      · rw [List.getElem?_eq_none h3] at p1; cases p1
    exact (List.getElem?_inj hlen1 hnd).mp (p1.trans q1.symm)
  · intro i e' l hi hl oe x hx
    obtain ⟨j, e, p1, p2, rfl⟩ := lent_look hes hi
    simp only [lentL, p1] at hl
    rw [Ent.rn_blks] at hx
    rw [Ent.rn_owns]
    exact h.e.own j e l p2 hl (Ent.rn_owner.mp oe) x hx
  · intro i hi
    have hp := hpre i hi
    obtain ⟨e, q1, q2⟩ := (looks_spec hes).2 i i hp
    refine ⟨by rw [St.of_look, List.getElem?_map, q2]; rfl, ?_⟩
    simp only [lentL, hp]
    exact (h.e.lent i hi).2
end

section
variable {E : Env G}

theorem ExecOK.canon {c : Code} {s s1 s2 : St G} {e : Ex} {kp : Keep} (h : ExecOK E c s e s1) (hc : Abs.canon E.m kp s1 = some s2) : ExecOK E c s e s2 := by
  intro F L a w hn hr
  refine wp_mono (h F L a w hn hr) ?_
  rintro x a' w' ⟨rfl, L', h'⟩
  exact ⟨rfl, (canon_rel hn h' hc).1⟩
theorem runE_sound (hE : EnvOK E) {f : FuncId} {fn : Func} {c : Code} (hf : E.P.funcs[f]? = some fn) (hb : fn.body = some c) (hnt : fn.ntmps = E.nt) (hl : ∀ c' ∈ loopsIn c, ∀ key T, firstRegion c' = some key → E.loops key = some T → LoopOK E c' T)
    {md : List (List Md)} {kr : Option Keep} {args : List (EV G)} {outer : List (Ent G)} (hargs : args.length ≤ E.nt) (hm : outer.length = E.m) {R : Type} {k : EV G → List (Ent G) → List (Ent G) → Option R} {r : R} (h : runE E fn md kr args outer k = some r) :
    ∃ res lent' news, Contract E.P f args outer res lent' news ∧ k res lent' news = some r := by
  unfold runE at h
  rw [hb] at h
  simp only at h
  obtain ⟨e, s0, h, hx0⟩ := exec_sound hE c hl _ _ _ h
  have hne : ∀ id, e ≠ .exit id := by intro id he; subst he; simp at h
  have hret0 : retK E.P outer.length fn.results.toList md kr s0 k = some r := by
    cases e with
    | normal => exact h
    | ret => exact h
    | exit id => exact absurd rfl (hne id)
  clear h
  obtain ⟨s, hret, hx⟩ : ∃ s, retE E.P outer.length fn.results.toList md s k = some r ∧ ExecOK E c { tm := slots 0 args, en := number 0 outer } e s := by
    unfold retK at hret0
    split at hret0
    · exact ⟨s0, hret0, hx0⟩
    · split at hret0
      · cases hret0
      · rename_i kp s' hc
        rw [hm] at hc
        exact ⟨s', hret0, hx0.canon hc⟩
  unfold retE at hret
  split at hret
  · cases hret
  rename_i vs hvs
  split at hret
  · cases hret
  rename_i ws up hws
  simp only at hret
  generalize hls : addNew (addNew (addNew (numbers outer.length 0) (EV.idss ws)) (entIds (s.upd up) (addNew (numbers outer.length 0) (EV.idss ws)))) (entIds (s.upd up) (addNew (addNew (numbers outer.length 0) (EV.idss ws)) (entIds (s.upd up) (addNew (numbers outer.length 0) (EV.idss ws))))) = ls0 at hret
  generalize hls' : addNew ls0 (entIds (s.upd up) ls0) = ls at hret
  have hlsub : ls.Nodup ∧ (∀ i, i < outer.length → ls[i]? = some i) ∧ ∀ j ∈ EV.idss ws, j ∈ ls := by
    have n0 : (numbers outer.length 0).Nodup := by rw [numbers_eq]; exact List.nodup_range'
    obtain ⟨a1, a2⟩ := addNew_spec (EV.idss ws) _ n0
    obtain ⟨b1, b2⟩ := addNew_spec (entIds (s.upd up) (addNew (numbers outer.length 0) (EV.idss ws))) _ a1
    obtain ⟨c1, c2⟩ := addNew_spec (entIds (s.upd up) (addNew (addNew (numbers outer.length 0) (EV.idss ws)) (entIds (s.upd up) (addNew (numbers outer.length 0) (EV.idss ws))))) _ b1
    rw [hls] at c1 c2
    obtain ⟨d1, d2⟩ := addNew_spec (entIds (s.upd up) ls0) _ c1
    rw [hls'] at d1 d2
    refine ⟨d1, fun i hi => ?_, fun j hj => (d2 j).mpr (.inl ((c2 j).mpr (.inl ((b2 j).mpr (.inl ((a2 j).mpr (.inr hj)))))))⟩
    obtain ⟨t1, e1⟩ := addNew_prefix (EV.idss ws) (numbers outer.length 0)
    obtain ⟨t2, e2⟩ := addNew_prefix (entIds (s.upd up) (addNew (numbers outer.length 0) (EV.idss ws))) (addNew (numbers outer.length 0) (EV.idss ws))
    obtain ⟨t3, e3⟩ := addNew_prefix (entIds (s.upd up) (addNew (addNew (numbers outer.length 0) (EV.idss ws)) (entIds (s.upd up) (addNew (numbers outer.length 0) (EV.idss ws))))) (addNew (addNew (numbers outer.length 0) (EV.idss ws)) (entIds (s.upd up) (addNew (numbers outer.length 0) (EV.idss ws))))
    obtain ⟨t4, e4⟩ := addNew_prefix (entIds (s.upd up) ls0) ls0
    rw [hls] at e3
    rw [hls'] at e4
    have : ls = numbers outer.length 0 ++ (t1 ++ (t2 ++ (t3 ++ t4))) := by rw [e4, e3, e2, e1]; simp
    rw [this, List.getElem?_append_left (by rw [numbers_eq]; simpa using hi), numbers_eq, List.getElem?_range' hi]
    simp
  obtain ⟨hnd, hpre, hwsl⟩ := hlsub
  split at hret
  · cases hret
  rename_i es hes
  obtain ⟨hci, hret⟩ := guardn hret
  refine ⟨_, _, _, ?_, hret⟩
  intro F L w vs0 hw0 hn hL0 hrel hvs0 hids
  rw [List.take_append_drop]
  have hvl : args.length = vs0.size := by have := hvs0.length; simpa using this
  have hinit : Rel F E.nt L { tm := slots 0 args, en := number 0 outer } { tmps := vs0 ++ Array.replicate (fn.ntmps - vs0.size) undef, defers := [] } w := by
    have hlk : ∀ i, St.look { tm := slots 0 args, en := number 0 outer } i = (St.of outer).look i := fun i => rfl
    have hoo : okOf F L { tm := slots 0 args, en := number 0 outer } = okOf F L (St.of outer) := rfl
    have hg : ∀ t, St.get { tm := slots 0 args, en := number 0 outer } t = match args[t]? with | some v => v | none => .u := by
      intro t
      have h9 : lookT (slots 0 args) t = args[t]? := by rw [slots_look]; simp
      show (match lookT (slots 0 args) t with | some v => v | none => .u) = _
      rw [h9]
    refine ⟨⟨hrel.fits, hrel.en, hrel.ids, hrel.dis, hrel.own, hrel.lent⟩, fun t => ?_, fun t j hj => ?_, rfl, by show (vs0 ++ Array.replicate (fn.ntmps - vs0.size) undef).size = E.nt; rw [Array.size_append, Array.size_replicate]; omega⟩
    · rw [hg, hoo]
      cases ha : args[t]? with
      | none => simp only [RepV]
      | some v =>
        obtain ⟨u, hu, hr⟩ := hvs0.get ha
        have : (vs0 ++ Array.replicate (fn.ntmps - vs0.size) undef).getD t undef = u := by
          have ht : t < vs0.size := by
            rcases Nat.lt_or_ge t vs0.size with h3 | h3
            · exact h3
            · rw [List.getElem?_eq_none (by simpa using h3)] at hu; cases hu
          have hu' : vs0[t]? = some u := by simpa using hu
          rw [Array.getD_eq_getD_getElem?, Array.getElem?_append_left ht, hu']; rfl
        rw [this]; exact hr
    · rw [hg] at hj
      cases ha : args[t]? with
      | none => rw [ha] at hj; simp [EV.ids] at hj
      | some v =>
        rw [ha] at hj
        have hmem : ∀ (l : List (EV G)) (t : Nat), l[t]? = some v → j ∈ EV.idss l := by
          intro l
          induction l with
          | nil => intro t h; simp at h
          | cons b l ih =>
            intro t h
            cases t with
            | zero => simp at h; subst h; simp [EV.idss, hj]
            | succ t => simp at h; simp [EV.idss, ih t h]
        have := hids j (hmem args t ha)
        rw [hlk, St.of_look, List.getElem?_eq_getElem this]; rfl
  refine calls_of_wp hf hb (wp_mono (hx F L _ w (by rw [hn, hm]) hinit) ?_)
  rintro x a' w' ⟨rfl, L', h'⟩
  have hup : UpOK s up := resVals_up hws
  obtain ⟨us, u1, u2, u3⟩ := resVars_sem h' hvs
  obtain ⟨v1, v2⟩ := resVals_sem h' hup hws (fun _ h => h) u2 u3
  obtain ⟨h2, _, _⟩ := up_rel h' hup
  have hcl : ∀ i ∈ ls, ∀ e, (s.upd up).look i = some e → ∀ j ∈ e.ids, j ∈ ls := by
    intro i hi e he j hj
    have := List.any_eq_false.mp hci j (entIds_mem he hj hi)
    simpa using this
  obtain ⟨hok, hrelE⟩ := ret_rel h2 hnd hes hcl (fun i hi => hpre i (by rw [hn] at hi; exact hi)) rfl
  have hrn : RepVs (okOf F (lentL (upL s L') ls) (St.of (es.map (Ent.rn fun i => indexOf i ls 0)))) w' (lentL (upL s L') ls) (EV.rns (fun i => indexOf i ls 0) ws) us :=
    (v1.mono (L' := upL s L') (fun b o v p q => ⟨hok b o p, q⟩) (fun _ _ => rfl)).rn (lent_turn ls _)
  have hlen : (EV.rns (fun i => indexOf i ls 0) ws).length = us.length := hrn.length
  have hidr : ∀ j ∈ EV.idss (EV.rns (fun i => indexOf i ls 0) ws), j < (es.map (Ent.rn fun i => indexOf i ls 0)).length := by
    intro j hj
    obtain ⟨i, _, hi⟩ := EV.rns_ids hj
    have := (indexOf_some hi).2
    rw [List.length_map, (looks_spec hes).1]
    rcases Nat.lt_or_ge j ls.length with h3 | h3
    · exact h3
    · simp only [Nat.sub_zero] at this; rw [List.getElem?_eq_none h3] at this; cases this
  generalize hq : EV.rns (fun i => indexOf i ls 0) ws = q at *
  have hres : ∃ v, (results fn a'.tmps).run E.P w' = .ok v w' ∧ RepV (okOf F (lentL (upL s L') ls) (St.of (es.map (Ent.rn fun i => indexOf i ls 0)))) w' (lentL (upL s L') ls) (tup q) v ∧ ∀ j ∈ (tup q).ids, j < (es.map (Ent.rn fun i => indexOf i ls 0)).length := by
    have hrun : ∀ v, (if h : us.toArray.size = 1 then us.toArray[0] else .tuple us.toArray) = v → (results fn a'.tmps).run E.P w' = .ok v w' := by
      intro v hv
      unfold results
      rw [Array.mapM_eq_mapM_toList]
      simp only [Sem.run_bind, bind_pure_comp, Sem.run_map]
      erw [u1]
      subst hv
      rfl
    by_cases h1 : us.length = 1
    · obtain ⟨u, rfl⟩ := List.length_eq_one_iff.mp h1
      obtain ⟨x, rfl⟩ := List.length_eq_one_iff.mp (by rw [hlen]; rfl : q.length = 1)
      simp only [RepVs] at hrn
      exact ⟨u, hrun u rfl, hrn.1, fun j hj => hidr j (by simpa [EV.idss, tup] using hj)⟩
    · have ht : tup q = .tp q := by
        cases q with
        | nil => rfl
        | cons x q => cases q with
          | nil => simp at hlen; omega
          | cons y q => rfl
      refine ⟨.tuple us.toArray, hrun _ (by rw [dif_neg (by simpa using h1)]), ?_, ?_⟩
      · rw [ht]; simp only [RepV]; exact ⟨_, rfl, by simpa using hrn⟩
      · rw [ht]; simpa [EV.ids] using hidr
  obtain ⟨v, r1, r2, r3⟩ := hres
  have post : a'.defers = [] ∧ ∃ v, (results fn a'.tmps).run E.P w' = .ok v w' ∧ ∃ v' L'', Ending.returned v = .returned v' ∧ RelE F L'' (St.of (es.map (Ent.rn fun i => indexOf i ls 0))) w' ∧ (∀ i, i < outer.length → LocS (L'' i) (L i)) ∧
      RepV (okOf F L'' (St.of (es.map (Ent.rn fun i => indexOf i ls 0)))) w' L'' (tup q) v' ∧ ∀ j ∈ (tup q).ids, j < (es.map (Ent.rn fun i => indexOf i ls 0)).length := by
    refine ⟨h'.defers, v, r1, v, _, rfl, hrelE, fun i hi => ?_, r2, r3⟩
    have := (hrelE.lent i (by rw [hn]; exact hi)).2
    rw [hL0] at this; exact this
  cases e with
  | normal => exact post
  | ret => exact post
  | exit id => exact absurd rfl (hne id)
end
end Go.Abs
end
section
set_option linter.all false
set_option linter.unusedVariables false
set_option linter.unusedSimpArgs false
set_option linter.unnecessarySimpa false
/-
  ABS, part 31: loops and functions by their values: what a printed text states.
-/
namespace Go.Abs
open Go
variable {G : Gam}

def St.vals (s : St G) : List (EV G) := s.tm.map (·.2)
def Keep.ents (kp : Keep) (s : St G) : List (Ent G) := (s.en.map (·.2)).take (kp.boxes.length + kp.rows.length)

section
variable {E : Env G}
end

def exitE {Y : Type} (m : Nat) (kx : Ex → Option Keep) (decY : Ex → List (EV G) → List (Ent G) → Option Y) (e : Ex) (s : St G) : Option Y :=
  match kx e with
  | some kp' => (match canon m kp' s with
    | some s2 => decY e s2.vals (kp'.ents s2)
    | none => none)
  | none => none
/-- What a loop's body answers. -/
def roundE {X Y : Type} (m : Nat) (kp : Keep) (kx : Ex → Option Keep) (decX : List (EV G) → List (Ent G) → Option X) (decY : Ex → List (EV G) → List (Ent G) → Option Y) (L : X → Option Y) : Ex → St G → Option Y := fun e s =>
  match e with
  | .normal => match canon m kp s with
    | some s2 => (match decX s2.vals (kp.ents s2) with | some x => L x | none => none)
    | none => none
  | e => exitE m kx decY e s

structure LoopV (E : Env G) (c : Code) (X Y : Type) where
  kp : Keep
  kx : Ex → Option Keep
  encX : X → List (EV G) × List (Ent G)
  decX : List (EV G) → List (Ent G) → Option X
  hX : ∀ vs es x, decX vs es = some x → encX x = (vs, es)
  decY : Ex → List (EV G) → List (Ent G) → Option Y
  out : (R : Type) → Y → (Ex → St G → Option R) → Option R
  hY : ∀ e vs es y kp', decY e vs es = some y → kx e = some kp' → ∀ R (k : Ex → St G → Option R), out R y k = k e (kp'.st vs es)
  L : Nat → X → Option Y
  h0 : ∀ x, L 0 x = none
  hs : ∀ n x, L (n + 1) x = exec E c (kp.st (encX x).1 (encX x).2) (roundE E.m kp kx decX decY (L n))

def LoopV.entry {E : Env G} {c : Code} {X Y : Type} (V : LoopV E c X Y) (n : Nat) : LoopT G :=
  { keep := V.kp, sem := fun R vs es k => match V.decX vs es with | some x => (V.L n x).bind fun y => V.out R y k | none => none }

theorem LoopV.ok {E : Env G} {c : Code} {X Y : Type} (hE : EnvOK E) (V : LoopV E c X Y) (hl : ∀ c' ∈ loopsIn c, ∀ key T, firstRegion c' = some key → E.loops key = some T → LoopOK E c' T) (n : Nat) : LoopOK E c (V.entry n) := by
  have key : ∀ (n : Nat) (x : X) (y : Y), V.L n x = some y → ∃ e s', (∀ R (k : Ex → St G → Option R), V.out R y k = k e s') ∧ Rounds E c V.kp n (V.kp.st (V.encX x).1 (V.encX x).2) e s' := by
    intro n
    induction n with
    | zero => intro x y h; rw [V.h0] at h; cases h
    | succ n ih =>
      intro x y h
      rw [V.hs] at h
      obtain ⟨e, s1, h, hx⟩ := exec_sound hE c hl _ _ _ h
      have exits : e ≠ .normal → exitE E.m V.kx V.decY e s1 = some y →
          ∃ e s', (∀ R (k : Ex → St G → Option R), V.out R y k = k e s') ∧ Rounds E c V.kp (n + 1) (V.kp.st (V.encX x).1 (V.encX x).2) e s' := by
        intro hne h
        unfold exitE at h
        split at h
        · rename_i kp' hk
          split at h
          · rename_i s2 hs2
            have hsh : s2 = kp'.st s2.vals (kp'.ents s2) := canon_shape hs2
            refine ⟨e, s2, fun R k => ?_, .out n _ e s2 (hx.canon hs2) hne⟩
            rw [V.hY e _ _ y kp' h hk R k, ← hsh]
          · cases h
        · cases h
      cases e with
      | normal =>
        simp only [roundE] at h
        split at h
        · rename_i s2 hs2
          split at h
          · rename_i x' hx'
            obtain ⟨e, s', q1, q2⟩ := ih x' y h
            have hsh : s2 = V.kp.st s2.vals (V.kp.ents s2) := canon_shape hs2
            have hen := V.hX _ _ _ hx'
            rw [hen] at q2
            simp only at q2
            rw [← hsh] at q2
            exact ⟨e, s', q1, .again n _ s1 s2 e s' hx hs2 q2⟩
          · cases h
        · cases h
      | exit id => exact exits (by simp) h
      | ret => exact exits (by simp) h
  intro R vs es k r h
  simp only [LoopV.entry] at h
  split at h
  · rename_i x hx
    obtain ⟨y, hy, h⟩ := bindS h
    obtain ⟨e, s', q1, q2⟩ := key n x y hy
    rw [q1] at h
    rw [V.hX _ _ _ hx] at q2
    exact ⟨e, s', h, rounds_ok q2⟩
  · cases h

/-- A function by its value. -/
structure FnV (E : Env G) (f : FuncId) (fn : Func) (md : List (List Md)) (kr : Option Keep) (X Y : Type) where
  encX : X → List (EV G) × List (Ent G)
  decX : List (EV G) → List (Ent G) → Option X
  hX : ∀ vs es x, decX vs es = some x → encX x = (vs, es)
  hm : ∀ vs es x, decX vs es = some x → es.length = E.m ∧ vs.length ≤ E.nt
  decY : EV G → List (Ent G) → List (Ent G) → Option Y
  out : Y → EV G × List (Ent G) × List (Ent G)
  hY : ∀ v l n y, decY v l n = some y → out y = (v, l, n)
  F : X → Option Y
  hF : ∀ x, F x = runE E fn md kr (encX x).1 (encX x).2 decY

def FnV.entry {E : Env G} {f : FuncId} {fn : Func} {md : List (List Md)} {kr : Option Keep} {X Y : Type} (V : FnV E f fn md kr X Y) (io : List Nat) : FnT G :=
  { inout := io, sem := fun _ args lent k => match V.decX args lent with | some x => (V.F x).bind fun y => k (V.out y).1 (V.out y).2.1 (V.out y).2.2 | none => none }

theorem FnV.ok {E : Env G} {f : FuncId} {fn : Func} {md : List (List Md)} {kr : Option Keep} {X Y : Type} (V : FnV E f fn md kr X Y) (hE : EnvOK E) {c : Code} (hf : E.P.funcs[f]? = some fn) (hname : (fn.name == "runtime.NumGoroutine") = false) (hb : fn.body = some c) (hnt : fn.ntmps = E.nt)
    (hl : ∀ c' ∈ loopsIn c, ∀ key T, firstRegion c' = some key → E.loops key = some T → LoopOK E c' T) (io : List Nat) : FnOK E.P f (V.entry io) := by
  refine ⟨⟨fn, c, hf, hname, hb⟩, fun R args lent k r h => ?_⟩
  simp only [FnV.entry] at h
  split at h
  · rename_i x hx
    obtain ⟨y, hy, h⟩ := bindS h
    rw [V.hF, V.hX _ _ _ hx] at hy
    obtain ⟨h1, h2⟩ := V.hm _ _ _ hx
    obtain ⟨res, l, n, hc, hd⟩ := runE_sound hE hf hb hnt hl h2 h1 hy
    refine ⟨res, l, n, hc, ?_⟩
    rw [V.hY _ _ _ _ hd] at h
    exact h
  · cases h
end Go.Abs
end
section
set_option linter.all false
set_option linter.unusedVariables false
set_option linter.unusedSimpArgs false
set_option linter.unnecessarySimpa false
/-
  ABS, part 32: a law's call, out of its contract.
-/
namespace Go.Abs
open Go Go.RowKit
variable {G : Gam}

theorem law_calls {P : Program} {f : FuncId} {args : List (EV G)} {vs : Array Value} {w : World} {v : EV G} (hc : Contract P f args [] v [] []) (hv : RepVs (fun _ _ => True) w (fun _ => none) args vs.toList) (hi : EV.idss args = []) {u : Value}
    (hu : ∀ (ok : Cells) (w' : World) (L : LM) (u' : Value), RepV ok w' L v u' → u' = u) : Calls P f vs w fun e w' => e = .returned u ∧ Below w.heap.size w w' := by
  let F : Frm := { w0 := w, okA := fun _ _ => True, X := fun _ _ => False, n := 0, L0 := fun _ => none }
  have hno : ∀ i, (St.of ([] : List (Ent G))).look i = none := fun i => by rw [St.of_look]; simp
  have hrel : RelE F (fun _ => none) (St.of ([] : List (Ent G))) w :=
    ⟨⟨rfl, rfl, rfl, Nat.le_refl _, fun _ _ _ => rfl, fun _ _ _ _ => rfl⟩, fun i e h => (by rw [hno] at h; cases h), fun i e h => (by rw [hno] at h; cases h), fun i j e f l m h => (by rw [hno] at h; cases h), fun i e l h => (by rw [hno] at h; cases h), fun i h => absurd h (Nat.not_lt_zero _)⟩
  have hok : ∀ b o, okOf F (fun _ => none) (St.of ([] : List (Ent G))) b o := fun b o => ⟨.inl trivial, fun ⟨i, e, l, h, _⟩ => (by rw [hno] at h; cases h)⟩
  refine (hc F (fun _ => none) w vs rfl rfl rfl hrel (hv.mono (fun b o v _ q => ⟨hok b o, q⟩) (fun _ _ => rfl)) (by rw [hi]; intro j hj; cases hj)).mono ?_
  rintro e w' ⟨u', L', rfl, h1, _, h2, _⟩
  rw [hu _ _ _ _ h2]
  exact ⟨rfl, h1.fits.os, h1.fits.tape, h1.fits.output, h1.fits.size, fun k hk => h1.fits.block k hk fun _ h => h⟩

theorem rep_bool {b : Bool} : ∀ (ok : Cells) (w' : World) (L : LM) (u' : Value), RepV ok w' L (.d .bool b : EV G) u' → u' = .bool b := by
  intro ok w' L u' h
  simp only [RepV] at h
  simpa [RepD.Inv] using h.2.inv

/-- Whole numbers in memory. -/
theorem rep_ints {k : IntKind} {zs : List Int} {A : Option Addr} {n c : Nat} {w : World} (hn : n = zs.length) (hc : n ≤ c) (hA : c = 0 ∨ ∃ a, A = some a) (hm : n = 0 ∨ ∃ b o, A = some ⟨b, o, none⟩ ∧ ∀ j, (h : j < zs.length) → w.cell? ⟨b, o + j, none⟩ = some (.int k zs[j])) :
    RepD G (fun _ _ => True) w (.sl (.int k)) (zs : List Int) [.slice A n c] := by
  subst hn
  refine RepD.sl (G := G) (.int k) (zs : List Int) A c (fun i => match zs[i]? with | some z => [.int k z] | none => []) hc hA (fun i hi => ?_) (fun i hi => ?_)
  · have : zs[i]? = some zs[i] := List.getElem?_eq_getElem hi
    simp only [this]
    exact .int k _
  · rcases hm with h0 | ⟨b, o, hA, hcl⟩
    · have hi' : i < zs.length := hi
      omega
    · refine ⟨b, o, hA, fun j v hj => ⟨trivial, ?_⟩⟩
      have : zs[i]? = some zs[i] := List.getElem?_eq_getElem hi
      simp only [this] at hj
      cases j with
      | zero =>
        simp at hj; subst hj
        have e : szT G (.int k) = 1 := rfl
        rw [e]
        simpa using hcl i hi
      | succ j => simp at hj
end Go.Abs
end
