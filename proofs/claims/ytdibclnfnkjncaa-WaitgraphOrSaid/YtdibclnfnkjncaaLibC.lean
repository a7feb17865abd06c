/- An evaluator of the model over pure data, and that its answers are those of the code; part 3. No conditions. -/
import Derived.Below
import Derived.KernelRfl
import Derived.ChangeArms
import Derived.Test.YtdibclnfnkjncaaLibB
section
set_option linter.all false
set_option linter.unusedVariables false
set_option linter.unusedSimpArgs false
set_option linter.unnecessarySimpa false
/-
  ABS, part 27: a state told anew.
-/
namespace Go.Abs
open Go
variable {G : Gam}

section
variable {F : Frm} {nt : Nat} {L : LM} {s s' : St G} {a : Act} {w : World}

/-- What stands at a place: a slot, or a box's cell. -/
def placeV (s : St G) (a : Nat) : Option Nat → EV G
  | none => s.get a
  | some o => match s.look a with | some (.box cs) => (match cs[o]? with | some v => v | none => .u) | some (.fill _ _ cs _ _ _) => (match cs[o]? with | some v => v | none => .u) | _ => .u

/-- Cells that hold values of the frame. -/
def Ent.cellsOf : Ent G → Option (List (EV G))
  | .box cs => some cs
  | .fill _ _ cs _ _ _ => some cs
  | _ => none
def Ent.setC (e : Ent G) (cs : List (EV G)) : Ent G :=
  match e with
  | .box _ => .box cs
  | .fill e xs _ zc n _ => .fill e xs cs zc n false
  | e => e
theorem setC_owns {l : Loc} {e : Ent G} {cs : List (EV G)} : owns l (e.setC cs) = owns l e := by cases e <;> rfl
theorem cellsOf_owner {e : Ent G} {cs : List (EV G)} (h : e.cellsOf = some cs) : owner e := by cases e <;> first | trivial | cases h
theorem setC_ids {e : Ent G} {cs cs' : List (EV G)} (h : e.cellsOf = some cs) : (e.setC cs').ids = EV.idss cs' := by cases e <;> first | rfl | cases h

structure Rows' (s : St G) (rows : List ((Nat × Option Nat) × Nat × Ty)) (ren : List (Nat × Nat)) (new : List (Nat × Ent G)) : Prop where
  keys : new.map (·.1) = rows.map (·.2.1)
  sub : ∀ p ∈ ren, p.2 ∈ rows.map (·.2.1)
  nd : (ren.map (·.1)).Nodup
  nd2 : (ren.map (·.2)).Nodup
  row : ∀ p ∈ ren, ∃ e xs lock, s.look p.1 = some (.row e xs lock) ∧ (p.2, .row e xs lock) ∈ new
  src : ∀ q ∈ new, (∃ id e xs lock, (id, q.1) ∈ ren ∧ s.look id = some (.row e xs lock) ∧ q.2 = .row e xs lock) ∨ (∃ e, q.2 = .row e [] 0 ∧ q.1 ∉ ren.map (·.2))
  place : ∀ t ∈ rows, (placeV s t.1.1 t.1.2 = .nl ∧ t.2.1 ∉ ren.map (·.2)) ∨ ∃ id, placeV s t.1.1 t.1.2 = .ow id ∧ (id, t.2.1) ∈ ren

theorem rowsOf_spec : ∀ {rows : List ((Nat × Option Nat) × Nat × Ty)} {ren : List (Nat × Nat)} {new : List (Nat × Ent G)}, (rows.map (·.2.1)).Nodup → rowsOf s rows = some (ren, new) → Rows' s rows ren new := by
  intro rows
  induction rows with
  | nil =>
    intro ren new _ h
    simp only [rowsOf] at h; cases h
    exact ⟨rfl, fun _ h => by simp at h, by simp, by simp, fun _ h => by simp at h, fun _ h => by simp at h, fun _ h => by simp at h⟩
  | cons t rows ih =>
    intro ren new hnd h
    obtain ⟨⟨a, off⟩, cid, e⟩ := t
    simp only [List.map_cons, List.nodup_cons] at hnd
    simp only [rowsOf] at h
    split at h
    · cases h
    rename_i ren0 new0 h0
    have R := ih hnd.2 h0
    have hcn : cid ∉ ren0.map (·.2) := fun hm => by
      obtain ⟨p, hp, rfl⟩ := List.mem_map.mp hm
      exact hnd.1 (R.sub p hp)
    split at h
    · rename_i hv
      cases h
      refine ⟨by simp [R.keys], fun p hp => by simp [R.sub p hp], R.nd, R.nd2, fun p hp => ?_, fun q hq => ?_, fun q hq => ?_⟩
      · obtain ⟨e', xs, lk, q1, q2⟩ := R.row p hp; exact ⟨e', xs, lk, q1, by simp [q2]⟩
      · rcases List.mem_cons.mp hq with rfl | hq
        · exact .inr ⟨e, rfl, hcn⟩
        · exact R.src q hq
      · rcases List.mem_cons.mp hq with rfl | hq
        · exact .inl ⟨by cases off <;> exact hv, hcn⟩
        · exact R.place q hq
    · rename_i id hv
      split at h
      · rename_i e' xs lk hi
        obtain ⟨hg, h⟩ := guardn h
        cases h
        have hid : id ∉ ren0.map (·.1) := fun hm => by
          obtain ⟨p, hp, hpe⟩ := List.mem_map.mp hm
          have := List.any_eq_false.mp hg p hp
          simp [beq_nat, hpe] at this
        refine ⟨by simp [R.keys], fun p hp => ?_, by simp only [List.map_cons, List.nodup_cons]; exact ⟨hid, R.nd⟩, by simp only [List.map_cons, List.nodup_cons]; exact ⟨hcn, R.nd2⟩, fun p hp => ?_, fun q hq => ?_, fun q hq => ?_⟩
        · rcases List.mem_cons.mp hp with rfl | hp
          · simp
          · simp [R.sub p hp]
        · rcases List.mem_cons.mp hp with rfl | hp
          · exact ⟨e', xs, lk, hi, by simp⟩
          · obtain ⟨e'', xs', lk', q1, q2⟩ := R.row p hp; exact ⟨e'', xs', lk', q1, by simp [q2]⟩
        · rcases List.mem_cons.mp hq with rfl | hq
          · exact .inl ⟨id, e', xs, lk, by simp, hi, rfl⟩
          · rcases R.src q hq with ⟨id', e'', xs', lk', q1, q2, q3⟩ | ⟨e'', q1, q2⟩
            · exact .inl ⟨id', e'', xs', lk', by simp [q1], q2, q3⟩
            · refine .inr ⟨e'', q1, fun hm => ?_⟩
              simp only [List.map_cons, List.mem_cons] at hm
              rcases hm with hm | hm
              · have : q.1 ∈ new0.map (·.1) := List.mem_map.mpr ⟨q, hq, rfl⟩
                rw [R.keys, hm] at this
                exact hnd.1 this
              · exact q2 hm
        · rcases List.mem_cons.mp hq with rfl | hq
          · exact .inr ⟨id, by cases off <;> exact hv, by simp⟩
          · rcases R.place q hq with ⟨q1, q2⟩ | ⟨id', q1, q2⟩
            · refine .inl ⟨q1, fun hm => ?_⟩
              simp only [List.map_cons, List.mem_cons] at hm
              rcases hm with hm | hm
              · have : q.2.1 ∈ rows.map (·.2.1) := List.mem_map.mpr ⟨q, hq, rfl⟩
                rw [hm] at this; exact hnd.1 this
              · exact q2 hm
            · exact .inr ⟨id', q1, by simp [q2]⟩
      · cases h
    · cases h

theorem placeRow_spec {rows : List ((Nat × Option Nat) × Nat × Ty)} {a : Nat} {off : Option Nat} {cid : Nat} (h : placeRow rows a off = some cid) : ∃ t ∈ rows, t.1 = (a, off) ∧ t.2.1 = cid := by
  induction rows with
  | nil => cases h
  | cons t rows ih =>
    obtain ⟨⟨b, o⟩, c, e⟩ := t
    simp only [placeRow] at h
    cases hc : (Nat.beq a b && decide (off = o)) with
    | true =>
      rw [hc] at h
      obtain ⟨h1, h2⟩ := band hc
      have h1 := beqT h1
      have h2 := of_decide_eq_true h2
      simp only [cond_true, Option.some.injEq] at h
      subst h1; subst h2; subst h
      exact ⟨((a, off), c, e), List.mem_cons_self, rfl, rfl⟩
    | false =>
      rw [hc] at h
      obtain ⟨t, q1, q2⟩ := ih h
      exact ⟨t, by simp [q1], q2⟩

theorem canonBoxes_spec {rows : List ((Nat × Option Nat) × Nat × Ty)} {ρ : Nat → Option Nat} : ∀ {l : List Nat} {bx : List (Nat × Ent G)}, canonBoxes s rows ρ l = some bx → bx.map (·.1) = l ∧ ∀ q ∈ bx, ∃ e0 cs, s.look q.1 = some e0 ∧ Ent.cellsOf e0 = some cs ∧ q.2 = e0.setC (canonCells rows ρ q.1 0 cs) := by
  intro l
  induction l with
  | nil => intro bx h; simp only [canonBoxes] at h; cases h; exact ⟨rfl, fun q h => by cases h⟩
  | cons i l ih =>
    intro bx h
    simp only [canonBoxes] at h
    split at h
    · rename_i cs hi
      split at h
      · rename_i m hm
        cases h
        obtain ⟨h1, h2⟩ := ih hm
        refine ⟨by simp [h1], fun q hq => ?_⟩
        rcases List.mem_cons.mp hq with rfl | hq
        · exact ⟨_, cs, hi, rfl, rfl⟩
        · exact h2 q hq
      · cases h
    · rename_i e xs cs zc n tt hi
      split at h
      · rename_i m hm
        cases h
        obtain ⟨h1, h2⟩ := ih hm
        refine ⟨by simp [h1], fun q hq => ?_⟩
        rcases List.mem_cons.mp hq with rfl | hq
        · exact ⟨_, cs, hi, rfl, rfl⟩
        · exact h2 q hq
      · cases h
    · cases h

theorem canonTm_keys {rows : List ((Nat × Option Nat) × Nat × Ty)} {ρ : Nat → Option Nat} : ∀ (l : List Nat), (canonTm s rows ρ l).map (·.1) = l := by
  intro l
  induction l with
  | nil => rfl
  | cons t l ih => simp [canonTm, ih]
theorem canonTm_get {rows : List ((Nat × Option Nat) × Nat × Ty)} {ρ : Nat → Option Nat} : ∀ (l : List Nat) (t : Nat) (v : EV G), lookT (canonTm s rows ρ l) t = some v → v = (match placeRow rows t none with | some cid => .ow cid | none => (s.get t).rn ρ) := by
  intro l
  induction l with
  | nil => intro t v h; simp [canonTm, lookT] at h
  | cons a l ih =>
    intro t v h
    simp only [canonTm, lookT_cons] at h
    split at h
    · rename_i e; subst e; exact (some_inj h).symm
    · exact ih t v h

theorem nodupB_spec : ∀ {l : List Nat}, nodupB l = true → l.Nodup := by
  intro l
  induction l with
  | nil => intro _; simp
  | cons a l ih =>
    intro h
    simp only [nodupB, Bool.and_eq_true] at h
    rw [List.nodup_cons]
    exact ⟨by simpa using h.1, ih h.2⟩

theorem lookT_of_mem {α : Type} {l : List (Nat × α)} {j : Nat} {v : α} (hnd : (l.map (·.1)).Nodup) (h : (j, v) ∈ l) : lookT l j = some v := by
  induction l with
  | nil => cases h
  | cons p l ih =>
    obtain ⟨i, u⟩ := p
    simp only [List.map_cons, List.nodup_cons] at hnd
    rw [lookT_cons]
    rcases List.mem_cons.mp h with h | h
    · cases h; simp
    · have : j ∈ l.map (·.1) := List.mem_map.mpr ⟨_, h, rfl⟩
      have hne : ¬ i = j := fun e => hnd.1 (e ▸ this)
      rw [if_neg hne]
      exact ih hnd.2 h

/-- Where a name's new name is the key. -/
def backL (boxes : List Nat) (ren : List (Nat × Nat)) (L : LM) : LM := fun j =>
  if boxes.contains j = true then L j else match ren.find? (fun p => p.2 == j) with | some p => L p.1 | none => none

theorem backL_ren {boxes : List Nat} {ren : List (Nat × Nat)} {id cid : Nat} (hb : cid ∉ boxes) (hnd : (ren.map (·.2)).Nodup) (h : (id, cid) ∈ ren) : backL boxes ren L cid = L id := by
  unfold backL
  rw [if_neg (by simpa using hb)]
  have : ren.find? (fun p => p.2 == cid) = some (id, cid) := by
    induction ren with
    | nil => cases h
    | cons p ren ih =>
      obtain ⟨i, c⟩ := p
      simp only [List.map_cons, List.nodup_cons] at hnd
      rcases List.mem_cons.mp h with h | h
      · cases h; simp
      · have hm : cid ∈ ren.map (·.2) := List.mem_map.mpr ⟨_, h, rfl⟩
        have hne : ¬ c = cid := fun e => hnd.1 (e ▸ hm)
        rw [List.find?_cons_of_neg (by simpa using hne)]
        exact ih hnd.2 h
  rw [this]
theorem backL_none {boxes : List Nat} {ren : List (Nat × Nat)} {cid : Nat} (hb : cid ∉ boxes) (h : cid ∉ ren.map (·.2)) : backL boxes ren L cid = none := by
  unfold backL
  rw [if_neg (by simpa using hb)]
  have : ren.find? (fun p => p.2 == cid) = none := by
    rw [List.find?_eq_none]
    intro p hp he
    exact h (List.mem_map.mpr ⟨p, hp, by simpa using he⟩)
  rw [this]
theorem backL_box {boxes : List Nat} {ren : List (Nat × Nat)} {i : Nat} (hb : i ∈ boxes) : backL boxes ren L i = L i := by
  unfold backL; rw [if_pos (by simpa using hb)]

theorem lookT_isSome {α : Type} {l : List (Nat × α)} {j : Nat} (h : j ∈ l.map (·.1)) : (lookT l j).isSome = true := by
  induction l with
  | nil => cases h
  | cons p l ih =>
    obtain ⟨i, u⟩ := p
    rw [lookT_cons]
    split
    · rfl
    · rename_i hne
      simp only [List.map_cons, List.mem_cons] at h
      rcases h with h | h
      · exact absurd h.symm hne
      · exact ih h

theorem canonCells_rep {ok ok' : Cells} {L' : LM} {rows : List ((Nat × Option Nat) × Nat × Ty)} {ρ : Nat → Option Nat} {id : Nat} (hk : ∀ b o, ok b o → ok' b o) {CS : List (EV G)}
    (ht : ∀ ids, Turn ρ L L' ids) (hp : ∀ n cid, placeRow rows id (some n) = some cid → ∀ v u, CS[n]? = some v → RepV ok w L v u → RepV ok' w L' (EV.ow cid : EV G) u) :
    ∀ {cs : List (EV G)} {vs : List Value} {n : Nat}, (∀ i : Nat, i < cs.length → cs[i]? = CS[n + i]?) → RepVs ok w L cs vs → RepVs ok' w L' (canonCells rows ρ id n cs) vs := by
  intro cs
  induction cs with
  | nil => intro vs n _ h; cases vs <;> simpa [canonCells, RepVs] using h
  | cons v cs ih =>
    intro vs n hcs h
    cases vs with
    | nil => simp [RepVs] at h
    | cons u vs =>
      simp only [RepVs] at h
      simp only [canonCells, RepVs]
      refine ⟨?_, ih (fun i hi => ?_) h.2⟩
      · split
        · rename_i cid hc
          exact hp n cid hc v u (by have := hcs 0 (by simp); simpa using this.symm) h.1
        · exact (h.1.mono (L' := L) (fun b o v p q => ⟨hk b o p, q⟩) (fun _ _ => rfl)).rn (ht _)
      · have := hcs (i + 1) (by simpa using hi)
        rw [show n + 1 + i = n + (i + 1) by omega]; simpa using this
theorem canonCells_len {rows : List ((Nat × Option Nat) × Nat × Ty)} {ρ : Nat → Option Nat} {id : Nat} : ∀ (cs : List (EV G)) (n : Nat), (canonCells rows ρ id n cs).length = cs.length
  | [], _ => rfl
  | _ :: cs, n => by simp [canonCells, canonCells_len cs (n + 1)]
theorem canonCells_ids {rows : List ((Nat × Option Nat) × Nat × Ty)} {ρ : Nat → Option Nat} {id : Nat} {j : Nat} : ∀ {cs : List (EV G)} {n : Nat}, j ∈ EV.idss (canonCells rows ρ id n cs) → (∃ a off, placeRow rows a off = some j) ∨ ∃ i, ρ i = some j := by
  intro cs
  induction cs with
  | nil => intro n h; simp [canonCells, EV.idss] at h
  | cons v cs ih =>
    intro n h
    simp only [canonCells, EV.idss, List.mem_append] at h
    rcases h with h | h
    · split at h
      · rename_i cid hc; simp [EV.ids] at h; subst h; exact .inl ⟨_, _, hc⟩
      · obtain ⟨i, _, hi⟩ := EV.rn_ids h; exact .inr ⟨i, hi⟩
    · exact ih h

theorem zip_eta {α : Type} : ∀ (l : List (Nat × α)), l = zipT (l.map (·.1)) (l.map (·.2)) := by
  intro l
  induction l with
  | nil => rfl
  | cons p l ih => simp only [List.map_cons, zipT]; rw [← ih]

theorem zipT_append {α : Type} : ∀ {l m : List Nat} {x y : List α}, l.length = x.length → zipT (l ++ m) (x ++ y) = zipT l x ++ zipT m y := by
  intro l
  induction l with
  | nil => intro m x y h; cases x with | nil => rfl | cons _ _ => simp at h
  | cons a l ih =>
    intro m x y h
    cases x with
    | nil => simp at h
    | cons b x => simp only [List.cons_append, zipT]; rw [ih (by simpa using h)]

theorem canon0_shape {m : Nat} {kp : Keep} (hc : canon0 m kp s = some s') : s' = kp.st (s'.tm.map (·.2)) ((s'.en.map (·.2)).take (kp.boxes.length + kp.rows.length)) := by
  unfold canon0 at hc
  split at hc
  · cases hc
  rename_i ren new hrows
  simp only at hc
  generalize hρ : (fun i => bif kp.boxes.contains i then some i else lookT ren i) = ρ at hc
  split at hc
  · cases hc
  rename_i bx hbx
  obtain ⟨hnd, hc⟩ := guardb hc
  have hnd' := List.nodup_append.mp (nodupB_spec (band (band hnd).1).1)
  cases hc
  have R := rowsOf_spec (List.nodup_append.mp hnd'.2.1).1 hrows
  obtain ⟨bk, bs⟩ := canonBoxes_spec hbx
  unfold Keep.st
  congr 1
  · have := zip_eta (canonTm s kp.rows ρ kp.slots)
    rw [canonTm_keys] at this; exact this
  · have h1 := zip_eta (bx ++ new)
    rw [List.map_append, bk, R.keys] at h1
    have hl : (List.map (·.2) (bx ++ new)).length = kp.boxes.length + kp.rows.length := by
      rw [List.length_map, List.length_append, ← bk, List.length_map]
      have := congrArg List.length R.keys
      simp only [List.length_map] at this
      rw [this]
    have h2 : List.take (kp.boxes.length + kp.rows.length) (List.map (·.2) (bx ++ new ++ kp.tombs.map fun i => (i, (Ent.tomb : Ent G)))) = List.map (·.2) (bx ++ new) := by
      rw [List.map_append, ← hl, List.take_left]
    simp only [h2]
    rw [← h1]

theorem canon0_rel {m : Nat} (hm0 : F.n = m) (h : Rel F nt L s a w) {kp : Keep} (hc : canon0 m kp s = some s') : (∃ L', Rel F nt L' s' a w) ∧ s' = kp.st (s'.tm.map (·.2)) ((s'.en.map (·.2)).take (kp.boxes.length + kp.rows.length)) := by
  refine ⟨?_, canon0_shape hc⟩
  unfold canon0 at hc
  split at hc
  · cases hc
  rename_i ren new hrows
  simp only at hc
  generalize hρ : (fun i => bif kp.boxes.contains i then some i else lookT ren i) = ρ at hc
  split at hc
  · cases hc
  rename_i bx hbx
  obtain ⟨hnd0, hc⟩ := guardb hc
  obtain ⟨hnd1, hlent⟩ := band hnd0
  obtain ⟨hnd2, htomb⟩ := band hnd1
  have hnd := nodupB_spec hnd2
  cases hc
  have hnd' := List.nodup_append.mp hnd
  have hnd3 := List.nodup_append.mp hnd'.2.1
  have R := rowsOf_spec hnd3.1 hrows
  obtain ⟨bk, bs⟩ := canonBoxes_spec hbx
  have hdisj : ∀ c ∈ kp.rows.map (·.2.1), c ∉ kp.boxes := fun c hc hb => hnd'.2.2 c hb c (List.mem_append.mpr (.inl hc)) rfl
  let L' := backL (kp.boxes ++ kp.tombs) ren L
  generalize hs' : ({ tm := canonTm s kp.rows ρ kp.slots, en := bx ++ new ++ kp.tombs.map fun i => (i, .tomb) } : St G) = t
  have tlook : ∀ j, t.look j = lookT (bx ++ new ++ kp.tombs.map fun i => (i, (Ent.tomb : Ent G))) j := fun j => by rw [← hs']; rfl
  have tget : ∀ j, t.get j = match lookT (canonTm s kp.rows ρ kp.slots) j with | some v => v | none => .u := fun j => by rw [← hs']; rfl
  have hdisj2 : ∀ c ∈ kp.rows.map (·.2.1), c ∉ kp.boxes ++ kp.tombs := fun c hc hb => by
    rcases List.mem_append.mp hb with hb | hb
    · exact hdisj c hc hb
    · exact hnd3.2.2 c hc c hb rfl
  have turn : ∀ ids, Turn ρ L L' ids := by
    intro ids i _ j hj
    rw [← hρ] at hj
    simp only at hj
    cases hb : kp.boxes.contains i with
    | true =>
      rw [hb] at hj; cases hj
      exact backL_box (List.mem_append.mpr (.inl (by simpa using hb)))
    | false =>
      rw [hb] at hj
      have hm := lookT_mem hj
      exact backL_ren (hdisj2 j (R.sub _ hm)) R.nd2 hm
  have isS : ∀ j, j ∈ kp.boxes ∨ j ∈ kp.rows.map (·.2.1) → (t.look j).isSome = true := by
    intro j hj
    rw [tlook]
    refine lookT_isSome ?_
    rw [List.map_append, List.map_append, bk, R.keys]
    exact List.mem_append.mpr (.inl (List.mem_append.mpr hj))
  have isT : ∀ j, j ∈ kp.tombs → (t.look j).isSome = true := by
    intro j hj
    rw [tlook]
    refine lookT_isSome ?_
    rw [List.map_append]
    exact List.mem_append.mpr (.inr (by simpa using hj))
  have isR : ∀ i j, ρ i = some j → (t.look j).isSome = true := by
    intro i j hj
    rw [← hρ] at hj
    simp only at hj
    cases hb : kp.boxes.contains i with
    | true => rw [hb] at hj; cases hj; exact isS _ (.inl (by simpa using hb))
    | false => rw [hb] at hj; exact isS j (.inr (R.sub _ (lookT_mem hj)))
  have isP : ∀ a off j, placeRow kp.rows a off = some j → (t.look j).isSome = true := by
    intro a off j hj
    obtain ⟨q, q1, _, q3⟩ := placeRow_spec hj
    exact isS j (.inr (List.mem_map.mpr ⟨q, q1, q3⟩))
  have cases' : ∀ j e', t.look j = some e' → (∃ e0 cs, s.look j = some e0 ∧ Ent.cellsOf e0 = some cs ∧ e' = e0.setC (canonCells kp.rows ρ j 0 cs) ∧ L' j = L j) ∨ (∃ id e xs lk, s.look id = some (.row e xs lk) ∧ e' = .row e xs lk ∧ L' j = L id ∧ (id, j) ∈ ren) ∨ (∃ e, e' = .row e [] 0 ∧ L' j = none) ∨ e' = .tomb := by
    intro j e' hj
    rw [tlook] at hj
    rcases List.mem_append.mp (lookT_mem hj) with hm1 | hm1
    case inr =>
      obtain ⟨i, _, hi⟩ := List.mem_map.mp hm1
      cases hi; exact .inr (.inr (.inr rfl))
    rcases List.mem_append.mp hm1 with hm | hm
    · obtain ⟨e0, cs, q1, q2, q2'⟩ := bs _ hm
      have hjb : j ∈ kp.boxes := by rw [← bk]; exact List.mem_map.mpr ⟨_, hm, rfl⟩
      exact .inl ⟨e0, cs, q1, q2, q2', backL_box (List.mem_append.mpr (.inl hjb))⟩
    · have hjc : j ∈ kp.rows.map (·.2.1) := by rw [← R.keys]; exact List.mem_map.mpr ⟨_, hm, rfl⟩
      rcases R.src _ hm with ⟨id, e, xs, lk, q1, q2, q3⟩ | ⟨e, q1, q2⟩
      · exact .inr (.inl ⟨id, e, xs, lk, q2, q3, backL_ren (hdisj2 j hjc) R.nd2 q1, q1⟩)
      · exact .inr (.inr (.inl ⟨e, q1, backL_none (hdisj2 j hjc) q2⟩))
  have ownd : ∀ b o, owned t L' b o → owned s L b o := by
    rintro b o ⟨j, e', l, hj, hl, hw⟩
    rcases cases' j e' hj with ⟨e0, cs, q1, q2, rfl, q3⟩ | ⟨id, e, xs, lk, q1, rfl, q3, _⟩ | ⟨e, _, q3⟩ | rfl
    · rw [q3] at hl; rw [setC_owns] at hw; exact ⟨j, _, l, q1, hl, hw⟩
    · rw [q3] at hl; exact ⟨id, _, l, q1, hl, hw⟩
    · rw [q3] at hl; cases hl
    · exact hw.elim
  have hok : ∀ b o, okOf F L s b o → okOf F L' t b o := fun b o hb => ⟨hb.1, fun ho => hb.2 (ownd b o ho)⟩
  have place : ∀ a off cid, placeRow kp.rows a off = some cid → ∀ (ok : Cells) (u : Value), RepV ok w L (placeV s a off) u → RepV ok w L' (EV.ow cid : EV G) u := by
    intro a off cid hp ok u hv
    obtain ⟨⟨⟨a', off'⟩, cid', e'⟩, q1, q2, q3⟩ := placeRow_spec hp
    cases q2; simp only at q3; subst q3
    have hcr : cid' ∈ kp.rows.map (·.2.1) := List.mem_map.mpr ⟨_, q1, rfl⟩
    rcases R.place _ q1 with ⟨r1, r2⟩ | ⟨id, r1, r2⟩
    · rw [r1] at hv
      simp only [RepV] at hv ⊢
      have hn : L' cid' = none := backL_none (hdisj2 _ hcr) r2
      rw [hn]; exact ⟨none, hv⟩
    · rw [r1] at hv
      simp only [RepV] at hv ⊢
      have hn : L' cid' = L id := backL_ren (hdisj2 _ hcr) R.nd2 r2
      rw [hn]; exact hv
  have hlt : ∀ i, i < F.n → (t.look i).isSome = true ∧ L' i = F.L0 i := by
    intro i hi
    rw [hm0] at hi
    have h1 := List.all_eq_true.mp hlent i (by simpa using hi)
    have h2 := (h.e.lent i (by rw [hm0]; exact hi)).2
    rw [Bool.or_eq_true, Bool.or_eq_true] at h1
    rcases h1 with (h1 | h1) | h1
    · have h1 : i ∈ kp.boxes := by simpa using h1
      exact ⟨isS i (.inl h1), (backL_box (List.mem_append.mpr (.inl h1))).trans h2⟩
    · have h1 : i ∈ kp.tombs := by simpa using h1
      exact ⟨isT i h1, (backL_box (List.mem_append.mpr (.inr h1))).trans h2⟩
    · split at h1
      · rename_i j hj
        have h3 := beqT h1
        subst h3
        have hm := lookT_mem hj
        have hc := R.sub _ hm
        exact ⟨isS _ (.inr hc), (backL_ren (hdisj2 _ hc) R.nd2 hm).trans h2⟩
      · cases h1
  refine ⟨L', ⟨⟨h.e.fits, ?_, ?_, ?_, ?_, hlt⟩, ?_, ?_, h.defers, h.size⟩⟩
  · intro j e' hj
    rcases cases' j e' hj with ⟨e0, cs, q1, q2, rfl, q3⟩ | ⟨id, e, xs, lk, q1, rfl, q3, _⟩ | ⟨e, rfl, q3⟩ | rfl
    · have hre := h.e.en j _ q1
      have kk : Keeps (okOf F L s) (okOf F L' t) w w := fun b o v p q => ⟨hok b o p, q⟩
      have cells : ∀ us, RepVs (okOf F L s) w L cs us → RepVs (okOf F L' t) w L' (canonCells kp.rows ρ j 0 cs) us := by
        intro us h3
        refine canonCells_rep (L := L) (L' := L') hok (CS := cs) turn (fun n cid hp v u hcv hv => ?_) (fun i _ => by simp) h3
        have : placeV s j (some n) = v := by cases e0 <;> first | (cases q2; simp only [placeV, q1, hcv]) | cases q2
        exact place j (some n) cid hp _ u (by rw [this]; exact hv.mono (L' := L) kk (fun _ _ => rfl))
      cases e0 with
      | box cs0 =>
        cases q2
        obtain ⟨l, cvs, el, h1, h2, h3⟩ := hre
        exact ⟨l, cvs, el, by rw [q3]; exact h1, h2, cells _ h3⟩
      | fill e xs cs0 zc n tt =>
        cases q2
        obtain ⟨l, cvs, el, h1, h2, h3, h4, h5, h6, h7, h8, h9⟩ := hre
        refine ⟨l, cvs, el, by rw [q3]; exact h1, h2, h3, h4, h5, h6, h7, h8.mono kk fun o v hc _ => hc, ?_⟩
        have hl : (canonCells kp.rows ρ j 0 cs).length = cs.length := canonCells_len _ _
        exact { le := h9.le, tk := (fun h => by cases h), cl := by rw [hl]; exact h9.cl, zl := h9.zl, zi := h9.zi
                at' := fun hm => by obtain ⟨us, p1, p2⟩ := h9.at' hm; exact ⟨us, cells us p1, p2⟩
                zs := h9.zs }
      | row => cases q2
      | fz => cases q2
      | tomb => cases q2
    · have hre := (h.e.en id _ q1).ok_mono hok
      simp only [RepE] at hre ⊢
      rw [q3]; exact hre
    · simp only [RepE]; rw [q3]; exact ⟨by simp, trivial⟩
    · trivial
  · intro j e' hj i hi
    rcases cases' j e' hj with ⟨e0, cs, q1, q2, rfl, q3⟩ | ⟨id, e, xs, lk, q1, rfl, q3, _⟩ | ⟨e, rfl, q3⟩ | rfl
    · rw [setC_ids q2] at hi
      rcases canonCells_ids hi with ⟨a, off, hp⟩ | ⟨i', hi'⟩
      · exact isP a off i hp
      · exact isR i' i hi'
    · simp [Ent.ids] at hi
    · simp [Ent.ids] at hi
    · simp [Ent.ids] at hi
  · intro i j e f l m hi hj hl hm oe of ne
    rcases cases' i e hi with ⟨e0, cs, q1, q2, rfl, q3⟩ | ⟨id, e, xs, lk, q1, rfl, q3, q4⟩ | ⟨e, rfl, q3⟩ | rfl
    · rw [q3] at hl
      rcases cases' j f hj with ⟨f0, cs', p1, p2, rfl, p3⟩ | ⟨id', e', xs', lk', p1, rfl, p3, p4⟩ | ⟨e', rfl, p3⟩ | rfl
      · rw [p3] at hm; exact h.e.dis i j _ _ l m q1 p1 hl hm (cellsOf_owner q2) (cellsOf_owner p2) ne
      · rw [p3] at hm; exact h.e.dis i id' _ _ l m q1 p1 hl hm (cellsOf_owner q2) trivial (fun e0 => by rw [e0, p1] at q1; cases q1; cases q2)
      · rw [p3] at hm; cases hm
      · exact of.elim
    · rw [q3] at hl
      rcases cases' j f hj with ⟨f0, cs', p1, p2, rfl, p3⟩ | ⟨id', e', xs', lk', p1, rfl, p3, p4⟩ | ⟨e', rfl, p3⟩ | rfl
      · rw [p3] at hm; exact h.e.dis id j _ _ l m q1 p1 hl hm trivial (cellsOf_owner p2) (fun e0 => by rw [e0, p1] at q1; cases q1; cases p2)
      · rw [p3] at hm
        refine h.e.dis id id' _ _ l m q1 p1 hl hm trivial trivial (fun e0 => ne ?_)
        subst e0
        have key : ∀ (l : List (Nat × Nat)), (l.map (·.1)).Nodup → (id, i) ∈ l → (id, j) ∈ l → i = j := by
          intro l hl h1 h2
          have g1 := lookT_of_mem hl h1
          have g2 := lookT_of_mem hl h2
          rw [g1] at g2; exact some_inj g2
        exact key ren R.nd q4 p4
      · rw [p3] at hm; cases hm
      · exact of.elim
    · rw [q3] at hl; cases hl
    · exact oe.elim
  · intro i e l hi hl oe
    rcases cases' i e hi with ⟨e0, cs, q1, q2, rfl, q3⟩ | ⟨id, e, xs, lk, q1, rfl, q3, q4⟩ | ⟨e, rfl, q3⟩ | rfl
    · rw [q3] at hl; rw [setC_owns]; exact h.e.own i _ l q1 hl (cellsOf_owner q2)
    · rw [q3] at hl; exact h.e.own id _ l q1 hl trivial
    · rw [q3] at hl; cases hl
    · exact oe.elim
  · intro j
    rw [tget]
    cases hv : lookT (canonTm s kp.rows ρ kp.slots) j with
    | none => simp only [RepV]
    | some v =>
      simp only
      have hv := canonTm_get _ _ _ hv
      have h0 := (h.tm j).mono (L' := L) (ok' := okOf F L' t) (fun b o v p q => ⟨hok b o p, q⟩) (fun _ _ => rfl)
      subst hv
      split
      · rename_i cid hp
        exact place j none cid hp _ _ (by simpa only [placeV] using h0)
      · exact h0.rn (turn _)
  · intro j i hi
    rw [tget] at hi
    cases hv : lookT (canonTm s kp.rows ρ kp.slots) j with
    | none => rw [hv] at hi; simp [EV.ids] at hi
    | some v =>
      rw [hv] at hi
      simp only at hi
      have hv := canonTm_get _ _ _ hv
      subst hv
      split at hi
      · rename_i cid hp; simp [EV.ids] at hi; subst hi; exact isP _ _ _ hp
      · obtain ⟨i', _, hi'⟩ := EV.rn_ids hi; exact isR i' i hi'

theorem swapN_swapN (a b i : Nat) : swapN a b (swapN a b i) = i := by
  simp only [swapN, beq_nat, cond_dec]
  by_cases h1 : i = a
  · subst h1
    simp only [if_true]
    by_cases h2 : b = i
    · subst h2; simp
    · simp [h2]
  · by_cases h2 : i = b
    · subst h2; simp [h1]
    · simp [h1, h2]
theorem swapN_fix {a b i m : Nat} (ha : m ≤ a) (hb : m ≤ b) (hi : i < m) : swapN a b i = i := by
  simp only [swapN, beq_nat, cond_dec]
  rw [if_neg (by omega), if_neg (by omega)]
theorem St.swap_look (p q : Nat) (s : St G) (i : Nat) : (s.swap p q).look i = (s.look (swapN p q i)).map (Ent.rn fun i => some (swapN p q i)) := by
  simp only [St.swap, St.look]
  generalize s.en = l
  induction l with
  | nil => rfl
  | cons x l ih =>
    obtain ⟨j, e⟩ := x
    simp only [List.map_cons, lookT_cons]
    by_cases h : j = swapN p q i
    · subst h; rw [swapN_swapN]; simp
    · have h' : ¬ swapN p q j = i := fun e => h (by rw [← e, swapN_swapN])
      rw [if_neg h, if_neg h', ih]
theorem St.swap_get (p q : Nat) (s : St G) (t : Nat) : (s.swap p q).get t = (s.get t).rn fun i => some (swapN p q i) := by
  simp only [St.swap, St.get]
  generalize s.tm = l
  induction l with
  | nil => rfl
  | cons x l ih =>
    obtain ⟨j, v⟩ := x
    simp only [List.map_cons, lookT_cons]
    by_cases h : j = t
    · simp [h]
    · simp only [if_neg h]; exact ih
theorem swap_rel {p q : Nat} (hp : F.n ≤ p) (hq : F.n ≤ q) (h : Rel F nt L s a w) : Rel F nt (fun i => L (swapN p q i)) (s.swap p q) a w := by
  have turn : ∀ ids, Turn (fun i => some (swapN p q i)) L (fun i => L (swapN p q i)) ids := by
    intro ids i _ j hj
    cases hj
    simp only [swapN_swapN]
  have inv : ∀ {i : Nat} {e : Ent G}, (s.swap p q).look i = some e → ∃ e0, s.look (swapN p q i) = some e0 ∧ e = e0.rn fun i => some (swapN p q i) := by
    intro i e hi
    rw [St.swap_look] at hi
    cases h0 : s.look (swapN p q i) with
    | none => rw [h0] at hi; cases hi
    | some e0 => rw [h0] at hi; cases hi; exact ⟨e0, rfl, rfl⟩
  have ownd : ∀ b o, owned (s.swap p q) (fun i => L (swapN p q i)) b o ↔ owned s L b o := by
    intro b o
    constructor
    · rintro ⟨i, e, l, hi, hl, hw⟩
      obtain ⟨e0, h0, rfl⟩ := inv hi
      exact ⟨_, e0, l, h0, hl, by rwa [Ent.rn_owns] at hw⟩
    · rintro ⟨i, e, l, hi, hl, hw⟩
      refine ⟨swapN p q i, e.rn fun i => some (swapN p q i), l, ?_, ?_, by rw [Ent.rn_owns]; exact hw⟩
      · rw [St.swap_look, swapN_swapN, hi]; rfl
      · simp only [swapN_swapN]; exact hl
  have hok : okOf F (fun i => L (swapN p q i)) (s.swap p q) = okOf F L s := by
    funext b o
    simp only [okOf, eq_iff_iff]
    rw [ownd]
  have isS : ∀ {i : Nat}, (s.look i).isSome → ((s.swap p q).look (swapN p q i)).isSome := by
    intro i hi
    rw [St.swap_look, swapN_swapN]
    cases h0 : s.look i with
    | none => rw [h0] at hi; cases hi
    | some e => rfl
  refine ⟨⟨h.e.fits, ?_, ?_, ?_, ?_, ?_⟩, ?_, ?_, h.defers, h.size⟩
  · intro i e hi
    obtain ⟨e0, h0, rfl⟩ := inv hi
    rw [hok]
    exact RepE.rn (i := swapN p q i) rfl (turn _) (h.e.en _ _ h0)
  · intro i e hi j hj
    obtain ⟨e0, h0, rfl⟩ := inv hi
    obtain ⟨k, hk, hk2⟩ := Ent.rn_ids hj
    cases hk2
    exact isS (h.e.ids _ _ h0 k hk)
  · intro i j e f l m hi hj hl hm oe of ne
    obtain ⟨e0, h0, rfl⟩ := inv hi
    obtain ⟨f0, g0, rfl⟩ := inv hj
    refine h.e.dis _ _ _ _ l m h0 g0 hl hm (Ent.rn_owner.mp oe) (Ent.rn_owner.mp of) fun e => ne ?_
    have := congrArg (swapN p q) e
    rwa [swapN_swapN, swapN_swapN] at this
  · intro i e l hi hl oe
    obtain ⟨e0, h0, rfl⟩ := inv hi
    rw [Ent.rn_owns]
    exact h.e.own _ _ l h0 hl (Ent.rn_owner.mp oe)
  · intro i hi
    have h1 := h.e.lent i hi
    rw [St.swap_look, swapN_fix hp hq hi]
    refine ⟨?_, h1.2⟩
    cases h0 : s.look i with
    | none => rw [h0] at h1; exact h1.1
    | some e => rfl
  · intro t
    rw [hok, St.swap_get]
    exact (h.tm t).rn (turn _)
  · intro t j hj
    rw [St.swap_get] at hj
    obtain ⟨k, hk, hk2⟩ := EV.rn_ids hj
    cases hk2
    exact isS (h.tids t k hk)
theorem swaps_rel {m : Nat} (hm : F.n = m) : ∀ (l : List (Nat × Nat)) {s : St G} {L : LM}, Rel F nt L s a w → ∃ L', Rel F nt L' (swaps m l s) a w := by
  intro l
  induction l with
  | nil => intro s L h; exact ⟨L, h⟩
  | cons x l ih =>
    intro s L h
    obtain ⟨t, c⟩ := x
    simp only [swaps]
    split
    · rename_i i _ _
      cases hb : (Nat.ble m i && Nat.ble m c) with
      | false => exact ih h
      | true =>
        obtain ⟨h1, h2⟩ := band hb
        exact ih (swap_rel (by rw [hm]; exact Nat.le_of_ble_eq_true h1) (by rw [hm]; exact Nat.le_of_ble_eq_true h2) h)
    · exact ih h
theorem cut_rel {t c i lo n lock : Nat} {e : Ty} {xs : List (G.D e)} (hv : s.get t = .vw i lo n) (hi : s.look i = some (.row e xs lock)) (hc : s.look c = none) (hlk : lock ≤ lo + n) (h : Rel F nt L s a w) :
    ∃ L', Rel F nt L' { tm := (t, .ow c) :: s.tm, en := (c, .row e ((xs.drop lo).take n) (lock - lo)) :: (i, .tomb) :: s.en } a w := by
  have hne : c ≠ i := fun e0 => by rw [e0, hi] at hc; cases hc
  let nl : Option Loc := (L i).map fun l => { b := l.b, off := l.off + lo * l.sz, sz := l.sz, cap := l.cap - lo, len := n }
  let L' : LM := fun j => if j = c then nl else L j
  have hLc : L' c = nl := if_pos rfl
  have hLo : ∀ j, j ≠ c → L' j = L j := fun j hj => if_neg hj
  refine ⟨L', ?_⟩
  generalize hs' : ({ tm := (t, .ow c) :: s.tm, en := (c, .row e ((xs.drop lo).take n) (lock - lo)) :: (i, .tomb) :: s.en } : St G) = s'
  have look' : ∀ j, s'.look j = if c = j then some (.row e ((xs.drop lo).take n) (lock - lo)) else if i = j then some .tomb else s.look j := by
    intro j
    rw [← hs']
    simp only [St.look, lookT_cons]
  have get' : ∀ j, s'.get j = if t = j then .ow c else s.get j := by
    intro j
    rw [← hs']
    simp only [St.get, lookT_cons]
    by_cases hj : t = j
    · rw [if_pos hj, if_pos hj]
    · rw [if_neg hj, if_neg hj]
  have hrep := h.tm t
  rw [hv] at hrep
  simp only [RepV] at hrep
  have hent := h.e.en i _ hi
  simp only [RepE] at hent
  -- what is owned becomes less
  have ownd : ∀ b o, owned s' L' b o → owned s L b o := by
    rintro b o ⟨j, f, l, hj, hl, hw⟩
    rw [look'] at hj
    split at hj
    · rename_i e0
      subst e0
      cases hj
      rw [hLc] at hl
      cases hLi : L i with
      | none => simp only [nl, hLi, Option.map_none] at hl; cases hl
      | some l0 =>
        simp only [nl, hLi, Option.map_some, Option.some.injEq] at hl
        subst hl
        refine ⟨i, _, l0, hi, hLi, hw.1, ?_⟩
        have h2 := hw.2
        simp only at h2
        have : lock * l0.sz ≤ (lo + (lock - lo)) * l0.sz := Nat.mul_le_mul_right _ (by omega)
        rw [Nat.add_mul] at this
        omega
    · rename_i hjc
      split at hj
      · cases hj; exact hw.elim
      · rw [hLo j (fun e => hjc e.symm)] at hl
        exact ⟨j, f, l, hj, hl, hw⟩
  have hok : ∀ b o, okOf F L s b o → okOf F L' s' b o := fun b o hb => ⟨hb.1, fun ho => hb.2 (ownd b o ho)⟩
  have isS : ∀ j, (s.look j).isSome → (s'.look j).isSome := by
    intro j hj
    rw [look']
    split
    · rfl
    · split
      · rfl
      · exact hj
  have nec : ∀ {j : Nat}, (s.look j).isSome → j ≠ c := fun {j} hj e0 => by rw [e0, hc] at hj; cases hj
  have same : ∀ {ids : List Nat}, (∀ j ∈ ids, (s.look j).isSome) → Same L L' ids := fun hids j hj => (hLo j (nec (hids j hj)))
  have keeps : Keeps (okOf F L s) (okOf F L' s') w w := fun b o v p q => ⟨hok b o p, q⟩
  refine ⟨⟨h.e.fits, ?_, ?_, ?_, ?_, ?_⟩, ?_, ?_, h.defers, h.size⟩
  · intro j f hj
    rw [look'] at hj
    split at hj
    · rename_i e0; subst e0
      cases hj
      simp only [RepE]
      rw [hLc]
      cases hLi : L i with
      | none =>
        simp only [hLi] at hrep hent
        obtain ⟨A, _, p1, p2⟩ := hrep
        subst p1; subst p2
        refine ⟨by simp; omega, ?_⟩
        simp only [nl, hLi, Option.map_none]
        simp
      | some l0 =>
        simp only [hLi] at hrep hent
        obtain ⟨A, cc, _, p1, p2, p3, p4⟩ := hrep
        obtain ⟨q1, q2, q3, q4, ⟨cvs, el, q5, q6⟩, ⟨css, q7⟩⟩ := hent
        have hlen : ((xs.drop lo).take n).length = n := by simp; omega
        refine ⟨by rw [hlen]; omega, ?_⟩
        simp only [nl, hLi, Option.map_some]
        refine ⟨q2, hlen.symm, by omega, ⟨cvs, el, q5, ?_⟩, ⟨fun k => css (lo + k), fun k hk => ?_⟩⟩
        · have : (lo + (l0.cap - lo)) * l0.sz ≤ l0.cap * l0.sz := Nat.mul_le_mul_right _ (by omega)
          rw [Nat.add_mul] at this
          omega
        · rw [hlen] at hk
          have e1 : ((xs.drop lo).take n)[k] = xs[lo + k]'(by omega) := by simp
          rw [e1]
          have q8 := q7 (lo + k) (by omega)
          refine ⟨q8.1.mono keeps, fun j v hj => ?_⟩
          have := q8.2 j v hj
          have e2 : l0.off + lo * l0.sz + (k * szT G e + j) = l0.off + ((lo + k) * szT G e + j) := by rw [q2, Nat.add_mul]; omega
          rw [e2]; exact this
    · rename_i hjc
      split at hj
      · cases hj; trivial
      · have hre := (h.e.en j f hj).ok_mono hok
        have hids := h.e.ids j f hj
        cases f with
        | box cs =>
          obtain ⟨l, cvs, el, p1, p2, p3⟩ := hre
          exact ⟨l, cvs, el, by rw [hLo j (fun e => hjc e.symm)]; exact p1, p2, p3.mono (fun b o v p q => ⟨p, q⟩) (same hids)⟩
        | row e' ys lk => simp only [RepE] at hre ⊢; rw [hLo j (fun e => hjc e.symm)]; exact hre
        | fz e' ys => simp only [RepE] at hre ⊢; rw [hLo j (fun e => hjc e.symm)]; exact hre
        | tomb => trivial
        | fill e' ys cs zc m tt =>
          obtain ⟨l, cvs, el, p1, p2, p3, p4, p5, p6, p7, p8, p9⟩ := hre
          exact ⟨l, cvs, el, by rw [hLo j (fun e => hjc e.symm)]; exact p1, p2, p3, p4, p5, p6, p7, p8, p9.mono (fun b o v p q => ⟨p, q⟩) (fun _ => rfl) (same hids)⟩
  · intro j f hj k hk
    rw [look'] at hj
    split at hj
    · cases hj; simp [Ent.ids] at hk
    · split at hj
      · cases hj; simp [Ent.ids] at hk
      · exact isS k (h.e.ids j f hj k hk)
  · intro j k f g l m hj hk hl hm of og ne
    rw [look'] at hj hk
    have back : ∀ {l : Loc}, L' c = some l → ∃ l0, L i = some l0 ∧ l.b = l0.b := by
      intro l hl
      rw [hLc] at hl
      cases hLi : L i with
      | none => simp only [nl, hLi, Option.map_none] at hl; cases hl
      | some l0 => simp only [nl, hLi, Option.map_some, Option.some.injEq] at hl; subst hl; exact ⟨l0, rfl, rfl⟩
    split at hj
    · rename_i e0; subst e0
      obtain ⟨l0, r1, r2⟩ := back hl
      split at hk
      · rename_i e1; exact absurd e1 ne
      · rename_i hkc
        split at hk
        · cases hk; exact og.elim
        · rename_i hki
          rw [hLo k (fun e => hkc e.symm)] at hm
          rw [r2]
          exact h.e.dis i k _ g l0 m hi hk r1 hm trivial og hki
    · rename_i hjc
      split at hj
      · cases hj; exact of.elim
      · rename_i hji
        rw [hLo j (fun e => hjc e.symm)] at hl
        split at hk
        · rename_i e1; subst e1
          obtain ⟨m0, r1, r2⟩ := back hm
          rw [r2]
          exact h.e.dis j i f _ l m0 hj hi hl r1 of trivial (fun e => hji e.symm)
        · rename_i hkc
          split at hk
          · cases hk; exact og.elim
          · rw [hLo k (fun e => hkc e.symm)] at hm
            exact h.e.dis j k f g l m hj hk hl hm of og ne
  · intro j f l hj hl of
    rw [look'] at hj
    split at hj
    · rename_i e0; subst e0
      cases hj
      rw [hLc] at hl
      cases hLi : L i with
      | none => simp only [nl, hLi, Option.map_none] at hl; cases hl
      | some l0 =>
        simp only [nl, hLi, Option.map_some, Option.some.injEq] at hl
        subst hl
        obtain ⟨r1, r2⟩ := h.e.own i _ l0 hi hLi trivial
        refine ⟨r1, r2.imp (fun h => h) fun r2 o => ⟨fun ho => (r2 o).1 ⟨rfl, ?_⟩, (r2 o).2⟩⟩
        have h2 := ho.2
        simp only at h2
        have : lock * l0.sz ≤ (lo + (lock - lo)) * l0.sz := Nat.mul_le_mul_right _ (by omega)
        rw [Nat.add_mul] at this
        omega
    · rename_i hjc
      split at hj
      · cases hj; exact of.elim
      · rw [hLo j (fun e => hjc e.symm)] at hl
        exact h.e.own j f l hj hl of
  · intro j hj
    have h1 := h.e.lent j hj
    exact ⟨isS j h1.1, by rw [hLo j (nec h1.1)]; exact h1.2⟩
  · intro j
    rw [get']
    split
    · rename_i e0; subst e0
      simp only [RepV]
      rw [hLc]
      cases hLi : L i with
      | none =>
        simp only [hLi] at hrep
        obtain ⟨A, p0, _, _⟩ := hrep
        simp only [nl, hLi, Option.map_none]
        exact ⟨A, p0⟩
      | some l0 =>
        simp only [hLi] at hrep
        obtain ⟨A, cc, p0, p1, p2, p3, p4⟩ := hrep
        simp only [nl, hLi, Option.map_some]
        exact ⟨A, cc, p0, p1, by omega, p4⟩
    · exact (h.tm j).mono keeps (same (h.tids j))
  · intro j k hk
    rw [get'] at hk
    split at hk
    · simp [EV.ids] at hk; subst hk
      rw [look', if_pos rfl]; rfl
    · exact isS k (h.tids j k hk)
theorem cuts_rel : ∀ (l : List (Nat × Nat)) {s : St G} {L : LM}, Rel F nt L s a w → ∃ L', Rel F nt L' (cuts l s) a w := by
  intro l
  induction l with
  | nil => intro s L h; exact ⟨L, h⟩
  | cons x l ih =>
    intro s L h
    obtain ⟨t, c⟩ := x
    simp only [cuts]
    split
    · rename_i i lo n hv
      split
      · rename_i e xs lock hi
        split
        · rename_i hc
          cases hb : lockOK lock (lo + n) with
          | false => exact ih h
          | true =>
            obtain ⟨L1, h1⟩ := cut_rel hv hi hc (lockOK_le hb) h
            exact ih h1
        · exact ih h
      · exact ih h
    · exact ih h
theorem canon_shape {m : Nat} {kp : Keep} (hc : canon m kp s = some s') : s' = kp.st (s'.tm.map (·.2)) ((s'.en.map (·.2)).take (kp.boxes.length + kp.rows.length)) := canon0_shape hc
theorem canon_rel {m : Nat} (hm0 : F.n = m) (h : Rel F nt L s a w) {kp : Keep} (hc : canon m kp s = some s') : (∃ L', Rel F nt L' s' a w) ∧ s' = kp.st (s'.tm.map (·.2)) ((s'.en.map (·.2)).take (kp.boxes.length + kp.rows.length)) := by
  obtain ⟨L1, h1⟩ := swaps_rel hm0 kp.mv h
  obtain ⟨L2, h2⟩ := cuts_rel kp.cut h1
  exact canon0_rel hm0 (fins_rel kp.fin (closes_rel kp.cls h2)) hc
end
end Go.Abs
end
section
set_option linter.all false
set_option linter.unusedVariables false
set_option linter.unusedSimpArgs false
set_option linter.unnecessarySimpa false
/-
  ABS, part 28: code, and its loops.
-/
namespace Go.Abs
open Go
variable {G : Gam}

def Ex.toExit : Ex → Exit
  | .normal => .normal
  | .exit id => .exit id
  | .ret => .ret
def ExecOK (E : Env G) (c : Code) (s : St G) (e : Ex) (s' : St G) : Prop :=
  ∀ (F : Frm) (L : LM) (a : Act) (w : World), F.n = E.m → Rel F E.nt L s a w → c.wp E.P (fun x a' w' => x = e.toExit ∧ ∃ L', Rel F E.nt L' s' a' w') a w

/-- The loops in a piece of code. -/
def loopsIn : Code → List Code
  | .seq a b => loopsIn a ++ loopsIn b
  | .cond _ a b => loopsIn a ++ loopsIn b
  | .block _ b => loopsIn b
  | .loop b => b :: loopsIn b
  | _ => []

def LoopOK (E : Env G) (c : Code) (T : LoopT G) : Prop :=
  ∀ (R : Type) (vs : List (EV G)) (es : List (Ent G)) (k : Ex → St G → Option R) (r : R), T.sem R vs es k = some r → ∃ e s', k e s' = some r ∧ ExecOK E (.loop c) (T.keep.st vs es) e s'

structure EnvOK (E : Env G) : Prop where
  fns : ∀ f T, E.fns f = some T → FnOK E.P f T
  eqs : ∀ t ∈ E.eqs, EqOK E.P t
  mixed : E.P.follows .mixedOrders = true

section
variable {E : Env G}

theorem exec_sound (hE : EnvOK E) {R : Type} : ∀ (c : Code), (∀ c' ∈ loopsIn c, ∀ key T, firstRegion c' = some key → E.loops key = some T → LoopOK E c' T) → ∀ (s : St G) (k : Ex → St G → Option R) (r : R), exec E c s k = some r →
    ∃ e s', k e s' = some r ∧ ExecOK E c s e s' := by
  intro c
  induction c with
  | skip => intro _ s k r h; exact ⟨.normal, s, h, fun F L a w hn hr => wp_skip ⟨rfl, L, hr⟩⟩
  | region id ops draw =>
    intro _ s k r h
    obtain ⟨s', h1, h2⟩ := region_sound hE.fns hE.eqs hE.mixed h
    exact ⟨.normal, s', h1, fun F L a w hn hr => h2 F L a w _ hr fun L' a' w' h' => ⟨rfl, L', h'⟩⟩
  | seq x y ihx ihy =>
    intro hl s k r h
    simp only [exec] at h
    obtain ⟨e, s1, h, hx⟩ := ihx (fun c' hc => hl c' (by simp [loopsIn, hc])) s _ r h
    cases e with
    | normal =>
      obtain ⟨e, s', h, hy⟩ := ihy (fun c' hc => hl c' (by simp [loopsIn, hc])) s1 k r h
      refine ⟨e, s', h, fun F L a w hn hr => wp_seq (wp_mono (hx F L a w hn hr) ?_)⟩
      rintro x a' w' ⟨rfl, L', h'⟩
      exact hy F L' a' w' hn h'
    | exit id =>
      refine ⟨.exit id, s1, h, fun F L a w hn hr => wp_seq (wp_mono (hx F L a w hn hr) ?_)⟩
      rintro x a' w' ⟨rfl, L', h'⟩
      exact ⟨rfl, L', h'⟩
    | ret =>
      refine ⟨.ret, s1, h, fun F L a w hn hr => wp_seq (wp_mono (hx F L a w hn hr) ?_)⟩
      rintro x a' w' ⟨rfl, L', h'⟩
      exact ⟨rfl, L', h'⟩
  | cond c x y ihx ihy =>
    intro hl s k r h
    simp only [exec] at h
    split at h
    · rename_i t ht
      cases t with
      | true =>
        obtain ⟨e, s', h, hx⟩ := ihx (fun c' hc => hl c' (by simp [loopsIn, hc])) s k r h
        exact ⟨e, s', h, fun F L a w hn hr => wp_cond_true (hr.bool ht) (hx F L a w hn hr)⟩
      | false =>
        obtain ⟨e, s', h, hx⟩ := ihy (fun c' hc => hl c' (by simp [loopsIn, hc])) s k r h
        exact ⟨e, s', h, fun F L a w hn hr => wp_cond_false (hr.bool ht) (hx F L a w hn hr)⟩
    · cases h
  | block id c ih =>
    intro hl s k r h
    simp only [exec] at h
    obtain ⟨e, s1, h, hx⟩ := ih (fun c' hc => hl c' (by simpa [loopsIn] using hc)) s _ r h
    cases e with
    | normal =>
      refine ⟨.normal, s1, h, fun F L a w hn hr => wp_block (wp_mono (hx F L a w hn hr) ?_)⟩
      rintro x a' w' ⟨rfl, L', h'⟩
      exact ⟨rfl, L', h'⟩
    | exit j =>
      simp only [beq_nat, cond_dec] at h
      by_cases hj : j = id
      · rw [if_pos hj] at h
        refine ⟨.normal, s1, h, fun F L a w hn hr => wp_block (wp_mono (hx F L a w hn hr) ?_)⟩
        rintro x a' w' ⟨rfl, L', h'⟩
        simp only [Ex.toExit, Exit.inBlock, hj, if_true]
        exact ⟨trivial, L', h'⟩
      · rw [if_neg hj] at h
        refine ⟨.exit j, s1, h, fun F L a w hn hr => wp_block (wp_mono (hx F L a w hn hr) ?_)⟩
        rintro x a' w' ⟨rfl, L', h'⟩
        simp only [Ex.toExit, Exit.inBlock, hj, if_false]
        exact ⟨trivial, L', h'⟩
    | ret =>
      refine ⟨.ret, s1, h, fun F L a w hn hr => wp_block (wp_mono (hx F L a w hn hr) ?_)⟩
      rintro x a' w' ⟨rfl, L', h'⟩
      exact ⟨rfl, L', h'⟩
  | loop c ih =>
    intro hl s k r h
    simp only [exec] at h
    split at h
    · cases h
    rename_i key hkey
    split at h
    · cases h
    rename_i T hT
    split at h
    · cases h
    rename_i s1 hs1
    obtain ⟨e, s', h, hx⟩ := hl c (by simp [loopsIn]) key T hkey hT _ _ _ _ _ h
    refine ⟨e, s', h, fun F L a w hn hr => ?_⟩
    obtain ⟨⟨L1, h1⟩, hsh⟩ := canon_rel hn hr hs1
    rw [hsh] at h1
    exact hx F L1 a w hn h1
  | exit id => intro _ s k r h; exact ⟨.exit id, s, h, fun F L a w hn hr => wp_exit ⟨rfl, L, hr⟩⟩
  | ret => intro _ s k r h; exact ⟨.ret, s, h, fun F L a w hn hr => wp_ret ⟨rfl, L, hr⟩⟩
  | _ => intro _ s k r h; simp only [exec] at h; cases h

/-- The rounds of a loop. -/
inductive Rounds (E : Env G) (c : Code) (kp : Keep) : Nat → St G → Ex → St G → Prop
  | out (n : Nat) (s : St G) (e : Ex) (s1 : St G) (h : ExecOK E c s e s1) (hne : e ≠ .normal) : Rounds E c kp (n + 1) s e s1
  | again (n : Nat) (s s1 s2 : St G) (e : Ex) (s' : St G) (h : ExecOK E c s .normal s1) (hc : canon E.m kp s1 = some s2) (hr : Rounds E c kp n s2 e s') : Rounds E c kp (n + 1) s e s'

theorem least {p : Nat → Prop} (h : ∃ n, p n) : ∃ n, p n ∧ ∀ m, p m → n ≤ m := by
  refine Classical.byContradiction fun hc => ?_
  have none : ∀ n, ¬ p n := by
    intro n
    induction n using Nat.strongRecOn with
    | _ n ih =>
      intro hn
      refine hc ⟨n, hn, fun m hm => ?_⟩
      rcases Nat.lt_or_ge m n with h1 | h1
      · exact absurd hm (ih m h1)
      · exact h1
  obtain ⟨n, hn⟩ := h
  exact none n hn

theorem rounds_ok {c : Code} {kp : Keep} {n : Nat} {s s' : St G} {e : Ex} (h : Rounds E c kp n s e s') : ExecOK E (.loop c) s e s' := by
  intro F L a w hn hr
  classical
  let Good : Nat → Act → World → Prop := fun n a w => ∃ s L, Rounds E c kp n s e s' ∧ Rel F E.nt L s a w
  let μ : Act → World → Nat := fun a w => if hx : ∃ n, Good n a w then Classical.choose (least hx) else 0
  have hμ : ∀ n a w, Good n a w → μ a w ≤ n := fun n a w hg => by
    have hx : ∃ n, Good n a w := ⟨n, hg⟩
    simp only [μ, dif_pos hx]
    exact (Classical.choose_spec (least hx)).2 n hg
  refine wp_loop (fun a w => ∃ n, Good n a w) μ ⟨n, s, L, h, hr⟩ ?_
  intro a w hx
  have hf : Good (Classical.choose (least hx)) a w := (Classical.choose_spec (least hx)).1
  have hm : μ a w = Classical.choose (least hx) := by simp only [μ, dif_pos hx]
  obtain ⟨s0, L0, hro, hrel⟩ := hf
  generalize Classical.choose (least hx) = m at hro hm
  cases hro with
  | out n s e' s1 hb hne =>
    refine wp_mono (hb F L0 a w hn hrel) ?_
    rintro x a' w' ⟨rfl, L', h'⟩
    cases e with
    | normal => exact absurd rfl hne
    | exit id => exact ⟨rfl, L', h'⟩
    | ret => exact ⟨rfl, L', h'⟩
  | again n s s1 s2 e' s'' hb hc hro =>
    refine wp_mono (hb F L0 a w hn hrel) ?_
    rintro x a' w' ⟨rfl, L', h'⟩
    obtain ⟨⟨L2, h2⟩, _⟩ := canon_rel hn h' hc
    have hg : Good n a' w' := ⟨s2, L2, hro, h2⟩
    refine ⟨⟨n, hg⟩, ?_⟩
    have := hμ n a' w' hg
    omega

/-- What a loop's body hands on. -/
def nextE {R : Type} (m : Nat) (kp : Keep) (again : List (EV G) → List (Ent G) → Option R) (k : Ex → St G → Option R) : Ex → St G → Option R := fun e s =>
  match e with
  | .normal => match canon m kp s with
    | some s2 => again (s2.tm.map (·.2)) ((s2.en.map (·.2)).take (kp.boxes.length + kp.rows.length))
    | none => none
  | e => k e s

/-- A loop whose rounds are told by fuel. -/
theorem loop_ok (hE : EnvOK E) {c : Code} {kp : Keep} (hl : ∀ c' ∈ loopsIn c, ∀ key T, firstRegion c' = some key → E.loops key = some T → LoopOK E c' T)
    (sem : (R : Type) → Nat → List (EV G) → List (Ent G) → (Ex → St G → Option R) → Option R)
    (h0 : ∀ R vs es k, sem R 0 vs es k = none)
    (hs : ∀ R n vs es k r, sem R (n + 1) vs es k = some r → exec E c (kp.st vs es) (nextE E.m kp (fun vs es => sem R n vs es k) k) = some r) (n : Nat) :
    LoopOK E c { keep := kp, sem := fun R vs es k => sem R n vs es k } := by
  have key : ∀ (R : Type) (n : Nat) (vs : List (EV G)) (es : List (Ent G)) (k : Ex → St G → Option R) (r : R), sem R n vs es k = some r → ∃ e s', k e s' = some r ∧ Rounds E c kp n (kp.st vs es) e s' := by
    intro R n
    induction n with
    | zero => intro vs es k r h; rw [h0] at h; cases h
    | succ n ih =>
      intro vs es k r h
      obtain ⟨e, s1, h, hx⟩ := exec_sound hE c hl _ _ _ (hs R n vs es k r h)
      cases e with
      | normal =>
        simp only [nextE] at h
        split at h
        · rename_i s2 hs2
          obtain ⟨e, s', h, hr⟩ := ih _ _ _ _ h
          -- the shape of what is told anew is the keep's
          have hsh : s2 = kp.st (s2.tm.map (·.2)) ((s2.en.map (·.2)).take (kp.boxes.length + kp.rows.length)) := canon_shape hs2
          rw [← hsh] at hr
          exact ⟨e, s', h, .again n _ s1 s2 e s' hx hs2 hr⟩
        · cases h
      | exit id => exact ⟨.exit id, s1, h, .out n _ _ s1 hx (by simp)⟩
      | ret => exact ⟨.ret, s1, h, .out n _ _ s1 hx (by simp)⟩
  intro R vs es k r h
  obtain ⟨e, s', h1, h2⟩ := key R n vs es k r h
  exact ⟨e, s', h1, rounds_ok h2⟩
end
end Go.Abs
end
section
set_option linter.all false
set_option linter.unusedVariables false
set_option linter.unusedSimpArgs false
set_option linter.unnecessarySimpa false
/-
  ABS, part 29: functions.
-/
namespace Go.Abs
open Go
variable {G : Gam}

section
variable {P : Program} {F : Frm} {nt : Nat} {L : LM} {s : St G} {a : Act} {w : World}

/-! ### results, read -/
theorem loadE_ptr (h : Rel F nt L s a w) {t : Nat} {x : Operand} {v : EV G} (hf : loadE P s t (s.ev x) = some v) : ∃ A, a.eval x = .pointer (some A) := by
  have hv := h.ev x
  unfold loadE at hf
  split at hf
  · rename_i hx; rw [hx] at hv; simp only [RepV] at hv; obtain ⟨l, _, ha⟩ := hv; exact ⟨_, ha⟩
  · rename_i hx; rw [hx] at hv; simp only [RepV] at hv; obtain ⟨b, o, cs, ha, _⟩ := hv; exact ⟨_, ha⟩
  · cases hf
theorem loadE_ids (h : Rel F nt L s a w) {t : Nat} {x : EV G} {v : EV G} (hp : loadE P s t x = some v) : ∀ j ∈ v.ids, (s.look j).isSome = true := by
  intro j hj
  unfold loadE at hp
  split at hp
  · split at hp
    · rename_i cs n hcs _; exact h.e.ids _ _ hcs j (part_ids hp j hj)
    · cases hp
  · split at hp
    · have := part_ids hp j hj
      have none : ∀ l : List (Lf G.S), EV.idss (l.map lfEV) = [] := by
        intro l
        induction l with
        | nil => rfl
        | cons b l ih => cases b; simp only [List.map_cons, EV.idss, lfEV, EV.ids, ih]; rfl
      rw [none] at this; cases this
    · cases hp
  · cases hp

theorem resVars_sem (h : Rel F nt L s a w) : ∀ {rv : List ResultVar} {vs : List (EV G)}, resVars P s rv = some vs →
    ∃ us : List Value, (rv.mapM (m := Sem) fun | .tmp t => pure (a.tmps.getD t undef) | .cell x t => do loadVar t (← asAddr (a.tmps.getD x undef))).run P w = .ok us w ∧ RepVs (okOf F L s) w L vs us ∧ ∀ j ∈ EV.idss vs, (s.look j).isSome = true := by
  intro rv
  induction rv with
  | nil => intro vs h; simp only [resVars] at h; cases h; exact ⟨[], by simp, by simp [RepVs], by simp [EV.idss]⟩
  | cons v rv ih =>
    intro vs hv
    cases v with
    | tmp t =>
      simp only [resVars] at hv
      split at hv
      · rename_i l hl
        cases hv
        obtain ⟨us, q1, q2, q3⟩ := ih hl
        refine ⟨a.tmps.getD t undef :: us, by simp only [List.mapM_cons, Sem.run_bind, Sem.run_pure, Result.andThen_ok, q1], by simp only [RepVs]; exact ⟨h.tm t, q2⟩, fun j hj => ?_⟩
        simp only [EV.idss, List.mem_append] at hj
        rcases hj with hj | hj
        · exact h.tids t j hj
        · exact q3 j hj
      · cases hv
    | cell x t =>
      simp only [resVars] at hv
      split at hv
      · rename_i v0 hv0
        split at hv
        · rename_i l hl
          cases hv
          obtain ⟨us, q1, q2, q3⟩ := ih hl
          have hx : s.ev (.tmp x) = s.get x := rfl
          obtain ⟨A, hA⟩ := loadE_ptr h (x := .tmp x) (by rw [hx]; exact hv0)
          obtain ⟨u, hu, hr⟩ := load_sem (P := P) h (x := .tmp x) (by rw [hx]; exact hv0)
          rw [hA] at hu
          have hA' : a.tmps.getD x undef = .pointer (some A) := hA
          have hu' : (loadVar t A).run P w = .ok u w := by simpa [Instr.loadAt, Instr.sureAddr] using hu
          have hasA : (asAddr (a.tmps.getD x undef)).run P w = .ok A w := by rw [hA']; rfl
          refine ⟨u :: us, by simp only [List.mapM_cons, Sem.run_bind, Sem.run_pure, Result.andThen_ok, q1, hasA, hu'], by simp only [RepVs]; exact ⟨hr, q2⟩, fun j hj => ?_⟩
          simp only [EV.idss, List.mem_append] at hj
          rcases hj with hj | hj
          · exact loadE_ids h hv0 j hj
          · exact q3 j hj
        · cases hv
      · cases hv

/-! ### results, handed over -/
/-- What handing over may do to entries: rows are frozen, empty rows are new. -/
def UpOK (s : St G) (up : List (Nat × Ent G)) : Prop :=
  ∀ i e, (i, e) ∈ up → (∃ τ xs k, s.look i = some (.row τ xs k) ∧ e = .row τ xs xs.length) ∨ (s.look i = none ∧ ∃ τ, e = .row τ [] 0)
def upL (s : St G) (L : LM) : LM := fun i => if (s.look i).isSome = true then L i else none

theorem frz_mem (s : St G) : ∀ (f : List Nat) (i : Nat) (e : Ent G), (i, e) ∈ frz s f → i ∈ f ∧ ∃ τ xs k, s.look i = some (.row τ xs k) ∧ e = .row τ xs xs.length := by
  intro f
  induction f with
  | nil => intro i e h; cases h
  | cons j f ih =>
    intro i e h
    unfold frz at h
    split at h
    · rename_i τ xs k hj
      rcases List.mem_cons.mp h with h | h
      · cases h; exact ⟨by simp, τ, xs, k, hj, rfl⟩
      · obtain ⟨h1, h2⟩ := ih i e h; exact ⟨by simp [h1], h2⟩
    · obtain ⟨h1, h2⟩ := ih i e h; exact ⟨by simp [h1], h2⟩
theorem mem_frz (s : St G) : ∀ (f : List Nat) (i : Nat) (τ : Ty) (xs : List (G.D τ)) (k : Nat), i ∈ f → s.look i = some (.row τ xs k) → (i, Ent.row τ xs xs.length) ∈ frz s f := by
  intro f
  induction f with
  | nil => intro i τ xs k h; cases h
  | cons j f ih =>
    intro i τ xs k h hi
    unfold frz
    rcases List.mem_cons.mp h with rfl | h
    · rw [hi]; simp
    · have := ih i τ xs k h hi
      split
      · simp [this]
      · exact this

theorem up_rel (h : Rel F nt L s a w) {up : List (Nat × Ent G)} (hu : UpOK s up) : Rel F nt (upL s L) (s.upd up) a w ∧ (∀ b o, okOf F L s b o → okOf F (upL s L) (s.upd up) b o) ∧
    ∀ (i : Nat) (τ : Ty) (xs : List (G.D τ)) (k : Nat) (l : Loc), (i, Ent.row τ xs xs.length) ∈ up → s.look i = some (.row τ xs k) → L i = some l → ∀ o, l.off ≤ o → o < l.off + l.len * l.sz → okOf F (upL s L) (s.upd up) l.b o := by
  have hL : ∀ i, (s.look i).isSome → upL s L i = L i := fun i hi => if_pos hi
  have ent : ∀ i e, lookT up i = some e → (∃ τ xs k, s.look i = some (.row τ xs k) ∧ e = .row τ xs xs.length) ∨ (s.look i = none ∧ ∃ τ, e = .row τ [] 0) := fun i e hi => hu i e (lookT_mem hi)
  have ownd : ∀ b o, owned (s.upd up) (upL s L) b o → ∃ i e l, s.look i = some e ∧ L i = some l ∧ owns l e b o ∧ (∀ τ xs k, s.look i = some (.row τ xs k) → (∃ e', lookT up i = some e') → l.off + xs.length * l.sz ≤ o) := by
    rintro b o ⟨i, e, l, hi, hl, hw⟩
    rw [St.look_upd] at hi
    cases hx : lookT up i with
    | none =>
      rw [hx] at hi
      have hi : s.look i = some e := by simpa using hi
      rw [hL i (by simp [hi])] at hl
      exact ⟨i, e, l, hi, hl, hw, fun τ xs k _ ⟨e', he'⟩ => by rw [hx] at he'; cases he'⟩
    | some e' =>
      rw [hx] at hi
      have hi : e' = e := by simpa using hi
      subst hi
      rcases ent i e' hx with ⟨τ, xs, k, q1, rfl⟩ | ⟨q1, τ, rfl⟩
      · rw [hL i (by simp [q1])] at hl
        have hr := h.e.en i _ q1
        simp only [RepE] at hr
        refine ⟨i, _, l, q1, hl, ⟨hw.1, Nat.le_trans (Nat.add_le_add_left (Nat.mul_le_mul_right _ hr.1) _) hw.2⟩, fun τ' xs' k' q2 _ => ?_⟩
        rw [q1] at q2; cases q2; exact hw.2
      · simp [upL, q1] at hl
  have hok : ∀ b o, okOf F L s b o → okOf F (upL s L) (s.upd up) b o := fun b o hb => ⟨hb.1, fun ho => by
    obtain ⟨i, e, l, q1, q2, q3, _⟩ := ownd b o ho
    exact hb.2 ⟨i, e, l, q1, q2, q3⟩⟩
  refine ⟨?_, hok, ?_⟩
  · refine h.release up (upL s L) hL ?_ ?_
    · intro i e hi l hl oe
      rcases ent i e hi with ⟨τ, xs, k, q1, rfl⟩ | ⟨q1, τ, rfl⟩
      · have hr := h.e.en i _ q1
        simp only [RepE] at hr
        exact ⟨_, q1, trivial, fun b o hw => ⟨hw.1, Nat.le_trans (Nat.add_le_add_left (Nat.mul_le_mul_right _ hr.1) _) hw.2⟩⟩
      · simp [upL, q1] at hl
    · intro i e hi
      rcases ent i e hi with ⟨τ, xs, k, q1, rfl⟩ | ⟨q1, τ, rfl⟩
      · refine ⟨by simp [Ent.ids], fun ok' kk _ => ?_⟩
        have hr := h.e.en i _ q1
        simp only [RepE] at hr ⊢
        refine ⟨Nat.le_refl _, ?_⟩
        rw [hL i (by simp [q1])]
        cases hl : L i with
        | none => simpa [hl] using hr.2
        | some l =>
          simp only [hl] at hr
          obtain ⟨_, h1, h2, h3, h4, h5⟩ := hr
          exact ⟨h1, h2, h3, h4, h5.mono kk fun o v hc _ => hc⟩
      · refine ⟨by simp [Ent.ids], fun ok' kk _ => ?_⟩
        simp only [RepE]
        have : upL s L i = none := by simp [upL, q1]
        rw [this]; exact ⟨by simp, trivial⟩
  · intro i τ xs k l hm hi hl o h1 h2
    have hr := h.e.en i _ hi
    simp only [RepE, hl] at hr
    refine ⟨h.base hi hl trivial o, fun ho => ?_⟩
    obtain ⟨j, e, m, q1, q2, q3, q4⟩ := ownd _ _ ho
    obtain ⟨oe, hb⟩ := owns_owner q3
    by_cases hij : i = j
    · subst hij
      rw [hl] at q2; cases q2
      have hex : ∃ e', lookT up i = some e' := by
        have := lookT_isSome (List.mem_map.mpr ⟨_, hm, rfl⟩ : i ∈ up.map (·.1))
        exact Option.isSome_iff_exists.mp this
      have := q4 τ xs k hi hex
      rw [hr.2.2.1] at h2
      omega
    · exact h.e.dis i j _ _ l m hi q1 hl q2 trivial oe hij hb.symm

theorem resCell_sem (h : Rel F nt L s a w) {up : List (Nat × Ent G)} (hu : UpOK s up) {nid : Nat} {md : Md} {v x : EV G} {piece : List (Nat × Ent G)} {u : Value} (hc : resCell s nid md v = some (x, piece)) (hp : ∀ p ∈ piece, p ∈ up)
    (hv : RepV (okOf F L s) w L v u) (hi : ∀ j ∈ v.ids, (s.look j).isSome = true) : RepV (okOf F (upL s L) (s.upd up)) w (upL s L) x u ∧ ∀ j ∈ x.ids, ((s.upd up).look j).isSome = true := by
  obtain ⟨_, hok, hfz⟩ := up_rel h hu
  have dom : ∀ j, (s.look j).isSome = true → ((s.upd up).look j).isSome = true := fun j hj => by
    rw [St.look_upd]; cases lookT up j <;> simp [hj]
  have keep : Keeps (okOf F L s) (okOf F (upL s L) (s.upd up)) w w := fun b o v p q => ⟨hok b o p, q⟩
  have same : RepV (okOf F (upL s L) (s.upd up)) w (upL s L) v u ∧ ∀ j ∈ v.ids, ((s.upd up).look j).isSome = true :=
    ⟨hv.mono keep (fun j hj => if_pos (hi j hj)), fun j hj => dom j (hi j hj)⟩
  unfold resCell at hc
  split at hc
  · cases hc; exact same
  · rename_i e
    split at hc
    · rename_i d f hd
      cases hc
      obtain ⟨q1, q2⟩ := asD_sem h hd hv (okOf F (upL s L) (s.upd up)) keep (fun i hif e' xs n m p1 p2 o r1 r2 => hfz i e' xs n m (hp _ (mem_frz s f i e' xs n hif p1)) p1 p2 o r1 r2)
      exact ⟨by simp only [RepV]; exact ⟨q1, q2⟩, by simp [EV.ids]⟩
    · cases hc
  · split at hc
    · cases hc; exact same
    · cases hc
  · split at hc
    · rename_i hn
      cases hc
      refine ⟨?_, fun j hj => ?_⟩
      · simp only [RepV] at hv ⊢
        have : upL s L nid = none := by simp [upL, hn]
        rw [this]; exact ⟨none, hv⟩
      · simp [EV.ids] at hj; subst hj
        rw [St.look_upd]
        have := lookT_isSome (List.mem_map.mpr ⟨_, hp _ (List.mem_singleton.mpr rfl), rfl⟩ : j ∈ up.map (·.1))
        cases hx : lookT up j with
        | none => rw [hx] at this; cases this
        | some _ => simp
    · cases hc
  · split at hc
    · obtain ⟨_, hc⟩ := guardb hc
      cases hc; exact same
    · cases hc
  · cases hc

theorem resCell_up {nid : Nat} {md : Md} {v x : EV G} {piece : List (Nat × Ent G)} (hc : resCell s nid md v = some (x, piece)) : UpOK s piece := by
  unfold resCell at hc
  split at hc
  · cases hc; intro i e h; cases h
  · split at hc
    · cases hc
      intro i e h
      obtain ⟨_, q⟩ := frz_mem s _ i e h
      exact .inl q
    · cases hc
  · split at hc
    · cases hc; intro i e h; cases h
    · cases hc
  · split at hc
    · rename_i τ _ hn
      cases hc
      intro i e h
      cases List.mem_singleton.mp h
      exact .inr ⟨hn, _, rfl⟩
    · cases hc
  · split at hc
    · obtain ⟨_, hc⟩ := guardb hc
      cases hc; intro i e h; cases h
    · cases hc
  · cases hc

theorem resCells_up : ∀ {ms : List Md} {n : Nat} {vs l : List (EV G)} {up : List (Nat × Ent G)}, resCells s n ms vs = some (l, up) → UpOK s up := by
  intro ms
  induction ms with
  | nil => intro n vs l up h; cases vs with
    | nil => simp only [resCells] at h; cases h; intro i e h; cases h
    | cons _ _ => cases h
  | cons md ms ih =>
    intro n vs l up h
    cases vs with
    | nil => cases h
    | cons v vs =>
      simp only [resCells] at h
      split at h
      · rename_i x p hx
        split at h
        · rename_i l' up' hl
          cases h
          intro i e hm
          rcases List.mem_append.mp hm with hm | hm
          · exact resCell_up hx i e hm
          · exact ih hl i e hm
        · cases h
      · cases h
theorem resVals_up : ∀ {ms : List (List Md)} {n : Nat} {vs l : List (EV G)} {up : List (Nat × Ent G)}, resVals s n ms vs = some (l, up) → UpOK s up := by
  intro ms
  induction ms with
  | nil => intro n vs l up h; cases vs with
    | nil => simp only [resVals] at h; cases h; intro i e h; cases h
    | cons _ _ => cases h
  | cons md ms ih =>
    intro n vs l up h
    cases vs with
    | nil => cases h
    | cons v vs =>
      simp only [resVals] at h
      split at h
      · rename_i x p hx
        split at h
        · rename_i l' up' hl
          cases h
          intro i e hm
          rcases List.mem_append.mp hm with hm | hm
          · exact resCells_up hx i e hm
          · exact ih hl i e hm
        · cases h
      · cases h

theorem resCells_sem (h : Rel F nt L s a w) {UP : List (Nat × Ent G)} (hu : UpOK s UP) : ∀ {ms : List Md} {n : Nat} {vs l : List (EV G)} {up : List (Nat × Ent G)} {us : List Value}, resCells s n ms vs = some (l, up) → (∀ p ∈ up, p ∈ UP) →
    RepVs (okOf F L s) w L vs us → (∀ j ∈ EV.idss vs, (s.look j).isSome = true) → RepVs (okOf F (upL s L) (s.upd UP)) w (upL s L) l us ∧ ∀ j ∈ EV.idss l, ((s.upd UP).look j).isSome = true := by
  intro ms
  induction ms with
  | nil => intro n vs l up us hc _ hv _; cases vs with
    | nil => simp only [resCells] at hc; cases hc; cases us with
      | nil => exact ⟨by simp [RepVs], by simp [EV.idss]⟩
      | cons _ _ => simp [RepVs] at hv
    | cons _ _ => cases hc
  | cons md ms ih =>
    intro n vs l up us hc hp hv hi
    cases vs with
    | nil => cases hc
    | cons v vs =>
      cases us with
      | nil => simp [RepVs] at hv
      | cons u us =>
        simp only [RepVs] at hv
        simp only [resCells] at hc
        split at hc
        · rename_i x p hx
          split at hc
          · rename_i l' up' hl
            cases hc
            obtain ⟨a1, a2⟩ := resCell_sem h hu hx (fun q hq => hp q (by simp [hq])) hv.1 (fun j hj => hi j (by simp [EV.idss, hj]))
            obtain ⟨b1, b2⟩ := ih hl (fun q hq => hp q (by simp [hq])) hv.2 (fun j hj => hi j (by simp [EV.idss, hj]))
            refine ⟨by simp only [RepVs]; exact ⟨a1, b1⟩, fun j hj => ?_⟩
            simp only [EV.idss, List.mem_append] at hj
            rcases hj with hj | hj
            · exact a2 j hj
            · exact b2 j hj
          · cases hc
        · cases hc

theorem resVals_sem (h : Rel F nt L s a w) {UP : List (Nat × Ent G)} (hu : UpOK s UP) : ∀ {ms : List (List Md)} {n : Nat} {vs l : List (EV G)} {up : List (Nat × Ent G)} {us : List Value}, resVals s n ms vs = some (l, up) → (∀ p ∈ up, p ∈ UP) →
    RepVs (okOf F L s) w L vs us → (∀ j ∈ EV.idss vs, (s.look j).isSome = true) → RepVs (okOf F (upL s L) (s.upd UP)) w (upL s L) l us ∧ ∀ j ∈ EV.idss l, ((s.upd UP).look j).isSome = true := by
  intro ms
  induction ms with
  | nil => intro n vs l up us hc _ hv _; cases vs with
    | nil => simp only [resVals] at hc; cases hc; cases us with
      | nil => exact ⟨by simp [RepVs], by simp [EV.idss]⟩
      | cons _ _ => simp [RepVs] at hv
    | cons _ _ => cases hc
  | cons md ms ih =>
    intro n vs l up us hc hp hv hi
    cases vs with
    | nil => cases hc
    | cons v vs =>
      cases us with
      | nil => simp [RepVs] at hv
      | cons u us =>
        simp only [RepVs] at hv
        simp only [resVals] at hc
        split at hc
        · rename_i cs p hx
          split at hc
          · rename_i l' up' hl
            cases hc
            obtain ⟨b1, b2⟩ := ih hl (fun q hq => hp q (by simp [hq])) hv.2 (fun j hj => hi j (by simp [EV.idss, hj]))
            have hvi : ∀ j ∈ v.ids, (s.look j).isSome = true := fun j hj => hi j (by simp [EV.idss, hj])
            have one : ∀ (v : EV G), v.cells = [v] → RepV (okOf F L s) w L v u → (∀ j ∈ v.ids, (s.look j).isSome = true) → resCells s n md v.cells = some (cs, p) →
                RepV (okOf F (upL s L) (s.upd UP)) w (upL s L) (oneV cs) u ∧ ∀ j ∈ (oneV cs).ids, ((s.upd UP).look j).isSome = true := by
              intro v hvc hv hvi hx
              rw [hvc] at hx
              obtain ⟨a1, a2⟩ := resCells_sem h hu hx (fun q hq => hp q (by simp [hq])) (us := [u]) (by simp only [RepVs]; exact ⟨hv, trivial⟩) (by simpa [EV.idss] using hvi)
              unfold oneV
              split
              · simp only [RepVs] at a1; exact ⟨a1.1, fun j hj => a2 j (by simp [EV.idss, hj])⟩
              · exact ⟨by simp only [RepV], by simp [EV.ids]⟩
            have key : RepV (okOf F (upL s L) (s.upd UP)) w (upL s L) (reV v cs) u ∧ ∀ j ∈ (reV v cs).ids, ((s.upd UP).look j).isSome = true := by
              cases v with
              | ag l0 =>
                have hv1 := hv.1
                simp only [RepV] at hv1
                obtain ⟨cvs, rfl, hcv⟩ := hv1
                obtain ⟨a1, a2⟩ := resCells_sem h hu hx (fun q hq => hp q (by simp [hq])) (us := cvs.toList) (by simpa [EV.cells] using hcv) (by simpa [EV.cells, EV.ids] using hvi)
                exact ⟨by simp only [reV, RepV]; exact ⟨cvs, rfl, a1⟩, by simpa [reV, EV.ids] using a2⟩
              | _ => exact one _ rfl hv.1 hvi hx
            refine ⟨by simp only [RepVs]; exact ⟨key.1, b1⟩, fun j hj => ?_⟩
            simp only [EV.idss, List.mem_append] at hj
            rcases hj with hj | hj
            · exact key.2 j hj
            · exact b2 j hj
          · cases hc
        · cases hc
end
end Go.Abs
end
section
set_option linter.all false
set_option linter.unusedVariables false
set_option linter.unusedSimpArgs false
set_option linter.unnecessarySimpa false
/-
  ABS, part 30: a function's answer is its contract.
-/
namespace Go.Abs
open Go
variable {G : Gam}

section
variable {P : Program} {F : Frm} {nt : Nat} {L : LM} {s : St G} {a : Act} {w : World}

theorem addNew_prefix : ∀ (r l : List Nat), ∃ t, addNew l r = l ++ t := by
  intro r
  induction r with
  | nil => intro l; exact ⟨[], by simp [addNew]⟩
  | cons a r ih =>
    intro l
    simp only [addNew]
    cases l.contains a with
    | true => exact ih l
    | false =>
      obtain ⟨t, ht⟩ := ih (l ++ [a])
      exact ⟨a :: t, by simp only [cond_false]; rw [ht]; simp⟩
theorem numbers_eq : ∀ (n i : Nat), numbers n i = List.range' i n := by
  intro n
  induction n with
  | zero => intro i; rfl
  | succ n ih => intro i; simp only [numbers, ih, List.range'_succ]
theorem slots_look : ∀ (vs : List (EV G)) (n t : Nat), lookT (slots n vs) t = if n ≤ t then vs[t - n]? else none := by
  intro vs
  induction vs with
  | nil => intro n t; simp [slots, lookT]
  | cons v vs ih =>
    intro n t
    simp only [slots, lookT_cons, ih]
    by_cases h : n = t
    · subst h; simp
    · rw [if_neg h]
      by_cases h2 : n + 1 ≤ t
      · rw [if_pos h2, if_pos (by omega), show t - n = (t - (n + 1)) + 1 by omega, List.getElem?_cons_succ]
      · rw [if_neg h2, if_neg (by omega)]

theorem ret_rel (h : Rel F nt L s a w) {ls : List Nat} (hnd : ls.Nodup) {es : List (Ent G)} (hes : looks s ls = some es) (hcl : ∀ i ∈ ls, ∀ e, s.look i = some e → ∀ j ∈ e.ids, j ∈ ls) (hpre : ∀ i, i < F.n → ls[i]? = some i) {es0 : List (Ent G)} (h0 : es0 = es.map (Ent.rn fun i => indexOf i ls 0)) :
    (∀ b o, okOf F L s b o → okOf F (lentL L ls) (St.of es0) b o) ∧ RelE F (lentL L ls) (St.of es0) w := by
  subst h0
  have hok : ∀ b o, okOf F L s b o → okOf F (lentL L ls) (St.of (es.map (Ent.rn fun i => indexOf i ls 0))) b o := by
    intro b o hb
    refine ⟨hb.1, fun ho => ?_⟩
    obtain ⟨j, e, l, hj, hs, hl, hw⟩ := lent_owned hes ho
    exact hb.2 ⟨j, e, l, hs, hl, hw⟩
  have hesl := (looks_spec hes).1
  refine ⟨hok, ⟨h.e.fits, ?_, ?_, ?_, ?_, ?_⟩⟩
  · intro i e' hi
    obtain ⟨j, e, p1, p2, rfl⟩ := lent_look hes hi
    exact ((h.e.en j e p2).ok_mono hok).rn (by simp [lentL, p1]) (lent_turn ls _)
  · intro i e' hi j' hj'
    obtain ⟨j, e, p1, p2, rfl⟩ := lent_look hes hi
    obtain ⟨i', q1, q2⟩ := Ent.rn_ids hj'
    have := (indexOf_some q2).2
    simp only [Nat.sub_zero] at this
    obtain ⟨e'', r1, r2⟩ := (looks_spec hes).2 j' i' this
    rw [St.of_look, List.getElem?_map, r2]; rfl
  · intro i i' e' f' l m hi hi' hl hm oe of ne
    obtain ⟨j, e, p1, p2, rfl⟩ := lent_look hes hi
    obtain ⟨k, f, q1, q2, rfl⟩ := lent_look hes hi'
    simp only [lentL, p1] at hl
    simp only [lentL, q1] at hm
    refine h.e.dis j k e f l m p2 q2 hl hm (Ent.rn_owner.mp oe) (Ent.rn_owner.mp of) (fun ejk => ne ?_)
    subst ejk
    have hlen1 : i < ls.length := by
      rcases Nat.lt_or_ge i ls.length with h3 | h3
      · exact h3
      · rw [List.getElem?_eq_none h3] at p1; cases p1
    exact (List.getElem?_inj hlen1 hnd).mp (p1.trans q1.symm)
  · intro i e' l hi hl oe
    obtain ⟨j, e, p1, p2, rfl⟩ := lent_look hes hi
    simp only [lentL, p1] at hl
    rw [Ent.rn_owns]
    exact h.e.own j e l p2 hl (Ent.rn_owner.mp oe)
  · intro i hi
    have hp := hpre i hi
    obtain ⟨e, q1, q2⟩ := (looks_spec hes).2 i i hp
    refine ⟨by rw [St.of_look, List.getElem?_map, q2]; rfl, ?_⟩
    simp only [lentL, hp]
    exact (h.e.lent i hi).2
end

section
variable {E : Env G}

theorem ExecOK.canon {c : Code} {s s1 s2 : St G} {e : Ex} {kp : Keep} (h : ExecOK E c s e s1) (hc : Abs.canon E.m kp s1 = some s2) : ExecOK E c s e s2 := by
  intro F L a w hn hr
  refine wp_mono (h F L a w hn hr) ?_
  rintro x a' w' ⟨rfl, L', h'⟩
  exact ⟨rfl, (canon_rel hn h' hc).1⟩
theorem runE_sound (hE : EnvOK E) {f : FuncId} {fn : Func} {c : Code} (hf : E.P.funcs[f]? = some fn) (hb : fn.body = some c) (hnt : fn.ntmps = E.nt) (hl : ∀ c' ∈ loopsIn c, ∀ key T, firstRegion c' = some key → E.loops key = some T → LoopOK E c' T)
    {md : List (List Md)} {kr : Option Keep} {args : List (EV G)} {outer : List (Ent G)} (hargs : args.length ≤ E.nt) (hm : outer.length = E.m) {R : Type} {k : EV G → List (Ent G) → List (Ent G) → Option R} {r : R} (h : runE E fn md kr args outer k = some r) :
    ∃ res lent' news, Contract E.P f args outer res lent' news ∧ k res lent' news = some r := by
  unfold runE at h
  rw [hb] at h
  simp only at h
  obtain ⟨e, s0, h, hx0⟩ := exec_sound hE c hl _ _ _ h
  have hne : ∀ id, e ≠ .exit id := by intro id he; subst he; simp at h
  have hret0 : retK E.P outer.length fn.results.toList md kr s0 k = some r := by
    cases e with
    | normal => exact h
    | ret => exact h
    | exit id => exact absurd rfl (hne id)
  clear h
  obtain ⟨s, hret, hx⟩ : ∃ s, retE E.P outer.length fn.results.toList md s k = some r ∧ ExecOK E c { tm := slots 0 args, en := number 0 outer } e s := by
    unfold retK at hret0
    split at hret0
    · exact ⟨s0, hret0, hx0⟩
    · split at hret0
      · cases hret0
      · rename_i kp s' hc
        rw [hm] at hc
        exact ⟨s', hret0, hx0.canon hc⟩
  unfold retE at hret
  split at hret
  · cases hret
  rename_i vs hvs
  split at hret
  · cases hret
  rename_i ws up hws
  simp only at hret
  generalize hls : addNew (addNew (addNew (numbers outer.length 0) (EV.idss ws)) (entIds (s.upd up) (addNew (numbers outer.length 0) (EV.idss ws)))) (entIds (s.upd up) (addNew (addNew (numbers outer.length 0) (EV.idss ws)) (entIds (s.upd up) (addNew (numbers outer.length 0) (EV.idss ws))))) = ls0 at hret
  generalize hls' : addNew ls0 (entIds (s.upd up) ls0) = ls at hret
  have hlsub : ls.Nodup ∧ (∀ i, i < outer.length → ls[i]? = some i) ∧ ∀ j ∈ EV.idss ws, j ∈ ls := by
    have n0 : (numbers outer.length 0).Nodup := by rw [numbers_eq]; exact List.nodup_range'
    obtain ⟨a1, a2⟩ := addNew_spec (EV.idss ws) _ n0
    obtain ⟨b1, b2⟩ := addNew_spec (entIds (s.upd up) (addNew (numbers outer.length 0) (EV.idss ws))) _ a1
    obtain ⟨c1, c2⟩ := addNew_spec (entIds (s.upd up) (addNew (addNew (numbers outer.length 0) (EV.idss ws)) (entIds (s.upd up) (addNew (numbers outer.length 0) (EV.idss ws))))) _ b1
    rw [hls] at c1 c2
    obtain ⟨d1, d2⟩ := addNew_spec (entIds (s.upd up) ls0) _ c1
    rw [hls'] at d1 d2
    refine ⟨d1, fun i hi => ?_, fun j hj => (d2 j).mpr (.inl ((c2 j).mpr (.inl ((b2 j).mpr (.inl ((a2 j).mpr (.inr hj)))))))⟩
    obtain ⟨t1, e1⟩ := addNew_prefix (EV.idss ws) (numbers outer.length 0)
    obtain ⟨t2, e2⟩ := addNew_prefix (entIds (s.upd up) (addNew (numbers outer.length 0) (EV.idss ws))) (addNew (numbers outer.length 0) (EV.idss ws))
    obtain ⟨t3, e3⟩ := addNew_prefix (entIds (s.upd up) (addNew (addNew (numbers outer.length 0) (EV.idss ws)) (entIds (s.upd up) (addNew (numbers outer.length 0) (EV.idss ws))))) (addNew (addNew (numbers outer.length 0) (EV.idss ws)) (entIds (s.upd up) (addNew (numbers outer.length 0) (EV.idss ws))))
    obtain ⟨t4, e4⟩ := addNew_prefix (entIds (s.upd up) ls0) ls0
    rw [hls] at e3
    rw [hls'] at e4
    have : ls = numbers outer.length 0 ++ (t1 ++ (t2 ++ (t3 ++ t4))) := by rw [e4, e3, e2, e1]; simp
    rw [this, List.getElem?_append_left (by rw [numbers_eq]; simpa using hi), numbers_eq, List.getElem?_range' hi]
    simp
  obtain ⟨hnd, hpre, hwsl⟩ := hlsub
  split at hret
  · cases hret
  rename_i es hes
  obtain ⟨hci, hret⟩ := guardn hret
  refine ⟨_, _, _, ?_, hret⟩
  intro F L w vs0 hw0 hn hL0 hrel hvs0 hids
  rw [List.take_append_drop]
  have hvl : args.length = vs0.size := by have := hvs0.length; simpa using this
  have hinit : Rel F E.nt L { tm := slots 0 args, en := number 0 outer } { tmps := vs0 ++ Array.replicate (fn.ntmps - vs0.size) undef, defers := [] } w := by
    have hlk : ∀ i, St.look { tm := slots 0 args, en := number 0 outer } i = (St.of outer).look i := fun i => rfl
    have hoo : okOf F L { tm := slots 0 args, en := number 0 outer } = okOf F L (St.of outer) := rfl
    have hg : ∀ t, St.get { tm := slots 0 args, en := number 0 outer } t = match args[t]? with | some v => v | none => .u := by
      intro t
      have h9 : lookT (slots 0 args) t = args[t]? := by rw [slots_look]; simp
      show (match lookT (slots 0 args) t with | some v => v | none => .u) = _
      rw [h9]
    refine ⟨⟨hrel.fits, hrel.en, hrel.ids, hrel.dis, hrel.own, hrel.lent⟩, fun t => ?_, fun t j hj => ?_, rfl, by show (vs0 ++ Array.replicate (fn.ntmps - vs0.size) undef).size = E.nt; rw [Array.size_append, Array.size_replicate]; omega⟩
    · rw [hg, hoo]
      cases ha : args[t]? with
      | none => simp only [RepV]
      | some v =>
        obtain ⟨u, hu, hr⟩ := hvs0.get ha
        have : (vs0 ++ Array.replicate (fn.ntmps - vs0.size) undef).getD t undef = u := by
          have ht : t < vs0.size := by
            rcases Nat.lt_or_ge t vs0.size with h3 | h3
            · exact h3
            · rw [List.getElem?_eq_none (by simpa using h3)] at hu; cases hu
          have hu' : vs0[t]? = some u := by simpa using hu
          rw [Array.getD_eq_getD_getElem?, Array.getElem?_append_left ht, hu']; rfl
        rw [this]; exact hr
    · rw [hg] at hj
      cases ha : args[t]? with
      | none => rw [ha] at hj; simp [EV.ids] at hj
      | some v =>
        rw [ha] at hj
        have hmem : ∀ (l : List (EV G)) (t : Nat), l[t]? = some v → j ∈ EV.idss l := by
          intro l
          induction l with
          | nil => intro t h; simp at h
          | cons b l ih =>
            intro t h
            cases t with
            | zero => simp at h; subst h; simp [EV.idss, hj]
            | succ t => simp at h; simp [EV.idss, ih t h]
        have := hids j (hmem args t ha)
        rw [hlk, St.of_look, List.getElem?_eq_getElem this]; rfl
  refine calls_of_wp hf hb (wp_mono (hx F L _ w (by rw [hn, hm]) hinit) ?_)
  rintro x a' w' ⟨rfl, L', h'⟩
  have hup : UpOK s up := resVals_up hws
  obtain ⟨us, u1, u2, u3⟩ := resVars_sem h' hvs
  obtain ⟨v1, v2⟩ := resVals_sem h' hup hws (fun _ h => h) u2 u3
  obtain ⟨h2, _, _⟩ := up_rel h' hup
  have hcl : ∀ i ∈ ls, ∀ e, (s.upd up).look i = some e → ∀ j ∈ e.ids, j ∈ ls := by
    intro i hi e he j hj
    have := List.any_eq_false.mp hci j (entIds_mem he hj hi)
    simpa using this
  obtain ⟨hok, hrelE⟩ := ret_rel h2 hnd hes hcl (fun i hi => hpre i (by rw [hn] at hi; exact hi)) rfl
  have hrn : RepVs (okOf F (lentL (upL s L') ls) (St.of (es.map (Ent.rn fun i => indexOf i ls 0)))) w' (lentL (upL s L') ls) (EV.rns (fun i => indexOf i ls 0) ws) us :=
    (v1.mono (L' := upL s L') (fun b o v p q => ⟨hok b o p, q⟩) (fun _ _ => rfl)).rn (lent_turn ls _)
  have hlen : (EV.rns (fun i => indexOf i ls 0) ws).length = us.length := hrn.length
  have hidr : ∀ j ∈ EV.idss (EV.rns (fun i => indexOf i ls 0) ws), j < (es.map (Ent.rn fun i => indexOf i ls 0)).length := by
    intro j hj
    obtain ⟨i, _, hi⟩ := EV.rns_ids hj
    have := (indexOf_some hi).2
    rw [List.length_map, (looks_spec hes).1]
    rcases Nat.lt_or_ge j ls.length with h3 | h3
    · exact h3
    · simp only [Nat.sub_zero] at this; rw [List.getElem?_eq_none h3] at this; cases this
  generalize hq : EV.rns (fun i => indexOf i ls 0) ws = q at *
  have hres : ∃ v, (results fn a'.tmps).run E.P w' = .ok v w' ∧ RepV (okOf F (lentL (upL s L') ls) (St.of (es.map (Ent.rn fun i => indexOf i ls 0)))) w' (lentL (upL s L') ls) (tup q) v ∧ ∀ j ∈ (tup q).ids, j < (es.map (Ent.rn fun i => indexOf i ls 0)).length := by
    have hrun : ∀ v, (if h : us.toArray.size = 1 then us.toArray[0] else .tuple us.toArray) = v → (results fn a'.tmps).run E.P w' = .ok v w' := by
      intro v hv
      unfold results
      rw [Array.mapM_eq_mapM_toList]
      simp only [Sem.run_bind, bind_pure_comp, Sem.run_map]
      erw [u1]
      subst hv
      rfl
    by_cases h1 : us.length = 1
    · obtain ⟨u, rfl⟩ := List.length_eq_one_iff.mp h1
      obtain ⟨x, rfl⟩ := List.length_eq_one_iff.mp (by rw [hlen]; rfl : q.length = 1)
      simp only [RepVs] at hrn
      exact ⟨u, hrun u rfl, hrn.1, fun j hj => hidr j (by simpa [EV.idss, tup] using hj)⟩
    · have ht : tup q = .tp q := by
        cases q with
        | nil => rfl
        | cons x q => cases q with
          | nil => simp at hlen; omega
          | cons y q => rfl
      refine ⟨.tuple us.toArray, hrun _ (by rw [dif_neg (by simpa using h1)]), ?_, ?_⟩
      · rw [ht]; simp only [RepV]; exact ⟨_, rfl, by simpa using hrn⟩
      · rw [ht]; simpa [EV.ids] using hidr
  obtain ⟨v, r1, r2, r3⟩ := hres
  have post : a'.defers = [] ∧ ∃ v, (results fn a'.tmps).run E.P w' = .ok v w' ∧ ∃ v' L'', Ending.returned v = .returned v' ∧ RelE F L'' (St.of (es.map (Ent.rn fun i => indexOf i ls 0))) w' ∧ (∀ i, i < outer.length → L'' i = L i) ∧
      RepV (okOf F L'' (St.of (es.map (Ent.rn fun i => indexOf i ls 0)))) w' L'' (tup q) v' ∧ ∀ j ∈ (tup q).ids, j < (es.map (Ent.rn fun i => indexOf i ls 0)).length := by
    refine ⟨h'.defers, v, r1, v, _, rfl, hrelE, fun i hi => ?_, r2, r3⟩
    have := (hrelE.lent i (by rw [hn]; exact hi)).2
    rw [this, hL0]
  cases e with
  | normal => exact post
  | ret => exact post
  | exit id => exact absurd rfl (hne id)
end
end Go.Abs
end
section
set_option linter.all false
set_option linter.unusedVariables false
set_option linter.unusedSimpArgs false
set_option linter.unnecessarySimpa false
/-
  ABS, part 31: loops and functions by their values: what a printed text states.
-/
namespace Go.Abs
open Go
variable {G : Gam}

def St.vals (s : St G) : List (EV G) := s.tm.map (·.2)
def Keep.ents (kp : Keep) (s : St G) : List (Ent G) := (s.en.map (·.2)).take (kp.boxes.length + kp.rows.length)

section
variable {E : Env G}
end

def exitE {Y : Type} (m : Nat) (kx : Ex → Option Keep) (decY : Ex → List (EV G) → List (Ent G) → Option Y) (e : Ex) (s : St G) : Option Y :=
  match kx e with
  | some kp' => (match canon m kp' s with
    | some s2 => decY e s2.vals (kp'.ents s2)
    | none => none)
  | none => none
/-- What a loop's body answers. -/
def roundE {X Y : Type} (m : Nat) (kp : Keep) (kx : Ex → Option Keep) (decX : List (EV G) → List (Ent G) → Option X) (decY : Ex → List (EV G) → List (Ent G) → Option Y) (L : X → Option Y) : Ex → St G → Option Y := fun e s =>
  match e with
  | .normal => match canon m kp s with
    | some s2 => (match decX s2.vals (kp.ents s2) with | some x => L x | none => none)
    | none => none
  | e => exitE m kx decY e s

structure LoopV (E : Env G) (c : Code) (X Y : Type) where
  kp : Keep
  kx : Ex → Option Keep
  encX : X → List (EV G) × List (Ent G)
  decX : List (EV G) → List (Ent G) → Option X
  hX : ∀ vs es x, decX vs es = some x → encX x = (vs, es)
  decY : Ex → List (EV G) → List (Ent G) → Option Y
  out : (R : Type) → Y → (Ex → St G → Option R) → Option R
  hY : ∀ e vs es y kp', decY e vs es = some y → kx e = some kp' → ∀ R (k : Ex → St G → Option R), out R y k = k e (kp'.st vs es)
  L : Nat → X → Option Y
  h0 : ∀ x, L 0 x = none
  hs : ∀ n x, L (n + 1) x = exec E c (kp.st (encX x).1 (encX x).2) (roundE E.m kp kx decX decY (L n))

def LoopV.entry {E : Env G} {c : Code} {X Y : Type} (V : LoopV E c X Y) (n : Nat) : LoopT G :=
  { keep := V.kp, sem := fun R vs es k => match V.decX vs es with | some x => (V.L n x).bind fun y => V.out R y k | none => none }

theorem LoopV.ok {E : Env G} {c : Code} {X Y : Type} (hE : EnvOK E) (V : LoopV E c X Y) (hl : ∀ c' ∈ loopsIn c, ∀ key T, firstRegion c' = some key → E.loops key = some T → LoopOK E c' T) (n : Nat) : LoopOK E c (V.entry n) := by
  have key : ∀ (n : Nat) (x : X) (y : Y), V.L n x = some y → ∃ e s', (∀ R (k : Ex → St G → Option R), V.out R y k = k e s') ∧ Rounds E c V.kp n (V.kp.st (V.encX x).1 (V.encX x).2) e s' := by
    intro n
    induction n with
    | zero => intro x y h; rw [V.h0] at h; cases h
    | succ n ih =>
      intro x y h
      rw [V.hs] at h
      obtain ⟨e, s1, h, hx⟩ := exec_sound hE c hl _ _ _ h
      have exits : e ≠ .normal → exitE E.m V.kx V.decY e s1 = some y →
          ∃ e s', (∀ R (k : Ex → St G → Option R), V.out R y k = k e s') ∧ Rounds E c V.kp (n + 1) (V.kp.st (V.encX x).1 (V.encX x).2) e s' := by
        intro hne h
        unfold exitE at h
        split at h
        · rename_i kp' hk
          split at h
          · rename_i s2 hs2
            have hsh : s2 = kp'.st s2.vals (kp'.ents s2) := canon_shape hs2
            refine ⟨e, s2, fun R k => ?_, .out n _ e s2 (hx.canon hs2) hne⟩
            rw [V.hY e _ _ y kp' h hk R k, ← hsh]
          · cases h
        · cases h
      cases e with
      | normal =>
        simp only [roundE] at h
        split at h
        · rename_i s2 hs2
          split at h
          · rename_i x' hx'
            obtain ⟨e, s', q1, q2⟩ := ih x' y h
            have hsh : s2 = V.kp.st s2.vals (V.kp.ents s2) := canon_shape hs2
            have hen := V.hX _ _ _ hx'
            rw [hen] at q2
            simp only at q2
            rw [← hsh] at q2
            exact ⟨e, s', q1, .again n _ s1 s2 e s' hx hs2 q2⟩
          · cases h
        · cases h
      | exit id => exact exits (by simp) h
      | ret => exact exits (by simp) h
  intro R vs es k r h
  simp only [LoopV.entry] at h
  split at h
  · rename_i x hx
    obtain ⟨y, hy, h⟩ := bindS h
    obtain ⟨e, s', q1, q2⟩ := key n x y hy
    rw [q1] at h
    rw [V.hX _ _ _ hx] at q2
    exact ⟨e, s', h, rounds_ok q2⟩
  · cases h

/-- A function by its value. -/
structure FnV (E : Env G) (f : FuncId) (fn : Func) (md : List (List Md)) (kr : Option Keep) (X Y : Type) where
  encX : X → List (EV G) × List (Ent G)
  decX : List (EV G) → List (Ent G) → Option X
  hX : ∀ vs es x, decX vs es = some x → encX x = (vs, es)
  hm : ∀ vs es x, decX vs es = some x → es.length = E.m ∧ vs.length ≤ E.nt
  decY : EV G → List (Ent G) → List (Ent G) → Option Y
  out : Y → EV G × List (Ent G) × List (Ent G)
  hY : ∀ v l n y, decY v l n = some y → out y = (v, l, n)
  F : X → Option Y
  hF : ∀ x, F x = runE E fn md kr (encX x).1 (encX x).2 decY

def FnV.entry {E : Env G} {f : FuncId} {fn : Func} {md : List (List Md)} {kr : Option Keep} {X Y : Type} (V : FnV E f fn md kr X Y) (io : List Nat) : FnT G :=
  { inout := io, sem := fun _ args lent k => match V.decX args lent with | some x => (V.F x).bind fun y => k (V.out y).1 (V.out y).2.1 (V.out y).2.2 | none => none }

theorem FnV.ok {E : Env G} {f : FuncId} {fn : Func} {md : List (List Md)} {kr : Option Keep} {X Y : Type} (V : FnV E f fn md kr X Y) (hE : EnvOK E) {c : Code} (hf : E.P.funcs[f]? = some fn) (hname : (fn.name == "runtime.NumGoroutine") = false) (hb : fn.body = some c) (hnt : fn.ntmps = E.nt)
    (hl : ∀ c' ∈ loopsIn c, ∀ key T, firstRegion c' = some key → E.loops key = some T → LoopOK E c' T) (io : List Nat) : FnOK E.P f (V.entry io) := by
  refine ⟨⟨fn, c, hf, hname, hb⟩, fun R args lent k r h => ?_⟩
  simp only [FnV.entry] at h
  split at h
  · rename_i x hx
    obtain ⟨y, hy, h⟩ := bindS h
    rw [V.hF, V.hX _ _ _ hx] at hy
    obtain ⟨h1, h2⟩ := V.hm _ _ _ hx
    obtain ⟨res, l, n, hc, hd⟩ := runE_sound hE hf hb hnt hl h2 h1 hy
    refine ⟨res, l, n, hc, ?_⟩
    rw [V.hY _ _ _ _ hd] at h
    exact h
  · cases h
end Go.Abs
end
section
set_option linter.all false
set_option linter.unusedVariables false
set_option linter.unusedSimpArgs false
set_option linter.unnecessarySimpa false
/-
  ABS, part 32: a law's call, out of its contract.
-/
namespace Go.Abs
open Go Go.RowKit
variable {G : Gam}

theorem law_calls {P : Program} {f : FuncId} {args : List (EV G)} {vs : Array Value} {w : World} {v : EV G} (hc : Contract P f args [] v [] []) (hv : RepVs (fun _ _ => True) w (fun _ => none) args vs.toList) (hi : EV.idss args = []) {u : Value}
    (hu : ∀ (ok : Cells) (w' : World) (L : LM) (u' : Value), RepV ok w' L v u' → u' = u) : Calls P f vs w fun e w' => e = .returned u ∧ Below w.heap.size w w' := by
  let F : Frm := { w0 := w, okA := fun _ _ => True, X := fun _ _ => False, n := 0, L0 := fun _ => none }
  have hno : ∀ i, (St.of ([] : List (Ent G))).look i = none := fun i => by rw [St.of_look]; simp
  have hrel : RelE F (fun _ => none) (St.of ([] : List (Ent G))) w :=
    ⟨⟨rfl, rfl, rfl, Nat.le_refl _, fun _ _ _ => rfl, fun _ _ _ _ => rfl⟩, fun i e h => (by rw [hno] at h; cases h), fun i e h => (by rw [hno] at h; cases h), fun i j e f l m h => (by rw [hno] at h; cases h), fun i e l h => (by rw [hno] at h; cases h), fun i h => absurd h (Nat.not_lt_zero _)⟩
  have hok : ∀ b o, okOf F (fun _ => none) (St.of ([] : List (Ent G))) b o := fun b o => ⟨.inl trivial, fun ⟨i, e, l, h, _⟩ => (by rw [hno] at h; cases h)⟩
  refine (hc F (fun _ => none) w vs rfl rfl rfl hrel (hv.mono (fun b o v _ q => ⟨hok b o, q⟩) (fun _ _ => rfl)) (by rw [hi]; intro j hj; cases hj)).mono ?_
  rintro e w' ⟨u', L', rfl, h1, _, h2, _⟩
  rw [hu _ _ _ _ h2]
  exact ⟨rfl, h1.fits.os, h1.fits.tape, h1.fits.output, h1.fits.size, fun k hk => h1.fits.block k hk fun _ h => h⟩

theorem rep_bool {b : Bool} : ∀ (ok : Cells) (w' : World) (L : LM) (u' : Value), RepV ok w' L (.d .bool b : EV G) u' → u' = .bool b := by
  intro ok w' L u' h
  simp only [RepV] at h
  simpa [RepD.Inv] using h.2.inv

/-- Whole numbers in memory. -/
theorem rep_ints {k : IntKind} {zs : List Int} {A : Option Addr} {n c : Nat} {w : World} (hn : n = zs.length) (hc : n ≤ c) (hA : c = 0 ∨ ∃ a, A = some a) (hm : n = 0 ∨ ∃ b o, A = some ⟨b, o, none⟩ ∧ ∀ j, (h : j < zs.length) → w.cell? ⟨b, o + j, none⟩ = some (.int k zs[j])) :
    RepD G (fun _ _ => True) w (.sl (.int k)) (zs : List Int) [.slice A n c] := by
  subst hn
  refine RepD.sl (G := G) (.int k) (zs : List Int) A c (fun i => match zs[i]? with | some z => [.int k z] | none => []) hc hA (fun i hi => ?_) (fun i hi => ?_)
  · have : zs[i]? = some zs[i] := List.getElem?_eq_getElem hi
    simp only [this]
    exact .int k _
  · rcases hm with h0 | ⟨b, o, hA, hcl⟩
    · have hi' : i < zs.length := hi
      omega
    · refine ⟨b, o, hA, fun j v hj => ⟨trivial, ?_⟩⟩
      have : zs[i]? = some zs[i] := List.getElem?_eq_getElem hi
      simp only [this] at hj
      cases j with
      | zero =>
        simp at hj; subst hj
        have e : szT G (.int k) = 1 := rfl
        rw [e]
        simpa using hcl i hi
      | succ j => simp at hj
end Go.Abs
end
section
set_option linter.all false
set_option linter.unusedVariables false
set_option linter.unusedSimpArgs false
set_option linter.unnecessarySimpa false
/-
  ABS, part 33: codes: how a pure value stands for values and entries, there and back.
-/
namespace Go.Abs
open Go
variable {G : Gam}

structure Co (T A : Type) where
  enc : A → T
  dec : T → Option A
  ok : ∀ v a, dec v = some a → enc a = v

def Co.d (G : Gam) (τ : Ty) : Co (EV G) (G.D τ) where
  enc := fun x => .d τ x
  dec := fun v => match v with | .d τ' x => castD τ' τ x | _ => none
  ok := by
    intro v a h
    split at h
    · rename_i τ' x
      unfold castD at h
      split at h
      · rename_i e; subst e; cases h; rfl
      · cases h
    · cases h

def toLfs : List (EV G) → Option (List (Lf G.S))
  | [] => some []
  | .d τ x :: l => match toLfs l with | some m => some (.mk τ x :: m) | none => none
  | _ => none
theorem toLfs_ok : ∀ (l : List (EV G)) (m : List (Lf G.S)), toLfs l = some m → m.map lfEV = l := by
  intro l
  induction l with
  | nil => intro m h; simp only [toLfs] at h; cases h; rfl
  | cons v l ih =>
    intro m h
    unfold toLfs at h
    split at h
    · rename_i heq; cases heq
    · rename_i τ x l' heq
      cases heq
      split at h
      · rename_i m' hm'
        cases h
        simp only [List.map, lfEV, ih _ hm']
      · cases h
    · cases h

def Co.st (G : Gam) (t : TypeId) : Co (EV G) (G.S t) where
  enc := fun x => .ag ((G.cells t x).map lfEV)
  dec := fun v => match v with | .ag l => (match toLfs l with | some m => G.coll t m | none => none) | _ => none
  ok := by
    intro v a h
    split at h
    · split at h
      · rename_i l m hm
        rw [G.law _ _ _ h, toLfs_ok _ _ hm]
      · cases h
    · cases h

def Co.ow (G : Gam) (i : Nat) : Co (EV G) Unit where
  enc := fun _ => .ow i
  dec := fun v => match v with | .ow j => (match Nat.beq j i with | true => some () | false => none) | _ => none
  ok := by
    intro v a h
    split at h
    · split at h
      · rename_i j hj; rw [Nat.eq_of_beq_eq_true hj]
      · cases h
    · cases h
def Co.ptr (G : Gam) (i off : Nat) : Co (EV G) Unit where
  enc := fun _ => .ptr i off
  dec := fun v => match v with | .ptr j o => (match Nat.beq j i, Nat.beq o off with | true, true => some () | _, _ => none) | _ => none
  ok := by
    intro v a h
    split at h
    · split at h
      · rename_i j o _ _ hj ho; rw [Nat.eq_of_beq_eq_true hj, Nat.eq_of_beq_eq_true ho]
      · cases h
    · cases h
def Co.nl (G : Gam) : Co (EV G) Unit where
  enc := fun _ => .nl
  dec := fun v => match v with | .nl => some () | _ => none
  ok := by
    intro v a h
    split at h
    · rfl
    · cases h
def Co.un (G : Gam) : Co (EV G) Unit where
  enc := fun _ => .un
  dec := fun v => match v with | .un => some () | _ => none
  ok := by
    intro v a h
    split at h
    · rfl
    · cases h
def Co.nilF (G : Gam) : Co (EV G) Unit where
  enc := fun _ => .c .nilFunc
  dec := fun v => match v with | .c .nilFunc => some () | _ => none
  ok := by
    intro v a h
    split at h
    · rfl
    · cases h
def Co.nilP (G : Gam) : Co (EV G) Unit where
  enc := fun _ => .c (.pointer none)
  dec := fun v => match v with | .c (.pointer none) => some () | _ => none
  ok := by
    intro v a h
    split at h
    · rfl
    · cases h
def Co.rp (G : Gam) (τ : Ty) (off : Nat) : Co (EV G) (G.D τ) where
  enc := fun x => .rp τ x off
  dec := fun v => match v with | .rp τ' x o => (match Nat.beq o off with | true => castD τ' τ x | false => none) | _ => none
  ok := by
    intro v a h
    split at h
    · rename_i τ' x o
      split at h
      · rename_i ho
        rw [← Nat.eq_of_beq_eq_true ho]
        unfold castD at h
        split at h
        · rename_i e; subst e; cases h; rfl
        · cases h
      · cases h
    · cases h
def Co.fn {A : Type} (f : FuncId) (cs : Co (List (EV G)) A) : Co (EV G) A where
  enc := fun x => .fn f (cs.enc x)
  dec := fun v => match v with | .fn g l => (match Nat.beq g f with | true => cs.dec l | false => none) | _ => none
  ok := by
    intro v a h
    split at h
    · split at h
      · rename_i hf; rw [Nat.eq_of_beq_eq_true hf, cs.ok _ _ h]
      · cases h
    · cases h
def Co.ag {A : Type} (cs : Co (List (EV G)) A) : Co (EV G) A where
  enc := fun x => .ag (cs.enc x)
  dec := fun v => match v with | .ag l => cs.dec l | _ => none
  ok := by
    intro v a h
    split at h
    · rw [cs.ok _ _ h]
    · cases h
def Co.tp {A : Type} (cs : Co (List (EV G)) A) : Co (EV G) A where
  enc := fun x => .tp (cs.enc x)
  dec := fun v => match v with | .tp l => cs.dec l | _ => none
  ok := by
    intro v a h
    split at h
    · rw [cs.ok _ _ h]
    · cases h
def Co.nil (T : Type) : Co (List T) Unit where
  enc := fun _ => []
  dec := fun v => match v with | [] => some () | _ => none
  ok := by
    intro v a h
    split at h
    · rfl
    · cases h
def Co.cons {T A B : Type} (c : Co T A) (d : Co (List T) B) : Co (List T) (A × B) where
  enc := fun x => c.enc x.1 :: d.enc x.2
  dec := fun v => match v with | x :: l => (match c.dec x with | some a => (match d.dec l with | some b => some (a, b) | none => none) | none => none) | _ => none
  ok := by
    intro v a h
    split at h
    · split at h
      · rename_i ha
        split at h
        · rename_i hb; cases h; rw [c.ok _ _ ha, d.ok _ _ hb]
        · cases h
      · cases h
    · cases h
def Co.consL {T A : Type} (c : Co T A) (d : Co (List T) Unit) : Co (List T) A where
  enc := fun x => c.enc x :: d.enc ()
  dec := fun v => match v with | x :: l => (match c.dec x with | some a => (match d.dec l with | some _ => some a | none => none) | none => none) | _ => none
  ok := by
    intro v a h
    split at h
    · split at h
      · rename_i ha
        split at h
        · rename_i hb; cases h; rw [c.ok _ _ ha, ← d.ok _ _ hb]
        · cases h
      · cases h
    · cases h
def Co.consU {T B : Type} (c : Co T Unit) (d : Co (List T) B) : Co (List T) B where
  enc := fun x => c.enc () :: d.enc x
  dec := fun v => match v with | x :: l => (match c.dec x with | some _ => (match d.dec l with | some b => some b | none => none) | none => none) | _ => none
  ok := by
    intro v a h
    split at h
    · split at h
      · rename_i ha
        split at h
        · rename_i hb; cases h; rw [← c.ok _ _ ha, d.ok _ _ hb]
        · cases h
      · cases h
    · cases h
def Co.pair {T U A B : Type} (c : Co T A) (d : Co U B) : Co (T × U) (A × B) where
  enc := fun x => (c.enc x.1, d.enc x.2)
  dec := fun v => match c.dec v.1 with | some a => (match d.dec v.2 with | some b => some (a, b) | none => none) | none => none
  ok := by
    intro v a h
    split at h
    · rename_i ha
      split at h
      · rename_i hb; cases h; rw [c.ok _ _ ha, d.ok _ _ hb]
      · cases h
    · cases h
def Co.pairL {T U A : Type} (c : Co T A) (d : Co U Unit) : Co (T × U) A where
  enc := fun x => (c.enc x, d.enc ())
  dec := fun v => match c.dec v.1 with | some a => (match d.dec v.2 with | some _ => some a | none => none) | none => none
  ok := by
    intro v a h
    split at h
    · rename_i ha
      split at h
      · rename_i hb; cases h; have q := d.ok _ _ hb; rw [c.ok _ _ ha]; exact congrArg (Prod.mk v.1) q
      · cases h
    · cases h
def Co.pairU {T U B : Type} (c : Co T Unit) (d : Co U B) : Co (T × U) B where
  enc := fun x => (c.enc (), d.enc x)
  dec := fun v => match c.dec v.1 with | some _ => (match d.dec v.2 with | some b => some b | none => none) | none => none
  ok := by
    intro v a h
    split at h
    · rename_i ha
      split at h
      · rename_i hb; cases h; have q := c.ok _ _ ha; rw [d.ok _ _ hb]; exact congrArg (fun z => (z, v.2)) q
      · cases h
    · cases h
def Co.box {A : Type} (cs : Co (List (EV G)) A) : Co (Ent G) A where
  enc := fun x => .box (cs.enc x)
  dec := fun v => match v with | .box l => cs.dec l | _ => none
  ok := by
    intro v a h
    split at h
    · rw [cs.ok _ _ h]
    · cases h
def Co.row (G : Gam) (e : Ty) (lock : Nat) : Co (Ent G) (List (G.D e)) where
  enc := fun x => .row e x lock
  dec := fun v => match v with | .row e' xs lk => (match Nat.beq lk lock with | true => castD (S := G.S) (.sl e') (.sl e) xs | false => none) | _ => none
  ok := by
    intro v a h
    split at h
    · rename_i e' x o
      split at h
      · rename_i ho
        rw [← Nat.eq_of_beq_eq_true ho]
        unfold castD at h
        split at h
        · rename_i e; cases e; cases h; rfl
        · cases h
      · cases h
    · cases h
def Co.rowN (G : Gam) (e : Ty) : Co (Ent G) (List (G.D e) × Nat) where
  enc := fun x => .row e x.1 x.2
  dec := fun v => match v with | .row e' xs lk => (match castD (S := G.S) (.sl e') (.sl e) xs with | some y => some (y, lk) | none => none) | _ => none
  ok := by
    intro v a h
    cases v with
    | row e' x lk =>
      simp only at h
      split at h
      · rename_i y hy
        unfold castD at hy
        split at hy
        · rename_i q; cases q; cases hy; cases h; rfl
        · cases hy
      · cases h
    | _ => cases h
def Co.vw (G : Gam) (i : Nat) : Co (EV G) (Nat × Nat) where
  enc := fun x => .vw i x.1 x.2
  dec := fun v => match v with | .vw j lo n => (match Nat.beq j i with | true => some (lo, n) | false => none) | _ => none
  ok := by
    intro v a h
    split at h
    · split at h
      · rename_i j lo n hj; cases h; rw [Nat.eq_of_beq_eq_true hj]
      · cases h
    · cases h
def Co.ept (G : Gam) (i off : Nat) : Co (EV G) Nat where
  enc := fun x => .ept i x off
  dec := fun v => match v with | .ept j x o => (match Nat.beq j i, Nat.beq o off with | true, true => some x | _, _ => none) | _ => none
  ok := by
    intro v a h
    split at h
    · split at h
      · rename_i j x o _ _ hj ho; cases h; rw [Nat.eq_of_beq_eq_true hj, Nat.eq_of_beq_eq_true ho]
      · cases h
    · cases h
def Co.fz (G : Gam) (e : Ty) : Co (Ent G) (List (G.D e)) where
  enc := fun x => .fz e x
  dec := fun v => match v with | .fz e' xs => castD (S := G.S) (.sl e') (.sl e) xs | _ => none
  ok := by
    intro v a h
    cases v with
    | fz e' x =>
      simp only at h
      unfold castD at h
      split at h
      · rename_i q; cases q; cases h; rfl
      · cases h
    | _ => cases h
def Co.tomb (G : Gam) : Co (Ent G) Unit where
  enc := fun _ => .tomb
  dec := fun v => match v with | .tomb => some () | _ => none
  ok := by
    intro v a h
    split at h
    · rfl
    · cases h

theorem iEq_eq {x y : Int} (h : iEq x y = true) : x = y := by simpa [iEq] using h
theorem bEq_eq {x y : Bool} (h : bEq x y = true) : x = y := by simpa [bEq] using h
def sNone (x y : ByteArray) : Bool := Nat.beq x.size 0 && Nat.beq y.size 0
theorem sNone_eq {x y : ByteArray} (h : sNone x y = true) : x = y := by
  simp only [sNone, Bool.and_eq_true] at h
  have h1 : x.data.size = 0 := Nat.eq_of_beq_eq_true h.1
  have h2 : y.data.size = 0 := Nat.eq_of_beq_eq_true h.2
  cases x; cases y
  simp only at h1 h2
  rw [Array.eq_empty_of_size_eq_zero h1, Array.eq_empty_of_size_eq_zero h2]
/-- Two lists of constants are the same. -/
def evZ : List (EV G) → List (EV G) → Bool
  | [], [] => true
  | .nl :: l, .nl :: m => evZ l m
  | .d (.int k) x :: l, .d (.int k') y :: m => decide (k = k') && (iEq x y && evZ l m)
  | .d .bool x :: l, .d .bool y :: m => bEq x y && evZ l m
  | .d .str x :: l, .d .str y :: m => sNone x y && evZ l m
  | _, _ => false
theorem evZ_ok : ∀ (l m : List (EV G)), evZ l m = true → l = m := by
  intro l
  induction l with
  | nil => intro m h; cases m with | nil => rfl | cons _ _ => cases h
  | cons v l ih =>
    intro m h
    unfold evZ at h
    split at h
    · rename_i heq; cases heq
    · rename_i l' m' heq; cases heq; rw [ih _ h]
    · rename_i k x l' k' y m' heq
      cases heq
      simp only [Bool.and_eq_true, decide_eq_true_eq] at h
      obtain ⟨h1, h2, h3⟩ := h
      subst h1; rw [ih _ h3]; exact congrArg (fun z => EV.d (.int k) z :: m') (iEq_eq h2)
    · rename_i x l' y m' heq
      cases heq
      simp only [Bool.and_eq_true, decide_eq_true_eq] at h
      rw [ih _ h.2]; exact congrArg (fun z => EV.d .bool z :: m') (bEq_eq h.1)
    · rename_i x l' y m' heq
      cases heq
      simp only [Bool.and_eq_true, decide_eq_true_eq] at h
      rw [ih _ h.2]; exact congrArg (fun z => EV.d .str z :: m') (sNone_eq h.1)
    · cases h
def Co.zl (G : Gam) (z : List (EV G)) : Co (List (EV G)) Unit where
  enc := fun _ => z
  dec := fun v => match evZ v z with | true => some () | false => none
  ok := by
    intro v a h
    split at h
    · rename_i he; exact (evZ_ok _ _ he).symm
    · cases h
def Co.fill {A : Type} (e : Ty) (cs : Co (List (EV G)) A) (z : List (EV G)) : Co (Ent G) (List (G.D e) × (Nat × A)) where
  enc := fun x => .fill e x.1 (cs.enc x.2.2) z x.2.1 false
  dec := fun v => match v with
    | .fill e' xs c z' n false => (match castD (S := G.S) (.sl e') (.sl e) xs with
      | some y => (match evZ z' z with | true => (match cs.dec c with | some a => some (y, n, a) | none => none) | false => none)
      | none => none)
    | _ => none
  ok := by
    intro v a h
    split at h
    · rename_i e' xs c z' n
      split at h
      · rename_i y hy
        split at h
        · rename_i hz
          split at h
          · rename_i q hq
            obtain rfl := evZ_ok _ _ hz
            unfold castD at hy
            split at hy
            · rename_i p; cases p; cases hy; cases h; rw [← cs.ok _ _ hq]
            · cases hy
          · cases h
        · cases h
      · cases h
    · cases h
def Co.fillU (e : Ty) (cs : Co (List (EV G)) Unit) (z : List (EV G)) : Co (Ent G) (List (G.D e) × Nat) where
  enc := fun x => .fill e x.1 (cs.enc ()) z x.2 false
  dec := fun v => match v with
    | .fill e' xs c z' n false => (match castD (S := G.S) (.sl e') (.sl e) xs with
      | some y => (match evZ z' z with | true => (match cs.dec c with | some _ => some (y, n) | none => none) | false => none)
      | none => none)
    | _ => none
  ok := by
    intro v a h
    split at h
    · rename_i e' xs c z' n
      split at h
      · rename_i y hy
        split at h
        · rename_i hz
          split at h
          · rename_i q hq
            obtain rfl := evZ_ok _ _ hz
            unfold castD at hy
            split at hy
            · rename_i p; cases p; cases hy; cases h; rw [← cs.ok _ _ hq]
            · cases hy
          · cases h
        · cases h
      · cases h
    · cases h

/-- The ways out of a loop. -/
structure Xc (G : Gam) (Y : Type) where
  kx : Ex → Option Keep
  dec : Ex → List (EV G) → List (Ent G) → Option Y
  out : (R : Type) → Y → (Ex → St G → Option R) → Option R
  ok : ∀ e vs es y kp', dec e vs es = some y → kx e = some kp' → ∀ R (k : Ex → St G → Option R), out R y k = k e (kp'.st vs es)
def Ex.is : Ex → Ex → Bool
  | .exit i, .exit j => Nat.beq i j
  | .ret, .ret => true
  | _, _ => false
theorem Ex.is_eq {a b : Ex} (h : a.is b = true) : a = b := by
  cases a <;> cases b <;> simp only [Ex.is] at h <;> first | rfl | (cases h; done) | (rw [Nat.eq_of_beq_eq_true h])
def Xc.one {A : Type} (x : Ex) (kp : Keep) (c : Co (List (EV G) × List (Ent G)) A) : Xc G A where
  kx := fun e => match e.is x with | true => some kp | false => none
  dec := fun e vs es => match e.is x with | true => c.dec (vs, es) | false => none
  out := fun _ y k => k x (kp.st (c.enc y).1 (c.enc y).2)
  ok := by
    intro e vs es y kp' h hk R k
    split at h
    · rename_i he
      rw [he] at hk
      cases hk
      rw [c.ok _ _ h, Ex.is_eq he]
    · cases h
def Xc.or {A B : Type} (a : Xc G A) (b : Xc G B) : Xc G (A ⊕ B) where
  kx := fun e => match a.kx e with | some kp => some kp | none => b.kx e
  dec := fun e vs es => match a.kx e with
    | some _ => (match a.dec e vs es with | some y => some (.inl y) | none => none)
    | none => (match b.dec e vs es with | some y => some (.inr y) | none => none)
  out := fun R y k => match y with | .inl y => a.out R y k | .inr y => b.out R y k
  ok := by
    intro e vs es y kp' h hk R k
    split at h
    · rename_i kp ha
      rw [ha] at hk
      cases hk
      split at h
      · rename_i y' hy'; cases h; exact a.ok _ _ _ _ _ hy' ha R k
      · cases h
    · rename_i ha
      rw [ha] at hk
      split at h
      · rename_i y' hy'; cases h; exact b.ok _ _ _ _ _ hy' hk R k
      · cases h

/-- A function's entry, by codes. -/
def fnT {X Y : Type} (io : List Nat) (c : Co (List (EV G) × List (Ent G)) X) (r : Co (EV G × List (Ent G) × List (Ent G)) Y) (F : X → Option Y) : FnT G :=
  { inout := io, sem := fun _ args lent k => match c.dec (args, lent) with | some x => (F x).bind fun y => k (r.enc y).1 (r.enc y).2.1 (r.enc y).2.2 | none => none }
def loopT {X Y : Type} (kp : Keep) (c : Co (List (EV G) × List (Ent G)) X) (xc : Xc G Y) (L : X → Option Y) : LoopT G :=
  { keep := kp, sem := fun R vs es k => match c.dec (vs, es) with | some x => (L x).bind fun y => xc.out R y k | none => none }
/-- A loop by its steps. -/
def iter {X Y : Type} (S : (X → Option Y) → X → Option Y) : Nat → X → Option Y
  | 0, _ => none
  | n + 1, x => S (iter S n) x

/-- One struct type of a seat. -/
structure SE (S : TypeId → Type) (A : Type) where
  lv : List Ty
  cells : A → List (Lf S)
  coll : List (Lf S) → Option A
  law : ∀ l x, coll l = some x → cells x = l
  tys : ∀ x, (cells x).map (fun | .mk τ _ => τ) = lv
  flat : ∀ τ, τ ∈ lv → τ.leaf = true
def SE.none {S : TypeId → Type} (A : Type) : SE S A where
  lv := []
  cells := fun _ => []
  coll := fun _ => .none
  law := by intro l x h; cases h
  tys := by intros; rfl
  flat := by intro τ h; cases h
def Gam.of (S : TypeId → Type) (e : (t : TypeId) → SE S (S t)) : Gam where
  S := S
  lv := fun t => (e t).lv
  cells := fun t => (e t).cells
  coll := fun t => (e t).coll
  law := fun t => (e t).law
  tys := fun t => (e t).tys
  flat := fun t => (e t).flat

def lookU.{u} {α : Type u} : List (Nat × α) → Nat → Option α
  | [], _ => none
  | (i, v) :: r, j => bif Nat.beq i j then some v else lookU r j
end Go.Abs
end
section
set_option linter.all false
set_option linter.unusedVariables false
set_option linter.unusedSimpArgs false
set_option linter.unnecessarySimpa false
/-
  ABS, part 34: functions and loops by their codes.
-/
namespace Go.Abs
open Go
variable {G : Gam}

/-- What the code of a function answers, by codes. -/
noncomputable def fnE {X Y : Type} (E : Env G) (fn : Func) (md : List (List Md)) (kr : Option Keep) (c : Co (List (EV G) × List (Ent G)) X) (r : Co (EV G × List (Ent G) × List (Ent G)) Y) (x : X) : Option Y :=
  runE E fn md kr (c.enc x).1 (c.enc x).2 fun v l n => r.dec (v, l, n)
/-- What a round of a loop answers, by codes. -/
noncomputable def loopE {X Y : Type} (E : Env G) (b : Code) (kp : Keep) (c : Co (List (EV G) × List (Ent G)) X) (xc : Xc G Y) (L : X → Option Y) (x : X) : Option Y :=
  exec E b (kp.st (c.enc x).1 (c.enc x).2) (roundE E.m kp xc.kx (fun vs es => c.dec (vs, es)) xc.dec L)

def LoopsOK (E : Env G) (c : Code) : Prop := ∀ c' ∈ loopsIn c, ∀ key T, firstRegion c' = some key → E.loops key = some T → LoopOK E c' T

theorem fnT_ok {X Y : Type} {io : List Nat} {c : Co (List (EV G) × List (Ent G)) X} {r : Co (EV G × List (Ent G) × List (Ent G)) Y} {F : X → Option Y}
    {E : Env G} (hE : EnvOK E) {f : FuncId} {fn : Func} {md : List (List Md)} {kr : Option Keep} (hf : E.P.funcs[f]? = some fn) (hname : (fn.name == "runtime.NumGoroutine") = false) (hnt : fn.ntmps = E.nt) {b : Code} (hb : fn.body = some b)
    (hm : ∀ x, (Nat.beq (c.enc x).2.length E.m && Nat.ble (c.enc x).1.length E.nt) = true) (hl : LoopsOK E b) (hF : ∀ x, F x = fnE E fn md kr c r x) : FnOK E.P f (fnT io c r F) := by
  let V : FnV E f fn md kr X Y :=
    { encX := c.enc, decX := fun vs es => c.dec (vs, es), hX := fun vs es x h => c.ok _ _ h
      hm := fun vs es x h => by
        have q := hm x
        rw [c.ok _ _ h] at q
        simp only [Bool.and_eq_true] at q
        exact ⟨Nat.eq_of_beq_eq_true q.1, Nat.le_of_ble_eq_true q.2⟩
      decY := fun v l n => r.dec (v, l, n), out := r.enc, hY := fun v l n y h => r.ok _ _ h
      F := F, hF := hF }
  exact V.ok hE hf hname hb hnt hl io

theorem loopT_ok {X Y : Type} {kp : Keep} {c : Co (List (EV G) × List (Ent G)) X} {xc : Xc G Y} {S : (X → Option Y) → X → Option Y}
    {E : Env G} (hE : EnvOK E) {b : Code} (hl : LoopsOK E b) (hs : ∀ L x, S L x = loopE E b kp c xc L x) (n : Nat) : LoopOK E b (loopT kp c xc (iter S n)) := by
  let V : LoopV E b X Y :=
    { kp := kp, kx := xc.kx, encX := c.enc, decX := fun vs es => c.dec (vs, es), hX := fun vs es x h => c.ok _ _ h
      decY := xc.dec, out := xc.out, hY := xc.ok
      L := iter S, h0 := fun x => rfl, hs := fun n x => hs (iter S n) x }
  exact V.ok hE hl n

/-- A contract, out of the pure answer. -/
theorem fnT_contract {X Y : Type} {io : List Nat} {c : Co (List (EV G) × List (Ent G)) X} {r : Co (EV G × List (Ent G) × List (Ent G)) Y} {F : X → Option Y} {P : Program} {f : FuncId}
    (h : FnOK P f (fnT io c r F)) {x : X} {y : Y} (hy : F x = some y) (hd : c.dec (c.enc x) = some x) : Contract P f (c.enc x).1 (c.enc x).2 (r.enc y).1 (r.enc y).2.1 (r.enc y).2.2 := by
  obtain ⟨res, l, n, h1, h2⟩ := h.sem (EV G × List (Ent G) × List (Ent G)) (c.enc x).1 (c.enc x).2 (fun v l n => some (v, l, n)) (r.enc y) (by
    simp only [fnT]
    rw [hd]
    simp only
    rw [hy]
    rfl)
  have h2 := Option.some.inj h2
  rw [← h2]
  exact h1
end Go.Abs
end
section
set_option linter.all false
set_option linter.unusedVariables false
set_option linter.unusedSimpArgs false
set_option linter.unnecessarySimpa false
/-
  ABS, part 35: the tables of an environment, one by one.
-/
namespace Go.Abs
open Go
variable {G : Gam}

def AllF (P : Program) : List (Nat × FnT G) → Prop
  | [] => True
  | p :: r => FnOK P p.1 p.2 ∧ AllF P r
theorem lookU_in.{u} {α : Type u} {l : List (Nat × α)} {i : Nat} {v : α} (h : lookU l i = some v) : (i, v) ∈ l := by
  induction l with
  | nil => simp only [lookU] at h; cases h
  | cons p l ih =>
    obtain ⟨j, u⟩ := p
    simp only [lookU] at h
    cases q : Nat.beq j i with
    | true =>
      rw [q] at h
      cases h
      rw [Nat.eq_of_beq_eq_true q]
      exact List.mem_cons_self
    | false =>
      rw [q] at h
      exact List.mem_cons_of_mem _ (ih h)
theorem AllF.mem {P : Program} : ∀ {l : List (Nat × FnT G)}, AllF P l → ∀ p ∈ l, FnOK P p.1 p.2
  | p :: r, h, q, hq => by
    rcases List.mem_cons.mp hq with rfl | hq
    · exact h.1
    · exact AllF.mem h.2 q hq
theorem EnvOK.of {E : Env G} (l : List (Nat × FnT G)) (hl : E.fns = lookU l) (h : AllF E.P l) (he : ∀ t ∈ E.eqs, EqOK E.P t) (hm : E.P.follows .mixedOrders = true) : EnvOK E :=
  ⟨fun f T hf => by
    rw [hl] at hf
    exact h.mem _ (lookU_in hf), he, hm⟩
def AllL (E : Env G) : List (Code × Nat × LoopT G) → Prop
  | [] => True
  | p :: r => firstRegion p.1 = some p.2.1 ∧ E.loops p.2.1 = some p.2.2 ∧ LoopOK E p.1 p.2.2 ∧ AllL E r
theorem AllL.mem {E : Env G} : ∀ {l : List (Code × Nat × LoopT G)}, AllL E l → ∀ p ∈ l, firstRegion p.1 = some p.2.1 ∧ E.loops p.2.1 = some p.2.2 ∧ LoopOK E p.1 p.2.2
  | p :: r, h, q, hq => by
    rcases List.mem_cons.mp hq with rfl | hq
    · exact ⟨h.1, h.2.1, h.2.2.1⟩
    · exact AllL.mem h.2.2.2 q hq
theorem LoopsOK.of {E : Env G} {c : Code} (l : List (Code × Nat × LoopT G)) (hl : loopsIn c = l.map (·.1)) (h : AllL E l) : LoopsOK E c := by
  intro c' hc key T hk hT
  rw [hl] at hc
  obtain ⟨p, hp, rfl⟩ := List.mem_map.mp hc
  obtain ⟨h1, h2, h3⟩ := h.mem p hp
  rw [h1] at hk
  cases hk
  rw [h2] at hT
  cases hT
  exact h3
end Go.Abs
end
section
set_option linter.all false
set_option linter.unusedVariables false
set_option linter.unusedSimpArgs false
set_option linter.unnecessarySimpa false
/-
  ABS, part 36: arguments of laws, out of their readings.
-/
namespace Go.Abs
open Go Go.RowKit
variable {G : Gam}

theorem rep_row {k : IntKind} {zs : List Int} {x : Addr} {len cap : Nat} {w : World} (hl : len ≤ cap) (hz : zs.length = cap) (hcell : ∀ i, i < zs.length → w.cell? (x.add i) = some (.int k (zs.getD i 0))) :
    RepD G (fun _ _ => True) w (.sl (.int k)) (zs.take len : List Int) [.slice (some x) len cap] := by
  have hn : len = (zs.take len).length := by rw [List.length_take]; omega
  refine rep_ints hn hl (.inr ⟨_, rfl⟩) ?_
  rcases Nat.eq_zero_or_pos len with h0 | h0
  · exact .inl h0
  · right
    have hsp : x.spot = none := by
      have h1 := hcell 0 (by omega)
      simp only [Addr.add, if_true] at h1
      unfold World.cell? at h1
      split at h1
      · split at h1
        · cases h1
        · rename_i h2; simpa using h2
      · cases h1
    refine ⟨x.block, x.off, ?_, fun j h => ?_⟩
    · cases x; simp only at hsp; subst hsp; rfl
    · have hj : j < zs.length := by rw [List.length_take] at h; omega
      have h1 := hcell j hj
      have e1 : x.add j = ⟨x.block, x.off + j, none⟩ := by
        unfold Addr.add
        split
        · rename_i h2; subst h2; cases x; simp only at hsp; subst hsp; rfl
        · rfl
      rw [e1] at h1
      rw [h1]
      congr 2
      rw [List.getElem_take]
      simp [List.getD_eq_getElem?_getD, hj]
end Go.Abs
end
section
set_option linter.all false
set_option linter.unusedVariables false
set_option linter.unusedSimpArgs false
set_option linter.unnecessarySimpa false
/-
  ABS, part 37: entries for several kinds of arguments; nil slices as data.
-/
namespace Go.Abs
open Go
variable {G : Gam}

def nilV (t : Option Ty) : EV G → EV G
  | .nl => match t with | some e => .d (.sl e) ([] : List (G.D e)) | none => .nl
  | v => v
def nilL : List (Option Ty) → List (EV G) → List (EV G)
  | t :: ts, v :: vs => nilV t v :: nilL ts vs
  | _, vs => vs
def nilA (ts : List (Option Ty)) : EV G → EV G
  | .ag l => .ag (nilL ts l)
  | v => match ts with | t :: _ => nilV t v | [] => v
def nilArgs : List (List (Option Ty)) → List (EV G) → List (EV G)
  | t :: ts, v :: vs => nilA t v :: nilArgs ts vs
  | _, vs => vs
def fnN (ts : List (List (Option Ty))) (T : FnT G) : FnT G := { inout := T.inout, sem := fun R args lent k => T.sem R (nilArgs ts args) lent k }
def orT (p : List (EV G) → List (Ent G) → Bool) (a b : FnT G) : FnT G := { inout := a.inout, sem := fun R args lent k => bif p args lent then a.sem R args lent k else b.sem R args lent k }

section
variable {ok : Cells} {w : World} {L : LM}
theorem nilV_rep {t : Option Ty} {v : EV G} {u : Value} (h : RepV ok w L v u) : RepV ok w L (nilV t v) u := by
  cases v with
  | nl =>
    cases t with
    | none => exact h
    | some e =>
      simp only [RepV] at h
      subst h
      simp only [nilV, RepV]
      refine ⟨rfl, ?_⟩
      have := RepD.sl (G := G) (ok := ok) (w := w) e ([] : List (G.D e)) none 0 (fun _ => []) (Nat.le_refl _) (.inl rfl) (fun i hi => absurd hi (Nat.not_lt_zero _)) (fun i hi => absurd hi (Nat.not_lt_zero _))
      exact this
  | _ => exact h
theorem nilV_ids {t : Option Ty} {v : EV G} : (nilV t v).ids = v.ids := by
  cases v with
  | nl => cases t <;> rfl
  | _ => rfl
theorem nilL_rep : ∀ {ts : List (Option Ty)} {vs : List (EV G)} {us : List Value}, RepVs ok w L vs us → RepVs ok w L (nilL ts vs) us := by
  intro ts
  induction ts with
  | nil => intro vs us h; cases vs <;> exact h
  | cons t ts ih =>
    intro vs us h
    cases vs with
    | nil => exact h
    | cons v vs =>
      cases us with
      | nil => simp only [RepVs] at h
      | cons u us =>
        simp only [RepVs] at h
        simp only [nilL, RepVs]
        exact ⟨nilV_rep h.1, ih h.2⟩
theorem nilL_ids : ∀ {ts : List (Option Ty)} {vs : List (EV G)}, EV.idss (nilL ts vs) = EV.idss vs := by
  intro ts
  induction ts with
  | nil => intro vs; cases vs <;> rfl
  | cons t ts ih =>
    intro vs
    cases vs with
    | nil => rfl
    | cons v vs => simp only [nilL, EV.idss, nilV_ids, ih]
theorem nilA_rep {ts : List (Option Ty)} {v : EV G} {u : Value} (h : RepV ok w L v u) : RepV ok w L (nilA ts v) u := by
  cases v with
  | ag l =>
    simp only [RepV] at h
    obtain ⟨cvs, h1, h2⟩ := h
    simp only [nilA, RepV]
    exact ⟨cvs, h1, nilL_rep h2⟩
  | _ => cases ts <;> first | exact h | exact nilV_rep h
theorem nilA_ids {ts : List (Option Ty)} {v : EV G} : (nilA ts v).ids = v.ids := by
  cases v with
  | ag l => simp only [nilA, EV.ids, nilL_ids]
  | nl => cases ts with
    | nil => rfl
    | cons t ts => cases t <;> rfl
  | _ => cases ts <;> rfl
theorem nilArgs_rep : ∀ {ts : List (List (Option Ty))} {vs : List (EV G)} {us : List Value}, RepVs ok w L vs us → RepVs ok w L (nilArgs ts vs) us := by
  intro ts
  induction ts with
  | nil => intro vs us h; cases vs <;> exact h
  | cons t ts ih =>
    intro vs us h
    cases vs with
    | nil => exact h
    | cons v vs =>
      cases us with
      | nil => simp only [RepVs] at h
      | cons u us =>
        simp only [RepVs] at h
        simp only [nilArgs, RepVs]
        exact ⟨nilA_rep h.1, ih h.2⟩
theorem nilArgs_ids : ∀ {ts : List (List (Option Ty))} {vs : List (EV G)}, EV.idss (nilArgs ts vs) = EV.idss vs := by
  intro ts
  induction ts with
  | nil => intro vs; cases vs <;> rfl
  | cons t ts ih =>
    intro vs
    cases vs with
    | nil => rfl
    | cons v vs => simp only [nilArgs, EV.idss, nilA_ids, ih]
end

theorem fnN_ok {P : Program} {f : FuncId} {T : FnT G} {ts : List (List (Option Ty))} (h : FnOK P f T) : FnOK P f (fnN ts T) := by
  refine ⟨h.enters, fun R args lent k r hr => ?_⟩
  obtain ⟨res, l, n, hc, hk⟩ := h.sem R (nilArgs ts args) lent k r hr
  refine ⟨res, l, n, ?_, hk⟩
  intro F L w vs e1 e2 e3 hrel hvs hids
  exact hc F L w vs e1 e2 e3 hrel (nilArgs_rep hvs) (by rw [nilArgs_ids]; exact hids)
theorem orT_ok {P : Program} {f : FuncId} {p : List (EV G) → List (Ent G) → Bool} {a b : FnT G} (ha : FnOK P f a) (hb : FnOK P f b) : FnOK P f (orT p a b) := by
  refine ⟨ha.enters, fun R args lent k r hr => ?_⟩
  simp only [orT] at hr
  cases q : p args lent with
  | true => rw [q] at hr; exact ha.sem R args lent k r hr
  | false => rw [q] at hr; exact hb.sem R args lent k r hr

/-! ### a slice argument, nil or not -/
def nilAt : Nat → EV G → List (EV G) → List (EV G)
  | _, _, [] => []
  | 0, x, _ :: l => x :: l
  | j + 1, x, v :: l => v :: nilAt j x l
theorem sl_split {ok : Cells} {w : World} {L : LM} {e : Ty} {xs : List (G.D e)} {u : Value} (h : RepV ok w L (.d (.sl e) xs : EV G) u) :
    (xs = [] ∧ RepV ok w L (.nl : EV G) u) ∨ RepV ok w L (.d (.sn e) xs : EV G) u := by
  simp only [RepV] at h
  have hi := h.2
  obtain ⟨A, c, css, hcs, hc, hA, hel, hm⟩ := h.2.inv
  simp only [List.cons.injEq, and_true] at hcs
  subst hcs
  cases A with
  | some a =>
    right
    simp only [RepV]
    exact ⟨rfl, .sn e xs a c hi⟩
  | none =>
    left
    have hc0 : c = 0 := by
      rcases hA with h | ⟨a, h⟩
      · exact h
      · cases h
    have hx : xs.length = 0 := by omega
    refine ⟨List.length_eq_zero_iff.mp hx, ?_⟩
    simp only [RepV]
    rw [hx, hc0]
theorem nilAt_rep {ok : Cells} {w : World} {L : LM} : ∀ {j : Nat} {vs : List (EV G)} {us : List Value} {v x : EV G}, RepVs ok w L vs us → vs[j]? = some v → (∀ u, RepV ok w L v u → us[j]? = some u → RepV ok w L x u) → RepVs ok w L (nilAt j x vs) us := by
  intro j
  induction j with
  | zero =>
    intro vs us v x h hj hx
    cases vs with
    | nil => simp at hj
    | cons y vs =>
      cases us with
      | nil => simp only [RepVs] at h
      | cons u us =>
        simp at hj; subst hj
        simp only [RepVs] at h
        simp only [nilAt, RepVs]
        exact ⟨hx u h.1 rfl, h.2⟩
  | succ j ih =>
    intro vs us v x h hj hx
    cases vs with
    | nil => simp at hj
    | cons y vs =>
      cases us with
      | nil => simp only [RepVs] at h
      | cons u us =>
        simp only [RepVs] at h
        simp only [nilAt, RepVs]
        exact ⟨h.1, ih h.2 (by simpa using hj) (fun u' hu' hj' => hx u' hu' (by simpa using hj'))⟩
theorem nilAt_ids {e : Ty} {xs : List (G.D e)} {x : EV G} (hx : x.ids = []) : ∀ {j : Nat} {vs : List (EV G)}, vs[j]? = some (.d (.sl e) xs) → EV.idss (nilAt j x vs) = EV.idss vs := by
  intro j
  induction j with
  | zero =>
    intro vs hj
    cases vs with
    | nil => simp at hj
    | cons y vs => simp at hj; subst hj; simp only [nilAt, EV.idss, hx, EV.ids]
  | succ j ih =>
    intro vs hj
    cases vs with
    | nil => simp at hj
    | cons y vs => simp only [nilAt, EV.idss, ih (by simpa using hj)]
theorem split_contract {P : Program} {f : FuncId} {args : List (EV G)} {lent : List (Ent G)} {res : EV G} {l n : List (Ent G)} {j : Nat} {e : Ty} {xs : List (G.D e)} (hj : args[j]? = some (.d (.sl e) xs))
    (h1 : xs = [] → Contract P f (nilAt j .nl args) lent res l n) (h2 : Contract P f (nilAt j (.d (.sn e) xs) args) lent res l n) : Contract P f args lent res l n := by
  intro F L w vs e1 e2 e3 hrel hvs hids
  have hlt : j < args.length := by
    rcases Nat.lt_or_ge j args.length with h | h
    · exact h
    · rw [List.getElem?_eq_none h] at hj; cases hj
  obtain ⟨u, hu, hr⟩ := hvs.get hj
  rcases sl_split hr with ⟨hx, hn⟩ | hn
  · exact h1 hx F L w vs e1 e2 e3 hrel (nilAt_rep hvs hj fun u' _ hu' => by rw [hu] at hu'; cases hu'; exact hn) (by rw [nilAt_ids rfl hj]; exact hids)
  · exact h2 F L w vs e1 e2 e3 hrel (nilAt_rep hvs hj fun u' _ hu' => by rw [hu] at hu'; cases hu'; exact hn) (by rw [nilAt_ids rfl hj]; exact hids)

theorem split_ok {X XA XB Y : Type} {io : List Nat} {c : Co (List (EV G) × List (Ent G)) X} {r : Co (EV G × List (Ent G) × List (Ent G)) Y} {F : X → Option Y} {P : Program} {f : FuncId} {ca : Co (List (EV G) × List (Ent G)) XA} {Fa : XA → Option Y} {cb : Co (List (EV G) × List (Ent G)) XB} {Fb : XB → Option Y}
    (ha : FnOK P f (fnT io ca r Fa)) (hb : FnOK P f (fnT io cb r Fb)) (j : Nat) (e : Ty) (p : X → List (G.D e)) (gA : X → XA) (gB : X → XB)
    (h1 : ∀ x, (c.enc x).1[j]? = some (.d (.sl e) (p x)))
    (h2 : ∀ x, (nilAt j .nl (c.enc x).1, (c.enc x).2) = ca.enc (gA x)) (d2 : ∀ x, ca.dec (ca.enc (gA x)) = some (gA x))
    (h3 : ∀ x, (nilAt j (.d (.sn e) (p x)) (c.enc x).1, (c.enc x).2) = cb.enc (gB x)) (d3 : ∀ x, cb.dec (cb.enc (gB x)) = some (gB x))
    (hF : ∀ x, F x = Fb (gB x)) (hq : ∀ x y, p x = [] → Fb (gB x) = some y → Fa (gA x) = some y) : FnOK P f (fnT io c r F) := by
  refine ⟨ha.enters, fun R args lent k r0 hr => ?_⟩
  simp only [fnT] at hr
  split at hr
  · rename_i x hx
    obtain ⟨y, hy, hk⟩ := bindS hr
    refine ⟨(r.enc y).1, (r.enc y).2.1, (r.enc y).2.2, ?_, hk⟩
    have hc := c.ok _ _ hx
    have e1 : args = (c.enc x).1 := by rw [hc]
    have e2 : lent = (c.enc x).2 := by rw [hc]
    rw [e1, e2]
    rw [hF] at hy
    refine split_contract (h1 x) (fun hp => ?_) ?_
    · have q := fnT_contract ha (hq x y hp hy) (d2 x)
      rw [← h2] at q
      exact q
    · have q := fnT_contract hb hy (d3 x)
      rw [← h3] at q
      exact q
  · cases hr

theorem clone_nil {α : Type} {b : Nat} {y : List α} (h : (bif appOK (List.length ([] : List α)) (List.length ([] : List α)) b then some (([] : List α) ++ []) else none) = some y) : some ([] : List α) = some y := by
  have q : appOK (List.length ([] : List α)) (List.length ([] : List α)) b = true := appOK_iff.mpr (by simp)
  rw [q] at h
  exact h
end Go.Abs
end
section
set_option linter.all false
set_option linter.unusedVariables false
set_option linter.unusedSimpArgs false
set_option linter.unnecessarySimpa false
/-
  ABS, part 38: readings of arguments, told as data.
-/
namespace Go.Abs
open Go
variable {G : Gam}

mutual
/-- Data that a machine holds. -/
inductive WfD (G : Gam) : (τ : Ty) → G.D τ → Prop
  | int (k : IntKind) (n : Int) (h : (Lit.int k n).wf = true) : WfD G (.int k) n
  | bool (b : Bool) : WfD G .bool b
  | str (s : ByteArray) (h : s.size ≤ maxLen) : WfD G .str s
  | sl (e : Ty) (xs : List (G.D e)) (hl : xs.length ≤ maxLen) (h : ∀ i (hi : i < xs.length), WfD G e xs[i]) : WfD G (.sl e) xs
  | st (t : TypeId) (x : G.S t) (h : WfL G (G.cells t x)) : WfD G (.st t) x
inductive WfL (G : Gam) : List (Lf G.S) → Prop
  | nil : WfL G []
  | cons (τ : Ty) (x : G.D τ) (l : List (Lf G.S)) (h : WfD G τ x) (t : WfL G l) : WfL G (.mk τ x :: l)
end

def lfT : Lf G.S → Ty
  | .mk τ _ => τ
def shapeFs (P : Program) (sh : TypeId → Option (List Ty)) : List Field → Nat → Option (List Ty)
  | [], _ => some []
  | f :: r, o => match sh f.type with
    | none => none
    | some lv => bif Nat.beq f.offset o && Nat.beq (P.cellsOf f.type) lv.length then (match shapeFs P sh r (o + lv.length) with | some m => some (lv ++ m) | none => none) else none
def beqTy (a b : Ty) : Bool := decide (a = b)
def beqTys : List Ty → List Ty → Bool
  | [], [] => true
  | a :: l, b :: m => beqTy a b && beqTys l m
  | _, _ => false
theorem beqTys_eq : ∀ {l m : List Ty}, beqTys l m = true → l = m := by
  intro l
  induction l with
  | nil => intro m h; cases m with | nil => rfl | cons => simp [beqTys] at h
  | cons a l ih =>
    intro m h
    cases m with
    | nil => simp [beqTys] at h
    | cons b m =>
      simp only [beqTys, Bool.and_eq_true] at h
      rw [of_decide_eq_true h.1, ih h.2]
/-- The leaves of a type, as far as its readings are data. -/
def shape (G : Gam) (P : Program) (told : List Nat) : Nat → TypeId → Option (List Ty)
  | 0, _ => none
  | n + 1, t => match P.underlying t with
    | some (.int k) => some [.int k]
    | some .bool => some [.bool]
    | some .string => some [.str]
    | some (.slice e) => match shape G P told n e with
      | none => none
      | some lv => bif Nat.beq (P.cellsOf e) lv.length && Nat.ble 1 lv.length then
          (match P.underlying e with
          | some (.struct _) => bif beqTys (G.lv e) lv && told.contains e then some [.sl (.st e)] else none
          | _ => match lv with | [τ] => bif τ.leaf then some [.sl τ] else none | _ => none)
        else none
    | some (.struct fs) => match shapeFs P (shape G P told n) fs.toList 0 with
      | some lv => bif Nat.beq (P.cellsOf t) lv.length then some lv else none
      | none => none
    | _ => none

section
variable {H : Type} {enc : TypeId × Value → H} {P : Program} {w : World} {base : Nat} {spare : Nat → Bool} {held : Bool}
theorem WfL.append {l m : List (Lf G.S)} (h : WfL G l) (h' : WfL G m) : WfL G (l ++ m) := by
  induction l with
  | nil => simpa using h'
  | cons x l ih =>
    cases h with
    | cons τ y _ h1 h2 => exact .cons τ y _ h1 (ih h2)
theorem cells?_get {a : Addr} {n : Nat} {cs : List Value} (h : w.cells? base a n = some cs) : cs.length = n ∧ ∀ j v, cs[j]? = some v → w.cell? (a.add j) = some v := by
  unfold World.cells? at h
  split at h
  · have hl := mapM_some_length h
    refine ⟨by simpa using hl, fun j v hj => ?_⟩
    have hjn : j < n := by
      rcases Nat.lt_or_ge j cs.length with h1 | h1
      · rw [show cs.length = n by simpa using hl] at h1; exact h1
      · rw [List.getElem?_eq_none h1] at hj; cases hj
    have := mapM_some_get h j j (by simp [hjn])
    rw [this]; exact hj
  · cases h
theorem spot_of {a : Addr} {v : Value} (h : w.cell? a = some v) : a.spot = none := by
  unfold World.cell? at h
  split at h
  · split at h
    · cases h
    · rename_i h2; simpa using h2
  · cases h
theorem add_of {a : Addr} (hs : a.spot = none) (i j : Nat) : (a.add i).add j = ⟨a.block, a.off + (i + j), none⟩ := by
  obtain ⟨b, o, s⟩ := a
  simp only at hs
  subst hs
  unfold Addr.add
  by_cases hi : i = 0
  · by_cases hj : j = 0
    · subst hi; subst hj; simp
    · subst hi; simp [hj]
  · by_cases hj : j = 0
    · subst hj; simp [hi]
    · simp [hi, hj, Nat.add_assoc]
theorem trod_rep {told : List Nat} (full : ∀ t ∈ told, ∀ l : List (Lf G.S), l.map lfT = G.lv t → ∃ x, G.coll t l = some x) :
    ∀ (n : Nat) (t : TypeId) (lv : List Ty), shape G P told n t = some lv → ∀ (fuel : Nat) (cs : List Value) (x : DataW H × List MemPlace), DataW.trod enc P w base spare held fuel t cs = some x →
      ∃ l : List (Lf G.S), l.map lfT = lv ∧ RepL G (fun _ _ => True) w l cs ∧ WfL G l := by
  intro n
  induction n with
  | zero => intro t lv h; simp [shape] at h
  | succ n ih =>
    intro t lv hsh fuel cs x hx
    simp only [shape] at hsh
    split at hsh
    · rename_i k hu
      cases hsh
      obtain ⟨z, rfl, _, hw⟩ := DataW.trod_int hu hx
      exact ⟨[.mk (.int k) (z : Int)], rfl, .cons _ _ _ _ _ (.int k z) .nil, .cons _ _ _ (.int k z hw) .nil⟩
    · rename_i hu
      cases hsh
      obtain ⟨z, rfl, _⟩ := DataW.trod_bool hu hx
      exact ⟨[.mk .bool z], rfl, .cons _ _ _ _ _ (.bool z) .nil, .cons _ _ _ (.bool z) .nil⟩
    · rename_i hu
      cases hsh
      obtain ⟨z, rfl, _, hz⟩ := DataW.trod_string hu hx
      exact ⟨[.mk .str z], rfl, .cons _ _ _ _ _ (.str z) .nil, .cons _ _ _ (.str z hz) .nil⟩
    · rename_i e hu
      split at hsh
      · cases hsh
      rename_i elv hesh
      obtain ⟨hg, hsh⟩ := guardb hsh
      obtain ⟨hg1, hg2⟩ := band hg
      have hcell := Nat.eq_of_beq_eq_true hg1
      have hpos := Nat.le_of_ble_eq_true hg2
      -- the element's type
      obtain ⟨τ, hlv, hτ⟩ : ∃ τ, lv = [.sl τ] ∧ ∀ (l : List (Lf G.S)) (cs : List Value), l.map lfT = elv → RepL G (fun _ _ => True) w l cs → WfL G l → ∃ d : G.D τ, RepD G (fun _ _ => True) w τ d cs ∧ WfD G τ d ∧ szT G τ = elv.length := by
        split at hsh
        · rename_i fs hue
          obtain ⟨hg3, hsh⟩ := guardb hsh
          obtain ⟨hg4, hg5⟩ := band hg3
          have hlve := beqTys_eq hg4
          cases hsh
          refine ⟨.st e, rfl, fun l cs hl hr hw => ?_⟩
          obtain ⟨d, hd⟩ := full e (by simpa using hg5) l (by rw [hl, hlve])
          have hc := G.law e l d hd
          refine ⟨d, .st e d cs (by rw [hc]; exact hr), .st e d (by rw [hc]; exact hw), by simp only [szT]; rw [hlve]⟩
        · split at hsh
          · rename_i τ _
            obtain ⟨hleaf, hsh⟩ := guardb hsh
            cases hsh
            refine ⟨τ, rfl, fun l cs hl hr hw => ?_⟩
            cases l with
            | nil => simp at hl
            | cons a l =>
              cases l with
              | cons b l => simp at hl
              | nil =>
                cases hr with
                | cons τ' y v _ vs h1 h2 =>
                  cases h2
                  cases hw with
                  | cons _ _ _ h3 h4 =>
                    simp only [List.map_cons, List.map_nil, lfT, List.cons.injEq, and_true] at hl
                    subst hl
                    refine ⟨y, h1, h3, ?_⟩
                    have := h1.length
                    simp at this
                    simpa using this.symm
          · cases hsh
      subst hlv
      rcases DataW.trod_slice hu hx with ⟨rfl, _⟩ | ⟨a, len, cap, elems, rest, m, _, rfl, _, _, hlc, hcm, hlen, hel, _, _⟩
      · exact ⟨[.mk (.sl τ) ([] : List (G.D τ))], rfl, .cons _ _ _ _ _ (RepD.nil (.inl rfl)) .nil, .cons _ _ _ (.sl τ [] (Nat.zero_le _) fun i hi => absurd hi (Nat.not_lt_zero _)) .nil⟩
      · have each : ∀ i, i < len → ∃ (d : G.D τ) (csi : List Value), RepD G (fun _ _ => True) w τ d csi ∧ WfD G τ d ∧ w.cells? base (a.add (i * P.cellsOf e)) (P.cellsOf e) = some csi := by
          intro i hi
          have h1 := hel i hi
          rw [List.getElem?_eq_getElem (by omega)] at h1
          obtain ⟨csi, h2, h3⟩ := Option.bind_eq_some_iff.mp h1
          obtain ⟨l, l1, l2, l3⟩ := ih e elv hesh m csi _ h3
          obtain ⟨d, d1, d2, _⟩ := hτ l csi l1 l2 l3
          exact ⟨d, csi, d1, d2, h2⟩
        have hsz : len = 0 ∨ szT G τ = elv.length := by
          rcases Nat.eq_zero_or_pos len with h0 | h0
          · exact .inl h0
          · right
            obtain ⟨d, csi, d1, _, d3⟩ := each 0 h0
            rw [← d1.length, (cells?_get d3).1, hcell]
        -- all elements at once
        have all : ∀ k, k ≤ len → ∃ (xs : List (G.D τ)) (css : Nat → List Value), xs.length = k ∧ ∀ i (hi : i < xs.length), RepD G (fun _ _ => True) w τ xs[i] (css i) ∧ WfD G τ xs[i] ∧ w.cells? base (a.add (i * P.cellsOf e)) (P.cellsOf e) = some (css i) := by
          intro k
          induction k with
          | zero => intro _; exact ⟨[], fun _ => [], rfl, fun i hi => absurd hi (Nat.not_lt_zero _)⟩
          | succ k ihk =>
            intro hk
            obtain ⟨xs, css, h1, h2⟩ := ihk (by omega)
            obtain ⟨d, csi, d1, d2, d3⟩ := each k (by omega)
            refine ⟨xs ++ [d], fun i => if i = k then csi else css i, by simp [h1], fun i hi => ?_⟩
            rcases Nat.lt_or_ge i xs.length with h3 | h3
            · have h4 : ¬ i = k := by omega
              simp only [List.getElem_append_left h3, if_neg h4]
              exact h2 i h3
            · have h4 : i = k := by simp at hi; omega
              subst h4
              have : (xs ++ [d])[i] = d := by rw [List.getElem_append_right h3]; simp [h1]
              simp only [this, if_true]
              exact ⟨d1, d2, d3⟩
        obtain ⟨xs, css, h1, h2⟩ := all len (Nat.le_refl _)
        have hspot : 0 < len → a.spot = none := by
          intro h0
          have h3 := (h2 0 (by omega)).2.2
          obtain ⟨q1, q2⟩ := cells?_get h3
          have : 0 < (css 0).length := by omega
          have h4 := q2 0 _ (List.getElem?_eq_getElem this)
          rw [Nat.zero_mul] at h4
          simp only [Addr.add, if_true] at h4
          exact spot_of h4
        refine ⟨[.mk (.sl τ) xs], rfl, ?_, .cons _ _ _ (.sl τ xs (by rw [h1]; omega) fun i hi => (h2 i hi).2.1) .nil⟩
        have hr : RepD G (fun _ _ => True) w (.sl τ) xs [.slice (some a) xs.length cap] := by
          refine .sl τ xs (some a) cap css (by omega) (.inr ⟨a, rfl⟩) (fun i hi => (h2 i hi).1) fun i hi => ?_
          have hs := hspot (by omega)
          refine ⟨a.block, a.off, ?_, fun j v hj => ⟨trivial, ?_⟩⟩
          · obtain ⟨b, o, s⟩ := a; simp only at hs; subst hs; rfl
          · have h3 := (cells?_get (h2 i hi).2.2).2 j v hj
            rw [add_of hs] at h3
            have : szT G τ = P.cellsOf e := by
              rcases hsz with h0 | h0
              · omega
              · rw [h0, hcell]
            rw [this]
            exact h3
        rw [h1] at hr
        exact .cons _ _ _ _ _ hr .nil
    · rename_i fs hu
      split at hsh
      · rename_i lv' hfs
        obtain ⟨hg, hsh⟩ := guardb hsh
        cases hsh
        have hcell := Nat.eq_of_beq_eq_true hg
        obtain ⟨xs, m, _, _, hcl, hxl, hf⟩ := DataW.trod_struct hu hx
        -- field by field
        have key : ∀ (r : List Field) (o : Nat) (lv : List Ty), shapeFs P (shape G P told n) r o = some lv → (∀ (i : Nat) (f : Field), r[i]? = some f → ∃ y, DataW.trod enc P w base spare held m f.type ((cs.drop f.offset).take (P.cellsOf f.type)) = some y) →
            ∃ l : List (Lf G.S), l.map lfT = lv ∧ RepL G (fun _ _ => True) w l ((cs.drop o).take lv.length) ∧ WfL G l := by
          intro r
          induction r with
          | nil => intro o lv h _; simp only [shapeFs] at h; cases h; exact ⟨[], rfl, by simpa using RepL.nil, .nil⟩
          | cons f r ihr =>
            intro o lv h hall
            simp only [shapeFs] at h
            split at h
            · cases h
            rename_i flv hflv
            obtain ⟨hg, h⟩ := guardb h
            obtain ⟨hg1, hg2⟩ := band hg
            have ho := Nat.eq_of_beq_eq_true hg1
            have hc := Nat.eq_of_beq_eq_true hg2
            split at h
            · rename_i mlv hm
              cases h
              obtain ⟨y, hy⟩ := hall 0 f rfl
              obtain ⟨l1, a1, a2, a3⟩ := ih f.type flv hflv m _ y hy
              obtain ⟨l2, b1, b2, b3⟩ := ihr (o + flv.length) mlv hm (fun i g hi => hall (i + 1) g (by simpa using hi))
              refine ⟨l1 ++ l2, by simp [a1, b1], ?_, a3.append b3⟩
              rw [hc, ho] at a2
              have := a2.append b2
              rw [List.length_append, ← List.drop_drop] at *
              rw [List.take_add]
              exact this
            · cases h
        obtain ⟨l, a1, a2, a3⟩ := key fs.toList 0 lv hfs (fun i f hi => by
          have h1 := hf i f (by simpa using hi)
          have h2 : i < fs.size := by
            rcases Nat.lt_or_ge i fs.size with h3 | h3
            · exact h3
            · rw [List.getElem?_eq_none (by simpa using h3)] at hi; cases hi
          rw [List.getElem?_eq_getElem (by omega)] at h1
          exact ⟨_, h1⟩)
        refine ⟨l, a1, ?_, a3⟩
        rw [List.drop_zero, List.take_of_length_le (by omega)] at a2
        exact a2
      · cases hsh
    · cases hsh
end

theorem one_leaf {w : World} {τ : Ty} {l : List (Lf G.S)} {v : Value} (h : l.map lfT = [τ]) (hr : RepL G (fun _ _ => True) w l [v]) (hw : WfL G l) (hl : τ.leaf = true) :
    ∃ z : G.D τ, RepV (fun _ _ => True) w (fun _ => none) (.d τ z : EV G) v ∧ WfD G τ z := by
  cases l with
  | nil => simp at h
  | cons a l =>
    cases l with
    | cons b l => simp at h
    | nil =>
      cases hr with
      | cons τ' y v _ vs h1 h2 =>
        cases hw with
        | cons _ _ _ h3 h4 =>
          simp only [List.map_cons, List.map_nil, lfT, List.cons.injEq, and_true] at h
          subst h
          exact ⟨y, by simp only [RepV]; exact ⟨hl, h1⟩, h3⟩
theorem WfL.leaf {l : List (Lf G.S)} (h : WfL G l) : ∀ a ∈ l, match a with | .mk τ x => WfD G τ x := by
  induction l with
  | nil => intro a ha; cases ha
  | cons b l ih =>
    cases h with
    | cons τ x _ h1 h2 =>
      intro a ha
      rcases List.mem_cons.mp ha with rfl | ha
      · exact h1
      · exact ih h2 a ha
end Go.Abs
end
