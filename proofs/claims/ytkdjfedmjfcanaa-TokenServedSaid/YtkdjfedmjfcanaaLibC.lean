/- An evaluator of the model over pure data, and that its answers are those of the code; part 3. No conditions. -/
import Derived.Below
import Derived.KernelRfl
import Derived.Test.YtkdjfedmjfcanaaLibB
section
set_option linter.all false
set_option linter.unusedVariables false
set_option linter.unusedSimpArgs false
set_option linter.unnecessarySimpa false
/-
  ABS, part 30: a function's answer is its contract.
-/
namespace Go.Abs
open Go
variable {G : Gam}

section
variable {P : Program} {F : Frm} {nt : Nat} {L : LM} {s : St G} {a : Act} {w : World}

theorem addNew_prefix : ∀ (r l : List Nat), ∃ t, addNew l r = l ++ t := by
  intro r
  induction r with
  | nil => intro l; exact ⟨[], by simp [addNew]⟩
  | cons a r ih =>
    intro l
    simp only [addNew]
    cases l.contains a with
    | true => exact ih l
    | false =>
      obtain ⟨t, ht⟩ := ih (l ++ [a])
      exact ⟨a :: t, by simp only [cond_false]; rw [ht]; simp⟩
theorem numbers_eq : ∀ (n i : Nat), numbers n i = List.range' i n := by
  intro n
  induction n with
  | zero => intro i; rfl
  | succ n ih => intro i; simp only [numbers, ih, List.range'_succ]
theorem slots_look : ∀ (vs : List (EV G)) (n t : Nat), lookT (slots n vs) t = if n ≤ t then vs[t - n]? else none := by
  intro vs
  induction vs with
  | nil => intro n t; simp [slots, lookT]
  | cons v vs ih =>
    intro n t
    simp only [slots, lookT_cons, ih]
    by_cases h : n = t
    · subst h; simp
    · rw [if_neg h]
      by_cases h2 : n + 1 ≤ t
      · rw [if_pos h2, if_pos (by omega), show t - n = (t - (n + 1)) + 1 by omega, List.getElem?_cons_succ]
      · rw [if_neg h2, if_neg (by omega)]

theorem ret_rel (h : Rel F nt L s a w) {ls : List Nat} (hnd : ls.Nodup) {es : List (Ent G)} (hes : looks s ls = some es) (hcl : ∀ i ∈ ls, ∀ e, s.look i = some e → ∀ j ∈ e.ids, j ∈ ls) (hpre : ∀ i, i < F.n → ls[i]? = some i) {es0 : List (Ent G)} (h0 : es0 = es.map (Ent.rn fun i => indexOf i ls 0)) :
    (∀ b o, okOf F L s b o → okOf F (lentL L ls) (St.of es0) b o) ∧ RelE F (lentL L ls) (St.of es0) w := by
  subst h0
  have hok : ∀ b o, okOf F L s b o → okOf F (lentL L ls) (St.of (es.map (Ent.rn fun i => indexOf i ls 0))) b o := by
    intro b o hb
    refine ⟨hb.1, fun ho => ?_⟩
    obtain ⟨j, e, l, hj, hs, hl, hw⟩ := lent_owned hes ho
    exact hb.2 ⟨j, e, l, hs, hl, hw⟩
  have hesl := (looks_spec hes).1
  refine ⟨hok, ⟨h.e.fits, ?_, ?_, ?_, ?_, ?_⟩⟩
  · intro i e' hi
    obtain ⟨j, e, p1, p2, rfl⟩ := lent_look hes hi
    exact ((h.e.en j e p2).ok_mono hok).rn (by simp [lentL, p1]) (lent_turn ls _)
  · intro i e' hi j' hj'
    obtain ⟨j, e, p1, p2, rfl⟩ := lent_look hes hi
    obtain ⟨i', q1, q2⟩ := Ent.rn_ids hj'
    have := (indexOf_some q2).2
    simp only [Nat.sub_zero] at this
    obtain ⟨e'', r1, r2⟩ := (looks_spec hes).2 j' i' this
    rw [St.of_look, List.getElem?_map, r2]; rfl
  · intro i i' e' f' l m hi hi' hl hm oe of ne
    obtain ⟨j, e, p1, p2, rfl⟩ := lent_look hes hi
    obtain ⟨k, f, q1, q2, rfl⟩ := lent_look hes hi'
    simp only [lentL, p1] at hl
    simp only [lentL, q1] at hm
    refine h.e.dis j k e f l m p2 q2 hl hm (Ent.rn_owner.mp oe) (Ent.rn_owner.mp of) (fun ejk => ne ?_)
    subst ejk
    have hlen1 : i < ls.length := by
      rcases Nat.lt_or_ge i ls.length with h3 | h3
      · exact h3
      · rw [List.getElem?_eq_none h3] at p1; cases p1
    exact (List.getElem?_inj hlen1 hnd).mp (p1.trans q1.symm)
  · intro i e' l hi hl oe
    obtain ⟨j, e, p1, p2, rfl⟩ := lent_look hes hi
    simp only [lentL, p1] at hl
    rw [Ent.rn_owns]
    exact h.e.own j e l p2 hl (Ent.rn_owner.mp oe)
  · intro i hi
    have hp := hpre i hi
    obtain ⟨e, q1, q2⟩ := (looks_spec hes).2 i i hp
    refine ⟨by rw [St.of_look, List.getElem?_map, q2]; rfl, ?_⟩
    simp only [lentL, hp]
    exact (h.e.lent i hi).2
end

section
variable {E : Env G}

theorem ExecOK.canon {c : Code} {s s1 s2 : St G} {e : Ex} {kp : Keep} (h : ExecOK E c s e s1) (hc : Abs.canon E.m kp s1 = some s2) : ExecOK E c s e s2 := by
  intro F L a w hn hr
  refine wp_mono (h F L a w hn hr) ?_
  rintro x a' w' ⟨rfl, L', h'⟩
  exact ⟨rfl, (canon_rel hn h' hc).1⟩
theorem runE_sound (hE : EnvOK E) {f : FuncId} {fn : Func} {c : Code} (hf : E.P.funcs[f]? = some fn) (hb : fn.body = some c) (hnt : fn.ntmps = E.nt) (hl : ∀ c' ∈ loopsIn c, ∀ key T, firstRegion c' = some key → E.loops key = some T → LoopOK E c' T)
    {md : List (List Md)} {kr : Option Keep} {args : List (EV G)} {outer : List (Ent G)} (hargs : args.length ≤ E.nt) (hm : outer.length = E.m) {R : Type} {k : EV G → List (Ent G) → List (Ent G) → Option R} {r : R} (h : runE E fn md kr args outer k = some r) :
    ∃ res lent' news, Contract E.P f args outer res lent' news ∧ k res lent' news = some r := by
  unfold runE at h
  rw [hb] at h
  simp only at h
  obtain ⟨e, s0, h, hx0⟩ := exec_sound hE c hl _ _ _ h
  have hne : ∀ id, e ≠ .exit id := by intro id he; subst he; simp at h
  have hret0 : retK E.P outer.length fn.results.toList md kr s0 k = some r := by
    cases e with
    | normal => exact h
    | ret => exact h
    | exit id => exact absurd rfl (hne id)
  clear h
  obtain ⟨s, hret, hx⟩ : ∃ s, retE E.P outer.length fn.results.toList md s k = some r ∧ ExecOK E c { tm := slots 0 args, en := number 0 outer } e s := by
    unfold retK at hret0
    split at hret0
    · exact ⟨s0, hret0, hx0⟩
    · split at hret0
      · cases hret0
      · rename_i kp s' hc
        rw [hm] at hc
        exact ⟨s', hret0, hx0.canon hc⟩
  unfold retE at hret
  split at hret
  · cases hret
  rename_i vs hvs
  split at hret
  · cases hret
  rename_i ws up hws
  simp only at hret
  generalize hls : addNew (addNew (addNew (numbers outer.length 0) (EV.idss ws)) (entIds (s.upd up) (addNew (numbers outer.length 0) (EV.idss ws)))) (entIds (s.upd up) (addNew (addNew (numbers outer.length 0) (EV.idss ws)) (entIds (s.upd up) (addNew (numbers outer.length 0) (EV.idss ws))))) = ls0 at hret
  generalize hls' : addNew ls0 (entIds (s.upd up) ls0) = ls at hret
  have hlsub : ls.Nodup ∧ (∀ i, i < outer.length → ls[i]? = some i) ∧ ∀ j ∈ EV.idss ws, j ∈ ls := by
    have n0 : (numbers outer.length 0).Nodup := by rw [numbers_eq]; exact List.nodup_range'
    obtain ⟨a1, a2⟩ := addNew_spec (EV.idss ws) _ n0
    obtain ⟨b1, b2⟩ := addNew_spec (entIds (s.upd up) (addNew (numbers outer.length 0) (EV.idss ws))) _ a1
    obtain ⟨c1, c2⟩ := addNew_spec (entIds (s.upd up) (addNew (addNew (numbers outer.length 0) (EV.idss ws)) (entIds (s.upd up) (addNew (numbers outer.length 0) (EV.idss ws))))) _ b1
    rw [hls] at c1 c2
    obtain ⟨d1, d2⟩ := addNew_spec (entIds (s.upd up) ls0) _ c1
    rw [hls'] at d1 d2
    refine ⟨d1, fun i hi => ?_, fun j hj => (d2 j).mpr (.inl ((c2 j).mpr (.inl ((b2 j).mpr (.inl ((a2 j).mpr (.inr hj)))))))⟩
    obtain ⟨t1, e1⟩ := addNew_prefix (EV.idss ws) (numbers outer.length 0)
    obtain ⟨t2, e2⟩ := addNew_prefix (entIds (s.upd up) (addNew (numbers outer.length 0) (EV.idss ws))) (addNew (numbers outer.length 0) (EV.idss ws))
    obtain ⟨t3, e3⟩ := addNew_prefix (entIds (s.upd up) (addNew (addNew (numbers outer.length 0) (EV.idss ws)) (entIds (s.upd up) (addNew (numbers outer.length 0) (EV.idss ws))))) (addNew (addNew (numbers outer.length 0) (EV.idss ws)) (entIds (s.upd up) (addNew (numbers outer.length 0) (EV.idss ws))))
    obtain ⟨t4, e4⟩ := addNew_prefix (entIds (s.upd up) ls0) ls0
    rw [hls] at e3
    rw [hls'] at e4
    have : ls = numbers outer.length 0 ++ (t1 ++ (t2 ++ (t3 ++ t4))) := by rw [e4, e3, e2, e1]; simp
    rw [this, List.getElem?_append_left (by rw [numbers_eq]; simpa using hi), numbers_eq, List.getElem?_range' hi]
    simp
  obtain ⟨hnd, hpre, hwsl⟩ := hlsub
  split at hret
  · cases hret
  rename_i es hes
  obtain ⟨hci, hret⟩ := guardn hret
  refine ⟨_, _, _, ?_, hret⟩
  intro F L w vs0 hw0 hn hL0 hrel hvs0 hids
  rw [List.take_append_drop]
  have hvl : args.length = vs0.size := by have := hvs0.length; simpa using this
  have hinit : Rel F E.nt L { tm := slots 0 args, en := number 0 outer } { tmps := vs0 ++ Array.replicate (fn.ntmps - vs0.size) undef, defers := [] } w := by
    have hlk : ∀ i, St.look { tm := slots 0 args, en := number 0 outer } i = (St.of outer).look i := fun i => rfl
    have hoo : okOf F L { tm := slots 0 args, en := number 0 outer } = okOf F L (St.of outer) := rfl
    have hg : ∀ t, St.get { tm := slots 0 args, en := number 0 outer } t = match args[t]? with | some v => v | none => .u := by
      intro t
      have h9 : lookT (slots 0 args) t = args[t]? := by rw [slots_look]; simp
      show (match lookT (slots 0 args) t with | some v => v | none => .u) = _
      rw [h9]
    refine ⟨⟨hrel.fits, hrel.en, hrel.ids, hrel.dis, hrel.own, hrel.lent⟩, fun t => ?_, fun t j hj => ?_, rfl, by show (vs0 ++ Array.replicate (fn.ntmps - vs0.size) undef).size = E.nt; rw [Array.size_append, Array.size_replicate]; omega⟩
    · rw [hg, hoo]
      cases ha : args[t]? with
      | none => simp only [RepV]
      | some v =>
        obtain ⟨u, hu, hr⟩ := hvs0.get ha
        have : (vs0 ++ Array.replicate (fn.ntmps - vs0.size) undef).getD t undef = u := by
          have ht : t < vs0.size := by
            rcases Nat.lt_or_ge t vs0.size with h3 | h3
            · exact h3
            · rw [List.getElem?_eq_none (by simpa using h3)] at hu; cases hu
          have hu' : vs0[t]? = some u := by simpa using hu
          rw [Array.getD_eq_getD_getElem?, Array.getElem?_append_left ht, hu']; rfl
        rw [this]; exact hr
    · rw [hg] at hj
      cases ha : args[t]? with
      | none => rw [ha] at hj; simp [EV.ids] at hj
      | some v =>
        rw [ha] at hj
        have hmem : ∀ (l : List (EV G)) (t : Nat), l[t]? = some v → j ∈ EV.idss l := by
          intro l
          induction l with
          | nil => intro t h; simp at h
          | cons b l ih =>
            intro t h
            cases t with
            | zero => simp at h; subst h; simp [EV.idss, hj]
            | succ t => simp at h; simp [EV.idss, ih t h]
        have := hids j (hmem args t ha)
        rw [hlk, St.of_look, List.getElem?_eq_getElem this]; rfl
  refine calls_of_wp hf hb (wp_mono (hx F L _ w (by rw [hn, hm]) hinit) ?_)
  rintro x a' w' ⟨rfl, L', h'⟩
  have hup : UpOK s up := resVals_up hws
  obtain ⟨us, u1, u2, u3⟩ := resVars_sem h' hvs
  obtain ⟨v1, v2⟩ := resVals_sem h' hup hws (fun _ h => h) u2 u3
  obtain ⟨h2, _, _⟩ := up_rel h' hup
  have hcl : ∀ i ∈ ls, ∀ e, (s.upd up).look i = some e → ∀ j ∈ e.ids, j ∈ ls := by
    intro i hi e he j hj
    have := List.any_eq_false.mp hci j (entIds_mem he hj hi)
    simpa using this
  obtain ⟨hok, hrelE⟩ := ret_rel h2 hnd hes hcl (fun i hi => hpre i (by rw [hn] at hi; exact hi)) rfl
  have hrn : RepVs (okOf F (lentL (upL s L') ls) (St.of (es.map (Ent.rn fun i => indexOf i ls 0)))) w' (lentL (upL s L') ls) (EV.rns (fun i => indexOf i ls 0) ws) us :=
    (v1.mono (L' := upL s L') (fun b o v p q => ⟨hok b o p, q⟩) (fun _ _ => rfl)).rn (lent_turn ls _)
  have hlen : (EV.rns (fun i => indexOf i ls 0) ws).length = us.length := hrn.length
  have hidr : ∀ j ∈ EV.idss (EV.rns (fun i => indexOf i ls 0) ws), j < (es.map (Ent.rn fun i => indexOf i ls 0)).length := by
    intro j hj
    obtain ⟨i, _, hi⟩ := EV.rns_ids hj
    have := (indexOf_some hi).2
    rw [List.length_map, (looks_spec hes).1]
    rcases Nat.lt_or_ge j ls.length with h3 | h3
    · exact h3
    · simp only [Nat.sub_zero] at this; rw [List.getElem?_eq_none h3] at this; cases this
  generalize hq : EV.rns (fun i => indexOf i ls 0) ws = q at *
  have hres : ∃ v, (results fn a'.tmps).run E.P w' = .ok v w' ∧ RepV (okOf F (lentL (upL s L') ls) (St.of (es.map (Ent.rn fun i => indexOf i ls 0)))) w' (lentL (upL s L') ls) (tup q) v ∧ ∀ j ∈ (tup q).ids, j < (es.map (Ent.rn fun i => indexOf i ls 0)).length := by
    have hrun : ∀ v, (if h : us.toArray.size = 1 then us.toArray[0] else .tuple us.toArray) = v → (results fn a'.tmps).run E.P w' = .ok v w' := by
      intro v hv
      unfold results
      rw [Array.mapM_eq_mapM_toList]
      simp only [Sem.run_bind, bind_pure_comp, Sem.run_map]
      erw [u1]
      subst hv
      rfl
    by_cases h1 : us.length = 1
    · obtain ⟨u, rfl⟩ := List.length_eq_one_iff.mp h1
      obtain ⟨x, rfl⟩ := List.length_eq_one_iff.mp (by rw [hlen]; rfl : q.length = 1)
      simp only [RepVs] at hrn
      exact ⟨u, hrun u rfl, hrn.1, fun j hj => hidr j (by simpa [EV.idss, tup] using hj)⟩
    · have ht : tup q = .tp q := by
        cases q with
        | nil => rfl
        | cons x q => cases q with
          | nil => simp at hlen; omega
          | cons y q => rfl
      refine ⟨.tuple us.toArray, hrun _ (by rw [dif_neg (by simpa using h1)]), ?_, ?_⟩
      · rw [ht]; simp only [RepV]; exact ⟨_, rfl, by simpa using hrn⟩
      · rw [ht]; simpa [EV.ids] using hidr
  obtain ⟨v, r1, r2, r3⟩ := hres
  have post : a'.defers = [] ∧ ∃ v, (results fn a'.tmps).run E.P w' = .ok v w' ∧ ∃ v' L'', Ending.returned v = .returned v' ∧ RelE F L'' (St.of (es.map (Ent.rn fun i => indexOf i ls 0))) w' ∧ (∀ i, i < outer.length → L'' i = L i) ∧
      RepV (okOf F L'' (St.of (es.map (Ent.rn fun i => indexOf i ls 0)))) w' L'' (tup q) v' ∧ ∀ j ∈ (tup q).ids, j < (es.map (Ent.rn fun i => indexOf i ls 0)).length := by
    refine ⟨h'.defers, v, r1, v, _, rfl, hrelE, fun i hi => ?_, r2, r3⟩
    have := (hrelE.lent i (by rw [hn]; exact hi)).2
    rw [this, hL0]
  cases e with
  | normal => exact post
  | ret => exact post
  | exit id => exact absurd rfl (hne id)
end
end Go.Abs
end
section
set_option linter.all false
set_option linter.unusedVariables false
set_option linter.unusedSimpArgs false
set_option linter.unnecessarySimpa false
/-
  ABS, part 31: loops and functions by their values: what a printed text states.
-/
namespace Go.Abs
open Go
variable {G : Gam}

def St.vals (s : St G) : List (EV G) := s.tm.map (·.2)
def Keep.ents (kp : Keep) (s : St G) : List (Ent G) := (s.en.map (·.2)).take (kp.boxes.length + kp.rows.length)

section
variable {E : Env G}
end

def exitE {Y : Type} (m : Nat) (kx : Ex → Option Keep) (decY : Ex → List (EV G) → List (Ent G) → Option Y) (e : Ex) (s : St G) : Option Y :=
  match kx e with
  | some kp' => (match canon m kp' s with
    | some s2 => decY e s2.vals (kp'.ents s2)
    | none => none)
  | none => none
/-- What a loop's body answers. -/
def roundE {X Y : Type} (m : Nat) (kp : Keep) (kx : Ex → Option Keep) (decX : List (EV G) → List (Ent G) → Option X) (decY : Ex → List (EV G) → List (Ent G) → Option Y) (L : X → Option Y) : Ex → St G → Option Y := fun e s =>
  match e with
  | .normal => match canon m kp s with
    | some s2 => (match decX s2.vals (kp.ents s2) with | some x => L x | none => none)
    | none => none
  | e => exitE m kx decY e s

structure LoopV (E : Env G) (c : Code) (X Y : Type) where
  kp : Keep
  kx : Ex → Option Keep
  encX : X → List (EV G) × List (Ent G)
  decX : List (EV G) → List (Ent G) → Option X
  hX : ∀ vs es x, decX vs es = some x → encX x = (vs, es)
  decY : Ex → List (EV G) → List (Ent G) → Option Y
  out : (R : Type) → Y → (Ex → St G → Option R) → Option R
  hY : ∀ e vs es y kp', decY e vs es = some y → kx e = some kp' → ∀ R (k : Ex → St G → Option R), out R y k = k e (kp'.st vs es)
  L : Nat → X → Option Y
  h0 : ∀ x, L 0 x = none
  hs : ∀ n x, L (n + 1) x = exec E c (kp.st (encX x).1 (encX x).2) (roundE E.m kp kx decX decY (L n))

def LoopV.entry {E : Env G} {c : Code} {X Y : Type} (V : LoopV E c X Y) (n : Nat) : LoopT G :=
  { keep := V.kp, sem := fun R vs es k => match V.decX vs es with | some x => (V.L n x).bind fun y => V.out R y k | none => none }

theorem LoopV.ok {E : Env G} {c : Code} {X Y : Type} (hE : EnvOK E) (V : LoopV E c X Y) (hl : ∀ c' ∈ loopsIn c, ∀ key T, firstRegion c' = some key → E.loops key = some T → LoopOK E c' T) (n : Nat) : LoopOK E c (V.entry n) := by
  have key : ∀ (n : Nat) (x : X) (y : Y), V.L n x = some y → ∃ e s', (∀ R (k : Ex → St G → Option R), V.out R y k = k e s') ∧ Rounds E c V.kp n (V.kp.st (V.encX x).1 (V.encX x).2) e s' := by
    intro n
    induction n with
    | zero => intro x y h; rw [V.h0] at h; cases h
    | succ n ih =>
      intro x y h
      rw [V.hs] at h
      obtain ⟨e, s1, h, hx⟩ := exec_sound hE c hl _ _ _ h
      have exits : e ≠ .normal → exitE E.m V.kx V.decY e s1 = some y →
          ∃ e s', (∀ R (k : Ex → St G → Option R), V.out R y k = k e s') ∧ Rounds E c V.kp (n + 1) (V.kp.st (V.encX x).1 (V.encX x).2) e s' := by
        intro hne h
        unfold exitE at h
        split at h
        · rename_i kp' hk
          split at h
          · rename_i s2 hs2
            have hsh : s2 = kp'.st s2.vals (kp'.ents s2) := canon_shape hs2
            refine ⟨e, s2, fun R k => ?_, .out n _ e s2 (hx.canon hs2) hne⟩
            rw [V.hY e _ _ y kp' h hk R k, ← hsh]
          · cases h
        · cases h
      cases e with
      | normal =>
        simp only [roundE] at h
        split at h
        · rename_i s2 hs2
          split at h
          · rename_i x' hx'
            obtain ⟨e, s', q1, q2⟩ := ih x' y h
            have hsh : s2 = V.kp.st s2.vals (V.kp.ents s2) := canon_shape hs2
            have hen := V.hX _ _ _ hx'
            rw [hen] at q2
            simp only at q2
            rw [← hsh] at q2
            exact ⟨e, s', q1, .again n _ s1 s2 e s' hx hs2 q2⟩
          · cases h
        · cases h
      | exit id => exact exits (by simp) h
      | ret => exact exits (by simp) h
  intro R vs es k r h
  simp only [LoopV.entry] at h
  split at h
  · rename_i x hx
    obtain ⟨y, hy, h⟩ := bindS h
    obtain ⟨e, s', q1, q2⟩ := key n x y hy
    rw [q1] at h
    rw [V.hX _ _ _ hx] at q2
    exact ⟨e, s', h, rounds_ok q2⟩
  · cases h

/-- A function by its value. -/
structure FnV (E : Env G) (f : FuncId) (fn : Func) (md : List (List Md)) (kr : Option Keep) (X Y : Type) where
  encX : X → List (EV G) × List (Ent G)
  decX : List (EV G) → List (Ent G) → Option X
  hX : ∀ vs es x, decX vs es = some x → encX x = (vs, es)
  hm : ∀ vs es x, decX vs es = some x → es.length = E.m ∧ vs.length ≤ E.nt
  decY : EV G → List (Ent G) → List (Ent G) → Option Y
  out : Y → EV G × List (Ent G) × List (Ent G)
  hY : ∀ v l n y, decY v l n = some y → out y = (v, l, n)
  F : X → Option Y
  hF : ∀ x, F x = runE E fn md kr (encX x).1 (encX x).2 decY

def FnV.entry {E : Env G} {f : FuncId} {fn : Func} {md : List (List Md)} {kr : Option Keep} {X Y : Type} (V : FnV E f fn md kr X Y) (io : List Nat) : FnT G :=
  { inout := io, sem := fun _ args lent k => match V.decX args lent with | some x => (V.F x).bind fun y => k (V.out y).1 (V.out y).2.1 (V.out y).2.2 | none => none }

theorem FnV.ok {E : Env G} {f : FuncId} {fn : Func} {md : List (List Md)} {kr : Option Keep} {X Y : Type} (V : FnV E f fn md kr X Y) (hE : EnvOK E) {c : Code} (hf : E.P.funcs[f]? = some fn) (hname : (fn.name == "runtime.NumGoroutine") = false) (hb : fn.body = some c) (hnt : fn.ntmps = E.nt)
    (hl : ∀ c' ∈ loopsIn c, ∀ key T, firstRegion c' = some key → E.loops key = some T → LoopOK E c' T) (io : List Nat) : FnOK E.P f (V.entry io) := by
  refine ⟨⟨fn, c, hf, hname, hb⟩, fun R args lent k r h => ?_⟩
  simp only [FnV.entry] at h
  split at h
  · rename_i x hx
    obtain ⟨y, hy, h⟩ := bindS h
    rw [V.hF, V.hX _ _ _ hx] at hy
    obtain ⟨h1, h2⟩ := V.hm _ _ _ hx
    obtain ⟨res, l, n, hc, hd⟩ := runE_sound hE hf hb hnt hl h2 h1 hy
    refine ⟨res, l, n, hc, ?_⟩
    rw [V.hY _ _ _ _ hd] at h
    exact h
  · cases h
end Go.Abs
end
section
set_option linter.all false
set_option linter.unusedVariables false
set_option linter.unusedSimpArgs false
set_option linter.unnecessarySimpa false
/-
  ABS, part 32: a law's call, out of its contract.
-/
namespace Go.Abs
open Go Go.RowKit
variable {G : Gam}

theorem law_calls {P : Program} {f : FuncId} {args : List (EV G)} {vs : Array Value} {w : World} {v : EV G} (hc : Contract P f args [] v [] []) (hv : RepVs (fun _ _ => True) w (fun _ => none) args vs.toList) (hi : EV.idss args = []) {u : Value}
    (hu : ∀ (ok : Cells) (w' : World) (L : LM) (u' : Value), RepV ok w' L v u' → u' = u) : Calls P f vs w fun e w' => e = .returned u ∧ Below w.heap.size w w' := by
  let F : Frm := { w0 := w, okA := fun _ _ => True, X := fun _ _ => False, n := 0, L0 := fun _ => none }
  have hno : ∀ i, (St.of ([] : List (Ent G))).look i = none := fun i => by rw [St.of_look]; simp
  have hrel : RelE F (fun _ => none) (St.of ([] : List (Ent G))) w :=
    ⟨⟨rfl, rfl, rfl, Nat.le_refl _, fun _ _ _ => rfl, fun _ _ _ _ => rfl⟩, fun i e h => (by rw [hno] at h; cases h), fun i e h => (by rw [hno] at h; cases h), fun i j e f l m h => (by rw [hno] at h; cases h), fun i e l h => (by rw [hno] at h; cases h), fun i h => absurd h (Nat.not_lt_zero _)⟩
  have hok : ∀ b o, okOf F (fun _ => none) (St.of ([] : List (Ent G))) b o := fun b o => ⟨.inl trivial, fun ⟨i, e, l, h, _⟩ => (by rw [hno] at h; cases h)⟩
  refine (hc F (fun _ => none) w vs rfl rfl rfl hrel (hv.mono (fun b o v _ q => ⟨hok b o, q⟩) (fun _ _ => rfl)) (by rw [hi]; intro j hj; cases hj)).mono ?_
  rintro e w' ⟨u', L', rfl, h1, _, h2, _⟩
  rw [hu _ _ _ _ h2]
  exact ⟨rfl, h1.fits.os, h1.fits.tape, h1.fits.output, h1.fits.size, fun k hk => h1.fits.block k hk fun _ h => h⟩

theorem rep_bool {b : Bool} : ∀ (ok : Cells) (w' : World) (L : LM) (u' : Value), RepV ok w' L (.d .bool b : EV G) u' → u' = .bool b := by
  intro ok w' L u' h
  simp only [RepV] at h
  simpa [RepD.Inv] using h.2.inv

/-- Whole numbers in memory. -/
theorem rep_ints {k : IntKind} {zs : List Int} {A : Option Addr} {n c : Nat} {w : World} (hn : n = zs.length) (hc : n ≤ c) (hm : n = 0 ∨ ∃ b o, A = some ⟨b, o, none⟩ ∧ ∀ j, (h : j < zs.length) → w.cell? ⟨b, o + j, none⟩ = some (.int k zs[j])) :
    RepD G (fun _ _ => True) w (.sl (.int k)) (zs : List Int) [.slice A n c] := by
  subst hn
  refine RepD.sl (G := G) (.int k) (zs : List Int) A c (fun i => match zs[i]? with | some z => [.int k z] | none => []) hc (fun i hi => ?_) (fun i hi => ?_)
  · have : zs[i]? = some zs[i] := List.getElem?_eq_getElem hi
    simp only [this]
    exact .int k _
  · rcases hm with h0 | ⟨b, o, hA, hcl⟩
    · have hi' : i < zs.length := hi
      omega
    · refine ⟨b, o, hA, fun j v hj => ⟨trivial, ?_⟩⟩
      have : zs[i]? = some zs[i] := List.getElem?_eq_getElem hi
      simp only [this] at hj
      cases j with
      | zero =>
        simp at hj; subst hj
        have e : szT G (.int k) = 1 := rfl
        rw [e]
        simpa using hcl i hi
      | succ j => simp at hj
end Go.Abs
end
section
set_option linter.all false
set_option linter.unusedVariables false
set_option linter.unusedSimpArgs false
set_option linter.unnecessarySimpa false
/-
  ABS, part 33: codes: how a pure value stands for values and entries, there and back.
-/
namespace Go.Abs
open Go
variable {G : Gam}

structure Co (T A : Type) where
  enc : A → T
  dec : T → Option A
  ok : ∀ v a, dec v = some a → enc a = v

def Co.d (G : Gam) (τ : Ty) : Co (EV G) (G.D τ) where
  enc := fun x => .d τ x
  dec := fun v => match v with | .d τ' x => castD τ' τ x | _ => none
  ok := by
    intro v a h
    split at h
    · rename_i τ' x
      unfold castD at h
      split at h
      · rename_i e; subst e; cases h; rfl
      · cases h
    · cases h

def toLfs : List (EV G) → Option (List (Lf G.S))
  | [] => some []
  | .d τ x :: l => match toLfs l with | some m => some (.mk τ x :: m) | none => none
  | _ => none
theorem toLfs_ok : ∀ (l : List (EV G)) (m : List (Lf G.S)), toLfs l = some m → m.map lfEV = l := by
  intro l
  induction l with
  | nil => intro m h; simp only [toLfs] at h; cases h; rfl
  | cons v l ih =>
    intro m h
    unfold toLfs at h
    split at h
    · rename_i heq; cases heq
    · rename_i τ x l' heq
      cases heq
      split at h
      · rename_i m' hm'
        cases h
        simp only [List.map, lfEV, ih _ hm']
      · cases h
    · cases h

def Co.st (G : Gam) (t : TypeId) : Co (EV G) (G.S t) where
  enc := fun x => .ag ((G.cells t x).map lfEV)
  dec := fun v => match v with | .ag l => (match toLfs l with | some m => G.coll t m | none => none) | _ => none
  ok := by
    intro v a h
    split at h
    · split at h
      · rename_i l m hm
        rw [G.law _ _ _ h, toLfs_ok _ _ hm]
      · cases h
    · cases h

def Co.ow (G : Gam) (i : Nat) : Co (EV G) Unit where
  enc := fun _ => .ow i
  dec := fun v => match v with | .ow j => (match Nat.beq j i with | true => some () | false => none) | _ => none
  ok := by
    intro v a h
    split at h
    · split at h
      · rename_i j hj; rw [Nat.eq_of_beq_eq_true hj]
      · cases h
    · cases h
def Co.ptr (G : Gam) (i off : Nat) : Co (EV G) Unit where
  enc := fun _ => .ptr i off
  dec := fun v => match v with | .ptr j o => (match Nat.beq j i, Nat.beq o off with | true, true => some () | _, _ => none) | _ => none
  ok := by
    intro v a h
    split at h
    · split at h
      · rename_i j o _ _ hj ho; rw [Nat.eq_of_beq_eq_true hj, Nat.eq_of_beq_eq_true ho]
      · cases h
    · cases h
def Co.nl (G : Gam) : Co (EV G) Unit where
  enc := fun _ => .nl
  dec := fun v => match v with | .nl => some () | _ => none
  ok := by
    intro v a h
    split at h
    · rfl
    · cases h
def Co.un (G : Gam) : Co (EV G) Unit where
  enc := fun _ => .un
  dec := fun v => match v with | .un => some () | _ => none
  ok := by
    intro v a h
    split at h
    · rfl
    · cases h
def Co.nilF (G : Gam) : Co (EV G) Unit where
  enc := fun _ => .c .nilFunc
  dec := fun v => match v with | .c .nilFunc => some () | _ => none
  ok := by
    intro v a h
    split at h
    · rfl
    · cases h
def Co.nilP (G : Gam) : Co (EV G) Unit where
  enc := fun _ => .c (.pointer none)
  dec := fun v => match v with | .c (.pointer none) => some () | _ => none
  ok := by
    intro v a h
    split at h
    · rfl
    · cases h
def Co.rp (G : Gam) (τ : Ty) (off : Nat) : Co (EV G) (G.D τ) where
  enc := fun x => .rp τ x off
  dec := fun v => match v with | .rp τ' x o => (match Nat.beq o off with | true => castD τ' τ x | false => none) | _ => none
  ok := by
    intro v a h
    split at h
    · rename_i τ' x o
      split at h
      · rename_i ho
        rw [← Nat.eq_of_beq_eq_true ho]
        unfold castD at h
        split at h
        · rename_i e; subst e; cases h; rfl
        · cases h
      · cases h
    · cases h
def Co.fn {A : Type} (f : FuncId) (cs : Co (List (EV G)) A) : Co (EV G) A where
  enc := fun x => .fn f (cs.enc x)
  dec := fun v => match v with | .fn g l => (match Nat.beq g f with | true => cs.dec l | false => none) | _ => none
  ok := by
    intro v a h
    split at h
    · split at h
      · rename_i hf; rw [Nat.eq_of_beq_eq_true hf, cs.ok _ _ h]
      · cases h
    · cases h
def Co.ag {A : Type} (cs : Co (List (EV G)) A) : Co (EV G) A where
  enc := fun x => .ag (cs.enc x)
  dec := fun v => match v with | .ag l => cs.dec l | _ => none
  ok := by
    intro v a h
    split at h
    · rw [cs.ok _ _ h]
    · cases h
def Co.tp {A : Type} (cs : Co (List (EV G)) A) : Co (EV G) A where
  enc := fun x => .tp (cs.enc x)
  dec := fun v => match v with | .tp l => cs.dec l | _ => none
  ok := by
    intro v a h
    split at h
    · rw [cs.ok _ _ h]
    · cases h
def Co.nil (T : Type) : Co (List T) Unit where
  enc := fun _ => []
  dec := fun v => match v with | [] => some () | _ => none
  ok := by
    intro v a h
    split at h
    · rfl
    · cases h
def Co.cons {T A B : Type} (c : Co T A) (d : Co (List T) B) : Co (List T) (A × B) where
  enc := fun x => c.enc x.1 :: d.enc x.2
  dec := fun v => match v with | x :: l => (match c.dec x with | some a => (match d.dec l with | some b => some (a, b) | none => none) | none => none) | _ => none
  ok := by
    intro v a h
    split at h
    · split at h
      · rename_i ha
        split at h
        · rename_i hb; cases h; rw [c.ok _ _ ha, d.ok _ _ hb]
        · cases h
      · cases h
    · cases h
def Co.consL {T A : Type} (c : Co T A) (d : Co (List T) Unit) : Co (List T) A where
  enc := fun x => c.enc x :: d.enc ()
  dec := fun v => match v with | x :: l => (match c.dec x with | some a => (match d.dec l with | some _ => some a | none => none) | none => none) | _ => none
  ok := by
    intro v a h
    split at h
    · split at h
      · rename_i ha
        split at h
        · rename_i hb; cases h; rw [c.ok _ _ ha, ← d.ok _ _ hb]
        · cases h
      · cases h
    · cases h
def Co.consU {T B : Type} (c : Co T Unit) (d : Co (List T) B) : Co (List T) B where
  enc := fun x => c.enc () :: d.enc x
  dec := fun v => match v with | x :: l => (match c.dec x with | some _ => (match d.dec l with | some b => some b | none => none) | none => none) | _ => none
  ok := by
    intro v a h
    split at h
    · split at h
      · rename_i ha
        split at h
        · rename_i hb; cases h; rw [← c.ok _ _ ha, d.ok _ _ hb]
        · cases h
      · cases h
    · cases h
def Co.pair {T U A B : Type} (c : Co T A) (d : Co U B) : Co (T × U) (A × B) where
  enc := fun x => (c.enc x.1, d.enc x.2)
  dec := fun v => match c.dec v.1 with | some a => (match d.dec v.2 with | some b => some (a, b) | none => none) | none => none
  ok := by
    intro v a h
    split at h
    · rename_i ha
      split at h
      · rename_i hb; cases h; rw [c.ok _ _ ha, d.ok _ _ hb]
      · cases h
    · cases h
def Co.pairL {T U A : Type} (c : Co T A) (d : Co U Unit) : Co (T × U) A where
  enc := fun x => (c.enc x, d.enc ())
  dec := fun v => match c.dec v.1 with | some a => (match d.dec v.2 with | some _ => some a | none => none) | none => none
  ok := by
    intro v a h
    split at h
    · rename_i ha
      split at h
      · rename_i hb; cases h; have q := d.ok _ _ hb; rw [c.ok _ _ ha]; exact congrArg (Prod.mk v.1) q
      · cases h
    · cases h
def Co.pairU {T U B : Type} (c : Co T Unit) (d : Co U B) : Co (T × U) B where
  enc := fun x => (c.enc (), d.enc x)
  dec := fun v => match c.dec v.1 with | some _ => (match d.dec v.2 with | some b => some b | none => none) | none => none
  ok := by
    intro v a h
    split at h
    · rename_i ha
      split at h
      · rename_i hb; cases h; have q := c.ok _ _ ha; rw [d.ok _ _ hb]; exact congrArg (fun z => (z, v.2)) q
      · cases h
    · cases h
def Co.box {A : Type} (cs : Co (List (EV G)) A) : Co (Ent G) A where
  enc := fun x => .box (cs.enc x)
  dec := fun v => match v with | .box l => cs.dec l | _ => none
  ok := by
    intro v a h
    split at h
    · rw [cs.ok _ _ h]
    · cases h
def Co.row (G : Gam) (e : Ty) (lock : Nat) : Co (Ent G) (List (G.D e)) where
  enc := fun x => .row e x lock
  dec := fun v => match v with | .row e' xs lk => (match Nat.beq lk lock with | true => castD (S := G.S) (.sl e') (.sl e) xs | false => none) | _ => none
  ok := by
    intro v a h
    split at h
    · rename_i e' x o
      split at h
      · rename_i ho
        rw [← Nat.eq_of_beq_eq_true ho]
        unfold castD at h
        split at h
        · rename_i e; cases e; cases h; rfl
        · cases h
      · cases h
    · cases h
def Co.rowN (G : Gam) (e : Ty) : Co (Ent G) (List (G.D e) × Nat) where
  enc := fun x => .row e x.1 x.2
  dec := fun v => match v with | .row e' xs lk => (match castD (S := G.S) (.sl e') (.sl e) xs with | some y => some (y, lk) | none => none) | _ => none
  ok := by
    intro v a h
    cases v with
    | row e' x lk =>
      simp only at h
      split at h
      · rename_i y hy
        unfold castD at hy
        split at hy
        · rename_i q; cases q; cases hy; cases h; rfl
        · cases hy
      · cases h
    | _ => cases h
def Co.vw (G : Gam) (i : Nat) : Co (EV G) (Nat × Nat) where
  enc := fun x => .vw i x.1 x.2
  dec := fun v => match v with | .vw j lo n => (match Nat.beq j i with | true => some (lo, n) | false => none) | _ => none
  ok := by
    intro v a h
    split at h
    · split at h
      · rename_i j lo n hj; cases h; rw [Nat.eq_of_beq_eq_true hj]
      · cases h
    · cases h
def Co.ept (G : Gam) (i off : Nat) : Co (EV G) Nat where
  enc := fun x => .ept i x off
  dec := fun v => match v with | .ept j x o => (match Nat.beq j i, Nat.beq o off with | true, true => some x | _, _ => none) | _ => none
  ok := by
    intro v a h
    split at h
    · split at h
      · rename_i j x o _ _ hj ho; cases h; rw [Nat.eq_of_beq_eq_true hj, Nat.eq_of_beq_eq_true ho]
      · cases h
    · cases h
def Co.fz (G : Gam) (e : Ty) : Co (Ent G) (List (G.D e)) where
  enc := fun x => .fz e x
  dec := fun v => match v with | .fz e' xs => castD (S := G.S) (.sl e') (.sl e) xs | _ => none
  ok := by
    intro v a h
    cases v with
    | fz e' x =>
      simp only at h
      unfold castD at h
      split at h
      · rename_i q; cases q; cases h; rfl
      · cases h
    | _ => cases h
def Co.tomb (G : Gam) : Co (Ent G) Unit where
  enc := fun _ => .tomb
  dec := fun v => match v with | .tomb => some () | _ => none
  ok := by
    intro v a h
    split at h
    · rfl
    · cases h

/-- The ways out of a loop. -/
structure Xc (G : Gam) (Y : Type) where
  kx : Ex → Option Keep
  dec : Ex → List (EV G) → List (Ent G) → Option Y
  out : (R : Type) → Y → (Ex → St G → Option R) → Option R
  ok : ∀ e vs es y kp', dec e vs es = some y → kx e = some kp' → ∀ R (k : Ex → St G → Option R), out R y k = k e (kp'.st vs es)
def Ex.is : Ex → Ex → Bool
  | .exit i, .exit j => Nat.beq i j
  | .ret, .ret => true
  | _, _ => false
theorem Ex.is_eq {a b : Ex} (h : a.is b = true) : a = b := by
  cases a <;> cases b <;> simp only [Ex.is] at h <;> first | rfl | (cases h; done) | (rw [Nat.eq_of_beq_eq_true h])
def Xc.one {A : Type} (x : Ex) (kp : Keep) (c : Co (List (EV G) × List (Ent G)) A) : Xc G A where
  kx := fun e => match e.is x with | true => some kp | false => none
  dec := fun e vs es => match e.is x with | true => c.dec (vs, es) | false => none
  out := fun _ y k => k x (kp.st (c.enc y).1 (c.enc y).2)
  ok := by
    intro e vs es y kp' h hk R k
    split at h
    · rename_i he
      rw [he] at hk
      cases hk
      rw [c.ok _ _ h, Ex.is_eq he]
    · cases h
def Xc.or {A B : Type} (a : Xc G A) (b : Xc G B) : Xc G (A ⊕ B) where
  kx := fun e => match a.kx e with | some kp => some kp | none => b.kx e
  dec := fun e vs es => match a.kx e with
    | some _ => (match a.dec e vs es with | some y => some (.inl y) | none => none)
    | none => (match b.dec e vs es with | some y => some (.inr y) | none => none)
  out := fun R y k => match y with | .inl y => a.out R y k | .inr y => b.out R y k
  ok := by
    intro e vs es y kp' h hk R k
    split at h
    · rename_i kp ha
      rw [ha] at hk
      cases hk
      split at h
      · rename_i y' hy'; cases h; exact a.ok _ _ _ _ _ hy' ha R k
      · cases h
    · rename_i ha
      rw [ha] at hk
      split at h
      · rename_i y' hy'; cases h; exact b.ok _ _ _ _ _ hy' hk R k
      · cases h

/-- A function's entry, by codes. -/
def fnT {X Y : Type} (io : List Nat) (c : Co (List (EV G) × List (Ent G)) X) (r : Co (EV G × List (Ent G) × List (Ent G)) Y) (F : X → Option Y) : FnT G :=
  { inout := io, sem := fun _ args lent k => match c.dec (args, lent) with | some x => (F x).bind fun y => k (r.enc y).1 (r.enc y).2.1 (r.enc y).2.2 | none => none }
def loopT {X Y : Type} (kp : Keep) (c : Co (List (EV G) × List (Ent G)) X) (xc : Xc G Y) (L : X → Option Y) : LoopT G :=
  { keep := kp, sem := fun R vs es k => match c.dec (vs, es) with | some x => (L x).bind fun y => xc.out R y k | none => none }
/-- A loop by its steps. -/
def iter {X Y : Type} (S : (X → Option Y) → X → Option Y) : Nat → X → Option Y
  | 0, _ => none
  | n + 1, x => S (iter S n) x

/-- One struct type of a seat. -/
structure SE (S : TypeId → Type) (A : Type) where
  lv : List Ty
  cells : A → List (Lf S)
  coll : List (Lf S) → Option A
  law : ∀ l x, coll l = some x → cells x = l
  tys : ∀ x, (cells x).map (fun | .mk τ _ => τ) = lv
  flat : ∀ τ, τ ∈ lv → τ.leaf = true
def SE.none {S : TypeId → Type} (A : Type) : SE S A where
  lv := []
  cells := fun _ => []
  coll := fun _ => .none
  law := by intro l x h; cases h
  tys := by intros; rfl
  flat := by intro τ h; cases h
def Gam.of (S : TypeId → Type) (e : (t : TypeId) → SE S (S t)) : Gam where
  S := S
  lv := fun t => (e t).lv
  cells := fun t => (e t).cells
  coll := fun t => (e t).coll
  law := fun t => (e t).law
  tys := fun t => (e t).tys
  flat := fun t => (e t).flat

def lookU.{u} {α : Type u} : List (Nat × α) → Nat → Option α
  | [], _ => none
  | (i, v) :: r, j => bif Nat.beq i j then some v else lookU r j
end Go.Abs
end
section
set_option linter.all false
set_option linter.unusedVariables false
set_option linter.unusedSimpArgs false
set_option linter.unnecessarySimpa false
/-
  ABS, part 34: functions and loops by their codes.
-/
namespace Go.Abs
open Go
variable {G : Gam}

/-- What the code of a function answers, by codes. -/
noncomputable def fnE {X Y : Type} (E : Env G) (fn : Func) (md : List (List Md)) (kr : Option Keep) (c : Co (List (EV G) × List (Ent G)) X) (r : Co (EV G × List (Ent G) × List (Ent G)) Y) (x : X) : Option Y :=
  runE E fn md kr (c.enc x).1 (c.enc x).2 fun v l n => r.dec (v, l, n)
/-- What a round of a loop answers, by codes. -/
noncomputable def loopE {X Y : Type} (E : Env G) (b : Code) (kp : Keep) (c : Co (List (EV G) × List (Ent G)) X) (xc : Xc G Y) (L : X → Option Y) (x : X) : Option Y :=
  exec E b (kp.st (c.enc x).1 (c.enc x).2) (roundE E.m kp xc.kx (fun vs es => c.dec (vs, es)) xc.dec L)

def LoopsOK (E : Env G) (c : Code) : Prop := ∀ c' ∈ loopsIn c, ∀ key T, firstRegion c' = some key → E.loops key = some T → LoopOK E c' T

theorem fnT_ok {X Y : Type} {io : List Nat} {c : Co (List (EV G) × List (Ent G)) X} {r : Co (EV G × List (Ent G) × List (Ent G)) Y} {F : X → Option Y}
    {E : Env G} (hE : EnvOK E) {f : FuncId} {fn : Func} {md : List (List Md)} {kr : Option Keep} (hf : E.P.funcs[f]? = some fn) (hname : (fn.name == "runtime.NumGoroutine") = false) (hnt : fn.ntmps = E.nt) {b : Code} (hb : fn.body = some b)
    (hm : ∀ x, (Nat.beq (c.enc x).2.length E.m && Nat.ble (c.enc x).1.length E.nt) = true) (hl : LoopsOK E b) (hF : ∀ x, F x = fnE E fn md kr c r x) : FnOK E.P f (fnT io c r F) := by
  let V : FnV E f fn md kr X Y :=
    { encX := c.enc, decX := fun vs es => c.dec (vs, es), hX := fun vs es x h => c.ok _ _ h
      hm := fun vs es x h => by
        have q := hm x
        rw [c.ok _ _ h] at q
        simp only [Bool.and_eq_true] at q
        exact ⟨Nat.eq_of_beq_eq_true q.1, Nat.le_of_ble_eq_true q.2⟩
      decY := fun v l n => r.dec (v, l, n), out := r.enc, hY := fun v l n y h => r.ok _ _ h
      F := F, hF := hF }
  exact V.ok hE hf hname hb hnt hl io

theorem loopT_ok {X Y : Type} {kp : Keep} {c : Co (List (EV G) × List (Ent G)) X} {xc : Xc G Y} {S : (X → Option Y) → X → Option Y}
    {E : Env G} (hE : EnvOK E) {b : Code} (hl : LoopsOK E b) (hs : ∀ L x, S L x = loopE E b kp c xc L x) (n : Nat) : LoopOK E b (loopT kp c xc (iter S n)) := by
  let V : LoopV E b X Y :=
    { kp := kp, kx := xc.kx, encX := c.enc, decX := fun vs es => c.dec (vs, es), hX := fun vs es x h => c.ok _ _ h
      decY := xc.dec, out := xc.out, hY := xc.ok
      L := iter S, h0 := fun x => rfl, hs := fun n x => hs (iter S n) x }
  exact V.ok hE hl n

/-- A contract, out of the pure answer. -/
theorem fnT_contract {X Y : Type} {io : List Nat} {c : Co (List (EV G) × List (Ent G)) X} {r : Co (EV G × List (Ent G) × List (Ent G)) Y} {F : X → Option Y} {P : Program} {f : FuncId}
    (h : FnOK P f (fnT io c r F)) {x : X} {y : Y} (hy : F x = some y) (hd : c.dec (c.enc x) = some x) : Contract P f (c.enc x).1 (c.enc x).2 (r.enc y).1 (r.enc y).2.1 (r.enc y).2.2 := by
  obtain ⟨res, l, n, h1, h2⟩ := h.sem (EV G × List (Ent G) × List (Ent G)) (c.enc x).1 (c.enc x).2 (fun v l n => some (v, l, n)) (r.enc y) (by
    simp only [fnT]
    rw [hd]
    simp only
    rw [hy]
    rfl)
  have h2 := Option.some.inj h2
  rw [← h2]
  exact h1
end Go.Abs
end
section
set_option linter.all false
set_option linter.unusedVariables false
set_option linter.unusedSimpArgs false
set_option linter.unnecessarySimpa false
/-
  ABS, part 35: the tables of an environment, one by one.
-/
namespace Go.Abs
open Go
variable {G : Gam}

def AllF (P : Program) : List (Nat × FnT G) → Prop
  | [] => True
  | p :: r => FnOK P p.1 p.2 ∧ AllF P r
theorem lookU_in.{u} {α : Type u} {l : List (Nat × α)} {i : Nat} {v : α} (h : lookU l i = some v) : (i, v) ∈ l := by
  induction l with
  | nil => simp only [lookU] at h; cases h
  | cons p l ih =>
    obtain ⟨j, u⟩ := p
    simp only [lookU] at h
    cases q : Nat.beq j i with
    | true =>
      rw [q] at h
      cases h
      rw [Nat.eq_of_beq_eq_true q]
      exact List.mem_cons_self
    | false =>
      rw [q] at h
      exact List.mem_cons_of_mem _ (ih h)
theorem AllF.mem {P : Program} : ∀ {l : List (Nat × FnT G)}, AllF P l → ∀ p ∈ l, FnOK P p.1 p.2
  | p :: r, h, q, hq => by
    rcases List.mem_cons.mp hq with rfl | hq
    · exact h.1
    · exact AllF.mem h.2 q hq
theorem EnvOK.of {E : Env G} (l : List (Nat × FnT G)) (hl : E.fns = lookU l) (h : AllF E.P l) (he : ∀ t ∈ E.eqs, EqOK E.P t) (hm : E.P.follows .mixedOrders = true) : EnvOK E :=
  ⟨fun f T hf => by
    rw [hl] at hf
    exact h.mem _ (lookU_in hf), he, hm⟩
def AllL (E : Env G) : List (Code × Nat × LoopT G) → Prop
  | [] => True
  | p :: r => firstRegion p.1 = some p.2.1 ∧ E.loops p.2.1 = some p.2.2 ∧ LoopOK E p.1 p.2.2 ∧ AllL E r
theorem AllL.mem {E : Env G} : ∀ {l : List (Code × Nat × LoopT G)}, AllL E l → ∀ p ∈ l, firstRegion p.1 = some p.2.1 ∧ E.loops p.2.1 = some p.2.2 ∧ LoopOK E p.1 p.2.2
  | p :: r, h, q, hq => by
    rcases List.mem_cons.mp hq with rfl | hq
    · exact ⟨h.1, h.2.1, h.2.2.1⟩
    · exact AllL.mem h.2.2.2 q hq
theorem LoopsOK.of {E : Env G} {c : Code} (l : List (Code × Nat × LoopT G)) (hl : loopsIn c = l.map (·.1)) (h : AllL E l) : LoopsOK E c := by
  intro c' hc key T hk hT
  rw [hl] at hc
  obtain ⟨p, hp, rfl⟩ := List.mem_map.mp hc
  obtain ⟨h1, h2, h3⟩ := h.mem p hp
  rw [h1] at hk
  cases hk
  rw [h2] at hT
  cases hT
  exact h3
end Go.Abs
end
section
set_option linter.all false
set_option linter.unusedVariables false
set_option linter.unusedSimpArgs false
set_option linter.unnecessarySimpa false
/-
  ABS, part 36: arguments of laws, out of their readings.
-/
namespace Go.Abs
open Go Go.RowKit
variable {G : Gam}

theorem rep_row {k : IntKind} {zs : List Int} {x : Addr} {len cap : Nat} {w : World} (hl : len ≤ cap) (hz : zs.length = cap) (hcell : ∀ i, i < zs.length → w.cell? (x.add i) = some (.int k (zs.getD i 0))) :
    RepD G (fun _ _ => True) w (.sl (.int k)) (zs.take len : List Int) [.slice (some x) len cap] := by
  have hn : len = (zs.take len).length := by rw [List.length_take]; omega
  refine rep_ints hn hl ?_
  rcases Nat.eq_zero_or_pos len with h0 | h0
  · exact .inl h0
  · right
    have hsp : x.spot = none := by
      have h1 := hcell 0 (by omega)
      simp only [Addr.add, if_true] at h1
      unfold World.cell? at h1
      split at h1
      · split at h1
        · cases h1
        · rename_i h2; simpa using h2
      · cases h1
    refine ⟨x.block, x.off, ?_, fun j h => ?_⟩
    · cases x; simp only at hsp; subst hsp; rfl
    · have hj : j < zs.length := by rw [List.length_take] at h; omega
      have h1 := hcell j hj
      have e1 : x.add j = ⟨x.block, x.off + j, none⟩ := by
        unfold Addr.add
        split
        · rename_i h2; subst h2; cases x; simp only at hsp; subst hsp; rfl
        · rfl
      rw [e1] at h1
      rw [h1]
      congr 2
      rw [List.getElem_take]
      simp [List.getD_eq_getElem?_getD, hj]
end Go.Abs
end
