/- An evaluator of the model over pure data, and that its answers are those of the code; part 2. No conditions. -/
import Derived.Deep.Upon
import Derived.Conc.MuLone
import Derived.Test.YtdibclnfnkjncaaLibA
section
set_option linter.all false
set_option linter.unusedVariables false
set_option linter.unusedSimpArgs false
set_option linter.unnecessarySimpa false
/-
  ABS, part 14: parts of slices and strings; numbers; append.
-/
namespace Go.Abs
open Go
variable {G : Gam}

section
variable {P : Program} {F : Frm} {nt : Nat} {L : LM} {s : St G} {a : Act} {w : World}

/-! ### x[l:h] -/
def loN (l : Option Int) : Nat := match l with | some l => l.toNat | none => 0
def hiN (h : Option Int) (n : Nat) : Nat := match h with | some h => h.toNat | none => n

theorem boundsE_nat {n : Nat} {l h : Option Int} (hb : boundsE n l h = true) : loN l ≤ hiN h n ∧ hiN h n ≤ n ∧ (∀ x, l = some x → 0 ≤ x) ∧ (∀ x, h = some x → 0 ≤ x) := by
  cases l with
  | none =>
    cases h with
    | none => simp [loN, hiN]
    | some h =>
      simp only [boundsE] at hb
      obtain ⟨h1, h2⟩ := band hb
      have h1 := of_decide_eq_true h1
      have h2 := of_decide_eq_true h2
      refine ⟨Nat.zero_le _, by simp only [hiN]; omega, by simp, by intro x hx; cases hx; exact h1⟩
  | some l =>
    cases h with
    | none =>
      simp only [boundsE] at hb
      obtain ⟨h1, h2⟩ := band hb
      have h1 := of_decide_eq_true h1
      have h2 := of_decide_eq_true h2
      refine ⟨by simp only [loN, hiN]; omega, Nat.le_refl _, by intro x hx; cases hx; exact h1, by simp⟩
    | some h =>
      simp only [boundsE] at hb
      obtain ⟨h1, h3⟩ := band hb
      obtain ⟨h1, h2⟩ := band h1
      have h1 := of_decide_eq_true h1
      have h2 := of_decide_eq_true h2
      have h3 := of_decide_eq_true h3
      refine ⟨by simp only [loN, hiN]; omega, by simp only [hiN]; omega, by intro x hx; cases hx; exact h1, by intro x hx; cases hx; omega⟩
theorem sliceD_eq {α : Type} {xs : List α} {l h : Option Int} (hb : boundsE xs.length l h = true) : sliceD xs l h = (xs.drop (loN l)).take (hiN h xs.length - loN l) := by
  obtain ⟨h1, h2, _, _⟩ := boundsE_nat hb
  cases l <;> cases h <;> simp only [sliceD, loN, hiN]
  · simp
  · simp
  · rw [List.take_of_length_le (by simp)]

theorem intOp_sem (h : Rel F nt L s a w) {x : Option Operand} {r : Option Int} (hi : intOp s x = some r) : x.map a.eval = r.map fun n => .int .i64 n := by
  cases x with
  | none => simp only [intOp] at hi; cases hi; rfl
  | some x =>
    simp only [intOp] at hi
    split at hi
    · rename_i n hx; cases hi; rw [Option.map_some, h.int hx]; rfl
    · cases hi

theorem sliceBounds_run {isS : Bool} {len cap : Nat} {l h : Option Int} (hb : boundsE len l h = true) (hc : len ≤ cap) :
    (Instr.sliceBounds isS len cap (l.map fun n => .int .i64 n) (h.map fun n => .int .i64 n) none).run P w = .ok (loN l, hiN h len, cap) w := by
  obtain ⟨h1, h2, h3, h4⟩ := boundsE_nat hb
  cases l with
  | none =>
    cases h with
    | none => simp [Instr.sliceBounds, loN, hiN]
    | some h =>
      have := h4 h rfl
      simp only [hiN, loN] at h1 h2 ⊢
      simp [Instr.sliceBounds, Instr.sliceBound, asIntOf, this, show h ≤ (cap : Int) by omega]
  | some l =>
    have hl := h3 l rfl
    cases h with
    | none =>
      simp only [hiN, loN] at h1 h2 ⊢
      simp [Instr.sliceBounds, Instr.sliceBound, asIntOf, hl, show l ≤ (len : Int) by omega]
    | some h =>
      have := h4 h rfl
      simp only [hiN, loN] at h1 h2 ⊢
      have e1 : l ≤ h := by omega
      have e2 : max h 0 = h := by omega
      simp [Instr.sliceBounds, Instr.sliceBound, asIntOf, hl, this, e2, show h ≤ (cap : Int) by omega]
      omega

theorem slice_run {t et z : Nat} (hu : P.underlying t = some (.slice et)) (hz : sizeT P et = some z) {A : Option Addr} {n c : Nat} {l h : Option Int} (hb : boundsE n l h = true) (hc : n ≤ c) :
    (Instr.sliceAt t (.slice A n c) (l.map fun n => .int .i64 n) (h.map fun n => .int .i64 n) none).run P w =
      .ok (.slice (if c = loN l then A else A.map (·.add (loN l * z))) (hiN h n - loN l) (c - loN l)) w := by
  simp [Instr.sliceAt, Instr.slice, run_underlying hu, sliceBounds_run hb hc, sizeT_run hz]

theorem sliceData_ok {o : Oper} {t et : Nat} {x : Operand} {lo hi : Option Operand} {l h : Option Int} {e : Ty} {xs : List (G.D e)} {s0 : St G} (hd : ∀ t, o.dst = some t → t < nt) (ho : o.op = .slice t x lo hi none) (hu : P.underlying t = some (.slice et))
    (hz : sizeT P et = some (szT G e)) (hx : s0.ev x = .d (.sl e) xs) (hlo : intOp s0 lo = some l) (hhi : intOp s0 hi = some h) (hb : boundsE xs.length l h = true) : OpOK P nt o s0.ev [] s0.look (.d (.sl e) (sliceD xs l h)) [] := by
  intro F L s a w hr hev hlk
  have hxs : s.ev x = .d (.sl e) xs := by rw [hev x (by simp [ho, Op.operands]), hx]
  have hl' : intOp s lo = some l := by
    rw [← hlo]; cases lo with
    | none => rfl
    | some q => simp only [intOp]; rw [hev q (by simp [ho, Op.operands])]
  have hh' : intOp s hi = some h := by
    rw [← hhi]; cases hi with
    | none => rfl
    | some q => simp only [intOp]; rw [hev q (by simp [ho, Op.operands])]
  have hxv := hr.ev x
  rw [hxs] at hxv
  simp only [RepV] at hxv
  obtain ⟨A, c, css, hcs, hc, hA0, hel, hm⟩ := hxv.2.inv
  have hav : a.eval x = .slice A xs.length c := by simpa using hcs
  obtain ⟨h1, h2, _, _⟩ := boundsE_nat hb
  refine wp_value (u := .slice (if c = loN l then A else A.map (·.add (loN l * szT G e))) (hiN h xs.length - loN l) (c - loN l)) (w' := w) ?_ (hr.fin hd ?_ (by simp [EV.ids]))
  · simp only [execOp, ho, hav, intOp_sem hr hl', intOp_sem hr hh', Option.map_none]
    rw [Sem.run_bind, slice_run hu hz hb hc]; rfl
  · simp only [RepV]
    refine ⟨rfl, ?_⟩
    rw [sliceD_eq hb]
    have hlen : ((xs.drop (loN l)).take (hiN h xs.length - loN l)).length = hiN h xs.length - loN l := by simp; omega
    have := RepD.sl (G := G) (ok := okOf F L s) (w := w) e ((xs.drop (loN l)).take (hiN h xs.length - loN l)) (if c = loN l then A else A.map (·.add (loN l * szT G e))) (c - loN l) (fun i => css (loN l + i)) (by omega) (by
        split
        · left; omega
        · rcases hA0 with h0 | ⟨q, h0⟩
          · left; omega
          · right; rw [h0]; exact ⟨_, rfl⟩)
      (fun i hi => by
        have e0 : ((xs.drop (loN l)).take (hiN h xs.length - loN l))[i] = xs[loN l + i]'(by omega) := by simp
        rw [e0]; exact hel _ _)
      (fun i hi => by
        rw [hlen] at hi
        obtain ⟨b, q, hA, hcell⟩ := hm (loN l + i) (by omega)
        refine ⟨b, q + loN l * szT G e, ?_, fun j v hj => ?_⟩
        · rw [if_neg (by omega), hA]; simp [Addr.add_mid]
        · have := hcell j v hj
          have e1 : q + loN l * szT G e + (i * szT G e + j) = q + ((loN l + i) * szT G e + j) := by rw [Nat.add_mul]; omega
          rw [e1]; exact this)
    rw [hlen] at this
    exact this

theorem sliceOwn_ok {o : Oper} {t et : Nat} {x : Operand} {lo hi : Option Operand} {l h : Option Int} {e : Ty} {xs : List (G.D e)} {lock id b n : Nat} {s0 : St G} (hd : ∀ t, o.dst = some t → t < nt) (ho : o.op = .slice t x lo hi none) (hu : P.underlying t = some (.slice et))
    (hz : sizeT P et = some (szT G e)) (hrow : s0.look id = some (.row e xs lock)) (hx : (s0.ev x = .ow id ∧ b = 0 ∧ n = xs.length) ∨ s0.ev x = .vw id b n) (hlo : intOp s0 lo = some l) (hhi : intOp s0 hi = some h) (hb : boundsE n l h = true) :
    OpOK P nt o s0.ev [id] s0.look (.vw id (b + loN l) (hiN h n - loN l)) [] := by
  intro F L s a w hr hev hlk
  have hxe : s.ev x = s0.ev x := hev x (by simp [ho, Op.operands])
  have hbk : s.look id = some (.row e xs lock) := by rw [hlk id (by simp), hrow]
  have hl' : intOp s lo = some l := by
    rw [← hlo]; cases lo with
    | none => rfl
    | some q => simp only [intOp]; rw [hev q (by simp [ho, Op.operands])]
  have hh' : intOp s hi = some h := by
    rw [← hhi]; cases hi with
    | none => rfl
    | some q => simp only [intOp]; rw [hev q (by simp [ho, Op.operands])]
  have hxv := hr.ev x
  rw [hxe] at hxv
  have hre := hr.e.en id _ hbk
  simp only [RepE] at hre
  obtain ⟨h1, h2, _, _⟩ := boundsE_nat hb
  have key : ∃ A c, a.eval x = .slice A n c ∧ n ≤ c ∧ match L id with
      | none => b = 0 ∧ n = 0 ∧ c = 0
      | some l => b + n ≤ l.len ∧ b + c ≤ l.cap ∧ (c = 0 ∨ A = some ⟨l.b, l.off + b * l.sz, none⟩) := by
    rcases hx with ⟨hx, rfl, rfl⟩ | hx
    · rw [hx] at hxv
      simp only [RepV] at hxv
      cases hl : L id with
      | none => simp only [hl] at hxv hre ⊢; obtain ⟨A, ha⟩ := hxv; rw [hre.2]; exact ⟨A, 0, ha, Nat.le_refl _, by first | trivial | rfl, by first | trivial | rfl, by first | trivial | rfl⟩
      | some l =>
        simp only [hl] at hxv hre ⊢
        obtain ⟨A, c, ha, p1, p2, p3⟩ := hxv
        rw [hre.2.2.1] at ha p1
        exact ⟨A, c, ha, p1, by have := hre.2.2.1; omega, by omega, by simpa using p3⟩
    · rw [hx] at hxv
      simp only [RepV] at hxv
      cases hl : L id with
      | none => simp only [hl] at hxv ⊢; obtain ⟨A, ha, p1, p2⟩ := hxv; subst p1; subst p2; exact ⟨A, 0, ha, Nat.le_refl _, rfl, rfl, rfl⟩
      | some l => simp only [hl] at hxv ⊢; obtain ⟨A, c, ha, p1, p2, p3, p4⟩ := hxv; exact ⟨A, c, ha, p1, p2, p3, p4⟩
  obtain ⟨A, c, hav, hnc, hm⟩ := key
  refine wp_value (u := .slice (if c = loN l then A else A.map (·.add (loN l * szT G e))) (hiN h n - loN l) (c - loN l)) (w' := w) ?_ (hr.fin hd ?_ ?_)
  · simp only [execOp, ho, hav, intOp_sem hr hl', intOp_sem hr hh', Option.map_none]
    rw [Sem.run_bind, slice_run hu hz hb hnc]; rfl
  · simp only [RepV]
    cases hl : L id with
    | none =>
      simp only [hl] at hm ⊢
      obtain ⟨rfl, rfl, rfl⟩ := hm
      have : loN l = 0 := by omega
      have h0 : hiN h 0 = 0 := by omega
      rw [this, h0]
      exact ⟨_, rfl, rfl, rfl⟩
    | some l' =>
      simp only [hl] at hm hre ⊢
      obtain ⟨p1, p2, p3⟩ := hm
      refine ⟨_, _, rfl, by omega, by omega, by omega, ?_⟩
      by_cases hcl : c = loN l
      · left; omega
      · right
        rw [if_neg hcl]
        rcases p3 with p3 | p3
        · omega
        · rw [p3, ← hre.2.1]
          simp only [Option.map_some, Addr.add_mid, Nat.add_mul, Nat.add_assoc]
  · intro j hj; simp [EV.ids] at hj; subst hj; simp [hbk]

theorem sliceNil_ok {o : Oper} {t et : Nat} {x : Operand} {lo hi : Option Operand} {l h : Option Int} {s0 : St G} (hd : ∀ t, o.dst = some t → t < nt) (ho : o.op = .slice t x lo hi none) (hu : P.underlying t = some (.slice et)) {z : Nat} (hz : sizeT P et = some z)
    (hx : s0.ev x = .nl) (hlo : intOp s0 lo = some l) (hhi : intOp s0 hi = some h) (hb : boundsE 0 l h = true) : OpOK P nt o s0.ev [] s0.look .nl [] := by
  intro F L s a w hr hev hlk
  have hxs : s.ev x = .nl := by rw [hev x (by simp [ho, Op.operands]), hx]
  have hl' : intOp s lo = some l := by
    rw [← hlo]; cases lo with
    | none => rfl
    | some q => simp only [intOp]; rw [hev q (by simp [ho, Op.operands])]
  have hh' : intOp s hi = some h := by
    rw [← hhi]; cases hi with
    | none => rfl
    | some q => simp only [intOp]; rw [hev q (by simp [ho, Op.operands])]
  have hxv := hr.ev x
  rw [hxs] at hxv
  simp only [RepV] at hxv
  obtain ⟨h1, h2, _, _⟩ := boundsE_nat hb
  refine wp_value (u := .slice none 0 0) (w' := w) ?_ (hr.fin hd (by simp only [RepV]) (by simp [EV.ids]))
  simp only [execOp, ho, hxv, intOp_sem hr hl', intOp_sem hr hh', Option.map_none]
  rw [Sem.run_bind, slice_run hu hz hb (Nat.le_refl _)]
  have e1 : loN l = 0 := by omega
  have e2 : hiN h 0 = 0 := by omega
  simp [e1, e2]

theorem sliceStr_ok {o : Oper} {t : Nat} {x : Operand} {lo hi : Option Operand} {l h : Option Int} {b : ByteArray} {s0 : St G} (hd : ∀ t, o.dst = some t → t < nt) (ho : o.op = .slice t x lo hi none) (hu : P.underlying t = some .string)
    (hx : s0.ev x = .d .str b) (hlo : intOp s0 lo = some l) (hhi : intOp s0 hi = some h) (hb : boundsE b.size l h = true) : OpOK P nt o s0.ev [] s0.look (.d .str (b.extract (loN l) (hiN h b.size))) [] := by
  intro F L s a w hr hev hlk
  have hxs : s.ev x = .d .str b := by rw [hev x (by simp [ho, Op.operands]), hx]
  have hl' : intOp s lo = some l := by
    rw [← hlo]; cases lo with
    | none => rfl
    | some q => simp only [intOp]; rw [hev q (by simp [ho, Op.operands])]
  have hh' : intOp s hi = some h := by
    rw [← hhi]; cases hi with
    | none => rfl
    | some q => simp only [intOp]; rw [hev q (by simp [ho, Op.operands])]
  have hav := hr.str hxs
  refine wp_value (u := .string (b.extract (loN l) (hiN h b.size))) (w' := w) ?_ (hr.fin hd (repStr _) (by simp [EV.ids]))
  simp only [execOp, ho, hav, intOp_sem hr hl', intOp_sem hr hh', Option.map_none]
  simp [Instr.sliceAt, Instr.slice, run_underlying hu, sliceBounds_run hb (Nat.le_refl _)]

/-! ### numbers that may fail -/
theorem div_ok {o : Oper} {t t2 : Nat} {x y : Operand} {k : IntKind} {m n r : Int} {op : BinOp} {s0 : St G} (hd : ∀ t, o.dst = some t → t < nt) (ho : o.op = .binOp op t x y t2) (hx : s0.ev x = .d (.int k) m) (hy : s0.ev y = .d (.int k) n)
    (h0 : n ≠ 0) (hop : (op = .quo ∧ r = k.wrap (m.tdiv n)) ∨ (op = .rem ∧ r = m.tmod n)) : OpOK P nt o s0.ev [] s0.look (.d (.int k) r) [] := by
  intro F L s a w hr hev hlk
  have hxs := hr.int (by rw [hev x (by simp [ho, Op.operands]), hx] : s.ev x = .d (.int k) m)
  have hys := hr.int (by rw [hev y (by simp [ho, Op.operands]), hy] : s.ev y = .d (.int k) n)
  refine wp_value (u := .int k r) (w' := w) ?_ (hr.fin hd (repInt _ _) (by simp [EV.ids]))
  simp only [execOp, ho, hxs, hys]
  rw [Sem.run_bind, Sem.run_bind, eqGuard_plain (by simp) (by simp)]
  simp only [Result.andThen_ok]
  rcases hop with ⟨rfl, rfl⟩ | ⟨rfl, rfl⟩ <;> simp [binOp, Op.intDiv, h0]
theorem shift_ok {o : Oper} {t t2 : Nat} {x y : Operand} {k k' : IntKind} {m n r : Int} {op : BinOp} {s0 : St G} (hd : ∀ t, o.dst = some t → t < nt) (ho : o.op = .binOp op t x y t2) (hx : s0.ev x = .d (.int k) m) (hy : s0.ev y = .d (.int k') n)
    (h0 : ¬ n < 0) (hop : (op = .shl ∧ r = k.wrap (m * 2 ^ (min n.toNat k.bits))) ∨ (op = .shr ∧ r = m.fdiv (2 ^ (min n.toNat k.bits)))) : OpOK P nt o s0.ev [] s0.look (.d (.int k) r) [] := by
  intro F L s a w hr hev hlk
  have hxs := hr.int (by rw [hev x (by simp [ho, Op.operands]), hx] : s.ev x = .d (.int k) m)
  have hys := hr.int (by rw [hev y (by simp [ho, Op.operands]), hy] : s.ev y = .d (.int k') n)
  refine wp_value (u := .int k r) (w' := w) ?_ (hr.fin hd (repInt _ _) (by simp [EV.ids]))
  simp only [execOp, ho, hxs, hys]
  rw [Sem.run_bind, Sem.run_bind, eqGuard_plain (by simp) (by simp)]
  simp only [Result.andThen_ok]
  rcases hop with ⟨rfl, rfl⟩ | ⟨rfl, rfl⟩ <;> simp [binOp, Op.shift, h0]
theorem cat_ok {o : Oper} {t t2 : Nat} {x y : Operand} {m n : ByteArray} {s0 : St G} (hd : ∀ t, o.dst = some t → t < nt) (ho : o.op = .binOp .add t x y t2) (hx : s0.ev x = .d .str m) (hy : s0.ev y = .d .str n)
    (h0 : (m.size : Int) + n.size ≤ 9223372036854775807) : OpOK P nt o s0.ev [] s0.look (.d .str (sCat m n)) [] := by
  intro F L s a w hr hev hlk
  have hxs := hr.str (by rw [hev x (by simp [ho, Op.operands]), hx] : s.ev x = .d .str m)
  have hys := hr.str (by rw [hev y (by simp [ho, Op.operands]), hy] : s.ev y = .d .str n)
  refine wp_value (u := .string (m ++ n)) (w' := w) ?_ (hr.fin hd (repStr _) (by simp [EV.ids]))
  simp only [execOp, ho, hxs, hys]
  rw [Sem.run_bind, Sem.run_bind, eqGuard_plain (by simp) (by simp)]
  simp only [Result.andThen_ok]
  have : ¬ (((m.size + n.size : Nat) : Int) > IntKind.i64.max) := by
    have e : IntKind.i64.max = 9223372036854775807 := by decide
    rw [e]; omega
  simp only [binOp, Op.stringOp]
  rw [if_neg this]
  rfl
end
end Go.Abs
end
section
set_option linter.all false
set_option linter.unusedVariables false
set_option linter.unusedSimpArgs false
set_option linter.unnecessarySimpa false
/-
  ABS, part 15: append.
-/
namespace Go.Abs
open Go
variable {G : Gam}

section
variable {P : Program} {F : Frm} {nt : Nat} {L : LM} {s : St G} {a : Act} {w : World}

theorem cellV_one {v : Value} (hv : CellV v) : v.oneCell' = true := by cases v <;> first | rfl | exact hv.elim
theorem RepL.oneCell {ok : Cells} : ∀ {l : List (Lf G.S)} {cs : List Value}, (∀ τ ∈ l.map (fun | .mk τ _ => τ), τ.leaf = true) → RepL G ok w l cs → ∀ v ∈ cs, v.oneCell' = true := by
  intro l
  induction l with
  | nil => intro cs _ h v hv; cases h; cases hv
  | cons a l ih =>
    intro cs hl h v hv
    cases h with
    | cons τ x u _ vs h t =>
      rcases List.mem_cons.mp hv with rfl | hv
      · exact cellV_one (cellV_of (hl τ (by simp)) h)
      · exact ih (fun τ' h' => hl τ' (by simp at h' ⊢; exact .inr h')) t v hv
theorem RepD.oneCell {ok : Cells} {τ : Ty} {x : G.D τ} {cs : List Value} (h : RepD G ok w τ x cs) : ∀ v ∈ cs, v.oneCell' = true :=
  RepL.oneCell (cellsT_leaf τ x) h.cells

/-- Elements that lie one after the other: their cells as one list. -/
structure Row (G : Gam) (ok : Cells) (w : World) (e : Ty) (ys : List (G.D e)) (B : Option Addr) (news : List Value) : Prop where
  len : news.length = ys.length * szT G e
  el : ∃ ls : List (List Value), ls.length = ys.length ∧ news = ls.flatten ∧ ∀ i (hi : i < ys.length), ∃ l, ls[i]? = some l ∧ RepD G ok w e ys[i] l
  mem : ys.length = 0 ∨ ∃ b o, B = some ⟨b, o, none⟩ ∧ ∀ j u, news[j]? = some u → w.cell? ⟨b, o + j, none⟩ = some u

theorem flatten_len (sz : Nat) : ∀ (ls : List (List Value)), (∀ l ∈ ls, l.length = sz) → ls.flatten.length = ls.length * sz := by
  intro ls
  induction ls with
  | nil => intro _; simp
  | cons l ls ih =>
    intro hl
    rw [List.flatten_cons, List.length_append, ih (fun l' h' => hl l' (by simp [h'])), hl l (by simp), List.length_cons, Nat.add_mul]; omega

theorem Row.of {ok : Cells} {e : Ty} {ys : List (G.D e)} {B : Option Addr} (css : Nat → List Value) (hel : ∀ i (hi : i < ys.length), RepD G ok w e ys[i] (css i))
    (hm : ys.length = 0 ∨ ∃ b o, B = some ⟨b, o, none⟩ ∧ ∀ i, i < ys.length → ∀ j v, (css i)[j]? = some v → w.cell? ⟨b, o + (i * szT G e + j), none⟩ = some v) :
    Row G ok w e ys B ((List.range ys.length).map css).flatten := by
  have hls : ∀ l ∈ (List.range ys.length).map css, l.length = szT G e := by
    intro l hl
    obtain ⟨i, hi, rfl⟩ := List.mem_map.mp hl
    exact (hel i (by simpa using hi)).length
  have hlen := flatten_len (szT G e) _ hls
  simp only [List.length_map, List.length_range] at hlen
  refine ⟨hlen, ⟨_, by simp, rfl, fun i hi => ⟨css i, by simp [hi], hel i hi⟩⟩, hm.imp id ?_⟩
  rintro ⟨b, o, hB, hc⟩
  refine ⟨b, o, hB, fun j u hj => ?_⟩
  have hjl : j < ys.length * szT G e := by
    rw [← hlen]
    rcases Nat.lt_or_ge j ((List.range ys.length).map css).flatten.length with h | h
    · exact h
    · rw [List.getElem?_eq_none h] at hj; cases hj
  have hz : 0 < szT G e := by
    rcases Nat.eq_zero_or_pos (szT G e) with hz | hz
    · rw [hz] at hjl; simp at hjl
    · exact hz
  have hi : j / szT G e < ys.length := by apply Nat.div_lt_of_lt_mul; rw [Nat.mul_comm]; exact hjl
  have hq : j % szT G e < szT G e := Nat.mod_lt _ hz
  have hcl := (hel _ hi).length
  have hg : (css (j / szT G e))[j % szT G e]? = some ((css (j / szT G e))[j % szT G e]'(by omega)) := List.getElem?_eq_getElem (by omega)
  have e0 : j / szT G e * szT G e + j % szT G e = j := by rw [Nat.mul_comm]; exact Nat.div_add_mod _ _
  have h1 := hc _ hi _ _ hg
  have h2 := concat_get (szT G e) _ hls (j / szT G e) (j % szT G e) _ (by simp only [List.getElem?_map, List.getElem?_range hi, Option.map_some, Option.bind_some]; exact hg)
  rw [e0] at h1 h2
  rw [h2] at hj
  rw [← some_inj hj]; exact h1

theorem Row.ofRowAt {e : Ty} {xs : List (G.D e)} {b off lo n : Nat} {ok : Cells} (h : RowAt G ok w e xs b off) (hn : lo + n ≤ xs.length) {A : Option Addr} (hA : n = 0 ∨ A = some ⟨b, off + lo * szT G e, none⟩) :
    ∃ news, Row G ok w e ((xs.drop lo).take n) A news := by
  obtain ⟨css, hcs⟩ := h
  have hlen : ((xs.drop lo).take n).length = n := by simp; omega
  refine ⟨_, Row.of (fun i => css (lo + i)) (fun i hi => ?_) ?_⟩
  · have e0 : ((xs.drop lo).take n)[i] = xs[lo + i]'(by omega) := by simp
    rw [e0]; exact (hcs (lo + i) (by omega)).1
  · rw [hlen]
    rcases hA with hA | hA
    · exact .inl hA
    · refine .inr ⟨b, _, hA, fun i hi j v hj => ?_⟩
      have := (hcs (lo + i) (by omega)).2 j v hj
      have e1 : off + lo * szT G e + (i * szT G e + j) = off + ((lo + i) * szT G e + j) := by rw [Nat.add_mul]; omega
      rw [e1]; exact this

theorem Row.nil {ok : Cells} {e : Ty} {A : Option Addr} : Row G ok w e ([] : List (G.D e)) A [] := ⟨by simp, ⟨[], rfl, rfl, fun i hi => absurd hi (Nat.not_lt_zero _)⟩, .inl rfl⟩

theorem Row.ofData {ok : Cells} {e : Ty} {xs : List (G.D e)} {v : Value} (h : RepD G ok w (.sl e) xs [v]) : ∃ B c news, v = .slice B xs.length c ∧ xs.length ≤ c ∧ Row G ok w e xs B news := by
  obtain ⟨A, c, css, hcs, hc, hA0, hel, hm⟩ := h.inv
  simp at hcs
  refine ⟨A, c, _, hcs, hc, Row.of css hel ?_⟩
  rcases Nat.eq_zero_or_pos xs.length with h0 | h0
  · exact .inl h0
  · obtain ⟨b, o, hA, _⟩ := hm 0 h0
    refine .inr ⟨b, o, hA, fun i hi j v hj => ?_⟩
    obtain ⟨b', o', hA', hc'⟩ := hm i hi
    rw [hA] at hA'; cases hA'
    exact (hc' j v hj).2

theorem rowOf_sem (h : Rel F nt L s a w) {e : Ty} {v : EV G} {ys : List (G.D e)} {u : Value} (hr : rowOfD s e v = some ys) (hv : RepV (okOf F L s) w L v u) :
    ∃ B c news, u = .slice B ys.length c ∧ ys.length ≤ c ∧ Row G (okOf F L s) w e ys B news := by
  have own : ∀ (i lo n : Nat) (xs : List (G.D e)) (A : Option Addr) (c : Nat), n ≤ c → ((∃ kk, s.look i = some (.row e xs kk)) ∨ s.look i = some (.fz e xs)) →
      (match L i with | none => lo = 0 ∧ n = 0 | some l => lo + n ≤ l.len ∧ (c = 0 ∨ A = some ⟨l.b, l.off + lo * l.sz, none⟩)) →
      ∃ news, Row G (okOf F L s) w e ((xs.drop lo).take n) A news ∧ ((xs.drop lo).take n).length = n := by
    intro i lo n xs A c hnc hi hm
    have key : (match L i with | none => xs = [] | some l => l.sz = szT G e ∧ l.len = xs.length ∧ RowAt G (okOf F L s) w e xs l.b l.off) := by
      rcases hi with ⟨kk, hi⟩ | hi
      · have := h.e.en i _ hi
        simp only [RepE] at this
        cases hl : L i with
        | none => simpa [hl] using this.2
        | some l => simp only [hl] at this ⊢; exact ⟨this.2.1, this.2.2.1, this.2.2.2.2.2⟩
      · have := h.e.en i _ hi
        simp only [RepE] at this
        cases hl : L i with
        | none => simpa [hl] using this
        | some l => simp only [hl] at this ⊢; exact ⟨this.1, this.2.1, this.2.2.2⟩
    cases hl : L i with
    | none =>
      simp only [hl] at hm key
      obtain ⟨rfl, rfl⟩ := hm
      exact ⟨[], by simpa using Row.nil, by simp⟩
    | some l =>
      simp only [hl] at hm key
      obtain ⟨p1, p2, p3⟩ := key
      obtain ⟨news, hn⟩ := Row.ofRowAt (A := A) p3 (lo := lo) (n := n) (by omega) (by rcases hm.2 with q | q; exact .inl (by omega); exact .inr (by rw [← p1]; exact q))
      exact ⟨news, hn, by simp; omega⟩
  unfold rowOfD at hr
  split at hr
  · rename_i τ x
    split at hr
    · rename_i y hy
      cases hr
      obtain ⟨e0, he⟩ := castD_eq hy
      subst e0
      have he : x = ys := he
      subst he
      simp only [RepV] at hv
      exact Row.ofData hv.2
    · split at hr
      · rename_i y hy
        obtain ⟨e0, he⟩ := castD_eq hy
        subst e0
        have hr : y = ys := Option.some.inj hr
        have he : x = ys := Eq.trans he hr
        subst he
        simp only [RepV] at hv
        obtain ⟨A, c, hxs, hsl⟩ := hv.2.inv
        exact Row.ofData hsl
      · cases hr
  · cases hr
    simp only [RepV] at hv
    exact ⟨none, 0, [], by simpa using hv, Nat.le_refl _, Row.nil⟩
  · rename_i i
    split at hr
    · rename_i e' xs kk hi
      obtain ⟨e0, he⟩ := castD_eq hr
      cases e0
      have he : xs = ys := he
      subst he
      simp only [RepV] at hv
      have hre := h.e.en i _ hi
      simp only [RepE] at hre
      cases hl : L i with
      | none => simp only [hl] at hv hre; obtain ⟨A, rfl⟩ := hv; rw [hre.2]; exact ⟨A, 0, [], rfl, Nat.le_refl _, Row.nil⟩
      | some l =>
        simp only [hl] at hv hre
        obtain ⟨A, c, rfl, p1, p2, p3⟩ := hv
        obtain ⟨news, hn, _⟩ := own i 0 l.len xs A c p1 (.inl ⟨kk, hi⟩) (by simp only [hl]; exact ⟨by omega, by simpa using p3⟩)
        have e1 : (xs.drop 0).take l.len = xs := by rw [hre.2.2.1]; simp
        rw [e1] at hn
        exact ⟨A, c, news, by rw [hre.2.2.1], by rw [← hre.2.2.1]; exact p1, hn⟩
    · rename_i e' xs hi
      obtain ⟨e0, he⟩ := castD_eq hr
      cases e0
      have he : xs = ys := he
      subst he
      simp only [RepV] at hv
      have hre := h.e.en i _ hi
      simp only [RepE] at hre
      cases hl : L i with
      | none => simp only [hl] at hv hre; obtain ⟨A, rfl⟩ := hv; rw [hre]; exact ⟨A, 0, [], rfl, Nat.le_refl _, Row.nil⟩
      | some l =>
        simp only [hl] at hv hre
        obtain ⟨A, c, rfl, p1, p2, p3⟩ := hv
        obtain ⟨news, hn, _⟩ := own i 0 l.len xs A c p1 (.inr hi) (by simp only [hl]; exact ⟨by omega, by simpa using p3⟩)
        have e1 : (xs.drop 0).take l.len = xs := by rw [hre.2.1]; simp
        rw [e1] at hn
        exact ⟨A, c, news, by rw [hre.2.1], by rw [← hre.2.1]; exact p1, hn⟩
    · cases hr
  · rename_i i lo n
    split at hr
    · rename_i e' xs kk hi
      obtain ⟨e0, he⟩ := castD_eq hr
      cases e0
      have he : (xs.drop lo).take n = ys := he
      subst he
      simp only [RepV] at hv
      cases hl : L i with
      | none =>
        simp only [hl] at hv
        obtain ⟨A, rfl, rfl, rfl⟩ := hv
        exact ⟨A, 0, [], by simp, by simp, by simpa using Row.nil⟩
      | some l =>
        simp only [hl] at hv
        obtain ⟨A, c, rfl, p1, p2, p3, p4⟩ := hv
        obtain ⟨news, hn, hlen⟩ := own i lo n xs A c p1 (.inl ⟨kk, hi⟩) (by simp only [hl]; exact ⟨p2, p4⟩)
        exact ⟨A, c, news, by rw [hlen], by rw [hlen]; exact p1, hn⟩
    · rename_i e' xs hi
      obtain ⟨e0, he⟩ := castD_eq hr
      cases e0
      have he : (xs.drop lo).take n = ys := he
      subst he
      simp only [RepV] at hv
      cases hl : L i with
      | none =>
        simp only [hl] at hv
        obtain ⟨A, rfl, rfl, rfl⟩ := hv
        exact ⟨A, 0, [], by simp, by simp, by simpa using Row.nil⟩
      | some l =>
        simp only [hl] at hv
        obtain ⟨A, c, rfl, p1, p2, p3, p4⟩ := hv
        obtain ⟨news, hn, hlen⟩ := own i lo n xs A c p1 (.inr hi) (by simp only [hl]; exact ⟨p2, p4⟩)
        exact ⟨A, c, news, by rw [hlen], by rw [hlen]; exact p1, hn⟩
    · cases hr
  · cases hr

/-- What the base of an append is. -/
inductive Base (G : Gam) (F : Frm) (L : LM) (s : St G) (e : Ty) (xs : List (G.D e)) (A : Option Addr) (c lock : Nat) : List (Nat × Ent G) → Prop
  | nil (hx : xs = []) (hc : c = 0) (hl : lock = 0) : Base G F L s e xs A c lock []
  | bare (id : Nat) (lk : Nat) (zs : List (G.D e)) (hs : s.look id = some (.row e zs lk)) (hl : L id = none) (hx : xs = []) (hc : c = 0) (h0 : lock = 0) (e' : Ent G) (he : e' = .tomb ∨ e' = .fz e xs) : Base G F L s e xs A c lock [(id, e')]
  | row (id lo lk : Nat) (l : Loc) (zs : List (G.D e)) (hs : s.look id = some (.row e zs lk)) (hl : L id = some l) (hx : xs = (zs.drop lo).take xs.length) (hn : lo + xs.length ≤ l.len) (hc : lo + c ≤ l.cap) (hA : c = 0 ∨ A = some ⟨l.b, l.off + lo * l.sz, none⟩)
      (hlk : lk ≤ lo + xs.length) (hlock : lk ≤ lo + lock) (hle : lock ≤ xs.length) (e' : Ent G) (he : e' = .tomb ∨ (e' = .fz e xs ∧ lo = 0 ∧ xs = zs ∧ lock = xs.length)) : Base G F L s e xs A c lock [(id, e')]

theorem baseOf_sem (h : Rel F nt L s a w) {keep : Bool} {e : Ty} {v : EV G} {xs : List (G.D e)} {lock : Nat} {used : List (Nat × Ent G)} {u : Value} (hb : baseOf s keep e v = some (xs, lock, used)) (hv : RepV (okOf F L s) w L v u) :
    ∃ A c, u = .slice A xs.length c ∧ xs.length ≤ c ∧ Base G F L s e xs A c lock used := by
  unfold baseOf at hb
  split at hb
  · cases hb
    simp only [RepV] at hv
    exact ⟨none, 0, hv, Nat.le_refl _, .nil rfl rfl rfl⟩
  · rename_i i
    split at hb
    · rename_i e' zs lk hi
      split at hb
      · rename_i y hy
        obtain ⟨e0, he⟩ := castD_eq hy
        cases e0
        have he : zs = y := he
        subst he
        cases hb
        simp only [RepV] at hv
        have hre := h.e.en i _ hi
        simp only [RepE] at hre
        cases hl : L i with
        | none =>
          simp only [hl] at hv hre
          obtain ⟨A, rfl⟩ := hv
          obtain ⟨h0, h1⟩ := hre
          subst h1
          have : lk = 0 := by simpa using h0
          subst this
          exact ⟨A, 0, rfl, Nat.le_refl _, .bare i 0 [] hi hl rfl rfl (by cases keep <;> rfl) _ (by cases keep <;> simp)⟩
        | some l =>
          simp only [hl] at hv hre
          obtain ⟨A, c, rfl, p1, p2, p3⟩ := hv
          have q := hre.2.2.1
          refine ⟨A, c, by rw [q], by omega, .row i 0 lk l _ hi hl (by simp) (by omega) (by omega) (by simpa using p3) (by omega) ?_ ?_ _ ?_⟩
          · cases keep <;> simp <;> omega
          · cases keep <;> simp <;> omega
          · cases keep
            · exact .inl rfl
            · exact .inr ⟨rfl, rfl, rfl, rfl⟩
      · cases hb
    · cases hb
  · rename_i i lo n
    split at hb
    · rename_i e' zs lk hi
      split at hb
      · rename_i y hy
        obtain ⟨e0, he⟩ := castD_eq hy
        cases e0
        have he : (zs.drop lo).take n = y := he
        subst he
        obtain ⟨hk, hb⟩ := guardb hb
        obtain ⟨hk1, _⟩ := band hk
        have hk1 := lockOK_le hk1
        cases hb
        simp only [RepV] at hv
        have hre := h.e.en i _ hi
        simp only [RepE] at hre
        cases hl : L i with
        | none =>
          simp only [hl] at hv hre
          obtain ⟨A, rfl, rfl, rfl⟩ := hv
          obtain ⟨h0, h1⟩ := hre
          subst h1
          have : lk = 0 := by simpa using h0
          subst this
          exact ⟨A, 0, by simp, by simp, .bare i 0 [] hi hl (by simp) rfl rfl _ (.inl rfl)⟩
        | some l =>
          simp only [hl] at hv hre
          obtain ⟨A, c, rfl, p1, p2, p3, p4⟩ := hv
          have q := hre.2.2.1
          have hlen : ((zs.drop lo).take n).length = n := by simp; omega
          exact ⟨A, c, by rw [hlen], by rw [hlen]; exact p1, .row i lo lk l zs hi hl (by rw [hlen]) (by rw [hlen]; exact p2) p3 p4 (by rw [hlen]; exact hk1) (by omega) (by rw [hlen]; omega) _ (.inl rfl)⟩
      · cases hb
    · cases hb
  · cases hb
end
end Go.Abs
end
section
set_option linter.all false
set_option linter.unusedVariables false
set_option linter.unusedSimpArgs false
set_option linter.unnecessarySimpa false
/-
  ABS, part 16: append, the whole.
-/
namespace Go.Abs
open Go
variable {G : Gam}

section
variable {P : Program} {F : Frm} {nt : Nat} {L : LM} {s : St G} {a : Act} {w : World}

theorem Rel.ext (h : Rel F nt L s a w) {s' : St G} (hg : ∀ t, s'.get t = s.get t) (hk : ∀ i, s'.look i = s.look i) : Rel F nt L s' a w := by
  have ho : okOf F L s' = okOf F L s := by funext b o; simp only [okOf, owned, hk]
  refine ⟨⟨h.e.fits, ?_, ?_, ?_, ?_, fun i hi => by rw [hk]; exact h.e.lent i hi⟩, ?_, ?_, h.defers, h.size⟩
  · intro i e hi; rw [ho]; rw [hk] at hi; exact h.e.en i e hi
  · intro i e hi j hj; rw [hk] at *; exact h.e.ids i e hi j hj
  · intro i j e f l m hi hj; rw [hk] at hi hj; exact h.e.dis i j e f l m hi hj
  · intro i e l hi; rw [hk] at hi; exact h.e.own i e l hi
  · intro t; rw [ho, hg]; exact h.tm t
  · intro t j hj; rw [hg] at hj; rw [hk]; exact h.tids t j hj

theorem Rel.base (h : Rel F nt L s a w) {i : Nat} {e : Ent G} {l : Loc} (hi : s.look i = some e) (hl : L i = some l) (oe : owner e) (o : Nat) : F.base l.b o := by
  rcases (h.e.own i e l hi hl oe).2 with h3 | h3
  · exact .inr (.inr h3)
  · exact (h3 o).2

/-- Entries are given up, or locked further: the world stays. -/
theorem Rel.release (h : Rel F nt L s a w) (up : List (Nat × Ent G)) (L' : LM) (hL : ∀ i, (s.look i).isSome → L' i = L i)
    (less : ∀ i e, lookT up i = some e → (∀ l, L' i = some l → owner e → ∃ e0, s.look i = some e0 ∧ owner e0 ∧ ∀ b o, owns l e b o → owns l e0 b o))
    (ch : ∀ i e, lookT up i = some e → (∀ j ∈ e.ids, ((s.upd up).look j).isSome) ∧ ∀ ok', Keeps (okOf F L s) ok' w w → (∀ b o, ok' b o ↔ okOf F L' (s.upd up) b o) → RepE ok' w L' i e) :
    Rel F nt L' (s.upd up) a w := by
  have ownd : ∀ b o, owned (s.upd up) L' b o → owned s L b o := by
    rintro b o ⟨i, e, l, hi, hl, hw⟩
    have oe : owner e := by cases e <;> first | trivial | exact hw.elim
    rw [St.look_upd] at hi
    cases hu : lookT up i with
    | none =>
      rw [hu] at hi
      have hi : s.look i = some e := by simpa using hi
      exact ⟨i, e, l, hi, by rw [← hL i (by simp [hi])]; exact hl, hw⟩
    | some e' =>
      rw [hu] at hi
      have : e' = e := by simpa using hi
      subst this
      obtain ⟨e0, h1, _, h3⟩ := less i e' hu l hl oe
      exact ⟨i, e0, l, h1, by rw [← hL i (by simp [h1])]; exact hl, h3 b o hw⟩
  have k : Keeps (okOf F L s) (okOf F L' (s.upd up)) w w := fun b o v h1 h2 => ⟨⟨h1.1, fun h3 => h1.2 (ownd b o h3)⟩, h2⟩
  refine h.step up h.e.fits k hL (fun _ _ _ _ _ _ _ => rfl) ?_ (Nat.le_refl _) ?_ ?_
  · intro i e hi
    exact ⟨(ch i e hi).2 _ k (fun _ _ => Iff.rfl), (ch i e hi).1⟩
  · intro i j e f l m hi hj hl hm oe og ne
    obtain ⟨e0, h1, h2, _⟩ := less i e hi l hl oe
    rw [hL i (by simp [h1])] at hl
    rw [St.look_upd] at hj
    cases hu : lookT up j with
    | none =>
      rw [hu] at hj
      have hj : s.look j = some f := by simpa using hj
      rw [hL j (by simp [hj])] at hm
      exact h.e.dis i j _ _ l m h1 hj hl hm h2 og ne
    | some f' =>
      rw [hu] at hj
      have : f' = f := by simpa using hj
      subst this
      obtain ⟨f0, g1, g2, _⟩ := less j f' hu m hm og
      rw [hL j (by simp [g1])] at hm
      exact h.e.dis i j _ _ l m h1 g1 hl hm h2 g2 ne
  · intro i e l hi hl oe
    obtain ⟨e0, h1, h2, h3⟩ := less i e hi l hl oe
    rw [hL i (by simp [h1])] at hl
    obtain ⟨q1, q2⟩ := h.e.own i e0 l h1 hl h2
    exact ⟨q1, q2.imp id fun q2 o => ⟨fun hw => (q2 o).1 (h3 _ _ hw), (q2 o).2⟩⟩

theorem append_grow (h : Rel F nt L s a w) {nid : Nat} (hfree : s.look nid = none) {e : Ty} {xs ys : List (G.D e)} {A : Option Addr} {c lock : Nat} {used : List (Nat × Ent G)} (hb : Base G F L s e xs A c lock used) {et : TypeId}
    {w' : World} {cvs : Array Value} (hh : w'.heap = w.heap.push (.cells cvs et)) (ho : w'.os = w.os) (ht : w'.tape = w.tape) (hp : w'.output = w.output) {cap : Nat} (hcap : xs.length + ys.length ≤ cap) (hsz : cap * szT G e ≤ cvs.size)
    {ls : List (List Value)} (hls : ls.length = (xs ++ ys).length) (hel : ∀ i (hi : i < (xs ++ ys).length), ∃ l, ls[i]? = some l ∧ RepD G (okOf F L s) w e (xs ++ ys)[i] l) (hcv : ∃ r, cvs.toList = ls.flatten ++ r) :
    Rel F nt (fun i => if i = nid then some ⟨w.heap.size, 0, szT G e, cap, (xs ++ ys).length⟩ else L i) (s.upd ((nid, .row e (xs ++ ys) lock) :: used)) a w' := by
  have h1 := h.newRow hfree hh ho ht hp (e := e) (xs := xs ++ ys) (cap := cap) (by simpa using hcap) hsz hls hel hcv
  have nn : ∀ i, (s.look i).isSome → i ≠ nid := fun i hi e => by subst e; rw [hfree] at hi; cases hi
  have hlk1 : ∀ i, (s.look i).isSome → (s.upd [(nid, Ent.row e (xs ++ ys) 0)]).look i = s.look i := fun i hi => by rw [upd1_look, if_neg (Ne.symm (nn i hi))]
  have hnid1 : (s.upd [(nid, Ent.row e (xs ++ ys) 0)]).look nid = some (.row e (xs ++ ys) 0) := by rw [upd1_look, if_pos rfl]
  have hlock : lock ≤ xs.length := by cases hb with | nil _ _ h => omega | bare _ _ _ _ _ _ _ h => omega | row _ _ _ _ _ _ _ _ _ _ _ _ _ h => exact h
  have hused : ∀ i f, lookT used i = some f → i ≠ nid ∧ ∃ zs lk, s.look i = some (.row e zs lk) ∧ (f = .tomb ∨ (f = .fz e xs ∧ xs = zs)) := by
    intro i f hf
    cases hb with
    | nil => cases hf
    | bare id lk zs hs hl hx hc h0 e' he =>
      rw [lookT_cons] at hf
      split at hf
      · rename_i hid; subst hid; cases hf
        have hre := h.e.en id _ hs
        simp only [RepE, hl] at hre
        exact ⟨nn id (by simp [hs]), zs, lk, hs, he.imp (fun h => h) fun he => ⟨he, by rw [hx, hre.2]⟩⟩
      · cases hf
    | row id lo lk l zs hs hl hx hn hc hA hlk hlk2 hle e' he =>
      rw [lookT_cons] at hf
      split at hf
      · rename_i hid; subst hid; cases hf
        exact ⟨nn id (by simp [hs]), zs, lk, hs, he.imp (fun h => h) fun he => ⟨he.1, he.2.2.1⟩⟩
      · cases hf
  have h2 := h1.release ((nid, .row e (xs ++ ys) lock) :: used) (fun i => if i = nid then some ⟨w.heap.size, 0, szT G e, cap, (xs ++ ys).length⟩ else L i) (fun _ _ => rfl) ?_ ?_
  · refine h2.ext (fun t => rfl) (fun i => ?_)
    simp only [St.look_upd, lookT_cons]
    by_cases hi : nid = i
    · simp [hi]
    · simp [hi, lookT]
  · intro i f hf l hl oe
    rw [lookT_cons] at hf
    split at hf
    · rename_i hi; subst hi; cases hf
      refine ⟨_, hnid1, trivial, fun b o hw => ⟨hw.1, ?_⟩⟩
      have := hw.2
      simp only [Nat.zero_mul]
      omega
    · obtain ⟨_, _, _, _, hf' | ⟨hf', _⟩⟩ := hused i f hf
      · subst hf'; exact oe.elim
      · subst hf'; exact oe.elim
  · intro i f hf
    rw [lookT_cons] at hf
    split at hf
    · rename_i hi; subst hi; cases hf
      refine ⟨by simp [Ent.ids], fun ok' k _ => ?_⟩
      have hre := h1.e.en _ _ hnid1
      simp only [RepE, if_true] at hre ⊢
      exact ⟨by simp; omega, hre.2.1, hre.2.2.1, hre.2.2.2.1, hre.2.2.2.2.1, hre.2.2.2.2.2.mono k fun o v hc _ => hc⟩
    · obtain ⟨hne, zs, lk, hs, hf' | ⟨hf', hz⟩⟩ := hused i f hf
      · subst hf'; exact ⟨by simp [Ent.ids], fun _ _ _ => trivial⟩
      · subst hf'; subst hz
        refine ⟨by simp [Ent.ids], fun ok' k hok => ?_⟩
        have hs1 : (s.upd [(nid, Ent.row e (xs ++ ys) 0)]).look i = some (.row e xs lk) := by rw [hlk1 i (by simp [hs]), hs]
        have hre := h1.e.en i _ hs1
        simp only [RepE, if_neg hne] at hre ⊢
        cases hl : L i with
        | none => simpa [hl] using hre.2
        | some l =>
          simp only [hl] at hre ⊢
          refine ⟨hre.2.1, hre.2.2.1, fun o v p q _ => ?_, hre.2.2.2.2.2.mono k fun o v hc _ => hc⟩
          rw [hok]
          refine ⟨h.base hs hl trivial o, ?_⟩
          rintro ⟨j, g, m, hj, hm, hw⟩
          have og : owner g := by cases g <;> first | trivial | exact hw.elim
          have hmb : m.b = l.b := by cases g <;> first | exact hw.symm | exact hw.1.symm | exact hw.elim
          rw [St.look_upd, lookT_cons] at hj
          by_cases hjn : nid = j
          · have hm : (if j = nid then some _ else L j) = some m := hm
            rw [if_pos hjn.symm] at hm
            cases hm
            have := (h.e.own i _ l hs hl trivial).1
            simp at hmb; omega
          · rw [if_neg hjn] at hj
            have hm : (if j = nid then some _ else L j) = some m := hm
            rw [if_neg (Ne.symm hjn)] at hm
            cases hu : lookT used j with
            | some g' =>
              rw [hu] at hj
              have : g' = g := by simpa using hj
              subst this
              obtain ⟨_, _, _, _, hg | ⟨hg, _⟩⟩ := hused j g' hu
              · subst hg; exact og.elim
              · subst hg; exact og.elim
            | none =>
              rw [hu] at hj
              simp only [Option.none_or, upd1_look, if_neg hjn] at hj
              have hij : i ≠ j := by
                intro hij; subst hij
                rw [hu] at hf; cases hf
              exact h.e.dis i j _ _ l m hs hj hl hm trivial og hij hmb.symm
end
end Go.Abs
end
section
set_option linter.all false
set_option linter.unusedVariables false
set_option linter.unusedSimpArgs false
set_option linter.unnecessarySimpa false
/-
  ABS, part 17: append, in place, and all of it.
-/
namespace Go.Abs
open Go
variable {G : Gam}

section
variable {P : Program} {F : Frm} {nt : Nat} {L : LM} {s : St G} {a : Act} {w : World}

theorem cell_setCells {b o : Nat} {vs : List Value} {cur : Array Value} {el : TypeId} (hc : w.heap[b]? = some (.cells cur el (0, 0))) (hsz : o + vs.length ≤ cur.size) (o' : Nat) :
    (w.setCells b o vs).cell? ⟨b, o', none⟩ = if o ≤ o' ∧ o' < o + vs.length then vs[o' - o]? else w.cell? ⟨b, o', none⟩ := by
  simp only [World.cell?, heap_setCells b vs o w cur hc hsz, hc]
  simp only [List.getElem?_toArray, Option.isSome_none, Bool.false_eq_true, if_false]
  rw [splice_get (by simpa using hsz)]
  by_cases h1 : o' < o
  · rw [if_pos h1, if_neg (by omega)]; simp
  · rw [if_neg h1]
    by_cases h2 : o' < o + vs.length
    · rw [if_pos h2, if_pos ⟨by omega, h2⟩]
    · rw [if_neg h2, if_neg (by omega)]; simp

theorem RowAt.sub {ok : Cells} {e : Ty} {xs : List (G.D e)} {b off : Nat} (h : RowAt G ok w e xs b off) (lo n : Nat) : RowAt G ok w e ((xs.drop lo).take n) b (off + lo * szT G e) := by
  obtain ⟨css, hcs⟩ := h
  refine ⟨fun i => css (lo + i), fun i hi => ?_⟩
  have hi' : lo + i < xs.length := by simp at hi; omega
  have e0 : ((xs.drop lo).take n)[i] = xs[lo + i] := by simp
  rw [e0]
  refine ⟨(hcs _ hi').1, fun j v hj => ?_⟩
  have := (hcs _ hi').2 j v hj
  have e1 : off + lo * szT G e + (i * szT G e + j) = off + ((lo + i) * szT G e + j) := by rw [Nat.add_mul]; omega
  rw [e1]; exact this

theorem RowAt.append {ok : Cells} {e : Ty} {xs ys : List (G.D e)} {b off : Nat} (h : RowAt G ok w e xs b off) {B : Option Addr} {news : List Value} (hr : Row G ok w e ys B news)
    (hc : ∀ j v, news[j]? = some v → w.cell? ⟨b, off + (xs.length * szT G e + j), none⟩ = some v) : RowAt G ok w e (xs ++ ys) b off := by
  obtain ⟨css, hcs⟩ := h
  obtain ⟨ls, p1, p2, p3⟩ := hr.el
  have hls : ∀ l ∈ ls, l.length = szT G e := by
    intro l hl
    obtain ⟨i, hi, rfl⟩ := List.mem_iff_getElem.mp hl
    obtain ⟨l', q1, q2⟩ := p3 i (by omega)
    rw [List.getElem?_eq_getElem hi] at q1
    rw [some_inj q1]; exact q2.length
  refine ⟨fun i => if i < xs.length then css i else (ls[i - xs.length]?).getD [], fun i hi => ?_⟩
  by_cases h1 : i < xs.length
  · simp only [h1, if_true]
    rw [List.getElem_append_left h1]
    exact hcs i h1
  · simp only [h1, if_false]
    rw [List.getElem_append_right (by omega)]
    have hi' : i - xs.length < ys.length := by simp at hi; omega
    obtain ⟨l, q1, q2⟩ := p3 _ hi'
    rw [q1]
    refine ⟨q2, fun j v hj => ?_⟩
    have := concat_get (szT G e) ls hls (i - xs.length) j v (by rw [q1]; exact hj)
    rw [← p2] at this
    have := hc _ v this
    have e1 : xs.length * szT G e + ((i - xs.length) * szT G e + j) = i * szT G e + j := by
      rw [← Nat.add_assoc, ← Nat.add_mul]; congr 2; omega
    rw [e1] at this; exact this

theorem Row.keeps {ok ok' : Cells} {w' : World} {e : Ty} {ys : List (G.D e)} {B : Option Addr} {news : List Value} (h : Row G ok w e ys B news) (k : Keeps ok ok' w w') (hm : ∃ b o, B = some ⟨b, o, none⟩ ∧ ∀ j u, news[j]? = some u → w'.cell? ⟨b, o + j, none⟩ = some u) :
    Row G ok' w' e ys B news := by
  obtain ⟨ls, p1, p2, p3⟩ := h.el
  exact ⟨h.len, ⟨ls, p1, p2, fun i hi => by obtain ⟨l, q1, q2⟩ := p3 i hi; exact ⟨l, q1, q2.mono k⟩⟩, .inr hm⟩

theorem Row.one {ok : Cells} {e : Ty} {ys : List (G.D e)} {B : Option Addr} {news : List Value} (h : Row G ok w e ys B news) : ∀ v ∈ news, v.oneCell' = true := by
  obtain ⟨ls, p1, p2, p3⟩ := h.el
  subst p2
  intro v hv
  obtain ⟨l, hl, hv⟩ := List.mem_flatten.mp hv
  obtain ⟨i, hi, rfl⟩ := List.mem_iff_getElem.mp hl
  obtain ⟨l', q1, q2⟩ := p3 i (by omega)
  rw [List.getElem?_eq_getElem hi] at q1
  rw [some_inj q1] at hv; exact q2.oneCell v hv

theorem append_place (h : Rel F nt L s a w) {nid : Nat} (hfree : s.look nid = none) {e : Ty} {xs ys : List (G.D e)} {id lo lk : Nat} {l : Loc} {zs : List (G.D e)} {c lock : Nat} {e' : Ent G} (hs : s.look id = some (.row e zs lk)) (hl : L id = some l)
    (hx : xs = (zs.drop lo).take xs.length) (hn : lo + xs.length ≤ l.len) (hc : lo + c ≤ l.cap) (hlk : lk ≤ lo + xs.length) (hlock : lk ≤ lo + lock) (hle : lock ≤ xs.length) (he : e' = .tomb ∨ (e' = .fz e xs ∧ lo = 0 ∧ xs = zs ∧ lock = xs.length))
    {B : Option Addr} {news : List Value} (hr : Row G (okOf F L s) w e ys B news) (hroom : xs.length + ys.length ≤ c) :
    Rel F nt (fun i => if i = nid then some ⟨l.b, l.off + lo * l.sz, l.sz, c, xs.length + ys.length⟩ else L i) (s.upd [(nid, .row e (xs ++ ys) lock), (id, e')]) a (w.setCells l.b (l.off + (lo + xs.length) * l.sz) news) := by
  have hre := h.e.en id _ hs
  simp only [RepE, hl] at hre
  obtain ⟨r0, r1, r2, r3, ⟨cur, el, r4, r5⟩, r6⟩ := hre
  have nn : ∀ i, (s.look i).isSome → i ≠ nid := fun i hi e => by subst e; rw [hfree] at hi; cases hi
  have hid : id ≠ nid := nn id (by simp [hs])
  have own := h.e.own id _ l hs hl trivial
  generalize ho0 : l.off + (lo + xs.length) * l.sz = o0
  have hnl : news.length = ys.length * l.sz := by rw [hr.len, r1]
  have hsz : o0 + news.length ≤ cur.size := by
    have h1 : (lo + (xs.length + ys.length)) * l.sz ≤ l.cap * l.sz := Nat.mul_le_mul_right _ (by omega)
    rw [← ho0, hnl]
    have h2 : (lo + (xs.length + ys.length)) * l.sz = (lo + xs.length) * l.sz + ys.length * l.sz := by rw [← Nat.add_mul]; congr 1; omega
    omega
  have hlk0 : lk * l.sz ≤ (lo + xs.length) * l.sz := Nat.mul_le_mul_right _ hlk
  have hin : ∀ o', o0 ≤ o' → owns l (.row e zs lk) l.b o' := fun o' h1 => ⟨rfl, by omega⟩
  -- the cells after
  have cellb := cell_setCells (w := w) (vs := news) r4 hsz
  have cells : ∀ b o', ¬ (b = l.b ∧ o0 ≤ o' ∧ o' < o0 + news.length) → (w.setCells l.b o0 news).cell? ⟨b, o', none⟩ = w.cell? ⟨b, o', none⟩ := by
    intro b o' hn
    by_cases hb : b = l.b
    · subst hb
      rw [cellb, if_neg (fun h => hn ⟨rfl, h⟩)]
    · exact cell_block (heap_setCells_other l.b news o0 w b hb) o'
  have cellN : ∀ j v, news[j]? = some v → (w.setCells l.b o0 news).cell? ⟨l.b, o0 + j, none⟩ = some v := by
    intro j v hj
    have : j < news.length := by
      rcases Nat.lt_or_ge j news.length with h | h
      · exact h
      · rw [List.getElem?_eq_none h] at hj; cases hj
    rw [cellb, if_pos ⟨by omega, by omega⟩, show o0 + j - o0 = j by omega]; exact hj
  have hlo : lock * l.sz + lo * l.sz ≥ lk * l.sz := by rw [← Nat.add_mul]; exact Nat.mul_le_mul_right _ (by omega)
  -- who owns what
  let L' : LM := fun i => if i = nid then some ⟨l.b, l.off + lo * l.sz, l.sz, c, xs.length + ys.length⟩ else L i
  have hLn : L' nid = some ⟨l.b, l.off + lo * l.sz, l.sz, c, xs.length + ys.length⟩ := if_pos rfl
  have hLo : ∀ i, (s.look i).isSome → L' i = L i := fun i hi => if_neg (nn i hi)
  have lku : ∀ i, (s.upd [(nid, Ent.row e (xs ++ ys) lock), (id, e')]).look i = if i = nid then some (.row e (xs ++ ys) lock) else if i = id then some e' else s.look i := by
    intro i
    rw [St.look_upd, lookT_cons, lookT_cons]
    by_cases h1 : nid = i
    · simp [h1]
    · by_cases h2 : id = i
      · simp [h1, h2, Ne.symm h1]
      · simp [h1, h2, Ne.symm h1, Ne.symm h2, lookT]
  have noe' : ¬ owner e' := by rcases he with rfl | ⟨rfl, _⟩ <;> simp [owner]
  have ownd : ∀ b o, owned (s.upd [(nid, Ent.row e (xs ++ ys) lock), (id, e')]) L' b o → owned s L b o ∧ (b = l.b → l.off + lo * l.sz + lock * l.sz ≤ o) := by
    rintro b o ⟨i, f, m, hi, hm, hw⟩
    have of : owner f := by cases f <;> first | trivial | exact hw.elim
    rw [lku] at hi
    split at hi
    · rename_i h1; subst h1; cases hi
      rw [hLn] at hm; cases hm
      obtain ⟨h1, h2⟩ := hw
      simp only at h1 h2
      subst h1
      exact ⟨⟨id, _, l, hs, hl, rfl, by omega⟩, fun _ => h2⟩
    · split at hi
      · cases hi; exact absurd of noe'
      · rename_i h1 h2
        rw [hLo i (by simp [hi])] at hm
        refine ⟨⟨i, f, m, hi, hm, hw⟩, fun hb => ?_⟩
        have hmb : m.b = b := by cases f <;> first | exact hw.symm | exact hw.1.symm | exact hw.elim
        exact absurd (hmb.trans hb) (h.e.dis i id f _ m l hi hs hm hl of trivial h2)
  have k : Keeps (okOf F L s) (okOf F L' (s.upd [(nid, Ent.row e (xs ++ ys) lock), (id, e')])) w (w.setCells l.b o0 news) := by
    intro b o v h1 h2
    refine ⟨⟨h1.1, fun h3 => h1.2 (ownd b o h3).1⟩, ?_⟩
    rw [cells b o (fun h3 => h1.2 ⟨id, _, l, hs, hl, h3.1 ▸ hin o h3.2.1⟩)]; exact h2
  have hf : Fits F (w.setCells l.b o0 news) := by
    have fo := setCells_os l.b news o0 w
    refine ⟨by rw [fo.1]; exact h.e.fits.os, by rw [fo.2.1]; exact h.e.fits.tape, by rw [fo.2.2]; exact h.e.fits.output, by rw [setCells_size]; exact h.e.fits.size, ?_, ?_⟩
    · intro b hb hx
      by_cases hbl : b = l.b
      · subst hbl
        rcases own.2 with h1 | h1
        · omega
        · cases news with
          | nil => exact h.e.fits.block _ hb hx
          | cons v vs => exact absurd ((h1 o0).1 (hin o0 (Nat.le_refl _))) (hx o0)
      · rw [heap_setCells_other l.b news o0 w b hbl]; exact h.e.fits.block b hb hx
    · intro b o' hb hx
      rw [cells b o' ?_]
      · exact h.e.fits.cell b o' hb hx
      · rintro ⟨hbl, h2, _⟩
        subst hbl
        rcases own.2 with h1 | h1
        · omega
        · exact hx ((h1 o').1 (hin o' h2))
  -- the row
  have hrow0 : RowAt G (okOf F L' (s.upd [(nid, Ent.row e (xs ++ ys) lock), (id, e')])) (w.setCells l.b o0 news) e xs l.b (l.off + lo * szT G e) := by
    have h1 := r6.sub lo xs.length
    rw [← hx] at h1
    refine h1.mono k fun o v hcl ho => ?_
    rw [cells]
    · exact hcl
    · rintro ⟨_, h2, _⟩
      rw [← ho0, r1, Nat.add_mul] at h2
      omega
  have hrow : RowAt G (okOf F L' (s.upd [(nid, Ent.row e (xs ++ ys) lock), (id, e')])) (w.setCells l.b o0 news) e (xs ++ ys) l.b (l.off + lo * szT G e) := by
    obtain ⟨ls, p1, p2, p3⟩ := hr.el
    refine hrow0.append (B := some ⟨l.b, o0, none⟩) (news := news) ⟨hr.len, ⟨ls, p1, p2, fun i hi => by obtain ⟨l, q1, q2⟩ := p3 i hi; exact ⟨l, q1, q2.mono k⟩⟩, .inr ⟨_, _, rfl, cellN⟩⟩ fun j v hj => ?_
    have := cellN j v hj
    have e1 : l.off + lo * szT G e + (xs.length * szT G e + j) = o0 + j := by rw [← ho0, r1, Nat.add_mul]; omega
    rw [e1]; exact this
  refine h.step [(nid, .row e (xs ++ ys) lock), (id, e')] hf k hLo ?_ ?_ (by rw [setCells_size]; exact Nat.le_refl _) ?_ ?_
  · intro i f m hu hi of hm
    have hij : i ≠ id := by
      intro e0; subst e0
      rw [lookT_cons, lookT_cons, if_neg (Ne.symm hid), if_pos rfl] at hu; cases hu
    exact heap_setCells_other l.b news o0 w m.b (h.e.dis i id f _ m l hi hs hm hl of trivial hij)
  · intro i f hu
    rw [lookT_cons] at hu
    split at hu
    · rename_i h1; subst h1; cases hu
      refine ⟨?_, by simp [Ent.ids]⟩
      simp only [RepE, if_true]
      refine ⟨by simp; omega, r1, by simp, hroom, ⟨_, el, heap_setCells l.b news o0 w cur r4 hsz, ?_⟩, Eq.mp (congrArg (RowAt G (okOf F L' (s.upd [(nid, Ent.row e (xs ++ ys) lock), (id, e')])) (w.setCells l.b o0 news) e (xs ++ ys) l.b) (by rw [r1] : l.off + lo * szT G e = l.off + lo * l.sz)) hrow⟩
      have h1 : (lo + c) * l.sz ≤ l.cap * l.sz := Nat.mul_le_mul_right _ hc
      have h2 : (lo + c) * l.sz = lo * l.sz + c * l.sz := Nat.add_mul _ _ _
      have h3 : (splice cur.toList o0 news).length = cur.size := by unfold splice; simp; omega
      simp only [List.size_toArray, h3]; omega
    · rw [lookT_cons] at hu
      split at hu
      · rename_i h1 h2; subst h2; cases hu
        rcases he with rfl | ⟨rfl, rfl, rfl, rfl⟩
        · exact ⟨trivial, by simp [Ent.ids]⟩
        · refine ⟨?_, by simp [Ent.ids]⟩
          simp only [RepE, if_neg hid, hl]
          refine ⟨r1, r2, fun o v p q _ => ⟨h.base hs hl trivial o, fun h3 => ?_⟩, ?_⟩
          · have := (ownd _ _ h3).2 rfl
            rw [r2] at q; omega
          · exact Eq.mp (congrArg (RowAt G (okOf F L' (s.upd [(nid, Ent.row e (xs ++ ys) xs.length), (id, Ent.fz e xs)])) (w.setCells l.b o0 news) e xs l.b) (by simp : l.off + 0 * szT G e = l.off)) hrow0
      · cases hu
  · intro i j f g m m' hu hj hm hm' of og ne
    have hi : i = nid := by
      rw [lookT_cons] at hu
      split at hu
      · rename_i h1; exact h1.symm
      · rw [lookT_cons] at hu
        split at hu
        · cases hu; exact absurd of noe'
        · cases hu
    subst hi
    rw [lku, if_neg (Ne.symm ne)] at hj
    split at hj
    · cases hj; exact absurd og noe'
    · rename_i h2
      have hm' : L' j = some m' := hm'
      rw [hLo j (by simp [hj])] at hm'
      have hm : L' i = some m := hm
      rw [hLn] at hm; cases hm
      exact Ne.symm (h.e.dis j id g _ m' l hj hs hm' hl og trivial h2)
  · intro i f m hu hm of
    have hi : i = nid := by
      rw [lookT_cons] at hu
      split at hu
      · rename_i h1; exact h1.symm
      · rw [lookT_cons] at hu
        split at hu
        · cases hu; exact absurd of noe'
        · cases hu
    subst hi
    rw [lookT_cons, if_pos rfl] at hu; cases hu
    have hm : L' i = some m := hm
    rw [hLn] at hm; cases hm
    rw [setCells_size]
    refine ⟨own.1, own.2.imp (fun h => h) fun h1 o' => ⟨fun hw => (h1 o').1 ⟨rfl, ?_⟩, (h1 o').2⟩⟩
    have := hw.2
    simp only at this; omega
end
end Go.Abs
end
section
set_option linter.all false
set_option linter.unusedVariables false
set_option linter.unusedSimpArgs false
set_option linter.unnecessarySimpa false
/-
  ABS, part 18: append, as an operation.
-/
namespace Go.Abs
open Go
variable {G : Gam}

section
variable {P : Program} {F : Frm} {nt : Nat} {L : LM} {s : St G} {a : Act} {w : World}

theorem Row.src {ok : Cells} {e : Ty} {ys : List (G.D e)} {B : Option Addr} {news : List Value} (h : Row G ok w e ys B news) {t e' : TypeId} (hk : P.underlying t = some (.slice e')) (c : Nat) {z : Nat} (hz : z = szT G e) :
    Src P z t (.slice B ys.length c) ys.length news w := by
  subst hz
  cases B with
  | none =>
    rcases h.mem with h0 | ⟨b, o, h0, _⟩
    · have hl := h.len
      rw [h0, Nat.zero_mul] at hl
      rw [h0, List.length_eq_zero_iff.mp hl]
      exact Src.ofNil w hk c
    · cases h0
  | some A =>
    refine Src.ofSlice w hk A ys.length c news h.len (fun j u hj => ?_) h.one
    rcases h.mem with h0 | ⟨b, o, h0, h1⟩
    · have hl := h.len
      rw [h0, Nat.zero_mul] at hl
      rw [List.length_eq_zero_iff.mp hl] at hj; simp at hj
    · cases h0
      simpa [Addr.add_lit] using h1 j u hj

/-- The base's elements. -/
theorem Base.row_of (h : Rel F nt L s a w) {e : Ty} {xs : List (G.D e)} {A : Option Addr} {c lock : Nat} {used : List (Nat × Ent G)} (hb : Base G F L s e xs A c lock used) (hle : xs.length ≤ c) : ∃ olds, Row G (okOf F L s) w e xs A olds := by
  cases hb with
  | nil hx => subst hx; exact ⟨[], Row.nil⟩
  | bare _ _ _ _ _ hx => subst hx; exact ⟨[], Row.nil⟩
  | row id lo lk l zs hs hl hx hn hc hA =>
    have hre := h.e.en id _ hs
    simp only [RepE, hl] at hre
    have := Row.ofRowAt (A := A) hre.2.2.2.2.2 (lo := lo) (n := xs.length) (by omega) (by rcases hA with h1 | h1; exact .inl (by omega); exact .inr (by rw [← hre.2.1]; exact h1))
    rw [← hx] at this; exact this

theorem Base.lock_le {e : Ty} {xs : List (G.D e)} {A : Option Addr} {c lock : Nat} {used : List (Nat × Ent G)} (hb : Base G F L s e xs A c lock used) : lock ≤ xs.length := by
  cases hb with
  | nil _ _ h => omega
  | bare _ _ _ _ _ _ _ h => omega
  | row _ _ _ _ _ _ _ _ _ _ _ _ _ h => exact h

theorem append_ok {o : Oper} {t et b z nid : Nat} {x y : Operand} {e : Ty} {xs ys : List (G.D e)} {lock : Nat} {used : List (Nat × Ent G)} {keep : Bool} {args : Array Operand} {ats : Array TypeId} {res : Array TypeId} {s0 : St G} {zc : List (EV G)} {call : Call}
    (hd : ∀ t, o.dst = some t → t < nt) (ho : o.op = .call call) (hcal : call.callee = .builtin .append) (hargs : call.args = #[x, y]) (hats : call.argTypes = #[t, t])
    (he : elemT P t = some et) (hby : bytesT P et = some b) (hs : sizeT P et = some z) (hz : z = szT G e) (hb : baseOf s0 keep e (s0.ev x) = some (xs, lock, used)) (hy : rowOfD s0 e (s0.ev y) = some ys)
    (hf : s0.look nid = none) (hz1 : 1 ≤ z) (hzc : zeroCells P et = some zc) (hzl : zc.length = z) (hlim : ((xs.length : Int) + ys.length) * (b : Int) ≤ 70368744177664) (hb1 : 1 ≤ b)
    (hbc : ∀ s : St G, (∀ i ∈ (s0.ev x).ids, s.look i = s0.look i) → baseOf s keep e (s0.ev x) = baseOf s0 keep e (s0.ev x)) (hyc : ∀ s : St G, (∀ i ∈ (s0.ev y).ids, s.look i = s0.look i) → rowOfD s e (s0.ev y) = rowOfD s0 e (s0.ev y)) :
    OpOK P nt o s0.ev (nid :: ((s0.ev x).ids ++ (s0.ev y).ids)) s0.look (.ow nid) ((nid, .row e (xs ++ ys) lock) :: used) := by
  intro F L s a w h hev hlk
  have hfree : s.look nid = none := by rw [hlk nid (by simp)]; exact hf
  have hxe : s.ev x = s0.ev x := hev x (by simp [ho, Op.operands, Call.operands, hcal, hargs])
  have hye : s.ev y = s0.ev y := hev y (by simp [ho, Op.operands, Call.operands, hcal, hargs])
  have hb' : baseOf s keep e (s.ev x) = some (xs, lock, used) := by rw [hxe, hbc s (fun i hi => hlk i (by simp [hi]))]; exact hb
  have hy' : rowOfD s e (s.ev y) = some ys := by rw [hye, hyc s (fun i hi => hlk i (by simp [hi]))]; exact hy
  obtain ⟨A, c, hax, hle, hbase⟩ := baseOf_sem h hb' (h.ev x)
  obtain ⟨B, c2, news, hay, hle2, hrow⟩ := rowOf_sem h hy' (h.ev y)
  obtain ⟨olds, holds⟩ := hbase.row_of h hle
  have hu := elemT_under he
  unfold sizeT at hs
  unfold bytesT at hby
  cases hi : P.info? et with
  | none => rw [hi] at hs; cases hs
  | some i =>
  rw [hi] at hs hby
  have hiz : i.size = z := some_inj hs
  have hib : i.bytes = b := some_inj hby
  have hsrc : Src P i.size t (.slice B ys.length c2) ys.length news w := hrow.src hu c2 (by rw [hiz, hz])
  have nn : ∀ i, (s.look i).isSome → i ≠ nid := fun i hi e => by subst e; rw [hfree] at hi; cases hi
  have hin : (s.upd ((nid, Ent.row e (xs ++ ys) lock) :: used)).look nid = some (.row e (xs ++ ys) lock) := by rw [St.look_upd, lookT_cons, if_pos rfl]; rfl
  have fin : ∀ (v : Value) (w' : World) (L' : LM), (Builtin.append_ #[t, t] o.type #[.slice A xs.length c, .slice B ys.length c2]).run P w = .ok v w' → Rel F nt L' (s.upd ((nid, .row e (xs ++ ys) lock) :: used)) a w' →
      RepV (okOf F L' (s.upd ((nid, .row e (xs ++ ys) lock) :: used))) w' L' (EV.ow nid : EV G) v →
      o.wp P a w (fun a' w' => ∃ L', Rel F nt L' ((s.upd ((nid, .row e (xs ++ ys) lock) :: used)).put o.dst (.ow nid)) a' w') (fun _ _ _ => False) := by
    intro v w' L' hrun hrel hrep
    refine wp_value (u := v) (w' := w') ?_ ⟨L', hrel.put o.dst hd _ _ hrep (by simp [EV.ids, hin])⟩
    have e1 : call.args.map a.eval = #[.slice A xs.length c, .slice B ys.length c2] := by rw [hargs]; simp [hax, hay]
    simp [execOp, ho, resolve, invoke, builtin, hcal, e1, hats, hrun]
  by_cases hroom : xs.length + ys.length ≤ c
  · by_cases hc0 : c = 0
    · -- nothing, onto nothing
      have hx0 : xs = [] := List.length_eq_zero_iff.mp (by omega)
      have hy0 : ys = [] := List.length_eq_zero_iff.mp (by omega)
      subst hx0; subst hy0; subst hc0
      have hlock : lock = 0 := by have := hbase.lock_le; simpa using this
      subst hlock
      have hn0 : news = [] := List.length_eq_zero_iff.mp (by rw [hrow.len]; simp)
      subst hn0
      refine fin _ w (fun i => if i = nid then none else L i) (run_append_nothing w t t _ et i hu hi A 0 0 (Nat.le_refl _) _ hsrc) ?_ ?_
      · have hused : ∀ i f, lookT used i = some f → i ≠ nid ∧ ¬ owner f ∧ f.ids = [] ∧ (f = .tomb ∨ (f = .fz e [] ∧ ∀ l, L i = some l → l.sz = szT G e ∧ l.len = 0)) := by
          intro i f hf
          cases hbase with
          | nil => cases hf
          | bare id lk zs hs hl hx hc h0 e' he =>
            rw [lookT_cons] at hf
            split at hf
            · rename_i hid; subst hid; cases hf
              refine ⟨nn id (by simp [hs]), by rcases he with rfl | rfl <;> simp [owner], by rcases he with rfl | rfl <;> simp [Ent.ids], he.imp (fun h => h) fun he => ⟨he, fun l q => by rw [hl] at q; cases q⟩⟩
            · cases hf
          | row id lo lk l zs hs hl hx hn hc hA hlk hlk2 hle e' he =>
            rw [lookT_cons] at hf
            split at hf
            · rename_i hid; subst hid; cases hf
              refine ⟨nn id (by simp [hs]), by rcases he with rfl | ⟨rfl, _⟩ <;> simp [owner], by rcases he with rfl | ⟨rfl, _⟩ <;> simp [Ent.ids], he.imp (fun h => h) fun he => ⟨he.1, fun l' q => ?_⟩⟩
              rw [hl] at q; cases q
              have hre := h.e.en id _ hs
              simp only [RepE, hl] at hre
              exact ⟨hre.2.1, by rw [hre.2.2.1, ← he.2.2.1]; rfl⟩
            · cases hf
        refine h.release _ _ (fun i hi => if_neg (nn i hi)) ?_ ?_
        · intro i f hf l hl of
          rw [lookT_cons] at hf
          split at hf
          · rename_i h1; subst h1; simp at hl
          · exact absurd of (hused i f hf).2.1
        · intro i f hf
          rw [lookT_cons] at hf
          split at hf
          · rename_i h1; subst h1; cases hf
            exact ⟨by simp [Ent.ids], fun _ _ _ => by simp [RepE]⟩
          · obtain ⟨h1, h2, h3, h4⟩ := hused i f hf
            refine ⟨by simp [h3], fun ok' k _ => ?_⟩
            rcases h4 with rfl | ⟨rfl, h5⟩
            · trivial
            · simp only [RepE, if_neg h1]
              cases hl : L i with
              | none => trivial
              | some l =>
                obtain ⟨q1, q2⟩ := h5 l hl
                refine ⟨q1, q2, fun o v p q _ => by rw [q2] at q; omega, fun _ => [], fun i hi => absurd hi (Nat.not_lt_zero _)⟩
      · simp only [RepV, if_true]; exact ⟨A, rfl⟩
    · -- there is room
      cases hbase with
      | nil _ hc => exact absurd hc hc0
      | bare _ _ _ _ _ _ hc => exact absurd hc hc0
      | row id lo lk l zs hs hl hx hn hc hA hlk hlk2 hle' e' he =>
        have hA' : A = some ⟨l.b, l.off + lo * l.sz, none⟩ := by rcases hA with h1 | h1; exact absurd h1 hc0; exact h1
        subst hA'
        have hre := h.e.en id _ hs
        simp only [RepE, hl] at hre
        obtain ⟨r0, r1, r2, r3, ⟨cur, el, r4, r5⟩, r6⟩ := hre
        have hzl' : i.size = l.sz := by rw [hiz, hz, r1]
        have hnl : news.length = ys.length * l.sz := by rw [hrow.len, r1]
        have hbound : ∀ j, j < news.length → l.off + lo * l.sz + xs.length * i.size + j < cur.size := by
          intro j hj
          have h1 : (lo + (xs.length + ys.length)) * l.sz ≤ l.cap * l.sz := Nat.mul_le_mul_right _ (by omega)
          have h2 : (lo + (xs.length + ys.length)) * l.sz = lo * l.sz + xs.length * l.sz + ys.length * l.sz := by rw [← Nat.add_mul, ← Nat.add_mul]; congr 1; omega
          rw [hzl']; omega
        have hrun := run_append_room_src (P := P) w t t o.type et i hu hi l.b (l.off + lo * l.sz) xs.length c (.slice B ys.length c2) ys.length news hsrc hroom
          (fun j hj => by have := hbound j hj; simp only [World.cell?, r4]; simp [this]) (fun j hj => by simp [World.frozen?, r4])
        have e1 : l.off + lo * l.sz + xs.length * i.size = l.off + (lo + xs.length) * l.sz := by rw [hzl', Nat.add_mul]; omega
        rw [e1] at hrun
        refine fin _ _ _ hrun (append_place h hfree hs hl hx hn hc hlk hlk2 hle' he hrow hroom) ?_
        simp only [RepV, if_true]
        exact ⟨_, c, rfl, hroom, Nat.le_refl _, .inr rfl⟩
  · -- it grows
    have hzr : ∃ zv, i.zero = some zv ∧ zv.cells.size = z := by
      obtain ⟨zv, z1, z2⟩ := zeroCells_sem hzc w
      have := (z2 (fun _ _ => True) w L).length
      cases hzv : i.zero with
      | none => simp [zeroValue, typeInfo, hi, hzv] at z1
      | some zv' =>
        have : zv' = zv := by simpa [zeroValue, typeInfo, hi, hzv] using z1
        subst this
        exact ⟨_, rfl, by rw [← hzl, ‹zc.length = _›]; simp⟩
    obtain ⟨zv, hzv, hzs⟩ := hzr
    have hold : (Builtin.firstCells i.size xs.length (.slice A xs.length c)).run P w.drew = .ok olds.toArray w.drew := by
      have hos := (holds.src (P := P) hu c (z := i.size) (by rw [hiz, hz])).cellsD
      cases A <;> exact hos
    have hb48 : (xs.length + ys.length) * b ≤ 70368744177664 := by
      have : (((xs.length + ys.length) * b : Nat) : Int) ≤ 70368744177664 := by push_cast; exact hlim
      omega
    have h63 : xs.length + ys.length ≤ 70368744177664 := Nat.le_trans (Nat.le_mul_of_pos_right _ hb1) hb48
    have hrun := run_append_grow_src (P := P) w t t o.type et i zv hu hi hzv A xs.length c olds hold (.slice B ys.length c2) ys.length news hsrc (by omega) (by omega) (growslice_fits (by omega) (by rw [hib]; omega))
    have hge := grownCap_ge w (xs.length + ys.length) c et
    obtain ⟨ls1, p1, p2, p3⟩ := holds.el
    obtain ⟨ls2, q1, q2, q3⟩ := hrow.el
    have hg := append_grow h hfree hbase (ys := ys) (et := et) (w' := w.drew.alloc (.cells ((olds ++ news).toArray ++ Builtin.zeroCells zv.cells (grownCap w (xs.length + ys.length) c et - (xs.length + ys.length))) et))
      (cvs := (olds ++ news).toArray ++ Builtin.zeroCells zv.cells (grownCap w (xs.length + ys.length) c et - (xs.length + ys.length))) rfl rfl rfl rfl (cap := grownCap w (xs.length + ys.length) c et) hge ?_ (ls := ls1 ++ ls2) (by simp [p1, q1]) ?_ ?_
    · refine fin _ _ _ hrun hg ?_
      simp only [RepV, if_true]
      exact ⟨_, _, by simp; rfl, by simpa using hge, Nat.le_refl _, .inr (by simp)⟩
    · simp only [Array.size_append, List.size_toArray, size_zeroCells, hzs, List.length_append, holds.len, hrow.len, ← Nat.add_mul, ← hz]
      exact Nat.mul_le_mul_right _ (by omega)
    · intro j hj
      by_cases h1 : j < xs.length
      · obtain ⟨l, a1, a2⟩ := p3 j h1
        exact ⟨l, by rw [List.getElem?_append_left (by omega)]; exact a1, by rw [List.getElem_append_left h1]; exact a2⟩
      · have hj' : j - xs.length < ys.length := by simp at hj; omega
        obtain ⟨l, a1, a2⟩ := q3 _ hj'
        exact ⟨l, by rw [List.getElem?_append_right (by omega), p1]; exact a1, by rw [List.getElem_append_right (by omega)]; exact a2⟩
    · rw [Array.toList_append, p2, q2, List.flatten_append]
      exact ⟨_, rfl⟩
end
end Go.Abs
end
section
set_option linter.all false
set_option linter.unusedVariables false
set_option linter.unusedSimpArgs false
set_option linter.unnecessarySimpa false
/-
  ABS, part 19: calls: names of entries turned, and what does not lie in memory.
-/
namespace Go.Abs
open Go
variable {G : Gam}

/-! ### names turned -/
mutual
theorem EV.rn_ids {ρ : Nat → Option Nat} : ∀ {v : EV G} {j : Nat}, j ∈ (v.rn ρ).ids → ∃ i ∈ v.ids, ρ i = some j
  | .ow i, j, h => by
      simp only [EV.rn] at h
      split at h
      · rename_i k hk; simp [EV.ids] at h; subst h; exact ⟨i, by simp [EV.ids], hk⟩
      · simp [EV.ids] at h
  | .vw i lo n, j, h => by
      simp only [EV.rn] at h
      split at h
      · rename_i k hk; simp [EV.ids] at h; subst h; exact ⟨i, by simp [EV.ids], hk⟩
      · simp [EV.ids] at h
  | .ptr i o, j, h => by
      simp only [EV.rn] at h
      split at h
      · rename_i k hk; simp [EV.ids] at h; subst h; exact ⟨i, by simp [EV.ids], hk⟩
      · simp [EV.ids] at h
  | .ept i x o, j, h => by
      simp only [EV.rn] at h
      split at h
      · rename_i k hk; simp [EV.ids] at h; subst h; exact ⟨i, by simp [EV.ids], hk⟩
      · simp [EV.ids] at h
  | .fn f cs, j, h => by simp only [EV.rn, EV.ids] at h ⊢; exact EV.rns_ids h
  | .ag l, j, h => by simp only [EV.rn, EV.ids] at h ⊢; exact EV.rns_ids h
  | .tp l, j, h => by simp only [EV.rn, EV.ids] at h ⊢; exact EV.rns_ids h
  | .d τ x, j, h => by simp [EV.rn, EV.ids] at h
  | .nl, j, h => by simp [EV.rn, EV.ids] at h
  | .rp τ x o, j, h => by simp [EV.rn, EV.ids] at h
  | .c v, j, h => by simp [EV.rn, EV.ids] at h
  | .un, j, h => by simp [EV.rn, EV.ids] at h
  | .u, j, h => by simp [EV.rn, EV.ids] at h
theorem EV.rns_ids {ρ : Nat → Option Nat} : ∀ {l : List (EV G)} {j : Nat}, j ∈ EV.idss (EV.rns ρ l) → ∃ i ∈ EV.idss l, ρ i = some j
  | [], j, h => by simp [EV.rns, EV.idss] at h
  | v :: l, j, h => by
      simp only [EV.rns, EV.idss, List.mem_append] at h
      rcases h with h | h
      · obtain ⟨i, hi, hj⟩ := EV.rn_ids h; exact ⟨i, by simp [EV.idss, hi], hj⟩
      · obtain ⟨i, hi, hj⟩ := EV.rns_ids h; exact ⟨i, by simp [EV.idss, hi], hj⟩
end

/-- What lay where under the old names, lies there under the new ones. -/
def Turn (ρ : Nat → Option Nat) (L L' : LM) (ids : List Nat) : Prop := ∀ i ∈ ids, ∀ j, ρ i = some j → L' j = L i

mutual
theorem RepV.rn {ok : Cells} {w : World} {L L' : LM} {ρ : Nat → Option Nat} : ∀ {x : EV G} {v : Value}, Turn ρ L L' x.ids → RepV ok w L x v → RepV ok w L' (x.rn ρ) v
  | .d τ x, v, _, h => by simpa only [EV.rn, RepV] using h
  | .nl, v, _, h => by simpa only [EV.rn, RepV] using h
  | .ow id, v, hs, h => by
      simp only [EV.rn]
      split
      · rename_i j hj; simp only [RepV] at h ⊢; rw [hs id (by simp [EV.ids]) j hj]; exact h
      · simp only [RepV]
  | .vw id lo n, v, hs, h => by
      simp only [EV.rn]
      split
      · rename_i j hj; simp only [RepV] at h ⊢; rw [hs id (by simp [EV.ids]) j hj]; exact h
      · simp only [RepV]
  | .ptr id off, v, hs, h => by
      simp only [EV.rn]
      split
      · rename_i j hj; simp only [RepV] at h ⊢; rw [hs id (by simp [EV.ids]) j hj]; exact h
      · simp only [RepV]
  | .ept id i off, v, hs, h => by
      simp only [EV.rn]
      split
      · rename_i j hj; simp only [RepV] at h ⊢; rw [hs id (by simp [EV.ids]) j hj]; exact h
      · simp only [RepV]
  | .rp τ x off, v, _, h => by simpa only [EV.rn, RepV] using h
  | .fn f cs, v, hs, h => by simp only [EV.rn, RepV] at h ⊢; obtain ⟨a, ha, hr⟩ := h; exact ⟨a, ha, RepVs.rn (by simpa [EV.ids] using hs) hr⟩
  | .ag l, v, hs, h => by simp only [EV.rn, RepV] at h ⊢; obtain ⟨a, ha, hr⟩ := h; exact ⟨a, ha, RepVs.rn (by simpa [EV.ids] using hs) hr⟩
  | .tp l, v, hs, h => by simp only [EV.rn, RepV] at h ⊢; obtain ⟨a, ha, hr⟩ := h; exact ⟨a, ha, RepVs.rn (by simpa [EV.ids] using hs) hr⟩
  | .c v', v, _, h => by simpa only [EV.rn, RepV] using h
  | .un, v, _, h => by simpa only [EV.rn, RepV] using h
  | .u, v, _, _ => by simp only [EV.rn, RepV]
theorem RepVs.rn {ok : Cells} {w : World} {L L' : LM} {ρ : Nat → Option Nat} : ∀ {l : List (EV G)} {vs : List Value}, Turn ρ L L' (EV.idss l) → RepVs ok w L l vs → RepVs ok w L' (EV.rns ρ l) vs
  | [], [], _, _ => by simp only [EV.rns, RepVs]
  | x :: l, v :: vs, hs, h => by
      simp only [EV.rns, RepVs] at h ⊢
      exact ⟨RepV.rn (fun i hi => hs i (by simp [EV.idss, hi])) h.1, RepVs.rn (fun i hi => hs i (by simp [EV.idss, hi])) h.2⟩
  | [], _ :: _, _, h => by simp [RepVs] at h
  | _ :: _, [], _, h => by simp [RepVs] at h
end

theorem Ent.rn_ids {ρ : Nat → Option Nat} {e : Ent G} {j : Nat} (h : j ∈ (e.rn ρ).ids) : ∃ i ∈ e.ids, ρ i = some j := by
  cases e with
  | box cs => exact EV.rns_ids h
  | fill e xs cs zc n t => exact EV.rns_ids h
  | _ => simp [Ent.rn, Ent.ids] at h
theorem Ent.rn_owner {ρ : Nat → Option Nat} {e : Ent G} : owner (e.rn ρ) ↔ owner e := by cases e <;> rfl
theorem Ent.rn_owns {ρ : Nat → Option Nat} {e : Ent G} {l : Loc} : owns l (e.rn ρ) = owns l e := by cases e <;> rfl

theorem EV.rns_len (ρ : Nat → Option Nat) : ∀ l : List (EV G), (EV.rns ρ l).length = l.length
  | [] => rfl
  | _ :: l => by simp [EV.rns, EV.rns_len ρ l]
theorem FillAt.rn {ok : Cells} {w : World} {L L' : LM} {ρ : Nat → Option Nat} {cs zc : List (EV G)} {m n sz b off : Nat} {t : Bool} (ht : Turn ρ L L' (EV.idss cs)) (h : FillAt ok w L cs zc m n sz b off t) : FillAt ok w L' (EV.rns ρ cs) zc m n sz b off t where
  le := h.le
  tk := h.tk
  cl := by rw [EV.rns_len]; exact h.cl
  zl := h.zl
  zi := h.zi
  at' := fun hm => by obtain ⟨us, h1, h2⟩ := h.at' hm; exact ⟨us, h1.rn ht, h2⟩
  zs := h.zs

theorem RepE.rn {ok : Cells} {w : World} {L L' : LM} {ρ : Nat → Option Nat} {i j : Nat} {e : Ent G} (hi : L' j = L i) (ht : Turn ρ L L' e.ids) (h : RepE ok w L i e) : RepE ok w L' j (e.rn ρ) := by
  cases e with
  | box cs => obtain ⟨l, cvs, el, h1, h2, h3⟩ := h; exact ⟨l, cvs, el, by rw [hi]; exact h1, h2, h3.rn ht⟩
  | row e xs lock => simp only [RepE, Ent.rn] at h ⊢; rw [hi]; exact h
  | fz e xs => simp only [RepE, Ent.rn] at h ⊢; rw [hi]; exact h
  | tomb => trivial
  | fill e xs cs zc n t =>
    obtain ⟨l, cvs, el, h1, h2, h3, h4, h5, h6, h7, h8, h9⟩ := h
    exact ⟨l, cvs, el, by rw [hi]; exact h1, h2, h3, h4, h5, h6, h7, h8, h9.rn ht⟩

/-! ### what lies nowhere -/
theorem RepD.free_leaf {ok ok' : Cells} {w : World} {τ : Ty} {x : G.D τ} {cs : List Value} (hl : τ.leaf = true) (hn : ∀ e, τ ≠ .sl e ∧ τ ≠ .sn e) (h : RepD G ok w τ x cs) : RepD G ok' w τ x cs := by
  cases h with
  | int k n => exact .int k n
  | bool b => exact .bool b
  | str s => exact .str s
  | sl e => exact absurd rfl (hn e).1
  | sn e => exact absurd rfl (hn e).2
  | st => cases hl
theorem RepL.free {ok ok' : Cells} {w : World} : ∀ {l : List (Lf G.S)} {cs : List Value}, (∀ τ ∈ l.map (fun | .mk τ _ => τ), τ.leaf = true ∧ ∀ e, τ ≠ .sl e ∧ τ ≠ .sn e) → RepL G ok w l cs → RepL G ok' w l cs := by
  intro l
  induction l with
  | nil => intro cs _ h; cases h; exact .nil
  | cons a l ih =>
    intro cs hl h
    cases h with
    | cons τ x u _ vs h t =>
      refine .cons _ _ _ _ _ (h.free_leaf (hl τ (by simp)).1 (hl τ (by simp)).2) (ih (fun τ' h' => hl τ' (by simp at h' ⊢; exact .inr h')) t)
theorem RepD.free {ok ok' : Cells} {w : World} {τ : Ty} {x : G.D τ} {cs : List Value} (hn : τ.hasSl G = false) (h : RepD G ok w τ x cs) : RepD G ok' w τ x cs := by
  cases h with
  | int k n => exact .int k n
  | bool b => exact .bool b
  | str s => exact .str s
  | sl e => cases hn
  | sn e => cases hn
  | st t x cs h =>
    refine .st t x cs (h.free fun τ hτ => ?_)
    rw [G.tys t x] at hτ
    refine ⟨G.flat t τ hτ, fun e => ⟨fun he => ?_, fun he => ?_⟩⟩ <;>
    · subst he
      have := List.any_eq_false.mp hn _ hτ
      simp at this

mutual
theorem RepV.free {ok ok' : Cells} {w : World} {L : LM} : ∀ {x : EV G} {v : Value}, x.hasSl = false → RepV ok w L x v → RepV ok' w L x v
  | .d τ x, v, hs, h => by
      simp only [RepV] at h ⊢
      exact ⟨h.1, h.2.free_leaf h.1 (fun e => ⟨fun he => by subst he; simp [EV.hasSl] at hs, fun he => by subst he; simp [EV.hasSl] at hs⟩)⟩
  | .nl, v, _, h => by simpa only [RepV] using h
  | .ow id, v, hs, h => by simpa only [RepV] using h
  | .vw id lo n, v, hs, h => by simpa only [RepV] using h
  | .ptr id off, v, hs, h => by simpa only [RepV] using h
  | .ept id i off, v, hs, h => by simpa only [RepV] using h
  | .rp τ x off, v, hs, h => by simp [EV.hasSl] at hs
  | .fn f cs, v, hs, h => by simp only [RepV] at h ⊢; obtain ⟨a, ha, hr⟩ := h; exact ⟨a, ha, RepVs.free (by simpa [EV.hasSl] using hs) hr⟩
  | .ag l, v, hs, h => by simp only [RepV] at h ⊢; obtain ⟨a, ha, hr⟩ := h; exact ⟨a, ha, RepVs.free (by simpa [EV.hasSl] using hs) hr⟩
  | .tp l, v, hs, h => by simp only [RepV] at h ⊢; obtain ⟨a, ha, hr⟩ := h; exact ⟨a, ha, RepVs.free (by simpa [EV.hasSl] using hs) hr⟩
  | .c v', v, _, h => by simpa only [RepV] using h
  | .un, v, _, h => by simpa only [RepV] using h
  | .u, v, _, _ => by simp only [RepV]
theorem RepVs.free {ok ok' : Cells} {w : World} {L : LM} : ∀ {l : List (EV G)} {vs : List Value}, EV.hasSls l = false → RepVs ok w L l vs → RepVs ok' w L l vs
  | [], [], _, _ => by simp only [RepVs]
  | x :: l, v :: vs, hs, h => by
      simp only [RepVs] at h ⊢
      simp only [EV.hasSls, Bool.or_eq_false_iff] at hs
      exact ⟨RepV.free hs.1 h.1, RepVs.free hs.2 h.2⟩
  | [], _ :: _, _, h => by simp [RepVs] at h
  | _ :: _, [], _, h => by simp [RepVs] at h
end

theorem RepE.free {ok ok' : Cells} {w : World} {L : LM} {i : Nat} {e : Ent G} (hn : e.hasSl = false) (h : RepE ok w L i e) : RepE ok' w L i e := by
  cases e with
  | box cs => obtain ⟨l, cvs, el, h1, h2, h3⟩ := h; exact ⟨l, cvs, el, h1, h2, h3.free hn⟩
  | row e xs lock =>
    simp only [RepE] at h ⊢
    refine ⟨h.1, ?_⟩
    cases hl : L i with
    | none => simpa [hl] using h.2
    | some l =>
      simp only [hl] at h
      obtain ⟨_, h1, h2, h3, h4, css, h5⟩ := h
      exact ⟨h1, h2, h3, h4, css, fun i hi => ⟨(h5 i hi).1.free hn, (h5 i hi).2⟩⟩
  | fz e xs => simp [Ent.hasSl] at hn
  | tomb => trivial
  | fill => simp [Ent.hasSl] at hn

/-! ### lists of names -/
theorem addNew_spec : ∀ (r l : List Nat), l.Nodup → (addNew l r).Nodup ∧ ∀ i, i ∈ addNew l r ↔ i ∈ l ∨ i ∈ r := by
  intro r
  induction r with
  | nil => intro l hl; exact ⟨hl, fun i => by simp [addNew]⟩
  | cons a r ih =>
    intro l hl
    simp only [addNew]
    by_cases h : l.contains a = true
    · rw [h]
      obtain ⟨h1, h2⟩ := ih l hl
      refine ⟨h1, fun i => ?_⟩
      simp only [cond_true, h2, List.mem_cons]
      have : a ∈ l := by simpa using h
      constructor
      · rintro (h | h) <;> simp [h]
      · rintro (h | rfl | h) <;> simp [*]
    · have h' : l.contains a = false := by simpa using h
      rw [h']
      have hn : a ∉ l := by simpa using h'
      obtain ⟨h1, h2⟩ := ih (l ++ [a]) (by
        rw [List.nodup_append]
        exact ⟨hl, by simp, fun x hx y hy => by simp at hy; subst hy; exact fun e => hn (e ▸ hx)⟩)
      refine ⟨h1, fun i => ?_⟩
      simp only [cond_false, h2, List.mem_append, List.mem_cons, or_assoc, List.not_mem_nil, false_or]

theorem indexOf_some {i : Nat} : ∀ {l : List Nat} {n j : Nat}, indexOf i l n = some j → n ≤ j ∧ l[j - n]? = some i := by
  intro l
  induction l with
  | nil => intro n j h; cases h
  | cons a l ih =>
    intro n j h
    simp only [indexOf, beq_nat, cond_dec] at h
    split at h
    · rename_i e; cases h; subst e; simp
    · obtain ⟨h1, h2⟩ := ih h
      refine ⟨by omega, ?_⟩
      rw [show j - n = (j - (n + 1)) + 1 by omega, List.getElem?_cons_succ]; exact h2

theorem looks_spec {s : St G} : ∀ {l : List Nat} {es : List (Ent G)}, looks s l = some es → es.length = l.length ∧ ∀ (i j : Nat), l[i]? = some j → ∃ e, s.look j = some e ∧ es[i]? = some e := by
  intro l
  induction l with
  | nil => intro es h; simp [looks] at h; subst h; exact ⟨rfl, fun i j h => by simp at h⟩
  | cons a l ih =>
    intro es h
    simp only [looks] at h
    split at h
    · rename_i e he
      split at h
      · rename_i m hm
        cases h
        obtain ⟨h1, h2⟩ := ih hm
        refine ⟨by simp [h1], fun i j h => ?_⟩
        cases i with
        | zero => simp at h; subst h; exact ⟨e, he, by simp⟩
        | succ i => simpa using h2 i j (by simpa using h)
      · cases h
    · cases h

theorem number_look : ∀ (es : List (Ent G)) (n i : Nat), lookT (number n es) i = if n ≤ i then es[i - n]? else none := by
  intro es
  induction es with
  | nil => intro n i; simp [number, lookT]
  | cons e es ih =>
    intro n i
    simp only [number, lookT_cons, ih]
    by_cases h : n = i
    · subst h; simp
    · rw [if_neg h]
      by_cases h2 : n + 1 ≤ i
      · rw [if_pos h2, if_pos (by omega), show i - n = (i - (n + 1)) + 1 by omega, List.getElem?_cons_succ]
      · rw [if_neg h2, if_neg (by omega)]

theorem zipE_some : ∀ {l : List Nat} {es : List (Ent G)} {j : Nat} {e : Ent G}, lookT (zipE l es) j = some e → ∃ i : Nat, l[i]? = some j ∧ es[i]? = some e := by
  intro l
  induction l with
  | nil => intro es j e h; simp [zipE, lookT] at h
  | cons a l ih =>
    intro es j e h
    cases es with
    | nil => simp [zipE, lookT] at h
    | cons e' es =>
      simp only [zipE, lookT_cons] at h
      split at h
      · rename_i h1; cases h; exact ⟨0, by simp [h1], by simp⟩
      · obtain ⟨i, h1, h2⟩ := ih h; exact ⟨i + 1, by simpa using h1, by simpa using h2⟩
theorem zipE_none : ∀ {l : List Nat} {es : List (Ent G)} {j : Nat}, es.length = l.length → lookT (zipE l es) j = none → j ∉ l := by
  intro l
  induction l with
  | nil => intro es j _ _; simp
  | cons a l ih =>
    intro es j hl h
    cases es with
    | nil => simp at hl
    | cons e' es =>
      simp only [zipE, lookT_cons] at h
      split at h
      · cases h
      · rename_i h1
        simp only [List.mem_cons, not_or]
        exact ⟨Ne.symm h1, ih (by simpa using hl) h⟩

theorem fresh_spec {s : St G} : ∀ {l : List (Ent G)} {n : Nat}, fresh s n l = true → ∀ j, j < l.length → s.look (n + j) = none := by
  intro l
  induction l with
  | nil => intro n _ j h; simp at h
  | cons a l ih =>
    intro n h j hj
    simp only [fresh, Bool.and_eq_true] at h
    cases j with
    | zero =>
      cases hl : s.look n with
      | none => simpa using hl
      | some e => rw [hl] at h; simp at h
    | succ j =>
      have := ih h.2 j (by simpa using hj)
      rw [show n + (j + 1) = n + 1 + j by omega]; exact this

theorem entIds_mem {s : St G} {i j : Nat} {e : Ent G} (hs : s.look i = some e) (hj : j ∈ e.ids) : ∀ {l : List Nat}, i ∈ l → j ∈ entIds s l := by
  intro l
  induction l with
  | nil => intro h; cases h
  | cons a l ih =>
    intro h
    simp only [entIds, List.mem_append]
    rcases List.mem_cons.mp h with rfl | h
    · left; rw [hs]; exact hj
    · exact .inr (ih h)
end Go.Abs
end
section
set_option linter.all false
set_option linter.unusedVariables false
set_option linter.unusedSimpArgs false
set_option linter.unnecessarySimpa false
/-
  ABS, part 20: a call: what is lent to the callee, what comes back.
-/
namespace Go.Abs
open Go
variable {G : Gam}

def St.of (es : List (Ent G)) : St G := { tm := [], en := number 0 es }
theorem St.of_look (es : List (Ent G)) (i : Nat) : (St.of es).look i = es[i]? := by
  simp only [St.look, St.of, number_look]; simp

/-- What a call of a function does. -/
def Contract (P : Program) (f : FuncId) (args : List (EV G)) (lent : List (Ent G)) (res : EV G) (lent' news : List (Ent G)) : Prop :=
  ∀ (F : Frm) (L : LM) (w : World) (vs : Array Value), F.w0 = w → F.n = lent.length → F.L0 = L → RelE F L (St.of lent) w → RepVs (okOf F L (St.of lent)) w L args vs.toList → (∀ j ∈ EV.idss args, j < lent.length) →
    Calls P f vs w fun e w' => ∃ v L', e = .returned v ∧ RelE F L' (St.of (lent' ++ news)) w' ∧ (∀ i, i < lent.length → L' i = L i) ∧ RepV (okOf F L' (St.of (lent' ++ news))) w' L' res v ∧ ∀ j ∈ res.ids, j < (lent' ++ news).length

theorem RepE.ok_mono {ok ok' : Cells} {w : World} {L : LM} {i : Nat} {e : Ent G} (hk : ∀ b o, ok b o → ok' b o) (h : RepE ok w L i e) : RepE ok' w L i e := by
  have k : Keeps ok ok' w w := fun b o v h1 h2 => ⟨hk _ _ h1, h2⟩
  cases e with
  | box cs => obtain ⟨l, cvs, el, h1, h2, h3⟩ := h; exact ⟨l, cvs, el, h1, h2, h3.mono k (fun _ _ => rfl)⟩
  | row e xs lock =>
    simp only [RepE] at h ⊢
    refine ⟨h.1, ?_⟩
    cases hl : L i with
    | none => simpa [hl] using h.2
    | some l =>
      simp only [hl] at h
      obtain ⟨_, h1, h2, h3, h4, h5⟩ := h
      exact ⟨h1, h2, h3, h4, h5.mono k fun o v hc _ => hc⟩
  | fz e xs =>
    simp only [RepE] at h ⊢
    cases hl : L i with
    | none => simpa [hl] using h
    | some l =>
      simp only [hl] at h
      obtain ⟨h1, h2, h3, h4⟩ := h
      exact ⟨h1, h2, fun o v a b c => hk _ _ (h3 o v a b c), h4.mono k fun o v hc _ => hc⟩
  | tomb => trivial
  | fill e xs cs zc n t =>
    obtain ⟨l, cvs, el, h1, h2, h3, h4, h5, h6, h7, h8, h9⟩ := h
    exact ⟨l, cvs, el, h1, h2, h3, h4, h5, h6, h7, h8.mono k (fun o v hc _ => hc), h9.mono k (fun _ => rfl) (fun _ _ => rfl)⟩

theorem owns_owner {l : Loc} {e : Ent G} {b o : Nat} (h : owns l e b o) : owner e ∧ l.b = b := by
  cases e with
  | box => exact ⟨trivial, h.symm⟩
  | fill => exact ⟨trivial, h.symm⟩
  | row => exact ⟨trivial, h.1.symm⟩
  | fz => exact h.elim
  | tomb => exact h.elim
theorem owns_some {e : Ent G} (l : Loc) (h : owner e) : ∃ o, owns l e l.b o := by
  cases e with
  | box => exact ⟨0, rfl⟩
  | fill => exact ⟨0, rfl⟩
  | row _ _ lock => exact ⟨l.off + lock * l.sz, rfl, Nat.le_refl _⟩
  | fz => exact h.elim
  | tomb => exact h.elim

def lentL (L : LM) (ls : List Nat) : LM := fun i => match ls[i]? with | some j => L j | none => none
def lentF (F : Frm) (L : LM) (s1 : St G) (w : World) (es0 : List (Ent G)) (ls : List Nat) : Frm := { w0 := w, okA := okOf F L s1, X := owned (St.of es0) (lentL L ls), n := es0.length, L0 := lentL L ls }

section
variable {P : Program} {F : Frm} {nt : Nat} {L : LM} {s : St G} {a : Act} {w : World}

theorem frz_notin {fr : List Nat} {i : Nat} (h : i ∉ fr) : (s.upd (frz s fr)).look i = s.look i := by
  rw [St.look_upd]
  cases hf : lookT (frz s fr) i with
  | none => simp
  | some e => exact absurd (frz_look s fr i e hf).1 h

theorem lent_look {ls : List Nat} {es : List (Ent G)} (hes : looks s ls = some es) {ρ : Nat → Option Nat} {i : Nat} {e' : Ent G} (h : (St.of (es.map (Ent.rn ρ))).look i = some e') : ∃ j e, ls[i]? = some j ∧ s.look j = some e ∧ e' = e.rn ρ := by
  obtain ⟨h1, h2⟩ := looks_spec hes
  rw [St.of_look, List.getElem?_map] at h
  have hi : i < ls.length := by
    rcases Nat.lt_or_ge i ls.length with h3 | h3
    · exact h3
    · rw [List.getElem?_eq_none (by omega)] at h; cases h
  obtain ⟨e, q1, q2⟩ := h2 i _ (List.getElem?_eq_getElem hi)
  rw [q2] at h
  exact ⟨_, e, List.getElem?_eq_getElem hi, q1, (some_inj h).symm⟩

theorem lent_owned {ls : List Nat} {es : List (Ent G)} (hes : looks s ls = some es) {ρ : Nat → Option Nat} {b o : Nat} (h : owned (St.of (es.map (Ent.rn ρ))) (lentL L ls) b o) : ∃ j e l, j ∈ ls ∧ s.look j = some e ∧ L j = some l ∧ owns l e b o := by
  obtain ⟨i, e', l, hi, hl, hw⟩ := h
  obtain ⟨j, e, h1, h2, rfl⟩ := lent_look hes hi
  simp only [lentL, h1] at hl
  rw [Ent.rn_owns] at hw
  exact ⟨j, e, l, List.mem_of_getElem? h1, h2, hl, hw⟩

theorem lent_turn (ls : List Nat) (ids : List Nat) : Turn (fun i => indexOf i ls 0) L (lentL L ls) ids := by
  intro i _ j hj
  have := (indexOf_some hj).2
  simp only [lentL, Nat.sub_zero] at this ⊢
  rw [this]

/-- What the callee is given. -/
theorem lent_rel (h : Rel F nt L s a w) {fr ls : List Nat} (hnd : ls.Nodup) {es : List (Ent G)} (hes : looks s ls = some es) (hdj : ∀ i ∈ fr, i ∉ ls) (hcl : ∀ i ∈ ls, ∀ e, s.look i = some e → ∀ j ∈ e.ids, j ∈ ls) {es0 : List (Ent G)} (h0 : es0 = es.map (Ent.rn fun i => indexOf i ls 0)) :
    (∀ b o, okOf F L (s.upd (frz s fr)) b o → okOf (lentF F L (s.upd (frz s fr)) w es0 ls) (lentL L ls) (St.of es0) b o) ∧ RelE (lentF F L (s.upd (frz s fr)) w es0 ls) (lentL L ls) (St.of es0) w := by
  subst h0
  have h1 := h.freeze fr
  have same : ∀ i ∈ ls, (s.upd (frz s fr)).look i = s.look i := fun i hi => frz_notin fun hf => hdj i hf hi
  have hok : ∀ b o, okOf F L (s.upd (frz s fr)) b o → okOf (lentF F L (s.upd (frz s fr)) w (es.map (Ent.rn fun i => indexOf i ls 0)) ls) (lentL L ls) (St.of (es.map (Ent.rn fun i => indexOf i ls 0))) b o := by
    intro b o hb
    refine ⟨.inl hb, fun ho => ?_⟩
    obtain ⟨j, e, l, hj, hs, hl, hw⟩ := lent_owned hes ho
    exact hb.2 ⟨j, e, l, by rw [same j hj]; exact hs, hl, hw⟩
  refine ⟨hok, ⟨⟨rfl, rfl, rfl, Nat.le_refl _, fun _ _ _ => rfl, fun _ _ _ _ => rfl⟩, ?_, ?_, ?_, ?_, fun i hi => ⟨by rw [St.of_look, List.getElem?_eq_getElem hi]; rfl, rfl⟩⟩⟩
  · intro i e' hi
    obtain ⟨j, e, p1, p2, rfl⟩ := lent_look hes hi
    have hj := List.mem_of_getElem? p1
    exact ((h1.e.en j e (by rw [same j hj]; exact p2)).ok_mono hok).rn (by simp [lentL, p1]) (lent_turn ls _)
  · intro i e' hi j' hj'
    obtain ⟨j, e, p1, p2, rfl⟩ := lent_look hes hi
    obtain ⟨i', q1, q2⟩ := Ent.rn_ids hj'
    have := (indexOf_some q2).2
    simp only [Nat.sub_zero] at this
    obtain ⟨e'', r1, r2⟩ := (looks_spec hes).2 j' i' this
    rw [St.of_look, List.getElem?_map, r2]; rfl
  · intro i i' e' f' l m hi hi' hl hm oe of ne
    obtain ⟨j, e, p1, p2, rfl⟩ := lent_look hes hi
    obtain ⟨k, f, q1, q2, rfl⟩ := lent_look hes hi'
    simp only [lentL, p1] at hl
    simp only [lentL, q1] at hm
    refine h.e.dis j k e f l m p2 q2 hl hm (Ent.rn_owner.mp oe) (Ent.rn_owner.mp of) (fun ejk => ne ?_)
    subst ejk
    have hlen1 : i < ls.length := by
      rcases Nat.lt_or_ge i ls.length with h3 | h3
      · exact h3
      · rw [List.getElem?_eq_none h3] at p1; cases p1
    exact (List.getElem?_inj hlen1 hnd).mp (p1.trans q1.symm)
  · intro i e' l hi hl oe
    obtain ⟨j, e, p1, p2, rfl⟩ := lent_look hes hi
    simp only [lentL, p1] at hl
    have oe := Ent.rn_owner.mp oe
    have hj := List.mem_of_getElem? p1
    have own := h.e.own j e l p2 hl oe
    refine ⟨own.1, .inr fun o => ⟨fun hw => ⟨i, _, l, hi, by simp [lentL, p1, hl], hw⟩, ?_⟩⟩
    by_cases ho : owned (s.upd (frz s fr)) L l.b o
    · refine .inr (.inl ?_)
      obtain ⟨k, f, m, q1, q2, q3⟩ := ho
      obtain ⟨of, hb⟩ := owns_owner q3
      have hjk : k = j := by
        refine Classical.byContradiction fun ne => ?_
        exact h1.e.dis k j f e m l q1 (by rw [same j hj]; exact p2) q2 hl of oe ne hb
      subst hjk
      rw [same k hj] at q1
      rw [p2] at q1; cases q1
      rw [hl] at q2; cases q2
      exact ⟨i, _, l, hi, by simp [lentL, p1, hl], by rw [Ent.rn_owns]; exact q3⟩
    · exact .inl ⟨h.base p2 hl oe o, ho⟩

/-- What comes back. -/
theorem back_rel (h : Rel F nt L s a w) {fr ls : List Nat} {es : List (Ent G)} (hes : looks s ls = some es) (hdj : ∀ i ∈ fr, i ∉ ls) {es0 : List (Ent G)} (h0 : es0 = es.map (Ent.rn fun i => indexOf i ls 0))
    {Lc : LM} {es' news : List (Ent G)} {w' : World} (hlen : es'.length = ls.length) {nid : Nat} (hfr : fresh s nid news = true)
    (hc : RelE (lentF F L (s.upd (frz s fr)) w es0 ls) Lc (St.of (es' ++ news)) w') (hLc : ∀ i, i < es0.length → Lc i = lentL L ls i) {res : EV G} {v : Value}
    (hv : RepV (okOf (lentF F L (s.upd (frz s fr)) w es0 ls) Lc (St.of (es' ++ news))) w' Lc res v) (hvi : ∀ j ∈ res.ids, j < (es' ++ news).length)
    (hold : Bool) (hh : hold = (EV.hasSl res || es'.any Ent.hasSl || news.any Ent.hasSl)) :
    ∃ L', Rel F nt L' (s.upd (zipE ls (es'.map (Ent.rn (backTo ls nid))) ++ (number nid (news.map (Ent.rn (backTo ls nid))) ++ (bif hold then frz s fr else [])))) a w' ∧
      RepV (okOf F L' (s.upd (zipE ls (es'.map (Ent.rn (backTo ls nid))) ++ (number nid (news.map (Ent.rn (backTo ls nid))) ++ (bif hold then frz s fr else []))))) w' L' (res.rn (backTo ls nid)) v ∧
      ∀ j ∈ (res.rn (backTo ls nid)).ids, ((s.upd (zipE ls (es'.map (Ent.rn (backTo ls nid))) ++ (number nid (news.map (Ent.rn (backTo ls nid))) ++ (bif hold then frz s fr else [])))).look j).isSome := by
  have h1 := h.freeze fr
  obtain ⟨hesl, hesg⟩ := looks_spec hes
  have hes0 : es0.length = ls.length := by rw [h0, List.length_map, hesl]
  have same1 : ∀ i ∈ ls, (s.upd (frz s fr)).look i = s.look i := fun i hi => frz_notin fun hf => hdj i hf hi
  have lsome : ∀ i j, ls[i]? = some j → (s.look j).isSome := fun i j hij => by obtain ⟨e, q, _⟩ := hesg i j hij; simp [q]
  have fsp := fresh_spec hfr
  -- the two starts in one
  obtain ⟨t, ht, hts, htl, htf, hst⟩ : ∃ t : St G, Rel F nt L t a w ∧ (∀ i ∈ ls, t.look i = s.look i) ∧ (∀ i, (t.look i).isSome = (s.look i).isSome) ∧ ((t = s.upd (frz s fr)) ∨ (t = s ∧ hold = false)) ∧
      ∀ A B : List (Nat × Ent G), s.upd (A ++ (B ++ (bif hold then frz s fr else []))) = t.upd (A ++ B) := by
    cases hold with
    | true =>
      refine ⟨_, h1, same1, fun i => ?_, .inl rfl, fun A B => by simp [St.upd]⟩
      rw [St.look_upd]
      cases hf : lookT (frz s fr) i with
      | none => simp
      | some e => obtain ⟨_, _, _, _, q, _⟩ := frz_look s fr i e hf; simp [q]
    | false => exact ⟨s, h, fun _ _ => rfl, fun _ => rfl, .inr ⟨rfl, rfl⟩, fun A B => by simp⟩
  rw [hst]
  generalize hup : zipE ls (es'.map (Ent.rn (backTo ls nid))) ++ number nid (news.map (Ent.rn (backTo ls nid))) = up
  let L' : LM := fun i => if (s.look i).isSome then L i else Lc (ls.length + (i - nid))
  -- the new names
  have lc : ∀ i j, ls[i]? = some j → Lc i = L j := by
    intro i j hij
    have hi : i < ls.length := by
      rcases Nat.lt_or_ge i ls.length with h3 | h3
      · exact h3
      · rw [List.getElem?_eq_none h3] at hij; cases hij
    rw [hLc i (by omega)]; simp [lentL, hij]
  have bk : ∀ i j, i < (es' ++ news).length → backTo ls nid i = some j → L' j = Lc i ∧ (i < ls.length → ls[i]? = some j) ∧ (ls.length ≤ i → j = nid + (i - ls.length) ∧ s.look j = none) := by
    intro i j hi hb
    simp only [List.length_append, hlen] at hi
    unfold backTo at hb
    cases hl : ls[i]? with
    | some k =>
      rw [hl] at hb
      have hb : k = j := by simpa using hb
      subst hb
      have hi' : i < ls.length := by
        rcases Nat.lt_or_ge i ls.length with h3 | h3
        · exact h3
        · rw [List.getElem?_eq_none h3] at hl; cases hl
      exact ⟨by simp only [L', lsome i k hl, if_true]; exact (lc i k hl).symm, fun _ => rfl, fun h => absurd hi' (by omega)⟩
    | none =>
      rw [hl] at hb
      have hb : nid + (i - ls.length) = j := by simpa using hb
      have hge : ls.length ≤ i := by
        rcases Nat.lt_or_ge i ls.length with h3 | h3
        · rw [List.getElem?_eq_getElem h3] at hl; cases hl
        · exact h3
      have hn := fsp (i - ls.length) (by omega)
      rw [hb] at hn
      refine ⟨?_, fun h => absurd h (by omega), fun _ => ⟨hb.symm, hn⟩⟩
      have hL' : L' j = Lc (ls.length + (j - nid)) := by simp only [L', hn]; simp
      rw [hL']; congr 1; omega
  have upS : ∀ j e', lookT up j = some e' → ∃ i e, (es' ++ news)[i]? = some e ∧ e' = e.rn (backTo ls nid) ∧ backTo ls nid i = some j ∧ i < (es' ++ news).length := by
    intro j e' hj
    rw [← hup, lookT_append] at hj
    cases hz : lookT (zipE ls (es'.map (Ent.rn (backTo ls nid)))) j with
    | some e =>
      rw [hz] at hj
      have hj : e = e' := by simpa using hj
      subst hj
      obtain ⟨i, p1, p2⟩ := zipE_some hz
      rw [List.getElem?_map] at p2
      have hi : i < ls.length := by
        rcases Nat.lt_or_ge i ls.length with h3 | h3
        · exact h3
        · rw [List.getElem?_eq_none h3] at p1; cases p1
      rw [List.getElem?_eq_getElem (by omega)] at p2
      refine ⟨i, es'[i]'(by omega), ?_, (some_inj (by simpa using p2)).symm, by simp [backTo, p1], by simp; omega⟩
      rw [List.getElem?_append_left (by omega), List.getElem?_eq_getElem]
    | none =>
      rw [hz] at hj
      simp only [Option.none_or, number_look] at hj
      split at hj
      · rename_i hn
        rw [List.getElem?_map] at hj
        have hi : j - nid < news.length := by
          rcases Nat.lt_or_ge (j - nid) news.length with h3 | h3
          · exact h3
          · rw [List.getElem?_eq_none h3] at hj; cases hj
        rw [List.getElem?_eq_getElem hi] at hj
        refine ⟨ls.length + (j - nid), news[j - nid], ?_, (some_inj (by simpa using hj)).symm, ?_, by simp; omega⟩
        · rw [List.getElem?_append_right (by omega), hlen, show ls.length + (j - nid) - ls.length = j - nid by omega, List.getElem?_eq_getElem hi]
        · unfold backTo
          rw [List.getElem?_eq_none (by omega)]
          simp only [Option.some.injEq]; omega
      · cases hj
  have upN : ∀ j, lookT up j = none → j ∉ ls := by
    intro j hj
    rw [← hup, lookT_append] at hj
    cases hz : lookT (zipE ls (es'.map (Ent.rn (backTo ls nid)))) j with
    | some e => rw [hz] at hj; simp at hj
    | none => exact zipE_none (by simpa using hlen) hz
  have upD : ∀ i j, i < (es' ++ news).length → backTo ls nid i = some j → ((t.upd up).look j).isSome := by
    intro i j hi hb
    obtain ⟨_, b1, b2⟩ := bk i j hi hb
    rw [St.look_upd]
    rcases Nat.lt_or_ge i ls.length with h3 | h3
    · have := lsome i j (b1 h3)
      cases lookT up j with
      | some _ => rfl
      | none => simp [htl, this]
    · obtain ⟨e1, hn⟩ := b2 h3
      cases hz : lookT up j with
      | some _ => rfl
      | none =>
        exfalso
        rw [← hup, lookT_append] at hz
        cases hz1 : lookT (zipE ls (es'.map (Ent.rn (backTo ls nid)))) j with
        | some e => rw [hz1] at hz; simp at hz
        | none =>
          rw [hz1] at hz
          simp only [Option.none_or, number_look] at hz
          rw [if_pos (by omega), List.getElem?_map, List.getElem?_eq_getElem (by simp only [List.length_append, hlen] at hi; omega)] at hz
          cases hz
  have hX : ∀ b o, (lentF F L (s.upd (frz s fr)) w es0 ls).X b o → ∃ j e l, j ∈ ls ∧ s.look j = some e ∧ L j = some l ∧ owns l e b o := by
    intro b o hx
    have hx : owned (St.of es0) (lentL L ls) b o := hx
    rw [h0] at hx
    exact lent_owned hes hx
  have clook : ∀ (i : Nat) (e : Ent G), (es' ++ news)[i]? = some e → (St.of (es' ++ news)).look i = some e := fun i e he => by rw [St.of_look]; exact he
  -- an entry of the callee's lies in no block of another's
  have apart : ∀ (i : Nat) (e : Ent G) (l : Loc), (es' ++ news)[i]? = some e → Lc i = some l → owner e → ∀ j f m, j ∉ ls → t.look j = some f → L j = some m → owner f → l.b ≠ m.b := by
    intro i e l hi hl oe j f m hj hf hm of hb
    have mb := (ht.e.own j f m hf hm of).1
    obtain ⟨f1, hf1, of1⟩ : ∃ f1, (s.upd (frz s fr)).look j = some f1 ∧ owner f1 := by
      rcases htf with rfl | ⟨rfl, _⟩
      · exact ⟨f, hf, of⟩
      · rw [St.look_upd]
        cases hz : lookT (frz t fr) j with
        | none => exact ⟨f, by simpa using hf, of⟩
        | some e => obtain ⟨_, _, _, _, _, rfl⟩ := frz_look t fr j e hz; exact ⟨_, rfl, trivial⟩
    obtain ⟨o, ho⟩ := owns_some m of1
    rcases (hc.own i e l (clook i e hi) hl oe).2 with h2 | h2
    · have : w.heap.size ≤ l.b := h2
      omega
    · rcases (h2 o).2 with h3 | h3 | h3
      · rw [hb] at h3
        exact h3.2 ⟨j, f1, m, hf1, hm, ho⟩
      · rw [hb] at h3
        obtain ⟨j', e', l', p1, p2, p3, p4⟩ := hX _ _ h3
        obtain ⟨oe', hb'⟩ := owns_owner p4
        exact h1.e.dis j' j e' f1 l' m (by rw [same1 j' p1]; exact p2) hf1 p3 hm oe' of1 (fun e0 => hj (e0 ▸ p1)) hb'
      · have : w.heap.size ≤ l.b := h3
        omega
  -- what the callee may see, the caller may
  have hokc : hold = true → ∀ b o, okOf (lentF F L (s.upd (frz s fr)) w es0 ls) Lc (St.of (es' ++ news)) b o → okOf F L' (t.upd up) b o := by
    intro hho b o hb
    have htt : t = s.upd (frz s fr) := by rcases htf with h2 | ⟨_, h2⟩; exact h2; rw [hho] at h2; cases h2
    refine ⟨?_, ?_⟩
    · rcases hb.1 with h2 | h2 | h2
      · exact h2.1
      · obtain ⟨j', e', l', p1, p2, p3, p4⟩ := hX _ _ h2
        obtain ⟨oe', hb'⟩ := owns_owner p4
        rw [← hb']; exact h.base p2 p3 oe' o
      · have : w.heap.size ≤ b := h2
        exact .inr (.inr (Nat.le_trans h.e.fits.size this))
    · rintro ⟨j, f, m, hj, hm, hw⟩
      obtain ⟨of, hmb⟩ := owns_owner hw
      rw [St.look_upd] at hj
      cases hu : lookT up j with
      | some e' =>
        rw [hu] at hj
        have hj : e' = f := by simpa using hj
        subst hj
        obtain ⟨i, e, p1, rfl, p3, p4⟩ := upS j _ hu
        rw [(bk i j p4 p3).1] at hm
        rw [Ent.rn_owns] at hw
        exact hb.2 ⟨i, e, m, clook i e p1, hm, hw⟩
      | none =>
        rw [hu] at hj
        have hj : t.look j = some f := by simpa using hj
        have hm : L j = some m := by
          have : (s.look j).isSome = true := by rw [← htl, hj]; rfl
          simpa [L', this] using hm
        have hjl := upN j hu
        rcases hb.1 with h2 | h2 | h2
        · exact h2.2 ⟨j, f, m, by rw [← htt]; exact hj, hm, hw⟩
        · obtain ⟨j', e', l', p1, p2, p3, p4⟩ := hX _ _ h2
          obtain ⟨oe', hb'⟩ := owns_owner p4
          exact ht.e.dis j' j e' f l' m (by rw [hts j' p1]; exact p2) hj p3 hm oe' of (fun e0 => hjl (e0 ▸ p1)) (hb'.trans hmb.symm)
        · have h3 : w.heap.size ≤ b := h2
          have := (ht.e.own j f m hj hm of).1
          omega
  have hk : Keeps (okOf F L t) (okOf F L' (t.upd up)) w w' := by
    intro b o u hb hcell
    have hbs := cell_lt hcell
    have hnx : ¬ (lentF F L (s.upd (frz s fr)) w es0 ls).X b o := by
      intro hx
      obtain ⟨j', e', l', p1, p2, p3, p4⟩ := hX _ _ hx
      exact hb.2 ⟨j', e', l', by rw [hts j' p1]; exact p2, p3, p4⟩
    refine ⟨⟨hb.1, ?_⟩, by rw [hc.fits.cell b o hbs hnx]; exact hcell⟩
    rintro ⟨j, f, m, hj, hm, hw⟩
    obtain ⟨of, hmb⟩ := owns_owner hw
    rw [St.look_upd] at hj
    cases hu : lookT up j with
    | some e' =>
      rw [hu] at hj
      have hj : e' = f := by simpa using hj
      subst hj
      obtain ⟨i, e, p1, rfl, p3, p4⟩ := upS j _ hu
      rw [(bk i j p4 p3).1] at hm
      rw [Ent.rn_owns] at hw
      rcases (hc.own i e m (clook i e p1) hm (Ent.rn_owner.mp of)).2 with h2 | h2
      · have h2 : w.heap.size ≤ m.b := h2
        have hbs' : b < w.heap.size := hbs
        omega
      · exact hnx (by rw [← hmb]; exact (h2 o).1 (by rw [hmb]; exact hw))
    | none =>
      rw [hu] at hj
      have hj : t.look j = some f := by simpa using hj
      have : (s.look j).isSome = true := by rw [← htl, hj]; rfl
      have hm : L j = some m := by simpa [L', this] using hm
      exact hb.2 ⟨j, f, m, hj, hm, hw⟩
  have turn : ∀ ids : List Nat, (∀ i ∈ ids, i < (es' ++ news).length) → Turn (backTo ls nid) Lc L' ids := fun ids hi i him j hj => (bk i j (hi i him) hj).1
  have hcids : ∀ (i : Nat) (e : Ent G), (es' ++ news)[i]? = some e → ∀ j ∈ e.ids, j < (es' ++ news).length := by
    intro i e hi j hj
    have := hc.ids i e (clook i e hi) j hj
    rw [St.of_look] at this
    rcases Nat.lt_or_ge j (es' ++ news).length with h3 | h3
    · exact h3
    · rw [List.getElem?_eq_none h3] at this; cases this
  have final : Rel F nt L' (t.upd up) a w' := by
    refine ht.step up ?_ hk ?_ ?_ ?_ hc.fits.size ?_ ?_
    · refine ⟨hc.fits.os.trans h.e.fits.os, hc.fits.tape.trans h.e.fits.tape, hc.fits.output.trans h.e.fits.output, Nat.le_trans h.e.fits.size hc.fits.size, fun b hb hx => ?_, fun b o hb hx => ?_⟩
      · refine (hc.fits.block b (Nat.lt_of_lt_of_le hb h.e.fits.size) fun o ho => ?_).trans (h.e.fits.block b hb hx)
        obtain ⟨j', e', l', p1, p2, p3, p4⟩ := hX _ _ ho
        obtain ⟨oe', hb'⟩ := owns_owner p4
        rcases (h.e.own j' e' l' p2 p3 oe').2 with h2 | h2
        · omega
        · exact hx o (by rw [← hb']; exact (h2 o).1 (by rw [hb']; exact p4))
      · refine (hc.fits.cell b o (Nat.lt_of_lt_of_le hb h.e.fits.size) fun ho => ?_).trans (h.e.fits.cell b o hb hx)
        obtain ⟨j', e', l', p1, p2, p3, p4⟩ := hX _ _ ho
        obtain ⟨oe', hb'⟩ := owns_owner p4
        rcases (h.e.own j' e' l' p2 p3 oe').2 with h2 | h2
        · omega
        · exact hx (by rw [← hb']; exact (h2 o).1 (by rw [hb']; exact p4))
    · intro i hi
      rw [htl] at hi
      simp [L', hi]
    · intro j f m hu hj of hm
      refine hc.fits.block m.b (ht.e.own j f m hj hm of).1 fun o ho => ?_
      obtain ⟨j', e', l', p1, p2, p3, p4⟩ := hX _ _ ho
      obtain ⟨oe', hb'⟩ := owns_owner p4
      exact ht.e.dis j' j e' f l' m (by rw [hts j' p1]; exact p2) hj p3 hm oe' of (fun e0 => upN j hu (e0 ▸ p1)) hb'
    · intro j e' hu
      obtain ⟨i, e, p1, rfl, p3, p4⟩ := upS j _ hu
      refine ⟨?_, fun k hk' => ?_⟩
      · have hre := hc.en i e (clook i e p1)
        cases hho : hold with
        | true => exact (hre.ok_mono (hokc hho)).rn (bk i j p4 p3).1 (turn _ (hcids i e p1))
        | false =>
          rw [hh, Bool.or_eq_false_iff, Bool.or_eq_false_iff] at hho
          have hf : e.hasSl = false := by
            rcases List.mem_append.mp (List.mem_of_getElem? p1) with h3 | h3
            · simpa using List.any_eq_false.mp hho.1.2 e h3
            · simpa using List.any_eq_false.mp hho.2 e h3
          exact (hre.free hf).rn (bk i j p4 p3).1 (turn _ (hcids i e p1))
      · obtain ⟨i', q1, q2⟩ := Ent.rn_ids hk'
        exact upD i' k (hcids i e p1 i' q1) q2
    · intro j k e' f l m hu hk' hl hm oe of ne
      obtain ⟨i, e, p1, rfl, p3, p4⟩ := upS j _ hu
      rw [(bk i j p4 p3).1] at hl
      have oe := Ent.rn_owner.mp oe
      rw [St.look_upd] at hk'
      cases hv' : lookT up k with
      | some f' =>
        rw [hv'] at hk'
        have hk' : f' = f := by simpa using hk'
        subst hk'
        obtain ⟨i', e2, q1, rfl, q3, q4⟩ := upS k _ hv'
        rw [(bk i' k q4 q3).1] at hm
        exact hc.dis i i' e e2 l m (clook i e p1) (clook i' e2 q1) hl hm oe (Ent.rn_owner.mp of) (fun e0 => ne (by subst e0; rw [p3] at q3; exact some_inj q3))
      | none =>
        rw [hv'] at hk'
        have hk' : t.look k = some f := by simpa using hk'
        have : (s.look k).isSome = true := by rw [← htl, hk']; rfl
        have hm : L k = some m := by simpa [L', this] using hm
        exact apart i e l p1 hl oe k f m (upN k hv') hk' hm of
    · intro j e' l hu hl oe
      obtain ⟨i, e, p1, rfl, p3, p4⟩ := upS j _ hu
      rw [(bk i j p4 p3).1] at hl
      have oe := Ent.rn_owner.mp oe
      obtain ⟨o1, o2⟩ := hc.own i e l (clook i e p1) hl oe
      refine ⟨o1, ?_⟩
      rcases o2 with o2 | o2
      · have o2 : w.heap.size ≤ l.b := o2
        exact .inl (Nat.le_trans h.e.fits.size o2)
      · rcases Nat.lt_or_ge l.b F.w0.heap.size with h3 | h3
        · refine .inr fun o => ⟨fun hw => ?_, ?_⟩
          · rw [Ent.rn_owns] at hw
            obtain ⟨j', e', l', p1, p2, p3, p4⟩ := hX _ _ ((o2 o).1 hw)
            obtain ⟨oe', hb'⟩ := owns_owner p4
            rcases (h.e.own j' e' l' p2 p3 oe').2 with h2 | h2
            · omega
            · rw [← hb']; exact (h2 o).1 (by rw [hb']; exact p4)
          · rcases (o2 o).2 with h4 | h4 | h4
            · exact h4.1
            · obtain ⟨j', e', l', p1, p2, p3, p4⟩ := hX _ _ h4
              obtain ⟨oe', hb'⟩ := owns_owner p4
              rw [← hb']; exact h.base p2 p3 oe' o
            · have h4 : w.heap.size ≤ l.b := h4
              exact .inr (.inr (Nat.le_trans h.e.fits.size h4))
        · exact .inl h3
  refine ⟨L', final, ?_, fun k hk' => ?_⟩
  · cases hho : hold with
    | true => exact (hv.mono (L' := Lc) (fun b o u p q => ⟨hokc hho b o p, q⟩) (fun _ _ => rfl)).rn (turn _ hvi)
    | false =>
      rw [hh, Bool.or_eq_false_iff, Bool.or_eq_false_iff] at hho
      exact (hv.free hho.1.1).rn (turn _ hvi)
  · obtain ⟨i', q1, q2⟩ := EV.rn_ids hk'
    exact upD i' k (hvi i' q1) q2
end
end Go.Abs
end
section
set_option linter.all false
set_option linter.unusedVariables false
set_option linter.unusedSimpArgs false
set_option linter.unnecessarySimpa false
/-
  ABS, part 21: the evaluator's calls are sound.
-/
namespace Go.Abs
open Go
variable {G : Gam}

structure FnOK (P : Program) (f : FuncId) (T : FnT G) : Prop where
  enters : ∃ fn c, P.funcs[f]? = some fn ∧ (fn.name == "runtime.NumGoroutine") = false ∧ fn.body = some c
  sem : ∀ (R : Type) (args : List (EV G)) (lent : List (Ent G)) (k : EV G → List (Ent G) → List (Ent G) → Option R) (r : R), T.sem R args lent k = some r → ∃ res lent' news, Contract P f args lent res lent' news ∧ k res lent' news = some r

def CallOK (P : Program) (nt : Nat) (f : FuncId) (args : List (EV G)) (ids : List Nat) (lk : Nat → Option (Ent G)) (v : EV G) (up : List (Nat × Ent G)) : Prop :=
  ∀ (F : Frm) (L : LM) (s : St G) (a : Act) (w : World), Rel F nt L s a w → (∀ i ∈ ids, s.look i = lk i) → ∀ vs : Array Value, RepVs (okOf F L s) w L args vs.toList → (∀ j ∈ EV.idss args, (s.look j).isSome) →
    Calls P f vs w fun e w' => ∃ u L', e = .returned u ∧ Rel F nt L' (s.upd up) a w' ∧ RepV (okOf F L' (s.upd up)) w' L' v u ∧ ∀ j ∈ v.ids, ((s.upd up).look j).isSome

section
variable {P : Program} {F : Frm} {nt : Nat} {L : LM} {s : St G} {a : Act} {w : World}

/-- What must hold of cells for what was frozen. -/
def FzOK (L : LM) (s : St G) (ok' : Cells) (f : List Nat) : Prop :=
  ∀ i ∈ f, ∀ (e : Ty) (xs : List (G.D e)) (n : Nat) (l : Loc), s.look i = some (.row e xs n) → L i = some l → ∀ o, l.off ≤ o → o < l.off + l.len * l.sz → ok' l.b o

theorem snap_sem (h : Rel F nt L s a w) {v x : EV G} {f : List Nat} {u : Value} (hs : snap P s v = some (x, f)) (hv : RepV (okOf F L s) w L v u) (ok' : Cells) (k : Keeps (okOf F L s) ok' w w) (hf : FzOK L s ok' f) : RepV ok' w L x u := by
  unfold snap at hs
  split at hs
  · rename_i i
    split at hs
    · rename_i e xs lk hi
      cases hs
      have := asD_sem h (τ := .sl e) (v := .ow i) (x := xs) (f := [i]) (by simp [asD, hi, castD]) hv ok' k hf
      simp only [RepV]; exact this
    · rename_i e xs hi
      cases hs
      have := asD_sem h (τ := .sl e) (v := .ow i) (x := xs) (f := []) (by simp [asD, hi, castD]) hv ok' k hf
      simp only [RepV]; exact this
    · cases hs
  · rename_i i lo n
    split at hs
    · rename_i e xs lk hi
      cases hs
      have := asD_sem h (τ := .sl e) (v := .vw i lo n) (x := (xs.drop lo).take n) (f := [i]) (by simp [asD, hi, castD]) hv ok' k hf
      simp only [RepV]; exact this
    · rename_i e xs hi
      cases hs
      have := asD_sem h (τ := .sl e) (v := .vw i lo n) (x := (xs.drop lo).take n) (f := []) (by simp [asD, hi, castD]) hv ok' k hf
      simp only [RepV]; exact this
    · cases hs
  · cases hs; exact hv.mono k (fun _ _ => rfl)

theorem snaps_sem (h : Rel F nt L s a w) (ok' : Cells) (k : Keeps (okOf F L s) ok' w w) : ∀ {l m : List (EV G)} {f : List Nat} {us : List Value}, snaps P s l = some (m, f) → RepVs (okOf F L s) w L l us → FzOK L s ok' f → RepVs ok' w L m us := by
  intro l
  induction l with
  | nil => intro m f us hs hv _; simp [snaps] at hs; obtain ⟨rfl, rfl⟩ := hs; cases us <;> simpa [RepVs] using hv
  | cons v l ih =>
    intro m f us hs hv hf
    simp only [snaps] at hs
    split at hs
    · rename_i x f1 hx
      split at hs
      · rename_i m' g hm
        cases hs
        cases us with
        | nil => simp [RepVs] at hv
        | cons u us =>
          simp only [RepVs] at hv ⊢
          exact ⟨snap_sem h hx hv.1 ok' k fun i hi => hf i (by simp [hi]), ih hm hv.2 fun i hi => hf i (by simp [hi])⟩
      · cases hs
    · cases hs

theorem snapA_sem (h : Rel F nt L s a w) {v x : EV G} {f : List Nat} {u : Value} (hs : snapA P s v = some (x, f)) (hv : RepV (okOf F L s) w L v u) (ok' : Cells) (k : Keeps (okOf F L s) ok' w w) (hf : FzOK L s ok' f) : RepV ok' w L x u := by
  unfold snapA at hs
  split at hs
  · split at hs
    · rename_i m f' hm
      cases hs
      simp only [RepV] at hv ⊢
      obtain ⟨cvs, h1, h2⟩ := hv
      exact ⟨cvs, h1, snaps_sem h ok' k hm h2 hf⟩
    · cases hs
  · exact snap_sem h hs hv ok' k hf

theorem snapArgs_sem (h : Rel F nt L s a w) (ok' : Cells) (k : Keeps (okOf F L s) ok' w w) {io : List Nat} : ∀ {l m : List (EV G)} {n : Nat} {f : List Nat} {us : List Value}, snapArgs P s io n l = some (m, f) → RepVs (okOf F L s) w L l us → FzOK L s ok' f → RepVs ok' w L m us := by
  intro l
  induction l with
  | nil => intro m n f us hs hv _; simp [snapArgs] at hs; obtain ⟨rfl, rfl⟩ := hs; cases us <;> simpa [RepVs] using hv
  | cons v l ih =>
    intro m n f us hs hv hf
    simp only [snapArgs] at hs
    split at hs
    · rename_i x f1 hx
      split at hs
      · rename_i m' g hm
        cases hs
        cases us with
        | nil => simp [RepVs] at hv
        | cons u us =>
          simp only [RepVs] at hv ⊢
          refine ⟨?_, ih hm hv.2 fun i hi => hf i (by simp [hi])⟩
          cases hio : io.contains n with
          | true => rw [hio] at hx; simp at hx; obtain ⟨rfl, rfl⟩ := hx; exact hv.1.mono k (fun _ _ => rfl)
          | false => rw [hio] at hx; exact snapA_sem h hx hv.1 ok' k fun i hi => hf i (by simp [hi])
      · cases hs
    · cases hs

theorem snap_congr {s' : St G} {v : EV G} (h : ∀ i ∈ v.ids, s'.look i = s.look i) : snap P s' v = snap P s v := by
  cases v <;> first | rfl | (simp only [snap]; rw [h _ (by simp [EV.ids])])
theorem snaps_congr {s' : St G} : ∀ {l : List (EV G)}, (∀ i ∈ EV.idss l, s'.look i = s.look i) → snaps P s' l = snaps P s l := by
  intro l
  induction l with
  | nil => intro _; rfl
  | cons v l ih =>
    intro h
    simp only [snaps, snap_congr (P := P) (v := v) fun i hi => h i (by simp [EV.idss, hi]), ih fun i hi => h i (by simp [EV.idss, hi])]
theorem snapA_congr {s' : St G} {v : EV G} (h : ∀ i ∈ v.ids, s'.look i = s.look i) : snapA P s' v = snapA P s v := by
  cases v with
  | ag l => simp only [snapA, snaps_congr (P := P) (l := l) fun i hi => h i (by simpa [EV.ids] using hi)]
  | _ => exact snap_congr (P := P) h
theorem snapArgs_congr {s' : St G} {io : List Nat} : ∀ {l : List (EV G)} {n : Nat}, (∀ i ∈ EV.idss l, s'.look i = s.look i) → snapArgs P s' io n l = snapArgs P s io n l := by
  intro l
  induction l with
  | nil => intro _ _; rfl
  | cons v l ih =>
    intro n h
    simp only [snapArgs, snapA_congr (P := P) (v := v) fun i hi => h i (by simp [EV.idss, hi]), ih fun i hi => h i (by simp [EV.idss, hi])]
theorem looks_congr {s' : St G} : ∀ {l : List Nat}, (∀ i ∈ l, s'.look i = s.look i) → looks s' l = looks s l := by
  intro l
  induction l with
  | nil => intro _; rfl
  | cons v l ih => intro h; simp only [looks, h v (by simp), ih fun i hi => h i (by simp [hi])]
theorem entIds_congr {s' : St G} : ∀ {l : List Nat}, (∀ i ∈ l, s'.look i = s.look i) → entIds s' l = entIds s l := by
  intro l
  induction l with
  | nil => intro _; rfl
  | cons v l ih => intro h; simp only [entIds, h v (by simp), ih fun i hi => h i (by simp [hi])]
theorem fresh_congr {s' : St G} : ∀ {l : List (Ent G)} {n : Nat}, (∀ j, j < l.length → s'.look (n + j) = s.look (n + j)) → fresh s' n l = fresh s n l := by
  intro l
  induction l with
  | nil => intro _ _; rfl
  | cons v l ih =>
    intro n h
    have h0 := h 0 (by simp)
    simp only [fresh, ih (n := n + 1) fun j hj => by have := h (j + 1) (by simpa using hj); rw [show n + 1 + j = n + (j + 1) by omega]; exact this]
    rw [show s'.look n = s.look n from h0]
theorem number_keys : ∀ (es : List (Ent G)) (n j : Nat), j < es.length → n + j ∈ (number n es).map (·.1) := by
  intro es
  induction es with
  | nil => intro n j h; simp at h
  | cons e es ih =>
    intro n j h
    simp only [number, List.map_cons, List.mem_cons]
    cases j with
    | zero => left; rfl
    | succ j => right; rw [show n + (j + 1) = n + 1 + j by omega]; exact ih (n + 1) j (by simpa using h)

theorem reach_nodup (s : St G) (vs : List (EV G)) : (reach s vs).Nodup := by
  unfold reach
  exact (addNew_spec _ _ (addNew_spec _ _ (addNew_spec _ _ (addNew_spec _ _ (by simp)).1).1).1).1
end

section
variable {E : Env G} {R : Type}
theorem callE_sound (hE : ∀ f T, E.fns f = some T → FnOK E.P f T) {s0 : St G} {nid f : Nat} {args : List (EV G)} {k : EV G → List (Nat × Ent G) → List Nat → Option R} {r : R} (hcall : callE E s0 nid f args k = some r) :
    ∃ v up rd, k v up rd = some r ∧ (∃ T, E.fns f = some T) ∧ CallOK E.P E.nt f args (rd ++ up.map (·.1)) s0.look v up := by
  unfold callE at hcall
  split at hcall
  · cases hcall
  rename_i T hT
  split at hcall
  · cases hcall
  rename_i as fr hsn
  simp only at hcall
  split at hcall
  · cases hcall
  rename_i es hes
  generalize hls : reach s0 as = ls at *
  have hnd : ls.Nodup := by rw [← hls]; exact reach_nodup _ _
  cases hg : (fr.any (fun i => ls.contains i) || (entIds s0 ls).any (fun i => !ls.contains i)) with
  | true => rw [hg] at hcall; cases hcall
  | false =>
  rw [hg] at hcall
  simp only [cond_false] at hcall
  rw [Bool.or_eq_false_iff] at hg
  have hdj : ∀ i ∈ fr, i ∉ ls := fun i hi hl => by have := List.any_eq_false.mp hg.1 i hi; simp [hl] at this
  obtain ⟨res, es', news, hcon, hcall⟩ := (hE f T hT).sem R _ _ _ _ hcall
  cases hg2 : (!(Nat.beq es'.length ls.length) || !fresh s0 nid news) with
  | true => rw [hg2] at hcall; cases hcall
  | false =>
  rw [hg2] at hcall
  simp only [cond_false] at hcall
  rw [Bool.or_eq_false_iff] at hg2
  have hlen : es'.length = ls.length := Nat.eq_of_beq_eq_true (by simpa using hg2.1)
  have hfr : fresh s0 nid news = true := by simpa using hg2.2
  refine ⟨_, _, _, hcall, ⟨T, hT⟩, ?_⟩
  intro F L s a w h hlk vs hvs hids
  have hls' : ∀ i ∈ ls, s.look i = s0.look i := fun i hi => hlk i (by simp [hi])
  have hfr' : ∀ i ∈ fr, s.look i = s0.look i := fun i hi => hlk i (by simp [hi])
  have has' : ∀ i ∈ EV.idss args, s.look i = s0.look i := fun i hi => hlk i (by simp [hi])
  have hsn' : snapArgs E.P s T.inout 0 args = some (as, fr) := by rw [snapArgs_congr has']; exact hsn
  have hes' : looks s ls = some es := by rw [looks_congr hls']; exact hes
  have hei : entIds s ls = entIds s0 ls := entIds_congr hls'
  have hfre : fresh s nid news = true := by
    rw [fresh_congr (s := s0)]
    · exact hfr
    · intro j hj
      refine hlk _ (List.mem_append.mpr (.inr ?_))
      rw [List.map_append, List.map_append]
      refine List.mem_append.mpr (.inr (List.mem_append.mpr (.inl ?_)))
      exact number_keys _ _ _ (by simpa using hj)
  have hfz : frz s0 fr = frz s fr := (frz_congr fr hfr').symm
  have hcl : ∀ i ∈ ls, ∀ e, s.look i = some e → ∀ j ∈ e.ids, j ∈ ls := by
    intro i hi e he j hj
    have h1 := entIds_mem he hj hi
    rw [hei] at h1
    have := List.any_eq_false.mp hg.2 j h1
    simpa using this
  obtain ⟨hok, hrel⟩ := lent_rel h hnd hes' hdj hcl rfl
  have h1 := snapArgs_sem h (okOf F L (s.upd (frz s fr))) (keeps_less (frz_owned h.e fr)) hsn' hvs (fun i hi e xs n l p q o p1 p2 => frozen_ok h hi p q o p1 p2)
  have h2 : RepVs (okOf (lentF F L (s.upd (frz s fr)) w (es.map (Ent.rn fun i => indexOf i ls 0)) ls) (lentL L ls) (St.of (es.map (Ent.rn fun i => indexOf i ls 0)))) w (lentL L ls) (EV.rns (fun i => indexOf i ls 0) as) vs.toList :=
    (h1.mono (L' := L) (fun b o v p q => ⟨hok b o p, q⟩) (fun _ _ => rfl)).rn (lent_turn ls _)
  have hesl := (looks_spec hes').1
  refine (hcon (lentF F L (s.upd (frz s fr)) w (es.map (Ent.rn fun i => indexOf i ls 0)) ls) (lentL L ls) w vs rfl rfl rfl hrel h2 ?_).mono ?_
  · intro j hj
    obtain ⟨i, _, hi⟩ := EV.rns_ids hj
    have := (indexOf_some hi).2
    rcases Nat.lt_or_ge j ls.length with h3 | h3
    · rw [List.length_map]; omega
    · simp only [Nat.sub_zero] at this; rw [List.getElem?_eq_none h3] at this; cases this
  · rintro e w' ⟨v, Lc, rfl, q1, q2, q3, q4⟩
    obtain ⟨L', r1, r2, r3⟩ := back_rel h hes' hdj rfl hlen hfre q1 q2 q3 q4 _ rfl
    rw [hfz]
    exact ⟨v, L', rfl, r1, r2, r3⟩
end
end Go.Abs
end
section
set_option linter.all false
set_option linter.unusedVariables false
set_option linter.unusedSimpArgs false
set_option linter.unnecessarySimpa false
/-
  ABS, part 21b: slices that are filled in order.
-/
namespace Go.Abs
open Go
variable {G : Gam}

section
variable {P : Program} {F : Frm} {nt : Nat} {L : LM} {s s0 : St G} {a : Act} {w : World}

theorem makeFill_ok {o : Oper} {t et b : Nat} {x y : Operand} {l c : Int} {e : Ty} {zc : List (EV G)} {nid : Nat} {s0 : St G} (hd : ∀ t, o.dst = some t → t < nt) (ho : o.op = .makeSlice t x y) (he : elemT P t = some et) (hb : bytesT P et = some b)
    (hs : sizeT P et = some (szT G e)) (hx : s0.ev x = .d (.int .i64) l) (hy : s0.ev y = .d (.int .i64) c) (hf : s0.look nid = none) (h0 : 0 ≤ l) (h1 : l ≤ c) (h2 : c * (b : Int) ≤ 70368744177664) (hc63 : c ≤ 9223372036854775807) (hz : zeroCells P et = some zc) (hzcl : zc.length = szT G e) (hz1 : 1 ≤ szT G e) :
    OpOK P nt o s0.ev [nid] s0.look (.ow nid) [(nid, .fill e [] zc zc l.toNat false)] := by
  intro F L s a w h hev hlk
  have hxs := h.int (by rw [hev x (by simp [ho, Op.operands]), hx] : s.ev x = .d (.int .i64) l)
  have hys := h.int (by rw [hev y (by simp [ho, Op.operands]), hy] : s.ev y = .d (.int .i64) c)
  have hfree : s.look nid = none := by rw [hlk nid (by simp)]; exact hf
  obtain ⟨zv, hzr, hrep⟩ := zeroCells_sem hz w
  have hi : ∃ i, P.info? et = some i ∧ i.bytes = b := by
    unfold bytesT at hb
    split at hb
    · rename_i i hi; exact ⟨i, hi, some_inj hb⟩
    · cases hb
  obtain ⟨i, hi, hib⟩ := hi
  have hlw : IntKind.i64.wrap l = l := by unfold IntKind.wrap; simp [IntKind.signed, IntKind.bits]; omega
  have hcw : IntKind.i64.wrap c = c := by unfold IntKind.wrap; simp [IntKind.signed, IntKind.bits]; omega
  have hzl : zv.cells.size = szT G e := by have := (hrep (okOf F L s) w L).length; simp at this; omega
  let cvs : Array Value := if c.toNat * szT G e = 0 then #[] else (Array.range (c.toNat * szT G e)).map (zv.cells[· % zv.cells.size]!)
  have hrun : (Instr.makeSlice t (.int .i64 l) (.int .i64 c)).run P w = .ok (.slice (some ⟨w.heap.size, 0, none⟩) l.toNat c.toNat) (w.alloc (.cells cvs et)) := by
    have hlt : ¬ (c * (b : Int) > 2 ^ 48) := by omega
    have hbc : (b : Int) * c = c * b := Int.mul_comm _ _
    simp only [Instr.makeSlice, Sem.run_bind, run_underlying (elemT_under he), Result.andThen_ok, asInt, asIntOf, Sem.run_pure, typeInfo, run_program, hi, hlw, hcw, hib]
    rw [if_neg (by rw [hbc]; simp; omega)]
    simp only [Sem.run_bind, run_askRoom, Result.andThen_ok]
    by_cases hn : c.toNat * szT G e = 0
    · simp [hn, newRow, cvs, sizeT_run hs]
      rw [show Array.map (fun x => (default : Value)) (Array.range 0) = #[] from Array.eq_empty_of_size_eq_zero (by simp)]
    · simp [hn, hzr, newRow, cvs, sizeT_run hs]
  have hzf : ∀ n, (List.replicate n zv.cells.toList).flatten.length = n * szT G e := by
    intro n; simp [hzl]
  have hcv : cvs.size = c.toNat * szT G e := by
    show (if c.toNat * szT G e = 0 then #[] else _ : Array Value).size = _
    split
    · rename_i h0; simp [h0]
    · simp
  have hcl : ∃ r, cvs.toList = (List.replicate l.toNat zv.cells.toList).flatten ++ r := by
    refine ⟨(List.replicate (c.toNat - l.toNat) zv.cells.toList).flatten, ?_⟩
    rw [← List.flatten_append, List.replicate_append_replicate, show l.toNat + (c.toNat - l.toNat) = c.toNat by omega]
    apply List.ext_getElem?
    intro q
    rcases Nat.lt_or_ge q (c.toNat * szT G e) with hq | hq
    · have hpos : 0 < szT G e := by
        rcases Nat.eq_zero_or_pos (szT G e) with h3 | h3
        · rw [h3] at hq; simp at hq
        · exact h3
      have hne : c.toNat * szT G e ≠ 0 := by omega
      have hq1 : q % szT G e < zv.cells.size := by rw [hzl]; exact Nat.mod_lt _ hpos
      have hq2 : q / szT G e < c.toNat := by apply Nat.div_lt_of_lt_mul; rw [Nat.mul_comm]; exact hq
      have e1 : cvs.toList[q]? = some (zv.cells[q % szT G e]'hq1) := by
        show (if c.toNat * szT G e = 0 then #[] else _ : Array Value).toList[q]? = _
        rw [if_neg hne]
        simp [hq, hzl]
        rw [getElem!_pos]
      rw [e1]
      have := concat_get (szT G e) (List.replicate c.toNat zv.cells.toList) (by intro l' hl'; rw [List.eq_of_mem_replicate hl']; simpa using hzl) (q / szT G e) (q % szT G e) (zv.cells[q % szT G e]'hq1)
        (by rw [List.getElem?_replicate, if_pos hq2]; simp)
      rw [Nat.mul_comm, Nat.div_add_mod] at this
      exact this.symm
    · rw [List.getElem?_eq_none (by simpa [hcv] using hq), List.getElem?_eq_none (by rw [hzf]; exact hq)]
  have hn := h.newBlock hfree (cvs := cvs) (el := et) (w' := w.alloc (.cells cvs et)) rfl rfl rfl rfl (e := .fill e [] zc zc l.toNat false) ⟨w.heap.size, 0, szT G e, c.toNat, l.toNat⟩ rfl
    (by intro j hj; simp [Ent.ids, zeroCells_ids hz] at hj)
    (fun ok' L' k hL hl => by
      have zcell : ∀ i, i < l.toNat → ∀ j u, zv.cells.toList[j]? = some u → (w.alloc (.cells cvs et)).cell? ⟨w.heap.size, 0 + (i * szT G e + j), none⟩ = some u := by
        intro i hi j u hj
        obtain ⟨r, hr⟩ := hcl
        have hg := concat_get (szT G e) (List.replicate l.toNat zv.cells.toList) (by intro l' hl'; rw [List.eq_of_mem_replicate hl']; simpa using hzl) i j u (by rw [List.getElem?_replicate, if_pos hi]; exact hj)
        have hlt : i * szT G e + j < (List.replicate l.toNat zv.cells.toList).flatten.length := by
          rcases Nat.lt_or_ge (i * szT G e + j) (List.replicate l.toNat zv.cells.toList).flatten.length with h3 | h3
          · exact h3
          · rw [List.getElem?_eq_none h3] at hg; cases hg
        have : cvs[i * szT G e + j]? = some u := by rw [← Array.getElem?_toList, hr, List.getElem?_append_left hlt]; exact hg
        simp only [World.cell?, push_new (w' := w.alloc (.cells cvs et)) rfl, Nat.zero_add, Option.isSome_none, Bool.false_eq_true, if_false]
        exact this
      exact ⟨_, cvs, et, hl, push_new rfl, rfl, hz1, rfl, by show l.toNat ≤ c.toNat; omega, by show 0 + c.toNat * szT G e ≤ cvs.size; omega, ⟨fun _ => [], fun i hi => absurd hi (Nat.not_lt_zero _)⟩,
        { le := Nat.zero_le _, tk := (fun h => by cases h), cl := hzcl, zl := hzcl, zi := zeroCells_ids hz, at' := fun h0 => ⟨zv.cells.toList, hrep _ _ _, zcell 0 h0⟩, zs := ⟨zv.cells.toList, hrep, fun i _ hi => zcell i hi⟩ }⟩)
  refine wp_value (u := .slice (some ⟨w.heap.size, 0, none⟩) l.toNat c.toNat) (w' := w.alloc (.cells cvs et)) ?_ ⟨_, hn.put o.dst hd _ _ ?_ ?_⟩
  · simp only [execOp, ho, hxs, hys]
    rw [Sem.run_bind, hrun]; rfl
  · simp only [RepV, if_true]
    exact ⟨_, c.toNat, rfl, by omega, Nat.le_refl _, .inr rfl⟩
  · intro j hj; simp [EV.ids] at hj; subst hj; rw [upd1_look]; simp

/-- The next place is begun. -/
theorem Rel.touchFill (h : Rel F nt L s a w) {id : Nat} {e : Ty} {xs : List (G.D e)} {cs zc : List (EV G)} {n : Nat} {t : Bool} (hi : s.look id = some (.fill e xs cs zc n t)) (hn : xs.length < n) :
    Rel F nt L (s.upd [(id, .fill e xs cs zc n true)]) a w := by
  have up : ∀ i e', lookT [(id, (Ent.fill e xs cs zc n true : Ent G))] i = some e' → i = id ∧ e' = .fill e xs cs zc n true := fun i e' hi => by
    rw [lookT_cons] at hi
    split at hi
    · rename_i hin; cases hi; exact ⟨hin.symm, rfl⟩
    · cases hi
  obtain ⟨l, cvs, el, h1, h2, h3, h4, h5, h6, h7, h8, h9⟩ := h.e.en id _ hi
  refine h.release _ L (fun _ _ => rfl) ?_ ?_
  · intro i e' hu l' hl oe
    obtain ⟨rfl, rfl⟩ := up i e' hu
    exact ⟨_, hi, trivial, fun b o hw => hw⟩
  · intro i e' hu
    obtain ⟨rfl, rfl⟩ := up i e' hu
    refine ⟨fun j hj => ?_, fun ok' k _ => ⟨l, cvs, el, h1, h2, h3, h4, h5, h6, h7, h8.mono k fun o v hc _ => hc, { (h9.mono k (fun _ => rfl) (fun _ _ => rfl)) with tk := fun _ => hn }⟩⟩
    have := h.e.ids i _ hi j hj
    rw [upd1_look]; split
    · rfl
    · exact this

theorem fill_ow (h : Rel F nt L s a w) {x : Operand} {id : Nat} {e : Ty} {xs : List (G.D e)} {cs zc : List (EV G)} {n : Nat} {t : Bool} (hx : s.ev x = .ow id) (hi : s.look id = some (.fill e xs cs zc n t)) {i : Nat} (hin : i < n) :
    ∃ l c, L id = some l ∧ l.len = n ∧ l.sz = szT G e ∧ a.eval x = .slice (some ⟨l.b, l.off, none⟩) n c := by
  obtain ⟨l, cvs, el, h1, h2, h3, h4, h5, h6, h7, h8, h9⟩ := h.e.en id _ hi
  have hxv := h.ev x
  rw [hx] at hxv
  simp only [RepV, h1] at hxv
  obtain ⟨A, c, hav, p1, p2, p3⟩ := hxv
  have : A = some ⟨l.b, l.off, none⟩ := by rcases p3 with p3 | p3; omega; exact p3
  exact ⟨l, c, h1, h5, h3, by rw [hav, this, h5]⟩

theorem indexFill_ok {o : Oper} {t et : Nat} {x ix : Operand} {k : IntKind} {i : Int} {e : Ty} {xs : List (G.D e)} {cs zc : List (EV G)} {n id : Nat} {tt : Bool} {s0 : St G} (hd : ∀ t, o.dst = some t → t < nt) (ho : o.op = .indexAddr t x ix) (he : elemT P t = some et)
    (hz : sizeT P et = some (szT G e)) (hrow : s0.look id = some (.fill e xs cs zc n tt)) (hix : s0.ev ix = .d (.int k) i) (h0 : 0 ≤ i) (h1 : i.toNat = xs.length) (h2 : xs.length < n)
    (hx : s0.ev x = .ow id) : OpOK P nt o s0.ev [id, id] s0.look (.ept id i.toNat 0) [(id, .fill e xs cs zc n true)] := by
  intro F L s a w h hev hlk
  have hixs : s.ev ix = .d (.int k) i := by rw [hev ix (by simp [ho, Op.operands]), hix]
  have hxe : s.ev x = .ow id := by rw [hev x (by simp [ho, Op.operands]), hx]
  have hb : s.look id = some (.fill e xs cs zc n tt) := by rw [hlk id (by simp), hrow]
  have hiv := h.int hixs
  obtain ⟨l, cc, hl, q1, q2, hav⟩ := fill_ow h hxe hb (i := i.toNat) (by omega)
  have hn := h.touchFill hb h2
  refine wp_value (u := .pointer (some ⟨l.b, l.off + i.toNat * szT G e, none⟩)) (w' := w) ?_ (hn.fin hd ?_ ?_)
  · simp only [execOp, ho, hav, hiv]
    rw [Sem.run_bind, indexAt_run (elemT_under he) hz h0 (by omega)]; rfl
  · simp only [RepV]
    exact ⟨l, hl, by omega, by rw [q2, Nat.add_zero]⟩
  · intro j hj
    simp [EV.ids] at hj
    subst hj
    rw [upd1_look]; simp

theorem loadFill_ok {o : Oper} {t n i j off m : Nat} {x : Operand} {e : Ty} {xs : List (G.D e)} {cs zc : List (EV G)} {tt : Bool} {v : EV G} {s0 : St G} (hd : ∀ t, o.dst = some t → t < nt) (ho : o.op = .load t x) (hn : sizeT P t = some n)
    (hx : s0.ev x = .ept i j off) (hi : s0.look i = some (.fill e xs cs zc m tt)) (hj : j = xs.length) (hp : part P t n off cs = some v) :
    OpOK P nt o s0.ev [i] s0.look v [] := by
  intro F L s a w h hev hlk
  subst hj
  have hxs : s.ev x = .ept i xs.length off := by rw [hev x (by simp [ho, Op.operands]), hx]
  have hb : s.look i = some (.fill e xs cs zc m tt) := by rw [hlk i (by simp), hi]
  have hxv := h.ev x
  rw [hxs] at hxv
  simp only [RepV] at hxv
  obtain ⟨l, hl, hjl, hav⟩ := hxv
  obtain ⟨l', cvs, el, h1, h2, h3, h4, h5, h6, h7, h8, h9⟩ := h.e.en i _ hb
  rw [hl] at h1; cases h1
  obtain ⟨us, g1, g2⟩ := h9.at' (by omega)
  obtain ⟨u, hu, hv⟩ := loadVar_part (P := P) (w := w) (b := l.b) (o := l.off + xs.length * l.sz) (L := L) hn hp g1 (fun q u hq => by
    have := g2 q u hq
    rwa [← Nat.add_assoc] at this)
  refine wp_value (u := u) (w' := w) (by simp [execOp, ho, hav, hu]) (h.fin hd hv ?_)
  intro q hq
  exact h.e.ids i _ hb q (part_ids hp q hq)

theorem splice_len {α : Type} {l m : List α} {off : Nat} (h : off + m.length ≤ l.length) : (splice l off m).length = l.length := by
  unfold splice; simp; omega

theorem storeFill_ok {o : Oper} {t n i j off m : Nat} {x y : Operand} {e : Ty} {xs : List (G.D e)} {cs zc : List (EV G)} {tt : Bool} {s0 : St G} (hd : ∀ t, o.dst = some t → t < nt) (ho : o.op = .store t x y) (hn : sizeT P t = some n)
    (hx : s0.ev x = .ept i j off) (hi : s0.look i = some (.fill e xs cs zc m tt)) (hj : j = xs.length) (h1 : (s0.ev y).cells.length = n) (h2 : off + n ≤ cs.length) (h3 : (s0.ev y).cells.all EV.cell = true) :
    OpOK P nt o s0.ev [i, i] s0.look .un [(i, .fill e xs (splice cs off (s0.ev y).cells) zc m tt)] := by
  intro F L s a w h hev hlk
  subst hj
  have hxs : s.ev x = .ept i xs.length off := by rw [hev x (by simp [ho, Op.operands]), hx]
  have hys : s.ev y = s0.ev y := hev y (by simp [ho, Op.operands])
  have hb : s.look i = some (.fill e xs cs zc m tt) := by rw [hlk i (by simp), hi]
  have hxv := h.ev x
  rw [hxs] at hxv
  simp only [RepV] at hxv
  obtain ⟨l, hl, hjl, hav⟩ := hxv
  obtain ⟨l', cvs, el, g1, g2, g3, g4, g5, g6, g7, g8, g9⟩ := h.e.en i _ hb
  rw [hl] at g1; cases g1
  have hyv := h.ev y
  rw [hys] at hyv
  have hyc := hyv.cells (sound_of_all (n := n) h3)
  have hus : (a.eval y).cells.size = n := by have := hyc.length; simp at this; omega
  obtain ⟨us, p1, p2⟩ := g9.at' (by omega)
  have hul := p1.length
  -- the cells of the place lie in the block
  have hcs : off + n ≤ l.sz := by have := g9.cl; omega
  have hlt : (xs.length + 1) * l.sz ≤ l.cap * l.sz := Nat.mul_le_mul_right _ (by omega)
  rw [Nat.add_mul] at hlt
  have hsz : l.off + xs.length * l.sz + off + n ≤ cvs.size := by omega
  have hcell : ∀ q, (w.setCells l.b (l.off + xs.length * l.sz + off) (a.eval y).cells.toList).cell? ⟨l.b, q, none⟩ = (splice cvs.toList (l.off + xs.length * l.sz + off) (a.eval y).cells.toList)[q]? := by
    intro q
    have hh := heap_setCells l.b (a.eval y).cells.toList (l.off + xs.length * l.sz + off) w cvs g2 (by simp [hus]; omega)
    simp only [World.cell?, hh]
    simp
  have hold : ∀ q, w.cell? ⟨l.b, q, none⟩ = cvs.toList[q]? := by intro q; simp only [World.cell?, g2]; simp
  have other : ∀ q, q < l.off + xs.length * l.sz + off ∨ l.off + xs.length * l.sz + off + n ≤ q → (w.setCells l.b (l.off + xs.length * l.sz + off) (a.eval y).cells.toList).cell? ⟨l.b, q, none⟩ = w.cell? ⟨l.b, q, none⟩ := by
    intro q hq
    rw [hcell, hold, splice_get (by simp [hus]; omega)]
    rcases hq with hq | hq
    · rw [if_pos hq]
    · rw [if_neg (by omega), if_neg (by simp [hus]; omega)]
  have hlen : (splice cs off (s0.ev y).cells).length = cs.length := splice_len (by omega)
  have hw := h.write hb hl trivial (e' := .fill e xs (splice cs off (s0.ev y).cells) zc m tt) trivial (fun _ _ => Iff.rfl) g2 (o := l.off + xs.length * l.sz + off) (vs := (a.eval y).cells.toList) (by simp [hus]; omega) (fun _ _ => rfl)
    (by
      intro j hj
      simp only [Ent.ids] at hj
      rcases splice_ids j hj with hj | hj
      · exact h.e.ids i _ hb j hj
      · rw [cells_ids'] at hj; exact h.evIds y j (by rw [hys]; exact hj))
    (fun ok' k => ⟨l, _, el, hl, heap_setCells l.b _ _ w cvs g2 (by simp [hus]; omega), g3, g4, g5, g6, by rw [List.size_toArray, splice_len (by simp [hus]; omega)]; simpa using g7, ?_, ?_⟩)
  · refine wp_skip' (w' := w.setCells l.b (l.off + xs.length * l.sz + off) (a.eval y).cells.toList) ?_ ⟨_, hw.put o.dst hd _ _ rfl (by simp [EV.ids])⟩
    simp only [execOp, ho, hav]
    rw [Sem.run_bind, storeAt_run hn hus g2 (by omega) (hyc.oneCell h3)]
    rfl
  · refine g8.mono k fun o' v hc ho' => ?_
    rw [other _ (.inl (by rw [g3]; omega))]; exact hc
  · refine { le := g9.le, tk := g9.tk, cl := by rw [hlen]; exact g9.cl, zl := g9.zl, zi := g9.zi, at' := fun _ => ?_, zs := ?_ }
    · refine ⟨splice us off (a.eval y).cells.toList, (splice_rep off p1 hyc).mono k (fun _ _ => rfl), fun q u hq => ?_⟩
      rw [splice_get (by simp [hus]; omega)] at hq
      rw [hcell, splice_get (by simp [hus]; omega)]
      simp only [Array.length_toList, hus] at hq ⊢
      split at hq
      · rw [if_pos (by omega), ← hold]; exact p2 q u hq
      · rename_i e1
        split at hq
        · rw [if_neg (by omega), if_pos (by omega), show l.off + (xs.length * l.sz + q) - (l.off + xs.length * l.sz + off) = q - off by omega]; exact hq
        · rw [if_neg (by omega), if_neg (by omega), ← hold]; exact p2 q u hq
    · obtain ⟨zs, z1, z2⟩ := g9.zs
      refine ⟨zs, z1, fun q hq hqm j u hj => ?_⟩
      have h8 : (xs.length + 1) * l.sz ≤ q * l.sz := Nat.mul_le_mul_right _ (by omega)
      rw [Nat.add_mul] at h8
      rw [other _ (.inr (by omega))]; exact z2 q hq hqm j u hj

/-- What stands in the next place, as data. -/
theorem fill_el (h : Rel F nt L s a w) {e : Ty} {cs : List (EV G)} {us : List Value} (p1 : RepVs (okOf F L s) w L cs us) {y : G.D e} {f : List Nat} (hy : asEl s e (.ag cs) = some (y, f)) :
    ∀ ok', Keeps (okOf F L (s.upd (frz s f))) ok' w w → RepD G ok' w e y us := by
  intro ok' k
  have := (asEl_sem h hy (u := .agg us.toArray) (by simp only [RepV]; exact ⟨us.toArray, rfl, by simpa using p1⟩) (okOf F L (s.upd (frz s f))) (keeps_less (frz_owned h.e f)) (frzOK h f)).2
  exact this.mono k

/-- The place is done. -/
theorem Rel.closeFill (h : Rel F nt L s a w) {id : Nat} {e : Ty} {xs : List (G.D e)} {cs zc : List (EV G)} {n : Nat} (hi : s.look id = some (.fill e xs cs zc n true)) {y : G.D e} {f : List Nat}
    (hy : asEl s e (.ag cs) = some (y, f)) (hf : f.contains id = false) : Rel F nt L (s.upd ((id, .fill e (xs ++ [y]) zc zc n false) :: frz s f)) a w := by
  have h1 := h.freeze f
  have hb1 : (s.upd (frz s f)).look id = some (.fill e xs cs zc n true) := by rw [St.look_upd, frz_none hf]; simpa using hi
  have up : ∀ i e', lookT [(id, (Ent.fill e (xs ++ [y]) zc zc n false : Ent G))] i = some e' → i = id ∧ e' = .fill e (xs ++ [y]) zc zc n false := fun i e' hi => by
    rw [lookT_cons] at hi
    split at hi
    · rename_i hin; cases hi; exact ⟨hin.symm, rfl⟩
    · cases hi
  obtain ⟨l, cvs, el, g1, g2, g3, g4, g5, g6, g7, g8, g9⟩ := h.e.en id _ hi
  have hkn := g9.tk rfl
  obtain ⟨us, p1, p2⟩ := g9.at' hkn
  have key := fill_el h p1 hy
  have h2 := h1.release [(id, .fill e (xs ++ [y]) zc zc n false)] L (fun _ _ => rfl) ?_ ?_
  · exact h2.ext (fun t => rfl) (fun i => by
      simp only [St.look_upd, lookT_cons]
      by_cases hi : id = i
      · simp [hi]
      · simp [hi, lookT])
  · intro i e' hu l' hl oe
    obtain ⟨rfl, rfl⟩ := up i e' hu
    exact ⟨_, hb1, trivial, fun b o hw => hw⟩
  · intro i e' hu
    obtain ⟨rfl, rfl⟩ := up i e' hu
    obtain ⟨l', _, _, q1, q2, q3, q4, q5, q6, q7, q8, q9⟩ := h1.e.en i _ hb1
    rw [g1] at q1; cases q1
    refine ⟨by simp [Ent.ids, g9.zi], fun ok' k _ => ⟨l, cvs, el, g1, g2, g3, g4, g5, g6, g7, ?_, ?_⟩⟩
    · obtain ⟨css, hcs⟩ := q8
      refine ⟨fun i => if i < xs.length then css i else us, fun i hi => ?_⟩
      simp only [List.length_append, List.length_cons, List.length_nil, Nat.zero_add] at hi
      by_cases hlt : i < xs.length
      · simp only [if_pos hlt]
        rw [List.getElem_append_left hlt]
        exact ⟨(hcs i hlt).1.mono k, (hcs i hlt).2⟩
      · have : i = xs.length := by omega
        subst this
        simp only [if_neg hlt]
        rw [List.getElem_append_right (Nat.le_refl _)]
        simp only [Nat.sub_self, List.getElem_cons_zero]
        exact ⟨key ok' k, fun j v hj => by rw [← g3]; exact p2 j v hj⟩
    · obtain ⟨zs, z1, z2⟩ := g9.zs
      exact { le := by simp; omega, tk := (fun h => by cases h), cl := g9.zl, zl := g9.zl, zi := g9.zi, at' := (fun hm => ⟨zs, z1 _ _ _, by
                simp only [List.length_append, List.length_cons, List.length_nil, Nat.zero_add] at hm ⊢
                exact z2 _ (Nat.le_refl _) hm⟩)
              zs := ⟨zs, z1, fun i p q => z2 i (by simp at p ⊢; omega) q⟩ }

/-- What is filled so far, and zeros. -/
theorem Rel.finFill (h : Rel F nt L s a w) {id : Nat} {e : Ty} {xs : List (G.D e)} {cs zc : List (EV G)} {n : Nat} {t : Bool} (hi : s.look id = some (.fill e xs cs zc n t)) {y z : G.D e} {f : List Nat}
    (hy : asEl s e (.ag cs) = some (y, f)) (hz : asEl s e (.ag zc) = some (z, [])) (hf : f.contains id = false) :
    Rel F nt L (s.upd ((id, .row e ((xs ++ y :: List.replicate (n - (xs.length + 1)) z).take n) 0) :: frz s f)) a w := by
  generalize hr : (xs ++ y :: List.replicate (n - (xs.length + 1)) z).take n = r
  have h1 := h.freeze f
  have hb1 : (s.upd (frz s f)).look id = some (.fill e xs cs zc n t) := by rw [St.look_upd, frz_none hf]; simpa using hi
  have up : ∀ i e', lookT [(id, (Ent.row e r 0 : Ent G))] i = some e' → i = id ∧ e' = .row e r 0 := fun i e' hi => by
    rw [lookT_cons] at hi
    split at hi
    · rename_i hin; cases hi; exact ⟨hin.symm, rfl⟩
    · cases hi
  obtain ⟨l, cvs, el, g1, g2, g3, g4, g5, g6, g7, g8, g9⟩ := h.e.en id _ hi
  have hle := g9.le
  have hrl : r.length = n := by rw [← hr]; simp; omega
  have h2 := h1.release [(id, .row e r 0)] L (fun _ _ => rfl) ?_ ?_
  · exact h2.ext (fun t => rfl) (fun i => by
      simp only [St.look_upd, lookT_cons]
      by_cases hi : id = i
      · simp [hi]
      · simp [hi, lookT])
  · intro i e' hu l' hl oe
    obtain ⟨rfl, rfl⟩ := up i e' hu
    exact ⟨_, hb1, trivial, fun b o hw => hw.1⟩
  · intro i e' hu
    obtain ⟨rfl, rfl⟩ := up i e' hu
    obtain ⟨l', _, _, q1, q2, q3, q4, q5, q6, q7, q8, q9⟩ := h1.e.en i _ hb1
    rw [g1] at q1; cases q1
    refine ⟨by simp [Ent.ids], fun ok' k _ => ?_⟩
    simp only [RepE, g1]
    refine ⟨Nat.zero_le _, g3, by omega, g6, ⟨cvs, el, g2, g7⟩, ?_⟩
    obtain ⟨css, hcs⟩ := q8
    obtain ⟨zs, z1, z2⟩ := g9.zs
    have zkey : RepD G ok' w e z zs := (fill_el (f := []) h (z1 _ _ _) hz) ok' (fun b o v p q => k b o v ⟨p.1, fun ho => p.2 (by
      have := frz_owned h.e f b o ho
      exact this)⟩ q)
    by_cases hkn : xs.length < n
    · obtain ⟨us, p1, p2⟩ := g9.at' hkn
      have key := fill_el h p1 hy
      refine ⟨fun i => if i < xs.length then css i else if i = xs.length then us else zs, fun i hi => ?_⟩
      have hg : r[i]? = (xs ++ y :: List.replicate (n - (xs.length + 1)) z)[i]? := by rw [← hr, List.getElem?_take, if_pos (by omega)]
      rcases Nat.lt_trichotomy i xs.length with hlt | heq | hgt
      · simp only [if_pos hlt]
        have : r[i] = xs[i] := by
          rw [List.getElem?_append_left hlt, List.getElem?_eq_getElem hi, List.getElem?_eq_getElem hlt] at hg
          exact Option.some.inj hg
        rw [this]
        exact ⟨(hcs i hlt).1.mono k, (hcs i hlt).2⟩
      · subst heq
        simp only [Nat.lt_irrefl, if_false, if_true]
        have : r[xs.length] = y := by
          rw [List.getElem?_append_right (Nat.le_refl _), List.getElem?_eq_getElem hi] at hg
          simpa using hg
        rw [this]
        exact ⟨key ok' k, fun j v hj => by rw [← g3]; exact p2 j v hj⟩
      · simp only [if_neg (show ¬ i < xs.length by omega), if_neg (show ¬ i = xs.length by omega)]
        have : r[i] = z := by
          rw [List.getElem?_append_right (by omega), List.getElem?_eq_getElem hi, show i - xs.length = (i - xs.length - 1) + 1 by omega, List.getElem?_cons_succ, List.getElem?_replicate] at hg
          split at hg
          · exact Option.some.inj hg
          · cases hg
        rw [this]
        exact ⟨zkey, fun j v hj => by rw [← g3]; exact z2 i (by omega) (by omega) j v hj⟩
    · refine ⟨css, fun i hi => ?_⟩
      have hlt : i < xs.length := by omega
      have hg : r[i]? = (xs ++ y :: List.replicate (n - (xs.length + 1)) z)[i]? := by rw [← hr, List.getElem?_take, if_pos (by omega)]
      have : r[i] = xs[i] := by
        rw [List.getElem?_append_left hlt, List.getElem?_eq_getElem hi, List.getElem?_eq_getElem hlt] at hg
        exact Option.some.inj hg
      rw [this]
      exact ⟨(hcs i hlt).1.mono k, (hcs i hlt).2⟩

theorem closes_rel : ∀ (l : List Nat) {s : St G}, Rel F nt L s a w → Rel F nt L (closes l s) a w := by
  intro l
  induction l with
  | nil => intro s h; exact h
  | cons i l ih =>
    intro s h
    simp only [closes]
    split
    · rename_i e xs cs zc n hi
      split
      · rename_i y f hy
        cases hf : f.contains i with
        | true => exact ih h
        | false => exact ih (h.closeFill hi hy hf)
      · exact ih h
    · exact ih h
theorem fins_rel : ∀ (l : List Nat) {s : St G}, Rel F nt L s a w → Rel F nt L (fins l s) a w := by
  intro l
  induction l with
  | nil => intro s h; exact h
  | cons i l ih =>
    intro s h
    simp only [fins]
    split
    · rename_i e xs cs zc n t hi
      split
      · rename_i y f z hy hz
        cases hf : f.contains i with
        | true => exact ih h
        | false => exact ih (h.finFill hi hy hz hf)
      · exact ih h
    · exact ih h
end
end Go.Abs
end
section
set_option linter.all false
set_option linter.unusedVariables false
set_option linter.unusedSimpArgs false
set_option linter.unnecessarySimpa false
/-
  ABS, part 22: the evaluator's operations are sound.
-/
namespace Go.Abs
open Go
variable {G : Gam}

section
variable {P : Program} {F : Frm} {nt : Nat} {L : LM} {s s0 : St G} {a : Act} {w : World}

theorem buildE_congr {t : TypeId} : ∀ {ps : List (Nat × Operand)} {cs : List (EV G)}, (∀ p ∈ ps, s.ev p.2 = s0.ev p.2) → buildE P s t ps cs = buildE P s0 t ps cs := by
  intro ps
  induction ps with
  | nil => intro _ _; rfl
  | cons p ps ih =>
    intro cs h
    obtain ⟨f, x⟩ := p
    have hx : s.ev x = s0.ev x := h (f, x) (by simp)
    simp only [buildE, hx, ih fun p hp => h p (by simp [hp])]

theorem pureOp_congr {eqs : List Nat} {o : Oper} {v : EV G} (hev : ∀ x ∈ o.op.operands, s.ev x = s0.ev x) (hlk : ∀ i ∈ pureReads s0 o, s.look i = s0.look i) (hp : pureOp P eqs s0 o = some v) : pureOp P eqs s o = some v := by
  have hp' := hp
  unfold pureOp at hp
  split at hp
  · rename_i x ho; unfold pureOp; simp only [ho]; rw [hev x (by simp [ho, Op.operands])]; exact hp
  · rename_i x ho; unfold pureOp; simp only [ho]; rw [hev x (by simp [ho, Op.operands])]; exact hp
  · rename_i c x y ho; unfold pureOp; simp only [ho]; rw [hev c (by simp [ho, Op.operands]), hev x (by simp [ho, Op.operands]), hev y (by simp [ho, Op.operands])]; exact hp
  · rename_i t parts ho
    unfold pureOp; simp only [ho]
    have : ∀ z : List (EV G), buildE P s t parts.toList z = buildE P s0 t parts.toList z := fun z => buildE_congr fun p hp => hev p.2 (by simp [ho, Op.operands]; exact ⟨p.1, by simpa using hp⟩)
    simp only [this]; exact hp
  · rename_i t x f ho; unfold pureOp; simp only [ho]; rw [hev x (by simp [ho, Op.operands])]; exact hp
  · rename_i x i ho; unfold pureOp; simp only [ho]; rw [hev x (by simp [ho, Op.operands])]; exact hp
  · rename_i t x f ho; unfold pureOp; simp only [ho]; rw [hev x (by simp [ho, Op.operands])]; exact hp
  · rename_i t x ho
    unfold pureOp; simp only [ho]; rw [hev x (by simp [ho, Op.operands]), ← hp]
    have hl : ∀ i ∈ (s0.ev x).ids, s.look i = s0.look i := fun i hi => hlk i (by simp only [pureReads, ho]; exact hi)
    cases hx : s0.ev x with
    | ptr i off => rw [hx] at hl; simp only [loadE]; rw [hl i (by simp [EV.ids])]
    | _ => rfl
  · rename_i op _ x ho; unfold pureOp; simp only [ho]; rw [hev x (by simp [ho, Op.operands])]; exact hp
  · rename_i src dst x ho; unfold pureOp; simp only [ho]; rw [hev x (by simp [ho, Op.operands])]; exact hp
  · rename_i x ho; unfold pureOp; simp only [ho]; rw [hev x (by simp [ho, Op.operands])]; exact hp
  · rename_i f first caps ho
    unfold pureOp; simp only [ho]; rw [← hp]
    have : caps.toList.map s.ev = caps.toList.map s0.ev := List.map_congr_left fun x hx => hev x (by simp only [ho, Op.operands, Array.mem_append]; exact .inr (by simpa using hx))
    rw [this]
  · rename_i op t x y _ ho; unfold pureOp; simp only [ho]; rw [hev x (by simp [ho, Op.operands]), hev y (by simp [ho, Op.operands])]; exact hp
  · rename_i args argTypes ho
    unfold pureOp; simp only [ho]; rw [← hp]
    split
    · rename_i x t hx ht
      have hxa : x ∈ args := by have : x ∈ args.toList := by rw [hx]; simp
                                simpa using this
      have hxe := hev x (by simp only [ho, Op.operands, Call.operands]; simpa using hxa)
      have hl : ∀ i ∈ (s0.ev x).ids, s.look i = s0.look i := fun i hi => hlk i (by simp only [pureReads, ho, hx]; exact hi)
      have : lenE s (s0.ev x) = lenE s0 (s0.ev x) := by
        cases hz : s0.ev x with
        | ow i => rw [hz] at hl; simp only [lenE]; rw [hl i (by simp [EV.ids])]
        | d τ x => cases τ <;> rfl
        | _ => rfl
      simp only [hxe, this]
    · rfl
  · rename_i args _ ho
    unfold pureOp; simp only [ho]; rw [← hp]
    have : args.toList.map s.ev = args.toList.map s0.ev := List.map_congr_left fun x hx => hev x (by simp only [ho, Op.operands, Call.operands]; simpa using hx)
    rw [this]
  · rename_i args _ ho
    unfold pureOp; simp only [ho]; rw [← hp]
    have : args.toList.map s.ev = args.toList.map s0.ev := List.map_congr_left fun x hx => hev x (by simp only [ho, Op.operands, Call.operands]; simpa using hx)
    rw [this]
  · cases hp

theorem pure_ok {eqs : List Nat} (heq : ∀ t ∈ eqs, EqOK P t) {o : Oper} (hd : ∀ t, o.dst = some t → t < nt) {v : EV G} (hp : pureOp P eqs s0 o = some v) : OpOK P nt o s0.ev (pureReads s0 o) s0.look v [] := by
  intro F L s a w h hev hlk
  obtain ⟨u, h1, h2, h3⟩ := pure_run heq h (pureOp_congr hev hlk hp)
  exact wp_value h1 (h.fin hd h2 h3)
theorem OpOK.more {o : Oper} {ev : Operand → EV G} {ids ids' : List Nat} {lk : Nat → Option (Ent G)} {v : EV G} {up : List (Nat × Ent G)} (h : OpOK P nt o ev ids lk v up) (hi : ∀ i ∈ ids, i ∈ ids') : OpOK P nt o ev ids' lk v up :=
  fun F L s a w hr hev hlk => h F L s a w hr hev fun i him => hlk i (hi i him)
end

theorem isFree_look {s : St G} {i : Nat} (h : isFree s i = true) : s.look i = none := by
  unfold isFree at h; split at h
  · assumption
  · cases h

theorem bindS {α β : Type} {x : Option α} {f : α → Option β} {r : β} (h : x.bind f = some r) : ∃ y, x = some y ∧ f y = some r := by
  cases x with
  | none => cases h
  | some y => exact ⟨y, rfl, h⟩

section
variable {E : Env G} {R : Type}

theorem baseOf_congr {s s' : St G} {keep : Bool} {e : Ty} {v : EV G} (h : ∀ i ∈ v.ids, s'.look i = s.look i) : baseOf s' keep e v = baseOf s keep e v := by
  cases v <;> first | rfl | (simp only [baseOf]; rw [h _ (by simp [EV.ids])])
theorem rowOfD_congr {s s' : St G} {e : Ty} {v : EV G} (h : ∀ i ∈ v.ids, s'.look i = s.look i) : rowOfD s' e v = rowOfD s e v := by
  cases v <;> first | rfl | (simp only [rowOfD]; rw [h _ (by simp [EV.ids])])

theorem buildRow_sound {s : St G} {e : Ty} : ∀ {xs : List Operand} {k : List (G.D e) → List Nat → Option R} {r : R}, buildRow s e xs k = some r → ∃ ys f, k ys f = some r ∧ ys.length = xs.length ∧
    ∀ (i : Nat) (x : Operand), xs[i]? = some x → ∃ (y : G.D e) (g : List Nat), ys[i]? = some y ∧ asEl s e (s.ev x) = some (y, g) ∧ ∀ j ∈ g, j ∈ f := by
  intro xs
  induction xs with
  | nil => intro k r h; exact ⟨[], [], h, rfl, fun i x hx => by simp at hx⟩
  | cons x xs ih =>
    intro k r h
    simp only [buildRow] at h
    split at h
    · rename_i y f hy
      obtain ⟨ys, g, h1, h2, h3⟩ := ih h
      refine ⟨y :: ys, f ++ g, h1, by simp [h2], fun i z hz => ?_⟩
      cases i with
      | zero => simp at hz; subst hz; exact ⟨y, f, by simp, hy, fun j hj => by simp [hj]⟩
      | succ i =>
        obtain ⟨y', g', q1, q2, q3⟩ := h3 i z (by simpa using hz)
        exact ⟨y', g', by simpa using q1, q2, fun j hj => by simp [q3 j hj]⟩
    · cases h

theorem asLfs_len {s : St G} : ∀ {ts : List Ty} {vs : List (EV G)} {l : List (Lf G.S)} {f : List Nat}, asLfs s ts vs = some (l, f) → vs.length = ts.length ∧ l.map (fun | .mk τ _ => τ) = ts := by
  intro ts
  induction ts with
  | nil =>
    intro vs l f h
    cases vs with
    | nil => simp only [asLfs] at h; cases h; exact ⟨rfl, rfl⟩
    | cons _ _ => cases h
  | cons τ ts ih =>
    intro vs l f h
    cases vs with
    | nil => cases h
    | cons v vs =>
      simp only [asLfs] at h
      split at h
      · split at h
        · rename_i l' g h2
          cases h
          obtain ⟨h3, h4⟩ := ih h2
          exact ⟨by simp [h3], by simp [h4]⟩
        · cases h
      · cases h

theorem storeE_sound {s0 : St G} {o : Oper} (hd : ∀ t, o.dst = some t → t < E.nt) {t n i j off lock : Nat} {x y : Operand} {e : Ty} {xs : List (G.D e)} {k : EV G → List (Nat × Ent G) → List Nat → Option R} {r : R} (ho : o.op = .store t x y)
    (hx : s0.ev x = .ept i j off) (hn : sizeT E.P t = some n) (hi : s0.look i = some (.row e xs lock)) (hlk : lockOK lock j = true)
    (h : (bif Nat.beq off 0 && Nat.beq n (szT G e) then
          match asEl s0 e (s0.ev y) with
          | some (z, f) => bif f.contains i then none else k .un ((i, .row e (xs.set j z) lock) :: frz s0 f) (i :: (f ++ (s0.ev y).ids))
          | none => none
        else match asLfs s0 (((lvT G e).drop off).take n) (s0.ev y).cells with
          | some (l, f) => bif f.contains i || !(Nat.beq l.length n && Nat.ble (off + n) (szT G e)) then none else
            (xs[j]?).bind fun z => (collT G e (splice (cellsT G e z) off l)).bind fun z' => k .un ((i, .row e (xs.set j z') lock) :: frz s0 f) (i :: (f ++ (s0.ev y).ids))
          | none => none) = some r) : ∃ v up rd, k v up rd = some r ∧ OpOK E.P E.nt o s0.ev (rd ++ up.map (·.1)) s0.look v up := by
  have hsz : ∀ e : Ty, (lvT G e).length = szT G e := fun e => by cases e <;> rfl
  cases hc : (Nat.beq off 0 && Nat.beq n (szT G e)) with
  | true =>
    rw [hc] at h
    obtain ⟨h1, h2⟩ := band hc
    have h1 := beqT h1
    have h2 := beqT h2
    subst h1
    simp only [cond_true] at h
    split at h
    · rename_i z f hz
      obtain ⟨hf, h⟩ := guardn h
      have hcl : (s0.ev y).cells.length = n := by
        unfold asEl at hz
        split at hz
        · rename_i l f1 h1; rw [(asLfs_len h1).1, hsz, h2]
        · cases hz
      refine ⟨_, _, _, h, (storeEl_ok (s0.ev y).ids hd ho hn hx hi (lockOK_le hlk) (by omega) hf hcl ?_).more (by simp)⟩
      intro F L s a w hr hev hlk' hj
      have hye : s.ev y = s0.ev y := hev y (by simp [ho, Op.operands])
      have hfz : frz s f = frz s0 f := frz_congr f fun k hk => hlk' k (by simp [hk])
      have hasE : asEl s e (s.ev y) = some (z, f) := by rw [hye, ← hz]; exact asEl_congr fun k hk => hlk' k (by simp [hk])
      obtain ⟨q1, q2⟩ := asEl_sem hr hasE (hr.ev y) (okOf F L (s.upd (frz s0 f))) (by rw [← hfz]; exact keeps_less (frz_owned hr.e f)) (fun i hi e xs n m p1 p2 o r1 r2 => by
        rw [← hfz]; exact frozen_ok hr hi p1 p2 o r1 r2)
      refine ⟨by rw [← hye]; exact q1, q2.oneCell, fun cs hcs => ?_⟩
      have e1 : splice cs 0 (a.eval y).cells.toList = (a.eval y).cells.toList := by
        unfold splice
        rw [List.take_zero, List.nil_append, Nat.zero_add, List.drop_of_length_le (by rw [q2.length, hcs.length]; exact Nat.le_refl _), List.append_nil]
      rw [e1]; exact q2
    · cases h
  | false =>
    rw [hc] at h
    simp only [cond_false] at h
    split at h
    · rename_i l f hl
      obtain ⟨hf, h⟩ := guardn h
      rw [Bool.or_eq_false_iff] at hf
      obtain ⟨hf, hg⟩ := hf
      obtain ⟨hg1, hg2⟩ := band (by simpa using hg : (Nat.beq l.length n && Nat.ble (off + n) (szT G e)) = true)
      have hln := beqT hg1
      have hle := bleT hg2
      obtain ⟨z, hz, h⟩ := bindS h
      obtain ⟨z', hz', h⟩ := bindS h
      obtain ⟨l1, l2⟩ := asLfs_len hl
      have hcl : (s0.ev y).cells.length = n := by rw [l1, ← l2, List.length_map, hln]
      have hleaf : ∀ τ ∈ l.map (fun | .mk τ _ => τ), τ.leaf = true := by
        rw [l2]; intro τ hτ; exact lvT_leaf e τ (List.mem_of_mem_drop (List.mem_of_mem_take hτ))
      refine ⟨_, _, _, h, (storeEl_ok (s0.ev y).ids hd ho hn hx hi (lockOK_le hlk) hle hf hcl ?_).more (by simp)⟩
      intro F L s a w hr hev hlk' hj
      have hye : s.ev y = s0.ev y := hev y (by simp [ho, Op.operands])
      have hfz : frz s f = frz s0 f := frz_congr f fun k hk => hlk' k (by simp [hk])
      have hasL : asLfs s (((lvT G e).drop off).take n) (s.ev y).cells = some (l, f) := by rw [hye, ← hl]; exact asLfs_congr fun k hk => hlk' k (by rw [cells_ids'] at hk; simp [hk])
      have hso : (s.ev y).sound = true := asLfs_sound (e := e) (fun τ hτ => lvT_leaf e τ (List.mem_of_mem_drop (List.mem_of_mem_take hτ))) hasL
      have q2 := asLfs_sem hr (okOf F L (s.upd (frz s0 f))) (by rw [← hfz]; exact keeps_less (frz_owned hr.e f)) hasL ((hr.ev y).cells hso) (fun i hi e xs n m p1 p2 o r1 r2 => by
        rw [← hfz]; exact frozen_ok hr hi p1 p2 o r1 r2)
      refine ⟨by rw [← hye]; exact hso, RepL.oneCell hleaf q2, fun cs hcs => ?_⟩
      rw [List.getElem?_eq_getElem hj] at hz
      have hz := some_inj hz
      subst hz
      exact RepD.ofCells hz' (hcs.cells.splice off q2)
    · cases h

theorem opE_sound (hE : ∀ f T, E.fns f = some T → FnOK E.P f T) (heq : ∀ t ∈ E.eqs, EqOK E.P t) {s0 : St G} {nid : Nat} {o : Oper} (hd : ∀ t, o.dst = some t → t < E.nt) {k : EV G → List (Nat × Ent G) → List Nat → Option R} {r : R}
    (h : opE E s0 nid o k = some r) : ∃ v up rd, k v up rd = some r ∧ OpOK E.P E.nt o s0.ev (rd ++ up.map (·.1)) s0.look v up := by
  unfold opE at h
  split at h
  · rename_i v hp
    exact ⟨v, [], _, h, (pure_ok heq hd hp).more (by simp)⟩
  split at h
  · -- alloc
    rename_i t ho
    split at h
    · rename_i cs hz
      obtain ⟨hg, h⟩ := guardb h
      obtain ⟨h1, h2⟩ := band hg
      exact ⟨_, _, _, h, (alloc_ok hd ho hz h2 s0.look (isFree_look h1) s0.ev).more (by simp)⟩
    · cases h
  · -- box
    rename_i t x ho
    split at h
    · rename_i n hn
      obtain ⟨hg, h⟩ := guardb h
      obtain ⟨hg, h3⟩ := band hg
      obtain ⟨h1, h2⟩ := band hg
      exact ⟨_, _, _, h, (box_ok (n := n) hd ho s0.look (isFree_look h1) s0.ev (sound_of_all (n := n) h2)).more (by simp)⟩
    · cases h
  · -- store
    rename_i t x y ho
    split at h
    · rename_i i off n hx hn
      split at h
      · rename_i cs hi
        obtain ⟨hg, h⟩ := guardb h
        obtain ⟨hg, h3⟩ := band hg
        obtain ⟨h1, h2⟩ := band hg
        exact ⟨_, _, _, h, (storeBox_ok hd ho hn hx hi (beqT h1) (bleT h2) h3).more (by simp)⟩
      · cases h
    · rename_i i j off n hx hn
      split at h
      · rename_i e xs lock hi
        obtain ⟨hlk, h⟩ := guardn h
        exact storeE_sound hd ho hx hn hi (by simpa using hlk) h
      · rename_i e xs cs zc m tt hi
        obtain ⟨hg, h⟩ := guardb h
        obtain ⟨hg, hj⟩ := band hg
        obtain ⟨hg, h3⟩ := band hg
        obtain ⟨h1, h2⟩ := band hg
        exact ⟨_, _, _, h, (storeFill_ok hd ho hn hx hi (beqT hj) (beqT h1) (bleT h2) h3).more (by simp)⟩
      · cases h
    · cases h
  · -- load
    rename_i t x ho
    split at h
    · rename_i i j off n hx hn
      split at h
      · rename_i e xs lock hi
        obtain ⟨z, hz, h⟩ := bindS h
        split at h
        · rename_i v hv
          exact ⟨_, _, _, h, (loadEl_ok hd ho hn hx hi hz hv).more (by simp)⟩
        · cases h
      · rename_i e xs cs zc m tt hi
        obtain ⟨hj, h⟩ := guardb h
        split at h
        · rename_i v hv
          exact ⟨_, _, _, h, (loadFill_ok hd ho hn hx hi (beqT hj) hv).more (by simp)⟩
        · cases h
      · cases h
    · cases h
  · -- indexAddr
    rename_i t x ix ho
    split at h
    · cases h
    rename_i et he
    split at h
    · rename_i kk i hix
      split at h
      · rename_i e xs hx
        obtain ⟨hz, h⟩ := guardb h
        obtain ⟨y, hy, h⟩ := bindS h
        exact ⟨_, _, _, h, (indexData_ok hd ho he (of_decide_eq_true hz) hx hix hy).more (by simp)⟩
      · rename_i id hx
        split at h
        · rename_i e xs lock hrow
          obtain ⟨hz, h⟩ := guardb h
          obtain ⟨hg, h⟩ := guardb h
          obtain ⟨h0, h1⟩ := band hg
          have := indexOwn_ok hd ho he (of_decide_eq_true hz) hrow hix (of_decide_eq_true h0) (lo := 0) (.inl ⟨hx, rfl, of_decide_eq_true h1⟩)
          rw [Nat.zero_add] at this
          exact ⟨_, _, _, h, this.more (by simp)⟩
        · rename_i e xs hrow
          obtain ⟨hz, h⟩ := guardb h
          obtain ⟨y, hy, h⟩ := bindS h
          exact ⟨_, _, _, h, (indexFz_ok (ys := xs) hd ho he (of_decide_eq_true hz) hrow hix (by rw [hx]; simp only [asD, hrow, castD]; rfl) (by rw [hx]; rfl) hy).more (by simp)⟩
        · rename_i e xs cs zc n tt hrow
          obtain ⟨hg, h'⟩ := guardb h
          obtain ⟨hz, hg⟩ := band hg
          obtain ⟨h0, hg⟩ := band hg
          obtain ⟨h1, h2⟩ := band hg
          exact ⟨_, _, _, h', (indexFill_ok hd ho he (of_decide_eq_true hz) hrow hix (of_decide_eq_true h0) (beqT h1) (bleT h2) hx).more (by simp)⟩
        · cases h
      · rename_i id lo n hx
        split at h
        · rename_i e xs lock hrow
          obtain ⟨hz, h⟩ := guardb h
          obtain ⟨hg, h⟩ := guardb h
          obtain ⟨h0, h1⟩ := band hg
          exact ⟨_, _, _, h, (indexOwn_ok hd ho he (of_decide_eq_true hz) hrow hix (of_decide_eq_true h0) (lo := lo) (.inr ⟨n, hx, of_decide_eq_true h1⟩)).more (by simp)⟩
        · rename_i e xs hrow
          obtain ⟨hz, h⟩ := guardb h
          obtain ⟨y, hy, h⟩ := bindS h
          exact ⟨_, _, _, h, (indexFz_ok (ys := (xs.drop lo).take n) hd ho he (of_decide_eq_true hz) hrow hix (by rw [hx]; simp only [asD, hrow, castD]; rfl) (by rw [hx]; rfl) hy).more (by simp)⟩
        · cases h
      · cases h
    · cases h
  · -- index
    rename_i t x ix ho
    split at h
    · rename_i b k' i hx hix hu
      obtain ⟨y, hy, h⟩ := bindS h
      exact ⟨_, _, _, h, (indexStr_ok hd ho hu hx hix hy).more (by simp)⟩
    · cases h
  · -- makeSlice
    rename_i t l c ho
    split at h
    · cases h
    rename_i et he
    split at h
    · rename_i e b z l' c' hty hb hz hl hc
      obtain ⟨hg, h'⟩ := guardb h
      obtain ⟨hg', hb1'⟩ := band hg
      obtain ⟨hfr, hze'⟩ := band hg'
      have hze := beqT hze'
      subst hze
      have hb1 := bleT hb1'
      obtain ⟨hg2, h''⟩ := guardb h'
      obtain ⟨h0, h1, h2⟩ := makeOK_iff.mp hg2
      have hc63 : c' ≤ 9223372036854775807 := by
        have h3 : c' * 1 ≤ c' * (b : Int) := Int.mul_le_mul_of_nonneg_left (by omega) (by omega)
        rw [Int.mul_one] at h3; omega
      cases hfl : E.fills.contains nid with
      | true =>
       simp only [hfl, cond_true] at h''
       split at h''
       · rename_i zc hzc
         obtain ⟨hg4, h3⟩ := guardb h''
         obtain ⟨hg5, hg6⟩ := band hg4
         exact ⟨_, _, _, h3, (makeFill_ok hd ho he hb hz hl hc (isFree_look hfr) h0 h1 h2 hc63 hzc (beqT hg5) (bleT hg6)).more (by simp)⟩
       · cases h''
      | false =>
      simp only [hfl, cond_false] at h''
      split at h''
      · rename_i y hy
        exact ⟨_, _, _, h'', (makeSlice_ok hd ho he hb hz hl hc (isFree_look hfr) h0 h1 h2 hc63 hy).more (by simp)⟩
      · cases h''
    · cases h
  · -- buildSlice
    rename_i t len parts ho
    split at h
    · cases h
    rename_i et he
    split at h
    · rename_i e z hty hz
      obtain ⟨hg, h'⟩ := guardb h
      obtain ⟨hg1, h6⟩ := band hg
      obtain ⟨hg2, h5⟩ := band hg1
      obtain ⟨hg3, h4⟩ := band hg2
      obtain ⟨hg4, h3⟩ := band hg3
      obtain ⟨h1, h2'⟩ := band hg4
      have h2 := beqT h2'
      subst h2
      obtain ⟨ys, f, h'', hys, hel⟩ := buildRow_sound h'
      have hlen := beqT h5
      refine ⟨_, _, _, h'', (buildSlice_ok (f := f) hd ho he hz (isFree_look h1) (bleT h3) h4 hlen (by rw [hys, List.length_map, hlen]) hel ?_ (EV.idss (parts.toList.map fun p => s0.ev p.2) ++ f) ?_ (fun j hj => by simp [hj])).more ?_⟩
      · cases hzc : (zeroCells E.P et : Option (List (EV G))) with
        | some zc => exact .inr ⟨zc, rfl⟩
        | none => rw [hzc] at h6; exact .inl (beqT h6)
      · intro p hp j hj
        refine List.mem_append.mpr (.inl ?_)
        have gen : ∀ l : List (EV G), s0.ev p.2 ∈ l → j ∈ EV.idss l := by
          intro l
          induction l with
          | nil => intro h; cases h
          | cons b l ih =>
            intro h
            simp only [EV.idss, List.mem_append]
            rcases List.mem_cons.mp h with h | h
            · left; rw [← h]; exact hj
            · exact .inr (ih h)
        exact gen _ (List.mem_map.mpr ⟨p, hp, rfl⟩)
      · intro i hi
        simp only [List.mem_cons, List.mem_append, List.map_cons] at hi ⊢
        rcases hi with h | h | h
        · exact .inr (.inl h)
        · exact .inl (.inl h)
        · exact .inl (.inr h)
    · cases h
  · -- slice
    rename_i t x lo hi mx ho
    split at h
    · cases h
    split at h
    · rename_i l hh hl hh'
      split at h
      · rename_i b hx hu
        obtain ⟨hb, h⟩ := guardb h
        exact ⟨_, _, _, h, (sliceStr_ok hd ho hu hx hl hh' hb).more (by simp)⟩
      · rename_i e xs et hx hu
        obtain ⟨hz, h⟩ := guardb h
        obtain ⟨hb, h⟩ := guardb h
        exact ⟨_, _, _, h, (sliceData_ok hd ho hu (of_decide_eq_true hz) hx hl hh' hb).more (by simp)⟩
      · rename_i et hx hu
        obtain ⟨hz, h⟩ := guardb h
        obtain ⟨hb, h⟩ := guardb h
        split at hz
        · rename_i z hz'
          exact ⟨_, _, _, h, (sliceNil_ok hd ho hu hz' hx hl hh' hb).more (by simp)⟩
        · cases hz
      · rename_i id et hx hu
        split at h
        · rename_i e xs lock hrow
          obtain ⟨hz, h⟩ := guardb h
          obtain ⟨hb, h⟩ := guardb h
          have := sliceOwn_ok hd ho hu (of_decide_eq_true hz) hrow (b := 0) (n := xs.length) (.inl ⟨hx, rfl, rfl⟩) hl hh' hb
          rw [Nat.zero_add] at this
          exact ⟨_, _, _, h, this.more (by simp)⟩
        · cases h
      · rename_i id lo' n et hx hu
        split at h
        · rename_i e xs lock hrow
          obtain ⟨hz, h⟩ := guardb h
          obtain ⟨hb, h⟩ := guardb h
          exact ⟨_, _, _, h, (sliceOwn_ok hd ho hu (of_decide_eq_true hz) hrow (b := lo') (n := n) (.inr hx) hl hh' hb).more (by simp)⟩
        · cases h
      · cases h
    · cases h
  · -- binOp
    rename_i op t x y t2 ho
    split at h
    · rename_i kx a ky b hx hy
      split at h
      · obtain ⟨hk', h'⟩ := guardb h
        have hk := of_decide_eq_true hk'
        subst hk
        obtain ⟨hb, h''⟩ := guardn h'
        exact ⟨_, _, _, h'', (div_ok hd ho hx hy (by simpa using hb) (.inl ⟨rfl, rfl⟩)).more (by simp)⟩
      · obtain ⟨hk', h'⟩ := guardb h
        have hk := of_decide_eq_true hk'
        subst hk
        obtain ⟨hb, h''⟩ := guardn h'
        exact ⟨_, _, _, h'', (div_ok hd ho hx hy (by simpa using hb) (.inr ⟨rfl, rfl⟩)).more (by simp)⟩
      · obtain ⟨hb, h⟩ := guardn h
        exact ⟨_, _, _, h, (shift_ok hd ho hx hy (of_decide_eq_false hb) (.inl ⟨rfl, rfl⟩)).more (by simp)⟩
      · obtain ⟨hb, h⟩ := guardn h
        exact ⟨_, _, _, h, (shift_ok hd ho hx hy (of_decide_eq_false hb) (.inr ⟨rfl, rfl⟩)).more (by simp)⟩
      · cases h
    · rename_i a b hx hy
      split at h
      · obtain ⟨hb, h⟩ := guardb h
        exact ⟨_, _, _, h, (cat_ok hd ho hx hy (of_decide_eq_true hb)).more (by simp)⟩
      · cases h
    · cases h
  · -- call
    rename_i c ho
    split at h
    · rename_i f hcal
      split at h
      · rename_i g caps hf
        obtain ⟨v, up, rd, h, ⟨T, hT⟩, hok⟩ := callE_sound hE h
        refine ⟨v, up, rd, h, ?_⟩
        intro F L s a w hr hev hlk
        have hfe : s.ev f = .fn g caps := by rw [hev f (by simp [ho, Op.operands, Call.operands, hcal]), hf]
        have hargs : c.args.toList.map s.ev = c.args.toList.map s0.ev := List.map_congr_left fun x hx => hev x (by simp only [ho, Op.operands, Call.operands, Array.mem_append]; exact .inr (by simpa using hx))
        have hfv := hr.ev f
        rw [hfe] at hfv
        simp only [RepV] at hfv
        obtain ⟨cvs, hav, hcv⟩ := hfv
        obtain ⟨fn, c0, e1, e2, e3⟩ := (hE g T hT).enters
        have hrun : (execOp a.eval o).run E.P w = .ok (.enter g (c.args.map a.eval ++ cvs)) w := by
          have := MuLone.run_callFunc_enter e1 e2 e3 (c.args.map a.eval ++ cvs) w
          simp [execOp, ho, resolve, hcal, Deferred.ofValue, hav, invoke, this]
        unfold Oper.wp
        rw [hrun, Oper.upon_enter]
        have hm := operand_map hr c.args.toList
        rw [hargs] at hm
        refine (hok F L s a w hr hlk (c.args.map a.eval ++ cvs) (by rw [Array.toList_append, Array.toList_map]; exact hm.append hcv) ?_).mono ?_
        · intro j hj
          have hj' : j ∈ EV.idss (c.args.toList.map s0.ev) ∨ j ∈ EV.idss caps := by
            have gen : ∀ l m : List (EV G), j ∈ EV.idss (l ++ m) → j ∈ EV.idss l ∨ j ∈ EV.idss m := by
              intro l m
              induction l with
              | nil => intro h; exact .inr h
              | cons b l ih =>
                intro h
                simp only [List.cons_append, EV.idss, List.mem_append] at h ⊢
                rcases h with h | h
                · exact .inl (.inl h)
                · rcases ih h with h | h
                  · exact .inl (.inr h)
                  · exact .inr h
            exact gen _ _ hj
          rcases hj' with hj | hj
          · rw [← hargs] at hj; exact operand_ids hr _ j hj
          · exact hr.evIds f j (by rw [hfe]; simpa [EV.ids] using hj)
        · rintro e w' ⟨u, L', rfl, q1, q2, q3⟩
          exact ⟨L', q1.put o.dst hd v u q2 q3⟩
      · cases h
    · rename_i hcal
      split at h
      · rename_i x y t t2 ha hta
        split at h
        · cases h
        rename_i et he
        split at h
        · rename_i e b z hty hb hz htt
          have htt := beqT htt
          subst htt
          split at h
          · cases h
          rename_i xs lock used hbase
          split at h
          · cases h
          rename_i ys hrow
          obtain ⟨hg, h⟩ := guardb h
          obtain ⟨hg, h5⟩ := band hg
          obtain ⟨hg, h4⟩ := band hg
          obtain ⟨hg, h3⟩ := band hg
          obtain ⟨h1, h2⟩ := band hg
          obtain ⟨hlim, h⟩ := guardb h
          split at h5
          · rename_i zc hzc
            have hca : c.args = #[x, y] := by cases hc : c.args; rw [hc] at ha; simpa using ha
            have hct : c.argTypes = #[t, t] := by cases hc : c.argTypes; rw [hc] at hta; simpa using hta
            exact ⟨_, _, _, h, (append_ok (args := c.args) (ats := c.argTypes) (res := c.argTypes) hd ho hcal hca hct he hb hz (beqT h2) hbase hrow (isFree_look h1) (bleT h3) hzc (beqT h5) (appOK_iff.mp hlim) (bleT h4)
              (fun s hs => baseOf_congr hs) (fun s hs => rowOfD_congr hs)).more (by
                intro i hi
                simp only [List.mem_cons, List.mem_append, List.map_cons] at hi ⊢
                rcases hi with h | h
                · exact .inr (.inl h)
                · exact .inl h)⟩
          · cases h5
        · cases h
      · cases h
    · cases h
  · cases h
end
end Go.Abs
end
section
set_option linter.all false
set_option linter.unusedVariables false
set_option linter.unusedSimpArgs false
set_option linter.unnecessarySimpa false
/-
  ABS, part 23: regions: operations one after the other, in every order that the edges allow.
-/
namespace Go.Abs
open Go
variable {G : Gam}

def St.Same (s s' : St G) : Prop := (∀ t, s'.get t = s.get t) ∧ ∀ i, s'.look i = s.look i
theorem St.Same.rfl' (s : St G) : St.Same s s := ⟨fun _ => rfl, fun _ => rfl⟩
theorem St.Same.symm {s s' : St G} (h : St.Same s s') : St.Same s' s := ⟨fun t => (h.1 t).symm, fun i => (h.2 i).symm⟩
theorem St.Same.trans {s s' s'' : St G} (h : St.Same s s') (h' : St.Same s' s'') : St.Same s s'' := ⟨fun t => (h'.1 t).trans (h.1 t), fun i => (h'.2 i).trans (h.2 i)⟩
theorem St.Same.ev {s s' : St G} (h : St.Same s s') (x : Operand) : s'.ev x = s.ev x := by cases x <;> first | exact h.1 _ | rfl
theorem St.Same.put {s s' : St G} (h : St.Same s s') (d : Option Nat) (v : EV G) : St.Same (s.put d v) (s'.put d v) := by
  refine ⟨fun t => ?_, fun i => by rw [St.look_put, St.look_put]; exact h.2 i⟩
  cases d with
  | none => exact h.1 t
  | some d => rw [St.get_put, St.get_put]; split <;> first | rfl | exact h.1 t
theorem St.Same.upd {s s' : St G} (h : St.Same s s') (l : List (Nat × Ent G)) : St.Same (s.upd l) (s'.upd l) :=
  ⟨h.1, fun i => by rw [St.look_upd, St.look_upd, h.2 i]⟩

structure Lab (G : Gam) where
  i : Nat
  run : Option (EV G × List (Nat × Ent G))
  rd : List Nat
def Lab.wr (ℓ : Lab G) : List Nat := match ℓ.run with | some (_, up) => up.map (·.1) | none => []
def Lab.ids (ℓ : Lab G) : List Nat := ℓ.rd ++ ℓ.wr
def Lab.T (ops : Array Oper) (ℓ : Lab G) (s : St G) : St G :=
  match ops[ℓ.i]? with
  | none => s
  | some o => match ℓ.run with
    | some (v, up) => (s.upd up).put o.dst v
    | none => s.put o.dst .un

/-- The operation behind an index, and its guard's slot, and what is held there. -/
def Guards (ops : Array Oper) (s : St G) (o : Oper) (run : Bool) : Prop :=
  match o.guard with
  | none => run = true
  | some (j, want) => ∃ oj g, ops[j]? = some oj ∧ oj.dst = some g ∧ (if run = true then s.get g = .d .bool want else s.get g = .un ∨ s.get g = .d .bool (!want))
def Lab.Step (P : Program) (nt : Nat) (ops : Array Oper) (ℓ : Lab G) (s : St G) : Prop :=
  ∃ o, ops[ℓ.i]? = some o ∧ (∀ t, o.dst = some t → t < nt) ∧ Guards ops s o ℓ.run.isSome ∧
    match ℓ.run with
    | some (v, up) => OpOK P nt o s.ev (ℓ.rd ++ up.map (·.1)) s.look v up
    | none => True
def Run (P : Program) (nt : Nat) (ops : Array Oper) : List (Lab G) → St G → St G → Prop
  | [], s, s' => St.Same s s'
  | ℓ :: l, s, s' => ℓ.Step P nt ops s ∧ Run P nt ops l (ℓ.T ops s) s'

section
variable {P : Program} {F : Frm} {nt : Nat} {L : LM} {s s' : St G} {a : Act} {w : World} {ops : Array Oper}

theorem Lab.T_congr (h : St.Same s s') (ℓ : Lab G) : St.Same (ℓ.T ops s) (ℓ.T ops s') := by
  unfold Lab.T
  split
  · exact h
  · split
    · exact (h.upd _).put _ _
    · exact h.put _ _
theorem OpOK.congr {o : Oper} {ev ev' : Operand → EV G} {ids : List Nat} {lk lk' : Nat → Option (Ent G)} {v : EV G} {up : List (Nat × Ent G)} (h : OpOK P nt o ev ids lk v up) (he : ∀ x ∈ o.op.operands, ev' x = ev x) (hl : ∀ i ∈ ids, lk' i = lk i) : OpOK P nt o ev' ids lk' v up :=
  fun F L s a w hr hev hlk => h F L s a w hr (fun x hx => (hev x hx).trans (he x hx)) fun i hi => (hlk i hi).trans (hl i hi)

/-- A step looks at its operands, its guard, its entries. -/
theorem Lab.Step.congr {ℓ : Lab G} (h : ℓ.Step P nt ops s) (hg : ∀ o, ops[ℓ.i]? = some o → ∀ t ∈ o.looksAt ops, s'.get t = s.get t) (hl : ∀ i ∈ ℓ.ids, s'.look i = s.look i) : ℓ.Step P nt ops s' := by
  obtain ⟨o, h1, h2, h3, h4⟩ := h
  have hgo := hg o h1
  refine ⟨o, h1, h2, ?_, ?_⟩
  · unfold Guards at h3 ⊢
    cases hgd : o.guard with
    | none => simp only [hgd] at h3 ⊢; exact h3
    | some jw =>
      obtain ⟨j, want⟩ := jw
      simp only [hgd] at h3 ⊢
      obtain ⟨oj, g, p1, p2, p3⟩ := h3
      refine ⟨oj, g, p1, p2, ?_⟩
      rw [hgo g (by simp [Oper.looksAt, hgd, p1, p2])]; exact p3
  · cases hr : ℓ.run with
    | none => trivial
    | some vu =>
      obtain ⟨v, up⟩ := vu
      simp only [hr] at h4 ⊢
      refine h4.congr (fun x hx => ?_) (fun i hi => hl i (by simpa [Lab.ids, Lab.wr, hr] using hi))
      cases x with
      | tmp t => exact hgo t (List.mem_append_left _ (List.mem_filterMap.2 ⟨.tmp t, by simpa using hx, rfl⟩))
      | const v => rfl
      | func f => rfl
      | global g => rfl
theorem Run.congr : ∀ {l : List (Lab G)} {s s1 s' : St G}, St.Same s s1 → Run P nt ops l s s' → Run P nt ops l s1 s' := by
  intro l
  induction l with
  | nil => intro s s1 s' h hr; exact h.symm.trans hr
  | cons ℓ l ih =>
    intro s s1 s' h hr
    exact ⟨hr.1.congr (fun _ _ t _ => h.1 t) (fun i _ => h.2 i), ih (ℓ.T_congr h) hr.2⟩

theorem Lab.T_get {ℓ : Lab G} {t : Nat} (h : ∀ o, ops[ℓ.i]? = some o → o.dst ≠ some t) : (ℓ.T ops s).get t = s.get t := by
  unfold Lab.T
  split
  · rfl
  · rename_i o ho
    have hn := h o ho
    have key : ∀ (u : St G) (v : EV G), (u.put o.dst v).get t = u.get t := by
      intro u v
      cases hd : o.dst with
      | none => rfl
      | some d => rw [St.get_put, if_neg (fun e => hn (by rw [hd, e]))]
    split <;> rw [key]; rfl
theorem Lab.T_look {ℓ : Lab G} {i : Nat} (h : i ∉ ℓ.wr) : (ℓ.T ops s).look i = s.look i := by
  unfold Lab.T
  split
  · rfl
  · split
    · rename_i v up hr
      rw [St.look_put, St.look_upd, lookT_none (by simpa [Lab.wr, hr] using h)]; rfl
    · rw [St.look_put]

def Free (ops : Array Oper) (ℓ m : Lab G) : Prop :=
  (∃ x y, ops[ℓ.i]? = some x ∧ ops[m.i]? = some y ∧ x.apart ops y = true) ∧ (∀ i ∈ ℓ.wr, i ∉ m.ids) ∧ (∀ i ∈ m.wr, i ∉ ℓ.ids)

theorem swap {ℓ m : Lab G} (hf : Free ops ℓ m) (h1 : ℓ.Step P nt ops s) (h2 : m.Step P nt ops (ℓ.T ops s)) : m.Step P nt ops s ∧ ℓ.Step P nt ops (m.T ops s) ∧ St.Same (m.T ops (ℓ.T ops s)) (ℓ.T ops (m.T ops s)) := by
  obtain ⟨⟨x, y, hx, hy, hap⟩, f1, f2⟩ := hf
  obtain ⟨a1, a2, a3⟩ := Oper.apart_spec hap
  refine ⟨h2.congr (fun o ho t ht => ?_) (fun i hi => ?_), h1.congr (fun o ho t ht => ?_) (fun i hi => ?_), ?_, ?_⟩
  · rw [hy] at ho; cases ho
    exact (Lab.T_get fun o ho hd => by rw [hx] at ho; cases ho; exact a1 t hd ht).symm
  · exact (Lab.T_look fun hw => f1 i hw hi).symm
  · rw [hx] at ho; cases ho
    exact Lab.T_get fun o ho hd => by rw [hy] at ho; cases ho; exact a3 t hd ht
  · exact Lab.T_look fun hw => f2 i hw hi
  · intro t
    by_cases hxt : x.dst = some t
    · have hyt : ∀ o, ops[m.i]? = some o → o.dst ≠ some t := fun o ho => by rw [hy] at ho; cases ho; exact a2 t hxt
      rw [Lab.T_get (ℓ := m) hyt]
      have key : ∀ u : St G, (ℓ.T ops u).get t = match ℓ.run with | some (v, _) => v | none => .un := by
        intro u
        unfold Lab.T
        simp only [hx]
        split <;> rename_i hr <;> (rw [hxt, St.get_put, if_pos rfl])
      rw [key, key]
    · have hxt' : ∀ o, ops[ℓ.i]? = some o → o.dst ≠ some t := fun o ho => by rw [hx] at ho; cases ho; exact hxt
      rw [Lab.T_get (ℓ := ℓ) hxt']
      by_cases hyt : y.dst = some t
      · have key : ∀ u : St G, (m.T ops u).get t = match m.run with | some (v, _) => v | none => .un := by
          intro u
          unfold Lab.T
          simp only [hy]
          split <;> rename_i hr <;> (rw [hyt, St.get_put, if_pos rfl])
        rw [key, key]
      · have hyt' : ∀ o, ops[m.i]? = some o → o.dst ≠ some t := fun o ho => by rw [hy] at ho; cases ho; exact hyt
        rw [Lab.T_get hyt', Lab.T_get hyt', Lab.T_get hxt']
  · intro i
    by_cases hxi : i ∈ ℓ.wr
    · have hmi : i ∉ m.wr := fun hw => f1 i hxi (by simp [Lab.ids, hw])
      rw [Lab.T_look (ℓ := m) hmi]
      have key : ∀ u : St G, (ℓ.T ops u).look i = match ℓ.run with | some (_, up) => (lookT up i).or (u.look i) | none => u.look i := by
        intro u
        unfold Lab.T
        simp only [hx]
        split <;> rename_i hr
        · rw [St.look_put, St.look_upd]
        · rw [St.look_put]
      rw [key, key, Lab.T_look hmi]
    · rw [Lab.T_look (ℓ := ℓ) hxi]
      have key : ∀ u : St G, (m.T ops u).look i = match m.run with | some (_, up) => (lookT up i).or (u.look i) | none => u.look i := by
        intro u
        unfold Lab.T
        simp only [hy]
        split <;> rename_i hr
        · rw [St.look_put, St.look_upd]
        · rw [St.look_put]
      rw [key, key, Lab.T_look hxi]

/-- What nothing before it bears upon may come first. -/
theorem Run.front : ∀ {l1 : List (Lab G)} {ℓ : Lab G} {l2 : List (Lab G)} {s s' : St G}, (∀ m ∈ l1, Free ops m ℓ) → Run P nt ops (l1 ++ ℓ :: l2) s s' → ℓ.Step P nt ops s ∧ Run P nt ops (l1 ++ l2) (ℓ.T ops s) s' := by
  intro l1
  induction l1 with
  | nil => intro ℓ l2 s s' _ h; exact h
  | cons m l1 ih =>
    intro ℓ l2 s s' hf h
    obtain ⟨h1, h2⟩ := ih (fun x hx => hf x (by simp [hx])) h.2
    obtain ⟨q1, q2, q3⟩ := swap (hf m (by simp)) h.1 h1
    exact ⟨q1, q2, h2.congr q3⟩

/-! ### running -/
theorem undef_bool (b : Bool) : undef ≠ Value.bool b := by intro h; cases h

theorem yielded_of (h : Rel F nt L s a w) {j g : Nat} {oj : Oper} (h1 : ops[j]? = some oj) (h2 : oj.dst = some g) {v : EV G} (hv : s.get g = v) :
    (∀ c, v = .d .bool c → yielded ops a.tmps j = some c) ∧ (v = .un → yielded ops a.tmps j = none) := by
  have ht := h.tm g
  rw [hv] at ht
  unfold yielded
  simp only [h1, h2, Option.bind_some]
  constructor
  · rintro c rfl
    simp only [RepV] at ht
    have hb := ht.2.inv
    have hb : a.tmps.getD g undef = .bool c := by simpa [RepD.Inv] using hb
    rw [Array.getD_eq_getD_getElem?] at hb
    cases hx : a.tmps[g]? with
    | none => rw [hx] at hb; exact absurd hb (undef_bool c)
    | some x => rw [hx] at hb; simp at hb; subst hb; rfl
  · rintro rfl
    simp only [RepV] at ht
    rw [Array.getD_eq_getD_getElem?] at ht
    cases hx : a.tmps[g]? with
    | none => rfl
    | some x => rw [hx] at ht; simp at ht; subst ht; rfl

theorem Lab.exec {ℓ : Lab G} (h : Rel F nt L s a w) (hs : ℓ.Step P nt ops s) {Q : Exit → Act → World → Prop} {K : Act → World → Prop} (hK : ∀ L' a' w', Rel F nt L' (ℓ.T ops s) a' w' → K a' w') : wpOp P ops Q ℓ.i K a w := by
  obtain ⟨o, h1, h2, h3, h4⟩ := hs
  unfold wpOp
  simp only [h1]
  cases hr : ℓ.run with
  | some vu =>
    obtain ⟨v, up⟩ := vu
    simp only [hr] at h4
    rw [hr] at h3
    have hw : Region.wanted o (yielded ops a.tmps) = true := by
      unfold Region.wanted
      unfold Guards at h3
      cases hg : o.guard with
      | none => rfl
      | some jw =>
        obtain ⟨j, want⟩ := jw
        simp only [hg] at h3 ⊢
        obtain ⟨oj, g, p1, p2, p3⟩ := h3
        simp only [Option.isSome_some, if_true] at p3
        have e : yielded ops a.tmps j = some (want : Bool) := (yielded_of h p1 p2 p3).1 want rfl
        rw [e]; cases want <;> rfl
    simp only [hw, if_true]
    refine .inl ?_
    have := h4 F L s a w h (fun _ _ => rfl) (fun _ _ => rfl)
    have hT : ℓ.T ops s = (s.upd up).put o.dst v := by unfold Lab.T; simp only [h1, hr]
    unfold Oper.wp at this ⊢
    generalize (execOp a.eval o).run P w = r at *
    cases r with
    | ok n w' =>
      cases n <;> simp only [Oper.upon] at this ⊢ <;>
        first
          | (obtain ⟨L', hL⟩ := this; exact hK L' _ _ (by rw [hT]; exact hL))
          | exact Calls.mono this (fun e w'' he => by cases e <;> first | (obtain ⟨L', hL⟩ := he; exact hK L' _ _ (by rw [hT]; exact hL)) | exact he.elim | (obtain ⟨_, _, he⟩ := he; exact he.elim))
          | exact Rows.mono this (fun _ _ he => by obtain ⟨L', hL⟩ := he; exact hK L' _ _ (by rw [hT]; exact hL))
    | halt x w' => cases x <;> simp only [Oper.upon] at this
  | none =>
    rw [hr] at h3
    have hw : Region.wanted o (yielded ops a.tmps) = false := by
      unfold Region.wanted
      unfold Guards at h3
      cases hg : o.guard with
      | none => simp only [hg] at h3; cases h3
      | some jw =>
        obtain ⟨j, want⟩ := jw
        simp only [hg] at h3 ⊢
        obtain ⟨oj, g, p1, p2, p3⟩ := h3
        simp only [Option.isSome_none, Bool.false_eq_true, if_false] at p3
        rcases p3 with p3 | p3
        · have e : yielded ops a.tmps j = none := (yielded_of h p1 p2 p3).2 rfl
          rw [e]; rfl
        · have e : yielded ops a.tmps j = some (!want : Bool) := (yielded_of h p1 p2 p3).1 _ rfl
          rw [e]; cases want <;> rfl
    simp only [hw, Bool.false_eq_true, if_false]
    refine hK L _ w ?_
    have hT : ℓ.T ops s = s.put o.dst .un := by unfold Lab.T; simp only [h1, hr]
    rw [hT]
    exact h.put o.dst h2 .un undef (by simp only [RepV]) (by simp [EV.ids])

theorem Rel.same (h : Rel F nt L s a w) (hs : St.Same s s') : Rel F nt L s' a w := h.ext hs.1 hs.2

/-- One order: as they stand. -/
theorem Run.inOrder {Q : Exit → Act → World → Prop} : ∀ {l : List (Lab G)} {s s' : St G} {L : LM} {a : Act} {w : World}, Run P nt ops l s s' → Rel F nt L s a w → (∀ L' a' w', Rel F nt L' s' a' w' → Q .normal a' w') → wpOps P ops Q (l.map (·.i)) a w := by
  intro l
  induction l with
  | nil => intro s s' L a w hr h hQ; exact hQ L a w (h.same hr)
  | cons ℓ l ih =>
    intro s s' L a w hr h hQ
    rw [List.map_cons, wpOps_cons]
    exact Lab.exec h hr.1 fun L' a' w' h' => ih hr.2 h' hQ
end
end Go.Abs
end
section
set_option linter.all false
set_option linter.unusedVariables false
set_option linter.unusedSimpArgs false
set_option linter.unnecessarySimpa false
/-
  ABS, part 24: regions whose order is drawn.
-/
namespace Go.Abs
open Go
variable {G : Gam}

theorem forceN_eq {α : Type} (n : Nat) (k : Nat → α) : forceN n k = k n := by cases n <;> rfl

theorem preOf_spec (acc : List Nat) : ∀ (es : List Edge) (i : Nat), (preOf acc es).testBit i = true → ∃ e ∈ es, Region.binds .any e = true ∧ (e.on = i ∨ ∃ m, acc[e.on]? = some m ∧ m.testBit i = true) := by
  intro es
  induction es with
  | nil => intro i h; simp [preOf] at h
  | cons e es ih =>
    intro i h
    simp only [preOf] at h
    cases hb : Region.binds .any e with
    | false =>
      rw [hb] at h
      obtain ⟨e', h1, h2⟩ := ih i h
      exact ⟨e', by simp [h1], h2⟩
    | true =>
      rw [hb] at h
      simp only [cond_true, Nat.testBit_or, Bool.or_eq_true] at h
      rcases h with (h | h) | h
      · rw [Nat.testBit_two_pow] at h
        exact ⟨e, by simp, hb, .inl (by simpa using h)⟩
      · refine ⟨e, by simp, hb, .inr ?_⟩
        split at h
        · rename_i n hn; exact ⟨n, hn, h⟩
        · simp at h
      · obtain ⟨e', h1, h2⟩ := ih i h
        exact ⟨e', by simp [h1], h2⟩

theorem preds_spec : ∀ (l : List Oper) (acc : List Nat), ∃ tail, preds l acc = acc ++ tail ∧ tail.length = l.length ∧
    ∀ (p : Nat) (o : Oper) (n : Nat), l[p]? = some o → tail[p]? = some n → ∀ i, n.testBit i = true → ∃ e ∈ o.after.toList, Region.binds .any e = true ∧ (e.on = i ∨ ∃ m, (preds l acc)[e.on]? = some m ∧ m.testBit i = true) := by
  intro l
  induction l with
  | nil => intro acc; exact ⟨[], by simp [preds], rfl, fun p o n h => by simp at h⟩
  | cons o l ih =>
    intro acc
    obtain ⟨tail, h1, h2, h3⟩ := ih (acc ++ [preOf acc o.after.toList])
    have he : preds (o :: l) acc = preds l (acc ++ [preOf acc o.after.toList]) := by simp only [preds, forceN_eq]
    refine ⟨preOf acc o.after.toList :: tail, by rw [he, h1]; simp, by simp [h2], fun p q n hp hn i hi => ?_⟩
    cases p with
    | zero =>
      simp at hp hn
      subst hp; subst hn
      obtain ⟨e, q1, q2, q3⟩ := preOf_spec acc _ i hi
      refine ⟨e, q1, q2, q3.imp (fun h => h) fun ⟨m, hm, hb⟩ => ⟨m, ?_, hb⟩⟩
      have hlt : e.on < acc.length := by
        rcases Nat.lt_or_ge e.on acc.length with h | h
        · exact h
        · rw [List.getElem?_eq_none h] at hm; cases hm
      rw [he, h1, List.append_assoc, List.getElem?_append_left hlt]; exact hm
    | succ p =>
      obtain ⟨e, q1, q2, q3⟩ := h3 p q n (by simpa using hp) (by simpa using hn) i hi
      exact ⟨e, q1, q2, by rw [he]; exact q3⟩

theorem backOK_spec : ∀ (l : List Oper) (j : Nat), backOK j l = true → ∀ (p : Nat) (o : Oper), l[p]? = some o → ∀ e ∈ o.after.toList, Region.binds .any e = true → e.on < j + p := by
  intro l
  induction l with
  | nil => intro j _ p o h; simp at h
  | cons x l ih =>
    intro j h p o hp e he hbn
    simp only [backOK, Bool.and_eq_true] at h
    cases p with
    | zero =>
      simp at hp; subst hp
      have := List.all_eq_true.mp h.1 e he
      rw [hbn] at this
      have := Nat.le_of_ble_eq_true this
      omega
    | succ p =>
      have := ih (j + 1) h.2 p o (by simpa using hp) e he hbn
      omega

section
variable {P : Program} {F : Frm} {nt : Nat} {ops : Array Oper}

theorem mem_ready {listed : Array Bool} {i : Nat} (h : i ∈ Region.ready .any ops listed) : i < ops.size ∧ listed.getD i true = false ∧ ∃ o, ops[i]? = some o ∧ ∀ e ∈ o.after.toList, Region.binds .any e = true → listed.getD e.on false = true := by
  unfold Region.ready at h
  rw [List.mem_filter] at h
  obtain ⟨h1, h2⟩ := h
  have h1 : i < ops.size := by simpa using h1
  rw [Bool.and_eq_true] at h2
  obtain ⟨h2, h3⟩ := h2
  refine ⟨h1, by simpa using h2, ops[i], by simp [h1], fun e he hb => ?_⟩
  have h4 : ops[i]? = some ops[i] := by simp [h1]
  rw [h4] at h3
  simp only [Option.map_some, Option.getD_some, Array.all_eq_true_iff_forall_mem] at h3
  have := h3 e (by simpa using he)
  rw [hb] at this
  simpa using this

theorem ready_mem {listed : Array Bool} {i : Nat} (h1 : i < ops.size) (h2 : listed.getD i true = false) (h3 : ∀ o, ops[i]? = some o → ∀ e ∈ o.after.toList, Region.binds .any e = true → listed.getD e.on false = true) : i ∈ Region.ready .any ops listed := by
  unfold Region.ready
  rw [List.mem_filter]
  refine ⟨by simpa using h1, ?_⟩
  have h4 : ops[i]? = some ops[i] := by simp [h1]
  rw [h2, h4]
  simp only [Bool.not_false, Bool.true_and, Option.map_some, Option.getD_some, Array.all_eq_true_iff_forall_mem]
  intro e he
  cases hb : Region.binds .any e with
  | false => rfl
  | true => rw [h3 _ h4 e (by simpa using he) hb]; rfl

theorem getD_set {l : Array Bool} {i j : Nat} {d : Bool} (hi : i < l.size) : (l.setIfInBounds i true).getD j d = if i = j then true else l.getD j d := by
  simp only [Array.getD_eq_getD_getElem?, Array.getElem?_setIfInBounds]
  by_cases h : i = j
  · subst h; simp [hi]
  · simp [h]
theorem getD_lt {l : Array Bool} {j : Nat} (h : j < l.size) (d d' : Bool) : l.getD j d = l.getD j d' := by
  simp [Array.getD_eq_getD_getElem?, h]

theorem run_any {Q : Exit → Act → World → Prop} (hback : backOK 0 ops.toList = true) {s' : St G} (hQ : ∀ L' a' w', Rel F nt L' s' a' w' → Q .normal a' w') :
    ∀ (fuel : Nat) (l : List (Lab G)) (listed : Array Bool) (s : St G) (L : LM) (a : Act) (w : World), Run P nt ops l s s' → Rel F nt L s a w → l.length = fuel → listed.size = ops.size →
      (∀ i, i < ops.size → (listed.getD i true = false ↔ ∃ ℓ ∈ l, ℓ.i = i)) → (∀ ℓ ∈ l, ℓ.i < ops.size) → l.Pairwise (fun m ℓ => m.i < ℓ.i) →
      l.Pairwise (fun m ℓ => (∃ n, (preds ops.toList [])[ℓ.i]? = some n ∧ n.testBit m.i = true) ∨ Free ops m ℓ) →
      (∀ p n i, listed.getD p false = true → (preds ops.toList [])[p]? = some n → n.testBit i = true → listed.getD i true = true) →
      wpAny P .any ops Q fuel listed a w := by
  obtain ⟨tail, t1, t2, t3⟩ := preds_spec ops.toList []
  simp only [List.nil_append] at t1
  have bits : ∀ {listed : Array Bool} {p : Nat} {o : Oper}, ops[p]? = some o → (∀ e ∈ o.after.toList, Region.binds .any e = true → listed.getD e.on false = true) →
      (∀ p n i, listed.getD p false = true → (preds ops.toList [])[p]? = some n → n.testBit i = true → listed.getD i true = true) → ∀ n i, (preds ops.toList [])[p]? = some n → n.testBit i = true → listed.getD i true = true := by
    intro listed p o ho hr hc n i hn hi
    rw [t1] at hn
    obtain ⟨e, e1, e2, e3⟩ := t3 p o n (by simpa using ho) hn i hi
    have he := hr e e1 e2
    rcases e3 with rfl | ⟨m, hm, hb⟩
    · rcases Nat.lt_or_ge e.on listed.size with h | h
      · rw [getD_lt h true false]; exact he
      · simp [Array.getD_eq_getD_getElem?, Array.getElem?_eq_none h]
    · exact hc e.on m i he hm hb
  intro fuel
  induction fuel with
  | zero =>
    intro l listed s L a w hr h hl hls hun hlt hso hp hcl
    have hl0 : l = [] := List.length_eq_zero_iff.mp hl
    subst hl0
    refine ⟨?_, hQ L a w (h.same hr)⟩
    rw [List.eq_nil_iff_forall_not_mem]
    intro i hi
    obtain ⟨q1, q2, _⟩ := mem_ready hi
    obtain ⟨ℓ, hm, _⟩ := (hun i q1).mp q2
    cases hm
  | succ fuel ih =>
    intro l listed s L a w hr h hl hls hun hlt hso hp hcl
    refine ⟨fun hnil => ?_, fun i hi => ?_⟩
    · cases l with
      | nil => simp at hl
      | cons ℓ l =>
        exfalso
        have : ℓ.i ∈ Region.ready .any ops listed := by
          refine ready_mem (hlt ℓ (by simp)) ((hun _ (hlt ℓ (by simp))).mpr ⟨ℓ, by simp, rfl⟩) fun o ho e he hbn => ?_
          have hb := backOK_spec ops.toList 0 hback ℓ.i o (by simpa using ho) e he hbn
          have hes : e.on < ops.size := by have := hlt ℓ (by simp); omega
          rw [getD_lt (by omega) false true]
          cases hx : listed.getD e.on true with
          | true => rfl
          | false =>
            obtain ⟨m, hm, hmi⟩ := (hun e.on hes).mp hx
            rcases List.mem_cons.mp hm with rfl | hm
            · omega
            · have := (List.pairwise_cons.mp hso).1 m hm
              omega
        rw [hnil] at this; cases this
    · obtain ⟨q1, q2, o, q3, q4⟩ := mem_ready hi
      obtain ⟨ℓ, hm, hli⟩ := (hun i q1).mp q2
      obtain ⟨l1, l2, rfl⟩ := List.append_of_mem hm
      have hso' := List.pairwise_append.mp hso
      have hp' := List.pairwise_append.mp hp
      have hfree : ∀ m ∈ l1, Free ops m ℓ := by
        intro m hml
        rcases hp'.2.2 m hml ℓ (by simp) with ⟨n, hn, hb⟩ | hf
        · exfalso
          rw [hli] at hn
          have h1 := bits q3 q4 hcl n m.i hn hb
          have h2 := (hun m.i (hlt m (by simp [hml]))).mpr ⟨m, by simp [hml], rfl⟩
          rw [h1] at h2; cases h2
        · exact hf
      obtain ⟨r1, r2⟩ := hr.front hfree
      rw [← hli]
      refine Lab.exec h r1 fun L' a' w' h' => ?_
      have hbnd : ℓ.i < listed.size := by rw [hls, hli]; exact q1
      refine ih (l1 ++ l2) _ _ L' a' w' r2 h' (by simp at hl ⊢; omega) (by simp [hls]) ?_ (fun m hm => hlt m (by simp at hm ⊢; rcases hm with h | h <;> simp [h])) ?_ ?_ ?_
      · intro j hj
        rw [getD_set hbnd]
        by_cases hij : ℓ.i = j
        · rw [if_pos hij]
          constructor
          · intro h; cases h
          · rintro ⟨m, hm, hmj⟩
            exfalso
            rcases List.mem_append.mp hm with hm | hm
            · have := hso'.2.2 m hm ℓ (by simp); omega
            · have := (List.pairwise_cons.mp hso'.2.1).1 m hm; omega
        · rw [if_neg hij, hun j hj]
          constructor
          · rintro ⟨m, hm, hmj⟩
            refine ⟨m, ?_, hmj⟩
            simp at hm ⊢
            rcases hm with h | h | h
            · exact .inl h
            · subst h; exact absurd hmj hij
            · exact .inr h
          · rintro ⟨m, hm, hmj⟩
            exact ⟨m, by simp at hm ⊢; rcases hm with h | h <;> simp [h], hmj⟩
      · exact hso.sublist (by simp)
      · exact hp.sublist (by simp)
      · intro p n j hlp hn hb
        rw [getD_set hbnd] at hlp ⊢
        by_cases hij : ℓ.i = j
        · rw [if_pos hij]
        · rw [if_neg hij]
          by_cases hp2 : ℓ.i = p
          · subst hp2
            rw [hli] at hn
            exact bits q3 q4 hcl n j hn hb
          · rw [if_neg hp2] at hlp
            exact hcl p n j hlp hn hb
end
end Go.Abs
end
section
set_option linter.all false
set_option linter.unusedVariables false
set_option linter.unusedSimpArgs false
set_option linter.unnecessarySimpa false
/-
  ABS, part 25: the evaluator's regions are sound.
-/
namespace Go.Abs
open Go
variable {G : Gam}

def Lab.tr (ℓ : Lab G) : Nat × List Nat × List Nat := (ℓ.i, ℓ.rd, ℓ.wr)

theorem same_put {s : St G} {g : Nat} {v : EV G} (h : s.get g = v) : St.Same s (s.put (some g) v) := by
  refine ⟨fun t => ?_, fun i => St.look_put _ _ _ _⟩
  rw [St.get_put]; split
  · rename_i e; subst e; exact h.symm
  · rfl

section
variable {E : Env G} {ops : Array Oper}

theorem okDst_lt {o : Oper} (h : okDst E o = true) : ∀ t, o.dst = some t → t < E.nt := by
  intro t ht
  unfold okDst at h
  rw [ht] at h
  exact Nat.le_of_ble_eq_true h

theorem T_run {ℓ : Lab G} {s : St G} {o : Oper} {v : EV G} {up : List (Nat × Ent G)} (ho : ops[ℓ.i]? = some o) (hr : ℓ.run = some (v, up)) : ℓ.T ops s = (s.upd up).put o.dst v := by
  unfold Lab.T; simp only [ho, hr]
theorem T_skip {ℓ : Lab G} {s : St G} {o : Oper} (ho : ops[ℓ.i]? = some o) (hr : ℓ.run = none) : ℓ.T ops s = s.put o.dst .un := by
  unfold Lab.T; simp only [ho, hr]

theorem opsE_sound {R : Type} (hE : ∀ f T, E.fns f = some T → FnOK E.P f T) (heq : ∀ t ∈ E.eqs, EqOK E.P t) {rid : Nat} {k : St G → Tr → Option R} {r : R} : ∀ (l : List Nat) (s : St G) (tr : Tr), (∀ i ∈ l, i < ops.size) → opsE E rid ops l s tr k = some r →
    ∃ (labs : List (Lab G)) (s' : St G), labs.map (·.i) = l ∧ Run E.P E.nt ops labs s s' ∧ k s' ((labs.map Lab.tr).reverse ++ tr) = some r := by
  intro l
  induction l with
  | nil => intro s tr _ h; exact ⟨[], s, rfl, St.Same.rfl' s, h⟩
  | cons i rest ih =>
    intro s tr hlt h
    have hi : i < ops.size := hlt i (by simp)
    have ho : ops[i]? = some ops[i] := by simp [hi]
    have hrest : ∀ j ∈ rest, j < ops.size := fun j hj => hlt j (by simp [hj])
    simp only [opsE, ho] at h
    obtain ⟨hd', h⟩ := guardn h
    have hd := okDst_lt (E := E) (o := ops[i]) (by simpa using hd')
    generalize hoo : ops[i] = o at *
    -- an operation that runs
    have runs : ∀ s1 : St G, St.Same s s1 → Guards ops s1 o true → opE E s1 ((rid * 1000 + i + 1) * 1000) o (fun v up rd => opsE E rid ops rest ((s1.upd up).put o.dst v) ((i, rd, up.map (·.1)) :: tr) k) = some r →
        ∃ (labs : List (Lab G)) (s' : St G), labs.map (·.i) = i :: rest ∧ Run E.P E.nt ops labs s s' ∧ k s' ((labs.map Lab.tr).reverse ++ tr) = some r := by
      intro s1 hsame hg h
      obtain ⟨v, up, rd, h, hok⟩ := opE_sound hE heq hd h
      obtain ⟨labs, s', q1, q2, q3⟩ := ih _ _ hrest h
      refine ⟨⟨i, some (v, up), rd⟩ :: labs, s', by simp [q1], Run.congr hsame.symm ⟨⟨o, ho, hd, hg, hok⟩, ?_⟩, ?_⟩
      · rw [T_run (ℓ := ⟨i, some (v, up), rd⟩) ho rfl]; exact q2
      · simpa [Lab.tr, Lab.wr] using q3
    have skips : ∀ s1 : St G, St.Same s s1 → Guards ops s1 o false → opsE E rid ops rest (s1.put o.dst .un) ((i, [], []) :: tr) k = some r →
        ∃ (labs : List (Lab G)) (s' : St G), labs.map (·.i) = i :: rest ∧ Run E.P E.nt ops labs s s' ∧ k s' ((labs.map Lab.tr).reverse ++ tr) = some r := by
      intro s1 hsame hg h
      obtain ⟨labs, s', q1, q2, q3⟩ := ih _ _ hrest h
      refine ⟨⟨i, none, []⟩ :: labs, s', by simp [q1], Run.congr hsame.symm ⟨⟨o, ho, hd, hg, trivial⟩, ?_⟩, ?_⟩
      · rw [T_skip (ℓ := ⟨i, none, []⟩) ho rfl]; exact q2
      · simpa [Lab.tr, Lab.wr] using q3
    split at h
    · rename_i hg
      exact runs s (St.Same.rfl' s) (by unfold Guards; simp only [hg]) h
    · rename_i j want hg
      split at h
      · rename_i oj hj
        split at h
        · rename_i g hgd
          split at h
          · rename_i hs
            exact skips s (St.Same.rfl' s) (by unfold Guards; simp only [hg]; exact ⟨oj, g, hj, hgd, by simp [hs]⟩) h
          · rename_i c hs
            have getp : ∀ b : Bool, (s.put (some g) (.d .bool b)).get g = .d .bool b := fun b => by rw [St.get_put, if_pos rfl]
            cases c with
            | true =>
              cases want with
              | true => exact runs _ (same_put hs) (by unfold Guards; simp only [hg]; exact ⟨oj, g, hj, hgd, by simp [getp]⟩) h
              | false => exact skips _ (same_put hs) (by unfold Guards; simp only [hg]; exact ⟨oj, g, hj, hgd, by simp [getp]⟩) h
            | false =>
              cases want with
              | true => exact skips _ (same_put hs) (by unfold Guards; simp only [hg]; exact ⟨oj, g, hj, hgd, by simp [getp]⟩) h
              | false => exact runs _ (same_put hs) (by unfold Guards; simp only [hg]; exact ⟨oj, g, hj, hgd, by simp [getp]⟩) h
          · cases h
        · cases h
      · cases h

/-! ### the pure ones -/
/-- What the second says of the world, the first says. -/
def Weak (s s' : St G) : Prop := (∀ i, s'.look i = s.look i) ∧ ∀ t, (∀ (ok : Cells) (w : World) (L : LM) (v : Value), RepV ok w L (s.get t) v → RepV ok w L (s'.get t) v) ∧ ∀ j ∈ (s'.get t).ids, j ∈ (s.get t).ids
theorem Weak.rfl' (s : St G) : Weak s s := ⟨fun _ => rfl, fun _ => ⟨fun _ _ _ _ h => h, fun _ h => h⟩⟩
theorem Weak.trans {s s' s'' : St G} (h : Weak s s') (h' : Weak s' s'') : Weak s s'' :=
  ⟨fun i => (h'.1 i).trans (h.1 i), fun t => ⟨fun ok w L v hv => (h'.2 t).1 ok w L v ((h.2 t).1 ok w L v hv), fun j hj => (h.2 t).2 j ((h'.2 t).2 j hj)⟩⟩
theorem Rel.weak {F : Frm} {nt : Nat} {L : LM} {s s' : St G} {a : Act} {w : World} (h : Rel F nt L s a w) (hw : Weak s s') : Rel F nt L s' a w := by
  have ho : okOf F L s' = okOf F L s := by funext b o; simp only [okOf, owned, hw.1]
  refine ⟨⟨h.e.fits, ?_, ?_, ?_, ?_, fun i hi => by rw [hw.1]; exact h.e.lent i hi⟩, ?_, ?_, h.defers, h.size⟩
  · intro i e hi; rw [ho]; rw [hw.1] at hi; exact h.e.en i e hi
  · intro i e hi j hj; rw [hw.1] at *; exact h.e.ids i e hi j hj
  · intro i j e f l m hi hj; rw [hw.1] at hi hj; exact h.e.dis i j e f l m hi hj
  · intro i e l hi; rw [hw.1] at hi; exact h.e.own i e l hi
  · intro t; rw [ho]; exact (hw.2 t).1 _ _ _ _ (h.tm t)
  · intro t j hj; rw [hw.1]; exact h.tids t j ((hw.2 t).2 j hj)

theorem pickE_true (x y : EV G) : (∀ (ok : Cells) (w : World) (L : LM) (v : Value), RepV ok w L x v → RepV ok w L (pickE true x y) v) ∧ ∀ j ∈ (pickE true x y).ids, j ∈ x.ids := by
  unfold pickE
  split
  · split
    · exact ⟨fun _ _ _ _ h => h, fun _ h => h⟩
    · exact ⟨fun _ _ _ _ h => h, fun _ h => h⟩
  · exact ⟨fun _ _ _ _ h => h, fun _ h => h⟩
theorem pickE_false (x y : EV G) : (∀ (ok : Cells) (w : World) (L : LM) (v : Value), RepV ok w L y v → RepV ok w L (pickE false x y) v) ∧ ∀ j ∈ (pickE false x y).ids, j ∈ y.ids := by
  unfold pickE
  split
  · split
    · rename_i z hz
      obtain ⟨e, he⟩ := castD_eq hz
      subst e
      have he : _ = z := he
      subst he
      exact ⟨fun _ _ _ _ h => h, fun _ h => h⟩
    · exact ⟨fun _ _ _ _ h => h, fun _ h => h⟩
  · exact ⟨fun _ _ _ _ h => h, fun _ h => h⟩

theorem mergeTm_look (c : Bool) (s1 s2 : St G) (base : List (Nat × EV G)) : ∀ (l : List Nat) (t : Nat), lookT (mergeTm c s1 s2 base l) t = if t ∈ l then some (pickE c (s1.get t) (s2.get t)) else lookT base t := by
  intro l
  induction l with
  | nil => intro t; simp [mergeTm]
  | cons d l ih =>
    intro t
    simp only [mergeTm, lookT_cons, ih, List.mem_cons]
    by_cases h : d = t
    · subst h; simp
    · simp [h, Ne.symm h]

abbrev dsts (ops : Array Oper) : List Nat := ops.toList.filterMap (·.dst)
theorem mem_dsts {i d : Nat} {o : Oper} (ho : ops[i]? = some o) (hd : o.dst = some d) : d ∈ dsts ops := by
  refine List.mem_filterMap.mpr ⟨o, ?_, hd⟩
  exact List.mem_of_getElem? (i := i) (by simpa using ho)
def Keeps' (ops : Array Oper) (s s' : St G) : Prop := (∀ i, s'.look i = s.look i) ∧ ∀ t, t ∉ dsts ops → s'.get t = s.get t
theorem keeps_put {s s' : St G} {i : Nat} {o : Oper} (ho : ops[i]? = some o) {v : EV G} (h : Keeps' ops (s.put o.dst v) s') : Keeps' ops s s' := by
  refine ⟨fun i => (h.1 i).trans (St.look_put _ _ _ _), fun t ht => (h.2 t ht).trans ?_⟩
  cases hd : o.dst with
  | none => rfl
  | some d =>
    have hne : ¬ d = t := fun e => ht (e ▸ mem_dsts ho hd)
    rw [St.get_put, if_neg hne]
theorem keeps_same {s s1 s' : St G} (hs : St.Same s s1) (h : Keeps' ops s1 s') : Keeps' ops s s' := ⟨fun i => (h.1 i).trans (hs.2 i), fun t ht => (h.2 t ht).trans (hs.1 t)⟩

theorem merge_get {s s1 s2 : St G} {c : Bool} (t : Nat) : St.get { s with tm := mergeTm c s1 s2 s.tm (dsts ops) } t = if t ∈ dsts ops then pickE c (s1.get t) (s2.get t) else s.get t := by
  show (match lookT (mergeTm c s1 s2 s.tm (dsts ops)) t with | some v => v | none => .u) = _
  rw [mergeTm_look]
  by_cases h : t ∈ dsts ops
  · rw [if_pos h, if_pos h]
  · rw [if_neg h, if_neg h]; rfl
theorem merge_true {s s1 s2 : St G} (k1 : Keeps' ops s s1) : Weak s1 { s with tm := mergeTm true s1 s2 s.tm (dsts ops) } := by
  refine ⟨fun i => (k1.1 i).symm, fun t => ?_⟩
  rw [merge_get]
  by_cases ht : t ∈ dsts ops
  · rw [if_pos ht]; exact pickE_true _ _
  · rw [if_neg ht, k1.2 t ht]; exact ⟨fun _ _ _ _ h => h, fun _ h => h⟩
theorem merge_false {s s1 s2 : St G} (k2 : Keeps' ops s s2) : Weak s2 { s with tm := mergeTm false s1 s2 s.tm (dsts ops) } := by
  refine ⟨fun i => (k2.1 i).symm, fun t => ?_⟩
  rw [merge_get]
  by_cases ht : t ∈ dsts ops
  · rw [if_pos ht]; exact pickE_false _ _
  · rw [if_neg ht, k2.2 t ht]; exact ⟨fun _ _ _ _ h => h, fun _ h => h⟩
end
end Go.Abs
end
section
set_option linter.all false
set_option linter.unusedVariables false
set_option linter.unusedSimpArgs false
set_option linter.unnecessarySimpa false
/-
  ABS, part 26: a region, whole.
-/
namespace Go.Abs
open Go
variable {G : Gam}

section
variable {E : Env G} {ops : Array Oper}

theorem bEq_true {a b : Bool} (h : bEq a b = true) : a = b := by cases a <;> cases b <;> first | rfl | cases h
theorem bEq_false {a b : Bool} (h : bEq a b = false) : a = !b := by cases a <;> cases b <;> first | rfl | cases h

theorem opsP_sound (heq : ∀ t ∈ E.eqs, EqOK E.P t) : ∀ (l : List Nat) (kn : List (Nat × Bool)) (s s' : St G), (∀ i ∈ l, i < ops.size) → opsP E ops l kn s = some s' →
    Keeps' ops s s' ∧ ∃ (labs : List (Lab G)) (s'' : St G), labs.map (·.i) = l ∧ Run E.P E.nt ops labs s s'' ∧ Weak s'' s' ∧ ∀ ℓ ∈ labs, ℓ.wr = [] := by
  intro l
  induction l with
  | nil =>
    intro kn s s' _ h
    simp only [opsP] at h; cases h
    exact ⟨⟨fun _ => rfl, fun _ _ => rfl⟩, [], s, rfl, St.Same.rfl' s, Weak.rfl' s, fun ℓ h => by cases h⟩
  | cons i rest ih =>
    intro kn s s' hlt h
    have hi : i < ops.size := hlt i (by simp)
    have ho : ops[i]? = some ops[i] := by simp [hi]
    have hrest : ∀ j ∈ rest, j < ops.size := fun j hj => hlt j (by simp [hj])
    simp only [opsP, ho] at h
    obtain ⟨hd', h⟩ := guardn h
    have hd := okDst_lt (E := E) (o := ops[i]) (by simpa using hd')
    generalize hoo : ops[i] = o at *
    have runs : ∀ (s1 s' : St G) (kn : List (Nat × Bool)), Guards ops s1 o true → (match pureOp E.P E.eqs s1 o with | some v => opsP E ops rest kn (s1.put o.dst v) | none => none) = some s' →
        Keeps' ops s1 s' ∧ (St.Same s s1 → ∃ (labs : List (Lab G)) (s'' : St G), labs.map (·.i) = i :: rest ∧ Run E.P E.nt ops labs s s'' ∧ Weak s'' s' ∧ ∀ ℓ ∈ labs, ℓ.wr = []) := by
      intro s1 s' kn hg h
      split at h
      · rename_i v hv
        obtain ⟨q0, labs, s'', q1, q2, q3, q4⟩ := ih _ _ _ hrest h
        refine ⟨keeps_put ho q0, fun hsame => ⟨⟨i, some (v, []), pureReads s1 o⟩ :: labs, s'', by simp [q1], Run.congr hsame.symm ⟨⟨o, ho, hd, hg, (pure_ok heq hd hv).more (by simp)⟩, ?_⟩, q3, ?_⟩⟩
        · rw [T_run (ℓ := ⟨i, some (v, []), pureReads s1 o⟩) ho rfl]; exact q2
        · intro ℓ hl
          rcases List.mem_cons.mp hl with rfl | hl
          · rfl
          · exact q4 ℓ hl
      · cases h
    have skips : ∀ (s1 s' : St G) (kn : List (Nat × Bool)), Guards ops s1 o false → opsP E ops rest kn (s1.put o.dst .un) = some s' →
        Keeps' ops s1 s' ∧ (St.Same s s1 → ∃ (labs : List (Lab G)) (s'' : St G), labs.map (·.i) = i :: rest ∧ Run E.P E.nt ops labs s s'' ∧ Weak s'' s' ∧ ∀ ℓ ∈ labs, ℓ.wr = []) := by
      intro s1 s' kn hg h
      obtain ⟨q0, labs, s'', q1, q2, q3, q4⟩ := ih _ _ _ hrest h
      refine ⟨keeps_put ho q0, fun hsame => ⟨⟨i, none, []⟩ :: labs, s'', by simp [q1], Run.congr hsame.symm ⟨⟨o, ho, hd, hg, trivial⟩, ?_⟩, q3, ?_⟩⟩
      · rw [T_skip (ℓ := ⟨i, none, []⟩) ho rfl]; exact q2
      · intro ℓ hl
        rcases List.mem_cons.mp hl with rfl | hl
        · rfl
        · exact q4 ℓ hl
    split at h
    · rename_i hg
      obtain ⟨a1, a2⟩ := runs s s' kn (by unfold Guards; simp only [hg]) h
      exact ⟨a1, a2 (St.Same.rfl' s)⟩
    · rename_i j want hg
      split at h
      · rename_i oj hj
        split at h
        · rename_i g hgd
          split at h
          · -- decided before
            rename_i c hkn
            split at h
            · rename_i c' hs
              obtain ⟨hcc, h'⟩ := guardb h
              have hcc : c' = c := bEq_true hcc
              subst hcc
              cases hcw : bEq c' want with
              | true =>
                have hcw' : c' = want := bEq_true hcw
                rw [hcw] at h'
                obtain ⟨a1, a2⟩ := runs s s' kn (by unfold Guards; simp only [hg]; exact ⟨oj, g, hj, hgd, by simp [hs, hcw']⟩) h'
                exact ⟨a1, a2 (St.Same.rfl' s)⟩
              | false =>
                have hcw' : c' = !want := bEq_false hcw
                rw [hcw] at h'
                obtain ⟨a1, a2⟩ := skips s s' kn (by unfold Guards; simp only [hg]; exact ⟨oj, g, hj, hgd, by simp [hs, hcw']⟩) h'
                exact ⟨a1, a2 (St.Same.rfl' s)⟩
            · cases h
          · split at h
            · rename_i hs
              obtain ⟨a1, a2⟩ := skips s s' kn (by unfold Guards; simp only [hg]; exact ⟨oj, g, hj, hgd, by simp [hs]⟩) h
              exact ⟨a1, a2 (St.Same.rfl' s)⟩
            · rename_i c hs
              split at h
              · rename_i s1 s2 h1 h2
                have getp : ∀ b : Bool, (s.put (some g) (.d .bool b)).get g = .d .bool b := fun b => by rw [St.get_put, if_pos rfl]
                obtain ⟨a1, a2⟩ := runs _ s1 _ (by unfold Guards; simp only [hg]; exact ⟨oj, g, hj, hgd, by simp [getp]⟩) h1
                obtain ⟨b1, b2⟩ := skips _ s2 _ (by unfold Guards; simp only [hg]; exact ⟨oj, g, hj, hgd, by simp [getp]⟩) h2
                have kput : ∀ (v : EV G) (s' : St G), Keeps' ops (s.put (some g) v) s' → Keeps' ops s s' := fun v s' hk => keeps_put hj (v := v) (by rw [hgd]; exact hk)
                have a1' := kput _ _ a1
                have b1' := kput _ _ b1
                have h := some_inj h
                have wk : ∀ {x y : St G}, Keeps' ops s x → Keeps' ops s y → ∀ c : Bool, Keeps' ops s { s with tm := mergeTm c x y s.tm (dsts ops) } := by
                  intro x y kx ky c
                  refine ⟨fun _ => rfl, fun t ht => ?_⟩
                  simp only [St.get, mergeTm_look, if_neg ht]
                cases want with
                | true =>
                  simp only at h
                  subst h
                  refine ⟨wk a1' b1' c, ?_⟩
                  cases c with
                  | true =>
                    obtain ⟨labs, s'', q1, q2, q3, q4⟩ := a2 (same_put hs)
                    exact ⟨labs, s'', q1, q2, q3.trans (merge_true a1'), q4⟩
                  | false =>
                    obtain ⟨labs, s'', q1, q2, q3, q4⟩ := b2 (same_put hs)
                    exact ⟨labs, s'', q1, q2, q3.trans (merge_false b1'), q4⟩
                | false =>
                  simp only at h
                  subst h
                  refine ⟨wk b1' a1' c, ?_⟩
                  cases c with
                  | true =>
                    obtain ⟨labs, s'', q1, q2, q3, q4⟩ := b2 (same_put hs)
                    exact ⟨labs, s'', q1, q2, q3.trans (merge_true b1'), q4⟩
                  | false =>
                    obtain ⟨labs, s'', q1, q2, q3, q4⟩ := a2 (same_put hs)
                    exact ⟨labs, s'', q1, q2, q3.trans (merge_false a1'), q4⟩
              · cases h
            · cases h
        · cases h
      · cases h

theorem meets_false {l m : List Nat} (h : meets l m = false) : ∀ i ∈ l, i ∉ m := by
  intro i hi hm
  have := List.any_eq_false.mp h i hi
  simp [hm] at this

theorem trOK_pairs {pre : List Nat} : ∀ {tr : Tr}, trOK ops pre tr = true → tr.Pairwise fun x y => (∃ n, pre[x.1]? = some n ∧ n.testBit y.1 = true) ∨ (apartB ops y.1 x.1 = true ∧ (∀ i ∈ x.2.2, i ∉ y.2.1 ++ y.2.2) ∧ ∀ i ∈ y.2.2, i ∉ x.2.1) := by
  intro tr
  induction tr with
  | nil => intro _; exact .nil
  | cons x tr ih =>
    intro h
    obtain ⟨i, rd, wr⟩ := x
    simp only [trOK, Bool.and_eq_true] at h
    refine .cons (fun y hy => ?_) (ih h.2)
    have := List.all_eq_true.mp h.1 y hy
    obtain ⟨j, rd', wr'⟩ := y
    simp only [Bool.or_eq_true, Bool.and_eq_true, Bool.not_eq_true', Bool.or_eq_false_iff] at this
    rcases this with this | ⟨t1, t2, t3⟩
    · left
      split at this
      · rename_i n hn; exact ⟨n, hn, this⟩
      · cases this
    · exact .inr ⟨t1, meets_false t2, meets_false t3⟩

theorem apartB_spec {i j : Nat} (h : apartB ops i j = true) : ∃ x y, ops[i]? = some x ∧ ops[j]? = some y ∧ x.apart ops y = true := by
  unfold apartB at h
  split at h
  · rename_i x y hx hy; exact ⟨x, y, hx, hy, h⟩
  · cases h

theorem range_pairs (n : Nat) : (List.range n).Pairwise (· < ·) := List.pairwise_lt_range

theorem region_wp {Q : Exit → Act → World → Prop} {F : Frm} {L : LM} {s s' : St G} {a : Act} {w : World} {id : Nat} {draw : Bool} {labs : List (Lab G)} (hm : E.P.follows .mixedOrders = true) (hi : labs.map (·.i) = List.range ops.size) (hr : Run E.P E.nt ops labs s s') (h : Rel F E.nt L s a w)
    (hQ : ∀ L' a' w', Rel F E.nt L' s' a' w' → Q .normal a' w') (hd : draw = true → backOK 0 ops.toList = true ∧ (labs.map Lab.tr).Pairwise fun y x => (∃ n, (preds ops.toList [])[x.1]? = some n ∧ n.testBit y.1 = true) ∨ (apartB ops y.1 x.1 = true ∧ (∀ i ∈ x.2.2, i ∉ y.2.1 ++ y.2.2) ∧ ∀ i ∈ y.2.2, i ∉ x.2.1)) :
    (Code.region id ops draw).wp E.P Q a w := by
  cases draw with
  | false =>
    refine wp_region ?_
    rw [← hi]
    exact hr.inOrder h hQ
  | true =>
    obtain ⟨hb, hp⟩ := hd rfl
    refine wp_region_any hm ?_
    have h' : Rel F E.nt L s a { w with drawn := w.drawn + 1 } := h.world rfl rfl rfl rfl
    have hlen : labs.length = ops.size := by have := congrArg List.length hi; simpa using this
    refine run_any hb hQ ops.size labs _ s L a _ hr h' hlen (by simp) ?_ ?_ ?_ ?_ ?_
    · intro i hi'
      have h1 : (Array.replicate ops.size false).getD i true = false := by simp [Array.getD_eq_getD_getElem?, hi']
      rw [h1]
      simp only [true_iff]
      have : i ∈ labs.map (·.i) := by rw [hi]; simpa using hi'
      obtain ⟨ℓ, q1, q2⟩ := List.mem_map.mp this
      exact ⟨ℓ, q1, q2⟩
    · intro ℓ hl
      have : ℓ.i ∈ labs.map (·.i) := List.mem_map.mpr ⟨ℓ, hl, rfl⟩
      rw [hi] at this; simpa using this
    · have := range_pairs ops.size
      rw [← hi, List.pairwise_map] at this
      exact this
    · rw [List.pairwise_map] at hp
      refine hp.imp fun {m ℓ} hx => hx.imp (fun h => h) fun ⟨t1, t2, t3⟩ => ⟨apartB_spec t1, fun i hi hx => ?_, fun i hi hx => ?_⟩
      · rcases List.mem_append.mp hx with hx | hx
        · exact t3 i hi hx
        · exact t2 i hx (List.mem_append.mpr (.inr hi))
      · exact t2 i hi hx
    · intro p n i hp' hn hb'
      exfalso
      simp [Array.getD_eq_getD_getElem?, Array.getElem?_replicate] at hp'
      split at hp' <;> simp at hp'

theorem region_sound {R : Type} (hE : ∀ f T, E.fns f = some T → FnOK E.P f T) (heq : ∀ t ∈ E.eqs, EqOK E.P t) (hm : E.P.follows .mixedOrders = true) {id : Nat} {draw : Bool} {s : St G} {k : Ex → St G → Option R} {r : R} (h : exec E (.region id ops draw) s k = some r) :
    ∃ s', k .normal s' = some r ∧ ∀ (F : Frm) (L : LM) (a : Act) (w : World) (Q : Exit → Act → World → Prop), Rel F E.nt L s a w → (∀ L' a' w', Rel F E.nt L' s' a' w' → Q .normal a' w') → (Code.region id ops draw).wp E.P Q a w := by
  simp only [exec] at h
  have hrl : ∀ i ∈ List.range ops.size, i < ops.size := fun i hi => by simpa using hi
  split at h
  · rename_i s' hs
    obtain ⟨hg, h⟩ := guardb h
    obtain ⟨_, labs, s'', q1, q2, q3, q4⟩ := opsP_sound heq _ _ _ _ hrl hs
    refine ⟨s', h, fun F L a w Q hr hQ => region_wp hm q1 q2 hr (fun L' a' w' h' => hQ L' a' w' (h'.weak q3)) fun hd => ?_⟩
    subst hd
    simp only [Bool.not_true, Bool.false_or, orderOK, Bool.and_eq_true] at hg
    refine ⟨hg.1, ?_⟩
    have hp := trOK_pairs hg.2
    rw [List.pairwise_map, List.pairwise_reverse, ← q1, List.pairwise_map] at hp
    rw [List.pairwise_map]
    refine List.Pairwise.imp_of_mem (fun {m ℓ} hm hl hx => ?_) hp
    refine hx.imp (fun h => h) fun ⟨t1, _, _⟩ => ⟨t1, ?_, ?_⟩
    · intro i hi; simp only [Lab.tr, q4 ℓ hl] at hi; cases hi
    · intro i hi; simp only [Lab.tr, q4 m hm] at hi; cases hi
  · obtain ⟨labs, s', q1, q2, h⟩ := opsE_sound hE heq _ _ _ hrl h
    obtain ⟨hg, h⟩ := guardb h
    refine ⟨s', h, fun F L a w Q hr hQ => region_wp hm q1 q2 hr hQ fun hd => ?_⟩
    subst hd
    simp only [Bool.not_true, Bool.false_or, orderOK, Bool.and_eq_true, List.append_nil] at hg
    refine ⟨hg.1, ?_⟩
    have hp := trOK_pairs hg.2
    rw [List.pairwise_reverse] at hp
    exact hp
end
end Go.Abs
end
