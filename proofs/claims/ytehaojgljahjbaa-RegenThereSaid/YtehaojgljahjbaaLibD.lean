/- An evaluator of the model over pure data, and that its answers are those of the code; part 4. No conditions. -/
import Derived.KernelRfl
import Derived.ChangeArms
import Derived.Test.YtehaojgljahjbaaLibC
section
set_option linter.all false
set_option linter.unusedVariables false
set_option linter.unusedSimpArgs false
set_option linter.unnecessarySimpa false
/-
  ABS, part 33: codes: how a pure value stands for values and entries, there and back.
-/
namespace Go.Abs
open Go
variable {G : Gam}

structure Co (T A : Type) where
  enc : A → T
  dec : T → Option A
  ok : ∀ v a, dec v = some a → enc a = v

def Co.d (G : Gam) (τ : Ty) : Co (EV G) (G.D τ) where
  enc := fun x => .d τ x
  dec := fun v => match v with | .d τ' x => castD τ' τ x | _ => none
  ok := by
    intro v a h
    split at h
    · rename_i τ' x
      unfold castD at h
      split at h
      · rename_i e; subst e; cases h; rfl
      · cases h
    · cases h

def toLfs : List (EV G) → Option (List (Lf G.S))
  | [] => some []
  | .d τ x :: l => match toLfs l with | some m => some (.mk τ x :: m) | none => none
  | _ => none
theorem toLfs_ok : ∀ (l : List (EV G)) (m : List (Lf G.S)), toLfs l = some m → m.map lfEV = l := by
  intro l
  induction l with
  | nil => intro m h; simp only [toLfs] at h; cases h; rfl
  | cons v l ih =>
    intro m h
    unfold toLfs at h
    split at h
    · rename_i heq; cases heq
    · rename_i τ x l' heq
      cases heq
      split at h
      · rename_i m' hm'
        cases h
        simp only [List.map, lfEV, ih _ hm']
      · cases h
    · cases h

def Co.st (G : Gam) (t : TypeId) : Co (EV G) (G.S t) where
  enc := fun x => .ag ((G.cells t x).map lfEV)
  dec := fun v => match v with | .ag l => (match toLfs l with | some m => G.coll t m | none => none) | _ => none
  ok := by
    intro v a h
    split at h
    · split at h
      · rename_i l m hm
        rw [G.law _ _ _ h, toLfs_ok _ _ hm]
      · cases h
    · cases h

def Co.ow (G : Gam) (i : Nat) : Co (EV G) Unit where
  enc := fun _ => .ow i
  dec := fun v => match v with | .ow j => (match Nat.beq j i with | true => some () | false => none) | _ => none
  ok := by
    intro v a h
    split at h
    · split at h
      · rename_i j hj; rw [Nat.eq_of_beq_eq_true hj]
      · cases h
    · cases h
def Co.ptr (G : Gam) (i off : Nat) : Co (EV G) Unit where
  enc := fun _ => .ptr i off
  dec := fun v => match v with | .ptr j o => (match Nat.beq j i, Nat.beq o off with | true, true => some () | _, _ => none) | _ => none
  ok := by
    intro v a h
    split at h
    · split at h
      · rename_i j o _ _ hj ho; rw [Nat.eq_of_beq_eq_true hj, Nat.eq_of_beq_eq_true ho]
      · cases h
    · cases h
def Co.nl (G : Gam) : Co (EV G) Unit where
  enc := fun _ => .nl
  dec := fun v => match v with | .nl => some () | _ => none
  ok := by
    intro v a h
    split at h
    · rfl
    · cases h
def Co.un (G : Gam) : Co (EV G) Unit where
  enc := fun _ => .un
  dec := fun v => match v with | .un => some () | _ => none
  ok := by
    intro v a h
    split at h
    · rfl
    · cases h
def Co.nilF (G : Gam) : Co (EV G) Unit where
  enc := fun _ => .c .nilFunc
  dec := fun v => match v with | .c .nilFunc => some () | _ => none
  ok := by
    intro v a h
    split at h
    · rfl
    · cases h
def Co.nilP (G : Gam) : Co (EV G) Unit where
  enc := fun _ => .c (.pointer none)
  dec := fun v => match v with | .c (.pointer none) => some () | _ => none
  ok := by
    intro v a h
    split at h
    · rfl
    · cases h
def Co.rp (G : Gam) (τ : Ty) (off : Nat) : Co (EV G) (G.D τ) where
  enc := fun x => .rp τ x off
  dec := fun v => match v with | .rp τ' x o => (match Nat.beq o off with | true => castD τ' τ x | false => none) | _ => none
  ok := by
    intro v a h
    split at h
    · rename_i τ' x o
      split at h
      · rename_i ho
        rw [← Nat.eq_of_beq_eq_true ho]
        unfold castD at h
        split at h
        · rename_i e; subst e; cases h; rfl
        · cases h
      · cases h
    · cases h
def Co.fn {A : Type} (f : FuncId) (cs : Co (List (EV G)) A) : Co (EV G) A where
  enc := fun x => .fn f (cs.enc x)
  dec := fun v => match v with | .fn g l => (match Nat.beq g f with | true => cs.dec l | false => none) | _ => none
  ok := by
    intro v a h
    split at h
    · split at h
      · rename_i hf; rw [Nat.eq_of_beq_eq_true hf, cs.ok _ _ h]
      · cases h
    · cases h
def Co.ag {A : Type} (cs : Co (List (EV G)) A) : Co (EV G) A where
  enc := fun x => .ag (cs.enc x)
  dec := fun v => match v with | .ag l => cs.dec l | _ => none
  ok := by
    intro v a h
    split at h
    · rw [cs.ok _ _ h]
    · cases h
def Co.tp {A : Type} (cs : Co (List (EV G)) A) : Co (EV G) A where
  enc := fun x => .tp (cs.enc x)
  dec := fun v => match v with | .tp l => cs.dec l | _ => none
  ok := by
    intro v a h
    split at h
    · rw [cs.ok _ _ h]
    · cases h
def Co.nil (T : Type) : Co (List T) Unit where
  enc := fun _ => []
  dec := fun v => match v with | [] => some () | _ => none
  ok := by
    intro v a h
    split at h
    · rfl
    · cases h
def Co.cons {T A B : Type} (c : Co T A) (d : Co (List T) B) : Co (List T) (A × B) where
  enc := fun x => c.enc x.1 :: d.enc x.2
  dec := fun v => match v with | x :: l => (match c.dec x with | some a => (match d.dec l with | some b => some (a, b) | none => none) | none => none) | _ => none
  ok := by
    intro v a h
    split at h
    · split at h
      · rename_i ha
        split at h
        · rename_i hb; cases h; rw [c.ok _ _ ha, d.ok _ _ hb]
        · cases h
      · cases h
    · cases h
def Co.consL {T A : Type} (c : Co T A) (d : Co (List T) Unit) : Co (List T) A where
  enc := fun x => c.enc x :: d.enc ()
  dec := fun v => match v with | x :: l => (match c.dec x with | some a => (match d.dec l with | some _ => some a | none => none) | none => none) | _ => none
  ok := by
    intro v a h
    split at h
    · split at h
      · rename_i ha
        split at h
        · rename_i hb; cases h; rw [c.ok _ _ ha, ← d.ok _ _ hb]
        · cases h
      · cases h
    · cases h
def Co.consU {T B : Type} (c : Co T Unit) (d : Co (List T) B) : Co (List T) B where
  enc := fun x => c.enc () :: d.enc x
  dec := fun v => match v with | x :: l => (match c.dec x with | some _ => (match d.dec l with | some b => some b | none => none) | none => none) | _ => none
  ok := by
    intro v a h
    split at h
    · split at h
      · rename_i ha
        split at h
        · rename_i hb; cases h; rw [← c.ok _ _ ha, d.ok _ _ hb]
        · cases h
      · cases h
    · cases h
def Co.pair {T U A B : Type} (c : Co T A) (d : Co U B) : Co (T × U) (A × B) where
  enc := fun x => (c.enc x.1, d.enc x.2)
  dec := fun v => match c.dec v.1 with | some a => (match d.dec v.2 with | some b => some (a, b) | none => none) | none => none
  ok := by
    intro v a h
    split at h
    · rename_i ha
      split at h
      · rename_i hb; cases h; rw [c.ok _ _ ha, d.ok _ _ hb]
      · cases h
    · cases h
def Co.pairL {T U A : Type} (c : Co T A) (d : Co U Unit) : Co (T × U) A where
  enc := fun x => (c.enc x, d.enc ())
  dec := fun v => match c.dec v.1 with | some a => (match d.dec v.2 with | some _ => some a | none => none) | none => none
  ok := by
    intro v a h
    split at h
    · rename_i ha
      split at h
      · rename_i hb; cases h; have q := d.ok _ _ hb; rw [c.ok _ _ ha]; exact congrArg (Prod.mk v.1) q
      · cases h
    · cases h
def Co.pairU {T U B : Type} (c : Co T Unit) (d : Co U B) : Co (T × U) B where
  enc := fun x => (c.enc (), d.enc x)
  dec := fun v => match c.dec v.1 with | some _ => (match d.dec v.2 with | some b => some b | none => none) | none => none
  ok := by
    intro v a h
    split at h
    · rename_i ha
      split at h
      · rename_i hb; cases h; have q := c.ok _ _ ha; rw [d.ok _ _ hb]; exact congrArg (fun z => (z, v.2)) q
      · cases h
    · cases h
def Co.box {A : Type} (cs : Co (List (EV G)) A) : Co (Ent G) A where
  enc := fun x => .box (cs.enc x)
  dec := fun v => match v with | .box l => cs.dec l | _ => none
  ok := by
    intro v a h
    split at h
    · rw [cs.ok _ _ h]
    · cases h
def Co.row (G : Gam) (e : Ty) (lock : Nat) : Co (Ent G) (List (G.D e)) where
  enc := fun x => .row e x lock
  dec := fun v => match v with | .row e' xs lk => (match Nat.beq lk lock with | true => castD (S := G.S) (.sl e') (.sl e) xs | false => none) | _ => none
  ok := by
    intro v a h
    split at h
    · rename_i e' x o
      split at h
      · rename_i ho
        rw [← Nat.eq_of_beq_eq_true ho]
        unfold castD at h
        split at h
        · rename_i e; cases e; cases h; rfl
        · cases h
      · cases h
    · cases h
def Co.rowN (G : Gam) (e : Ty) : Co (Ent G) (List (G.D e) × Nat) where
  enc := fun x => .row e x.1 x.2
  dec := fun v => match v with | .row e' xs lk => (match castD (S := G.S) (.sl e') (.sl e) xs with | some y => some (y, lk) | none => none) | _ => none
  ok := by
    intro v a h
    cases v with
    | row e' x lk =>
      simp only at h
      split at h
      · rename_i y hy
        unfold castD at hy
        split at hy
        · rename_i q; cases q; cases hy; cases h; rfl
        · cases hy
      · cases h
    | _ => cases h
def Co.vw (G : Gam) (i : Nat) : Co (EV G) (Nat × Nat) where
  enc := fun x => .vw i x.1 x.2
  dec := fun v => match v with | .vw j lo n => (match Nat.beq j i with | true => some (lo, n) | false => none) | _ => none
  ok := by
    intro v a h
    split at h
    · split at h
      · rename_i j lo n hj; cases h; rw [Nat.eq_of_beq_eq_true hj]
      · cases h
    · cases h
def Co.ept (G : Gam) (i off : Nat) : Co (EV G) Nat where
  enc := fun x => .ept i x off
  dec := fun v => match v with | .ept j x o => (match Nat.beq j i, Nat.beq o off with | true, true => some x | _, _ => none) | _ => none
  ok := by
    intro v a h
    split at h
    · split at h
      · rename_i j x o _ _ hj ho; cases h; rw [Nat.eq_of_beq_eq_true hj, Nat.eq_of_beq_eq_true ho]
      · cases h
    · cases h
def Co.fz (G : Gam) (e : Ty) : Co (Ent G) (List (G.D e)) where
  enc := fun x => .fz e x
  dec := fun v => match v with | .fz e' xs => castD (S := G.S) (.sl e') (.sl e) xs | _ => none
  ok := by
    intro v a h
    cases v with
    | fz e' x =>
      simp only at h
      unfold castD at h
      split at h
      · rename_i q; cases q; cases h; rfl
      · cases h
    | _ => cases h
def Co.tomb (G : Gam) : Co (Ent G) Unit where
  enc := fun _ => .tomb
  dec := fun v => match v with | .tomb => some () | _ => none
  ok := by
    intro v a h
    split at h
    · rfl
    · cases h

def Co.spn (G : Gam) (i : Nat) : Co (EV G) Nat where
  enc := fun x => .spn i x
  dec := fun v => match v with | .spn j n => (match Nat.beq j i with | true => some n | false => none) | _ => none
  ok := by
    intro v a h
    split at h
    · split at h
      · rename_i j n hj; cases h; rw [Nat.eq_of_beq_eq_true hj]
      · cases h
    · cases h
def Co.tree (G : Gam) (o : Bool) (e : Ty) : Co (Ent G) (List (List (List (G.D e)))) where
  enc := fun x => .tree o e x none []
  dec := fun v => match v with | .tree o' e' xs none [] => (match o', o with | true, true => castT e' e xs | false, false => castT e' e xs | _, _ => none) | _ => none
  ok := by
    intro v a h
    split at h
    · rename_i o' e' xs
      have key : ∀ {a}, castT e' e xs = some a → Ent.tree (G := G) o' e a none [] = .tree o' e' xs none [] := by
        intro a h
        unfold castT castD at h
        split at h
        · rename_i q; cases q; cases h; rfl
        · cases h
      split at h
      · exact key h
      · exact key h
      · cases h
    · cases h
theorem iEq_eq {x y : Int} (h : iEq x y = true) : x = y := by simpa [iEq] using h
theorem bEq_eq {x y : Bool} (h : bEq x y = true) : x = y := by simpa [bEq] using h
def sNone (x y : ByteArray) : Bool := Nat.beq x.size 0 && Nat.beq y.size 0
theorem sNone_eq {x y : ByteArray} (h : sNone x y = true) : x = y := by
  simp only [sNone, Bool.and_eq_true] at h
  have h1 : x.data.size = 0 := Nat.eq_of_beq_eq_true h.1
  have h2 : y.data.size = 0 := Nat.eq_of_beq_eq_true h.2
  cases x; cases y
  simp only at h1 h2
  rw [Array.eq_empty_of_size_eq_zero h1, Array.eq_empty_of_size_eq_zero h2]
/-- Two lists of constants are the same. -/
def evZ : List (EV G) → List (EV G) → Bool
  | [], [] => true
  | .nl :: l, .nl :: m => evZ l m
  | .d (.int k) x :: l, .d (.int k') y :: m => decide (k = k') && (iEq x y && evZ l m)
  | .d .bool x :: l, .d .bool y :: m => bEq x y && evZ l m
  | .d .str x :: l, .d .str y :: m => sNone x y && evZ l m
  | _, _ => false
theorem evZ_ok : ∀ (l m : List (EV G)), evZ l m = true → l = m := by
  intro l
  induction l with
  | nil => intro m h; cases m with | nil => rfl | cons _ _ => cases h
  | cons v l ih =>
    intro m h
    unfold evZ at h
    split at h
    · rename_i heq; cases heq
    · rename_i l' m' heq; cases heq; rw [ih _ h]
    · rename_i k x l' k' y m' heq
      cases heq
      simp only [Bool.and_eq_true, decide_eq_true_eq] at h
      obtain ⟨h1, h2, h3⟩ := h
      subst h1; rw [ih _ h3]; exact congrArg (fun z => EV.d (.int k) z :: m') (iEq_eq h2)
    · rename_i x l' y m' heq
      cases heq
      simp only [Bool.and_eq_true, decide_eq_true_eq] at h
      rw [ih _ h.2]; exact congrArg (fun z => EV.d .bool z :: m') (bEq_eq h.1)
    · rename_i x l' y m' heq
      cases heq
      simp only [Bool.and_eq_true, decide_eq_true_eq] at h
      rw [ih _ h.2]; exact congrArg (fun z => EV.d .str z :: m') (sNone_eq h.1)
    · cases h
def Co.zl (G : Gam) (z : List (EV G)) : Co (List (EV G)) Unit where
  enc := fun _ => z
  dec := fun v => match evZ v z with | true => some () | false => none
  ok := by
    intro v a h
    split at h
    · rename_i he; exact (evZ_ok _ _ he).symm
    · cases h
def Co.fill {A : Type} (e : Ty) (cs : Co (List (EV G)) A) (z : List (EV G)) : Co (Ent G) (List (G.D e) × (Nat × A)) where
  enc := fun x => .fill e x.1 (cs.enc x.2.2) z x.2.1 false
  dec := fun v => match v with
    | .fill e' xs c z' n false => (match castD (S := G.S) (.sl e') (.sl e) xs with
      | some y => (match evZ z' z with | true => (match cs.dec c with | some a => some (y, n, a) | none => none) | false => none)
      | none => none)
    | _ => none
  ok := by
    intro v a h
    split at h
    · rename_i e' xs c z' n
      split at h
      · rename_i y hy
        split at h
        · rename_i hz
          split at h
          · rename_i q hq
            obtain rfl := evZ_ok _ _ hz
            unfold castD at hy
            split at hy
            · rename_i p; cases p; cases hy; cases h; rw [← cs.ok _ _ hq]
            · cases hy
          · cases h
        · cases h
      · cases h
    · cases h
def Co.fillU (e : Ty) (cs : Co (List (EV G)) Unit) (z : List (EV G)) : Co (Ent G) (List (G.D e) × Nat) where
  enc := fun x => .fill e x.1 (cs.enc ()) z x.2 false
  dec := fun v => match v with
    | .fill e' xs c z' n false => (match castD (S := G.S) (.sl e') (.sl e) xs with
      | some y => (match evZ z' z with | true => (match cs.dec c with | some _ => some (y, n) | none => none) | false => none)
      | none => none)
    | _ => none
  ok := by
    intro v a h
    split at h
    · rename_i e' xs c z' n
      split at h
      · rename_i y hy
        split at h
        · rename_i hz
          split at h
          · rename_i q hq
            obtain rfl := evZ_ok _ _ hz
            unfold castD at hy
            split at hy
            · rename_i p; cases p; cases hy; cases h; rw [← cs.ok _ _ hq]
            · cases hy
          · cases h
        · cases h
      · cases h
    · cases h

/-- The ways out of a loop. -/
structure Xc (G : Gam) (Y : Type) where
  kx : Ex → Option Keep
  dec : Ex → List (EV G) → List (Ent G) → Option Y
  out : (R : Type) → Y → (Ex → St G → Option R) → Option R
  ok : ∀ e vs es y kp', dec e vs es = some y → kx e = some kp' → ∀ R (k : Ex → St G → Option R), out R y k = k e (kp'.st vs es)
def Ex.is : Ex → Ex → Bool
  | .exit i, .exit j => Nat.beq i j
  | .ret, .ret => true
  | _, _ => false
theorem Ex.is_eq {a b : Ex} (h : a.is b = true) : a = b := by
  cases a <;> cases b <;> simp only [Ex.is] at h <;> first | rfl | (cases h; done) | (rw [Nat.eq_of_beq_eq_true h])
def Xc.one {A : Type} (x : Ex) (kp : Keep) (c : Co (List (EV G) × List (Ent G)) A) : Xc G A where
  kx := fun e => match e.is x with | true => some kp | false => none
  dec := fun e vs es => match e.is x with | true => c.dec (vs, es) | false => none
  out := fun _ y k => k x (kp.st (c.enc y).1 (c.enc y).2)
  ok := by
    intro e vs es y kp' h hk R k
    split at h
    · rename_i he
      rw [he] at hk
      cases hk
      rw [c.ok _ _ h, Ex.is_eq he]
    · cases h
def Xc.or {A B : Type} (a : Xc G A) (b : Xc G B) : Xc G (A ⊕ B) where
  kx := fun e => match a.kx e with | some kp => some kp | none => b.kx e
  dec := fun e vs es => match a.kx e with
    | some _ => (match a.dec e vs es with | some y => some (.inl y) | none => none)
    | none => (match b.dec e vs es with | some y => some (.inr y) | none => none)
  out := fun R y k => match y with | .inl y => a.out R y k | .inr y => b.out R y k
  ok := by
    intro e vs es y kp' h hk R k
    split at h
    · rename_i kp ha
      rw [ha] at hk
      cases hk
      split at h
      · rename_i y' hy'; cases h; exact a.ok _ _ _ _ _ hy' ha R k
      · cases h
    · rename_i ha
      rw [ha] at hk
      split at h
      · rename_i y' hy'; cases h; exact b.ok _ _ _ _ _ hy' hk R k
      · cases h

/-- A function's entry, by codes. -/
def fnT {X Y : Type} (io : List Nat) (c : Co (List (EV G) × List (Ent G)) X) (r : Co (EV G × List (Ent G) × List (Ent G)) Y) (F : X → Option Y) : FnT G :=
  { inout := io, sem := fun _ args lent k => match c.dec (args, lent) with | some x => (F x).bind fun y => k (r.enc y).1 (r.enc y).2.1 (r.enc y).2.2 | none => none }
def loopT {X Y : Type} (kp : Keep) (c : Co (List (EV G) × List (Ent G)) X) (xc : Xc G Y) (L : X → Option Y) : LoopT G :=
  { keep := kp, sem := fun R vs es k => match c.dec (vs, es) with | some x => (L x).bind fun y => xc.out R y k | none => none }
/-- A loop by its steps. -/
def iter {X Y : Type} (S : (X → Option Y) → X → Option Y) : Nat → X → Option Y
  | 0, _ => none
  | n + 1, x => S (iter S n) x

/-- One struct type of a seat. -/
structure SE (S : TypeId → Type) (A : Type) where
  lv : List Ty
  cells : A → List (Lf S)
  coll : List (Lf S) → Option A
  law : ∀ l x, coll l = some x → cells x = l
  tys : ∀ x, (cells x).map (fun | .mk τ _ => τ) = lv
  flat : ∀ τ, τ ∈ lv → τ.leaf = true
def SE.none {S : TypeId → Type} (A : Type) : SE S A where
  lv := []
  cells := fun _ => []
  coll := fun _ => .none
  law := by intro l x h; cases h
  tys := by intros; rfl
  flat := by intro τ h; cases h
def Gam.of (S : TypeId → Type) (e : (t : TypeId) → SE S (S t)) : Gam where
  S := S
  lv := fun t => (e t).lv
  cells := fun t => (e t).cells
  coll := fun t => (e t).coll
  law := fun t => (e t).law
  tys := fun t => (e t).tys
  flat := fun t => (e t).flat

def lookU.{u} {α : Type u} : List (Nat × α) → Nat → Option α
  | [], _ => none
  | (i, v) :: r, j => bif Nat.beq i j then some v else lookU r j
end Go.Abs
end
section
set_option linter.all false
set_option linter.unusedVariables false
set_option linter.unusedSimpArgs false
set_option linter.unnecessarySimpa false
/-
  ABS, part 34: functions and loops by their codes.
-/
namespace Go.Abs
open Go
variable {G : Gam}

/-- What the code of a function answers, by codes. -/
noncomputable def fnE {X Y : Type} (E : Env G) (fn : Func) (md : List (List Md)) (kr : Option Keep) (c : Co (List (EV G) × List (Ent G)) X) (r : Co (EV G × List (Ent G) × List (Ent G)) Y) (x : X) : Option Y :=
  runE E fn md kr (c.enc x).1 (c.enc x).2 fun v l n => r.dec (v, l, n)
/-- What a round of a loop answers, by codes. -/
noncomputable def loopE {X Y : Type} (E : Env G) (b : Code) (kp : Keep) (c : Co (List (EV G) × List (Ent G)) X) (xc : Xc G Y) (L : X → Option Y) (x : X) : Option Y :=
  exec E b (kp.st (c.enc x).1 (c.enc x).2) (roundE E.m kp xc.kx (fun vs es => c.dec (vs, es)) xc.dec L)

def LoopsOK (E : Env G) (c : Code) : Prop := ∀ c' ∈ loopsIn c, ∀ key T, firstRegion c' = some key → E.loops key = some T → LoopOK E c' T

theorem fnT_ok {X Y : Type} {io : List Nat} {c : Co (List (EV G) × List (Ent G)) X} {r : Co (EV G × List (Ent G) × List (Ent G)) Y} {F : X → Option Y}
    {E : Env G} (hE : EnvOK E) {f : FuncId} {fn : Func} {md : List (List Md)} {kr : Option Keep} (hf : E.P.funcs[f]? = some fn) (hname : (fn.name == "runtime.NumGoroutine") = false) (hnt : fn.ntmps = E.nt) {b : Code} (hb : fn.body = some b)
    (hm : ∀ x, (Nat.beq (c.enc x).2.length E.m && Nat.ble (c.enc x).1.length E.nt) = true) (hl : LoopsOK E b) (hF : ∀ x, F x = fnE E fn md kr c r x) : FnOK E.P f (fnT io c r F) := by
  let V : FnV E f fn md kr X Y :=
    { encX := c.enc, decX := fun vs es => c.dec (vs, es), hX := fun vs es x h => c.ok _ _ h
      hm := fun vs es x h => by
        have q := hm x
        rw [c.ok _ _ h] at q
        simp only [Bool.and_eq_true] at q
        exact ⟨Nat.eq_of_beq_eq_true q.1, Nat.le_of_ble_eq_true q.2⟩
      decY := fun v l n => r.dec (v, l, n), out := r.enc, hY := fun v l n y h => r.ok _ _ h
      F := F, hF := hF }
  exact V.ok hE hf hname hb hnt hl io

theorem loopT_ok {X Y : Type} {kp : Keep} {c : Co (List (EV G) × List (Ent G)) X} {xc : Xc G Y} {S : (X → Option Y) → X → Option Y}
    {E : Env G} (hE : EnvOK E) {b : Code} (hl : LoopsOK E b) (hs : ∀ L x, S L x = loopE E b kp c xc L x) (n : Nat) : LoopOK E b (loopT kp c xc (iter S n)) := by
  let V : LoopV E b X Y :=
    { kp := kp, kx := xc.kx, encX := c.enc, decX := fun vs es => c.dec (vs, es), hX := fun vs es x h => c.ok _ _ h
      decY := xc.dec, out := xc.out, hY := xc.ok
      L := iter S, h0 := fun x => rfl, hs := fun n x => hs (iter S n) x }
  exact V.ok hE hl n

/-- A contract, out of the pure answer. -/
theorem fnT_contract {X Y : Type} {io : List Nat} {c : Co (List (EV G) × List (Ent G)) X} {r : Co (EV G × List (Ent G) × List (Ent G)) Y} {F : X → Option Y} {P : Program} {f : FuncId}
    (h : FnOK P f (fnT io c r F)) {x : X} {y : Y} (hy : F x = some y) (hd : c.dec (c.enc x) = some x) : Contract P f (c.enc x).1 (c.enc x).2 (r.enc y).1 (r.enc y).2.1 (r.enc y).2.2 := by
  obtain ⟨res, l, n, h1, h2⟩ := h.sem (EV G × List (Ent G) × List (Ent G)) (c.enc x).1 (c.enc x).2 (fun v l n => some (v, l, n)) (r.enc y) (by
    simp only [fnT]
    rw [hd]
    simp only
    rw [hy]
    rfl)
  have h2 := Option.some.inj h2
  rw [← h2]
  exact h1
end Go.Abs
end
section
set_option linter.all false
set_option linter.unusedVariables false
set_option linter.unusedSimpArgs false
set_option linter.unnecessarySimpa false
/-
  ABS, part 35: the tables of an environment, one by one.
-/
namespace Go.Abs
open Go
variable {G : Gam}

def AllF (P : Program) : List (Nat × FnT G) → Prop
  | [] => True
  | p :: r => FnOK P p.1 p.2 ∧ AllF P r
theorem lookU_in.{u} {α : Type u} {l : List (Nat × α)} {i : Nat} {v : α} (h : lookU l i = some v) : (i, v) ∈ l := by
  induction l with
  | nil => simp only [lookU] at h; cases h
  | cons p l ih =>
    obtain ⟨j, u⟩ := p
    simp only [lookU] at h
    cases q : Nat.beq j i with
    | true =>
      rw [q] at h
      cases h
      rw [Nat.eq_of_beq_eq_true q]
      exact List.mem_cons_self
    | false =>
      rw [q] at h
      exact List.mem_cons_of_mem _ (ih h)
theorem AllF.mem {P : Program} : ∀ {l : List (Nat × FnT G)}, AllF P l → ∀ p ∈ l, FnOK P p.1 p.2
  | p :: r, h, q, hq => by
    rcases List.mem_cons.mp hq with rfl | hq
    · exact h.1
    · exact AllF.mem h.2 q hq
theorem EnvOK.of {E : Env G} (l : List (Nat × FnT G)) (hl : E.fns = lookU l) (h : AllF E.P l) (he : ∀ t ∈ E.eqs, EqOK E.P t) (hm : E.P.follows .mixedOrders = true) : EnvOK E :=
  ⟨fun f T hf => by
    rw [hl] at hf
    exact h.mem _ (lookU_in hf), he, hm⟩
def AllL (E : Env G) : List (Code × Nat × LoopT G) → Prop
  | [] => True
  | p :: r => firstRegion p.1 = some p.2.1 ∧ E.loops p.2.1 = some p.2.2 ∧ LoopOK E p.1 p.2.2 ∧ AllL E r
theorem AllL.mem {E : Env G} : ∀ {l : List (Code × Nat × LoopT G)}, AllL E l → ∀ p ∈ l, firstRegion p.1 = some p.2.1 ∧ E.loops p.2.1 = some p.2.2 ∧ LoopOK E p.1 p.2.2
  | p :: r, h, q, hq => by
    rcases List.mem_cons.mp hq with rfl | hq
    · exact ⟨h.1, h.2.1, h.2.2.1⟩
    · exact AllL.mem h.2.2.2 q hq
theorem LoopsOK.of {E : Env G} {c : Code} (l : List (Code × Nat × LoopT G)) (hl : loopsIn c = l.map (·.1)) (h : AllL E l) : LoopsOK E c := by
  intro c' hc key T hk hT
  rw [hl] at hc
  obtain ⟨p, hp, rfl⟩ := List.mem_map.mp hc
  obtain ⟨h1, h2, h3⟩ := h.mem p hp
  rw [h1] at hk
  cases hk
  rw [h2] at hT
  cases hT
  exact h3
end Go.Abs
end
section
set_option linter.all false
set_option linter.unusedVariables false
set_option linter.unusedSimpArgs false
set_option linter.unnecessarySimpa false
/-
  ABS, part 36: arguments of laws, out of their readings.
-/
namespace Go.Abs
open Go Go.RowKit
variable {G : Gam}

theorem rep_row {k : IntKind} {zs : List Int} {x : Addr} {len cap : Nat} {w : World} (hl : len ≤ cap) (hz : zs.length = cap) (hcell : ∀ i, i < zs.length → w.cell? (x.add i) = some (.int k (zs.getD i 0))) :
    RepD G (fun _ _ => True) w (.sl (.int k)) (zs.take len : List Int) [.slice (some x) len cap] := by
  have hn : len = (zs.take len).length := by rw [List.length_take]; omega
  refine rep_ints hn hl (.inr ⟨_, rfl⟩) ?_
  rcases Nat.eq_zero_or_pos len with h0 | h0
  · exact .inl h0
  · right
    have hsp : x.spot = none := by
      have h1 := hcell 0 (by omega)
      simp only [Addr.add, if_true] at h1
      unfold World.cell? at h1
      split at h1
      · split at h1
        · cases h1
        · rename_i h2; simpa using h2
      · cases h1
    refine ⟨x.block, x.off, ?_, fun j h => ?_⟩
    · cases x; simp only at hsp; subst hsp; rfl
    · have hj : j < zs.length := by rw [List.length_take] at h; omega
      have h1 := hcell j hj
      have e1 : x.add j = ⟨x.block, x.off + j, none⟩ := by
        unfold Addr.add
        split
        · rename_i h2; subst h2; cases x; simp only at hsp; subst hsp; rfl
        · rfl
      rw [e1] at h1
      rw [h1]
      congr 2
      rw [List.getElem_take]
      simp [List.getD_eq_getElem?_getD, hj]
end Go.Abs
end
section
set_option linter.all false
set_option linter.unusedVariables false
set_option linter.unusedSimpArgs false
set_option linter.unnecessarySimpa false
/-
  ABS, part 37: entries for several kinds of arguments; nil slices as data.
-/
namespace Go.Abs
open Go
variable {G : Gam}

def nilV (t : Option Ty) : EV G → EV G
  | .nl => match t with | some e => .d (.sl e) ([] : List (G.D e)) | none => .nl
  | v => v
def nilL : List (Option Ty) → List (EV G) → List (EV G)
  | t :: ts, v :: vs => nilV t v :: nilL ts vs
  | _, vs => vs
def nilA (ts : List (Option Ty)) : EV G → EV G
  | .ag l => .ag (nilL ts l)
  | v => match ts with | t :: _ => nilV t v | [] => v
def nilArgs : List (List (Option Ty)) → List (EV G) → List (EV G)
  | t :: ts, v :: vs => nilA t v :: nilArgs ts vs
  | _, vs => vs
def fnN (ts : List (List (Option Ty))) (T : FnT G) : FnT G := { inout := T.inout, sem := fun R args lent k => T.sem R (nilArgs ts args) lent k }
def orT (p : List (EV G) → List (Ent G) → Bool) (a b : FnT G) : FnT G := { inout := a.inout, sem := fun R args lent k => bif p args lent then a.sem R args lent k else b.sem R args lent k }

section
variable {ok : Cells} {w : World} {L : LM}
theorem nilV_rep {t : Option Ty} {v : EV G} {u : Value} (h : RepV ok w L v u) : RepV ok w L (nilV t v) u := by
  cases v with
  | nl =>
    cases t with
    | none => exact h
    | some e =>
      simp only [RepV] at h
      subst h
      simp only [nilV, RepV]
      refine ⟨rfl, ?_⟩
      have := RepD.sl (G := G) (ok := ok) (w := w) e ([] : List (G.D e)) none 0 (fun _ => []) (Nat.le_refl _) (.inl rfl) (fun i hi => absurd hi (Nat.not_lt_zero _)) (fun i hi => absurd hi (Nat.not_lt_zero _))
      exact this
  | _ => exact h
theorem nilV_ids {t : Option Ty} {v : EV G} : (nilV t v).ids = v.ids := by
  cases v with
  | nl => cases t <;> rfl
  | _ => rfl
theorem nilL_rep : ∀ {ts : List (Option Ty)} {vs : List (EV G)} {us : List Value}, RepVs ok w L vs us → RepVs ok w L (nilL ts vs) us := by
  intro ts
  induction ts with
  | nil => intro vs us h; cases vs <;> exact h
  | cons t ts ih =>
    intro vs us h
    cases vs with
    | nil => exact h
    | cons v vs =>
      cases us with
      | nil => simp only [RepVs] at h
      | cons u us =>
        simp only [RepVs] at h
        simp only [nilL, RepVs]
        exact ⟨nilV_rep h.1, ih h.2⟩
theorem nilL_ids : ∀ {ts : List (Option Ty)} {vs : List (EV G)}, EV.idss (nilL ts vs) = EV.idss vs := by
  intro ts
  induction ts with
  | nil => intro vs; cases vs <;> rfl
  | cons t ts ih =>
    intro vs
    cases vs with
    | nil => rfl
    | cons v vs => simp only [nilL, EV.idss, nilV_ids, ih]
theorem nilA_rep {ts : List (Option Ty)} {v : EV G} {u : Value} (h : RepV ok w L v u) : RepV ok w L (nilA ts v) u := by
  cases v with
  | ag l =>
    simp only [RepV] at h
    obtain ⟨cvs, h1, h2⟩ := h
    simp only [nilA, RepV]
    exact ⟨cvs, h1, nilL_rep h2⟩
  | _ => cases ts <;> first | exact h | exact nilV_rep h
theorem nilA_ids {ts : List (Option Ty)} {v : EV G} : (nilA ts v).ids = v.ids := by
  cases v with
  | ag l => simp only [nilA, EV.ids, nilL_ids]
  | nl => cases ts with
    | nil => rfl
    | cons t ts => cases t <;> rfl
  | _ => cases ts <;> rfl
theorem nilArgs_rep : ∀ {ts : List (List (Option Ty))} {vs : List (EV G)} {us : List Value}, RepVs ok w L vs us → RepVs ok w L (nilArgs ts vs) us := by
  intro ts
  induction ts with
  | nil => intro vs us h; cases vs <;> exact h
  | cons t ts ih =>
    intro vs us h
    cases vs with
    | nil => exact h
    | cons v vs =>
      cases us with
      | nil => simp only [RepVs] at h
      | cons u us =>
        simp only [RepVs] at h
        simp only [nilArgs, RepVs]
        exact ⟨nilA_rep h.1, ih h.2⟩
theorem nilArgs_ids : ∀ {ts : List (List (Option Ty))} {vs : List (EV G)}, EV.idss (nilArgs ts vs) = EV.idss vs := by
  intro ts
  induction ts with
  | nil => intro vs; cases vs <;> rfl
  | cons t ts ih =>
    intro vs
    cases vs with
    | nil => rfl
    | cons v vs => simp only [nilArgs, EV.idss, nilA_ids, ih]
end

theorem fnN_ok {P : Program} {f : FuncId} {T : FnT G} {ts : List (List (Option Ty))} (h : FnOK P f T) : FnOK P f (fnN ts T) := by
  refine ⟨h.enters, fun R args lent k r hr => ?_⟩
  obtain ⟨res, l, n, hc, hk⟩ := h.sem R (nilArgs ts args) lent k r hr
  refine ⟨res, l, n, ?_, hk⟩
  intro F L w vs e1 e2 e3 hrel hvs hids
  exact hc F L w vs e1 e2 e3 hrel (nilArgs_rep hvs) (by rw [nilArgs_ids]; exact hids)
theorem orT_ok {P : Program} {f : FuncId} {p : List (EV G) → List (Ent G) → Bool} {a b : FnT G} (ha : FnOK P f a) (hb : FnOK P f b) : FnOK P f (orT p a b) := by
  refine ⟨ha.enters, fun R args lent k r hr => ?_⟩
  simp only [orT] at hr
  cases q : p args lent with
  | true => rw [q] at hr; exact ha.sem R args lent k r hr
  | false => rw [q] at hr; exact hb.sem R args lent k r hr

/-! ### a slice argument, nil or not -/
def nilAt : Nat → EV G → List (EV G) → List (EV G)
  | _, _, [] => []
  | 0, x, _ :: l => x :: l
  | j + 1, x, v :: l => v :: nilAt j x l
theorem sl_split {ok : Cells} {w : World} {L : LM} {e : Ty} {xs : List (G.D e)} {u : Value} (h : RepV ok w L (.d (.sl e) xs : EV G) u) :
    (xs = [] ∧ RepV ok w L (.nl : EV G) u) ∨ RepV ok w L (.d (.sn e) xs : EV G) u := by
  simp only [RepV] at h
  have hi := h.2
  obtain ⟨A, c, css, hcs, hc, hA, hel, hm⟩ := h.2.inv
  simp only [List.cons.injEq, and_true] at hcs
  subst hcs
  cases A with
  | some a =>
    right
    simp only [RepV]
    exact ⟨rfl, .sn e xs a c hi⟩
  | none =>
    left
    have hc0 : c = 0 := by
      rcases hA with h | ⟨a, h⟩
      · exact h
      · cases h
    have hx : xs.length = 0 := by omega
    refine ⟨List.length_eq_zero_iff.mp hx, ?_⟩
    simp only [RepV]
    rw [hx, hc0]
theorem nilAt_rep {ok : Cells} {w : World} {L : LM} : ∀ {j : Nat} {vs : List (EV G)} {us : List Value} {v x : EV G}, RepVs ok w L vs us → vs[j]? = some v → (∀ u, RepV ok w L v u → us[j]? = some u → RepV ok w L x u) → RepVs ok w L (nilAt j x vs) us := by
  intro j
  induction j with
  | zero =>
    intro vs us v x h hj hx
    cases vs with
    | nil => simp at hj
    | cons y vs =>
      cases us with
      | nil => simp only [RepVs] at h
      | cons u us =>
        simp at hj; subst hj
        simp only [RepVs] at h
        simp only [nilAt, RepVs]
        exact ⟨hx u h.1 rfl, h.2⟩
  | succ j ih =>
    intro vs us v x h hj hx
    cases vs with
    | nil => simp at hj
    | cons y vs =>
      cases us with
      | nil => simp only [RepVs] at h
      | cons u us =>
        simp only [RepVs] at h
        simp only [nilAt, RepVs]
        exact ⟨h.1, ih h.2 (by simpa using hj) (fun u' hu' hj' => hx u' hu' (by simpa using hj'))⟩
theorem nilAt_ids {e : Ty} {xs : List (G.D e)} {x : EV G} (hx : x.ids = []) : ∀ {j : Nat} {vs : List (EV G)}, vs[j]? = some (.d (.sl e) xs) → EV.idss (nilAt j x vs) = EV.idss vs := by
  intro j
  induction j with
  | zero =>
    intro vs hj
    cases vs with
    | nil => simp at hj
    | cons y vs => simp at hj; subst hj; simp only [nilAt, EV.idss, hx, EV.ids]
  | succ j ih =>
    intro vs hj
    cases vs with
    | nil => simp at hj
    | cons y vs => simp only [nilAt, EV.idss, ih (by simpa using hj)]
theorem split_contract {P : Program} {f : FuncId} {args : List (EV G)} {lent : List (Ent G)} {res : EV G} {l n : List (Ent G)} {j : Nat} {e : Ty} {xs : List (G.D e)} (hj : args[j]? = some (.d (.sl e) xs))
    (h1 : xs = [] → Contract P f (nilAt j .nl args) lent res l n) (h2 : Contract P f (nilAt j (.d (.sn e) xs) args) lent res l n) : Contract P f args lent res l n := by
  intro F L w vs e1 e2 e3 hrel hvs hids
  have hlt : j < args.length := by
    rcases Nat.lt_or_ge j args.length with h | h
    · exact h
    · rw [List.getElem?_eq_none h] at hj; cases hj
  obtain ⟨u, hu, hr⟩ := hvs.get hj
  rcases sl_split hr with ⟨hx, hn⟩ | hn
  · exact h1 hx F L w vs e1 e2 e3 hrel (nilAt_rep hvs hj fun u' _ hu' => by rw [hu] at hu'; cases hu'; exact hn) (by rw [nilAt_ids rfl hj]; exact hids)
  · exact h2 F L w vs e1 e2 e3 hrel (nilAt_rep hvs hj fun u' _ hu' => by rw [hu] at hu'; cases hu'; exact hn) (by rw [nilAt_ids rfl hj]; exact hids)

theorem split_ok {X XA XB Y : Type} {io : List Nat} {c : Co (List (EV G) × List (Ent G)) X} {r : Co (EV G × List (Ent G) × List (Ent G)) Y} {F : X → Option Y} {P : Program} {f : FuncId} {ca : Co (List (EV G) × List (Ent G)) XA} {Fa : XA → Option Y} {cb : Co (List (EV G) × List (Ent G)) XB} {Fb : XB → Option Y}
    (ha : FnOK P f (fnT io ca r Fa)) (hb : FnOK P f (fnT io cb r Fb)) (j : Nat) (e : Ty) (p : X → List (G.D e)) (gA : X → XA) (gB : X → XB)
    (h1 : ∀ x, (c.enc x).1[j]? = some (.d (.sl e) (p x)))
    (h2 : ∀ x, (nilAt j .nl (c.enc x).1, (c.enc x).2) = ca.enc (gA x)) (d2 : ∀ x, ca.dec (ca.enc (gA x)) = some (gA x))
    (h3 : ∀ x, (nilAt j (.d (.sn e) (p x)) (c.enc x).1, (c.enc x).2) = cb.enc (gB x)) (d3 : ∀ x, cb.dec (cb.enc (gB x)) = some (gB x))
    (hF : ∀ x, F x = Fb (gB x)) (hq : ∀ x y, p x = [] → Fb (gB x) = some y → Fa (gA x) = some y) : FnOK P f (fnT io c r F) := by
  refine ⟨ha.enters, fun R args lent k r0 hr => ?_⟩
  simp only [fnT] at hr
  split at hr
  · rename_i x hx
    obtain ⟨y, hy, hk⟩ := bindS hr
    refine ⟨(r.enc y).1, (r.enc y).2.1, (r.enc y).2.2, ?_, hk⟩
    have hc := c.ok _ _ hx
    have e1 : args = (c.enc x).1 := by rw [hc]
    have e2 : lent = (c.enc x).2 := by rw [hc]
    rw [e1, e2]
    rw [hF] at hy
    refine split_contract (h1 x) (fun hp => ?_) ?_
    · have q := fnT_contract ha (hq x y hp hy) (d2 x)
      rw [← h2] at q
      exact q
    · have q := fnT_contract hb hy (d3 x)
      rw [← h3] at q
      exact q
  · cases hr

theorem clone_nil {α : Type} {b : Nat} {y : List α} (h : (bif appOK (List.length ([] : List α)) (List.length ([] : List α)) b then some (([] : List α) ++ []) else none) = some y) : some ([] : List α) = some y := by
  have q : appOK (List.length ([] : List α)) (List.length ([] : List α)) b = true := appOK_iff.mpr (by simp)
  rw [q] at h
  exact h
end Go.Abs
end
section
set_option linter.all false
set_option linter.unusedVariables false
set_option linter.unusedSimpArgs false
set_option linter.unnecessarySimpa false
/-
  ABS, part 38: readings of arguments, told as data.
-/
namespace Go.Abs
open Go
variable {G : Gam}

mutual
/-- Data that a machine holds. -/
inductive WfD (G : Gam) : (τ : Ty) → G.D τ → Prop
  | int (k : IntKind) (n : Int) (h : (Lit.int k n).wf = true) : WfD G (.int k) n
  | bool (b : Bool) : WfD G .bool b
  | str (s : ByteArray) (h : s.size ≤ maxLen) : WfD G .str s
  | sl (e : Ty) (xs : List (G.D e)) (hl : xs.length ≤ maxLen) (h : ∀ i (hi : i < xs.length), WfD G e xs[i]) : WfD G (.sl e) xs
  | st (t : TypeId) (x : G.S t) (h : WfL G (G.cells t x)) : WfD G (.st t) x
inductive WfL (G : Gam) : List (Lf G.S) → Prop
  | nil : WfL G []
  | cons (τ : Ty) (x : G.D τ) (l : List (Lf G.S)) (h : WfD G τ x) (t : WfL G l) : WfL G (.mk τ x :: l)
end

def lfT : Lf G.S → Ty
  | .mk τ _ => τ
def shapeFs (P : Program) (sh : TypeId → Option (List Ty)) : List Field → Nat → Option (List Ty)
  | [], _ => some []
  | f :: r, o => match sh f.type with
    | none => none
    | some lv => bif Nat.beq f.offset o && Nat.beq (P.cellsOf f.type) lv.length then (match shapeFs P sh r (o + lv.length) with | some m => some (lv ++ m) | none => none) else none
def beqTy (a b : Ty) : Bool := decide (a = b)
def beqTys : List Ty → List Ty → Bool
  | [], [] => true
  | a :: l, b :: m => beqTy a b && beqTys l m
  | _, _ => false
theorem beqTys_eq : ∀ {l m : List Ty}, beqTys l m = true → l = m := by
  intro l
  induction l with
  | nil => intro m h; cases m with | nil => rfl | cons => simp [beqTys] at h
  | cons a l ih =>
    intro m h
    cases m with
    | nil => simp [beqTys] at h
    | cons b m =>
      simp only [beqTys, Bool.and_eq_true] at h
      rw [of_decide_eq_true h.1, ih h.2]
/-- The leaves of a type, as far as its readings are data. -/
def shape (G : Gam) (P : Program) (told : List Nat) : Nat → TypeId → Option (List Ty)
  | 0, _ => none
  | n + 1, t => match P.underlying t with
    | some (.int k) => some [.int k]
    | some .bool => some [.bool]
    | some .string => some [.str]
    | some (.slice e) => match shape G P told n e with
      | none => none
      | some lv => bif Nat.beq (P.cellsOf e) lv.length && Nat.ble 1 lv.length then
          (match P.underlying e with
          | some (.struct _) => bif beqTys (G.lv e) lv && told.contains e then some [.sl (.st e)] else none
          | _ => match lv with | [τ] => bif τ.leaf then some [.sl τ] else none | _ => none)
        else none
    | some (.struct fs) => match shapeFs P (shape G P told n) fs.toList 0 with
      | some lv => bif Nat.beq (P.cellsOf t) lv.length then some lv else none
      | none => none
    | _ => none

section
variable {H : Type} {enc : TypeId × Value → H} {P : Program} {w : World} {base : Nat} {spare : Nat → Bool} {held : Bool}
theorem WfL.append {l m : List (Lf G.S)} (h : WfL G l) (h' : WfL G m) : WfL G (l ++ m) := by
  induction l with
  | nil => simpa using h'
  | cons x l ih =>
    cases h with
    | cons τ y _ h1 h2 => exact .cons τ y _ h1 (ih h2)
theorem cells?_get {a : Addr} {n : Nat} {cs : List Value} (h : w.cells? base a n = some cs) : cs.length = n ∧ ∀ j v, cs[j]? = some v → w.cell? (a.add j) = some v := by
  unfold World.cells? at h
  split at h
  · have hl := mapM_some_length h
    refine ⟨by simpa using hl, fun j v hj => ?_⟩
    have hjn : j < n := by
      rcases Nat.lt_or_ge j cs.length with h1 | h1
      · rw [show cs.length = n by simpa using hl] at h1; exact h1
      · rw [List.getElem?_eq_none h1] at hj; cases hj
    have := mapM_some_get h j j (by simp [hjn])
    rw [this]; exact hj
  · cases h
theorem spot_of {a : Addr} {v : Value} (h : w.cell? a = some v) : a.spot = none := by
  unfold World.cell? at h
  split at h
  · split at h
    · cases h
    · rename_i h2; simpa using h2
  · cases h
theorem add_of {a : Addr} (hs : a.spot = none) (i j : Nat) : (a.add i).add j = ⟨a.block, a.off + (i + j), none⟩ := by
  obtain ⟨b, o, s⟩ := a
  simp only at hs
  subst hs
  unfold Addr.add
  by_cases hi : i = 0
  · by_cases hj : j = 0
    · subst hi; subst hj; simp
    · subst hi; simp [hj]
  · by_cases hj : j = 0
    · subst hj; simp [hi]
    · simp [hi, hj, Nat.add_assoc]
theorem trod_rep {told : List Nat} (full : ∀ t ∈ told, ∀ l : List (Lf G.S), l.map lfT = G.lv t → ∃ x, G.coll t l = some x) :
    ∀ (n : Nat) (t : TypeId) (lv : List Ty), shape G P told n t = some lv → ∀ (fuel : Nat) (cs : List Value) (x : DataW H × List MemPlace), DataW.trod enc P w base spare held fuel t cs = some x →
      ∃ l : List (Lf G.S), l.map lfT = lv ∧ RepL G (fun _ _ => True) w l cs ∧ WfL G l := by
  intro n
  induction n with
  | zero => intro t lv h; simp [shape] at h
  | succ n ih =>
    intro t lv hsh fuel cs x hx
    simp only [shape] at hsh
    split at hsh
    · rename_i k hu
      cases hsh
      obtain ⟨z, rfl, _, hw⟩ := DataW.trod_int hu hx
      exact ⟨[.mk (.int k) (z : Int)], rfl, .cons _ _ _ _ _ (.int k z) .nil, .cons _ _ _ (.int k z hw) .nil⟩
    · rename_i hu
      cases hsh
      obtain ⟨z, rfl, _⟩ := DataW.trod_bool hu hx
      exact ⟨[.mk .bool z], rfl, .cons _ _ _ _ _ (.bool z) .nil, .cons _ _ _ (.bool z) .nil⟩
    · rename_i hu
      cases hsh
      obtain ⟨z, rfl, _, hz⟩ := DataW.trod_string hu hx
      exact ⟨[.mk .str z], rfl, .cons _ _ _ _ _ (.str z) .nil, .cons _ _ _ (.str z hz) .nil⟩
    · rename_i e hu
      split at hsh
      · cases hsh
      rename_i elv hesh
      obtain ⟨hg, hsh⟩ := guardb hsh
      obtain ⟨hg1, hg2⟩ := band hg
      have hcell := Nat.eq_of_beq_eq_true hg1
      have hpos := Nat.le_of_ble_eq_true hg2
      -- the element's type
      obtain ⟨τ, hlv, hτ⟩ : ∃ τ, lv = [.sl τ] ∧ ∀ (l : List (Lf G.S)) (cs : List Value), l.map lfT = elv → RepL G (fun _ _ => True) w l cs → WfL G l → ∃ d : G.D τ, RepD G (fun _ _ => True) w τ d cs ∧ WfD G τ d ∧ szT G τ = elv.length := by
        split at hsh
        · rename_i fs hue
          obtain ⟨hg3, hsh⟩ := guardb hsh
          obtain ⟨hg4, hg5⟩ := band hg3
          have hlve := beqTys_eq hg4
          cases hsh
          refine ⟨.st e, rfl, fun l cs hl hr hw => ?_⟩
          obtain ⟨d, hd⟩ := full e (by simpa using hg5) l (by rw [hl, hlve])
          have hc := G.law e l d hd
          refine ⟨d, .st e d cs (by rw [hc]; exact hr), .st e d (by rw [hc]; exact hw), by simp only [szT]; rw [hlve]⟩
        · split at hsh
          · rename_i τ _
            obtain ⟨hleaf, hsh⟩ := guardb hsh
            cases hsh
            refine ⟨τ, rfl, fun l cs hl hr hw => ?_⟩
            cases l with
            | nil => simp at hl
            | cons a l =>
              cases l with
              | cons b l => simp at hl
              | nil =>
                cases hr with
                | cons τ' y v _ vs h1 h2 =>
                  cases h2
                  cases hw with
                  | cons _ _ _ h3 h4 =>
                    simp only [List.map_cons, List.map_nil, lfT, List.cons.injEq, and_true] at hl
                    subst hl
                    refine ⟨y, h1, h3, ?_⟩
                    have := h1.length
                    simp at this
                    simpa using this.symm
          · cases hsh
      subst hlv
      rcases DataW.trod_slice hu hx with ⟨rfl, _⟩ | ⟨a, len, cap, elems, rest, m, _, rfl, _, _, hlc, hcm, hlen, hel, _, _⟩
      · exact ⟨[.mk (.sl τ) ([] : List (G.D τ))], rfl, .cons _ _ _ _ _ (RepD.nil (.inl rfl)) .nil, .cons _ _ _ (.sl τ [] (Nat.zero_le _) fun i hi => absurd hi (Nat.not_lt_zero _)) .nil⟩
      · have each : ∀ i, i < len → ∃ (d : G.D τ) (csi : List Value), RepD G (fun _ _ => True) w τ d csi ∧ WfD G τ d ∧ w.cells? base (a.add (i * P.cellsOf e)) (P.cellsOf e) = some csi := by
          intro i hi
          have h1 := hel i hi
          rw [List.getElem?_eq_getElem (by omega)] at h1
          obtain ⟨csi, h2, h3⟩ := Option.bind_eq_some_iff.mp h1
          obtain ⟨l, l1, l2, l3⟩ := ih e elv hesh m csi _ h3
          obtain ⟨d, d1, d2, _⟩ := hτ l csi l1 l2 l3
          exact ⟨d, csi, d1, d2, h2⟩
        have hsz : len = 0 ∨ szT G τ = elv.length := by
          rcases Nat.eq_zero_or_pos len with h0 | h0
          · exact .inl h0
          · right
            obtain ⟨d, csi, d1, _, d3⟩ := each 0 h0
            rw [← d1.length, (cells?_get d3).1, hcell]
        -- all elements at once
        have all : ∀ k, k ≤ len → ∃ (xs : List (G.D τ)) (css : Nat → List Value), xs.length = k ∧ ∀ i (hi : i < xs.length), RepD G (fun _ _ => True) w τ xs[i] (css i) ∧ WfD G τ xs[i] ∧ w.cells? base (a.add (i * P.cellsOf e)) (P.cellsOf e) = some (css i) := by
          intro k
          induction k with
          | zero => intro _; exact ⟨[], fun _ => [], rfl, fun i hi => absurd hi (Nat.not_lt_zero _)⟩
          | succ k ihk =>
            intro hk
            obtain ⟨xs, css, h1, h2⟩ := ihk (by omega)
            obtain ⟨d, csi, d1, d2, d3⟩ := each k (by omega)
            refine ⟨xs ++ [d], fun i => if i = k then csi else css i, by simp [h1], fun i hi => ?_⟩
            rcases Nat.lt_or_ge i xs.length with h3 | h3
            · have h4 : ¬ i = k := by omega
              simp only [List.getElem_append_left h3, if_neg h4]
              exact h2 i h3
            · have h4 : i = k := by simp at hi; omega
              subst h4
              have : (xs ++ [d])[i] = d := by rw [List.getElem_append_right h3]; simp [h1]
              simp only [this, if_true]
              exact ⟨d1, d2, d3⟩
        obtain ⟨xs, css, h1, h2⟩ := all len (Nat.le_refl _)
        have hspot : 0 < len → a.spot = none := by
          intro h0
          have h3 := (h2 0 (by omega)).2.2
          obtain ⟨q1, q2⟩ := cells?_get h3
          have : 0 < (css 0).length := by omega
          have h4 := q2 0 _ (List.getElem?_eq_getElem this)
          rw [Nat.zero_mul] at h4
          simp only [Addr.add, if_true] at h4
          exact spot_of h4
        refine ⟨[.mk (.sl τ) xs], rfl, ?_, .cons _ _ _ (.sl τ xs (by rw [h1]; omega) fun i hi => (h2 i hi).2.1) .nil⟩
        have hr : RepD G (fun _ _ => True) w (.sl τ) xs [.slice (some a) xs.length cap] := by
          refine .sl τ xs (some a) cap css (by omega) (.inr ⟨a, rfl⟩) (fun i hi => (h2 i hi).1) fun i hi => ?_
          have hs := hspot (by omega)
          refine ⟨a.block, a.off, ?_, fun j v hj => ⟨trivial, ?_⟩⟩
          · obtain ⟨b, o, s⟩ := a; simp only at hs; subst hs; rfl
          · have h3 := (cells?_get (h2 i hi).2.2).2 j v hj
            rw [add_of hs] at h3
            have : szT G τ = P.cellsOf e := by
              rcases hsz with h0 | h0
              · omega
              · rw [h0, hcell]
            rw [this]
            exact h3
        rw [h1] at hr
        exact .cons _ _ _ _ _ hr .nil
    · rename_i fs hu
      split at hsh
      · rename_i lv' hfs
        obtain ⟨hg, hsh⟩ := guardb hsh
        cases hsh
        have hcell := Nat.eq_of_beq_eq_true hg
        obtain ⟨xs, m, _, _, hcl, hxl, hf⟩ := DataW.trod_struct hu hx
        -- field by field
        have key : ∀ (r : List Field) (o : Nat) (lv : List Ty), shapeFs P (shape G P told n) r o = some lv → (∀ (i : Nat) (f : Field), r[i]? = some f → ∃ y, DataW.trod enc P w base spare held m f.type ((cs.drop f.offset).take (P.cellsOf f.type)) = some y) →
            ∃ l : List (Lf G.S), l.map lfT = lv ∧ RepL G (fun _ _ => True) w l ((cs.drop o).take lv.length) ∧ WfL G l := by
          intro r
          induction r with
          | nil => intro o lv h _; simp only [shapeFs] at h; cases h; exact ⟨[], rfl, by simpa using RepL.nil, .nil⟩
          | cons f r ihr =>
            intro o lv h hall
            simp only [shapeFs] at h
            split at h
            · cases h
            rename_i flv hflv
            obtain ⟨hg, h⟩ := guardb h
            obtain ⟨hg1, hg2⟩ := band hg
            have ho := Nat.eq_of_beq_eq_true hg1
            have hc := Nat.eq_of_beq_eq_true hg2
            split at h
            · rename_i mlv hm
              cases h
              obtain ⟨y, hy⟩ := hall 0 f rfl
              obtain ⟨l1, a1, a2, a3⟩ := ih f.type flv hflv m _ y hy
              obtain ⟨l2, b1, b2, b3⟩ := ihr (o + flv.length) mlv hm (fun i g hi => hall (i + 1) g (by simpa using hi))
              refine ⟨l1 ++ l2, by simp [a1, b1], ?_, a3.append b3⟩
              rw [hc, ho] at a2
              have := a2.append b2
              rw [List.length_append, ← List.drop_drop] at *
              rw [List.take_add]
              exact this
            · cases h
        obtain ⟨l, a1, a2, a3⟩ := key fs.toList 0 lv hfs (fun i f hi => by
          have h1 := hf i f (by simpa using hi)
          have h2 : i < fs.size := by
            rcases Nat.lt_or_ge i fs.size with h3 | h3
            · exact h3
            · rw [List.getElem?_eq_none (by simpa using h3)] at hi; cases hi
          rw [List.getElem?_eq_getElem (by omega)] at h1
          exact ⟨_, h1⟩)
        refine ⟨l, a1, ?_, a3⟩
        rw [List.drop_zero, List.take_of_length_le (by omega)] at a2
        exact a2
      · cases hsh
    · cases hsh
end

theorem one_leaf {w : World} {τ : Ty} {l : List (Lf G.S)} {v : Value} (h : l.map lfT = [τ]) (hr : RepL G (fun _ _ => True) w l [v]) (hw : WfL G l) (hl : τ.leaf = true) :
    ∃ z : G.D τ, RepV (fun _ _ => True) w (fun _ => none) (.d τ z : EV G) v ∧ WfD G τ z := by
  cases l with
  | nil => simp at h
  | cons a l =>
    cases l with
    | cons b l => simp at h
    | nil =>
      cases hr with
      | cons τ' y v _ vs h1 h2 =>
        cases hw with
        | cons _ _ _ h3 h4 =>
          simp only [List.map_cons, List.map_nil, lfT, List.cons.injEq, and_true] at h
          subst h
          exact ⟨y, by simp only [RepV]; exact ⟨hl, h1⟩, h3⟩
theorem WfL.leaf {l : List (Lf G.S)} (h : WfL G l) : ∀ a ∈ l, match a with | .mk τ x => WfD G τ x := by
  induction l with
  | nil => intro a ha; cases ha
  | cons b l ih =>
    cases h with
    | cons τ x _ h1 h2 =>
      intro a ha
      rcases List.mem_cons.mp ha with rfl | ha
      · exact h1
      · exact ih h2 a ha
end Go.Abs
end
