/- An evaluator of the model over pure data, and that its answers are those of the code; part 1. No conditions. -/
import Derived.Calls
import Derived.Orders
import Derived.Below
import Derived.ArgAppend
import Derived.Deep.MidRow
import Derived.Laws.StructEq
section
set_option linter.all false
set_option linter.unusedVariables false
set_option linter.unusedSimpArgs false
set_option linter.unnecessarySimpa false
/-
  ABS, part 1: an abstract evaluator over the model's code. Values are pure typed data, own rows (slices that the frame alone holds), boxes (variables whose address is taken), closures.
  Nothing here is about memory: what an answer of the evaluator means is said and proved in the later parts.
-/
namespace Go.Abs

inductive Ty where
  | int (k : IntKind)
  | bool
  | str
  | sl (e : Ty)
  | sn (e : Ty)                                  -- a slice that is not nil
  | st (t : TypeId)
  deriving DecidableEq

def D (S : TypeId → Type) : Ty → Type
  | .int _ => Int
  | .bool => Bool
  | .str => ByteArray
  | .sl e => List (D S e)
  | .sn e => List (D S e)
  | .st t => S t

/-- A leaf: one cell's worth of data. -/
inductive Lf (S : TypeId → Type) where
  | mk (τ : Ty) (x : D S τ)

def castD {S : TypeId → Type} (τ τ' : Ty) (x : D S τ) : Option (D S τ') :=
  if h : τ = τ' then some (h ▸ x) else none

def Ty.leaf : Ty → Bool
  | .st _ => false
  | _ => true

/-- The struct types: for each its Lean type, its leaves' types, its cells, and back. -/
structure Gam where
  S : TypeId → Type
  lv : TypeId → List Ty
  cells : (t : TypeId) → S t → List (Lf S)
  coll : (t : TypeId) → List (Lf S) → Option (S t)
  law : ∀ t l x, coll t l = some x → cells t x = l
  tys : ∀ t x, (cells t x).map (fun | .mk τ _ => τ) = lv t
  flat : ∀ t τ, τ ∈ lv t → τ.leaf = true

variable {G : Gam}

abbrev Gam.D (G : Gam) (τ : Ty) : Type := Abs.D G.S τ

def szT (G : Gam) : Ty → Nat
  | .st t => (G.lv t).length
  | _ => 1

def cellsT (G : Gam) : (τ : Ty) → G.D τ → List (Lf G.S)
  | .st t, x => G.cells t x
  | .int k, x => [.mk (.int k) x]
  | .bool, x => [.mk .bool x]
  | .str, x => [.mk .str x]
  | .sl e, x => [.mk (.sl e) x]
  | .sn e, x => [.mk (.sn e) x]

def coll1 {S : TypeId → Type} (τ : Ty) : List (Lf S) → Option (Abs.D S τ)
  | [.mk τ' x] => castD τ' τ x
  | _ => none
def collT (G : Gam) : (τ : Ty) → List (Lf G.S) → Option (G.D τ)
  | .st t, l => G.coll t l
  | .int k, l => coll1 (.int k) l
  | .bool, l => coll1 .bool l
  | .str, l => coll1 .str l
  | .sl e, l => coll1 (.sl e) l
  | .sn e, l => coll1 (.sn e) l

/-- What a slot or a cell holds. -/
inductive EV (G : Gam) where
  | d (τ : Ty) (x : G.D τ)                       -- data; a slice: read only
  | nl                                           -- the nil slice
  | ow (id : Nat)                                -- the whole of an own row
  | vw (id lo len : Nat)                         -- a part of an own row
  | ptr (id off : Nat)                           -- into a box
  | ept (id i off : Nat)                         -- into an element of an own row
  | rp (τ : Ty) (x : G.D τ) (off : Nat)          -- to data that is only read
  | spn (id n : Nat)                             -- the outer slice of a tree
  | spp (id i : Nat)                             -- into it
  | inn (id i : Nat)                             -- an inner slice of a tree
  | lfp (id i j : Nat)                           -- into it
  | fn (f : FuncId) (caps : List (EV G))
  | ag (l : List (EV G))                         -- a struct: its cells
  | tp (l : List (EV G))
  | c (v : Value)                                -- a nil of another kind
  | un                                           -- of an operation that was passed over
  | u                                            -- nothing is known

inductive Ent (G : Gam) where
  | box (cs : List (EV G))
  | row (e : Ty) (xs : List (G.D e)) (lock : Nat)   -- own; the first 'lock' elements may be seen as data, and stay
  | fz (e : Ty) (xs : List (G.D e))                 -- data
  | tomb
  | tree (o : Bool) (e : Ty) (xs : List (List (List (G.D e)))) (h : Option (Nat × Nat × Option Nat)) (ys : List (List (G.D e)))   -- own: slices of slices (and with 'o' the outer slice too); a place whose slice is taken out, and by whom; the inner slice there
  | nils (n : Nat)                                  -- own: a slice of nil slices
  | one (id : Option Nat)                           -- own: a slice with one element
  | fill (e : Ty) (xs : List (G.D e)) (cs zc : List (EV G)) (n : Nat) (t : Bool)   -- n places, filled in order: data; the cells of the next one; zeros; has the next one been begun?

structure St (G : Gam) where
  tm : List (Nat × EV G)
  en : List (Nat × Ent G)

def lookT {α : Type} : List (Nat × α) → Nat → Option α
  | [], _ => none
  | (i, v) :: r, j => bif Nat.beq i j then some v else lookT r j

def St.get (s : St G) (t : Nat) : EV G := match lookT s.tm t with | some v => v | none => .u
def St.look (s : St G) (i : Nat) : Option (Ent G) := lookT s.en i
def St.put (s : St G) (dst : Option Nat) (v : EV G) : St G :=
  match dst with
  | some t => { s with tm := (t, v) :: s.tm }
  | none => s
def St.upd (s : St G) (l : List (Nat × Ent G)) : St G := { s with en := l ++ s.en }

def ofConst : Value → EV G
  | .bool b => .d .bool b
  | .int k n => .d (.int k) n
  | .string s => .d .str s
  | .slice none 0 0 => .nl
  | .nilFunc => .c .nilFunc
  | .pointer none => .c (.pointer none)
  | _ => .u

def St.ev (s : St G) : Operand → EV G
  | .tmp t => s.get t
  | .const v => ofConst v
  | .func f => .fn f []
  | .global _ => .u

def lfEV : Lf G.S → EV G
  | .mk τ x => .d τ x

/-! ### types -/
def under (P : Program) (t : TypeId) : Option TypeDesc := P.underlying t
def tyOf (P : Program) : Nat → TypeId → Option Ty
  | 0, _ => none
  | n + 1, t =>
    match P.underlying t with
    | some (.int k) => some (.int k)
    | some .bool => some .bool
    | some .string => some .str
    | some (.slice e) => match tyOf P n e with | some x => some (.sl x) | none => none
    | some (.struct _) => some (.st t)
    | _ => none
def ty (P : Program) (t : TypeId) : Option Ty := tyOf P 6 t
def elemT (P : Program) (t : TypeId) : Option TypeId := match P.underlying t with | some (.slice e) => some e | _ => none
def sizeT (P : Program) (t : TypeId) : Option Nat := match P.info? t with | some i => some i.size | none => none
def bytesT (P : Program) (t : TypeId) : Option Nat := match P.info? t with | some i => some i.bytes | none => none
def aggT (P : Program) (t : TypeId) : Option Bool := match P.underlying t with | some (.struct _) => some true | some (.array _ _) => none | some _ => some false | none => none
def fieldT (P : Program) (t : TypeId) (f : Nat) : Option Field := match P.underlying t with | some (.struct fs) => fs[f]? | _ => none

/-- A zero value's cells. -/
def zeroV : Value → Option (List (EV G))
  | .agg cs => some (cs.toList.map ofConst)
  | v => some [ofConst v]
def zeroCells (P : Program) (t : TypeId) : Option (List (EV G)) :=
  match P.info? t with
  | some i => match i.zero with | some v => zeroV v | none => none
  | none => none

end Go.Abs
end
section
set_option linter.all false
set_option linter.unusedVariables false
set_option linter.unusedSimpArgs false
set_option linter.unnecessarySimpa false
/-
  ABS, part 2: the evaluator: operations, regions, code, calls.
-/
namespace Go.Abs
variable {G : Gam}

/-! ### values -/
def EV.cells : EV G → List (EV G)
  | .ag l => l
  | v => [v]

/-- May it stand in a cell? -/
def EV.cell : EV G → Bool
  | .d τ _ => τ.leaf
  | .nl | .ow _ | .vw .. | .ptr .. | .ept .. | .rp .. | .fn .. | .c _ | .spn .. | .spp .. | .inn .. | .lfp .. => true
  | _ => false

/-- A value that is known to be a struct's, or a cell's. -/
def EV.sound : EV G → Bool
  | .ag _ => true
  | v => v.cell

mutual
def EV.rn (ρ : Nat → Option Nat) : EV G → EV G
  | .ow i => match ρ i with | some j => .ow j | none => .u
  | .vw i lo n => match ρ i with | some j => .vw j lo n | none => .u
  | .ptr i off => match ρ i with | some j => .ptr j off | none => .u
  | .ept i x off => match ρ i with | some j => .ept j x off | none => .u
  | .spn i n => match ρ i with | some j => .spn j n | none => .u
  | .spp i n => match ρ i with | some j => .spp j n | none => .u
  | .inn i n => match ρ i with | some j => .inn j n | none => .u
  | .lfp i n m => match ρ i with | some j => .lfp j n m | none => .u
  | .fn f cs => .fn f (EV.rns ρ cs)
  | .ag l => .ag (EV.rns ρ l)
  | .tp l => .tp (EV.rns ρ l)
  | .d τ x => .d τ x
  | .nl => .nl
  | .rp τ x o => .rp τ x o
  | .c v => .c v
  | .un => .un
  | .u => .u
def EV.rns (ρ : Nat → Option Nat) : List (EV G) → List (EV G)
  | [] => []
  | v :: l => EV.rn ρ v :: EV.rns ρ l
end

mutual
/-- The entries that a value names. -/
def EV.ids : EV G → List Nat
  | .ow i | .vw i _ _ | .ptr i _ | .ept i _ _ => [i]
  | .spn i _ | .spp i _ | .inn i _ | .lfp i _ _ => [i]
  | .fn _ cs => EV.idss cs
  | .ag l => EV.idss l
  | .tp l => EV.idss l
  | _ => []
def EV.idss : List (EV G) → List Nat
  | [] => []
  | v :: l => EV.ids v ++ EV.idss l
end

def Ent.rn (ρ : Nat → Option Nat) : Ent G → Ent G
  | .box cs => .box (EV.rns ρ cs)
  | .fill e xs cs zc n t => .fill e xs (EV.rns ρ cs) zc n t
  | .tree o e xs h ys => .tree o e xs (match h with | some (i, j, some k) => some (i, j, ρ k) | h => h) ys
  | .one (some i) => .one (ρ i)
  | e => e
/-- The entries that an entry speaks of. -/
def Ent.nms : Ent G → List Nat
  | .box cs => EV.idss cs
  | .fill _ _ cs _ _ _ => EV.idss cs
  | .tree _ _ _ (some (_, _, some k)) _ => [k]
  | .one (some i) => [i]
  | _ => []
def Ent.ids (e : Ent G) : List Nat := e.nms

def Ty.hasSl (G : Gam) : Ty → Bool
  | .sl _ => true
  | .sn _ => true
  | .st t => (G.lv t).any fun | .sl _ => true | .sn _ => true | _ => false
  | _ => false
mutual
/-- Is there data in it that may lie in memory? -/
def EV.hasSl : EV G → Bool
  | .d (.sl _) _ => true
  | .d (.sn _) _ => true
  | .rp .. => true
  | .spn .. => true
  | .spp .. => true
  | .fn _ cs => EV.hasSls cs
  | .ag l => EV.hasSls l
  | .tp l => EV.hasSls l
  | _ => false
def EV.hasSls : List (EV G) → Bool
  | [] => false
  | v :: l => EV.hasSl v || EV.hasSls l
end
def Ent.hasSl : Ent G → Bool
  | .box cs => EV.hasSls cs
  | .row e _ _ => e.hasSl G
  | .fz .. => true
  | .tomb => false
  | .fill .. => true
  | .tree .. => true
  | .nils _ => false
  | .one _ => false

/-- A value as data of a leaf's type; what must be frozen for it. -/
def asD (s : St G) : (τ : Ty) → EV G → Option (G.D τ × List Nat)
  | τ, .d τ' x => match castD τ' τ x with | some y => some (y, []) | none => none
  | .sl _, .nl => some ([], [])
  | .sl e, .ow i => match s.look i with
    | some (.row e' xs _) => match castD (S := G.S) (.sl e') (.sl e) xs with | some y => some (y, [i]) | none => none
    | some (.fz e' xs) => match castD (S := G.S) (.sl e') (.sl e) xs with | some y => some (y, []) | none => none
    | _ => none
  | .sl e, .vw i lo n => match s.look i with
    | some (.row e' xs _) => match castD (S := G.S) (.sl e') (.sl e) ((xs.drop lo).take n) with | some y => some (y, [i]) | none => none
    | some (.fz e' xs) => match castD (S := G.S) (.sl e') (.sl e) ((xs.drop lo).take n) with | some y => some (y, []) | none => none
    | _ => none
  | _, _ => none
def asLfs (s : St G) : List Ty → List (EV G) → Option (List (Lf G.S) × List Nat)
  | [], [] => some ([], [])
  | τ :: ts, v :: vs => match asD s τ v with
    | some (x, f) => match asLfs s ts vs with
      | some (l, g) => some (.mk τ x :: l, f ++ g)
      | none => none
    | none => none
  | _, _ => none
def lvT (G : Gam) : Ty → List Ty
  | .st t => G.lv t
  | τ => [τ]
/-- A value as an element. -/
def asEl (s : St G) (e : Ty) (v : EV G) : Option (G.D e × List Nat) :=
  match asLfs s (lvT G e) v.cells with
  | some (l, f) => match collT G e l with | some x => some (x, f) | none => none
  | none => none

/-- Freezing rows: their content stays, nothing writes them any more. -/
def frz (s : St G) : List Nat → List (Nat × Ent G)
  | [] => []
  | i :: l => match s.look i with | some (.row e xs _) => (i, .row e xs xs.length) :: frz s l | _ => frz s l

/-! ### operations without a condition of their own -/
def splice {α : Type} (l : List α) (off : Nat) (m : List α) : List α := l.take off ++ (m ++ l.drop (off + m.length))

def buildE (P : Program) (s : St G) (t : TypeId) : List (Nat × Operand) → List (EV G) → Option (List (EV G))
  | [], cs => some cs
  | (f, x) :: r, cs =>
    match fieldT P t f with
    | some fd => match sizeT P fd.type with
      | some n =>
        bif Nat.beq (s.ev x).cells.length n && Nat.ble (fd.offset + n) cs.length && (s.ev x).sound then buildE P s t r (splice cs fd.offset (s.ev x).cells) else none
      | none => none
    | none => none

def cmpE (op : BinOp) (x y : Int) : Option Bool :=
  match op with
  | .eql => some (x == y)
  | .neq => some (x != y)
  | .lss => some (x < y)
  | .leq => some (x ≤ y)
  | .gtr => some (x > y)
  | .geq => some (x ≥ y)
  | _ => none
def arithE (op : BinOp) (k : IntKind) (x y : Int) : Option Int :=
  match op with
  | .add => some (k.wrap (x + y))
  | .sub => some (k.wrap (x - y))
  | .mul => some (k.wrap (x * y))
  | .and => some (k.wrap (BitVec.ofInt k.bits x &&& BitVec.ofInt k.bits y).toNat)
  | .or => some (k.wrap (BitVec.ofInt k.bits x ||| BitVec.ofInt k.bits y).toNat)
  | .xor => some (k.wrap (BitVec.ofInt k.bits x ^^^ BitVec.ofInt k.bits y).toNat)
  | .andNot => some (k.wrap (BitVec.ofInt k.bits x &&& ~~~BitVec.ofInt k.bits y).toNat)
  | _ => none
def strE (op : BinOp) (x y : ByteArray) : Option Bool :=
  match op with
  | .eql => some (x.toList == y.toList)
  | .neq => some (!(x.toList == y.toList))
  | .lss => some (Op.bytesLess x.toList y.toList)
  | .leq => some (Op.bytesLess x.toList y.toList || x.toList == y.toList)
  | .gtr => some (!(Op.bytesLess x.toList y.toList || x.toList == y.toList))
  | .geq => some (!(Op.bytesLess x.toList y.toList))
  | _ => none
def iEq (a b : Int) : Bool := a == b
def bEq (a b : Bool) : Bool := a == b
def sEq (a b : ByteArray) : Bool := a == b
def sCat (a b : ByteArray) : ByteArray := a ++ b
def sLen (b : ByteArray) : Int := b.size
def iNeg (x : Int) : Int := 0 - x
def bNot (x : Bool) : Bool := !x
def eqFs (P : Program) (eqt : TypeId → List (EV G) → List (EV G) → Option Bool) (l m : List (EV G)) : List Field → Option Bool
  | [] => some true
  | [f] => match sizeT P f.type with
    | some n => eqt f.type ((l.drop f.offset).take n) ((m.drop f.offset).take n)
    | none => none
  | f :: fs => match sizeT P f.type with
    | some n => match eqt f.type ((l.drop f.offset).take n) ((m.drop f.offset).take n), eqFs P eqt l m fs with
      | some x, some y => some (x && y)
      | _, _ => none
    | none => none
/-- Two values of one type, told by their cells. -/
def eqT (P : Program) : Nat → TypeId → List (EV G) → List (EV G) → Option Bool
  | 0, _, _, _ => none
  | n + 1, t, l, m => match P.underlying t with
    | some (.int _) => match l, m with
      | [.d (.int k) a], [.d (.int k') b] => bif decide (k = k') then some (iEq a b) else none
      | _, _ => none
    | some .bool => match l, m with
      | [.d .bool a], [.d .bool b] => some (bEq a b)
      | _, _ => none
    | some .string => match l, m with
      | [.d .str a], [.d .str b] => some (sEq a b)
      | _, _ => none
    | some (.struct fs) => eqFs P (eqT P n) l m fs.toList
    | _ => none

def binE (P : Program) (op : BinOp) (t : TypeId) (a b : EV G) : Option (EV G) :=
  match a, b with
  | .d (.int k) x, .d (.int k') y =>
    bif decide (k = k') then match cmpE op x y with
      | some r => some (.d .bool r)
      | none => match arithE op k x y with | some r => some (.d (.int k) r) | none => none
    else none
  | .d .str x, .d .str y => match strE op x y with | some r => some (.d .bool r) | none => none
  | .d .bool x, .d .bool y => match P.underlying t, op with
    | some .bool, .eql => some (.d .bool (bEq x y))
    | some .bool, .neq => some (.d .bool (bNot (bEq x y)))
    | _, _ => none
  | .d (.sn _) _, .nl => match P.underlying t, op with | some (.slice _), .eql => some (.d .bool false) | some (.slice _), .neq => some (.d .bool true) | _, _ => none
  | .nl, .nl => match P.underlying t, op with | some (.slice _), .eql => some (.d .bool true) | some (.slice _), .neq => some (.d .bool false) | _, _ => none
  | .fn .., .c .nilFunc => match P.underlying t, op with | some (.func ..), .eql => some (.d .bool false) | some (.func ..), .neq => some (.d .bool true) | _, _ => none
  | .c .nilFunc, .c .nilFunc => match P.underlying t, op with | some (.func ..), .eql => some (.d .bool true) | some (.func ..), .neq => some (.d .bool false) | _, _ => none
  | .ptr .., .c (.pointer none) => match P.underlying t, op with | some (.pointer _), .eql => some (.d .bool false) | some (.pointer _), .neq => some (.d .bool true) | _, _ => none
  | _, _ => none

def pickE (c : Bool) : EV G → EV G → EV G
  | .d τ x, .d τ' y => match castD τ' τ y with | some y' => .d τ (cond c x y') | none => bif c then .d τ x else .d τ' y
  | a, b => bif c then a else b

def iMax (x y : Int) : Int := bif decide (y > x) then y else x
def iMin (x y : Int) : Int := bif decide (y < x) then y else x
def foldI (f : Int → Int → Int) (x : Int) : List (EV G) → Option Int
  | [] => some x
  | .d (.int _) y :: r => foldI f (f x y) r
  | _ => none
def foldE (f : Int → Int → Int) : List (EV G) → Option (EV G)
  | .d (.int k) x :: r => match foldI f x r with | some z => some (.d (.int k) z) | none => none
  | _ => none

def lenE (s : St G) : EV G → Option Int
  | .d (.sl _) xs => some (xs.length : Int)
  | .nl => some 0
  | .vw _ _ n => some (n : Int)
  | .ow i => match s.look i with | some (.row _ xs _) => some (xs.length : Int) | some (.fz _ xs) => some (xs.length : Int) | _ => none
  | _ => none

def part (P : Program) (t : TypeId) (n off : Nat) (l : List (EV G)) : Option (EV G) :=
  match aggT P t with
  | some true => bif Nat.ble (off + n) l.length then some (.ag ((l.drop off).take n)) else none
  | some false => l[off]?
  | none => none

def loadE (P : Program) (s : St G) (t : TypeId) : EV G → Option (EV G)
  | .ptr i off => match s.look i, sizeT P t with
    | some (.box cs), some n => part P t n off cs
    | _, _ => none
  | .rp τ x off => match sizeT P t with
    | some n => part P t n off ((cellsT G τ x).map lfEV)
    | none => none
  | _ => none

def fieldAtE (P : Program) (t : TypeId) (f : Nat) : EV G → Option (EV G)
  | v => match fieldT P t f with
    | some fd => match sizeT P fd.type with
      | some (_ + 1) => match v with
        | .ptr i off => some (.ptr i (off + fd.offset))
        | .ept i x off => some (.ept i x (off + fd.offset))
        | .rp τ x off => some (.rp τ x (off + fd.offset))
        | _ => none
      | _ => none
    | none => none

def fieldE (P : Program) (t : TypeId) (f : Nat) : EV G → Option (EV G)
  | .ag l => match fieldT P t f with
    | some fd => match sizeT P fd.type with | some n => part P fd.type n fd.offset l | none => none
    | none => none
  | _ => none

def convE (P : Program) (src dst : TypeId) : EV G → Option (EV G)
  | .d (.int _) x => match P.underlying src, P.underlying dst with | some _, some (.int k) => some (.d (.int k) (k.wrap x)) | _, _ => none
  | .d .str x => match P.underlying src, P.underlying dst with | some .string, some .string => some (.d .str x) | _, _ => none
  | _ => none

def unE (op : UnOp) : EV G → Option (EV G)
  | .d .bool b => match op with | .not => some (.d .bool (bNot b)) | _ => none
  | .d (.int k) x => match op with
    | .neg => some (.d (.int k) (k.wrap (iNeg x)))
    | .xor => some (.d (.int k) (k.wrap (BitVec.ofInt k.bits (if k.signed then -1 else k.max) ^^^ BitVec.ofInt k.bits x).toNat))
    | _ => none
  | _ => none

def eqStruct (P : Program) : Nat → TypeId → Bool
  | 0, _ => false
  | n + 1, t => match P.underlying t with
    | some (.int _) | some .bool | some .string => true
    | some (.struct fs) => !P.stoodInHeld t && fs.toList.all fun f => f.name != "_" && eqStruct P n f.type
    | _ => false

def pureOp (P : Program) (eqs : List Nat) (s : St G) (o : Oper) : Option (EV G) :=
  match o.op with
  | .move x | .assign x => some (s.ev x)
  | .pick c a b => match s.ev c with | .d .bool t => some (pickE t (s.ev a) (s.ev b)) | _ => none
  | .build t parts => match zeroCells P t with
    | some z => match buildE P s t parts.toList z with | some l => (match P.underlying t with | some (.struct fs) => bif fs.toList.all (fun f => (sizeT P f.type).isSome) then some (.ag l) else none | _ => none) | none => none
    | none => none
  | .field t x f => fieldE P t f (s.ev x)
  | .extract x i => match s.ev x with | .tp l => l[i]? | _ => none
  | .fieldAddr t x f => fieldAtE P t f (s.ev x)
  | .load t a => loadE P s t (s.ev a)
  | .unOp op _ x => unE op (s.ev x)
  | .convert src dst x => convE P src dst (s.ev x)
  | .nilCheck x => match s.ev x with
    | .ptr i f => some (.ptr i f) | .ept i x f => some (.ept i x f) | .rp τ x f => some (.rp τ x f) | .fn f cs => some (.fn f cs) | _ => none
  | .makeFunc (.func f) first caps => bif Nat.beq first.size 0 then some (.fn f (caps.toList.map s.ev)) else none
  | .binOp op t x y _ => match s.ev x, s.ev y with
    | .ag l, .ag m => bif eqs.contains t && (match P.underlying t with | some (.struct _) => true | _ => false) then match eqT P 8 t l m with
        | some b => match op with | .eql => some (.d .bool b) | .neq => some (.d .bool (!b)) | _ => none
        | none => none
      else none
    | a, b => binE P op t a b
  | .call { callee := .builtin .len, args, argTypes } => match args.toList, argTypes.toList with
    | [x], [t] => match P.underlying t with
      | some .string => match s.ev x with | .d .str b => some (.d (.int .i64) (sLen b)) | _ => none
      | some (.slice _) => match lenE s (s.ev x) with | some n => some (.d (.int .i64) n) | none => none
      | _ => none
    | _, _ => none
  | .call { callee := .builtin .max, args, .. } => foldE iMax (args.toList.map s.ev)
  | .call { callee := .builtin .min, args, .. } => foldE iMin (args.toList.map s.ev)
  | _ => none

/-- The entries that such an operation looks at. -/
def pureReads (s : St G) (o : Oper) : List Nat :=
  match o.op with
  | .load _ a => (s.ev a).ids
  | .call { callee := .builtin .len, args, .. } => match args.toList with | [x] => (s.ev x).ids | _ => []
  | _ => []

/-! ### the rest -/
def ixo {α : Type} (xs : List α) (i : Int) : Option α := bif decide (i < 0) then none else xs[i.toNat]?

structure FnT (G : Gam) where
  inout : List Nat
  sem : (R : Type) → List (EV G) → List (Ent G) → (EV G → List (Ent G) → List (Ent G) → Option R) → Option R

structure Keep where
  slots : List Nat
  rows : List ((Nat × Option Nat) × Nat × Ty)     -- a slot, or a box and a cell; the row's name; its elements
  boxes : List Nat
  tombs : List Nat := []
  mv : List (Nat × Nat) := []                     -- slots that hold a pointer to a box; the box's new name
  cut : List (Nat × Nat) := []                    -- slots that may hold a part of an own row; the part's name
  cls : List Nat := []                            -- 'fill' entries whose place is done
  fin : List Nat := []                            -- 'fill' entries that are full: rows from here on
  trs : List Nat := []                            -- rows that are trees
  frs : List (Nat × Nat) := []                    -- a box and a cell: the tree's outer slice is done

inductive Ex where
  | normal
  | exit (id : Nat)
  | ret

structure LoopT (G : Gam) where
  keep : Keep
  sem : (R : Type) → List (EV G) → List (Ent G) → (Ex → St G → Option R) → Option R

structure Env (G : Gam) where
  P : Program
  fns : Nat → Option (FnT G)
  loops : Nat → Option (LoopT G)
  nt : Nat
  m : Nat := 0
  keeps : List Nat := []
  eqs : List Nat := []
  fills : List Nat := []                          -- operations that make a slice which is filled in order
  trees : List Nat := []                          -- operations that make parts of a tree
  tr : Bool := false                              -- are there trees?

/-- Arguments for a callee: rows that it only reads are handed over as data. -/
def snap (P : Program) (s : St G) : EV G → Option (EV G × List Nat)
  | .ow i => match s.look i with
    | some (.row e xs _) => some (.d (.sl e) xs, [i])
    | some (.fz e xs) => some (.d (.sl e) xs, [])
    | _ => none
  | .vw i lo n => match s.look i with
    | some (.row e xs _) => some (.d (.sl e) ((xs.drop lo).take n), [i])
    | some (.fz e xs) => some (.d (.sl e) ((xs.drop lo).take n), [])
    | _ => none
  | v => some (v, [])
def snaps (P : Program) (s : St G) : List (EV G) → Option (List (EV G) × List Nat)
  | [] => some ([], [])
  | v :: l => match snap P s v with
    | some (x, f) => match snaps P s l with | some (m, g) => some (x :: m, f ++ g) | none => none
    | none => none
def snapA (P : Program) (s : St G) : EV G → Option (EV G × List Nat)
  | .ag l => match snaps P s l with | some (m, f) => some (.ag m, f) | none => none
  | v => snap P s v
def snapArgs (P : Program) (s : St G) (io : List Nat) : Nat → List (EV G) → Option (List (EV G) × List Nat)
  | _, [] => some ([], [])
  | j, v :: l => match (bif io.contains j then some (v, []) else snapA P s v) with
    | some (x, f) => match snapArgs P s io (j + 1) l with | some (m, g) => some (x :: m, f ++ g) | none => none
    | none => none

def addNew (l : List Nat) : List Nat → List Nat
  | [] => l
  | i :: r => bif l.contains i then addNew l r else addNew (l ++ [i]) r
def entIds (s : St G) : List Nat → List Nat
  | [] => []
  | i :: l => (match s.look i with | some e => e.ids | none => []) ++ entIds s l
def reach (s : St G) (vs : List (EV G)) : List Nat :=
  let a := addNew [] (EV.idss vs)
  let b := addNew a (entIds s a)
  let c := addNew b (entIds s b)
  addNew c (entIds s c)
def indexOf (i : Nat) : List Nat → Nat → Option Nat
  | [], _ => none
  | j :: l, n => bif Nat.beq i j then some n else indexOf i l (n + 1)
def looks (s : St G) : List Nat → Option (List (Ent G))
  | [] => some []
  | i :: l => match s.look i with
    | some e => match looks s l with | some m => some (e :: m) | none => none
    | none => none
def backTo (L : List Nat) (nid : Nat) (i : Nat) : Option Nat :=
  match L[i]? with
  | some j => some j
  | none => some (nid + (i - L.length))
def number (nid : Nat) : List (Ent G) → List (Nat × Ent G)
  | [] => []
  | e :: l => (nid, e) :: number (nid + 1) l
def zipE : List Nat → List (Ent G) → List (Nat × Ent G)
  | i :: l, e :: m => (i, e) :: zipE l m
  | _, _ => []
def fresh (s : St G) (nid : Nat) : List (Ent G) → Bool
  | [] => true
  | _ :: l => (match s.look nid with | none => true | some _ => false) && fresh s (nid + 1) l

section
variable {R : Type} (E : Env G)

def callE (s : St G) (nid : Nat) (f : Nat) (args : List (EV G)) (k : EV G → List (Nat × Ent G) → List Nat → Option R) : Option R :=
  match E.fns f with
  | none => none
  | some T =>
    match snapArgs E.P s T.inout 0 args with
    | none => none
    | some (as, fr) =>
      let L := reach s as
      match looks s L with
      | none => none
      | some es =>
        bif fr.any (fun i => L.contains i) || (entIds s L).any (fun i => !L.contains i) then none
        else T.sem R (EV.rns (fun i => indexOf i L 0) as) (es.map (Ent.rn fun i => indexOf i L 0)) fun res es' news =>
          bif !(Nat.beq es'.length L.length) || !fresh s nid news then none
          else
            let back := backTo L nid
            let hold := EV.hasSl res || es'.any Ent.hasSl || news.any Ent.hasSl
            k (res.rn back)
              (zipE L (es'.map (Ent.rn back)) ++ (number nid (news.map (Ent.rn back)) ++ (bif hold then frz s fr else [])))
              (L ++ (fr ++ EV.idss args))

def isFree (s : St G) (i : Nat) : Bool := match s.look i with | none => true | some _ => false

/-- The rows of an append's operands: content, what is used up, what is frozen. -/
def rowOfD (s : St G) (e : Ty) : EV G → Option (G.D (.sl e))
  | .d τ x => match castD τ (.sl e) x with
    | some y => some y
    | none => match castD (S := G.S) τ (.sn e) x with | some y => some y | none => none
  | .nl => some ([] : List (G.D e))
  | .ow i => match s.look i with
    | some (.row e' xs _) => castD (S := G.S) (.sl e') (.sl e) xs
    | some (.fz e' xs) => castD (S := G.S) (.sl e') (.sl e) xs
    | _ => none
  | .vw i lo n => match s.look i with
    | some (.row e' xs _) => castD (S := G.S) (.sl e') (.sl e) ((xs.drop lo).take n)
    | some (.fz e' xs) => castD (S := G.S) (.sl e') (.sl e) ((xs.drop lo).take n)
    | _ => none
  | _ => none
def rowOf (s : St G) (e : Ty) (v : EV G) : Option (List (G.D e)) := rowOfD s e v
/-- Does it fit? -/
def appOK (n m b : Nat) : Bool := Nat.ble ((n + m) * b) 70368744177664
def makeOK (l c : Int) (b : Nat) : Bool := match l, c with
  | .ofNat x, .ofNat y => Nat.ble x y && Nat.ble (y * b) 70368744177664
  | _, _ => false
theorem appOK_iff {n m b : Nat} : appOK n m b = true ↔ ((n : Int) + m) * (b : Int) ≤ 70368744177664 := by
  unfold appOK
  rw [Nat.ble_eq]
  constructor
  · intro h
    have : (((n + m) * b : Nat) : Int) ≤ 70368744177664 := by omega
    push_cast at this
    exact this
  · intro h
    have : (((n + m) * b : Nat) : Int) ≤ 70368744177664 := by push_cast; exact h
    omega
theorem makeOK_iff {l c : Int} {b : Nat} : makeOK l c b = true ↔ 0 ≤ l ∧ l ≤ c ∧ c * (b : Int) ≤ 70368744177664 := by
  unfold makeOK
  cases l with
  | negSucc x => simp <;> omega
  | ofNat x =>
    cases c with
    | negSucc y => simp <;> omega
    | ofNat y =>
      simp only [Bool.and_eq_true, Nat.ble_eq, Int.ofNat_eq_natCast]
      have e : ((y : Int) * (b : Int)) = ((y * b : Nat) : Int) := by push_cast; rfl
      rw [e]
      omega
/-- The base of an append: only what the frame owns. 'keep': what it was stays as data. -/
def lockOK : Nat → Nat → Bool
  | 0, _ => true
  | n + 1, j => Nat.ble (n + 1) j
def baseOf (s : St G) (keep : Bool) (e : Ty) : EV G → Option (List (G.D e) × Nat × List (Nat × Ent G))
  | .nl => some ([], 0, [])
  | .ow i => match s.look i with
    | some (.row e' xs lock) => match castD (S := G.S) (.sl e') (.sl e) xs with
      | some y => some (y, (bif keep then y.length else lock), [(i, bif keep then .fz e y else .tomb)])
      | none => none
    | _ => none
  | .vw i lo n => match s.look i with
    | some (.row e' xs lock) => match castD (S := G.S) (.sl e') (.sl e) ((xs.drop lo).take n) with
      | some y => bif lockOK lock (lo + n) && !keep then some (y, lock - lo, [(i, .tomb)]) else none
      | none => none
    | _ => none
  | _ => none

def zeroEl (P : Program) (s : St G) (e : Ty) (et : TypeId) : Option (G.D e) :=
  match zeroCells P et with
  | some zc => match asLfs s (lvT G e) zc with
    | some (l, []) => collT G e l
    | _ => none
  | none => none
def buildRow (s : St G) (e : Ty) : List Operand → (List (G.D e) → List Nat → Option R) → Option R
  | [], k => k [] []
  | x :: r, k =>
    match asEl s e (s.ev x) with
    | some (y, f) => buildRow s e r fun ys g => k (y :: ys) (f ++ g)
    | none => none
def inOrder : Nat → List (Nat × Operand) → Bool
  | _, [] => true
  | j, (i, _) :: r => Nat.beq i j && inOrder (j + 1) r

def sliceD {α : Type} (xs : List α) : Option Int → Option Int → List α
  | none, none => xs
  | some l, none => xs.drop l.toNat
  | none, some h => xs.take h.toNat
  | some l, some h => (xs.drop l.toNat).take (h.toNat - l.toNat)
def boundsE (n : Nat) : Option Int → Option Int → Bool
  | none, none => true
  | some l, none => decide (0 ≤ l) && decide (l ≤ (n : Int))
  | none, some h => decide (0 ≤ h) && decide (h ≤ (n : Int))
  | some l, some h => decide (0 ≤ l) && decide (l ≤ h) && decide (h ≤ (n : Int))
def intOp (s : St G) : Option Operand → Option (Option Int)
  | none => some none
  | some x => match s.ev x with | .d (.int .i64) n => some (some n) | _ => none

/-! ### trees -/
def treeOp (s : St G) (nid : Nat) (o : Oper) : Bool := match o.op with
  | .load _ a => match s.ev a with | .lfp .. | .spp .. => true | _ => false
  | .indexAddr _ x _ => match s.ev x with | .spn .. | .inn .. => true | _ => false
  | .store _ a _ => match s.ev a with | .lfp .. => true | _ => false
  | .makeSlice .. => E.trees.contains nid
  | .buildSlice .. => E.trees.contains nid
  | .call c => match c.callee with
    | .builtin .append => E.trees.contains nid
    | _ => false
  | _ => false
/-- A type whose values are one cell. -/
def oneCell (P : Program) (t : TypeId) : Bool := match sizeT P t, aggT P t with
  | some 1, some false => true
  | _, _ => false
def castT (e' e : Ty) (xs : List (List (List (G.D e')))) : Option (List (List (List (G.D e)))) := castD (S := G.S) (.sl (.sl (.sl e'))) (.sl (.sl (.sl e))) xs
/-- A row, or a part of one, that may go into a tree. -/
def leafOf (s : St G) (e : Ty) : EV G → Option (Nat × List (G.D e))
  | .ow r => match s.look r with
    | some (.row e' zs 0) => match castD (S := G.S) (.sl e') (.sl e) zs with | some y => some (r, y) | none => none
    | _ => none
  | .vw r lo n => match s.look r with
    | some (.row e' zs 0) => match castD (S := G.S) (.sl e') (.sl e) ((zs.drop lo).take n) with | some y => some (r, y) | none => none
    | _ => none
  | _ => none
def opT (s : St G) (nid : Nat) (o : Oper) (k : EV G → List (Nat × Ent G) → List Nat → Option R) : Option R :=
  match o.op with
  | .load t a => match s.ev a with
    | .spp id i => bif oneCell E.P t then k (.inn id i) [] [] else none
    | .lfp id i j => match s.look id with
      | some (.tree ow e xs none _) => bif isFree s nid && oneCell E.P t then
          (xs[i]?).bind fun ys => (ys[j]?).bind fun zs => k (.ow nid) [(nid, .row e zs 0), (id, .tree ow e xs (some (i, j, some nid)) ys)] [id] else none
      | _ => none
    | _ => none
  | .indexAddr t x ix => match elemT E.P t with
    | none => none
    | some et => match s.ev ix with
      | .d (.int _) (i : Int) => match s.ev x with
        | .spn id n => bif oneCell E.P et then bif decide (0 ≤ i) && decide (i < (n : Int)) then k (.spp id i.toNat) [] [] else none else none
        | .inn id a => match s.look id with
          | some (.tree _ _ xs _ _) => bif oneCell E.P et then (xs[a]?).bind fun ys => bif decide (0 ≤ i) && decide (i < (ys.length : Int)) then k (.lfp id a i.toNat) [] [id] else none else none
          | _ => none
        | _ => none
      | _ => none
  | .store t a x => match s.ev a with
    | .lfp id i j => match s.look id with
      | some (.tree ow e xs (some (i', j', _)) ys) => bif (Nat.beq i' i && Nat.beq j' j) && oneCell E.P t then match leafOf s e (s.ev x) with
          | some (r, zs) => bif Nat.beq r id then none else k .un [(id, .tree ow e (xs.set i (ys.set j zs)) none []), (r, .tomb)] [id, r]
          | none => none
        else none
      | _ => none
    | _ => none
  | .makeSlice t l c => match elemT E.P t with
    | none => none
    | some et => match elemT E.P et, bytesT E.P et, sizeT E.P et, s.ev l, s.ev c with
      | some _, some b, some 1, .d (.int .i64) (l : Int), .d (.int .i64) (c : Int) =>
        bif isFree s nid && Nat.ble 1 b && (match (zeroCells E.P et : Option (List (EV G))) with | some [.nl] => true | _ => false) then
          bif makeOK l c b then k (.ow nid) [(nid, .nils l.toNat)] [] else none
        else none
      | _, _, _, _, _ => none
  | .buildSlice t len parts => match elemT E.P t, parts.toList with
    | some et, [(0, x)] => match s.ev x with
      | .ow id => match s.look id with
        | some (.nils _) => bif isFree s nid && Nat.beq len 1 && oneCell E.P et && (match (zeroCells E.P et : Option (List (EV G))) with | some _ => true | none => false) then k (.ow nid) [(nid, .one (some id))] [id] else none
        | _ => none
      | _ => none
    | _, _ => none
  | .call c => match c.callee with
    | .builtin .append => match c.args.toList, c.argTypes.toList with
      | [x, y], [t, t2] => match elemT E.P t with
        | none => none
        | some et => match ty E.P et, bytesT E.P et, sizeT E.P et, Nat.beq t t2 with
          | some (.sl (.sl e)), some b, some 1, true => match s.ev y with
            | .ow yi => match s.look yi with
              | some (.one (some ki)) => match s.look ki with
                | some (.nils n) =>
                  bif isFree s nid && Nat.ble 1 b && (match (zeroCells E.P et : Option (List (EV G))) with | some zc => Nat.beq zc.length 1 | none => false) then
                    match s.ev x with
                    | .nl => bif appOK 0 1 b then k (.ow nid) [(nid, .tree true e [List.replicate n []] none []), (yi, .tomb), (ki, .tomb)] [yi, ki] else none
                    | .ow xi => match s.look xi with
                      | some (.tree true e' xs none _) => match castT e' e xs with
                        | some xs' => bif appOK xs.length 1 b then k (.ow nid) [(nid, .tree true e (xs' ++ [List.replicate n []]) none []), (yi, .tomb), (ki, .tomb), (xi, .tomb)] [yi, ki, xi] else none
                        | none => none
                      | _ => none
                    | _ => none
                  else none
                | _ => none
              | _ => none
            | _ => none
          | _, _, _, _ => none
      | _, _ => none
    | _ => none
  | _ => none
/-- What is taken out and was not used up is put back. -/
def restOne (s : St G) (id : Nat) : St G := match s.look id with
  | some (.tree ow e xs (some (i, j, some k)) ys) => match s.look k with
    | some (.row e' zs 0) => match castD (S := G.S) (.sl e') (.sl e) zs with
      | some zs' => bif Nat.beq k id then s else s.upd [(id, .tree ow e (xs.set i (ys.set j zs')) none []), (k, .tomb)]
      | none => s
    | _ => s
  | _ => s
def restL (s : St G) : List Nat → St G
  | [] => s
  | i :: l => restL (restOne s i) l
def restAll (s : St G) : St G := restL s (s.en.filterMap fun p => match p.2 with | .tree _ _ _ (some _) _ => some p.1 | _ => none)

def opE (s : St G) (nid : Nat) (o : Oper) (k : EV G → List (Nat × Ent G) → List Nat → Option R) : Option R :=
  match pureOp E.P E.eqs s o with
  | some v => k v [] (pureReads s o)
  | none =>
  bif treeOp E s nid o then opT E s nid o k else
  match o.op with
  | .alloc t => match zeroCells E.P t with
    | some cs => bif isFree s nid && cs.all EV.cell then k (.ptr nid 0) [(nid, .box cs)] [] else none
    | none => none
  | .box t x => match sizeT E.P t with
    | some n => bif isFree s nid && (s.ev x).cells.all EV.cell && Nat.beq (s.ev x).cells.length n then k (.ptr nid 0) [(nid, .box (s.ev x).cells)] [] else none
    | none => none
  | .store t a x => match s.ev a, sizeT E.P t with
    | .ptr i off, some n => match s.look i with
      | some (.box cs) =>
        bif Nat.beq (s.ev x).cells.length n && Nat.ble (off + n) cs.length && (s.ev x).cells.all EV.cell then k .un [(i, .box (splice cs off (s.ev x).cells))] [i] else none
      | _ => none
    | .ept i j off, some n => match s.look i with
      | some (.row e xs lock) =>
        bif !lockOK lock j then none else
        bif Nat.beq off 0 && Nat.beq n (szT G e) then
          match asEl s e (s.ev x) with
          | some (y, f) => bif f.contains i then none else k .un ((i, .row e (xs.set j y) lock) :: frz s f) (i :: (f ++ (s.ev x).ids))
          | none => none
        else match asLfs s (((lvT G e).drop off).take n) (s.ev x).cells with
          | some (l, f) => bif f.contains i || !(Nat.beq l.length n && Nat.ble (off + n) (szT G e)) then none else
            (xs[j]?).bind fun z => (collT G e (splice (cellsT G e z) off l)).bind fun y => k .un ((i, .row e (xs.set j y) lock) :: frz s f) (i :: (f ++ (s.ev x).ids))
          | none => none
      | some (.fill e xs cs zc m t) =>
        bif (Nat.beq (s.ev x).cells.length n && Nat.ble (off + n) cs.length && (s.ev x).cells.all EV.cell) && Nat.beq j xs.length then k .un [(i, .fill e xs (splice cs off (s.ev x).cells) zc m t)] [i] else none
      | _ => none
    | _, _ => none
  | .load t a => match s.ev a, sizeT E.P t with
    | .ept i j off, some n => match s.look i with
      | some (.row e xs _) => (xs[j]?).bind fun z => match part E.P t n off ((cellsT G e z).map lfEV) with | some v => k v [] [i] | none => none
      | some (.fill _ xs cs _ _ _) => bif Nat.beq j xs.length then (match part E.P t n off cs with | some v => k v [] [i] | none => none) else none
      | _ => none
    | _, _ => none
  | .indexAddr t x ix => match elemT E.P t with
    | none => none
    | some et => match s.ev ix with
      | .d (.int _) (i : Int) => match s.ev x with
        | .d (.sl e) xs => bif decide (sizeT E.P et = some (szT G e)) then (ixo xs i).bind fun y => k (.rp e y 0) [] [] else none
        | .ow id => match s.look id with
          | some (.row e xs _) => bif decide (sizeT E.P et = some (szT G e)) then bif decide (0 ≤ i) && decide (i < (xs.length : Int)) then k (.ept id i.toNat 0) [] [id] else none else none
          | some (.fz e xs) => bif decide (sizeT E.P et = some (szT G e)) then (ixo xs i).bind fun y => k (.rp e y 0) [] [id] else none
          | some (.fill e xs cs zc n _) => bif decide (sizeT E.P et = some (szT G e)) && (decide (0 ≤ i) && (Nat.beq i.toNat xs.length && Nat.blt xs.length n)) then
              k (.ept id i.toNat 0) [(id, .fill e xs cs zc n true)] [id] else none
          | _ => none
        | .vw id lo n => match s.look id with
          | some (.row e _ _) => bif decide (sizeT E.P et = some (szT G e)) then bif decide (0 ≤ i) && decide (i < (n : Int)) then k (.ept id (lo + i.toNat) 0) [] [id] else none else none
          | some (.fz e xs) => bif decide (sizeT E.P et = some (szT G e)) then (ixo ((xs.drop lo).take n) i).bind fun y => k (.rp e y 0) [] [id] else none
          | _ => none
        | _ => none
      | _ => none
  | .index t x ix => match s.ev x, s.ev ix, E.P.underlying t with
    | .d .str b, .d (.int _) (i : Int), some .string => (ixo (b : ByteArray).data.toList i).bind fun y => k (.d (.int .u8) ((y.toNat : Nat) : Int)) [] []
    | _, _, _ => none
  | .makeSlice t l c => match elemT E.P t with
    | none => none
    | some et => match ty E.P et, bytesT E.P et, sizeT E.P et, s.ev l, s.ev c with
      | some e, some b, some z, .d (.int .i64) (l : Int), .d (.int .i64) (c : Int) =>
        bif isFree s nid && Nat.beq z (szT G e) && Nat.ble 1 b then
          bif makeOK l c b then
            bif E.fills.contains nid then match zeroCells E.P et with | some zc => bif Nat.beq zc.length z && Nat.ble 1 z then k (.ow nid) [(nid, .fill e [] zc zc l.toNat false)] [] else none | none => none
            else match zeroEl E.P s e et with | some y => k (.ow nid) [(nid, .row e (List.replicate l.toNat y) 0)] [] | none => none
          else none
        else none
      | _, _, _, _, _ => none
  | .buildSlice t len parts => match elemT E.P t with
    | none => none
    | some et => match ty E.P et, sizeT E.P et with
      | some e, some z => bif isFree s nid && Nat.beq z (szT G e) && Nat.ble (len * z) 16777216 && inOrder 0 parts.toList && Nat.beq parts.toList.length len && (match (zeroCells E.P et : Option (List (EV G))) with | some _ => true | none => Nat.beq (len * z) 0) then
          buildRow s e (parts.toList.map (·.2)) fun xs f => k (.ow nid) ((nid, .row e xs 0) :: frz s f) (EV.idss (parts.toList.map fun p => s.ev p.2) ++ f)
        else none
      | _, _ => none
  | .slice t x lo hi mx => match mx with
    | some _ => none
    | none => match intOp s lo, intOp s hi with
      | some l, some h => match s.ev x, E.P.underlying t with
        | .d .str b, some .string => bif boundsE (b : ByteArray).size l h then
            k (.d .str ((b : ByteArray).extract (match l with | some l => l.toNat | none => 0) (match h with | some h => h.toNat | none => (b : ByteArray).size))) [] [] else none
        | .d (.sl e) xs, some (.slice et) => bif decide (sizeT E.P et = some (szT G e)) then bif boundsE xs.length l h then k (.d (.sl e) (sliceD xs l h)) [] [] else none else none
        | .nl, some (.slice et) => bif (match sizeT E.P et with | some _ => true | none => false) then bif boundsE 0 l h then k .nl [] [] else none else none
        | .ow id, some (.slice et) => match s.look id with
          | some (.row e xs _) => bif decide (sizeT E.P et = some (szT G e)) then bif boundsE xs.length l h then
              k (.vw id (match l with | some l => l.toNat | none => 0) ((match h with | some h => h.toNat | none => xs.length) - (match l with | some l => l.toNat | none => 0))) [] [id] else none else none
          | _ => none
        | .vw id lo n, some (.slice et) => match s.look id with
          | some (.row e _ _) => bif decide (sizeT E.P et = some (szT G e)) then bif boundsE n l h then
              k (.vw id (lo + (match l with | some l => l.toNat | none => 0)) ((match h with | some h => h.toNat | none => n) - (match l with | some l => l.toNat | none => 0))) [] [id] else none else none
          | _ => none
        | _, _ => none
      | _, _ => none
  | .binOp op _ x y _ => match s.ev x, s.ev y with
    | .d (.int kx) (a : Int), .d (.int ky) (b : Int) => match op with
      | .quo => bif decide (kx = ky) then bif b == 0 then none else k (.d (.int kx) (kx.wrap (a.tdiv b))) [] [] else none
      | .rem => bif decide (kx = ky) then bif b == 0 then none else k (.d (.int kx) (a.tmod b)) [] [] else none
      | .shl => bif decide (b < 0) then none else k (.d (.int kx) (kx.wrap (a * 2 ^ (min b.toNat kx.bits)))) [] []
      | .shr => bif decide (b < 0) then none else k (.d (.int kx) (a.fdiv (2 ^ (min b.toNat kx.bits)))) [] []
      | _ => none
    | .d .str a, .d .str b => match op with
      | .add => bif decide (((a : ByteArray).size : Int) + (b : ByteArray).size ≤ 9223372036854775807) then k (.d .str (sCat a b)) [] [] else none
      | _ => none
    | _, _ => none
  | .call c => match c.callee with
    | .value f => match s.ev f with
      | .fn g caps => callE E s nid g (c.args.toList.map s.ev ++ caps) k
      | _ => none
    | .builtin .append => match c.args.toList, c.argTypes.toList with
      | [x, y], [t, t2] => match elemT E.P t with
        | none => none
        | some et => match ty E.P et, bytesT E.P et, sizeT E.P et, Nat.beq t t2 with
          | some e, some b, some z, true =>
            match baseOf s (E.keeps.contains nid) e (s.ev x) with
            | none => none
            | some (xs, lock, used) => match rowOf s e (s.ev y) with
              | none => none
              | some ys =>
                bif isFree s nid && Nat.beq z (szT G e) && Nat.ble 1 z && Nat.ble 1 b && (match (zeroCells E.P et : Option (List (EV G))) with | some zc => Nat.beq zc.length z | none => false) then
                  bif appOK xs.length ys.length b then k (.ow nid) ((nid, .row e (xs ++ ys) lock) :: used) ((s.ev x).ids ++ (s.ev y).ids) else none
                else none
          | _, _, _, _ => none
      | _, _ => none
    | _ => none
  | _ => none

/-! ### regions -/
abbrev Tr := List (Nat × List Nat × List Nat)     -- the operation; what it looked at; what it wrote

def okDst (o : Oper) : Bool := match o.dst with | some d => Nat.blt d E.nt | none => true

def opsE (rid : Nat) (ops : Array Oper) : List Nat → St G → Tr → (St G → Tr → Option R) → Option R
  | [], s, tr, k => k s tr
  | i :: rest, s, tr, k =>
    match ops[i]? with
    | none => opsE rid ops rest s tr k
    | some o =>
      bif !okDst E o then none else
      match o.guard with
      | none => opE E s ((rid * 1000 + i + 1) * 1000) o fun v up rd => opsE rid ops rest ((s.upd up).put o.dst v) ((i, rd, up.map (·.1)) :: tr) k
      | some (j, want) =>
        match ops[j]? with
        | some oj => match oj.dst with
          | some g => match s.get g with
            | .un => opsE rid ops rest (s.put o.dst .un) ((i, [], []) :: tr) k
            | .d .bool c =>
              bif c then
                bif want then opE E (s.put (some g) (.d .bool true)) ((rid * 1000 + i + 1) * 1000) o fun v up rd => opsE rid ops rest (((s.put (some g) (.d .bool true)).upd up).put o.dst v) ((i, rd, up.map (·.1)) :: tr) k
                else opsE rid ops rest ((s.put (some g) (.d .bool true)).put o.dst .un) ((i, [], []) :: tr) k
              else
                bif want then opsE rid ops rest ((s.put (some g) (.d .bool false)).put o.dst .un) ((i, [], []) :: tr) k
                else opE E (s.put (some g) (.d .bool false)) ((rid * 1000 + i + 1) * 1000) o fun v up rd => opsE rid ops rest (((s.put (some g) (.d .bool false)).upd up).put o.dst v) ((i, rd, up.map (·.1)) :: tr) k
            | _ => none
          | none => none
        | none => none

def mergeTm (c : Bool) (s1 s2 : St G) (base : List (Nat × EV G)) : List Nat → List (Nat × EV G)
  | [] => base
  | t :: l => (t, pickE c (s1.get t) (s2.get t)) :: mergeTm c s1 s2 base l

/-- A region all of whose operations go without a condition: one answer, where guards part and meet again. 'known': the guards that are decided. -/
def opsP (ops : Array Oper) : List Nat → List (Nat × Bool) → St G → Option (St G)
  | [], _, s => some s
  | i :: rest, kn, s =>
    match ops[i]? with
    | none => opsP ops rest kn s
    | some o =>
      bif !okDst E o then none else
      match o.guard with
      | none => match pureOp E.P E.eqs s o with
        | some v => opsP ops rest kn (s.put o.dst v)
        | none => none
      | some (j, want) =>
        match ops[j]? with
        | some oj => match oj.dst with
          | some g => match lookT kn g with
            | some c => match s.get g with
              | .d .bool c' => bif bEq c' c then
                  bif bEq c want then (match pureOp E.P E.eqs s o with
                    | some v => opsP ops rest kn (s.put o.dst v)
                    | none => none)
                  else opsP ops rest kn (s.put o.dst .un)
                else none
              | _ => none
            | none => match s.get g with
              | .un => opsP ops rest kn (s.put o.dst .un)
              | .d .bool c =>
                match (match pureOp E.P E.eqs (s.put (some g) (.d .bool want)) o with
                  | some v => opsP ops rest ((g, want) :: kn) ((s.put (some g) (.d .bool want)).put o.dst v)
                  | none => none), opsP ops rest ((g, !want) :: kn) ((s.put (some g) (.d .bool (!want))).put o.dst .un) with
                | some s1, some s2 => some { s with tm := (match want with | true => mergeTm c s1 s2 s.tm (ops.toList.filterMap (·.dst)) | false => mergeTm c s2 s1 s.tm (ops.toList.filterMap (·.dst))) }
                | _, _ => none
              | _ => none
          | none => none
        | none => none

def meets (l m : List Nat) : Bool := l.any fun i => m.contains i
def forceN {α : Type} (n : Nat) (k : Nat → α) : α := match n with | 0 => k 0 | n + 1 => k (n + 1)
def preOf (acc : List Nat) : List Edge → Nat
  | [] => 0
  | e :: r => bif Region.binds .any e then 2 ^ e.on ||| (match acc[e.on]? with | some n => n | none => 0) ||| preOf acc r else preOf acc r
/-- For each operation, as a number: the ones that come before it in every order. -/
def preds : List Oper → List Nat → List Nat
  | [], acc => acc
  | o :: r, acc => forceN (preOf acc o.after.toList) fun n => preds r (acc ++ [n])
def backOK : Nat → List Oper → Bool
  | _, [] => true
  | j, o :: r => o.after.toList.all (fun e => !Region.binds .any e || Nat.blt e.on j) && backOK (j + 1) r
def apartB (ops : Array Oper) (i j : Nat) : Bool :=
  match ops[i]?, ops[j]? with
  | some x, some y => x.apart ops y
  | _, _ => false
/-- Whatever order the edges leave open turns nothing. -/
def trOK (ops : Array Oper) (pre : List Nat) : Tr → Bool
  | [] => true
  | (i, rd, wr) :: r => (r.all fun (j, rd', wr') => (match pre[i]? with | some n => n.testBit j | none => false) || (apartB ops j i && !(meets wr (rd' ++ wr') || meets wr' rd))) && trOK ops pre r
def orderOK (ops : Array Oper) (tr : Tr) : Bool := backOK 0 ops.toList && trOK ops (preds ops.toList []) tr

/-! ### code -/
def firstRegion : Code → Option Nat
  | .region id _ _ => some id
  | .seq a b => match firstRegion a with | some i => some i | none => firstRegion b
  | .block _ b => firstRegion b
  | .loop b => firstRegion b
  | .cond _ a b => match firstRegion a with | some i => some i | none => firstRegion b
  | .scope b => firstRegion b
  | _ => none

/-- An entry, under another name. -/
def Ent.again : Ent G → Option (Ent G)
  | .row e xs lock => some (.row e xs lock)
  | .tree o e xs none _ => some (.tree o e xs none [])
  | _ => none
def nilEnt (trs : List Nat) (cid : Nat) (e : Ty) : Ent G := bif trs.contains cid then (match e with | .sl (.sl e') => .tree true e' [] none [] | e => .row e [] 0) else .row e [] 0
def rowsOf (trs : List Nat) (s : St G) : List ((Nat × Option Nat) × Nat × Ty) → Option (List (Nat × Nat) × List (Nat × Ent G))
  | [] => some ([], [])
  | ((a, off), cid, e) :: r =>
    match rowsOf trs s r with
    | none => none
    | some (ren, new) =>
      let v := match off with
        | none => s.get a
        | some o => match s.look a with | some (.box cs) => (match cs[o]? with | some v => v | none => .u) | some (.fill _ _ cs _ _ _) => (match cs[o]? with | some v => v | none => .u) | _ => .u
      match v with
      | .nl => some (ren, (cid, nilEnt trs cid e) :: new)
      | .ow id => match s.look id with
        | some e0 => match e0.again with
          | some e1 => bif ren.any (fun p => Nat.beq p.1 id) then none else some ((id, cid) :: ren, (cid, e1) :: new)
          | none => none
        | none => none
      | _ => none
def placeRow (rows : List ((Nat × Option Nat) × Nat × Ty)) (a : Nat) (off : Option Nat) : Option Nat :=
  match rows with
  | [] => none
  | ((b, o), cid, _) :: r => bif Nat.beq a b && decide (off = o) then some cid else placeRow r a off
def canonCells (rows : List ((Nat × Option Nat) × Nat × Ty)) (ρ : Nat → Option Nat) (id : Nat) : Nat → List (EV G) → List (EV G)
  | _, [] => []
  | o, v :: l => (match placeRow rows id (some o) with | some cid => .ow cid | none => v.rn ρ) :: canonCells rows ρ id (o + 1) l
def canonTm (s : St G) (rows : List ((Nat × Option Nat) × Nat × Ty)) (ρ : Nat → Option Nat) : List Nat → List (Nat × EV G)
  | [] => []
  | t :: l => (t, match placeRow rows t none with | some cid => .ow cid | none => (s.get t).rn ρ) :: canonTm s rows ρ l
def canonBoxes (s : St G) (rows : List ((Nat × Option Nat) × Nat × Ty)) (ρ : Nat → Option Nat) : List Nat → Option (List (Nat × Ent G))
  | [] => some []
  | i :: l => match s.look i with
    | some (.box cs) => match canonBoxes s rows ρ l with
      | some m => some ((i, .box (canonCells rows ρ i 0 cs)) :: m)
      | none => none
    | some (.fill e xs cs zc n _) => match canonBoxes s rows ρ l with
      | some m => some ((i, .fill e xs (canonCells rows ρ i 0 cs) zc n false) :: m)
      | none => none
    | some (.tree o e xs none _) => match canonBoxes s rows ρ l with
      | some m => some ((i, .tree o e xs none []) :: m)
      | none => none
    | _ => none
def nodupB : List Nat → Bool
  | [] => true
  | i :: l => !l.contains i && nodupB l
def zipT {α : Type} : List Nat → List α → List (Nat × α)
  | i :: l, e :: m => (i, e) :: zipT l m
  | _, _ => []
/-- The state of what is kept, by the values and the entries alone. -/
def Keep.st (kp : Keep) (vs : List (EV G)) (es : List (Ent G)) : St G := { tm := zipT kp.slots vs, en := zipT (kp.boxes ++ kp.rows.map (·.2.1)) es ++ kp.tombs.map fun i => (i, .tomb) }
/-- A state told anew by what is kept of it. -/
def canon0 (m : Nat) (kp : Keep) (s : St G) : Option (St G) :=
  match rowsOf kp.trs s kp.rows with
  | none => none
  | some (ren, new) =>
    let ρ := fun i => bif kp.boxes.contains i then some i else lookT ren i
    match canonBoxes s kp.rows ρ kp.boxes with
    | none => none
    | some bx =>
      bif nodupB (kp.boxes ++ (kp.rows.map (·.2.1) ++ kp.tombs)) && ren.all (fun p => !kp.boxes.contains p.1) && kp.tombs.all (fun i => match s.look i with | some _ => true | none => false) && (List.range m).all (fun i => kp.boxes.contains i || kp.tombs.contains i || (match lookT ren i with | some j => Nat.beq j i | none => false)) then some { tm := canonTm s kp.rows ρ kp.slots, en := bx ++ new ++ kp.tombs.map fun i => (i, .tomb) } else none

/-- Two names change places. -/
def swapN (a b i : Nat) : Nat := bif Nat.beq i a then b else bif Nat.beq i b then a else i
def St.swap (a b : Nat) (s : St G) : St G := { tm := s.tm.map fun p => (p.1, p.2.rn fun i => some (swapN a b i)), en := s.en.map fun p => (swapN a b p.1, p.2.rn fun i => some (swapN a b i)) }
def swaps (m : Nat) : List (Nat × Nat) → St G → St G
  | [], s => s
  | (t, c) :: l, s => match s.get t with
    | .ptr i _ => bif Nat.ble m i && Nat.ble m c then swaps m l (s.swap i c) else swaps m l s
    | _ => swaps m l s
/-- Parts of own rows become rows. -/
def cuts : List (Nat × Nat) → St G → St G
  | [], s => s
  | (t, c) :: l, s => match s.get t with
    | .vw i lo n => (match s.look i with
      | some (.row e xs lock) => (match s.look c with
        | none => bif lockOK lock (lo + n) then cuts l { tm := (t, .ow c) :: s.tm, en := (c, .row e ((xs.drop lo).take n) (lock - lo)) :: (i, .tomb) :: s.en } else cuts l s
        | some _ => cuts l s)
      | _ => cuts l s)
    | _ => cuts l s
/-- The place that was being filled is done. -/
def closes : List Nat → St G → St G
  | [], s => s
  | i :: l, s => match s.look i with
    | some (.fill e xs cs zc n true) => (match asEl s e (.ag cs) with
      | some (y, f) => bif f.contains i then closes l s else closes l (s.upd ((i, .fill e (xs ++ [y]) zc zc n false) :: frz s f))
      | none => closes l s)
    | _ => closes l s
/-- What is filled so far, and zeros: a row. -/
def fins : List Nat → St G → St G
  | [], s => s
  | i :: l, s => match s.look i with
    | some (.fill e xs cs zc n _) => (match asEl s e (.ag cs), asEl s e (.ag zc) with
      | some (y, f), some (z, []) => bif f.contains i then fins l s else fins l (s.upd ((i, .row e ((xs ++ y :: List.replicate (n - (xs.length + 1)) z).take n) 0) :: frz s f))
      | _, _ => fins l s)
    | _ => fins l s
/-- The outer slice of a tree is done. -/
def frsts : List (Nat × Nat) → St G → St G
  | [], s => s
  | (i, off) :: l, s => match s.look i with
    | some (.box cs) => (match cs[off]? with
      | some (.ow b) => (match s.look b with
        | some (.tree true e xs none _) => bif Nat.beq i b then frsts l s else frsts l (s.upd [(i, .box (cs.set off (.spn b xs.length))), (b, .tree false e xs none [])])
        | _ => frsts l s)
      | _ => frsts l s)
    | _ => frsts l s
def canon (m : Nat) (kp : Keep) (s : St G) : Option (St G) := canon0 m kp (frsts kp.frs (fins kp.fin (closes kp.cls (cuts kp.cut (swaps m kp.mv s)))))

def exec : Code → St G → (Ex → St G → Option R) → Option R
  | .skip, s, k => k .normal s
  | .region id ops draw, s, k =>
    match opsP E ops (List.range ops.size) [] s with
    | some s' => bif !draw || orderOK ops ((List.range ops.size).reverse.map fun i => (i, [], [])) then k .normal s' else none
    | none => opsE E id ops (List.range ops.size) s [] fun s' tr =>
      bif !draw || orderOK ops tr then k .normal (bif E.tr then restAll s' else s') else none
  | .seq a b, s, k => exec a s fun e s' => match e with | .normal => exec b s' k | e => k e s'
  | .cond c a b, s, k => match s.ev c with
    | .d .bool t => bif t then exec a s k else exec b s k
    | _ => none
  | .block id c, s, k => exec c s fun e s' => match e with
    | .exit j => bif Nat.beq j id then k .normal s' else k (.exit j) s'
    | e => k e s'
  | .loop c, s, k => match firstRegion c with
    | none => none
    | some key => match E.loops key with
      | none => none
      | some T => match canon E.m T.keep s with
        | none => none
        | some s' => T.sem R (s'.tm.map (·.2)) ((s'.en.map (·.2)).take (T.keep.boxes.length + T.keep.rows.length)) k
  | .exit id, s, k => k (.exit id) s
  | .ret, s, k => k .ret s
  | _, _, _ => none
end

/-! ### functions -/
/-- A result's cells: how each slice is handed over: as an own row, or as data. -/
inductive Md where
  | own (e : Ty)
  | dat (e : Ty)
  | asis

def resCell (s : St G) (nid : Nat) : Md → EV G → Option (EV G × List (Nat × Ent G))
  | .asis, v => some (v, [])
  | .dat e, v => match asD s (.sl e) v with | some (x, f) => some (.d (.sl e) x, frz s f) | none => none
  | .own _, .ow i => match s.look i with | some (.row ..) => some (.ow i, []) | _ => none
  | .own e, .nl => match s.look nid with | none => some (.ow nid, [(nid, .row e [] 0)]) | some _ => none
  | .own e, .vw i lo n => match s.look i with | some (.row e' _ _) => bif decide (e' = e) then some (.vw i lo n, []) else none | _ => none
  | .own _, _ => none
def resCells (s : St G) : Nat → List Md → List (EV G) → Option (List (EV G) × List (Nat × Ent G))
  | _, [], [] => some ([], [])
  | n, md :: ms, v :: vs => match resCell s n md v with
    | some (x, up) => match resCells s (n + 1) ms vs with
      | some (l, up') => some (x :: l, up ++ up')
      | none => none
    | none => none
  | _, _, _ => none
def oneV : List (EV G) → EV G
  | [x] => x
  | _ => .u
def reV (v : EV G) (cs : List (EV G)) : EV G := match v with | .ag _ => .ag cs | _ => oneV cs
def resVals (s : St G) : Nat → List (List Md) → List (EV G) → Option (List (EV G) × List (Nat × Ent G))
  | _, [], [] => some ([], [])
  | n, md :: ms, v :: vs =>
    match resCells s n md v.cells with
    | some (cs, up) => match resVals s (n + 1000) ms vs with
      | some (l, up') => some (reV v cs :: l, up ++ up')
      | none => none
    | none => none
  | _, _, _ => none
def resVars (P : Program) (s : St G) : List ResultVar → Option (List (EV G))
  | [] => some []
  | .tmp t :: r => match resVars P s r with | some l => some (s.get t :: l) | none => none
  | .cell a t :: r => match loadE P s t (s.get a) with
    | some v => match resVars P s r with | some l => some (v :: l) | none => none
    | none => none
def tup : List (EV G) → EV G
  | [v] => v
  | l => .tp l
def numbers : Nat → Nat → List Nat
  | 0, _ => []
  | n + 1, i => i :: numbers n (i + 1)

/-- What a function hands back: its results, the entries that it was lent, those that are new. -/
def retE {R : Type} (P : Program) (m : Nat) (rv : List ResultVar) (md : List (List Md)) (s : St G) (k : EV G → List (Ent G) → List (Ent G) → Option R) : Option R :=
  match resVars P s rv with
  | none => none
  | some vs => match resVals s 1000000000000 md vs with
    | none => none
    | some (ws, up) =>
      let s' := s.upd up
      let lent := numbers m 0
      let a := addNew lent (EV.idss ws)
      let b := addNew a (entIds s' a)
      let c := addNew b (entIds s' b)
      let L := addNew c (entIds s' c)
      match looks s' L with
      | none => none
      | some es =>
        bif (entIds s' L).any (fun i => !L.contains i) then none
        else
          let ρ := fun i => indexOf i L 0
          let es' := es.map (Ent.rn ρ)
          k (tup (EV.rns ρ ws)) (es'.take m) (es'.drop m)

def slots : Nat → List (EV G) → List (Nat × EV G)
  | _, [] => []
  | n, v :: l => (n, v) :: slots (n + 1) l

structure FnA where
  md : List (List Md)

/-- Handing back, out of a state that is told anew first. -/
def retK {R : Type} (P : Program) (m : Nat) (rv : List ResultVar) (md : List (List Md)) (kr : Option Keep) (s : St G) (k : EV G → List (Ent G) → List (Ent G) → Option R) : Option R :=
  match kr with
  | none => retE P m rv md s k
  | some kp => match canon m kp s with
    | none => none
    | some s' => retE P m rv md s' k

/-- A call of a function, in full. -/
def runE {R : Type} (E : Env G) (fn : Func) (md : List (List Md)) (kr : Option Keep) (args : List (EV G)) (outer : List (Ent G)) (k : EV G → List (Ent G) → List (Ent G) → Option R) : Option R :=
  match fn.body with
  | none => none
  | some c => exec E c { tm := slots 0 args, en := number 0 outer } fun e s =>
    match e with
    | .exit _ => none
    | _ => retK E.P outer.length fn.results.toList md kr s k
end Go.Abs
end
section
set_option linter.all false
set_option linter.unusedVariables false
set_option linter.unusedSimpArgs false
set_option linter.unnecessarySimpa false
/-
  ABS, part 3: what the evaluator's values mean in memory.
-/
namespace Go.Abs
open Go
variable {G : Gam}

/-- Cells: block and place. -/
abbrev Cells := Nat → Nat → Prop

mutual
/-- Data of type τ: its cells' values; what they lead to lies in 'ok' cells. -/
inductive RepD (G : Gam) (ok : Cells) (w : World) : (τ : Ty) → G.D τ → List Value → Prop
  | int (k : IntKind) (n : Int) : RepD G ok w (.int k) n [.int k n]
  | bool (b : Bool) : RepD G ok w .bool b [.bool b]
  | str (s : ByteArray) : RepD G ok w .str s [.string s]
  | sl (e : Ty) (xs : List (G.D e)) (A : Option Addr) (c : Nat) (css : Nat → List Value) (hc : xs.length ≤ c) (hA : c = 0 ∨ ∃ a, A = some a)
      (he : ∀ i (h : i < xs.length), RepD G ok w e xs[i] (css i))
      (hm : ∀ i, i < xs.length → ∃ b o, A = some ⟨b, o, none⟩ ∧
        ∀ j v, (css i)[j]? = some v → ok b (o + (i * szT G e + j)) ∧ w.cell? ⟨b, o + (i * szT G e + j), none⟩ = some v) :
      RepD G ok w (.sl e) xs [.slice A xs.length c]
  | sn (e : Ty) (xs : List (G.D e)) (A : Addr) (c : Nat) (h : RepD G ok w (.sl e) xs [.slice (some A) xs.length c]) : RepD G ok w (.sn e) xs [.slice (some A) xs.length c]
  | st (t : TypeId) (x : G.S t) (cs : List Value) (h : RepL G ok w (G.cells t x) cs) : RepD G ok w (.st t) x cs
inductive RepL (G : Gam) (ok : Cells) (w : World) : List (Lf G.S) → List Value → Prop
  | nil : RepL G ok w [] []
  | cons (τ : Ty) (x : G.D τ) (v : Value) (l : List (Lf G.S)) (vs : List Value) (h : RepD G ok w τ x [v]) (t : RepL G ok w l vs) :
      RepL G ok w (.mk τ x :: l) (v :: vs)
end

/-- 'Inside ok the new memory is as the old one was.' -/
def Keeps (ok ok' : Cells) (w w' : World) : Prop :=
  ∀ b o v, ok b o → w.cell? ⟨b, o, none⟩ = some v → ok' b o ∧ w'.cell? ⟨b, o, none⟩ = some v

mutual
theorem RepD.mono {ok ok' : Cells} {w w' : World} (k : Keeps ok ok' w w') : ∀ {τ : Ty} {x : G.D τ} {cs : List Value}, RepD G ok w τ x cs → RepD G ok' w' τ x cs
  | _, _, _, .int k n => .int k n
  | _, _, _, .bool b => .bool b
  | _, _, _, .str s => .str s
  | _, _, _, .sl e xs A c css hc hA he hm => .sl e xs A c css hc hA (fun i h => (he i h).mono k) fun i h => by
      obtain ⟨b, o, ha, hv⟩ := hm i h
      exact ⟨b, o, ha, fun j v hj => k _ _ _ (hv j v hj).1 (hv j v hj).2⟩
  | _, _, _, .sn e xs A c h => .sn e xs A c (h.mono k)
  | _, _, _, .st t x cs h => .st t x cs (h.mono k)
theorem RepL.mono {ok ok' : Cells} {w w' : World} (k : Keeps ok ok' w w') : ∀ {l : List (Lf G.S)} {cs : List Value}, RepL G ok w l cs → RepL G ok' w' l cs
  | _, _, .nil => .nil
  | _, _, .cons τ x v l vs h t => .cons τ x v l vs (h.mono k) (t.mono k)
end

/-- A cell's value: what may be stored. -/
def CellV : Value → Prop
  | .agg _ | .tuple _ => False
  | _ => True

theorem RepL.length {ok : Cells} {w : World} {l : List (Lf G.S)} {cs : List Value} (h : RepL G ok w l cs) : cs.length = l.length := by
  induction l generalizing cs with
  | nil => cases h; rfl
  | cons a l ih => cases h; simp [ih ‹_›]

/-- What a representation says, case by case. -/
def RepD.Inv (G : Gam) (ok : Cells) (w : World) : (τ : Ty) → G.D τ → List Value → Prop
  | .int k, n, cs => cs = [.int k n]
  | .bool, b, cs => cs = [.bool b]
  | .str, s, cs => cs = [.string s]
  | .sl e, (xs : List (G.D e)), cs => ∃ (A : Option Addr) (c : Nat) (css : Nat → List Value), cs = [.slice A xs.length c] ∧ xs.length ≤ c ∧ (c = 0 ∨ ∃ a, A = some a) ∧ (∀ i (h : i < xs.length), RepD G ok w e xs[i] (css i)) ∧
      ∀ i, i < xs.length → ∃ b o, A = some ⟨b, o, none⟩ ∧
        ∀ j v, (css i)[j]? = some v → ok b (o + (i * szT G e + j)) ∧ w.cell? ⟨b, o + (i * szT G e + j), none⟩ = some v
  | .sn e, (xs : List (G.D e)), cs => ∃ (A : Addr) (c : Nat), cs = [.slice (some A) xs.length c] ∧ RepD G ok w (.sl e) xs cs
  | .st t, x, cs => RepL G ok w (G.cells t x) cs
theorem RepD.inv {ok : Cells} {w : World} {τ : Ty} {x : G.D τ} {cs : List Value} (h : RepD G ok w τ x cs) : RepD.Inv G ok w τ x cs := by
  cases h with
  | int => rfl
  | bool => rfl
  | str => rfl
  | sl e xs A c css hc hA he hm => exact ⟨A, c, css, rfl, hc, hA, he, hm⟩
  | sn e xs A c h => exact ⟨A, c, rfl, h⟩
  | st t x cs h => exact h

theorem RepD.length {ok : Cells} {w : World} {τ : Ty} {x : G.D τ} {cs : List Value} (h : RepD G ok w τ x cs) : cs.length = szT G τ := by
  cases h with
  | st t x cs h =>
    rw [h.length]
    have := congrArg List.length (G.tys t x)
    simpa [szT] using this
  | _ => rfl

/-- Cells of a value, each with its own data. -/
theorem RepD.cells {ok : Cells} {w : World} {τ : Ty} {x : G.D τ} {cs : List Value} (h : RepD G ok w τ x cs) : RepL G ok w (cellsT G τ x) cs := by
  cases h with
  | st t x cs h => exact h
  | int k n => exact .cons _ _ _ _ _ (.int k n) .nil
  | bool b => exact .cons _ _ _ _ _ (.bool b) .nil
  | str s => exact .cons _ _ _ _ _ (.str s) .nil
  | sl e xs A c css hc hA he hm => exact .cons _ _ _ _ _ (.sl e xs A c css hc hA he hm) .nil
  | sn e xs A c h => exact .cons _ _ _ _ _ (.sn e xs A c h) .nil

theorem castD_eq {S : TypeId → Type} {τ τ' : Ty} {x : Abs.D S τ} {y : Abs.D S τ'} (h : castD τ τ' x = some y) : ∃ e : τ = τ', e ▸ x = y := by
  unfold castD at h
  split at h
  · rename_i e; exact ⟨e, Option.some.inj h⟩
  · cases h

theorem coll1_eq {S : TypeId → Type} {τ : Ty} {l : List (Lf S)} {x : Abs.D S τ} (h : coll1 τ l = some x) : l = [.mk τ x] := by
  unfold coll1 at h
  split at h
  · obtain ⟨e, he⟩ := castD_eq h; subst e; subst he; rfl
  · cases h
theorem collT_leaf {τ : Ty} {l : List (Lf G.S)} {x : G.D τ} (hl : τ.leaf = true) (h : collT G τ l = some x) : l = [.mk τ x] := by
  cases τ with
  | st t => cases hl
  | int k => exact coll1_eq h
  | bool => exact coll1_eq h
  | str => exact coll1_eq h
  | sl e => exact coll1_eq h
  | sn e => exact coll1_eq h
theorem RepD.ofCells {ok : Cells} {w : World} {τ : Ty} {x : G.D τ} {l : List (Lf G.S)} {cs : List Value} (hc : collT G τ l = some x) (h : RepL G ok w l cs) : RepD G ok w τ x cs := by
  by_cases hl : τ.leaf = true
  · obtain rfl := collT_leaf hl hc
    cases h with | cons _ _ _ _ _ hx ht => cases ht; exact hx
  · cases τ with
    | st t => exact .st t x cs ((G.law t l x hc) ▸ h)
    | _ => exact absurd rfl hl

theorem cellV_of {ok : Cells} {w : World} {τ : Ty} {x : G.D τ} {v : Value} (hl : τ.leaf = true) (h : RepD G ok w τ x [v]) : CellV v := by
  have := h.inv
  cases τ with
  | st t => cases hl
  | int k => simp [RepD.Inv] at this; subst this; trivial
  | bool => simp [RepD.Inv] at this; subst this; trivial
  | str => simp [RepD.Inv] at this; subst this; trivial
  | sl e => obtain ⟨A, c, css, hcs, _⟩ := this; simp at hcs; subst hcs; trivial
  | sn e => obtain ⟨A, c, hcs, _⟩ := this; simp at hcs; subst hcs; trivial

/-! ### values -/
/-- Where an entry lies: its block, the first cell, an element's cells, its places, its elements. -/
structure Loc where
  b : Nat
  off : Nat
  sz : Nat
  cap : Nat
  len : Nat
  bs : Nat → Nat → Prop := fun _ _ => False
  ch : Nat → Option (Nat × Nat × Nat × Nat) := fun _ => none

def Loc.core (l : Loc) : Nat × Nat × Nat × Nat × Nat × (Nat → Option (Nat × Nat × Nat × Nat)) := (l.b, l.off, l.sz, l.cap, l.len, l.ch)
/-- The same place. -/
def LocS (a b : Option Loc) : Prop := a.map Loc.core = b.map Loc.core
theorem LocS.of {a b : Option Loc} (h : a = b) : LocS a b := congrArg _ h
theorem LocS.symm {a b : Option Loc} (h : LocS a b) : LocS b a := Eq.symm h
theorem LocS.trans {a b c : Option Loc} (h : LocS a b) (h' : LocS b c) : LocS a c := Eq.trans h h'
theorem LocS.none {b : Option Loc} (h : LocS none b) : b = .none := by
  cases b with
  | none => rfl
  | some m => cases h
theorem LocS.some {l : Loc} {b : Option Loc} (h : LocS (.some l) b) : ∃ m, b = .some m ∧ m.b = l.b ∧ m.off = l.off ∧ m.sz = l.sz ∧ m.cap = l.cap ∧ m.len = l.len ∧ m.ch = l.ch := by
  cases b with
  | none => cases h
  | some m =>
    have h1 : Loc.core l = Loc.core m := Option.some.inj h
    simp only [Loc.core, Prod.mk.injEq] at h1
    exact ⟨m, rfl, h1.1.symm, h1.2.1.symm, h1.2.2.1.symm, h1.2.2.2.1.symm, h1.2.2.2.2.1.symm, h1.2.2.2.2.2.symm⟩

/-- An inner slice's header. -/
def hdr4 (lo : Option (Nat × Nat × Nat × Nat)) (v : Value) : Prop := match lo with
  | none => ∃ A, v = .slice A 0 0
  | some (b, off, len, cap) => v = .slice (some ⟨b, off, none⟩) len cap

abbrev LM := Nat → Option Loc

mutual
def RepV (ok : Cells) (w : World) (L : LM) : EV G → Value → Prop
  | .d τ x, v => τ.leaf = true ∧ RepD G ok w τ x [v]
  | .nl, v => v = .slice none 0 0
  | .ow id, v => match L id with
    | none => ∃ A, v = .slice A 0 0
    | some l => ∃ A c, v = .slice A l.len c ∧ l.len ≤ c ∧ c ≤ l.cap ∧ (c = 0 ∨ A = some ⟨l.b, l.off, none⟩)
  | .vw id lo n, v => match L id with
    | none => ∃ A, v = .slice A 0 0 ∧ lo = 0 ∧ n = 0
    | some l => ∃ A c, v = .slice A n c ∧ n ≤ c ∧ lo + n ≤ l.len ∧ lo + c ≤ l.cap ∧ (c = 0 ∨ A = some ⟨l.b, l.off + lo * l.sz, none⟩)
  | .ptr id off, v => ∃ l, L id = some l ∧ v = .pointer (some ⟨l.b, off, none⟩)
  | .ept id i off, v => ∃ l, L id = some l ∧ i < l.len ∧ v = .pointer (some ⟨l.b, l.off + i * l.sz + off, none⟩)
  | .rp τ x off, v => ∃ b o cs, v = .pointer (some ⟨b, o + off, none⟩) ∧ RepD G ok w τ x cs ∧
      ∀ j u, cs[j]? = some u → ok b (o + j) ∧ w.cell? ⟨b, o + j, none⟩ = some u
  | .spn id n, v => match L id with
    | none => n = 0 ∧ ∃ A, v = .slice A 0 0
    | some l => ∃ A c, v = .slice A n c ∧ n ≤ c ∧ (n = 0 ∨ ∃ b off, A = some ⟨b, off, none⟩ ∧ ∀ i, i < n → ok b (off + i) ∧ ∃ u, w.cell? ⟨b, off + i, none⟩ = some u ∧ hdr4 (l.ch i) u)
  | .spp id i, v => ∃ l b off u, L id = some l ∧ v = .pointer (some ⟨b, off, none⟩) ∧ ok b off ∧ w.cell? ⟨b, off, none⟩ = some u ∧ hdr4 (l.ch i) u
  | .inn id i, v => ∃ l, L id = some l ∧ hdr4 (l.ch i) v
  | .lfp id i j, v => ∃ l b off len cap, L id = some l ∧ l.ch i = some (b, off, len, cap) ∧ j < len ∧ v = .pointer (some ⟨b, off + j, none⟩)
  | .fn f cs, v => ∃ cvs : Array Value, v = .func (.func f) #[] cvs ∧ RepVs ok w L cs cvs.toList
  | .ag l, v => ∃ cvs : Array Value, v = .agg cvs ∧ RepVs ok w L l cvs.toList
  | .tp l, v => ∃ cvs : Array Value, v = .tuple cvs ∧ RepVs ok w L l cvs.toList
  | .c v', v => v = v' ∧ CellV v'
  | .un, v => v = undef
  | .u, _ => True
def RepVs (ok : Cells) (w : World) (L : LM) : List (EV G) → List Value → Prop
  | [], [] => True
  | x :: l, v :: vs => RepV ok w L x v ∧ RepVs ok w L l vs
  | _, _ => False
end

theorem RepVs.length {ok : Cells} {w : World} {L : LM} : ∀ {l : List (EV G)} {vs : List Value}, RepVs ok w L l vs → l.length = vs.length
  | [], [], _ => rfl
  | _ :: _, _ :: _, h => by simp only [RepVs] at h; simp [RepVs.length h.2]
  | [], _ :: _, h => by simp [RepVs] at h
  | _ :: _, [], h => by simp [RepVs] at h

theorem RepVs.get {ok : Cells} {w : World} {L : LM} : ∀ {l : List (EV G)} {vs : List Value}, RepVs ok w L l vs → ∀ {i : Nat} {x : EV G}, l[i]? = some x → ∃ v, vs[i]? = some v ∧ RepV ok w L x v
  | [], [], _, i, x, h => by simp at h
  | a :: l, v :: vs, h, 0, x, hx => by simp only [RepVs] at h; simp at hx; subst hx; exact ⟨v, by simp, h.1⟩
  | a :: l, v :: vs, h, i + 1, x, hx => by simp only [RepVs] at h; simp at hx; obtain ⟨u, hu, hr⟩ := RepVs.get h.2 hx; exact ⟨u, by simpa using hu, hr⟩
  | [], _ :: _, h, _, _, _ => by simp [RepVs] at h
  | _ :: _, [], h, _, _, _ => by simp [RepVs] at h

theorem RepVs.append {ok : Cells} {w : World} {L : LM} : ∀ {l m : List (EV G)} {vs us : List Value}, RepVs ok w L l vs → RepVs ok w L m us → RepVs ok w L (l ++ m) (vs ++ us)
  | [], _, [], _, _, h => h
  | _ :: _, _, _ :: _, _, h, h' => by simp only [RepVs] at h; simp only [List.cons_append, RepVs]; exact ⟨h.1, RepVs.append h.2 h'⟩
  | [], _, _ :: _, _, h, _ => by simp [RepVs] at h
  | _ :: _, _, [], _, h, _ => by simp [RepVs] at h

theorem RepVs.take {ok : Cells} {w : World} {L : LM} : ∀ {l : List (EV G)} {vs : List Value} (n : Nat), RepVs ok w L l vs → RepVs ok w L (l.take n) (vs.take n)
  | _, _, 0, _ => by simp [RepVs]
  | [], [], _ + 1, _ => by simp [RepVs]
  | _ :: _, _ :: _, n + 1, h => by simp only [RepVs] at h; simp only [List.take_succ_cons, RepVs]; exact ⟨h.1, RepVs.take n h.2⟩
  | [], _ :: _, _ + 1, h => by simp [RepVs] at h
  | _ :: _, [], _ + 1, h => by simp [RepVs] at h

theorem RepVs.drop {ok : Cells} {w : World} {L : LM} : ∀ {l : List (EV G)} {vs : List Value} (n : Nat), RepVs ok w L l vs → RepVs ok w L (l.drop n) (vs.drop n)
  | _, _, 0, h => by simpa using h
  | [], [], _ + 1, _ => by simp [RepVs]
  | _ :: _, _ :: _, n + 1, h => by simp only [RepVs] at h; simp only [List.drop_succ_cons]; exact RepVs.drop n h.2
  | [], _ :: _, _ + 1, h => by simp [RepVs] at h
  | _ :: _, [], _ + 1, h => by simp [RepVs] at h

/-- The same entries lie where they lay, for what a value names. -/
def Same (L L' : LM) (ids : List Nat) : Prop := ∀ i ∈ ids, LocS (L' i) (L i)

mutual
theorem RepV.mono {ok ok' : Cells} {w w' : World} {L L' : LM} (k : Keeps ok ok' w w') : ∀ {x : EV G} {v : Value}, Same L L' x.ids → RepV ok w L x v → RepV ok' w' L' x v
  | .d τ x, v, _, h => by simp only [RepV] at h ⊢; exact ⟨h.1, h.2.mono k⟩
  | .nl, v, _, h => by simpa only [RepV] using h
  | .ow id, v, hs, h => by
      simp only [RepV] at h ⊢
      have hl := (hs id (by simp [EV.ids])).symm
      cases h1 : L id with
      | none => rw [h1] at h hl; rw [hl.none]; exact h
      | some l => rw [h1] at h hl; obtain ⟨m, e1, e2, e3, e4, e5, e6, e7⟩ := hl.some; rw [e1]; simp only at h ⊢; rw [e2, e3, e5, e6]; exact h
  | .vw id lo n, v, hs, h => by
      simp only [RepV] at h ⊢
      have hl := (hs id (by simp [EV.ids])).symm
      cases h1 : L id with
      | none => rw [h1] at h hl; rw [hl.none]; exact h
      | some l => rw [h1] at h hl; obtain ⟨m, e1, e2, e3, e4, e5, e6, e7⟩ := hl.some; rw [e1]; simp only at h ⊢; rw [e2, e3, e4, e5, e6]; exact h
  | .ptr id off, v, hs, h => by
      simp only [RepV] at h ⊢
      obtain ⟨l, h1, h2⟩ := h
      have hl := (hs id (by simp [EV.ids])).symm
      rw [h1] at hl
      obtain ⟨m, e1, e2, e3, e4, e5, e6, e7⟩ := hl.some
      exact ⟨m, e1, by rw [e2]; exact h2⟩
  | .ept id i off, v, hs, h => by
      simp only [RepV] at h ⊢
      obtain ⟨l, h1, h2, h3⟩ := h
      have hl := (hs id (by simp [EV.ids])).symm
      rw [h1] at hl
      obtain ⟨m, e1, e2, e3, e4, e5, e6, e7⟩ := hl.some
      exact ⟨m, e1, by rw [e6]; exact h2, by rw [e2, e3, e4]; exact h3⟩
  | .rp τ x off, v, _, h => by
      simp only [RepV] at h ⊢
      obtain ⟨b, o, cs, hv, hr, hc⟩ := h
      exact ⟨b, o, cs, hv, hr.mono k, fun j u hj => k _ _ _ (hc j u hj).1 (hc j u hj).2⟩
  | .spn id n, v, hs, h => by
      simp only [RepV] at h ⊢
      have hl := (hs id (by simp [EV.ids])).symm
      cases h1 : L id with
      | none => rw [h1] at h hl; rw [hl.none]; exact h
      | some l =>
        rw [h1] at h hl; obtain ⟨m, e1, e2, e3, e4, e5, e6, e7⟩ := hl.some; rw [e1]; simp only at h ⊢
        obtain ⟨A, c, q1, q2, q3⟩ := h
        refine ⟨A, c, q1, q2, q3.imp (fun h => h) ?_⟩
        rintro ⟨b, off, q4, q3⟩
        exact ⟨b, off, q4, fun i hi => by obtain ⟨r1, u, r2, r3⟩ := q3 i hi; have := k _ _ _ r1 r2; exact ⟨this.1, u, this.2, by rw [e7]; exact r3⟩⟩
  | .spp id i, v, hs, h => by
      simp only [RepV] at h ⊢
      obtain ⟨l, b, off, u, h1, h2, h3, h4, h5⟩ := h
      have hl := (hs id (by simp [EV.ids])).symm
      rw [h1] at hl
      obtain ⟨m, e1, e2, e3, e4, e5, e6, e7⟩ := hl.some
      have := k _ _ _ h3 h4
      exact ⟨m, b, off, u, e1, h2, this.1, this.2, by rw [e7]; exact h5⟩
  | .inn id i, v, hs, h => by
      simp only [RepV] at h ⊢
      obtain ⟨l, h1, h2⟩ := h
      have hl := (hs id (by simp [EV.ids])).symm
      rw [h1] at hl
      obtain ⟨m, e1, e2, e3, e4, e5, e6, e7⟩ := hl.some
      exact ⟨m, e1, by rw [e7]; exact h2⟩
  | .lfp id i j, v, hs, h => by
      simp only [RepV] at h ⊢
      obtain ⟨l, b, off, len, cap, h1, h2, h3⟩ := h
      have hl := (hs id (by simp [EV.ids])).symm
      rw [h1] at hl
      obtain ⟨m, e1, e2, e3, e4, e5, e6, e7⟩ := hl.some
      exact ⟨m, b, off, len, cap, e1, by rw [e7]; exact h2, h3⟩
  | .fn f cs, v, hs, h => by simp only [RepV] at h ⊢; obtain ⟨a, ha, hr⟩ := h; exact ⟨a, ha, RepVs.mono k (by simpa [EV.ids] using hs) hr⟩
  | .ag l, v, hs, h => by simp only [RepV] at h ⊢; obtain ⟨a, ha, hr⟩ := h; exact ⟨a, ha, RepVs.mono k (by simpa [EV.ids] using hs) hr⟩
  | .tp l, v, hs, h => by simp only [RepV] at h ⊢; obtain ⟨a, ha, hr⟩ := h; exact ⟨a, ha, RepVs.mono k (by simpa [EV.ids] using hs) hr⟩
  | .c v', v, _, h => by simpa only [RepV] using h
  | .un, v, _, h => by simpa only [RepV] using h
  | .u, v, _, _ => by simp only [RepV]
theorem RepVs.mono {ok ok' : Cells} {w w' : World} {L L' : LM} (k : Keeps ok ok' w w') : ∀ {l : List (EV G)} {vs : List Value}, Same L L' (EV.idss l) → RepVs ok w L l vs → RepVs ok' w' L' l vs
  | [], [], _, _ => by simp only [RepVs]
  | x :: l, v :: vs, hs, h => by
      simp only [RepVs] at h ⊢
      exact ⟨RepV.mono k (fun i hi => hs i (by simp [EV.idss, hi])) h.1, RepVs.mono k (fun i hi => hs i (by simp [EV.idss, hi])) h.2⟩
  | [], _ :: _, _, h => by simp [RepVs] at h
  | _ :: _, [], _, h => by simp [RepVs] at h
end
end Go.Abs
end
section
set_option linter.all false
set_option linter.unusedVariables false
set_option linter.unusedSimpArgs false
set_option linter.unnecessarySimpa false
/-
  ABS, part 4: a state of the evaluator against a frame and a world: 'Rel', and how it is carried on.
-/
namespace Go.Abs
open Go
variable {G : Gam}

theorem beq_nat (i j : Nat) : Nat.beq i j = decide (i = j) := by
  by_cases h : i = j
  · simp [h]
  · rw [decide_eq_false h]; exact Bool.eq_false_iff.mpr fun e => h (Nat.eq_of_beq_eq_true e)
theorem cond_dec {α : Type} (p : Prop) [Decidable p] (a b : α) : (bif decide p then a else b) = if p then a else b := by
  by_cases h : p <;> simp [h]

theorem lookT_cons {α : Type} (i : Nat) (v : α) (r : List (Nat × α)) (j : Nat) : lookT ((i, v) :: r) j = if i = j then some v else lookT r j := by
  simp only [lookT, beq_nat, cond_dec]
theorem lookT_append {α : Type} (l r : List (Nat × α)) (j : Nat) : lookT (l ++ r) j = (lookT l j).or (lookT r j) := by
  induction l with
  | nil => simp [lookT]
  | cons a l ih =>
    obtain ⟨i, v⟩ := a
    simp only [List.cons_append, lookT_cons]
    split <;> simp [ih]
theorem lookT_mem {α : Type} {l : List (Nat × α)} {j : Nat} {v : α} (h : lookT l j = some v) : (j, v) ∈ l := by
  induction l with
  | nil => simp [lookT] at h
  | cons a l ih =>
    obtain ⟨i, u⟩ := a
    rw [lookT_cons] at h
    split at h
    · rename_i e; cases h; subst e; simp
    · exact List.mem_cons_of_mem _ (ih h)
theorem lookT_none {α : Type} {l : List (Nat × α)} {j : Nat} (h : j ∉ l.map (·.1)) : lookT l j = none := by
  induction l with
  | nil => rfl
  | cons a l ih =>
    obtain ⟨i, u⟩ := a
    simp at h
    rw [lookT_cons, if_neg (fun e => h.1 e.symm)]
    exact ih (by simpa using h.2)

theorem St.get_put (s : St G) (d : Nat) (v : EV G) (t : Nat) : (s.put (some d) v).get t = if d = t then v else s.get t := by
  simp only [St.get, St.put, lookT_cons]
  by_cases h : d = t <;> simp [h]
theorem St.look_put (s : St G) (d : Option Nat) (v : EV G) (i : Nat) : (s.put d v).look i = s.look i := by cases d <;> rfl
theorem St.look_upd (s : St G) (l : List (Nat × Ent G)) (i : Nat) : (s.upd l).look i = (lookT l i).or (s.look i) := by
  simp only [St.look, St.upd, lookT_append]
theorem St.get_upd (s : St G) (l : List (Nat × Ent G)) (t : Nat) : (s.upd l).get t = s.get t := rfl

/-- What an entry holds alone. -/
def owns (l : Loc) : Ent G → Cells
  | .box _ => fun b _ => b = l.b
  | .row _ _ lock => fun b o => b = l.b ∧ l.off + lock * l.sz ≤ o
  | .fz _ _ => fun _ _ => False
  | .tomb => fun _ _ => False
  | .fill .. => fun b _ => b = l.b
  | .tree o _ _ _ _ => fun b q => (o = true ∧ b = l.b) ∨ l.bs b q
  | .nils _ => fun b _ => b = l.b
  | .one _ => fun b _ => b = l.b
def owner : Ent G → Prop
  | .box _ => True
  | .row _ _ _ => True
  | .fill .. => True
  | .tree .. => True
  | .nils _ => True
  | .one _ => True
  | _ => False
/-- The blocks of an entry. -/
def blks (e : Ent G) (l : Loc) (x : Nat) : Prop := match e with
  | .tree o _ _ _ _ => (o = true ∧ x = l.b) ∨ ∃ q, l.bs x q
  | _ => x = l.b
theorem owns_blk {l : Loc} {e : Ent G} {b o : Nat} (h : owns l e b o) : owner e ∧ blks e l b := by
  cases e with
  | box => exact ⟨trivial, h⟩
  | fill => exact ⟨trivial, h⟩
  | row => exact ⟨trivial, h.1⟩
  | tree => exact ⟨trivial, h.imp id fun h => ⟨_, h⟩⟩
  | nils => exact ⟨trivial, h⟩
  | one => exact ⟨trivial, h⟩
  | fz => exact h.elim
  | tomb => exact h.elim
theorem owns_any {e : Ent G} {l : Loc} {x : Nat} (h : owner e) (hx : blks e l x) : ∃ o, owns l e x o := by
  cases e with
  | box => exact ⟨0, hx⟩
  | fill => exact ⟨0, hx⟩
  | row _ _ lock => exact ⟨l.off + lock * l.sz, hx, Nat.le_refl _⟩
  | tree => exact hx.elim (fun h => ⟨0, .inl h⟩) fun ⟨q, h⟩ => ⟨q, .inr h⟩
  | nils => exact ⟨0, hx⟩
  | one => exact ⟨0, hx⟩
  | fz => exact h.elim
  | tomb => exact h.elim
def owned (s : St G) (L : LM) : Cells := fun b o => ∃ i e l, s.look i = some e ∧ L i = some l ∧ owns l e b o

structure Frm where
  w0 : World
  okA : Cells
  X : Cells
  n : Nat
  L0 : LM

def Frm.base (F : Frm) : Cells := fun b o => F.okA b o ∨ F.X b o ∨ F.w0.heap.size ≤ b
def okOf (F : Frm) (L : LM) (s : St G) : Cells := fun b o => F.base b o ∧ ¬ owned s L b o

/-- A row's elements in memory. -/
def RowAt (G : Gam) (ok : Cells) (w : World) (e : Ty) (xs : List (G.D e)) (b off : Nat) : Prop :=
  ∃ css : Nat → List Value, ∀ i (h : i < xs.length), RepD G ok w e xs[i] (css i) ∧
    ∀ j v, (css i)[j]? = some v → w.cell? ⟨b, off + (i * szT G e + j), none⟩ = some v

/-- The cells behind the filled places: those of the place that is being filled; zeros. -/
structure FillAt (ok : Cells) (w : World) (L : LM) (cs zc : List (EV G)) (k n sz b off : Nat) (t : Bool) : Prop where
  le : k ≤ n
  tk : t = true → k < n
  cl : cs.length = sz
  zl : zc.length = sz
  zi : EV.idss zc = []
  at' : k < n → ∃ us, RepVs ok w L cs us ∧ ∀ j u, us[j]? = some u → w.cell? ⟨b, off + (k * sz + j), none⟩ = some u
  zs : ∃ us, (∀ (ok' : Cells) (w' : World) (L' : LM), RepVs ok' w' L' zc us) ∧ ∀ i, k + 1 ≤ i → i < n → ∀ j u, us[j]? = some u → w.cell? ⟨b, off + (i * sz + j), none⟩ = some u

/-- A slice's header. -/
def hdr (lo : Option Loc) (v : Value) : Prop := match lo with
  | none => ∃ A, v = .slice A 0 0
  | some l => v = .slice (some ⟨l.b, l.off, none⟩) l.len l.cap
theorem hdr.loc {a b : Option Loc} {v : Value} (h : LocS a b) (hv : hdr b v) : hdr a v := by
  cases b with
  | none => rw [h.symm.none]; exact hv
  | some l =>
    obtain ⟨m, e1, e2, e3, e4, e5, e6, e7⟩ := h.symm.some
    rw [e1]; simp only [hdr] at hv ⊢; rw [e2, e3, e5, e6]; exact hv
/-- A slice lies there. -/
structure NodeOK (w : World) (sz n : Nat) (l : Loc) : Prop where
  sz : l.sz = sz
  len : l.len = n
  cap : l.len ≤ l.cap
  blk : ∃ cvs el, w.heap[l.b]? = some (.cells cvs el (0, 0)) ∧ l.off + l.cap * l.sz ≤ cvs.size
/-- Is that place taken out? -/
def isHole (h : Option (Nat × Nat × Option Nat)) (i j : Nat) : Bool := match h with
  | some (a, b, _) => Nat.beq a i && Nat.beq b j
  | none => false
/-- A slice's elements, and room behind. -/
structure Leaf (G : Gam) (ok : Cells) (w : World) (e : Ty) (zs : List (G.D e)) (m : Loc) : Prop where
  node : NodeOK w (szT G e) zs.length m
  row : RowAt G ok w e zs m.b m.off
/-- The inner slices of a tree, and theirs: each lies in a block of its own. -/
structure TreeAt (G : Gam) (ok : Cells) (w : World) (L : LM) (e : Ty) (xs : List (List (List (G.D e)))) (h : Option (Nat × Nat × Option Nat)) (ys0 : List (List (G.D e))) (l : Loc) (lf : Nat → Nat → Option Loc) : Prop where
  inn : ∀ i ys, xs[i]? = some ys → l.ch i = none → ys = []
  blk : ∀ i ys b off len cap, xs[i]? = some ys → l.ch i = some (b, off, len, cap) → len = ys.length ∧ len ≤ cap ∧ (∀ o, l.bs b o) ∧ ∃ cvs el, w.heap[b]? = some (.cells cvs el (0, 0)) ∧ off + cap ≤ cvs.size
  leaf : ∀ i ys j zs b off len cap, xs[i]? = some ys → ys[j]? = some zs → l.ch i = some (b, off, len, cap) → isHole h i j = false → (∃ u, w.cell? ⟨b, off + j, none⟩ = some u ∧ hdr (lf i j) u) ∧ (lf i j = none → zs = [])
  at' : ∀ i j m, lf i j = some m → isHole h i j = false ∧ (∀ o, m.off ≤ o → l.bs m.b o) ∧ ∃ ys zs, xs[i]? = some ys ∧ ys[j]? = some zs ∧ Leaf G ok w e zs m
  hin : ∀ i j S, h = some (i, j, S) → xs[i]? = some ys0 ∧ j < ys0.length
  hole : ∀ i j k b off len cap, h = some (i, j, some k) → l.ch i = some (b, off, len, cap) → ∃ u, w.cell? ⟨b, off + j, none⟩ = some u ∧ hdr (L k) u
  d1 : ∀ i i' b off len cap b' off' len' cap', i ≠ i' → i < xs.length → i' < xs.length → l.ch i = some (b, off, len, cap) → l.ch i' = some (b', off', len', cap') → b ≠ b'
  d2 : ∀ i i' j' b off len cap m, i < xs.length → l.ch i = some (b, off, len, cap) → lf i' j' = some m → b ≠ m.b
  d3 : ∀ i j i' j' m m', (i, j) ≠ (i', j') → lf i j = some m → lf i' j' = some m' → m.b ≠ m'.b
/-- The outer slice of a tree. -/
structure OutAt (w : World) (n : Nat) (l : Loc) : Prop where
  node : NodeOK w 1 n l
  nb : ∀ o, ¬ l.bs l.b o
  hd : ∀ i, i < n → ∃ u, w.cell? ⟨l.b, l.off + i, none⟩ = some u ∧ hdr4 (l.ch i) u

def RepE (ok : Cells) (w : World) (L : LM) (i : Nat) : Ent G → Prop
  | .box cs => ∃ l cvs el, L i = some l ∧ w.heap[l.b]? = some (.cells cvs el (0, 0)) ∧ RepVs ok w L cs cvs.toList
  | .row e xs lock => lock ≤ xs.length ∧ match L i with
    | none => xs = []
    | some l => l.sz = szT G e ∧ l.len = xs.length ∧ l.len ≤ l.cap ∧ (∃ cvs el, w.heap[l.b]? = some (.cells cvs el (0, 0)) ∧ l.off + l.cap * l.sz ≤ cvs.size) ∧ RowAt G ok w e xs l.b l.off
  | .fz e xs => match L i with
    | none => xs = []
    | some l => l.sz = szT G e ∧ l.len = xs.length ∧ (∀ o v, l.off ≤ o → o < l.off + l.len * l.sz → w.cell? ⟨l.b, o, none⟩ = some v → ok l.b o) ∧ RowAt G ok w e xs l.b l.off
  | .tomb => True
  | .nils n => ∃ l, L i = some l ∧ NodeOK w 1 n l ∧ ∀ j, j < n → w.cell? ⟨l.b, l.off + j, none⟩ = some (.slice none 0 0)
  | .one o => ∃ l, L i = some l ∧ NodeOK w 1 1 l ∧ ∃ u, w.cell? ⟨l.b, l.off, none⟩ = some u ∧ ∀ k, o = some k → RepV ok w L (.ow k : EV G) u
  | .tree o e xs h ys => match L i with
    | none => xs = [] ∧ h = none
    | some l => (o = true → OutAt w xs.length l) ∧ ∃ lf, TreeAt G ok w L e xs h ys l lf
  | .fill e xs cs zc n t => ∃ l cvs el, L i = some l ∧ w.heap[l.b]? = some (.cells cvs el (0, 0)) ∧ l.sz = szT G e ∧ 1 ≤ l.sz ∧ l.len = n ∧ l.len ≤ l.cap ∧ l.off + l.cap * l.sz ≤ cvs.size ∧
      RowAt G ok w e xs l.b l.off ∧ FillAt ok w L cs zc xs.length n l.sz l.b l.off t

/-- The world against the call's first one. -/
structure Fits (F : Frm) (w : World) : Prop where
  os : w.os = F.w0.os
  tape : w.tape = F.w0.tape
  output : w.output = F.w0.output
  size : F.w0.heap.size ≤ w.heap.size
  block : ∀ b, b < F.w0.heap.size → (∀ o, ¬ F.X b o) → w.heap[b]? = F.w0.heap[b]?
  cell : ∀ b o, b < F.w0.heap.size → ¬ F.X b o → w.cell? ⟨b, o, none⟩ = F.w0.cell? ⟨b, o, none⟩

structure RelE (F : Frm) (L : LM) (s : St G) (w : World) : Prop where
  fits : Fits F w
  en : ∀ i e, s.look i = some e → RepE (okOf F L s) w L i e
  ids : ∀ i e, s.look i = some e → ∀ j ∈ e.nms, (s.look j).isSome
  dis : ∀ i j e f l m, s.look i = some e → s.look j = some f → L i = some l → L j = some m → owner e → owner f → i ≠ j → ∀ x, blks e l x → ¬ blks f m x
  own : ∀ i e l, s.look i = some e → L i = some l → owner e → ∀ x, blks e l x → x < w.heap.size ∧ (F.w0.heap.size ≤ x ∨ ∀ o, (owns l e x o → F.X x o) ∧ F.base x o)
  lent : ∀ i, i < F.n → (s.look i).isSome = true ∧ LocS (L i) (F.L0 i)

theorem RelE.ownb {F : Frm} {L : LM} {s : St G} {w : World} (h : RelE F L s w) (i : Nat) (e : Ent G) (l : Loc) (h1 : s.look i = some e) (h2 : L i = some l) (oe : owner e) (hb : blks e l l.b := by exact rfl) : l.b < w.heap.size ∧ (F.w0.heap.size ≤ l.b ∨ ∀ o, (owns l e l.b o → F.X l.b o) ∧ F.base l.b o) :=
  h.own i e l h1 h2 oe l.b hb

structure Rel (F : Frm) (nt : Nat) (L : LM) (s : St G) (a : Act) (w : World) : Prop where
  e : RelE F L s w
  tm : ∀ t, RepV (okOf F L s) w L (s.get t) (a.tmps.getD t undef)
  tids : ∀ t, ∀ j ∈ (s.get t).ids, (s.look j).isSome
  defers : a.defers = []
  size : a.tmps.size = nt

theorem owned_put (s : St G) (L : LM) (d : Option Nat) (v : EV G) : owned (s.put d v) L = owned s L := by
  funext b o; simp only [owned, St.look_put]
theorem okOf_put (F : Frm) (L : LM) (s : St G) (d : Option Nat) (v : EV G) : okOf F L (s.put d v) = okOf F L s := by
  funext b o; simp only [okOf, owned_put]

theorem RelE.put {F : Frm} {L : LM} {s : St G} {w : World} (h : RelE F L s w) (d : Option Nat) (v : EV G) : RelE F L (s.put d v) w where
  fits := h.fits
  en i e he := by rw [okOf_put]; rw [St.look_put] at he; exact h.en i e he
  ids i e he j hj := by rw [St.look_put] at *; exact h.ids i e he j hj
  dis i j e f l m h1 h2 := by rw [St.look_put] at h1 h2; exact h.dis i j e f l m h1 h2
  own i e l h1 := by rw [St.look_put] at h1; exact h.own i e l h1
  lent i hi := by rw [St.look_put]; exact h.lent i hi

/-- A slot is written. -/
theorem Rel.put {F : Frm} {nt : Nat} {L : LM} {s : St G} {a : Act} {w : World} (h : Rel F nt L s a w) (d : Option Nat) (hd : ∀ t, d = some t → t < nt) (v : EV G) (u : Value)
    (hv : RepV (okOf F L s) w L v u) (hi : ∀ j ∈ v.ids, (s.look j).isSome) : Rel F nt L (s.put d v) (a.put d u) w where
  e := h.e.put d v
  tm t := by
    rw [okOf_put]
    cases d with
    | none => exact h.tm t
    | some d =>
      rw [St.get_put]
      simp only [Act.put]
      have := hd d rfl
      by_cases e : d = t
      · subst e
        rw [if_pos rfl]
        have : (a.tmps.setIfInBounds d u).getD d undef = u := by
          simp [Array.getD, Array.size_setIfInBounds, h.size, this]
        rw [this]; exact hv
      · rw [if_neg e]
        have : (a.tmps.setIfInBounds d u).getD t undef = a.tmps.getD t undef := by
          simp only [Array.getD_eq_getD_getElem?, Array.getElem?_setIfInBounds_ne e]
        rw [this]; exact h.tm t
  tids t j hj := by
    rw [St.look_put]
    cases d with
    | none => exact h.tids t j hj
    | some d =>
      rw [St.get_put] at hj
      by_cases e : d = t
      · rw [if_pos e] at hj; exact hi j hj
      · rw [if_neg e] at hj; exact h.tids t j hj
  defers := by cases d <;> exact h.defers
  size := by cases d <;> simp [Act.put, h.size]

theorem cell_heap {w w' : World} (h : w'.heap = w.heap) (a : Addr) : w'.cell? a = w.cell? a := by simp only [World.cell?, h]
theorem keeps_refl {ok : Cells} {w w' : World} (h : w'.heap = w.heap) : Keeps ok ok w w' := fun b o v h1 h2 => ⟨h1, by rw [cell_heap h]; exact h2⟩

theorem RowAt.mono {ok ok' : Cells} {w w' : World} (k : Keeps ok ok' w w') {e : Ty} {xs : List (G.D e)} {b off : Nat}
    (hc : ∀ o v, w.cell? ⟨b, off + o, none⟩ = some v → o < xs.length * szT G e → w'.cell? ⟨b, off + o, none⟩ = some v) (h : RowAt G ok w e xs b off) : RowAt G ok' w' e xs b off := by
  obtain ⟨css, hcs⟩ := h
  refine ⟨css, fun i hi => ⟨(hcs i hi).1.mono k, fun j v hj => hc _ _ ((hcs i hi).2 j v hj) ?_⟩⟩
  have h1 := (hcs i hi).1.length
  have h2 : j < (css i).length := by
    rcases Nat.lt_or_ge j (css i).length with h | h
    · exact h
    · rw [List.getElem?_eq_none h] at hj; cases hj
  have h3 : (i + 1) * szT G e ≤ xs.length * szT G e := Nat.mul_le_mul_right _ hi
  rw [Nat.add_mul] at h3
  omega

theorem FillAt.mono {ok ok' : Cells} {w w' : World} {L L' : LM} (k : Keeps ok ok' w w') {cs zc : List (EV G)} {m n sz b off : Nat} {t : Bool} (hb : ∀ o, w'.cell? ⟨b, o, none⟩ = w.cell? ⟨b, o, none⟩)
    (hs : Same L L' (EV.idss cs)) (h : FillAt ok w L cs zc m n sz b off t) : FillAt ok' w' L' cs zc m n sz b off t where
  le := h.le
  tk := h.tk
  cl := h.cl
  zl := h.zl
  zi := h.zi
  at' := fun hm => by obtain ⟨us, h1, h2⟩ := h.at' hm; exact ⟨us, h1.mono k hs, fun j u hj => by rw [hb]; exact h2 j u hj⟩
  zs := by obtain ⟨us, h1, h2⟩ := h.zs; exact ⟨us, h1, fun i p q j u hj => by rw [hb]; exact h2 i p q j u hj⟩
theorem NodeOK.mono {w w' : World} {sz n : Nat} {l : Loc} (hb : w'.heap[l.b]? = w.heap[l.b]?) (h : NodeOK w sz n l) : NodeOK w' sz n l where
  sz := h.sz
  len := h.len
  cap := h.cap
  blk := by rw [hb]; exact h.blk
theorem Leaf.mono {ok ok' : Cells} {w w' : World} (k : Keeps ok ok' w w') {e : Ty} {zs : List (G.D e)} {m : Loc} (hb : w'.heap[m.b]? = w.heap[m.b]?) (h : Leaf G ok w e zs m) : Leaf G ok' w' e zs m where
  node := h.node.mono hb
  row := h.row.mono k fun o v hc _ => by simp only [World.cell?, hb] at hc ⊢; exact hc
theorem TreeAt.mono {ok ok' : Cells} {w w' : World} {L L' : LM} (k : Keeps ok ok' w w') {e : Ty} {xs : List (List (List (G.D e)))} {h : Option (Nat × Nat × Option Nat)} {ys0 : List (List (G.D e))} {l : Loc} {lf : Nat → Nat → Option Loc} (hb : ∀ x o, l.bs x o → w'.heap[x]? = w.heap[x]?)
    (hl : ∀ i j k, h = some (i, j, some k) → LocS (L' k) (L k)) (ht : TreeAt G ok w L e xs h ys0 l lf) : TreeAt G ok' w' L' e xs h ys0 l lf where
  inn := ht.inn
  blk i ys b off len cap h1 h2 := by
    obtain ⟨q1, q2, q3, q4⟩ := ht.blk i ys b off len cap h1 h2
    exact ⟨q1, q2, q3, by rw [hb b 0 (q3 0)]; exact q4⟩
  leaf i ys j zs b off len cap h1 h2 h3 h4 := by
    obtain ⟨q1, q2, q3, q4⟩ := ht.blk i ys b off len cap h1 h3
    have hbb := hb b 0 (q3 0)
    obtain ⟨⟨u, r1, r2⟩, r3⟩ := ht.leaf i ys j zs b off len cap h1 h2 h3 h4
    exact ⟨⟨u, by simp only [World.cell?, hbb] at r1 ⊢; exact r1, r2⟩, r3⟩
  at' i j m hm := by
    obtain ⟨q1, q2, ys, zs, q3, q4, q5⟩ := ht.at' i j m hm
    exact ⟨q1, q2, ys, zs, q3, q4, q5.mono k (hb _ _ (q2 _ (Nat.le_refl _)))⟩
  hole i j kk b off len cap h1 h2 := by
    have hs := hl i j kk h1
    obtain ⟨q1, q2, q3, q4⟩ := ht.blk i _ b off len cap (ht.hin i j _ h1).1 h2
    have hbb := hb b 0 (q3 0)
    obtain ⟨u, r1, r2⟩ := ht.hole i j kk b off len cap h1 h2
    exact ⟨u, by simp only [World.cell?, hbb] at r1 ⊢; exact r1, r2.loc hs⟩
  hin := ht.hin
  d1 := ht.d1
  d2 := ht.d2
  d3 := ht.d3
theorem OutAt.mono {w w' : World} {n : Nat} {l : Loc} (hb : w'.heap[l.b]? = w.heap[l.b]?) (h : OutAt w n l) : OutAt w' n l where
  node := h.node.mono hb
  nb := h.nb
  hd i hi := by obtain ⟨u, h1, h2⟩ := h.hd i hi; exact ⟨u, by simp only [World.cell?, hb] at h1 ⊢; exact h1, h2⟩
theorem cell_blk {w w' : World} {b : Nat} (h : w'.heap[b]? = w.heap[b]?) (o : Nat) : w'.cell? ⟨b, o, none⟩ = w.cell? ⟨b, o, none⟩ := by simp only [World.cell?, h]

/-- A world of the same memory and streams. -/
theorem Fits.world {F : Frm} {w w' : World} (h : Fits F w) (hh : w'.heap = w.heap) (ho : w'.os = w.os) (ht : w'.tape = w.tape) (hp : w'.output = w.output) : Fits F w' where
  os := by rw [ho]; exact h.os
  tape := by rw [ht]; exact h.tape
  output := by rw [hp]; exact h.output
  size := by rw [hh]; exact h.size
  block b hb hx := by rw [hh]; exact h.block b hb hx
  cell b o hb hx := by rw [cell_heap hh]; exact h.cell b o hb hx

/-- An entry whose own memory stays. -/
theorem RepE.mono {ok ok' : Cells} {w w' : World} {L L' : LM} {i : Nat} {e : Ent G} (k : Keeps ok ok' w w') (hl : L' i = L i) (hb : owner e → ∀ l, L i = some l → ∀ x, blks e l x → w'.heap[x]? = w.heap[x]?)
    (hs : Same L L' e.nms) (hr : RepE ok w L i e) : RepE ok' w' L' i e := by
  cases e with
  | box cs =>
    obtain ⟨l, cvs, el, h1, h2, h3⟩ := hr
    exact ⟨l, cvs, el, by rw [hl]; exact h1, by rw [hb trivial l h1 l.b rfl]; exact h2, h3.mono k hs⟩
  | fill e xs cs zc n t =>
    obtain ⟨l, cvs, el, h1, h2, h3, h4, h5, h6, h7, h8, h9⟩ := hr
    have hb := hb trivial l h1 l.b rfl
    exact ⟨l, cvs, el, by rw [hl]; exact h1, by rw [hb]; exact h2, h3, h4, h5, h6, h7, h8.mono k (fun o v hc _ => by rw [cell_blk hb]; exact hc), h9.mono k (fun o => cell_blk hb o) hs⟩
  | row e xs lock =>
    simp only [RepE] at hr ⊢
    refine ⟨hr.1, ?_⟩
    rw [hl]
    cases hli : L i with
    | none => simpa [hli] using hr.2
    | some l =>
      simp only [hli] at hr
      obtain ⟨_, h1, h2, h3, ⟨cvs, el, h4, h5⟩, h6⟩ := hr
      have hb := hb trivial l hli l.b rfl
      refine ⟨h1, h2, h3, ⟨cvs, el, by rw [hb]; exact h4, h5⟩, h6.mono k fun o v hc _ => ?_⟩
      simp only [World.cell?, hb] at hc ⊢; exact hc
  | nils n =>
    obtain ⟨l, h1, h2, h3⟩ := hr
    have hb := hb trivial l h1 l.b rfl
    exact ⟨l, by rw [hl]; exact h1, h2.mono hb, fun j hj => by rw [cell_blk hb]; exact h3 j hj⟩
  | one o =>
    obtain ⟨l, h1, h2, u, h3, h4⟩ := hr
    have hb := hb trivial l h1 l.b rfl
    exact ⟨l, by rw [hl]; exact h1, h2.mono hb, u, by rw [cell_blk hb]; exact h3, fun q hq => (h4 q hq).mono k (fun j hj => hs j (by subst hq; simpa [EV.ids, Ent.nms] using hj))⟩
  | tree o e xs h ys =>
    simp only [RepE] at hr ⊢
    rw [hl]
    cases hli : L i with
    | none => simpa [hli] using hr
    | some l =>
      simp only [hli] at hr
      have hb := hb trivial l hli
      obtain ⟨h1, lf, h2⟩ := hr
      exact ⟨fun ho => (h1 ho).mono (hb _ (.inl ⟨ho, rfl⟩)), lf, h2.mono k (fun x o hx => hb x (.inr ⟨o, hx⟩)) fun i j q hq => hs q (by subst hq; simp [Ent.nms])⟩
  | fz e xs =>
    simp only [RepE] at hr ⊢
    rw [hl]
    cases hli : L i with
    | none => simpa [hli] using hr
    | some l =>
      simp only [hli] at hr
      obtain ⟨h1, h2, h3, h4⟩ := hr
      have cells : ∀ o v, l.off ≤ o → o < l.off + l.len * l.sz → w.cell? ⟨l.b, o, none⟩ = some v → ok' l.b o ∧ w'.cell? ⟨l.b, o, none⟩ = some v :=
        fun o v p q c => k _ _ _ (h3 o v p q c) c
      have all : ∀ o, l.off ≤ o → o < l.off + l.len * l.sz → ∃ v, w.cell? ⟨l.b, o, none⟩ = some v := by
        intro o p q
        obtain ⟨css, hcs⟩ := h4
        have hz : 0 < szT G e := by
          rcases Nat.eq_zero_or_pos (szT G e) with hz | hz
          · rw [h1, hz] at q; simp at q; omega
          · exact hz
        let i' := (o - l.off) / szT G e
        let j' := (o - l.off) % szT G e
        have hj' : j' < szT G e := Nat.mod_lt _ hz
        have hdiv : szT G e * i' + j' = o - l.off := Nat.div_add_mod _ _
        have hi' : i' < xs.length := by
          rw [h2, h1] at q
          apply Nat.div_lt_of_lt_mul
          rw [Nat.mul_comm]; omega
        have hl' := (hcs i' hi').1.length
        have hg : (css i')[j']? = some ((css i')[j']'(by omega)) := List.getElem?_eq_getElem (by omega)
        have this := (hcs i' hi').2 j' _ hg
        have e0 : l.off + (i' * szT G e + j') = o := by rw [Nat.mul_comm]; omega
        rw [e0] at this
        exact ⟨_, this⟩
      refine ⟨h1, h2, fun o v p q _ => ?_, h4.mono k fun o v hc ho => (cells _ v (Nat.le_add_right _ _) (by rw [h2, h1]; omega) hc).2⟩
      obtain ⟨v', hv'⟩ := all o p q
      exact (cells o v' p q hv').1
  | tomb => trivial
theorem same_refl (L : LM) (ids : List Nat) : Same L L ids := fun _ _ => rfl
theorem RepE.world {ok : Cells} {w w' : World} {L : LM} {i : Nat} {e : Ent G} (hh : w'.heap = w.heap) (h : RepE ok w L i e) : RepE ok w' L i e :=
  h.mono (keeps_refl hh) rfl (fun _ _ _ _ _ => by rw [hh]) (same_refl _ _)

theorem RelE.world {F : Frm} {L : LM} {s : St G} {w w' : World} (h : RelE F L s w) (hh : w'.heap = w.heap) (ho : w'.os = w.os) (ht : w'.tape = w.tape) (hp : w'.output = w.output) : RelE F L s w' where
  fits := h.fits.world hh ho ht hp
  en i e he := (h.en i e he).world hh
  ids := h.ids
  dis := h.dis
  own i e l h1 h2 h3 x hx := by rw [hh]; exact h.own i e l h1 h2 h3 x hx
  lent := h.lent
theorem Rel.world {F : Frm} {nt : Nat} {L : LM} {s : St G} {a : Act} {w w' : World} (h : Rel F nt L s a w) (hh : w'.heap = w.heap) (ho : w'.os = w.os) (ht : w'.tape = w.tape) (hp : w'.output = w.output) : Rel F nt L s a w' where
  e := h.e.world hh ho ht hp
  tm t := (h.tm t).mono (keeps_refl hh) (fun _ _ => rfl)
  tids := h.tids
  defers := h.defers
  size := h.size

/-- Memory has been changed: what must be shown, and of what. 'up': the entries that are told anew. -/
theorem Rel.step' {F : Frm} {nt : Nat} {L L' : LM} {s : St G} {a : Act} {w w' : World} (h : Rel F nt L s a w) (up : List (Nat × Ent G)) (hf : Fits F w')
    (k : Keeps (okOf F L s) (okOf F L' (s.upd up)) w w')
    (hL : ∀ i, (s.look i).isSome → lookT up i = none → L' i = L i)
    (hS : ∀ i, (s.look i).isSome → LocS (L' i) (L i))
    (un : ∀ i e l, lookT up i = none → s.look i = some e → owner e → L i = some l → ∀ x, blks e l x → w'.heap[x]? = w.heap[x]?)
    (ch : ∀ i e, lookT up i = some e → RepE (okOf F L' (s.upd up)) w' L' i e ∧ ∀ j ∈ e.nms, ((s.upd up).look j).isSome)
    (hs : w.heap.size ≤ w'.heap.size)
    (dis : ∀ i j e f l m, lookT up i = some e → (s.upd up).look j = some f → L' i = some l → L' j = some m → owner e → owner f → i ≠ j → ∀ x, blks e l x → ¬ blks f m x)
    (own : ∀ i e l, lookT up i = some e → L' i = some l → owner e → ∀ x, blks e l x → x < w'.heap.size ∧ (F.w0.heap.size ≤ x ∨ ∀ o, (owns l e x o → F.X x o) ∧ F.base x o)) :
    Rel F nt L' (s.upd up) a w' := by
  have dom : ∀ i, (s.look i).isSome → ((s.upd up).look i).isSome := fun i hi => by
    rw [St.look_upd]; cases lookT up i <;> simp [hi]
  have part : ∀ i e, (s.upd up).look i = some e → lookT up i = some e ∨ (lookT up i = none ∧ s.look i = some e) := fun i e he => by
    rw [St.look_upd] at he
    cases hu : lookT up i with
    | none => rw [hu] at he; exact .inr ⟨rfl, by simpa using he⟩
    | some f => rw [hu] at he; exact .inl (by simpa using he)
  refine ⟨⟨hf, ?_, ?_, ?_, ?_, fun i hi => ⟨dom i (h.e.lent i hi).1, (hS i (h.e.lent i hi).1).trans (h.e.lent i hi).2⟩⟩, ?_, ?_, h.defers, h.size⟩
  · intro i e he
    rcases part i e he with hu | ⟨hu, hi⟩
    · exact (ch i e hu).1
    · exact (h.e.en i e hi).mono k (hL i (by simp [hi]) hu) (fun oe l hl => un i e l hu hi oe hl) (fun j hj => hS j (h.e.ids i e hi j hj))
  · intro i e he j hj
    rcases part i e he with hu | ⟨hu, hi⟩
    · exact (ch i e hu).2 j hj
    · exact dom j (h.e.ids i e hi j hj)
  · intro i j e f l m hi hj hli hlj oe of ne
    rcases part i e hi with hu | ⟨hu, hi'⟩
    · exact dis i j e f l m hu hj hli hlj oe of ne
    · rcases part j f hj with hv | ⟨hv, hj'⟩
      · exact fun x h1 h2 => dis j i f e m l hv hi hlj hli of oe (Ne.symm ne) x h2 h1
      · rw [hL i (by simp [hi']) hu] at hli; rw [hL j (by simp [hj']) hv] at hlj
        exact h.e.dis i j e f l m hi' hj' hli hlj oe of ne
  · intro i e l hi hli oe x hx
    rcases part i e hi with hu | ⟨hu, hi'⟩
    · exact own i e l hu hli oe x hx
    · rw [hL i (by simp [hi']) hu] at hli
      have := h.e.own i e l hi' hli oe x hx
      exact ⟨Nat.lt_of_lt_of_le this.1 hs, this.2⟩
  · intro t
    exact (h.tm t).mono k (fun j hj => hS j (h.tids t j hj))
  · intro t j hj
    exact dom j (h.tids t j hj)
theorem Rel.step {F : Frm} {nt : Nat} {L L' : LM} {s : St G} {a : Act} {w w' : World} (h : Rel F nt L s a w) (up : List (Nat × Ent G)) (hf : Fits F w')
    (k : Keeps (okOf F L s) (okOf F L' (s.upd up)) w w')
    (hL : ∀ i, (s.look i).isSome → L' i = L i)
    (un : ∀ i e l, lookT up i = none → s.look i = some e → owner e → L i = some l → ∀ x, blks e l x → w'.heap[x]? = w.heap[x]?)
    (ch : ∀ i e, lookT up i = some e → RepE (okOf F L' (s.upd up)) w' L' i e ∧ ∀ j ∈ e.nms, ((s.upd up).look j).isSome)
    (hs : w.heap.size ≤ w'.heap.size)
    (dis : ∀ i j e f l m, lookT up i = some e → (s.upd up).look j = some f → L' i = some l → L' j = some m → owner e → owner f → i ≠ j → ∀ x, blks e l x → ¬ blks f m x)
    (own : ∀ i e l, lookT up i = some e → L' i = some l → owner e → ∀ x, blks e l x → x < w'.heap.size ∧ (F.w0.heap.size ≤ x ∨ ∀ o, (owns l e x o → F.X x o) ∧ F.base x o)) :
    Rel F nt L' (s.upd up) a w' :=
  h.step' up hf k (fun i hi _ => hL i hi) (fun i hi => .of (hL i hi)) un ch hs dis own
end Go.Abs
end
section
set_option linter.all false
set_option linter.unusedVariables false
set_option linter.unusedSimpArgs false
set_option linter.unnecessarySimpa false
/-
  ABS, part 5: operations without a condition of their own: the evaluator's answer is the model's.
-/
namespace Go.Abs
open Go
variable {G : Gam}

theorem guardb {α : Type} {c : Bool} {x : Option α} {v : α} (h : (bif c then x else none) = some v) : c = true ∧ x = some v := by
  cases c with
  | false => cases h
  | true => exact ⟨rfl, h⟩
theorem guardn {α : Type} {c : Bool} {x : Option α} {v : α} (h : (bif c then none else x) = some v) : c = false ∧ x = some v := by
  cases c with
  | true => cases h
  | false => exact ⟨rfl, h⟩
theorem band {a b : Bool} (h : (a && b) = true) : a = true ∧ b = true := by cases a <;> simp_all
theorem beqT {i j : Nat} (h : Nat.beq i j = true) : i = j := Nat.eq_of_beq_eq_true h
theorem bleT {i j : Nat} (h : Nat.ble i j = true) : i ≤ j := Nat.le_of_ble_eq_true h

theorem cell_oneCell {ok : Cells} {w : World} {L : LM} {x : EV G} {v : Value} (hc : x.cell = true) (h : RepV ok w L x v) : v.oneCell' = true := by
  have key : ∀ v, CellV v → v.oneCell' = true := by intro v hv; cases v <;> first | rfl | exact hv.elim
  cases x with
  | d τ x => simp only [RepV] at h; exact key v (cellV_of h.1 h.2)
  | nl => simp only [RepV] at h; subst h; rfl
  | ow id =>
    simp only [RepV] at h
    cases hl : L id with
    | none => simp only [hl] at h; obtain ⟨A, rfl⟩ := h; rfl
    | some l => simp only [hl] at h; obtain ⟨A, c, rfl, _⟩ := h; rfl
  | vw id lo n =>
    simp only [RepV] at h
    cases hl : L id with
    | none => simp only [hl] at h; obtain ⟨A, rfl, _⟩ := h; rfl
    | some l => simp only [hl] at h; obtain ⟨A, c, rfl, _⟩ := h; rfl
  | ptr id off => simp only [RepV] at h; obtain ⟨l, _, rfl⟩ := h; rfl
  | ept id i off => simp only [RepV] at h; obtain ⟨l, _, _, rfl⟩ := h; rfl
  | rp τ x off => simp only [RepV] at h; obtain ⟨b, o, cs, rfl, _⟩ := h; rfl
  | spn id n =>
    simp only [RepV] at h
    cases hl : L id with
    | none => simp only [hl] at h; obtain ⟨_, A, rfl⟩ := h; rfl
    | some l => simp only [hl] at h; obtain ⟨A, c, rfl, _⟩ := h; rfl
  | spp id i => simp only [RepV] at h; obtain ⟨l, b, off, u, _, rfl, _⟩ := h; rfl
  | inn id i =>
    simp only [RepV] at h
    obtain ⟨l, _, h⟩ := h
    cases hc : l.ch i with
    | none => rw [hc] at h; obtain ⟨A, rfl⟩ := h; rfl
    | some q => rw [hc] at h; obtain ⟨b, off, len, cap⟩ := q; simp only [hdr4] at h; subst h; rfl
  | lfp id i j => simp only [RepV] at h; obtain ⟨l, b, off, len, cap, _, _, _, rfl⟩ := h; rfl
  | fn f cs => simp only [RepV] at h; obtain ⟨cvs, rfl, _⟩ := h; rfl
  | c v' => simp only [RepV] at h; obtain ⟨rfl, h⟩ := h; exact key v h
  | ag l => simp [EV.cell] at hc
  | tp l => simp [EV.cell] at hc
  | un => simp [EV.cell] at hc
  | u => simp [EV.cell] at hc

/-- A sound value's cells are the model's. -/
theorem RepV.cells {ok : Cells} {w : World} {L : LM} {x : EV G} {v : Value} (hs : x.sound = true) (h : RepV ok w L x v) : RepVs ok w L x.cells v.cells.toList := by
  by_cases hc : x.cell = true
  · have h1 := cell_oneCell hc h
    have hx : x.cells = [x] := by cases x <;> first | rfl | simp [EV.cell] at hc
    have hv : v.cells = #[v] := by cases v <;> first | rfl | simp [Value.oneCell'] at h1
    rw [hx, hv]
    exact ⟨h, trivial⟩
  · cases x with
    | ag l => simp only [RepV] at h; obtain ⟨cvs, rfl, hr⟩ := h; simpa [EV.cells, Value.cells] using hr
    | _ => simp [EV.sound, EV.cell] at hs hc <;> first | exact absurd hs hc | (rw [hs] at hc; simp at hc)

theorem lfEV_RepVs {ok : Cells} {w : World} {L : LM} : ∀ {l : List (Lf G.S)} {cs : List Value}, (∀ τ ∈ l.map (fun | .mk τ _ => τ), τ.leaf = true) → RepL G ok w l cs → RepVs ok w L (l.map lfEV) cs
  | [], _, _, h => by cases h; simp only [List.map_nil, RepVs]
  | .mk τ x :: l, _, hl, h => by
    cases h with
    | cons _ _ v _ vs hx ht =>
      simp only [List.map_cons, lfEV, RepVs, RepV]
      exact ⟨⟨hl τ (by simp), hx⟩, lfEV_RepVs (fun τ' h' => hl τ' (by simp at h' ⊢; exact .inr h')) ht⟩

theorem cellsT_leaf (τ : Ty) (x : G.D τ) : ∀ τ' ∈ (cellsT G τ x).map (fun | .mk τ _ => τ), τ'.leaf = true := by
  intro τ' h
  cases τ with
  | st t =>
    have := G.tys t x
    simp only [cellsT] at h
    rw [this] at h
    exact G.flat t τ' h
  | _ => simp [cellsT] at h; subst h; rfl

theorem RepD.evs {ok : Cells} {w : World} {L : LM} {τ : Ty} {x : G.D τ} {cs : List Value} (h : RepD G ok w τ x cs) : RepVs ok w L ((cellsT G τ x).map lfEV) cs :=
  lfEV_RepVs (cellsT_leaf τ x) h.cells

theorem ofConst_rep {ok : Cells} {w : World} {L : LM} (v : Value) : RepV ok w L (ofConst v : EV G) v := by
  unfold ofConst
  split <;> simp only [RepV]
  · exact ⟨rfl, .bool _⟩
  · exact ⟨rfl, .int _ _⟩
  · exact ⟨rfl, .str _⟩
  · exact ⟨trivial, trivial⟩
  · exact ⟨trivial, trivial⟩
theorem ofConst_ids (v : Value) : (ofConst v : EV G).ids = [] := by
  unfold ofConst; split <;> rfl

section
variable {F : Frm} {nt : Nat} {L : LM} {s : St G} {a : Act} {w : World}

theorem Rel.ev (h : Rel F nt L s a w) (x : Operand) : RepV (okOf F L s) w L (s.ev x) (a.eval x) := by
  cases x with
  | tmp t => exact h.tm t
  | const v => exact ofConst_rep v
  | global g => simp only [St.ev, RepV]
  | func f => simp only [St.ev, RepV]; exact ⟨#[], rfl, by simp [RepVs]⟩
theorem Rel.evIds (h : Rel F nt L s a w) (x : Operand) : ∀ j ∈ (s.ev x).ids, (s.look j).isSome := by
  cases x with
  | tmp t => exact h.tids t
  | const v => intro j hj; simp [St.ev, ofConst_ids] at hj
  | global g => intro j hj; simp [St.ev, EV.ids] at hj
  | func f => intro j hj; simp [St.ev, EV.ids, EV.idss] at hj

theorem Rel.bool (h : Rel F nt L s a w) {x : Operand} {b : Bool} (e : s.ev x = .d .bool b) : a.eval x = .bool b := by
  have := h.ev x; rw [e] at this; simp only [RepV] at this; simpa [RepD.Inv] using this.2.inv
theorem Rel.int (h : Rel F nt L s a w) {x : Operand} {k : IntKind} {n : Int} (e : s.ev x = .d (.int k) n) : a.eval x = .int k n := by
  have := h.ev x; rw [e] at this; simp only [RepV] at this; simpa [RepD.Inv] using this.2.inv
theorem Rel.str (h : Rel F nt L s a w) {x : Operand} {b : ByteArray} (e : s.ev x = .d .str b) : a.eval x = .string b := by
  have := h.ev x; rw [e] at this; simp only [RepV] at this; simpa [RepD.Inv] using this.2.inv
end

theorem repInt {ok : Cells} {w : World} {L : LM} (k : IntKind) (n : Int) : RepV ok w L (.d (.int k) n : EV G) (.int k n) := by simp only [RepV]; exact ⟨rfl, .int _ _⟩
theorem repBool {ok : Cells} {w : World} {L : LM} (b : Bool) : RepV ok w L (.d .bool b : EV G) (.bool b) := by simp only [RepV]; exact ⟨rfl, .bool _⟩
theorem repStr {ok : Cells} {w : World} {L : LM} (b : ByteArray) : RepV ok w L (.d .str b : EV G) (.string b) := by simp only [RepV]; exact ⟨rfl, .str _⟩
theorem inv_int {ok : Cells} {w : World} {L : LM} {k : IntKind} {n : Int} {v : Value} (h : RepV ok w L (.d (.int k) n : EV G) v) : v = .int k n := by
  simp only [RepV] at h; simpa [RepD.Inv] using h.2.inv
theorem inv_bool {ok : Cells} {w : World} {L : LM} {n : Bool} {v : Value} (h : RepV ok w L (.d .bool n : EV G) v) : v = .bool n := by
  simp only [RepV] at h; simpa [RepD.Inv] using h.2.inv
theorem inv_str {ok : Cells} {w : World} {L : LM} {n : ByteArray} {v : Value} (h : RepV ok w L (.d .str n : EV G) v) : v = .string n := by
  simp only [RepV] at h; simpa [RepD.Inv] using h.2.inv

theorem pickE_rep {ok : Cells} {w : World} {L : LM} (c : Bool) (x y : EV G) (v : Value) (h : RepV ok w L (if c then x else y) v) : RepV ok w L (pickE c x y) v := by
  unfold pickE
  split
  · split
    · rename_i hc
      obtain ⟨e, he⟩ := castD_eq hc
      subst e; subst he
      cases c <;> simpa using h
    · cases c <;> simpa using h
  · cases c <;> simpa using h
theorem pickE_ids (c : Bool) (x y : EV G) : ∀ j ∈ (pickE c x y).ids, j ∈ x.ids ∨ j ∈ y.ids := by
  intro j hj
  unfold pickE at hj
  split at hj
  · split at hj
    · simp [EV.ids] at hj
    · cases c <;> simp [EV.ids] at hj
  · cases c <;> simp at hj <;> simp [hj]

/-! ### types' facts -/
theorem sizeT_run {P : Program} {t n : Nat} (h : sizeT P t = some n) (w : World) : (sizeOf t).run P w = .ok n w := by
  unfold sizeT at h
  split at h
  · rename_i i hi
    cases h
    simp [sizeOf, typeInfo, hi]
  · cases h
theorem sizeT_info {P : Program} {t n : Nat} (h : sizeT P t = some n) : (P.info? t).map (·.size) = some n := by
  unfold sizeT at h
  split at h
  · rename_i i hi; cases h; simp [hi]
  · cases h
theorem aggT_true {P : Program} {t : Nat} (h : aggT P t = some true) : ∃ fs, P.underlying t = some (.struct fs) := by
  unfold aggT at h
  split at h <;> first | (cases h; done) | skip
  rename_i fs hu
  exact ⟨fs, hu⟩
theorem aggT_run {P : Program} {t : Nat} {b : Bool} (h : aggT P t = some b) (w : World) : (isAgg t).run P w = .ok b w := by
  unfold aggT at h
  unfold isAgg
  cases hu : P.underlying t with
  | none => simp [hu] at h
  | some d =>
    rw [Sem.run_bind, run_underlying hu w]
    rw [hu] at h
    cases d <;> simp_all

theorem part_sem {P : Program} {ok : Cells} {w : World} {L : LM} {t n off : Nat} {l : List (EV G)} {cvs : Array Value} {v : EV G} (hn : sizeT P t = some n)
    (h : part P t n off l = some v) (hr : RepVs ok w L l cvs.toList) : ∃ u, (_root_.Go.part t cvs off).run P w = .ok u w ∧ RepV ok w L v u := by
  unfold part at h
  split at h
  · rename_i ha
    obtain ⟨hle, h⟩ := guardb h
    cases h
    refine ⟨.agg (cvs.extract off (off + n)), by simp [_root_.Go.part, aggT_run ha, sizeT_run hn], ?_⟩
    simp only [RepV]
    refine ⟨_, rfl, ?_⟩
    have := RepVs.take n (RepVs.drop off hr)
    simpa [Array.toList_extract, List.extract_eq_take_drop] using this
  · rename_i ha
    obtain ⟨u, hu, hv⟩ := hr.get h
    refine ⟨u, ?_, hv⟩
    have hu' : cvs[off]? = some u := by simpa using hu
    simp [_root_.Go.part, aggT_run ha, hu']
  · cases h
theorem part_ids {P : Program} {t n off : Nat} {l : List (EV G)} {v : EV G} (h : part P t n off l = some v) : ∀ j ∈ v.ids, j ∈ EV.idss l := by
  have mem : ∀ {l : List (EV G)} {i : Nat} {x : EV G}, l[i]? = some x → ∀ j ∈ x.ids, j ∈ EV.idss l := by
    intro l
    induction l with
    | nil => intro i x h; simp at h
    | cons a l ih =>
      intro i x h j hj
      cases i with
      | zero => simp at h; subst h; simp [EV.idss, hj]
      | succ i => simp at h; simp [EV.idss, ih h j hj]
  have drop : ∀ (l : List (EV G)) (n : Nat) j, j ∈ EV.idss (l.drop n) → j ∈ EV.idss l := by
    intro l
    induction l with
    | nil => intro n j h; simpa using h
    | cons a l ih =>
      intro n j h
      cases n with
      | zero => simpa using h
      | succ n => simp at h; simp [EV.idss, ih n j h]
  have take : ∀ (l : List (EV G)) (n : Nat) j, j ∈ EV.idss (l.take n) → j ∈ EV.idss l := by
    intro l
    induction l with
    | nil => intro n j h; simpa using h
    | cons a l ih =>
      intro n j h
      cases n with
      | zero => simp [EV.idss] at h
      | succ n =>
        simp [EV.idss] at h ⊢
        rcases h with h | h
        · exact .inl h
        · exact .inr (ih n j h)
  unfold part at h
  split at h
  · obtain ⟨hle, h⟩ := guardb h
    cases h
    intro j hj
    simp only [EV.ids] at hj
    exact drop _ _ _ (take _ _ _ hj)
  · exact mem h
  · cases h
end Go.Abs
end
section
set_option linter.all false
set_option linter.unusedVariables false
set_option linter.unusedSimpArgs false
set_option linter.unnecessarySimpa false
/-
  ABS, part 6: 'pureOp', operation by operation.
-/
namespace Go.Abs
open Go
variable {G : Gam}

theorem zeroV_rep {ok : Cells} {w : World} {L : LM} {v : Value} {cs : List (EV G)} (h : zeroV v = some cs) : RepVs ok w L cs v.cells.toList := by
  have all : ∀ l : List Value, RepVs ok w L (l.map (ofConst : Value → EV G)) l := by
    intro l
    induction l with
    | nil => simp only [List.map_nil, RepVs]
    | cons a l ih => simp only [List.map_cons, RepVs]; exact ⟨ofConst_rep a, ih⟩
  unfold zeroV at h
  split at h
  · cases h; simpa [Value.cells] using all _
  · rename_i hv
    cases h
    have : v.cells = #[v] := by cases v <;> first | rfl | exact absurd rfl (hv _)
    rw [this]
    exact ⟨ofConst_rep v, trivial⟩
theorem zeroV_ids {v : Value} {cs : List (EV G)} (h : zeroV v = some cs) : EV.idss cs = [] := by
  have all : ∀ l : List Value, EV.idss (l.map (ofConst : Value → EV G)) = [] := by
    intro l
    induction l with
    | nil => rfl
    | cons a l ih => simp only [List.map_cons, EV.idss, ofConst_ids, ih]; rfl
  unfold zeroV at h
  split at h
  · cases h; exact all _
  · cases h; simp [EV.idss, ofConst_ids]
theorem zeroCells_sem {P : Program} {t : Nat} {cs : List (EV G)} (h : zeroCells P t = some cs) (w : World) : ∃ z, (zeroValue t).run P w = .ok z w ∧ ∀ (ok : Cells) (w' : World) (L : LM), RepVs ok w' L cs z.cells.toList := by
  unfold zeroCells at h
  split at h
  · rename_i i hi
    split at h
    · rename_i z hz
      exact ⟨z, by simp [zeroValue, typeInfo, hi, hz], fun ok w' L => zeroV_rep h⟩
    · cases h
  · cases h
theorem zeroCells_ids {P : Program} {t : Nat} {cs : List (EV G)} (h : zeroCells P t = some cs) : EV.idss cs = [] := by
  unfold zeroCells at h
  split at h
  · split at h
    · exact zeroV_ids h
    · cases h
  · cases h

theorem splice_rep {ok : Cells} {w : World} {L : LM} {l m : List (EV G)} {vs us : List Value} (off : Nat) (h : RepVs ok w L l vs) (hm : RepVs ok w L m us) :
    RepVs ok w L (splice l off m) (splice vs off us) := by
  unfold splice
  rw [hm.length]
  exact (h.take off).append (hm.append (h.drop _))
theorem idss_append (l m : List (EV G)) : EV.idss (l ++ m) = EV.idss l ++ EV.idss m := by
  induction l with
  | nil => rfl
  | cons a l ih => simp [EV.idss, ih]
theorem idss_take (l : List (EV G)) (n j : Nat) (h : j ∈ EV.idss (l.take n)) : j ∈ EV.idss l := by
  have := congrArg EV.idss (List.take_append_drop n l)
  rw [idss_append] at this; rw [← this]; simp [h]
theorem idss_drop (l : List (EV G)) (n j : Nat) (h : j ∈ EV.idss (l.drop n)) : j ∈ EV.idss l := by
  have := congrArg EV.idss (List.take_append_drop n l)
  rw [idss_append] at this; rw [← this]; simp [h]
theorem splice_ids {l m : List (EV G)} {off : Nat} (j : Nat) (h : j ∈ EV.idss (splice l off m)) : j ∈ EV.idss l ∨ j ∈ EV.idss m := by
  unfold splice at h
  simp only [idss_append, List.mem_append] at h
  rcases h with h | h | h
  · exact .inl (idss_take _ _ _ h)
  · exact .inr h
  · exact .inl (idss_drop _ _ _ h)
theorem cells_ids' (x : EV G) : EV.idss x.cells = x.ids := by
  cases x <;> simp [EV.cells, EV.idss, EV.ids]

theorem splice_set {α : Type} {c l : List α} {o : Nat} {x : α} (h : o < c.length) : splice (c.set o x) (o + 1) l = splice c o (x :: l) := by
  unfold splice
  have h1 : (c.set o x).take (o + 1) = c.take o ++ [x] := by
    rw [List.set_eq_take_append_cons_drop, if_pos h]
    have : (c.take o).length = o := by simp; omega
    rw [List.take_append, this, List.take_of_length_le (by omega)]
    simp
  have h2 : (c.set o x).drop (o + 1 + l.length) = c.drop (o + (x :: l).length) := by
    rw [List.drop_set_of_lt (by omega)]
    congr 1; simp; omega
  rw [h1, h2]
  simp

/-- The model's filling in of a part. -/
theorem fill_one {cells : Array Value} {off : Nat} {cs : Array Value} (h : off + cs.size ≤ cells.size) :
    (cs.zipIdx.foldl (fun a (c, j) => a.setIfInBounds (off + j) c) cells).toList = splice cells.toList off cs.toList := by
  have key : ∀ (l : List Value) (k : Nat) (c : Array Value), off + k + l.length ≤ c.size →
      ((l.zipIdx k).foldl (fun a (x : Value × Nat) => a.setIfInBounds (off + x.2) x.1) c).toList = splice c.toList (off + k) l := by
    intro l
    induction l with
    | nil => intro k c _; simp [splice]
    | cons a l ih =>
      intro k c hk
      simp only [List.zipIdx_cons, List.foldl_cons]
      rw [ih (k + 1) _ (by simp at hk ⊢; omega)]
      simp only [Array.toList_setIfInBounds]
      exact splice_set (by simp at hk ⊢; omega)
  have := key cs.toList 0 cells (by simpa using h)
  rw [← Array.foldl_toList, Array.toList_zipIdx]
  simpa using this

theorem mapM_places {P : Program} {w : World} : ∀ (fs : List Field), (fs.all fun f => (sizeT P f.type).isSome) = true →
    (fs.mapM (m := Sem) fun f => Prod.mk f.offset <$> sizeOf f.type).run P w = .ok (fs.map fun f => (f.offset, (sizeT P f.type).getD 0)) w := by
  intro fs
  induction fs with
  | nil => intro _; simp
  | cons f fs ih =>
    intro h
    simp only [List.all_cons, Bool.and_eq_true] at h
    cases hs : sizeT P f.type with
    | none => simp [hs] at h
    | some n => simp [List.mapM_cons, sizeT_run hs, ih h.2, hs]

theorem buildE_sem {P : Program} {F : Frm} {nt : Nat} {L : LM} {s : St G} {a : Act} {w : World} (h : Rel F nt L s a w) {t : Nat} (pl : Nat → Option (Nat × Nat))
    (hpl : ∀ f fd n, fieldT P t f = some fd → sizeT P fd.type = some n → pl f = some (fd.offset, n)) :
    ∀ (ps : List (Nat × Operand)) (cs cs' : List (EV G)) (cvs : Array Value), buildE P s t ps cs = some cs' → RepVs (okOf F L s) w L cs cvs.toList →
      ∃ cvs', Instr.fill pl cvs (ps.map fun (i, x) => (i, a.eval x)) = some cvs' ∧ RepVs (okOf F L s) w L cs' cvs'.toList := by
  intro ps
  induction ps with
  | nil => intro cs cs' cvs hb hr; simp only [buildE] at hb; cases hb; exact ⟨cvs, by simp [Instr.fill], hr⟩
  | cons p ps ih =>
    intro cs cs' cvs hb hr
    obtain ⟨f, x⟩ := p
    simp only [buildE] at hb
    split at hb
    · rename_i fd hfd
      split at hb
      · rename_i n hn
        obtain ⟨hc, hb⟩ := guardb hb
        obtain ⟨hc, hs⟩ := band hc
        obtain ⟨h1, h2⟩ := band hc
        have h1 := beqT h1
        have h2 := bleT h2
        have hx := (h.ev x).cells hs
        have hlen := hx.length
        have hcs := hr.length
        have hsz : (a.eval x).cells.size = n := by rw [← h1, hlen]; simp
        have hcl : cvs.size = cs.length := by rw [hcs]; simp
        have hfill := fill_one (cells := cvs) (off := fd.offset) (cs := (a.eval x).cells) (by omega)
        obtain ⟨cvs', hf, hr'⟩ := ih _ cs' ((a.eval x).cells.zipIdx.foldl (fun c (u, j) => c.setIfInBounds (fd.offset + j) u) cvs) hb (by rw [hfill]; exact splice_rep _ hr hx)
        refine ⟨cvs', ?_, hr'⟩
        simp only [List.map_cons, Instr.fill, hpl f fd n hfd hn]
        rw [if_neg]
        · exact hf
        · simp only [hsz, Bool.or_eq_true, decide_eq_true_eq]; simp; omega
      · cases hb
    · cases hb
theorem buildE_ids {P : Program} {s : St G} {t : Nat} : ∀ (ps : List (Nat × Operand)) (cs cs' : List (EV G)), buildE P s t ps cs = some cs' → ∀ j ∈ EV.idss cs', j ∈ EV.idss cs ∨ ∃ p ∈ ps, j ∈ (s.ev p.2).ids := by
  intro ps
  induction ps with
  | nil => intro cs cs' hb j hj; simp only [buildE] at hb; cases hb; exact .inl hj
  | cons p ps ih =>
    intro cs cs' hb j hj
    obtain ⟨f, x⟩ := p
    simp only [buildE] at hb
    split at hb
    · split at hb
      · obtain ⟨_, hb⟩ := guardb hb
        rcases ih _ _ hb j hj with hj | ⟨p, hp, hj⟩
        · rcases splice_ids j hj with hj | hj
          · exact .inl hj
          · exact .inr ⟨(f, x), by simp, by rw [cells_ids'] at hj; exact hj⟩
        · exact .inr ⟨p, by simp [hp], hj⟩
      · cases hb
    · cases hb

section
variable {P : Program} {F : Frm} {nt : Nat} {L : LM} {s : St G} {a : Act} {w : World}

theorem build_sem (h : Rel F nt L s a w) {t : Nat} {parts : Array (Nat × Operand)} {z l : List (EV G)} (hz : zeroCells P t = some z) (hb : buildE P s t parts.toList z = some l)
    {fs : Array Field} (hu : P.underlying t = some (.struct fs)) (hs : fs.toList.all (fun f => (sizeT P f.type).isSome) = true) :
    ∃ u, (Instr.build t (parts.map fun (i, x) => (i, a.eval x))).run P w = .ok u w ∧ RepV (okOf F L s) w L (.ag l) u := by
  obtain ⟨zv, hzv, hzr⟩ := zeroCells_sem hz w
  have hm := mapM_places (P := P) (w := w) fs.toList hs
  have hpl : ∀ f fd n, fieldT P t f = some fd → sizeT P fd.type = some n → ((fs.toList.map fun f => (f.offset, (sizeT P f.type).getD 0)).toArray)[f]? = some (fd.offset, n) := by
    intro f fd n h1 h2
    unfold fieldT at h1
    rw [hu] at h1
    simp only at h1
    have h1' : fs.toList[f]? = some fd := by simpa using h1
    simp [h1, h2]
  obtain ⟨cvs', hf, hr⟩ := buildE_sem h _ hpl parts.toList z l zv.cells hb (hzr _ _ _)
  refine ⟨.agg cvs', ?_, by simp only [RepV]; exact ⟨cvs', rfl, hr⟩⟩
  have hf' : Instr.fill (fun x => (fs.toList.map fun f => (f.offset, (sizeT P f.type).getD 0)).toArray[x]?) zv.cells (parts.toList.map fun x => (x.1, a.eval x.2)) = some cvs' := hf
  simp [Instr.build, run_underlying hu, hzv, Array.mapM_eq_mapM_toList, hm]
  simp at hf'
  simp [hf']

theorem field_sem (h : Rel F nt L s a w) {t f : Nat} {x : Operand} {v : EV G} (hf : fieldE P t f (s.ev x) = some v) :
    ∃ u, (Instr.field t (a.eval x) f).run P w = .ok u w ∧ RepV (okOf F L s) w L v u := by
  unfold fieldE at hf
  split at hf
  · rename_i l hx
    have hv := h.ev x
    rw [hx] at hv
    simp only [RepV] at hv
    obtain ⟨cvs, ha, hr⟩ := hv
    split at hf
    · rename_i fd hfd
      split at hf
      · rename_i n hn
        obtain ⟨u, hu, hp⟩ := part_sem hn hf hr
        refine ⟨u, ?_, hp⟩
        unfold fieldT at hfd
        split at hfd
        · rename_i fs hus
          simp [Instr.field, ha, run_underlying hus, hfd, asAgg, hu]
        · cases hfd
      · cases hf
    · cases hf
  · cases hf

theorem extract_sem (h : Rel F nt L s a w) {i : Nat} {x : Operand} {l : List (EV G)} {v : EV G} (hx : s.ev x = .tp l) (hi : l[i]? = some v) :
    ∃ u, (Instr.extract (a.eval x) i).run P w = .ok u w ∧ RepV (okOf F L s) w L v u := by
  have hv := h.ev x
  rw [hx] at hv
  simp only [RepV] at hv
  obtain ⟨cvs, ha, hr⟩ := hv
  obtain ⟨u, hu, hp⟩ := hr.get hi
  refine ⟨u, ?_, hp⟩
  have : cvs[i]? = some u := by simpa using hu
  simp [Instr.extract, ha, this]

theorem fieldAt_sem (h : Rel F nt L s a w) {t f : Nat} {x : Operand} {v : EV G} (hf : fieldAtE P t f (s.ev x) = some v) :
    ∃ u, (Instr.fieldAt t (a.eval x) f).run P w = .ok u w ∧ RepV (okOf F L s) w L v u := by
  unfold fieldAtE at hf
  split at hf
  · rename_i fd hfd
    split at hf
    · rename_i n hn
      have hpl : ∀ b o, (fieldPlace ⟨b, o, none⟩ fd).run P w = .ok ⟨b, o + fd.offset, none⟩ w := by
        intro b o
        simp [fieldPlace, sizeT_run hn, Addr.add_mid]
      have hus : ∃ fs, P.underlying t = some (.struct fs) ∧ fs[f]? = some fd := by
        unfold fieldT at hfd
        split at hfd
        · rename_i fs hus; exact ⟨fs, hus, hfd⟩
        · cases hfd
      obtain ⟨fs, hus, hfs⟩ := hus
      have hv := h.ev x
      dsimp only at hf
      split at hf
      · rename_i i off hx
        cases hf
        rw [hx] at hv
        simp only [RepV] at hv ⊢
        obtain ⟨l, hl, ha⟩ := hv
        exact ⟨_, by simp [Instr.fieldAt, Instr.sureAddr, ha, run_underlying hus, hfs, hpl], l, hl, rfl⟩
      · rename_i i j off hx
        cases hf
        rw [hx] at hv
        simp only [RepV] at hv ⊢
        obtain ⟨l, hl, hj, ha⟩ := hv
        exact ⟨.pointer (some ⟨l.b, l.off + j * l.sz + off + fd.offset, none⟩), by simp [Instr.fieldAt, Instr.sureAddr, ha, run_underlying hus, hfs, hpl], l, hl, hj, by simp only [Nat.add_assoc]⟩
      · rename_i τ y off hx
        cases hf
        rw [hx] at hv
        simp only [RepV] at hv ⊢
        obtain ⟨b, o, cs, ha, hr, hc⟩ := hv
        exact ⟨.pointer (some ⟨b, o + off + fd.offset, none⟩), by simp [Instr.fieldAt, Instr.sureAddr, ha, run_underlying hus, hfs, hpl], b, o, cs, by simp only [Nat.add_assoc], hr, hc⟩
      · cases hf
    · cases hf
  · cases hf

/-- Cells that are there, read as a variable. -/
theorem loadVar_part {ok : Cells} {t n b o off : Nat} {l : List (EV G)} {cs : List Value} {v : EV G} (hn : sizeT P t = some n) (hp : part P t n off l = some v)
    (hr : RepVs ok w L l cs) (hc : ∀ j u, cs[j]? = some u → w.cell? ⟨b, o + j, none⟩ = some u) :
    ∃ u, (Instr.loadAt t (.pointer (some ⟨b, o + off, none⟩))).run P w = .ok u w ∧ RepV ok w L v u := by
  unfold part at hp
  split at hp
  · rename_i hag
    obtain ⟨hle, hp⟩ := guardb hp
    cases hp
    have hle := bleT hle
    obtain ⟨fs, hus⟩ := aggT_true hag
    have hlen := hr.length
    refine ⟨_, run_loadAt_mid w b (o + off) t ((cs.drop off).take n) (.struct fs) ?_ hus rfl ?_, ?_⟩
    · intro j u hj
      rw [List.getElem?_take] at hj
      split at hj
      · rw [List.getElem?_drop] at hj
        have := hc _ _ hj
        rwa [← Nat.add_assoc] at this
      · cases hj
    · rw [sizeT_info hn]; simp; omega
    · simp only [RepV]
      exact ⟨_, rfl, by simpa using RepVs.take n (RepVs.drop off hr)⟩
  · rename_i hag
    obtain ⟨u, hu, hv⟩ := hr.get hp
    refine ⟨u, ?_, hv⟩
    have := hc _ _ hu
    simp [Instr.loadAt, Instr.sureAddr, loadVar, aggT_run hag, this]
  · cases hp

theorem load_sem (h : Rel F nt L s a w) {t : Nat} {x : Operand} {v : EV G} (hf : loadE P s t (s.ev x) = some v) :
    ∃ u, (Instr.loadAt t (a.eval x)).run P w = .ok u w ∧ RepV (okOf F L s) w L v u := by
  unfold loadE at hf
  have hv := h.ev x
  split at hf
  · rename_i i off hx
    rw [hx] at hv
    simp only [RepV] at hv
    obtain ⟨l, hl, ha⟩ := hv
    split at hf
    · rename_i cs n hcs hn
      obtain ⟨l', cvs, el, hl', hb, hr⟩ := h.e.en i _ hcs
      rw [hl] at hl'; cases hl'
      rw [ha]
      have := loadVar_part (o := 0) (b := l.b) hn hf hr (fun j u hj => by simp only [World.cell?, hb]; simpa using hj)
      simpa using this
    · cases hf
  · rename_i τ y off hx
    rw [hx] at hv
    simp only [RepV] at hv
    obtain ⟨b, o, cs, ha, hr, hc⟩ := hv
    split at hf
    · rename_i n hn
      rw [ha]
      exact loadVar_part hn hf hr.evs (fun j u hj => (hc j u hj).2)
    · cases hf
  · cases hf
end
end Go.Abs
end
section
set_option linter.all false
set_option linter.unusedVariables false
set_option linter.unusedSimpArgs false
set_option linter.unnecessarySimpa false
/-
  ABS, part 7: 'pureOp', the rest of its operations, and the whole.
-/
namespace Go.Abs
open Go
variable {G : Gam}

theorem some_inj {α : Type} {x y : α} (h : some x = some y) : x = y := Option.some.inj h

section
variable {P : Program} {F : Frm} {nt : Nat} {L : LM} {s : St G} {a : Act} {w : World}

theorem repl_slice {ok : Cells} {e : Ty} {xs : List (G.D e)} {v : Value} (h : RepV ok w L (.d (.sl e) xs : EV G) v) : ∃ A c, v = .slice A xs.length c := by
  simp only [RepV] at h
  obtain ⟨A, c, css, hcs, _⟩ := h.2.inv
  simp at hcs
  exact ⟨A, c, hcs⟩

theorem lenE_sem (h : Rel F nt L s a w) {x : Operand} {n : Int} (hl : lenE s (s.ev x) = some n) : ∃ A m c, a.eval x = .slice A m c ∧ n = (m : Int) := by
  have hv := h.ev x
  unfold lenE at hl
  split at hl
  · rename_i e xs hxx
    rw [hxx] at hv
    obtain ⟨A, c, ha⟩ := repl_slice hv
    exact ⟨A, _, c, ha, (some_inj hl).symm⟩
  · rename_i hxx
    rw [hxx] at hv
    simp only [RepV] at hv
    exact ⟨_, _, _, hv, (some_inj hl).symm⟩
  · rename_i id lo m hxx
    rw [hxx] at hv
    simp only [RepV] at hv
    cases hL : L id with
    | none => simp only [hL] at hv; obtain ⟨A, ha, h1, h2⟩ := hv; exact ⟨_, _, _, ha, by rw [← some_inj hl, h2]⟩
    | some l => simp only [hL] at hv; obtain ⟨A, c, ha, _⟩ := hv; exact ⟨_, _, _, ha, (some_inj hl).symm⟩
  · rename_i id hxx
    rw [hxx] at hv
    simp only [RepV] at hv
    split at hl
    · rename_i e xs lock hlk
      have he := h.e.en _ _ hlk
      simp only [RepE] at he
      cases hL : L id with
      | none => simp only [hL] at hv he; obtain ⟨A, ha⟩ := hv; exact ⟨_, _, _, ha, by rw [← some_inj hl, he.2]; rfl⟩
      | some l => simp only [hL] at hv he; obtain ⟨A, c, ha, _⟩ := hv; exact ⟨_, _, _, ha, by rw [← some_inj hl, he.2.2.1]⟩
    · rename_i e xs hlk
      have he := h.e.en _ _ hlk
      simp only [RepE] at he
      cases hL : L id with
      | none => simp only [hL] at hv he; obtain ⟨A, ha⟩ := hv; exact ⟨_, _, _, ha, by rw [← some_inj hl, he]; rfl⟩
      | some l => simp only [hL] at hv he; obtain ⟨A, c, ha, _⟩ := hv; exact ⟨_, _, _, ha, by rw [← some_inj hl, he.2.1]⟩
    · cases hl
  · cases hl

theorem unE_sem {ok : Cells} {op : UnOp} {x v : EV G} {xv : Value} (hu : unE op x = some v) (hx : RepV ok w L x xv) :
    ∃ u, (Op.unary op xv).run P w = .ok u w ∧ RepV ok w L v u := by
  unfold unE at hu
  split at hu
  · rename_i b
    obtain rfl := inv_bool hx
    cases op <;> simp at hu
    subst hu
    exact ⟨_, by simp [Op.unary, bNot], repBool _⟩
  · rename_i k n
    obtain rfl := inv_int hx
    cases op <;> simp at hu
    · subst hu; exact ⟨_, by simp [Op.unary, Op.intArith, iNeg], repInt _ _⟩
    · subst hu; exact ⟨_, by simp [Op.unary, Op.intBits], repInt _ _⟩
  · cases hu

theorem convE_sem {ok : Cells} {src dst : Nat} {x v : EV G} {xv : Value} (hc : convE P src dst x = some v) (hx : RepV ok w L x xv) :
    ∃ u, (convert src dst xv).run P w = .ok u w ∧ RepV ok w L v u := by
  unfold convE at hc
  split at hc
  · rename_i k n
    obtain rfl := inv_int hx
    split at hc
    · rename_i ds k' hds hk
      cases hc
      refine ⟨_, ?_, repInt _ _⟩
      simp [convert, run_underlying hds, run_underlying hk, Conv.intToInt]
    · cases hc
  · rename_i b
    obtain rfl := inv_str hx
    split at hc
    · rename_i hds hk
      cases hc
      refine ⟨_, ?_, repStr _⟩
      simp [convert, run_underlying hds, run_underlying hk]
    · cases hc
  · cases hc

theorem arith_sem {op : BinOp} {k : IntKind} {x y r : Int} (h : cmpE op x y = none) (ha : arithE op k x y = some r) :
    (match op with
    | .add | .sub | .mul => Op.intArith op k x y
    | .quo | .rem => Op.intDiv op k x y
    | .and | .or | .xor | .andNot => Op.intBits op k x y
    | _ => Op.intCmp op x y).run P w = .ok (.int k r) w := by
  cases op <;> simp [arithE] at ha <;> subst ha <;> simp [Op.intArith, Op.intBits]

theorem cmp_sem {op : BinOp} {k : IntKind} {x y : Int} {r : Bool} (h : cmpE op x y = some r) :
    (match op with
    | .add | .sub | .mul => Op.intArith op k x y
    | .quo | .rem => Op.intDiv op k x y
    | .and | .or | .xor | .andNot => Op.intBits op k x y
    | _ => Op.intCmp op x y).run P w = .ok (.bool r) w := by
  cases op <;> simp [cmpE] at h <;> subst h <;> simp [Op.intCmp]

theorem eqGuard_plain {op : BinOp} {t : Nat} {x y : Operand} {u v : Value} (h1 : u ≠ .nilIface) (h2 : ∀ cs, u ≠ .agg cs) : (eqGuard op t x y u v).run P w = .ok () w := by
  cases u <;> first | exact absurd rfl h1 | exact absurd rfl (h2 _) | (cases op <;> first | rfl | (cases v <;> rfl))

theorem eql_run {t : Nat} {x y : Value} {b : Bool} (hb : binOp .eql t x y = (do pure (.bool (← Op.equal t x y)))) (h : (Op.equal t x y).run P w = .ok b w) :
    (binOp .eql t x y).run P w = .ok (.bool b) w := by
  rw [hb]; simp [h]
theorem neq_run {t : Nat} {x y : Value} {b : Bool} (hb : binOp .neq t x y = (do pure (.bool (!(← Op.equal t x y))))) (h : (Op.equal t x y).run P w = .ok b w) :
    (binOp .neq t x y).run P w = .ok (.bool (!b)) w := by
  rw [hb]; simp [h]
theorem equalIn_bool (d : Nat) {t : Nat} (hu : P.underlying t = some .bool) (a b : Bool) : (Op.equalIn (d + 1) t (.bool a) (.bool b)).run P w = .ok (a == b) w := by
  simp [Op.equalIn, run_underlying hu]
theorem equalIn_int (d : Nat) {t : Nat} {k' : IntKind} (hu : P.underlying t = some (.int k')) (k : IntKind) (a b : Int) : (Op.equalIn (d + 1) t (.int k a) (.int k b)).run P w = .ok (a == b) w := by
  simp [Op.equalIn, run_underlying hu]
theorem equalIn_str (d : Nat) {t : Nat} (hu : P.underlying t = some .string) (a b : ByteArray) : (Op.equalIn (d + 1) t (.string a) (.string b)).run P w = .ok (a == b) w := by
  simp [Op.equalIn, run_underlying hu]
theorem equalIn_nl (d : Nat) {t e : Nat} (hu : P.underlying t = some (.slice e)) : (Op.equalIn (d + 1) t (.slice none 0 0) (.slice none 0 0)).run P w = .ok true w := by
  simp [Op.equalIn, run_underlying hu]
theorem equalIn_sn (d : Nat) {t e : Nat} (hu : P.underlying t = some (.slice e)) (a : Addr) (n c : Nat) : (Op.equalIn (d + 1) t (.slice (some a) n c) (.slice none 0 0)).run P w = .ok false w := by
  simp [Op.equalIn, run_underlying hu]
theorem equalIn_fn (d : Nat) {t : Nat} {p r : Array TypeId} {vv : Bool} (hu : P.underlying t = some (.func p r vv)) (f : Fn) (x y : Array Value) : (Op.equalIn (d + 1) t (.func f x y) .nilFunc).run P w = .ok false w := by
  simp [Op.equalIn, run_underlying hu]
theorem equalIn_nf (d : Nat) {t : Nat} {p r : Array TypeId} {vv : Bool} (hu : P.underlying t = some (.func p r vv)) : (Op.equalIn (d + 1) t .nilFunc .nilFunc).run P w = .ok true w := by
  simp [Op.equalIn, run_underlying hu]
theorem equalIn_pt (d : Nat) {t e : Nat} (hu : P.underlying t = some (.pointer e)) (a : Addr) : (Op.equalIn (d + 1) t (.pointer (some a)) (.pointer none)).run P w = .ok false w := by
  simp [Op.equalIn, run_underlying hu]

theorem binE_sem {ok : Cells} {op : BinOp} {t : Nat} {x y v : EV G} {xv yv : Value} {ox oy : Operand} (hb : binE P op t x y = some v) (hx : RepV ok w L x xv) (hy : RepV ok w L y yv) :
    ∃ u, (do eqGuard op t ox oy xv yv; binOp op t xv yv : Sem Value).run P w = .ok u w ∧ RepV ok w L v u := by
  unfold binE at hb
  split at hb
  · rename_i k a k' b
    obtain rfl := inv_int hx
    obtain rfl := inv_int hy
    obtain ⟨hk, hb⟩ := guardb hb
    have hk := of_decide_eq_true hk
    subst hk
    rw [Sem.run_bind, eqGuard_plain (by simp) (by simp)]
    simp only [Result.andThen_ok]
    split at hb
    · rename_i r hr
      cases hb
      refine ⟨_, ?_, repBool r⟩
      have := cmp_sem (P := P) (w := w) (k := k) hr
      cases op <;> simp [cmpE] at hr <;> simpa [binOp] using this
    · rename_i hr
      split at hb
      · rename_i r hr'
        cases hb
        refine ⟨_, ?_, repInt k r⟩
        have := arith_sem (P := P) (w := w) hr hr'
        cases op <;> simp [arithE] at hr' <;> simpa [binOp] using this
      · cases hb
  · rename_i a b
    obtain rfl := inv_str hx
    obtain rfl := inv_str hy
    rw [Sem.run_bind, eqGuard_plain (by simp) (by simp)]
    simp only [Result.andThen_ok]
    split at hb
    · rename_i r hr
      cases hb
      refine ⟨_, ?_, repBool r⟩
      cases op <;> dsimp only [strE] at hr <;> first | (cases hr; done) | (cases hr; simp [binOp, Op.stringOp])
    · cases hb
  · rename_i a b
    obtain rfl := inv_bool hx
    obtain rfl := inv_bool hy
    rw [Sem.run_bind, eqGuard_plain (by simp) (by simp)]
    simp only [Result.andThen_ok]
    split at hb
    · rename_i hu; cases hb; exact ⟨_, eql_run rfl (equalIn_bool 9999 hu a b), repBool _⟩
    · rename_i hu; cases hb; exact ⟨_, neq_run rfl (equalIn_bool 9999 hu a b), repBool _⟩
    · cases hb
  · simp only [RepV] at hx hy
    obtain ⟨A, c, hxs, _⟩ := hx.2.inv
    simp only [List.cons.injEq, and_true] at hxs
    subst hxs; subst hy
    rw [Sem.run_bind, eqGuard_plain (by simp) (by simp)]
    simp only [Result.andThen_ok]
    split at hb
    · rename_i hu; cases hb; exact ⟨_, eql_run rfl (equalIn_sn 9999 hu _ _ _), repBool _⟩
    · rename_i hu; cases hb; exact ⟨_, neq_run rfl (equalIn_sn 9999 hu _ _ _), repBool _⟩
    · cases hb
  · simp only [RepV] at hx hy
    subst hx; subst hy
    rw [Sem.run_bind, eqGuard_plain (by simp) (by simp)]
    simp only [Result.andThen_ok]
    split at hb
    · rename_i hu; cases hb; exact ⟨_, eql_run rfl (equalIn_nl 9999 hu), repBool _⟩
    · rename_i hu; cases hb; exact ⟨_, neq_run rfl (equalIn_nl 9999 hu), repBool _⟩
    · cases hb
  · rename_i f cs
    simp only [RepV] at hx hy
    obtain ⟨cvs, rfl, _⟩ := hx
    obtain ⟨rfl, _⟩ := hy
    rw [Sem.run_bind, eqGuard_plain (by simp) (by simp)]
    simp only [Result.andThen_ok]
    split at hb
    · rename_i hu; cases hb; exact ⟨_, eql_run rfl (equalIn_fn 9999 hu _ _ _), repBool _⟩
    · rename_i hu; cases hb; exact ⟨_, neq_run rfl (equalIn_fn 9999 hu _ _ _), repBool _⟩
    · cases hb
  · simp only [RepV] at hx hy
    obtain ⟨rfl, _⟩ := hx
    obtain ⟨rfl, _⟩ := hy
    rw [Sem.run_bind, eqGuard_plain (by simp) (by simp)]
    simp only [Result.andThen_ok]
    split at hb
    · rename_i hu; cases hb; exact ⟨_, eql_run rfl (equalIn_nf 9999 hu), repBool _⟩
    · rename_i hu; cases hb; exact ⟨_, neq_run rfl (equalIn_nf 9999 hu), repBool _⟩
    · cases hb
  · rename_i i o
    simp only [RepV] at hx hy
    obtain ⟨l, _, rfl⟩ := hx
    obtain ⟨rfl, _⟩ := hy
    rw [Sem.run_bind, eqGuard_plain (by simp) (by simp)]
    simp only [Result.andThen_ok]
    split at hb
    · rename_i hu; cases hb; exact ⟨_, eql_run rfl (equalIn_pt 9999 hu _), repBool _⟩
    · rename_i hu; cases hb; exact ⟨_, neq_run rfl (equalIn_pt 9999 hu _), repBool _⟩
    · cases hb
  · cases hb
theorem binE_ids {op : BinOp} {t : Nat} {x y v : EV G} (hb : binE P op t x y = some v) : v.ids = [] := by
  unfold binE at hb
  split at hb
  · obtain ⟨_, hb⟩ := guardb hb
    split at hb
    · cases hb; rfl
    · split at hb
      · cases hb; rfl
      · cases hb
  · split at hb <;> cases hb; rfl
  all_goals first | (split at hb <;> cases hb <;> rfl) | cases hb

/-! ### structs, cell by cell -/
def asVal (P : Program) (t : TypeId) (xs : List Value) (X : Value) : Prop :=
  ((∃ fs, P.underlying t = some (.struct fs)) ∧ X = .agg xs.toArray) ∨ (aggT P t = some false ∧ xs = [X])

theorem part_val {t n off : Nat} {xs : List Value} {X : Value} (hn : sizeT P t = some n) (h : asVal P t ((xs.drop off).take n) X) :
    (_root_.Go.part t xs.toArray off).run P w = .ok X w := by
  rcases h with ⟨⟨fs, hu⟩, rfl⟩ | ⟨ha, hx⟩
  · have ha : aggT P t = some true := by simp [aggT, hu]
    simp [_root_.Go.part, aggT_run ha, sizeT_run hn]
  · have h0 : ((xs.drop off).take n)[0]? = some X := by rw [hx]; rfl
    rw [List.getElem?_take] at h0
    split at h0
    · rw [List.getElem?_drop, Nat.add_zero] at h0
      have : xs.toArray[off]? = some X := by simpa using h0
      simp [_root_.Go.part, aggT_run ha, this]
    · cases h0

theorem fieldsOf_eq {t : TypeId} {fs : Array Field} (h : P.underlying t = some (.struct fs)) : P.fieldsOf t = fs := by
  simp [Program.fieldsOf, h]

theorem eqT_sem {ok : Cells} : ∀ (n d : Nat) (t : TypeId) (l m : List (EV G)) (xs ys : List Value) (b : Bool), eqStruct P n t = true → eqT P n t l m = some b → RepVs ok w L l xs → RepVs ok w L m ys →
    ∃ X Y, asVal P t xs X ∧ asVal P t ys Y ∧ (Op.equalIn (d + n) t X Y).run P w = .ok b w := by
  intro n
  induction n with
  | zero => intro d t l m xs ys b _ h; cases h
  | succ n ih =>
    intro d t l m xs ys b hs he hx hy
    unfold eqStruct at hs
    unfold eqT at he
    have one : ∀ {x : EV G} {xs : List Value}, RepVs ok w L [x] xs → ∃ X, xs = [X] ∧ RepV ok w L x X := by
      intro x xs h
      cases xs with
      | nil => simp [RepVs] at h
      | cons X r =>
        cases r with
        | nil => simp only [RepVs] at h; exact ⟨X, rfl, h.1⟩
        | cons _ _ => simp [RepVs] at h
    cases hu : P.underlying t with
    | none => simp [hu] at hs
    | some ds =>
      rw [hu] at hs he
      have leaf : (match ds with | .int _ | .bool | .string => True | _ => False) → aggT P t = some false := by
        intro h; simp only [aggT, hu]; cases ds <;> first | rfl | exact h.elim
      cases ds with
      | int k0 =>
        simp only at he
        split at he
        · obtain ⟨X, rfl, hX⟩ := one hx
          obtain ⟨Y, rfl, hY⟩ := one hy
          obtain rfl := inv_int hX
          obtain rfl := inv_int hY
          obtain ⟨hk, he⟩ := guardb he
          have hk := of_decide_eq_true hk
          subst hk
          cases he
          exact ⟨_, _, .inr ⟨leaf trivial, rfl⟩, .inr ⟨leaf trivial, rfl⟩, equalIn_int (d + n) hu _ _ _⟩
        · cases he
      | bool =>
        simp only at he
        split at he
        · obtain ⟨X, rfl, hX⟩ := one hx
          obtain ⟨Y, rfl, hY⟩ := one hy
          obtain rfl := inv_bool hX
          obtain rfl := inv_bool hY
          cases he
          exact ⟨_, _, .inr ⟨leaf trivial, rfl⟩, .inr ⟨leaf trivial, rfl⟩, equalIn_bool (d + n) hu _ _⟩
        · cases he
      | string =>
        simp only at he
        split at he
        · obtain ⟨X, rfl, hX⟩ := one hx
          obtain ⟨Y, rfl, hY⟩ := one hy
          obtain rfl := inv_str hX
          obtain rfl := inv_str hY
          cases he
          exact ⟨_, _, .inr ⟨leaf trivial, rfl⟩, .inr ⟨leaf trivial, rfl⟩, equalIn_str (d + n) hu _ _⟩
        · cases he
      | struct fs =>
        simp only [Bool.and_eq_true, Bool.not_eq_true', List.all_eq_true] at hs
        obtain ⟨hst, hall⟩ := hs
        refine ⟨_, _, .inl ⟨⟨fs, hu⟩, rfl⟩, .inl ⟨⟨fs, hu⟩, rfl⟩, ?_⟩
        have hfo := fieldsOf_eq hu
        rw [show d + (n + 1) = (d + n) + 1 from rfl, run_equalIn_struct w (d + n) t _ _ (by rw [hfo]; exact hu) hst, hfo]
        have he' : eqFs P (eqT P n) l m fs.toList = some b := he
        clear leaf he hs hfo
        generalize fs.toList = gs at he' hall
        induction gs generalizing b with
        | nil => simp only [eqFs] at he'; cases he'; simp [Op.eqFields]
        | cons f gs ihg =>
          have hf := hall f (by simp)
          have hne : f.name ≠ "_" := by simpa using hf.1
          have step : ∀ {k : Nat} {b1 : Bool}, sizeT P f.type = some k → eqT P n f.type ((l.drop f.offset).take k) ((m.drop f.offset).take k) = some b1 →
              ∃ X Y, (_root_.Go.part f.type xs.toArray f.offset).run P w = .ok X w ∧ (_root_.Go.part f.type ys.toArray f.offset).run P w = .ok Y w ∧ (Op.equalIn (d + n) f.type X Y).run P w = .ok b1 w := by
            intro k b1 hk h1
            obtain ⟨X, Y, hX, hY, hr⟩ := ih d f.type _ _ _ _ b1 hf.2 h1 (RepVs.take k (RepVs.drop f.offset hx)) (RepVs.take k (RepVs.drop f.offset hy))
            exact ⟨X, Y, part_val hk hX, part_val hk hY, hr⟩
          cases gs with
          | nil =>
            simp only [eqFs] at he'
            split at he'
            · rename_i k hk
              obtain ⟨X, Y, p1, p2, p3⟩ := step hk he'
              simp only [Op.eqFields, hne, ne_eq, not_false_eq_true, if_true, Sem.run_bind, p1, p2, p3, Result.andThen_ok]
              cases b <;> simp
            · cases he'
          | cons g gs =>
            simp only [eqFs] at he'
            split at he'
            · rename_i k hk
              split at he'
              · rename_i b1 b2 h1 h2
                cases he'
                obtain ⟨X, Y, p1, p2, p3⟩ := step hk h1
                have := ihg b2 h2 (fun f' hf' => hall f' (List.mem_cons_of_mem _ hf'))
                rw [Op.eqFields]
                simp only [hne, ne_eq, not_false_eq_true, if_true, Sem.run_bind, p1, p2, p3, Result.andThen_ok]
                cases b1
                · simp
                · simpa using this
              · cases he'
            · cases he'
      | _ => simp at hs

def EqOK (P : Program) (t : TypeId) : Prop := eqStruct P 8 t = true ∧ P.eqGuardType P.depth t = false

theorem eqS_sem {ok : Cells} {t : TypeId} {l m : List (EV G)} {xv yv : Value} {b : Bool} {ox oy : Operand} (ht : EqOK P t) (he : eqT P 8 t l m = some b) (hst : ∃ fs, P.underlying t = some (.struct fs))
    (hx : RepV ok w L (.ag l) xv) (hy : RepV ok w L (.ag m) yv) :
    (do eqGuard .eql t ox oy xv yv; binOp .eql t xv yv : Sem Value).run P w = .ok (.bool b) w ∧ (do eqGuard .neq t ox oy xv yv; binOp .neq t xv yv : Sem Value).run P w = .ok (.bool (!b)) w := by
  simp only [RepV] at hx hy
  obtain ⟨xs, rfl, hx⟩ := hx
  obtain ⟨ys, rfl, hy⟩ := hy
  obtain ⟨fs, hu⟩ := hst
  obtain ⟨X, Y, hX, hY, hr⟩ := eqT_sem 8 9992 t l m _ _ b ht.1 he hx hy
  have na : aggT P t ≠ some false := by simp [aggT, hu]
  rcases hX with ⟨_, rfl⟩ | ⟨h, _⟩
  · rcases hY with ⟨_, rfl⟩ | ⟨h, _⟩
    · simp only [Array.toArray_toList] at hr
      constructor
      · rw [Sem.run_bind, run_eqGuard_agg w _ _ _ _ _ _ ht.2]
        simp only [Result.andThen_ok]
        rw [run_eql_struct w t xs ys, hr]; rfl
      · rw [Sem.run_bind, run_eqGuard_agg w _ _ _ _ _ _ ht.2]
        simp only [Result.andThen_ok]
        rw [run_neq_struct w t xs ys, hr]; rfl
    · exact absurd h na
  · exact absurd h na

/-! ### max, min -/
theorem foldI_sem {ok : Cells} {f : Int → Int → Int} {g : Value → Value → Sem Value} (hg : ∀ k k' x y, g (.int k x) (.int k' y) = pure (.int k (f x y))) (k : IntKind) :
    ∀ (r : List (EV G)) (x z : Int) (ys : List Value), foldI f x r = some z → RepVs ok w L r ys → (List.foldlM g (.int k x) ys).run P w = .ok (.int k z) w := by
  intro r
  induction r with
  | nil =>
    intro x z ys hz hr
    cases ys with
    | nil => simp only [foldI] at hz; cases hz; simp
    | cons _ _ => simp [RepVs] at hr
  | cons a r ih =>
    intro x z ys hz hr
    cases ys with
    | nil => simp [RepVs] at hr
    | cons Y ys =>
      simp only [RepVs] at hr
      rw [foldI.eq_def] at hz
      split at hz
      · rename_i heq; cases heq
      · rename_i k' y r' heq
        cases heq
        obtain rfl := inv_int hr.1
        have e := hg k k' x y
        rw [List.foldlM_cons]
        exact (congrArg (fun q => (q >>= fun init => List.foldlM g init ys).run P w) e).trans (by rw [pure_bind]; exact ih _ _ _ hz hr.2)
      · cases hz
theorem foldE_sem {ok : Cells} {f : Int → Int → Int} {g : Value → Value → Sem Value} (hg : ∀ k k' x y, g (.int k x) (.int k' y) = pure (.int k (f x y))) {l : List (EV G)} {xs : List Value} {v : EV G}
    (h : foldE f l = some v) (hx : RepVs ok w L l xs) :
    ∃ u, (match xs with | [] => stuck "max" | x :: r => r.foldlM g x : Sem Value).run P w = .ok u w ∧ RepV ok w L v u := by
  unfold foldE at h
  split at h
  · rename_i k x r
    split at h
    · rename_i z hz
      cases h
      cases xs with
      | nil => simp [RepVs] at hx
      | cons X ys =>
        simp only [RepVs] at hx
        obtain ⟨hX, hr⟩ := hx
        obtain rfl := inv_int hX
        exact ⟨_, foldI_sem hg k r x z ys hz hr, repInt k z⟩
    · cases h
  · cases h

/-! ### the whole -/
theorem operand_map (h : Rel F nt L s a w) (l : List Operand) : RepVs (okOf F L s) w L (l.map s.ev) (l.map a.eval) := by
  induction l with
  | nil => simp [RepVs]
  | cons x l ih => simp only [List.map_cons, RepVs]; exact ⟨h.ev x, ih⟩
theorem operand_ids (h : Rel F nt L s a w) (l : List Operand) : ∀ j ∈ EV.idss (l.map s.ev), (s.look j).isSome := by
  induction l with
  | nil => intro j hj; simp [EV.idss] at hj
  | cons x l ih =>
    intro j hj
    simp only [List.map_cons, EV.idss, List.mem_append] at hj
    rcases hj with hj | hj
    · exact h.evIds x j hj
    · exact ih j hj

theorem pick_sem (h : Rel F nt L s a w) {o : Oper} {c x y : Operand} {t : Bool} (ho : o.op = .pick c x y) (hc : s.ev c = .d .bool t) :
    ∃ u, (execOp a.eval o).run P w = .ok (.value u) w ∧ RepV (okOf F L s) w L (pickE t (s.ev x) (s.ev y)) u ∧ ∀ j ∈ (pickE t (s.ev x) (s.ev y)).ids, (s.look j).isSome := by
  have hb := h.bool hc
  refine ⟨if t then a.eval x else a.eval y, by simp [execOp, ho, hb, asBool], pickE_rep t _ _ _ ?_, fun j hj => ?_⟩
  · cases t
    · exact h.ev y
    · exact h.ev x
  · rcases pickE_ids _ _ _ j hj with hj | hj
    · exact h.evIds x j hj
    · exact h.evIds y j hj

theorem pure_run {eqs : List Nat} (heq : ∀ t ∈ eqs, EqOK P t) (h : Rel F nt L s a w) {o : Oper} {v : EV G} (hp : pureOp P eqs s o = some v) :
    ∃ u, (execOp a.eval o).run P w = .ok (.value u) w ∧ RepV (okOf F L s) w L v u ∧ ∀ j ∈ v.ids, (s.look j).isSome := by
  unfold pureOp at hp
  split at hp
  · rename_i x ho; cases hp; exact ⟨a.eval x, by simp [execOp, ho], h.ev x, h.evIds x⟩
  · rename_i x ho; cases hp; exact ⟨a.eval x, by simp [execOp, ho], h.ev x, h.evIds x⟩
  · rename_i c x y ho
    split at hp
    · rename_i t hc
      cases hp
      exact pick_sem h ho hc
    · cases hp
  · rename_i t parts ho
    split at hp
    · rename_i z hz
      split at hp
      · rename_i l hl
        split at hp
        · rename_i fs hu
          obtain ⟨hs, hp⟩ := guardb hp
          cases hp
          obtain ⟨u, hr, hv⟩ := build_sem h hz hl hu hs
          refine ⟨u, by simp [execOp, ho, hr], hv, fun j hj => ?_⟩
          rcases buildE_ids _ _ _ hl j hj with hj | ⟨p, _, hj⟩
          · rw [zeroCells_ids hz] at hj; cases hj
          · exact h.evIds p.2 j hj
        · cases hp
      · cases hp
    · cases hp
  · rename_i t x f ho
    obtain ⟨u, hr, hv⟩ := field_sem h hp
    refine ⟨u, by simp [execOp, ho, hr], hv, fun j hj => ?_⟩
    unfold fieldE at hp
    split at hp
    · rename_i l hx
      split at hp
      · split at hp
        · have := part_ids hp j hj
          exact h.evIds x j (by rw [hx]; exact this)
        · cases hp
      · cases hp
    · cases hp
  · rename_i x i ho
    split at hp
    · rename_i l hx
      obtain ⟨u, hr, hv⟩ := extract_sem (P := P) h hx hp
      refine ⟨u, by simp [execOp, ho, hr], hv, fun j hj => ?_⟩
      have := h.evIds x j
      rw [hx] at this
      apply this
      have mem : ∀ (l : List (EV G)) (i : Nat), l[i]? = some v → j ∈ EV.idss l := by
        intro l
        induction l with
        | nil => intro i h; simp at h
        | cons b l ih =>
          intro i h
          cases i with
          | zero => simp at h; subst h; simp [EV.idss, hj]
          | succ i => simp at h; simp [EV.idss, ih i h]
      exact mem l i hp
    · cases hp
  · rename_i t x f ho
    obtain ⟨u, hr, hv⟩ := fieldAt_sem h hp
    refine ⟨u, by simp [execOp, ho, hr], hv, fun j hj => ?_⟩
    have hx := h.evIds x j
    unfold fieldAtE at hp
    split at hp
    · split at hp
      · dsimp only at hp
        split at hp
        · rename_i he; cases hp; rw [he] at hx; exact hx hj
        · rename_i he; cases hp; rw [he] at hx; exact hx hj
        · cases hp; simp [EV.ids] at hj
        · cases hp
      · cases hp
    · cases hp
  · rename_i t x ho
    obtain ⟨u, hr, hv⟩ := load_sem h hp
    refine ⟨u, by simp [execOp, ho, hr], hv, fun j hj => ?_⟩
    unfold loadE at hp
    split at hp
    · split at hp
      · rename_i cs n hcs _; exact h.e.ids _ _ hcs j (part_ids hp j hj)
      · cases hp
    · split at hp
      · have := part_ids hp j hj
        have none : ∀ l : List (Lf G.S), EV.idss (l.map lfEV) = [] := by
          intro l
          induction l with
          | nil => rfl
          | cons b l ih => cases b; simp only [List.map_cons, EV.idss, lfEV, EV.ids, ih]; rfl
        rw [none] at this; cases this
      · cases hp
    · cases hp
  · rename_i op _ x ho
    obtain ⟨u, hr, hv⟩ := unE_sem (P := P) hp (h.ev x)
    refine ⟨u, by simp [execOp, ho, hr], hv, fun j hj => ?_⟩
    unfold unE at hp
    split at hp
    · split at hp <;> cases hp; simp [EV.ids] at hj
    · split at hp <;> cases hp <;> simp [EV.ids] at hj
    · cases hp
  · rename_i src dst x ho
    obtain ⟨u, hr, hv⟩ := convE_sem hp (h.ev x)
    refine ⟨u, by simp [execOp, ho, hr], hv, fun j hj => ?_⟩
    unfold convE at hp
    split at hp
    · split at hp <;> cases hp; simp [EV.ids] at hj
    · split at hp <;> cases hp; simp [EV.ids] at hj
    · cases hp
  · rename_i x ho
    have hx := h.ev x
    have hxi := h.evIds x
    split at hp
    · rename_i he; cases hp
      rw [he] at hx hxi
      obtain ⟨l, hl, ha⟩ := (by simpa only [RepV] using hx)
      exact ⟨a.eval x, by simp [execOp, ho, ha], hx, hxi⟩
    · rename_i he; cases hp
      rw [he] at hx hxi
      obtain ⟨l, hl, hi, ha⟩ := (by simpa only [RepV] using hx)
      exact ⟨a.eval x, by simp [execOp, ho, ha], hx, hxi⟩
    · rename_i he; cases hp
      rw [he] at hx hxi
      obtain ⟨b, o', cs, ha, hr⟩ := (by simpa only [RepV] using hx)
      exact ⟨a.eval x, by simp [execOp, ho, ha], hx, hxi⟩
    · rename_i he; cases hp
      rw [he] at hx hxi
      obtain ⟨cvs, ha, hr⟩ := (by simpa only [RepV] using hx)
      exact ⟨a.eval x, by simp [execOp, ho, ha], hx, hxi⟩
    · cases hp
  · rename_i f first caps ho
    obtain ⟨hf, hp⟩ := guardb hp
    cases hp
    have hf : first = #[] := by have := beqT hf; exact Array.eq_empty_of_size_eq_zero this
    subst hf
    refine ⟨_, by simp [execOp, ho, Instr.makeFunc]; rfl, ?_, ?_⟩
    · simp only [RepV]
      exact ⟨_, rfl, by simpa using operand_map h caps.toList⟩
    · intro j hj; simp only [EV.ids] at hj; exact operand_ids h _ j hj
  · rename_i op t x y _ ho
    split at hp
    · rename_i l m hx hy
      obtain ⟨hc, hp⟩ := guardb hp
      obtain ⟨ht, hst⟩ := band hc
      have ht := heq t (by simpa using ht)
      have hst : ∃ fs, P.underlying t = some (.struct fs) := by
        split at hst
        · rename_i fs hu; exact ⟨fs, hu⟩
        · cases hst
      split at hp
      · rename_i b hb
        have hxv := h.ev x
        have hyv := h.ev y
        rw [hx] at hxv; rw [hy] at hyv
        obtain ⟨r1, r2⟩ := eqS_sem (ox := x) (oy := y) ht hb hst hxv hyv
        split at hp
        · cases hp; exact ⟨_, by simp only [execOp, ho]; rw [Sem.run_bind, r1]; rfl, repBool _, by simp [EV.ids]⟩
        · cases hp; exact ⟨_, by simp only [execOp, ho]; rw [Sem.run_bind, r2]; rfl, repBool _, by simp [EV.ids]⟩
        · cases hp
      · cases hp
    · obtain ⟨u, hr, hv⟩ := binE_sem (ox := x) (oy := y) hp (h.ev x) (h.ev y)
      exact ⟨u, by simp only [execOp, ho]; rw [Sem.run_bind, hr]; rfl, hv, by rw [binE_ids hp]; simp⟩
  · rename_i args argTypes ho
    split at hp
    · rename_i x t hx ht
      have hx : args = #[x] := by cases args; simpa using hx
      have ht : argTypes = #[t] := by cases argTypes; simpa using ht
      subst hx; subst ht
      split at hp
      · rename_i hu
        split at hp
        · rename_i b hb
          cases hp
          have ha := h.str hb
          refine ⟨_, ?_, repInt .i64 (sLen b), by simp [EV.ids]⟩
          simp [execOp, ho, resolve, invoke, builtin, Builtin.len_, run_underlying hu, ha, goInt, sLen]
        · cases hp
      · rename_i e hu
        split at hp
        · rename_i n hn
          cases hp
          obtain ⟨A, m, c, ha, rfl⟩ := lenE_sem h hn
          refine ⟨_, ?_, repInt .i64 _, by simp [EV.ids]⟩
          simp [execOp, ho, resolve, invoke, builtin, Builtin.len_, run_underlying hu, ha, goInt]
        · cases hp
      · cases hp
    · cases hp
  · rename_i args _ ho
    obtain ⟨u, hr, hv⟩ := foldE_sem (P := P) (g := Builtin.max2) (fun k k' x y => by simp [Builtin.max2, iMax]; by_cases hxy : x < y <;> simp [hxy]) hp (operand_map h args.toList)
    refine ⟨u, ?_, hv, fun j hj => ?_⟩
    · have : (args.map a.eval).toList = args.toList.map a.eval := by simp
      cases hl : args.toList.map a.eval with
      | nil => rw [hl] at hr; simp at hr
      | cons q r =>
        rw [hl] at hr
        simp only at hr
        simp [execOp, ho, resolve, invoke, builtin, Builtin.max_, hl, hr]
    · unfold foldE at hp; split at hp
      · split at hp <;> cases hp; simp [EV.ids] at hj
      · cases hp
  · rename_i args _ ho
    obtain ⟨u, hr, hv⟩ := foldE_sem (P := P) (g := Builtin.min2) (fun k k' x y => by simp [Builtin.min2, iMin]; by_cases hxy : y < x <;> simp [hxy]) hp (operand_map h args.toList)
    refine ⟨u, ?_, hv, fun j hj => ?_⟩
    · cases hl : args.toList.map a.eval with
      | nil => rw [hl] at hr; simp at hr
      | cons q r =>
        rw [hl] at hr
        simp only at hr
        simp [execOp, ho, resolve, invoke, builtin, Builtin.min_, hl, hr]
    · unfold foldE at hp; split at hp
      · split at hp <;> cases hp; simp [EV.ids] at hj
      · cases hp
  · cases hp
end
end Go.Abs
end
section
set_option linter.all false
set_option linter.unusedVariables false
set_option linter.unusedSimpArgs false
set_option linter.unnecessarySimpa false
/-
  ABS, part 8: freezing rows; rows as data; new entries; writing.
-/
namespace Go.Abs
open Go
variable {G : Gam}

theorem frz_look (s : St G) : ∀ (f : List Nat) (i : Nat) (e : Ent G), lookT (frz s f) i = some e → i ∈ f ∧ ∃ τ xs k, s.look i = some (.row τ xs k) ∧ e = .row τ xs xs.length := by
  intro f
  induction f with
  | nil => intro i e h; simp [frz, lookT] at h
  | cons j f ih =>
    intro i e h
    unfold frz at h
    split at h
    · rename_i τ xs k hj
      rw [lookT_cons] at h
      split at h
      · rename_i hij; subst hij; cases h; exact ⟨by simp, τ, xs, k, hj, rfl⟩
      · obtain ⟨h1, h2⟩ := ih i e h; exact ⟨by simp [h1], h2⟩
    · obtain ⟨h1, h2⟩ := ih i e h; exact ⟨by simp [h1], h2⟩
theorem frz_has (s : St G) : ∀ (f : List Nat) (i : Nat) (τ : Ty) (xs : List (G.D τ)) (k : Nat), i ∈ f → s.look i = some (.row τ xs k) → lookT (frz s f) i = some (.row τ xs xs.length) := by
  intro f
  induction f with
  | nil => intro i τ xs k h; cases h
  | cons j f ih =>
    intro i τ xs k h hi
    unfold frz
    by_cases hij : j = i
    · subst hij; rw [hi]; simp only; rw [lookT_cons, if_pos rfl]
    · have h' : i ∈ f := by rcases List.mem_cons.mp h with h | h; exact absurd h.symm hij; exact h
      cases hj : s.look j with
      | none => exact ih i τ xs k h' hi
      | some e =>
        cases e with
        | row τ' ys k' => simp only; rw [lookT_cons, if_neg hij]; exact ih i τ xs k h' hi
        | _ => exact ih i τ xs k h' hi

section
variable {P : Program} {F : Frm} {nt : Nat} {L : LM} {s : St G} {a : Act} {w : World}

/-- Fewer cells are owned: data stays data. -/
theorem keeps_less {s' : St G} (h : ∀ b o, owned s' L b o → owned s L b o) : Keeps (okOf F L s) (okOf F L s') w w :=
  fun b o v h1 h2 => ⟨⟨h1.1, fun h3 => h1.2 (h b o h3)⟩, h2⟩

theorem frz_owned (h : RelE F L s w) (f : List Nat) : ∀ b o, owned (s.upd (frz s f)) L b o → owned s L b o := by
  rintro b o ⟨i, e, l, hi, hl, ho⟩
  rw [St.look_upd] at hi
  cases hf : lookT (frz s f) i with
  | none => rw [hf] at hi; exact ⟨i, e, l, by simpa using hi, hl, ho⟩
  | some e' =>
    rw [hf] at hi
    have : e' = e := by simpa using hi
    subst this
    obtain ⟨_, τ, xs, k, hs, rfl⟩ := frz_look s f i _ hf
    refine ⟨i, _, l, hs, hl, ho.1, Nat.le_trans ?_ ho.2⟩
    have hr := h.en i _ hs
    simp only [RepE] at hr
    exact Nat.add_le_add_left (Nat.mul_le_mul_right _ hr.1) _

theorem Rel.freeze (h : Rel F nt L s a w) (f : List Nat) : Rel F nt L (s.upd (frz s f)) a w := by
  have k : Keeps (okOf F L s) (okOf F L (s.upd (frz s f))) w w := keeps_less (frz_owned h.e f)
  refine h.step (frz s f) h.e.fits k (fun _ _ => rfl) (fun _ _ _ _ _ _ _ _ _ => rfl) ?_ (Nat.le_refl _) ?_ ?_
  · intro i e hi
    obtain ⟨_, τ, xs, kk, hs, rfl⟩ := frz_look s f i _ hi
    refine ⟨?_, by simp [Ent.nms]⟩
    have hr := h.e.en i _ hs
    simp only [RepE] at hr ⊢
    refine ⟨Nat.le_refl _, ?_⟩
    cases hl : L i with
    | none => simpa [hl] using hr.2
    | some l =>
      simp only [hl] at hr
      obtain ⟨_, h1, h2, h3, h4, h5⟩ := hr
      exact ⟨h1, h2, h3, h4, h5.mono k fun o v hc _ => hc⟩
  · intro i j e g l m hi hj hli hmj oe og ne
    obtain ⟨_, τ, xs, kk, hs, rfl⟩ := frz_look s f i _ hi
    rw [St.look_upd] at hj
    cases hf : lookT (frz s f) j with
    | none => rw [hf] at hj; exact h.e.dis i j (.row τ xs kk) _ l m hs (by simpa using hj) hli hmj trivial og ne
    | some e' =>
      obtain ⟨_, τ', xs', kk', hs', q⟩ := frz_look s f j _ hf
      rw [hf] at hj
      have : e' = g := by simpa using hj
      subst this; subst q
      exact h.e.dis i j (.row τ xs kk) (.row τ' xs' kk') l m hs hs' hli hmj trivial trivial ne
  · intro i e l hi hli oe x hx
    obtain ⟨_, τ, xs, kk, hs, rfl⟩ := frz_look s f i _ hi
    have hr := h.e.en i _ hs
    simp only [RepE] at hr
    obtain ⟨h1, h2⟩ := h.e.own i _ l hs hli trivial x hx
    refine ⟨h1, h2.imp id fun h2 o => ⟨fun ho => (h2 o).1 ⟨ho.1, Nat.le_trans ?_ ho.2⟩, (h2 o).2⟩⟩
    exact Nat.add_le_add_left (Nat.mul_le_mul_right _ hr.1) _

/-- What is frozen may be seen as data. -/
theorem frozen_ok (h : Rel F nt L s a w) {f : List Nat} {i : Nat} (hi : i ∈ f) {τ : Ty} {xs : List (G.D τ)} {k : Nat} {l : Loc} (hs : s.look i = some (.row τ xs k)) (hl : L i = some l) :
    ∀ o, l.off ≤ o → o < l.off + l.len * l.sz → okOf F L (s.upd (frz s f)) l.b o := by
  intro o h1 h2
  have hr := h.e.en i _ hs
  simp only [RepE, hl] at hr
  refine ⟨?_, ?_⟩
  · rcases (h.e.ownb i _ l hs hl trivial).2 with h3 | h3
    · exact .inr (.inr h3)
    · exact (h3 o).2
  · rintro ⟨j, e, m, hj, hm, ho⟩
    by_cases hij : i = j
    · subst hij
      rw [hl] at hm; cases hm
      rw [St.look_upd, frz_has s f i τ xs k hi hs] at hj
      simp at hj
      subst hj
      have h3 := ho.2
      rw [← hr.2.2.1] at h3
      omega
    · have key : ∀ e', s.look j = some e' → owner e' → blks e' m l.b → False := fun e' hj' oe hb => h.e.dis i j _ _ l m hs hj' hl hm trivial oe hij l.b rfl hb
      have hb := (owns_blk ho).2
      rw [St.look_upd] at hj
      cases hf : lookT (frz s f) j with
      | none =>
        rw [hf] at hj
        have hj : s.look j = some e := by simpa using hj
        exact key e hj (owns_blk ho).1 hb
      | some e' =>
        obtain ⟨_, τ', xs', kk', hs', q⟩ := frz_look s f j _ hf
        rw [hf] at hj
        have : e' = e := by simpa using hj
        subst this; subst q
        exact key _ hs' trivial hb

/-- Elements in memory, seen as a slice's data. -/
theorem RowAt.data {ok ok' : Cells} {e : Ty} {xs : List (G.D e)} {b off : Nat} (k : Keeps ok ok' w w) (h : RowAt G ok w e xs b off) (lo n : Nat) (hn : lo + n ≤ xs.length) (hok : ∀ o, off ≤ o → o < off + xs.length * szT G e → ok' b o)
    {A : Option Addr} {c : Nat} (hc : n ≤ c) (hA : c = 0 ∨ A = some ⟨b, off + lo * szT G e, none⟩) : RepD G ok' w (.sl e) ((xs.drop lo).take n) [.slice A n c] := by
  obtain ⟨css, hcs⟩ := h
  have hlen : ((xs.drop lo).take n).length = n := by simp; omega
  have hg : ∀ i (hi : i < ((xs.drop lo).take n).length), ((xs.drop lo).take n)[i] = xs[lo + i]'(by omega) := by
    intro i hi; simp
  have := RepD.sl (G := G) (ok := ok') (w := w) e ((xs.drop lo).take n) A c (fun i => css (lo + i)) (by omega) (hA.imp (fun h => h) fun h => ⟨_, h⟩)
    (fun i hi => by rw [hg i hi]; exact (hcs (lo + i) (by omega)).1.mono k)
    (fun i hi => by
      rw [hlen] at hi
      refine ⟨b, off + lo * szT G e, ?_, fun j v hj => ?_⟩
      · rcases hA with h0 | h0
        · omega
        · exact h0
      · have hl := (hcs (lo + i) (by omega)).1.length
        have hj' : j < szT G e := by
          rcases Nat.lt_or_ge j (css (lo + i)).length with h1 | h1
          · omega
          · rw [List.getElem?_eq_none h1] at hj; cases hj
        have hv := (hcs (lo + i) (by omega)).2 j v hj
        have e0 : off + lo * szT G e + (i * szT G e + j) = off + ((lo + i) * szT G e + j) := by rw [Nat.add_mul]; omega
        rw [e0]
        refine ⟨hok _ (by omega) ?_, hv⟩
        have : (lo + i + 1) * szT G e ≤ xs.length * szT G e := Nat.mul_le_mul_right _ (by omega)
        rw [Nat.add_mul] at this; omega)
  rw [hlen] at this
  exact this

theorem RepD.nil {ok : Cells} {e : Ty} {A : Option Addr} {c : Nat} (hA : c = 0 ∨ ∃ a, A = some a) : RepD G ok w (.sl e) ([] : List (G.D e)) [.slice A 0 c] :=
  RepD.sl e [] A c (fun _ => []) (Nat.zero_le _) hA (fun i h => absurd h (Nat.not_lt_zero _)) (fun i h => absurd h (Nat.not_lt_zero _))

theorem asD_sem (h : Rel F nt L s a w) {τ : Ty} {v : EV G} {x : G.D τ} {f : List Nat} {u : Value} (hd : asD s τ v = some (x, f)) (hv : RepV (okOf F L s) w L v u) (ok' : Cells)
    (k : Keeps (okOf F L s) ok' w w)
    (hf : ∀ i ∈ f, ∀ (e : Ty) (xs : List (G.D e)) (n : Nat) (l : Loc), s.look i = some (.row e xs n) → L i = some l → ∀ o, l.off ≤ o → o < l.off + l.len * l.sz → ok' l.b o) :
    τ.leaf = true ∧ RepD G ok' w τ x [u] := by
  have row : ∀ (i : Nat) (e : Ty) (xs : List (G.D e)) (A : Option Addr) (lo n c : Nat), (∃ kk, s.look i = some (.row e xs kk) ∧ i ∈ f) ∨ s.look i = some (.fz e xs) →
      (match L i with | none => lo = 0 ∧ n = 0 ∧ c = 0 | some l => n ≤ c ∧ lo + n ≤ l.len ∧ (c = 0 ∨ A = some ⟨l.b, l.off + lo * l.sz, none⟩)) → RepD G ok' w (.sl e) ((xs.drop lo).take n) [.slice A n c] := by
    intro i e xs A lo n c hi hm
    rcases hi with ⟨kk, hi, hif⟩ | hi
    · have hr := h.e.en i _ hi
      simp only [RepE] at hr
      cases hl : L i with
      | none =>
        simp only [hl] at hm hr
        obtain ⟨rfl, rfl, rfl⟩ := hm
        simpa using RepD.nil (.inl rfl)
      | some l =>
        simp only [hl] at hm hr
        obtain ⟨_, h1, h2, h3, h4, h5⟩ := hr
        exact h5.data k lo n (by omega) (fun o p q => hf i hif e xs kk l hi hl o p (by rw [h1, h2]; exact q)) hm.1 (by rw [← h1]; exact hm.2.2)
    · have hr := h.e.en i _ hi
      simp only [RepE] at hr
      cases hl : L i with
      | none =>
        simp only [hl] at hm hr
        obtain ⟨rfl, rfl, rfl⟩ := hm
        simpa using RepD.nil (.inl rfl)
      | some l =>
        simp only [hl] at hm hr
        obtain ⟨h1, h2, h3, h4⟩ := hr
        obtain ⟨css, hcs⟩ := h4
        -- the cells that are there are data's
        refine RowAt.data (ok := okOf F L s) (ok' := ok') (b := l.b) (off := l.off) k ⟨css, hcs⟩ lo n (by omega) ?_ hm.1 (by rw [← h1]; exact hm.2.2)
        intro o p q
        have hz : 0 < szT G e := by
          rcases Nat.eq_zero_or_pos (szT G e) with hz | hz
          · rw [hz] at q; simp at q; omega
          · exact hz
        have hdiv : szT G e * ((o - l.off) / szT G e) + (o - l.off) % szT G e = o - l.off := Nat.div_add_mod _ _
        have hj' : (o - l.off) % szT G e < szT G e := Nat.mod_lt _ hz
        have hi' : (o - l.off) / szT G e < xs.length := by
          apply Nat.div_lt_of_lt_mul
          rw [Nat.mul_comm]; omega
        have hl' := (hcs _ hi').1.length
        have hg : (css ((o - l.off) / szT G e))[(o - l.off) % szT G e]? = some ((css ((o - l.off) / szT G e))[(o - l.off) % szT G e]'(by omega)) := List.getElem?_eq_getElem (by omega)
        have hcell := (hcs _ hi').2 _ _ hg
        have e0 : l.off + ((o - l.off) / szT G e * szT G e + (o - l.off) % szT G e) = o := by rw [Nat.mul_comm]; omega
        rw [e0] at hcell
        exact (k _ _ _ (h3 o _ p (by rw [h1, h2]; exact q) hcell) hcell).1
  unfold asD at hd
  split at hd
  · rename_i τ' y
    split at hd
    · rename_i z hz
      cases hd
      obtain ⟨e, he⟩ := castD_eq hz
      subst e; subst he
      simp only [RepV] at hv
      exact ⟨hv.1, hv.2.mono k⟩
    · cases hd
  · cases hd
    simp only [RepV] at hv
    subst hv
    exact ⟨rfl, RepD.nil (.inl rfl)⟩
  · rename_i e i
    split at hd
    · rename_i e' xs kk hi
      split at hd
      · rename_i z hz
        cases hd
        obtain ⟨e0, he⟩ := castD_eq hz
        cases e0
        subst he
        simp only [RepV] at hv
        refine ⟨rfl, ?_⟩
        have hr := h.e.en i _ hi
        simp only [RepE] at hr
        cases hl : L i with
        | none =>
          simp only [hl] at hv hr
          obtain ⟨A, rfl⟩ := hv
          rw [hr.2]; exact RepD.nil (.inl rfl)
        | some l =>
          simp only [hl] at hv hr
          obtain ⟨A, c, rfl, p1, p2, p3⟩ := hv
          have := row i _ xs A 0 l.len c (.inl ⟨kk, hi, by simp⟩) (by simp only [hl]; exact ⟨p1, by omega, by simpa using p3⟩)
          have e1 : (xs.drop 0).take l.len = xs := by rw [hr.2.2.1]; simp
          rw [e1] at this; exact this
      · cases hd
    · rename_i e' xs hi
      split at hd
      · rename_i z hz
        cases hd
        obtain ⟨e0, he⟩ := castD_eq hz
        cases e0
        subst he
        simp only [RepV] at hv
        refine ⟨rfl, ?_⟩
        have hr := h.e.en i _ hi
        simp only [RepE] at hr
        cases hl : L i with
        | none =>
          simp only [hl] at hv hr
          obtain ⟨A, rfl⟩ := hv
          rw [hr]; exact RepD.nil (.inl rfl)
        | some l =>
          simp only [hl] at hv hr
          obtain ⟨A, c, rfl, p1, p2, p3⟩ := hv
          have := row i _ xs A 0 l.len c (.inr hi) (by simp only [hl]; exact ⟨p1, by omega, by simpa using p3⟩)
          have e1 : (xs.drop 0).take l.len = xs := by rw [hr.2.1]; simp
          rw [e1] at this; exact this
      · cases hd
    · cases hd
  · rename_i e i lo n
    split at hd
    · rename_i e' xs kk hi
      split at hd
      · rename_i z hz
        cases hd
        obtain ⟨e0, he⟩ := castD_eq hz
        cases e0
        subst he
        simp only [RepV] at hv
        refine ⟨rfl, ?_⟩
        cases hl : L i with
        | none =>
          simp only [hl] at hv
          obtain ⟨A, rfl, p1, p2⟩ := hv
          subst p2
          exact row i _ xs A lo 0 0 (.inl ⟨kk, hi, by simp⟩) (by simp only [hl]; exact ⟨p1, trivial, trivial⟩)
        | some l =>
          simp only [hl] at hv
          obtain ⟨A, c, rfl, p1, p2, p3, p4⟩ := hv
          exact row i _ xs A lo n c (.inl ⟨kk, hi, by simp⟩) (by simp only [hl]; exact ⟨p1, p2, p4⟩)
      · cases hd
    · rename_i e' xs hi
      split at hd
      · rename_i z hz
        cases hd
        obtain ⟨e0, he⟩ := castD_eq hz
        cases e0
        subst he
        simp only [RepV] at hv
        refine ⟨rfl, ?_⟩
        cases hl : L i with
        | none =>
          simp only [hl] at hv
          obtain ⟨A, rfl, p1, p2⟩ := hv
          subst p2
          exact row i _ xs A lo 0 0 (.inr hi) (by simp only [hl]; exact ⟨p1, trivial, trivial⟩)
        | some l =>
          simp only [hl] at hv
          obtain ⟨A, c, rfl, p1, p2, p3, p4⟩ := hv
          exact row i _ xs A lo n c (.inr hi) (by simp only [hl]; exact ⟨p1, p2, p4⟩)
      · cases hd
    · cases hd
  · cases hd
end
end Go.Abs
end
section
set_option linter.all false
set_option linter.unusedVariables false
set_option linter.unusedSimpArgs false
set_option linter.unnecessarySimpa false
/-
  ABS, part 9: new entries, writing into entries.
-/
namespace Go.Abs
open Go
variable {G : Gam}

section
variable {P : Program} {F : Frm} {nt : Nat} {L : LM} {s : St G} {a : Act} {w : World}

theorem asLfs_sem (h : Rel F nt L s a w) (ok' : Cells) (k : Keeps (okOf F L s) ok' w w) : ∀ {τs : List Ty} {vs : List (EV G)} {l : List (Lf G.S)} {f : List Nat} {us : List Value},
    asLfs s τs vs = some (l, f) → RepVs (okOf F L s) w L vs us →
    (∀ i ∈ f, ∀ (e : Ty) (xs : List (G.D e)) (n : Nat) (m : Loc), s.look i = some (.row e xs n) → L i = some m → ∀ o, m.off ≤ o → o < m.off + m.len * m.sz → ok' m.b o) → RepL G ok' w l us := by
  intro τs
  induction τs with
  | nil =>
    intro vs l f us hd hv hf
    cases vs with
    | nil => simp only [asLfs] at hd; cases hd; cases us with | nil => exact .nil | cons _ _ => simp [RepVs] at hv
    | cons _ _ => cases hd
  | cons τ τs ih =>
    intro vs l f us hd hv hf
    cases vs with
    | nil => cases hd
    | cons v vs =>
      cases us with
      | nil => simp [RepVs] at hv
      | cons u us =>
        simp only [RepVs] at hv
        simp only [asLfs] at hd
        split at hd
        · rename_i x f1 h1
          split at hd
          · rename_i l1 g1 h2
            cases hd
            exact .cons _ _ _ _ _ (asD_sem h h1 hv.1 ok' k (fun i hi => hf i (by simp [hi]))).2 (ih h2 hv.2 (fun i hi => hf i (by simp [hi])))
          · cases hd
        · cases hd

theorem asD_cell {τ : Ty} {v : EV G} {x : G.D τ} {f : List Nat} (hl : τ.leaf = true) (hd : asD s τ v = some (x, f)) : v.cell = true := by
  unfold asD at hd
  split at hd
  · split at hd
    · rename_i z hz; obtain ⟨e, he⟩ := castD_eq hz; subst e; simpa [EV.cell] using hl
    · cases hd
  · rfl
  · rfl
  · rfl
  · cases hd

theorem lvT_leaf (e : Ty) : ∀ τ ∈ lvT G e, τ.leaf = true := by
  intro τ h
  cases e with
  | st t => exact G.flat t τ h
  | _ => simp [lvT] at h; subst h; rfl

theorem asLfs_sound {e : Ty} {ts : List Ty} (hts : ∀ τ ∈ ts, τ.leaf = true) {v : EV G} {l : List (Lf G.S)} {f : List Nat} (hd : asLfs s ts v.cells = some (l, f)) : v.sound = true := by
  cases v with
  | ag l => rfl
  | _ =>
    all_goals
      simp only [EV.cells] at hd
      cases ts with
      | nil => cases hd
      | cons τ ts =>
        simp only [asLfs] at hd
        split at hd
        · rename_i x f1 h1
          have := asD_cell (hts τ (by simp)) h1
          simpa [EV.sound] using this
        · cases hd

theorem asEl_sem (h : Rel F nt L s a w) {e : Ty} {v : EV G} {x : G.D e} {f : List Nat} {u : Value} (hd : asEl s e v = some (x, f)) (hv : RepV (okOf F L s) w L v u) (ok' : Cells)
    (k : Keeps (okOf F L s) ok' w w)
    (hf : ∀ i ∈ f, ∀ (e : Ty) (xs : List (G.D e)) (n : Nat) (m : Loc), s.look i = some (.row e xs n) → L i = some m → ∀ o, m.off ≤ o → o < m.off + m.len * m.sz → ok' m.b o) :
    v.sound = true ∧ RepD G ok' w e x u.cells.toList := by
  unfold asEl at hd
  split at hd
  · rename_i l f1 h1
    split at hd
    · rename_i y hy
      cases hd
      have hs := asLfs_sound (e := e) (lvT_leaf e) h1
      exact ⟨hs, RepD.ofCells hy (asLfs_sem h ok' k h1 (hv.cells hs) hf)⟩
    · cases hd
  · cases hd

/-! ### a new block -/
theorem push_old {w w' : World} {o : Obj} (hh : w'.heap = w.heap.push o) {b : Nat} (hb : b < w.heap.size) : w'.heap[b]? = w.heap[b]? := by
  rw [hh, Array.getElem?_push, if_neg (by omega)]
theorem push_new {w w' : World} {o : Obj} (hh : w'.heap = w.heap.push o) : w'.heap[w.heap.size]? = some o := by
  rw [hh, Array.getElem?_push, if_pos rfl]
theorem cell_lt {w : World} {a : Addr} {v : Value} (h : w.cell? a = some v) : a.block < w.heap.size := by
  rcases Nat.lt_or_ge a.block w.heap.size with hl | hl
  · exact hl
  · simp [World.cell?, Array.getElem?_eq_none hl] at h
theorem cell_block {w w' : World} {b : Nat} (h : w'.heap[b]? = w.heap[b]?) (o : Nat) : w'.cell? ⟨b, o, none⟩ = w.cell? ⟨b, o, none⟩ := by
  simp only [World.cell?, h]

theorem Fits.push {w w' : World} {o : Obj} (h : Fits F w) (hh : w'.heap = w.heap.push o) (ho : w'.os = w.os) (ht : w'.tape = w.tape) (hp : w'.output = w.output) : Fits F w' where
  os := by rw [ho]; exact h.os
  tape := by rw [ht]; exact h.tape
  output := by rw [hp]; exact h.output
  size := by rw [hh, Array.size_push]; exact Nat.le_succ_of_le h.size
  block b hb hx := by rw [push_old hh (Nat.lt_of_lt_of_le hb h.size)]; exact h.block b hb hx
  cell b o hb hx := by rw [cell_block (push_old hh (Nat.lt_of_lt_of_le hb h.size))]; exact h.cell b o hb hx

theorem upd1_look (s : St G) (nid : Nat) (e : Ent G) (i : Nat) : (s.upd [(nid, e)]).look i = if nid = i then some e else s.look i := by
  rw [St.look_upd, lookT_cons]
  split <;> simp [lookT]

/-- A new block, and the entry that owns it. -/
theorem Rel.newBlock (h : Rel F nt L s a w) {nid : Nat} (hfree : s.look nid = none) {cvs : Array Value} {el : TypeId} {w' : World} (hh : w'.heap = w.heap.push (.cells cvs el)) (ho : w'.os = w.os) (ht : w'.tape = w.tape) (hp : w'.output = w.output)
    {e : Ent G} (loc : Loc) (hb : loc.b = w.heap.size) (hids : ∀ j ∈ e.nms, (s.look j).isSome)
    (he : ∀ ok' L', Keeps (okOf F L s) ok' w w' → (∀ i, (s.look i).isSome → L' i = L i) → L' nid = some loc → RepE ok' w' L' nid e) (hbk : ∀ x, blks e loc x → x = loc.b := by exact fun _ hx => hx) :
    Rel F nt (fun i => if i = nid then some loc else L i) (s.upd [(nid, e)]) a w' := by
  have nn : ∀ i, (s.look i).isSome → i ≠ nid := fun i hi e => by subst e; rw [hfree] at hi; cases hi
  have k : Keeps (okOf F L s) (okOf F (fun i => if i = nid then some loc else L i) (s.upd [(nid, e)])) w w' := by
    intro b o v h1 h2
    have hlt := cell_lt h2
    refine ⟨⟨h1.1, ?_⟩, by rw [cell_block (push_old hh hlt)]; exact h2⟩
    rintro ⟨i, e', l, hi, hl, hw⟩
    rw [upd1_look] at hi
    by_cases hin : nid = i
    · subst hin
      simp at hl; subst hl
      have he' : e = e' := by simpa using hi
      subst he'
      have : b = loc.b := hbk b (owns_blk hw).2
      rw [this, hb] at hlt
      exact Nat.lt_irrefl _ hlt
    · rw [if_neg hin] at hi
      simp only at hl
      rw [if_neg (Ne.symm hin)] at hl
      exact h1.2 ⟨i, e', l, hi, hl, hw⟩
  have hL : ∀ i, (s.look i).isSome → (fun i => if i = nid then some loc else L i) i = L i := fun i hi => by simp [nn i hi]
  have up : ∀ i e', lookT [(nid, e)] i = some e' → i = nid ∧ e' = e := fun i e' hi => by
    rw [lookT_cons] at hi
    split at hi
    · rename_i hin; cases hi; exact ⟨hin.symm, rfl⟩
    · cases hi
  refine h.step [(nid, e)] (h.e.fits.push hh ho ht hp) k hL ?_ ?_ (by rw [hh, Array.size_push]; exact Nat.le_succ _) ?_ ?_
  · intro i e' l hu hi oe hl x hx
    exact push_old hh (h.e.own i e' l hi hl oe x hx).1
  · intro i e' hi
    obtain ⟨rfl, rfl⟩ := up i e' hi
    refine ⟨he _ _ k hL (by simp), fun j hj => ?_⟩
    rw [upd1_look]; split
    · rfl
    · exact hids j hj
  · intro i j e' f l m hi hj hl hm oe og ne x hx hy
    obtain ⟨rfl, rfl⟩ := up i e' hi
    simp at hl; subst hl
    rw [upd1_look, if_neg ne] at hj
    have hm : (if j = i then some loc else L j) = some m := hm
    rw [if_neg (Ne.symm ne)] at hm
    have := (h.e.own j f m hj hm og x hy).1
    have := hbk x hx
    omega
  · intro i e' l hi hl oe x hx
    obtain ⟨rfl, rfl⟩ := up i e' hi
    simp at hl; subst hl
    rw [hbk x hx, hh, Array.size_push, hb]
    exact ⟨Nat.lt_succ_self _, .inl h.e.fits.size⟩

/-! ### cells set one by one -/
theorem heap_setCells_other (b : Nat) : ∀ (vs : List Value) (o : Nat) (w : World) (c : Nat), c ≠ b → (w.setCells b o vs).heap[c]? = w.heap[c]?
  | [], _, _, _, _ => rfl
  | v :: r, o, w, c, h => by
    rw [World.setCells, heap_setCells_other b r (o + 1) _ c h]
    simp only [World.setCell, Array.getElem?_modify]
    rw [if_neg (by simpa using Ne.symm h)]
theorem heap_setCells (b : Nat) {el : TypeId} {fr : Nat × Nat} : ∀ (vs : List Value) (o : Nat) (w : World) (cur : Array Value), w.heap[b]? = some (.cells cur el fr) → o + vs.length ≤ cur.size →
    (w.setCells b o vs).heap[b]? = some (.cells (splice cur.toList o vs).toArray el fr)
  | [], o, w, cur, h, _ => by rw [World.setCells, h]; simp [splice]
  | v :: r, o, w, cur, h, hl => by
    have h1 : (w.setCell ⟨b, o, none⟩ v).heap[b]? = some (.cells (cur.setIfInBounds o v) el fr) := by
      simp only [World.setCell, Array.getElem?_modify]
      rw [if_pos (by simp), h]
      simp
    rw [World.setCells, heap_setCells b r (o + 1) _ _ h1 (by simp at hl ⊢; omega)]
    simp only [Array.toList_setIfInBounds]
    rw [splice_set (by simp at hl ⊢; omega)]
theorem setCells_size (b : Nat) : ∀ (vs : List Value) (o : Nat) (w : World), (w.setCells b o vs).heap.size = w.heap.size
  | [], _, _ => rfl
  | v :: r, o, w => by rw [World.setCells, setCells_size b r]; simp [World.setCell]
theorem setCells_os (b : Nat) : ∀ (vs : List Value) (o : Nat) (w : World), (w.setCells b o vs).os = w.os ∧ (w.setCells b o vs).tape = w.tape ∧ (w.setCells b o vs).output = w.output
  | [], _, _ => ⟨rfl, rfl, rfl⟩
  | v :: r, o, w => by rw [World.setCells]; exact setCells_os b r (o + 1) _
theorem splice_get {α : Type} {l m : List α} {off : Nat} (h : off + m.length ≤ l.length) (i : Nat) : (splice l off m)[i]? = if i < off then l[i]? else if i < off + m.length then m[i - off]? else l[i]? := by
  unfold splice
  rw [List.getElem?_append]
  have e0 : (l.take off).length = off := by simp; omega
  rw [e0]
  split
  · rename_i hi; rw [List.getElem?_take, if_pos hi]
  · rw [List.getElem?_append]
    split
    · rw [if_pos (by omega)]
    · rw [if_neg (by omega), List.getElem?_drop]
      congr 1; omega

/-- An entry is written to, inside what it owns. -/
theorem Rel.write (h : Rel F nt L s a w) {i : Nat} {e e' : Ent G} {l : Loc} (hi : s.look i = some e) (hl : L i = some l) (oe : owner e) (oe' : owner e') (same : ∀ b o, owns l e' b o ↔ owns l e b o)
    {cur : Array Value} {el : TypeId} (hc : w.heap[l.b]? = some (.cells cur el (0, 0))) {o : Nat} {vs : List Value} (hsz : o + vs.length ≤ cur.size) (hin : ∀ j, j < vs.length → owns l e l.b (o + j))
    (hids : ∀ j ∈ e'.nms, (s.look j).isSome)
    (he : ∀ ok', Keeps (okOf F L s) ok' w (w.setCells l.b o vs) → RepE ok' (w.setCells l.b o vs) L i e') (hbk : ∀ x, blks e' l x → blks e l x := by exact fun _ hx => hx) (hbo : ∀ x, blks e l x → x = l.b := by exact fun _ hx => hx) (hbb : blks e l l.b := by exact rfl) :
    Rel F nt L (s.upd [(i, e')]) a (w.setCells l.b o vs) := by
  have cells : ∀ b o', ¬ owns l e b o' → (w.setCells l.b o vs).cell? ⟨b, o', none⟩ = w.cell? ⟨b, o', none⟩ := by
    intro b o' hn
    by_cases hb : b = l.b
    · subst hb
      simp only [World.cell?, heap_setCells l.b vs o w cur hc hsz, hc]
      simp only [List.getElem?_toArray, Option.isSome_none, Bool.false_eq_true, if_false]
      rw [splice_get (by simpa using hsz)]
      split
      · simp
      · split
        · exfalso
          rename_i h1 h2
          have := hin (o' - o) (by omega)
          rw [show o + (o' - o) = o' by omega] at this
          exact hn this
        · simp
    · exact cell_block (heap_setCells_other l.b vs o w b hb) o'
  have k : Keeps (okOf F L s) (okOf F L (s.upd [(i, e')])) w (w.setCells l.b o vs) := by
    intro b o' v h1 h2
    have hn : ¬ owns l e b o' := fun hw => h1.2 ⟨i, e, l, hi, hl, hw⟩
    refine ⟨⟨h1.1, ?_⟩, by rw [cells b o' hn]; exact h2⟩
    rintro ⟨j, f, m, hj, hm, hw⟩
    rw [upd1_look] at hj
    by_cases hij : i = j
    · subst hij
      rw [if_pos rfl] at hj; cases hj
      rw [hl] at hm; cases hm
      exact hn ((same _ _).mp hw)
    · rw [if_neg hij] at hj
      exact h1.2 ⟨j, f, m, hj, hm, hw⟩
  have up : ∀ j f, lookT [(i, e')] j = some f → j = i ∧ f = e' := fun j f hj => by
    rw [lookT_cons] at hj
    split at hj
    · rename_i hin; cases hj; exact ⟨hin.symm, rfl⟩
    · cases hj
  have own := h.e.ownb i e l hi hl oe hbb
  have hf : Fits F (w.setCells l.b o vs) := by
    have fo := setCells_os l.b vs o w
    refine ⟨by rw [fo.1]; exact h.e.fits.os, by rw [fo.2.1]; exact h.e.fits.tape, by rw [fo.2.2]; exact h.e.fits.output, by rw [setCells_size]; exact h.e.fits.size, ?_, ?_⟩
    · intro b hb hx
      by_cases hbl : b = l.b
      · subst hbl
        rcases own.2 with h1 | h1
        · omega
        · cases vs with
          | nil => exact h.e.fits.block _ hb hx
          | cons v vs => exact absurd ((h1 o).1 (hin 0 (by simp))) (hx o)
      · rw [heap_setCells_other l.b vs o w b hbl]; exact h.e.fits.block b hb hx
    · intro b o' hb hx
      have hn : ¬ owns l e b o' := by
        intro hw
        have hbl : b = l.b := hbo b (owns_blk hw).2
        subst hbl
        rcases own.2 with h1 | h1
        · omega
        · exact hx ((h1 o').1 hw)
      rw [cells b o' hn]; exact h.e.fits.cell b o' hb hx
  refine h.step [(i, e')] hf k (fun _ _ => rfl) ?_ ?_ (by rw [setCells_size]; exact Nat.le_refl _) ?_ ?_
  · intro j f m hu hj og hm x hx
    have hij : i ≠ j := by
      intro e0; subst e0; rw [lookT_cons, if_pos rfl] at hu; cases hu
    exact heap_setCells_other l.b vs o w x (fun hb => h.e.dis i j e f l m hi hj hl hm oe og hij l.b hbb (hb ▸ hx))
  · intro j f hj
    obtain ⟨rfl, rfl⟩ := up j f hj
    refine ⟨he _ k, fun j hj => ?_⟩
    rw [upd1_look]; split
    · rfl
    · exact hids j hj
  · intro j j' f g m m' hj hj' hm hm' og og' ne
    obtain ⟨rfl, rfl⟩ := up j f hj
    rw [hl] at hm; cases hm
    rw [upd1_look, if_neg ne] at hj'
    exact fun x hx => h.e.dis _ _ _ _ _ _ hi hj' hl hm' oe og' ne x (hbk x hx)
  · intro j f m hj hm og x hx
    obtain ⟨rfl, rfl⟩ := up j f hj
    rw [hl] at hm; cases hm
    rw [setCells_size]
    have own := h.e.own _ e _ hi hl oe x (hbk x hx)
    exact ⟨own.1, own.2.imp id fun h1 o' => ⟨fun hw => (h1 o').1 ((same _ _).mp hw), (h1 o').2⟩⟩
end
end Go.Abs
end
section
set_option linter.all false
set_option linter.unusedVariables false
set_option linter.unusedSimpArgs false
set_option linter.unnecessarySimpa false
/-
  ABS, part 10: the other operations, but for calls and append.
-/
namespace Go.Abs
open Go
variable {G : Gam}

/-- What an operation of the evaluator says of the model's: in whatever state that shows it the same operands and the same entries. -/
def OpOK (P : Program) (nt : Nat) (o : Oper) (ev : Operand → EV G) (ids : List Nat) (lk : Nat → Option (Ent G)) (v : EV G) (up : List (Nat × Ent G)) : Prop :=
  ∀ (F : Frm) (L : LM) (s : St G) (a : Act) (w : World), Rel F nt L s a w → (∀ x ∈ o.op.operands, s.ev x = ev x) → (∀ i ∈ ids, s.look i = lk i) →
    o.wp P a w (fun a' w' => ∃ L', Rel F nt L' ((s.upd up).put o.dst v) a' w') (fun _ _ _ => False)

theorem wp_value {P : Program} {o : Oper} {a : Act} {w w' : World} {u : Value} {next : Act → World → Prop} {Q : Exit → Act → World → Prop} (h : (execOp a.eval o).run P w = .ok (.value u) w') (hn : next (a.put o.dst u) w') :
    o.wp P a w next Q := by
  unfold Oper.wp; rw [h]; exact hn
theorem wp_skip' {P : Program} {o : Oper} {a : Act} {w w' : World} {next : Act → World → Prop} {Q : Exit → Act → World → Prop} (h : (execOp a.eval o).run P w = .ok .skip w') (hn : next (a.put o.dst undef) w') :
    o.wp P a w next Q := by
  unfold Oper.wp; rw [h]; exact hn

section
variable {P : Program} {F : Frm} {nt : Nat} {L : LM} {s : St G} {a : Act} {w : World}

theorem Rel.fin (h : Rel F nt L s a w) {o : Oper} (hd : ∀ t, o.dst = some t → t < nt) {v : EV G} {u : Value} (hv : RepV (okOf F L s) w L v u) (hi : ∀ j ∈ v.ids, (s.look j).isSome) :
    ∃ L', Rel F nt L' (s.put o.dst v) (a.put o.dst u) w := ⟨L, h.put o.dst hd v u hv hi⟩

theorem upd_nil (s : St G) : s.upd [] = s := rfl

theorem keeps_self {ok : Cells} : Keeps ok ok w w := fun _ _ _ h1 h2 => ⟨h1, h2⟩

theorem alloc_ok {o : Oper} {t nid : Nat} {cs : List (EV G)} (hd : ∀ t, o.dst = some t → t < nt) (ho : o.op = .alloc t) (hz : zeroCells P t = some cs) (hc : cs.all EV.cell = true) (lk : Nat → Option (Ent G)) (hf : lk nid = none) (ev : Operand → EV G) :
    OpOK P nt o ev [nid] lk (.ptr nid 0) [(nid, .box cs)] := by
  intro F L s a w h hev hlk
  have hfree : s.look nid = none := by rw [hlk nid (by simp)]; exact hf
  obtain ⟨z, hzr, hrep⟩ := zeroCells_sem hz w
  have hn := h.newBlock hfree (cvs := z.cells) (el := t) (w' := w.alloc (.cells z.cells t)) rfl rfl rfl rfl (e := .box cs) ⟨w.heap.size, 0, 0, 0, 0, fun _ _ => False, fun _ => none⟩ rfl
    (by intro j hj; simp only [Ent.nms, zeroCells_ids hz] at hj; cases hj)
    (fun ok' L' k hL hl => ⟨_, z.cells, t, hl, push_new rfl, hrep _ _ _⟩)
  refine wp_value (u := .pointer (some ⟨w.heap.size, 0, none⟩)) (w' := w.alloc (.cells z.cells t)) ?_ ⟨_, hn.put o.dst hd _ _ ?_ ?_⟩
  · simp [execOp, ho, Instr.alloc, hzr, newVar, newRow]
  · simp only [RepV]; exact ⟨⟨w.heap.size, 0, 0, 0, 0, fun _ _ => False, fun _ => none⟩, by simp, rfl⟩
  · intro j hj; simp [EV.ids] at hj; subst hj; rw [upd1_look]; simp

theorem box_ok {o : Oper} {t nid n : Nat} {x : Operand} (hd : ∀ t, o.dst = some t → t < nt) (ho : o.op = .box t x) (lk : Nat → Option (Ent G)) (hf : lk nid = none) (ev : Operand → EV G) (hs : (ev x).sound = true) :
    OpOK P nt o ev [nid] lk (.ptr nid 0) [(nid, .box (ev x).cells)] := by
  intro F L s a w h hev hlk
  have hfree : s.look nid = none := by rw [hlk nid (by simp)]; exact hf
  have hx : s.ev x = ev x := hev x (by simp [ho, Op.operands])
  have hr := (h.ev x)
  rw [hx] at hr
  have hn := h.newBlock hfree (cvs := (a.eval x).cells) (el := t) (w' := w.alloc (.cells (a.eval x).cells t)) rfl rfl rfl rfl (e := .box (ev x).cells) ⟨w.heap.size, 0, 0, 0, 0, fun _ _ => False, fun _ => none⟩ rfl
    (by intro j hj; simp only [Ent.nms, cells_ids'] at hj; exact h.evIds x j (by rw [hx]; exact hj))
    (fun ok' L' k hL hl => ⟨_, _, t, hl, push_new rfl, (hr.cells hs).mono k (fun j hj => .of <| hL j (h.evIds x j (by rw [hx]; rw [cells_ids'] at hj; exact hj)))⟩)
  refine wp_value (u := .pointer (some ⟨w.heap.size, 0, none⟩)) (w' := w.alloc (.cells (a.eval x).cells t)) ?_ ⟨_, hn.put o.dst hd _ _ ?_ ?_⟩
  · simp [execOp, ho, Instr.box, newVar, newRow]
  · simp only [RepV]; exact ⟨⟨w.heap.size, 0, 0, 0, 0, fun _ _ => False, fun _ => none⟩, by simp, rfl⟩
  · intro j hj; simp [EV.ids] at hj; subst hj; rw [upd1_look]; simp

theorem sound_of_all {x : EV G} {n : Nat} (h : x.cells.all EV.cell = true) : x.sound = true := by
  cases x with
  | ag l => rfl
  | _ => simpa [EV.cells, EV.sound] using h

/-- The model's store into cells that may be written. -/
theorem storeAt_run {t n b o : Nat} {u : Value} (hn : sizeT P t = some n) (hu : u.cells.size = n) {cur : Array Value} {el : TypeId} (hc : w.heap[b]? = some (.cells cur el (0, 0))) (hsz : o + n ≤ cur.size)
    (h1 : ∀ v ∈ u.cells.toList, v.oneCell' = true) : (Instr.storeAt t (.pointer (some ⟨b, o, none⟩)) u).run P w = .ok () (w.setCells b o u.cells.toList) := by
  have hin : ∀ j, j < u.cells.toList.length → (w.cell? ⟨b, o + 0 + j, none⟩).isSome = true := by
    intro j hj
    have : o + j < cur.size := by simp at hj; omega
    simp only [World.cell?, hc]
    simp [this]
  have hfz : ∀ j, j < u.cells.toList.length → w.frozen? ⟨b, o + 0 + j, none⟩ = false := by
    intro j hj; simp [World.frozen?, hc]
  have := run_storeCells_cells (P := P) b o u.cells.toList 0 w hin hfz h1
  simp only [Nat.add_zero] at this
  simp [Instr.storeAt, Instr.sureAddr, storeVar, sizeT_run hn, hu, this]

theorem RepVs.oneCell {ok : Cells} {l : List (EV G)} {vs : List Value} (h : RepVs ok w L l vs) (hc : l.all EV.cell = true) : ∀ v ∈ vs, v.oneCell' = true := by
  induction l generalizing vs with
  | nil => cases vs with | nil => intro v hv; cases hv | cons _ _ => simp [RepVs] at h
  | cons x l ih =>
    cases vs with
    | nil => simp [RepVs] at h
    | cons v vs =>
      simp only [RepVs] at h
      simp only [List.all_cons, Bool.and_eq_true] at hc
      intro u hu
      rcases List.mem_cons.mp hu with rfl | hu
      · exact cell_oneCell hc.1 h.1
      · exact ih h.2 hc.2 u hu

theorem storeBox_ok {o : Oper} {t n i off : Nat} {x y : Operand} {cs : List (EV G)} (hd : ∀ t, o.dst = some t → t < nt) (ho : o.op = .store t x y) (hn : sizeT P t = some n) {ev : Operand → EV G} {lk : Nat → Option (Ent G)}
    (hx : ev x = .ptr i off) (hi : lk i = some (.box cs)) (h1 : (ev y).cells.length = n) (h2 : off + n ≤ cs.length) (h3 : (ev y).cells.all EV.cell = true) :
    OpOK P nt o ev [i, i] lk .un [(i, .box (splice cs off (ev y).cells))] := by
  intro F L s a w h hev hlk
  have hxs : s.ev x = .ptr i off := by rw [hev x (by simp [ho, Op.operands]), hx]
  have hys : s.ev y = ev y := hev y (by simp [ho, Op.operands])
  have hb : s.look i = some (.box cs) := by rw [hlk i (by simp), hi]
  have hxv := h.ev x
  rw [hxs] at hxv
  simp only [RepV] at hxv
  obtain ⟨l, hl, hav⟩ := hxv
  obtain ⟨l', cvs, el, hl', hc, hr⟩ := h.e.en i _ hb
  rw [hl] at hl'; cases hl'
  have hyv := h.ev y
  rw [hys] at hyv
  have hyc := hyv.cells (sound_of_all (n := n) h3)
  have hus : (a.eval y).cells.size = n := by have := hyc.length; simp at this; omega
  have hlen := hr.length
  have hsz : off + n ≤ cvs.size := by simp at hlen; omega
  have hw := h.write hb hl trivial (e' := .box (splice cs off (ev y).cells)) trivial (fun _ _ => Iff.rfl) hc (o := off) (vs := (a.eval y).cells.toList) (by simp [hus]; omega) (fun _ _ => rfl)
    (by
      intro j hj
      simp only [Ent.nms] at hj
      rcases splice_ids j hj with hj | hj
      · exact h.e.ids i _ hb j hj
      · rw [cells_ids'] at hj; exact h.evIds y j (by rw [hys]; exact hj))
    (fun ok' k => ⟨l, _, el, hl, heap_setCells l.b _ off w cvs hc (by simp [hus]; omega), by
      simpa using (splice_rep off hr hyc).mono k (fun _ _ => rfl)⟩)
  refine wp_skip' (w' := w.setCells l.b off (a.eval y).cells.toList) ?_ ⟨_, hw.put o.dst hd _ _ rfl (by simp [EV.ids])⟩
  simp only [execOp, ho, hav]
  rw [Sem.run_bind, storeAt_run hn hus hc hsz (hyc.oneCell h3)]
  rfl
end
end Go.Abs
end
section
set_option linter.all false
set_option linter.unusedVariables false
set_option linter.unusedSimpArgs false
set_option linter.unnecessarySimpa false
/-
  ABS, part 11: elements of rows: stores, loads, addresses; slices; numbers.
-/
namespace Go.Abs
open Go
variable {G : Gam}

theorem lockOK_le {lock j : Nat} (h : lockOK lock j = true) : lock ≤ j := by
  cases lock with
  | zero => exact Nat.zero_le _
  | succ n => exact bleT h

section
variable {P : Program} {F : Frm} {nt : Nat} {L : LM} {s : St G} {a : Act} {w : World}

theorem RepL.take {ok : Cells} {l : List (Lf G.S)} {cs : List Value} (h : RepL G ok w l cs) (n : Nat) : RepL G ok w (l.take n) (cs.take n) := by
  induction n generalizing l cs with
  | zero => simpa using RepL.nil
  | succ n ih =>
    cases h with
    | nil => simpa using RepL.nil
    | cons τ x v l vs h t => simp only [List.take_succ_cons]; exact .cons _ _ _ _ _ h (ih t)
theorem RepL.drop {ok : Cells} {l : List (Lf G.S)} {cs : List Value} (h : RepL G ok w l cs) (n : Nat) : RepL G ok w (l.drop n) (cs.drop n) := by
  induction n generalizing l cs with
  | zero => simpa using h
  | succ n ih =>
    cases h with
    | nil => simpa using RepL.nil
    | cons τ x v l vs h t => simp only [List.drop_succ_cons]; exact ih t
theorem RepL.append {ok : Cells} {l m : List (Lf G.S)} {cs ds : List Value} (h : RepL G ok w l cs) (h' : RepL G ok w m ds) : RepL G ok w (l ++ m) (cs ++ ds) := by
  induction l generalizing cs with
  | nil => cases h; simpa using h'
  | cons a l ih => cases h with | cons τ x v _ vs h t => exact .cons _ _ _ _ _ h (ih t)
theorem RepL.splice {ok : Cells} {l m : List (Lf G.S)} {cs ds : List Value} (off : Nat) (h : RepL G ok w l cs) (h' : RepL G ok w m ds) : RepL G ok w (splice l off m) (splice cs off ds) := by
  unfold Abs.splice
  rw [← h'.length]
  exact (h.take off).append (h'.append (h.drop _))

/-- One element of an own row is told anew. -/
theorem Rel.writeEl (h : Rel F nt L s a w) {i : Nat} {e : Ty} {xs : List (G.D e)} {lock j off : Nat} {l : Loc} (hi : s.look i = some (.row e xs lock)) (hl : L i = some l) (hlock : lock ≤ j) (hj : j < xs.length)
    {us : List Value} (hoff : off + us.length ≤ szT G e) {y : G.D e}
    (hy : ∀ cs : List Value, RepD G (okOf F L s) w e xs[j] cs → RepD G (okOf F L s) w e y (splice cs off us)) :
    Rel F nt L (s.upd [(i, .row e (xs.set j y) lock)]) a (w.setCells l.b (l.off + j * l.sz + off) us) := by
  have hr := h.e.en i _ hi
  simp only [RepE, hl] at hr
  obtain ⟨h0, h1, h2, h3, ⟨cvs, el, h4, h5⟩, css, hcs⟩ := hr
  have hlt : (j + 1) * l.sz ≤ l.cap * l.sz := Nat.mul_le_mul_right _ (by omega)
  have hmul : (j + 1) * l.sz = j * l.sz + l.sz := by rw [Nat.add_mul]; simp
  have hcur : l.off + j * l.sz + off + us.length ≤ cvs.size := by omega
  refine h.write (e' := .row e (xs.set j y) lock) hi hl trivial trivial (fun _ _ => Iff.rfl) h4 hcur ?_ (by simp [Ent.nms]) ?_
  · intro q hq
    refine ⟨rfl, ?_⟩
    have : lock * l.sz ≤ j * l.sz := Nat.mul_le_mul_right _ hlock
    omega
  · intro ok' k
    simp only [RepE, hl]
    have hnew := heap_setCells l.b us (l.off + j * l.sz + off) w cvs h4 hcur
    have hyr := hy (css j) (hcs j hj).1
    have hlj := (hcs j hj).1.length
    refine ⟨by simpa using h0, h1, by simpa using h2, h3, ⟨_, el, hnew, ?_⟩, fun q => if q = j then splice (css j) off us else css q, ?_⟩
    · have hsl : (splice cvs.toList (l.off + j * l.sz + off) us).length = cvs.size := by
        unfold splice; simp; omega
      simpa [hsl] using h5
    · intro q hq
      have hq' : q < xs.length := by simpa using hq
      by_cases hqj : q = j
      · subst hqj
        simp only [if_true]
        refine ⟨by simp only [List.getElem_set_self]; exact hyr.mono k, fun p v hp => ?_⟩
        rw [splice_get (by omega)] at hp
        simp only [World.cell?, hnew, Option.isSome_none, Bool.false_eq_true, if_false, List.getElem?_toArray]
        rw [splice_get (by simpa using hcur)]
        rw [← h1]
        split at hp
        · rename_i hlt'
          rw [if_pos (by omega)]
          have := (hcs q hj).2 p v hp
          rw [← h1] at this
          simp only [World.cell?, h4] at this
          simpa [Nat.add_assoc] using this
        · split at hp
          · rename_i hp1 hp2
            rw [if_neg (by omega), if_pos (by omega)]
            rw [← hp]; congr 1; omega
          · rw [if_neg (by omega), if_neg (by omega)]
            have := (hcs q hj).2 p v hp
            rw [← h1] at this
            simp only [World.cell?, h4] at this
            simpa [Nat.add_assoc] using this
      · simp only [if_neg hqj]
        refine ⟨by rw [List.getElem_set_ne (Ne.symm hqj)]; exact (hcs q hq').1.mono k, fun p v hp => ?_⟩
        have := (hcs q hq').2 p v hp
        have hpl : p < szT G e := by
          rcases Nat.lt_or_ge p (css q).length with h6 | h6
          · rw [(hcs q hq').1.length] at h6; exact h6
          · rw [List.getElem?_eq_none h6] at hp; cases hp
        simp only [World.cell?, h4] at this
        simp only [World.cell?, hnew, Option.isSome_none, Bool.false_eq_true, if_false, List.getElem?_toArray]
        rw [splice_get (by simpa using hcur)]
        rw [← h1] at hpl this ⊢
        rcases Nat.lt_or_gt_of_ne hqj with h6 | h6
        · have : (q + 1) * l.sz ≤ j * l.sz := Nat.mul_le_mul_right _ h6
          rw [Nat.add_mul] at this
          rw [if_pos (by omega)]; simpa using ‹_›
        · have h7 : (j + 1) * l.sz ≤ q * l.sz := Nat.mul_le_mul_right _ h6
          rw [Nat.add_mul] at h7
          rw [if_neg (by omega), if_neg (by omega)]; simpa using this

theorem frz_none {f : List Nat} {i : Nat} (hf : f.contains i = false) : lookT (frz s f) i = none := by
  cases h : lookT (frz s f) i with
  | none => rfl
  | some e =>
    obtain ⟨h1, _⟩ := frz_look s f i e h
    have : f.contains i = true := by simpa using h1
    rw [hf] at this; cases this

theorem frzOK (h : Rel F nt L s a w) (f : List Nat) : ∀ i ∈ f, ∀ (e : Ty) (xs : List (G.D e)) (n : Nat) (m : Loc), s.look i = some (.row e xs n) → L i = some m →
    ∀ o, m.off ≤ o → o < m.off + m.len * m.sz → okOf F L (s.upd (frz s f)) m.b o :=
  fun _ hi _ _ _ _ hs hm o p q => frozen_ok h hi hs hm o p q

theorem frz_congr {s' : St G} (f : List Nat) (h : ∀ i ∈ f, s'.look i = s.look i) : frz s' f = frz s f := by
  induction f with
  | nil => rfl
  | cons i f ih =>
    unfold frz
    rw [h i (by simp), ih (fun j hj => h j (by simp [hj]))]

/-- The store of a whole element, or of a part of one. -/
theorem storeEl_ok {o : Oper} {t n i j off lock : Nat} {x y : Operand} {e : Ty} {xs : List (G.D e)} {z : G.D e} {s0 : St G} {f : List Nat} (g : List Nat) (hd : ∀ t, o.dst = some t → t < nt) (ho : o.op = .store t x y) (hn : sizeT P t = some n)
    (hx : s0.ev x = .ept i j off) (hi : s0.look i = some (.row e xs lock)) (hlock : lock ≤ j) (hsz : off + n ≤ szT G e) (hf : f.contains i = false) (hcl : (s0.ev y).cells.length = n)
    (hy : ∀ (F : Frm) (L : LM) (s : St G) (a : Act) (w : World), Rel F nt L s a w → (∀ x ∈ o.op.operands, s.ev x = s0.ev x) → (∀ k ∈ f ++ g, s.look k = s0.look k) → ∀ (hj : j < xs.length),
      (s0.ev y).sound = true ∧ (∀ v ∈ (a.eval y).cells.toList, v.oneCell' = true) ∧ ∀ cs, RepD G (okOf F L (s.upd (frz s0 f))) w e xs[j] cs → RepD G (okOf F L (s.upd (frz s0 f))) w e z (splice cs off (a.eval y).cells.toList)) :
    OpOK P nt o s0.ev ((i :: (f ++ g)) ++ (i :: (frz s0 f).map (·.1))) s0.look .un ((i, .row e (xs.set j z) lock) :: frz s0 f) := by
  intro F L s a w h hev hlk
  have hxs : s.ev x = .ept i j off := by rw [hev x (by simp [ho, Op.operands]), hx]
  have hys : s.ev y = s0.ev y := hev y (by simp [ho, Op.operands])
  have hfg : ∀ k ∈ f ++ g, s.look k = s0.look k := fun k hk => hlk k (by rcases List.mem_append.mp hk with h | h <;> simp [h])
  have hfl : ∀ k ∈ f, s.look k = s0.look k := fun k hk => hfg k (by simp [hk])
  have hb : s.look i = some (.row e xs lock) := by rw [hlk i (by simp), hi]
  have hfz : frz s f = frz s0 f := frz_congr f hfl
  have h1 := h.freeze f
  rw [hfz] at h1
  have hb1 : (s.upd (frz s0 f)).look i = some (.row e xs lock) := by rw [St.look_upd, ← hfz, frz_none hf]; simpa using hb
  have hxv := h.ev x
  rw [hxs] at hxv
  simp only [RepV] at hxv
  obtain ⟨l, hl, hjl, hav⟩ := hxv
  have hr := h.e.en i _ hb
  simp only [RepE, hl] at hr
  obtain ⟨_, r1, r2, r3, ⟨cvs, el, r4, r5⟩, _⟩ := hr
  have hj : j < xs.length := by omega
  obtain ⟨hso, h1c, hyz⟩ := hy F L s a w h hev hfg hj
  have hyv := h.ev y
  rw [hys] at hyv
  have hyc := hyv.cells hso
  have hus : (a.eval y).cells.size = n := by have := hyc.length; simp at this; omega
  have hw := h1.writeEl hb1 hl hlock hj (off := off) (us := (a.eval y).cells.toList) (by simp [hus]; omega) hyz
  have hlt : (j + 1) * l.sz ≤ l.cap * l.sz := Nat.mul_le_mul_right _ (by omega)
  rw [Nat.add_mul] at hlt
  refine wp_skip' (w' := w.setCells l.b (l.off + j * l.sz + off) (a.eval y).cells.toList) ?_ ⟨L, hw.put o.dst hd _ _ rfl (by simp [EV.ids])⟩
  simp only [execOp, ho, hav]
  rw [Sem.run_bind, storeAt_run hn hus r4 (by omega) h1c]
  rfl

theorem loadEl_ok {o : Oper} {t n i j off lock : Nat} {x : Operand} {e : Ty} {xs : List (G.D e)} {z : G.D e} {v : EV G} {s0 : St G} (hd : ∀ t, o.dst = some t → t < nt) (ho : o.op = .load t x) (hn : sizeT P t = some n)
    (hx : s0.ev x = .ept i j off) (hi : s0.look i = some (.row e xs lock)) (hz : xs[j]? = some z) (hp : part P t n off ((cellsT G e z).map lfEV) = some v) :
    OpOK P nt o s0.ev [i] s0.look v [] := by
  intro F L s a w h hev hlk
  have hxs : s.ev x = .ept i j off := by rw [hev x (by simp [ho, Op.operands]), hx]
  have hb : s.look i = some (.row e xs lock) := by rw [hlk i (by simp), hi]
  have hxv := h.ev x
  rw [hxs] at hxv
  simp only [RepV] at hxv
  obtain ⟨l, hl, hjl, hav⟩ := hxv
  have hr := h.e.en i _ hb
  simp only [RepE, hl] at hr
  obtain ⟨_, r1, r2, r3, _, css, hcs⟩ := hr
  have hj : j < xs.length := by omega
  have hzj : xs[j] = z := by rw [List.getElem?_eq_getElem hj] at hz; exact some_inj hz
  have hd1 := (hcs j hj).1
  rw [hzj] at hd1
  obtain ⟨u, hu, hv⟩ := loadVar_part (P := P) (w := w) (b := l.b) (o := l.off + j * l.sz) (L := L) hn hp hd1.evs (fun q u hq => by
    have := (hcs j hj).2 q u hq
    rw [← r1] at this
    rwa [← Nat.add_assoc] at this)
  refine wp_value (u := u) (w' := w) (by simp [execOp, ho, hav, hu]) (h.fin hd hv ?_)
  intro q hq
  have := part_ids hp q hq
  have none : ∀ l : List (Lf G.S), EV.idss (l.map lfEV) = [] := by
    intro l
    induction l with
    | nil => rfl
    | cons b l ih => cases b; simp only [List.map_cons, EV.idss, lfEV, EV.ids, ih]; rfl
  rw [none] at this; cases this
end
end Go.Abs
end
section
set_option linter.all false
set_option linter.unusedVariables false
set_option linter.unusedSimpArgs false
set_option linter.unnecessarySimpa false
/-
  ABS, part 12: addresses of elements, new rows, parts of rows, numbers.
-/
namespace Go.Abs
open Go
variable {G : Gam}

section
variable {P : Program} {F : Frm} {nt : Nat} {L : LM} {s : St G} {a : Act} {w : World}

theorem ixo_some {α : Type} {xs : List α} {i : Int} {y : α} (h : ixo xs i = some y) : 0 ≤ i ∧ i < xs.length ∧ xs[i.toNat]? = some y := by
  unfold ixo at h
  obtain ⟨h0, h1⟩ := guardn h
  have h0 := of_decide_eq_false h0
  have : i.toNat < xs.length := by
    rcases Nat.lt_or_ge i.toNat xs.length with h2 | h2
    · exact h2
    · rw [List.getElem?_eq_none h2] at h1; cases h1
  exact ⟨by omega, by omega, h1⟩

theorem elemT_under {t et : Nat} (h : elemT P t = some et) : P.underlying t = some (.slice et) := by
  unfold elemT at h
  split at h
  · rename_i e hu; cases h; exact hu
  · cases h

theorem indexAt_run {t et z : Nat} (hu : P.underlying t = some (.slice et)) (hz : sizeT P et = some z) {k : IntKind} {i : Int} {b o n c : Nat} (h0 : 0 ≤ i) (h1 : i < n) :
    (Instr.indexAt t (.slice (some ⟨b, o, none⟩) n c) (.int k i)).run P w = .ok (.pointer (some ⟨b, o + i.toNat * z, none⟩)) w := by
  simp [Instr.indexAt, asIntOf, run_underlying hu, sizeT_run hz, h0, h1, Addr.add_mid]

theorem indexData_ok {o : Oper} {t et : Nat} {x ix : Operand} {k : IntKind} {i : Int} {e : Ty} {xs : List (G.D e)} {y : G.D e} {s0 : St G} (hd : ∀ t, o.dst = some t → t < nt) (ho : o.op = .indexAddr t x ix) (he : elemT P t = some et)
    (hz : sizeT P et = some (szT G e)) (hx : s0.ev x = .d (.sl e) xs) (hix : s0.ev ix = .d (.int k) i) (hy : ixo xs i = some y) : OpOK P nt o s0.ev [] s0.look (.rp e y 0) [] := by
  intro F L s a w h hev hlk
  have hxs : s.ev x = .d (.sl e) xs := by rw [hev x (by simp [ho, Op.operands]), hx]
  have hixs : s.ev ix = .d (.int k) i := by rw [hev ix (by simp [ho, Op.operands]), hix]
  have hiv := h.int hixs
  have hxv := h.ev x
  rw [hxs] at hxv
  simp only [RepV] at hxv
  obtain ⟨A, c, css, hcs, hc, hA0, hel, hm⟩ := hxv.2.inv
  obtain ⟨h0, h1, h2⟩ := ixo_some hy
  have hlt : i.toNat < xs.length := by omega
  obtain ⟨b, o', hA, hcell⟩ := hm i.toNat hlt
  have hav : a.eval x = .slice (some ⟨b, o', none⟩) xs.length c := by simp at hcs; rw [hcs, hA]
  refine wp_value (u := .pointer (some ⟨b, o' + i.toNat * szT G e, none⟩)) (w' := w) ?_ (h.fin hd ?_ (by simp [EV.ids]))
  · simp only [execOp, ho, hav, hiv]
    rw [Sem.run_bind, indexAt_run (elemT_under he) hz h0 h1]; rfl
  · simp only [RepV]
    have hyx : xs[i.toNat] = y := by rw [List.getElem?_eq_getElem hlt] at h2; exact some_inj h2
    refine ⟨b, o' + i.toNat * szT G e, css i.toNat, rfl, by rw [← hyx]; exact hel _ hlt, fun j v hj => ?_⟩
    have := hcell j v hj
    rwa [← Nat.add_assoc] at this

theorem indexOwn_ok {o : Oper} {t et : Nat} {x ix : Operand} {k : IntKind} {i : Int} {e : Ty} {xs : List (G.D e)} {lock id lo : Nat} {s0 : St G} (hd : ∀ t, o.dst = some t → t < nt) (ho : o.op = .indexAddr t x ix) (he : elemT P t = some et)
    (hz : sizeT P et = some (szT G e)) (hrow : s0.look id = some (.row e xs lock)) (hix : s0.ev ix = .d (.int k) i) (h0 : 0 ≤ i)
    (hx : (s0.ev x = .ow id ∧ lo = 0 ∧ i < xs.length) ∨ ∃ n, s0.ev x = .vw id lo n ∧ i < (n : Int)) : OpOK P nt o s0.ev [id] s0.look (.ept id (lo + i.toNat) 0) [] := by
  intro F L s a w h hev hlk
  have hixs : s.ev ix = .d (.int k) i := by rw [hev ix (by simp [ho, Op.operands]), hix]
  have hxe : s.ev x = s0.ev x := hev x (by simp [ho, Op.operands])
  have hb : s.look id = some (.row e xs lock) := by rw [hlk id (by simp), hrow]
  have hiv := h.int hixs
  have hr := h.e.en id _ hb
  simp only [RepE] at hr
  have hxv := h.ev x
  have hxi := h.evIds x
  rw [hxe] at hxv hxi
  have key : ∃ l A n c, L id = some l ∧ a.eval x = .slice A n c ∧ i < n ∧ lo + n ≤ l.len ∧ A = some ⟨l.b, l.off + lo * l.sz, none⟩ := by
    rcases hx with ⟨hx, rfl, hlt⟩ | ⟨n, hx, hlt⟩
    · rw [hx] at hxv
      simp only [RepV] at hxv
      cases hl : L id with
      | none => simp only [hl] at hr; rw [hr.2] at hlt; simp at hlt; omega
      | some l =>
        simp only [hl] at hr hxv
        obtain ⟨A, c, hav, p1, p2, p3⟩ := hxv
        have := hr.2.2.1
        exact ⟨l, A, l.len, c, rfl, hav, by omega, by omega, by rcases p3 with p3 | p3; omega; simpa using p3⟩
    · rw [hx] at hxv
      simp only [RepV] at hxv
      cases hl : L id with
      | none => simp only [hl] at hxv; obtain ⟨A, hav, p1, p2⟩ := hxv; subst p2; simp at hlt; omega
      | some l =>
        simp only [hl] at hxv
        obtain ⟨A, c, hav, p1, p2, p3, p4⟩ := hxv
        exact ⟨l, A, n, c, rfl, hav, hlt, p2, by rcases p4 with p4 | p4; omega; exact p4⟩
  obtain ⟨l, A, n, c, hl, hav, hin, hle, rfl⟩ := key
  simp only [hl] at hr
  refine wp_value (u := .pointer (some ⟨l.b, l.off + lo * l.sz + i.toNat * szT G e, none⟩)) (w' := w) ?_ (h.fin hd ?_ ?_)
  · simp only [execOp, ho, hav, hiv]
    rw [Sem.run_bind, indexAt_run (elemT_under he) hz h0 hin]; rfl
  · simp only [RepV]
    refine ⟨l, hl, by omega, ?_⟩
    rw [← hr.2.1, Nat.add_mul, Nat.add_zero]
    simp only [Nat.add_assoc]
  · intro j hj
    simp [EV.ids] at hj
    subst hj
    simp [hb]

theorem asD_congr {s s' : St G} {τ : Ty} {v : EV G} (h : ∀ i ∈ v.ids, s'.look i = s.look i) : asD s' τ v = asD s τ v := by
  cases v <;> cases τ <;> first | rfl | (simp only [asD]; rw [h _ (by simp [EV.ids])])

/-- A row that is frozen is read as data is. -/
theorem indexFz_ok {o : Oper} {t et : Nat} {x ix : Operand} {k : IntKind} {i : Int} {e : Ty} {xs ys : List (G.D e)} {y : G.D e} {id : Nat} {s0 : St G} (hd : ∀ t, o.dst = some t → t < nt) (ho : o.op = .indexAddr t x ix) (he : elemT P t = some et)
    (hz : sizeT P et = some (szT G e)) (hrow : s0.look id = some (.fz e xs)) (hix : s0.ev ix = .d (.int k) i)
    (hx : asD s0 (.sl e) (s0.ev x) = some (ys, [])) (hids : (s0.ev x).ids = [id]) (hy : ixo ys i = some y) : OpOK P nt o s0.ev [id] s0.look (.rp e y 0) [] := by
  intro F L s a w h hev hlk
  have hixs : s.ev ix = .d (.int k) i := by rw [hev ix (by simp [ho, Op.operands]), hix]
  have hxe : s.ev x = s0.ev x := hev x (by simp [ho, Op.operands])
  have hb : s.look id = some (.fz e xs) := by rw [hlk id (by simp), hrow]
  have hiv := h.int hixs
  have hx' : asD s (.sl e) (s.ev x) = some (ys, []) := by
    rw [hxe, ← hx]
    exact asD_congr (by rw [hids]; intro i hi; simp at hi; subst hi; rw [hb, hrow])
  obtain ⟨_, hrd⟩ := asD_sem h hx' (h.ev x) (okOf F L s) keeps_self (by intro i hi; cases hi)
  obtain ⟨A, c, css, hcs, hc, hA0, hel, hm⟩ := hrd.inv
  obtain ⟨h0, h1, h2⟩ := ixo_some hy
  have hlt : i.toNat < ys.length := by omega
  obtain ⟨b, o', hA, hcell⟩ := hm i.toNat hlt
  have hav : a.eval x = .slice (some ⟨b, o', none⟩) ys.length c := by simp at hcs; rw [hcs, hA]
  refine wp_value (u := .pointer (some ⟨b, o' + i.toNat * szT G e, none⟩)) (w' := w) ?_ (h.fin hd ?_ (by simp [EV.ids]))
  · simp only [execOp, ho, hav, hiv]
    rw [Sem.run_bind, indexAt_run (elemT_under he) hz h0 h1]; rfl
  · simp only [RepV]
    have hyx : ys[i.toNat] = y := by rw [List.getElem?_eq_getElem hlt] at h2; exact some_inj h2
    refine ⟨b, o' + i.toNat * szT G e, css i.toNat, rfl, by rw [← hyx]; exact hel _ hlt, fun j v hj => ?_⟩
    have := hcell j v hj
    rwa [← Nat.add_assoc] at this

theorem indexStr_ok {o : Oper} {t : Nat} {x ix : Operand} {k : IntKind} {i : Int} {b : ByteArray} {y : UInt8} {s0 : St G} (hd : ∀ t, o.dst = some t → t < nt) (ho : o.op = .index t x ix) (hu : P.underlying t = some .string)
    (hx : s0.ev x = .d .str b) (hix : s0.ev ix = .d (.int k) i) (hy : ixo b.data.toList i = some y) : OpOK P nt o s0.ev [] s0.look (.d (.int .u8) ((y.toNat : Nat) : Int)) [] := by
  intro F L s a w h hev hlk
  have hxs : s.ev x = .d .str b := by rw [hev x (by simp [ho, Op.operands]), hx]
  have hixs : s.ev ix = .d (.int k) i := by rw [hev ix (by simp [ho, Op.operands]), hix]
  have hiv := h.int hixs
  have hav := h.str hxs
  obtain ⟨h0, h1, h2⟩ := ixo_some hy
  refine wp_value (u := .int .u8 (y.toNat : Int)) (w' := w) ?_ (h.fin hd (repInt _ _) (by simp [EV.ids]))
  have hg : b[i.toNat]? = some y := by
    have hlt : i.toNat < b.size := by
      have : b.data.toList.length = b.size := Array.length_toList
      omega
    rw [getElem?_pos b i.toNat hlt]
    have hl : i.toNat < b.data.toList.length := by rw [Array.length_toList]; exact hlt
    rw [List.getElem?_eq_getElem hl] at h2
    have h3 := some_inj h2
    rw [← h3]; rfl
  simp [execOp, ho, Instr.index, asIntOf, hav, hiv, run_underlying hu, h0, hg]

/-! ### new rows -/
/-- Elements, one after the other, in a new block. -/
theorem concat_get (sz : Nat) : ∀ (ls : List (List Value)), (∀ l ∈ ls, l.length = sz) → ∀ (i j : Nat) (v : Value), (ls[i]?).bind (·[j]?) = some v → ls.flatten[i * sz + j]? = some v := by
  intro ls
  induction ls with
  | nil => intro _ i j v h; simp at h
  | cons l ls ih =>
    intro hl i j v h
    have h0 := hl l (by simp)
    rw [List.flatten_cons]
    cases i with
    | zero =>
      simp at h
      have : j < l.length := by
        rcases Nat.lt_or_ge j l.length with h1 | h1
        · exact h1
        · rw [List.getElem?_eq_none h1] at h; cases h
      rw [Nat.zero_mul, Nat.zero_add, List.getElem?_append_left this]; exact h
    | succ i =>
      simp at h
      have := ih (fun l' h' => hl l' (by simp [h'])) i j v (by simpa using h)
      rw [List.getElem?_append_right (by rw [h0, Nat.add_mul]; omega), h0]
      rw [show (i + 1) * sz + j - sz = i * sz + j by rw [Nat.add_mul]; omega]
      exact this

/-- A new block of elements, as an own row. -/
theorem Rel.newRow (h : Rel F nt L s a w) {nid : Nat} (hfree : s.look nid = none) {el : TypeId} {w' : World} {cvs : Array Value} (hh : w'.heap = w.heap.push (.cells cvs el)) (ho : w'.os = w.os) (ht : w'.tape = w.tape) (hp : w'.output = w.output)
    {e : Ty} {xs : List (G.D e)} {cap : Nat} (hcap : xs.length ≤ cap) (hsz : cap * szT G e ≤ cvs.size) {ls : List (List Value)} (hls : ls.length = xs.length)
    (hel : ∀ i (hi : i < xs.length), ∃ l, ls[i]? = some l ∧ RepD G (okOf F L s) w e xs[i] l) (hcv : ∃ r, cvs.toList = ls.flatten ++ r) :
    Rel F nt (fun i => if i = nid then some ⟨w.heap.size, 0, szT G e, cap, xs.length, fun _ _ => False, fun _ => none⟩ else L i) (s.upd [(nid, .row e xs 0)]) a w' := by
  have hlen : ∀ l ∈ ls, l.length = szT G e := by
    intro l hl
    obtain ⟨i, hi, rfl⟩ := List.mem_iff_getElem.mp hl
    obtain ⟨l', h1, h2⟩ := hel i (by omega)
    rw [List.getElem?_eq_getElem hi] at h1
    rw [some_inj h1]; exact h2.length
  refine h.newBlock hfree hh ho ht hp ⟨w.heap.size, 0, szT G e, cap, xs.length, fun _ _ => False, fun _ => none⟩ rfl (by simp [Ent.nms]) ?_
  intro ok' L' k hL hl
  simp only [RepE, hl]
  refine ⟨Nat.zero_le _, by first | rfl | trivial, by first | rfl | trivial, hcap, ⟨cvs, el, push_new hh, by omega⟩, fun i => (ls[i]?).getD [], fun i hi => ?_⟩
  obtain ⟨l, h1, h2⟩ := hel i hi
  refine ⟨by simp only [h1, Option.getD_some]; exact h2.mono k, fun j v hj => ?_⟩
  simp only [h1, Option.getD_some] at hj
  obtain ⟨r, hr⟩ := hcv
  have hg := concat_get (szT G e) ls hlen i j v (by rw [h1]; exact hj)
  have hlt : i * szT G e + j < ls.flatten.length := by
    rcases Nat.lt_or_ge (i * szT G e + j) ls.flatten.length with h3 | h3
    · exact h3
    · rw [List.getElem?_eq_none h3] at hg; cases hg
  have : cvs[i * szT G e + j]? = some v := by
    rw [← Array.getElem?_toList, hr, List.getElem?_append_left hlt]; exact hg
  simp only [World.cell?, push_new hh, Nat.zero_add, Option.isSome_none, Bool.false_eq_true, if_false]
  exact this

theorem new_ow {nid : Nat} {e : Ty} {xs : List (G.D e)} {b cap n : Nat} {ok : Cells} {w' : World} (hn : n = xs.length) (h1 : n ≤ cap) :
    RepV ok w' (fun i => if i = nid then some ⟨b, 0, szT G e, cap, xs.length, fun _ _ => False, fun _ => none⟩ else L i) (.ow nid : EV G) (.slice (some ⟨b, 0, none⟩) n cap) := by
  simp only [RepV, if_true]
  exact ⟨_, cap, by rw [hn], by omega, Nat.le_refl _, .inr rfl⟩

theorem zeroEl_sem (h : Rel F nt L s a w) {e : Ty} {et : Nat} {y : G.D e} {s0 : St G} (hz : zeroEl P s0 e et = some y) : ∃ z, (zeroValue et).run P w = .ok z w ∧ RepD G (okOf F L s) w e y z.cells.toList := by
  unfold zeroEl at hz
  split at hz
  · rename_i zc hzc
    obtain ⟨z, hr, hrep⟩ := zeroCells_sem hzc w
    refine ⟨z, hr, ?_⟩
    split at hz
    · rename_i l hl
      -- constants name no entries
      have congr : ∀ (ts : List Ty) (vs : List (EV G)), EV.idss vs = [] → asLfs s ts vs = asLfs s0 ts vs := by
        intro ts
        induction ts with
        | nil => intro vs _; cases vs <;> rfl
        | cons τ ts ih =>
          intro vs hv
          cases vs with
          | nil => rfl
          | cons v vs =>
            simp only [EV.idss, List.append_eq_nil_iff] at hv
            have h1 : asD s τ v = asD s0 τ v := by
              unfold asD
              split <;> first | rfl | (simp [EV.ids] at hv)
            simp only [asLfs, h1, ih vs hv.2]
      have hl' : asLfs s (lvT G e) zc = some (l, []) := by rw [congr _ _ (zeroCells_ids hzc)]; exact hl
      exact RepD.ofCells hz (asLfs_sem h (okOf F L s) keeps_self hl' (hrep _ _ _) (by intro i hi; cases hi))
    · cases hz
  · cases hz

theorem makeSlice_ok {o : Oper} {t et b : Nat} {x y : Operand} {l c : Int} {e : Ty} {z : G.D e} {nid : Nat} {s0 : St G} (hd : ∀ t, o.dst = some t → t < nt) (ho : o.op = .makeSlice t x y) (he : elemT P t = some et) (hb : bytesT P et = some b)
    (hs : sizeT P et = some (szT G e)) (hx : s0.ev x = .d (.int .i64) l) (hy : s0.ev y = .d (.int .i64) c) (hf : s0.look nid = none) (h0 : 0 ≤ l) (h1 : l ≤ c) (h2 : c * (b : Int) ≤ 70368744177664) (hc63 : c ≤ 9223372036854775807) (hz : zeroEl P s0 e et = some z) :
    OpOK P nt o s0.ev [nid] s0.look (.ow nid) [(nid, .row e (List.replicate l.toNat z) 0)] := by
  intro F L s a w h hev hlk
  have hxs := h.int (by rw [hev x (by simp [ho, Op.operands]), hx] : s.ev x = .d (.int .i64) l)
  have hys := h.int (by rw [hev y (by simp [ho, Op.operands]), hy] : s.ev y = .d (.int .i64) c)
  have hfree : s.look nid = none := by rw [hlk nid (by simp)]; exact hf
  obtain ⟨zv, hzr, hrep⟩ := zeroEl_sem h hz
  have hi : ∃ i, P.info? et = some i ∧ i.bytes = b := by
    unfold bytesT at hb
    split at hb
    · rename_i i hi; exact ⟨i, hi, some_inj hb⟩
    · cases hb
  obtain ⟨i, hi, hib⟩ := hi
  have hlw : IntKind.i64.wrap l = l := by unfold IntKind.wrap; simp [IntKind.signed, IntKind.bits]; omega
  have hcw : IntKind.i64.wrap c = c := by unfold IntKind.wrap; simp [IntKind.signed, IntKind.bits]; omega
  have hzl : zv.cells.size = szT G e := by have := hrep.length; simpa using this
  let cvs : Array Value := if c.toNat * szT G e = 0 then #[] else (Array.range (c.toNat * szT G e)).map (zv.cells[· % zv.cells.size]!)
  have hrun : (Instr.makeSlice t (.int .i64 l) (.int .i64 c)).run P w = .ok (.slice (some ⟨w.heap.size, 0, none⟩) l.toNat c.toNat) (w.alloc (.cells cvs et)) := by
    have hlt : ¬ (c * (b : Int) > 2 ^ 48) := by omega
    have hbc : (b : Int) * c = c * b := Int.mul_comm _ _
    simp only [Instr.makeSlice, Sem.run_bind, run_underlying (elemT_under he), Result.andThen_ok, asInt, asIntOf, Sem.run_pure, typeInfo, run_program, hi, hlw, hcw, hib]
    rw [if_neg (by rw [hbc]; simp; omega)]
    simp only [Sem.run_bind, run_askRoom, Result.andThen_ok]
    by_cases hn : c.toNat * szT G e = 0
    · simp [hn, newRow, cvs, sizeT_run hs]
      rw [show Array.map (fun x => (default : Value)) (Array.range 0) = #[] from Array.eq_empty_of_size_eq_zero (by simp)]
    · simp [hn, hzr, newRow, cvs, sizeT_run hs]
  have hzf : ∀ n, (List.replicate n zv.cells.toList).flatten.length = n * szT G e := by
    intro n; simp [hzl]
  have hcv : cvs.size = c.toNat * szT G e := by
    show (if c.toNat * szT G e = 0 then #[] else _ : Array Value).size = _
    split
    · rename_i h0; simp [h0]
    · simp
  have hcl : ∃ r, cvs.toList = (List.replicate l.toNat zv.cells.toList).flatten ++ r := by
    refine ⟨(List.replicate (c.toNat - l.toNat) zv.cells.toList).flatten, ?_⟩
    rw [← List.flatten_append, List.replicate_append_replicate, show l.toNat + (c.toNat - l.toNat) = c.toNat by omega]
    apply List.ext_getElem?
    intro q
    rcases Nat.lt_or_ge q (c.toNat * szT G e) with hq | hq
    · have hpos : 0 < szT G e := by
        rcases Nat.eq_zero_or_pos (szT G e) with h3 | h3
        · rw [h3] at hq; simp at hq
        · exact h3
      have hne : c.toNat * szT G e ≠ 0 := by omega
      have hq1 : q % szT G e < zv.cells.size := by rw [hzl]; exact Nat.mod_lt _ hpos
      have hq2 : q / szT G e < c.toNat := by apply Nat.div_lt_of_lt_mul; rw [Nat.mul_comm]; exact hq
      have e1 : cvs.toList[q]? = some (zv.cells[q % szT G e]'hq1) := by
        show (if c.toNat * szT G e = 0 then #[] else _ : Array Value).toList[q]? = _
        rw [if_neg hne]
        simp [hq, hzl]
        rw [getElem!_pos]
      rw [e1]
      have := concat_get (szT G e) (List.replicate c.toNat zv.cells.toList) (by intro l' hl'; rw [List.eq_of_mem_replicate hl']; simpa using hzl) (q / szT G e) (q % szT G e) (zv.cells[q % szT G e]'hq1)
        (by rw [List.getElem?_replicate, if_pos hq2]; simp)
      rw [Nat.mul_comm, Nat.div_add_mod] at this
      exact this.symm
    · rw [List.getElem?_eq_none (by simpa [hcv] using hq), List.getElem?_eq_none (by rw [hzf]; exact hq)]
  have hn := h.newRow hfree (el := et) (w' := w.alloc (.cells cvs et)) rfl rfl rfl rfl (e := e) (xs := List.replicate l.toNat z) (cap := c.toNat) (by simp; omega) (by omega) (ls := List.replicate l.toNat zv.cells.toList) (by simp)
    (fun i hi => ⟨zv.cells.toList, by rw [List.getElem?_replicate, if_pos (by simpa using hi)], by simpa using hrep⟩) hcl
  refine wp_value (u := .slice (some ⟨w.heap.size, 0, none⟩) l.toNat c.toNat) (w' := w.alloc (.cells cvs et)) ?_ ⟨_, hn.put o.dst hd _ _ (new_ow (by simp) (by omega)) ?_⟩
  · simp only [execOp, ho, hxs, hys]
    rw [Sem.run_bind, hrun]; rfl
  · intro j hj; simp [EV.ids] at hj; subst hj; rw [upd1_look]; simp
end
end Go.Abs
end
