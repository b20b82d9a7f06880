/- A symbolic executor for the model's code: operations on abstract values, and the abstract weakest precondition. -/
import Derived.Test.YtiaenejafpbfkaaDoorSxa
namespace Go.Proofs.YtiaenejafpbfkaaDoor.Sx
open Go

inductive Blk : Type
  | no
  | cells (c : AV)
  | row (sz : Nat) (n : Th Nat) (g : Th Nat → AV)
def Blk.live : Blk → Bool | .no => false | .cells _ => true | .row _ _ _ => true
def Blk.isRow : Blk → Bool | .row _ _ _ => true | _ => false
def Blk.locs : Blk → Nat → Prop | .cells c, x => c.locs x | _, _ => False

inductive AL : Type | nil | cons (k : Nat) (v : AV) (r : AL)
def AL.get : AL → Nat → AV
  | .nil, _ => .any
  | .cons k v r, n => if k = n then v else r.get n
def AL.kill (d : Nat) : AL → AL
  | .nil => .nil
  | .cons k v r => .cons k (v.kill d) (r.kill d)
inductive BL : Type | nil | cons (k : Nat) (v : Blk) (r : BL)
def BL.get : BL → Nat → Blk
  | .nil, _ => .no
  | .cons k v r, n => if k = n then v else r.get n
def Blk.kill (d : Nat) : Blk → Blk
  | .cells c => .cells (c.kill d)
  | b => b
def BL.kill (d : Nat) : BL → BL
  | .nil => .nil
  | .cons k v r => .cons k (v.kill d) (r.kill d)

theorem AL.get_cons (k : Nat) (v : AV) (r : AL) (n : Nat) : (AL.cons k v r).get n = if k = n then v else r.get n := rfl
theorem BL.get_cons (k : Nat) (v : Blk) (r : BL) (n : Nat) : (BL.cons k v r).get n = if k = n then v else r.get n := rfl
/-- The temporaries, the local blocks, the deferred calls. -/
structure St where
  t : AL
  b : BL
  df : AV
def St.set (s : St) (d : Nat) (v : AV) : St := ⟨.cons d v s.t, s.b, s.df⟩
def St.new (s : St) (d : Nat) (v : AV) (b : Blk) : St := ⟨.cons d v s.t, .cons d b s.b, s.df⟩
def St.put (s : St) (d : Nat) (b : Blk) : St := ⟨s.t, .cons d b s.b, s.df⟩

inductive Opd : Type | tmp (n : Nat) | val (v : AV)
def Opd.ev (s : St) : Opd → AV | .tmp n => s.t.get n | .val v => v

/-! ### chains -/
def AV.drop : AV → Nat → AV
  | c, 0 => c
  | .cons _ t, n + 1 => t.drop n
  | c, _ => c
def AV.nth : AV → Nat → Option AV
  | .cons h _, 0 => some h
  | .cons _ t, n + 1 => t.nth n
  | _, _ => none
def AV.take : AV → Nat → Option AV
  | _, 0 => some .nil
  | .cons h t, n + 1 => match t.take n with | some r => some (.cons h r) | none => none
  | _, _ => none
def AV.app : AV → AV → AV
  | .cons h t, y => .cons h (t.app y)
  | _, y => y
/-- The chain with what stands from n on turned to another chain; none: there is no room. -/
def AV.over : AV → Nat → AV → Option AV
  | .cons h t, n + 1, y => match t.over n y with | some r => some (.cons h r) | none => none
  | c, 0, .nil => some c
  | .cons _ t, 0, .cons a y => match t.over 0 y with | some r => some (.cons a r) | none => none
  | _, _, _ => none
/-- The cells of a value. -/
def AV.cells : AV → Option AV
  | .agg c => match c.scals with | true => some c | false => none
  | v => match v.scal with | true => some (.cons v .nil) | false => none

/-! ### numbers and truth -/
inductive QR : Type
  | bad
  | ok (v : AV)
  | cond (p : Th Prop) (v : AV)

def kq : IntKind → IntKind → Bool
  | .i8, .i8 => true | .i16, .i16 => true | .i32, .i32 => true | .i64, .i64 => true
  | .u8, .u8 => true | .u16, .u16 => true | .u32, .u32 => true | .u64, .u64 => true
  | _, _ => false
theorem kq_eq {a b : IntKind} (h : kq a b = true) : a = b := by cases a <;> cases b <;> first | rfl | cases h

def AV.bl : AV → Option (Th Bool)
  | .tt => some fun _ => true
  | .ff => some fun _ => false
  | .bool b => some b
  | _ => none

def abits (op : BinOp) (k : IntKind) (x y : Int) : Int := bits op k x y

def abinI (op : BinOp) (k : IntKind) (a b : Th Int) : QR :=
  match op with
  | .add => .ok (.int k fun _ => k.wrap (a .o + b .o))
  | .sub => .ok (.int k fun _ => k.wrap (a .o - b .o))
  | .mul => .ok (.int k fun _ => k.wrap (a .o * b .o))
  | .quo => .cond (fun _ => b .o ≠ 0) (.int k fun _ => k.wrap ((a .o).tdiv (b .o)))
  | .rem => .cond (fun _ => b .o ≠ 0) (.int k fun _ => (a .o).tmod (b .o))
  | .and => .ok (.int k fun _ => abits .and k (a .o) (b .o))
  | .or => .ok (.int k fun _ => abits .or k (a .o) (b .o))
  | .xor => .ok (.int k fun _ => abits .xor k (a .o) (b .o))
  | .andNot => .ok (.int k fun _ => abits .andNot k (a .o) (b .o))
  | .eql => .ok (.bool fun _ => decide (a .o = b .o))
  | .neq => .ok (.bool fun _ => !decide (a .o = b .o))
  | .lss => .ok (.bool fun _ => decide (a .o < b .o))
  | .leq => .ok (.bool fun _ => decide (a .o ≤ b .o))
  | .gtr => .ok (.bool fun _ => decide (b .o < a .o))
  | .geq => .ok (.bool fun _ => decide (b .o ≤ a .o))
  | _ => .bad
def ashift (op : BinOp) (k : IntKind) (a b : Th Int) : QR :=
  match op with
  | .shl => .cond (fun _ => 0 ≤ b .o) (.int k fun _ => k.wrap (a .o * 2 ^ (min (b .o).toNat k.bits)))
  | .shr => .cond (fun _ => 0 ≤ b .o) (.int k fun _ => (a .o).fdiv (2 ^ (min (b .o).toNat k.bits)))
  | _ => .bad
def strLt (a b : List UInt8) : Bool := Op.bytesLess a b
def abinS (op : BinOp) (a b : Th (List UInt8)) : QR :=
  match op with
  | .add => .cond (fun _ => (a .o).length + (b .o).length ≤ 9223372036854775807) (.str fun _ => a .o ++ b .o)
  | .eql => .ok (.bool fun _ => decide (a .o = b .o))
  | .neq => .ok (.bool fun _ => !decide (a .o = b .o))
  | .lss => .ok (.bool fun _ => strLt (a .o) (b .o))
  | .leq => .ok (.bool fun _ => strLt (a .o) (b .o) || decide (a .o = b .o))
  | .gtr => .ok (.bool fun _ => !(strLt (a .o) (b .o) || decide (a .o = b .o)))
  | .geq => .ok (.bool fun _ => !strLt (a .o) (b .o))
  | _ => .bad
def isShift : BinOp → Bool | .shl => true | .shr => true | _ => false
/-- The kinds of cells that are compared. -/
inductive KD : Type | b | i (k : IntKind) | s
/-- A chain of numbers, truths and texts against another one. -/
def aeq1 (k : KD) (x y : AV) (r : Th Bool) : Option (Th Bool) :=
  match k, x, y with
  | .i k, .int k1 a, .int k2 b => match kq k k1, kq k k2 with | true, true => some fun _ => decide (a .o = b .o) && r .o | _, _ => none
  | .s, .str a, .str b => some fun _ => decide (a .o = b .o) && r .o
  | .b, x, y => match x.bl, y.bl with
    | some a, some b => some fun _ => (a .o == b .o) && r .o
    | _, _ => none
  | _, _, _ => none
def aeqc : List KD → AV → AV → Option (Th Bool)
  | [], .nil, .nil => some fun _ => true
  | k :: ks, .cons h t, .cons h' t' => match aeqc ks t t' with
    | none => none
    | some r => aeq1 k h h' r
  | _, _, _ => none
def aeq (eql : Bool) (r : Option (Th Bool)) : QR :=
  match r, eql with
  | some b, true => .ok (.bool b)
  | some b, false => .ok (.bool fun _ => !b .o)
  | none, _ => .bad
/-- What kind of a type is asked for equality. -/
inductive Fit : Type | no | bool | agg (ks : List KD) | ptr | ifc (n : Bool)
/-- Equality with nil, of nil. -/
def anilI (n : Bool) : AV → AV → Option Bool
  | .nif, .nif => match n with | true => some true | false => none
  | .nif, .ifc _ _ => some false
  | .ifc _ _, .nif => some false
  | _, _ => none
def anilP : AV → AV → Option Bool
  | .nptr, .nptr => some true
  | .nptr, .ptr _ _ => some false
  | .ptr _ _, .nptr => some false
  | _, _ => none
def isEql : BinOp → Option Bool | .eql => some true | .neq => some false | _ => none
def abinA (e : Bool) (ks : List KD) (x y : AV) : QR := match x, y with | .agg a, .agg b => aeq e (aeqc ks a b) | _, _ => .bad
def abinB (e : Bool) (x y : AV) : QR := match x.bl, y.bl with
  | some a, some b => aeq e (some fun _ => (a .o == b .o))
  | _, _ => .bad
def abinN (e : Bool) (r : Option Bool) : QR := match r with
  | some r => .ok (match r == e with | true => .tt | false => .ff)
  | none => .bad
def abinE (e : Bool) (fit : Fit) (x y : AV) : QR :=
  match fit with
  | .agg ks => abinA e ks x y
  | .bool => abinB e x y
  | .ptr => abinN e (anilP x y)
  | .ifc n => abinN e (anilI n x y)
  | .no => .bad
def abin (op : BinOp) (fit : Fit) (x y : AV) : QR :=
  match x, y with
  | .int k a, .int k' b =>
    match isShift op with
    | true => ashift op k a b
    | false => match kq k k' with | true => abinI op k a b | false => .bad
  | .str a, .str b => abinS op a b
  | x, y =>
    match isEql op with
    | none => .bad
    | some e => abinE e fit x y

def aun (op : UnOp) (x : AV) : QR :=
  match op, x with
  | .not, .tt => .ok .ff
  | .not, .ff => .ok .tt
  | .not, .bool b => .ok (.bool fun _ => !b .o)
  | .neg, .int k a => .ok (.int k fun _ => k.wrap (0 - a .o))
  | _, _ => .bad
def merge (c : Th Bool) (x y : AV) : QR :=
  match x, y with
  | .int k a, .int k' b => match kq k k' with | true => .ok (.int k fun _ => if c .o = true then a .o else b .o) | false => .bad
  | .str a, .str b => .ok (.str fun _ => if c .o = true then a .o else b .o)
  | x, y => match x.bl, y.bl with
    | some a, some b => .ok (.bool fun _ => if c .o = true then a .o else b .o)
    | _, _ => .bad
def apick (c x y : AV) : QR :=
  match c with
  | .tt => .ok x
  | .ff => .ok y
  | .bool b => merge b x y
  | _ => .bad

/-! ### memory -/
def okO : Option AV → QR | some v => .ok v | none => .bad
def aload (f : AV → Option AV) (s : St) (x : AV) : QR :=
  match x with
  | .iptr c => okO (f c)
  | .ptr d o => match s.b.get d with
    | .cells c => okO (f (c.drop o))
    | _ => .bad
  | .rptr d sz i o => match s.b.get d with
    | .row sz' n g => match sz == sz' with
      | true => match f ((g i).drop o) with
        | some v => .cond (fun _ => i .o < n .o) v
        | none => .bad
      | false => .bad
    | _ => .bad
  | _ => .bad
def first (c : AV) : Option AV := c.nth 0
def takeA (n : Nat) (c : AV) : Option AV := match c.take n with | some r => some (.agg r) | none => none

def afld (off : Nat) (x : AV) : QR :=
  match x with
  | .ptr d o => .ok (.ptr d (o + off))
  | .iptr c => .ok (.iptr (c.drop off))
  | .rptr d sz i o => .ok (.rptr d sz i (o + off))
  | _ => .bad
def afield (f : AV → Option AV) (off : Nat) (x : AV) : QR :=
  match x with
  | .agg c => okO (f (c.drop off))
  | _ => .bad
def aidx (sz : Nat) (s : St) (x i : AV) : QR :=
  match x, i with
  | .sl sz' n g, .int _ a => match sz == sz' with
    | true => .cond (fun _ => 0 ≤ a .o ∧ a .o < zi (n .o)) (.iptr (g fun _ => (a .o).toNat))
    | false => .bad
  | .row d, .int _ a => match s.b.get d with
    | .row sz' n _ => match sz == sz' with
      | true => .cond (fun _ => 0 ≤ a .o ∧ a .o < zi (n .o)) (.rptr d sz (fun _ => (a .o).toNat) 0)
      | false => .bad
    | _ => .bad
  | .win d sz1 lo n, .int _ a => match s.b.get d with
    | .row sz' _ _ => match sz == sz', sz == sz1 with
      | true, true => .cond (fun _ => 0 ≤ a .o ∧ a .o < zi (n .o)) (.rptr d sz (fun _ => lo .o + (a .o).toNat) 0)
      | _, _ => .bad
    | _ => .bad
  | _, _ => .bad
/-- An element of an array, which is told as a row. -/
def aidxA (sz len : Nat) (s : St) (x i : AV) : QR :=
  match x, i with
  | .ptr d 0, .int _ a => match s.b.get d with
    | .row sz' n _ => match sz == sz' with
      | true => .cond (fun _ => 0 ≤ a .o ∧ a .o < zi (n .o) ∧ a .o < zi len) (.rptr d sz (fun _ => (a .o).toNat) 0)
      | false => .bad
    | _ => .bad
  | .rptr d sz' i' off, .int _ a => match s.b.get d with
    | .row _ _ _ => .cond (fun _ => 0 ≤ a .o ∧ a .o < zi len) (.rptr d sz' i' (off + (a .o).toNat * sz))
    | _ => .bad
  | _, _ => .bad
def aidxS (x i : AV) : QR :=
  match x, i with
  | .str s, .int _ a => .cond (fun _ => 0 ≤ a .o ∧ a .o < zi (s .o).length) (.int .u8 fun _ => zi ((s .o).getD (a .o).toNat 0).toNat)
  | _, _ => .bad
def alen (s : St) (x : AV) : QR :=
  match x with
  | .sl _ n _ => .ok (.int .i64 fun _ => zi (n .o))
  | .nsl => .ok (.int .i64 fun _ => 0)
  | .row d => match s.b.get d with
    | .row _ n _ => .ok (.int .i64 fun _ => zi (n .o))
    | _ => .bad
  | .win d _ _ n => match s.b.get d with
    | .row _ _ _ => .ok (.int .i64 fun _ => zi (n .o))
    | _ => .bad
  | _ => .bad
def alenS (x : AV) : QR := match x with | .str a => .ok (.int .i64 fun _ => zi (a .o).length) | _ => .bad
def abound (dflt : Th Int) : Option AV → Option (Th Int)
  | none => some dflt
  | some (.int _ a) => some a
  | _ => none
def asliceS (x : AV) (lo hi : Option AV) : QR :=
  match x with
  | .str s => match abound (fun _ => 0) lo, abound (fun _ => zi (s .o).length) hi with
    | some a, some b => .cond (fun _ => 0 ≤ a .o ∧ a .o ≤ b .o ∧ b .o ≤ zi (s .o).length) (.str fun _ => ((s .o).take (b .o).toNat).drop (a .o).toNat)
    | _, _ => .bad
  | _ => .bad
def aslice (sz : Nat) (s : St) (x : AV) (lo hi : Option AV) : QR :=
  match x with
  | .sl sz' n g => match sz == sz', abound (fun _ => 0) lo, abound (fun _ => zi (n .o)) hi with
    | true, some a, some b => .cond (fun _ => 0 ≤ a .o ∧ a .o ≤ b .o ∧ b .o ≤ zi (n .o)) (.sl sz (fun _ => (b .o - a .o).toNat) fun i => g fun _ => (a .o).toNat + i .o)
    | _, _, _ => .bad
  | .row d => match s.b.get d with
    | .row sz' n _ => match sz == sz', abound (fun _ => 0) lo, abound (fun _ => zi (n .o)) hi with
      | true, some a, some b => .cond (fun _ => 0 ≤ a .o ∧ a .o ≤ b .o ∧ b .o ≤ zi (n .o)) (.win d sz (fun _ => (a .o).toNat) fun _ => (b .o - a .o).toNat)
      | _, _, _ => .bad
    | _ => .bad
  | _ => .bad
def amm (mx : Bool) : AV → AV → Option AV
  | .int k a, .int _ b => some (.int k fun _ => match mx with | true => (if a .o < b .o then b .o else a .o) | false => if b .o < a .o then b .o else a .o)
  | _, _ => none
def amms (mx : Bool) : AV → List AV → Option AV
  | x, [] => some x
  | x, y :: r => match amm mx x y with | some z => amms mx z r | none => none
def aassert (t : Nat) (zero : AV) (x : AV) : QR :=
  match x with
  | .ifc t' v => match t' == t with
    | true => .ok (.tup (.cons v (.cons .tt .nil)))
    | false => .ok (.tup (.cons zero (.cons .ff .nil)))
  | .nif => .ok (.tup (.cons zero (.cons .ff .nil)))
  | _ => .bad
def aext (i : Nat) (x : AV) : QR := match x with | .tup c => okO (c.nth i) | _ => .bad
def aconv (k : IntKind) (x : AV) : QR := match x with | .int _ a => .ok (.int k fun _ => k.wrap (a .o)) | _ => .bad

/-- Is there something behind it? -/
def achk (x : AV) : QR := match x with | .ptr d o => .ok (.ptr d o) | .rptr d sz i o => .ok (.rptr d sz i o) | .iptr c => .ok (.iptr c) | _ => .bad
/-- A cell that is a byte. -/
def isB (c : AV) : Prop := ∃ a, c = .cons (.int .u8 a) .nil
def byteAt (c : AV) : Int := match c with | .cons (.int _ a) _ => a .o | _ => 0
def bytesN (n : Nat) (g : Th Nat → AV) : List UInt8 := (List.range n).map fun i => UInt8.ofNat (byteAt (g fun _ => i)).toNat
def ab2s (s : St) (x : AV) : QR := match x with
  | .nsl => .ok (.str fun _ => [])
  | .sl _ n g => .cond (fun _ => ∀ i, i < n .o → isB (g fun _ => i)) (.str fun _ => bytesN (n .o) g)
  | .row d => match s.b.get d with
    | .row _ n g => .cond (fun _ => ∀ i, i < n .o → isB (g fun _ => i)) (.str fun _ => bytesN (n .o) g)
    | _ => .bad
  | _ => .bad
/-- The bytes of a text in a row of cells. -/
def byteRow (s : Th (List UInt8)) : Th Nat → AV := fun i => .cons (.int .u8 fun _ => zi ((s .o).getD (i .o) 0).toNat) .nil
def as2b (x : AV) : QR := match x with
  | .str a => .ok (.sl 1 (fun _ => (a .o).length) (byteRow a))
  | _ => .bad

/-! ### operations -/
inductive RO : Type
  | mov (x : Opd)
  | pick (c a b : Opd)
  | bin (op : BinOp) (fit : Fit) (x y : Opd)
  | un (op : UnOp) (x : Opd)
  | load1 (x : Opd)
  | loadA (n : Nat) (x : Opd)
  | fld (off : Nat) (x : Opd)
  | field1 (off : Nat) (x : Opd)
  | fieldA (off n : Nat) (x : Opd)
  | idx (sz : Nat) (x i : Opd)
  | idxS (x i : Opd)
  | len (x : Opd)
  | lenS (x : Opd)
  | mm (mx : Bool) (xs : List Opd)
  | sliceS (x : Opd) (lo hi : Option Opd)
  | slice (sz : Nat) (x : Opd) (lo hi : Option Opd)
  | mkfn (f : Fn) (first caps : List Opd)
  | mkif (t : Nat) (x : Opd)
  | assert (t : Nat) (zero : AV) (x : Opd)
  | ext (i : Nat) (x : Opd)
  | conv (k : IntKind) (x : Opd)
  | build (zero : AV) (parts : List (Nat × Nat × Opd))
  | alloc (zero : AV)
  | box (x : Opd)
  | bslice (sz : Nat) (zero : AV) (len : Nat) (parts : List (Nat × Nat × Opd))
  | append (sz bytes : Nat) (x y : Opd)
  | store (sz : Nat) (a v : Opd)
  | call (f : Nat) (args : List Opd)
  | callv (f : Opd) (args : List Opd)
  | panic (x : Opd)
  | chk (x : Opd)
  | b2s (x : Opd)
  | s2b (x : Opd)
  | s2s (x : Opd)
  | mks (sz bytes : Nat) (z : AV) (l c : Opd)
  | defer (f : Opd) (args : List Opd)
  | clr (sz : Nat) (z : AV) (x : Opd)
  | allocR (sz n : Nat) (z : AV)
  | idxA (sz len : Nat) (x i : Opd)
  | peek (f : Nat) (args : List Opd)
  | isNil (e : Bool) (x : Opd)

def chain : List AV → AV | [] => .nil | x :: r => .cons x (chain r)
def evs (s : St) : List Opd → List AV | [] => [] | x :: r => x.ev s :: evs s r
def evo (s : St) : Option Opd → Option AV | none => none | some x => some (x.ev s)
/-- Parts laid over a zero value. -/
def fillc (s : St) : AV → List (Nat × Nat × Opd) → Option AV
  | z, [] => some z
  | z, (o, n, x) :: r => match (x.ev s).cells with
    | some c => match c.len == n with
      | true => match z.over o c with | some z' => fillc s z' r | none => none
      | false => none
    | none => none
def rep (c : AV) : Nat → AV | 0 => .nil | n + 1 => c.app (rep c n)
/-- Element number i of a chain of elements of sz cells. -/
def elemAt0 (sz : Nat) (c : AV) (i : Nat) : AV := match (c.drop (i * sz)).take sz with | some r => r | none => .nil
def strsOf : AV → Option (List (Th (List UInt8)))
  | .nil => some []
  | .cons (.str t) r => match strsOf r with | some L => some (t :: L) | none => none
  | _ => none
def intsOf (k : IntKind) : AV → Option (List (Th Int))
  | .nil => some []
  | .cons (.int k' t) r => match k' == k with | true => (match intsOf k r with | some L => some (t :: L) | none => none) | false => none
  | _ => none
/-- The same; of texts or numbers told so that the number of the element may be unknown. -/
def elemAt (sz : Nat) (c : AV) (i : Nat) : AV := match sz, c with
  | 1, .cons (.str t) r => match strsOf r with | some L => .cons (.str fun _ => ((t :: L).getD i t) .o) .nil | none => elemAt0 1 (.cons (.str t) r) i
  | 1, .cons (.int k t) r => match intsOf k r with | some L => .cons (.int k fun _ => ((t :: L).getD i t) .o) .nil | none => elemAt0 1 (.cons (.int k t) r) i
  | sz, c => elemAt0 sz c i

/-- Operations that only yield a value. -/
def qev (s : St) : RO → QR
  | .mov x => .ok (x.ev s)
  | .pick c a b => apick (c.ev s) (a.ev s) (b.ev s)
  | .bin op fit x y => abin op fit (x.ev s) (y.ev s)
  | .un op x => aun op (x.ev s)
  | .load1 x => aload first s (x.ev s)
  | .loadA n x => aload (takeA n) s (x.ev s)
  | .fld off x => afld off (x.ev s)
  | .field1 off x => afield first off (x.ev s)
  | .fieldA off n x => afield (takeA n) off (x.ev s)
  | .idx sz x i => aidx sz s (x.ev s) (i.ev s)
  | .idxS x i => aidxS (x.ev s) (i.ev s)
  | .len x => alen s (x.ev s)
  | .lenS x => alenS (x.ev s)
  | .mm mx xs => match evs s xs with | [] => .bad | x :: r => okO (amms mx x r)
  | .sliceS x lo hi => asliceS (x.ev s) (evo s lo) (evo s hi)
  | .slice sz x lo hi => aslice sz s (x.ev s) (evo s lo) (evo s hi)
  | .mkfn f first caps => .ok (.fn f (chain (evs s first)) (chain (evs s caps)))
  | .mkif t x => .ok (.ifc t (x.ev s))
  | .assert t z x => aassert t z (x.ev s)
  | .ext i x => aext i (x.ev s)
  | .conv k x => aconv k (x.ev s)
  | .chk x => achk (x.ev s)
  | .b2s x => ab2s s (x.ev s)
  | .s2b x => as2b (x.ev s)
  | .idxA sz len x i => aidxA sz len s (x.ev s) (i.ev s)
  | .build z ps => match fillc s z ps with | some c => .ok (.agg c) | none => .bad
  | _ => .bad

inductive ARes : Type | ret (v : AV) | pan (v : AV)

end Go.Proofs.YtiaenejafpbfkaaDoor.Sx
