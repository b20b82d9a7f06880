/- Texts laid together: Sxa, Sxb, Sxc, Sxd, Sxe, Sxf, Sxg, Sxh, Sxi, Sxq. -/
import Derived.WalkKit
import Derived.Laws.AppendOwn
import Derived.Below
import Derived.OrdersHeld
import Derived.Laws.StructEq
import Derived.Laws.CopyRow
import Derived.Laws.BytesArg
import Derived.Lib.AppendStr
/- A symbolic executor for the model's code: the abstract values, what they say of values and memory. -/
namespace Go.Proofs.YtkklflpfklbbcaaDoor.Sx
open Go
/-- A leaf is kept behind a function, so that an evaluator leaves it alone. -/
inductive O1 : Type | o
abbrev Th (α : Type) := O1 → α
/-- A count as a number (a name that an evaluator's forework leaves alone). -/
def zi (n : Nat) : Int := n
inductive AV : Type
  | any
  | int (k : IntKind) (n : Th Int)
  | bool (b : Th Bool)
  | tt | ff
  | str (s : Th (List UInt8))
  | sl (sz : Nat) (n : Th Nat) (g : Th Nat → AV)
  | nsl
  | row (d : Nat)
  | ptr (d off : Nat)
  | iptr (c : AV)
  | rptr (d sz : Nat) (i : Th Nat) (off : Nat)
  | win (d sz : Nat) (lo n : Th Nat)
  | nptr
  | fn (f : Fn) (first caps : AV)
  | nfn | nif
  | ifc (t : Nat) (v : AV)
  | agg (c : AV)
  | tup (c : AV)
  | nil
  | cons (h t : AV)
/-- The places in local memory that a value names. -/
def AV.locs : AV → Nat → Prop
  | .row d, x => x = d
  | .ptr d _, x => x = d
  | .rptr d _ _ _, x => x = d
  | .win d _ _ _, x => x = d
  | .iptr c, x => c.locs x
  | .fn _ a b, x => a.locs x ∨ b.locs x
  | .ifc _ v, x => v.locs x
  | .agg c, x => c.locs x
  | .tup c, x => c.locs x
  | .cons h t, x => h.locs x ∨ t.locs x
  | _, _ => False
/-- The same with all that names a place forgotten. -/
def AV.kill (d : Nat) : AV → AV
  | .row x => if x = d then .any else .row x
  | .ptr x o => if x = d then .any else .ptr x o
  | .rptr x s i o => if x = d then .any else .rptr x s i o
  | .win x s i o => if x = d then .any else .win x s i o
  | .iptr c => .iptr (c.kill d)
  | .fn f a b => .fn f (a.kill d) (b.kill d)
  | .ifc t v => .ifc t (v.kill d)
  | .agg c => .agg (c.kill d)
  | .tup c => .tup (c.kill d)
  | .cons h t => .cons (h.kill d) (t.kill d)
  | v => v
/-- Immutable data names no place. -/
def AV.still : AV → Prop
  | .row _ => False
  | .ptr _ _ => False
  | .rptr _ _ _ _ => False
  | .win _ _ _ _ => False
  | .iptr c => c.still
  | .fn _ a b => a.still ∧ b.still
  | .ifc _ v => v.still
  | .agg c => c.still
  | .tup c => c.still
  | .cons h t => h.still ∧ t.still
  | _ => True
theorem AV.still_locs (x : AV) : x.still ↔ ∀ d, ¬ x.locs d := by
  induction x with
  | sl sz n g _ => exact ⟨fun _ _ h => h, fun _ => trivial⟩
  | row d => exact ⟨fun h => h.elim, fun h => h d rfl⟩
  | ptr d o => exact ⟨fun h => h.elim, fun h => h d rfl⟩
  | rptr d s i o => exact ⟨fun h => h.elim, fun h => h d rfl⟩
  | win d s i o => exact ⟨fun h => h.elim, fun h => h d rfl⟩
  | iptr c ih => exact ih
  | fn f a b iha ihb => exact ⟨fun h d hd => hd.elim (iha.1 h.1 d) (ihb.1 h.2 d), fun h => ⟨iha.2 fun d hd => h d (.inl hd), ihb.2 fun d hd => h d (.inr hd)⟩⟩
  | ifc t v ih => exact ih
  | agg c ih => exact ih
  | tup c ih => exact ih
  | cons a b iha ihb => exact ⟨fun h d hd => hd.elim (iha.1 h.1 d) (ihb.1 h.2 d), fun h => ⟨iha.2 fun d hd => h d (.inl hd), ihb.2 fun d hd => h d (.inr hd)⟩⟩
  | any => exact ⟨fun _ _ h => h, fun _ => trivial⟩
  | int k n => exact ⟨fun _ _ h => h, fun _ => trivial⟩
  | bool b => exact ⟨fun _ _ h => h, fun _ => trivial⟩
  | tt => exact ⟨fun _ _ h => h, fun _ => trivial⟩
  | ff => exact ⟨fun _ _ h => h, fun _ => trivial⟩
  | str s => exact ⟨fun _ _ h => h, fun _ => trivial⟩
  | nsl => exact ⟨fun _ _ h => h, fun _ => trivial⟩
  | nptr => exact ⟨fun _ _ h => h, fun _ => trivial⟩
  | nfn => exact ⟨fun _ _ h => h, fun _ => trivial⟩
  | nif => exact ⟨fun _ _ h => h, fun _ => trivial⟩
  | nil => exact ⟨fun _ _ h => h, fun _ => trivial⟩
def AV.len : AV → Nat
  | .cons _ t => t.len + 1
  | _ => 0
/-- Is it a value of one cell? -/
def AV.scal : AV → Bool
  | .any => false | .agg _ => false | .tup _ => false | .nil => false | .cons _ _ => false
  | _ => true
def AV.scals : AV → Bool
  | .nil => true
  | .cons h t => match h.scal with | true => t.scals | false => false
  | _ => false
/-- Cells of an element: immutable, each of one cell. -/
def AV.okE (x : AV) : Prop := x.still ∧ x.scals = true
structure Env where
  ρ : Nat → Nat
  rv : Nat → Value
  I : Nat → Nat → Prop
  w : World
/-- v is the piece of n elements of sz cells from number lo on of the slice r. -/
def WinV (r : Value) (sz lo n : Nat) (v : Value) : Prop :=
  (r = .slice none 0 0 ∧ lo = 0 ∧ n = 0 ∧ v = .slice none 0 0) ∨ ∃ A m c p, r = .slice (some A) m c ∧ lo + n ≤ c ∧ v = .slice (some p) n (c - lo) ∧ (n ≠ 0 ∨ lo = 0 → p = A.add (lo * sz))
mutual
def Rp (E : Env) : AV → Value → Prop
  | .any, _ => True
  | .int k n, v => v = .int k (n .o)
  | .bool b, v => v = .bool (b .o)
  | .tt, v => v = .bool true
  | .ff, v => v = .bool false
  | .str s, v => v = .string ⟨(s .o).toArray⟩
  | .sl sz n g, v => ∃ a cap, v = .slice a (n .o) cap ∧ n .o ≤ cap ∧ ∀ i, i < n .o → ((g fun _ => i).okE ∧ (g fun _ => i).len = sz) ∧ ∃ b o, a = some ⟨b, o, none⟩ ∧ MemC E (g fun _ => i) b (o + i * sz)
  | .nsl, v => v = .slice none 0 0
  | .row d, v => v = E.rv d ∧ ∃ a n c, v = .slice a n c
  | .ptr d o, v => v = .pointer (some ⟨E.ρ d, o, none⟩)
  | .iptr c, v => ∃ b o, v = .pointer (some ⟨b, o, none⟩) ∧ MemC E c b o
  | .rptr d sz i o, v => v = .pointer (some ⟨E.ρ d, i .o * sz + o, none⟩)
  | .win d sz lo n, v => WinV (E.rv d) sz (lo .o) (n .o) v
  | .nptr, v => v = .pointer none
  | .fn f a b, v => ∃ l m, v = .func f l.toArray m.toArray ∧ ListC E a l ∧ ListC E b m
  | .nfn, v => v = .nilFunc
  | .nif, v => v = .nilIface
  | .ifc t x, v => ∃ y, v = .iface t y ∧ Rp E x y
  | .agg c, v => ∃ l, v = .agg l.toArray ∧ ListC E c l
  | .tup c, v => ∃ l, v = .tuple l.toArray ∧ ListC E c l
  | .nil, _ => False
  | .cons _ _, _ => False
def ListC (E : Env) : AV → List Value → Prop
  | .nil, l => l = []
  | .cons h t, l => ∃ x r, l = x :: r ∧ Rp E h x ∧ ListC E t r
  | _, _ => False
def MemC (E : Env) : AV → Nat → Nat → Prop
  | .nil, _, _ => True
  | .cons h t, b, o => (∃ v, E.w.cell? ⟨b, o, none⟩ = some v ∧ E.I b o ∧ Rp E h v) ∧ MemC E t b (o + 1)
  | _, _, _ => False
end
/-- E' keeps all that is shut for good, and names the places of x as E does. -/
structure Env.Le (E E' : Env) : Prop where
  sub : ∀ b o, E.I b o → E'.I b o
  cell : ∀ b o, E.I b o → E'.w.cell? ⟨b, o, none⟩ = E.w.cell? ⟨b, o, none⟩
theorem Env.Le.refl (E : Env) : E.Le E := ⟨fun _ _ h => h, fun _ _ _ => rfl⟩
theorem Env.Le.trans {E F G : Env} (h : E.Le F) (k : F.Le G) : E.Le G :=
  ⟨fun b o i => k.sub b o (h.sub b o i), fun b o i => (k.cell b o (h.sub b o i)).trans (h.cell b o i)⟩
theorem rp_mono {E E' : Env} (h : E.Le E') : (x : AV) → (∀ d, x.locs d → E'.ρ d = E.ρ d ∧ E'.rv d = E.rv d) →
    (∀ v, Rp E x v → Rp E' x v) ∧ (∀ l, ListC E x l → ListC E' x l) ∧ (∀ b o, MemC E x b o → MemC E' x b o) := by
  intro x
  induction x with
  | any => intro _; exact ⟨fun _ _ => trivial, fun _ h => h.elim, fun _ _ h => h.elim⟩
  | int k n => intro _; exact ⟨fun _ h => h, fun _ h => h.elim, fun _ _ h => h.elim⟩
  | bool b => intro _; exact ⟨fun _ h => h, fun _ h => h.elim, fun _ _ h => h.elim⟩
  | tt => intro _; exact ⟨fun _ h => h, fun _ h => h.elim, fun _ _ h => h.elim⟩
  | ff => intro _; exact ⟨fun _ h => h, fun _ h => h.elim, fun _ _ h => h.elim⟩
  | str s => intro _; exact ⟨fun _ h => h, fun _ h => h.elim, fun _ _ h => h.elim⟩
  | sl sz n g ih =>
    intro hl
    refine ⟨fun v hv => ?_, fun _ h => h.elim, fun _ _ h => h.elim⟩
    obtain ⟨a, cap, h1, h2, h3⟩ := hv
    refine ⟨a, cap, h1, h2, fun i hi => ?_⟩
    obtain ⟨hs, b, o, h4, h5⟩ := h3 i hi
    exact ⟨hs, b, o, h4, (ih (fun _ => i) (fun d hd => ((AV.still_locs _).1 hs.1.1 d hd).elim)).2.2 _ _ h5⟩
  | nsl => intro _; exact ⟨fun _ h => h, fun _ h => h.elim, fun _ _ h => h.elim⟩
  | row d => intro hl; refine ⟨fun v hv => ?_, fun _ h => h.elim, fun _ _ h => h.elim⟩; exact ⟨hv.1.trans (hl d rfl).2.symm, hv.2⟩
  | ptr d o => intro hl; refine ⟨fun v hv => ?_, fun _ h => h.elim, fun _ _ h => h.elim⟩; show v = _; rw [(hl d rfl).1]; exact hv
  | iptr c ih =>
    intro hl
    refine ⟨fun v hv => ?_, fun _ h => h.elim, fun _ _ h => h.elim⟩
    obtain ⟨b, o, h1, h2⟩ := hv
    exact ⟨b, o, h1, (ih hl).2.2 _ _ h2⟩
  | rptr d sz i o => intro hl; refine ⟨fun v hv => ?_, fun _ h => h.elim, fun _ _ h => h.elim⟩; show v = _; rw [(hl d rfl).1]; exact hv
  | win d sz i o => intro hl; refine ⟨fun v hv => ?_, fun _ h => h.elim, fun _ _ h => h.elim⟩; show WinV _ _ _ _ _; rw [(hl d rfl).2]; exact hv
  | nptr => intro _; exact ⟨fun _ h => h, fun _ h => h.elim, fun _ _ h => h.elim⟩
  | fn f a b iha ihb =>
    intro hl
    refine ⟨fun v hv => ?_, fun _ h => h.elim, fun _ _ h => h.elim⟩
    obtain ⟨l, m, h1, h2, h3⟩ := hv
    exact ⟨l, m, h1, (iha fun d hd => hl d (.inl hd)).2.1 _ h2, (ihb fun d hd => hl d (.inr hd)).2.1 _ h3⟩
  | nfn => intro _; exact ⟨fun _ h => h, fun _ h => h.elim, fun _ _ h => h.elim⟩
  | nif => intro _; exact ⟨fun _ h => h, fun _ h => h.elim, fun _ _ h => h.elim⟩
  | ifc t v ih =>
    intro hl
    refine ⟨fun v hv => ?_, fun _ h => h.elim, fun _ _ h => h.elim⟩
    obtain ⟨y, h1, h2⟩ := hv
    exact ⟨y, h1, (ih hl).1 _ h2⟩
  | agg c ih =>
    intro hl
    refine ⟨fun v hv => ?_, fun _ h => h.elim, fun _ _ h => h.elim⟩
    obtain ⟨l, h1, h2⟩ := hv
    exact ⟨l, h1, (ih hl).2.1 _ h2⟩
  | tup c ih =>
    intro hl
    refine ⟨fun v hv => ?_, fun _ h => h.elim, fun _ _ h => h.elim⟩
    obtain ⟨l, h1, h2⟩ := hv
    exact ⟨l, h1, (ih hl).2.1 _ h2⟩
  | nil => intro _; exact ⟨fun _ h => h.elim, fun _ h => h, fun _ _ _ => trivial⟩
  | cons a b iha ihb =>
    intro hl
    refine ⟨fun _ h => h.elim, fun l hv => ?_, fun b' o hv => ?_⟩
    · obtain ⟨x, r, h1, h2, h3⟩ := hv
      exact ⟨x, r, h1, (iha fun d hd => hl d (.inl hd)).1 _ h2, (ihb fun d hd => hl d (.inr hd)).2.1 _ h3⟩
    · obtain ⟨⟨v, h1, h2, h3⟩, h4⟩ := hv
      exact ⟨⟨v, (h.cell _ _ h2).trans h1, h.sub _ _ h2, (iha fun d hd => hl d (.inl hd)).1 _ h3⟩, (ihb fun d hd => hl d (.inr hd)).2.2 _ _ h4⟩
theorem rp_kill {E : Env} (d : Nat) (x : AV) : (∀ v, Rp E x v → Rp E (x.kill d) v) ∧ (∀ l, ListC E x l → ListC E (x.kill d) l) ∧ (∀ b o, MemC E x b o → MemC E (x.kill d) b o) := by
  induction x with
  | row x => refine ⟨fun v hv => ?_, fun _ h => h.elim, fun _ _ h => h.elim⟩; unfold AV.kill; split; exact trivial; exact hv
  | ptr x o => refine ⟨fun v hv => ?_, fun _ h => h.elim, fun _ _ h => h.elim⟩; unfold AV.kill; split; exact trivial; exact hv
  | rptr x s i o => refine ⟨fun v hv => ?_, fun _ h => h.elim, fun _ _ h => h.elim⟩; unfold AV.kill; split; exact trivial; exact hv
  | win x s i o => refine ⟨fun v hv => ?_, fun _ h => h.elim, fun _ _ h => h.elim⟩; unfold AV.kill; split; exact trivial; exact hv
  | iptr c ih =>
    refine ⟨fun v hv => ?_, fun _ h => h.elim, fun _ _ h => h.elim⟩
    obtain ⟨b, o, h1, h2⟩ := hv
    exact ⟨b, o, h1, ih.2.2 _ _ h2⟩
  | fn f a b iha ihb =>
    refine ⟨fun v hv => ?_, fun _ h => h.elim, fun _ _ h => h.elim⟩
    obtain ⟨l, m, h1, h2, h3⟩ := hv
    exact ⟨l, m, h1, iha.2.1 _ h2, ihb.2.1 _ h3⟩
  | ifc t v ih =>
    refine ⟨fun v hv => ?_, fun _ h => h.elim, fun _ _ h => h.elim⟩
    obtain ⟨y, h1, h2⟩ := hv
    exact ⟨y, h1, ih.1 _ h2⟩
  | agg c ih =>
    refine ⟨fun v hv => ?_, fun _ h => h.elim, fun _ _ h => h.elim⟩
    obtain ⟨l, h1, h2⟩ := hv
    exact ⟨l, h1, ih.2.1 _ h2⟩
  | tup c ih =>
    refine ⟨fun v hv => ?_, fun _ h => h.elim, fun _ _ h => h.elim⟩
    obtain ⟨l, h1, h2⟩ := hv
    exact ⟨l, h1, ih.2.1 _ h2⟩
  | cons a b iha ihb =>
    refine ⟨fun _ h => h.elim, fun l hv => ?_, fun b' o hv => ?_⟩
    · obtain ⟨x, r, h1, h2, h3⟩ := hv
      exact ⟨x, r, h1, iha.1 _ h2, ihb.2.1 _ h3⟩
    · obtain ⟨⟨v, h1, h2, h3⟩, h4⟩ := hv
      exact ⟨⟨v, h1, h2, iha.1 _ h3⟩, ihb.2.2 _ _ h4⟩
  | nil => exact ⟨fun _ h => h.elim, fun _ h => h, fun _ _ _ => trivial⟩
  | sl sz n g ih => exact ⟨fun _ h => h, fun _ h => h.elim, fun _ _ h => h.elim⟩
  | any => exact ⟨fun _ h => h, fun _ h => h.elim, fun _ _ h => h.elim⟩
  | int k n => exact ⟨fun _ h => h, fun _ h => h.elim, fun _ _ h => h.elim⟩
  | bool b => exact ⟨fun _ h => h, fun _ h => h.elim, fun _ _ h => h.elim⟩
  | tt => exact ⟨fun _ h => h, fun _ h => h.elim, fun _ _ h => h.elim⟩
  | ff => exact ⟨fun _ h => h, fun _ h => h.elim, fun _ _ h => h.elim⟩
  | str s => exact ⟨fun _ h => h, fun _ h => h.elim, fun _ _ h => h.elim⟩
  | nsl => exact ⟨fun _ h => h, fun _ h => h.elim, fun _ _ h => h.elim⟩
  | nptr => exact ⟨fun _ h => h, fun _ h => h.elim, fun _ _ h => h.elim⟩
  | nfn => exact ⟨fun _ h => h, fun _ h => h.elim, fun _ _ h => h.elim⟩
  | nif => exact ⟨fun _ h => h, fun _ h => h.elim, fun _ _ h => h.elim⟩
end Go.Proofs.YtkklflpfklbbcaaDoor.Sx
/- A symbolic executor for the model's code: operations on abstract values, and the abstract weakest precondition. -/
namespace Go.Proofs.YtkklflpfklbbcaaDoor.Sx
open Go
inductive Blk : Type
  | no
  | cells (c : AV)
  | row (sz : Nat) (n : Th Nat) (g : Th Nat → AV)
def Blk.live : Blk → Bool | .no => false | .cells _ => true | .row _ _ _ => true
def Blk.isRow : Blk → Bool | .row _ _ _ => true | _ => false
def Blk.locs : Blk → Nat → Prop | .cells c, x => c.locs x | _, _ => False
inductive AL : Type | nil | cons (k : Nat) (v : AV) (r : AL)
def AL.get : AL → Nat → AV
  | .nil, _ => .any
  | .cons k v r, n => if k = n then v else r.get n
def AL.kill (d : Nat) : AL → AL
  | .nil => .nil
  | .cons k v r => .cons k (v.kill d) (r.kill d)
inductive BL : Type | nil | cons (k : Nat) (v : Blk) (r : BL)
def BL.get : BL → Nat → Blk
  | .nil, _ => .no
  | .cons k v r, n => if k = n then v else r.get n
def Blk.kill (d : Nat) : Blk → Blk
  | .cells c => .cells (c.kill d)
  | b => b
def BL.kill (d : Nat) : BL → BL
  | .nil => .nil
  | .cons k v r => .cons k (v.kill d) (r.kill d)
theorem AL.get_cons (k : Nat) (v : AV) (r : AL) (n : Nat) : (AL.cons k v r).get n = if k = n then v else r.get n := rfl
theorem BL.get_cons (k : Nat) (v : Blk) (r : BL) (n : Nat) : (BL.cons k v r).get n = if k = n then v else r.get n := rfl
/-- The temporaries, the local blocks, the deferred calls. -/
structure St where
  t : AL
  b : BL
  df : AV
def St.set (s : St) (d : Nat) (v : AV) : St := ⟨.cons d v s.t, s.b, s.df⟩
def St.new (s : St) (d : Nat) (v : AV) (b : Blk) : St := ⟨.cons d v s.t, .cons d b s.b, s.df⟩
def St.put (s : St) (d : Nat) (b : Blk) : St := ⟨s.t, .cons d b s.b, s.df⟩
inductive Opd : Type | tmp (n : Nat) | val (v : AV)
def Opd.ev (s : St) : Opd → AV | .tmp n => s.t.get n | .val v => v
def AV.drop : AV → Nat → AV
  | c, 0 => c
  | .cons _ t, n + 1 => t.drop n
  | c, _ => c
def AV.nth : AV → Nat → Option AV
  | .cons h _, 0 => some h
  | .cons _ t, n + 1 => t.nth n
  | _, _ => none
def AV.take : AV → Nat → Option AV
  | _, 0 => some .nil
  | .cons h t, n + 1 => match t.take n with | some r => some (.cons h r) | none => none
  | _, _ => none
def AV.app : AV → AV → AV
  | .cons h t, y => .cons h (t.app y)
  | _, y => y
/-- The chain with what stands from n on turned to another chain; none: there is no room. -/
def AV.over : AV → Nat → AV → Option AV
  | .cons h t, n + 1, y => match t.over n y with | some r => some (.cons h r) | none => none
  | c, 0, .nil => some c
  | .cons _ t, 0, .cons a y => match t.over 0 y with | some r => some (.cons a r) | none => none
  | _, _, _ => none
/-- The cells of a value. -/
def AV.cells : AV → Option AV
  | .agg c => match c.scals with | true => some c | false => none
  | v => match v.scal with | true => some (.cons v .nil) | false => none
inductive QR : Type
  | bad
  | ok (v : AV)
  | cond (p : Th Prop) (v : AV)
def kq : IntKind → IntKind → Bool
  | .i8, .i8 => true | .i16, .i16 => true | .i32, .i32 => true | .i64, .i64 => true
  | .u8, .u8 => true | .u16, .u16 => true | .u32, .u32 => true | .u64, .u64 => true
  | _, _ => false
theorem kq_eq {a b : IntKind} (h : kq a b = true) : a = b := by cases a <;> cases b <;> first | rfl | cases h
def AV.bl : AV → Option (Th Bool)
  | .tt => some fun _ => true
  | .ff => some fun _ => false
  | .bool b => some b
  | _ => none
def abits (op : BinOp) (k : IntKind) (x y : Int) : Int := bits op k x y
def abinI (op : BinOp) (k : IntKind) (a b : Th Int) : QR :=
  match op with
  | .add => .ok (.int k fun _ => k.wrap (a .o + b .o))
  | .sub => .ok (.int k fun _ => k.wrap (a .o - b .o))
  | .mul => .ok (.int k fun _ => k.wrap (a .o * b .o))
  | .quo => .cond (fun _ => b .o ≠ 0) (.int k fun _ => k.wrap ((a .o).tdiv (b .o)))
  | .rem => .cond (fun _ => b .o ≠ 0) (.int k fun _ => (a .o).tmod (b .o))
  | .and => .ok (.int k fun _ => abits .and k (a .o) (b .o))
  | .or => .ok (.int k fun _ => abits .or k (a .o) (b .o))
  | .xor => .ok (.int k fun _ => abits .xor k (a .o) (b .o))
  | .andNot => .ok (.int k fun _ => abits .andNot k (a .o) (b .o))
  | .eql => .ok (.bool fun _ => decide (a .o = b .o))
  | .neq => .ok (.bool fun _ => !decide (a .o = b .o))
  | .lss => .ok (.bool fun _ => decide (a .o < b .o))
  | .leq => .ok (.bool fun _ => decide (a .o ≤ b .o))
  | .gtr => .ok (.bool fun _ => decide (b .o < a .o))
  | .geq => .ok (.bool fun _ => decide (b .o ≤ a .o))
  | _ => .bad
def ashift (op : BinOp) (k : IntKind) (a b : Th Int) : QR :=
  match op with
  | .shl => .cond (fun _ => 0 ≤ b .o) (.int k fun _ => k.wrap (a .o * 2 ^ (min (b .o).toNat k.bits)))
  | .shr => .cond (fun _ => 0 ≤ b .o) (.int k fun _ => (a .o).fdiv (2 ^ (min (b .o).toNat k.bits)))
  | _ => .bad
def strLt (a b : List UInt8) : Bool := Op.bytesLess a b
def abinS (op : BinOp) (a b : Th (List UInt8)) : QR :=
  match op with
  | .add => .cond (fun _ => (a .o).length + (b .o).length ≤ 9223372036854775807) (.str fun _ => a .o ++ b .o)
  | .eql => .ok (.bool fun _ => decide (a .o = b .o))
  | .neq => .ok (.bool fun _ => !decide (a .o = b .o))
  | .lss => .ok (.bool fun _ => strLt (a .o) (b .o))
  | .leq => .ok (.bool fun _ => strLt (a .o) (b .o) || decide (a .o = b .o))
  | .gtr => .ok (.bool fun _ => !(strLt (a .o) (b .o) || decide (a .o = b .o)))
  | .geq => .ok (.bool fun _ => !strLt (a .o) (b .o))
  | _ => .bad
def isShift : BinOp → Bool | .shl => true | .shr => true | _ => false
/-- The kinds of cells that are compared. -/
inductive KD : Type | b | i (k : IntKind) | s
/-- A chain of numbers, truths and texts against another one. -/
def aeq1 (k : KD) (x y : AV) (r : Th Bool) : Option (Th Bool) :=
  match k, x, y with
  | .i k, .int k1 a, .int k2 b => match kq k k1, kq k k2 with | true, true => some fun _ => decide (a .o = b .o) && r .o | _, _ => none
  | .s, .str a, .str b => some fun _ => decide (a .o = b .o) && r .o
  | .b, x, y => match x.bl, y.bl with
    | some a, some b => some fun _ => (a .o == b .o) && r .o
    | _, _ => none
  | _, _, _ => none
def aeqc : List KD → AV → AV → Option (Th Bool)
  | [], .nil, .nil => some fun _ => true
  | k :: ks, .cons h t, .cons h' t' => match aeqc ks t t' with
    | none => none
    | some r => aeq1 k h h' r
  | _, _, _ => none
def aeq (eql : Bool) (r : Option (Th Bool)) : QR :=
  match r, eql with
  | some b, true => .ok (.bool b)
  | some b, false => .ok (.bool fun _ => !b .o)
  | none, _ => .bad
/-- What kind of a type is asked for equality. -/
inductive Fit : Type | no | bool | agg (ks : List KD) | ptr | ifc (n : Bool)
/-- Equality with nil, of nil. -/
def anilI (n : Bool) : AV → AV → Option Bool
  | .nif, .nif => match n with | true => some true | false => none
  | .nif, .ifc _ _ => some false
  | .ifc _ _, .nif => some false
  | _, _ => none
def anilP : AV → AV → Option Bool
  | .nptr, .nptr => some true
  | .nptr, .ptr _ _ => some false
  | .ptr _ _, .nptr => some false
  | _, _ => none
def isEql : BinOp → Option Bool | .eql => some true | .neq => some false | _ => none
def abinA (e : Bool) (ks : List KD) (x y : AV) : QR := match x, y with | .agg a, .agg b => aeq e (aeqc ks a b) | _, _ => .bad
def abinB (e : Bool) (x y : AV) : QR := match x.bl, y.bl with
  | some a, some b => aeq e (some fun _ => (a .o == b .o))
  | _, _ => .bad
def abinN (e : Bool) (r : Option Bool) : QR := match r with
  | some r => .ok (match r == e with | true => .tt | false => .ff)
  | none => .bad
def abinE (e : Bool) (fit : Fit) (x y : AV) : QR :=
  match fit with
  | .agg ks => abinA e ks x y
  | .bool => abinB e x y
  | .ptr => abinN e (anilP x y)
  | .ifc n => abinN e (anilI n x y)
  | .no => .bad
def abin (op : BinOp) (fit : Fit) (x y : AV) : QR :=
  match x, y with
  | .int k a, .int k' b =>
    match isShift op with
    | true => ashift op k a b
    | false => match kq k k' with | true => abinI op k a b | false => .bad
  | .str a, .str b => abinS op a b
  | x, y =>
    match isEql op with
    | none => .bad
    | some e => abinE e fit x y
def aun (op : UnOp) (x : AV) : QR :=
  match op, x with
  | .not, .tt => .ok .ff
  | .not, .ff => .ok .tt
  | .not, .bool b => .ok (.bool fun _ => !b .o)
  | .neg, .int k a => .ok (.int k fun _ => k.wrap (0 - a .o))
  | _, _ => .bad
def merge (c : Th Bool) (x y : AV) : QR :=
  match x, y with
  | .int k a, .int k' b => match kq k k' with | true => .ok (.int k fun _ => if c .o = true then a .o else b .o) | false => .bad
  | .str a, .str b => .ok (.str fun _ => if c .o = true then a .o else b .o)
  | x, y => match x.bl, y.bl with
    | some a, some b => .ok (.bool fun _ => if c .o = true then a .o else b .o)
    | _, _ => .bad
def apick (c x y : AV) : QR :=
  match c with
  | .tt => .ok x
  | .ff => .ok y
  | .bool b => merge b x y
  | _ => .bad
def okO : Option AV → QR | some v => .ok v | none => .bad
def aload (f : AV → Option AV) (s : St) (x : AV) : QR :=
  match x with
  | .iptr c => okO (f c)
  | .ptr d o => match s.b.get d with
    | .cells c => okO (f (c.drop o))
    | _ => .bad
  | .rptr d sz i o => match s.b.get d with
    | .row sz' n g => match sz == sz' with
      | true => match f ((g i).drop o) with
        | some v => .cond (fun _ => i .o < n .o) v
        | none => .bad
      | false => .bad
    | _ => .bad
  | _ => .bad
def first (c : AV) : Option AV := c.nth 0
def takeA (n : Nat) (c : AV) : Option AV := match c.take n with | some r => some (.agg r) | none => none
def afld (off : Nat) (x : AV) : QR :=
  match x with
  | .ptr d o => .ok (.ptr d (o + off))
  | .iptr c => .ok (.iptr (c.drop off))
  | .rptr d sz i o => .ok (.rptr d sz i (o + off))
  | _ => .bad
def afield (f : AV → Option AV) (off : Nat) (x : AV) : QR :=
  match x with
  | .agg c => okO (f (c.drop off))
  | _ => .bad
def aidx (sz : Nat) (s : St) (x i : AV) : QR :=
  match x, i with
  | .sl sz' n g, .int _ a => match sz == sz' with
    | true => .cond (fun _ => 0 ≤ a .o ∧ a .o < zi (n .o)) (.iptr (g fun _ => (a .o).toNat))
    | false => .bad
  | .row d, .int _ a => match s.b.get d with
    | .row sz' n _ => match sz == sz' with
      | true => .cond (fun _ => 0 ≤ a .o ∧ a .o < zi (n .o)) (.rptr d sz (fun _ => (a .o).toNat) 0)
      | false => .bad
    | _ => .bad
  | .win d sz1 lo n, .int _ a => match s.b.get d with
    | .row sz' _ _ => match sz == sz', sz == sz1 with
      | true, true => .cond (fun _ => 0 ≤ a .o ∧ a .o < zi (n .o)) (.rptr d sz (fun _ => lo .o + (a .o).toNat) 0)
      | _, _ => .bad
    | _ => .bad
  | _, _ => .bad
/-- An element of an array, which is told as a row. -/
def aidxA (sz len : Nat) (s : St) (x i : AV) : QR :=
  match x, i with
  | .ptr d 0, .int _ a => match s.b.get d with
    | .row sz' n _ => match sz == sz' with
      | true => .cond (fun _ => 0 ≤ a .o ∧ a .o < zi (n .o) ∧ a .o < zi len) (.rptr d sz (fun _ => (a .o).toNat) 0)
      | false => .bad
    | _ => .bad
  | .rptr d sz' i' off, .int _ a => match s.b.get d with
    | .row _ _ _ => .cond (fun _ => 0 ≤ a .o ∧ a .o < zi len) (.rptr d sz' i' (off + (a .o).toNat * sz))
    | _ => .bad
  | _, _ => .bad
def aidxS (x i : AV) : QR :=
  match x, i with
  | .str s, .int _ a => .cond (fun _ => 0 ≤ a .o ∧ a .o < zi (s .o).length) (.int .u8 fun _ => zi ((s .o).getD (a .o).toNat 0).toNat)
  | _, _ => .bad
def alen (s : St) (x : AV) : QR :=
  match x with
  | .sl _ n _ => .ok (.int .i64 fun _ => zi (n .o))
  | .nsl => .ok (.int .i64 fun _ => 0)
  | .row d => match s.b.get d with
    | .row _ n _ => .ok (.int .i64 fun _ => zi (n .o))
    | _ => .bad
  | .win d _ _ n => match s.b.get d with
    | .row _ _ _ => .ok (.int .i64 fun _ => zi (n .o))
    | _ => .bad
  | _ => .bad
def alenS (x : AV) : QR := match x with | .str a => .ok (.int .i64 fun _ => zi (a .o).length) | _ => .bad
def abound (dflt : Th Int) : Option AV → Option (Th Int)
  | none => some dflt
  | some (.int _ a) => some a
  | _ => none
def asliceS (x : AV) (lo hi : Option AV) : QR :=
  match x with
  | .str s => match abound (fun _ => 0) lo, abound (fun _ => zi (s .o).length) hi with
    | some a, some b => .cond (fun _ => 0 ≤ a .o ∧ a .o ≤ b .o ∧ b .o ≤ zi (s .o).length) (.str fun _ => ((s .o).take (b .o).toNat).drop (a .o).toNat)
    | _, _ => .bad
  | _ => .bad
def aslice (sz : Nat) (s : St) (x : AV) (lo hi : Option AV) : QR :=
  match x with
  | .sl sz' n g => match sz == sz', abound (fun _ => 0) lo, abound (fun _ => zi (n .o)) hi with
    | true, some a, some b => .cond (fun _ => 0 ≤ a .o ∧ a .o ≤ b .o ∧ b .o ≤ zi (n .o)) (.sl sz (fun _ => (b .o - a .o).toNat) fun i => g fun _ => (a .o).toNat + i .o)
    | _, _, _ => .bad
  | .row d => match s.b.get d with
    | .row sz' n _ => match sz == sz', abound (fun _ => 0) lo, abound (fun _ => zi (n .o)) hi with
      | true, some a, some b => .cond (fun _ => 0 ≤ a .o ∧ a .o ≤ b .o ∧ b .o ≤ zi (n .o)) (.win d sz (fun _ => (a .o).toNat) fun _ => (b .o - a .o).toNat)
      | _, _, _ => .bad
    | _ => .bad
  | _ => .bad
def amm (mx : Bool) : AV → AV → Option AV
  | .int k a, .int _ b => some (.int k fun _ => match mx with | true => (if a .o < b .o then b .o else a .o) | false => if b .o < a .o then b .o else a .o)
  | _, _ => none
def amms (mx : Bool) : AV → List AV → Option AV
  | x, [] => some x
  | x, y :: r => match amm mx x y with | some z => amms mx z r | none => none
def aassert (t : Nat) (zero : AV) (x : AV) : QR :=
  match x with
  | .ifc t' v => match t' == t with
    | true => .ok (.tup (.cons v (.cons .tt .nil)))
    | false => .ok (.tup (.cons zero (.cons .ff .nil)))
  | .nif => .ok (.tup (.cons zero (.cons .ff .nil)))
  | _ => .bad
def aext (i : Nat) (x : AV) : QR := match x with | .tup c => okO (c.nth i) | _ => .bad
def aconv (k : IntKind) (x : AV) : QR := match x with | .int _ a => .ok (.int k fun _ => k.wrap (a .o)) | _ => .bad
/-- Is there something behind it? -/
def achk (x : AV) : QR := match x with | .ptr d o => .ok (.ptr d o) | .rptr d sz i o => .ok (.rptr d sz i o) | .iptr c => .ok (.iptr c) | _ => .bad
/-- A cell that is a byte. -/
def isB (c : AV) : Prop := ∃ a, c = .cons (.int .u8 a) .nil
def byteAt (c : AV) : Int := match c with | .cons (.int _ a) _ => a .o | _ => 0
def bytesN (n : Nat) (g : Th Nat → AV) : List UInt8 := (List.range n).map fun i => UInt8.ofNat (byteAt (g fun _ => i)).toNat
def ab2s (s : St) (x : AV) : QR := match x with
  | .nsl => .ok (.str fun _ => [])
  | .sl _ n g => .cond (fun _ => ∀ i, i < n .o → isB (g fun _ => i)) (.str fun _ => bytesN (n .o) g)
  | .row d => match s.b.get d with
    | .row _ n g => .cond (fun _ => ∀ i, i < n .o → isB (g fun _ => i)) (.str fun _ => bytesN (n .o) g)
    | _ => .bad
  | _ => .bad
/-- The bytes of a text in a row of cells. -/
def byteRow (s : Th (List UInt8)) : Th Nat → AV := fun i => .cons (.int .u8 fun _ => zi ((s .o).getD (i .o) 0).toNat) .nil
def as2b (x : AV) : QR := match x with
  | .str a => .ok (.sl 1 (fun _ => (a .o).length) (byteRow a))
  | _ => .bad
inductive RO : Type
  | mov (x : Opd)
  | pick (c a b : Opd)
  | bin (op : BinOp) (fit : Fit) (x y : Opd)
  | un (op : UnOp) (x : Opd)
  | load1 (x : Opd)
  | loadA (n : Nat) (x : Opd)
  | fld (off : Nat) (x : Opd)
  | field1 (off : Nat) (x : Opd)
  | fieldA (off n : Nat) (x : Opd)
  | idx (sz : Nat) (x i : Opd)
  | idxS (x i : Opd)
  | len (x : Opd)
  | lenS (x : Opd)
  | mm (mx : Bool) (xs : List Opd)
  | sliceS (x : Opd) (lo hi : Option Opd)
  | slice (sz : Nat) (x : Opd) (lo hi : Option Opd)
  | mkfn (f : Fn) (first caps : List Opd)
  | mkif (t : Nat) (x : Opd)
  | assert (t : Nat) (zero : AV) (x : Opd)
  | ext (i : Nat) (x : Opd)
  | conv (k : IntKind) (x : Opd)
  | build (zero : AV) (parts : List (Nat × Nat × Opd))
  | alloc (zero : AV)
  | box (x : Opd)
  | bslice (sz : Nat) (zero : AV) (len : Nat) (parts : List (Nat × Nat × Opd))
  | append (sz bytes : Nat) (x y : Opd)
  | store (sz : Nat) (a v : Opd)
  | call (f : Nat) (args : List Opd)
  | callv (f : Opd) (args : List Opd)
  | panic (x : Opd)
  | chk (x : Opd)
  | b2s (x : Opd)
  | s2b (x : Opd)
  | s2s (x : Opd)
  | mks (sz bytes : Nat) (z : AV) (l c : Opd)
  | defer (f : Opd) (args : List Opd)
  | clr (sz : Nat) (z : AV) (x : Opd)
  | allocR (sz n : Nat) (z : AV)
  | idxA (sz len : Nat) (x i : Opd)
  | peek (f : Nat) (args : List Opd)
  | isNil (e : Bool) (x : Opd)
  | s2r (x : Opd)
  | appS (x y : Opd)
  | sliceA (sz len : Nat) (x : Opd)
  | growc (f sz : Nat) (x : Opd) (args : List Opd)
def chain : List AV → AV | [] => .nil | x :: r => .cons x (chain r)
def evs (s : St) : List Opd → List AV | [] => [] | x :: r => x.ev s :: evs s r
def evo (s : St) : Option Opd → Option AV | none => none | some x => some (x.ev s)
/-- Parts laid over a zero value. -/
def fillc (s : St) : AV → List (Nat × Nat × Opd) → Option AV
  | z, [] => some z
  | z, (o, n, x) :: r => match (x.ev s).cells with
    | some c => match c.len == n with
      | true => match z.over o c with | some z' => fillc s z' r | none => none
      | false => none
    | none => none
def rep (c : AV) : Nat → AV | 0 => .nil | n + 1 => c.app (rep c n)
/-- Element number i of a chain of elements of sz cells. -/
def elemAt0 (sz : Nat) (c : AV) (i : Nat) : AV := match (c.drop (i * sz)).take sz with | some r => r | none => .nil
def strsOf : AV → Option (List (Th (List UInt8)))
  | .nil => some []
  | .cons (.str t) r => match strsOf r with | some L => some (t :: L) | none => none
  | _ => none
def intsOf (k : IntKind) : AV → Option (List (Th Int))
  | .nil => some []
  | .cons (.int k' t) r => match k' == k with | true => (match intsOf k r with | some L => some (t :: L) | none => none) | false => none
  | _ => none
/-- The same; of texts or numbers told so that the number of the element may be unknown. -/
def elemAt (sz : Nat) (c : AV) (i : Nat) : AV := match sz, c with
  | 1, .cons (.str t) r => match strsOf r with | some L => .cons (.str fun _ => ((t :: L).getD i t) .o) .nil | none => elemAt0 1 (.cons (.str t) r) i
  | 1, .cons (.int k t) r => match intsOf k r with | some L => .cons (.int k fun _ => ((t :: L).getD i t) .o) .nil | none => elemAt0 1 (.cons (.int k t) r) i
  | sz, c => elemAt0 sz c i
/-- Operations that only yield a value. -/
def qev (s : St) : RO → QR
  | .mov x => .ok (x.ev s)
  | .pick c a b => apick (c.ev s) (a.ev s) (b.ev s)
  | .bin op fit x y => abin op fit (x.ev s) (y.ev s)
  | .un op x => aun op (x.ev s)
  | .load1 x => aload first s (x.ev s)
  | .loadA n x => aload (takeA n) s (x.ev s)
  | .fld off x => afld off (x.ev s)
  | .field1 off x => afield first off (x.ev s)
  | .fieldA off n x => afield (takeA n) off (x.ev s)
  | .idx sz x i => aidx sz s (x.ev s) (i.ev s)
  | .idxS x i => aidxS (x.ev s) (i.ev s)
  | .len x => alen s (x.ev s)
  | .lenS x => alenS (x.ev s)
  | .mm mx xs => match evs s xs with | [] => .bad | x :: r => okO (amms mx x r)
  | .sliceS x lo hi => asliceS (x.ev s) (evo s lo) (evo s hi)
  | .slice sz x lo hi => aslice sz s (x.ev s) (evo s lo) (evo s hi)
  | .mkfn f first caps => .ok (.fn f (chain (evs s first)) (chain (evs s caps)))
  | .mkif t x => .ok (.ifc t (x.ev s))
  | .assert t z x => aassert t z (x.ev s)
  | .ext i x => aext i (x.ev s)
  | .conv k x => aconv k (x.ev s)
  | .chk x => achk (x.ev s)
  | .b2s x => ab2s s (x.ev s)
  | .s2b x => as2b (x.ev s)
  | .idxA sz len x i => aidxA sz len s (x.ev s) (i.ev s)
  | .build z ps => match fillc s z ps with | some c => .ok (.agg c) | none => .bad
  | _ => .bad
inductive ARes : Type | ret (v : AV) | pan (v : AV)
end Go.Proofs.YtkklflpfklbbcaaDoor.Sx
/- A symbolic executor for the model's code: operations that only yield a value do as the model does. -/
namespace Go.Proofs.YtkklflpfklbbcaaDoor.Sx
open Go
/-- No cell of the first n may not be written. -/
def Soft0 (n : Nat) (fr : Nat × Nat) : Prop := fr.1 = fr.2 ∨ n ≤ fr.1
/-- The same, of rows of elements of sz cells: what may be marked has elements of one cell. -/
def Soft (sz n : Nat) (fr : Nat × Nat) : Prop := fr.1 = fr.2 ∨ (sz = 1 ∧ n ≤ fr.1)
theorem Soft.to0 {sz n : Nat} {fr : Nat × Nat} (h : Soft sz n fr) : Soft0 n fr := h.imp id And.right
/-- Block g holds the cells l, and they may be written. -/
structure Hs (w : World) (g : Nat) (l : List Value) (e : TypeId) (sz : Nat) : Prop where
  ex : ∃ fr, w.heap[g]? = some (.cells l.toArray e fr) ∧ Soft sz l.length fr
theorem Hs.mk0 {w : World} {g : Nat} {l : List Value} {e : TypeId} {sz : Nat} (h : w.heap[g]? = some (.cells l.toArray e (0, 0))) : Hs w g l e sz := ⟨_, h, .inl rfl⟩
theorem Hs.of {w w' : World} {g g' : Nat} {l : List Value} {e : TypeId} {sz : Nat} (h : Hs w g l e sz) (hw : w'.heap[g']? = w.heap[g]?) : Hs w' g' l e sz := by
  obtain ⟨fr, h1, h2⟩ := h.ex
  exact ⟨fr, hw.trans h1, h2⟩
theorem Hs.cell {w : World} {g : Nat} {l : List Value} {e : TypeId} {sz : Nat} (h : Hs w g l e sz) (j : Nat) : w.cell? ⟨g, j, none⟩ = l[j]? := by
  obtain ⟨fr, h1, _⟩ := h.ex
  simp [World.cell?, h1]
theorem Hs.lt {w : World} {g : Nat} {l : List Value} {e : TypeId} {sz : Nat} (h : Hs w g l e sz) : g < w.heap.size := by
  obtain ⟨fr, h1, _⟩ := h.ex
  exact (Array.getElem?_eq_some_iff.1 h1).1
theorem Hs.setRow {w : World} {g : Nat} {l l' : List Value} {e : TypeId} {sz : Nat} (h : Hs w g l e sz) (hl : l'.length = l.length) : Hs (w.setRow g l'.toArray) g l' e sz := by
  obtain ⟨fr, h1, h2⟩ := h.ex
  exact ⟨fr, setRow_heap w g _ _ e fr h1, by rw [hl]; exact h2⟩
theorem run_storeCells_soft (P : Program) (g o : Nat) (t : TypeId) (fr : Nat × Nat) : ∀ (vs : List Value) (i : Nat) (cur : Array Value) (w : World), w.heap[g]? = some (.cells cur t fr) → Soft0 cur.size fr → o + i + vs.length ≤ cur.size → (∀ v ∈ vs, v.oneCell' = true) →
    (storeCells ⟨g, o, none⟩ vs i).run P w = .ok () (w.setRow g (cur.toList.take (o + i) ++ vs ++ cur.toList.drop (o + i + vs.length)).toArray)
  | [], i, cur, w, hg, _, _, _ => by
    simp only [storeCells, List.append_nil, List.length_nil, Nat.add_zero, List.take_append_drop, Array.toArray_toList]
    rw [setRow_self w g cur t fr hg]
    rfl
  | v :: rest, i, cur, w, hg, hs, hl, h1 => by
    have hi : o + i < cur.size := by simp at hl; omega
    have hadd : (⟨g, o, none⟩ : Addr).add i = ⟨g, o + i, none⟩ := by unfold Addr.add; split <;> simp_all
    have hcell : w.cell? ⟨g, o + i, none⟩ = some cur[o + i] := by simp [World.cell?, hg, hi]
    have hfro : w.frozen? ⟨g, o + i, none⟩ = false := by
      obtain ⟨lo, hi'⟩ := fr
      simp only [Soft0] at hs
      simp only [World.frozen?, hg, Bool.and_eq_false_iff, decide_eq_false_iff_not]
      omega
    have hst : (store ((⟨g, o, none⟩ : Addr).add i) v).run P w = .ok () (w.setRow g (cur.setIfInBounds (o + i) v)) := by
      rw [hadd, run_store P w _ v _ (h1 v (by simp)), hcell]
      simp [hfro, setCell_eq_setRow w g (o + i) cur t fr v hg]
    have ih := run_storeCells_soft P g o t fr rest (i + 1) (cur.setIfInBounds (o + i) v) (w.setRow g (cur.setIfInBounds (o + i) v)) (setRow_heap w g cur _ t _ hg) (by simpa using hs) (by simp at hl ⊢; omega) (fun x hx => h1 x (by simp [hx]))
    simp only [storeCells, Sem.run_bind, hst, Result.andThen_ok, ih, setRow_setRow]
    congr 3
    have e := list_seg_step cur.toList (o + i) v rest (by simp at hl ⊢; omega)
    simpa [Array.toList_setIfInBounds, Nat.add_assoc] using e
def BlkRp (E : Env) (d : Nat) : Blk → Prop
  | .no => True
  | .cells c => ∃ l e, E.w.heap[E.ρ d]? = some (.cells (List.toArray l) e (0, 0)) ∧ ListC E c l
  | .row sz n g => (E.rv d = .slice none 0 0 ∧ n .o = 0) ∨ ∃ cap cur e, E.rv d = .slice (some ⟨E.ρ d, 0, none⟩) (n .o) cap ∧ Hs E.w (E.ρ d) cur e sz ∧ n .o ≤ cap ∧ cap ≤ maxLen ∧
      cur.length = cap * sz ∧ ∀ i, i < n .o → (g fun _ => i).okE ∧ ListC E (g fun _ => i) ((cur.drop (i * sz)).take sz)
/-- Does place d own a block of memory? -/
def solid (E : Env) (d : Nat) : Blk → Prop
  | .cells _ => True
  | .row _ _ _ => E.rv d ≠ .slice none 0 0
  | .no => False
structure SI (E : Env) (s : St) (a : Act) : Prop where
  tmps : ∀ d, Rp E (s.t.get d) (a.tmps.getD d undef)
  blk : ∀ d, BlkRp E d (s.b.get d)
theorem rp_scal {E : Env} {x : AV} {v : Value} (h : Rp E x v) (hs : x.scal = true) : v.oneCell' = true := by
  cases x <;> simp only [AV.scal, Bool.false_eq_true] at hs <;> simp only [Rp] at h
  all_goals first
    | (subst h; rfl)
    | (rcases h with ⟨_, _, _, h1⟩ | ⟨_, _, _, _, _, _, h1, _⟩ <;> (rw [h1]; rfl))
    | (obtain ⟨_, _, _, _, rfl⟩ := h; rfl)
    | (obtain ⟨_, _, rfl, _⟩ := h; rfl)
    | (obtain ⟨_, rfl, _⟩ := h; rfl)
theorem rp_agg {E : Env} {c : AV} {v : Value} : Rp E (.agg c) v ↔ ∃ l, v = .agg (List.toArray l) ∧ ListC E c l := by simp only [Rp]
theorem rp_tup {E : Env} {c : AV} {v : Value} : Rp E (.tup c) v ↔ ∃ l, v = .tuple (List.toArray l) ∧ ListC E c l := by simp only [Rp]
theorem listC_nil {E : Env} {l : List Value} : ListC E .nil l ↔ l = [] := by simp only [ListC]
theorem listC_cons {E : Env} {h t : AV} {l : List Value} : ListC E (.cons h t) l ↔ ∃ x r, l = x :: r ∧ Rp E h x ∧ ListC E t r := by simp only [ListC]
theorem listC_drop {E : Env} : ∀ (n : Nat) (c : AV) (l : List Value), ListC E c l → ListC E (c.drop n) (l.drop n)
  | 0, c, l, h => by unfold AV.drop; simpa using h
  | n + 1, .cons a t, l, h => by
    obtain ⟨x, r, rfl, _, h2⟩ := listC_cons.1 h
    simpa [AV.drop] using listC_drop n t r h2
  | n + 1, .nil, l, h => by rw [listC_nil.1 h]; simpa [AV.drop] using listC_nil.2 rfl
  | n + 1, .any, l, h | n + 1, .int _ _, l, h | n + 1, .bool _, l, h | n + 1, .tt, l, h | n + 1, .ff, l, h | n + 1, .str _, l, h | n + 1, .sl _ _ _, l, h | n + 1, .nsl, l, h
  | n + 1, .row _, l, h | n + 1, .ptr _ _, l, h | n + 1, .iptr _, l, h | n + 1, .rptr _ _ _ _, l, h | n + 1, .win _ _ _ _, l, h | n + 1, .nptr, l, h | n + 1, .fn _ _ _, l, h | n + 1, .nfn, l, h | n + 1, .nif, l, h
  | n + 1, .ifc _ _, l, h | n + 1, .agg _, l, h | n + 1, .tup _, l, h => by simp only [ListC] at h
theorem memC_drop {E : Env} : ∀ (n : Nat) (c : AV) (b o : Nat), MemC E c b o → MemC E (c.drop n) b (o + n)
  | 0, c, b, o, h => by unfold AV.drop; simpa using h
  | n + 1, .cons a t, b, o, h => by
    simp only [MemC] at h
    have := memC_drop n t b (o + 1) h.2
    simpa [AV.drop, Nat.add_comm, Nat.add_left_comm] using this
  | n + 1, .nil, b, o, h => by simp [AV.drop, MemC]
  | n + 1, .any, b, o, h | n + 1, .int _ _, b, o, h | n + 1, .bool _, b, o, h | n + 1, .tt, b, o, h | n + 1, .ff, b, o, h | n + 1, .str _, b, o, h | n + 1, .sl _ _ _, b, o, h | n + 1, .nsl, b, o, h
  | n + 1, .row _, b, o, h | n + 1, .ptr _ _, b, o, h | n + 1, .iptr _, b, o, h | n + 1, .rptr _ _ _ _, b, o, h | n + 1, .win _ _ _ _, b, o, h | n + 1, .nptr, b, o, h | n + 1, .fn _ _ _, b, o, h | n + 1, .nfn, b, o, h | n + 1, .nif, b, o, h
  | n + 1, .ifc _ _, b, o, h | n + 1, .agg _, b, o, h | n + 1, .tup _, b, o, h => by simp only [MemC] at h
theorem listC_nth {E : Env} : ∀ (n : Nat) (c : AV) (l : List Value) (x : AV), ListC E c l → c.nth n = some x → ∃ v, l[n]? = some v ∧ Rp E x v
  | 0, .cons a t, l, x, h, hn => by
    obtain ⟨v, r, rfl, h1, _⟩ := listC_cons.1 h
    simp only [AV.nth, Option.some.injEq] at hn
    subst hn
    exact ⟨v, rfl, h1⟩
  | n + 1, .cons a t, l, x, h, hn => by
    obtain ⟨v, r, rfl, _, h2⟩ := listC_cons.1 h
    simp only [AV.nth] at hn
    simpa using listC_nth n t r x h2 hn
  | n, .nil, l, x, h, hn => by cases n <;> simp [AV.nth] at hn
  | n, .any, l, x, h, hn | n, .int _ _, l, x, h, hn | n, .bool _, l, x, h, hn | n, .tt, l, x, h, hn | n, .ff, l, x, h, hn | n, .str _, l, x, h, hn | n, .sl _ _ _, l, x, h, hn | n, .nsl, l, x, h, hn
  | n, .row _, l, x, h, hn | n, .ptr _ _, l, x, h, hn | n, .iptr _, l, x, h, hn | n, .rptr _ _ _ _, l, x, h, hn | n, .win _ _ _ _, l, x, h, hn | n, .nptr, l, x, h, hn | n, .fn _ _ _, l, x, h, hn | n, .nfn, l, x, h, hn | n, .nif, l, x, h, hn
  | n, .ifc _ _, l, x, h, hn | n, .agg _, l, x, h, hn | n, .tup _, l, x, h, hn => by simp only [ListC] at h
theorem listC_take {E : Env} : ∀ (n : Nat) (c : AV) (l : List Value) (r : AV), ListC E c l → c.take n = some r → ListC E r (l.take n) ∧ n ≤ l.length
  | 0, c, l, r, h, hn => by
    have : r = .nil := by cases c <;> simp [AV.take] at hn <;> exact hn.symm
    subst this
    exact ⟨by simpa using listC_nil.2 rfl, Nat.zero_le _⟩
  | n + 1, .cons a t, l, r, h, hn => by
    obtain ⟨v, q, rfl, h1, h2⟩ := listC_cons.1 h
    simp only [AV.take] at hn
    split at hn
    · rename_i r' hr
      cases hn
      obtain ⟨h3, h4⟩ := listC_take n t q r' h2 hr
      exact ⟨by simpa using listC_cons.2 ⟨v, q.take n, rfl, h1, h3⟩, by simpa using h4⟩
    · cases hn
  | n + 1, .nil, l, r, h, hn => by simp [AV.take] at hn
  | n + 1, .any, l, r, h, hn | n + 1, .int _ _, l, r, h, hn | n + 1, .bool _, l, r, h, hn | n + 1, .tt, l, r, h, hn | n + 1, .ff, l, r, h, hn | n + 1, .str _, l, r, h, hn | n + 1, .sl _ _ _, l, r, h, hn | n + 1, .nsl, l, r, h, hn
  | n + 1, .row _, l, r, h, hn | n + 1, .ptr _ _, l, r, h, hn | n + 1, .iptr _, l, r, h, hn | n + 1, .rptr _ _ _ _, l, r, h, hn | n + 1, .win _ _ _ _, l, r, h, hn | n + 1, .nptr, l, r, h, hn | n + 1, .fn _ _ _, l, r, h, hn | n + 1, .nfn, l, r, h, hn | n + 1, .nif, l, r, h, hn
  | n + 1, .ifc _ _, l, r, h, hn | n + 1, .agg _, l, r, h, hn | n + 1, .tup _, l, r, h, hn => by simp only [ListC] at h
/-- At (b, o) stand cells that read as a chain. -/
def At (E : Env) (b o : Nat) (c : AV) : Prop := ∃ l, ListC E c l ∧ ∀ j v, l[j]? = some v → E.w.cell? ⟨b, o + j, none⟩ = some v
theorem at_of_mem {E : Env} (c : AV) : ∀ (b o : Nat), MemC E c b o → At E b o c := by
  induction c with
  | nil => intro b o _; exact ⟨[], listC_nil.2 rfl, fun j v h => by simp at h⟩
  | cons a t _ ih =>
    intro b o h
    simp only [MemC] at h
    obtain ⟨⟨v, h1, _, h2⟩, h3⟩ := h
    obtain ⟨l, h4, h5⟩ := ih b (o + 1) h3
    refine ⟨v :: l, listC_cons.2 ⟨v, l, rfl, h2, h4⟩, fun j u hj => ?_⟩
    cases j with
    | zero => simp at hj; subst hj; simpa using h1
    | succ j => have := h5 j u (by simpa using hj); rw [← this]; congr 2; omega
  | _ => intro b o h; simp only [MemC] at h
theorem cell_of_heap {w : World} {g : Nat} {l : List Value} {e : TypeId} {fr : Nat × Nat} (h : w.heap[g]? = some (.cells l.toArray e fr)) (j : Nat) : w.cell? ⟨g, j, none⟩ = l[j]? := by
  simp [World.cell?, h]
theorem at_of_heap {E : Env} {c : AV} {g o : Nat} {l : List Value} {e : TypeId} {fr : Nat × Nat} (h : E.w.heap[g]? = some (.cells l.toArray e fr)) (hc : ListC E c l) : At E g o (c.drop o) := by
  refine ⟨l.drop o, listC_drop o c l hc, fun j v hj => ?_⟩
  rw [cell_of_heap h]
  simpa using hj
theorem listC_len' {E : Env} {c : AV} : ∀ {l : List Value}, ListC E c l → c.len = l.length := by
  induction c with
  | nil => intro l h; rw [listC_nil.1 h]; rfl
  | cons p q _ ih => intro l h; obtain ⟨x, r, rfl, _, h4⟩ := listC_cons.1 h; simp [AV.len, ih h4]
  | _ => intro l h; simp only [ListC] at h
theorem row_elem {cur : List Value} {cap sz n i : Nat} (h : cur.length = cap * sz) (hc : n ≤ cap) (hi : i < n) : ((cur.drop (i * sz)).take sz).length = sz := by
  have : (i + 1) * sz ≤ cap * sz := Nat.mul_le_mul_right _ (by omega)
  rw [Nat.add_mul] at this
  simp only [List.length_take, List.length_drop, h]
  omega
theorem at_row {E : Env} {d sz i o : Nat} {n : Th Nat} {g : Th Nat → AV} (h : BlkRp E d (.row sz n g)) (hi : i < n .o) : At E (E.ρ d) (i * sz + o) ((g fun _ => i).drop o) := by
  rcases h with ⟨_, h0⟩ | ⟨cap, cur, e, _, h2, h3, _, h5, h6⟩
  · rw [h0] at hi; exact absurd hi (Nat.not_lt_zero _)
  obtain ⟨_, h7⟩ := h6 i hi
  refine ⟨_, listC_drop o _ _ h7, fun j v hj => ?_⟩
  rw [h2.cell]
  rw [List.getElem?_drop, List.getElem?_take] at hj
  split at hj
  · rw [List.getElem?_drop] at hj; rw [← hj]; congr 1; omega
  · cases hj
/-- What a load reads. -/
def LoadsAs (E : Env) (b o : Nat) (v : AV) (n : Option Nat) : Prop :=
  match n with
  | none => ∃ x, E.w.cell? ⟨b, o, none⟩ = some x ∧ Rp E v x
  | some k => ∃ l : List Value, l.length = k ∧ (∀ j u, l[j]? = some u → E.w.cell? ⟨b, o + j, none⟩ = some u) ∧ Rp E v (.agg l.toArray)
theorem loads_first {E : Env} {b o : Nat} {c v : AV} (h : At E b o c) (hf : first c = some v) : LoadsAs E b o v none := by
  obtain ⟨l, h1, h2⟩ := h
  obtain ⟨x, h3, h4⟩ := listC_nth 0 c l v h1 hf
  exact ⟨x, by simpa using h2 0 x h3, h4⟩
theorem loads_take {E : Env} {b o n : Nat} {c v : AV} (h : At E b o c) (hf : takeA n c = some v) : LoadsAs E b o v (some n) := by
  obtain ⟨l, h1, h2⟩ := h
  unfold takeA at hf
  split at hf
  · rename_i r hr
    cases hf
    obtain ⟨h3, h4⟩ := listC_take n c l r h1 hr
    refine ⟨l.take n, by simp; omega, fun j u hj => ?_, rp_agg.2 ⟨_, rfl, h3⟩⟩
    rw [List.getElem?_take] at hj
    split at hj
    · exact h2 j u hj
    · cases hj
  · cases hf
/-- An address that is loaded from, and what is there. -/
theorem aload_sound {E : Env} {s : St} {a : Act} (hS : SI E s a) {f : AV → Option AV} {k : Option Nat} (hf : ∀ b o c v, At E b o c → f c = some v → LoadsAs E b o v k)
    {x : AV} {xv : Value} (hx : Rp E x xv) {p : Prop} {v : AV} (h : aload f s x = .ok v ∧ p ∨ ∃ q : Th Prop, aload f s x = .cond q v ∧ q .o) :
    ∃ b o, xv = .pointer (some ⟨b, o, none⟩) ∧ LoadsAs E b o v k := by
  unfold aload at h
  cases x with
  | iptr c =>
    obtain ⟨b, o, rfl, h2⟩ := hx
    refine ⟨b, o, rfl, ?_⟩
    cases hc : f c with
    | none => simp [hc, okO] at h
    | some u => simp only [hc, okO, QR.ok.injEq, reduceCtorEq, false_and, exists_false, or_false] at h; rw [← h.1]; exact hf _ _ _ _ (at_of_mem c b o h2) hc
  | ptr d o =>
    have hb := hS.blk d
    cases hB : s.b.get d with
    | no => simp [hB] at h
    | row _ _ _ => simp [hB] at h
    | cells c =>
      rw [hB] at hb
      obtain ⟨l, e, h1, h2⟩ := hb
      refine ⟨E.ρ d, o, hx, ?_⟩
      cases hc : f (c.drop o) with
      | none => simp [hB, hc, okO] at h
      | some u => simp only [hB, hc, okO, QR.ok.injEq, reduceCtorEq, false_and, exists_false, or_false] at h; rw [← h.1]; exact hf _ _ _ _ (at_of_heap h1 h2) hc
  | rptr d sz i o =>
    have hb := hS.blk d
    cases hB : s.b.get d with
    | no => simp [hB] at h
    | cells _ => simp [hB] at h
    | row sz' n g =>
      rw [hB] at hb
      refine ⟨E.ρ d, i .o * sz + o, hx, ?_⟩
      simp only [hB] at h
      cases hsz : sz == sz' with
      | false => simp [hsz] at h
      | true =>
        have : sz = sz' := by simpa using hsz
        subst this
        cases hc : f ((g i).drop o) with
        | none => simp [hc] at h
        | some u =>
          simp only [hsz, hc, reduceCtorEq, false_and, QR.cond.injEq, false_or] at h
          obtain ⟨q, ⟨rfl, rfl⟩, hq⟩ := h
          exact hf _ _ _ _ (at_row hb hq) hc
  | _ => simp at h
section
variable {P : Program} {w : World}
theorem run_valueOf (s : Sem Value) : ((do pure (Next.value (← s))) : Sem Next).run P w = (s.run P w).andThen fun v w' => .ok (.value v) w' := by
  simp
/-- Is a value of this kind a row of cells? -/
def aggD : TypeDesc → Bool | .struct _ => true | .array _ _ => true | _ => false
theorem run_isAgg {t : TypeId} {d : TypeDesc} (hu : P.underlying t = some d) : (isAgg t).run P w = .ok (aggD d) w := by
  unfold isAgg
  simp only [Sem.run_bind, Result.andThen_ok, run_underlying hu]
  cases d <;> rfl
theorem run_sizeOf {t : TypeId} {i : TypeInfo} (hi : P.info? t = some i) : (sizeOf t).run P w = .ok i.size w := by simp [sizeOf, typeInfo, hi]
theorem addr_add (b o j : Nat) : (⟨b, o, none⟩ : Addr).add j = ⟨b, o + j, none⟩ := by
  unfold Addr.add; split <;> simp_all
theorem run_load1 {t : TypeId} {d : TypeDesc} (hu : P.underlying t = some d) (hd : aggD d = false) {A : Addr} {v : Value} (hc : w.cell? A = some v) :
    (Instr.loadAt t (.pointer (some A))).run P w = .ok v w := by
  unfold Instr.loadAt Instr.sureAddr loadVar
  simp only [Sem.run_bind, Sem.run_pure, Result.andThen_ok, run_isAgg hu, hd, Bool.false_eq_true, if_false]
  simp [load, Sem.run, hc]
theorem run_loadA {t : TypeId} {d : TypeDesc} (hu : P.underlying t = some d) (hd : aggD d = true) {i : TypeInfo} (hi : P.info? t = some i)
    {b o : Nat} {l : List Value} (hl : l.length = i.size) (hc : ∀ j v, l[j]? = some v → w.cell? ⟨b, o + j, none⟩ = some v) :
    (Instr.loadAt t (.pointer (some ⟨b, o, none⟩))).run P w = .ok (.agg l.toArray) w := by
  have h1 := run_loadCells_list (P := P) (w := w) ⟨b, o, none⟩ l (fun j v hj => by rw [addr_add]; exact hc j v hj)
  rw [hl] at h1
  unfold Instr.loadAt Instr.sureAddr loadVar
  simp only [Sem.run_bind, Sem.run_pure, Result.andThen_ok, run_isAgg hu, hd, if_true, run_sizeOf hi, h1]
end
end Go.Proofs.YtkklflpfklbbcaaDoor.Sx
/- A symbolic executor for the model's code: resolved operations, and that those which only yield a value do as the model does. -/
namespace Go.Proofs.YtkklflpfklbbcaaDoor.Sx
open Go
def cval1 : Value → Option AV
  | .bool true => some .tt
  | .bool false => some .ff
  | .int k n => some (.int k fun _ => n)
  | .string s => some (.str fun _ => s.data.toList)
  | .nilIface => some .nif
  | .nilFunc => some .nfn
  | .pointer none => some .nptr
  | .slice none 0 0 => some .nsl
  | _ => none
def cvals : List Value → Option AV
  | [] => some .nil
  | v :: r => match cval1 v, cvals r with | some x, some c => some (.cons x c) | _, _ => none
def cval : Value → Option AV
  | .agg cs => (cvals cs.toList).map .agg
  | v => cval1 v
def rOpd : Operand → Option Opd
  | .tmp t => some (.tmp t)
  | .const v => (cval v).map .val
  | .func f => some (.val (.fn (.func f) .nil .nil))
  | .global _ => none
def rOpds : List Operand → Option (List Opd)
  | [] => some []
  | x :: r => match rOpd x, rOpds r with | some y, some q => some (y :: q) | _, _ => none
def rOpdo : Option Operand → Option (Option Opd)
  | none => some none
  | some x => (rOpd x).map some
theorem cval1_sound {E : Env} {v : Value} {x : AV} (h : cval1 v = some x) : Rp E x v ∧ x.still := by
  unfold cval1 at h
  split at h <;> cases h <;> simp [Rp, AV.still]
theorem cvals_sound (E : Env) : ∀ (l : List Value) (x : AV), cvals l = some x → ListC E x l ∧ x.still
  | [], x, h => by cases h; exact ⟨listC_nil.2 rfl, trivial⟩
  | v :: r, x, h => by
    unfold cvals at h
    split at h
    · rename_i y c hy hc
      cases h
      exact ⟨listC_cons.2 ⟨v, r, rfl, (cval1_sound hy).1, (cvals_sound E r c hc).1⟩, (cval1_sound (E := E) hy).2, (cvals_sound E r c hc).2⟩
    · cases h
theorem cval_sound {E : Env} {v : Value} {x : AV} (h : cval v = some x) : Rp E x v ∧ x.still := by
  unfold cval at h
  split at h
  · rename_i cs
    cases hc : cvals cs.toList with
    | none => simp [hc] at h
    | some c => simp [hc] at h; subst h; exact ⟨rp_agg.2 ⟨cs.toList, by simp, (cvals_sound E _ _ hc).1⟩, (cvals_sound E _ _ hc).2⟩
  · exact cval1_sound h
theorem opd_sound {E : Env} {s : St} {a : Act} (hS : SI E s a) {x : Operand} {y : Opd} (h : rOpd x = some y) : Rp E (y.ev s) (a.eval x) := by
  unfold rOpd at h
  split at h
  · cases h; exact hS.tmps _
  · rename_i v
    cases hc : cval v with
    | none => simp [hc] at h
    | some c => simp [hc] at h; subst h; exact (cval_sound hc).1
  · cases h; simp only [Opd.ev, Rp]; exact ⟨[], [], rfl, listC_nil.2 rfl, listC_nil.2 rfl⟩
  · cases h
theorem opds_sound {E : Env} {s : St} {a : Act} (hS : SI E s a) : ∀ (l : List Operand) (m : List Opd), rOpds l = some m → ListC E (chain (evs s m)) (l.map a.eval)
  | [], m, h => by cases h; exact listC_nil.2 rfl
  | x :: r, m, h => by
    unfold rOpds at h
    split at h
    · rename_i y q hy hq
      cases h
      exact listC_cons.2 ⟨_, _, rfl, opd_sound hS hy, opds_sound hS r q hq⟩
    · cases h
/-- The kinds of a value's cells, if all are numbers, truths, texts, one behind the other. -/
def flatF (g : TypeId → Option (List KD)) (P : Program) : List Field → Nat → Option (List KD)
  | [], _ => some []
  | f :: r, off => if f.name = "_" ∨ f.offset ≠ off then none else
    match g f.type, P.info? f.type with
    | some ks, some i => if i.size = ks.length then (match flatF g P r (off + ks.length) with | some q => some (ks ++ q) | none => none) else none
    | _, _ => none
def flatB (P : Program) : Nat → TypeId → Option (List KD)
  | 0, _ => none
  | d + 1, t => match P.underlying t with
    | some .bool => some [.b]
    | some (.int k) => some [.i k]
    | some .string => some [.s]
    | some (.struct fs) => if P.stoodInHeld t = true then none else flatF (flatB P d) P fs.toList 0
    | _ => none
def isC : Operand → Bool | .const _ => true | _ => false
def rFit (P : Program) (t : TypeId) (lit : Bool) : Fit :=
  match P.underlying t with
  | some .bool => .bool
  | some (.pointer _) => .ptr
  | some (.interface ms) => .ifc (lit || ms.isEmpty)
  | some (.struct _) => if P.eqGuardType P.depth t = false then (match flatB P 20 t with | some ks => .agg ks | none => .no) else .no
  | _ => .no
def isU8 (P : Program) (e : TypeId) : Bool := match P.underlying e with | some (.int .u8) => true | _ => false
theorem isU8_spec {P : Program} {e : TypeId} (h : isU8 P e = true) : P.underlying e = some (.int .u8) := by
  unfold isU8 at h
  split at h
  · assumption
  · cases h
def rOp (P : Program) : Op → Option RO
  | .move x => (rOpd x).map .mov
  | .assign x => (rOpd x).map .mov
  | .pick c a b => match rOpd c, rOpd a, rOpd b with | some c, some a, some b => some (.pick c a b) | _, _, _ => none
  | .binOp op t X Y _ => match rOpd X, rOpd Y with | some x, some y => some (.bin op (rFit P t (isC X || isC Y)) x y) | _, _ => none
  | .unOp op _ x => (rOpd x).map (.un op)
  | .load t a => match P.underlying t, P.info? t, rOpd a with
    | some d, some i, some x => some (if aggD d = true then .loadA i.size x else .load1 x)
    | _, _, _ => none
  | .fieldAddr t x f => match P.underlying t, rOpd x with
    | some (.struct fs), some x => match fs[f]? with
      | some fl => match P.info? fl.type with
        | some i => if i.size = 0 then none else some (.fld fl.offset x)
        | none => none
      | none => none
    | _, _ => none
  | .field t x f => match P.underlying t, rOpd x with
    | some (.struct fs), some x => match fs[f]? with
      | some fl => match P.underlying fl.type, P.info? fl.type with
        | some d, some i => some (if aggD d = true then .fieldA fl.offset i.size x else .field1 fl.offset x)
        | _, _ => none
      | none => none
    | _, _ => none
  | .indexAddr t x i => match P.underlying t, rOpd x, rOpd i with
    | some (.slice e), some x, some i => match P.info? e with
      | some inf => some (.idx inf.size x i)
      | none => none
    | some (.array len e), some x, some i => match P.info? e with
      | some inf => some (.idxA inf.size len x i)
      | none => none
    | _, _, _ => none
  | .index t x i => match P.underlying t, rOpd x, rOpd i with
    | some .string, some x, some i => some (.idxS x i)
    | _, _, _ => none
  | .slice t x lo hi none => match P.underlying t, rOpd x, rOpdo lo, rOpdo hi with
    | some .string, some x, some lo, some hi => some (.sliceS x lo hi)
    | some (.slice e), some x, some lo, some hi => match P.info? e with
      | some inf => some (.slice inf.size x lo hi)
      | none => none
    | _, _, _, _ => none
  | .makeFunc fn first caps => match rOpds first.toList, rOpds caps.toList with | some a, some b => some (.mkfn fn a b) | _, _ => none
  | .makeInterface t x => match P.underlying t, rOpd x with
    | some (.interface _), _ => none
    | some _, some x => some (.mkif t x)
    | _, _ => none
  | .typeAssert x _ t true => match P.underlying t, P.info? t, rOpd x with
    | some (.interface _), _, _ => none
    | some _, some i, some x => match i.zero with
      | some z => match cval z with
        | some z => some (.assert t z x)
        | none => none
      | none => none
    | _, _, _ => none
  | .extract x i => (rOpd x).map (.ext i)
  | .convert src dst x => match P.underlying src, P.underlying dst, rOpd x with
    | some _, some (.int k), some x => some (.conv k x)
    | some (.slice e), some .string, some x => if isU8 P e = true then some (.b2s x) else none
    | _, _, _ => none
  | .call { callee := .builtin .len, args := args, argTypes := ts } => match args.toList, ts.toList with
    | [x], t :: _ => match P.underlying t, rOpd x with
      | some .string, some x => some (.lenS x)
      | some (.slice _), some x => some (.len x)
      | _, _ => none
    | _, _ => none
  | .call { callee := .builtin .min, args := args, argTypes := _ } => (rOpds args.toList).map (.mm false)
  | .call { callee := .builtin .max, args := args, argTypes := _ } => (rOpds args.toList).map (.mm true)
  | .nilCheck x => (rOpd x).map .chk
  | _ => none
/-- q yields v. -/
def QR.gives (q : QR) (v : AV) : Prop := q = .ok v ∨ ∃ p, q = .cond p v ∧ p .o
theorem gives_ok {v v' : AV} : (QR.ok v').gives v ↔ v' = v := by simp [QR.gives]
theorem gives_cond {p : Th Prop} {v v' : AV} : (QR.cond p v').gives v ↔ v' = v ∧ p .o := by
  constructor
  · rintro (h | ⟨q, h, hq⟩)
    · cases h
    · cases h; exact ⟨rfl, hq⟩
  · rintro ⟨rfl, h⟩; exact .inr ⟨p, rfl, h⟩
theorem gives_bad {v : AV} : QR.bad.gives v ↔ False := by simp [QR.gives]
theorem rp_bl {E : Env} {x : AV} {v : Value} {b : Th Bool} (h : Rp E x v) (hb : x.bl = some b) : v = .bool (b .o) := by
  cases x <;> simp [AV.bl] at hb <;> subst hb <;> simpa [Rp] using h
theorem toList_mk (l : List UInt8) : (⟨l.toArray⟩ : ByteArray).toList = l := by rw [ByteArray.toList_eq]
section
variable {P : Program} {E : Env} {t : TypeId} {X Y : Operand} {x y v : AV} {xv yv : Value} {w : World}
theorem abinI_sound {op : BinOp} {k k' : IntKind} {a b : Th Int} (hg : (match isShift op with | true => ashift op k a b | false => match kq k k' with | true => abinI op k a b | false => QR.bad).gives v) :
    ∃ z, ((do eqGuard op t X Y (.int k (a .o)) (.int k' (b .o)); binOp op t (.int k (a .o)) (.int k' (b .o))) : Sem Value).run P w = .ok z w ∧ Rp E v z := by
  have hgd : (eqGuard op t X Y (.int k (a .o)) (.int k' (b .o))).run P w = .ok () w := by unfold eqGuard; cases op <;> simp
  simp only [Sem.run_bind, hgd, Result.andThen_ok]
  cases hs : isShift op with
  | true =>
    simp only [hs] at hg
    cases op <;> simp only [isShift, Bool.false_eq_true] at hs
    · simp only [ashift, gives_cond] at hg
      obtain ⟨rfl, h0⟩ := hg
      refine ⟨_, ?_, rfl⟩
      simp [binOp, Op.shift, Int.not_lt.2 h0]
    · simp only [ashift, gives_cond] at hg
      obtain ⟨rfl, h0⟩ := hg
      refine ⟨_, ?_, rfl⟩
      simp [binOp, Op.shift, Int.not_lt.2 h0]
  | false =>
    simp only [hs] at hg
    cases hk : kq k k' with
    | false => simp only [hk, gives_bad] at hg
    | true =>
      simp only [hk] at hg
      obtain rfl := kq_eq hk
      cases op <;> simp only [isShift, Bool.true_eq_false] at hs <;> simp only [abinI, gives_ok, gives_cond] at hg
      case quo =>
        obtain ⟨rfl, h0⟩ := hg
        exact ⟨_, by simp [binOp, Op.intDiv, h0], rfl⟩
      case rem =>
        obtain ⟨rfl, h0⟩ := hg
        exact ⟨_, by simp [binOp, Op.intDiv, h0], rfl⟩
      all_goals
        subst hg
        refine ⟨_, ?_, rfl⟩
      all_goals first
        | (simp [binOp, Op.intArith]; done)
        | (simp [binOp, Op.intBits, abits, bits]; done)
        | (simp only [binOp, ne_eq, not_true_eq_false, if_false, Op.intCmp, Sem.run_pure, Bool.beq_eq_decide_eq, bne, gt_iff_lt, ge_iff_le]; done)
theorem abinS_sound {op : BinOp} {a b : Th (List UInt8)} (hg : (abinS op a b).gives v) :
    ∃ z, ((do eqGuard op t X Y (.string ⟨(a .o).toArray⟩) (.string ⟨(b .o).toArray⟩); binOp op t (.string ⟨(a .o).toArray⟩) (.string ⟨(b .o).toArray⟩)) : Sem Value).run P w = .ok z w ∧ Rp E v z := by
  have hgd : (eqGuard op t X Y (.string ⟨(a .o).toArray⟩) (.string ⟨(b .o).toArray⟩)).run P w = .ok () w := by unfold eqGuard; cases op <;> simp
  simp only [Sem.run_bind, hgd, Result.andThen_ok]
  cases op <;> simp only [abinS, gives_ok, gives_cond, gives_bad] at hg
  case add =>
    obtain ⟨rfl, h0⟩ := hg
    refine ⟨_, ?_, rfl⟩
    have hsz : ((((⟨(a .o).toArray⟩ : ByteArray).size + (⟨(b .o).toArray⟩ : ByteArray).size : Nat)) : Int) = ((a .o).length + (b .o).length : Nat) := by simp [ByteArray.size]
    have h1 : ¬ ((((a .o).length + (b .o).length : Nat) : Int) > IntKind.i64.max) := by
      have : IntKind.i64.max = 9223372036854775807 := by rfl
      rw [this]; omega
    simp only [binOp, Op.stringOp, hsz, h1, if_false]
    simp only [Sem.run_pure]
    congr 2
  all_goals
    subst hg
    refine ⟨_, ?_, rfl⟩
  all_goals
    simp only [binOp, Op.stringOp, toList_mk, strLt, Sem.run_pure, Bool.beq_eq_decide_eq]
theorem equal_eq (t : TypeId) (x y : Value) : Op.equal t x y = Op.equalIn (9999 + 1) t x y := rfl
theorem run_boolEq (ht : P.underlying t = some .bool) (a b : Bool) : (Op.equal t (.bool a) (.bool b)).run P w = .ok (a == b) w := by
  rw [equal_eq]
  generalize 9999 = d
  simp only [Op.equalIn, Sem.run_bind, run_underlying ht, Result.andThen_ok, Sem.run_pure]
theorem aeq_gives {e : Bool} {r : Option (Th Bool)} (hg : (aeq e r).gives v) : ∃ b : Th Bool, r = some b ∧ v = .bool (fun _ => if e = true then b .o else !b .o) := by
  unfold aeq at hg
  split at hg
  · exact ⟨_, rfl, by rw [gives_ok] at hg; exact hg.symm⟩
  · exact ⟨_, rfl, by rw [gives_ok] at hg; exact hg.symm⟩
  · exact (gives_bad.1 hg).elim
/-- '==' and '!=' by what Op.equal says. -/
theorem run_eqs {op : BinOp} {e : Bool} (he : isEql op = some e) {b : Bool} (hgd : (eqGuard op t X Y xv yv).run P w = .ok () w)
    (hi : ∀ k n k' n', ¬ (xv = .int k n ∧ yv = .int k' n')) (hs : ∀ p q, ¬ (xv = .string p ∧ yv = .string q)) (hf : ∀ p q r s, ¬ (xv = .float p q ∧ yv = .float r s)) (hc : ∀ p q r p' q' r', ¬ (xv = .complex p q r ∧ yv = .complex p' q' r'))
    (hq : (Op.equal t xv yv).run P w = .ok b w) :
    ((do eqGuard op t X Y xv yv; binOp op t xv yv) : Sem Value).run P w = .ok (.bool (if e = true then b else !b)) w := by
  simp only [Sem.run_bind, hgd, Result.andThen_ok]
  cases op <;> simp only [isEql, Option.some.injEq, reduceCtorEq] at he <;> subst he
  · unfold binOp
    split <;> first | (rename_i h; cases h; done) | skip
    all_goals first | exact absurd ⟨rfl, rfl⟩ (hi _ _ _ _) | exact absurd ⟨rfl, rfl⟩ (hs _ _) | exact absurd ⟨rfl, rfl⟩ (hf _ _ _ _) | exact absurd ⟨rfl, rfl⟩ (hc _ _ _ _ _ _) | skip
    all_goals simp_all
  · unfold binOp
    split <;> first | (rename_i h; cases h; done) | skip
    all_goals first | exact absurd ⟨rfl, rfl⟩ (hi _ _ _ _) | exact absurd ⟨rfl, rfl⟩ (hs _ _) | exact absurd ⟨rfl, rfl⟩ (hf _ _ _ _) | exact absurd ⟨rfl, rfl⟩ (hc _ _ _ _ _ _) | skip
    all_goals simp_all
def KV : List KD → List Value → Prop
  | [], [] => True
  | .b :: ks, .bool _ :: l => KV ks l
  | .i k :: ks, .int k' _ :: l => k' = k ∧ KV ks l
  | .s :: ks, .string _ :: l => KV ks l
  | _, _ => False
def cmpL : List Value → List Value → Bool
  | [], [] => true
  | .bool a :: x, .bool b :: y => (a == b) && cmpL x y
  | .int _ a :: x, .int _ b :: y => (a == b) && cmpL x y
  | .string a :: x, .string b :: y => (a == b) && cmpL x y
  | _, _ => false
theorem KV.len : ∀ {ks : List KD} {l : List Value}, KV ks l → l.length = ks.length
  | [], [], _ => rfl
  | .b :: ks, .bool _ :: l, h => by simpa using KV.len (ks := ks) (l := l) h
  | .i k :: ks, .int k' _ :: l, h => by simpa using KV.len (ks := ks) (l := l) h.2
  | .s :: ks, .string _ :: l, h => by simpa using KV.len (ks := ks) (l := l) h
  | [], _ :: _, h => by simp [KV] at h
  | k :: _, [], h => by cases k <;> simp [KV] at h
theorem KV.split : ∀ {ks q : List KD} {l : List Value}, KV (ks ++ q) l → ∃ a b, l = a ++ b ∧ KV ks a ∧ KV q b
  | [], q, l, h => ⟨[], l, rfl, trivial, h⟩
  | .b :: ks, q, .bool x :: l, h => by obtain ⟨a, b, rfl, h1, h2⟩ := KV.split (ks := ks) (q := q) (l := l) h; exact ⟨.bool x :: a, b, rfl, h1, h2⟩
  | .i k :: ks, q, .int k' x :: l, h => by obtain ⟨a, b, rfl, h1, h2⟩ := KV.split (ks := ks) (q := q) (l := l) h.2; exact ⟨.int k' x :: a, b, rfl, ⟨h.1, h1⟩, h2⟩
  | .s :: ks, q, .string x :: l, h => by obtain ⟨a, b, rfl, h1, h2⟩ := KV.split (ks := ks) (q := q) (l := l) h; exact ⟨.string x :: a, b, rfl, h1, h2⟩
  | k :: _, _, [], h => by cases k <;> simp [KV] at h
theorem cmpL_app : ∀ {ks : List KD} {a c : List Value} (b d : List Value), KV ks a → KV ks c → cmpL (a ++ b) (c ++ d) = (cmpL a c && cmpL b d)
  | [], [], [], b, d, _, _ => by simp [cmpL]
  | .b :: ks, .bool x :: a, .bool y :: c, b, d, h1, h2 => by simp [cmpL, cmpL_app (ks := ks) (a := a) (c := c) b d h1 h2, Bool.and_assoc]
  | .i k :: ks, .int _ x :: a, .int _ y :: c, b, d, h1, h2 => by simp [cmpL, cmpL_app (ks := ks) (a := a) (c := c) b d h1.2 h2.2, Bool.and_assoc]
  | .s :: ks, .string x :: a, .string y :: c, b, d, h1, h2 => by simp [cmpL, cmpL_app (ks := ks) (a := a) (c := c) b d h1 h2, Bool.and_assoc]
  | [], _ :: _, _, _, _, h, _ => by simp [KV] at h
  | [], _, _ :: _, _, _, _, h => by simp [KV] at h
  | k :: _, [], _, _, _, h, _ => by cases k <;> simp [KV] at h
  | k :: _, _, [], _, _, _, h => by cases k <;> simp [KV] at h
/-- A value of these cells. -/
def ofCells (P : Program) (t : TypeId) (l : List Value) : Value := match P.underlying t with | some (.struct _) => .agg l.toArray | _ => l.headD undef
theorem flatB_sound (P : Program) (w : World) : ∀ (d : Nat) (t : TypeId) (ks : List KD), flatB P d t = some ks → ∀ (D : Nat), d ≤ D → ∀ (a b : List Value), KV ks a → KV ks b →
    (Op.equalIn D t (ofCells P t a) (ofCells P t b)).run P w = .ok (cmpL a b) w := by
  intro d
  induction d with
  | zero => intro t ks h; simp [flatB] at h
  | succ d ih =>
    intro t ks h D hD a b ha hb
    obtain ⟨D, rfl⟩ : ∃ n, D = n + 1 := ⟨D - 1, by omega⟩
    unfold flatB at h
    split at h
    · rename_i hu
      cases h
      match a, b, ha, hb with
      | [.bool x], [.bool y], _, _ => simp [ofCells, hu, Op.equalIn, run_underlying hu, cmpL]
    · rename_i k hu
      cases h
      match a, b, ha, hb with
      | [.int k1 x], [.int k2 y], h1, h2 => obtain ⟨rfl, _⟩ := h1; obtain ⟨rfl, _⟩ := h2; simp [ofCells, hu, Op.equalIn, run_underlying hu, cmpL]
    · rename_i hu
      cases h
      match a, b, ha, hb with
      | [.string x], [.string y], _, _ => simp [ofCells, hu, Op.equalIn, run_underlying hu, cmpL]
    · rename_i fs hu
      split at h
      · cases h
      · rename_i hst
        have hst' : P.stoodInHeld t = false := by simpa using hst
        have hfo : P.fieldsOf t = fs := by simp [Program.fieldsOf, hu]
        have key : ∀ (l : List Field) (off : Nat) (ks : List KD), flatF (flatB P d) P l off = some ks → ∀ (pa pb a b : List Value), pa.length = off → pb.length = off → KV ks a → KV ks b →
            (Op.eqFields D (pa ++ a).toArray (pb ++ b).toArray l).run P w = .ok (cmpL a b) w := by
          intro l
          induction l with
          | nil =>
            intro off ks h pa pb a b _ _ ha hb
            cases h
            match a, b, ha, hb with
            | [], [], _, _ => simp [Op.eqFields, cmpL]
          | cons f r ihr =>
            intro off ks h pa pb a b hpa hpb ha hb
            unfold flatF at h
            split at h
            · cases h
            · rename_i hn
              simp only [not_or, ne_eq, Decidable.not_not] at hn
              obtain ⟨hn, ho⟩ := hn
              split at h
              · rename_i ks1 i hg hi
                split at h
                · rename_i hsz
                  split at h
                  · rename_i q hq
                    cases h
                    obtain ⟨a1, a2, rfl, ha1, ha2⟩ := KV.split ha
                    obtain ⟨b1, b2, rfl, hb1, hb2⟩ := KV.split hb
                    have hpart : ∀ (p x y : List Value), p.length = off → KV ks1 x → (part f.type (p ++ (x ++ y)).toArray f.offset).run P w = .ok (ofCells P f.type x) w := by
                      intro p x y hp hx
                      obtain ⟨d', rfl⟩ : ∃ n, d = n + 1 := by
                        cases d with
                        | zero => simp [flatB] at hg
                        | succ n => exact ⟨n, rfl⟩
                      unfold part
                      cases hu' : P.underlying f.type with
                      | none => simp [flatB, hu'] at hg
                      | some dd =>
                        simp only [Sem.run_bind, run_isAgg hu', Result.andThen_ok]
                        have hxl := hx.len
                        have scal : ∀ v, (match (p ++ ([v] ++ y)).toArray[f.offset]? with | some v => (pure v : Sem Value) | none => stuck "part: no such cell").run P w = .ok ([v].headD undef) w := by
                          intro v
                          simp [ho, hp]
                        cases dd <;> simp only [flatB, hu', reduceCtorEq] at hg <;> simp only [aggD, Bool.false_eq_true, if_false, if_true, ofCells, hu']
                        · cases hg
                          match x, hx with
                          | [.bool v], _ => exact scal _
                        · cases hg
                          match x, hx with
                          | [.int _ v], _ => exact scal _
                        · cases hg
                          match x, hx with
                          | [.string v], _ => exact scal _
                        · simp only [Sem.run_bind, run_sizeOf hi, Result.andThen_ok, Sem.run_pure]
                          congr 2
                          apply Array.ext'
                          simp only [ho, hsz, ← hp, ← hxl]
                          simp
                    simp only [Op.eqFields, hn, ne_eq, not_false_eq_true, if_true, Sem.run_bind]
                    rw [hpart pa a1 a2 hpa ha1]
                    simp only [Result.andThen_ok]
                    rw [hpart pb b1 b2 hpb hb1]
                    simp only [Result.andThen_ok]
                    rw [ih f.type ks1 hg D (by omega) a1 b1 ha1 hb1]
                    simp only [Result.andThen_ok]
                    rw [cmpL_app a2 b2 ha1 hb1]
                    cases hc : cmpL a1 b1 with
                    | false => simp
                    | true =>
                      simp only [Bool.not_true, Bool.false_eq_true, if_false, Bool.true_and]
                      have := ihr (off + ks1.length) q hq (pa ++ a1) (pb ++ b1) a2 b2 (by simp [hpa, ha1.len]) (by simp [hpb, hb1.len]) ha2 hb2
                      simpa [List.append_assoc] using this
                  · cases h
                · cases h
              · cases h
        have := key fs.toList 0 ks h [] [] a b rfl rfl ha hb
        simp only [ofCells, hu]
        rw [run_equalIn_agg (w := w) D t _ _ (by rw [hfo]; exact hu) hst', hfo]
        simpa using this
    · cases h
end
section
variable {P : Program} {E : Env} {t : TypeId} {X Y : Operand} {x y v : AV} {xv yv : Value} {w : World}
theorem aeqc_sound : ∀ (ks : List KD) (a b : AV) (r : Th Bool) (l m : List Value), aeqc ks a b = some r → ListC E a l → ListC E b m → KV ks l ∧ KV ks m ∧ cmpL l m = r .o
  | [], .nil, .nil, r, l, m, h, ha, hb => by
    cases h
    rw [listC_nil.1 ha, listC_nil.1 hb]
    exact ⟨trivial, trivial, rfl⟩
  | k :: ks, .cons h t, .cons h' t', r, l, m, hr, ha, hb => by
    obtain ⟨u, l, rfl, hu, hl⟩ := listC_cons.1 ha
    obtain ⟨u', m, rfl, hu', hm⟩ := listC_cons.1 hb
    unfold aeqc at hr
    split at hr
    · cases hr
    · rename_i r0 h0
      obtain ⟨h1, h2, h3⟩ := aeqc_sound ks t t' r0 l m h0 hl hm
      unfold aeq1 at hr
      split at hr
      · rename_i k k1 a k2 b
        split at hr
        · rename_i hk1 hk2
          cases hr
          obtain rfl := kq_eq hk1
          obtain rfl := kq_eq hk2
          simp only [Rp] at hu hu'
          subst hu; subst hu'
          exact ⟨⟨rfl, h1⟩, ⟨rfl, h2⟩, by simp [cmpL, h3, Bool.beq_eq_decide_eq]⟩
        · cases hr
      · rename_i a b
        cases hr
        simp only [Rp] at hu hu'
        subst hu; subst hu'
        refine ⟨h1, h2, ?_⟩
        simp only [cmpL, h3]
        rw [show ((⟨(a .o).toArray⟩ : ByteArray) == ⟨(b .o).toArray⟩) = decide (a .o = b .o) from by rw [beq_toListBytes, toList_mk, toList_mk, Bool.beq_eq_decide_eq]]
      · split at hr
        · rename_i a b ha' hb'
          cases hr
          rw [rp_bl hu ha', rp_bl hu' hb']
          exact ⟨h1, h2, by simp [cmpL, h3]⟩
        · cases hr
      · cases hr
  | [], .cons _ _, _, _, _, _, h, _, _ => by simp [aeqc] at h
  | [], .nil, .cons _ _, _, _, _, h, _, _ => by simp [aeqc] at h
  | _ :: _, .nil, _, _, _, _, h, _, _ => by simp [aeqc] at h
  | _ :: _, .cons _ _, .nil, _, _, _, h, _, _ => by simp [aeqc] at h
  | ks, .any, b, _, _, _, _, h, _ | ks, .int _ _, b, _, _, _, _, h, _ | ks, .bool _, b, _, _, _, _, h, _ | ks, .tt, b, _, _, _, _, h, _ | ks, .ff, b, _, _, _, _, h, _ | ks, .str _, b, _, _, _, _, h, _ | ks, .sl _ _ _, b, _, _, _, _, h, _ | ks, .nsl, b, _, _, _, _, h, _
  | ks, .row _, b, _, _, _, _, h, _ | ks, .ptr _ _, b, _, _, _, _, h, _ | ks, .iptr _, b, _, _, _, _, h, _ | ks, .rptr _ _ _ _, b, _, _, _, _, h, _ | ks, .win _ _ _ _, b, _, _, _, _, h, _ | ks, .nptr, b, _, _, _, _, h, _ | ks, .fn _ _ _, b, _, _, _, _, h, _ | ks, .nfn, b, _, _, _, _, h, _ | ks, .nif, b, _, _, _, _, h, _
  | ks, .ifc _ _, b, _, _, _, _, h, _ | ks, .agg _, b, _, _, _, _, h, _ | ks, .tup _, b, _, _, _, _, h, _ => by simp only [ListC] at h
  | ks, a, .any, _, _, _, _, _, h | ks, a, .int _ _, _, _, _, _, _, h | ks, a, .bool _, _, _, _, _, _, h | ks, a, .tt, _, _, _, _, _, h | ks, a, .ff, _, _, _, _, _, h | ks, a, .str _, _, _, _, _, _, h | ks, a, .sl _ _ _, _, _, _, _, _, h | ks, a, .nsl, _, _, _, _, _, h
  | ks, a, .row _, _, _, _, _, _, h | ks, a, .ptr _ _, _, _, _, _, _, h | ks, a, .iptr _, _, _, _, _, _, h | ks, a, .rptr _ _ _ _, _, _, _, _, _, h | ks, a, .win _ _ _ _, _, _, _, _, _, h | ks, a, .nptr, _, _, _, _, _, h | ks, a, .fn _ _ _, _, _, _, _, _, h | ks, a, .nfn, _, _, _, _, _, h | ks, a, .nif, _, _, _, _, _, h
  | ks, a, .ifc _ _, _, _, _, _, _, h | ks, a, .agg _, _, _, _, _, _, h | ks, a, .tup _, _, _, _, _, _, h => by simp only [ListC] at h
theorem aeq_rp {e : Bool} {b : Bool} {r : Option (Th Bool)} (hg : (aeq e r).gives v) (hb : ∀ q, r = some q → q .o = b) : Rp E v (.bool (if e = true then b else !b)) := by
  obtain ⟨q, hq, rfl⟩ := aeq_gives hg
  have := hb q hq
  simp only [Rp, this]
theorem abinN_rp {e : Bool} {r : Option Bool} (hg : (abinN e r).gives v) : ∃ b, r = some b ∧ Rp E v (.bool (if e = true then b else !b)) := by
  unfold abinN at hg
  split at hg
  · rename_i r
    rw [gives_ok] at hg
    subst hg
    exact ⟨r, rfl, by cases r <;> cases e <;> simp [Rp]⟩
  · exact (gives_bad.1 hg).elim
theorem abinE_sound {op : BinOp} {e : Bool} (he : isEql op = some e) (hx : Rp E x xv) (hy : Rp E y yv) (hg : (abinE e (rFit P t (isC X || isC Y)) x y).gives v) :
    ∃ z, ((do eqGuard op t X Y xv yv; binOp op t xv yv) : Sem Value).run P w = .ok z w ∧ Rp E v z := by
  unfold rFit at hg
  split at hg
  · rename_i hu
    simp only [abinE, abinB] at hg
    split at hg
    · rename_i a b ha hb
      rw [rp_bl hx ha, rp_bl hy hb]
      refine ⟨_, run_eqs he (by unfold eqGuard; cases op <;> simp) (by simp) (by simp) (by simp) (by simp) (run_boolEq hu _ _), aeq_rp hg fun q hq => by cases hq; rfl⟩
    · exact (gives_bad.1 hg).elim
  · rename_i el hu
    obtain ⟨r, hr, hv⟩ := abinN_rp (E := E) hg
    have hq : ∀ {p q : Option Addr}, xv = .pointer p → yv = .pointer q → (p = none ∨ q = none) → r = (p.isNone && q.isNone) →
        ∃ z, ((do eqGuard op t X Y xv yv; binOp op t xv yv) : Sem Value).run P w = .ok z w ∧ Rp E v z := by
      intro p q h1 h2 h3 hb
      subst h1; subst h2
      refine ⟨_, run_eqs he (b := r) (by unfold eqGuard; cases op <;> simp) (by simp) (by simp) (by simp) (by simp) ?_, hv⟩
      subst hb
      rw [equal_eq]
      generalize 9999 = d
      rcases h3 with rfl | rfl
      · simp [Op.equalIn, run_underlying hu]
      · cases p <;> simp [Op.equalIn, run_underlying hu]
    unfold anilP at hr
    split at hr <;> cases hr <;> simp only [Rp] at hx hy <;> exact hq hx hy (by simp) rfl
  · rename_i ms hu
    obtain ⟨r, hr, hv⟩ := abinN_rp (E := E) hg
    unfold anilI at hr
    split at hr
    · split at hr
      · rename_i hn
        cases hr
        simp only [Rp] at hx hy
        subst hx
        subst hy
        refine ⟨_, run_eqs he ?_ (by simp) (by simp) (by simp) (by simp) (b := true) ?_, hv⟩
        · unfold eqGuard
          cases X with
          | const c => cases op <;> simp [isEql] at he ⊢
          | _ => cases Y with
            | const c => cases op <;> simp [isEql] at he ⊢
            | _ =>
              have hms : ms.isEmpty = true := by simpa [isC] using hn
              have hg0 : (Op.eqGuardIn Op.maxDepth t .nilIface .nilIface).run P w = .ok false w := by
                show (Op.eqGuardIn (9999 + 1) t .nilIface .nilIface).run P w = _
                generalize 9999 = d
                simp [Op.eqGuardIn, run_underlying hu, hms]
              cases op <;> simp [isEql, hg0] at he ⊢
        · rw [equal_eq]
          generalize 9999 = d
          simp [Op.equalIn, run_underlying hu]
      · cases hr
    all_goals (cases hr <;> simp only [Rp] at hx hy)
    · obtain ⟨z, rfl, _⟩ := hy
      subst hx
      refine ⟨_, run_eqs he (by unfold eqGuard; cases op <;> simp) (by simp) (by simp) (by simp) (by simp) (b := false) ?_, hv⟩
      rw [equal_eq]
      generalize 9999 = d
      simp [Op.equalIn, run_underlying hu]
    · obtain ⟨z, rfl, _⟩ := hx
      subst hy
      refine ⟨_, run_eqs he (by unfold eqGuard; cases op <;> simp) (by simp) (by simp) (by simp) (by simp) (b := false) ?_, hv⟩
      rw [equal_eq]
      generalize 9999 = d
      simp [Op.equalIn, run_underlying hu]
  · rename_i fs hu
    split at hg
    · rename_i hgt
      split at hg
      · rename_i ks hks
        simp only [abinE, abinA] at hg
        split at hg
        · obtain ⟨l, rfl, hl⟩ := rp_agg.1 hx
          obtain ⟨m, rfl, hm⟩ := rp_agg.1 hy
          obtain ⟨r, hr, _⟩ := aeq_gives hg
          obtain ⟨h1, h2, h3⟩ := aeqc_sound ks _ _ r l m hr hl hm
          have h4 := flatB_sound P w 20 t ks hks (9999 + 1) (by omega) l m h1 h2
          simp only [ofCells, hu] at h4
          refine ⟨_, run_eqs he (run_eqGuard_agg w op t X Y _ _ hgt) (by simp) (by simp) (by simp) (by simp) (by rw [equal_eq]; exact h4), aeq_rp hg fun q hq => ?_⟩
          rw [hr] at hq; cases hq; exact h3.symm
        · exact (gives_bad.1 hg).elim
      · exact (gives_bad.1 hg).elim
    · exact (gives_bad.1 hg).elim
  · exact (gives_bad.1 hg).elim
theorem abin_sound {op : BinOp} (hx : Rp E x xv) (hy : Rp E y yv) (hg : (abin op (rFit P t (isC X || isC Y)) x y).gives v) :
    ∃ z, ((do eqGuard op t X Y xv yv; binOp op t xv yv) : Sem Value).run P w = .ok z w ∧ Rp E v z := by
  unfold abin at hg
  split at hg
  · simp only [Rp] at hx hy
    subst hx; subst hy
    exact abinI_sound hg
  · simp only [Rp] at hx hy
    subst hx; subst hy
    exact abinS_sound hg
  · split at hg
    · exact (gives_bad.1 hg).elim
    · rename_i e he
      exact abinE_sound he hx hy hg
end
end Go.Proofs.YtkklflpfklbbcaaDoor.Sx
/- A symbolic executor for the model's code: each operation that only yields a value does as the model does. -/
namespace Go.Proofs.YtkklflpfklbbcaaDoor.Sx
open Go
set_option linter.unusedSimpArgs false
set_option linter.unusedVariables false
section
variable {P : Program} {E : Env} {s : St} {a : Act} {w : World} {v : AV}
theorem opt_map {α β : Type} {f : α → β} {x : Option α} {y : β} (h : x.map f = some y) : ∃ z, x = some z ∧ y = f z := by
  cases x <;> simp at h
  exact ⟨_, rfl, h.symm⟩
theorem value_of {e : Sem Value} {z : Value} (h : e.run P w = .ok z w) : ((do pure (Next.value (← e))) : Sem Next).run P w = .ok (.value z) w := by
  rw [run_valueOf, h]; rfl
theorem okO_gives {x : Option AV} : (okO x).gives v ↔ x = some v := by
  cases x <;> simp [okO, gives_ok, gives_bad]
theorem apick_sound {c x y : AV} {cv xv yv : Value} (hc : Rp E c cv) (hx : Rp E x xv) (hy : Rp E y yv) (hg : (apick c x y).gives v) :
    ∃ b : Bool, cv = .bool b ∧ Rp E v (if b = true then xv else yv) := by
  unfold apick at hg
  split at hg
  · rw [gives_ok] at hg; subst hg; exact ⟨true, hc, by simpa using hx⟩
  · rw [gives_ok] at hg; subst hg; exact ⟨false, hc, by simpa using hy⟩
  · rename_i b
    refine ⟨b .o, hc, ?_⟩
    unfold merge at hg
    split at hg
    · rename_i k p k' q
      split at hg
      · rename_i hk
        obtain rfl := kq_eq hk
        rw [gives_ok] at hg; subst hg
        simp only [Rp] at hx hy ⊢
        subst hx; subst hy
        split <;> rfl
      · exact (gives_bad.1 hg).elim
    · rename_i p q
      rw [gives_ok] at hg; subst hg
      simp only [Rp] at hx hy ⊢
      subst hx; subst hy
      split <;> rfl
    · split at hg
      · rename_i p q hp hq
        rw [gives_ok] at hg; subst hg
        rw [rp_bl hx hp, rp_bl hy hq]
        simp only [Rp]
        split <;> rfl
      · exact (gives_bad.1 hg).elim
  · exact (gives_bad.1 hg).elim
theorem aun_sound {op : UnOp} {x : AV} {xv : Value} (hx : Rp E x xv) (hg : (aun op x).gives v) : ∃ z, (Op.unary op xv).run P w = .ok z w ∧ Rp E v z := by
  unfold aun at hg
  split at hg
  · rw [gives_ok] at hg; subst hg; simp only [Rp] at hx; subst hx; exact ⟨.bool false, by simp [Op.unary], rfl⟩
  · rw [gives_ok] at hg; subst hg; simp only [Rp] at hx; subst hx; exact ⟨.bool true, by simp [Op.unary], rfl⟩
  · rw [gives_ok] at hg; subst hg; simp only [Rp] at hx; subst hx; exact ⟨_, by simp only [Op.unary]; rfl, rfl⟩
  · rw [gives_ok] at hg; subst hg; simp only [Rp] at hx; subst hx; exact ⟨_, by simp only [Op.unary, Op.intArith]; rfl, rfl⟩
  · exact (gives_bad.1 hg).elim
theorem afld_sound {off : Nat} {x : AV} {xv : Value} (hx : Rp E x xv) (hg : (afld off x).gives v) : ∃ b o, xv = .pointer (some ⟨b, o, none⟩) ∧ Rp E v (.pointer (some ⟨b, o + off, none⟩)) := by
  unfold afld at hg
  split at hg
  · rw [gives_ok] at hg; subst hg; exact ⟨_, _, hx, by simp [Rp]⟩
  · rename_i c
    rw [gives_ok] at hg; subst hg
    obtain ⟨b, o, rfl, h⟩ := hx
    exact ⟨b, o, rfl, b, o + off, rfl, memC_drop off c b o h⟩
  · rw [gives_ok] at hg; subst hg; exact ⟨_, _, hx, by simp [Rp, Nat.add_assoc]⟩
  · exact (gives_bad.1 hg).elim
theorem aidx_sound (hS : SI E s a) {sz : Nat} {x i : AV} {xv iv : Value} (hx : Rp E x xv) (hi : Rp E i iv) (hg : (aidx sz s x i).gives v) :
    ∃ b o n cap k j, xv = .slice (some ⟨b, o, none⟩) n cap ∧ iv = .int k j ∧ 0 ≤ j ∧ j < (n : Int) ∧ Rp E v (.pointer (some ⟨b, o + j.toNat * sz, none⟩)) := by
  unfold aidx at hg
  split at hg
  · rename_i sz' n g k j
    split at hg
    · rename_i hsz
      have : sz = sz' := by simpa using hsz
      subst this
      obtain ⟨rfl, h0, h1⟩ := gives_cond.1 hg
      simp only [zi] at h1
      obtain ⟨av, cap, rfl, _, h3⟩ := hx
      obtain ⟨_, b, o, rfl, h5⟩ := h3 (j .o).toNat (by omega)
      exact ⟨b, o, n .o, cap, k, j .o, rfl, hi, h0, h1, b, _, rfl, h5⟩
    · exact (gives_bad.1 hg).elim
  · rename_i d k j
    split at hg
    · rename_i sz' n g hb
      split at hg
      · rename_i hsz
        have : sz = sz' := by simpa using hsz
        subst this
        obtain ⟨rfl, h0, h1⟩ := gives_cond.1 hg
        simp only [zi] at h1
        have hB := hS.blk d
        rw [hb] at hB
        rcases hB with ⟨_, h2⟩ | ⟨cap, cur, e, h2, _⟩
        · rw [h2] at h1; omega
        refine ⟨E.ρ d, 0, n .o, cap, k, j .o, hx.1.trans h2, hi, h0, h1, ?_⟩
        simp [Rp]
      · exact (gives_bad.1 hg).elim
    · exact (gives_bad.1 hg).elim
  · rename_i d sz1 lo n k j
    split at hg
    · rename_i sz' n' g hb
      split at hg
      · rename_i hsz hsz1
        have e1 : sz = sz' := by simpa using hsz
        have e2 : sz = sz1 := by simpa using hsz1
        subst e1; subst e2
        obtain ⟨rfl, h0, h1⟩ := gives_cond.1 hg
        simp only [zi] at h1
        have hB := hS.blk d
        rw [hb] at hB
        rcases hx with ⟨_, _, h2, _⟩ | ⟨A, m, c, p, h2, h3, rfl, h4⟩
        · rw [h2] at h1; omega
        rcases hB with ⟨h5, _⟩ | ⟨cap, cur, e, h5, _⟩
        · rw [h2] at h5; cases h5
        · rw [h2] at h5; cases h5
          have h4 := h4 (.inl (by omega))
          subst h4
          refine ⟨E.ρ d, lo .o * sz, n .o, c - lo .o, k, j .o, by rw [addr_add, Nat.zero_add], hi, h0, h1, ?_⟩
          simp only [Rp, Nat.add_zero]
          rw [Nat.add_mul]
      · exact (gives_bad.1 hg).elim
    · exact (gives_bad.1 hg).elim
  · exact (gives_bad.1 hg).elim
theorem aidxA_sound (hS : SI E s a) {sz len : Nat} {x i : AV} {xv iv : Value} (hx : Rp E x xv) (hi : Rp E i iv) (hg : (aidxA sz len s x i).gives v) :
    ∃ b o k j, xv = .pointer (some ⟨b, o, none⟩) ∧ iv = .int k j ∧ 0 ≤ j ∧ j < (len : Int) ∧ Rp E v (.pointer (some ⟨b, o + j.toNat * sz, none⟩)) := by
  unfold aidxA at hg
  split at hg
  · rename_i d k j
    split at hg
    · rename_i sz' n g hb
      split at hg
      · rename_i hsz
        have : sz = sz' := by simpa using hsz
        subst this
        obtain ⟨rfl, h0, h1, h2⟩ := gives_cond.1 hg
        exact ⟨E.ρ d, 0, k, j .o, hx, hi, h0, h2, by simp [Rp]⟩
      · exact (gives_bad.1 hg).elim
    · exact (gives_bad.1 hg).elim
  · rename_i d sz' i' off k j
    split at hg
    · obtain ⟨rfl, h0, h2⟩ := gives_cond.1 hg
      exact ⟨E.ρ d, i' .o * sz' + off, k, j .o, hx, hi, h0, h2, by simp [Rp, Nat.add_assoc]⟩
    · exact (gives_bad.1 hg).elim
  · exact (gives_bad.1 hg).elim
theorem abound_sound {dflt a' : Th Int} {x : Option AV} {xv : Option Value} (hx : match x, xv with | none, none => True | some x, some y => Rp E x y | _, _ => False) (hg : abound dflt x = some a') :
    (x = none ∧ xv = none ∧ a' = dflt) ∨ ∃ k, xv = some (.int k (a' .o)) := by
  unfold abound at hg
  split at hg
  · cases hg
    cases xv with
    | none => exact .inl ⟨rfl, rfl, rfl⟩
    | some y => exact hx.elim
  · cases hg
    cases xv with
    | none => exact hx.elim
    | some y => exact .inr ⟨_, congrArg some hx⟩
  · cases hg
theorem run_bounds {isSlice : Bool} {len cap : Nat} {lo hi : Option Value} {l h : Int} (hl : lo = none ∧ l = 0 ∨ ∃ k, lo = some (.int k l)) (hh : hi = none ∧ h = (len : Int) ∨ ∃ k, hi = some (.int k h))
    (h0 : 0 ≤ l) (h1 : l ≤ h) (h2 : h ≤ (len : Int)) (h3 : len ≤ cap) : (Instr.sliceBounds isSlice len cap lo hi none).run P w = .ok (l.toNat, h.toNat, cap) w := by
  have hb : ∀ (k : IntKind) (x : Int) (y : Nat) (c : BoundsCode), 0 ≤ x → x ≤ (y : Int) → (Instr.sliceBound (.int k x) y c).run P w = .ok x.toNat w := by
    intro k x y c hx hy
    simp [Instr.sliceBound, asIntOf, hx, hy]
  unfold Instr.sliceBounds
  rcases hh with ⟨rfl, rfl⟩ | ⟨k, rfl⟩
  · rcases hl with ⟨rfl, rfl⟩ | ⟨k', rfl⟩
    · simp
    · simp [hb k' l len _ h0 (by omega)]
  · have h4 : h ≤ (cap : Int) := by omega
    rcases hl with ⟨rfl, rfl⟩ | ⟨k', rfl⟩
    · simp [hb k h cap _ (by omega) h4]
    · simp [hb k h cap _ (by omega) h4, hb k' l h.toNat _ h0 (by omega)]
theorem evo_sound (hS : SI E s a) {x : Option Operand} {y : Option Opd} (h : rOpdo x = some y) : match evo s y, x.map a.eval with | none, none => True | some x, some y => Rp E x y | _, _ => False := by
  cases x with
  | none => cases h; trivial
  | some x =>
    obtain ⟨z, hz, rfl⟩ := opt_map h
    exact opd_sound hS hz
theorem amm_sound {mx : Bool} {x y z : AV} {xv yv : Value} (hx : Rp E x xv) (hy : Rp E y yv) (h : amm mx x y = some z) :
    ∃ zv, ((if mx = true then Builtin.max2 xv yv else Builtin.min2 xv yv) : Sem Value).run P w = .ok zv w ∧ Rp E z zv := by
  unfold amm at h
  split at h
  · cases h
    simp only [Rp] at hx hy
    subst hx; subst hy
    cases mx with
    | true => exact ⟨_, by simp only [if_true, Builtin.max2]; rfl, rfl⟩
    | false => exact ⟨_, by simp only [Bool.false_eq_true, if_false, Builtin.min2]; rfl, rfl⟩
  · cases h
theorem amms_sound {mx : Bool} : ∀ (l : List AV) (m : List Value) (x z : AV) (xv : Value), Rp E x xv → ListC E (chain l) m → amms mx x l = some z →
    ∃ zv, (m.foldlM (fun p q => if mx = true then Builtin.max2 p q else Builtin.min2 p q) xv : Sem Value).run P w = .ok zv w ∧ Rp E z zv
  | [], m, x, z, xv, hx, hl, h => by
    cases h
    rw [listC_nil.1 hl]
    exact ⟨xv, rfl, hx⟩
  | y :: l, m, x, z, xv, hx, hl, h => by
    obtain ⟨yv, m, rfl, hy, hl⟩ := listC_cons.1 hl
    unfold amms at h
    split at h
    · rename_i u hu
      obtain ⟨uv, h1, h2⟩ := amm_sound (P := P) (w := w) hx hy hu
      obtain ⟨zv, h3, h4⟩ := amms_sound l m u z uv h2 hl h
      refine ⟨zv, ?_, h4⟩
      rw [List.foldlM_cons, Sem.run_bind, h1]
      exact h3
    · cases h
theorem ext_toList (l : List UInt8) (i j : Nat) : (⟨l.toArray⟩ : ByteArray).extract i j = ⟨((l.take j).drop i).toArray⟩ := by
  apply ByteArray.ext
  rw [ByteArray.data_extract]
  simp [List.drop_take]
theorem getElem?_mk (l : List UInt8) (i : Nat) : (⟨l.toArray⟩ : ByteArray)[i]? = l[i]? := by
  rcases Nat.lt_or_ge i l.length with h | h
  · rw [getElem?_pos _ i (by simpa [ByteArray.size] using h), List.getElem?_eq_getElem h]; rfl
  · rw [getElem?_neg _ i (by simpa [ByteArray.size] using h), List.getElem?_eq_none h]
/-- A number's own text: the model's sliceBounds at what is asked for. -/
theorem asliceS_sound {x : AV} {lo hi : Option AV} {xv : Value} {lov hiv : Option Value} {t : TypeId} (hu : P.underlying t = some .string) (hx : Rp E x xv)
    (hl : match lo, lov with | none, none => True | some x, some y => Rp E x y | _, _ => False) (hh : match hi, hiv with | none, none => True | some x, some y => Rp E x y | _, _ => False)
    (hg : (asliceS x lo hi).gives v) : ∃ z, (Instr.sliceAt t xv lov hiv none).run P w = .ok z w ∧ Rp E v z := by
  unfold asliceS at hg
  split at hg
  · rename_i st
    simp only [Rp] at hx
    subst hx
    split at hg
    · rename_i p q hp hq
      obtain ⟨rfl, h0, h1, h2⟩ := gives_cond.1 hg
      simp only [zi] at h2 hp hq
      have h3 := abound_sound hl hp
      have h4 := abound_sound hh hq
      have hsz : (⟨(st .o).toArray⟩ : ByteArray).size = (st .o).length := by simp [ByteArray.size]
      have hb := run_bounds (P := P) (w := w) (isSlice := false) (len := (st .o).length) (cap := (st .o).length) (lo := lov) (hi := hiv) (l := p .o) (h := q .o)
        (by rcases h3 with ⟨_, h, rfl⟩ | ⟨k, h⟩; exact .inl ⟨h, rfl⟩; exact .inr ⟨k, h⟩) (by rcases h4 with ⟨_, h, rfl⟩ | ⟨k, h⟩; exact .inl ⟨h, rfl⟩; exact .inr ⟨k, h⟩) h0 h1 h2 (Nat.le_refl _)
      refine ⟨.string ⟨(((st .o).take (q .o).toNat).drop (p .o).toNat).toArray⟩, ?_, rfl⟩
      unfold Instr.sliceAt
      simp only [Sem.run_bind, run_underlying hu, Result.andThen_ok, Instr.slice, Option.isSome_none, Bool.false_eq_true, if_false, Sem.run_pure, hsz, hb, ext_toList]
    · exact (gives_bad.1 hg).elim
  · exact (gives_bad.1 hg).elim
theorem aslice_sound (hS : SI E s a) {x : AV} {lo hi : Option AV} {xv : Value} {lov hiv : Option Value} {t e : TypeId} {inf : TypeInfo} (hu : P.underlying t = some (.slice e)) (hi' : P.info? e = some inf) (hx : Rp E x xv)
    (hl : match lo, lov with | none, none => True | some x, some y => Rp E x y | _, _ => False) (hh : match hi, hiv with | none, none => True | some x, some y => Rp E x y | _, _ => False)
    (hg : (aslice inf.size s x lo hi).gives v) : ∃ z, (Instr.sliceAt t xv lov hiv none).run P w = .ok z w ∧ Rp E v z := by
  unfold aslice at hg
  split at hg
  · rename_i sz' n g
    split at hg
    · rename_i p q hsz hp hq
      have : inf.size = sz' := by simpa using hsz
      subst this
      obtain ⟨rfl, h0, h1, h2⟩ := gives_cond.1 hg
      simp only [zi] at h2 hp hq
      obtain ⟨av, cap, rfl, hc, hm⟩ := hx
      have h3 := abound_sound hl hp
      have h4 := abound_sound hh hq
      have hb := run_bounds (P := P) (w := w) (isSlice := true) (len := n .o) (cap := cap) (lo := lov) (hi := hiv) (l := p .o) (h := q .o)
        (by rcases h3 with ⟨_, h, rfl⟩ | ⟨k, h⟩; exact .inl ⟨h, rfl⟩; exact .inr ⟨k, h⟩) (by rcases h4 with ⟨_, h, rfl⟩ | ⟨k, h⟩; exact .inl ⟨h, rfl⟩; exact .inr ⟨k, h⟩) h0 h1 h2 hc
      refine ⟨.slice (if cap = (p .o).toNat then av else av.map (·.add ((p .o).toNat * inf.size))) ((q .o).toNat - (p .o).toNat) (cap - (p .o).toNat), ?_, ?_⟩
      · unfold Instr.sliceAt
        simp only [Sem.run_bind, run_underlying hu, Result.andThen_ok, Instr.slice, Sem.run_pure, hb, run_sizeOf hi']
      · refine ⟨if cap = (p .o).toNat then av else av.map (·.add ((p .o).toNat * inf.size)), cap - (p .o).toNat, ?_, ?_, fun i hi => ?_⟩
        · rw [show (q .o).toNat - (p .o).toNat = (q .o - p .o).toNat by omega]
        · show (q .o - p .o).toNat ≤ _; omega
        · replace hi : i < (q .o - p .o).toNat := hi
          obtain ⟨hs, b, o, rfl, h5⟩ := hm ((p .o).toNat + i) (by omega)
          refine ⟨hs, b, o + (p .o).toNat * inf.size, ?_, ?_⟩
          · rw [if_neg (by omega)]; simp [addr_add]
          · have : o + (p .o).toNat * inf.size + i * inf.size = o + ((p .o).toNat + i) * inf.size := by rw [Nat.add_mul]; omega
            rw [this]; exact h5
    · exact (gives_bad.1 hg).elim
  · rename_i d
    split at hg
    rotate_left
    · exact (gives_bad.1 hg).elim
    rename_i sz' n g hb
    split at hg
    · rename_i p q hsz hp hq
      have : inf.size = sz' := by simpa using hsz
      subst this
      obtain ⟨rfl, h0, h1, h2⟩ := gives_cond.1 hg
      simp only [zi] at h2 hp hq
      have h3 := abound_sound hl hp
      have h4 := abound_sound hh hq
      have hB := hS.blk d
      rw [hb] at hB
      rcases hB with ⟨h5, h6⟩ | ⟨cap, cur, e, h5, _, h6, _⟩
      · have hxv : xv = .slice none 0 0 := hx.1.trans h5
        subst hxv
        have hb := run_bounds (P := P) (w := w) (isSlice := true) (len := 0) (cap := 0) (lo := lov) (hi := hiv) (l := p .o) (h := q .o)
          (by rcases h3 with ⟨_, h, rfl⟩ | ⟨k, h⟩; exact .inl ⟨h, rfl⟩; exact .inr ⟨k, h⟩) (by rcases h4 with ⟨_, h, rfl⟩ | ⟨k, h⟩; exact .inl ⟨h, by simp [h6]⟩; exact .inr ⟨k, h⟩) h0 h1 (by rw [h6] at h2; exact h2) (Nat.le_refl _)
        have hp0 : p .o = 0 := by rw [h6] at h2; omega
        have hq0 : q .o = 0 := by rw [h6] at h2; omega
        refine ⟨.slice none 0 0, ?_, .inl ⟨h5, by show (p .o).toNat = 0; omega, by show (q .o - p .o).toNat = 0; omega, rfl⟩⟩
        unfold Instr.sliceAt
        simp only [Sem.run_bind, run_underlying hu, Result.andThen_ok, Instr.slice, Sem.run_pure, hb, run_sizeOf hi', hp0, hq0]
        simp
      · have hxv := hx.1.trans h5
        subst hxv
        have hb := run_bounds (P := P) (w := w) (isSlice := true) (len := n .o) (cap := cap) (lo := lov) (hi := hiv) (l := p .o) (h := q .o)
          (by rcases h3 with ⟨_, h, rfl⟩ | ⟨k, h⟩; exact .inl ⟨h, rfl⟩; exact .inr ⟨k, h⟩) (by rcases h4 with ⟨_, h, rfl⟩ | ⟨k, h⟩; exact .inl ⟨h, rfl⟩; exact .inr ⟨k, h⟩) h0 h1 h2 h6
        refine ⟨.slice (if cap = (p .o).toNat then some ⟨E.ρ d, 0, none⟩ else (some (⟨E.ρ d, 0, none⟩ : Addr)).map (·.add ((p .o).toNat * inf.size))) ((q .o).toNat - (p .o).toNat) (cap - (p .o).toNat), ?_, ?_⟩
        · unfold Instr.sliceAt
          simp only [Sem.run_bind, run_underlying hu, Result.andThen_ok, Instr.slice, Sem.run_pure, hb, run_sizeOf hi']
        · refine .inr ⟨⟨E.ρ d, 0, none⟩, n .o, cap, if cap = (p .o).toNat then ⟨E.ρ d, 0, none⟩ else (⟨E.ρ d, 0, none⟩ : Addr).add ((p .o).toNat * inf.size), h5, by show (p .o).toNat + (q .o - p .o).toNat ≤ cap; omega, ?_, fun hor => ?_⟩
          · show _ = Value.slice _ (q .o - p .o).toNat (cap - (p .o).toNat)
            rw [show (q .o).toNat - (p .o).toNat = (q .o - p .o).toNat by omega]
            split <;> rfl
          · have hor : (q .o - p .o).toNat ≠ 0 ∨ (p .o).toNat = 0 := hor
            show _ = (⟨E.ρ d, 0, none⟩ : Addr).add ((p .o).toNat * inf.size)
            split
            · rename_i hc
              have : (p .o).toNat = 0 := by omega
              rw [this]; simp [addr_add]
            · rfl
    · exact (gives_bad.1 hg).elim
  · exact (gives_bad.1 hg).elim
theorem len_sound (hS : SI E s a) {x : AV} {xv : Value} {t : TypeId} {e : TypeId} (hu : P.underlying t = some (.slice e)) (hx : Rp E x xv) (hg : (alen s x).gives v) {ts : List TypeId} {ty : TypeId} :
    ∃ z, (Builtin.len_ (t :: ts).toArray ty #[xv]).run P w = .ok z w ∧ Rp E v z := by
  have hrun : ∀ (A : Option Addr) (n c : Nat), xv = .slice A n c → (Builtin.len_ (t :: ts).toArray ty #[xv]).run P w = .ok (.int .i64 n) w := by
    intro A n c h
    subst h
    simp [Builtin.len_, run_underlying hu, goInt]
  unfold alen at hg
  split at hg
  · rw [gives_ok] at hg; subst hg
    obtain ⟨_, _, rfl, _⟩ := hx
    exact ⟨_, hrun _ _ _ rfl, rfl⟩
  · rw [gives_ok] at hg; subst hg
    exact ⟨_, hrun _ _ _ hx, rfl⟩
  · rename_i d
    split at hg
    · rename_i sz n g hb
      rw [gives_ok] at hg; subst hg
      have hB := hS.blk d
      rw [hb] at hB
      rcases hB with ⟨h2, h3⟩ | ⟨cap, cur, e', h2, _⟩
      · refine ⟨_, hrun _ _ _ (hx.1.trans h2), ?_⟩
        simp only [Rp, zi, h3]
      exact ⟨_, hrun _ _ _ (hx.1.trans h2), rfl⟩
    · exact (gives_bad.1 hg).elim
  · rename_i d sz1 lo n
    split at hg
    · rw [gives_ok] at hg
      subst hg
      rcases hx with ⟨_, _, h0, rfl⟩ | ⟨A, m, c, p, _, _, rfl, _⟩
      · exact ⟨_, hrun none 0 0 rfl, by show _ = Value.int .i64 (zi (n .o)); rw [h0]; rfl⟩
      · exact ⟨_, hrun (some p) (n .o) _ rfl, rfl⟩
    · exact (gives_bad.1 hg).elim
  · exact (gives_bad.1 hg).elim
theorem asserts_sound {t : Nat} {z x : AV} {xv zv : Value} {tx : TypeId} {d : TypeDesc} {inf : TypeInfo} (hu : P.underlying t = some d) (hd : ∀ ms, d ≠ .interface ms) (hi : P.info? t = some inf) (hz : inf.zero = some zv)
    (hzr : Rp E z zv) (hx : Rp E x xv) (hg : (aassert t z x).gives v) : ∃ y, (Instr.typeAssert xv tx t true).run P w = .ok y w ∧ Rp E v y := by
  have hzero : (zeroValue t).run P w = .ok zv w := by simp [zeroValue, typeInfo, hi, hz]
  have two : ∀ (p : AV) (pv : Value) (b : AV) (bv : Value), Rp E p pv → Rp E b bv → Rp E (.tup (.cons p (.cons b .nil))) (.tuple #[pv, bv]) := fun p pv b bv h1 h2 =>
    rp_tup.2 ⟨[pv, bv], rfl, listC_cons.2 ⟨_, _, rfl, h1, listC_cons.2 ⟨_, _, rfl, h2, listC_nil.2 rfl⟩⟩⟩
  unfold aassert at hg
  split at hg
  · rename_i t' y
    obtain ⟨yv, rfl, hy⟩ := hx
    split at hg
    · rename_i ht
      have : t' = t := by simpa using ht
      subst this
      rw [gives_ok] at hg; subst hg
      refine ⟨.tuple #[yv, .bool true], ?_, two _ _ _ _ hy rfl⟩
      unfold Instr.typeAssert
      simp only [Sem.run_bind, run_underlying hu, Result.andThen_ok]
      cases d <;> first | exact absurd rfl (hd _) | simp
    · rename_i ht
      have : t' ≠ t := by simpa using ht
      rw [gives_ok] at hg; subst hg
      refine ⟨.tuple #[zv, .bool false], ?_, two _ _ _ _ hzr rfl⟩
      unfold Instr.typeAssert
      simp only [Sem.run_bind, run_underlying hu, Result.andThen_ok]
      cases d <;> first | exact absurd rfl (hd _) | simp [this, hzero]
  · rw [gives_ok] at hg; subst hg
    simp only [Rp] at hx
    subst hx
    refine ⟨.tuple #[zv, .bool false], ?_, two _ _ _ _ hzr rfl⟩
    unfold Instr.typeAssert
    simp only [Sem.run_bind, run_underlying hu, Result.andThen_ok]
    cases d <;> first | exact absurd rfl (hd _) | simp [hzero]
  · exact (gives_bad.1 hg).elim
theorem fieldAt_run {t : TypeId} {f : Nat} {fs : Array Field} {fl : Field} {inf : TypeInfo} (hu : P.underlying t = some (.struct fs)) (hf : fs[f]? = some fl) (hi : P.info? fl.type = some inf) (h0 : inf.size ≠ 0) {b o : Nat} :
    (Instr.fieldAt t (.pointer (some ⟨b, o, none⟩)) f).run P w = .ok (.pointer (some ⟨b, o + fl.offset, none⟩)) w := by
  unfold Instr.fieldAt fieldPlace Instr.sureAddr
  simp [Sem.run_bind, run_underlying hu, hf, run_sizeOf hi, h0, addr_add]
theorem field_run {t : TypeId} {f : Nat} {fs : Array Field} {fl : Field} {d : TypeDesc} {inf : TypeInfo} (hu : P.underlying t = some (.struct fs)) (hf : fs[f]? = some fl) (hd : P.underlying fl.type = some d) (hi : P.info? fl.type = some inf)
    {x : AV} {xv : Value} (hx : Rp E x xv) (hg : (if aggD d = true then afield (takeA inf.size) fl.offset x else afield first fl.offset x).gives v) :
    ∃ z, (Instr.field t xv f).run P w = .ok z w ∧ Rp E v z := by
  have hrun : ∀ l : List Value, (Instr.field t (.agg l.toArray) f).run P w = (part fl.type l.toArray fl.offset).run P w := by
    intro l
    unfold Instr.field
    simp [Sem.run_bind, run_underlying hu, hf, asAgg]
  split at hg
  · rename_i had
    unfold afield at hg
    split at hg
    · rename_i c
      obtain ⟨l, rfl, hl⟩ := rp_agg.1 hx
      rw [okO_gives] at hg
      unfold takeA at hg
      split at hg
      · rename_i r hr
        cases hg
        obtain ⟨h1, h2⟩ := listC_take _ _ _ _ (listC_drop fl.offset c l hl) hr
        refine ⟨.agg ((l.drop fl.offset).take inf.size).toArray, ?_, rp_agg.2 ⟨_, rfl, h1⟩⟩
        rw [hrun]
        unfold part
        simp only [Sem.run_bind, run_isAgg hd, had, Result.andThen_ok, if_true, run_sizeOf hi, Sem.run_pure]
        congr 2
        apply Array.ext'
        simp [List.drop_take]
      · cases hg
    · exact (gives_bad.1 hg).elim
  · rename_i had
    have had' : aggD d = false := by simpa using had
    unfold afield at hg
    split at hg
    · rename_i c
      obtain ⟨l, rfl, hl⟩ := rp_agg.1 hx
      rw [okO_gives] at hg
      obtain ⟨y, h1, h2⟩ := listC_nth 0 _ _ _ (listC_drop fl.offset c l hl) hg
      refine ⟨y, ?_, h2⟩
      rw [hrun]
      unfold part
      have : l[fl.offset]? = some y := by simpa using h1
      simp [Sem.run_bind, run_isAgg hd, had', this]
    · exact (gives_bad.1 hg).elim
theorem indexAt_run {t e : TypeId} {inf : TypeInfo} (hu : P.underlying t = some (.slice e)) (hi : P.info? e = some inf) {b o n cap : Nat} {k : IntKind} {j : Int} (h0 : 0 ≤ j) (h1 : j < (n : Int)) :
    (Instr.indexAt t (.slice (some ⟨b, o, none⟩) n cap) (.int k j)).run P w = .ok (.pointer (some ⟨b, o + j.toNat * inf.size, none⟩)) w := by
  unfold Instr.indexAt
  simp [Sem.run_bind, asIntOf, run_underlying hu, h0, h1, run_sizeOf hi, addr_add]
theorem indexAtA_run {t e : TypeId} {inf : TypeInfo} {len : Nat} (hu : P.underlying t = some (.array len e)) (hi : P.info? e = some inf) {b o : Nat} {k : IntKind} {j : Int} (h0 : 0 ≤ j) (h1 : j < (len : Int)) :
    (Instr.indexAt t (.pointer (some ⟨b, o, none⟩)) (.int k j)).run P w = .ok (.pointer (some ⟨b, o + j.toNat * inf.size, none⟩)) w := by
  unfold Instr.indexAt
  simp [Sem.run_bind, asIntOf, run_underlying hu, Instr.sureAddr, h0, h1, run_sizeOf hi, addr_add]
theorem gives_load {q : QR} (h : q.gives v) : ∃ p : Prop, q = .ok v ∧ p ∨ ∃ p : Th Prop, q = .cond p v ∧ p .o := by
  rcases h with h | h
  · exact ⟨True, .inl ⟨h, trivial⟩⟩
  · exact ⟨True, .inr h⟩
theorem bytesN_eq {n : Nat} {g : Th Nat → AV} : strOfNums ((List.range n).map fun i => byteAt (g fun _ => i)) = ⟨(bytesN n g).toArray⟩ := by
  simp only [strOfNums, bytesN, List.map_map, Function.comp_def]
theorem bytes_run {src dst e : TypeId} (hs : P.underlying src = some (.slice e)) (he : P.underlying e = some (.int .u8)) (hd : P.underlying dst = some .string) {w : World} {n cap : Nat} {g : Th Nat → AV} (hB : ∀ i, i < n → isB (g fun _ => i)) {a : Option Addr}
    (hc : ∀ i, i < n → ∃ b o, a = some ⟨b, o, none⟩ ∧ ∃ v, w.cell? ⟨b, o + i, none⟩ = some v ∧ Rp E (.int .u8 fun _ => byteAt (g fun _ => i)) v) :
    (convert src dst (.slice a n cap)).run P w = .ok (.string ⟨(bytesN n g).toArray⟩) w := by
  rcases Nat.eq_zero_or_pos n with rfl | hn
  · cases a with
    | none => rw [run_convert_bytes_nil w src e hs he 0 cap dst hd]; rfl
    | some a =>
      rw [run_convert_bytes_string w src dst e _ 0 cap hs he hd, run_bytesToString w a 0 cap [] (by simp [loadCells, loadCellsFrom])]
      rfl
  · obtain ⟨b, o, rfl, _⟩ := hc 0 hn
    rw [run_convert_bytes_arg w src e hs he b o n cap ((List.range n).map fun i => byteAt (g fun _ => i)) (by simp) (fun i hi => ?_) dst hd, bytesN_eq]
    obtain ⟨b', o', he', v, h1, h2⟩ := hc i hi
    cases he'
    rw [h1]
    have h2 : v = .int .u8 (byteAt (g fun _ => i)) := h2
    rw [h2]
    simp [List.getD, hi]
theorem byte_cell {g : AV} (hB : isB g) {v : Value} {r : List Value} (h : ListC E g (v :: r)) : Rp E (.int .u8 fun _ => byteAt g) v := by
  obtain ⟨a, rfl⟩ := hB
  obtain ⟨x, r', he, h1, _⟩ := listC_cons.1 h
  cases he
  exact h1
theorem ab2s_sound {src dst e : TypeId} (hS : SI E s a) (hs : P.underlying src = some (.slice e)) (he : P.underlying e = some (.int .u8)) (hd : P.underlying dst = some .string) {x : AV} {X : Value} (hx : Rp E x X) {v : AV} (hg : (ab2s s x).gives v) :
    ∃ z, (convert src dst X).run P E.w = .ok z E.w ∧ Rp E v z := by
  unfold ab2s at hg
  split at hg
  · rw [gives_ok] at hg
    subst hg
    simp only [Rp] at hx
    rw [hx]
    exact ⟨_, run_convert_bytes_nil E.w src e hs he 0 0 dst hd, rfl⟩
  · rename_i sz n g
    obtain ⟨rfl, hB⟩ := gives_cond.1 hg
    obtain ⟨A, cap, rfl, hc, h3⟩ := hx
    refine ⟨_, bytes_run (E := E) hs he hd hB fun i hi => ?_, rfl⟩
    obtain ⟨⟨_, hlen⟩, b, o, h4, h5⟩ := h3 i hi
    refine ⟨b, o, h4, ?_⟩
    obtain ⟨t, ht⟩ := hB i hi
    have hsz : sz = 1 := by rw [ht] at hlen; exact hlen.symm
    subst hsz
    rw [ht] at h5 ⊢
    simp only [MemC] at h5
    obtain ⟨⟨v, h6, _, h7⟩, _⟩ := h5
    rw [Nat.mul_one] at h6
    exact ⟨v, h6, h7⟩
  · rename_i d
    split at hg
    · rename_i sz n g hb
      obtain ⟨rfl, hB⟩ := gives_cond.1 hg
      obtain ⟨hv, A, N, cap', hf⟩ := hx
      have hblk := hS.blk d
      rw [hb] at hblk
      rcases hblk with ⟨h1, h2⟩ | ⟨cap, cur, e', h1, h2, h3, h4, h5, h6⟩
      · rw [hv, h1]
        refine ⟨_, ?_, rfl⟩
        rw [h2]
        exact run_convert_bytes_nil E.w src e hs he 0 0 dst hd
      · rw [hv, h1]
        refine ⟨_, bytes_run (E := E) hs he hd hB fun i hi => ⟨_, _, rfl, ?_⟩, rfl⟩
        obtain ⟨t, ht⟩ := hB i hi
        have h7 := (h6 i hi).2
        have hl := listC_len' h7
        have hseg := row_elem h5 h3 hi
        have hsz : sz = 1 := by rw [ht] at hl; rw [hseg] at hl; exact hl.symm
        subst hsz
        rw [Nat.mul_one] at h7
        have hlt : i < cur.length := by omega
        rw [List.drop_eq_getElem_cons hlt, List.take_succ_cons] at h7
        refine ⟨cur[i], ?_, byte_cell (hB i hi) h7⟩
        rw [Nat.zero_add, h2.cell, List.getElem?_eq_getElem hlt]
    · exact (gives_bad.1 hg).elim
  · exact (gives_bad.1 hg).elim
theorem qev_sound (hS : SI E s a) {o : Oper} {ro : RO} (hr : rOp P o.op = some ro) (hg : (qev s ro).gives v) : ∃ z, (execOp a.eval o).run P E.w = .ok (.value z) E.w ∧ Rp E v z := by
  unfold rOp at hr
  unfold execOp
  split at hr
  · rename_i x ho
    obtain ⟨y, hy, rfl⟩ := opt_map hr
    simp only [qev, gives_ok] at hg
    subst hg
    simp only [ho]
    exact ⟨_, rfl, opd_sound hS hy⟩
  · rename_i x ho
    obtain ⟨y, hy, rfl⟩ := opt_map hr
    simp only [qev, gives_ok] at hg
    subst hg
    simp only [ho]
    exact ⟨_, rfl, opd_sound hS hy⟩
  · rename_i c x y ho
    split at hr
    · rename_i c' x' y' hc hx hy
      cases hr
      obtain ⟨b, h1, h2⟩ := apick_sound (opd_sound hS hc) (opd_sound hS hx) (opd_sound hS hy) hg
      simp only [ho]
      refine ⟨_, ?_, h2⟩
      simp [h1, asBool]
    · cases hr
  · rename_i op t x y _ ho
    split at hr
    · rename_i x' y' hx hy
      cases hr
      simp only [ho]
      obtain ⟨z, h1, h2⟩ := abin_sound (P := P) (w := E.w) (t := t) (X := x) (Y := y) (opd_sound hS hx) (opd_sound hS hy) hg
      exact ⟨z, value_of h1, h2⟩
    · cases hr
  · rename_i op t x ho
    obtain ⟨y, hy, rfl⟩ := opt_map hr
    simp only [ho]
    obtain ⟨z, h1, h2⟩ := aun_sound (P := P) (w := E.w) (opd_sound hS hy) hg
    exact ⟨z, value_of h1, h2⟩
  · rename_i t x ho
    split at hr
    · rename_i d inf x' hu hi hx
      cases hr
      simp only [ho]
      split at hg
      · rename_i had
        obtain ⟨p, hp⟩ := gives_load hg
        obtain ⟨b, off, h1, l, h2, h3, h4⟩ := aload_sound hS (k := some inf.size) (fun b o c v h hf => loads_take h hf) (opd_sound hS hx) hp
        rw [h1]
        exact ⟨_, value_of (run_loadA hu had hi h2 h3), h4⟩
      · rename_i had
        obtain ⟨p, hp⟩ := gives_load hg
        obtain ⟨b, off, h1, y, h2, h3⟩ := aload_sound hS (k := none) (fun b o c v h hf => loads_first h hf) (opd_sound hS hx) hp
        rw [h1]
        exact ⟨_, value_of (run_load1 hu (by simpa using had) h2), h3⟩
    · cases hr
  · rename_i t x f ho
    split at hr
    · rename_i fs x' hu hx
      split at hr
      · rename_i fl hf
        split at hr
        · rename_i inf hi
          split at hr
          · cases hr
          · rename_i h0
            cases hr
            simp only [ho]
            obtain ⟨b, off, h1, h2⟩ := afld_sound (opd_sound hS hx) hg
            rw [h1]
            exact ⟨_, value_of (fieldAt_run hu hf hi h0), h2⟩
        · cases hr
      · cases hr
    · cases hr
  · rename_i t x f ho
    split at hr
    · rename_i fs x' hu hx
      split at hr
      · rename_i fl hf
        split at hr
        · rename_i d inf hd hi
          cases hr
          simp only [ho]
          obtain ⟨z, h1, h2⟩ := field_run (P := P) (w := E.w) hu hf hd hi (opd_sound hS hx) (v := v) (by revert hg; split <;> exact id)
          exact ⟨z, value_of h1, h2⟩
        · cases hr
      · cases hr
    · cases hr
  · rename_i t x i ho
    split at hr
    · rename_i e x' i' hu hx hi
      split at hr
      · rename_i inf hinf
        cases hr
        simp only [ho]
        obtain ⟨b, off, n, cap, k, j, h1, h2, h3, h4, h5⟩ := aidx_sound hS (opd_sound hS hx) (opd_sound hS hi) hg
        rw [h1, h2]
        exact ⟨_, value_of (indexAt_run hu hinf h3 h4), h5⟩
      · cases hr
    · rename_i len e x' i' hu hx hi
      split at hr
      · rename_i inf hinf
        cases hr
        simp only [ho]
        obtain ⟨b, o', k, j, h1, h2, h3, h4, h5⟩ := aidxA_sound hS (opd_sound hS hx) (opd_sound hS hi) hg
        rw [h1, h2]
        exact ⟨_, value_of (indexAtA_run hu hinf h3 h4), h5⟩
      · cases hr
    · cases hr
  · rename_i t x i ho
    split at hr
    · rename_i x' i' hu hx hi
      cases hr
      simp only [ho]
      have hx' := opd_sound hS hx
      have hi' := opd_sound hS hi
      simp only [qev] at hg
      unfold aidxS at hg
      split at hg
      · rename_i st k j he1 he2
        obtain ⟨rfl, h0, h1⟩ := gives_cond.1 hg
        simp only [zi] at h1
        rw [he1] at hx'
        rw [he2] at hi'
        simp only [Rp] at hx' hi'
        rw [hx', hi']
        refine ⟨_, value_of (z := .int .u8 (((st .o).getD (j .o).toNat 0).toNat : Int)) ?_, rfl⟩
        have hlt : (j .o).toNat < (st .o).length := by omega
        unfold Instr.index
        simp [Sem.run_bind, asIntOf, run_underlying hu, h0, getElem?_mk, List.getElem?_eq_getElem hlt]
      · exact (gives_bad.1 hg).elim
    · cases hr
  · rename_i t x lo hi ho
    split at hr
    · rename_i x' lo' hi' hu hx hl hh
      cases hr
      simp only [ho]
      obtain ⟨z, h1, h2⟩ := asliceS_sound (P := P) (w := E.w) hu (opd_sound hS hx) (evo_sound hS hl) (evo_sound hS hh) hg
      exact ⟨z, value_of h1, h2⟩
    · rename_i e x' lo' hi' hu hx hl hh
      split at hr
      · rename_i inf hinf
        cases hr
        simp only [ho]
        obtain ⟨z, h1, h2⟩ := aslice_sound (P := P) (w := E.w) hS hu hinf (opd_sound hS hx) (evo_sound hS hl) (evo_sound hS hh) hg
        exact ⟨z, value_of h1, h2⟩
      · cases hr
    · cases hr
  · rename_i fn fi ca ho
    split at hr
    · rename_i p q hp hq
      cases hr
      simp only [qev, gives_ok] at hg
      subst hg
      simp only [ho]
      have h1 := opds_sound hS _ _ hp
      have h2 := opds_sound hS _ _ hq
      refine ⟨_, value_of (z := .func fn (fi.map a.eval) (ca.map a.eval)) (by simp [Instr.makeFunc]), ?_⟩
      simp only [Rp]
      refine ⟨fi.toList.map a.eval, ca.toList.map a.eval, ?_, h1, h2⟩
      congr 1 <;> (apply Array.ext'; simp)
    · cases hr
  · rename_i t x ho
    split at hr
    · cases hr
    · rename_i hno d x' hu hx
      cases hr
      simp only [qev, gives_ok] at hg
      subst hg
      simp only [ho]
      refine ⟨_, value_of (z := .iface t (a.eval x)) ?_, _, rfl, opd_sound hS hx⟩
      unfold Instr.makeInterface
      simp only [Sem.run_bind, run_underlying hu, Result.andThen_ok]
      cases d <;> first | rfl | exact (hno _ hu).elim
    · cases hr
  · rename_i x tx t ho
    split at hr
    · cases hr
    · rename_i d inf x' hno hu hi hx
      split at hr
      · rename_i zv hz
        split at hr
        · rename_i z hcz
          cases hr
          simp only [ho]
          obtain ⟨y, h1, h2⟩ := asserts_sound (P := P) (w := E.w) (tx := tx) hu (fun ms h => hno ms h) hi hz (cval_sound hcz).1 (opd_sound hS hx) hg
          exact ⟨y, value_of h1, h2⟩
        · cases hr
      · cases hr
    · cases hr
  · rename_i x i ho
    obtain ⟨y, hy, rfl⟩ := opt_map hr
    simp only [ho]
    have hx := opd_sound hS hy
    simp only [qev] at hg
    unfold aext at hg
    split at hg
    · rename_i c hc
      rw [hc] at hx
      obtain ⟨l, h1, h2⟩ := rp_tup.1 hx
      rw [okO_gives] at hg
      obtain ⟨z, h3, h4⟩ := listC_nth i c l v h2 hg
      refine ⟨z, value_of ?_, h4⟩
      rw [h1]
      simp [Instr.extract, h3]
    · exact (gives_bad.1 hg).elim
  · rename_i src dst x ho
    split at hr
    · rename_i ds k x' hs hu hx
      cases hr
      simp only [ho]
      have hx' := opd_sound hS hx
      simp only [qev] at hg
      unfold aconv at hg
      split at hg
      · rename_i k' n hn
        rw [gives_ok] at hg
        subst hg
        rw [hn] at hx'
        simp only [Rp] at hx'
        rw [hx']
        refine ⟨_, value_of (z := .int k (k.wrap (n .o))) ?_, rfl⟩
        unfold convert
        simp [Sem.run_bind, run_underlying hs, run_underlying hu, Conv.intToInt]
      · exact (gives_bad.1 hg).elim
    · rename_i e x' hs hu hx
      split at hr
      · rename_i he
        cases hr
        simp only [ho]
        obtain ⟨z, h1, h2⟩ := ab2s_sound (P := P) hS hs (isU8_spec he) hu (opd_sound hS hx) hg
        exact ⟨z, value_of h1, h2⟩
      · cases hr
    · cases hr
  · rename_i args ts ho
    split at hr
    · rename_i x t ts' hargs hts
      have hrun : ∀ z, (Builtin.len_ ts o.type #[a.eval x]).run P E.w = .ok z E.w → ((do let d ← resolve a.eval { callee := .builtin .len, args := args, argTypes := ts } o.type; invoke d.target d.args) : Sem Next).run P E.w = .ok (.value z) E.w := by
        intro z hz
        have ha : args = #[x] := by apply Array.ext'; simpa using hargs
        subst ha
        simp only [resolve, Sem.run_bind, Sem.run_pure, Result.andThen_ok, invoke, builtin]
        rw [show (#[x] : Array Operand).map a.eval = #[a.eval x] by simp, hz]
        rfl
      have hts' : ts = (t :: ts').toArray := by apply Array.ext'; simpa using hts
      split at hr
      · rename_i x' hu hx
        cases hr
        simp only [ho]
        have hx' := opd_sound hS hx
        simp only [qev] at hg
        unfold alenS at hg
        split at hg
        · rename_i st he
          rw [gives_ok] at hg; subst hg
          rw [he] at hx'
          simp only [Rp] at hx'
          refine ⟨_, hrun _ ?_, rfl⟩
          rw [hx', hts']
          have hsz : (⟨(st .o).toArray⟩ : ByteArray).size = (st .o).length := by simp [ByteArray.size]
          simp [Builtin.len_, run_underlying hu, goInt, hsz, zi]
        · exact (gives_bad.1 hg).elim
      · rename_i e x' hu hx
        cases hr
        simp only [ho]
        obtain ⟨z, h1, h2⟩ := len_sound (P := P) (w := E.w) hS hu (opd_sound hS hx) hg (ts := ts') (ty := o.type)
        exact ⟨z, hrun _ (by rw [hts']; exact h1), h2⟩
      · cases hr
    · cases hr
  · rename_i args ts ho
    obtain ⟨y, hy, rfl⟩ := opt_map hr
    simp only [ho]
    have hl := opds_sound hS _ _ hy
    simp only [qev] at hg
    split at hg
    · exact (gives_bad.1 hg).elim
    · rename_i x r hxr
      rw [hxr] at hl
      obtain ⟨xv, m, h1, h2, h3⟩ := listC_cons.1 hl
      rw [okO_gives] at hg
      obtain ⟨z, h4, h5⟩ := amms_sound (P := P) (w := E.w) r m x v xv h2 h3 hg
      refine ⟨z, ?_, h5⟩
      simp only [resolve, Sem.run_bind, Sem.run_pure, Result.andThen_ok, invoke, builtin, Builtin.min_]
      rw [show (args.map a.eval).toList = xv :: m from by rw [← h1]; simp]
      simp only [Bool.false_eq_true, if_false] at h4
      simp [h4]
  · rename_i args ts ho
    obtain ⟨y, hy, rfl⟩ := opt_map hr
    simp only [ho]
    have hl := opds_sound hS _ _ hy
    simp only [qev] at hg
    split at hg
    · exact (gives_bad.1 hg).elim
    · rename_i x r hxr
      rw [hxr] at hl
      obtain ⟨xv, m, h1, h2, h3⟩ := listC_cons.1 hl
      rw [okO_gives] at hg
      obtain ⟨z, h4, h5⟩ := amms_sound (P := P) (w := E.w) r m x v xv h2 h3 hg
      refine ⟨z, ?_, h5⟩
      simp only [resolve, Sem.run_bind, Sem.run_pure, Result.andThen_ok, invoke, builtin, Builtin.max_]
      rw [show (args.map a.eval).toList = xv :: m from by rw [← h1]; simp]
      simp only [if_true] at h4
      simp [h4]
  · rename_i x ho
    obtain ⟨y, hy, rfl⟩ := opt_map hr
    simp only [ho]
    have hx' := opd_sound hS hy
    simp only [qev] at hg
    unfold achk at hg
    split at hg
    · rename_i d o he
      rw [gives_ok] at hg; subst hg
      rw [he] at hx'
      exact ⟨_, by rw [show a.eval x = _ from hx']; rfl, rfl⟩
    · rename_i d sz i o he
      rw [gives_ok] at hg; subst hg
      rw [he] at hx'
      exact ⟨_, by rw [show a.eval x = _ from hx']; rfl, rfl⟩
    · rename_i c he
      rw [gives_ok] at hg; subst hg
      rw [he] at hx'
      obtain ⟨b, o, h1, h2⟩ := hx'
      exact ⟨_, by rw [h1]; rfl, b, o, rfl, h2⟩
    · exact (gives_bad.1 hg).elim
  · cases hr
end
end Go.Proofs.YtkklflpfklbbcaaDoor.Sx
/- A symbolic executor for the model's code: states, calls, and the abstract weakest precondition. -/
namespace Go.Proofs.YtkklflpfklbbcaaDoor.Sx
open Go
set_option linter.unusedSimpArgs false
set_option linter.unusedVariables false
def BL.liveAt (B : BL) (x : Nat) : Prop := (B.get x).live = true
/-- Does place x own a block of memory? -/
def solidAt (E : Env) (B : BL) (x : Nat) : Prop := solid E x (B.get x)
theorem solid_live {E : Env} {B : BL} {x : Nat} (h : solidAt E B x) : B.liveAt x := by
  unfold solidAt at h
  unfold BL.liveAt
  cases hb : B.get x <;> rw [hb] at h
  · exact h.elim
  · rfl
  · rfl
structure Inv (E : Env) (B : BL) : Prop where
  blk : ∀ d, BlkRp E d (B.get d)
  dist : ∀ d d', solidAt E B d → solidAt E B d' → d ≠ d' → E.ρ d ≠ E.ρ d'
  live : ∀ d, solidAt E B d → E.ρ d < E.w.heap.size ∧ ∀ o, ¬ E.I (E.ρ d) o
  ibd : ∀ b o, E.I b o → b < E.w.heap.size
  nm : ∀ d x, (B.get d).locs x → B.liveAt x
/-- From E, B to E', B', where the places in D are new, and the rows of B may have come to stand elsewhere. -/
structure Post (E : Env) (B : BL) (E' : Env) (B' : BL) (D : Nat → Prop) : Prop where
  le : E.Le E'
  same : ∀ x, ¬ D x → (B.get x).isRow = false → E'.ρ x = E.ρ x ∧ E'.rv x = E.rv x
  kind : ∀ x, ¬ D x → (B.get x).isRow = false → (B'.get x).isRow = false
  os : E'.w.os = E.w.os
  tape : E'.w.tape = E.w.tape
  output : E'.w.output = E.w.output
  size : E.w.heap.size ≤ E'.w.heap.size
  old : ∀ b, b < E.w.heap.size → (∀ x, solidAt E B x → E.ρ x ≠ b) → E'.w.heap[b]? = E.w.heap[b]?
  dom : ∀ x, B'.liveAt x → B.liveAt x ∨ D x
  new : ∀ x, solidAt E' B' x → (solidAt E B x ∧ E'.ρ x = E.ρ x) ∨ E.w.heap.size ≤ E'.ρ x
  keep : ∀ x, B.liveAt x → B'.liveAt x
  imm : ∀ b o, E'.I b o → E.I b o ∨ E.w.heap.size ≤ b
theorem Post.refl (E : Env) (B : BL) (D : Nat → Prop) : Post E B E B D :=
  ⟨.refl E, fun _ _ _ => ⟨rfl, rfl⟩, fun _ _ h => h, rfl, rfl, rfl, Nat.le_refl _, fun _ _ _ => rfl, fun _ h => .inl h, fun _ h => .inl ⟨h, rfl⟩, fun _ h => h, fun _ _ h => .inl h⟩
theorem Post.trans {E0 E E' : Env} {B0 B B' : BL} {D D' : Nat → Prop} (h : Post E0 B0 E B D) (k : Post E B E' B' D') (hd : ∀ x, D' x → D x) : Post E0 B0 E' B' D where
  le := h.le.trans k.le
  same x hx hr :=
    have h1 := h.same x hx hr
    have h2 := k.same x (fun q => hx (hd x q)) (h.kind x hx hr)
    ⟨h2.1.trans h1.1, h2.2.trans h1.2⟩
  kind x hx hr := k.kind x (fun q => hx (hd x q)) (h.kind x hx hr)
  os := k.os.trans h.os
  tape := k.tape.trans h.tape
  output := k.output.trans h.output
  size := Nat.le_trans h.size k.size
  old b hb hn := by
    rw [k.old b (Nat.lt_of_lt_of_le hb h.size) ?_, h.old b hb hn]
    intro x hx
    rcases h.new x hx with ⟨h1, h2⟩ | h2
    · rw [h2]; exact hn x h1
    · omega
  dom x hx := by
    rcases k.dom x hx with h1 | h1
    · exact h.dom x h1
    · exact .inr (hd x h1)
  new x hx := by
    rcases k.new x hx with ⟨h1, h2⟩ | h1
    · rcases h.new x h1 with ⟨h3, h4⟩ | h3
      · exact .inl ⟨h3, h2.trans h4⟩
      · exact .inr (by rw [h2]; exact h3)
    · exact .inr (Nat.le_trans h.size h1)
  keep x hx := k.keep x (h.keep x hx)
  imm b o hi := by
    rcases k.imm b o hi with h1 | h1
    · exact h.imm b o h1
    · exact .inr (Nat.le_trans h.size h1)
def unchain : AV → List AV
  | .cons h t => h :: unchain t
  | _ => []
/-- May the machine enter this function? -/
def callable (P : Program) (f : Nat) : Bool := match P.funcs[f]? with | some fn => fn.body.isSome && fn.name != "runtime.NumGoroutine" | none => false
def ARes.locs : ARes → Nat → Prop | .ret v, x => v.locs x | .pan v, x => v.locs x
def Ends (E : Env) : ARes → Ending → Prop
  | .ret v, .returned x => Rp E v x
  | .pan v, .panicked ch => ∃ x, ch = [{ v := x, recovered := false }] ∧ Rp E v x
  | _, _ => False
/-- A call of function f comes to an end that K speaks of, whatever the memory beyond. Place d is free for what it makes. -/
structure CallAt (P : Th Program) (f : Nat) (asL0 : List AV) (d : Nat) (B : BL) (K : ARes → BL → Prop) : Prop where
  can : callable (P .o) f = true
  run : ∀ (E : Env) (vs : List Value), Inv E B → ListC E (chain asL0) vs → (∀ x, (chain asL0).locs x → B.liveAt x) → ¬ B.liveAt d →
    Calls (P .o) f vs.toArray E.w fun e w' => ∃ E' r B', E'.w = w' ∧ K r B' ∧ Ends E' r e ∧ Inv E' B' ∧ Post E B E' B' (· = d) ∧ (∀ x, r.locs x → B'.liveAt x)
theorem CallAt.mono {P : Th Program} {f : Nat} {asL0 : List AV} {d : Nat} {B : BL} {K K' : ARes → BL → Prop} (h : CallAt P f asL0 d B K) (hk : ∀ r B', K r B' → K' r B') : CallAt P f asL0 d B K' :=
  ⟨h.can, fun E vs h1 h2 h3 h4 => (h.run E vs h1 h2 h3 h4).mono fun e w' ⟨E', r, B', a, b, c⟩ => ⟨E', r, B', a, hk _ _ b, c⟩⟩
def ltB (a b : Nat) : Bool := decide (a < b)
/-- Place d told as y instead. -/
def AV.fz : AV → Nat → AV → AV
  | .row x, d, y => match x == d with | true => y | false => .row x
  | .ptr x o, d, _ => match x == d with | true => .any | false => .ptr x o
  | .rptr x s i o, d, _ => match x == d with | true => .any | false => .rptr x s i o
  | .win x s i o, d, _ => match x == d with | true => .any | false => .win x s i o
  | .iptr c, d, y => .iptr (c.fz d y)
  | .fn f a b, d, y => .fn f (a.fz d y) (b.fz d y)
  | .ifc t v, d, y => .ifc t (v.fz d y)
  | .agg c, d, y => .agg (c.fz d y)
  | .tup c, d, y => .tup (c.fz d y)
  | .cons h t, d, y => .cons (h.fz d y) (t.fz d y)
  | v, _, _ => v
def AL.fz (d : Nat) (y : AV) : AL → AL
  | .nil => .nil
  | .cons k v r => .cons k (v.fz d y) (r.fz d y)
def Blk.fz (d : Nat) (y : AV) : Blk → Blk
  | .cells c => .cells (c.fz d y)
  | b => b
def BL.fz (d : Nat) (y : AV) : BL → BL
  | .nil => .nil
  | .cons k v r => .cons k (v.fz d y) (r.fz d y)
/-- The rows of one's own that a value names. -/
def AV.rows : AV → List Nat → List Nat
  | .row d, l => match ltB d 9500 with | true => d :: l | false => l
  | .win d _ _ _, l => match ltB d 9500 with | true => d :: l | false => l
  | .iptr c, l => c.rows l
  | .fn _ a b, l => a.rows (b.rows l)
  | .ifc _ v, l => v.rows l
  | .agg c, l => c.rows l
  | .tup c, l => c.rows l
  | .cons h t, l => h.rows (t.rows l)
  | _, l => l
def St.shut1 (s : St) (d : Nat) : St := match decide (d < 10000), s.b.get d with
  | true, .row sz n g => ⟨s.t.fz d (.sl sz n g), .cons d .no (s.b.fz d (.sl sz n g)), s.df.fz d (.sl sz n g)⟩
  | _, _ => s
def St.shutL (s : St) : List Nat → St
  | [] => s
  | d :: r => (s.shut1 d).shutL r
/-- The places that a value names. -/
def AV.ids : AV → List Nat → List Nat
  | .row x, l => x :: l
  | .ptr x _, l => x :: l
  | .rptr x _ _ _, l => x :: l
  | .win x _ _ _, l => x :: l
  | .iptr c, l => c.ids l
  | .fn _ a b, l => a.ids (b.ids l)
  | .ifc _ v, l => v.ids l
  | .agg c, l => c.ids l
  | .tup c, l => c.ids l
  | .cons h t, l => h.ids (t.ids l)
  | _, l => l
def Blk.ids : Blk → List Nat → List Nat | .cells c, l => c.ids l | _, l => l
/-- All places that are to be reached from some, some steps far. -/
def reach (B : BL) : Nat → List Nat → List Nat → List Nat
  | 0, _, seen => seen
  | _ + 1, [], seen => seen
  | f + 1, x :: r, seen => match seen.contains x with
    | true => reach B f r seen
    | false => reach B f ((B.get x).ids r) (x :: seen)
def BL.pick (l : BL) : List Nat → BL → BL
  | [], r => r
  | k :: ks, r => .cons k (l.get k) (l.pick ks r)
/-- Are all places named among these? -/
def AV.among (l : List Nat) : AV → Bool
  | .row x => l.contains x
  | .ptr x _ => l.contains x
  | .rptr x _ _ _ => l.contains x
  | .win x _ _ _ => l.contains x
  | .iptr c => c.among l
  | .fn _ a b => match a.among l with | true => b.among l | false => false
  | .ifc _ v => v.among l
  | .agg c => c.among l
  | .tup c => c.among l
  | .cons h t => match h.among l with | true => t.among l | false => false
  | _ => true
def Blk.among (l : List Nat) : Blk → Bool | .cells c => c.among l | _ => true
def closed (B : BL) (l : List Nat) : List Nat → Bool
  | [] => true
  | x :: r => match (B.get x).live, (B.get x).among l with | true, true => closed B l r | _, _ => false
/-- A value that names nothing in memory. -/
def AV.flat : AV → Bool
  | .int _ _ => true | .bool _ => true | .tt => true | .ff => true | .str _ => true | .nsl => true | .nptr => true | .nfn => true | .nif => true
  | .ifc _ v => v.flat
  | .agg c => c.flat
  | .tup c => c.flat
  | .nil => true
  | .cons h t => match h.flat with | true => t.flat | false => false
  | _ => false
def ARes.flat : ARes → Bool | .ret v => v.flat | .pan v => v.flat
def rowsOf (B : BL) : List Nat → List Nat
  | [] => []
  | x :: r => match (B.get x).isRow with | true => x :: rowsOf B r | false => rowsOf B r
def AV.kills : AV → List Nat → AV | v, [] => v | v, x :: r => (v.kill x).kills r
def AL.kills : AL → List Nat → AL | v, [] => v | v, x :: r => (v.kill x).kills r
def BL.kills : BL → List Nat → BL | v, [] => v | v, x :: r => (v.kill x).kills r
/-- The state behind a call that was handed the places cs and has place d for what it makes. -/
def St.after (s : St) (d : Nat) (cs : List Nat) (B' : BL) : St :=
  ⟨s.t.kills (rowsOf s.b cs), match (B'.get d).live with | true => .cons d (B'.get d) (B'.pick cs (s.b.kills (rowsOf s.b cs))) | false => B'.pick cs (s.b.kills (rowsOf s.b cs)), s.df.kills (rowsOf s.b cs)⟩
/-- The same, with all that it names shut (h: what a place behind a pointer is told as). -/
def AV.frz (B : BL) (h : Nat → Nat → Option AV) : AV → Option AV
  | .row d => match B.get d with | .row sz n g => some (.sl sz n g) | _ => none
  | .ptr d o => h d o
  | .rptr _ _ _ _ => none
  | .win _ _ _ _ => none
  | .iptr c => match c.frz B h with | some c => some (.iptr c) | none => none
  | .ifc t v => match v.frz B h with | some v => some (.ifc t v) | none => none
  | .agg c => match c.frz B h with | some c => some (.agg c) | none => none
  | .tup c => match c.frz B h with | some c => some (.tup c) | none => none
  | .fn f a b => match a.frz B h, b.frz B h with | some a, some b => some (.fn f a b) | _, _ => none
  | .cons x t => match x.frz B h, t.frz B h with | some x, some t => some (.cons x t) | _, _ => none
  | x => some x
/-- The cells behind a pointer, shut, to a depth. -/
def frzP (B : BL) : Nat → Nat → Nat → Option AV
  | 0, _, _ => none
  | k + 1, d, o => match B.get d with
    | .cells c => match c.frz B (frzP B k) with | some c => some (.iptr (c.drop o)) | none => none
    | _ => none
structure ROp where
  dst : Option Nat
  op : RO
  guard : Option (Nat × Bool)
/-- An operation of a region whose order is left open: may it float? Which of those ahead (by their places) may yet be to come when it comes up? -/
structure DOp where
  o : ROp
  fl : Bool
  us : List Nat
/-- Without the word that a call is handed what it is for reading only. -/
def RO.erase : RO → RO | .peek f args => .call f args | .s2r x => .s2b x | .growc f _ x args => .call f (x :: args) | o => o
def ROp.erase (x : ROp) : ROp := ⟨x.dst, x.op.erase, x.guard⟩
/-- As erase, but of calls for reading only. -/
def RO.eraseP : RO → RO | .peek f args => .call f args | o => o
def ROp.eraseP (x : ROp) : ROp := ⟨x.dst, x.op.eraseP, x.guard⟩
def DOp.eraseP (x : DOp) : DOp := ⟨x.o.eraseP, x.fl, x.us⟩
def eraseL : List ROp → List ROp | [] => [] | x :: r => x.erase :: eraseL r
inductive RC : Type
  | skip
  | reg (ops : List ROp)
  | regd (ops : List DOp)
  | seq (a b : RC)
  | cond (c : Opd) (a b : RC)
  | block (id : Nat) (b : RC)
  | loop (b : RC)
  | exit (id : Nat)
  | ret
  | mark (c : RC)
/-- Without the marks. -/
def RC.erase : RC → RC
  | .reg ops => .reg (eraseL ops)
  | .regd ops => .regd (ops.map DOp.eraseP)
  | .seq a b => .seq a.erase b.erase
  | .cond c a b => .cond c a.erase b.erase
  | .block id b => .block id b.erase
  | .loop b => .loop b.erase
  | .mark c => c.erase
  | c => c
inductive It : Type
  | code (c : RC)
  | blk (id : Nat)
  | inv (I : St → Prop)
def St.setO (s : St) (d : Option Nat) (v : AV) : St := match d with | some d => s.set d v | none => s
def tv : Bool → AV | true => .tt | false => .ff
def AV.stillB : AV → Bool
  | .row _ => false
  | .ptr _ _ => false
  | .rptr _ _ _ _ => false
  | .win _ _ _ _ => false
  | .iptr c => c.stillB
  | .fn _ a b => match a.stillB with | true => b.stillB | false => false
  | .ifc _ v => v.stillB
  | .agg c => c.stillB
  | .tup c => c.stillB
  | .cons h t => match h.stillB with | true => t.stillB | false => false
  | _ => true
/-- What a run is held against. -/
structure Cx where
  P : Th Program
  N : Nat
  X : Option AV → St → Prop
/-- A new place d. -/
def fresh (s : St) (d : Nat) : Bool := match (s.b.get d).live with | true => false | false => ltB d 10000
def ares (C : Cx) (r : ARes) (dst : Option Nat) (s : St) (K : St → Prop) : Prop := match r with
  | .ret v => K (s.setO dst v)
  | .pan v => C.X (some v) s
/-- A result that is a row of one's own at place d, alone, or ahead of what is plain. -/
def ARes.own (d : Nat) : ARes → Bool
  | .ret v => match v with
    | .row x => x == d
    | .tup c => match c with
      | .cons (.row x) r => match x == d with | true => r.flat | false => false
      | _ => false
    | _ => false
  | .pan _ => false
/-- A call: s0 is the state ahead, s the same with all rows shut that it is handed (ds). -/
def acall2 (C : Cx) (f : Nat) (asL0 : List AV) (dst : Option Nat) (ds : List Nat) (s0 s : St) (cs : List Nat) (K : St → Prop) : Prop :=
  match fresh s (dst.getD 9999), (chain asL0).among cs, closed s.b cs cs with
  | true, true, true => match ds, cs with
    | _ :: _, [] => CallAt C.P f asL0 (dst.getD 9999) .nil fun r B' => match r.flat with
      | true => ares C r dst s0 K
      | false => match r.own (dst.getD 9999) with
        | true => match fresh s0 (dst.getD 9999), B'.get (dst.getD 9999) with
          | true, .row sz n g => (True → ∀ i, i < n .o → (g fun _ => i).flat = true) ∧ ares C r dst (s0.put (dst.getD 9999) (.row sz n g)) K
          | _, _ => False
        | false => ares C r dst (s.after (dst.getD 9999) [] B') K
    | _, cs => CallAt C.P f asL0 (dst.getD 9999) (s.b.pick cs .nil) fun r B' => ares C r dst (s.after (dst.getD 9999) cs B') K
  | _, _, _ => False
def acall1 (C : Cx) (f : Nat) (asL0 : List AV) (dst : Option Nat) (ds : List Nat) (s0 s : St) (K : St → Prop) : Prop :=
  acall2 C f asL0 dst ds s0 s (reach s.b 100 ((chain asL0).ids []) []) K
def acall (C : Cx) (f : Nat) (asL0 : St → List AV) (dst : Option Nat) (ds : List Nat) (s0 s : St) (K : St → Prop) : Prop := acall1 C f (asL0 s) dst ds s0 s K
def acallv (C : Cx) (f : Opd) (args : List Opd) (dst : Option Nat) (ds : List Nat) (s0 s : St) (K : St → Prop) : Prop :=
  match f.ev s with
  | .fn (.func f) first caps => acall C f (fun s => unchain first ++ (evs s args ++ unchain caps)) dst ds s0 s K
  | _ => False
def acallS (C : Cx) (f : Nat) (args : List Opd) (dst : Option Nat) (ds : List Nat) (s : St) (K : St → Prop) : Prop := acall C f (evs · args) dst ds s (s.shutL ds) K
def acallvS (C : Cx) (f : Opd) (args : List Opd) (dst : Option Nat) (ds : List Nat) (s : St) (K : St → Prop) : Prop := acallv C f args dst ds s (s.shutL ds) K
/-- y says no less than x, cell by cell. -/
structure Fits (x y : AV) : Prop where
  ok : x.okE → y.okE
  rp : ∀ E l, ListC E x l → ListC E y l
/-- Behind an append of m elements (gy) to a row of n (g): whoever proves it tells the new row. -/
structure AppAt (bytes : Nat) (n m : Th Nat) (g gy : Th Nat → AV) (K : Th Nat → (Th Nat → AV) → Prop) : Prop where
  room : (n .o + m .o) * bytes ≤ 140737488355328
  ex : ∃ n' g', n' .o = n .o + m .o ∧ (∀ i, i < n .o → Fits (g fun _ => i) (g' fun _ => i)) ∧ (∀ j, j < m .o → Fits (gy fun _ => j) (g' fun _ => n .o + j)) ∧ K n' g'
/-- Behind a store into element i of a row of n (g), at offset off: the new row is told. -/
structure PutAt (n i : Th Nat) (g : Th Nat → AV) (c : Option AV) (K : (Th Nat → AV) → Prop) : Prop where
  room : i .o < n .o
  ex : ∃ g' c', c = some c' ∧ (∀ j, j < n .o → j ≠ i .o → Fits (g fun _ => j) (g' fun _ => j)) ∧ Fits c' (g' i) ∧ K g'
/-- Behind the clearing of n elements from number lo on of a row of m (g): the new row is told. -/
structure ClrAt (m lo n : Th Nat) (g : Th Nat → AV) (z : AV) (K : (Th Nat → AV) → Prop) : Prop where
  room : lo .o + n .o ≤ m .o
  ex : ∃ g', (∀ j, j < m .o → (j < lo .o ∨ lo .o + n .o ≤ j) → Fits (g fun _ => j) (g' fun _ => j)) ∧ (∀ j, lo .o ≤ j → j < lo .o + n .o → Fits z (g' fun _ => j)) ∧ K g'
def nilV : Value := .slice none 0 0
/-- v is a row of n elements of sz cells, in a block of its own, or nil. -/
def RowOk (w : World) (sz : Nat) (v : Value) (n : Nat) (xs : List Value) (b : Nat) : Prop :=
  (v = nilV ∧ n = 0 ∧ xs = []) ∨ ∃ cap cur e, v = .slice (some ⟨b, 0, none⟩) n cap ∧ Hs w b cur e sz ∧ n ≤ cap ∧ cap ≤ maxLen ∧ cur.length = cap * sz ∧ cur.take (n * sz) = xs
/-- Nothing but row b (if v is one) may have turned. -/
structure Grown (w w' : World) (v : Value) (b : Nat) : Prop where
  os : w'.os = w.os
  tape : w'.tape = w.tape
  output : w'.output = w.output
  size : w.heap.size ≤ w'.heap.size
  old : ∀ k, k < w.heap.size → (v ≠ nilV → k ≠ b) → w'.heap[k]? = w.heap[k]?
/-- A call of f that is handed a row of n elements of sz cells (g), and as, to which no place belongs: it yields the row anew, maybe in another place. -/
structure GrowAt (P : Th Program) (f sz : Nat) (n : Th Nat) (g : Th Nat → AV) (asL0 : List AV) (K : Th Nat → (Th Nat → AV) → Prop) : Prop where
  ex : ∃ n' g', K n' g' ∧ ∀ (E : Env) (vs : List Value) (v : Value) (xs : List Value) (b : Nat), (∀ b' o, E.I b' o → b' < E.w.heap.size ∧ (v ≠ nilV → b' ≠ b)) → ListC E (chain asL0) vs → RowOk E.w sz v (n .o) xs b → xs.length = n .o * sz →
    (∀ j, j < n .o → (g fun _ => j).okE ∧ ListC E (g fun _ => j) ((xs.drop (j * sz)).take sz)) →
    Calls (P .o) f (v :: vs).toArray E.w fun e w' => ∃ v' xs' b', e = .returned v' ∧ RowOk w' sz v' (n' .o) xs' b' ∧ Grown E.w w' v b ∧ (v' ≠ nilV → (v ≠ nilV ∧ b' = b) ∨ (E.w.heap.size ≤ b' ∧ b' < w'.heap.size)) ∧
      (∀ j, j < n' .o → ((g' fun _ => j).okE ∧ (g' fun _ => j).flat = true) ∧ ListC E (g' fun _ => j) ((xs'.drop (j * sz)).take sz))
/-- The elements that are appended. -/
def ysee (s : St) (sz : Nat) : AV → Option (Th Nat × (Th Nat → AV))
  | .nsl => some (fun _ => 0, fun _ => .nil)
  | .sl sz' n g => match sz == sz' with | true => some (n, g) | false => none
  | .row d => match s.b.get d with
    | .row sz' n g => match sz == sz' with | true => some (n, g) | false => none
    | _ => none
  | _ => none
def isPlace (p : Nat) : AV → Bool | .row d => d == p | _ => false
/-- Place p holds another row; all that named the old one is forgotten. -/
def St.grow (s : St) (p : Nat) (b : Blk) : St := ⟨s.t.kill p, .cons p b (s.b.kill p), s.df.kill p⟩
def aop (C : Cx) (o : RO) (dst : Option Nat) (s : St) (K : St → Prop) : Prop :=
  match o with
  | .alloc z => match dst with
    | some d => match fresh s d with | true => K (s.new d (.ptr d 0) (.cells z)) | false => False
    | none => False
  | .box x => match dst, (x.ev s).cells with
    | some d, some c => match fresh s d with | true => K (s.new d (.ptr d 0) (.cells c)) | false => False
    | _, _ => False
  | .bslice sz z n ps => match dst, fillc s (rep z n) ps with
    | some d, some c => match fresh s d, c.stillB, c.scals with
      | true, true, true => K (s.new d (.row d) (.row sz (fun _ => n) fun i => elemAt sz c (i .o)))
      | _, _, _ => False
    | _, _ => False
  | .append sz bytes x y => match dst, ysee s sz (y.ev s) with
    | some d, some (m, gy) => match x.ev s with
      | .nsl => match fresh s d with
        | true => AppAt bytes (fun _ => 0) m (fun _ => .nil) gy fun n' g' => K (s.new d (.row d) (.row sz n' g'))
        | false => False
      | .row p => match s.b.get p, isPlace p (y.ev s) with
        | .row sz' n g, false => match sz == sz' with
          | true => AppAt bytes n m g gy fun n' g' => K ((s.grow p (.row sz n' g')).set d (.row p))
          | false => False
        | _, _ => False
      | _ => False
    | _, _ => False
  | .store sz a v => match a.ev s, (v.ev s).cells with
    | .ptr d o, some vc => match s.b.get d with
      | .cells c => match vc.len == sz, c.over o vc with
        | true, some c' => K (s.put d (.cells c'))
        | _, _ => False
      | _ => False
    | .rptr d sz' i off, some vc => match s.b.get d with
      | .row sz'' n g => match sz' == sz'', vc.len == sz, vc.stillB, vc.scals with
        | true, true, true, true => PutAt n i g ((g i).over off vc) fun g' => K (s.put d (.row sz'' n g'))
        | _, _, _, _ => False
      | _ => False
    | _, _ => False
  | .mks sz bytes z l c => match dst, l.ev s, c.ev s with
    | some d, .int _ a, .int _ b => match fresh s d with
      | true => (True → 0 ≤ a .o ∧ a .o ≤ b .o ∧ (bytes : Int) * b .o ≤ 281474976710656 ∧ b .o ≤ 9223372036854775807) ∧ K (s.new d (.row d) (.row sz (fun _ => (a .o).toNat) fun _ => z))
      | false => False
    | _, _, _ => False
  | .peek f args => match fresh s (dst.getD 9999), (chain (evs s args)).frz s.b (frzP s.b 8) with
    | true, some c => CallAt C.P f (unchain c) (dst.getD 9999) .nil fun r _ => match r.flat with
      | true => ares C r dst s K
      | false => False
    | _, _ => False
  | .s2r x => match dst, x.ev s with
    | some d, .str t => match fresh s d with
      | true => (True → (t .o).length ≤ 9223372036854775807) ∧ K (s.new d (.row d) (.row 1 (fun _ => (t .o).length) (byteRow t)))
      | false => False
    | _, _ => False
  | .appS x y => match dst, y.ev s with
    | some d, .str t => match x.ev s with
      | .nsl => match fresh s d with
        | true => AppAt 1 (fun _ => 0) (fun _ => (t .o).length) (fun _ => .nil) (byteRow t) fun n' g' => K (s.new d (.row d) (.row 1 n' g'))
        | false => False
      | .row p => match s.b.get p with
        | .row sz' n g => match sz' == 1 with
          | true => AppAt 1 n (fun _ => (t .o).length) g (byteRow t) fun n' g' => K ((s.grow p (.row 1 n' g')).set d (.row p))
          | false => False
        | _ => False
      | _ => False
    | _, _ => False
  | .growc f sz x args => match dst, x.ev s with
    | some d, .row p => match s.b.get p, (chain (evs s args)).frz (.cons p .no s.b) (frzP (.cons p .no s.b) 8) with
      | .row sz' n g, some c => match sz == sz' with
        | true => GrowAt C.P f sz n g (unchain c) fun n' g' => K ((s.grow p (.row sz n' g')).set d (.row p))
        | false => False
      | _, _ => False
    | _, _ => False
  | .sliceA sz len x => match x.ev s with
    | .ptr d o => match s.b.get d with
      | .row sz' n g => match sz == sz', o == 0, ltB d 10000 with
        | true, true, true => (True → n .o = len) ∧ K ((s.shut1 d).setO dst (.sl sz n g))
        | _, _, _ => False
      | _ => False
    | _ => False
  | .isNil e x => match x.ev s with
    | .nsl => K (s.setO dst (match e with | true => .tt | false => .ff))
    | .sl _ n _ => ∀ b : Th Bool, (b .o = e → n .o = 0) → K (s.setO dst (.bool b))
    | .row p => match s.b.get p with
      | .row _ n _ => ∀ b : Th Bool, (b .o = e → n .o = 0) → K (s.setO dst (.bool b))
      | _ => False
    | _ => False
  | .clr sz z x => match x.ev s with
    | .win d sz' lo n => match s.b.get d with
      | .row sz'' m g => match sz == sz', sz == sz'' with
        | true, true => ClrAt m lo n g z fun g' => K ((s.put d (.row sz'' m g')).setO dst (.tup .nil))
        | _, _ => False
      | _ => False
    | _ => False
  | .allocR sz n z => match dst with
    | some d => match fresh s d, z.stillB, z.scals with
      | true, true, true => K (s.new d (.ptr d 0) (.row sz (fun _ => n) fun i => elemAt sz z (i .o)))
      | _, _, _ => False
    | none => False
  | .s2s x => match x.ev s with
    | .row p => match s.b.get p, ltB p 10000 with
      | .row sz n _, true => match sz == 1 with
        | true => (True → 0 < n .o) ∧ K (s.setO dst (.row p))
        | false => False
      | _, _ => False
    | _ => False
  | .call f args => acallS C f args dst ((chain (evs s args)).rows []) s K
  | .callv f args => acallvS C f args dst ((f.ev s).rows ((chain (evs s args)).rows [])) s K
  | .panic x => match x.ev s with
    | .ifc t v => C.X (some (.ifc t v)) s
    | _ => False
  | .defer f args => match dst, f.ev s with
    | none, .fn f first caps => K ⟨s.t, s.b, .cons (.fn f (first.app (chain (evs s args))) caps) s.df⟩
    | _, _ => False
  | o => match qev s o with
    | .bad => False
    | .ok v => K (s.setO dst v)
    | .cond p v => (True → p .o) ∧ K (s.setO dst v)
/-- A row of one's own that is sliced is shut for good. -/
def St.pre (s : St) : RO → St
  | .slice _ x _ _ => match x.ev s with | .row p => (match ltB p 9500 with | true => s.shut1 p | false => s) | _ => s
  | _ => s
def aops (C : Cx) : List ROp → St → (St → Prop) → Prop
  | [], s, K => K s
  | o :: r, s, K => match o.guard with
    | none => aop C o.op o.dst (s.pre o.op) fun s' => aops C r s' K
    | some (t, b) => match s.t.get t with
      | .tt => match b with
        | true => aop C o.op o.dst s fun s' => aops C r s' K
        | false => aops C r (s.setO o.dst (.tup .nil)) K
      | .ff => match b with
        | false => aop C o.op o.dst s fun s' => aops C r s' K
        | true => aops C r (s.setO o.dst (.tup .nil)) K
      | .bool x => (x .o = b → aop C o.op o.dst (s.set t (tv b)) fun s' => aops C r s' K) ∧ (x .o = !b → aops C r ((s.set t (tv !b)).setO o.dst (.tup .nil)) K)
      | .tup .nil => aops C r (s.setO o.dst (.tup .nil)) K
      | _ => False
def St.know (s : St) (c : Opd) (b : Bool) : St := match c with | .tmp t => s.set t (tv b) | .val _ => s
def outOf (id : Nat) : List It → Option (List It)
  | [] => none
  | .blk id' :: k => match id' == id with | true => some k | false => outOf id k
  | _ :: k => outOf id k
/-- What holds when control comes to a pile of items. -/
def Cont (C : Cx) (R : Env → St → Act → Prop) (rel : Code → RC → Prop) : List It → Exit → Act → World → Prop
  | [], .normal, a, w => ∃ E s, R E s a ∧ E.w = w ∧ C.X none s
  | [], .ret, a, w => ∃ E s, R E s a ∧ E.w = w ∧ C.X none s
  | [], .panic ch, a, w => ∃ E s v x, R E s a ∧ E.w = w ∧ ch = [{ v := x, recovered := false }] ∧ Rp E v x ∧ (∀ y, v.locs y → s.b.liveAt y) ∧ C.X (some v) s
  | [], _, _, _ => False
  | .code c :: k, .normal, a, w => ∀ c', rel c' c → c'.wp (C.P .o) (Cont C R rel k) a w
  | .blk _ :: k, .normal, a, w => Cont C R rel k .normal a w
  | .blk id :: k, .exit id', a, w => if id' = id then Cont C R rel k .normal a w else Cont C R rel k (.exit id') a w
  | .inv I :: _, .normal, a, w => ∃ E s, R E s a ∧ E.w = w ∧ I s
  | _ :: k, e, a, w => Cont C R rel k e a w
end Go.Proofs.YtkklflpfklbbcaaDoor.Sx
/- A symbolic executor for the model's code: operations that make or write memory, calls, panics. -/
namespace Go.Proofs.YtkklflpfklbbcaaDoor.Sx
open Go
set_option linter.unusedSimpArgs false
set_option linter.unusedVariables false
def DfRp (E : Env) : AV → List Deferred → Prop
  | .nil, l => l = []
  | .cons (.fn f asL0 caps) r, l => ∃ x y t, l = { target := .fn f (List.toArray x), args := (List.toArray y) } :: t ∧ ListC E caps x ∧ ListC E asL0 y ∧ DfRp E r t
  | _, _ => False
theorem dfRp_mono {E E' : Env} (h : E.Le E') : (x : AV) → (∀ d, x.locs d → E'.ρ d = E.ρ d ∧ E'.rv d = E.rv d) → ∀ l, DfRp E x l → DfRp E' x l := by
  intro x
  induction x with
  | nil => intro _ l hl; exact hl
  | cons a b iha ihb =>
    intro hloc l hl
    cases a with
    | fn f asL0 caps =>
      obtain ⟨x, y, t, h1, h2, h3, h4⟩ := hl
      exact ⟨x, y, t, h1, (rp_mono h caps fun d hd => hloc d (.inl (.inr hd))).2.1 _ h2, (rp_mono h asL0 fun d hd => hloc d (.inl (.inl hd))).2.1 _ h3, ihb (fun d hd => hloc d (.inr hd)) _ h4⟩
    | _ => exact hl.elim
  | _ => intro _ l hl; exact hl.elim
structure Rel (N : Nat) (E0 : Env) (B0 : BL) (E : Env) (s : St) (a : Act) : Prop where
  tmps : ∀ d, Rp E (s.t.get d) (a.tmps.getD d undef)
  inv : Inv E s.b
  tn : ∀ d x, (s.t.get d).locs x → s.b.liveAt x
  sz : a.tmps.size = N
  df : DfRp E s.df a.defers
  dn : ∀ x, s.df.locs x → s.b.liveAt x
  post : Post E0 B0 E s.b (· < 10000)
theorem Rel.si {N : Nat} {E0 : Env} {B0 : BL} {E : Env} {s : St} {a : Act} (h : Rel N E0 B0 E s a) : SI E s a := ⟨h.tmps, h.inv.blk⟩
section
variable {N : Nat} {E0 : Env} {B0 : BL} {E : Env} {s : St} {a : Act} {P : Program}
theorem getD_set (l : Array Value) (d n : Nat) (v u : Value) (hd : d < l.size) : (l.setIfInBounds d v).getD n u = if d = n then v else l.getD n u := by
  rw [Array.getD_eq_getD_getElem?, Array.getD_eq_getD_getElem?, Array.getElem?_setIfInBounds]
  split
  · simp [hd]
  · rfl
/-- One step further: a value for a place. -/
theorem Rel.step (h : Rel N E0 B0 E s a) {E' : Env} {B' : BL} {D : Nat → Prop} (hpost : Post E s.b E' B' D) (hD : ∀ x, D x → x < 10000) (hsame : ∀ y, (∃ n, (s.t.get n).locs y) ∨ s.df.locs y → E'.ρ y = E.ρ y ∧ E'.rv y = E.rv y) (hinv : Inv E' B')
    {dst : Option Nat} {v : AV} {x : Value} (hN : ∀ d, dst = some d → d < N) (hv : Rp E' v x) (hl : ∀ y, v.locs y → B'.liveAt y) : Rel N E0 B0 E' ((⟨s.t, B', s.df⟩ : St).setO dst v) (a.put dst x) := by
  have hold : ∀ n, Rp E' (s.t.get n) (a.tmps.getD n undef) := fun n => (rp_mono hpost.le _ fun y hy => hsame y (.inl ⟨n, hy⟩)).1 _ (h.tmps n)
  have hdf := dfRp_mono hpost.le s.df (fun y hy => hsame y (.inr hy)) _ h.df
  have hp := h.post.trans hpost hD
  cases dst with
  | none => exact ⟨hold, hinv, fun n y hy => hpost.keep y (h.tn n y hy), h.sz, hdf, fun y hy => hpost.keep y (h.dn y hy), hp⟩
  | some d =>
    have hd := hN d rfl
    refine ⟨fun n => ?_, hinv, fun n y hy => ?_, ?_, hdf, fun y hy => hpost.keep y (h.dn y hy), hp⟩
    · show Rp E' ((AL.cons d v s.t).get n) ((a.tmps.setIfInBounds d x).getD n undef)
      rw [getD_set _ _ _ _ _ (by rw [h.sz]; exact hd)]
      unfold AL.get
      split
      · exact hv
      · exact hold n
    · change ((AL.cons d v s.t).get n).locs y at hy
      unfold AL.get at hy
      split at hy
      · exact hl y hy
      · exact hpost.keep y (h.tn n y hy)
    · show (a.tmps.setIfInBounds d x).size = N
      simpa using h.sz
/-- Nothing but a value. -/
theorem Rel.value (h : Rel N E0 B0 E s a) (hB0 : ∀ x, x < 10000 → ¬ B0.liveAt x) {dst : Option Nat} {v : AV} {x : Value} (hN : ∀ d, dst = some d → d < N) (hv : Rp E v x) (hl : ∀ y, v.locs y → s.b.liveAt y) :
    Rel N E0 B0 E (s.setO dst v) (a.put dst x) :=
  h.step (D := fun _ => False) (.refl _ _ _) (fun _ h => h.elim) (fun _ _ => ⟨rfl, rfl⟩) h.inv hN hv hl
theorem cells_sound {x c : AV} {v : Value} (h : Rp E x v) (hc : x.cells = some c) : ListC E c v.cells.toList ∧ (∀ u ∈ v.cells.toList, u.oneCell' = true) ∧ (∀ y, c.locs y ↔ x.locs y) := by
  have scals : ∀ (c : AV) (l : List Value), ListC E c l → c.scals = true → ∀ u ∈ l, u.oneCell' = true := by
    intro c
    induction c with
    | nil => intro l hl _; rw [listC_nil.1 hl]; simp
    | cons p q _ ih =>
      intro l hl hs
      obtain ⟨y, r, rfl, h1, h2⟩ := listC_cons.1 hl
      unfold AV.scals at hs
      split at hs
      · rename_i hp
        intro u hu
        rcases List.mem_cons.1 hu with rfl | hu
        · exact rp_scal h1 hp
        · exact ih r h2 hs u hu
      · cases hs
    | _ => intro l hl _; simp only [ListC] at hl
  unfold AV.cells at hc
  split at hc
  · split at hc
    · rename_i c' hs
      cases hc
      obtain ⟨l, rfl, hl⟩ := rp_agg.1 h
      exact ⟨by simpa [Value.cells] using hl, by simpa [Value.cells] using scals _ l hl hs, fun y => Iff.rfl⟩
    · cases hc
  · split at hc
    · rename_i hs
      cases hc
      have h1 := rp_scal h hs
      have : v.cells = #[v] := by cases v <;> simp [Value.oneCell', Value.cells] at h1 ⊢
      rw [this]
      refine ⟨listC_cons.2 ⟨v, [], rfl, h, listC_nil.2 rfl⟩, by simpa using h1, fun y => ?_⟩
      simp [AV.locs]
    · cases hc
theorem alloc_old (w : World) (o : Obj) {k : Nat} (h : k < w.heap.size) : (w.alloc o).heap[k]? = w.heap[k]? := by
  show (w.heap.push o)[k]? = _
  rw [Array.getElem?_push, if_neg (by omega)]
theorem alloc_new (w : World) (o : Obj) : (w.alloc o).heap[w.heap.size]? = some o := by
  show (w.heap.push o)[w.heap.size]? = _
  simp
theorem alloc_size (w : World) (o : Obj) : (w.alloc o).heap.size = w.heap.size + 1 := by
  show (w.heap.push o).size = _
  simp
/-- What a block reads as stays so. -/
theorem blk_mono {E E' : Env} (hle : E.Le E') {x : Nat} {b : Blk} (hb : BlkRp E x b) (hρ : E'.ρ x = E.ρ x) (hrv : E'.rv x = E.rv x) (hh : solid E x b → E'.w.heap[E.ρ x]? = E.w.heap[E.ρ x]?) (hl : ∀ y, b.locs y → E'.ρ y = E.ρ y ∧ E'.rv y = E.rv y) : BlkRp E' x b := by
  cases b with
  | no => trivial
  | cells c =>
    obtain ⟨l, e, h1, h2⟩ := hb
    exact ⟨l, e, by rw [hρ]; exact (hh trivial).trans h1, (rp_mono hle c hl).2.1 _ h2⟩
  | row sz n g =>
    rcases hb with ⟨h0, h1⟩ | ⟨cap, cur, e, h1, h2, h3, h4, h5, h6⟩
    · exact .inl ⟨by rw [hrv]; exact h0, h1⟩
    · have hs : solid E x (.row sz n g) := by show E.rv x ≠ _; rw [h1]; simp
      refine .inr ⟨cap, cur, e, by rw [hrv, hρ]; exact h1, by rw [hρ]; exact h2.of (hh hs), h3, h4, h5, fun i hi => ⟨(h6 i hi).1, (rp_mono hle _ fun y hy => ((AV.still_locs _).1 (h6 i hi).1.1 y hy).elim).2.1 _ (h6 i hi).2⟩⟩
theorem solid_same {E E' : Env} {x : Nat} {b : Blk} (hrv : E'.rv x = E.rv x) : solid E' x b ↔ solid E x b := by
  cases b with
  | row sz n g => show E'.rv x ≠ _ ↔ E.rv x ≠ _; rw [hrv]
  | _ => exact Iff.rfl
/-- A new block at place d. -/
theorem Rel.newBlk (h : Rel N E0 B0 E s a) (hB0 : ∀ x, x < 10000 → ¬ B0.liveAt x) {d : Nat} (hN : d < N) (hd : ¬ s.b.liveAt d) (hlt : d < 10000) (l : List Value) (e : TypeId) (rv : Value) (b : Blk) (v : AV) (x : Value)
    (hbl : b.live = true) (hloc : ∀ y, b.locs y → s.b.liveAt y) (hvl : ∀ y, v.locs y → y = d)
    (hE : ∀ E' : Env, E'.w = E.w.alloc (.cells l.toArray e) → E.Le E' → E'.ρ d = E.w.heap.size → E'.rv d = rv → (∀ y, s.b.liveAt y → E'.ρ y = E.ρ y ∧ E'.rv y = E.rv y) → BlkRp E' d b ∧ Rp E' v x) :
    ∃ E', E'.w = E.w.alloc (.cells l.toArray e) ∧ Rel N E0 B0 E' (s.new d v b) (a.put (some d) x) := by
  let E' : Env := ⟨fun x => if x = d then E.w.heap.size else E.ρ x, fun x => if x = d then rv else E.rv x, E.I, E.w.alloc (.cells l.toArray e)⟩
  have hle : E.Le E' := ⟨fun _ _ h => h, fun b o hi => World.cell?_alloc_lt _ _ _ (h.inv.ibd b o hi)⟩
  have hne : ∀ y, y ≠ d → E'.ρ y = E.ρ y ∧ E'.rv y = E.rv y := fun y hy => by simp [E', hy]
  have hsame : ∀ y, s.b.liveAt y → E'.ρ y = E.ρ y ∧ E'.rv y = E.rv y := fun y hy => hne y fun he => hd (he ▸ hy)
  have hdρ : E'.ρ d = E.w.heap.size := by simp [E']
  have hsz : E'.w.heap.size = E.w.heap.size + 1 := alloc_size _ _
  have hget : ∀ x, (BL.cons d b s.b).get x = if d = x then b else s.b.get x := fun x => BL.get_cons _ _ _ _
  have hlive : ∀ x, (BL.cons d b s.b).liveAt x ↔ (s.b.liveAt x ∨ x = d) := by
    intro x
    unfold BL.liveAt
    rw [hget]
    split
    · rename_i hx; subst hx; simp [hbl]
    · rename_i hx; simp [Ne.symm hx]
  have hsol : ∀ x, solidAt E' (BL.cons d b s.b) x → (solidAt E s.b x ∧ x ≠ d) ∨ x = d := by
    intro x hx
    by_cases hxd : x = d
    · exact .inr hxd
    · unfold solidAt at hx
      rw [hget, if_neg (Ne.symm hxd)] at hx
      exact .inl ⟨(solid_same (hne x hxd).2).1 hx, hxd⟩
  have hpost : Post E s.b E' (.cons d b s.b) (· = d) := by
    refine ⟨hle, fun x hx _ => hne x hx, fun x hx hr => by rw [hget, if_neg (Ne.symm hx)]; exact hr, rfl, rfl, rfl, by omega, fun b hb _ => alloc_old _ _ hb, fun x hx => (hlive x).1 hx, fun x hx => ?_, fun x hx => (hlive x).2 (.inl hx), fun _ _ h => .inl h⟩
    rcases hsol x hx with ⟨h1, h2⟩ | h1
    · exact .inl ⟨h1, (hne x h2).1⟩
    · subst h1; exact .inr (by rw [hdρ]; exact Nat.le_refl _)
  obtain ⟨hb1, hv1⟩ := hE E' rfl hle hdρ (by simp [E']) hsame
  refine ⟨E', rfl, h.step hpost (fun x hx => by rw [hx]; exact hlt) (fun y hy => hsame y (hy.elim (fun ⟨n, q⟩ => h.tn n y q) (h.dn y))) ⟨fun x => ?_, fun x y hx hy hxy => ?_, fun x hx => ?_, fun b o hb => ?_, fun x y hy => ?_⟩ (dst := some d) (v := v) (fun d' h => by cases h; exact hN) hv1 (fun y hy => (hlive y).2 (.inr (hvl y hy)))⟩
  · rw [hget]
    split
    · rename_i hx; subst hx; exact hb1
    · rename_i hx
      exact blk_mono hle (h.inv.blk x) (hne x (Ne.symm hx)).1 (hne x (Ne.symm hx)).2 (fun hs => alloc_old _ _ (h.inv.live x hs).1) fun y hy => hsame y (h.inv.nm x y hy)
  · rcases hsol x hx with ⟨h1, h2⟩ | h1 <;> rcases hsol y hy with ⟨h3, h4⟩ | h3
    · rw [(hne x h2).1, (hne y h4).1]; exact h.inv.dist x y h1 h3 hxy
    · rw [h3, (hne x h2).1, hdρ]; have := (h.inv.live x h1).1; omega
    · rw [h1, (hne y h4).1, hdρ]; have := (h.inv.live y h3).1; omega
    · exact (hxy (h1.trans h3.symm)).elim
  · rcases hsol x hx with ⟨h1, h2⟩ | h1
    · rw [(hne x h2).1]
      exact ⟨by have := (h.inv.live x h1).1; omega, (h.inv.live x h1).2⟩
    · rw [h1, hdρ]
      exact ⟨by omega, fun o ho => by have := h.inv.ibd _ _ ho; omega⟩
  · have := h.inv.ibd b o hb; omega
  · rw [hget] at hy
    split at hy
    · exact (hlive y).2 (.inl (hloc y hy))
    · exact (hlive y).2 (.inl (h.inv.nm x y hy))
/-- A new block at place d, in another memory. -/
theorem Rel.newBlkW (h : Rel N E0 B0 E s a) (hB0 : ∀ x, x < 10000 → ¬ B0.liveAt x) {d : Nat} (hN : d < N) (hd : ¬ s.b.liveAt d) (hlt : d < 10000) {w' : World} (k1 : w'.os = E.w.os) (k2 : w'.tape = E.w.tape) (k3 : w'.output = E.w.output) (k4 : w'.heap.size = E.w.heap.size + 1) (k5 : ∀ b, b < E.w.heap.size → w'.heap[b]? = E.w.heap[b]?) (rv : Value) (b : Blk) (v : AV) (x : Value)
    (hbl : b.live = true) (hloc : ∀ y, b.locs y → s.b.liveAt y) (hvl : ∀ y, v.locs y → y = d)
    (hE : ∀ E' : Env, E'.w = w' → E.Le E' → E'.ρ d = E.w.heap.size → E'.rv d = rv → (∀ y, s.b.liveAt y → E'.ρ y = E.ρ y ∧ E'.rv y = E.rv y) → BlkRp E' d b ∧ Rp E' v x) :
    ∃ E', E'.w = w' ∧ Rel N E0 B0 E' (s.new d v b) (a.put (some d) x) := by
  let E' : Env := ⟨fun x => if x = d then E.w.heap.size else E.ρ x, fun x => if x = d then rv else E.rv x, E.I, w'⟩
  have hle : E.Le E' := ⟨fun _ _ h => h, fun b o hi => by unfold World.cell?; rw [k5 b (h.inv.ibd b o hi)]⟩
  have hne : ∀ y, y ≠ d → E'.ρ y = E.ρ y ∧ E'.rv y = E.rv y := fun y hy => by simp [E', hy]
  have hsame : ∀ y, s.b.liveAt y → E'.ρ y = E.ρ y ∧ E'.rv y = E.rv y := fun y hy => hne y fun he => hd (he ▸ hy)
  have hdρ : E'.ρ d = E.w.heap.size := by simp [E']
  have hsz : E'.w.heap.size = E.w.heap.size + 1 := k4
  have hget : ∀ x, (BL.cons d b s.b).get x = if d = x then b else s.b.get x := fun x => BL.get_cons _ _ _ _
  have hlive : ∀ x, (BL.cons d b s.b).liveAt x ↔ (s.b.liveAt x ∨ x = d) := by
    intro x
    unfold BL.liveAt
    rw [hget]
    split
    · rename_i hx; subst hx; simp [hbl]
    · rename_i hx; simp [Ne.symm hx]
  have hsol : ∀ x, solidAt E' (BL.cons d b s.b) x → (solidAt E s.b x ∧ x ≠ d) ∨ x = d := by
    intro x hx
    by_cases hxd : x = d
    · exact .inr hxd
    · unfold solidAt at hx
      rw [hget, if_neg (Ne.symm hxd)] at hx
      exact .inl ⟨(solid_same (hne x hxd).2).1 hx, hxd⟩
  have hpost : Post E s.b E' (.cons d b s.b) (· = d) := by
    refine ⟨hle, fun x hx _ => hne x hx, fun x hx hr => by rw [hget, if_neg (Ne.symm hx)]; exact hr, k1, k2, k3, by omega, fun b hb _ => k5 b hb, fun x hx => (hlive x).1 hx, fun x hx => ?_, fun x hx => (hlive x).2 (.inl hx), fun _ _ h => .inl h⟩
    rcases hsol x hx with ⟨h1, h2⟩ | h1
    · exact .inl ⟨h1, (hne x h2).1⟩
    · subst h1; exact .inr (by rw [hdρ]; exact Nat.le_refl _)
  obtain ⟨hb1, hv1⟩ := hE E' rfl hle hdρ (by simp [E']) hsame
  refine ⟨E', rfl, h.step hpost (fun x hx => by rw [hx]; exact hlt) (fun y hy => hsame y (hy.elim (fun ⟨n, q⟩ => h.tn n y q) (h.dn y))) ⟨fun x => ?_, fun x y hx hy hxy => ?_, fun x hx => ?_, fun b o hb => ?_, fun x y hy => ?_⟩ (dst := some d) (v := v) (fun d' h => by cases h; exact hN) hv1 (fun y hy => (hlive y).2 (.inr (hvl y hy)))⟩
  · rw [hget]
    split
    · rename_i hx; subst hx; exact hb1
    · rename_i hx
      exact blk_mono hle (h.inv.blk x) (hne x (Ne.symm hx)).1 (hne x (Ne.symm hx)).2 (fun hs => k5 _ (h.inv.live x hs).1) fun y hy => hsame y (h.inv.nm x y hy)
  · rcases hsol x hx with ⟨h1, h2⟩ | h1 <;> rcases hsol y hy with ⟨h3, h4⟩ | h3
    · rw [(hne x h2).1, (hne y h4).1]; exact h.inv.dist x y h1 h3 hxy
    · rw [h3, (hne x h2).1, hdρ]; have := (h.inv.live x h1).1; omega
    · rw [h1, (hne y h4).1, hdρ]; have := (h.inv.live y h3).1; omega
    · exact (hxy (h1.trans h3.symm)).elim
  · rcases hsol x hx with ⟨h1, h2⟩ | h1
    · rw [(hne x h2).1]
      exact ⟨by have := (h.inv.live x h1).1; omega, (h.inv.live x h1).2⟩
    · rw [h1, hdρ]
      exact ⟨by omega, fun o ho => by have := h.inv.ibd _ _ ho; omega⟩
  · have := h.inv.ibd b o hb; omega
  · rw [hget] at hy
    split at hy
    · exact (hlive y).2 (.inl (hloc y hy))
    · exact (hlive y).2 (.inl (h.inv.nm x y hy))
/-- A new block of cells at place d. -/
theorem Rel.alloc (h : Rel N E0 B0 E s a) (hB0 : ∀ x, x < 10000 → ¬ B0.liveAt x) {d : Nat} (hN : d < N) (hd : ¬ s.b.liveAt d) (hlt : d < 10000) {c : AV} {l : List Value} (hc : ListC E c l) (hcl : ∀ y, c.locs y → s.b.liveAt y) (e : TypeId) :
    ∃ E', E'.w = E.w.alloc (.cells l.toArray e) ∧ Rel N E0 B0 E' (s.new d (.ptr d 0) (.cells c)) (a.put (some d) (.pointer (some ⟨E.w.heap.size, 0, none⟩))) :=
  h.newBlk hB0 hN hd hlt l e undef (.cells c) (.ptr d 0) _ rfl hcl (fun y hy => hy) fun E' hw hle hρ _ hs =>
    ⟨⟨l, e, by rw [hρ, hw]; exact alloc_new _ _, (rp_mono hle c fun y hy => hs y (hcl y hy)).2.1 _ hc⟩, by simp [Rp, hρ]⟩
/-- The cells of a live block are other ones. -/
theorem Rel.setBlk (h : Rel N E0 B0 E s a) (hB0 : ∀ x, x < 10000 → ¬ B0.liveAt x) {d : Nat} (hd : solidAt E s.b d) (l' : List Value) (b : Blk) (hbl : b.live = true) (hbr : b.isRow = (s.b.get d).isRow) (hloc : ∀ y, b.locs y → s.b.liveAt y)
    (hE : ∀ E' : Env, E'.w = E.w.setRow (E.ρ d) l'.toArray → E'.ρ = E.ρ → E'.rv = E.rv → E.Le E' → BlkRp E' d b) :
    ∃ E', E'.w = E.w.setRow (E.ρ d) l'.toArray ∧ Rel N E0 B0 E' (s.put d b) a := by
  let E' : Env := ⟨E.ρ, E.rv, E.I, E.w.setRow (E.ρ d) l'.toArray⟩
  have hsz : E'.w.heap.size = E.w.heap.size := by simp [E', World.setRow]
  have hle : E.Le E' := ⟨fun _ _ h => h, fun b o hi => by
    refine cell_setRow_other _ _ _ _ fun he => ?_
    simp only at he
    exact (h.inv.live d hd).2 o (he ▸ hi)⟩
  have hget : ∀ x, (BL.cons d b s.b).get x = if d = x then b else s.b.get x := fun x => BL.get_cons _ _ _ _
  have hlive : ∀ x, (BL.cons d b s.b).liveAt x ↔ s.b.liveAt x := by
    intro x
    unfold BL.liveAt
    rw [hget]
    split
    · rename_i hx; subst hx; simp [hbl]; exact solid_live hd
    · rfl
  have hsol : ∀ x, solidAt E' (BL.cons d b s.b) x → solidAt E s.b x := by
    intro x hx
    by_cases hxd : d = x
    · subst hxd; exact hd
    · unfold solidAt at hx
      rw [hget, if_neg hxd] at hx
      exact (solid_same rfl).1 hx
  have hpost : Post E s.b E' (.cons d b s.b) (fun _ => False) := by
    refine ⟨hle, fun _ _ _ => ⟨rfl, rfl⟩, fun x _ hr => ?_, rfl, rfl, rfl, by omega, fun k hk hn => setRow_other _ _ _ _ fun he => hn d hd he.symm, fun x hx => .inl ((hlive x).1 hx), fun x hx => .inl ⟨hsol x hx, rfl⟩, fun x hx => (hlive x).2 hx, fun _ _ h => .inl h⟩
    rw [hget]
    split
    · rename_i hx; subst hx; rw [hbr]; exact hr
    · exact hr
  have hb1 := hE E' rfl rfl rfl hle
  refine ⟨E', rfl, h.step (a := a) hpost (fun _ h => h.elim) (fun _ _ => ⟨rfl, rfl⟩) (dst := none) (v := .any) (x := undef) ⟨fun x => ?_, fun x y hx hy hne => h.inv.dist x y (hsol x hx) (hsol y hy) hne, fun x hx => ?_, fun b o hb => by have := h.inv.ibd b o hb; omega, fun x y hy => ?_⟩ (fun _ h => by cases h) trivial (fun y hy => hy.elim)⟩
  · rw [hget]
    split
    · rename_i hx; subst hx; exact hb1
    · rename_i hx
      exact blk_mono hle (h.inv.blk x) rfl rfl (fun hs => setRow_other _ _ _ _ (h.inv.dist x d hs hd (Ne.symm hx))) fun _ _ => ⟨rfl, rfl⟩
  · have := h.inv.live x (hsol x hx)
    exact ⟨by rw [hsz]; exact this.1, this.2⟩
  · rw [hget] at hy
    split at hy
    · exact (hlive y).2 (hloc y hy)
    · exact (hlive y).2 (h.inv.nm x y hy)
theorem listC_app {c d : AV} : ∀ {l m : List Value}, ListC E c l → ListC E d m → ListC E (c.app d) (l ++ m) := by
  induction c with
  | nil => intro l m h1 h2; rw [listC_nil.1 h1]; exact h2
  | cons p q _ ih =>
    intro l m h1 h2
    obtain ⟨x, r, rfl, h3, h4⟩ := listC_cons.1 h1
    exact listC_cons.2 ⟨x, r ++ m, rfl, h3, ih h4 h2⟩
  | _ => intro l m h1 _; simp only [ListC] at h1
theorem app_locs {c d : AV} {y : Nat} : (c.app d).locs y → c.locs y ∨ d.locs y := by
  induction c with
  | cons p q _ ih => intro h; rcases h with h | h; exact .inl (.inl h); exact (ih h).imp .inr id
  | _ => exact .inr
theorem listC_len {c : AV} : ∀ {l : List Value}, ListC E c l → l.length = c.len := by
  induction c with
  | nil => intro l h; rw [listC_nil.1 h]; rfl
  | cons p q _ ih => intro l h; obtain ⟨x, r, rfl, _, h4⟩ := listC_cons.1 h; simp [AV.len, ih h4]
  | _ => intro l h; simp only [ListC] at h
theorem over_sound : ∀ (c : AV) (n : Nat) (y r : AV) (l m : List Value), ListC E c l → ListC E y m → c.over n y = some r →
    n + m.length ≤ l.length ∧ ListC E r (l.take n ++ m ++ l.drop (n + m.length)) ∧ (∀ z, r.locs z → c.locs z ∨ y.locs z) := by
  intro c
  induction c with
  | cons p q _ ih =>
    intro n y r l m h1 h2 h
    obtain ⟨x, l, rfl, h3, h4⟩ := listC_cons.1 h1
    cases n with
    | succ n =>
      simp only [AV.over] at h
      split at h
      · rename_i r' hr
        cases h
        obtain ⟨h5, h6, h7⟩ := ih n y r' l m h4 h2 hr
        refine ⟨by simp; omega, ?_, fun z hz => ?_⟩
        · have : (x :: l).drop (n + 1 + m.length) = l.drop (n + m.length) := by rw [show n + 1 + m.length = (n + m.length) + 1 by omega]; rfl
          rw [this]
          exact listC_cons.2 ⟨x, _, by simp, h3, h6⟩
        · rcases hz with hz | hz
          · exact .inl (.inl hz)
          · exact (h7 z hz).imp .inr id
      · cases h
    | zero =>
      cases y with
      | nil =>
        simp only [AV.over, Option.some.injEq] at h
        subst h
        rw [listC_nil.1 h2]
        exact ⟨by simp, by simpa using h1, fun z hz => .inl hz⟩
      | cons u y =>
        obtain ⟨xu, m, rfl, h8, h9⟩ := listC_cons.1 h2
        simp only [AV.over] at h
        split at h
        · rename_i r' hr
          cases h
          obtain ⟨h5, h6, h7⟩ := ih 0 y r' l m h4 h9 hr
          refine ⟨by simp at h5 ⊢; omega, ?_, fun z hz => ?_⟩
          · simp only [Nat.zero_add, List.take_zero, List.nil_append, List.length_cons, List.drop_succ_cons] at h6 ⊢
            exact listC_cons.2 ⟨xu, _, by simp, h8, h6⟩
          · rcases hz with hz | hz
            · exact .inr (.inl hz)
            · exact (h7 z hz).imp .inr .inr
        · cases h
      | _ => simp only [ListC] at h2
  | nil =>
    intro n y r l m h1 h2 h
    cases n with
    | succ n => simp [AV.over] at h
    | zero =>
      cases y with
      | nil =>
        simp only [AV.over, Option.some.injEq] at h
        subst h
        rw [listC_nil.1 h2]
        exact ⟨by simp, by simpa using h1, fun z hz => .inl hz⟩
      | cons u y => simp [AV.over] at h
      | _ => simp only [ListC] at h2
  | _ => intro n y r l m h1; simp only [ListC] at h1
theorem rp_fz {d : Nat} {y : AV} (hy : ∀ v, Rp E (.row d) v → Rp E y v) (x : AV) : (∀ v, Rp E x v → Rp E (x.fz d y) v) ∧ (∀ l, ListC E x l → ListC E (x.fz d y) l) ∧ (∀ b o, MemC E x b o → MemC E (x.fz d y) b o) := by
  induction x with
  | row x =>
    refine ⟨fun v hv => ?_, fun _ h => h.elim, fun _ _ h => h.elim⟩
    unfold AV.fz
    split
    · rename_i h; have : x = d := by simpa using h
      subst this; exact hy v hv
    · exact hv
  | ptr x o => refine ⟨fun v hv => ?_, fun _ h => h.elim, fun _ _ h => h.elim⟩; unfold AV.fz; split; exact trivial; exact hv
  | rptr x s i o => refine ⟨fun v hv => ?_, fun _ h => h.elim, fun _ _ h => h.elim⟩; unfold AV.fz; split; exact trivial; exact hv
  | win x s i o => refine ⟨fun v hv => ?_, fun _ h => h.elim, fun _ _ h => h.elim⟩; unfold AV.fz; split; exact trivial; exact hv
  | iptr c ih =>
    refine ⟨fun v hv => ?_, fun _ h => h.elim, fun _ _ h => h.elim⟩
    obtain ⟨b, o, h1, h2⟩ := hv
    exact ⟨b, o, h1, ih.2.2 _ _ h2⟩
  | fn f a b iha ihb =>
    refine ⟨fun v hv => ?_, fun _ h => h.elim, fun _ _ h => h.elim⟩
    obtain ⟨l, m, h1, h2, h3⟩ := hv
    exact ⟨l, m, h1, iha.2.1 _ h2, ihb.2.1 _ h3⟩
  | ifc t v ih =>
    refine ⟨fun v hv => ?_, fun _ h => h.elim, fun _ _ h => h.elim⟩
    obtain ⟨z, h1, h2⟩ := hv
    exact ⟨z, h1, ih.1 _ h2⟩
  | agg c ih =>
    refine ⟨fun v hv => ?_, fun _ h => h.elim, fun _ _ h => h.elim⟩
    obtain ⟨l, h1, h2⟩ := hv
    exact ⟨l, h1, ih.2.1 _ h2⟩
  | tup c ih =>
    refine ⟨fun v hv => ?_, fun _ h => h.elim, fun _ _ h => h.elim⟩
    obtain ⟨l, h1, h2⟩ := hv
    exact ⟨l, h1, ih.2.1 _ h2⟩
  | cons a b iha ihb =>
    refine ⟨fun _ h => h.elim, fun l hv => ?_, fun b' o hv => ?_⟩
    · obtain ⟨x, r, h1, h2, h3⟩ := hv
      exact ⟨x, r, h1, iha.1 _ h2, ihb.2.1 _ h3⟩
    · obtain ⟨⟨v, h1, h2, h3⟩, h4⟩ := hv
      exact ⟨⟨v, h1, h2, iha.1 _ h3⟩, ihb.2.2 _ _ h4⟩
  | nil => exact ⟨fun _ h => h.elim, fun _ h => h, fun _ _ _ => trivial⟩
  | sl sz n g ih => exact ⟨fun _ h => h, fun _ h => h.elim, fun _ _ h => h.elim⟩
  | any => exact ⟨fun _ h => h, fun _ h => h.elim, fun _ _ h => h.elim⟩
  | int k n => exact ⟨fun _ h => h, fun _ h => h.elim, fun _ _ h => h.elim⟩
  | bool b => exact ⟨fun _ h => h, fun _ h => h.elim, fun _ _ h => h.elim⟩
  | tt => exact ⟨fun _ h => h, fun _ h => h.elim, fun _ _ h => h.elim⟩
  | ff => exact ⟨fun _ h => h, fun _ h => h.elim, fun _ _ h => h.elim⟩
  | str s => exact ⟨fun _ h => h, fun _ h => h.elim, fun _ _ h => h.elim⟩
  | nsl => exact ⟨fun _ h => h, fun _ h => h.elim, fun _ _ h => h.elim⟩
  | nptr => exact ⟨fun _ h => h, fun _ h => h.elim, fun _ _ h => h.elim⟩
  | nfn => exact ⟨fun _ h => h, fun _ h => h.elim, fun _ _ h => h.elim⟩
  | nif => exact ⟨fun _ h => h, fun _ h => h.elim, fun _ _ h => h.elim⟩
theorem fz_locs {d : Nat} {y : AV} (hy : ∀ z, ¬ y.locs z) (x : AV) (z : Nat) : (x.fz d y).locs z → x.locs z ∧ z ≠ d := by
  have key : ∀ {a b : Nat}, (a == b) = false → a ≠ b := fun h => by simpa using h
  induction x with
  | row x => intro h; unfold AV.fz at h; split at h
             · exact (hy z h).elim
             · rename_i hx; exact ⟨h, by rw [show z = x from h]; exact key hx⟩
  | ptr x o => intro h; unfold AV.fz at h; split at h
               · exact h.elim
               · rename_i hx; exact ⟨h, by rw [show z = x from h]; exact key hx⟩
  | rptr x s i o => intro h; unfold AV.fz at h; split at h
                    · exact h.elim
                    · rename_i hx; exact ⟨h, by rw [show z = x from h]; exact key hx⟩
  | win x s i o => intro h; unfold AV.fz at h; split at h
                   · exact h.elim
                   · rename_i hx; exact ⟨h, by rw [show z = x from h]; exact key hx⟩
  | iptr c ih => exact ih
  | fn f a b iha ihb => intro h; rcases h with h | h; exact ⟨.inl (iha h).1, (iha h).2⟩; exact ⟨.inr (ihb h).1, (ihb h).2⟩
  | ifc t v ih => exact ih
  | agg c ih => exact ih
  | tup c ih => exact ih
  | cons a b iha ihb => intro h; rcases h with h | h; exact ⟨.inl (iha h).1, (iha h).2⟩; exact ⟨.inr (ihb h).1, (ihb h).2⟩
  | _ => intro h; exact h.elim
theorem al_fz {d : Nat} {y : AV} : ∀ (l : AL) (k : Nat), (l.fz d y).get k = (l.get k).fz d y
  | .nil, k => rfl
  | .cons k' v r, k => by
    show (AL.cons k' (v.fz d y) (r.fz d y)).get k = _
    rw [AL.get_cons, AL.get_cons]
    split
    · rfl
    · exact al_fz r k
theorem bl_fz {d : Nat} {y : AV} : ∀ (l : BL) (k : Nat), (l.fz d y).get k = (l.get k).fz d y
  | .nil, k => rfl
  | .cons k' v r, k => by
    show (BL.cons k' (v.fz d y) (r.fz d y)).get k = _
    rw [BL.get_cons, BL.get_cons]
    split
    · rfl
    · exact bl_fz r k
theorem df_fz {d : Nat} {y : AV} (hy : ∀ v, Rp E (.row d) v → Rp E y v) : (x : AV) → ∀ l, DfRp E x l → DfRp E (x.fz d y) l := by
  intro x
  induction x with
  | nil => intro l hl; exact hl
  | cons a b iha ihb =>
    intro l hl
    cases a with
    | fn f asL0 caps =>
      obtain ⟨x, z, t, h1, h2, h3, h4⟩ := hl
      exact ⟨x, z, t, h1, (rp_fz hy caps).2.1 _ h2, (rp_fz hy asL0).2.1 _ h3, ihb _ h4⟩
    | _ => exact hl.elim
  | _ => intro l hl; exact hl.elim
theorem blk_fz_live {d : Nat} {y : AV} (b : Blk) : (b.fz d y).live = b.live := by cases b <;> rfl
theorem memC_of_list' : ∀ (c : AV) (l : List Value) (b o : Nat), ListC E c l → (∀ j v, l[j]? = some v → E.w.cell? ⟨b, o + j, none⟩ = some v ∧ E.I b (o + j)) → MemC E c b o := by
  intro c
  induction c with
  | nil => intro l b o _ _; simp only [MemC]
  | cons p q _ ih =>
    intro l b o h hc
    obtain ⟨x, r, rfl, h1, h2⟩ := listC_cons.1 h
    simp only [MemC]
    refine ⟨⟨x, (hc 0 x rfl).1, (hc 0 x rfl).2, h1⟩, ih r b (o + 1) h2 fun j v hj => ?_⟩
    have := hc (j + 1) v (by simpa using hj)
    rw [show o + 1 + j = o + (j + 1) by omega]; exact this
  | _ => intro l b o h _; simp only [ListC] at h
theorem Rel.shut1v (h : Rel N E0 B0 E s a) (hB0 : ∀ x, x < 10000 → ¬ B0.liveAt x) (d : Nat) : ∃ E', E'.w = E.w ∧ E.Le E' ∧ E'.ρ = E.ρ ∧ E'.rv = E.rv ∧ Rel N E0 B0 E' (s.shut1 d) a ∧ ∀ sz n g, s.b.get d = .row sz n g → d < 10000 → ∀ v, Rp E (.row d) v → Rp E' (.sl sz n g) v := by
  unfold St.shut1
  split
  · rename_i sz n g hd hb
    have hd : d < 10000 := by simpa using hd
    have hdl : s.b.liveAt d := by simp [BL.liveAt, hb, Blk.live]
    have hbl := h.inv.blk d
    rw [hb] at hbl
    let E' : Env := ⟨E.ρ, E.rv, fun b o => E.I b o ∨ (solidAt E s.b d ∧ b = E.ρ d), E.w⟩
    have hle : E.Le E' := ⟨fun _ _ h => .inl h, fun _ _ _ => rfl⟩
    have mono : ∀ x : AV, (∀ v, Rp E x v → Rp E' x v) ∧ (∀ l, ListC E x l → ListC E' x l) ∧ (∀ b o, MemC E x b o → MemC E' x b o) := fun x => rp_mono hle x fun _ _ => ⟨rfl, rfl⟩
    have hy : ∀ v, Rp E' (.row d) v → Rp E' (.sl sz n g) v := by
      intro v hv
      rcases hbl with ⟨h1, h2⟩ | ⟨cap, cur, e, h1, h2, h3, h4, h5, h6⟩
      · exact ⟨none, 0, by rw [h2]; exact hv.1.trans h1, by rw [h2]; exact Nat.le_refl _, fun i hi => by rw [h2] at hi; exact absurd hi (Nat.not_lt_zero _)⟩
      · refine ⟨_, cap, hv.1.trans h1, h3, fun i hi => ⟨⟨(h6 i hi).1, by rw [listC_len' (h6 i hi).2]; exact row_elem h5 h3 hi⟩, E.ρ d, 0, rfl, ?_⟩⟩
        have hso : solidAt E s.b d := by unfold solidAt; rw [hb]; show E.rv d ≠ _; rw [h1]; simp
        refine memC_of_list' _ _ _ _ ((mono _).2.1 _ (h6 i hi).2) fun j u hj => ⟨?_, .inr ⟨hso, rfl⟩⟩
        show E.w.cell? _ = _
        rw [h2.cell]
        rw [List.getElem?_take] at hj
        split at hj
        · rw [List.getElem?_drop] at hj; rw [← hj]; congr 1; omega
        · cases hj
    have hyl : ∀ z, ¬ (AV.sl sz n g).locs z := fun z hz => hz
    have hget : ∀ x, (BL.cons d .no (s.b.fz d (.sl sz n g))).get x = if d = x then .no else (s.b.get x).fz d (.sl sz n g) := by
      intro x; rw [BL.get_cons, bl_fz]
    have hlive : ∀ x, (BL.cons d .no (s.b.fz d (.sl sz n g))).liveAt x ↔ (s.b.liveAt x ∧ x ≠ d) := by
      intro x
      unfold BL.liveAt
      rw [hget]
      split
      · rename_i hx; subst hx; simp [Blk.live]
      · rename_i hx; rw [blk_fz_live]; simp [Ne.symm hx]
    have hsol : ∀ x, solidAt E' (BL.cons d .no (s.b.fz d (.sl sz n g))) x → solidAt E s.b x ∧ x ≠ d := by
      intro x hx
      unfold solidAt at hx
      rw [hget] at hx
      split at hx
      · exact hx.elim
      · rename_i hne
        refine ⟨?_, Ne.symm hne⟩
        unfold solidAt
        cases hB : s.b.get x <;> rw [hB] at hx <;> exact hx
    refine ⟨E', rfl, hle, rfl, rfl, ⟨fun k => ?_, ⟨fun x => ?_, fun x x' hx hx' hne => h.inv.dist x x' (hsol x hx).1 (hsol x' hx').1 hne, fun x hx => ?_, fun b o hi => ?_, fun x z hz => ?_⟩, fun k z hz => ?_, h.sz, df_fz hy _ _ (dfRp_mono hle s.df (fun _ _ => ⟨rfl, rfl⟩) _ h.df), fun z hz => ?_, ?_⟩, fun sz' n' g' hb' _ v hv => by rw [hb] at hb'; cases hb'; exact hy v hv⟩
    · show Rp E' ((s.t.fz d (.sl sz n g)).get k) _
      rw [al_fz]
      exact (rp_fz hy _).1 _ ((mono _).1 _ (h.tmps k))
    · rw [hget]
      split
      · trivial
      · have hx := h.inv.blk x
        cases hB : s.b.get x with
        | no => trivial
        | cells c =>
          rw [hB] at hx
          obtain ⟨l, e', h7, h8⟩ := hx
          exact ⟨l, e', h7, (rp_fz hy c).2.1 _ ((mono c).2.1 _ h8)⟩
        | row sz' n' g' =>
          rw [hB] at hx
          rcases hx with hx | ⟨cap', cur', e', k1, k2, k3, k4, k5, k6⟩
          · exact .inl hx
          · exact .inr ⟨cap', cur', e', k1, k2, k3, k4, k5, fun i hi => ⟨(k6 i hi).1, (mono _).2.1 _ (k6 i hi).2⟩⟩
    · obtain ⟨hx, hne⟩ := hsol x hx
      refine ⟨(h.inv.live x hx).1, fun o ho => ?_⟩
      rcases ho with ho | ⟨hso, ho⟩
      · exact (h.inv.live x hx).2 o ho
      · exact h.inv.dist x d hx hso hne ho
    · rcases hi with hi | ⟨hso, hi⟩
      · exact h.inv.ibd b o hi
      · rw [hi]; exact (h.inv.live d hso).1
    · rw [hget] at hz
      split at hz
      · exact hz.elim
      · rename_i hx
        cases hB : s.b.get x with
        | cells c =>
          rw [hB] at hz
          obtain ⟨hz1, hz2⟩ := fz_locs hyl c z hz
          exact (hlive z).2 ⟨h.inv.nm x z (by rw [hB]; exact hz1), hz2⟩
        | no => rw [hB] at hz; exact hz.elim
        | row _ _ _ => rw [hB] at hz; exact hz.elim
    · change ((s.t.fz d (.sl sz n g)).get k).locs z at hz
      rw [al_fz] at hz
      obtain ⟨hz1, hz2⟩ := fz_locs hyl _ z hz
      exact (hlive z).2 ⟨h.tn k z hz1, hz2⟩
    · obtain ⟨hz1, hz2⟩ := fz_locs hyl _ z hz
      exact (hlive z).2 ⟨h.dn z hz1, hz2⟩
    · have hp := h.post
      refine ⟨hp.le.trans hle, hp.same, fun x hx hr => ?_, hp.os, hp.tape, hp.output, hp.size, hp.old, fun x hx => hp.dom x ((hlive x).1 hx).1, fun x hx => hp.new x (hsol x hx).1, fun x hx => (hlive x).2 ⟨hp.keep x hx, fun he => hB0 x (he ▸ hd) hx⟩, fun b o hi => ?_⟩
      · have h7 := hp.kind x hx hr
        rw [hget]
        split
        · rfl
        · cases hB : s.b.get x <;> rw [hB] at h7 <;> first | rfl | cases h7
      · rcases hi with hi | ⟨hso, hi⟩
        · exact hp.imm b o hi
        · rcases hp.new d hso with h7 | h7
          · exact (hB0 d hd (solid_live h7.1)).elim
          · exact .inr (by rw [hi]; exact h7)
  · rename_i hx; exact ⟨E, rfl, .refl E, rfl, rfl, h, fun sz n g hb hd => (hx sz n g (by simpa using hd) hb).elim⟩
theorem Rel.shut1 (h : Rel N E0 B0 E s a) (hB0 : ∀ x, x < 10000 → ¬ B0.liveAt x) (d : Nat) : ∃ E', E'.w = E.w ∧ E.Le E' ∧ E'.ρ = E.ρ ∧ E'.rv = E.rv ∧ Rel N E0 B0 E' (s.shut1 d) a :=
  have ⟨E', h1, h2, h3, h4, h5, _⟩ := h.shut1v hB0 d
  ⟨E', h1, h2, h3, h4, h5⟩
theorem Rel.shutL (hB0 : ∀ x, x < 10000 → ¬ B0.liveAt x) : ∀ (l : List Nat) {E : Env} {s : St}, Rel N E0 B0 E s a → ∃ E', E'.w = E.w ∧ E.Le E' ∧ E'.ρ = E.ρ ∧ E'.rv = E.rv ∧ Rel N E0 B0 E' (s.shutL l) a
  | [], E, s, h => ⟨E, rfl, .refl E, rfl, rfl, h⟩
  | d :: r, E, s, h => by
    obtain ⟨E1, h1, h2, h3, h4, h5⟩ := h.shut1 hB0 d
    obtain ⟨E2, k1, k2, k3, k4, k5⟩ := Rel.shutL hB0 r h5
    exact ⟨E2, k1.trans h1, h2.trans k2, k3.trans h3, k4.trans h4, k5⟩
end
end Go.Proofs.YtkklflpfklbbcaaDoor.Sx
/- A symbolic executor for the model's code: every operation does as the model does. -/
namespace Go.Proofs.YtkklflpfklbbcaaDoor.Sx
open Go
set_option linter.unusedSimpArgs false
set_option linter.unusedVariables false
section
variable {E : Env} {s : St} {a : Act} {P : Program}
/-- Resolved parts of a struct, or of a row: place, size, operand. -/
def rParts (place : Nat → Option (Nat × Nat)) : List (Nat × Operand) → Option (List (Nat × Nat × Opd))
  | [] => some []
  | (i, x) :: r => match place i, rOpd x, rParts place r with
    | some (o, n), some x, some q => some ((o, n, x) :: q)
    | _, _, _ => none
theorem zipIdx_fold (l : List Value) : ∀ (off k : Nat) (cs : Array Value), off + k + l.length ≤ cs.size →
    ((l.zipIdx k).foldl (fun (cs : Array Value) (p : Value × Nat) => cs.setIfInBounds (off + p.2) p.1) cs).toList = cs.toList.take (off + k) ++ l ++ cs.toList.drop (off + k + l.length) := by
  induction l with
  | nil => intro off k cs _; simp
  | cons v r ih =>
    intro off k cs h
    simp only [List.length_cons] at h
    simp only [List.zipIdx_cons, List.foldl_cons]
    rw [ih off (k + 1) _ (by simp; omega)]
    have e := list_seg_step cs.toList (off + k) v r (by simp; omega)
    simpa [Array.toList_setIfInBounds, Nat.add_assoc, Nat.add_comm, Nat.add_left_comm] using e
theorem fill_sound (hS : SI E s a) {place : Nat → Option (Nat × Nat)} : ∀ (ps : List (Nat × Operand)) (qs : List (Nat × Nat × Opd)) (z c : AV) (cs : Array Value), rParts place ps = some qs → ListC E z cs.toList → fillc s z qs = some c →
    ∃ cs', Instr.fill place cs (ps.map fun p => (p.1, a.eval p.2)) = some cs' ∧ ListC E c cs'.toList ∧ (∀ y, c.locs y → z.locs y ∨ ∃ x ∈ qs, (x.2.2.ev s).locs y)
  | [], qs, z, c, cs, h, hz, hf => by
    cases h
    cases hf
    exact ⟨cs, rfl, hz, fun y hy => .inl hy⟩
  | (i, x) :: r, qs, z, c, cs, h, hz, hf => by
    unfold rParts at h
    split at h
    · rename_i o n x' q hp hx hq
      cases h
      unfold fillc at hf
      split at hf
      · rename_i vc hvc
        split at hf
        · rename_i hlen
          split at hf
          · rename_i z' hov
            obtain ⟨h1, _, h3⟩ := cells_sound (opd_sound hS hx) hvc
            obtain ⟨h4, h5, h6⟩ := over_sound z o vc z' _ _ hz h1 hov
            have hl1 := listC_len h1
            have hn : (a.eval x).cells.size = n := by
              have : vc.len = n := by simpa using hlen
              rw [← this, ← hl1]; simp
            have hfold := zipIdx_fold (a.eval x).cells.toList o 0 cs (by simpa using h4)
            simp only [Nat.add_zero] at hfold
            obtain ⟨cs', h7, h8, h9⟩ := fill_sound hS r q z' c (((a.eval x).cells.toList.zipIdx 0).foldl (fun (cs : Array Value) (p : Value × Nat) => cs.setIfInBounds (o + p.2) p.1) cs) hq (by rw [hfold]; exact h5) hf
            refine ⟨cs', ?_, h8, fun y hy => ?_⟩
            · rw [← h7]
              simp only [List.map_cons, Instr.fill, hp]
              rw [if_neg (by simp [hn]; simp at h4; omega)]
              congr 1
              rw [← Array.foldl_toList]
              simp
            · rcases h9 y hy with h | ⟨w, hw, hwl⟩
              · rcases h6 y h with h | h
                · exact .inl h
                · exact .inr ⟨(o, n, x'), by simp, (h3 y).1 h⟩
              · exact .inr ⟨w, by simp [hw], hwl⟩
          · cases hf
        · cases hf
      · cases hf
    · cases h
theorem opd_locs {N : Nat} {E0 : Env} {B0 : BL} (h : Rel N E0 B0 E s a) {x : Operand} {y : Opd} (hx : rOpd x = some y) {z : Nat} (hz : (y.ev s).locs z) : s.b.liveAt z := by
  unfold rOpd at hx
  split at hx
  · cases hx; exact h.tn _ _ hz
  · rename_i v
    cases hc : cval v with
    | none => simp [hc] at hx
    | some c => simp [hc] at hx; subst hx; exact ((AV.still_locs _).1 (cval_sound (E := E) hc).2 z hz).elim
  · cases hx; simp [Opd.ev, AV.locs] at hz
  · cases hx
theorem opds_locs {N : Nat} {E0 : Env} {B0 : BL} (h : Rel N E0 B0 E s a) {z : Nat} : ∀ (l : List Operand) (m : List Opd), rOpds l = some m → (chain (evs s m)).locs z → s.b.liveAt z
  | [], m, hm, hz => by cases hm; exact hz.elim
  | x :: r, m, hm, hz => by
    unfold rOpds at hm
    split at hm
    · rename_i y q hy hq
      cases hm
      rcases hz with hz | hz
      · exact opd_locs h hy hz
      · exact opds_locs h r q hq hz
    · cases hm
theorem parts_locs {N : Nat} {E0 : Env} {B0 : BL} (h : Rel N E0 B0 E s a) {place : Nat → Option (Nat × Nat)} : ∀ (ps : List (Nat × Operand)) (qs : List (Nat × Nat × Opd)), rParts place ps = some qs → ∀ x ∈ qs, ∀ z, (x.2.2.ev s).locs z → s.b.liveAt z
  | [], qs, hq, x, hx, z, hz => by cases hq; simp at hx
  | (i, y) :: r, qs, hq, x, hx, z, hz => by
    unfold rParts at hq
    split at hq
    · rename_i o n x' q hp hy hq'
      cases hq
      rcases List.mem_cons.1 hx with rfl | hx
      · exact opd_locs h hy hz
      · exact parts_locs h r q hq' x hx z hz
    · cases hq
theorem nth_locs : ∀ (n : Nat) (c x : AV), c.nth n = some x → ∀ y, x.locs y → c.locs y
  | 0, .cons a t, x, h, y, hy => by simp only [AV.nth, Option.some.injEq] at h; subst h; exact .inl hy
  | n + 1, .cons a t, x, h, y, hy => .inr (nth_locs n t x h y hy)
  | n, .nil, x, h, y, hy | n, .any, x, h, y, hy | n, .int _ _, x, h, y, hy | n, .bool _, x, h, y, hy | n, .tt, x, h, y, hy | n, .ff, x, h, y, hy | n, .str _, x, h, y, hy | n, .sl _ _ _, x, h, y, hy | n, .nsl, x, h, y, hy
  | n, .row _, x, h, y, hy | n, .ptr _ _, x, h, y, hy | n, .iptr _, x, h, y, hy | n, .rptr _ _ _ _, x, h, y, hy | n, .win _ _ _ _, x, h, y, hy | n, .nptr, x, h, y, hy | n, .fn _ _ _, x, h, y, hy | n, .nfn, x, h, y, hy | n, .nif, x, h, y, hy
  | n, .ifc _ _, x, h, y, hy | n, .agg _, x, h, y, hy | n, .tup _, x, h, y, hy => by cases n <;> simp [AV.nth] at h
theorem drop_locs : ∀ (n : Nat) (c : AV) (y : Nat), (c.drop n).locs y → c.locs y
  | 0, c, y, h => by unfold AV.drop at h; exact h
  | n + 1, .cons a t, y, h => .inr (drop_locs n t y h)
  | n + 1, .nil, y, h | n + 1, .any, y, h | n + 1, .int _ _, y, h | n + 1, .bool _, y, h | n + 1, .tt, y, h | n + 1, .ff, y, h | n + 1, .str _, y, h | n + 1, .sl _ _ _, y, h | n + 1, .nsl, y, h
  | n + 1, .row _, y, h | n + 1, .ptr _ _, y, h | n + 1, .iptr _, y, h | n + 1, .rptr _ _ _ _, y, h | n + 1, .win _ _ _ _, y, h | n + 1, .nptr, y, h | n + 1, .fn _ _ _, y, h | n + 1, .nfn, y, h | n + 1, .nif, y, h
  | n + 1, .ifc _ _, y, h | n + 1, .agg _, y, h | n + 1, .tup _, y, h => h
theorem take_locs : ∀ (n : Nat) (c r : AV), c.take n = some r → ∀ y, r.locs y → c.locs y
  | 0, c, r, h, y, hy => by
    have : r = .nil := by cases c <;> simp [AV.take] at h <;> exact h.symm
    subst this; exact hy.elim
  | n + 1, .cons a t, r, h, y, hy => by
    simp only [AV.take] at h
    split at h
    · rename_i r' hr
      cases h
      rcases hy with hy | hy
      · exact .inl hy
      · exact .inr (take_locs n t r' hr y hy)
    · cases h
  | n + 1, .nil, r, h, y, hy | n + 1, .any, r, h, y, hy | n + 1, .int _ _, r, h, y, hy | n + 1, .bool _, r, h, y, hy | n + 1, .tt, r, h, y, hy | n + 1, .ff, r, h, y, hy | n + 1, .str _, r, h, y, hy | n + 1, .sl _ _ _, r, h, y, hy | n + 1, .nsl, r, h, y, hy
  | n + 1, .row _, r, h, y, hy | n + 1, .ptr _ _, r, h, y, hy | n + 1, .iptr _, r, h, y, hy | n + 1, .rptr _ _ _ _, r, h, y, hy | n + 1, .win _ _ _ _, r, h, y, hy | n + 1, .nptr, r, h, y, hy | n + 1, .fn _ _ _, r, h, y, hy | n + 1, .nfn, r, h, y, hy | n + 1, .nif, r, h, y, hy
  | n + 1, .ifc _ _, r, h, y, hy | n + 1, .agg _, r, h, y, hy | n + 1, .tup _, r, h, y, hy => by simp [AV.take] at h
theorem first_locs {c x : AV} (h : first c = some x) (y : Nat) (hy : x.locs y) : c.locs y := nth_locs 0 c x h y hy
theorem takeA_locs {n : Nat} {c x : AV} (h : takeA n c = some x) (y : Nat) (hy : x.locs y) : c.locs y := by
  unfold takeA at h
  split at h
  · rename_i r hr; cases h; exact take_locs n c r hr y hy
  · cases h
theorem aload_locs {N : Nat} {E0 : Env} {B0 : BL} (h : Rel N E0 B0 E s a) {f : AV → Option AV} (hf : ∀ c v, f c = some v → ∀ y, v.locs y → c.locs y) {x v : AV} (hx : ∀ y, x.locs y → s.b.liveAt y) (hg : (aload f s x).gives v) {z : Nat} (hz : v.locs z) : s.b.liveAt z := by
  unfold aload at hg
  split at hg
  · rename_i c
    rw [okO_gives] at hg
    exact hx z (hf c v hg z hz)
  · rename_i d o
    split at hg
    · rename_i c hb
      rw [okO_gives] at hg
      exact h.inv.nm d z (by rw [hb]; exact drop_locs o c z (hf _ v hg z hz))
    · exact (gives_bad.1 hg).elim
  · rename_i d sz i o
    split at hg
    · rename_i sz' n g hb
      split at hg
      · split at hg
        · rename_i u hu
          obtain ⟨rfl, hi⟩ := gives_cond.1 hg
          have hB := h.inv.blk d
          rw [hb] at hB
          rcases hB with ⟨_, h0⟩ | ⟨cap, cur, e, _, _, _, _, _, h6⟩
          · rw [h0] at hi; exact absurd hi (Nat.not_lt_zero _)
          have := (h6 (i .o) hi).1.1
          exact ((AV.still_locs _).1 this z (drop_locs o _ z (hf _ u hu z hz))).elim
        · exact (gives_bad.1 hg).elim
      · exact (gives_bad.1 hg).elim
    · exact (gives_bad.1 hg).elim
  · exact (gives_bad.1 hg).elim
theorem amms_locs {mx : Bool} {z : Nat} : ∀ (l : List AV) (x v : AV), amms mx x l = some v → v.locs z → x.locs z
  | [], x, v, h, hz => by cases h; exact hz
  | y :: l, x, v, h, hz => by
    unfold amms at h
    split at h
    · rename_i u hu
      have := amms_locs l u v h hz
      unfold amm at hu
      split at hu
      · cases hu; exact this.elim
      · cases hu
    · cases h
end
end Go.Proofs.YtkklflpfklbbcaaDoor.Sx
/- A symbolic executor for the model's code: every operation does as the model does, the second part. -/
namespace Go.Proofs.YtkklflpfklbbcaaDoor.Sx
open Go
set_option linter.unusedSimpArgs false
set_option linter.unusedVariables false
section
variable {N : Nat} {E0 : Env} {B0 : BL} {E : Env} {s : St} {a : Act} {P : Program} {v : AV}
theorem abinE_locs {e : Bool} {fit : Fit} {x y : AV} (hg : (abinE e fit x y).gives v) (z : Nat) : ¬ v.locs z := by
  have hN : ∀ {r : Option Bool}, (abinN e r).gives v → ¬ v.locs z := by
    intro r h
    unfold abinN at h
    split at h
    · rename_i r'
      rw [gives_ok] at h
      subst h
      cases r' <;> cases e <;> exact fun h => h
    · exact (gives_bad.1 h).elim
  have hA : ∀ {r : Option (Th Bool)}, (aeq e r).gives v → ¬ v.locs z := by
    intro r h
    obtain ⟨b, _, rfl⟩ := aeq_gives h
    exact fun h => h
  cases fit <;> simp only [abinE] at hg
  · exact (gives_bad.1 hg).elim
  · unfold abinB at hg
    split at hg
    · exact hA hg
    · exact (gives_bad.1 hg).elim
  · unfold abinA at hg
    split at hg
    · exact hA hg
    · exact (gives_bad.1 hg).elim
  · exact hN hg
  · exact hN hg
theorem abin_locs {op : BinOp} {fit : Fit} {x y : AV} (hg : (abin op fit x y).gives v) (z : Nat) : ¬ v.locs z := by
  unfold abin at hg
  split at hg
  · split at hg
    · unfold ashift at hg
      split at hg <;> simp only [gives_cond, gives_bad] at hg <;> (obtain ⟨rfl, _⟩ := hg; exact fun h => h)
    · split at hg
      · cases op <;> simp only [abinI, gives_ok, gives_cond, gives_bad] at hg <;> first | (obtain ⟨rfl, _⟩ := hg; exact fun h => h) | (subst hg; exact fun h => h)
      · exact (gives_bad.1 hg).elim
  · cases op <;> simp only [abinS, gives_ok, gives_cond, gives_bad] at hg <;> first | (obtain ⟨rfl, _⟩ := hg; exact fun h => h) | (subst hg; exact fun h => h)
  · split at hg
    · exact (gives_bad.1 hg).elim
    · exact abinE_locs hg z
theorem apick_locs {c x y : AV} (hg : (apick c x y).gives v) (z : Nat) (hz : v.locs z) : x.locs z ∨ y.locs z := by
  unfold apick at hg
  split at hg
  · rw [gives_ok] at hg; subst hg; exact .inl hz
  · rw [gives_ok] at hg; subst hg; exact .inr hz
  · unfold merge at hg
    split at hg
    · split at hg
      · rw [gives_ok] at hg; subst hg; exact hz.elim
      · exact (gives_bad.1 hg).elim
    · rw [gives_ok] at hg; subst hg; exact hz.elim
    · split at hg
      · rw [gives_ok] at hg; subst hg; exact hz.elim
      · exact (gives_bad.1 hg).elim
  · exact (gives_bad.1 hg).elim
theorem qev_locs (h : Rel N E0 B0 E s a) {op : Op} {ro : RO} (hr : rOp P op = some ro) (hg : (qev s ro).gives v) (z : Nat) (hz : v.locs z) : s.b.liveAt z := by
  unfold rOp at hr
  split at hr
  · obtain ⟨y, hy, rfl⟩ := opt_map hr
    simp only [qev, gives_ok] at hg
    subst hg
    exact opd_locs h hy hz
  · obtain ⟨y, hy, rfl⟩ := opt_map hr
    simp only [qev, gives_ok] at hg
    subst hg
    exact opd_locs h hy hz
  · split at hr
    · rename_i c' x' y' hc hx hy
      cases hr
      rcases apick_locs hg z hz with h1 | h1
      · exact opd_locs h hx h1
      · exact opd_locs h hy h1
    · cases hr
  · split at hr
    · cases hr
      exact (abin_locs hg z hz).elim
    · cases hr
  · obtain ⟨y, hy, rfl⟩ := opt_map hr
    simp only [qev] at hg
    unfold aun at hg
    split at hg <;> first | (rw [gives_ok] at hg; subst hg; exact hz.elim) | exact (gives_bad.1 hg).elim
  · split at hr
    · rename_i d inf x' hu hi hx
      cases hr
      split at hg
      · exact aload_locs h (fun c v hf => takeA_locs hf) (fun y hy => opd_locs h hx hy) hg hz
      · exact aload_locs h (fun c v hf => first_locs hf) (fun y hy => opd_locs h hx hy) hg hz
    · cases hr
  · split at hr
    · rename_i fs x' hu hx
      split at hr
      · split at hr
        · split at hr
          · cases hr
          · cases hr
            simp only [qev] at hg
            unfold afld at hg
            split at hg
            · rename_i he; rw [gives_ok] at hg; subst hg; exact opd_locs h hx (by rw [he]; exact hz)
            · rename_i c he; rw [gives_ok] at hg; subst hg; exact opd_locs h hx (by rw [he]; exact (drop_locs _ c z hz : c.locs z))
            · rename_i he; rw [gives_ok] at hg; subst hg; exact opd_locs h hx (by rw [he]; exact hz)
            · exact (gives_bad.1 hg).elim
        · cases hr
      · cases hr
    · cases hr
  · split at hr
    · rename_i fs x' hu hx
      split at hr
      · split at hr
        · cases hr
          split at hg
          · simp only [qev] at hg
            unfold afield at hg
            split at hg
            · rename_i c he; rw [okO_gives] at hg; exact opd_locs h hx (by rw [he]; exact (drop_locs _ c z (takeA_locs hg z hz) : c.locs z))
            · exact (gives_bad.1 hg).elim
          · simp only [qev] at hg
            unfold afield at hg
            split at hg
            · rename_i c he; rw [okO_gives] at hg; exact opd_locs h hx (by rw [he]; exact (drop_locs _ c z (first_locs hg z hz) : c.locs z))
            · exact (gives_bad.1 hg).elim
        · cases hr
      · cases hr
    · cases hr
  · split at hr
    · rename_i e x' i' hu hx hi
      split at hr
      · cases hr
        simp only [qev] at hg
        have hR := opd_sound h.si hx
        unfold aidx at hg
        split at hg
        · rename_i sz n g k j he1 he2
          split at hg
          · obtain ⟨rfl, h0, h1⟩ := gives_cond.1 hg
            simp only [zi] at h1
            rw [he1] at hR
            obtain ⟨_, _, _, _, h3⟩ := hR
            exact ((AV.still_locs _).1 (h3 (j .o).toNat (by omega)).1.1.1 z hz).elim
          · exact (gives_bad.1 hg).elim
        · rename_i d k j he1 he2
          split at hg
          · split at hg
            · obtain ⟨rfl, h0, h1⟩ := gives_cond.1 hg
              exact opd_locs h hx (by rw [he1]; exact hz)
            · exact (gives_bad.1 hg).elim
          · exact (gives_bad.1 hg).elim
        · rename_i d sz1 lo k j he1 he2
          split at hg
          · split at hg
            · obtain ⟨rfl, h0, h1⟩ := gives_cond.1 hg
              exact opd_locs h hx (by rw [he1]; exact hz)
            · exact (gives_bad.1 hg).elim
          · exact (gives_bad.1 hg).elim
        · exact (gives_bad.1 hg).elim
      · cases hr
    · rename_i len e x' i' hu hx hi
      split at hr
      · cases hr
        simp only [qev] at hg
        unfold aidxA at hg
        split at hg
        · rename_i d k j he1 he2
          split at hg
          · split at hg
            · obtain ⟨rfl, _⟩ := gives_cond.1 hg
              exact opd_locs h hx (by rw [he1]; exact hz)
            · exact (gives_bad.1 hg).elim
          · exact (gives_bad.1 hg).elim
        · rename_i d sz' i' off k j he1 he2
          split at hg
          · obtain ⟨rfl, _⟩ := gives_cond.1 hg
            exact opd_locs h hx (by rw [he1]; exact hz)
          · exact (gives_bad.1 hg).elim
        · exact (gives_bad.1 hg).elim
      · cases hr
    · cases hr
  · split at hr
    · cases hr
      simp only [qev] at hg
      unfold aidxS at hg
      split at hg
      · obtain ⟨rfl, _⟩ := gives_cond.1 hg; exact hz.elim
      · exact (gives_bad.1 hg).elim
    · cases hr
  · split at hr
    · cases hr
      simp only [qev] at hg
      unfold asliceS at hg
      split at hg
      · split at hg
        · obtain ⟨rfl, _⟩ := gives_cond.1 hg; exact hz.elim
        · exact (gives_bad.1 hg).elim
      · exact (gives_bad.1 hg).elim
    · rename_i e x' lo' hi' hu hx hl hh
      split at hr
      · cases hr
        simp only [qev] at hg
        unfold aslice at hg
        split at hg
        · split at hg
          · obtain ⟨rfl, _⟩ := gives_cond.1 hg; exact hz.elim
          · exact (gives_bad.1 hg).elim
        · rename_i d he
          split at hg
          · split at hg
            · obtain ⟨rfl, _⟩ := gives_cond.1 hg; exact opd_locs h hx (by rw [he]; exact hz)
            · exact (gives_bad.1 hg).elim
          · exact (gives_bad.1 hg).elim
        · exact (gives_bad.1 hg).elim
      · cases hr
    · cases hr
  · split at hr
    · rename_i p q hp hq
      cases hr
      simp only [qev, gives_ok] at hg
      subst hg
      rcases hz with hz | hz
      · exact opds_locs h _ _ hp hz
      · exact opds_locs h _ _ hq hz
    · cases hr
  · split at hr
    · cases hr
    · rename_i x' _ hx
      cases hr
      simp only [qev, gives_ok] at hg
      subst hg
      exact opd_locs h hx hz
    · cases hr
  · split at hr
    · cases hr
    · rename_i x' _ _ hx
      split at hr
      · split at hr
        · rename_i z' hcz
          cases hr
          simp only [qev] at hg
          have hs : ∀ y, ¬ z'.locs y := (AV.still_locs _).1 (cval_sound (E := E) hcz).2
          unfold aassert at hg
          split at hg
          · rename_i he
            split at hg
            · rw [gives_ok] at hg; subst hg
              rcases hz with hz | hz | hz
              · exact opd_locs h hx (by rw [he]; exact hz)
              · exact hz.elim
              · exact hz.elim
            · rw [gives_ok] at hg; subst hg
              rcases hz with hz | hz | hz
              · exact (hs z hz).elim
              · exact hz.elim
              · exact hz.elim
          · rw [gives_ok] at hg; subst hg
            rcases hz with hz | hz | hz
            · exact (hs z hz).elim
            · exact hz.elim
            · exact hz.elim
          · exact (gives_bad.1 hg).elim
        · cases hr
      · cases hr
    · cases hr
  · obtain ⟨y, hy, rfl⟩ := opt_map hr
    simp only [qev] at hg
    unfold aext at hg
    split at hg
    · rename_i c he
      rw [okO_gives] at hg
      exact opd_locs h hy (by rw [he]; exact nth_locs _ c v hg z hz)
    · exact (gives_bad.1 hg).elim
  · split at hr
    · cases hr
      simp only [qev] at hg
      unfold aconv at hg
      split at hg
      · rw [gives_ok] at hg; subst hg; exact hz.elim
      · exact (gives_bad.1 hg).elim
    · split at hr
      · cases hr
        simp only [qev] at hg
        unfold ab2s at hg
        split at hg
        · rw [gives_ok] at hg; subst hg; exact hz.elim
        · obtain ⟨rfl, _⟩ := gives_cond.1 hg; exact hz.elim
        · split at hg
          · obtain ⟨rfl, _⟩ := gives_cond.1 hg; exact hz.elim
          · exact (gives_bad.1 hg).elim
        · exact (gives_bad.1 hg).elim
      · cases hr
    · cases hr
  · split at hr
    · split at hr
      · cases hr
        simp only [qev] at hg
        unfold alenS at hg
        split at hg
        · rw [gives_ok] at hg; subst hg; exact hz.elim
        · exact (gives_bad.1 hg).elim
      · cases hr
        simp only [qev] at hg
        unfold alen at hg
        split at hg
        · rw [gives_ok] at hg; subst hg; exact hz.elim
        · rw [gives_ok] at hg; subst hg; exact hz.elim
        · split at hg
          · rw [gives_ok] at hg; subst hg; exact hz.elim
          · exact (gives_bad.1 hg).elim
        · split at hg
          · rw [gives_ok] at hg; subst hg; exact hz.elim
          · exact (gives_bad.1 hg).elim
        · exact (gives_bad.1 hg).elim
      · cases hr
    · cases hr
  · obtain ⟨y, hy, rfl⟩ := opt_map hr
    simp only [qev] at hg
    split at hg
    · exact (gives_bad.1 hg).elim
    · rename_i x r hxr
      rw [okO_gives] at hg
      exact opds_locs h _ _ hy (by rw [hxr]; exact .inl (amms_locs r x v hg hz))
  · obtain ⟨y, hy, rfl⟩ := opt_map hr
    simp only [qev] at hg
    split at hg
    · exact (gives_bad.1 hg).elim
    · rename_i x r hxr
      rw [okO_gives] at hg
      exact opds_locs h _ _ hy (by rw [hxr]; exact .inl (amms_locs r x v hg hz))
  · obtain ⟨y, hy, rfl⟩ := opt_map hr
    simp only [qev] at hg
    unfold achk at hg
    split at hg
    · rename_i he; rw [gives_ok] at hg; subst hg; exact opd_locs h hy (by rw [he]; exact hz)
    · rename_i he; rw [gives_ok] at hg; subst hg; exact opd_locs h hy (by rw [he]; exact hz)
    · rename_i he; rw [gives_ok] at hg; subst hg; exact opd_locs h hy (by rw [he]; exact hz)
    · exact (gives_bad.1 hg).elim
  · cases hr
def rCells (v : Value) : Option AV := match cval v with | some x => x.cells | none => none
def rBuild (z : Value) (place : Nat → Option (Nat × Nat)) (ps : Array (Nat × Operand)) : Option RO := match rCells z, rParts place ps.toList with
  | some c, some qs => some (.build c qs)
  | _, _ => none
/-- An operation, resolved. -/
def rOpX (P : Program) (o : Op) : Option RO :=
  match o with
  | .alloc t => match P.underlying t, P.info? t with
    | some (.array n e), some i => match i.zero, P.info? e with
      | some z, some ie => match rCells z with
        | some c => if c.len = n * ie.size ∧ n ≤ 2 ^ 24 then some (.allocR ie.size n c) else none
        | none => none
      | _, _ => none
    | _, some i => match i.zero with
      | some z => match rCells z with | some c => some (.alloc c) | none => none
      | none => none
    | _, none => none
  | .box _ x => (rOpd x).map .box
  | .build t ps => match P.info? t, P.underlying t with
    | some it, some (.array _ e) => match it.zero, P.info? e with
      | some z, some ie => rBuild z (fun i => some (i * ie.size, ie.size)) ps
      | _, _ => none
    | some it, some (.struct fields) => match it.zero, fields.toList.mapM (fun f => (P.info? f.type).map fun i => (f.offset, i.size)) with
      | some z, some places => rBuild z (places.toArray[·]?) ps
      | _, _ => none
    | _, _ => none
  | .buildSlice t n ps => match P.underlying t with
    | some (.slice e) => match P.info? e with
      | some i => match i.zero with
        | some z => match rCells z, rParts (fun j => some (j * i.size, i.size)) ps.toList with
          | some c, some qs => if (n * i.size ≤ 2 ^ 24 ∧ z.cells.size = i.size) ∧ ((n = 0 ∧ ps.size = 0) ∨ n * i.size ≠ 0) then some (.bslice i.size c n qs) else none
          | _, _ => none
        | none => none
      | none => none
    | _ => none
  | .store t x y => match P.info? t, rOpd x, rOpd y with
    | some i, some x, some y => some (.store i.size x y)
    | _, _, _ => none
  | .slice t x none none none => match P.underlying t with
    | some (.array n e) => match P.info? e, rOpd x with
      | some i, some x => if 0 < n then some (.sliceA i.size n x) else none
      | _, _ => none
    | _ => rOp P (.slice t x none none none)
  | .call { callee := .builtin .append, args := args, argTypes := ts } => match args.toList, ts.toList with
    | [x, y], [t, t'] => if t = t' then match P.underlying t with
      | some (.slice e) => match P.info? e with
        | some i => match i.zero, rOpd x, rOpd y with
          | some z, some x, some y => if z.cells.size = i.size ∧ 0 < i.bytes then some (.append i.size i.bytes x y) else none
          | _, _, _ => none
        | none => none
      | _ => none else match P.underlying t, P.underlying t' with
      | some (.slice e), some .string => match P.info? e with
        | some i => match i.zero, rOpd x, rOpd y with
          | some z, some x, some y => if z.cells.size = i.size ∧ 0 < i.bytes ∧ i.size = 1 ∧ i.bytes = 1 then some (.appS x y) else none
          | _, _, _ => none
        | none => none
      | _, _ => none
    | _, _ => none
  | .call { callee := .builtin .clear, args := args, argTypes := ts } => match args.toList, ts.toList with
    | [x], [t] => match P.underlying t with
      | some (.slice e) => match P.info? e with
        | some i => match i.zero, rOpd x with
          | some z, some x => match rCells z with
            | some c => if z.cells.size = i.size ∧ i.size ≠ 0 ∧ c.stillB = true ∧ c.scals = true then some (.clr i.size c x) else none
            | none => none
          | _, _ => none
        | none => none
      | _ => none
    | _, _ => none
  | .call { callee := .value (.func f), args := args, argTypes := _ } => if callable P f = true then (rOpds args.toList).map (.call f) else none
  | .call { callee := .value (.tmp t), args := args, argTypes := _ } => (rOpds args.toList).map (.callv (.tmp t))
  | .panic x => (rOpd x).map .panic
  | .defer { callee := .value x, args := args, argTypes := _ } => match rOpd x, rOpds args.toList with
    | some x, some q => some (.defer x q)
    | _, _ => none
  | .makeSlice t l c => match P.underlying t with
    | some (.slice e) => match P.info? e with
      | some i => match i.zero with
        | some z => match rCells z, rOpd l, rOpd c with
          | some cz, some l, some c => if z.cells.size = i.size ∧ (cz.stillB = true ∧ cz.scals = true) ∧ i.size ≠ 0 then some (.mks i.size i.bytes cz l c) else none
          | _, _, _ => none
        | none => none
      | none => none
    | _ => none
  | .binOp op t x y yt => match isEql op, P.underlying t, y with
    | some e, some (.slice _), .const (.slice none 0 0) => (rOpd x).map (.isNil e)
    | _, _, _ => rOp P (.binOp op t x y yt)
  | .convert src dst x => match P.underlying src, P.underlying dst with
    | some .string, some (.slice e) => if isU8 P e = true then (rOpd x).map .s2b else none
    | some (.slice _), some (.slice e) => if isU8 P e = true ∧ src = dst then (rOpd x).map .s2s else none
    | _, _ => rOp P (.convert src dst x)
  | o => rOp P o
theorem rep_sound (E : Env) {c : AV} {z : List Value} (h : ListC E c z) : ∀ n, ListC E (rep c n) (List.replicate n z).flatten
  | 0 => by simpa [rep] using listC_nil.2 rfl
  | n + 1 => by simpa [rep, List.replicate_succ] using listC_app h (rep_sound E h n)
theorem range_zero (z : Array Value) (n : Nat) (hz : z.size ≠ 0) : ((Array.range (n * z.size)).map (z[· % z.size]!)).toList = (List.replicate n z.toList).flatten := by
  apply List.ext_getElem?
  intro i
  rw [Array.toList_map, List.getElem?_map, Array.toList_range]
  rcases Nat.lt_or_ge i (n * z.size) with h | h
  · rw [List.getElem?_range h]
    simp only [Option.map_some]
    have hlt : i % z.size < z.size := Nat.mod_lt _ (by omega)
    induction n generalizing i with
    | zero => omega
    | succ n ih =>
      rw [List.replicate_succ, List.flatten_cons, List.getElem?_append]
      simp only [Array.length_toList]
      by_cases hi : i < z.size
      · rw [if_pos hi, Nat.mod_eq_of_lt hi, Array.getElem?_toList, getElem!_pos z i hi, Array.getElem?_eq_getElem hi]
      · rw [if_neg hi]
        have h2 : i - z.size < n * z.size := by rw [Nat.succ_mul] at h; omega
        rw [← ih (i - z.size) h2 (Nat.mod_lt _ (by omega))]
        congr 2
        rw [Nat.mod_eq_sub_mod (by omega)]
  · rw [List.getElem?_eq_none (by simpa using h), List.getElem?_eq_none]
    · rfl
    · simp [List.length_flatten]; omega
end
end Go.Proofs.YtkklflpfklbbcaaDoor.Sx
/- A symbolic executor for the model's code: what an append does to a row of one's own. -/
namespace Go.Proofs.YtkklflpfklbbcaaDoor.Sx
open Go
set_option linter.unusedSimpArgs false
set_option linter.unusedVariables false
theorem heap_drew (w : World) (o : Obj) (k : Nat) (h : k < w.heap.size) : (w.drew.alloc o).heap[k]? = w.heap[k]? := alloc_old w.drew o h
theorem heap_drew_new (w : World) (o : Obj) : (w.drew.alloc o).heap[w.heap.size]? = some o := alloc_new w.drew o
theorem size_drew (w : World) (o : Obj) : (w.drew.alloc o).heap.size = w.heap.size + 1 := alloc_size w.drew o
section
variable {P : Program} {w : World}
theorem run_append_row {t ty e : TypeId} {i : TypeInfo} {z : Value} (ht : P.underlying t = some (.slice e)) (hi : P.info? e = some i) (hz : i.zero = some z) (hzs : z.cells.size = i.size)
    {v : Value} {n : Nat} {xs : List Value} {b : Nat} (hv : RowOk w i.size v n xs b) (hxl : xs.length = n * i.size) {yv : Value} {m : Nat} {news : List Value} (hl : news.length = m * i.size)
    (hy : (∃ a c, yv = .slice (some a) m c ∧ ∀ j u, news[j]? = some u → w.cell? (a.add j) = some u) ∨ (m = 0 ∧ ∃ c, yv = .slice none 0 c)) (h1 : ∀ u ∈ news, u.oneCell' = true) (hbytes : (n + m) * i.bytes ≤ 140737488355328) (hb : 0 < i.bytes) :
    ∃ v' w' b', (Builtin.append_ #[t, t] ty #[v, yv]).run P w = .ok v' w' ∧ RowOk w' i.size v' (n + m) (xs ++ news) b' ∧ Grown w w' v b ∧ (v' ≠ nilV → (v ≠ nilV ∧ b' = b) ∨ (w.heap.size ≤ b' ∧ b' < w'.heap.size)) := by
  have hnm : n + m ≤ 140737488355328 := Nat.le_trans (Nat.le_mul_of_pos_right _ hb) hbytes
  have h63 : n + m ≤ maxLen := by unfold maxLen; omega
  have hlen : (xs ++ news).length = (n + m) * i.size := by rw [List.length_append, hxl, hl, Nat.add_mul]
  have grown : ∀ (old : Nat), old < n + m →
      RowOk (w.drew.alloc (.cells (xs.toArray ++ news.toArray ++ Builtin.zeroCells z.cells (grownCap w (n + m) old e - (n + m))) e)) i.size (.slice (some ⟨w.heap.size, 0, none⟩) (n + m) (grownCap w (n + m) old e)) (n + m) (xs ++ news) w.heap.size ∧
      Grown w (w.drew.alloc (.cells (xs.toArray ++ news.toArray ++ Builtin.zeroCells z.cells (grownCap w (n + m) old e - (n + m))) e)) v b := by
    intro old ho
    have hge := grownCap_ge w (n + m) old e
    have hcm : grownCap w (n + m) old e ≤ maxLen := grownCap_le_maxLen w (n + m) old e h63
    refine ⟨.inr ⟨_, (xs.toArray ++ news.toArray ++ Builtin.zeroCells z.cells (grownCap w (n + m) old e - (n + m))).toList, e, rfl, Hs.mk0 (by rw [heap_drew_new]), hge, hcm, ?_, ?_⟩, ⟨rfl, rfl, rfl, by rw [size_drew]; omega, fun k hk _ => heap_drew w _ k hk⟩⟩
    · simp only [Array.length_toList, Array.size_append, List.size_toArray, size_zeroCells, hzs, hxl, hl, ← Nat.add_mul]
      congr 1
      omega
    · simp only [Array.toList_append, List.append_assoc]
      rw [← List.append_assoc, ← hlen]
      exact List.take_left
  rcases hy with ⟨a, c, rfl, hcell⟩ | ⟨rfl, c, rfl⟩
  · rcases hv with ⟨rfl, rfl, rfl⟩ | ⟨cap, cur, e', rfl, hg, hnc, hcm, hcs, htake⟩
    · by_cases hm : m = 0
      · subst hm
        have hn : news = [] := List.eq_nil_of_length_eq_zero (by simpa using hl)
        subst hn
        refine ⟨nilV, w, b, ?_, .inl ⟨rfl, rfl, rfl⟩, ⟨rfl, rfl, rfl, Nat.le_refl _, fun _ _ _ => rfl⟩, fun h => (h rfl).elim⟩
        simp [nilV, Builtin.append_, run_underlying ht, sizeOf, typeInfo, hi, Builtin.lenOf, Builtin.firstCells, loadCells, loadCellsFrom]
      · have hr := run_append_nil (P := P) w t ty e i z ht hi hz a m c news hl hcell (by omega) (by omega) (by simp only [Nat.zero_add] at hbytes; omega)
        have hgr := grown 0 (by omega)
        simp only [Nat.zero_add, List.nil_append, Array.empty_append] at hgr ⊢
        exact ⟨_, _, _, hr, hgr.1, hgr.2, fun _ => .inr ⟨Nat.le_refl _, by rw [size_drew]; omega⟩⟩
    · have hvn : (Value.slice (some ⟨b, 0, none⟩) n cap) ≠ nilV := by simp [nilV]
      by_cases hroom : n + m ≤ cap
      · have hfit : n * i.size + news.length ≤ cur.toArray.size := by rw [hl, List.size_toArray, hcs, ← Nat.add_mul]; exact Nat.mul_le_mul_right _ hroom
        have hf := run_firstCells_some (P := P) w i.size m a m c news hl hcell
        obtain ⟨fr, hgh, hsoft⟩ := hg.ex
        have hst := run_storeCells_soft P b (n * i.size) e' fr news 0 cur.toArray w hgh (by simpa using hsoft.to0) (by simpa using hfit) h1
        simp only [Nat.add_zero] at hst
        refine ⟨.slice (some ⟨b, 0, none⟩) (n + m) cap, w.setRow b (cur.take (n * i.size) ++ news ++ cur.drop (n * i.size + news.length)).toArray, b, ?_, .inr ⟨cap, _, e', rfl, hg.setRow (by simp only [List.size_toArray] at hfit; simp only [List.length_append, List.length_take, List.length_drop]; omega), hroom, hcm, ?_, ?_⟩, ⟨rfl, rfl, rfl, by simp [World.setRow], fun k _ hk => setRow_other w b k _ (hk hvn)⟩, fun _ => .inl ⟨hvn, rfl⟩⟩
        · simp [Builtin.append_, run_underlying ht, sizeOf, typeInfo, hi, Builtin.lenOf, hroom, hf, Addr.add_lit, hst]
        · simp only [List.size_toArray] at hfit
          simp only [List.length_append, List.length_take, List.length_drop]
          omega
        · rw [htake, ← hlen]
          exact List.take_left
      · have holds : ∀ j u, xs[j]? = some u → w.cell? ((⟨b, 0, none⟩ : Addr).add j) = some u := by
          intro j u hj
          rw [addr_add, Nat.zero_add, hg.cell]
          rw [← htake, List.getElem?_take] at hj
          split at hj
          · exact hj
          · cases hj
        have hr := run_append_grow (P := P) w t ty e i z ht hi hz ⟨b, 0, none⟩ n cap xs hxl holds a m c news hl hcell (by omega) (by omega) (growslice_fits (by omega) hbytes)
        have hgr := grown cap (by omega)
        exact ⟨_, _, _, hr, hgr.1, hgr.2, fun _ => .inr ⟨Nat.le_refl _, by rw [size_drew]; omega⟩⟩
  · have hn : news = [] := List.eq_nil_of_length_eq_zero (by simpa using hl)
    subst hn
    rcases hv with ⟨rfl, rfl, rfl⟩ | ⟨cap, cur, e', rfl, hg, hnc, hcm, hcs, htake⟩
    · refine ⟨nilV, w, b, ?_, .inl ⟨rfl, rfl, rfl⟩, ⟨rfl, rfl, rfl, Nat.le_refl _, fun _ _ _ => rfl⟩, fun h => (h rfl).elim⟩
      simp [nilV, Builtin.append_, run_underlying ht, sizeOf, typeInfo, hi, Builtin.lenOf, Builtin.firstCells]
    · have hvn : (Value.slice (some ⟨b, 0, none⟩) n cap) ≠ nilV := by simp [nilV]
      refine ⟨.slice (some ⟨b, 0, none⟩) n cap, w, b, ?_, .inr ⟨cap, cur, e', rfl, hg, hnc, hcm, hcs, by simpa using htake⟩, ⟨rfl, rfl, rfl, Nat.le_refl _, fun _ _ _ => rfl⟩, fun _ => .inl ⟨hvn, rfl⟩⟩
      simp [Builtin.append_, run_underlying ht, sizeOf, typeInfo, hi, Builtin.lenOf, Builtin.firstCells, hnc, storeCells]
/-- The same of a text's bytes. -/
theorem run_append_rowS {t u ty e : TypeId} {i : TypeInfo} {z : Value} (ht : P.underlying t = some (.slice e)) (hu : P.underlying u = some .string) (hi : P.info? e = some i) (hz : i.zero = some z) (hzs : z.cells.size = i.size) (h1z : i.size = 1)
    {v : Value} {n : Nat} {xs : List Value} {b : Nat} (hv : RowOk w i.size v n xs b) (hxl : xs.length = n * i.size) (s : ByteArray) (hbytes : (n + s.size) * i.bytes ≤ 140737488355328) (hb : 0 < i.bytes) :
    ∃ v' w' b', (Builtin.append_ #[t, u] ty #[v, .string s]).run P w = .ok v' w' ∧ RowOk w' i.size v' (n + s.size) (xs ++ Lib.strCells s) b' ∧ Grown w w' v b ∧ (v' ≠ nilV → (v ≠ nilV ∧ b' = b) ∨ (w.heap.size ≤ b' ∧ b' < w'.heap.size)) := by
  have hnm : n + s.size ≤ 140737488355328 := Nat.le_trans (Nat.le_mul_of_pos_right _ hb) hbytes
  have h63 : n + s.size ≤ maxLen := by unfold maxLen; omega
  have hl : (Lib.strCells s).length = s.size * i.size := by rw [Lib.strCells_length, h1z, Nat.mul_one]
  have hlen : (xs ++ Lib.strCells s).length = (n + s.size) * i.size := by rw [List.length_append, hxl, hl, Nat.add_mul]
  have grown : ∀ (old : Nat), old < n + s.size →
      RowOk (w.drew.alloc (.cells (xs.toArray ++ (Lib.strCells s).toArray ++ Builtin.zeroCells z.cells (grownCap w (n + s.size) old e - (n + s.size))) e)) i.size (.slice (some ⟨w.heap.size, 0, none⟩) (n + s.size) (grownCap w (n + s.size) old e)) (n + s.size) (xs ++ Lib.strCells s) w.heap.size ∧
      Grown w (w.drew.alloc (.cells (xs.toArray ++ (Lib.strCells s).toArray ++ Builtin.zeroCells z.cells (grownCap w (n + s.size) old e - (n + s.size))) e)) v b := by
    intro old ho
    have hge := grownCap_ge w (n + s.size) old e
    have hcm : grownCap w (n + s.size) old e ≤ maxLen := grownCap_le_maxLen w (n + s.size) old e h63
    refine ⟨.inr ⟨_, (xs.toArray ++ (Lib.strCells s).toArray ++ Builtin.zeroCells z.cells (grownCap w (n + s.size) old e - (n + s.size))).toList, e, rfl, Hs.mk0 (by rw [heap_drew_new]), hge, hcm, ?_, ?_⟩, ⟨rfl, rfl, rfl, by rw [size_drew]; omega, fun k hk _ => heap_drew w _ k hk⟩⟩
    · simp only [Array.length_toList, Array.size_append, List.size_toArray, size_zeroCells, hzs, hxl, hl, ← Nat.add_mul]
      congr 1
      omega
    · simp only [Array.toList_append, List.append_assoc]
      rw [← List.append_assoc, ← hlen]
      exact List.take_left
  rcases hv with ⟨rfl, rfl, rfl⟩ | ⟨cap, cur, e', rfl, hg, hnc, hcm, hcs, htake⟩
  · by_cases hm : s.size = 0
    · have hn : Lib.strCells s = [] := List.eq_nil_of_length_eq_zero (by rw [Lib.strCells_length]; exact hm)
      refine ⟨nilV, w, b, ?_, .inl ⟨rfl, by omega, by rw [hn]; rfl⟩, ⟨rfl, rfl, rfl, Nat.le_refl _, fun _ _ _ => rfl⟩, fun h => (h rfl).elim⟩
      have hf := Lib.run_firstCells_string (P := P) w i.size s
      rw [hm] at hf
      simp [nilV, Builtin.append_, run_underlying ht, run_underlying hu, sizeOf, typeInfo, hi, Builtin.lenOf, hm, hf]
    · have hr := run_append_nil_string (P := P) w t u ty e i z ht hu hi hz s (by omega) (by omega) (by simp only [Nat.zero_add] at hbytes; omega)
      have hgr := grown 0 (by omega)
      simp only [Nat.zero_add, List.nil_append, Array.empty_append] at hgr ⊢
      have e1 : (s.data.map fun b => Value.int .u8 b.toNat) = (Lib.strCells s).toArray := by
        apply Array.ext'
        simp [Lib.strCells]
      rw [e1] at hr
      exact ⟨_, _, _, hr, hgr.1, hgr.2, fun _ => .inr ⟨Nat.le_refl _, by rw [size_drew]; omega⟩⟩
  · have hvn : (Value.slice (some ⟨b, 0, none⟩) n cap) ≠ nilV := by simp [nilV]
    by_cases hroom : n + s.size ≤ cap
    · have hfit : n * i.size + (Lib.strCells s).length ≤ cur.toArray.size := by rw [hl, List.size_toArray, hcs, ← Nat.add_mul]; exact Nat.mul_le_mul_right _ hroom
      have hf := Lib.run_firstCells_string (P := P) w i.size s
      obtain ⟨fr, hgh, hsoft⟩ := hg.ex
      have hst := run_storeCells_soft P b (n * i.size) e' fr (Lib.strCells s) 0 cur.toArray w hgh (by simpa using hsoft.to0) (by simpa using hfit) (Lib.strCells_oneCell s)
      simp only [Nat.add_zero] at hst
      refine ⟨.slice (some ⟨b, 0, none⟩) (n + s.size) cap, w.setRow b (cur.take (n * i.size) ++ Lib.strCells s ++ cur.drop (n * i.size + (Lib.strCells s).length)).toArray, b, ?_, .inr ⟨cap, _, e', rfl, hg.setRow (by simp only [List.size_toArray] at hfit; simp only [List.length_append, List.length_take, List.length_drop]; omega), hroom, hcm, ?_, ?_⟩, ⟨rfl, rfl, rfl, by simp [World.setRow], fun k _ hk => setRow_other w b k _ (hk hvn)⟩, fun _ => .inl ⟨hvn, rfl⟩⟩
      · simp [Builtin.append_, run_underlying ht, run_underlying hu, sizeOf, typeInfo, hi, Builtin.lenOf, hroom, hf, Addr.add_lit, hst]
      · simp only [List.size_toArray] at hfit
        simp only [List.length_append, List.length_take, List.length_drop]
        omega
      · rw [htake, ← hlen]
        exact List.take_left
    · have holds : ∀ j u, xs[j]? = some u → w.cell? ((⟨b, 0, none⟩ : Addr).add j) = some u := by
        intro j u hj
        rw [addr_add, Nat.zero_add, hg.cell]
        rw [← htake, List.getElem?_take] at hj
        split at hj
        · exact hj
        · cases hj
      have hr := Lib.run_append_grow_string (P := P) w t u ty e i z ht hu hi hz ⟨b, 0, none⟩ n cap xs hxl holds s (by omega) (by omega) (growslice_fits (by omega) hbytes)
      have hgr := grown cap (by omega)
      exact ⟨_, _, _, hr, hgr.1, hgr.2, fun _ => .inr ⟨Nat.le_refl _, by rw [size_drew]; omega⟩⟩
end
end Go.Proofs.YtkklflpfklbbcaaDoor.Sx
