/- A symbolic executor for the model's code: the abstract values, what they say of values and memory. -/
import Derived.WalkKit
import Derived.Laws.AppendOwn
import Derived.Below
import Derived.OrdersHeld
namespace Go.Proofs.YtiaenejafpbfkaaDoor.Sx
open Go

/-- A leaf is kept behind a function, so that an evaluator leaves it alone. -/
inductive O1 : Type | o
abbrev Th (α : Type) := O1 → α
/-- A count as a number (a name that an evaluator's forework leaves alone). -/
def zi (n : Nat) : Int := n

inductive AV : Type
  | any
  | int (k : IntKind) (n : Th Int)
  | bool (b : Th Bool)
  | tt | ff
  | str (s : Th (List UInt8))
  | sl (sz : Nat) (n : Th Nat) (g : Th Nat → AV)
  | nsl
  | row (d : Nat)
  | ptr (d off : Nat)
  | iptr (c : AV)
  | rptr (d sz : Nat) (i : Th Nat) (off : Nat)
  | win (d sz : Nat) (lo n : Th Nat)
  | nptr
  | fn (f : Fn) (first caps : AV)
  | nfn | nif
  | ifc (t : Nat) (v : AV)
  | agg (c : AV)
  | tup (c : AV)
  | nil
  | cons (h t : AV)

/-- The places in local memory that a value names. -/
def AV.locs : AV → Nat → Prop
  | .row d, x => x = d
  | .ptr d _, x => x = d
  | .rptr d _ _ _, x => x = d
  | .win d _ _ _, x => x = d
  | .iptr c, x => c.locs x
  | .fn _ a b, x => a.locs x ∨ b.locs x
  | .ifc _ v, x => v.locs x
  | .agg c, x => c.locs x
  | .tup c, x => c.locs x
  | .cons h t, x => h.locs x ∨ t.locs x
  | _, _ => False

/-- The same with all that names a place forgotten. -/
def AV.kill (d : Nat) : AV → AV
  | .row x => if x = d then .any else .row x
  | .ptr x o => if x = d then .any else .ptr x o
  | .rptr x s i o => if x = d then .any else .rptr x s i o
  | .win x s i o => if x = d then .any else .win x s i o
  | .iptr c => .iptr (c.kill d)
  | .fn f a b => .fn f (a.kill d) (b.kill d)
  | .ifc t v => .ifc t (v.kill d)
  | .agg c => .agg (c.kill d)
  | .tup c => .tup (c.kill d)
  | .cons h t => .cons (h.kill d) (t.kill d)
  | v => v

/-- Immutable data names no place. -/
def AV.still : AV → Prop
  | .row _ => False
  | .ptr _ _ => False
  | .rptr _ _ _ _ => False
  | .win _ _ _ _ => False
  | .iptr c => c.still
  | .fn _ a b => a.still ∧ b.still
  | .ifc _ v => v.still
  | .agg c => c.still
  | .tup c => c.still
  | .cons h t => h.still ∧ t.still
  | _ => True

theorem AV.still_locs (x : AV) : x.still ↔ ∀ d, ¬ x.locs d := by
  induction x with
  | sl sz n g _ => exact ⟨fun _ _ h => h, fun _ => trivial⟩
  | row d => exact ⟨fun h => h.elim, fun h => h d rfl⟩
  | ptr d o => exact ⟨fun h => h.elim, fun h => h d rfl⟩
  | rptr d s i o => exact ⟨fun h => h.elim, fun h => h d rfl⟩
  | win d s i o => exact ⟨fun h => h.elim, fun h => h d rfl⟩
  | iptr c ih => exact ih
  | fn f a b iha ihb => exact ⟨fun h d hd => hd.elim (iha.1 h.1 d) (ihb.1 h.2 d), fun h => ⟨iha.2 fun d hd => h d (.inl hd), ihb.2 fun d hd => h d (.inr hd)⟩⟩
  | ifc t v ih => exact ih
  | agg c ih => exact ih
  | tup c ih => exact ih
  | cons a b iha ihb => exact ⟨fun h d hd => hd.elim (iha.1 h.1 d) (ihb.1 h.2 d), fun h => ⟨iha.2 fun d hd => h d (.inl hd), ihb.2 fun d hd => h d (.inr hd)⟩⟩
  | any => exact ⟨fun _ _ h => h, fun _ => trivial⟩
  | int k n => exact ⟨fun _ _ h => h, fun _ => trivial⟩
  | bool b => exact ⟨fun _ _ h => h, fun _ => trivial⟩
  | tt => exact ⟨fun _ _ h => h, fun _ => trivial⟩
  | ff => exact ⟨fun _ _ h => h, fun _ => trivial⟩
  | str s => exact ⟨fun _ _ h => h, fun _ => trivial⟩
  | nsl => exact ⟨fun _ _ h => h, fun _ => trivial⟩
  | nptr => exact ⟨fun _ _ h => h, fun _ => trivial⟩
  | nfn => exact ⟨fun _ _ h => h, fun _ => trivial⟩
  | nif => exact ⟨fun _ _ h => h, fun _ => trivial⟩
  | nil => exact ⟨fun _ _ h => h, fun _ => trivial⟩

def AV.len : AV → Nat
  | .cons _ t => t.len + 1
  | _ => 0

/-- Is it a value of one cell? -/
def AV.scal : AV → Bool
  | .any => false | .agg _ => false | .tup _ => false | .nil => false | .cons _ _ => false
  | _ => true
def AV.scals : AV → Bool
  | .nil => true
  | .cons h t => match h.scal with | true => t.scals | false => false
  | _ => false
/-- Cells of an element: immutable, each of one cell. -/
def AV.okE (x : AV) : Prop := x.still ∧ x.scals = true

structure Env where
  ρ : Nat → Nat
  rv : Nat → Value
  I : Nat → Nat → Prop
  w : World

/-- v is the piece of n elements of sz cells from number lo on of the slice r. -/
def WinV (r : Value) (sz lo n : Nat) (v : Value) : Prop :=
  (r = .slice none 0 0 ∧ lo = 0 ∧ n = 0 ∧ v = .slice none 0 0) ∨ ∃ A m c p, r = .slice (some A) m c ∧ lo + n ≤ c ∧ v = .slice (some p) n (c - lo) ∧ (n ≠ 0 ∨ lo = 0 → p = A.add (lo * sz))

mutual
def Rp (E : Env) : AV → Value → Prop
  | .any, _ => True
  | .int k n, v => v = .int k (n .o)
  | .bool b, v => v = .bool (b .o)
  | .tt, v => v = .bool true
  | .ff, v => v = .bool false
  | .str s, v => v = .string ⟨(s .o).toArray⟩
  | .sl sz n g, v => ∃ a cap, v = .slice a (n .o) cap ∧ n .o ≤ cap ∧ ∀ i, i < n .o → ((g fun _ => i).okE ∧ (g fun _ => i).len = sz) ∧ ∃ b o, a = some ⟨b, o, none⟩ ∧ MemC E (g fun _ => i) b (o + i * sz)
  | .nsl, v => v = .slice none 0 0
  | .row d, v => v = E.rv d ∧ ∃ a n c, v = .slice a n c
  | .ptr d o, v => v = .pointer (some ⟨E.ρ d, o, none⟩)
  | .iptr c, v => ∃ b o, v = .pointer (some ⟨b, o, none⟩) ∧ MemC E c b o
  | .rptr d sz i o, v => v = .pointer (some ⟨E.ρ d, i .o * sz + o, none⟩)
  | .win d sz lo n, v => WinV (E.rv d) sz (lo .o) (n .o) v
  | .nptr, v => v = .pointer none
  | .fn f a b, v => ∃ l m, v = .func f l.toArray m.toArray ∧ ListC E a l ∧ ListC E b m
  | .nfn, v => v = .nilFunc
  | .nif, v => v = .nilIface
  | .ifc t x, v => ∃ y, v = .iface t y ∧ Rp E x y
  | .agg c, v => ∃ l, v = .agg l.toArray ∧ ListC E c l
  | .tup c, v => ∃ l, v = .tuple l.toArray ∧ ListC E c l
  | .nil, _ => False
  | .cons _ _, _ => False
def ListC (E : Env) : AV → List Value → Prop
  | .nil, l => l = []
  | .cons h t, l => ∃ x r, l = x :: r ∧ Rp E h x ∧ ListC E t r
  | _, _ => False
def MemC (E : Env) : AV → Nat → Nat → Prop
  | .nil, _, _ => True
  | .cons h t, b, o => (∃ v, E.w.cell? ⟨b, o, none⟩ = some v ∧ E.I b o ∧ Rp E h v) ∧ MemC E t b (o + 1)
  | _, _, _ => False
end

/-- E' keeps all that is shut for good, and names the places of x as E does. -/
structure Env.Le (E E' : Env) : Prop where
  sub : ∀ b o, E.I b o → E'.I b o
  cell : ∀ b o, E.I b o → E'.w.cell? ⟨b, o, none⟩ = E.w.cell? ⟨b, o, none⟩

theorem Env.Le.refl (E : Env) : E.Le E := ⟨fun _ _ h => h, fun _ _ _ => rfl⟩
theorem Env.Le.trans {E F G : Env} (h : E.Le F) (k : F.Le G) : E.Le G :=
  ⟨fun b o i => k.sub b o (h.sub b o i), fun b o i => (k.cell b o (h.sub b o i)).trans (h.cell b o i)⟩

theorem rp_mono {E E' : Env} (h : E.Le E') : (x : AV) → (∀ d, x.locs d → E'.ρ d = E.ρ d ∧ E'.rv d = E.rv d) →
    (∀ v, Rp E x v → Rp E' x v) ∧ (∀ l, ListC E x l → ListC E' x l) ∧ (∀ b o, MemC E x b o → MemC E' x b o) := by
  intro x
  induction x with
  | any => intro _; exact ⟨fun _ _ => trivial, fun _ h => h.elim, fun _ _ h => h.elim⟩
  | int k n => intro _; exact ⟨fun _ h => h, fun _ h => h.elim, fun _ _ h => h.elim⟩
  | bool b => intro _; exact ⟨fun _ h => h, fun _ h => h.elim, fun _ _ h => h.elim⟩
  | tt => intro _; exact ⟨fun _ h => h, fun _ h => h.elim, fun _ _ h => h.elim⟩
  | ff => intro _; exact ⟨fun _ h => h, fun _ h => h.elim, fun _ _ h => h.elim⟩
  | str s => intro _; exact ⟨fun _ h => h, fun _ h => h.elim, fun _ _ h => h.elim⟩
  | sl sz n g ih =>
    intro hl
    refine ⟨fun v hv => ?_, fun _ h => h.elim, fun _ _ h => h.elim⟩
    obtain ⟨a, cap, h1, h2, h3⟩ := hv
    refine ⟨a, cap, h1, h2, fun i hi => ?_⟩
    obtain ⟨hs, b, o, h4, h5⟩ := h3 i hi
    exact ⟨hs, b, o, h4, (ih (fun _ => i) (fun d hd => ((AV.still_locs _).1 hs.1.1 d hd).elim)).2.2 _ _ h5⟩
  | nsl => intro _; exact ⟨fun _ h => h, fun _ h => h.elim, fun _ _ h => h.elim⟩
  | row d => intro hl; refine ⟨fun v hv => ?_, fun _ h => h.elim, fun _ _ h => h.elim⟩; exact ⟨hv.1.trans (hl d rfl).2.symm, hv.2⟩
  | ptr d o => intro hl; refine ⟨fun v hv => ?_, fun _ h => h.elim, fun _ _ h => h.elim⟩; show v = _; rw [(hl d rfl).1]; exact hv
  | iptr c ih =>
    intro hl
    refine ⟨fun v hv => ?_, fun _ h => h.elim, fun _ _ h => h.elim⟩
    obtain ⟨b, o, h1, h2⟩ := hv
    exact ⟨b, o, h1, (ih hl).2.2 _ _ h2⟩
  | rptr d sz i o => intro hl; refine ⟨fun v hv => ?_, fun _ h => h.elim, fun _ _ h => h.elim⟩; show v = _; rw [(hl d rfl).1]; exact hv
  | win d sz i o => intro hl; refine ⟨fun v hv => ?_, fun _ h => h.elim, fun _ _ h => h.elim⟩; show WinV _ _ _ _ _; rw [(hl d rfl).2]; exact hv
  | nptr => intro _; exact ⟨fun _ h => h, fun _ h => h.elim, fun _ _ h => h.elim⟩
  | fn f a b iha ihb =>
    intro hl
    refine ⟨fun v hv => ?_, fun _ h => h.elim, fun _ _ h => h.elim⟩
    obtain ⟨l, m, h1, h2, h3⟩ := hv
    exact ⟨l, m, h1, (iha fun d hd => hl d (.inl hd)).2.1 _ h2, (ihb fun d hd => hl d (.inr hd)).2.1 _ h3⟩
  | nfn => intro _; exact ⟨fun _ h => h, fun _ h => h.elim, fun _ _ h => h.elim⟩
  | nif => intro _; exact ⟨fun _ h => h, fun _ h => h.elim, fun _ _ h => h.elim⟩
  | ifc t v ih =>
    intro hl
    refine ⟨fun v hv => ?_, fun _ h => h.elim, fun _ _ h => h.elim⟩
    obtain ⟨y, h1, h2⟩ := hv
    exact ⟨y, h1, (ih hl).1 _ h2⟩
  | agg c ih =>
    intro hl
    refine ⟨fun v hv => ?_, fun _ h => h.elim, fun _ _ h => h.elim⟩
    obtain ⟨l, h1, h2⟩ := hv
    exact ⟨l, h1, (ih hl).2.1 _ h2⟩
  | tup c ih =>
    intro hl
    refine ⟨fun v hv => ?_, fun _ h => h.elim, fun _ _ h => h.elim⟩
    obtain ⟨l, h1, h2⟩ := hv
    exact ⟨l, h1, (ih hl).2.1 _ h2⟩
  | nil => intro _; exact ⟨fun _ h => h.elim, fun _ h => h, fun _ _ _ => trivial⟩
  | cons a b iha ihb =>
    intro hl
    refine ⟨fun _ h => h.elim, fun l hv => ?_, fun b' o hv => ?_⟩
    · obtain ⟨x, r, h1, h2, h3⟩ := hv
      exact ⟨x, r, h1, (iha fun d hd => hl d (.inl hd)).1 _ h2, (ihb fun d hd => hl d (.inr hd)).2.1 _ h3⟩
    · obtain ⟨⟨v, h1, h2, h3⟩, h4⟩ := hv
      exact ⟨⟨v, (h.cell _ _ h2).trans h1, h.sub _ _ h2, (iha fun d hd => hl d (.inl hd)).1 _ h3⟩, (ihb fun d hd => hl d (.inr hd)).2.2 _ _ h4⟩

theorem rp_kill {E : Env} (d : Nat) (x : AV) : (∀ v, Rp E x v → Rp E (x.kill d) v) ∧ (∀ l, ListC E x l → ListC E (x.kill d) l) ∧ (∀ b o, MemC E x b o → MemC E (x.kill d) b o) := by
  induction x with
  | row x => refine ⟨fun v hv => ?_, fun _ h => h.elim, fun _ _ h => h.elim⟩; unfold AV.kill; split; exact trivial; exact hv
  | ptr x o => refine ⟨fun v hv => ?_, fun _ h => h.elim, fun _ _ h => h.elim⟩; unfold AV.kill; split; exact trivial; exact hv
  | rptr x s i o => refine ⟨fun v hv => ?_, fun _ h => h.elim, fun _ _ h => h.elim⟩; unfold AV.kill; split; exact trivial; exact hv
  | win x s i o => refine ⟨fun v hv => ?_, fun _ h => h.elim, fun _ _ h => h.elim⟩; unfold AV.kill; split; exact trivial; exact hv
  | iptr c ih =>
    refine ⟨fun v hv => ?_, fun _ h => h.elim, fun _ _ h => h.elim⟩
    obtain ⟨b, o, h1, h2⟩ := hv
    exact ⟨b, o, h1, ih.2.2 _ _ h2⟩
  | fn f a b iha ihb =>
    refine ⟨fun v hv => ?_, fun _ h => h.elim, fun _ _ h => h.elim⟩
    obtain ⟨l, m, h1, h2, h3⟩ := hv
    exact ⟨l, m, h1, iha.2.1 _ h2, ihb.2.1 _ h3⟩
  | ifc t v ih =>
    refine ⟨fun v hv => ?_, fun _ h => h.elim, fun _ _ h => h.elim⟩
    obtain ⟨y, h1, h2⟩ := hv
    exact ⟨y, h1, ih.1 _ h2⟩
  | agg c ih =>
    refine ⟨fun v hv => ?_, fun _ h => h.elim, fun _ _ h => h.elim⟩
    obtain ⟨l, h1, h2⟩ := hv
    exact ⟨l, h1, ih.2.1 _ h2⟩
  | tup c ih =>
    refine ⟨fun v hv => ?_, fun _ h => h.elim, fun _ _ h => h.elim⟩
    obtain ⟨l, h1, h2⟩ := hv
    exact ⟨l, h1, ih.2.1 _ h2⟩
  | cons a b iha ihb =>
    refine ⟨fun _ h => h.elim, fun l hv => ?_, fun b' o hv => ?_⟩
    · obtain ⟨x, r, h1, h2, h3⟩ := hv
      exact ⟨x, r, h1, iha.1 _ h2, ihb.2.1 _ h3⟩
    · obtain ⟨⟨v, h1, h2, h3⟩, h4⟩ := hv
      exact ⟨⟨v, h1, h2, iha.1 _ h3⟩, ihb.2.2 _ _ h4⟩
  | nil => exact ⟨fun _ h => h.elim, fun _ h => h, fun _ _ _ => trivial⟩
  | sl sz n g ih => exact ⟨fun _ h => h, fun _ h => h.elim, fun _ _ h => h.elim⟩
  | any => exact ⟨fun _ h => h, fun _ h => h.elim, fun _ _ h => h.elim⟩
  | int k n => exact ⟨fun _ h => h, fun _ h => h.elim, fun _ _ h => h.elim⟩
  | bool b => exact ⟨fun _ h => h, fun _ h => h.elim, fun _ _ h => h.elim⟩
  | tt => exact ⟨fun _ h => h, fun _ h => h.elim, fun _ _ h => h.elim⟩
  | ff => exact ⟨fun _ h => h, fun _ h => h.elim, fun _ _ h => h.elim⟩
  | str s => exact ⟨fun _ h => h, fun _ h => h.elim, fun _ _ h => h.elim⟩
  | nsl => exact ⟨fun _ h => h, fun _ h => h.elim, fun _ _ h => h.elim⟩
  | nptr => exact ⟨fun _ h => h, fun _ h => h.elim, fun _ _ h => h.elim⟩
  | nfn => exact ⟨fun _ h => h, fun _ h => h.elim, fun _ _ h => h.elim⟩
  | nif => exact ⟨fun _ h => h, fun _ h => h.elim, fun _ _ h => h.elim⟩

end Go.Proofs.YtiaenejafpbfkaaDoor.Sx
