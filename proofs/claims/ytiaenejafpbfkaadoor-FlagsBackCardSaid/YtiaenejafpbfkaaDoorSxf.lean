/- A symbolic executor for the model's code: states, calls, and the abstract weakest precondition. -/
import Derived.Test.YtiaenejafpbfkaaDoorSxe
namespace Go.Proofs.YtiaenejafpbfkaaDoor.Sx
open Go
set_option linter.unusedSimpArgs false
set_option linter.unusedVariables false

def BL.liveAt (B : BL) (x : Nat) : Prop := (B.get x).live = true

/-- Does place x own a block of memory? -/
def solidAt (E : Env) (B : BL) (x : Nat) : Prop := solid E x (B.get x)
theorem solid_live {E : Env} {B : BL} {x : Nat} (h : solidAt E B x) : B.liveAt x := by
  unfold solidAt at h
  unfold BL.liveAt
  cases hb : B.get x <;> rw [hb] at h
  · exact h.elim
  · rfl
  · rfl

structure Inv (E : Env) (B : BL) : Prop where
  blk : ∀ d, BlkRp E d (B.get d)
  dist : ∀ d d', solidAt E B d → solidAt E B d' → d ≠ d' → E.ρ d ≠ E.ρ d'
  live : ∀ d, solidAt E B d → E.ρ d < E.w.heap.size ∧ ∀ o, ¬ E.I (E.ρ d) o
  ibd : ∀ b o, E.I b o → b < E.w.heap.size
  nm : ∀ d x, (B.get d).locs x → B.liveAt x

/-- From E, B to E', B', where the places in D are new, and the rows of B may have come to stand elsewhere. -/
structure Post (E : Env) (B : BL) (E' : Env) (B' : BL) (D : Nat → Prop) : Prop where
  le : E.Le E'
  same : ∀ x, ¬ D x → (B.get x).isRow = false → E'.ρ x = E.ρ x ∧ E'.rv x = E.rv x
  kind : ∀ x, ¬ D x → (B.get x).isRow = false → (B'.get x).isRow = false
  os : E'.w.os = E.w.os
  tape : E'.w.tape = E.w.tape
  output : E'.w.output = E.w.output
  size : E.w.heap.size ≤ E'.w.heap.size
  old : ∀ b, b < E.w.heap.size → (∀ x, solidAt E B x → E.ρ x ≠ b) → E'.w.heap[b]? = E.w.heap[b]?
  dom : ∀ x, B'.liveAt x → B.liveAt x ∨ D x
  new : ∀ x, solidAt E' B' x → (solidAt E B x ∧ E'.ρ x = E.ρ x) ∨ E.w.heap.size ≤ E'.ρ x
  keep : ∀ x, B.liveAt x → B'.liveAt x
  imm : ∀ b o, E'.I b o → E.I b o ∨ E.w.heap.size ≤ b

theorem Post.refl (E : Env) (B : BL) (D : Nat → Prop) : Post E B E B D :=
  ⟨.refl E, fun _ _ _ => ⟨rfl, rfl⟩, fun _ _ h => h, rfl, rfl, rfl, Nat.le_refl _, fun _ _ _ => rfl, fun _ h => .inl h, fun _ h => .inl ⟨h, rfl⟩, fun _ h => h, fun _ _ h => .inl h⟩

theorem Post.trans {E0 E E' : Env} {B0 B B' : BL} {D D' : Nat → Prop} (h : Post E0 B0 E B D) (k : Post E B E' B' D') (hd : ∀ x, D' x → D x) : Post E0 B0 E' B' D where
  le := h.le.trans k.le
  same x hx hr :=
    have h1 := h.same x hx hr
    have h2 := k.same x (fun q => hx (hd x q)) (h.kind x hx hr)
    ⟨h2.1.trans h1.1, h2.2.trans h1.2⟩
  kind x hx hr := k.kind x (fun q => hx (hd x q)) (h.kind x hx hr)
  os := k.os.trans h.os
  tape := k.tape.trans h.tape
  output := k.output.trans h.output
  size := Nat.le_trans h.size k.size
  old b hb hn := by
    rw [k.old b (Nat.lt_of_lt_of_le hb h.size) ?_, h.old b hb hn]
    intro x hx
    rcases h.new x hx with ⟨h1, h2⟩ | h2
    · rw [h2]; exact hn x h1
    · omega
  dom x hx := by
    rcases k.dom x hx with h1 | h1
    · exact h.dom x h1
    · exact .inr (hd x h1)
  new x hx := by
    rcases k.new x hx with ⟨h1, h2⟩ | h1
    · rcases h.new x h1 with ⟨h3, h4⟩ | h3
      · exact .inl ⟨h3, h2.trans h4⟩
      · exact .inr (by rw [h2]; exact h3)
    · exact .inr (Nat.le_trans h.size h1)
  keep x hx := k.keep x (h.keep x hx)
  imm b o hi := by
    rcases k.imm b o hi with h1 | h1
    · exact h.imm b o h1
    · exact .inr (Nat.le_trans h.size h1)

/-! ### calls -/
def unchain : AV → List AV
  | .cons h t => h :: unchain t
  | _ => []

/-- May the machine enter this function? -/
def callable (P : Program) (f : Nat) : Bool := match P.funcs[f]? with | some fn => fn.body.isSome && fn.name != "runtime.NumGoroutine" | none => false

def ARes.locs : ARes → Nat → Prop | .ret v, x => v.locs x | .pan v, x => v.locs x
def Ends (E : Env) : ARes → Ending → Prop
  | .ret v, .returned x => Rp E v x
  | .pan v, .panicked ch => ∃ x, ch = [{ v := x, recovered := false }] ∧ Rp E v x
  | _, _ => False

/-- A call of function f comes to an end that K speaks of, whatever the memory beyond. Place d is free for what it makes. -/
structure CallAt (P : Th Program) (f : Nat) (as : List AV) (d : Nat) (B : BL) (K : ARes → BL → Prop) : Prop where
  can : callable (P .o) f = true
  run : ∀ (E : Env) (vs : List Value), Inv E B → ListC E (chain as) vs → (∀ x, (chain as).locs x → B.liveAt x) → ¬ B.liveAt d →
    Calls (P .o) f vs.toArray E.w fun e w' => ∃ E' r B', E'.w = w' ∧ K r B' ∧ Ends E' r e ∧ Inv E' B' ∧ Post E B E' B' (· = d) ∧ (∀ x, r.locs x → B'.liveAt x)

theorem CallAt.mono {P : Th Program} {f : Nat} {as : List AV} {d : Nat} {B : BL} {K K' : ARes → BL → Prop} (h : CallAt P f as d B K) (hk : ∀ r B', K r B' → K' r B') : CallAt P f as d B K' :=
  ⟨h.can, fun E vs h1 h2 h3 h4 => (h.run E vs h1 h2 h3 h4).mono fun e w' ⟨E', r, B', a, b, c⟩ => ⟨E', r, B', a, hk _ _ b, c⟩⟩

def ltB (a b : Nat) : Bool := decide (a < b)
/-! ### rows shut for good -/
/-- Place d told as y instead. -/
def AV.fz : AV → Nat → AV → AV
  | .row x, d, y => match x == d with | true => y | false => .row x
  | .ptr x o, d, _ => match x == d with | true => .any | false => .ptr x o
  | .rptr x s i o, d, _ => match x == d with | true => .any | false => .rptr x s i o
  | .win x s i o, d, _ => match x == d with | true => .any | false => .win x s i o
  | .iptr c, d, y => .iptr (c.fz d y)
  | .fn f a b, d, y => .fn f (a.fz d y) (b.fz d y)
  | .ifc t v, d, y => .ifc t (v.fz d y)
  | .agg c, d, y => .agg (c.fz d y)
  | .tup c, d, y => .tup (c.fz d y)
  | .cons h t, d, y => .cons (h.fz d y) (t.fz d y)
  | v, _, _ => v
def AL.fz (d : Nat) (y : AV) : AL → AL
  | .nil => .nil
  | .cons k v r => .cons k (v.fz d y) (r.fz d y)
def Blk.fz (d : Nat) (y : AV) : Blk → Blk
  | .cells c => .cells (c.fz d y)
  | b => b
def BL.fz (d : Nat) (y : AV) : BL → BL
  | .nil => .nil
  | .cons k v r => .cons k (v.fz d y) (r.fz d y)
/-- The rows of one's own that a value names. -/
def AV.rows : AV → List Nat → List Nat
  | .row d, l => match ltB d 9500 with | true => d :: l | false => l
  | .win d _ _ _, l => match ltB d 9500 with | true => d :: l | false => l
  | .iptr c, l => c.rows l
  | .fn _ a b, l => a.rows (b.rows l)
  | .ifc _ v, l => v.rows l
  | .agg c, l => c.rows l
  | .tup c, l => c.rows l
  | .cons h t, l => h.rows (t.rows l)
  | _, l => l
def St.shut1 (s : St) (d : Nat) : St := match decide (d < 10000), s.b.get d with
  | true, .row sz n g => ⟨s.t.fz d (.sl sz n g), .cons d .no (s.b.fz d (.sl sz n g)), s.df.fz d (.sl sz n g)⟩
  | _, _ => s
def St.shutL (s : St) : List Nat → St
  | [] => s
  | d :: r => (s.shut1 d).shutL r

/-! ### what a call is handed -/
/-- The places that a value names. -/
def AV.ids : AV → List Nat → List Nat
  | .row x, l => x :: l
  | .ptr x _, l => x :: l
  | .rptr x _ _ _, l => x :: l
  | .win x _ _ _, l => x :: l
  | .iptr c, l => c.ids l
  | .fn _ a b, l => a.ids (b.ids l)
  | .ifc _ v, l => v.ids l
  | .agg c, l => c.ids l
  | .tup c, l => c.ids l
  | .cons h t, l => h.ids (t.ids l)
  | _, l => l
def Blk.ids : Blk → List Nat → List Nat | .cells c, l => c.ids l | _, l => l
/-- All places that are to be reached from some, some steps far. -/
def reach (B : BL) : Nat → List Nat → List Nat → List Nat
  | 0, _, seen => seen
  | _ + 1, [], seen => seen
  | f + 1, x :: r, seen => match seen.contains x with
    | true => reach B f r seen
    | false => reach B f ((B.get x).ids r) (x :: seen)
def BL.pick (l : BL) : List Nat → BL → BL
  | [], r => r
  | k :: ks, r => .cons k (l.get k) (l.pick ks r)
/-- Are all places named among these? -/
def AV.among (l : List Nat) : AV → Bool
  | .row x => l.contains x
  | .ptr x _ => l.contains x
  | .rptr x _ _ _ => l.contains x
  | .win x _ _ _ => l.contains x
  | .iptr c => c.among l
  | .fn _ a b => match a.among l with | true => b.among l | false => false
  | .ifc _ v => v.among l
  | .agg c => c.among l
  | .tup c => c.among l
  | .cons h t => match h.among l with | true => t.among l | false => false
  | _ => true
def Blk.among (l : List Nat) : Blk → Bool | .cells c => c.among l | _ => true
def closed (B : BL) (l : List Nat) : List Nat → Bool
  | [] => true
  | x :: r => match (B.get x).live, (B.get x).among l with | true, true => closed B l r | _, _ => false
/-- A value that names nothing in memory. -/
def AV.flat : AV → Bool
  | .int _ _ => true | .bool _ => true | .tt => true | .ff => true | .str _ => true | .nsl => true | .nptr => true | .nfn => true | .nif => true
  | .ifc _ v => v.flat
  | .agg c => c.flat
  | .tup c => c.flat
  | .nil => true
  | .cons h t => match h.flat with | true => t.flat | false => false
  | _ => false
def ARes.flat : ARes → Bool | .ret v => v.flat | .pan v => v.flat
def rowsOf (B : BL) : List Nat → List Nat
  | [] => []
  | x :: r => match (B.get x).isRow with | true => x :: rowsOf B r | false => rowsOf B r
def AV.kills : AV → List Nat → AV | v, [] => v | v, x :: r => (v.kill x).kills r
def AL.kills : AL → List Nat → AL | v, [] => v | v, x :: r => (v.kill x).kills r
def BL.kills : BL → List Nat → BL | v, [] => v | v, x :: r => (v.kill x).kills r
/-- The state behind a call that was handed the places cs and has place d for what it makes. -/
def St.after (s : St) (d : Nat) (cs : List Nat) (B' : BL) : St :=
  ⟨s.t.kills (rowsOf s.b cs), match (B'.get d).live with | true => .cons d (B'.get d) (B'.pick cs (s.b.kills (rowsOf s.b cs))) | false => B'.pick cs (s.b.kills (rowsOf s.b cs)), s.df.kills (rowsOf s.b cs)⟩

/-! ### handed on for reading only -/
/-- The same, with all that it names shut (h: what a place behind a pointer is told as). -/
def AV.frz (B : BL) (h : Nat → Nat → Option AV) : AV → Option AV
  | .row d => match B.get d with | .row sz n g => some (.sl sz n g) | _ => none
  | .ptr d o => h d o
  | .rptr _ _ _ _ => none
  | .win _ _ _ _ => none
  | .iptr c => match c.frz B h with | some c => some (.iptr c) | none => none
  | .ifc t v => match v.frz B h with | some v => some (.ifc t v) | none => none
  | .agg c => match c.frz B h with | some c => some (.agg c) | none => none
  | .tup c => match c.frz B h with | some c => some (.tup c) | none => none
  | .fn f a b => match a.frz B h, b.frz B h with | some a, some b => some (.fn f a b) | _, _ => none
  | .cons x t => match x.frz B h, t.frz B h with | some x, some t => some (.cons x t) | _, _ => none
  | x => some x
/-- The cells behind a pointer, shut, to a depth. -/
def frzP (B : BL) : Nat → Nat → Nat → Option AV
  | 0, _, _ => none
  | k + 1, d, o => match B.get d with
    | .cells c => match c.frz B (frzP B k) with | some c => some (.iptr (c.drop o)) | none => none
    | _ => none

/-! ### the executor -/
structure ROp where
  dst : Option Nat
  op : RO
  guard : Option (Nat × Bool)

/-- An operation of a region whose order is left open: may it float? Which of those ahead (by their places) may yet be to come when it comes up? -/
structure DOp where
  o : ROp
  fl : Bool
  us : List Nat

/-- Without the word that a call is handed what it is for reading only. -/
def RO.erase : RO → RO | .peek f args => .call f args | o => o
def ROp.erase (x : ROp) : ROp := ⟨x.dst, x.op.erase, x.guard⟩
def eraseL : List ROp → List ROp | [] => [] | x :: r => x.erase :: eraseL r

inductive RC : Type
  | skip
  | reg (ops : List ROp)
  | regd (ops : List DOp)
  | seq (a b : RC)
  | cond (c : Opd) (a b : RC)
  | block (id : Nat) (b : RC)
  | loop (b : RC)
  | exit (id : Nat)
  | ret
  | mark (c : RC)
/-- Without the marks. -/
def RC.erase : RC → RC
  | .reg ops => .reg (eraseL ops)
  | .seq a b => .seq a.erase b.erase
  | .cond c a b => .cond c a.erase b.erase
  | .block id b => .block id b.erase
  | .loop b => .loop b.erase
  | .mark c => c.erase
  | c => c

inductive It : Type
  | code (c : RC)
  | blk (id : Nat)
  | inv (I : St → Prop)

def St.setO (s : St) (d : Option Nat) (v : AV) : St := match d with | some d => s.set d v | none => s
def tv : Bool → AV | true => .tt | false => .ff
def AV.stillB : AV → Bool
  | .row _ => false
  | .ptr _ _ => false
  | .rptr _ _ _ _ => false
  | .win _ _ _ _ => false
  | .iptr c => c.stillB
  | .fn _ a b => match a.stillB with | true => b.stillB | false => false
  | .ifc _ v => v.stillB
  | .agg c => c.stillB
  | .tup c => c.stillB
  | .cons h t => match h.stillB with | true => t.stillB | false => false
  | _ => true

/-- What a run is held against. -/
structure Cx where
  P : Th Program
  N : Nat
  X : Option AV → St → Prop

/-- A new place d. -/
def fresh (s : St) (d : Nat) : Bool := match (s.b.get d).live with | true => false | false => ltB d 10000

def ares (C : Cx) (r : ARes) (dst : Option Nat) (s : St) (K : St → Prop) : Prop := match r with
  | .ret v => K (s.setO dst v)
  | .pan v => C.X (some v) s
/-- A call: s0 is the state ahead, s the same with all rows shut that it is handed (ds). -/
def acall2 (C : Cx) (f : Nat) (as : List AV) (dst : Option Nat) (ds : List Nat) (s0 s : St) (cs : List Nat) (K : St → Prop) : Prop :=
  match fresh s (dst.getD 9999), (chain as).among cs, closed s.b cs cs with
  | true, true, true => match ds, cs with
    | _ :: _, [] => CallAt C.P f as (dst.getD 9999) .nil fun r B' => match r.flat with
      | true => ares C r dst s0 K
      | false => ares C r dst (s.after (dst.getD 9999) [] B') K
    | _, cs => CallAt C.P f as (dst.getD 9999) (s.b.pick cs .nil) fun r B' => ares C r dst (s.after (dst.getD 9999) cs B') K
  | _, _, _ => False
def acall1 (C : Cx) (f : Nat) (as : List AV) (dst : Option Nat) (ds : List Nat) (s0 s : St) (K : St → Prop) : Prop :=
  acall2 C f as dst ds s0 s (reach s.b 100 ((chain as).ids []) []) K
def acall (C : Cx) (f : Nat) (as : St → List AV) (dst : Option Nat) (ds : List Nat) (s0 s : St) (K : St → Prop) : Prop := acall1 C f (as s) dst ds s0 s K
def acallv (C : Cx) (f : Opd) (args : List Opd) (dst : Option Nat) (ds : List Nat) (s0 s : St) (K : St → Prop) : Prop :=
  match f.ev s with
  | .fn (.func f) first caps => acall C f (fun s => unchain first ++ (evs s args ++ unchain caps)) dst ds s0 s K
  | _ => False
def acallS (C : Cx) (f : Nat) (args : List Opd) (dst : Option Nat) (ds : List Nat) (s : St) (K : St → Prop) : Prop := acall C f (evs · args) dst ds s (s.shutL ds) K
def acallvS (C : Cx) (f : Opd) (args : List Opd) (dst : Option Nat) (ds : List Nat) (s : St) (K : St → Prop) : Prop := acallv C f args dst ds s (s.shutL ds) K

/-- y says no less than x, cell by cell. -/
structure Fits (x y : AV) : Prop where
  ok : x.okE → y.okE
  rp : ∀ E l, ListC E x l → ListC E y l
/-- Behind an append of m elements (gy) to a row of n (g): whoever proves it tells the new row. -/
structure AppAt (bytes : Nat) (n m : Th Nat) (g gy : Th Nat → AV) (K : Th Nat → (Th Nat → AV) → Prop) : Prop where
  room : (n .o + m .o) * bytes ≤ 140737488355328
  ex : ∃ n' g', n' .o = n .o + m .o ∧ (∀ i, i < n .o → Fits (g fun _ => i) (g' fun _ => i)) ∧ (∀ j, j < m .o → Fits (gy fun _ => j) (g' fun _ => n .o + j)) ∧ K n' g'
/-- Behind a store into element i of a row of n (g), at offset off: the new row is told. -/
structure PutAt (n i : Th Nat) (g : Th Nat → AV) (c : Option AV) (K : (Th Nat → AV) → Prop) : Prop where
  room : i .o < n .o
  ex : ∃ g' c', c = some c' ∧ (∀ j, j < n .o → j ≠ i .o → Fits (g fun _ => j) (g' fun _ => j)) ∧ Fits c' (g' i) ∧ K g'
/-- Behind the clearing of n elements from number lo on of a row of m (g): the new row is told. -/
structure ClrAt (m lo n : Th Nat) (g : Th Nat → AV) (z : AV) (K : (Th Nat → AV) → Prop) : Prop where
  room : lo .o + n .o ≤ m .o
  ex : ∃ g', (∀ j, j < m .o → (j < lo .o ∨ lo .o + n .o ≤ j) → Fits (g fun _ => j) (g' fun _ => j)) ∧ (∀ j, lo .o ≤ j → j < lo .o + n .o → Fits z (g' fun _ => j)) ∧ K g'
/-- The elements that are appended. -/
def ysee (s : St) (sz : Nat) : AV → Option (Th Nat × (Th Nat → AV))
  | .nsl => some (fun _ => 0, fun _ => .nil)
  | .sl sz' n g => match sz == sz' with | true => some (n, g) | false => none
  | .row d => match s.b.get d with
    | .row sz' n g => match sz == sz' with | true => some (n, g) | false => none
    | _ => none
  | _ => none
def isPlace (p : Nat) : AV → Bool | .row d => d == p | _ => false
/-- Place p holds another row; all that named the old one is forgotten. -/
def St.grow (s : St) (p : Nat) (b : Blk) : St := ⟨s.t.kill p, .cons p b (s.b.kill p), s.df.kill p⟩

def aop (C : Cx) (o : RO) (dst : Option Nat) (s : St) (K : St → Prop) : Prop :=
  match o with
  | .alloc z => match dst with
    | some d => match fresh s d with | true => K (s.new d (.ptr d 0) (.cells z)) | false => False
    | none => False
  | .box x => match dst, (x.ev s).cells with
    | some d, some c => match fresh s d with | true => K (s.new d (.ptr d 0) (.cells c)) | false => False
    | _, _ => False
  | .bslice sz z n ps => match dst, fillc s (rep z n) ps with
    | some d, some c => match fresh s d, c.stillB, c.scals with
      | true, true, true => K (s.new d (.row d) (.row sz (fun _ => n) fun i => elemAt sz c (i .o)))
      | _, _, _ => False
    | _, _ => False
  | .append sz bytes x y => match dst, ysee s sz (y.ev s) with
    | some d, some (m, gy) => match x.ev s with
      | .nsl => match fresh s d with
        | true => AppAt bytes (fun _ => 0) m (fun _ => .nil) gy fun n' g' => K (s.new d (.row d) (.row sz n' g'))
        | false => False
      | .row p => match s.b.get p, isPlace p (y.ev s) with
        | .row sz' n g, false => match sz == sz' with
          | true => AppAt bytes n m g gy fun n' g' => K ((s.grow p (.row sz n' g')).set d (.row p))
          | false => False
        | _, _ => False
      | _ => False
    | _, _ => False
  | .store sz a v => match a.ev s, (v.ev s).cells with
    | .ptr d o, some vc => match s.b.get d with
      | .cells c => match vc.len == sz, c.over o vc with
        | true, some c' => K (s.put d (.cells c'))
        | _, _ => False
      | _ => False
    | .rptr d sz' i off, some vc => match s.b.get d with
      | .row sz'' n g => match sz' == sz'', vc.len == sz, vc.stillB, vc.scals with
        | true, true, true, true => PutAt n i g ((g i).over off vc) fun g' => K (s.put d (.row sz'' n g'))
        | _, _, _, _ => False
      | _ => False
    | _, _ => False
  | .mks sz bytes z l c => match dst, l.ev s, c.ev s with
    | some d, .int _ a, .int _ b => match fresh s d with
      | true => (True → 0 ≤ a .o ∧ a .o ≤ b .o ∧ (bytes : Int) * b .o ≤ 281474976710656 ∧ b .o ≤ 9223372036854775807) ∧ K (s.new d (.row d) (.row sz (fun _ => (a .o).toNat) fun _ => z))
      | false => False
    | _, _, _ => False
  | .peek f args => match fresh s (dst.getD 9999), (chain (evs s args)).frz s.b (frzP s.b 8) with
    | true, some c => CallAt C.P f (unchain c) (dst.getD 9999) .nil fun r _ => match r.flat with
      | true => ares C r dst s K
      | false => False
    | _, _ => False
  | .isNil e x => match x.ev s with
    | .nsl => K (s.setO dst (match e with | true => .tt | false => .ff))
    | .sl _ n _ => ∀ b : Th Bool, (b .o = e → n .o = 0) → K (s.setO dst (.bool b))
    | .row p => match s.b.get p with
      | .row _ n _ => ∀ b : Th Bool, (b .o = e → n .o = 0) → K (s.setO dst (.bool b))
      | _ => False
    | _ => False
  | .clr sz z x => match x.ev s with
    | .win d sz' lo n => match s.b.get d with
      | .row sz'' m g => match sz == sz', sz == sz'' with
        | true, true => ClrAt m lo n g z fun g' => K ((s.put d (.row sz'' m g')).setO dst (.tup .nil))
        | _, _ => False
      | _ => False
    | _ => False
  | .allocR sz n z => match dst with
    | some d => match fresh s d, z.stillB, z.scals with
      | true, true, true => K (s.new d (.ptr d 0) (.row sz (fun _ => n) fun i => elemAt sz z (i .o)))
      | _, _, _ => False
    | none => False
  | .s2s x => match x.ev s with
    | .row p => match s.b.get p, ltB p 10000 with
      | .row _ n _, true => (True → 0 < n .o) ∧ K (s.setO dst (.row p))
      | _, _ => False
    | _ => False
  | .call f args => acallS C f args dst ((chain (evs s args)).rows []) s K
  | .callv f args => acallvS C f args dst ((f.ev s).rows ((chain (evs s args)).rows [])) s K
  | .panic x => match x.ev s with
    | .ifc t v => C.X (some (.ifc t v)) s
    | _ => False
  | .defer f args => match dst, f.ev s with
    | none, .fn f first caps => K ⟨s.t, s.b, .cons (.fn f (first.app (chain (evs s args))) caps) s.df⟩
    | _, _ => False
  | o => match qev s o with
    | .bad => False
    | .ok v => K (s.setO dst v)
    | .cond p v => (True → p .o) ∧ K (s.setO dst v)

/-- A row of one's own that is sliced is shut for good. -/
def St.pre (s : St) : RO → St
  | .slice _ x _ _ => match x.ev s with | .row p => (match ltB p 9500 with | true => s.shut1 p | false => s) | _ => s
  | _ => s
def aops (C : Cx) : List ROp → St → (St → Prop) → Prop
  | [], s, K => K s
  | o :: r, s, K => match o.guard with
    | none => aop C o.op o.dst (s.pre o.op) fun s' => aops C r s' K
    | some (t, b) => match s.t.get t with
      | .tt => match b with
        | true => aop C o.op o.dst s fun s' => aops C r s' K
        | false => aops C r (s.setO o.dst (.tup .nil)) K
      | .ff => match b with
        | false => aop C o.op o.dst s fun s' => aops C r s' K
        | true => aops C r (s.setO o.dst (.tup .nil)) K
      | .bool x => (x .o = b → aop C o.op o.dst (s.set t (tv b)) fun s' => aops C r s' K) ∧ (x .o = !b → aops C r ((s.set t (tv !b)).setO o.dst (.tup .nil)) K)
      | .tup .nil => aops C r (s.setO o.dst (.tup .nil)) K
      | _ => False

def St.know (s : St) (c : Opd) (b : Bool) : St := match c with | .tmp t => s.set t (tv b) | .val _ => s
def outOf (id : Nat) : List It → Option (List It)
  | [] => none
  | .blk id' :: k => match id' == id with | true => some k | false => outOf id k
  | _ :: k => outOf id k

/-- What holds when control comes to a pile of items. -/
def Cont (C : Cx) (R : Env → St → Act → Prop) (rel : Code → RC → Prop) : List It → Exit → Act → World → Prop
  | [], .normal, a, w => ∃ E s, R E s a ∧ E.w = w ∧ C.X none s
  | [], .ret, a, w => ∃ E s, R E s a ∧ E.w = w ∧ C.X none s
  | [], .panic ch, a, w => ∃ E s v x, R E s a ∧ E.w = w ∧ ch = [{ v := x, recovered := false }] ∧ Rp E v x ∧ (∀ y, v.locs y → s.b.liveAt y) ∧ C.X (some v) s
  | [], _, _, _ => False
  | .code c :: k, .normal, a, w => ∀ c', rel c' c → c'.wp (C.P .o) (Cont C R rel k) a w
  | .blk _ :: k, .normal, a, w => Cont C R rel k .normal a w
  | .blk id :: k, .exit id', a, w => if id' = id then Cont C R rel k .normal a w else Cont C R rel k (.exit id') a w
  | .inv I :: _, .normal, a, w => ∃ E s, R E s a ∧ E.w = w ∧ I s
  | _ :: k, e, a, w => Cont C R rel k e a w

end Go.Proofs.YtiaenejafpbfkaaDoor.Sx
