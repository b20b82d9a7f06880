/- A symbolic executor for the model's code: states, calls, and the abstract weakest precondition. -/
import Derived.Test.YteeikiekofopnaaSxe
namespace Go.Proofs.Yteeikiekofopnaa.Sx
open Go
set_option linter.unusedSimpArgs false
set_option linter.unusedVariables false

def BL.liveAt (B : BL) (x : Nat) : Prop := (B.get x).live = true

structure Inv (E : Env) (B : BL) : Prop where
  blk : ∀ d, BlkRp E d (B.get d)
  dist : ∀ d d', B.liveAt d → B.liveAt d' → d ≠ d' → E.ρ d ≠ E.ρ d'
  live : ∀ d, B.liveAt d → E.ρ d < E.w.heap.size ∧ ∀ o, ¬ E.I (E.ρ d) o
  ibd : ∀ b o, E.I b o → b < E.w.heap.size
  nm : ∀ d x, (B.get d).locs x → B.liveAt x

/-- From E, B to E', B', where the places in D are new. -/
structure Post (E : Env) (B : BL) (E' : Env) (B' : BL) (D : Nat → Prop) : Prop where
  le : E.Le E'
  same : ∀ x, ¬ D x → E'.ρ x = E.ρ x ∧ (E'.rv x = E.rv x)
  os : E'.w.os = E.w.os
  tape : E'.w.tape = E.w.tape
  output : E'.w.output = E.w.output
  size : E.w.heap.size ≤ E'.w.heap.size
  old : ∀ b, b < E.w.heap.size → (∀ x, B.liveAt x → E.ρ x ≠ b) → E'.w.heap[b]? = E.w.heap[b]?
  dom : ∀ x, B'.liveAt x → B.liveAt x ∨ (D x ∧ E.w.heap.size ≤ E'.ρ x)
  keep : ∀ x, B.liveAt x → B'.liveAt x
  imm : ∀ b o, E'.I b o → E.I b o ∨ E.w.heap.size ≤ b

theorem Post.refl (E : Env) (B : BL) (D : Nat → Prop) : Post E B E B D :=
  ⟨.refl E, fun _ _ => ⟨rfl, rfl⟩, rfl, rfl, rfl, Nat.le_refl _, fun _ _ _ => rfl, fun _ h => .inl h, fun _ h => h, fun _ _ h => .inl h⟩

theorem Post.trans {E0 E E' : Env} {B0 B B' : BL} {D D' : Nat → Prop} (h : Post E0 B0 E B D) (k : Post E B E' B' D') (hD : ∀ x, D x → ¬ B0.liveAt x) (hd : ∀ x, D' x → D x ∧ ¬ B.liveAt x) : Post E0 B0 E' B' D where
  le := h.le.trans k.le
  same x hx := ⟨(k.same x fun q => hx (hd x q).1).1.trans (h.same x hx).1, (k.same x fun q => hx (hd x q).1).2.trans (h.same x hx).2⟩
  os := k.os.trans h.os
  tape := k.tape.trans h.tape
  output := k.output.trans h.output
  size := Nat.le_trans h.size k.size
  old b hb hn := by
    rw [k.old b (Nat.lt_of_lt_of_le hb h.size) ?_, h.old b hb hn]
    intro x hx
    rcases h.dom x hx with h1 | ⟨_, h2⟩
    · rw [(h.same x fun q => hD x q h1).1]; exact hn x h1
    · omega
  dom x hx := by
    rcases k.dom x hx with h1 | ⟨h1, h2⟩
    · rcases h.dom x h1 with h3 | ⟨h3, h4⟩
      · exact .inl h3
      · exact .inr ⟨h3, by rw [(k.same x fun q => (hd x q).2 h1).1]; exact h4⟩
    · exact .inr ⟨(hd x h1).1, Nat.le_trans h.size h2⟩
  keep x hx := k.keep x (h.keep x hx)
  imm b o hi := by
    rcases k.imm b o hi with h1 | h1
    · exact h.imm b o h1
    · exact .inr (Nat.le_trans h.size h1)

/-! ### calls -/
def unchain : AV → List AV
  | .cons h t => h :: unchain t
  | _ => []

/-- May the machine enter this function? -/
def callable (P : Program) (f : Nat) : Bool := match P.funcs[f]? with | some fn => fn.body.isSome && fn.name != "runtime.NumGoroutine" | none => false

def ARes.locs : ARes → Nat → Prop | .ret v, x => v.locs x | .pan v, x => v.locs x
def Ends (E : Env) : ARes → Ending → Prop
  | .ret v, .returned x => Rp E v x
  | .pan v, .panicked ch => ∃ x, ch = [{ v := x, recovered := false }] ∧ Rp E v x
  | _, _ => False

/-- A call of function f comes to an end that K speaks of, whatever the memory beyond. Place d is free for what it makes. -/
structure CallAt (P : Th Program) (f : Nat) (as : List AV) (d : Nat) (B : BL) (K : ARes → BL → Prop) : Prop where
  can : callable (P .o) f = true
  run : ∀ (E : Env) (vs : List Value), Inv E B → ListC E (chain as) vs → (∀ x, (chain as).locs x → B.liveAt x) → ¬ B.liveAt d →
    Calls (P .o) f vs.toArray E.w fun e w' => ∃ E' r B', E'.w = w' ∧ K r B' ∧ Ends E' r e ∧ Inv E' B' ∧ Post E B E' B' (· = d) ∧ (∀ x, r.locs x → B'.liveAt x)

theorem CallAt.mono {P : Th Program} {f : Nat} {as : List AV} {d : Nat} {B : BL} {K K' : ARes → BL → Prop} (h : CallAt P f as d B K) (hk : ∀ r B', K r B' → K' r B') : CallAt P f as d B K' :=
  ⟨h.can, fun E vs h1 h2 h3 h4 => (h.run E vs h1 h2 h3 h4).mono fun e w' ⟨E', r, B', a, b, c⟩ => ⟨E', r, B', a, hk _ _ b, c⟩⟩

/-! ### rows shut for good -/
/-- Place d told as y instead. -/
def AV.fz : AV → Nat → AV → AV
  | .row x, d, y => match x == d with | true => y | false => .row x
  | .ptr x o, d, _ => match x == d with | true => .any | false => .ptr x o
  | .rptr x s i o, d, _ => match x == d with | true => .any | false => .rptr x s i o
  | .iptr c, d, y => .iptr (c.fz d y)
  | .fn f a b, d, y => .fn f (a.fz d y) (b.fz d y)
  | .ifc t v, d, y => .ifc t (v.fz d y)
  | .agg c, d, y => .agg (c.fz d y)
  | .tup c, d, y => .tup (c.fz d y)
  | .cons h t, d, y => .cons (h.fz d y) (t.fz d y)
  | v, _, _ => v
def AL.fz (d : Nat) (y : AV) : AL → AL
  | .nil => .nil
  | .cons k v r => .cons k (v.fz d y) (r.fz d y)
def Blk.fz (d : Nat) (y : AV) : Blk → Blk
  | .cells c => .cells (c.fz d y)
  | b => b
def BL.fz (d : Nat) (y : AV) : BL → BL
  | .nil => .nil
  | .cons k v r => .cons k (v.fz d y) (r.fz d y)
/-- The rows of one's own that a value names. -/
def AV.rows : AV → List Nat → List Nat
  | .row d, l => match decide (d < 10000) with | true => d :: l | false => l
  | .iptr c, l => c.rows l
  | .fn _ a b, l => a.rows (b.rows l)
  | .ifc _ v, l => v.rows l
  | .agg c, l => c.rows l
  | .tup c, l => c.rows l
  | .cons h t, l => h.rows (t.rows l)
  | _, l => l
def St.shut1 (s : St) (d : Nat) : St := match decide (d < 10000), s.b.get d with
  | true, .row sz n g => ⟨s.t.fz d (.sl sz n g), .cons d .no (s.b.fz d (.sl sz n g)), s.df.fz d (.sl sz n g)⟩
  | _, _ => s
def St.shutL (s : St) : List Nat → St
  | [] => s
  | d :: r => (s.shut1 d).shutL r

/-! ### the executor -/
structure ROp where
  dst : Option Nat
  op : RO
  guard : Option (Nat × Bool)

inductive RC : Type
  | skip
  | reg (ops : List ROp)
  | seq (a b : RC)
  | cond (c : Opd) (a b : RC)
  | block (id : Nat) (b : RC)
  | loop (b : RC)
  | exit (id : Nat)
  | ret
  | mark (c : RC)
/-- Without the marks. -/
def RC.erase : RC → RC
  | .seq a b => .seq a.erase b.erase
  | .cond c a b => .cond c a.erase b.erase
  | .block id b => .block id b.erase
  | .loop b => .loop b.erase
  | .mark c => c.erase
  | c => c

inductive It : Type
  | code (c : RC)
  | blk (id : Nat)
  | inv (I : St → Prop)

def St.setO (s : St) (d : Option Nat) (v : AV) : St := match d with | some d => s.set d v | none => s
def tv : Bool → AV | true => .tt | false => .ff
def AV.stillB : AV → Bool
  | .row _ => false
  | .ptr _ _ => false
  | .rptr _ _ _ _ => false
  | .iptr c => c.stillB
  | .fn _ a b => match a.stillB with | true => b.stillB | false => false
  | .ifc _ v => v.stillB
  | .agg c => c.stillB
  | .tup c => c.stillB
  | .cons h t => match h.stillB with | true => t.stillB | false => false
  | _ => true

/-- What a run is held against. -/
structure Cx where
  P : Th Program
  N : Nat
  X : Option AV → St → Prop

def ltB (a b : Nat) : Bool := decide (a < b)
/-- A new place d. -/
def fresh (s : St) (d : Nat) : Bool := match (s.b.get d).live with | true => false | false => ltB d 10000

def acall (C : Cx) (f : Nat) (as : St → List AV) (dst : Option Nat) (s : St) (K : St → Prop) : Prop :=
  match fresh s (dst.getD 9999) with
  | true => CallAt C.P f (as s) (dst.getD 9999) s.b fun r B' => match r with
    | .ret v => K ((⟨s.t, B', s.df⟩ : St).setO dst v)
    | .pan v => C.X (some v) ⟨s.t, B', s.df⟩
  | false => False
def acallv (C : Cx) (f : Opd) (args : List Opd) (dst : Option Nat) (s : St) (K : St → Prop) : Prop :=
  match f.ev s with
  | .fn (.func f) first caps => acall C f (fun s => unchain first ++ (evs s args ++ unchain caps)) dst s K
  | _ => False

def aop (C : Cx) (o : RO) (dst : Option Nat) (s : St) (K : St → Prop) : Prop :=
  match o with
  | .alloc z => match dst with
    | some d => match fresh s d with | true => K (s.new d (.ptr d 0) (.cells z)) | false => False
    | none => False
  | .box x => match dst, (x.ev s).cells with
    | some d, some c => match fresh s d with | true => K (s.new d (.ptr d 0) (.cells c)) | false => False
    | _, _ => False
  | .bslice sz z n ps => match dst, fillc s (rep z n) ps with
    | some d, some c => match fresh s d, c.stillB with
      | true, true => K (s.new d (.row d) (.row sz (fun _ => n) fun i => elemAt sz c (i .o)))
      | _, _ => False
    | _, _ => False
  | .store sz a v => match a.ev s, (v.ev s).cells with
    | .ptr d o, some vc => match s.b.get d with
      | .cells c => match vc.len == sz, c.over o vc with
        | true, some c' => K (s.put d (.cells c'))
        | _, _ => False
      | _ => False
    | _, _ => False
  | .call f args => acall C f (evs · args) dst (s.shutL ((chain (evs s args)).rows [])) K
  | .callv f args => acallv C f args dst (s.shutL ((f.ev s).rows ((chain (evs s args)).rows []))) K
  | .panic x => match x.ev s with
    | .ifc t v => C.X (some (.ifc t v)) s
    | _ => False
  | .defer f args => match dst, f.ev s with
    | none, .fn f first caps => K ⟨s.t, s.b, .cons (.fn f (first.app (chain (evs s args))) caps) s.df⟩
    | _, _ => False
  | o => match qev s o with
    | .bad => False
    | .ok v => K (s.setO dst v)
    | .cond p v => (True → p .o) ∧ K (s.setO dst v)

def aops (C : Cx) : List ROp → St → (St → Prop) → Prop
  | [], s, K => K s
  | o :: r, s, K => match o.guard with
    | none => aop C o.op o.dst s fun s' => aops C r s' K
    | some (t, b) => match s.t.get t with
      | .tt => match b with
        | true => aop C o.op o.dst s fun s' => aops C r s' K
        | false => aops C r (s.setO o.dst (.tup .nil)) K
      | .ff => match b with
        | false => aop C o.op o.dst s fun s' => aops C r s' K
        | true => aops C r (s.setO o.dst (.tup .nil)) K
      | .bool x => (x .o = b → aop C o.op o.dst (s.set t (tv b)) fun s' => aops C r s' K) ∧ (x .o = !b → aops C r ((s.set t (tv !b)).setO o.dst (.tup .nil)) K)
      | .tup .nil => aops C r (s.setO o.dst (.tup .nil)) K
      | _ => False

def St.know (s : St) (c : Opd) (b : Bool) : St := match c with | .tmp t => s.set t (tv b) | .val _ => s
def outOf (id : Nat) : List It → Option (List It)
  | [] => none
  | .blk id' :: k => match id' == id with | true => some k | false => outOf id k
  | _ :: k => outOf id k

/-- What holds when control comes to a pile of items. -/
def Cont (C : Cx) (R : Env → St → Act → Prop) (rel : Code → RC → Prop) : List It → Exit → Act → World → Prop
  | [], .normal, a, w => ∃ E s, R E s a ∧ E.w = w ∧ C.X none s
  | [], .ret, a, w => ∃ E s, R E s a ∧ E.w = w ∧ C.X none s
  | [], .panic ch, a, w => ∃ E s v x, R E s a ∧ E.w = w ∧ ch = [{ v := x, recovered := false }] ∧ Rp E v x ∧ (∀ y, v.locs y → s.b.liveAt y) ∧ C.X (some v) s
  | [], _, _, _ => False
  | .code c :: k, .normal, a, w => ∀ c', rel c' c → c'.wp (C.P .o) (Cont C R rel k) a w
  | .blk _ :: k, .normal, a, w => Cont C R rel k .normal a w
  | .blk id :: k, .exit id', a, w => if id' = id then Cont C R rel k .normal a w else Cont C R rel k (.exit id') a w
  | .inv I :: _, .normal, a, w => ∃ E s, R E s a ∧ E.w = w ∧ I s
  | _ :: k, e, a, w => Cont C R rel k e a w

end Go.Proofs.Yteeikiekofopnaa.Sx
