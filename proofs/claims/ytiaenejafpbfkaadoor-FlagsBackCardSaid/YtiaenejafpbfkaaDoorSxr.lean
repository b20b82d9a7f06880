/- A symbolic executor for the model's code: regions whose order of evaluation is left open. -/
import Derived.Test.YtiaenejafpbfkaaDoorSxj
import Derived.Orders
namespace Go.Proofs.YtiaenejafpbfkaaDoor.Sx
open Go
set_option linter.unusedSimpArgs false
set_option linter.unusedVariables false

/-! ### what an operation looks at -/
def RO.opds : RO → List Opd
  | .mov x => [x] | .pick c a b => [c, a, b] | .bin _ _ x y => [x, y] | .un _ x => [x] | .load1 x => [x] | .loadA _ x => [x] | .fld _ x => [x] | .field1 _ x => [x] | .fieldA _ _ x => [x]
  | .idx _ x i => [x, i] | .idxS x i => [x, i] | .len x => [x] | .lenS x => [x] | .mm _ xs => xs | .sliceS x lo hi => x :: (lo.toList ++ hi.toList) | .slice _ x lo hi => x :: (lo.toList ++ hi.toList)
  | .mkfn _ a b => a ++ b | .mkif _ x => [x] | .assert _ _ x => [x] | .ext _ x => [x] | .conv _ x => [x] | .build _ ps => ps.map (·.2.2) | .alloc _ => [] | .box x => [x] | .bslice _ _ _ ps => ps.map (·.2.2)
  | .append _ _ x y => [x, y] | .store _ a v => [a, v] | .call _ args => args | .callv f args => f :: args | .panic x => [x] | .defer f args => f :: args | .chk x => [x] | .b2s x => [x] | .s2b x => [x] | .s2s x => [x] | .mks _ _ _ l c => [l, c] | .peek _ args => args | .isNil _ x => [x] | .clr _ _ x => [x] | .allocR _ _ _ => [] | .idxA _ _ x i => [x, i]
/-- The operand through which memory is read. -/
def RO.rd : RO → Option Opd
  | .load1 x => some x | .loadA _ x => some x | .idx _ x _ => some x | .idxA _ _ x _ => some x | .slice _ x _ _ => some x | .len x => some x | .b2s x => some x | _ => none
def place : AV → Option Nat | .ptr d _ => some d | .rptr d _ _ _ => some d | .win d _ _ _ => some d | .row d => some d | _ => none
def rdp (s : St) (op : RO) : Option Nat := match op.rd with | some x => place (x.ev s) | none => none
def isNew : RO → Bool | .alloc _ => true | .box _ => true | .bslice _ _ _ _ => true | .mks _ _ _ _ _ => true | _ => false

section
variable {s r : St}

theorem evs_congr : ∀ l : List Opd, (∀ x ∈ l, x.ev r = x.ev s) → evs r l = evs s l
  | [], _ => rfl
  | x :: l, h => by simp only [evs]; rw [h x (by simp), evs_congr l fun y hy => h y (by simp [hy])]
theorem evo_congr : ∀ o : Option Opd, (∀ x ∈ o.toList, x.ev r = x.ev s) → evo r o = evo s o
  | none, _ => rfl
  | some x, h => by simp only [evo]; rw [h x (by simp)]
theorem fillc_congr : ∀ (ps : List (Nat × Nat × Opd)) (z : AV), (∀ x ∈ ps.map (·.2.2), x.ev r = x.ev s) → fillc r z ps = fillc s z ps
  | [], z, _ => rfl
  | (o, n, x) :: q, z, h => by
    have hx : x.ev r = x.ev s := h x (by simp)
    unfold fillc
    rw [hx]
    split
    · split
      · split
        · exact fillc_congr q _ fun y hy => h y (by simp at hy ⊢; exact .inr hy)
        · rfl
      · rfl
    · rfl

theorem aload_congr {f : AV → Option AV} {x : AV} (h : ∀ d, place x = some d → r.b.get d = s.b.get d) : aload f r x = aload f s x := by
  unfold aload
  split
  · rfl
  · rename_i d o; rw [h d rfl]
  · rename_i d sz i o; rw [h d rfl]
  · rfl
theorem aidx_congr {sz : Nat} {x i : AV} (h : ∀ d, place x = some d → r.b.get d = s.b.get d) : aidx sz r x i = aidx sz s x i := by
  unfold aidx
  split
  · rfl
  · rename_i d k a; rw [h d rfl]
  · rename_i d sz1 lo n k a; rw [h d rfl]
  · rfl
theorem aidxA_congr {sz len : Nat} {x i : AV} (h : ∀ d, place x = some d → r.b.get d = s.b.get d) : aidxA sz len r x i = aidxA sz len s x i := by
  unfold aidxA
  split
  · rename_i d k a; rw [h d rfl]
  · rename_i d sz' i' off k a; rw [h d rfl]
  · rfl
theorem aslice_congr {sz : Nat} {x : AV} {lo hi : Option AV} (h : ∀ d, place x = some d → r.b.get d = s.b.get d) : aslice sz r x lo hi = aslice sz s x lo hi := by
  unfold aslice
  split
  · rfl
  · rename_i d; rw [h d rfl]
  · rfl
theorem alen_congr {x : AV} (h : ∀ d, place x = some d → r.b.get d = s.b.get d) : alen r x = alen s x := by
  unfold alen
  split
  · rfl
  · rfl
  · rename_i d; rw [h d rfl]
  · rename_i d _ _ _; rw [h d rfl]
  · rfl

theorem ab2s_congr {x : AV} (h : ∀ d, place x = some d → r.b.get d = s.b.get d) : ab2s r x = ab2s s x := by
  unfold ab2s
  split
  · rfl
  · rfl
  · rename_i d; rw [h d rfl]
  · rfl

theorem qev_congr {op : RO} (h : ∀ x ∈ op.opds, x.ev r = x.ev s) (hb : ∀ d, rdp s op = some d → r.b.get d = s.b.get d) : qev r op = qev s op := by
  cases op
  case load1 x => simp only [qev]; rw [h x (by simp [RO.opds])]; exact aload_congr hb
  case loadA n x => simp only [qev]; rw [h x (by simp [RO.opds])]; exact aload_congr hb
  case idx sz x i => simp only [qev]; rw [h x (by simp [RO.opds]), h i (by simp [RO.opds])]; exact aidx_congr hb
  case len x => simp only [qev]; rw [h x (by simp [RO.opds])]; exact alen_congr hb
  case idxA sz len x i => simp only [qev]; rw [h x (by simp [RO.opds]), h i (by simp [RO.opds])]; exact aidxA_congr hb
  case b2s x => simp only [qev]; rw [h x (by simp [RO.opds])]; exact ab2s_congr hb
  case mm mx xs => simp only [qev]; rw [evs_congr xs h]
  case mkfn f a b => simp only [qev]; rw [evs_congr a fun x hx => h x (by simp [RO.opds, hx]), evs_congr b fun x hx => h x (by simp [RO.opds, hx])]
  case build z ps => simp only [qev]; rw [fillc_congr ps z h]
  case sliceS x lo hi => simp only [qev]; rw [h x (by simp [RO.opds]), evo_congr lo fun y hy => h y (by simp only [RO.opds, List.mem_cons, List.mem_append]; exact .inr (.inl hy)), evo_congr hi fun y hy => h y (by simp only [RO.opds, List.mem_cons, List.mem_append]; exact .inr (.inr hy))]
  case slice sz x lo hi => simp only [qev]; rw [h x (by simp [RO.opds]), evo_congr lo fun y hy => h y (by simp only [RO.opds, List.mem_cons, List.mem_append]; exact .inr (.inl hy)), evo_congr hi fun y hy => h y (by simp only [RO.opds, List.mem_cons, List.mem_append]; exact .inr (.inr hy))]; exact aslice_congr hb
  all_goals (simp only [RO.opds, List.mem_cons, List.not_mem_nil, or_false, forall_eq_or_imp, forall_eq] at h; simp only [qev, h])

/-- What is read is there. -/
theorem gives_live {op : RO} {v : AV} (hg : (qev s op).gives v) {d : Nat} (hd : rdp s op = some d) : s.b.liveAt d := by
  have hl : ∀ f x, (aload f s x).gives v → place x = some d → s.b.liveAt d := by
    intro f x hg hp
    unfold aload at hg
    split at hg
    · cases hp
    · rename_i d' o
      cases hp
      split at hg
      · rename_i c hc; simp [BL.liveAt, hc, Blk.live]
      · exact (gives_bad.1 hg).elim
    · rename_i d' sz i o
      cases hp
      split at hg
      · rename_i c hc; simp [BL.liveAt, hc, Blk.live]
      · exact (gives_bad.1 hg).elim
    · exact (gives_bad.1 hg).elim
  cases op
  case load1 x => exact hl _ _ hg hd
  case loadA n x => exact hl _ _ hg hd
  case idx sz x i =>
    have hd : place (x.ev s) = some d := hd
    simp only [qev] at hg
    unfold aidx at hg
    split at hg
    · rename_i he _; rw [he] at hd; cases hd
    · rename_i d' k a he hi
      rw [he] at hd
      cases hd
      split at hg
      · rename_i c hc; simp [BL.liveAt, hc, Blk.live]
      · exact (gives_bad.1 hg).elim
    · rename_i d' sz1 lo n k a he hi
      rw [he] at hd
      cases hd
      split at hg
      · rename_i c hc; simp [BL.liveAt, hc, Blk.live]
      · exact (gives_bad.1 hg).elim
    · exact (gives_bad.1 hg).elim
  case idxA sz len x i =>
    have hd : place (x.ev s) = some d := hd
    simp only [qev] at hg
    unfold aidxA at hg
    split at hg
    · rename_i d' k a he hi
      rw [he] at hd
      cases hd
      split at hg
      · rename_i c hc; simp [BL.liveAt, hc, Blk.live]
      · exact (gives_bad.1 hg).elim
    · rename_i d' sz' i' off k a he hi
      rw [he] at hd
      cases hd
      split at hg
      · rename_i c hc; simp [BL.liveAt, hc, Blk.live]
      · exact (gives_bad.1 hg).elim
    · exact (gives_bad.1 hg).elim
  case slice sz x lo hi =>
    have hd : place (x.ev s) = some d := hd
    simp only [qev] at hg
    unfold aslice at hg
    split at hg
    · rename_i he; rw [he] at hd; cases hd
    · rename_i d' he
      rw [he] at hd
      cases hd
      split at hg
      · rename_i c hc; simp [BL.liveAt, hc, Blk.live]
      · exact (gives_bad.1 hg).elim
    · exact (gives_bad.1 hg).elim
  case len x =>
    have hd : place (x.ev s) = some d := hd
    simp only [qev] at hg
    unfold alen at hg
    split at hg
    · rename_i he; rw [he] at hd; cases hd
    · rename_i he; rw [he] at hd; cases hd
    · rename_i d' he
      rw [he] at hd
      cases hd
      split at hg
      · rename_i c hc; simp [BL.liveAt, hc, Blk.live]
      · exact (gives_bad.1 hg).elim
    · rename_i d' _ _ _ he
      rw [he] at hd
      cases hd
      split at hg
      · rename_i c hc; simp [BL.liveAt, hc, Blk.live]
      · exact (gives_bad.1 hg).elim
    · exact (gives_bad.1 hg).elim
  case b2s x =>
    have hd : place (x.ev s) = some d := hd
    simp only [qev] at hg
    unfold ab2s at hg
    split at hg
    · rename_i he; rw [he] at hd; cases hd
    · rename_i he; rw [he] at hd; cases hd
    · rename_i d' he
      rw [he] at hd
      cases hd
      split at hg
      · rename_i c hc; simp [BL.liveAt, hc, Blk.live]
      · exact (gives_bad.1 hg).elim
    · exact (gives_bad.1 hg).elim
  all_goals cases hd

/-- What an operation that makes a block makes, at place d. -/
def anew (s : St) : RO → Nat → Option (AV × Blk)
  | .alloc z, d => some (.ptr d 0, .cells z)
  | .box x, d => match (x.ev s).cells with | some c => some (.ptr d 0, .cells c) | none => none
  | .bslice sz z n ps, d => match fillc s (rep z n) ps with
    | some c => match c.stillB, c.scals with
      | true, true => some (.row d, .row sz (fun _ => n) fun i => elemAt sz c (i .o))
      | _, _ => none
    | none => none
  | .mks sz _ z l c, d => match l.ev s, c.ev s with
    | .int _ a, .int _ _ => some (.row d, .row sz (fun _ => (a .o).toNat) fun _ => z)
    | _, _ => none
  | _, _ => none
/-- What it asks. -/
def acond (s : St) : RO → Prop
  | .mks _ bytes _ l c => match l.ev s, c.ev s with
    | .int _ a, .int _ b => 0 ≤ a .o ∧ a .o ≤ b .o ∧ (bytes : Int) * b .o ≤ 281474976710656 ∧ b .o ≤ 9223372036854775807
    | _, _ => True
  | _ => True
theorem acond_congr {op : RO} (h : ∀ x ∈ op.opds, x.ev r = x.ev s) : acond r op = acond s op := by
  cases op <;> simp only [acond]
  case mks sz by' z l c => rw [h l (by simp [RO.opds]), h c (by simp [RO.opds])]
theorem anew_congr {op : RO} {d : Nat} (h : ∀ x ∈ op.opds, x.ev r = x.ev s) : anew r op d = anew s op d := by
  cases op <;> simp only [anew]
  case mks sz by' z l c => rw [h l (by simp [RO.opds]), h c (by simp [RO.opds])]
  case box x => rw [h x (by simp [RO.opds])]
  case bslice sz z n ps => rw [fillc_congr ps _ h]
theorem aop_new {C : Cx} {op : RO} {dst : Option Nat} {K : St → Prop} (hn : isNew op = true) (h : aop C op dst s K) :
    ∃ d v b, dst = some d ∧ fresh s d = true ∧ anew s op d = some (v, b) ∧ acond s op ∧ K (s.new d v b) := by
  cases op <;> simp only [isNew, Bool.false_eq_true] at hn
  case alloc z =>
    simp only [aop] at h
    split at h
    · split at h
      · rename_i d _ hf; exact ⟨d, _, _, rfl, hf, rfl, trivial, h⟩
      · exact h.elim
    · exact h.elim
  case box x =>
    simp only [aop] at h
    split at h
    · rename_i d c hc
      split at h
      · rename_i hf; exact ⟨d, _, _, rfl, hf, by simp only [anew, hc], trivial, h⟩
      · exact h.elim
    · exact h.elim
  case bslice sz z n ps =>
    simp only [aop] at h
    split at h
    · rename_i d c hc
      split at h
      · rename_i hf h1 h2; exact ⟨d, _, _, rfl, hf, by simp only [anew, hc, h1, h2], trivial, h⟩
      · exact h.elim
    · exact h.elim
  case mks sz by' z l c =>
    simp only [aop] at h
    split at h
    · rename_i d k1 a k2 b he1 he2
      split at h
      · rename_i hf
        exact ⟨d, _, _, rfl, hf, by simp only [anew, he1, he2], by simp only [acond, he1, he2]; exact h.1 trivial, h.2⟩
      · exact h.elim
    · exact h.elim
theorem aop_new_mk {C : Cx} {op : RO} {d : Nat} {K : St → Prop} {v : AV} {b : Blk} (hf : fresh s d = true) (ha : anew s op d = some (v, b)) (hc : acond s op) (h : K (s.new d v b)) : aop C op (some d) s K := by
  cases op <;> simp only [anew, reduceCtorEq] at ha
  case alloc z => cases ha; simp only [aop, hf]; exact h
  case box x =>
    split at ha
    · rename_i c hcc; cases ha; simp only [aop, hcc, hf]; exact h
    · cases ha
  case bslice sz z n ps =>
    split at ha
    · rename_i c hcc
      split at ha
      · rename_i h1 h2; cases ha; simp only [aop, hcc, hf, h1, h2]; exact h
      · cases ha
    · cases ha
  case mks sz by' z l c =>
    split at ha
    · rename_i k1 a k2 b he1 he2
      cases ha
      simp only [acond, he1, he2] at hc
      simp only [aop, he1, he2, hf]
      exact ⟨fun _ => hc, h⟩
    · cases ha
theorem aop_quiet_mk {C : Cx} {op : RO} {dst : Option Nat} {K : St → Prop} {v : AV} (hq : isQuiet op = true) (hg : (qev s op).gives v) (h : K (s.setO dst v)) : aop C op dst s K := by
  have key : (match qev s op with | .bad => False | .ok v => K (s.setO dst v) | .cond p v => (True → p .o) ∧ K (s.setO dst v)) := by
    rcases hg with h1 | ⟨p, h1, h2⟩
    · rw [h1]; exact h
    · rw [h1]; exact ⟨fun _ => h2, h⟩
  cases op <;> simp only [isQuiet, Bool.false_eq_true] at hq <;> exact key

/-! ### names -/
def AV.avoid (p : Nat) : AV → Bool
  | .row x => !(x == p)
  | .ptr x _ => !(x == p)
  | .rptr x _ _ _ => !(x == p)
  | .win x _ _ _ => !(x == p)
  | .iptr c => c.avoid p
  | .fn _ a b => match a.avoid p with | true => b.avoid p | false => false
  | .ifc _ v => v.avoid p
  | .agg c => c.avoid p
  | .tup c => c.avoid p
  | .cons h t => match h.avoid p with | true => t.avoid p | false => false
  | _ => true
def Blk.avoid (p : Nat) : Blk → Bool | .cells c => c.avoid p | _ => true
theorem avoid_kill {p : Nat} (x : AV) (h : x.avoid p = true) : x.kill p = x := by
  induction x with
  | row x => simp [AV.avoid] at h; simp [AV.kill, h]
  | ptr x o => simp [AV.avoid] at h; simp [AV.kill, h]
  | rptr x s i o => simp [AV.avoid] at h; simp [AV.kill, h]
  | win x s i o => simp [AV.avoid] at h; simp [AV.kill, h]
  | iptr c ih => simp [AV.kill, ih h]
  | fn f a b iha ihb => unfold AV.avoid at h; split at h
                        · rename_i ha; simp [AV.kill, iha ha, ihb h]
                        · cases h
  | ifc t v ih => simp [AV.kill, ih h]
  | agg c ih => simp [AV.kill, ih h]
  | tup c ih => simp [AV.kill, ih h]
  | cons a b iha ihb => unfold AV.avoid at h; split at h
                        · rename_i ha; simp [AV.kill, iha ha, ihb h]
                        · cases h
  | _ => rfl
theorem avoid_blk {p : Nat} (b : Blk) (h : b.avoid p = true) : b.kill p = b := by
  cases b with
  | cells c => simp [Blk.kill, avoid_kill c h]
  | _ => rfl
end

/-! ### the rule -/
/-- Forget what an operation that may be late yields. -/
def strip1 (u : ROp) (s : St) : St := match u.dst with
  | some d => match isNew u.op with
    | true => ⟨.cons d .any (s.t.kill d), .cons d .no (s.b.kill d), s.df.kill d⟩
    | false => ⟨.cons d .any s.t, s.b, s.df⟩
  | none => s
def strip : List ROp → St → St | [], s => s | u :: r, s => strip r (strip1 u s)
def aresU (C : Cx) (us : List ROp) (r : ARes) (dst : Option Nat) (s : St) (K : St → Prop) : Prop := match r with
  | .ret v => K (s.setO dst v)
  | .pan v => match v.flat with | true => C.X (some v) (strip us s) | false => False
/-- What may be read later is as it was. -/
def keepK (s : St) (cs : List Nat) (B' : BL) (Q : Prop) : List ROp → Prop
  | [] => Q
  | u :: r => match rdp s u.op with
    | some x => match cs.contains x with
      | true => B'.get x = s.b.get x ∧ keepK s cs B' Q r
      | false => keepK s cs B' Q r
    | none => keepK s cs B' Q r
/-- No block that may yet be to come is among these. -/
def clear (cs : List Nat) : List ROp → Bool
  | [] => true
  | u :: r => match isNew u.op, u.dst with
    | true, some d => match cs.contains d with | true => false | false => clear cs r
    | _, _ => clear cs r
def acallU2 (C : Cx) (us : List ROp) (f : Nat) (as : List AV) (dst : Option Nat) (s : St) (cs : List Nat) (K : St → Prop) : Prop :=
  match fresh s (dst.getD 9999), (chain as).among cs, closed s.b cs cs, rowsOf s.b cs, clear (dst.getD 9999 :: cs) us with
  | true, true, true, [], true => CallAt C.P f as (dst.getD 9999) (s.b.pick cs .nil) fun r B' => keepK s cs B' (aresU C us r dst (s.after (dst.getD 9999) cs B') K) us
  | _, _, _, _, _ => False
def acallU1 (C : Cx) (us : List ROp) (f : Nat) (as : List AV) (dst : Option Nat) (s : St) (K : St → Prop) : Prop := acallU2 C us f as dst s (reach s.b 100 ((chain as).ids []) []) K
def acallL2 (C : Cx) (us : List ROp) (f : Nat) (as : List AV) (dst : Option Nat) (s0 s : St) (cs : List Nat) (K : St → Prop) : Prop :=
  match fresh s (dst.getD 9999), (chain as).among cs, closed s.b cs cs, cs with
  | true, true, true, [] => CallAt C.P f as (dst.getD 9999) .nil fun r B' => match r.flat with
    | true => aresU C us r dst s0 K
    | false => False
  | _, _, _, _ => False
def acallL1 (C : Cx) (us : List ROp) (f : Nat) (as : List AV) (dst : Option Nat) (ds : List Nat) (s0 s : St) (K : St → Prop) : Prop :=
  match clear ds us with
  | true => acallL2 C us f as dst s0 s (reach s.b 100 ((chain as).ids []) []) K
  | false => False
def acallU (C : Cx) (us : List ROp) (f : Nat) (as : St → List AV) (dst : Option Nat) (s : St) (K : St → Prop) : List Nat → Prop
  | [] => acallU1 C us f (as s) dst s K
  | d :: ds => acallL1 C us f (as (s.shutL (d :: ds))) dst (d :: ds) s (s.shutL (d :: ds)) K
def acallvU (C : Cx) (us : List ROp) (f : Opd) (args : List Opd) (dst : Option Nat) (ds : List Nat) (s : St) (K : St → Prop) : Prop :=
  match f.ev (s.shutL ds) with
  | .fn (.func g) first caps => acallU C us g (fun s => unchain first ++ (evs s args ++ unchain caps)) dst s K ds
  | _ => False
def evsAvoid (s : St) (p : Nat) : List Opd → Bool
  | [] => true
  | x :: r => match (x.ev s).avoid p with | true => evsAvoid s p r | false => false
/-- Row p may grow while these are to come. -/
def okGrow (s : St) (p : Nat) : List ROp → Bool
  | [] => true
  | u :: r => match evsAvoid s p u.op.opds, (match u.dst with | some d => (match (s.t.get d).avoid p with | true => (s.b.get d).avoid p | false => false) | none => true), (match rdp s u.op with | some x => (s.b.get x).avoid p | none => true) with
    | true, true, true => okGrow s p r
    | _, _, _ => false
def okApp (us : List ROp) (s : St) (x y : Opd) : Bool :=
  match (match place (y.ev s) with | some d => clear [d] us | none => true) with
  | true => match x.ev s with
    | .row p => match clear [p] us with | true => okGrow s p us | false => false
    | _ => true
  | false => false
/-- What is yet to come does not look where a store goes. -/
def noRd (s : St) (d : Nat) : List ROp → Bool
  | [] => true
  | u :: r => match (match rdp s u.op with | some x => x == d | none => false) with | true => false | false => noRd s d r
def okPut (us : List ROp) (s : St) (x : Opd) : Bool := match x.ev s with
  | .ptr d _ => match clear [d] us with | true => noRd s d us | false => false
  | .rptr d _ _ _ => match clear [d] us with | true => noRd s d us | false => false
  | _ => false
def adopU (C : Cx) (us : List ROp) (o : RO) (dst : Option Nat) (s : St) (K : St → Prop) : Prop :=
  match o with
  | .call f args => acallU C us f (evs · args) dst s K ((chain (evs s args)).rows [])
  | .callv f args => acallvU C us f args dst ((f.ev s).rows ((chain (evs s args)).rows [])) s K
  | .append sz bytes x y => match okApp us s x y with | true => aop C (.append sz bytes x y) dst s K | false => False
  | .mov x => K (s.setO dst (x.ev s))
  | .store sz x y => match okPut us s x with | true => aop C (.store sz x y) dst s K | false => False
  | _ => False
def adop (C : Cx) (us : List ROp) (o : RO) (dst : Option Nat) (s : St) (K : St → Prop) : Prop := match us with
  | [] => aop C o dst s K
  | u :: r => adopU C (u :: r) o dst s K
def pickD (all : List DOp) : List Nat → List ROp
  | [] => []
  | i :: r => match all[i]? with | some x => x.o :: pickD all r | none => pickD all r
def adops (C : Cx) (all : List DOp) : List DOp → St → (St → Prop) → Prop
  | [], s, K => K s
  | q :: r, s, K => match q.o.guard with
    | none => adop C (pickD all q.us) q.o.op q.o.dst s fun s' => adops C all r s' K
    | some (t, b) => match s.t.get t with
      | .tt => match b with
        | true => adop C (pickD all q.us) q.o.op q.o.dst s fun s' => adops C all r s' K
        | false => adops C all r (s.setO q.o.dst (.tup .nil)) K
      | .ff => match b with
        | false => adop C (pickD all q.us) q.o.op q.o.dst s fun s' => adops C all r s' K
        | true => adops C all r (s.setO q.o.dst (.tup .nil)) K
      | .bool x => (x .o = b → adop C (pickD all q.us) q.o.op q.o.dst (s.set t (tv b)) fun s' => adops C all r s' K) ∧ (x .o = !b → adops C all r ((s.set t (tv !b)).setO q.o.dst (.tup .nil)) K)
      | .tup .nil => adops C all r (s.setO q.o.dst (.tup .nil)) K
      | _ => False

end Go.Proofs.YtiaenejafpbfkaaDoor.Sx
