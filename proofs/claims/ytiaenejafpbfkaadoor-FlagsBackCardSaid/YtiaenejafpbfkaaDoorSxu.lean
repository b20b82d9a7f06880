/- A symbolic executor for the model's code: regions whose order of evaluation is left open: the order that is walked, and what is asked of it. -/
import Derived.Test.YtiaenejafpbfkaaDoorSxt
namespace Go.Proofs.YtiaenejafpbfkaaDoor.Sx
open Go
set_option linter.unusedSimpArgs false
set_option linter.unusedVariables false

/-! ### resolving one operation -/
def isStore : Op → Bool | .store _ _ _ => true | _ => false
def rGuard (ops : Array Oper) (N : Nat) : Option (Nat × Bool) → Option (Option (Nat × Bool))
  | none => some none
  | some (j, b) => match ops[j]? with
    | some o => match o.dst with
      | some t => if t < N then some (some (t, b)) else none
      | none => none
    | none => none
def okDst (N : Nat) (o : Oper) : Bool := match o.dst with | some d => decide (d < N) && !isStore o.op | none => true
def rOper (P : Program) (N : Nat) (ops : Array Oper) (o : Oper) : Option ROp :=
  match rOpX P o.op, rGuard ops N o.guard, okDst N o with
  | some ro, some g, true => some ⟨o.dst, ro, g⟩
  | _, _, _ => none

/-! ### what must have come -/
def aft (ops : Array Oper) (i : Nat) : List Nat := match ops[i]? with
  | some o => (o.after.toList.filter fun e => Region.binds .any e).map (·.on)
  | none => []
inductive Must (ops : Array Oper) : Nat → Nat → Prop
  | one {i j : Nat} (h : j ∈ aft ops i) : Must ops i j
  | on {i k j : Nat} (h : k ∈ aft ops i) (h' : Must ops k j) : Must ops i j
def orAll (acc : List Nat) : List Nat → Nat
  | [] => 0
  | k :: r => (2 ^ k ||| acc.getD k 0) ||| orAll acc r
def mskGo (ops : Array Oper) : Nat → Nat → List Nat → List Nat
  | 0, _, acc => acc
  | t + 1, i, acc => mskGo ops t (i + 1) (acc ++ [orAll acc (aft ops i)])
def msk (ops : Array Oper) : List Nat := mskGo ops ops.size 0 []
theorem orAll_spec {acc : List Nat} {j : Nat} : ∀ {l : List Nat}, (orAll acc l).testBit j = true → ∃ k ∈ l, j = k ∨ (acc.getD k 0).testBit j = true
  | [], h => by simp [orAll] at h
  | k :: r, h => by
    unfold orAll at h
    rw [Nat.testBit_or, Nat.testBit_or, Nat.testBit_two_pow] at h
    simp only [Bool.or_eq_true, decide_eq_true_eq] at h
    rcases h with (h | h) | h
    · exact ⟨k, by simp, .inl h.symm⟩
    · exact ⟨k, by simp, .inr h⟩
    · obtain ⟨k', h1, h2⟩ := orAll_spec h
      exact ⟨k', by simp [h1], h2⟩
theorem mskGo_spec {ops : Array Oper} : ∀ (t i : Nat) (acc : List Nat), acc.length = i → (∀ k j, (acc.getD k 0).testBit j = true → Must ops k j) → ∀ k j, ((mskGo ops t i acc).getD k 0).testBit j = true → Must ops k j
  | 0, i, acc, _, h, k, j, hj => h k j hj
  | t + 1, i, acc, hi, h, k, j, hj => by
    refine mskGo_spec t (i + 1) _ (by simp [hi]) (fun k j hj => ?_) k j hj
    by_cases hk : k < i
    · rw [List.getD_eq_getElem?_getD, List.getElem?_append_left (by omega), ← List.getD_eq_getElem?_getD] at hj
      exact h k j hj
    · by_cases hk' : k = i
      · subst hk'
        rw [List.getD_eq_getElem?_getD, List.getElem?_append_right (by omega), hi, Nat.sub_self] at hj
        obtain ⟨q, h1, h2⟩ := orAll_spec (show (orAll acc (aft ops k)).testBit j = true from hj)
        rcases h2 with rfl | h2
        · exact .one h1
        · exact .on h1 (h _ _ h2)
      · rw [List.getD_eq_getElem?_getD, List.getElem?_eq_none (by simp; omega)] at hj
        simp at hj
def inM (m : List Nat) (i j : Nat) : Bool := (m.getD i 0).testBit j
theorem inM_spec {ops : Array Oper} {i j : Nat} (h : inM (msk ops) i j = true) : Must ops i j :=
  mskGo_spec ops.size 0 [] rfl (fun k j h => by simp at h) i j h

/-! ### the order that is walked -/
def isAssign : Op → Bool | .assign _ => true | _ => false
def canonGo : Nat → Nat → List (Nat × Bool × Nat) → List Nat
  | 0, _, _ => []
  | f + 1, em, l =>
    let rdy := l.filter fun x => x.2.2 &&& em == x.2.2
    match rdy.find? (·.2.1), rdy with
    | some x, _ => x.1 :: canonGo f (em ||| 2 ^ x.1) (l.filter fun y => !(y.1 == x.1))
    | none, x :: _ => x.1 :: canonGo f (em ||| 2 ^ x.1) (l.filter fun y => !(y.1 == x.1))
    | none, [] => []
def orBits : List Nat → Nat | [] => 0 | k :: r => 2 ^ k ||| orBits r
def rdTmp (op : RO) : Bool := match op.rd with | some (.val _) => false | _ => true
def floats (o : Oper) (x : ROp) : Bool := (!isAssign o.op && rdTmp x.op) && (isQuiet x.op || isNew x.op)
/-- One behind the other: those that may float, and are not sure to have come. -/
def lates (m : List Nat) (i : Nat) : Nat → List (Nat × DOp) → List Nat
  | _, [] => []
  | k, p :: r => match p.2.fl && !inM m i p.1 with | true => k :: lates m i (k + 1) r | false => lates m i (k + 1) r
def layGo (P : Program) (N : Nat) (ops : Array Oper) (m : List Nat) : List Nat → List (Nat × DOp) → Option (List (Nat × DOp))
  | [], pre => some pre
  | i :: r, pre => match ops[i]? with
    | some o => match rOper P N ops o with
      | some x => layGo P N ops m r (pre ++ [(i, ⟨x, floats o x, match floats o x with | true => [] | false => lates m i 0 pre⟩)])
      | none => none
    | none => none


def apartB (p q : ROp) : Bool := (match q.dst with | some d => !touches p d | none => true) && (match q.guard with | some (t, _) => !Sx.usesO p.op t | none => true)
def okOne (ops : Array Oper) (m : List Nat) (all : List (Nat × DOp)) (pre : List (Nat × DOp)) (x : Nat × DOp) : Bool :=
  (pre.all fun p => match p.2.fl with
    | false => inM m x.1 p.1
    | true => match x.2.fl with
      | true => apartB p.2.o x.2.o
      | false => inM m x.1 p.1 || apartB p.2.o x.2.o) &&
  ((aft ops x.1).all fun j => pre.any fun p => p.1 == j) &&
  (all.all fun p => !p.2.fl || p.1 == x.1 || (match p.2.o.dst with | some d => !uses x.2.o d || inM m x.1 p.1 | none => true)) &&
  !(pre.any fun p => p.1 == x.1) &&
  (x.2.us == match x.2.fl with | true => [] | false => lates m x.1 0 pre) &&
  (match x.2.fl, x.2.o.dst with | true, some d => !uses x.2.o d | _, _ => true) &&
  (match x.2.o.dst with | some d => decide (d < 10000) | none => true)
def okGo (ops : Array Oper) (m : List Nat) (all : List (Nat × DOp)) : List (Nat × DOp) → List (Nat × DOp) → Bool
  | _, [] => true
  | pre, x :: r => okOne ops m all pre x && okGo ops m all (pre ++ [x]) r
def resDL (P : Program) (N : Nat) (ops : Array Oper) : Option (List (Nat × DOp)) :=
  match layGo P N ops (msk ops) (canonGo ops.size 0 ((ops.toList.zipIdx.map fun (o, i) => (i, (match rOper P N ops o with | some x => floats o x | none => false), orBits (aft ops i))))) [] with
  | some L => match ((List.range ops.size).all fun i => L.any fun x => x.1 == i) && okGo ops (msk ops) L [] L with
    | true => some L
    | false => none
  | none => none
def resD (P : Program) (N : Nat) (ops : Array Oper) : Option (List DOp) := (resDL P N ops).map fun l => l.map (·.2)

/-! ### what is known of it -/
theorem layGo_spec {P : Program} {N : Nat} {ops : Array Oper} {m : List Nat} : ∀ (l : List Nat) (pre L : List (Nat × DOp)), layGo P N ops m l pre = some L → ∀ x ∈ L, x ∈ pre ∨ ∃ o, ops[x.1]? = some o ∧ rOper P N ops o = some x.2.o ∧ x.2.fl = floats o x.2.o
  | [], pre, L, h, x, hx => by cases h; exact .inl hx
  | i :: r, pre, L, h, x, hx => by
    unfold layGo at h
    split at h
    · rename_i o ho
      split at h
      · rename_i y hy
        rcases layGo_spec r _ L h x hx with h1 | h1
        · rcases List.mem_append.1 h1 with h1 | h1
          · exact .inl h1
          · have : x = _ := List.mem_singleton.1 h1
            subst this
            exact .inr ⟨o, ho, hy, rfl⟩
        · exact .inr h1
      · cases h
    · cases h
theorem okGo_spec {ops : Array Oper} {m : List Nat} {all : List (Nat × DOp)} : ∀ (l pre : List (Nat × DOp)), okGo ops m all pre l = true → ∀ mid x post, l = mid ++ x :: post → okOne ops m all (pre ++ mid) x = true
  | [], pre, _, mid, x, post, h => by cases mid <;> simp at h
  | y :: l, pre, h, mid, x, post, he => by
    simp only [okGo, Bool.and_eq_true] at h
    cases mid with
    | nil =>
      simp only [List.nil_append, List.cons.injEq] at he
      obtain ⟨rfl, _⟩ := he
      simpa using h.1
    | cons z mid =>
      simp only [List.cons_append, List.cons.injEq] at he
      obtain ⟨rfl, he⟩ := he
      have := okGo_spec l _ h.2 mid x post he
      simpa using this
theorem lates_spec {m : List Nat} {i : Nat} : ∀ (l : List (Nat × DOp)) (k q : Nat) (p : Nat × DOp), l[q]? = some p → p.2.fl = true → inM m i p.1 = false → k + q ∈ lates m i k l
  | [], k, q, p, h, _, _ => by simp at h
  | y :: l, k, 0, p, h, h1, h2 => by
    have : y = p := by simpa using h
    subst this
    simp [lates, h1, h2]
  | y :: l, k, q + 1, p, h, h1, h2 => by
    have := lates_spec l (k + 1) q p (by simpa using h) h1 h2
    rw [show k + (q + 1) = k + 1 + q by omega]
    unfold lates
    split
    · exact List.mem_cons_of_mem _ this
    · exact this
theorem pickD_spec {all : List DOp} : ∀ (l : List Nat) (k : Nat) (x : DOp), k ∈ l → all[k]? = some x → x.o ∈ pickD all l
  | [], k, x, h, _ => by simp at h
  | i :: l, k, x, h, hx => by
    unfold pickD
    rcases List.mem_cons.1 h with rfl | h
    · rw [hx]; simp
    · have := pickD_spec l k x h hx
      split
      · exact List.mem_cons_of_mem _ this
      · exact this

def Apart (p q : ROp) : Prop := (∀ d, q.dst = some d → touches p d = false) ∧ ∀ t b, q.guard = some (t, b) → usesO p.op t = false
theorem apartB_spec {p q : ROp} (h : apartB p q = true) : Apart p q := by
  unfold apartB at h
  simp only [Bool.and_eq_true] at h
  refine ⟨fun d hd => ?_, fun t b hg => ?_⟩
  · have := h.1; rw [hd] at this; simpa using this
  · have := h.2; rw [hg] at this; simpa using this

/-- The order that is walked. -/
structure Good (P : Program) (N : Nat) (ops : Array Oper) (L : List (Nat × DOp)) : Prop where
  res : ∀ x ∈ L, ∃ o, ops[x.1]? = some o ∧ rOper P N ops o = some x.2.o ∧ x.2.fl = floats o x.2.o
  cover : ∀ i, i < ops.size → ∃ x ∈ L, x.1 = i
  fresh : ∀ pre x post, L = pre ++ x :: post → ∀ p ∈ pre, p.1 ≠ x.1
  ser : ∀ pre x post, L = pre ++ x :: post → ∀ p ∈ pre, p.2.fl = false → Must ops x.1 p.1
  top : ∀ pre x post, L = pre ++ x :: post → ∀ j ∈ aft ops x.1, ∃ p ∈ pre, p.1 = j
  apF : ∀ pre x post, L = pre ++ x :: post → x.2.fl = true → ∀ p ∈ pre, p.2.fl = true → Apart p.2.o x.2.o
  apS : ∀ pre x post, L = pre ++ x :: post → x.2.fl = false → ∀ p ∈ pre, p.2.fl = true → Must ops x.1 p.1 ∨ (Apart p.2.o x.2.o ∧ p.2.o ∈ pickD (L.map (·.2)) x.2.us)
  dep : ∀ x ∈ L, ∀ p ∈ L, p.2.fl = true → p.1 ≠ x.1 → ∀ d, p.2.o.dst = some d → uses x.2.o d = true → Must ops x.1 p.1
  flus : ∀ x ∈ L, x.2.fl = true → x.2.us = []
  self : ∀ x ∈ L, x.2.fl = true → ∀ d, x.2.o.dst = some d → uses x.2.o d = true → False
  low : ∀ x ∈ L, ∀ d, x.2.o.dst = some d → d < 10000
theorem resD_good {P : Program} {N : Nat} {ops : Array Oper} {l : List DOp} (h : resD P N ops = some l) : ∃ L, l = L.map (·.2) ∧ Good P N ops L := by
  unfold resD at h
  cases hL : resDL P N ops with
  | none => rw [hL] at h; cases h
  | some L =>
    rw [hL] at h
    cases h
    refine ⟨L, rfl, ?_⟩
    unfold resDL at hL
    split at hL
    · rename_i L' hlay
      split at hL
      · rename_i hok
        cases hL
        simp only [Bool.and_eq_true] at hok
        obtain ⟨hc, hg⟩ := hok
        have one : ∀ pre x post, L = pre ++ x :: post → okOne ops (msk ops) L pre x = true := fun pre x post he => by simpa using okGo_spec L [] hg pre x post he
        have ex : ∀ x ∈ L, ∃ pre post, L = pre ++ x :: post := fun x hx => List.append_of_mem hx
        have prts : ∀ pre x post, L = pre ++ x :: post → _ := fun pre x post he => by
          have := one pre x post he
          unfold okOne at this
          simp only [Bool.and_eq_true] at this
          exact this
        refine ⟨fun x hx => (layGo_spec _ _ _ hlay x hx).elim (fun q => by simp at q) id, fun i hi => ?_, fun pre x post he p hp e => ?_, fun pre x post he p hp hf => ?_, fun pre x post he j hj => ?_, fun pre x post he hx p hp hf => ?_, fun pre x post he hx p hp hf => ?_, fun x hx p hp hf hne d hd hu => ?_, fun x hx hf => ?_, fun x hx hf d hd hu => ?_, fun x hx d hd => ?_⟩
        · have := List.all_eq_true.1 hc i (by simpa using hi)
          obtain ⟨x, h1, h2⟩ := List.any_eq_true.1 this
          exact ⟨x, h1, by simpa using h2⟩
        · have := (prts pre x post he).1.1.1.2
          simp only [Bool.not_eq_true', List.any_eq_false] at this
          exact this p hp (by simpa using e)
        · have := List.all_eq_true.1 (prts pre x post he).1.1.1.1.1.1 p hp
          rw [hf] at this
          exact inM_spec this
        · have := List.all_eq_true.1 (prts pre x post he).1.1.1.1.1.2 j hj
          obtain ⟨p, h1, h2⟩ := List.any_eq_true.1 this
          exact ⟨p, h1, by simpa using h2⟩
        · have := List.all_eq_true.1 (prts pre x post he).1.1.1.1.1.1 p hp
          rw [hf, hx] at this
          exact apartB_spec this
        · have h1 := List.all_eq_true.1 (prts pre x post he).1.1.1.1.1.1 p hp
          rw [hf, hx] at h1
          cases hm : inM (msk ops) x.1 p.1 with
          | true => exact .inl (inM_spec hm)
          | false =>
            rw [hm] at h1
            refine .inr ⟨apartB_spec (by simpa using h1), ?_⟩
            have h2 := (prts pre x post he).1.1.2
            rw [hx] at h2
            have h2 : x.2.us = lates (msk ops) x.1 0 pre := by simpa using h2
            rw [h2]
            obtain ⟨q, hq, hpq⟩ := List.mem_iff_getElem.1 hp
            have h3 := lates_spec pre 0 q p (by rw [List.getElem?_eq_getElem hq, hpq]) hf hm
            refine pickD_spec _ q p.2 (by simpa using h3) ?_
            rw [List.getElem?_map, he, List.getElem?_append_left hq, List.getElem?_eq_getElem hq, hpq]
            rfl
        · obtain ⟨pre, post, he⟩ := ex x hx
          have := List.all_eq_true.1 (prts pre x post he).1.1.1.1.2 p hp
          have hne' : (p.1 == x.1) = false := by simpa using hne
          simp only [hf, hd, hu, hne', Bool.not_true, Bool.false_or] at this
          exact inM_spec this
        · obtain ⟨pre, post, he⟩ := ex x hx
          have h2 := (prts pre x post he).1.1.2
          rw [hf] at h2
          simpa using h2
        · obtain ⟨pre, post, he⟩ := ex x hx
          have h2 := (prts pre x post he).1.2
          rw [hf, hd] at h2
          simp only [hu, Bool.not_true] at h2
          cases h2
        · obtain ⟨pre, post, he⟩ := ex x hx
          have h2 := (prts pre x post he).2
          rw [hd] at h2
          simpa using h2
      · cases hL
    · cases hL

end Go.Proofs.YtiaenejafpbfkaaDoor.Sx
