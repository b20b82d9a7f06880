/- A symbolic executor for the model's code: resolved operations, and that those which only yield a value do as the model does. -/
import Derived.Test.YtiaenejafpbfkaaDoorSxc
namespace Go.Proofs.YtiaenejafpbfkaaDoor.Sx
open Go

def cval1 : Value → Option AV
  | .bool true => some .tt
  | .bool false => some .ff
  | .int k n => some (.int k fun _ => n)
  | .string s => some (.str fun _ => s.data.toList)
  | .nilIface => some .nif
  | .nilFunc => some .nfn
  | .pointer none => some .nptr
  | .slice none 0 0 => some .nsl
  | _ => none
def cvals : List Value → Option AV
  | [] => some .nil
  | v :: r => match cval1 v, cvals r with | some x, some c => some (.cons x c) | _, _ => none
def cval : Value → Option AV
  | .agg cs => (cvals cs.toList).map .agg
  | v => cval1 v
def rOpd : Operand → Option Opd
  | .tmp t => some (.tmp t)
  | .const v => (cval v).map .val
  | .func f => some (.val (.fn (.func f) .nil .nil))
  | .global _ => none
def rOpds : List Operand → Option (List Opd)
  | [] => some []
  | x :: r => match rOpd x, rOpds r with | some y, some q => some (y :: q) | _, _ => none
def rOpdo : Option Operand → Option (Option Opd)
  | none => some none
  | some x => (rOpd x).map some

theorem cval1_sound {E : Env} {v : Value} {x : AV} (h : cval1 v = some x) : Rp E x v ∧ x.still := by
  unfold cval1 at h
  split at h <;> cases h <;> simp [Rp, AV.still]
theorem cvals_sound (E : Env) : ∀ (l : List Value) (x : AV), cvals l = some x → ListC E x l ∧ x.still
  | [], x, h => by cases h; exact ⟨listC_nil.2 rfl, trivial⟩
  | v :: r, x, h => by
    unfold cvals at h
    split at h
    · rename_i y c hy hc
      cases h
      exact ⟨listC_cons.2 ⟨v, r, rfl, (cval1_sound hy).1, (cvals_sound E r c hc).1⟩, (cval1_sound (E := E) hy).2, (cvals_sound E r c hc).2⟩
    · cases h
theorem cval_sound {E : Env} {v : Value} {x : AV} (h : cval v = some x) : Rp E x v ∧ x.still := by
  unfold cval at h
  split at h
  · rename_i cs
    cases hc : cvals cs.toList with
    | none => simp [hc] at h
    | some c => simp [hc] at h; subst h; exact ⟨rp_agg.2 ⟨cs.toList, by simp, (cvals_sound E _ _ hc).1⟩, (cvals_sound E _ _ hc).2⟩
  · exact cval1_sound h

theorem opd_sound {E : Env} {s : St} {a : Act} (hS : SI E s a) {x : Operand} {y : Opd} (h : rOpd x = some y) : Rp E (y.ev s) (a.eval x) := by
  unfold rOpd at h
  split at h
  · cases h; exact hS.tmps _
  · rename_i v
    cases hc : cval v with
    | none => simp [hc] at h
    | some c => simp [hc] at h; subst h; exact (cval_sound hc).1
  · cases h; simp only [Opd.ev, Rp]; exact ⟨[], [], rfl, listC_nil.2 rfl, listC_nil.2 rfl⟩
  · cases h

theorem opds_sound {E : Env} {s : St} {a : Act} (hS : SI E s a) : ∀ (l : List Operand) (m : List Opd), rOpds l = some m → ListC E (chain (evs s m)) (l.map a.eval)
  | [], m, h => by cases h; exact listC_nil.2 rfl
  | x :: r, m, h => by
    unfold rOpds at h
    split at h
    · rename_i y q hy hq
      cases h
      exact listC_cons.2 ⟨_, _, rfl, opd_sound hS hy, opds_sound hS r q hq⟩
    · cases h

/-- The kinds of a value's cells, if all are numbers, truths, texts, one behind the other. -/
def flatF (g : TypeId → Option (List KD)) (P : Program) : List Field → Nat → Option (List KD)
  | [], _ => some []
  | f :: r, off => if f.name = "_" ∨ f.offset ≠ off then none else
    match g f.type, P.info? f.type with
    | some ks, some i => if i.size = ks.length then (match flatF g P r (off + ks.length) with | some q => some (ks ++ q) | none => none) else none
    | _, _ => none
def flatB (P : Program) : Nat → TypeId → Option (List KD)
  | 0, _ => none
  | d + 1, t => match P.underlying t with
    | some .bool => some [.b]
    | some (.int k) => some [.i k]
    | some .string => some [.s]
    | some (.struct fs) => if P.stoodInHeld t = true then none else flatF (flatB P d) P fs.toList 0
    | _ => none
def isC : Operand → Bool | .const _ => true | _ => false
def rFit (P : Program) (t : TypeId) (lit : Bool) : Fit :=
  match P.underlying t with
  | some .bool => .bool
  | some (.pointer _) => .ptr
  | some (.interface ms) => .ifc (lit || ms.isEmpty)
  | some (.struct _) => if P.eqGuardType P.depth t = false then (match flatB P 20 t with | some ks => .agg ks | none => .no) else .no
  | _ => .no
def isU8 (P : Program) (e : TypeId) : Bool := match P.underlying e with | some (.int .u8) => true | _ => false
theorem isU8_spec {P : Program} {e : TypeId} (h : isU8 P e = true) : P.underlying e = some (.int .u8) := by
  unfold isU8 at h
  split at h
  · assumption
  · cases h
def rOp (P : Program) : Op → Option RO
  | .move x => (rOpd x).map .mov
  | .assign x => (rOpd x).map .mov
  | .pick c a b => match rOpd c, rOpd a, rOpd b with | some c, some a, some b => some (.pick c a b) | _, _, _ => none
  | .binOp op t X Y _ => match rOpd X, rOpd Y with | some x, some y => some (.bin op (rFit P t (isC X || isC Y)) x y) | _, _ => none
  | .unOp op _ x => (rOpd x).map (.un op)
  | .load t a => match P.underlying t, P.info? t, rOpd a with
    | some d, some i, some x => some (if aggD d = true then .loadA i.size x else .load1 x)
    | _, _, _ => none
  | .fieldAddr t x f => match P.underlying t, rOpd x with
    | some (.struct fs), some x => match fs[f]? with
      | some fl => match P.info? fl.type with
        | some i => if i.size = 0 then none else some (.fld fl.offset x)
        | none => none
      | none => none
    | _, _ => none
  | .field t x f => match P.underlying t, rOpd x with
    | some (.struct fs), some x => match fs[f]? with
      | some fl => match P.underlying fl.type, P.info? fl.type with
        | some d, some i => some (if aggD d = true then .fieldA fl.offset i.size x else .field1 fl.offset x)
        | _, _ => none
      | none => none
    | _, _ => none
  | .indexAddr t x i => match P.underlying t, rOpd x, rOpd i with
    | some (.slice e), some x, some i => match P.info? e with
      | some inf => some (.idx inf.size x i)
      | none => none
    | some (.array len e), some x, some i => match P.info? e with
      | some inf => some (.idxA inf.size len x i)
      | none => none
    | _, _, _ => none
  | .index t x i => match P.underlying t, rOpd x, rOpd i with
    | some .string, some x, some i => some (.idxS x i)
    | _, _, _ => none
  | .slice t x lo hi none => match P.underlying t, rOpd x, rOpdo lo, rOpdo hi with
    | some .string, some x, some lo, some hi => some (.sliceS x lo hi)
    | some (.slice e), some x, some lo, some hi => match P.info? e with
      | some inf => some (.slice inf.size x lo hi)
      | none => none
    | _, _, _, _ => none
  | .makeFunc fn first caps => match rOpds first.toList, rOpds caps.toList with | some a, some b => some (.mkfn fn a b) | _, _ => none
  | .makeInterface t x => match P.underlying t, rOpd x with
    | some (.interface _), _ => none
    | some _, some x => some (.mkif t x)
    | _, _ => none
  | .typeAssert x _ t true => match P.underlying t, P.info? t, rOpd x with
    | some (.interface _), _, _ => none
    | some _, some i, some x => match i.zero with
      | some z => match cval z with
        | some z => some (.assert t z x)
        | none => none
      | none => none
    | _, _, _ => none
  | .extract x i => (rOpd x).map (.ext i)
  | .convert src dst x => match P.underlying src, P.underlying dst, rOpd x with
    | some _, some (.int k), some x => some (.conv k x)
    | some (.slice e), some .string, some x => if isU8 P e = true then some (.b2s x) else none
    | _, _, _ => none
  | .call { callee := .builtin .len, args := args, argTypes := ts } => match args.toList, ts.toList with
    | [x], t :: _ => match P.underlying t, rOpd x with
      | some .string, some x => some (.lenS x)
      | some (.slice _), some x => some (.len x)
      | _, _ => none
    | _, _ => none
  | .call { callee := .builtin .min, args := args, argTypes := _ } => (rOpds args.toList).map (.mm false)
  | .call { callee := .builtin .max, args := args, argTypes := _ } => (rOpds args.toList).map (.mm true)
  | .nilCheck x => (rOpd x).map .chk
  | _ => none

/-- q yields v. -/
def QR.gives (q : QR) (v : AV) : Prop := q = .ok v ∨ ∃ p, q = .cond p v ∧ p .o
theorem gives_ok {v v' : AV} : (QR.ok v').gives v ↔ v' = v := by simp [QR.gives]
theorem gives_cond {p : Th Prop} {v v' : AV} : (QR.cond p v').gives v ↔ v' = v ∧ p .o := by
  constructor
  · rintro (h | ⟨q, h, hq⟩)
    · cases h
    · cases h; exact ⟨rfl, hq⟩
  · rintro ⟨rfl, h⟩; exact .inr ⟨p, rfl, h⟩
theorem gives_bad {v : AV} : QR.bad.gives v ↔ False := by simp [QR.gives]

theorem rp_bl {E : Env} {x : AV} {v : Value} {b : Th Bool} (h : Rp E x v) (hb : x.bl = some b) : v = .bool (b .o) := by
  cases x <;> simp [AV.bl] at hb <;> subst hb <;> simpa [Rp] using h

theorem toList_mk (l : List UInt8) : (⟨l.toArray⟩ : ByteArray).toList = l := by rw [ByteArray.toList_eq]

section
variable {P : Program} {E : Env} {t : TypeId} {X Y : Operand} {x y v : AV} {xv yv : Value} {w : World}

theorem abinI_sound {op : BinOp} {k k' : IntKind} {a b : Th Int} (hg : (match isShift op with | true => ashift op k a b | false => match kq k k' with | true => abinI op k a b | false => QR.bad).gives v) :
    ∃ z, ((do eqGuard op t X Y (.int k (a .o)) (.int k' (b .o)); binOp op t (.int k (a .o)) (.int k' (b .o))) : Sem Value).run P w = .ok z w ∧ Rp E v z := by
  have hgd : (eqGuard op t X Y (.int k (a .o)) (.int k' (b .o))).run P w = .ok () w := by unfold eqGuard; cases op <;> simp
  simp only [Sem.run_bind, hgd, Result.andThen_ok]
  cases hs : isShift op with
  | true =>
    simp only [hs] at hg
    cases op <;> simp only [isShift, Bool.false_eq_true] at hs
    · simp only [ashift, gives_cond] at hg
      obtain ⟨rfl, h0⟩ := hg
      refine ⟨_, ?_, rfl⟩
      simp [binOp, Op.shift, Int.not_lt.2 h0]
    · simp only [ashift, gives_cond] at hg
      obtain ⟨rfl, h0⟩ := hg
      refine ⟨_, ?_, rfl⟩
      simp [binOp, Op.shift, Int.not_lt.2 h0]
  | false =>
    simp only [hs] at hg
    cases hk : kq k k' with
    | false => simp only [hk, gives_bad] at hg
    | true =>
      simp only [hk] at hg
      obtain rfl := kq_eq hk
      cases op <;> simp only [isShift, Bool.true_eq_false] at hs <;> simp only [abinI, gives_ok, gives_cond] at hg
      case quo =>
        obtain ⟨rfl, h0⟩ := hg
        exact ⟨_, by simp [binOp, Op.intDiv, h0], rfl⟩
      case rem =>
        obtain ⟨rfl, h0⟩ := hg
        exact ⟨_, by simp [binOp, Op.intDiv, h0], rfl⟩
      all_goals
        subst hg
        refine ⟨_, ?_, rfl⟩
      all_goals first
        | (simp [binOp, Op.intArith]; done)
        | (simp [binOp, Op.intBits, abits, bits]; done)
        | (simp only [binOp, ne_eq, not_true_eq_false, if_false, Op.intCmp, Sem.run_pure, Bool.beq_eq_decide_eq, bne, gt_iff_lt, ge_iff_le]; done)

theorem abinS_sound {op : BinOp} {a b : Th (List UInt8)} (hg : (abinS op a b).gives v) :
    ∃ z, ((do eqGuard op t X Y (.string ⟨(a .o).toArray⟩) (.string ⟨(b .o).toArray⟩); binOp op t (.string ⟨(a .o).toArray⟩) (.string ⟨(b .o).toArray⟩)) : Sem Value).run P w = .ok z w ∧ Rp E v z := by
  have hgd : (eqGuard op t X Y (.string ⟨(a .o).toArray⟩) (.string ⟨(b .o).toArray⟩)).run P w = .ok () w := by unfold eqGuard; cases op <;> simp
  simp only [Sem.run_bind, hgd, Result.andThen_ok]
  cases op <;> simp only [abinS, gives_ok, gives_cond, gives_bad] at hg
  case add =>
    obtain ⟨rfl, h0⟩ := hg
    refine ⟨_, ?_, rfl⟩
    have hsz : ((((⟨(a .o).toArray⟩ : ByteArray).size + (⟨(b .o).toArray⟩ : ByteArray).size : Nat)) : Int) = ((a .o).length + (b .o).length : Nat) := by simp [ByteArray.size]
    have h1 : ¬ ((((a .o).length + (b .o).length : Nat) : Int) > IntKind.i64.max) := by
      have : IntKind.i64.max = 9223372036854775807 := by rfl
      rw [this]; omega
    simp only [binOp, Op.stringOp, hsz, h1, if_false]
    simp only [Sem.run_pure]
    congr 2
  all_goals
    subst hg
    refine ⟨_, ?_, rfl⟩
  all_goals
    simp only [binOp, Op.stringOp, toList_mk, strLt, Sem.run_pure, Bool.beq_eq_decide_eq]

theorem equal_eq (t : TypeId) (x y : Value) : Op.equal t x y = Op.equalIn (9999 + 1) t x y := rfl
theorem run_boolEq (ht : P.underlying t = some .bool) (a b : Bool) : (Op.equal t (.bool a) (.bool b)).run P w = .ok (a == b) w := by
  rw [equal_eq]
  generalize 9999 = d
  simp only [Op.equalIn, Sem.run_bind, run_underlying ht, Result.andThen_ok, Sem.run_pure]

theorem aeq_gives {e : Bool} {r : Option (Th Bool)} (hg : (aeq e r).gives v) : ∃ b : Th Bool, r = some b ∧ v = .bool (fun _ => if e = true then b .o else !b .o) := by
  unfold aeq at hg
  split at hg
  · exact ⟨_, rfl, by rw [gives_ok] at hg; exact hg.symm⟩
  · exact ⟨_, rfl, by rw [gives_ok] at hg; exact hg.symm⟩
  · exact (gives_bad.1 hg).elim

/-- '==' and '!=' by what Op.equal says. -/
theorem run_eqs {op : BinOp} {e : Bool} (he : isEql op = some e) {b : Bool} (hgd : (eqGuard op t X Y xv yv).run P w = .ok () w)
    (hi : ∀ k n k' n', ¬ (xv = .int k n ∧ yv = .int k' n')) (hs : ∀ p q, ¬ (xv = .string p ∧ yv = .string q)) (hf : ∀ p q r s, ¬ (xv = .float p q ∧ yv = .float r s)) (hc : ∀ p q r p' q' r', ¬ (xv = .complex p q r ∧ yv = .complex p' q' r'))
    (hq : (Op.equal t xv yv).run P w = .ok b w) :
    ((do eqGuard op t X Y xv yv; binOp op t xv yv) : Sem Value).run P w = .ok (.bool (if e = true then b else !b)) w := by
  simp only [Sem.run_bind, hgd, Result.andThen_ok]
  cases op <;> simp only [isEql, Option.some.injEq, reduceCtorEq] at he <;> subst he
  · unfold binOp
    split <;> first | (rename_i h; cases h; done) | skip
    all_goals first | exact absurd ⟨rfl, rfl⟩ (hi _ _ _ _) | exact absurd ⟨rfl, rfl⟩ (hs _ _) | exact absurd ⟨rfl, rfl⟩ (hf _ _ _ _) | exact absurd ⟨rfl, rfl⟩ (hc _ _ _ _ _ _) | skip
    all_goals simp_all
  · unfold binOp
    split <;> first | (rename_i h; cases h; done) | skip
    all_goals first | exact absurd ⟨rfl, rfl⟩ (hi _ _ _ _) | exact absurd ⟨rfl, rfl⟩ (hs _ _) | exact absurd ⟨rfl, rfl⟩ (hf _ _ _ _) | exact absurd ⟨rfl, rfl⟩ (hc _ _ _ _ _ _) | skip
    all_goals simp_all

def KV : List KD → List Value → Prop
  | [], [] => True
  | .b :: ks, .bool _ :: l => KV ks l
  | .i k :: ks, .int k' _ :: l => k' = k ∧ KV ks l
  | .s :: ks, .string _ :: l => KV ks l
  | _, _ => False
def cmpL : List Value → List Value → Bool
  | [], [] => true
  | .bool a :: x, .bool b :: y => (a == b) && cmpL x y
  | .int _ a :: x, .int _ b :: y => (a == b) && cmpL x y
  | .string a :: x, .string b :: y => (a == b) && cmpL x y
  | _, _ => false
theorem KV.len : ∀ {ks : List KD} {l : List Value}, KV ks l → l.length = ks.length
  | [], [], _ => rfl
  | .b :: ks, .bool _ :: l, h => by simpa using KV.len (ks := ks) (l := l) h
  | .i k :: ks, .int k' _ :: l, h => by simpa using KV.len (ks := ks) (l := l) h.2
  | .s :: ks, .string _ :: l, h => by simpa using KV.len (ks := ks) (l := l) h
  | [], _ :: _, h => by simp [KV] at h
  | k :: _, [], h => by cases k <;> simp [KV] at h
theorem KV.split : ∀ {ks q : List KD} {l : List Value}, KV (ks ++ q) l → ∃ a b, l = a ++ b ∧ KV ks a ∧ KV q b
  | [], q, l, h => ⟨[], l, rfl, trivial, h⟩
  | .b :: ks, q, .bool x :: l, h => by obtain ⟨a, b, rfl, h1, h2⟩ := KV.split (ks := ks) (q := q) (l := l) h; exact ⟨.bool x :: a, b, rfl, h1, h2⟩
  | .i k :: ks, q, .int k' x :: l, h => by obtain ⟨a, b, rfl, h1, h2⟩ := KV.split (ks := ks) (q := q) (l := l) h.2; exact ⟨.int k' x :: a, b, rfl, ⟨h.1, h1⟩, h2⟩
  | .s :: ks, q, .string x :: l, h => by obtain ⟨a, b, rfl, h1, h2⟩ := KV.split (ks := ks) (q := q) (l := l) h; exact ⟨.string x :: a, b, rfl, h1, h2⟩
  | k :: _, _, [], h => by cases k <;> simp [KV] at h
theorem cmpL_app : ∀ {ks : List KD} {a c : List Value} (b d : List Value), KV ks a → KV ks c → cmpL (a ++ b) (c ++ d) = (cmpL a c && cmpL b d)
  | [], [], [], b, d, _, _ => by simp [cmpL]
  | .b :: ks, .bool x :: a, .bool y :: c, b, d, h1, h2 => by simp [cmpL, cmpL_app (ks := ks) (a := a) (c := c) b d h1 h2, Bool.and_assoc]
  | .i k :: ks, .int _ x :: a, .int _ y :: c, b, d, h1, h2 => by simp [cmpL, cmpL_app (ks := ks) (a := a) (c := c) b d h1.2 h2.2, Bool.and_assoc]
  | .s :: ks, .string x :: a, .string y :: c, b, d, h1, h2 => by simp [cmpL, cmpL_app (ks := ks) (a := a) (c := c) b d h1 h2, Bool.and_assoc]
  | [], _ :: _, _, _, _, h, _ => by simp [KV] at h
  | [], _, _ :: _, _, _, _, h => by simp [KV] at h
  | k :: _, [], _, _, _, h, _ => by cases k <;> simp [KV] at h
  | k :: _, _, [], _, _, _, h => by cases k <;> simp [KV] at h

/-- A value of these cells. -/
def ofCells (P : Program) (t : TypeId) (l : List Value) : Value := match P.underlying t with | some (.struct _) => .agg l.toArray | _ => l.headD undef

theorem flatB_sound (P : Program) (w : World) : ∀ (d : Nat) (t : TypeId) (ks : List KD), flatB P d t = some ks → ∀ (D : Nat), d ≤ D → ∀ (a b : List Value), KV ks a → KV ks b →
    (Op.equalIn D t (ofCells P t a) (ofCells P t b)).run P w = .ok (cmpL a b) w := by
  intro d
  induction d with
  | zero => intro t ks h; simp [flatB] at h
  | succ d ih =>
    intro t ks h D hD a b ha hb
    obtain ⟨D, rfl⟩ : ∃ n, D = n + 1 := ⟨D - 1, by omega⟩
    unfold flatB at h
    split at h
    · rename_i hu
      cases h
      match a, b, ha, hb with
      | [.bool x], [.bool y], _, _ => simp [ofCells, hu, Op.equalIn, run_underlying hu, cmpL]
    · rename_i k hu
      cases h
      match a, b, ha, hb with
      | [.int k1 x], [.int k2 y], h1, h2 => obtain ⟨rfl, _⟩ := h1; obtain ⟨rfl, _⟩ := h2; simp [ofCells, hu, Op.equalIn, run_underlying hu, cmpL]
    · rename_i hu
      cases h
      match a, b, ha, hb with
      | [.string x], [.string y], _, _ => simp [ofCells, hu, Op.equalIn, run_underlying hu, cmpL]
    · rename_i fs hu
      split at h
      · cases h
      · rename_i hst
        have hst' : P.stoodInHeld t = false := by simpa using hst
        have hfo : P.fieldsOf t = fs := by simp [Program.fieldsOf, hu]
        have key : ∀ (l : List Field) (off : Nat) (ks : List KD), flatF (flatB P d) P l off = some ks → ∀ (pa pb a b : List Value), pa.length = off → pb.length = off → KV ks a → KV ks b →
            (Op.eqFields D (pa ++ a).toArray (pb ++ b).toArray l).run P w = .ok (cmpL a b) w := by
          intro l
          induction l with
          | nil =>
            intro off ks h pa pb a b _ _ ha hb
            cases h
            match a, b, ha, hb with
            | [], [], _, _ => simp [Op.eqFields, cmpL]
          | cons f r ihr =>
            intro off ks h pa pb a b hpa hpb ha hb
            unfold flatF at h
            split at h
            · cases h
            · rename_i hn
              simp only [not_or, ne_eq, Decidable.not_not] at hn
              obtain ⟨hn, ho⟩ := hn
              split at h
              · rename_i ks1 i hg hi
                split at h
                · rename_i hsz
                  split at h
                  · rename_i q hq
                    cases h
                    obtain ⟨a1, a2, rfl, ha1, ha2⟩ := KV.split ha
                    obtain ⟨b1, b2, rfl, hb1, hb2⟩ := KV.split hb
                    have hpart : ∀ (p x y : List Value), p.length = off → KV ks1 x → (part f.type (p ++ (x ++ y)).toArray f.offset).run P w = .ok (ofCells P f.type x) w := by
                      intro p x y hp hx
                      obtain ⟨d', rfl⟩ : ∃ n, d = n + 1 := by
                        cases d with
                        | zero => simp [flatB] at hg
                        | succ n => exact ⟨n, rfl⟩
                      unfold part
                      cases hu' : P.underlying f.type with
                      | none => simp [flatB, hu'] at hg
                      | some dd =>
                        simp only [Sem.run_bind, run_isAgg hu', Result.andThen_ok]
                        have hxl := hx.len
                        have scal : ∀ v, (match (p ++ ([v] ++ y)).toArray[f.offset]? with | some v => (pure v : Sem Value) | none => stuck "part: no such cell").run P w = .ok ([v].headD undef) w := by
                          intro v
                          simp [ho, hp]
                        cases dd <;> simp only [flatB, hu', reduceCtorEq] at hg <;> simp only [aggD, Bool.false_eq_true, if_false, if_true, ofCells, hu']
                        · cases hg
                          match x, hx with
                          | [.bool v], _ => exact scal _
                        · cases hg
                          match x, hx with
                          | [.int _ v], _ => exact scal _
                        · cases hg
                          match x, hx with
                          | [.string v], _ => exact scal _
                        · simp only [Sem.run_bind, run_sizeOf hi, Result.andThen_ok, Sem.run_pure]
                          congr 2
                          apply Array.ext'
                          simp only [ho, hsz, ← hp, ← hxl]
                          simp
                    simp only [Op.eqFields, hn, ne_eq, not_false_eq_true, if_true, Sem.run_bind]
                    rw [hpart pa a1 a2 hpa ha1]
                    simp only [Result.andThen_ok]
                    rw [hpart pb b1 b2 hpb hb1]
                    simp only [Result.andThen_ok]
                    rw [ih f.type ks1 hg D (by omega) a1 b1 ha1 hb1]
                    simp only [Result.andThen_ok]
                    rw [cmpL_app a2 b2 ha1 hb1]
                    cases hc : cmpL a1 b1 with
                    | false => simp
                    | true =>
                      simp only [Bool.not_true, Bool.false_eq_true, if_false, Bool.true_and]
                      have := ihr (off + ks1.length) q hq (pa ++ a1) (pb ++ b1) a2 b2 (by simp [hpa, ha1.len]) (by simp [hpb, hb1.len]) ha2 hb2
                      simpa [List.append_assoc] using this
                  · cases h
                · cases h
              · cases h
        have := key fs.toList 0 ks h [] [] a b rfl rfl ha hb
        simp only [ofCells, hu]
        rw [run_equalIn_agg (w := w) D t _ _ (by rw [hfo]; exact hu) hst', hfo]
        simpa using this
    · cases h

end

section
variable {P : Program} {E : Env} {t : TypeId} {X Y : Operand} {x y v : AV} {xv yv : Value} {w : World}

theorem aeqc_sound : ∀ (ks : List KD) (a b : AV) (r : Th Bool) (l m : List Value), aeqc ks a b = some r → ListC E a l → ListC E b m → KV ks l ∧ KV ks m ∧ cmpL l m = r .o
  | [], .nil, .nil, r, l, m, h, ha, hb => by
    cases h
    rw [listC_nil.1 ha, listC_nil.1 hb]
    exact ⟨trivial, trivial, rfl⟩
  | k :: ks, .cons h t, .cons h' t', r, l, m, hr, ha, hb => by
    obtain ⟨u, l, rfl, hu, hl⟩ := listC_cons.1 ha
    obtain ⟨u', m, rfl, hu', hm⟩ := listC_cons.1 hb
    unfold aeqc at hr
    split at hr
    · cases hr
    · rename_i r0 h0
      obtain ⟨h1, h2, h3⟩ := aeqc_sound ks t t' r0 l m h0 hl hm
      unfold aeq1 at hr
      split at hr
      · rename_i k k1 a k2 b
        split at hr
        · rename_i hk1 hk2
          cases hr
          obtain rfl := kq_eq hk1
          obtain rfl := kq_eq hk2
          simp only [Rp] at hu hu'
          subst hu; subst hu'
          exact ⟨⟨rfl, h1⟩, ⟨rfl, h2⟩, by simp [cmpL, h3, Bool.beq_eq_decide_eq]⟩
        · cases hr
      · rename_i a b
        cases hr
        simp only [Rp] at hu hu'
        subst hu; subst hu'
        refine ⟨h1, h2, ?_⟩
        simp only [cmpL, h3]
        rw [show ((⟨(a .o).toArray⟩ : ByteArray) == ⟨(b .o).toArray⟩) = decide (a .o = b .o) from by rw [beq_toListBytes, toList_mk, toList_mk, Bool.beq_eq_decide_eq]]
      · split at hr
        · rename_i a b ha' hb'
          cases hr
          rw [rp_bl hu ha', rp_bl hu' hb']
          exact ⟨h1, h2, by simp [cmpL, h3]⟩
        · cases hr
      · cases hr
  | [], .cons _ _, _, _, _, _, h, _, _ => by simp [aeqc] at h
  | [], .nil, .cons _ _, _, _, _, h, _, _ => by simp [aeqc] at h
  | _ :: _, .nil, _, _, _, _, h, _, _ => by simp [aeqc] at h
  | _ :: _, .cons _ _, .nil, _, _, _, h, _, _ => by simp [aeqc] at h
  | ks, .any, b, _, _, _, _, h, _ | ks, .int _ _, b, _, _, _, _, h, _ | ks, .bool _, b, _, _, _, _, h, _ | ks, .tt, b, _, _, _, _, h, _ | ks, .ff, b, _, _, _, _, h, _ | ks, .str _, b, _, _, _, _, h, _ | ks, .sl _ _ _, b, _, _, _, _, h, _ | ks, .nsl, b, _, _, _, _, h, _
  | ks, .row _, b, _, _, _, _, h, _ | ks, .ptr _ _, b, _, _, _, _, h, _ | ks, .iptr _, b, _, _, _, _, h, _ | ks, .rptr _ _ _ _, b, _, _, _, _, h, _ | ks, .win _ _ _ _, b, _, _, _, _, h, _ | ks, .nptr, b, _, _, _, _, h, _ | ks, .fn _ _ _, b, _, _, _, _, h, _ | ks, .nfn, b, _, _, _, _, h, _ | ks, .nif, b, _, _, _, _, h, _
  | ks, .ifc _ _, b, _, _, _, _, h, _ | ks, .agg _, b, _, _, _, _, h, _ | ks, .tup _, b, _, _, _, _, h, _ => by simp only [ListC] at h
  | ks, a, .any, _, _, _, _, _, h | ks, a, .int _ _, _, _, _, _, _, h | ks, a, .bool _, _, _, _, _, _, h | ks, a, .tt, _, _, _, _, _, h | ks, a, .ff, _, _, _, _, _, h | ks, a, .str _, _, _, _, _, _, h | ks, a, .sl _ _ _, _, _, _, _, _, h | ks, a, .nsl, _, _, _, _, _, h
  | ks, a, .row _, _, _, _, _, _, h | ks, a, .ptr _ _, _, _, _, _, _, h | ks, a, .iptr _, _, _, _, _, _, h | ks, a, .rptr _ _ _ _, _, _, _, _, _, h | ks, a, .win _ _ _ _, _, _, _, _, _, h | ks, a, .nptr, _, _, _, _, _, h | ks, a, .fn _ _ _, _, _, _, _, _, h | ks, a, .nfn, _, _, _, _, _, h | ks, a, .nif, _, _, _, _, _, h
  | ks, a, .ifc _ _, _, _, _, _, _, h | ks, a, .agg _, _, _, _, _, _, h | ks, a, .tup _, _, _, _, _, _, h => by simp only [ListC] at h

theorem aeq_rp {e : Bool} {b : Bool} {r : Option (Th Bool)} (hg : (aeq e r).gives v) (hb : ∀ q, r = some q → q .o = b) : Rp E v (.bool (if e = true then b else !b)) := by
  obtain ⟨q, hq, rfl⟩ := aeq_gives hg
  have := hb q hq
  simp only [Rp, this]

theorem abinN_rp {e : Bool} {r : Option Bool} (hg : (abinN e r).gives v) : ∃ b, r = some b ∧ Rp E v (.bool (if e = true then b else !b)) := by
  unfold abinN at hg
  split at hg
  · rename_i r
    rw [gives_ok] at hg
    subst hg
    exact ⟨r, rfl, by cases r <;> cases e <;> simp [Rp]⟩
  · exact (gives_bad.1 hg).elim

theorem abinE_sound {op : BinOp} {e : Bool} (he : isEql op = some e) (hx : Rp E x xv) (hy : Rp E y yv) (hg : (abinE e (rFit P t (isC X || isC Y)) x y).gives v) :
    ∃ z, ((do eqGuard op t X Y xv yv; binOp op t xv yv) : Sem Value).run P w = .ok z w ∧ Rp E v z := by
  unfold rFit at hg
  split at hg
  · rename_i hu
    simp only [abinE, abinB] at hg
    split at hg
    · rename_i a b ha hb
      rw [rp_bl hx ha, rp_bl hy hb]
      refine ⟨_, run_eqs he (by unfold eqGuard; cases op <;> simp) (by simp) (by simp) (by simp) (by simp) (run_boolEq hu _ _), aeq_rp hg fun q hq => by cases hq; rfl⟩
    · exact (gives_bad.1 hg).elim
  · rename_i el hu
    obtain ⟨r, hr, hv⟩ := abinN_rp (E := E) hg
    have hq : ∀ {p q : Option Addr}, xv = .pointer p → yv = .pointer q → (p = none ∨ q = none) → r = (p.isNone && q.isNone) →
        ∃ z, ((do eqGuard op t X Y xv yv; binOp op t xv yv) : Sem Value).run P w = .ok z w ∧ Rp E v z := by
      intro p q h1 h2 h3 hb
      subst h1; subst h2
      refine ⟨_, run_eqs he (b := r) (by unfold eqGuard; cases op <;> simp) (by simp) (by simp) (by simp) (by simp) ?_, hv⟩
      subst hb
      rw [equal_eq]
      generalize 9999 = d
      rcases h3 with rfl | rfl
      · simp [Op.equalIn, run_underlying hu]
      · cases p <;> simp [Op.equalIn, run_underlying hu]
    unfold anilP at hr
    split at hr <;> cases hr <;> simp only [Rp] at hx hy <;> exact hq hx hy (by simp) rfl
  · rename_i ms hu
    obtain ⟨r, hr, hv⟩ := abinN_rp (E := E) hg
    unfold anilI at hr
    split at hr
    · split at hr
      · rename_i hn
        cases hr
        simp only [Rp] at hx hy
        subst hx
        subst hy
        refine ⟨_, run_eqs he ?_ (by simp) (by simp) (by simp) (by simp) (b := true) ?_, hv⟩
        · unfold eqGuard
          cases X with
          | const c => cases op <;> simp [isEql] at he ⊢
          | _ => cases Y with
            | const c => cases op <;> simp [isEql] at he ⊢
            | _ =>
              have hms : ms.isEmpty = true := by simpa [isC] using hn
              have hg0 : (Op.eqGuardIn Op.maxDepth t .nilIface .nilIface).run P w = .ok false w := by
                show (Op.eqGuardIn (9999 + 1) t .nilIface .nilIface).run P w = _
                generalize 9999 = d
                simp [Op.eqGuardIn, run_underlying hu, hms]
              cases op <;> simp [isEql, hg0] at he ⊢
        · rw [equal_eq]
          generalize 9999 = d
          simp [Op.equalIn, run_underlying hu]
      · cases hr
    all_goals (cases hr <;> simp only [Rp] at hx hy)
    · obtain ⟨z, rfl, _⟩ := hy
      subst hx
      refine ⟨_, run_eqs he (by unfold eqGuard; cases op <;> simp) (by simp) (by simp) (by simp) (by simp) (b := false) ?_, hv⟩
      rw [equal_eq]
      generalize 9999 = d
      simp [Op.equalIn, run_underlying hu]
    · obtain ⟨z, rfl, _⟩ := hx
      subst hy
      refine ⟨_, run_eqs he (by unfold eqGuard; cases op <;> simp) (by simp) (by simp) (by simp) (by simp) (b := false) ?_, hv⟩
      rw [equal_eq]
      generalize 9999 = d
      simp [Op.equalIn, run_underlying hu]
  · rename_i fs hu
    split at hg
    · rename_i hgt
      split at hg
      · rename_i ks hks
        simp only [abinE, abinA] at hg
        split at hg
        · obtain ⟨l, rfl, hl⟩ := rp_agg.1 hx
          obtain ⟨m, rfl, hm⟩ := rp_agg.1 hy
          obtain ⟨r, hr, _⟩ := aeq_gives hg
          obtain ⟨h1, h2, h3⟩ := aeqc_sound ks _ _ r l m hr hl hm
          have h4 := flatB_sound P w 20 t ks hks (9999 + 1) (by omega) l m h1 h2
          simp only [ofCells, hu] at h4
          refine ⟨_, run_eqs he (run_eqGuard_agg w op t X Y _ _ hgt) (by simp) (by simp) (by simp) (by simp) (by rw [equal_eq]; exact h4), aeq_rp hg fun q hq => ?_⟩
          rw [hr] at hq; cases hq; exact h3.symm
        · exact (gives_bad.1 hg).elim
      · exact (gives_bad.1 hg).elim
    · exact (gives_bad.1 hg).elim
  · exact (gives_bad.1 hg).elim

theorem abin_sound {op : BinOp} (hx : Rp E x xv) (hy : Rp E y yv) (hg : (abin op (rFit P t (isC X || isC Y)) x y).gives v) :
    ∃ z, ((do eqGuard op t X Y xv yv; binOp op t xv yv) : Sem Value).run P w = .ok z w ∧ Rp E v z := by
  unfold abin at hg
  split at hg
  · simp only [Rp] at hx hy
    subst hx; subst hy
    exact abinI_sound hg
  · simp only [Rp] at hx hy
    subst hx; subst hy
    exact abinS_sound hg
  · split at hg
    · exact (gives_bad.1 hg).elim
    · rename_i e he
      exact abinE_sound he hx hy hg

end

end Go.Proofs.YtiaenejafpbfkaaDoor.Sx
