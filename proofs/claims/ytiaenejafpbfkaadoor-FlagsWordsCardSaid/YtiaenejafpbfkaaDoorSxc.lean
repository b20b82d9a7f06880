/- A symbolic executor for the model's code: operations that only yield a value do as the model does. -/
import Derived.Test.YtiaenejafpbfkaaDoorSxb
import Derived.Laws.StructEq
import Derived.Laws.CopyRow
namespace Go.Proofs.YtiaenejafpbfkaaDoor.Sx
open Go

/-- No cell of the first n may not be written. -/
def Soft (n : Nat) (fr : Nat × Nat) : Prop := fr.1 = fr.2 ∨ n ≤ fr.1
/-- Block g holds the cells l, and they may be written. -/
structure Hs (w : World) (g : Nat) (l : List Value) (e : TypeId) : Prop where
  ex : ∃ fr, w.heap[g]? = some (.cells l.toArray e fr) ∧ Soft l.length fr
theorem Hs.mk0 {w : World} {g : Nat} {l : List Value} {e : TypeId} (h : w.heap[g]? = some (.cells l.toArray e (0, 0))) : Hs w g l e := ⟨_, h, .inl rfl⟩
theorem Hs.of {w w' : World} {g g' : Nat} {l : List Value} {e : TypeId} (h : Hs w g l e) (hw : w'.heap[g']? = w.heap[g]?) : Hs w' g' l e := by
  obtain ⟨fr, h1, h2⟩ := h.ex
  exact ⟨fr, hw.trans h1, h2⟩
theorem Hs.cell {w : World} {g : Nat} {l : List Value} {e : TypeId} (h : Hs w g l e) (j : Nat) : w.cell? ⟨g, j, none⟩ = l[j]? := by
  obtain ⟨fr, h1, _⟩ := h.ex
  simp [World.cell?, h1]
theorem Hs.lt {w : World} {g : Nat} {l : List Value} {e : TypeId} (h : Hs w g l e) : g < w.heap.size := by
  obtain ⟨fr, h1, _⟩ := h.ex
  exact (Array.getElem?_eq_some_iff.1 h1).1
theorem Hs.setRow {w : World} {g : Nat} {l l' : List Value} {e : TypeId} (h : Hs w g l e) (hl : l'.length = l.length) : Hs (w.setRow g l'.toArray) g l' e := by
  obtain ⟨fr, h1, h2⟩ := h.ex
  exact ⟨fr, setRow_heap w g _ _ e fr h1, by rw [hl]; exact h2⟩
theorem run_storeCells_soft (P : Program) (g o : Nat) (t : TypeId) (fr : Nat × Nat) : ∀ (vs : List Value) (i : Nat) (cur : Array Value) (w : World), w.heap[g]? = some (.cells cur t fr) → Soft cur.size fr → o + i + vs.length ≤ cur.size → (∀ v ∈ vs, v.oneCell' = true) →
    (storeCells ⟨g, o, none⟩ vs i).run P w = .ok () (w.setRow g (cur.toList.take (o + i) ++ vs ++ cur.toList.drop (o + i + vs.length)).toArray)
  | [], i, cur, w, hg, _, _, _ => by
    simp only [storeCells, List.append_nil, List.length_nil, Nat.add_zero, List.take_append_drop, Array.toArray_toList]
    rw [setRow_self w g cur t fr hg]
    rfl
  | v :: rest, i, cur, w, hg, hs, hl, h1 => by
    have hi : o + i < cur.size := by simp at hl; omega
    have hadd : (⟨g, o, none⟩ : Addr).add i = ⟨g, o + i, none⟩ := by unfold Addr.add; split <;> simp_all
    have hcell : w.cell? ⟨g, o + i, none⟩ = some cur[o + i] := by simp [World.cell?, hg, hi]
    have hfro : w.frozen? ⟨g, o + i, none⟩ = false := by
      obtain ⟨lo, hi'⟩ := fr
      simp only [Soft] at hs
      simp only [World.frozen?, hg, Bool.and_eq_false_iff, decide_eq_false_iff_not]
      omega
    have hst : (store ((⟨g, o, none⟩ : Addr).add i) v).run P w = .ok () (w.setRow g (cur.setIfInBounds (o + i) v)) := by
      rw [hadd, run_store P w _ v _ (h1 v (by simp)), hcell]
      simp [hfro, setCell_eq_setRow w g (o + i) cur t fr v hg]
    have ih := run_storeCells_soft P g o t fr rest (i + 1) (cur.setIfInBounds (o + i) v) (w.setRow g (cur.setIfInBounds (o + i) v)) (setRow_heap w g cur _ t _ hg) (by simpa using hs) (by simp at hl ⊢; omega) (fun x hx => h1 x (by simp [hx]))
    simp only [storeCells, Sem.run_bind, hst, Result.andThen_ok, ih, setRow_setRow]
    congr 3
    have e := list_seg_step cur.toList (o + i) v rest (by simp at hl ⊢; omega)
    simpa [Array.toList_setIfInBounds, Nat.add_assoc] using e

def BlkRp (E : Env) (d : Nat) : Blk → Prop
  | .no => True
  | .cells c => ∃ l e, E.w.heap[E.ρ d]? = some (.cells (List.toArray l) e (0, 0)) ∧ ListC E c l
  | .row sz n g => (E.rv d = .slice none 0 0 ∧ n .o = 0) ∨ ∃ cap cur e, E.rv d = .slice (some ⟨E.ρ d, 0, none⟩) (n .o) cap ∧ Hs E.w (E.ρ d) cur e ∧ n .o ≤ cap ∧ cap ≤ maxLen ∧
      cur.length = cap * sz ∧ ∀ i, i < n .o → (g fun _ => i).okE ∧ ListC E (g fun _ => i) ((cur.drop (i * sz)).take sz)

/-- Does place d own a block of memory? -/
def solid (E : Env) (d : Nat) : Blk → Prop
  | .cells _ => True
  | .row _ _ _ => E.rv d ≠ .slice none 0 0
  | .no => False

structure SI (E : Env) (s : St) (a : Act) : Prop where
  tmps : ∀ d, Rp E (s.t.get d) (a.tmps.getD d undef)
  blk : ∀ d, BlkRp E d (s.b.get d)

theorem rp_scal {E : Env} {x : AV} {v : Value} (h : Rp E x v) (hs : x.scal = true) : v.oneCell' = true := by
  cases x <;> simp only [AV.scal, Bool.false_eq_true] at hs <;> simp only [Rp] at h
  all_goals first
    | (subst h; rfl)
    | (rcases h with ⟨_, _, _, h1⟩ | ⟨_, _, _, _, _, _, h1, _⟩ <;> (rw [h1]; rfl))
    | (obtain ⟨_, _, _, _, rfl⟩ := h; rfl)
    | (obtain ⟨_, _, rfl, _⟩ := h; rfl)
    | (obtain ⟨_, rfl, _⟩ := h; rfl)

theorem rp_agg {E : Env} {c : AV} {v : Value} : Rp E (.agg c) v ↔ ∃ l, v = .agg (List.toArray l) ∧ ListC E c l := by simp only [Rp]
theorem rp_tup {E : Env} {c : AV} {v : Value} : Rp E (.tup c) v ↔ ∃ l, v = .tuple (List.toArray l) ∧ ListC E c l := by simp only [Rp]
theorem listC_nil {E : Env} {l : List Value} : ListC E .nil l ↔ l = [] := by simp only [ListC]
theorem listC_cons {E : Env} {h t : AV} {l : List Value} : ListC E (.cons h t) l ↔ ∃ x r, l = x :: r ∧ Rp E h x ∧ ListC E t r := by simp only [ListC]

theorem listC_drop {E : Env} : ∀ (n : Nat) (c : AV) (l : List Value), ListC E c l → ListC E (c.drop n) (l.drop n)
  | 0, c, l, h => by unfold AV.drop; simpa using h
  | n + 1, .cons a t, l, h => by
    obtain ⟨x, r, rfl, _, h2⟩ := listC_cons.1 h
    simpa [AV.drop] using listC_drop n t r h2
  | n + 1, .nil, l, h => by rw [listC_nil.1 h]; simpa [AV.drop] using listC_nil.2 rfl
  | n + 1, .any, l, h | n + 1, .int _ _, l, h | n + 1, .bool _, l, h | n + 1, .tt, l, h | n + 1, .ff, l, h | n + 1, .str _, l, h | n + 1, .sl _ _ _, l, h | n + 1, .nsl, l, h
  | n + 1, .row _, l, h | n + 1, .ptr _ _, l, h | n + 1, .iptr _, l, h | n + 1, .rptr _ _ _ _, l, h | n + 1, .win _ _ _ _, l, h | n + 1, .nptr, l, h | n + 1, .fn _ _ _, l, h | n + 1, .nfn, l, h | n + 1, .nif, l, h
  | n + 1, .ifc _ _, l, h | n + 1, .agg _, l, h | n + 1, .tup _, l, h => by simp only [ListC] at h

theorem memC_drop {E : Env} : ∀ (n : Nat) (c : AV) (b o : Nat), MemC E c b o → MemC E (c.drop n) b (o + n)
  | 0, c, b, o, h => by unfold AV.drop; simpa using h
  | n + 1, .cons a t, b, o, h => by
    simp only [MemC] at h
    have := memC_drop n t b (o + 1) h.2
    simpa [AV.drop, Nat.add_comm, Nat.add_left_comm] using this
  | n + 1, .nil, b, o, h => by simp [AV.drop, MemC]
  | n + 1, .any, b, o, h | n + 1, .int _ _, b, o, h | n + 1, .bool _, b, o, h | n + 1, .tt, b, o, h | n + 1, .ff, b, o, h | n + 1, .str _, b, o, h | n + 1, .sl _ _ _, b, o, h | n + 1, .nsl, b, o, h
  | n + 1, .row _, b, o, h | n + 1, .ptr _ _, b, o, h | n + 1, .iptr _, b, o, h | n + 1, .rptr _ _ _ _, b, o, h | n + 1, .win _ _ _ _, b, o, h | n + 1, .nptr, b, o, h | n + 1, .fn _ _ _, b, o, h | n + 1, .nfn, b, o, h | n + 1, .nif, b, o, h
  | n + 1, .ifc _ _, b, o, h | n + 1, .agg _, b, o, h | n + 1, .tup _, b, o, h => by simp only [MemC] at h

theorem listC_nth {E : Env} : ∀ (n : Nat) (c : AV) (l : List Value) (x : AV), ListC E c l → c.nth n = some x → ∃ v, l[n]? = some v ∧ Rp E x v
  | 0, .cons a t, l, x, h, hn => by
    obtain ⟨v, r, rfl, h1, _⟩ := listC_cons.1 h
    simp only [AV.nth, Option.some.injEq] at hn
    subst hn
    exact ⟨v, rfl, h1⟩
  | n + 1, .cons a t, l, x, h, hn => by
    obtain ⟨v, r, rfl, _, h2⟩ := listC_cons.1 h
    simp only [AV.nth] at hn
    simpa using listC_nth n t r x h2 hn
  | n, .nil, l, x, h, hn => by cases n <;> simp [AV.nth] at hn
  | n, .any, l, x, h, hn | n, .int _ _, l, x, h, hn | n, .bool _, l, x, h, hn | n, .tt, l, x, h, hn | n, .ff, l, x, h, hn | n, .str _, l, x, h, hn | n, .sl _ _ _, l, x, h, hn | n, .nsl, l, x, h, hn
  | n, .row _, l, x, h, hn | n, .ptr _ _, l, x, h, hn | n, .iptr _, l, x, h, hn | n, .rptr _ _ _ _, l, x, h, hn | n, .win _ _ _ _, l, x, h, hn | n, .nptr, l, x, h, hn | n, .fn _ _ _, l, x, h, hn | n, .nfn, l, x, h, hn | n, .nif, l, x, h, hn
  | n, .ifc _ _, l, x, h, hn | n, .agg _, l, x, h, hn | n, .tup _, l, x, h, hn => by simp only [ListC] at h

theorem listC_take {E : Env} : ∀ (n : Nat) (c : AV) (l : List Value) (r : AV), ListC E c l → c.take n = some r → ListC E r (l.take n) ∧ n ≤ l.length
  | 0, c, l, r, h, hn => by
    have : r = .nil := by cases c <;> simp [AV.take] at hn <;> exact hn.symm
    subst this
    exact ⟨by simpa using listC_nil.2 rfl, Nat.zero_le _⟩
  | n + 1, .cons a t, l, r, h, hn => by
    obtain ⟨v, q, rfl, h1, h2⟩ := listC_cons.1 h
    simp only [AV.take] at hn
    split at hn
    · rename_i r' hr
      cases hn
      obtain ⟨h3, h4⟩ := listC_take n t q r' h2 hr
      exact ⟨by simpa using listC_cons.2 ⟨v, q.take n, rfl, h1, h3⟩, by simpa using h4⟩
    · cases hn
  | n + 1, .nil, l, r, h, hn => by simp [AV.take] at hn
  | n + 1, .any, l, r, h, hn | n + 1, .int _ _, l, r, h, hn | n + 1, .bool _, l, r, h, hn | n + 1, .tt, l, r, h, hn | n + 1, .ff, l, r, h, hn | n + 1, .str _, l, r, h, hn | n + 1, .sl _ _ _, l, r, h, hn | n + 1, .nsl, l, r, h, hn
  | n + 1, .row _, l, r, h, hn | n + 1, .ptr _ _, l, r, h, hn | n + 1, .iptr _, l, r, h, hn | n + 1, .rptr _ _ _ _, l, r, h, hn | n + 1, .win _ _ _ _, l, r, h, hn | n + 1, .nptr, l, r, h, hn | n + 1, .fn _ _ _, l, r, h, hn | n + 1, .nfn, l, r, h, hn | n + 1, .nif, l, r, h, hn
  | n + 1, .ifc _ _, l, r, h, hn | n + 1, .agg _, l, r, h, hn | n + 1, .tup _, l, r, h, hn => by simp only [ListC] at h

/-- At (b, o) stand cells that read as a chain. -/
def At (E : Env) (b o : Nat) (c : AV) : Prop := ∃ l, ListC E c l ∧ ∀ j v, l[j]? = some v → E.w.cell? ⟨b, o + j, none⟩ = some v

theorem at_of_mem {E : Env} (c : AV) : ∀ (b o : Nat), MemC E c b o → At E b o c := by
  induction c with
  | nil => intro b o _; exact ⟨[], listC_nil.2 rfl, fun j v h => by simp at h⟩
  | cons a t _ ih =>
    intro b o h
    simp only [MemC] at h
    obtain ⟨⟨v, h1, _, h2⟩, h3⟩ := h
    obtain ⟨l, h4, h5⟩ := ih b (o + 1) h3
    refine ⟨v :: l, listC_cons.2 ⟨v, l, rfl, h2, h4⟩, fun j u hj => ?_⟩
    cases j with
    | zero => simp at hj; subst hj; simpa using h1
    | succ j => have := h5 j u (by simpa using hj); rw [← this]; congr 2; omega
  | _ => intro b o h; simp only [MemC] at h

theorem cell_of_heap {w : World} {g : Nat} {l : List Value} {e : TypeId} {fr : Nat × Nat} (h : w.heap[g]? = some (.cells l.toArray e fr)) (j : Nat) : w.cell? ⟨g, j, none⟩ = l[j]? := by
  simp [World.cell?, h]

theorem at_of_heap {E : Env} {c : AV} {g o : Nat} {l : List Value} {e : TypeId} {fr : Nat × Nat} (h : E.w.heap[g]? = some (.cells l.toArray e fr)) (hc : ListC E c l) : At E g o (c.drop o) := by
  refine ⟨l.drop o, listC_drop o c l hc, fun j v hj => ?_⟩
  rw [cell_of_heap h]
  simpa using hj

theorem listC_len' {E : Env} {c : AV} : ∀ {l : List Value}, ListC E c l → c.len = l.length := by
  induction c with
  | nil => intro l h; rw [listC_nil.1 h]; rfl
  | cons p q _ ih => intro l h; obtain ⟨x, r, rfl, _, h4⟩ := listC_cons.1 h; simp [AV.len, ih h4]
  | _ => intro l h; simp only [ListC] at h
theorem row_elem {cur : List Value} {cap sz n i : Nat} (h : cur.length = cap * sz) (hc : n ≤ cap) (hi : i < n) : ((cur.drop (i * sz)).take sz).length = sz := by
  have : (i + 1) * sz ≤ cap * sz := Nat.mul_le_mul_right _ (by omega)
  rw [Nat.add_mul] at this
  simp only [List.length_take, List.length_drop, h]
  omega

theorem at_row {E : Env} {d sz i o : Nat} {n : Th Nat} {g : Th Nat → AV} (h : BlkRp E d (.row sz n g)) (hi : i < n .o) : At E (E.ρ d) (i * sz + o) ((g fun _ => i).drop o) := by
  rcases h with ⟨_, h0⟩ | ⟨cap, cur, e, _, h2, h3, _, h5, h6⟩
  · rw [h0] at hi; exact absurd hi (Nat.not_lt_zero _)
  obtain ⟨_, h7⟩ := h6 i hi
  refine ⟨_, listC_drop o _ _ h7, fun j v hj => ?_⟩
  rw [h2.cell]
  rw [List.getElem?_drop, List.getElem?_take] at hj
  split at hj
  · rw [List.getElem?_drop] at hj; rw [← hj]; congr 1; omega
  · cases hj

/-- What a load reads. -/
def LoadsAs (E : Env) (b o : Nat) (v : AV) (n : Option Nat) : Prop :=
  match n with
  | none => ∃ x, E.w.cell? ⟨b, o, none⟩ = some x ∧ Rp E v x
  | some k => ∃ l : List Value, l.length = k ∧ (∀ j u, l[j]? = some u → E.w.cell? ⟨b, o + j, none⟩ = some u) ∧ Rp E v (.agg l.toArray)

theorem loads_first {E : Env} {b o : Nat} {c v : AV} (h : At E b o c) (hf : first c = some v) : LoadsAs E b o v none := by
  obtain ⟨l, h1, h2⟩ := h
  obtain ⟨x, h3, h4⟩ := listC_nth 0 c l v h1 hf
  exact ⟨x, by simpa using h2 0 x h3, h4⟩

theorem loads_take {E : Env} {b o n : Nat} {c v : AV} (h : At E b o c) (hf : takeA n c = some v) : LoadsAs E b o v (some n) := by
  obtain ⟨l, h1, h2⟩ := h
  unfold takeA at hf
  split at hf
  · rename_i r hr
    cases hf
    obtain ⟨h3, h4⟩ := listC_take n c l r h1 hr
    refine ⟨l.take n, by simp; omega, fun j u hj => ?_, rp_agg.2 ⟨_, rfl, h3⟩⟩
    rw [List.getElem?_take] at hj
    split at hj
    · exact h2 j u hj
    · cases hj
  · cases hf

/-- An address that is loaded from, and what is there. -/
theorem aload_sound {E : Env} {s : St} {a : Act} (hS : SI E s a) {f : AV → Option AV} {k : Option Nat} (hf : ∀ b o c v, At E b o c → f c = some v → LoadsAs E b o v k)
    {x : AV} {xv : Value} (hx : Rp E x xv) {p : Prop} {v : AV} (h : aload f s x = .ok v ∧ p ∨ ∃ q : Th Prop, aload f s x = .cond q v ∧ q .o) :
    ∃ b o, xv = .pointer (some ⟨b, o, none⟩) ∧ LoadsAs E b o v k := by
  unfold aload at h
  cases x with
  | iptr c =>
    obtain ⟨b, o, rfl, h2⟩ := hx
    refine ⟨b, o, rfl, ?_⟩
    cases hc : f c with
    | none => simp [hc, okO] at h
    | some u => simp only [hc, okO, QR.ok.injEq, reduceCtorEq, false_and, exists_false, or_false] at h; rw [← h.1]; exact hf _ _ _ _ (at_of_mem c b o h2) hc
  | ptr d o =>
    have hb := hS.blk d
    cases hB : s.b.get d with
    | no => simp [hB] at h
    | row _ _ _ => simp [hB] at h
    | cells c =>
      rw [hB] at hb
      obtain ⟨l, e, h1, h2⟩ := hb
      refine ⟨E.ρ d, o, hx, ?_⟩
      cases hc : f (c.drop o) with
      | none => simp [hB, hc, okO] at h
      | some u => simp only [hB, hc, okO, QR.ok.injEq, reduceCtorEq, false_and, exists_false, or_false] at h; rw [← h.1]; exact hf _ _ _ _ (at_of_heap h1 h2) hc
  | rptr d sz i o =>
    have hb := hS.blk d
    cases hB : s.b.get d with
    | no => simp [hB] at h
    | cells _ => simp [hB] at h
    | row sz' n g =>
      rw [hB] at hb
      refine ⟨E.ρ d, i .o * sz + o, hx, ?_⟩
      simp only [hB] at h
      cases hsz : sz == sz' with
      | false => simp [hsz] at h
      | true =>
        have : sz = sz' := by simpa using hsz
        subst this
        cases hc : f ((g i).drop o) with
        | none => simp [hc] at h
        | some u =>
          simp only [hsz, hc, reduceCtorEq, false_and, QR.cond.injEq, false_or] at h
          obtain ⟨q, ⟨rfl, rfl⟩, hq⟩ := h
          exact hf _ _ _ _ (at_row hb hq) hc
  | _ => simp at h

/-! ### running -/
section
variable {P : Program} {w : World}

theorem run_valueOf (s : Sem Value) : ((do pure (Next.value (← s))) : Sem Next).run P w = (s.run P w).andThen fun v w' => .ok (.value v) w' := by
  simp

/-- Is a value of this kind a row of cells? -/
def aggD : TypeDesc → Bool | .struct _ => true | .array _ _ => true | _ => false
theorem run_isAgg {t : TypeId} {d : TypeDesc} (hu : P.underlying t = some d) : (isAgg t).run P w = .ok (aggD d) w := by
  unfold isAgg
  simp only [Sem.run_bind, Result.andThen_ok, run_underlying hu]
  cases d <;> rfl
theorem run_sizeOf {t : TypeId} {i : TypeInfo} (hi : P.info? t = some i) : (sizeOf t).run P w = .ok i.size w := by simp [sizeOf, typeInfo, hi]
theorem addr_add (b o j : Nat) : (⟨b, o, none⟩ : Addr).add j = ⟨b, o + j, none⟩ := by
  unfold Addr.add; split <;> simp_all

theorem run_load1 {t : TypeId} {d : TypeDesc} (hu : P.underlying t = some d) (hd : aggD d = false) {A : Addr} {v : Value} (hc : w.cell? A = some v) :
    (Instr.loadAt t (.pointer (some A))).run P w = .ok v w := by
  unfold Instr.loadAt Instr.sureAddr loadVar
  simp only [Sem.run_bind, Sem.run_pure, Result.andThen_ok, run_isAgg hu, hd, Bool.false_eq_true, if_false]
  simp [load, Sem.run, hc]

theorem run_loadA {t : TypeId} {d : TypeDesc} (hu : P.underlying t = some d) (hd : aggD d = true) {i : TypeInfo} (hi : P.info? t = some i)
    {b o : Nat} {l : List Value} (hl : l.length = i.size) (hc : ∀ j v, l[j]? = some v → w.cell? ⟨b, o + j, none⟩ = some v) :
    (Instr.loadAt t (.pointer (some ⟨b, o, none⟩))).run P w = .ok (.agg l.toArray) w := by
  have h1 := run_loadCells_list (P := P) (w := w) ⟨b, o, none⟩ l (fun j v hj => by rw [addr_add]; exact hc j v hj)
  rw [hl] at h1
  unfold Instr.loadAt Instr.sureAddr loadVar
  simp only [Sem.run_bind, Sem.run_pure, Result.andThen_ok, run_isAgg hu, hd, if_true, run_sizeOf hi, h1]
end

end Go.Proofs.YtiaenejafpbfkaaDoor.Sx
