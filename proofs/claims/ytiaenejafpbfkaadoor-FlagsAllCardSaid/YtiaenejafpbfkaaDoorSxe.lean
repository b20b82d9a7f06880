/- A symbolic executor for the model's code: each operation that only yields a value does as the model does. -/
import Derived.Laws.BytesArg
import Derived.Test.YtiaenejafpbfkaaDoorSxd
namespace Go.Proofs.YtiaenejafpbfkaaDoor.Sx
open Go
set_option linter.unusedSimpArgs false
set_option linter.unusedVariables false

section
variable {P : Program} {E : Env} {s : St} {a : Act} {w : World} {v : AV}

theorem opt_map {α β : Type} {f : α → β} {x : Option α} {y : β} (h : x.map f = some y) : ∃ z, x = some z ∧ y = f z := by
  cases x <;> simp at h
  exact ⟨_, rfl, h.symm⟩

theorem value_of {e : Sem Value} {z : Value} (h : e.run P w = .ok z w) : ((do pure (Next.value (← e))) : Sem Next).run P w = .ok (.value z) w := by
  rw [run_valueOf, h]; rfl

theorem okO_gives {x : Option AV} : (okO x).gives v ↔ x = some v := by
  cases x <;> simp [okO, gives_ok, gives_bad]

theorem apick_sound {c x y : AV} {cv xv yv : Value} (hc : Rp E c cv) (hx : Rp E x xv) (hy : Rp E y yv) (hg : (apick c x y).gives v) :
    ∃ b : Bool, cv = .bool b ∧ Rp E v (if b = true then xv else yv) := by
  unfold apick at hg
  split at hg
  · rw [gives_ok] at hg; subst hg; exact ⟨true, hc, by simpa using hx⟩
  · rw [gives_ok] at hg; subst hg; exact ⟨false, hc, by simpa using hy⟩
  · rename_i b
    refine ⟨b .o, hc, ?_⟩
    unfold merge at hg
    split at hg
    · rename_i k p k' q
      split at hg
      · rename_i hk
        obtain rfl := kq_eq hk
        rw [gives_ok] at hg; subst hg
        simp only [Rp] at hx hy ⊢
        subst hx; subst hy
        split <;> rfl
      · exact (gives_bad.1 hg).elim
    · rename_i p q
      rw [gives_ok] at hg; subst hg
      simp only [Rp] at hx hy ⊢
      subst hx; subst hy
      split <;> rfl
    · split at hg
      · rename_i p q hp hq
        rw [gives_ok] at hg; subst hg
        rw [rp_bl hx hp, rp_bl hy hq]
        simp only [Rp]
        split <;> rfl
      · exact (gives_bad.1 hg).elim
  · exact (gives_bad.1 hg).elim

theorem aun_sound {op : UnOp} {x : AV} {xv : Value} (hx : Rp E x xv) (hg : (aun op x).gives v) : ∃ z, (Op.unary op xv).run P w = .ok z w ∧ Rp E v z := by
  unfold aun at hg
  split at hg
  · rw [gives_ok] at hg; subst hg; simp only [Rp] at hx; subst hx; exact ⟨.bool false, by simp [Op.unary], rfl⟩
  · rw [gives_ok] at hg; subst hg; simp only [Rp] at hx; subst hx; exact ⟨.bool true, by simp [Op.unary], rfl⟩
  · rw [gives_ok] at hg; subst hg; simp only [Rp] at hx; subst hx; exact ⟨_, by simp only [Op.unary]; rfl, rfl⟩
  · rw [gives_ok] at hg; subst hg; simp only [Rp] at hx; subst hx; exact ⟨_, by simp only [Op.unary, Op.intArith]; rfl, rfl⟩
  · exact (gives_bad.1 hg).elim

theorem afld_sound {off : Nat} {x : AV} {xv : Value} (hx : Rp E x xv) (hg : (afld off x).gives v) : ∃ b o, xv = .pointer (some ⟨b, o, none⟩) ∧ Rp E v (.pointer (some ⟨b, o + off, none⟩)) := by
  unfold afld at hg
  split at hg
  · rw [gives_ok] at hg; subst hg; exact ⟨_, _, hx, by simp [Rp]⟩
  · rename_i c
    rw [gives_ok] at hg; subst hg
    obtain ⟨b, o, rfl, h⟩ := hx
    exact ⟨b, o, rfl, b, o + off, rfl, memC_drop off c b o h⟩
  · rw [gives_ok] at hg; subst hg; exact ⟨_, _, hx, by simp [Rp, Nat.add_assoc]⟩
  · exact (gives_bad.1 hg).elim

theorem aidx_sound (hS : SI E s a) {sz : Nat} {x i : AV} {xv iv : Value} (hx : Rp E x xv) (hi : Rp E i iv) (hg : (aidx sz s x i).gives v) :
    ∃ b o n cap k j, xv = .slice (some ⟨b, o, none⟩) n cap ∧ iv = .int k j ∧ 0 ≤ j ∧ j < (n : Int) ∧ Rp E v (.pointer (some ⟨b, o + j.toNat * sz, none⟩)) := by
  unfold aidx at hg
  split at hg
  · rename_i sz' n g k j
    split at hg
    · rename_i hsz
      have : sz = sz' := by simpa using hsz
      subst this
      obtain ⟨rfl, h0, h1⟩ := gives_cond.1 hg
      simp only [zi] at h1
      obtain ⟨av, cap, rfl, _, h3⟩ := hx
      obtain ⟨_, b, o, rfl, h5⟩ := h3 (j .o).toNat (by omega)
      exact ⟨b, o, n .o, cap, k, j .o, rfl, hi, h0, h1, b, _, rfl, h5⟩
    · exact (gives_bad.1 hg).elim
  · rename_i d k j
    split at hg
    · rename_i sz' n g hb
      split at hg
      · rename_i hsz
        have : sz = sz' := by simpa using hsz
        subst this
        obtain ⟨rfl, h0, h1⟩ := gives_cond.1 hg
        simp only [zi] at h1
        have hB := hS.blk d
        rw [hb] at hB
        rcases hB with ⟨_, h2⟩ | ⟨cap, cur, e, h2, _⟩
        · rw [h2] at h1; omega
        refine ⟨E.ρ d, 0, n .o, cap, k, j .o, hx.1.trans h2, hi, h0, h1, ?_⟩
        simp [Rp]
      · exact (gives_bad.1 hg).elim
    · exact (gives_bad.1 hg).elim
  · rename_i d sz1 lo n k j
    split at hg
    · rename_i sz' n' g hb
      split at hg
      · rename_i hsz hsz1
        have e1 : sz = sz' := by simpa using hsz
        have e2 : sz = sz1 := by simpa using hsz1
        subst e1; subst e2
        obtain ⟨rfl, h0, h1⟩ := gives_cond.1 hg
        simp only [zi] at h1
        have hB := hS.blk d
        rw [hb] at hB
        rcases hx with ⟨_, _, h2, _⟩ | ⟨A, m, c, p, h2, h3, rfl, h4⟩
        · rw [h2] at h1; omega
        rcases hB with ⟨h5, _⟩ | ⟨cap, cur, e, h5, _⟩
        · rw [h2] at h5; cases h5
        · rw [h2] at h5; cases h5
          have h4 := h4 (.inl (by omega))
          subst h4
          refine ⟨E.ρ d, lo .o * sz, n .o, c - lo .o, k, j .o, by rw [addr_add, Nat.zero_add], hi, h0, h1, ?_⟩
          simp only [Rp, Nat.add_zero]
          rw [Nat.add_mul]
      · exact (gives_bad.1 hg).elim
    · exact (gives_bad.1 hg).elim
  · exact (gives_bad.1 hg).elim
theorem aidxA_sound (hS : SI E s a) {sz len : Nat} {x i : AV} {xv iv : Value} (hx : Rp E x xv) (hi : Rp E i iv) (hg : (aidxA sz len s x i).gives v) :
    ∃ b o k j, xv = .pointer (some ⟨b, o, none⟩) ∧ iv = .int k j ∧ 0 ≤ j ∧ j < (len : Int) ∧ Rp E v (.pointer (some ⟨b, o + j.toNat * sz, none⟩)) := by
  unfold aidxA at hg
  split at hg
  · rename_i d k j
    split at hg
    · rename_i sz' n g hb
      split at hg
      · rename_i hsz
        have : sz = sz' := by simpa using hsz
        subst this
        obtain ⟨rfl, h0, h1, h2⟩ := gives_cond.1 hg
        exact ⟨E.ρ d, 0, k, j .o, hx, hi, h0, h2, by simp [Rp]⟩
      · exact (gives_bad.1 hg).elim
    · exact (gives_bad.1 hg).elim
  · rename_i d sz' i' off k j
    split at hg
    · obtain ⟨rfl, h0, h2⟩ := gives_cond.1 hg
      exact ⟨E.ρ d, i' .o * sz' + off, k, j .o, hx, hi, h0, h2, by simp [Rp, Nat.add_assoc]⟩
    · exact (gives_bad.1 hg).elim
  · exact (gives_bad.1 hg).elim

theorem abound_sound {dflt a' : Th Int} {x : Option AV} {xv : Option Value} (hx : match x, xv with | none, none => True | some x, some y => Rp E x y | _, _ => False) (hg : abound dflt x = some a') :
    (x = none ∧ xv = none ∧ a' = dflt) ∨ ∃ k, xv = some (.int k (a' .o)) := by
  unfold abound at hg
  split at hg
  · cases hg
    cases xv with
    | none => exact .inl ⟨rfl, rfl, rfl⟩
    | some y => exact hx.elim
  · cases hg
    cases xv with
    | none => exact hx.elim
    | some y => exact .inr ⟨_, congrArg some hx⟩
  · cases hg

theorem run_bounds {isSlice : Bool} {len cap : Nat} {lo hi : Option Value} {l h : Int} (hl : lo = none ∧ l = 0 ∨ ∃ k, lo = some (.int k l)) (hh : hi = none ∧ h = (len : Int) ∨ ∃ k, hi = some (.int k h))
    (h0 : 0 ≤ l) (h1 : l ≤ h) (h2 : h ≤ (len : Int)) (h3 : len ≤ cap) : (Instr.sliceBounds isSlice len cap lo hi none).run P w = .ok (l.toNat, h.toNat, cap) w := by
  have hb : ∀ (k : IntKind) (x : Int) (y : Nat) (c : BoundsCode), 0 ≤ x → x ≤ (y : Int) → (Instr.sliceBound (.int k x) y c).run P w = .ok x.toNat w := by
    intro k x y c hx hy
    simp [Instr.sliceBound, asIntOf, hx, hy]
  unfold Instr.sliceBounds
  rcases hh with ⟨rfl, rfl⟩ | ⟨k, rfl⟩
  · rcases hl with ⟨rfl, rfl⟩ | ⟨k', rfl⟩
    · simp
    · simp [hb k' l len _ h0 (by omega)]
  · have h4 : h ≤ (cap : Int) := by omega
    rcases hl with ⟨rfl, rfl⟩ | ⟨k', rfl⟩
    · simp [hb k h cap _ (by omega) h4]
    · simp [hb k h cap _ (by omega) h4, hb k' l h.toNat _ h0 (by omega)]

theorem evo_sound (hS : SI E s a) {x : Option Operand} {y : Option Opd} (h : rOpdo x = some y) : match evo s y, x.map a.eval with | none, none => True | some x, some y => Rp E x y | _, _ => False := by
  cases x with
  | none => cases h; trivial
  | some x =>
    obtain ⟨z, hz, rfl⟩ := opt_map h
    exact opd_sound hS hz

theorem amm_sound {mx : Bool} {x y z : AV} {xv yv : Value} (hx : Rp E x xv) (hy : Rp E y yv) (h : amm mx x y = some z) :
    ∃ zv, ((if mx = true then Builtin.max2 xv yv else Builtin.min2 xv yv) : Sem Value).run P w = .ok zv w ∧ Rp E z zv := by
  unfold amm at h
  split at h
  · cases h
    simp only [Rp] at hx hy
    subst hx; subst hy
    cases mx with
    | true => exact ⟨_, by simp only [if_true, Builtin.max2]; rfl, rfl⟩
    | false => exact ⟨_, by simp only [Bool.false_eq_true, if_false, Builtin.min2]; rfl, rfl⟩
  · cases h

theorem amms_sound {mx : Bool} : ∀ (l : List AV) (m : List Value) (x z : AV) (xv : Value), Rp E x xv → ListC E (chain l) m → amms mx x l = some z →
    ∃ zv, (m.foldlM (fun p q => if mx = true then Builtin.max2 p q else Builtin.min2 p q) xv : Sem Value).run P w = .ok zv w ∧ Rp E z zv
  | [], m, x, z, xv, hx, hl, h => by
    cases h
    rw [listC_nil.1 hl]
    exact ⟨xv, rfl, hx⟩
  | y :: l, m, x, z, xv, hx, hl, h => by
    obtain ⟨yv, m, rfl, hy, hl⟩ := listC_cons.1 hl
    unfold amms at h
    split at h
    · rename_i u hu
      obtain ⟨uv, h1, h2⟩ := amm_sound (P := P) (w := w) hx hy hu
      obtain ⟨zv, h3, h4⟩ := amms_sound l m u z uv h2 hl h
      refine ⟨zv, ?_, h4⟩
      rw [List.foldlM_cons, Sem.run_bind, h1]
      exact h3
    · cases h

theorem ext_toList (l : List UInt8) (i j : Nat) : (⟨l.toArray⟩ : ByteArray).extract i j = ⟨((l.take j).drop i).toArray⟩ := by
  apply ByteArray.ext
  rw [ByteArray.data_extract]
  simp [List.drop_take]

theorem getElem?_mk (l : List UInt8) (i : Nat) : (⟨l.toArray⟩ : ByteArray)[i]? = l[i]? := by
  rcases Nat.lt_or_ge i l.length with h | h
  · rw [getElem?_pos _ i (by simpa [ByteArray.size] using h), List.getElem?_eq_getElem h]; rfl
  · rw [getElem?_neg _ i (by simpa [ByteArray.size] using h), List.getElem?_eq_none h]

/-- A number's own text: the model's sliceBounds at what is asked for. -/
theorem asliceS_sound {x : AV} {lo hi : Option AV} {xv : Value} {lov hiv : Option Value} {t : TypeId} (hu : P.underlying t = some .string) (hx : Rp E x xv)
    (hl : match lo, lov with | none, none => True | some x, some y => Rp E x y | _, _ => False) (hh : match hi, hiv with | none, none => True | some x, some y => Rp E x y | _, _ => False)
    (hg : (asliceS x lo hi).gives v) : ∃ z, (Instr.sliceAt t xv lov hiv none).run P w = .ok z w ∧ Rp E v z := by
  unfold asliceS at hg
  split at hg
  · rename_i st
    simp only [Rp] at hx
    subst hx
    split at hg
    · rename_i p q hp hq
      obtain ⟨rfl, h0, h1, h2⟩ := gives_cond.1 hg
      simp only [zi] at h2 hp hq
      have h3 := abound_sound hl hp
      have h4 := abound_sound hh hq
      have hsz : (⟨(st .o).toArray⟩ : ByteArray).size = (st .o).length := by simp [ByteArray.size]
      have hb := run_bounds (P := P) (w := w) (isSlice := false) (len := (st .o).length) (cap := (st .o).length) (lo := lov) (hi := hiv) (l := p .o) (h := q .o)
        (by rcases h3 with ⟨_, h, rfl⟩ | ⟨k, h⟩; exact .inl ⟨h, rfl⟩; exact .inr ⟨k, h⟩) (by rcases h4 with ⟨_, h, rfl⟩ | ⟨k, h⟩; exact .inl ⟨h, rfl⟩; exact .inr ⟨k, h⟩) h0 h1 h2 (Nat.le_refl _)
      refine ⟨.string ⟨(((st .o).take (q .o).toNat).drop (p .o).toNat).toArray⟩, ?_, rfl⟩
      unfold Instr.sliceAt
      simp only [Sem.run_bind, run_underlying hu, Result.andThen_ok, Instr.slice, Option.isSome_none, Bool.false_eq_true, if_false, Sem.run_pure, hsz, hb, ext_toList]
    · exact (gives_bad.1 hg).elim
  · exact (gives_bad.1 hg).elim

theorem aslice_sound (hS : SI E s a) {x : AV} {lo hi : Option AV} {xv : Value} {lov hiv : Option Value} {t e : TypeId} {inf : TypeInfo} (hu : P.underlying t = some (.slice e)) (hi' : P.info? e = some inf) (hx : Rp E x xv)
    (hl : match lo, lov with | none, none => True | some x, some y => Rp E x y | _, _ => False) (hh : match hi, hiv with | none, none => True | some x, some y => Rp E x y | _, _ => False)
    (hg : (aslice inf.size s x lo hi).gives v) : ∃ z, (Instr.sliceAt t xv lov hiv none).run P w = .ok z w ∧ Rp E v z := by
  unfold aslice at hg
  split at hg
  · rename_i sz' n g
    split at hg
    · rename_i p q hsz hp hq
      have : inf.size = sz' := by simpa using hsz
      subst this
      obtain ⟨rfl, h0, h1, h2⟩ := gives_cond.1 hg
      simp only [zi] at h2 hp hq
      obtain ⟨av, cap, rfl, hc, hm⟩ := hx
      have h3 := abound_sound hl hp
      have h4 := abound_sound hh hq
      have hb := run_bounds (P := P) (w := w) (isSlice := true) (len := n .o) (cap := cap) (lo := lov) (hi := hiv) (l := p .o) (h := q .o)
        (by rcases h3 with ⟨_, h, rfl⟩ | ⟨k, h⟩; exact .inl ⟨h, rfl⟩; exact .inr ⟨k, h⟩) (by rcases h4 with ⟨_, h, rfl⟩ | ⟨k, h⟩; exact .inl ⟨h, rfl⟩; exact .inr ⟨k, h⟩) h0 h1 h2 hc
      refine ⟨.slice (if cap = (p .o).toNat then av else av.map (·.add ((p .o).toNat * inf.size))) ((q .o).toNat - (p .o).toNat) (cap - (p .o).toNat), ?_, ?_⟩
      · unfold Instr.sliceAt
        simp only [Sem.run_bind, run_underlying hu, Result.andThen_ok, Instr.slice, Sem.run_pure, hb, run_sizeOf hi']
      · refine ⟨if cap = (p .o).toNat then av else av.map (·.add ((p .o).toNat * inf.size)), cap - (p .o).toNat, ?_, ?_, fun i hi => ?_⟩
        · rw [show (q .o).toNat - (p .o).toNat = (q .o - p .o).toNat by omega]
        · show (q .o - p .o).toNat ≤ _; omega
        · replace hi : i < (q .o - p .o).toNat := hi
          obtain ⟨hs, b, o, rfl, h5⟩ := hm ((p .o).toNat + i) (by omega)
          refine ⟨hs, b, o + (p .o).toNat * inf.size, ?_, ?_⟩
          · rw [if_neg (by omega)]; simp [addr_add]
          · have : o + (p .o).toNat * inf.size + i * inf.size = o + ((p .o).toNat + i) * inf.size := by rw [Nat.add_mul]; omega
            rw [this]; exact h5
    · exact (gives_bad.1 hg).elim
  · rename_i d
    split at hg
    rotate_left
    · exact (gives_bad.1 hg).elim
    rename_i sz' n g hb
    split at hg
    · rename_i p q hsz hp hq
      have : inf.size = sz' := by simpa using hsz
      subst this
      obtain ⟨rfl, h0, h1, h2⟩ := gives_cond.1 hg
      simp only [zi] at h2 hp hq
      have h3 := abound_sound hl hp
      have h4 := abound_sound hh hq
      have hB := hS.blk d
      rw [hb] at hB
      rcases hB with ⟨h5, h6⟩ | ⟨cap, cur, e, h5, _, h6, _⟩
      · have hxv : xv = .slice none 0 0 := hx.1.trans h5
        subst hxv
        have hb := run_bounds (P := P) (w := w) (isSlice := true) (len := 0) (cap := 0) (lo := lov) (hi := hiv) (l := p .o) (h := q .o)
          (by rcases h3 with ⟨_, h, rfl⟩ | ⟨k, h⟩; exact .inl ⟨h, rfl⟩; exact .inr ⟨k, h⟩) (by rcases h4 with ⟨_, h, rfl⟩ | ⟨k, h⟩; exact .inl ⟨h, by simp [h6]⟩; exact .inr ⟨k, h⟩) h0 h1 (by rw [h6] at h2; exact h2) (Nat.le_refl _)
        have hp0 : p .o = 0 := by rw [h6] at h2; omega
        have hq0 : q .o = 0 := by rw [h6] at h2; omega
        refine ⟨.slice none 0 0, ?_, .inl ⟨h5, by show (p .o).toNat = 0; omega, by show (q .o - p .o).toNat = 0; omega, rfl⟩⟩
        unfold Instr.sliceAt
        simp only [Sem.run_bind, run_underlying hu, Result.andThen_ok, Instr.slice, Sem.run_pure, hb, run_sizeOf hi', hp0, hq0]
        simp
      · have hxv := hx.1.trans h5
        subst hxv
        have hb := run_bounds (P := P) (w := w) (isSlice := true) (len := n .o) (cap := cap) (lo := lov) (hi := hiv) (l := p .o) (h := q .o)
          (by rcases h3 with ⟨_, h, rfl⟩ | ⟨k, h⟩; exact .inl ⟨h, rfl⟩; exact .inr ⟨k, h⟩) (by rcases h4 with ⟨_, h, rfl⟩ | ⟨k, h⟩; exact .inl ⟨h, rfl⟩; exact .inr ⟨k, h⟩) h0 h1 h2 h6
        refine ⟨.slice (if cap = (p .o).toNat then some ⟨E.ρ d, 0, none⟩ else (some (⟨E.ρ d, 0, none⟩ : Addr)).map (·.add ((p .o).toNat * inf.size))) ((q .o).toNat - (p .o).toNat) (cap - (p .o).toNat), ?_, ?_⟩
        · unfold Instr.sliceAt
          simp only [Sem.run_bind, run_underlying hu, Result.andThen_ok, Instr.slice, Sem.run_pure, hb, run_sizeOf hi']
        · refine .inr ⟨⟨E.ρ d, 0, none⟩, n .o, cap, if cap = (p .o).toNat then ⟨E.ρ d, 0, none⟩ else (⟨E.ρ d, 0, none⟩ : Addr).add ((p .o).toNat * inf.size), h5, by show (p .o).toNat + (q .o - p .o).toNat ≤ cap; omega, ?_, fun hor => ?_⟩
          · show _ = Value.slice _ (q .o - p .o).toNat (cap - (p .o).toNat)
            rw [show (q .o).toNat - (p .o).toNat = (q .o - p .o).toNat by omega]
            split <;> rfl
          · have hor : (q .o - p .o).toNat ≠ 0 ∨ (p .o).toNat = 0 := hor
            show _ = (⟨E.ρ d, 0, none⟩ : Addr).add ((p .o).toNat * inf.size)
            split
            · rename_i hc
              have : (p .o).toNat = 0 := by omega
              rw [this]; simp [addr_add]
            · rfl
    · exact (gives_bad.1 hg).elim
  · exact (gives_bad.1 hg).elim

theorem len_sound (hS : SI E s a) {x : AV} {xv : Value} {t : TypeId} {e : TypeId} (hu : P.underlying t = some (.slice e)) (hx : Rp E x xv) (hg : (alen s x).gives v) {ts : List TypeId} {ty : TypeId} :
    ∃ z, (Builtin.len_ (t :: ts).toArray ty #[xv]).run P w = .ok z w ∧ Rp E v z := by
  have hrun : ∀ (A : Option Addr) (n c : Nat), xv = .slice A n c → (Builtin.len_ (t :: ts).toArray ty #[xv]).run P w = .ok (.int .i64 n) w := by
    intro A n c h
    subst h
    simp [Builtin.len_, run_underlying hu, goInt]
  unfold alen at hg
  split at hg
  · rw [gives_ok] at hg; subst hg
    obtain ⟨_, _, rfl, _⟩ := hx
    exact ⟨_, hrun _ _ _ rfl, rfl⟩
  · rw [gives_ok] at hg; subst hg
    exact ⟨_, hrun _ _ _ hx, rfl⟩
  · rename_i d
    split at hg
    · rename_i sz n g hb
      rw [gives_ok] at hg; subst hg
      have hB := hS.blk d
      rw [hb] at hB
      rcases hB with ⟨h2, h3⟩ | ⟨cap, cur, e', h2, _⟩
      · refine ⟨_, hrun _ _ _ (hx.1.trans h2), ?_⟩
        simp only [Rp, zi, h3]
      exact ⟨_, hrun _ _ _ (hx.1.trans h2), rfl⟩
    · exact (gives_bad.1 hg).elim
  · rename_i d sz1 lo n
    split at hg
    · rw [gives_ok] at hg
      subst hg
      rcases hx with ⟨_, _, h0, rfl⟩ | ⟨A, m, c, p, _, _, rfl, _⟩
      · exact ⟨_, hrun none 0 0 rfl, by show _ = Value.int .i64 (zi (n .o)); rw [h0]; rfl⟩
      · exact ⟨_, hrun (some p) (n .o) _ rfl, rfl⟩
    · exact (gives_bad.1 hg).elim
  · exact (gives_bad.1 hg).elim

theorem asserts_sound {t : Nat} {z x : AV} {xv zv : Value} {tx : TypeId} {d : TypeDesc} {inf : TypeInfo} (hu : P.underlying t = some d) (hd : ∀ ms, d ≠ .interface ms) (hi : P.info? t = some inf) (hz : inf.zero = some zv)
    (hzr : Rp E z zv) (hx : Rp E x xv) (hg : (aassert t z x).gives v) : ∃ y, (Instr.typeAssert xv tx t true).run P w = .ok y w ∧ Rp E v y := by
  have hzero : (zeroValue t).run P w = .ok zv w := by simp [zeroValue, typeInfo, hi, hz]
  have two : ∀ (p : AV) (pv : Value) (b : AV) (bv : Value), Rp E p pv → Rp E b bv → Rp E (.tup (.cons p (.cons b .nil))) (.tuple #[pv, bv]) := fun p pv b bv h1 h2 =>
    rp_tup.2 ⟨[pv, bv], rfl, listC_cons.2 ⟨_, _, rfl, h1, listC_cons.2 ⟨_, _, rfl, h2, listC_nil.2 rfl⟩⟩⟩
  unfold aassert at hg
  split at hg
  · rename_i t' y
    obtain ⟨yv, rfl, hy⟩ := hx
    split at hg
    · rename_i ht
      have : t' = t := by simpa using ht
      subst this
      rw [gives_ok] at hg; subst hg
      refine ⟨.tuple #[yv, .bool true], ?_, two _ _ _ _ hy rfl⟩
      unfold Instr.typeAssert
      simp only [Sem.run_bind, run_underlying hu, Result.andThen_ok]
      cases d <;> first | exact absurd rfl (hd _) | simp
    · rename_i ht
      have : t' ≠ t := by simpa using ht
      rw [gives_ok] at hg; subst hg
      refine ⟨.tuple #[zv, .bool false], ?_, two _ _ _ _ hzr rfl⟩
      unfold Instr.typeAssert
      simp only [Sem.run_bind, run_underlying hu, Result.andThen_ok]
      cases d <;> first | exact absurd rfl (hd _) | simp [this, hzero]
  · rw [gives_ok] at hg; subst hg
    simp only [Rp] at hx
    subst hx
    refine ⟨.tuple #[zv, .bool false], ?_, two _ _ _ _ hzr rfl⟩
    unfold Instr.typeAssert
    simp only [Sem.run_bind, run_underlying hu, Result.andThen_ok]
    cases d <;> first | exact absurd rfl (hd _) | simp [hzero]
  · exact (gives_bad.1 hg).elim

theorem fieldAt_run {t : TypeId} {f : Nat} {fs : Array Field} {fl : Field} {inf : TypeInfo} (hu : P.underlying t = some (.struct fs)) (hf : fs[f]? = some fl) (hi : P.info? fl.type = some inf) (h0 : inf.size ≠ 0) {b o : Nat} :
    (Instr.fieldAt t (.pointer (some ⟨b, o, none⟩)) f).run P w = .ok (.pointer (some ⟨b, o + fl.offset, none⟩)) w := by
  unfold Instr.fieldAt fieldPlace Instr.sureAddr
  simp [Sem.run_bind, run_underlying hu, hf, run_sizeOf hi, h0, addr_add]

theorem field_run {t : TypeId} {f : Nat} {fs : Array Field} {fl : Field} {d : TypeDesc} {inf : TypeInfo} (hu : P.underlying t = some (.struct fs)) (hf : fs[f]? = some fl) (hd : P.underlying fl.type = some d) (hi : P.info? fl.type = some inf)
    {x : AV} {xv : Value} (hx : Rp E x xv) (hg : (if aggD d = true then afield (takeA inf.size) fl.offset x else afield first fl.offset x).gives v) :
    ∃ z, (Instr.field t xv f).run P w = .ok z w ∧ Rp E v z := by
  have hrun : ∀ l : List Value, (Instr.field t (.agg l.toArray) f).run P w = (part fl.type l.toArray fl.offset).run P w := by
    intro l
    unfold Instr.field
    simp [Sem.run_bind, run_underlying hu, hf, asAgg]
  split at hg
  · rename_i had
    unfold afield at hg
    split at hg
    · rename_i c
      obtain ⟨l, rfl, hl⟩ := rp_agg.1 hx
      rw [okO_gives] at hg
      unfold takeA at hg
      split at hg
      · rename_i r hr
        cases hg
        obtain ⟨h1, h2⟩ := listC_take _ _ _ _ (listC_drop fl.offset c l hl) hr
        refine ⟨.agg ((l.drop fl.offset).take inf.size).toArray, ?_, rp_agg.2 ⟨_, rfl, h1⟩⟩
        rw [hrun]
        unfold part
        simp only [Sem.run_bind, run_isAgg hd, had, Result.andThen_ok, if_true, run_sizeOf hi, Sem.run_pure]
        congr 2
        apply Array.ext'
        simp [List.drop_take]
      · cases hg
    · exact (gives_bad.1 hg).elim
  · rename_i had
    have had' : aggD d = false := by simpa using had
    unfold afield at hg
    split at hg
    · rename_i c
      obtain ⟨l, rfl, hl⟩ := rp_agg.1 hx
      rw [okO_gives] at hg
      obtain ⟨y, h1, h2⟩ := listC_nth 0 _ _ _ (listC_drop fl.offset c l hl) hg
      refine ⟨y, ?_, h2⟩
      rw [hrun]
      unfold part
      have : l[fl.offset]? = some y := by simpa using h1
      simp [Sem.run_bind, run_isAgg hd, had', this]
    · exact (gives_bad.1 hg).elim

theorem indexAt_run {t e : TypeId} {inf : TypeInfo} (hu : P.underlying t = some (.slice e)) (hi : P.info? e = some inf) {b o n cap : Nat} {k : IntKind} {j : Int} (h0 : 0 ≤ j) (h1 : j < (n : Int)) :
    (Instr.indexAt t (.slice (some ⟨b, o, none⟩) n cap) (.int k j)).run P w = .ok (.pointer (some ⟨b, o + j.toNat * inf.size, none⟩)) w := by
  unfold Instr.indexAt
  simp [Sem.run_bind, asIntOf, run_underlying hu, h0, h1, run_sizeOf hi, addr_add]

theorem indexAtA_run {t e : TypeId} {inf : TypeInfo} {len : Nat} (hu : P.underlying t = some (.array len e)) (hi : P.info? e = some inf) {b o : Nat} {k : IntKind} {j : Int} (h0 : 0 ≤ j) (h1 : j < (len : Int)) :
    (Instr.indexAt t (.pointer (some ⟨b, o, none⟩)) (.int k j)).run P w = .ok (.pointer (some ⟨b, o + j.toNat * inf.size, none⟩)) w := by
  unfold Instr.indexAt
  simp [Sem.run_bind, asIntOf, run_underlying hu, Instr.sureAddr, h0, h1, run_sizeOf hi, addr_add]
theorem gives_load {q : QR} (h : q.gives v) : ∃ p : Prop, q = .ok v ∧ p ∨ ∃ p : Th Prop, q = .cond p v ∧ p .o := by
  rcases h with h | h
  · exact ⟨True, .inl ⟨h, trivial⟩⟩
  · exact ⟨True, .inr h⟩

theorem chain_evs_nil : chain (evs s []) = .nil := rfl

theorem bytesN_eq {n : Nat} {g : Th Nat → AV} : strOfNums ((List.range n).map fun i => byteAt (g fun _ => i)) = ⟨(bytesN n g).toArray⟩ := by
  simp only [strOfNums, bytesN, List.map_map, Function.comp_def]
theorem bytes_run {src dst e : TypeId} (hs : P.underlying src = some (.slice e)) (he : P.underlying e = some (.int .u8)) (hd : P.underlying dst = some .string) {w : World} {n cap : Nat} {g : Th Nat → AV} (hB : ∀ i, i < n → isB (g fun _ => i)) {a : Option Addr}
    (hc : ∀ i, i < n → ∃ b o, a = some ⟨b, o, none⟩ ∧ ∃ v, w.cell? ⟨b, o + i, none⟩ = some v ∧ Rp E (.int .u8 fun _ => byteAt (g fun _ => i)) v) :
    (convert src dst (.slice a n cap)).run P w = .ok (.string ⟨(bytesN n g).toArray⟩) w := by
  rcases Nat.eq_zero_or_pos n with rfl | hn
  · cases a with
    | none => rw [run_convert_bytes_nil w src e hs he 0 cap dst hd]; rfl
    | some a =>
      rw [run_convert_bytes_string w src dst e _ 0 cap hs he hd, run_bytesToString w a 0 cap [] (by simp [loadCells, loadCellsFrom])]
      rfl
  · obtain ⟨b, o, rfl, _⟩ := hc 0 hn
    rw [run_convert_bytes_arg w src e hs he b o n cap ((List.range n).map fun i => byteAt (g fun _ => i)) (by simp) (fun i hi => ?_) dst hd, bytesN_eq]
    obtain ⟨b', o', he', v, h1, h2⟩ := hc i hi
    cases he'
    rw [h1]
    have h2 : v = .int .u8 (byteAt (g fun _ => i)) := h2
    rw [h2]
    simp [List.getD, hi]
theorem byte_cell {g : AV} (hB : isB g) {v : Value} {r : List Value} (h : ListC E g (v :: r)) : Rp E (.int .u8 fun _ => byteAt g) v := by
  obtain ⟨a, rfl⟩ := hB
  obtain ⟨x, r', he, h1, _⟩ := listC_cons.1 h
  cases he
  exact h1
theorem ab2s_sound {src dst e : TypeId} (hS : SI E s a) (hs : P.underlying src = some (.slice e)) (he : P.underlying e = some (.int .u8)) (hd : P.underlying dst = some .string) {x : AV} {X : Value} (hx : Rp E x X) {v : AV} (hg : (ab2s s x).gives v) :
    ∃ z, (convert src dst X).run P E.w = .ok z E.w ∧ Rp E v z := by
  unfold ab2s at hg
  split at hg
  · rw [gives_ok] at hg
    subst hg
    simp only [Rp] at hx
    rw [hx]
    exact ⟨_, run_convert_bytes_nil E.w src e hs he 0 0 dst hd, rfl⟩
  · rename_i sz n g
    obtain ⟨rfl, hB⟩ := gives_cond.1 hg
    obtain ⟨A, cap, rfl, hc, h3⟩ := hx
    refine ⟨_, bytes_run (E := E) hs he hd hB fun i hi => ?_, rfl⟩
    obtain ⟨⟨_, hlen⟩, b, o, h4, h5⟩ := h3 i hi
    refine ⟨b, o, h4, ?_⟩
    obtain ⟨t, ht⟩ := hB i hi
    have hsz : sz = 1 := by rw [ht] at hlen; exact hlen.symm
    subst hsz
    rw [ht] at h5 ⊢
    simp only [MemC] at h5
    obtain ⟨⟨v, h6, _, h7⟩, _⟩ := h5
    rw [Nat.mul_one] at h6
    exact ⟨v, h6, h7⟩
  · rename_i d
    split at hg
    · rename_i sz n g hb
      obtain ⟨rfl, hB⟩ := gives_cond.1 hg
      obtain ⟨hv, A, N, cap', hf⟩ := hx
      have hblk := hS.blk d
      rw [hb] at hblk
      rcases hblk with ⟨h1, h2⟩ | ⟨cap, cur, e', h1, h2, h3, h4, h5, h6⟩
      · rw [hv, h1]
        refine ⟨_, ?_, rfl⟩
        rw [h2]
        exact run_convert_bytes_nil E.w src e hs he 0 0 dst hd
      · rw [hv, h1]
        refine ⟨_, bytes_run (E := E) hs he hd hB fun i hi => ⟨_, _, rfl, ?_⟩, rfl⟩
        obtain ⟨t, ht⟩ := hB i hi
        have h7 := (h6 i hi).2
        have hl := listC_len' h7
        have hseg := row_elem h5 h3 hi
        have hsz : sz = 1 := by rw [ht] at hl; rw [hseg] at hl; exact hl.symm
        subst hsz
        rw [Nat.mul_one] at h7
        have hlt : i < cur.length := by omega
        rw [List.drop_eq_getElem_cons hlt, List.take_succ_cons] at h7
        refine ⟨cur[i], ?_, byte_cell (hB i hi) h7⟩
        rw [Nat.zero_add, h2.cell, List.getElem?_eq_getElem hlt]
    · exact (gives_bad.1 hg).elim
  · exact (gives_bad.1 hg).elim

theorem qev_sound (hS : SI E s a) {o : Oper} {ro : RO} (hr : rOp P o.op = some ro) (hg : (qev s ro).gives v) : ∃ z, (execOp a.eval o).run P E.w = .ok (.value z) E.w ∧ Rp E v z := by
  unfold rOp at hr
  unfold execOp
  split at hr
  · rename_i x ho
    obtain ⟨y, hy, rfl⟩ := opt_map hr
    simp only [qev, gives_ok] at hg
    subst hg
    simp only [ho]
    exact ⟨_, rfl, opd_sound hS hy⟩
  · rename_i x ho
    obtain ⟨y, hy, rfl⟩ := opt_map hr
    simp only [qev, gives_ok] at hg
    subst hg
    simp only [ho]
    exact ⟨_, rfl, opd_sound hS hy⟩
  · rename_i c x y ho
    split at hr
    · rename_i c' x' y' hc hx hy
      cases hr
      obtain ⟨b, h1, h2⟩ := apick_sound (opd_sound hS hc) (opd_sound hS hx) (opd_sound hS hy) hg
      simp only [ho]
      refine ⟨_, ?_, h2⟩
      simp [h1, asBool]
    · cases hr
  · rename_i op t x y _ ho
    split at hr
    · rename_i x' y' hx hy
      cases hr
      simp only [ho]
      obtain ⟨z, h1, h2⟩ := abin_sound (P := P) (w := E.w) (t := t) (X := x) (Y := y) (opd_sound hS hx) (opd_sound hS hy) hg
      exact ⟨z, value_of h1, h2⟩
    · cases hr
  · rename_i op t x ho
    obtain ⟨y, hy, rfl⟩ := opt_map hr
    simp only [ho]
    obtain ⟨z, h1, h2⟩ := aun_sound (P := P) (w := E.w) (opd_sound hS hy) hg
    exact ⟨z, value_of h1, h2⟩
  · rename_i t x ho
    split at hr
    · rename_i d inf x' hu hi hx
      cases hr
      simp only [ho]
      split at hg
      · rename_i had
        obtain ⟨p, hp⟩ := gives_load hg
        obtain ⟨b, off, h1, l, h2, h3, h4⟩ := aload_sound hS (k := some inf.size) (fun b o c v h hf => loads_take h hf) (opd_sound hS hx) hp
        rw [h1]
        exact ⟨_, value_of (run_loadA hu had hi h2 h3), h4⟩
      · rename_i had
        obtain ⟨p, hp⟩ := gives_load hg
        obtain ⟨b, off, h1, y, h2, h3⟩ := aload_sound hS (k := none) (fun b o c v h hf => loads_first h hf) (opd_sound hS hx) hp
        rw [h1]
        exact ⟨_, value_of (run_load1 hu (by simpa using had) h2), h3⟩
    · cases hr
  · rename_i t x f ho
    split at hr
    · rename_i fs x' hu hx
      split at hr
      · rename_i fl hf
        split at hr
        · rename_i inf hi
          split at hr
          · cases hr
          · rename_i h0
            cases hr
            simp only [ho]
            obtain ⟨b, off, h1, h2⟩ := afld_sound (opd_sound hS hx) hg
            rw [h1]
            exact ⟨_, value_of (fieldAt_run hu hf hi h0), h2⟩
        · cases hr
      · cases hr
    · cases hr
  · rename_i t x f ho
    split at hr
    · rename_i fs x' hu hx
      split at hr
      · rename_i fl hf
        split at hr
        · rename_i d inf hd hi
          cases hr
          simp only [ho]
          obtain ⟨z, h1, h2⟩ := field_run (P := P) (w := E.w) hu hf hd hi (opd_sound hS hx) (v := v) (by revert hg; split <;> exact id)
          exact ⟨z, value_of h1, h2⟩
        · cases hr
      · cases hr
    · cases hr
  · rename_i t x i ho
    split at hr
    · rename_i e x' i' hu hx hi
      split at hr
      · rename_i inf hinf
        cases hr
        simp only [ho]
        obtain ⟨b, off, n, cap, k, j, h1, h2, h3, h4, h5⟩ := aidx_sound hS (opd_sound hS hx) (opd_sound hS hi) hg
        rw [h1, h2]
        exact ⟨_, value_of (indexAt_run hu hinf h3 h4), h5⟩
      · cases hr
    · rename_i len e x' i' hu hx hi
      split at hr
      · rename_i inf hinf
        cases hr
        simp only [ho]
        obtain ⟨b, o', k, j, h1, h2, h3, h4, h5⟩ := aidxA_sound hS (opd_sound hS hx) (opd_sound hS hi) hg
        rw [h1, h2]
        exact ⟨_, value_of (indexAtA_run hu hinf h3 h4), h5⟩
      · cases hr
    · cases hr
  · rename_i t x i ho
    split at hr
    · rename_i x' i' hu hx hi
      cases hr
      simp only [ho]
      have hx' := opd_sound hS hx
      have hi' := opd_sound hS hi
      simp only [qev] at hg
      unfold aidxS at hg
      split at hg
      · rename_i st k j he1 he2
        obtain ⟨rfl, h0, h1⟩ := gives_cond.1 hg
        simp only [zi] at h1
        rw [he1] at hx'
        rw [he2] at hi'
        simp only [Rp] at hx' hi'
        rw [hx', hi']
        refine ⟨_, value_of (z := .int .u8 (((st .o).getD (j .o).toNat 0).toNat : Int)) ?_, rfl⟩
        have hlt : (j .o).toNat < (st .o).length := by omega
        unfold Instr.index
        simp [Sem.run_bind, asIntOf, run_underlying hu, h0, getElem?_mk, List.getElem?_eq_getElem hlt]
      · exact (gives_bad.1 hg).elim
    · cases hr
  · rename_i t x lo hi ho
    split at hr
    · rename_i x' lo' hi' hu hx hl hh
      cases hr
      simp only [ho]
      obtain ⟨z, h1, h2⟩ := asliceS_sound (P := P) (w := E.w) hu (opd_sound hS hx) (evo_sound hS hl) (evo_sound hS hh) hg
      exact ⟨z, value_of h1, h2⟩
    · rename_i e x' lo' hi' hu hx hl hh
      split at hr
      · rename_i inf hinf
        cases hr
        simp only [ho]
        obtain ⟨z, h1, h2⟩ := aslice_sound (P := P) (w := E.w) hS hu hinf (opd_sound hS hx) (evo_sound hS hl) (evo_sound hS hh) hg
        exact ⟨z, value_of h1, h2⟩
      · cases hr
    · cases hr
  · rename_i fn fi ca ho
    split at hr
    · rename_i p q hp hq
      cases hr
      simp only [qev, gives_ok] at hg
      subst hg
      simp only [ho]
      have h1 := opds_sound hS _ _ hp
      have h2 := opds_sound hS _ _ hq
      refine ⟨_, value_of (z := .func fn (fi.map a.eval) (ca.map a.eval)) (by simp [Instr.makeFunc]), ?_⟩
      simp only [Rp]
      refine ⟨fi.toList.map a.eval, ca.toList.map a.eval, ?_, h1, h2⟩
      congr 1 <;> (apply Array.ext'; simp)
    · cases hr
  · rename_i t x ho
    split at hr
    · cases hr
    · rename_i hno d x' hu hx
      cases hr
      simp only [qev, gives_ok] at hg
      subst hg
      simp only [ho]
      refine ⟨_, value_of (z := .iface t (a.eval x)) ?_, _, rfl, opd_sound hS hx⟩
      unfold Instr.makeInterface
      simp only [Sem.run_bind, run_underlying hu, Result.andThen_ok]
      cases d <;> first | rfl | exact (hno _ hu).elim
    · cases hr
  · rename_i x tx t ho
    split at hr
    · cases hr
    · rename_i d inf x' hno hu hi hx
      split at hr
      · rename_i zv hz
        split at hr
        · rename_i z hcz
          cases hr
          simp only [ho]
          obtain ⟨y, h1, h2⟩ := asserts_sound (P := P) (w := E.w) (tx := tx) hu (fun ms h => hno ms h) hi hz (cval_sound hcz).1 (opd_sound hS hx) hg
          exact ⟨y, value_of h1, h2⟩
        · cases hr
      · cases hr
    · cases hr
  · rename_i x i ho
    obtain ⟨y, hy, rfl⟩ := opt_map hr
    simp only [ho]
    have hx := opd_sound hS hy
    simp only [qev] at hg
    unfold aext at hg
    split at hg
    · rename_i c hc
      rw [hc] at hx
      obtain ⟨l, h1, h2⟩ := rp_tup.1 hx
      rw [okO_gives] at hg
      obtain ⟨z, h3, h4⟩ := listC_nth i c l v h2 hg
      refine ⟨z, value_of ?_, h4⟩
      rw [h1]
      simp [Instr.extract, h3]
    · exact (gives_bad.1 hg).elim
  · rename_i src dst x ho
    split at hr
    · rename_i ds k x' hs hu hx
      cases hr
      simp only [ho]
      have hx' := opd_sound hS hx
      simp only [qev] at hg
      unfold aconv at hg
      split at hg
      · rename_i k' n hn
        rw [gives_ok] at hg
        subst hg
        rw [hn] at hx'
        simp only [Rp] at hx'
        rw [hx']
        refine ⟨_, value_of (z := .int k (k.wrap (n .o))) ?_, rfl⟩
        unfold convert
        simp [Sem.run_bind, run_underlying hs, run_underlying hu, Conv.intToInt]
      · exact (gives_bad.1 hg).elim
    · rename_i e x' hs hu hx
      split at hr
      · rename_i he
        cases hr
        simp only [ho]
        obtain ⟨z, h1, h2⟩ := ab2s_sound (P := P) hS hs (isU8_spec he) hu (opd_sound hS hx) hg
        exact ⟨z, value_of h1, h2⟩
      · cases hr
    · cases hr
  · rename_i args ts ho
    split at hr
    · rename_i x t ts' hargs hts
      have hrun : ∀ z, (Builtin.len_ ts o.type #[a.eval x]).run P E.w = .ok z E.w → ((do let d ← resolve a.eval { callee := .builtin .len, args := args, argTypes := ts } o.type; invoke d.target d.args) : Sem Next).run P E.w = .ok (.value z) E.w := by
        intro z hz
        have ha : args = #[x] := by apply Array.ext'; simpa using hargs
        subst ha
        simp only [resolve, Sem.run_bind, Sem.run_pure, Result.andThen_ok, invoke, builtin]
        rw [show (#[x] : Array Operand).map a.eval = #[a.eval x] by simp, hz]
        rfl
      have hts' : ts = (t :: ts').toArray := by apply Array.ext'; simpa using hts
      split at hr
      · rename_i x' hu hx
        cases hr
        simp only [ho]
        have hx' := opd_sound hS hx
        simp only [qev] at hg
        unfold alenS at hg
        split at hg
        · rename_i st he
          rw [gives_ok] at hg; subst hg
          rw [he] at hx'
          simp only [Rp] at hx'
          refine ⟨_, hrun _ ?_, rfl⟩
          rw [hx', hts']
          have hsz : (⟨(st .o).toArray⟩ : ByteArray).size = (st .o).length := by simp [ByteArray.size]
          simp [Builtin.len_, run_underlying hu, goInt, hsz, zi]
        · exact (gives_bad.1 hg).elim
      · rename_i e x' hu hx
        cases hr
        simp only [ho]
        obtain ⟨z, h1, h2⟩ := len_sound (P := P) (w := E.w) hS hu (opd_sound hS hx) hg (ts := ts') (ty := o.type)
        exact ⟨z, hrun _ (by rw [hts']; exact h1), h2⟩
      · cases hr
    · cases hr
  · rename_i args ts ho
    obtain ⟨y, hy, rfl⟩ := opt_map hr
    simp only [ho]
    have hl := opds_sound hS _ _ hy
    simp only [qev] at hg
    split at hg
    · exact (gives_bad.1 hg).elim
    · rename_i x r hxr
      rw [hxr] at hl
      obtain ⟨xv, m, h1, h2, h3⟩ := listC_cons.1 hl
      rw [okO_gives] at hg
      obtain ⟨z, h4, h5⟩ := amms_sound (P := P) (w := E.w) r m x v xv h2 h3 hg
      refine ⟨z, ?_, h5⟩
      simp only [resolve, Sem.run_bind, Sem.run_pure, Result.andThen_ok, invoke, builtin, Builtin.min_]
      rw [show (args.map a.eval).toList = xv :: m from by rw [← h1]; simp]
      simp only [Bool.false_eq_true, if_false] at h4
      simp [h4]
  · rename_i args ts ho
    obtain ⟨y, hy, rfl⟩ := opt_map hr
    simp only [ho]
    have hl := opds_sound hS _ _ hy
    simp only [qev] at hg
    split at hg
    · exact (gives_bad.1 hg).elim
    · rename_i x r hxr
      rw [hxr] at hl
      obtain ⟨xv, m, h1, h2, h3⟩ := listC_cons.1 hl
      rw [okO_gives] at hg
      obtain ⟨z, h4, h5⟩ := amms_sound (P := P) (w := E.w) r m x v xv h2 h3 hg
      refine ⟨z, ?_, h5⟩
      simp only [resolve, Sem.run_bind, Sem.run_pure, Result.andThen_ok, invoke, builtin, Builtin.max_]
      rw [show (args.map a.eval).toList = xv :: m from by rw [← h1]; simp]
      simp only [if_true] at h4
      simp [h4]
  · rename_i x ho
    obtain ⟨y, hy, rfl⟩ := opt_map hr
    simp only [ho]
    have hx' := opd_sound hS hy
    simp only [qev] at hg
    unfold achk at hg
    split at hg
    · rename_i d o he
      rw [gives_ok] at hg; subst hg
      rw [he] at hx'
      exact ⟨_, by rw [show a.eval x = _ from hx']; rfl, rfl⟩
    · rename_i d sz i o he
      rw [gives_ok] at hg; subst hg
      rw [he] at hx'
      exact ⟨_, by rw [show a.eval x = _ from hx']; rfl, rfl⟩
    · rename_i c he
      rw [gives_ok] at hg; subst hg
      rw [he] at hx'
      obtain ⟨b, o, h1, h2⟩ := hx'
      exact ⟨_, by rw [h1]; rfl, b, o, rfl, h2⟩
    · exact (gives_bad.1 hg).elim
  · cases hr

end

end Go.Proofs.YtiaenejafpbfkaaDoor.Sx
