/- What a caller hands in, of any plain type, as the executor tells of it. -/
import Derived.Test.YtiaenejafpbfkaaDoorRow
import Derived.Deep.Slices
namespace Go.Proofs.YtiaenejafpbfkaaDoor
open Go Go.Proofs.YtiaenejafpbfkaaDoor.Sx Go.RowKit
set_option linter.unusedVariables false
set_option linter.unusedSimpArgs false

/-- The cells of a plain type. -/
inductive CS : Type | nil | b (r : CS) | i (k : IntKind) (r : CS) | s (r : CS) | sl (e r : CS)
def CS.len : CS → Nat | .nil => 0 | .b r => r.len + 1 | .i _ r => r.len + 1 | .s r => r.len + 1 | .sl _ r => r.len + 1
/-- A chain of such cells. -/
def Shape : CS → AV → Prop
  | .nil, c => c = .nil
  | .b r, c => ∃ x t, c = .cons (.bool x) t ∧ Shape r t
  | .i k r, c => ∃ n t, c = .cons (.int k n) t ∧ (Lit.int k (n .o)).wf = true ∧ Shape r t
  | .s r, c => ∃ x t, c = .cons (.str x) t ∧ (x .o).length ≤ 140737488355328 ∧ Shape r t
  | .sl e r, c => ∃ n g t, c = .cons (.sl e.len n g) t ∧ n .o ≤ 140737488355328 ∧ (∀ j, j < n .o → Shape e (g fun _ => j)) ∧ Shape r t

theorem shape_ok : ∀ (e : CS) (c : AV), Shape e c → c.okE ∧ c.len = e.len
  | .nil, c, h => by cases h; exact ⟨⟨trivial, rfl⟩, rfl⟩
  | .b r, c, h => by obtain ⟨x, t, rfl, h⟩ := h; obtain ⟨⟨h1, h2⟩, h3⟩ := shape_ok r t h; exact ⟨⟨⟨trivial, h1⟩, h2⟩, by simp [AV.len, CS.len, h3]⟩
  | .i k r, c, h => by obtain ⟨x, t, rfl, _, h⟩ := h; obtain ⟨⟨h1, h2⟩, h3⟩ := shape_ok r t h; exact ⟨⟨⟨trivial, h1⟩, h2⟩, by simp [AV.len, CS.len, h3]⟩
  | .s r, c, h => by obtain ⟨x, t, rfl, _, h⟩ := h; obtain ⟨⟨h1, h2⟩, h3⟩ := shape_ok r t h; exact ⟨⟨⟨trivial, h1⟩, h2⟩, by simp [AV.len, CS.len, h3]⟩
  | .sl e r, c, h => by obtain ⟨n, g, t, rfl, _, _, h⟩ := h; obtain ⟨⟨h1, h2⟩, h3⟩ := shape_ok r t h; exact ⟨⟨⟨trivial, h1⟩, h2⟩, by simp [AV.len, CS.len, h3]⟩

/-! ### types -/
def tcsF (P : Program) (g : TypeId → CS → Option CS) : List Field → Nat → Nat → CS → Option CS
  | [], off, n, r => if off = n then some r else none
  | f :: fs, off, n, r => if f.offset = off then (match tcsF P g fs (off + P.cellsOf f.type) n r with | some q => g f.type q | none => none) else none
def tcs (P : Program) : Nat → TypeId → CS → Option CS
  | 0, _, _ => none
  | d + 1, t, r => match P.underlying t with
    | some .bool => some (.b r)
    | some (.int k) => some (.i k r)
    | some .string => some (.s r)
    | some (.slice e) => match tcs P d e .nil with
      | some c => if P.cellsOf e = c.len ∧ 0 < c.len ∧ 0 < P.bytesOf e then some (.sl c r) else none
      | none => none
    | some (.struct fs) => tcsF P (tcs P d) fs.toList 0 (P.cellsOf t) r
    | _ => none

section
variable {H : Type} {enc : TypeId × Value → H} {P : Program} {w : World}
/-- The caller's memory, shut for good. -/
abbrev envOf (w : World) : Env := ⟨fun _ => 0, fun _ => undef, fun b _ => b < w.heap.size, w⟩
def Small (P : Program) (t : TypeId) (d : DataW H) : Prop := ∀ n ∈ d.weights P t, n ≤ reachBytes

theorem mapM_cons' {α β : Type} (f : α → Option β) (a : α) (l : List α) (r : List β) (h : (a :: l).mapM f = some r) : ∃ x q, f a = some x ∧ l.mapM f = some q ∧ r = x :: q := by
  rw [List.mapM_cons] at h
  cases hx : f a with
  | none => rw [hx] at h; cases h
  | some x =>
    rw [hx] at h
    cases hq : l.mapM f with
    | none => rw [hq] at h; cases h
    | some q => rw [hq] at h; cases h; exact ⟨x, q, rfl, rfl, rfl⟩

/-- What opens a type: any cells that are read as data of it. -/
def Opens (enc : TypeId × Value → H) (P : Program) (w : World) (g : TypeId → CS → Option CS) : Prop :=
  ∀ t r c, g t r = some c → ∀ fuel cs (d : DataW H) ps, DataW.trod enc P w 0 (fun _ => true) true fuel t cs = some (d, ps) → Small P t d → ∀ (rest : AV) (rl : List Value), Shape r rest → ListC (envOf w) rest rl →
    ∃ ch, Shape c ch ∧ ListC (envOf w) ch (cs ++ rl)

theorem open_fields {g : TypeId → CS → Option CS} (hg : Opens enc P w g) {fuel : Nat} {cs : List Value} : ∀ (fs : List Field) (off : Nat) (r c : CS), tcsF P g fs off cs.length r = some c → ∀ xs : List (DataW H × List MemPlace),
    (fs.mapM fun f => DataW.trod enc P w 0 (fun _ => true) true fuel f.type ((cs.drop f.offset).take (P.cellsOf f.type))) = some xs → (∀ n ∈ DataW.weightsEach P (fs.map (·.type)) (xs.map (·.1)), n ≤ reachBytes) →
    ∀ (rest : AV) (rl : List Value), Shape r rest → ListC (envOf w) rest rl → ∃ ch, Shape c ch ∧ ListC (envOf w) ch (cs.drop off ++ rl)
  | [], off, r, c, hc, xs, hx, hw, rest, rl, hs, hl => by
    simp only [tcsF] at hc
    split at hc
    · rename_i he
      cases hc
      exact ⟨rest, hs, by rw [he, List.drop_length]; exact hl⟩
    · cases hc
  | f :: fs, off, r, c, hc, xs, hx, hw, rest, rl, hs, hl => by
    simp only [tcsF] at hc
    split at hc
    · rename_i he
      split at hc
      · rename_i q hq
        obtain ⟨x, xs', h1, h2, rfl⟩ := mapM_cons' _ _ _ _ hx
        simp only [List.map_cons, DataW.weightsEach, List.mem_append] at hw
        obtain ⟨ch, k1, k2⟩ := open_fields hg fs _ r q hq xs' h2 (fun n hn => hw n (.inr hn)) rest rl hs hl
        obtain ⟨d, ps⟩ := x
        obtain ⟨ch', m1, m2⟩ := hg f.type q c hc fuel _ d ps h1 (fun n hn => hw n (.inl hn)) ch _ k1 k2
        refine ⟨ch', m1, ?_⟩
        rw [he, ← List.append_assoc, ← List.drop_drop, List.take_append_drop] at m2
        exact m2
      · cases hc
    · cases hc

theorem weightsAll_mem {e : TypeId} : ∀ {l : List (DataW H)} {d : DataW H}, d ∈ l → ∀ n ∈ d.weights P e, n ∈ DataW.weightsAll P e l
  | x :: l, d, h, n, hn => by
    simp only [DataW.weightsAll, List.mem_append]
    rcases List.mem_cons.1 h with rfl | h
    · exact .inl hn
    · exact .inr (weightsAll_mem h n hn)

theorem opens (enc : TypeId × Value → H) (P : Program) (w : World) : ∀ n, Opens enc P w (tcs P n)
  | 0 => fun t r c h => by cases h
  | n + 1 => fun t r c h fuel cs d ps ht hsm rest rl hs hl => by
    have ih := opens enc P w n
    cases fuel with
    | zero => simp [DataW.trod] at ht
    | succ fuel =>
    simp only [tcs] at h
    split at h
    · rename_i hu
      cases h
      simp only [DataW.trod, hu] at ht
      split at ht <;> simp_all
      rename_i b
      exact ⟨.cons (.bool fun _ => b) rest, ⟨_, _, rfl, hs⟩, listC_cons.2 ⟨_, _, rfl, rfl, hl⟩⟩
    · rename_i k hu
      cases h
      simp only [DataW.trod, hu] at ht
      split at ht <;> simp_all
      rename_i k' m he
      obtain ⟨⟨_, hwf⟩, _⟩ := ht
      subst he
      exact ⟨.cons (.int _ fun _ => m) rest, ⟨_, _, rfl, hwf, hs⟩, listC_cons.2 ⟨_, _, rfl, rfl, hl⟩⟩
    · rename_i hu
      cases h
      simp only [DataW.trod, hu] at ht
      split at ht <;> simp_all
      rename_i s
      have hle : s.size ≤ reachBytes := by
        have := hsm s.size
        obtain ⟨_, hd, _⟩ := ht
        subst hd
        simpa [DataW.weights] using this
      refine ⟨.cons (.str fun _ => s.data.toList) rest, ⟨_, _, rfl, ?_, hs⟩, listC_cons.2 ⟨_, _, rfl, show Value.string s = .string ⟨s.data.toList.toArray⟩ from by rw [Array.toArray_toList], hl⟩⟩
      have : s.data.toList.length = s.size := Array.length_toList
      rw [this]
      unfold reachBytes at hle
      omega
    · rename_i e hu
      split at h
      · rename_i ce he
        split at h
        · rename_i hcond
          cases h
          obtain ⟨hce, hpos, hby⟩ := hcond
          rcases Deep.open_slice hu ht with ⟨rfl, hx⟩ | ⟨a, len, cap, m, n', D, Pl, rfl, _, hlc, hcm, hm, hx, hel⟩
          · exact ⟨.cons (.sl ce.len (fun _ => 0) fun _ => .nil) rest, ⟨_, _, _, rfl, Nat.zero_le _, fun j hj => absurd hj (Nat.not_lt_zero _), hs⟩, listC_cons.2 ⟨_, _, rfl, ⟨none, 0, rfl, Nat.le_refl _, fun j hj => absurd hj (Nat.not_lt_zero _)⟩, hl⟩⟩
          · simp only [if_true] at hm
            subst hm
            simp only [Prod.mk.injEq] at hx
            obtain ⟨rfl, rfl⟩ := hx
            have hw1 : ∀ q ∈ ((List.range len).map D ++ (List.range (m - len)).map fun j => D (len + j)), Small P e q := by
              intro q hq k hk
              refine hsm k ?_
              simp only [DataW.weights, hu, List.mem_cons, List.mem_append]
              rcases List.mem_append.1 hq with hq | hq
              · exact .inr (.inl (weightsAll_mem hq k hk))
              · exact .inr (.inr (weightsAll_mem hq k hk))
            have hlen : len ≤ 140737488355328 := by
              have := hsm ((len + (m - len)) * P.bytesOf e) (by simp [DataW.weights, hu])
              have h2 : len ≤ (len + (m - len)) * P.bytesOf e := Nat.le_trans (by omega) (Nat.le_mul_of_pos_right _ hby)
              unfold reachBytes at this
              omega
            have one : ∀ j, j < len → ∃ ch, Shape ce ch ∧ ∃ cs', w.cells? 0 (a.add (j * P.cellsOf e)) (P.cellsOf e) = some cs' ∧ ListC (envOf w) ch cs' := by
              intro j hj
              obtain ⟨cs', h1, h2⟩ := hel j (by omega)
              obtain ⟨ch, k1, k2⟩ := ih e .nil ce he n' cs' _ _ h2 (hw1 _ (List.mem_append_left _ (List.mem_map.2 ⟨j, by simpa using hj, rfl⟩))) .nil [] rfl (listC_nil.2 rfl)
              exact ⟨ch, k1, cs', h1, by simpa using k2⟩
            refine ⟨.cons (.sl ce.len (fun _ => len) fun j => if hj : j .o < len then (one (j .o) hj).choose else .nil) rest, ⟨_, _, _, rfl, hlen, fun j hj => ?_, hs⟩, listC_cons.2 ⟨_, _, rfl, ⟨some a, m, rfl, hlc, fun j hj => ?_⟩, hl⟩⟩
            · have hj : j < len := hj
              simp only [hj, dif_pos]
              exact (one j hj).choose_spec.1
            · have hj : j < len := hj
              simp only [hj, dif_pos]
              obtain ⟨k1, cs', h1, k2⟩ := (one j hj).choose_spec
              refine ⟨shape_ok _ _ k1, ?_⟩
              obtain ⟨_, hcl, hcc⟩ := World.cells?_some h1
              obtain ⟨b, o, sp⟩ := a
              have hsp : sp = none := by
                cases sp with
                | none => rfl
                | some q =>
                  exfalso
                  obtain ⟨cs0, e0, _⟩ := hel 0 (by omega)
                  obtain ⟨_, hl0, hc0⟩ := World.cells?_some e0
                  have hc0 := hc0 0 (by omega)
                  rw [List.getElem?_eq_getElem (show 0 < cs0.length by omega)] at hc0
                  have ha : ∀ x : Addr, x.add 0 = x := fun x => by unfold Addr.add; rw [if_pos rfl]
                  rw [Nat.zero_mul, ha, ha] at hc0
                  unfold World.cell? at hc0
                  split at hc0
                  · simp at hc0
                  · cases hc0
              subst hsp
              have hadd : ∀ o i, (⟨b, o, none⟩ : Addr).add i = ⟨b, o + i, none⟩ := fun o i => by unfold Addr.add; split <;> simp_all
              refine ⟨b, o, rfl, memC_of_list' _ cs' b (o + j * ce.len) k2 fun i v hv => ?_⟩
              have hi : i < cs'.length := by
                rcases Nat.lt_or_ge i cs'.length with h | h
                · exact h
                · rw [List.getElem?_eq_none h] at hv; cases hv
              have := hcc i (by omega)
              simp only [hadd] at this
              rw [hv, hce] at this
              refine ⟨this, ?_⟩
              show b < w.heap.size
              unfold World.cell? at this
              split at this
              · rename_i hh; exact (Array.getElem?_eq_some_iff.1 hh).1
              · cases this
        · cases h
      · cases h
    · rename_i fs hu
      simp only [DataW.trod, hu] at ht
      split at ht
      · rename_i hcl
        cases hm : (fs.toList.mapM fun f => DataW.trod enc P w 0 (fun _ => true) true fuel f.type ((cs.drop f.offset).take (P.cellsOf f.type))) with
        | none => rw [hm] at ht; cases ht
        | some xs =>
          rw [hm] at ht
          cases ht
          rw [← hcl] at h
          have := open_fields ih fs.toList 0 r c h xs hm (fun n hn => hsm n (by simp only [DataW.weights, hu]; exact hn)) rest rl hs hl
          simpa using this
      · cases ht
    · cases h

/-- An argument of a plain type, opened. -/
theorem open_plain {n : Nat} {t : TypeId} {c : CS} (hc : tcs P n t .nil = some c) {v : Value} {d : DataW H} {ps : List MemPlace} (h : DataW.Trod enc P w 0 (fun _ => true) true t v d ps) (hs : Small P t d) :
    ∃ ch, Shape c ch ∧ ListC (envOf w) ch v.cells.toList := by
  obtain ⟨fuel, h⟩ := h
  obtain ⟨ch, h1, h2⟩ := opens enc P w n t .nil c hc fuel _ d ps h hs .nil [] rfl (listC_nil.2 rfl)
  exact ⟨ch, h1, by simpa using h2⟩
end

/-! ### rows of like elements -/
theorem shape_list {α : Type} {e : CS} {ch : Th α → AV} {z : α} {In : α → Prop} (hone : ∀ c, Shape e c → ∃ a : α, In a ∧ SameC c (ch fun _ => a)) {n : Th Nat} {g : Th Nat → AV} (h : ∀ j, j < n .o → Shape e (g fun _ => j)) :
    ∃ l : List α, l.length = n .o ∧ (∀ a ∈ l, In a) ∧ ∀ j, j < n .o → SameC (g fun _ => j) (ch fun _ => l.getD j z) := by
  have key : ∀ m, m ≤ n .o → ∃ l : List α, l.length = m ∧ (∀ a ∈ l, In a) ∧ ∀ j, j < m → SameC (g fun _ => j) (ch fun _ => l.getD j z) := by
    intro m
    induction m with
    | zero => intro _; exact ⟨[], rfl, by simp, fun j hj => absurd hj (Nat.not_lt_zero _)⟩
    | succ m ih =>
      intro hm
      obtain ⟨l, h1, h2, h3⟩ := ih (by omega)
      obtain ⟨a, ha, hs⟩ := hone _ (h m (by omega))
      refine ⟨l ++ [a], by simp [h1], fun x hx => ?_, fun j hj => ?_⟩
      · rcases List.mem_append.1 hx with hx | hx
        · exact h2 x hx
        · rw [List.mem_singleton.1 hx]; exact ha
      · by_cases hjm : j < m
        · have := h3 j hjm
          simp only [List.getD_eq_getElem?_getD, List.getElem?_append_left (show j < l.length by omega)] at this ⊢
          exact this
        · obtain rfl : j = m := by omega
          simp only [List.getD_eq_getElem?_getD, List.getElem?_append_right (show l.length ≤ j by omega), h1, Nat.sub_self]
          exact hs
  exact key _ (Nat.le_refl _)
theorem Same.slC {sz : Nat} {n n' : Th Nat} {g g' : Th Nat → AV} (h : n .o = n' .o) (hg : ∀ i, i < n .o → SameC (g fun _ => i) (g' fun _ => i)) (hok : ∀ i, i < n .o → (g' fun _ => i).okE ∧ (g' fun _ => i).len = sz) (hm : ∀ i, i < n .o → ∀ E b o, MemC E (g fun _ => i) b o → MemC E (g' fun _ => i) b o) : Same (.sl sz n g) (.sl sz n' g') :=
  ⟨fun E v hv => by
    obtain ⟨a, cap, h1, h2, h3⟩ := hv
    refine ⟨a, cap, by rw [h1, h], by rw [← h]; exact h2, fun i hi => ?_⟩
    rw [← h] at hi
    obtain ⟨_, b, o, h4, h5⟩ := h3 i hi
    exact ⟨hok i hi, b, o, h4, hm i hi E b _ h5⟩, fun z hz => hz.elim⟩

/-- Rows of numbers. -/
theorem arg_nums {k : IntKind} {c : AV} (h : Shape (.sl (.i k .nil) .nil) c) : ∃ l : List Int, ((∀ n ∈ l, (Lit.int k n).wf = true) ∧ l.length ≤ 140737488355328) ∧ SameC c (.cons (nums k fun _ => l) .nil) := by
  obtain ⟨n, g, t, rfl, hn, hg, ht⟩ := h
  cases ht
  have one : ∀ m, m ≤ n .o → ∃ l : List Int, l.length = m ∧ (∀ x ∈ l, (Lit.int k x).wf = true) ∧ ∀ j, j < m → ∃ x : Th Int, (g fun _ => j) = .cons (.int k x) .nil ∧ x .o = l.getD j 0 := by
    intro m
    induction m with
    | zero => intro _; exact ⟨[], rfl, by simp, fun j hj => absurd hj (Nat.not_lt_zero _)⟩
    | succ m ih =>
      intro hm
      obtain ⟨l, h1, h2, h3⟩ := ih (by omega)
      obtain ⟨x, t, hx, hw, ht⟩ := hg m (by omega)
      cases ht
      refine ⟨l ++ [x .o], by simp [h1], fun y hy => ?_, fun j hj => ?_⟩
      · rcases List.mem_append.1 hy with hy | hy
        · exact h2 y hy
        · rw [List.mem_singleton.1 hy]; exact hw
      · by_cases hjm : j < m
        · obtain ⟨y, h4, h5⟩ := h3 j hjm
          refine ⟨y, h4, ?_⟩
          simp only [List.getD_eq_getElem?_getD, List.getElem?_append_left (show j < l.length by omega)] at h5 ⊢
          exact h5
        · obtain rfl : j = m := by omega
          refine ⟨x, hx, ?_⟩
          simp [List.getD_eq_getElem?_getD, List.getElem?_append_right (show l.length ≤ j by omega), h1]
  obtain ⟨l, h1, h2, h3⟩ := one _ (Nat.le_refl _)
  refine ⟨l, ⟨h2, by omega⟩, .cons (.sl h1.symm fun j hj => ?_) .nil⟩
  obtain ⟨x, h4, h5⟩ := h3 j hj
  rw [h4]
  show AV.cons (.int k x) .nil = .cons (.int k fun _ => l.getD j 0) .nil
  congr 2
  funext u
  cases u
  exact h5
theorem arg_one {E : Env} {x : AV} {v : Value} (h : ListC E (.cons x .nil) [v]) : Rp E x v := by
  obtain ⟨y, r, he, h1, _⟩ := listC_cons.1 h
  cases he
  exact h1
theorem small_of {H : Type} {P : Program} {ts : List TypeId} {ds : List (DataW H)} (h : (DataW.weightsEach P ts ds).all (· ≤ reachBytes) = true) {j : Nat} {t : TypeId} {d : DataW H} (ht : ts[j]? = some t) (hd : ds[j]? = some d) : Small P t d :=
  fun n hn => by simpa using List.all_eq_true.1 h n (DataW.weights_mem_each ht hd n hn)

end Go.Proofs.YtiaenejafpbfkaaDoor
