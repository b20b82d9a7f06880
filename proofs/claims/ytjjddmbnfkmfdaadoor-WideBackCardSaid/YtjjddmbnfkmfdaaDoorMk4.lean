/- Texts laid together: Dat, Row, Opn, Jn, Rc, Strs, Any, Split, Wid, Byt, Nam, Safe, Wd1, Bit, Bld, Bldx, Chos, Wd2, JoinC, Wd3, Wd4, Wd5, Wd6, Arg, Wd7, RcQ, Wd8, Wd9, WdB. -/
import Derived.ChangeSlices
import Derived.SizedLaws
import Derived.Deep.Slices
import Derived.Shelf.Strings.Builder1
import Derived.Shelf.Strings.Builder2
import Derived.Shelf.Strings.OnBuilder
import Derived.Shelf.Small.Utf8
import Derived.Shelf.Small.Strs
import Derived.Shelf.Strings.BuilderF
import Derived.Shelf.Strings.BuilderK
import Derived.Shelf.Strings.Search1
import Derived.Shelf.Strings.Runes
import Derived.Shelf.Strings.IndexAny
import Derived.Shelf.Strings.AsciiSet
import Derived.Shelf.Strings.IndexAnyAll
import Derived.Shelf.Unicode.DecodeSlow
import Derived.Test.YtjjddmbnfkmfdaaDoorProg
import Derived.KernelRfl
import Derived.WalkKit
import Derived.WalkLawsBesides
import Derived.Lib.Strings
import Derived.Lib.Slices
import Derived.Lib.Walk
import Derived.Lib.Bytealg
import Derived.Scope
import Derived.Lib.OthersKept
import Derived.Laws.RangeAny
import Derived.Lib.Join
import Derived.Shelf.LaysM
import Derived.Lib.AppendStr
import Derived.Laws.IdiomCopy
import Derived.Laws.Externs
import Derived.Lib.ConvBytes
import Derived.Laws.IdiomStrings
import Derived.Deep.RegionWith
import Derived.WideShapes
import Derived.Test.YtjjddmbnfkmfdaaDoorMk3
/- The program's data, as the executor tells of it. -/
namespace Go.Proofs.YtjjddmbnfkmfdaaDoor
open Go Go.Proofs.YtjjddmbnfkmfdaaDoor.Sx
/-- Short enough for a count that is a number of 64 bits. -/
def short {α : Type} (l : List α) : Prop := l.length ≤ 140737488355328
def ixP {α : Type} (p : α → Bool) : List α → Int
  | [] => -1
  | y :: r => if p y = true then 0 else if ixP p r < 0 then -1 else ixP p r + 1
theorem ixP_at {α : Type} (p : α → Bool) (z : α) : ∀ (l : List α) (k : Nat), k < l.length → (∀ j, j < k → p (l.getD j z) = false) → p (l.getD k z) = true → ixP p l = zi k
  | [], k, hk, _, _ => by simp at hk
  | y :: r, 0, _, _, h => by simp at h; simp [ixP, h, zi]
  | y :: r, k + 1, hk, hj, h => by
    have h0 := hj 0 (by omega)
    have := ixP_at p z r k (by simpa using hk) (fun j hj' => by simpa using hj (j + 1) (by omega)) (by simpa using h)
    simp at h0
    simp only [ixP, h0, this, Bool.false_eq_true, if_false]
    unfold zi
    rw [if_neg (by omega)]
    omega
theorem ixP_no {α : Type} (p : α → Bool) (z : α) : ∀ (l : List α), (∀ j, j < l.length → p (l.getD j z) = false) → ixP p l = -1
  | [], _ => rfl
  | y :: r, h => by
    have h0 := h 0 (by simp)
    have := ixP_no p z r fun j hj => by simpa using h (j + 1) (by simpa using hj)
    simp at h0
    simp [ixP, h0, this]
end Go.Proofs.YtjjddmbnfkmfdaaDoor
/- From a law's contract to what its row asks: it answers true, and nothing that was there has turned. -/
namespace Go.Proofs.YtjjddmbnfkmfdaaDoor
open Go Go.Proofs.YtjjddmbnfkmfdaaDoor.Sx Go.RowKit
/-- What a law is to come to. -/
def Yes (r : ARes) (_ : BL) : Prop := ∃ b : Th Bool, r = .ret (.bool b) ∧ b .o = true
theorem law_of {P : Th Program} {f : Nat} {asL0 : List AV} {w : World} {vs : List Value} (I : Nat → Nat → Prop) (hI : ∀ b o, I b o → b < w.heap.size) (hv : ListC ⟨fun _ => 0, fun _ => undef, I, w⟩ (chain asL0) vs) (hs : (chain asL0).still)
    (h : CallAt P f asL0 9999 .nil Yes) : Calls (P .o) f vs.toArray w fun e w' => e = .returned (.bool true) ∧ Below w.heap.size w w' := by
  have hdead : ∀ x, ¬ BL.nil.liveAt x := fun x hx => by simp [BL.liveAt, BL.get, Blk.live] at hx
  refine (h.run ⟨fun _ => 0, fun _ => undef, I, w⟩ vs ⟨fun d => trivial, fun d d' hd => (hdead d (solid_live hd)).elim, fun d hd => (hdead d (solid_live hd)).elim, hI, fun d x hx => hx.elim⟩ hv (fun x hx => ((AV.still_locs _).1 hs x hx).elim) (hdead _)).mono ?_
  rintro e w' ⟨E', r, B', rfl, ⟨b, rfl, hb⟩, hend, hinv, hpost, hl⟩
  cases e with
  | returned x =>
    have hx : x = .bool (b .o) := hend
    rw [hx, hb]
    exact ⟨rfl, hpost.os, hpost.tape, hpost.output, hpost.size, fun k hk => hpost.old k hk fun x hx => (hdead x (solid_live hx)).elim⟩
  | _ => exact hend.elim
/-- Numbers of any kind in a row. -/
def nums (k : IntKind) (l : Th (List Int)) : AV := .sl 1 (fun _ => (l .o).length) fun i => .cons (.int k fun _ => (l .o).getD (i .o) 0) .nil
theorem wf_u8 {n : Int} (h : (Lit.int .u8 n).wf = true) : 0 ≤ n ∧ n < 256 := by
  have : IntKind.u8.min ≤ n ∧ n ≤ IntKind.u8.max := by simpa [Lit.wf] using h
  have h1 : IntKind.u8.min = 0 := by decide
  have h2 : IntKind.u8.max = 255 := by decide
  omega
theorem wf_u16 {n : Int} (h : (Lit.int .u16 n).wf = true) : 0 ≤ n ∧ n < 65536 := by
  have : IntKind.u16.min ≤ n ∧ n ≤ IntKind.u16.max := by simpa [Lit.wf] using h
  have h1 : IntKind.u16.min = 0 := by decide
  have h2 : IntKind.u16.max = 65535 := by decide
  omega
end Go.Proofs.YtjjddmbnfkmfdaaDoor
/- What a caller hands in, of any plain type, as the executor tells of it. -/
namespace Go.Proofs.YtjjddmbnfkmfdaaDoor
open Go Go.Proofs.YtjjddmbnfkmfdaaDoor.Sx Go.RowKit
set_option linter.unusedVariables false
set_option linter.unusedSimpArgs false
/-- The cells of a plain type. -/
inductive CS : Type | nil | b (r : CS) | i (k : IntKind) (r : CS) | s (r : CS) | sl (e r : CS)
def CS.len : CS → Nat | .nil => 0 | .b r => r.len + 1 | .i _ r => r.len + 1 | .s r => r.len + 1 | .sl _ r => r.len + 1
/-- A chain of such cells. -/
def Shape : CS → AV → Prop
  | .nil, c => c = .nil
  | .b r, c => ∃ x t, c = .cons (.bool x) t ∧ Shape r t
  | .i k r, c => ∃ n t, c = .cons (.int k n) t ∧ (Lit.int k (n .o)).wf = true ∧ Shape r t
  | .s r, c => ∃ x t, c = .cons (.str x) t ∧ (x .o).length ≤ 140737488355328 ∧ Shape r t
  | .sl e r, c => ∃ n g t, c = .cons (.sl e.len n g) t ∧ n .o ≤ 140737488351232 ∧ (∀ j, j < n .o → Shape e (g fun _ => j)) ∧ Shape r t
theorem shape_ok : ∀ (e : CS) (c : AV), Shape e c → c.okE ∧ c.len = e.len
  | .nil, c, h => by cases h; exact ⟨⟨trivial, rfl⟩, rfl⟩
  | .b r, c, h => by obtain ⟨x, t, rfl, h⟩ := h; obtain ⟨⟨h1, h2⟩, h3⟩ := shape_ok r t h; exact ⟨⟨⟨trivial, h1⟩, h2⟩, by simp [AV.len, CS.len, h3]⟩
  | .i k r, c, h => by obtain ⟨x, t, rfl, _, h⟩ := h; obtain ⟨⟨h1, h2⟩, h3⟩ := shape_ok r t h; exact ⟨⟨⟨trivial, h1⟩, h2⟩, by simp [AV.len, CS.len, h3]⟩
  | .s r, c, h => by obtain ⟨x, t, rfl, _, h⟩ := h; obtain ⟨⟨h1, h2⟩, h3⟩ := shape_ok r t h; exact ⟨⟨⟨trivial, h1⟩, h2⟩, by simp [AV.len, CS.len, h3]⟩
  | .sl e r, c, h => by obtain ⟨n, g, t, rfl, _, _, h⟩ := h; obtain ⟨⟨h1, h2⟩, h3⟩ := shape_ok r t h; exact ⟨⟨⟨trivial, h1⟩, h2⟩, by simp [AV.len, CS.len, h3]⟩
def tcsF (P : Program) (g : TypeId → CS → Option CS) : List Field → Nat → Nat → CS → Option CS
  | [], off, n, r => if off = n then some r else none
  | f :: fs, off, n, r => if f.offset = off then (match tcsF P g fs (off + P.cellsOf f.type) n r with | some q => g f.type q | none => none) else none
def tcs (P : Program) : Nat → TypeId → CS → Option CS
  | 0, _, _ => none
  | d + 1, t, r => match P.underlying t with
    | some .bool => some (.b r)
    | some (.int k) => some (.i k r)
    | some .string => some (.s r)
    | some (.slice e) => match tcs P d e .nil with
      | some c => if P.cellsOf e = c.len ∧ 0 < c.len ∧ 0 < P.bytesOf e then some (.sl c r) else none
      | none => none
    | some (.struct fs) => tcsF P (tcs P d) fs.toList 0 (P.cellsOf t) r
    | _ => none
section
variable {H : Type} {enc : TypeId × Value → H} {P : Program} {w : World}
/-- The caller's memory, shut for good. -/
abbrev envOf (w : World) : Env := ⟨fun _ => 0, fun _ => undef, fun b _ => b < w.heap.size, w⟩
def Small (P : Program) (t : TypeId) (d : DataW H) : Prop := ∀ n ∈ d.weights P t, n ≤ reachBytes
theorem mapM_cons' {α β : Type} (f : α → Option β) (a : α) (l : List α) (r : List β) (h : (a :: l).mapM f = some r) : ∃ x q, f a = some x ∧ l.mapM f = some q ∧ r = x :: q := by
  rw [List.mapM_cons] at h
  cases hx : f a with
  | none => rw [hx] at h; cases h
  | some x =>
    rw [hx] at h
    cases hq : l.mapM f with
    | none => rw [hq] at h; cases h
    | some q => rw [hq] at h; cases h; exact ⟨x, q, rfl, rfl, rfl⟩
/-- What opens a type: any cells that are read as data of it. -/
def Opens (enc : TypeId × Value → H) (P : Program) (w : World) (g : TypeId → CS → Option CS) : Prop :=
  ∀ t r c, g t r = some c → ∀ fuel cs (d : DataW H) ps, DataW.trod enc P w 0 (fun _ => true) true fuel t cs = some (d, ps) → Small P t d → ∀ (rest : AV) (rl : List Value), Shape r rest → ListC (envOf w) rest rl →
    ∃ ch, Shape c ch ∧ ListC (envOf w) ch (cs ++ rl)
theorem open_fields {g : TypeId → CS → Option CS} (hg : Opens enc P w g) {fuel : Nat} {cs : List Value} : ∀ (fs : List Field) (off : Nat) (r c : CS), tcsF P g fs off cs.length r = some c → ∀ xs : List (DataW H × List MemPlace),
    (fs.mapM fun f => DataW.trod enc P w 0 (fun _ => true) true fuel f.type ((cs.drop f.offset).take (P.cellsOf f.type))) = some xs → (∀ n ∈ DataW.weightsEach P (fs.map (·.type)) (xs.map (·.1)), n ≤ reachBytes) →
    ∀ (rest : AV) (rl : List Value), Shape r rest → ListC (envOf w) rest rl → ∃ ch, Shape c ch ∧ ListC (envOf w) ch (cs.drop off ++ rl)
  | [], off, r, c, hc, xs, hx, hw, rest, rl, hs, hl => by
    simp only [tcsF] at hc
    split at hc
    · rename_i he
      cases hc
      exact ⟨rest, hs, by rw [he, List.drop_length]; exact hl⟩
    · cases hc
  | f :: fs, off, r, c, hc, xs, hx, hw, rest, rl, hs, hl => by
    simp only [tcsF] at hc
    split at hc
    · rename_i he
      split at hc
      · rename_i q hq
        obtain ⟨x, xs', h1, h2, rfl⟩ := mapM_cons' _ _ _ _ hx
        simp only [List.map_cons, DataW.weightsEach, List.mem_append] at hw
        obtain ⟨ch, k1, k2⟩ := open_fields hg fs _ r q hq xs' h2 (fun n hn => hw n (.inr hn)) rest rl hs hl
        obtain ⟨d, ps⟩ := x
        obtain ⟨ch', m1, m2⟩ := hg f.type q c hc fuel _ d ps h1 (fun n hn => hw n (.inl hn)) ch _ k1 k2
        refine ⟨ch', m1, ?_⟩
        rw [he, ← List.append_assoc, ← List.drop_drop, List.take_append_drop] at m2
        exact m2
      · cases hc
    · cases hc
theorem weightsAll_mem {e : TypeId} : ∀ {l : List (DataW H)} {d : DataW H}, d ∈ l → ∀ n ∈ d.weights P e, n ∈ DataW.weightsAll P e l
  | x :: l, d, h, n, hn => by
    simp only [DataW.weightsAll, List.mem_append]
    rcases List.mem_cons.1 h with rfl | h
    · exact .inl hn
    · exact .inr (weightsAll_mem h n hn)
theorem opens (enc : TypeId × Value → H) (P : Program) (w : World) : ∀ n, Opens enc P w (tcs P n)
  | 0 => fun t r c h => by cases h
  | n + 1 => fun t r c h fuel cs d ps ht hsm rest rl hs hl => by
    have ih := opens enc P w n
    cases fuel with
    | zero => simp [DataW.trod] at ht
    | succ fuel =>
    simp only [tcs] at h
    split at h
    · rename_i hu
      cases h
      simp only [DataW.trod, hu] at ht
      split at ht <;> simp_all
      rename_i b
      exact ⟨.cons (.bool fun _ => b) rest, ⟨_, _, rfl, hs⟩, listC_cons.2 ⟨_, _, rfl, rfl, hl⟩⟩
    · rename_i k hu
      cases h
      simp only [DataW.trod, hu] at ht
      split at ht <;> simp_all
      rename_i k' m he
      obtain ⟨⟨_, hwf⟩, _⟩ := ht
      subst he
      exact ⟨.cons (.int _ fun _ => m) rest, ⟨_, _, rfl, hwf, hs⟩, listC_cons.2 ⟨_, _, rfl, rfl, hl⟩⟩
    · rename_i hu
      cases h
      simp only [DataW.trod, hu] at ht
      split at ht <;> simp_all
      rename_i s
      have hle : s.size ≤ reachBytes := by
        have := hsm s.size
        obtain ⟨_, hd, _⟩ := ht
        subst hd
        simpa [DataW.weights] using this
      refine ⟨.cons (.str fun _ => s.data.toList) rest, ⟨_, _, rfl, ?_, hs⟩, listC_cons.2 ⟨_, _, rfl, show Value.string s = .string ⟨s.data.toList.toArray⟩ from by rw [Array.toArray_toList], hl⟩⟩
      have : s.data.toList.length = s.size := Array.length_toList
      rw [this]
      unfold reachBytes at hle
      omega
    · rename_i e hu
      split at h
      · rename_i ce he
        split at h
        · rename_i hcond
          cases h
          obtain ⟨hce, hpos, hby⟩ := hcond
          rcases Deep.open_slice hu ht with ⟨rfl, hx⟩ | ⟨a, len, cap, m, n', D, Pl, rfl, _, hlc, hcm, hm, hx, hel⟩
          · exact ⟨.cons (.sl ce.len (fun _ => 0) fun _ => .nil) rest, ⟨_, _, _, rfl, Nat.zero_le _, fun j hj => absurd hj (Nat.not_lt_zero _), hs⟩, listC_cons.2 ⟨_, _, rfl, ⟨none, 0, rfl, Nat.le_refl _, fun j hj => absurd hj (Nat.not_lt_zero _)⟩, hl⟩⟩
          · simp only [if_true] at hm
            subst hm
            simp only [Prod.mk.injEq] at hx
            obtain ⟨rfl, rfl⟩ := hx
            have hw1 : ∀ q ∈ ((List.range len).map D ++ (List.range (m - len)).map fun j => D (len + j)), Small P e q := by
              intro q hq k hk
              refine hsm k ?_
              simp only [DataW.weights, hu, List.mem_cons, List.mem_append]
              rcases List.mem_append.1 hq with hq | hq
              · exact .inr (.inl (weightsAll_mem hq k hk))
              · exact .inr (.inr (weightsAll_mem hq k hk))
            have hlen : len ≤ 140737488351232 := by
              have := hsm ((len + (m - len)) * P.bytesOf e) (by simp [DataW.weights, hu])
              have h2 : len ≤ (len + (m - len)) * P.bytesOf e := Nat.le_trans (by omega) (Nat.le_mul_of_pos_right _ hby)
              unfold reachBytes at this
              omega
            have one : ∀ j, j < len → ∃ ch, Shape ce ch ∧ ∃ cs', w.cells? 0 (a.add (j * P.cellsOf e)) (P.cellsOf e) = some cs' ∧ ListC (envOf w) ch cs' := by
              intro j hj
              obtain ⟨cs', h1, h2⟩ := hel j (by omega)
              obtain ⟨ch, k1, k2⟩ := ih e .nil ce he n' cs' _ _ h2 (hw1 _ (List.mem_append_left _ (List.mem_map.2 ⟨j, by simpa using hj, rfl⟩))) .nil [] rfl (listC_nil.2 rfl)
              exact ⟨ch, k1, cs', h1, by simpa using k2⟩
            refine ⟨.cons (.sl ce.len (fun _ => len) fun j => if hj : j .o < len then (one (j .o) hj).choose else .nil) rest, ⟨_, _, _, rfl, hlen, fun j hj => ?_, hs⟩, listC_cons.2 ⟨_, _, rfl, ⟨some a, m, rfl, hlc, fun j hj => ?_⟩, hl⟩⟩
            · have hj : j < len := hj
              simp only [hj, dif_pos]
              exact (one j hj).choose_spec.1
            · have hj : j < len := hj
              simp only [hj, dif_pos]
              obtain ⟨k1, cs', h1, k2⟩ := (one j hj).choose_spec
              refine ⟨shape_ok _ _ k1, ?_⟩
              obtain ⟨_, hcl, hcc⟩ := World.cells?_some h1
              obtain ⟨b, o, sp⟩ := a
              have hsp : sp = none := by
                cases sp with
                | none => rfl
                | some q =>
                  exfalso
                  obtain ⟨cs0, e0, _⟩ := hel 0 (by omega)
                  obtain ⟨_, hl0, hc0⟩ := World.cells?_some e0
                  have hc0 := hc0 0 (by omega)
                  rw [List.getElem?_eq_getElem (show 0 < cs0.length by omega)] at hc0
                  have ha : ∀ x : Addr, x.add 0 = x := fun x => by unfold Addr.add; rw [if_pos rfl]
                  rw [Nat.zero_mul, ha, ha] at hc0
                  unfold World.cell? at hc0
                  split at hc0
                  · simp at hc0
                  · cases hc0
              subst hsp
              have hadd : ∀ o i, (⟨b, o, none⟩ : Addr).add i = ⟨b, o + i, none⟩ := fun o i => by unfold Addr.add; split <;> simp_all
              refine ⟨b, o, rfl, memC_of_list' _ cs' b (o + j * ce.len) k2 fun i v hv => ?_⟩
              have hi : i < cs'.length := by
                rcases Nat.lt_or_ge i cs'.length with h | h
                · exact h
                · rw [List.getElem?_eq_none h] at hv; cases hv
              have := hcc i (by omega)
              simp only [hadd] at this
              rw [hv, hce] at this
              refine ⟨this, ?_⟩
              show b < w.heap.size
              unfold World.cell? at this
              split at this
              · rename_i hh; exact (Array.getElem?_eq_some_iff.1 hh).1
              · cases this
        · cases h
      · cases h
    · rename_i fs hu
      simp only [DataW.trod, hu] at ht
      split at ht
      · rename_i hcl
        cases hm : (fs.toList.mapM fun f => DataW.trod enc P w 0 (fun _ => true) true fuel f.type ((cs.drop f.offset).take (P.cellsOf f.type))) with
        | none => rw [hm] at ht; cases ht
        | some xs =>
          rw [hm] at ht
          cases ht
          rw [← hcl] at h
          have := open_fields ih fs.toList 0 r c h xs hm (fun n hn => hsm n (by simp only [DataW.weights, hu]; exact hn)) rest rl hs hl
          simpa using this
      · cases ht
    · cases h
/-- An argument of a plain type, opened. -/
theorem open_plain {n : Nat} {t : TypeId} {c : CS} (hc : tcs P n t .nil = some c) {v : Value} {d : DataW H} {ps : List MemPlace} (h : DataW.Trod enc P w 0 (fun _ => true) true t v d ps) (hs : Small P t d) :
    ∃ ch, Shape c ch ∧ ListC (envOf w) ch v.cells.toList := by
  obtain ⟨fuel, h⟩ := h
  obtain ⟨ch, h1, h2⟩ := opens enc P w n t .nil c hc fuel _ d ps h hs .nil [] rfl (listC_nil.2 rfl)
  exact ⟨ch, h1, by simpa using h2⟩
end
/-- Rows of numbers. -/
theorem arg_nums {k : IntKind} {c : AV} (h : Shape (.sl (.i k .nil) .nil) c) : ∃ l : List Int, ((∀ n ∈ l, (Lit.int k n).wf = true) ∧ l.length ≤ 140737488355328) ∧ SameC c (.cons (nums k fun _ => l) .nil) := by
  obtain ⟨n, g, t, rfl, hn, hg, ht⟩ := h
  cases ht
  have one : ∀ m, m ≤ n .o → ∃ l : List Int, l.length = m ∧ (∀ x ∈ l, (Lit.int k x).wf = true) ∧ ∀ j, j < m → ∃ x : Th Int, (g fun _ => j) = .cons (.int k x) .nil ∧ x .o = l.getD j 0 := by
    intro m
    induction m with
    | zero => intro _; exact ⟨[], rfl, by simp, fun j hj => absurd hj (Nat.not_lt_zero _)⟩
    | succ m ih =>
      intro hm
      obtain ⟨l, h1, h2, h3⟩ := ih (by omega)
      obtain ⟨x, t, hx, hw, ht⟩ := hg m (by omega)
      cases ht
      refine ⟨l ++ [x .o], by simp [h1], fun y hy => ?_, fun j hj => ?_⟩
      · rcases List.mem_append.1 hy with hy | hy
        · exact h2 y hy
        · rw [List.mem_singleton.1 hy]; exact hw
      · by_cases hjm : j < m
        · obtain ⟨y, h4, h5⟩ := h3 j hjm
          refine ⟨y, h4, ?_⟩
          simp only [List.getD_eq_getElem?_getD, List.getElem?_append_left (show j < l.length by omega)] at h5 ⊢
          exact h5
        · obtain rfl : j = m := by omega
          refine ⟨x, hx, ?_⟩
          simp [List.getD_eq_getElem?_getD, List.getElem?_append_right (show l.length ≤ j by omega), h1]
  obtain ⟨l, h1, h2, h3⟩ := one _ (Nat.le_refl _)
  refine ⟨l, ⟨h2, by omega⟩, .cons (.sl h1.symm fun j hj => ?_) .nil⟩
  obtain ⟨x, h4, h5⟩ := h3 j hj
  rw [h4]
  show AV.cons (.int k x) .nil = .cons (.int k fun _ => l.getD j 0) .nil
  congr 2
  funext u
  cases u
  exact h5
theorem arg_one {E : Env} {x : AV} {v : Value} (h : ListC E (.cons x .nil) [v]) : Rp E x v := by
  obtain ⟨y, r, he, h1, _⟩ := listC_cons.1 h
  cases he
  exact h1
theorem small_of {H : Type} {P : Program} {ts : List TypeId} {ds : List (DataW H)} (h : (DataW.weightsEach P ts ds).all (· ≤ reachBytes) = true) {j : Nat} {t : TypeId} {d : DataW H} (ht : ts[j]? = some t) (hd : ds[j]? = some d) : Small P t d :=
  fun n hn => by simpa using List.all_eq_true.1 h n (DataW.weights_mem_each ht hd n hn)
end Go.Proofs.YtjjddmbnfkmfdaaDoor
/- strings.Join and strings.IndexAny at this program: the kit's contracts, in plain words (cut out of what its tools print). -/
namespace Go.Proofs
open Go.Shelf
def Tryd.lays156_ren : Go.Shelf.Ren := ⟨fun | 156 => 27 | 165 => 38 | 166 => 39 | 169 => 37 | 240 => 46 | 241 => 47 | 276 => 57 | 277 => 58 | n => n, fun | 31 => 23 | 9 => 9 | 3 => 3 | 4 => 4 | 0 => 0 | 20 => 20 | 72 => 61 | 76 => 67 | 70 => 59 | 37 => 38 | 75 => 63 | 127 => 72 | 164 => 82 | 5 => 5 | 80 => 65 | n => n, fun | n => n⟩
theorem Tryd.lays156 : Go.Proofs.Lays.n156 Tryd.prog Tryd.lays156_ren := {
  mixed := by kernel_rfl
  f156 := Tryd.func27.trans (congrArg some (by kernel_rfl))
  f165 := Tryd.func38.trans (congrArg some (by kernel_rfl))
  f166 := Tryd.func39.trans (congrArg some (by kernel_rfl))
  f169 := Tryd.func37.trans (congrArg some (by kernel_rfl))
  f240 := Tryd.func46.trans (congrArg some (by kernel_rfl))
  f241 := Tryd.func47.trans (congrArg some (by kernel_rfl))
  f276 := Tryd.func57.trans (congrArg some (by kernel_rfl))
  f277 := Tryd.func58.trans (congrArg some (by kernel_rfl))
  t0 := Tryd.underlying0
  a0 := Tryd.isAgg0
  z0 := Tryd.sizeOf0
  v0 := Tryd.zeroValue0
  t3 := Tryd.underlying3
  a3 := Tryd.isAgg3
  z3 := Tryd.sizeOf3
  v3 := Tryd.zeroValue3
  t4 := Tryd.underlying4
  a4 := Tryd.isAgg4
  z4 := Tryd.sizeOf4
  v4 := Tryd.zeroValue4
  t9 := Tryd.underlying9
  a9 := Tryd.isAgg9
  z9 := Tryd.sizeOf9
  v9 := Tryd.zeroValue9
  t20 := Tryd.underlying20
  a20 := Tryd.isAgg20
  z20 := Tryd.sizeOf20
  v20 := Tryd.zeroValue20
  t31 := Tryd.underlying23
  a31 := Tryd.isAgg23
  z31 := Tryd.sizeOf23
  v31 := Tryd.zeroValue23
  t37 := Tryd.underlying38
  a37 := Tryd.isAgg38
  z37 := Tryd.sizeOf38
  v37 := Tryd.zeroValue38
  t70 := Tryd.underlying59
  a70 := Tryd.isAgg59
  z70 := Tryd.sizeOf59
  v70 := Tryd.zeroValue59
  t72 := Tryd.underlying61
  a72 := Tryd.isAgg61
  z72 := Tryd.sizeOf61
  v72 := Tryd.zeroValue61
  t75 := Tryd.underlying63
  a75 := Tryd.isAgg63
  z75 := Tryd.sizeOf63
  v75 := Tryd.zeroValue63
  t76 := Tryd.underlying67
  a76 := Tryd.isAgg67
  z76 := Tryd.sizeOf67
  v76 := Tryd.zeroValue67
  t127 := Tryd.underlying72
  a127 := Tryd.isAgg72
  z127 := Tryd.sizeOf72
  v127 := Tryd.zeroValue72
  t164 := Tryd.underlying82
  a164 := Tryd.isAgg82
  z164 := Tryd.sizeOf82
  v164 := Tryd.zeroValue82 }
theorem Tryd.Builder_Extra_156 : Builder.Extra Tryd.prog Tryd.lays156_ren := {
  sizeBuilder := by kernel_rfl
  liesBuilder := by kernel_rfl
  t5 := Tryd.underlying5
  a5 := Tryd.isAgg5
  z5 := Tryd.sizeOf5
  v5 := Tryd.zeroValue5
  infoByte := by kernel_rfl
  cellsByte := by kernel_rfl
  sizeByte := by kernel_rfl
  neB5 := by decide }
open Go.RowKit in
/-- No element: the empty string; the world is as it was. (Whatever the slice's address and capacity: a nil slice too.) (LAID: no walk: one application.) -/
theorem Tryd.strings_Join_none (a : Option Addr) (c : Nat) (sep : ByteArray) (w : World) :
    Calls Tryd.prog 27 #[.slice a 0 c, .string sep] w fun e w' => e = .returned (.string ⟨#[]⟩) ∧ w' = w := Any.strings_Join_none Tryd.lays156 Tryd.Builder_Extra_156 a c sep w
open Go.RowKit in
/-- strings.Join: "Join concatenates the elements of its first argument to create a single string. The separator string sep is placed between elements in the resulting string.": HOWEVER MANY ELEMENTS. Below the heap's end the world is as it was. (LAID: no walk: one application.) -/
theorem Tryd.strings_Join (bk o c : Nat) (xs : List ByteArray) (sep : ByteArray) (w : World) (hcells : ∀ (j : Nat) x, xs[j]? = some x → w.cell? ⟨bk, o + j, none⟩ = some (.string x)) (hbk : bk < w.heap.size) (hN : xs.length ≤ 140737488355328) (hcap : xs.length ≤ c) (hlen : (Lib.join (xs.map (·.data.toList)) sep.data.toList).length ≤ 140737488355328) :
    Calls Tryd.prog 27 #[.slice (some ⟨bk, o, none⟩) xs.length c, .string sep] w fun e w' => e = .returned (.string ⟨(Lib.join (xs.map (·.data.toList)) sep.data.toList).toArray⟩) ∧ Below w.heap.size w w' := Any.strings_Join Tryd.lays156 Tryd.Builder_Extra_156 bk o c xs sep w hcells hbk hN hcap hlen
def Tryd.lays153_ren : Go.Shelf.Ren := ⟨fun | 153 => 45 | 152 => 53 | 226 => 54 | 227 => 55 | 228 => 56 | 137 => 44 | 119 => 64 | 224 => 61 | 225 => 60 | 217 => 52 | 266 => 63 | n => n, fun | 9 => 9 | 3 => 3 | 4 => 4 | 5 => 5 | 21 => 21 | 117 => 80 | 116 => 79 | 0 => 0 | 46 => 86 | 124 => 88 | n => n, fun | n => n⟩
theorem Tryd.lays153 : Go.Proofs.Lays.n153 Tryd.prog Tryd.lays153_ren := {
  mixed := by kernel_rfl
  f119 := Tryd.func64.trans (congrArg some (by kernel_rfl))
  f137 := Tryd.func44.trans (congrArg some (by kernel_rfl))
  f152 := Tryd.func53.trans (congrArg some (by kernel_rfl))
  f153 := Tryd.func45.trans (congrArg some (by kernel_rfl))
  f217 := Tryd.func52.trans (congrArg some (by kernel_rfl))
  f224 := Tryd.func61.trans (congrArg some (by kernel_rfl))
  f225 := Tryd.func60.trans (congrArg some (by kernel_rfl))
  f226 := Tryd.func54.trans (congrArg some (by kernel_rfl))
  f227 := Tryd.func55.trans (congrArg some (by kernel_rfl))
  f228 := Tryd.func56.trans (congrArg some (by kernel_rfl))
  f266 := Tryd.func63.trans (congrArg some (by kernel_rfl))
  t0 := Tryd.underlying0
  a0 := Tryd.isAgg0
  z0 := Tryd.sizeOf0
  v0 := Tryd.zeroValue0
  t3 := Tryd.underlying3
  a3 := Tryd.isAgg3
  z3 := Tryd.sizeOf3
  v3 := Tryd.zeroValue3
  t4 := Tryd.underlying4
  a4 := Tryd.isAgg4
  z4 := Tryd.sizeOf4
  v4 := Tryd.zeroValue4
  t5 := Tryd.underlying5
  a5 := Tryd.isAgg5
  z5 := Tryd.sizeOf5
  v5 := Tryd.zeroValue5
  t9 := Tryd.underlying9
  a9 := Tryd.isAgg9
  z9 := Tryd.sizeOf9
  v9 := Tryd.zeroValue9
  t21 := Tryd.underlying21
  a21 := Tryd.isAgg21
  z21 := Tryd.sizeOf21
  v21 := Tryd.zeroValue21
  t46 := Tryd.underlying86
  a46 := Tryd.isAgg86
  z46 := Tryd.sizeOf86
  v46 := Tryd.zeroValue86
  t116 := Tryd.underlying79
  a116 := Tryd.isAgg79
  z116 := Tryd.sizeOf79
  t117 := Tryd.underlying80
  a117 := Tryd.isAgg80
  z117 := Tryd.sizeOf80
  v117 := Tryd.zeroValue80
  t124 := Tryd.underlying88
  a124 := Tryd.isAgg88
  z124 := Tryd.sizeOf88
  v124 := Tryd.zeroValue88 }
open Go.RowKit Go.Lib in
theorem Tryd.strings_IndexAny_long (hv116 : ∀ w, (zeroValue 79).run Tryd.prog w = .ok (.agg (Array.replicate 256 (.bool false))) w) (s chars : ByteArray) (w : World) (h2 : 2 ≤ chars.size) (h8 : 8 < s.size) (hs : s.size < 4294967281) (hcs : chars.size < 4294967281) (hascii : ∀ (j : Nat) b, chars.data.toList[j]? = some b → b.toNat < 128) :
    Calls Tryd.prog 45 #[.string s, .string chars] w fun e w' => e = .returned (.int .i64 (Lib.indexAny s.data.toList chars.data.toList)) ∧ w' = ((w.alloc (.cells (Lib.setCells chars.data.toList) 79)).alloc (.cells (Lib.setCells chars.data.toList) 79)) := Any.strings_IndexAny_long Tryd.lays153 hv116 (by kernel_rfl) s chars w h2 h8 hs hcs hascii
end Go.Proofs
/- The program's functions, resolved (printed by a tool). -/
namespace Go.Proofs.YtjjddmbnfkmfdaaDoor
open Go Go.Proofs.YtjjddmbnfkmfdaaDoor.Sx
namespace F
noncomputable def PT : Th Program := fun _ => Tryd.prog
abbrev l10_WideBack : Nat := 4
def l10_WideBack.rc : RC :=
  (.seq (.reg [R.q 6 (.mov R.ff)])
  (.seq (.reg [R.q 22 (.mov (R.t 0)),
    R.q 23 (.call 16 [(R.t 22)]),
    R.q 7 (.mov (R.t 23))])
  (.seq (.reg [R.q 24 (.mov (R.t 7)),
    R.q 25 (.call 12 [(R.t 24)]),
    R.q 8 (.mov (R.t 25))])
  (.seq (.reg [R.q 27 (.mov (R.t 8)),
    R.q 28 (.call 7 [(R.t 27)]),
    R.q 26 (.mov (R.t 28)),
    R.q 29 (.ext 0 (R.t 26)),
    R.q 30 (.ext 1 (R.t 26)),
    R.q 9 (.mov (R.t 29)),
    R.q 10 (.mov (R.t 30))])
  (.seq (.seq (.reg [R.q 31 (.mov (R.t 7)),
    R.q 32 (.call 9 [(R.t 31)]),
    R.q 33 (.un .not (R.t 32)),
    R.q 34 (.mov (R.t 33)),
    R.g 35 (.mov (R.t 10)) 34 false,
    R.g 36 (.un .not (R.t 35)) 34 false,
    R.q 37 (.pick (R.t 34) R.tt (R.t 36)),
    R.q 38 (.mov (R.t 37)),
    R.g 39 (.mov (R.t 9)) 38 false,
    R.g 40 (.mov (R.t 7)) 38 false,
    R.g 41 (.call 11 [(R.t 39), (R.t 40)]) 38 false,
    R.g 42 (.un .not (R.t 41)) 38 false,
    R.q 43 (.pick (R.t 38) R.tt (R.t 42))])
  (.cond (R.t 43)
    (.seq (.reg [R.q 6 (.mov R.ff)])
    .ret)
    .skip))
  (.seq (.reg [R.q 45 (.call 7 [(.val (.str fun _ => [65, 58, 58, 79, 87, 78, 69, 82, 64, 58, 119, 114]))]),
    R.q 44 (.mov (R.t 45)),
    R.q 46 (.ext 0 (R.t 44)),
    R.q 47 (.ext 1 (R.t 44)),
    R.q 11 (.mov (R.t 46)),
    R.q 12 (.mov (R.t 47))])
  (.seq (.reg [R.q 49 (.call 7 [(.val (.str fun _ => [65, 58, 102, 102, 58, 79, 87, 78, 69, 82, 64, 58, 114]))]),
    R.q 48 (.mov (R.t 49)),
    R.q 50 (.ext 0 (R.t 48)),
    R.q 51 (.ext 1 (R.t 48)),
    R.q 13 (.mov (R.t 50)),
    R.q 14 (.mov (R.t 51))])
  (.seq (.reg [R.q 53 (.call 7 [(.val (.str fun _ => [65, 58, 58, 58, 114]))]),
    R.q 52 (.mov (R.t 53)),
    R.q 54 (.ext 0 (R.t 52)),
    R.q 55 (.ext 1 (R.t 52)),
    R.q 15 (.mov (R.t 54)),
    R.q 16 (.mov (R.t 55))])
  (.seq (.reg [R.q 57 (.mov (R.t 8)),
    R.q 58 (.bin .add .no (R.t 57) (.val (.str fun _ => [44]))),
    R.q 59 (.call 7 [(R.t 58)]),
    R.q 56 (.mov (R.t 59)),
    R.q 60 (.ext 0 (R.t 56)),
    R.q 61 (.ext 1 (R.t 56)),
    R.q 17 (.mov (R.t 60)),
    R.q 18 (.mov (R.t 61))])
  (.seq (.seq (.reg [R.q 62 (.mov (R.t 8)),
    R.q 63 (.lenS (R.t 62)),
    R.q 64 (.bin .eql .no (R.t 63) (R.i 0))])
  (.cond (R.t 64)
    (.seq (.reg [R.q 65 (.mov (R.t 12)),
      R.q 66 (.un .not (R.t 65)),
      R.q 67 (.mov (R.t 66)),
      R.g 68 (.mov (R.t 14)) 67 true,
      R.g 69 (.un .not (R.t 68)) 67 true,
      R.q 70 (.pick (R.t 67) (R.t 69) R.ff),
      R.q 71 (.mov (R.t 70)),
      R.g 72 (.mov (R.t 16)) 71 true,
      R.g 73 (.un .not (R.t 72)) 71 true,
      R.q 74 (.pick (R.t 71) (R.t 73) R.ff),
      R.q 75 (.mov (R.t 74)),
      R.g 76 (.mov (R.t 18)) 75 true,
      R.g 77 (.un .not (R.t 76)) 75 true,
      R.q 78 (.pick (R.t 75) (R.t 77) R.ff),
      R.q 79 (.mov (R.t 78)),
      R.g 80 (.call 6 []) 79 true,
      R.q 81 (.pick (R.t 79) (R.t 80) R.ff),
      R.q 6 (.mov (R.t 81))])
    .ret)
    .skip))
  (.seq (.reg [R.q 82 (.mov (R.t 8)),
    R.q 83 (.s2r (R.t 82)),
    R.q 19 (.mov (R.t 83))])
  (.seq (.reg [R.q 84 (.mov (R.t 19)),
    R.q 85 (.mov (R.t 1)),
    R.q 86 (.conv .i64 (R.t 85)),
    R.q 87 (.mov (R.t 19)),
    R.q 88 (.len (R.t 87)),
    R.q 89 (.bin .rem .no (R.t 86) (R.t 88)),
    R.q 90 (.mov (R.t 2)),
    R.q 91 (.idx 1 (R.t 84) (R.t 89)),
    R.e (.store 1 (R.t 91) (R.t 90))])
  (.seq (.reg [R.q 93 (.mov (R.t 19)),
    R.q 94 (.b2s (R.t 93)),
    R.q 95 (.call 7 [(R.t 94)]),
    R.q 92 (.mov (R.t 95)),
    R.q 96 (.ext 0 (R.t 92)),
    R.q 97 (.ext 1 (R.t 92)),
    R.q 20 (.mov (R.t 96)),
    R.q 21 (.mov (R.t 97))])
  (.seq (.reg [R.q 98 (.mov (R.t 12)),
    R.q 99 (.un .not (R.t 98)),
    R.q 100 (.mov (R.t 99)),
    R.g 101 (.mov (R.t 14)) 100 true,
    R.g 102 (.un .not (R.t 101)) 100 true,
    R.q 103 (.pick (R.t 100) (R.t 102) R.ff),
    R.q 104 (.mov (R.t 103)),
    R.g 105 (.mov (R.t 16)) 104 true,
    R.g 106 (.un .not (R.t 105)) 104 true,
    R.q 107 (.pick (R.t 104) (R.t 106) R.ff),
    R.q 108 (.mov (R.t 107)),
    R.g 109 (.mov (R.t 18)) 108 true,
    R.g 110 (.un .not (R.t 109)) 108 true,
    R.q 111 (.pick (R.t 108) (R.t 110) R.ff),
    R.q 112 (.mov (R.t 111)),
    R.g 113 (.mov (R.t 19)) 112 true,
    R.g 114 (.b2s (R.t 113)) 112 true,
    R.g 115 (.mov (R.t 8)) 112 true,
    R.g 116 (.bin .eql .no (R.t 114) (R.t 115)) 112 true,
    R.g 117 (.mov (R.t 116)) 112 true,
    R.g 118 (.mov (R.t 21)) 117 false,
    R.g 119 (.un .not (R.t 118)) 117 false,
    R.g 120 (.pick (R.t 117) R.tt (R.t 119)) 112 true,
    R.g 121 (.mov (R.t 120)) 112 true,
    R.g 122 (.mov (R.t 20)) 121 false,
    R.g 123 (.mov (R.t 7)) 121 false,
    R.g 124 (.call 11 [(R.t 122), (R.t 123)]) 121 false,
    R.g 125 (.un .not (R.t 124)) 121 false,
    R.g 126 (.pick (R.t 121) R.tt (R.t 125)) 112 true,
    R.q 127 (.pick (R.t 112) (R.t 126) R.ff),
    R.q 128 (.mov (R.t 127)),
    R.g 129 (.call 6 []) 128 true,
    R.q 130 (.pick (R.t 128) (R.t 129) R.ff),
    R.q 6 (.mov (R.t 130))])
  .ret))))))))))))))
def l10_WideBack.rs : List RRes := [.tmp 6]
theorem l10_WideBack.of {xs : List AV} {d : Nat} {B : BL} {K : ARes → BL → Prop} (hn : xs.length = 3) (hB : onlyOuter B = true) (h : awp ⟨PT, 131, exitX l10_WideBack.rs K⟩ 10000 [.code l10_WideBack.rc] ⟨params 0 xs, B, .nil⟩) : CallAt PT l10_WideBack xs d B K :=
  call_of_awp 10000 Tryd.func4 rfl (by kernel_rfl) (by kernel_rfl) (by kernel_rfl) (by rw [hn]; decide) hB h
abbrev l10_awake : Nat := 6
def l10_awake.rc : RC :=
  (.seq (.reg [R.q 0 (.mov R.ff)])
  (.seq (.reg [R.q 4 (.call 7 [(.val (.str fun _ => [65, 58, 58, 79, 87, 78, 69, 82, 64, 58, 114, 119]))]),
    R.q 3 (.mov (R.t 4)),
    R.q 5 (.ext 0 (R.t 3)),
    R.q 6 (.ext 1 (R.t 3)),
    R.q 1 (.mov (R.t 5)),
    R.q 2 (.mov (R.t 6))])
  (.seq (.reg [R.q 7 (.mov (R.t 2)),
    R.q 8 (.mov (R.t 7)),
    R.g 9 (.mov (R.t 1)) 8 true,
    R.g 10 (.len (R.t 9)) 8 true,
    R.g 11 (.bin .eql .no (R.t 10) (R.i 1)) 8 true,
    R.q 12 (.pick (R.t 8) (R.t 11) R.ff),
    R.q 13 (.mov (R.t 12)),
    R.g 14 (.mov (R.t 1)) 13 true,
    R.g 15 (.idx 4 (R.t 14) (R.i 0)) 13 true,
    R.g 16 (.fld 2 (R.t 15)) 13 true,
    R.g 17 (.load1 (R.t 16)) 13 true,
    R.g 18 (.bin .eql .no (R.t 17) (R.i 3)) 13 true,
    R.q 19 (.pick (R.t 13) (R.t 18) R.ff),
    R.q 20 (.mov (R.t 19)),
    R.g 21 (.mov (R.t 1)) 20 true,
    R.g 22 (.call 12 [(R.t 21)]) 20 true,
    R.g 23 (.bin .eql .no (R.t 22) (.val (.str fun _ => [65, 58, 58, 79, 87, 78, 69, 82, 64, 58, 114, 119]))) 20 true,
    R.q 24 (.pick (R.t 20) (R.t 23) R.ff),
    R.q 25 (.mov (R.t 24)),
    R.g 26 (.mov (R.t 1)) 25 true,
    R.g 27 (.bslice 1 (.cons (.str fun _ => []) .nil) 1 [(0, 1, (.val (.str fun _ => [79, 87, 78, 69, 82, 64])))]) 25 true,
    R.g 28 (.call 14 [(R.t 26), (R.t 27), (R.i 1)]) 25 true,
    R.q 29 (.pick (R.t 25) (R.t 28) R.ff),
    R.q 0 (.mov (R.t 29))])
  .ret)))
def l10_awake.rs : List RRes := [.tmp 0]
theorem l10_awake.of {xs : List AV} {d : Nat} {B : BL} {K : ARes → BL → Prop} (hn : xs.length = 0) (hB : onlyOuter B = true) (h : awp ⟨PT, 30, exitX l10_awake.rs K⟩ 10000 [.code l10_awake.rc] ⟨params 0 xs, B, .nil⟩) : CallAt PT l10_awake xs d B K :=
  call_of_awp 10000 Tryd.func6 rfl (by kernel_rfl) (by kernel_rfl) (by kernel_rfl) (by rw [hn]; decide) hB h
abbrev wide_Parse : Nat := 7
def wide_Parse.rc : RC :=
  (.seq (.reg [R.q 2 (.alloc (.cons .nsl .nil)),
    R.q 3 (.alloc (.cons .ff .nil))])
  (.seq (.reg [R.q 7 (.mkfn (.func 17) [] [(R.t 2), (R.t 3)]),
    R.e (.defer (R.t 7) [])])
  (.seq (.seq (.reg [R.q 8 (.mov (R.t 0)),
    R.q 9 (.bin .eql .no (R.t 8) (.val (.str fun _ => [])))])
  (.cond (R.t 9)
    (.seq (.reg [R.e (.store 1 (R.t 2) (.val .nsl)),
      R.e (.store 1 (R.t 3) R.tt)])
    .ret)
    .skip))
  (.seq (.reg [R.q 4 (.mov (.val .nsl))])
  (.seq (.seq (.reg [R.q 10 (.mov (R.t 0)),
    R.q 11 (.call 18 [(R.t 10), (.val (.str fun _ => [44]))]),
    R.q 12 (.len (R.t 11)),
    R.q 13 (.mov (R.i 0))])
  (.block 0 (.loop
     (.seq (.reg [R.q 14 (.bin .lss .no (R.t 13) (R.t 12))])
     (.seq (.cond (R.t 14)
       .skip
       (.exit 0))
     (.seq (.block 1 (.seq (.reg [R.q 15 (.idx 1 (R.t 11) (R.t 13)),
        R.q 16 (.load1 (R.t 15)),
        R.q 6 (.mov (R.t 16))])
      (.reg [R.q 17 (.mov (R.t 4)),
        R.q 18 (.mov (R.t 6)),
        R.q 19 (.call 19 [(R.t 18)]),
        R.q 20 (.bslice 4 (.cons (R.z 0) (.cons (R.z 0) (.cons (R.z 0) (.cons (.str fun _ => []) .nil)))) 1 [(0, 4, (R.t 19))]),
        R.q 21 (.append 4 40 (R.t 17) (R.t 20)),
        R.q 4 (.mov (R.t 21))])))
     (.reg [R.q 22 (.bin .add .no (R.t 13) (R.i 1)),
       R.q 13 (.mov (R.t 22))])))))))
  (.seq (.seq (.reg [R.q 23 (.mov (R.t 4)),
    R.q 24 (.call 9 [(R.t 23)]),
    R.q 25 (.un .not (R.t 24)),
    R.q 26 (.mov (R.t 25)),
    R.g 27 (.mov (R.t 4)) 26 false,
    R.g 28 (.call 12 [(R.t 27)]) 26 false,
    R.g 29 (.mov (R.t 0)) 26 false,
    R.g 30 (.bin .neq .no (R.t 28) (R.t 29)) 26 false,
    R.q 31 (.pick (R.t 26) R.tt (R.t 30))])
  (.cond (R.t 31)
    (.seq (.reg [R.e (.store 1 (R.t 2) (.val .nsl)),
      R.e (.store 1 (R.t 3) R.ff)])
    .ret)
    .skip))
  (.seq (.reg [R.q 32 (.mov (R.t 4)),
    R.e (.store 1 (R.t 2) (R.t 32)),
    R.e (.store 1 (R.t 3) R.tt)])
  .ret)))))))
def wide_Parse.rs : List RRes := [.cell1 2, .cell1 3]
theorem wide_Parse.of {xs : List AV} {d : Nat} {B : BL} {K : ARes → BL → Prop} (hn : xs.length = 1) (hB : onlyOuter B = true) (h : awp ⟨PT, 33, exitD PT wide_Parse.rs K⟩ 10000 [.code wide_Parse.rc] ⟨params 0 xs, B, .nil⟩) : CallAt PT wide_Parse xs d B K :=
  call_of_awp_d 10000 Tryd.func7 rfl (by kernel_rfl) (by kernel_rfl) (by kernel_rfl) (by rw [hn]; decide) hB h
abbrev wide_May : Nat := 9
def wide_May.rc : RC :=
  (.seq (.reg [R.q 2 (.mov R.ff)])
  (.seq (.reg [R.q 3 (.mov (R.t 0)),
    R.q 4 (.len (R.t 3)),
    R.q 5 (.bin .leq .no (R.t 4) (R.i 32)),
    R.q 6 (.mov (R.t 5)),
    R.g 7 (.mov (R.t 0)) 6 true,
    R.g 8 (.call 22 [(R.t 7), (.val (.fn (.func 23) .nil .nil))]) 6 true,
    R.g 9 (.un .not (R.t 8)) 6 true,
    R.q 10 (.pick (R.t 6) (R.t 9) R.ff),
    R.q 2 (.mov (R.t 10))])
  .ret))
def wide_May.rs : List RRes := [.tmp 2]
theorem wide_May.of {xs : List AV} {d : Nat} {B : BL} {K : ARes → BL → Prop} (hn : xs.length = 1) (hB : onlyOuter B = true) (h : awp ⟨PT, 11, exitX wide_May.rs K⟩ 10000 [.code wide_May.rc] ⟨params 0 xs, B, .nil⟩) : CallAt PT wide_May xs d B K :=
  call_of_awp 10000 Tryd.func9 rfl (by kernel_rfl) (by kernel_rfl) (by kernel_rfl) (by rw [hn]; decide) hB h
abbrev r9_SameWide : Nat := 11
def r9_SameWide.rc : RC :=
  (.seq (.reg [R.q 4 (.mov R.ff)])
  (.seq (.seq (.reg [R.q 6 (.mov (R.t 0)),
    R.q 7 (.len (R.t 6)),
    R.q 8 (.mov (R.t 1)),
    R.q 9 (.len (R.t 8)),
    R.q 10 (.bin .neq .no (R.t 7) (R.t 9))])
  (.cond (R.t 10)
    (.seq (.reg [R.q 4 (.mov R.ff)])
    .ret)
    .skip))
  (.seq (.seq (.reg [R.q 5 (.mov (R.i 0))])
  (.block 0 (.loop
     (.seq (.seq (.reg [R.q 11 (.mov (R.t 5)),
       R.q 12 (.mov (R.t 0)),
       R.q 13 (.len (R.t 12)),
       R.q 14 (.bin .lss .no (R.t 11) (R.t 13))])
     (.cond (R.t 14)
       .skip
       (.exit 0)))
     (.seq (.block 1 (.seq (.regd [R.f (R.q 17 (.mov (R.t 0))),
        R.f (R.q 18 (.mov (R.t 5))),
        R.f (R.q 19 (.idx 4 (R.t 17) (R.t 18))),
        R.f (R.q 20 (.loadA 4 (R.t 19))),
        R.f (R.q 21 (.mov (R.t 1))),
        R.f (R.q 22 (.mov (R.t 5))),
        R.f (R.q 23 (.idx 4 (R.t 21) (R.t 22))),
        R.f (R.q 24 (.loadA 4 (R.t 23))),
        R.f (R.q 25 (.bin .neq (.agg [.i .i64, .i .i64, .i .i64, .s]) (R.t 20) (R.t 24)))])
      (.cond (R.t 25)
        (.seq (.reg [R.q 4 (.mov R.ff)])
        .ret)
        .skip)))
     (.reg [R.q 15 (.mov (R.t 5)),
       R.q 16 (.bin .add .no (R.t 15) (R.i 1)),
       R.q 5 (.mov (R.t 16))]))))))
  (.seq (.reg [R.q 4 (.mov R.tt)])
  .ret))))
def r9_SameWide.rs : List RRes := [.tmp 4]
theorem r9_SameWide.of {xs : List AV} {d : Nat} {B : BL} {K : ARes → BL → Prop} (hn : xs.length = 2) (hB : onlyOuter B = true) (h : awp ⟨PT, 26, exitX r9_SameWide.rs K⟩ 10000 [.code r9_SameWide.rc] ⟨params 0 xs, B, .nil⟩) : CallAt PT r9_SameWide xs d B K :=
  call_of_awp 10000 Tryd.func11 rfl (by kernel_rfl) (by kernel_rfl) (by kernel_rfl) (by rw [hn]; decide) hB h
abbrev wide_Text : Nat := 12
def wide_Text.rc : RC :=
  (.seq (.reg [R.q 2 (.mov (.val (.str fun _ => [])))])
  (.seq (.reg [R.q 3 (.mov (.val .nsl))])
  (.seq (.seq (.reg [R.q 7 (.mov (R.t 0)),
    R.q 8 (.len (R.t 7)),
    R.q 9 (.mov (R.i 0))])
  (.block 0 (.loop
     (.seq (.reg [R.q 10 (.bin .lss .no (R.t 9) (R.t 8))])
     (.seq (.cond (R.t 10)
       .skip
       (.exit 0))
     (.seq (.block 1 (.seq (.reg [R.q 11 (.idx 4 (R.t 7) (R.t 9)),
        R.q 12 (.loadA 4 (R.t 11)),
        R.q 5 (.alloc (.cons (R.z 0) (.cons (R.z 0) (.cons (R.z 0) (.cons (.str fun _ => []) .nil))))),
        R.e (.store 4 (R.t 5) (R.t 12))])
      (.seq (.reg [R.q 6 (.mov (.val (.str fun _ => [65, 58])))])
      (.seq (.seq (.reg [R.q 13 (.fld 0 (R.t 5)),
        R.q 14 (.load1 (R.t 13)),
        R.q 15 (.bin .eql .no (R.t 14) (R.i 2))])
      (.cond (R.t 15)
        (.reg [R.q 6 (.mov (.val (.str fun _ => [68, 58])))])
        .skip))
      (.regd [R.f (R.q 16 (.mov (R.t 3))),
        R.f (R.q 17 (.mov (R.t 6))),
        R.f (R.q 18 (.fld 1 (R.t 5))),
        R.f (R.q 19 (.load1 (R.t 18))),
        R.f (R.q 23 (.fld 3 (R.t 5))),
        R.f (R.q 24 (.load1 (R.t 23))),
        R.f (R.q 27 (.fld 2 (R.t 5))),
        R.f (R.q 28 (.load1 (R.t 27))),
        R.s (R.q 20 (.call 26 [(R.t 19), (.val (.str fun _ => [102, 100, 110, 112, 83, 70, 103]))])) [0, 1, 4, 5, 6, 7],
        R.f (R.q 21 (.bin .add .no (R.t 17) (R.t 20))),
        R.f (R.q 22 (.bin .add .no (R.t 21) (.val (.str fun _ => [58])))),
        R.f (R.q 25 (.bin .add .no (R.t 22) (R.t 24))),
        R.f (R.q 26 (.bin .add .no (R.t 25) (.val (.str fun _ => [58])))),
        R.s (R.q 29 (.call 26 [(R.t 28), (.val (.str fun _ => [114, 119, 97, 120, 100, 68, 116, 84, 110, 78, 99, 67, 111, 121]))])) [0, 1, 4, 5, 9, 10, 11, 12],
        R.f (R.q 30 (.bin .add .no (R.t 26) (R.t 29))),
        R.f (R.q 31 (.bslice 1 (.cons (.str fun _ => []) .nil) 1 [(0, 1, (R.t 30))])),
        R.s (R.q 32 (.append 1 16 (R.t 16) (R.t 31))) [],
        R.s (R.q 3 (.mov (R.t 32))) []])))))
     (.reg [R.q 33 (.bin .add .no (R.t 9) (R.i 1)),
       R.q 9 (.mov (R.t 33))])))))))
  (.seq (.reg [R.q 34 (.mov (R.t 3)),
    R.q 35 (.call 27 [(R.t 34), (.val (.str fun _ => [44]))]),
    R.q 2 (.mov (R.t 35))])
  .ret))))
def wide_Text.rs : List RRes := [.tmp 2]
theorem wide_Text.of {xs : List AV} {d : Nat} {B : BL} {K : ARes → BL → Prop} (hn : xs.length = 1) (hB : onlyOuter B = true) (h : awp ⟨PT, 36, exitX wide_Text.rs K⟩ 10000 [.code wide_Text.rc] ⟨params 0 xs, B, .nil⟩) : CallAt PT wide_Text xs d B K :=
  call_of_awp 10000 Tryd.func12 rfl (by kernel_rfl) (by kernel_rfl) (by kernel_rfl) (by rw [hn]; decide) hB h
abbrev wide_Allows : Nat := 14
def wide_Allows.rc : RC :=
  (.seq (.reg [R.q 4 (.box (R.t 1)),
    R.q 5 (.box (R.t 2)),
    R.q 6 (.mov R.ff)])
  (.seq (.seq (.reg [R.q 8 (.load1 (R.t 5)),
    R.q 9 (.bin .lss .no (R.t 8) (R.i 0)),
    R.q 10 (.mov (R.t 9)),
    R.g 11 (.load1 (R.t 5)) 10 false,
    R.g 12 (.bin .geq .no (R.t 11) (R.i 14)) 10 false,
    R.q 13 (.pick (R.t 10) R.tt (R.t 12))])
  (.cond (R.t 13)
    (.seq (.reg [R.q 6 (.mov R.ff)])
    .ret)
    .skip))
  (.seq (.reg [R.q 14 (.mov (R.t 0)),
    R.q 15 (.mkfn (.func 30) [] [(R.t 5), (R.t 4)]),
    R.q 16 (.call 29 [(R.t 14), (R.t 15)]),
    R.q 7 (.mov (R.t 16))])
  (.seq (.reg [R.q 17 (.mov (R.t 7)),
    R.q 18 (.bin .geq .no (R.t 17) (R.i 0)),
    R.q 19 (.mov (R.t 18)),
    R.g 20 (.mov (R.t 0)) 19 true,
    R.g 21 (.mov (R.t 7)) 19 true,
    R.g 22 (.idx 4 (R.t 20) (R.t 21)) 19 true,
    R.g 23 (.fld 0 (R.t 22)) 19 true,
    R.g 24 (.load1 (R.t 23)) 19 true,
    R.g 25 (.bin .eql .no (R.t 24) (R.i 1)) 19 true,
    R.q 26 (.pick (R.t 19) (R.t 25) R.ff),
    R.q 6 (.mov (R.t 26))])
  .ret))))
def wide_Allows.rs : List RRes := [.tmp 6]
theorem wide_Allows.of {xs : List AV} {d : Nat} {B : BL} {K : ARes → BL → Prop} (hn : xs.length = 3) (hB : onlyOuter B = true) (h : awp ⟨PT, 27, exitX wide_Allows.rs K⟩ 10000 [.code wide_Allows.rc] ⟨params 0 xs, B, .nil⟩) : CallAt PT wide_Allows xs d B K :=
  call_of_awp 10000 Tryd.func14 rfl (by kernel_rfl) (by kernel_rfl) (by kernel_rfl) (by rw [hn]; decide) hB h
abbrev l10_Make : Nat := 16
def l10_Make.rc : RC :=
  (.seq (.reg [R.q 2 (.mov (.val .nsl))])
  (.seq (.reg [R.q 3 (.mov (.val .nsl))])
  (.seq (.seq (.reg [R.q 4 (.mov (R.i 0))])
  (.block 0 (.loop
     (.seq (.seq (.reg [R.q 6 (.mov (R.t 4)),
       R.q 7 (.bin .add .no (R.t 6) (R.i 1)),
       R.q 8 (.mov (R.t 0)),
       R.q 9 (.len (R.t 8)),
       R.q 10 (.bin .lss .no (R.t 7) (R.t 9)),
       R.q 11 (.mov (R.t 10)),
       R.g 12 (.mov (R.t 3)) 11 true,
       R.g 13 (.len (R.t 12)) 11 true,
       R.g 14 (.bin .lss .no (R.t 13) (R.i 20)) 11 true,
       R.q 15 (.pick (R.t 11) (R.t 14) R.ff)])
     (.cond (R.t 15)
       .skip
       (.exit 0)))
     (.seq (.block 1 (.seq (.regd [R.f (R.q 18 (.mov (R.t 0))),
        R.f (R.q 19 (.mov (R.t 4))),
        R.f (R.q 20 (.idx 1 (R.t 18) (R.t 19))),
        R.f (R.q 21 (.load1 (R.t 20))),
        R.f (R.q 22 (.conv .i64 (R.t 21))),
        R.f (R.q 23 (.bin .rem .no (R.t 22) (R.i 50))),
        R.f (R.q 26 (.mov (R.t 0))),
        R.f (R.q 27 (.mov (R.t 4))),
        R.f (R.q 28 (.idx 1 (R.t 26) (R.t 27))),
        R.f (R.q 29 (.load1 (R.t 28))),
        R.f (R.q 30 (.bin .rem .no (R.t 29) (.val (.int .u16 fun _ => 4)))),
        R.s (R.q 24 (.call 32 [(R.t 23)])) [6, 7, 8, 9, 10],
        R.f (R.q 25 (.bslice 1 (.cons (.str fun _ => []) .nil) 4 [(0, 1, (.val (.str fun _ => [79, 87, 78, 69, 82, 64]))), (1, 1, (.val (.str fun _ => [71, 82, 79, 85, 80, 64]))), (2, 1, (.val (.str fun _ => [69, 86, 69, 82, 89, 79, 78, 69, 64]))), (3, 1, (R.t 24))])),
        R.f (R.q 31 (.idx 1 (R.t 25) (R.t 30))),
        R.f (R.q 32 (.load1 (R.t 31))),
        R.s (R.q 5 (.mov (R.t 32))) []])
      (.regd [R.f (R.q 33 (.mov (R.t 3))),
        R.f (R.q 34 (.mov (R.t 0))),
        R.f (R.q 35 (.mov (R.t 4))),
        R.f (R.q 36 (.idx 1 (R.t 34) (R.t 35))),
        R.f (R.q 37 (.load1 (R.t 36))),
        R.f (R.q 38 (.conv .i64 (R.t 37))),
        R.f (R.q 39 (.bin .quo .no (R.t 38) (R.i 4))),
        R.f (R.q 40 (.bin .rem .no (R.t 39) (R.i 2))),
        R.f (R.q 41 (.bin .add .no (R.i 1) (R.t 40))),
        R.f (R.q 42 (.mov (R.t 0))),
        R.f (R.q 43 (.mov (R.t 4))),
        R.f (R.q 44 (.idx 1 (R.t 42) (R.t 43))),
        R.f (R.q 45 (.load1 (R.t 44))),
        R.f (R.q 46 (.conv .i64 (R.t 45))),
        R.f (R.q 47 (.bin .quo .no (R.t 46) (R.i 8))),
        R.f (R.q 48 (.bin .rem .no (R.t 47) (R.i 128))),
        R.f (R.q 49 (.mov (R.t 0))),
        R.f (R.q 50 (.mov (R.t 4))),
        R.f (R.q 51 (.bin .add .no (R.t 50) (R.i 1))),
        R.f (R.q 52 (.idx 1 (R.t 49) (R.t 51))),
        R.f (R.q 53 (.load1 (R.t 52))),
        R.f (R.q 54 (.conv .i64 (R.t 53))),
        R.f (R.q 55 (.bin .rem .no (R.t 54) (R.i 16384))),
        R.f (R.q 56 (.mov (R.t 5))),
        R.f (R.q 57 (.build (.cons (R.z 0) (.cons (R.z 0) (.cons (R.z 0) (.cons (.str fun _ => []) .nil)))) [(0, 1, (R.t 41)), (1, 1, (R.t 48)), (2, 1, (R.t 55)), (3, 1, (R.t 56))])),
        R.f (R.q 58 (.bslice 4 (.cons (R.z 0) (.cons (R.z 0) (.cons (R.z 0) (.cons (.str fun _ => []) .nil)))) 1 [(0, 4, (R.t 57))])),
        R.s (R.q 59 (.append 4 40 (R.t 33) (R.t 58))) [],
        R.s (R.q 3 (.mov (R.t 59))) []])))
     (.reg [R.q 16 (.mov (R.t 4)),
       R.q 17 (.bin .add .no (R.t 16) (R.i 2)),
       R.q 4 (.mov (R.t 17))]))))))
  (.seq (.reg [R.q 60 (.mov (R.t 3)),
    R.q 2 (.mov (R.t 60))])
  .ret))))
def l10_Make.rs : List RRes := [.tmp 2]
theorem l10_Make.of {xs : List AV} {d : Nat} {B : BL} {K : ARes → BL → Prop} (hn : xs.length = 1) (hB : onlyOuter B = true) (h : awp ⟨PT, 61, exitX l10_Make.rs K⟩ 10000 [.code l10_Make.rc] ⟨params 0 xs, B, .nil⟩) : CallAt PT l10_Make xs d B K :=
  call_of_awp 10000 Tryd.func16 rfl (by kernel_rfl) (by kernel_rfl) (by kernel_rfl) (by rw [hn]; decide) hB h
abbrev wide_Parse_1 : Nat := 17
def wide_Parse_1.rc : RC :=
  (.seq (.reg [R.q 6 (.mov (R.t 2)),
    R.q 7 (.bin .neq (.ifc true) (R.t 6) (.val .nif))])
  (.cond (R.t 7)
    (.seq (.seq (.reg [R.q 9 (.mov (R.t 2)),
      R.q 10 (.assert 44 (.agg (.cons (.str fun _ => []) .nil)) (R.t 9)),
      R.q 8 (.mov (R.t 10)),
      R.q 11 (.ext 0 (R.t 8)),
      R.q 12 (.ext 1 (R.t 8)),
      R.q 3 (.alloc (.cons (.str fun _ => []) .nil)),
      R.e (.store 1 (R.t 3) (R.t 11)),
      R.q 4 (.mov (R.t 12))])
    (.seq (.reg [R.q 13 (.mov (R.t 4)),
      R.q 14 (.un .not (R.t 13))])
    (.cond (R.t 14)
      (.reg [R.q 15 (.mov (R.t 2)),
        R.e (.panic (R.t 15))])
      .skip)))
    (.reg [R.e (.store 1 (R.t 0) (.val .nsl)),
      R.e (.store 1 (R.t 1) R.ff)]))
    .skip))
def wide_Parse_1.rs : List RRes := []
theorem wide_Parse_1.of {pn : Bool} {pv : AV} {xs : List AV} {B : BL} {K : BL → Prop} (hn : xs.length = 2) (hB : onlyOuter B = true) (hpv : pn = false → pv = .nif) (h : awp ⟨PT, 16, exitC K⟩ 10000 [.code wide_Parse_1.rc] ⟨.cons 2 pv (.cons 5 pv (params 0 xs)), B, .nil⟩) : DefAt PT wide_Parse_1 pn (pv :: xs) B K :=
  def_of_awp 10000 Tryd.func17 rfl (by kernel_rfl) (by kernel_rfl) rfl (by rw [hn]; decide) (by decide) (by decide) hB hpv h
abbrev strings_Split : Nat := 18
def strings_Split.rc : RC :=
  (.seq (.reg [R.q 4 (.mov (.val .nsl))])
  (.seq (.reg [R.q 5 (.mov (R.t 0)),
    R.q 6 (.mov (R.t 1)),
    R.q 7 (.call 33 [(R.t 5), (R.t 6), (R.i 0), (R.i (-1))]),
    R.q 4 (.mov (R.t 7))])
  .ret))
def strings_Split.rs : List RRes := [.tmp 4]
theorem strings_Split.of {xs : List AV} {d : Nat} {B : BL} {K : ARes → BL → Prop} (hn : xs.length = 2) (hB : onlyOuter B = true) (h : awp ⟨PT, 8, exitX strings_Split.rs K⟩ 10000 [.code strings_Split.rc] ⟨params 0 xs, B, .nil⟩) : CallAt PT strings_Split xs d B K :=
  call_of_awp 10000 Tryd.func18 rfl (by kernel_rfl) (by kernel_rfl) (by kernel_rfl) (by rw [hn]; decide) hB h
abbrev wide_part : Nat := 19
def wide_part.rc : RC :=
  (.seq (.reg [R.q 2 (.alloc (.cons (R.z 0) (.cons (R.z 0) (.cons (R.z 0) (.cons (.str fun _ => []) .nil)))))])
  (.seq (.reg [R.q 5 (.mov (R.t 0)),
    R.q 6 (.call 18 [(R.t 5), (.val (.str fun _ => [58]))]),
    R.q 3 (.mov (R.t 6))])
  (.seq (.seq (.reg [R.q 7 (.mov (R.t 3)),
    R.q 8 (.len (R.t 7)),
    R.q 9 (.bin .neq .no (R.t 8) (R.i 4))])
  (.cond (R.t 9)
    (.reg [R.q 10 (.mov (R.t 0)),
      R.q 11 (.build (.cons (.str fun _ => []) .nil) [(0, 1, (R.t 10))]),
      R.q 12 (.mkif 44 (R.t 11)),
      R.e (.panic (R.t 12))])
    .skip))
  (.seq (.regd [R.f (R.q 13 (.mov (R.t 3))),
    R.f (R.q 14 (.idx 1 (R.t 13) (R.i 1))),
    R.f (R.q 15 (.load1 (R.t 14))),
    R.f (R.q 17 (.mov (R.t 3))),
    R.f (R.q 18 (.idx 1 (R.t 17) (R.i 2))),
    R.f (R.q 19 (.load1 (R.t 18))),
    R.f (R.q 20 (.mov (R.t 3))),
    R.f (R.q 21 (.idx 1 (R.t 20) (R.i 3))),
    R.f (R.q 22 (.load1 (R.t 21))),
    R.f (R.q 4 (.alloc (.cons (R.z 0) (.cons (R.z 0) (.cons (R.z 0) (.cons (.str fun _ => []) .nil)))))),
    R.s (R.q 16 (.call 34 [(R.t 15), (.val (.str fun _ => [102, 100, 110, 112, 83, 70, 103]))])) [3, 4, 5, 6, 7, 8, 9],
    R.s (R.q 23 (.call 34 [(R.t 22), (.val (.str fun _ => [114, 119, 97, 120, 100, 68, 116, 84, 110, 78, 99, 67, 111, 121]))])) [3, 4, 5, 9],
    R.f (R.q 24 (.build (.cons (R.z 0) (.cons (R.z 0) (.cons (R.z 0) (.cons (.str fun _ => []) .nil)))) [(0, 1, (R.i 1)), (1, 1, (R.t 16)), (3, 1, (R.t 19)), (2, 1, (R.t 23))])),
    R.s (R.e (.store 4 (R.t 4) (R.t 24))) []])
  (.seq (.seq (.reg [R.q 25 (.mov (R.t 3)),
    R.q 26 (.idx 1 (R.t 25) (R.i 0)),
    R.q 27 (.load1 (R.t 26)),
    R.q 28 (.bin .neq .no (R.t 27) (.val (.str fun _ => [65])))])
  (.cond (R.t 28)
    (.reg [R.q 29 (.fld 0 (R.t 4)),
      R.e (.store 1 (R.t 29) (R.i 2))])
    .skip))
  (.seq (.reg [R.q 30 (.loadA 4 (R.t 4)),
    R.e (.store 4 (R.t 2) (R.t 30))])
  .ret))))))
def wide_part.rs : List RRes := [.cellA 2 4]
theorem wide_part.of {xs : List AV} {d : Nat} {B : BL} {K : ARes → BL → Prop} (hn : xs.length = 1) (hB : onlyOuter B = true) (h : awp ⟨PT, 31, exitX wide_part.rs K⟩ 10000 [.code wide_part.rc] ⟨params 0 xs, B, .nil⟩) : CallAt PT wide_part xs d B K :=
  call_of_awp 10000 Tryd.func19 rfl (by kernel_rfl) (by kernel_rfl) (by kernel_rfl) (by rw [hn]; decide) hB h
abbrev slices_ContainsFunc_api_Wide_api_Wide : Nat := 22
def slices_ContainsFunc_api_Wide_api_Wide.rc : RC :=
  (.seq (.reg [R.q 4 (.mov R.ff)])
  (.seq (.reg [R.q 5 (.mov (R.t 0)),
    R.q 6 (.mov (R.t 1)),
    R.q 7 (.call 29 [(R.t 5), (R.t 6)]),
    R.q 8 (.bin .geq .no (R.t 7) (R.i 0)),
    R.q 4 (.mov (R.t 8))])
  .ret))
def slices_ContainsFunc_api_Wide_api_Wide.rs : List RRes := [.tmp 4]
theorem slices_ContainsFunc_api_Wide_api_Wide.of {xs : List AV} {d : Nat} {B : BL} {K : ARes → BL → Prop} (hn : xs.length = 2) (hB : onlyOuter B = true) (h : awp ⟨PT, 9, exitX slices_ContainsFunc_api_Wide_api_Wide.rs K⟩ 10000 [.code slices_ContainsFunc_api_Wide_api_Wide.rc] ⟨params 0 xs, B, .nil⟩) : CallAt PT slices_ContainsFunc_api_Wide_api_Wide xs d B K :=
  call_of_awp 10000 Tryd.func22 rfl (by kernel_rfl) (by kernel_rfl) (by kernel_rfl) (by rw [hn]; decide) hB h
abbrev wide_May_1 : Nat := 23
def wide_May_1.rc : RC :=
  (.seq (.reg [R.q 1 (.box (R.t 0)),
    R.q 2 (.mov R.ff)])
  (.seq (.reg [R.q 3 (.loadA 4 (R.t 1)),
    R.q 4 (.call 24 [(R.t 3)]),
    R.q 5 (.un .not (R.t 4)),
    R.q 2 (.mov (R.t 5))])
  .ret))
def wide_May_1.rs : List RRes := [.tmp 2]
theorem wide_May_1.of {xs : List AV} {d : Nat} {B : BL} {K : ARes → BL → Prop} (hn : xs.length = 1) (hB : onlyOuter B = true) (h : awp ⟨PT, 6, exitX wide_May_1.rs K⟩ 10000 [.code wide_May_1.rc] ⟨params 0 xs, B, .nil⟩) : CallAt PT wide_May_1 xs d B K :=
  call_of_awp 10000 Tryd.func23 rfl (by kernel_rfl) (by kernel_rfl) (by kernel_rfl) (by rw [hn]; decide) hB h
abbrev wide_may : Nat := 24
def wide_may.rc : RC :=
  (.seq (.reg [R.q 1 (.box (R.t 0)),
    R.q 2 (.mov R.ff)])
  (.seq (.reg [R.q 4 (.fld 3 (R.t 1)),
    R.q 5 (.load1 (R.t 4)),
    R.q 6 (.bin .neq .no (R.t 5) (.val (.str fun _ => []))),
    R.q 7 (.mov (R.t 6)),
    R.g 8 (.fld 3 (R.t 1)) 7 true,
    R.g 9 (.load1 (R.t 8)) 7 true,
    R.g 10 (.lenS (R.t 9)) 7 true,
    R.g 11 (.bin .leq .no (R.t 10) (R.i 255)) 7 true,
    R.q 12 (.pick (R.t 7) (R.t 11) R.ff),
    R.q 13 (.mov (R.t 12)),
    R.g 14 (.fld 3 (R.t 1)) 13 true,
    R.g 15 (.load1 (R.t 14)) 13 true,
    R.g 16 (.call 35 [(R.t 15), (.val (.str fun _ => [0, 58, 44, 10]))]) 13 true,
    R.g 17 (.un .not (R.t 16)) 13 true,
    R.q 18 (.pick (R.t 13) (R.t 17) R.ff),
    R.q 3 (.mov (R.t 18))])
  (.seq (.reg [R.q 19 (.mov (R.t 3)),
    R.q 20 (.mov (R.t 19)),
    R.g 21 (.fld 0 (R.t 1)) 20 true,
    R.g 22 (.load1 (R.t 21)) 20 true,
    R.g 23 (.bin .eql .no (R.t 22) (R.i 1)) 20 true,
    R.g 24 (.mov (R.t 23)) 20 true,
    R.g 25 (.fld 0 (R.t 1)) 24 false,
    R.g 26 (.load1 (R.t 25)) 24 false,
    R.g 27 (.bin .eql .no (R.t 26) (R.i 2)) 24 false,
    R.g 28 (.pick (R.t 24) R.tt (R.t 27)) 20 true,
    R.q 29 (.pick (R.t 20) (R.t 28) R.ff),
    R.q 30 (.mov (R.t 29)),
    R.g 31 (.fld 1 (R.t 1)) 30 true,
    R.g 32 (.load1 (R.t 31)) 30 true,
    R.g 33 (.bin .geq .no (R.t 32) (R.i 0)) 30 true,
    R.q 34 (.pick (R.t 30) (R.t 33) R.ff),
    R.q 35 (.mov (R.t 34)),
    R.g 36 (.fld 1 (R.t 1)) 35 true,
    R.g 37 (.load1 (R.t 36)) 35 true,
    R.g 38 (.bin .lss .no (R.t 37) (R.i 128)) 35 true,
    R.q 39 (.pick (R.t 35) (R.t 38) R.ff),
    R.q 40 (.mov (R.t 39)),
    R.g 41 (.fld 2 (R.t 1)) 40 true,
    R.g 42 (.load1 (R.t 41)) 40 true,
    R.g 43 (.bin .geq .no (R.t 42) (R.i 0)) 40 true,
    R.q 44 (.pick (R.t 40) (R.t 43) R.ff),
    R.q 45 (.mov (R.t 44)),
    R.g 46 (.fld 2 (R.t 1)) 45 true,
    R.g 47 (.load1 (R.t 46)) 45 true,
    R.g 48 (.bin .lss .no (R.t 47) (R.i 16384)) 45 true,
    R.q 49 (.pick (R.t 45) (R.t 48) R.ff),
    R.q 2 (.mov (R.t 49))])
  .ret)))
def wide_may.rs : List RRes := [.tmp 2]
theorem wide_may.of {xs : List AV} {d : Nat} {B : BL} {K : ARes → BL → Prop} (hn : xs.length = 1) (hB : onlyOuter B = true) (h : awp ⟨PT, 50, exitX wide_may.rs K⟩ 10000 [.code wide_may.rc] ⟨params 0 xs, B, .nil⟩) : CallAt PT wide_may xs d B K :=
  call_of_awp 10000 Tryd.func24 rfl (by kernel_rfl) (by kernel_rfl) (by kernel_rfl) (by rw [hn]; decide) hB h
abbrev wide_chosen : Nat := 26
def wide_chosen.rc : RC :=
  (.seq (.reg [R.q 4 (.mov (.val (.str fun _ => [])))])
  (.seq (.reg [R.q 5 (.alloc (.cons .nptr (.cons .nsl .nil)))])
  (.seq (.seq (.reg [R.q 8 (.mov (R.t 1)),
    R.q 9 (.s2b (R.t 8)),
    R.q 10 (.len (R.t 9)),
    R.q 11 (.mov (R.i 0))])
  (.block 0 (.loop
     (.seq (.reg [R.q 12 (.bin .lss .no (R.t 11) (R.t 10))])
     (.seq (.cond (R.t 12)
       .skip
       (.exit 0))
     (.seq (.block 1 (.seq (.reg [R.q 13 (.mov (R.t 11)),
        R.q 14 (.idx 1 (R.t 9) (R.t 11)),
        R.q 15 (.load1 (R.t 14)),
        R.q 6 (.mov (R.t 13)),
        R.q 7 (.mov (R.t 15))])
      (.seq (.reg [R.q 16 (.mov (R.t 0)),
        R.q 17 (.mov (R.t 6)),
        R.q 18 (.bin .shr .no (R.t 16) (R.t 17)),
        R.q 19 (.bin .and .no (R.t 18) (R.i 1)),
        R.q 20 (.bin .gtr .no (R.t 19) (R.i 0))])
      (.cond (R.t 20)
        (.reg [R.q 21 (.mov (R.t 7)),
          R.q 22 (.call 36 [(R.t 5), (R.t 21)])])
        .skip))))
     (.reg [R.q 23 (.bin .add .no (R.t 11) (R.i 1)),
       R.q 11 (.mov (R.t 23))])))))))
  (.seq (.reg [R.q 24 (.call 37 [(R.t 5)]),
    R.q 4 (.mov (R.t 24))])
  .ret))))
def wide_chosen.rs : List RRes := [.tmp 4]
theorem wide_chosen.of {xs : List AV} {d : Nat} {B : BL} {K : ARes → BL → Prop} (hn : xs.length = 2) (hB : onlyOuter B = true) (h : awp ⟨PT, 25, exitX wide_chosen.rs K⟩ 10000 [.code wide_chosen.rc] ⟨params 0 xs, B, .nil⟩) : CallAt PT wide_chosen xs d B K :=
  call_of_awp 10000 Tryd.func26 rfl (by kernel_rfl) (by kernel_rfl) (by kernel_rfl) (by rw [hn]; decide) hB h
abbrev strings_Join : Nat := 27
def strings_Join.rc : RC :=
  (.seq (.reg [R.q 4 (.mov (.val (.str fun _ => [])))])
  (.seq (.seq (.reg [R.q 11 (.mov (R.t 0)),
    R.q 12 (.len (R.t 11))])
  (.block 0 (.seq (.reg [R.q 14 (.bin .eql .no (R.t 12) (R.i 0)),
     R.q 13 (.mov (R.t 14))])
   (.cond (R.t 13)
     (.seq (.reg [R.q 4 (.mov (.val (.str fun _ => [])))])
     .ret)
     (.seq (.reg [R.q 16 (.bin .eql .no (R.t 12) (R.i 1)),
       R.q 15 (.mov (R.t 16))])
     (.cond (R.t 15)
       (.seq (.reg [R.q 17 (.mov (R.t 0)),
         R.q 18 (.idx 1 (R.t 17) (R.i 0)),
         R.q 19 (.load1 (R.t 18)),
         R.q 4 (.mov (R.t 19))])
       .ret)
       .skip))))))
  (.seq (.reg [R.q 5 (.mov (R.i 0))])
  (.seq (.seq (.reg [R.q 20 (.mov (R.t 1)),
    R.q 21 (.lenS (R.t 20)),
    R.q 22 (.bin .gtr .no (R.t 21) (R.i 0))])
  (.cond (R.t 22)
    (.seq (.seq (.reg [R.q 23 (.mov (R.t 1)),
      R.q 24 (.lenS (R.t 23)),
      R.q 25 (.mov (R.t 0)),
      R.q 26 (.len (R.t 25)),
      R.q 27 (.bin .sub .no (R.t 26) (R.i 1)),
      R.q 28 (.bin .quo .no (R.i 9223372036854775807) (R.t 27)),
      R.q 29 (.bin .geq .no (R.t 24) (R.t 28))])
    (.cond (R.t 29)
      (.reg [R.q 30 (.mkif 9 (.val (.str fun _ => [115, 116, 114, 105, 110, 103, 115, 58, 32, 74, 111, 105, 110, 32, 111, 117, 116, 112, 117, 116, 32, 108, 101, 110, 103, 116, 104, 32, 111, 118, 101, 114, 102, 108, 111, 119]))),
        R.e (.panic (R.t 30))])
      .skip))
    (.reg [R.q 31 (.mov (R.t 5)),
      R.q 32 (.mov (R.t 1)),
      R.q 33 (.lenS (R.t 32)),
      R.q 34 (.mov (R.t 0)),
      R.q 35 (.len (R.t 34)),
      R.q 36 (.bin .sub .no (R.t 35) (R.i 1)),
      R.q 37 (.bin .mul .no (R.t 33) (R.t 36)),
      R.q 38 (.bin .add .no (R.t 31) (R.t 37)),
      R.q 5 (.mov (R.t 38))]))
    .skip))
  (.seq (.seq (.reg [R.q 39 (.mov (R.t 0)),
    R.q 40 (.len (R.t 39)),
    R.q 41 (.mov (R.i 0))])
  (.block 1 (.loop
     (.seq (.reg [R.q 42 (.bin .lss .no (R.t 41) (R.t 40))])
     (.seq (.cond (R.t 42)
       .skip
       (.exit 1))
     (.seq (.block 2 (.seq (.reg [R.q 43 (.idx 1 (R.t 39) (R.t 41)),
        R.q 44 (.load1 (R.t 43)),
        R.q 7 (.mov (R.t 44))])
      (.seq (.seq (.reg [R.q 45 (.mov (R.t 7)),
        R.q 46 (.lenS (R.t 45)),
        R.q 47 (.mov (R.t 5)),
        R.q 48 (.bin .sub .no (R.i 9223372036854775807) (R.t 47)),
        R.q 49 (.bin .gtr .no (R.t 46) (R.t 48))])
      (.cond (R.t 49)
        (.reg [R.q 50 (.mkif 9 (.val (.str fun _ => [115, 116, 114, 105, 110, 103, 115, 58, 32, 74, 111, 105, 110, 32, 111, 117, 116, 112, 117, 116, 32, 108, 101, 110, 103, 116, 104, 32, 111, 118, 101, 114, 102, 108, 111, 119]))),
          R.e (.panic (R.t 50))])
        .skip))
      (.reg [R.q 51 (.mov (R.t 5)),
        R.q 52 (.mov (R.t 7)),
        R.q 53 (.lenS (R.t 52)),
        R.q 54 (.bin .add .no (R.t 51) (R.t 53)),
        R.q 5 (.mov (R.t 54))]))))
     (.reg [R.q 55 (.bin .add .no (R.t 41) (R.i 1)),
       R.q 41 (.mov (R.t 55))])))))))
  (.seq (.reg [R.q 8 (.alloc (.cons .nptr (.cons .nsl .nil)))])
  (.seq (.reg [R.q 56 (.mov (R.t 5)),
    R.q 57 (.call 38 [(R.t 8), (R.t 56)])])
  (.seq (.reg [R.q 58 (.mov (R.t 0)),
    R.q 59 (.idx 1 (R.t 58) (R.i 0)),
    R.q 60 (.load1 (R.t 59)),
    R.q 61 (.call 39 [(R.t 8), (R.t 60)])])
  (.seq (.seq (.reg [R.q 62 (.mov (R.t 0)),
    R.q 63 (.slice 1 (R.t 62) (some (R.i 1)) none),
    R.q 64 (.len (R.t 63)),
    R.q 65 (.mov (R.i 0))])
  (.block 3 (.loop
     (.seq (.reg [R.q 66 (.bin .lss .no (R.t 65) (R.t 64))])
     (.seq (.cond (R.t 66)
       .skip
       (.exit 3))
     (.seq (.block 4 (.seq (.reg [R.q 67 (.idx 1 (R.t 63) (R.t 65)),
        R.q 68 (.load1 (R.t 67)),
        R.q 10 (.mov (R.t 68))])
      (.seq (.reg [R.q 69 (.mov (R.t 1)),
        R.q 70 (.call 39 [(R.t 8), (R.t 69)])])
      (.reg [R.q 71 (.mov (R.t 10)),
        R.q 72 (.call 39 [(R.t 8), (R.t 71)])]))))
     (.reg [R.q 73 (.bin .add .no (R.t 65) (R.i 1)),
       R.q 65 (.mov (R.t 73))])))))))
  (.seq (.reg [R.q 74 (.call 37 [(R.t 8)]),
    R.q 4 (.mov (R.t 74))])
  .ret))))))))))
def strings_Join.rs : List RRes := [.tmp 4]
theorem strings_Join.of {xs : List AV} {d : Nat} {B : BL} {K : ARes → BL → Prop} (hn : xs.length = 2) (hB : onlyOuter B = true) (h : awp ⟨PT, 75, exitX strings_Join.rs K⟩ 10000 [.code strings_Join.rc] ⟨params 0 xs, B, .nil⟩) : CallAt PT strings_Join xs d B K :=
  call_of_awp 10000 Tryd.func27 rfl (by kernel_rfl) (by kernel_rfl) (by kernel_rfl) (by rw [hn]; decide) hB h
abbrev slices_IndexFunc_api_Wide_api_Wide : Nat := 29
def slices_IndexFunc_api_Wide_api_Wide.rc : RC :=
  (.seq (.reg [R.q 4 (.mov (R.i 0))])
  (.seq (.seq (.reg [R.q 6 (.mov (R.t 0)),
    R.q 7 (.len (R.t 6)),
    R.q 8 (.mov (R.i 0))])
  (.block 0 (.loop
     (.seq (.reg [R.q 9 (.bin .lss .no (R.t 8) (R.t 7))])
     (.seq (.cond (R.t 9)
       .skip
       (.exit 0))
     (.seq (.block 1 (.seq (.reg [R.q 10 (.mov (R.t 8)),
        R.q 5 (.mov (R.t 10))])
      (.seq (.reg [R.q 11 (.mov (R.t 1)),
        R.q 12 (.mov (R.t 0)),
        R.q 13 (.mov (R.t 5)),
        R.q 14 (.idx 4 (R.t 12) (R.t 13)),
        R.q 15 (.loadA 4 (R.t 14)),
        R.q 16 (.callv (R.t 11) [(R.t 15)])])
      (.cond (R.t 16)
        (.seq (.reg [R.q 17 (.mov (R.t 5)),
          R.q 4 (.mov (R.t 17))])
        .ret)
        .skip))))
     (.reg [R.q 18 (.bin .add .no (R.t 8) (R.i 1)),
       R.q 8 (.mov (R.t 18))])))))))
  (.seq (.reg [R.q 4 (.mov (R.i (-1)))])
  .ret)))
def slices_IndexFunc_api_Wide_api_Wide.rs : List RRes := [.tmp 4]
theorem slices_IndexFunc_api_Wide_api_Wide.of {xs : List AV} {d : Nat} {B : BL} {K : ARes → BL → Prop} (hn : xs.length = 2) (hB : onlyOuter B = true) (h : awp ⟨PT, 19, exitX slices_IndexFunc_api_Wide_api_Wide.rs K⟩ 10000 [.code slices_IndexFunc_api_Wide_api_Wide.rc] ⟨params 0 xs, B, .nil⟩) : CallAt PT slices_IndexFunc_api_Wide_api_Wide xs d B K :=
  call_of_awp 10000 Tryd.func29 rfl (by kernel_rfl) (by kernel_rfl) (by kernel_rfl) (by rw [hn]; decide) hB h
abbrev wide_Allows_1 : Nat := 30
def wide_Allows_1.rc : RC :=
  (.seq (.reg [R.q 3 (.box (R.t 0)),
    R.q 4 (.mov R.ff)])
  (.seq (.reg [R.q 5 (.fld 2 (R.t 3)),
    R.q 6 (.load1 (R.t 5)),
    R.q 7 (.load1 (R.t 1)),
    R.q 8 (.bin .shr .no (R.t 6) (R.t 7)),
    R.q 9 (.bin .and .no (R.t 8) (R.i 1)),
    R.q 10 (.bin .gtr .no (R.t 9) (R.i 0)),
    R.q 11 (.mov (R.t 10)),
    R.g 12 (.load1 (R.t 2)) 11 true,
    R.g 13 (.fld 3 (R.t 3)) 11 true,
    R.g 14 (.load1 (R.t 13)) 11 true,
    R.g 15 (.call 31 [(R.t 12), (R.t 14)]) 11 true,
    R.q 16 (.pick (R.t 11) (R.t 15) R.ff),
    R.q 4 (.mov (R.t 16))])
  .ret))
def wide_Allows_1.rs : List RRes := [.tmp 4]
theorem wide_Allows_1.of {xs : List AV} {d : Nat} {B : BL} {K : ARes → BL → Prop} (hn : xs.length = 3) (hB : onlyOuter B = true) (h : awp ⟨PT, 17, exitX wide_Allows_1.rs K⟩ 10000 [.code wide_Allows_1.rc] ⟨params 0 xs, B, .nil⟩) : CallAt PT wide_Allows_1 xs d B K :=
  call_of_awp 10000 Tryd.func30 rfl (by kernel_rfl) (by kernel_rfl) (by kernel_rfl) (by rw [hn]; decide) hB h
abbrev slices_Contains_string_string : Nat := 31
def slices_Contains_string_string.rc : RC :=
  (.seq (.reg [R.q 4 (.mov R.ff)])
  (.seq (.reg [R.q 5 (.mov (R.t 0)),
    R.q 6 (.mov (R.t 1)),
    R.q 7 (.call 40 [(R.t 5), (R.t 6)]),
    R.q 8 (.bin .geq .no (R.t 7) (R.i 0)),
    R.q 4 (.mov (R.t 8))])
  .ret))
def slices_Contains_string_string.rs : List RRes := [.tmp 4]
theorem slices_Contains_string_string.of {xs : List AV} {d : Nat} {B : BL} {K : ARes → BL → Prop} (hn : xs.length = 2) (hB : onlyOuter B = true) (h : awp ⟨PT, 9, exitX slices_Contains_string_string.rs K⟩ 10000 [.code slices_Contains_string_string.rc] ⟨params 0 xs, B, .nil⟩) : CallAt PT slices_Contains_string_string xs d B K :=
  call_of_awp 10000 Tryd.func31 rfl (by kernel_rfl) (by kernel_rfl) (by kernel_rfl) (by rw [hn]; decide) hB h
abbrev r1_Digits : Nat := 32
def r1_Digits.rc : RC :=
  (.seq (.reg [R.q 2 (.mov (.val (.str fun _ => [])))])
  (.seq (.reg [R.q 3 (.mov (.val (.str fun _ => [])))])
  (.seq (.block 0 (.loop
     (.seq (.seq (.reg [R.q 4 (.mov (R.t 0)),
       R.q 5 (.bin .geq .no (R.t 4) (R.i 10))])
     (.cond (R.t 5)
       .skip
       (.exit 0)))
     (.block 1 (.seq (.reg [R.q 6 (.mov (R.t 0)),
        R.q 7 (.bin .rem .no (R.t 6) (R.i 10)),
        R.q 8 (.bin .add .no (R.i 48) (R.t 7)),
        R.q 9 (.conv .u8 (R.t 8)),
        R.q 10 (.bslice 1 (.cons (.int .u8 fun _ => 0) .nil) 1 [(0, 1, (R.t 9))]),
        R.q 11 (.b2s (R.t 10)),
        R.q 12 (.mov (R.t 3)),
        R.q 13 (.bin .add .no (R.t 11) (R.t 12)),
        R.q 3 (.mov (R.t 13))])
      (.reg [R.q 14 (.mov (R.t 0)),
        R.q 15 (.bin .quo .no (R.t 14) (R.i 10)),
        R.q 0 (.mov (R.t 15))]))))))
  (.seq (.reg [R.q 16 (.mov (R.t 0)),
    R.q 17 (.bin .add .no (R.i 48) (R.t 16)),
    R.q 18 (.conv .u8 (R.t 17)),
    R.q 19 (.bslice 1 (.cons (.int .u8 fun _ => 0) .nil) 1 [(0, 1, (R.t 18))]),
    R.q 20 (.b2s (R.t 19)),
    R.q 21 (.mov (R.t 3)),
    R.q 22 (.bin .add .no (R.t 20) (R.t 21)),
    R.q 2 (.mov (R.t 22))])
  .ret))))
def r1_Digits.rs : List RRes := [.tmp 2]
theorem r1_Digits.of {xs : List AV} {d : Nat} {B : BL} {K : ARes → BL → Prop} (hn : xs.length = 1) (hB : onlyOuter B = true) (h : awp ⟨PT, 23, exitX r1_Digits.rs K⟩ 10000 [.code r1_Digits.rc] ⟨params 0 xs, B, .nil⟩) : CallAt PT r1_Digits xs d B K :=
  call_of_awp 10000 Tryd.func32 rfl (by kernel_rfl) (by kernel_rfl) (by kernel_rfl) (by rw [hn]; decide) hB h
abbrev strings_genSplit : Nat := 33
def strings_genSplit.rc : RC :=
  (.seq (.reg [R.q 8 (.mov (.val .nsl))])
  (.seq (.seq (.reg [R.q 12 (.mov (R.t 3)),
    R.q 13 (.bin .eql .no (R.t 12) (R.i 0))])
  (.cond (R.t 13)
    (.seq (.reg [R.q 8 (.mov (.val .nsl))])
    .ret)
    .skip))
  (.seq (.seq (.reg [R.q 14 (.mov (R.t 1)),
    R.q 15 (.bin .eql .no (R.t 14) (.val (.str fun _ => [])))])
  (.cond (R.t 15)
    (.seq (.reg [R.q 16 (.mov (R.t 0)),
      R.q 17 (.mov (R.t 3)),
      R.q 18 (.call 41 [(R.t 16), (R.t 17)]),
      R.q 8 (.mov (R.t 18))])
    .ret)
    .skip))
  (.seq (.seq (.reg [R.q 19 (.mov (R.t 3)),
    R.q 20 (.bin .lss .no (R.t 19) (R.i 0))])
  (.cond (R.t 20)
    (.reg [R.q 21 (.mov (R.t 0)),
      R.q 22 (.mov (R.t 1)),
      R.q 23 (.call 42 [(R.t 21), (R.t 22)]),
      R.q 24 (.bin .add .no (R.t 23) (R.i 1)),
      R.q 3 (.mov (R.t 24))])
    .skip))
  (.seq (.reg [R.q 25 (.mov (R.t 3)),
    R.q 26 (.mov (R.t 0)),
    R.q 27 (.lenS (R.t 26)),
    R.q 28 (.bin .add .no (R.t 27) (R.i 1)),
    R.q 29 (.mm false [(R.t 25), (R.t 28)]),
    R.q 3 (.mov (R.t 29))])
  (.seq (.reg [R.q 30 (.mov (R.t 3)),
    R.q 31 (.mks 1 16 (.cons (.str fun _ => []) .nil) (R.t 30) (R.t 30)),
    R.q 9 (.mov (R.t 31))])
  (.seq (.reg [R.q 32 (.mov (R.t 3)),
    R.q 33 (.bin .sub .no (R.t 32) (R.i 1)),
    R.q 3 (.mov (R.t 33))])
  (.seq (.reg [R.q 10 (.mov (R.i 0))])
  (.seq (.block 0 (.loop
     (.seq (.seq (.reg [R.q 34 (.mov (R.t 10)),
       R.q 35 (.mov (R.t 3)),
       R.q 36 (.bin .lss .no (R.t 34) (R.t 35))])
     (.cond (R.t 36)
       .skip
       (.exit 0)))
     (.block 1 (.seq (.reg [R.q 37 (.mov (R.t 0)),
        R.q 38 (.mov (R.t 1)),
        R.q 39 (.call 43 [(R.t 37), (R.t 38)]),
        R.q 11 (.mov (R.t 39))])
      (.seq (.seq (.reg [R.q 40 (.mov (R.t 11)),
        R.q 41 (.bin .lss .no (R.t 40) (R.i 0))])
      (.cond (R.t 41)
        (.exit 0)
        .skip))
      (.seq (.reg [R.q 42 (.mov (R.t 9)),
        R.q 43 (.mov (R.t 10)),
        R.q 44 (.mov (R.t 0)),
        R.q 45 (.mov (R.t 11)),
        R.q 46 (.mov (R.t 2)),
        R.q 47 (.bin .add .no (R.t 45) (R.t 46)),
        R.q 48 (.sliceS (R.t 44) none (some (R.t 47))),
        R.q 49 (.idx 1 (R.t 42) (R.t 43)),
        R.e (.store 1 (R.t 49) (R.t 48))])
      (.seq (.reg [R.q 50 (.mov (R.t 0)),
        R.q 51 (.mov (R.t 11)),
        R.q 52 (.mov (R.t 1)),
        R.q 53 (.lenS (R.t 52)),
        R.q 54 (.bin .add .no (R.t 51) (R.t 53)),
        R.q 55 (.sliceS (R.t 50) (some (R.t 54)) none),
        R.q 0 (.mov (R.t 55))])
      (.reg [R.q 56 (.mov (R.t 10)),
        R.q 57 (.bin .add .no (R.t 56) (R.i 1)),
        R.q 10 (.mov (R.t 57))])))))))))
  (.seq (.reg [R.q 58 (.mov (R.t 9)),
    R.q 59 (.mov (R.t 10)),
    R.q 60 (.mov (R.t 0)),
    R.q 61 (.idx 1 (R.t 58) (R.t 59)),
    R.e (.store 1 (R.t 61) (R.t 60))])
  (.seq (.reg [R.q 62 (.mov (R.t 9)),
    R.q 63 (.mov (R.t 10)),
    R.q 64 (.bin .add .no (R.t 63) (R.i 1)),
    R.q 65 (.slice 1 (R.t 62) none (some (R.t 64))),
    R.q 8 (.mov (R.t 65))])
  .ret)))))))))))
def strings_genSplit.rs : List RRes := [.tmp 8]
theorem strings_genSplit.of {xs : List AV} {d : Nat} {B : BL} {K : ARes → BL → Prop} (hn : xs.length = 4) (hB : onlyOuter B = true) (h : awp ⟨PT, 66, exitX strings_genSplit.rs K⟩ 10000 [.code strings_genSplit.rc] ⟨params 0 xs, B, .nil⟩) : CallAt PT strings_genSplit xs d B K :=
  call_of_awp 10000 Tryd.func33 rfl (by kernel_rfl) (by kernel_rfl) (by kernel_rfl) (by rw [hn]; decide) hB h
abbrev wide_bits : Nat := 34
def wide_bits.rc : RC :=
  (.seq (.reg [R.q 4 (.mov (R.i 0))])
  (.seq (.reg [R.q 5 (.mov (R.i 0))])
  (.seq (.seq (.reg [R.q 9 (.mov (R.t 0)),
    R.q 10 (.s2b (R.t 9)),
    R.q 11 (.len (R.t 10)),
    R.q 12 (.mov (R.i 0))])
  (.block 0 (.loop
     (.seq (.reg [R.q 13 (.bin .lss .no (R.t 12) (R.t 11))])
     (.seq (.cond (R.t 13)
       .skip
       (.exit 0))
     (.seq (.block 1 (.seq (.reg [R.q 14 (.idx 1 (R.t 10) (R.t 12)),
        R.q 15 (.load1 (R.t 14)),
        R.q 7 (.mov (R.t 15))])
      (.seq (.reg [R.q 16 (.mov (R.t 1)),
        R.q 17 (.mov (R.t 7)),
        R.q 18 (.call 44 [(R.t 16), (R.t 17)]),
        R.q 8 (.mov (R.t 18))])
      (.seq (.seq (.reg [R.q 19 (.mov (R.t 8)),
        R.q 20 (.bin .lss .no (R.t 19) (R.i 0))])
      (.cond (R.t 20)
        (.reg [R.q 21 (.mov (R.t 0)),
          R.q 22 (.build (.cons (.str fun _ => []) .nil) [(0, 1, (R.t 21))]),
          R.q 23 (.mkif 44 (R.t 22)),
          R.e (.panic (R.t 23))])
        .skip))
      (.reg [R.q 24 (.mov (R.t 5)),
        R.q 25 (.mov (R.t 8)),
        R.q 26 (.bin .shl .no (R.i 1) (R.t 25)),
        R.q 27 (.bin .or .no (R.t 24) (R.t 26)),
        R.q 5 (.mov (R.t 27))])))))
     (.reg [R.q 28 (.bin .add .no (R.t 12) (R.i 1)),
       R.q 12 (.mov (R.t 28))])))))))
  (.seq (.reg [R.q 29 (.mov (R.t 5)),
    R.q 4 (.mov (R.t 29))])
  .ret))))
def wide_bits.rs : List RRes := [.tmp 4]
theorem wide_bits.of {xs : List AV} {d : Nat} {B : BL} {K : ARes → BL → Prop} (hn : xs.length = 2) (hB : onlyOuter B = true) (h : awp ⟨PT, 30, exitX wide_bits.rs K⟩ 10000 [.code wide_bits.rc] ⟨params 0 xs, B, .nil⟩) : CallAt PT wide_bits xs d B K :=
  call_of_awp 10000 Tryd.func34 rfl (by kernel_rfl) (by kernel_rfl) (by kernel_rfl) (by rw [hn]; decide) hB h
abbrev strings_ContainsAny : Nat := 35
def strings_ContainsAny.rc : RC :=
  (.seq (.reg [R.q 4 (.mov R.ff)])
  (.seq (.reg [R.q 5 (.mov (R.t 0)),
    R.q 6 (.mov (R.t 1)),
    R.q 7 (.call 45 [(R.t 5), (R.t 6)]),
    R.q 8 (.bin .geq .no (R.t 7) (R.i 0)),
    R.q 4 (.mov (R.t 8))])
  .ret))
def strings_ContainsAny.rs : List RRes := [.tmp 4]
theorem strings_ContainsAny.of {xs : List AV} {d : Nat} {B : BL} {K : ARes → BL → Prop} (hn : xs.length = 2) (hB : onlyOuter B = true) (h : awp ⟨PT, 9, exitX strings_ContainsAny.rs K⟩ 10000 [.code strings_ContainsAny.rc] ⟨params 0 xs, B, .nil⟩) : CallAt PT strings_ContainsAny xs d B K :=
  call_of_awp 10000 Tryd.func35 rfl (by kernel_rfl) (by kernel_rfl) (by kernel_rfl) (by rw [hn]; decide) hB h
abbrev slices_Index_string_string : Nat := 40
def slices_Index_string_string.rc : RC :=
  (.seq (.reg [R.q 4 (.mov (R.i 0))])
  (.seq (.seq (.reg [R.q 6 (.mov (R.t 0)),
    R.q 7 (.len (R.t 6)),
    R.q 8 (.mov (R.i 0))])
  (.block 0 (.loop
     (.seq (.reg [R.q 9 (.bin .lss .no (R.t 8) (R.t 7))])
     (.seq (.cond (R.t 9)
       .skip
       (.exit 0))
     (.seq (.block 1 (.seq (.reg [R.q 10 (.mov (R.t 8)),
        R.q 5 (.mov (R.t 10))])
      (.seq (.reg [R.q 11 (.mov (R.t 1)),
        R.q 12 (.mov (R.t 0)),
        R.q 13 (.mov (R.t 5)),
        R.q 14 (.idx 1 (R.t 12) (R.t 13)),
        R.q 15 (.load1 (R.t 14)),
        R.q 16 (.bin .eql .no (R.t 11) (R.t 15))])
      (.cond (R.t 16)
        (.seq (.reg [R.q 17 (.mov (R.t 5)),
          R.q 4 (.mov (R.t 17))])
        .ret)
        .skip))))
     (.reg [R.q 18 (.bin .add .no (R.t 8) (R.i 1)),
       R.q 8 (.mov (R.t 18))])))))))
  (.seq (.reg [R.q 4 (.mov (R.i (-1)))])
  .ret)))
def slices_Index_string_string.rs : List RRes := [.tmp 4]
theorem slices_Index_string_string.of {xs : List AV} {d : Nat} {B : BL} {K : ARes → BL → Prop} (hn : xs.length = 2) (hB : onlyOuter B = true) (h : awp ⟨PT, 19, exitX slices_Index_string_string.rs K⟩ 10000 [.code slices_Index_string_string.rc] ⟨params 0 xs, B, .nil⟩) : CallAt PT slices_Index_string_string xs d B K :=
  call_of_awp 10000 Tryd.func40 rfl (by kernel_rfl) (by kernel_rfl) (by kernel_rfl) (by rw [hn]; decide) hB h
abbrev strings_Index : Nat := 43
def strings_Index.rc : RC :=
  (.seq (.reg [R.q 4 (.mov (R.i 0))])
  (.seq (.reg [R.q 5 (.mov (R.t 0)),
    R.q 6 (.mov (R.t 1)),
    R.q 7 (.call 51 [(R.t 5), (R.t 6)]),
    R.q 4 (.mov (R.t 7))])
  .ret))
def strings_Index.rs : List RRes := [.tmp 4]
theorem strings_Index.of {xs : List AV} {d : Nat} {B : BL} {K : ARes → BL → Prop} (hn : xs.length = 2) (hB : onlyOuter B = true) (h : awp ⟨PT, 8, exitX strings_Index.rs K⟩ 10000 [.code strings_Index.rc] ⟨params 0 xs, B, .nil⟩) : CallAt PT strings_Index xs d B K :=
  call_of_awp 10000 Tryd.func43 rfl (by kernel_rfl) (by kernel_rfl) (by kernel_rfl) (by rw [hn]; decide) hB h
end F
end Go.Proofs.YtjjddmbnfkmfdaaDoor
/- Functions of package strings at a separator of one byte: walked by the kit's laws. -/
namespace Go.Proofs.YtjjddmbnfkmfdaaDoor
open Go Go.RowKit
set_option linter.unusedVariables false
set_option linter.unusedSimpArgs false
set_option maxHeartbeats 1000000 in
set_option maxRecDepth 100000 in
theorem indexByte_calls (s : ByteArray) (c : Int) (w : World) :
    Calls Tryd.prog 52 #[.string s, .int .u8 c] w fun e w' => e = .returned (.int .i64 (Lib.indexByte s.data.toList c.toNat.toUInt8)) ∧ w' = w := by
  go_enter Tryd.func52, Tryd.ntmps52
  go_wp2
  rw [run_callFunc_extern Tryd.func63 (by kernel_rfl) (by kernel_rfl) (by kernel_rfl) (e := Extern.BytealgIndexByte.indexByte) (by kernel_rfl), Lib.run_indexByteString]
  simp only [Result.andThen]
  rw [Oper.upon_value]
  go_wp2
  go_ret
  exact ⟨rfl, rfl⟩
set_option maxHeartbeats 2000000 in
set_option maxRecDepth 100000 in
theorem index1_calls (s : ByteArray) (c : UInt8) (w : World) :
    Calls Tryd.prog 51 #[.string s, .string ⟨#[c]⟩] w fun e w' => e = .returned (.int .i64 (Lib.indexByte s.data.toList c)) ∧ w' = w := by
  go_enter Tryd.func51, Tryd.ntmps51
  go_wp2_with (go_at_call 52; refine (indexByte_calls _ _ _).mono ?_; rintro e w' ⟨rfl, rfl⟩)
  · have h : ([c] == s.toList) = true := by assumption
    go_ret
    refine ⟨?_, rfl⟩
    have e : s.data.toList = [c] := by rw [← Lib.toList_data]; exact (beq_iff_eq.1 h).symm
    rw [e]
    simp [Lib.indexByte]
  · go_ret
    exact ⟨rfl, rfl⟩
set_option maxHeartbeats 1000000 in
set_option maxRecDepth 100000 in
theorem count1_calls (s : ByteArray) (c : UInt8) (w : World) :
    Calls Tryd.prog 42 #[.string s, .string ⟨#[c]⟩] w fun e w' => e = .returned (.int .i64 (Lib.countByte s.data.toList c)) ∧ w' = w := by
  go_enter Tryd.func42, Tryd.ntmps42
  go_wp2
  rw [run_callFunc_extern Tryd.func50 (by kernel_rfl) (by kernel_rfl) (by kernel_rfl) (e := Extern.BytealgCount.count) (by kernel_rfl), Lib.run_countString]
  simp only [Result.andThen]
  rw [Oper.upon_value]
  go_wp2
  go_ret
  exact ⟨rfl, rfl⟩
open Go.Proofs.YtjjddmbnfkmfdaaDoor.Sx F
/-- A call of two strings that hands back what names nothing. -/
theorem two_strs {f : Nat} (hf : callable (PT .o) f = true) (s : Th (List UInt8)) (p : List UInt8) (r : ARes) (hr : r.flat = true) (post : Ending → Prop)
    (h : ∀ w, Calls (PT .o) f #[.string ⟨(s .o).toArray⟩, .string ⟨p.toArray⟩] w fun e w' => post e ∧ w' = w) (hp : ∀ (E : Env) e, post e → Sx.Ends E r e) {d : Nat} {K : ARes → BL → Prop} (hK : K r .nil) :
    CallAt PT f [.str s, .str fun _ => p] d .nil K := by
  refine CallAt.of_below hf fun E vs hb hv => ?_
  obtain ⟨v1, r1, rfl, h1, v2, r2, rfl, h2, rfl⟩ : ∃ v1 r1, vs = v1 :: r1 ∧ Rp E (.str s) v1 ∧ ∃ v2 r2, r1 = v2 :: r2 ∧ Rp E (.str fun _ => p) v2 ∧ r2 = [] := hv
  obtain rfl : v1 = .string ⟨(s .o).toArray⟩ := h1
  obtain rfl : v2 = .string ⟨p.toArray⟩ := h2
  refine (h E.w).mono ?_
  rintro e w' ⟨he, rfl⟩
  exact ⟨r, hr, hp E e he, hK, Below.refl _ _⟩
theorem index1_c (s : Th (List UInt8)) (c : UInt8) {d : Nat} {K : ARes → BL → Prop} (hr : ∀ n : Th Int, n .o = Lib.indexByte (s .o) c → K (.ret (.int .i64 n)) .nil) : CallAt PT 51 [.str s, .str fun _ => [c]] d .nil K :=
  two_strs (by kernel_rfl) s [c] (.ret (.int .i64 fun _ => Lib.indexByte (s .o) c)) rfl (fun e => e = .returned (.int .i64 (Lib.indexByte (s .o) c))) (fun w => index1_calls _ c w) (fun E e he => by subst he; rfl) (hr _ rfl)
theorem count1_c (s : Th (List UInt8)) (c : UInt8) {d : Nat} {K : ARes → BL → Prop} (hr : ∀ n : Th Int, n .o = zi ((s .o).count c) → K (.ret (.int .i64 n)) .nil) : CallAt PT 42 [.str s, .str fun _ => [c]] d .nil K :=
  two_strs (by kernel_rfl) s [c] (.ret (.int .i64 fun _ => zi ((s .o).count c))) rfl (fun e => e = .returned (.int .i64 (zi ((s .o).count c)))) (fun w => count1_calls _ c w) (fun E e he => by subst he; rfl) (hr _ rfl)
theorem strIndex1_c (s : Th (List UInt8)) (c : UInt8) {d : Nat} {K : ARes → BL → Prop} (hr : ∀ n : Th Int, n .o = Lib.indexByte (s .o) c → K (.ret (.int .i64 n)) .nil) : CallAt PT strings_Index [.str s, .str fun _ => [c]] d .nil K := by
  refine strings_Index.of rfl rfl ?_
  cbv
  refine index1_c s c fun n hn => ?_
  cbv
  exact hr _ hn
theorem index_neg {l : List UInt8} {c : UInt8} : 0 ≤ Lib.indexByte l c ↔ c ∈ l := by
  induction l with
  | nil => simp [Lib.indexByte]
  | cons b l ih =>
    have hg := Lib.indexByte_ge l c
    unfold Lib.indexByte
    by_cases h : b = c
    · simp [h]
    · have h' : (b == c) = false := by simpa using h
      rw [h']
      simp only [Bool.false_eq_true, if_false, List.mem_cons]
      split
      · rename_i h2
        have h2 : Lib.indexByte l c = -1 := by simpa using h2
        constructor
        · intro q; omega
        · rintro (q | q)
          · exact absurd q.symm h
          · have := ih.2 q; omega
      · rename_i h2
        have h2 : Lib.indexByte l c ≠ -1 := by simpa using h2
        constructor
        · intro q; exact .inr (ih.1 (by omega))
        · intro _; omega
end Go.Proofs.YtjjddmbnfkmfdaaDoor
/- strings.ContainsAny of the signs that no name of a wide list holds: at the machine's level, by the kit's walk; then as a contract. -/
namespace Go.Proofs.YtjjddmbnfkmfdaaDoor
open Go Go.RowKit Go.Shelf
set_option linter.unusedVariables false
set_option linter.unusedSimpArgs false
def oddL : List UInt8 := [0, 58, 44, 10]
theorem odd_ascii : ∀ b ∈ (⟨#[0, 58, 44, 10]⟩ : ByteArray).data.toList, b.toNat < 128 := by decide
theorem validRune_m (r : Int) (w : World) : Calls Tryd.prog 64 #[.int .i32 r] w fun e w' => e = .returned (.bool (validRune r)) ∧ w' = w := by
  go_enter Tryd.func64, Tryd.ntmps64
  go_wp2
  all_goals go_ret
  all_goals refine ⟨?_, rfl⟩
  all_goals first
    | (show Ending.returned (Value.bool true) = Ending.returned (Value.bool (validRune r)); rw [validRune, decide_eq_true (by omega)]; done)
    | (show Ending.returned (Value.bool false) = Ending.returned (Value.bool (validRune r)); rw [validRune, decide_eq_false (by omega)]; done)
set_option maxRecDepth 100000 in
theorem sIndexByte_m (s : ByteArray) (c : Int) (w : World) :
    Calls Tryd.prog 44 #[.string s, .int .u8 c] w fun e w' => e = .returned (.int .i64 (Lib.indexByte s.data.toList c.toNat.toUInt8)) ∧ w' = w := by
  go_enter Tryd.func44, Tryd.ntmps44
  go_wp2_with (go_at_call 52; refine (indexByte_calls _ _ _).mono ?_; rintro e w' ⟨rfl, rfl⟩)
  go_ret
  exact ⟨rfl, rfl⟩
set_option maxHeartbeats 4000000 in
set_option maxRecDepth 100000 in
theorem indexRune_no (r : Int) (h0 : 128 ≤ r) (h1 : r ≤ 2147483647) (w : World) : Calls Tryd.prog 53 #[.string ⟨#[0, 58, 44, 10]⟩, .int .i32 r] w fun e w' => e = .returned (.int .i64 (-1)) ∧ Below w.heap.size w w' := by
  go_enter Tryd.func53, Tryd.ntmps53
  by_cases he : r = 65533
  · subst he
    go_wp2
    go_loopw [5] (fun _ wr => ∃ i : Nat, i ≤ 4 ∧ wr = w.iter ⟨#[0, 58, 44, 10]⟩ i) (fun _ wr => 4 - wr.iterPos w.heap.size)
    case atStart => exact ⟨0, by omega, rfl⟩
    case round =>
      obtain ⟨i, hi, rfl⟩ := hrel
      by_cases hlt : i < 4
      · obtain ⟨x, hx⟩ : ∃ x : UInt8, (⟨#[0, 58, 44, 10]⟩ : ByteArray)[i]'hlt = x := ⟨_, rfl⟩
        have hx128 : x.toNat < 128 := odd_ascii x (by rw [← hx]; exact Array.getElem_mem_toList (xs := #[0, 58, 44, 10]) hlt)
        have hnx := fun ty => run_next_ascii (P := Tryd.prog) w ⟨#[0, 58, 44, 10]⟩ i ty hlt (by rw [hx]; exact hx128)
        rw [hx] at hnx
        have hne : ((x.toNat : Int) == 65533) = false := beq_eq_false_iff_ne.2 (by omega)
        go_wp2
        go_roundw
        case rel => exact ⟨i + 1, by omega, rfl⟩
        case measure => simp only [World.iterPos_iter]; omega
      · have hnx := fun ty => run_next_end (P := Tryd.prog) w ⟨#[0, 58, 44, 10]⟩ i ty hlt
        go_wp2
        go_ret
        exact ⟨rfl, (Below.refl _ _).alloc (Nat.le_refl _) _⟩
  · cases hv : validRune r with
    | false =>
      go_wp2_with (go_at_call 64; refine (validRune_m _ _).mono ?_; rintro e w' ⟨rfl, rfl⟩; rw [hv])
      go_ret
      exact ⟨rfl, Below.refl _ _⟩
    | true =>
      go_wp2_with (go_at_call 64; refine (validRune_m _ _).mono ?_; rintro e w' ⟨rfl, rfl⟩; rw [hv])
      obtain ⟨f1, f2, f3⟩ := encode_facts r (by rw [validRune_eq]; exact hv) h0
      have hcv := fun w => run_convert_int_string (P := Tryd.prog) w 21 9 .i32 r (by rw [Tryd.underlying21]; rfl) Tryd.underlying9
      generalize hE : Utf8.encode r = en at f1 f2 f3 hcv
      clear hE
      obtain ⟨bs, rfl⟩ : ∃ bs : List UInt8, en = ⟨bs.toArray⟩ := ⟨en.data.toList, by simp⟩
      have f1' : 2 ≤ bs.length := by have : bs.toArray.size = bs.length := by simp
                                     have f1 : 2 ≤ bs.toArray.size := f1
                                     omega
      have f2' : bs.length ≤ 4 := by have : bs.toArray.size = bs.length := by simp
                                     have f2 : bs.toArray.size ≤ 4 := f2
                                     omega
      have cut : ∀ (i : Nat) (c : UInt8), 128 ≤ c.toNat → Lib.indexByte (([0, 58, 44, 10] : List UInt8).drop i) c = -1 := fun i c hc => by
        have hn : ¬ 0 ≤ Lib.indexByte (([0, 58, 44, 10] : List UInt8).drop i) c := fun q => by
          have h := List.mem_of_mem_drop (index_neg.1 q)
          simp only [List.mem_cons, List.not_mem_nil, or_false] at h
          rcases h with rfl | rfl | rfl | rfl <;> exact absurd hc (by decide)
        have := Lib.indexByte_ge (([0, 58, 44, 10] : List UInt8).drop i) c
        omega
      match bs, f1', f2' with
      | [a, c], _, _ =>
        have hc : 128 ≤ c.toNat := f3 (by show 2 - 1 < 2; omega)
        have hcut : Lib.indexByte [44, 10] ((⟨#[a, c]⟩ : ByteArray)[1]'(by show 1 < 2; omega)) = -1 := cut 2 c hc
        have hne : (((⟨#[0, 58, 44, 10]⟩ : ByteArray)[1].toNat : Int) != (((⟨#[a, c]⟩ : ByteArray)[1]'(by show 1 < 2; omega)).toNat : Int)) = true := by
          refine bne_iff_ne.2 ?_
          show (((58 : UInt8).toNat : Nat) : Int) ≠ (c.toNat : Int)
          have : (58 : UInt8).toNat = 58 := rfl
          omega
        clear cut hv he
        refine wp_scope_straight ?_
        go_wp2
        go_loopw [9] (fun v wr => v = .int .i64 1 ∧ wr = w') (fun _ _ => 0)
        case atStart => exact ⟨rfl, rfl⟩
        case round =>
          obtain ⟨rfl, rfl⟩ := hrel
          go_wp2_with fail
          go_step3
          go_wp2_with fail
          go_region
          go_wp2_with fail
          go_region_with (go_at_call 44; refine (sIndexByte_m _ _ _).mono ?_; rintro e w1 ⟨rfl, rfl⟩)
          all_goals
            go_wp2_with fail
            simp (config := { zetaDelta := true }) only [Exit.noGoto_ret, Exit.inBlock, Exit.then]
            go_ret
            exact ⟨rfl, rfl, rfl, rfl, Nat.le_refl _, fun _ _ => rfl⟩

      | [a, b, c], _, _ =>
        have hc : 128 ≤ c.toNat := f3 (by show 3 - 1 < 3; omega)
        have hcut : Lib.indexByte [10] ((⟨#[a, b, c]⟩ : ByteArray)[2]'(by show 2 < 3; omega)) = -1 := cut 3 c hc
        have hne : (((⟨#[0, 58, 44, 10]⟩ : ByteArray)[2].toNat : Int) != (((⟨#[a, b, c]⟩ : ByteArray)[2]'(by show 2 < 3; omega)).toNat : Int)) = true := by
          refine bne_iff_ne.2 ?_
          show (((44 : UInt8).toNat : Nat) : Int) ≠ (c.toNat : Int)
          have : (44 : UInt8).toNat = 44 := rfl
          omega
        clear cut hv he
        refine wp_scope_straight ?_
        go_wp2
        go_loopw [9] (fun v wr => v = .int .i64 2 ∧ wr = w') (fun _ _ => 0)
        case atStart => exact ⟨rfl, rfl⟩
        case round =>
          obtain ⟨rfl, rfl⟩ := hrel
          go_wp2_with fail
          go_step3
          go_wp2_with fail
          go_region
          go_wp2_with fail
          go_region_with (go_at_call 44; refine (sIndexByte_m _ _ _).mono ?_; rintro e w1 ⟨rfl, rfl⟩)
          all_goals
            go_wp2_with fail
            simp (config := { zetaDelta := true }) only [Exit.noGoto_ret, Exit.inBlock, Exit.then]
            go_ret
            exact ⟨rfl, rfl, rfl, rfl, Nat.le_refl _, fun _ _ => rfl⟩

      | [a, b, d, c], _, _ =>
        have hc : 128 ≤ c.toNat := f3 (by show 4 - 1 < 4; omega)
        have hcut : Lib.indexByte [] ((⟨#[a, b, d, c]⟩ : ByteArray)[3]'(by show 3 < 4; omega)) = -1 := cut 4 c hc
        have hne : (((⟨#[0, 58, 44, 10]⟩ : ByteArray)[3].toNat : Int) != (((⟨#[a, b, d, c]⟩ : ByteArray)[3]'(by show 3 < 4; omega)).toNat : Int)) = true := by
          refine bne_iff_ne.2 ?_
          show (((10 : UInt8).toNat : Nat) : Int) ≠ (c.toNat : Int)
          have : (10 : UInt8).toNat = 10 := rfl
          omega
        clear cut hv he
        refine wp_scope_straight ?_
        go_wp2
        go_loopw [9] (fun v wr => v = .int .i64 3 ∧ wr = w') (fun _ _ => 0)
        case atStart => exact ⟨rfl, rfl⟩
        case round =>
          obtain ⟨rfl, rfl⟩ := hrel
          go_wp2_with fail
          go_step3
          go_wp2_with fail
          go_region
          go_wp2_with fail
          go_region_with (go_at_call 44; refine (sIndexByte_m _ _ _).mono ?_; rintro e w1 ⟨rfl, rfl⟩)
          all_goals
            go_wp2_with fail
            simp (config := { zetaDelta := true }) only [Exit.noGoto_ret, Exit.inBlock, Exit.then]
            go_ret
            exact ⟨rfl, rfl, rfl, rfl, Nat.le_refl _, fun _ _ => rfl⟩
theorem getbang (s : ByteArray) (j : Nat) (b : UInt8) (h : s.data.toList[j]? = some b) : s.get! j = b := by
  obtain ⟨hj, he⟩ := List.getElem?_eq_some_iff.1 h
  have hj' : j < s.data.size := by simpa using hj
  show s.data[j]! = b
  rw [getElem!_pos s.data j hj', ← he]
  simp
/-- What a rune that is not ASCII skips: bytes that are not ASCII. -/
theorem decode_skip (s : ByteArray) (i : Nat) (hi : i < s.size) (ha : 128 ≤ (s[i]'hi).toNat) : ∀ (j : Nat) b, i ≤ j → j < i + (Utf8.decode s i).2 → s.data.toList[j]? = some b → 128 ≤ b.toNat := by
  intro j b h1 h2 h3
  have hb := getbang s j b h3
  have h0 : s.get! (i + 0) = s[i]'hi := get_at s i hi
  obtain ⟨k, rfl⟩ : ∃ k, j = i + k := ⟨j - i, by omega⟩
  have hk : k < (Utf8.decode s i).2 := by omega
  by_cases hk0 : k = 0
  · subst hk0
    rw [h0] at hb
    rw [← hb]; exact ha
  have hn : ¬ (s[i]'hi).toNat < 128 := by omega
  simp only [Utf8.decode, h0, hn, if_false] at hk
  rw [← hb]
  have key : (s.get! (i + k)).toNat / 64 = 2 := by
    repeat' split at hk
    all_goals (simp only [Bool.and_eq_true, decide_eq_true_eq, beq_iff_eq] at *)
    all_goals first
      | omega
      | (have : k = 1 := by omega
         subst this; omega)
      | (have : k = 1 ∨ k = 2 := by omega
         rcases this with rfl | rfl <;> omega)
      | (have : k = 1 ∨ k = 2 ∨ k = 3 := by omega
         rcases this with rfl | rfl | rfl <;> omega)
  omega
theorem odd_not (b : UInt8) (h : 128 ≤ b.toNat) : ([0, 58, 44, 10] : List UInt8).contains b = false := by
  simp only [List.contains_eq_mem, List.mem_cons, List.not_mem_nil, or_false, decide_eq_false_iff_not]
  rintro (rfl | rfl | rfl | rfl) <;> exact absurd h (by decide)
theorem NoAny_skip {s : List UInt8} {i n : Nat} (h : Lib.NoAny s [0, 58, 44, 10] i) (hs : ∀ (j : Nat) b, i ≤ j → j < i + n → s[j]? = some b → 128 ≤ b.toNat) : Lib.NoAny s [0, 58, 44, 10] (i + n) := fun j b hj hb => by
  by_cases q : j < i
  · exact h j b q hb
  · exact odd_not b (hs j b (by omega) hj hb)
set_option maxHeartbeats 8000000 in
set_option maxRecDepth 1000000 in
theorem indexAny_short (s : ByteArray) (w : World) (h8 : s.size ≤ 8) :
    Calls Tryd.prog 45 #[.string s, .string ⟨#[0, 58, 44, 10]⟩] w fun e w' => e = .returned (.int .i64 (Lib.indexAny s.data.toList [0, 58, 44, 10])) ∧ Below w.heap.size w w' := by
  have h8z : decide ((8 : Int) < (s.size : Int)) = false := decide_eq_false (by omega)
  go_enter Tryd.func45, Tryd.ntmps45
  go_wp2_with (go_at_call 54; refine (Any.strings_shouldUseASCIISet { Tryd.lays153 with } _ _).mono ?_; rintro e w' ⟨rfl, hw⟩; rw [hw, h8z])
  go_loopw [9, 10] (fun _ _ wr => ∃ i : Nat, wr.heap[w.heap.size]? = some (.stringIter s i) ∧ Below w.heap.size w wr ∧ Lib.NoAny s.data.toList [0, 58, 44, 10] i) (fun _ _ wr => s.size - wr.iterPos w.heap.size)
  case atStart => exact ⟨0, World.iter_heap w s 0, (Below.refl _ w).alloc (Nat.le_refl _) _, Lib.NoAny.zero _ _⟩
  case round =>
    obtain ⟨i, hit, hbw, hno⟩ := hrel
    have HN : Aside (Lib.NoAny s.data.toList [0, 58, 44, 10] i) := hno
    clear hno
    have hsz : w.heap.size < wr.heap.size := (Array.getElem?_eq_some_iff.1 hit).1
    by_cases hlt : i < s.size
    · obtain ⟨x, hx⟩ : ∃ x : UInt8, s[i]'hlt = x := ⟨_, rfl⟩
      have hxl : s.data.toList[i]? = some x := by rw [← hx]; exact Lib.data_getElem? s i hlt
      have Hx : Aside (s.data.toList[i]? = some x) := hxl
      clear hxl
      by_cases ha : x.toNat < 128
      · have hnx := fun ty => Lib.run_next_ascii_at (P := Tryd.prog) wr w.heap.size s i ty hit hlt (by rw [hx]; exact ha)
        rw [hx] at hnx
        have hcon := Lib.contains_iff_indexByte [0, 58, 44, 10] x
        have hback : ((x.toNat : Int)).toNat.toUInt8 = x := by simp
        have hit2 := Lib.iterAt_heap wr w.heap.size s i (i + 1) hit
        have hbw2 := Lib.below_iterAt hbw (k := w.heap.size) (Nat.le_refl _) s (i + 1)
        cases hin : ([0, 58, 44, 10] : List UInt8).contains x
        · rw [hin] at hcon
          have hge : ¬ ((0 : Int) ≤ Lib.indexByte [0, 58, 44, 10] x) := of_decide_eq_false hcon.symm
          clear hcon
          go_wp2_with (go_at_call 53; refine (Any.strings_IndexRune_ascii { Tryd.lays153 with } _ _ _ (by omega) (by omega)).mono ?_; rintro e w' ⟨rfl, hw⟩; rw [hw, hback])
          go_roundw
          case rel => exact ⟨i + 1, hit2, hbw2, HN.out.succ Hx.out hin⟩
          case measure => simp only [World.iterPos, hit2, hit]; omega
        · rw [hin] at hcon
          have hge : (0 : Int) ≤ Lib.indexByte [0, 58, 44, 10] x := of_decide_eq_true hcon.symm
          clear hcon
          go_wp2_with (go_at_call 53; refine (Any.strings_IndexRune_ascii { Tryd.lays153 with } _ _ _ (by omega) (by omega)).mono ?_; rintro e w' ⟨rfl, hw⟩; rw [hw, hback])
          go_ret
          exact ⟨by rw [Lib.indexAny_hit HN.out Hx.out hin]; rfl, hbw2⟩
      · have hnx := fun ty => Lib.run_next_any_at (P := Tryd.prog) wr w.heap.size s i ty hit hlt
        have hd := decode_high s i hlt (by rw [hx]; omega)
        have hd1 := decode_le s i
        have hsk := decode_skip s i hlt (by rw [hx]; omega)
        generalize (Utf8.decode s i).1 = r at hnx hd hd1
        generalize (Utf8.decode s i).2 = n at hnx hd hsk
        have hit2 := Lib.iterAt_heap wr w.heap.size s i (i + n) hit
        have hbw2 := Lib.below_iterAt hbw (k := w.heap.size) (Nat.le_refl _) s (i + n)
        have hsz2 : w.heap.size < (wr.iterAt w.heap.size s (i + n)).heap.size := by rw [Lib.iterAt_size]; exact hsz
        have HS : Aside (Lib.NoAny s.data.toList [0, 58, 44, 10] (i + n)) := NoAny_skip HN.out hsk
        clear hsk
        go_wp2_with (go_at_call 53; refine (indexRune_no _ (by omega) (by omega) _).mono ?_; rintro e w1 ⟨rfl, hw⟩)
        have hit3 : w1.heap[w.heap.size]? = some (.stringIter s (i + n)) := by rw [hw.block _ hsz2]; exact hit2
        go_wp2
        go_roundw
        case rel => exact ⟨i + n, hit3, hbw2.trans ⟨hw.os, hw.tape, hw.output, hw.size, fun j hj => hw.block j (by omega)⟩, HS.out⟩
        case measure => simp only [World.iterPos, hit3, hit]; omega
    · have hnx := fun ty => Lib.run_next_end_at (P := Tryd.prog) wr w.heap.size s i ty hit hlt
      go_wp2
      go_ret
      exact ⟨by rw [Lib.indexAny_none (fun j b hj hb => HN.out j b (by have := Lib.size_eq s; omega) hb)]; rfl, hbw⟩
theorem odd_ascii' : ∀ (j : Nat) b, (⟨#[0, 58, 44, 10]⟩ : ByteArray).data.toList[j]? = some b → b.toNat < 128 := fun j b h => odd_ascii b (List.mem_of_getElem? h)
theorem set256 : (Tryd.prog.info? (Tryd.lays153_ren.t 116)).map (fun i => (i.zero, i.size)) = some (some (.agg (Array.replicate 256 (.bool false))), 256) := by kernel_rfl
theorem indexAny_m (s : ByteArray) (w : World) (hs : s.size < 4294967281) :
    Calls Tryd.prog 45 #[.string s, .string ⟨#[0, 58, 44, 10]⟩] w fun e w' => e = .returned (.int .i64 (Lib.indexAny s.data.toList [0, 58, 44, 10])) ∧ Below w.heap.size w w' := by
  by_cases h8 : s.size ≤ 8
  · exact indexAny_short s w h8
  · refine (Any.strings_IndexAny_long Tryd.lays153 (zero_of_info set256).1 (zero_of_info set256).2 s ⟨#[0, 58, 44, 10]⟩ w (by decide) (by omega) hs (by decide) odd_ascii').mono fun e w' ⟨h1, h2⟩ => ⟨h1, ?_⟩
    rw [h2]
    exact ((Below.refl _ _).alloc (Nat.le_refl _) _).alloc (by simp) _
open Go.Proofs.YtjjddmbnfkmfdaaDoor.Sx F
theorem indexAny_c (s : Th (List UInt8)) (hs : (s .o).length < 4294967281) {d : Nat} {K : ARes → BL → Prop} (hr : ∀ n : Th Int, n .o = Lib.indexAny (s .o) oddL → K (.ret (.int .i64 n)) .nil) : CallAt PT 45 [.str s, .str fun _ => [0, 58, 44, 10]] d .nil K := by
  refine CallAt.of_below (by kernel_rfl) fun E vs hb hv => ?_
  obtain ⟨v1, r1, rfl, h1, v2, r2, rfl, h2, rfl⟩ : ∃ v1 r1, vs = v1 :: r1 ∧ Rp E (.str s) v1 ∧ ∃ v2 r2, r1 = v2 :: r2 ∧ Rp E (.str fun _ => [0, 58, 44, 10]) v2 ∧ r2 = [] := hv
  obtain rfl : v1 = .string ⟨(s .o).toArray⟩ := h1
  obtain rfl : v2 = .string ⟨#[0, 58, 44, 10]⟩ := h2
  refine (indexAny_m ⟨(s .o).toArray⟩ E.w (by show (s .o).toArray.size < _; simpa using hs)).mono ?_
  rintro e w' ⟨rfl, hbl⟩
  exact ⟨.ret (.int .i64 fun _ => Lib.indexAny (s .o) oddL), rfl, rfl, hr _ rfl, hbl⟩
theorem indexAny_iff (cs : List UInt8) : ∀ s : List UInt8, decide (0 ≤ Lib.indexAny s cs) = s.any (cs.contains ·)
  | [] => rfl
  | b :: l => by
    have ih := indexAny_iff cs l
    have hg := Lib.indexAny_ge cs l
    rw [Lib.indexAny, List.any_cons]
    cases hc : cs.contains b with
    | true => simp
    | false =>
      rw [Bool.false_or, ← ih]
      simp only [Bool.false_eq_true, if_false]
      split
      · rename_i h2
        have h2 : Lib.indexAny l cs = -1 := by simpa using h2
        rw [h2]
      · rename_i h2
        have h2 : Lib.indexAny l cs ≠ -1 := by simpa using h2
        rw [decide_eq_decide]; omega
theorem any_c (s : Th (List UInt8)) (hs : (s .o).length < 4294967281) {d : Nat} {K : ARes → BL → Prop} (hr : ∀ b : Th Bool, b .o = (s .o).any (oddL.contains ·) → K (.ret (.bool b)) .nil) : CallAt PT strings_ContainsAny [.str s, .str fun _ => [0, 58, 44, 10]] d .nil K := by
  refine strings_ContainsAny.of rfl rfl ?_
  cbv
  refine indexAny_c s hs fun n hn => ?_
  cbv
  exact hr _ (by show decide (0 ≤ n .o) = _; rw [hn]; exact indexAny_iff _ _)
end Go.Proofs.YtjjddmbnfkmfdaaDoor
/- The pieces of a text between bytes: plain. -/
namespace Go.Proofs.YtjjddmbnfkmfdaaDoor
open Go Go.Proofs.YtjjddmbnfkmfdaaDoor.Sx
set_option linter.unusedVariables false
set_option linter.unusedSimpArgs false
/-- The pieces of a text between the bytes c. -/
def splitC (c : UInt8) : List UInt8 → List (List UInt8)
  | [] => [[]]
  | x :: r => if x = c then [] :: splitC c r else match splitC c r with
    | [] => [[x]]
    | h :: t => (x :: h) :: t
theorem splitC_len (c : UInt8) (s : List UInt8) : (splitC c s).length = s.count c + 1 := by
  induction s with
  | nil => rfl
  | cons x r ih =>
    unfold splitC
    by_cases h : x = c
    · rw [if_pos h, List.length_cons, ih, h, List.count_cons_self]
    · rw [if_neg h, List.count_cons_of_ne h]
      cases hs : splitC c r with
      | nil => rw [hs] at ih; simp at ih
      | cons a t => rw [hs] at ih; simpa using ih
theorem splitC_no {c : UInt8} : ∀ {s : List UInt8}, c ∉ s → splitC c s = [s]
  | [], _ => rfl
  | x :: r, h => by
    unfold splitC
    rw [if_neg (fun e => h (by simp [e])), splitC_no (fun q => h (by simp [q]))]
theorem splitC_at {c : UInt8} : ∀ (a b : List UInt8), c ∉ a → splitC c (a ++ c :: b) = a :: splitC c b
  | [], b, _ => by
    show splitC c (c :: b) = _
    rw [splitC, if_pos rfl]
  | x :: r, b, h => by
    show splitC c (x :: (r ++ c :: b)) = _
    rw [splitC, if_neg (fun e => h (by simp [e])), splitC_at r b (fun q => h (by simp [q]))]
theorem index_none {s : List UInt8} {c : UInt8} (h : Lib.indexByte s c < 0) : c ∉ s := by
  induction s with
  | nil => simp
  | cons b l ih =>
    have hg := Lib.indexByte_ge l c
    unfold Lib.indexByte at h
    by_cases e : b = c
    · rw [if_pos (by simpa using e)] at h; omega
    · rw [if_neg (by simpa using e)] at h
      split at h
      · rename_i h2
        have h2 : Lib.indexByte l c = -1 := by simpa using h2
        have := ih (by omega)
        simp only [List.mem_cons, not_or]
        exact ⟨fun q => e q.symm, this⟩
      · omega
theorem index_at {s : List UInt8} {c : UInt8} (h : ¬ Lib.indexByte s c < 0) : ∃ m : Nat, Lib.indexByte s c = (m : Int) ∧ m < s.length ∧ s = s.take m ++ c :: s.drop (m + 1) ∧ c ∉ s.take m := by
  induction s with
  | nil => exact absurd (by show (-1 : Int) < 0; decide) h
  | cons b l ih =>
    have hg := Lib.indexByte_ge l c
    unfold Lib.indexByte at h ⊢
    by_cases e : b = c
    · rw [if_pos (by simpa using e)]
      exact ⟨0, rfl, by simp, by simp [e], by simp⟩
    · rw [if_neg (by simpa using e)] at h ⊢
      split at h
      · omega
      · rename_i h2
        rw [if_neg h2]
        have h2 : Lib.indexByte l c ≠ -1 := by simpa using h2
        obtain ⟨m, h3, h4, h5, h6⟩ := ih (by omega)
        refine ⟨m + 1, by rw [h3]; simp, by simp; omega, ?_, ?_⟩
        · simp only [List.take_succ_cons, List.drop_succ_cons, List.cons_append]
          rw [← h5]
        · simp only [List.take_succ_cons, List.mem_cons, not_or]
          exact ⟨fun q => e q.symm, h6⟩
end Go.Proofs.YtjjddmbnfkmfdaaDoor
/- Wide lists: letters of bits, in plain Lean. -/
namespace Go.Proofs.YtjjddmbnfkmfdaaDoor
open Go Go.Proofs.YtjjddmbnfkmfdaaDoor.Sx
set_option linter.unusedVariables false
set_option linter.unusedSimpArgs false
structure WideE where
  type : Int
  flags : Int
  mask : Int
  who : List UInt8
deriving DecidableEq
def flagL : List UInt8 := [102, 100, 110, 112, 83, 70, 103]
def maskL : List UInt8 := [114, 119, 97, 120, 100, 68, 116, 84, 110, 78, 99, 67, 111, 121]
/-- The letters of the first k bits. -/
def chS (ls : List UInt8) (n : Nat) : Nat → List UInt8
  | 0 => []
  | k + 1 => chS ls n k ++ if n.testBit k then [ls.getD k 0] else []
/-- The bits of letters; none: a letter is missing. -/
def unS (ls : List UInt8) (s : List UInt8) : Option Nat := s.foldl (fun a c => match a, ls.findIdx? (· == c) with | some n, some i => some (n ||| 2 ^ i) | _, _ => none) (some 0)
def Once (ls : List UInt8) : Prop := ∀ k, k < ls.length → ls.findIdx? (· == ls.getD k 0) = some k
theorem once_flag : Once flagL := fun k hk => by
  have hk : k < 7 := hk
  match k, hk with
  | 0, _ | 1, _ | 2, _ | 3, _ | 4, _ | 5, _ | 6, _ => rfl
theorem once_mask : Once maskL := fun k hk => by
  have hk : k < 14 := hk
  match k, hk with
  | 0, _ | 1, _ | 2, _ | 3, _ | 4, _ | 5, _ | 6, _ | 7, _ | 8, _ | 9, _ | 10, _ | 11, _ | 12, _ | 13, _ => rfl
theorem bit_or {n k : Nat} (q : n.testBit k = true) : n % 2 ^ k ||| 2 ^ k = n % 2 ^ (k + 1) := by
  apply Nat.eq_of_testBit_eq
  intro i
  rw [Nat.testBit_or, Nat.testBit_mod_two_pow, Nat.testBit_mod_two_pow, Nat.testBit_two_pow]
  rcases Nat.lt_trichotomy i k with h | h | h
  · rw [decide_eq_true h, decide_eq_true (show i < k + 1 by omega), decide_eq_false (show ¬ k = i by omega)]; simp
  · subst h
    rw [decide_eq_true (show i < i + 1 by omega), q]; simp
  · rw [decide_eq_false (show ¬ i < k by omega), decide_eq_false (show ¬ i < k + 1 by omega), decide_eq_false (show ¬ k = i by omega)]; simp
theorem bit_no {n k : Nat} (q : ¬ n.testBit k = true) : n % 2 ^ k = n % 2 ^ (k + 1) := by
  apply Nat.eq_of_testBit_eq
  intro i
  rw [Nat.testBit_mod_two_pow, Nat.testBit_mod_two_pow]
  rcases Nat.lt_trichotomy i k with h | h | h
  · rw [decide_eq_true h, decide_eq_true (show i < k + 1 by omega)]
  · subst h
    rw [Bool.eq_false_iff.2 q]; simp
  · rw [decide_eq_false (show ¬ i < k by omega), decide_eq_false (show ¬ i < k + 1 by omega)]
theorem un_ch {ls : List UInt8} (h : Once ls) (n : Nat) : ∀ k, k ≤ ls.length → unS ls (chS ls n k) = some (n % 2 ^ k)
  | 0, _ => by simp [unS, chS, Nat.mod_one]
  | k + 1, hk => by
    have ih := un_ch h n k (by omega)
    unfold unS at ih ⊢
    rw [chS, List.foldl_append, ih]
    by_cases q : n.testBit k = true
    · rw [if_pos q]
      simp only [List.foldl_cons, List.foldl_nil, h k (by omega)]
      rw [bit_or q]
    · rw [if_neg q, List.foldl_nil, bit_no q]
theorem un_ch_all {ls : List UInt8} (h : Once ls) {n : Nat} (hn : n < 2 ^ ls.length) : unS ls (chS ls n ls.length) = some n := by
  rw [un_ch h n _ (Nat.le_refl _), Nat.mod_eq_of_lt hn]
theorem ch_mem {ls : List UInt8} {n : Nat} {c : UInt8} : ∀ {k : Nat}, k ≤ ls.length → c ∈ chS ls n k → c ∈ ls
  | 0, _, h => by cases h
  | k + 1, hk, h => by
    rcases List.mem_append.1 h with q | q
    · exact ch_mem (by omega) q
    · split at q
      · rw [List.mem_singleton.1 q, List.getD_eq_getElem?_getD, List.getElem?_eq_getElem (by omega)]
        exact List.getElem_mem _
      · cases q
/-- The text of a part. -/
def partW (w : WideE) : List UInt8 := (if w.type = 2 then [68, 58] else [65, 58]) ++ chS flagL w.flags.toNat 7 ++ [58] ++ w.who ++ [58] ++ chS maskL w.mask.toNat 14
structure WideOk (w : WideE) : Prop where
  type : w.type = 1 ∨ w.type = 2
  flags : 0 ≤ w.flags ∧ w.flags < 128
  mask : 0 ≤ w.mask ∧ w.mask < 16384
  some : w.who ≠ []
  len : w.who.length ≤ 255
  odd : ∀ c ∈ w.who, c ≠ 0 ∧ c ≠ 58 ∧ c ≠ 44 ∧ c ≠ 10
theorem ch_no {ls : List UInt8} {n k : Nat} {c : UInt8} (hk : k ≤ ls.length) (hc : c ∉ ls) : c ∉ chS ls n k := fun h => hc (ch_mem hk h)
/-- The part of a text. -/
def readW (s : List UInt8) : Option WideE :=
  match splitC 58 s with
  | [a, f, w, m] => match unS flagL f, unS maskL m with
    | some x, some y => some ⟨if a = [65] then 1 else 2, x, y, w⟩
    | _, _ => none
  | _ => none
theorem split_part {w : WideE} (h : WideOk w) : splitC 58 (partW w) = [if w.type = 2 then [68] else [65], chS flagL w.flags.toNat 7, w.who, chS maskL w.mask.toNat 14] := by
  have e : partW w = (if w.type = 2 then [68] else [65]) ++ 58 :: (chS flagL w.flags.toNat 7 ++ 58 :: (w.who ++ 58 :: chS maskL w.mask.toNat 14)) := by
    unfold partW
    by_cases q : w.type = 2
    · rw [if_pos q, if_pos q]; simp
    · rw [if_neg q, if_neg q]; simp
  rw [e, splitC_at _ _ (by split <;> decide), splitC_at _ _ (ch_no (by decide) (by decide)), splitC_at _ _ (fun q => (h.odd _ q).2.1 rfl), splitC_no (ch_no (by decide) (by decide))]
theorem read_part {w : WideE} (h : WideOk w) : readW (partW w) = some w := by
  have e1 : unS flagL (chS flagL w.flags.toNat 7) = some w.flags.toNat := un_ch_all once_flag (by have := h.flags; show _ < 128; omega)
  have e2 : unS maskL (chS maskL w.mask.toNat 14) = some w.mask.toNat := un_ch_all once_mask (by have := h.mask; show _ < 16384; omega)
  unfold readW
  rw [split_part h]
  simp only [e1, e2]
  obtain ⟨t, f, m, who⟩ := w
  have hf := h.flags
  have hm := h.mask
  have ht := h.type
  dsimp only at hf hm ht ⊢
  rw [Int.toNat_of_nonneg hf.1, Int.toNat_of_nonneg hm.1]
  rcases ht with rfl | rfl <;> rfl
def textW (l : List WideE) : List UInt8 := Lib.join (l.map partW) [44]
theorem split_join {c : UInt8} : ∀ {ps : List (List UInt8)}, ps ≠ [] → (∀ p ∈ ps, c ∉ p) → splitC c (Lib.join ps [c]) = ps
  | [], h, _ => (h rfl).elim
  | [p], _, hp => by
    have : Lib.join [p] [c] = p := by simp [Lib.join, List.intercalate]
    rw [this, splitC_no (hp p (by simp))]
  | p :: q :: r, _, hp => by
    have : Lib.join (p :: q :: r) [c] = p ++ c :: Lib.join (q :: r) [c] := by simp [Lib.join, List.intercalate, List.intersperse]
    rw [this, splitC_at _ _ (hp p (by simp)), split_join (by simp) fun x hx => hp x (List.mem_cons_of_mem _ hx)]
theorem part_44 {w : WideE} (h : WideOk w) : (44 : UInt8) ∉ partW w := by
  unfold partW
  simp only [List.mem_append, not_or]
  refine ⟨⟨⟨⟨⟨?_, ch_no (by decide) (by decide)⟩, by decide⟩, fun q => (h.odd _ q).2.2.1 rfl⟩, by decide⟩, ch_no (by decide) (by decide)⟩
  split <;> decide
theorem part_ne (w : WideE) : partW w ≠ [] := by
  unfold partW
  split <;> simp
theorem text_ne {l : List WideE} (h : l ≠ []) : textW l ≠ [] := by
  cases l with
  | nil => exact (h rfl).elim
  | cons w r =>
    cases r with
    | nil => have : textW [w] = partW w := by simp [textW, Lib.join, List.intercalate]
             rw [this]; exact part_ne w
    | cons v r =>
      have : textW (w :: v :: r) = partW w ++ 44 :: textW (v :: r) := by simp [textW, Lib.join, List.intercalate, List.intersperse]
      rw [this]; simp
/-- All may be. -/
def AllOk (l : List WideE) : Prop := l.length ≤ 32 ∧ ∀ w ∈ l, WideOk w
/-- What a text says: these, or none. -/
def ReadsW (s : List UInt8) (l : List WideE) : Prop := s = [] ∧ l = [] ∨ s ≠ [] ∧ (splitC 44 s).mapM readW = some l ∧ AllOk l ∧ textW l = s
theorem mapM_some {α β : Type} (f : α → Option β) (g : β → α) : ∀ l : List β, (∀ x ∈ l, f (g x) = some x) → (l.map g).mapM f = some l
  | [], _ => rfl
  | x :: r, h => by
    have := mapM_some f g r fun y hy => h y (List.mem_cons_of_mem _ hy)
    simp [List.mapM_cons, h x (by simp), this]
/-- What may be is told again by its text. -/
theorem reads_text {l : List WideE} (h : AllOk l) : ReadsW (textW l) l := by
  by_cases q : l = []
  · subst q; exact .inl ⟨rfl, rfl⟩
  · refine .inr ⟨text_ne q, ?_, h, rfl⟩
    unfold textW
    rw [split_join (by simpa using q) fun p hp => by obtain ⟨w, hw, rfl⟩ := List.mem_map.1 hp; exact part_44 (h.2 w hw)]
    exact mapM_some _ _ l fun w hw => read_part (h.2 w hw)
theorem reads_one {s : List UInt8} {l k : List WideE} (h : ReadsW s l) (g : ReadsW s k) : l = k := by
  rcases h with ⟨h1, rfl⟩ | ⟨h1, h2, _⟩ <;> rcases g with ⟨g1, rfl⟩ | ⟨g1, g2, _⟩
  · rfl
  · exact (g1 h1).elim
  · exact (h1 g1).elim
  · rw [h2] at g2; exact Option.some.inj g2
end Go.Proofs.YtjjddmbnfkmfdaaDoor
/- Bytes as numbers; entries: data. -/
namespace Go.Proofs.YtjjddmbnfkmfdaaDoor
open Go Go.Proofs.YtjjddmbnfkmfdaaDoor.Sx
set_option linter.unusedVariables false
set_option linter.unusedSimpArgs false
def strCh (s : Th (List UInt8)) : AV := .cons (.str s) .nil
def strs (l : Th (List (List UInt8))) : AV := .sl 1 (fun _ => (l .o).length) fun i => strCh fun _ => (l .o).getD (i .o) []
end Go.Proofs.YtjjddmbnfkmfdaaDoor
/- What the laws make by numbers: names, paths. -/
namespace Go.Proofs.YtjjddmbnfkmfdaaDoor
open Go Go.Proofs.YtjjddmbnfkmfdaaDoor.Sx F
set_option linter.unusedVariables false
set_option linter.unusedSimpArgs false
end Go.Proofs.YtjjddmbnfkmfdaaDoor
/- Splitting, paths, where targets lead: walked. -/
namespace Go.Proofs.YtjjddmbnfkmfdaaDoor
open Go Go.Proofs.YtjjddmbnfkmfdaaDoor.Sx F
set_option linter.unusedVariables false
set_option linter.unusedSimpArgs false
theorem set_rep (ps : List (List UInt8)) (v : List UInt8) (k : Nat) (hk : 0 < k) : (ps ++ List.replicate k []).set ps.length v = (ps ++ [v]) ++ List.replicate (k - 1) [] := by
  obtain ⟨j, rfl⟩ : ∃ j, k = j + 1 := ⟨k - 1, by omega⟩
  simp [List.replicate_succ]
theorem genSplit_c (s : Th (List UInt8)) (c : UInt8) (hs : (s .o).length ≤ 1099511627776) {d : Nat} {K : ARes → BL → Prop} (hr : ∀ l : Th (List (List UInt8)), l .o = splitC c (s .o) → K (.ret (strs l)) .nil) :
    CallAt PT strings_genSplit [.str s, .str fun _ => [c], .int .i64 fun _ => 0, .int .i64 fun _ => -1] d .nil K := by
  refine CallAt.res ?_
  refine strings_genSplit.of rfl rfl ?_
  have hcl : (s .o).count c ≤ (s .o).length := List.count_le_length
  cbv
  refine br_not (by decide) ?_
  refine br_not (by simp) ?_
  refine br_is (by decide) ?_
  refine count1_c s c fun n hn => ?_
  cbv
  have e1 : IntKind.i64.wrap (zi (s .o).length + 1) = zi ((s .o).length + 1) := zi_succ (by omega)
  have e2 : IntKind.i64.wrap (n .o + 1) = zi ((s .o).count c + 1) := by rw [hn]; exact zi_succ (by omega)
  have e3 : (if zi ((s .o).length + 1) < zi ((s .o).count c + 1) then zi ((s .o).length + 1) else zi ((s .o).count c + 1)) = zi ((s .o).count c + 1) := if_neg (by unfold zi; omega)
  have e4 : IntKind.i64.wrap (zi ((s .o).count c + 1) - 1) = zi ((s .o).count c) := by rw [IntKind.wrap_i64]; unfold zi; omega
  rw [e1, e2, e3, e4]
  refine safe (by show 0 ≤ zi _ ∧ zi _ ≤ zi _ ∧ (16 : Int) * zi _ ≤ 281474976710656 ∧ zi _ ≤ 9223372036854775807; unfold zi; omega) ?_
  refine loop_rule (X := List (List UInt8) × List UInt8) 1000 [1, 2, 3, 9] [] (fun x => .cons 0 (.str fun _ => x.2) (.cons 10 (.int .i64 fun _ => zi x.1.length) .nil)) (fun x => .cons 31 (rowB 1 strCh [] fun _ => x.1 ++ List.replicate ((s .o).count c + 1 - x.1.length) []) .nil)
    (fun x => splitC c (s .o) = x.1 ++ splitC c x.2 ∧ x.2.length ≤ (s .o).length) (fun x => (s .o).count c + 1 - x.1.length) ([], s .o) ?_ ⟨rfl, Nat.le_refl _⟩ ?_
  · cbv
    (repeat' (first | exact True.intro | exact Same.refl _ | exact SameB.refl _ | exact ⟨rfl⟩ | exact Same.int rfl | exact Same.str rfl | exact Same.bool rfl | (refine Same.int ?_; simp only [List.length_append, List.length_cons, List.length_nil, zi]; omega) | (refine SameB.row' rfl fun i hi => ?_; first | rfl | exact absurd hi (Nat.not_lt_zero _)) | refine And.intro ?_ ?_ | refine SameB.cells ?_ | exact SameC.nil | refine SameC.cons ?_ ?_ | exact Same.nsl rfl | exact Same.tt rfl | exact Same.ff rfl))
    all_goals
      refine SameB.row' ?_ fun i hi => ?_
      · show (zi ((s .o).count c + 1)).toNat = (List.replicate ((s .o).count c + 1 - 0) ([] : List UInt8)).length
        rw [List.length_replicate, zi_toNat]; rfl
      · show (AV.cons (.str fun _ => []) .nil) = strCh fun _ => (List.replicate ((s .o).count c + 1 - 0) ([] : List UInt8)).getD i []
        unfold strCh
        congr 2
        funext _
        rw [List.getD_eq_getElem?_getD, List.getElem?_replicate]
        split <;> rfl
  · rintro ⟨ps, rest⟩ ⟨hsp, hrl⟩
    dsimp only at hsp hrl
    have hlen := congrArg List.length hsp
    rw [splitC_len, List.length_append, splitC_len] at hlen
    have hk : 0 < (s .o).count c + 1 - ps.length := by omega
    have hrow : (ps ++ List.replicate ((s .o).count c + 1 - ps.length) ([] : List UInt8)).length = (s .o).count c + 1 := by rw [List.length_append, List.length_replicate]; omega
    have hin : 0 ≤ zi ps.length ∧ zi ps.length < zi (ps ++ List.replicate ((s .o).count c + 1 - ps.length) ([] : List UInt8)).length := ⟨zi_nonneg _, zi_lt.2 (by rw [hrow]; omega)⟩
    have hput : (zi ps.length).toNat < (ps ++ List.replicate ((s .o).count c + 1 - ps.length) ([] : List UInt8)).length := by rw [hrow, zi_toNat]; omega
    have hsucc : IntKind.i64.wrap (zi ps.length + 1) = zi (ps.length + 1) := zi_succ (by omega)
    have hrep : ∀ v : List UInt8, (ps ++ List.replicate ((s .o).count c + 1 - ps.length) []).set (zi ps.length).toNat v = (ps ++ [v]) ++ List.replicate ((s .o).count c + 1 - ps.length - 1) [] := fun v => by rw [zi_toNat]; exact set_rep ps v _ hk
    have fin : splitC c (s .o) = ps ++ [rest] → (True → (0 : Int) ≤ 0 ∧ 0 ≤ IntKind.i64.wrap (zi ps.length + 1) ∧ IntKind.i64.wrap (zi ps.length + 1) ≤ zi (ps ++ List.replicate ((s .o).count c + 1 - ps.length) ([] : List UInt8)).length) ∧
        ∃ r', SameR (.ret (.sl 1 (fun _ => (IntKind.i64.wrap (zi ps.length + 1) - 0).toNat) fun i => strCh fun _ => ((ps ++ List.replicate ((s .o).count c + 1 - ps.length) []).set (zi ps.length).toNat rest).getD ((0 : Int).toNat + i .o) [])) r' ∧ K r' .nil := fun h => by
      refine ⟨fun _ => ⟨Int.le_refl _, by rw [hsucc]; exact zi_nonneg _, by rw [hsucc, hrow]; unfold zi; omega⟩, _, .ret (y := strs fun _ => ps ++ [rest]) (.sl ?_ fun i hi => ?_), hr _ h.symm⟩
      · show (IntKind.i64.wrap (zi ps.length + 1) - 0).toNat = (ps ++ [rest]).length
        rw [hsucc, List.length_append]; unfold zi; simp
      · have hi : i < ps.length + 1 := by have : i < (IntKind.i64.wrap (zi ps.length + 1) - 0).toNat := hi; rw [hsucc] at this; unfold zi at this; omega
        show (strCh fun _ => ((ps ++ List.replicate ((s .o).count c + 1 - ps.length) []).set (zi ps.length).toNat rest).getD (0 + i) []) = strCh fun _ => (ps ++ [rest]).getD i []
        rw [hrep, Nat.zero_add]
        congr 1
        funext _
        simp only [List.getD_eq_getElem?_getD]
        rw [List.getElem?_append_left (by simp; omega)]
    cbv
    ((try refine br_rev ?_); (first | refine br_dec (fun h1 => ?_) (fun h1 => ?_) | refine br_ndec (fun h1 => ?_) (fun h1 => ?_) | refine br_nbool (fun h1 => ?_) (fun h1 => ?_) | refine br_bool (fun h1 => ?_) (fun h1 => ?_)); all_goals (try dsimp only at h1); all_goals (try with_reducible replace h1 := zi_lt.1 h1); all_goals (try with_reducible replace h1 := not_zlt h1))
    · cbv
      refine strIndex1_c (fun _ => rest) c fun m hm => ?_
      cbv
      refine br_dec (fun h2 => ?_) (fun h2 => ?_)
      · have hno : c ∉ rest := index_none (hm ▸ h2)
        have hps : splitC c (s .o) = ps ++ [rest] := by rw [hsp, splitC_no hno]
        cbv
        refine safe hin ?_
        refine put_rows strCh [] (ps ++ List.replicate ((s .o).count c + 1 - ps.length) []) rest rfl (fun i hi => rfl) hput rfl ?_
        cbv
        exact fin hps
      · obtain ⟨m', hm1, hm2, hm3, hm4⟩ := index_at (hm ▸ h2)
        have hmz : m .o = zi m' := hm.trans hm1
        have hw0 : IntKind.i64.wrap (m .o + 0) = zi m' := by rw [hmz, IntKind.wrap_i64]; unfold zi; omega
        have hw1 : IntKind.i64.wrap (m .o + zi [c].length) = zi (m' + 1) := by rw [hmz]; exact zi_succ (by omega)
        cbv
        refine safe (by show (0 : Int) ≤ 0 ∧ 0 ≤ IntKind.i64.wrap (m .o + 0) ∧ IntKind.i64.wrap (m .o + 0) ≤ zi rest.length; rw [hw0]; unfold zi; omega) ?_
        refine safe hin ?_
        refine put_rows strCh [] (ps ++ List.replicate ((s .o).count c + 1 - ps.length) []) (List.drop (0 : Int).toNat (List.take (IntKind.i64.wrap (m .o + 0)).toNat rest)) rfl (fun i hi => rfl) hput rfl ?_
        cbv
        refine safe (by show 0 ≤ IntKind.i64.wrap (m .o + zi [c].length) ∧ IntKind.i64.wrap (m .o + zi [c].length) ≤ zi rest.length ∧ zi rest.length ≤ zi rest.length; rw [hw1]; unfold zi; omega) ?_
        refine ⟨(ps ++ [rest.take m'], rest.drop (m' + 1)), ⟨?_, ?_⟩, ?_, ?_⟩
        · show splitC c (s .o) = (ps ++ [rest.take m']) ++ splitC c (rest.drop (m' + 1))
          rw [hsp]
          conv => lhs; rw [hm3]
          rw [splitC_at _ _ hm4, List.append_assoc]; rfl
        · show (rest.drop (m' + 1)).length ≤ _
          rw [List.length_drop]; omega
        · show (s .o).count c + 1 - (ps ++ [rest.take m']).length < (s .o).count c + 1 - ps.length
          simp only [List.length_append, List.length_cons, List.length_nil]; omega
        cbv
        (repeat' (first | exact True.intro | exact Same.refl _ | exact SameB.refl _ | exact ⟨rfl⟩ | exact Same.int rfl | exact Same.str rfl | exact Same.bool rfl | (refine Same.int ?_; simp only [List.length_append, List.length_cons, List.length_nil, zi]; omega) | (refine SameB.row' rfl fun i hi => ?_; first | rfl | exact absurd hi (Nat.not_lt_zero _)) | refine And.intro ?_ ?_ | refine SameB.cells ?_ | exact SameC.nil | refine SameC.cons ?_ ?_ | exact Same.nsl rfl | exact Same.tt rfl | exact Same.ff rfl))
        · refine Same.str ?_
          show List.drop (IntKind.i64.wrap (m .o + zi [c].length)).toNat (List.take (zi rest.length).toNat rest) = rest.drop (m' + 1)
          rw [hw1, zi_toNat, zi_toNat, List.take_length]
        · refine Same.int ?_
          show IntKind.i64.wrap (zi ps.length + 1) = zi (ps ++ [rest.take m']).length
          rw [hsucc, List.length_append]; rfl
        · refine SameB.row' ?_ fun i hi => ?_
          · show (ps ++ List.replicate ((s .o).count c + 1 - ps.length) ([] : List UInt8)).length = ((ps ++ [rest.take m']) ++ List.replicate ((s .o).count c + 1 - (ps ++ [rest.take m']).length) []).length
            rw [hrow]; simp only [List.length_append, List.length_replicate, List.length_cons, List.length_nil]; omega
          · show (strCh fun _ => ((ps ++ List.replicate ((s .o).count c + 1 - ps.length) []).set (zi ps.length).toNat (List.drop (0 : Int).toNat (List.take (IntKind.i64.wrap (m .o + 0)).toNat rest))).getD i []) = strCh fun _ => ((ps ++ [rest.take m']) ++ List.replicate ((s .o).count c + 1 - (ps ++ [rest.take m']).length) []).getD i []
            rw [hrep, hw0, zi_toNat]
            simp only [List.length_append, List.length_cons, List.length_nil, Int.toNat_zero, List.drop_zero, Nat.sub_sub, Nat.zero_add]
    · have hno : c ∉ rest := fun q => by have := List.count_pos_iff.2 q; omega
      have hps : splitC c (s .o) = ps ++ [rest] := by rw [hsp, splitC_no hno]
      cbv
      refine safe hin ?_
      refine put_rows strCh [] (ps ++ List.replicate ((s .o).count c + 1 - ps.length) []) rest rfl (fun i hi => rfl) hput rfl ?_
      cbv
      exact fin hps
theorem split_c (s : Th (List UInt8)) (c : UInt8) (hs : (s .o).length ≤ 1099511627776) {d : Nat} {K : ARes → BL → Prop} (hr : ∀ l : Th (List (List UInt8)), l .o = splitC c (s .o) → K (.ret (strs l)) .nil) :
    CallAt PT strings_Split [.str s, .str fun _ => [c]] d .nil K := by
  refine strings_Split.of rfl rfl ?_
  cbv
  refine genSplit_c s c hs fun l hl => ?_
  cbv
  exact hr _ hl
theorem split_el {c : UInt8} : ∀ {s p : List UInt8}, p ∈ splitC c s → p.length ≤ s.length
  | [], p, hp => by
    have : p = [] := by simpa [splitC] using hp
    subst this; exact Nat.le_refl _
  | y :: r, p, hp => by
    unfold splitC at hp
    by_cases h : y = c
    · rw [if_pos h] at hp
      rcases List.mem_cons.1 hp with rfl | hp
      · exact Nat.zero_le _
      · have := split_el hp; simp only [List.length_cons]; omega
    · rw [if_neg h] at hp
      cases hs : splitC c r with
      | nil => have := splitC_len c r; rw [hs] at this; simp at this
      | cons a t =>
        rw [hs] at hp
        rcases List.mem_cons.1 hp with rfl | hp
        · have := split_el (c := c) (s := r) (p := a) (by rw [hs]; simp)
          simp only [List.length_cons]; omega
        · have := split_el (c := c) (s := r) (p := p) (by rw [hs]; simp [hp])
          simp only [List.length_cons]; omega
end Go.Proofs.YtjjddmbnfkmfdaaDoor
/- Whether a wide list may be: walked. -/
namespace Go.Proofs.YtjjddmbnfkmfdaaDoor
open Go Go.Proofs.YtjjddmbnfkmfdaaDoor.Sx F
set_option linter.unusedVariables false
set_option linter.unusedSimpArgs false
def WideE.z : WideE := ⟨0, 0, 0, []⟩
def WideE.ch (w : Th WideE) : AV := .cons (.int .i64 fun _ => (w .o).type) (.cons (.int .i64 fun _ => (w .o).flags) (.cons (.int .i64 fun _ => (w .o).mask) (.cons (.str fun _ => (w .o).who) .nil)))
def WideE.av (w : Th WideE) : AV := .agg (WideE.ch w)
def wides (l : Th (List WideE)) : AV := .sl 4 (fun _ => (l .o).length) fun i => WideE.ch fun _ => (l .o).getD (i .o) WideE.z
def okW (w : WideE) : Bool := decide (w.who ≠ []) && decide (w.who.length ≤ 255) && !(w.who.any (oddL.contains ·)) && (decide (w.type = 1) || decide (w.type = 2)) && decide (0 ≤ w.flags) && decide (w.flags < 128) && decide (0 ≤ w.mask) && decide (w.mask < 16384)
theorem okW_iff (w : WideE) : okW w = true ↔ WideOk w := by
  unfold okW
  simp only [Bool.and_eq_true, Bool.or_eq_true, decide_eq_true_eq, Bool.not_eq_true', List.any_eq_false]
  constructor
  · rintro ⟨⟨⟨⟨⟨⟨⟨h1, h2⟩, h3⟩, h4⟩, h5⟩, h6⟩, h7⟩, h8⟩
    refine ⟨h4, ⟨h5, h6⟩, ⟨h7, h8⟩, h1, h2, fun c hc => ?_⟩
    have := h3 c hc
    simp only [oddL, List.contains_eq_mem, List.mem_cons, List.not_mem_nil, or_false, decide_eq_true_eq, not_or] at this
    exact ⟨this.1, this.2.1, this.2.2.1, this.2.2.2⟩
  · rintro ⟨h4, ⟨h5, h6⟩, ⟨h7, h8⟩, h1, h2, h3⟩
    refine ⟨⟨⟨⟨⟨⟨⟨h1, h2⟩, fun c hc => ?_⟩, h4⟩, h5⟩, h6⟩, h7⟩, h8⟩
    have := h3 c hc
    simp only [oddL, List.contains_eq_mem, List.mem_cons, List.not_mem_nil, or_false, decide_eq_true_eq, not_or]
    exact ⟨this.1, this.2.1, this.2.2.1, this.2.2.2⟩
theorem wmay_c (w : Th WideE) {d : Nat} {K : ARes → BL → Prop} (hr : ∀ b : Th Bool, b .o = okW (w .o) → K (.ret (.bool b)) .nil) : CallAt PT wide_may [WideE.av w] d .nil K := by
  refine CallAt.res ?_
  refine wide_may.of rfl rfl ?_
  cbv
  have fin : ∀ (b : Bool) {y : AV}, b = okW (w .o) → Same y (.bool fun _ => b) → ∃ r', SameR (.ret y) r' ∧ K r' .nil := fun b y h1 h2 => ⟨_, .ret h2, hr _ h1⟩
  refine br_ndec (fun h1 => ?_) (fun h1 => ?_)
  rotate_left
  · have h1 : (w .o).who = [] := h1
    cbv
    exact fin false (by unfold okW; simp [h1]) (.ff rfl)
  have h1 : ¬ (w .o).who = [] := h1
  cbv
  refine br_dec (fun h2 => ?_) (fun h2 => ?_)
  rotate_left
  · have h2' : ¬ (w .o).who.length ≤ 255 := fun q => h2 (by show zi _ ≤ 255; unfold zi; omega)
    cbv
    exact fin false (by unfold okW; simp [h2']) (.ff rfl)
  have h2' : (w .o).who.length ≤ 255 := by have : zi (w .o).who.length ≤ 255 := h2; unfold zi at this; omega
  cbv
  refine any_c (fun _ => (w .o).who) (by show (w .o).who.length < _; omega) fun b hb => ?_
  have hb : b .o = (w .o).who.any (oddL.contains ·) := hb
  cbv
  refine br_nbool (fun h3 => ?_) (fun h3 => ?_)
  rotate_left
  · rw [h3] at hb
    cbv
    exact fin false (by unfold okW; rw [← hb]; simp) (.ff rfl)
  rw [h3] at hb
  have ok : okW (w .o) = ((decide ((w .o).type = 1) || decide ((w .o).type = 2)) && decide (0 ≤ (w .o).flags) && decide ((w .o).flags < 128) && decide (0 ≤ (w .o).mask) && decide ((w .o).mask < 16384)) := by
    unfold okW
    rw [← hb, decide_eq_true h1, decide_eq_true h2']; rfl
  rw [ok] at fin
  clear ok hb
  cbv
  refine br_rev (br_dec (fun h4 => ?_) (fun h4 => ?_))
  rotate_left
  · have h4 : ¬ (w .o).type = 1 := h4
    cbv
    refine br_dec (fun h5 => ?_) (fun h5 => ?_)
    rotate_left
    · have h5 : ¬ (w .o).type = 2 := h5
      cbv
      exact fin false (by simp [h4, h5]) (.ff rfl)
    have h5 : (w .o).type = 2 := h5
    rw [decide_eq_false h4, decide_eq_true h5] at fin
    clear h4 h5
    cbv
    refine br_dec (fun h4 => ?_) (fun h4 => ?_)
    rotate_left
    · have h4 : ¬ 0 ≤ (w .o).flags := h4
      cbv
      exact fin false (by simp [h4]) (.ff rfl)
    have h4 : 0 ≤ (w .o).flags := h4
    cbv
    refine br_dec (fun h5 => ?_) (fun h5 => ?_)
    rotate_left
    · have h5 : ¬ (w .o).flags < 128 := h5
      cbv
      exact fin false (by simp [h5]) (.ff rfl)
    have h5 : (w .o).flags < 128 := h5
    cbv
    refine br_dec (fun h6 => ?_) (fun h6 => ?_)
    rotate_left
    · have h6 : ¬ 0 ≤ (w .o).mask := h6
      cbv
      exact fin false (by simp [h6]) (.ff rfl)
    have h6 : 0 ≤ (w .o).mask := h6
    cbv
    refine fin _ ?_ (Same.refl _)
    simp [h4, h5, h6]
  · have h4 : (w .o).type = 1 := h4
    rw [decide_eq_true h4] at fin
    clear h4
    cbv
    refine br_dec (fun h4 => ?_) (fun h4 => ?_)
    rotate_left
    · have h4 : ¬ 0 ≤ (w .o).flags := h4
      cbv
      exact fin false (by simp [h4]) (.ff rfl)
    have h4 : 0 ≤ (w .o).flags := h4
    cbv
    refine br_dec (fun h5 => ?_) (fun h5 => ?_)
    rotate_left
    · have h5 : ¬ (w .o).flags < 128 := h5
      cbv
      exact fin false (by simp [h5]) (.ff rfl)
    have h5 : (w .o).flags < 128 := h5
    cbv
    refine br_dec (fun h6 => ?_) (fun h6 => ?_)
    rotate_left
    · have h6 : ¬ 0 ≤ (w .o).mask := h6
      cbv
      exact fin false (by simp [h6]) (.ff rfl)
    have h6 : 0 ≤ (w .o).mask := h6
    cbv
    refine fin _ ?_ (Same.refl _)
    simp [h4, h5, h6]
theorem getD_mem {α : Type} {l : List α} {k : Nat} {z : α} (h : k < l.length) : l.getD k z ∈ l := by
  rw [List.getD_eq_getElem?_getD, List.getElem?_eq_getElem h]; exact List.getElem_mem h
def mayW (l : List WideE) : Bool := l.all okW && decide (l.length ≤ 32)
theorem mayW_iff (l : List WideE) : mayW l = true ↔ AllOk l := by
  unfold mayW AllOk
  simp only [Bool.and_eq_true, List.all_eq_true, decide_eq_true_eq]
  exact ⟨fun h => ⟨h.2, fun w hw => (okW_iff w).1 (h.1 w hw)⟩, fun h => ⟨fun w hw => (okW_iff w).2 (h.2 w hw), h.1⟩⟩
theorem maynot_c (w : Th WideE) {d : Nat} {K : ARes → BL → Prop} (hr : ∀ b : Th Bool, b .o = (!okW (w .o)) → K (.ret (.bool b)) .nil) : CallAt PT wide_May_1 [WideE.av w] d .nil K := by
  refine wide_May_1.of rfl rfl ?_
  cbv
  refine wmay_c w fun b hb => ?_
  cbv
  exact hr _ (by show (!b .o) = _; rw [hb])
theorem indexmay_c (l : Th (List WideE)) (hl : (l .o).length ≤ 1099511627776) {d : Nat} {K : ARes → BL → Prop} (hr : ∀ n : Th Int, n .o = ixP (fun w : WideE => !okW w) (l .o) → K (.ret (.int .i64 n)) .nil) :
    CallAt PT slices_IndexFunc_api_Wide_api_Wide [wides l, .fn (.func wide_May_1) .nil .nil] d .nil K := by
  refine slices_IndexFunc_api_Wide_api_Wide.of rfl rfl ?_
  cbv
  refine loop_at (X := Nat) 1000 [0, 1, 7] [] (fun _ k => .cons 8 (.int .i64 fun _ => zi k) .nil) (fun _ _ => .nil) (fun k => k ≤ (l .o).length ∧ ∀ j, j < k → (!okW ((l .o).getD j WideE.z)) = false) (fun k => (l .o).length - k) 0 ?_ ⟨Nat.zero_le _, fun j hj => absurd hj (Nat.not_lt_zero _)⟩ ?_
  · cbv
    (repeat' (first | exact True.intro | exact Same.refl _ | exact SameB.refl _ | exact ⟨rfl⟩ | exact Same.int rfl | exact Same.str rfl | exact Same.bool rfl | (refine Same.int ?_; simp only [List.length_append, List.length_cons, List.length_nil, zi]; omega) | (refine SameB.row' rfl fun i hi => ?_; first | rfl | exact absurd hi (Nat.not_lt_zero _)) | refine And.intro ?_ ?_ | refine SameB.cells ?_ | exact SameC.nil | refine SameC.cons ?_ ?_ | exact Same.nsl rfl | exact Same.tt rfl | exact Same.ff rfl))
  · rintro k ⟨hk, hall⟩
    cbv
    ((try refine br_rev ?_); (first | refine br_dec (fun h1 => ?_) (fun h1 => ?_) | refine br_ndec (fun h1 => ?_) (fun h1 => ?_) | refine br_nbool (fun h1 => ?_) (fun h1 => ?_) | refine br_bool (fun h1 => ?_) (fun h1 => ?_)); all_goals (try dsimp only at h1); all_goals (try with_reducible replace h1 := zi_lt.1 h1); all_goals (try with_reducible replace h1 := not_zlt h1))
    · cbv
      refine safe ⟨zi_nonneg _, zi_lt.2 h1⟩ ?_
      refine maynot_c (fun _ => (l .o).getD (zi k).toNat WideE.z) fun b hb => ?_
      rw [zi_toNat] at hb
      cbv
      refine br_bool (fun h2 => ?_) (fun h2 => ?_)
      · cbv
        exact hr _ (ixP_at _ WideE.z _ k h1 hall (hb.symm.trans h2)).symm
      · cbv
        refine ⟨k + 1, ⟨h1, fun j hj => ?_⟩, by show (l .o).length - (k + 1) < (l .o).length - k; omega, ?_⟩
        · rcases Nat.lt_or_ge j k with q | q
          · exact hall j q
          · obtain rfl : j = k := by omega
            exact hb.symm.trans h2
        · cbv
          rw [zi_succ (by omega)]
          (repeat' (first | exact True.intro | exact Same.refl _ | exact SameB.refl _ | exact ⟨rfl⟩ | exact Same.int rfl | exact Same.str rfl | exact Same.bool rfl | (refine Same.int ?_; simp only [List.length_append, List.length_cons, List.length_nil, zi]; omega) | (refine SameB.row' rfl fun i hi => ?_; first | rfl | exact absurd hi (Nat.not_lt_zero _)) | refine And.intro ?_ ?_ | refine SameB.cells ?_ | exact SameC.nil | refine SameC.cons ?_ ?_ | exact Same.nsl rfl | exact Same.tt rfl | exact Same.ff rfl))
    · cbv
      exact hr _ (ixP_no _ WideE.z _ fun j hj => hall j (by omega)).symm
theorem ixP_all {α : Type} (p : α → Bool) : ∀ l : List α, (!decide (0 ≤ ixP (fun x => !p x) l)) = l.all p
  | [] => rfl
  | x :: r => by
    have ih := ixP_all p r
    rw [List.all_cons, ← ih, ixP]
    cases hx : p x with
    | false => simp
    | true =>
      simp only [Bool.not_true, Bool.false_eq_true, if_false, Bool.true_and]
      congr 1
      rw [decide_eq_decide]
      have hg : -1 ≤ ixP (fun x => !p x) r := by
        clear ih hx
        induction r with
        | nil => exact Int.le_refl _
        | cons y r ih => rw [ixP]; split
                         · decide
                         · split <;> omega
      split <;> omega
theorem wMay_c (l : Th (List WideE)) (hl : (l .o).length ≤ 1099511627776) {d : Nat} {K : ARes → BL → Prop} (hr : ∀ b : Th Bool, b .o = mayW (l .o) → K (.ret (.bool b)) .nil) : CallAt PT wide_May [wides l] d .nil K := by
  refine CallAt.res ?_
  refine wide_May.of rfl rfl ?_
  cbv
  refine br_dec (fun h1 => ?_) (fun h1 => ?_)
  · have h1 : (l .o).length ≤ 32 := by have : zi (l .o).length ≤ 32 := h1; unfold zi at this; omega
    cbv
    refine slices_ContainsFunc_api_Wide_api_Wide.of rfl rfl ?_
    cbv
    refine indexmay_c l hl fun n hn => ?_
    cbv
    refine ⟨_, .ret (Same.refl _), hr _ ?_⟩
    show (!decide (0 ≤ n .o)) = _
    rw [hn, ixP_all]
    unfold mayW
    rw [decide_eq_true h1, Bool.and_true]
  · have h1 : ¬ (l .o).length ≤ 32 := fun q => h1 (by show zi _ ≤ 32; unfold zi; omega)
    cbv
    refine ⟨_, .ret (.ff rfl), hr (fun _ => false) ?_⟩
    unfold mayW
    rw [decide_eq_false h1, Bool.and_false]
end Go.Proofs.YtjjddmbnfkmfdaaDoor
/- Bits of whole numbers of 64 bits that are not negative: plain. -/
namespace Go.Proofs.YtjjddmbnfkmfdaaDoor
open Go Go.Proofs.YtjjddmbnfkmfdaaDoor.Sx
set_option linter.unusedVariables false
set_option linter.unusedSimpArgs false
theorem toNat64 {a : Nat} (h : a < 4611686018427387904) : (BitVec.ofInt 64 (a : Int)).toNat = a := by
  rw [BitVec.ofInt_natCast, BitVec.toNat_ofNat]; exact Nat.mod_eq_of_lt (by omega)
theorem and64 {a b : Nat} (ha : a < 4611686018427387904) (hb : b < 4611686018427387904) : bits .and .i64 (a : Int) (b : Int) = ((a &&& b : Nat) : Int) := by
  have hx : a &&& b ≤ a := Nat.and_le_left
  show IntKind.i64.wrap ((BitVec.ofInt 64 (a : Int) &&& BitVec.ofInt 64 (b : Int)).toNat : Int) = _
  rw [BitVec.toNat_and, toNat64 ha, toNat64 hb, IntKind.wrap_i64]
  omega
theorem or64 {a b : Nat} (ha : a < 4611686018427387904) (hb : b < 4611686018427387904) : bits .or .i64 (a : Int) (b : Int) = ((a ||| b : Nat) : Int) := by
  have hx : a ||| b < 2 ^ 62 := Nat.or_lt_two_pow (by omega) (by omega)
  show IntKind.i64.wrap ((BitVec.ofInt 64 (a : Int) ||| BitVec.ofInt 64 (b : Int)).toNat : Int) = _
  rw [BitVec.toNat_or, toNat64 ha, toNat64 hb, IntKind.wrap_i64]
  omega
theorem shr1 {n k : Nat} (h : n < 4611686018427387904) : bits .and .i64 ((n : Int) / 2 ^ k) 1 = if n.testBit k then 1 else 0 := by
  have e : ((n : Int) / 2 ^ k) = ((n / 2 ^ k : Nat) : Int) := by rw [Int.natCast_ediv]; norm_cast
  have h2 : n / 2 ^ k ≤ n := Nat.div_le_self _ _
  rw [e, show (1 : Int) = ((1 : Nat) : Int) from rfl, and64 (by omega) (by decide), Nat.and_one_is_mod, Nat.testBit_eq_decide_div_mod_eq]
  rcases Nat.mod_two_eq_zero_or_one (n / 2 ^ k) with q | q <;> simp [q]
theorem fdiv_pow (n : Int) (k : Nat) : n.fdiv (2 ^ k) = n / 2 ^ k := by
  rw [Int.fdiv_eq_ediv_of_nonneg]
  exact Int.le_of_lt (Int.pow_pos (by decide))
/-- A bit, as the executor tells of it. -/
theorem abit {n : Int} {k : Nat} (h0 : 0 ≤ n) (h : n < 4611686018427387904) (hk : k ≤ 64) : abits .and .i64 (n.fdiv (2 ^ min (zi k).toNat IntKind.i64.bits)) 1 = if n.toNat.testBit k then 1 else 0 := by
  have e : min (zi k).toNat IntKind.i64.bits = k := by rw [zi_toNat]; show min k 64 = k; omega
  rw [e, fdiv_pow]
  have := shr1 (n := n.toNat) (k := k) (by omega)
  rw [Int.toNat_of_nonneg h0] at this
  exact this
end Go.Proofs.YtjjddmbnfkmfdaaDoor
/- A builder's methods: the kit's contracts at this program, laid by hand (its tool passes them by). -/
namespace Go.Proofs
open Go.Shelf
def Tryd.bld_ren : Go.Shelf.Ren := ⟨fun | 167 => 36 | 240 => 46 | 276 => 57 | 169 => 37 | n => n, fun | 0 => 0 | 3 => 3 | 4 => 4 | 5 => 5 | 9 => 9 | 20 => 20 | 37 => 38 | 70 => 59 | 72 => 61 | 127 => 72 | 164 => 82 | 75 => 63 | 80 => 65 | n => n, fun | n => n⟩
theorem Tryd.bl240 : Go.Proofs.Lays.n240 Tryd.prog Tryd.bld_ren := {
  mixed := by kernel_rfl
  f240 := Tryd.func46.trans (congrArg some (by kernel_rfl))
  f276 := Tryd.func57.trans (congrArg some (by kernel_rfl))
  t0 := Tryd.underlying0
  a0 := Tryd.isAgg0
  z0 := Tryd.sizeOf0
  v0 := Tryd.zeroValue0
  t4 := Tryd.underlying4
  a4 := Tryd.isAgg4
  z4 := Tryd.sizeOf4
  v4 := Tryd.zeroValue4
  t9 := Tryd.underlying9
  a9 := Tryd.isAgg9
  z9 := Tryd.sizeOf9
  v9 := Tryd.zeroValue9
  t20 := Tryd.underlying20
  a20 := Tryd.isAgg20
  z20 := Tryd.sizeOf20
  v20 := Tryd.zeroValue20
  t70 := Tryd.underlying59
  a70 := Tryd.isAgg59
  z70 := Tryd.sizeOf59
  v70 := Tryd.zeroValue59
  t72 := Tryd.underlying61
  a72 := Tryd.isAgg61
  z72 := Tryd.sizeOf61
  v72 := Tryd.zeroValue61
  t164 := Tryd.underlying82
  a164 := Tryd.isAgg82
  z164 := Tryd.sizeOf82
  v164 := Tryd.zeroValue82 }
theorem Tryd.bl169 : Go.Proofs.Lays.n169 Tryd.prog Tryd.bld_ren := {
  mixed := by kernel_rfl
  f169 := Tryd.func37.trans (congrArg some (by kernel_rfl))
  t0 := Tryd.underlying0
  a0 := Tryd.isAgg0
  z0 := Tryd.sizeOf0
  v0 := Tryd.zeroValue0
  t3 := Tryd.underlying3
  a3 := Tryd.isAgg3
  z3 := Tryd.sizeOf3
  v3 := Tryd.zeroValue3
  t9 := Tryd.underlying9
  a9 := Tryd.isAgg9
  z9 := Tryd.sizeOf9
  v9 := Tryd.zeroValue9
  t37 := Tryd.underlying38
  a37 := Tryd.isAgg38
  z37 := Tryd.sizeOf38
  v37 := Tryd.zeroValue38
  t70 := Tryd.underlying59
  a70 := Tryd.isAgg59
  z70 := Tryd.sizeOf59
  v70 := Tryd.zeroValue59
  t72 := Tryd.underlying61
  a72 := Tryd.isAgg61
  z72 := Tryd.sizeOf61
  v72 := Tryd.zeroValue61
  t127 := Tryd.underlying72
  a127 := Tryd.isAgg72
  z127 := Tryd.sizeOf72
  v127 := Tryd.zeroValue72 }
theorem Tryd.bldX : Builder.Extra Tryd.prog Tryd.bld_ren := {
  sizeBuilder := by kernel_rfl
  liesBuilder := by kernel_rfl
  t5 := Tryd.underlying5
  a5 := Tryd.isAgg5
  z5 := Tryd.sizeOf5
  v5 := Tryd.zeroValue5
  infoByte := by kernel_rfl
  cellsByte := by kernel_rfl
  sizeByte := by kernel_rfl
  neB5 := by decide }
end Go.Proofs
/- A builder whose buffer lies above all that a call has made ahead of it: its methods, with all else kept. -/
namespace Go.Proofs.YtjjddmbnfkmfdaaDoor
open Go Go.RowKit Go.Shelf
set_option linter.unusedVariables false
set_option linter.unusedSimpArgs false
/-- A builder in block b holds the bytes bs; its buffer lies from R on. -/
structure BX (R b : Nat) (bs : List Value) (w : World) : Prop where
  lt : b < R
  le : R ≤ w.heap.size
  ex : ∃ p v, (p = .pointer none ∨ p = .pointer (some ⟨b, 0, none⟩)) ∧ w.heap[b]? = some (.cells #[p, v] 61 (0, 0)) ∧ w.ownsRow R 5 1 v bs.length bs
/-- All below R but block b is as it was. -/
structure FX (R b : Nat) (w w' : World) : Prop where
  os : w'.os = w.os
  tape : w'.tape = w.tape
  output : w'.output = w.output
  size : w.heap.size ≤ w'.heap.size
  block : ∀ k, k < R → k ≠ b → w'.heap[k]? = w.heap[k]?
theorem FX.refl (R b : Nat) (w : World) : FX R b w w := ⟨rfl, rfl, rfl, Nat.le_refl _, fun _ _ _ => rfl⟩
theorem FX.trans {R b : Nat} {u v w : World} (h : FX R b u v) (k : FX R b v w) : FX R b u w :=
  ⟨k.os.trans h.os, k.tape.trans h.tape, k.output.trans h.output, Nat.le_trans h.size k.size, fun i hi hb => (k.block i hi hb).trans (h.block i hi hb)⟩
theorem FX.below {R b : Nat} {w w' : World} (h : FX R b w w') (hR : b ≤ R) : Below b w w' := ⟨h.os, h.tape, h.output, h.size, fun k hk => h.block k (by omega) (by omega)⟩
theorem FX.cell {R b : Nat} {w w' : World} (h : FX R b w w') {k : Nat} (hk : k < R) (hb : k ≠ b) (o : Nat) : w'.cell? ⟨k, o, none⟩ = w.cell? ⟨k, o, none⟩ := World.cell?_of_block (w := w) (h.block k hk hb)
theorem FX.setCell {R b : Nat} {u w : World} (h : FX R b u w) (o : Nat) (v : Value) : FX R b u (w.setCell ⟨b, o, none⟩ v) :=
  ⟨h.os, h.tape, h.output, by simpa [World.setCell] using h.size, fun k hk hb => (Below.heap_setCell w ⟨b, o, none⟩ v k hb).trans (h.block k hk hb)⟩
theorem FX.alloc {R b : Nat} {u w : World} (h : FX R b u w) (hR : R ≤ w.heap.size) (o : Obj) : FX R b u (w.alloc o) :=
  ⟨h.os, h.tape, h.output, Nat.le_trans h.size (by simp), fun k hk hb => (Below.heap_alloc w o k (by omega)).trans (h.block k hk hb)⟩
theorem FX.grown {R b : Nat} {u w w' : World} {row : Option Nat} (h : FX R b u w) (hg : w.grownBy w' row) (hR : R ≤ w.heap.size) (hr : ∀ k, row = some k → R ≤ k) : FX R b u w' :=
  ⟨hg.os.trans h.os, hg.tape.trans h.tape, hg.output.trans h.output, Nat.le_trans h.size hg.size, fun k hk hb => (hg.block k (by omega) (fun e => by have := hr k e.symm; omega)).trans (h.block k hk hb)⟩
theorem owns_of {R : Nat} {e : TypeId} {v : Value} {n : Nat} {xs : List Value} {w w' : World} (h : w.ownsRow R e 1 v n xs) (hk : ∀ k, R ≤ k → k < w.heap.size → w'.heap[k]? = w.heap[k]?) : w'.ownsRow R e 1 v n xs := by
  refine ⟨h.1, ?_⟩
  rcases h.2 with hn | ⟨g, cap, cur, hv, hb, hg, rest⟩
  · exact .inl hn
  · exact .inr ⟨g, cap, cur, hv, hb, by rw [hk g hb (Array.getElem?_eq_some_iff.1 hg).1]; exact hg, rest⟩
theorem owns_setCell {R b : Nat} {e : TypeId} {v : Value} {n : Nat} {xs : List Value} {w : World} (h : w.ownsRow R e 1 v n xs) (hb : b < R) (o : Nat) (u : Value) : (w.setCell ⟨b, o, none⟩ u).ownsRow R e 1 v n xs :=
  owns_of h fun k hk _ => Below.heap_setCell w ⟨b, o, none⟩ u k (by show k ≠ b; omega)
theorem owns_lt {R : Nat} {e : TypeId} {v : Value} {n : Nat} {xs : List Value} {w : World} (h : w.ownsRow R e 1 v n xs) : ∀ k, v.ownBlock = some k → R ≤ k := by
  intro k hk
  rcases h.2 with ⟨rfl, _⟩ | ⟨g, cap, cur, rfl, hb, _⟩
  · simp [Value.ownBlock] at hk
  · simp [Value.ownBlock] at hk; omega
theorem heap_set2 {w : World} {b : Nat} {p v : Value} {T : TypeId} (h : w.heap[b]? = some (.cells #[p, v] T (0, 0))) (q : Value) : (w.setCell ⟨b, 0, none⟩ q).heap[b]? = some (.cells #[q, v] T (0, 0)) ∧ (w.setCell ⟨b, 1, none⟩ q).heap[b]? = some (.cells #[p, q] T (0, 0)) := by
  constructor <;> simp [World.setCell, Array.getElem?_modify, h]
theorem BX.is {R b : Nat} {bs : List Value} {w : World} (h : BX R b bs w) : Lib.IsBuilder 61 5 b b bs w := by
  obtain ⟨p, v, hp, hb, hown⟩ := h.ex
  have hlt := h.lt
  have hne : v.ownBlock ≠ some b := fun e => by have := owns_lt hown b e; omega
  have ho : w.ownsRow b 5 1 v bs.length bs := by
    refine ⟨hown.1, ?_⟩
    rcases hown.2 with hn | ⟨g, cap, cur, hv, hg, rest⟩
    · exact .inl hn
    · exact .inr ⟨g, cap, cur, hv, by omega, rest⟩
  rcases hp with rfl | rfl
  · exact .inl ⟨Nat.le_refl _, v, hb, ho, hne⟩
  · exact .inr ⟨Nat.le_refl _, v, hb, ho, hne⟩
theorem BX.drew {R b : Nat} {bs : List Value} {w : World} (h : BX R b bs w) : BX R b bs w.drew := ⟨h.lt, h.le, h.ex⟩
theorem BX.alloc {R b : Nat} {bs : List Value} {w : World} (h : BX R b bs w) (o : Obj) : BX R b bs (w.alloc o) := by
  obtain ⟨p, v, hp, hb, hown⟩ := h.ex
  have h1 := h.lt
  have h2 := h.le
  exact ⟨h1, Nat.le_trans h2 (by simp), p, v, hp, by rw [Lib.alloc_old w _ b (by omega)]; exact hb, owns_of hown fun k _ hk => Lib.alloc_old w _ k hk⟩
theorem FX.drew {R b : Nat} {u w : World} (h : FX R b u w) : FX R b u w.drew := ⟨h.os, h.tape, h.output, h.size, h.block⟩
theorem bcheck_m (R b : Nat) (bs : List Value) (w : World) (h : BX R b bs w) : Calls Tryd.prog 46 #[.pointer (some ⟨b, 0, none⟩)] w fun e w' => e = .returned (.tuple #[]) ∧ BX R b bs w' ∧ FX R b w w' ∧ ∀ k, k ≠ b → w'.heap[k]? = w.heap[k]? := by
  have h' := h
  obtain ⟨p, v, hp, hb, hown⟩ := h.ex
  rcases hp with rfl | rfl
  · refine (Any.Builder_copyCheck_fresh Tryd.bl240 Tryd.bldX.toX72 b w (by rw [Lib.cell_of_heap hb]; rfl) (by simp [World.shape?, hb]; rfl) (by simp [World.frozen?, hb])).mono ?_
    rintro e w' ⟨rfl, rfl⟩
    exact ⟨rfl, ⟨h.lt, by simpa [World.setCell] using h.le, _, v, .inr rfl, (heap_set2 hb _).1, owns_setCell hown h.lt 0 _⟩, (FX.refl R b w).setCell 0 _, fun k hk => Below.heap_setCell w ⟨b, 0, none⟩ _ k hk⟩
  · refine (Any.Builder_copyCheck_used Tryd.bl240 Tryd.bldX.toX72 b w (by rw [Lib.cell_of_heap hb]; rfl)).mono ?_
    rintro e w' ⟨rfl, rfl⟩
    exact ⟨rfl, h', .refl R b _, fun _ _ => rfl⟩
set_option maxHeartbeats 2000000 in
set_option maxRecDepth 100000 in
/-- WriteByte. -/
theorem bbyte_m (R b : Nat) (bs : List Value) (c : Int) (w : World) (h : BX R b bs w) (hlen : bs.length + 1 ≤ 140737488355328) : Calls Tryd.prog 36 #[.pointer (some ⟨b, 0, none⟩), .int .u8 c] w fun e w' => e = .returned .nilIface ∧ BX R b (bs ++ [.int .u8 c]) w' ∧ FX R b w w' := by
  have X := Tryd.bldX
  obtain ⟨i0, hi, hz0, hz1, hz2⟩ := info_parts X.infoByte
  go_enter Tryd.func36, Tryd.ntmps36
  go_wp2_with fail
  go_at_call 46
  refine (bcheck_m R b bs _ h).mono ?_
  rintro e w1 ⟨rfl, h1, hb1, hot⟩
  obtain ⟨p, v, hp, hbk, hown⟩ := h1.ex
  have c1 : w1.cell? ⟨b, 1, none⟩ = some v := by rw [Lib.cell_of_heap hbk]; rfl
  have hle := h1.le
  have hlt := h1.lt
  go_wp2_with (at_builtin; refine wpList_append_own _ rfl _ _ 38 rfl R 5 i0 (.int .u8 0) 1 1 Tryd.underlying38 hi hz0 hz1 hz2 rfl (by decide) _ _ _ rfl (hown.alloc _) ⟨w1.heap.size, 0, none⟩ 1 1 [.int .u8 c] rfl rfl ?c1 ?c2 ?c3 ?c4 ?c5 ?_)
  case c1 =>
    intro j u hj
    match j, hj with
    | 0, hj => simp at hj; subst hj; simp [Addr.add]
  case c2 => intro u hu; simp at hu; subst hu; rfl
  case c3 => unfold maxLen; omega
  case c4 => omega
  case c5 => simp; omega
  intro v' w2 hown' hgrow _
  have hb2 : w2.heap[b]? = some (.cells #[p, v] 61 (0, 0)) := by
    rw [hgrow.block b (by simp; omega) (fun e => by have := owns_lt hown b e.symm; omega), Lib.alloc_old w1 _ b (by omega)]
    exact hbk
  have d1 : w2.cell? ⟨b, 1, none⟩ = some v := by rw [Lib.cell_of_heap hb2]; rfl
  have f1 : w2.frozen? ⟨b, 1, none⟩ = false := Lib.frozen_of_heap hb2 1
  have hs2 : R ≤ w2.heap.size := Nat.le_trans (by simp; omega) hgrow.size
  obtain ⟨g, cap, rfl⟩ : ∃ g cap, v' = .slice (some ⟨g, 0, none⟩) (bs.length + 1) cap := by
    rcases hown'.2 with ⟨_, h0⟩ | ⟨g, cap, cur, hv, _⟩
    · omega
    · exact ⟨g, cap, hv⟩
  go_wp2
  go_ret
  refine ⟨rfl, ⟨hlt, by simpa [World.setCell] using hs2, p, _, hp, (heap_set2 hb2 _).2, ?_⟩, (FX.grown (hb1.alloc hle _) hgrow (by simp; omega) (fun k hk => owns_lt hown k hk)).setCell 1 _⟩
  exact owns_setCell (by simpa using hown') hlt 1 _
end Go.Proofs.YtjjddmbnfkmfdaaDoor
/- wide.chosen, at the machine's level, by the kit's walk; then as a contract. -/
namespace Go.Proofs.YtjjddmbnfkmfdaaDoor
open Go Go.RowKit Go.Shelf
set_option linter.unusedVariables false
set_option linter.unusedSimpArgs false
theorem chS_len (ls : List UInt8) (n : Nat) : ∀ k, (chS ls n k).length ≤ k
  | 0 => Nat.le_refl _
  | k + 1 => by
    have := chS_len ls n k
    rw [chS, List.length_append]
    split <;> simp <;> omega
set_option maxHeartbeats 2000000 in
set_option maxRecDepth 100000 in
theorem chos_m (n : Nat) (s : ByteArray) (w : World) (hn : n < 16384) (hs : s.size ≤ 14) : Calls Tryd.prog 26 #[.int .i64 n, .string s] w fun e w' => e = .returned (.string ⟨(chS s.data.toList n s.size).toArray⟩) ∧ Below w.heap.size w w' := by
  go_enter Tryd.func26, Tryd.ntmps26
  go_wp2
  rw [Lib.run_convert_string_bytes _ _ _ 5 s Tryd.underlying9 Tryd.underlying38 Tryd.underlying5]
  simp only [Result.andThen]
  rw [Oper.upon_value]
  go_wp2
  generalize hW0 : w.alloc (Obj.cells #[Value.pointer none, Value.slice none 0 0] 61) = w0
  have hw0 : w0.heap.size = w.heap.size + 1 := by rw [← hW0]; simp
  have hb0 : w0.heap[w.heap.size]? = some (.cells #[.pointer none, .slice none 0 0] 61 (0, 0)) := by rw [← hW0]; exact heap_alloc_new w _
  have hbel0 : Below w.heap.size w w0 := by rw [← hW0]; exact (Below.refl _ w).alloc (Nat.le_refl _) _
  have HB0 : Hid (BX (w.heap.size + 2) w.heap.size (Lib.byteCells (chS s.data.toList n 0)) (Lib.bytesWorld w0 5 s)) := ⟨by omega, by rw [Lib.bytesWorld_size, hw0]; exact Nat.le_refl _, .pointer none, .slice none 0 0, .inl rfl, by rw [Lib.bytesWorld_at_old _ _ _ _ (by omega)]; exact hb0, ⟨rfl, .inl ⟨rfl, rfl⟩⟩⟩
  have HF0 : Hid (FX (w.heap.size + 2) w.heap.size (Lib.bytesWorld w0 5 s) (Lib.bytesWorld w0 5 s)) := FX.refl _ _ _
  clear hb0
  go_loopw [11] (fun v wr => ∃ k : Nat, k ≤ s.size ∧ v = .int .i64 k ∧ Hid (BX (w.heap.size + 2) w.heap.size (Lib.byteCells (chS s.data.toList n k)) wr) ∧ Hid (FX (w.heap.size + 2) w.heap.size (Lib.bytesWorld w0 5 s) wr)) (fun v _ => s.size - (intOf v).toNat)
  case atStart => exact ⟨0, Nat.zero_le _, rfl, HB0, HF0⟩
  case round =>
    obtain ⟨k, hk, rfl, HB, HF⟩ := hrel
    by_cases hlt : k < s.size
    · obtain ⟨c, hcd⟩ : ∃ c, s.data.toList[k]'(by simpa using hlt) = c := ⟨_, rfl⟩
      have hc : wr.cell? ⟨w.heap.size + 1, k, none⟩ = some (.int .u8 c.toNat) := by
        rw [HF.out.cell (by omega) (by omega), ← hw0, Lib.bytesWorld_cell w0 _ s k hlt, ← hcd, List.getD_eq_getElem?_getD, List.getElem?_eq_getElem (by simpa using hlt)]; rfl
      have hcg : s.data.toList.getD k 0 = c := by rw [← hcd, List.getD_eq_getElem?_getD, List.getElem?_eq_getElem (by simpa using hlt)]; rfl
      have hlen : (Lib.byteCells (chS s.data.toList n k)).length ≤ k := by
        rw [Lib.byteCells_length]
        exact chS_len _ _ _
      have hbit := shr1 (n := n) (k := k) (by omega)
      cases hb : n.testBit k with
      | true =>
        have hnx : chS s.data.toList n (k + 1) = chS s.data.toList n k ++ [c] := by rw [chS, hb, hcg]; rfl
        rw [hb, if_pos rfl] at hbit
        have hpos : 0 < bits BinOp.and IntKind.i64 ((n : Int) / 2 ^ k) 1 := by rw [hbit]; decide
        clear hbit
        go_wp2_with fail
        refine (bbyte_m (w.heap.size + 2) w.heap.size _ _ _ HB.out (by omega)).mono ?_
        rintro e w2 ⟨rfl, h2, hf2⟩
        have H2 : Hid (BX (w.heap.size + 2) w.heap.size (Lib.byteCells (chS s.data.toList n (k + 1))) w2) := by
          rw [hnx, Lib.byteCells_append]; exact h2
        have F2 : Hid (FX (w.heap.size + 2) w.heap.size (Lib.bytesWorld w0 5 s) w2) := HF.out.trans hf2
        clear h2 hf2
        go_wp2
        exact ⟨⟨k + 1, by omega, by go_num, H2, F2⟩, by simp [intOf]; omega⟩
      | false =>
        have hnx : chS s.data.toList n (k + 1) = chS s.data.toList n k := by rw [chS, hb]; simp
        rw [hb, if_neg (by simp)] at hbit
        have hpos : ¬ 0 < bits BinOp.and IntKind.i64 ((n : Int) / 2 ^ k) 1 := by rw [hbit]; decide
        clear hbit
        go_wp2_with fail
        exact ⟨⟨k + 1, by omega, by go_num, by rw [hnx]; exact HB, HF⟩, by simp [intOf]; omega⟩
    · have hke : k = s.size := by omega
      subst hke
      have HB' := HB.out
      go_wp2_with fail
      refine (Any.Builder_String_any Tryd.bl169 Tryd.bldX w.heap.size w.heap.size _ wr HB'.is (by have := HB'.le; omega)).mono ?_
      rintro e w5 ⟨rfl, hb5⟩
      have hb6 : Below w.heap.size w (Lib.bytesWorld w0 5 s) := hbel0.trans ⟨rfl, rfl, rfl, by rw [Lib.bytesWorld_size]; omega, fun j hj => Lib.bytesWorld_at_old w0 _ s j (by omega)⟩
      have Hb5 : Hid (Below w.heap.size w w5) := (hb6.trans (HF.out.below (by omega))).trans hb5
      clear hb5 hb6 HB'
      go_wp2
      go_ret
      exact ⟨rfl, Hb5.out⟩
open Go.Proofs.YtjjddmbnfkmfdaaDoor.Sx F
theorem chos_c (n : Th Int) (ls : List UInt8) (h0 : 0 ≤ n .o) (h1 : n .o < 16384) (hl : ls.length ≤ 14) {d : Nat} {K : ARes → BL → Prop} (hr : ∀ t : Th (List UInt8), t .o = chS ls (n .o).toNat ls.length → K (.ret (.str t)) .nil) : CallAt PT wide_chosen [.int .i64 n, .str fun _ => ls] d .nil K := by
  refine CallAt.of_below (by kernel_rfl) fun E vs hb hv => ?_
  obtain ⟨v1, r1, rfl, h1', v2, r2, rfl, h2, rfl⟩ : ∃ v1 r1, vs = v1 :: r1 ∧ Rp E (.int .i64 n) v1 ∧ ∃ v2 r2, r1 = v2 :: r2 ∧ Rp E (.str fun _ => ls) v2 ∧ r2 = [] := hv
  obtain rfl : v1 = .int .i64 (n .o) := h1'
  obtain rfl : v2 = .string ⟨ls.toArray⟩ := h2
  have e : n .o = ((n .o).toNat : Int) := (Int.toNat_of_nonneg h0).symm
  have key := chos_m (n .o).toNat ⟨ls.toArray⟩ E.w (by omega) (by show ls.toArray.size ≤ _; simpa using hl)
  rw [← e] at key
  refine key.mono ?_
  rintro e w' ⟨rfl, hbl⟩
  refine ⟨.ret (.str fun _ => chS ls (n .o).toNat ls.length), rfl, ?_, hr _ rfl, hbl⟩
  show Value.string _ = Value.string _
  rfl
end Go.Proofs.YtjjddmbnfkmfdaaDoor
/- Letters of bits, and bits of letters: walked. -/
namespace Go.Proofs.YtjjddmbnfkmfdaaDoor
open Go Go.Proofs.YtjjddmbnfkmfdaaDoor.Sx F
set_option linter.unusedVariables false
set_option linter.unusedSimpArgs false
theorem indexByte_find (c : UInt8) : ∀ ls : List UInt8, Lib.indexByte ls c = match ls.findIdx? (· == c) with | some i => (i : Int) | none => -1
  | [] => rfl
  | x :: r => by
    have ih := indexByte_find c r
    rw [Lib.indexByte, List.findIdx?_cons]
    cases hx : (x == c) with
    | true => rfl
    | false =>
      rw [ih]
      cases hf : r.findIdx? (· == c) with
      | none => rfl
      | some i =>
        simp only [Option.map_some, Bool.false_eq_true, if_false]
        rw [if_neg (by simp)]
        simp
theorem sIndexByte_c (ls : List UInt8) (c : Th Int) {d : Nat} {K : ARes → BL → Prop} (hr : ∀ n : Th Int, n .o = Lib.indexByte ls (c .o).toNat.toUInt8 → K (.ret (.int .i64 n)) .nil) : CallAt PT 44 [.str fun _ => ls, .int .u8 c] d .nil K := by
  refine CallAt.of_below (by kernel_rfl) fun E vs hb hv => ?_
  obtain ⟨v1, r1, rfl, h1, v2, r2, rfl, h2, rfl⟩ : ∃ v1 r1, vs = v1 :: r1 ∧ Rp E (.str fun _ => ls) v1 ∧ ∃ v2 r2, r1 = v2 :: r2 ∧ Rp E (.int .u8 c) v2 ∧ r2 = [] := hv
  obtain rfl : v1 = .string ⟨ls.toArray⟩ := h1
  obtain rfl : v2 = .int .u8 (c .o) := h2
  refine (sIndexByte_m ⟨ls.toArray⟩ (c .o) E.w).mono ?_
  rintro e w' ⟨rfl, rfl⟩
  exact ⟨.ret (.int .i64 fun _ => Lib.indexByte ls (c .o).toNat.toUInt8), rfl, rfl, hr _ rfl, RowKit.Below.refl _ _⟩
def noPartV (s : Th (List UInt8)) : AV := .ifc 44 (.agg (.cons (.str s) .nil))
def stepU (ls : List UInt8) (a : Option Nat) (c : UInt8) : Option Nat := match a, ls.findIdx? (· == c) with | some n, some i => some (n ||| 2 ^ i) | _, _ => none
theorem stepU_none (ls : List UInt8) : ∀ s : List UInt8, s.foldl (stepU ls) none = none
  | [] => rfl
  | c :: r => by rw [List.foldl_cons]; exact stepU_none ls r
theorem drop_one {α β : Type} (f : β → α → β) (l : List α) (z : α) {k : Nat} (h : k < l.length) (a : β) : (l.drop k).foldl f a = (l.drop (k + 1)).foldl f (f a (l.getD k z)) := by
  rw [← List.getElem_cons_drop h, List.foldl_cons, List.getD_eq_getElem?_getD, List.getElem?_eq_getElem h]; rfl
theorem find_lt {ls : List UInt8} {c : UInt8} {i : Nat} (h : ls.findIdx? (· == c) = some i) : i < ls.length := (List.findIdx?_eq_some_iff_getElem.1 h).1
theorem or_pow {n i : Nat} (hn : n < 16384) (hi : i < 14) : n ||| 2 ^ i < 16384 := Nat.or_lt_two_pow (n := 14) hn (Nat.pow_lt_pow_right (by decide) hi)
theorem orz {n i : Nat} {m : Int} (hn : n < 16384) (hi : i < 14) (hm : m = (i : Int)) : abits .or .i64 (zi n) (IntKind.i64.wrap (1 * 2 ^ min m.toNat IntKind.i64.bits)) = zi (n ||| 2 ^ i) := by
  subst hm
  have e : min ((i : Int)).toNat IntKind.i64.bits = i := by show min i 64 = i; omega
  have hp : 2 ^ i < 2 ^ 14 := Nat.pow_lt_pow_right (by decide) hi
  have hc : ((2 : Int) ^ i) = ((2 ^ i : Nat) : Int) := by norm_cast
  have e2 : IntKind.i64.wrap (1 * 2 ^ i) = ((2 ^ i : Nat) : Int) := by rw [IntKind.wrap_i64, Int.one_mul, hc]; generalize 2 ^ i = p at hp; omega
  rw [e, e2]
  generalize 2 ^ i = p at hp
  exact or64 (by omega) (by omega)
theorem wbits_c (s : Th (List UInt8)) (ls : List UInt8) (hs : (s .o).length ≤ 1099511627776) (hl : ls.length ≤ 14) {d : Nat} {K : ARes → BL → Prop} (hr : ∀ n : Th Nat, unS ls (s .o) = some (n .o) → n .o < 16384 → K (.ret (.int .i64 fun _ => zi (n .o))) .nil)
    (hp : ∀ t, unS ls (s .o) = none → K (.pan (noPartV t)) .nil) : CallAt PT wide_bits [.str s, .str fun _ => ls] d .nil K := by
  refine wide_bits.of rfl rfl ?_
  cbv
  refine loop_at (X := Nat × Nat) 1000 [0, 1, 10, 11] [] (fun _ x => .cons 5 (.int .i64 fun _ => zi x.2) (.cons 12 (.int .i64 fun _ => zi x.1) .nil)) (fun _ _ => .nil) (fun x => x.1 ≤ (s .o).length ∧ x.2 < 16384 ∧ unS ls (s .o) = ((s .o).drop x.1).foldl (stepU ls) (some x.2)) (fun x => (s .o).length - x.1) (0, 0) ?_ ⟨Nat.zero_le _, by decide, rfl⟩ ?_
  · cbv
    (repeat' (first | exact True.intro | exact Same.refl _ | exact SameB.refl _ | exact ⟨rfl⟩ | exact Same.int rfl | exact Same.str rfl | exact Same.bool rfl | (refine Same.int ?_; simp only [List.length_append, List.length_cons, List.length_nil, zi]; omega) | (refine SameB.row' rfl fun i hi => ?_; first | rfl | exact absurd hi (Nat.not_lt_zero _)) | refine And.intro ?_ ?_ | refine SameB.cells ?_ | exact SameC.nil | refine SameC.cons ?_ ?_ | exact Same.nsl rfl | exact Same.tt rfl | exact Same.ff rfl))
  · rintro ⟨k, n⟩ ⟨hk, hn, hu⟩
    dsimp only at hk hn hu
    cbv
    refine br_zlt (fun h1 => ?_) (fun h1 => ?_)
    · have h1 : k < (s .o).length := h1
      have hz := zi_toNat k
      rw [drop_one (stepU ls) (s .o) 0 h1] at hu
      cbv
      refine safe ⟨zi_nonneg _, zi_lt.2 h1⟩ ?_
      refine sIndexByte_c ls (fun _ => zi ((s .o).getD (zi k).toNat 0).toNat) fun m hm => ?_
      have hm : m .o = Lib.indexByte ls ((s .o).getD k 0) := by
        rw [hm, hz]
        congr 1
        show (zi _).toNat.toUInt8 = _
        rw [zi_toNat]; simp
      rw [indexByte_find] at hm
      cbv
      refine br_dec (fun h2 => ?_) (fun h2 => ?_)
      · have h2 : m .o < 0 := h2
        cbv
        cases hf : ls.findIdx? (· == (s .o).getD k 0) with
        | some i => simp only [hf] at hm; exact absurd h2 (by rw [hm]; exact Int.not_lt.2 (Int.natCast_nonneg i))
        | none =>
          refine hp _ ?_
          rw [hu]
          show (List.drop (k + 1) (s .o)).foldl (stepU ls) (match some n, ls.findIdx? (· == (s .o).getD k 0) with | some n, some i => some (n ||| 2 ^ i) | _, _ => none) = none
          rw [hf]
          exact stepU_none ls _
      · have h2 : ¬ m .o < 0 := h2
        cbv
        cases hf : ls.findIdx? (· == (s .o).getD k 0) with
        | none => rw [hf] at hm; simp only at hm; omega
        | some i =>
          rw [hf] at hm
          simp only at hm
          have hi := find_lt hf
          refine safe (by rw [hm]; exact Int.natCast_nonneg i) ?_
          refine ⟨(k + 1, n ||| 2 ^ i), ⟨h1, or_pow hn (by omega), ?_⟩, by show (s .o).length - (k + 1) < (s .o).length - k; omega, ?_⟩
          · rw [hu]
            show (List.drop (k + 1) (s .o)).foldl (stepU ls) (match some n, ls.findIdx? (· == (s .o).getD k 0) with | some n, some i => some (n ||| 2 ^ i) | _, _ => none) = _
            rw [hf]
          cbv
          rw [zi_succ (by omega)]
          (repeat' (first | exact True.intro | exact Same.refl _ | exact SameB.refl _ | exact ⟨rfl⟩ | exact Same.int rfl | exact Same.str rfl | exact Same.bool rfl | (refine Same.int ?_; simp only [List.length_append, List.length_cons, List.length_nil, zi]; omega) | (refine SameB.row' rfl fun i hi => ?_; first | rfl | exact absurd hi (Nat.not_lt_zero _)) | refine And.intro ?_ ?_ | refine SameB.cells ?_ | exact SameC.nil | refine SameC.cons ?_ ?_ | exact Same.nsl rfl | exact Same.tt rfl | exact Same.ff rfl))
          all_goals (refine Same.int ?_; exact orz hn (by omega) hm)
    · have h1 : (s .o).length ≤ k := h1
      cbv
      refine hr (fun _ => n) ?_ hn
      rw [hu, List.drop_of_length_le h1]; rfl
end Go.Proofs.YtjjddmbnfkmfdaaDoor
/- strings.Join: the kit's contract, brought over. -/
namespace Go.Proofs.YtjjddmbnfkmfdaaDoor
open Go Go.Proofs.YtjjddmbnfkmfdaaDoor.Sx F
set_option linter.unusedVariables false
set_option linter.unusedSimpArgs false
theorem join_c (l : Th (List (List UInt8))) (sep : List UInt8) (hl : (l .o).length ≤ 1000000) (hj : (Lib.join (l .o) sep).length ≤ 140737488355328) {d : Nat} {K : ARes → BL → Prop} (hr : ∀ s : Th (List UInt8), s .o = Lib.join (l .o) sep → K (.ret (.str s)) .nil) :
    CallAt PT 27 [strs l, .str fun _ => sep] d .nil K := by
  refine CallAt.of_below (by kernel_rfl) fun E vs hb hv => ?_
  obtain ⟨v1, r1, rfl, h1, v2, r2, rfl, h2, rfl⟩ : ∃ v1 r1, vs = v1 :: r1 ∧ Rp E (strs l) v1 ∧ ∃ v2 r2, r1 = v2 :: r2 ∧ Rp E (.str fun _ => sep) v2 ∧ r2 = [] := hv
  obtain rfl : v2 = .string ⟨sep.toArray⟩ := h2
  obtain ⟨ad, cap, rfl, hcap, hc⟩ : ∃ ad cap, v1 = .slice ad (l .o).length cap ∧ (l .o).length ≤ cap ∧ ∀ i, i < (l .o).length → ((strCh fun _ => (l .o).getD i []).okE ∧ (strCh fun _ => (l .o).getD i []).len = 1) ∧ ∃ b o, ad = some ⟨b, o, none⟩ ∧ MemC E (strCh fun _ => (l .o).getD i []) b (o + i * 1) := h1
  rcases Nat.eq_zero_or_pos (l .o).length with h0 | h0
  · rw [h0]
    refine (Tryd.strings_Join_none ad cap ⟨sep.toArray⟩ E.w).mono ?_
    rintro e w' ⟨rfl, rfl⟩
    have he : l .o = [] := List.eq_nil_of_length_eq_zero h0
    exact ⟨.ret (.str fun _ => Lib.join (l .o) sep), rfl, by rw [he]; rfl, hr _ rfl, RowKit.Below.refl _ _⟩
  · obtain ⟨_, b, o, rfl, hm⟩ := hc 0 h0
    have hbb : b < E.w.heap.size := by
      obtain ⟨⟨v, _, hi, _⟩, _⟩ := hm
      exact hb _ _ hi
    have hmap : ((l .o).map fun p => (⟨p.toArray⟩ : ByteArray)).map (·.data.toList) = l .o := by
      rw [List.map_map]
      have : ((fun x : ByteArray => x.data.toList) ∘ fun p : List UInt8 => (⟨p.toArray⟩ : ByteArray)) = id := by funext p; simp
      rw [this, List.map_id]
    have key := Tryd.strings_Join b o cap ((l .o).map fun p => (⟨p.toArray⟩ : ByteArray)) ⟨sep.toArray⟩ E.w (fun j x hx => by
      rw [List.getElem?_map] at hx
      have hjl : j < (l .o).length := by
        rcases Nat.lt_or_ge j (l .o).length with q | q
        · exact q
        · rw [List.getElem?_eq_none q] at hx; cases hx
      rw [List.getElem?_eq_getElem hjl] at hx
      obtain rfl : (⟨((l .o)[j]).toArray⟩ : ByteArray) = x := Option.some.inj hx
      obtain ⟨_, b', o', e, hm'⟩ := hc j hjl
      cases e
      obtain ⟨⟨u1, k1, _, q1⟩, _⟩ := hm'
      obtain rfl : u1 = .string ⟨((l .o).getD j []).toArray⟩ := q1
      rw [Nat.mul_one] at k1
      rw [k1, List.getD_eq_getElem?_getD, List.getElem?_eq_getElem hjl]; rfl) hbb (by rw [List.length_map]; omega) (by rw [List.length_map]; exact hcap) (by rw [hmap]; exact hj)
    rw [List.length_map, hmap] at key
    refine key.mono ?_
    rintro e w' ⟨rfl, hbl⟩
    exact ⟨.ret (.str fun _ => Lib.join (l .o) sep), rfl, rfl, hr _ rfl, hbl⟩
end Go.Proofs.YtjjddmbnfkmfdaaDoor
/- Cutting, the texts of wide lists, whether two are one: walked. -/
namespace Go.Proofs.YtjjddmbnfkmfdaaDoor
open Go Go.Proofs.YtjjddmbnfkmfdaaDoor.Sx F
set_option linter.unusedVariables false
set_option linter.unusedSimpArgs false
theorem text_one (w : WideE) : textW [w] = partW w := by simp [textW, Lib.join, List.intercalate]
theorem take_add {α : Type} (l : List α) (z : α) {k : Nat} (h : k < l.length) : l.take (k + 1) = l.take k ++ [l.getD k z] := by
  rw [List.take_succ_eq_append_getElem h, List.getD_eq_getElem?_getD, List.getElem?_eq_getElem h]; rfl
theorem part_len {w : WideE} (h : WideOk w) : (partW w).length ≤ 290 := by
  have h1 := chS_len flagL w.flags.toNat 7
  have h2 := chS_len maskL w.mask.toNat 14
  have h3 := h.len
  unfold partW
  simp only [List.length_append, List.length_cons, List.length_nil]
  split <;> simp only [List.length_cons, List.length_nil] <;> omega
theorem text_len : ∀ {l : List WideE}, (∀ w ∈ l, WideOk w) → (textW l).length ≤ 300 * l.length
  | [], _ => Nat.le_refl _
  | [w], h => by rw [text_one]; have := part_len (h w (by simp)); simp only [List.length_cons, List.length_nil]; omega
  | w :: v :: r, h => by
    have := part_len (h w (by simp))
    have ih := text_len (l := v :: r) fun x hx => h x (List.mem_cons_of_mem _ hx)
    have e : textW (w :: v :: r) = partW w ++ 44 :: textW (v :: r) := by simp [textW, Lib.join, List.intercalate, List.intersperse]
    rw [e]
    simp only [List.length_append, List.length_cons] at ih ⊢
    omega
theorem eqW (a b : WideE) : (decide (a.type = b.type) && (decide (a.flags = b.flags) && (decide (a.mask = b.mask) && (decide (a.who = b.who) && true)))) = decide (a = b) := by
  rw [Bool.eq_iff_iff]
  simp only [Bool.and_eq_true, decide_eq_true_eq, and_true]
  obtain ⟨a1, a2, a3, a4⟩ := a
  obtain ⟨b1, b2, b3, b4⟩ := b
  simp
theorem samewide_c (l m : Th (List WideE)) (hl : (l .o).length ≤ 1099511627776) {d : Nat} {K : ARes → BL → Prop} (hr : ∀ b : Th Bool, b .o = decide (l .o = m .o) → K (.ret (.bool b)) .nil) : CallAt PT r9_SameWide [wides l, wides m] d .nil K := by
  refine CallAt.res ?_
  refine r9_SameWide.of rfl rfl ?_
  cbv
  refine br_ndec (fun h1 => ?_) (fun h1 => ?_)
  · have h1 : ¬ zi (l .o).length = zi (m .o).length := h1
    cbv
    exact ⟨_, .ret (.ff rfl), hr (fun _ => false) (decide_eq_false fun e => h1 (by rw [e])).symm⟩
  have h1 : (l .o).length = (m .o).length := zi_inj.1 h1
  cbv
  refine loop_at (X := Nat) 1000 [0, 1] [] (fun _ k => .cons 5 (.int .i64 fun _ => zi k) .nil) (fun _ _ => .nil) (fun k => k ≤ (l .o).length ∧ ∀ j, j < k → (l .o).getD j WideE.z = (m .o).getD j WideE.z) (fun k => (l .o).length - k) 0 ?_ ⟨Nat.zero_le _, fun j hj => absurd hj (Nat.not_lt_zero _)⟩ ?_
  · cbv
    (repeat' (first | exact True.intro | exact Same.refl _ | exact SameB.refl _ | exact ⟨rfl⟩ | exact Same.int rfl | exact Same.str rfl | exact Same.bool rfl | (refine Same.int ?_; simp only [List.length_append, List.length_cons, List.length_nil, zi]; omega) | (refine SameB.row' rfl fun i hi => ?_; first | rfl | exact absurd hi (Nat.not_lt_zero _)) | refine And.intro ?_ ?_ | refine SameB.cells ?_ | exact SameC.nil | refine SameC.cons ?_ ?_ | exact Same.nsl rfl | exact Same.tt rfl | exact Same.ff rfl))
  · rintro k ⟨hk, hall⟩
    cbv
    ((try refine br_rev ?_); (first | refine br_dec (fun h2 => ?_) (fun h2 => ?_) | refine br_ndec (fun h2 => ?_) (fun h2 => ?_) | refine br_nbool (fun h2 => ?_) (fun h2 => ?_) | refine br_bool (fun h2 => ?_) (fun h2 => ?_)); all_goals (try dsimp only at h2); all_goals (try with_reducible replace h2 := zi_lt.1 h2); all_goals (try with_reducible replace h2 := not_zlt h2))
    · have hz := zi_toNat k
      cbv
      refine safe ⟨zi_nonneg _, zi_lt.2 h2⟩ ?_
      refine safe ⟨zi_nonneg _, zi_lt.2 (by omega)⟩ ?_
      have he := eqW ((l .o).getD (zi k).toNat WideE.z) ((m .o).getD (zi k).toNat WideE.z)
      refine br_nbool (fun h3 => ?_) (fun h3 => ?_)
      · have h3 := he.symm.trans h3
        rw [hz] at h3
        cbv
        exact ⟨_, .ret (.ff rfl), hr (fun _ => false) (decide_eq_false fun e => of_decide_eq_false h3 (by rw [e])).symm⟩
      · have h3 := he.symm.trans h3
        rw [hz] at h3
        cbv
        refine ⟨k + 1, ⟨h2, fun j hj => ?_⟩, by show (l .o).length - (k + 1) < (l .o).length - k; omega, ?_⟩
        · rcases Nat.lt_or_ge j k with q | q
          · exact hall j q
          · obtain rfl : j = k := by omega
            exact of_decide_eq_true h3
        · cbv
          rw [zi_succ (by omega)]
          (repeat' (first | exact True.intro | exact Same.refl _ | exact SameB.refl _ | exact ⟨rfl⟩ | exact Same.int rfl | exact Same.str rfl | exact Same.bool rfl | (refine Same.int ?_; simp only [List.length_append, List.length_cons, List.length_nil, zi]; omega) | (refine SameB.row' rfl fun i hi => ?_; first | rfl | exact absurd hi (Nat.not_lt_zero _)) | refine And.intro ?_ ?_ | refine SameB.cells ?_ | exact SameC.nil | refine SameC.cons ?_ ?_ | exact Same.nsl rfl | exact Same.tt rfl | exact Same.ff rfl))
    · cbv
      refine ⟨_, .ret (.tt rfl), hr (fun _ => true) (decide_eq_true ?_).symm⟩
      apply List.ext_getElem h1
      intro i hi hi'
      have := hall i (by omega)
      simpa [List.getD_eq_getElem?_getD, List.getElem?_eq_getElem hi, List.getElem?_eq_getElem hi'] using this
theorem big {a b : List UInt8} (ha : a.length ≤ 20000) (hb : b.length ≤ 1000) : a.length + b.length ≤ 9223372036854775807 := by omega
end Go.Proofs.YtjjddmbnfkmfdaaDoor
/- wide.Text, wide.part: walked. -/
namespace Go.Proofs.YtjjddmbnfkmfdaaDoor
open Go Go.Proofs.YtjjddmbnfkmfdaaDoor.Sx F
set_option linter.unusedVariables false
set_option linter.unusedSimpArgs false
theorem wText_c (l : Th (List WideE)) (hl : AllOk (l .o)) {d : Nat} {K : ARes → BL → Prop} (hr : ∀ t : Th (List UInt8), t .o = textW (l .o) → K (.ret (.str t)) .nil) : CallAt PT wide_Text [wides l] d .nil K := by
  have hll := hl.1
  obtain ⟨F, hF⟩ : ∃ F : Nat → WideE, ∀ i, F i = (l .o).getD i WideE.z := ⟨fun i => (l .o).getD i WideE.z, fun _ => rfl⟩
  have hW : wides l = .sl 4 (fun _ => (l .o).length) fun i => WideE.ch fun _ => F (i .o) := by
    unfold wides
    simp only [hF]
  rw [hW]
  clear hW
  refine CallAt.res ?_
  refine wide_Text.of rfl rfl ?_
  cbv
  refine nil_tmp 3 9000 1 (fun i => strCh fun _ => ([] : List (List UInt8)).getD (i .o) []) rfl rfl ?_
  refine loop_at (X := Nat × List (List UInt8)) 1000 [0, 2, 7, 8] [] (fun _ x => .cons 3 (.row 9000) (.cons 9 (.int .i64 fun _ => zi x.1) .nil)) (fun _ x => .cons 9000 (rowB 1 strCh [] fun _ => x.2) .nil) (fun x => x.1 ≤ (l .o).length ∧ x.2 = ((l .o).take x.1).map partW) (fun x => (l .o).length - x.1) (0, []) ?_ ⟨Nat.zero_le _, rfl⟩ ?_
  · cbv
    (repeat' (first | exact True.intro | exact Same.refl _ | exact SameB.refl _ | exact ⟨rfl⟩ | exact Same.int rfl | exact Same.str rfl | exact Same.bool rfl | (refine Same.int ?_; simp only [List.length_append, List.length_cons, List.length_nil, zi]; omega) | (refine SameB.row' rfl fun i hi => ?_; first | rfl | exact absurd hi (Nat.not_lt_zero _)) | refine And.intro ?_ ?_ | refine SameB.cells ?_ | exact SameC.nil | refine SameC.cons ?_ ?_ | exact Same.nsl rfl | exact Same.tt rfl | exact Same.ff rfl))
  · rintro ⟨k, ps⟩ ⟨hk, hs⟩
    dsimp only at hk hs
    have hpl : ps.length ≤ 32 := by rw [hs, List.length_map, List.length_take]; omega
    cbv
    refine br_zlt (fun h1 => ?_) (fun h1 => ?_)
    · have h1 : k < (l .o).length := h1
      have hz := zi_toNat k
      have ok : WideOk (F k) := by rw [hF]; exact hl.2 _ (getD_mem (z := WideE.z) h1)
      have hnx : ((l .o).take (k + 1)).map partW = ps ++ [partW (F k)] := by rw [take_add _ WideE.z h1, List.map_append, hs, hF]; rfl
      cbv
      refine safe ⟨zi_nonneg _, zi_lt.2 h1⟩ ?_
      refine br_dec (fun h2 => ?_) (fun h2 => ?_)
      · have h2 : (F k).type = 2 := by rw [← hz]; exact h2
        cbv
        refine chos_c (fun _ => (F (zi k).toNat).flags) flagL (by show 0 ≤ (F (zi k).toNat).flags; rw [hz]; exact ok.flags.1) (by show (F (zi k).toNat).flags < 16384; rw [hz]; have := ok.flags; omega) (by decide) fun fl hfl => ?_
        have hfl : fl .o = chS flagL (F k).flags.toNat 7 := by rw [hfl, hz]; rfl
        have hfn : (fl .o).length ≤ 7 := by rw [hfl]; exact chS_len _ _ _
        have hwh := ok.len
        cbv
        refine safe (big (a := ([68, 58] : List UInt8)) (b := fl .o) (by simp only [List.length_append, List.length_cons, List.length_nil]; omega) (by omega)) ?_
        refine safe (big (a := ([68, 58] : List UInt8) ++ fl .o) (b := [58]) (by simp only [List.length_append, List.length_cons, List.length_nil]; omega) (by simp)) ?_
        refine safe (big (a := ([68, 58] : List UInt8) ++ fl .o ++ [58]) (b := (F (zi k).toNat).who) (by simp only [List.length_append, List.length_cons, List.length_nil]; omega) (by rw [hz]; omega)) ?_
        refine safe (big (a := ([68, 58] : List UInt8) ++ fl .o ++ [58] ++ (F (zi k).toNat).who) (b := [58]) (by rw [hz]; simp only [List.length_append, List.length_cons, List.length_nil]; omega) (by simp)) ?_
        refine chos_c (fun _ => (F (zi k).toNat).mask) maskL (by show 0 ≤ (F (zi k).toNat).mask; rw [hz]; exact ok.mask.1) (by show (F (zi k).toNat).mask < 16384; rw [hz]; have := ok.mask; omega) (by decide) fun ms hms => ?_
        have hms : ms .o = chS maskL (F k).mask.toNat 14 := by rw [hms, hz]; rfl
        have hmn : (ms .o).length ≤ 14 := by rw [hms]; exact chS_len _ _ _
        cbv
        refine safe (big (a := ([68, 58] : List UInt8) ++ fl .o ++ [58] ++ (F (zi k).toNat).who ++ [58]) (b := ms .o) (by rw [hz]; simp only [List.length_append, List.length_cons, List.length_nil]; omega) (by omega)) ?_
        refine app_one strCh [] ps (([68, 58] : List UInt8) ++ fl .o ++ [58] ++ (F (zi k).toNat).who ++ [58] ++ ms .o) rfl (fun i hi => rfl) rfl rfl (by omega) ?_
        cbv
        refine ⟨(k + 1, ps ++ [([68, 58] : List UInt8) ++ fl .o ++ [58] ++ (F (zi k).toNat).who ++ [58] ++ ms .o]), ⟨h1, ?_⟩, by show (l .o).length - (k + 1) < (l .o).length - k; omega, ?_⟩
        · show _ = ((l .o).take (k + 1)).map partW
          rw [hnx, hz, hfl, hms]
          unfold partW
          simp [h2]
        · cbv
          rw [zi_succ (by omega)]
          (repeat' (first | exact True.intro | exact Same.refl _ | exact SameB.refl _ | exact ⟨rfl⟩ | exact Same.int rfl | exact Same.str rfl | exact Same.bool rfl | (refine Same.int ?_; simp only [List.length_append, List.length_cons, List.length_nil, zi]; omega) | (refine SameB.row' rfl fun i hi => ?_; first | rfl | exact absurd hi (Nat.not_lt_zero _)) | refine And.intro ?_ ?_ | refine SameB.cells ?_ | exact SameC.nil | refine SameC.cons ?_ ?_ | exact Same.nsl rfl | exact Same.tt rfl | exact Same.ff rfl))
      · have h2 : ¬ (F k).type = 2 := by rw [← hz]; exact h2
        cbv
        refine chos_c (fun _ => (F (zi k).toNat).flags) flagL (by show 0 ≤ (F (zi k).toNat).flags; rw [hz]; exact ok.flags.1) (by show (F (zi k).toNat).flags < 16384; rw [hz]; have := ok.flags; omega) (by decide) fun fl hfl => ?_
        have hfl : fl .o = chS flagL (F k).flags.toNat 7 := by rw [hfl, hz]; rfl
        have hfn : (fl .o).length ≤ 7 := by rw [hfl]; exact chS_len _ _ _
        have hwh := ok.len
        cbv
        refine safe (big (a := ([65, 58] : List UInt8)) (b := fl .o) (by simp only [List.length_append, List.length_cons, List.length_nil]; omega) (by omega)) ?_
        refine safe (big (a := ([65, 58] : List UInt8) ++ fl .o) (b := [58]) (by simp only [List.length_append, List.length_cons, List.length_nil]; omega) (by simp)) ?_
        refine safe (big (a := ([65, 58] : List UInt8) ++ fl .o ++ [58]) (b := (F (zi k).toNat).who) (by simp only [List.length_append, List.length_cons, List.length_nil]; omega) (by rw [hz]; omega)) ?_
        refine safe (big (a := ([65, 58] : List UInt8) ++ fl .o ++ [58] ++ (F (zi k).toNat).who) (b := [58]) (by rw [hz]; simp only [List.length_append, List.length_cons, List.length_nil]; omega) (by simp)) ?_
        refine chos_c (fun _ => (F (zi k).toNat).mask) maskL (by show 0 ≤ (F (zi k).toNat).mask; rw [hz]; exact ok.mask.1) (by show (F (zi k).toNat).mask < 16384; rw [hz]; have := ok.mask; omega) (by decide) fun ms hms => ?_
        have hms : ms .o = chS maskL (F k).mask.toNat 14 := by rw [hms, hz]; rfl
        have hmn : (ms .o).length ≤ 14 := by rw [hms]; exact chS_len _ _ _
        cbv
        refine safe (big (a := ([65, 58] : List UInt8) ++ fl .o ++ [58] ++ (F (zi k).toNat).who ++ [58]) (b := ms .o) (by rw [hz]; simp only [List.length_append, List.length_cons, List.length_nil]; omega) (by omega)) ?_
        refine app_one strCh [] ps (([65, 58] : List UInt8) ++ fl .o ++ [58] ++ (F (zi k).toNat).who ++ [58] ++ ms .o) rfl (fun i hi => rfl) rfl rfl (by omega) ?_
        cbv
        refine ⟨(k + 1, ps ++ [([65, 58] : List UInt8) ++ fl .o ++ [58] ++ (F (zi k).toNat).who ++ [58] ++ ms .o]), ⟨h1, ?_⟩, by show (l .o).length - (k + 1) < (l .o).length - k; omega, ?_⟩
        · show _ = ((l .o).take (k + 1)).map partW
          rw [hnx, hz, hfl, hms]
          unfold partW
          simp [h2]
        · cbv
          rw [zi_succ (by omega)]
          (repeat' (first | exact True.intro | exact Same.refl _ | exact SameB.refl _ | exact ⟨rfl⟩ | exact Same.int rfl | exact Same.str rfl | exact Same.bool rfl | (refine Same.int ?_; simp only [List.length_append, List.length_cons, List.length_nil, zi]; omega) | (refine SameB.row' rfl fun i hi => ?_; first | rfl | exact absurd hi (Nat.not_lt_zero _)) | refine And.intro ?_ ?_ | refine SameB.cells ?_ | exact SameC.nil | refine SameC.cons ?_ ?_ | exact Same.nsl rfl | exact Same.tt rfl | exact Same.ff rfl))
    · have h1 : (l .o).length ≤ k := h1
      have hall : ps = (l .o).map partW := by rw [hs, List.take_of_length_le h1]
      cbv
      refine join_c (fun _ => ps) [44] (by show ps.length ≤ _; omega) (by show (Lib.join ps [44]).length ≤ _; rw [hall]; have := text_len hl.2; unfold textW at this; omega) fun t ht => ?_
      cbv
      exact ⟨_, .ret (Same.refl _), hr _ (by rw [ht]; show Lib.join ps [44] = _; rw [hall]; rfl)⟩
theorem wpart_c (s : Th (List UInt8)) (hs : (s .o).length ≤ 1099511627776) {d : Nat} {K : ARes → BL → Prop} (hr : ∀ w : Th WideE, readW (s .o) = some (w .o) → K (.ret (WideE.av w)) .nil) (hp : ∀ t, readW (s .o) = none → K (.pan (noPartV t)) .nil) : CallAt PT wide_part [.str s] d .nil K := by
  refine CallAt.res ?_
  refine wide_part.of rfl rfl ?_
  cbv
  refine split_c s 58 hs fun l hl => ?_
  have hll : (l .o).length ≤ 1099511627777 := by rw [hl, splitC_len]; have : (s .o).count 58 ≤ _ := List.count_le_length; omega
  cbv
  refine br_ndec (fun h1 => ?_) (fun h1 => ?_)
  · have h1 : ¬ zi (l .o).length = 4 := h1
    cbv
    refine ⟨_, .pan (Same.refl _), hp s ?_⟩
    unfold readW
    rw [← hl]
    split
    · rename_i a f w m e; exact absurd (by rw [e]; rfl) h1
    · rfl
  · have h1 : (l .o).length = 4 := by have h1 : zi (l .o).length = 4 := h1; unfold zi at h1; omega
    obtain ⟨a, f, w, m, h4⟩ : ∃ a f w m, l .o = [a, f, w, m] := by
      revert h1
      generalize l .o = q
      intro h1
      match q, h1 with
      | [a, f, w, m], _ => exact ⟨a, f, w, m, rfl⟩
    have hrd : readW (s .o) = match unS flagL f, unS maskL m with | some x, some y => some ⟨if a = [65] then 1 else 2, x, y, w⟩ | _, _ => none := by
      unfold readW
      rw [← hl, h4]
      all_goals rfl
    have lf : f.length ≤ 1099511627776 := Nat.le_trans (split_el (c := 58) (s := s .o) (by rw [← hl, h4]; simp)) hs
    have lm : m.length ≤ 1099511627776 := Nat.le_trans (split_el (c := 58) (s := s .o) (by rw [← hl, h4]; simp)) hs
    simp only [h4]
    cbv
    have h4z : zi [a, f, w, m].length = 4 := rfl
    refine safe (by rw [h4z]; omega) ?_
    refine safe (by rw [h4z]; omega) ?_
    refine safe (by rw [h4z]; omega) ?_
    refine wbits_c (fun _ => f) flagL lf (by decide) (fun x hx hx2 => ?_) (fun t ht => ?_)
    rotate_left
    · cbv
      refine ⟨_, .pan (Same.refl _), hp t ?_⟩
      have ht : unS flagL f = none := ht
      rw [hrd, ht]
    have hx : unS flagL f = some (x .o) := hx
    rw [hx] at hrd
    cbv
    refine wbits_c (fun _ => m) maskL lm (by decide) (fun y hy hy2 => ?_) (fun t ht => ?_)
    rotate_left
    · cbv
      refine ⟨_, .pan (Same.refl _), hp t ?_⟩
      have ht : unS maskL m = none := ht
      rw [hrd, ht]
    have hy : unS maskL m = some (y .o) := hy
    rw [hy] at hrd
    simp only at hrd
    cbv
    refine safe (by show (0 : Int) ≤ 0 ∧ 0 < zi [a, f, w, m].length; rw [h4z]; omega) ?_
    refine br_ndec (fun h5 => ?_) (fun h5 => ?_)
    · have h5 : ¬ a = [65] := h5
      cbv
      refine ⟨_, .ret (Same.refl _), hr (fun _ => ⟨2, zi (x .o), zi (y .o), w⟩) ?_⟩
      rw [hrd, if_neg h5]; rfl
    · have h5 : a = [65] := h5
      cbv
      refine ⟨_, .ret (Same.refl _), hr (fun _ => ⟨1, zi (x .o), zi (y .o), w⟩) ?_⟩
      rw [hrd, if_pos h5]; rfl
end Go.Proofs.YtjjddmbnfkmfdaaDoor
/- wide.Parse, gripsackref9.ParseWide: walked. -/
namespace Go.Proofs.YtjjddmbnfkmfdaaDoor
open Go Go.Proofs.YtjjddmbnfkmfdaaDoor.Sx F
set_option linter.unusedVariables false
set_option linter.unusedSimpArgs false
theorem map_some_inj {β : Type} : ∀ {l m : List β}, l.map some = m.map some → l = m
  | [], [], _ => rfl
  | [], _ :: _, h => by cases h
  | _ :: _, [], h => by cases h
  | x :: l, y :: m, h => by
    rw [List.map_cons, List.map_cons] at h
    injection h with h1 h2
    rw [Option.some.inj h1, map_some_inj h2]
theorem mapM_iff {α β : Type} (f : α → Option β) : ∀ (l : List α) (r : List β), l.mapM f = some r ↔ l.map f = r.map some
  | [], r => by
    cases r with
    | nil => simp
    | cons x r => simp
  | a :: l, r => by
    have ih := mapM_iff f l
    rw [List.mapM_cons]
    cases hf : f a with
    | none =>
      cases r with
      | nil => simp
      | cons x r => simp [hf]
    | some b =>
      cases hm : l.mapM f with
      | none =>
        cases r with
        | nil => simp [hm]
        | cons x r =>
          have : ¬ l.map f = r.map some := fun q => by rw [← ih r, hm] at q; cases q
          simp [hm, hf, this]
      | some t =>
        have ht := (ih t).1 hm
        cases r with
        | nil => simp [hm]
        | cons x r =>
          simp only [hm, Option.pure_def, Option.bind_eq_bind, Option.bind_some, List.map_cons, hf, Option.some.injEq, List.cons.injEq, ht]
          constructor
          · rintro ⟨rfl, rfl⟩; exact ⟨rfl, rfl⟩
          · rintro ⟨rfl, h⟩; exact ⟨rfl, map_some_inj h⟩
/-- What a text says. -/
def Says (s : List UInt8) (l : List WideE) : Prop := AllOk l ∧ textW l = s
theorem says_one {s : List UInt8} {l m : List WideE} (h : Says s l) (k : Says s m) : l = m := by
  obtain ⟨h1, rfl⟩ := h
  have h2 := reads_text h1
  have k2 := reads_text k.1
  rw [k.2] at k2
  exact reads_one h2 k2
theorem says_map {s : List UInt8} {l : List WideE} (h : Says s l) (hs : s ≠ []) : (splitC 44 s).map readW = l.map some := by
  obtain ⟨h1, rfl⟩ := h
  rcases reads_text h1 with ⟨h2, _⟩ | ⟨_, h2, _⟩
  · exact absurd h2 hs
  · exact (mapM_iff _ _ _).1 h2
theorem says_nil : Says [] [] := ⟨⟨by decide, fun w hw => by cases hw⟩, rfl⟩
theorem says_bad {s : List UInt8} {k : Nat} (hs : s ≠ []) (hk : k < (splitC 44 s).length) (hn : readW ((splitC 44 s).getD k []) = none) : ∀ l, ¬ Says s l := fun l h => by
  have h1 := says_map h hs
  have h2 := congrArg (fun q => q[k]?) h1
  simp only [List.getElem?_map, List.getElem?_eq_getElem hk, Option.map_some] at h2
  rw [List.getD_eq_getElem?_getD, List.getElem?_eq_getElem hk] at hn
  have hn : readW (splitC 44 s)[k] = none := hn
  rw [hn] at h2
  cases hl : l[k]? with
  | none => rw [hl] at h2; cases h2
  | some x => rw [hl] at h2; cases h2
/-- What Parse answers. -/
def PW (s : List UInt8) (l : List WideE) (b : Bool) : Prop := (b = true ∧ Says s l) ∨ (b = false ∧ l = [] ∧ ∀ m, ¬ Says s m)
theorem PW.of {s : List UInt8} {l : List WideE} {b : Bool} (h : PW s l b) {m : List WideE} (hm : Says s m) : b = true ∧ l = m := by
  rcases h with ⟨h1, h2⟩ | ⟨_, _, h2⟩
  · exact ⟨h1, says_one h2 hm⟩
  · exact absurd hm (h2 m)
theorem wendN_c (b : Bool) {K : BL → Prop} (h : K (.cons 10000 (.cells (.cons .nsl .nil)) (.cons 10001 (.cells (.cons (tv b) .nil)) .nil))) : DefAt PT wide_Parse_1 false [.nif, .ptr 10000 0, .ptr 10001 0] (.cons 10000 (.cells (.cons .nsl .nil)) (.cons 10001 (.cells (.cons (tv b) .nil)) .nil)) K := by
  refine wide_Parse_1.of rfl rfl (fun _ => rfl) ?_
  cases b <;> (cbv; exact h)
theorem wendP_c (s : Th (List UInt8)) {K : BL → Prop} (h : K (.cons 10000 (.cells (.cons .nsl .nil)) (.cons 10001 (.cells (.cons .ff .nil)) .nil))) : DefAt PT wide_Parse_1 true [noPartV s, .ptr 10000 0, .ptr 10001 0] (.cons 10000 (.cells (.cons .nsl .nil)) (.cons 10001 (.cells (.cons .ff .nil)) .nil)) K := by
  refine wide_Parse_1.of rfl rfl (fun h => by cases h) ?_
  cbv
  exact h
theorem wendR_c (n : Th Nat) (g : Th Nat → AV) {K : BL → Prop} (h : K (.cons 10000 (.cells (.cons (.row 10002) .nil)) (.cons 10001 (.cells (.cons .tt .nil)) (.cons 10002 (.row 4 n g) .nil)))) : DefAt PT wide_Parse_1 false [.nif, .ptr 10000 0, .ptr 10001 0] (.cons 10000 (.cells (.cons (.row 10002) .nil)) (.cons 10001 (.cells (.cons .tt .nil)) (.cons 10002 (.row 4 n g) .nil))) K := by
  refine wide_Parse_1.of rfl rfl (fun _ => rfl) ?_
  cbv
  exact h
theorem wparse_c (s : Th (List UInt8)) (hs : (s .o).length ≤ 100000) {d : Nat} {K : ARes → BL → Prop} (hr : ∀ l : Th (List WideE), ∀ b : Th Bool, PW (s .o) (l .o) (b .o) → K (.ret (.tup (.cons (wides l) (.cons (.bool b) .nil)))) .nil) : CallAt PT wide_Parse [.str s] d .nil K := by
  refine CallAt.res ?_
  refine wide_Parse.of rfl rfl ?_
  cbv
  refine br_dec (fun h1 => ?_) (fun h1 => ?_)
  · have h1 : s .o = [] := h1
    cbv
    refine DefAt.use [(10000, 2), (10001, 3)] [.nif, .ptr 10000 0, .ptr 10001 0] (by kernel_rfl) rfl (wendN_c true ?_)
    cbv
    exact ⟨_, .ret (.tup (.cons (.nsl rfl) (.cons (.tt rfl) .nil))), hr (fun _ => []) (fun _ => true) (.inl ⟨rfl, by rw [h1]; exact says_nil⟩)⟩
  · have h1 : ¬ s .o = [] := h1
    cbv
    refine split_c s 44 (by omega) fun l hl => ?_
    have hll : (l .o).length ≤ 100001 := by rw [hl, splitC_len]; have : (s .o).count 44 ≤ _ := List.count_le_length; omega
    cbv
    refine nil_tmp 4 9000 4 (fun i => WideE.ch fun _ => ([] : List WideE).getD (i .o) WideE.z) rfl rfl ?_
    refine loop_at (X := Nat × List WideE) 1000 [0, 2, 3, 11, 12] [2, 3] (fun _ x => .cons 4 (.row 9000) (.cons 13 (.int .i64 fun _ => zi x.1) .nil)) (fun _ x => .cons 9000 (rowB 4 WideE.ch WideE.z fun _ => x.2) .nil)
      (fun x => x.1 ≤ (l .o).length ∧ ((l .o).take x.1).map readW = x.2.map some) (fun x => (l .o).length - x.1) (0, []) ?_ ⟨Nat.zero_le _, rfl⟩ ?_
    · cbv
      (repeat' (first | exact True.intro | exact Same.refl _ | exact SameB.refl _ | exact ⟨rfl⟩ | exact Same.int rfl | exact Same.str rfl | exact Same.bool rfl | (refine Same.int ?_; simp only [List.length_append, List.length_cons, List.length_nil, zi]; omega) | (refine SameB.row' rfl fun i hi => ?_; first | rfl | exact absurd hi (Nat.not_lt_zero _)) | refine And.intro ?_ ?_ | refine SameB.cells ?_ | exact SameC.nil | refine SameC.cons ?_ ?_ | exact Same.nsl rfl | exact Same.tt rfl | exact Same.ff rfl))
    · rintro ⟨i, ws⟩ ⟨h2, h3⟩
      dsimp only at h2 h3
      have hwl : ws.length = i := by have := congrArg List.length h3; rw [List.length_map, List.length_map, List.length_take] at this; omega
      have e := zi_toNat i
      cbv
      refine br_zlt (fun h4 => ?_) (fun h4 => ?_)
      · have h4 : i < (l .o).length := h4
        have hln : ((l .o).getD i []).length ≤ 100000 := by
          refine Nat.le_trans (split_el (c := 44) (s := s .o) ?_) hs
          rw [← hl]; exact getD_mem h4
        cbv
        refine safe ⟨zi_nonneg _, zi_lt.2 h4⟩ ?_
        refine wpart_c (fun _ => (l .o).getD (zi i).toNat []) (by show ((l .o).getD (zi i).toNat []).length ≤ _; rw [e]; omega) (fun w hw => ?_) (fun q hq => ?_)
        · have hw : readW ((l .o).getD i []) = some (w .o) := by rw [← e]; exact hw
          cbv
          refine app_one WideE.ch WideE.z ws (w .o) rfl (fun i hi => rfl) rfl rfl (by omega) ?_
          cbv
          refine ⟨(i + 1, ws ++ [w .o]), ⟨h4, ?_⟩, by show (l .o).length - (i + 1) < (l .o).length - i; omega, ?_⟩
          · show ((l .o).take (i + 1)).map readW = (ws ++ [w .o]).map some
            rw [take_add _ [] h4, List.map_append, h3, List.map_append, List.map_cons, List.map_cons, hw]; rfl
          · cbv
            rw [zi_succ (by omega)]
            (repeat' (first | exact True.intro | exact Same.refl _ | exact SameB.refl _ | exact ⟨rfl⟩ | exact Same.int rfl | exact Same.str rfl | exact Same.bool rfl | (refine Same.int ?_; simp only [List.length_append, List.length_cons, List.length_nil, zi]; omega) | (refine SameB.row' rfl fun i hi => ?_; first | rfl | exact absurd hi (Nat.not_lt_zero _)) | refine And.intro ?_ ?_ | refine SameB.cells ?_ | exact SameC.nil | refine SameC.cons ?_ ?_ | exact Same.nsl rfl | exact Same.tt rfl | exact Same.ff rfl))
        · have hq : readW ((l .o).getD i []) = none := by rw [← e]; exact hq
          cbv
          refine DefAt.use [(10000, 2), (10001, 3)] [noPartV q, .ptr 10000 0, .ptr 10001 0] (by kernel_rfl) rfl (wendP_c q ?_)
          cbv
          exact ⟨_, .ret (.tup (.cons (.nsl rfl) (.cons (.ff rfl) .nil))), hr (fun _ => []) (fun _ => false) (.inr ⟨rfl, rfl, says_bad h1 (k := i) (by rw [← hl]; exact h4) (by rw [← hl]; exact hq)⟩)⟩
      · have h4 : (l .o).length ≤ i := h4
        have hmap : (splitC 44 (s .o)).map readW = ws.map some := by rw [← hl, ← h3, List.take_of_length_le h4]
        have only : ∀ m, Says (s .o) m → m = ws := fun m hm => map_some_inj (by rw [← says_map hm h1, hmap])
        cbv
        refine wMay_c (fun _ => ws) (by show ws.length ≤ _; omega) fun b hb => ?_
        have hb : b .o = mayW ws := hb
        cbv
        refine br_rev (br_nbool (fun h5 => ?_) (fun h5 => ?_))
        · have h5 : mayW ws = false := by rw [← hb]; exact h5
          cbv
          refine DefAt.use [(10000, 2), (10001, 3)] [.nif, .ptr 10000 0, .ptr 10001 0] (by kernel_rfl) rfl (wendN_c false ?_)
          cbv
          refine ⟨_, .ret (.tup (.cons (.nsl rfl) (.cons (.ff rfl) .nil))), hr (fun _ => []) (fun _ => false) (.inr ⟨rfl, rfl, fun m hm => ?_⟩)⟩
          have := (mayW_iff m).2 hm.1
          rw [only m hm, h5] at this
          cases this
        · have h5 : AllOk ws := (mayW_iff ws).1 (by rw [← hb]; exact h5)
          cbv
          refine wText_c (fun _ => ws) h5 fun t ht => ?_
          have ht : t .o = textW ws := ht
          cbv
          refine br_ndec (fun h6 => ?_) (fun h6 => ?_)
          · have h6 : ¬ t .o = s .o := h6
            cbv
            refine DefAt.use [(10000, 2), (10001, 3)] [.nif, .ptr 10000 0, .ptr 10001 0] (by kernel_rfl) rfl (wendN_c false ?_)
            cbv
            refine ⟨_, .ret (.tup (.cons (.nsl rfl) (.cons (.ff rfl) .nil))), hr (fun _ => []) (fun _ => false) (.inr ⟨rfl, rfl, fun m hm => ?_⟩)⟩
            exact h6 (by rw [ht, ← only m hm, hm.2])
          · have h6 : t .o = s .o := h6
            cbv
            refine DefAt.use [(10000, 2), (10001, 3), (10002, 9000)] [.nif, .ptr 10000 0, .ptr 10001 0] (by kernel_rfl) rfl (wendR_c _ _ ?_)
            cbv
            exact ⟨_, .ret (.tup (.cons (Same.refl _) (.cons (.tt rfl) .nil))), hr (fun _ => ws) (fun _ => true) (.inl ⟨rfl, h5, by rw [← ht, h6]⟩)⟩
end Go.Proofs.YtjjddmbnfkmfdaaDoor
/- What wide lists allow: walked. -/
namespace Go.Proofs.YtjjddmbnfkmfdaaDoor
open Go Go.Proofs.YtjjddmbnfkmfdaaDoor.Sx F
set_option linter.unusedVariables false
set_option linter.unusedSimpArgs false
theorem abitI {n m : Int} (h0 : 0 ≤ n) (h : n < 4611686018427387904) (hm : 0 ≤ m) (hm' : m ≤ 64) : abits .and .i64 (n.fdiv (2 ^ min m.toNat IntKind.i64.bits)) 1 = if n.toNat.testBit m.toNat then 1 else 0 := by
  have := abit (n := n) (k := m.toNat) h0 h (by omega)
  rw [zi_toNat] at this
  exact this
/-- Where v stands first in l, or -1. -/
theorem sindex_c (l : Th (List (List UInt8))) (v : Th (List UInt8)) (hl : (l .o).length ≤ 1000000) {d : Nat} {K : ARes → BL → Prop} (hr : ∀ n : Th Int, (0 ≤ n .o ↔ v .o ∈ l .o) → K (.ret (.int .i64 n)) .nil) : CallAt PT slices_Index_string_string [strs l, .str v] d .nil K := by
  refine CallAt.res ?_
  refine slices_Index_string_string.of rfl rfl ?_
  cbv
  refine loop_at (X := Nat) 1000 [0, 1, 7] [] (fun _ x => .cons 8 (.int .i64 fun _ => zi x) .nil) (fun _ x => .nil)
    (fun x => x ≤ (l .o).length ∧ ∀ j : Nat, j < x → (l .o).getD j [] ≠ v .o) (fun x => (l .o).length - x) 0 ?_ ⟨Nat.zero_le _, fun j hj => absurd hj (Nat.not_lt_zero _)⟩ ?_
  · cbv
    (repeat' (first | exact True.intro | exact Same.refl _ | exact SameB.refl _ | exact ⟨rfl⟩ | exact Same.int rfl | exact Same.str rfl | exact Same.bool rfl | (refine Same.int ?_; simp only [List.length_append, List.length_cons, List.length_nil, zi]; omega) | (refine SameB.row' rfl fun i hi => ?_; first | rfl | exact absurd hi (Nat.not_lt_zero _)) | refine And.intro ?_ ?_ | refine SameB.cells ?_ | exact SameC.nil | refine SameC.cons ?_ ?_ | exact Same.nsl rfl | exact Same.tt rfl | exact Same.ff rfl))
  · rintro i ⟨h2, h3⟩
    cbv
    refine br_zlt (fun h4 => ?_) (fun h4 => ?_)
    · cbv
      refine safe ⟨zi_nonneg _, zi_lt.2 h4⟩ ?_
      have e : (zi i).toNat = i := zi_toNat i
      refine br_dec (fun h5 => ?_) (fun h5 => ?_)
      · have h5 : v .o = (l .o).getD (zi i).toNat [] := h5
        rw [e] at h5
        cbv
        exact ⟨_, .ret (Same.refl _), hr _ ⟨fun _ => by rw [h5]; exact getD_mem h4, fun _ => zi_nonneg _⟩⟩
      · have h5 : ¬ v .o = (l .o).getD (zi i).toNat [] := h5
        rw [e] at h5
        cbv
        refine ⟨i + 1, ⟨h4, fun j hj => ?_⟩, by show (l .o).length - (i + 1) < (l .o).length - i; omega, ?_⟩
        · rcases Nat.lt_or_ge j i with q | q
          · exact h3 j q
          · obtain rfl : j = i := by omega
            exact fun e => h5 e.symm
        cbv
        rw [zi_succ (by omega)]
        (repeat' (first | exact True.intro | exact Same.refl _ | exact SameB.refl _ | exact ⟨rfl⟩ | exact Same.int rfl | exact Same.str rfl | exact Same.bool rfl | (refine Same.int ?_; simp only [List.length_append, List.length_cons, List.length_nil, zi]; omega) | (refine SameB.row' rfl fun i hi => ?_; first | rfl | exact absurd hi (Nat.not_lt_zero _)) | refine And.intro ?_ ?_ | refine SameB.cells ?_ | exact SameC.nil | refine SameC.cons ?_ ?_ | exact Same.nsl rfl | exact Same.tt rfl | exact Same.ff rfl))
    · cbv
      refine ⟨_, .ret (Same.refl _), hr _ ⟨fun q => absurd q (by decide), fun q => ?_⟩⟩
      obtain ⟨j, hj, he⟩ := List.mem_iff_getElem.1 q
      exact absurd (by rw [List.getD_eq_getElem?_getD, List.getElem?_eq_getElem hj]; exact he) (h3 j (by omega))
theorem scontains_c (l : Th (List (List UInt8))) (v : Th (List UInt8)) (hl : (l .o).length ≤ 1000000) {d : Nat} {K : ARes → BL → Prop} (hr : ∀ b : Th Bool, b .o = decide (v .o ∈ l .o) → K (.ret (.bool b)) .nil) : CallAt PT slices_Contains_string_string [strs l, .str v] d .nil K := by
  refine slices_Contains_string_string.of rfl rfl ?_
  cbv
  refine sindex_c l v hl fun n hn => ?_
  cbv
  exact hr _ (by show decide (0 ≤ n .o) = _; rw [decide_eq_decide]; exact hn)
def pA (who : List (List UInt8)) (bit : Int) (w : WideE) : Bool := w.mask.toNat.testBit bit.toNat && decide (w.who ∈ who)
def allowS (l : List WideE) (who : List (List UInt8)) (bit : Int) : Bool := decide (0 ≤ bit) && decide (bit < 14) && (decide (0 ≤ ixP (pA who bit) l) && decide ((l.getD (ixP (pA who bit) l).toNat WideE.z).type = 1))
theorem allow1_c (w : Th WideE) (who : Th (List (List UInt8))) (bit : Th Int) (ok : WideOk (w .o)) (hb : 0 ≤ bit .o ∧ bit .o < 14) (hl : (who .o).length ≤ 1000000) {d : Nat} {K : ARes → BL → Prop} (hr : ∀ b : Th Bool, b .o = pA (who .o) (bit .o) (w .o) → K (.ret (.bool b)) (.cons 10000 (.cells (.cons (.int .i64 bit) .nil)) (.cons 10001 (.cells (.cons (strs who) .nil)) .nil))) :
    CallAt PT wide_Allows_1 [WideE.av w, .ptr 10000 0, .ptr 10001 0] d (.cons 10001 (.cells (.cons (strs who) .nil)) (.cons 10000 (.cells (.cons (.int .i64 bit) .nil)) .nil)) K := by
  have hm := ok.mask
  refine CallAt.res ?_
  refine wide_Allows_1.of rfl rfl ?_
  cbv
  have ha := abitI (n := (w .o).mask) (m := bit .o) hm.1 (by omega) hb.1 (by omega)
  refine safe hb.1 ?_
  refine br_dec (fun h1 => ?_) (fun h1 => ?_)
  · have h1 : 0 < abits .and .i64 ((w .o).mask.fdiv (2 ^ min (bit .o).toNat IntKind.i64.bits)) 1 := h1
    have ht : (w .o).mask.toNat.testBit (bit .o).toNat = true := by
      rw [ha] at h1
      cases hc : (w .o).mask.toNat.testBit (bit .o).toNat with
      | true => rfl
      | false => rw [hc] at h1; simp at h1
    cbv
    refine scontains_c who (fun _ => (w .o).who) hl fun b hb => ?_
    have hb : b .o = decide ((w .o).who ∈ who .o) := hb
    cbv
    refine ⟨_, .ret (Same.refl _), hr _ ?_⟩
    show b .o = _
    rw [hb, pA, ht, Bool.true_and]
  · have h1 : ¬ 0 < abits .and .i64 ((w .o).mask.fdiv (2 ^ min (bit .o).toNat IntKind.i64.bits)) 1 := h1
    have ht : (w .o).mask.toNat.testBit (bit .o).toNat = false := by
      cases hc : (w .o).mask.toNat.testBit (bit .o).toNat with
      | false => rfl
      | true => rw [ha, hc] at h1; simp at h1
    cbv
    refine ⟨_, .ret (.ff rfl), hr (fun _ => false) ?_⟩
    rw [pA, ht, Bool.false_and]
theorem indexA_c (l : Th (List WideE)) (who : Th (List (List UInt8))) (bit : Th Int) (hl : AllOk (l .o)) (hb : 0 ≤ bit .o ∧ bit .o < 14) (hw : (who .o).length ≤ 1000000) {d : Nat} {K : ARes → BL → Prop} (hr : ∀ n : Th Int, n .o = ixP (pA (who .o) (bit .o)) (l .o) → K (.ret (.int .i64 n)) (.cons 10000 (.cells (.cons (.int .i64 bit) .nil)) (.cons 10001 (.cells (.cons (strs who) .nil)) .nil))) :
    CallAt PT slices_IndexFunc_api_Wide_api_Wide [wides l, .fn (.func wide_Allows_1) .nil (.cons (.ptr 10000 0) (.cons (.ptr 10001 0) .nil))] d (.cons 10000 (.cells (.cons (.int .i64 bit) .nil)) (.cons 10001 (.cells (.cons (strs who) .nil)) .nil)) K := by
  have hll := hl.1
  refine slices_IndexFunc_api_Wide_api_Wide.of rfl rfl ?_
  cbv
  refine loop_at (X := Nat) 1000 [0, 1, 7] [10000, 10001] (fun _ k => .cons 8 (.int .i64 fun _ => zi k) .nil) (fun _ _ => .nil) (fun k => k ≤ (l .o).length ∧ ∀ j, j < k → pA (who .o) (bit .o) ((l .o).getD j WideE.z) = false) (fun k => (l .o).length - k) 0 ?_ ⟨Nat.zero_le _, fun j hj => absurd hj (Nat.not_lt_zero _)⟩ ?_
  · cbv
    (repeat' (first | exact True.intro | exact Same.refl _ | exact SameB.refl _ | exact ⟨rfl⟩ | exact Same.int rfl | exact Same.str rfl | exact Same.bool rfl | (refine Same.int ?_; simp only [List.length_append, List.length_cons, List.length_nil, zi]; omega) | (refine SameB.row' rfl fun i hi => ?_; first | rfl | exact absurd hi (Nat.not_lt_zero _)) | refine And.intro ?_ ?_ | refine SameB.cells ?_ | exact SameC.nil | refine SameC.cons ?_ ?_ | exact Same.nsl rfl | exact Same.tt rfl | exact Same.ff rfl))
  · rintro k ⟨hk, hall⟩
    cbv
    ((try refine br_rev ?_); (first | refine br_dec (fun h1 => ?_) (fun h1 => ?_) | refine br_ndec (fun h1 => ?_) (fun h1 => ?_) | refine br_nbool (fun h1 => ?_) (fun h1 => ?_) | refine br_bool (fun h1 => ?_) (fun h1 => ?_)); all_goals (try dsimp only at h1); all_goals (try with_reducible replace h1 := zi_lt.1 h1); all_goals (try with_reducible replace h1 := not_zlt h1))
    · cbv
      refine safe ⟨zi_nonneg _, zi_lt.2 h1⟩ ?_
      refine allow1_c (fun _ => (l .o).getD (zi k).toNat WideE.z) who bit (by show WideOk ((l .o).getD (zi k).toNat WideE.z); rw [zi_toNat]; exact hl.2 _ (getD_mem h1)) hb hw fun b hb => ?_
      rw [zi_toNat] at hb
      cbv
      refine br_bool (fun h2 => ?_) (fun h2 => ?_)
      · cbv
        exact hr _ (ixP_at _ WideE.z _ k h1 hall (hb.symm.trans h2)).symm
      · cbv
        refine ⟨k + 1, ⟨h1, fun j hj => ?_⟩, by show (l .o).length - (k + 1) < (l .o).length - k; omega, ?_⟩
        · rcases Nat.lt_or_ge j k with q | q
          · exact hall j q
          · obtain rfl : j = k := by omega
            exact hb.symm.trans h2
        · cbv
          rw [zi_succ (by omega)]
          (repeat' (first | exact True.intro | exact Same.refl _ | exact SameB.refl _ | exact ⟨rfl⟩ | exact Same.int rfl | exact Same.str rfl | exact Same.bool rfl | (refine Same.int ?_; simp only [List.length_append, List.length_cons, List.length_nil, zi]; omega) | (refine SameB.row' rfl fun i hi => ?_; first | rfl | exact absurd hi (Nat.not_lt_zero _)) | refine And.intro ?_ ?_ | refine SameB.cells ?_ | exact SameC.nil | refine SameC.cons ?_ ?_ | exact Same.nsl rfl | exact Same.tt rfl | exact Same.ff rfl))
    · cbv
      exact hr _ (ixP_no _ WideE.z _ fun j hj => hall j (by omega)).symm
theorem ixP_lt {α : Type} (p : α → Bool) : ∀ l : List α, ixP p l < l.length
  | [] => (by show (-1 : Int) < 0; decide)
  | x :: r => by
    have := ixP_lt p r
    rw [ixP, List.length_cons]
    split
    · omega
    · split <;> omega
theorem wallows_c (l : Th (List WideE)) (who : Th (List (List UInt8))) (bit : Th Int) (hl : AllOk (l .o)) (hw : (who .o).length ≤ 1000000) {d : Nat} {K : ARes → BL → Prop} (hr : ∀ b : Th Bool, b .o = allowS (l .o) (who .o) (bit .o) → K (.ret (.bool b)) .nil) : CallAt PT wide_Allows [wides l, strs who, .int .i64 bit] d .nil K := by
  refine CallAt.res ?_
  refine wide_Allows.of rfl rfl ?_
  cbv
  have fin : ∀ (b : Bool) {y : AV}, b = allowS (l .o) (who .o) (bit .o) → Same y (.bool fun _ => b) → ∃ r', SameR (.ret y) r' ∧ K r' .nil := fun b y h1 h2 => ⟨_, .ret h2, hr _ h1⟩
  refine br_rev (br_dec (fun h1 => ?_) (fun h1 => ?_))
  · have h1 : bit .o < 0 := h1
    cbv
    exact fin false (by unfold allowS; rw [decide_eq_false (by omega : ¬ 0 ≤ bit .o)]; rfl) (.ff rfl)
  have h1 : ¬ bit .o < 0 := h1
  cbv
  refine br_dec (fun h2 => ?_) (fun h2 => ?_)
  · have h2 : 14 ≤ bit .o := h2
    cbv
    exact fin false (by unfold allowS; rw [decide_eq_false (by omega : ¬ bit .o < 14)]; simp) (.ff rfl)
  have h2 : ¬ 14 ≤ bit .o := h2
  have hal : allowS (l .o) (who .o) (bit .o) = (decide (0 ≤ ixP (pA (who .o) (bit .o)) (l .o)) && decide (((l .o).getD (ixP (pA (who .o) (bit .o)) (l .o)).toNat WideE.z).type = 1)) := by
    unfold allowS
    rw [decide_eq_true (by omega : 0 ≤ bit .o), decide_eq_true (by omega : bit .o < 14)]; rfl
  have hix := ixP_lt (pA (who .o) (bit .o)) (l .o)
  cbv
  refine CallAt.frameP [(10000, 5), (10001, 4)] [wides l, .fn (.func wide_Allows_1) .nil (.cons (.ptr 10000 0) (.cons (.ptr 10001 0) .nil))] (by kernel_rfl) rfl fun K1 hK1 => ?_
  cbv
  refine indexA_c l who bit hl ⟨by omega, by omega⟩ hw fun n hn => hK1 _ _ ?_
  cbv
  rw [← hn] at hal hix
  refine br_dec (fun h3 => ?_) (fun h3 => ?_)
  · have h3 : 0 ≤ n .o := h3
    cbv
    refine safe ⟨h3, by unfold zi; omega⟩ ?_
    refine ⟨_, .ret (Same.refl _), hr _ ?_⟩
    rw [hal, decide_eq_true h3, Bool.true_and]
  · have h3 : ¬ 0 ≤ n .o := h3
    cbv
    exact fin false (by rw [hal, decide_eq_false h3]; rfl) (.ff rfl)
end Go.Proofs.YtjjddmbnfkmfdaaDoor
/- Arguments of the program's own kinds, opened: what is kept of a file, who asks. -/
namespace Go.Proofs.YtjjddmbnfkmfdaaDoor
open Go Go.Proofs.YtjjddmbnfkmfdaaDoor.Sx
set_option linter.unusedVariables false
end Go.Proofs.YtjjddmbnfkmfdaaDoor
/- The document's example of wide lists, arguments, law WideAll: walked. -/
namespace Go.Proofs.YtjjddmbnfkmfdaaDoor
open Go Go.Proofs.YtjjddmbnfkmfdaaDoor.Sx F
set_option linter.unusedVariables false
set_option linter.unusedSimpArgs false
/-- OWNER@ -/
def ownerS : List UInt8 := [79, 87, 78, 69, 82, 64]
def exS : List UInt8 := [65, 58, 58, 79, 87, 78, 69, 82, 64, 58, 114, 119]
def exL : List WideE := [⟨1, 0, 3, ownerS⟩]
theorem ex_says : Says exS exL := ⟨(mayW_iff _).1 (by decide +kernel), by decide +kernel⟩
theorem one_str (x : List UInt8) : Same (.sl 1 (fun _ => 1) fun i => elemAt 1 (.cons (.str fun _ => x) .nil) (i .o)) (strs fun _ => [x]) :=
  Same.sl rfl fun i hi => by
    have hi : i < 1 := hi
    obtain rfl : i = 0 := by omega
    rfl
theorem aw10_c {d : Nat} {K : ARes → BL → Prop} (hr : ∀ b : Th Bool, b .o = true → K (.ret (.bool b)) .nil) : CallAt PT l10_awake [] d .nil K := by
  refine CallAt.res ?_
  refine l10_awake.of rfl rfl ?_
  cbv
  refine wparse_c (fun _ => exS) (by decide) fun l b hp => ?_
  obtain ⟨hb, hl⟩ := hp.of ex_says
  cbv
  refine br_is hb ?_
  cbv
  refine br_is (by show decide (zi (l .o).length = 1) = true; rw [hl]; rfl) ?_
  cbv
  refine safe (by show (0 : Int) ≤ 0 ∧ 0 < zi (l .o).length; rw [hl]; decide) ?_
  refine br_is (by show decide (((l .o).getD 0 WideE.z).mask = 3) = true; rw [hl]; rfl) ?_
  cbv
  have ok : AllOk (l .o) := by rw [hl]; exact ex_says.1
  refine wText_c l ok fun t ht => ?_
  have ht : t .o = exS := by rw [ht, hl]; exact ex_says.2
  cbv
  refine br_is (by show decide (t .o = exS) = true; rw [decide_eq_true ht]) ?_
  cbv
  refine CallAt.args (.cons (Same.refl _) (.cons (one_str ownerS) (.cons (Same.refl _) .nil))) ?_
  refine wallows_c l (fun _ => [ownerS]) (fun _ => 1) ok (by decide) fun r hr' => ?_
  cbv
  refine ⟨_, .ret (Same.refl _), hr _ ?_⟩
  rw [hr', hl]
  decide +kernel
theorem PW.len {s : List UInt8} {l : List WideE} {b : Bool} (h : PW s l b) : l.length ≤ 32 := by
  rcases h with ⟨_, h, _⟩ | ⟨_, rfl, _⟩
  · exact h.1
  · exact Nat.zero_le _
end Go.Proofs.YtjjddmbnfkmfdaaDoor
/- Functions resolved once more, with marks (printed by a tool). -/
namespace Go.Proofs.YtjjddmbnfkmfdaaDoor
open Go Go.Proofs.YtjjddmbnfkmfdaaDoor.Sx
namespace F
end F
end Go.Proofs.YtjjddmbnfkmfdaaDoor
/- Law WideKnown: walked. -/
namespace Go.Proofs.YtjjddmbnfkmfdaaDoor
open Go Go.Proofs.YtjjddmbnfkmfdaaDoor.Sx F
set_option linter.unusedVariables false
set_option linter.unusedSimpArgs false
instance says_dec (s : List UInt8) (l : List WideE) : Decidable (Says s l) := decidable_of_iff (mayW l = true ∧ textW l = s) ⟨fun h => ⟨(mayW_iff l).1 h.1, h.2⟩, fun h => ⟨(mayW_iff l).2 h.1, h.2⟩⟩
/-- A text is one of a list's, or of none. -/
def noneW (s : List UInt8) : Bool := decide (s ≠ []) && match (splitC 44 s).mapM readW with | some l => !decide (Says s l) | none => true
theorem none_says {s : List UInt8} (h : noneW s = true) : ∀ l, ¬ Says s l := fun l hl => by
  unfold noneW at h
  simp only [Bool.and_eq_true, decide_eq_true_eq] at h
  obtain ⟨h1, h2⟩ := h
  have := (mapM_iff _ _ _).2 (says_map hl h1)
  rw [this] at h2
  simp only [Bool.not_eq_true', decide_eq_false_iff_not] at h2
  exact h2 hl
end Go.Proofs.YtjjddmbnfkmfdaaDoor
/- Law WideBack: walked. -/
namespace Go.Proofs.YtjjddmbnfkmfdaaDoor
open Go Go.Proofs.YtjjddmbnfkmfdaaDoor.Sx F
set_option linter.unusedVariables false
set_option linter.unusedSimpArgs false
def dch (x : Int) : UInt8 := UInt8.ofNat (IntKind.u8.wrap (IntKind.i64.wrap (48 + x))).toNat
theorem dch_lt : ∀ n : Fin 10, 48 ≤ (dch n.1).toNat ∧ (dch n.1).toNat < 58 := by decide +kernel
/-- Small numbers' digits: one sign or two, digits all. -/
def Dig (s : List UInt8) : Prop := 1 ≤ s.length ∧ s.length ≤ 2 ∧ ∀ c ∈ s, 48 ≤ c.toNat ∧ c.toNat < 58
theorem bytesN_len (n : Nat) (g : Th Nat → AV) : (bytesN n g).length = n := by simp [bytesN]
theorem digit2_c (n : Th Int) (hn : 0 ≤ n .o ∧ n .o < 50) {d : Nat} {K : ARes → BL → Prop} (hr : ∀ t : Th (List UInt8), Dig (t .o) → K (.ret (.str t)) .nil) : CallAt PT r1_Digits [.int .i64 n] d .nil K := by
  refine CallAt.res ?_
  refine r1_Digits.of rfl rfl ?_
  cbv
  refine loop_at (X := Nat × List UInt8) 1000 [] [] (fun _ x => .cons 0 (.int .i64 fun _ => zi x.1) (.cons 3 (.str fun _ => x.2) .nil)) (fun _ k => .nil)
    (fun x => (x.1 < 50 ∧ x.2 = []) ∨ (x.1 < 10 ∧ x.2.length = 1 ∧ ∀ c ∈ x.2, 48 ≤ c.toNat ∧ c.toNat < 58)) (fun x => x.1) ((n .o).toNat, []) ?_ (.inl ⟨by omega, rfl⟩) ?_
  · cbv
    (repeat' (first | exact True.intro | exact Same.refl _ | exact SameB.refl _ | exact ⟨rfl⟩ | exact Same.int rfl | exact Same.str rfl | exact Same.bool rfl | (refine Same.int ?_; simp only [List.length_append, List.length_cons, List.length_nil, zi]; omega) | (refine SameB.row' rfl fun i hi => ?_; first | rfl | exact absurd hi (Nat.not_lt_zero _)) | refine And.intro ?_ ?_ | refine SameB.cells ?_ | exact SameC.nil | refine SameC.cons ?_ ?_ | exact Same.nsl rfl | exact Same.tt rfl | exact Same.ff rfl))
    all_goals exact Same.int (by show n .o = zi (n .o).toNat; unfold zi; omega)
  · rintro ⟨m, s⟩ hR
    dsimp only at hR
    have hsl : s.length ≤ 1 := by rcases hR with ⟨_, rfl⟩ | ⟨_, h, _⟩ <;> simp_all
    have hsd : ∀ c ∈ s, 48 ≤ c.toNat ∧ c.toNat < 58 := by rcases hR with ⟨_, rfl⟩ | ⟨_, _, h⟩; (intro c hc; cases hc); exact h
    cbv
    refine br_dec (fun h1 => ?_) (fun h1 => ?_)
    · have h1 : 10 ≤ m := by have h1 : 10 ≤ zi m := h1; unfold zi at h1; omega
      obtain ⟨hm, rfl⟩ : m < 50 ∧ s = [] := by
        rcases hR with h | ⟨h, _⟩
        · exact h
        · omega
      cbv
      refine safe (by decide) ?_
      refine safe (fun i hi => ⟨_, rfl⟩) ?_
      refine safe (by dsimp only; rw [bytesN_len]; decide) ?_
      refine safe (by decide) ?_
      refine ⟨(m / 10, [dch (m % 10 : Nat)]), .inr ⟨by show m / 10 < 10; omega, rfl, fun c hc => ?_⟩, by show m / 10 < m; omega, ?_⟩
      · rw [List.mem_singleton.1 hc]; exact dch_lt ⟨m % 10, Nat.mod_lt _ (by decide)⟩
      · cbv
        have e1 : (zi m).tdiv 10 = zi (m / 10) := rfl
        (repeat' (first | exact True.intro | exact Same.refl _ | exact SameB.refl _ | exact ⟨rfl⟩ | exact Same.int rfl | exact Same.str rfl | exact Same.bool rfl | (refine Same.int ?_; simp only [List.length_append, List.length_cons, List.length_nil, zi]; omega) | (refine SameB.row' rfl fun i hi => ?_; first | rfl | exact absurd hi (Nat.not_lt_zero _)) | refine And.intro ?_ ?_ | refine SameB.cells ?_ | exact SameC.nil | refine SameC.cons ?_ ?_ | exact Same.nsl rfl | exact Same.tt rfl | exact Same.ff rfl))
        exact Same.int (by show IntKind.i64.wrap ((zi m).tdiv 10) = zi (m / 10); rw [IntKind.wrap_i64, e1]; unfold zi; omega)
    · have h1 : m < 10 := by have h1 : ¬ 10 ≤ zi m := h1; unfold zi at h1; omega
      cbv
      refine safe (fun i hi => ⟨_, rfl⟩) ?_
      refine safe (by dsimp only; rw [bytesN_len]; omega) ?_
      refine ⟨_, .ret (y := .str fun _ => dch m :: s) (.refl _), hr (fun _ => dch m :: s) ⟨by simp, by simp; omega, fun c hc => ?_⟩⟩
      rcases List.mem_cons.1 hc with rfl | hc
      · exact dch_lt ⟨m, h1⟩
      · exact hsd c hc
def whoM (t : Th (List UInt8)) (m : Nat) : List UInt8 := ([fun _ => [79, 87, 78, 69, 82, 64], fun _ => [71, 82, 79, 85, 80, 64], fun _ => [69, 86, 69, 82, 89, 79, 78, 69, 64], t] : List (Th (List UInt8))).getD m (fun _ => [79, 87, 78, 69, 82, 64]) .o
def whoOk (s : List UInt8) : Prop := s ≠ [] ∧ s.length ≤ 255 ∧ ∀ c ∈ s, c ≠ 0 ∧ c ≠ 58 ∧ c ≠ 44 ∧ c ≠ 10
theorem whoM_ok {t : Th (List UInt8)} (ht : Dig (t .o)) : ∀ m, m < 4 → whoOk (whoM t m)
  | 0, _ => by show whoOk [79, 87, 78, 69, 82, 64]; unfold whoOk; decide
  | 1, _ => by show whoOk [71, 82, 79, 85, 80, 64]; unfold whoOk; decide
  | 2, _ => by show whoOk [69, 86, 69, 82, 89, 79, 78, 69, 64]; unfold whoOk; decide
  | 3, _ => by
    obtain ⟨h1, h2, h3⟩ := ht
    refine ⟨fun e => ?_, by show (t .o).length ≤ 255; omega, fun c hc => ?_⟩
    · have e : t .o = [] := e
      rw [e] at h1; simp at h1
    · have := h3 c hc
      refine ⟨?_, ?_, ?_, ?_⟩ <;> (rintro rfl; revert this; decide)
theorem made_ok {x y : Int} (hx : 0 ≤ x ∧ x < 65536) (hy : 0 ≤ y ∧ y < 65536) {t : Th (List UInt8)} (ht : Dig (t .o)) : WideOk ⟨IntKind.i64.wrap (1 + (IntKind.i64.wrap ((IntKind.i64.wrap x).tdiv 4)).tmod 2), (IntKind.i64.wrap ((IntKind.i64.wrap x).tdiv 8)).tmod 128, (IntKind.i64.wrap y).tmod 16384, whoM t (x.tmod 4).toNat⟩ := by
  have wx : IntKind.i64.wrap x = x := by rw [IntKind.wrap_i64]; omega
  have wy : IntKind.i64.wrap y = y := by rw [IntKind.wrap_i64]; omega
  have e4 : x.tdiv 4 = x / 4 := Int.tdiv_eq_ediv_of_nonneg hx.1
  have e8 : x.tdiv 8 = x / 8 := Int.tdiv_eq_ediv_of_nonneg hx.1
  have w4 : IntKind.i64.wrap (x / 4) = x / 4 := by rw [IntKind.wrap_i64]; omega
  have w8 : IntKind.i64.wrap (x / 8) = x / 8 := by rw [IntKind.wrap_i64]; omega
  have m2 : (x / 4).tmod 2 = x / 4 % 2 := Int.tmod_eq_emod_of_nonneg (by omega)
  have m128 : (x / 8).tmod 128 = x / 8 % 128 := Int.tmod_eq_emod_of_nonneg (by omega)
  have mm : y.tmod 16384 = y % 16384 := Int.tmod_eq_emod_of_nonneg hy.1
  have m4 : x.tmod 4 = x % 4 := Int.tmod_eq_emod_of_nonneg hx.1
  have wt : IntKind.i64.wrap (1 + x / 4 % 2) = 1 + x / 4 % 2 := by rw [IntKind.wrap_i64]; omega
  rw [wx, wy, e4, e8, w4, w8, m2, m128, mm, m4, wt]
  obtain ⟨h1, h2, h3⟩ := whoM_ok ht (x % 4).toNat (by omega)
  exact ⟨by show 1 + x / 4 % 2 = 1 ∨ 1 + x / 4 % 2 = 2; omega, by show 0 ≤ x / 8 % 128 ∧ x / 8 % 128 < 128; omega, by show 0 ≤ y % 16384 ∧ y % 16384 < 16384; omega, h1, h2, h3⟩
theorem wmake_c (ns : Th (List Int)) (hn : ∀ n ∈ ns .o, 0 ≤ n ∧ n < 65536) (hl : (ns .o).length ≤ 140737488355328) {d : Nat} {K : ARes → BL → Prop} (hr : ∀ l : Th (List WideE), AllOk (l .o) → K (.ret (wides l)) .nil) : CallAt PT l10_Make [nums .u16 ns] d .nil K := by
  obtain ⟨F, hF⟩ : ∃ F : Nat → Int, ∀ i, F i = (ns .o).getD i 0 := ⟨fun i => (ns .o).getD i 0, fun _ => rfl⟩
  have hW : nums .u16 ns = .sl 1 (fun _ => (ns .o).length) fun i => .cons (.int .u16 fun _ => F (i .o)) .nil := by
    unfold nums
    simp only [hF]
  have hR : ∀ i, i < (ns .o).length → 0 ≤ F i ∧ F i < 65536 := fun i hi => by rw [hF]; exact hn _ (getD_mem hi)
  rw [hW]
  clear hW
  refine CallAt.res ?_
  refine l10_Make.of rfl rfl ?_
  cbv
  refine nil_tmp 3 9000 4 (fun i => WideE.ch fun _ => ([] : List WideE).getD (i .o) WideE.z) rfl rfl ?_
  refine loop_at (X := Nat × List WideE) 1000 [0, 2] [] (fun _ x => .cons 3 (.row 9000) (.cons 4 (.int .i64 fun _ => zi x.1) .nil)) (fun _ x => .cons 9000 (rowB 4 WideE.ch WideE.z fun _ => x.2) .nil)
    (fun x => x.1 ≤ (ns .o).length ∧ x.2.length ≤ 20 ∧ ∀ w ∈ x.2, WideOk w) (fun x => (ns .o).length - x.1) (0, []) ?_ ⟨Nat.zero_le _, Nat.zero_le _, fun w hw => by cases hw⟩ ?_
  · cbv
    (repeat' (first | exact True.intro | exact Same.refl _ | exact SameB.refl _ | exact ⟨rfl⟩ | exact Same.int rfl | exact Same.str rfl | exact Same.bool rfl | (refine Same.int ?_; simp only [List.length_append, List.length_cons, List.length_nil, zi]; omega) | (refine SameB.row' rfl fun i hi => ?_; first | rfl | exact absurd hi (Nat.not_lt_zero _)) | refine And.intro ?_ ?_ | refine SameB.cells ?_ | exact SameC.nil | refine SameC.cons ?_ ?_ | exact Same.nsl rfl | exact Same.tt rfl | exact Same.ff rfl))
  · rintro ⟨i, ws⟩ ⟨h2, h3, h4⟩
    dsimp only at h2 h3 h4
    have e1 : IntKind.i64.wrap (zi i + 1) = zi (i + 1) := zi_succ (by omega)
    have hz := zi_toNat i
    cbv
    refine br_dec (fun h5 => ?_) (fun h5 => ?_)
    · have h5 : i + 1 < (ns .o).length := by
        have h5 : IntKind.i64.wrap (zi i + 1) < zi (ns .o).length := h5
        rw [e1] at h5; exact zi_lt.1 h5
      cbv
      refine br_dec (fun h6 => ?_) (fun h6 => ?_)
      · have h6 : ws.length < 20 := by have h6 : zi ws.length < 20 := h6; unfold zi at h6; omega
        have hi1 : i < (ns .o).length := by omega
        have hFi := hR i hi1
        have hFj := hR (i + 1) h5
        have m4 : 0 ≤ (F i).tmod 4 ∧ (F i).tmod 4 < 4 := ⟨Int.tmod_nonneg _ hFi.1, Int.tmod_lt_of_pos _ (by decide)⟩
        have w1 : IntKind.i64.wrap (F i) = F i := by rw [IntKind.wrap_i64]; omega
        cbv
        refine safe ⟨zi_nonneg _, zi_lt.2 hi1⟩ ?_
        refine safe (by decide) ?_
        refine safe ⟨zi_nonneg _, zi_lt.2 hi1⟩ ?_
        refine safe (by decide) ?_
        refine digit2_c (fun _ => (IntKind.i64.wrap (F (zi i).toNat)).tmod 50) (by show 0 ≤ (IntKind.i64.wrap (F (zi i).toNat)).tmod 50 ∧ (IntKind.i64.wrap (F (zi i).toNat)).tmod 50 < 50; rw [hz, w1]; exact ⟨Int.tmod_nonneg _ hFi.1, Int.tmod_lt_of_pos _ (by decide)⟩) fun t ht => ?_
        cbv
        refine safe (by show 0 ≤ (F (zi i).toNat).tmod 4 ∧ (F (zi i).toNat).tmod 4 < zi 4; rw [hz]; exact m4) ?_
        refine safe (by show ((F (zi i).toNat).tmod 4).toNat < 4; rw [hz]; omega) ?_
        refine safe ⟨zi_nonneg _, zi_lt.2 hi1⟩ ?_
        refine safe (by decide) ?_
        refine safe (by decide) ?_
        refine safe ⟨zi_nonneg _, zi_lt.2 hi1⟩ ?_
        refine safe (by decide) ?_
        refine safe (by decide) ?_
        refine safe (by show 0 ≤ IntKind.i64.wrap (zi i + 1) ∧ IntKind.i64.wrap (zi i + 1) < zi (ns .o).length; rw [e1]; exact ⟨zi_nonneg _, zi_lt.2 h5⟩) ?_
        refine safe (by decide) ?_
        obtain ⟨V, hV⟩ : ∃ V : WideE, V = ⟨IntKind.i64.wrap (1 + (IntKind.i64.wrap ((IntKind.i64.wrap (F (zi i).toNat)).tdiv 4)).tmod 2), (IntKind.i64.wrap ((IntKind.i64.wrap (F (zi i).toNat)).tdiv 8)).tmod 128, (IntKind.i64.wrap (F (IntKind.i64.wrap (zi i + 1)).toNat)).tmod 16384, whoM t ((F (zi i).toNat).tmod 4).toNat⟩ := ⟨_, rfl⟩
        have okV : WideOk V := by
          rw [hV, e1, hz, zi_toNat]
          exact made_ok hFi hFj ht
        refine app_one WideE.ch WideE.z ws V rfl (fun i hi => rfl) rfl (by rw [hV]; rfl) (by omega) ?_
        cbv
        refine ⟨(i + 2, ws ++ [V]), ⟨by show i + 2 ≤ _; omega, by show (ws ++ [V]).length ≤ 20; simp only [List.length_append, List.length_cons, List.length_nil]; omega, fun w hw => ?_⟩, by show (ns .o).length - (i + 2) < (ns .o).length - i; omega, ?_⟩
        · rcases List.mem_append.1 hw with q | q
          · exact h4 w q
          · rw [List.mem_singleton.1 q]; exact okV
        · cbv
          have e2 : IntKind.i64.wrap (zi i + 2) = zi (i + 2) := by rw [IntKind.wrap_i64]; unfold zi; omega
          rw [e2]
          (repeat' (first | exact True.intro | exact Same.refl _ | exact SameB.refl _ | exact ⟨rfl⟩ | exact Same.int rfl | exact Same.str rfl | exact Same.bool rfl | (refine Same.int ?_; simp only [List.length_append, List.length_cons, List.length_nil, zi]; omega) | (refine SameB.row' rfl fun i hi => ?_; first | rfl | exact absurd hi (Nat.not_lt_zero _)) | refine And.intro ?_ ?_ | refine SameB.cells ?_ | exact SameC.nil | refine SameC.cons ?_ ?_ | exact Same.nsl rfl | exact Same.tt rfl | exact Same.ff rfl))
      · cbv
        exact ⟨_, .ret (y := wides fun _ => ws) (Same.refl _), hr (fun _ => ws) ⟨by show ws.length ≤ 32; omega, h4⟩⟩
    · cbv
      exact ⟨_, .ret (y := wides fun _ => ws) (Same.refl _), hr (fun _ => ws) ⟨by show ws.length ≤ 32; omega, h4⟩⟩
end Go.Proofs.YtjjddmbnfkmfdaaDoor
/- Law WideBack: walked. -/
namespace Go.Proofs.YtjjddmbnfkmfdaaDoor
open Go Go.Proofs.YtjjddmbnfkmfdaaDoor.Sx F
set_option linter.unusedVariables false
set_option linter.unusedSimpArgs false
theorem splitC_snoc (c : UInt8) : ∀ s : List UInt8, splitC c (s ++ [c]) = splitC c s ++ [[]]
  | [] => by
    show splitC c [c] = [[], []]
    unfold splitC
    rw [if_pos rfl]; rfl
  | x :: r => by
    have ih := splitC_snoc c r
    rw [List.cons_append, splitC, splitC, ih]
    by_cases h : x = c
    · rw [if_pos h, if_pos h]; rfl
    · rw [if_neg h, if_neg h]
      cases hs : splitC c r with
      | nil => have := splitC_len c r; rw [hs] at this; simp at this
      | cons a t => rfl
theorem read_nil : readW [] = none := by decide +kernel
theorem comma_none (s : List UInt8) : ∀ m, ¬ Says (s ++ [44]) m := by
  refine says_bad (k := (splitC 44 s).length) (by simp) (by rw [splitC_snoc]; simp) ?_
  rw [splitC_snoc, List.getD_eq_getElem?_getD, List.getElem?_append_right (Nat.le_refl _), Nat.sub_self]
  exact read_nil
theorem PW.no {s : List UInt8} {l : List WideE} {b : Bool} (h : PW s l b) (hn : ∀ m, ¬ Says s m) : b = false := by
  rcases h with ⟨_, h⟩ | ⟨h, _⟩
  · exact absurd h (hn _)
  · exact h
theorem none1 : noneW [65, 58, 58, 79, 87, 78, 69, 82, 64, 58, 119, 114] = true := by decide +kernel
theorem none2 : noneW [65, 58, 102, 102, 58, 79, 87, 78, 69, 82, 64, 58, 114] = true := by decide +kernel
theorem none3 : noneW [65, 58, 58, 58, 114] = true := by decide +kernel
def byI (a : Th UInt8) : AV := .cons (.int .u8 fun _ => zi (a .o).toNat) .nil
theorem bytes_back (L : List UInt8) {n : Nat} (hn : L.length = n) : bytesN n (fun q => byI fun _ => L.getD (q .o) 0) = L := by
  subst hn
  apply List.ext_getElem (by simp [bytesN])
  intro i h1 h2
  simp only [bytesN, List.getElem_map, List.getElem_range]
  show UInt8.ofNat (zi (L.getD i 0).toNat).toNat = _
  rw [zi_toNat, List.getD_eq_getElem?_getD, List.getElem?_eq_getElem h2]
  simp
theorem wideBack_c (ns : Th (List Int)) (at' by' : Th Int) (hn : ∀ n ∈ ns .o, 0 ≤ n ∧ n < 65536) (hl : (ns .o).length ≤ 140737488355328) (ha : 0 ≤ at' .o ∧ at' .o < 65536) (hy : 0 ≤ by' .o ∧ by' .o < 256) : CallAt PT l10_WideBack [nums .u16 ns, .int .u16 at', .int .u8 by'] 9999 .nil Yes := by
  have hv : by' = fun _ => zi (UInt8.ofNat (by' .o).toNat).toNat := by
    funext x
    cases x
    rw [UInt8.toNat_ofNat']
    unfold zi
    omega
  generalize UInt8.ofNat (by' .o).toNat = v at hv
  subst hv
  refine CallAt.res ?_
  refine l10_WideBack.of rfl rfl ?_
  cbv
  refine wmake_c ns hn hl fun l ok => ?_
  cbv
  refine wText_c l ok fun s hs => ?_
  have hsay : Says (s .o) (l .o) := ⟨ok, hs.symm⟩
  have hslen : (s .o).length ≤ 9600 := by rw [hs]; have := text_len ok.2; have := ok.1; omega
  cbv
  refine wparse_c s (by omega) fun x xb hx => ?_
  obtain ⟨hxb, hxl⟩ := hx.of hsay
  cbv
  refine wMay_c l (Nat.le_trans ok.1 (by decide)) fun m hm => ?_
  have hm : m .o = true := by rw [hm]; exact (mayW_iff _).2 ok
  cbv
  refine br_rev (br_not (by show (!m .o) = false; rw [hm]; rfl) ?_)
  cbv
  refine br_rev (br_not (by show (!xb .o) = false; rw [hxb]; rfl) ?_)
  cbv
  refine samewide_c x l (Nat.le_trans hx.len (by decide)) fun e he => ?_
  have he : e .o = true := by rw [he, hxl]; simp
  cbv
  refine br_not (by show (!e .o) = false; rw [he]; rfl) ?_
  cbv
  refine wparse_c (fun _ => [65, 58, 58, 79, 87, 78, 69, 82, 64, 58, 119, 114]) (by decide) fun x1 b1 h1 => ?_
  have h1 : b1 .o = false := h1.no (none_says none1)
  cbv
  refine wparse_c (fun _ => [65, 58, 102, 102, 58, 79, 87, 78, 69, 82, 64, 58, 114]) (by decide) fun x2 b2 h2 => ?_
  have h2 : b2 .o = false := h2.no (none_says none2)
  cbv
  refine wparse_c (fun _ => [65, 58, 58, 58, 114]) (by decide) fun x3 b3 h3 => ?_
  have h3 : b3 .o = false := h3.no (none_says none3)
  cbv
  refine safe (by show (s .o).length + 1 ≤ 9223372036854775807; omega) ?_
  refine wparse_c (fun _ => s .o ++ [44]) (by show (s .o ++ [44]).length ≤ _; simp only [List.length_append, List.length_cons, List.length_nil]; omega) fun x4 b4 h4 => ?_
  have h4 : b4 .o = false := h4.no (comma_none _)
  cbv
  refine br_dec (fun h5 => ?_) (fun h5 => ?_)
  · cbv
    refine br_is (by show (!b1 .o) = true; rw [h1]; rfl) ?_
    cbv
    refine br_is (by show (!b2 .o) = true; rw [h2]; rfl) ?_
    cbv
    refine br_is (by show (!b3 .o) = true; rw [h3]; rfl) ?_
    cbv
    refine br_is (by show (!b4 .o) = true; rw [h4]; rfl) ?_
    cbv
    refine aw10_c fun b hb => ?_
    cbv
    exact ⟨_, .ret (Same.refl _), b, rfl, hb⟩
  · have h5 : (s .o).length ≠ 0 := by intro q; exact h5 (by show zi (s .o).length = 0; rw [q]; rfl)
    cbv
    have hwa : IntKind.i64.wrap (at' .o) = at' .o := by rw [IntKind.wrap_i64]; omega
    have hj : 0 ≤ (IntKind.i64.wrap (at' .o)).tmod (zi (s .o).length) ∧ (IntKind.i64.wrap (at' .o)).tmod (zi (s .o).length) < zi (s .o).length := by
      rw [hwa]
      exact ⟨Int.tmod_nonneg _ ha.1, Int.tmod_lt_of_pos _ (by unfold zi; omega)⟩
    refine safe (by omega) ?_
    refine safe (by show ¬ zi (s .o).length = 0; unfold zi; omega) ?_
    refine safe hj ?_
    refine put_rows byI 0 (s .o) v rfl (fun i hi => rfl) (by show ((IntKind.i64.wrap (at' .o)).tmod (zi (s .o).length)).toNat < _; unfold zi at hj ⊢; omega) rfl ?_
    generalize hJ : ((IntKind.i64.wrap (at' .o)).tmod (zi (s .o).length)).toNat = j
    have hu : bytesN (s .o).length (fun q => byI fun _ => ((s .o).set j v).getD (q .o) 0) = (s .o).set j v := bytes_back _ (by simp)
    have hul : ((s .o).set j v).length ≤ 100000 := by rw [List.length_set]; omega
    cbv
    refine safe (fun i hi => ⟨_, rfl⟩) ?_
    refine wparse_c (fun _ => bytesN (s .o).length (fun q => byI fun _ => ((s .o).set j v).getD (q .o) 0)) (by rw [hu]; exact hul) fun y yb hy' => ?_
    have hy' : PW ((s .o).set j v) (y .o) (yb .o) := by rw [← hu]; exact hy'
    cbv
    refine br_is (by show (!b1 .o) = true; rw [h1]; rfl) ?_
    cbv
    refine br_is (by show (!b2 .o) = true; rw [h2]; rfl) ?_
    cbv
    refine br_is (by show (!b3 .o) = true; rw [h3]; rfl) ?_
    cbv
    refine br_is (by show (!b4 .o) = true; rw [h4]; rfl) ?_
    cbv
    refine safe (fun i hi => ⟨_, rfl⟩) ?_
    refine br_rev (br_dec (fun h6 => ?_) (fun h6 => ?_))
    · cbv
      refine aw10_c fun b hb => ?_
      cbv
      exact ⟨_, .ret (Same.refl _), b, rfl, hb⟩
    · have h6 : ¬ (s .o).set j v = s .o := fun q => h6 (hu.trans q)
      cbv
      refine br_rev (br_nbool (fun h7 => ?_) (fun h7 => ?_))
      · cbv
        refine aw10_c fun b hb => ?_
        cbv
        exact ⟨_, .ret (Same.refl _), b, rfl, hb⟩
      · have h7 : yb .o = true := h7
        have hys : Says ((s .o).set j v) (y .o) := by
          rcases hy' with ⟨_, h⟩ | ⟨h, _⟩
          · exact h
          · rw [h7] at h; cases h
        cbv
        refine samewide_c y l (Nat.le_trans hy'.len (by decide)) fun r hr => ?_
        have hr : r .o = false := by
          rw [hr, decide_eq_false_iff_not]
          intro q
          rw [q] at hys
          exact h6 (by rw [← hys.2, hs])
        cbv
        refine br_is (by show (!r .o) = true; rw [hr]; rfl) ?_
        cbv
        refine aw10_c fun b hb => ?_
        cbv
        exact ⟨_, .ret (Same.refl _), b, rfl, hb⟩
end Go.Proofs.YtjjddmbnfkmfdaaDoor
