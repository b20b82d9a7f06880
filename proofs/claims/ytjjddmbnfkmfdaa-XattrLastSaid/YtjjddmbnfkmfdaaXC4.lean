/- Texts laid together: Dat, Row, Opn, Rc, Right, Byt, RightA, Made, Mk, Mkx, Split, Bld, Bldx, Esc, Strs, Xm, Xe, Xf, Six, Bit, Xg, Xh, Blw, Xi, Xj, Xk, Xl, Xn, Xat, Xo, Xp. -/
import Derived.ChangeSlices
import Derived.SizedLaws
import Derived.Deep.Slices
import Derived.Test.YtjjddmbnfkmfdaaProg
import Derived.KernelRfl
import Derived.Lib.Bytealg
import Derived.Shelf.Strings.Builder1
import Derived.Shelf.LaysM
import Derived.WalkKit
import Derived.WalkLawsBesides
import Derived.Lib.Strings
import Derived.Lib.Slices
import Derived.Lib.Walk
import Derived.Lib.AppendStr
import Derived.Laws.IdiomCopy
import Derived.Laws.Externs
import Derived.Lib.ConvBytes
import Derived.Laws.IdiomStrings
import Derived.Deep.RegionWith
import Derived.Shelf.Strings.BuilderF
import Derived.Tactics2
import Derived.Defers
import Derived.Recover
import Derived.Laws.Pointers
import Derived.Test.YtjjddmbnfkmfdaaXC3
/- The program's data, as the executor tells of it. -/
namespace Go.Proofs.Ytjjddmbnfkmfdaa
open Go Go.Proofs.Ytjjddmbnfkmfdaa.Sx
/-- A name with a value. -/
structure Xattr where
  name : List UInt8
  value : List UInt8
def Xattr.z : Xattr := ⟨[], []⟩
def Xattr.ch (a : Th Xattr) : AV := .cons (.str fun _ => (a .o).name) (.cons (.str fun _ => (a .o).value) .nil)
def Xattr.av (a : Th Xattr) : AV := .agg (Xattr.ch a)
def xattrs (l : Th (List Xattr)) : AV := .sl 2 (fun _ => (l .o).length) fun i => Xattr.ch fun _ => (l .o).getD (i .o) Xattr.z
/-- Short enough for a count that is a number of 64 bits. -/
def short {α : Type} (l : List α) : Prop := l.length ≤ 140737488355328
end Go.Proofs.Ytjjddmbnfkmfdaa
/- From a law's contract to what its row asks: it answers true, and nothing that was there has turned. -/
namespace Go.Proofs.Ytjjddmbnfkmfdaa
open Go Go.Proofs.Ytjjddmbnfkmfdaa.Sx Go.RowKit
/-- What a law is to come to. -/
def Yes (r : ARes) (_ : BL) : Prop := ∃ b : Th Bool, r = .ret (.bool b) ∧ b .o = true
theorem law_of {P : Th Program} {f : Nat} {asL0 : List AV} {w : World} {vs : List Value} (I : Nat → Nat → Prop) (hI : ∀ b o, I b o → b < w.heap.size) (hv : ListC ⟨fun _ => 0, fun _ => undef, I, w⟩ (chain asL0) vs) (hs : (chain asL0).still)
    (h : CallAt P f asL0 9999 .nil Yes) : Calls (P .o) f vs.toArray w fun e w' => e = .returned (.bool true) ∧ Below w.heap.size w w' := by
  have hdead : ∀ x, ¬ BL.nil.liveAt x := fun x hx => by simp [BL.liveAt, BL.get, Blk.live] at hx
  refine (h.run ⟨fun _ => 0, fun _ => undef, I, w⟩ vs ⟨fun d => trivial, fun d d' hd => (hdead d (solid_live hd)).elim, fun d hd => (hdead d (solid_live hd)).elim, hI, fun d x hx => hx.elim⟩ hv (fun x hx => ((AV.still_locs _).1 hs x hx).elim) (hdead _)).mono ?_
  rintro e w' ⟨E', r, B', rfl, ⟨b, rfl, hb⟩, hend, hinv, hpost, hl⟩
  cases e with
  | returned x =>
    have hx : x = .bool (b .o) := hend
    rw [hx, hb]
    exact ⟨rfl, hpost.os, hpost.tape, hpost.output, hpost.size, fun k hk => hpost.old k hk fun x hx => (hdead x (solid_live hx)).elim⟩
  | _ => exact hend.elim
/-- Numbers of any kind in a row. -/
def nums (k : IntKind) (l : Th (List Int)) : AV := .sl 1 (fun _ => (l .o).length) fun i => .cons (.int k fun _ => (l .o).getD (i .o) 0) .nil
theorem wf_u8 {n : Int} (h : (Lit.int .u8 n).wf = true) : 0 ≤ n ∧ n < 256 := by
  have : IntKind.u8.min ≤ n ∧ n ≤ IntKind.u8.max := by simpa [Lit.wf] using h
  have h1 : IntKind.u8.min = 0 := by decide
  have h2 : IntKind.u8.max = 255 := by decide
  omega
end Go.Proofs.Ytjjddmbnfkmfdaa
/- What a caller hands in, of any plain type, as the executor tells of it. -/
namespace Go.Proofs.Ytjjddmbnfkmfdaa
open Go Go.Proofs.Ytjjddmbnfkmfdaa.Sx Go.RowKit
set_option linter.unusedVariables false
set_option linter.unusedSimpArgs false
/-- The cells of a plain type. -/
inductive CS : Type | nil | b (r : CS) | i (k : IntKind) (r : CS) | s (r : CS) | sl (e r : CS)
def CS.len : CS → Nat | .nil => 0 | .b r => r.len + 1 | .i _ r => r.len + 1 | .s r => r.len + 1 | .sl _ r => r.len + 1
/-- A chain of such cells. -/
def Shape : CS → AV → Prop
  | .nil, c => c = .nil
  | .b r, c => ∃ x t, c = .cons (.bool x) t ∧ Shape r t
  | .i k r, c => ∃ n t, c = .cons (.int k n) t ∧ (Lit.int k (n .o)).wf = true ∧ Shape r t
  | .s r, c => ∃ x t, c = .cons (.str x) t ∧ (x .o).length ≤ 140737488355328 ∧ Shape r t
  | .sl e r, c => ∃ n g t, c = .cons (.sl e.len n g) t ∧ n .o ≤ 140737488351232 ∧ (∀ j, j < n .o → Shape e (g fun _ => j)) ∧ Shape r t
theorem shape_ok : ∀ (e : CS) (c : AV), Shape e c → c.okE ∧ c.len = e.len
  | .nil, c, h => by cases h; exact ⟨⟨trivial, rfl⟩, rfl⟩
  | .b r, c, h => by obtain ⟨x, t, rfl, h⟩ := h; obtain ⟨⟨h1, h2⟩, h3⟩ := shape_ok r t h; exact ⟨⟨⟨trivial, h1⟩, h2⟩, by simp [AV.len, CS.len, h3]⟩
  | .i k r, c, h => by obtain ⟨x, t, rfl, _, h⟩ := h; obtain ⟨⟨h1, h2⟩, h3⟩ := shape_ok r t h; exact ⟨⟨⟨trivial, h1⟩, h2⟩, by simp [AV.len, CS.len, h3]⟩
  | .s r, c, h => by obtain ⟨x, t, rfl, _, h⟩ := h; obtain ⟨⟨h1, h2⟩, h3⟩ := shape_ok r t h; exact ⟨⟨⟨trivial, h1⟩, h2⟩, by simp [AV.len, CS.len, h3]⟩
  | .sl e r, c, h => by obtain ⟨n, g, t, rfl, _, _, h⟩ := h; obtain ⟨⟨h1, h2⟩, h3⟩ := shape_ok r t h; exact ⟨⟨⟨trivial, h1⟩, h2⟩, by simp [AV.len, CS.len, h3]⟩
def tcsF (P : Program) (g : TypeId → CS → Option CS) : List Field → Nat → Nat → CS → Option CS
  | [], off, n, r => if off = n then some r else none
  | f :: fs, off, n, r => if f.offset = off then (match tcsF P g fs (off + P.cellsOf f.type) n r with | some q => g f.type q | none => none) else none
def tcs (P : Program) : Nat → TypeId → CS → Option CS
  | 0, _, _ => none
  | d + 1, t, r => match P.underlying t with
    | some .bool => some (.b r)
    | some (.int k) => some (.i k r)
    | some .string => some (.s r)
    | some (.slice e) => match tcs P d e .nil with
      | some c => if P.cellsOf e = c.len ∧ 0 < c.len ∧ 0 < P.bytesOf e then some (.sl c r) else none
      | none => none
    | some (.struct fs) => tcsF P (tcs P d) fs.toList 0 (P.cellsOf t) r
    | _ => none
section
variable {H : Type} {enc : TypeId × Value → H} {P : Program} {w : World}
/-- The caller's memory, shut for good. -/
abbrev envOf (w : World) : Env := ⟨fun _ => 0, fun _ => undef, fun b _ => b < w.heap.size, w⟩
def Small (P : Program) (t : TypeId) (d : DataW H) : Prop := ∀ n ∈ d.weights P t, n ≤ reachBytes
theorem mapM_cons' {α β : Type} (f : α → Option β) (a : α) (l : List α) (r : List β) (h : (a :: l).mapM f = some r) : ∃ x q, f a = some x ∧ l.mapM f = some q ∧ r = x :: q := by
  rw [List.mapM_cons] at h
  cases hx : f a with
  | none => rw [hx] at h; cases h
  | some x =>
    rw [hx] at h
    cases hq : l.mapM f with
    | none => rw [hq] at h; cases h
    | some q => rw [hq] at h; cases h; exact ⟨x, q, rfl, rfl, rfl⟩
/-- What opens a type: any cells that are read as data of it. -/
def Opens (enc : TypeId × Value → H) (P : Program) (w : World) (g : TypeId → CS → Option CS) : Prop :=
  ∀ t r c, g t r = some c → ∀ fuel cs (d : DataW H) ps, DataW.trod enc P w 0 (fun _ => true) true fuel t cs = some (d, ps) → Small P t d → ∀ (rest : AV) (rl : List Value), Shape r rest → ListC (envOf w) rest rl →
    ∃ ch, Shape c ch ∧ ListC (envOf w) ch (cs ++ rl)
theorem open_fields {g : TypeId → CS → Option CS} (hg : Opens enc P w g) {fuel : Nat} {cs : List Value} : ∀ (fs : List Field) (off : Nat) (r c : CS), tcsF P g fs off cs.length r = some c → ∀ xs : List (DataW H × List MemPlace),
    (fs.mapM fun f => DataW.trod enc P w 0 (fun _ => true) true fuel f.type ((cs.drop f.offset).take (P.cellsOf f.type))) = some xs → (∀ n ∈ DataW.weightsEach P (fs.map (·.type)) (xs.map (·.1)), n ≤ reachBytes) →
    ∀ (rest : AV) (rl : List Value), Shape r rest → ListC (envOf w) rest rl → ∃ ch, Shape c ch ∧ ListC (envOf w) ch (cs.drop off ++ rl)
  | [], off, r, c, hc, xs, hx, hw, rest, rl, hs, hl => by
    simp only [tcsF] at hc
    split at hc
    · rename_i he
      cases hc
      exact ⟨rest, hs, by rw [he, List.drop_length]; exact hl⟩
    · cases hc
  | f :: fs, off, r, c, hc, xs, hx, hw, rest, rl, hs, hl => by
    simp only [tcsF] at hc
    split at hc
    · rename_i he
      split at hc
      · rename_i q hq
        obtain ⟨x, xs', h1, h2, rfl⟩ := mapM_cons' _ _ _ _ hx
        simp only [List.map_cons, DataW.weightsEach, List.mem_append] at hw
        obtain ⟨ch, k1, k2⟩ := open_fields hg fs _ r q hq xs' h2 (fun n hn => hw n (.inr hn)) rest rl hs hl
        obtain ⟨d, ps⟩ := x
        obtain ⟨ch', m1, m2⟩ := hg f.type q c hc fuel _ d ps h1 (fun n hn => hw n (.inl hn)) ch _ k1 k2
        refine ⟨ch', m1, ?_⟩
        rw [he, ← List.append_assoc, ← List.drop_drop, List.take_append_drop] at m2
        exact m2
      · cases hc
    · cases hc
theorem weightsAll_mem {e : TypeId} : ∀ {l : List (DataW H)} {d : DataW H}, d ∈ l → ∀ n ∈ d.weights P e, n ∈ DataW.weightsAll P e l
  | x :: l, d, h, n, hn => by
    simp only [DataW.weightsAll, List.mem_append]
    rcases List.mem_cons.1 h with rfl | h
    · exact .inl hn
    · exact .inr (weightsAll_mem h n hn)
theorem opens (enc : TypeId × Value → H) (P : Program) (w : World) : ∀ n, Opens enc P w (tcs P n)
  | 0 => fun t r c h => by cases h
  | n + 1 => fun t r c h fuel cs d ps ht hsm rest rl hs hl => by
    have ih := opens enc P w n
    cases fuel with
    | zero => simp [DataW.trod] at ht
    | succ fuel =>
    simp only [tcs] at h
    split at h
    · rename_i hu
      cases h
      simp only [DataW.trod, hu] at ht
      split at ht <;> simp_all
      rename_i b
      exact ⟨.cons (.bool fun _ => b) rest, ⟨_, _, rfl, hs⟩, listC_cons.2 ⟨_, _, rfl, rfl, hl⟩⟩
    · rename_i k hu
      cases h
      simp only [DataW.trod, hu] at ht
      split at ht <;> simp_all
      rename_i k' m he
      obtain ⟨⟨_, hwf⟩, _⟩ := ht
      subst he
      exact ⟨.cons (.int _ fun _ => m) rest, ⟨_, _, rfl, hwf, hs⟩, listC_cons.2 ⟨_, _, rfl, rfl, hl⟩⟩
    · rename_i hu
      cases h
      simp only [DataW.trod, hu] at ht
      split at ht <;> simp_all
      rename_i s
      have hle : s.size ≤ reachBytes := by
        have := hsm s.size
        obtain ⟨_, hd, _⟩ := ht
        subst hd
        simpa [DataW.weights] using this
      refine ⟨.cons (.str fun _ => s.data.toList) rest, ⟨_, _, rfl, ?_, hs⟩, listC_cons.2 ⟨_, _, rfl, show Value.string s = .string ⟨s.data.toList.toArray⟩ from by rw [Array.toArray_toList], hl⟩⟩
      have : s.data.toList.length = s.size := Array.length_toList
      rw [this]
      unfold reachBytes at hle
      omega
    · rename_i e hu
      split at h
      · rename_i ce he
        split at h
        · rename_i hcond
          cases h
          obtain ⟨hce, hpos, hby⟩ := hcond
          rcases Deep.open_slice hu ht with ⟨rfl, hx⟩ | ⟨a, len, cap, m, n', D, Pl, rfl, _, hlc, hcm, hm, hx, hel⟩
          · exact ⟨.cons (.sl ce.len (fun _ => 0) fun _ => .nil) rest, ⟨_, _, _, rfl, Nat.zero_le _, fun j hj => absurd hj (Nat.not_lt_zero _), hs⟩, listC_cons.2 ⟨_, _, rfl, ⟨none, 0, rfl, Nat.le_refl _, fun j hj => absurd hj (Nat.not_lt_zero _)⟩, hl⟩⟩
          · simp only [if_true] at hm
            subst hm
            simp only [Prod.mk.injEq] at hx
            obtain ⟨rfl, rfl⟩ := hx
            have hw1 : ∀ q ∈ ((List.range len).map D ++ (List.range (m - len)).map fun j => D (len + j)), Small P e q := by
              intro q hq k hk
              refine hsm k ?_
              simp only [DataW.weights, hu, List.mem_cons, List.mem_append]
              rcases List.mem_append.1 hq with hq | hq
              · exact .inr (.inl (weightsAll_mem hq k hk))
              · exact .inr (.inr (weightsAll_mem hq k hk))
            have hlen : len ≤ 140737488351232 := by
              have := hsm ((len + (m - len)) * P.bytesOf e) (by simp [DataW.weights, hu])
              have h2 : len ≤ (len + (m - len)) * P.bytesOf e := Nat.le_trans (by omega) (Nat.le_mul_of_pos_right _ hby)
              unfold reachBytes at this
              omega
            have one : ∀ j, j < len → ∃ ch, Shape ce ch ∧ ∃ cs', w.cells? 0 (a.add (j * P.cellsOf e)) (P.cellsOf e) = some cs' ∧ ListC (envOf w) ch cs' := by
              intro j hj
              obtain ⟨cs', h1, h2⟩ := hel j (by omega)
              obtain ⟨ch, k1, k2⟩ := ih e .nil ce he n' cs' _ _ h2 (hw1 _ (List.mem_append_left _ (List.mem_map.2 ⟨j, by simpa using hj, rfl⟩))) .nil [] rfl (listC_nil.2 rfl)
              exact ⟨ch, k1, cs', h1, by simpa using k2⟩
            refine ⟨.cons (.sl ce.len (fun _ => len) fun j => if hj : j .o < len then (one (j .o) hj).choose else .nil) rest, ⟨_, _, _, rfl, hlen, fun j hj => ?_, hs⟩, listC_cons.2 ⟨_, _, rfl, ⟨some a, m, rfl, hlc, fun j hj => ?_⟩, hl⟩⟩
            · have hj : j < len := hj
              simp only [hj, dif_pos]
              exact (one j hj).choose_spec.1
            · have hj : j < len := hj
              simp only [hj, dif_pos]
              obtain ⟨k1, cs', h1, k2⟩ := (one j hj).choose_spec
              refine ⟨shape_ok _ _ k1, ?_⟩
              obtain ⟨_, hcl, hcc⟩ := World.cells?_some h1
              obtain ⟨b, o, sp⟩ := a
              have hsp : sp = none := by
                cases sp with
                | none => rfl
                | some q =>
                  exfalso
                  obtain ⟨cs0, e0, _⟩ := hel 0 (by omega)
                  obtain ⟨_, hl0, hc0⟩ := World.cells?_some e0
                  have hc0 := hc0 0 (by omega)
                  rw [List.getElem?_eq_getElem (show 0 < cs0.length by omega)] at hc0
                  have ha : ∀ x : Addr, x.add 0 = x := fun x => by unfold Addr.add; rw [if_pos rfl]
                  rw [Nat.zero_mul, ha, ha] at hc0
                  unfold World.cell? at hc0
                  split at hc0
                  · simp at hc0
                  · cases hc0
              subst hsp
              have hadd : ∀ o i, (⟨b, o, none⟩ : Addr).add i = ⟨b, o + i, none⟩ := fun o i => by unfold Addr.add; split <;> simp_all
              refine ⟨b, o, rfl, memC_of_list' _ cs' b (o + j * ce.len) k2 fun i v hv => ?_⟩
              have hi : i < cs'.length := by
                rcases Nat.lt_or_ge i cs'.length with h | h
                · exact h
                · rw [List.getElem?_eq_none h] at hv; cases hv
              have := hcc i (by omega)
              simp only [hadd] at this
              rw [hv, hce] at this
              refine ⟨this, ?_⟩
              show b < w.heap.size
              unfold World.cell? at this
              split at this
              · rename_i hh; exact (Array.getElem?_eq_some_iff.1 hh).1
              · cases this
        · cases h
      · cases h
    · rename_i fs hu
      simp only [DataW.trod, hu] at ht
      split at ht
      · rename_i hcl
        cases hm : (fs.toList.mapM fun f => DataW.trod enc P w 0 (fun _ => true) true fuel f.type ((cs.drop f.offset).take (P.cellsOf f.type))) with
        | none => rw [hm] at ht; cases ht
        | some xs =>
          rw [hm] at ht
          cases ht
          rw [← hcl] at h
          have := open_fields ih fs.toList 0 r c h xs hm (fun n hn => hsm n (by simp only [DataW.weights, hu]; exact hn)) rest rl hs hl
          simpa using this
      · cases ht
    · cases h
/-- An argument of a plain type, opened. -/
theorem open_plain {n : Nat} {t : TypeId} {c : CS} (hc : tcs P n t .nil = some c) {v : Value} {d : DataW H} {ps : List MemPlace} (h : DataW.Trod enc P w 0 (fun _ => true) true t v d ps) (hs : Small P t d) :
    ∃ ch, Shape c ch ∧ ListC (envOf w) ch v.cells.toList := by
  obtain ⟨fuel, h⟩ := h
  obtain ⟨ch, h1, h2⟩ := opens enc P w n t .nil c hc fuel _ d ps h hs .nil [] rfl (listC_nil.2 rfl)
  exact ⟨ch, h1, by simpa using h2⟩
end
/-- Rows of numbers. -/
theorem arg_nums {k : IntKind} {c : AV} (h : Shape (.sl (.i k .nil) .nil) c) : ∃ l : List Int, ((∀ n ∈ l, (Lit.int k n).wf = true) ∧ l.length ≤ 140737488355328) ∧ SameC c (.cons (nums k fun _ => l) .nil) := by
  obtain ⟨n, g, t, rfl, hn, hg, ht⟩ := h
  cases ht
  have one : ∀ m, m ≤ n .o → ∃ l : List Int, l.length = m ∧ (∀ x ∈ l, (Lit.int k x).wf = true) ∧ ∀ j, j < m → ∃ x : Th Int, (g fun _ => j) = .cons (.int k x) .nil ∧ x .o = l.getD j 0 := by
    intro m
    induction m with
    | zero => intro _; exact ⟨[], rfl, by simp, fun j hj => absurd hj (Nat.not_lt_zero _)⟩
    | succ m ih =>
      intro hm
      obtain ⟨l, h1, h2, h3⟩ := ih (by omega)
      obtain ⟨x, t, hx, hw, ht⟩ := hg m (by omega)
      cases ht
      refine ⟨l ++ [x .o], by simp [h1], fun y hy => ?_, fun j hj => ?_⟩
      · rcases List.mem_append.1 hy with hy | hy
        · exact h2 y hy
        · rw [List.mem_singleton.1 hy]; exact hw
      · by_cases hjm : j < m
        · obtain ⟨y, h4, h5⟩ := h3 j hjm
          refine ⟨y, h4, ?_⟩
          simp only [List.getD_eq_getElem?_getD, List.getElem?_append_left (show j < l.length by omega)] at h5 ⊢
          exact h5
        · obtain rfl : j = m := by omega
          refine ⟨x, hx, ?_⟩
          simp [List.getD_eq_getElem?_getD, List.getElem?_append_right (show l.length ≤ j by omega), h1]
  obtain ⟨l, h1, h2, h3⟩ := one _ (Nat.le_refl _)
  refine ⟨l, ⟨h2, by omega⟩, .cons (.sl h1.symm fun j hj => ?_) .nil⟩
  obtain ⟨x, h4, h5⟩ := h3 j hj
  rw [h4]
  show AV.cons (.int k x) .nil = .cons (.int k fun _ => l.getD j 0) .nil
  congr 2
  funext u
  cases u
  exact h5
theorem arg_one {E : Env} {x : AV} {v : Value} (h : ListC E (.cons x .nil) [v]) : Rp E x v := by
  obtain ⟨y, r, he, h1, _⟩ := listC_cons.1 h
  cases he
  exact h1
theorem small_of {H : Type} {P : Program} {ts : List TypeId} {ds : List (DataW H)} (h : (DataW.weightsEach P ts ds).all (· ≤ reachBytes) = true) {j : Nat} {t : TypeId} {d : DataW H} (ht : ts[j]? = some t) (hd : ds[j]? = some d) : Small P t d :=
  fun n hn => by simpa using List.all_eq_true.1 h n (DataW.weights_mem_each ht hd n hn)
end Go.Proofs.Ytjjddmbnfkmfdaa
/- The program's functions, resolved (printed by a tool). -/
namespace Go.Proofs.Ytjjddmbnfkmfdaa
open Go Go.Proofs.Ytjjddmbnfkmfdaa.Sx
namespace F
noncomputable def PT : Th Program := fun _ => Try.prog
abbrev l13_XattrLast : Nat := 5
def l13_XattrLast.rc : RC :=
  (.seq (.reg [R.q 6 (.mov R.ff)])
  (.seq (.seq (.reg [R.q 16 (.mov (R.t 1)),
    R.q 17 (.lenS (R.t 16)),
    R.q 18 (.bin .gtr .no (R.t 17) (R.i 200))])
  (.cond (R.t 18)
    (.seq (.reg [R.q 19 (.call 8 []),
      R.q 6 (.mov (R.t 19))])
    .ret)
    .skip))
  (.seq (.reg [R.q 20 (.mov (R.t 0)),
    R.q 21 (.call 19 [(R.t 20)]),
    R.q 7 (.mov (R.t 21))])
  (.seq (.reg [R.q 22 (.mov (R.t 7)),
    R.q 23 (.call 14 [(R.t 22)]),
    R.q 24 (.build (.cons (.str fun _ => []) (.cons (.str fun _ => []) .nil)) [(0, 1, (.val (.str fun _ => [83, 67, 72, 73, 76, 89, 46, 120, 97, 116, 116, 114, 46, 117, 115, 101, 114, 46, 122]))), (1, 1, (.val (.str fun _ => [102, 105, 114, 115, 116])))]),
    R.q 25 (.mov (R.t 1)),
    R.q 26 (.call 20 [(R.t 25)]),
    R.q 27 (.build (.cons (.str fun _ => []) (.cons (.str fun _ => []) .nil)) [(0, 1, (.val (.str fun _ => [76, 73, 66, 65, 82, 67, 72, 73, 86, 69, 46, 120, 97, 116, 116, 114, 46, 117, 115, 101, 114, 46, 122]))), (1, 1, (R.t 26))]),
    R.q 28 (.bslice 2 (.cons (.str fun _ => []) (.cons (.str fun _ => []) .nil)) 2 [(0, 2, (R.t 24)), (2, 2, (R.t 27))]),
    R.q 29 (.append 2 32 (R.t 23) (R.t 28)),
    R.q 8 (.mov (R.t 29))])
  (.seq (.reg [R.q 31 (.mov (R.t 8)),
    R.q 32 (.call 9 [(R.t 31)]),
    R.q 30 (.mov (R.t 32)),
    R.q 33 (.ext 0 (R.t 30)),
    R.q 34 (.ext 1 (R.t 30)),
    R.q 9 (.mov (R.t 33)),
    R.q 10 (.mov (R.t 34))])
  (.seq (.seq (.reg [R.q 35 (.mov (R.t 10)),
    R.q 36 (.call 17 [(R.t 35)]),
    R.q 37 (.bin .neq .no (R.t 36) (R.i 0)),
    R.q 38 (.mov (R.t 37)),
    R.g 39 (.mov (R.t 9)) 38 false,
    R.g 40 (.len (R.t 39)) 38 false,
    R.g 41 (.bin .lss .no (R.t 40) (R.i 1)) 38 false,
    R.q 42 (.pick (R.t 38) R.tt (R.t 41))])
  (.cond (R.t 42)
    (.seq (.reg [R.q 6 (.mov R.ff)])
    .ret)
    .skip))
  (.seq (.reg [R.q 11 (.mov R.ff)])
  (.seq (.seq (.reg [R.q 12 (.mov (R.i 0))])
  (.block 0 (.loop
     (.seq (.seq (.reg [R.q 43 (.mov (R.t 12)),
       R.q 44 (.mov (R.t 9)),
       R.q 45 (.len (R.t 44)),
       R.q 46 (.bin .lss .no (R.t 43) (R.t 45))])
     (.cond (R.t 46)
       .skip
       (.exit 0)))
     (.seq (.block 1 (.reg [R.q 49 (.mov (R.t 11)),
        R.q 50 (.mov (R.t 49)),
        R.g 51 (.mov (R.t 9)) 50 false,
        R.g 52 (.mov (R.t 12)) 50 false,
        R.g 53 (.idx 2 (R.t 51) (R.t 52)) 50 false,
        R.g 54 (.fld 0 (R.t 53)) 50 false,
        R.g 55 (.load1 (R.t 54)) 50 false,
        R.g 56 (.bin .eql .no (R.t 55) (.val (.str fun _ => [117, 115, 101, 114, 46, 122]))) 50 false,
        R.g 57 (.mov (R.t 56)) 50 false,
        R.g 58 (.mov (R.t 9)) 57 true,
        R.g 59 (.mov (R.t 12)) 57 true,
        R.g 60 (.idx 2 (R.t 58) (R.t 59)) 57 true,
        R.g 61 (.fld 1 (R.t 60)) 57 true,
        R.g 62 (.load1 (R.t 61)) 57 true,
        R.g 63 (.mov (R.t 1)) 57 true,
        R.g 64 (.bin .eql .no (R.t 62) (R.t 63)) 57 true,
        R.g 65 (.pick (R.t 57) (R.t 64) R.ff) 50 false,
        R.q 66 (.pick (R.t 50) R.tt (R.t 65)),
        R.q 11 (.mov (R.t 66))]))
     (.reg [R.q 47 (.mov (R.t 12)),
       R.q 48 (.bin .add .no (R.t 47) (R.i 1)),
       R.q 12 (.mov (R.t 48))]))))))
  (.seq (.reg [R.q 67 (.build (.cons (.str fun _ => []) (.cons (.str fun _ => []) .nil)) [(0, 1, (.val (.str fun _ => [83, 67, 72, 73, 76, 89, 46, 120, 97, 116, 116, 114, 46])))]),
    R.q 68 (.build (.cons (.str fun _ => []) (.cons (.str fun _ => []) .nil)) [(0, 1, (.val (.str fun _ => [76, 73, 66, 65, 82, 67, 72, 73, 86, 69, 46, 120, 97, 116, 116, 114, 46])))]),
    R.q 69 (.build (.cons (.str fun _ => []) (.cons (.str fun _ => []) .nil)) [(0, 1, (.val (.str fun _ => [76, 73, 66, 65, 82, 67, 72, 73, 86, 69, 46, 120, 97, 116, 116, 114, 46, 97, 37]))), (1, 1, (.val (.str fun _ => [])))]),
    R.q 70 (.build (.cons (.str fun _ => []) (.cons (.str fun _ => []) .nil)) [(0, 1, (.val (.str fun _ => [76, 73, 66, 65, 82, 67, 72, 73, 86, 69, 46, 120, 97, 116, 116, 114, 46, 97]))), (1, 1, (.val (.str fun _ => [89])))]),
    R.q 71 (.build (.cons (.str fun _ => []) (.cons (.str fun _ => []) .nil)) [(0, 1, (.val (.str fun _ => [76, 73, 66, 65, 82, 67, 72, 73, 86, 69, 46, 120, 97, 116, 116, 114, 46, 97]))), (1, 1, (.val (.str fun _ => [89, 82, 61, 61])))]),
    R.q 72 (.bslice 2 (.cons (.str fun _ => []) (.cons (.str fun _ => []) .nil)) 5 [(0, 2, (R.t 67)), (2, 2, (R.t 68)), (4, 2, (R.t 69)), (6, 2, (R.t 70)), (8, 2, (R.t 71))]),
    R.q 13 (.mov (R.t 72))])
  (.seq (.mark (.reg [R.q 74 (.mov (R.t 8)),
    R.q 75 (.mov (R.t 13)),
    R.q 76 (.mov (R.t 2)),
    R.q 77 (.conv .i64 (R.t 76)),
    R.q 78 (.mov (R.t 13)),
    R.q 79 (.len (R.t 78)),
    R.q 80 (.bin .rem .no (R.t 77) (R.t 79)),
    R.q 81 (.idx 2 (R.t 75) (R.t 80)),
    R.q 82 (.loadA 2 (R.t 81)),
    R.q 83 (.bslice 2 (.cons (.str fun _ => []) (.cons (.str fun _ => []) .nil)) 1 [(0, 2, (R.t 82))]),
    R.q 84 (.append 2 32 (R.t 74) (R.t 83)),
    R.q 85 (.call 9 [(R.t 84)]),
    R.q 73 (.mov (R.t 85)),
    R.q 86 (.ext 0 (R.t 73)),
    R.q 87 (.ext 1 (R.t 73)),
    R.q 14 (.mov (R.t 86)),
    R.q 15 (.mov (R.t 87))]))
  (.seq (.reg [R.q 88 (.mov (R.t 11)),
    R.q 89 (.mov (R.t 88)),
    R.g 90 (.mov (R.t 15)) 89 true,
    R.g 91 (.call 17 [(R.t 90)]) 89 true,
    R.g 92 (.bin .eql .no (R.t 91) (R.i 4)) 89 true,
    R.q 93 (.pick (R.t 89) (R.t 92) R.ff),
    R.q 94 (.mov (R.t 93)),
    R.g 95 (.mov (R.t 14)) 94 true,
    R.g 96 (.len (R.t 95)) 94 true,
    R.g 97 (.bin .eql .no (R.t 96) (R.i 0)) 94 true,
    R.q 98 (.pick (R.t 94) (R.t 97) R.ff),
    R.q 99 (.mov (R.t 98)),
    R.g 100 (.call 8 []) 99 true,
    R.q 101 (.pick (R.t 99) (R.t 100) R.ff),
    R.q 6 (.mov (R.t 101))])
  .ret)))))))))))
def l13_XattrLast.rs : List RRes := [.tmp 6]
theorem l13_XattrLast.of {xs : List AV} {d : Nat} {B : BL} {K : ARes → BL → Prop} (hn : xs.length = 3) (hB : onlyOuter B = true) (h : awp ⟨PT, 102, exitX l13_XattrLast.rs K⟩ 10000 [.code l13_XattrLast.rc] ⟨params 0 xs, B, .nil⟩) : CallAt PT l13_XattrLast xs d B K :=
  call_of_awp 10000 Try.func5 rfl (by kernel_rfl) (by kernel_rfl) (by kernel_rfl) (by rw [hn]; decide) hB h
abbrev l13_awake : Nat := 8
def l13_awake.rc : RC :=
  (.seq (.reg [R.q 0 (.mov R.ff)])
  (.seq (.reg [R.q 4 (.build (.cons (.str fun _ => []) (.cons (.str fun _ => []) .nil)) [(0, 1, (.val (.str fun _ => [117, 115, 101, 114, 46, 97]))), (1, 1, (.val (.str fun _ => [98])))]),
    R.q 5 (.bslice 2 (.cons (.str fun _ => []) (.cons (.str fun _ => []) .nil)) 1 [(0, 2, (R.t 4))]),
    R.q 1 (.mov (R.t 5))])
  (.seq (.reg [R.q 7 (.mov (R.t 1)),
    R.q 8 (.call 14 [(R.t 7)]),
    R.q 9 (.call 9 [(R.t 8)]),
    R.q 6 (.mov (R.t 9)),
    R.q 10 (.ext 0 (R.t 6)),
    R.q 11 (.ext 1 (R.t 6)),
    R.q 2 (.mov (R.t 10)),
    R.q 3 (.mov (R.t 11))])
  (.seq (.reg [R.q 12 (.mov (R.t 1)),
    R.q 13 (.call 14 [(R.t 12)]),
    R.q 14 (.len (R.t 13)),
    R.q 15 (.bin .eql .no (R.t 14) (R.i 2)),
    R.q 16 (.mov (R.t 15)),
    R.g 17 (.mov (R.t 3)) 16 true,
    R.g 18 (.call 17 [(R.t 17)]) 16 true,
    R.g 19 (.bin .eql .no (R.t 18) (R.i 0)) 16 true,
    R.q 20 (.pick (R.t 16) (R.t 19) R.ff),
    R.q 21 (.mov (R.t 20)),
    R.g 22 (.mov (R.t 2)) 21 true,
    R.g 23 (.mov (R.t 1)) 21 true,
    R.g 24 (.call 18 [(R.t 22), (R.t 23)]) 21 true,
    R.q 25 (.pick (R.t 21) (R.t 24) R.ff),
    R.q 0 (.mov (R.t 25))])
  .ret))))
def l13_awake.rs : List RRes := [.tmp 0]
theorem l13_awake.of {xs : List AV} {d : Nat} {B : BL} {K : ARes → BL → Prop} (hn : xs.length = 0) (hB : onlyOuter B = true) (h : awp ⟨PT, 26, exitX l13_awake.rs K⟩ 10000 [.code l13_awake.rc] ⟨params 0 xs, B, .nil⟩) : CallAt PT l13_awake xs d B K :=
  call_of_awp 10000 Try.func8 rfl (by kernel_rfl) (by kernel_rfl) (by kernel_rfl) (by rw [hn]; decide) hB h
abbrev xattr_From : Nat := 9
def xattr_From.rc : RC :=
  (.seq (.reg [R.q 2 (.alloc (.cons .nsl .nil)),
    R.q 3 (.alloc (.cons (R.z 0) .nil))])
  (.seq (.reg [R.q 10 (.mkfn (.func 21) [] [(R.t 2), (R.t 3)]),
    R.e (.defer (R.t 10) [])])
  (.seq (.seq (.reg [R.q 11 (.mov (R.t 0)),
    R.q 12 (.len (R.t 11)),
    R.q 13 (.mov (R.i 0))])
  (.block 0 (.loop
     (.seq (.reg [R.q 14 (.bin .lss .no (R.t 13) (R.t 12))])
     (.seq (.cond (R.t 14)
       .skip
       (.exit 0))
     (.seq (.block 1 (.seq (.reg [R.q 15 (.idx 2 (R.t 11) (R.t 13)),
        R.q 16 (.loadA 2 (R.t 15)),
        R.q 5 (.alloc (.cons (.str fun _ => []) (.cons (.str fun _ => []) .nil))),
        R.e (.store 2 (R.t 5) (R.t 16))])
      (.seq (.reg [R.q 18 (.loadA 2 (R.t 5)),
        R.q 19 (.call 22 [(R.t 18)]),
        R.q 17 (.mov (R.t 19)),
        R.q 20 (.ext 0 (R.t 17)),
        R.q 21 (.ext 1 (R.t 17)),
        R.q 6 (.alloc (.cons (.str fun _ => []) (.cons (.str fun _ => []) .nil))),
        R.e (.store 2 (R.t 6) (R.t 20)),
        R.q 7 (.mov (R.t 21))])
      (.seq (.seq (.reg [R.q 22 (.mov (R.t 7)),
        R.q 23 (.un .not (R.t 22))])
      (.cond (R.t 23)
        (.exit 1)
        .skip))
      (.seq (.reg [R.q 25 (.load1 (R.t 2)),
        R.q 26 (.fld 0 (R.t 6)),
        R.q 27 (.load1 (R.t 26)),
        R.q 28 (.call 23 [(R.t 25), (R.t 27), (.val (.fn (.func 24) .nil .nil))]),
        R.q 24 (.mov (R.t 28)),
        R.q 29 (.ext 0 (R.t 24)),
        R.q 30 (.ext 1 (R.t 24)),
        R.q 8 (.mov (R.t 29)),
        R.q 9 (.mov (R.t 30))])
      (.seq (.reg [R.q 31 (.mov (R.t 9))])
      (.cond (R.t 31)
        (.reg [R.q 32 (.load1 (R.t 2)),
          R.q 33 (.mov (R.t 8)),
          R.q 34 (.loadA 2 (R.t 6)),
          R.q 35 (.idx 2 (R.t 32) (R.t 33)),
          R.e (.store 2 (R.t 35) (R.t 34))])
        (.reg [R.q 36 (.load1 (R.t 2)),
          R.q 37 (.mov (R.t 8)),
          R.q 38 (.loadA 2 (R.t 6)),
          R.q 39 (.bslice 2 (.cons (.str fun _ => []) (.cons (.str fun _ => []) .nil)) 1 [(0, 2, (R.t 38))]),
          R.q 40 (.growc 26 2 (R.t 36) [(R.t 37), (R.t 39)]),
          R.e (.store 1 (R.t 2) (R.t 40))]))))))))
     (.reg [R.q 41 (.bin .add .no (R.t 13) (R.i 1)),
       R.q 13 (.mov (R.t 41))])))))))
  (.seq (.seq (.reg [R.q 42 (.load1 (R.t 2)),
    R.q 43 (.call 11 [(R.t 42)]),
    R.q 44 (.un .not (R.t 43))])
  (.cond (R.t 44)
    (.seq (.reg [R.e (.store 1 (R.t 2) (.val .nsl)),
      R.e (.store 1 (R.t 3) (R.i 4))])
    .ret)
    .skip))
  (.seq (.reg [R.q 45 (.load1 (R.t 2)),
    R.e (.store 1 (R.t 2) (R.t 45)),
    R.e (.store 1 (R.t 3) (R.i 0))])
  .ret)))))
def xattr_From.rs : List RRes := [.cell1 2, .cell1 3]
theorem xattr_From.of {xs : List AV} {d : Nat} {B : BL} {K : ARes → BL → Prop} (hn : xs.length = 1) (hB : onlyOuter B = true) (h : awp ⟨PT, 46, exitD PT xattr_From.rs K⟩ 10000 [.code xattr_From.rc] ⟨params 0 xs, B, .nil⟩) : CallAt PT xattr_From xs d B K :=
  call_of_awp_d 10000 Try.func9 rfl (by kernel_rfl) (by kernel_rfl) (by kernel_rfl) (by rw [hn]; decide) hB h
abbrev xattr_May : Nat := 11
def xattr_May.rc : RC :=
  (.seq (.reg [R.q 2 (.mov R.ff)])
  (.seq (.seq (.reg [R.q 5 (.mov (R.t 0)),
    R.q 6 (.len (R.t 5)),
    R.q 7 (.mov (R.i 0))])
  (.block 0 (.loop
     (.seq (.reg [R.q 8 (.bin .lss .no (R.t 7) (R.t 6))])
     (.seq (.cond (R.t 8)
       .skip
       (.exit 0))
     (.seq (.block 1 (.seq (.reg [R.q 9 (.mov (R.t 7)),
        R.q 10 (.idx 2 (R.t 5) (R.t 7)),
        R.q 11 (.loadA 2 (R.t 10)),
        R.q 4 (.alloc (.cons (.str fun _ => []) (.cons (.str fun _ => []) .nil))),
        R.q 3 (.mov (R.t 9)),
        R.e (.store 2 (R.t 4) (R.t 11))])
      (.seq (.regd [R.f (R.q 12 (.loadA 2 (R.t 4))),
        R.s (R.q 13 (.call 30 [(R.t 12)])) [],
        R.f (R.q 14 (.un .not (R.t 13))),
        R.f (R.q 15 (.mov (R.t 14))),
        R.f (R.g 16 (.mov (R.t 3)) 15 false),
        R.f (R.g 17 (.bin .gtr .no (R.t 16) (R.i 0)) 15 false),
        R.f (R.g 18 (.mov (R.t 17)) 15 false),
        R.f (R.g 19 (.fld 0 (R.t 4)) 18 true),
        R.f (R.g 20 (.load1 (R.t 19)) 18 true),
        R.f (R.g 21 (.mov (R.t 0)) 18 true),
        R.f (R.g 22 (.mov (R.t 3)) 18 true),
        R.f (R.g 23 (.bin .sub .no (R.t 22) (R.i 1)) 18 true),
        R.f (R.g 24 (.idx 2 (R.t 21) (R.t 23)) 18 true),
        R.f (R.g 25 (.fld 0 (R.t 24)) 18 true),
        R.f (R.g 26 (.load1 (R.t 25)) 18 true),
        R.f (R.g 27 (.bin .leq .no (R.t 20) (R.t 26)) 18 true),
        R.f (R.g 28 (.pick (R.t 18) (R.t 27) R.ff) 15 false),
        R.f (R.q 29 (.pick (R.t 15) R.tt (R.t 28)))])
      (.cond (R.t 29)
        (.seq (.reg [R.q 2 (.mov R.ff)])
        .ret)
        .skip))))
     (.reg [R.q 30 (.bin .add .no (R.t 7) (R.i 1)),
       R.q 7 (.mov (R.t 30))])))))))
  (.seq (.reg [R.q 31 (.mov (R.t 0)),
    R.q 32 (.len (R.t 31)),
    R.q 33 (.bin .leq .no (R.t 32) (R.i 32)),
    R.q 2 (.mov (R.t 33))])
  .ret)))
def xattr_May.rs : List RRes := [.tmp 2]
theorem xattr_May.of {xs : List AV} {d : Nat} {B : BL} {K : ARes → BL → Prop} (hn : xs.length = 1) (hB : onlyOuter B = true) (h : awp ⟨PT, 34, exitX xattr_May.rs K⟩ 10000 [.code xattr_May.rc] ⟨params 0 xs, B, .nil⟩) : CallAt PT xattr_May xs d B K :=
  call_of_awp 10000 Try.func11 rfl (by kernel_rfl) (by kernel_rfl) (by kernel_rfl) (by rw [hn]; decide) hB h
abbrev xattr_Recs : Nat := 14
def xattr_Recs.rc : RC :=
  (.seq (.reg [R.q 2 (.mov (.val .nsl))])
  (.seq (.seq (.reg [R.q 6 (.mov (R.t 0)),
    R.q 7 (.call 11 [(R.t 6)]),
    R.q 8 (.un .not (R.t 7))])
  (.cond (R.t 8)
    (.seq (.reg [R.q 2 (.mov (.val .nsl))])
    .ret)
    .skip))
  (.seq (.reg [R.q 3 (.mov (.val .nsl))])
  (.seq (.seq (.reg [R.q 9 (.mov (R.t 0)),
    R.q 10 (.len (R.t 9)),
    R.q 11 (.mov (R.i 0))])
  (.block 0 (.loop
     (.seq (.reg [R.q 12 (.bin .lss .no (R.t 11) (R.t 10))])
     (.seq (.cond (R.t 12)
       .skip
       (.exit 0))
     (.seq (.block 1 (.seq (.reg [R.q 13 (.idx 2 (R.t 9) (R.t 11)),
        R.q 14 (.loadA 2 (R.t 13)),
        R.q 5 (.alloc (.cons (.str fun _ => []) (.cons (.str fun _ => []) .nil))),
        R.e (.store 2 (R.t 5) (R.t 14))])
      (.seq (.seq (.reg [R.q 15 (.fld 0 (R.t 5)),
        R.q 16 (.load1 (R.t 15)),
        R.q 17 (.call 33 [(R.t 16), (.val (.str fun _ => [61]))]),
        R.q 18 (.un .not (R.t 17))])
      (.cond (R.t 18)
        (.reg [R.q 19 (.mov (R.t 3)),
          R.q 20 (.fld 0 (R.t 5)),
          R.q 21 (.load1 (R.t 20)),
          R.q 22 (.bin .add .no (.val (.str fun _ => [83, 67, 72, 73, 76, 89, 46, 120, 97, 116, 116, 114, 46])) (R.t 21)),
          R.q 23 (.fld 1 (R.t 5)),
          R.q 24 (.load1 (R.t 23)),
          R.q 25 (.build (.cons (.str fun _ => []) (.cons (.str fun _ => []) .nil)) [(0, 1, (R.t 22)), (1, 1, (R.t 24))]),
          R.q 26 (.bslice 2 (.cons (.str fun _ => []) (.cons (.str fun _ => []) .nil)) 1 [(0, 2, (R.t 25))]),
          R.q 27 (.append 2 32 (R.t 19) (R.t 26)),
          R.q 3 (.mov (R.t 27))])
        .skip))
      (.regd [R.f (R.q 28 (.mov (R.t 3))),
        R.f (R.q 29 (.fld 0 (R.t 5))),
        R.f (R.q 30 (.load1 (R.t 29))),
        R.f (R.q 33 (.fld 1 (R.t 5))),
        R.f (R.q 34 (.load1 (R.t 33))),
        R.s (R.q 31 (.call 34 [(R.t 30)])) [0, 3, 4],
        R.f (R.q 32 (.bin .add .no (.val (.str fun _ => [76, 73, 66, 65, 82, 67, 72, 73, 86, 69, 46, 120, 97, 116, 116, 114, 46])) (R.t 31))),
        R.s (R.q 35 (.call 35 [(R.t 34)])) [0, 6],
        R.f (R.q 36 (.build (.cons (.str fun _ => []) (.cons (.str fun _ => []) .nil)) [(0, 1, (R.t 32)), (1, 1, (R.t 35))])),
        R.f (R.q 37 (.bslice 2 (.cons (.str fun _ => []) (.cons (.str fun _ => []) .nil)) 1 [(0, 2, (R.t 36))])),
        R.s (R.q 38 (.append 2 32 (R.t 28) (R.t 37))) [],
        R.s (R.q 3 (.mov (R.t 38))) []]))))
     (.reg [R.q 39 (.bin .add .no (R.t 11) (R.i 1)),
       R.q 11 (.mov (R.t 39))])))))))
  (.seq (.reg [R.q 40 (.mov (R.t 3)),
    R.q 2 (.mov (R.t 40))])
  .ret)))))
def xattr_Recs.rs : List RRes := [.tmp 2]
theorem xattr_Recs.of {xs : List AV} {d : Nat} {B : BL} {K : ARes → BL → Prop} (hn : xs.length = 1) (hB : onlyOuter B = true) (h : awp ⟨PT, 41, exitX xattr_Recs.rs K⟩ 10000 [.code xattr_Recs.rc] ⟨params 0 xs, B, .nil⟩) : CallAt PT xattr_Recs xs d B K :=
  call_of_awp 10000 Try.func14 rfl (by kernel_rfl) (by kernel_rfl) (by kernel_rfl) (by rw [hn]; decide) hB h
abbrev l1_Err : Nat := 17
def l1_Err.rc : RC :=
  (.seq (.reg [R.q 2 (.mov (R.i 0))])
  (.seq (.reg [R.q 3 (.mov (R.t 0)),
    R.q 2 (.mov (R.t 3))])
  .ret))
def l1_Err.rs : List RRes := [.tmp 2]
theorem l1_Err.of {xs : List AV} {d : Nat} {B : BL} {K : ARes → BL → Prop} (hn : xs.length = 1) (hB : onlyOuter B = true) (h : awp ⟨PT, 4, exitX l1_Err.rs K⟩ 10000 [.code l1_Err.rc] ⟨params 0 xs, B, .nil⟩) : CallAt PT l1_Err xs d B K :=
  call_of_awp 10000 Try.func17 rfl (by kernel_rfl) (by kernel_rfl) (by kernel_rfl) (by rw [hn]; decide) hB h
abbrev xattr_Same : Nat := 18
def xattr_Same.rc : RC :=
  (.seq (.reg [R.q 4 (.mov R.ff)])
  (.seq (.reg [R.q 5 (.mov (R.t 0)),
    R.q 6 (.mov (R.t 1)),
    R.q 7 (.call 36 [(R.t 5), (R.t 6)]),
    R.q 4 (.mov (R.t 7))])
  .ret))
def xattr_Same.rs : List RRes := [.tmp 4]
theorem xattr_Same.of {xs : List AV} {d : Nat} {B : BL} {K : ARes → BL → Prop} (hn : xs.length = 2) (hB : onlyOuter B = true) (h : awp ⟨PT, 8, exitX xattr_Same.rs K⟩ 10000 [.code xattr_Same.rc] ⟨params 0 xs, B, .nil⟩) : CallAt PT xattr_Same xs d B K :=
  call_of_awp 10000 Try.func18 rfl (by kernel_rfl) (by kernel_rfl) (by kernel_rfl) (by rw [hn]; decide) hB h
abbrev l13_Make : Nat := 19
def l13_Make.rc : RC :=
  (.seq (.reg [R.q 2 (.mov (.val .nsl))])
  (.seq (.reg [R.q 3 (.mov (.val .nsl))])
  (.seq (.seq (.reg [R.q 4 (.mov (R.i 0))])
  (.block 0 (.loop
     (.seq (.seq (.reg [R.q 8 (.mov (R.t 4)),
       R.q 9 (.bin .add .no (R.t 8) (R.i 1)),
       R.q 10 (.mov (R.t 0)),
       R.q 11 (.len (R.t 10)),
       R.q 12 (.bin .lss .no (R.t 9) (R.t 11)),
       R.q 13 (.mov (R.t 12)),
       R.g 14 (.mov (R.t 3)) 13 true,
       R.g 15 (.len (R.t 14)) 13 true,
       R.g 16 (.bin .lss .no (R.t 15) (R.i 6)) 13 true,
       R.q 17 (.pick (R.t 13) (R.t 16) R.ff)])
     (.cond (R.t 17)
       .skip
       (.exit 0)))
     (.seq (.block 1 (.seq (.regd [R.f (R.q 20 (.bslice 1 (.cons (.str fun _ => []) .nil) 5 [(0, 1, (.val (.str fun _ => [117, 115, 101, 114, 46]))), (1, 1, (.val (.str fun _ => [116, 114, 117, 115, 116, 101, 100, 46]))), (2, 1, (.val (.str fun _ => [115, 101, 99, 117, 114, 105, 116, 121, 46]))), (3, 1, (.val (.str fun _ => [120, 61]))), (4, 1, (.val (.str fun _ => [255])))])),
        R.f (R.q 21 (.mov (R.t 0))),
        R.f (R.q 22 (.mov (R.t 4))),
        R.f (R.q 23 (.idx 1 (R.t 21) (R.t 22))),
        R.f (R.q 24 (.load1 (R.t 23))),
        R.f (R.q 25 (.bin .rem .no (R.t 24) (R.u 5))),
        R.f (R.q 26 (.idx 1 (R.t 20) (R.t 25))),
        R.f (R.q 27 (.load1 (R.t 26))),
        R.f (R.q 28 (.mov (R.t 0))),
        R.f (R.q 29 (.mov (R.t 4))),
        R.f (R.q 30 (.idx 1 (R.t 28) (R.t 29))),
        R.f (R.q 31 (.load1 (R.t 30))),
        R.f (R.q 32 (.bin .quo .no (R.t 31) (R.u 5))),
        R.f (R.q 33 (.bin .rem .no (R.t 32) (R.u 20))),
        R.f (R.q 34 (.bin .add .no (R.u 97) (R.t 33))),
        R.f (R.q 35 (.mov (R.t 0))),
        R.f (R.q 36 (.mov (R.t 4))),
        R.f (R.q 37 (.bin .add .no (R.t 36) (R.i 1))),
        R.f (R.q 38 (.idx 1 (R.t 35) (R.t 37))),
        R.f (R.q 39 (.load1 (R.t 38))),
        R.f (R.q 40 (.bin .rem .no (R.t 39) (R.u 255))),
        R.f (R.q 41 (.bin .add .no (R.u 1) (R.t 40))),
        R.f (R.q 42 (.bslice 1 (.cons (.int .u8 fun _ => 0) .nil) 2 [(0, 1, (R.t 34)), (1, 1, (R.t 41))])),
        R.f (R.q 43 (.b2s (R.t 42))),
        R.f (R.q 44 (.bin .add .no (R.t 27) (R.t 43))),
        R.s (R.q 5 (.mov (R.t 44))) []])
      (.seq (.reg [R.q 45 (.mov (R.t 0)),
        R.q 46 (.mov (R.t 4)),
        R.q 47 (.bin .add .no (R.t 46) (R.i 1)),
        R.q 48 (.idx 1 (R.t 45) (R.t 47)),
        R.q 49 (.load1 (R.t 48)),
        R.q 50 (.conv .i64 (R.t 49)),
        R.q 51 (.bin .rem .no (R.t 50) (R.i 20)),
        R.q 52 (.mks 1 1 (.cons (.int .u8 fun _ => 0) .nil) (R.t 51) (R.t 51)),
        R.q 6 (.mov (R.t 52))])
      (.seq (.seq (.reg [R.q 7 (.mov (R.i 0))])
      (.block 2 (.loop
         (.seq (.seq (.reg [R.q 53 (.mov (R.t 7)),
           R.q 54 (.mov (R.t 6)),
           R.q 55 (.len (R.t 54)),
           R.q 56 (.bin .lss .no (R.t 53) (R.t 55))])
         (.cond (R.t 56)
           .skip
           (.exit 2)))
         (.seq (.block 3 (.reg [R.q 59 (.mov (R.t 6)),
            R.q 60 (.mov (R.t 7)),
            R.q 61 (.mov (R.t 0)),
            R.q 62 (.mov (R.t 4)),
            R.q 63 (.idx 1 (R.t 61) (R.t 62)),
            R.q 64 (.load1 (R.t 63)),
            R.q 65 (.mov (R.t 7)),
            R.q 66 (.bin .add .no (R.t 65) (R.i 1)),
            R.q 67 (.conv .u8 (R.t 66)),
            R.q 68 (.bin .mul .no (R.t 64) (R.t 67)),
            R.q 69 (.idx 1 (R.t 59) (R.t 60)),
            R.e (.store 1 (R.t 69) (R.t 68))]))
         (.reg [R.q 57 (.mov (R.t 7)),
           R.q 58 (.bin .add .no (R.t 57) (R.i 1)),
           R.q 7 (.mov (R.t 58))]))))))
      (.reg [R.q 70 (.mov (R.t 3)),
        R.q 71 (.mov (R.t 5)),
        R.q 72 (.mov (R.t 6)),
        R.q 73 (.b2s (R.t 72)),
        R.q 74 (.build (.cons (.str fun _ => []) (.cons (.str fun _ => []) .nil)) [(0, 1, (R.t 71)), (1, 1, (R.t 73))]),
        R.q 75 (.call 37 [(R.t 70), (R.t 74)]),
        R.q 3 (.mov (R.t 75))])))))
     (.reg [R.q 18 (.mov (R.t 4)),
       R.q 19 (.bin .add .no (R.t 18) (R.i 2)),
       R.q 4 (.mov (R.t 19))]))))))
  (.seq (.reg [R.q 76 (.mov (R.t 3)),
    R.q 2 (.mov (R.t 76))])
  .ret))))
def l13_Make.rs : List RRes := [.tmp 2]
theorem l13_Make.of {xs : List AV} {d : Nat} {B : BL} {K : ARes → BL → Prop} (hn : xs.length = 1) (hB : onlyOuter B = true) (h : awp ⟨PT, 77, exitX l13_Make.rs K⟩ 10000 [.code l13_Make.rc] ⟨params 0 xs, B, .nil⟩) : CallAt PT l13_Make xs d B K :=
  call_of_awp 10000 Try.func19 rfl (by kernel_rfl) (by kernel_rfl) (by kernel_rfl) (by rw [hn]; decide) hB h
abbrev r1_Sixty : Nat := 20
def r1_Sixty.rc : RC :=
  (.seq (.reg [R.q 2 (.mov (.val (.str fun _ => [])))])
  (.seq (.reg [R.q 10 (.call 38 []),
    R.q 3 (.mov (R.t 10))])
  (.seq (.reg [R.q 4 (.mov (.val .nsl))])
  (.seq (.seq (.reg [R.q 5 (.mov (R.i 0))])
  (.block 0 (.loop
     (.seq (.seq (.reg [R.q 11 (.mov (R.t 5)),
       R.q 12 (.mov (R.t 0)),
       R.q 13 (.lenS (R.t 12)),
       R.q 14 (.bin .lss .no (R.t 11) (R.t 13))])
     (.cond (R.t 14)
       .skip
       (.exit 0)))
     (.seq (.block 1 (.seq (.reg [R.q 17 (.mov (R.t 0)),
        R.q 18 (.lenS (R.t 17)),
        R.q 19 (.mov (R.t 5)),
        R.q 20 (.bin .sub .no (R.t 18) (R.t 19)),
        R.q 21 (.mm false [(R.i 3), (R.t 20)]),
        R.q 6 (.mov (R.i 0)),
        R.q 7 (.mov (R.t 21))])
      (.seq (.seq (.reg [R.q 8 (.mov (R.i 0))])
      (.block 2 (.loop
         (.seq (.seq (.reg [R.q 22 (.mov (R.t 8)),
           R.q 23 (.bin .lss .no (R.t 22) (R.i 3))])
         (.cond (R.t 23)
           .skip
           (.exit 2)))
         (.seq (.block 3 (.seq (.reg [R.q 26 (.mov (R.t 6)),
            R.q 27 (.bin .shl .no (R.t 26) (.val (.int .u64 fun _ => 8))),
            R.q 6 (.mov (R.t 27))])
          (.seq (.reg [R.q 28 (.mov (R.t 8)),
            R.q 29 (.mov (R.t 7)),
            R.q 30 (.bin .lss .no (R.t 28) (R.t 29))])
          (.cond (R.t 30)
            (.reg [R.q 31 (.mov (R.t 6)),
              R.q 32 (.mov (R.t 0)),
              R.q 33 (.mov (R.t 5)),
              R.q 34 (.mov (R.t 8)),
              R.q 35 (.bin .add .no (R.t 33) (R.t 34)),
              R.q 36 (.idxS (R.t 32) (R.t 35)),
              R.q 37 (.conv .i64 (R.t 36)),
              R.q 38 (.bin .or .no (R.t 31) (R.t 37)),
              R.q 6 (.mov (R.t 38))])
            .skip))))
         (.reg [R.q 24 (.mov (R.t 8)),
           R.q 25 (.bin .add .no (R.t 24) (R.i 1)),
           R.q 8 (.mov (R.t 25))]))))))
      (.seq (.reg [R.q 9 (.mov (R.i 0))])
      (.block 4 (.loop
         (.seq (.seq (.reg [R.q 39 (.mov (R.t 9)),
           R.q 40 (.bin .lss .no (R.t 39) (R.i 4))])
         (.cond (R.t 40)
           .skip
           (.exit 4)))
         (.seq (.block 5 (.seq (.reg [R.q 43 (.mov (R.t 9)),
            R.q 44 (.mov (R.t 7)),
            R.q 45 (.bin .leq .no (R.t 43) (R.t 44))])
          (.cond (R.t 45)
            (.reg [R.q 46 (.mov (R.t 4)),
              R.q 47 (.mov (R.t 3)),
              R.q 48 (.mov (R.t 6)),
              R.q 49 (.mov (R.t 9)),
              R.q 50 (.bin .mul .no (R.i 6) (R.t 49)),
              R.q 51 (.bin .sub .no (R.i 18) (R.t 50)),
              R.q 52 (.bin .shr .no (R.t 48) (R.t 51)),
              R.q 53 (.bin .and .no (R.t 52) (R.i 63)),
              R.q 54 (.idxS (R.t 47) (R.t 53)),
              R.q 55 (.bslice 1 (.cons (.int .u8 fun _ => 0) .nil) 1 [(0, 1, (R.t 54))]),
              R.q 56 (.append 1 1 (R.t 46) (R.t 55)),
              R.q 4 (.mov (R.t 56))])
            (.reg [R.q 57 (.mov (R.t 4)),
              R.q 58 (.bslice 1 (.cons (.int .u8 fun _ => 0) .nil) 1 [(0, 1, (R.u 61))]),
              R.q 59 (.append 1 1 (R.t 57) (R.t 58)),
              R.q 4 (.mov (R.t 59))]))))
         (.reg [R.q 41 (.mov (R.t 9)),
           R.q 42 (.bin .add .no (R.t 41) (R.i 1)),
           R.q 9 (.mov (R.t 42))])))))))))
     (.reg [R.q 15 (.mov (R.t 5)),
       R.q 16 (.bin .add .no (R.t 15) (R.i 3)),
       R.q 5 (.mov (R.t 16))]))))))
  (.seq (.reg [R.q 60 (.mov (R.t 4)),
    R.q 61 (.b2s (R.t 60)),
    R.q 2 (.mov (R.t 61))])
  .ret)))))
def r1_Sixty.rs : List RRes := [.tmp 2]
theorem r1_Sixty.of {xs : List AV} {d : Nat} {B : BL} {K : ARes → BL → Prop} (hn : xs.length = 1) (hB : onlyOuter B = true) (h : awp ⟨PT, 62, exitX r1_Sixty.rs K⟩ 10000 [.code r1_Sixty.rc] ⟨params 0 xs, B, .nil⟩) : CallAt PT r1_Sixty xs d B K :=
  call_of_awp 10000 Try.func20 rfl (by kernel_rfl) (by kernel_rfl) (by kernel_rfl) (by rw [hn]; decide) hB h
abbrev xattr_From_1 : Nat := 21
def xattr_From_1.rc : RC :=
  (.seq (.reg [R.q 6 (.mov (R.t 2)),
    R.q 7 (.bin .neq (.ifc true) (R.t 6) (.val .nif))])
  (.cond (R.t 7)
    (.seq (.seq (.reg [R.q 9 (.mov (R.t 2)),
      R.q 10 (.assert 48 (.agg (.cons (.str fun _ => []) .nil)) (R.t 9)),
      R.q 8 (.mov (R.t 10)),
      R.q 11 (.ext 0 (R.t 8)),
      R.q 12 (.ext 1 (R.t 8)),
      R.q 3 (.alloc (.cons (.str fun _ => []) .nil)),
      R.e (.store 1 (R.t 3) (R.t 11)),
      R.q 4 (.mov (R.t 12))])
    (.seq (.reg [R.q 13 (.mov (R.t 4)),
      R.q 14 (.un .not (R.t 13))])
    (.cond (R.t 14)
      (.reg [R.q 15 (.mov (R.t 2)),
        R.e (.panic (R.t 15))])
      .skip)))
    (.reg [R.e (.store 1 (R.t 0) (.val .nsl)),
      R.e (.store 1 (R.t 1) (R.i 4))]))
    .skip))
def xattr_From_1.rs : List RRes := []
theorem xattr_From_1.of {pn : Bool} {pv : AV} {xs : List AV} {B : BL} {K : BL → Prop} (hn : xs.length = 2) (hB : onlyOuter B = true) (hpv : pn = false → pv = .nif) (h : awp ⟨PT, 16, exitC K⟩ 10000 [.code xattr_From_1.rc] ⟨.cons 2 pv (.cons 5 pv (params 0 xs)), B, .nil⟩) : DefAt PT xattr_From_1 pn (pv :: xs) B K :=
  def_of_awp 10000 Try.func21 rfl (by kernel_rfl) (by kernel_rfl) rfl (by rw [hn]; decide) (by decide) (by decide) hB hpv h
abbrev xattr_read : Nat := 22
def xattr_read.rc : RC :=
  (.seq (.reg [R.q 1 (.box (R.t 0)),
    R.q 2 (.alloc (.cons (.str fun _ => []) (.cons (.str fun _ => []) .nil))),
    R.q 3 (.mov R.ff)])
  (.seq (.seq (.reg [R.q 13 (.fld 0 (R.t 1)),
    R.q 14 (.load1 (R.t 13)),
    R.q 15 (.call 39 [(R.t 14), (.val (.str fun _ => [83, 67, 72, 73, 76, 89, 46, 120, 97, 116, 116, 114, 46]))]),
    R.q 12 (.mov (R.t 15)),
    R.q 16 (.ext 0 (R.t 12)),
    R.q 17 (.ext 1 (R.t 12)),
    R.q 4 (.mov (R.t 16)),
    R.q 5 (.mov (R.t 17))])
  (.seq (.reg [R.q 18 (.mov (R.t 5))])
  (.cond (R.t 18)
    (.seq (.reg [R.q 19 (.mov (R.t 4)),
      R.q 20 (.fld 1 (R.t 1)),
      R.q 21 (.load1 (R.t 20)),
      R.q 22 (.build (.cons (.str fun _ => []) (.cons (.str fun _ => []) .nil)) [(0, 1, (R.t 19)), (1, 1, (R.t 21))]),
      R.e (.store 2 (R.t 2) (R.t 22)),
      R.q 3 (.mov R.tt)])
    .ret)
    .skip)))
  (.seq (.reg [R.q 24 (.fld 0 (R.t 1)),
    R.q 25 (.load1 (R.t 24)),
    R.q 26 (.call 39 [(R.t 25), (.val (.str fun _ => [76, 73, 66, 65, 82, 67, 72, 73, 86, 69, 46, 120, 97, 116, 116, 114, 46]))]),
    R.q 23 (.mov (R.t 26)),
    R.q 27 (.ext 0 (R.t 23)),
    R.q 28 (.ext 1 (R.t 23)),
    R.q 6 (.mov (R.t 27)),
    R.q 7 (.mov (R.t 28))])
  (.seq (.seq (.reg [R.q 29 (.mov (R.t 7)),
    R.q 30 (.un .not (R.t 29))])
  (.cond (R.t 30)
    (.seq (.reg [R.q 31 (.build (.cons (.str fun _ => []) (.cons (.str fun _ => []) .nil)) []),
      R.e (.store 2 (R.t 2) (R.t 31)),
      R.q 3 (.mov R.ff)])
    .ret)
    .skip))
  (.seq (.reg [R.q 33 (.mov (R.t 6)),
    R.q 34 (.call 40 [(R.t 33)]),
    R.q 32 (.mov (R.t 34)),
    R.q 35 (.ext 0 (R.t 32)),
    R.q 36 (.ext 1 (R.t 32)),
    R.q 8 (.mov (R.t 35)),
    R.q 9 (.mov (R.t 36))])
  (.seq (.reg [R.q 38 (.fld 1 (R.t 1)),
    R.q 39 (.load1 (R.t 38)),
    R.q 40 (.call 41 [(R.t 39)]),
    R.q 37 (.mov (R.t 40)),
    R.q 41 (.ext 0 (R.t 37)),
    R.q 42 (.ext 1 (R.t 37)),
    R.q 10 (.mov (R.t 41)),
    R.q 11 (.mov (R.t 42))])
  (.seq (.seq (.reg [R.q 43 (.mov (R.t 9)),
    R.q 44 (.un .not (R.t 43)),
    R.q 45 (.mov (R.t 44)),
    R.g 46 (.mov (R.t 11)) 45 false,
    R.g 47 (.un .not (R.t 46)) 45 false,
    R.q 48 (.pick (R.t 45) R.tt (R.t 47))])
  (.cond (R.t 48)
    (.reg [R.q 49 (.fld 0 (R.t 1)),
      R.q 50 (.load1 (R.t 49)),
      R.q 51 (.build (.cons (.str fun _ => []) .nil) [(0, 1, (R.t 50))]),
      R.q 52 (.mkif 48 (R.t 51)),
      R.e (.panic (R.t 52))])
    .skip))
  (.seq (.reg [R.q 53 (.mov (R.t 8)),
    R.q 54 (.mov (R.t 10)),
    R.q 55 (.build (.cons (.str fun _ => []) (.cons (.str fun _ => []) .nil)) [(0, 1, (R.t 53)), (1, 1, (R.t 54))]),
    R.e (.store 2 (R.t 2) (R.t 55)),
    R.q 3 (.mov R.tt)])
  .ret))))))))
def xattr_read.rs : List RRes := [.cellA 2 2, .tmp 3]
theorem xattr_read.of {xs : List AV} {d : Nat} {B : BL} {K : ARes → BL → Prop} (hn : xs.length = 1) (hB : onlyOuter B = true) (h : awp ⟨PT, 56, exitX xattr_read.rs K⟩ 10000 [.code xattr_read.rc] ⟨params 0 xs, B, .nil⟩) : CallAt PT xattr_read xs d B K :=
  call_of_awp 10000 Try.func22 rfl (by kernel_rfl) (by kernel_rfl) (by kernel_rfl) (by rw [hn]; decide) hB h
abbrev slices_BinarySearchFunc_api_Xattr_api_Xattr_string : Nat := 23
def slices_BinarySearchFunc_api_Xattr_api_Xattr_string.rc : RC :=
  (.seq (.reg [R.q 6 (.mov (R.i 0)),
    R.q 7 (.mov R.ff)])
  (.seq (.reg [R.q 12 (.mov (R.t 0)),
    R.q 13 (.len (R.t 12)),
    R.q 8 (.mov (R.t 13))])
  (.seq (.reg [R.q 14 (.mov (R.t 8)),
    R.q 9 (.mov (R.i 0)),
    R.q 10 (.mov (R.t 14))])
  (.seq (.block 0 (.loop
     (.seq (.seq (.reg [R.q 15 (.mov (R.t 9)),
       R.q 16 (.mov (R.t 10)),
       R.q 17 (.bin .lss .no (R.t 15) (R.t 16))])
     (.cond (R.t 17)
       .skip
       (.exit 0)))
     (.block 1 (.seq (.reg [R.q 18 (.mov (R.t 9)),
        R.q 19 (.mov (R.t 10)),
        R.q 20 (.bin .add .no (R.t 18) (R.t 19)),
        R.q 21 (.conv .u64 (R.t 20)),
        R.q 22 (.bin .shr .no (R.t 21) (.val (.int .u64 fun _ => 1))),
        R.q 23 (.conv .i64 (R.t 22)),
        R.q 11 (.mov (R.t 23))])
      (.seq (.reg [R.q 24 (.mov (R.t 2)),
        R.q 25 (.mov (R.t 0)),
        R.q 26 (.mov (R.t 11)),
        R.q 27 (.idx 2 (R.t 25) (R.t 26)),
        R.q 28 (.loadA 2 (R.t 27)),
        R.q 29 (.mov (R.t 1)),
        R.q 30 (.callv (R.t 24) [(R.t 28), (R.t 29)]),
        R.q 31 (.bin .lss .no (R.t 30) (R.i 0))])
      (.cond (R.t 31)
        (.reg [R.q 32 (.mov (R.t 11)),
          R.q 33 (.bin .add .no (R.t 32) (R.i 1)),
          R.q 9 (.mov (R.t 33))])
        (.reg [R.q 34 (.mov (R.t 11)),
          R.q 10 (.mov (R.t 34))]))))))))
  (.seq (.reg [R.q 35 (.mov (R.t 9)),
    R.q 36 (.mov (R.t 9)),
    R.q 37 (.mov (R.t 8)),
    R.q 38 (.bin .lss .no (R.t 36) (R.t 37)),
    R.q 39 (.mov (R.t 38)),
    R.g 40 (.mov (R.t 2)) 39 true,
    R.g 41 (.mov (R.t 0)) 39 true,
    R.g 42 (.mov (R.t 9)) 39 true,
    R.g 43 (.idx 2 (R.t 41) (R.t 42)) 39 true,
    R.g 44 (.loadA 2 (R.t 43)) 39 true,
    R.g 45 (.mov (R.t 1)) 39 true,
    R.g 46 (.callv (R.t 40) [(R.t 44), (R.t 45)]) 39 true,
    R.g 47 (.bin .eql .no (R.t 46) (R.i 0)) 39 true,
    R.q 48 (.pick (R.t 39) (R.t 47) R.ff),
    R.q 6 (.mov (R.t 35)),
    R.q 7 (.mov (R.t 48))])
  .ret)))))
def slices_BinarySearchFunc_api_Xattr_api_Xattr_string.rs : List RRes := [.tmp 6, .tmp 7]
theorem slices_BinarySearchFunc_api_Xattr_api_Xattr_string.of {xs : List AV} {d : Nat} {B : BL} {K : ARes → BL → Prop} (hn : xs.length = 3) (hB : onlyOuter B = true) (h : awp ⟨PT, 49, exitX slices_BinarySearchFunc_api_Xattr_api_Xattr_string.rs K⟩ 10000 [.code slices_BinarySearchFunc_api_Xattr_api_Xattr_string.rc] ⟨params 0 xs, B, .nil⟩) : CallAt PT slices_BinarySearchFunc_api_Xattr_api_Xattr_string xs d B K :=
  call_of_awp 10000 Try.func23 rfl (by kernel_rfl) (by kernel_rfl) (by kernel_rfl) (by rw [hn]; decide) hB h
abbrev xattr_From_2 : Nat := 24
def xattr_From_2.rc : RC :=
  (.seq (.reg [R.q 2 (.box (R.t 0)),
    R.q 4 (.mov (R.i 0))])
  (.seq (.reg [R.q 5 (.fld 0 (R.t 2)),
    R.q 6 (.load1 (R.t 5)),
    R.q 7 (.mov (R.t 1)),
    R.q 8 (.call 25 [(R.t 6), (R.t 7)]),
    R.q 4 (.mov (R.t 8))])
  .ret))
def xattr_From_2.rs : List RRes := [.tmp 4]
theorem xattr_From_2.of {xs : List AV} {d : Nat} {B : BL} {K : ARes → BL → Prop} (hn : xs.length = 2) (hB : onlyOuter B = true) (h : awp ⟨PT, 9, exitX xattr_From_2.rs K⟩ 10000 [.code xattr_From_2.rc] ⟨params 0 xs, B, .nil⟩) : CallAt PT xattr_From_2 xs d B K :=
  call_of_awp 10000 Try.func24 rfl (by kernel_rfl) (by kernel_rfl) (by kernel_rfl) (by rw [hn]; decide) hB h
abbrev cmp_Compare_string : Nat := 25
def cmp_Compare_string.rc : RC :=
  (.seq (.reg [R.q 4 (.mov (R.i 0))])
  (.seq (.reg [R.q 7 (.mov (R.t 0)),
    R.q 8 (.call 42 [(R.t 7)]),
    R.q 5 (.mov (R.t 8))])
  (.seq (.reg [R.q 9 (.mov (R.t 1)),
    R.q 10 (.call 42 [(R.t 9)]),
    R.q 6 (.mov (R.t 10))])
  (.seq (.seq (.reg [R.q 11 (.mov (R.t 5))])
  (.cond (R.t 11)
    (.seq (.seq (.reg [R.q 12 (.mov (R.t 6))])
    (.cond (R.t 12)
      (.seq (.reg [R.q 4 (.mov (R.i 0))])
      .ret)
      .skip))
    (.seq (.reg [R.q 4 (.mov (R.i (-1)))])
    .ret))
    .skip))
  (.seq (.seq (.reg [R.q 13 (.mov (R.t 6))])
  (.cond (R.t 13)
    (.seq (.reg [R.q 4 (.mov (R.i 1))])
    .ret)
    .skip))
  (.seq (.seq (.reg [R.q 14 (.mov (R.t 0)),
    R.q 15 (.mov (R.t 1)),
    R.q 16 (.bin .lss .no (R.t 14) (R.t 15))])
  (.cond (R.t 16)
    (.seq (.reg [R.q 4 (.mov (R.i (-1)))])
    .ret)
    .skip))
  (.seq (.seq (.reg [R.q 17 (.mov (R.t 0)),
    R.q 18 (.mov (R.t 1)),
    R.q 19 (.bin .gtr .no (R.t 17) (R.t 18))])
  (.cond (R.t 19)
    (.seq (.reg [R.q 4 (.mov (R.i 1))])
    .ret)
    .skip))
  (.seq (.reg [R.q 4 (.mov (R.i 0))])
  .ret))))))))
def cmp_Compare_string.rs : List RRes := [.tmp 4]
theorem cmp_Compare_string.of {xs : List AV} {d : Nat} {B : BL} {K : ARes → BL → Prop} (hn : xs.length = 2) (hB : onlyOuter B = true) (h : awp ⟨PT, 20, exitX cmp_Compare_string.rs K⟩ 10000 [.code cmp_Compare_string.rc] ⟨params 0 xs, B, .nil⟩) : CallAt PT cmp_Compare_string xs d B K :=
  call_of_awp 10000 Try.func25 rfl (by kernel_rfl) (by kernel_rfl) (by kernel_rfl) (by rw [hn]; decide) hB h
abbrev xattr_may : Nat := 30
def xattr_may.rc : RC :=
  (.seq (.reg [R.q 1 (.box (R.t 0)),
    R.q 2 (.mov R.ff)])
  (.seq (.reg [R.q 3 (.fld 0 (R.t 1)),
    R.q 4 (.load1 (R.t 3)),
    R.q 5 (.bin .neq .no (R.t 4) (.val (.str fun _ => []))),
    R.q 6 (.mov (R.t 5)),
    R.g 7 (.fld 0 (R.t 1)) 6 true,
    R.g 8 (.load1 (R.t 7)) 6 true,
    R.g 9 (.call 34 [(R.t 8)]) 6 true,
    R.g 10 (.lenS (R.t 9)) 6 true,
    R.g 11 (.bin .leq .no (R.t 10) (R.i 238)) 6 true,
    R.q 12 (.pick (R.t 6) (R.t 11) R.ff),
    R.q 13 (.mov (R.t 12)),
    R.g 14 (.fld 0 (R.t 1)) 13 true,
    R.g 15 (.load1 (R.t 14)) 13 true,
    R.g 16 (.call 33 [(R.t 15), (.val (.str fun _ => [0]))]) 13 true,
    R.g 17 (.un .not (R.t 16)) 13 true,
    R.q 18 (.pick (R.t 13) (R.t 17) R.ff),
    R.q 19 (.mov (R.t 18)),
    R.g 20 (.fld 1 (R.t 1)) 19 true,
    R.g 21 (.load1 (R.t 20)) 19 true,
    R.g 22 (.lenS (R.t 21)) 19 true,
    R.g 23 (.bin .leq .no (R.t 22) (R.i 4096)) 19 true,
    R.q 24 (.pick (R.t 19) (R.t 23) R.ff),
    R.q 2 (.mov (R.t 24))])
  .ret))
def xattr_may.rs : List RRes := [.tmp 2]
theorem xattr_may.of {xs : List AV} {d : Nat} {B : BL} {K : ARes → BL → Prop} (hn : xs.length = 1) (hB : onlyOuter B = true) (h : awp ⟨PT, 25, exitX xattr_may.rs K⟩ 10000 [.code xattr_may.rc] ⟨params 0 xs, B, .nil⟩) : CallAt PT xattr_may xs d B K :=
  call_of_awp 10000 Try.func30 rfl (by kernel_rfl) (by kernel_rfl) (by kernel_rfl) (by rw [hn]; decide) hB h
abbrev strings_Contains : Nat := 33
def strings_Contains.rc : RC :=
  (.seq (.reg [R.q 4 (.mov R.ff)])
  (.seq (.reg [R.q 5 (.mov (R.t 0)),
    R.q 6 (.mov (R.t 1)),
    R.q 7 (.call 46 [(R.t 5), (R.t 6)]),
    R.q 8 (.bin .geq .no (R.t 7) (R.i 0)),
    R.q 4 (.mov (R.t 8))])
  .ret))
def strings_Contains.rs : List RRes := [.tmp 4]
theorem strings_Contains.of {xs : List AV} {d : Nat} {B : BL} {K : ARes → BL → Prop} (hn : xs.length = 2) (hB : onlyOuter B = true) (h : awp ⟨PT, 9, exitX strings_Contains.rs K⟩ 10000 [.code strings_Contains.rc] ⟨params 0 xs, B, .nil⟩) : CallAt PT strings_Contains xs d B K :=
  call_of_awp 10000 Try.func33 rfl (by kernel_rfl) (by kernel_rfl) (by kernel_rfl) (by rw [hn]; decide) hB h
abbrev slices_Equal_api_Xattr_api_Xattr : Nat := 36
def slices_Equal_api_Xattr_api_Xattr.rc : RC :=
  (.seq (.reg [R.q 4 (.mov R.ff)])
  (.seq (.seq (.reg [R.q 6 (.mov (R.t 0)),
    R.q 7 (.len (R.t 6)),
    R.q 8 (.mov (R.t 1)),
    R.q 9 (.len (R.t 8)),
    R.q 10 (.bin .neq .no (R.t 7) (R.t 9))])
  (.cond (R.t 10)
    (.seq (.reg [R.q 4 (.mov R.ff)])
    .ret)
    .skip))
  (.seq (.seq (.reg [R.q 11 (.mov (R.t 0)),
    R.q 12 (.len (R.t 11)),
    R.q 13 (.mov (R.i 0))])
  (.block 0 (.loop
     (.seq (.reg [R.q 14 (.bin .lss .no (R.t 13) (R.t 12))])
     (.seq (.cond (R.t 14)
       .skip
       (.exit 0))
     (.seq (.block 1 (.seq (.reg [R.q 15 (.mov (R.t 13)),
        R.q 5 (.mov (R.t 15))])
      (.seq (.regd [R.f (R.q 16 (.mov (R.t 0))),
        R.f (R.q 17 (.mov (R.t 5))),
        R.f (R.q 18 (.idx 2 (R.t 16) (R.t 17))),
        R.f (R.q 19 (.loadA 2 (R.t 18))),
        R.f (R.q 20 (.mov (R.t 1))),
        R.f (R.q 21 (.mov (R.t 5))),
        R.f (R.q 22 (.idx 2 (R.t 20) (R.t 21))),
        R.f (R.q 23 (.loadA 2 (R.t 22))),
        R.f (R.q 24 (.bin .neq (.agg [.s, .s]) (R.t 19) (R.t 23)))])
      (.cond (R.t 24)
        (.seq (.reg [R.q 4 (.mov R.ff)])
        .ret)
        .skip))))
     (.reg [R.q 25 (.bin .add .no (R.t 13) (R.i 1)),
       R.q 13 (.mov (R.t 25))])))))))
  (.seq (.reg [R.q 4 (.mov R.tt)])
  .ret))))
def slices_Equal_api_Xattr_api_Xattr.rs : List RRes := [.tmp 4]
theorem slices_Equal_api_Xattr_api_Xattr.of {xs : List AV} {d : Nat} {B : BL} {K : ARes → BL → Prop} (hn : xs.length = 2) (hB : onlyOuter B = true) (h : awp ⟨PT, 26, exitX slices_Equal_api_Xattr_api_Xattr.rs K⟩ 10000 [.code slices_Equal_api_Xattr_api_Xattr.rc] ⟨params 0 xs, B, .nil⟩) : CallAt PT slices_Equal_api_Xattr_api_Xattr xs d B K :=
  call_of_awp 10000 Try.func36 rfl (by kernel_rfl) (by kernel_rfl) (by kernel_rfl) (by rw [hn]; decide) hB h
abbrev l13_add : Nat := 37
def l13_add.rc : RC :=
  (.seq (.reg [R.q 3 (.box (R.t 1)),
    R.q 4 (.mov (.val .nsl))])
  (.seq (.reg [R.q 5 (.mov (R.i 0))])
  (.seq (.block 0 (.loop
     (.seq (.seq (.regd [R.f (R.q 7 (.mov (R.t 5))),
       R.f (R.q 8 (.mov (R.t 0))),
       R.f (R.q 9 (.len (R.t 8))),
       R.f (R.q 10 (.bin .lss .no (R.t 7) (R.t 9))),
       R.f (R.q 11 (.mov (R.t 10))),
       R.f (R.g 12 (.mov (R.t 0)) 11 true),
       R.f (R.g 13 (.mov (R.t 5)) 11 true),
       R.f (R.g 14 (.idx 2 (R.t 12) (R.t 13)) 11 true),
       R.f (R.g 15 (.fld 0 (R.t 14)) 11 true),
       R.f (R.g 16 (.load1 (R.t 15)) 11 true),
       R.f (R.g 17 (.fld 0 (R.t 3)) 11 true),
       R.f (R.g 18 (.load1 (R.t 17)) 11 true),
       R.f (R.g 19 (.bin .lss .no (R.t 16) (R.t 18)) 11 true),
       R.f (R.q 20 (.pick (R.t 11) (R.t 19) R.ff))])
     (.cond (R.t 20)
       .skip
       (.exit 0)))
     (.block 1 (.reg [R.q 21 (.mov (R.t 5)),
        R.q 22 (.bin .add .no (R.t 21) (R.i 1)),
        R.q 5 (.mov (R.t 22))])))))
  (.seq (.reg [R.q 23 (.bslice 2 (.cons (.str fun _ => []) (.cons (.str fun _ => []) .nil)) 0 []),
    R.q 24 (.mov (R.t 0)),
    R.q 25 (.mov (R.t 5)),
    R.q 26 (.slice 2 (R.t 24) (some (R.t 25)) none),
    R.q 27 (.append 2 32 (R.t 23) (R.t 26)),
    R.q 6 (.mov (R.t 27))])
  (.seq (.seq (.regd [R.f (R.q 28 (.mov (R.t 6))),
    R.f (R.q 29 (.len (R.t 28))),
    R.f (R.q 30 (.bin .gtr .no (R.t 29) (R.i 0))),
    R.f (R.q 31 (.mov (R.t 30))),
    R.f (R.g 32 (.mov (R.t 6)) 31 true),
    R.f (R.g 33 (.idx 2 (R.t 32) (R.i 0)) 31 true),
    R.f (R.g 34 (.fld 0 (R.t 33)) 31 true),
    R.f (R.g 35 (.load1 (R.t 34)) 31 true),
    R.f (R.g 36 (.fld 0 (R.t 3)) 31 true),
    R.f (R.g 37 (.load1 (R.t 36)) 31 true),
    R.f (R.g 38 (.bin .eql .no (R.t 35) (R.t 37)) 31 true),
    R.f (R.q 39 (.pick (R.t 31) (R.t 38) R.ff))])
  (.cond (R.t 39)
    (.reg [R.q 40 (.mov (R.t 6)),
      R.q 41 (.slice 2 (R.t 40) (some (R.i 1)) none),
      R.q 6 (.mov (R.t 41))])
    .skip))
  (.seq (.regd [R.f (R.q 42 (.bslice 2 (.cons (.str fun _ => []) (.cons (.str fun _ => []) .nil)) 0 [])),
    R.f (R.q 43 (.mov (R.t 0))),
    R.f (R.q 44 (.mov (R.t 5))),
    R.f (R.q 45 (.slice 2 (R.t 43) none (some (R.t 44)))),
    R.f (R.q 47 (.loadA 2 (R.t 3))),
    R.f (R.q 48 (.bslice 2 (.cons (.str fun _ => []) (.cons (.str fun _ => []) .nil)) 1 [(0, 2, (R.t 47))])),
    R.f (R.q 50 (.mov (R.t 6))),
    R.s (R.q 46 (.append 2 32 (R.t 42) (R.t 45))) [4, 5, 6],
    R.s (R.q 49 (.append 2 32 (R.t 46) (R.t 48))) [6],
    R.s (R.q 51 (.append 2 32 (R.t 49) (R.t 50))) [],
    R.s (R.q 4 (.mov (R.t 51))) []])
  .ret))))))
def l13_add.rs : List RRes := [.tmp 4]
theorem l13_add.of {xs : List AV} {d : Nat} {B : BL} {K : ARes → BL → Prop} (hn : xs.length = 2) (hB : onlyOuter B = true) (h : awp ⟨PT, 52, exitX l13_add.rs K⟩ 10000 [.code l13_add.rc] ⟨params 0 xs, B, .nil⟩) : CallAt PT l13_add xs d B K :=
  call_of_awp 10000 Try.func37 rfl (by kernel_rfl) (by kernel_rfl) (by kernel_rfl) (by rw [hn]; decide) hB h
abbrev r1_letters : Nat := 38
def r1_letters.rc : RC :=
  (.seq (.reg [R.q 0 (.mov (.val (.str fun _ => [])))])
  (.seq (.reg [R.q 0 (.mov (.val (.str fun _ => [65, 66, 67, 68, 69, 70, 71, 72, 73, 74, 75, 76, 77, 78, 79, 80, 81, 82, 83, 84, 85, 86, 87, 88, 89, 90, 97, 98, 99, 100, 101, 102, 103, 104, 105, 106, 107, 108, 109, 110, 111, 112, 113, 114, 115, 116, 117, 118, 119, 120, 121, 122, 48, 49, 50, 51, 52, 53, 54, 55, 56, 57, 43, 47])))])
  .ret))
def r1_letters.rs : List RRes := [.tmp 0]
theorem r1_letters.of {xs : List AV} {d : Nat} {B : BL} {K : ARes → BL → Prop} (hn : xs.length = 0) (hB : onlyOuter B = true) (h : awp ⟨PT, 1, exitX r1_letters.rs K⟩ 10000 [.code r1_letters.rc] ⟨params 0 xs, B, .nil⟩) : CallAt PT r1_letters xs d B K :=
  call_of_awp 10000 Try.func38 rfl (by kernel_rfl) (by kernel_rfl) (by kernel_rfl) (by rw [hn]; decide) hB h
abbrev strings_CutPrefix : Nat := 39
def strings_CutPrefix.rc : RC :=
  (.seq (.reg [R.q 4 (.mov (.val (.str fun _ => []))),
    R.q 5 (.mov R.ff)])
  (.seq (.reg [R.q 6 (.mov (R.t 0)),
    R.q 7 (.mov (R.t 1)),
    R.q 8 (.call 53 [(R.t 6), (R.t 7)]),
    R.q 9 (.ext 0 (R.t 8)),
    R.q 10 (.ext 1 (R.t 8)),
    R.q 4 (.mov (R.t 9)),
    R.q 5 (.mov (R.t 10))])
  .ret))
def strings_CutPrefix.rs : List RRes := [.tmp 4, .tmp 5]
theorem strings_CutPrefix.of {xs : List AV} {d : Nat} {B : BL} {K : ARes → BL → Prop} (hn : xs.length = 2) (hB : onlyOuter B = true) (h : awp ⟨PT, 11, exitX strings_CutPrefix.rs K⟩ 10000 [.code strings_CutPrefix.rc] ⟨params 0 xs, B, .nil⟩) : CallAt PT strings_CutPrefix xs d B K :=
  call_of_awp 10000 Try.func39 rfl (by kernel_rfl) (by kernel_rfl) (by kernel_rfl) (by rw [hn]; decide) hB h
abbrev escape_Get : Nat := 40
def escape_Get.rc : RC :=
  (.seq (.reg [R.q 2 (.alloc (.cons (.str fun _ => []) .nil)),
    R.q 3 (.alloc (.cons .ff .nil))])
  (.seq (.reg [R.q 7 (.mkfn (.func 54) [] [(R.t 2), (R.t 3)]),
    R.e (.defer (R.t 7) [])])
  (.seq (.reg [R.q 4 (.mov (.val .nsl))])
  (.seq (.seq (.reg [R.q 5 (.mov (R.i 0))])
  (.block 0 (.loop
     (.seq (.seq (.reg [R.q 8 (.mov (R.t 5)),
       R.q 9 (.mov (R.t 0)),
       R.q 10 (.lenS (R.t 9)),
       R.q 11 (.bin .lss .no (R.t 8) (R.t 10))])
     (.cond (R.t 11)
       .skip
       (.exit 0)))
     (.seq (.block 1 (.seq (.reg [R.q 14 (.mov (R.t 0)),
        R.q 15 (.mov (R.t 5)),
        R.q 16 (.idxS (R.t 14) (R.t 15)),
        R.q 6 (.mov (R.t 16))])
      (.seq (.seq (.reg [R.q 17 (.mov (R.t 6)),
        R.q 18 (.bin .eql .no (R.t 17) (R.u 37))])
      (.cond (R.t 18)
        (.seq (.reg [R.q 19 (.mov (R.t 0)),
          R.q 20 (.mov (R.t 5)),
          R.q 21 (.bin .add .no (R.t 20) (R.i 1)),
          R.q 22 (.call 55 [(R.t 19), (R.t 21)]),
          R.q 23 (.bin .shl .no (R.t 22) (.val (.int .u64 fun _ => 4))),
          R.q 24 (.mov (R.t 0)),
          R.q 25 (.mov (R.t 5)),
          R.q 26 (.bin .add .no (R.t 25) (R.i 2)),
          R.q 27 (.call 55 [(R.t 24), (R.t 26)]),
          R.q 28 (.bin .or .no (R.t 23) (R.t 27)),
          R.q 6 (.mov (R.t 28))])
        (.reg [R.q 29 (.mov (R.t 5)),
          R.q 30 (.bin .add .no (R.t 29) (R.i 2)),
          R.q 5 (.mov (R.t 30))]))
        .skip))
      (.reg [R.q 31 (.mov (R.t 4)),
        R.q 32 (.mov (R.t 6)),
        R.q 33 (.bslice 1 (.cons (.int .u8 fun _ => 0) .nil) 1 [(0, 1, (R.t 32))]),
        R.q 34 (.append 1 1 (R.t 31) (R.t 33)),
        R.q 4 (.mov (R.t 34))]))))
     (.reg [R.q 12 (.mov (R.t 5)),
       R.q 13 (.bin .add .no (R.t 12) (R.i 1)),
       R.q 5 (.mov (R.t 13))]))))))
  (.seq (.seq (.reg [R.q 35 (.mov (R.t 4)),
    R.q 36 (.b2s (R.t 35)),
    R.q 37 (.call 34 [(R.t 36)]),
    R.q 38 (.mov (R.t 0)),
    R.q 39 (.bin .neq .no (R.t 37) (R.t 38))])
  (.cond (R.t 39)
    (.seq (.reg [R.e (.store 1 (R.t 2) (.val (.str fun _ => []))),
      R.e (.store 1 (R.t 3) R.ff)])
    .ret)
    .skip))
  (.seq (.reg [R.q 40 (.mov (R.t 4)),
    R.q 41 (.b2s (R.t 40)),
    R.e (.store 1 (R.t 2) (R.t 41)),
    R.e (.store 1 (R.t 3) R.tt)])
  .ret))))))
def escape_Get.rs : List RRes := [.cell1 2, .cell1 3]
theorem escape_Get.of {xs : List AV} {d : Nat} {B : BL} {K : ARes → BL → Prop} (hn : xs.length = 1) (hB : onlyOuter B = true) (h : awp ⟨PT, 42, exitD PT escape_Get.rs K⟩ 10000 [.code escape_Get.rc] ⟨params 0 xs, B, .nil⟩) : CallAt PT escape_Get xs d B K :=
  call_of_awp_d 10000 Try.func40 rfl (by kernel_rfl) (by kernel_rfl) (by kernel_rfl) (by rw [hn]; decide) hB h
abbrev cmp_isNaN_string : Nat := 42
def cmp_isNaN_string.rc : RC :=
  (.seq (.reg [R.q 2 (.mov R.ff)])
  (.seq (.reg [R.q 3 (.mov (R.t 0)),
    R.q 4 (.mov (R.t 0)),
    R.q 5 (.bin .neq .no (R.t 3) (R.t 4)),
    R.q 2 (.mov (R.t 5))])
  .ret))
def cmp_isNaN_string.rs : List RRes := [.tmp 2]
theorem cmp_isNaN_string.of {xs : List AV} {d : Nat} {B : BL} {K : ARes → BL → Prop} (hn : xs.length = 1) (hB : onlyOuter B = true) (h : awp ⟨PT, 6, exitX cmp_isNaN_string.rs K⟩ 10000 [.code cmp_isNaN_string.rc] ⟨params 0 xs, B, .nil⟩) : CallAt PT cmp_isNaN_string xs d B K :=
  call_of_awp 10000 Try.func42 rfl (by kernel_rfl) (by kernel_rfl) (by kernel_rfl) (by rw [hn]; decide) hB h
abbrev strings_Index : Nat := 46
def strings_Index.rc : RC :=
  (.seq (.reg [R.q 4 (.mov (R.i 0))])
  (.seq (.reg [R.q 5 (.mov (R.t 0)),
    R.q 6 (.mov (R.t 1)),
    R.q 7 (.call 59 [(R.t 5), (R.t 6)]),
    R.q 4 (.mov (R.t 7))])
  .ret))
def strings_Index.rs : List RRes := [.tmp 4]
theorem strings_Index.of {xs : List AV} {d : Nat} {B : BL} {K : ARes → BL → Prop} (hn : xs.length = 2) (hB : onlyOuter B = true) (h : awp ⟨PT, 8, exitX strings_Index.rs K⟩ 10000 [.code strings_Index.rc] ⟨params 0 xs, B, .nil⟩) : CallAt PT strings_Index xs d B K :=
  call_of_awp 10000 Try.func46 rfl (by kernel_rfl) (by kernel_rfl) (by kernel_rfl) (by rw [hn]; decide) hB h
abbrev sixty_put : Nat := 52
def sixty_put.rc : RC :=
  (.seq (.reg [R.q 2 (.mov (.val (.str fun _ => [])))])
  (.seq (.reg [R.q 3 (.mov (R.i 0))])
  (.seq (.seq (.reg [R.q 7 (.mov (R.i 0))])
  (.block 0 (.loop
     (.seq (.reg [R.q 8 (.bin .lss .no (R.t 7) (R.i 3))])
     (.seq (.cond (R.t 8)
       .skip
       (.exit 0))
     (.seq (.block 1 (.seq (.reg [R.q 9 (.mov (R.t 7)),
        R.q 4 (.mov (R.t 9))])
      (.seq (.reg [R.q 10 (.mov (R.t 3)),
        R.q 11 (.bin .shl .no (R.t 10) (.val (.int .u64 fun _ => 8))),
        R.q 3 (.mov (R.t 11))])
      (.seq (.reg [R.q 12 (.mov (R.t 4)),
        R.q 13 (.mov (R.t 0)),
        R.q 14 (.lenS (R.t 13)),
        R.q 15 (.bin .lss .no (R.t 12) (R.t 14))])
      (.cond (R.t 15)
        (.reg [R.q 16 (.mov (R.t 3)),
          R.q 17 (.mov (R.t 0)),
          R.q 18 (.mov (R.t 4)),
          R.q 19 (.idxS (R.t 17) (R.t 18)),
          R.q 20 (.conv .i64 (R.t 19)),
          R.q 21 (.bin .or .no (R.t 16) (R.t 20)),
          R.q 3 (.mov (R.t 21))])
        .skip)))))
     (.reg [R.q 22 (.bin .add .no (R.t 7) (R.i 1)),
       R.q 7 (.mov (R.t 22))])))))))
  (.seq (.reg [R.q 5 (.allocR 1 4 (.cons (.int .u8 fun _ => 0) (.cons (.int .u8 fun _ => 0) (.cons (.int .u8 fun _ => 0) (.cons (.int .u8 fun _ => 0) .nil)))))])
  (.seq (.seq (.reg [R.q 23 (.mov (R.i 0))])
  (.block 2 (.loop
     (.seq (.reg [R.q 24 (.bin .lss .no (R.t 23) (R.i 4))])
     (.seq (.cond (R.t 24)
       .skip
       (.exit 2))
     (.seq (.block 3 (.seq (.reg [R.q 25 (.mov (R.t 23)),
        R.q 6 (.mov (R.t 25))])
      (.seq (.reg [R.q 26 (.mov (R.t 6)),
        R.q 27 (.mov (R.t 3)),
        R.q 28 (.mov (R.t 6)),
        R.q 29 (.bin .sub .no (R.i 3) (R.t 28)),
        R.q 30 (.bin .mul .no (R.t 29) (R.i 6)),
        R.q 31 (.bin .shr .no (R.t 27) (R.t 30)),
        R.q 32 (.bin .and .no (R.t 31) (R.i 63)),
        R.q 33 (.idxS (.val (.str fun _ => [65, 66, 67, 68, 69, 70, 71, 72, 73, 74, 75, 76, 77, 78, 79, 80, 81, 82, 83, 84, 85, 86, 87, 88, 89, 90, 97, 98, 99, 100, 101, 102, 103, 104, 105, 106, 107, 108, 109, 110, 111, 112, 113, 114, 115, 116, 117, 118, 119, 120, 121, 122, 48, 49, 50, 51, 52, 53, 54, 55, 56, 57, 43, 47])) (R.t 32)),
        R.q 34 (.idxA 1 4 (R.t 5) (R.t 26)),
        R.e (.store 1 (R.t 34) (R.t 33))])
      (.seq (.reg [R.q 35 (.mov (R.t 6)),
        R.q 36 (.mov (R.t 0)),
        R.q 37 (.lenS (R.t 36)),
        R.q 38 (.bin .gtr .no (R.t 35) (R.t 37))])
      (.cond (R.t 38)
        (.reg [R.q 39 (.mov (R.t 6)),
          R.q 40 (.idxA 1 4 (R.t 5) (R.t 39)),
          R.e (.store 1 (R.t 40) (R.u 61))])
        .skip)))))
     (.reg [R.q 41 (.bin .add .no (R.t 23) (R.i 1)),
       R.q 23 (.mov (R.t 41))])))))))
  (.seq (.reg [R.q 42 (.sliceA 1 4 (R.t 5)),
    R.q 43 (.b2s (R.t 42)),
    R.q 2 (.mov (R.t 43))])
  .ret))))))
def sixty_put.rs : List RRes := [.tmp 2]
theorem sixty_put.of {xs : List AV} {d : Nat} {B : BL} {K : ARes → BL → Prop} (hn : xs.length = 1) (hB : onlyOuter B = true) (h : awp ⟨PT, 44, exitX sixty_put.rs K⟩ 10000 [.code sixty_put.rc] ⟨params 0 xs, B, .nil⟩) : CallAt PT sixty_put xs d B K :=
  call_of_awp 10000 Try.func52 rfl (by kernel_rfl) (by kernel_rfl) (by kernel_rfl) (by rw [hn]; decide) hB h
abbrev internal_stringslite_CutPrefix : Nat := 53
def internal_stringslite_CutPrefix.rc : RC :=
  (.seq (.reg [R.q 4 (.mov (.val (.str fun _ => []))),
    R.q 5 (.mov R.ff)])
  (.seq (.seq (.reg [R.q 6 (.mov (R.t 0)),
    R.q 7 (.mov (R.t 1)),
    R.q 8 (.call 61 [(R.t 6), (R.t 7)]),
    R.q 9 (.un .not (R.t 8))])
  (.cond (R.t 9)
    (.seq (.reg [R.q 10 (.mov (R.t 0)),
      R.q 4 (.mov (R.t 10)),
      R.q 5 (.mov R.ff)])
    .ret)
    .skip))
  (.seq (.reg [R.q 11 (.mov (R.t 0)),
    R.q 12 (.mov (R.t 1)),
    R.q 13 (.lenS (R.t 12)),
    R.q 14 (.sliceS (R.t 11) (some (R.t 13)) none),
    R.q 4 (.mov (R.t 14)),
    R.q 5 (.mov R.tt)])
  .ret)))
def internal_stringslite_CutPrefix.rs : List RRes := [.tmp 4, .tmp 5]
theorem internal_stringslite_CutPrefix.of {xs : List AV} {d : Nat} {B : BL} {K : ARes → BL → Prop} (hn : xs.length = 2) (hB : onlyOuter B = true) (h : awp ⟨PT, 15, exitX internal_stringslite_CutPrefix.rs K⟩ 10000 [.code internal_stringslite_CutPrefix.rc] ⟨params 0 xs, B, .nil⟩) : CallAt PT internal_stringslite_CutPrefix xs d B K :=
  call_of_awp 10000 Try.func53 rfl (by kernel_rfl) (by kernel_rfl) (by kernel_rfl) (by rw [hn]; decide) hB h
abbrev escape_Get_1 : Nat := 54
def escape_Get_1.rc : RC :=
  (.seq (.reg [R.q 6 (.mov (R.t 2)),
    R.q 7 (.bin .neq (.ifc true) (R.t 6) (.val .nif))])
  (.cond (R.t 7)
    (.seq (.seq (.reg [R.q 9 (.mov (R.t 2)),
      R.q 10 (.assert 83 (.agg (.cons (R.z 0) .nil)) (R.t 9)),
      R.q 8 (.mov (R.t 10)),
      R.q 11 (.ext 0 (R.t 8)),
      R.q 12 (.ext 1 (R.t 8)),
      R.q 3 (.alloc (.cons (R.z 0) .nil)),
      R.e (.store 1 (R.t 3) (R.t 11)),
      R.q 4 (.mov (R.t 12))])
    (.seq (.reg [R.q 13 (.mov (R.t 4)),
      R.q 14 (.un .not (R.t 13))])
    (.cond (R.t 14)
      (.reg [R.q 15 (.mov (R.t 2)),
        R.e (.panic (R.t 15))])
      .skip)))
    (.reg [R.e (.store 1 (R.t 0) (.val (.str fun _ => []))),
      R.e (.store 1 (R.t 1) R.ff)]))
    .skip))
def escape_Get_1.rs : List RRes := []
theorem escape_Get_1.of {pn : Bool} {pv : AV} {xs : List AV} {B : BL} {K : BL → Prop} (hn : xs.length = 2) (hB : onlyOuter B = true) (hpv : pn = false → pv = .nif) (h : awp ⟨PT, 16, exitC K⟩ 10000 [.code escape_Get_1.rc] ⟨.cons 2 pv (.cons 5 pv (params 0 xs)), B, .nil⟩) : DefAt PT escape_Get_1 pn (pv :: xs) B K :=
  def_of_awp 10000 Try.func54 rfl (by kernel_rfl) (by kernel_rfl) rfl (by rw [hn]; decide) (by decide) (by decide) hB hpv h
abbrev escape_value : Nat := 55
def escape_value.rc : RC :=
  (.seq (.reg [R.q 4 (.mov (R.u 0))])
  (.seq (.seq (.reg [R.q 6 (.mov (R.t 1)),
    R.q 7 (.mov (R.t 0)),
    R.q 8 (.lenS (R.t 7)),
    R.q 9 (.bin .geq .no (R.t 6) (R.t 8))])
  (.cond (R.t 9)
    (.reg [R.q 10 (.mov (R.t 1)),
      R.q 11 (.build (.cons (R.z 0) .nil) [(0, 1, (R.t 10))]),
      R.q 12 (.mkif 83 (R.t 11)),
      R.e (.panic (R.t 12))])
    .skip))
  (.seq (.reg [R.q 13 (.mov (R.t 0)),
    R.q 14 (.mov (R.t 1)),
    R.q 15 (.idxS (R.t 13) (R.t 14)),
    R.q 16 (.call 62 [(.val (.str fun _ => [48, 49, 50, 51, 52, 53, 54, 55, 56, 57, 65, 66, 67, 68, 69, 70])), (R.t 15)]),
    R.q 5 (.mov (R.t 16))])
  (.seq (.seq (.reg [R.q 17 (.mov (R.t 5)),
    R.q 18 (.bin .lss .no (R.t 17) (R.i 0))])
  (.cond (R.t 18)
    (.reg [R.q 19 (.mov (R.t 1)),
      R.q 20 (.build (.cons (R.z 0) .nil) [(0, 1, (R.t 19))]),
      R.q 21 (.mkif 83 (R.t 20)),
      R.e (.panic (R.t 21))])
    .skip))
  (.seq (.reg [R.q 22 (.mov (R.t 5)),
    R.q 23 (.conv .u8 (R.t 22)),
    R.q 4 (.mov (R.t 23))])
  .ret)))))
def escape_value.rs : List RRes := [.tmp 4]
theorem escape_value.of {xs : List AV} {d : Nat} {B : BL} {K : ARes → BL → Prop} (hn : xs.length = 2) (hB : onlyOuter B = true) (h : awp ⟨PT, 24, exitX escape_value.rs K⟩ 10000 [.code escape_value.rc] ⟨params 0 xs, B, .nil⟩) : CallAt PT escape_value xs d B K :=
  call_of_awp 10000 Try.func55 rfl (by kernel_rfl) (by kernel_rfl) (by kernel_rfl) (by rw [hn]; decide) hB h
abbrev sixty_Get_1 : Nat := 56
def sixty_Get_1.rc : RC :=
  (.seq (.reg [R.q 6 (.mov (R.t 2)),
    R.q 7 (.bin .neq (.ifc true) (R.t 6) (.val .nif))])
  (.cond (R.t 7)
    (.seq (.seq (.reg [R.q 9 (.mov (R.t 2)),
      R.q 10 (.assert 87 (.agg (.cons (R.z 0) .nil)) (R.t 9)),
      R.q 8 (.mov (R.t 10)),
      R.q 11 (.ext 0 (R.t 8)),
      R.q 12 (.ext 1 (R.t 8)),
      R.q 3 (.alloc (.cons (R.z 0) .nil)),
      R.e (.store 1 (R.t 3) (R.t 11)),
      R.q 4 (.mov (R.t 12))])
    (.seq (.reg [R.q 13 (.mov (R.t 4)),
      R.q 14 (.un .not (R.t 13))])
    (.cond (R.t 14)
      (.reg [R.q 15 (.mov (R.t 2)),
        R.e (.panic (R.t 15))])
      .skip)))
    (.reg [R.e (.store 1 (R.t 0) (.val (.str fun _ => []))),
      R.e (.store 1 (R.t 1) R.ff)]))
    .skip))
def sixty_Get_1.rs : List RRes := []
theorem sixty_Get_1.of {pn : Bool} {pv : AV} {xs : List AV} {B : BL} {K : BL → Prop} (hn : xs.length = 2) (hB : onlyOuter B = true) (hpv : pn = false → pv = .nif) (h : awp ⟨PT, 16, exitC K⟩ 10000 [.code sixty_Get_1.rc] ⟨.cons 2 pv (.cons 5 pv (params 0 xs)), B, .nil⟩) : DefAt PT sixty_Get_1 pn (pv :: xs) B K :=
  def_of_awp 10000 Try.func56 rfl (by kernel_rfl) (by kernel_rfl) rfl (by rw [hn]; decide) (by decide) (by decide) hB hpv h
abbrev sixty_get : Nat := 57
def sixty_get.rc : RC :=
  (.seq (.reg [R.q 2 (.mov (.val (.str fun _ => [])))])
  (.seq (.reg [R.q 3 (.mov (R.i 0)),
    R.q 4 (.mov (R.i 3))])
  (.seq (.seq (.reg [R.q 9 (.mov (R.t 0)),
    R.q 10 (.s2b (R.t 9)),
    R.q 11 (.len (R.t 10)),
    R.q 12 (.mov (R.i 0))])
  (.block 0 (.loop
     (.seq (.reg [R.q 13 (.bin .lss .no (R.t 12) (R.t 11))])
     (.seq (.cond (R.t 13)
       .skip
       (.exit 0))
     (.seq (.block 1 (.seq (.reg [R.q 14 (.mov (R.t 12)),
        R.q 15 (.idx 1 (R.t 10) (R.t 12)),
        R.q 16 (.load1 (R.t 15)),
        R.q 5 (.mov (R.t 14)),
        R.q 6 (.mov (R.t 16))])
      (.seq (.reg [R.q 17 (.mov (R.t 6)),
        R.q 18 (.call 62 [(.val (.str fun _ => [65, 66, 67, 68, 69, 70, 71, 72, 73, 74, 75, 76, 77, 78, 79, 80, 81, 82, 83, 84, 85, 86, 87, 88, 89, 90, 97, 98, 99, 100, 101, 102, 103, 104, 105, 106, 107, 108, 109, 110, 111, 112, 113, 114, 115, 116, 117, 118, 119, 120, 121, 122, 48, 49, 50, 51, 52, 53, 54, 55, 56, 57, 43, 47])), (R.t 17)]),
        R.q 7 (.mov (R.t 18))])
      (.seq (.seq (.reg [R.q 19 (.mov (R.t 6)),
        R.q 20 (.bin .eql .no (R.t 19) (R.u 61)),
        R.q 21 (.mov (R.t 20)),
        R.g 22 (.mov (R.t 5)) 21 true,
        R.g 23 (.bin .gtr .no (R.t 22) (R.i 1)) 21 true,
        R.q 24 (.pick (R.t 21) (R.t 23) R.ff)])
      (.cond (R.t 24)
        (.reg [R.q 25 (.mov (R.t 4)),
          R.q 26 (.mov (R.t 5)),
          R.q 27 (.bin .sub .no (R.t 26) (R.i 1)),
          R.q 28 (.mm false [(R.t 25), (R.t 27)]),
          R.q 7 (.mov (R.i 0)),
          R.q 4 (.mov (R.t 28))])
        .skip))
      (.seq (.seq (.reg [R.q 29 (.mov (R.t 7)),
        R.q 30 (.bin .lss .no (R.t 29) (R.i 0))])
      (.cond (R.t 30)
        (.reg [R.q 31 (.mov (R.t 5)),
          R.q 32 (.build (.cons (R.z 0) .nil) [(0, 1, (R.t 31))]),
          R.q 33 (.mkif 87 (R.t 32)),
          R.e (.panic (R.t 33))])
        .skip))
      (.reg [R.q 34 (.mov (R.t 3)),
        R.q 35 (.bin .shl .no (R.t 34) (.val (.int .u64 fun _ => 6))),
        R.q 36 (.mov (R.t 7)),
        R.q 37 (.bin .or .no (R.t 35) (R.t 36)),
        R.q 3 (.mov (R.t 37))]))))))
     (.reg [R.q 38 (.bin .add .no (R.t 12) (R.i 1)),
       R.q 12 (.mov (R.t 38))])))))))
  (.seq (.reg [R.q 39 (.mov (R.t 3)),
    R.q 40 (.bin .shr .no (R.t 39) (.val (.int .u64 fun _ => 16))),
    R.q 41 (.conv .u8 (R.t 40)),
    R.q 42 (.mov (R.t 3)),
    R.q 43 (.bin .shr .no (R.t 42) (.val (.int .u64 fun _ => 8))),
    R.q 44 (.conv .u8 (R.t 43)),
    R.q 45 (.mov (R.t 3)),
    R.q 46 (.conv .u8 (R.t 45)),
    R.q 47 (.bslice 1 (.cons (.int .u8 fun _ => 0) .nil) 3 [(0, 1, (R.t 41)), (1, 1, (R.t 44)), (2, 1, (R.t 46))]),
    R.q 8 (.mov (R.t 47))])
  (.seq (.reg [R.q 48 (.mov (R.t 8)),
    R.q 49 (.mov (R.t 4)),
    R.q 50 (.slice 1 (R.t 48) none (some (R.t 49))),
    R.q 51 (.b2s (R.t 50)),
    R.q 2 (.mov (R.t 51))])
  .ret)))))
def sixty_get.rs : List RRes := [.tmp 2]
theorem sixty_get.of {xs : List AV} {d : Nat} {B : BL} {K : ARes → BL → Prop} (hn : xs.length = 1) (hB : onlyOuter B = true) (h : awp ⟨PT, 52, exitX sixty_get.rs K⟩ 10000 [.code sixty_get.rc] ⟨params 0 xs, B, .nil⟩) : CallAt PT sixty_get xs d B K :=
  call_of_awp 10000 Try.func57 rfl (by kernel_rfl) (by kernel_rfl) (by kernel_rfl) (by rw [hn]; decide) hB h
abbrev internal_stringslite_HasPrefix : Nat := 61
def internal_stringslite_HasPrefix.rc : RC :=
  (.seq (.reg [R.q 4 (.mov R.ff)])
  (.seq (.reg [R.q 5 (.mov (R.t 0)),
    R.q 6 (.lenS (R.t 5)),
    R.q 7 (.mov (R.t 1)),
    R.q 8 (.lenS (R.t 7)),
    R.q 9 (.bin .geq .no (R.t 6) (R.t 8)),
    R.q 10 (.mov (R.t 9)),
    R.g 11 (.mov (R.t 0)) 10 true,
    R.g 12 (.mov (R.t 1)) 10 true,
    R.g 13 (.lenS (R.t 12)) 10 true,
    R.g 14 (.sliceS (R.t 11) none (some (R.t 13))) 10 true,
    R.g 15 (.mov (R.t 1)) 10 true,
    R.g 16 (.bin .eql .no (R.t 14) (R.t 15)) 10 true,
    R.q 17 (.pick (R.t 10) (R.t 16) R.ff),
    R.q 4 (.mov (R.t 17))])
  .ret))
def internal_stringslite_HasPrefix.rs : List RRes := [.tmp 4]
theorem internal_stringslite_HasPrefix.of {xs : List AV} {d : Nat} {B : BL} {K : ARes → BL → Prop} (hn : xs.length = 2) (hB : onlyOuter B = true) (h : awp ⟨PT, 18, exitX internal_stringslite_HasPrefix.rs K⟩ 10000 [.code internal_stringslite_HasPrefix.rc] ⟨params 0 xs, B, .nil⟩) : CallAt PT internal_stringslite_HasPrefix xs d B K :=
  call_of_awp 10000 Try.func61 rfl (by kernel_rfl) (by kernel_rfl) (by kernel_rfl) (by rw [hn]; decide) hB h
end F
end Go.Proofs.Ytjjddmbnfkmfdaa
/- The package right, walked: what each function answers. -/
namespace Go.Proofs.Ytjjddmbnfkmfdaa
open Go Go.Proofs.Ytjjddmbnfkmfdaa.Sx F
end Go.Proofs.Ytjjddmbnfkmfdaa
/- Bytes as numbers; entries: data. -/
namespace Go.Proofs.Ytjjddmbnfkmfdaa
open Go Go.Proofs.Ytjjddmbnfkmfdaa.Sx
set_option linter.unusedVariables false
set_option linter.unusedSimpArgs false
def isBytes (l : List Int) : Prop := ∀ x ∈ l, 0 ≤ x ∧ x < 256
theorem byte_at {l : List Int} (h : isBytes l) {k : Nat} : 0 ≤ l.getD k 0 ∧ l.getD k 0 < 256 := by
  rw [List.getD_eq_getElem?_getD]
  by_cases hk : k < l.length
  · rw [List.getElem?_eq_getElem hk]; exact h _ (List.getElem_mem hk)
  · rw [List.getElem?_eq_none (by omega)]; simp
theorem rest_of {x : Int} (h : 0 ≤ x ∧ x < 256) {m : Int} (hm : 0 < m) : 0 ≤ (IntKind.i64.wrap x).tmod m ∧ (IntKind.i64.wrap x).tmod m < m := by
  have : IntKind.i64.wrap x = x := by rw [IntKind.wrap_i64]; omega
  rw [this]
  exact ⟨Int.tmod_nonneg _ h.1, Int.tmod_lt_of_pos _ hm⟩
def byteI (l : Th (List Int)) : AV := .sl 1 (fun _ => (l .o).length) fun i => .cons (.int .u8 fun _ => (l .o).getD (i .o) 0) .nil
/-- Behind a row of nothing. -/
theorem app_rows0 {α : Type} {bytes : Nat} {n m : Th Nat} {g gy : Th Nat → AV} {K : Th Nat → (Th Nat → AV) → Prop} (ch : Th α → AV) (z : α) (ys : List α) (hn : n .o = 0)
    (hm : m .o = ys.length) (hy : ∀ i, i < ys.length → gy (fun _ => i) = ch fun _ => ys.getD i z) (hroom : ys.length * bytes ≤ 140737488355328)
    (h : K (fun _ => ys.length) fun i => ch fun _ => ys.getD (i .o) z) : AppAt bytes n m g gy K :=
  app_rows ch z [] ys hn (fun i hi => absurd hi (Nat.not_lt_zero _)) hm hy (by simpa using hroom) h
end Go.Proofs.Ytjjddmbnfkmfdaa
/- The document's example of the layer right, and what the laws of rights share. -/
namespace Go.Proofs.Ytjjddmbnfkmfdaa
open Go Go.Proofs.Ytjjddmbnfkmfdaa.Sx F
end Go.Proofs.Ytjjddmbnfkmfdaa
/- Who asks, by numbers. -/
namespace Go.Proofs.Ytjjddmbnfkmfdaa
open Go Go.Proofs.Ytjjddmbnfkmfdaa.Sx F
end Go.Proofs.Ytjjddmbnfkmfdaa
/- What the laws make by numbers: access lists. -/
namespace Go.Proofs.Ytjjddmbnfkmfdaa
open Go Go.Proofs.Ytjjddmbnfkmfdaa.Sx F
set_option linter.unusedVariables false
set_option linter.unusedSimpArgs false
def pairs (ns : List Int) : Nat := min 6 (ns.length / 2)
end Go.Proofs.Ytjjddmbnfkmfdaa
/- What the laws make by numbers: names with values. -/
namespace Go.Proofs.Ytjjddmbnfkmfdaa
open Go Go.Proofs.Ytjjddmbnfkmfdaa.Sx F
set_option linter.unusedVariables false
set_option linter.unusedSimpArgs false
theorem lt_irr : ∀ a : List UInt8, strLt a a = false
  | [] => rfl
  | x :: r => by
    have := lt_irr r
    unfold strLt at *
    simp [Op.bytesLess, this]
theorem lt_trans' : ∀ {a b c : List UInt8}, strLt a b = true → strLt b c = true → strLt a c = true
  | _, _, [], _, h => by unfold strLt at h; simp [Op.bytesLess] at h
  | _, [], _ :: _, h, _ => by unfold strLt at h; simp [Op.bytesLess] at h
  | [], _ :: _, _ :: _, _, _ => rfl
  | x :: a, y :: b, z :: c, h, k => by
    have ih := @lt_trans' a b c
    unfold strLt at *
    simp only [Op.bytesLess, Bool.or_eq_true, Bool.and_eq_true, decide_eq_true_eq, beq_iff_eq] at *
    rcases h with h | ⟨rfl, h⟩
    · rcases k with k | ⟨rfl, k⟩
      · exact .inl (UInt8.lt_trans h k)
      · exact .inl h
    · rcases k with k | ⟨rfl, k⟩
      · exact .inl k
      · exact .inr ⟨rfl, ih h k⟩
theorem lt_tri : ∀ {a b : List UInt8}, strLt a b = false → a ≠ b → strLt b a = true
  | [], [], _, h => (h rfl).elim
  | [], _ :: _, h, _ => by unfold strLt at h; simp [Op.bytesLess] at h
  | _ :: _, [], _, _ => rfl
  | x :: a, y :: b, h, k => by
    have ih := @lt_tri a b
    unfold strLt at *
    simp only [Op.bytesLess, Bool.or_eq_true, Bool.and_eq_true, decide_eq_true_eq, beq_iff_eq, Bool.or_eq_false_iff, decide_eq_false_iff_not] at *
    rcases Nat.lt_trichotomy x.toNat y.toNat with q | q | q
    · exact (h.1 (UInt8.lt_iff_toNat_lt.2 q)).elim
    · obtain rfl : x = y := UInt8.toNat_inj.1 q
      simp only [beq_self_eq_true, Bool.true_and] at h
      exact .inr ⟨rfl, ih h.2 fun e => k (by rw [e])⟩
    · exact .inl (UInt8.lt_iff_toNat_lt.2 q)
def ltX (x y : Xattr) : Prop := strLt x.name y.name = true
/-- In order, each name once. -/
def addX (a : Xattr) : List Xattr → List Xattr
  | [] => [a]
  | x :: r => if strLt x.name a.name = true then x :: addX a r else if x.name = a.name then a :: r else a :: x :: r
theorem addX_at (a : Xattr) : ∀ (l : List Xattr) (k : Nat), k ≤ l.length → (∀ j, j < k → strLt (l.getD j Xattr.z).name a.name = true) → (k < l.length → ¬ strLt (l.getD k Xattr.z).name a.name = true) →
    addX a l = l.take k ++ a :: (if k < l.length ∧ (l.getD k Xattr.z).name = a.name then l.drop (k + 1) else l.drop k)
  | [], k, hk, _, _ => by simp at hk; subst hk; simp [addX]
  | x :: r, 0, _, _, h => by
    have h := h (by simp)
    simp at h
    simp [addX]
    by_cases he : x.name = a.name
    · simp [he, lt_irr]
    · simp [h, he]
  | x :: r, k + 1, hk, hj, h => by
    have h0 := hj 0 (by omega)
    have := addX_at a r k (by simpa using hk) (fun j hj' => by simpa using hj (j + 1) (by omega)) (fun q => by simpa using h (by simpa using q))
    simp at h0
    simp [addX, h0, this]
theorem addX_mem {a x : Xattr} : ∀ {l : List Xattr}, x ∈ addX a l → x = a ∨ x ∈ l
  | [], h => by simp [addX] at h; exact .inl h
  | y :: r, h => by
    unfold addX at h
    split at h
    · rcases List.mem_cons.1 h with h | h
      · exact .inr (by simp [h])
      · rcases addX_mem h with h | h
        · exact .inl h
        · exact .inr (by simp [h])
    · split at h
      · rcases List.mem_cons.1 h with h | h
        · exact .inl h
        · exact .inr (by simp [h])
      · rcases List.mem_cons.1 h with h | h
        · exact .inl h
        · exact .inr h
theorem addX_up (a : Xattr) : ∀ l : List Xattr, l.Pairwise ltX → (addX a l).Pairwise ltX
  | [], _ => by simp [addX]
  | x :: r, h => by
    obtain ⟨h1, h2⟩ := List.pairwise_cons.1 h
    unfold addX
    split
    · rename_i hlt
      refine List.pairwise_cons.2 ⟨fun y hy => ?_, addX_up a r h2⟩
      rcases addX_mem hy with rfl | hy
      · exact hlt
      · exact h1 y hy
    · rename_i hlt
      split
      · rename_i he
        exact List.pairwise_cons.2 ⟨fun y hy => by unfold ltX; rw [← he]; exact h1 y hy, h2⟩
      · rename_i hne
        have ha : ltX a x := lt_tri (by simpa using hlt) hne
        refine List.pairwise_cons.2 ⟨fun y hy => ?_, h⟩
        rcases List.mem_cons.1 hy with rfl | hy
        · exact ha
        · exact lt_trans' ha (h1 y hy)
theorem addX_len (a : Xattr) : ∀ l : List Xattr, (addX a l).length ≤ l.length + 1
  | [] => by simp [addX]
  | x :: r => by
    have := addX_len a r
    unfold addX
    split
    · simp; omega
    · split <;> simp
theorem addxs_c (l : Th (List Xattr)) (a : Th Xattr) (hl : (l .o).length ≤ 1000) {d : Nat} {K : ARes → BL → Prop} (hr : ∀ r : Th (List Xattr), r .o = addX (a .o) (l .o) → K (.ret (xattrs r)) .nil) : CallAt PT l13_add [xattrs l, Xattr.av a] d .nil K := by
  refine l13_add.of rfl rfl ?_
  cbv
  refine loop_rule (X := Nat) 1000 [0, 3] [3] (fun k => .cons 5 (.int .i64 fun _ => zi k) .nil) (fun _ => .nil) (fun k => k ≤ (l .o).length ∧ ∀ j, j < k → strLt ((l .o).getD j Xattr.z).name (a .o).name = true) (fun k => (l .o).length - k) 0 ?_ ⟨Nat.zero_le _, fun j hj => by omega⟩ ?_
  · cbv
    (repeat' (first | exact True.intro | exact Same.refl _ | exact SameB.refl _ | exact ⟨rfl⟩ | exact Same.int rfl | exact Same.str rfl | exact Same.bool rfl | (refine Same.int ?_; simp only [List.length_append, List.length_cons, List.length_nil, zi]; omega) | (refine SameB.row' rfl fun i hi => ?_; first | rfl | exact absurd hi (Nat.not_lt_zero _)) | refine And.intro ?_ ?_ | refine SameB.cells ?_ | exact SameC.nil | refine SameC.cons ?_ ?_ | exact Same.nsl rfl | exact Same.tt rfl | exact Same.ff rfl))
  · intro k hk
    obtain ⟨hk, hj⟩ := hk
    have fin : (k < (l .o).length → ¬ strLt ((l .o).getD k Xattr.z).name (a .o).name = true) → addX (a .o) (l .o) = (l .o).take k ++ (a .o) :: (if k < (l .o).length ∧ ((l .o).getD k Xattr.z).name = (a .o).name then (l .o).drop (k + 1) else (l .o).drop k) := addX_at _ _ k hk hj
    have hz := zi_toNat k
    cbv
    ((try refine br_rev ?_); (first | refine br_dec (fun h1 => ?_) (fun h1 => ?_) | refine br_ndec (fun h1 => ?_) (fun h1 => ?_) | refine br_nbool (fun h1 => ?_) (fun h1 => ?_) | refine br_bool (fun h1 => ?_) (fun h1 => ?_)); all_goals (try dsimp only at h1); all_goals (try with_reducible replace h1 := zi_lt.1 h1); all_goals (try with_reducible replace h1 := not_zlt h1)) <;> cbv
    focus (refine safe ⟨zi_nonneg _, zi_lt.2 (by omega)⟩ ?_; cbv; ((try refine br_rev ?_); (first | refine br_dec (fun h2 => ?_) (fun h2 => ?_) | refine br_ndec (fun h2 => ?_) (fun h2 => ?_) | refine br_nbool (fun h2 => ?_) (fun h2 => ?_) | refine br_bool (fun h2 => ?_) (fun h2 => ?_)); all_goals (try dsimp only at h2); all_goals (try with_reducible replace h2 := zi_lt.1 h2); all_goals (try with_reducible replace h2 := not_zlt h2)) <;> cbv)
    · rw [hz] at h2
      refine ⟨k + 1, ⟨h1, fun j hj' => ?_⟩, by omega, ?_⟩
      · by_cases he : j = k
        · subst he; exact h2
        · exact hj j (by omega)
      · cbv
        rw [zi_succ (by omega)]
        (repeat' (first | exact True.intro | exact Same.refl _ | exact SameB.refl _ | exact ⟨rfl⟩ | exact Same.int rfl | exact Same.str rfl | exact Same.bool rfl | (refine Same.int ?_; simp only [List.length_append, List.length_cons, List.length_nil, zi]; omega) | (refine SameB.row' rfl fun i hi => ?_; first | rfl | exact absurd hi (Nat.not_lt_zero _)) | refine And.intro ?_ ?_ | refine SameB.cells ?_ | exact SameC.nil | refine SameC.cons ?_ ?_ | exact Same.nsl rfl | exact Same.tt rfl | exact Same.ff rfl))
    focus (rw [hz] at h2; replace fin := fin fun _ => by rw [h2]; decide)
    rotate_left
    focus (replace fin := fin fun q => by omega)
    all_goals
      refine safe ⟨zi_nonneg _, zi_le.2 hk, Int.le_refl _⟩ ?_
      refine app_rows0 Xattr.ch Xattr.z ((l .o).drop k) rfl (by simp [zi]) (fun i hi => by simp only [getD_drop]; rfl) (by simp only [List.length_drop]; omega) ?_
      cbv
      ((try refine br_rev ?_); (first | refine br_dec (fun h3 => ?_) (fun h3 => ?_) | refine br_ndec (fun h3 => ?_) (fun h3 => ?_) | refine br_nbool (fun h3 => ?_) (fun h3 => ?_) | refine br_bool (fun h3 => ?_) (fun h3 => ?_)); all_goals (try dsimp only at h3); all_goals (try with_reducible replace h3 := zi_lt.1 h3); all_goals (try with_reducible replace h3 := not_zlt h3))
    all_goals cbv
    all_goals try (have h3' : 0 < ((l .o).drop k).length := zi_lt.1 h3; refine safe ⟨Int.le_refl _, h3⟩ ?_; refine safe h3' ?_; cbv; ((try refine br_rev ?_); (first | refine br_dec (fun h4 => ?_) (fun h4 => ?_) | refine br_ndec (fun h4 => ?_) (fun h4 => ?_) | refine br_nbool (fun h4 => ?_) (fun h4 => ?_) | refine br_bool (fun h4 => ?_) (fun h4 => ?_)); all_goals (try dsimp only at h4); all_goals (try with_reducible replace h4 := zi_lt.1 h4); all_goals (try with_reducible replace h4 := not_zlt h4)))
    all_goals cbv
    all_goals have htk : ((l .o).take k).length = k := by rw [List.length_take]; omega
    all_goals try refine safe ⟨by decide, zi_le.2 h3', Int.le_refl _⟩ ?_
    all_goals
      refine safe ⟨Int.le_refl _, zi_nonneg _, zi_le.2 hk⟩ ?_
      refine app_rows0 Xattr.ch Xattr.z ((l .o).take k) rfl (by rw [htk]; simp [zi]) (fun i hi => by rw [htk] at hi; simp only [getD_take _ _ _ _ hi]; exact congrArg (fun j => Xattr.ch fun _ => (l .o).getD j Xattr.z) (by simp)) (by rw [htk]; omega) ?_
      cbv
      refine app_one Xattr.ch Xattr.z _ (a .o) rfl (fun i hi => rfl) rfl rfl (by rw [htk]; omega) ?_
      cbv
    all_goals first
      | (refine app_rows Xattr.ch Xattr.z ((l .o).take k ++ [a .o]) ((l .o).drop k) rfl (fun i hi => rfl) rfl (fun i hi => rfl) (by rw [List.length_append, htk, List.length_drop]; simp only [List.length_cons, List.length_nil]; omega) ?_
         cbv
         exact hr (fun _ => (l .o).take k ++ [a .o] ++ (l .o).drop k) (by
           rw [fin, if_neg (by
             rintro ⟨q1, q2⟩
             first
             | exact h4 (by simpa [getD_drop] using q2)
             | exact h3 ((zi_lt (a := 0)).2 (by rw [List.length_drop]; omega)))]
           simp)
         done)
      | (refine app_rows Xattr.ch Xattr.z ((l .o).take k ++ [a .o]) ((l .o).drop (k + 1)) rfl (fun i hi => rfl) (by simp [zi]; omega) (fun i hi => by simp only [getD_drop]; exact congrArg (fun j => Xattr.ch fun _ => (l .o).getD j Xattr.z) (by simp [Nat.add_assoc])) (by simp only [List.length_append, htk, List.length_drop, List.length_cons, List.length_nil]; omega) ?_
         cbv
         exact hr (fun _ => (l .o).take k ++ [a .o] ++ (l .o).drop (k + 1)) (by
           rw [fin, if_pos ⟨by rw [List.length_drop] at h3'; omega, by simpa [getD_drop] using h4⟩]
           simp)
         done)
def byteCh (a : Th Int) : AV := .cons (.int .u8 a) .nil
theorem getD_all {α : Type} {p : α → Prop} {z : α} (hz : p z) : ∀ (l : List α) (n : Nat), (∀ x ∈ l, p x) → p (l.getD n z)
  | [], _, _ => by simpa using hz
  | x :: r, 0, h => by simpa using h x (by simp)
  | x :: r, n + 1, h => by simpa using getD_all hz r n fun y hy => h y (by simp [hy])
theorem bytesN_len (n : Nat) (g : Th Nat → AV) : (bytesN n g).length = n := by simp [bytesN]
/-- Of few bytes, none of which is nought. -/
def MadeX (x : Xattr) : Prop := x.name.length ≤ 11 ∧ x.name ≠ [] ∧ ¬ (0 : UInt8) ∈ x.name ∧ x.value.length ≤ 19
structure MadeXs (l : List Xattr) : Prop where
  made : ∀ x ∈ l, MadeX x
  up : l.Pairwise ltX
  len : l.length ≤ 6
theorem MadeXs.add {l : List Xattr} {x : Xattr} (h : MadeXs l) (hx : MadeX x) (hl : l.length < 6) : MadeXs (addX x l) :=
  ⟨fun y hy => by rcases addX_mem hy with rfl | hy; exact hx; exact h.made y hy, addX_up x l h.up, by have := addX_len x l; omega⟩
theorem MadeXs.nil : MadeXs [] := ⟨fun x hx => (by cases hx), List.Pairwise.nil, by decide⟩
theorem two_bytes {g : Th Nat → AV} (q : (0 : UInt8) ∈ bytesN 2 g) (a b : Int) (h0 : byteAt (g fun _ => 0) = a) (h1 : byteAt (g fun _ => 1) = b) (ha : 0 < a ∧ a < 256) (hb : 0 < b ∧ b < 256) : False := by
  have q : (0 : UInt8) ∈ [UInt8.ofNat (byteAt (g fun _ => 0)).toNat, UInt8.ofNat (byteAt (g fun _ => 1)).toNat] := q
  rw [h0, h1] at q
  have no : ∀ x : Int, 0 < x ∧ x < 256 → (0 : UInt8) ≠ UInt8.ofNat x.toNat := fun x hx e => by
    have e := congrArg UInt8.toNat e
    rw [UInt8.toNat_ofNat'] at e
    have e : 0 = x.toNat % 256 := e
    omega
  rcases List.mem_cons.1 q with q | q
  · exact no a ha q
  · rcases List.mem_cons.1 q with q | q
    · exact no b hb q
    · cases q
theorem byteA {x : Int} (hx : 0 ≤ x ∧ x < 256) : 0 < IntKind.u8.wrap (97 + (IntKind.u8.wrap (x.tdiv 5)).tmod 20) ∧ IntKind.u8.wrap (97 + (IntKind.u8.wrap (x.tdiv 5)).tmod 20) < 256 := by
  simp only [IntKind.wrap_u8]
  rw [Int.tdiv_eq_ediv_of_nonneg hx.1, Int.tmod_eq_emod_of_nonneg (by omega)]
  omega
theorem byteB {x : Int} (hx : 0 ≤ x ∧ x < 256) : 0 < IntKind.u8.wrap (1 + x.tmod 255) ∧ IntKind.u8.wrap (1 + x.tmod 255) < 256 := by
  simp only [IntKind.wrap_u8]
  rw [Int.tmod_eq_emod_of_nonneg hx.1]
  omega
def preX : List (Th (List UInt8)) := [fun _ => [117, 115, 101, 114, 46], fun _ => [116, 114, 117, 115, 116, 101, 100, 46], fun _ => [115, 101, 99, 117, 114, 105, 116, 121, 46], fun _ => [120, 61], fun _ => [255]]
def byteI' (x : Int) : UInt8 := UInt8.ofNat x.toNat
def nameX (a b : Int) : List UInt8 := (preX.getD (a.tmod 5).toNat fun _ => [117, 115, 101, 114, 46]) .o ++ [byteI' (IntKind.u8.wrap (97 + (IntKind.u8.wrap (a.tdiv 5)).tmod 20)), byteI' (IntKind.u8.wrap (1 + b.tmod 255))]
def valB (a : Int) (j : Nat) : Int := IntKind.u8.wrap (a * IntKind.u8.wrap (IntKind.i64.wrap (zi j + 1)))
def valX (a : Int) (n : Nat) : List UInt8 := (List.range n).map fun j => byteI' (valB a j)
def oneX (ns : List Int) (k : Nat) : Xattr := ⟨nameX (ns.getD (2 * k) 0) (ns.getD (2 * k + 1) 0), valX (ns.getD (2 * k) 0) ((IntKind.i64.wrap (ns.getD (2 * k + 1) 0)).tmod 20).toNat⟩
def accX (ns : List Int) : Nat → List Xattr
  | 0 => []
  | k + 1 => addX (oneX ns k) (accX ns k)
def goX (ns : List Int) (k : Nat) : Prop := 2 * k + 1 < ns.length ∧ (accX ns k).length < 6
/-- What is made of these numbers. -/
def Is13 (ns : List Int) (r : List Xattr) : Prop := ∃ k, r = accX ns k ∧ (∀ j, j < k → goX ns j) ∧ ¬ goX ns k
theorem l13e_c (ns : Th (List Int)) (hns : isBytes (ns .o)) (hs : short (ns .o)) {d : Nat} {K : ARes → BL → Prop} (hr : ∀ r : Th (List Xattr), MadeXs (r .o) → Is13 (ns .o) (r .o) → K (.ret (xattrs r)) .nil) : CallAt PT l13_Make [byteI ns] d .nil K := by
  refine l13_Make.of rfl rfl ?_
  (cbv; repeat (refine safe (by first | decide | (simp only [zi] at *; omega) | assumption | (dsimp only; omega) | (dsimp only at *; simp only [List.length_append, List.length_cons, List.length_nil, zi] at *; omega)) ?_; cbv))
  refine loop_rule (X := Nat × List Xattr) 1000 [0] [] (fun x => .cons 3 (xattrs fun _ => x.2) (.cons 4 (.int .i64 fun _ => zi (2 * x.1)) .nil)) (fun _ => .nil) (fun x => MadeXs x.2 ∧ 2 * x.1 ≤ (ns .o).length ∧ x.2 = accX (ns .o) x.1 ∧ ∀ j, j < x.1 → goX (ns .o) j) (fun x => (ns .o).length - 2 * x.1) (0, []) ?_ ⟨MadeXs.nil, by simp, rfl, fun j hj => (Nat.not_lt_zero _ hj).elim⟩ ?_
  · cbv
    (repeat' (first | exact True.intro | exact Same.refl _ | exact SameB.refl _ | exact ⟨rfl⟩ | exact Same.int rfl | exact Same.str rfl | exact Same.bool rfl | (refine Same.int ?_; simp only [List.length_append, List.length_cons, List.length_nil, zi]; omega) | (refine SameB.row' rfl fun i hi => ?_; first | rfl | exact absurd hi (Nat.not_lt_zero _)) | refine And.intro ?_ ?_ | refine SameB.cells ?_ | exact SameC.nil | refine SameC.cons ?_ ?_ | exact Same.nsl rfl | exact Same.tt rfl | exact Same.ff rfl))
    all_goals exact Same.nsl rfl
  · rintro ⟨k, l⟩ ⟨hk, hk2, hacc, hgo⟩
    dsimp only at hacc hgo
    unfold short at hs
    have hsucc : IntKind.i64.wrap (zi (2 * k) + 1) = zi (2 * k + 1) := zi_succ (by omega)
    cbv
    rw [hsucc]
    ((try refine br_rev ?_); (first | refine br_dec (fun h1 => ?_) (fun h1 => ?_) | refine br_ndec (fun h1 => ?_) (fun h1 => ?_) | refine br_nbool (fun h1 => ?_) (fun h1 => ?_) | refine br_bool (fun h1 => ?_) (fun h1 => ?_)); all_goals (try dsimp only at h1); all_goals (try with_reducible replace h1 := zi_lt.1 h1); all_goals (try with_reducible replace h1 := not_zlt h1)) <;> cbv
    all_goals try (((try refine br_rev ?_); (first | refine br_dec (fun h2 => ?_) (fun h2 => ?_) | refine br_ndec (fun h2 => ?_) (fun h2 => ?_) | refine br_nbool (fun h2 => ?_) (fun h2 => ?_) | refine br_bool (fun h2 => ?_) (fun h2 => ?_)); all_goals (try dsimp only at h2); all_goals (try with_reducible replace h2 := zi_lt.1 h2); all_goals (try with_reducible replace h2 := not_zlt h2)); replace h2 : l.length < 6 := h2; rotate_left; replace h2 : 6 ≤ l.length := h2; rotate_left)
    all_goals cbv
    rotate_left
    all_goals try exact hr (fun _ => l) hk ⟨k, hacc, hgo, fun q => by
      have q1 := q.1
      have q2 := q.2
      rw [← hacc] at q2
      first
      | exact absurd q2 (Nat.not_lt.2 h2)
      | exact h1 ((zi_lt (a := 2 * k + 1)).2 q1)
      | omega⟩
    have b1 := rest_of (byte_at hns (k := 2 * k + 1)) (m := 20) (by decide)
    refine safe ⟨zi_nonneg _, zi_lt.2 (by show 2 * k < _; omega)⟩ ?_
    refine safe (by decide) ?_
    refine safe ⟨Int.tmod_nonneg _ (byte_at hns).1, Int.tmod_lt_of_pos _ (by decide)⟩ ?_
    refine safe (by
      have h0 : 0 ≤ ((ns .o).getD (zi (2 * k)).toNat 0).tmod 5 := Int.tmod_nonneg _ (byte_at hns).1
      have h5 : ((ns .o).getD (zi (2 * k)).toNat 0).tmod 5 < 5 := Int.tmod_lt_of_pos _ (by decide)
      show (((ns .o).getD (zi (2 * k)).toNat 0).tmod 5).toNat < 5
      omega) ?_
    refine safe ⟨zi_nonneg _, zi_lt.2 (by show 2 * k < _; omega)⟩ ?_
    refine safe (by decide) ?_
    refine safe (by decide) ?_
    refine safe (by show 0 ≤ IntKind.i64.wrap (zi (2 * k) + 1) ∧ IntKind.i64.wrap (zi (2 * k) + 1) < _; rw [hsucc]; exact ⟨zi_nonneg _, zi_lt.2 h1⟩) ?_
    refine safe (by decide) ?_
    refine safe (fun i hi => ⟨_, rfl⟩) ?_
    refine safe (by
      dsimp only
      rw [bytesN_len]
      refine Nat.le_trans (Nat.add_le_add_right (getD_all (p := fun t : Th (List UInt8) => (t .o).length ≤ 9) (by decide) _ _ (by simp)) 2) (by decide)) ?_
    refine safe (by show 0 ≤ IntKind.i64.wrap (zi (2 * k) + 1) ∧ IntKind.i64.wrap (zi (2 * k) + 1) < _; rw [hsucc]; exact ⟨zi_nonneg _, zi_lt.2 h1⟩) ?_
    refine safe (by decide) ?_
    dsimp only
    rw [hsucc, zi_toNat]
    generalize hv : (IntKind.i64.wrap ((ns .o).getD (2 * k + 1) 0)).tmod 20 = v at b1
    refine safe ⟨b1.1, Int.le_refl _, by show 1 * v ≤ _; omega, by omega⟩ ?_
    refine loop_at (X := Nat × List Int) 1000 [0, 3, 4, 5, 6] [] (fun _ x => .cons 7 (.int .i64 fun _ => zi x.1) .nil) (fun _ x => .cons 52 (rowB 1 byteCh 0 fun _ => x.2) .nil) (fun x => x.1 ≤ v.toNat ∧ x.2.length = v.toNat ∧ ∀ j', j' < x.1 → x.2.getD j' 0 = valB ((ns .o).getD (2 * k) 0) j') (fun x => v.toNat - x.1) (0, List.replicate v.toNat 0) ?_ ⟨by simp, by simp, fun j' hj' => (Nat.not_lt_zero _ hj').elim⟩ ?_
    · cbv
      (repeat' (first | exact True.intro | exact Same.refl _ | exact SameB.refl _ | exact ⟨rfl⟩ | exact Same.int rfl | exact Same.str rfl | exact Same.bool rfl | (refine Same.int ?_; simp only [List.length_append, List.length_cons, List.length_nil, zi]; omega) | (refine SameB.row' rfl fun i hi => ?_; first | rfl | exact absurd hi (Nat.not_lt_zero _)) | refine And.intro ?_ ?_ | refine SameB.cells ?_ | exact SameC.nil | refine SameC.cons ?_ ?_ | exact Same.nsl rfl | exact Same.tt rfl | exact Same.ff rfl))
      all_goals
        refine SameB.row' (by simp) fun i hi => ?_
        show byteCh (fun _ => 0) = byteCh fun _ => (List.replicate v.toNat 0).getD i 0
        congr 1
        funext _
        rw [List.getD_eq_getElem?_getD, List.getElem?_replicate]
        split <;> rfl
    · rintro ⟨j, bs⟩ ⟨hj, hbs, hval⟩
      dsimp only at hj hbs hval
      cbv
      ((try refine br_rev ?_); (first | refine br_dec (fun h3 => ?_) (fun h3 => ?_) | refine br_ndec (fun h3 => ?_) (fun h3 => ?_) | refine br_nbool (fun h3 => ?_) (fun h3 => ?_) | refine br_bool (fun h3 => ?_) (fun h3 => ?_)); all_goals (try dsimp only at h3); all_goals (try with_reducible replace h3 := zi_lt.1 h3); all_goals (try with_reducible replace h3 := not_zlt h3)) <;> cbv
      · refine safe ⟨zi_nonneg _, zi_lt.2 (by omega)⟩ ?_
        refine safe ⟨zi_nonneg _, zi_lt.2 h3⟩ ?_
        refine put_rows byteCh 0 bs (IntKind.u8.wrap ((ns .o).getD (zi (2 * k)).toNat 0 * IntKind.u8.wrap (IntKind.i64.wrap (zi j + 1)))) rfl (fun i hi => rfl) (by show (zi j).toNat < _; rw [zi_toNat]; exact h3) rfl ?_
        cbv
        refine ⟨(j + 1, bs.set (zi j).toNat (IntKind.u8.wrap ((ns .o).getD (zi (2 * k)).toNat 0 * IntKind.u8.wrap (IntKind.i64.wrap (zi j + 1))))), ⟨by show j + 1 ≤ _; omega, by rw [List.length_set]; exact hbs, fun j' hj' => by
          have hj' : j' < j + 1 := hj'
          show (bs.set (zi j).toNat _).getD j' 0 = _
          rw [zi_toNat, zi_toNat]
          by_cases e : j' = j
          · subst e
            rw [List.getD_eq_getElem?_getD, List.getElem?_set_self (by omega)]; rfl
          · rw [List.getD_eq_getElem?_getD, List.getElem?_set_ne (Ne.symm e), ← List.getD_eq_getElem?_getD]
            exact hval j' (by omega)⟩, by show _ - (j + 1) < _ - j; omega, ?_⟩
        have hsj : IntKind.i64.wrap (zi j + 1) = zi (j + 1) := zi_succ (by omega)
        cbv
        (repeat' (first | exact True.intro | exact Same.refl _ | exact SameB.refl _ | exact ⟨rfl⟩ | exact Same.int rfl | exact Same.str rfl | exact Same.bool rfl | (refine Same.int ?_; simp only [List.length_append, List.length_cons, List.length_nil, zi]; omega) | (refine SameB.row' rfl fun i hi => ?_; first | rfl | exact absurd hi (Nat.not_lt_zero _)) | refine And.intro ?_ ?_ | refine SameB.cells ?_ | exact SameC.nil | refine SameC.cons ?_ ?_ | exact Same.nsl rfl | exact Same.tt rfl | exact Same.ff rfl))
        · exact Same.int hsj
        · exact SameB.row' (by show bs.length = (bs.set _ _).length; rw [List.length_set]) fun i hi => rfl
      · refine safe (fun i hi => ⟨_, rfl⟩) ?_
        refine addxs_c (fun _ => l) (fun _ => ⟨_, _⟩) (by show l.length ≤ 1000; omega) fun r hr' => ?_
        replace hr' : r .o = addX ⟨_, _⟩ l := hr'
        have hmade : MadeXs (r .o) := by
          rw [hr']
          refine hk.add ⟨?_, ?_, ?_, ?_⟩ h2
          · show (_ ++ bytesN 2 _).length ≤ 11
            rw [List.length_append, bytesN_len]
            exact Nat.le_trans (Nat.add_le_add_right (getD_all (p := fun t : Th (List UInt8) => (t .o).length ≤ 9) (by decide) _ _ (by simp)) 2) (by decide)
          · intro e
            have e := congrArg List.length e
            revert e
            show (_ ++ bytesN 2 _).length = 0 → False
            rw [List.length_append, bytesN_len]
            omega
          · show ¬ (0 : UInt8) ∈ _ ++ bytesN 2 _
            rw [List.mem_append]
            rintro (q | q)
            · exact getD_all (p := fun t : Th (List UInt8) => ¬ (0 : UInt8) ∈ t .o) (by decide) _ _ (by simp) q
            · exact two_bytes q _ _ rfl rfl (byteA (byte_at hns)) (byteB (byte_at hns))
          · show (List.map _ (List.range bs.length)).length ≤ 19
            rw [List.length_map, List.length_range]
            omega
        have hacc' : r .o = accX (ns .o) (k + 1) := by
          rw [hr']
          show addX _ l = addX (oneX (ns .o) k) (accX (ns .o) k)
          rw [← hacc]
          congr 1
          unfold oneX
          congr 1
          · rw [zi_toNat]
            unfold nameX preX
            refine congr (congrArg _ ?_) ?_
            · refine congrArg (fun t : Th (List UInt8) => t .o) (congrArg (fun n => List.getD _ n _) ?_)
              generalize ns .o = L
              generalize k = q
              cases q <;> cases L <;> rfl
            · rfl
          · show (List.range bs.length).map _ = valX _ _
            rw [hv, hbs]
            unfold valX
            refine List.map_congr_left fun i hi => ?_
            rw [← hval i (by have := List.mem_range.1 hi; omega)]; rfl
        have hgo' : ∀ j, j < k + 1 → goX (ns .o) j := fun j' hj' => by
          by_cases e : j' = k
          · subst e; exact ⟨h1, by rw [← hacc]; exact h2⟩
          · exact hgo j' (by omega)
        cbv
        refine ⟨(k + 1, r .o), ⟨hmade, by show 2 * (k + 1) ≤ _; omega, hacc', hgo'⟩, by show _ - 2 * (k + 1) < _ - 2 * k; omega, ?_⟩
        cbv
        (repeat' (first | exact True.intro | exact Same.refl _ | exact SameB.refl _ | exact ⟨rfl⟩ | exact Same.int rfl | exact Same.str rfl | exact Same.bool rfl | (refine Same.int ?_; simp only [List.length_append, List.length_cons, List.length_nil, zi]; omega) | (refine SameB.row' rfl fun i hi => ?_; first | rfl | exact absurd hi (Nat.not_lt_zero _)) | refine And.intro ?_ ?_ | refine SameB.cells ?_ | exact SameC.nil | refine SameC.cons ?_ ?_ | exact Same.nsl rfl | exact Same.tt rfl | exact Same.ff rfl))
        exact Same.int (by show IntKind.i64.wrap (zi (2 * k) + 2) = zi (2 * (k + 1)); rw [IntKind.wrap_i64]; unfold zi; omega)
end Go.Proofs.Ytjjddmbnfkmfdaa
/- The pieces of a text between bytes: plain. -/
namespace Go.Proofs.Ytjjddmbnfkmfdaa
open Go Go.Proofs.Ytjjddmbnfkmfdaa.Sx
set_option linter.unusedVariables false
set_option linter.unusedSimpArgs false
end Go.Proofs.Ytjjddmbnfkmfdaa
/- A builder's methods: the kit's contracts at this program, laid by hand (its tool passes them by). -/
namespace Go.Proofs
open Go.Shelf
def Try.bld_ren : Go.Shelf.Ren := ⟨fun | 167 => 48 | 240 => 60 | 276 => 68 | 169 => 50 | n => n, fun | 0 => 0 | 3 => 3 | 4 => 4 | 5 => 5 | 9 => 9 | 20 => 20 | 37 => 39 | 70 => 72 | 72 => 74 | 127 => 89 | 164 => 94 | 75 => 77 | 80 => 65 | n => n, fun | n => n⟩
theorem Try.bl240 : Go.Proofs.Lays.n240 Try.prog Try.bld_ren := {
  mixed := by kernel_rfl
  f240 := Try.func60.trans (congrArg some (by kernel_rfl))
  f276 := Try.func68.trans (congrArg some (by kernel_rfl))
  t0 := Try.underlying0
  a0 := Try.isAgg0
  z0 := Try.sizeOf0
  v0 := Try.zeroValue0
  t4 := Try.underlying4
  a4 := Try.isAgg4
  z4 := Try.sizeOf4
  v4 := Try.zeroValue4
  t9 := Try.underlying9
  a9 := Try.isAgg9
  z9 := Try.sizeOf9
  v9 := Try.zeroValue9
  t20 := Try.underlying20
  a20 := Try.isAgg20
  z20 := Try.sizeOf20
  v20 := Try.zeroValue20
  t70 := Try.underlying72
  a70 := Try.isAgg72
  z70 := Try.sizeOf72
  v70 := Try.zeroValue72
  t72 := Try.underlying74
  a72 := Try.isAgg74
  z72 := Try.sizeOf74
  v72 := Try.zeroValue74
  t164 := Try.underlying94
  a164 := Try.isAgg94
  z164 := Try.sizeOf94
  v164 := Try.zeroValue94 }
theorem Try.bl169 : Go.Proofs.Lays.n169 Try.prog Try.bld_ren := {
  mixed := by kernel_rfl
  f169 := Try.func50.trans (congrArg some (by kernel_rfl))
  t0 := Try.underlying0
  a0 := Try.isAgg0
  z0 := Try.sizeOf0
  v0 := Try.zeroValue0
  t3 := Try.underlying3
  a3 := Try.isAgg3
  z3 := Try.sizeOf3
  v3 := Try.zeroValue3
  t9 := Try.underlying9
  a9 := Try.isAgg9
  z9 := Try.sizeOf9
  v9 := Try.zeroValue9
  t37 := Try.underlying39
  a37 := Try.isAgg39
  z37 := Try.sizeOf39
  v37 := Try.zeroValue39
  t70 := Try.underlying72
  a70 := Try.isAgg72
  z70 := Try.sizeOf72
  v70 := Try.zeroValue72
  t72 := Try.underlying74
  a72 := Try.isAgg74
  z72 := Try.sizeOf74
  v72 := Try.zeroValue74
  t127 := Try.underlying89
  a127 := Try.isAgg89
  z127 := Try.sizeOf89
  v127 := Try.zeroValue89 }
theorem Try.bldX : Builder.Extra Try.prog Try.bld_ren := {
  sizeBuilder := by kernel_rfl
  liesBuilder := by kernel_rfl
  t5 := Try.underlying5
  a5 := Try.isAgg5
  z5 := Try.sizeOf5
  v5 := Try.zeroValue5
  infoByte := by kernel_rfl
  cellsByte := by kernel_rfl
  sizeByte := by kernel_rfl
  neB5 := by decide }
end Go.Proofs
/- A builder whose buffer lies above all that a call has made ahead of it: its methods, with all else kept. -/
namespace Go.Proofs.Ytjjddmbnfkmfdaa
open Go Go.RowKit Go.Shelf
set_option linter.unusedVariables false
set_option linter.unusedSimpArgs false
/-- A builder in block b holds the bytes bs; its buffer lies from R on. -/
structure BX (R b : Nat) (bs : List Value) (w : World) : Prop where
  lt : b < R
  le : R ≤ w.heap.size
  ex : ∃ p v, (p = .pointer none ∨ p = .pointer (some ⟨b, 0, none⟩)) ∧ w.heap[b]? = some (.cells #[p, v] 74 (0, 0)) ∧ w.ownsRow R 5 1 v bs.length bs
/-- All below R but block b is as it was. -/
structure FX (R b : Nat) (w w' : World) : Prop where
  os : w'.os = w.os
  tape : w'.tape = w.tape
  output : w'.output = w.output
  size : w.heap.size ≤ w'.heap.size
  block : ∀ k, k < R → k ≠ b → w'.heap[k]? = w.heap[k]?
theorem FX.refl (R b : Nat) (w : World) : FX R b w w := ⟨rfl, rfl, rfl, Nat.le_refl _, fun _ _ _ => rfl⟩
theorem FX.trans {R b : Nat} {u v w : World} (h : FX R b u v) (k : FX R b v w) : FX R b u w :=
  ⟨k.os.trans h.os, k.tape.trans h.tape, k.output.trans h.output, Nat.le_trans h.size k.size, fun i hi hb => (k.block i hi hb).trans (h.block i hi hb)⟩
theorem FX.below {R b : Nat} {w w' : World} (h : FX R b w w') (hR : b ≤ R) : Below b w w' := ⟨h.os, h.tape, h.output, h.size, fun k hk => h.block k (by omega) (by omega)⟩
theorem FX.cell {R b : Nat} {w w' : World} (h : FX R b w w') {k : Nat} (hk : k < R) (hb : k ≠ b) (o : Nat) : w'.cell? ⟨k, o, none⟩ = w.cell? ⟨k, o, none⟩ := World.cell?_of_block (w := w) (h.block k hk hb)
theorem FX.setCell {R b : Nat} {u w : World} (h : FX R b u w) (o : Nat) (v : Value) : FX R b u (w.setCell ⟨b, o, none⟩ v) :=
  ⟨h.os, h.tape, h.output, by simpa [World.setCell] using h.size, fun k hk hb => (Below.heap_setCell w ⟨b, o, none⟩ v k hb).trans (h.block k hk hb)⟩
theorem FX.alloc {R b : Nat} {u w : World} (h : FX R b u w) (hR : R ≤ w.heap.size) (o : Obj) : FX R b u (w.alloc o) :=
  ⟨h.os, h.tape, h.output, Nat.le_trans h.size (by simp), fun k hk hb => (Below.heap_alloc w o k (by omega)).trans (h.block k hk hb)⟩
theorem FX.grown {R b : Nat} {u w w' : World} {row : Option Nat} (h : FX R b u w) (hg : w.grownBy w' row) (hR : R ≤ w.heap.size) (hr : ∀ k, row = some k → R ≤ k) : FX R b u w' :=
  ⟨hg.os.trans h.os, hg.tape.trans h.tape, hg.output.trans h.output, Nat.le_trans h.size hg.size, fun k hk hb => (hg.block k (by omega) (fun e => by have := hr k e.symm; omega)).trans (h.block k hk hb)⟩
theorem owns_of {R : Nat} {e : TypeId} {v : Value} {n : Nat} {xs : List Value} {w w' : World} (h : w.ownsRow R e 1 v n xs) (hk : ∀ k, R ≤ k → k < w.heap.size → w'.heap[k]? = w.heap[k]?) : w'.ownsRow R e 1 v n xs := by
  refine ⟨h.1, ?_⟩
  rcases h.2 with hn | ⟨g, cap, cur, hv, hb, hg, rest⟩
  · exact .inl hn
  · exact .inr ⟨g, cap, cur, hv, hb, by rw [hk g hb (Array.getElem?_eq_some_iff.1 hg).1]; exact hg, rest⟩
theorem owns_setCell {R b : Nat} {e : TypeId} {v : Value} {n : Nat} {xs : List Value} {w : World} (h : w.ownsRow R e 1 v n xs) (hb : b < R) (o : Nat) (u : Value) : (w.setCell ⟨b, o, none⟩ u).ownsRow R e 1 v n xs :=
  owns_of h fun k hk _ => Below.heap_setCell w ⟨b, o, none⟩ u k (by show k ≠ b; omega)
theorem owns_lt {R : Nat} {e : TypeId} {v : Value} {n : Nat} {xs : List Value} {w : World} (h : w.ownsRow R e 1 v n xs) : ∀ k, v.ownBlock = some k → R ≤ k := by
  intro k hk
  rcases h.2 with ⟨rfl, _⟩ | ⟨g, cap, cur, rfl, hb, _⟩
  · simp [Value.ownBlock] at hk
  · simp [Value.ownBlock] at hk; omega
theorem heap_set2 {w : World} {b : Nat} {p v : Value} {T : TypeId} (h : w.heap[b]? = some (.cells #[p, v] T (0, 0))) (q : Value) : (w.setCell ⟨b, 0, none⟩ q).heap[b]? = some (.cells #[q, v] T (0, 0)) ∧ (w.setCell ⟨b, 1, none⟩ q).heap[b]? = some (.cells #[p, q] T (0, 0)) := by
  constructor <;> simp [World.setCell, Array.getElem?_modify, h]
theorem BX.is {R b : Nat} {bs : List Value} {w : World} (h : BX R b bs w) : Lib.IsBuilder 74 5 b b bs w := by
  obtain ⟨p, v, hp, hb, hown⟩ := h.ex
  have hlt := h.lt
  have hne : v.ownBlock ≠ some b := fun e => by have := owns_lt hown b e; omega
  have ho : w.ownsRow b 5 1 v bs.length bs := by
    refine ⟨hown.1, ?_⟩
    rcases hown.2 with hn | ⟨g, cap, cur, hv, hg, rest⟩
    · exact .inl hn
    · exact .inr ⟨g, cap, cur, hv, by omega, rest⟩
  rcases hp with rfl | rfl
  · exact .inl ⟨Nat.le_refl _, v, hb, ho, hne⟩
  · exact .inr ⟨Nat.le_refl _, v, hb, ho, hne⟩
theorem BX.drew {R b : Nat} {bs : List Value} {w : World} (h : BX R b bs w) : BX R b bs w.drew := ⟨h.lt, h.le, h.ex⟩
theorem BX.alloc {R b : Nat} {bs : List Value} {w : World} (h : BX R b bs w) (o : Obj) : BX R b bs (w.alloc o) := by
  obtain ⟨p, v, hp, hb, hown⟩ := h.ex
  have h1 := h.lt
  have h2 := h.le
  exact ⟨h1, Nat.le_trans h2 (by simp), p, v, hp, by rw [Lib.alloc_old w _ b (by omega)]; exact hb, owns_of hown fun k _ hk => Lib.alloc_old w _ k hk⟩
theorem FX.drew {R b : Nat} {u w : World} (h : FX R b u w) : FX R b u w.drew := ⟨h.os, h.tape, h.output, h.size, h.block⟩
theorem bcheck_m (R b : Nat) (bs : List Value) (w : World) (h : BX R b bs w) : Calls Try.prog 60 #[.pointer (some ⟨b, 0, none⟩)] w fun e w' => e = .returned (.tuple #[]) ∧ BX R b bs w' ∧ FX R b w w' ∧ ∀ k, k ≠ b → w'.heap[k]? = w.heap[k]? := by
  have h' := h
  obtain ⟨p, v, hp, hb, hown⟩ := h.ex
  rcases hp with rfl | rfl
  · refine (Any.Builder_copyCheck_fresh Try.bl240 Try.bldX.toX72 b w (by rw [Lib.cell_of_heap hb]; rfl) (by simp [World.shape?, hb]; rfl) (by simp [World.frozen?, hb])).mono ?_
    rintro e w' ⟨rfl, rfl⟩
    exact ⟨rfl, ⟨h.lt, by simpa [World.setCell] using h.le, _, v, .inr rfl, (heap_set2 hb _).1, owns_setCell hown h.lt 0 _⟩, (FX.refl R b w).setCell 0 _, fun k hk => Below.heap_setCell w ⟨b, 0, none⟩ _ k hk⟩
  · refine (Any.Builder_copyCheck_used Try.bl240 Try.bldX.toX72 b w (by rw [Lib.cell_of_heap hb]; rfl)).mono ?_
    rintro e w' ⟨rfl, rfl⟩
    exact ⟨rfl, h', .refl R b _, fun _ _ => rfl⟩
set_option maxHeartbeats 2000000 in
set_option maxRecDepth 100000 in
/-- WriteByte. -/
theorem bbyte_m (R b : Nat) (bs : List Value) (c : Int) (w : World) (h : BX R b bs w) (hlen : bs.length + 1 ≤ 140737488355328) : Calls Try.prog 48 #[.pointer (some ⟨b, 0, none⟩), .int .u8 c] w fun e w' => e = .returned .nilIface ∧ BX R b (bs ++ [.int .u8 c]) w' ∧ FX R b w w' := by
  have X := Try.bldX
  obtain ⟨i0, hi, hz0, hz1, hz2⟩ := info_parts X.infoByte
  go_enter Try.func48, Try.ntmps48
  go_wp2_with fail
  go_at_call 60
  refine (bcheck_m R b bs _ h).mono ?_
  rintro e w1 ⟨rfl, h1, hb1, hot⟩
  obtain ⟨p, v, hp, hbk, hown⟩ := h1.ex
  have c1 : w1.cell? ⟨b, 1, none⟩ = some v := by rw [Lib.cell_of_heap hbk]; rfl
  have hle := h1.le
  have hlt := h1.lt
  go_wp2_with (at_builtin; refine wpList_append_own _ rfl _ _ 39 rfl R 5 i0 (.int .u8 0) 1 1 Try.underlying39 hi hz0 hz1 hz2 rfl (by decide) _ _ _ rfl (hown.alloc _) ⟨w1.heap.size, 0, none⟩ 1 1 [.int .u8 c] rfl rfl ?c1 ?c2 ?c3 ?c4 ?c5 ?_)
  case c1 =>
    intro j u hj
    match j, hj with
    | 0, hj => simp at hj; subst hj; simp [Addr.add]
  case c2 => intro u hu; simp at hu; subst hu; rfl
  case c3 => unfold maxLen; omega
  case c4 => omega
  case c5 => simp; omega
  intro v' w2 hown' hgrow _
  have hb2 : w2.heap[b]? = some (.cells #[p, v] 74 (0, 0)) := by
    rw [hgrow.block b (by simp; omega) (fun e => by have := owns_lt hown b e.symm; omega), Lib.alloc_old w1 _ b (by omega)]
    exact hbk
  have d1 : w2.cell? ⟨b, 1, none⟩ = some v := by rw [Lib.cell_of_heap hb2]; rfl
  have f1 : w2.frozen? ⟨b, 1, none⟩ = false := Lib.frozen_of_heap hb2 1
  have hs2 : R ≤ w2.heap.size := Nat.le_trans (by simp; omega) hgrow.size
  obtain ⟨g, cap, rfl⟩ : ∃ g cap, v' = .slice (some ⟨g, 0, none⟩) (bs.length + 1) cap := by
    rcases hown'.2 with ⟨_, h0⟩ | ⟨g, cap, cur, hv, _⟩
    · omega
    · exact ⟨g, cap, hv⟩
  go_wp2
  go_ret
  refine ⟨rfl, ⟨hlt, by simpa [World.setCell] using hs2, p, _, hp, (heap_set2 hb2 _).2, ?_⟩, (FX.grown (hb1.alloc hle _) hgrow (by simp; omega) (fun k hk => owns_lt hown k hk)).setCell 1 _⟩
  exact owns_setCell (by simpa using hown') hlt 1 _
set_option maxHeartbeats 2000000 in
set_option maxRecDepth 100000 in
/-- Write. -/
theorem bwrite_m (R b : Nat) (bs : List Value) (ad : Addr) (m cap0 : Nat) (news : List Value) (w : World) (h : BX R b bs w) (hlen : bs.length + m ≤ 140737488355328) (hm : 0 < m) (hl : news.length = m) (hnews : ∀ j u, news[j]? = some u → w.cell? (ad.add j) = some u) (h1c : ∀ u ∈ news, u.oneCell' = true) (had : ad.block ≠ b) : Calls Try.prog 49 #[.pointer (some ⟨b, 0, none⟩), .slice (some ad) m cap0] w fun e w' => e = .returned (.tuple #[.int .i64 m, .nilIface]) ∧ BX R b (bs ++ news) w' ∧ FX R b w w' := by
  have X := Try.bldX
  obtain ⟨i0, hi, hz0, hz1, hz2⟩ := info_parts X.infoByte
  go_enter Try.func49, Try.ntmps49
  go_wp2_with fail
  go_at_call 60
  refine (bcheck_m R b bs _ h).mono ?_
  rintro e w1 ⟨rfl, h1, hb1, hot⟩
  obtain ⟨p, v, hp, hbk, hown⟩ := h1.ex
  have c1 : w1.cell? ⟨b, 1, none⟩ = some v := by rw [Lib.cell_of_heap hbk]; rfl
  have hle := h1.le
  have hlt := h1.lt
  have hadd : ∀ j, (ad.add j).block = ad.block := fun j => by unfold Addr.add; split <;> rfl
  go_wp2_with (at_builtin; refine wpList_append_own _ rfl _ _ 39 rfl R 5 i0 (.int .u8 0) 1 1 Try.underlying39 hi hz0 hz1 hz2 rfl (by decide) _ _ _ rfl hown ad m cap0 news rfl (by rw [hl, Nat.mul_one]) ?c1 h1c ?c3 ?c4 ?c5 ?_)
  case c1 =>
    intro j u hj
    rw [World.cell?_of_block (w := w) (hot _ (by rw [hadd]; exact had))]
    exact hnews j u hj
  case c3 => unfold maxLen; omega
  case c4 => omega
  case c5 => exact hle
  intro v' w2 hown' hgrow _
  have hb2 : w2.heap[b]? = some (.cells #[p, v] 74 (0, 0)) := by
    rw [hgrow.block b (by omega) (fun e => by have := owns_lt hown b e.symm; omega)]
    exact hbk
  have d1 : w2.cell? ⟨b, 1, none⟩ = some v := by rw [Lib.cell_of_heap hb2]; rfl
  have f1 : w2.frozen? ⟨b, 1, none⟩ = false := Lib.frozen_of_heap hb2 1
  have hs2 : R ≤ w2.heap.size := Nat.le_trans hle hgrow.size
  obtain ⟨g, cap, rfl⟩ : ∃ g cap, v' = .slice (some ⟨g, 0, none⟩) (bs.length + m) cap := by
    rcases hown'.2 with ⟨_, h0⟩ | ⟨g, cap, cur, hv, _⟩
    · omega
    · exact ⟨g, cap, hv⟩
  go_wp2
  go_ret2
  refine ⟨rfl, ⟨hlt, by simpa [World.setCell] using hs2, p, _, hp, (heap_set2 hb2 _).2, ?_⟩, (FX.grown hb1 hgrow hle (fun k hk => owns_lt hown k hk)).setCell 1 _⟩
  exact owns_setCell (by simpa [hl] using hown') hlt 1 _
set_option maxHeartbeats 1000000 in
/-- Write of three bytes just laid. -/
theorem bwrite3_m (R b : Nat) (bs : List Value) (x y z : Int) (w1 : World) (h : BX R b bs w1) (hlen : bs.length + 3 ≤ 140737488355328) : Calls Try.prog 49 #[.pointer (some ⟨b, 0, none⟩), .slice (some ⟨w1.heap.size, 0, none⟩) 3 3] (w1.alloc (.cells #[.int .u8 x, .int .u8 y, .int .u8 z] 5)).drew fun e w' => (∃ v, e = .returned v) ∧ BX R b (bs ++ [.int .u8 x, .int .u8 y, .int .u8 z]) w' ∧ FX R b w1 w' := by
  have h1 := h.lt
  have h2 := h.le
  refine (bwrite_m R b bs ⟨w1.heap.size, 0, none⟩ 3 3 [.int .u8 x, .int .u8 y, .int .u8 z] _ (h.alloc _).drew hlen (by decide) rfl ?_ ?_ (by show w1.heap.size ≠ b; omega)).mono ?_
  · intro j u hj
    match j, hj with
    | 0, hj | 1, hj | 2, hj => simp at hj; subst hj; simp [Addr.add]
  · intro u hu
    simp at hu
    rcases hu with rfl | rfl | rfl <;> rfl
  · rintro e w' ⟨rfl, h3, h4⟩
    exact ⟨⟨_, rfl⟩, h3, (((FX.refl R b w1).alloc h2 _).drew).trans h4⟩
end Go.Proofs.Ytjjddmbnfkmfdaa
/- escape.Put, at the machine's level, by the kit's walk; then as a contract. -/
namespace Go.Proofs.Ytjjddmbnfkmfdaa
open Go Go.RowKit Go.Shelf
set_option linter.unusedVariables false
set_option linter.unusedSimpArgs false
def plainB (c : Int) : Bool := decide (33 ≤ c) && decide (c ≤ 126) && !decide (c = 37) && !decide (c = 61)
theorem plain_m (c : Int) (w : World) : Calls Try.prog 47 #[.int .u8 c] w fun e w' => e = .returned (.bool (plainB c)) ∧ w' = w := by
  go_enter Try.func47, Try.ntmps47
  go_wp2
  all_goals go_ret
  all_goals refine ⟨?_, rfl⟩
  all_goals (congr 2; simp only [plainB])
  · rename_i h1 h2 h3; subst h3; rfl
  · rename_i h1 h2 h3
    rw [decide_eq_true h1, decide_eq_true h2, decide_eq_false h3]
    show Value.bool (c != 37 && c != 61) = _
    rw [show (c != 37) = true by simpa using h3]
    rfl
  · rename_i h1 h2; rw [decide_eq_true h1, decide_eq_false (by omega : ¬ c ≤ 126)]; rfl
  · rename_i h1; rw [decide_eq_false (by omega : ¬ 33 ≤ c)]; rfl
/-- A byte, escaped. -/
def hexB (n : UInt8) : UInt8 := ([48, 49, 50, 51, 52, 53, 54, 55, 56, 57, 65, 66, 67, 68, 69, 70] : List UInt8).getD n.toNat 0
def escB (c : UInt8) : List UInt8 := if plainB c.toNat then [c] else [37, hexB (c / 16), hexB (c % 16)]
def escS (s : List UInt8) : List UInt8 := s.flatMap escB
theorem escS_take (l : List UInt8) (k : Nat) (h : k < l.length) : escS (l.take (k + 1)) = escS (l.take k) ++ escB (l[k]) := by
  unfold escS
  rw [List.take_succ_eq_append_getElem h, List.flatMap_append]
  simp
theorem escB_len (c : UInt8) : (escB c).length ≤ 3 := by unfold escB; split <;> simp
theorem escS_len : ∀ l : List UInt8, (escS l).length ≤ 3 * l.length
  | [] => Nat.le_refl _
  | c :: r => by
    have h1 := escS_len r
    have h2 := escB_len c
    simp only [escS, List.flatMap_cons, List.length_append, List.length_cons] at h1 ⊢
    omega
theorem band15_fin : ∀ n : Fin 256, bits BinOp.and IntKind.u8 (n.1 : Int) 15 = (n.1 : Int) % 16 := by decide +kernel
theorem band15 (c : UInt8) : bits BinOp.and IntKind.u8 (c.toNat : Int) 15 = (c.toNat : Int) % 16 := band15_fin ⟨c.toNat, c.toNat_lt⟩
theorem hexB_fin : ∀ n : Fin 16, (⟨#[48, 49, 50, 51, 52, 53, 54, 55, 56, 57, 65, 66, 67, 68, 69, 70]⟩ : ByteArray)[n.1]'(Nat.lt_of_lt_of_le n.2 (by decide)) = hexB (UInt8.ofNat n.1) := by decide
theorem hexB_at (n : Nat) (h : n < (⟨#[48, 49, 50, 51, 52, 53, 54, 55, 56, 57, 65, 66, 67, 68, 69, 70]⟩ : ByteArray).size) : (⟨#[48, 49, 50, 51, 52, 53, 54, 55, 56, 57, 65, 66, 67, 68, 69, 70]⟩ : ByteArray)[n] = hexB (UInt8.ofNat n) := hexB_fin ⟨n, h⟩
set_option maxHeartbeats 2000000 in
set_option maxRecDepth 100000 in
theorem esc_m (s : ByteArray) (w : World) (hs : s.size ≤ 1099511627776) : Calls Try.prog 34 #[.string s] w fun e w' => e = .returned (.string ⟨(escS s.data.toList).toArray⟩) ∧ Below w.heap.size w w' := by
  go_enter Try.func34, Try.ntmps34
  go_wp2
  rw [Lib.run_convert_string_bytes _ _ _ 5 s Try.underlying9 Try.underlying39 Try.underlying5]
  simp only [Result.andThen]
  rw [Oper.upon_value]
  go_wp2
  generalize hW0 : w.alloc (Obj.cells #[Value.pointer none, Value.slice none 0 0] 74) = w0
  have hw0 : w0.heap.size = w.heap.size + 1 := by rw [← hW0]; simp
  have hb0 : w0.heap[w.heap.size]? = some (.cells #[.pointer none, .slice none 0 0] 74 (0, 0)) := by rw [← hW0]; exact heap_alloc_new w _
  have hbel0 : Below w.heap.size w w0 := by rw [← hW0]; exact (Below.refl _ w).alloc (Nat.le_refl _) _
  have HB0 : Hid (BX (w.heap.size + 2) w.heap.size (Lib.byteCells (escS (s.data.toList.take 0))) (Lib.bytesWorld w0 5 s)) := ⟨by omega, by rw [Lib.bytesWorld_size, hw0]; exact Nat.le_refl _, .pointer none, .slice none 0 0, .inl rfl, by rw [Lib.bytesWorld_at_old _ _ _ _ (by omega)]; exact hb0, by rw [List.take_zero]; exact ⟨rfl, .inl ⟨rfl, rfl⟩⟩⟩
  have HF0 : Hid (FX (w.heap.size + 2) w.heap.size (Lib.bytesWorld w0 5 s) (Lib.bytesWorld w0 5 s)) := FX.refl _ _ _
  clear hb0
  go_loopw [9] (fun v wr => ∃ k : Nat, k ≤ s.size ∧ v = .int .i64 k ∧ Hid (BX (w.heap.size + 2) w.heap.size (Lib.byteCells (escS (s.data.toList.take k))) wr) ∧ Hid (FX (w.heap.size + 2) w.heap.size (Lib.bytesWorld w0 5 s) wr)) (fun v _ => s.size - (intOf v).toNat)
  case atStart => exact ⟨0, Nat.zero_le _, rfl, HB0, HF0⟩
  case round =>
    obtain ⟨k, hk, rfl, HB, HF⟩ := hrel
    by_cases hlt : k < s.size
    · obtain ⟨c, hcd⟩ : ∃ c, s.data.toList[k]'(by simpa using hlt) = c := ⟨_, rfl⟩
      have hc : wr.cell? ⟨w.heap.size + 1, k, none⟩ = some (.int .u8 c.toNat) := by
        rw [HF.out.cell (by omega) (by omega), ← hw0, Lib.bytesWorld_cell w0 _ s k hlt, ← hcd, List.getD_eq_getElem?_getD, List.getElem?_eq_getElem (by simpa using hlt)]; rfl
      have hnx : escS (s.data.toList.take (k + 1)) = escS (s.data.toList.take k) ++ escB c := by rw [escS_take _ _ (by simpa using hlt), hcd]
      have hlen : (Lib.byteCells (escS (s.data.toList.take k))).length ≤ 3 * k := by
        rw [Lib.byteCells_length]
        have := escS_len (s.data.toList.take k)
        rw [List.length_take] at this
        omega
      have hc256 : c.toNat < 256 := c.toNat_lt
      go_wp2_with fail
      refine (plain_m _ _).mono ?_
      rintro e w1 ⟨rfl, rfl⟩
      cases hp : plainB c.toNat with
      | true =>
        have he : escB c = [c] := by rw [escB, hp]; rfl
        go_wp2_with fail
        refine (bbyte_m (w.heap.size + 2) w.heap.size _ _ _ HB.out (by omega)).mono ?_
        rintro e w2 ⟨rfl, h2, hf2⟩
        have H2 : Hid (BX (w.heap.size + 2) w.heap.size (Lib.byteCells (escS (s.data.toList.take (k + 1)))) w2) := by
          rw [hnx, he, Lib.byteCells_append]; exact h2
        have F2 : Hid (FX (w.heap.size + 2) w.heap.size (Lib.bytesWorld w0 5 s) w2) := HF.out.trans hf2
        clear h2 hf2
        go_wp2
        exact ⟨⟨k + 1, by omega, by go_num, H2, F2⟩, by simp [intOf]; omega⟩
      | false =>
        have he : escB c = [37, hexB (c / 16), hexB (c % 16)] := by rw [escB, hp]; rfl
        go_wp2_with fail
        have q1 : 0 ≤ (c.toNat : Int) / 16 ∧ (c.toNat : Int) / 16 < 16 := by omega
        have q2 : 0 ≤ (c.toNat : Int) % 16 ∧ (c.toNat : Int) % 16 < 16 := by omega
        have q3 : bits BinOp.and IntKind.u8 (c.toNat : Int) 15 = (c.toNat : Int) % 16 := band15 c
        have q4 : 0 ≤ bits BinOp.and IntKind.u8 (c.toNat : Int) 15 ∧ bits BinOp.and IntKind.u8 (c.toNat : Int) 15 < 16 := by rw [q3]; exact q2
        have q5 : UInt8.ofNat ((c.toNat : Int) / 16).toNat = c / 16 := UInt8.toNat_inj.1 (by rw [UInt8.toNat_ofNat', UInt8.toNat_div]; show _ % 256 = c.toNat / 16; omega)
        have q6 : UInt8.ofNat ((c.toNat : Int) % 16).toNat = c % 16 := UInt8.toNat_inj.1 (by rw [UInt8.toNat_ofNat', UInt8.toNat_mod]; show _ % 256 = c.toNat % 16; omega)
        go_region_with (go_at_call 49; refine (bwrite3_m (w.heap.size + 2) w.heap.size _ _ _ _ _ HB.out (by omega)).mono ?_; rintro e w2 ⟨⟨v, rfl⟩, h2, hf2⟩)
        all_goals go_wp2_with fail
        all_goals
          simp only [hexB_at, q5, q6] at h2
          have H2 : Hid (BX (w.heap.size + 2) w.heap.size (Lib.byteCells (escS (s.data.toList.take (k + 1)))) w2) := by
            rw [hnx, he, Lib.byteCells_append]; exact h2
          exact ⟨⟨k + 1, by omega, by go_num, H2, HF.out.trans hf2⟩, by simp [intOf]; omega⟩
    · have hke : k = s.size := by omega
      subst hke
      have hall : s.data.toList.take s.size = s.data.toList := List.take_of_length_le (by simp)
      have HB' := HB.out
      rw [hall] at HB'
      go_wp2_with fail
      refine (Any.Builder_String_any Try.bl169 Try.bldX w.heap.size w.heap.size _ wr HB'.is (by have := HB'.le; omega)).mono ?_
      rintro e w5 ⟨rfl, hb5⟩
      have hb6 : Below w.heap.size w (Lib.bytesWorld w0 5 s) := hbel0.trans ⟨rfl, rfl, rfl, by rw [Lib.bytesWorld_size]; omega, fun j hj => Lib.bytesWorld_at_old w0 _ s j (by omega)⟩
      have Hb5 : Hid (Below w.heap.size w w5) := (hb6.trans (HF.out.below (by omega))).trans hb5
      clear hb5 hb6 HB'
      go_wp2
      go_ret
      exact ⟨rfl, Hb5.out⟩
open Go.Proofs.Ytjjddmbnfkmfdaa.Sx F
theorem esc_c (s : Th (List UInt8)) (hs : (s .o).length ≤ 1099511627776) {d : Nat} {K : ARes → BL → Prop} (hr : ∀ t : Th (List UInt8), t .o = escS (s .o) → K (.ret (.str t)) .nil) : CallAt PT 34 [.str s] d .nil K := by
  refine CallAt.of_below (by kernel_rfl) fun E vs hb hv => ?_
  obtain ⟨v1, r1, rfl, h1, rfl⟩ : ∃ v1 r1, vs = v1 :: r1 ∧ Rp E (.str s) v1 ∧ r1 = [] := hv
  obtain rfl : v1 = .string ⟨(s .o).toArray⟩ := h1
  refine (esc_m ⟨(s .o).toArray⟩ E.w (by show (s .o).toArray.size ≤ _; simpa using hs)).mono ?_
  rintro e w' ⟨rfl, hbl⟩
  exact ⟨.ret (.str fun _ => escS (s .o)), rfl, rfl, hr _ rfl, hbl⟩
end Go.Proofs.Ytjjddmbnfkmfdaa
/- Functions of package strings at a separator of one byte: walked by the kit's laws. -/
namespace Go.Proofs.Ytjjddmbnfkmfdaa
open Go Go.RowKit
set_option linter.unusedVariables false
set_option linter.unusedSimpArgs false
set_option maxHeartbeats 1000000 in
set_option maxRecDepth 100000 in
theorem indexByte_calls (s : ByteArray) (c : Int) (w : World) :
    Calls Try.prog 64 #[.string s, .int .u8 c] w fun e w' => e = .returned (.int .i64 (Lib.indexByte s.data.toList c.toNat.toUInt8)) ∧ w' = w := by
  go_enter Try.func64, Try.ntmps64
  go_wp2
  rw [run_callFunc_extern Try.func69 (by kernel_rfl) (by kernel_rfl) (by kernel_rfl) (e := Extern.BytealgIndexByte.indexByte) (by kernel_rfl), Lib.run_indexByteString]
  simp only [Result.andThen]
  rw [Oper.upon_value]
  go_wp2
  go_ret
  exact ⟨rfl, rfl⟩
set_option maxHeartbeats 2000000 in
set_option maxRecDepth 100000 in
theorem index1_calls (s : ByteArray) (c : UInt8) (w : World) :
    Calls Try.prog 59 #[.string s, .string ⟨#[c]⟩] w fun e w' => e = .returned (.int .i64 (Lib.indexByte s.data.toList c)) ∧ w' = w := by
  go_enter Try.func59, Try.ntmps59
  go_wp2_with (go_at_call 64; refine (indexByte_calls _ _ _).mono ?_; rintro e w' ⟨rfl, rfl⟩)
  · have h : ([c] == s.toList) = true := by assumption
    go_ret
    refine ⟨?_, rfl⟩
    have e : s.data.toList = [c] := by rw [← Lib.toList_data]; exact (beq_iff_eq.1 h).symm
    rw [e]
    simp [Lib.indexByte]
  · go_ret
    exact ⟨rfl, rfl⟩
open Go.Proofs.Ytjjddmbnfkmfdaa.Sx F
/-- A call of two strings that hands back what names nothing. -/
theorem two_strs {f : Nat} (hf : callable (PT .o) f = true) (s : Th (List UInt8)) (p : List UInt8) (r : ARes) (hr : r.flat = true) (post : Ending → Prop)
    (h : ∀ w, Calls (PT .o) f #[.string ⟨(s .o).toArray⟩, .string ⟨p.toArray⟩] w fun e w' => post e ∧ w' = w) (hp : ∀ (E : Env) e, post e → Sx.Ends E r e) {d : Nat} {K : ARes → BL → Prop} (hK : K r .nil) :
    CallAt PT f [.str s, .str fun _ => p] d .nil K := by
  refine CallAt.of_below hf fun E vs hb hv => ?_
  obtain ⟨v1, r1, rfl, h1, v2, r2, rfl, h2, rfl⟩ : ∃ v1 r1, vs = v1 :: r1 ∧ Rp E (.str s) v1 ∧ ∃ v2 r2, r1 = v2 :: r2 ∧ Rp E (.str fun _ => p) v2 ∧ r2 = [] := hv
  obtain rfl : v1 = .string ⟨(s .o).toArray⟩ := h1
  obtain rfl : v2 = .string ⟨p.toArray⟩ := h2
  refine (h E.w).mono ?_
  rintro e w' ⟨he, rfl⟩
  exact ⟨r, hr, hp E e he, hK, Below.refl _ _⟩
theorem index1_c (s : Th (List UInt8)) (c : UInt8) {d : Nat} {K : ARes → BL → Prop} (hr : ∀ n : Th Int, n .o = Lib.indexByte (s .o) c → K (.ret (.int .i64 n)) .nil) : CallAt PT 59 [.str s, .str fun _ => [c]] d .nil K :=
  two_strs (by kernel_rfl) s [c] (.ret (.int .i64 fun _ => Lib.indexByte (s .o) c)) rfl (fun e => e = .returned (.int .i64 (Lib.indexByte (s .o) c))) (fun w => index1_calls _ c w) (fun E e he => by subst he; rfl) (hr _ rfl)
theorem strIndex1_c (s : Th (List UInt8)) (c : UInt8) {d : Nat} {K : ARes → BL → Prop} (hr : ∀ n : Th Int, n .o = Lib.indexByte (s .o) c → K (.ret (.int .i64 n)) .nil) : CallAt PT strings_Index [.str s, .str fun _ => [c]] d .nil K := by
  refine strings_Index.of rfl rfl ?_
  cbv
  refine index1_c s c fun n hn => ?_
  cbv
  exact hr _ hn
theorem index_neg {l : List UInt8} {c : UInt8} : 0 ≤ Lib.indexByte l c ↔ c ∈ l := by
  induction l with
  | nil => simp [Lib.indexByte]
  | cons b l ih =>
    have hg := Lib.indexByte_ge l c
    unfold Lib.indexByte
    by_cases h : b = c
    · simp [h]
    · have h' : (b == c) = false := by simpa using h
      rw [h']
      simp only [Bool.false_eq_true, if_false, List.mem_cons]
      split
      · rename_i h2
        have h2 : Lib.indexByte l c = -1 := by simpa using h2
        constructor
        · intro q; omega
        · rintro (q | q)
          · exact absurd q.symm h
          · have := ih.2 q; omega
      · rename_i h2
        have h2 : Lib.indexByte l c ≠ -1 := by simpa using h2
        constructor
        · intro q; exact .inr (ih.1 (by omega))
        · intro _; omega
theorem contains1_c (s : Th (List UInt8)) (c : UInt8) {d : Nat} {K : ARes → BL → Prop} (hr : ∀ b : Th Bool, b .o = decide (c ∈ s .o) → K (.ret (.bool b)) .nil) : CallAt PT strings_Contains [.str s, .str fun _ => [c]] d .nil K := by
  refine strings_Contains.of rfl rfl ?_
  cbv
  refine strIndex1_c s c fun n hn => ?_
  cbv
  exact hr _ (by show decide (0 ≤ n .o) = _; rw [hn, decide_eq_decide]; exact index_neg)
end Go.Proofs.Ytjjddmbnfkmfdaa
/- Names with values that may be: walked, exact. -/
namespace Go.Proofs.Ytjjddmbnfkmfdaa
open Go Go.Proofs.Ytjjddmbnfkmfdaa.Sx F
set_option linter.unusedVariables false
set_option linter.unusedSimpArgs false
def u8Ch (b : Th UInt8) : AV := .cons (.int .u8 fun _ => zi (b .o).toNat) .nil
def hexS : List UInt8 := [48, 49, 50, 51, 52, 53, 54, 55, 56, 57, 65, 66, 67, 68, 69, 70]
theorem escB_ge (c : UInt8) : 1 ≤ (escB c).length := by unfold escB; split <;> simp
theorem escS_ge : ∀ l : List UInt8, l.length ≤ (escS l).length
  | [] => Nat.le_refl _
  | c :: r => by
    have h1 := escS_ge r
    have h2 := escB_ge c
    simp only [escS, List.flatMap_cons, List.length_append, List.length_cons] at h1 ⊢
    omega
theorem bytes_u8 {n : Nat} {g : Th Nat → AV} (l : List UInt8) (hn : n = l.length) (hg : ∀ i, i < n → g (fun _ => i) = u8Ch fun _ => l.getD i 0) : bytesN n g = l := by
  subst hn
  unfold bytesN
  apply List.ext_getElem?
  intro i
  rw [List.getElem?_map]
  by_cases h : i < l.length
  · rw [List.getElem?_range h, List.getElem?_eq_getElem h]
    simp only [Option.map_some, hg i h]
    show some (UInt8.ofNat (zi (l.getD i 0).toNat).toNat) = _
    rw [zi_toNat, List.getD_eq_getElem?_getD, List.getElem?_eq_getElem h]
    simp
  · rw [List.getElem?_eq_none (by simp; omega), List.getElem?_eq_none (by omega)]; rfl
def XOk (x : Xattr) : Prop := x.name ≠ [] ∧ (escS x.name).length ≤ 238 ∧ ¬ (0 : UInt8) ∈ x.name ∧ x.value.length ≤ 4096
def leS (a b : List UInt8) : Bool := strLt a b || decide (a = b)
structure XsTo (l : List Xattr) (k : Nat) : Prop where
  ok : ∀ j, j < k → XOk (l.getD j Xattr.z)
  up : ∀ j, j + 1 < k → leS (l.getD (j + 1) Xattr.z).name (l.getD j Xattr.z).name = false
structure XsOk (l : List Xattr) : Prop where
  to : XsTo l l.length
  len : l.length ≤ 32
theorem xsTo_succ {l : List Xattr} {k : Nat} (h : XsTo l k) (h1 : XOk (l.getD k Xattr.z)) (h2 : k = 0 ∨ leS (l.getD k Xattr.z).name (l.getD (k - 1) Xattr.z).name = false) : XsTo l (k + 1) := by
  refine ⟨fun j hj => ?_, fun j hj => ?_⟩
  · rcases Nat.lt_or_ge j k with q | q
    · exact h.ok j q
    · obtain rfl : j = k := by omega
      exact h1
  · rcases Nat.lt_or_ge (j + 1) k with q | q
    · exact h.up j q
    · obtain rfl : k = j + 1 := by omega
      rcases h2 with h2 | h2
      · omega
      · exact h2
def longX (l : List Xattr) : Prop := ∀ x ∈ l, x.name.length ≤ 1099511627776
theorem longX_at {l : List Xattr} (h : longX l) (k : Nat) : (l.getD k Xattr.z).name.length ≤ 1099511627776 := by
  rw [List.getD_eq_getElem?_getD]
  by_cases hk : k < l.length
  · rw [List.getElem?_eq_getElem hk]; exact h _ (List.getElem_mem hk)
  · rw [List.getElem?_eq_none (by omega)]; exact Nat.zero_le _
theorem xmay_c (x : Th Xattr) (hx : (x .o).name.length ≤ 1099511627776) {d : Nat} {K : ARes → BL → Prop} (hr : ∀ b : Th Bool, (b .o = true ↔ XOk (x .o)) → K (.ret (.bool b)) .nil) : CallAt PT xattr_may [Xattr.av x] d .nil K := by
  refine CallAt.res ?_
  have hf : ¬ XOk (x .o) → ∃ r', SameR (.ret .ff) r' ∧ K r' .nil := fun h => ⟨_, .ret (.ff rfl), hr (fun _ => false) ⟨fun q => (by cases q), fun q => (h q).elim⟩⟩
  refine xattr_may.of rfl rfl ?_
  cbv
  refine br_ndec (fun h1 => ?_) (fun h1 => ?_)
  rotate_left
  · cbv
    exact hf fun q => q.1 h1
  have h1 : ¬ (x .o).name = [] := h1
  cbv
  refine esc_c (fun _ => (x .o).name) hx fun t ht => ?_
  have ht : t .o = escS (x .o).name := ht
  cbv
  refine br_dec (fun h2 => ?_) (fun h2 => ?_)
  rotate_left
  · cbv
    exact hf fun q => h2 (by show zi (t .o).length ≤ 238; rw [ht]; have := q.2.1; unfold zi; omega)
  have h2 : (escS (x .o).name).length ≤ 238 := by have h2 : zi (t .o).length ≤ 238 := h2; rw [ht] at h2; unfold zi at h2; omega
  cbv
  refine contains1_c (fun _ => (x .o).name) 0 fun b hb => ?_
  cbv
  refine br_nbool (fun h3 => ?_) (fun h3 => ?_)
  rotate_left
  · cbv
    rw [hb] at h3
    exact hf fun q => q.2.2.1 (of_decide_eq_true h3)
  rw [hb] at h3
  have h3 := of_decide_eq_false h3
  cbv
  refine ⟨_, .ret (.refl _), hr _ ⟨fun q => ⟨h1, h2, h3, ?_⟩, fun q => decide_eq_true ?_⟩⟩
  · have q : zi (x .o).value.length ≤ 4096 := of_decide_eq_true q
    unfold zi at q
    omega
  · show zi (x .o).value.length ≤ 4096
    have := q.2.2.2
    unfold zi
    omega
theorem xsmay_c (l : Th (List Xattr)) (hl : short (l .o)) (hx : longX (l .o)) {d : Nat} {K : ARes → BL → Prop} (hr : ∀ b : Th Bool, (b .o = true ↔ XsOk (l .o)) → K (.ret (.bool b)) .nil) : CallAt PT xattr_May [xattrs l] d .nil K := by
  refine CallAt.res ?_
  have hf : ¬ XsOk (l .o) → ∃ r', SameR (.ret .ff) r' ∧ K r' .nil := fun h => ⟨_, .ret (.ff rfl), hr (fun _ => false) ⟨fun q => (by cases q), fun q => (h q).elim⟩⟩
  refine xattr_May.of rfl rfl ?_
  cbv
  refine loop_at (X := Nat) 1000 [0, 5, 6] [] (fun _ k => .cons 7 (.int .i64 fun _ => zi k) .nil) (fun _ k => .nil)
    (fun k => k ≤ (l .o).length ∧ XsTo (l .o) k) (fun k => (l .o).length - k) 0 ?_ ⟨Nat.zero_le _, ⟨fun j hj => absurd hj (Nat.not_lt_zero _), fun j hj => absurd hj (Nat.not_lt_zero _)⟩⟩ ?_
  · cbv
    (repeat' (first | exact True.intro | exact Same.refl _ | exact SameB.refl _ | exact ⟨rfl⟩ | exact Same.int rfl | exact Same.str rfl | exact Same.bool rfl | (refine Same.int ?_; simp only [List.length_append, List.length_cons, List.length_nil, zi]; omega) | (refine SameB.row' rfl fun i hi => ?_; first | rfl | exact absurd hi (Nat.not_lt_zero _)) | refine And.intro ?_ ?_ | refine SameB.cells ?_ | exact SameC.nil | refine SameC.cons ?_ ?_ | exact Same.nsl rfl | exact Same.tt rfl | exact Same.ff rfl))
  · rintro k ⟨hk, hto⟩
    have hz := zi_toNat k
    unfold short at hl
    cbv
    ((try refine br_rev ?_); (first | refine br_dec (fun h1 => ?_) (fun h1 => ?_) | refine br_ndec (fun h1 => ?_) (fun h1 => ?_) | refine br_nbool (fun h1 => ?_) (fun h1 => ?_) | refine br_bool (fun h1 => ?_) (fun h1 => ?_)); all_goals (try dsimp only at h1); all_goals (try with_reducible replace h1 := zi_lt.1 h1); all_goals (try with_reducible replace h1 := not_zlt h1))
    · have h1 : k < (l .o).length := h1
      cbv
      refine safe ⟨zi_nonneg _, zi_lt.2 h1⟩ ?_
      rw [hz]
      refine xmay_c (fun _ => (l .o).getD k Xattr.z) (longX_at hx k) fun b hb => ?_
      cbv
      refine br_rev (br_nbool (fun h2 => ?_) (fun h2 => ?_))
      · cbv
        exact hf fun q => by have := hb.2 (q.to.ok k h1); rw [this] at h2; cases h2
      have hok := hb.1 h2
      have succ := zi_succ (k := k) (by omega)
      cbv
      refine br_dec (fun h3 => ?_) (fun h3 => ?_)
      · have h3 : 0 < k := by have h3 : 0 < zi k := h3; unfold zi at h3; omega
        have hi1 : 0 ≤ IntKind.i64.wrap (zi k - 1) ∧ IntKind.i64.wrap (zi k - 1) < zi (l .o).length := by rw [IntKind.wrap_i64]; unfold zi; omega
        have hi2 : (IntKind.i64.wrap (zi k - 1)).toNat = k - 1 := by rw [IntKind.wrap_i64]; unfold zi; omega
        cbv
        refine safe hi1 ?_
        rw [hi2]
        refine br_bool (fun h4 => ?_) (fun h4 => ?_)
        · cbv
          exact hf fun q => by have := q.to.up (k - 1) (by omega); rw [show k - 1 + 1 = k by omega] at this; rw [leS] at this; rw [this] at h4; cases h4
        cbv
        refine ⟨k + 1, ⟨h1, xsTo_succ hto hok (.inr h4)⟩, by omega, ?_⟩
        cbv
        rw [succ]
        (repeat' (first | exact True.intro | exact Same.refl _ | exact SameB.refl _ | exact ⟨rfl⟩ | exact Same.int rfl | exact Same.str rfl | exact Same.bool rfl | (refine Same.int ?_; simp only [List.length_append, List.length_cons, List.length_nil, zi]; omega) | (refine SameB.row' rfl fun i hi => ?_; first | rfl | exact absurd hi (Nat.not_lt_zero _)) | refine And.intro ?_ ?_ | refine SameB.cells ?_ | exact SameC.nil | refine SameC.cons ?_ ?_ | exact Same.nsl rfl | exact Same.tt rfl | exact Same.ff rfl))
      · have h3 : ¬ 0 < k := by have h3 : ¬ 0 < zi k := h3; unfold zi at h3; omega
        cbv
        refine ⟨k + 1, ⟨h1, xsTo_succ hto hok (.inl (by omega))⟩, by omega, ?_⟩
        cbv
        rw [succ]
        (repeat' (first | exact True.intro | exact Same.refl _ | exact SameB.refl _ | exact ⟨rfl⟩ | exact Same.int rfl | exact Same.str rfl | exact Same.bool rfl | (refine Same.int ?_; simp only [List.length_append, List.length_cons, List.length_nil, zi]; omega) | (refine SameB.row' rfl fun i hi => ?_; first | rfl | exact absurd hi (Nat.not_lt_zero _)) | refine And.intro ?_ ?_ | refine SameB.cells ?_ | exact SameC.nil | refine SameC.cons ?_ ?_ | exact Same.nsl rfl | exact Same.tt rfl | exact Same.ff rfl))
    · obtain rfl : k = (l .o).length := by have h1 : (l .o).length ≤ k := h1; omega
      cbv
      refine ⟨_, .ret (.refl _), hr _ ⟨fun q => ⟨hto, ?_⟩, fun q => decide_eq_true ?_⟩⟩
      · have q : zi (l .o).length ≤ 32 := of_decide_eq_true q
        unfold zi at q
        omega
      · show zi (l .o).length ≤ 32
        have := q.len
        unfold zi
        omega
end Go.Proofs.Ytjjddmbnfkmfdaa
/- Escaped names told again: escape.Get, gripsackref1.GetEscape. -/
namespace Go.Proofs.Ytjjddmbnfkmfdaa
open Go Go.RowKit
set_option linter.unusedVariables false
set_option linter.unusedSimpArgs false
set_option maxRecDepth 100000 in
theorem sIndexByte_m (s : ByteArray) (c : Int) (w : World) :
    Calls Try.prog 62 #[.string s, .int .u8 c] w fun e w' => e = .returned (.int .i64 (Lib.indexByte s.data.toList c.toNat.toUInt8)) ∧ w' = w := by
  go_enter Try.func62, Try.ntmps62
  go_wp2_with (go_at_call 64; refine (indexByte_calls _ _ _).mono ?_; rintro e w' ⟨rfl, rfl⟩)
  go_ret
  exact ⟨rfl, rfl⟩
open Go.Proofs.Ytjjddmbnfkmfdaa.Sx F
theorem indexByte_find (c : UInt8) : ∀ ls : List UInt8, Lib.indexByte ls c = match ls.findIdx? (· == c) with | some i => (i : Int) | none => -1
  | [] => rfl
  | x :: r => by
    have ih := indexByte_find c r
    rw [Lib.indexByte, List.findIdx?_cons]
    cases hx : (x == c) with
    | true => rfl
    | false =>
      rw [ih]
      cases hf : r.findIdx? (· == c) with
      | none => rfl
      | some i =>
        simp only [Option.map_some, Bool.false_eq_true, if_false]
        rw [if_neg (by simp)]
        simp
theorem sIndexByte_c (ls : List UInt8) (c : Th Int) {d : Nat} {K : ARes → BL → Prop} (hr : ∀ n : Th Int, n .o = Lib.indexByte ls (c .o).toNat.toUInt8 → K (.ret (.int .i64 n)) .nil) : CallAt PT 62 [.str fun _ => ls, .int .u8 c] d .nil K := by
  refine CallAt.of_below (by kernel_rfl) fun E vs hb hv => ?_
  obtain ⟨v1, r1, rfl, h1, v2, r2, rfl, h2, rfl⟩ : ∃ v1 r1, vs = v1 :: r1 ∧ Rp E (.str fun _ => ls) v1 ∧ ∃ v2 r2, r1 = v2 :: r2 ∧ Rp E (.int .u8 c) v2 ∧ r2 = [] := hv
  obtain rfl : v1 = .string ⟨ls.toArray⟩ := h1
  obtain rfl : v2 = .int .u8 (c .o) := h2
  refine (sIndexByte_m ⟨ls.toArray⟩ (c .o) E.w).mono ?_
  rintro e w' ⟨rfl, rfl⟩
  exact ⟨.ret (.int .i64 fun _ => Lib.indexByte ls (c .o).toNat.toUInt8), rfl, rfl, hr _ rfl, RowKit.Below.refl _ _⟩
def hexI (c : UInt8) : Option Nat := hexS.findIdx? (· == c)
theorem hexI_lt {c : UInt8} {n : Nat} (h : hexI c = some n) : n < 16 := (List.findIdx?_eq_some_iff_getElem.1 h).1
theorem hexI_hexB : ∀ n : Fin 16, hexI (hexB (UInt8.ofNat n.1)) = some n.1 := by decide +kernel
/-- What escape.Get reads. -/
def decE : List UInt8 → Option (List UInt8)
  | [] => some []
  | c :: r => if c = 37 then (match r with
      | a :: b :: r' => match hexI a, hexI b with
        | some x, some y => (decE r').map (UInt8.ofNat (x * 16 + y) :: ·)
        | _, _ => none
      | _ => none) else (decE r).map (c :: ·)
termination_by s => s.length
decreasing_by all_goals (simp only [List.length_cons]; omega)
theorem decE_plain {c : UInt8} (h : c ≠ 37) (r : List UInt8) : decE (c :: r) = (decE r).map (c :: ·) := by rw [decE.eq_def]; simp [h]
theorem decE_hex {a b : UInt8} {x y : Nat} (ha : hexI a = some x) (hb : hexI b = some y) (r : List UInt8) : decE (37 :: a :: b :: r) = (decE r).map (UInt8.ofNat (x * 16 + y) :: ·) := by rw [decE.eq_def]; simp [ha, hb]
theorem decE_bad {r : List UInt8} (h : ∀ a b r', r = a :: b :: r' → hexI a = none ∨ hexI b = none) : decE (37 :: r) = none := by
  rw [decE.eq_def]
  simp only [if_pos rfl]
  match r, h with
  | [], _ => rfl
  | [_], _ => rfl
  | a :: b :: r', h =>
    rcases h a b r' rfl with q | q
    · simp [q]
    · simp [q]
theorem hex_of (c : UInt8) : hexI (hexB (c / 16)) = some (c.toNat / 16) ∧ hexI (hexB (c % 16)) = some (c.toNat % 16) := by
  have hc := c.toNat_lt
  have h1 := hexI_hexB ⟨c.toNat / 16, by omega⟩
  have h2 := hexI_hexB ⟨c.toNat % 16, by omega⟩
  have e1 : UInt8.ofNat (c.toNat / 16) = c / 16 := UInt8.toNat_inj.1 (by rw [UInt8.toNat_ofNat', UInt8.toNat_div]; show _ % 256 = c.toNat / 16; omega)
  have e2 : UInt8.ofNat (c.toNat % 16) = c % 16 := UInt8.toNat_inj.1 (by rw [UInt8.toNat_ofNat', UInt8.toNat_mod]; show _ % 256 = c.toNat % 16; omega)
  rw [e1] at h1
  rw [e2] at h2
  exact ⟨h1, h2⟩
theorem dec_esc : ∀ u : List UInt8, decE (escS u) = some u
  | [] => by rw [show escS [] = [] from rfl, decE.eq_def]
  | c :: r => by
    have ih := dec_esc r
    have e : escS (c :: r) = escB c ++ escS r := by simp [escS]
    rw [e]
    unfold escB
    cases hp : plainB c.toNat with
    | true =>
      have hc : c ≠ 37 := by
        rintro rfl
        revert hp; decide
      rw [if_pos rfl, List.cons_append, List.nil_append, decE_plain hc, ih]; rfl
    | false =>
      obtain ⟨h1, h2⟩ := hex_of c
      rw [if_neg (by simp), List.cons_append, List.cons_append, List.cons_append, List.nil_append, decE_hex h1 h2, ih, Option.map_some]
      congr 2
      have hc := c.toNat_lt
      apply UInt8.toNat_inj.1
      rw [UInt8.toNat_ofNat']
      omega
theorem escS_inj {u v : List UInt8} (h : escS u = escS v) : u = v := by
  have h1 := dec_esc u
  rw [h, dec_esc v] at h1
  exact (Option.some.inj h1).symm
/-- What a reading answers: the text of which this is the escaped one, or none. -/
def EG (s t : List UInt8) (b : Bool) : Prop := (b = true ∧ escS t = s) ∨ (b = false ∧ t = [] ∧ ∀ u, escS u ≠ s)
theorem EG.one {s t u : List UInt8} {b c : Bool} (h : EG s t b) (k : EG s u c) : t = u ∧ b = c := by
  rcases h with ⟨rfl, h⟩ | ⟨rfl, rfl, h⟩ <;> rcases k with ⟨rfl, k⟩ | ⟨rfl, rfl, k⟩
  · exact ⟨escS_inj (h.trans k.symm), rfl⟩
  · exact absurd h (k _)
  · exact absurd k (h _)
  · exact ⟨rfl, rfl⟩
def noDigV (n : Th Int) : AV := .ifc 83 (.agg (.cons (.int .i64 n) .nil))
theorem evalue_c (s : Th (List UInt8)) (k : Nat) (hs : (s .o).length ≤ 1099511627776) {d : Nat} {K : ARes → BL → Prop} (hr : ∀ n : Nat, k < (s .o).length → hexI ((s .o).getD k 0) = some n → K (.ret (.int .u8 fun _ => zi n)) .nil)
    (hp : ((s .o).length ≤ k ∨ hexI ((s .o).getD k 0) = none) → K (.pan (noDigV fun _ => zi k)) .nil) : CallAt PT escape_value [.str s, .int .i64 fun _ => zi k] d .nil K := by
  refine CallAt.res ?_
  refine escape_value.of rfl rfl ?_
  cbv
  refine br_dec (fun h1 => ?_) (fun h1 => ?_)
  · have h1 : (s .o).length ≤ k := by have h1 : zi (s .o).length ≤ zi k := h1; unfold zi at h1; omega
    cbv
    exact ⟨_, .pan (Same.refl _), hp (.inl h1)⟩
  · have h1 : k < (s .o).length := by have h1 : ¬ zi (s .o).length ≤ zi k := h1; unfold zi at h1; omega
    have hz := zi_toNat k
    cbv
    refine safe ⟨zi_nonneg _, zi_lt.2 h1⟩ ?_
    refine sIndexByte_c hexS (fun _ => zi ((s .o).getD (zi k).toNat 0).toNat) fun m hm => ?_
    have hm : m .o = Lib.indexByte hexS ((s .o).getD k 0) := by
      rw [hm, hz]
      congr 1
      show (zi _).toNat.toUInt8 = _
      rw [zi_toNat]; simp
    rw [indexByte_find] at hm
    cbv
    cases hf : hexS.findIdx? (· == (s .o).getD k 0) with
    | none =>
      simp only [hf] at hm
      refine br_dec (fun h2 => ?_) (fun h2 => ?_)
      · cbv
        exact ⟨_, .pan (Same.refl _), hp (.inr hf)⟩
      · exact absurd (show m .o < 0 by rw [hm]; decide) h2
    | some n =>
      simp only [hf] at hm
      refine br_dec (fun h2 => ?_) (fun h2 => ?_)
      · exact absurd h2 (by show ¬ m .o < 0; rw [hm]; exact Int.not_lt.2 (Int.natCast_nonneg n))
      · have hn := hexI_lt hf
        cbv
        refine ⟨_, .ret (Same.int ?_), hr n h1 hf⟩
        show IntKind.u8.wrap (m .o) = zi n
        have hm : m .o = zi n := hm
        rw [hm, IntKind.wrap_u8]
        unfold zi
        omega
theorem eend_c (s : Th (List UInt8)) (b : Bool) {K : BL → Prop} (h : K (.cons 10000 (.cells (.cons (.str s) .nil)) (.cons 10001 (.cells (.cons (tv b) .nil)) .nil))) : DefAt PT escape_Get_1 false [.nif, .ptr 10000 0, .ptr 10001 0] (.cons 10000 (.cells (.cons (.str s) .nil)) (.cons 10001 (.cells (.cons (tv b) .nil)) .nil)) K := by
  refine escape_Get_1.of rfl rfl (fun _ => rfl) ?_
  cases b <;> (cbv; exact h)
theorem eendP_c (n : Th Int) {K : BL → Prop} (h : K (.cons 10000 (.cells (.cons (.str fun _ => []) .nil)) (.cons 10001 (.cells (.cons .ff .nil)) .nil))) : DefAt PT escape_Get_1 true [noDigV n, .ptr 10000 0, .ptr 10001 0] (.cons 10000 (.cells (.cons (.str fun _ => []) .nil)) (.cons 10001 (.cells (.cons .ff .nil)) .nil)) K := by
  refine escape_Get_1.of rfl rfl (fun h => by cases h) ?_
  cbv
  exact h
theorem or4_fin : ∀ x y : Fin 16, abits .or .u8 (IntKind.u8.wrap (zi x.1 * 2 ^ min (Int.toNat 4) IntKind.u8.bits)) (zi y.1) = zi (UInt8.ofNat (x.1 * 16 + y.1)).toNat := by decide +kernel
theorem getD_drop0 (l : List UInt8) (k : Nat) : (l.drop k).getD 0 0 = l.getD k 0 := by rw [getD_drop]; rfl
theorem esget_c (s : Th (List UInt8)) (hs : (s .o).length ≤ 1000000) {d : Nat} {K : ARes → BL → Prop} (hr : ∀ t : Th (List UInt8), ∀ b : Th Bool, EG (s .o) (t .o) (b .o) → K (.ret (.tup (.cons (.str t) (.cons (.bool b) .nil)))) .nil) : CallAt PT escape_Get [.str s] d .nil K := by
  refine CallAt.res ?_
  refine escape_Get.of rfl rfl ?_
  cbv
  refine nil_tmp 4 9000 1 (fun i => u8Ch fun _ => ([] : List UInt8).getD (i .o) 0) rfl rfl ?_
  refine loop_at (X := Nat × List UInt8) 1000 [0, 2, 3] [2, 3] (fun _ x => .cons 4 (.row 9000) (.cons 5 (.int .i64 fun _ => zi x.1) .nil)) (fun _ x => .cons 9000 (rowB 1 u8Ch 0 fun _ => x.2) .nil)
    (fun x => x.1 ≤ (s .o).length ∧ x.2.length ≤ x.1 ∧ decE (s .o) = (decE ((s .o).drop x.1)).map (x.2 ++ ·)) (fun x => (s .o).length - x.1) (0, []) ?_ ⟨Nat.zero_le _, Nat.le_refl _, by cases h : decE (s .o) <;> simp [h]⟩ ?_
  · cbv
    (repeat' (first | exact True.intro | exact Same.refl _ | exact SameB.refl _ | exact ⟨rfl⟩ | exact Same.int rfl | exact Same.str rfl | exact Same.bool rfl | (refine Same.int ?_; simp only [List.length_append, List.length_cons, List.length_nil, zi]; omega) | (refine SameB.row' rfl fun i hi => ?_; first | rfl | exact absurd hi (Nat.not_lt_zero _)) | refine And.intro ?_ ?_ | refine SameB.cells ?_ | exact SameC.nil | refine SameC.cons ?_ ?_ | exact Same.nsl rfl | exact Same.tt rfl | exact Same.ff rfl))
  · rintro ⟨i, bs⟩ ⟨h2, h2b, h3⟩
    dsimp only at h2 h2b h3
    have hz := zi_toNat i
    cbv
    refine br_zlt (fun h4 => ?_) (fun h4 => ?_)
    · have h4 : i < (s .o).length := h4
      have hdr : (s .o).drop i = (s .o).getD i 0 :: (s .o).drop (i + 1) := by
        rw [← List.getElem_cons_drop h4, List.getD_eq_getElem?_getD, List.getElem?_eq_getElem h4]; rfl
      cbv
      refine safe ⟨zi_nonneg _, zi_lt.2 h4⟩ ?_
      refine br_dec (fun h5 => ?_) (fun h5 => ?_)
      · have h5 : (s .o).getD i 0 = 37 := by
          have h5 : zi ((s .o).getD (zi i).toNat 0).toNat = 37 := h5
          rw [hz] at h5
          exact UInt8.toNat_inj.1 (by unfold zi at h5; show _ = 37; omega)
        rw [hdr, h5] at h3
        have e1 : IntKind.i64.wrap (zi i + 1) = zi (i + 1) := zi_succ (by omega)
        have e2 : IntKind.i64.wrap (zi i + 2) = zi (i + 2) := by rw [IntKind.wrap_i64]; unfold zi; omega
        have bad : decE (37 :: (s .o).drop (i + 1)) = none → ∀ n : Th Int, ∃ r', SameR (.ret (.tup (.cons (.str fun _ => []) (.cons .ff .nil)))) r' ∧ K r' .nil := fun q _ => by
          refine ⟨_, .ret (.tup (.cons (.str rfl) (.cons (.ff rfl) .nil))), hr (fun _ => []) (fun _ => false) (.inr ⟨rfl, rfl, fun u hu => ?_⟩)⟩
          have := dec_esc u
          rw [hu, h3, q] at this
          cases this
        cbv
        rw [e1]
        refine evalue_c s (i + 1) (by omega) (fun x hx1 hx2 => ?_) (fun hx => ?_)
        rotate_left
        · cbv
          refine DefAt.use [(10000, 2), (10001, 3)] [noDigV _, .ptr 10000 0, .ptr 10001 0] (by kernel_rfl) rfl (eendP_c _ ?_)
          cbv
          refine bad (decE_bad fun a b r' q => ?_) (fun _ => 0)
          have hl : (s .o).length = i + 1 + ((s .o).drop (i + 1)).length := by rw [List.length_drop]; omega
          rw [q] at hl
          rcases hx with hx | hx
          · simp only [List.length_cons] at hl; omega
          · left
            have : (s .o).getD (i + 1) 0 = a := by rw [← getD_drop0, q]; rfl
            rw [← this]; exact hx
        have hxl := hexI_lt hx2
        cbv
        rw [e2]
        refine safe (by decide) ?_
        refine evalue_c s (i + 2) (by omega) (fun y hy1 hy2 => ?_) (fun hy => ?_)
        rotate_left
        · cbv
          refine DefAt.use [(10000, 2), (10001, 3)] [noDigV _, .ptr 10000 0, .ptr 10001 0] (by kernel_rfl) rfl (eendP_c _ ?_)
          cbv
          refine bad (decE_bad fun a b r' q => ?_) (fun _ => 0)
          have hl : (s .o).length = i + 1 + ((s .o).drop (i + 1)).length := by rw [List.length_drop]; omega
          rw [q] at hl
          rcases hy with hy | hy
          · simp only [List.length_cons] at hl; omega
          · right
            have : (s .o).getD (i + 2) 0 = b := by
              have e : (s .o).getD (i + 2) 0 = ((s .o).drop (i + 1)).getD 1 0 := by rw [getD_drop]
              rw [e, q]; rfl
            rw [← this]; exact hy
        have hyl := hexI_lt hy2
        have hor : abits .or .u8 (IntKind.u8.wrap (zi x * 2 ^ min (Int.toNat 4) IntKind.u8.bits)) (zi y) = zi (UInt8.ofNat (x * 16 + y)).toNat := or4_fin ⟨x, hxl⟩ ⟨y, hyl⟩
        have hd2 : (s .o).drop (i + 1) = (s .o).getD (i + 1) 0 :: (s .o).getD (i + 2) 0 :: (s .o).drop (i + 3) := by
          rw [← List.getElem_cons_drop hx1, ← List.getElem_cons_drop hy1, List.getD_eq_getElem?_getD, List.getElem?_eq_getElem hx1, List.getD_eq_getElem?_getD, List.getElem?_eq_getElem hy1]; rfl
        rw [hd2, decE_hex hx2 hy2] at h3
        generalize hcc : UInt8.ofNat (x * 16 + y) = cc at h3 hor
        cbv
        simp only [hor]
        refine app_one u8Ch 0 bs cc rfl (fun i hi => rfl) rfl rfl (by omega) ?_
        cbv
        rw [e2]
        refine ⟨(i + 3, bs ++ [cc]), ⟨by show i + 3 ≤ _; omega, by show (bs ++ [cc]).length ≤ i + 3; simp only [List.length_append, List.length_cons, List.length_nil]; omega, ?_⟩, by show (s .o).length - (i + 3) < (s .o).length - i; omega, ?_⟩
        · show _ = (decE ((s .o).drop (i + 3))).map ((bs ++ [cc]) ++ ·)
          rw [h3]
          cases decE ((s .o).drop (i + 3)) <;> simp
        · cbv
          have e3 : IntKind.i64.wrap (zi (i + 2) + 1) = zi (i + 3) := zi_succ (by omega)
          rw [e3]
          (repeat' (first | exact True.intro | exact Same.refl _ | exact SameB.refl _ | exact ⟨rfl⟩ | exact Same.int rfl | exact Same.str rfl | exact Same.bool rfl | (refine Same.int ?_; simp only [List.length_append, List.length_cons, List.length_nil, zi]; omega) | (refine SameB.row' rfl fun i hi => ?_; first | rfl | exact absurd hi (Nat.not_lt_zero _)) | refine And.intro ?_ ?_ | refine SameB.cells ?_ | exact SameC.nil | refine SameC.cons ?_ ?_ | exact Same.nsl rfl | exact Same.tt rfl | exact Same.ff rfl))
      · have h5 : (s .o).getD i 0 ≠ 37 := fun q => h5 (by show zi ((s .o).getD (zi i).toNat 0).toNat = 37; rw [hz, q]; rfl)
        rw [hdr, decE_plain h5] at h3
        cbv
        refine app_one u8Ch 0 bs ((s .o).getD (zi i).toNat 0) rfl (fun i hi => rfl) rfl rfl (by omega) ?_
        rw [hz]
        cbv
        refine ⟨(i + 1, bs ++ [(s .o).getD i 0]), ⟨h4, by show (bs ++ [(s .o).getD i 0]).length ≤ i + 1; simp only [List.length_append, List.length_cons, List.length_nil]; omega, ?_⟩, by show (s .o).length - (i + 1) < (s .o).length - i; omega, ?_⟩
        · show _ = (decE ((s .o).drop (i + 1))).map ((bs ++ [(s .o).getD i 0]) ++ ·)
          rw [h3]
          cases decE ((s .o).drop (i + 1)) <;> simp
        · cbv
          rw [zi_succ (by omega)]
          (repeat' (first | exact True.intro | exact Same.refl _ | exact SameB.refl _ | exact ⟨rfl⟩ | exact Same.int rfl | exact Same.str rfl | exact Same.bool rfl | (refine Same.int ?_; simp only [List.length_append, List.length_cons, List.length_nil, zi]; omega) | (refine SameB.row' rfl fun i hi => ?_; first | rfl | exact absurd hi (Nat.not_lt_zero _)) | refine And.intro ?_ ?_ | refine SameB.cells ?_ | exact SameC.nil | refine SameC.cons ?_ ?_ | exact Same.nsl rfl | exact Same.tt rfl | exact Same.ff rfl))
    · have h4 : (s .o).length ≤ i := h4
      have hdec : decE (s .o) = some bs := by
        rw [h3, List.drop_of_length_le h4, decE.eq_def]; simp
      have hbe : bytesN bs.length (fun q => u8Ch fun _ => bs.getD (q .o) 0) = bs := bytes_u8 bs rfl fun i hi => rfl
      cbv
      refine safe (fun i hi => ⟨_, rfl⟩) ?_
      refine esc_c (fun _ => bytesN bs.length (fun q => u8Ch fun _ => bs.getD (q .o) 0)) (by rw [hbe]; omega) fun t ht => ?_
      rw [hbe] at ht
      cbv
      refine br_ndec (fun h5 => ?_) (fun h5 => ?_)
      · have h5 : ¬ t .o = s .o := h5
        cbv
        refine DefAt.use [(10000, 2), (10001, 3)] [.nif, .ptr 10000 0, .ptr 10001 0] (by kernel_rfl) rfl (eend_c (fun _ => []) false ?_)
        cbv
        refine ⟨_, .ret (.tup (.cons (.str rfl) (.cons (.ff rfl) .nil))), hr (fun _ => []) (fun _ => false) (.inr ⟨rfl, rfl, fun u hu => ?_⟩)⟩
        have := dec_esc u
        rw [hu, hdec] at this
        have : bs = u := Option.some.inj this
        exact h5 (by rw [ht, this, hu])
      · have h5 : t .o = s .o := h5
        cbv
        refine safe (fun i hi => ⟨_, rfl⟩) ?_
        refine DefAt.use [(10000, 2), (10001, 3)] [.nif, .ptr 10000 0, .ptr 10001 0] (by kernel_rfl) rfl (eend_c (fun _ => bytesN bs.length (fun q => u8Ch fun _ => bs.getD (q .o) 0)) true ?_)
        cbv
        refine ⟨_, .ret (.tup (.cons (.str hbe) (.cons (.tt rfl) .nil))), hr (fun _ => bs) (fun _ => true) (.inl ⟨rfl, by rw [← ht, h5]⟩)⟩
end Go.Proofs.Ytjjddmbnfkmfdaa
/- Escaped names told again, the document's way: walked. -/
namespace Go.Proofs.Ytjjddmbnfkmfdaa
open Go Go.Proofs.Ytjjddmbnfkmfdaa.Sx F
set_option linter.unusedVariables false
set_option linter.unusedSimpArgs false
end Go.Proofs.Ytjjddmbnfkmfdaa
/- Bytes by 64 letters, told again, in plain Lean. -/
namespace Go.Proofs.Ytjjddmbnfkmfdaa
open Go Go.Proofs.Ytjjddmbnfkmfdaa.Sx
set_option linter.unusedVariables false
set_option linter.unusedSimpArgs false
def sixL : List UInt8 := [65, 66, 67, 68, 69, 70, 71, 72, 73, 74, 75, 76, 77, 78, 79, 80, 81, 82, 83, 84, 85, 86, 87, 88, 89, 90, 97, 98, 99, 100, 101, 102, 103, 104, 105, 106, 107, 108, 109, 110, 111, 112, 113, 114, 115, 116, 117, 118, 119, 120, 121, 122, 48, 49, 50, 51, 52, 53, 54, 55, 56, 57, 43, 47]
def num3 (s : List UInt8) : Nat := (s.getD 0 0).toNat * 65536 + (s.getD 1 0).toNat * 256 + (s.getD 2 0).toNat
def let4 (n k i : Nat) : UInt8 := if i ≤ k then sixL.getD (n / 64 ^ (3 - i) % 64) 0 else 61
def six4 (s : List UInt8) : List UInt8 := [let4 (num3 s) s.length 0, let4 (num3 s) s.length 1, let4 (num3 s) s.length 2, let4 (num3 s) s.length 3]
def sixtyS : List UInt8 → List UInt8
  | [] => []
  | [a] => six4 [a]
  | [a, b] => six4 [a, b]
  | a :: b :: c :: r => six4 [a, b, c] ++ sixtyS r
def sixI (c : UInt8) : Option Nat := sixL.findIdx? (· == c)
theorem sixI_at : ∀ k : Fin 64, sixI (sixL.getD k.1 0) = some k.1 ∧ sixL.getD k.1 0 ≠ 61 := by decide +kernel
theorem sixI_mod (n : Nat) : sixI (sixL.getD (n % 64) 0) = some (n % 64) ∧ sixL.getD (n % 64) 0 ≠ 61 := sixI_at ⟨n % 64, Nat.mod_lt _ (by decide)⟩
/-- One letter more. -/
def st4 (x : Option (Nat × Nat)) (i : Nat) (c : UInt8) : Option (Nat × Nat) :=
  match x with
  | none => none
  | some (n, m) => if c = 61 ∧ 1 < i then some (n * 64, min m (i - 1)) else match sixI c with
    | some k => some (n * 64 + k, m)
    | none => none
def out4 (x : Option (Nat × Nat)) : Option (List UInt8) := match x with | some (n, m) => some (([n / 65536, n / 256, n].map UInt8.ofNat).take m) | none => none
/-- Four letters as bytes, all or the first of them. -/
def run4 : Option (Nat × Nat) → Nat → List UInt8 → Option (Nat × Nat)
  | x, _, [] => x
  | x, i, c :: r => run4 (st4 x i c) (i + 1) r
def un4 (s : List UInt8) : Option (List UInt8) := out4 (run4 (some (0, 3)) 0 s)
theorem st_let {n m i N k : Nat} (hi : i ≤ k) : st4 (some (n, m)) i (let4 N k i) = some (n * 64 + N / 64 ^ (3 - i) % 64, m) := by
  unfold st4 let4
  rw [if_pos hi]
  obtain ⟨h1, h2⟩ := sixI_mod (N / 64 ^ (3 - i))
  simp only [h1, h2, false_and, if_false]
theorem st_pad {n m i N k : Nat} (hi : ¬ i ≤ k) (h1 : 1 < i) : st4 (some (n, m)) i (let4 N k i) = some (n * 64, min m (i - 1)) := by
  unfold st4 let4
  rw [if_neg hi]
  simp [h1]
theorem ofNat_eq {x : Nat} {a : UInt8} (h : x % 256 = a.toNat) : UInt8.ofNat x = a := UInt8.toNat_inj.1 (by rw [UInt8.toNat_ofNat']; exact h)
theorem num_lt (a b c : UInt8) : num3 [a, b, c] = a.toNat * 65536 + b.toNat * 256 + c.toNat := rfl
theorem un_six3 (a b c : UInt8) : un4 (six4 [a, b, c]) = some [a, b, c] := by
  have ha := a.toNat_lt
  have hb := b.toNat_lt
  have hc := c.toNat_lt
  unfold un4 six4 run4 run4 run4 run4 run4
  rw [st_let (by simp), st_let (by simp), st_let (by simp), st_let (by simp)]
  unfold out4
  rw [num_lt]
  simp only [List.map_cons, List.map_nil, List.take]
  rw [ofNat_eq (a := a) (by omega), ofNat_eq (a := b) (by omega), ofNat_eq (a := c) (by omega)]
theorem un_six2 (a b : UInt8) : un4 (six4 [a, b]) = some [a, b] := by
  have ha := a.toNat_lt
  have hb := b.toNat_lt
  unfold un4 six4 run4 run4 run4 run4 run4
  rw [st_let (by simp), st_let (by simp), st_let (by simp), st_pad (by simp) (by decide)]
  unfold out4
  rw [show num3 [a, b] = a.toNat * 65536 + b.toNat * 256 by simp [num3]]
  simp only [List.map_cons, List.map_nil, List.take]
  rw [ofNat_eq (a := a) (by omega), ofNat_eq (a := b) (by omega)]
  simp
theorem un_six1 (a : UInt8) : un4 (six4 [a]) = some [a] := by
  have ha := a.toNat_lt
  unfold un4 six4 run4 run4 run4 run4 run4
  rw [st_let (by simp), st_let (by simp), st_pad (by simp) (by decide), st_pad (by simp) (by decide)]
  unfold out4
  rw [show num3 [a] = a.toNat * 65536 by simp [num3]]
  simp only [List.map_cons, List.map_nil, List.take]
  rw [ofNat_eq (a := a) (by omega)]
  simp
end Go.Proofs.Ytjjddmbnfkmfdaa
/- Bits of whole numbers of 64 bits that are not negative: plain. -/
namespace Go.Proofs.Ytjjddmbnfkmfdaa
open Go Go.Proofs.Ytjjddmbnfkmfdaa.Sx
set_option linter.unusedVariables false
set_option linter.unusedSimpArgs false
theorem toNat64 {a : Nat} (h : a < 4611686018427387904) : (BitVec.ofInt 64 (a : Int)).toNat = a := by
  rw [BitVec.ofInt_natCast, BitVec.toNat_ofNat]; exact Nat.mod_eq_of_lt (by omega)
theorem and64 {a b : Nat} (ha : a < 4611686018427387904) (hb : b < 4611686018427387904) : bits .and .i64 (a : Int) (b : Int) = ((a &&& b : Nat) : Int) := by
  have hx : a &&& b ≤ a := Nat.and_le_left
  show IntKind.i64.wrap ((BitVec.ofInt 64 (a : Int) &&& BitVec.ofInt 64 (b : Int)).toNat : Int) = _
  rw [BitVec.toNat_and, toNat64 ha, toNat64 hb, IntKind.wrap_i64]
  omega
theorem or64 {a b : Nat} (ha : a < 4611686018427387904) (hb : b < 4611686018427387904) : bits .or .i64 (a : Int) (b : Int) = ((a ||| b : Nat) : Int) := by
  have hx : a ||| b < 2 ^ 62 := Nat.or_lt_two_pow (by omega) (by omega)
  show IntKind.i64.wrap ((BitVec.ofInt 64 (a : Int) ||| BitVec.ofInt 64 (b : Int)).toNat : Int) = _
  rw [BitVec.toNat_or, toNat64 ha, toNat64 hb, IntKind.wrap_i64]
  omega
theorem fdiv_pow (n : Int) (k : Nat) : n.fdiv (2 ^ k) = n / 2 ^ k := by
  rw [Int.fdiv_eq_ediv_of_nonneg]
  exact Int.le_of_lt (Int.pow_pos (by decide))
end Go.Proofs.Ytjjddmbnfkmfdaa
/- Bytes by 64 letters, the document's way: walked. -/
namespace Go.Proofs.Ytjjddmbnfkmfdaa
open Go Go.Proofs.Ytjjddmbnfkmfdaa.Sx F
set_option linter.unusedVariables false
set_option linter.unusedSimpArgs false
theorem sixty_step : ∀ {s : List UInt8}, s ≠ [] → sixtyS s = six4 (s.take 3) ++ sixtyS (s.drop 3)
  | [], h => absurd rfl h
  | [a], _ => by simp [sixtyS]
  | [a, b], _ => by simp [sixtyS]
  | a :: b :: c :: r, _ => by simp [sixtyS]
theorem six4_len (g : List UInt8) : (six4 g).length = 4 := rfl
theorem sixty_len : ∀ s : List UInt8, (sixtyS s).length ≤ 4 * s.length
  | [] => Nat.le_refl _
  | [a] => by show 4 ≤ 4; omega
  | [a, b] => by show 4 ≤ 8; omega
  | a :: b :: c :: r => by
    have := sixty_len r
    simp only [sixtyS, List.length_append, six4_len, List.length_cons]
    omega
/-- The first j bytes of a group as a number, zeros behind its end. -/
def numJ (g : List UInt8) : Nat → Nat
  | 0 => 0
  | j + 1 => numJ g j * 256 + (g.getD j 0).toNat
theorem numJ_lt (g : List UInt8) : ∀ j, numJ g j < 256 ^ j
  | 0 => (by show 0 < 1; decide)
  | j + 1 => by
    have h1 := numJ_lt g j
    have h2 := (g.getD j 0).toNat_lt
    rw [numJ, Nat.pow_succ]
    have : (numJ g j + 1) * 256 ≤ 256 ^ j * 256 := Nat.mul_le_mul_right _ h1
    omega
theorem numJ_3 (g : List UInt8) : numJ g 3 = num3 g := by
  simp only [numJ, num3]
  omega
theorem or_add {n c : Nat} (hc : c < 256) : n * 256 ||| c = n * 256 + c := by
  have := Nat.two_pow_add_eq_or_of_lt (i := 8) (b := c) hc n
  rw [Nat.mul_comm n 256]
  exact this.symm
theorem shl8 {n : Nat} (h : n < 16777216) : IntKind.i64.wrap (zi n * 2 ^ min (Int.toNat 8) IntKind.i64.bits) = zi (n * 256) := by
  have e : (2 : Int) ^ min (Int.toNat 8) IntKind.i64.bits = 256 := by decide
  rw [e, IntKind.wrap_i64]; unfold zi; omega
theorem let_at {n j : Nat} (hn : n < 16777216) (hj : j < 4) : abits .and .i64 ((zi n).fdiv (2 ^ min (IntKind.i64.wrap (18 - IntKind.i64.wrap (6 * zi j))).toNat IntKind.i64.bits)) 63 = zi (n / 64 ^ (3 - j) % 64) := by
  have e1 : IntKind.i64.wrap (6 * zi j) = 6 * zi j := by rw [IntKind.wrap_i64]; unfold zi; omega
  have e2 : IntKind.i64.wrap (18 - 6 * zi j) = zi (18 - 6 * j) := by rw [IntKind.wrap_i64]; unfold zi; omega
  have e3 : min (zi (18 - 6 * j)).toNat IntKind.i64.bits = 18 - 6 * j := by rw [zi_toNat]; show min _ 64 = _; omega
  have e4 : (2 : Nat) ^ (18 - 6 * j) = 64 ^ (3 - j) := by
    rw [show 18 - 6 * j = 6 * (3 - j) by omega, Nat.pow_mul]
  rw [e1, e2, e3, fdiv_pow]
  have e5 : (zi n) / 2 ^ (18 - 6 * j) = ((n / 64 ^ (3 - j) : Nat) : Int) := by
    rw [← e4, Int.natCast_ediv]
    unfold zi
    norm_cast
  have h1 : n / 64 ^ (3 - j) ≤ n := Nat.div_le_self _ _
  rw [e5]
  show bits .and .i64 ((n / 64 ^ (3 - j) : Nat) : Int) ((63 : Nat) : Int) = _
  rw [and64 (by omega) (by decide)]
  have : n / 64 ^ (3 - j) &&& 63 = n / 64 ^ (3 - j) % 64 := Nat.and_two_pow_sub_one_eq_mod _ 6
  rw [this]; rfl
theorem sh_ok {j : Nat} (hj : j < 4) : 0 ≤ IntKind.i64.wrap (18 - IntKind.i64.wrap (6 * zi j)) := by
  have e1 : IntKind.i64.wrap (6 * zi j) = 6 * zi j := by rw [IntKind.wrap_i64]; unfold zi; omega
  have e2 : IntKind.i64.wrap (18 - 6 * zi j) = zi (18 - 6 * j) := by rw [IntKind.wrap_i64]; unfold zi; omega
  rw [e1, e2]
  exact zi_nonneg _
theorem letters_c {d : Nat} {K : ARes → BL → Prop} (hr : K (.ret (.str fun _ => sixL)) .nil) : CallAt PT r1_letters [] d .nil K := by
  refine r1_letters.of rfl rfl ?_
  cbv
  exact hr
theorem r1sixty_c (s : Th (List UInt8)) (hs : (s .o).length ≤ 1000000) {d : Nat} {K : ARes → BL → Prop} (hr : ∀ t : Th (List UInt8), t .o = sixtyS (s .o) → K (.ret (.str t)) .nil) : CallAt PT r1_Sixty [.str s] d .nil K := by
  refine CallAt.res ?_
  refine r1_Sixty.of rfl rfl ?_
  cbv
  refine letters_c ?_
  have hLl : sixL.length = 64 := rfl
  generalize hSL : sixL = SL at hLl
  cbv
  refine nil_tmp 4 9000 1 (fun i => u8Ch fun _ => ([] : List UInt8).getD (i .o) 0) rfl rfl ?_
  refine loop_at (X := Nat × List UInt8) 1000 [0, 3] [] (fun _ x => .cons 4 (.row 9000) (.cons 5 (.int .i64 fun _ => zi x.1) .nil)) (fun _ x => .cons 9000 (rowB 1 u8Ch 0 fun _ => x.2) .nil)
    (fun x => x.1 ≤ (s .o).length + 2 ∧ x.2.length ≤ 4 * x.1 ∧ sixtyS (s .o) = x.2 ++ sixtyS ((s .o).drop x.1)) (fun x => (s .o).length + 2 - x.1) (0, []) ?_ ⟨Nat.zero_le _, Nat.le_refl _, rfl⟩ ?_
  · cbv
    (repeat' (first | exact True.intro | exact Same.refl _ | exact SameB.refl _ | exact ⟨rfl⟩ | exact Same.int rfl | exact Same.str rfl | exact Same.bool rfl | (refine Same.int ?_; simp only [List.length_append, List.length_cons, List.length_nil, zi]; omega) | (refine SameB.row' rfl fun i hi => ?_; first | rfl | exact absurd hi (Nat.not_lt_zero _)) | refine And.intro ?_ ?_ | refine SameB.cells ?_ | exact SameC.nil | refine SameC.cons ?_ ?_ | exact Same.nsl rfl | exact Same.tt rfl | exact Same.ff rfl))
  · rintro ⟨i, bs⟩ ⟨h2, h2b, h3⟩
    dsimp only at h2 h2b h3
    have hz := zi_toNat i
    cbv
    refine br_zlt (fun h4 => ?_) (fun h4 => ?_)
    · have h4 : i < (s .o).length := h4
      have hne : (s .o).drop i ≠ [] := fun q => by have := congrArg List.length q; rw [List.length_drop, List.length_nil] at this; omega
      rw [sixty_step hne, List.drop_drop] at h3
      obtain ⟨g, hg⟩ : ∃ g, g = ((s .o).drop i).take 3 := ⟨_, rfl⟩
      have hgl : g.length = min 3 ((s .o).length - i) := by rw [hg, List.length_take, List.length_drop]
      have hgd : ∀ j, j < g.length → (s .o).getD (i + j) 0 = g.getD j 0 := fun j hj => by
        rw [hg, getD_take _ _ _ _ (by omega), getD_drop]
      have hgo : ∀ j, g.length ≤ j → g.getD j 0 = 0 := fun j hj => by rw [List.getD_eq_getElem?_getD, List.getElem?_eq_none hj]; rfl
      rw [← hg] at h3
      have hg1 : 1 ≤ g.length := by omega
      have hk : (if IntKind.i64.wrap (zi (s .o).length - zi i) < 3 then IntKind.i64.wrap (zi (s .o).length - zi i) else 3) = zi g.length := by
        have e : IntKind.i64.wrap (zi (s .o).length - zi i) = zi ((s .o).length - i) := by rw [IntKind.wrap_i64]; unfold zi; omega
        rw [e, hgl]
        unfold zi
        split <;> omega
      cbv
      simp only [hk]
      refine loop_at (X := Nat) 1000 [0, 3, 4, 5, 7] [9000] (fun _ j => .cons 6 (.int .i64 fun _ => zi (numJ g j)) (.cons 8 (.int .i64 fun _ => zi j) .nil)) (fun _ _ => .nil) (fun j => j ≤ 3) (fun j => 3 - j) 0 ?_ (Nat.zero_le _) ?_
      · cbv
        (repeat' (first | exact True.intro | exact Same.refl _ | exact SameB.refl _ | exact ⟨rfl⟩ | exact Same.int rfl | exact Same.str rfl | exact Same.bool rfl | (refine Same.int ?_; simp only [List.length_append, List.length_cons, List.length_nil, zi]; omega) | (refine SameB.row' rfl fun i hi => ?_; first | rfl | exact absurd hi (Nat.not_lt_zero _)) | refine And.intro ?_ ?_ | refine SameB.cells ?_ | exact SameC.nil | refine SameC.cons ?_ ?_ | exact Same.nsl rfl | exact Same.tt rfl | exact Same.ff rfl))
      · intro j hj
        have hnl := numJ_lt g j
        cbv
        refine br_dec (fun h5 => ?_) (fun h5 => ?_)
        · have h5 : j < 3 := by have h5 : zi j < 3 := h5; unfold zi at h5; omega
          have hnl2 : numJ g j < 65536 := by
            have h := Nat.pow_le_pow_right (n := 256) (by omega) (show j ≤ 2 by omega)
            omega
          cbv
          refine safe (by decide) ?_
          rw [shl8 (by omega)]
          refine br_dec (fun h6 => ?_) (fun h6 => ?_)
          · have h6 : j < g.length := zi_lt.1 h6
            have e1 : IntKind.i64.wrap (zi i + zi j) = zi (i + j) := by rw [IntKind.wrap_i64]; unfold zi; omega
            have hc := ((s .o).getD (i + j) 0).toNat_lt
            have e2 : IntKind.i64.wrap (zi ((s .o).getD (i + j) 0).toNat) = zi ((s .o).getD (i + j) 0).toNat := by rw [IntKind.wrap_i64]; unfold zi; omega
            have e3 : abits .or .i64 (zi (numJ g j * 256)) (zi ((s .o).getD (i + j) 0).toNat) = zi (numJ g (j + 1)) := by
              show bits .or .i64 ((numJ g j * 256 : Nat) : Int) (((s .o).getD (i + j) 0).toNat : Int) = _
              rw [or64 (by omega) (by omega), or_add (by omega), numJ, hgd j h6]
              rfl
            cbv
            rw [e1]
            refine safe ⟨zi_nonneg _, zi_lt.2 (by omega)⟩ ?_
            refine ⟨j + 1, h5, by show 3 - (j + 1) < 3 - j; omega, ?_⟩
            cbv
            rw [zi_succ (by omega)]
            (repeat' (first | exact True.intro | exact Same.refl _ | exact SameB.refl _ | exact ⟨rfl⟩ | exact Same.int rfl | exact Same.str rfl | exact Same.bool rfl | (refine Same.int ?_; simp only [List.length_append, List.length_cons, List.length_nil, zi]; omega) | (refine SameB.row' rfl fun i hi => ?_; first | rfl | exact absurd hi (Nat.not_lt_zero _)) | refine And.intro ?_ ?_ | refine SameB.cells ?_ | exact SameC.nil | refine SameC.cons ?_ ?_ | exact Same.nsl rfl | exact Same.tt rfl | exact Same.ff rfl))
            all_goals (refine Same.int ?_; show abits .or .i64 (zi (numJ g j * 256)) (IntKind.i64.wrap (zi ((s .o).getD (zi (i + j)).toNat 0).toNat)) = _; rw [zi_toNat, e2, e3])
          · have h6 : g.length ≤ j := not_zlt h6
            cbv
            refine ⟨j + 1, h5, by show 3 - (j + 1) < 3 - j; omega, ?_⟩
            have e3 : zi (numJ g j * 256) = zi (numJ g (j + 1)) := by rw [numJ, hgo j h6]; show zi _ = zi (_ + 0); rw [Nat.add_zero]
            rw [zi_succ (by omega)]
            simp only [e3]
            generalize numJ g (j + 1) = q
            cbv
            (repeat' (first | exact True.intro | exact Same.refl _ | exact SameB.refl _ | exact ⟨rfl⟩ | exact Same.int rfl | exact Same.str rfl | exact Same.bool rfl | (refine Same.int ?_; simp only [List.length_append, List.length_cons, List.length_nil, zi]; omega) | (refine SameB.row' rfl fun i hi => ?_; first | rfl | exact absurd hi (Nat.not_lt_zero _)) | refine And.intro ?_ ?_ | refine SameB.cells ?_ | exact SameC.nil | refine SameC.cons ?_ ?_ | exact Same.nsl rfl | exact Same.tt rfl | exact Same.ff rfl))
        · obtain rfl : j = 3 := by have h5 : ¬ zi j < 3 := h5; unfold zi at h5; omega
          rw [numJ_3] at hnl
          have hnl : num3 g < 16777216 := Nat.lt_of_lt_of_eq hnl (by rfl)
          cbv
          rw [numJ_3]
          generalize hNN : num3 g = NN at hnl
          have hsix : ∀ j, j < 4 → (six4 g).getD j 0 = let4 NN g.length j := fun j hj => by
            rw [← hNN]
            match j, hj with
            | 0, _ | 1, _ | 2, _ | 3, _ => rfl
          have htk : ∀ j, j < 4 → (six4 g).take (j + 1) = (six4 g).take j ++ [let4 NN g.length j] := fun j hj => by
            rw [List.take_succ_eq_append_getElem (by rw [six4_len]; exact hj), ← hsix j hj, List.getD_eq_getElem?_getD, List.getElem?_eq_getElem (by rw [six4_len]; exact hj)]; rfl
          have hgl3 : g.length ≤ 3 := by omega
          refine loop_at (X := Nat) 1000 [0, 3, 5, 6, 7] [] (fun _ j => .cons 4 (.row 9000) (.cons 9 (.int .i64 fun _ => zi j) .nil)) (fun _ j => .cons 9000 (rowB 1 u8Ch 0 fun _ => bs ++ (six4 g).take j) .nil) (fun j => j ≤ 4) (fun j => 4 - j) 0 ?_ (Nat.zero_le _) ?_
          · cbv
            (repeat' (first | exact True.intro | exact Same.refl _ | exact SameB.refl _ | exact ⟨rfl⟩ | exact Same.int rfl | exact Same.str rfl | exact Same.bool rfl | (refine Same.int ?_; simp only [List.length_append, List.length_cons, List.length_nil, zi]; omega) | (refine SameB.row' rfl fun i hi => ?_; first | rfl | exact absurd hi (Nat.not_lt_zero _)) | refine And.intro ?_ ?_ | refine SameB.cells ?_ | exact SameC.nil | refine SameC.cons ?_ ?_ | exact Same.nsl rfl | exact Same.tt rfl | exact Same.ff rfl))
            all_goals (refine SameB.row' (by show bs.length = (bs ++ []).length; simp) fun q hq => ?_; show u8Ch (fun _ => bs.getD q 0) = u8Ch fun _ => (bs ++ []).getD q 0; rw [List.append_nil])
          · intro j hj
            have hrl : (bs ++ (six4 g).take j).length = bs.length + j := by rw [List.length_append, List.length_take, six4_len]; omega
            cbv
            refine br_dec (fun h6 => ?_) (fun h6 => ?_)
            · have h6 : j < 4 := by have h6 : zi j < 4 := h6; unfold zi at h6; omega
              have hla := let_at (n := NN) hnl h6
              cbv
              refine br_dec (fun h7 => ?_) (fun h7 => ?_)
              · have h7 : j ≤ g.length := by have h7 : zi j ≤ zi g.length := h7; unfold zi at h7; omega
                have hlet : let4 NN g.length j = SL.getD (NN / 64 ^ (3 - j) % 64) 0 := by unfold let4; rw [if_pos h7, hSL]
                cbv
                simp only [hla]
                refine safe (sh_ok h6) ?_
                refine safe ⟨zi_nonneg _, zi_lt.2 (by rw [hLl]; exact Nat.mod_lt _ (by omega))⟩ ?_
                refine app_one u8Ch 0 (bs ++ (six4 g).take j) (SL.getD (NN / 64 ^ (3 - j) % 64) 0) rfl (fun i hi => rfl) rfl (by rw [zi_toNat]; rfl) (by rw [hrl]; omega) ?_
                cbv
                refine ⟨j + 1, h6, by show 4 - (j + 1) < 4 - j; omega, ?_⟩
                have e : bs ++ (six4 g).take (j + 1) = (bs ++ (six4 g).take j) ++ [SL.getD (NN / 64 ^ (3 - j) % 64) 0] := by rw [htk j h6, hlet, List.append_assoc]
                rw [e]
                cbv
                rw [zi_succ (by omega)]
                (repeat' (first | exact True.intro | exact Same.refl _ | exact SameB.refl _ | exact ⟨rfl⟩ | exact Same.int rfl | exact Same.str rfl | exact Same.bool rfl | (refine Same.int ?_; simp only [List.length_append, List.length_cons, List.length_nil, zi]; omega) | (refine SameB.row' rfl fun i hi => ?_; first | rfl | exact absurd hi (Nat.not_lt_zero _)) | refine And.intro ?_ ?_ | refine SameB.cells ?_ | exact SameC.nil | refine SameC.cons ?_ ?_ | exact Same.nsl rfl | exact Same.tt rfl | exact Same.ff rfl))
              · have h7 : g.length < j := by have h7 : ¬ zi j ≤ zi g.length := h7; unfold zi at h7; omega
                have hlet : let4 NN g.length j = 61 := by unfold let4; rw [if_neg (by omega)]
                cbv
                refine app_one u8Ch 0 (bs ++ (six4 g).take j) 61 rfl (fun i hi => rfl) rfl rfl (by rw [hrl]; omega) ?_
                cbv
                refine ⟨j + 1, h6, by show 4 - (j + 1) < 4 - j; omega, ?_⟩
                have e : bs ++ (six4 g).take (j + 1) = (bs ++ (six4 g).take j) ++ [61] := by rw [htk j h6, hlet, List.append_assoc]
                rw [e]
                cbv
                rw [zi_succ (by omega)]
                (repeat' (first | exact True.intro | exact Same.refl _ | exact SameB.refl _ | exact ⟨rfl⟩ | exact Same.int rfl | exact Same.str rfl | exact Same.bool rfl | (refine Same.int ?_; simp only [List.length_append, List.length_cons, List.length_nil, zi]; omega) | (refine SameB.row' rfl fun i hi => ?_; first | rfl | exact absurd hi (Nat.not_lt_zero _)) | refine And.intro ?_ ?_ | refine SameB.cells ?_ | exact SameC.nil | refine SameC.cons ?_ ?_ | exact Same.nsl rfl | exact Same.tt rfl | exact Same.ff rfl))
            · obtain rfl : j = 4 := by have h6 : ¬ zi j < 4 := h6; unfold zi at h6; omega
              cbv
              have e4 : (six4 g).take 4 = six4 g := rfl
              have e3 : IntKind.i64.wrap (zi i + 3) = zi (i + 3) := by rw [IntKind.wrap_i64]; unfold zi; omega
              rw [e3]
              refine ⟨(i + 3, bs ++ six4 g), ⟨by show i + 3 ≤ _; omega, by show (bs ++ six4 g).length ≤ 4 * (i + 3); rw [List.length_append, six4_len]; omega, by show _ = (bs ++ six4 g) ++ sixtyS ((s .o).drop (i + 3)); rw [h3, List.append_assoc]⟩, by show (s .o).length + 2 - (i + 3) < (s .o).length + 2 - i; omega, ?_⟩
              rw [e4]
              cbv
              (repeat' (first | exact True.intro | exact Same.refl _ | exact SameB.refl _ | exact ⟨rfl⟩ | exact Same.int rfl | exact Same.str rfl | exact Same.bool rfl | (refine Same.int ?_; simp only [List.length_append, List.length_cons, List.length_nil, zi]; omega) | (refine SameB.row' rfl fun i hi => ?_; first | rfl | exact absurd hi (Nat.not_lt_zero _)) | refine And.intro ?_ ?_ | refine SameB.cells ?_ | exact SameC.nil | refine SameC.cons ?_ ?_ | exact Same.nsl rfl | exact Same.tt rfl | exact Same.ff rfl))
    · have h4 : (s .o).length ≤ i := h4
      rw [List.drop_of_length_le h4] at h3
      have h3 : sixtyS (s .o) = bs := by rw [h3]; simp [sixtyS]
      cbv
      refine safe (fun i hi => ⟨_, rfl⟩) ?_
      refine ⟨_, .ret (Same.refl _), hr _ ?_⟩
      rw [h3]
      exact bytes_u8 bs rfl fun i hi => rfl
end Go.Proofs.Ytjjddmbnfkmfdaa
/- Bytes by 64 letters: sixty.put. -/
namespace Go.Proofs.Ytjjddmbnfkmfdaa
open Go Go.Proofs.Ytjjddmbnfkmfdaa.Sx F
set_option linter.unusedVariables false
set_option linter.unusedSimpArgs false
/-- Four letters, the first j of them there. -/
def fourJ (g : List UInt8) (j : Nat) : List UInt8 := (six4 g).take j ++ List.replicate (4 - j) 0
theorem fourJ_len (g : List UInt8) {j : Nat} (h : j ≤ 4) : (fourJ g j).length = 4 := by
  simp only [fourJ, List.length_append, List.length_take, six4_len, List.length_replicate]; omega
theorem fourJ_set (g : List UInt8) {j : Nat} (h : j < 4) : (fourJ g j).set j (let4 (num3 g) g.length j) = fourJ g (j + 1) := by
  match j, h with
  | 0, _ | 1, _ | 2, _ | 3, _ => rfl
theorem let_at' {n j : Nat} (hn : n < 16777216) (hj : j < 4) : abits .and .i64 ((zi n).fdiv (2 ^ min (IntKind.i64.wrap (IntKind.i64.wrap (3 - zi j) * 6)).toNat IntKind.i64.bits)) 63 = zi (n / 64 ^ (3 - j) % 64) := by
  have h := let_at hn hj
  have e1 : IntKind.i64.wrap (6 * zi j) = 6 * zi j := by rw [IntKind.wrap_i64]; unfold zi; omega
  have e2 : IntKind.i64.wrap (18 - 6 * zi j) = zi (18 - 6 * j) := by rw [IntKind.wrap_i64]; unfold zi; omega
  have e3 : IntKind.i64.wrap (3 - zi j) = zi (3 - j) := by rw [IntKind.wrap_i64]; unfold zi; omega
  have e4 : IntKind.i64.wrap (zi (3 - j) * 6) = zi (18 - 6 * j) := by rw [IntKind.wrap_i64]; unfold zi; omega
  rw [e1, e2] at h
  rw [e3, e4]
  exact h
theorem sh_ok' {j : Nat} (hj : j < 4) : 0 ≤ IntKind.i64.wrap (IntKind.i64.wrap (3 - zi j) * 6) := by
  have e3 : IntKind.i64.wrap (3 - zi j) = zi (3 - j) := by rw [IntKind.wrap_i64]; unfold zi; omega
  have e4 : IntKind.i64.wrap (zi (3 - j) * 6) = zi (18 - 6 * j) := by rw [IntKind.wrap_i64]; unfold zi; omega
  rw [e3, e4]
  exact zi_nonneg _
theorem sixput_c (s : Th (List UInt8)) (hs : (s .o).length ≤ 3) {d : Nat} {K : ARes → BL → Prop} (hr : ∀ t : Th (List UInt8), t .o = six4 (s .o) → K (.ret (.str t)) .nil) : CallAt PT sixty_put [.str s] d .nil K := by
  refine CallAt.res ?_
  refine sixty_put.of rfl rfl ?_
  cbv
  refine loop_at (X := Nat) 1000 [0] [] (fun _ j => .cons 3 (.int .i64 fun _ => zi (numJ (s .o) j)) (.cons 7 (.int .i64 fun _ => zi j) .nil)) (fun _ _ => .nil) (fun j => j ≤ 3) (fun j => 3 - j) 0 ?_ (Nat.zero_le _) ?_
  · cbv
    (repeat' (first | exact True.intro | exact Same.refl _ | exact SameB.refl _ | exact ⟨rfl⟩ | exact Same.int rfl | exact Same.str rfl | exact Same.bool rfl | (refine Same.int ?_; simp only [List.length_append, List.length_cons, List.length_nil, zi]; omega) | (refine SameB.row' rfl fun i hi => ?_; first | rfl | exact absurd hi (Nat.not_lt_zero _)) | refine And.intro ?_ ?_ | refine SameB.cells ?_ | exact SameC.nil | refine SameC.cons ?_ ?_ | exact Same.nsl rfl | exact Same.tt rfl | exact Same.ff rfl))
  · intro j hj
    have hnl := numJ_lt (s .o) j
    have hz := zi_toNat j
    cbv
    refine br_dec (fun h5 => ?_) (fun h5 => ?_)
    · have h5 : j < 3 := by have h5 : zi j < 3 := h5; unfold zi at h5; omega
      have hnl2 : numJ (s .o) j < 65536 := by
        have h := Nat.pow_le_pow_right (n := 256) (by omega) (show j ≤ 2 by omega)
        omega
      cbv
      refine safe (by decide) ?_
      rw [shl8 (by omega)]
      refine br_dec (fun h6 => ?_) (fun h6 => ?_)
      · have h6 : j < (s .o).length := zi_lt.1 h6
        have hc := ((s .o).getD j 0).toNat_lt
        have e2 : IntKind.i64.wrap (zi ((s .o).getD j 0).toNat) = zi ((s .o).getD j 0).toNat := by rw [IntKind.wrap_i64]; unfold zi; omega
        have e3 : abits .or .i64 (zi (numJ (s .o) j * 256)) (zi ((s .o).getD j 0).toNat) = zi (numJ (s .o) (j + 1)) := by
          show bits .or .i64 ((numJ (s .o) j * 256 : Nat) : Int) (((s .o).getD j 0).toNat : Int) = _
          rw [or64 (by omega) (by omega), or_add (by omega), numJ]
          rfl
        cbv
        refine safe ⟨zi_nonneg _, zi_lt.2 h6⟩ ?_
        refine ⟨j + 1, h5, by show 3 - (j + 1) < 3 - j; omega, ?_⟩
        cbv
        rw [zi_succ (by omega)]
        (repeat' (first | exact True.intro | exact Same.refl _ | exact SameB.refl _ | exact ⟨rfl⟩ | exact Same.int rfl | exact Same.str rfl | exact Same.bool rfl | (refine Same.int ?_; simp only [List.length_append, List.length_cons, List.length_nil, zi]; omega) | (refine SameB.row' rfl fun i hi => ?_; first | rfl | exact absurd hi (Nat.not_lt_zero _)) | refine And.intro ?_ ?_ | refine SameB.cells ?_ | exact SameC.nil | refine SameC.cons ?_ ?_ | exact Same.nsl rfl | exact Same.tt rfl | exact Same.ff rfl))
        all_goals (refine Same.int ?_; show abits .or .i64 (zi (numJ (s .o) j * 256)) (IntKind.i64.wrap (zi ((s .o).getD (zi j).toNat 0).toNat)) = _; rw [hz, e2, e3])
      · have h6 : (s .o).length ≤ j := not_zlt h6
        have hgo : (s .o).getD j 0 = 0 := by rw [List.getD_eq_getElem?_getD, List.getElem?_eq_none h6]; rfl
        cbv
        refine ⟨j + 1, h5, by show 3 - (j + 1) < 3 - j; omega, ?_⟩
        have e3 : zi (numJ (s .o) j * 256) = zi (numJ (s .o) (j + 1)) := by rw [numJ, hgo]; show zi _ = zi (_ + 0); rw [Nat.add_zero]
        rw [zi_succ (by omega)]
        simp only [e3]
        generalize numJ (s .o) (j + 1) = q
        cbv
        (repeat' (first | exact True.intro | exact Same.refl _ | exact SameB.refl _ | exact ⟨rfl⟩ | exact Same.int rfl | exact Same.str rfl | exact Same.bool rfl | (refine Same.int ?_; simp only [List.length_append, List.length_cons, List.length_nil, zi]; omega) | (refine SameB.row' rfl fun i hi => ?_; first | rfl | exact absurd hi (Nat.not_lt_zero _)) | refine And.intro ?_ ?_ | refine SameB.cells ?_ | exact SameC.nil | refine SameC.cons ?_ ?_ | exact Same.nsl rfl | exact Same.tt rfl | exact Same.ff rfl))
    · obtain rfl : j = 3 := by have h5 : ¬ zi j < 3 := h5; unfold zi at h5; omega
      rw [numJ_3] at hnl
      have hnl : num3 (s .o) < 16777216 := Nat.lt_of_lt_of_eq hnl (by rfl)
      rw [numJ_3]
      generalize hNN : num3 (s .o) = NN at hnl
      cbv
      refine loop_at (X := Nat) 1000 [0, 3, 5] [] (fun _ j => .cons 23 (.int .i64 fun _ => zi j) .nil) (fun _ j => .cons 5 (rowB 1 u8Ch 0 fun _ => fourJ (s .o) j) .nil) (fun j => j ≤ 4) (fun j => 4 - j) 0 ?_ (Nat.zero_le _) ?_
      · cbv
        (repeat' (first | exact True.intro | exact Same.refl _ | exact SameB.refl _ | exact ⟨rfl⟩ | exact Same.int rfl | exact Same.str rfl | exact Same.bool rfl | (refine Same.int ?_; simp only [List.length_append, List.length_cons, List.length_nil, zi]; omega) | (refine SameB.row' rfl fun i hi => ?_; first | rfl | exact absurd hi (Nat.not_lt_zero _)) | refine And.intro ?_ ?_ | refine SameB.cells ?_ | exact SameC.nil | refine SameC.cons ?_ ?_ | exact Same.nsl rfl | exact Same.tt rfl | exact Same.ff rfl))
        all_goals (refine SameB.row' rfl fun i hi => ?_; have hi : i < 4 := hi; match i, hi with | 0, _ | 1, _ | 2, _ | 3, _ => rfl)
      · intro j hj
        have hz := zi_toNat j
        have hrl := fourJ_len (s .o) hj
        have hrz : zi (fourJ (s .o) j).length = 4 := by rw [hrl]; rfl
        cbv
        refine br_dec (fun h6 => ?_) (fun h6 => ?_)
        · have h6 : j < 4 := by have h6 : zi j < 4 := h6; unfold zi at h6; omega
          have hla := let_at' (n := NN) hnl h6
          cbv
          refine safe (sh_ok' h6) ?_
          simp only [hla]
          refine safe ⟨zi_nonneg _, zi_lt.2 (Nat.mod_lt _ (by decide))⟩ ?_
          refine safe ⟨zi_nonneg _, zi_lt.2 (by omega), zi_lt.2 h6⟩ ?_
          obtain ⟨lt, hlt⟩ : ∃ c, c = sixL.getD (NN / 64 ^ (3 - j) % 64) 0 := ⟨_, rfl⟩
          refine put_rows u8Ch 0 (fourJ (s .o) j) lt rfl (fun i hi => rfl) (by show (zi j).toNat < _; omega) (by rw [zi_toNat, hlt]; rfl) ?_
          have hsl : ((fourJ (s .o) j).set j lt).length = 4 := by rw [List.length_set]; exact hrl
          have hset : (if j ≤ (s .o).length then (fourJ (s .o) j).set j lt else ((fourJ (s .o) j).set j lt).set j 61) = fourJ (s .o) (j + 1) := by
            rw [← fourJ_set (s .o) h6, hNN]
            unfold let4
            split
            · rw [hlt]
            · rw [List.set_set]
          rw [hz]
          generalize hFF : (fourJ (s .o) j).set j lt = FF at hsl hset
          cbv
          refine br_dec (fun h7 => ?_) (fun h7 => ?_)
          · have h7 : ¬ j ≤ (s .o).length := by have h7 : zi (s .o).length < zi j := h7; unfold zi at h7; omega
            rw [if_neg h7] at hset
            cbv
            refine safe ⟨zi_nonneg _, zi_lt.2 (by show j < (fourJ (s .o) j).length; omega), zi_lt.2 h6⟩ ?_
            refine put_rows u8Ch 0 FF 61 (by show (fourJ (s .o) j).length = _; omega) (fun i hi => rfl) (by show (zi j).toNat < _; omega) rfl ?_
            rw [hz, hset]
            have hl2 : (fourJ (s .o) j).length = (fourJ (s .o) (j + 1)).length := by rw [hrl, fourJ_len _ (by omega)]
            cbv
            refine ⟨j + 1, h6, by show 4 - (j + 1) < 4 - j; omega, ?_⟩
            cbv
            rw [zi_succ (by omega)]
            (repeat' (first | exact True.intro | exact Same.refl _ | exact SameB.refl _ | exact ⟨rfl⟩ | exact Same.int rfl | exact Same.str rfl | exact Same.bool rfl | (refine Same.int ?_; simp only [List.length_append, List.length_cons, List.length_nil, zi]; omega) | (refine SameB.row' rfl fun i hi => ?_; first | rfl | exact absurd hi (Nat.not_lt_zero _)) | refine And.intro ?_ ?_ | refine SameB.cells ?_ | exact SameC.nil | refine SameC.cons ?_ ?_ | exact Same.nsl rfl | exact Same.tt rfl | exact Same.ff rfl))
            all_goals (refine SameB.row' hl2 fun i hi => rfl)
          · have h7 : j ≤ (s .o).length := by have h7 : ¬ zi (s .o).length < zi j := h7; unfold zi at h7; omega
            rw [if_pos h7] at hset
            subst hset
            have hl2 : (fourJ (s .o) j).length = (fourJ (s .o) (j + 1)).length := by rw [hrl, fourJ_len _ (by omega)]
            cbv
            refine ⟨j + 1, h6, by show 4 - (j + 1) < 4 - j; omega, ?_⟩
            cbv
            rw [zi_succ (by omega)]
            (repeat' (first | exact True.intro | exact Same.refl _ | exact SameB.refl _ | exact ⟨rfl⟩ | exact Same.int rfl | exact Same.str rfl | exact Same.bool rfl | (refine Same.int ?_; simp only [List.length_append, List.length_cons, List.length_nil, zi]; omega) | (refine SameB.row' rfl fun i hi => ?_; first | rfl | exact absurd hi (Nat.not_lt_zero _)) | refine And.intro ?_ ?_ | refine SameB.cells ?_ | exact SameC.nil | refine SameC.cons ?_ ?_ | exact Same.nsl rfl | exact Same.tt rfl | exact Same.ff rfl))
            all_goals (refine SameB.row' hl2 fun i hi => rfl)
        · obtain rfl : j = 4 := by have h6 : ¬ zi j < 4 := h6; unfold zi at h6; omega
          cbv
          refine safe hrl ?_
          refine safe (fun i hi => ⟨_, rfl⟩) ?_
          refine ⟨_, .ret (.refl _), hr _ ?_⟩
          exact (bytes_u8 (fourJ (s .o) 4) rfl fun i hi => rfl).trans (List.append_nil _)
end Go.Proofs.Ytjjddmbnfkmfdaa
/- A builder that texts are written into: the kit's contracts at this program, laid by hand. -/
namespace Go.Proofs
open Go.Shelf
def Try.blw_ren : Go.Shelf.Ren := ⟨fun | 166 => 51 | 240 => 60 | 276 => 68 | 169 => 50 | n => n, fun | 0 => 0 | 3 => 3 | 4 => 4 | 5 => 5 | 9 => 9 | 20 => 20 | 37 => 39 | 70 => 72 | 72 => 74 | 127 => 89 | 164 => 94 | 75 => 77 | 80 => 65 | n => n, fun | n => n⟩
theorem Try.bw166 : Go.Proofs.Lays.n166 Try.prog Try.blw_ren := {
  mixed := by kernel_rfl
  f166 := Try.func51.trans (congrArg some (by kernel_rfl))
  f240 := Try.func60.trans (congrArg some (by kernel_rfl))
  f276 := Try.func68.trans (congrArg some (by kernel_rfl))
  t0 := Try.underlying0
  a0 := Try.isAgg0
  z0 := Try.sizeOf0
  v0 := Try.zeroValue0
  t3 := Try.underlying3
  a3 := Try.isAgg3
  z3 := Try.sizeOf3
  v3 := Try.zeroValue3
  t4 := Try.underlying4
  a4 := Try.isAgg4
  z4 := Try.sizeOf4
  v4 := Try.zeroValue4
  t9 := Try.underlying9
  a9 := Try.isAgg9
  z9 := Try.sizeOf9
  v9 := Try.zeroValue9
  t20 := Try.underlying20
  a20 := Try.isAgg20
  z20 := Try.sizeOf20
  v20 := Try.zeroValue20
  t37 := Try.underlying39
  a37 := Try.isAgg39
  z37 := Try.sizeOf39
  v37 := Try.zeroValue39
  t70 := Try.underlying72
  a70 := Try.isAgg72
  z70 := Try.sizeOf72
  v70 := Try.zeroValue72
  t72 := Try.underlying74
  a72 := Try.isAgg74
  z72 := Try.sizeOf74
  v72 := Try.zeroValue74
  t75 := Try.underlying77
  a75 := Try.isAgg77
  z75 := Try.sizeOf77
  v75 := Try.zeroValue77
  t164 := Try.underlying94
  a164 := Try.isAgg94
  z164 := Try.sizeOf94
  v164 := Try.zeroValue94 }
theorem Try.bw169 : Go.Proofs.Lays.n169 Try.prog Try.blw_ren := {
  mixed := by kernel_rfl
  f169 := Try.func50.trans (congrArg some (by kernel_rfl))
  t0 := Try.underlying0
  a0 := Try.isAgg0
  z0 := Try.sizeOf0
  v0 := Try.zeroValue0
  t3 := Try.underlying3
  a3 := Try.isAgg3
  z3 := Try.sizeOf3
  v3 := Try.zeroValue3
  t9 := Try.underlying9
  a9 := Try.isAgg9
  z9 := Try.sizeOf9
  v9 := Try.zeroValue9
  t37 := Try.underlying39
  a37 := Try.isAgg39
  z37 := Try.sizeOf39
  v37 := Try.zeroValue39
  t70 := Try.underlying72
  a70 := Try.isAgg72
  z70 := Try.sizeOf72
  v70 := Try.zeroValue72
  t72 := Try.underlying74
  a72 := Try.isAgg74
  z72 := Try.sizeOf74
  v72 := Try.zeroValue74
  t127 := Try.underlying89
  a127 := Try.isAgg89
  z127 := Try.sizeOf89
  v127 := Try.zeroValue89 }
theorem Try.bwX : Builder.Extra Try.prog Try.blw_ren := {
  sizeBuilder := by kernel_rfl
  liesBuilder := by kernel_rfl
  t5 := Try.underlying5
  a5 := Try.isAgg5
  z5 := Try.sizeOf5
  v5 := Try.zeroValue5
  infoByte := by kernel_rfl
  cellsByte := by kernel_rfl
  sizeByte := by kernel_rfl
  neB5 := by decide }
end Go.Proofs
/- Bytes by 64 letters: sixty.Put. -/
namespace Go.Proofs.Ytjjddmbnfkmfdaa
open Go Go.RowKit Go.Shelf
set_option linter.unusedVariables false
set_option linter.unusedSimpArgs false
/-- A builder under what does not touch what lies there. -/
theorem ownsF_of {R : Nat} {e : TypeId} {v : Value} {n : Nat} {xs : List Value} {w w' : World} (h : w.ownsRowF R e 1 v n xs) (hk : ∀ k, k < w.heap.size → w'.heap[k]? = w.heap[k]?) : w'.ownsRowF R e 1 v n xs := by
  refine ⟨h.1, ?_⟩
  rcases h.2 with hn | ⟨g, cap, cur, fr, hv, hb, hg, rest⟩
  · exact .inl hn
  · refine .inr ⟨g, cap, cur, fr, hv, hb, ?_, rest⟩
    have : g < w.heap.size := (Array.getElem?_eq_some_iff.1 hg).1
    rw [hk g this]; exact hg
theorem IsF.below {T e : TypeId} {B b : Nat} {bs : List Value} {w w' : World} (h : Lib.IsBuilderF T e B b bs w) (hw : Below w.heap.size w w') : Lib.IsBuilderF T e B b bs w' := by
  have one : ∀ p, Lib.BuilderAtF T e B b p bs w → Lib.BuilderAtF T e B b p bs w' := by
    rintro p ⟨h1, v, hb, hown, hne⟩
    have : b < w.heap.size := (Array.getElem?_eq_some_iff.1 hb).1
    exact ⟨h1, v, by rw [hw.block b this]; exact hb, ownsF_of hown fun k hk => hw.block k hk, hne⟩
  exact h.imp (one _) (one _)
open Go.Proofs.Ytjjddmbnfkmfdaa.Sx F
/-- What a contract says at the machine's level, of a call that is handed nothing in memory. -/
theorem calls_of {f : Nat} {xs : List AV} {d : Nat} {K : ARes → BL → Prop} (h : CallAt PT f xs d .nil K) (hl : ∀ x, ¬ (chain xs).locs x) {w : World} {vs : List Value} (hv : ∀ E : Env, E.w = w → ListC E (chain xs) vs) :
    Calls Try.prog f vs.toArray w fun e w' => ∃ (E : Env) (r : ARes) (B' : BL), K r B' ∧ Sx.Ends E r e ∧ E.w = w' ∧ Below w.heap.size w w' := by
  have hdead : ∀ x, ¬ BL.nil.liveAt x := fun x hx => by simp [BL.liveAt, BL.get, Blk.live] at hx
  let E : Env := ⟨fun _ => 0, fun _ => undef, fun _ _ => False, w⟩
  have hinv : Inv E .nil := ⟨fun d => trivial, fun d d' hd => (hdead d (solid_live hd)).elim, fun d hd => (hdead d (solid_live hd)).elim, fun b o hb => hb.elim, fun d x hx => hx.elim⟩
  refine (h.run E vs hinv (hv E rfl) (fun x hx => (hl x hx).elim) (hdead _)).mono ?_
  rintro e w' ⟨E', r, B', rfl, hK, hend, hi, hp, _⟩
  exact ⟨E', r, B', hK, hend, rfl, hp.os, hp.tape, hp.output, hp.size, fun b hb => hp.old b hb fun x hx => (hdead x (solid_live hx)).elim⟩
theorem sixput_m (s : List UInt8) (hs : s.length ≤ 3) (w : World) : Calls Try.prog 52 #[.string ⟨s.toArray⟩] w fun e w' => e = .returned (.string ⟨(six4 s).toArray⟩) ∧ Below w.heap.size w w' := by
  have h : CallAt PT sixty_put [.str fun _ => s] 0 .nil fun r B' => ∃ t : Th (List UInt8), r = .ret (.str t) ∧ t .o = six4 s := sixput_c (fun _ => s) hs fun t ht => ⟨t, rfl, ht⟩
  refine (calls_of h (fun x hx => by simp [chain, AV.locs] at hx) (vs := [.string ⟨s.toArray⟩]) fun E _ => ⟨_, _, rfl, rfl, rfl⟩).mono ?_
  rintro e w' ⟨E, r, B', ⟨t, rfl, ht⟩, hend, _, hb⟩
  cases e with
  | returned v => exact ⟨by rw [show v = _ from hend, ht], hb⟩
  | _ => exact hend.elim
theorem bytes_str (l : List UInt8) : Lib.strCells ⟨l.toArray⟩ = Lib.byteCells l := by simp [Lib.strCells, Lib.byteCells]
theorem ext_take (L : List UInt8) : (⟨L.toArray⟩ : ByteArray).extract 0 3 = ⟨(L.take 3).toArray⟩ := by
  apply ByteArray.ext
  simp
theorem ext_drop (L : List UInt8) : (⟨L.toArray⟩ : ByteArray).extract 3 L.length = ⟨(L.drop 3).toArray⟩ := by
  apply ByteArray.ext
  have : List.take (L.length - 3) (List.drop 3 L) = List.drop 3 L := List.take_of_length_le (by simp)
  simp [this]
set_option maxHeartbeats 2000000 in
set_option maxRecDepth 100000 in
theorem sixPut_m (s : List UInt8) (w : World) (hs : s.length ≤ 1099511627776) : Calls Try.prog 35 #[.string ⟨s.toArray⟩] w fun e w' => e = .returned (.string ⟨(sixtyS s).toArray⟩) ∧ Below w.heap.size w w' := by
  go_enter Try.func35, Try.ntmps35
  go_wp2
  generalize hW0 : w.alloc (Obj.cells #[Value.pointer none, Value.slice none 0 0] 74) = w0
  have hw0 : w0.heap.size = w.heap.size + 1 := by rw [← hW0]; simp
  have hb0 : w0.heap[w.heap.size]? = some (.cells #[.pointer none, .slice none 0 0] 74 (0, 0)) := by rw [← hW0]; exact heap_alloc_new w _
  have hbel0 : Below w.heap.size w w0 := by rw [← hW0]; exact (Below.refl _ w).alloc (Nat.le_refl _) _
  have HB0 : Hid (Lib.IsBuilderF 74 5 w.heap.size w.heap.size (Lib.byteCells []) w0) := .inl ⟨Nat.le_refl _, _, hb0, ⟨rfl, .inl ⟨rfl, rfl⟩⟩, by simp [Value.ownBlock]⟩
  have HF0 : Hid (Below w.heap.size w w0) := hbel0
  clear hb0 hbel0
  go_loopw [0] (fun v wr => ∃ P L : List UInt8, v = .string ⟨L.toArray⟩ ∧ sixtyS s = P ++ sixtyS L ∧ P.length + 4 * L.length ≤ 4 * s.length ∧ Hid (Lib.IsBuilderF 74 5 w.heap.size w.heap.size (Lib.byteCells P) wr) ∧ Hid (Below w.heap.size w wr)) (fun v _ => match v with | .string b => b.size | _ => 0)
  case atStart => exact ⟨[], s, rfl, rfl, by simp, HB0, HF0⟩
  case round =>
    obtain ⟨P, L, rfl, hPL, hlen, HB, HF⟩ := hrel
    have hsz : (⟨L.toArray⟩ : ByteArray).size = L.length := by simp [ByteArray.size]
    have hPl : (Lib.byteCells P).length = P.length := Lib.byteCells_length P
    have hws : w.heap.size ≤ wr.heap.size := HF.out.size
    by_cases hlt : 3 < L.length
    · have hne : L ≠ [] := fun q => by rw [q] at hlt; simp at hlt
      rw [sixty_step hne] at hPL
      go_wp2_with fail
      rw [ext_take]
      refine (sixput_m (L.take 3) (by rw [List.length_take]; omega) _).mono ?_
      rintro e w1 ⟨rfl, hb1⟩
      have HB1 : Hid (Lib.IsBuilderF 74 5 w.heap.size w.heap.size (Lib.byteCells P) w1) := IsF.below HB.out hb1
      have HF1 : Hid (Below w.heap.size w w1) := HF.out.trans (hb1.mono hws)
      have hs1 := hb1.size
      clear hb1
      go_wp2_with fail
      refine (Any.Builder_WriteString_f Try.bw166 Try.bwX w.heap.size w.heap.size _ _ w1 HB1.out (by rw [hPl]; show _ + (⟨(six4 (L.take 3)).toArray⟩ : ByteArray).size ≤ _; rw [show (⟨(six4 (L.take 3)).toArray⟩ : ByteArray).size = 4 from rfl]; omega) (by omega)).mono ?_
      rintro e w2 ⟨rfl, h2, hb2⟩
      have HB2 : Hid (Lib.IsBuilderF 74 5 w.heap.size w.heap.size (Lib.byteCells (P ++ six4 (L.take 3))) w2) := .inr (by rw [Lib.byteCells_append, ← bytes_str (six4 _)]; exact h2)
      have HF2 : Hid (Below w.heap.size w w2) := HF1.out.trans hb2
      clear h2 hb2
      go_wp2
      refine ⟨⟨P ++ six4 (L.take 3), L.drop 3, by rw [ext_drop], by rw [hPL, List.append_assoc], by rw [List.length_append, six4_len, List.length_drop]; omega, HB2, HF2⟩, ?_⟩
      have hl3 : (L.drop 3).length < L.length := by rw [List.length_drop]; omega
      show (ByteArray.extract _ _ _).size < (⟨L.toArray⟩ : ByteArray).size
      rw [ext_drop]
      simpa [ByteArray.size] using hl3
    · by_cases hne : L = []
      · subst hne
        have hPL : sixtyS s = P := by rw [hPL]; simp [sixtyS]
        go_wp2_with fail
        refine (Any.Builder_String_any_f Try.bw169 Try.bwX w.heap.size w.heap.size P wr HB.out hws).mono ?_
        rintro e w5 ⟨rfl, _, hb5⟩
        have HF5 : Hid (Below w.heap.size w w5) := HF.out.trans hb5
        clear hb5
        go_wp2
        go_ret
        exact ⟨by rw [hPL]; rfl, HF5.out⟩
      · have hPL : sixtyS s = P ++ six4 L := by rw [hPL, sixty_step hne, List.take_of_length_le (by omega), List.drop_of_length_le (by omega)]; simp [sixtyS]
        have hem : L.isEmpty = false := by simpa using hne
        go_wp2_with fail
        refine (sixput_m L (by omega) _).mono ?_
        rintro e w1 ⟨rfl, hb1⟩
        have HB1 : Hid (Lib.IsBuilderF 74 5 w.heap.size w.heap.size (Lib.byteCells P) w1) := IsF.below HB.out hb1
        have HF1 : Hid (Below w.heap.size w w1) := HF.out.trans (hb1.mono hws)
        have hs1 := hb1.size
        clear hb1
        go_wp2_with fail
        refine (Any.Builder_WriteString_f Try.bw166 Try.bwX w.heap.size w.heap.size _ _ w1 HB1.out (by rw [hPl]; show _ + (⟨(six4 L).toArray⟩ : ByteArray).size ≤ _; rw [show (⟨(six4 L).toArray⟩ : ByteArray).size = 4 from rfl]; omega) (by omega)).mono ?_
        rintro e w2 ⟨rfl, h2, hb2⟩
        have HB2 : Hid (Lib.IsBuilderF 74 5 w.heap.size w.heap.size (Lib.byteCells (P ++ six4 L)) w2) := .inr (by rw [Lib.byteCells_append, ← bytes_str (six4 _)]; exact h2)
        have HF2 : Hid (Below w.heap.size w w2) := HF1.out.trans hb2
        have hs2 := hb2.size
        clear h2 hb2
        go_wp2_with fail
        refine (Any.Builder_String_any_f Try.bw169 Try.bwX w.heap.size w.heap.size (P ++ six4 L) w2 HB2.out (by omega)).mono ?_
        rintro e w5 ⟨rfl, _, hb5⟩
        have HF5 : Hid (Below w.heap.size w w5) := HF2.out.trans hb5
        clear hb5
        go_wp2
        go_ret
        exact ⟨by rw [hPL]; rfl, HF5.out⟩
theorem sixPut_c (s : Th (List UInt8)) (hs : (s .o).length ≤ 1099511627776) {d : Nat} {K : ARes → BL → Prop} (hr : ∀ t : Th (List UInt8), t .o = sixtyS (s .o) → K (.ret (.str t)) .nil) : CallAt PT 35 [.str s] d .nil K := by
  refine CallAt.of_below (by kernel_rfl) fun E vs hb hv => ?_
  obtain ⟨v1, r1, rfl, h1, rfl⟩ : ∃ v1 r1, vs = v1 :: r1 ∧ Rp E (.str s) v1 ∧ r1 = [] := hv
  obtain rfl : v1 = .string ⟨(s .o).toArray⟩ := h1
  refine (sixPut_m (s .o) E.w hs).mono ?_
  rintro e w' ⟨rfl, hbl⟩
  exact ⟨.ret (.str fun _ => sixtyS (s .o)), rfl, rfl, hr _ rfl, hbl⟩
end Go.Proofs.Ytjjddmbnfkmfdaa
/- Four letters as bytes: sixty.get. -/
namespace Go.Proofs.Ytjjddmbnfkmfdaa
open Go Go.Proofs.Ytjjddmbnfkmfdaa.Sx F
set_option linter.unusedVariables false
set_option linter.unusedSimpArgs false
def noLetV (n : Th Int) : AV := .ifc 87 (.agg (.cons (.int .i64 n) .nil))
theorem run4_none : ∀ (s : List UInt8) (i : Nat), run4 none i s = none
  | [], _ => rfl
  | c :: r, i => run4_none r (i + 1)
theorem sixI_lt {c : UInt8} {n : Nat} (h : sixI c = some n) : n < 64 := (List.findIdx?_eq_some_iff_getElem.1 h).1
theorem st4_some (n m i : Nat) (c : UInt8) : st4 (some (n, m)) i c = if c = 61 ∧ 1 < i then some (n * 64, min m (i - 1)) else match sixI c with | some k => some (n * 64 + k, m) | none => none := rfl
theorem shl6 {n : Nat} (h : n < 16777216) : IntKind.i64.wrap (zi n * 2 ^ min (Int.toNat 6) IntKind.i64.bits) = zi (n * 64) := by
  have e : (2 : Int) ^ min (Int.toNat 6) IntKind.i64.bits = 64 := by decide
  rw [e, IntKind.wrap_i64]; unfold zi; omega
theorem or6 {n k : Nat} (h : n < 16777216) (hk : k < 64) : abits .or .i64 (zi (n * 64)) (zi k) = zi (n * 64 + k) := by
  show bits .or .i64 ((n * 64 : Nat) : Int) (k : Int) = _
  rw [or64 (by omega) (by omega)]
  have := Nat.two_pow_add_eq_or_of_lt (i := 6) (b := k) hk n
  have e : n * 64 ||| k = n * 64 + k := by rw [Nat.mul_comm n 64]; exact this.symm
  rw [e]; rfl
theorem sixget_c (s : Th (List UInt8)) (hs : (s .o).length ≤ 4) {d : Nat} {K : ARes → BL → Prop} (hr : ∀ t : Th (List UInt8), un4 (s .o) = some (t .o) → K (.ret (.str t)) .nil)
    (hp : ∀ n : Th Int, un4 (s .o) = none → K (.pan (noLetV n)) .nil) : CallAt PT sixty_get [.str s] d .nil K := by
  refine CallAt.res ?_
  refine sixty_get.of rfl rfl ?_
  cbv
  refine loop_at (X := Nat × Nat × Nat) 1000 [10, 11] [] (fun _ x => .cons 3 (.int .i64 fun _ => zi x.2.1) (.cons 4 (.int .i64 fun _ => zi x.2.2) (.cons 12 (.int .i64 fun _ => zi x.1) .nil))) (fun _ _ => .nil)
    (fun x => x.1 ≤ (s .o).length ∧ x.2.1 < 64 ^ x.1 ∧ 1 ≤ x.2.2 ∧ x.2.2 ≤ 3 ∧ run4 (some (0, 3)) 0 (s .o) = run4 (some (x.2.1, x.2.2)) x.1 ((s .o).drop x.1)) (fun x => (s .o).length - x.1) (0, 0, 3) ?_ ⟨Nat.zero_le _, by decide, by decide, by decide, rfl⟩ ?_
  · cbv
    (repeat' (first | exact True.intro | exact Same.refl _ | exact SameB.refl _ | exact ⟨rfl⟩ | exact Same.int rfl | exact Same.str rfl | exact Same.bool rfl | (refine Same.int ?_; simp only [List.length_append, List.length_cons, List.length_nil, zi]; omega) | (refine SameB.row' rfl fun i hi => ?_; first | rfl | exact absurd hi (Nat.not_lt_zero _)) | refine And.intro ?_ ?_ | refine SameB.cells ?_ | exact SameC.nil | refine SameC.cons ?_ ?_ | exact Same.nsl rfl | exact Same.tt rfl | exact Same.ff rfl))
  · rintro ⟨i, n, m⟩ ⟨h1, h2, h3, h4, h5⟩
    dsimp only at h1 h2 h3 h4 h5
    have hz := zi_toNat i
    have hn4 : i < 4 → n < 262144 := fun hi => by
      have : 64 ^ i ≤ 64 ^ 3 := Nat.pow_le_pow_right (by decide) (by omega)
      omega
    cbv
    refine br_zlt (fun h6 => ?_) (fun h6 => ?_)
    · have h6 : i < (s .o).length := h6
      have hn4 := hn4 (by omega)
      have hdr : (s .o).drop i = (s .o).getD i 0 :: (s .o).drop (i + 1) := by
        rw [← List.getElem_cons_drop h6, List.getD_eq_getElem?_getD, List.getElem?_eq_getElem h6]; rfl
      rw [hdr, run4] at h5
      cbv
      refine safe ⟨zi_nonneg _, zi_lt.2 h6⟩ ?_
      refine sIndexByte_c sixL (fun _ => zi ((s .o).getD (zi i).toNat 0).toNat) fun k hk => ?_
      have hk : k .o = Lib.indexByte sixL ((s .o).getD i 0) := by
        rw [hk, hz]
        congr 1
        show (zi _).toNat.toUInt8 = _
        rw [zi_toNat]; simp
      rw [indexByte_find] at hk
      generalize hc : (s .o).getD i 0 = c at h5 hk hdr
      cbv
      refine br_dec (fun h7 => ?_) (fun h7 => ?_)
      · have h7 : c = 61 := by
          have h7 : zi ((s .o).getD (zi i).toNat 0).toNat = 61 := h7
          rw [hz, hc] at h7
          exact UInt8.toNat_inj.1 (by unfold zi at h7; show _ = 61; omega)
        cbv
        refine br_dec (fun h8 => ?_) (fun h8 => ?_)
        · have h8 : 1 < i := by have h8 : (1 : Int) < zi i := h8; unfold zi at h8; omega
          have hst : st4 (some (n, m)) i c = some (n * 64, min m (i - 1)) := by rw [st4_some, if_pos ⟨h7, h8⟩]
          rw [hst] at h5
          have hmin : (if IntKind.i64.wrap (zi i - 1) < zi m then IntKind.i64.wrap (zi i - 1) else zi m) = zi (min m (i - 1)) := by
            have e : IntKind.i64.wrap (zi i - 1) = zi (i - 1) := by rw [IntKind.wrap_i64]; unfold zi; omega
            rw [e]; unfold zi; split <;> omega
          cbv
          refine br_dec (fun h9 => absurd (show (0 : Int) < 0 from h9) (by decide)) (fun _ => ?_)
          cbv
          refine safe (by decide) ?_
          simp only [hmin]
          refine ⟨(i + 1, n * 64, min m (i - 1)), ⟨h6, by show n * 64 < 64 ^ (i + 1); rw [Nat.pow_succ]; omega, by show 1 ≤ min m (i - 1); omega, by show min m (i - 1) ≤ 3; omega, h5⟩, by show (s .o).length - (i + 1) < (s .o).length - i; omega, ?_⟩
          cbv
          rw [zi_succ (by omega), shl6 (by omega)]
          (repeat' (first | exact True.intro | exact Same.refl _ | exact SameB.refl _ | exact ⟨rfl⟩ | exact Same.int rfl | exact Same.str rfl | exact Same.bool rfl | (refine Same.int ?_; simp only [List.length_append, List.length_cons, List.length_nil, zi]; omega) | (refine SameB.row' rfl fun i hi => ?_; first | rfl | exact absurd hi (Nat.not_lt_zero _)) | refine And.intro ?_ ?_ | refine SameB.cells ?_ | exact SameC.nil | refine SameC.cons ?_ ?_ | exact Same.nsl rfl | exact Same.tt rfl | exact Same.ff rfl))
          all_goals (refine Same.int ?_; exact (or6 (k := 0) (by omega) (by omega)).trans (by rw [Nat.add_zero]))
        · have h8 : ¬ 1 < i := fun q => h8 (by show (1 : Int) < zi i; unfold zi; omega)
          have hst : st4 (some (n, m)) i c = none := by rw [st4_some, if_neg (fun q => h8 q.2), h7]; rfl
          rw [hst, run4_none] at h5
          have hk : k .o = -1 := by rw [hk, h7]; rfl
          cbv
          refine br_dec (fun _ => ?_) (fun h9 => absurd (show k .o < 0 by rw [hk]; decide) h9)
          cbv
          exact ⟨_, .pan (Same.refl _), hp (fun _ => zi i) (by unfold un4; rw [h5]; rfl)⟩
      · have h7 : c ≠ 61 := fun q => h7 (by show zi ((s .o).getD (zi i).toNat 0).toNat = 61; rw [hz, hc, q]; rfl)
        cbv
        cases hf : sixL.findIdx? (· == c) with
        | none =>
          have hst : st4 (some (n, m)) i c = none := by
            rw [st4_some, if_neg (fun q => h7 q.1)]
            simp only [sixI, hf]
          rw [hst, run4_none] at h5
          simp only [hf] at hk
          refine br_dec (fun _ => ?_) (fun h9 => absurd (show k .o < 0 by rw [hk]; decide) h9)
          cbv
          exact ⟨_, .pan (Same.refl _), hp (fun _ => zi i) (by unfold un4; rw [h5]; rfl)⟩
        | some q =>
          have hst : st4 (some (n, m)) i c = some (n * 64 + q, m) := by
            rw [st4_some, if_neg (fun q => h7 q.1)]
            simp only [sixI, hf]
          have hq : q < 64 := sixI_lt hf
          rw [hst] at h5
          simp only [hf] at hk
          have hk : k .o = zi q := hk
          refine br_dec (fun h9 => absurd (show k .o < 0 from h9) (by rw [hk]; unfold zi; omega)) (fun _ => ?_)
          cbv
          refine safe (by decide) ?_
          refine ⟨(i + 1, n * 64 + q, m), ⟨h6, by show n * 64 + q < 64 ^ (i + 1); rw [Nat.pow_succ]; omega, h3, h4, h5⟩, by show (s .o).length - (i + 1) < (s .o).length - i; omega, ?_⟩
          cbv
          rw [zi_succ (by omega), shl6 (n := n) (by omega)]
          (repeat' (first | exact True.intro | exact Same.refl _ | exact SameB.refl _ | exact ⟨rfl⟩ | exact Same.int rfl | exact Same.str rfl | exact Same.bool rfl | (refine Same.int ?_; simp only [List.length_append, List.length_cons, List.length_nil, zi]; omega) | (refine SameB.row' rfl fun i hi => ?_; first | rfl | exact absurd hi (Nat.not_lt_zero _)) | refine And.intro ?_ ?_ | refine SameB.cells ?_ | exact SameC.nil | refine SameC.cons ?_ ?_ | exact Same.nsl rfl | exact Same.tt rfl | exact Same.ff rfl))
          all_goals (refine Same.int ?_; show abits .or .i64 (zi (n * 64)) (k .o) = _; rw [hk]; exact or6 (by omega) hq)
    · have h6 : (s .o).length ≤ i := h6
      rw [List.drop_of_length_le h6, run4] at h5
      have hn24 : n < 16777216 := by
        have : 64 ^ i ≤ 64 ^ 4 := Nat.pow_le_pow_right (by decide) (by omega)
        omega
      have e16 : IntKind.u8.wrap ((zi n).fdiv (2 ^ min (Int.toNat 16) IntKind.i64.bits)) = zi (UInt8.ofNat (n / 65536)).toNat := by
        rw [show min (Int.toNat 16) IntKind.i64.bits = 16 from rfl, fdiv_pow, IntKind.wrap_u8, UInt8.toNat_ofNat']
        unfold zi; omega
      have e8 : IntKind.u8.wrap ((zi n).fdiv (2 ^ min (Int.toNat 8) IntKind.i64.bits)) = zi (UInt8.ofNat (n / 256)).toNat := by
        rw [show min (Int.toNat 8) IntKind.i64.bits = 8 from rfl, fdiv_pow, IntKind.wrap_u8, UInt8.toNat_ofNat']
        unfold zi; omega
      have e0 : IntKind.u8.wrap (zi n) = zi (UInt8.ofNat n).toNat := by
        rw [IntKind.wrap_u8, UInt8.toNat_ofNat']
        unfold zi; omega
      have hun : un4 (s .o) = some (([n / 65536, n / 256, n].map UInt8.ofNat).take m) := by unfold un4; rw [h5]; rfl
      cbv
      refine safe (by decide) (safe (by decide) ?_)
      refine safe ⟨Int.le_refl _, zi_nonneg _, zi_le.2 h4⟩ ?_
      simp only [e16, e8, e0]
      have hel : ∀ j, j < m → elemAt 1 ((AV.int IntKind.u8 fun _ => zi (UInt8.ofNat (n / 65536)).toNat).cons ((AV.int IntKind.u8 fun _ => zi (UInt8.ofNat (n / 256)).toNat).cons ((AV.int IntKind.u8 fun _ => zi (UInt8.ofNat n).toNat).cons AV.nil))) (Int.toNat 0 + j) = u8Ch fun _ => (([n / 65536, n / 256, n].map UInt8.ofNat).take m).getD j 0 := fun j hj => by
        have hg : (([n / 65536, n / 256, n].map UInt8.ofNat).take m).getD j 0 = ([n / 65536, n / 256, n].map UInt8.ofNat).getD j 0 := by
          simp only [List.getD_eq_getElem?_getD, List.getElem?_take, hj, if_true]
        rw [hg]
        have : j < 3 := by omega
        match j, this with
        | 0, _ | 1, _ | 2, _ => rfl
      have hm : (zi m - 0).toNat = m := by unfold zi; omega
      refine safe (fun j hj => ?_) ?_
      · have hj : j < (zi m - 0).toNat := hj
        rw [hm] at hj
        exact ⟨_, hel j hj⟩
      refine ⟨_, .ret (.refl _), hr _ ?_⟩
      rw [hun]
      congr 1
      exact (bytes_u8 _ (by show (zi m - 0).toNat = _; rw [hm, List.length_take, List.length_map]; show m = min m 3; omega) fun j hj => hel j (by have hj : j < (zi m - 0).toNat := hj; omega)).symm
end Go.Proofs.Ytjjddmbnfkmfdaa
/- Letters as bytes: sixty.Get. -/
namespace Go.Proofs.Ytjjddmbnfkmfdaa
open Go Go.RowKit Go.Shelf
open Go.Proofs.Ytjjddmbnfkmfdaa.Sx F
set_option linter.unusedVariables false
set_option linter.unusedSimpArgs false
def unS : List UInt8 → Option (List UInt8)
  | [] => some []
  | c :: r => match un4 ((c :: r).take 4), unS ((c :: r).drop 4) with
    | some t, some q => some (t ++ q)
    | _, _ => none
termination_by s => s.length
decreasing_by all_goals (simp only [List.length_drop, List.length_cons]; omega)
theorem unS_step {s : List UInt8} (h : s ≠ []) : unS s = match un4 (s.take 4), unS (s.drop 4) with | some t, some q => some (t ++ q) | _, _ => none := by
  cases s with
  | nil => exact absurd rfl h
  | cons c r => rw [unS.eq_def]
theorem un0 : unS [] = some [] := by rw [unS.eq_def]
theorem unS_six : ∀ u : List UInt8, unS (sixtyS u) = some u
  | [] => by rw [sixtyS, un0]
  | [a] => by
    rw [sixtyS, unS_step (by simp [six4]), List.take_of_length_le (by simp [six4_len]), List.drop_of_length_le (by simp [six4_len]), un_six1, un0]
    rfl
  | [a, b] => by
    rw [sixtyS, unS_step (by simp [six4]), List.take_of_length_le (by simp [six4_len]), List.drop_of_length_le (by simp [six4_len]), un_six2, un0]
    rfl
  | a :: b :: c :: r => by
    have ih := unS_six r
    have e1 : (six4 [a, b, c] ++ sixtyS r).take 4 = six4 [a, b, c] := by rw [List.take_append_of_le_length (by simp [six4_len]), List.take_of_length_le (by simp [six4_len])]
    have e2 : (six4 [a, b, c] ++ sixtyS r).drop 4 = sixtyS r := by rw [← six4_len [a, b, c], List.drop_left]
    rw [sixtyS, unS_step (by simp [six4]), e1, e2, un_six3, ih]
    rfl
theorem sixtyS_inj {u v : List UInt8} (h : sixtyS u = sixtyS v) : u = v := by
  have h1 := unS_six u
  rw [h, unS_six v] at h1
  exact (Option.some.inj h1).symm
/-- What a reading answers: the bytes of which these are the letters, or none. -/
def SG (s t : List UInt8) (b : Bool) : Prop := (b = true ∧ sixtyS t = s) ∨ (b = false ∧ t = [] ∧ ∀ u, sixtyS u ≠ s)
theorem SG.one {s t u : List UInt8} {b c : Bool} (h : SG s t b) (k : SG s u c) : t = u ∧ b = c := by
  rcases h with ⟨rfl, h⟩ | ⟨rfl, rfl, h⟩ <;> rcases k with ⟨rfl, k⟩ | ⟨rfl, rfl, k⟩
  · exact ⟨sixtyS_inj (h.trans k.symm), rfl⟩
  · exact absurd h (k _)
  · exact absurd k (h _)
  · exact ⟨rfl, rfl⟩
def BG (s : Th (List UInt8)) (b : Bool) : BL := .cons 10000 (.cells (.cons (.str s) .nil)) (.cons 10001 (.cells (.cons (tv b) .nil)) .nil)
theorem send_c (s : Th (List UInt8)) (b : Bool) {K : BL → Prop} (h : K (BG s b)) : DefAt PT sixty_Get_1 false [.nif, .ptr 10000 0, .ptr 10001 0] (BG s b) K := by
  refine sixty_Get_1.of rfl rfl (fun _ => rfl) ?_
  cases b <;> (cbv; exact h)
theorem sendP_c (n : Th Int) {K : BL → Prop} (h : K (BG (fun _ => []) false)) : DefAt PT sixty_Get_1 true [noLetV n, .ptr 10000 0, .ptr 10001 0] (BG (fun _ => []) false) K := by
  refine sixty_Get_1.of rfl rfl (fun h => by cases h) ?_
  cbv
  exact h
/-- All but two blocks as it was. -/
structure Two (b2 b3 : Nat) (w w' : World) : Prop where
  os : w'.os = w.os
  tape : w'.tape = w.tape
  output : w'.output = w.output
  size : w.heap.size ≤ w'.heap.size
  block : ∀ k, k < w.heap.size → k ≠ b2 → k ≠ b3 → w'.heap[k]? = w.heap[k]?
theorem def_m {p : Bool} {pv : AV} {x : Value} {s : List UInt8} {b : Bool} (h : DefAt PT sixty_Get_1 p [pv, .ptr 10000 0, .ptr 10001 0] (BG (fun _ => s) b) fun B' => B' = BG (fun _ => s) b) (hl : ∀ y, ¬ pv.locs y) {b2 b3 e2 e3 : Nat} {w : World} (hx : ∀ E : Env, Rp E pv x)
    (h2 : w.heap[b2]? = some (.cells #[.string ⟨s.toArray⟩] e2 (0, 0))) (h3 : w.heap[b3]? = some (.cells #[.bool b] e3 (0, 0))) (hne : b2 ≠ b3) :
    CallsD Try.prog 56 #[.pointer (some ⟨b2, 0, none⟩), .pointer (some ⟨b3, 0, none⟩)] (modeIn p x) w fun e u' w' => (∃ v, e = .returned v) ∧ u' = modeOut p x ∧ (∃ e2, w'.heap[b2]? = some (.cells #[.string ⟨s.toArray⟩] e2 (0, 0))) ∧ (∃ e3, w'.heap[b3]? = some (.cells #[.bool b] e3 (0, 0))) ∧ Two b2 b3 w w' := by
  let E : Env := ⟨fun d => if d = 10000 then b2 else b3, fun _ => undef, fun _ _ => False, w⟩
  have hl2 : b2 < w.heap.size := (Array.getElem?_eq_some_iff.1 h2).1
  have hl3 : b3 < w.heap.size := (Array.getElem?_eq_some_iff.1 h3).1
  have g0 : (BG (fun _ => s) b).get 10000 = .cells (.cons (.str fun _ => s) .nil) := rfl
  have g1 : (BG (fun _ => s) b).get 10001 = .cells (.cons (tv b) .nil) := rfl
  have gn : ∀ d, d ≠ 10000 → d ≠ 10001 → (BG (fun _ => s) b).get d = .no := fun d h1 h2 => by
    simp [BG, BL.get_cons, Ne.symm h1, Ne.symm h2, BL.get]
  have hsol : ∀ d, solidAt E (BG (fun _ => s) b) d → d = 10000 ∨ d = 10001 := fun d hd => by
    by_cases q1 : d = 10000
    · exact .inl q1
    · by_cases q2 : d = 10001
      · exact .inr q2
      · unfold solidAt at hd; rw [gn d q1 q2] at hd; exact hd.elim
  have hr : ∀ d, d = 10000 ∨ d = 10001 → E.ρ d = b2 ∧ d = 10000 ∨ E.ρ d = b3 ∧ d = 10001 := by
    rintro d (rfl | rfl)
    · exact .inl ⟨rfl, rfl⟩
    · exact .inr ⟨rfl, rfl⟩
  have hinv : Inv E (BG (fun _ => s) b) := by
    refine ⟨fun d => ?_, fun d d' hd hd' hdd => ?_, fun d hd => ?_, fun _ _ hb => hb.elim, fun d x hx => ?_⟩
    · by_cases q1 : d = 10000
      · subst q1; rw [g0]; exact ⟨[.string ⟨s.toArray⟩], e2, h2, _, _, rfl, rfl, rfl⟩
      · by_cases q2 : d = 10001
        · subst q2; rw [g1]; exact ⟨[.bool b], e3, h3, _, _, rfl, tv_rp E b, rfl⟩
        · rw [gn d q1 q2]; trivial
    · rcases hr d (hsol d hd) with ⟨k1, rfl⟩ | ⟨k1, rfl⟩ <;> rcases hr d' (hsol d' hd') with ⟨k2, rfl⟩ | ⟨k2, rfl⟩
      · exact absurd rfl hdd
      · rw [k1, k2]; exact hne
      · rw [k1, k2]; exact hne.symm
      · exact absurd rfl hdd
    · refine ⟨?_, fun _ h => h⟩
      rcases hr d (hsol d hd) with ⟨k1, rfl⟩ | ⟨k1, rfl⟩ <;> (rw [k1]; assumption)
    · by_cases q1 : d = 10000
      · subst q1; rw [g0] at hx; simp [Blk.locs, AV.locs] at hx
      · by_cases q2 : d = 10001
        · subst q2; rw [g1] at hx; cases b <;> simp [Blk.locs, AV.locs, tv] at hx
        · rw [gn d q1 q2] at hx; exact hx.elim
  have hlive : (BG (fun _ => s) b).liveAt 10000 ∧ (BG (fun _ => s) b).liveAt 10001 := ⟨rfl, rfl⟩
  have hrun := h.run E [x, .pointer (some ⟨b2, 0, none⟩), .pointer (some ⟨b3, 0, none⟩)] hinv ⟨_, _, rfl, hx E, _, _, rfl, rfl, _, _, rfl, rfl, rfl⟩ (fun y hy => by
    rcases hy with hy | hy | hy | hy
    · exact (hl y hy).elim
    · rw [show y = 10000 from hy]; exact hlive.1
    · rw [show y = 10001 from hy]; exact hlive.2
    · exact hy.elim) (by intro q; simp [BL.liveAt, gn 9998 (by decide) (by decide), Blk.live] at q)
  refine CallsD.mono hrun ?_
  rintro e u' w' ⟨hu, E', r, B', rfl, hK, hend, hinv', hpost, _⟩
  cases r with
  | pan v => exact hK.elim
  | ret v =>
    have hB : B' = BG (fun _ => s) b := hK
    subst hB
    refine ⟨?_, hu, ?_, ?_, ⟨hpost.os, hpost.tape, hpost.output, hpost.size, fun k hk n2 n3 => hpost.old k hk fun y hy => ?_⟩⟩
    · cases e with
      | returned z => exact ⟨z, rfl⟩
      | _ => exact hend.elim
    · have hs := (hpost.same 10000 (by decide) rfl).1
      obtain ⟨l, e, k1, k2⟩ := (g0 ▸ hinv'.blk 10000 : BlkRp E' 10000 (.cells (.cons (.str fun _ => s) .nil)))
      obtain ⟨y, r', rfl, k3, k4⟩ := k2
      rw [listC_nil.1 k4, show y = _ from k3, hs] at k1
      exact ⟨e, k1⟩
    · have hs := (hpost.same 10001 (by decide) rfl).1
      obtain ⟨l, e, k1, k2⟩ := (g1 ▸ hinv'.blk 10001 : BlkRp E' 10001 (.cells (.cons (tv b) .nil)))
      obtain ⟨y, r', rfl, k3, k4⟩ := k2
      have k3 : y = .bool b := by cases b <;> exact k3
      rw [listC_nil.1 k4, k3, hs] at k1
      exact ⟨e, k1⟩
    · rcases hr y (hsol y hy) with ⟨k1, _⟩ | ⟨k1, _⟩ <;> (rw [k1]; exact Ne.symm (by assumption))
def noLetW (n : Int) : Value := .iface 87 (.agg #[.int .i64 n])
theorem noLet_rp (E : Env) (n : Int) : Rp E (noLetV fun _ => n) (noLetW n) := ⟨_, rfl, rp_agg.2 ⟨[.int .i64 n], rfl, _, _, rfl, rfl, rfl⟩⟩
theorem sixget_m (s : List UInt8) (hs : s.length ≤ 4) (w : World) : Calls Try.prog 57 #[.string ⟨s.toArray⟩] w fun e w' => ((∃ t, un4 s = some t ∧ e = .returned (.string ⟨t.toArray⟩)) ∨ (un4 s = none ∧ ∃ n, e = .panicked [{ v := noLetW n, recovered := false }])) ∧ Below w.heap.size w w' := by
  have h : CallAt PT sixty_get [.str fun _ => s] 0 .nil fun r B' => (∃ t : Th (List UInt8), un4 s = some (t .o) ∧ r = .ret (.str t)) ∨ (un4 s = none ∧ ∃ n : Th Int, r = .pan (noLetV n)) := sixget_c (fun _ => s) hs (fun t ht => .inl ⟨t, ht, rfl⟩) (fun n hn => .inr ⟨hn, n, rfl⟩)
  refine (calls_of h (fun x hx => by simp [chain, AV.locs] at hx) (vs := [.string ⟨s.toArray⟩]) fun E _ => ⟨_, _, rfl, rfl, rfl⟩).mono ?_
  rintro e w' ⟨E, r, B', hr, hend, _, hb⟩
  refine ⟨?_, hb⟩
  rcases hr with ⟨t, ht, rfl⟩ | ⟨hn, n, rfl⟩
  · cases e with
    | returned v => exact .inl ⟨_, ht, by rw [show v = _ from hend]⟩
    | _ => exact hend.elim
  · cases e with
    | panicked ch =>
      obtain ⟨x, rfl, hx⟩ := hend
      obtain ⟨y, rfl, hy⟩ := hx
      obtain ⟨l, rfl, hl⟩ := rp_agg.1 hy
      obtain ⟨z, r', rfl, hz, hr'⟩ := hl
      rw [listC_nil.1 hr', show z = _ from hz]
      exact .inr ⟨hn, n .o, rfl⟩
    | _ => exact hend.elim
theorem set_one {w : World} {b : Nat} {p : Value} {T : TypeId} (h : w.heap[b]? = some (.cells #[p] T (0, 0))) (q : Value) : (w.setCell ⟨b, 0, none⟩ q).heap[b]? = some (.cells #[q] T (0, 0)) := by
  simp [World.setCell, Array.getElem?_modify, h]
theorem leave_m {p : Bool} {pv : AV} {x : Value} {s t : List UInt8} {b : Bool} (h : DefAt PT sixty_Get_1 p [pv, .ptr 10000 0, .ptr 10001 0] (BG (fun _ => t) b) fun B' => B' = BG (fun _ => t) b) (hl : ∀ y, ¬ pv.locs y) (hx : ∀ E : Env, Rp E pv x) {w w5 : World} {tm : Array Value} {e2 e3 : Nat}
    (ht2 : tm.getD 2 undef = .pointer (some ⟨w.heap.size, 0, none⟩)) (ht3 : tm.getD 3 undef = .pointer (some ⟨w.heap.size + 1, 0, none⟩)) (h2 : w5.heap[w.heap.size]? = some (.cells #[.string ⟨t.toArray⟩] e2 (0, 0))) (h3 : w5.heap[w.heap.size + 1]? = some (.cells #[.bool b] e3 (0, 0)))
    (hb : Below w.heap.size w w5) (hSG : SG s t b) :
    Leaves Try.prog Try.f41 tm (fun e w' => ∃ t b, SG s t b ∧ e = .returned (.tuple #[.string ⟨t.toArray⟩, .bool b]) ∧ Below w.heap.size w w') [{ target := .fn (.func 56) #[.pointer (some ⟨w.heap.size, 0, none⟩), .pointer (some ⟨w.heap.size + 1, 0, none⟩)], args := #[] }] (modeIn p x) w5 := by
  refine leaves_cons (f := 56) (args := #[.pointer (some ⟨w.heap.size, 0, none⟩), .pointer (some ⟨w.heap.size + 1, 0, none⟩)]) (by cases p <;> simp [modeIn]) (by simp [go_sem]) ?_
  refine CallsD.mono (def_m h hl hx h2 h3 (by omega)) ?_
  rintro e u' w6 ⟨⟨v, rfl⟩, rfl, ⟨e2', k2⟩, ⟨e3', k3⟩, htwo⟩
  have hset : settle (modeOut p x) = .returning := by cases p <;> simp [settle, modeOut]
  have c2 : w6.cell? ⟨w.heap.size, 0, none⟩ = some (.string ⟨t.toArray⟩) := by rw [Lib.cell_of_heap k2]; rfl
  have c3 : w6.cell? ⟨w.heap.size + 1, 0, none⟩ = some (.bool b) := by rw [Lib.cell_of_heap k3]; rfl
  simp only [hset]
  refine ⟨_, ?_, t, b, hSG, rfl, hb.trans ⟨htwo.os, htwo.tape, htwo.output, htwo.size, fun k hk => htwo.block k (by have := hb.size; omega) (by omega) (by omega)⟩⟩
  rw [Array.getD_eq_getD_getElem?] at ht2 ht3
  simp [results, Try.results41, go_sem, ht2, ht3, c2, c3]
theorem un4_len {s t : List UInt8} (h : un4 s = some t) : t.length ≤ 3 := by
  unfold un4 out4 at h
  split at h
  · cases h; rw [List.length_take]; simp; omega
  · cases h
set_option maxHeartbeats 2000000 in
set_option maxRecDepth 100000 in
theorem sixGet_m (s : List UInt8) (w : World) (hs : s.length ≤ 1000000) : Calls Try.prog 41 #[.string ⟨s.toArray⟩] w fun e w' => ∃ t b, SG s t b ∧ e = .returned (.tuple #[.string ⟨t.toArray⟩, .bool b]) ∧ Below w.heap.size w w' := by
  have hmf : ∀ (fn : Fn) (first cap : Array Value) (w : World), (Instr.makeFunc fn first cap).run Try.prog w = .ok (.func fn first cap) w := fun _ _ _ _ => rfl
  go_enter_defers Try.func41, Try.ntmps41
  go_wp2
  generalize hW0 : ((w.alloc (Obj.cells #[Value.string { data := #[] }] 9)).alloc (Obj.cells #[Value.bool false] 4)).alloc (Obj.cells #[Value.pointer none, Value.slice none 0 0] 74) = w0
  have hw0 : w0.heap.size = w.heap.size + 1 + 1 + 1 := by rw [← hW0]; simp
  have hB2 : w0.heap[w.heap.size + 1 + 1]? = some (.cells #[.pointer none, .slice none 0 0] 74 (0, 0)) := by rw [← hW0]; simpa using heap_alloc_new ((w.alloc (Obj.cells #[Value.string { data := #[] }] 9)).alloc (Obj.cells #[Value.bool false] 4)) (Obj.cells #[Value.pointer none, Value.slice none 0 0] 74)
  have hb0 : Hid (w0.heap[w.heap.size]? = some (.cells #[.string ⟨([] : List UInt8).toArray⟩] 9 (0, 0))) := by
    rw [← hW0, Lib.alloc_old _ _ _ (by simp; omega), Lib.alloc_old _ _ _ (by simp)]
    exact heap_alloc_new w _
  have hb1 : Hid (w0.heap[w.heap.size + 1]? = some (.cells #[.bool false] 4 (0, 0))) := by
    rw [← hW0, Lib.alloc_old _ _ _ (by simp)]
    have := heap_alloc_new (w.alloc (Obj.cells #[Value.string { data := #[] }] 9)) (Obj.cells #[Value.bool false] 4)
    rw [show (w.alloc (Obj.cells #[Value.string { data := #[] }] 9)).heap.size = w.heap.size + 1 by simp] at this
    exact this
  have hbel0 : Hid (Below w.heap.size w w0) := by rw [← hW0]; exact (((Below.refl _ w).alloc (Nat.le_refl _) _).alloc (by simp) _).alloc (by simp; omega) _
  have HB0 : Hid (Lib.IsBuilderF 74 5 (w.heap.size + 1 + 1) (w.heap.size + 1 + 1) (Lib.byteCells []) w0) := .inl ⟨Nat.le_refl _, _, hB2, ⟨rfl, .inl ⟨rfl, rfl⟩⟩, by simp [Value.ownBlock]⟩
  have HF0 : Hid (Below (w.heap.size + 1 + 1) w0 w0) := Below.refl _ _
  clear hB2
  go_loopw [5] (fun v wr => ∃ (i : Nat) (P : List UInt8), v = .int .i64 i ∧ i ≤ s.length + 3 ∧ P.length ≤ i ∧ unS s = (unS (s.drop i)).map (P ++ ·) ∧ Hid (Lib.IsBuilderF 74 5 (w.heap.size + 1 + 1) (w.heap.size + 1 + 1) (Lib.byteCells P) wr) ∧ Hid (Below (w.heap.size + 1 + 1) w0 wr)) (fun v _ => s.length + 4 - (intOf v).toNat)
  case atStart => exact ⟨0, [], rfl, by omega, Nat.le_refl _, by cases h : unS s <;> simp [h], HB0, HF0⟩
  case round =>
    obtain ⟨i, P, rfl, hi, hPl, hun, HB, HF⟩ := hrel
    have hsz : (⟨s.toArray⟩ : ByteArray).size = s.length := by simp [ByteArray.size]
    have hPl' : (Lib.byteCells P).length = P.length := Lib.byteCells_length P
    have hws : w0.heap.size ≤ wr.heap.size := HF.out.size
    by_cases hlt : i < s.length
    · have hne : s.drop i ≠ [] := fun q => by have := congrArg List.length q; rw [List.length_drop, List.length_nil] at this; omega
      rw [unS_step hne, List.drop_drop] at hun
      have hsl : (Instr.slice 9 (.string ⟨s.toArray⟩) (some (.int .i64 (i : Int))) (some (.int .i64 (min (s.length : Int) ((i : Int) + 4)))) none).run Try.prog wr = .ok (.string ⟨((s.drop i).take 4).toArray⟩) wr := by
        have e1 : min (s.length : Int) ((i : Int) + 4) = ((min s.length (i + 4) : Nat) : Int) := by omega
        have ht := Try.underlying9
        have e2 : (i : Int) ≤ ((min s.length (i + 4) : Nat) : Int) := by omega
        have e3 : ((min s.length (i + 4) : Nat) : Int) ≤ (s.length : Int) := by omega
        have e4 : (⟨s.toArray⟩ : ByteArray).extract i (min s.length (i + 4)) = ⟨((s.drop i).take 4).toArray⟩ := by
          apply ByteArray.ext
          have e5 : List.take (min s.length (i + 4) - i) (List.drop i s) = List.take 4 (List.drop i s) := by
            rw [List.take_eq_take_iff, List.length_drop]; omega
          simp [e5]
        rw [e1, ← e4]
        simp [Instr.slice, run_underlying ht, Instr.sliceBounds, run_sliceBound, sliced, hsz, e2, e3]
      go_wp2_with fail
      refine (sixget_m ((s.drop i).take 4) (by rw [List.length_take]; omega) _).mono ?_
      rintro e w1 ⟨⟨t, ht, rfl⟩ | ⟨hn, n, rfl⟩, hb1'⟩
      · have HB1 : Hid (Lib.IsBuilderF 74 5 (w.heap.size + 1 + 1) (w.heap.size + 1 + 1) (Lib.byteCells P) w1) := IsF.below HB.out hb1'
        have HF1 : Hid (Below (w.heap.size + 1 + 1) w0 w1) := HF.out.trans (hb1'.mono (by omega))
        have hs1 := hb1'.size
        have htl := un4_len ht
        have hts : (⟨t.toArray⟩ : ByteArray).size = t.length := by simp [ByteArray.size]
        clear hb1'
        go_wp2_with fail
        refine (Any.Builder_WriteString_f Try.bw166 Try.bwX (w.heap.size + 1 + 1) (w.heap.size + 1 + 1) _ _ w1 HB1.out (by rw [hPl', hts]; omega) (by omega)).mono ?_
        rintro e w2 ⟨rfl, h2, hb2'⟩
        have HB2 : Hid (Lib.IsBuilderF 74 5 (w.heap.size + 1 + 1) (w.heap.size + 1 + 1) (Lib.byteCells (P ++ t)) w2) := .inr (by rw [Lib.byteCells_append, ← bytes_str t]; exact h2)
        have HF2 : Hid (Below (w.heap.size + 1 + 1) w0 w2) := HF1.out.trans hb2'
        clear h2 hb2'
        go_wp2
        refine ⟨⟨i + 4, P ++ t, by go_num, by omega, by rw [List.length_append]; omega, ?_, HB2, HF2⟩, by simp [intOf]; omega⟩
        rw [hun, ht]
        cases unS (s.drop (i + 4)) <;> simp
      · have HF1 : Hid (Below (w.heap.size + 1 + 1) w0 w1) := HF.out.trans (hb1'.mono (by omega))
        have hs1 := hb1'.size
        clear hb1'
        have hunN : unS s = none := by rw [hun, hn]; rfl
        exact leave_m (p := true) (pv := noLetV fun _ => n) (x := noLetW n) (sendP_c (fun _ => n) rfl) (fun y hy => by simp [noLetV, AV.locs] at hy) (fun E => noLet_rp E n) rfl rfl ((HF1.out.block _ (by omega)).trans hb0.out) ((HF1.out.block _ (by omega)).trans hb1.out) (hbel0.out.trans (HF1.out.mono (by omega))) (.inr ⟨rfl, rfl, fun u hu => by have := unS_six u; rw [hu, hunN] at this; cases this⟩)
    · go_wp2_with fail
      refine (Any.Builder_String_any_f Try.bw169 Try.bwX (w.heap.size + 1 + 1) (w.heap.size + 1 + 1) P wr HB.out (by omega)).mono ?_
      rintro e w1 ⟨rfl, hB1', hb1'⟩
      have HB1 : Hid (Lib.IsBuilderF 74 5 (w.heap.size + 1 + 1) (w.heap.size + 1 + 1) (Lib.byteCells P) w1) := hB1'
      have HF1 : Hid (Below (w.heap.size + 1 + 1) w0 w1) := HF.out.trans hb1'
      clear hB1' hb1'
      go_wp2_with fail
      refine (sixPut_m P w1 (by omega)).mono ?_
      rintro e w2 ⟨rfl, hb2'⟩
      have HB2 : Hid (Lib.IsBuilderF 74 5 (w.heap.size + 1 + 1) (w.heap.size + 1 + 1) (Lib.byteCells P) w2) := IsF.below HB1.out hb2'
      have HF2 : Hid (Below (w.heap.size + 1 + 1) w0 w2) := HF1.out.trans (hb2'.mono (by have := HF1.out.size; omega))
      clear hb2'
      have hun : unS s = some P := by rw [hun, List.drop_of_length_le (by omega), un0]; simp
      have hs2 := HF2.out.size
      have k2 : w2.heap[w.heap.size]? = _ := (HF2.out.block _ (by omega)).trans hb0.out
      have k3 : w2.heap[w.heap.size + 1]? = _ := (HF2.out.block _ (by omega)).trans hb1.out
      have c2 : w2.cell? ⟨w.heap.size, 0, none⟩ = some (.string ⟨([] : List UInt8).toArray⟩) := by rw [Lib.cell_of_heap k2]; rfl
      have c3 : w2.cell? ⟨w.heap.size + 1, 0, none⟩ = some (.bool false) := by rw [Lib.cell_of_heap k3]; rfl
      have f2 : w2.frozen? ⟨w.heap.size, 0, none⟩ = false := Lib.frozen_of_heap k2 0
      have f3 : w2.frozen? ⟨w.heap.size + 1, 0, none⟩ = false := Lib.frozen_of_heap k3 0
      have HK2 : Hid (w2.heap[w.heap.size]? = some (.cells #[.string ⟨([] : List UInt8).toArray⟩] 9 (0, 0))) := k2
      have HK3 : Hid (w2.heap[w.heap.size + 1]? = some (.cells #[.bool false] 4 (0, 0))) := k3
      clear k2 k3
      have hne2 : w.heap.size ≠ w.heap.size + 1 := by omega
      by_cases heq : sixtyS P = s
      · go_wp2_with fail
        refine (Any.Builder_String_any_f Try.bw169 Try.bwX (w.heap.size + 1 + 1) (w.heap.size + 1 + 1) P w2 HB2.out (by omega)).mono ?_
        rintro e w3 ⟨rfl, hB3', hb3'⟩
        have HF3 : Hid (Below (w.heap.size + 1 + 1) w0 w3) := HF2.out.trans hb3'
        have hs3 := hb3'.size
        have k2 : w3.heap[w.heap.size]? = _ := (hb3'.block _ (by omega)).trans HK2.out
        have k3 : w3.heap[w.heap.size + 1]? = _ := (hb3'.block _ (by omega)).trans HK3.out
        have d2 : w3.cell? ⟨w.heap.size, 0, none⟩ = some (.string ⟨([] : List UInt8).toArray⟩) := by rw [Lib.cell_of_heap k2]; rfl
        have d3 : w3.cell? ⟨w.heap.size + 1, 0, none⟩ = some (.bool false) := by rw [Lib.cell_of_heap k3]; rfl
        have g2 : w3.frozen? ⟨w.heap.size, 0, none⟩ = false := Lib.frozen_of_heap k2 0
        have g3 : w3.frozen? ⟨w.heap.size + 1, 0, none⟩ = false := Lib.frozen_of_heap k3 0
        have HL2 : Hid (w3.heap[w.heap.size]? = some (.cells #[.string ⟨([] : List UInt8).toArray⟩] 9 (0, 0))) := k2
        have HL3 : Hid (w3.heap[w.heap.size + 1]? = some (.cells #[.bool false] 4 (0, 0))) := k3
        clear k2 k3 hB3' hb3' c2 c3 f2 f3 HK2 HK3
        go_wp2_with fail
        refine leave_m (p := false) (pv := .nif) (x := .nilIface) (e2 := 9) (e3 := 4) (t := P) (b := true) (send_c (fun _ => P) true rfl) (fun y hy => by simp [AV.locs] at hy) (fun E => by simp [Rp]) rfl rfl ?_ ?_ ?_ (.inl ⟨rfl, heq⟩)
        · rw [Below.heap_setCell _ _ _ _ hne2]; exact set_one HL2.out _
        · refine set_one (p := .bool false) ?_ _
          rw [Below.heap_setCell _ _ _ _ hne2.symm]; exact HL3.out
        · exact ((hbel0.out.trans (HF3.out.mono (by omega))).setCell (p := ⟨w.heap.size, 0, none⟩) (Nat.le_refl _) _).setCell (p := ⟨w.heap.size + 1, 0, none⟩) (by show w.heap.size ≤ w.heap.size + 1; omega) _
      · have heq' : (sixtyS P == s) = false := by simpa using heq
        go_wp2_with fail
        refine leave_m (p := false) (pv := .nif) (x := .nilIface) (e2 := 9) (e3 := 4) (t := []) (b := false) (send_c (fun _ => []) false rfl) (fun y hy => by simp [AV.locs] at hy) (fun E => by simp [Rp]) rfl rfl ?_ ?_ ?_ (.inr ⟨rfl, rfl, fun u hu => by have := unS_six u; rw [hu, hun] at this; cases this; exact heq hu⟩)
        · rw [Below.heap_setCell _ _ _ _ hne2]; exact set_one HK2.out _
        · refine set_one (p := .bool false) ?_ _
          rw [Below.heap_setCell _ _ _ _ hne2.symm]; exact HK3.out
        · exact ((hbel0.out.trans (HF2.out.mono (by omega))).setCell (p := ⟨w.heap.size, 0, none⟩) (Nat.le_refl _) _).setCell (p := ⟨w.heap.size + 1, 0, none⟩) (by show w.heap.size ≤ w.heap.size + 1; omega) _
theorem sixGet_c (s : Th (List UInt8)) (hs : (s .o).length ≤ 1000000) {d : Nat} {K : ARes → BL → Prop} (hr : ∀ t : Th (List UInt8), ∀ b : Th Bool, SG (s .o) (t .o) (b .o) → K (.ret (.tup (.cons (.str t) (.cons (.bool b) .nil)))) .nil) : CallAt PT 41 [.str s] d .nil K := by
  refine CallAt.of_below (by kernel_rfl) fun E vs hb hv => ?_
  obtain ⟨v1, r1, rfl, h1, rfl⟩ : ∃ v1 r1, vs = v1 :: r1 ∧ Rp E (.str s) v1 ∧ r1 = [] := hv
  obtain rfl : v1 = .string ⟨(s .o).toArray⟩ := h1
  refine (sixGet_m (s .o) E.w hs).mono ?_
  rintro e w' ⟨t, b, h, rfl, hbl⟩
  exact ⟨.ret (.tup (.cons (.str fun _ => t) (.cons (.bool fun _ => b) .nil))), rfl, rp_tup.2 ⟨_, rfl, _, _, rfl, rfl, _, _, rfl, rfl, rfl⟩, hr _ _ h, hbl⟩
end Go.Proofs.Ytjjddmbnfkmfdaa
/- Letters as bytes, the document's way. -/
namespace Go.Proofs.Ytjjddmbnfkmfdaa
open Go Go.Proofs.Ytjjddmbnfkmfdaa.Sx F
set_option linter.unusedVariables false
set_option linter.unusedSimpArgs false
/-- A letter more: what is known so far, how many bits of it are not yet told, the bytes. -/
def nx6 (c : UInt8) (n : Nat) : Nat := match sixI c with | some k => (n * 64 + k) % 1048576 | none => n
def bx6 (c : UInt8) (b : Nat) : Nat := match sixI c with | some k => b + 6 | none => b
def g6 (x : Nat × Nat × List UInt8) (c : UInt8) : Nat × Nat × List UInt8 :=
  if 8 ≤ bx6 c x.2.1 then (nx6 c x.1, bx6 c x.2.1 - 8, x.2.2 ++ [UInt8.ofNat (nx6 c x.1 / 2 ^ (bx6 c x.2.1 - 8))]) else (nx6 c x.1, bx6 c x.2.1, x.2.2)
theorem g6_let {n b N k i : Nat} {o : List UInt8} (hi : i ≤ k) : g6 (n, b, o) (let4 N k i) = if 8 ≤ b + 6 then ((n * 64 + N / 64 ^ (3 - i) % 64) % 1048576, b + 6 - 8, o ++ [UInt8.ofNat ((n * 64 + N / 64 ^ (3 - i) % 64) % 1048576 / 2 ^ (b + 6 - 8))]) else ((n * 64 + N / 64 ^ (3 - i) % 64) % 1048576, b + 6, o) := by
  have h := (sixI_mod (N / 64 ^ (3 - i))).1
  unfold g6 nx6 bx6 let4
  rw [if_pos hi]
  simp only [h]
theorem g6_pad {n b N k i : Nat} {o : List UInt8} (hi : ¬ i ≤ k) (hb : b < 8) : g6 (n, b, o) (let4 N k i) = (n, b, o) := by
  have h : sixI 61 = none := by decide
  unfold g6 nx6 bx6 let4
  rw [if_neg hi]
  simp only [h]
  rw [if_neg (by omega)]
theorem l0 (n N k : Nat) (o : List UInt8) : ∃ m, m = (n * 64 + N / 262144 % 64) % 1048576 ∧ g6 (n, 0, o) (let4 N k 0) = (m, 6, o) := ⟨_, rfl, by rw [g6_let (Nat.zero_le _)]; rfl⟩
theorem l1 (n N k : Nat) (o : List UInt8) (h : 1 ≤ k) : ∃ m, m = (n * 64 + N / 4096 % 64) % 1048576 ∧ g6 (n, 6, o) (let4 N k 1) = (m, 4, o ++ [UInt8.ofNat (m / 16)]) := ⟨_, rfl, by rw [g6_let h]; rfl⟩
theorem l2 (n N k : Nat) (o : List UInt8) (h : 2 ≤ k) : ∃ m, m = (n * 64 + N / 64 % 64) % 1048576 ∧ g6 (n, 4, o) (let4 N k 2) = (m, 2, o ++ [UInt8.ofNat (m / 4)]) := ⟨_, rfl, by rw [g6_let h]; rfl⟩
theorem l3 (n N k : Nat) (o : List UInt8) (h : 3 ≤ k) : ∃ m, m = (n * 64 + N / 1 % 64) % 1048576 ∧ g6 (n, 2, o) (let4 N k 3) = (m, 0, o ++ [UInt8.ofNat (m / 1)]) := ⟨_, rfl, by rw [g6_let h]; rfl⟩
theorem fold_six3 (n : Nat) (o : List UInt8) (a b c : UInt8) : ∃ n', (six4 [a, b, c]).foldl g6 (n, 0, o) = (n', 0, o ++ [a, b, c]) := by
  have ha := a.toNat_lt
  have hb := b.toNat_lt
  have hc := c.toNat_lt
  have hN : num3 [a, b, c] = a.toNat * 65536 + b.toNat * 256 + c.toNat := rfl
  simp only [six4, List.foldl_cons, List.foldl_nil, List.length_cons, List.length_nil]
  generalize num3 [a, b, c] = N at hN
  obtain ⟨n1, e1, h1⟩ := l0 n N 3 o
  obtain ⟨n2, e2, h2⟩ := l1 n1 N 3 o (by decide)
  obtain ⟨n3, e3, h3⟩ := l2 n2 N 3 (o ++ [UInt8.ofNat (n2 / 16)]) (by decide)
  obtain ⟨n4, e4, h4⟩ := l3 n3 N 3 ((o ++ [UInt8.ofNat (n2 / 16)]) ++ [UInt8.ofNat (n3 / 4)]) (by decide)
  refine ⟨n4, ?_⟩
  show g6 (g6 (g6 (g6 (n, 0, o) (let4 N 3 0)) (let4 N 3 1)) (let4 N 3 2)) (let4 N 3 3) = _
  rw [h1, h2, h3, h4, ofNat_eq (a := a) (by omega), ofNat_eq (a := b) (by omega), ofNat_eq (a := c) (by omega)]
  simp
theorem fold_six2 (n : Nat) (o : List UInt8) (a b : UInt8) : ∃ n' m', (six4 [a, b]).foldl g6 (n, 0, o) = (n', m', o ++ [a, b]) := by
  have ha := a.toNat_lt
  have hb := b.toNat_lt
  have hN : num3 [a, b] = a.toNat * 65536 + b.toNat * 256 := by simp [num3]
  simp only [six4, List.foldl_cons, List.foldl_nil, List.length_cons, List.length_nil]
  generalize num3 [a, b] = N at hN
  obtain ⟨n1, e1, h1⟩ := l0 n N 2 o
  obtain ⟨n2, e2, h2⟩ := l1 n1 N 2 o (by decide)
  obtain ⟨n3, e3, h3⟩ := l2 n2 N 2 (o ++ [UInt8.ofNat (n2 / 16)]) (by decide)
  refine ⟨n3, 2, ?_⟩
  show g6 (g6 (g6 (g6 (n, 0, o) (let4 N 2 0)) (let4 N 2 1)) (let4 N 2 2)) (let4 N 2 3) = _
  rw [h1, h2, h3, g6_pad (by decide) (by decide), ofNat_eq (a := a) (by omega), ofNat_eq (a := b) (by omega)]
  simp
theorem fold_six1 (n : Nat) (o : List UInt8) (a : UInt8) : ∃ n' m', (six4 [a]).foldl g6 (n, 0, o) = (n', m', o ++ [a]) := by
  have ha := a.toNat_lt
  have hN : num3 [a] = a.toNat * 65536 := by simp [num3]
  simp only [six4, List.foldl_cons, List.foldl_nil, List.length_cons, List.length_nil]
  generalize num3 [a] = N at hN
  obtain ⟨n1, e1, h1⟩ := l0 n N 1 o
  obtain ⟨n2, e2, h2⟩ := l1 n1 N 1 o (by decide)
  refine ⟨n2, 4, ?_⟩
  show g6 (g6 (g6 (g6 (n, 0, o) (let4 N 1 0)) (let4 N 1 1)) (let4 N 1 2)) (let4 N 1 3) = _
  rw [h1, h2, g6_pad (n := n2) (b := 4) (i := 2) (by decide) (by decide), g6_pad (n := n2) (b := 4) (i := 3) (by decide) (by decide), ofNat_eq (a := a) (by omega)]
theorem fold_sixty : ∀ (u : List UInt8) (n : Nat) (o : List UInt8), ((sixtyS u).foldl g6 (n, 0, o)).2.2 = o ++ u
  | [], n, o => by simp [sixtyS]
  | [a], n, o => by obtain ⟨n', m', h⟩ := fold_six1 n o a; rw [sixtyS, h]
  | [a, b], n, o => by obtain ⟨n', m', h⟩ := fold_six2 n o a b; rw [sixtyS, h]
  | a :: b :: c :: r, n, o => by
    obtain ⟨n', h⟩ := fold_six3 n o a b c
    rw [sixtyS, List.foldl_append, h, fold_sixty r]
    simp
def R6 (s : List UInt8) : List UInt8 := (s.foldl g6 (0, 0, [])).2.2
theorem R6_six (u : List UInt8) : R6 (sixtyS u) = u := by unfold R6; rw [fold_sixty]; rfl
end Go.Proofs.Ytjjddmbnfkmfdaa
/- Records of names with values: xattr.read. -/
namespace Go.Proofs.Ytjjddmbnfkmfdaa
open Go Go.Proofs.Ytjjddmbnfkmfdaa.Sx F
set_option linter.unusedVariables false
set_option linter.unusedSimpArgs false
def isPre (p s : List UInt8) : Bool := decide (s.take p.length = p)
theorem xpre_c (s p : Th (List UInt8)) {d : Nat} {K : ARes → BL → Prop} (hr : ∀ b : Th Bool, b .o = isPre (p .o) (s .o) → K (.ret (.bool b)) .nil) : CallAt PT internal_stringslite_HasPrefix [.str s, .str p] d .nil K := by
  refine CallAt.res ?_
  refine internal_stringslite_HasPrefix.of rfl rfl ?_
  cbv
  ((try refine br_rev ?_); (first | refine br_dec (fun h1 => ?_) (fun h1 => ?_) | refine br_ndec (fun h1 => ?_) (fun h1 => ?_) | refine br_nbool (fun h1 => ?_) (fun h1 => ?_) | refine br_bool (fun h1 => ?_) (fun h1 => ?_)); all_goals (try dsimp only at h1); all_goals (try with_reducible replace h1 := zi_lt.1 h1); all_goals (try with_reducible replace h1 := not_zlt h1)) <;> cbv
  · have h1' : (p .o).length ≤ (s .o).length := zi_le.1 h1
    refine safe ⟨Int.le_refl _, zi_nonneg _, h1⟩ ?_
    exact ⟨_, .ret (.refl _), hr _ (by
      unfold isPre
      show decide (List.drop (0 : Int).toNat (List.take (zi (p .o).length).toNat (s .o)) = p .o) = _
      rw [zi_toNat]
      rfl)⟩
  · have h1' : ¬ (p .o).length ≤ (s .o).length := fun q => h1 (zi_le.2 q)
    exact ⟨_, .ret (.ff rfl), hr (fun _ => false) (by
      unfold isPre
      refine (decide_eq_false fun q => h1' ?_).symm
      have := congrArg List.length q
      rw [List.length_take] at this
      omega)⟩
theorem xcut1_c (s p : Th (List UInt8)) {d : Nat} {K : ARes → BL → Prop} (h1 : isPre (p .o) (s .o) = true → ∀ t : Th (List UInt8), t .o = (s .o).drop (p .o).length → K (.ret (.tup (.cons (.str t) (.cons .tt .nil)))) .nil)
    (h2 : isPre (p .o) (s .o) = false → K (.ret (.tup (.cons (.str s) (.cons .ff .nil)))) .nil) : CallAt PT internal_stringslite_CutPrefix [.str s, .str p] d .nil K := by
  refine CallAt.res ?_
  refine internal_stringslite_CutPrefix.of rfl rfl ?_
  cbv
  refine xpre_c s p fun b hb => ?_
  cbv
  refine br_nbool (fun h => ?_) (fun h => ?_)
  · cbv
    exact ⟨_, .ret (.refl _), h2 (by rw [← hb]; exact h)⟩
  · have hp : isPre (p .o) (s .o) = true := by rw [← hb]; exact h
    have hl : (p .o).length ≤ (s .o).length := by
      have := congrArg List.length (of_decide_eq_true hp)
      rw [List.length_take] at this
      omega
    cbv
    refine safe ⟨zi_nonneg _, zi_le.2 hl, Int.le_refl _⟩ ?_
    refine ⟨_, .ret (.refl _), h1 hp _ ?_⟩
    show List.drop (zi (p .o).length).toNat (List.take (zi (s .o).length).toNat (s .o)) = _
    rw [zi_toNat, zi_toNat, List.take_length]
theorem xcut_c (s p : Th (List UInt8)) {d : Nat} {K : ARes → BL → Prop} (h1 : isPre (p .o) (s .o) = true → ∀ t : Th (List UInt8), t .o = (s .o).drop (p .o).length → K (.ret (.tup (.cons (.str t) (.cons .tt .nil)))) .nil)
    (h2 : isPre (p .o) (s .o) = false → K (.ret (.tup (.cons (.str s) (.cons .ff .nil)))) .nil) : CallAt PT strings_CutPrefix [.str s, .str p] d .nil K := by
  refine strings_CutPrefix.of rfl rfl ?_
  cbv
  refine xcut1_c s p (fun h t ht => ?_) (fun h => ?_)
  · cbv
    exact h1 h t ht
  · cbv
    exact h2 h
def schS : List UInt8 := [83, 67, 72, 73, 76, 89, 46, 120, 97, 116, 116, 114, 46]
def libS : List UInt8 := [76, 73, 66, 65, 82, 67, 72, 73, 86, 69, 46, 120, 97, 116, 116, 114, 46]
def unE (s : List UInt8) : Option (List UInt8) := match decE s with | some t => if escS t = s then some t else none | none => none
def unX (s : List UInt8) : Option (List UInt8) := if sixtyS (R6 s) = s then some (R6 s) else none
theorem EG.fn {s t : List UInt8} {b : Bool} (h : EG s t b) : (b = true ∧ unE s = some t) ∨ (b = false ∧ t = [] ∧ unE s = none) := by
  rcases h with ⟨rfl, rfl⟩ | ⟨rfl, rfl, h⟩
  · exact .inl ⟨rfl, by unfold unE; rw [dec_esc]; simp⟩
  · refine .inr ⟨rfl, rfl, ?_⟩
    unfold unE
    split
    · rw [if_neg (h _)]
    · rfl
theorem SG.fn {s t : List UInt8} {b : Bool} (h : SG s t b) : (b = true ∧ unX s = some t) ∨ (b = false ∧ t = [] ∧ unX s = none) := by
  rcases h with ⟨rfl, rfl⟩ | ⟨rfl, rfl, h⟩
  · exact .inl ⟨rfl, by unfold unX; rw [R6_six]; simp⟩
  · exact .inr ⟨rfl, rfl, by unfold unX; rw [if_neg (h _)]⟩
theorem unE_esc (t : List UInt8) : unE (escS t) = some t := by unfold unE; rw [dec_esc]; simp
theorem unX_six (t : List UInt8) : unX (sixtyS t) = some t := by unfold unX; rw [R6_six]; simp
/-- What a record says: none: nothing that may be; some none: it is of something else. -/
def readX (k v : List UInt8) : Option (Option Xattr) :=
  if isPre schS k then some (some ⟨k.drop 13, v⟩) else if isPre libS k then (match unE (k.drop 17), unX v with
    | some n, some u => some (some ⟨n, u⟩)
    | _, _ => none) else some none
def noValV (k : Th (List UInt8)) : AV := .ifc 48 (.agg (.cons (.str k) .nil))
theorem xread_c (k v : Th (List UInt8)) (hk : (k .o).length ≤ 1000000) (hv : (v .o).length ≤ 1000000) {d : Nat} {K : ARes → BL → Prop}
    (h1 : ∀ n u : Th (List UInt8), readX (k .o) (v .o) = some (some ⟨n .o, u .o⟩) → K (.ret (.tup (.cons (.agg (.cons (.str n) (.cons (.str u) .nil))) (.cons .tt .nil)))) .nil)
    (h2 : readX (k .o) (v .o) = some none → K (.ret (.tup (.cons (.agg (.cons (.str fun _ => []) (.cons (.str fun _ => []) .nil))) (.cons .ff .nil)))) .nil)
    (h3 : readX (k .o) (v .o) = none → K (.pan (noValV k)) .nil) : CallAt PT xattr_read [.agg (.cons (.str k) (.cons (.str v) .nil))] d .nil K := by
  refine CallAt.res ?_
  refine xattr_read.of rfl rfl ?_
  cbv
  refine xcut_c k (fun _ => schS) (fun hp t ht => ?_) (fun hp => ?_)
  · have hR : readX (k .o) (v .o) = some (some ⟨(k .o).drop 13, v .o⟩) := by unfold readX; rw [if_pos hp]
    cbv
    exact ⟨_, .ret (.refl _), h1 t v (by rw [hR, ht]; rfl)⟩
  · have hR1 : readX (k .o) (v .o) = if isPre libS (k .o) then (match unE ((k .o).drop 17), unX (v .o) with
      | some n, some u => some (some ⟨n, u⟩)
      | _, _ => none) else some none := by unfold readX; rw [if_neg (by rw [show isPre schS (k .o) = false from hp]; simp)]
    cbv
    refine xcut_c k (fun _ => libS) (fun hq t ht => ?_) (fun hq => ?_)
    · rw [if_pos hq] at hR1
      have ht : t .o = (k .o).drop 17 := ht
      rw [← ht] at hR1
      cbv
      refine esget_c t (by rw [ht, List.length_drop]; omega) fun n bn hn => ?_
      cbv
      refine sixGet_c v hv fun u bu hu => ?_
      have hn := hn.fn
      have hu := hu.fn
      have hfin : (¬ (bn .o = true ∧ bu .o = true)) → readX (k .o) (v .o) = none := fun q => by
        rw [hR1]
        rcases hn with ⟨q1, e1⟩ | ⟨q1, _, e1⟩
        · rcases hu with ⟨q2, e2⟩ | ⟨q2, _, e2⟩
          · exact absurd ⟨q1, q2⟩ q
          · rw [e1, e2]
        · rw [e1]
      have hgood : bn .o = true → bu .o = true → readX (k .o) (v .o) = some (some ⟨n .o, u .o⟩) := fun q1 q2 => by
        rw [hR1]
        rcases hn with ⟨_, e1⟩ | ⟨q, _⟩
        · rcases hu with ⟨_, e2⟩ | ⟨q, _⟩
          · rw [e1, e2]
          · rw [q2] at q; cases q
        · rw [q1] at q; cases q
      cbv
      refine ⟨fun h => ?_, fun h => ?_⟩
      · have hbn : bn .o = true := by have h : (!bn .o) = false := h; simpa using h
        cbv
        refine br_nbool (fun h4 => ?_) (fun h4 => ?_)
        · have h4 : bu .o = false := h4
          cbv
          exact ⟨_, .pan (Same.refl _), h3 (hfin fun q => by rw [h4] at q; cases q.2)⟩
        · have h4 : bu .o = true := h4
          cbv
          exact ⟨_, .ret (.refl _), h1 n u (hgood hbn h4)⟩
      · have hbn : bn .o = false := by have h : (!bn .o) = true := h; simpa using h
        cbv
        exact ⟨_, .pan (Same.refl _), h3 (hfin fun q => by rw [hbn] at q; cases q.1)⟩
    · cbv
      exact ⟨_, .ret (.refl _), h2 (by rw [hR1, if_neg (by rw [show isPre libS (k .o) = false from hq]; simp)])⟩
end Go.Proofs.Ytjjddmbnfkmfdaa
/- Names with values told again by their records, in plain Lean. -/
namespace Go.Proofs.Ytjjddmbnfkmfdaa
open Go Go.Proofs.Ytjjddmbnfkmfdaa.Sx
set_option linter.unusedVariables false
set_option linter.unusedSimpArgs false
theorem ltX_ne {x y : Xattr} (h : ltX x y) : x.name ≠ y.name := fun e => by
  unfold ltX at h
  rw [e, lt_irr] at h
  cases h
theorem ltX_not {x y : Xattr} (h : ltX x y) : strLt y.name x.name = false := by
  cases q : strLt y.name x.name with
  | false => rfl
  | true => have := lt_trans' h q; rw [lt_irr] at this; cases this
theorem addX_front {y : Xattr} : ∀ {l : List Xattr}, (∀ x ∈ l, ltX y x) → addX y l = y :: l
  | [], _ => rfl
  | x :: r, h => by
    have h1 := h x (by simp)
    unfold addX
    rw [if_neg (by rw [ltX_not h1]; decide), if_neg (fun e => ltX_ne h1 e.symm)]
theorem addX_filter {y : Xattr} : ∀ {l : List Xattr} (p : Xattr → Bool), l.Pairwise ltX → y ∈ l → addX y (l.filter p) = l.filter fun z => p z || decide (z.name = y.name)
  | [], _, _, h => by cases h
  | z :: r, p, hp, hy => by
    obtain ⟨h1, h2⟩ := List.pairwise_cons.1 hp
    rcases List.mem_cons.1 hy with rfl | hy
    · have e : (r.filter fun x => p x || decide (x.name = y.name)) = r.filter p := by
        refine List.filter_congr fun x hx => ?_
        rw [decide_eq_false (fun q => ltX_ne (h1 x hx) q.symm), Bool.or_false]
      rw [List.filter_cons_of_pos (p := fun x => p x || decide (x.name = y.name)) (by simp), e]
      by_cases q : p y = true
      · rw [List.filter_cons_of_pos q]
        unfold addX
        rw [if_neg (by rw [lt_irr]; decide), if_pos rfl]
      · rw [List.filter_cons_of_neg q]
        exact addX_front fun x hx => h1 x (List.mem_filter.1 hx).1
    · have hzy := h1 y hy
      have ih := addX_filter (y := y) p h2 hy
      by_cases q : p z = true
      · rw [List.filter_cons_of_pos q, List.filter_cons_of_pos (by simp [q])]
        unfold addX
        rw [if_pos (show strLt z.name y.name = true from hzy), ih]
      · rw [List.filter_cons_of_neg q, List.filter_cons_of_neg (by simp [q, ltX_ne hzy]), ih]
theorem fold_filter {l : List Xattr} (hl : l.Pairwise ltX) : ∀ (ys : List Xattr) (p : Xattr → Bool), (∀ y ∈ ys, y ∈ l) → ys.foldl (fun a y => addX y a) (l.filter p) = l.filter fun z => p z || ys.any fun y => decide (z.name = y.name)
  | [], p, _ => by simp
  | y :: r, p, h => by
    rw [List.foldl_cons, addX_filter p hl (h y (by simp)), fold_filter hl r _ fun x hx => h x (List.mem_cons_of_mem _ hx)]
    refine List.filter_congr fun z hz => ?_
    rw [List.any_cons, Bool.or_assoc]
/-- Told in any order, each once at least: the list again. -/
theorem fold_all {l : List Xattr} (hl : l.Pairwise ltX) (ys : List Xattr) (h : ∀ y ∈ ys, y ∈ l) (g : ∀ x ∈ l, x ∈ ys) : ys.foldl (fun a y => addX y a) [] = l := by
  have := fold_filter hl ys (fun _ => false) h
  rw [show l.filter (fun _ => false) = [] by simp] at this
  rw [this]
  refine List.filter_eq_self.2 fun x hx => ?_
  rw [Bool.false_or, List.any_eq_true]
  exact ⟨x, g x hx, by simp⟩
end Go.Proofs.Ytjjddmbnfkmfdaa
/- Where a name stands among names that rise: the search by halves. -/
namespace Go.Proofs.Ytjjddmbnfkmfdaa
open Go Go.Proofs.Ytjjddmbnfkmfdaa.Sx F
set_option linter.unusedVariables false
set_option linter.unusedSimpArgs false
def cmpX (a b : List UInt8) : Int := if strLt a b then -1 else if a = b then 0 else 1
theorem nan_c (a : Th (List UInt8)) {d : Nat} {K : ARes → BL → Prop} (hr : ∀ b : Th Bool, b .o = false → K (.ret (.bool b)) .nil) : CallAt PT cmp_isNaN_string [.str a] d .nil K := by
  refine cmp_isNaN_string.of rfl rfl ?_
  cbv
  exact hr _ (by simp)
theorem compare_c (a b : Th (List UInt8)) {d : Nat} {K : ARes → BL → Prop} (hr : ∀ n : Th Int, n .o = cmpX (a .o) (b .o) → K (.ret (.int .i64 n)) .nil) : CallAt PT cmp_Compare_string [.str a, .str b] d .nil K := by
  refine CallAt.res ?_
  refine cmp_Compare_string.of rfl rfl ?_
  cbv
  refine nan_c a fun n1 e1 => ?_
  cbv
  refine nan_c b fun n2 e2 => ?_
  cbv
  refine br_bool (fun h => by have h : n1 .o = true := h; rw [e1] at h; cases h) (fun _ => ?_)
  cbv
  refine br_bool (fun h => by have h : n2 .o = true := h; rw [e2] at h; cases h) (fun _ => ?_)
  cbv
  refine br_bool (fun h => ?_) (fun h => ?_)
  · have h : strLt (a .o) (b .o) = true := h
    cbv
    exact ⟨_, .ret (.refl _), hr _ (by unfold cmpX; rw [if_pos h])⟩
  · have h : strLt (a .o) (b .o) = false := h
    cbv
    refine ⟨fun h2 => ?_, fun h2 => ?_⟩
    · have h2 : (!(strLt (a .o) (b .o) || decide (a .o = b .o))) = true := h2
      rw [h, Bool.false_or] at h2
      have h2 : ¬ a .o = b .o := by simpa using h2
      cbv
      exact ⟨_, .ret (.refl _), hr _ (by unfold cmpX; rw [if_neg (by rw [h]; decide), if_neg h2])⟩
    · have h2 : (!(strLt (a .o) (b .o) || decide (a .o = b .o))) = false := h2
      rw [h, Bool.false_or] at h2
      have h2 : a .o = b .o := by simpa using h2
      cbv
      exact ⟨_, .ret (.refl _), hr _ (by unfold cmpX; rw [if_neg (by rw [h]; decide), if_pos h2])⟩
theorem cmpf_c (x : Th Xattr) (b : Th (List UInt8)) {d : Nat} {K : ARes → BL → Prop} (hr : ∀ n : Th Int, n .o = cmpX (x .o).name (b .o) → K (.ret (.int .i64 n)) .nil) : CallAt PT xattr_From_2 [Xattr.av x, .str b] d .nil K := by
  refine xattr_From_2.of rfl rfl ?_
  cbv
  refine compare_c (fun _ => (x .o).name) b fun n hn => ?_
  cbv
  exact hr n hn
/-- The place of a name. -/
structure At (l : List Xattr) (s : List UInt8) (k : Nat) : Prop where
  le : k ≤ l.length
  lo : ∀ j, j < k → strLt (l.getD j Xattr.z).name s = true
  hi : ∀ j, k ≤ j → j < l.length → ¬ strLt (l.getD j Xattr.z).name s = true
theorem up_at {l : List Xattr} (h : l.Pairwise ltX) {i j : Nat} (hij : i < j) (hj : j < l.length) : strLt (l.getD i Xattr.z).name (l.getD j Xattr.z).name = true := by
  have := List.pairwise_iff_getElem.1 h i j (by omega) hj hij
  rw [List.getD_eq_getElem?_getD, List.getD_eq_getElem?_getD, List.getElem?_eq_getElem (by omega), List.getElem?_eq_getElem hj]
  exact this
theorem lt_down {l : List Xattr} (h : l.Pairwise ltX) {s : List UInt8} {k : Nat} (hk : k < l.length) (hs : strLt (l.getD k Xattr.z).name s = true) : ∀ j, j ≤ k → strLt (l.getD j Xattr.z).name s = true := fun j hj => by
  rcases Nat.lt_or_ge j k with q | q
  · exact lt_trans' (up_at h q hk) hs
  · obtain rfl : j = k := by omega
    exact hs
def cmpFn : AV := .fn (.func xattr_From_2) .nil .nil
theorem half_eq {a b : Nat} (h : a + b < 4611686018427387904) : IntKind.i64.wrap ((IntKind.u64.wrap (IntKind.i64.wrap (zi a + zi b))).fdiv (2 ^ min (Int.toNat 1) IntKind.u64.bits)) = zi ((a + b) / 2) := by
  have e1 : IntKind.i64.wrap (zi a + zi b) = zi (a + b) := by rw [IntKind.wrap_i64]; unfold zi; omega
  have e2 : IntKind.u64.wrap (zi (a + b)) = zi (a + b) := by rw [IntKind.wrap_u64]; unfold zi; omega
  rw [e1, e2, show min (Int.toNat 1) IntKind.u64.bits = 1 from rfl, fdiv_pow, IntKind.wrap_i64]
  unfold zi; omega
theorem search_c (l : Th (List Xattr)) (s : Th (List UInt8)) (hl : (l .o).length ≤ 1000000) (hup : (l .o).Pairwise ltX) {d : Nat} {K : ARes → BL → Prop}
    (hr : ∀ k : Nat, At (l .o) (s .o) k → ∀ b : Th Bool, (b .o = true ↔ k < (l .o).length ∧ ((l .o).getD k Xattr.z).name = s .o) → K (.ret (.tup (.cons (.int .i64 fun _ => zi k) (.cons (.bool b) .nil)))) .nil) : CallAt PT slices_BinarySearchFunc_api_Xattr_api_Xattr_string [xattrs l, .str s, cmpFn] d .nil K := by
  refine CallAt.res ?_
  refine slices_BinarySearchFunc_api_Xattr_api_Xattr_string.of rfl rfl ?_
  cbv
  refine loop_at (X := Nat × Nat) 1000 [0, 1, 2, 8] [] (fun _ x => .cons 9 (.int .i64 fun _ => zi x.1) (.cons 10 (.int .i64 fun _ => zi x.2) .nil)) (fun _ _ => .nil)
    (fun x => x.1 ≤ x.2 ∧ x.2 ≤ (l .o).length ∧ (∀ j, j < x.1 → strLt ((l .o).getD j Xattr.z).name (s .o) = true) ∧ ∀ j, x.2 ≤ j → j < (l .o).length → ¬ strLt ((l .o).getD j Xattr.z).name (s .o) = true) (fun x => x.2 - x.1) (0, (l .o).length) ?_ ⟨Nat.zero_le _, Nat.le_refl _, fun j hj => absurd hj (Nat.not_lt_zero _), fun j h1 h2 => by have h1 : (l .o).length ≤ j := h1; omega⟩ ?_
  · cbv
    (repeat' (first | exact True.intro | exact Same.refl _ | exact SameB.refl _ | exact ⟨rfl⟩ | exact Same.int rfl | exact Same.str rfl | exact Same.bool rfl | (refine Same.int ?_; simp only [List.length_append, List.length_cons, List.length_nil, zi]; omega) | (refine SameB.row' rfl fun i hi => ?_; first | rfl | exact absurd hi (Nat.not_lt_zero _)) | refine And.intro ?_ ?_ | refine SameB.cells ?_ | exact SameC.nil | refine SameC.cons ?_ ?_ | exact Same.nsl rfl | exact Same.tt rfl | exact Same.ff rfl))
  · rintro ⟨i, j⟩ ⟨h1, h2, h3, h4⟩
    dsimp only at h1 h2 h3 h4
    cbv
    refine br_zlt (fun h5 => ?_) (fun h5 => ?_)
    · have h5 : i < j := h5
      cbv
      refine safe (by decide) ?_
      rw [half_eq (by omega)]
      have hm : (i + j) / 2 < (l .o).length := by omega
      have hm1 : i ≤ (i + j) / 2 := by omega
      have hm2 : (i + j) / 2 < j := by omega
      generalize (i + j) / 2 = m at hm hm1 hm2
      refine safe ⟨zi_nonneg _, zi_lt.2 hm⟩ ?_
      refine cmpf_c (fun _ => (l .o).getD (zi m).toNat Xattr.z) s fun n hn => ?_
      have hn : n .o = cmpX ((l .o).getD m Xattr.z).name (s .o) := by rw [hn, zi_toNat]
      cbv
      refine br_dec (fun h6 => ?_) (fun h6 => ?_)
      · have h6 : strLt ((l .o).getD m Xattr.z).name (s .o) = true := by
          have h6 : n .o < 0 := h6
          rw [hn] at h6
          unfold cmpX at h6
          split at h6
          · assumption
          · split at h6 <;> exact absurd h6 (by decide)
        cbv
        refine ⟨(m + 1, j), ⟨by show m + 1 ≤ j; omega, h2, fun q hq => lt_down hup hm h6 q (by have hq : q < m + 1 := hq; omega), h4⟩, by show j - (m + 1) < j - i; omega, ?_⟩
        cbv
        rw [zi_succ (by omega)]
        (repeat' (first | exact True.intro | exact Same.refl _ | exact SameB.refl _ | exact ⟨rfl⟩ | exact Same.int rfl | exact Same.str rfl | exact Same.bool rfl | (refine Same.int ?_; simp only [List.length_append, List.length_cons, List.length_nil, zi]; omega) | (refine SameB.row' rfl fun i hi => ?_; first | rfl | exact absurd hi (Nat.not_lt_zero _)) | refine And.intro ?_ ?_ | refine SameB.cells ?_ | exact SameC.nil | refine SameC.cons ?_ ?_ | exact Same.nsl rfl | exact Same.tt rfl | exact Same.ff rfl))
      · have h6 : ¬ strLt ((l .o).getD m Xattr.z).name (s .o) = true := fun q => h6 (by
          show n .o < 0
          rw [hn]; unfold cmpX; rw [if_pos q]; decide)
        cbv
        refine ⟨(i, m), ⟨hm1, by show m ≤ _; omega, h3, fun q hq hql q2 => h6 (lt_down hup hql q2 m hq)⟩, by show m - i < j - i; omega, ?_⟩
        cbv
        (repeat' (first | exact True.intro | exact Same.refl _ | exact SameB.refl _ | exact ⟨rfl⟩ | exact Same.int rfl | exact Same.str rfl | exact Same.bool rfl | (refine Same.int ?_; simp only [List.length_append, List.length_cons, List.length_nil, zi]; omega) | (refine SameB.row' rfl fun i hi => ?_; first | rfl | exact absurd hi (Nat.not_lt_zero _)) | refine And.intro ?_ ?_ | refine SameB.cells ?_ | exact SameC.nil | refine SameC.cons ?_ ?_ | exact Same.nsl rfl | exact Same.tt rfl | exact Same.ff rfl))
    · have h5 : j ≤ i := h5
      obtain rfl : i = j := by omega
      have hat : At (l .o) (s .o) i := ⟨h2, h3, h4⟩
      cbv
      refine br_zlt (fun h6 => ?_) (fun h6 => ?_)
      · have h6 : i < (l .o).length := h6
        cbv
        refine safe ⟨zi_nonneg _, zi_lt.2 h6⟩ ?_
        refine cmpf_c (fun _ => (l .o).getD (zi i).toNat Xattr.z) s fun n hn => ?_
        have hn : n .o = cmpX ((l .o).getD i Xattr.z).name (s .o) := by rw [hn, zi_toNat]
        cbv
        refine ⟨_, .ret (.refl _), hr i hat _ ?_⟩
        show decide (n .o = 0) = true ↔ _
        rw [decide_eq_true_eq, hn]
        unfold cmpX
        rw [if_neg (h4 i (Nat.le_refl _) h6)]
        split
        · rename_i q; exact ⟨fun _ => ⟨h6, q⟩, fun _ => rfl⟩
        · rename_i q; exact ⟨fun w => absurd w (by decide), fun w => (q w.2).elim⟩
      · have h6 : (l .o).length ≤ i := h6
        cbv
        exact ⟨_, .ret (.tup (.cons (.refl _) (.cons (.ff rfl) .nil))), hr i hat (fun _ => false) ⟨fun w => (by cases w), fun w => by omega⟩⟩
end Go.Proofs.Ytjjddmbnfkmfdaa
/- Names with values out of records: xattr.From, given what slices.Insert does. -/
namespace Go.Proofs.Ytjjddmbnfkmfdaa
open Go Go.Proofs.Ytjjddmbnfkmfdaa.Sx F
set_option linter.unusedVariables false
set_option linter.unusedSimpArgs false
def stepX (a : Option (List Xattr)) (r : Xattr) : Option (List Xattr) := match a with
  | none => none
  | some a => match readX r.name r.value with
    | none => none
    | some none => some a
    | some (some x) => some (addX x a)
def foldX (rs : List Xattr) : Option (List Xattr) := rs.foldl stepX (some [])
theorem stepX_none (rs : List Xattr) : rs.foldl stepX none = none := by
  induction rs with
  | nil => rfl
  | cons r q ih => exact ih
theorem escS_le : ∀ t : List UInt8, t.length ≤ (escS t).length
  | [] => Nat.le_refl _
  | c :: r => by
    have ih := escS_le r
    have : 1 ≤ (escB c).length := by unfold escB; split <;> simp
    simp only [escS, List.flatMap_cons, List.length_append, List.length_cons] at ih ⊢
    omega
theorem sixty_le : ∀ t : List UInt8, t.length ≤ (sixtyS t).length
  | [] => Nat.le_refl _
  | [a] => by show 1 ≤ 4; omega
  | [a, b] => by show 2 ≤ 4; omega
  | a :: b :: c :: r => by
    have := sixty_le r
    simp only [sixtyS, List.length_append, six4_len, List.length_cons]
    omega
theorem unE_le {s t : List UInt8} (h : unE s = some t) : t.length ≤ s.length := by
  unfold unE at h
  split at h
  · split at h
    · rename_i q; cases h; rw [← q]; exact escS_le _
    · cases h
  · cases h
theorem unX_le {s t : List UInt8} (h : unX s = some t) : t.length ≤ s.length := by
  unfold unX at h
  split at h
  · rename_i q; cases h; have := sixty_le (R6 s); rw [q] at this; exact this
  · cases h
structure SmallX (N : Nat) (x : Xattr) : Prop where
  name : x.name.length ≤ N
  value : x.value.length ≤ N
theorem readX_small {N : Nat} {k v : List UInt8} (hk : k.length ≤ N) (hv : v.length ≤ N) {x : Xattr} (h : readX k v = some (some x)) : SmallX N x := by
  unfold readX at h
  split at h
  · cases h; exact ⟨by show (k.drop 13).length ≤ N; rw [List.length_drop]; omega, hv⟩
  · split at h
    · split at h
      · rename_i n u e1 e2
        cases h
        have h1 := unE_le e1
        have h2 := unX_le e2
        rw [List.length_drop] at h1
        exact ⟨by show n.length ≤ N; omega, by show u.length ≤ N; omega⟩
      · cases h
    · cases h
def insF : Nat := 26
/-- What slices.Insert does, at such lists and places as Ok lets in. -/
def InsC (Ok : List Xattr → Nat → Prop) : Prop := ∀ (l : List Xattr) (i : Nat) (x : Xattr) {m nn : Th Nat} {g gy : Th Nat → AV} {iv : Th Int} {K : Th Nat → (Th Nat → AV) → Prop}, Ok l i → i ≤ l.length → l.length ≤ 1000 → m .o = l.length → (∀ j, j < l.length → g (fun _ => j) = Xattr.ch fun _ => l.getD j Xattr.z) → iv .o = zi i → nn .o = 1 → gy (fun _ => 0) = Xattr.ch (fun _ => x) →
  K (fun _ => (l.take i ++ x :: l.drop i).length) (fun j => Xattr.ch fun _ => (l.take i ++ x :: l.drop i).getD (j .o) Xattr.z) → GrowAt PT insF 2 m g [.int .i64 iv, .sl 2 nn gy] K
theorem xendP_c (k : Th (List UInt8)) (e : Th Int) (n : Th Nat) (g : Th Nat → AV) {K : BL → Prop} (h : K (.cons 10000 (.cells (.cons .nsl .nil)) (.cons 10001 (.cells (.cons (.int .i64 fun _ => 4) .nil)) (.cons 10002 (.row 2 n g) .nil)))) : DefAt PT xattr_From_1 true [noValV k, .ptr 10000 0, .ptr 10001 0] (.cons 10000 (.cells (.cons (.row 10002) .nil)) (.cons 10001 (.cells (.cons (.int .i64 e) .nil)) (.cons 10002 (.row 2 n g) .nil))) K := by
  refine xattr_From_1.of rfl rfl (fun h => by cases h) ?_
  cbv
  exact h
theorem xendR_c (e : Th Int) (n : Th Nat) (g : Th Nat → AV) {K : BL → Prop} (h : K (.cons 10000 (.cells (.cons (.row 10002) .nil)) (.cons 10001 (.cells (.cons (.int .i64 e) .nil)) (.cons 10002 (.row 2 n g) .nil)))) : DefAt PT xattr_From_1 false [.nif, .ptr 10000 0, .ptr 10001 0] (.cons 10000 (.cells (.cons (.row 10002) .nil)) (.cons 10001 (.cells (.cons (.int .i64 e) .nil)) (.cons 10002 (.row 2 n g) .nil))) K := by
  refine xattr_From_1.of rfl rfl (fun _ => rfl) ?_
  cbv
  exact h
theorem xendN_c (e : Th Int) {K : BL → Prop} (h : K (.cons 10000 (.cells (.cons .nsl .nil)) (.cons 10001 (.cells (.cons (.int .i64 e) .nil)) .nil))) : DefAt PT xattr_From_1 false [.nif, .ptr 10000 0, .ptr 10001 0] (.cons 10000 (.cells (.cons .nsl .nil)) (.cons 10001 (.cells (.cons (.int .i64 e) .nil)) .nil)) K := by
  refine xattr_From_1.of rfl rfl (fun _ => rfl) ?_
  cbv
  exact h
theorem xfrom_c {Ok : List Xattr → Nat → Prop} (hI : InsC Ok) (rs : Th (List Xattr)) (hrs : (rs .o).length ≤ 1000) (hsm : ∀ r ∈ rs .o, SmallX 1000000 r) (hOk : ∀ k acc x i, k < (rs .o).length → foldX ((rs .o).take k) = some acc → readX ((rs .o).getD k Xattr.z).name ((rs .o).getD k Xattr.z).value = some (some x) → At acc x.name i → Ok acc i) {d : Nat} {K : ARes → BL → Prop}
    (h1 : ∀ l : Th (List Xattr), foldX (rs .o) = some (l .o) → XsOk (l .o) → K (.ret (.tup (.cons (xattrs l) (.cons (.int .i64 fun _ => 0) .nil)))) .nil)
    (h2 : (∀ l, foldX (rs .o) = some l → ¬ XsOk l) → K (.ret (.tup (.cons .nsl (.cons (.int .i64 fun _ => 4) .nil)))) .nil) : CallAt PT xattr_From [xattrs rs] d .nil K := by
  refine CallAt.res ?_
  refine xattr_From.of rfl rfl ?_
  cbv
  refine nil_cell 2 0 9000 2 (fun i => Xattr.ch fun _ => ([] : List Xattr).getD (i .o) Xattr.z) rfl rfl rfl ?_
  refine loop_at (X := Nat × List Xattr) 1000 [0, 2, 3, 10, 11, 12] [2, 3] (fun _ x => .cons 13 (.int .i64 fun _ => zi x.1) .nil) (fun _ x => .cons 9000 (rowB 2 Xattr.ch Xattr.z fun _ => x.2) .nil)
    (fun x => x.1 ≤ (rs .o).length ∧ foldX ((rs .o).take x.1) = some x.2 ∧ x.2.Pairwise ltX ∧ x.2.length ≤ x.1 ∧ ∀ y ∈ x.2, SmallX 1000000 y) (fun x => (rs .o).length - x.1) (0, []) ?_ ⟨Nat.zero_le _, rfl, List.Pairwise.nil, Nat.le_refl _, fun y hy => by cases hy⟩ ?_
  · cbv
    (repeat' (first | exact True.intro | exact Same.refl _ | exact SameB.refl _ | exact ⟨rfl⟩ | exact Same.int rfl | exact Same.str rfl | exact Same.bool rfl | (refine Same.int ?_; simp only [List.length_append, List.length_cons, List.length_nil, zi]; omega) | (refine SameB.row' rfl fun i hi => ?_; first | rfl | exact absurd hi (Nat.not_lt_zero _)) | refine And.intro ?_ ?_ | refine SameB.cells ?_ | exact SameC.nil | refine SameC.cons ?_ ?_ | exact Same.nsl rfl | exact Same.tt rfl | exact Same.ff rfl))
  · rintro ⟨k, acc⟩ ⟨hk, hf, hup, hlen, hacc⟩
    dsimp only at hk hf hup hlen hacc
    have hz := zi_toNat k
    cbv
    refine br_zlt (fun h4 => ?_) (fun h4 => ?_)
    · have h4 : k < (rs .o).length := h4
      have hmem : (rs .o).getD k Xattr.z ∈ rs .o := by
        rw [List.getD_eq_getElem?_getD, List.getElem?_eq_getElem h4]; exact List.getElem_mem h4
      have hr := hsm _ hmem
      have hf1 : foldX ((rs .o).take (k + 1)) = stepX (some acc) ((rs .o).getD k Xattr.z) := by
        rw [List.take_succ_eq_append_getElem h4]
        unfold foldX at hf ⊢
        rw [List.foldl_append, hf]
        rw [List.getD_eq_getElem?_getD, List.getElem?_eq_getElem h4]
        rfl
      have hOk := hOk k acc
      generalize hrr : (rs .o).getD k Xattr.z = r at hr hf1 hOk
      have hst : stepX (some acc) r = match readX r.name r.value with | none => none | some none => some acc | some (some x) => some (addX x acc) := rfl
      cbv
      refine safe ⟨zi_nonneg _, zi_lt.2 h4⟩ ?_
      refine xread_c (fun _ => ((rs .o).getD (zi k).toNat Xattr.z).name) (fun _ => ((rs .o).getD (zi k).toNat Xattr.z).value) (by rw [hz, hrr]; exact hr.name) (by rw [hz, hrr]; exact hr.value) (fun n u hx => ?_) (fun hx => ?_) (fun hx => ?_)
      · rw [hz, hrr] at hx
        rw [hx] at hst
        cbv
        refine search_c (fun _ => acc) n (by omega) hup fun i hi b hb => ?_
        have hxs := readX_small hr.name hr.value hx
        have hadd := addX_at ⟨n .o, u .o⟩ acc i hi.le hi.lo (fun q => hi.hi i (Nat.le_refl _) q)
        have hnew : ∀ y ∈ addX ⟨n .o, u .o⟩ acc, SmallX 1000000 y := fun y hy => (addX_mem hy).elim (fun e => e ▸ hxs) (hacc y)
        have hnl := addX_len ⟨n .o, u .o⟩ acc
        have hnu := addX_up ⟨n .o, u .o⟩ acc hup
        have hil := hi.le
        cbv
        refine br_bool (fun h5 => ?_) (fun h5 => ?_)
        · have h5 : i < acc.length ∧ (acc.getD i Xattr.z).name = n .o := hb.1 h5
          rw [if_pos h5] at hadd
          have hset : addX ⟨n .o, u .o⟩ acc = acc.set i ⟨n .o, u .o⟩ := by rw [hadd, List.set_eq_take_append_cons_drop, if_pos h5.1]
          cbv
          refine safe ⟨zi_nonneg _, zi_lt.2 h5.1⟩ ?_
          refine put_rows Xattr.ch Xattr.z acc ⟨n .o, u .o⟩ rfl (fun j hj => rfl) (by show (zi i).toNat < _; rw [zi_toNat]; exact h5.1) rfl ?_
          rw [zi_toNat, ← hset]
          have hll : acc.length = (addX ⟨n .o, u .o⟩ acc).length := by rw [hset, List.length_set]
          cbv
          refine ⟨(k + 1, addX ⟨n .o, u .o⟩ acc), ⟨h4, hf1.trans hst, hnu, by show (addX _ acc).length ≤ k + 1; omega, hnew⟩, by show (rs .o).length - (k + 1) < (rs .o).length - k; omega, ?_⟩
          cbv
          rw [zi_succ (by omega)]
          (repeat' (first | exact True.intro | exact Same.refl _ | exact SameB.refl _ | exact ⟨rfl⟩ | exact Same.int rfl | exact Same.str rfl | exact Same.bool rfl | (refine Same.int ?_; simp only [List.length_append, List.length_cons, List.length_nil, zi]; omega) | (refine SameB.row' rfl fun i hi => ?_; first | rfl | exact absurd hi (Nat.not_lt_zero _)) | refine And.intro ?_ ?_ | refine SameB.cells ?_ | exact SameC.nil | refine SameC.cons ?_ ?_ | exact Same.nsl rfl | exact Same.tt rfl | exact Same.ff rfl))
          all_goals (refine SameB.row' hll fun j hj => rfl)
        · have h5 : ¬ (i < acc.length ∧ (acc.getD i Xattr.z).name = n .o) := fun q => by have := hb.2 q; rw [this] at h5; cases h5
          rw [if_neg h5] at hadd
          cbv
          refine hI acc i ⟨n .o, u .o⟩ (hOk _ i (by omega) hf hx hi) hil (by omega) rfl (fun j hj => rfl) rfl rfl rfl ?_
          rw [← hadd]
          cbv
          refine ⟨(k + 1, addX ⟨n .o, u .o⟩ acc), ⟨h4, hf1.trans hst, hnu, by show (addX _ acc).length ≤ k + 1; omega, hnew⟩, by show (rs .o).length - (k + 1) < (rs .o).length - k; omega, ?_⟩
          cbv
          rw [zi_succ (by omega)]
          (repeat' (first | exact True.intro | exact Same.refl _ | exact SameB.refl _ | exact ⟨rfl⟩ | exact Same.int rfl | exact Same.str rfl | exact Same.bool rfl | (refine Same.int ?_; simp only [List.length_append, List.length_cons, List.length_nil, zi]; omega) | (refine SameB.row' rfl fun i hi => ?_; first | rfl | exact absurd hi (Nat.not_lt_zero _)) | refine And.intro ?_ ?_ | refine SameB.cells ?_ | exact SameC.nil | refine SameC.cons ?_ ?_ | exact Same.nsl rfl | exact Same.tt rfl | exact Same.ff rfl))
      · rw [hz, hrr] at hx
        rw [hx] at hst
        cbv
        refine ⟨(k + 1, acc), ⟨h4, hf1.trans hst, hup, by show acc.length ≤ k + 1; omega, hacc⟩, by show (rs .o).length - (k + 1) < (rs .o).length - k; omega, ?_⟩
        cbv
        rw [zi_succ (by omega)]
        (repeat' (first | exact True.intro | exact Same.refl _ | exact SameB.refl _ | exact ⟨rfl⟩ | exact Same.int rfl | exact Same.str rfl | exact Same.bool rfl | (refine Same.int ?_; simp only [List.length_append, List.length_cons, List.length_nil, zi]; omega) | (refine SameB.row' rfl fun i hi => ?_; first | rfl | exact absurd hi (Nat.not_lt_zero _)) | refine And.intro ?_ ?_ | refine SameB.cells ?_ | exact SameC.nil | refine SameC.cons ?_ ?_ | exact Same.nsl rfl | exact Same.tt rfl | exact Same.ff rfl))
      · rw [hz, hrr] at hx
        rw [hx] at hst
        have hnone : foldX (rs .o) = none := by
          have e : rs .o = (rs .o).take (k + 1) ++ (rs .o).drop (k + 1) := (List.take_append_drop _ _).symm
          have h := hf1.trans hst
          unfold foldX at h ⊢
          rw [e, List.foldl_append, h, stepX_none]
        cbv
        refine DefAt.use [(10000, 2), (10001, 3), (10002, 9000)] [noValV _, .ptr 10000 0, .ptr 10001 0] (by kernel_rfl) rfl (xendP_c _ _ _ _ ?_)
        cbv
        exact ⟨_, .ret (.refl _), h2 fun l hl => by rw [hnone] at hl; cases hl⟩
    · have h4 : (rs .o).length ≤ k := h4
      rw [List.take_of_length_le h4] at hf
      cbv
      refine xsmay_c (fun _ => acc) (by unfold short; omega) (fun y hy => by have := (hacc y hy).name; omega) fun b hb => ?_
      cbv
      refine br_nbool (fun h5 => ?_) (fun h5 => ?_)
      · have h5 : ¬ XsOk acc := fun q => by have := hb.2 q; rw [this] at h5; cases h5
        cbv
        refine DefAt.use [(10000, 2), (10001, 3)] [.nif, .ptr 10000 0, .ptr 10001 0] (by kernel_rfl) rfl (xendN_c _ ?_)
        cbv
        exact ⟨_, .ret (.refl _), h2 fun l hl => by rw [hf] at hl; cases hl; exact h5⟩
      · have h5 : XsOk acc := hb.1 h5
        cbv
        refine DefAt.use [(10000, 2), (10001, 3), (10002, 9000)] [.nif, .ptr 10000 0, .ptr 10001 0] (by kernel_rfl) rfl (xendR_c _ _ _ ?_)
        cbv
        exact ⟨_, .ret (.refl _), h1 (fun _ => acc) hf h5⟩
end Go.Proofs.Ytjjddmbnfkmfdaa
