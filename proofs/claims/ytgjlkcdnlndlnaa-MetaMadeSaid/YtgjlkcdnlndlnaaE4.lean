/- Texts laid together: Dat, Row, Opn, Byt, Rc, RcP, RcM, Fm, Right, RightA, Made, Mk, Mkx, Mkm, Modes, Acl, Less, Ref, MeA, Ref2, RightMade, May, MeB, MeC, MeD, Bld, Bldx, Esc, Strs, MeE, Nam, Ent, Plan, Fewer, Attrs, Order, Ref21, Same, MeF, MeG. -/
import Derived.ChangeSlices
import Derived.SizedLaws
import Derived.Deep.Slices
import Derived.Test.YtgjlkcdnlndlnaaProg
import Derived.KernelRfl
import Derived.Shelf.Strings.Builder1
import Derived.Shelf.LaysM
import Derived.WalkKit
import Derived.WalkLawsBesides
import Derived.Lib.Strings
import Derived.Lib.Slices
import Derived.Lib.Walk
import Derived.Lib.AppendStr
import Derived.Laws.IdiomCopy
import Derived.Laws.Externs
import Derived.Lib.ConvBytes
import Derived.Laws.IdiomStrings
import Derived.Deep.RegionWith
import Derived.Lib.Bytealg
import Derived.Test.YtgjlkcdnlndlnaaE3
/- The program's data, as the executor tells of it. -/
namespace Go.Proofs.Ytgjlkcdnlndlnaa
open Go Go.Proofs.Ytgjlkcdnlndlnaa.Sx
/-- A part of an access list. -/
structure Ace where
  tag : Int
  id : Int
  perm : Int
def Ace.z : Ace := ⟨0, 0, 0⟩
def Ace.ch (a : Th Ace) : AV := .cons (.int .i64 fun _ => (a .o).tag) (.cons (.int .i64 fun _ => (a .o).id) (.cons (.int .i64 fun _ => (a .o).perm) .nil))
def Ace.av (a : Th Ace) : AV := .agg (Ace.ch a)
def aces (l : Th (List Ace)) : AV := .sl 3 (fun _ => (l .o).length) fun i => Ace.ch fun _ => (l .o).getD (i .o) Ace.z
/-- A name with a value. -/
structure Xattr where
  name : List UInt8
  value : List UInt8
def Xattr.z : Xattr := ⟨[], []⟩
def Xattr.ch (a : Th Xattr) : AV := .cons (.str fun _ => (a .o).name) (.cons (.str fun _ => (a .o).value) .nil)
def Xattr.av (a : Th Xattr) : AV := .agg (Xattr.ch a)
def xattrs (l : Th (List Xattr)) : AV := .sl 2 (fun _ => (l .o).length) fun i => Xattr.ch fun _ => (l .o).getD (i .o) Xattr.z
structure Caps where
  ver : Int
  perm : Int
  inh : Int
  eff : Bool
  root : Int
structure Meta where
  mode : Int
  uid : Int
  gid : Int
  sec : Int
  nano : Int
  acl : List Ace
  dflt : List Ace
  xs : List Xattr
  caps : Caps
  flags : Int
def Meta.ch (m : Th Meta) : AV :=
  .cons (.int .i64 fun _ => (m .o).mode) (.cons (.int .i64 fun _ => (m .o).uid) (.cons (.int .i64 fun _ => (m .o).gid) (.cons (.int .i64 fun _ => (m .o).sec) (.cons (.int .i64 fun _ => (m .o).nano)
  (.cons (aces fun _ => (m .o).acl) (.cons (aces fun _ => (m .o).dflt) (.cons (xattrs fun _ => (m .o).xs)
  (.cons (.int .i64 fun _ => (m .o).caps.ver) (.cons (.int .u64 fun _ => (m .o).caps.perm) (.cons (.int .u64 fun _ => (m .o).caps.inh) (.cons (.bool fun _ => (m .o).caps.eff) (.cons (.int .i64 fun _ => (m .o).caps.root)
  (.cons (.int .i64 fun _ => (m .o).flags) .nil)))))))))))))
def Meta.av (m : Th Meta) : AV := .agg (Meta.ch m)
/-- Short enough for a count that is a number of 64 bits. -/
def short {α : Type} (l : List α) : Prop := l.length ≤ 140737488355328
def ixP {α : Type} (p : α → Bool) : List α → Int
  | [] => -1
  | y :: r => if p y = true then 0 else if ixP p r < 0 then -1 else ixP p r + 1
theorem ixP_at {α : Type} (p : α → Bool) (z : α) : ∀ (l : List α) (k : Nat), k < l.length → (∀ j, j < k → p (l.getD j z) = false) → p (l.getD k z) = true → ixP p l = zi k
  | [], k, hk, _, _ => by simp at hk
  | y :: r, 0, _, _, h => by simp at h; simp [ixP, h, zi]
  | y :: r, k + 1, hk, hj, h => by
    have h0 := hj 0 (by omega)
    have := ixP_at p z r k (by simpa using hk) (fun j hj' => by simpa using hj (j + 1) (by omega)) (by simpa using h)
    simp at h0
    simp only [ixP, h0, this, Bool.false_eq_true, if_false]
    unfold zi
    rw [if_neg (by omega)]
    omega
theorem ixP_no {α : Type} (p : α → Bool) (z : α) : ∀ (l : List α), (∀ j, j < l.length → p (l.getD j z) = false) → ixP p l = -1
  | [], _ => rfl
  | y :: r, h => by
    have h0 := h 0 (by simp)
    have := ixP_no p z r fun j hj => by simpa using h (j + 1) (by simpa using hj)
    simp at h0
    simp [ixP, h0, this]
end Go.Proofs.Ytgjlkcdnlndlnaa
/- From a law's contract to what its row asks: it answers true, and nothing that was there has turned. -/
namespace Go.Proofs.Ytgjlkcdnlndlnaa
open Go Go.Proofs.Ytgjlkcdnlndlnaa.Sx Go.RowKit
/-- What a law is to come to. -/
def Yes (r : ARes) (_ : BL) : Prop := ∃ b : Th Bool, r = .ret (.bool b) ∧ b .o = true
theorem law_of {P : Th Program} {f : Nat} {asL0 : List AV} {w : World} {vs : List Value} (I : Nat → Nat → Prop) (hI : ∀ b o, I b o → b < w.heap.size) (hv : ListC ⟨fun _ => 0, fun _ => undef, I, w⟩ (chain asL0) vs) (hs : (chain asL0).still)
    (h : CallAt P f asL0 9999 .nil Yes) : Calls (P .o) f vs.toArray w fun e w' => e = .returned (.bool true) ∧ Below w.heap.size w w' := by
  have hdead : ∀ x, ¬ BL.nil.liveAt x := fun x hx => by simp [BL.liveAt, BL.get, Blk.live] at hx
  refine (h.run ⟨fun _ => 0, fun _ => undef, I, w⟩ vs ⟨fun d => trivial, fun d d' hd => (hdead d (solid_live hd)).elim, fun d hd => (hdead d (solid_live hd)).elim, hI, fun d x hx => hx.elim⟩ hv (fun x hx => ((AV.still_locs _).1 hs x hx).elim) (hdead _)).mono ?_
  rintro e w' ⟨E', r, B', rfl, ⟨b, rfl, hb⟩, hend, hinv, hpost, hl⟩
  cases e with
  | returned x =>
    have hx : x = .bool (b .o) := hend
    rw [hx, hb]
    exact ⟨rfl, hpost.os, hpost.tape, hpost.output, hpost.size, fun k hk => hpost.old k hk fun x hx => (hdead x (solid_live hx)).elim⟩
  | _ => exact hend.elim
/-- Numbers of any kind in a row. -/
def nums (k : IntKind) (l : Th (List Int)) : AV := .sl 1 (fun _ => (l .o).length) fun i => .cons (.int k fun _ => (l .o).getD (i .o) 0) .nil
theorem wf_u8 {n : Int} (h : (Lit.int .u8 n).wf = true) : 0 ≤ n ∧ n < 256 := by
  have : IntKind.u8.min ≤ n ∧ n ≤ IntKind.u8.max := by simpa [Lit.wf] using h
  have h1 : IntKind.u8.min = 0 := by decide
  have h2 : IntKind.u8.max = 255 := by decide
  omega
end Go.Proofs.Ytgjlkcdnlndlnaa
/- What a caller hands in, of any plain type, as the executor tells of it. -/
namespace Go.Proofs.Ytgjlkcdnlndlnaa
open Go Go.Proofs.Ytgjlkcdnlndlnaa.Sx Go.RowKit
set_option linter.unusedVariables false
set_option linter.unusedSimpArgs false
/-- The cells of a plain type. -/
inductive CS : Type | nil | b (r : CS) | i (k : IntKind) (r : CS) | s (r : CS) | sl (e r : CS)
def CS.len : CS → Nat | .nil => 0 | .b r => r.len + 1 | .i _ r => r.len + 1 | .s r => r.len + 1 | .sl _ r => r.len + 1
/-- A chain of such cells. -/
def Shape : CS → AV → Prop
  | .nil, c => c = .nil
  | .b r, c => ∃ x t, c = .cons (.bool x) t ∧ Shape r t
  | .i k r, c => ∃ n t, c = .cons (.int k n) t ∧ (Lit.int k (n .o)).wf = true ∧ Shape r t
  | .s r, c => ∃ x t, c = .cons (.str x) t ∧ (x .o).length ≤ 140737488355328 ∧ Shape r t
  | .sl e r, c => ∃ n g t, c = .cons (.sl e.len n g) t ∧ n .o ≤ 140737488355328 ∧ (∀ j, j < n .o → Shape e (g fun _ => j)) ∧ Shape r t
theorem shape_ok : ∀ (e : CS) (c : AV), Shape e c → c.okE ∧ c.len = e.len
  | .nil, c, h => by cases h; exact ⟨⟨trivial, rfl⟩, rfl⟩
  | .b r, c, h => by obtain ⟨x, t, rfl, h⟩ := h; obtain ⟨⟨h1, h2⟩, h3⟩ := shape_ok r t h; exact ⟨⟨⟨trivial, h1⟩, h2⟩, by simp [AV.len, CS.len, h3]⟩
  | .i k r, c, h => by obtain ⟨x, t, rfl, _, h⟩ := h; obtain ⟨⟨h1, h2⟩, h3⟩ := shape_ok r t h; exact ⟨⟨⟨trivial, h1⟩, h2⟩, by simp [AV.len, CS.len, h3]⟩
  | .s r, c, h => by obtain ⟨x, t, rfl, _, h⟩ := h; obtain ⟨⟨h1, h2⟩, h3⟩ := shape_ok r t h; exact ⟨⟨⟨trivial, h1⟩, h2⟩, by simp [AV.len, CS.len, h3]⟩
  | .sl e r, c, h => by obtain ⟨n, g, t, rfl, _, _, h⟩ := h; obtain ⟨⟨h1, h2⟩, h3⟩ := shape_ok r t h; exact ⟨⟨⟨trivial, h1⟩, h2⟩, by simp [AV.len, CS.len, h3]⟩
def tcsF (P : Program) (g : TypeId → CS → Option CS) : List Field → Nat → Nat → CS → Option CS
  | [], off, n, r => if off = n then some r else none
  | f :: fs, off, n, r => if f.offset = off then (match tcsF P g fs (off + P.cellsOf f.type) n r with | some q => g f.type q | none => none) else none
def tcs (P : Program) : Nat → TypeId → CS → Option CS
  | 0, _, _ => none
  | d + 1, t, r => match P.underlying t with
    | some .bool => some (.b r)
    | some (.int k) => some (.i k r)
    | some .string => some (.s r)
    | some (.slice e) => match tcs P d e .nil with
      | some c => if P.cellsOf e = c.len ∧ 0 < c.len ∧ 0 < P.bytesOf e then some (.sl c r) else none
      | none => none
    | some (.struct fs) => tcsF P (tcs P d) fs.toList 0 (P.cellsOf t) r
    | _ => none
section
variable {H : Type} {enc : TypeId × Value → H} {P : Program} {w : World}
/-- The caller's memory, shut for good. -/
abbrev envOf (w : World) : Env := ⟨fun _ => 0, fun _ => undef, fun b _ => b < w.heap.size, w⟩
def Small (P : Program) (t : TypeId) (d : DataW H) : Prop := ∀ n ∈ d.weights P t, n ≤ reachBytes
theorem mapM_cons' {α β : Type} (f : α → Option β) (a : α) (l : List α) (r : List β) (h : (a :: l).mapM f = some r) : ∃ x q, f a = some x ∧ l.mapM f = some q ∧ r = x :: q := by
  rw [List.mapM_cons] at h
  cases hx : f a with
  | none => rw [hx] at h; cases h
  | some x =>
    rw [hx] at h
    cases hq : l.mapM f with
    | none => rw [hq] at h; cases h
    | some q => rw [hq] at h; cases h; exact ⟨x, q, rfl, rfl, rfl⟩
/-- What opens a type: any cells that are read as data of it. -/
def Opens (enc : TypeId × Value → H) (P : Program) (w : World) (g : TypeId → CS → Option CS) : Prop :=
  ∀ t r c, g t r = some c → ∀ fuel cs (d : DataW H) ps, DataW.trod enc P w 0 (fun _ => true) true fuel t cs = some (d, ps) → Small P t d → ∀ (rest : AV) (rl : List Value), Shape r rest → ListC (envOf w) rest rl →
    ∃ ch, Shape c ch ∧ ListC (envOf w) ch (cs ++ rl)
theorem open_fields {g : TypeId → CS → Option CS} (hg : Opens enc P w g) {fuel : Nat} {cs : List Value} : ∀ (fs : List Field) (off : Nat) (r c : CS), tcsF P g fs off cs.length r = some c → ∀ xs : List (DataW H × List MemPlace),
    (fs.mapM fun f => DataW.trod enc P w 0 (fun _ => true) true fuel f.type ((cs.drop f.offset).take (P.cellsOf f.type))) = some xs → (∀ n ∈ DataW.weightsEach P (fs.map (·.type)) (xs.map (·.1)), n ≤ reachBytes) →
    ∀ (rest : AV) (rl : List Value), Shape r rest → ListC (envOf w) rest rl → ∃ ch, Shape c ch ∧ ListC (envOf w) ch (cs.drop off ++ rl)
  | [], off, r, c, hc, xs, hx, hw, rest, rl, hs, hl => by
    simp only [tcsF] at hc
    split at hc
    · rename_i he
      cases hc
      exact ⟨rest, hs, by rw [he, List.drop_length]; exact hl⟩
    · cases hc
  | f :: fs, off, r, c, hc, xs, hx, hw, rest, rl, hs, hl => by
    simp only [tcsF] at hc
    split at hc
    · rename_i he
      split at hc
      · rename_i q hq
        obtain ⟨x, xs', h1, h2, rfl⟩ := mapM_cons' _ _ _ _ hx
        simp only [List.map_cons, DataW.weightsEach, List.mem_append] at hw
        obtain ⟨ch, k1, k2⟩ := open_fields hg fs _ r q hq xs' h2 (fun n hn => hw n (.inr hn)) rest rl hs hl
        obtain ⟨d, ps⟩ := x
        obtain ⟨ch', m1, m2⟩ := hg f.type q c hc fuel _ d ps h1 (fun n hn => hw n (.inl hn)) ch _ k1 k2
        refine ⟨ch', m1, ?_⟩
        rw [he, ← List.append_assoc, ← List.drop_drop, List.take_append_drop] at m2
        exact m2
      · cases hc
    · cases hc
theorem weightsAll_mem {e : TypeId} : ∀ {l : List (DataW H)} {d : DataW H}, d ∈ l → ∀ n ∈ d.weights P e, n ∈ DataW.weightsAll P e l
  | x :: l, d, h, n, hn => by
    simp only [DataW.weightsAll, List.mem_append]
    rcases List.mem_cons.1 h with rfl | h
    · exact .inl hn
    · exact .inr (weightsAll_mem h n hn)
theorem opens (enc : TypeId × Value → H) (P : Program) (w : World) : ∀ n, Opens enc P w (tcs P n)
  | 0 => fun t r c h => by cases h
  | n + 1 => fun t r c h fuel cs d ps ht hsm rest rl hs hl => by
    have ih := opens enc P w n
    cases fuel with
    | zero => simp [DataW.trod] at ht
    | succ fuel =>
    simp only [tcs] at h
    split at h
    · rename_i hu
      cases h
      simp only [DataW.trod, hu] at ht
      split at ht <;> simp_all
      rename_i b
      exact ⟨.cons (.bool fun _ => b) rest, ⟨_, _, rfl, hs⟩, listC_cons.2 ⟨_, _, rfl, rfl, hl⟩⟩
    · rename_i k hu
      cases h
      simp only [DataW.trod, hu] at ht
      split at ht <;> simp_all
      rename_i k' m he
      obtain ⟨⟨_, hwf⟩, _⟩ := ht
      subst he
      exact ⟨.cons (.int _ fun _ => m) rest, ⟨_, _, rfl, hwf, hs⟩, listC_cons.2 ⟨_, _, rfl, rfl, hl⟩⟩
    · rename_i hu
      cases h
      simp only [DataW.trod, hu] at ht
      split at ht <;> simp_all
      rename_i s
      have hle : s.size ≤ reachBytes := by
        have := hsm s.size
        obtain ⟨_, hd, _⟩ := ht
        subst hd
        simpa [DataW.weights] using this
      refine ⟨.cons (.str fun _ => s.data.toList) rest, ⟨_, _, rfl, ?_, hs⟩, listC_cons.2 ⟨_, _, rfl, show Value.string s = .string ⟨s.data.toList.toArray⟩ from by rw [Array.toArray_toList], hl⟩⟩
      have : s.data.toList.length = s.size := Array.length_toList
      rw [this]
      unfold reachBytes at hle
      omega
    · rename_i e hu
      split at h
      · rename_i ce he
        split at h
        · rename_i hcond
          cases h
          obtain ⟨hce, hpos, hby⟩ := hcond
          rcases Deep.open_slice hu ht with ⟨rfl, hx⟩ | ⟨a, len, cap, m, n', D, Pl, rfl, _, hlc, hcm, hm, hx, hel⟩
          · exact ⟨.cons (.sl ce.len (fun _ => 0) fun _ => .nil) rest, ⟨_, _, _, rfl, Nat.zero_le _, fun j hj => absurd hj (Nat.not_lt_zero _), hs⟩, listC_cons.2 ⟨_, _, rfl, ⟨none, 0, rfl, Nat.le_refl _, fun j hj => absurd hj (Nat.not_lt_zero _)⟩, hl⟩⟩
          · simp only [if_true] at hm
            subst hm
            simp only [Prod.mk.injEq] at hx
            obtain ⟨rfl, rfl⟩ := hx
            have hw1 : ∀ q ∈ ((List.range len).map D ++ (List.range (m - len)).map fun j => D (len + j)), Small P e q := by
              intro q hq k hk
              refine hsm k ?_
              simp only [DataW.weights, hu, List.mem_cons, List.mem_append]
              rcases List.mem_append.1 hq with hq | hq
              · exact .inr (.inl (weightsAll_mem hq k hk))
              · exact .inr (.inr (weightsAll_mem hq k hk))
            have hlen : len ≤ 140737488355328 := by
              have := hsm ((len + (m - len)) * P.bytesOf e) (by simp [DataW.weights, hu])
              have h2 : len ≤ (len + (m - len)) * P.bytesOf e := Nat.le_trans (by omega) (Nat.le_mul_of_pos_right _ hby)
              unfold reachBytes at this
              omega
            have one : ∀ j, j < len → ∃ ch, Shape ce ch ∧ ∃ cs', w.cells? 0 (a.add (j * P.cellsOf e)) (P.cellsOf e) = some cs' ∧ ListC (envOf w) ch cs' := by
              intro j hj
              obtain ⟨cs', h1, h2⟩ := hel j (by omega)
              obtain ⟨ch, k1, k2⟩ := ih e .nil ce he n' cs' _ _ h2 (hw1 _ (List.mem_append_left _ (List.mem_map.2 ⟨j, by simpa using hj, rfl⟩))) .nil [] rfl (listC_nil.2 rfl)
              exact ⟨ch, k1, cs', h1, by simpa using k2⟩
            refine ⟨.cons (.sl ce.len (fun _ => len) fun j => if hj : j .o < len then (one (j .o) hj).choose else .nil) rest, ⟨_, _, _, rfl, hlen, fun j hj => ?_, hs⟩, listC_cons.2 ⟨_, _, rfl, ⟨some a, m, rfl, hlc, fun j hj => ?_⟩, hl⟩⟩
            · have hj : j < len := hj
              simp only [hj, dif_pos]
              exact (one j hj).choose_spec.1
            · have hj : j < len := hj
              simp only [hj, dif_pos]
              obtain ⟨k1, cs', h1, k2⟩ := (one j hj).choose_spec
              refine ⟨shape_ok _ _ k1, ?_⟩
              obtain ⟨_, hcl, hcc⟩ := World.cells?_some h1
              obtain ⟨b, o, sp⟩ := a
              have hsp : sp = none := by
                cases sp with
                | none => rfl
                | some q =>
                  exfalso
                  obtain ⟨cs0, e0, _⟩ := hel 0 (by omega)
                  obtain ⟨_, hl0, hc0⟩ := World.cells?_some e0
                  have hc0 := hc0 0 (by omega)
                  rw [List.getElem?_eq_getElem (show 0 < cs0.length by omega)] at hc0
                  have ha : ∀ x : Addr, x.add 0 = x := fun x => by unfold Addr.add; rw [if_pos rfl]
                  rw [Nat.zero_mul, ha, ha] at hc0
                  unfold World.cell? at hc0
                  split at hc0
                  · simp at hc0
                  · cases hc0
              subst hsp
              have hadd : ∀ o i, (⟨b, o, none⟩ : Addr).add i = ⟨b, o + i, none⟩ := fun o i => by unfold Addr.add; split <;> simp_all
              refine ⟨b, o, rfl, memC_of_list' _ cs' b (o + j * ce.len) k2 fun i v hv => ?_⟩
              have hi : i < cs'.length := by
                rcases Nat.lt_or_ge i cs'.length with h | h
                · exact h
                · rw [List.getElem?_eq_none h] at hv; cases hv
              have := hcc i (by omega)
              simp only [hadd] at this
              rw [hv, hce] at this
              refine ⟨this, ?_⟩
              show b < w.heap.size
              unfold World.cell? at this
              split at this
              · rename_i hh; exact (Array.getElem?_eq_some_iff.1 hh).1
              · cases this
        · cases h
      · cases h
    · rename_i fs hu
      simp only [DataW.trod, hu] at ht
      split at ht
      · rename_i hcl
        cases hm : (fs.toList.mapM fun f => DataW.trod enc P w 0 (fun _ => true) true fuel f.type ((cs.drop f.offset).take (P.cellsOf f.type))) with
        | none => rw [hm] at ht; cases ht
        | some xs =>
          rw [hm] at ht
          cases ht
          rw [← hcl] at h
          have := open_fields ih fs.toList 0 r c h xs hm (fun n hn => hsm n (by simp only [DataW.weights, hu]; exact hn)) rest rl hs hl
          simpa using this
      · cases ht
    · cases h
/-- An argument of a plain type, opened. -/
theorem open_plain {n : Nat} {t : TypeId} {c : CS} (hc : tcs P n t .nil = some c) {v : Value} {d : DataW H} {ps : List MemPlace} (h : DataW.Trod enc P w 0 (fun _ => true) true t v d ps) (hs : Small P t d) :
    ∃ ch, Shape c ch ∧ ListC (envOf w) ch v.cells.toList := by
  obtain ⟨fuel, h⟩ := h
  obtain ⟨ch, h1, h2⟩ := opens enc P w n t .nil c hc fuel _ d ps h hs .nil [] rfl (listC_nil.2 rfl)
  exact ⟨ch, h1, by simpa using h2⟩
end
/-- Rows of numbers. -/
theorem arg_nums {k : IntKind} {c : AV} (h : Shape (.sl (.i k .nil) .nil) c) : ∃ l : List Int, ((∀ n ∈ l, (Lit.int k n).wf = true) ∧ l.length ≤ 140737488355328) ∧ SameC c (.cons (nums k fun _ => l) .nil) := by
  obtain ⟨n, g, t, rfl, hn, hg, ht⟩ := h
  cases ht
  have one : ∀ m, m ≤ n .o → ∃ l : List Int, l.length = m ∧ (∀ x ∈ l, (Lit.int k x).wf = true) ∧ ∀ j, j < m → ∃ x : Th Int, (g fun _ => j) = .cons (.int k x) .nil ∧ x .o = l.getD j 0 := by
    intro m
    induction m with
    | zero => intro _; exact ⟨[], rfl, by simp, fun j hj => absurd hj (Nat.not_lt_zero _)⟩
    | succ m ih =>
      intro hm
      obtain ⟨l, h1, h2, h3⟩ := ih (by omega)
      obtain ⟨x, t, hx, hw, ht⟩ := hg m (by omega)
      cases ht
      refine ⟨l ++ [x .o], by simp [h1], fun y hy => ?_, fun j hj => ?_⟩
      · rcases List.mem_append.1 hy with hy | hy
        · exact h2 y hy
        · rw [List.mem_singleton.1 hy]; exact hw
      · by_cases hjm : j < m
        · obtain ⟨y, h4, h5⟩ := h3 j hjm
          refine ⟨y, h4, ?_⟩
          simp only [List.getD_eq_getElem?_getD, List.getElem?_append_left (show j < l.length by omega)] at h5 ⊢
          exact h5
        · obtain rfl : j = m := by omega
          refine ⟨x, hx, ?_⟩
          simp [List.getD_eq_getElem?_getD, List.getElem?_append_right (show l.length ≤ j by omega), h1]
  obtain ⟨l, h1, h2, h3⟩ := one _ (Nat.le_refl _)
  refine ⟨l, ⟨h2, by omega⟩, .cons (.sl h1.symm fun j hj => ?_) .nil⟩
  obtain ⟨x, h4, h5⟩ := h3 j hj
  rw [h4]
  show AV.cons (.int k x) .nil = .cons (.int k fun _ => l.getD j 0) .nil
  congr 2
  funext u
  cases u
  exact h5
theorem arg_one {E : Env} {x : AV} {v : Value} (h : ListC E (.cons x .nil) [v]) : Rp E x v := by
  obtain ⟨y, r, he, h1, _⟩ := listC_cons.1 h
  cases he
  exact h1
theorem small_of {H : Type} {P : Program} {ts : List TypeId} {ds : List (DataW H)} (h : (DataW.weightsEach P ts ds).all (· ≤ reachBytes) = true) {j : Nat} {t : TypeId} {d : DataW H} (ht : ts[j]? = some t) (hd : ds[j]? = some d) : Small P t d :=
  fun n hn => by simpa using List.all_eq_true.1 h n (DataW.weights_mem_each ht hd n hn)
end Go.Proofs.Ytgjlkcdnlndlnaa
/- Bytes as numbers; entries: data. -/
namespace Go.Proofs.Ytgjlkcdnlndlnaa
open Go Go.Proofs.Ytgjlkcdnlndlnaa.Sx
set_option linter.unusedVariables false
set_option linter.unusedSimpArgs false
def isBytes (l : List Int) : Prop := ∀ x ∈ l, 0 ≤ x ∧ x < 256
theorem byte_at {l : List Int} (h : isBytes l) {k : Nat} : 0 ≤ l.getD k 0 ∧ l.getD k 0 < 256 := by
  rw [List.getD_eq_getElem?_getD]
  by_cases hk : k < l.length
  · rw [List.getElem?_eq_getElem hk]; exact h _ (List.getElem_mem hk)
  · rw [List.getElem?_eq_none (by omega)]; simp
theorem rest_of {x : Int} (h : 0 ≤ x ∧ x < 256) {m : Int} (hm : 0 < m) : 0 ≤ (IntKind.i64.wrap x).tmod m ∧ (IntKind.i64.wrap x).tmod m < m := by
  have : IntKind.i64.wrap x = x := by rw [IntKind.wrap_i64]; omega
  rw [this]
  exact ⟨Int.tmod_nonneg _ h.1, Int.tmod_lt_of_pos _ hm⟩
def byteI (l : Th (List Int)) : AV := .sl 1 (fun _ => (l .o).length) fun i => .cons (.int .u8 fun _ => (l .o).getD (i .o) 0) .nil
def intCh (a : Th Int) : AV := .cons (.int .i64 a) .nil
theorem wrap_byte {x : Int} (h : 0 ≤ x ∧ x < 256) : IntKind.i64.wrap x = x := by rw [IntKind.wrap_i64]; omega
/-- Behind a row of nothing. -/
theorem app_rows0 {α : Type} {bytes : Nat} {n m : Th Nat} {g gy : Th Nat → AV} {K : Th Nat → (Th Nat → AV) → Prop} (ch : Th α → AV) (z : α) (ys : List α) (hn : n .o = 0)
    (hm : m .o = ys.length) (hy : ∀ i, i < ys.length → gy (fun _ => i) = ch fun _ => ys.getD i z) (hroom : ys.length * bytes ≤ 140737488355328)
    (h : K (fun _ => ys.length) fun i => ch fun _ => ys.getD (i .o) z) : AppAt bytes n m g gy K :=
  app_rows ch z [] ys hn (fun i hi => absurd hi (Nat.not_lt_zero _)) hm hy (by simpa using hroom) h
def strCh (s : Th (List UInt8)) : AV := .cons (.str s) .nil
def strs (l : Th (List (List UInt8))) : AV := .sl 1 (fun _ => (l .o).length) fun i => strCh fun _ => (l .o).getD (i .o) []
def kindN (n : Int) : Int := ([fun _ => 1, fun _ => 3, fun _ => 4, fun _ => 5, fun _ => 6, fun _ => 7] : List (Th Int)).getD (n.tmod 6).toNat (fun _ => 1) .o
theorem kindN_in (n : Int) : kindN n ≠ 2 ∧ (kindN n = 1 ∨ kindN n = 3 ∨ kindN n = 4 ∨ kindN n = 5 ∨ kindN n = 6 ∨ kindN n = 7) := by
  unfold kindN
  generalize (n.tmod 6).toNat = j
  match j with
  | 0 | 1 | 2 | 3 | 4 | 5 => decide
  | j + 6 => exact (by decide : (1 : Int) ≠ 2 ∧ ((1 : Int) = 1 ∨ (1 : Int) = 3 ∨ (1 : Int) = 4 ∨ (1 : Int) = 5 ∨ (1 : Int) = 6 ∨ (1 : Int) = 7))
end Go.Proofs.Ytgjlkcdnlndlnaa
/- The program's functions, resolved (printed by a tool). -/
namespace Go.Proofs.Ytgjlkcdnlndlnaa
open Go Go.Proofs.Ytgjlkcdnlndlnaa.Sx
namespace F
noncomputable def PT : Th Program := fun _ => Try.prog
abbrev l14_Make : Nat := 37
def l14_Make.rc : RC :=
  (.seq (.reg [R.q 4 (.alloc (.cons (R.z 0) (.cons (R.z 0) (.cons (R.z 0) (.cons (R.z 0) (.cons (R.z 0) (.cons .nsl (.cons .nsl (.cons .nsl (.cons (R.z 0) (.cons (.int .u64 fun _ => 0) (.cons (.int .u64 fun _ => 0) (.cons .ff (.cons (R.z 0) (.cons (R.z 0) .nil)))))))))))))))])
  (.seq (.reg [R.q 8 (.mks 1 8 (.cons (R.z 0) .nil) (R.i 12) (R.i 12)),
    R.q 5 (.mov (R.t 8))])
  (.seq (.seq (.reg [R.q 6 (.mov (R.i 0))])
  (.block 0 (.loop
     (.seq (.seq (.reg [R.q 9 (.mov (R.t 6)),
       R.q 10 (.bin .lss .no (R.t 9) (R.i 12)),
       R.q 11 (.mov (R.t 10)),
       R.g 12 (.mov (R.t 6)) 11 true,
       R.g 13 (.mov (R.t 0)) 11 true,
       R.g 14 (.len (R.t 13)) 11 true,
       R.g 15 (.bin .lss .no (R.t 12) (R.t 14)) 11 true,
       R.q 16 (.pick (R.t 11) (R.t 15) R.ff)])
     (.cond (R.t 16)
       .skip
       (.exit 0)))
     (.seq (.block 1 (.reg [R.q 19 (.mov (R.t 5)),
        R.q 20 (.mov (R.t 6)),
        R.q 21 (.mov (R.t 0)),
        R.q 22 (.mov (R.t 6)),
        R.q 23 (.idx 1 (R.t 21) (R.t 22)),
        R.q 24 (.load1 (R.t 23)),
        R.q 25 (.conv .i64 (R.t 24)),
        R.q 26 (.idx 1 (R.t 19) (R.t 20)),
        R.e (.store 1 (R.t 26) (R.t 25))]))
     (.reg [R.q 17 (.mov (R.t 6)),
       R.q 18 (.bin .add .no (R.t 17) (R.i 1)),
       R.q 6 (.mov (R.t 18))]))))))
  (.seq (.regd [R.f (R.q 27 (.mov (R.t 5))),
    R.f (R.q 28 (.idx 1 (R.t 27) (R.i 0))),
    R.f (R.q 29 (.load1 (R.t 28))),
    R.f (R.q 30 (.bin .mul .no (R.t 29) (R.i 16))),
    R.f (R.q 31 (.mov (R.t 5))),
    R.f (R.q 32 (.idx 1 (R.t 31) (R.i 1))),
    R.f (R.q 33 (.load1 (R.t 32))),
    R.f (R.q 34 (.bin .rem .no (R.t 33) (R.i 16))),
    R.f (R.q 35 (.bin .add .no (R.t 30) (R.t 34))),
    R.f (R.q 36 (.mov (R.t 5))),
    R.f (R.q 37 (.idx 1 (R.t 36) (R.i 2))),
    R.f (R.q 38 (.load1 (R.t 37))),
    R.f (R.q 39 (.bin .rem .no (R.t 38) (R.i 6))),
    R.f (R.q 40 (.mov (R.t 5))),
    R.f (R.q 41 (.idx 1 (R.t 40) (R.i 3))),
    R.f (R.q 42 (.load1 (R.t 41))),
    R.f (R.q 43 (.bin .rem .no (R.t 42) (R.i 6))),
    R.f (R.q 44 (.mov (R.t 5))),
    R.f (R.q 45 (.idx 1 (R.t 44) (R.i 4))),
    R.f (R.q 46 (.load1 (R.t 45))),
    R.f (R.q 47 (.bin .mul .no (R.t 46) (R.i 1000))),
    R.f (R.q 48 (.bin .sub .no (R.t 47) (R.i 50000))),
    R.f (R.q 49 (.mov (R.t 5))),
    R.f (R.q 50 (.idx 1 (R.t 49) (R.i 5))),
    R.f (R.q 51 (.load1 (R.t 50))),
    R.f (R.q 52 (.bin .rem .no (R.t 51) (R.i 2))),
    R.f (R.q 53 (.bin .mul .no (R.t 52) (R.i 500000000))),
    R.f (R.q 54 (.build (.cons (R.z 0) (.cons (R.z 0) .nil)) [(0, 1, (R.t 48)), (1, 1, (R.t 53))])),
    R.f (R.q 55 (.build (.cons (R.z 0) (.cons (R.z 0) (.cons (R.z 0) (.cons (R.z 0) (.cons (R.z 0) (.cons .nsl (.cons .nsl (.cons .nsl (.cons (R.z 0) (.cons (.int .u64 fun _ => 0) (.cons (.int .u64 fun _ => 0) (.cons .ff (.cons (R.z 0) (.cons (R.z 0) .nil)))))))))))))) [(0, 1, (R.t 35)), (1, 1, (R.t 39)), (2, 1, (R.t 43)), (3, 2, (R.t 54))])),
    R.f (R.q 7 (.alloc (.cons (R.z 0) (.cons (R.z 0) (.cons (R.z 0) (.cons (R.z 0) (.cons (R.z 0) (.cons .nsl (.cons .nsl (.cons .nsl (.cons (R.z 0) (.cons (.int .u64 fun _ => 0) (.cons (.int .u64 fun _ => 0) (.cons .ff (.cons (R.z 0) (.cons (R.z 0) .nil)))))))))))))))),
    R.s (R.e (.store 14 (R.t 7) (R.t 55))) []])
  (.seq (.seq (.reg [R.q 56 (.mov (R.t 0)),
    R.q 57 (.len (R.t 56)),
    R.q 58 (.bin .gtr .no (R.t 57) (R.i 12))])
  (.cond (R.t 58)
    (.reg [R.q 59 (.mov (R.t 0)),
      R.q 60 (.slice 1 (R.t 59) (some (R.i 12)) none),
      R.q 61 (.call 71 [(R.t 60)]),
      R.q 62 (.fld 7 (R.t 7)),
      R.e (.store 1 (R.t 62) (R.t 61))])
    .skip))
  (.seq (.seq (.reg [R.q 63 (.mov (R.t 1)),
    R.q 64 (.bin .eql .no (R.t 63) (R.i 3))])
  (.cond (R.t 64)
    (.seq (.reg [R.q 65 (.fld 0 (R.t 7)),
      R.e (.store 1 (R.t 65) (R.i 511))])
    (.seq (.reg [R.q 66 (.loadA 14 (R.t 7)),
      R.e (.store 14 (R.t 4) (R.t 66))])
    .ret))
    .skip))
  (.seq (.reg [R.q 67 (.mov (R.t 5)),
    R.q 68 (.idx 1 (R.t 67) (R.i 6)),
    R.q 69 (.load1 (R.t 68)),
    R.q 70 (.bin .rem .no (R.t 69) (R.i 16)),
    R.q 71 (.fld 13 (R.t 7)),
    R.e (.store 1 (R.t 71) (R.t 70))])
  (.seq (.seq (.reg [R.q 72 (.mov (R.t 5)),
    R.q 73 (.idx 1 (R.t 72) (R.i 7)),
    R.q 74 (.load1 (R.t 73)),
    R.q 75 (.bin .rem .no (R.t 74) (R.i 2)),
    R.q 76 (.bin .eql .no (R.t 75) (R.i 1))])
  (.cond (R.t 76)
    (.regd [R.f (R.q 77 (.mov (R.t 0))),
      R.f (R.q 78 (.slice 1 (R.t 77) (some (R.i 8)) none)),
      R.f (R.q 79 (.fld 0 (R.t 7))),
      R.f (R.q 80 (.load1 (R.t 79))),
      R.f (R.q 81 (.bin .and .no (R.t 80) (R.i 511))),
      R.s (R.q 82 (.call 38 [(R.t 78), (R.t 81)])) [],
      R.f (R.q 83 (.fld 5 (R.t 7))),
      R.s (R.e (.store 1 (R.t 83) (R.t 82))) []])
    .skip))
  (.seq (.seq (.reg [R.q 84 (.mov (R.t 1)),
    R.q 85 (.bin .eql .no (R.t 84) (R.i 6)),
    R.q 86 (.mov (R.t 85)),
    R.g 87 (.mov (R.t 5)) 86 true,
    R.g 88 (.idx 1 (R.t 87) (R.i 7)) 86 true,
    R.g 89 (.load1 (R.t 88)) 86 true,
    R.g 90 (.bin .rem .no (R.t 89) (R.i 4)) 86 true,
    R.g 91 (.bin .geq .no (R.t 90) (R.i 2)) 86 true,
    R.q 92 (.pick (R.t 86) (R.t 91) R.ff)])
  (.cond (R.t 92)
    (.regd [R.f (R.q 93 (.mov (R.t 0))),
      R.f (R.q 94 (.mov (R.t 0))),
      R.f (R.q 95 (.len (R.t 94))),
      R.f (R.q 96 (.mm false [(R.t 95), (R.i 9)])),
      R.f (R.q 97 (.slice 1 (R.t 93) (some (R.t 96)) none)),
      R.f (R.q 98 (.mov (R.t 5))),
      R.f (R.q 99 (.idx 1 (R.t 98) (R.i 9))),
      R.f (R.q 100 (.load1 (R.t 99))),
      R.s (R.q 101 (.call 38 [(R.t 97), (R.t 100)])) [],
      R.f (R.q 102 (.fld 6 (R.t 7))),
      R.s (R.e (.store 1 (R.t 102) (R.t 101))) []])
    .skip))
  (.seq (.seq (.reg [R.q 103 (.mov (R.t 1)),
    R.q 104 (.bin .eql .no (R.t 103) (R.i 1)),
    R.q 105 (.mov (R.t 104)),
    R.g 106 (.mov (R.t 5)) 105 true,
    R.g 107 (.idx 1 (R.t 106) (R.i 10)) 105 true,
    R.g 108 (.load1 (R.t 107)) 105 true,
    R.g 109 (.bin .rem .no (R.t 108) (R.i 3)) 105 true,
    R.g 110 (.bin .eql .no (R.t 109) (R.i 0)) 105 true,
    R.q 111 (.pick (R.t 105) (R.t 110) R.ff),
    R.q 112 (.mov (R.t 111)),
    R.g 113 (.mov (R.t 0)) 112 true,
    R.g 114 (.len (R.t 113)) 112 true,
    R.g 115 (.bin .gtr .no (R.t 114) (R.i 10)) 112 true,
    R.q 116 (.pick (R.t 112) (R.t 115) R.ff)])
  (.cond (R.t 116)
    (.regd [R.f (R.q 117 (.mov (R.t 5))),
      R.f (R.q 118 (.idx 1 (R.t 117) (R.i 8))),
      R.f (R.q 119 (.load1 (R.t 118))),
      R.f (R.q 120 (.conv .u64 (R.t 119))),
      R.f (R.q 121 (.mov (R.t 5))),
      R.f (R.q 122 (.idx 1 (R.t 121) (R.i 9))),
      R.f (R.q 123 (.load1 (R.t 122))),
      R.f (R.q 124 (.conv .u64 (R.t 123))),
      R.f (R.q 125 (.bin .shl .no (R.t 124) (.val (.int .u64 fun _ => 40)))),
      R.f (R.q 126 (.mov (R.t 0))),
      R.f (R.q 127 (.idx 1 (R.t 126) (R.i 10))),
      R.f (R.q 128 (.load1 (R.t 127))),
      R.f (R.q 129 (.mov (R.t 5))),
      R.f (R.q 130 (.idx 1 (R.t 129) (R.i 11))),
      R.f (R.q 131 (.load1 (R.t 130))),
      R.f (R.q 132 (.conv .u32 (R.t 131))),
      R.s (R.q 133 (.call 72 [(R.t 120), (R.t 125), (R.t 128), (R.t 132)])) [],
      R.f (R.q 134 (.fld 8 (R.t 7))),
      R.s (R.e (.store 5 (R.t 134) (R.t 133))) []])
    .skip))
  (.seq (.reg [R.q 135 (.loadA 14 (R.t 7)),
    R.e (.store 14 (R.t 4) (R.t 135))])
  .ret)))))))))))
def l14_Make.rs : List RRes := [.cellA 4 14]
theorem l14_Make.of {xs : List AV} {d : Nat} {B : BL} {K : ARes → BL → Prop} (hn : xs.length = 2) (hB : onlyOuter B = true) (h : awp ⟨PT, 136, exitX l14_Make.rs K⟩ 10000 [.code l14_Make.rc] ⟨params 0 xs, B, .nil⟩) : CallAt PT l14_Make xs d B K :=
  call_of_awp 10000 Try.func37 rfl (by kernel_rfl) (by kernel_rfl) (by kernel_rfl) (by rw [hn]; decide) hB h
abbrev l9_Make : Nat := 38
def l9_Make.rc : RC :=
  (.seq (.reg [R.q 4 (.mov (.val .nsl))])
  (.seq (.reg [R.q 14 (.mov (R.t 1)),
    R.q 15 (.bin .shr .no (R.t 14) (.val (.int .u64 fun _ => 6))),
    R.q 16 (.bin .and .no (R.t 15) (R.i 7)),
    R.q 17 (.mov (R.t 1)),
    R.q 18 (.bin .shr .no (R.t 17) (.val (.int .u64 fun _ => 3))),
    R.q 19 (.bin .and .no (R.t 18) (R.i 7)),
    R.q 20 (.mov (R.t 1)),
    R.q 21 (.bin .and .no (R.t 20) (R.i 7)),
    R.q 5 (.mov (R.t 16)),
    R.q 6 (.mov (R.t 19)),
    R.q 7 (.mov (R.t 21))])
  (.seq (.reg [R.q 8 (.mov (.val .nsl)),
    R.q 9 (.mov (.val .nsl))])
  (.seq (.seq (.reg [R.q 10 (.mov (R.i 0))])
  (.block 0 (.loop
     (.seq (.seq (.reg [R.q 22 (.mov (R.t 10)),
       R.q 23 (.bin .add .no (R.t 22) (R.i 1)),
       R.q 24 (.mov (R.t 0)),
       R.q 25 (.len (R.t 24)),
       R.q 26 (.bin .lss .no (R.t 23) (R.t 25)),
       R.q 27 (.mov (R.t 26)),
       R.g 28 (.mov (R.t 10)) 27 true,
       R.g 29 (.bin .lss .no (R.t 28) (R.i 12)) 27 true,
       R.q 30 (.pick (R.t 27) (R.t 29) R.ff)])
     (.cond (R.t 30)
       .skip
       (.exit 0)))
     (.seq (.block 1 (.seq (.regd [R.f (R.q 33 (.mov (R.t 0))),
        R.f (R.q 34 (.mov (R.t 10))),
        R.f (R.q 35 (.idx 1 (R.t 33) (R.t 34))),
        R.f (R.q 36 (.load1 (R.t 35))),
        R.f (R.q 37 (.conv .i64 (R.t 36))),
        R.f (R.q 38 (.bin .quo .no (R.t 37) (R.i 2))),
        R.f (R.q 39 (.mov (R.t 0))),
        R.f (R.q 40 (.mov (R.t 10))),
        R.f (R.q 41 (.bin .add .no (R.t 40) (R.i 1))),
        R.f (R.q 42 (.idx 1 (R.t 39) (R.t 41))),
        R.f (R.q 43 (.load1 (R.t 42))),
        R.f (R.q 44 (.conv .i64 (R.t 43))),
        R.f (R.q 45 (.bin .rem .no (R.t 44) (R.i 8))),
        R.s (R.q 11 (.mov (R.t 38))) [6, 7, 8, 9, 10, 11, 12],
        R.s (R.q 12 (.mov (R.t 45))) []])
      (.seq (.reg [R.q 46 (.mov (R.t 0)),
        R.q 47 (.mov (R.t 10)),
        R.q 48 (.idx 1 (R.t 46) (R.t 47)),
        R.q 49 (.load1 (R.t 48)),
        R.q 50 (.bin .rem .no (R.t 49) (R.u 2)),
        R.q 51 (.bin .eql .no (R.t 50) (R.u 0))])
      (.cond (R.t 51)
        (.reg [R.q 52 (.mov (R.t 8)),
          R.q 53 (.mov (R.t 11)),
          R.q 54 (.mov (R.t 12)),
          R.q 55 (.build (.cons (R.z 0) (.cons (R.z 0) (.cons (R.z 0) .nil))) [(0, 1, (R.i 2)), (1, 1, (R.t 53)), (2, 1, (R.t 54))]),
          R.q 56 (.call 73 [(R.t 52), (R.t 55)]),
          R.q 8 (.mov (R.t 56))])
        (.reg [R.q 57 (.mov (R.t 9)),
          R.q 58 (.mov (R.t 11)),
          R.q 59 (.mov (R.t 12)),
          R.q 60 (.build (.cons (R.z 0) (.cons (R.z 0) (.cons (R.z 0) .nil))) [(0, 1, (R.i 4)), (1, 1, (R.t 58)), (2, 1, (R.t 59))]),
          R.q 61 (.call 73 [(R.t 57), (R.t 60)]),
          R.q 9 (.mov (R.t 61))])))))
     (.reg [R.q 31 (.mov (R.t 10)),
       R.q 32 (.bin .add .no (R.t 31) (R.i 2)),
       R.q 10 (.mov (R.t 32))]))))))
  (.seq (.reg [R.q 62 (.mov (R.t 5)),
    R.q 63 (.build (.cons (R.z 0) (.cons (R.z 0) (.cons (R.z 0) .nil))) [(0, 1, (R.i 1)), (2, 1, (R.t 62))]),
    R.q 64 (.bslice 3 (.cons (R.z 0) (.cons (R.z 0) (.cons (R.z 0) .nil))) 1 [(0, 3, (R.t 63))]),
    R.q 65 (.mov (R.t 8)),
    R.q 66 (.append 3 24 (R.t 64) (R.t 65)),
    R.q 13 (.mov (R.t 66))])
  (.seq (.seq (.reg [R.q 67 (.mov (R.t 8)),
    R.q 68 (.len (R.t 67)),
    R.q 69 (.mov (R.t 9)),
    R.q 70 (.len (R.t 69)),
    R.q 71 (.bin .add .no (R.t 68) (R.t 70)),
    R.q 72 (.bin .eql .no (R.t 71) (R.i 0))])
  (.cond (R.t 72)
    (.seq (.reg [R.q 73 (.mov (R.t 13)),
      R.q 74 (.mov (R.t 6)),
      R.q 75 (.build (.cons (R.z 0) (.cons (R.z 0) (.cons (R.z 0) .nil))) [(0, 1, (R.i 3)), (2, 1, (R.t 74))]),
      R.q 76 (.mov (R.t 7)),
      R.q 77 (.build (.cons (R.z 0) (.cons (R.z 0) (.cons (R.z 0) .nil))) [(0, 1, (R.i 6)), (2, 1, (R.t 76))]),
      R.q 78 (.bslice 3 (.cons (R.z 0) (.cons (R.z 0) (.cons (R.z 0) .nil))) 2 [(0, 3, (R.t 75)), (3, 3, (R.t 77))]),
      R.q 79 (.append 3 24 (R.t 73) (R.t 78)),
      R.q 4 (.mov (R.t 79))])
    .ret)
    .skip))
  (.seq (.reg [R.q 80 (.mov (R.t 13)),
    R.q 81 (.mov (R.t 6)),
    R.q 82 (.mov (R.t 0)),
    R.q 83 (.idx 1 (R.t 82) (R.i 0)),
    R.q 84 (.load1 (R.t 83)),
    R.q 85 (.conv .i64 (R.t 84)),
    R.q 86 (.bin .rem .no (R.t 85) (R.i 8)),
    R.q 87 (.bin .xor .no (R.t 81) (R.t 86)),
    R.q 88 (.build (.cons (R.z 0) (.cons (R.z 0) (.cons (R.z 0) .nil))) [(0, 1, (R.i 3)), (2, 1, (R.t 87))]),
    R.q 89 (.bslice 3 (.cons (R.z 0) (.cons (R.z 0) (.cons (R.z 0) .nil))) 1 [(0, 3, (R.t 88))]),
    R.q 90 (.append 3 24 (R.t 80) (R.t 89)),
    R.q 91 (.mov (R.t 9)),
    R.q 92 (.append 3 24 (R.t 90) (R.t 91)),
    R.q 13 (.mov (R.t 92))])
  (.seq (.reg [R.q 93 (.mov (R.t 13)),
    R.q 94 (.mov (R.t 6)),
    R.q 95 (.build (.cons (R.z 0) (.cons (R.z 0) (.cons (R.z 0) .nil))) [(0, 1, (R.i 5)), (2, 1, (R.t 94))]),
    R.q 96 (.mov (R.t 7)),
    R.q 97 (.build (.cons (R.z 0) (.cons (R.z 0) (.cons (R.z 0) .nil))) [(0, 1, (R.i 6)), (2, 1, (R.t 96))]),
    R.q 98 (.bslice 3 (.cons (R.z 0) (.cons (R.z 0) (.cons (R.z 0) .nil))) 2 [(0, 3, (R.t 95)), (3, 3, (R.t 97))]),
    R.q 99 (.append 3 24 (R.t 93) (R.t 98)),
    R.q 4 (.mov (R.t 99))])
  .ret))))))))
def l9_Make.rs : List RRes := [.tmp 4]
theorem l9_Make.of {xs : List AV} {d : Nat} {B : BL} {K : ARes → BL → Prop} (hn : xs.length = 2) (hB : onlyOuter B = true) (h : awp ⟨PT, 100, exitX l9_Make.rs K⟩ 10000 [.code l9_Make.rc] ⟨params 0 xs, B, .nil⟩) : CallAt PT l9_Make xs d B K :=
  call_of_awp 10000 Try.func38 rfl (by kernel_rfl) (by kernel_rfl) (by kernel_rfl) (by rw [hn]; decide) hB h
abbrev l13_Make : Nat := 71
def l13_Make.rc : RC :=
  (.seq (.reg [R.q 2 (.mov (.val .nsl))])
  (.seq (.reg [R.q 3 (.mov (.val .nsl))])
  (.seq (.seq (.reg [R.q 4 (.mov (R.i 0))])
  (.block 0 (.loop
     (.seq (.seq (.reg [R.q 8 (.mov (R.t 4)),
       R.q 9 (.bin .add .no (R.t 8) (R.i 1)),
       R.q 10 (.mov (R.t 0)),
       R.q 11 (.len (R.t 10)),
       R.q 12 (.bin .lss .no (R.t 9) (R.t 11)),
       R.q 13 (.mov (R.t 12)),
       R.g 14 (.mov (R.t 3)) 13 true,
       R.g 15 (.len (R.t 14)) 13 true,
       R.g 16 (.bin .lss .no (R.t 15) (R.i 6)) 13 true,
       R.q 17 (.pick (R.t 13) (R.t 16) R.ff)])
     (.cond (R.t 17)
       .skip
       (.exit 0)))
     (.seq (.block 1 (.seq (.regd [R.f (R.q 20 (.bslice 1 (.cons (.str fun _ => []) .nil) 5 [(0, 1, (.val (.str fun _ => [117, 115, 101, 114, 46]))), (1, 1, (.val (.str fun _ => [116, 114, 117, 115, 116, 101, 100, 46]))), (2, 1, (.val (.str fun _ => [115, 101, 99, 117, 114, 105, 116, 121, 46]))), (3, 1, (.val (.str fun _ => [120, 61]))), (4, 1, (.val (.str fun _ => [255])))])),
        R.f (R.q 21 (.mov (R.t 0))),
        R.f (R.q 22 (.mov (R.t 4))),
        R.f (R.q 23 (.idx 1 (R.t 21) (R.t 22))),
        R.f (R.q 24 (.load1 (R.t 23))),
        R.f (R.q 25 (.bin .rem .no (R.t 24) (R.u 5))),
        R.f (R.q 26 (.idx 1 (R.t 20) (R.t 25))),
        R.f (R.q 27 (.load1 (R.t 26))),
        R.f (R.q 28 (.mov (R.t 0))),
        R.f (R.q 29 (.mov (R.t 4))),
        R.f (R.q 30 (.idx 1 (R.t 28) (R.t 29))),
        R.f (R.q 31 (.load1 (R.t 30))),
        R.f (R.q 32 (.bin .quo .no (R.t 31) (R.u 5))),
        R.f (R.q 33 (.bin .rem .no (R.t 32) (R.u 20))),
        R.f (R.q 34 (.bin .add .no (R.u 97) (R.t 33))),
        R.f (R.q 35 (.mov (R.t 0))),
        R.f (R.q 36 (.mov (R.t 4))),
        R.f (R.q 37 (.bin .add .no (R.t 36) (R.i 1))),
        R.f (R.q 38 (.idx 1 (R.t 35) (R.t 37))),
        R.f (R.q 39 (.load1 (R.t 38))),
        R.f (R.q 40 (.bin .rem .no (R.t 39) (R.u 255))),
        R.f (R.q 41 (.bin .add .no (R.u 1) (R.t 40))),
        R.f (R.q 42 (.bslice 1 (.cons (.int .u8 fun _ => 0) .nil) 2 [(0, 1, (R.t 34)), (1, 1, (R.t 41))])),
        R.f (R.q 43 (.b2s (R.t 42))),
        R.f (R.q 44 (.bin .add .no (R.t 27) (R.t 43))),
        R.s (R.q 5 (.mov (R.t 44))) []])
      (.seq (.reg [R.q 45 (.mov (R.t 0)),
        R.q 46 (.mov (R.t 4)),
        R.q 47 (.bin .add .no (R.t 46) (R.i 1)),
        R.q 48 (.idx 1 (R.t 45) (R.t 47)),
        R.q 49 (.load1 (R.t 48)),
        R.q 50 (.conv .i64 (R.t 49)),
        R.q 51 (.bin .rem .no (R.t 50) (R.i 20)),
        R.q 52 (.mks 1 1 (.cons (.int .u8 fun _ => 0) .nil) (R.t 51) (R.t 51)),
        R.q 6 (.mov (R.t 52))])
      (.seq (.seq (.reg [R.q 7 (.mov (R.i 0))])
      (.block 2 (.loop
         (.seq (.seq (.reg [R.q 53 (.mov (R.t 7)),
           R.q 54 (.mov (R.t 6)),
           R.q 55 (.len (R.t 54)),
           R.q 56 (.bin .lss .no (R.t 53) (R.t 55))])
         (.cond (R.t 56)
           .skip
           (.exit 2)))
         (.seq (.block 3 (.reg [R.q 59 (.mov (R.t 6)),
            R.q 60 (.mov (R.t 7)),
            R.q 61 (.mov (R.t 0)),
            R.q 62 (.mov (R.t 4)),
            R.q 63 (.idx 1 (R.t 61) (R.t 62)),
            R.q 64 (.load1 (R.t 63)),
            R.q 65 (.mov (R.t 7)),
            R.q 66 (.bin .add .no (R.t 65) (R.i 1)),
            R.q 67 (.conv .u8 (R.t 66)),
            R.q 68 (.bin .mul .no (R.t 64) (R.t 67)),
            R.q 69 (.idx 1 (R.t 59) (R.t 60)),
            R.e (.store 1 (R.t 69) (R.t 68))]))
         (.reg [R.q 57 (.mov (R.t 7)),
           R.q 58 (.bin .add .no (R.t 57) (R.i 1)),
           R.q 7 (.mov (R.t 58))]))))))
      (.reg [R.q 70 (.mov (R.t 3)),
        R.q 71 (.mov (R.t 5)),
        R.q 72 (.mov (R.t 6)),
        R.q 73 (.b2s (R.t 72)),
        R.q 74 (.build (.cons (.str fun _ => []) (.cons (.str fun _ => []) .nil)) [(0, 1, (R.t 71)), (1, 1, (R.t 73))]),
        R.q 75 (.call 108 [(R.t 70), (R.t 74)]),
        R.q 3 (.mov (R.t 75))])))))
     (.reg [R.q 18 (.mov (R.t 4)),
       R.q 19 (.bin .add .no (R.t 18) (R.i 2)),
       R.q 4 (.mov (R.t 19))]))))))
  (.seq (.reg [R.q 76 (.mov (R.t 3)),
    R.q 2 (.mov (R.t 76))])
  .ret))))
def l13_Make.rs : List RRes := [.tmp 2]
theorem l13_Make.of {xs : List AV} {d : Nat} {B : BL} {K : ARes → BL → Prop} (hn : xs.length = 1) (hB : onlyOuter B = true) (h : awp ⟨PT, 77, exitX l13_Make.rs K⟩ 10000 [.code l13_Make.rc] ⟨params 0 xs, B, .nil⟩) : CallAt PT l13_Make xs d B K :=
  call_of_awp 10000 Try.func71 rfl (by kernel_rfl) (by kernel_rfl) (by kernel_rfl) (by rw [hn]; decide) hB h
abbrev l11_Make : Nat := 72
def l11_Make.rc : RC :=
  (.seq (.reg [R.q 8 (.alloc (.cons (R.z 0) (.cons (.int .u64 fun _ => 0) (.cons (.int .u64 fun _ => 0) (.cons .ff (.cons (R.z 0) .nil))))))])
  (.seq (.reg [R.q 10 (.mov (R.t 2)),
    R.q 11 (.conv .i64 (R.t 10)),
    R.q 12 (.bin .rem .no (R.t 11) (R.i 2)),
    R.q 13 (.bin .add .no (R.i 2) (R.t 12)),
    R.q 14 (.mov (R.t 0)),
    R.q 15 (.mov (R.t 1)),
    R.q 16 (.mov (R.t 2)),
    R.q 17 (.bin .geq .no (R.t 16) (R.u 128)),
    R.q 18 (.build (.cons (R.z 0) (.cons (.int .u64 fun _ => 0) (.cons (.int .u64 fun _ => 0) (.cons .ff (.cons (R.z 0) .nil))))) [(0, 1, (R.t 13)), (1, 1, (R.t 14)), (2, 1, (R.t 15)), (3, 1, (R.t 17))]),
    R.q 9 (.alloc (.cons (R.z 0) (.cons (.int .u64 fun _ => 0) (.cons (.int .u64 fun _ => 0) (.cons .ff (.cons (R.z 0) .nil)))))),
    R.e (.store 5 (R.t 9) (R.t 18))])
  (.seq (.seq (.reg [R.q 19 (.fld 0 (R.t 9)),
    R.q 20 (.load1 (R.t 19)),
    R.q 21 (.bin .eql .no (R.t 20) (R.i 3))])
  (.cond (R.t 21)
    (.reg [R.q 22 (.mov (R.t 3)),
      R.q 23 (.conv .i64 (R.t 22)),
      R.q 24 (.bin .shr .no (R.t 23) (.val (.int .u64 fun _ => 1))),
      R.q 25 (.fld 4 (R.t 9)),
      R.e (.store 1 (R.t 25) (R.t 24))])
    .skip))
  (.seq (.reg [R.q 26 (.loadA 5 (R.t 9)),
    R.e (.store 5 (R.t 8) (R.t 26))])
  .ret))))
def l11_Make.rs : List RRes := [.cellA 8 5]
theorem l11_Make.of {xs : List AV} {d : Nat} {B : BL} {K : ARes → BL → Prop} (hn : xs.length = 4) (hB : onlyOuter B = true) (h : awp ⟨PT, 27, exitX l11_Make.rs K⟩ 10000 [.code l11_Make.rc] ⟨params 0 xs, B, .nil⟩) : CallAt PT l11_Make xs d B K :=
  call_of_awp 10000 Try.func72 rfl (by kernel_rfl) (by kernel_rfl) (by kernel_rfl) (by rw [hn]; decide) hB h
abbrev l9_add : Nat := 73
def l9_add.rc : RC :=
  (.seq (.reg [R.q 3 (.box (R.t 1)),
    R.q 4 (.mov (.val .nsl))])
  (.seq (.reg [R.q 5 (.mov (R.i 0))])
  (.seq (.block 0 (.loop
     (.seq (.seq (.regd [R.f (R.q 7 (.mov (R.t 5))),
       R.f (R.q 8 (.mov (R.t 0))),
       R.f (R.q 9 (.len (R.t 8))),
       R.f (R.q 10 (.bin .lss .no (R.t 7) (R.t 9))),
       R.f (R.q 11 (.mov (R.t 10))),
       R.f (R.g 12 (.mov (R.t 0)) 11 true),
       R.f (R.g 13 (.mov (R.t 5)) 11 true),
       R.f (R.g 14 (.idx 3 (R.t 12) (R.t 13)) 11 true),
       R.f (R.g 15 (.fld 1 (R.t 14)) 11 true),
       R.f (R.g 16 (.load1 (R.t 15)) 11 true),
       R.f (R.g 17 (.fld 1 (R.t 3)) 11 true),
       R.f (R.g 18 (.load1 (R.t 17)) 11 true),
       R.f (R.g 19 (.bin .lss .no (R.t 16) (R.t 18)) 11 true),
       R.f (R.q 20 (.pick (R.t 11) (R.t 19) R.ff))])
     (.cond (R.t 20)
       .skip
       (.exit 0)))
     (.block 1 (.reg [R.q 21 (.mov (R.t 5)),
        R.q 22 (.bin .add .no (R.t 21) (R.i 1)),
        R.q 5 (.mov (R.t 22))])))))
  (.seq (.reg [R.q 23 (.bslice 3 (.cons (R.z 0) (.cons (R.z 0) (.cons (R.z 0) .nil))) 0 []),
    R.q 24 (.mov (R.t 0)),
    R.q 25 (.mov (R.t 5)),
    R.q 26 (.slice 3 (R.t 24) (some (R.t 25)) none),
    R.q 27 (.append 3 24 (R.t 23) (R.t 26)),
    R.q 6 (.mov (R.t 27))])
  (.seq (.seq (.regd [R.f (R.q 28 (.mov (R.t 6))),
    R.f (R.q 29 (.len (R.t 28))),
    R.f (R.q 30 (.bin .gtr .no (R.t 29) (R.i 0))),
    R.f (R.q 31 (.mov (R.t 30))),
    R.f (R.g 32 (.mov (R.t 6)) 31 true),
    R.f (R.g 33 (.idx 3 (R.t 32) (R.i 0)) 31 true),
    R.f (R.g 34 (.fld 1 (R.t 33)) 31 true),
    R.f (R.g 35 (.load1 (R.t 34)) 31 true),
    R.f (R.g 36 (.fld 1 (R.t 3)) 31 true),
    R.f (R.g 37 (.load1 (R.t 36)) 31 true),
    R.f (R.g 38 (.bin .eql .no (R.t 35) (R.t 37)) 31 true),
    R.f (R.q 39 (.pick (R.t 31) (R.t 38) R.ff))])
  (.cond (R.t 39)
    (.reg [R.q 40 (.mov (R.t 6)),
      R.q 41 (.slice 3 (R.t 40) (some (R.i 1)) none),
      R.q 6 (.mov (R.t 41))])
    .skip))
  (.seq (.regd [R.f (R.q 42 (.bslice 3 (.cons (R.z 0) (.cons (R.z 0) (.cons (R.z 0) .nil))) 0 [])),
    R.f (R.q 43 (.mov (R.t 0))),
    R.f (R.q 44 (.mov (R.t 5))),
    R.f (R.q 45 (.slice 3 (R.t 43) none (some (R.t 44)))),
    R.f (R.q 47 (.loadA 3 (R.t 3))),
    R.f (R.q 48 (.bslice 3 (.cons (R.z 0) (.cons (R.z 0) (.cons (R.z 0) .nil))) 1 [(0, 3, (R.t 47))])),
    R.f (R.q 50 (.mov (R.t 6))),
    R.s (R.q 46 (.append 3 24 (R.t 42) (R.t 45))) [4, 5, 6],
    R.s (R.q 49 (.append 3 24 (R.t 46) (R.t 48))) [6],
    R.s (R.q 51 (.append 3 24 (R.t 49) (R.t 50))) [],
    R.s (R.q 4 (.mov (R.t 51))) []])
  .ret))))))
def l9_add.rs : List RRes := [.tmp 4]
theorem l9_add.of {xs : List AV} {d : Nat} {B : BL} {K : ARes → BL → Prop} (hn : xs.length = 2) (hB : onlyOuter B = true) (h : awp ⟨PT, 52, exitX l9_add.rs K⟩ 10000 [.code l9_add.rc] ⟨params 0 xs, B, .nil⟩) : CallAt PT l9_add xs d B K :=
  call_of_awp 10000 Try.func73 rfl (by kernel_rfl) (by kernel_rfl) (by kernel_rfl) (by rw [hn]; decide) hB h
abbrev l13_add : Nat := 108
def l13_add.rc : RC :=
  (.seq (.reg [R.q 3 (.box (R.t 1)),
    R.q 4 (.mov (.val .nsl))])
  (.seq (.reg [R.q 5 (.mov (R.i 0))])
  (.seq (.block 0 (.loop
     (.seq (.seq (.regd [R.f (R.q 7 (.mov (R.t 5))),
       R.f (R.q 8 (.mov (R.t 0))),
       R.f (R.q 9 (.len (R.t 8))),
       R.f (R.q 10 (.bin .lss .no (R.t 7) (R.t 9))),
       R.f (R.q 11 (.mov (R.t 10))),
       R.f (R.g 12 (.mov (R.t 0)) 11 true),
       R.f (R.g 13 (.mov (R.t 5)) 11 true),
       R.f (R.g 14 (.idx 2 (R.t 12) (R.t 13)) 11 true),
       R.f (R.g 15 (.fld 0 (R.t 14)) 11 true),
       R.f (R.g 16 (.load1 (R.t 15)) 11 true),
       R.f (R.g 17 (.fld 0 (R.t 3)) 11 true),
       R.f (R.g 18 (.load1 (R.t 17)) 11 true),
       R.f (R.g 19 (.bin .lss .no (R.t 16) (R.t 18)) 11 true),
       R.f (R.q 20 (.pick (R.t 11) (R.t 19) R.ff))])
     (.cond (R.t 20)
       .skip
       (.exit 0)))
     (.block 1 (.reg [R.q 21 (.mov (R.t 5)),
        R.q 22 (.bin .add .no (R.t 21) (R.i 1)),
        R.q 5 (.mov (R.t 22))])))))
  (.seq (.reg [R.q 23 (.bslice 2 (.cons (.str fun _ => []) (.cons (.str fun _ => []) .nil)) 0 []),
    R.q 24 (.mov (R.t 0)),
    R.q 25 (.mov (R.t 5)),
    R.q 26 (.slice 2 (R.t 24) (some (R.t 25)) none),
    R.q 27 (.append 2 32 (R.t 23) (R.t 26)),
    R.q 6 (.mov (R.t 27))])
  (.seq (.seq (.regd [R.f (R.q 28 (.mov (R.t 6))),
    R.f (R.q 29 (.len (R.t 28))),
    R.f (R.q 30 (.bin .gtr .no (R.t 29) (R.i 0))),
    R.f (R.q 31 (.mov (R.t 30))),
    R.f (R.g 32 (.mov (R.t 6)) 31 true),
    R.f (R.g 33 (.idx 2 (R.t 32) (R.i 0)) 31 true),
    R.f (R.g 34 (.fld 0 (R.t 33)) 31 true),
    R.f (R.g 35 (.load1 (R.t 34)) 31 true),
    R.f (R.g 36 (.fld 0 (R.t 3)) 31 true),
    R.f (R.g 37 (.load1 (R.t 36)) 31 true),
    R.f (R.g 38 (.bin .eql .no (R.t 35) (R.t 37)) 31 true),
    R.f (R.q 39 (.pick (R.t 31) (R.t 38) R.ff))])
  (.cond (R.t 39)
    (.reg [R.q 40 (.mov (R.t 6)),
      R.q 41 (.slice 2 (R.t 40) (some (R.i 1)) none),
      R.q 6 (.mov (R.t 41))])
    .skip))
  (.seq (.regd [R.f (R.q 42 (.bslice 2 (.cons (.str fun _ => []) (.cons (.str fun _ => []) .nil)) 0 [])),
    R.f (R.q 43 (.mov (R.t 0))),
    R.f (R.q 44 (.mov (R.t 5))),
    R.f (R.q 45 (.slice 2 (R.t 43) none (some (R.t 44)))),
    R.f (R.q 47 (.loadA 2 (R.t 3))),
    R.f (R.q 48 (.bslice 2 (.cons (.str fun _ => []) (.cons (.str fun _ => []) .nil)) 1 [(0, 2, (R.t 47))])),
    R.f (R.q 50 (.mov (R.t 6))),
    R.s (R.q 46 (.append 2 32 (R.t 42) (R.t 45))) [4, 5, 6],
    R.s (R.q 49 (.append 2 32 (R.t 46) (R.t 48))) [6],
    R.s (R.q 51 (.append 2 32 (R.t 49) (R.t 50))) [],
    R.s (R.q 4 (.mov (R.t 51))) []])
  .ret))))))
def l13_add.rs : List RRes := [.tmp 4]
theorem l13_add.of {xs : List AV} {d : Nat} {B : BL} {K : ARes → BL → Prop} (hn : xs.length = 2) (hB : onlyOuter B = true) (h : awp ⟨PT, 52, exitX l13_add.rs K⟩ 10000 [.code l13_add.rc] ⟨params 0 xs, B, .nil⟩) : CallAt PT l13_add xs d B K :=
  call_of_awp 10000 Try.func108 rfl (by kernel_rfl) (by kernel_rfl) (by kernel_rfl) (by rw [hn]; decide) hB h
end F
end Go.Proofs.Ytgjlkcdnlndlnaa
/- More of the program's functions, resolved (printed by a tool). -/
namespace Go.Proofs.Ytgjlkcdnlndlnaa
open Go Go.Proofs.Ytgjlkcdnlndlnaa.Sx
namespace F
end F
end Go.Proofs.Ytgjlkcdnlndlnaa
/- More of the program's functions, resolved (printed by a tool). -/
namespace Go.Proofs.Ytgjlkcdnlndlnaa
open Go Go.Proofs.Ytgjlkcdnlndlnaa.Sx
namespace F
abbrev l14_MetaMade : Nat := 11
def l14_MetaMade.rc : RC :=
  (.seq (.reg [R.q 6 (.mov R.ff)])
  (.seq (.reg [R.q 10 (.bslice 1 (.cons (R.z 0) .nil) 6 [(0, 1, (R.i 1)), (1, 1, (R.i 3)), (2, 1, (R.i 4)), (3, 1, (R.i 5)), (4, 1, (R.i 6)), (5, 1, (R.i 7))]),
    R.q 11 (.mov (R.t 1)),
    R.q 12 (.bin .rem .no (R.t 11) (R.u 6)),
    R.q 13 (.idx 1 (R.t 10) (R.t 12)),
    R.q 14 (.load1 (R.t 13)),
    R.q 7 (.mov (R.t 14))])
  (.seq (.reg [R.q 15 (.mov (R.t 0)),
    R.q 16 (.mov (R.t 7)),
    R.q 17 (.call 37 [(R.t 15), (R.t 16)]),
    R.q 8 (.alloc (.cons (R.z 0) (.cons (R.z 0) (.cons (R.z 0) (.cons (R.z 0) (.cons (R.z 0) (.cons .nsl (.cons .nsl (.cons .nsl (.cons (R.z 0) (.cons (.int .u64 fun _ => 0) (.cons (.int .u64 fun _ => 0) (.cons .ff (.cons (R.z 0) (.cons (R.z 0) .nil))))))))))))))),
    R.e (.store 14 (R.t 8) (R.t 17))])
  (.seq (.reg [R.q 18 (.mov (R.t 0)),
    R.q 19 (.mov (R.t 7)),
    R.q 20 (.call 37 [(R.t 18), (R.t 19)]),
    R.q 9 (.alloc (.cons (R.z 0) (.cons (R.z 0) (.cons (R.z 0) (.cons (R.z 0) (.cons (R.z 0) (.cons .nsl (.cons .nsl (.cons .nsl (.cons (R.z 0) (.cons (.int .u64 fun _ => 0) (.cons (.int .u64 fun _ => 0) (.cons .ff (.cons (R.z 0) (.cons (R.z 0) .nil))))))))))))))),
    R.e (.store 14 (R.t 9) (R.t 20))])
  (.seq (.seq (.reg [R.q 21 (.loadA 14 (R.t 8)),
    R.q 22 (.mov (R.t 7)),
    R.q 23 (.call 39 [(R.t 21), (R.t 22)]),
    R.q 24 (.un .not (R.t 23)),
    R.q 25 (.mov (R.t 24)),
    R.g 26 (.loadA 14 (R.t 8)) 25 false,
    R.g 27 (.loadA 14 (R.t 9)) 25 false,
    R.g 28 (.call 42 [(R.t 26), (R.t 27)]) 25 false,
    R.g 29 (.un .not (R.t 28)) 25 false,
    R.q 30 (.pick (R.t 25) R.tt (R.t 29)),
    R.q 31 (.mov (R.t 30)),
    R.g 32 (.loadA 14 (R.t 8)) 31 false,
    R.g 33 (.call 39 [(R.t 32), (R.i 2)]) 31 false,
    R.q 34 (.pick (R.t 31) R.tt (R.t 33)),
    R.q 35 (.mov (R.t 34)),
    R.g 36 (.loadA 14 (R.t 8)) 35 false,
    R.g 37 (.call 39 [(R.t 36), (R.i 0)]) 35 false,
    R.q 38 (.pick (R.t 35) R.tt (R.t 37)),
    R.q 39 (.mov (R.t 38)),
    R.g 40 (.loadA 14 (R.t 8)) 39 false,
    R.g 41 (.call 39 [(R.t 40), (R.i 8)]) 39 false,
    R.q 42 (.pick (R.t 39) R.tt (R.t 41))])
  (.cond (R.t 42)
    (.seq (.reg [R.q 6 (.mov R.ff)])
    .ret)
    .skip))
  (.seq (.seq (.reg [R.q 43 (.mov (R.t 2)),
    R.q 44 (.bin .rem .no (R.t 43) (R.u 8))])
  (.block 0 (.seq (.reg [R.q 48 (.bin .eql .no (R.t 44) (R.u 0)),
     R.q 47 (.mov (R.t 48))])
   (.cond (R.t 47)
     (.reg [R.q 49 (.fld 0 (R.t 9)),
       R.e (.store 1 (R.t 49) (R.i 4096))])
     (.seq (.reg [R.q 51 (.bin .eql .no (R.t 44) (R.u 1)),
       R.q 50 (.mov (R.t 51))])
     (.cond (R.t 50)
       (.reg [R.q 52 (.fld 1 (R.t 9)),
         R.e (.store 1 (R.t 52) (R.i (-1)))])
       (.seq (.reg [R.q 54 (.bin .eql .no (R.t 44) (R.u 2)),
         R.q 53 (.mov (R.t 54))])
       (.cond (R.t 53)
         (.reg [R.q 55 (.fld 2 (R.t 9)),
           R.e (.store 1 (R.t 55) (R.i 2147483648))])
         (.seq (.reg [R.q 57 (.bin .eql .no (R.t 44) (R.u 3)),
           R.q 56 (.mov (R.t 57))])
         (.cond (R.t 56)
           (.reg [R.q 58 (.fld 3 (R.t 9)),
             R.q 59 (.fld 1 (R.t 58)),
             R.e (.store 1 (R.t 59) (R.i 1000000000))])
           (.seq (.reg [R.q 61 (.bin .eql .no (R.t 44) (R.u 4)),
             R.q 60 (.mov (R.t 61))])
           (.cond (R.t 60)
             (.reg [R.q 62 (.fld 13 (R.t 9)),
               R.e (.store 1 (R.t 62) (R.i 16))])
             (.seq (.reg [R.q 64 (.bin .eql .no (R.t 44) (R.u 5)),
               R.q 63 (.mov (R.t 64))])
             (.cond (R.t 63)
               (.reg [R.q 65 (.build (.cons (.str fun _ => []) (.cons (.str fun _ => []) .nil)) [(0, 1, (.val (.str fun _ => [98])))]),
                 R.q 66 (.build (.cons (.str fun _ => []) (.cons (.str fun _ => []) .nil)) [(0, 1, (.val (.str fun _ => [97])))]),
                 R.q 67 (.bslice 2 (.cons (.str fun _ => []) (.cons (.str fun _ => []) .nil)) 2 [(0, 2, (R.t 65)), (2, 2, (R.t 66))]),
                 R.q 68 (.fld 7 (R.t 9)),
                 R.e (.store 1 (R.t 68) (R.t 67))])
               (.seq (.reg [R.q 70 (.bin .eql .no (R.t 44) (R.u 6)),
                 R.q 69 (.mov (R.t 70))])
               (.cond (R.t 69)
                 (.reg [R.q 71 (.fld 0 (R.t 9)),
                   R.q 72 (.load1 (R.t 71)),
                   R.q 73 (.bin .and .no (R.t 72) (R.i 511)),
                   R.q 74 (.bin .xor .no (R.t 73) (R.i 1)),
                   R.q 75 (.call 38 [(.val .nsl), (R.t 74)]),
                   R.q 76 (.fld 5 (R.t 9)),
                   R.e (.store 1 (R.t 76) (R.t 75))])
                 (.reg [R.q 45 (.fld 8 (R.t 9)),
                   R.q 46 (.fld 0 (R.t 45)),
                   R.e (.store 1 (R.t 46) (R.i 5))])))))))))))))))))
  (.seq (.reg [R.q 77 (.loadA 14 (R.t 9)),
    R.q 78 (.mov (R.t 7)),
    R.q 79 (.call 39 [(R.t 77), (R.t 78)]),
    R.q 80 (.un .not (R.t 79)),
    R.q 81 (.mov (R.t 80)),
    R.g 82 (.loadA 14 (R.t 8)) 81 true,
    R.g 83 (.loadA 14 (R.t 9)) 81 true,
    R.g 84 (.call 42 [(R.t 82), (R.t 83)]) 81 true,
    R.g 85 (.un .not (R.t 84)) 81 true,
    R.q 86 (.pick (R.t 81) (R.t 85) R.ff),
    R.q 87 (.mov (R.t 86)),
    R.g 88 (.call 40 []) 87 true,
    R.q 89 (.pick (R.t 87) (R.t 88) R.ff),
    R.q 6 (.mov (R.t 89))])
  .ret)))))))
def l14_MetaMade.rs : List RRes := [.tmp 6]
theorem l14_MetaMade.of {xs : List AV} {d : Nat} {B : BL} {K : ARes → BL → Prop} (hn : xs.length = 3) (hB : onlyOuter B = true) (h : awp ⟨PT, 90, exitX l14_MetaMade.rs K⟩ 10000 [.code l14_MetaMade.rc] ⟨params 0 xs, B, .nil⟩) : CallAt PT l14_MetaMade xs d B K :=
  call_of_awp 10000 Try.func11 rfl (by kernel_rfl) (by kernel_rfl) (by kernel_rfl) (by rw [hn]; decide) hB h
abbrev meta_May : Nat := 39
def meta_May.rc : RC :=
  (.seq (.reg [R.q 2 (.box (R.t 0)),
    R.q 4 (.alloc (.cons .ff .nil))])
  (.seq (.reg [R.q 5 (.mkfn (.func 74) [] [(R.t 4)]),
    R.e (.defer (R.t 5) [])])
  (.seq (.reg [R.q 6 (.loadA 14 (R.t 2)),
    R.q 7 (.mov (R.t 1)),
    R.q 8 (.call 75 [(R.t 6), (R.t 7)])])
  (.seq (.reg [R.e (.store 1 (R.t 4) R.tt)])
  .ret))))
def meta_May.rs : List RRes := [.cell1 4]
theorem meta_May.of {xs : List AV} {d : Nat} {B : BL} {K : ARes → BL → Prop} (hn : xs.length = 2) (hB : onlyOuter B = true) (h : awp ⟨PT, 9, exitD PT meta_May.rs K⟩ 10000 [.code meta_May.rc] ⟨params 0 xs, B, .nil⟩) : CallAt PT meta_May xs d B K :=
  call_of_awp_d 10000 Try.func39 rfl (by kernel_rfl) (by kernel_rfl) (by kernel_rfl) (by rw [hn]; decide) hB h
abbrev l14_awake : Nat := 40
def l14_awake.rc : RC :=
  (.seq (.reg [R.q 0 (.mov R.ff)])
  (.seq (.reg [R.q 1 (.call 43 [(R.i 420), (R.i 0), (R.i 0)]),
    R.q 2 (.call 39 [(R.t 1), (R.i 1)]),
    R.q 3 (.mov (R.t 2)),
    R.g 4 (.build (.cons (R.z 0) (.cons (R.z 0) (.cons (R.z 0) (.cons (R.z 0) (.cons (R.z 0) (.cons .nsl (.cons .nsl (.cons .nsl (.cons (R.z 0) (.cons (.int .u64 fun _ => 0) (.cons (.int .u64 fun _ => 0) (.cons .ff (.cons (R.z 0) (.cons (R.z 0) .nil)))))))))))))) []) 3 true,
    R.g 5 (.call 39 [(R.t 4), (R.i 2)]) 3 true,
    R.g 6 (.un .not (R.t 5)) 3 true,
    R.q 7 (.pick (R.t 3) (R.t 6) R.ff),
    R.q 0 (.mov (R.t 7))])
  .ret))
def l14_awake.rs : List RRes := [.tmp 0]
theorem l14_awake.of {xs : List AV} {d : Nat} {B : BL} {K : ARes → BL → Prop} (hn : xs.length = 0) (hB : onlyOuter B = true) (h : awp ⟨PT, 8, exitX l14_awake.rs K⟩ 10000 [.code l14_awake.rc] ⟨params 0 xs, B, .nil⟩) : CallAt PT l14_awake xs d B K :=
  call_of_awp 10000 Try.func40 rfl (by kernel_rfl) (by kernel_rfl) (by kernel_rfl) (by rw [hn]; decide) hB h
abbrev meta_Same : Nat := 42
def meta_Same.rc : RC :=
  (.seq (.reg [R.q 2 (.box (R.t 0)),
    R.q 3 (.box (R.t 1)),
    R.q 4 (.mov R.ff)])
  (.seq (.reg [R.q 6 (.fld 5 (R.t 2)),
    R.q 7 (.load1 (R.t 6)),
    R.q 8 (.fld 5 (R.t 3)),
    R.q 9 (.load1 (R.t 8)),
    R.q 10 (.call 77 [(R.t 7), (R.t 9)]),
    R.q 11 (.mov (R.t 10)),
    R.g 12 (.fld 6 (R.t 2)) 11 true,
    R.g 13 (.load1 (R.t 12)) 11 true,
    R.g 14 (.fld 6 (R.t 3)) 11 true,
    R.g 15 (.load1 (R.t 14)) 11 true,
    R.g 16 (.call 77 [(R.t 13), (R.t 15)]) 11 true,
    R.q 17 (.pick (R.t 11) (R.t 16) R.ff),
    R.q 18 (.mov (R.t 17)),
    R.g 19 (.fld 7 (R.t 2)) 18 true,
    R.g 20 (.load1 (R.t 19)) 18 true,
    R.g 21 (.fld 7 (R.t 3)) 18 true,
    R.g 22 (.load1 (R.t 21)) 18 true,
    R.g 23 (.call 78 [(R.t 20), (R.t 22)]) 18 true,
    R.q 24 (.pick (R.t 18) (R.t 23) R.ff),
    R.q 5 (.mov (R.t 24))])
  (.seq (.reg [R.q 25 (.mov (R.t 5)),
    R.q 26 (.mov (R.t 25)),
    R.g 27 (.fld 0 (R.t 2)) 26 true,
    R.g 28 (.load1 (R.t 27)) 26 true,
    R.g 29 (.fld 0 (R.t 3)) 26 true,
    R.g 30 (.load1 (R.t 29)) 26 true,
    R.g 31 (.bin .eql .no (R.t 28) (R.t 30)) 26 true,
    R.q 32 (.pick (R.t 26) (R.t 31) R.ff),
    R.q 33 (.mov (R.t 32)),
    R.g 34 (.fld 1 (R.t 2)) 33 true,
    R.g 35 (.load1 (R.t 34)) 33 true,
    R.g 36 (.fld 1 (R.t 3)) 33 true,
    R.g 37 (.load1 (R.t 36)) 33 true,
    R.g 38 (.bin .eql .no (R.t 35) (R.t 37)) 33 true,
    R.q 39 (.pick (R.t 33) (R.t 38) R.ff),
    R.q 40 (.mov (R.t 39)),
    R.g 41 (.fld 2 (R.t 2)) 40 true,
    R.g 42 (.load1 (R.t 41)) 40 true,
    R.g 43 (.fld 2 (R.t 3)) 40 true,
    R.g 44 (.load1 (R.t 43)) 40 true,
    R.g 45 (.bin .eql .no (R.t 42) (R.t 44)) 40 true,
    R.q 46 (.pick (R.t 40) (R.t 45) R.ff),
    R.q 47 (.mov (R.t 46)),
    R.g 48 (.fld 3 (R.t 2)) 47 true,
    R.g 49 (.loadA 2 (R.t 48)) 47 true,
    R.g 50 (.fld 3 (R.t 3)) 47 true,
    R.g 51 (.loadA 2 (R.t 50)) 47 true,
    R.g 52 (.bin .eql (.agg [.i .i64, .i .i64]) (R.t 49) (R.t 51)) 47 true,
    R.q 53 (.pick (R.t 47) (R.t 52) R.ff),
    R.q 54 (.mov (R.t 53)),
    R.g 55 (.fld 8 (R.t 2)) 54 true,
    R.g 56 (.loadA 5 (R.t 55)) 54 true,
    R.g 57 (.fld 8 (R.t 3)) 54 true,
    R.g 58 (.loadA 5 (R.t 57)) 54 true,
    R.g 59 (.bin .eql (.agg [.i .i64, .i .u64, .i .u64, .b, .i .i64]) (R.t 56) (R.t 58)) 54 true,
    R.q 60 (.pick (R.t 54) (R.t 59) R.ff),
    R.q 61 (.mov (R.t 60)),
    R.g 62 (.fld 13 (R.t 2)) 61 true,
    R.g 63 (.load1 (R.t 62)) 61 true,
    R.g 64 (.fld 13 (R.t 3)) 61 true,
    R.g 65 (.load1 (R.t 64)) 61 true,
    R.g 66 (.bin .eql .no (R.t 63) (R.t 65)) 61 true,
    R.q 67 (.pick (R.t 61) (R.t 66) R.ff),
    R.q 4 (.mov (R.t 67))])
  .ret)))
def meta_Same.rs : List RRes := [.tmp 4]
theorem meta_Same.of {xs : List AV} {d : Nat} {B : BL} {K : ARes → BL → Prop} (hn : xs.length = 2) (hB : onlyOuter B = true) (h : awp ⟨PT, 68, exitX meta_Same.rs K⟩ 10000 [.code meta_Same.rc] ⟨params 0 xs, B, .nil⟩) : CallAt PT meta_Same xs d B K :=
  call_of_awp 10000 Try.func42 rfl (by kernel_rfl) (by kernel_rfl) (by kernel_rfl) (by rw [hn]; decide) hB h
abbrev meta_Plain : Nat := 43
def meta_Plain.rc : RC :=
  (.seq (.reg [R.q 6 (.alloc (.cons (R.z 0) (.cons (R.z 0) (.cons (R.z 0) (.cons (R.z 0) (.cons (R.z 0) (.cons .nsl (.cons .nsl (.cons .nsl (.cons (R.z 0) (.cons (.int .u64 fun _ => 0) (.cons (.int .u64 fun _ => 0) (.cons .ff (.cons (R.z 0) (.cons (R.z 0) .nil)))))))))))))))])
  (.seq (.reg [R.q 7 (.mov (R.t 0)),
    R.q 8 (.mov (R.t 1)),
    R.q 9 (.mov (R.t 2)),
    R.q 10 (.build (.cons (R.z 0) (.cons (R.z 0) (.cons (R.z 0) (.cons (R.z 0) (.cons (R.z 0) (.cons .nsl (.cons .nsl (.cons .nsl (.cons (R.z 0) (.cons (.int .u64 fun _ => 0) (.cons (.int .u64 fun _ => 0) (.cons .ff (.cons (R.z 0) (.cons (R.z 0) .nil)))))))))))))) [(0, 1, (R.t 7)), (1, 1, (R.t 8)), (2, 1, (R.t 9))]),
    R.e (.store 14 (R.t 6) (R.t 10))])
  .ret))
def meta_Plain.rs : List RRes := [.cellA 6 14]
theorem meta_Plain.of {xs : List AV} {d : Nat} {B : BL} {K : ARes → BL → Prop} (hn : xs.length = 3) (hB : onlyOuter B = true) (h : awp ⟨PT, 11, exitX meta_Plain.rs K⟩ 10000 [.code meta_Plain.rc] ⟨params 0 xs, B, .nil⟩) : CallAt PT meta_Plain xs d B K :=
  call_of_awp 10000 Try.func43 rfl (by kernel_rfl) (by kernel_rfl) (by kernel_rfl) (by rw [hn]; decide) hB h
abbrev meta_May_1 : Nat := 74
def meta_May_1.rc : RC :=
  (.seq (.reg [R.q 5 (.mov (R.t 1)),
    R.q 6 (.bin .neq (.ifc true) (R.t 5) (.val .nif))])
  (.cond (R.t 6)
    (.seq (.seq (.reg [R.q 8 (.mov (R.t 1)),
      R.q 9 (.assert 110 (.agg (.cons (.str fun _ => []) .nil)) (R.t 8)),
      R.q 7 (.mov (R.t 9)),
      R.q 10 (.ext 0 (R.t 7)),
      R.q 11 (.ext 1 (R.t 7)),
      R.q 2 (.alloc (.cons (.str fun _ => []) .nil)),
      R.e (.store 1 (R.t 2) (R.t 10)),
      R.q 3 (.mov (R.t 11))])
    (.seq (.reg [R.q 12 (.mov (R.t 3)),
      R.q 13 (.un .not (R.t 12))])
    (.cond (R.t 13)
      (.reg [R.q 14 (.mov (R.t 1)),
        R.e (.panic (R.t 14))])
      .skip)))
    (.reg [R.e (.store 1 (R.t 0) R.ff)]))
    .skip))
def meta_May_1.rs : List RRes := []
theorem meta_May_1.of {pn : Bool} {pv : AV} {xs : List AV} {B : BL} {K : BL → Prop} (hn : xs.length = 1) (hB : onlyOuter B = true) (hpv : pn = false → pv = .nif) (h : awp ⟨PT, 15, exitC K⟩ 10000 [.code meta_May_1.rc] ⟨.cons 1 pv (.cons 4 pv (params 0 xs)), B, .nil⟩) : DefAt PT meta_May_1 pn (pv :: xs) B K :=
  def_of_awp 10000 Try.func74 rfl (by kernel_rfl) (by kernel_rfl) rfl (by rw [hn]; decide) (by decide) (by decide) hB hpv h
abbrev meta_look : Nat := 75
def meta_look.rc : RC :=
  (.seq (.reg [R.q 2 (.box (R.t 0))])
  (.seq (.reg [R.q 4 (.mov (R.t 1)),
    R.q 5 (.bin .eql .no (R.t 4) (R.i 1)),
    R.q 6 (.mov (R.t 5)),
    R.g 7 (.mov (R.t 1)) 6 false,
    R.g 8 (.bin .geq .no (R.t 7) (R.i 3)) 6 false,
    R.g 9 (.mov (R.t 8)) 6 false,
    R.g 10 (.mov (R.t 1)) 9 true,
    R.g 11 (.bin .leq .no (R.t 10) (R.i 7)) 9 true,
    R.g 12 (.pick (R.t 9) (R.t 11) R.ff) 6 false,
    R.q 13 (.pick (R.t 6) R.tt (R.t 12)),
    R.q 14 (.call 109 [(R.t 13), (.val (.str fun _ => [107, 105, 110, 100]))])])
  (.seq (.reg [R.q 15 (.fld 0 (R.t 2)),
    R.q 16 (.load1 (R.t 15)),
    R.q 17 (.bin .geq .no (R.t 16) (R.i 0)),
    R.q 18 (.mov (R.t 17)),
    R.g 19 (.fld 0 (R.t 2)) 18 true,
    R.g 20 (.load1 (R.t 19)) 18 true,
    R.g 21 (.bin .leq .no (R.t 20) (R.i 4095)) 18 true,
    R.q 22 (.pick (R.t 18) (R.t 21) R.ff),
    R.q 23 (.call 109 [(R.t 22), (.val (.str fun _ => [109, 111, 100, 101]))])])
  (.seq (.reg [R.q 24 (.fld 1 (R.t 2)),
    R.q 25 (.load1 (R.t 24)),
    R.q 26 (.bin .geq .no (R.t 25) (R.i 0)),
    R.q 27 (.mov (R.t 26)),
    R.g 28 (.fld 1 (R.t 2)) 27 true,
    R.g 29 (.load1 (R.t 28)) 27 true,
    R.g 30 (.bin .leq .no (R.t 29) (R.i 2147483647)) 27 true,
    R.q 31 (.pick (R.t 27) (R.t 30) R.ff),
    R.q 32 (.mov (R.t 31)),
    R.g 33 (.fld 2 (R.t 2)) 32 true,
    R.g 34 (.load1 (R.t 33)) 32 true,
    R.g 35 (.bin .geq .no (R.t 34) (R.i 0)) 32 true,
    R.q 36 (.pick (R.t 32) (R.t 35) R.ff),
    R.q 37 (.mov (R.t 36)),
    R.g 38 (.fld 2 (R.t 2)) 37 true,
    R.g 39 (.load1 (R.t 38)) 37 true,
    R.g 40 (.bin .leq .no (R.t 39) (R.i 2147483647)) 37 true,
    R.q 41 (.pick (R.t 37) (R.t 40) R.ff),
    R.q 42 (.call 109 [(R.t 41), (.val (.str fun _ => [111, 119, 110, 101, 114]))])])
  (.seq (.reg [R.q 43 (.fld 3 (R.t 2)),
    R.q 44 (.loadA 2 (R.t 43)),
    R.q 45 (.call 110 [(R.t 44)]),
    R.q 46 (.mov (R.t 45)),
    R.g 47 (.fld 13 (R.t 2)) 46 true,
    R.g 48 (.load1 (R.t 47)) 46 true,
    R.g 49 (.call 111 [(R.t 48)]) 46 true,
    R.q 50 (.pick (R.t 46) (R.t 49) R.ff),
    R.q 51 (.mov (R.t 50)),
    R.g 52 (.fld 7 (R.t 2)) 51 true,
    R.g 53 (.load1 (R.t 52)) 51 true,
    R.g 54 (.call 112 [(R.t 53)]) 51 true,
    R.q 55 (.pick (R.t 51) (R.t 54) R.ff),
    R.q 56 (.call 109 [(R.t 55), (.val (.str fun _ => [116, 105, 109, 101, 115, 44, 32, 102, 108, 97, 103, 115, 44, 32, 110, 97, 109, 101, 115]))])])
  (.seq (.regd [R.f (R.q 57 (.fld 5 (R.t 2))),
    R.f (R.q 58 (.load1 (R.t 57))),
    R.f (R.q 59 (.len (R.t 58))),
    R.f (R.q 60 (.bin .eql .no (R.t 59) (R.i 0))),
    R.f (R.q 61 (.mov (R.t 60))),
    R.f (R.g 62 (.fld 5 (R.t 2)) 61 false),
    R.f (R.g 63 (.load1 (R.t 62)) 61 false),
    R.s (R.g 64 (.call 113 [(R.t 63)]) 61 false) [],
    R.f (R.g 65 (.mov (R.t 64)) 61 false),
    R.f (R.g 66 (.fld 5 (R.t 2)) 65 true),
    R.f (R.g 67 (.load1 (R.t 66)) 65 true),
    R.f (R.g 69 (.fld 0 (R.t 2)) 65 true),
    R.f (R.g 70 (.load1 (R.t 69)) 65 true),
    R.f (R.g 71 (.bin .and .no (R.t 70) (R.i 511)) 65 true),
    R.s (R.g 68 (.call 114 [(R.t 67)]) 65 true) [11, 12, 13],
    R.f (R.g 72 (.bin .eql .no (R.t 68) (R.t 71)) 65 true),
    R.f (R.g 73 (.pick (R.t 65) (R.t 72) R.ff) 61 false),
    R.f (R.q 74 (.pick (R.t 61) R.tt (R.t 73))),
    R.s (R.q 75 (.call 109 [(R.t 74), (.val (.str fun _ => [108, 105, 115, 116]))])) []])
  (.seq (.reg [R.q 76 (.fld 6 (R.t 2)),
    R.q 77 (.load1 (R.t 76)),
    R.q 78 (.len (R.t 77)),
    R.q 79 (.bin .eql .no (R.t 78) (R.i 0)),
    R.q 80 (.mov (R.t 79)),
    R.g 81 (.mov (R.t 1)) 80 false,
    R.g 82 (.bin .eql .no (R.t 81) (R.i 6)) 80 false,
    R.g 83 (.mov (R.t 82)) 80 false,
    R.g 84 (.fld 6 (R.t 2)) 83 true,
    R.g 85 (.load1 (R.t 84)) 83 true,
    R.g 86 (.call 113 [(R.t 85)]) 83 true,
    R.g 87 (.pick (R.t 83) (R.t 86) R.ff) 80 false,
    R.q 88 (.pick (R.t 80) R.tt (R.t 87)),
    R.q 89 (.call 109 [(R.t 88), (.val (.str fun _ => [100, 101, 102, 97, 117, 108, 116]))])])
  (.seq (.reg [R.q 90 (.fld 8 (R.t 2)),
    R.q 91 (.loadA 5 (R.t 90)),
    R.q 92 (.call 115 [(R.t 91)]),
    R.q 93 (.mov (R.t 92)),
    R.g 94 (.mov (R.t 1)) 93 true,
    R.g 95 (.bin .eql .no (R.t 94) (R.i 1)) 93 true,
    R.g 96 (.mov (R.t 95)) 93 true,
    R.g 97 (.fld 8 (R.t 2)) 96 false,
    R.g 98 (.loadA 5 (R.t 97)) 96 false,
    R.g 99 (.build (.cons (R.z 0) (.cons (.int .u64 fun _ => 0) (.cons (.int .u64 fun _ => 0) (.cons .ff (.cons (R.z 0) .nil))))) []) 96 false,
    R.g 100 (.bin .eql (.agg [.i .i64, .i .u64, .i .u64, .b, .i .i64]) (R.t 98) (R.t 99)) 96 false,
    R.g 101 (.pick (R.t 96) R.tt (R.t 100)) 93 true,
    R.q 102 (.pick (R.t 93) (R.t 101) R.ff),
    R.q 103 (.call 109 [(R.t 102), (.val (.str fun _ => [99, 97, 112, 115]))])])
  (.reg [R.q 104 (.mov (R.t 1)),
    R.q 105 (.bin .neq .no (R.t 104) (R.i 3)),
    R.q 106 (.mov (R.t 105)),
    R.g 107 (.fld 0 (R.t 2)) 106 false,
    R.g 108 (.load1 (R.t 107)) 106 false,
    R.g 109 (.bin .eql .no (R.t 108) (R.i 511)) 106 false,
    R.g 110 (.mov (R.t 109)) 106 false,
    R.g 111 (.fld 5 (R.t 2)) 110 true,
    R.g 112 (.load1 (R.t 111)) 110 true,
    R.g 113 (.len (R.t 112)) 110 true,
    R.g 114 (.bin .eql .no (R.t 113) (R.i 0)) 110 true,
    R.g 115 (.pick (R.t 110) (R.t 114) R.ff) 106 false,
    R.g 116 (.mov (R.t 115)) 106 false,
    R.g 117 (.fld 13 (R.t 2)) 116 true,
    R.g 118 (.load1 (R.t 117)) 116 true,
    R.g 119 (.bin .eql .no (R.t 118) (R.i 0)) 116 true,
    R.g 120 (.pick (R.t 116) (R.t 119) R.ff) 106 false,
    R.q 121 (.pick (R.t 106) R.tt (R.t 120)),
    R.q 122 (.call 109 [(R.t 121), (.val (.str fun _ => [108, 105, 110, 107]))])])))))))))
def meta_look.rs : List RRes := []
theorem meta_look.of {xs : List AV} {d : Nat} {B : BL} {K : ARes → BL → Prop} (hn : xs.length = 2) (hB : onlyOuter B = true) (h : awp ⟨PT, 123, exitX meta_look.rs K⟩ 10000 [.code meta_look.rc] ⟨params 0 xs, B, .nil⟩) : CallAt PT meta_look xs d B K :=
  call_of_awp 10000 Try.func75 rfl (by kernel_rfl) (by kernel_rfl) (by kernel_rfl) (by rw [hn]; decide) hB h
abbrev acl_Same : Nat := 77
def acl_Same.rc : RC :=
  (.seq (.reg [R.q 4 (.mov R.ff)])
  (.seq (.reg [R.q 5 (.mov (R.t 0)),
    R.q 6 (.mov (R.t 1)),
    R.q 7 (.call 116 [(R.t 5), (R.t 6)]),
    R.q 4 (.mov (R.t 7))])
  .ret))
def acl_Same.rs : List RRes := [.tmp 4]
theorem acl_Same.of {xs : List AV} {d : Nat} {B : BL} {K : ARes → BL → Prop} (hn : xs.length = 2) (hB : onlyOuter B = true) (h : awp ⟨PT, 8, exitX acl_Same.rs K⟩ 10000 [.code acl_Same.rc] ⟨params 0 xs, B, .nil⟩) : CallAt PT acl_Same xs d B K :=
  call_of_awp 10000 Try.func77 rfl (by kernel_rfl) (by kernel_rfl) (by kernel_rfl) (by rw [hn]; decide) hB h
abbrev xattr_Same : Nat := 78
def xattr_Same.rc : RC :=
  (.seq (.reg [R.q 4 (.mov R.ff)])
  (.seq (.reg [R.q 5 (.mov (R.t 0)),
    R.q 6 (.mov (R.t 1)),
    R.q 7 (.call 117 [(R.t 5), (R.t 6)]),
    R.q 4 (.mov (R.t 7))])
  .ret))
def xattr_Same.rs : List RRes := [.tmp 4]
theorem xattr_Same.of {xs : List AV} {d : Nat} {B : BL} {K : ARes → BL → Prop} (hn : xs.length = 2) (hB : onlyOuter B = true) (h : awp ⟨PT, 8, exitX xattr_Same.rs K⟩ 10000 [.code xattr_Same.rc] ⟨params 0 xs, B, .nil⟩) : CallAt PT xattr_Same xs d B K :=
  call_of_awp 10000 Try.func78 rfl (by kernel_rfl) (by kernel_rfl) (by kernel_rfl) (by rw [hn]; decide) hB h
abbrev meta_must : Nat := 109
def meta_must.rc : RC :=
  (.seq (.reg [R.q 4 (.mov (R.t 0)),
    R.q 5 (.un .not (R.t 4))])
  (.cond (R.t 5)
    (.reg [R.q 6 (.mov (R.t 1)),
      R.q 7 (.build (.cons (.str fun _ => []) .nil) [(0, 1, (R.t 6))]),
      R.q 8 (.mkif 110 (R.t 7)),
      R.e (.panic (R.t 8))])
    .skip))
def meta_must.rs : List RRes := []
theorem meta_must.of {xs : List AV} {d : Nat} {B : BL} {K : ARes → BL → Prop} (hn : xs.length = 2) (hB : onlyOuter B = true) (h : awp ⟨PT, 9, exitX meta_must.rs K⟩ 10000 [.code meta_must.rc] ⟨params 0 xs, B, .nil⟩) : CallAt PT meta_must xs d B K :=
  call_of_awp 10000 Try.func109 rfl (by kernel_rfl) (by kernel_rfl) (by kernel_rfl) (by rw [hn]; decide) hB h
abbrev stamp_May : Nat := 110
def stamp_May.rc : RC :=
  (.seq (.reg [R.q 1 (.box (R.t 0)),
    R.q 2 (.mov R.ff)])
  (.seq (.reg [R.q 3 (.fld 0 (R.t 1)),
    R.q 4 (.load1 (R.t 3)),
    R.q 5 (.bin .geq .no (R.t 4) (R.i (-1099511627776))),
    R.q 6 (.mov (R.t 5)),
    R.g 7 (.fld 0 (R.t 1)) 6 true,
    R.g 8 (.load1 (R.t 7)) 6 true,
    R.g 9 (.bin .leq .no (R.t 8) (R.i 1099511627776)) 6 true,
    R.q 10 (.pick (R.t 6) (R.t 9) R.ff),
    R.q 11 (.mov (R.t 10)),
    R.g 12 (.fld 1 (R.t 1)) 11 true,
    R.g 13 (.load1 (R.t 12)) 11 true,
    R.g 14 (.bin .geq .no (R.t 13) (R.i 0)) 11 true,
    R.q 15 (.pick (R.t 11) (R.t 14) R.ff),
    R.q 16 (.mov (R.t 15)),
    R.g 17 (.fld 1 (R.t 1)) 16 true,
    R.g 18 (.load1 (R.t 17)) 16 true,
    R.g 19 (.bin .lss .no (R.t 18) (R.i 1000000000)) 16 true,
    R.q 20 (.pick (R.t 16) (R.t 19) R.ff),
    R.q 2 (.mov (R.t 20))])
  .ret))
def stamp_May.rs : List RRes := [.tmp 2]
theorem stamp_May.of {xs : List AV} {d : Nat} {B : BL} {K : ARes → BL → Prop} (hn : xs.length = 1) (hB : onlyOuter B = true) (h : awp ⟨PT, 21, exitX stamp_May.rs K⟩ 10000 [.code stamp_May.rc] ⟨params 0 xs, B, .nil⟩) : CallAt PT stamp_May xs d B K :=
  call_of_awp 10000 Try.func110 rfl (by kernel_rfl) (by kernel_rfl) (by kernel_rfl) (by rw [hn]; decide) hB h
abbrev flags_May : Nat := 111
def flags_May.rc : RC :=
  (.seq (.reg [R.q 2 (.mov R.ff)])
  (.seq (.reg [R.q 3 (.mov (R.t 0)),
    R.q 4 (.bin .geq .no (R.t 3) (R.i 0)),
    R.q 5 (.mov (R.t 4)),
    R.g 6 (.mov (R.t 0)) 5 true,
    R.g 7 (.call 129 []) 5 true,
    R.g 8 (.len (R.t 7)) 5 true,
    R.g 9 (.bin .shl .no (R.i 1) (R.t 8)) 5 true,
    R.g 10 (.bin .lss .no (R.t 6) (R.t 9)) 5 true,
    R.q 11 (.pick (R.t 5) (R.t 10) R.ff),
    R.q 2 (.mov (R.t 11))])
  .ret))
def flags_May.rs : List RRes := [.tmp 2]
theorem flags_May.of {xs : List AV} {d : Nat} {B : BL} {K : ARes → BL → Prop} (hn : xs.length = 1) (hB : onlyOuter B = true) (h : awp ⟨PT, 12, exitX flags_May.rs K⟩ 10000 [.code flags_May.rc] ⟨params 0 xs, B, .nil⟩) : CallAt PT flags_May xs d B K :=
  call_of_awp 10000 Try.func111 rfl (by kernel_rfl) (by kernel_rfl) (by kernel_rfl) (by rw [hn]; decide) hB h
abbrev xattr_May : Nat := 112
def xattr_May.rc : RC :=
  (.seq (.reg [R.q 2 (.mov R.ff)])
  (.seq (.seq (.reg [R.q 5 (.mov (R.t 0)),
    R.q 6 (.len (R.t 5)),
    R.q 7 (.mov (R.i 0))])
  (.block 0 (.loop
     (.seq (.reg [R.q 8 (.bin .lss .no (R.t 7) (R.t 6))])
     (.seq (.cond (R.t 8)
       .skip
       (.exit 0))
     (.seq (.block 1 (.seq (.reg [R.q 9 (.mov (R.t 7)),
        R.q 10 (.idx 2 (R.t 5) (R.t 7)),
        R.q 11 (.loadA 2 (R.t 10)),
        R.q 4 (.alloc (.cons (.str fun _ => []) (.cons (.str fun _ => []) .nil))),
        R.q 3 (.mov (R.t 9)),
        R.e (.store 2 (R.t 4) (R.t 11))])
      (.seq (.regd [R.f (R.q 12 (.loadA 2 (R.t 4))),
        R.s (R.q 13 (.call 130 [(R.t 12)])) [],
        R.f (R.q 14 (.un .not (R.t 13))),
        R.f (R.q 15 (.mov (R.t 14))),
        R.f (R.g 16 (.mov (R.t 3)) 15 false),
        R.f (R.g 17 (.bin .gtr .no (R.t 16) (R.i 0)) 15 false),
        R.f (R.g 18 (.mov (R.t 17)) 15 false),
        R.f (R.g 19 (.fld 0 (R.t 4)) 18 true),
        R.f (R.g 20 (.load1 (R.t 19)) 18 true),
        R.f (R.g 21 (.mov (R.t 0)) 18 true),
        R.f (R.g 22 (.mov (R.t 3)) 18 true),
        R.f (R.g 23 (.bin .sub .no (R.t 22) (R.i 1)) 18 true),
        R.f (R.g 24 (.idx 2 (R.t 21) (R.t 23)) 18 true),
        R.f (R.g 25 (.fld 0 (R.t 24)) 18 true),
        R.f (R.g 26 (.load1 (R.t 25)) 18 true),
        R.f (R.g 27 (.bin .leq .no (R.t 20) (R.t 26)) 18 true),
        R.f (R.g 28 (.pick (R.t 18) (R.t 27) R.ff) 15 false),
        R.f (R.q 29 (.pick (R.t 15) R.tt (R.t 28)))])
      (.cond (R.t 29)
        (.seq (.reg [R.q 2 (.mov R.ff)])
        .ret)
        .skip))))
     (.reg [R.q 30 (.bin .add .no (R.t 7) (R.i 1)),
       R.q 7 (.mov (R.t 30))])))))))
  (.seq (.reg [R.q 31 (.mov (R.t 0)),
    R.q 32 (.len (R.t 31)),
    R.q 33 (.bin .leq .no (R.t 32) (R.i 32)),
    R.q 2 (.mov (R.t 33))])
  .ret)))
def xattr_May.rs : List RRes := [.tmp 2]
theorem xattr_May.of {xs : List AV} {d : Nat} {B : BL} {K : ARes → BL → Prop} (hn : xs.length = 1) (hB : onlyOuter B = true) (h : awp ⟨PT, 34, exitX xattr_May.rs K⟩ 10000 [.code xattr_May.rc] ⟨params 0 xs, B, .nil⟩) : CallAt PT xattr_May xs d B K :=
  call_of_awp 10000 Try.func112 rfl (by kernel_rfl) (by kernel_rfl) (by kernel_rfl) (by rw [hn]; decide) hB h
abbrev acl_May : Nat := 113
def acl_May.rc : RC :=
  (.seq (.reg [R.q 2 (.mov R.ff)])
  (.seq (.reg [R.q 3 (.allocR 1 7 (.cons (R.z 0) (.cons (R.z 0) (.cons (R.z 0) (.cons (R.z 0) (.cons (R.z 0) (.cons (R.z 0) (.cons (R.z 0) .nil))))))))])
  (.seq (.reg [R.q 8 (.build (.cons (R.z 0) (.cons (R.z 0) (.cons (R.z 0) .nil))) []),
    R.q 4 (.alloc (.cons (R.z 0) (.cons (R.z 0) (.cons (R.z 0) .nil)))),
    R.e (.store 3 (R.t 4) (R.t 8))])
  (.seq (.seq (.reg [R.q 9 (.mov (R.t 0)),
    R.q 10 (.len (R.t 9)),
    R.q 11 (.mov (R.i 0))])
  (.block 0 (.loop
     (.seq (.reg [R.q 12 (.bin .lss .no (R.t 11) (R.t 10))])
     (.seq (.cond (R.t 12)
       .skip
       (.exit 0))
     (.seq (.block 1 (.seq (.reg [R.q 13 (.idx 3 (R.t 9) (R.t 11)),
        R.q 14 (.loadA 3 (R.t 13)),
        R.q 6 (.alloc (.cons (R.z 0) (.cons (R.z 0) (.cons (R.z 0) .nil)))),
        R.e (.store 3 (R.t 6) (R.t 14))])
      (.seq (.seq (.reg [R.q 15 (.fld 0 (R.t 6)),
        R.q 16 (.load1 (R.t 15)),
        R.q 17 (.bin .lss .no (R.t 16) (R.i 1)),
        R.q 18 (.mov (R.t 17)),
        R.g 19 (.fld 0 (R.t 6)) 18 false,
        R.g 20 (.load1 (R.t 19)) 18 false,
        R.g 21 (.bin .gtr .no (R.t 20) (R.i 6)) 18 false,
        R.q 22 (.pick (R.t 18) R.tt (R.t 21)),
        R.q 23 (.mov (R.t 22)),
        R.g 24 (.loadA 3 (R.t 6)) 23 false,
        R.g 25 (.call 131 [(R.t 24)]) 23 false,
        R.g 26 (.un .not (R.t 25)) 23 false,
        R.q 27 (.pick (R.t 23) R.tt (R.t 26)),
        R.q 28 (.mov (R.t 27)),
        R.g 29 (.fld 0 (R.t 6)) 28 false,
        R.g 30 (.load1 (R.t 29)) 28 false,
        R.g 31 (.fld 0 (R.t 4)) 28 false,
        R.g 32 (.load1 (R.t 31)) 28 false,
        R.g 33 (.bin .lss .no (R.t 30) (R.t 32)) 28 false,
        R.q 34 (.pick (R.t 28) R.tt (R.t 33)),
        R.q 35 (.mov (R.t 34)),
        R.g 36 (.fld 0 (R.t 6)) 35 false,
        R.g 37 (.load1 (R.t 36)) 35 false,
        R.g 38 (.fld 0 (R.t 4)) 35 false,
        R.g 39 (.load1 (R.t 38)) 35 false,
        R.g 40 (.bin .eql .no (R.t 37) (R.t 39)) 35 false,
        R.g 41 (.mov (R.t 40)) 35 false,
        R.g 42 (.fld 1 (R.t 6)) 41 true,
        R.g 43 (.load1 (R.t 42)) 41 true,
        R.g 44 (.fld 1 (R.t 4)) 41 true,
        R.g 45 (.load1 (R.t 44)) 41 true,
        R.g 46 (.bin .leq .no (R.t 43) (R.t 45)) 41 true,
        R.g 47 (.pick (R.t 41) (R.t 46) R.ff) 35 false,
        R.q 48 (.pick (R.t 35) R.tt (R.t 47))])
      (.cond (R.t 48)
        (.seq (.reg [R.q 2 (.mov R.ff)])
        .ret)
        .skip))
      (.seq (.reg [R.q 49 (.fld 0 (R.t 6)),
        R.q 50 (.load1 (R.t 49)),
        R.q 51 (.idxA 1 7 (R.t 3) (R.t 50)),
        R.q 52 (.load1 (R.t 51)),
        R.q 53 (.bin .add .no (R.t 52) (R.i 1)),
        R.q 54 (.idxA 1 7 (R.t 3) (R.t 50)),
        R.e (.store 1 (R.t 54) (R.t 53))])
      (.reg [R.q 55 (.loadA 3 (R.t 6)),
        R.e (.store 3 (R.t 4) (R.t 55))])))))
     (.reg [R.q 56 (.bin .add .no (R.t 11) (R.i 1)),
       R.q 11 (.mov (R.t 56))])))))))
  (.seq (.reg [R.q 57 (.idxA 1 7 (R.t 3) (R.i 2)),
    R.q 58 (.load1 (R.t 57)),
    R.q 59 (.idxA 1 7 (R.t 3) (R.i 4)),
    R.q 60 (.load1 (R.t 59)),
    R.q 61 (.bin .add .no (R.t 58) (R.t 60)),
    R.q 62 (.mm false [(R.i 1), (R.t 61)]),
    R.q 7 (.mov (R.t 62))])
  (.seq (.reg [R.q 63 (.idxA 1 7 (R.t 3) (R.i 1)),
    R.q 64 (.load1 (R.t 63)),
    R.q 65 (.bin .eql .no (R.t 64) (R.i 1)),
    R.q 66 (.mov (R.t 65)),
    R.g 67 (.idxA 1 7 (R.t 3) (R.i 3)) 66 true,
    R.g 68 (.load1 (R.t 67)) 66 true,
    R.g 69 (.bin .eql .no (R.t 68) (R.i 1)) 66 true,
    R.q 70 (.pick (R.t 66) (R.t 69) R.ff),
    R.q 71 (.mov (R.t 70)),
    R.g 72 (.idxA 1 7 (R.t 3) (R.i 6)) 71 true,
    R.g 73 (.load1 (R.t 72)) 71 true,
    R.g 74 (.bin .eql .no (R.t 73) (R.i 1)) 71 true,
    R.q 75 (.pick (R.t 71) (R.t 74) R.ff),
    R.q 76 (.mov (R.t 75)),
    R.g 77 (.idxA 1 7 (R.t 3) (R.i 5)) 76 true,
    R.g 78 (.load1 (R.t 77)) 76 true,
    R.g 79 (.mov (R.t 7)) 76 true,
    R.g 80 (.bin .eql .no (R.t 78) (R.t 79)) 76 true,
    R.q 81 (.pick (R.t 76) (R.t 80) R.ff),
    R.q 82 (.mov (R.t 81)),
    R.g 83 (.mov (R.t 0)) 82 true,
    R.g 84 (.len (R.t 83)) 82 true,
    R.g 85 (.bin .leq .no (R.t 84) (R.i 32)) 82 true,
    R.q 86 (.pick (R.t 82) (R.t 85) R.ff),
    R.q 2 (.mov (R.t 86))])
  .ret))))))
def acl_May.rs : List RRes := [.tmp 2]
theorem acl_May.of {xs : List AV} {d : Nat} {B : BL} {K : ARes → BL → Prop} (hn : xs.length = 1) (hB : onlyOuter B = true) (h : awp ⟨PT, 87, exitX acl_May.rs K⟩ 10000 [.code acl_May.rc] ⟨params 0 xs, B, .nil⟩) : CallAt PT acl_May xs d B K :=
  call_of_awp 10000 Try.func113 rfl (by kernel_rfl) (by kernel_rfl) (by kernel_rfl) (by rw [hn]; decide) hB h
abbrev acl_Mode : Nat := 114
def acl_Mode.rc : RC :=
  (.seq (.reg [R.q 2 (.mov (R.i 0))])
  (.seq (.reg [R.q 4 (.mov (R.t 0)),
    R.q 5 (.call 132 [(R.t 4), (R.i 5)]),
    R.q 3 (.mov (R.t 5))])
  (.seq (.seq (.reg [R.q 6 (.mov (R.t 3)),
    R.q 7 (.bin .lss .no (R.t 6) (R.i 0))])
  (.cond (R.t 7)
    (.reg [R.q 8 (.mov (R.t 0)),
      R.q 9 (.call 132 [(R.t 8), (R.i 3)]),
      R.q 3 (.mov (R.t 9))])
    .skip))
  (.seq (.reg [R.q 10 (.mov (R.t 0)),
    R.q 11 (.call 132 [(R.t 10), (R.i 1)]),
    R.q 12 (.bin .shl .no (R.t 11) (.val (.int .u64 fun _ => 6))),
    R.q 13 (.mov (R.t 3)),
    R.q 14 (.bin .shl .no (R.t 13) (.val (.int .u64 fun _ => 3))),
    R.q 15 (.bin .or .no (R.t 12) (R.t 14)),
    R.q 16 (.mov (R.t 0)),
    R.q 17 (.call 132 [(R.t 16), (R.i 6)]),
    R.q 18 (.bin .or .no (R.t 15) (R.t 17)),
    R.q 2 (.mov (R.t 18))])
  .ret))))
def acl_Mode.rs : List RRes := [.tmp 2]
theorem acl_Mode.of {xs : List AV} {d : Nat} {B : BL} {K : ARes → BL → Prop} (hn : xs.length = 1) (hB : onlyOuter B = true) (h : awp ⟨PT, 19, exitX acl_Mode.rs K⟩ 10000 [.code acl_Mode.rc] ⟨params 0 xs, B, .nil⟩) : CallAt PT acl_Mode xs d B K :=
  call_of_awp 10000 Try.func114 rfl (by kernel_rfl) (by kernel_rfl) (by kernel_rfl) (by rw [hn]; decide) hB h
abbrev caps_May : Nat := 115
def caps_May.rc : RC :=
  (.seq (.reg [R.q 1 (.box (R.t 0)),
    R.q 2 (.mov R.ff)])
  (.seq (.seq (.reg [R.q 3 (.fld 0 (R.t 1)),
    R.q 4 (.load1 (R.t 3))])
  (.block 0 (.seq (.reg [R.q 6 (.bin .eql .no (R.t 4) (R.i 0)),
     R.q 5 (.mov (R.t 6))])
   (.cond (R.t 5)
     (.seq (.reg [R.q 7 (.loadA 5 (R.t 1)),
       R.q 8 (.build (.cons (R.z 0) (.cons (.int .u64 fun _ => 0) (.cons (.int .u64 fun _ => 0) (.cons .ff (.cons (R.z 0) .nil))))) []),
       R.q 9 (.bin .eql (.agg [.i .i64, .i .u64, .i .u64, .b, .i .i64]) (R.t 7) (R.t 8)),
       R.q 2 (.mov (R.t 9))])
     .ret)
     (.seq (.reg [R.q 11 (.bin .eql .no (R.t 4) (R.i 2)),
       R.q 10 (.mov (R.t 11))])
     (.cond (R.t 10)
       (.seq (.reg [R.q 12 (.fld 4 (R.t 1)),
         R.q 13 (.load1 (R.t 12)),
         R.q 14 (.bin .eql .no (R.t 13) (R.i 0)),
         R.q 2 (.mov (R.t 14))])
       .ret)
       (.seq (.reg [R.q 16 (.bin .eql .no (R.t 4) (R.i 3)),
         R.q 15 (.mov (R.t 16))])
       (.cond (R.t 15)
         (.seq (.reg [R.q 17 (.fld 4 (R.t 1)),
           R.q 18 (.load1 (R.t 17)),
           R.q 19 (.bin .geq .no (R.t 18) (R.i 0)),
           R.q 20 (.mov (R.t 19)),
           R.g 21 (.fld 4 (R.t 1)) 20 true,
           R.g 22 (.load1 (R.t 21)) 20 true,
           R.g 23 (.bin .leq .no (R.t 22) (R.i 2147483647)) 20 true,
           R.q 24 (.pick (R.t 20) (R.t 23) R.ff),
           R.q 2 (.mov (R.t 24))])
         .ret)
         .skip))))))))
  (.seq (.reg [R.q 2 (.mov R.ff)])
  .ret)))
def caps_May.rs : List RRes := [.tmp 2]
theorem caps_May.of {xs : List AV} {d : Nat} {B : BL} {K : ARes → BL → Prop} (hn : xs.length = 1) (hB : onlyOuter B = true) (h : awp ⟨PT, 25, exitX caps_May.rs K⟩ 10000 [.code caps_May.rc] ⟨params 0 xs, B, .nil⟩) : CallAt PT caps_May xs d B K :=
  call_of_awp 10000 Try.func115 rfl (by kernel_rfl) (by kernel_rfl) (by kernel_rfl) (by rw [hn]; decide) hB h
abbrev slices_Equal_api_Ace_api_Ace : Nat := 116
def slices_Equal_api_Ace_api_Ace.rc : RC :=
  (.seq (.reg [R.q 4 (.mov R.ff)])
  (.seq (.seq (.reg [R.q 6 (.mov (R.t 0)),
    R.q 7 (.len (R.t 6)),
    R.q 8 (.mov (R.t 1)),
    R.q 9 (.len (R.t 8)),
    R.q 10 (.bin .neq .no (R.t 7) (R.t 9))])
  (.cond (R.t 10)
    (.seq (.reg [R.q 4 (.mov R.ff)])
    .ret)
    .skip))
  (.seq (.seq (.reg [R.q 11 (.mov (R.t 0)),
    R.q 12 (.len (R.t 11)),
    R.q 13 (.mov (R.i 0))])
  (.block 0 (.loop
     (.seq (.reg [R.q 14 (.bin .lss .no (R.t 13) (R.t 12))])
     (.seq (.cond (R.t 14)
       .skip
       (.exit 0))
     (.seq (.block 1 (.seq (.reg [R.q 15 (.mov (R.t 13)),
        R.q 5 (.mov (R.t 15))])
      (.seq (.regd [R.f (R.q 16 (.mov (R.t 0))),
        R.f (R.q 17 (.mov (R.t 5))),
        R.f (R.q 18 (.idx 3 (R.t 16) (R.t 17))),
        R.f (R.q 19 (.loadA 3 (R.t 18))),
        R.f (R.q 20 (.mov (R.t 1))),
        R.f (R.q 21 (.mov (R.t 5))),
        R.f (R.q 22 (.idx 3 (R.t 20) (R.t 21))),
        R.f (R.q 23 (.loadA 3 (R.t 22))),
        R.f (R.q 24 (.bin .neq (.agg [.i .i64, .i .i64, .i .i64]) (R.t 19) (R.t 23)))])
      (.cond (R.t 24)
        (.seq (.reg [R.q 4 (.mov R.ff)])
        .ret)
        .skip))))
     (.reg [R.q 25 (.bin .add .no (R.t 13) (R.i 1)),
       R.q 13 (.mov (R.t 25))])))))))
  (.seq (.reg [R.q 4 (.mov R.tt)])
  .ret))))
def slices_Equal_api_Ace_api_Ace.rs : List RRes := [.tmp 4]
theorem slices_Equal_api_Ace_api_Ace.of {xs : List AV} {d : Nat} {B : BL} {K : ARes → BL → Prop} (hn : xs.length = 2) (hB : onlyOuter B = true) (h : awp ⟨PT, 26, exitX slices_Equal_api_Ace_api_Ace.rs K⟩ 10000 [.code slices_Equal_api_Ace_api_Ace.rc] ⟨params 0 xs, B, .nil⟩) : CallAt PT slices_Equal_api_Ace_api_Ace xs d B K :=
  call_of_awp 10000 Try.func116 rfl (by kernel_rfl) (by kernel_rfl) (by kernel_rfl) (by rw [hn]; decide) hB h
abbrev slices_Equal_api_Xattr_api_Xattr : Nat := 117
def slices_Equal_api_Xattr_api_Xattr.rc : RC :=
  (.seq (.reg [R.q 4 (.mov R.ff)])
  (.seq (.seq (.reg [R.q 6 (.mov (R.t 0)),
    R.q 7 (.len (R.t 6)),
    R.q 8 (.mov (R.t 1)),
    R.q 9 (.len (R.t 8)),
    R.q 10 (.bin .neq .no (R.t 7) (R.t 9))])
  (.cond (R.t 10)
    (.seq (.reg [R.q 4 (.mov R.ff)])
    .ret)
    .skip))
  (.seq (.seq (.reg [R.q 11 (.mov (R.t 0)),
    R.q 12 (.len (R.t 11)),
    R.q 13 (.mov (R.i 0))])
  (.block 0 (.loop
     (.seq (.reg [R.q 14 (.bin .lss .no (R.t 13) (R.t 12))])
     (.seq (.cond (R.t 14)
       .skip
       (.exit 0))
     (.seq (.block 1 (.seq (.reg [R.q 15 (.mov (R.t 13)),
        R.q 5 (.mov (R.t 15))])
      (.seq (.regd [R.f (R.q 16 (.mov (R.t 0))),
        R.f (R.q 17 (.mov (R.t 5))),
        R.f (R.q 18 (.idx 2 (R.t 16) (R.t 17))),
        R.f (R.q 19 (.loadA 2 (R.t 18))),
        R.f (R.q 20 (.mov (R.t 1))),
        R.f (R.q 21 (.mov (R.t 5))),
        R.f (R.q 22 (.idx 2 (R.t 20) (R.t 21))),
        R.f (R.q 23 (.loadA 2 (R.t 22))),
        R.f (R.q 24 (.bin .neq (.agg [.s, .s]) (R.t 19) (R.t 23)))])
      (.cond (R.t 24)
        (.seq (.reg [R.q 4 (.mov R.ff)])
        .ret)
        .skip))))
     (.reg [R.q 25 (.bin .add .no (R.t 13) (R.i 1)),
       R.q 13 (.mov (R.t 25))])))))))
  (.seq (.reg [R.q 4 (.mov R.tt)])
  .ret))))
def slices_Equal_api_Xattr_api_Xattr.rs : List RRes := [.tmp 4]
theorem slices_Equal_api_Xattr_api_Xattr.of {xs : List AV} {d : Nat} {B : BL} {K : ARes → BL → Prop} (hn : xs.length = 2) (hB : onlyOuter B = true) (h : awp ⟨PT, 26, exitX slices_Equal_api_Xattr_api_Xattr.rs K⟩ 10000 [.code slices_Equal_api_Xattr_api_Xattr.rc] ⟨params 0 xs, B, .nil⟩) : CallAt PT slices_Equal_api_Xattr_api_Xattr xs d B K :=
  call_of_awp 10000 Try.func117 rfl (by kernel_rfl) (by kernel_rfl) (by kernel_rfl) (by rw [hn]; decide) hB h
abbrev flags_names : Nat := 129
def flags_names.rc : RC :=
  (.seq (.reg [R.q 0 (.mov (.val .nsl))])
  (.seq (.reg [R.q 1 (.bslice 1 (.cons (.str fun _ => []) .nil) 4 [(0, 1, (.val (.str fun _ => [117, 99, 104, 103]))), (1, 1, (.val (.str fun _ => [117, 97, 112, 112, 110, 100]))), (2, 1, (.val (.str fun _ => [110, 111, 100, 117, 109, 112]))), (3, 1, (.val (.str fun _ => [111, 112, 97, 113, 117, 101])))]),
    R.q 0 (.mov (R.t 1))])
  .ret))
def flags_names.rs : List RRes := [.tmp 0]
theorem flags_names.of {xs : List AV} {d : Nat} {B : BL} {K : ARes → BL → Prop} (hn : xs.length = 0) (hB : onlyOuter B = true) (h : awp ⟨PT, 2, exitX flags_names.rs K⟩ 10000 [.code flags_names.rc] ⟨params 0 xs, B, .nil⟩) : CallAt PT flags_names xs d B K :=
  call_of_awp 10000 Try.func129 rfl (by kernel_rfl) (by kernel_rfl) (by kernel_rfl) (by rw [hn]; decide) hB h
abbrev xattr_may : Nat := 130
def xattr_may.rc : RC :=
  (.seq (.reg [R.q 1 (.box (R.t 0)),
    R.q 2 (.mov R.ff)])
  (.seq (.reg [R.q 3 (.fld 0 (R.t 1)),
    R.q 4 (.load1 (R.t 3)),
    R.q 5 (.bin .neq .no (R.t 4) (.val (.str fun _ => []))),
    R.q 6 (.mov (R.t 5)),
    R.g 7 (.fld 0 (R.t 1)) 6 true,
    R.g 8 (.load1 (R.t 7)) 6 true,
    R.g 9 (.call 135 [(R.t 8)]) 6 true,
    R.g 10 (.lenS (R.t 9)) 6 true,
    R.g 11 (.bin .leq .no (R.t 10) (R.i 238)) 6 true,
    R.q 12 (.pick (R.t 6) (R.t 11) R.ff),
    R.q 13 (.mov (R.t 12)),
    R.g 14 (.fld 0 (R.t 1)) 13 true,
    R.g 15 (.load1 (R.t 14)) 13 true,
    R.g 16 (.call 136 [(R.t 15), (.val (.str fun _ => [0]))]) 13 true,
    R.g 17 (.un .not (R.t 16)) 13 true,
    R.q 18 (.pick (R.t 13) (R.t 17) R.ff),
    R.q 19 (.mov (R.t 18)),
    R.g 20 (.fld 1 (R.t 1)) 19 true,
    R.g 21 (.load1 (R.t 20)) 19 true,
    R.g 22 (.lenS (R.t 21)) 19 true,
    R.g 23 (.bin .leq .no (R.t 22) (R.i 4096)) 19 true,
    R.q 24 (.pick (R.t 19) (R.t 23) R.ff),
    R.q 2 (.mov (R.t 24))])
  .ret))
def xattr_may.rs : List RRes := [.tmp 2]
theorem xattr_may.of {xs : List AV} {d : Nat} {B : BL} {K : ARes → BL → Prop} (hn : xs.length = 1) (hB : onlyOuter B = true) (h : awp ⟨PT, 25, exitX xattr_may.rs K⟩ 10000 [.code xattr_may.rc] ⟨params 0 xs, B, .nil⟩) : CallAt PT xattr_may xs d B K :=
  call_of_awp 10000 Try.func130 rfl (by kernel_rfl) (by kernel_rfl) (by kernel_rfl) (by rw [hn]; decide) hB h
abbrev acl_mayAce : Nat := 131
def acl_mayAce.rc : RC :=
  (.seq (.reg [R.q 1 (.box (R.t 0)),
    R.q 2 (.mov R.ff)])
  (.seq (.reg [R.q 3 (.fld 2 (R.t 1)),
    R.q 4 (.load1 (R.t 3)),
    R.q 5 (.bin .geq .no (R.t 4) (R.i 0)),
    R.q 6 (.mov (R.t 5)),
    R.g 7 (.fld 2 (R.t 1)) 6 true,
    R.g 8 (.load1 (R.t 7)) 6 true,
    R.g 9 (.bin .leq .no (R.t 8) (R.i 7)) 6 true,
    R.q 10 (.pick (R.t 6) (R.t 9) R.ff),
    R.q 11 (.mov (R.t 10)),
    R.g 12 (.fld 1 (R.t 1)) 11 true,
    R.g 13 (.load1 (R.t 12)) 11 true,
    R.g 14 (.bin .geq .no (R.t 13) (R.i 0)) 11 true,
    R.q 15 (.pick (R.t 11) (R.t 14) R.ff),
    R.q 16 (.mov (R.t 15)),
    R.g 17 (.fld 1 (R.t 1)) 16 true,
    R.g 18 (.load1 (R.t 17)) 16 true,
    R.g 19 (.bin .leq .no (R.t 18) (R.i 2147483647)) 16 true,
    R.q 20 (.pick (R.t 16) (R.t 19) R.ff),
    R.q 21 (.mov (R.t 20)),
    R.g 22 (.fld 1 (R.t 1)) 21 true,
    R.g 23 (.load1 (R.t 22)) 21 true,
    R.g 24 (.bin .eql .no (R.t 23) (R.i 0)) 21 true,
    R.g 25 (.mov (R.t 24)) 21 true,
    R.g 26 (.fld 0 (R.t 1)) 25 false,
    R.g 27 (.load1 (R.t 26)) 25 false,
    R.g 28 (.call 137 [(R.t 27)]) 25 false,
    R.g 29 (.pick (R.t 25) R.tt (R.t 28)) 21 true,
    R.q 30 (.pick (R.t 21) (R.t 29) R.ff),
    R.q 2 (.mov (R.t 30))])
  .ret))
def acl_mayAce.rs : List RRes := [.tmp 2]
theorem acl_mayAce.of {xs : List AV} {d : Nat} {B : BL} {K : ARes → BL → Prop} (hn : xs.length = 1) (hB : onlyOuter B = true) (h : awp ⟨PT, 31, exitX acl_mayAce.rs K⟩ 10000 [.code acl_mayAce.rc] ⟨params 0 xs, B, .nil⟩) : CallAt PT acl_mayAce xs d B K :=
  call_of_awp 10000 Try.func131 rfl (by kernel_rfl) (by kernel_rfl) (by kernel_rfl) (by rw [hn]; decide) hB h
abbrev acl_perm : Nat := 132
def acl_perm.rc : RC :=
  (.seq (.reg [R.q 3 (.box (R.t 1)),
    R.q 4 (.mov (R.i 0))])
  (.seq (.reg [R.q 6 (.mov (R.t 0)),
    R.q 7 (.mkfn (.func 139) [] [(R.t 3)]),
    R.q 8 (.call 138 [(R.t 6), (R.t 7)]),
    R.q 5 (.mov (R.t 8))])
  (.seq (.seq (.reg [R.q 9 (.mov (R.t 5)),
    R.q 10 (.bin .lss .no (R.t 9) (R.i 0))])
  (.cond (R.t 10)
    (.seq (.reg [R.q 4 (.mov (R.i (-1)))])
    .ret)
    .skip))
  (.seq (.reg [R.q 11 (.mov (R.t 0)),
    R.q 12 (.mov (R.t 5)),
    R.q 13 (.idx 3 (R.t 11) (R.t 12)),
    R.q 14 (.fld 2 (R.t 13)),
    R.q 15 (.load1 (R.t 14)),
    R.q 4 (.mov (R.t 15))])
  .ret))))
def acl_perm.rs : List RRes := [.tmp 4]
theorem acl_perm.of {xs : List AV} {d : Nat} {B : BL} {K : ARes → BL → Prop} (hn : xs.length = 2) (hB : onlyOuter B = true) (h : awp ⟨PT, 16, exitX acl_perm.rs K⟩ 10000 [.code acl_perm.rc] ⟨params 0 xs, B, .nil⟩) : CallAt PT acl_perm xs d B K :=
  call_of_awp 10000 Try.func132 rfl (by kernel_rfl) (by kernel_rfl) (by kernel_rfl) (by rw [hn]; decide) hB h
abbrev strings_Contains : Nat := 136
def strings_Contains.rc : RC :=
  (.seq (.reg [R.q 4 (.mov R.ff)])
  (.seq (.reg [R.q 5 (.mov (R.t 0)),
    R.q 6 (.mov (R.t 1)),
    R.q 7 (.call 144 [(R.t 5), (R.t 6)]),
    R.q 8 (.bin .geq .no (R.t 7) (R.i 0)),
    R.q 4 (.mov (R.t 8))])
  .ret))
def strings_Contains.rs : List RRes := [.tmp 4]
theorem strings_Contains.of {xs : List AV} {d : Nat} {B : BL} {K : ARes → BL → Prop} (hn : xs.length = 2) (hB : onlyOuter B = true) (h : awp ⟨PT, 9, exitX strings_Contains.rs K⟩ 10000 [.code strings_Contains.rc] ⟨params 0 xs, B, .nil⟩) : CallAt PT strings_Contains xs d B K :=
  call_of_awp 10000 Try.func136 rfl (by kernel_rfl) (by kernel_rfl) (by kernel_rfl) (by rw [hn]; decide) hB h
abbrev acl_named : Nat := 137
def acl_named.rc : RC :=
  (.seq (.reg [R.q 2 (.mov R.ff)])
  (.seq (.reg [R.q 3 (.mov (R.t 0)),
    R.q 4 (.bin .eql .no (R.t 3) (R.i 2)),
    R.q 5 (.mov (R.t 4)),
    R.g 6 (.mov (R.t 0)) 5 false,
    R.g 7 (.bin .eql .no (R.t 6) (R.i 4)) 5 false,
    R.q 8 (.pick (R.t 5) R.tt (R.t 7)),
    R.q 2 (.mov (R.t 8))])
  .ret))
def acl_named.rs : List RRes := [.tmp 2]
theorem acl_named.of {xs : List AV} {d : Nat} {B : BL} {K : ARes → BL → Prop} (hn : xs.length = 1) (hB : onlyOuter B = true) (h : awp ⟨PT, 9, exitX acl_named.rs K⟩ 10000 [.code acl_named.rc] ⟨params 0 xs, B, .nil⟩) : CallAt PT acl_named xs d B K :=
  call_of_awp 10000 Try.func137 rfl (by kernel_rfl) (by kernel_rfl) (by kernel_rfl) (by rw [hn]; decide) hB h
abbrev slices_IndexFunc_api_Ace_api_Ace : Nat := 138
def slices_IndexFunc_api_Ace_api_Ace.rc : RC :=
  (.seq (.reg [R.q 4 (.mov (R.i 0))])
  (.seq (.seq (.reg [R.q 6 (.mov (R.t 0)),
    R.q 7 (.len (R.t 6)),
    R.q 8 (.mov (R.i 0))])
  (.block 0 (.loop
     (.seq (.reg [R.q 9 (.bin .lss .no (R.t 8) (R.t 7))])
     (.seq (.cond (R.t 9)
       .skip
       (.exit 0))
     (.seq (.block 1 (.seq (.reg [R.q 10 (.mov (R.t 8)),
        R.q 5 (.mov (R.t 10))])
      (.seq (.reg [R.q 11 (.mov (R.t 1)),
        R.q 12 (.mov (R.t 0)),
        R.q 13 (.mov (R.t 5)),
        R.q 14 (.idx 3 (R.t 12) (R.t 13)),
        R.q 15 (.loadA 3 (R.t 14)),
        R.q 16 (.callv (R.t 11) [(R.t 15)])])
      (.cond (R.t 16)
        (.seq (.reg [R.q 17 (.mov (R.t 5)),
          R.q 4 (.mov (R.t 17))])
        .ret)
        .skip))))
     (.reg [R.q 18 (.bin .add .no (R.t 8) (R.i 1)),
       R.q 8 (.mov (R.t 18))])))))))
  (.seq (.reg [R.q 4 (.mov (R.i (-1)))])
  .ret)))
def slices_IndexFunc_api_Ace_api_Ace.rs : List RRes := [.tmp 4]
theorem slices_IndexFunc_api_Ace_api_Ace.of {xs : List AV} {d : Nat} {B : BL} {K : ARes → BL → Prop} (hn : xs.length = 2) (hB : onlyOuter B = true) (h : awp ⟨PT, 19, exitX slices_IndexFunc_api_Ace_api_Ace.rs K⟩ 10000 [.code slices_IndexFunc_api_Ace_api_Ace.rc] ⟨params 0 xs, B, .nil⟩) : CallAt PT slices_IndexFunc_api_Ace_api_Ace xs d B K :=
  call_of_awp 10000 Try.func138 rfl (by kernel_rfl) (by kernel_rfl) (by kernel_rfl) (by rw [hn]; decide) hB h
abbrev acl_perm_1 : Nat := 139
def acl_perm_1.rc : RC :=
  (.seq (.reg [R.q 2 (.box (R.t 0)),
    R.q 3 (.mov R.ff)])
  (.seq (.reg [R.q 4 (.fld 0 (R.t 2)),
    R.q 5 (.load1 (R.t 4)),
    R.q 6 (.load1 (R.t 1)),
    R.q 7 (.bin .eql .no (R.t 5) (R.t 6)),
    R.q 3 (.mov (R.t 7))])
  .ret))
def acl_perm_1.rs : List RRes := [.tmp 3]
theorem acl_perm_1.of {xs : List AV} {d : Nat} {B : BL} {K : ARes → BL → Prop} (hn : xs.length = 2) (hB : onlyOuter B = true) (h : awp ⟨PT, 8, exitX acl_perm_1.rs K⟩ 10000 [.code acl_perm_1.rc] ⟨params 0 xs, B, .nil⟩) : CallAt PT acl_perm_1 xs d B K :=
  call_of_awp 10000 Try.func139 rfl (by kernel_rfl) (by kernel_rfl) (by kernel_rfl) (by rw [hn]; decide) hB h
abbrev strings_Index : Nat := 144
def strings_Index.rc : RC :=
  (.seq (.reg [R.q 4 (.mov (R.i 0))])
  (.seq (.reg [R.q 5 (.mov (R.t 0)),
    R.q 6 (.mov (R.t 1)),
    R.q 7 (.call 146 [(R.t 5), (R.t 6)]),
    R.q 4 (.mov (R.t 7))])
  .ret))
def strings_Index.rs : List RRes := [.tmp 4]
theorem strings_Index.of {xs : List AV} {d : Nat} {B : BL} {K : ARes → BL → Prop} (hn : xs.length = 2) (hB : onlyOuter B = true) (h : awp ⟨PT, 8, exitX strings_Index.rs K⟩ 10000 [.code strings_Index.rc] ⟨params 0 xs, B, .nil⟩) : CallAt PT strings_Index xs d B K :=
  call_of_awp 10000 Try.func144 rfl (by kernel_rfl) (by kernel_rfl) (by kernel_rfl) (by rw [hn]; decide) hB h
end F
end Go.Proofs.Ytgjlkcdnlndlnaa
/- Which flags may be: walked. -/
namespace Go.Proofs.Ytgjlkcdnlndlnaa
open Go Go.Proofs.Ytgjlkcdnlndlnaa.Sx F
set_option linter.unusedVariables false
set_option linter.unusedSimpArgs false
def wordsF : List (List UInt8) := [[117, 99, 104, 103], [117, 97, 112, 112, 110, 100], [110, 111, 100, 117, 109, 112], [111, 112, 97, 113, 117, 101]]
theorem fnames_c {d : Nat} {K : ARes → BL → Prop} (hr : K (.ret (strs fun _ => wordsF)) .nil) : CallAt PT flags_names [] d .nil K := by
  refine CallAt.res ?_
  refine flags_names.of rfl rfl ?_
  cbv
  refine ⟨_, .ret (y := strs fun _ => wordsF) (.sl rfl fun i hi => ?_), hr⟩
  have hi : i < 4 := hi
  match i, hi with
  | 0, _ => rfl
  | 1, _ => rfl
  | 2, _ => rfl
  | 3, _ => rfl
def mayF (n : Int) : Bool := decide (0 ≤ n) && decide (n < 16)
theorem fmay_c (n : Th Int) {d : Nat} {K : ARes → BL → Prop} (hr : ∀ b : Th Bool, b .o = mayF (n .o) → K (.ret (.bool b)) .nil) : CallAt PT flags_May [.int .i64 n] d .nil K := by
  refine CallAt.res ?_
  refine flags_May.of rfl rfl ?_
  cbv
  refine ⟨fun hc => ?_, fun hc => ?_⟩
  · cbv
    refine fnames_c ?_
    cbv
    refine ⟨fun _ => (by decide : (0 : Int) ≤ zi wordsF.length), ?_⟩
    refine ⟨_, .ret (Same.refl _), hr _ ?_⟩
    have e : IntKind.i64.wrap (1 * 2 ^ min (zi wordsF.length).toNat IntKind.i64.bits) = 16 := by decide
    have h0 : decide (0 ≤ n .o) = true := hc
    show decide (n .o < IntKind.i64.wrap (1 * 2 ^ min (zi wordsF.length).toNat IntKind.i64.bits)) = _
    rw [e, mayF, h0]
    rfl
  · cbv
    have h0 : decide (0 ≤ n .o) = false := hc
    refine ⟨_, .ret (.ff rfl), hr (fun _ => false) ?_⟩
    show false = _
    rw [mayF, h0]
    rfl
end Go.Proofs.Ytgjlkcdnlndlnaa
/- The package right, walked: what each function answers. -/
namespace Go.Proofs.Ytgjlkcdnlndlnaa
open Go Go.Proofs.Ytgjlkcdnlndlnaa.Sx F
def band (a b : Int) : Int := abits .and .i64 a b
def permS (l : List Ace) (t : Int) : Option Int := (l.find? fun a => decide (a.tag = t)).map (·.perm)
def fromMode (m : Int) : List Ace := [⟨1, 0, (band m 511).fdiv (2 ^ 6)⟩, ⟨3, 0, band ((band m 511).fdiv (2 ^ 3)) 7⟩, ⟨6, 0, band (band m 511) 7⟩]
def ofS (m : Meta) : List Ace := if 0 < m.acl.length then m.acl else fromMode m.mode
theorem ixP_find {α : Type} (p : α → Bool) (z : α) (l : List α) : (ixP p l < 0 ∧ l.find? p = none) ∨ (∃ k, ixP p l = zi k ∧ k < l.length ∧ l.find? p = some (l.getD k z)) := by
  induction l with
  | nil => exact .inl ⟨by simp [ixP], rfl⟩
  | cons y r ih =>
    by_cases h : p y = true
    · exact .inr ⟨0, by simp [ixP, h, zi], by simp, by simp [h]⟩
    · rcases ih with ⟨h1, h2⟩ | ⟨k, h1, h2, h3⟩
      · exact .inl ⟨by simp [ixP, h, h1], by simp [h, h2]⟩
      · refine .inr ⟨k + 1, ?_, by simpa using h2, by simp [h, h3]⟩
        simp only [ixP, h, h1, Bool.false_eq_true, if_false]
        unfold zi
        rw [if_neg (by omega)]
        omega
def hasS (w p : Int) : Bool := decide (band p w = w)
end Go.Proofs.Ytgjlkcdnlndlnaa
/- The document's example of the layer right, and what the laws of rights share. -/
namespace Go.Proofs.Ytgjlkcdnlndlnaa
open Go Go.Proofs.Ytgjlkcdnlndlnaa.Sx F
def metaZ : Meta := ⟨0, 0, 0, 0, 0, [], [], [], ⟨0, 0, 0, false, 0⟩, 0⟩
theorem band_le {x y : Int} (h0 : 0 ≤ y) (h1 : y < 4611686018427387904) : 0 ≤ band x y ∧ band x y ≤ y := by
  have hy : (BitVec.ofInt 64 y).toNat = y.toNat := by
    rw [BitVec.toNat_ofInt]
    omega
  have hle : (BitVec.ofInt 64 x &&& BitVec.ofInt 64 y).toNat ≤ y.toNat := by
    rw [BitVec.toNat_and, hy]
    exact Nat.and_le_right
  have he : band x y = IntKind.i64.wrap ((BitVec.ofInt 64 x &&& BitVec.ofInt 64 y).toNat : Int) := rfl
  rw [he, IntKind.wrap_i64]
  omega
end Go.Proofs.Ytgjlkcdnlndlnaa
/- Who asks, by numbers. -/
namespace Go.Proofs.Ytgjlkcdnlndlnaa
open Go Go.Proofs.Ytgjlkcdnlndlnaa.Sx F
end Go.Proofs.Ytgjlkcdnlndlnaa
/- What the laws make by numbers: access lists. -/
namespace Go.Proofs.Ytgjlkcdnlndlnaa
open Go Go.Proofs.Ytgjlkcdnlndlnaa.Sx F
set_option linter.unusedVariables false
set_option linter.unusedSimpArgs false
/-- In order, each Id once. -/
def addS (a : Ace) : List Ace → List Ace
  | [] => [a]
  | x :: r => if x.id < a.id then x :: addS a r else if x.id = a.id then a :: r else a :: x :: r
theorem addS_at (a : Ace) : ∀ (l : List Ace) (k : Nat), k ≤ l.length → (∀ j, j < k → (l.getD j Ace.z).id < a.id) → (k < l.length → ¬ (l.getD k Ace.z).id < a.id) →
    addS a l = l.take k ++ a :: (if k < l.length ∧ (l.getD k Ace.z).id = a.id then l.drop (k + 1) else l.drop k)
  | [], k, hk, _, _ => by simp at hk; subst hk; simp [addS]
  | x :: r, 0, _, _, h => by
    have h := h (by simp)
    simp at h
    simp [addS]
    by_cases he : x.id = a.id <;> simp [he]
    intro q; omega
  | x :: r, k + 1, hk, hj, h => by
    have h0 := hj 0 (by omega)
    have := addS_at a r k (by simpa using hk) (fun j hj' => by simpa using hj (j + 1) (by omega)) (fun q => by simpa using h (by simpa using q))
    simp at h0
    simp [addS, h0, this]
theorem addS_len (a : Ace) : ∀ l : List Ace, (addS a l).length ≤ l.length + 1
  | [] => by simp [addS]
  | x :: r => by
    have := addS_len a r
    unfold addS
    split
    · simp; omega
    · split <;> simp
theorem add_c (l : Th (List Ace)) (a : Th Ace) (hl : (l .o).length ≤ 1000) {d : Nat} {K : ARes → BL → Prop} (hr : ∀ r : Th (List Ace), r .o = addS (a .o) (l .o) → K (.ret (aces r)) .nil) : CallAt PT l9_add [aces l, Ace.av a] d .nil K := by
  refine l9_add.of rfl rfl ?_
  cbv
  refine loop_rule (X := Nat) 1000 [0, 3] [3] (fun k => .cons 5 (.int .i64 fun _ => zi k) .nil) (fun _ => .nil) (fun k => k ≤ (l .o).length ∧ ∀ j, j < k → ((l .o).getD j Ace.z).id < (a .o).id) (fun k => (l .o).length - k) 0 ?_ ⟨Nat.zero_le _, fun j hj => by omega⟩ ?_
  · cbv
    (repeat' (first | exact True.intro | exact Same.refl _ | exact SameB.refl _ | exact ⟨rfl⟩ | exact Same.int rfl | exact Same.str rfl | exact Same.bool rfl | (refine Same.int ?_; simp only [List.length_append, List.length_cons, List.length_nil, zi]; omega) | (refine SameB.row' rfl fun i hi => ?_; first | rfl | exact absurd hi (Nat.not_lt_zero _)) | refine And.intro ?_ ?_ | refine SameB.cells ?_ | exact SameC.nil | refine SameC.cons ?_ ?_ | exact Same.nsl rfl | exact Same.tt rfl | exact Same.ff rfl))
  · intro k hk
    obtain ⟨hk, hj⟩ := hk
    have fin : (k < (l .o).length → ¬ ((l .o).getD k Ace.z).id < (a .o).id) → addS (a .o) (l .o) = (l .o).take k ++ (a .o) :: (if k < (l .o).length ∧ ((l .o).getD k Ace.z).id = (a .o).id then (l .o).drop (k + 1) else (l .o).drop k) := addS_at _ _ k hk hj
    cbv
    ((try refine br_rev ?_); (first | refine br_dec (fun h1 => ?_) (fun h1 => ?_) | refine br_ndec (fun h1 => ?_) (fun h1 => ?_) | refine br_nbool (fun h1 => ?_) (fun h1 => ?_) | refine br_bool (fun h1 => ?_) (fun h1 => ?_)); all_goals (try dsimp only at h1); all_goals (try with_reducible replace h1 := zi_lt.1 h1); all_goals (try with_reducible replace h1 := not_zlt h1)) <;> cbv
    focus (refine safe ⟨zi_nonneg _, zi_lt.2 (by omega)⟩ ?_; cbv; ((try refine br_rev ?_); (first | refine br_dec (fun h2 => ?_) (fun h2 => ?_) | refine br_ndec (fun h2 => ?_) (fun h2 => ?_) | refine br_nbool (fun h2 => ?_) (fun h2 => ?_) | refine br_bool (fun h2 => ?_) (fun h2 => ?_)); all_goals (try dsimp only at h2); all_goals (try with_reducible replace h2 := zi_lt.1 h2); all_goals (try with_reducible replace h2 := not_zlt h2)) <;> cbv)
    · refine ⟨k + 1, ⟨h1, fun j hj' => ?_⟩, by omega, ?_⟩
      · by_cases he : j = k
        · subst he; exact h2
        · exact hj j (by omega)
      · cbv
        rw [zi_succ (by omega)]
        (repeat' (first | exact True.intro | exact Same.refl _ | exact SameB.refl _ | exact ⟨rfl⟩ | exact Same.int rfl | exact Same.str rfl | exact Same.bool rfl | (refine Same.int ?_; simp only [List.length_append, List.length_cons, List.length_nil, zi]; omega) | (refine SameB.row' rfl fun i hi => ?_; first | rfl | exact absurd hi (Nat.not_lt_zero _)) | refine And.intro ?_ ?_ | refine SameB.cells ?_ | exact SameC.nil | refine SameC.cons ?_ ?_ | exact Same.nsl rfl | exact Same.tt rfl | exact Same.ff rfl))
    focus (replace fin := fin fun _ => h2)
    rotate_left
    focus (replace fin := fin fun q => by omega)
    all_goals
      refine safe ⟨zi_nonneg _, zi_le.2 hk, Int.le_refl _⟩ ?_
      refine app_rows0 Ace.ch Ace.z ((l .o).drop k) rfl (by simp [zi]) (fun i hi => by simp only [getD_drop]; rfl) (by simp only [List.length_drop]; omega) ?_
      cbv
      ((try refine br_rev ?_); (first | refine br_dec (fun h3 => ?_) (fun h3 => ?_) | refine br_ndec (fun h3 => ?_) (fun h3 => ?_) | refine br_nbool (fun h3 => ?_) (fun h3 => ?_) | refine br_bool (fun h3 => ?_) (fun h3 => ?_)); all_goals (try dsimp only at h3); all_goals (try with_reducible replace h3 := zi_lt.1 h3); all_goals (try with_reducible replace h3 := not_zlt h3))
    all_goals cbv
    all_goals try (have h3' : 0 < ((l .o).drop k).length := zi_lt.1 h3; refine safe ⟨Int.le_refl _, h3⟩ ?_; refine safe h3' ?_; cbv; ((try refine br_rev ?_); (first | refine br_dec (fun h4 => ?_) (fun h4 => ?_) | refine br_ndec (fun h4 => ?_) (fun h4 => ?_) | refine br_nbool (fun h4 => ?_) (fun h4 => ?_) | refine br_bool (fun h4 => ?_) (fun h4 => ?_)); all_goals (try dsimp only at h4); all_goals (try with_reducible replace h4 := zi_lt.1 h4); all_goals (try with_reducible replace h4 := not_zlt h4)))
    all_goals cbv
    all_goals have htk : ((l .o).take k).length = k := by rw [List.length_take]; omega
    all_goals try refine safe ⟨by decide, zi_le.2 h3', Int.le_refl _⟩ ?_
    all_goals
      refine safe ⟨Int.le_refl _, zi_nonneg _, zi_le.2 hk⟩ ?_
      refine app_rows0 Ace.ch Ace.z ((l .o).take k) rfl (by rw [htk]; simp [zi]) (fun i hi => by rw [htk] at hi; simp only [getD_take _ _ _ _ hi]; exact congrArg (fun j => Ace.ch fun _ => (l .o).getD j Ace.z) (by simp)) (by rw [htk]; omega) ?_
      cbv
      refine app_one Ace.ch Ace.z _ (a .o) rfl (fun i hi => rfl) rfl rfl (by rw [htk]; omega) ?_
      cbv
    all_goals first
      | (refine app_rows Ace.ch Ace.z ((l .o).take k ++ [a .o]) ((l .o).drop k) rfl (fun i hi => rfl) rfl (fun i hi => rfl) (by rw [List.length_append, htk, List.length_drop]; simp only [List.length_cons, List.length_nil]; omega) ?_
         cbv
         exact hr (fun _ => (l .o).take k ++ [a .o] ++ (l .o).drop k) (by
           rw [fin, if_neg (by
             rintro ⟨q1, q2⟩
             first
             | exact h4 (by simpa [getD_drop] using q2)
             | exact h3 ((zi_lt (a := 0)).2 (by rw [List.length_drop]; omega)))]
           simp)
         done)
      | (refine app_rows Ace.ch Ace.z ((l .o).take k ++ [a .o]) ((l .o).drop (k + 1)) rfl (fun i hi => rfl) (by simp [zi]; omega) (fun i hi => by simp only [getD_drop]; exact congrArg (fun j => Ace.ch fun _ => (l .o).getD j Ace.z) (by simp [Nat.add_assoc])) (by simp only [List.length_append, htk, List.length_drop, List.length_cons, List.length_nil]; omega) ?_
         cbv
         exact hr (fun _ => (l .o).take k ++ [a .o] ++ (l .o).drop (k + 1)) (by
           rw [fin, if_pos ⟨by rw [List.length_drop] at h3'; omega, by simpa [getD_drop] using h4⟩]
           simp)
         done)
theorem add_c' (l : Th (List Ace)) (a : Th Ace) (hl : (l .o).length ≤ 1000) {d : Nat} {K : ARes → BL → Prop} (hr : K (.ret (aces fun _ => addS (a .o) (l .o))) .nil) : CallAt PT l9_add [aces l, Ace.av a] d .nil K :=
  add_c l a hl fun r hr' => by
    have : r = fun _ => addS (a .o) (l .o) := funext fun | .o => hr'
    subst this
    exact hr
/-- Users and groups out of the first k pairs. -/
def accS (ns : List Int) : Nat → List Ace × List Ace
  | 0 => ([], [])
  | k + 1 =>
    if (ns.getD (2 * k) 0).tmod 2 = 0 then (addS ⟨2, (ns.getD (2 * k) 0).tdiv 2, (ns.getD (2 * k + 1) 0).tmod 8⟩ (accS ns k).1, (accS ns k).2)
    else ((accS ns k).1, addS ⟨4, (ns.getD (2 * k) 0).tdiv 2, (ns.getD (2 * k + 1) 0).tmod 8⟩ (accS ns k).2)
theorem accS_len (ns : List Int) : ∀ k, (accS ns k).1.length ≤ k ∧ (accS ns k).2.length ≤ k
  | 0 => by simp [accS]
  | k + 1 => by
    have := accS_len ns k
    unfold accS
    split
    · have := addS_len ⟨2, (ns.getD (2 * k) 0).tdiv 2, (ns.getD (2 * k + 1) 0).tmod 8⟩ (accS ns k).1
      dsimp only; omega
    · have := addS_len ⟨4, (ns.getD (2 * k) 0).tdiv 2, (ns.getD (2 * k + 1) 0).tmod 8⟩ (accS ns k).2
      dsimp only; omega
def pairs (ns : List Int) : Nat := min 6 (ns.length / 2)
def bxor (a b : Int) : Int := abits .xor .i64 a b
def l9S (ns : List Int) (m : Int) : List Ace :=
  let u := (accS ns (pairs ns)).1
  let g := (accS ns (pairs ns)).2
  if u.length + g.length = 0 then [⟨1, 0, band (m.fdiv (2 ^ 6)) 7⟩] ++ u ++ [⟨3, 0, band (m.fdiv (2 ^ 3)) 7⟩, ⟨6, 0, band m 7⟩]
  else [⟨1, 0, band (m.fdiv (2 ^ 6)) 7⟩] ++ u ++ [⟨3, 0, bxor (band (m.fdiv (2 ^ 3)) 7) ((ns.getD 0 0).tmod 8)⟩] ++ g ++ [⟨5, 0, band (m.fdiv (2 ^ 3)) 7⟩, ⟨6, 0, band m 7⟩]
theorem l9_c (ns : Th (List Int)) (m : Th Int) (hns : isBytes (ns .o)) (hs : short (ns .o)) {d : Nat} {K : ARes → BL → Prop} (hr : ∀ r : Th (List Ace), r .o = l9S (ns .o) (m .o) → K (.ret (aces r)) .nil) : CallAt PT l9_Make [byteI ns, .int .i64 m] d .nil K := by
  refine l9_Make.of rfl rfl ?_
  (cbv; repeat (refine safe (by first | decide | (simp only [zi] at *; omega) | assumption | (dsimp only; omega) | (dsimp only at *; simp only [List.length_append, List.length_cons, List.length_nil, zi] at *; omega)) ?_; cbv))
  refine loop_rule (X := Nat) 1000 [0, 5, 6, 7] [] (fun k => .cons 8 (aces fun _ => (accS (ns .o) k).1) (.cons 9 (aces fun _ => (accS (ns .o) k).2) (.cons 10 (.int .i64 fun _ => zi (2 * k)) .nil))) (fun _ => .nil) (fun k => k ≤ pairs (ns .o)) (fun k => 6 - k) 0 ?_ (Nat.zero_le _) ?_
  · cbv
    (repeat' (first | exact True.intro | exact Same.refl _ | exact SameB.refl _ | exact ⟨rfl⟩ | exact Same.int rfl | exact Same.str rfl | exact Same.bool rfl | (refine Same.int ?_; simp only [List.length_append, List.length_cons, List.length_nil, zi]; omega) | (refine SameB.row' rfl fun i hi => ?_; first | rfl | exact absurd hi (Nat.not_lt_zero _)) | refine And.intro ?_ ?_ | refine SameB.cells ?_ | exact SameC.nil | refine SameC.cons ?_ ?_ | exact Same.nsl rfl | exact Same.tt rfl | exact Same.ff rfl))
    all_goals exact Same.nsl rfl
  · intro k hk
    have hp : pairs (ns .o) = min 6 ((ns .o).length / 2) := rfl
    have hl := accS_len (ns .o) k
    unfold short at hs
    have hsucc : IntKind.i64.wrap (zi (2 * k) + 1) = zi (2 * k + 1) := zi_succ (by omega)
    cbv
    rw [hsucc]
    ((try refine br_rev ?_); (first | refine br_dec (fun h1 => ?_) (fun h1 => ?_) | refine br_ndec (fun h1 => ?_) (fun h1 => ?_) | refine br_nbool (fun h1 => ?_) (fun h1 => ?_) | refine br_bool (fun h1 => ?_) (fun h1 => ?_)); all_goals (try dsimp only at h1); all_goals (try with_reducible replace h1 := zi_lt.1 h1); all_goals (try with_reducible replace h1 := not_zlt h1)) <;> cbv
    all_goals try (((try refine br_rev ?_); (first | refine br_dec (fun h2 => ?_) (fun h2 => ?_) | refine br_ndec (fun h2 => ?_) (fun h2 => ?_) | refine br_nbool (fun h2 => ?_) (fun h2 => ?_) | refine br_bool (fun h2 => ?_) (fun h2 => ?_)); all_goals (try dsimp only at h2); all_goals (try with_reducible replace h2 := zi_lt.1 h2); all_goals (try with_reducible replace h2 := not_zlt h2)); replace h2 : 2 * k < 12 := h2; rotate_left; replace h2 : 12 ≤ 2 * k := h2; rotate_left)
    all_goals cbv
    focus
      refine safe ⟨zi_nonneg _, zi_lt.2 (by omega)⟩ ?_
      refine safe (by decide) ?_
      refine safe (by rw [hsucc]; exact ⟨zi_nonneg _, zi_lt.2 h1⟩) ?_
      refine safe (by decide) ?_
      refine safe ⟨zi_nonneg _, zi_lt.2 (by omega)⟩ ?_
      refine safe (by decide) ?_
      rw [hsucc]
      have hb : ∀ j, IntKind.i64.wrap ((ns .o).getD j 0) = (ns .o).getD j 0 := fun j => wrap_byte (byte_at hns)
      have hq : ∀ j, IntKind.i64.wrap (((ns .o).getD j 0).tdiv 2) = ((ns .o).getD j 0).tdiv 2 := fun j => wrap_byte (by
        have := byte_at hns (k := j)
        rw [Int.tdiv_eq_ediv_of_nonneg this.1]
        omega)
      ((try refine br_rev ?_); (first | refine br_dec (fun h3 => ?_) (fun h3 => ?_) | refine br_ndec (fun h3 => ?_) (fun h3 => ?_) | refine br_nbool (fun h3 => ?_) (fun h3 => ?_) | refine br_bool (fun h3 => ?_) (fun h3 => ?_)); all_goals (try dsimp only at h3); all_goals (try with_reducible replace h3 := zi_lt.1 h3); all_goals (try with_reducible replace h3 := not_zlt h3)) <;> cbv
      · rw [zi_toNat] at h3
        refine add_c' (fun _ => (accS (ns .o) k).1) (fun _ => ⟨2, IntKind.i64.wrap ((IntKind.i64.wrap ((ns .o).getD (zi (2 * k)).toNat 0)).tdiv 2), (IntKind.i64.wrap ((ns .o).getD (zi (2 * k + 1)).toNat 0)).tmod 8⟩) (by omega) ?_
        cbv
        have e : accS (ns .o) (k + 1) = (addS ⟨2, ((ns .o).getD (2 * k) 0).tdiv 2, ((ns .o).getD (2 * k + 1) 0).tmod 8⟩ (accS (ns .o) k).1, (accS (ns .o) k).2) := by
          rw [accS, if_pos h3]
        refine ⟨k + 1, by omega, by omega, ?_⟩
        cbv
        rw [e]
        dsimp only
        rw [zi_toNat, zi_toNat, hb, hb, hq]
        (repeat' (first | exact True.intro | exact Same.refl _ | exact SameB.refl _ | exact ⟨rfl⟩ | exact Same.int rfl | exact Same.str rfl | exact Same.bool rfl | (refine Same.int ?_; simp only [List.length_append, List.length_cons, List.length_nil, zi]; omega) | (refine SameB.row' rfl fun i hi => ?_; first | rfl | exact absurd hi (Nat.not_lt_zero _)) | refine And.intro ?_ ?_ | refine SameB.cells ?_ | exact SameC.nil | refine SameC.cons ?_ ?_ | exact Same.nsl rfl | exact Same.tt rfl | exact Same.ff rfl))
        exact Same.int (by rw [IntKind.wrap_i64]; unfold zi; omega)
      · rw [zi_toNat] at h3
        refine add_c' (fun _ => (accS (ns .o) k).2) (fun _ => ⟨4, IntKind.i64.wrap ((IntKind.i64.wrap ((ns .o).getD (zi (2 * k)).toNat 0)).tdiv 2), (IntKind.i64.wrap ((ns .o).getD (zi (2 * k + 1)).toNat 0)).tmod 8⟩) (by omega) ?_
        cbv
        have e : accS (ns .o) (k + 1) = ((accS (ns .o) k).1, addS ⟨4, ((ns .o).getD (2 * k) 0).tdiv 2, ((ns .o).getD (2 * k + 1) 0).tmod 8⟩ (accS (ns .o) k).2) := by
          rw [accS, if_neg h3]
        refine ⟨k + 1, by omega, by omega, ?_⟩
        cbv
        rw [e]
        dsimp only
        rw [zi_toNat, zi_toNat, hb, hb, hq]
        (repeat' (first | exact True.intro | exact Same.refl _ | exact SameB.refl _ | exact ⟨rfl⟩ | exact Same.int rfl | exact Same.str rfl | exact Same.bool rfl | (refine Same.int ?_; simp only [List.length_append, List.length_cons, List.length_nil, zi]; omega) | (refine SameB.row' rfl fun i hi => ?_; first | rfl | exact absurd hi (Nat.not_lt_zero _)) | refine And.intro ?_ ?_ | refine SameB.cells ?_ | exact SameC.nil | refine SameC.cons ?_ ?_ | exact Same.nsl rfl | exact Same.tt rfl | exact Same.ff rfl))
        exact Same.int (by rw [IntKind.wrap_i64]; unfold zi; omega)
    all_goals
      have hk6 : k = pairs (ns .o) := by omega
      refine app_rows Ace.ch Ace.z [⟨1, 0, band ((m .o).fdiv (2 ^ 6)) 7⟩] (accS (ns .o) k).1 rfl (fun i hi => by
        have : i = 0 := by simpa using hi
        subst this
        rfl) rfl (fun i hi => rfl) (by simp only [List.length_cons, List.length_nil]; omega) ?_
      cbv
      have hsum : IntKind.i64.wrap (zi (accS (ns .o) k).1.length + zi (accS (ns .o) k).2.length) = zi ((accS (ns .o) k).1.length + (accS (ns .o) k).2.length) := by rw [IntKind.wrap_i64]; unfold zi; omega
      rw [hsum]
      ((try refine br_rev ?_); (first | refine br_dec (fun h3 => ?_) (fun h3 => ?_) | refine br_ndec (fun h3 => ?_) (fun h3 => ?_) | refine br_nbool (fun h3 => ?_) (fun h3 => ?_) | refine br_bool (fun h3 => ?_) (fun h3 => ?_)); all_goals (try dsimp only at h3); all_goals (try with_reducible replace h3 := zi_lt.1 h3); all_goals (try with_reducible replace h3 := not_zlt h3)) <;> cbv
    all_goals first
      | (refine app_rows Ace.ch Ace.z ([⟨1, 0, band ((m .o).fdiv (2 ^ 6)) 7⟩] ++ (accS (ns .o) k).1) [⟨3, 0, band ((m .o).fdiv (2 ^ 3)) 7⟩, ⟨6, 0, band (m .o) 7⟩] rfl (fun i hi => rfl) rfl (fun i hi => by
           have hi : i < 2 := hi
           match i, hi with
           | 0, _ => rfl
           | 1, _ => rfl) (by simp only [List.length_append, List.length_cons, List.length_nil]; omega) ?_
         cbv
         exact hr (fun _ => _) (by
           have h3' : (accS (ns .o) (pairs (ns .o))).1.length + (accS (ns .o) (pairs (ns .o))).2.length = 0 := by rw [← hk6]; exact zi_inj.1 h3
           unfold l9S
           dsimp only
           rw [if_pos h3', ← hk6])
         done)
      | (have h3' : ¬ (accS (ns .o) (pairs (ns .o))).1.length + (accS (ns .o) (pairs (ns .o))).2.length = 0 := by rw [← hk6]; exact fun q => h3 (zi_inj.2 q)
         have hpos : 0 < (ns .o).length := by
           rw [← hk6] at h3'
           omega
         refine safe ⟨Int.le_refl _, (zi_lt (a := 0)).2 hpos⟩ ?_
         refine safe (by decide) ?_
         rw [wrap_byte (byte_at hns (k := (0 : Int).toNat))]
         refine app_one Ace.ch Ace.z ([⟨1, 0, band ((m .o).fdiv (2 ^ 6)) 7⟩] ++ (accS (ns .o) k).1) ⟨3, 0, bxor (band ((m .o).fdiv (2 ^ 3)) 7) (((ns .o).getD 0 0).tmod 8)⟩ rfl (fun i hi => rfl) rfl rfl (by simp only [List.length_append, List.length_cons, List.length_nil]; omega) ?_
         cbv
         refine app_rows Ace.ch Ace.z _ (accS (ns .o) k).2 rfl (fun i hi => rfl) rfl (fun i hi => rfl) (by simp only [List.length_append, List.length_cons, List.length_nil]; omega) ?_
         cbv
         refine app_rows Ace.ch Ace.z _ [⟨5, 0, band ((m .o).fdiv (2 ^ 3)) 7⟩, ⟨6, 0, band (m .o) 7⟩] rfl (fun i hi => rfl) rfl (fun i hi => by
           have hi : i < 2 := hi
           match i, hi with
           | 0, _ => rfl
           | 1, _ => rfl) (by simp only [List.length_append, List.length_cons, List.length_nil]; omega) ?_
         cbv
         exact hr (fun _ => _) (by
           unfold l9S
           dsimp only
           rw [if_neg h3', ← hk6])
         done)
end Go.Proofs.Ytgjlkcdnlndlnaa
/- What the laws make by numbers: names with values. -/
namespace Go.Proofs.Ytgjlkcdnlndlnaa
open Go Go.Proofs.Ytgjlkcdnlndlnaa.Sx F
set_option linter.unusedVariables false
set_option linter.unusedSimpArgs false
theorem lt_irr : ∀ a : List UInt8, strLt a a = false
  | [] => rfl
  | x :: r => by
    have := lt_irr r
    unfold strLt at *
    simp [Op.bytesLess, this]
theorem lt_trans' : ∀ {a b c : List UInt8}, strLt a b = true → strLt b c = true → strLt a c = true
  | _, _, [], _, h => by unfold strLt at h; simp [Op.bytesLess] at h
  | _, [], _ :: _, h, _ => by unfold strLt at h; simp [Op.bytesLess] at h
  | [], _ :: _, _ :: _, _, _ => rfl
  | x :: a, y :: b, z :: c, h, k => by
    have ih := @lt_trans' a b c
    unfold strLt at *
    simp only [Op.bytesLess, Bool.or_eq_true, Bool.and_eq_true, decide_eq_true_eq, beq_iff_eq] at *
    rcases h with h | ⟨rfl, h⟩
    · rcases k with k | ⟨rfl, k⟩
      · exact .inl (UInt8.lt_trans h k)
      · exact .inl h
    · rcases k with k | ⟨rfl, k⟩
      · exact .inl k
      · exact .inr ⟨rfl, ih h k⟩
theorem lt_tri : ∀ {a b : List UInt8}, strLt a b = false → a ≠ b → strLt b a = true
  | [], [], _, h => (h rfl).elim
  | [], _ :: _, h, _ => by unfold strLt at h; simp [Op.bytesLess] at h
  | _ :: _, [], _, _ => rfl
  | x :: a, y :: b, h, k => by
    have ih := @lt_tri a b
    unfold strLt at *
    simp only [Op.bytesLess, Bool.or_eq_true, Bool.and_eq_true, decide_eq_true_eq, beq_iff_eq, Bool.or_eq_false_iff, decide_eq_false_iff_not] at *
    rcases Nat.lt_trichotomy x.toNat y.toNat with q | q | q
    · exact (h.1 (UInt8.lt_iff_toNat_lt.2 q)).elim
    · obtain rfl : x = y := UInt8.toNat_inj.1 q
      simp only [beq_self_eq_true, Bool.true_and] at h
      exact .inr ⟨rfl, ih h.2 fun e => k (by rw [e])⟩
    · exact .inl (UInt8.lt_iff_toNat_lt.2 q)
def ltX (x y : Xattr) : Prop := strLt x.name y.name = true
/-- In order, each name once. -/
def addX (a : Xattr) : List Xattr → List Xattr
  | [] => [a]
  | x :: r => if strLt x.name a.name = true then x :: addX a r else if x.name = a.name then a :: r else a :: x :: r
theorem addX_at (a : Xattr) : ∀ (l : List Xattr) (k : Nat), k ≤ l.length → (∀ j, j < k → strLt (l.getD j Xattr.z).name a.name = true) → (k < l.length → ¬ strLt (l.getD k Xattr.z).name a.name = true) →
    addX a l = l.take k ++ a :: (if k < l.length ∧ (l.getD k Xattr.z).name = a.name then l.drop (k + 1) else l.drop k)
  | [], k, hk, _, _ => by simp at hk; subst hk; simp [addX]
  | x :: r, 0, _, _, h => by
    have h := h (by simp)
    simp at h
    simp [addX]
    by_cases he : x.name = a.name
    · simp [he, lt_irr]
    · simp [h, he]
  | x :: r, k + 1, hk, hj, h => by
    have h0 := hj 0 (by omega)
    have := addX_at a r k (by simpa using hk) (fun j hj' => by simpa using hj (j + 1) (by omega)) (fun q => by simpa using h (by simpa using q))
    simp at h0
    simp [addX, h0, this]
theorem addX_mem {a x : Xattr} : ∀ {l : List Xattr}, x ∈ addX a l → x = a ∨ x ∈ l
  | [], h => by simp [addX] at h; exact .inl h
  | y :: r, h => by
    unfold addX at h
    split at h
    · rcases List.mem_cons.1 h with h | h
      · exact .inr (by simp [h])
      · rcases addX_mem h with h | h
        · exact .inl h
        · exact .inr (by simp [h])
    · split at h
      · rcases List.mem_cons.1 h with h | h
        · exact .inl h
        · exact .inr (by simp [h])
      · rcases List.mem_cons.1 h with h | h
        · exact .inl h
        · exact .inr h
theorem addX_up (a : Xattr) : ∀ l : List Xattr, l.Pairwise ltX → (addX a l).Pairwise ltX
  | [], _ => by simp [addX]
  | x :: r, h => by
    obtain ⟨h1, h2⟩ := List.pairwise_cons.1 h
    unfold addX
    split
    · rename_i hlt
      refine List.pairwise_cons.2 ⟨fun y hy => ?_, addX_up a r h2⟩
      rcases addX_mem hy with rfl | hy
      · exact hlt
      · exact h1 y hy
    · rename_i hlt
      split
      · rename_i he
        exact List.pairwise_cons.2 ⟨fun y hy => by unfold ltX; rw [← he]; exact h1 y hy, h2⟩
      · rename_i hne
        have ha : ltX a x := lt_tri (by simpa using hlt) hne
        refine List.pairwise_cons.2 ⟨fun y hy => ?_, h⟩
        rcases List.mem_cons.1 hy with rfl | hy
        · exact ha
        · exact lt_trans' ha (h1 y hy)
theorem addX_len (a : Xattr) : ∀ l : List Xattr, (addX a l).length ≤ l.length + 1
  | [] => by simp [addX]
  | x :: r => by
    have := addX_len a r
    unfold addX
    split
    · simp; omega
    · split <;> simp
theorem addxs_c (l : Th (List Xattr)) (a : Th Xattr) (hl : (l .o).length ≤ 1000) {d : Nat} {K : ARes → BL → Prop} (hr : ∀ r : Th (List Xattr), r .o = addX (a .o) (l .o) → K (.ret (xattrs r)) .nil) : CallAt PT l13_add [xattrs l, Xattr.av a] d .nil K := by
  refine l13_add.of rfl rfl ?_
  cbv
  refine loop_rule (X := Nat) 1000 [0, 3] [3] (fun k => .cons 5 (.int .i64 fun _ => zi k) .nil) (fun _ => .nil) (fun k => k ≤ (l .o).length ∧ ∀ j, j < k → strLt ((l .o).getD j Xattr.z).name (a .o).name = true) (fun k => (l .o).length - k) 0 ?_ ⟨Nat.zero_le _, fun j hj => by omega⟩ ?_
  · cbv
    (repeat' (first | exact True.intro | exact Same.refl _ | exact SameB.refl _ | exact ⟨rfl⟩ | exact Same.int rfl | exact Same.str rfl | exact Same.bool rfl | (refine Same.int ?_; simp only [List.length_append, List.length_cons, List.length_nil, zi]; omega) | (refine SameB.row' rfl fun i hi => ?_; first | rfl | exact absurd hi (Nat.not_lt_zero _)) | refine And.intro ?_ ?_ | refine SameB.cells ?_ | exact SameC.nil | refine SameC.cons ?_ ?_ | exact Same.nsl rfl | exact Same.tt rfl | exact Same.ff rfl))
  · intro k hk
    obtain ⟨hk, hj⟩ := hk
    have fin : (k < (l .o).length → ¬ strLt ((l .o).getD k Xattr.z).name (a .o).name = true) → addX (a .o) (l .o) = (l .o).take k ++ (a .o) :: (if k < (l .o).length ∧ ((l .o).getD k Xattr.z).name = (a .o).name then (l .o).drop (k + 1) else (l .o).drop k) := addX_at _ _ k hk hj
    have hz := zi_toNat k
    cbv
    ((try refine br_rev ?_); (first | refine br_dec (fun h1 => ?_) (fun h1 => ?_) | refine br_ndec (fun h1 => ?_) (fun h1 => ?_) | refine br_nbool (fun h1 => ?_) (fun h1 => ?_) | refine br_bool (fun h1 => ?_) (fun h1 => ?_)); all_goals (try dsimp only at h1); all_goals (try with_reducible replace h1 := zi_lt.1 h1); all_goals (try with_reducible replace h1 := not_zlt h1)) <;> cbv
    focus (refine safe ⟨zi_nonneg _, zi_lt.2 (by omega)⟩ ?_; cbv; ((try refine br_rev ?_); (first | refine br_dec (fun h2 => ?_) (fun h2 => ?_) | refine br_ndec (fun h2 => ?_) (fun h2 => ?_) | refine br_nbool (fun h2 => ?_) (fun h2 => ?_) | refine br_bool (fun h2 => ?_) (fun h2 => ?_)); all_goals (try dsimp only at h2); all_goals (try with_reducible replace h2 := zi_lt.1 h2); all_goals (try with_reducible replace h2 := not_zlt h2)) <;> cbv)
    · rw [hz] at h2
      refine ⟨k + 1, ⟨h1, fun j hj' => ?_⟩, by omega, ?_⟩
      · by_cases he : j = k
        · subst he; exact h2
        · exact hj j (by omega)
      · cbv
        rw [zi_succ (by omega)]
        (repeat' (first | exact True.intro | exact Same.refl _ | exact SameB.refl _ | exact ⟨rfl⟩ | exact Same.int rfl | exact Same.str rfl | exact Same.bool rfl | (refine Same.int ?_; simp only [List.length_append, List.length_cons, List.length_nil, zi]; omega) | (refine SameB.row' rfl fun i hi => ?_; first | rfl | exact absurd hi (Nat.not_lt_zero _)) | refine And.intro ?_ ?_ | refine SameB.cells ?_ | exact SameC.nil | refine SameC.cons ?_ ?_ | exact Same.nsl rfl | exact Same.tt rfl | exact Same.ff rfl))
    focus (rw [hz] at h2; replace fin := fin fun _ => by rw [h2]; decide)
    rotate_left
    focus (replace fin := fin fun q => by omega)
    all_goals
      refine safe ⟨zi_nonneg _, zi_le.2 hk, Int.le_refl _⟩ ?_
      refine app_rows0 Xattr.ch Xattr.z ((l .o).drop k) rfl (by simp [zi]) (fun i hi => by simp only [getD_drop]; rfl) (by simp only [List.length_drop]; omega) ?_
      cbv
      ((try refine br_rev ?_); (first | refine br_dec (fun h3 => ?_) (fun h3 => ?_) | refine br_ndec (fun h3 => ?_) (fun h3 => ?_) | refine br_nbool (fun h3 => ?_) (fun h3 => ?_) | refine br_bool (fun h3 => ?_) (fun h3 => ?_)); all_goals (try dsimp only at h3); all_goals (try with_reducible replace h3 := zi_lt.1 h3); all_goals (try with_reducible replace h3 := not_zlt h3))
    all_goals cbv
    all_goals try (have h3' : 0 < ((l .o).drop k).length := zi_lt.1 h3; refine safe ⟨Int.le_refl _, h3⟩ ?_; refine safe h3' ?_; cbv; ((try refine br_rev ?_); (first | refine br_dec (fun h4 => ?_) (fun h4 => ?_) | refine br_ndec (fun h4 => ?_) (fun h4 => ?_) | refine br_nbool (fun h4 => ?_) (fun h4 => ?_) | refine br_bool (fun h4 => ?_) (fun h4 => ?_)); all_goals (try dsimp only at h4); all_goals (try with_reducible replace h4 := zi_lt.1 h4); all_goals (try with_reducible replace h4 := not_zlt h4)))
    all_goals cbv
    all_goals have htk : ((l .o).take k).length = k := by rw [List.length_take]; omega
    all_goals try refine safe ⟨by decide, zi_le.2 h3', Int.le_refl _⟩ ?_
    all_goals
      refine safe ⟨Int.le_refl _, zi_nonneg _, zi_le.2 hk⟩ ?_
      refine app_rows0 Xattr.ch Xattr.z ((l .o).take k) rfl (by rw [htk]; simp [zi]) (fun i hi => by rw [htk] at hi; simp only [getD_take _ _ _ _ hi]; exact congrArg (fun j => Xattr.ch fun _ => (l .o).getD j Xattr.z) (by simp)) (by rw [htk]; omega) ?_
      cbv
      refine app_one Xattr.ch Xattr.z _ (a .o) rfl (fun i hi => rfl) rfl rfl (by rw [htk]; omega) ?_
      cbv
    all_goals first
      | (refine app_rows Xattr.ch Xattr.z ((l .o).take k ++ [a .o]) ((l .o).drop k) rfl (fun i hi => rfl) rfl (fun i hi => rfl) (by rw [List.length_append, htk, List.length_drop]; simp only [List.length_cons, List.length_nil]; omega) ?_
         cbv
         exact hr (fun _ => (l .o).take k ++ [a .o] ++ (l .o).drop k) (by
           rw [fin, if_neg (by
             rintro ⟨q1, q2⟩
             first
             | exact h4 (by simpa [getD_drop] using q2)
             | exact h3 ((zi_lt (a := 0)).2 (by rw [List.length_drop]; omega)))]
           simp)
         done)
      | (refine app_rows Xattr.ch Xattr.z ((l .o).take k ++ [a .o]) ((l .o).drop (k + 1)) rfl (fun i hi => rfl) (by simp [zi]; omega) (fun i hi => by simp only [getD_drop]; exact congrArg (fun j => Xattr.ch fun _ => (l .o).getD j Xattr.z) (by simp [Nat.add_assoc])) (by simp only [List.length_append, htk, List.length_drop, List.length_cons, List.length_nil]; omega) ?_
         cbv
         exact hr (fun _ => (l .o).take k ++ [a .o] ++ (l .o).drop (k + 1)) (by
           rw [fin, if_pos ⟨by rw [List.length_drop] at h3'; omega, by simpa [getD_drop] using h4⟩]
           simp)
         done)
def byteCh (a : Th Int) : AV := .cons (.int .u8 a) .nil
theorem getD_all {α : Type} {p : α → Prop} {z : α} (hz : p z) : ∀ (l : List α) (n : Nat), (∀ x ∈ l, p x) → p (l.getD n z)
  | [], _, _ => by simpa using hz
  | x :: r, 0, h => by simpa using h x (by simp)
  | x :: r, n + 1, h => by simpa using getD_all hz r n fun y hy => h y (by simp [hy])
theorem bytesN_len (n : Nat) (g : Th Nat → AV) : (bytesN n g).length = n := by simp [bytesN]
/-- Of few bytes, none of which is nought. -/
def MadeX (x : Xattr) : Prop := x.name.length ≤ 11 ∧ x.name ≠ [] ∧ ¬ (0 : UInt8) ∈ x.name ∧ x.value.length ≤ 19
structure MadeXs (l : List Xattr) : Prop where
  made : ∀ x ∈ l, MadeX x
  up : l.Pairwise ltX
  len : l.length ≤ 6
theorem MadeXs.add {l : List Xattr} {x : Xattr} (h : MadeXs l) (hx : MadeX x) (hl : l.length < 6) : MadeXs (addX x l) :=
  ⟨fun y hy => by rcases addX_mem hy with rfl | hy; exact hx; exact h.made y hy, addX_up x l h.up, by have := addX_len x l; omega⟩
theorem MadeXs.nil : MadeXs [] := ⟨fun x hx => (by cases hx), List.Pairwise.nil, by decide⟩
theorem two_bytes {g : Th Nat → AV} (q : (0 : UInt8) ∈ bytesN 2 g) (a b : Int) (h0 : byteAt (g fun _ => 0) = a) (h1 : byteAt (g fun _ => 1) = b) (ha : 0 < a ∧ a < 256) (hb : 0 < b ∧ b < 256) : False := by
  have q : (0 : UInt8) ∈ [UInt8.ofNat (byteAt (g fun _ => 0)).toNat, UInt8.ofNat (byteAt (g fun _ => 1)).toNat] := q
  rw [h0, h1] at q
  have no : ∀ x : Int, 0 < x ∧ x < 256 → (0 : UInt8) ≠ UInt8.ofNat x.toNat := fun x hx e => by
    have e := congrArg UInt8.toNat e
    rw [UInt8.toNat_ofNat'] at e
    have e : 0 = x.toNat % 256 := e
    omega
  rcases List.mem_cons.1 q with q | q
  · exact no a ha q
  · rcases List.mem_cons.1 q with q | q
    · exact no b hb q
    · cases q
theorem byteA {x : Int} (hx : 0 ≤ x ∧ x < 256) : 0 < IntKind.u8.wrap (97 + (IntKind.u8.wrap (x.tdiv 5)).tmod 20) ∧ IntKind.u8.wrap (97 + (IntKind.u8.wrap (x.tdiv 5)).tmod 20) < 256 := by
  simp only [IntKind.wrap_u8]
  rw [Int.tdiv_eq_ediv_of_nonneg hx.1, Int.tmod_eq_emod_of_nonneg (by omega)]
  omega
theorem byteB {x : Int} (hx : 0 ≤ x ∧ x < 256) : 0 < IntKind.u8.wrap (1 + x.tmod 255) ∧ IntKind.u8.wrap (1 + x.tmod 255) < 256 := by
  simp only [IntKind.wrap_u8]
  rw [Int.tmod_eq_emod_of_nonneg hx.1]
  omega
def preX : List (Th (List UInt8)) := [fun _ => [117, 115, 101, 114, 46], fun _ => [116, 114, 117, 115, 116, 101, 100, 46], fun _ => [115, 101, 99, 117, 114, 105, 116, 121, 46], fun _ => [120, 61], fun _ => [255]]
def byteI' (x : Int) : UInt8 := UInt8.ofNat x.toNat
def nameX (a b : Int) : List UInt8 := (preX.getD (a.tmod 5).toNat fun _ => [117, 115, 101, 114, 46]) .o ++ [byteI' (IntKind.u8.wrap (97 + (IntKind.u8.wrap (a.tdiv 5)).tmod 20)), byteI' (IntKind.u8.wrap (1 + b.tmod 255))]
def valB (a : Int) (j : Nat) : Int := IntKind.u8.wrap (a * IntKind.u8.wrap (IntKind.i64.wrap (zi j + 1)))
def valX (a : Int) (n : Nat) : List UInt8 := (List.range n).map fun j => byteI' (valB a j)
def oneX (ns : List Int) (k : Nat) : Xattr := ⟨nameX (ns.getD (2 * k) 0) (ns.getD (2 * k + 1) 0), valX (ns.getD (2 * k) 0) ((IntKind.i64.wrap (ns.getD (2 * k + 1) 0)).tmod 20).toNat⟩
def accX (ns : List Int) : Nat → List Xattr
  | 0 => []
  | k + 1 => addX (oneX ns k) (accX ns k)
def goX (ns : List Int) (k : Nat) : Prop := 2 * k + 1 < ns.length ∧ (accX ns k).length < 6
/-- What is made of these numbers. -/
def Is13 (ns : List Int) (r : List Xattr) : Prop := ∃ k, r = accX ns k ∧ (∀ j, j < k → goX ns j) ∧ ¬ goX ns k
theorem is13_eq {ns : List Int} {r r' : List Xattr} (h : Is13 ns r) (h' : Is13 ns r') : r = r' := by
  obtain ⟨k, rfl, h1, h2⟩ := h
  obtain ⟨k', rfl, h1', h2'⟩ := h'
  rcases Nat.lt_trichotomy k k' with q | q | q
  · exact (h2 (h1' k q)).elim
  · rw [q]
  · exact (h2' (h1 k' q)).elim
theorem l13e_c (ns : Th (List Int)) (hns : isBytes (ns .o)) (hs : short (ns .o)) {d : Nat} {K : ARes → BL → Prop} (hr : ∀ r : Th (List Xattr), MadeXs (r .o) → Is13 (ns .o) (r .o) → K (.ret (xattrs r)) .nil) : CallAt PT l13_Make [byteI ns] d .nil K := by
  refine l13_Make.of rfl rfl ?_
  (cbv; repeat (refine safe (by first | decide | (simp only [zi] at *; omega) | assumption | (dsimp only; omega) | (dsimp only at *; simp only [List.length_append, List.length_cons, List.length_nil, zi] at *; omega)) ?_; cbv))
  refine loop_rule (X := Nat × List Xattr) 1000 [0] [] (fun x => .cons 3 (xattrs fun _ => x.2) (.cons 4 (.int .i64 fun _ => zi (2 * x.1)) .nil)) (fun _ => .nil) (fun x => MadeXs x.2 ∧ 2 * x.1 ≤ (ns .o).length ∧ x.2 = accX (ns .o) x.1 ∧ ∀ j, j < x.1 → goX (ns .o) j) (fun x => (ns .o).length - 2 * x.1) (0, []) ?_ ⟨MadeXs.nil, by simp, rfl, fun j hj => (Nat.not_lt_zero _ hj).elim⟩ ?_
  · cbv
    (repeat' (first | exact True.intro | exact Same.refl _ | exact SameB.refl _ | exact ⟨rfl⟩ | exact Same.int rfl | exact Same.str rfl | exact Same.bool rfl | (refine Same.int ?_; simp only [List.length_append, List.length_cons, List.length_nil, zi]; omega) | (refine SameB.row' rfl fun i hi => ?_; first | rfl | exact absurd hi (Nat.not_lt_zero _)) | refine And.intro ?_ ?_ | refine SameB.cells ?_ | exact SameC.nil | refine SameC.cons ?_ ?_ | exact Same.nsl rfl | exact Same.tt rfl | exact Same.ff rfl))
    all_goals exact Same.nsl rfl
  · rintro ⟨k, l⟩ ⟨hk, hk2, hacc, hgo⟩
    dsimp only at hacc hgo
    unfold short at hs
    have hsucc : IntKind.i64.wrap (zi (2 * k) + 1) = zi (2 * k + 1) := zi_succ (by omega)
    cbv
    rw [hsucc]
    ((try refine br_rev ?_); (first | refine br_dec (fun h1 => ?_) (fun h1 => ?_) | refine br_ndec (fun h1 => ?_) (fun h1 => ?_) | refine br_nbool (fun h1 => ?_) (fun h1 => ?_) | refine br_bool (fun h1 => ?_) (fun h1 => ?_)); all_goals (try dsimp only at h1); all_goals (try with_reducible replace h1 := zi_lt.1 h1); all_goals (try with_reducible replace h1 := not_zlt h1)) <;> cbv
    all_goals try (((try refine br_rev ?_); (first | refine br_dec (fun h2 => ?_) (fun h2 => ?_) | refine br_ndec (fun h2 => ?_) (fun h2 => ?_) | refine br_nbool (fun h2 => ?_) (fun h2 => ?_) | refine br_bool (fun h2 => ?_) (fun h2 => ?_)); all_goals (try dsimp only at h2); all_goals (try with_reducible replace h2 := zi_lt.1 h2); all_goals (try with_reducible replace h2 := not_zlt h2)); replace h2 : l.length < 6 := h2; rotate_left; replace h2 : 6 ≤ l.length := h2; rotate_left)
    all_goals cbv
    rotate_left
    all_goals try exact hr (fun _ => l) hk ⟨k, hacc, hgo, fun q => by
      have q1 := q.1
      have q2 := q.2
      rw [← hacc] at q2
      first
      | exact absurd q2 (Nat.not_lt.2 h2)
      | exact h1 ((zi_lt (a := 2 * k + 1)).2 q1)
      | omega⟩
    have b1 := rest_of (byte_at hns (k := 2 * k + 1)) (m := 20) (by decide)
    refine safe ⟨zi_nonneg _, zi_lt.2 (by show 2 * k < _; omega)⟩ ?_
    refine safe (by decide) ?_
    refine safe ⟨Int.tmod_nonneg _ (byte_at hns).1, Int.tmod_lt_of_pos _ (by decide)⟩ ?_
    refine safe (by
      have h0 : 0 ≤ ((ns .o).getD (zi (2 * k)).toNat 0).tmod 5 := Int.tmod_nonneg _ (byte_at hns).1
      have h5 : ((ns .o).getD (zi (2 * k)).toNat 0).tmod 5 < 5 := Int.tmod_lt_of_pos _ (by decide)
      show (((ns .o).getD (zi (2 * k)).toNat 0).tmod 5).toNat < 5
      omega) ?_
    refine safe ⟨zi_nonneg _, zi_lt.2 (by show 2 * k < _; omega)⟩ ?_
    refine safe (by decide) ?_
    refine safe (by decide) ?_
    refine safe (by show 0 ≤ IntKind.i64.wrap (zi (2 * k) + 1) ∧ IntKind.i64.wrap (zi (2 * k) + 1) < _; rw [hsucc]; exact ⟨zi_nonneg _, zi_lt.2 h1⟩) ?_
    refine safe (by decide) ?_
    refine safe (fun i hi => ⟨_, rfl⟩) ?_
    refine safe (by
      dsimp only
      rw [bytesN_len]
      refine Nat.le_trans (Nat.add_le_add_right (getD_all (p := fun t : Th (List UInt8) => (t .o).length ≤ 9) (by decide) _ _ (by simp)) 2) (by decide)) ?_
    refine safe (by show 0 ≤ IntKind.i64.wrap (zi (2 * k) + 1) ∧ IntKind.i64.wrap (zi (2 * k) + 1) < _; rw [hsucc]; exact ⟨zi_nonneg _, zi_lt.2 h1⟩) ?_
    refine safe (by decide) ?_
    dsimp only
    rw [hsucc, zi_toNat]
    generalize hv : (IntKind.i64.wrap ((ns .o).getD (2 * k + 1) 0)).tmod 20 = v at b1
    refine safe ⟨b1.1, Int.le_refl _, by show 1 * v ≤ _; omega, by omega⟩ ?_
    refine loop_at (X := Nat × List Int) 1000 [0, 3, 4, 5, 6] [] (fun _ x => .cons 7 (.int .i64 fun _ => zi x.1) .nil) (fun _ x => .cons 52 (rowB 1 byteCh 0 fun _ => x.2) .nil) (fun x => x.1 ≤ v.toNat ∧ x.2.length = v.toNat ∧ ∀ j', j' < x.1 → x.2.getD j' 0 = valB ((ns .o).getD (2 * k) 0) j') (fun x => v.toNat - x.1) (0, List.replicate v.toNat 0) ?_ ⟨by simp, by simp, fun j' hj' => (Nat.not_lt_zero _ hj').elim⟩ ?_
    · cbv
      (repeat' (first | exact True.intro | exact Same.refl _ | exact SameB.refl _ | exact ⟨rfl⟩ | exact Same.int rfl | exact Same.str rfl | exact Same.bool rfl | (refine Same.int ?_; simp only [List.length_append, List.length_cons, List.length_nil, zi]; omega) | (refine SameB.row' rfl fun i hi => ?_; first | rfl | exact absurd hi (Nat.not_lt_zero _)) | refine And.intro ?_ ?_ | refine SameB.cells ?_ | exact SameC.nil | refine SameC.cons ?_ ?_ | exact Same.nsl rfl | exact Same.tt rfl | exact Same.ff rfl))
      all_goals
        refine SameB.row' (by simp) fun i hi => ?_
        show byteCh (fun _ => 0) = byteCh fun _ => (List.replicate v.toNat 0).getD i 0
        congr 1
        funext _
        rw [List.getD_eq_getElem?_getD, List.getElem?_replicate]
        split <;> rfl
    · rintro ⟨j, bs⟩ ⟨hj, hbs, hval⟩
      dsimp only at hj hbs hval
      cbv
      ((try refine br_rev ?_); (first | refine br_dec (fun h3 => ?_) (fun h3 => ?_) | refine br_ndec (fun h3 => ?_) (fun h3 => ?_) | refine br_nbool (fun h3 => ?_) (fun h3 => ?_) | refine br_bool (fun h3 => ?_) (fun h3 => ?_)); all_goals (try dsimp only at h3); all_goals (try with_reducible replace h3 := zi_lt.1 h3); all_goals (try with_reducible replace h3 := not_zlt h3)) <;> cbv
      · refine safe ⟨zi_nonneg _, zi_lt.2 (by omega)⟩ ?_
        refine safe ⟨zi_nonneg _, zi_lt.2 h3⟩ ?_
        refine put_rows byteCh 0 bs (IntKind.u8.wrap ((ns .o).getD (zi (2 * k)).toNat 0 * IntKind.u8.wrap (IntKind.i64.wrap (zi j + 1)))) rfl (fun i hi => rfl) (by show (zi j).toNat < _; rw [zi_toNat]; exact h3) rfl ?_
        cbv
        refine ⟨(j + 1, bs.set (zi j).toNat (IntKind.u8.wrap ((ns .o).getD (zi (2 * k)).toNat 0 * IntKind.u8.wrap (IntKind.i64.wrap (zi j + 1))))), ⟨by show j + 1 ≤ _; omega, by rw [List.length_set]; exact hbs, fun j' hj' => by
          have hj' : j' < j + 1 := hj'
          show (bs.set (zi j).toNat _).getD j' 0 = _
          rw [zi_toNat, zi_toNat]
          by_cases e : j' = j
          · subst e
            rw [List.getD_eq_getElem?_getD, List.getElem?_set_self (by omega)]; rfl
          · rw [List.getD_eq_getElem?_getD, List.getElem?_set_ne (Ne.symm e), ← List.getD_eq_getElem?_getD]
            exact hval j' (by omega)⟩, by show _ - (j + 1) < _ - j; omega, ?_⟩
        have hsj : IntKind.i64.wrap (zi j + 1) = zi (j + 1) := zi_succ (by omega)
        cbv
        (repeat' (first | exact True.intro | exact Same.refl _ | exact SameB.refl _ | exact ⟨rfl⟩ | exact Same.int rfl | exact Same.str rfl | exact Same.bool rfl | (refine Same.int ?_; simp only [List.length_append, List.length_cons, List.length_nil, zi]; omega) | (refine SameB.row' rfl fun i hi => ?_; first | rfl | exact absurd hi (Nat.not_lt_zero _)) | refine And.intro ?_ ?_ | refine SameB.cells ?_ | exact SameC.nil | refine SameC.cons ?_ ?_ | exact Same.nsl rfl | exact Same.tt rfl | exact Same.ff rfl))
        · exact Same.int hsj
        · exact SameB.row' (by show bs.length = (bs.set _ _).length; rw [List.length_set]) fun i hi => rfl
      · refine safe (fun i hi => ⟨_, rfl⟩) ?_
        refine addxs_c (fun _ => l) (fun _ => ⟨_, _⟩) (by show l.length ≤ 1000; omega) fun r hr' => ?_
        replace hr' : r .o = addX ⟨_, _⟩ l := hr'
        have hmade : MadeXs (r .o) := by
          rw [hr']
          refine hk.add ⟨?_, ?_, ?_, ?_⟩ h2
          · show (_ ++ bytesN 2 _).length ≤ 11
            rw [List.length_append, bytesN_len]
            exact Nat.le_trans (Nat.add_le_add_right (getD_all (p := fun t : Th (List UInt8) => (t .o).length ≤ 9) (by decide) _ _ (by simp)) 2) (by decide)
          · intro e
            have e := congrArg List.length e
            revert e
            show (_ ++ bytesN 2 _).length = 0 → False
            rw [List.length_append, bytesN_len]
            omega
          · show ¬ (0 : UInt8) ∈ _ ++ bytesN 2 _
            rw [List.mem_append]
            rintro (q | q)
            · exact getD_all (p := fun t : Th (List UInt8) => ¬ (0 : UInt8) ∈ t .o) (by decide) _ _ (by simp) q
            · exact two_bytes q _ _ rfl rfl (byteA (byte_at hns)) (byteB (byte_at hns))
          · show (List.map _ (List.range bs.length)).length ≤ 19
            rw [List.length_map, List.length_range]
            omega
        have hacc' : r .o = accX (ns .o) (k + 1) := by
          rw [hr']
          show addX _ l = addX (oneX (ns .o) k) (accX (ns .o) k)
          rw [← hacc]
          congr 1
          unfold oneX
          congr 1
          · rw [zi_toNat]
            unfold nameX preX
            refine congr (congrArg _ ?_) ?_
            · refine congrArg (fun t : Th (List UInt8) => t .o) (congrArg (fun n => List.getD _ n _) ?_)
              generalize ns .o = L
              generalize k = q
              cases q <;> cases L <;> rfl
            · rfl
          · show (List.range bs.length).map _ = valX _ _
            rw [hv, hbs]
            unfold valX
            refine List.map_congr_left fun i hi => ?_
            rw [← hval i (by have := List.mem_range.1 hi; omega)]; rfl
        have hgo' : ∀ j, j < k + 1 → goX (ns .o) j := fun j' hj' => by
          by_cases e : j' = k
          · subst e; exact ⟨h1, by rw [← hacc]; exact h2⟩
          · exact hgo j' (by omega)
        cbv
        refine ⟨(k + 1, r .o), ⟨hmade, by show 2 * (k + 1) ≤ _; omega, hacc', hgo'⟩, by show _ - 2 * (k + 1) < _ - 2 * k; omega, ?_⟩
        cbv
        (repeat' (first | exact True.intro | exact Same.refl _ | exact SameB.refl _ | exact ⟨rfl⟩ | exact Same.int rfl | exact Same.str rfl | exact Same.bool rfl | (refine Same.int ?_; simp only [List.length_append, List.length_cons, List.length_nil, zi]; omega) | (refine SameB.row' rfl fun i hi => ?_; first | rfl | exact absurd hi (Nat.not_lt_zero _)) | refine And.intro ?_ ?_ | refine SameB.cells ?_ | exact SameC.nil | refine SameC.cons ?_ ?_ | exact Same.nsl rfl | exact Same.tt rfl | exact Same.ff rfl))
        exact Same.int (by show IntKind.i64.wrap (zi (2 * k) + 2) = zi (2 * (k + 1)); rw [IntKind.wrap_i64]; unfold zi; omega)
/-- The rights of a file, by numbers. -/
structure CapsMade (c : Caps) : Prop where
  ver : c.ver = 2 ∨ c.ver = 3
  root2 : c.ver = 2 → c.root = 0
  root3 : 0 ≤ c.root ∧ c.root < 2147483648
def l11S (p i w ro : Int) : Caps := ⟨IntKind.i64.wrap (2 + (IntKind.i64.wrap w).tmod 2), p, i, decide (128 ≤ w), if IntKind.i64.wrap (2 + (IntKind.i64.wrap w).tmod 2) = 3 then (IntKind.i64.wrap ro).fdiv (2 ^ min (Int.toNat 1) IntKind.i64.bits) else 0⟩
theorem l11e_c (p i : Th Int) (w : Th Int) (ro : Th Int) (hw : 0 ≤ w .o ∧ w .o < 256) (hro : 0 ≤ ro .o ∧ ro .o < 4294967296) {d : Nat} {K : ARes → BL → Prop} (hr : ∀ c : Th Caps, CapsMade (c .o) → c .o = l11S (p .o) (i .o) (w .o) (ro .o) → K (.ret (.agg (.cons (.int .i64 fun _ => (c .o).ver) (.cons (.int .u64 fun _ => (c .o).perm) (.cons (.int .u64 fun _ => (c .o).inh) (.cons (.bool fun _ => (c .o).eff) (.cons (.int .i64 fun _ => (c .o).root) .nil))))))) .nil) :
    CallAt PT l11_Make [.int .u64 p, .int .u64 i, .int .u8 w, .int .u32 ro] d .nil K := by
  refine l11_Make.of rfl rfl ?_
  have hm := rest_of hw (m := 2) (by decide)
  have hv : IntKind.i64.wrap (2 + (IntKind.i64.wrap (w .o)).tmod 2) = 2 ∨ IntKind.i64.wrap (2 + (IntKind.i64.wrap (w .o)).tmod 2) = 3 := by
    rw [IntKind.wrap_i64 (2 + _)]
    omega
  (cbv; repeat (refine safe (by first | decide | (simp only [zi] at *; omega) | assumption | (dsimp only; omega) | (dsimp only at *; simp only [List.length_append, List.length_cons, List.length_nil, zi] at *; omega)) ?_; cbv))
  ((try refine br_rev ?_); (first | refine br_dec (fun h1 => ?_) (fun h1 => ?_) | refine br_ndec (fun h1 => ?_) (fun h1 => ?_) | refine br_nbool (fun h1 => ?_) (fun h1 => ?_) | refine br_bool (fun h1 => ?_) (fun h1 => ?_)); all_goals (try dsimp only at h1); all_goals (try with_reducible replace h1 := zi_lt.1 h1); all_goals (try with_reducible replace h1 := not_zlt h1)) <;> cbv
  · refine safe (by decide) ?_
    refine hr (fun _ => ⟨IntKind.i64.wrap (2 + (IntKind.i64.wrap (w .o)).tmod 2), p .o, i .o, decide (128 ≤ w .o), (IntKind.i64.wrap (ro .o)).fdiv (2 ^ min (Int.toNat 1) IntKind.i64.bits)⟩) ⟨hv, fun q => absurd (q.symm.trans h1) (by decide), ?_⟩ (by unfold l11S; rw [if_pos h1])
    show 0 ≤ (IntKind.i64.wrap (ro .o)).fdiv 2 ∧ (IntKind.i64.wrap (ro .o)).fdiv 2 < 2147483648
    rw [show IntKind.i64.wrap (ro .o) = ro .o by rw [IntKind.wrap_i64]; omega, Int.fdiv_eq_ediv_of_nonneg _ (by decide)]
    omega
  · exact hr (fun _ => ⟨IntKind.i64.wrap (2 + (IntKind.i64.wrap (w .o)).tmod 2), p .o, i .o, decide (128 ≤ w .o), 0⟩) ⟨hv, fun _ => rfl, Int.le_refl 0, by show (0 : Int) < 2147483648; decide⟩ (by unfold l11S; rw [if_neg h1])
end Go.Proofs.Ytgjlkcdnlndlnaa
/- What the laws make by numbers: what is kept of a file. -/
namespace Go.Proofs.Ytgjlkcdnlndlnaa
open Go Go.Proofs.Ytgjlkcdnlndlnaa.Sx F
set_option linter.unusedVariables false
set_option linter.unusedSimpArgs false
/-- Number j, of those read so far. -/
def kAt (ns : List Int) (i j : Nat) : Int := if j < i then ns.getD j 0 else 0
theorem kAt_byte {ns : List Int} (h : isBytes ns) (i j : Nat) : 0 ≤ kAt ns i j ∧ kAt ns i j < 256 := by
  unfold kAt; split
  · exact byte_at h
  · decide
/-- What l14.Make makes. -/
structure MadeM (ns : List Int) (m : Meta) : Prop where
  mode : 0 ≤ m.mode ∧ m.mode < 4096
  uid : 0 ≤ m.uid ∧ m.uid < 6
  gid : 0 ≤ m.gid ∧ m.gid < 6
  acl : m.acl = [] ∨ ∃ ns', isBytes ns' ∧ m.acl = l9S ns' (band m.mode 511)
  xs : MadeXs m.xs
/-- What depends on the kind. -/
structure MadeK (k : Int) (m : Meta) : Prop where
  flags : 0 ≤ m.flags ∧ m.flags < 16
  dflt : m.dflt = [] ∨ (k = 6 ∧ ∃ ns' n, isBytes ns' ∧ (0 ≤ n ∧ n < 256) ∧ m.dflt = l9S ns' n)
  caps : m.caps = ⟨0, 0, 0, false, 0⟩ ∨ (k = 1 ∧ CapsMade m.caps)
  sym : k = 3 → m.mode = 511 ∧ m.acl = [] ∧ m.flags = 0
  sec : -50000 ≤ m.sec ∧ m.sec ≤ 205000
  nano : m.nano = 0 ∨ m.nano = 500000000
theorem bytes_drop {l : List Int} (h : isBytes l) (k : Nat) : isBytes (l.drop k) := fun x hx => h x (List.drop_subset _ _ hx)
theorem short_drop {l : List Int} (h : short l) (k : Nat) : short (l.drop k) := by unfold short at *; rw [List.length_drop]; omega
/-- The row from number c on. -/
def fromI (l : Th (List Int)) (c : Th Int) : AV := .sl 1 (fun _ => (zi (l .o).length - c .o).toNat) fun i => .cons (.int .u8 fun _ => (l .o).getD ((c .o).toNat + i .o) 0) .nil
theorem from_same (l : Th (List Int)) (c : Th Int) (hc : 0 ≤ c .o) : Same (fromI l c) (byteI fun _ => (l .o).drop (c .o).toNat) := by
  refine Same.sl ?_ fun i hi => ?_
  · show (zi (l .o).length - c .o).toNat = ((l .o).drop (c .o).toNat).length
    rw [List.length_drop]; unfold zi; omega
  · show (AV.cons (.int .u8 fun _ => (l .o).getD ((c .o).toNat + i) 0) .nil) = AV.cons (.int .u8 fun _ => ((l .o).drop (c .o).toNat).getD i 0) .nil
    rw [getD_drop]
theorem l13e_from (l : Th (List Int)) (c : Th Int) (hc : 0 ≤ c .o) (hns : isBytes (l .o)) (hs : short (l .o)) {d : Nat} {K : ARes → BL → Prop} (hr : ∀ r : Th (List Xattr), MadeXs (r .o) → Is13 ((l .o).drop (c .o).toNat) (r .o) → K (.ret (xattrs r)) .nil) : CallAt PT l13_Make [fromI l c] d .nil K :=
  CallAt.args (.cons (from_same l c hc) .nil) (l13e_c _ (bytes_drop hns _) (short_drop hs _) hr)
theorem l9_from (l : Th (List Int)) (c : Th Int) (m : Th Int) (hc : 0 ≤ c .o) (hns : isBytes (l .o)) (hs : short (l .o)) {d : Nat} {K : ARes → BL → Prop} (hr : ∀ r : Th (List Ace), r .o = l9S ((l .o).drop (c .o).toNat) (m .o) → K (.ret (aces r)) .nil) : CallAt PT l9_Make [fromI l c, .int .i64 m] d .nil K :=
  CallAt.args (.cons (from_same l c hc) (.cons (.refl _) .nil)) (l9_c _ m (bytes_drop hns _) (short_drop hs _) hr)
/-- A Meta told by its parts. -/
theorem meta_ret {K : ARes → BL → Prop} {mode uid gid sec nano ver perm inh root flags : Th Int} {eff : Th Bool} {A D X E : AV} (acl dflt : Th (List Ace)) (xs : Th (List Xattr))
    (hA : Same A (aces acl)) (hD : Same D (aces dflt)) (hX : Same X (xattrs xs)) (hE : Same E (.bool eff))
    (h : K (.ret (Meta.av fun _ => ⟨mode .o, uid .o, gid .o, sec .o, nano .o, acl .o, dflt .o, xs .o, ⟨ver .o, perm .o, inh .o, eff .o, root .o⟩, flags .o⟩)) .nil) :
    ∃ r', SameR (.ret (.agg (.cons (.int .i64 mode) (.cons (.int .i64 uid) (.cons (.int .i64 gid) (.cons (.int .i64 sec) (.cons (.int .i64 nano) (.cons A (.cons D (.cons X
      (.cons (.int .i64 ver) (.cons (.int .u64 perm) (.cons (.int .u64 inh) (.cons E (.cons (.int .i64 root) (.cons (.int .i64 flags) .nil)))))))))))))))) r' ∧ K r' .nil :=
  ⟨_, .ret (y := Meta.av fun _ => ⟨mode .o, uid .o, gid .o, sec .o, nano .o, acl .o, dflt .o, xs .o, ⟨ver .o, perm .o, inh .o, eff .o, root .o⟩, flags .o⟩)
    (.agg (.cons (.int rfl) (.cons (.int rfl) (.cons (.int rfl) (.cons (.int rfl) (.cons (.int rfl) (.cons hA (.cons hD (.cons hX (.cons (.int rfl) (.cons (.int rfl) (.cons (.int rfl) (.cons hE (.cons (.int rfl) (.cons (.int rfl) .nil))))))))))))))), h⟩
theorem wrap_u32 (x : Int) : 0 ≤ IntKind.u32.wrap x ∧ IntKind.u32.wrap x < 4294967296 := by
  rw [IntKind.wrap_u32]; omega
theorem nsl_aces : Same .nsl (aces fun _ => []) := Same.nsl rfl
theorem nsl_xattrs : Same .nsl (xattrs fun _ => []) := Same.nsl rfl
theorem ff_bool : Same .ff (.bool fun _ => false) := Same.ff rfl
/-- Just what is made of these numbers, for this kind, with these names. -/
def l14S (ns : List Int) (kind : Int) (xs : List Xattr) : Meta :=
  let k := kAt ns (min 12 ns.length)
  let mo := if kind = 3 then 511 else IntKind.i64.wrap (IntKind.i64.wrap (k 0 * 16) + (k 1).tmod 16)
  ⟨mo, (k 2).tmod 6, (k 3).tmod 6, IntKind.i64.wrap (IntKind.i64.wrap (k 4 * 1000) - 50000), IntKind.i64.wrap ((k 5).tmod 2 * 500000000),
    if ¬ kind = 3 ∧ (k 7).tmod 2 = 1 then l9S (ns.drop 8) (band mo 511) else [],
    if ¬ kind = 3 ∧ kind = 6 ∧ 2 ≤ (k 7).tmod 4 then l9S (ns.drop (if 9 < zi ns.length then (9 : Int) else zi ns.length).toNat) (k 9) else [],
    xs,
    if ¬ kind = 3 ∧ kind = 1 ∧ (k 10).tmod 3 = 0 ∧ 10 < zi ns.length then l11S (IntKind.u64.wrap (k 8)) (IntKind.u64.wrap (IntKind.u64.wrap (k 9) * 2 ^ min (Int.toNat 40) IntKind.u64.bits)) (ns.getD 10 0) (IntKind.u32.wrap (k 11)) else ⟨0, 0, 0, false, 0⟩,
    if kind = 3 then 0 else (k 6).tmod 16⟩
structure Is14 (ns : List Int) (kind : Int) (m : Meta) : Prop where
  xs : if 12 < zi ns.length then Is13 (ns.drop 12) m.xs else m.xs = []
  rest : m = l14S ns kind m.xs
theorem is14_eq {ns : List Int} {kind : Int} {m m' : Meta} (h : Is14 ns kind m) (h' : Is14 ns kind m') : m = m' := by
  have e : m.xs = m'.xs := by
    have h1 := h.xs
    have h2 := h'.xs
    by_cases q : 12 < zi ns.length
    · rw [if_pos q] at h1 h2; exact is13_eq h1 h2
    · rw [if_neg q] at h1 h2; rw [h1, h2]
  rw [h.rest, h'.rest, e]
theorem is14_sym {ns : List Int} {kind : Int} {i : Nat} {xs : List Xattr} (hi : i = min 12 ns.length) (hk : kind = 3) (hx : if 12 < zi ns.length then Is13 (ns.drop 12) xs else xs = []) :
    Is14 ns kind ⟨511, (kAt ns i 2).tmod 6, (kAt ns i 3).tmod 6, IntKind.i64.wrap (IntKind.i64.wrap (kAt ns i 4 * 1000) - 50000), IntKind.i64.wrap ((kAt ns i 5).tmod 2 * 500000000), [], [], xs, ⟨0, 0, 0, false, 0⟩, 0⟩ := by
  subst hi
  subst hk
  exact ⟨hx, by unfold l14S; simp⟩
theorem is14_of {ns : List Int} {kind : Int} {i : Nat} {xs : List Xattr} {acl dflt : List Ace} {caps : Caps} (hi : i = min 12 ns.length) (hk : ¬ kind = 3) (hx : if 12 < zi ns.length then Is13 (ns.drop 12) xs else xs = [])
    (ha : acl = if (kAt ns i 7).tmod 2 = 1 then l9S (ns.drop 8) (band (IntKind.i64.wrap (IntKind.i64.wrap (kAt ns i 0 * 16) + (kAt ns i 1).tmod 16)) 511) else [])
    (hd : dflt = if kind = 6 ∧ 2 ≤ (kAt ns i 7).tmod 4 then l9S (ns.drop (if 9 < zi ns.length then (9 : Int) else zi ns.length).toNat) (kAt ns i 9) else [])
    (hc : caps = if kind = 1 ∧ (kAt ns i 10).tmod 3 = 0 ∧ 10 < zi ns.length then l11S (IntKind.u64.wrap (kAt ns i 8)) (IntKind.u64.wrap (IntKind.u64.wrap (kAt ns i 9) * 2 ^ min (Int.toNat 40) IntKind.u64.bits)) (ns.getD 10 0) (IntKind.u32.wrap (kAt ns i 11)) else ⟨0, 0, 0, false, 0⟩) :
    Is14 ns kind ⟨IntKind.i64.wrap (IntKind.i64.wrap (kAt ns i 0 * 16) + (kAt ns i 1).tmod 16), (kAt ns i 2).tmod 6, (kAt ns i 3).tmod 6, IntKind.i64.wrap (IntKind.i64.wrap (kAt ns i 4 * 1000) - 50000), IntKind.i64.wrap ((kAt ns i 5).tmod 2 * 500000000), acl, dflt, xs, caps, (kAt ns i 6).tmod 16⟩ := by
  subst hi
  exact ⟨hx, by unfold l14S; rw [ha, hd, hc]; simp [hk]⟩
set_option maxHeartbeats 1000000 in
theorem l14e_c (ns : Th (List Int)) (kind : Th Int) (hns : isBytes (ns .o)) (hs : short (ns .o)) {d : Nat} {K : ARes → BL → Prop} (hr : ∀ m : Th Meta, MadeM (ns .o) (m .o) → MadeK (kind .o) (m .o) → Is14 (ns .o) (kind .o) (m .o) → K (.ret (Meta.av m)) .nil) : CallAt PT l14_Make [byteI ns, .int .i64 kind] d .nil K := by
  refine CallAt.res ?_
  refine l14_Make.of rfl rfl ?_
  (cbv; repeat (refine safe (by first | decide | (simp only [zi] at *; omega) | assumption | (dsimp only; omega) | (dsimp only at *; simp only [List.length_append, List.length_cons, List.length_nil, zi] at *; omega)) ?_; cbv))
  refine loop_at (X := Nat) 1000 [0, 1, 4, 5] [4] (fun _ i => .cons 6 (.int .i64 fun _ => zi i) .nil) (fun _ i => .cons 8 (.row 1 (fun _ => 12) fun j => intCh fun _ => kAt (ns .o) i (j .o)) .nil) (fun i => i ≤ 12 ∧ i ≤ (ns .o).length) (fun i => 12 - i) 0 ?_ ⟨by simp, by simp⟩ ?_
  · cbv
    (repeat' (first | exact True.intro | exact Same.refl _ | exact SameB.refl _ | exact ⟨rfl⟩ | exact Same.int rfl | exact Same.str rfl | exact Same.bool rfl | (refine Same.int ?_; simp only [List.length_append, List.length_cons, List.length_nil, zi]; omega) | (refine SameB.row' rfl fun i hi => ?_; first | rfl | exact absurd hi (Nat.not_lt_zero _)) | refine And.intro ?_ ?_ | refine SameB.cells ?_ | exact SameC.nil | refine SameC.cons ?_ ?_ | exact Same.nsl rfl | exact Same.tt rfl | exact Same.ff rfl))
  · rintro i ⟨hi, hil⟩
    cbv
    ((try refine br_rev ?_); (first | refine br_dec (fun h1 => ?_) (fun h1 => ?_) | refine br_ndec (fun h1 => ?_) (fun h1 => ?_) | refine br_nbool (fun h1 => ?_) (fun h1 => ?_) | refine br_bool (fun h1 => ?_) (fun h1 => ?_)); all_goals (try dsimp only at h1); all_goals (try with_reducible replace h1 := zi_lt.1 h1); all_goals (try with_reducible replace h1 := not_zlt h1))
    focus replace h1 : i < 12 := h1
    rotate_left
    focus replace h1 : 12 ≤ i := h1
    rotate_left
    all_goals cbv
    all_goals try ((try refine br_rev ?_); (first | refine br_dec (fun h2 => ?_) (fun h2 => ?_) | refine br_ndec (fun h2 => ?_) (fun h2 => ?_) | refine br_nbool (fun h2 => ?_) (fun h2 => ?_) | refine br_bool (fun h2 => ?_) (fun h2 => ?_)); all_goals (try dsimp only at h2); all_goals (try with_reducible replace h2 := zi_lt.1 h2); all_goals (try with_reducible replace h2 := not_zlt h2))
    all_goals cbv
    focus
      refine safe ⟨zi_nonneg _, zi_lt.2 h2⟩ ?_
      refine safe ⟨zi_nonneg _, zi_lt.2 h1⟩ ?_
      refine ⟨by show (zi i).toNat < 12; rw [zi_toNat]; exact h1, fun j => intCh fun _ => kAt (ns .o) (i + 1) (j .o), _, rfl, fun j hj hne => Fits.of_eq ?_, Fits.of_eq ?_, ?_⟩
      · show (intCh fun _ => kAt (ns .o) i j) = intCh fun _ => kAt (ns .o) (i + 1) j
        replace hne : j ≠ (zi i).toNat := hne
        rw [zi_toNat] at hne
        unfold kAt
        by_cases q : j < i
        · simp only [if_pos q, if_pos (show j < i + 1 by omega)]
        · simp only [if_neg q, if_neg (show ¬ j < i + 1 by omega)]
      · show (intCh fun _ => IntKind.i64.wrap ((ns .o).getD (zi i).toNat 0)) = intCh fun _ => kAt (ns .o) (i + 1) (zi i).toNat
        rw [zi_toNat, wrap_byte (byte_at hns), kAt, if_pos (by omega)]
      · cbv
        refine ⟨i + 1, ⟨by omega, by omega⟩, by omega, ?_⟩
        cbv
        rw [zi_succ (by omega)]
        (repeat' (first | exact True.intro | exact Same.refl _ | exact SameB.refl _ | exact ⟨rfl⟩ | exact Same.int rfl | exact Same.str rfl | exact Same.bool rfl | (refine Same.int ?_; simp only [List.length_append, List.length_cons, List.length_nil, zi]; omega) | (refine SameB.row' rfl fun i hi => ?_; first | rfl | exact absurd hi (Nat.not_lt_zero _)) | refine And.intro ?_ ?_ | refine SameB.cells ?_ | exact SameC.nil | refine SameC.cons ?_ ?_ | exact Same.nsl rfl | exact Same.tt rfl | exact Same.ff rfl))
    all_goals
      have hie : i = min 12 (ns .o).length := by omega
      have kb := fun j => kAt_byte hns i j
      have hk0 : ∀ j, (ns .o).length ≤ j → kAt (ns .o) i j = 0 := by
        intro j hj
        unfold kAt
        split
        · rw [List.getD_eq_getElem?_getD, List.getElem?_eq_none hj]; rfl
        · rfl
      (repeat (refine safe (by first | decide | (simp only [zi] at *; omega) | assumption | (dsimp only; omega) | (dsimp only at *; simp only [List.length_append, List.length_cons, List.length_nil, zi] at *; omega)) ?_))
      ((try refine br_rev ?_); (first | refine br_dec (fun h3 => ?_) (fun h3 => ?_) | refine br_ndec (fun h3 => ?_) (fun h3 => ?_) | refine br_nbool (fun h3 => ?_) (fun h3 => ?_) | refine br_bool (fun h3 => ?_) (fun h3 => ?_)); all_goals (try dsimp only at h3); all_goals (try with_reducible replace h3 := zi_lt.1 h3); all_goals (try with_reducible replace h3 := not_zlt h3))
    all_goals cbv
    all_goals try (refine safe ⟨by decide, Int.le_of_lt h3, Int.le_refl _⟩ ?_; refine l13e_from ns (fun _ => 12) (by show (0 : Int) ≤ 12; decide) hns hs fun xs hxs hxe => ?_; cbv)
    all_goals
      have hmode : 0 ≤ IntKind.i64.wrap (IntKind.i64.wrap (kAt (ns .o) i 0 * 16) + (kAt (ns .o) i 1).tmod 16) ∧ IntKind.i64.wrap (IntKind.i64.wrap (kAt (ns .o) i 0 * 16) + (kAt (ns .o) i 1).tmod 16) < 4096 := by
        have q1 := Int.tmod_nonneg 16 (kb 1).1
        have q2 : (kAt (ns .o) i 1).tmod 16 < 16 := Int.tmod_lt_of_pos _ (by decide)
        have q0 := kb 0
        have e1 : IntKind.i64.wrap (kAt (ns .o) i 0 * 16) = kAt (ns .o) i 0 * 16 := by rw [IntKind.wrap_i64]; omega
        rw [e1, IntKind.wrap_i64]
        omega
      have huid : ∀ j, 0 ≤ (kAt (ns .o) i j).tmod 6 ∧ (kAt (ns .o) i j).tmod 6 < 6 := fun j => ⟨Int.tmod_nonneg _ (kb j).1, Int.tmod_lt_of_pos _ (by decide)⟩
      have hsec : -50000 ≤ IntKind.i64.wrap (IntKind.i64.wrap (kAt (ns .o) i 4 * 1000) - 50000) ∧ IntKind.i64.wrap (IntKind.i64.wrap (kAt (ns .o) i 4 * 1000) - 50000) ≤ 205000 := by
        have q0 := kb 4
        have e1 : IntKind.i64.wrap (kAt (ns .o) i 4 * 1000) = kAt (ns .o) i 4 * 1000 := by rw [IntKind.wrap_i64]; omega
        have e2 : IntKind.i64.wrap (kAt (ns .o) i 4 * 1000 - 50000) = kAt (ns .o) i 4 * 1000 - 50000 := by rw [IntKind.wrap_i64]; omega
        rw [e1, e2]
        omega
      have hnano : IntKind.i64.wrap ((kAt (ns .o) i 5).tmod 2 * 500000000) = 0 ∨ IntKind.i64.wrap ((kAt (ns .o) i 5).tmod 2 * 500000000) = 500000000 := by
        have q1 := Int.tmod_nonneg 2 (kb 5).1
        have q2 : (kAt (ns .o) i 5).tmod 2 < 2 := Int.tmod_lt_of_pos _ (by decide)
        have e2 : IntKind.i64.wrap ((kAt (ns .o) i 5).tmod 2 * 500000000) = (kAt (ns .o) i 5).tmod 2 * 500000000 := by rw [IntKind.wrap_i64]; omega
        rw [e2]
        omega
      have hfl : 0 ≤ (kAt (ns .o) i 6).tmod 16 ∧ (kAt (ns .o) i 6).tmod 16 < 16 := ⟨Int.tmod_nonneg _ (kb 6).1, Int.tmod_lt_of_pos _ (by decide)⟩
      ((try refine br_rev ?_); (first | refine br_dec (fun h4 => ?_) (fun h4 => ?_) | refine br_ndec (fun h4 => ?_) (fun h4 => ?_) | refine br_nbool (fun h4 => ?_) (fun h4 => ?_) | refine br_bool (fun h4 => ?_) (fun h4 => ?_)); all_goals (try dsimp only at h4); all_goals (try with_reducible replace h4 := zi_lt.1 h4); all_goals (try with_reducible replace h4 := not_zlt h4))
    all_goals cbv
    all_goals try (first
      | exact meta_ret (eff := fun _ => false) (fun _ => []) (fun _ => []) (fun _ => []) (Same.nsl rfl) (Same.nsl rfl) (Same.nsl rfl) (Same.ff rfl) (hr _ ⟨by show (0 : Int) ≤ 511 ∧ (511 : Int) < 4096; decide, huid 2, huid 3, .inl rfl, MadeXs.nil⟩ ⟨by show (0 : Int) ≤ 0 ∧ (0 : Int) < 16; decide, .inl rfl, .inl rfl, fun _ => ⟨rfl, rfl, rfl⟩, hsec, hnano⟩ (is14_sym hie h4 (by split <;> rename_i q <;> first | exact hxe | rfl | (exfalso; unfold zi at q; (try unfold zi at h3); omega))))
      | exact meta_ret (eff := fun _ => false) (fun _ => []) (fun _ => []) xs (Same.nsl rfl) (Same.nsl rfl) (Same.refl _) (Same.ff rfl) (hr _ ⟨by show (0 : Int) ≤ 511 ∧ (511 : Int) < 4096; decide, huid 2, huid 3, .inl rfl, hxs⟩ ⟨by show (0 : Int) ≤ 0 ∧ (0 : Int) < 16; decide, .inl rfl, .inl rfl, fun _ => ⟨rfl, rfl, rfl⟩, hsec, hnano⟩ (is14_sym hie h4 (by split <;> rename_i q <;> first | exact hxe | rfl | (exfalso; unfold zi at q; (try unfold zi at h3); omega)))))
    all_goals (repeat (refine safe (by first | decide | (simp only [zi] at *; omega) | assumption | (dsimp only; omega) | (dsimp only at *; simp only [List.length_append, List.length_cons, List.length_nil, zi] at *; omega)) ?_))
    all_goals ((try refine br_rev ?_); (first | refine br_dec (fun h5 => ?_) (fun h5 => ?_) | refine br_ndec (fun h5 => ?_) (fun h5 => ?_) | refine br_nbool (fun h5 => ?_) (fun h5 => ?_) | refine br_bool (fun h5 => ?_) (fun h5 => ?_)); all_goals (try dsimp only at h5); all_goals (try with_reducible replace h5 := zi_lt.1 h5); all_goals (try with_reducible replace h5 := not_zlt h5))
    all_goals cbv
    all_goals try (
      have h8 : 8 ≤ (ns .o).length := by
        refine Nat.le_of_not_lt fun q => ?_
        have := hk0 7 (by omega)
        replace h5 : (kAt (ns .o) i 7).tmod 2 = 1 := h5
        rw [this] at h5
        exact absurd h5 (by decide)
      refine safe ⟨by decide, (zi_le (a := 8)).2 h8, Int.le_refl _⟩ ?_
      refine l9_from ns (fun _ => 8) _ (by show (0 : Int) ≤ 8; decide) hns hs fun acl hacl => ?_
      cbv)
    all_goals ((try refine br_rev ?_); (first | refine br_dec (fun h6 => ?_) (fun h6 => ?_) | refine br_ndec (fun h6 => ?_) (fun h6 => ?_) | refine br_nbool (fun h6 => ?_) (fun h6 => ?_) | refine br_bool (fun h6 => ?_) (fun h6 => ?_)); all_goals (try dsimp only at h6); all_goals (try with_reducible replace h6 := zi_lt.1 h6); all_goals (try with_reducible replace h6 := not_zlt h6))
    all_goals cbv
    all_goals try (refine safe (by decide) ?_; (repeat (refine safe (by first | decide | (simp only [zi] at *; omega) | assumption | (dsimp only; omega) | (dsimp only at *; simp only [List.length_append, List.length_cons, List.length_nil, zi] at *; omega)) ?_)); ((try refine br_rev ?_); (first | refine br_dec (fun h7 => ?_) (fun h7 => ?_) | refine br_ndec (fun h7 => ?_) (fun h7 => ?_) | refine br_nbool (fun h7 => ?_) (fun h7 => ?_) | refine br_bool (fun h7 => ?_) (fun h7 => ?_)); all_goals (try dsimp only at h7); all_goals (try with_reducible replace h7 := zi_lt.1 h7); all_goals (try with_reducible replace h7 := not_zlt h7)); all_goals cbv)
    all_goals try (
      refine safe (by refine ⟨?_, ?_, Int.le_refl _⟩ <;> (have := zi_nonneg (ns .o).length; (try dsimp only); split <;> omega)) ?_
      (repeat (refine safe (by first | decide | (simp only [zi] at *; omega) | assumption | (dsimp only; omega) | (dsimp only at *; simp only [List.length_append, List.length_cons, List.length_nil, zi] at *; omega)) ?_))
      refine l9_from ns (fun _ => if 9 < zi (ns .o).length then 9 else zi (ns .o).length) _ (by have := zi_nonneg (ns .o).length; (try dsimp only); split <;> omega) hns hs fun df hdf => ?_
      cbv)
    all_goals ((try refine br_rev ?_); (first | refine br_dec (fun h9 => ?_) (fun h9 => ?_) | refine br_ndec (fun h9 => ?_) (fun h9 => ?_) | refine br_nbool (fun h9 => ?_) (fun h9 => ?_) | refine br_bool (fun h9 => ?_) (fun h9 => ?_)); all_goals (try dsimp only at h9); all_goals (try with_reducible replace h9 := zi_lt.1 h9); all_goals (try with_reducible replace h9 := not_zlt h9))
    all_goals try (exfalso; omega)
    all_goals cbv
    all_goals try (repeat (refine safe (by first | decide | (simp only [zi] at *; omega) | assumption | (dsimp only; omega) | (dsimp only at *; simp only [List.length_append, List.length_cons, List.length_nil, zi] at *; omega)) ?_))
    all_goals try ((try refine br_rev ?_); (first | refine br_dec (fun h10 => ?_) (fun h10 => ?_) | refine br_ndec (fun h10 => ?_) (fun h10 => ?_) | refine br_nbool (fun h10 => ?_) (fun h10 => ?_) | refine br_bool (fun h10 => ?_) (fun h10 => ?_)); all_goals (try dsimp only at h10); all_goals (try with_reducible replace h10 := zi_lt.1 h10); all_goals (try with_reducible replace h10 := not_zlt h10))
    all_goals cbv
    all_goals try ((try refine br_rev ?_); (first | refine br_dec (fun h11 => ?_) (fun h11 => ?_) | refine br_ndec (fun h11 => ?_) (fun h11 => ?_) | refine br_nbool (fun h11 => ?_) (fun h11 => ?_) | refine br_bool (fun h11 => ?_) (fun h11 => ?_)); all_goals (try dsimp only at h11); all_goals (try with_reducible replace h11 := zi_lt.1 h11); all_goals (try with_reducible replace h11 := not_zlt h11))
    all_goals cbv
    all_goals try (
      (repeat (refine safe (by first | decide | (simp only [zi] at *; omega) | assumption | (dsimp only; omega) | (dsimp only at *; simp only [List.length_append, List.length_cons, List.length_nil, zi] at *; omega)) ?_))
      refine l11e_c _ _ (fun _ => (ns .o).getD 10 0) _ (byte_at hns) (wrap_u32 _) fun caps hcaps hce => ?_
      cbv)
    all_goals (
      apply meta_ret
      focus first | exact nsl_aces | exact Same.refl _
      focus first | exact nsl_aces | exact Same.refl _
      focus first | exact nsl_xattrs | exact Same.refl _
      focus first | exact ff_bool | exact Same.refl _
      refine hr _ ⟨hmode, huid 2, huid 3, by first | exact .inl rfl | exact .inr ⟨_, bytes_drop hns _, hacl⟩, by first | exact MadeXs.nil | exact hxs⟩ ⟨hfl, by first | exact .inl rfl | exact .inr ⟨h6, _, _, bytes_drop hns _, kb 9, hdf⟩, by first | exact .inl rfl | exact .inr ⟨h9, hcaps⟩, fun q => absurd q h4, hsec, hnano⟩ (is14_of hie h4 (by split <;> rename_i q <;> first | exact hxe | rfl | (exfalso; unfold zi at q; (try unfold zi at h3); omega)) ?_ ?_ ?_)
      · focus (split <;> rename_i q <;> first | exact hacl | (exfalso; first | exact h5 q | exact q h5) | rfl)
      · focus (split <;> rename_i q <;> first | exact hdf | (exfalso; first | exact h6 q.1 | exact h7 q.2 | exact q ⟨h6, h7⟩) | rfl)
      · focus (split <;> rename_i q <;> first | exact hce | (exfalso; first | exact h9 q.1 | exact h10 q.2.1 | exact h11 q.2.2 | exact absurd q.2.2 (Int.not_lt.2 h11) | exact q ⟨h9, h10, h11⟩) | rfl))
end Go.Proofs.Ytgjlkcdnlndlnaa
/- The law RightModes, walked: it answers true whatever the numbers. -/
namespace Go.Proofs.Ytgjlkcdnlndlnaa
open Go Go.Proofs.Ytgjlkcdnlndlnaa.Sx F
set_option linter.unusedVariables false
set_option linter.unusedSimpArgs false
theorem band_7 (x : Int) : 0 ≤ band x 7 ∧ band x 7 < 8 := by
  have := band_le (x := x) (y := 7) (by decide) (by decide)
  omega
end Go.Proofs.Ytgjlkcdnlndlnaa
/- Who can what: the law of lists, in plain Lean. -/
namespace Go.Proofs.Ytgjlkcdnlndlnaa
open Go Go.Proofs.Ytgjlkcdnlndlnaa.Sx F
set_option linter.unusedVariables false
set_option linter.unusedSimpArgs false
structure Good (l : List Ace) : Prop where
  perm : ∀ a ∈ l, 0 ≤ a.perm ∧ a.perm < 8
  own : ∃ a ∈ l, a.tag = 1
  grp : ∃ a ∈ l, a.tag = 3
  oth : ∃ a ∈ l, a.tag = 6
theorem mem_addS {a x : Ace} : ∀ {l : List Ace}, x ∈ addS a l → x = a ∨ x ∈ l
  | [], h => by simp [addS] at h; exact .inl h
  | y :: r, h => by
    unfold addS at h
    split at h
    · rcases List.mem_cons.1 h with h | h
      · exact .inr (by simp [h])
      · rcases mem_addS h with h | h
        · exact .inl h
        · exact .inr (by simp [h])
    · split at h
      · rcases List.mem_cons.1 h with h | h
        · exact .inl h
        · exact .inr (by simp [h])
      · rcases List.mem_cons.1 h with h | h
        · exact .inl h
        · exact .inr h
theorem accS_perm {ns : List Int} (hns : isBytes ns) : ∀ k, (∀ a ∈ (accS ns k).1, (0 ≤ a.perm ∧ a.perm < 8) ∧ a.tag = 2) ∧ ∀ a ∈ (accS ns k).2, (0 ≤ a.perm ∧ a.perm < 8) ∧ a.tag = 4
  | 0 => by simp [accS]
  | k + 1 => by
    obtain ⟨h1, h2⟩ := accS_perm hns k
    have hp : 0 ≤ (ns.getD (2 * k + 1) 0).tmod 8 ∧ (ns.getD (2 * k + 1) 0).tmod 8 < 8 := ⟨Int.tmod_nonneg _ (byte_at hns).1, Int.tmod_lt_of_pos _ (by decide)⟩
    unfold accS
    split
    · refine ⟨fun a ha => ?_, h2⟩
      rcases mem_addS ha with rfl | ha
      · exact ⟨hp, rfl⟩
      · exact h1 a ha
    · refine ⟨h1, fun a ha => ?_⟩
      rcases mem_addS ha with rfl | ha
      · exact ⟨hp, rfl⟩
      · exact h2 a ha
theorem bxor_8 {a b : Int} (ha : 0 ≤ a ∧ a < 8) (hb : 0 ≤ b ∧ b < 8) : 0 ≤ bxor a b ∧ bxor a b < 8 := by
  have : ∀ x y : Fin 8, 0 ≤ bxor (x.1 : Int) (y.1 : Int) ∧ bxor (x.1 : Int) (y.1 : Int) < 8 := by decide +kernel
  have := this ⟨a.toNat, by omega⟩ ⟨b.toNat, by omega⟩
  rwa [show ((⟨a.toNat, by omega⟩ : Fin 8).1 : Int) = a from Int.toNat_of_nonneg ha.1, show ((⟨b.toNat, by omega⟩ : Fin 8).1 : Int) = b from Int.toNat_of_nonneg hb.1] at this
theorem good_l9 {ns : List Int} (hns : isBytes ns) (m : Int) : Good (l9S ns m) := by
  obtain ⟨h1, h2⟩ := accS_perm hns (pairs ns)
  have hp : 0 ≤ (ns.getD 0 0).tmod 8 ∧ (ns.getD 0 0).tmod 8 < 8 := ⟨Int.tmod_nonneg _ (byte_at hns).1, Int.tmod_lt_of_pos _ (by decide)⟩
  unfold l9S
  dsimp only
  split
  · refine ⟨fun a ha => ?_, ⟨⟨1, 0, band (m.fdiv (2 ^ 6)) 7⟩, by simp, rfl⟩, ⟨⟨3, 0, band (m.fdiv (2 ^ 3)) 7⟩, by simp, rfl⟩, ⟨⟨6, 0, band m 7⟩, by simp, rfl⟩⟩
    simp only [List.mem_append, List.mem_cons, List.not_mem_nil, or_false] at ha
    rcases ha with (rfl | ha) | rfl | rfl
    · exact band_7 _
    · exact (h1 a ha).1
    · exact band_7 _
    · exact band_7 _
  · refine ⟨fun a ha => ?_, ⟨⟨1, 0, band (m.fdiv (2 ^ 6)) 7⟩, by simp, rfl⟩, ⟨⟨3, 0, bxor (band (m.fdiv (2 ^ 3)) 7) ((ns.getD 0 0).tmod 8)⟩, by simp, rfl⟩, ⟨⟨6, 0, band m 7⟩, by simp, rfl⟩⟩
    simp only [List.mem_append, List.mem_cons, List.not_mem_nil, or_false] at ha
    rcases ha with (((rfl | ha) | rfl) | ha) | rfl | rfl
    · exact band_7 _
    · exact (h1 a ha).1
    · exact bxor_8 (band_7 _) hp
    · exact (h2 a ha).1
    · exact band_7 _
    · exact band_7 _
theorem good_mode (m : Int) : Good (fromMode m) := by
  have h := band_le (x := m) (y := 511) (by decide) (by decide)
  refine ⟨fun a ha => ?_, ⟨_, .head _, rfl⟩, ⟨_, .tail _ (.head _), rfl⟩, ⟨_, .tail _ (.tail _ (.head _)), rfl⟩⟩
  simp only [fromMode, List.mem_cons, List.not_mem_nil, or_false] at ha
  rcases ha with rfl | rfl | rfl
  · show 0 ≤ (band m 511).fdiv 64 ∧ (band m 511).fdiv 64 < 8
    rw [Int.fdiv_eq_ediv_of_nonneg _ (by decide)]
    omega
  · exact band_7 _
  · exact band_7 _
theorem l9_len (ns : List Int) (m : Int) : (l9S ns m).length ≤ 17 := by
  have h := accS_len ns (pairs ns)
  have hp : pairs ns ≤ 6 := Nat.min_le_left _ _
  unfold l9S
  dsimp only
  split <;> simp only [List.length_append, List.length_cons, List.length_nil] <;> omega
theorem MadeM.good {ns : List Int} {m : Meta} (h : MadeM ns m) : Good (ofS m) := by
  unfold ofS
  split
  · rename_i hl
    rcases h.acl with h | ⟨ns', h1, h2⟩
    · rw [h] at hl; simp at hl
    · rw [h2]; exact good_l9 h1 _
  · exact good_mode _
theorem dflt_len {k : Int} {m : Meta} (h : MadeK k m) : m.dflt.length ≤ 17 := by
  rcases h.dflt with h | ⟨_, ns', n, _, _, h⟩
  · rw [h]; simp
  · rw [h]; exact l9_len _ _
theorem MadeM.len {ns : List Int} {m : Meta} (h : MadeM ns m) : m.acl.length ≤ 17 := by
  rcases h.acl with h | ⟨ns', h1, h2⟩
  · rw [h]; simp
  · rw [h2]; exact l9_len _ _
theorem MadeM.short {ns : List Int} {m : Meta} (h : MadeM ns m) : _root_.Go.Proofs.Ytgjlkcdnlndlnaa.short m.acl := Nat.le_trans h.len (by decide)
theorem perm_some {l : List Ace} (h : Good l) {t : Int} (ht : ∃ a ∈ l, a.tag = t) : ∃ p, permS l t = some p ∧ 0 ≤ p ∧ p < 8 := by
  obtain ⟨a, ha, hat⟩ := ht
  unfold permS
  cases hf : l.find? fun a => decide (a.tag = t) with
  | none => exact absurd (List.find?_eq_none.1 hf a ha) (by simp [hat])
  | some b => exact ⟨b.perm, rfl, h.perm b (List.mem_of_find?_eq_some hf)⟩
end Go.Proofs.Ytgjlkcdnlndlnaa
/- right.Less, walked, and what it answers. -/
namespace Go.Proofs.Ytgjlkcdnlndlnaa
open Go Go.Proofs.Ytgjlkcdnlndlnaa.Sx F
set_option linter.unusedVariables false
set_option linter.unusedSimpArgs false
/-- What a right may, another may. -/
def sub (x y : Int) : Prop := ∀ w, 0 ≤ w → w < 8 → hasS w x = true → hasS w y = true
end Go.Proofs.Ytgjlkcdnlndlnaa
/- The document's answers on rights, walked. -/
namespace Go.Proofs.Ytgjlkcdnlndlnaa
open Go Go.Proofs.Ytgjlkcdnlndlnaa.Sx F
set_option linter.unusedVariables false
set_option linter.unusedSimpArgs false
def permR (l : List Ace) (t : Int) : Int := (permS l t).getD (-1)
end Go.Proofs.Ytgjlkcdnlndlnaa
/- What may be said of a node: its parts, walked. -/
namespace Go.Proofs.Ytgjlkcdnlndlnaa
open Go Go.Proofs.Ytgjlkcdnlndlnaa.Sx F
set_option linter.unusedVariables false
set_option linter.unusedSimpArgs false
def StampOk (s n : Int) : Prop := -1099511627776 ≤ s ∧ s ≤ 1099511627776 ∧ 0 ≤ n ∧ n < 1000000000
def stampAv (s n : Th Int) : AV := .agg (.cons (.int .i64 s) (.cons (.int .i64 n) .nil))
theorem stamp_c (s n : Th Int) {d : Nat} {K : ARes → BL → Prop} (hr : ∀ b : Th Bool, (b .o = true ↔ StampOk (s .o) (n .o)) → K (.ret (.bool b)) .nil) : CallAt PT stamp_May [stampAv s n] d .nil K := by
  refine CallAt.res ?_
  refine stamp_May.of rfl rfl ?_
  cbv
  (repeat' (first | (refine br_dec (fun h => ?_) (fun h => ?_) <;> cbv) | (refine br_rev (br_dec (fun h => ?_) (fun h => ?_)) <;> cbv) | (refine br_ndec (fun h => ?_) (fun h => ?_) <;> cbv) | (refine br_rev (br_ndec (fun h => ?_) (fun h => ?_)) <;> cbv)))
  all_goals (first | exact ⟨_, .ret (.tt rfl), hr (fun _ => true) (by (try dsimp only at *); (try simp only [decide_eq_true_eq, true_iff, false_iff, Bool.false_eq_true, StampOk]); omega)⟩ | exact ⟨_, .ret (.ff rfl), hr (fun _ => false) (by (try dsimp only at *); (try simp only [decide_eq_true_eq, true_iff, false_iff, Bool.false_eq_true, StampOk]); omega)⟩ | exact ⟨_, .ret (.refl _), hr _ (by (try dsimp only at *); (try simp only [decide_eq_true_eq, true_iff, false_iff, Bool.false_eq_true, StampOk]); omega)⟩)
def IdOk (n : Int) : Prop := 0 ≤ n ∧ n ≤ 2147483647
def Caps.zero : Caps := ⟨0, 0, 0, false, 0⟩
def CapsOk (c : Caps) : Prop := c = Caps.zero ∨ (c.ver = 2 ∧ c.root = 0) ∨ (c.ver = 3 ∧ 0 ≤ c.root ∧ c.root ≤ 2147483647)
def Caps.ch (c : Th Caps) : AV := .cons (.int .i64 fun _ => (c .o).ver) (.cons (.int .u64 fun _ => (c .o).perm) (.cons (.int .u64 fun _ => (c .o).inh) (.cons (.bool fun _ => (c .o).eff) (.cons (.int .i64 fun _ => (c .o).root) .nil))))
def Caps.av (c : Th Caps) : AV := .agg (Caps.ch c)
theorem Caps.zero_iff (c : Caps) : (decide (c.ver = 0) && (decide (c.perm = 0) && (decide (c.inh = 0) && ((c.eff == false) && (decide (c.root = 0) && true))))) = true ↔ c = Caps.zero := by
  obtain ⟨a, b, d, e, f⟩ := c
  unfold Caps.zero
  simp
theorem caps_c (c : Th Caps) {d : Nat} {K : ARes → BL → Prop} (hr : ∀ b : Th Bool, (b .o = true ↔ CapsOk (c .o)) → K (.ret (.bool b)) .nil) : CallAt PT caps_May [Caps.av c] d .nil K := by
  refine CallAt.res ?_
  refine caps_May.of rfl rfl ?_
  cbv
  refine br_dec (fun h1 => ?_) (fun h1 => ?_)
  · have h1 : (c .o).ver = 0 := h1
    cbv
    refine ⟨_, .ret (.refl _), hr _ ((Caps.zero_iff _).trans ⟨.inl, fun q => ?_⟩)⟩
    rcases q with q | q | q
    · exact q
    · omega
    · omega
  have h1 : ¬ (c .o).ver = 0 := h1
  have hz : c .o ≠ Caps.zero := fun q => h1 (by rw [q]; rfl)
  cbv
  refine br_dec (fun h2 => ?_) (fun h2 => ?_)
  · have h2 : (c .o).ver = 2 := h2
    cbv
    exact ⟨_, .ret (.refl _), hr _ ⟨fun q => .inr (.inl ⟨h2, of_decide_eq_true q⟩), fun q => decide_eq_true (by rcases q with q | q | q; exact absurd q hz; exact q.2; show (c .o).root = 0; omega)⟩⟩
  have h2 : ¬ (c .o).ver = 2 := h2
  cbv
  refine br_dec (fun h3 => ?_) (fun h3 => ?_)
  · have h3 : (c .o).ver = 3 := h3
    cbv
    have hc : CapsOk (c .o) ↔ 0 ≤ (c .o).root ∧ (c .o).root ≤ 2147483647 := ⟨fun q => by rcases q with q | q | q; exact absurd q hz; omega; exact q.2, fun q => .inr (.inr ⟨h3, q⟩)⟩
    rw [hc] at hr
    (repeat' (first | (refine br_dec (fun h => ?_) (fun h => ?_) <;> cbv) | (refine br_rev (br_dec (fun h => ?_) (fun h => ?_)) <;> cbv) | (refine br_ndec (fun h => ?_) (fun h => ?_) <;> cbv) | (refine br_rev (br_ndec (fun h => ?_) (fun h => ?_)) <;> cbv)))
    all_goals (first | exact ⟨_, .ret (.tt rfl), hr (fun _ => true) (by (try dsimp only at *); (try simp only [decide_eq_true_eq, true_iff, false_iff, Bool.false_eq_true, and_self]); omega)⟩ | exact ⟨_, .ret (.ff rfl), hr (fun _ => false) (by (try dsimp only at *); (try simp only [decide_eq_true_eq, true_iff, false_iff, Bool.false_eq_true, and_self]); omega)⟩ | exact ⟨_, .ret (.refl _), hr _ (by (try dsimp only at *); (try simp only [decide_eq_true_eq, true_iff, false_iff, Bool.false_eq_true, and_self]); omega)⟩)
  have h3 : ¬ (c .o).ver = 3 := h3
  cbv
  exact ⟨_, .ret (.ff rfl), hr (fun _ => false) ⟨fun q => (by cases q), fun q => (by rcases q with q | q | q <;> first | exact absurd q hz | omega)⟩⟩
end Go.Proofs.Ytgjlkcdnlndlnaa
/- The document's mode that gives nobody more, walked; and that it is the program's. -/
namespace Go.Proofs.Ytgjlkcdnlndlnaa
open Go Go.Proofs.Ytgjlkcdnlndlnaa.Sx F
set_option linter.unusedVariables false
set_option linter.unusedSimpArgs false
end Go.Proofs.Ytgjlkcdnlndlnaa
/- The law RightMade, walked: the program's rights are the document's, of what is made by numbers. -/
namespace Go.Proofs.Ytgjlkcdnlndlnaa
open Go Go.Proofs.Ytgjlkcdnlndlnaa.Sx F
set_option linter.unusedVariables false
set_option linter.unusedSimpArgs false
end Go.Proofs.Ytgjlkcdnlndlnaa
/- Which lists may be: r9.MayAcl walked, as far as the rights want it. -/
namespace Go.Proofs.Ytgjlkcdnlndlnaa
open Go Go.Proofs.Ytgjlkcdnlndlnaa.Sx F
set_option linter.unusedVariables false
set_option linter.unusedSimpArgs false
theorem band_mod9 (x : Int) : band x 511 = x % 512 := by
  have he : band x 511 = IntKind.i64.wrap ((BitVec.ofInt 64 x &&& BitVec.ofInt 64 511).toNat : Int) := rfl
  rw [he, BitVec.toNat_and, show (BitVec.ofInt 64 511).toNat = 2 ^ 9 - 1 from rfl, Nat.and_two_pow_sub_one_eq_mod, BitVec.toNat_ofInt, IntKind.wrap_i64]
  omega
theorem band_mod3 (x : Int) : band x 7 = x % 8 := by
  have he : band x 7 = IntKind.i64.wrap ((BitVec.ofInt 64 x &&& BitVec.ofInt 64 7).toNat : Int) := rfl
  rw [he, BitVec.toNat_and, show (BitVec.ofInt 64 7).toNat = 2 ^ 3 - 1 from rfl, Nat.and_two_pow_sub_one_eq_mod, BitVec.toNat_ofInt, IntKind.wrap_i64]
  omega
end Go.Proofs.Ytgjlkcdnlndlnaa
/- Which access lists may be: walked, exact. -/
namespace Go.Proofs.Ytgjlkcdnlndlnaa
open Go Go.Proofs.Ytgjlkcdnlndlnaa.Sx F
set_option linter.unusedVariables false
set_option linter.unusedSimpArgs false
def namedT (t : Int) : Prop := t = 2 ∨ t = 4
def AceOk (a : Ace) : Prop := 0 ≤ a.perm ∧ a.perm ≤ 7 ∧ 0 ≤ a.id ∧ a.id ≤ 2147483647 ∧ (a.id = 0 ∨ a.tag = 2 ∨ a.tag = 4)
def aft (a b : Ace) : Prop := a.tag < b.tag ∨ a.tag = b.tag ∧ a.id < b.id
def cntN (l : List Ace) (k t : Nat) : Nat := (l.take k).countP fun a => decide (a.tag = (t : Int))
structure AclTo (l : List Ace) (k : Nat) : Prop where
  tag : ∀ j, j < k → 1 ≤ (l.getD j Ace.z).tag ∧ (l.getD j Ace.z).tag ≤ 6
  ok : ∀ j, j < k → AceOk (l.getD j Ace.z)
  up : ∀ j, j + 1 < k → aft (l.getD j Ace.z) (l.getD (j + 1) Ace.z)
structure AclOk (l : List Ace) : Prop where
  to : AclTo l l.length
  own : cntN l l.length 1 = 1
  grp : cntN l l.length 3 = 1
  oth : cntN l l.length 6 = 1
  msk : cntN l l.length 5 = min 1 (cntN l l.length 2 + cntN l l.length 4)
  len : l.length ≤ 32
theorem take_succ_getD {α : Type} (l : List α) (z : α) (k : Nat) (h : k < l.length) : l.take (k + 1) = l.take k ++ [l.getD k z] := by
  rw [List.take_succ_eq_append_getElem h, List.getD_eq_getElem?_getD, List.getElem?_eq_getElem h]; rfl
theorem cntN_succ (l : List Ace) (k t : Nat) (h : k < l.length) : cntN l (k + 1) t = cntN l k t + if (l.getD k Ace.z).tag = (t : Int) then 1 else 0 := by
  unfold cntN
  rw [take_succ_getD l Ace.z k h, List.countP_append, List.countP_cons, List.countP_nil]
  by_cases q : (l.getD k Ace.z).tag = (t : Int) <;> simp only [q, decide_true, decide_false, if_true, if_false, Nat.zero_add, Bool.false_eq_true]
theorem cntN_le (l : List Ace) (k t : Nat) : cntN l k t ≤ k := Nat.le_trans List.countP_le_length (List.length_take_le _ _)
theorem cntN_zero (l : List Ace) (t : Nat) : cntN l 0 t = 0 := rfl
theorem AclOk.good {l : List Ace} (h : AclOk l) : Good l := by
  have one : ∀ t : Nat, cntN l l.length t = 1 → ∃ a ∈ l, a.tag = (t : Int) := by
    intro t ht
    unfold cntN at ht
    rw [List.take_length] at ht
    obtain ⟨a, ha, hat⟩ := List.countP_pos_iff.1 (by rw [ht]; exact Nat.one_pos)
    exact ⟨a, ha, by simpa using hat⟩
  refine ⟨fun a ha => ?_, one 1 h.own, one 3 h.grp, one 6 h.oth⟩
  obtain ⟨j, hj, rfl⟩ := List.getElem_of_mem ha
  have := h.to.ok j hj
  unfold AceOk at this
  rw [List.getD_eq_getElem?_getD, List.getElem?_eq_getElem hj] at this
  exact ⟨this.1, by have := this.2.1; simp only [Option.getD_some] at this; omega⟩
def cntL (l : List Ace) (k : Nat) : List Int := (List.range 7).map fun t => (cntN l k t : Int)
theorem cntL_len (l : List Ace) (k : Nat) : (cntL l k).length = 7 := by simp [cntL]
theorem cntL_at (l : List Ace) (k : Nat) {t : Nat} (h : t < 7) : (cntL l k).getD t 0 = (cntN l k t : Int) := by
  unfold cntL
  rw [List.getD_eq_getElem?_getD, List.getElem?_map, List.getElem?_range h]; rfl
theorem cntL_succ (l : List Ace) (k : Nat) (hk : k < l.length) {t : Nat} (ht : t < 7) (he : (l.getD k Ace.z).tag = (t : Int)) : (cntL l k).set t ((cntN l k t : Int) + 1) = cntL l (k + 1) := by
  apply List.ext_getElem?
  intro i
  rw [List.getElem?_set]
  unfold cntL
  rw [List.getElem?_map, List.getElem?_map, List.length_map, List.length_range]
  by_cases hi : i < 7
  · rw [List.getElem?_range hi]
    simp only [Option.map_some]
    rw [cntN_succ l k i hk, he]
    by_cases q : t = i
    · subst q; simp [ht]
    · rw [if_neg q, if_neg (by omega)]; simp
  · rw [List.getElem?_eq_none (by simp; omega)]
    simp only [Option.map_none]
    rw [if_neg (by omega)]
theorem aclnamed_c (t : Th Int) {d : Nat} {K : ARes → BL → Prop} (hr : ∀ b : Th Bool, (b .o = true ↔ namedT (t .o)) → K (.ret (.bool b)) .nil) : CallAt PT acl_named [.int .i64 t] d .nil K := by
  refine CallAt.res ?_
  refine acl_named.of rfl rfl ?_
  cbv
  (repeat' (first | (refine br_dec (fun h => ?_) (fun h => ?_) <;> cbv) | (refine br_rev (br_dec (fun h => ?_) (fun h => ?_)) <;> cbv) | (refine br_ndec (fun h => ?_) (fun h => ?_) <;> cbv) | (refine br_rev (br_ndec (fun h => ?_) (fun h => ?_)) <;> cbv)))
  all_goals (first | exact ⟨_, .ret (.tt rfl), hr (fun _ => true) (by (try dsimp only at *); (try simp only [decide_eq_true_eq, true_iff, false_iff, Bool.false_eq_true, namedT]); omega)⟩ | exact ⟨_, .ret (.ff rfl), hr (fun _ => false) (by (try dsimp only at *); (try simp only [decide_eq_true_eq, true_iff, false_iff, Bool.false_eq_true, namedT]); omega)⟩ | exact ⟨_, .ret (.refl _), hr _ (by (try dsimp only at *); (try simp only [decide_eq_true_eq, true_iff, false_iff, Bool.false_eq_true, namedT]); omega)⟩)
theorem mayace_c (a : Th Ace) {d : Nat} {K : ARes → BL → Prop} (hr : ∀ b : Th Bool, (b .o = true ↔ AceOk (a .o)) → K (.ret (.bool b)) .nil) : CallAt PT acl_mayAce [Ace.av a] d .nil K := by
  refine CallAt.res ?_
  refine acl_mayAce.of rfl rfl ?_
  cbv
  (repeat' (first | (refine br_dec (fun h => ?_) (fun h => ?_) <;> cbv) | (refine br_rev (br_dec (fun h => ?_) (fun h => ?_)) <;> cbv) | (refine br_ndec (fun h => ?_) (fun h => ?_) <;> cbv) | (refine br_rev (br_ndec (fun h => ?_) (fun h => ?_)) <;> cbv)))
  all_goals try (first | exact ⟨_, .ret (.tt rfl), hr (fun _ => true) (by (try dsimp only at *); (try simp only [decide_eq_true_eq, true_iff, false_iff, Bool.false_eq_true, AceOk]); omega)⟩ | exact ⟨_, .ret (.ff rfl), hr (fun _ => false) (by (try dsimp only at *); (try simp only [decide_eq_true_eq, true_iff, false_iff, Bool.false_eq_true, AceOk]); omega)⟩ | exact ⟨_, .ret (.refl _), hr _ (by (try dsimp only at *); (try simp only [decide_eq_true_eq, true_iff, false_iff, Bool.false_eq_true, AceOk]); omega)⟩)
  refine aclnamed_c (fun _ => (a .o).tag) fun b hb => ?_
  cbv
  refine ⟨_, .ret (.refl _), hr _ ?_⟩
  show b .o = true ↔ _
  rw [hb]
  (try dsimp only at *)
  simp only [AceOk, namedT]
  omega
end Go.Proofs.Ytgjlkcdnlndlnaa
/- Which access lists may be: the loops walked, exact. -/
namespace Go.Proofs.Ytgjlkcdnlndlnaa
open Go Go.Proofs.Ytgjlkcdnlndlnaa.Sx F
set_option linter.unusedVariables false
set_option linter.unusedSimpArgs false
def lastA (l : List Ace) (k : Nat) : Ace := if k = 0 then Ace.z else l.getD (k - 1) Ace.z
theorem aclTo_succ {l : List Ace} {k : Nat} (h : AclTo l k) (h1 : 1 ≤ (l.getD k Ace.z).tag ∧ (l.getD k Ace.z).tag ≤ 6) (h2 : AceOk (l.getD k Ace.z)) (h3 : k = 0 ∨ aft (lastA l k) (l.getD k Ace.z)) : AclTo l (k + 1) := by
  refine ⟨fun j hj => ?_, fun j hj => ?_, fun j hj => ?_⟩
  · rcases Nat.lt_or_ge j k with q | q
    · exact h.tag j q
    · obtain rfl : j = k := by omega
      exact h1
  · rcases Nat.lt_or_ge j k with q | q
    · exact h.ok j q
    · obtain rfl : j = k := by omega
      exact h2
  · rcases Nat.lt_or_ge (j + 1) k with q | q
    · exact h.up j q
    · obtain rfl : k = j + 1 := by omega
      rcases h3 with h3 | h3
      · omega
      · unfold lastA at h3
        rw [if_neg (by omega)] at h3
        exact h3
theorem aclTo_aft {l : List Ace} {k : Nat} (h : AclTo l l.length) (hk : k < l.length) : aft (lastA l k) (l.getD k Ace.z) := by
  unfold lastA
  split
  · exact .inl (by have := (h.tag k hk).1; show (0 : Int) < _; omega)
  · have := h.up (k - 1) (by omega)
    rwa [show k - 1 + 1 = k by omega] at this
theorem min_wrap (n m : Nat) (hn : n ≤ 140737488355328) (hm : m ≤ 140737488355328) : (if IntKind.i64.wrap ((n : Int) + (m : Int)) < 1 then IntKind.i64.wrap ((n : Int) + (m : Int)) else 1) = ((min 1 (n + m) : Nat) : Int) := by
  have e : IntKind.i64.wrap ((n : Int) + (m : Int)) = (n : Int) + (m : Int) := by rw [IntKind.wrap_i64]; omega
  rw [e]
  split <;> omega
theorem aclmay_c (l : Th (List Ace)) (hl : short (l .o)) {d : Nat} {K : ARes → BL → Prop} (hr : ∀ b : Th Bool, (b .o = true ↔ AclOk (l .o)) → K (.ret (.bool b)) .nil) : CallAt PT acl_May [aces l] d .nil K := by
  refine CallAt.res ?_
  have hf : ¬ AclOk (l .o) → ∃ r', SameR (.ret .ff) r' ∧ K r' .nil := fun h => ⟨_, .ret (.ff rfl), hr (fun _ => false) ⟨fun q => (by cases q), fun q => (h q).elim⟩⟩
  refine acl_May.of rfl rfl ?_
  cbv
  refine loop_at (X := Nat) 1000 [0, 3, 4, 9, 10] [] (fun _ k => .cons 11 (.int .i64 fun _ => zi k) .nil) (fun _ k => .cons 3 (rowB 1 intCh 0 fun _ => cntL (l .o) k) (.cons 4 (.cells (Ace.ch fun _ => lastA (l .o) k)) .nil))
    (fun k => k ≤ (l .o).length ∧ AclTo (l .o) k) (fun k => (l .o).length - k) 0 ?_ ⟨Nat.zero_le _, ⟨fun j hj => by omega, fun j hj => by omega, fun j hj => by omega⟩⟩ ?_
  · cbv
    (repeat' (first | exact True.intro | exact Same.refl _ | exact SameB.refl _ | exact ⟨rfl⟩ | exact Same.int rfl | exact Same.str rfl | exact Same.bool rfl | (refine Same.int ?_; simp only [List.length_append, List.length_cons, List.length_nil, zi]; omega) | (refine SameB.row' rfl fun i hi => ?_; first | rfl | exact absurd hi (Nat.not_lt_zero _)) | refine And.intro ?_ ?_ | refine SameB.cells ?_ | exact SameC.nil | refine SameC.cons ?_ ?_ | exact Same.nsl rfl | exact Same.tt rfl | exact Same.ff rfl))
    all_goals
      refine SameB.row' rfl fun i hi => ?_
      have hi : i < 7 := hi
      match i, hi with
      | 0, _ | 1, _ | 2, _ | 3, _ | 4, _ | 5, _ | 6, _ => rfl
  · rintro k ⟨hk, hto⟩
    have hz := zi_toNat k
    have hcl := cntL_len (l .o) k
    cbv
    ((try refine br_rev ?_); (first | refine br_dec (fun h3 => ?_) (fun h3 => ?_) | refine br_ndec (fun h3 => ?_) (fun h3 => ?_) | refine br_nbool (fun h3 => ?_) (fun h3 => ?_) | refine br_bool (fun h3 => ?_) (fun h3 => ?_)); all_goals (try dsimp only at h3); all_goals (try with_reducible replace h3 := zi_lt.1 h3); all_goals (try with_reducible replace h3 := not_zlt h3))
    · have h3 : k < (l .o).length := h3
      cbv
      refine safe ⟨zi_nonneg _, zi_lt.2 h3⟩ ?_
      rw [hz]
      refine br_rev (br_dec (fun h4 => ?_) (fun h4 => ?_))
      · cbv
        exact hf fun q => by have := (q.to.tag k h3).1; have h4 : ((l .o).getD k Ace.z).tag < 1 := h4; omega
      have h4 : ¬ ((l .o).getD k Ace.z).tag < 1 := h4
      cbv
      refine br_rev (br_dec (fun h5 => ?_) (fun h5 => ?_))
      · cbv
        exact hf fun q => by have := (q.to.tag k h3).2; have h5 : 6 < ((l .o).getD k Ace.z).tag := h5; omega
      have h5 : ¬ 6 < ((l .o).getD k Ace.z).tag := h5
      cbv
      refine mayace_c (fun _ => (l .o).getD k Ace.z) fun b hb => ?_
      cbv
      refine br_rev (br_nbool (fun h6 => ?_) (fun h6 => ?_))
      · cbv
        exact hf fun q => by have := hb.2 (q.to.ok k h3); rw [this] at h6; cases h6
      have hok := hb.1 h6
      cbv
      refine br_rev (br_dec (fun h7 => ?_) (fun h7 => ?_))
      · have h7 : ((l .o).getD k Ace.z).tag < (lastA (l .o) k).tag := h7
        cbv
        exact hf fun q => by rcases aclTo_aft q.to h3 with q | q <;> omega
      have h7 : ¬ ((l .o).getD k Ace.z).tag < (lastA (l .o) k).tag := h7
      cbv
      have next : aft (lastA (l .o) k) ((l .o).getD k Ace.z) → AclTo (l .o) (k + 1) := fun q => aclTo_succ hto ⟨by omega, by omega⟩ hok (.inr q)
      have hT : 0 ≤ ((l .o).getD k Ace.z).tag ∧ ((l .o).getD k Ace.z).tag < zi (cntL (l .o) k).length ∧ ((l .o).getD k Ace.z).tag < zi 7 := by
        rw [hcl]
        have : zi 7 = 7 := rfl
        omega
      have hTn : ((l .o).getD k Ace.z).tag.toNat < (cntL (l .o) k).length := by rw [hcl]; omega
      have htt : ((l .o).getD k Ace.z).tag = ((((l .o).getD k Ace.z).tag.toNat : Nat) : Int) := by omega
      have hcn := cntN_le (l .o) k ((l .o).getD k Ace.z).tag.toNat
      have hset : (cntL (l .o) k).set ((l .o).getD k Ace.z).tag.toNat (IntKind.i64.wrap ((cntL (l .o) k).getD ((l .o).getD k Ace.z).tag.toNat 0 + 1)) = cntL (l .o) (k + 1) := by
        rw [cntL_at _ _ (by omega), show IntKind.i64.wrap ((cntN (l .o) k ((l .o).getD k Ace.z).tag.toNat : Int) + 1) = (cntN (l .o) k ((l .o).getD k Ace.z).tag.toNat : Int) + 1 by rw [IntKind.wrap_i64]; unfold short at hl; omega]
        exact cntL_succ _ _ h3 (by omega) htt
      have hlast : lastA (l .o) (k + 1) = (l .o).getD k Ace.z := by unfold lastA; rw [if_neg (by omega)]; rfl
      have succ := zi_succ (k := k) (by unfold short at hl; omega)
      refine br_dec (fun h8 => ?_) (fun h8 => ?_)
      · have h8 : ((l .o).getD k Ace.z).tag = (lastA (l .o) k).tag := h8
        cbv
        refine br_dec (fun h9 => ?_) (fun h9 => ?_)
        · have h9 : ((l .o).getD k Ace.z).id ≤ (lastA (l .o) k).id := h9
          cbv
          exact hf fun q => by rcases aclTo_aft q.to h3 with q | q <;> omega
        have h9 : ¬ ((l .o).getD k Ace.z).id ≤ (lastA (l .o) k).id := h9
        replace next := next (.inr ⟨h8.symm, by omega⟩)
        cbv
        refine safe hT ?_
        refine safe hTn ?_
        refine safe hT ?_
        refine put_rows intCh 0 (cntL (l .o) k) (IntKind.i64.wrap ((cntL (l .o) k).getD ((l .o).getD k Ace.z).tag.toNat 0 + 1)) rfl (fun i hi => rfl) hTn rfl ?_
        cbv
        rw [hset]
        refine ⟨k + 1, ⟨h3, next⟩, by omega, ?_⟩
        cbv
        rw [hlast]
        (repeat' (first | exact True.intro | exact Same.refl _ | exact SameB.refl _ | exact ⟨rfl⟩ | exact Same.int rfl | exact Same.str rfl | exact Same.bool rfl | (refine Same.int ?_; simp only [List.length_append, List.length_cons, List.length_nil, zi]; omega) | (refine SameB.row' rfl fun i hi => ?_; first | rfl | exact absurd hi (Nat.not_lt_zero _)) | refine And.intro ?_ ?_ | refine SameB.cells ?_ | exact SameC.nil | refine SameC.cons ?_ ?_ | exact Same.nsl rfl | exact Same.tt rfl | exact Same.ff rfl))
        all_goals first | exact Same.int succ | exact SameB.row' (by simp [cntL]) fun i hi => rfl
      · have h8 : ¬ ((l .o).getD k Ace.z).tag = (lastA (l .o) k).tag := h8
        replace next := next (.inl (by omega))
        cbv
        refine safe hT ?_
        refine safe hTn ?_
        refine safe hT ?_
        refine put_rows intCh 0 (cntL (l .o) k) (IntKind.i64.wrap ((cntL (l .o) k).getD ((l .o).getD k Ace.z).tag.toNat 0 + 1)) rfl (fun i hi => rfl) hTn rfl ?_
        cbv
        rw [hset]
        refine ⟨k + 1, ⟨h3, next⟩, by omega, ?_⟩
        cbv
        rw [hlast]
        (repeat' (first | exact True.intro | exact Same.refl _ | exact SameB.refl _ | exact ⟨rfl⟩ | exact Same.int rfl | exact Same.str rfl | exact Same.bool rfl | (refine Same.int ?_; simp only [List.length_append, List.length_cons, List.length_nil, zi]; omega) | (refine SameB.row' rfl fun i hi => ?_; first | rfl | exact absurd hi (Nat.not_lt_zero _)) | refine And.intro ?_ ?_ | refine SameB.cells ?_ | exact SameC.nil | refine SameC.cons ?_ ?_ | exact Same.nsl rfl | exact Same.tt rfl | exact Same.ff rfl))
        all_goals first | exact Same.int succ | exact SameB.row' (by simp [cntL]) fun i hi => rfl
    · obtain rfl : k = (l .o).length := by have h3 : (l .o).length ≤ k := h3; omega
      have cn : ∀ t : Nat, t < 7 → 0 ≤ (t : Int) ∧ (t : Int) < zi (cntL (l .o) (l .o).length).length ∧ (t : Int) < zi 7 := fun t ht => by rw [hcl]; unfold zi; omega
      have cm : ∀ t : Nat, t < 7 → t < (cntL (l .o) (l .o).length).length := fun t ht => by rw [hcl]; exact ht
      have cv : ∀ t : Nat, t < 7 → (cntL (l .o) (l .o).length).getD t 0 = (cntN (l .o) (l .o).length t : Int) := fun t ht => cntL_at _ _ ht
      have hc2 := cntN_le (l .o) (l .o).length 2
      have hc4 := cntN_le (l .o) (l .o).length 4
      unfold short at hl
      cbv
      refine safe (cn 2 (by decide)) ?_
      refine safe (cm 2 (by decide)) ?_
      refine safe (cn 4 (by decide)) ?_
      refine safe (cm 4 (by decide)) ?_
      refine safe (cn 1 (by decide)) ?_
      refine safe (cm 1 (by decide)) ?_
      refine br_dec (fun a1 => ?_) (fun a1 => ?_)
      rotate_left
      · cbv
        exact hf fun q => a1 (by show (cntL (l .o) (l .o).length).getD 1 0 = 1; rw [cv 1 (by decide), q.own]; rfl)
      cbv
      refine safe (cn 3 (by decide)) ?_
      refine safe (cm 3 (by decide)) ?_
      refine br_dec (fun a3 => ?_) (fun a3 => ?_)
      rotate_left
      · cbv
        exact hf fun q => a3 (by show (cntL (l .o) (l .o).length).getD 3 0 = 1; rw [cv 3 (by decide), q.grp]; rfl)
      cbv
      refine safe (cn 6 (by decide)) ?_
      refine safe (cm 6 (by decide)) ?_
      refine br_dec (fun a6 => ?_) (fun a6 => ?_)
      rotate_left
      · cbv
        exact hf fun q => a6 (by show (cntL (l .o) (l .o).length).getD 6 0 = 1; rw [cv 6 (by decide), q.oth]; rfl)
      cbv
      refine safe (cn 5 (by decide)) ?_
      refine safe (cm 5 (by decide)) ?_
      have hmin : (if IntKind.i64.wrap ((cntL (l .o) (l .o).length).getD 2 0 + (cntL (l .o) (l .o).length).getD 4 0) < 1 then IntKind.i64.wrap ((cntL (l .o) (l .o).length).getD 2 0 + (cntL (l .o) (l .o).length).getD 4 0) else 1) = ((min 1 (cntN (l .o) (l .o).length 2 + cntN (l .o) (l .o).length 4) : Nat) : Int) := by
        rw [cv 2 (by decide), cv 4 (by decide)]
        exact min_wrap _ _ (by omega) (by omega)
      refine br_dec (fun a5 => ?_) (fun a5 => ?_)
      rotate_left
      · cbv
        exact hf fun q => a5 (by
          show (cntL (l .o) (l .o).length).getD 5 0 = (if IntKind.i64.wrap ((cntL (l .o) (l .o).length).getD 2 0 + (cntL (l .o) (l .o).length).getD 4 0) < 1 then IntKind.i64.wrap ((cntL (l .o) (l .o).length).getD 2 0 + (cntL (l .o) (l .o).length).getD 4 0) else 1); rw [hmin, cv 5 (by decide), q.msk])
      have a5 : (cntL (l .o) (l .o).length).getD 5 0 = (if IntKind.i64.wrap ((cntL (l .o) (l .o).length).getD 2 0 + (cntL (l .o) (l .o).length).getD 4 0) < 1 then IntKind.i64.wrap ((cntL (l .o) (l .o).length).getD 2 0 + (cntL (l .o) (l .o).length).getD 4 0) else 1) := a5
      have a1 : (cntL (l .o) (l .o).length).getD 1 0 = 1 := a1
      have a3 : (cntL (l .o) (l .o).length).getD 3 0 = 1 := a3
      have a6 : (cntL (l .o) (l .o).length).getD 6 0 = 1 := a6
      rw [hmin, cv 5 (by decide)] at a5
      rw [cv 1 (by decide)] at a1
      rw [cv 3 (by decide)] at a3
      rw [cv 6 (by decide)] at a6
      have b1 : cntN (l .o) (l .o).length 1 = 1 := Int.ofNat.inj a1
      have b3 : cntN (l .o) (l .o).length 3 = 1 := Int.ofNat.inj a3
      have b6 : cntN (l .o) (l .o).length 6 = 1 := Int.ofNat.inj a6
      have b5 : cntN (l .o) (l .o).length 5 = min 1 (cntN (l .o) (l .o).length 2 + cntN (l .o) (l .o).length 4) := Int.ofNat.inj a5
      cbv
      refine ⟨_, .ret (.refl _), hr _ ⟨fun q => ⟨hto, b1, b3, b6, b5, ?_⟩, fun q => decide_eq_true ?_⟩⟩
      · have q : zi (l .o).length ≤ 32 := of_decide_eq_true q
        unfold zi at q
        omega
      · show zi (l .o).length ≤ 32
        have := q.len
        unfold zi
        omega
end Go.Proofs.Ytgjlkcdnlndlnaa
/- The document's lists that may be: walked, exact; modes of lists. -/
namespace Go.Proofs.Ytgjlkcdnlndlnaa
open Go Go.Proofs.Ytgjlkcdnlndlnaa.Sx F
set_option linter.unusedVariables false
set_option linter.unusedSimpArgs false
theorem aclOk_three {l : List Ace} (h : AclOk l) : 3 ≤ l.length := by
  have a := h.own
  have b := h.grp
  have c := h.oth
  unfold cntN at a b c
  rw [List.take_length] at a b c
  have hsum : ∀ r : List Ace, r.countP (fun a => decide (a.tag = ((1 : Nat) : Int))) + r.countP (fun a => decide (a.tag = ((3 : Nat) : Int))) + r.countP (fun a => decide (a.tag = ((6 : Nat) : Int))) ≤ r.length := by
    intro r
    induction r with
    | nil => simp
    | cons x r ih =>
      simp only [List.countP_cons, List.length_cons]
      by_cases q1 : x.tag = ((1 : Nat) : Int)
      · have q3 : ¬ x.tag = ((3 : Nat) : Int) := by omega
        have q6 : ¬ x.tag = ((6 : Nat) : Int) := by omega
        simp only [q1, q3, q6, decide_true, decide_false, if_true, if_false, Bool.false_eq_true]
        simp only [q1] at q3 q6
        simp only [q3, q6, decide_false, if_false, Bool.false_eq_true]
        omega
      · by_cases q3 : x.tag = ((3 : Nat) : Int)
        · have q6 : ¬ x.tag = ((6 : Nat) : Int) := by omega
          have e1 : decide (x.tag = ((1 : Nat) : Int)) = false := decide_eq_false q1
          have e3 : decide (x.tag = ((3 : Nat) : Int)) = true := decide_eq_true q3
          have e6 : decide (x.tag = ((6 : Nat) : Int)) = false := decide_eq_false q6
          rw [e1, e3, e6]
          simp only [if_true, Bool.false_eq_true, if_false]
          omega
        · have e1 : decide (x.tag = ((1 : Nat) : Int)) = false := decide_eq_false q1
          have e3 : decide (x.tag = ((3 : Nat) : Int)) = false := decide_eq_false q3
          rw [e1, e3]
          simp only [Bool.false_eq_true, if_false]
          split <;> omega
  have := hsum l
  omega
theorem aclperm1_c (a : Th Ace) (t : Th Int) {d : Nat} {K : ARes → BL → Prop}
    (hr : ∀ b : Th Bool, b .o = decide ((a .o).tag = t .o) → K (.ret (.bool b)) (.cons 10000 (.cells (.cons (.int .i64 t) .nil)) .nil)) : CallAt PT acl_perm_1 [Ace.av a, .ptr 10000 0] d (.cons 10000 (.cells (.cons (.int .i64 t) .nil)) .nil) K := by
  refine acl_perm_1.of rfl rfl ?_
  cbv
  exact hr _ rfl
theorem aclindex_c (l : Th (List Ace)) (t : Th Int) (hl : short (l .o)) {d : Nat} {K : ARes → BL → Prop} (hr : ∀ n : Th Int, n .o = ixP (fun a : Ace => decide (a.tag = t .o)) (l .o) → K (.ret (.int .i64 n)) (.cons 10000 (.cells (.cons (.int .i64 t) .nil)) .nil)) :
    CallAt PT slices_IndexFunc_api_Ace_api_Ace [aces l, .fn (.func acl_perm_1) .nil (.cons (.ptr 10000 0) .nil)] d (.cons 10000 (.cells (.cons (.int .i64 t) .nil)) .nil) K := by
  refine slices_IndexFunc_api_Ace_api_Ace.of rfl rfl ?_
  cbv
  refine loop_rule (X := Nat) 1000 [0, 1, 7] [10000] (fun k => .cons 8 (.int .i64 fun _ => zi k) .nil) (fun _ => .nil) (fun k => k ≤ (l .o).length ∧ ∀ j, j < k → decide (((l .o).getD j Ace.z).tag = t .o) = false) (fun k => (l .o).length - k) 0 ?_ ⟨Nat.zero_le _, fun j hj => by omega⟩ ?_
  · cbv
    exact ⟨⟨.refl _, .refl _, .refl _, .int rfl, trivial⟩, ⟨.refl _, trivial⟩, ⟨rfl⟩⟩
  · intro k hk
    cbv
    refine ⟨fun h1 => ?_, fun h1 => ?_⟩
    · have h1 : k < (l .o).length := zi_lt.1 (of_decide_eq_true h1)
      cbv
      refine ⟨fun _ => ⟨zi_nonneg _, zi_lt.2 h1⟩, ?_⟩
      refine aclperm1_c (fun _ => (l .o).getD (zi k).toNat Ace.z) t fun b hb => ?_
      rw [zi_toNat] at hb
      cbv
      refine ⟨fun h2 => ?_, fun h2 => ?_⟩
      · cbv
        exact hr _ (ixP_at _ Ace.z _ k h1 hk.2 (hb.symm.trans h2)).symm
      · cbv
        refine ⟨k + 1, ⟨h1, ?_⟩, by omega, ?_⟩
        · intro j hj
          by_cases he : j = k
          · subst he; exact hb.symm.trans h2
          · exact hk.2 j (by omega)
        · cbv
          exact ⟨⟨.refl _, .refl _, .refl _, .int (zi_succ (by unfold short at hl; omega)), trivial⟩, ⟨.refl _, trivial⟩, ⟨rfl⟩⟩
    · have h1 : ¬ k < (l .o).length := fun q => of_decide_eq_false h1 (zi_lt.2 q)
      cbv
      exact hr _ (ixP_no _ Ace.z _ fun j hj => hk.2 j (by omega)).symm
theorem aclperm_c (l : Th (List Ace)) (t : Th Int) (hl : short (l .o)) {d : Nat} {K : ARes → BL → Prop} (hr : ∀ n : Th Int, n .o = permR (l .o) (t .o) → K (.ret (.int .i64 n)) .nil) :
    CallAt PT acl_perm [aces l, .int .i64 t] d .nil K := by
  refine CallAt.res ?_
  refine acl_perm.of rfl rfl ?_
  cbv
  refine CallAt.frameP [(10000, 3)] [aces l, .fn (.func acl_perm_1) .nil (.cons (.ptr 10000 0) .nil)] (by kernel_rfl) rfl fun K1 hK1 => ?_
  cbv
  refine aclindex_c l t hl fun n hn => hK1 _ _ ?_
  cbv
  have hfind := ixP_find (fun a : Ace => decide (a.tag = t .o)) Ace.z (l .o)
  refine ⟨fun h1 => ?_, fun h1 => ?_⟩
  · have h1 : n .o < 0 := of_decide_eq_true h1
    cbv
    refine ⟨_, .ret (.refl _), hr (fun _ => -1) ?_⟩
    rcases hfind with ⟨_, h2⟩ | ⟨k, h2, _, _⟩
    · unfold permR permS; rw [h2]; rfl
    · rw [hn, h2] at h1; have := zi_nonneg k; omega
  · have h1 : ¬ n .o < 0 := of_decide_eq_false h1
    rcases hfind with ⟨h2, _⟩ | ⟨k, h2, h3, h4⟩
    · exact (h1 (hn ▸ h2)).elim
    · rw [h2] at hn
      cbv
      refine ⟨fun _ => by rw [hn]; exact ⟨zi_nonneg _, zi_lt.2 h3⟩, ?_⟩
      refine ⟨_, .ret (.refl _), hr _ ?_⟩
      unfold permR permS
      rw [h4]
      show ((l .o).getD (n .o).toNat Ace.z).perm = _
      rw [hn, zi_toNat]; rfl
/-- A list's mode. -/
def modeA (l : List Ace) : Int := permR l 1 * 64 + (if permR l 5 < 0 then permR l 3 else permR l 5) * 8 + permR l 6
theorem perm8 {l : List Ace} (h : Good l) (t : Int) : permR l t = -1 ∨ (0 ≤ permR l t ∧ permR l t < 8) := by
  unfold permR permS
  cases e : l.find? fun a => decide (a.tag = t) with
  | none => exact .inl rfl
  | some a => exact .inr (h.perm a (List.mem_of_find?_eq_some e))
theorem perm8' {l : List Ace} (h : Good l) {t : Int} (ht : ∃ a ∈ l, a.tag = t) : 0 ≤ permR l t ∧ permR l t < 8 := by
  obtain ⟨p, h1, h2⟩ := perm_some h ht
  unfold permR
  rw [h1]; exact h2
theorem bor3 : ∀ a b c : Fin 8, abits .or .i64 (abits .or .i64 (IntKind.i64.wrap ((a.1 : Int) * 2 ^ 6)) (IntKind.i64.wrap ((b.1 : Int) * 2 ^ 3))) (c.1 : Int) = (a.1 : Int) * 64 + (b.1 : Int) * 8 + (c.1 : Int) := by decide +kernel
theorem bor3' {a b c : Int} (ha : 0 ≤ a ∧ a < 8) (hb : 0 ≤ b ∧ b < 8) (hc : 0 ≤ c ∧ c < 8) : abits .or .i64 (abits .or .i64 (IntKind.i64.wrap (a * 2 ^ 6)) (IntKind.i64.wrap (b * 2 ^ 3))) c = a * 64 + b * 8 + c := by
  have := bor3 ⟨a.toNat, by omega⟩ ⟨b.toNat, by omega⟩ ⟨c.toNat, by omega⟩
  simpa only [Int.toNat_of_nonneg ha.1, Int.toNat_of_nonneg hb.1, Int.toNat_of_nonneg hc.1] using this
theorem aclmode_c (l : Th (List Ace)) (hl : short (l .o)) (hg : Good (l .o)) {d : Nat} {K : ARes → BL → Prop} (hr : ∀ n : Th Int, n .o = modeA (l .o) → K (.ret (.int .i64 n)) .nil) : CallAt PT acl_Mode [aces l] d .nil K := by
  refine CallAt.res ?_
  have k1 := perm8' hg hg.own
  have k3 := perm8' hg hg.grp
  have k6 := perm8' hg hg.oth
  have k5 := perm8 hg 5
  refine acl_Mode.of rfl rfl ?_
  cbv
  refine aclperm_c l (fun _ => 5) hl fun n5 e5 => ?_
  cbv
  refine br_dec (fun h => ?_) (fun h => ?_)
  · have h : n5 .o < 0 := h
    cbv
    refine aclperm_c l (fun _ => 3) hl fun n3 e3 => ?_
    cbv
    refine aclperm_c l (fun _ => 1) hl fun n1 e1 => ?_
    cbv
    refine safe (by decide) ?_
    refine safe (by decide) ?_
    refine aclperm_c l (fun _ => 6) hl fun n6 e6 => ?_
    cbv
    refine ⟨_, .ret (.refl _), hr _ ?_⟩
    show abits .or .i64 (abits .or .i64 (IntKind.i64.wrap (n1 .o * 2 ^ 6)) (IntKind.i64.wrap (n3 .o * 2 ^ 3))) (n6 .o) = _
    rw [e1, e3, e6, bor3' k1 k3 k6]
    unfold modeA
    rw [if_pos (e5 ▸ h)]
  · have h : ¬ n5 .o < 0 := h
    cbv
    refine aclperm_c l (fun _ => 1) hl fun n1 e1 => ?_
    cbv
    refine safe (by decide) ?_
    refine safe (by decide) ?_
    refine aclperm_c l (fun _ => 6) hl fun n6 e6 => ?_
    cbv
    refine ⟨_, .ret (.refl _), hr _ ?_⟩
    show abits .or .i64 (abits .or .i64 (IntKind.i64.wrap (n1 .o * 2 ^ 6)) (IntKind.i64.wrap (n5 .o * 2 ^ 3))) (n6 .o) = _
    have h' : ¬ permR (l .o) 5 < 0 := fun q => h (by rw [e5]; exact q)
    rw [e1, e5, e6, bor3' k1 (by rcases k5 with q | q; omega; exact q) k6]
    unfold modeA
    rw [if_neg h']
end Go.Proofs.Ytgjlkcdnlndlnaa
/- A builder's methods: the kit's contracts at this program, laid by hand (its tool passes them by). -/
namespace Go.Proofs
open Go.Shelf
def Try.bld_ren : Go.Shelf.Ren := ⟨fun | 167 => 141 | 240 => 145 | 276 => 147 | 169 => 143 | n => n, fun | 0 => 0 | 3 => 3 | 4 => 4 | 5 => 5 | 9 => 9 | 20 => 20 | 37 => 52 | 70 => 149 | 72 => 151 | 127 => 159 | 164 => 160 | 75 => 154 | 80 => 135 | n => n, fun | n => n⟩
theorem Try.bl240 : Go.Proofs.Lays.n240 Try.prog Try.bld_ren := {
  mixed := by kernel_rfl
  f240 := Try.func145.trans (congrArg some (by kernel_rfl))
  f276 := Try.func147.trans (congrArg some (by kernel_rfl))
  t0 := Try.underlying0
  a0 := Try.isAgg0
  z0 := Try.sizeOf0
  v0 := Try.zeroValue0
  t4 := Try.underlying4
  a4 := Try.isAgg4
  z4 := Try.sizeOf4
  v4 := Try.zeroValue4
  t9 := Try.underlying9
  a9 := Try.isAgg9
  z9 := Try.sizeOf9
  v9 := Try.zeroValue9
  t20 := Try.underlying20
  a20 := Try.isAgg20
  z20 := Try.sizeOf20
  v20 := Try.zeroValue20
  t70 := Try.underlying149
  a70 := Try.isAgg149
  z70 := Try.sizeOf149
  v70 := Try.zeroValue149
  t72 := Try.underlying151
  a72 := Try.isAgg151
  z72 := Try.sizeOf151
  v72 := Try.zeroValue151
  t164 := Try.underlying160
  a164 := Try.isAgg160
  z164 := Try.sizeOf160
  v164 := Try.zeroValue160 }
theorem Try.bl169 : Go.Proofs.Lays.n169 Try.prog Try.bld_ren := {
  mixed := by kernel_rfl
  f169 := Try.func143.trans (congrArg some (by kernel_rfl))
  t0 := Try.underlying0
  a0 := Try.isAgg0
  z0 := Try.sizeOf0
  v0 := Try.zeroValue0
  t3 := Try.underlying3
  a3 := Try.isAgg3
  z3 := Try.sizeOf3
  v3 := Try.zeroValue3
  t9 := Try.underlying9
  a9 := Try.isAgg9
  z9 := Try.sizeOf9
  v9 := Try.zeroValue9
  t37 := Try.underlying52
  a37 := Try.isAgg52
  z37 := Try.sizeOf52
  v37 := Try.zeroValue52
  t70 := Try.underlying149
  a70 := Try.isAgg149
  z70 := Try.sizeOf149
  v70 := Try.zeroValue149
  t72 := Try.underlying151
  a72 := Try.isAgg151
  z72 := Try.sizeOf151
  v72 := Try.zeroValue151
  t127 := Try.underlying159
  a127 := Try.isAgg159
  z127 := Try.sizeOf159
  v127 := Try.zeroValue159 }
theorem Try.bldX : Builder.Extra Try.prog Try.bld_ren := {
  sizeBuilder := by kernel_rfl
  liesBuilder := by kernel_rfl
  t5 := Try.underlying5
  a5 := Try.isAgg5
  z5 := Try.sizeOf5
  v5 := Try.zeroValue5
  infoByte := by kernel_rfl
  cellsByte := by kernel_rfl
  sizeByte := by kernel_rfl
  neB5 := by decide }
end Go.Proofs
/- A builder whose buffer lies above all that a call has made ahead of it: its methods, with all else kept. -/
namespace Go.Proofs.Ytgjlkcdnlndlnaa
open Go Go.RowKit Go.Shelf
set_option linter.unusedVariables false
set_option linter.unusedSimpArgs false
/-- A builder in block b holds the bytes bs; its buffer lies from R on. -/
structure BX (R b : Nat) (bs : List Value) (w : World) : Prop where
  lt : b < R
  le : R ≤ w.heap.size
  ex : ∃ p v, (p = .pointer none ∨ p = .pointer (some ⟨b, 0, none⟩)) ∧ w.heap[b]? = some (.cells #[p, v] 151 (0, 0)) ∧ w.ownsRow R 5 1 v bs.length bs
/-- All below R but block b is as it was. -/
structure FX (R b : Nat) (w w' : World) : Prop where
  os : w'.os = w.os
  tape : w'.tape = w.tape
  output : w'.output = w.output
  size : w.heap.size ≤ w'.heap.size
  block : ∀ k, k < R → k ≠ b → w'.heap[k]? = w.heap[k]?
theorem FX.refl (R b : Nat) (w : World) : FX R b w w := ⟨rfl, rfl, rfl, Nat.le_refl _, fun _ _ _ => rfl⟩
theorem FX.trans {R b : Nat} {u v w : World} (h : FX R b u v) (k : FX R b v w) : FX R b u w :=
  ⟨k.os.trans h.os, k.tape.trans h.tape, k.output.trans h.output, Nat.le_trans h.size k.size, fun i hi hb => (k.block i hi hb).trans (h.block i hi hb)⟩
theorem FX.below {R b : Nat} {w w' : World} (h : FX R b w w') (hR : b ≤ R) : Below b w w' := ⟨h.os, h.tape, h.output, h.size, fun k hk => h.block k (by omega) (by omega)⟩
theorem FX.cell {R b : Nat} {w w' : World} (h : FX R b w w') {k : Nat} (hk : k < R) (hb : k ≠ b) (o : Nat) : w'.cell? ⟨k, o, none⟩ = w.cell? ⟨k, o, none⟩ := World.cell?_of_block (w := w) (h.block k hk hb)
theorem FX.setCell {R b : Nat} {u w : World} (h : FX R b u w) (o : Nat) (v : Value) : FX R b u (w.setCell ⟨b, o, none⟩ v) :=
  ⟨h.os, h.tape, h.output, by simpa [World.setCell] using h.size, fun k hk hb => (Below.heap_setCell w ⟨b, o, none⟩ v k hb).trans (h.block k hk hb)⟩
theorem FX.alloc {R b : Nat} {u w : World} (h : FX R b u w) (hR : R ≤ w.heap.size) (o : Obj) : FX R b u (w.alloc o) :=
  ⟨h.os, h.tape, h.output, Nat.le_trans h.size (by simp), fun k hk hb => (Below.heap_alloc w o k (by omega)).trans (h.block k hk hb)⟩
theorem FX.grown {R b : Nat} {u w w' : World} {row : Option Nat} (h : FX R b u w) (hg : w.grownBy w' row) (hR : R ≤ w.heap.size) (hr : ∀ k, row = some k → R ≤ k) : FX R b u w' :=
  ⟨hg.os.trans h.os, hg.tape.trans h.tape, hg.output.trans h.output, Nat.le_trans h.size hg.size, fun k hk hb => (hg.block k (by omega) (fun e => by have := hr k e.symm; omega)).trans (h.block k hk hb)⟩
theorem owns_of {R : Nat} {e : TypeId} {v : Value} {n : Nat} {xs : List Value} {w w' : World} (h : w.ownsRow R e 1 v n xs) (hk : ∀ k, R ≤ k → k < w.heap.size → w'.heap[k]? = w.heap[k]?) : w'.ownsRow R e 1 v n xs := by
  refine ⟨h.1, ?_⟩
  rcases h.2 with hn | ⟨g, cap, cur, hv, hb, hg, rest⟩
  · exact .inl hn
  · exact .inr ⟨g, cap, cur, hv, hb, by rw [hk g hb (Array.getElem?_eq_some_iff.1 hg).1]; exact hg, rest⟩
theorem owns_setCell {R b : Nat} {e : TypeId} {v : Value} {n : Nat} {xs : List Value} {w : World} (h : w.ownsRow R e 1 v n xs) (hb : b < R) (o : Nat) (u : Value) : (w.setCell ⟨b, o, none⟩ u).ownsRow R e 1 v n xs :=
  owns_of h fun k hk _ => Below.heap_setCell w ⟨b, o, none⟩ u k (by show k ≠ b; omega)
theorem owns_lt {R : Nat} {e : TypeId} {v : Value} {n : Nat} {xs : List Value} {w : World} (h : w.ownsRow R e 1 v n xs) : ∀ k, v.ownBlock = some k → R ≤ k := by
  intro k hk
  rcases h.2 with ⟨rfl, _⟩ | ⟨g, cap, cur, rfl, hb, _⟩
  · simp [Value.ownBlock] at hk
  · simp [Value.ownBlock] at hk; omega
theorem heap_set2 {w : World} {b : Nat} {p v : Value} {T : TypeId} (h : w.heap[b]? = some (.cells #[p, v] T (0, 0))) (q : Value) : (w.setCell ⟨b, 0, none⟩ q).heap[b]? = some (.cells #[q, v] T (0, 0)) ∧ (w.setCell ⟨b, 1, none⟩ q).heap[b]? = some (.cells #[p, q] T (0, 0)) := by
  constructor <;> simp [World.setCell, Array.getElem?_modify, h]
theorem BX.is {R b : Nat} {bs : List Value} {w : World} (h : BX R b bs w) : Lib.IsBuilder 151 5 b b bs w := by
  obtain ⟨p, v, hp, hb, hown⟩ := h.ex
  have hlt := h.lt
  have hne : v.ownBlock ≠ some b := fun e => by have := owns_lt hown b e; omega
  have ho : w.ownsRow b 5 1 v bs.length bs := by
    refine ⟨hown.1, ?_⟩
    rcases hown.2 with hn | ⟨g, cap, cur, hv, hg, rest⟩
    · exact .inl hn
    · exact .inr ⟨g, cap, cur, hv, by omega, rest⟩
  rcases hp with rfl | rfl
  · exact .inl ⟨Nat.le_refl _, v, hb, ho, hne⟩
  · exact .inr ⟨Nat.le_refl _, v, hb, ho, hne⟩
theorem BX.drew {R b : Nat} {bs : List Value} {w : World} (h : BX R b bs w) : BX R b bs w.drew := ⟨h.lt, h.le, h.ex⟩
theorem BX.alloc {R b : Nat} {bs : List Value} {w : World} (h : BX R b bs w) (o : Obj) : BX R b bs (w.alloc o) := by
  obtain ⟨p, v, hp, hb, hown⟩ := h.ex
  have h1 := h.lt
  have h2 := h.le
  exact ⟨h1, Nat.le_trans h2 (by simp), p, v, hp, by rw [Lib.alloc_old w _ b (by omega)]; exact hb, owns_of hown fun k _ hk => Lib.alloc_old w _ k hk⟩
theorem FX.drew {R b : Nat} {u w : World} (h : FX R b u w) : FX R b u w.drew := ⟨h.os, h.tape, h.output, h.size, h.block⟩
theorem bcheck_m (R b : Nat) (bs : List Value) (w : World) (h : BX R b bs w) : Calls Try.prog 145 #[.pointer (some ⟨b, 0, none⟩)] w fun e w' => e = .returned (.tuple #[]) ∧ BX R b bs w' ∧ FX R b w w' ∧ ∀ k, k ≠ b → w'.heap[k]? = w.heap[k]? := by
  have h' := h
  obtain ⟨p, v, hp, hb, hown⟩ := h.ex
  rcases hp with rfl | rfl
  · refine (Any.Builder_copyCheck_fresh Try.bl240 Try.bldX.toX72 b w (by rw [Lib.cell_of_heap hb]; rfl) (by simp [World.shape?, hb]; rfl) (by simp [World.frozen?, hb])).mono ?_
    rintro e w' ⟨rfl, rfl⟩
    exact ⟨rfl, ⟨h.lt, by simpa [World.setCell] using h.le, _, v, .inr rfl, (heap_set2 hb _).1, owns_setCell hown h.lt 0 _⟩, (FX.refl R b w).setCell 0 _, fun k hk => Below.heap_setCell w ⟨b, 0, none⟩ _ k hk⟩
  · refine (Any.Builder_copyCheck_used Try.bl240 Try.bldX.toX72 b w (by rw [Lib.cell_of_heap hb]; rfl)).mono ?_
    rintro e w' ⟨rfl, rfl⟩
    exact ⟨rfl, h', .refl R b _, fun _ _ => rfl⟩
set_option maxHeartbeats 2000000 in
set_option maxRecDepth 100000 in
/-- WriteByte. -/
theorem bbyte_m (R b : Nat) (bs : List Value) (c : Int) (w : World) (h : BX R b bs w) (hlen : bs.length + 1 ≤ 140737488355328) : Calls Try.prog 141 #[.pointer (some ⟨b, 0, none⟩), .int .u8 c] w fun e w' => e = .returned .nilIface ∧ BX R b (bs ++ [.int .u8 c]) w' ∧ FX R b w w' := by
  have X := Try.bldX
  obtain ⟨i0, hi, hz0, hz1, hz2⟩ := info_parts X.infoByte
  go_enter Try.func141, Try.ntmps141
  go_wp2_with fail
  go_at_call 145
  refine (bcheck_m R b bs _ h).mono ?_
  rintro e w1 ⟨rfl, h1, hb1, hot⟩
  obtain ⟨p, v, hp, hbk, hown⟩ := h1.ex
  have c1 : w1.cell? ⟨b, 1, none⟩ = some v := by rw [Lib.cell_of_heap hbk]; rfl
  have hle := h1.le
  have hlt := h1.lt
  go_wp2_with (at_builtin; refine wpList_append_own _ rfl _ _ 52 rfl R 5 i0 (.int .u8 0) 1 1 Try.underlying52 hi hz0 hz1 hz2 rfl (by decide) _ _ _ rfl (hown.alloc _) ⟨w1.heap.size, 0, none⟩ 1 1 [.int .u8 c] rfl rfl ?c1 ?c2 ?c3 ?c4 ?c5 ?_)
  case c1 =>
    intro j u hj
    match j, hj with
    | 0, hj => simp at hj; subst hj; simp [Addr.add]
  case c2 => intro u hu; simp at hu; subst hu; rfl
  case c3 => unfold maxLen; omega
  case c4 => omega
  case c5 => simp; omega
  intro v' w2 hown' hgrow _
  have hb2 : w2.heap[b]? = some (.cells #[p, v] 151 (0, 0)) := by
    rw [hgrow.block b (by simp; omega) (fun e => by have := owns_lt hown b e.symm; omega), Lib.alloc_old w1 _ b (by omega)]
    exact hbk
  have d1 : w2.cell? ⟨b, 1, none⟩ = some v := by rw [Lib.cell_of_heap hb2]; rfl
  have f1 : w2.frozen? ⟨b, 1, none⟩ = false := Lib.frozen_of_heap hb2 1
  have hs2 : R ≤ w2.heap.size := Nat.le_trans (by simp; omega) hgrow.size
  obtain ⟨g, cap, rfl⟩ : ∃ g cap, v' = .slice (some ⟨g, 0, none⟩) (bs.length + 1) cap := by
    rcases hown'.2 with ⟨_, h0⟩ | ⟨g, cap, cur, hv, _⟩
    · omega
    · exact ⟨g, cap, hv⟩
  go_wp2
  go_ret
  refine ⟨rfl, ⟨hlt, by simpa [World.setCell] using hs2, p, _, hp, (heap_set2 hb2 _).2, ?_⟩, (FX.grown (hb1.alloc hle _) hgrow (by simp; omega) (fun k hk => owns_lt hown k hk)).setCell 1 _⟩
  exact owns_setCell (by simpa using hown') hlt 1 _
set_option maxHeartbeats 2000000 in
set_option maxRecDepth 100000 in
/-- Write. -/
theorem bwrite_m (R b : Nat) (bs : List Value) (ad : Addr) (m cap0 : Nat) (news : List Value) (w : World) (h : BX R b bs w) (hlen : bs.length + m ≤ 140737488355328) (hm : 0 < m) (hl : news.length = m) (hnews : ∀ j u, news[j]? = some u → w.cell? (ad.add j) = some u) (h1c : ∀ u ∈ news, u.oneCell' = true) (had : ad.block ≠ b) : Calls Try.prog 142 #[.pointer (some ⟨b, 0, none⟩), .slice (some ad) m cap0] w fun e w' => e = .returned (.tuple #[.int .i64 m, .nilIface]) ∧ BX R b (bs ++ news) w' ∧ FX R b w w' := by
  have X := Try.bldX
  obtain ⟨i0, hi, hz0, hz1, hz2⟩ := info_parts X.infoByte
  go_enter Try.func142, Try.ntmps142
  go_wp2_with fail
  go_at_call 145
  refine (bcheck_m R b bs _ h).mono ?_
  rintro e w1 ⟨rfl, h1, hb1, hot⟩
  obtain ⟨p, v, hp, hbk, hown⟩ := h1.ex
  have c1 : w1.cell? ⟨b, 1, none⟩ = some v := by rw [Lib.cell_of_heap hbk]; rfl
  have hle := h1.le
  have hlt := h1.lt
  have hadd : ∀ j, (ad.add j).block = ad.block := fun j => by unfold Addr.add; split <;> rfl
  go_wp2_with (at_builtin; refine wpList_append_own _ rfl _ _ 52 rfl R 5 i0 (.int .u8 0) 1 1 Try.underlying52 hi hz0 hz1 hz2 rfl (by decide) _ _ _ rfl hown ad m cap0 news rfl (by rw [hl, Nat.mul_one]) ?c1 h1c ?c3 ?c4 ?c5 ?_)
  case c1 =>
    intro j u hj
    rw [World.cell?_of_block (w := w) (hot _ (by rw [hadd]; exact had))]
    exact hnews j u hj
  case c3 => unfold maxLen; omega
  case c4 => omega
  case c5 => exact hle
  intro v' w2 hown' hgrow _
  have hb2 : w2.heap[b]? = some (.cells #[p, v] 151 (0, 0)) := by
    rw [hgrow.block b (by omega) (fun e => by have := owns_lt hown b e.symm; omega)]
    exact hbk
  have d1 : w2.cell? ⟨b, 1, none⟩ = some v := by rw [Lib.cell_of_heap hb2]; rfl
  have f1 : w2.frozen? ⟨b, 1, none⟩ = false := Lib.frozen_of_heap hb2 1
  have hs2 : R ≤ w2.heap.size := Nat.le_trans hle hgrow.size
  obtain ⟨g, cap, rfl⟩ : ∃ g cap, v' = .slice (some ⟨g, 0, none⟩) (bs.length + m) cap := by
    rcases hown'.2 with ⟨_, h0⟩ | ⟨g, cap, cur, hv, _⟩
    · omega
    · exact ⟨g, cap, hv⟩
  go_wp2
  go_ret2
  refine ⟨rfl, ⟨hlt, by simpa [World.setCell] using hs2, p, _, hp, (heap_set2 hb2 _).2, ?_⟩, (FX.grown hb1 hgrow hle (fun k hk => owns_lt hown k hk)).setCell 1 _⟩
  exact owns_setCell (by simpa [hl] using hown') hlt 1 _
set_option maxHeartbeats 1000000 in
/-- Write of three bytes just laid. -/
theorem bwrite3_m (R b : Nat) (bs : List Value) (x y z : Int) (w1 : World) (h : BX R b bs w1) (hlen : bs.length + 3 ≤ 140737488355328) : Calls Try.prog 142 #[.pointer (some ⟨b, 0, none⟩), .slice (some ⟨w1.heap.size, 0, none⟩) 3 3] (w1.alloc (.cells #[.int .u8 x, .int .u8 y, .int .u8 z] 5)).drew fun e w' => (∃ v, e = .returned v) ∧ BX R b (bs ++ [.int .u8 x, .int .u8 y, .int .u8 z]) w' ∧ FX R b w1 w' := by
  have h1 := h.lt
  have h2 := h.le
  refine (bwrite_m R b bs ⟨w1.heap.size, 0, none⟩ 3 3 [.int .u8 x, .int .u8 y, .int .u8 z] _ (h.alloc _).drew hlen (by decide) rfl ?_ ?_ (by show w1.heap.size ≠ b; omega)).mono ?_
  · intro j u hj
    match j, hj with
    | 0, hj | 1, hj | 2, hj => simp at hj; subst hj; simp [Addr.add]
  · intro u hu
    simp at hu
    rcases hu with rfl | rfl | rfl <;> rfl
  · rintro e w' ⟨rfl, h3, h4⟩
    exact ⟨⟨_, rfl⟩, h3, (((FX.refl R b w1).alloc h2 _).drew).trans h4⟩
end Go.Proofs.Ytgjlkcdnlndlnaa
/- escape.Put, at the machine's level, by the kit's walk; then as a contract. -/
namespace Go.Proofs.Ytgjlkcdnlndlnaa
open Go Go.RowKit Go.Shelf
set_option linter.unusedVariables false
set_option linter.unusedSimpArgs false
def plainB (c : Int) : Bool := decide (33 ≤ c) && decide (c ≤ 126) && !decide (c = 37) && !decide (c = 61)
theorem plain_m (c : Int) (w : World) : Calls Try.prog 140 #[.int .u8 c] w fun e w' => e = .returned (.bool (plainB c)) ∧ w' = w := by
  go_enter Try.func140, Try.ntmps140
  go_wp2
  all_goals go_ret
  all_goals refine ⟨?_, rfl⟩
  all_goals (congr 2; simp only [plainB])
  · rename_i h1 h2 h3; subst h3; rfl
  · rename_i h1 h2 h3
    rw [decide_eq_true h1, decide_eq_true h2, decide_eq_false h3]
    show Value.bool (c != 37 && c != 61) = _
    rw [show (c != 37) = true by simpa using h3]
    rfl
  · rename_i h1 h2; rw [decide_eq_true h1, decide_eq_false (by omega : ¬ c ≤ 126)]; rfl
  · rename_i h1; rw [decide_eq_false (by omega : ¬ 33 ≤ c)]; rfl
/-- A byte, escaped. -/
def hexB (n : UInt8) : UInt8 := ([48, 49, 50, 51, 52, 53, 54, 55, 56, 57, 65, 66, 67, 68, 69, 70] : List UInt8).getD n.toNat 0
def escB (c : UInt8) : List UInt8 := if plainB c.toNat then [c] else [37, hexB (c / 16), hexB (c % 16)]
def escS (s : List UInt8) : List UInt8 := s.flatMap escB
theorem escS_take (l : List UInt8) (k : Nat) (h : k < l.length) : escS (l.take (k + 1)) = escS (l.take k) ++ escB (l[k]) := by
  unfold escS
  rw [List.take_succ_eq_append_getElem h, List.flatMap_append]
  simp
theorem escB_len (c : UInt8) : (escB c).length ≤ 3 := by unfold escB; split <;> simp
theorem escS_len : ∀ l : List UInt8, (escS l).length ≤ 3 * l.length
  | [] => Nat.le_refl _
  | c :: r => by
    have h1 := escS_len r
    have h2 := escB_len c
    simp only [escS, List.flatMap_cons, List.length_append, List.length_cons] at h1 ⊢
    omega
theorem band15_fin : ∀ n : Fin 256, bits BinOp.and IntKind.u8 (n.1 : Int) 15 = (n.1 : Int) % 16 := by decide +kernel
theorem band15 (c : UInt8) : bits BinOp.and IntKind.u8 (c.toNat : Int) 15 = (c.toNat : Int) % 16 := band15_fin ⟨c.toNat, c.toNat_lt⟩
theorem hexB_fin : ∀ n : Fin 16, (⟨#[48, 49, 50, 51, 52, 53, 54, 55, 56, 57, 65, 66, 67, 68, 69, 70]⟩ : ByteArray)[n.1]'(Nat.lt_of_lt_of_le n.2 (by decide)) = hexB (UInt8.ofNat n.1) := by decide
theorem hexB_at (n : Nat) (h : n < (⟨#[48, 49, 50, 51, 52, 53, 54, 55, 56, 57, 65, 66, 67, 68, 69, 70]⟩ : ByteArray).size) : (⟨#[48, 49, 50, 51, 52, 53, 54, 55, 56, 57, 65, 66, 67, 68, 69, 70]⟩ : ByteArray)[n] = hexB (UInt8.ofNat n) := hexB_fin ⟨n, h⟩
set_option maxHeartbeats 2000000 in
set_option maxRecDepth 100000 in
theorem esc_m (s : ByteArray) (w : World) (hs : s.size ≤ 1099511627776) : Calls Try.prog 135 #[.string s] w fun e w' => e = .returned (.string ⟨(escS s.data.toList).toArray⟩) ∧ Below w.heap.size w w' := by
  go_enter Try.func135, Try.ntmps135
  go_wp2
  rw [Lib.run_convert_string_bytes _ _ _ 5 s Try.underlying9 Try.underlying52 Try.underlying5]
  simp only [Result.andThen]
  rw [Oper.upon_value]
  go_wp2
  generalize hW0 : w.alloc (Obj.cells #[Value.pointer none, Value.slice none 0 0] 151) = w0
  have hw0 : w0.heap.size = w.heap.size + 1 := by rw [← hW0]; simp
  have hb0 : w0.heap[w.heap.size]? = some (.cells #[.pointer none, .slice none 0 0] 151 (0, 0)) := by rw [← hW0]; exact heap_alloc_new w _
  have hbel0 : Below w.heap.size w w0 := by rw [← hW0]; exact (Below.refl _ w).alloc (Nat.le_refl _) _
  have HB0 : Hid (BX (w.heap.size + 2) w.heap.size (Lib.byteCells (escS (s.data.toList.take 0))) (Lib.bytesWorld w0 5 s)) := ⟨by omega, by rw [Lib.bytesWorld_size, hw0]; exact Nat.le_refl _, .pointer none, .slice none 0 0, .inl rfl, by rw [Lib.bytesWorld_at_old _ _ _ _ (by omega)]; exact hb0, by rw [List.take_zero]; exact ⟨rfl, .inl ⟨rfl, rfl⟩⟩⟩
  have HF0 : Hid (FX (w.heap.size + 2) w.heap.size (Lib.bytesWorld w0 5 s) (Lib.bytesWorld w0 5 s)) := FX.refl _ _ _
  clear hb0
  go_loopw [9] (fun v wr => ∃ k : Nat, k ≤ s.size ∧ v = .int .i64 k ∧ Hid (BX (w.heap.size + 2) w.heap.size (Lib.byteCells (escS (s.data.toList.take k))) wr) ∧ Hid (FX (w.heap.size + 2) w.heap.size (Lib.bytesWorld w0 5 s) wr)) (fun v _ => s.size - (intOf v).toNat)
  case atStart => exact ⟨0, Nat.zero_le _, rfl, HB0, HF0⟩
  case round =>
    obtain ⟨k, hk, rfl, HB, HF⟩ := hrel
    by_cases hlt : k < s.size
    · obtain ⟨c, hcd⟩ : ∃ c, s.data.toList[k]'(by simpa using hlt) = c := ⟨_, rfl⟩
      have hc : wr.cell? ⟨w.heap.size + 1, k, none⟩ = some (.int .u8 c.toNat) := by
        rw [HF.out.cell (by omega) (by omega), ← hw0, Lib.bytesWorld_cell w0 _ s k hlt, ← hcd, List.getD_eq_getElem?_getD, List.getElem?_eq_getElem (by simpa using hlt)]; rfl
      have hnx : escS (s.data.toList.take (k + 1)) = escS (s.data.toList.take k) ++ escB c := by rw [escS_take _ _ (by simpa using hlt), hcd]
      have hlen : (Lib.byteCells (escS (s.data.toList.take k))).length ≤ 3 * k := by
        rw [Lib.byteCells_length]
        have := escS_len (s.data.toList.take k)
        rw [List.length_take] at this
        omega
      have hc256 : c.toNat < 256 := c.toNat_lt
      go_wp2_with fail
      refine (plain_m _ _).mono ?_
      rintro e w1 ⟨rfl, rfl⟩
      cases hp : plainB c.toNat with
      | true =>
        have he : escB c = [c] := by rw [escB, hp]; rfl
        go_wp2_with fail
        refine (bbyte_m (w.heap.size + 2) w.heap.size _ _ _ HB.out (by omega)).mono ?_
        rintro e w2 ⟨rfl, h2, hf2⟩
        have H2 : Hid (BX (w.heap.size + 2) w.heap.size (Lib.byteCells (escS (s.data.toList.take (k + 1)))) w2) := by
          rw [hnx, he, Lib.byteCells_append]; exact h2
        have F2 : Hid (FX (w.heap.size + 2) w.heap.size (Lib.bytesWorld w0 5 s) w2) := HF.out.trans hf2
        clear h2 hf2
        go_wp2
        exact ⟨⟨k + 1, by omega, by go_num, H2, F2⟩, by simp [intOf]; omega⟩
      | false =>
        have he : escB c = [37, hexB (c / 16), hexB (c % 16)] := by rw [escB, hp]; rfl
        go_wp2_with fail
        have q1 : 0 ≤ (c.toNat : Int) / 16 ∧ (c.toNat : Int) / 16 < 16 := by omega
        have q2 : 0 ≤ (c.toNat : Int) % 16 ∧ (c.toNat : Int) % 16 < 16 := by omega
        have q3 : bits BinOp.and IntKind.u8 (c.toNat : Int) 15 = (c.toNat : Int) % 16 := band15 c
        have q4 : 0 ≤ bits BinOp.and IntKind.u8 (c.toNat : Int) 15 ∧ bits BinOp.and IntKind.u8 (c.toNat : Int) 15 < 16 := by rw [q3]; exact q2
        have q5 : UInt8.ofNat ((c.toNat : Int) / 16).toNat = c / 16 := UInt8.toNat_inj.1 (by rw [UInt8.toNat_ofNat', UInt8.toNat_div]; show _ % 256 = c.toNat / 16; omega)
        have q6 : UInt8.ofNat ((c.toNat : Int) % 16).toNat = c % 16 := UInt8.toNat_inj.1 (by rw [UInt8.toNat_ofNat', UInt8.toNat_mod]; show _ % 256 = c.toNat % 16; omega)
        go_region_with (go_at_call 142; refine (bwrite3_m (w.heap.size + 2) w.heap.size _ _ _ _ _ HB.out (by omega)).mono ?_; rintro e w2 ⟨⟨v, rfl⟩, h2, hf2⟩)
        all_goals go_wp2_with fail
        all_goals
          simp only [hexB_at, q5, q6] at h2
          have H2 : Hid (BX (w.heap.size + 2) w.heap.size (Lib.byteCells (escS (s.data.toList.take (k + 1)))) w2) := by
            rw [hnx, he, Lib.byteCells_append]; exact h2
          exact ⟨⟨k + 1, by omega, by go_num, H2, HF.out.trans hf2⟩, by simp [intOf]; omega⟩
    · have hke : k = s.size := by omega
      subst hke
      have hall : s.data.toList.take s.size = s.data.toList := List.take_of_length_le (by simp)
      have HB' := HB.out
      rw [hall] at HB'
      go_wp2_with fail
      refine (Any.Builder_String_any Try.bl169 Try.bldX w.heap.size w.heap.size _ wr HB'.is (by have := HB'.le; omega)).mono ?_
      rintro e w5 ⟨rfl, hb5⟩
      have hb6 : Below w.heap.size w (Lib.bytesWorld w0 5 s) := hbel0.trans ⟨rfl, rfl, rfl, by rw [Lib.bytesWorld_size]; omega, fun j hj => Lib.bytesWorld_at_old w0 _ s j (by omega)⟩
      have Hb5 : Hid (Below w.heap.size w w5) := (hb6.trans (HF.out.below (by omega))).trans hb5
      clear hb5 hb6 HB'
      go_wp2
      go_ret
      exact ⟨rfl, Hb5.out⟩
open Go.Proofs.Ytgjlkcdnlndlnaa.Sx F
theorem esc_c (s : Th (List UInt8)) (hs : (s .o).length ≤ 1099511627776) {d : Nat} {K : ARes → BL → Prop} (hr : ∀ t : Th (List UInt8), t .o = escS (s .o) → K (.ret (.str t)) .nil) : CallAt PT 135 [.str s] d .nil K := by
  refine CallAt.of_below (by kernel_rfl) fun E vs hb hv => ?_
  obtain ⟨v1, r1, rfl, h1, rfl⟩ : ∃ v1 r1, vs = v1 :: r1 ∧ Rp E (.str s) v1 ∧ r1 = [] := hv
  obtain rfl : v1 = .string ⟨(s .o).toArray⟩ := h1
  refine (esc_m ⟨(s .o).toArray⟩ E.w (by show (s .o).toArray.size ≤ _; simpa using hs)).mono ?_
  rintro e w' ⟨rfl, hbl⟩
  exact ⟨.ret (.str fun _ => escS (s .o)), rfl, rfl, hr _ rfl, hbl⟩
end Go.Proofs.Ytgjlkcdnlndlnaa
/- Functions of package strings at a separator of one byte: walked by the kit's laws. -/
namespace Go.Proofs.Ytgjlkcdnlndlnaa
open Go Go.RowKit
set_option linter.unusedVariables false
set_option linter.unusedSimpArgs false
set_option maxHeartbeats 1000000 in
set_option maxRecDepth 100000 in
theorem indexByte_calls (s : ByteArray) (c : Int) (w : World) :
    Calls Try.prog 148 #[.string s, .int .u8 c] w fun e w' => e = .returned (.int .i64 (Lib.indexByte s.data.toList c.toNat.toUInt8)) ∧ w' = w := by
  go_enter Try.func148, Try.ntmps148
  go_wp2
  rw [run_callFunc_extern Try.func152 (by kernel_rfl) (by kernel_rfl) (by kernel_rfl) (e := Extern.BytealgIndexByte.indexByte) (by kernel_rfl), Lib.run_indexByteString]
  simp only [Result.andThen]
  rw [Oper.upon_value]
  go_wp2
  go_ret
  exact ⟨rfl, rfl⟩
set_option maxHeartbeats 2000000 in
set_option maxRecDepth 100000 in
theorem index1_calls (s : ByteArray) (c : UInt8) (w : World) :
    Calls Try.prog 146 #[.string s, .string ⟨#[c]⟩] w fun e w' => e = .returned (.int .i64 (Lib.indexByte s.data.toList c)) ∧ w' = w := by
  go_enter Try.func146, Try.ntmps146
  go_wp2_with (go_at_call 148; refine (indexByte_calls _ _ _).mono ?_; rintro e w' ⟨rfl, rfl⟩)
  · have h : ([c] == s.toList) = true := by assumption
    go_ret
    refine ⟨?_, rfl⟩
    have e : s.data.toList = [c] := by rw [← Lib.toList_data]; exact (beq_iff_eq.1 h).symm
    rw [e]
    simp [Lib.indexByte]
  · go_ret
    exact ⟨rfl, rfl⟩
open Go.Proofs.Ytgjlkcdnlndlnaa.Sx F
/-- A call of two strings that hands back what names nothing. -/
theorem two_strs {f : Nat} (hf : callable (PT .o) f = true) (s : Th (List UInt8)) (p : List UInt8) (r : ARes) (hr : r.flat = true) (post : Ending → Prop)
    (h : ∀ w, Calls (PT .o) f #[.string ⟨(s .o).toArray⟩, .string ⟨p.toArray⟩] w fun e w' => post e ∧ w' = w) (hp : ∀ (E : Env) e, post e → Sx.Ends E r e) {d : Nat} {K : ARes → BL → Prop} (hK : K r .nil) :
    CallAt PT f [.str s, .str fun _ => p] d .nil K := by
  refine CallAt.of_below hf fun E vs hb hv => ?_
  obtain ⟨v1, r1, rfl, h1, v2, r2, rfl, h2, rfl⟩ : ∃ v1 r1, vs = v1 :: r1 ∧ Rp E (.str s) v1 ∧ ∃ v2 r2, r1 = v2 :: r2 ∧ Rp E (.str fun _ => p) v2 ∧ r2 = [] := hv
  obtain rfl : v1 = .string ⟨(s .o).toArray⟩ := h1
  obtain rfl : v2 = .string ⟨p.toArray⟩ := h2
  refine (h E.w).mono ?_
  rintro e w' ⟨he, rfl⟩
  exact ⟨r, hr, hp E e he, hK, Below.refl _ _⟩
theorem index1_c (s : Th (List UInt8)) (c : UInt8) {d : Nat} {K : ARes → BL → Prop} (hr : ∀ n : Th Int, n .o = Lib.indexByte (s .o) c → K (.ret (.int .i64 n)) .nil) : CallAt PT 146 [.str s, .str fun _ => [c]] d .nil K :=
  two_strs (by kernel_rfl) s [c] (.ret (.int .i64 fun _ => Lib.indexByte (s .o) c)) rfl (fun e => e = .returned (.int .i64 (Lib.indexByte (s .o) c))) (fun w => index1_calls _ c w) (fun E e he => by subst he; rfl) (hr _ rfl)
theorem strIndex1_c (s : Th (List UInt8)) (c : UInt8) {d : Nat} {K : ARes → BL → Prop} (hr : ∀ n : Th Int, n .o = Lib.indexByte (s .o) c → K (.ret (.int .i64 n)) .nil) : CallAt PT strings_Index [.str s, .str fun _ => [c]] d .nil K := by
  refine strings_Index.of rfl rfl ?_
  cbv
  refine index1_c s c fun n hn => ?_
  cbv
  exact hr _ hn
theorem index_neg {l : List UInt8} {c : UInt8} : 0 ≤ Lib.indexByte l c ↔ c ∈ l := by
  induction l with
  | nil => simp [Lib.indexByte]
  | cons b l ih =>
    have hg := Lib.indexByte_ge l c
    unfold Lib.indexByte
    by_cases h : b = c
    · simp [h]
    · have h' : (b == c) = false := by simpa using h
      rw [h']
      simp only [Bool.false_eq_true, if_false, List.mem_cons]
      split
      · rename_i h2
        have h2 : Lib.indexByte l c = -1 := by simpa using h2
        constructor
        · intro q; omega
        · rintro (q | q)
          · exact absurd q.symm h
          · have := ih.2 q; omega
      · rename_i h2
        have h2 : Lib.indexByte l c ≠ -1 := by simpa using h2
        constructor
        · intro q; exact .inr (ih.1 (by omega))
        · intro _; omega
theorem contains1_c (s : Th (List UInt8)) (c : UInt8) {d : Nat} {K : ARes → BL → Prop} (hr : ∀ b : Th Bool, b .o = decide (c ∈ s .o) → K (.ret (.bool b)) .nil) : CallAt PT strings_Contains [.str s, .str fun _ => [c]] d .nil K := by
  refine strings_Contains.of rfl rfl ?_
  cbv
  refine strIndex1_c s c fun n hn => ?_
  cbv
  exact hr _ (by show decide (0 ≤ n .o) = _; rw [hn, decide_eq_decide]; exact index_neg)
end Go.Proofs.Ytgjlkcdnlndlnaa
/- Names with values that may be: walked, exact. -/
namespace Go.Proofs.Ytgjlkcdnlndlnaa
open Go Go.Proofs.Ytgjlkcdnlndlnaa.Sx F
set_option linter.unusedVariables false
set_option linter.unusedSimpArgs false
def XOk (x : Xattr) : Prop := x.name ≠ [] ∧ (escS x.name).length ≤ 238 ∧ ¬ (0 : UInt8) ∈ x.name ∧ x.value.length ≤ 4096
def leS (a b : List UInt8) : Bool := strLt a b || decide (a = b)
structure XsTo (l : List Xattr) (k : Nat) : Prop where
  ok : ∀ j, j < k → XOk (l.getD j Xattr.z)
  up : ∀ j, j + 1 < k → leS (l.getD (j + 1) Xattr.z).name (l.getD j Xattr.z).name = false
structure XsOk (l : List Xattr) : Prop where
  to : XsTo l l.length
  len : l.length ≤ 32
theorem xsTo_succ {l : List Xattr} {k : Nat} (h : XsTo l k) (h1 : XOk (l.getD k Xattr.z)) (h2 : k = 0 ∨ leS (l.getD k Xattr.z).name (l.getD (k - 1) Xattr.z).name = false) : XsTo l (k + 1) := by
  refine ⟨fun j hj => ?_, fun j hj => ?_⟩
  · rcases Nat.lt_or_ge j k with q | q
    · exact h.ok j q
    · obtain rfl : j = k := by omega
      exact h1
  · rcases Nat.lt_or_ge (j + 1) k with q | q
    · exact h.up j q
    · obtain rfl : k = j + 1 := by omega
      rcases h2 with h2 | h2
      · omega
      · exact h2
def longX (l : List Xattr) : Prop := ∀ x ∈ l, x.name.length ≤ 1099511627776
theorem longX_at {l : List Xattr} (h : longX l) (k : Nat) : (l.getD k Xattr.z).name.length ≤ 1099511627776 := by
  rw [List.getD_eq_getElem?_getD]
  by_cases hk : k < l.length
  · rw [List.getElem?_eq_getElem hk]; exact h _ (List.getElem_mem hk)
  · rw [List.getElem?_eq_none (by omega)]; exact Nat.zero_le _
theorem xmay_c (x : Th Xattr) (hx : (x .o).name.length ≤ 1099511627776) {d : Nat} {K : ARes → BL → Prop} (hr : ∀ b : Th Bool, (b .o = true ↔ XOk (x .o)) → K (.ret (.bool b)) .nil) : CallAt PT xattr_may [Xattr.av x] d .nil K := by
  refine CallAt.res ?_
  have hf : ¬ XOk (x .o) → ∃ r', SameR (.ret .ff) r' ∧ K r' .nil := fun h => ⟨_, .ret (.ff rfl), hr (fun _ => false) ⟨fun q => (by cases q), fun q => (h q).elim⟩⟩
  refine xattr_may.of rfl rfl ?_
  cbv
  refine br_ndec (fun h1 => ?_) (fun h1 => ?_)
  rotate_left
  · cbv
    exact hf fun q => q.1 h1
  have h1 : ¬ (x .o).name = [] := h1
  cbv
  refine esc_c (fun _ => (x .o).name) hx fun t ht => ?_
  have ht : t .o = escS (x .o).name := ht
  cbv
  refine br_dec (fun h2 => ?_) (fun h2 => ?_)
  rotate_left
  · cbv
    exact hf fun q => h2 (by show zi (t .o).length ≤ 238; rw [ht]; have := q.2.1; unfold zi; omega)
  have h2 : (escS (x .o).name).length ≤ 238 := by have h2 : zi (t .o).length ≤ 238 := h2; rw [ht] at h2; unfold zi at h2; omega
  cbv
  refine contains1_c (fun _ => (x .o).name) 0 fun b hb => ?_
  cbv
  refine br_nbool (fun h3 => ?_) (fun h3 => ?_)
  rotate_left
  · cbv
    rw [hb] at h3
    exact hf fun q => q.2.2.1 (of_decide_eq_true h3)
  rw [hb] at h3
  have h3 := of_decide_eq_false h3
  cbv
  refine ⟨_, .ret (.refl _), hr _ ⟨fun q => ⟨h1, h2, h3, ?_⟩, fun q => decide_eq_true ?_⟩⟩
  · have q : zi (x .o).value.length ≤ 4096 := of_decide_eq_true q
    unfold zi at q
    omega
  · show zi (x .o).value.length ≤ 4096
    have := q.2.2.2
    unfold zi
    omega
theorem xsmay_c (l : Th (List Xattr)) (hl : short (l .o)) (hx : longX (l .o)) {d : Nat} {K : ARes → BL → Prop} (hr : ∀ b : Th Bool, (b .o = true ↔ XsOk (l .o)) → K (.ret (.bool b)) .nil) : CallAt PT xattr_May [xattrs l] d .nil K := by
  refine CallAt.res ?_
  have hf : ¬ XsOk (l .o) → ∃ r', SameR (.ret .ff) r' ∧ K r' .nil := fun h => ⟨_, .ret (.ff rfl), hr (fun _ => false) ⟨fun q => (by cases q), fun q => (h q).elim⟩⟩
  refine xattr_May.of rfl rfl ?_
  cbv
  refine loop_at (X := Nat) 1000 [0, 5, 6] [] (fun _ k => .cons 7 (.int .i64 fun _ => zi k) .nil) (fun _ k => .nil)
    (fun k => k ≤ (l .o).length ∧ XsTo (l .o) k) (fun k => (l .o).length - k) 0 ?_ ⟨Nat.zero_le _, ⟨fun j hj => absurd hj (Nat.not_lt_zero _), fun j hj => absurd hj (Nat.not_lt_zero _)⟩⟩ ?_
  · cbv
    (repeat' (first | exact True.intro | exact Same.refl _ | exact SameB.refl _ | exact ⟨rfl⟩ | exact Same.int rfl | exact Same.str rfl | exact Same.bool rfl | (refine Same.int ?_; simp only [List.length_append, List.length_cons, List.length_nil, zi]; omega) | (refine SameB.row' rfl fun i hi => ?_; first | rfl | exact absurd hi (Nat.not_lt_zero _)) | refine And.intro ?_ ?_ | refine SameB.cells ?_ | exact SameC.nil | refine SameC.cons ?_ ?_ | exact Same.nsl rfl | exact Same.tt rfl | exact Same.ff rfl))
  · rintro k ⟨hk, hto⟩
    have hz := zi_toNat k
    unfold short at hl
    cbv
    ((try refine br_rev ?_); (first | refine br_dec (fun h1 => ?_) (fun h1 => ?_) | refine br_ndec (fun h1 => ?_) (fun h1 => ?_) | refine br_nbool (fun h1 => ?_) (fun h1 => ?_) | refine br_bool (fun h1 => ?_) (fun h1 => ?_)); all_goals (try dsimp only at h1); all_goals (try with_reducible replace h1 := zi_lt.1 h1); all_goals (try with_reducible replace h1 := not_zlt h1))
    · have h1 : k < (l .o).length := h1
      cbv
      refine safe ⟨zi_nonneg _, zi_lt.2 h1⟩ ?_
      rw [hz]
      refine xmay_c (fun _ => (l .o).getD k Xattr.z) (longX_at hx k) fun b hb => ?_
      cbv
      refine br_rev (br_nbool (fun h2 => ?_) (fun h2 => ?_))
      · cbv
        exact hf fun q => by have := hb.2 (q.to.ok k h1); rw [this] at h2; cases h2
      have hok := hb.1 h2
      have succ := zi_succ (k := k) (by omega)
      cbv
      refine br_dec (fun h3 => ?_) (fun h3 => ?_)
      · have h3 : 0 < k := by have h3 : 0 < zi k := h3; unfold zi at h3; omega
        have hi1 : 0 ≤ IntKind.i64.wrap (zi k - 1) ∧ IntKind.i64.wrap (zi k - 1) < zi (l .o).length := by rw [IntKind.wrap_i64]; unfold zi; omega
        have hi2 : (IntKind.i64.wrap (zi k - 1)).toNat = k - 1 := by rw [IntKind.wrap_i64]; unfold zi; omega
        cbv
        refine safe hi1 ?_
        rw [hi2]
        refine br_bool (fun h4 => ?_) (fun h4 => ?_)
        · cbv
          exact hf fun q => by have := q.to.up (k - 1) (by omega); rw [show k - 1 + 1 = k by omega] at this; rw [leS] at this; rw [this] at h4; cases h4
        cbv
        refine ⟨k + 1, ⟨h1, xsTo_succ hto hok (.inr h4)⟩, by omega, ?_⟩
        cbv
        rw [succ]
        (repeat' (first | exact True.intro | exact Same.refl _ | exact SameB.refl _ | exact ⟨rfl⟩ | exact Same.int rfl | exact Same.str rfl | exact Same.bool rfl | (refine Same.int ?_; simp only [List.length_append, List.length_cons, List.length_nil, zi]; omega) | (refine SameB.row' rfl fun i hi => ?_; first | rfl | exact absurd hi (Nat.not_lt_zero _)) | refine And.intro ?_ ?_ | refine SameB.cells ?_ | exact SameC.nil | refine SameC.cons ?_ ?_ | exact Same.nsl rfl | exact Same.tt rfl | exact Same.ff rfl))
      · have h3 : ¬ 0 < k := by have h3 : ¬ 0 < zi k := h3; unfold zi at h3; omega
        cbv
        refine ⟨k + 1, ⟨h1, xsTo_succ hto hok (.inl (by omega))⟩, by omega, ?_⟩
        cbv
        rw [succ]
        (repeat' (first | exact True.intro | exact Same.refl _ | exact SameB.refl _ | exact ⟨rfl⟩ | exact Same.int rfl | exact Same.str rfl | exact Same.bool rfl | (refine Same.int ?_; simp only [List.length_append, List.length_cons, List.length_nil, zi]; omega) | (refine SameB.row' rfl fun i hi => ?_; first | rfl | exact absurd hi (Nat.not_lt_zero _)) | refine And.intro ?_ ?_ | refine SameB.cells ?_ | exact SameC.nil | refine SameC.cons ?_ ?_ | exact Same.nsl rfl | exact Same.tt rfl | exact Same.ff rfl))
    · obtain rfl : k = (l .o).length := by have h1 : (l .o).length ≤ k := h1; omega
      cbv
      refine ⟨_, .ret (.refl _), hr _ ⟨fun q => ⟨hto, ?_⟩, fun q => decide_eq_true ?_⟩⟩
      · have q : zi (l .o).length ≤ 32 := of_decide_eq_true q
        unfold zi at q
        omega
      · show zi (l .o).length ≤ 32
        have := q.len
        unfold zi
        omega
end Go.Proofs.Ytgjlkcdnlndlnaa
/- What the laws make by numbers: names, paths. -/
namespace Go.Proofs.Ytgjlkcdnlndlnaa
open Go Go.Proofs.Ytgjlkcdnlndlnaa.Sx F
set_option linter.unusedVariables false
set_option linter.unusedSimpArgs false
end Go.Proofs.Ytgjlkcdnlndlnaa
/- What the laws make by numbers: entries. -/
namespace Go.Proofs.Ytgjlkcdnlndlnaa
open Go Go.Proofs.Ytgjlkcdnlndlnaa.Sx F
set_option linter.unusedVariables false
set_option linter.unusedSimpArgs false
/-- A Meta that says nothing. -/
def Meta.z : Meta := ⟨0, 0, 0, 0, 0, [], [], [], ⟨0, 0, 0, false, 0⟩, 0⟩
end Go.Proofs.Ytgjlkcdnlndlnaa
/- The law PlanLess, walked: what is laid before all is there gives nobody more. -/
namespace Go.Proofs.Ytgjlkcdnlndlnaa
open Go Go.Proofs.Ytgjlkcdnlndlnaa.Sx F
set_option linter.unusedVariables false
set_option linter.unusedSimpArgs false
end Go.Proofs.Ytgjlkcdnlndlnaa
/- The law PlanFewer, walked: names that are strict are left out. -/
namespace Go.Proofs.Ytgjlkcdnlndlnaa
open Go Go.Proofs.Ytgjlkcdnlndlnaa.Sx F
set_option linter.unusedVariables false
set_option linter.unusedSimpArgs false
end Go.Proofs.Ytgjlkcdnlndlnaa
/- What is tried of an entry: plan.Attrs, walked. -/
namespace Go.Proofs.Ytgjlkcdnlndlnaa
open Go Go.Proofs.Ytgjlkcdnlndlnaa.Sx F
set_option linter.unusedVariables false
set_option linter.unusedSimpArgs false
end Go.Proofs.Ytgjlkcdnlndlnaa
/- The law PlanOrder, walked: in which order attributes are tried. -/
namespace Go.Proofs.Ytgjlkcdnlndlnaa
open Go Go.Proofs.Ytgjlkcdnlndlnaa.Sx F
set_option linter.unusedVariables false
set_option linter.unusedSimpArgs false
end Go.Proofs.Ytgjlkcdnlndlnaa
/- The document's plan, walked; the law PlanMade. -/
namespace Go.Proofs.Ytgjlkcdnlndlnaa
open Go Go.Proofs.Ytgjlkcdnlndlnaa.Sx F
set_option linter.unusedVariables false
set_option linter.unusedSimpArgs false
theorem list_ext_getD {α : Type} {a b : List α} (z : α) (hl : a.length = b.length) (h : ∀ j, j < a.length → a.getD j z = b.getD j z) : a = b := by
  apply List.ext_getElem hl
  intro i h1 h2
  have := h i h1
  simpa [List.getD_eq_getElem?_getD, List.getElem?_eq_getElem h1, List.getElem?_eq_getElem h2] using this
/-- Two lists that differ in a place. -/
theorem list_ne_getD {α : Type} {a b : List α} (z : α) (j : Nat) (h : a.getD j z ≠ b.getD j z) : a ≠ b := fun e => h (by rw [e])
end Go.Proofs.Ytgjlkcdnlndlnaa
/- Sameness of what is said of nodes. -/
namespace Go.Proofs.Ytgjlkcdnlndlnaa
open Go Go.Proofs.Ytgjlkcdnlndlnaa.Sx F
set_option linter.unusedVariables false
set_option linter.unusedSimpArgs false
end Go.Proofs.Ytgjlkcdnlndlnaa
/- What may be said of a node, and whether two are one: walked, exact. -/
namespace Go.Proofs.Ytgjlkcdnlndlnaa
open Go Go.Proofs.Ytgjlkcdnlndlnaa.Sx F
set_option linter.unusedVariables false
set_option linter.unusedSimpArgs false
structure MetaOk (m : Meta) (k : Int) : Prop where
  kind : k = 1 ∨ 3 ≤ k ∧ k ≤ 7
  mode : 0 ≤ m.mode ∧ m.mode ≤ 4095
  uid : IdOk m.uid
  gid : IdOk m.gid
  stamp : StampOk m.sec m.nano
  flags : mayF m.flags = true
  xs : XsOk m.xs
  acl : m.acl = [] ∨ AclOk m.acl ∧ modeA m.acl = band m.mode 511
  dflt : m.dflt = [] ∨ k = 6 ∧ AclOk m.dflt
  caps : CapsOk m.caps
  capk : k = 1 ∨ m.caps = Caps.zero
  sym : k ≠ 3 ∨ m.mode = 511 ∧ m.acl = [] ∧ m.flags = 0
structure MetaShort (m : Meta) : Prop where
  acl : short m.acl
  dflt : short m.dflt
  xs : short m.xs
  long : longX m.xs
theorem eqA_c (a b : Th (List Ace)) (ha : short (a .o)) {d : Nat} {K : ARes → BL → Prop} (hr : ∀ r : Th Bool, (r .o = true ↔ a .o = b .o) → K (.ret (.bool r)) .nil) : CallAt PT slices_Equal_api_Ace_api_Ace [aces a, aces b] d .nil K := by
  refine CallAt.res ?_
  refine slices_Equal_api_Ace_api_Ace.of rfl rfl ?_
  cbv
  have no : ∀ {x : AV}, a .o ≠ b .o → Same x (.bool fun _ => false) → ∃ r', SameR (.ret x) r' ∧ K r' .nil := fun h1 h2 => ⟨_, .ret h2, hr _ ⟨fun q => (by cases q), fun q => (h1 q).elim⟩⟩
  refine br_ndec (fun h1 => ?_) (fun h1 => ?_)
  · cbv
    exact no (fun q => h1 (by rw [q])) (.ff rfl)
  · have h1 : (a .o).length = (b .o).length := zi_inj.1 h1
    cbv
    refine loop_at (X := Nat) 1000 [0, 1, 12] [] (fun _ k => .cons 13 (.int .i64 fun _ => zi k) .nil) (fun _ _ => .nil) (fun k => k ≤ (a .o).length ∧ ∀ j, j < k → (a .o).getD j Ace.z = (b .o).getD j Ace.z) (fun k => (a .o).length - k) 0 ?_ ⟨Nat.zero_le _, fun j hj => by omega⟩ ?_
    · cbv
      (repeat' (first | exact True.intro | exact Same.refl _ | exact SameB.refl _ | exact ⟨rfl⟩ | exact Same.int rfl | exact Same.str rfl | exact Same.bool rfl | (refine Same.int ?_; simp only [List.length_append, List.length_cons, List.length_nil, zi]; omega) | (refine SameB.row' rfl fun i hi => ?_; first | rfl | exact absurd hi (Nat.not_lt_zero _)) | refine And.intro ?_ ?_ | refine SameB.cells ?_ | exact SameC.nil | refine SameC.cons ?_ ?_ | exact Same.nsl rfl | exact Same.tt rfl | exact Same.ff rfl))
    · rintro k ⟨hk, heq⟩
      have hz := zi_toNat k
      cbv
      ((try refine br_rev ?_); (first | refine br_dec (fun h2 => ?_) (fun h2 => ?_) | refine br_ndec (fun h2 => ?_) (fun h2 => ?_) | refine br_nbool (fun h2 => ?_) (fun h2 => ?_) | refine br_bool (fun h2 => ?_) (fun h2 => ?_)); all_goals (try dsimp only at h2); all_goals (try with_reducible replace h2 := zi_lt.1 h2); all_goals (try with_reducible replace h2 := not_zlt h2))
      · cbv
        refine safe ⟨zi_nonneg _, zi_lt.2 h2⟩ ?_
        refine safe ⟨zi_nonneg _, zi_lt.2 (by omega)⟩ ?_
        refine br_nbool (fun h3 => ?_) (fun h3 => ?_)
        · cbv
          refine no (list_ne_getD Ace.z k fun q => ?_) (.ff rfl)
          rw [hz, q] at h3
          simp at h3
        · rw [hz] at h3
          simp only [Bool.and_eq_true, decide_eq_true_eq] at h3
          have h3' : (a .o).getD k Ace.z = (b .o).getD k Ace.z := by
            have e1 := h3.1
            have e2 := h3.2.1
            have e3 := h3.2.2.1
            generalize (a .o).getD k Ace.z = p at e1 e2 e3 ⊢
            generalize (b .o).getD k Ace.z = q at e1 e2 e3 ⊢
            cases p; cases q
            simp only at e1 e2 e3
            rw [e1, e2, e3]
          cbv
          refine ⟨k + 1, ⟨h2, fun j hj => ?_⟩, by omega, ?_⟩
          · by_cases e : j = k
            · rw [e]; exact h3'
            · exact heq j (by omega)
          · cbv
            rw [zi_succ (by unfold short at ha; omega)]
            (repeat' (first | exact True.intro | exact Same.refl _ | exact SameB.refl _ | exact ⟨rfl⟩ | exact Same.int rfl | exact Same.str rfl | exact Same.bool rfl | (refine Same.int ?_; simp only [List.length_append, List.length_cons, List.length_nil, zi]; omega) | (refine SameB.row' rfl fun i hi => ?_; first | rfl | exact absurd hi (Nat.not_lt_zero _)) | refine And.intro ?_ ?_ | refine SameB.cells ?_ | exact SameC.nil | refine SameC.cons ?_ ?_ | exact Same.nsl rfl | exact Same.tt rfl | exact Same.ff rfl))
      · cbv
        exact ⟨_, .ret (y := .bool fun _ => true) (.tt rfl), hr _ ⟨fun _ => list_ext_getD Ace.z h1 fun j hj => heq j (by omega), fun _ => rfl⟩⟩
theorem eqX_c (a b : Th (List Xattr)) (ha : short (a .o)) {d : Nat} {K : ARes → BL → Prop} (hr : ∀ r : Th Bool, (r .o = true ↔ a .o = b .o) → K (.ret (.bool r)) .nil) : CallAt PT slices_Equal_api_Xattr_api_Xattr [xattrs a, xattrs b] d .nil K := by
  refine CallAt.res ?_
  refine slices_Equal_api_Xattr_api_Xattr.of rfl rfl ?_
  cbv
  have no : ∀ {x : AV}, a .o ≠ b .o → Same x (.bool fun _ => false) → ∃ r', SameR (.ret x) r' ∧ K r' .nil := fun h1 h2 => ⟨_, .ret h2, hr _ ⟨fun q => (by cases q), fun q => (h1 q).elim⟩⟩
  refine br_ndec (fun h1 => ?_) (fun h1 => ?_)
  · cbv
    exact no (fun q => h1 (by rw [q])) (.ff rfl)
  · have h1 : (a .o).length = (b .o).length := zi_inj.1 h1
    cbv
    refine loop_at (X := Nat) 1000 [0, 1, 12] [] (fun _ k => .cons 13 (.int .i64 fun _ => zi k) .nil) (fun _ _ => .nil) (fun k => k ≤ (a .o).length ∧ ∀ j, j < k → (a .o).getD j Xattr.z = (b .o).getD j Xattr.z) (fun k => (a .o).length - k) 0 ?_ ⟨Nat.zero_le _, fun j hj => by omega⟩ ?_
    · cbv
      (repeat' (first | exact True.intro | exact Same.refl _ | exact SameB.refl _ | exact ⟨rfl⟩ | exact Same.int rfl | exact Same.str rfl | exact Same.bool rfl | (refine Same.int ?_; simp only [List.length_append, List.length_cons, List.length_nil, zi]; omega) | (refine SameB.row' rfl fun i hi => ?_; first | rfl | exact absurd hi (Nat.not_lt_zero _)) | refine And.intro ?_ ?_ | refine SameB.cells ?_ | exact SameC.nil | refine SameC.cons ?_ ?_ | exact Same.nsl rfl | exact Same.tt rfl | exact Same.ff rfl))
    · rintro k ⟨hk, heq⟩
      have hz := zi_toNat k
      cbv
      ((try refine br_rev ?_); (first | refine br_dec (fun h2 => ?_) (fun h2 => ?_) | refine br_ndec (fun h2 => ?_) (fun h2 => ?_) | refine br_nbool (fun h2 => ?_) (fun h2 => ?_) | refine br_bool (fun h2 => ?_) (fun h2 => ?_)); all_goals (try dsimp only at h2); all_goals (try with_reducible replace h2 := zi_lt.1 h2); all_goals (try with_reducible replace h2 := not_zlt h2))
      · cbv
        refine safe ⟨zi_nonneg _, zi_lt.2 h2⟩ ?_
        refine safe ⟨zi_nonneg _, zi_lt.2 (by omega)⟩ ?_
        refine br_nbool (fun h3 => ?_) (fun h3 => ?_)
        · cbv
          refine no (list_ne_getD Xattr.z k fun q => ?_) (.ff rfl)
          rw [hz, q] at h3
          simp at h3
        · rw [hz] at h3
          simp only [Bool.and_eq_true, decide_eq_true_eq] at h3
          have h3' : (a .o).getD k Xattr.z = (b .o).getD k Xattr.z := by
            have e1 := h3.1
            have e2 := h3.2.1
            generalize (a .o).getD k Xattr.z = p at e1 e2 ⊢
            generalize (b .o).getD k Xattr.z = q at e1 e2 ⊢
            cases p; cases q
            simp only at e1 e2
            rw [e1, e2]
          cbv
          refine ⟨k + 1, ⟨h2, fun j hj => ?_⟩, by omega, ?_⟩
          · by_cases e : j = k
            · rw [e]; exact h3'
            · exact heq j (by omega)
          · cbv
            rw [zi_succ (by unfold short at ha; omega)]
            (repeat' (first | exact True.intro | exact Same.refl _ | exact SameB.refl _ | exact ⟨rfl⟩ | exact Same.int rfl | exact Same.str rfl | exact Same.bool rfl | (refine Same.int ?_; simp only [List.length_append, List.length_cons, List.length_nil, zi]; omega) | (refine SameB.row' rfl fun i hi => ?_; first | rfl | exact absurd hi (Nat.not_lt_zero _)) | refine And.intro ?_ ?_ | refine SameB.cells ?_ | exact SameC.nil | refine SameC.cons ?_ ?_ | exact Same.nsl rfl | exact Same.tt rfl | exact Same.ff rfl))
      · cbv
        exact ⟨_, .ret (y := .bool fun _ => true) (.tt rfl), hr _ ⟨fun _ => list_ext_getD Xattr.z h1 fun j hj => heq j (by omega), fun _ => rfl⟩⟩
theorem asame_c (a b : Th (List Ace)) (ha : short (a .o)) {d : Nat} {K : ARes → BL → Prop} (hr : ∀ r : Th Bool, (r .o = true ↔ a .o = b .o) → K (.ret (.bool r)) .nil) : CallAt PT acl_Same [aces a, aces b] d .nil K := by
  refine acl_Same.of rfl rfl ?_
  cbv
  refine eqA_c a b ha fun r h => ?_
  cbv
  exact hr _ h
theorem xsame_c (a b : Th (List Xattr)) (ha : short (a .o)) {d : Nat} {K : ARes → BL → Prop} (hr : ∀ r : Th Bool, (r .o = true ↔ a .o = b .o) → K (.ret (.bool r)) .nil) : CallAt PT xattr_Same [xattrs a, xattrs b] d .nil K := by
  refine xattr_Same.of rfl rfl ?_
  cbv
  refine eqX_c a b ha fun r h => ?_
  cbv
  exact hr _ h
theorem meta_ext {p q : Meta} (h1 : p.mode = q.mode) (h2 : p.uid = q.uid) (h3 : p.gid = q.gid) (h4 : p.sec = q.sec) (h5 : p.nano = q.nano) (h6 : p.acl = q.acl) (h7 : p.dflt = q.dflt) (h8 : p.xs = q.xs) (h9 : p.caps.ver = q.caps.ver) (h10 : p.caps.perm = q.caps.perm) (h11 : p.caps.inh = q.caps.inh) (h12 : p.caps.eff = q.caps.eff) (h13 : p.caps.root = q.caps.root) (h14 : p.flags = q.flags) : p = q := by
  obtain ⟨a1, a2, a3, a4, a5, a6, a7, a8, ⟨a9, a10, a11, a12, a13⟩, a14⟩ := p
  obtain ⟨b1, b2, b3, b4, b5, b6, b7, b8, ⟨b9, b10, b11, b12, b13⟩, b14⟩ := q
  dsimp only at *
  subst h1 h2 h3 h4 h5 h6 h7 h8 h9 h10 h11 h12 h13 h14
  rfl
theorem msame_c (a b : Th Meta) (h1 : short (a .o).acl) (h2 : short (a .o).dflt) (h3 : short (a .o).xs) {d : Nat} {K : ARes → BL → Prop} (hr : ∀ r : Th Bool, (r .o = true ↔ a .o = b .o) → K (.ret (.bool r)) .nil) :
    CallAt PT meta_Same [Meta.av a, Meta.av b] d .nil K := by
  refine CallAt.res ?_
  refine meta_Same.of rfl rfl ?_
  have no : ∀ {x : AV}, a .o ≠ b .o → Same x (.bool fun _ => false) → ∃ r', SameR (.ret x) r' ∧ K r' .nil := fun h1 h2 => ⟨_, .ret h2, hr _ ⟨fun q => (by cases q), fun q => (h1 q).elim⟩⟩
  cbv
  refine asame_c (fun _ => (a .o).acl) (fun _ => (b .o).acl) h1 fun rq5 hrq5 => ?_
  cbv
  refine br_bool (fun q5 => ?_) (fun q5 => ?_)
  rotate_left
  · cbv
    exact no (fun q => by rw [hrq5.2 (by rw [q])] at q5; cases q5) (.ff rfl)
  replace q5 : (a .o).acl = (b .o).acl := hrq5.1 q5
  cbv
  refine asame_c (fun _ => (a .o).dflt) (fun _ => (b .o).dflt) h2 fun rq6 hrq6 => ?_
  cbv
  refine br_bool (fun q6 => ?_) (fun q6 => ?_)
  rotate_left
  · cbv
    exact no (fun q => by rw [hrq6.2 (by rw [q])] at q6; cases q6) (.ff rfl)
  replace q6 : (a .o).dflt = (b .o).dflt := hrq6.1 q6
  cbv
  refine xsame_c (fun _ => (a .o).xs) (fun _ => (b .o).xs) h3 fun rq7 hrq7 => ?_
  cbv
  refine br_bool (fun q7 => ?_) (fun q7 => ?_)
  rotate_left
  · cbv
    exact no (fun q => by rw [hrq7.2 (by rw [q])] at q7; cases q7) (.ff rfl)
  replace q7 : (a .o).xs = (b .o).xs := hrq7.1 q7
  cbv
  refine br_dec (fun q1 => ?_) (fun q1 => ?_)
  rotate_left
  · cbv
    exact no (fun q => q1 (by rw [q])) (.ff rfl)
  cbv
  refine br_dec (fun q2 => ?_) (fun q2 => ?_)
  rotate_left
  · cbv
    exact no (fun q => q2 (by rw [q])) (.ff rfl)
  cbv
  refine br_dec (fun q3 => ?_) (fun q3 => ?_)
  rotate_left
  · cbv
    exact no (fun q => q3 (by rw [q])) (.ff rfl)
  cbv
  refine br_bool (fun q4 => ?_) (fun q4 => ?_)
  rotate_left
  · cbv
    exact no (fun q => by rw [q] at q4; simp at q4) (.ff rfl)
  simp only [Bool.and_eq_true, decide_eq_true_eq] at q4
  cbv
  refine br_bool (fun q8 => ?_) (fun q8 => ?_)
  rotate_left
  · cbv
    exact no (fun q => by rw [q] at q8; simp at q8) (.ff rfl)
  simp only [Bool.and_eq_true, decide_eq_true_eq, beq_iff_eq] at q8
  cbv
  refine ⟨_, .ret (.refl _), hr _ ⟨fun q9 => ?_, fun q => decide_eq_true (by rw [q])⟩⟩
  have q9 : (a .o).flags = (b .o).flags := of_decide_eq_true q9
  have q1 : (a .o).mode = (b .o).mode := q1
  have q2 : (a .o).uid = (b .o).uid := q2
  have q3 : (a .o).gid = (b .o).gid := q3
  obtain ⟨q41, q42, _⟩ := q4
  obtain ⟨q81, q82, q83, q84, q85, _⟩ := q8
  exact meta_ext q1 q2 q3 q41 q42 q5 q6 q7 q81 q82 q83 q84 q85 q9
def mayNotV (s : Th (List UInt8)) : AV := .ifc 110 (.agg (.cons (.str s) .nil))
theorem must_c (b : Th Bool) (s : Th (List UInt8)) {d : Nat} {K : ARes → BL → Prop} (hr : b .o = true → K (.ret (.tup .nil)) .nil) (hp : b .o = false → K (.pan (mayNotV s)) .nil) : CallAt PT meta_must [.bool b, .str s] d .nil K := by
  refine meta_must.of rfl rfl ?_
  cbv
  refine br_nbool (fun h => ?_) (fun h => ?_)
  · cbv
    exact hp h
  · cbv
    exact hr h
theorem must_tt {s : Th (List UInt8)} {d : Nat} {K : ARes → BL → Prop} (hr : K (.ret (.tup .nil)) .nil) : CallAt PT meta_must [.tt, .str s] d .nil K := by
  refine meta_must.of rfl rfl ?_
  cbv
  exact hr
theorem must_ff {s : Th (List UInt8)} {d : Nat} {K : ARes → BL → Prop} (hp : K (.pan (mayNotV s)) .nil) : CallAt PT meta_must [.ff, .str s] d .nil K := by
  refine meta_must.of rfl rfl ?_
  cbv
  exact hp
theorem capz (c : Caps) : (decide (c.ver = 0) && (decide (c.perm = 0) && (decide (c.inh = 0) && ((c.eff == false) && (decide (c.root = 0) && true))))) = true ↔ c = Caps.zero := Caps.zero_iff c
theorem look_c (m : Th Meta) (k : Th Int) (hs : MetaShort (m .o)) {d : Nat} {K : ARes → BL → Prop} (hr : MetaOk (m .o) (k .o) → K (.ret (.tup .nil)) .nil) (hp : ¬ MetaOk (m .o) (k .o) → ∀ s, K (.pan (mayNotV s)) .nil) : CallAt PT meta_look [Meta.av m, .int .i64 k] d .nil K := by
  refine meta_look.of rfl rfl ?_
  cbv
  -- the kind
  refine br_rev (br_dec (fun a1 => ?_) (fun a1 => ?_))
  focus
    have a1 : k .o = 1 := a1
    have hK : k .o = 1 ∨ 3 ≤ k .o ∧ k .o ≤ 7 := .inl a1
    cbv
    refine must_tt ?_
    cbv
  rotate_left
  focus
    have a1 : ¬ k .o = 1 := a1
    cbv
    refine br_dec (fun a2 => ?_) (fun a2 => ?_)
    rotate_left
    focus
      cbv
      refine must_ff ?_
      cbv
      exact hp (fun q => by have a2 : ¬ 3 ≤ k .o := a2; have := q.kind; omega) _
    have a2 : 3 ≤ k .o := a2
    cbv
    refine must_c _ _ (fun a3 => ?_) (fun a3 => ?_)
    rotate_left
    focus
      cbv
      exact hp (fun q => by have a3 : ¬ k .o ≤ 7 := of_decide_eq_false a3; have := q.kind; omega) _
    have a3 : k .o ≤ 7 := of_decide_eq_true a3
    have hK : k .o = 1 ∨ 3 ≤ k .o ∧ k .o ≤ 7 := .inr ⟨a2, a3⟩
    cbv
  rotate_left
  all_goals
    -- the mode
    refine br_dec (fun b1 => ?_) (fun b1 => ?_)
    rotate_left
    focus
      cbv
      refine must_ff ?_
      cbv
      exact hp (fun q => b1 q.mode.1) _
    cbv
    refine must_c _ _ (fun b2 => ?_) (fun b2 => ?_)
    rotate_left
    focus
      cbv
      exact hp (fun q => of_decide_eq_false b2 q.mode.2) _
    have hM : 0 ≤ (m .o).mode ∧ (m .o).mode ≤ 4095 := ⟨b1, of_decide_eq_true b2⟩
    cbv
    -- owner and group
    refine br_dec (fun c1 => ?_) (fun c1 => ?_)
    rotate_left
    focus
      cbv
      refine must_ff ?_
      cbv
      exact hp (fun q => c1 q.uid.1) _
    cbv
    refine br_dec (fun c2 => ?_) (fun c2 => ?_)
    rotate_left
    focus
      cbv
      refine must_ff ?_
      cbv
      exact hp (fun q => c2 q.uid.2) _
    cbv
    refine br_dec (fun c3 => ?_) (fun c3 => ?_)
    rotate_left
    focus
      cbv
      refine must_ff ?_
      cbv
      exact hp (fun q => c3 q.gid.1) _
    cbv
    refine must_c _ _ (fun c4 => ?_) (fun c4 => ?_)
    rotate_left
    focus
      cbv
      exact hp (fun q => of_decide_eq_false c4 q.gid.2) _
    have hU : IdOk (m .o).uid := ⟨c1, c2⟩
    have hG : IdOk (m .o).gid := ⟨c3, of_decide_eq_true c4⟩
    cbv
    -- times, flags, names
    refine stamp_c (fun _ => (m .o).sec) (fun _ => (m .o).nano) fun d1 e1 => ?_
    cbv
    refine br_bool (fun f1 => ?_) (fun f1 => ?_)
    rotate_left
    focus
      cbv
      refine must_ff ?_
      cbv
      exact hp (fun q => by rw [e1.2 q.stamp] at f1; cases f1) _
    have hS := e1.1 f1
    cbv
    refine fmay_c (fun _ => (m .o).flags) fun d2 e2 => ?_
    cbv
    refine br_bool (fun f2 => ?_) (fun f2 => ?_)
    rotate_left
    focus
      cbv
      refine must_ff ?_
      cbv
      exact hp (fun q => by have := q.flags; rw [e2, this] at f2; cases f2) _
    have hF : mayF (m .o).flags = true := e2.symm.trans f2
    cbv
    refine xsmay_c (fun _ => (m .o).xs) hs.xs hs.long fun d3 e3 => ?_
    cbv
    refine must_c _ _ (fun f3 => ?_) (fun f3 => ?_)
    rotate_left
    focus
      cbv
      exact hp (fun q => by rw [e3.2 q.xs] at f3; cases f3) _
    have hX := e3.1 f3
    cbv
    -- the list
    refine br_rev (br_dec (fun g1 => ?_) (fun g1 => ?_))
  all_goals try (
    have hA : (m .o).acl = [] := List.eq_nil_of_length_eq_zero (zi_inj.1 g1)
    cbv
    refine must_tt ?_
    have hA : (m .o).acl = [] ∨ AclOk (m .o).acl ∧ modeA (m .o).acl = band (m .o).mode 511 := .inl hA
    cbv)
  all_goals try (
    have hA : ¬ (m .o).acl = [] := fun e => g1 (by show zi (m .o).acl.length = 0; rw [e]; rfl)
    cbv
    refine aclmay_c (fun _ => (m .o).acl) hs.acl fun g2 g3 => ?_
    cbv
    refine br_bool (fun g4 => ?_) (fun g4 => ?_)
    rotate_left
    focus
      cbv
      refine must_ff ?_
      cbv
      exact hp (fun q => by rcases q.acl with q | q; exact hA q; rw [g3.2 q.1] at g4; cases g4) _
    have g5 := g3.1 g4
    cbv
    refine aclmode_c (fun _ => (m .o).acl) hs.acl g5.good fun g6 g7 => ?_
    cbv
    refine must_c _ _ (fun g8 => ?_) (fun g8 => ?_)
    rotate_left
    focus
      cbv
      exact hp (fun q => by
        rcases q.acl with q | q
        · exact hA q
        · exact of_decide_eq_false g8 (by rw [g7]; exact q.2)) _
    have hA : (m .o).acl = [] ∨ AclOk (m .o).acl ∧ modeA (m .o).acl = band (m .o).mode 511 := .inr ⟨g5, by rw [← g7]; exact of_decide_eq_true g8⟩
    cbv)
  all_goals
    -- the list for what comes
    refine br_rev (br_dec (fun i1 => ?_) (fun i1 => ?_))
  all_goals try (
    have hD : (m .o).dflt = [] := List.eq_nil_of_length_eq_zero (zi_inj.1 i1)
    cbv
    refine must_tt ?_
    have hD : (m .o).dflt = [] ∨ k .o = 6 ∧ AclOk (m .o).dflt := .inl hD
    cbv)
  all_goals try (
    have hD : ¬ (m .o).dflt = [] := fun e => i1 (by show zi (m .o).dflt.length = 0; rw [e]; rfl)
    cbv
    refine br_dec (fun i2 => ?_) (fun i2 => ?_)
    rotate_left
    focus
      cbv
      refine must_ff ?_
      cbv
      exact hp (fun q => by rcases q.dflt with q | q; exact hD q; exact i2 q.1) _
    have i2 : k .o = 6 := i2
    cbv
    refine aclmay_c (fun _ => (m .o).dflt) hs.dflt fun i3 i4 => ?_
    cbv
    refine must_c _ _ (fun i5 => ?_) (fun i5 => ?_)
    rotate_left
    focus
      cbv
      exact hp (fun q => by rcases q.dflt with q | q; exact hD q; rw [i4.2 q.2] at i5; cases i5) _
    have hD : (m .o).dflt = [] ∨ k .o = 6 ∧ AclOk (m .o).dflt := .inr ⟨i2, i4.1 i5⟩
    cbv)
  all_goals
    -- capabilities
    refine caps_c (fun _ => (m .o).caps) fun j1 j2 => ?_
    cbv
    refine br_bool (fun j3 => ?_) (fun j3 => ?_)
    rotate_left
    focus
      cbv
      refine must_ff ?_
      cbv
      exact hp (fun q => by rw [j2.2 q.caps] at j3; cases j3) _
    have hC := j2.1 j3
    cbv
    refine br_rev (br_dec (fun j4 => ?_) (fun j4 => ?_))
  all_goals try (
    have hCk : k .o = 1 := j4
    cbv
    refine must_tt ?_
    have hCk : k .o = 1 ∨ (m .o).caps = Caps.zero := .inl hCk
    cbv)
  all_goals try (
    have j4 : ¬ k .o = 1 := j4
    cbv
    refine must_c _ _ (fun j5 => ?_) (fun j5 => ?_)
    rotate_left
    focus
      cbv
      exact hp (fun q => by rcases q.capk with q | q; exact j4 q; have j5 := (Bool.eq_false_iff.1 j5); exact j5 ((capz _).2 q)) _
    have hCk : k .o = 1 ∨ (m .o).caps = Caps.zero := .inr ((capz _).1 j5)
    cbv)
  all_goals
    -- links
    refine br_rev (br_ndec (fun l1 => ?_) (fun l1 => ?_))
  all_goals try (
    have l1 : ¬ k .o = 3 := l1
    cbv
    refine must_tt ?_
    cbv
    exact hr ⟨hK, hM, hU, hG, hS, hF, hX, hA, hD, hC, hCk, .inl l1⟩)
  all_goals
    have l1 : k .o = 3 := l1
    cbv
    refine br_dec (fun l2 => ?_) (fun l2 => ?_)
    rotate_left
    focus
      cbv
      refine must_ff ?_
      cbv
      exact hp (fun q => by rcases q.sym with q | q; exact q l1; exact l2 q.1) _
    cbv
    refine br_dec (fun l3 => ?_) (fun l3 => ?_)
    rotate_left
    focus
      cbv
      refine must_ff ?_
      cbv
      exact hp (fun q => by rcases q.sym with q | q; exact q l1; exact l3 (by show zi (m .o).acl.length = 0; rw [q.2.1]; rfl)) _
    cbv
    refine must_c _ _ (fun l4 => ?_) (fun l4 => ?_)
    rotate_left
    focus
      cbv
      exact hp (fun q => by rcases q.sym with q | q; exact q l1; exact of_decide_eq_false l4 q.2.2) _
    cbv
    exact hr ⟨hK, hM, hU, hG, hS, hF, hX, hA, hD, hC, hCk, .inr ⟨l2, List.eq_nil_of_length_eq_zero (zi_inj.1 l3), of_decide_eq_true l4⟩⟩
end Go.Proofs.Ytgjlkcdnlndlnaa
/- meta.May, the document's, what is too heavy: walked, exact. -/
namespace Go.Proofs.Ytgjlkcdnlndlnaa
open Go Go.Proofs.Ytgjlkcdnlndlnaa.Sx F
set_option linter.unusedVariables false
set_option linter.unusedSimpArgs false
theorem mendT_c {K : BL → Prop} (h : K (.cons 10000 (.cells (.cons .tt .nil)) .nil)) : DefAt PT meta_May_1 false [.nif, .ptr 10000 0] (.cons 10000 (.cells (.cons .tt .nil)) .nil) K := by
  refine meta_May_1.of rfl rfl (fun _ => rfl) ?_
  cbv
  exact h
theorem mendS_c (s : Th (List UInt8)) {K : BL → Prop} (h : K (.cons 10000 (.cells (.cons .ff .nil)) .nil)) : DefAt PT meta_May_1 true [mayNotV s, .ptr 10000 0] (.cons 10000 (.cells (.cons .ff .nil)) .nil) K := by
  refine meta_May_1.of rfl rfl (fun h => by cases h) ?_
  cbv
  exact h
theorem mmay_c (m : Th Meta) (k : Th Int) (hs : MetaShort (m .o)) {d : Nat} {K : ARes → BL → Prop} (hr : ∀ b : Th Bool, (b .o = true ↔ MetaOk (m .o) (k .o)) → K (.ret (.bool b)) .nil) : CallAt PT meta_May [Meta.av m, .int .i64 k] d .nil K := by
  refine CallAt.res ?_
  refine meta_May.of rfl rfl ?_
  cbv
  refine look_c m k hs (fun h => ?_) (fun h s => ?_)
  · cbv
    refine DefAt.use [(10000, 4)] [.nif, .ptr 10000 0] (by kernel_rfl) rfl (mendT_c ?_)
    cbv
    exact ⟨_, .ret (.tt rfl), hr (fun _ => true) ⟨fun _ => h, fun _ => rfl⟩⟩
  · cbv
    refine DefAt.use [(10000, 4)] [mayNotV s, .ptr 10000 0] (by kernel_rfl) rfl (mendS_c s ?_)
    cbv
    exact ⟨_, .ret (.ff rfl), hr (fun _ => false) ⟨fun q => (by cases q), fun q => (h q).elim⟩⟩
theorem mplain_c (mo u g : Th Int) {d : Nat} {K : ARes → BL → Prop} (hr : ∀ m : Th Meta, m .o = { metaZ with mode := mo .o, uid := u .o, gid := g .o } → K (.ret (Meta.av m)) .nil) : CallAt PT meta_Plain [.int .i64 mo, .int .i64 u, .int .i64 g] d .nil K := by
  refine CallAt.res ?_
  refine meta_Plain.of rfl rfl ?_
  cbv
  exact meta_ret (fun _ => []) (fun _ => []) (fun _ => []) nsl_aces nsl_aces nsl_xattrs ff_bool (hr (fun _ => { metaZ with mode := mo .o, uid := u .o, gid := g .o }) rfl)
theorem shortZ (mo u g : Int) : MetaShort { metaZ with mode := mo, uid := u, gid := g } := ⟨Nat.zero_le _, Nat.zero_le _, Nat.zero_le _, fun x hx => by cases hx⟩
theorem xsOk_nil : XsOk [] := ⟨⟨fun j hj => absurd hj (Nat.not_lt_zero _), fun j hj => absurd hj (Nat.not_lt_zero _)⟩, Nat.zero_le _⟩
theorem metaOk_plain {mo u g k : Int} (hk : k = 1 ∨ 3 ≤ k ∧ k ≤ 7) (hm : 0 ≤ mo ∧ mo ≤ 4095) (hu : IdOk u) (hg : IdOk g) (hs : k ≠ 3 ∨ mo = 511) : MetaOk { metaZ with mode := mo, uid := u, gid := g } k :=
  ⟨hk, hm, hu, hg, (show StampOk 0 0 from ⟨by decide, by decide, by decide, by decide⟩), rfl, xsOk_nil, .inl rfl, .inl rfl, .inl rfl, .inr rfl, by rcases hs with q | q; exact .inl q; exact .inr ⟨q, rfl, rfl⟩⟩
theorem metaZ_arg {d : Nat} {k : Th Int} {K : ARes → BL → Prop} (h : CallAt PT meta_May [Meta.av fun _ => metaZ, .int .i64 k] d .nil K) :
    CallAt PT meta_May [.agg (.cons (.int .i64 fun _ => 0) (.cons (.int .i64 fun _ => 0) (.cons (.int .i64 fun _ => 0) (.cons (.int .i64 fun _ => 0) (.cons (.int .i64 fun _ => 0) (.cons .nsl (.cons .nsl (.cons .nsl (.cons (.int .i64 fun _ => 0) (.cons (.int .u64 fun _ => 0) (.cons (.int .u64 fun _ => 0) (.cons .ff (.cons (.int .i64 fun _ => 0) (.cons (.int .i64 fun _ => 0) .nil)))))))))))))), .int .i64 k] d .nil K :=
  CallAt.args (.cons (.agg (.cons (.int rfl) (.cons (.int rfl) (.cons (.int rfl) (.cons (.int rfl) (.cons (.int rfl) (.cons nsl_aces (.cons nsl_aces (.cons nsl_xattrs (.cons (.int rfl) (.cons (.int rfl) (.cons (.int rfl) (.cons ff_bool (.cons (.int rfl) (.cons (.int rfl) .nil))))))))))))))) (.cons (.refl _) .nil)) h
theorem awake14_c {d : Nat} {K : ARes → BL → Prop} (hr : ∀ b : Th Bool, b .o = true → K (.ret (.bool b)) .nil) : CallAt PT l14_awake [] d .nil K := by
  refine CallAt.res ?_
  refine l14_awake.of rfl rfl ?_
  cbv
  refine mplain_c _ _ _ fun m hm => ?_
  cbv
  refine mmay_c m (fun _ => 1) (by rw [hm]; exact shortZ _ _ _) fun b hb => ?_
  have hb : b .o = true := hb.2 (by rw [hm]; exact metaOk_plain (.inl rfl) ⟨by decide, by decide⟩ ⟨by decide, by decide⟩ ⟨by decide, by decide⟩ (.inl (by decide)))
  cbv
  (first | refine br_is (hb) ?_ | refine br_not (hb) ?_ | refine br_rev (br_is (hb) ?_) | refine br_rev (br_not (hb) ?_))
  cbv
  refine metaZ_arg ?_
  refine mmay_c (fun _ => metaZ) (fun _ => 2) (shortZ 0 0 0) fun b2 hb2 => ?_
  have hb2 : (!b2 .o) = true := by
    have : ¬ b2 .o = true := fun q => by have := (hb2.1 q).kind; exact absurd this (by decide)
    simpa using this
  cbv
  exact ⟨_, .ret (.refl _), hr _ hb2⟩
end Go.Proofs.Ytgjlkcdnlndlnaa
