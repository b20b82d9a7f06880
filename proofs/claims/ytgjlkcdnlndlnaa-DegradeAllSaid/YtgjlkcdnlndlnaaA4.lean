/- Texts laid together: Dat, Row, Opn, Byt, Rc, RcP, RcM, Fm, Right, RightA, Made, Mk, Mkx, Mkm, Modes, Acl, Less, Ref, MeA, Ref2, RightMade, May, MeB, MeC, MeD, Bld, Bldx, Esc, Strs. -/
import Derived.ChangeSlices
import Derived.SizedLaws
import Derived.Deep.Slices
import Derived.Test.YtgjlkcdnlndlnaaProg
import Derived.KernelRfl
import Derived.Shelf.Strings.Builder1
import Derived.Shelf.LaysM
import Derived.WalkKit
import Derived.WalkLawsBesides
import Derived.Lib.Strings
import Derived.Lib.Slices
import Derived.Lib.Walk
import Derived.Lib.AppendStr
import Derived.Laws.IdiomCopy
import Derived.Laws.Externs
import Derived.Lib.ConvBytes
import Derived.Laws.IdiomStrings
import Derived.Deep.RegionWith
import Derived.Lib.Bytealg
import Derived.Test.YtgjlkcdnlndlnaaA3
/- The program's data, as the executor tells of it. -/
namespace Go.Proofs.Ytgjlkcdnlndlnaa
open Go Go.Proofs.Ytgjlkcdnlndlnaa.Sx
/-- A part of an access list. -/
structure Ace where
  tag : Int
  id : Int
  perm : Int
def Ace.z : Ace := ⟨0, 0, 0⟩
def Ace.ch (a : Th Ace) : AV := .cons (.int .i64 fun _ => (a .o).tag) (.cons (.int .i64 fun _ => (a .o).id) (.cons (.int .i64 fun _ => (a .o).perm) .nil))
def Ace.av (a : Th Ace) : AV := .agg (Ace.ch a)
def aces (l : Th (List Ace)) : AV := .sl 3 (fun _ => (l .o).length) fun i => Ace.ch fun _ => (l .o).getD (i .o) Ace.z
def ints (l : Th (List Int)) : AV := .sl 1 (fun _ => (l .o).length) fun i => .cons (.int .i64 fun _ => (l .o).getD (i .o) 0) .nil
/-- A name with a value. -/
structure Xattr where
  name : List UInt8
  value : List UInt8
def Xattr.z : Xattr := ⟨[], []⟩
def Xattr.ch (a : Th Xattr) : AV := .cons (.str fun _ => (a .o).name) (.cons (.str fun _ => (a .o).value) .nil)
def Xattr.av (a : Th Xattr) : AV := .agg (Xattr.ch a)
def xattrs (l : Th (List Xattr)) : AV := .sl 2 (fun _ => (l .o).length) fun i => Xattr.ch fun _ => (l .o).getD (i .o) Xattr.z
structure Caps where
  ver : Int
  perm : Int
  inh : Int
  eff : Bool
  root : Int
structure Meta where
  mode : Int
  uid : Int
  gid : Int
  sec : Int
  nano : Int
  acl : List Ace
  dflt : List Ace
  xs : List Xattr
  caps : Caps
  flags : Int
def Meta.ch (m : Th Meta) : AV :=
  .cons (.int .i64 fun _ => (m .o).mode) (.cons (.int .i64 fun _ => (m .o).uid) (.cons (.int .i64 fun _ => (m .o).gid) (.cons (.int .i64 fun _ => (m .o).sec) (.cons (.int .i64 fun _ => (m .o).nano)
  (.cons (aces fun _ => (m .o).acl) (.cons (aces fun _ => (m .o).dflt) (.cons (xattrs fun _ => (m .o).xs)
  (.cons (.int .i64 fun _ => (m .o).caps.ver) (.cons (.int .u64 fun _ => (m .o).caps.perm) (.cons (.int .u64 fun _ => (m .o).caps.inh) (.cons (.bool fun _ => (m .o).caps.eff) (.cons (.int .i64 fun _ => (m .o).caps.root)
  (.cons (.int .i64 fun _ => (m .o).flags) .nil)))))))))))))
def Meta.av (m : Th Meta) : AV := .agg (Meta.ch m)
structure Cred where
  uid : Int
  gid : Int
  groups : List Int
  powers : Int
def Cred.ch (c : Th Cred) : AV := .cons (.int .i64 fun _ => (c .o).uid) (.cons (.int .i64 fun _ => (c .o).gid) (.cons (ints fun _ => (c .o).groups) (.cons (.int .i64 fun _ => (c .o).powers) .nil)))
def Cred.av (c : Th Cred) : AV := .agg (Cred.ch c)
/-- Short enough for a count that is a number of 64 bits. -/
def short {α : Type} (l : List α) : Prop := l.length ≤ 140737488355328
def ixP {α : Type} (p : α → Bool) : List α → Int
  | [] => -1
  | y :: r => if p y = true then 0 else if ixP p r < 0 then -1 else ixP p r + 1
theorem ixP_at {α : Type} (p : α → Bool) (z : α) : ∀ (l : List α) (k : Nat), k < l.length → (∀ j, j < k → p (l.getD j z) = false) → p (l.getD k z) = true → ixP p l = zi k
  | [], k, hk, _, _ => by simp at hk
  | y :: r, 0, _, _, h => by simp at h; simp [ixP, h, zi]
  | y :: r, k + 1, hk, hj, h => by
    have h0 := hj 0 (by omega)
    have := ixP_at p z r k (by simpa using hk) (fun j hj' => by simpa using hj (j + 1) (by omega)) (by simpa using h)
    simp at h0
    simp only [ixP, h0, this, Bool.false_eq_true, if_false]
    unfold zi
    rw [if_neg (by omega)]
    omega
theorem ixP_no {α : Type} (p : α → Bool) (z : α) : ∀ (l : List α), (∀ j, j < l.length → p (l.getD j z) = false) → ixP p l = -1
  | [], _ => rfl
  | y :: r, h => by
    have h0 := h 0 (by simp)
    have := ixP_no p z r fun j hj => by simpa using h (j + 1) (by simpa using hj)
    simp at h0
    simp [ixP, h0, this]
end Go.Proofs.Ytgjlkcdnlndlnaa
/- From a law's contract to what its row asks: it answers true, and nothing that was there has turned. -/
namespace Go.Proofs.Ytgjlkcdnlndlnaa
open Go Go.Proofs.Ytgjlkcdnlndlnaa.Sx Go.RowKit
/-- What a law is to come to. -/
def Yes (r : ARes) (_ : BL) : Prop := ∃ b : Th Bool, r = .ret (.bool b) ∧ b .o = true
theorem law_of {P : Th Program} {f : Nat} {asL0 : List AV} {w : World} {vs : List Value} (I : Nat → Nat → Prop) (hI : ∀ b o, I b o → b < w.heap.size) (hv : ListC ⟨fun _ => 0, fun _ => undef, I, w⟩ (chain asL0) vs) (hs : (chain asL0).still)
    (h : CallAt P f asL0 9999 .nil Yes) : Calls (P .o) f vs.toArray w fun e w' => e = .returned (.bool true) ∧ Below w.heap.size w w' := by
  have hdead : ∀ x, ¬ BL.nil.liveAt x := fun x hx => by simp [BL.liveAt, BL.get, Blk.live] at hx
  refine (h.run ⟨fun _ => 0, fun _ => undef, I, w⟩ vs ⟨fun d => trivial, fun d d' hd => (hdead d (solid_live hd)).elim, fun d hd => (hdead d (solid_live hd)).elim, hI, fun d x hx => hx.elim⟩ hv (fun x hx => ((AV.still_locs _).1 hs x hx).elim) (hdead _)).mono ?_
  rintro e w' ⟨E', r, B', rfl, ⟨b, rfl, hb⟩, hend, hinv, hpost, hl⟩
  cases e with
  | returned x =>
    have hx : x = .bool (b .o) := hend
    rw [hx, hb]
    exact ⟨rfl, hpost.os, hpost.tape, hpost.output, hpost.size, fun k hk => hpost.old k hk fun x hx => (hdead x (solid_live hx)).elim⟩
  | _ => exact hend.elim
end Go.Proofs.Ytgjlkcdnlndlnaa
/- What a caller hands in, of any plain type, as the executor tells of it. -/
namespace Go.Proofs.Ytgjlkcdnlndlnaa
open Go Go.Proofs.Ytgjlkcdnlndlnaa.Sx Go.RowKit
set_option linter.unusedVariables false
set_option linter.unusedSimpArgs false
/-- The cells of a plain type. -/
inductive CS : Type | nil | b (r : CS) | i (k : IntKind) (r : CS) | s (r : CS) | sl (e r : CS)
def CS.len : CS → Nat | .nil => 0 | .b r => r.len + 1 | .i _ r => r.len + 1 | .s r => r.len + 1 | .sl _ r => r.len + 1
/-- A chain of such cells. -/
def Shape : CS → AV → Prop
  | .nil, c => c = .nil
  | .b r, c => ∃ x t, c = .cons (.bool x) t ∧ Shape r t
  | .i k r, c => ∃ n t, c = .cons (.int k n) t ∧ (Lit.int k (n .o)).wf = true ∧ Shape r t
  | .s r, c => ∃ x t, c = .cons (.str x) t ∧ (x .o).length ≤ 140737488355328 ∧ Shape r t
  | .sl e r, c => ∃ n g t, c = .cons (.sl e.len n g) t ∧ n .o ≤ 140737488351232 ∧ (∀ j, j < n .o → Shape e (g fun _ => j)) ∧ Shape r t
theorem shape_ok : ∀ (e : CS) (c : AV), Shape e c → c.okE ∧ c.len = e.len
  | .nil, c, h => by cases h; exact ⟨⟨trivial, rfl⟩, rfl⟩
  | .b r, c, h => by obtain ⟨x, t, rfl, h⟩ := h; obtain ⟨⟨h1, h2⟩, h3⟩ := shape_ok r t h; exact ⟨⟨⟨trivial, h1⟩, h2⟩, by simp [AV.len, CS.len, h3]⟩
  | .i k r, c, h => by obtain ⟨x, t, rfl, _, h⟩ := h; obtain ⟨⟨h1, h2⟩, h3⟩ := shape_ok r t h; exact ⟨⟨⟨trivial, h1⟩, h2⟩, by simp [AV.len, CS.len, h3]⟩
  | .s r, c, h => by obtain ⟨x, t, rfl, _, h⟩ := h; obtain ⟨⟨h1, h2⟩, h3⟩ := shape_ok r t h; exact ⟨⟨⟨trivial, h1⟩, h2⟩, by simp [AV.len, CS.len, h3]⟩
  | .sl e r, c, h => by obtain ⟨n, g, t, rfl, _, _, h⟩ := h; obtain ⟨⟨h1, h2⟩, h3⟩ := shape_ok r t h; exact ⟨⟨⟨trivial, h1⟩, h2⟩, by simp [AV.len, CS.len, h3]⟩
def tcsF (P : Program) (g : TypeId → CS → Option CS) : List Field → Nat → Nat → CS → Option CS
  | [], off, n, r => if off = n then some r else none
  | f :: fs, off, n, r => if f.offset = off then (match tcsF P g fs (off + P.cellsOf f.type) n r with | some q => g f.type q | none => none) else none
def tcs (P : Program) : Nat → TypeId → CS → Option CS
  | 0, _, _ => none
  | d + 1, t, r => match P.underlying t with
    | some .bool => some (.b r)
    | some (.int k) => some (.i k r)
    | some .string => some (.s r)
    | some (.slice e) => match tcs P d e .nil with
      | some c => if P.cellsOf e = c.len ∧ 0 < c.len ∧ 0 < P.bytesOf e then some (.sl c r) else none
      | none => none
    | some (.struct fs) => tcsF P (tcs P d) fs.toList 0 (P.cellsOf t) r
    | _ => none
section
variable {H : Type} {enc : TypeId × Value → H} {P : Program} {w : World}
/-- The caller's memory, shut for good. -/
abbrev envOf (w : World) : Env := ⟨fun _ => 0, fun _ => undef, fun b _ => b < w.heap.size, w⟩
def Small (P : Program) (t : TypeId) (d : DataW H) : Prop := ∀ n ∈ d.weights P t, n ≤ reachBytes
theorem mapM_cons' {α β : Type} (f : α → Option β) (a : α) (l : List α) (r : List β) (h : (a :: l).mapM f = some r) : ∃ x q, f a = some x ∧ l.mapM f = some q ∧ r = x :: q := by
  rw [List.mapM_cons] at h
  cases hx : f a with
  | none => rw [hx] at h; cases h
  | some x =>
    rw [hx] at h
    cases hq : l.mapM f with
    | none => rw [hq] at h; cases h
    | some q => rw [hq] at h; cases h; exact ⟨x, q, rfl, rfl, rfl⟩
/-- What opens a type: any cells that are read as data of it. -/
def Opens (enc : TypeId × Value → H) (P : Program) (w : World) (g : TypeId → CS → Option CS) : Prop :=
  ∀ t r c, g t r = some c → ∀ fuel cs (d : DataW H) ps, DataW.trod enc P w 0 (fun _ => true) true fuel t cs = some (d, ps) → Small P t d → ∀ (rest : AV) (rl : List Value), Shape r rest → ListC (envOf w) rest rl →
    ∃ ch, Shape c ch ∧ ListC (envOf w) ch (cs ++ rl)
theorem open_fields {g : TypeId → CS → Option CS} (hg : Opens enc P w g) {fuel : Nat} {cs : List Value} : ∀ (fs : List Field) (off : Nat) (r c : CS), tcsF P g fs off cs.length r = some c → ∀ xs : List (DataW H × List MemPlace),
    (fs.mapM fun f => DataW.trod enc P w 0 (fun _ => true) true fuel f.type ((cs.drop f.offset).take (P.cellsOf f.type))) = some xs → (∀ n ∈ DataW.weightsEach P (fs.map (·.type)) (xs.map (·.1)), n ≤ reachBytes) →
    ∀ (rest : AV) (rl : List Value), Shape r rest → ListC (envOf w) rest rl → ∃ ch, Shape c ch ∧ ListC (envOf w) ch (cs.drop off ++ rl)
  | [], off, r, c, hc, xs, hx, hw, rest, rl, hs, hl => by
    simp only [tcsF] at hc
    split at hc
    · rename_i he
      cases hc
      exact ⟨rest, hs, by rw [he, List.drop_length]; exact hl⟩
    · cases hc
  | f :: fs, off, r, c, hc, xs, hx, hw, rest, rl, hs, hl => by
    simp only [tcsF] at hc
    split at hc
    · rename_i he
      split at hc
      · rename_i q hq
        obtain ⟨x, xs', h1, h2, rfl⟩ := mapM_cons' _ _ _ _ hx
        simp only [List.map_cons, DataW.weightsEach, List.mem_append] at hw
        obtain ⟨ch, k1, k2⟩ := open_fields hg fs _ r q hq xs' h2 (fun n hn => hw n (.inr hn)) rest rl hs hl
        obtain ⟨d, ps⟩ := x
        obtain ⟨ch', m1, m2⟩ := hg f.type q c hc fuel _ d ps h1 (fun n hn => hw n (.inl hn)) ch _ k1 k2
        refine ⟨ch', m1, ?_⟩
        rw [he, ← List.append_assoc, ← List.drop_drop, List.take_append_drop] at m2
        exact m2
      · cases hc
    · cases hc
theorem weightsAll_mem {e : TypeId} : ∀ {l : List (DataW H)} {d : DataW H}, d ∈ l → ∀ n ∈ d.weights P e, n ∈ DataW.weightsAll P e l
  | x :: l, d, h, n, hn => by
    simp only [DataW.weightsAll, List.mem_append]
    rcases List.mem_cons.1 h with rfl | h
    · exact .inl hn
    · exact .inr (weightsAll_mem h n hn)
theorem opens (enc : TypeId × Value → H) (P : Program) (w : World) : ∀ n, Opens enc P w (tcs P n)
  | 0 => fun t r c h => by cases h
  | n + 1 => fun t r c h fuel cs d ps ht hsm rest rl hs hl => by
    have ih := opens enc P w n
    cases fuel with
    | zero => simp [DataW.trod] at ht
    | succ fuel =>
    simp only [tcs] at h
    split at h
    · rename_i hu
      cases h
      simp only [DataW.trod, hu] at ht
      split at ht <;> simp_all
      rename_i b
      exact ⟨.cons (.bool fun _ => b) rest, ⟨_, _, rfl, hs⟩, listC_cons.2 ⟨_, _, rfl, rfl, hl⟩⟩
    · rename_i k hu
      cases h
      simp only [DataW.trod, hu] at ht
      split at ht <;> simp_all
      rename_i k' m he
      obtain ⟨⟨_, hwf⟩, _⟩ := ht
      subst he
      exact ⟨.cons (.int _ fun _ => m) rest, ⟨_, _, rfl, hwf, hs⟩, listC_cons.2 ⟨_, _, rfl, rfl, hl⟩⟩
    · rename_i hu
      cases h
      simp only [DataW.trod, hu] at ht
      split at ht <;> simp_all
      rename_i s
      have hle : s.size ≤ reachBytes := by
        have := hsm s.size
        obtain ⟨_, hd, _⟩ := ht
        subst hd
        simpa [DataW.weights] using this
      refine ⟨.cons (.str fun _ => s.data.toList) rest, ⟨_, _, rfl, ?_, hs⟩, listC_cons.2 ⟨_, _, rfl, show Value.string s = .string ⟨s.data.toList.toArray⟩ from by rw [Array.toArray_toList], hl⟩⟩
      have : s.data.toList.length = s.size := Array.length_toList
      rw [this]
      unfold reachBytes at hle
      omega
    · rename_i e hu
      split at h
      · rename_i ce he
        split at h
        · rename_i hcond
          cases h
          obtain ⟨hce, hpos, hby⟩ := hcond
          rcases Deep.open_slice hu ht with ⟨rfl, hx⟩ | ⟨a, len, cap, m, n', D, Pl, rfl, _, hlc, hcm, hm, hx, hel⟩
          · exact ⟨.cons (.sl ce.len (fun _ => 0) fun _ => .nil) rest, ⟨_, _, _, rfl, Nat.zero_le _, fun j hj => absurd hj (Nat.not_lt_zero _), hs⟩, listC_cons.2 ⟨_, _, rfl, ⟨none, 0, rfl, Nat.le_refl _, fun j hj => absurd hj (Nat.not_lt_zero _)⟩, hl⟩⟩
          · simp only [if_true] at hm
            subst hm
            simp only [Prod.mk.injEq] at hx
            obtain ⟨rfl, rfl⟩ := hx
            have hw1 : ∀ q ∈ ((List.range len).map D ++ (List.range (m - len)).map fun j => D (len + j)), Small P e q := by
              intro q hq k hk
              refine hsm k ?_
              simp only [DataW.weights, hu, List.mem_cons, List.mem_append]
              rcases List.mem_append.1 hq with hq | hq
              · exact .inr (.inl (weightsAll_mem hq k hk))
              · exact .inr (.inr (weightsAll_mem hq k hk))
            have hlen : len ≤ 140737488351232 := by
              have := hsm ((len + (m - len)) * P.bytesOf e) (by simp [DataW.weights, hu])
              have h2 : len ≤ (len + (m - len)) * P.bytesOf e := Nat.le_trans (by omega) (Nat.le_mul_of_pos_right _ hby)
              unfold reachBytes at this
              omega
            have one : ∀ j, j < len → ∃ ch, Shape ce ch ∧ ∃ cs', w.cells? 0 (a.add (j * P.cellsOf e)) (P.cellsOf e) = some cs' ∧ ListC (envOf w) ch cs' := by
              intro j hj
              obtain ⟨cs', h1, h2⟩ := hel j (by omega)
              obtain ⟨ch, k1, k2⟩ := ih e .nil ce he n' cs' _ _ h2 (hw1 _ (List.mem_append_left _ (List.mem_map.2 ⟨j, by simpa using hj, rfl⟩))) .nil [] rfl (listC_nil.2 rfl)
              exact ⟨ch, k1, cs', h1, by simpa using k2⟩
            refine ⟨.cons (.sl ce.len (fun _ => len) fun j => if hj : j .o < len then (one (j .o) hj).choose else .nil) rest, ⟨_, _, _, rfl, hlen, fun j hj => ?_, hs⟩, listC_cons.2 ⟨_, _, rfl, ⟨some a, m, rfl, hlc, fun j hj => ?_⟩, hl⟩⟩
            · have hj : j < len := hj
              simp only [hj, dif_pos]
              exact (one j hj).choose_spec.1
            · have hj : j < len := hj
              simp only [hj, dif_pos]
              obtain ⟨k1, cs', h1, k2⟩ := (one j hj).choose_spec
              refine ⟨shape_ok _ _ k1, ?_⟩
              obtain ⟨_, hcl, hcc⟩ := World.cells?_some h1
              obtain ⟨b, o, sp⟩ := a
              have hsp : sp = none := by
                cases sp with
                | none => rfl
                | some q =>
                  exfalso
                  obtain ⟨cs0, e0, _⟩ := hel 0 (by omega)
                  obtain ⟨_, hl0, hc0⟩ := World.cells?_some e0
                  have hc0 := hc0 0 (by omega)
                  rw [List.getElem?_eq_getElem (show 0 < cs0.length by omega)] at hc0
                  have ha : ∀ x : Addr, x.add 0 = x := fun x => by unfold Addr.add; rw [if_pos rfl]
                  rw [Nat.zero_mul, ha, ha] at hc0
                  unfold World.cell? at hc0
                  split at hc0
                  · simp at hc0
                  · cases hc0
              subst hsp
              have hadd : ∀ o i, (⟨b, o, none⟩ : Addr).add i = ⟨b, o + i, none⟩ := fun o i => by unfold Addr.add; split <;> simp_all
              refine ⟨b, o, rfl, memC_of_list' _ cs' b (o + j * ce.len) k2 fun i v hv => ?_⟩
              have hi : i < cs'.length := by
                rcases Nat.lt_or_ge i cs'.length with h | h
                · exact h
                · rw [List.getElem?_eq_none h] at hv; cases hv
              have := hcc i (by omega)
              simp only [hadd] at this
              rw [hv, hce] at this
              refine ⟨this, ?_⟩
              show b < w.heap.size
              unfold World.cell? at this
              split at this
              · rename_i hh; exact (Array.getElem?_eq_some_iff.1 hh).1
              · cases this
        · cases h
      · cases h
    · rename_i fs hu
      simp only [DataW.trod, hu] at ht
      split at ht
      · rename_i hcl
        cases hm : (fs.toList.mapM fun f => DataW.trod enc P w 0 (fun _ => true) true fuel f.type ((cs.drop f.offset).take (P.cellsOf f.type))) with
        | none => rw [hm] at ht; cases ht
        | some xs =>
          rw [hm] at ht
          cases ht
          rw [← hcl] at h
          have := open_fields ih fs.toList 0 r c h xs hm (fun n hn => hsm n (by simp only [DataW.weights, hu]; exact hn)) rest rl hs hl
          simpa using this
      · cases ht
    · cases h
/-- An argument of a plain type, opened. -/
theorem open_plain {n : Nat} {t : TypeId} {c : CS} (hc : tcs P n t .nil = some c) {v : Value} {d : DataW H} {ps : List MemPlace} (h : DataW.Trod enc P w 0 (fun _ => true) true t v d ps) (hs : Small P t d) :
    ∃ ch, Shape c ch ∧ ListC (envOf w) ch v.cells.toList := by
  obtain ⟨fuel, h⟩ := h
  obtain ⟨ch, h1, h2⟩ := opens enc P w n t .nil c hc fuel _ d ps h hs .nil [] rfl (listC_nil.2 rfl)
  exact ⟨ch, h1, by simpa using h2⟩
end
theorem arg_one {E : Env} {x : AV} {v : Value} (h : ListC E (.cons x .nil) [v]) : Rp E x v := by
  obtain ⟨y, r, he, h1, _⟩ := listC_cons.1 h
  cases he
  exact h1
theorem small_of {H : Type} {P : Program} {ts : List TypeId} {ds : List (DataW H)} (h : (DataW.weightsEach P ts ds).all (· ≤ reachBytes) = true) {j : Nat} {t : TypeId} {d : DataW H} (ht : ts[j]? = some t) (hd : ds[j]? = some d) : Small P t d :=
  fun n hn => by simpa using List.all_eq_true.1 h n (DataW.weights_mem_each ht hd n hn)
end Go.Proofs.Ytgjlkcdnlndlnaa
/- Bytes as numbers; entries: data. -/
namespace Go.Proofs.Ytgjlkcdnlndlnaa
open Go Go.Proofs.Ytgjlkcdnlndlnaa.Sx
set_option linter.unusedVariables false
set_option linter.unusedSimpArgs false
def intCh (a : Th Int) : AV := .cons (.int .i64 a) .nil
/-- Behind a row of nothing. -/
theorem app_rows0 {α : Type} {bytes : Nat} {n m : Th Nat} {g gy : Th Nat → AV} {K : Th Nat → (Th Nat → AV) → Prop} (ch : Th α → AV) (z : α) (ys : List α) (hn : n .o = 0)
    (hm : m .o = ys.length) (hy : ∀ i, i < ys.length → gy (fun _ => i) = ch fun _ => ys.getD i z) (hroom : ys.length * bytes ≤ 140737488355328)
    (h : K (fun _ => ys.length) fun i => ch fun _ => ys.getD (i .o) z) : AppAt bytes n m g gy K :=
  app_rows ch z [] ys hn (fun i hi => absurd hi (Nat.not_lt_zero _)) hm hy (by simpa using hroom) h
structure Entry where
  path : List UInt8
  kind : Int
  mt : Meta
  data : List UInt8
  target : List UInt8
  major : Int
  minor : Int
def Entry.ch (e : Th Entry) : AV := .cons (.str fun _ => (e .o).path) (.cons (.int .i64 fun _ => (e .o).kind) ((Meta.ch fun _ => (e .o).mt).app
  (.cons (.str fun _ => (e .o).data) (.cons (.str fun _ => (e .o).target) (.cons (.int .i64 fun _ => (e .o).major) (.cons (.int .i64 fun _ => (e .o).minor) .nil))))))
def Entry.av (e : Th Entry) : AV := .agg (Entry.ch e)
def strCh (s : Th (List UInt8)) : AV := .cons (.str s) .nil
def strs (l : Th (List (List UInt8))) : AV := .sl 1 (fun _ => (l .o).length) fun i => strCh fun _ => (l .o).getD (i .o) []
end Go.Proofs.Ytgjlkcdnlndlnaa
/- The program's functions, resolved (printed by a tool). -/
namespace Go.Proofs.Ytgjlkcdnlndlnaa
open Go Go.Proofs.Ytgjlkcdnlndlnaa.Sx
namespace F
noncomputable def PT : Th Program := fun _ => Try.prog
abbrev plan_Stage : Nat := 15
def plan_Stage.rc : RC :=
  (.seq (.reg [R.q 2 (.mov (R.i 0))])
  (.seq (.seq (.reg [R.q 3 (.mov (R.t 0))])
  (.block 0 (.seq (.reg [R.q 5 (.bin .eql .no (R.t 3) (R.i 6)),
     R.q 4 (.mov (R.t 5))])
   (.cond (R.t 4)
     (.seq (.reg [R.q 2 (.mov (R.i 448))])
     .ret)
     (.seq (.reg [R.q 7 (.bin .eql .no (R.t 3) (R.i 3)),
       R.q 6 (.mov (R.t 7))])
     (.cond (R.t 6)
       (.seq (.reg [R.q 2 (.mov (R.i 511))])
       .ret)
       .skip))))))
  (.seq (.reg [R.q 2 (.mov (R.i 0))])
  .ret)))
def plan_Stage.rs : List RRes := [.tmp 2]
theorem plan_Stage.of {xs : List AV} {d : Nat} {B : BL} {K : ARes → BL → Prop} (hn : xs.length = 1) (hB : onlyOuter B = true) (h : awp ⟨PT, 8, exitX plan_Stage.rs K⟩ 10000 [.code plan_Stage.rc] ⟨params 0 xs, B, .nil⟩) : CallAt PT plan_Stage xs d B K :=
  call_of_awp 10000 Try.func15 rfl (by kernel_rfl) (by kernel_rfl) (by kernel_rfl) (by rw [hn]; decide) hB h
abbrev r21_Stage : Nat := 16
def r21_Stage.rc : RC :=
  (.seq (.reg [R.q 2 (.mov (R.i 0))])
  (.seq (.seq (.reg [R.q 3 (.mov (R.t 0))])
  (.block 0 (.seq (.reg [R.q 5 (.bin .eql .no (R.t 3) (R.i 6)),
     R.q 4 (.mov (R.t 5))])
   (.cond (R.t 4)
     (.seq (.reg [R.q 2 (.mov (R.i 448))])
     .ret)
     (.seq (.reg [R.q 7 (.bin .eql .no (R.t 3) (R.i 3)),
       R.q 6 (.mov (R.t 7))])
     (.cond (R.t 6)
       (.seq (.reg [R.q 2 (.mov (R.i 511))])
       .ret)
       .skip))))))
  (.seq (.reg [R.q 2 (.mov (R.i 0))])
  .ret)))
def r21_Stage.rs : List RRes := [.tmp 2]
theorem r21_Stage.of {xs : List AV} {d : Nat} {B : BL} {K : ARes → BL → Prop} (hn : xs.length = 1) (hB : onlyOuter B = true) (h : awp ⟨PT, 8, exitX r21_Stage.rs K⟩ 10000 [.code r21_Stage.rc] ⟨params 0 xs, B, .nil⟩) : CallAt PT r21_Stage xs d B K :=
  call_of_awp 10000 Try.func16 rfl (by kernel_rfl) (by kernel_rfl) (by kernel_rfl) (by rw [hn]; decide) hB h
abbrev plan_Mode : Nat := 18
def plan_Mode.rc : RC :=
  (.seq (.reg [R.q 2 (.box (R.t 0)),
    R.q 4 (.mov (R.i 0)),
    R.q 5 (.mov R.ff)])
  (.seq (.seq (.reg [R.q 6 (.mov (R.t 1)),
    R.q 7 (.un .not (R.t 6))])
  (.cond (R.t 7)
    (.seq (.reg [R.q 8 (.fld 0 (R.t 2)),
      R.q 9 (.load1 (R.t 8)),
      R.q 10 (.bin .and .no (R.t 9) (R.i 448)),
      R.q 4 (.mov (R.t 10)),
      R.q 5 (.mov R.ff)])
    .ret)
    .skip))
  (.seq (.regd [R.f (R.q 11 (.fld 0 (R.t 2))),
    R.f (R.q 12 (.load1 (R.t 11))),
    R.f (R.q 13 (.bin .andNot .no (R.t 12) (R.i 511))),
    R.f (R.q 14 (.loadA 14 (R.t 2))),
    R.s (R.q 15 (.call 49 [(R.t 14)])) [0, 1, 2],
    R.f (R.q 16 (.bin .or .no (R.t 13) (R.t 15))),
    R.s (R.q 4 (.mov (R.t 16))) [],
    R.s (R.q 5 (.mov R.tt)) []])
  .ret)))
def plan_Mode.rs : List RRes := [.tmp 4, .tmp 5]
theorem plan_Mode.of {xs : List AV} {d : Nat} {B : BL} {K : ARes → BL → Prop} (hn : xs.length = 2) (hB : onlyOuter B = true) (h : awp ⟨PT, 17, exitX plan_Mode.rs K⟩ 10000 [.code plan_Mode.rc] ⟨params 0 xs, B, .nil⟩) : CallAt PT plan_Mode xs d B K :=
  call_of_awp 10000 Try.func18 rfl (by kernel_rfl) (by kernel_rfl) (by kernel_rfl) (by rw [hn]; decide) hB h
abbrev r21_Mode : Nat := 19
def r21_Mode.rc : RC :=
  (.seq (.reg [R.q 2 (.box (R.t 0)),
    R.q 4 (.mov (R.i 0)),
    R.q 5 (.mov R.ff)])
  (.seq (.seq (.reg [R.q 6 (.mov (R.t 1))])
  (.cond (R.t 6)
    (.seq (.regd [R.f (R.q 7 (.fld 0 (R.t 2))),
      R.f (R.q 8 (.load1 (R.t 7))),
      R.f (R.q 9 (.bin .andNot .no (R.t 8) (R.i 511))),
      R.f (R.q 10 (.loadA 14 (R.t 2))),
      R.s (R.q 11 (.call 50 [(R.t 10)])) [0, 1, 2],
      R.f (R.q 12 (.bin .or .no (R.t 9) (R.t 11))),
      R.s (R.q 4 (.mov (R.t 12))) [],
      R.s (R.q 5 (.mov R.tt)) []])
    .ret)
    .skip))
  (.seq (.reg [R.q 13 (.fld 0 (R.t 2)),
    R.q 14 (.load1 (R.t 13)),
    R.q 15 (.bin .and .no (R.t 14) (R.i 448)),
    R.q 4 (.mov (R.t 15)),
    R.q 5 (.mov R.ff)])
  .ret)))
def r21_Mode.rs : List RRes := [.tmp 4, .tmp 5]
theorem r21_Mode.of {xs : List AV} {d : Nat} {B : BL} {K : ARes → BL → Prop} (hn : xs.length = 2) (hB : onlyOuter B = true) (h : awp ⟨PT, 16, exitX r21_Mode.rs K⟩ 10000 [.code r21_Mode.rc] ⟨params 0 xs, B, .nil⟩) : CallAt PT r21_Mode xs d B K :=
  call_of_awp 10000 Try.func19 rfl (by kernel_rfl) (by kernel_rfl) (by kernel_rfl) (by rw [hn]; decide) hB h
abbrev r9_SameXattrs : Nat := 20
def r9_SameXattrs.rc : RC :=
  (.seq (.reg [R.q 4 (.mov R.ff)])
  (.seq (.seq (.reg [R.q 6 (.mov (R.t 0)),
    R.q 7 (.len (R.t 6)),
    R.q 8 (.mov (R.t 1)),
    R.q 9 (.len (R.t 8)),
    R.q 10 (.bin .neq .no (R.t 7) (R.t 9))])
  (.cond (R.t 10)
    (.seq (.reg [R.q 4 (.mov R.ff)])
    .ret)
    .skip))
  (.seq (.seq (.reg [R.q 5 (.mov (R.i 0))])
  (.block 0 (.loop
     (.seq (.seq (.reg [R.q 11 (.mov (R.t 5)),
       R.q 12 (.mov (R.t 0)),
       R.q 13 (.len (R.t 12)),
       R.q 14 (.bin .lss .no (R.t 11) (R.t 13))])
     (.cond (R.t 14)
       .skip
       (.exit 0)))
     (.seq (.block 1 (.seq (.regd [R.f (R.q 17 (.mov (R.t 0))),
        R.f (R.q 18 (.mov (R.t 5))),
        R.f (R.q 19 (.idx 2 (R.t 17) (R.t 18))),
        R.f (R.q 20 (.loadA 2 (R.t 19))),
        R.f (R.q 21 (.mov (R.t 1))),
        R.f (R.q 22 (.mov (R.t 5))),
        R.f (R.q 23 (.idx 2 (R.t 21) (R.t 22))),
        R.f (R.q 24 (.loadA 2 (R.t 23))),
        R.f (R.q 25 (.bin .neq (.agg [.s, .s]) (R.t 20) (R.t 24)))])
      (.cond (R.t 25)
        (.seq (.reg [R.q 4 (.mov R.ff)])
        .ret)
        .skip)))
     (.reg [R.q 15 (.mov (R.t 5)),
       R.q 16 (.bin .add .no (R.t 15) (R.i 1)),
       R.q 5 (.mov (R.t 16))]))))))
  (.seq (.reg [R.q 4 (.mov R.tt)])
  .ret))))
def r9_SameXattrs.rs : List RRes := [.tmp 4]
theorem r9_SameXattrs.of {xs : List AV} {d : Nat} {B : BL} {K : ARes → BL → Prop} (hn : xs.length = 2) (hB : onlyOuter B = true) (h : awp ⟨PT, 26, exitX r9_SameXattrs.rs K⟩ 10000 [.code r9_SameXattrs.rc] ⟨params 0 xs, B, .nil⟩) : CallAt PT r9_SameXattrs xs d B K :=
  call_of_awp 10000 Try.func20 rfl (by kernel_rfl) (by kernel_rfl) (by kernel_rfl) (by rw [hn]; decide) hB h
abbrev plan_Fewer : Nat := 21
def plan_Fewer.rc : RC :=
  (.seq (.reg [R.q 2 (.mov (.val .nsl))])
  (.seq (.reg [R.q 3 (.mov (.val .nsl))])
  (.seq (.seq (.reg [R.q 6 (.mov (R.t 0)),
    R.q 7 (.len (R.t 6)),
    R.q 8 (.mov (R.i 0))])
  (.block 0 (.loop
     (.seq (.reg [R.q 9 (.bin .lss .no (R.t 8) (R.t 7))])
     (.seq (.cond (R.t 9)
       .skip
       (.exit 0))
     (.seq (.block 1 (.seq (.reg [R.q 10 (.idx 2 (R.t 6) (R.t 8)),
        R.q 11 (.loadA 2 (R.t 10)),
        R.q 5 (.alloc (.cons (.str fun _ => []) (.cons (.str fun _ => []) .nil))),
        R.e (.store 2 (R.t 5) (R.t 11))])
      (.seq (.reg [R.q 12 (.fld 0 (R.t 5)),
        R.q 13 (.load1 (R.t 12)),
        R.q 14 (.call 51 [(R.t 13), (.val (.str fun _ => [116, 114, 117, 115, 116, 101, 100, 46]))]),
        R.q 15 (.un .not (R.t 14)),
        R.q 16 (.mov (R.t 15)),
        R.g 17 (.fld 0 (R.t 5)) 16 true,
        R.g 18 (.load1 (R.t 17)) 16 true,
        R.g 19 (.call 51 [(R.t 18), (.val (.str fun _ => [115, 101, 99, 117, 114, 105, 116, 121, 46]))]) 16 true,
        R.g 20 (.un .not (R.t 19)) 16 true,
        R.q 21 (.pick (R.t 16) (R.t 20) R.ff)])
      (.cond (R.t 21)
        (.reg [R.q 22 (.mov (R.t 3)),
          R.q 23 (.loadA 2 (R.t 5)),
          R.q 24 (.bslice 2 (.cons (.str fun _ => []) (.cons (.str fun _ => []) .nil)) 1 [(0, 2, (R.t 23))]),
          R.q 25 (.append 2 32 (R.t 22) (R.t 24)),
          R.q 3 (.mov (R.t 25))])
        .skip))))
     (.reg [R.q 26 (.bin .add .no (R.t 8) (R.i 1)),
       R.q 8 (.mov (R.t 26))])))))))
  (.seq (.reg [R.q 27 (.mov (R.t 3)),
    R.q 2 (.mov (R.t 27))])
  .ret))))
def plan_Fewer.rs : List RRes := [.tmp 2]
theorem plan_Fewer.of {xs : List AV} {d : Nat} {B : BL} {K : ARes → BL → Prop} (hn : xs.length = 1) (hB : onlyOuter B = true) (h : awp ⟨PT, 28, exitX plan_Fewer.rs K⟩ 10000 [.code plan_Fewer.rc] ⟨params 0 xs, B, .nil⟩) : CallAt PT plan_Fewer xs d B K :=
  call_of_awp 10000 Try.func21 rfl (by kernel_rfl) (by kernel_rfl) (by kernel_rfl) (by rw [hn]; decide) hB h
abbrev r21_Fewer : Nat := 22
def r21_Fewer.rc : RC :=
  (.seq (.reg [R.q 2 (.mov (.val .nsl))])
  (.seq (.reg [R.q 3 (.mov (.val .nsl))])
  (.seq (.seq (.reg [R.q 4 (.mov (R.i 0))])
  (.block 0 (.loop
     (.seq (.seq (.reg [R.q 5 (.mov (R.t 4)),
       R.q 6 (.mov (R.t 0)),
       R.q 7 (.len (R.t 6)),
       R.q 8 (.bin .lss .no (R.t 5) (R.t 7))])
     (.cond (R.t 8)
       .skip
       (.exit 0)))
     (.seq (.block 1 (.seq (.reg [R.q 11 (.mov (R.t 0)),
        R.q 12 (.mov (R.t 4)),
        R.q 13 (.idx 2 (R.t 11) (R.t 12)),
        R.q 14 (.fld 0 (R.t 13)),
        R.q 15 (.load1 (R.t 14)),
        R.q 16 (.call 52 [(R.t 15)]),
        R.q 17 (.un .not (R.t 16))])
      (.cond (R.t 17)
        (.reg [R.q 18 (.mov (R.t 3)),
          R.q 19 (.mov (R.t 0)),
          R.q 20 (.mov (R.t 4)),
          R.q 21 (.idx 2 (R.t 19) (R.t 20)),
          R.q 22 (.loadA 2 (R.t 21)),
          R.q 23 (.bslice 2 (.cons (.str fun _ => []) (.cons (.str fun _ => []) .nil)) 1 [(0, 2, (R.t 22))]),
          R.q 24 (.append 2 32 (R.t 18) (R.t 23)),
          R.q 3 (.mov (R.t 24))])
        .skip)))
     (.reg [R.q 9 (.mov (R.t 4)),
       R.q 10 (.bin .add .no (R.t 9) (R.i 1)),
       R.q 4 (.mov (R.t 10))]))))))
  (.seq (.reg [R.q 25 (.mov (R.t 3)),
    R.q 2 (.mov (R.t 25))])
  .ret))))
def r21_Fewer.rs : List RRes := [.tmp 2]
theorem r21_Fewer.of {xs : List AV} {d : Nat} {B : BL} {K : ARes → BL → Prop} (hn : xs.length = 1) (hB : onlyOuter B = true) (h : awp ⟨PT, 26, exitX r21_Fewer.rs K⟩ 10000 [.code r21_Fewer.rc] ⟨params 0 xs, B, .nil⟩) : CallAt PT r21_Fewer xs d B K :=
  call_of_awp 10000 Try.func22 rfl (by kernel_rfl) (by kernel_rfl) (by kernel_rfl) (by rw [hn]; decide) hB h
abbrev r21_Result : Nat := 28
def r21_Result.rc : RC :=
  (.seq (.reg [R.q 6 (.mov (R.i 0))])
  (.seq (.seq (.reg [R.q 8 (.mov (R.t 0)),
    R.q 9 (.len (R.t 8)),
    R.q 10 (.bin .sub .no (R.t 9) (R.i 1)),
    R.q 7 (.mov (R.t 10))])
  (.block 0 (.loop
     (.seq (.seq (.reg [R.q 11 (.mov (R.t 7)),
       R.q 12 (.bin .geq .no (R.t 11) (R.i 0))])
     (.cond (R.t 12)
       .skip
       (.exit 0)))
     (.seq (.block 1 (.seq (.reg [R.q 15 (.mov (R.t 0)),
        R.q 16 (.mov (R.t 7)),
        R.q 17 (.idx 3 (R.t 15) (R.t 16)),
        R.q 18 (.fld 0 (R.t 17)),
        R.q 19 (.load1 (R.t 18)),
        R.q 20 (.mov (R.t 1)),
        R.q 21 (.bin .eql .no (R.t 19) (R.t 20)),
        R.q 22 (.mov (R.t 21)),
        R.g 23 (.mov (R.t 0)) 22 true,
        R.g 24 (.mov (R.t 7)) 22 true,
        R.g 25 (.idx 3 (R.t 23) (R.t 24)) 22 true,
        R.g 26 (.fld 1 (R.t 25)) 22 true,
        R.g 27 (.load1 (R.t 26)) 22 true,
        R.g 28 (.mov (R.t 2)) 22 true,
        R.g 29 (.bin .eql .no (R.t 27) (R.t 28)) 22 true,
        R.q 30 (.pick (R.t 22) (R.t 29) R.ff)])
      (.cond (R.t 30)
        (.seq (.reg [R.q 31 (.mov (R.t 0)),
          R.q 32 (.mov (R.t 7)),
          R.q 33 (.idx 3 (R.t 31) (R.t 32)),
          R.q 34 (.fld 2 (R.t 33)),
          R.q 35 (.load1 (R.t 34)),
          R.q 6 (.mov (R.t 35))])
        .ret)
        .skip)))
     (.reg [R.q 13 (.mov (R.t 7)),
       R.q 14 (.bin .sub .no (R.t 13) (R.i 1)),
       R.q 7 (.mov (R.t 14))]))))))
  (.seq (.reg [R.q 6 (.mov (R.i 0))])
  .ret)))
def r21_Result.rs : List RRes := [.tmp 6]
theorem r21_Result.of {xs : List AV} {d : Nat} {B : BL} {K : ARes → BL → Prop} (hn : xs.length = 3) (hB : onlyOuter B = true) (h : awp ⟨PT, 36, exitX r21_Result.rs K⟩ 10000 [.code r21_Result.rc] ⟨params 0 xs, B, .nil⟩) : CallAt PT r21_Result xs d B K :=
  call_of_awp 10000 Try.func28 rfl (by kernel_rfl) (by kernel_rfl) (by kernel_rfl) (by rw [hn]; decide) hB h
abbrev l25_awake : Nat := 29
def l25_awake.rc : RC :=
  (.seq (.reg [R.q 0 (.mov R.ff)])
  (.seq (.reg [R.q 3 (.build (.cons (.str fun _ => []) (.cons (R.z 0) (.cons (R.z 0) .nil))) [(0, 1, (.val (.str fun _ => [97]))), (1, 1, (R.i 1)), (2, 1, (R.i 1))]),
    R.q 4 (.build (.cons (.str fun _ => []) (.cons (R.z 0) (.cons (R.z 0) .nil))) [(0, 1, (.val (.str fun _ => [97]))), (1, 1, (R.i 8)), (2, 1, (R.i 1))]),
    R.q 5 (.bslice 3 (.cons (.str fun _ => []) (.cons (R.z 0) (.cons (R.z 0) .nil))) 2 [(0, 3, (R.t 3)), (3, 3, (R.t 4))]),
    R.q 1 (.mov (R.t 5))])
  (.seq (.reg [R.q 6 (.build (.cons (R.z 0) (.cons (R.z 0) .nil)) [(0, 1, (R.i 7))]),
    R.q 7 (.build (.cons (R.z 0) (.cons (R.z 0) (.cons (R.z 0) (.cons (R.z 0) (.cons (R.z 0) (.cons .nsl (.cons .nsl (.cons .nsl (.cons (R.z 0) (.cons (.int .u64 fun _ => 0) (.cons (.int .u64 fun _ => 0) (.cons .ff (.cons (R.z 0) (.cons (R.z 0) .nil)))))))))))))) [(3, 2, (R.t 6))]),
    R.q 8 (.build (.cons (.str fun _ => []) (.cons (R.z 0) (.cons (R.z 0) (.cons (R.z 0) (.cons (R.z 0) (.cons (R.z 0) (.cons (R.z 0) (.cons .nsl (.cons .nsl (.cons .nsl (.cons (R.z 0) (.cons (.int .u64 fun _ => 0) (.cons (.int .u64 fun _ => 0) (.cons .ff (.cons (R.z 0) (.cons (R.z 0) (.cons (.str fun _ => []) (.cons (.str fun _ => []) (.cons (R.z 0) (.cons (R.z 0) .nil)))))))))))))))))))) [(0, 1, (.val (.str fun _ => [97]))), (1, 1, (R.i 1)), (2, 14, (R.t 7))]),
    R.q 2 (.alloc (.cons (.str fun _ => []) (.cons (R.z 0) (.cons (R.z 0) (.cons (R.z 0) (.cons (R.z 0) (.cons (R.z 0) (.cons (R.z 0) (.cons .nsl (.cons .nsl (.cons .nsl (.cons (R.z 0) (.cons (.int .u64 fun _ => 0) (.cons (.int .u64 fun _ => 0) (.cons .ff (.cons (R.z 0) (.cons (R.z 0) (.cons (.str fun _ => []) (.cons (.str fun _ => []) (.cons (R.z 0) (.cons (R.z 0) .nil))))))))))))))))))))),
    R.e (.store 20 (R.t 2) (R.t 8))])
  (.seq (.reg [R.q 9 (.call 27 [(.val .nsl), (.val (.str fun _ => [97])), (R.i 1)]),
    R.q 10 (.bin .eql .no (R.t 9) (R.i 0)),
    R.q 11 (.mov (R.t 10)),
    R.g 12 (.mov (R.t 1)) 11 true,
    R.g 13 (.call 27 [(R.t 12), (.val (.str fun _ => [97])), (R.i 8)]) 11 true,
    R.g 14 (.bin .eql .no (R.t 13) (R.i 1)) 11 true,
    R.q 15 (.pick (R.t 11) (R.t 14) R.ff),
    R.q 16 (.mov (R.t 15)),
    R.g 17 (.loadA 20 (R.t 2)) 16 true,
    R.g 18 (.build (.cons (R.z 0) (.cons (R.z 0) (.cons .nsl (.cons (R.z 0) .nil)))) []) 16 true,
    R.g 19 (.mov (R.t 1)) 16 true,
    R.g 20 (.call 31 [(R.t 17), (R.t 18), (R.t 19)]) 16 true,
    R.g 21 (.fieldA 3 2 (R.t 20)) 16 true,
    R.g 22 (.field1 0 (R.t 21)) 16 true,
    R.g 23 (.bin .eql .no (R.t 22) (R.i 7)) 16 true,
    R.q 24 (.pick (R.t 16) (R.t 23) R.ff),
    R.q 0 (.mov (R.t 24))])
  .ret))))
def l25_awake.rs : List RRes := [.tmp 0]
theorem l25_awake.of {xs : List AV} {d : Nat} {B : BL} {K : ARes → BL → Prop} (hn : xs.length = 0) (hB : onlyOuter B = true) (h : awp ⟨PT, 25, exitX l25_awake.rs K⟩ 10000 [.code l25_awake.rc] ⟨params 0 xs, B, .nil⟩) : CallAt PT l25_awake xs d B K :=
  call_of_awp 10000 Try.func29 rfl (by kernel_rfl) (by kernel_rfl) (by kernel_rfl) (by rw [hn]; decide) hB h
abbrev r9_SameMeta : Nat := 30
def r9_SameMeta.rc : RC :=
  (.seq (.reg [R.q 2 (.box (R.t 0)),
    R.q 3 (.box (R.t 1)),
    R.q 4 (.mov R.ff)])
  (.seq (.reg [R.q 5 (.fld 0 (R.t 2)),
    R.q 6 (.load1 (R.t 5)),
    R.q 7 (.fld 0 (R.t 3)),
    R.q 8 (.load1 (R.t 7)),
    R.q 9 (.bin .eql .no (R.t 6) (R.t 8)),
    R.q 10 (.mov (R.t 9)),
    R.g 11 (.fld 1 (R.t 2)) 10 true,
    R.g 12 (.load1 (R.t 11)) 10 true,
    R.g 13 (.fld 1 (R.t 3)) 10 true,
    R.g 14 (.load1 (R.t 13)) 10 true,
    R.g 15 (.bin .eql .no (R.t 12) (R.t 14)) 10 true,
    R.q 16 (.pick (R.t 10) (R.t 15) R.ff),
    R.q 17 (.mov (R.t 16)),
    R.g 18 (.fld 2 (R.t 2)) 17 true,
    R.g 19 (.load1 (R.t 18)) 17 true,
    R.g 20 (.fld 2 (R.t 3)) 17 true,
    R.g 21 (.load1 (R.t 20)) 17 true,
    R.g 22 (.bin .eql .no (R.t 19) (R.t 21)) 17 true,
    R.q 23 (.pick (R.t 17) (R.t 22) R.ff),
    R.q 24 (.mov (R.t 23)),
    R.g 25 (.fld 3 (R.t 2)) 24 true,
    R.g 26 (.loadA 2 (R.t 25)) 24 true,
    R.g 27 (.fld 3 (R.t 3)) 24 true,
    R.g 28 (.loadA 2 (R.t 27)) 24 true,
    R.g 29 (.bin .eql (.agg [.i .i64, .i .i64]) (R.t 26) (R.t 28)) 24 true,
    R.q 30 (.pick (R.t 24) (R.t 29) R.ff),
    R.q 31 (.mov (R.t 30)),
    R.g 32 (.fld 5 (R.t 2)) 31 true,
    R.g 33 (.load1 (R.t 32)) 31 true,
    R.g 34 (.fld 5 (R.t 3)) 31 true,
    R.g 35 (.load1 (R.t 34)) 31 true,
    R.g 36 (.call 57 [(R.t 33), (R.t 35)]) 31 true,
    R.q 37 (.pick (R.t 31) (R.t 36) R.ff),
    R.q 38 (.mov (R.t 37)),
    R.g 39 (.fld 6 (R.t 2)) 38 true,
    R.g 40 (.load1 (R.t 39)) 38 true,
    R.g 41 (.fld 6 (R.t 3)) 38 true,
    R.g 42 (.load1 (R.t 41)) 38 true,
    R.g 43 (.call 57 [(R.t 40), (R.t 42)]) 38 true,
    R.q 44 (.pick (R.t 38) (R.t 43) R.ff),
    R.q 45 (.mov (R.t 44)),
    R.g 46 (.fld 7 (R.t 2)) 45 true,
    R.g 47 (.load1 (R.t 46)) 45 true,
    R.g 48 (.fld 7 (R.t 3)) 45 true,
    R.g 49 (.load1 (R.t 48)) 45 true,
    R.g 50 (.call 20 [(R.t 47), (R.t 49)]) 45 true,
    R.q 51 (.pick (R.t 45) (R.t 50) R.ff),
    R.q 52 (.mov (R.t 51)),
    R.g 53 (.fld 8 (R.t 2)) 52 true,
    R.g 54 (.loadA 5 (R.t 53)) 52 true,
    R.g 55 (.fld 8 (R.t 3)) 52 true,
    R.g 56 (.loadA 5 (R.t 55)) 52 true,
    R.g 57 (.bin .eql (.agg [.i .i64, .i .u64, .i .u64, .b, .i .i64]) (R.t 54) (R.t 56)) 52 true,
    R.q 58 (.pick (R.t 52) (R.t 57) R.ff),
    R.q 59 (.mov (R.t 58)),
    R.g 60 (.fld 13 (R.t 2)) 59 true,
    R.g 61 (.load1 (R.t 60)) 59 true,
    R.g 62 (.fld 13 (R.t 3)) 59 true,
    R.g 63 (.load1 (R.t 62)) 59 true,
    R.g 64 (.bin .eql .no (R.t 61) (R.t 63)) 59 true,
    R.q 65 (.pick (R.t 59) (R.t 64) R.ff),
    R.q 4 (.mov (R.t 65))])
  .ret))
def r9_SameMeta.rs : List RRes := [.tmp 4]
theorem r9_SameMeta.of {xs : List AV} {d : Nat} {B : BL} {K : ARes → BL → Prop} (hn : xs.length = 2) (hB : onlyOuter B = true) (h : awp ⟨PT, 66, exitX r9_SameMeta.rs K⟩ 10000 [.code r9_SameMeta.rc] ⟨params 0 xs, B, .nil⟩) : CallAt PT r9_SameMeta xs d B K :=
  call_of_awp 10000 Try.func30 rfl (by kernel_rfl) (by kernel_rfl) (by kernel_rfl) (by rw [hn]; decide) hB h
abbrev degrade_Meta : Nat := 31
def degrade_Meta.rc : RC :=
  (.seq (.reg [R.q 3 (.box (R.t 0)),
    R.q 4 (.box (R.t 1)),
    R.q 6 (.alloc (.cons (R.z 0) (.cons (R.z 0) (.cons (R.z 0) (.cons (R.z 0) (.cons (R.z 0) (.cons .nsl (.cons .nsl (.cons .nsl (.cons (R.z 0) (.cons (.int .u64 fun _ => 0) (.cons (.int .u64 fun _ => 0) (.cons .ff (.cons (R.z 0) (.cons (R.z 0) .nil)))))))))))))))])
  (.seq (.reg [R.q 10 (.loadA 20 (R.t 3)),
    R.q 11 (.loadA 4 (R.t 4)),
    R.q 12 (.mov (R.t 2)),
    R.q 13 (.build (.cons (.str fun _ => []) (.cons (R.z 0) (.cons (R.z 0) (.cons (R.z 0) (.cons (R.z 0) (.cons (R.z 0) (.cons (R.z 0) (.cons .nsl (.cons .nsl (.cons .nsl (.cons (R.z 0) (.cons (.int .u64 fun _ => 0) (.cons (.int .u64 fun _ => 0) (.cons .ff (.cons (R.z 0) (.cons (R.z 0) (.cons (.str fun _ => []) (.cons (.str fun _ => []) (.cons (R.z 0) (.cons (R.z 0) (.cons (R.z 0) (.cons (R.z 0) (.cons .nsl (.cons (R.z 0) (.cons .nsl .nil))))))))))))))))))))))))) [(0, 20, (R.t 10)), (20, 4, (R.t 11)), (24, 1, (R.t 12))]),
    R.q 7 (.alloc (.cons (.str fun _ => []) (.cons (R.z 0) (.cons (R.z 0) (.cons (R.z 0) (.cons (R.z 0) (.cons (R.z 0) (.cons (R.z 0) (.cons .nsl (.cons .nsl (.cons .nsl (.cons (R.z 0) (.cons (.int .u64 fun _ => 0) (.cons (.int .u64 fun _ => 0) (.cons .ff (.cons (R.z 0) (.cons (R.z 0) (.cons (.str fun _ => []) (.cons (.str fun _ => []) (.cons (R.z 0) (.cons (R.z 0) (.cons (R.z 0) (.cons (R.z 0) (.cons .nsl (.cons (R.z 0) (.cons .nsl .nil)))))))))))))))))))))))))),
    R.e (.store 25 (R.t 7) (R.t 13))])
  (.seq (.reg [R.q 14 (.fld 2 (R.t 3)),
    R.q 15 (.loadA 14 (R.t 14)),
    R.q 8 (.alloc (.cons (R.z 0) (.cons (R.z 0) (.cons (R.z 0) (.cons (R.z 0) (.cons (R.z 0) (.cons .nsl (.cons .nsl (.cons .nsl (.cons (R.z 0) (.cons (.int .u64 fun _ => 0) (.cons (.int .u64 fun _ => 0) (.cons .ff (.cons (R.z 0) (.cons (R.z 0) .nil))))))))))))))),
    R.e (.store 14 (R.t 8) (R.t 15))])
  (.seq (.regd [R.f (R.q 16 (.loadA 25 (R.t 7))),
    R.f (R.q 18 (.fld 0 (R.t 4))),
    R.f (R.q 19 (.load1 (R.t 18))),
    R.f (R.q 20 (.fld 1 (R.t 4))),
    R.f (R.q 21 (.load1 (R.t 20))),
    R.f (R.q 9 (.alloc (.cons (R.z 0) (.cons (R.z 0) (.cons (R.z 0) (.cons (R.z 0) (.cons (R.z 0) (.cons .nsl (.cons .nsl (.cons .nsl (.cons (R.z 0) (.cons (.int .u64 fun _ => 0) (.cons (.int .u64 fun _ => 0) (.cons .ff (.cons (R.z 0) (.cons (R.z 0) .nil)))))))))))))))),
    R.s (R.q 17 (.call 58 [(R.t 16)])) [1, 2, 3, 4, 5],
    R.f (R.q 22 (.build (.cons (R.z 0) (.cons (R.z 0) (.cons (R.z 0) (.cons (R.z 0) (.cons (R.z 0) (.cons .nsl (.cons .nsl (.cons .nsl (.cons (R.z 0) (.cons (.int .u64 fun _ => 0) (.cons (.int .u64 fun _ => 0) (.cons .ff (.cons (R.z 0) (.cons (R.z 0) .nil)))))))))))))) [(0, 1, (R.t 17)), (1, 1, (R.t 19)), (2, 1, (R.t 21))])),
    R.s (R.e (.store 14 (R.t 9) (R.t 22))) []])
  (.seq (.mark (.seq (.reg [R.q 23 (.loadA 25 (R.t 7)),
    R.q 24 (.call 59 [(R.t 23), (R.i 2), (R.i 1)])])
  (.cond (R.t 24)
    (.regd [R.f (R.q 25 (.fld 1 (R.t 8))),
      R.f (R.q 26 (.load1 (R.t 25))),
      R.f (R.q 27 (.fld 2 (R.t 8))),
      R.f (R.q 28 (.load1 (R.t 27))),
      R.f (R.q 29 (.fld 1 (R.t 9))),
      R.s (R.e (.store 1 (R.t 29) (R.t 26))) [2, 3],
      R.f (R.q 30 (.fld 2 (R.t 9))),
      R.s (R.e (.store 1 (R.t 30) (R.t 28))) []])
    .skip)))
  (.seq (.mark (.seq (.reg [R.q 31 (.loadA 25 (R.t 7)),
    R.q 32 (.call 59 [(R.t 31), (R.i 4), (R.i 1)])])
  (.cond (R.t 32)
    (.reg [R.q 33 (.fld 5 (R.t 8)),
      R.q 34 (.load1 (R.t 33)),
      R.q 35 (.call 60 [(R.t 34)]),
      R.q 36 (.fld 5 (R.t 9)),
      R.e (.store 1 (R.t 36) (R.t 35))])
    .skip)))
  (.seq (.mark (.seq (.reg [R.q 37 (.loadA 25 (R.t 7)),
    R.q 38 (.call 59 [(R.t 37), (R.i 5), (R.i 1)])])
  (.cond (R.t 38)
    (.reg [R.q 39 (.fld 6 (R.t 8)),
      R.q 40 (.load1 (R.t 39)),
      R.q 41 (.call 60 [(R.t 40)]),
      R.q 42 (.fld 6 (R.t 9)),
      R.e (.store 1 (R.t 42) (R.t 41))])
    .skip)))
  (.seq (.mark (.block 0 (.seq (.reg [R.q 44 (.loadA 25 (R.t 7)),
     R.q 45 (.call 59 [(R.t 44), (R.i 6), (R.i 1)]),
     R.q 43 (.mov (R.t 45))])
   (.cond (R.t 43)
     (.reg [R.q 46 (.fld 7 (R.t 8)),
       R.q 47 (.load1 (R.t 46)),
       R.q 48 (.call 61 [(R.t 47)]),
       R.q 49 (.fld 7 (R.t 9)),
       R.e (.store 1 (R.t 49) (R.t 48))])
     (.seq (.reg [R.q 51 (.loadA 25 (R.t 7)),
       R.q 52 (.call 59 [(R.t 51), (R.i 6), (R.i 2)]),
       R.q 50 (.mov (R.t 52))])
     (.cond (R.t 50)
       (.reg [R.q 53 (.fld 7 (R.t 8)),
         R.q 54 (.load1 (R.t 53)),
         R.q 55 (.call 21 [(R.t 54)]),
         R.q 56 (.fld 7 (R.t 9)),
         R.e (.store 1 (R.t 56) (R.t 55))])
       .skip))))))
  (.seq (.mark (.seq (.reg [R.q 57 (.loadA 25 (R.t 7)),
    R.q 58 (.call 59 [(R.t 57), (R.i 7), (R.i 1)])])
  (.cond (R.t 58)
    (.reg [R.q 59 (.fld 8 (R.t 8)),
      R.q 60 (.loadA 5 (R.t 59)),
      R.q 61 (.fld 8 (R.t 9)),
      R.e (.store 5 (R.t 61) (R.t 60))])
    .skip)))
  (.seq (.mark (.seq (.reg [R.q 62 (.loadA 25 (R.t 7)),
    R.q 63 (.call 59 [(R.t 62), (R.i 8), (R.i 1)])])
  (.cond (R.t 63)
    (.reg [R.q 64 (.fld 3 (R.t 8)),
      R.q 65 (.loadA 2 (R.t 64)),
      R.q 66 (.fld 3 (R.t 9)),
      R.e (.store 2 (R.t 66) (R.t 65))])
    .skip)))
  (.seq (.mark (.block 1 (.seq (.reg [R.q 68 (.loadA 25 (R.t 7)),
     R.q 69 (.call 59 [(R.t 68), (R.i 9), (R.i 1)]),
     R.q 67 (.mov (R.t 69))])
   (.cond (R.t 67)
     (.reg [R.q 70 (.fld 13 (R.t 8)),
       R.q 71 (.load1 (R.t 70)),
       R.q 72 (.fld 13 (R.t 9)),
       R.e (.store 1 (R.t 72) (R.t 71))])
     (.seq (.reg [R.q 74 (.loadA 25 (R.t 7)),
       R.q 75 (.call 59 [(R.t 74), (R.i 9), (R.i 2)]),
       R.q 73 (.mov (R.t 75))])
     (.cond (R.t 73)
       (.reg [R.q 76 (.fld 13 (R.t 8)),
         R.q 77 (.load1 (R.t 76)),
         R.q 78 (.bin .and .no (R.t 77) (R.i 12)),
         R.q 79 (.fld 13 (R.t 9)),
         R.e (.store 1 (R.t 79) (R.t 78))])
       .skip))))))
  (.seq (.reg [R.q 80 (.loadA 14 (R.t 9)),
    R.e (.store 14 (R.t 6) (R.t 80))])
  .ret))))))))))))
def degrade_Meta.rs : List RRes := [.cellA 6 14]
theorem degrade_Meta.of {xs : List AV} {d : Nat} {B : BL} {K : ARes → BL → Prop} (hn : xs.length = 3) (hB : onlyOuter B = true) (h : awp ⟨PT, 81, exitX degrade_Meta.rs K⟩ 10000 [.code degrade_Meta.rc] ⟨params 0 xs, B, .nil⟩) : CallAt PT degrade_Meta xs d B K :=
  call_of_awp 10000 Try.func31 rfl (by kernel_rfl) (by kernel_rfl) (by kernel_rfl) (by rw [hn]; decide) hB h
abbrev r21_Degraded : Nat := 32
def r21_Degraded.rc : RC :=
  (.seq (.reg [R.q 3 (.box (R.t 0)),
    R.q 4 (.box (R.t 1)),
    R.q 6 (.alloc (.cons (R.z 0) (.cons (R.z 0) (.cons (R.z 0) (.cons (R.z 0) (.cons (R.z 0) (.cons .nsl (.cons .nsl (.cons .nsl (.cons (R.z 0) (.cons (.int .u64 fun _ => 0) (.cons (.int .u64 fun _ => 0) (.cons .ff (.cons (R.z 0) (.cons (R.z 0) .nil)))))))))))))))])
  (.seq (.reg [R.q 8 (.fld 0 (R.t 4)),
    R.q 9 (.load1 (R.t 8)),
    R.q 10 (.fld 1 (R.t 4)),
    R.q 11 (.load1 (R.t 10)),
    R.q 12 (.build (.cons (R.z 0) (.cons (R.z 0) (.cons (R.z 0) (.cons (R.z 0) (.cons (R.z 0) (.cons .nsl (.cons .nsl (.cons .nsl (.cons (R.z 0) (.cons (.int .u64 fun _ => 0) (.cons (.int .u64 fun _ => 0) (.cons .ff (.cons (R.z 0) (.cons (R.z 0) .nil)))))))))))))) [(1, 1, (R.t 9)), (2, 1, (R.t 11))]),
    R.q 7 (.alloc (.cons (R.z 0) (.cons (R.z 0) (.cons (R.z 0) (.cons (R.z 0) (.cons (R.z 0) (.cons .nsl (.cons .nsl (.cons .nsl (.cons (R.z 0) (.cons (.int .u64 fun _ => 0) (.cons (.int .u64 fun _ => 0) (.cons .ff (.cons (R.z 0) (.cons (R.z 0) .nil))))))))))))))),
    R.e (.store 14 (R.t 7) (R.t 12))])
  (.seq (.mark (.seq (.reg [R.q 13 (.mov (R.t 2)),
    R.q 14 (.fld 0 (R.t 3)),
    R.q 15 (.load1 (R.t 14)),
    R.q 16 (.call 28 [(R.t 13), (R.t 15), (R.i 2)]),
    R.q 17 (.bin .eql .no (R.t 16) (R.i 1))])
  (.cond (R.t 17)
    (.seq (.reg [R.q 18 (.fld 2 (R.t 3)),
      R.q 19 (.fld 1 (R.t 18)),
      R.q 20 (.load1 (R.t 19)),
      R.q 21 (.fld 1 (R.t 7)),
      R.e (.store 1 (R.t 21) (R.t 20))])
    (.reg [R.q 22 (.fld 2 (R.t 3)),
      R.q 23 (.fld 2 (R.t 22)),
      R.q 24 (.load1 (R.t 23)),
      R.q 25 (.fld 2 (R.t 7)),
      R.e (.store 1 (R.t 25) (R.t 24))]))
    .skip)))
  (.seq (.mark (.seq (.reg [R.q 26 (.mov (R.t 2)),
    R.q 27 (.fld 0 (R.t 3)),
    R.q 28 (.load1 (R.t 27)),
    R.q 29 (.call 28 [(R.t 26), (R.t 28), (R.i 3)])])
  (.block 0 (.seq (.reg [R.q 41 (.bin .eql .no (R.t 29) (R.i 1)),
     R.q 40 (.mov (R.t 41))])
   (.cond (R.t 40)
     (.seq (.reg [R.q 43 (.fld 2 (R.t 3)),
       R.q 44 (.loadA 14 (R.t 43)),
       R.q 45 (.call 19 [(R.t 44), R.tt]),
       R.q 42 (.mov (R.t 45)),
       R.q 46 (.ext 0 (R.t 42)),
       R.q 47 (.ext 1 (R.t 42)),
       R.q 48 (.fld 0 (R.t 7)),
       R.e (.store 1 (R.t 48) (R.t 46))])
     (.seq (.seq (.reg [R.q 49 (.mov (R.t 2)),
       R.q 50 (.fld 0 (R.t 3)),
       R.q 51 (.load1 (R.t 50)),
       R.q 52 (.call 28 [(R.t 49), (R.t 51), (R.i 4)]),
       R.q 53 (.bin .eql .no (R.t 52) (R.i 1))])
     (.cond (R.t 53)
       (.reg [R.q 54 (.fld 2 (R.t 3)),
         R.q 55 (.fld 0 (R.t 54)),
         R.q 56 (.load1 (R.t 55)),
         R.q 57 (.fld 0 (R.t 7)),
         R.e (.store 1 (R.t 57) (R.t 56))])
       .skip))
     (.seq (.reg [R.q 58 (.fld 1 (R.t 3)),
       R.q 59 (.load1 (R.t 58)),
       R.q 60 (.bin .eql .no (R.t 59) (R.i 1)),
       R.q 61 (.mov (R.t 60)),
       R.g 62 (.loadA 4 (R.t 4)) 61 true,
       R.g 63 (.fld 2 (R.t 3)) 61 true,
       R.g 64 (.fld 2 (R.t 63)) 61 true,
       R.g 65 (.load1 (R.t 64)) 61 true,
       R.g 66 (.call 62 [(R.t 62), (R.t 65)]) 61 true,
       R.g 67 (.un .not (R.t 66)) 61 true,
       R.q 68 (.pick (R.t 61) (R.t 67) R.ff),
       R.q 69 (.mov (R.t 68)),
       R.g 70 (.fld 3 (R.t 4)) 69 true,
       R.g 71 (.load1 (R.t 70)) 69 true,
       R.g 72 (.bin .and .no (R.t 71) (R.i 4)) 69 true,
       R.g 73 (.bin .eql .no (R.t 72) (R.i 0)) 69 true,
       R.q 74 (.pick (R.t 69) (R.t 73) R.ff)])
     (.cond (R.t 74)
       (.reg [R.q 75 (.fld 0 (R.t 7)),
         R.q 76 (.load1 (R.t 75)),
         R.q 77 (.bin .andNot .no (R.t 76) (R.i 1024)),
         R.q 78 (.fld 0 (R.t 7)),
         R.e (.store 1 (R.t 78) (R.t 77))])
       .skip))))
     (.seq (.reg [R.q 80 (.bin .eql .no (R.t 29) (R.i 2)),
       R.q 79 (.mov (R.t 80))])
     (.cond (R.t 79)
       (.reg [R.q 82 (.fld 2 (R.t 3)),
         R.q 83 (.loadA 14 (R.t 82)),
         R.q 84 (.call 19 [(R.t 83), R.ff]),
         R.q 81 (.mov (R.t 84)),
         R.q 85 (.ext 0 (R.t 81)),
         R.q 86 (.ext 1 (R.t 81)),
         R.q 87 (.fld 0 (R.t 7)),
         R.e (.store 1 (R.t 87) (R.t 85))])
       (.seq (.reg [R.q 30 (.fld 1 (R.t 3)),
         R.q 31 (.load1 (R.t 30)),
         R.q 32 (.call 16 [(R.t 31)]),
         R.q 33 (.fld 0 (R.t 7)),
         R.e (.store 1 (R.t 33) (R.t 32))])
       (.seq (.reg [R.q 34 (.mov (R.t 2)),
         R.q 35 (.fld 0 (R.t 3)),
         R.q 36 (.load1 (R.t 35)),
         R.q 37 (.call 28 [(R.t 34), (R.t 36), (R.i 10)]),
         R.q 38 (.bin .eql .no (R.t 37) (R.i 1))])
       (.cond (R.t 38)
         (.reg [R.q 39 (.fld 0 (R.t 7)),
           R.e (.store 1 (R.t 39) (R.i 0))])
         .skip))))))))))
  (.seq (.mark (.seq (.reg [R.q 88 (.fld 1 (R.t 3)),
    R.q 89 (.load1 (R.t 88)),
    R.q 90 (.bin .eql .no (R.t 89) (R.i 3))])
  (.cond (R.t 90)
    (.reg [R.q 91 (.fld 0 (R.t 7)),
      R.e (.store 1 (R.t 91) (R.i 511))])
    .skip)))
  (.seq (.mark (.seq (.reg [R.q 92 (.mov (R.t 2)),
    R.q 93 (.fld 0 (R.t 3)),
    R.q 94 (.load1 (R.t 93)),
    R.q 95 (.call 28 [(R.t 92), (R.t 94), (R.i 4)]),
    R.q 96 (.bin .eql .no (R.t 95) (R.i 1))])
  (.cond (R.t 96)
    (.reg [R.q 97 (.fld 2 (R.t 3)),
      R.q 98 (.fld 5 (R.t 97)),
      R.q 99 (.load1 (R.t 98)),
      R.q 100 (.fld 5 (R.t 7)),
      R.e (.store 1 (R.t 100) (R.t 99))])
    .skip)))
  (.seq (.mark (.seq (.reg [R.q 101 (.mov (R.t 2)),
    R.q 102 (.fld 0 (R.t 3)),
    R.q 103 (.load1 (R.t 102)),
    R.q 104 (.call 28 [(R.t 101), (R.t 103), (R.i 5)]),
    R.q 105 (.bin .eql .no (R.t 104) (R.i 1))])
  (.cond (R.t 105)
    (.reg [R.q 106 (.fld 2 (R.t 3)),
      R.q 107 (.fld 6 (R.t 106)),
      R.q 108 (.load1 (R.t 107)),
      R.q 109 (.fld 6 (R.t 7)),
      R.e (.store 1 (R.t 109) (R.t 108))])
    .skip)))
  (.seq (.mark (.seq (.reg [R.q 110 (.mov (R.t 2)),
    R.q 111 (.fld 0 (R.t 3)),
    R.q 112 (.load1 (R.t 111)),
    R.q 113 (.call 28 [(R.t 110), (R.t 112), (R.i 6)])])
  (.block 1 (.seq (.reg [R.q 115 (.bin .eql .no (R.t 113) (R.i 1)),
     R.q 114 (.mov (R.t 115))])
   (.cond (R.t 114)
     (.reg [R.q 116 (.fld 2 (R.t 3)),
       R.q 117 (.fld 7 (R.t 116)),
       R.q 118 (.load1 (R.t 117)),
       R.q 119 (.fld 7 (R.t 7)),
       R.e (.store 1 (R.t 119) (R.t 118))])
     (.seq (.reg [R.q 121 (.bin .eql .no (R.t 113) (R.i 2)),
       R.q 120 (.mov (R.t 121))])
     (.cond (R.t 120)
       (.reg [R.q 122 (.fld 2 (R.t 3)),
         R.q 123 (.fld 7 (R.t 122)),
         R.q 124 (.load1 (R.t 123)),
         R.q 125 (.call 22 [(R.t 124)]),
         R.q 126 (.fld 7 (R.t 7)),
         R.e (.store 1 (R.t 126) (R.t 125))])
       .skip)))))))
  (.seq (.mark (.seq (.reg [R.q 127 (.mov (R.t 2)),
    R.q 128 (.fld 0 (R.t 3)),
    R.q 129 (.load1 (R.t 128)),
    R.q 130 (.call 28 [(R.t 127), (R.t 129), (R.i 7)]),
    R.q 131 (.bin .eql .no (R.t 130) (R.i 1))])
  (.cond (R.t 131)
    (.reg [R.q 132 (.fld 2 (R.t 3)),
      R.q 133 (.fld 8 (R.t 132)),
      R.q 134 (.loadA 5 (R.t 133)),
      R.q 135 (.fld 8 (R.t 7)),
      R.e (.store 5 (R.t 135) (R.t 134))])
    .skip)))
  (.seq (.mark (.seq (.reg [R.q 136 (.mov (R.t 2)),
    R.q 137 (.fld 0 (R.t 3)),
    R.q 138 (.load1 (R.t 137)),
    R.q 139 (.call 28 [(R.t 136), (R.t 138), (R.i 8)]),
    R.q 140 (.bin .eql .no (R.t 139) (R.i 1))])
  (.cond (R.t 140)
    (.reg [R.q 141 (.fld 2 (R.t 3)),
      R.q 142 (.fld 3 (R.t 141)),
      R.q 143 (.loadA 2 (R.t 142)),
      R.q 144 (.fld 3 (R.t 7)),
      R.e (.store 2 (R.t 144) (R.t 143))])
    .skip)))
  (.seq (.mark (.seq (.reg [R.q 145 (.mov (R.t 2)),
    R.q 146 (.fld 0 (R.t 3)),
    R.q 147 (.load1 (R.t 146)),
    R.q 148 (.call 28 [(R.t 145), (R.t 147), (R.i 9)])])
  (.block 2 (.seq (.reg [R.q 150 (.bin .eql .no (R.t 148) (R.i 1)),
     R.q 149 (.mov (R.t 150))])
   (.cond (R.t 149)
     (.reg [R.q 151 (.fld 2 (R.t 3)),
       R.q 152 (.fld 13 (R.t 151)),
       R.q 153 (.load1 (R.t 152)),
       R.q 154 (.fld 13 (R.t 7)),
       R.e (.store 1 (R.t 154) (R.t 153))])
     (.seq (.reg [R.q 156 (.bin .eql .no (R.t 148) (R.i 2)),
       R.q 155 (.mov (R.t 156))])
     (.cond (R.t 155)
       (.reg [R.q 157 (.fld 2 (R.t 3)),
         R.q 158 (.fld 13 (R.t 157)),
         R.q 159 (.load1 (R.t 158)),
         R.q 160 (.bin .andNot .no (R.t 159) (R.i 3)),
         R.q 161 (.fld 13 (R.t 7)),
         R.e (.store 1 (R.t 161) (R.t 160))])
       .skip)))))))
  (.seq (.reg [R.q 162 (.loadA 14 (R.t 7)),
    R.e (.store 14 (R.t 6) (R.t 162))])
  .ret))))))))))))
def r21_Degraded.rs : List RRes := [.cellA 6 14]
theorem r21_Degraded.of {xs : List AV} {d : Nat} {B : BL} {K : ARes → BL → Prop} (hn : xs.length = 3) (hB : onlyOuter B = true) (h : awp ⟨PT, 163, exitX r21_Degraded.rs K⟩ 10000 [.code r21_Degraded.rc] ⟨params 0 xs, B, .nil⟩) : CallAt PT r21_Degraded xs d B K :=
  call_of_awp 10000 Try.func32 rfl (by kernel_rfl) (by kernel_rfl) (by kernel_rfl) (by rw [hn]; decide) hB h
abbrev r9_MayMeta : Nat := 36
def r9_MayMeta.rc : RC :=
  (.seq (.reg [R.q 2 (.box (R.t 0)),
    R.q 4 (.mov R.ff)])
  (.seq (.seq (.reg [R.q 5 (.mov (R.t 1)),
    R.q 6 (.bin .neq .no (R.t 5) (R.i 1)),
    R.q 7 (.mov (R.t 6)),
    R.g 8 (.mov (R.t 1)) 7 true,
    R.g 9 (.bin .lss .no (R.t 8) (R.i 3)) 7 true,
    R.g 10 (.mov (R.t 9)) 7 true,
    R.g 11 (.mov (R.t 1)) 10 false,
    R.g 12 (.bin .gtr .no (R.t 11) (R.i 7)) 10 false,
    R.g 13 (.pick (R.t 10) R.tt (R.t 12)) 7 true,
    R.q 14 (.pick (R.t 7) (R.t 13) R.ff)])
  (.cond (R.t 14)
    (.seq (.reg [R.q 4 (.mov R.ff)])
    .ret)
    .skip))
  (.seq (.seq (.reg [R.q 15 (.fld 0 (R.t 2)),
    R.q 16 (.load1 (R.t 15)),
    R.q 17 (.bin .lss .no (R.t 16) (R.i 0)),
    R.q 18 (.mov (R.t 17)),
    R.g 19 (.fld 0 (R.t 2)) 18 false,
    R.g 20 (.load1 (R.t 19)) 18 false,
    R.g 21 (.bin .gtr .no (R.t 20) (R.i 4095)) 18 false,
    R.q 22 (.pick (R.t 18) R.tt (R.t 21)),
    R.q 23 (.mov (R.t 22)),
    R.g 24 (.fld 1 (R.t 2)) 23 false,
    R.g 25 (.load1 (R.t 24)) 23 false,
    R.g 26 (.call 64 [(R.t 25)]) 23 false,
    R.g 27 (.un .not (R.t 26)) 23 false,
    R.q 28 (.pick (R.t 23) R.tt (R.t 27)),
    R.q 29 (.mov (R.t 28)),
    R.g 30 (.fld 2 (R.t 2)) 29 false,
    R.g 31 (.load1 (R.t 30)) 29 false,
    R.g 32 (.call 64 [(R.t 31)]) 29 false,
    R.g 33 (.un .not (R.t 32)) 29 false,
    R.q 34 (.pick (R.t 29) R.tt (R.t 33)),
    R.q 35 (.mov (R.t 34)),
    R.g 36 (.fld 3 (R.t 2)) 35 false,
    R.g 37 (.loadA 2 (R.t 36)) 35 false,
    R.g 38 (.call 65 [(R.t 37)]) 35 false,
    R.g 39 (.un .not (R.t 38)) 35 false,
    R.q 40 (.pick (R.t 35) R.tt (R.t 39)),
    R.q 41 (.mov (R.t 40)),
    R.g 42 (.fld 13 (R.t 2)) 41 false,
    R.g 43 (.load1 (R.t 42)) 41 false,
    R.g 44 (.call 66 [(R.t 43)]) 41 false,
    R.g 45 (.un .not (R.t 44)) 41 false,
    R.q 46 (.pick (R.t 41) R.tt (R.t 45)),
    R.q 47 (.mov (R.t 46)),
    R.g 48 (.fld 7 (R.t 2)) 47 false,
    R.g 49 (.load1 (R.t 48)) 47 false,
    R.g 50 (.call 67 [(R.t 49)]) 47 false,
    R.g 51 (.un .not (R.t 50)) 47 false,
    R.q 52 (.pick (R.t 47) R.tt (R.t 51))])
  (.cond (R.t 52)
    (.seq (.reg [R.q 4 (.mov R.ff)])
    .ret)
    .skip))
  (.seq (.seq (.regd [R.f (R.q 53 (.fld 5 (R.t 2))),
    R.f (R.q 54 (.load1 (R.t 53))),
    R.f (R.q 55 (.len (R.t 54))),
    R.f (R.q 56 (.bin .gtr .no (R.t 55) (R.i 0))),
    R.f (R.q 57 (.mov (R.t 56))),
    R.f (R.g 58 (.fld 5 (R.t 2)) 57 true),
    R.f (R.g 59 (.load1 (R.t 58)) 57 true),
    R.s (R.g 60 (.call 68 [(R.t 59)]) 57 true) [],
    R.f (R.g 61 (.un .not (R.t 60)) 57 true),
    R.f (R.g 62 (.mov (R.t 61)) 57 true),
    R.f (R.g 63 (.fld 5 (R.t 2)) 62 false),
    R.f (R.g 64 (.load1 (R.t 63)) 62 false),
    R.f (R.g 66 (.fld 0 (R.t 2)) 62 false),
    R.f (R.g 67 (.load1 (R.t 66)) 62 false),
    R.f (R.g 68 (.bin .and .no (R.t 67) (R.i 511)) 62 false),
    R.s (R.g 65 (.call 69 [(R.t 64)]) 62 false) [12, 13, 14],
    R.f (R.g 69 (.bin .neq .no (R.t 65) (R.t 68)) 62 false),
    R.f (R.g 70 (.pick (R.t 62) R.tt (R.t 69)) 57 true),
    R.f (R.q 71 (.pick (R.t 57) (R.t 70) R.ff))])
  (.cond (R.t 71)
    (.seq (.reg [R.q 4 (.mov R.ff)])
    .ret)
    .skip))
  (.seq (.seq (.reg [R.q 72 (.fld 6 (R.t 2)),
    R.q 73 (.load1 (R.t 72)),
    R.q 74 (.len (R.t 73)),
    R.q 75 (.bin .gtr .no (R.t 74) (R.i 0)),
    R.q 76 (.mov (R.t 75)),
    R.g 77 (.mov (R.t 1)) 76 true,
    R.g 78 (.bin .neq .no (R.t 77) (R.i 6)) 76 true,
    R.g 79 (.mov (R.t 78)) 76 true,
    R.g 80 (.fld 6 (R.t 2)) 79 false,
    R.g 81 (.load1 (R.t 80)) 79 false,
    R.g 82 (.call 68 [(R.t 81)]) 79 false,
    R.g 83 (.un .not (R.t 82)) 79 false,
    R.g 84 (.pick (R.t 79) R.tt (R.t 83)) 76 true,
    R.q 85 (.pick (R.t 76) (R.t 84) R.ff)])
  (.cond (R.t 85)
    (.seq (.reg [R.q 4 (.mov R.ff)])
    .ret)
    .skip))
  (.seq (.seq (.reg [R.q 86 (.fld 8 (R.t 2)),
    R.q 87 (.loadA 5 (R.t 86)),
    R.q 88 (.call 70 [(R.t 87)]),
    R.q 89 (.un .not (R.t 88)),
    R.q 90 (.mov (R.t 89)),
    R.g 91 (.fld 8 (R.t 2)) 90 false,
    R.g 92 (.fld 0 (R.t 91)) 90 false,
    R.g 93 (.load1 (R.t 92)) 90 false,
    R.g 94 (.bin .neq .no (R.t 93) (R.i 0)) 90 false,
    R.g 95 (.mov (R.t 94)) 90 false,
    R.g 96 (.mov (R.t 1)) 95 true,
    R.g 97 (.bin .neq .no (R.t 96) (R.i 1)) 95 true,
    R.g 98 (.pick (R.t 95) (R.t 97) R.ff) 90 false,
    R.q 99 (.pick (R.t 90) R.tt (R.t 98))])
  (.cond (R.t 99)
    (.seq (.reg [R.q 4 (.mov R.ff)])
    .ret)
    .skip))
  (.seq (.reg [R.q 100 (.mov (R.t 1)),
    R.q 101 (.bin .neq .no (R.t 100) (R.i 3)),
    R.q 102 (.mov (R.t 101)),
    R.g 103 (.fld 0 (R.t 2)) 102 false,
    R.g 104 (.load1 (R.t 103)) 102 false,
    R.g 105 (.bin .eql .no (R.t 104) (R.i 511)) 102 false,
    R.g 106 (.mov (R.t 105)) 102 false,
    R.g 107 (.fld 5 (R.t 2)) 106 true,
    R.g 108 (.load1 (R.t 107)) 106 true,
    R.g 109 (.len (R.t 108)) 106 true,
    R.g 110 (.bin .eql .no (R.t 109) (R.i 0)) 106 true,
    R.g 111 (.pick (R.t 106) (R.t 110) R.ff) 102 false,
    R.g 112 (.mov (R.t 111)) 102 false,
    R.g 113 (.fld 13 (R.t 2)) 112 true,
    R.g 114 (.load1 (R.t 113)) 112 true,
    R.g 115 (.bin .eql .no (R.t 114) (R.i 0)) 112 true,
    R.g 116 (.pick (R.t 112) (R.t 115) R.ff) 102 false,
    R.q 117 (.pick (R.t 102) R.tt (R.t 116)),
    R.q 4 (.mov (R.t 117))])
  .ret)))))))
def r9_MayMeta.rs : List RRes := [.tmp 4]
theorem r9_MayMeta.of {xs : List AV} {d : Nat} {B : BL} {K : ARes → BL → Prop} (hn : xs.length = 2) (hB : onlyOuter B = true) (h : awp ⟨PT, 118, exitX r9_MayMeta.rs K⟩ 10000 [.code r9_MayMeta.rc] ⟨params 0 xs, B, .nil⟩) : CallAt PT r9_MayMeta xs d B K :=
  call_of_awp 10000 Try.func36 rfl (by kernel_rfl) (by kernel_rfl) (by kernel_rfl) (by rw [hn]; decide) hB h
abbrev right_Less : Nat := 49
def right_Less.rc : RC :=
  (.seq (.reg [R.q 1 (.box (R.t 0)),
    R.q 2 (.mov (R.i 0))])
  (.seq (.reg [R.q 3 (.mkfn (.func 95) [] [(R.t 1)]),
    R.q 4 (.call 94 [(R.t 3)]),
    R.q 2 (.mov (R.t 4))])
  .ret))
def right_Less.rs : List RRes := [.tmp 2]
theorem right_Less.of {xs : List AV} {d : Nat} {B : BL} {K : ARes → BL → Prop} (hn : xs.length = 1) (hB : onlyOuter B = true) (h : awp ⟨PT, 5, exitX right_Less.rs K⟩ 10000 [.code right_Less.rc] ⟨params 0 xs, B, .nil⟩) : CallAt PT right_Less xs d B K :=
  call_of_awp 10000 Try.func49 rfl (by kernel_rfl) (by kernel_rfl) (by kernel_rfl) (by rw [hn]; decide) hB h
abbrev r18_Less : Nat := 50
def r18_Less.rc : RC :=
  (.seq (.reg [R.q 1 (.box (R.t 0)),
    R.q 2 (.mov (R.i 0))])
  (.seq (.seq (.reg [R.q 7 (.fld 5 (R.t 1)),
    R.q 8 (.load1 (R.t 7)),
    R.q 9 (.len (R.t 8)),
    R.q 10 (.bin .eql .no (R.t 9) (R.i 0))])
  (.cond (R.t 10)
    (.seq (.reg [R.q 11 (.fld 0 (R.t 1)),
      R.q 12 (.load1 (R.t 11)),
      R.q 13 (.bin .and .no (R.t 12) (R.i 511)),
      R.q 2 (.mov (R.t 13))])
    .ret)
    .skip))
  (.seq (.reg [R.q 14 (.fld 5 (R.t 1)),
    R.q 15 (.load1 (R.t 14)),
    R.q 16 (.call 99 [(R.t 15), (R.i 5)]),
    R.q 3 (.mov (R.t 16))])
  (.seq (.seq (.reg [R.q 17 (.mov (R.t 3)),
    R.q 18 (.bin .lss .no (R.t 17) (R.i 0))])
  (.cond (R.t 18)
    (.reg [R.q 3 (.mov (R.i 7))])
    .skip))
  (.seq (.regd [R.f (R.q 19 (.fld 5 (R.t 1))),
    R.f (R.q 20 (.load1 (R.t 19))),
    R.f (R.q 22 (.mov (R.t 3))),
    R.f (R.q 24 (.fld 5 (R.t 1))),
    R.f (R.q 25 (.load1 (R.t 24))),
    R.s (R.q 21 (.call 99 [(R.t 20), (R.i 3)])) [2, 3, 4],
    R.f (R.q 23 (.bin .and .no (R.t 21) (R.t 22))),
    R.s (R.q 26 (.call 99 [(R.t 25), (R.i 6)])) [2, 6],
    R.s (R.q 4 (.mov (R.t 23))) [],
    R.s (R.q 5 (.mov (R.t 26))) []])
  (.seq (.seq (.reg [R.q 6 (.mov (R.i 0))])
  (.block 0 (.loop
     (.seq (.seq (.reg [R.q 27 (.mov (R.t 6)),
       R.q 28 (.fld 5 (R.t 1)),
       R.q 29 (.load1 (R.t 28)),
       R.q 30 (.len (R.t 29)),
       R.q 31 (.bin .lss .no (R.t 27) (R.t 30))])
     (.cond (R.t 31)
       .skip
       (.exit 0)))
     (.seq (.block 1 (.seq (.seq (.reg [R.q 34 (.fld 5 (R.t 1)),
        R.q 35 (.load1 (R.t 34)),
        R.q 36 (.mov (R.t 6)),
        R.q 37 (.idx 3 (R.t 35) (R.t 36)),
        R.q 38 (.fld 0 (R.t 37)),
        R.q 39 (.load1 (R.t 38)),
        R.q 40 (.bin .eql .no (R.t 39) (R.i 2))])
      (.cond (R.t 40)
        (.seq (.reg [R.q 41 (.mov (R.t 4)),
          R.q 42 (.fld 5 (R.t 1)),
          R.q 43 (.load1 (R.t 42)),
          R.q 44 (.mov (R.t 6)),
          R.q 45 (.idx 3 (R.t 43) (R.t 44)),
          R.q 46 (.fld 2 (R.t 45)),
          R.q 47 (.load1 (R.t 46)),
          R.q 48 (.bin .and .no (R.t 41) (R.t 47)),
          R.q 4 (.mov (R.t 48))])
        (.reg [R.q 49 (.mov (R.t 5)),
          R.q 50 (.fld 5 (R.t 1)),
          R.q 51 (.load1 (R.t 50)),
          R.q 52 (.mov (R.t 6)),
          R.q 53 (.idx 3 (R.t 51) (R.t 52)),
          R.q 54 (.fld 2 (R.t 53)),
          R.q 55 (.load1 (R.t 54)),
          R.q 56 (.bin .and .no (R.t 49) (R.t 55)),
          R.q 57 (.mov (R.t 3)),
          R.q 58 (.bin .and .no (R.t 56) (R.t 57)),
          R.q 5 (.mov (R.t 58))]))
        .skip))
      (.seq (.reg [R.q 59 (.fld 5 (R.t 1)),
        R.q 60 (.load1 (R.t 59)),
        R.q 61 (.mov (R.t 6)),
        R.q 62 (.idx 3 (R.t 60) (R.t 61)),
        R.q 63 (.fld 0 (R.t 62)),
        R.q 64 (.load1 (R.t 63)),
        R.q 65 (.bin .eql .no (R.t 64) (R.i 4))])
      (.cond (R.t 65)
        (.reg [R.q 66 (.mov (R.t 5)),
          R.q 67 (.fld 5 (R.t 1)),
          R.q 68 (.load1 (R.t 67)),
          R.q 69 (.mov (R.t 6)),
          R.q 70 (.idx 3 (R.t 68) (R.t 69)),
          R.q 71 (.fld 2 (R.t 70)),
          R.q 72 (.load1 (R.t 71)),
          R.q 73 (.bin .and .no (R.t 66) (R.t 72)),
          R.q 74 (.mov (R.t 3)),
          R.q 75 (.bin .and .no (R.t 73) (R.t 74)),
          R.q 5 (.mov (R.t 75))])
        .skip))))
     (.reg [R.q 32 (.mov (R.t 6)),
       R.q 33 (.bin .add .no (R.t 32) (R.i 1)),
       R.q 6 (.mov (R.t 33))]))))))
  (.seq (.reg [R.q 76 (.fld 5 (R.t 1)),
    R.q 77 (.load1 (R.t 76)),
    R.q 78 (.call 99 [(R.t 77), (R.i 1)]),
    R.q 79 (.bin .mul .no (R.t 78) (R.i 64)),
    R.q 80 (.mov (R.t 4)),
    R.q 81 (.bin .mul .no (R.t 80) (R.i 8)),
    R.q 82 (.bin .add .no (R.t 79) (R.t 81)),
    R.q 83 (.mov (R.t 5)),
    R.q 84 (.bin .add .no (R.t 82) (R.t 83)),
    R.q 2 (.mov (R.t 84))])
  .ret)))))))
def r18_Less.rs : List RRes := [.tmp 2]
theorem r18_Less.of {xs : List AV} {d : Nat} {B : BL} {K : ARes → BL → Prop} (hn : xs.length = 1) (hB : onlyOuter B = true) (h : awp ⟨PT, 85, exitX r18_Less.rs K⟩ 10000 [.code r18_Less.rc] ⟨params 0 xs, B, .nil⟩) : CallAt PT r18_Less xs d B K :=
  call_of_awp 10000 Try.func50 rfl (by kernel_rfl) (by kernel_rfl) (by kernel_rfl) (by rw [hn]; decide) hB h
abbrev strings_HasPrefix : Nat := 51
def strings_HasPrefix.rc : RC :=
  (.seq (.reg [R.q 4 (.mov R.ff)])
  (.seq (.reg [R.q 5 (.mov (R.t 0)),
    R.q 6 (.mov (R.t 1)),
    R.q 7 (.call 100 [(R.t 5), (R.t 6)]),
    R.q 4 (.mov (R.t 7))])
  .ret))
def strings_HasPrefix.rs : List RRes := [.tmp 4]
theorem strings_HasPrefix.of {xs : List AV} {d : Nat} {B : BL} {K : ARes → BL → Prop} (hn : xs.length = 2) (hB : onlyOuter B = true) (h : awp ⟨PT, 8, exitX strings_HasPrefix.rs K⟩ 10000 [.code strings_HasPrefix.rc] ⟨params 0 xs, B, .nil⟩) : CallAt PT strings_HasPrefix xs d B K :=
  call_of_awp 10000 Try.func51 rfl (by kernel_rfl) (by kernel_rfl) (by kernel_rfl) (by rw [hn]; decide) hB h
abbrev r18_Strict : Nat := 52
def r18_Strict.rc : RC :=
  (.seq (.reg [R.q 2 (.mov R.ff)])
  (.seq (.reg [R.q 3 (.mov (R.t 0)),
    R.q 4 (.lenS (R.t 3)),
    R.q 5 (.bin .geq .no (R.t 4) (R.i 8)),
    R.q 6 (.mov (R.t 5)),
    R.g 7 (.mov (R.t 0)) 6 true,
    R.g 8 (.sliceS (R.t 7) none (some (R.i 8))) 6 true,
    R.g 9 (.bin .eql .no (R.t 8) (.val (.str fun _ => [116, 114, 117, 115, 116, 101, 100, 46]))) 6 true,
    R.q 10 (.pick (R.t 6) (R.t 9) R.ff),
    R.q 11 (.mov (R.t 10)),
    R.g 12 (.mov (R.t 0)) 11 false,
    R.g 13 (.lenS (R.t 12)) 11 false,
    R.g 14 (.bin .geq .no (R.t 13) (R.i 9)) 11 false,
    R.g 15 (.mov (R.t 14)) 11 false,
    R.g 16 (.mov (R.t 0)) 15 true,
    R.g 17 (.sliceS (R.t 16) none (some (R.i 9))) 15 true,
    R.g 18 (.bin .eql .no (R.t 17) (.val (.str fun _ => [115, 101, 99, 117, 114, 105, 116, 121, 46]))) 15 true,
    R.g 19 (.pick (R.t 15) (R.t 18) R.ff) 11 false,
    R.q 20 (.pick (R.t 11) R.tt (R.t 19)),
    R.q 2 (.mov (R.t 20))])
  .ret))
def r18_Strict.rs : List RRes := [.tmp 2]
theorem r18_Strict.of {xs : List AV} {d : Nat} {B : BL} {K : ARes → BL → Prop} (hn : xs.length = 1) (hB : onlyOuter B = true) (h : awp ⟨PT, 21, exitX r18_Strict.rs K⟩ 10000 [.code r18_Strict.rc] ⟨params 0 xs, B, .nil⟩) : CallAt PT r18_Strict xs d B K :=
  call_of_awp 10000 Try.func52 rfl (by kernel_rfl) (by kernel_rfl) (by kernel_rfl) (by rw [hn]; decide) hB h
abbrev r9_SameAcl : Nat := 57
def r9_SameAcl.rc : RC :=
  (.seq (.reg [R.q 4 (.mov R.ff)])
  (.seq (.seq (.reg [R.q 6 (.mov (R.t 0)),
    R.q 7 (.len (R.t 6)),
    R.q 8 (.mov (R.t 1)),
    R.q 9 (.len (R.t 8)),
    R.q 10 (.bin .neq .no (R.t 7) (R.t 9))])
  (.cond (R.t 10)
    (.seq (.reg [R.q 4 (.mov R.ff)])
    .ret)
    .skip))
  (.seq (.seq (.reg [R.q 5 (.mov (R.i 0))])
  (.block 0 (.loop
     (.seq (.seq (.reg [R.q 11 (.mov (R.t 5)),
       R.q 12 (.mov (R.t 0)),
       R.q 13 (.len (R.t 12)),
       R.q 14 (.bin .lss .no (R.t 11) (R.t 13))])
     (.cond (R.t 14)
       .skip
       (.exit 0)))
     (.seq (.block 1 (.seq (.regd [R.f (R.q 17 (.mov (R.t 0))),
        R.f (R.q 18 (.mov (R.t 5))),
        R.f (R.q 19 (.idx 3 (R.t 17) (R.t 18))),
        R.f (R.q 20 (.loadA 3 (R.t 19))),
        R.f (R.q 21 (.mov (R.t 1))),
        R.f (R.q 22 (.mov (R.t 5))),
        R.f (R.q 23 (.idx 3 (R.t 21) (R.t 22))),
        R.f (R.q 24 (.loadA 3 (R.t 23))),
        R.f (R.q 25 (.bin .neq (.agg [.i .i64, .i .i64, .i .i64]) (R.t 20) (R.t 24)))])
      (.cond (R.t 25)
        (.seq (.reg [R.q 4 (.mov R.ff)])
        .ret)
        .skip)))
     (.reg [R.q 15 (.mov (R.t 5)),
       R.q 16 (.bin .add .no (R.t 15) (R.i 1)),
       R.q 5 (.mov (R.t 16))]))))))
  (.seq (.reg [R.q 4 (.mov R.tt)])
  .ret))))
def r9_SameAcl.rs : List RRes := [.tmp 4]
theorem r9_SameAcl.of {xs : List AV} {d : Nat} {B : BL} {K : ARes → BL → Prop} (hn : xs.length = 2) (hB : onlyOuter B = true) (h : awp ⟨PT, 26, exitX r9_SameAcl.rs K⟩ 10000 [.code r9_SameAcl.rc] ⟨params 0 xs, B, .nil⟩) : CallAt PT r9_SameAcl xs d B K :=
  call_of_awp 10000 Try.func57 rfl (by kernel_rfl) (by kernel_rfl) (by kernel_rfl) (by rw [hn]; decide) hB h
abbrev degrade_teller_mode : Nat := 58
def degrade_teller_mode.rc : RC :=
  (.seq (.reg [R.q 1 (.box (R.t 0)),
    R.q 2 (.mov (R.i 0))])
  (.seq (.reg [R.q 8 (.fld 0 (R.t 1)),
    R.q 9 (.fld 2 (R.t 8)),
    R.q 10 (.loadA 14 (R.t 9)),
    R.q 3 (.alloc (.cons (R.z 0) (.cons (R.z 0) (.cons (R.z 0) (.cons (R.z 0) (.cons (R.z 0) (.cons .nsl (.cons .nsl (.cons .nsl (.cons (R.z 0) (.cons (.int .u64 fun _ => 0) (.cons (.int .u64 fun _ => 0) (.cons .ff (.cons (R.z 0) (.cons (R.z 0) .nil))))))))))))))),
    R.e (.store 14 (R.t 3) (R.t 10))])
  (.seq (.block 0 (.seq (.reg [R.q 12 (.fld 0 (R.t 1)),
     R.q 13 (.fld 1 (R.t 12)),
     R.q 14 (.load1 (R.t 13)),
     R.q 15 (.bin .eql .no (R.t 14) (R.i 3)),
     R.q 11 (.mov (R.t 15))])
   (.cond (R.t 11)
     (.seq (.reg [R.q 2 (.mov (R.i 511))])
     .ret)
     (.seq (.reg [R.q 17 (.loadA 25 (R.t 1)),
       R.q 18 (.call 59 [(R.t 17), (R.i 3), (R.i 2)]),
       R.q 16 (.mov (R.t 18))])
     (.cond (R.t 16)
       (.seq (.reg [R.q 20 (.loadA 14 (R.t 3)),
         R.q 21 (.call 18 [(R.t 20), R.ff]),
         R.q 19 (.mov (R.t 21)),
         R.q 22 (.ext 0 (R.t 19)),
         R.q 23 (.ext 1 (R.t 19)),
         R.q 4 (.mov (R.t 22)),
         R.q 5 (.mov (R.t 23))])
       (.seq (.reg [R.q 24 (.mov (R.t 4)),
         R.q 2 (.mov (R.t 24))])
       .ret))
       (.seq (.reg [R.q 26 (.loadA 25 (R.t 1)),
         R.q 27 (.call 59 [(R.t 26), (R.i 3), (R.i 1)]),
         R.q 28 (.un .not (R.t 27)),
         R.q 25 (.mov (R.t 28))])
       (.cond (R.t 25)
         (.seq (.seq (.reg [R.q 29 (.loadA 25 (R.t 1)),
           R.q 30 (.call 59 [(R.t 29), (R.i 10), (R.i 1)])])
         (.cond (R.t 30)
           (.seq (.reg [R.q 2 (.mov (R.i 0))])
           .ret)
           .skip))
         (.seq (.reg [R.q 31 (.fld 0 (R.t 1)),
           R.q 32 (.fld 1 (R.t 31)),
           R.q 33 (.load1 (R.t 32)),
           R.q 34 (.call 15 [(R.t 33)]),
           R.q 2 (.mov (R.t 34))])
         .ret))
         .skip)))))))
  (.seq (.reg [R.q 36 (.loadA 14 (R.t 3)),
    R.q 37 (.call 18 [(R.t 36), R.tt]),
    R.q 35 (.mov (R.t 37)),
    R.q 38 (.ext 0 (R.t 35)),
    R.q 39 (.ext 1 (R.t 35)),
    R.q 6 (.mov (R.t 38)),
    R.q 7 (.mov (R.t 39))])
  (.seq (.seq (.reg [R.q 40 (.loadA 25 (R.t 1)),
    R.q 41 (.call 59 [(R.t 40), (R.i 4), (R.i 1)])])
  (.cond (R.t 41)
    (.reg [R.q 42 (.fld 0 (R.t 3)),
      R.q 43 (.load1 (R.t 42)),
      R.q 6 (.mov (R.t 43))])
    .skip))
  (.seq (.seq (.reg [R.q 44 (.fld 0 (R.t 1)),
    R.q 45 (.fld 1 (R.t 44)),
    R.q 46 (.load1 (R.t 45)),
    R.q 47 (.bin .eql .no (R.t 46) (R.i 1)),
    R.q 48 (.mov (R.t 47)),
    R.g 49 (.fld 20 (R.t 1)) 48 true,
    R.g 50 (.loadA 4 (R.t 49)) 48 true,
    R.g 51 (.fld 2 (R.t 3)) 48 true,
    R.g 52 (.load1 (R.t 51)) 48 true,
    R.g 53 (.call 103 [(R.t 50), (R.t 52)]) 48 true,
    R.g 54 (.un .not (R.t 53)) 48 true,
    R.q 55 (.pick (R.t 48) (R.t 54) R.ff),
    R.q 56 (.mov (R.t 55)),
    R.g 57 (.fld 20 (R.t 1)) 56 true,
    R.g 58 (.fld 3 (R.t 57)) 56 true,
    R.g 59 (.load1 (R.t 58)) 56 true,
    R.g 60 (.bin .and .no (R.t 59) (R.i 4)) 56 true,
    R.g 61 (.bin .eql .no (R.t 60) (R.i 0)) 56 true,
    R.q 62 (.pick (R.t 56) (R.t 61) R.ff)])
  (.cond (R.t 62)
    (.reg [R.q 63 (.mov (R.t 6)),
      R.q 64 (.bin .andNot .no (R.t 63) (R.i 1024)),
      R.q 6 (.mov (R.t 64))])
    .skip))
  (.seq (.reg [R.q 65 (.mov (R.t 6)),
    R.q 2 (.mov (R.t 65))])
  .ret)))))))
def degrade_teller_mode.rs : List RRes := [.tmp 2]
theorem degrade_teller_mode.of {xs : List AV} {d : Nat} {B : BL} {K : ARes → BL → Prop} (hn : xs.length = 1) (hB : onlyOuter B = true) (h : awp ⟨PT, 66, exitX degrade_teller_mode.rs K⟩ 10000 [.code degrade_teller_mode.rc] ⟨params 0 xs, B, .nil⟩) : CallAt PT degrade_teller_mode xs d B K :=
  call_of_awp 10000 Try.func58 rfl (by kernel_rfl) (by kernel_rfl) (by kernel_rfl) (by rw [hn]; decide) hB h
abbrev degrade_teller_is : Nat := 59
def degrade_teller_is.rc : RC :=
  (.seq (.reg [R.q 3 (.box (R.t 0)),
    R.q 6 (.mov R.ff)])
  (.seq (.reg [R.q 7 (.fld 24 (R.t 3)),
    R.q 8 (.load1 (R.t 7)),
    R.q 9 (.fld 0 (R.t 3)),
    R.q 10 (.fld 0 (R.t 9)),
    R.q 11 (.load1 (R.t 10)),
    R.q 12 (.mov (R.t 1)),
    R.q 13 (.call 27 [(R.t 8), (R.t 11), (R.t 12)]),
    R.q 14 (.mov (R.t 2)),
    R.q 15 (.bin .eql .no (R.t 13) (R.t 14)),
    R.q 6 (.mov (R.t 15))])
  .ret))
def degrade_teller_is.rs : List RRes := [.tmp 6]
theorem degrade_teller_is.of {xs : List AV} {d : Nat} {B : BL} {K : ARes → BL → Prop} (hn : xs.length = 3) (hB : onlyOuter B = true) (h : awp ⟨PT, 16, exitX degrade_teller_is.rs K⟩ 10000 [.code degrade_teller_is.rc] ⟨params 0 xs, B, .nil⟩) : CallAt PT degrade_teller_is xs d B K :=
  call_of_awp 10000 Try.func59 rfl (by kernel_rfl) (by kernel_rfl) (by kernel_rfl) (by rw [hn]; decide) hB h
abbrev slices_Clone_api_Ace_api_Ace : Nat := 60
def slices_Clone_api_Ace_api_Ace.rc : RC :=
  (.seq (.reg [R.q 2 (.mov (.val .nsl))])
  (.seq (.seq (.reg [R.q 3 (.mov (R.t 0)),
    R.q 4 (.isNil true (R.t 3))])
  (.cond (R.t 4)
    (.seq (.reg [R.q 2 (.mov (.val .nsl))])
    .ret)
    .skip))
  (.seq (.reg [R.q 5 (.bslice 3 (.cons (R.z 0) (.cons (R.z 0) (.cons (R.z 0) .nil))) 0 []),
    R.q 6 (.mov (R.t 0)),
    R.q 7 (.append 3 24 (R.t 5) (R.t 6)),
    R.q 2 (.mov (R.t 7))])
  .ret)))
def slices_Clone_api_Ace_api_Ace.rs : List RRes := [.tmp 2]
theorem slices_Clone_api_Ace_api_Ace.of {xs : List AV} {d : Nat} {B : BL} {K : ARes → BL → Prop} (hn : xs.length = 1) (hB : onlyOuter B = true) (h : awp ⟨PT, 8, exitX slices_Clone_api_Ace_api_Ace.rs K⟩ 10000 [.code slices_Clone_api_Ace_api_Ace.rc] ⟨params 0 xs, B, .nil⟩) : CallAt PT slices_Clone_api_Ace_api_Ace xs d B K :=
  call_of_awp 10000 Try.func60 rfl (by kernel_rfl) (by kernel_rfl) (by kernel_rfl) (by rw [hn]; decide) hB h
abbrev slices_Clone_api_Xattr_api_Xattr : Nat := 61
def slices_Clone_api_Xattr_api_Xattr.rc : RC :=
  (.seq (.reg [R.q 2 (.mov (.val .nsl))])
  (.seq (.seq (.reg [R.q 3 (.mov (R.t 0)),
    R.q 4 (.isNil true (R.t 3))])
  (.cond (R.t 4)
    (.seq (.reg [R.q 2 (.mov (.val .nsl))])
    .ret)
    .skip))
  (.seq (.reg [R.q 5 (.bslice 2 (.cons (.str fun _ => []) (.cons (.str fun _ => []) .nil)) 0 []),
    R.q 6 (.mov (R.t 0)),
    R.q 7 (.append 2 32 (R.t 5) (R.t 6)),
    R.q 2 (.mov (R.t 7))])
  .ret)))
def slices_Clone_api_Xattr_api_Xattr.rs : List RRes := [.tmp 2]
theorem slices_Clone_api_Xattr_api_Xattr.of {xs : List AV} {d : Nat} {B : BL} {K : ARes → BL → Prop} (hn : xs.length = 1) (hB : onlyOuter B = true) (h : awp ⟨PT, 8, exitX slices_Clone_api_Xattr_api_Xattr.rs K⟩ 10000 [.code slices_Clone_api_Xattr_api_Xattr.rc] ⟨params 0 xs, B, .nil⟩) : CallAt PT slices_Clone_api_Xattr_api_Xattr xs d B K :=
  call_of_awp 10000 Try.func61 rfl (by kernel_rfl) (by kernel_rfl) (by kernel_rfl) (by rw [hn]; decide) hB h
abbrev r18_In : Nat := 62
def r18_In.rc : RC :=
  (.seq (.reg [R.q 2 (.box (R.t 0)),
    R.q 4 (.mov R.ff)])
  (.seq (.reg [R.q 7 (.fld 1 (R.t 2)),
    R.q 8 (.load1 (R.t 7)),
    R.q 9 (.mov (R.t 1)),
    R.q 10 (.bin .eql .no (R.t 8) (R.t 9)),
    R.q 5 (.mov (R.t 10))])
  (.seq (.seq (.reg [R.q 6 (.mov (R.i 0))])
  (.block 0 (.loop
     (.seq (.seq (.reg [R.q 11 (.mov (R.t 6)),
       R.q 12 (.fld 2 (R.t 2)),
       R.q 13 (.load1 (R.t 12)),
       R.q 14 (.len (R.t 13)),
       R.q 15 (.bin .lss .no (R.t 11) (R.t 14))])
     (.cond (R.t 15)
       .skip
       (.exit 0)))
     (.seq (.block 1 (.reg [R.q 18 (.mov (R.t 5)),
        R.q 19 (.mov (R.t 18)),
        R.g 20 (.fld 2 (R.t 2)) 19 false,
        R.g 21 (.load1 (R.t 20)) 19 false,
        R.g 22 (.mov (R.t 6)) 19 false,
        R.g 23 (.idx 1 (R.t 21) (R.t 22)) 19 false,
        R.g 24 (.load1 (R.t 23)) 19 false,
        R.g 25 (.mov (R.t 1)) 19 false,
        R.g 26 (.bin .eql .no (R.t 24) (R.t 25)) 19 false,
        R.q 27 (.pick (R.t 19) R.tt (R.t 26)),
        R.q 5 (.mov (R.t 27))]))
     (.reg [R.q 16 (.mov (R.t 6)),
       R.q 17 (.bin .add .no (R.t 16) (R.i 1)),
       R.q 6 (.mov (R.t 17))]))))))
  (.seq (.reg [R.q 28 (.mov (R.t 5)),
    R.q 4 (.mov (R.t 28))])
  .ret))))
def r18_In.rs : List RRes := [.tmp 4]
theorem r18_In.of {xs : List AV} {d : Nat} {B : BL} {K : ARes → BL → Prop} (hn : xs.length = 2) (hB : onlyOuter B = true) (h : awp ⟨PT, 29, exitX r18_In.rs K⟩ 10000 [.code r18_In.rc] ⟨params 0 xs, B, .nil⟩) : CallAt PT r18_In xs d B K :=
  call_of_awp 10000 Try.func62 rfl (by kernel_rfl) (by kernel_rfl) (by kernel_rfl) (by rw [hn]; decide) hB h
abbrev r9_id : Nat := 64
def r9_id.rc : RC :=
  (.seq (.reg [R.q 2 (.mov R.ff)])
  (.seq (.reg [R.q 3 (.mov (R.t 0)),
    R.q 4 (.bin .geq .no (R.t 3) (R.i 0)),
    R.q 5 (.mov (R.t 4)),
    R.g 6 (.mov (R.t 0)) 5 true,
    R.g 7 (.bin .leq .no (R.t 6) (R.i 2147483647)) 5 true,
    R.q 8 (.pick (R.t 5) (R.t 7) R.ff),
    R.q 2 (.mov (R.t 8))])
  .ret))
def r9_id.rs : List RRes := [.tmp 2]
theorem r9_id.of {xs : List AV} {d : Nat} {B : BL} {K : ARes → BL → Prop} (hn : xs.length = 1) (hB : onlyOuter B = true) (h : awp ⟨PT, 9, exitX r9_id.rs K⟩ 10000 [.code r9_id.rc] ⟨params 0 xs, B, .nil⟩) : CallAt PT r9_id xs d B K :=
  call_of_awp 10000 Try.func64 rfl (by kernel_rfl) (by kernel_rfl) (by kernel_rfl) (by rw [hn]; decide) hB h
abbrev r1_MayStamp : Nat := 65
def r1_MayStamp.rc : RC :=
  (.seq (.reg [R.q 1 (.box (R.t 0)),
    R.q 2 (.mov R.ff)])
  (.seq (.reg [R.q 3 (.fld 0 (R.t 1)),
    R.q 4 (.load1 (R.t 3)),
    R.q 5 (.bin .geq .no (R.t 4) (R.i (-1099511627776))),
    R.q 6 (.mov (R.t 5)),
    R.g 7 (.fld 0 (R.t 1)) 6 true,
    R.g 8 (.load1 (R.t 7)) 6 true,
    R.g 9 (.bin .leq .no (R.t 8) (R.i 1099511627776)) 6 true,
    R.q 10 (.pick (R.t 6) (R.t 9) R.ff),
    R.q 11 (.mov (R.t 10)),
    R.g 12 (.fld 1 (R.t 1)) 11 true,
    R.g 13 (.load1 (R.t 12)) 11 true,
    R.g 14 (.bin .geq .no (R.t 13) (R.i 0)) 11 true,
    R.q 15 (.pick (R.t 11) (R.t 14) R.ff),
    R.q 16 (.mov (R.t 15)),
    R.g 17 (.fld 1 (R.t 1)) 16 true,
    R.g 18 (.load1 (R.t 17)) 16 true,
    R.g 19 (.bin .leq .no (R.t 18) (R.i 999999999)) 16 true,
    R.q 20 (.pick (R.t 16) (R.t 19) R.ff),
    R.q 2 (.mov (R.t 20))])
  .ret))
def r1_MayStamp.rs : List RRes := [.tmp 2]
theorem r1_MayStamp.of {xs : List AV} {d : Nat} {B : BL} {K : ARes → BL → Prop} (hn : xs.length = 1) (hB : onlyOuter B = true) (h : awp ⟨PT, 21, exitX r1_MayStamp.rs K⟩ 10000 [.code r1_MayStamp.rc] ⟨params 0 xs, B, .nil⟩) : CallAt PT r1_MayStamp xs d B K :=
  call_of_awp 10000 Try.func65 rfl (by kernel_rfl) (by kernel_rfl) (by kernel_rfl) (by rw [hn]; decide) hB h
abbrev r9_MayFlags : Nat := 66
def r9_MayFlags.rc : RC :=
  (.seq (.reg [R.q 2 (.mov R.ff)])
  (.seq (.reg [R.q 3 (.mov (R.t 0)),
    R.q 4 (.bin .geq .no (R.t 3) (R.i 0)),
    R.q 5 (.mov (R.t 4)),
    R.g 6 (.mov (R.t 0)) 5 true,
    R.g 7 (.bin .leq .no (R.t 6) (R.i 15)) 5 true,
    R.q 8 (.pick (R.t 5) (R.t 7) R.ff),
    R.q 2 (.mov (R.t 8))])
  .ret))
def r9_MayFlags.rs : List RRes := [.tmp 2]
theorem r9_MayFlags.of {xs : List AV} {d : Nat} {B : BL} {K : ARes → BL → Prop} (hn : xs.length = 1) (hB : onlyOuter B = true) (h : awp ⟨PT, 9, exitX r9_MayFlags.rs K⟩ 10000 [.code r9_MayFlags.rc] ⟨params 0 xs, B, .nil⟩) : CallAt PT r9_MayFlags xs d B K :=
  call_of_awp 10000 Try.func66 rfl (by kernel_rfl) (by kernel_rfl) (by kernel_rfl) (by rw [hn]; decide) hB h
abbrev r9_MayXattrs : Nat := 67
def r9_MayXattrs.rc : RC :=
  (.seq (.reg [R.q 2 (.mov R.ff)])
  (.seq (.seq (.reg [R.q 3 (.mov (R.i 0))])
  (.block 0 (.loop
     (.seq (.seq (.reg [R.q 5 (.mov (R.t 3)),
       R.q 6 (.mov (R.t 0)),
       R.q 7 (.len (R.t 6)),
       R.q 8 (.bin .lss .no (R.t 5) (R.t 7))])
     (.cond (R.t 8)
       .skip
       (.exit 0)))
     (.seq (.block 1 (.seq (.reg [R.q 11 (.mov (R.t 0)),
        R.q 12 (.mov (R.t 3)),
        R.q 13 (.idx 2 (R.t 11) (R.t 12)),
        R.q 14 (.fld 0 (R.t 13)),
        R.q 15 (.load1 (R.t 14)),
        R.q 4 (.mov (R.t 15))])
      (.seq (.reg [R.q 16 (.mov (R.t 4)),
        R.q 17 (.lenS (R.t 16)),
        R.q 18 (.bin .eql .no (R.t 17) (R.i 0)),
        R.q 19 (.mov (R.t 18)),
        R.g 20 (.mov (R.t 4)) 19 false,
        R.g 21 (.lenS (R.t 20)) 19 false,
        R.g 22 (.bin .gtr .no (R.t 21) (R.i 238)) 19 false,
        R.q 23 (.pick (R.t 19) R.tt (R.t 22)),
        R.q 24 (.mov (R.t 23)),
        R.g 25 (.mov (R.t 4)) 24 false,
        R.g 26 (.call 105 [(R.t 25), (.val (.str fun _ => [0]))]) 24 false,
        R.q 27 (.pick (R.t 24) R.tt (R.t 26)),
        R.q 28 (.mov (R.t 27)),
        R.g 29 (.mov (R.t 4)) 28 false,
        R.g 30 (.call 106 [(R.t 29)]) 28 false,
        R.g 31 (.lenS (R.t 30)) 28 false,
        R.g 32 (.bin .gtr .no (R.t 31) (R.i 238)) 28 false,
        R.q 33 (.pick (R.t 28) R.tt (R.t 32)),
        R.q 34 (.mov (R.t 33)),
        R.g 35 (.mov (R.t 0)) 34 false,
        R.g 36 (.mov (R.t 3)) 34 false,
        R.g 37 (.idx 2 (R.t 35) (R.t 36)) 34 false,
        R.g 38 (.fld 1 (R.t 37)) 34 false,
        R.g 39 (.load1 (R.t 38)) 34 false,
        R.g 40 (.lenS (R.t 39)) 34 false,
        R.g 41 (.bin .gtr .no (R.t 40) (R.i 4096)) 34 false,
        R.q 42 (.pick (R.t 34) R.tt (R.t 41)),
        R.q 43 (.mov (R.t 42)),
        R.g 44 (.mov (R.t 3)) 43 false,
        R.g 45 (.bin .gtr .no (R.t 44) (R.i 0)) 43 false,
        R.g 46 (.mov (R.t 45)) 43 false,
        R.g 47 (.mov (R.t 4)) 46 true,
        R.g 48 (.mov (R.t 0)) 46 true,
        R.g 49 (.mov (R.t 3)) 46 true,
        R.g 50 (.bin .sub .no (R.t 49) (R.i 1)) 46 true,
        R.g 51 (.idx 2 (R.t 48) (R.t 50)) 46 true,
        R.g 52 (.fld 0 (R.t 51)) 46 true,
        R.g 53 (.load1 (R.t 52)) 46 true,
        R.g 54 (.bin .leq .no (R.t 47) (R.t 53)) 46 true,
        R.g 55 (.pick (R.t 46) (R.t 54) R.ff) 43 false,
        R.q 56 (.pick (R.t 43) R.tt (R.t 55))])
      (.cond (R.t 56)
        (.seq (.reg [R.q 2 (.mov R.ff)])
        .ret)
        .skip))))
     (.reg [R.q 9 (.mov (R.t 3)),
       R.q 10 (.bin .add .no (R.t 9) (R.i 1)),
       R.q 3 (.mov (R.t 10))]))))))
  (.seq (.reg [R.q 57 (.mov (R.t 0)),
    R.q 58 (.len (R.t 57)),
    R.q 59 (.bin .leq .no (R.t 58) (R.i 32)),
    R.q 2 (.mov (R.t 59))])
  .ret)))
def r9_MayXattrs.rs : List RRes := [.tmp 2]
theorem r9_MayXattrs.of {xs : List AV} {d : Nat} {B : BL} {K : ARes → BL → Prop} (hn : xs.length = 1) (hB : onlyOuter B = true) (h : awp ⟨PT, 60, exitX r9_MayXattrs.rs K⟩ 10000 [.code r9_MayXattrs.rc] ⟨params 0 xs, B, .nil⟩) : CallAt PT r9_MayXattrs xs d B K :=
  call_of_awp 10000 Try.func67 rfl (by kernel_rfl) (by kernel_rfl) (by kernel_rfl) (by rw [hn]; decide) hB h
abbrev r9_MayAcl : Nat := 68
def r9_MayAcl.rc : RC :=
  (.seq (.reg [R.q 2 (.mov R.ff)])
  (.seq (.seq (.reg [R.q 6 (.mov (R.t 0)),
    R.q 7 (.len (R.t 6)),
    R.q 8 (.bin .lss .no (R.t 7) (R.i 3)),
    R.q 9 (.mov (R.t 8)),
    R.g 10 (.mov (R.t 0)) 9 false,
    R.g 11 (.len (R.t 10)) 9 false,
    R.g 12 (.bin .gtr .no (R.t 11) (R.i 32)) 9 false,
    R.q 13 (.pick (R.t 9) R.tt (R.t 12))])
  (.cond (R.t 13)
    (.seq (.reg [R.q 2 (.mov R.ff)])
    .ret)
    .skip))
  (.seq (.reg [R.q 14 (.mks 1 8 (.cons (R.z 0) .nil) (R.i 7) (R.i 7)),
    R.q 3 (.mov (R.t 14))])
  (.seq (.seq (.reg [R.q 4 (.mov (R.i 0))])
  (.block 0 (.loop
     (.seq (.seq (.reg [R.q 15 (.mov (R.t 4)),
       R.q 16 (.mov (R.t 0)),
       R.q 17 (.len (R.t 16)),
       R.q 18 (.bin .lss .no (R.t 15) (R.t 17))])
     (.cond (R.t 18)
       .skip
       (.exit 0)))
     (.seq (.block 1 (.seq (.reg [R.q 21 (.mov (R.t 0)),
        R.q 22 (.mov (R.t 4)),
        R.q 23 (.idx 3 (R.t 21) (R.t 22)),
        R.q 24 (.loadA 3 (R.t 23)),
        R.q 5 (.alloc (.cons (R.z 0) (.cons (R.z 0) (.cons (R.z 0) .nil)))),
        R.e (.store 3 (R.t 5) (R.t 24))])
      (.seq (.seq (.reg [R.q 25 (.fld 0 (R.t 5)),
        R.q 26 (.load1 (R.t 25)),
        R.q 27 (.bin .lss .no (R.t 26) (R.i 1)),
        R.q 28 (.mov (R.t 27)),
        R.g 29 (.fld 0 (R.t 5)) 28 false,
        R.g 30 (.load1 (R.t 29)) 28 false,
        R.g 31 (.bin .gtr .no (R.t 30) (R.i 6)) 28 false,
        R.q 32 (.pick (R.t 28) R.tt (R.t 31)),
        R.q 33 (.mov (R.t 32)),
        R.g 34 (.fld 2 (R.t 5)) 33 false,
        R.g 35 (.load1 (R.t 34)) 33 false,
        R.g 36 (.bin .lss .no (R.t 35) (R.i 0)) 33 false,
        R.q 37 (.pick (R.t 33) R.tt (R.t 36)),
        R.q 38 (.mov (R.t 37)),
        R.g 39 (.fld 2 (R.t 5)) 38 false,
        R.g 40 (.load1 (R.t 39)) 38 false,
        R.g 41 (.bin .gtr .no (R.t 40) (R.i 7)) 38 false,
        R.q 42 (.pick (R.t 38) R.tt (R.t 41)),
        R.q 43 (.mov (R.t 42)),
        R.g 44 (.fld 1 (R.t 5)) 43 false,
        R.g 45 (.load1 (R.t 44)) 43 false,
        R.g 46 (.bin .lss .no (R.t 45) (R.i 0)) 43 false,
        R.q 47 (.pick (R.t 43) R.tt (R.t 46)),
        R.q 48 (.mov (R.t 47)),
        R.g 49 (.fld 1 (R.t 5)) 48 false,
        R.g 50 (.load1 (R.t 49)) 48 false,
        R.g 51 (.bin .gtr .no (R.t 50) (R.i 2147483647)) 48 false,
        R.q 52 (.pick (R.t 48) R.tt (R.t 51)),
        R.q 53 (.mov (R.t 52)),
        R.g 54 (.loadA 3 (R.t 5)) 53 false,
        R.g 55 (.call 107 [(R.t 54)]) 53 false,
        R.g 56 (.un .not (R.t 55)) 53 false,
        R.g 57 (.mov (R.t 56)) 53 false,
        R.g 58 (.fld 1 (R.t 5)) 57 true,
        R.g 59 (.load1 (R.t 58)) 57 true,
        R.g 60 (.bin .neq .no (R.t 59) (R.i 0)) 57 true,
        R.g 61 (.pick (R.t 57) (R.t 60) R.ff) 53 false,
        R.q 62 (.pick (R.t 53) R.tt (R.t 61))])
      (.cond (R.t 62)
        (.seq (.reg [R.q 2 (.mov R.ff)])
        .ret)
        .skip))
      (.seq (.seq (.regd [R.f (R.q 63 (.mov (R.t 4))),
        R.f (R.q 64 (.bin .gtr .no (R.t 63) (R.i 0))),
        R.f (R.q 65 (.mov (R.t 64))),
        R.f (R.g 66 (.fld 0 (R.t 5)) 65 true),
        R.f (R.g 67 (.load1 (R.t 66)) 65 true),
        R.f (R.g 68 (.mov (R.t 0)) 65 true),
        R.f (R.g 69 (.mov (R.t 4)) 65 true),
        R.f (R.g 70 (.bin .sub .no (R.t 69) (R.i 1)) 65 true),
        R.f (R.g 71 (.idx 3 (R.t 68) (R.t 70)) 65 true),
        R.f (R.g 72 (.fld 0 (R.t 71)) 65 true),
        R.f (R.g 73 (.load1 (R.t 72)) 65 true),
        R.f (R.g 74 (.bin .lss .no (R.t 67) (R.t 73)) 65 true),
        R.f (R.g 75 (.mov (R.t 74)) 65 true),
        R.f (R.g 76 (.fld 0 (R.t 5)) 75 false),
        R.f (R.g 77 (.load1 (R.t 76)) 75 false),
        R.f (R.g 78 (.mov (R.t 0)) 75 false),
        R.f (R.g 79 (.mov (R.t 4)) 75 false),
        R.f (R.g 80 (.bin .sub .no (R.t 79) (R.i 1)) 75 false),
        R.f (R.g 81 (.idx 3 (R.t 78) (R.t 80)) 75 false),
        R.f (R.g 82 (.fld 0 (R.t 81)) 75 false),
        R.f (R.g 83 (.load1 (R.t 82)) 75 false),
        R.f (R.g 84 (.bin .eql .no (R.t 77) (R.t 83)) 75 false),
        R.f (R.g 85 (.mov (R.t 84)) 75 false),
        R.f (R.g 86 (.loadA 3 (R.t 5)) 85 true),
        R.s (R.g 87 (.call 107 [(R.t 86)]) 85 true) [],
        R.f (R.g 88 (.un .not (R.t 87)) 85 true),
        R.f (R.g 89 (.mov (R.t 88)) 85 true),
        R.f (R.g 90 (.fld 1 (R.t 5)) 89 false),
        R.f (R.g 91 (.load1 (R.t 90)) 89 false),
        R.f (R.g 92 (.mov (R.t 0)) 89 false),
        R.f (R.g 93 (.mov (R.t 4)) 89 false),
        R.f (R.g 94 (.bin .sub .no (R.t 93) (R.i 1)) 89 false),
        R.f (R.g 95 (.idx 3 (R.t 92) (R.t 94)) 89 false),
        R.f (R.g 96 (.fld 1 (R.t 95)) 89 false),
        R.f (R.g 97 (.load1 (R.t 96)) 89 false),
        R.f (R.g 98 (.bin .leq .no (R.t 91) (R.t 97)) 89 false),
        R.f (R.g 99 (.pick (R.t 89) R.tt (R.t 98)) 85 true),
        R.f (R.g 100 (.pick (R.t 85) (R.t 99) R.ff) 75 false),
        R.f (R.g 101 (.pick (R.t 75) R.tt (R.t 100)) 65 true),
        R.f (R.q 102 (.pick (R.t 65) (R.t 101) R.ff))])
      (.cond (R.t 102)
        (.seq (.reg [R.q 2 (.mov R.ff)])
        .ret)
        .skip))
      (.reg [R.q 103 (.mov (R.t 3)),
        R.q 104 (.fld 0 (R.t 5)),
        R.q 105 (.load1 (R.t 104)),
        R.q 106 (.idx 1 (R.t 103) (R.t 105)),
        R.q 107 (.load1 (R.t 106)),
        R.q 108 (.bin .add .no (R.t 107) (R.i 1)),
        R.q 109 (.idx 1 (R.t 103) (R.t 105)),
        R.e (.store 1 (R.t 109) (R.t 108))])))))
     (.reg [R.q 19 (.mov (R.t 4)),
       R.q 20 (.bin .add .no (R.t 19) (R.i 1)),
       R.q 4 (.mov (R.t 20))]))))))
  (.seq (.regd [R.f (R.q 110 (.mov (R.t 3))),
    R.f (R.q 111 (.idx 1 (R.t 110) (R.i 1))),
    R.f (R.q 112 (.load1 (R.t 111))),
    R.f (R.q 113 (.bin .eql .no (R.t 112) (R.i 1))),
    R.f (R.q 114 (.mov (R.t 113))),
    R.f (R.g 115 (.mov (R.t 3)) 114 true),
    R.f (R.g 116 (.idx 1 (R.t 115) (R.i 3)) 114 true),
    R.f (R.g 117 (.load1 (R.t 116)) 114 true),
    R.f (R.g 118 (.bin .eql .no (R.t 117) (R.i 1)) 114 true),
    R.f (R.q 119 (.pick (R.t 114) (R.t 118) R.ff)),
    R.f (R.q 120 (.mov (R.t 119))),
    R.f (R.g 121 (.mov (R.t 3)) 120 true),
    R.f (R.g 122 (.idx 1 (R.t 121) (R.i 6)) 120 true),
    R.f (R.g 123 (.load1 (R.t 122)) 120 true),
    R.f (R.g 124 (.bin .eql .no (R.t 123) (R.i 1)) 120 true),
    R.f (R.q 125 (.pick (R.t 120) (R.t 124) R.ff)),
    R.f (R.q 126 (.mov (R.t 125))),
    R.f (R.g 127 (.mov (R.t 3)) 126 true),
    R.f (R.g 128 (.idx 1 (R.t 127) (R.i 5)) 126 true),
    R.f (R.g 129 (.load1 (R.t 128)) 126 true),
    R.f (R.g 130 (.bin .eql .no (R.t 129) (R.i 1)) 126 true),
    R.f (R.g 131 (.mov (R.t 3)) 126 true),
    R.f (R.g 132 (.idx 1 (R.t 131) (R.i 2)) 126 true),
    R.f (R.g 133 (.load1 (R.t 132)) 126 true),
    R.f (R.g 134 (.mov (R.t 3)) 126 true),
    R.f (R.g 135 (.idx 1 (R.t 134) (R.i 4)) 126 true),
    R.f (R.g 136 (.load1 (R.t 135)) 126 true),
    R.f (R.g 137 (.bin .add .no (R.t 133) (R.t 136)) 126 true),
    R.f (R.g 138 (.bin .gtr .no (R.t 137) (R.i 0)) 126 true),
    R.f (R.g 139 (.bin .eql .bool (R.t 130) (R.t 138)) 126 true),
    R.f (R.q 140 (.pick (R.t 126) (R.t 139) R.ff)),
    R.s (R.q 2 (.mov (R.t 140))) []])
  .ret)))))
def r9_MayAcl.rs : List RRes := [.tmp 2]
theorem r9_MayAcl.of {xs : List AV} {d : Nat} {B : BL} {K : ARes → BL → Prop} (hn : xs.length = 1) (hB : onlyOuter B = true) (h : awp ⟨PT, 141, exitX r9_MayAcl.rs K⟩ 10000 [.code r9_MayAcl.rc] ⟨params 0 xs, B, .nil⟩) : CallAt PT r9_MayAcl xs d B K :=
  call_of_awp 10000 Try.func68 rfl (by kernel_rfl) (by kernel_rfl) (by kernel_rfl) (by rw [hn]; decide) hB h
abbrev r9_ModeAcl : Nat := 69
def r9_ModeAcl.rc : RC :=
  (.seq (.reg [R.q 2 (.mov (R.i 0))])
  (.seq (.reg [R.q 4 (.mov (R.t 0)),
    R.q 5 (.call 99 [(R.t 4), (R.i 5)]),
    R.q 3 (.mov (R.t 5))])
  (.seq (.seq (.reg [R.q 6 (.mov (R.t 3)),
    R.q 7 (.bin .lss .no (R.t 6) (R.i 0))])
  (.cond (R.t 7)
    (.reg [R.q 8 (.mov (R.t 0)),
      R.q 9 (.call 99 [(R.t 8), (R.i 3)]),
      R.q 3 (.mov (R.t 9))])
    .skip))
  (.seq (.reg [R.q 10 (.mov (R.t 0)),
    R.q 11 (.call 99 [(R.t 10), (R.i 1)]),
    R.q 12 (.bin .mul .no (R.t 11) (R.i 64)),
    R.q 13 (.mov (R.t 3)),
    R.q 14 (.bin .mul .no (R.t 13) (R.i 8)),
    R.q 15 (.bin .add .no (R.t 12) (R.t 14)),
    R.q 16 (.mov (R.t 0)),
    R.q 17 (.call 99 [(R.t 16), (R.i 6)]),
    R.q 18 (.bin .add .no (R.t 15) (R.t 17)),
    R.q 2 (.mov (R.t 18))])
  .ret))))
def r9_ModeAcl.rs : List RRes := [.tmp 2]
theorem r9_ModeAcl.of {xs : List AV} {d : Nat} {B : BL} {K : ARes → BL → Prop} (hn : xs.length = 1) (hB : onlyOuter B = true) (h : awp ⟨PT, 19, exitX r9_ModeAcl.rs K⟩ 10000 [.code r9_ModeAcl.rc] ⟨params 0 xs, B, .nil⟩) : CallAt PT r9_ModeAcl xs d B K :=
  call_of_awp 10000 Try.func69 rfl (by kernel_rfl) (by kernel_rfl) (by kernel_rfl) (by rw [hn]; decide) hB h
abbrev r9_MayCaps : Nat := 70
def r9_MayCaps.rc : RC :=
  (.seq (.reg [R.q 1 (.box (R.t 0)),
    R.q 2 (.mov R.ff)])
  (.seq (.seq (.reg [R.q 3 (.fld 0 (R.t 1)),
    R.q 4 (.load1 (R.t 3))])
  (.block 0 (.seq (.reg [R.q 6 (.bin .eql .no (R.t 4) (R.i 0)),
     R.q 5 (.mov (R.t 6))])
   (.cond (R.t 5)
     (.seq (.reg [R.q 7 (.loadA 5 (R.t 1)),
       R.q 8 (.build (.cons (R.z 0) (.cons (.int .u64 fun _ => 0) (.cons (.int .u64 fun _ => 0) (.cons .ff (.cons (R.z 0) .nil))))) []),
       R.q 9 (.bin .eql (.agg [.i .i64, .i .u64, .i .u64, .b, .i .i64]) (R.t 7) (R.t 8)),
       R.q 2 (.mov (R.t 9))])
     .ret)
     (.seq (.reg [R.q 11 (.bin .eql .no (R.t 4) (R.i 2)),
       R.q 10 (.mov (R.t 11))])
     (.cond (R.t 10)
       (.seq (.reg [R.q 12 (.fld 4 (R.t 1)),
         R.q 13 (.load1 (R.t 12)),
         R.q 14 (.bin .eql .no (R.t 13) (R.i 0)),
         R.q 2 (.mov (R.t 14))])
       .ret)
       (.seq (.reg [R.q 16 (.bin .eql .no (R.t 4) (R.i 3)),
         R.q 15 (.mov (R.t 16))])
       (.cond (R.t 15)
         (.seq (.reg [R.q 17 (.fld 4 (R.t 1)),
           R.q 18 (.load1 (R.t 17)),
           R.q 19 (.bin .geq .no (R.t 18) (R.i 0)),
           R.q 20 (.mov (R.t 19)),
           R.g 21 (.fld 4 (R.t 1)) 20 true,
           R.g 22 (.load1 (R.t 21)) 20 true,
           R.g 23 (.bin .leq .no (R.t 22) (R.i 2147483647)) 20 true,
           R.q 24 (.pick (R.t 20) (R.t 23) R.ff),
           R.q 2 (.mov (R.t 24))])
         .ret)
         .skip))))))))
  (.seq (.reg [R.q 2 (.mov R.ff)])
  .ret)))
def r9_MayCaps.rs : List RRes := [.tmp 2]
theorem r9_MayCaps.of {xs : List AV} {d : Nat} {B : BL} {K : ARes → BL → Prop} (hn : xs.length = 1) (hB : onlyOuter B = true) (h : awp ⟨PT, 25, exitX r9_MayCaps.rs K⟩ 10000 [.code r9_MayCaps.rc] ⟨params 0 xs, B, .nil⟩) : CallAt PT r9_MayCaps xs d B K :=
  call_of_awp 10000 Try.func70 rfl (by kernel_rfl) (by kernel_rfl) (by kernel_rfl) (by rw [hn]; decide) hB h
abbrev right_look_int : Nat := 94
def right_look_int.rc : RC :=
  (.seq (.reg [R.q 2 (.alloc (.cons (R.z 0) .nil))])
  (.seq (.reg [R.q 3 (.mkfn (.func 122) [] [(R.t 2)]),
    R.e (.defer (R.t 3) [])])
  (.seq (.reg [R.q 4 (.mov (R.t 0)),
    R.q 5 (.callv (R.t 4) []),
    R.e (.store 1 (R.t 2) (R.t 5))])
  .ret)))
def right_look_int.rs : List RRes := [.cell1 2]
theorem right_look_int.of {xs : List AV} {d : Nat} {B : BL} {K : ARes → BL → Prop} (hn : xs.length = 1) (hB : onlyOuter B = true) (h : awp ⟨PT, 6, exitD PT right_look_int.rs K⟩ 10000 [.code right_look_int.rc] ⟨params 0 xs, B, .nil⟩) : CallAt PT right_look_int xs d B K :=
  call_of_awp_d 10000 Try.func94 rfl (by kernel_rfl) (by kernel_rfl) (by kernel_rfl) (by rw [hn]; decide) hB h
abbrev right_Less_1 : Nat := 95
def right_Less_1.rc : RC :=
  (.seq (.reg [R.q 1 (.mov (R.i 0))])
  (.seq (.reg [R.q 8 (.loadA 14 (R.t 0)),
    R.q 9 (.call 96 [(R.t 8)]),
    R.q 2 (.mov (R.t 9))])
  (.seq (.reg [R.q 10 (.mov (R.t 2)),
    R.q 11 (.call 97 [(R.t 10)]),
    R.q 3 (.mov (R.t 11))])
  (.seq (.reg [R.q 12 (.mov (R.t 2)),
    R.q 13 (.call 98 [(R.t 12), (R.i 3)]),
    R.q 14 (.mov (R.t 3)),
    R.q 15 (.bin .and .no (R.t 13) (R.t 14)),
    R.q 16 (.mov (R.t 2)),
    R.q 17 (.call 98 [(R.t 16), (R.i 6)]),
    R.q 4 (.mov (R.t 15)),
    R.q 5 (.mov (R.t 17))])
  (.seq (.seq (.reg [R.q 18 (.mov (R.t 2)),
    R.q 19 (.len (R.t 18)),
    R.q 20 (.mov (R.i 0))])
  (.block 0 (.loop
     (.seq (.reg [R.q 21 (.bin .lss .no (R.t 20) (R.t 19))])
     (.seq (.cond (R.t 21)
       .skip
       (.exit 0))
     (.seq (.block 1 (.seq (.reg [R.q 22 (.idx 3 (R.t 18) (R.t 20)),
        R.q 23 (.loadA 3 (R.t 22)),
        R.q 7 (.alloc (.cons (R.z 0) (.cons (R.z 0) (.cons (R.z 0) .nil)))),
        R.e (.store 3 (R.t 7) (R.t 23))])
      (.seq (.reg [R.q 24 (.fld 0 (R.t 7)),
        R.q 25 (.load1 (R.t 24))])
      (.block 2 (.seq (.reg [R.q 27 (.bin .eql .no (R.t 25) (R.i 2)),
         R.q 26 (.mov (R.t 27))])
       (.cond (R.t 26)
         (.seq (.reg [R.q 28 (.mov (R.t 4)),
           R.q 29 (.fld 2 (R.t 7)),
           R.q 30 (.load1 (R.t 29)),
           R.q 31 (.mov (R.t 3)),
           R.q 32 (.bin .and .no (R.t 30) (R.t 31)),
           R.q 33 (.bin .and .no (R.t 28) (R.t 32)),
           R.q 4 (.mov (R.t 33))])
         (.reg [R.q 34 (.mov (R.t 5)),
           R.q 35 (.fld 2 (R.t 7)),
           R.q 36 (.load1 (R.t 35)),
           R.q 37 (.mov (R.t 3)),
           R.q 38 (.bin .and .no (R.t 36) (R.t 37)),
           R.q 39 (.bin .and .no (R.t 34) (R.t 38)),
           R.q 5 (.mov (R.t 39))]))
         (.seq (.reg [R.q 41 (.bin .eql .no (R.t 25) (R.i 4)),
           R.q 40 (.mov (R.t 41))])
         (.cond (R.t 40)
           (.reg [R.q 42 (.mov (R.t 5)),
             R.q 43 (.fld 2 (R.t 7)),
             R.q 44 (.load1 (R.t 43)),
             R.q 45 (.mov (R.t 3)),
             R.q 46 (.bin .and .no (R.t 44) (R.t 45)),
             R.q 47 (.bin .and .no (R.t 42) (R.t 46)),
             R.q 5 (.mov (R.t 47))])
           .skip))))))))
     (.reg [R.q 48 (.bin .add .no (R.t 20) (R.i 1)),
       R.q 20 (.mov (R.t 48))])))))))
  (.seq (.reg [R.q 49 (.mov (R.t 2)),
    R.q 50 (.call 98 [(R.t 49), (R.i 1)]),
    R.q 51 (.bin .shl .no (R.t 50) (.val (.int .u64 fun _ => 6))),
    R.q 52 (.mov (R.t 4)),
    R.q 53 (.bin .shl .no (R.t 52) (.val (.int .u64 fun _ => 3))),
    R.q 54 (.bin .or .no (R.t 51) (R.t 53)),
    R.q 55 (.mov (R.t 5)),
    R.q 56 (.bin .or .no (R.t 54) (R.t 55)),
    R.q 1 (.mov (R.t 56))])
  .ret))))))
def right_Less_1.rs : List RRes := [.tmp 1]
theorem right_Less_1.of {xs : List AV} {d : Nat} {B : BL} {K : ARes → BL → Prop} (hn : xs.length = 1) (hB : onlyOuter B = true) (h : awp ⟨PT, 57, exitX right_Less_1.rs K⟩ 10000 [.code right_Less_1.rc] ⟨params 0 xs, B, .nil⟩) : CallAt PT right_Less_1 xs d B K :=
  call_of_awp 10000 Try.func95 rfl (by kernel_rfl) (by kernel_rfl) (by kernel_rfl) (by rw [hn]; decide) hB h
abbrev right_of : Nat := 96
def right_of.rc : RC :=
  (.seq (.reg [R.q 1 (.box (R.t 0)),
    R.q 2 (.mov (.val .nsl))])
  (.seq (.seq (.reg [R.q 3 (.fld 5 (R.t 1)),
    R.q 4 (.load1 (R.t 3)),
    R.q 5 (.len (R.t 4)),
    R.q 6 (.bin .gtr .no (R.t 5) (R.i 0))])
  (.cond (R.t 6)
    (.seq (.reg [R.q 7 (.fld 5 (R.t 1)),
      R.q 8 (.load1 (R.t 7)),
      R.q 2 (.mov (R.t 8))])
    .ret)
    .skip))
  (.seq (.reg [R.q 9 (.fld 0 (R.t 1)),
    R.q 10 (.load1 (R.t 9)),
    R.q 11 (.call 123 [(R.t 10)]),
    R.q 2 (.mov (R.t 11))])
  .ret)))
def right_of.rs : List RRes := [.tmp 2]
theorem right_of.of {xs : List AV} {d : Nat} {B : BL} {K : ARes → BL → Prop} (hn : xs.length = 1) (hB : onlyOuter B = true) (h : awp ⟨PT, 12, exitX right_of.rs K⟩ 10000 [.code right_of.rc] ⟨params 0 xs, B, .nil⟩) : CallAt PT right_of xs d B K :=
  call_of_awp 10000 Try.func96 rfl (by kernel_rfl) (by kernel_rfl) (by kernel_rfl) (by rw [hn]; decide) hB h
abbrev right_list_mask : Nat := 97
def right_list_mask.rc : RC :=
  (.seq (.reg [R.q 2 (.mov (R.i 0))])
  (.seq (.seq (.reg [R.q 3 (.mov (R.t 0)),
    R.q 4 (.call 124 [(R.t 3), (.val (.fn (.func 125) .nil .nil))])])
  (.cond (R.t 4)
    (.seq (.reg [R.q 5 (.mov (R.t 0)),
      R.q 6 (.call 98 [(R.t 5), (R.i 5)]),
      R.q 2 (.mov (R.t 6))])
    .ret)
    .skip))
  (.seq (.reg [R.q 2 (.mov (R.i 7))])
  .ret)))
def right_list_mask.rs : List RRes := [.tmp 2]
theorem right_list_mask.of {xs : List AV} {d : Nat} {B : BL} {K : ARes → BL → Prop} (hn : xs.length = 1) (hB : onlyOuter B = true) (h : awp ⟨PT, 7, exitX right_list_mask.rs K⟩ 10000 [.code right_list_mask.rc] ⟨params 0 xs, B, .nil⟩) : CallAt PT right_list_mask xs d B K :=
  call_of_awp 10000 Try.func97 rfl (by kernel_rfl) (by kernel_rfl) (by kernel_rfl) (by rw [hn]; decide) hB h
abbrev right_list_perm : Nat := 98
def right_list_perm.rc : RC :=
  (.seq (.reg [R.q 3 (.box (R.t 1)),
    R.q 4 (.mov (R.i 0))])
  (.seq (.reg [R.q 6 (.mov (R.t 0)),
    R.q 7 (.mkfn (.func 127) [] [(R.t 3)]),
    R.q 8 (.call 126 [(R.t 6), (R.t 7)]),
    R.q 5 (.mov (R.t 8))])
  (.seq (.seq (.reg [R.q 9 (.mov (R.t 5)),
    R.q 10 (.bin .lss .no (R.t 9) (R.i 0))])
  (.cond (R.t 10)
    (.reg [R.q 11 (.load1 (R.t 3)),
      R.q 12 (.build (.cons (R.z 0) .nil) [(0, 1, (R.t 11))]),
      R.q 13 (.mkif 138 (R.t 12)),
      R.e (.panic (R.t 13))])
    .skip))
  (.seq (.reg [R.q 14 (.mov (R.t 0)),
    R.q 15 (.mov (R.t 5)),
    R.q 16 (.idx 3 (R.t 14) (R.t 15)),
    R.q 17 (.fld 2 (R.t 16)),
    R.q 18 (.load1 (R.t 17)),
    R.q 4 (.mov (R.t 18))])
  .ret))))
def right_list_perm.rs : List RRes := [.tmp 4]
theorem right_list_perm.of {xs : List AV} {d : Nat} {B : BL} {K : ARes → BL → Prop} (hn : xs.length = 2) (hB : onlyOuter B = true) (h : awp ⟨PT, 19, exitX right_list_perm.rs K⟩ 10000 [.code right_list_perm.rc] ⟨params 0 xs, B, .nil⟩) : CallAt PT right_list_perm xs d B K :=
  call_of_awp 10000 Try.func98 rfl (by kernel_rfl) (by kernel_rfl) (by kernel_rfl) (by rw [hn]; decide) hB h
abbrev r9_Perm : Nat := 99
def r9_Perm.rc : RC :=
  (.seq (.reg [R.q 4 (.mov (R.i 0))])
  (.seq (.seq (.reg [R.q 5 (.mov (R.i 0))])
  (.block 0 (.loop
     (.seq (.seq (.reg [R.q 6 (.mov (R.t 5)),
       R.q 7 (.mov (R.t 0)),
       R.q 8 (.len (R.t 7)),
       R.q 9 (.bin .lss .no (R.t 6) (R.t 8))])
     (.cond (R.t 9)
       .skip
       (.exit 0)))
     (.seq (.block 1 (.seq (.reg [R.q 12 (.mov (R.t 0)),
        R.q 13 (.mov (R.t 5)),
        R.q 14 (.idx 3 (R.t 12) (R.t 13)),
        R.q 15 (.fld 0 (R.t 14)),
        R.q 16 (.load1 (R.t 15)),
        R.q 17 (.mov (R.t 1)),
        R.q 18 (.bin .eql .no (R.t 16) (R.t 17))])
      (.cond (R.t 18)
        (.seq (.reg [R.q 19 (.mov (R.t 0)),
          R.q 20 (.mov (R.t 5)),
          R.q 21 (.idx 3 (R.t 19) (R.t 20)),
          R.q 22 (.fld 2 (R.t 21)),
          R.q 23 (.load1 (R.t 22)),
          R.q 4 (.mov (R.t 23))])
        .ret)
        .skip)))
     (.reg [R.q 10 (.mov (R.t 5)),
       R.q 11 (.bin .add .no (R.t 10) (R.i 1)),
       R.q 5 (.mov (R.t 11))]))))))
  (.seq (.reg [R.q 4 (.mov (R.i (-1)))])
  .ret)))
def r9_Perm.rs : List RRes := [.tmp 4]
theorem r9_Perm.of {xs : List AV} {d : Nat} {B : BL} {K : ARes → BL → Prop} (hn : xs.length = 2) (hB : onlyOuter B = true) (h : awp ⟨PT, 24, exitX r9_Perm.rs K⟩ 10000 [.code r9_Perm.rc] ⟨params 0 xs, B, .nil⟩) : CallAt PT r9_Perm xs d B K :=
  call_of_awp 10000 Try.func99 rfl (by kernel_rfl) (by kernel_rfl) (by kernel_rfl) (by rw [hn]; decide) hB h
abbrev internal_stringslite_HasPrefix : Nat := 100
def internal_stringslite_HasPrefix.rc : RC :=
  (.seq (.reg [R.q 4 (.mov R.ff)])
  (.seq (.reg [R.q 5 (.mov (R.t 0)),
    R.q 6 (.lenS (R.t 5)),
    R.q 7 (.mov (R.t 1)),
    R.q 8 (.lenS (R.t 7)),
    R.q 9 (.bin .geq .no (R.t 6) (R.t 8)),
    R.q 10 (.mov (R.t 9)),
    R.g 11 (.mov (R.t 0)) 10 true,
    R.g 12 (.mov (R.t 1)) 10 true,
    R.g 13 (.lenS (R.t 12)) 10 true,
    R.g 14 (.sliceS (R.t 11) none (some (R.t 13))) 10 true,
    R.g 15 (.mov (R.t 1)) 10 true,
    R.g 16 (.bin .eql .no (R.t 14) (R.t 15)) 10 true,
    R.q 17 (.pick (R.t 10) (R.t 16) R.ff),
    R.q 4 (.mov (R.t 17))])
  .ret))
def internal_stringslite_HasPrefix.rs : List RRes := [.tmp 4]
theorem internal_stringslite_HasPrefix.of {xs : List AV} {d : Nat} {B : BL} {K : ARes → BL → Prop} (hn : xs.length = 2) (hB : onlyOuter B = true) (h : awp ⟨PT, 18, exitX internal_stringslite_HasPrefix.rs K⟩ 10000 [.code internal_stringslite_HasPrefix.rc] ⟨params 0 xs, B, .nil⟩) : CallAt PT internal_stringslite_HasPrefix xs d B K :=
  call_of_awp 10000 Try.func100 rfl (by kernel_rfl) (by kernel_rfl) (by kernel_rfl) (by rw [hn]; decide) hB h
abbrev right_In : Nat := 103
def right_In.rc : RC :=
  (.seq (.reg [R.q 2 (.box (R.t 0)),
    R.q 4 (.mov R.ff)])
  (.seq (.reg [R.q 5 (.fld 1 (R.t 2)),
    R.q 6 (.load1 (R.t 5)),
    R.q 7 (.mov (R.t 1)),
    R.q 8 (.bin .eql .no (R.t 6) (R.t 7)),
    R.q 9 (.mov (R.t 8)),
    R.g 10 (.fld 2 (R.t 2)) 9 false,
    R.g 11 (.load1 (R.t 10)) 9 false,
    R.g 12 (.mov (R.t 1)) 9 false,
    R.g 13 (.call 128 [(R.t 11), (R.t 12)]) 9 false,
    R.q 14 (.pick (R.t 9) R.tt (R.t 13)),
    R.q 4 (.mov (R.t 14))])
  .ret))
def right_In.rs : List RRes := [.tmp 4]
theorem right_In.of {xs : List AV} {d : Nat} {B : BL} {K : ARes → BL → Prop} (hn : xs.length = 2) (hB : onlyOuter B = true) (h : awp ⟨PT, 15, exitX right_In.rs K⟩ 10000 [.code right_In.rc] ⟨params 0 xs, B, .nil⟩) : CallAt PT right_In xs d B K :=
  call_of_awp 10000 Try.func103 rfl (by kernel_rfl) (by kernel_rfl) (by kernel_rfl) (by rw [hn]; decide) hB h
abbrev r9_hasAny : Nat := 105
def r9_hasAny.rc : RC :=
  (.seq (.reg [R.q 4 (.mov R.ff)])
  (.seq (.seq (.reg [R.q 5 (.mov (R.i 0))])
  (.block 0 (.loop
     (.seq (.seq (.reg [R.q 7 (.mov (R.t 5)),
       R.q 8 (.mov (R.t 0)),
       R.q 9 (.lenS (R.t 8)),
       R.q 10 (.bin .lss .no (R.t 7) (R.t 9))])
     (.cond (R.t 10)
       .skip
       (.exit 0)))
     (.seq (.block 1 (.seq (.reg [R.q 6 (.mov (R.i 0))])
      (.block 2 (.loop
         (.seq (.seq (.reg [R.q 13 (.mov (R.t 6)),
           R.q 14 (.mov (R.t 1)),
           R.q 15 (.lenS (R.t 14)),
           R.q 16 (.bin .lss .no (R.t 13) (R.t 15))])
         (.cond (R.t 16)
           .skip
           (.exit 2)))
         (.seq (.block 3 (.seq (.regd [R.f (R.q 19 (.mov (R.t 0))),
            R.f (R.q 20 (.mov (R.t 5))),
            R.f (R.q 21 (.idxS (R.t 19) (R.t 20))),
            R.f (R.q 22 (.mov (R.t 1))),
            R.f (R.q 23 (.mov (R.t 6))),
            R.f (R.q 24 (.idxS (R.t 22) (R.t 23))),
            R.f (R.q 25 (.bin .eql .no (R.t 21) (R.t 24)))])
          (.cond (R.t 25)
            (.seq (.reg [R.q 4 (.mov R.tt)])
            .ret)
            .skip)))
         (.reg [R.q 17 (.mov (R.t 6)),
           R.q 18 (.bin .add .no (R.t 17) (R.i 1)),
           R.q 6 (.mov (R.t 18))])))))))
     (.reg [R.q 11 (.mov (R.t 5)),
       R.q 12 (.bin .add .no (R.t 11) (R.i 1)),
       R.q 5 (.mov (R.t 12))]))))))
  (.seq (.reg [R.q 4 (.mov R.ff)])
  .ret)))
def r9_hasAny.rs : List RRes := [.tmp 4]
theorem r9_hasAny.of {xs : List AV} {d : Nat} {B : BL} {K : ARes → BL → Prop} (hn : xs.length = 2) (hB : onlyOuter B = true) (h : awp ⟨PT, 26, exitX r9_hasAny.rs K⟩ 10000 [.code r9_hasAny.rc] ⟨params 0 xs, B, .nil⟩) : CallAt PT r9_hasAny xs d B K :=
  call_of_awp 10000 Try.func105 rfl (by kernel_rfl) (by kernel_rfl) (by kernel_rfl) (by rw [hn]; decide) hB h
abbrev r1_Escape : Nat := 106
def r1_Escape.rc : RC :=
  (.seq (.reg [R.q 2 (.mov (.val (.str fun _ => [])))])
  (.seq (.reg [R.q 3 (.mov (.val .nsl))])
  (.seq (.reg [R.q 4 (.mov (.val (.str fun _ => [48, 49, 50, 51, 52, 53, 54, 55, 56, 57, 65, 66, 67, 68, 69, 70])))])
  (.seq (.seq (.reg [R.q 5 (.mov (R.i 0))])
  (.block 0 (.loop
     (.seq (.seq (.reg [R.q 6 (.mov (R.t 5)),
       R.q 7 (.mov (R.t 0)),
       R.q 8 (.lenS (R.t 7)),
       R.q 9 (.bin .lss .no (R.t 6) (R.t 8))])
     (.cond (R.t 9)
       .skip
       (.exit 0)))
     (.seq (.block 1 (.seq (.reg [R.q 12 (.mov (R.t 0)),
        R.q 13 (.mov (R.t 5)),
        R.q 14 (.idxS (R.t 12) (R.t 13)),
        R.q 15 (.bin .lss .no (R.t 14) (R.u 33)),
        R.q 16 (.mov (R.t 15)),
        R.g 17 (.mov (R.t 0)) 16 false,
        R.g 18 (.mov (R.t 5)) 16 false,
        R.g 19 (.idxS (R.t 17) (R.t 18)) 16 false,
        R.g 20 (.bin .gtr .no (R.t 19) (R.u 126)) 16 false,
        R.q 21 (.pick (R.t 16) R.tt (R.t 20)),
        R.q 22 (.mov (R.t 21)),
        R.g 23 (.mov (R.t 0)) 22 false,
        R.g 24 (.mov (R.t 5)) 22 false,
        R.g 25 (.idxS (R.t 23) (R.t 24)) 22 false,
        R.g 26 (.bin .eql .no (R.t 25) (R.u 37)) 22 false,
        R.q 27 (.pick (R.t 22) R.tt (R.t 26)),
        R.q 28 (.mov (R.t 27)),
        R.g 29 (.mov (R.t 0)) 28 false,
        R.g 30 (.mov (R.t 5)) 28 false,
        R.g 31 (.idxS (R.t 29) (R.t 30)) 28 false,
        R.g 32 (.bin .eql .no (R.t 31) (R.u 61)) 28 false,
        R.q 33 (.pick (R.t 28) R.tt (R.t 32))])
      (.cond (R.t 33)
        (.regd [R.f (R.q 34 (.mov (R.t 3))),
          R.f (R.q 35 (.mov (R.t 4))),
          R.f (R.q 36 (.mov (R.t 0))),
          R.f (R.q 37 (.mov (R.t 5))),
          R.f (R.q 38 (.idxS (R.t 36) (R.t 37))),
          R.f (R.q 39 (.bin .shr .no (R.t 38) (.val (.int .u64 fun _ => 4)))),
          R.f (R.q 40 (.idxS (R.t 35) (R.t 39))),
          R.f (R.q 41 (.mov (R.t 4))),
          R.f (R.q 42 (.mov (R.t 0))),
          R.f (R.q 43 (.mov (R.t 5))),
          R.f (R.q 44 (.idxS (R.t 42) (R.t 43))),
          R.f (R.q 45 (.bin .and .no (R.t 44) (R.u 15))),
          R.f (R.q 46 (.idxS (R.t 41) (R.t 45))),
          R.f (R.q 47 (.bslice 1 (.cons (.int .u8 fun _ => 0) .nil) 3 [(0, 1, (R.u 37)), (1, 1, (R.t 40)), (2, 1, (R.t 46))])),
          R.s (R.q 48 (.append 1 1 (R.t 34) (R.t 47))) [],
          R.s (R.q 3 (.mov (R.t 48))) []])
        (.reg [R.q 49 (.mov (R.t 3)),
          R.q 50 (.mov (R.t 0)),
          R.q 51 (.mov (R.t 5)),
          R.q 52 (.idxS (R.t 50) (R.t 51)),
          R.q 53 (.bslice 1 (.cons (.int .u8 fun _ => 0) .nil) 1 [(0, 1, (R.t 52))]),
          R.q 54 (.append 1 1 (R.t 49) (R.t 53)),
          R.q 3 (.mov (R.t 54))]))))
     (.reg [R.q 10 (.mov (R.t 5)),
       R.q 11 (.bin .add .no (R.t 10) (R.i 1)),
       R.q 5 (.mov (R.t 11))]))))))
  (.seq (.reg [R.q 55 (.mov (R.t 3)),
    R.q 56 (.b2s (R.t 55)),
    R.q 2 (.mov (R.t 56))])
  .ret)))))
def r1_Escape.rs : List RRes := [.tmp 2]
theorem r1_Escape.of {xs : List AV} {d : Nat} {B : BL} {K : ARes → BL → Prop} (hn : xs.length = 1) (hB : onlyOuter B = true) (h : awp ⟨PT, 57, exitX r1_Escape.rs K⟩ 10000 [.code r1_Escape.rc] ⟨params 0 xs, B, .nil⟩) : CallAt PT r1_Escape xs d B K :=
  call_of_awp 10000 Try.func106 rfl (by kernel_rfl) (by kernel_rfl) (by kernel_rfl) (by rw [hn]; decide) hB h
abbrev r9_named : Nat := 107
def r9_named.rc : RC :=
  (.seq (.reg [R.q 1 (.box (R.t 0)),
    R.q 2 (.mov R.ff)])
  (.seq (.reg [R.q 3 (.fld 0 (R.t 1)),
    R.q 4 (.load1 (R.t 3)),
    R.q 5 (.bin .eql .no (R.t 4) (R.i 2)),
    R.q 6 (.mov (R.t 5)),
    R.g 7 (.fld 0 (R.t 1)) 6 false,
    R.g 8 (.load1 (R.t 7)) 6 false,
    R.g 9 (.bin .eql .no (R.t 8) (R.i 4)) 6 false,
    R.q 10 (.pick (R.t 6) R.tt (R.t 9)),
    R.q 2 (.mov (R.t 10))])
  .ret))
def r9_named.rs : List RRes := [.tmp 2]
theorem r9_named.of {xs : List AV} {d : Nat} {B : BL} {K : ARes → BL → Prop} (hn : xs.length = 1) (hB : onlyOuter B = true) (h : awp ⟨PT, 11, exitX r9_named.rs K⟩ 10000 [.code r9_named.rc] ⟨params 0 xs, B, .nil⟩) : CallAt PT r9_named xs d B K :=
  call_of_awp 10000 Try.func107 rfl (by kernel_rfl) (by kernel_rfl) (by kernel_rfl) (by rw [hn]; decide) hB h
abbrev right_look_int_1 : Nat := 122
def right_look_int_1.rc : RC :=
  (.seq (.reg [R.q 6 (.mov (R.t 1)),
    R.q 7 (.bin .neq (.ifc true) (R.t 6) (.val .nif))])
  (.cond (R.t 7)
    (.seq (.seq (.reg [R.q 9 (.mov (R.t 1)),
      R.q 10 (.assert 138 (.agg (.cons (R.z 0) .nil)) (R.t 9)),
      R.q 8 (.mov (R.t 10)),
      R.q 11 (.ext 0 (R.t 8)),
      R.q 12 (.ext 1 (R.t 8)),
      R.q 2 (.alloc (.cons (R.z 0) .nil)),
      R.e (.store 1 (R.t 2) (R.t 11)),
      R.q 3 (.mov (R.t 12))])
    (.seq (.reg [R.q 13 (.mov (R.t 3)),
      R.q 14 (.un .not (R.t 13))])
    (.cond (R.t 14)
      (.reg [R.q 15 (.mov (R.t 1)),
        R.e (.panic (R.t 15))])
      .skip)))
    (.seq (.reg [R.q 4 (.mov (R.i 0))])
    (.reg [R.q 16 (.mov (R.t 4)),
      R.e (.store 1 (R.t 0) (R.t 16))])))
    .skip))
def right_look_int_1.rs : List RRes := []
theorem right_look_int_1.of {pn : Bool} {pv : AV} {xs : List AV} {B : BL} {K : BL → Prop} (hn : xs.length = 1) (hB : onlyOuter B = true) (hpv : pn = false → pv = .nif) (h : awp ⟨PT, 17, exitC K⟩ 10000 [.code right_look_int_1.rc] ⟨.cons 1 pv (.cons 5 pv (params 0 xs)), B, .nil⟩) : DefAt PT right_look_int_1 pn (pv :: xs) B K :=
  def_of_awp 10000 Try.func122 rfl (by kernel_rfl) (by kernel_rfl) rfl (by rw [hn]; decide) (by decide) (by decide) hB hpv h
abbrev acl_From : Nat := 123
def acl_From.rc : RC :=
  (.seq (.reg [R.q 2 (.mov (.val .nsl))])
  (.seq (.reg [R.q 3 (.mov (R.t 0)),
    R.q 4 (.bin .and .no (R.t 3) (R.i 511)),
    R.q 0 (.mov (R.t 4))])
  (.seq (.reg [R.q 5 (.mov (R.t 0)),
    R.q 6 (.bin .shr .no (R.t 5) (.val (.int .u64 fun _ => 6))),
    R.q 7 (.build (.cons (R.z 0) (.cons (R.z 0) (.cons (R.z 0) .nil))) [(0, 1, (R.i 1)), (2, 1, (R.t 6))]),
    R.q 8 (.mov (R.t 0)),
    R.q 9 (.bin .shr .no (R.t 8) (.val (.int .u64 fun _ => 3))),
    R.q 10 (.bin .and .no (R.t 9) (R.i 7)),
    R.q 11 (.build (.cons (R.z 0) (.cons (R.z 0) (.cons (R.z 0) .nil))) [(0, 1, (R.i 3)), (2, 1, (R.t 10))]),
    R.q 12 (.mov (R.t 0)),
    R.q 13 (.bin .and .no (R.t 12) (R.i 7)),
    R.q 14 (.build (.cons (R.z 0) (.cons (R.z 0) (.cons (R.z 0) .nil))) [(0, 1, (R.i 6)), (2, 1, (R.t 13))]),
    R.q 15 (.bslice 3 (.cons (R.z 0) (.cons (R.z 0) (.cons (R.z 0) .nil))) 3 [(0, 3, (R.t 7)), (3, 3, (R.t 11)), (6, 3, (R.t 14))]),
    R.q 2 (.mov (R.t 15))])
  .ret)))
def acl_From.rs : List RRes := [.tmp 2]
theorem acl_From.of {xs : List AV} {d : Nat} {B : BL} {K : ARes → BL → Prop} (hn : xs.length = 1) (hB : onlyOuter B = true) (h : awp ⟨PT, 16, exitX acl_From.rs K⟩ 10000 [.code acl_From.rc] ⟨params 0 xs, B, .nil⟩) : CallAt PT acl_From xs d B K :=
  call_of_awp 10000 Try.func123 rfl (by kernel_rfl) (by kernel_rfl) (by kernel_rfl) (by rw [hn]; decide) hB h
abbrev slices_ContainsFunc_right_list_api_Ace : Nat := 124
def slices_ContainsFunc_right_list_api_Ace.rc : RC :=
  (.seq (.reg [R.q 4 (.mov R.ff)])
  (.seq (.reg [R.q 5 (.mov (R.t 0)),
    R.q 6 (.mov (R.t 1)),
    R.q 7 (.call 126 [(R.t 5), (R.t 6)]),
    R.q 8 (.bin .geq .no (R.t 7) (R.i 0)),
    R.q 4 (.mov (R.t 8))])
  .ret))
def slices_ContainsFunc_right_list_api_Ace.rs : List RRes := [.tmp 4]
theorem slices_ContainsFunc_right_list_api_Ace.of {xs : List AV} {d : Nat} {B : BL} {K : ARes → BL → Prop} (hn : xs.length = 2) (hB : onlyOuter B = true) (h : awp ⟨PT, 9, exitX slices_ContainsFunc_right_list_api_Ace.rs K⟩ 10000 [.code slices_ContainsFunc_right_list_api_Ace.rc] ⟨params 0 xs, B, .nil⟩) : CallAt PT slices_ContainsFunc_right_list_api_Ace xs d B K :=
  call_of_awp 10000 Try.func124 rfl (by kernel_rfl) (by kernel_rfl) (by kernel_rfl) (by rw [hn]; decide) hB h
abbrev right_list_mask_1 : Nat := 125
def right_list_mask_1.rc : RC :=
  (.seq (.reg [R.q 1 (.box (R.t 0)),
    R.q 2 (.mov R.ff)])
  (.seq (.reg [R.q 3 (.fld 0 (R.t 1)),
    R.q 4 (.load1 (R.t 3)),
    R.q 5 (.bin .eql .no (R.t 4) (R.i 5)),
    R.q 2 (.mov (R.t 5))])
  .ret))
def right_list_mask_1.rs : List RRes := [.tmp 2]
theorem right_list_mask_1.of {xs : List AV} {d : Nat} {B : BL} {K : ARes → BL → Prop} (hn : xs.length = 1) (hB : onlyOuter B = true) (h : awp ⟨PT, 6, exitX right_list_mask_1.rs K⟩ 10000 [.code right_list_mask_1.rc] ⟨params 0 xs, B, .nil⟩) : CallAt PT right_list_mask_1 xs d B K :=
  call_of_awp 10000 Try.func125 rfl (by kernel_rfl) (by kernel_rfl) (by kernel_rfl) (by rw [hn]; decide) hB h
abbrev slices_IndexFunc_right_list_api_Ace : Nat := 126
def slices_IndexFunc_right_list_api_Ace.rc : RC :=
  (.seq (.reg [R.q 4 (.mov (R.i 0))])
  (.seq (.seq (.reg [R.q 6 (.mov (R.t 0)),
    R.q 7 (.len (R.t 6)),
    R.q 8 (.mov (R.i 0))])
  (.block 0 (.loop
     (.seq (.reg [R.q 9 (.bin .lss .no (R.t 8) (R.t 7))])
     (.seq (.cond (R.t 9)
       .skip
       (.exit 0))
     (.seq (.block 1 (.seq (.reg [R.q 10 (.mov (R.t 8)),
        R.q 5 (.mov (R.t 10))])
      (.seq (.reg [R.q 11 (.mov (R.t 1)),
        R.q 12 (.mov (R.t 0)),
        R.q 13 (.mov (R.t 5)),
        R.q 14 (.idx 3 (R.t 12) (R.t 13)),
        R.q 15 (.loadA 3 (R.t 14)),
        R.q 16 (.callv (R.t 11) [(R.t 15)])])
      (.cond (R.t 16)
        (.seq (.reg [R.q 17 (.mov (R.t 5)),
          R.q 4 (.mov (R.t 17))])
        .ret)
        .skip))))
     (.reg [R.q 18 (.bin .add .no (R.t 8) (R.i 1)),
       R.q 8 (.mov (R.t 18))])))))))
  (.seq (.reg [R.q 4 (.mov (R.i (-1)))])
  .ret)))
def slices_IndexFunc_right_list_api_Ace.rs : List RRes := [.tmp 4]
theorem slices_IndexFunc_right_list_api_Ace.of {xs : List AV} {d : Nat} {B : BL} {K : ARes → BL → Prop} (hn : xs.length = 2) (hB : onlyOuter B = true) (h : awp ⟨PT, 19, exitX slices_IndexFunc_right_list_api_Ace.rs K⟩ 10000 [.code slices_IndexFunc_right_list_api_Ace.rc] ⟨params 0 xs, B, .nil⟩) : CallAt PT slices_IndexFunc_right_list_api_Ace xs d B K :=
  call_of_awp 10000 Try.func126 rfl (by kernel_rfl) (by kernel_rfl) (by kernel_rfl) (by rw [hn]; decide) hB h
abbrev right_list_perm_1 : Nat := 127
def right_list_perm_1.rc : RC :=
  (.seq (.reg [R.q 2 (.box (R.t 0)),
    R.q 3 (.mov R.ff)])
  (.seq (.reg [R.q 4 (.fld 0 (R.t 2)),
    R.q 5 (.load1 (R.t 4)),
    R.q 6 (.load1 (R.t 1)),
    R.q 7 (.bin .eql .no (R.t 5) (R.t 6)),
    R.q 3 (.mov (R.t 7))])
  .ret))
def right_list_perm_1.rs : List RRes := [.tmp 3]
theorem right_list_perm_1.of {xs : List AV} {d : Nat} {B : BL} {K : ARes → BL → Prop} (hn : xs.length = 2) (hB : onlyOuter B = true) (h : awp ⟨PT, 8, exitX right_list_perm_1.rs K⟩ 10000 [.code right_list_perm_1.rc] ⟨params 0 xs, B, .nil⟩) : CallAt PT right_list_perm_1 xs d B K :=
  call_of_awp 10000 Try.func127 rfl (by kernel_rfl) (by kernel_rfl) (by kernel_rfl) (by rw [hn]; decide) hB h
abbrev slices_Contains_int_int : Nat := 128
def slices_Contains_int_int.rc : RC :=
  (.seq (.reg [R.q 4 (.mov R.ff)])
  (.seq (.reg [R.q 5 (.mov (R.t 0)),
    R.q 6 (.mov (R.t 1)),
    R.q 7 (.call 134 [(R.t 5), (R.t 6)]),
    R.q 8 (.bin .geq .no (R.t 7) (R.i 0)),
    R.q 4 (.mov (R.t 8))])
  .ret))
def slices_Contains_int_int.rs : List RRes := [.tmp 4]
theorem slices_Contains_int_int.of {xs : List AV} {d : Nat} {B : BL} {K : ARes → BL → Prop} (hn : xs.length = 2) (hB : onlyOuter B = true) (h : awp ⟨PT, 9, exitX slices_Contains_int_int.rs K⟩ 10000 [.code slices_Contains_int_int.rc] ⟨params 0 xs, B, .nil⟩) : CallAt PT slices_Contains_int_int xs d B K :=
  call_of_awp 10000 Try.func128 rfl (by kernel_rfl) (by kernel_rfl) (by kernel_rfl) (by rw [hn]; decide) hB h
abbrev slices_Index_int_int : Nat := 134
def slices_Index_int_int.rc : RC :=
  (.seq (.reg [R.q 4 (.mov (R.i 0))])
  (.seq (.seq (.reg [R.q 6 (.mov (R.t 0)),
    R.q 7 (.len (R.t 6)),
    R.q 8 (.mov (R.i 0))])
  (.block 0 (.loop
     (.seq (.reg [R.q 9 (.bin .lss .no (R.t 8) (R.t 7))])
     (.seq (.cond (R.t 9)
       .skip
       (.exit 0))
     (.seq (.block 1 (.seq (.reg [R.q 10 (.mov (R.t 8)),
        R.q 5 (.mov (R.t 10))])
      (.seq (.reg [R.q 11 (.mov (R.t 1)),
        R.q 12 (.mov (R.t 0)),
        R.q 13 (.mov (R.t 5)),
        R.q 14 (.idx 1 (R.t 12) (R.t 13)),
        R.q 15 (.load1 (R.t 14)),
        R.q 16 (.bin .eql .no (R.t 11) (R.t 15))])
      (.cond (R.t 16)
        (.seq (.reg [R.q 17 (.mov (R.t 5)),
          R.q 4 (.mov (R.t 17))])
        .ret)
        .skip))))
     (.reg [R.q 18 (.bin .add .no (R.t 8) (R.i 1)),
       R.q 8 (.mov (R.t 18))])))))))
  (.seq (.reg [R.q 4 (.mov (R.i (-1)))])
  .ret)))
def slices_Index_int_int.rs : List RRes := [.tmp 4]
theorem slices_Index_int_int.of {xs : List AV} {d : Nat} {B : BL} {K : ARes → BL → Prop} (hn : xs.length = 2) (hB : onlyOuter B = true) (h : awp ⟨PT, 19, exitX slices_Index_int_int.rs K⟩ 10000 [.code slices_Index_int_int.rc] ⟨params 0 xs, B, .nil⟩) : CallAt PT slices_Index_int_int xs d B K :=
  call_of_awp 10000 Try.func134 rfl (by kernel_rfl) (by kernel_rfl) (by kernel_rfl) (by rw [hn]; decide) hB h
end F
end Go.Proofs.Ytgjlkcdnlndlnaa
/- More of the program's functions, resolved (printed by a tool). -/
namespace Go.Proofs.Ytgjlkcdnlndlnaa
open Go Go.Proofs.Ytgjlkcdnlndlnaa.Sx
namespace F
abbrev l25_DegradeAll : Nat := 4
def l25_DegradeAll.rc : RC :=
  (.seq (.reg [R.q 5 (.box (R.t 0)),
    R.q 6 (.box (R.t 1)),
    R.q 10 (.mov R.ff)])
  (.seq (.seq (.reg [R.q 11 (.loadA 20 (R.t 5)),
    R.q 12 (.call 13 [(R.t 11)]),
    R.q 13 (.mov (R.t 12)),
    R.g 14 (.loadA 20 (R.t 5)) 13 false,
    R.g 15 (.call 14 [(R.t 14)]) 13 false,
    R.g 16 (.un .not (R.t 15)) 13 false,
    R.q 17 (.pick (R.t 13) R.tt (R.t 16)),
    R.q 18 (.mov (R.t 17)),
    R.g 19 (.fld 1 (R.t 5)) 18 false,
    R.g 20 (.load1 (R.t 19)) 18 false,
    R.g 21 (.bin .eql .no (R.t 20) (R.i 2)) 18 false,
    R.q 22 (.pick (R.t 18) R.tt (R.t 21)),
    R.q 23 (.mov (R.t 22)),
    R.g 24 (.mov (R.t 2)) 23 false,
    R.g 25 (.len (R.t 24)) 23 false,
    R.g 26 (.bin .gtr .no (R.t 25) (R.i 200)) 23 false,
    R.q 27 (.pick (R.t 23) R.tt (R.t 26)),
    R.q 28 (.mov (R.t 27)),
    R.g 29 (.fld 2 (R.t 6)) 28 false,
    R.g 30 (.load1 (R.t 29)) 28 false,
    R.g 31 (.len (R.t 30)) 28 false,
    R.g 32 (.bin .gtr .no (R.t 31) (R.i 32)) 28 false,
    R.q 33 (.pick (R.t 28) R.tt (R.t 32)),
    R.q 34 (.mov (R.t 33)),
    R.g 35 (.loadA 4 (R.t 6)) 34 false,
    R.g 36 (.call 26 [(R.t 35)]) 34 false,
    R.g 37 (.un .not (R.t 36)) 34 false,
    R.q 38 (.pick (R.t 34) R.tt (R.t 37))])
  (.cond (R.t 38)
    (.seq (.reg [R.q 39 (.mov (R.t 2)),
      R.q 40 (.mov (R.t 3)),
      R.q 41 (.mov (R.t 4)),
      R.q 42 (.call 27 [(R.t 39), (R.t 40), (R.t 41)]),
      R.q 43 (.mov (R.t 2)),
      R.q 44 (.mov (R.t 3)),
      R.q 45 (.mov (R.t 4)),
      R.q 46 (.call 28 [(R.t 43), (R.t 44), (R.t 45)]),
      R.q 47 (.bin .eql .no (R.t 42) (R.t 46)),
      R.q 48 (.mov (R.t 47)),
      R.g 49 (.call 29 []) 48 true,
      R.q 50 (.pick (R.t 48) (R.t 49) R.ff),
      R.q 10 (.mov (R.t 50))])
    .ret)
    .skip))
  (.seq (.seq (.reg [R.q 51 (.mov (R.t 2)),
    R.q 52 (.mov (R.t 3)),
    R.q 53 (.mov (R.t 4)),
    R.q 54 (.call 27 [(R.t 51), (R.t 52), (R.t 53)]),
    R.q 55 (.mov (R.t 2)),
    R.q 56 (.mov (R.t 3)),
    R.q 57 (.mov (R.t 4)),
    R.q 58 (.call 28 [(R.t 55), (R.t 56), (R.t 57)]),
    R.q 59 (.bin .neq .no (R.t 54) (R.t 58))])
  (.cond (R.t 59)
    (.seq (.reg [R.q 10 (.mov R.ff)])
    .ret)
    .skip))
  (.seq (.regd [R.f (R.q 60 (.loadA 20 (R.t 5))),
    R.f (R.q 61 (.loadA 4 (R.t 6))),
    R.f (R.q 62 (.mov (R.t 2))),
    R.f (R.q 64 (.loadA 20 (R.t 5))),
    R.f (R.q 65 (.loadA 4 (R.t 6))),
    R.f (R.q 66 (.mov (R.t 2))),
    R.s (R.q 63 (.call 31 [(R.t 60), (R.t 61), (R.t 62)])) [3, 4, 5],
    R.s (R.q 67 (.call 32 [(R.t 64), (R.t 65), (R.t 66)])) [],
    R.s (R.q 68 (.call 30 [(R.t 63), (R.t 67)])) [],
    R.f (R.q 69 (.mov (R.t 68))),
    R.s (R.g 70 (.call 29 []) 69 true) [],
    R.f (R.q 71 (.pick (R.t 69) (R.t 70) R.ff)),
    R.s (R.q 10 (.mov (R.t 71))) []])
  .ret))))
def l25_DegradeAll.rs : List RRes := [.tmp 10]
theorem l25_DegradeAll.of {xs : List AV} {d : Nat} {B : BL} {K : ARes → BL → Prop} (hn : xs.length = 5) (hB : onlyOuter B = true) (h : awp ⟨PT, 72, exitX l25_DegradeAll.rs K⟩ 10000 [.code l25_DegradeAll.rc] ⟨params 0 xs, B, .nil⟩) : CallAt PT l25_DegradeAll xs d B K :=
  call_of_awp 10000 Try.func4 rfl (by kernel_rfl) (by kernel_rfl) (by kernel_rfl) (by rw [hn]; decide) hB h
abbrev l15_Heavy : Nat := 13
def l15_Heavy.rc : RC :=
  (.seq (.reg [R.q 1 (.box (R.t 0)),
    R.q 2 (.mov R.ff)])
  (.seq (.reg [R.q 3 (.fld 0 (R.t 1)),
    R.q 4 (.load1 (R.t 3)),
    R.q 5 (.lenS (R.t 4)),
    R.q 6 (.bin .gtr .no (R.t 5) (R.i 5000)),
    R.q 7 (.mov (R.t 6)),
    R.g 8 (.fld 16 (R.t 1)) 7 false,
    R.g 9 (.load1 (R.t 8)) 7 false,
    R.g 10 (.lenS (R.t 9)) 7 false,
    R.g 11 (.bin .gtr .no (R.t 10) (R.i 70000)) 7 false,
    R.q 12 (.pick (R.t 7) R.tt (R.t 11)),
    R.q 13 (.mov (R.t 12)),
    R.g 14 (.fld 17 (R.t 1)) 13 false,
    R.g 15 (.load1 (R.t 14)) 13 false,
    R.g 16 (.lenS (R.t 15)) 13 false,
    R.g 17 (.bin .gtr .no (R.t 16) (R.i 5000)) 13 false,
    R.q 18 (.pick (R.t 13) R.tt (R.t 17)),
    R.q 19 (.mov (R.t 18)),
    R.g 20 (.fld 2 (R.t 1)) 19 false,
    R.g 21 (.loadA 14 (R.t 20)) 19 false,
    R.g 22 (.call 41 [(R.t 21)]) 19 false,
    R.q 23 (.pick (R.t 19) R.tt (R.t 22)),
    R.q 2 (.mov (R.t 23))])
  .ret))
def l15_Heavy.rs : List RRes := [.tmp 2]
theorem l15_Heavy.of {xs : List AV} {d : Nat} {B : BL} {K : ARes → BL → Prop} (hn : xs.length = 1) (hB : onlyOuter B = true) (h : awp ⟨PT, 24, exitX l15_Heavy.rs K⟩ 10000 [.code l15_Heavy.rc] ⟨params 0 xs, B, .nil⟩) : CallAt PT l15_Heavy xs d B K :=
  call_of_awp 10000 Try.func13 rfl (by kernel_rfl) (by kernel_rfl) (by kernel_rfl) (by rw [hn]; decide) hB h
abbrev r15_May : Nat := 14
def r15_May.rc : RC :=
  (.seq (.reg [R.q 1 (.box (R.t 0)),
    R.q 2 (.mov R.ff)])
  (.seq (.seq (.reg [R.q 6 (.fld 0 (R.t 1)),
    R.q 7 (.load1 (R.t 6)),
    R.q 8 (.call 44 [(R.t 7)]),
    R.q 9 (.un .not (R.t 8)),
    R.q 10 (.mov (R.t 9)),
    R.g 11 (.fld 1 (R.t 1)) 10 false,
    R.g 12 (.load1 (R.t 11)) 10 false,
    R.g 13 (.bin .lss .no (R.t 12) (R.i 1)) 10 false,
    R.q 14 (.pick (R.t 10) R.tt (R.t 13)),
    R.q 15 (.mov (R.t 14)),
    R.g 16 (.fld 1 (R.t 1)) 15 false,
    R.g 17 (.load1 (R.t 16)) 15 false,
    R.g 18 (.bin .gtr .no (R.t 17) (R.i 7)) 15 false,
    R.q 19 (.pick (R.t 15) R.tt (R.t 18)),
    R.q 20 (.mov (R.t 19)),
    R.g 21 (.fld 1 (R.t 1)) 20 false,
    R.g 22 (.load1 (R.t 21)) 20 false,
    R.g 23 (.fld 16 (R.t 1)) 20 false,
    R.g 24 (.load1 (R.t 23)) 20 false,
    R.g 25 (.fld 17 (R.t 1)) 20 false,
    R.g 26 (.load1 (R.t 25)) 20 false,
    R.g 27 (.fld 18 (R.t 1)) 20 false,
    R.g 28 (.load1 (R.t 27)) 20 false,
    R.g 29 (.fld 19 (R.t 1)) 20 false,
    R.g 30 (.load1 (R.t 29)) 20 false,
    R.g 31 (.call 45 [(R.t 22), (R.t 24), (R.t 26), (R.t 28), (R.t 30)]) 20 false,
    R.g 32 (.un .not (R.t 31)) 20 false,
    R.q 33 (.pick (R.t 20) R.tt (R.t 32))])
  (.cond (R.t 33)
    (.seq (.reg [R.q 2 (.mov R.ff)])
    .ret)
    .skip))
  (.seq (.seq (.reg [R.q 34 (.fld 1 (R.t 1)),
    R.q 35 (.load1 (R.t 34)),
    R.q 36 (.bin .eql .no (R.t 35) (R.i 2))])
  (.cond (R.t 36)
    (.seq (.reg [R.q 37 (.fld 2 (R.t 1)),
      R.q 38 (.loadA 14 (R.t 37)),
      R.q 39 (.build (.cons (R.z 0) (.cons (R.z 0) (.cons (R.z 0) (.cons (R.z 0) (.cons (R.z 0) (.cons .nsl (.cons .nsl (.cons .nsl (.cons (R.z 0) (.cons (.int .u64 fun _ => 0) (.cons (.int .u64 fun _ => 0) (.cons .ff (.cons (R.z 0) (.cons (R.z 0) .nil)))))))))))))) []),
      R.q 40 (.call 30 [(R.t 38), (R.t 39)]),
      R.q 41 (.un .not (R.t 40))])
    (.cond (R.t 41)
      (.seq (.reg [R.q 2 (.mov R.ff)])
      .ret)
      .skip))
    (.seq (.reg [R.q 42 (.fld 2 (R.t 1)),
      R.q 43 (.loadA 14 (R.t 42)),
      R.q 44 (.fld 1 (R.t 1)),
      R.q 45 (.load1 (R.t 44)),
      R.q 46 (.call 36 [(R.t 43), (R.t 45)]),
      R.q 47 (.un .not (R.t 46))])
    (.cond (R.t 47)
      (.seq (.reg [R.q 2 (.mov R.ff)])
      .ret)
      .skip))))
  (.seq (.reg [R.q 48 (.loadA 20 (R.t 1)),
    R.q 49 (.call 46 [(R.t 48)]),
    R.q 3 (.mov (R.t 49))])
  (.seq (.reg [R.q 4 (.mov (R.i 0))])
  (.seq (.seq (.reg [R.q 5 (.mov (R.i 0))])
  (.block 0 (.loop
     (.seq (.seq (.reg [R.q 50 (.mov (R.t 5)),
       R.q 51 (.mov (R.t 3)),
       R.q 52 (.len (R.t 51)),
       R.q 53 (.bin .lss .no (R.t 50) (R.t 52))])
     (.cond (R.t 53)
       .skip
       (.exit 0)))
     (.seq (.block 1 (.seq (.seq (.reg [R.q 56 (.mov (R.t 3)),
        R.q 57 (.mov (R.t 5)),
        R.q 58 (.idx 2 (R.t 56) (R.t 57)),
        R.q 59 (.loadA 2 (R.t 58)),
        R.q 60 (.call 47 [(R.t 59)]),
        R.q 61 (.un .not (R.t 60))])
      (.cond (R.t 61)
        (.seq (.reg [R.q 2 (.mov R.ff)])
        .ret)
        .skip))
      (.reg [R.q 62 (.mov (R.t 4)),
        R.q 63 (.mov (R.t 3)),
        R.q 64 (.mov (R.t 5)),
        R.q 65 (.idx 2 (R.t 63) (R.t 64)),
        R.q 66 (.loadA 2 (R.t 65)),
        R.q 67 (.call 48 [(R.t 66)]),
        R.q 68 (.lenS (R.t 67)),
        R.q 69 (.bin .add .no (R.t 62) (R.t 68)),
        R.q 4 (.mov (R.t 69))])))
     (.reg [R.q 54 (.mov (R.t 5)),
       R.q 55 (.bin .add .no (R.t 54) (R.i 1)),
       R.q 5 (.mov (R.t 55))]))))))
  (.seq (.reg [R.q 70 (.mov (R.t 4)),
    R.q 71 (.bin .leq .no (R.t 70) (R.i 65536)),
    R.q 2 (.mov (R.t 71))])
  .ret)))))))
def r15_May.rs : List RRes := [.tmp 2]
theorem r15_May.of {xs : List AV} {d : Nat} {B : BL} {K : ARes → BL → Prop} (hn : xs.length = 1) (hB : onlyOuter B = true) (h : awp ⟨PT, 72, exitX r15_May.rs K⟩ 10000 [.code r15_May.rc] ⟨params 0 xs, B, .nil⟩) : CallAt PT r15_May xs d B K :=
  call_of_awp 10000 Try.func14 rfl (by kernel_rfl) (by kernel_rfl) (by kernel_rfl) (by rw [hn]; decide) hB h
abbrev r18_MayCred : Nat := 26
def r18_MayCred.rc : RC :=
  (.seq (.reg [R.q 1 (.box (R.t 0)),
    R.q 2 (.mov R.ff)])
  (.seq (.seq (.reg [R.q 3 (.mov (R.i 0))])
  (.block 0 (.loop
     (.seq (.seq (.reg [R.q 4 (.mov (R.t 3)),
       R.q 5 (.fld 2 (R.t 1)),
       R.q 6 (.load1 (R.t 5)),
       R.q 7 (.len (R.t 6)),
       R.q 8 (.bin .lss .no (R.t 4) (R.t 7))])
     (.cond (R.t 8)
       .skip
       (.exit 0)))
     (.seq (.block 1 (.seq (.reg [R.q 11 (.fld 2 (R.t 1)),
        R.q 12 (.load1 (R.t 11)),
        R.q 13 (.mov (R.t 3)),
        R.q 14 (.idx 1 (R.t 12) (R.t 13)),
        R.q 15 (.load1 (R.t 14)),
        R.q 16 (.bin .lss .no (R.t 15) (R.i 0)),
        R.q 17 (.mov (R.t 16)),
        R.g 18 (.fld 2 (R.t 1)) 17 false,
        R.g 19 (.load1 (R.t 18)) 17 false,
        R.g 20 (.mov (R.t 3)) 17 false,
        R.g 21 (.idx 1 (R.t 19) (R.t 20)) 17 false,
        R.g 22 (.load1 (R.t 21)) 17 false,
        R.g 23 (.bin .gtr .no (R.t 22) (R.i 2147483647)) 17 false,
        R.q 24 (.pick (R.t 17) R.tt (R.t 23))])
      (.cond (R.t 24)
        (.seq (.reg [R.q 2 (.mov R.ff)])
        .ret)
        .skip)))
     (.reg [R.q 9 (.mov (R.t 3)),
       R.q 10 (.bin .add .no (R.t 9) (R.i 1)),
       R.q 3 (.mov (R.t 10))]))))))
  (.seq (.reg [R.q 25 (.fld 0 (R.t 1)),
    R.q 26 (.load1 (R.t 25)),
    R.q 27 (.bin .geq .no (R.t 26) (R.i 0)),
    R.q 28 (.mov (R.t 27)),
    R.g 29 (.fld 0 (R.t 1)) 28 true,
    R.g 30 (.load1 (R.t 29)) 28 true,
    R.g 31 (.bin .leq .no (R.t 30) (R.i 2147483647)) 28 true,
    R.q 32 (.pick (R.t 28) (R.t 31) R.ff),
    R.q 33 (.mov (R.t 32)),
    R.g 34 (.fld 1 (R.t 1)) 33 true,
    R.g 35 (.load1 (R.t 34)) 33 true,
    R.g 36 (.bin .geq .no (R.t 35) (R.i 0)) 33 true,
    R.q 37 (.pick (R.t 33) (R.t 36) R.ff),
    R.q 38 (.mov (R.t 37)),
    R.g 39 (.fld 1 (R.t 1)) 38 true,
    R.g 40 (.load1 (R.t 39)) 38 true,
    R.g 41 (.bin .leq .no (R.t 40) (R.i 2147483647)) 38 true,
    R.q 42 (.pick (R.t 38) (R.t 41) R.ff),
    R.q 43 (.mov (R.t 42)),
    R.g 44 (.fld 2 (R.t 1)) 43 true,
    R.g 45 (.load1 (R.t 44)) 43 true,
    R.g 46 (.len (R.t 45)) 43 true,
    R.g 47 (.bin .leq .no (R.t 46) (R.i 32)) 43 true,
    R.q 48 (.pick (R.t 43) (R.t 47) R.ff),
    R.q 49 (.mov (R.t 48)),
    R.g 50 (.fld 3 (R.t 1)) 49 true,
    R.g 51 (.load1 (R.t 50)) 49 true,
    R.g 52 (.bin .geq .no (R.t 51) (R.i 0)) 49 true,
    R.q 53 (.pick (R.t 49) (R.t 52) R.ff),
    R.q 54 (.mov (R.t 53)),
    R.g 55 (.fld 3 (R.t 1)) 54 true,
    R.g 56 (.load1 (R.t 55)) 54 true,
    R.g 57 (.bin .leq .no (R.t 56) (R.i 127)) 54 true,
    R.q 58 (.pick (R.t 54) (R.t 57) R.ff),
    R.q 2 (.mov (R.t 58))])
  .ret)))
def r18_MayCred.rs : List RRes := [.tmp 2]
theorem r18_MayCred.of {xs : List AV} {d : Nat} {B : BL} {K : ARes → BL → Prop} (hn : xs.length = 1) (hB : onlyOuter B = true) (h : awp ⟨PT, 59, exitX r18_MayCred.rs K⟩ 10000 [.code r18_MayCred.rc] ⟨params 0 xs, B, .nil⟩) : CallAt PT r18_MayCred xs d B K :=
  call_of_awp 10000 Try.func26 rfl (by kernel_rfl) (by kernel_rfl) (by kernel_rfl) (by rw [hn]; decide) hB h
abbrev l14_Heavy : Nat := 41
def l14_Heavy.rc : RC :=
  (.seq (.reg [R.q 1 (.box (R.t 0)),
    R.q 2 (.mov R.ff)])
  (.seq (.reg [R.q 3 (.fld 5 (R.t 1)),
    R.q 4 (.load1 (R.t 3)),
    R.q 5 (.len (R.t 4)),
    R.q 6 (.bin .gtr .no (R.t 5) (R.i 60)),
    R.q 7 (.mov (R.t 6)),
    R.g 8 (.fld 6 (R.t 1)) 7 false,
    R.g 9 (.load1 (R.t 8)) 7 false,
    R.g 10 (.len (R.t 9)) 7 false,
    R.g 11 (.bin .gtr .no (R.t 10) (R.i 60)) 7 false,
    R.q 12 (.pick (R.t 7) R.tt (R.t 11)),
    R.q 13 (.mov (R.t 12)),
    R.g 14 (.fld 7 (R.t 1)) 13 false,
    R.g 15 (.load1 (R.t 14)) 13 false,
    R.g 16 (.call 76 [(R.t 15)]) 13 false,
    R.g 17 (.un .not (R.t 16)) 13 false,
    R.q 18 (.pick (R.t 13) R.tt (R.t 17)),
    R.q 2 (.mov (R.t 18))])
  .ret))
def l14_Heavy.rs : List RRes := [.tmp 2]
theorem l14_Heavy.of {xs : List AV} {d : Nat} {B : BL} {K : ARes → BL → Prop} (hn : xs.length = 1) (hB : onlyOuter B = true) (h : awp ⟨PT, 19, exitX l14_Heavy.rs K⟩ 10000 [.code l14_Heavy.rc] ⟨params 0 xs, B, .nil⟩) : CallAt PT l14_Heavy xs d B K :=
  call_of_awp 10000 Try.func41 rfl (by kernel_rfl) (by kernel_rfl) (by kernel_rfl) (by rw [hn]; decide) hB h
abbrev r15_Path : Nat := 44
def r15_Path.rc : RC :=
  (.seq (.reg [R.q 2 (.mov R.ff)])
  (.seq (.seq (.reg [R.q 5 (.mov (R.t 0)),
    R.q 6 (.lenS (R.t 5)),
    R.q 7 (.bin .eql .no (R.t 6) (R.i 0)),
    R.q 8 (.mov (R.t 7)),
    R.g 9 (.mov (R.t 0)) 8 false,
    R.g 10 (.lenS (R.t 9)) 8 false,
    R.g 11 (.bin .gtr .no (R.t 10) (R.i 4096)) 8 false,
    R.q 12 (.pick (R.t 8) R.tt (R.t 11))])
  (.cond (R.t 12)
    (.seq (.reg [R.q 2 (.mov R.ff)])
    .ret)
    .skip))
  (.seq (.reg [R.q 13 (.mov (R.t 0)),
    R.q 14 (.call 79 [(R.t 13)]),
    R.q 3 (.mov (R.t 14))])
  (.seq (.seq (.reg [R.q 4 (.mov (R.i 0))])
  (.block 0 (.loop
     (.seq (.seq (.reg [R.q 15 (.mov (R.t 4)),
       R.q 16 (.mov (R.t 3)),
       R.q 17 (.len (R.t 16)),
       R.q 18 (.bin .lss .no (R.t 15) (R.t 17))])
     (.cond (R.t 18)
       .skip
       (.exit 0)))
     (.seq (.block 1 (.seq (.reg [R.q 21 (.mov (R.t 3)),
        R.q 22 (.mov (R.t 4)),
        R.q 23 (.idx 1 (R.t 21) (R.t 22)),
        R.q 24 (.load1 (R.t 23)),
        R.q 25 (.call 80 [(R.t 24)]),
        R.q 26 (.un .not (R.t 25))])
      (.cond (R.t 26)
        (.seq (.reg [R.q 2 (.mov R.ff)])
        .ret)
        .skip)))
     (.reg [R.q 19 (.mov (R.t 4)),
       R.q 20 (.bin .add .no (R.t 19) (R.i 1)),
       R.q 4 (.mov (R.t 20))]))))))
  (.seq (.reg [R.q 27 (.mov (R.t 3)),
    R.q 28 (.len (R.t 27)),
    R.q 29 (.bin .leq .no (R.t 28) (R.i 64)),
    R.q 2 (.mov (R.t 29))])
  .ret)))))
def r15_Path.rs : List RRes := [.tmp 2]
theorem r15_Path.of {xs : List AV} {d : Nat} {B : BL} {K : ARes → BL → Prop} (hn : xs.length = 1) (hB : onlyOuter B = true) (h : awp ⟨PT, 30, exitX r15_Path.rs K⟩ 10000 [.code r15_Path.rc] ⟨params 0 xs, B, .nil⟩) : CallAt PT r15_Path xs d B K :=
  call_of_awp 10000 Try.func44 rfl (by kernel_rfl) (by kernel_rfl) (by kernel_rfl) (by rw [hn]; decide) hB h
abbrev r15_MayBody : Nat := 45
def r15_MayBody.rc : RC :=
  (.seq (.reg [R.q 10 (.mov R.ff)])
  (.seq (.seq (.reg [R.q 12 (.mov (R.t 1)),
    R.q 13 (.lenS (R.t 12)),
    R.q 14 (.bin .gtr .no (R.t 13) (R.i 65536)),
    R.q 15 (.mov (R.t 14)),
    R.g 16 (.mov (R.t 0)) 15 false,
    R.g 17 (.bin .neq .no (R.t 16) (R.i 1)) 15 false,
    R.g 18 (.mov (R.t 17)) 15 false,
    R.g 19 (.mov (R.t 1)) 18 true,
    R.g 20 (.bin .neq .no (R.t 19) (.val (.str fun _ => []))) 18 true,
    R.g 21 (.pick (R.t 18) (R.t 20) R.ff) 15 false,
    R.q 22 (.pick (R.t 15) R.tt (R.t 21)),
    R.q 23 (.mov (R.t 22)),
    R.g 24 (.mov (R.t 3)) 23 false,
    R.g 25 (.bin .lss .no (R.t 24) (R.i 0)) 23 false,
    R.q 26 (.pick (R.t 23) R.tt (R.t 25)),
    R.q 27 (.mov (R.t 26)),
    R.g 28 (.mov (R.t 3)) 27 false,
    R.g 29 (.bin .gtr .no (R.t 28) (R.i 2097151)) 27 false,
    R.q 30 (.pick (R.t 27) R.tt (R.t 29)),
    R.q 31 (.mov (R.t 30)),
    R.g 32 (.mov (R.t 4)) 31 false,
    R.g 33 (.bin .lss .no (R.t 32) (R.i 0)) 31 false,
    R.q 34 (.pick (R.t 31) R.tt (R.t 33)),
    R.q 35 (.mov (R.t 34)),
    R.g 36 (.mov (R.t 4)) 35 false,
    R.g 37 (.bin .gtr .no (R.t 36) (R.i 2097151)) 35 false,
    R.q 38 (.pick (R.t 35) R.tt (R.t 37)),
    R.q 39 (.mov (R.t 38)),
    R.g 40 (.mov (R.t 0)) 39 false,
    R.g 41 (.call 81 [(R.t 40)]) 39 false,
    R.g 42 (.un .not (R.t 41)) 39 false,
    R.g 43 (.mov (R.t 42)) 39 false,
    R.g 44 (.mov (R.t 3)) 43 true,
    R.g 45 (.mov (R.t 4)) 43 true,
    R.g 46 (.bin .add .no (R.t 44) (R.t 45)) 43 true,
    R.g 47 (.bin .neq .no (R.t 46) (R.i 0)) 43 true,
    R.g 48 (.pick (R.t 43) (R.t 47) R.ff) 39 false,
    R.q 49 (.pick (R.t 39) R.tt (R.t 48))])
  (.cond (R.t 49)
    (.seq (.reg [R.q 10 (.mov R.ff)])
    .ret)
    .skip))
  (.seq (.seq (.reg [R.q 50 (.mov (R.t 0))])
  (.block 0 (.seq (.reg [R.q 52 (.bin .eql .no (R.t 50) (R.i 2)),
     R.q 51 (.mov (R.t 52))])
   (.cond (R.t 51)
     (.seq (.reg [R.q 53 (.mov (R.t 2)),
       R.q 54 (.call 44 [(R.t 53)]),
       R.q 10 (.mov (R.t 54))])
     .ret)
     (.seq (.reg [R.q 56 (.bin .eql .no (R.t 50) (R.i 3)),
       R.q 55 (.mov (R.t 56))])
     (.cond (R.t 55)
       (.seq (.seq (.reg [R.q 57 (.mov (R.t 2)),
         R.q 58 (.lenS (R.t 57)),
         R.q 59 (.bin .eql .no (R.t 58) (R.i 0)),
         R.q 60 (.mov (R.t 59)),
         R.g 61 (.mov (R.t 2)) 60 false,
         R.g 62 (.lenS (R.t 61)) 60 false,
         R.g 63 (.bin .gtr .no (R.t 62) (R.i 4096)) 60 false,
         R.q 64 (.pick (R.t 60) R.tt (R.t 63))])
       (.cond (R.t 64)
         (.seq (.reg [R.q 10 (.mov R.ff)])
         .ret)
         .skip))
       (.seq (.seq (.reg [R.q 11 (.mov (R.i 0))])
       (.block 1 (.loop
          (.seq (.seq (.reg [R.q 65 (.mov (R.t 11)),
            R.q 66 (.mov (R.t 2)),
            R.q 67 (.lenS (R.t 66)),
            R.q 68 (.bin .lss .no (R.t 65) (R.t 67))])
          (.cond (R.t 68)
            .skip
            (.exit 1)))
          (.seq (.block 2 (.seq (.reg [R.q 71 (.mov (R.t 2)),
             R.q 72 (.mov (R.t 11)),
             R.q 73 (.idxS (R.t 71) (R.t 72)),
             R.q 74 (.bin .eql .no (R.t 73) (R.u 0))])
           (.cond (R.t 74)
             (.seq (.reg [R.q 10 (.mov R.ff)])
             .ret)
             .skip)))
          (.reg [R.q 69 (.mov (R.t 11)),
            R.q 70 (.bin .add .no (R.t 69) (R.i 1)),
            R.q 11 (.mov (R.t 70))]))))))
       (.seq (.reg [R.q 10 (.mov R.tt)])
       .ret)))
       .skip))))))
  (.seq (.reg [R.q 75 (.mov (R.t 2)),
    R.q 76 (.bin .eql .no (R.t 75) (.val (.str fun _ => []))),
    R.q 10 (.mov (R.t 76))])
  .ret))))
def r15_MayBody.rs : List RRes := [.tmp 10]
theorem r15_MayBody.of {xs : List AV} {d : Nat} {B : BL} {K : ARes → BL → Prop} (hn : xs.length = 5) (hB : onlyOuter B = true) (h : awp ⟨PT, 77, exitX r15_MayBody.rs K⟩ 10000 [.code r15_MayBody.rc] ⟨params 0 xs, B, .nil⟩) : CallAt PT r15_MayBody xs d B K :=
  call_of_awp 10000 Try.func45 rfl (by kernel_rfl) (by kernel_rfl) (by kernel_rfl) (by rw [hn]; decide) hB h
abbrev r1_MayRec : Nat := 47
def r1_MayRec.rc : RC :=
  (.seq (.reg [R.q 1 (.box (R.t 0)),
    R.q 2 (.mov R.ff)])
  (.seq (.reg [R.q 3 (.fld 0 (R.t 1)),
    R.q 4 (.load1 (R.t 3)),
    R.q 5 (.lenS (R.t 4)),
    R.q 6 (.bin .gtr .no (R.t 5) (R.i 0)),
    R.q 7 (.mov (R.t 6)),
    R.g 8 (.fld 0 (R.t 1)) 7 true,
    R.g 9 (.load1 (R.t 8)) 7 true,
    R.g 10 (.lenS (R.t 9)) 7 true,
    R.g 11 (.bin .leq .no (R.t 10) (R.i 255)) 7 true,
    R.q 12 (.pick (R.t 7) (R.t 11) R.ff),
    R.q 13 (.mov (R.t 12)),
    R.g 14 (.fld 0 (R.t 1)) 13 true,
    R.g 15 (.load1 (R.t 14)) 13 true,
    R.g 16 (.call 92 [(R.t 15), (R.u 0)]) 13 true,
    R.g 17 (.un .not (R.t 16)) 13 true,
    R.q 18 (.pick (R.t 13) (R.t 17) R.ff),
    R.q 19 (.mov (R.t 18)),
    R.g 20 (.fld 0 (R.t 1)) 19 true,
    R.g 21 (.load1 (R.t 20)) 19 true,
    R.g 22 (.call 92 [(R.t 21), (R.u 61)]) 19 true,
    R.g 23 (.un .not (R.t 22)) 19 true,
    R.q 24 (.pick (R.t 19) (R.t 23) R.ff),
    R.q 25 (.mov (R.t 24)),
    R.g 26 (.fld 1 (R.t 1)) 25 true,
    R.g 27 (.load1 (R.t 26)) 25 true,
    R.g 28 (.lenS (R.t 27)) 25 true,
    R.g 29 (.bin .leq .no (R.t 28) (R.i 65536)) 25 true,
    R.q 30 (.pick (R.t 25) (R.t 29) R.ff),
    R.q 31 (.mov (R.t 30)),
    R.g 32 (.loadA 2 (R.t 1)) 31 true,
    R.g 33 (.call 93 [(R.t 32)]) 31 true,
    R.g 34 (.lenS (R.t 33)) 31 true,
    R.g 35 (.bin .leq .no (R.t 34) (R.i 65536)) 31 true,
    R.q 36 (.pick (R.t 31) (R.t 35) R.ff),
    R.q 2 (.mov (R.t 36))])
  .ret))
def r1_MayRec.rs : List RRes := [.tmp 2]
theorem r1_MayRec.of {xs : List AV} {d : Nat} {B : BL} {K : ARes → BL → Prop} (hn : xs.length = 1) (hB : onlyOuter B = true) (h : awp ⟨PT, 37, exitX r1_MayRec.rs K⟩ 10000 [.code r1_MayRec.rc] ⟨params 0 xs, B, .nil⟩) : CallAt PT r1_MayRec xs d B K :=
  call_of_awp 10000 Try.func47 rfl (by kernel_rfl) (by kernel_rfl) (by kernel_rfl) (by rw [hn]; decide) hB h
abbrev r1_PutRec : Nat := 48
def r1_PutRec.rc : RC :=
  (.seq (.reg [R.q 1 (.box (R.t 0)),
    R.q 2 (.mov (.val (.str fun _ => [])))])
  (.seq (.seq (.reg [R.q 3 (.loadA 2 (R.t 1)),
    R.q 4 (.call 47 [(R.t 3)]),
    R.q 5 (.un .not (R.t 4))])
  (.cond (R.t 5)
    (.seq (.reg [R.q 2 (.mov (.val (.str fun _ => [])))])
    .ret)
    .skip))
  (.seq (.reg [R.q 6 (.loadA 2 (R.t 1)),
    R.q 7 (.call 93 [(R.t 6)]),
    R.q 2 (.mov (R.t 7))])
  .ret)))
def r1_PutRec.rs : List RRes := [.tmp 2]
theorem r1_PutRec.of {xs : List AV} {d : Nat} {B : BL} {K : ARes → BL → Prop} (hn : xs.length = 1) (hB : onlyOuter B = true) (h : awp ⟨PT, 8, exitX r1_PutRec.rs K⟩ 10000 [.code r1_PutRec.rc] ⟨params 0 xs, B, .nil⟩) : CallAt PT r1_PutRec xs d B K :=
  call_of_awp 10000 Try.func48 rfl (by kernel_rfl) (by kernel_rfl) (by kernel_rfl) (by rw [hn]; decide) hB h
abbrev l13_Few : Nat := 76
def l13_Few.rc : RC :=
  (.seq (.reg [R.q 2 (.mov R.ff)])
  (.seq (.seq (.reg [R.q 3 (.mov (R.i 0))])
  (.block 0 (.loop
     (.seq (.seq (.reg [R.q 4 (.mov (R.t 3)),
       R.q 5 (.mov (R.t 0)),
       R.q 6 (.len (R.t 5)),
       R.q 7 (.bin .lss .no (R.t 4) (R.t 6)),
       R.q 8 (.mov (R.t 7)),
       R.g 9 (.mov (R.t 3)) 8 true,
       R.g 10 (.bin .lss .no (R.t 9) (R.i 40)) 8 true,
       R.q 11 (.pick (R.t 8) (R.t 10) R.ff)])
     (.cond (R.t 11)
       .skip
       (.exit 0)))
     (.seq (.block 1 (.seq (.reg [R.q 14 (.mov (R.t 0)),
        R.q 15 (.mov (R.t 3)),
        R.q 16 (.idx 2 (R.t 14) (R.t 15)),
        R.q 17 (.fld 0 (R.t 16)),
        R.q 18 (.load1 (R.t 17)),
        R.q 19 (.lenS (R.t 18)),
        R.q 20 (.bin .gtr .no (R.t 19) (R.i 400)),
        R.q 21 (.mov (R.t 20)),
        R.g 22 (.mov (R.t 0)) 21 false,
        R.g 23 (.mov (R.t 3)) 21 false,
        R.g 24 (.idx 2 (R.t 22) (R.t 23)) 21 false,
        R.g 25 (.fld 1 (R.t 24)) 21 false,
        R.g 26 (.load1 (R.t 25)) 21 false,
        R.g 27 (.lenS (R.t 26)) 21 false,
        R.g 28 (.bin .gtr .no (R.t 27) (R.i 5000)) 21 false,
        R.q 29 (.pick (R.t 21) R.tt (R.t 28))])
      (.cond (R.t 29)
        (.seq (.reg [R.q 2 (.mov R.ff)])
        .ret)
        .skip)))
     (.reg [R.q 12 (.mov (R.t 3)),
       R.q 13 (.bin .add .no (R.t 12) (R.i 1)),
       R.q 3 (.mov (R.t 13))]))))))
  (.seq (.reg [R.q 30 (.mov (R.t 0)),
    R.q 31 (.len (R.t 30)),
    R.q 32 (.bin .leq .no (R.t 31) (R.i 40)),
    R.q 2 (.mov (R.t 32))])
  .ret)))
def l13_Few.rs : List RRes := [.tmp 2]
theorem l13_Few.of {xs : List AV} {d : Nat} {B : BL} {K : ARes → BL → Prop} (hn : xs.length = 1) (hB : onlyOuter B = true) (h : awp ⟨PT, 33, exitX l13_Few.rs K⟩ 10000 [.code l13_Few.rc] ⟨params 0 xs, B, .nil⟩) : CallAt PT l13_Few xs d B K :=
  call_of_awp 10000 Try.func76 rfl (by kernel_rfl) (by kernel_rfl) (by kernel_rfl) (by rw [hn]; decide) hB h
abbrev r15_names : Nat := 79
def r15_names.rc : RC :=
  (.seq (.reg [R.q 2 (.mov (.val .nsl))])
  (.seq (.reg [R.q 3 (.mov (.val .nsl))])
  (.seq (.reg [R.q 4 (.mov (R.i 0))])
  (.seq (.seq (.reg [R.q 5 (.mov (R.i 0))])
  (.block 0 (.loop
     (.seq (.seq (.reg [R.q 6 (.mov (R.t 5)),
       R.q 7 (.mov (R.t 0)),
       R.q 8 (.lenS (R.t 7)),
       R.q 9 (.bin .leq .no (R.t 6) (R.t 8))])
     (.cond (R.t 9)
       .skip
       (.exit 0)))
     (.seq (.block 1 (.seq (.reg [R.q 12 (.mov (R.t 5)),
        R.q 13 (.mov (R.t 0)),
        R.q 14 (.lenS (R.t 13)),
        R.q 15 (.bin .eql .no (R.t 12) (R.t 14)),
        R.q 16 (.mov (R.t 15)),
        R.g 17 (.mov (R.t 0)) 16 false,
        R.g 18 (.mov (R.t 5)) 16 false,
        R.g 19 (.idxS (R.t 17) (R.t 18)) 16 false,
        R.g 20 (.bin .eql .no (R.t 19) (R.u 47)) 16 false,
        R.q 21 (.pick (R.t 16) R.tt (R.t 20))])
      (.cond (R.t 21)
        (.seq (.reg [R.q 22 (.mov (R.t 3)),
          R.q 23 (.mov (R.t 0)),
          R.q 24 (.mov (R.t 4)),
          R.q 25 (.mov (R.t 5)),
          R.q 26 (.sliceS (R.t 23) (some (R.t 24)) (some (R.t 25))),
          R.q 27 (.bslice 1 (.cons (.str fun _ => []) .nil) 1 [(0, 1, (R.t 26))]),
          R.q 28 (.append 1 16 (R.t 22) (R.t 27)),
          R.q 3 (.mov (R.t 28))])
        (.reg [R.q 29 (.mov (R.t 5)),
          R.q 30 (.bin .add .no (R.t 29) (R.i 1)),
          R.q 4 (.mov (R.t 30))]))
        .skip)))
     (.reg [R.q 10 (.mov (R.t 5)),
       R.q 11 (.bin .add .no (R.t 10) (R.i 1)),
       R.q 5 (.mov (R.t 11))]))))))
  (.seq (.reg [R.q 31 (.mov (R.t 3)),
    R.q 2 (.mov (R.t 31))])
  .ret)))))
def r15_names.rs : List RRes := [.tmp 2]
theorem r15_names.of {xs : List AV} {d : Nat} {B : BL} {K : ARes → BL → Prop} (hn : xs.length = 1) (hB : onlyOuter B = true) (h : awp ⟨PT, 32, exitX r15_names.rs K⟩ 10000 [.code r15_names.rc] ⟨params 0 xs, B, .nil⟩) : CallAt PT r15_names xs d B K :=
  call_of_awp 10000 Try.func79 rfl (by kernel_rfl) (by kernel_rfl) (by kernel_rfl) (by rw [hn]; decide) hB h
abbrev r15_MayName : Nat := 80
def r15_MayName.rc : RC :=
  (.seq (.reg [R.q 2 (.mov R.ff)])
  (.seq (.seq (.reg [R.q 4 (.mov (R.t 0)),
    R.q 5 (.lenS (R.t 4)),
    R.q 6 (.bin .eql .no (R.t 5) (R.i 0)),
    R.q 7 (.mov (R.t 6)),
    R.g 8 (.mov (R.t 0)) 7 false,
    R.g 9 (.lenS (R.t 8)) 7 false,
    R.g 10 (.bin .gtr .no (R.t 9) (R.i 255)) 7 false,
    R.q 11 (.pick (R.t 7) R.tt (R.t 10)),
    R.q 12 (.mov (R.t 11)),
    R.g 13 (.mov (R.t 0)) 12 false,
    R.g 14 (.bin .eql .no (R.t 13) (.val (.str fun _ => [46]))) 12 false,
    R.q 15 (.pick (R.t 12) R.tt (R.t 14)),
    R.q 16 (.mov (R.t 15)),
    R.g 17 (.mov (R.t 0)) 16 false,
    R.g 18 (.bin .eql .no (R.t 17) (.val (.str fun _ => [46, 46]))) 16 false,
    R.q 19 (.pick (R.t 16) R.tt (R.t 18))])
  (.cond (R.t 19)
    (.seq (.reg [R.q 2 (.mov R.ff)])
    .ret)
    .skip))
  (.seq (.seq (.reg [R.q 3 (.mov (R.i 0))])
  (.block 0 (.loop
     (.seq (.seq (.reg [R.q 20 (.mov (R.t 3)),
       R.q 21 (.mov (R.t 0)),
       R.q 22 (.lenS (R.t 21)),
       R.q 23 (.bin .lss .no (R.t 20) (R.t 22))])
     (.cond (R.t 23)
       .skip
       (.exit 0)))
     (.seq (.block 1 (.seq (.reg [R.q 26 (.mov (R.t 0)),
        R.q 27 (.mov (R.t 3)),
        R.q 28 (.idxS (R.t 26) (R.t 27)),
        R.q 29 (.bin .eql .no (R.t 28) (R.u 0)),
        R.q 30 (.mov (R.t 29)),
        R.g 31 (.mov (R.t 0)) 30 false,
        R.g 32 (.mov (R.t 3)) 30 false,
        R.g 33 (.idxS (R.t 31) (R.t 32)) 30 false,
        R.g 34 (.bin .eql .no (R.t 33) (R.u 47)) 30 false,
        R.q 35 (.pick (R.t 30) R.tt (R.t 34))])
      (.cond (R.t 35)
        (.seq (.reg [R.q 2 (.mov R.ff)])
        .ret)
        .skip)))
     (.reg [R.q 24 (.mov (R.t 3)),
       R.q 25 (.bin .add .no (R.t 24) (R.i 1)),
       R.q 3 (.mov (R.t 25))]))))))
  (.seq (.reg [R.q 2 (.mov R.tt)])
  .ret))))
def r15_MayName.rs : List RRes := [.tmp 2]
theorem r15_MayName.of {xs : List AV} {d : Nat} {B : BL} {K : ARes → BL → Prop} (hn : xs.length = 1) (hB : onlyOuter B = true) (h : awp ⟨PT, 36, exitX r15_MayName.rs K⟩ 10000 [.code r15_MayName.rc] ⟨params 0 xs, B, .nil⟩) : CallAt PT r15_MayName xs d B K :=
  call_of_awp 10000 Try.func80 rfl (by kernel_rfl) (by kernel_rfl) (by kernel_rfl) (by rw [hn]; decide) hB h
abbrev r15_device : Nat := 81
def r15_device.rc : RC :=
  (.seq (.reg [R.q 2 (.mov R.ff)])
  (.seq (.reg [R.q 3 (.mov (R.t 0)),
    R.q 4 (.bin .eql .no (R.t 3) (R.i 4)),
    R.q 5 (.mov (R.t 4)),
    R.g 6 (.mov (R.t 0)) 5 false,
    R.g 7 (.bin .eql .no (R.t 6) (R.i 5)) 5 false,
    R.q 8 (.pick (R.t 5) R.tt (R.t 7)),
    R.q 2 (.mov (R.t 8))])
  .ret))
def r15_device.rs : List RRes := [.tmp 2]
theorem r15_device.of {xs : List AV} {d : Nat} {B : BL} {K : ARes → BL → Prop} (hn : xs.length = 1) (hB : onlyOuter B = true) (h : awp ⟨PT, 9, exitX r15_device.rs K⟩ 10000 [.code r15_device.rc] ⟨params 0 xs, B, .nil⟩) : CallAt PT r15_device xs d B K :=
  call_of_awp 10000 Try.func81 rfl (by kernel_rfl) (by kernel_rfl) (by kernel_rfl) (by rw [hn]; decide) hB h
abbrev r1_Split : Nat := 82
def r1_Split.rc : RC :=
  (.seq (.reg [R.q 2 (.alloc (.cons (.str fun _ => []) (.cons (.str fun _ => []) (.cons .ff .nil))))])
  (.seq (.seq (.reg [R.q 4 (.mov (R.t 0)),
    R.q 5 (.lenS (R.t 4)),
    R.q 6 (.bin .leq .no (R.t 5) (R.i 100))])
  (.cond (R.t 6)
    (.seq (.reg [R.q 7 (.mov (R.t 0)),
      R.q 8 (.build (.cons (.str fun _ => []) (.cons (.str fun _ => []) (.cons .ff .nil))) [(1, 1, (R.t 7)), (2, 1, R.tt)]),
      R.e (.store 3 (R.t 2) (R.t 8))])
    .ret)
    .skip))
  (.seq (.seq (.reg [R.q 3 (.mov (R.i 0))])
  (.block 0 (.loop
     (.seq (.seq (.reg [R.q 9 (.mov (R.t 3)),
       R.q 10 (.bin .add .no (R.t 9) (R.i 1)),
       R.q 11 (.mov (R.t 0)),
       R.q 12 (.lenS (R.t 11)),
       R.q 13 (.bin .lss .no (R.t 10) (R.t 12))])
     (.cond (R.t 13)
       .skip
       (.exit 0)))
     (.seq (.block 1 (.seq (.reg [R.q 16 (.mov (R.t 0)),
        R.q 17 (.mov (R.t 3)),
        R.q 18 (.idxS (R.t 16) (R.t 17)),
        R.q 19 (.bin .eql .no (R.t 18) (R.u 47)),
        R.q 20 (.mov (R.t 19)),
        R.g 21 (.mov (R.t 0)) 20 true,
        R.g 22 (.lenS (R.t 21)) 20 true,
        R.g 23 (.mov (R.t 3)) 20 true,
        R.g 24 (.bin .sub .no (R.t 22) (R.t 23)) 20 true,
        R.g 25 (.bin .sub .no (R.t 24) (R.i 1)) 20 true,
        R.g 26 (.bin .leq .no (R.t 25) (R.i 100)) 20 true,
        R.q 27 (.pick (R.t 20) (R.t 26) R.ff)])
      (.cond (R.t 27)
        (.seq (.seq (.reg [R.q 28 (.mov (R.t 3)),
          R.q 29 (.bin .eql .no (R.t 28) (R.i 0)),
          R.q 30 (.mov (R.t 29)),
          R.g 31 (.mov (R.t 3)) 30 false,
          R.g 32 (.bin .gtr .no (R.t 31) (R.i 155)) 30 false,
          R.q 33 (.pick (R.t 30) R.tt (R.t 32))])
        (.cond (R.t 33)
          (.seq (.reg [R.q 34 (.build (.cons (.str fun _ => []) (.cons (.str fun _ => []) (.cons .ff .nil))) []),
            R.e (.store 3 (R.t 2) (R.t 34))])
          .ret)
          .skip))
        (.seq (.regd [R.f (R.q 35 (.mov (R.t 0))),
          R.f (R.q 36 (.mov (R.t 3))),
          R.f (R.q 37 (.sliceS (R.t 35) none (some (R.t 36)))),
          R.f (R.q 38 (.mov (R.t 0))),
          R.f (R.q 39 (.mov (R.t 3))),
          R.f (R.q 40 (.bin .add .no (R.t 39) (R.i 1))),
          R.f (R.q 41 (.sliceS (R.t 38) (some (R.t 40)) none)),
          R.f (R.q 42 (.build (.cons (.str fun _ => []) (.cons (.str fun _ => []) (.cons .ff .nil))) [(0, 1, (R.t 37)), (1, 1, (R.t 41)), (2, 1, R.tt)])),
          R.s (R.e (.store 3 (R.t 2) (R.t 42))) []])
        .ret))
        .skip)))
     (.reg [R.q 14 (.mov (R.t 3)),
       R.q 15 (.bin .add .no (R.t 14) (R.i 1)),
       R.q 3 (.mov (R.t 15))]))))))
  (.seq (.reg [R.q 43 (.build (.cons (.str fun _ => []) (.cons (.str fun _ => []) (.cons .ff .nil))) []),
    R.e (.store 3 (R.t 2) (R.t 43))])
  .ret))))
def r1_Split.rs : List RRes := [.cellA 2 3]
theorem r1_Split.of {xs : List AV} {d : Nat} {B : BL} {K : ARes → BL → Prop} (hn : xs.length = 1) (hB : onlyOuter B = true) (h : awp ⟨PT, 44, exitX r1_Split.rs K⟩ 10000 [.code r1_Split.rc] ⟨params 0 xs, B, .nil⟩) : CallAt PT r1_Split xs d B K :=
  call_of_awp 10000 Try.func82 rfl (by kernel_rfl) (by kernel_rfl) (by kernel_rfl) (by rw [hn]; decide) hB h
abbrev r1_Valid : Nat := 83
def r1_Valid.rc : RC :=
  (.seq (.reg [R.q 2 (.mov R.ff)])
  (.seq (.reg [R.q 3 (.mov (R.t 0)),
    R.q 4 (.call 118 [(R.t 3)]),
    R.q 5 (.bin .lss .no (R.t 4) (R.i 0)),
    R.q 2 (.mov (R.t 5))])
  .ret))
def r1_Valid.rs : List RRes := [.tmp 2]
theorem r1_Valid.of {xs : List AV} {d : Nat} {B : BL} {K : ARes → BL → Prop} (hn : xs.length = 1) (hB : onlyOuter B = true) (h : awp ⟨PT, 6, exitX r1_Valid.rs K⟩ 10000 [.code r1_Valid.rc] ⟨params 0 xs, B, .nil⟩) : CallAt PT r1_Valid xs d B K :=
  call_of_awp 10000 Try.func83 rfl (by kernel_rfl) (by kernel_rfl) (by kernel_rfl) (by rw [hn]; decide) hB h
abbrev r1_Digits : Nat := 84
def r1_Digits.rc : RC :=
  (.seq (.reg [R.q 2 (.mov (.val (.str fun _ => [])))])
  (.seq (.reg [R.q 3 (.mov (.val (.str fun _ => [])))])
  (.seq (.block 0 (.loop
     (.seq (.seq (.reg [R.q 4 (.mov (R.t 0)),
       R.q 5 (.bin .geq .no (R.t 4) (R.i 10))])
     (.cond (R.t 5)
       .skip
       (.exit 0)))
     (.block 1 (.seq (.reg [R.q 6 (.mov (R.t 0)),
        R.q 7 (.bin .rem .no (R.t 6) (R.i 10)),
        R.q 8 (.bin .add .no (R.i 48) (R.t 7)),
        R.q 9 (.conv .u8 (R.t 8)),
        R.q 10 (.bslice 1 (.cons (.int .u8 fun _ => 0) .nil) 1 [(0, 1, (R.t 9))]),
        R.q 11 (.b2s (R.t 10)),
        R.q 12 (.mov (R.t 3)),
        R.q 13 (.bin .add .no (R.t 11) (R.t 12)),
        R.q 3 (.mov (R.t 13))])
      (.reg [R.q 14 (.mov (R.t 0)),
        R.q 15 (.bin .quo .no (R.t 14) (R.i 10)),
        R.q 0 (.mov (R.t 15))]))))))
  (.seq (.reg [R.q 16 (.mov (R.t 0)),
    R.q 17 (.bin .add .no (R.i 48) (R.t 16)),
    R.q 18 (.conv .u8 (R.t 17)),
    R.q 19 (.bslice 1 (.cons (.int .u8 fun _ => 0) .nil) 1 [(0, 1, (R.t 18))]),
    R.q 20 (.b2s (R.t 19)),
    R.q 21 (.mov (R.t 3)),
    R.q 22 (.bin .add .no (R.t 20) (R.t 21)),
    R.q 2 (.mov (R.t 22))])
  .ret))))
def r1_Digits.rs : List RRes := [.tmp 2]
theorem r1_Digits.of {xs : List AV} {d : Nat} {B : BL} {K : ARes → BL → Prop} (hn : xs.length = 1) (hB : onlyOuter B = true) (h : awp ⟨PT, 23, exitX r1_Digits.rs K⟩ 10000 [.code r1_Digits.rc] ⟨params 0 xs, B, .nil⟩) : CallAt PT r1_Digits xs d B K :=
  call_of_awp 10000 Try.func84 rfl (by kernel_rfl) (by kernel_rfl) (by kernel_rfl) (by rw [hn]; decide) hB h
abbrev r15_long : Nat := 85
def r15_long.rc : RC :=
  (.seq (.reg [R.q 1 (.box (R.t 0)),
    R.q 2 (.mov R.ff)])
  (.seq (.reg [R.q 3 (.fld 1 (R.t 1)),
    R.q 4 (.load1 (R.t 3)),
    R.q 5 (.bin .neq .no (R.t 4) (R.i 0)),
    R.q 6 (.mov (R.t 5)),
    R.g 7 (.fld 0 (R.t 1)) 6 false,
    R.g 8 (.load1 (R.t 7)) 6 false,
    R.g 9 (.bin .lss .no (R.t 8) (R.i 0)) 6 false,
    R.q 10 (.pick (R.t 6) R.tt (R.t 9)),
    R.q 11 (.mov (R.t 10)),
    R.g 12 (.fld 0 (R.t 1)) 11 false,
    R.g 13 (.load1 (R.t 12)) 11 false,
    R.g 14 (.bin .geq .no (R.t 13) (R.i 8589934592)) 11 false,
    R.q 15 (.pick (R.t 11) R.tt (R.t 14)),
    R.q 2 (.mov (R.t 15))])
  .ret))
def r15_long.rs : List RRes := [.tmp 2]
theorem r15_long.of {xs : List AV} {d : Nat} {B : BL} {K : ARes → BL → Prop} (hn : xs.length = 1) (hB : onlyOuter B = true) (h : awp ⟨PT, 16, exitX r15_long.rs K⟩ 10000 [.code r15_long.rc] ⟨params 0 xs, B, .nil⟩) : CallAt PT r15_long xs d B K :=
  call_of_awp 10000 Try.func85 rfl (by kernel_rfl) (by kernel_rfl) (by kernel_rfl) (by rw [hn]; decide) hB h
abbrev r1_TextStamp : Nat := 86
def r1_TextStamp.rc : RC :=
  (.seq (.reg [R.q 1 (.box (R.t 0)),
    R.q 2 (.mov (.val (.str fun _ => [])))])
  (.seq (.regd [R.f (R.q 8 (.fld 0 (R.t 1))),
    R.f (R.q 9 (.load1 (R.t 8))),
    R.f (R.q 10 (.fld 1 (R.t 1))),
    R.f (R.q 11 (.load1 (R.t 10))),
    R.s (R.q 3 (.mov (.val (.str fun _ => [])))) [0, 1, 2, 3],
    R.s (R.q 4 (.mov (R.t 9))) [2, 3],
    R.s (R.q 5 (.mov (R.t 11))) []])
  (.seq (.seq (.reg [R.q 12 (.mov (R.t 4)),
    R.q 13 (.bin .lss .no (R.t 12) (R.i 0))])
  (.cond (R.t 13)
    (.seq (.reg [R.q 3 (.mov (.val (.str fun _ => [45])))])
    (.seq (.reg [R.q 14 (.mov (R.t 4)),
      R.q 15 (.un .neg (R.t 14)),
      R.q 4 (.mov (R.t 15))])
    (.seq (.reg [R.q 16 (.mov (R.t 5)),
      R.q 17 (.bin .gtr .no (R.t 16) (R.i 0))])
    (.cond (R.t 17)
      (.seq (.reg [R.q 18 (.mov (R.t 4)),
        R.q 19 (.bin .sub .no (R.t 18) (R.i 1)),
        R.q 4 (.mov (R.t 19))])
      (.reg [R.q 20 (.mov (R.t 5)),
        R.q 21 (.bin .sub .no (R.i 1000000000) (R.t 20)),
        R.q 5 (.mov (R.t 21))]))
      .skip))))
    .skip))
  (.seq (.reg [R.q 22 (.mov (R.t 3)),
    R.q 23 (.mov (R.t 4)),
    R.q 24 (.call 84 [(R.t 23)]),
    R.q 25 (.bin .add .no (R.t 22) (R.t 24)),
    R.q 6 (.mov (R.t 25))])
  (.seq (.seq (.reg [R.q 26 (.mov (R.t 5)),
    R.q 27 (.bin .eql .no (R.t 26) (R.i 0))])
  (.cond (R.t 27)
    (.seq (.reg [R.q 28 (.mov (R.t 6)),
      R.q 2 (.mov (R.t 28))])
    .ret)
    .skip))
  (.seq (.reg [R.q 29 (.mov (R.t 5)),
    R.q 30 (.bin .add .no (R.i 1000000000) (R.t 29)),
    R.q 31 (.call 84 [(R.t 30)]),
    R.q 32 (.sliceS (R.t 31) (some (R.i 1)) none),
    R.q 7 (.mov (R.t 32))])
  (.seq (.block 0 (.loop
     (.seq (.seq (.reg [R.q 33 (.mov (R.t 7)),
       R.q 34 (.mov (R.t 7)),
       R.q 35 (.lenS (R.t 34)),
       R.q 36 (.bin .sub .no (R.t 35) (R.i 1)),
       R.q 37 (.idxS (R.t 33) (R.t 36)),
       R.q 38 (.bin .eql .no (R.t 37) (R.u 48))])
     (.cond (R.t 38)
       .skip
       (.exit 0)))
     (.block 1 (.reg [R.q 39 (.mov (R.t 7)),
        R.q 40 (.mov (R.t 7)),
        R.q 41 (.lenS (R.t 40)),
        R.q 42 (.bin .sub .no (R.t 41) (R.i 1)),
        R.q 43 (.sliceS (R.t 39) none (some (R.t 42))),
        R.q 7 (.mov (R.t 43))])))))
  (.seq (.reg [R.q 44 (.mov (R.t 6)),
    R.q 45 (.bin .add .no (R.t 44) (.val (.str fun _ => [46]))),
    R.q 46 (.mov (R.t 7)),
    R.q 47 (.bin .add .no (R.t 45) (R.t 46)),
    R.q 2 (.mov (R.t 47))])
  .ret))))))))
def r1_TextStamp.rs : List RRes := [.tmp 2]
theorem r1_TextStamp.of {xs : List AV} {d : Nat} {B : BL} {K : ARes → BL → Prop} (hn : xs.length = 1) (hB : onlyOuter B = true) (h : awp ⟨PT, 48, exitX r1_TextStamp.rs K⟩ 10000 [.code r1_TextStamp.rc] ⟨params 0 xs, B, .nil⟩) : CallAt PT r1_TextStamp xs d B K :=
  call_of_awp 10000 Try.func86 rfl (by kernel_rfl) (by kernel_rfl) (by kernel_rfl) (by rw [hn]; decide) hB h
abbrev r9_TextAcl : Nat := 87
def r9_TextAcl.rc : RC :=
  (.seq (.reg [R.q 2 (.mov (.val (.str fun _ => [])))])
  (.seq (.reg [R.q 3 (.mov (.val (.str fun _ => [])))])
  (.seq (.seq (.reg [R.q 4 (.mov (R.i 0))])
  (.block 0 (.loop
     (.seq (.seq (.reg [R.q 6 (.mov (R.t 4)),
       R.q 7 (.mov (R.t 0)),
       R.q 8 (.len (R.t 7)),
       R.q 9 (.bin .lss .no (R.t 6) (R.t 8))])
     (.cond (R.t 9)
       .skip
       (.exit 0)))
     (.seq (.block 1 (.seq (.reg [R.q 12 (.mov (R.t 0)),
        R.q 13 (.mov (R.t 4)),
        R.q 14 (.idx 3 (R.t 12) (R.t 13)),
        R.q 15 (.loadA 3 (R.t 14)),
        R.q 5 (.alloc (.cons (R.z 0) (.cons (R.z 0) (.cons (R.z 0) .nil)))),
        R.e (.store 3 (R.t 5) (R.t 15))])
      (.seq (.seq (.reg [R.q 16 (.mov (R.t 4)),
        R.q 17 (.bin .gtr .no (R.t 16) (R.i 0))])
      (.cond (R.t 17)
        (.reg [R.q 18 (.mov (R.t 3)),
          R.q 19 (.bin .add .no (R.t 18) (.val (.str fun _ => [44]))),
          R.q 3 (.mov (R.t 19))])
        .skip))
      (.seq (.reg [R.q 20 (.mov (R.t 3)),
        R.q 21 (.bslice 1 (.cons (.str fun _ => []) .nil) 7 [(0, 1, (.val (.str fun _ => []))), (1, 1, (.val (.str fun _ => [117]))), (2, 1, (.val (.str fun _ => [117]))), (3, 1, (.val (.str fun _ => [103]))), (4, 1, (.val (.str fun _ => [103]))), (5, 1, (.val (.str fun _ => [109]))), (6, 1, (.val (.str fun _ => [111])))]),
        R.q 22 (.fld 0 (R.t 5)),
        R.q 23 (.load1 (R.t 22)),
        R.q 24 (.idx 1 (R.t 21) (R.t 23)),
        R.q 25 (.load1 (R.t 24)),
        R.q 26 (.bin .add .no (R.t 20) (R.t 25)),
        R.q 27 (.bin .add .no (R.t 26) (.val (.str fun _ => [58]))),
        R.q 3 (.mov (R.t 27))])
      (.seq (.seq (.reg [R.q 28 (.loadA 3 (R.t 5)),
        R.q 29 (.call 107 [(R.t 28)])])
      (.cond (R.t 29)
        (.reg [R.q 30 (.mov (R.t 3)),
          R.q 31 (.fld 1 (R.t 5)),
          R.q 32 (.load1 (R.t 31)),
          R.q 33 (.call 84 [(R.t 32)]),
          R.q 34 (.bin .add .no (R.t 30) (R.t 33)),
          R.q 3 (.mov (R.t 34))])
        .skip))
      (.reg [R.q 35 (.mov (R.t 3)),
        R.q 36 (.bin .add .no (R.t 35) (.val (.str fun _ => [58]))),
        R.q 37 (.fld 2 (R.t 5)),
        R.q 38 (.load1 (R.t 37)),
        R.q 39 (.call 119 [(R.t 38)]),
        R.q 40 (.bin .add .no (R.t 36) (R.t 39)),
        R.q 3 (.mov (R.t 40))]))))))
     (.reg [R.q 10 (.mov (R.t 4)),
       R.q 11 (.bin .add .no (R.t 10) (R.i 1)),
       R.q 4 (.mov (R.t 11))]))))))
  (.seq (.reg [R.q 41 (.mov (R.t 3)),
    R.q 2 (.mov (R.t 41))])
  .ret))))
def r9_TextAcl.rs : List RRes := [.tmp 2]
theorem r9_TextAcl.of {xs : List AV} {d : Nat} {B : BL} {K : ARes → BL → Prop} (hn : xs.length = 1) (hB : onlyOuter B = true) (h : awp ⟨PT, 42, exitX r9_TextAcl.rs K⟩ 10000 [.code r9_TextAcl.rc] ⟨params 0 xs, B, .nil⟩) : CallAt PT r9_TextAcl xs d B K :=
  call_of_awp 10000 Try.func87 rfl (by kernel_rfl) (by kernel_rfl) (by kernel_rfl) (by rw [hn]; decide) hB h
abbrev r9_TextFlags : Nat := 88
def r9_TextFlags.rc : RC :=
  (.seq (.reg [R.q 2 (.mov (.val (.str fun _ => [])))])
  (.seq (.seq (.reg [R.q 6 (.mov (R.t 0)),
    R.q 7 (.call 66 [(R.t 6)]),
    R.q 8 (.un .not (R.t 7))])
  (.cond (R.t 8)
    (.seq (.reg [R.q 2 (.mov (.val (.str fun _ => [])))])
    .ret)
    .skip))
  (.seq (.reg [R.q 3 (.mov (.val (.str fun _ => [])))])
  (.seq (.reg [R.q 9 (.bslice 1 (.cons (.str fun _ => []) .nil) 4 [(0, 1, (.val (.str fun _ => [117, 99, 104, 103]))), (1, 1, (.val (.str fun _ => [117, 97, 112, 112, 110, 100]))), (2, 1, (.val (.str fun _ => [110, 111, 100, 117, 109, 112]))), (3, 1, (.val (.str fun _ => [111, 112, 97, 113, 117, 101])))]),
    R.q 4 (.mov (R.t 9))])
  (.seq (.seq (.reg [R.q 5 (.mov (R.i 0))])
  (.block 0 (.loop
     (.seq (.seq (.reg [R.q 10 (.mov (R.t 5)),
       R.q 11 (.bin .lss .no (R.t 10) (R.i 4))])
     (.cond (R.t 11)
       .skip
       (.exit 0)))
     (.seq (.block 1 (.seq (.reg [R.q 14 (.mov (R.t 0)),
        R.q 15 (.mov (R.t 5)),
        R.q 16 (.bin .shr .no (R.t 14) (R.t 15)),
        R.q 17 (.bin .and .no (R.t 16) (R.i 1)),
        R.q 18 (.bin .eql .no (R.t 17) (R.i 1))])
      (.cond (R.t 18)
        (.seq (.seq (.reg [R.q 19 (.mov (R.t 3)),
          R.q 20 (.bin .neq .no (R.t 19) (.val (.str fun _ => [])))])
        (.cond (R.t 20)
          (.reg [R.q 21 (.mov (R.t 3)),
            R.q 22 (.bin .add .no (R.t 21) (.val (.str fun _ => [44]))),
            R.q 3 (.mov (R.t 22))])
          .skip))
        (.reg [R.q 23 (.mov (R.t 3)),
          R.q 24 (.mov (R.t 4)),
          R.q 25 (.mov (R.t 5)),
          R.q 26 (.idx 1 (R.t 24) (R.t 25)),
          R.q 27 (.load1 (R.t 26)),
          R.q 28 (.bin .add .no (R.t 23) (R.t 27)),
          R.q 3 (.mov (R.t 28))]))
        .skip)))
     (.reg [R.q 12 (.mov (R.t 5)),
       R.q 13 (.bin .add .no (R.t 12) (R.i 1)),
       R.q 5 (.mov (R.t 13))]))))))
  (.seq (.reg [R.q 29 (.mov (R.t 3)),
    R.q 2 (.mov (R.t 29))])
  .ret))))))
def r9_TextFlags.rs : List RRes := [.tmp 2]
theorem r9_TextFlags.of {xs : List AV} {d : Nat} {B : BL} {K : ARes → BL → Prop} (hn : xs.length = 1) (hB : onlyOuter B = true) (h : awp ⟨PT, 30, exitX r9_TextFlags.rs K⟩ 10000 [.code r9_TextFlags.rc] ⟨params 0 xs, B, .nil⟩) : CallAt PT r9_TextFlags xs d B K :=
  call_of_awp 10000 Try.func88 rfl (by kernel_rfl) (by kernel_rfl) (by kernel_rfl) (by rw [hn]; decide) hB h
abbrev r1_Sixty : Nat := 89
def r1_Sixty.rc : RC :=
  (.seq (.reg [R.q 2 (.mov (.val (.str fun _ => [])))])
  (.seq (.reg [R.q 10 (.call 120 []),
    R.q 3 (.mov (R.t 10))])
  (.seq (.reg [R.q 4 (.mov (.val .nsl))])
  (.seq (.seq (.reg [R.q 5 (.mov (R.i 0))])
  (.block 0 (.loop
     (.seq (.seq (.reg [R.q 11 (.mov (R.t 5)),
       R.q 12 (.mov (R.t 0)),
       R.q 13 (.lenS (R.t 12)),
       R.q 14 (.bin .lss .no (R.t 11) (R.t 13))])
     (.cond (R.t 14)
       .skip
       (.exit 0)))
     (.seq (.block 1 (.seq (.reg [R.q 17 (.mov (R.t 0)),
        R.q 18 (.lenS (R.t 17)),
        R.q 19 (.mov (R.t 5)),
        R.q 20 (.bin .sub .no (R.t 18) (R.t 19)),
        R.q 21 (.mm false [(R.i 3), (R.t 20)]),
        R.q 6 (.mov (R.i 0)),
        R.q 7 (.mov (R.t 21))])
      (.seq (.seq (.reg [R.q 8 (.mov (R.i 0))])
      (.block 2 (.loop
         (.seq (.seq (.reg [R.q 22 (.mov (R.t 8)),
           R.q 23 (.bin .lss .no (R.t 22) (R.i 3))])
         (.cond (R.t 23)
           .skip
           (.exit 2)))
         (.seq (.block 3 (.seq (.reg [R.q 26 (.mov (R.t 6)),
            R.q 27 (.bin .shl .no (R.t 26) (.val (.int .u64 fun _ => 8))),
            R.q 6 (.mov (R.t 27))])
          (.seq (.reg [R.q 28 (.mov (R.t 8)),
            R.q 29 (.mov (R.t 7)),
            R.q 30 (.bin .lss .no (R.t 28) (R.t 29))])
          (.cond (R.t 30)
            (.reg [R.q 31 (.mov (R.t 6)),
              R.q 32 (.mov (R.t 0)),
              R.q 33 (.mov (R.t 5)),
              R.q 34 (.mov (R.t 8)),
              R.q 35 (.bin .add .no (R.t 33) (R.t 34)),
              R.q 36 (.idxS (R.t 32) (R.t 35)),
              R.q 37 (.conv .i64 (R.t 36)),
              R.q 38 (.bin .or .no (R.t 31) (R.t 37)),
              R.q 6 (.mov (R.t 38))])
            .skip))))
         (.reg [R.q 24 (.mov (R.t 8)),
           R.q 25 (.bin .add .no (R.t 24) (R.i 1)),
           R.q 8 (.mov (R.t 25))]))))))
      (.seq (.reg [R.q 9 (.mov (R.i 0))])
      (.block 4 (.loop
         (.seq (.seq (.reg [R.q 39 (.mov (R.t 9)),
           R.q 40 (.bin .lss .no (R.t 39) (R.i 4))])
         (.cond (R.t 40)
           .skip
           (.exit 4)))
         (.seq (.block 5 (.seq (.reg [R.q 43 (.mov (R.t 9)),
            R.q 44 (.mov (R.t 7)),
            R.q 45 (.bin .leq .no (R.t 43) (R.t 44))])
          (.cond (R.t 45)
            (.reg [R.q 46 (.mov (R.t 4)),
              R.q 47 (.mov (R.t 3)),
              R.q 48 (.mov (R.t 6)),
              R.q 49 (.mov (R.t 9)),
              R.q 50 (.bin .mul .no (R.i 6) (R.t 49)),
              R.q 51 (.bin .sub .no (R.i 18) (R.t 50)),
              R.q 52 (.bin .shr .no (R.t 48) (R.t 51)),
              R.q 53 (.bin .and .no (R.t 52) (R.i 63)),
              R.q 54 (.idxS (R.t 47) (R.t 53)),
              R.q 55 (.bslice 1 (.cons (.int .u8 fun _ => 0) .nil) 1 [(0, 1, (R.t 54))]),
              R.q 56 (.append 1 1 (R.t 46) (R.t 55)),
              R.q 4 (.mov (R.t 56))])
            (.reg [R.q 57 (.mov (R.t 4)),
              R.q 58 (.bslice 1 (.cons (.int .u8 fun _ => 0) .nil) 1 [(0, 1, (R.u 61))]),
              R.q 59 (.append 1 1 (R.t 57) (R.t 58)),
              R.q 4 (.mov (R.t 59))]))))
         (.reg [R.q 41 (.mov (R.t 9)),
           R.q 42 (.bin .add .no (R.t 41) (R.i 1)),
           R.q 9 (.mov (R.t 42))])))))))))
     (.reg [R.q 15 (.mov (R.t 5)),
       R.q 16 (.bin .add .no (R.t 15) (R.i 3)),
       R.q 5 (.mov (R.t 16))]))))))
  (.seq (.reg [R.q 60 (.mov (R.t 4)),
    R.q 61 (.b2s (R.t 60)),
    R.q 2 (.mov (R.t 61))])
  .ret)))))
def r1_Sixty.rs : List RRes := [.tmp 2]
theorem r1_Sixty.of {xs : List AV} {d : Nat} {B : BL} {K : ARes → BL → Prop} (hn : xs.length = 1) (hB : onlyOuter B = true) (h : awp ⟨PT, 62, exitX r1_Sixty.rs K⟩ 10000 [.code r1_Sixty.rc] ⟨params 0 xs, B, .nil⟩) : CallAt PT r1_Sixty xs d B K :=
  call_of_awp 10000 Try.func89 rfl (by kernel_rfl) (by kernel_rfl) (by kernel_rfl) (by rw [hn]; decide) hB h
abbrev r9_PutCaps : Nat := 90
def r9_PutCaps.rc : RC :=
  (.seq (.reg [R.q 1 (.box (R.t 0)),
    R.q 2 (.mov (.val (.str fun _ => [])))])
  (.seq (.seq (.reg [R.q 5 (.loadA 5 (R.t 1)),
    R.q 6 (.call 70 [(R.t 5)]),
    R.q 7 (.un .not (R.t 6)),
    R.q 8 (.mov (R.t 7)),
    R.g 9 (.fld 0 (R.t 1)) 8 false,
    R.g 10 (.load1 (R.t 9)) 8 false,
    R.g 11 (.bin .eql .no (R.t 10) (R.i 0)) 8 false,
    R.q 12 (.pick (R.t 8) R.tt (R.t 11))])
  (.cond (R.t 12)
    (.seq (.reg [R.q 2 (.mov (.val (.str fun _ => [])))])
    .ret)
    .skip))
  (.seq (.reg [R.q 13 (.fld 0 (R.t 1)),
    R.q 14 (.load1 (R.t 13)),
    R.q 15 (.conv .u64 (R.t 14)),
    R.q 16 (.bin .shl .no (R.t 15) (.val (.int .u64 fun _ => 24))),
    R.q 3 (.mov (R.t 16))])
  (.seq (.seq (.reg [R.q 17 (.fld 3 (R.t 1)),
    R.q 18 (.load1 (R.t 17))])
  (.cond (R.t 18)
    (.reg [R.q 19 (.mov (R.t 3)),
      R.q 20 (.bin .add .no (R.t 19) (.val (.int .u64 fun _ => 1))),
      R.q 3 (.mov (R.t 20))])
    .skip))
  (.seq (.regd [R.f (R.q 21 (.mov (R.t 3))),
    R.f (R.q 23 (.fld 1 (R.t 1))),
    R.f (R.q 24 (.load1 (R.t 23))),
    R.f (R.q 27 (.fld 2 (R.t 1))),
    R.f (R.q 28 (.load1 (R.t 27))),
    R.f (R.q 31 (.fld 1 (R.t 1))),
    R.f (R.q 32 (.load1 (R.t 31))),
    R.f (R.q 33 (.bin .shr .no (R.t 32) (.val (.int .u64 fun _ => 32)))),
    R.f (R.q 36 (.fld 2 (R.t 1))),
    R.f (R.q 37 (.load1 (R.t 36))),
    R.f (R.q 38 (.bin .shr .no (R.t 37) (.val (.int .u64 fun _ => 32)))),
    R.s (R.q 22 (.call 121 [(R.t 21)])) [1, 2, 3, 4, 5, 6, 7, 8, 9, 10],
    R.s (R.q 25 (.call 121 [(R.t 24)])) [3, 4, 5, 6, 7, 8, 9, 10],
    R.f (R.q 26 (.bin .add .no (R.t 22) (R.t 25))),
    R.s (R.q 29 (.call 121 [(R.t 28)])) [5, 6, 7, 8, 9, 10, 13],
    R.f (R.q 30 (.bin .add .no (R.t 26) (R.t 29))),
    R.s (R.q 34 (.call 121 [(R.t 33)])) [8, 9, 10, 13, 15],
    R.f (R.q 35 (.bin .add .no (R.t 30) (R.t 34))),
    R.s (R.q 39 (.call 121 [(R.t 38)])) [13, 15, 17],
    R.f (R.q 40 (.bin .add .no (R.t 35) (R.t 39))),
    R.s (R.q 4 (.mov (R.t 40))) []])
  (.seq (.seq (.reg [R.q 41 (.fld 0 (R.t 1)),
    R.q 42 (.load1 (R.t 41)),
    R.q 43 (.bin .eql .no (R.t 42) (R.i 3))])
  (.cond (R.t 43)
    (.reg [R.q 44 (.mov (R.t 4)),
      R.q 45 (.fld 4 (R.t 1)),
      R.q 46 (.load1 (R.t 45)),
      R.q 47 (.conv .u64 (R.t 46)),
      R.q 48 (.call 121 [(R.t 47)]),
      R.q 49 (.bin .add .no (R.t 44) (R.t 48)),
      R.q 4 (.mov (R.t 49))])
    .skip))
  (.seq (.reg [R.q 50 (.mov (R.t 4)),
    R.q 2 (.mov (R.t 50))])
  .ret)))))))
def r9_PutCaps.rs : List RRes := [.tmp 2]
theorem r9_PutCaps.of {xs : List AV} {d : Nat} {B : BL} {K : ARes → BL → Prop} (hn : xs.length = 1) (hB : onlyOuter B = true) (h : awp ⟨PT, 51, exitX r9_PutCaps.rs K⟩ 10000 [.code r9_PutCaps.rc] ⟨params 0 xs, B, .nil⟩) : CallAt PT r9_PutCaps xs d B K :=
  call_of_awp 10000 Try.func90 rfl (by kernel_rfl) (by kernel_rfl) (by kernel_rfl) (by rw [hn]; decide) hB h
abbrev r9_RecsXattrs : Nat := 91
def r9_RecsXattrs.rc : RC :=
  (.seq (.reg [R.q 2 (.mov (.val .nsl))])
  (.seq (.seq (.reg [R.q 5 (.mov (R.t 0)),
    R.q 6 (.call 67 [(R.t 5)]),
    R.q 7 (.un .not (R.t 6))])
  (.cond (R.t 7)
    (.seq (.reg [R.q 2 (.mov (.val .nsl))])
    .ret)
    .skip))
  (.seq (.reg [R.q 3 (.mov (.val .nsl))])
  (.seq (.seq (.reg [R.q 4 (.mov (R.i 0))])
  (.block 0 (.loop
     (.seq (.seq (.reg [R.q 8 (.mov (R.t 4)),
       R.q 9 (.mov (R.t 0)),
       R.q 10 (.len (R.t 9)),
       R.q 11 (.bin .lss .no (R.t 8) (R.t 10))])
     (.cond (R.t 11)
       .skip
       (.exit 0)))
     (.seq (.block 1 (.seq (.seq (.reg [R.q 14 (.mov (R.t 0)),
        R.q 15 (.mov (R.t 4)),
        R.q 16 (.idx 2 (R.t 14) (R.t 15)),
        R.q 17 (.fld 0 (R.t 16)),
        R.q 18 (.load1 (R.t 17)),
        R.q 19 (.call 105 [(R.t 18), (.val (.str fun _ => [61]))]),
        R.q 20 (.un .not (R.t 19))])
      (.cond (R.t 20)
        (.regd [R.f (R.q 21 (.mov (R.t 3))),
          R.f (R.q 22 (.mov (R.t 0))),
          R.f (R.q 23 (.mov (R.t 4))),
          R.f (R.q 24 (.idx 2 (R.t 22) (R.t 23))),
          R.f (R.q 25 (.fld 0 (R.t 24))),
          R.f (R.q 26 (.load1 (R.t 25))),
          R.f (R.q 27 (.bin .add .no (.val (.str fun _ => [83, 67, 72, 73, 76, 89, 46, 120, 97, 116, 116, 114, 46])) (R.t 26))),
          R.f (R.q 28 (.mov (R.t 0))),
          R.f (R.q 29 (.mov (R.t 4))),
          R.f (R.q 30 (.idx 2 (R.t 28) (R.t 29))),
          R.f (R.q 31 (.fld 1 (R.t 30))),
          R.f (R.q 32 (.load1 (R.t 31))),
          R.f (R.q 33 (.build (.cons (.str fun _ => []) (.cons (.str fun _ => []) .nil)) [(0, 1, (R.t 27)), (1, 1, (R.t 32))])),
          R.f (R.q 34 (.bslice 2 (.cons (.str fun _ => []) (.cons (.str fun _ => []) .nil)) 1 [(0, 2, (R.t 33))])),
          R.s (R.q 35 (.append 2 32 (R.t 21) (R.t 34))) [],
          R.s (R.q 3 (.mov (R.t 35))) []])
        .skip))
      (.regd [R.f (R.q 36 (.mov (R.t 3))),
        R.f (R.q 37 (.mov (R.t 0))),
        R.f (R.q 38 (.mov (R.t 4))),
        R.f (R.q 39 (.idx 2 (R.t 37) (R.t 38))),
        R.f (R.q 40 (.fld 0 (R.t 39))),
        R.f (R.q 41 (.load1 (R.t 40))),
        R.f (R.q 44 (.mov (R.t 0))),
        R.f (R.q 45 (.mov (R.t 4))),
        R.f (R.q 46 (.idx 2 (R.t 44) (R.t 45))),
        R.f (R.q 47 (.fld 1 (R.t 46))),
        R.f (R.q 48 (.load1 (R.t 47))),
        R.s (R.q 42 (.call 106 [(R.t 41)])) [0, 6, 7, 8, 9, 10],
        R.f (R.q 43 (.bin .add .no (.val (.str fun _ => [76, 73, 66, 65, 82, 67, 72, 73, 86, 69, 46, 120, 97, 116, 116, 114, 46])) (R.t 42))),
        R.s (R.q 49 (.call 89 [(R.t 48)])) [0, 12],
        R.f (R.q 50 (.build (.cons (.str fun _ => []) (.cons (.str fun _ => []) .nil)) [(0, 1, (R.t 43)), (1, 1, (R.t 49))])),
        R.f (R.q 51 (.bslice 2 (.cons (.str fun _ => []) (.cons (.str fun _ => []) .nil)) 1 [(0, 2, (R.t 50))])),
        R.s (R.q 52 (.append 2 32 (R.t 36) (R.t 51))) [],
        R.s (R.q 3 (.mov (R.t 52))) []])))
     (.reg [R.q 12 (.mov (R.t 4)),
       R.q 13 (.bin .add .no (R.t 12) (R.i 1)),
       R.q 4 (.mov (R.t 13))]))))))
  (.seq (.reg [R.q 53 (.mov (R.t 3)),
    R.q 2 (.mov (R.t 53))])
  .ret)))))
def r9_RecsXattrs.rs : List RRes := [.tmp 2]
theorem r9_RecsXattrs.of {xs : List AV} {d : Nat} {B : BL} {K : ARes → BL → Prop} (hn : xs.length = 1) (hB : onlyOuter B = true) (h : awp ⟨PT, 54, exitX r9_RecsXattrs.rs K⟩ 10000 [.code r9_RecsXattrs.rc] ⟨params 0 xs, B, .nil⟩) : CallAt PT r9_RecsXattrs xs d B K :=
  call_of_awp 10000 Try.func91 rfl (by kernel_rfl) (by kernel_rfl) (by kernel_rfl) (by rw [hn]; decide) hB h
abbrev r1_has : Nat := 92
def r1_has.rc : RC :=
  (.seq (.reg [R.q 4 (.mov R.ff)])
  (.seq (.seq (.reg [R.q 5 (.mov (R.i 0))])
  (.block 0 (.loop
     (.seq (.seq (.reg [R.q 6 (.mov (R.t 5)),
       R.q 7 (.mov (R.t 0)),
       R.q 8 (.lenS (R.t 7)),
       R.q 9 (.bin .lss .no (R.t 6) (R.t 8))])
     (.cond (R.t 9)
       .skip
       (.exit 0)))
     (.seq (.block 1 (.seq (.reg [R.q 12 (.mov (R.t 0)),
        R.q 13 (.mov (R.t 5)),
        R.q 14 (.idxS (R.t 12) (R.t 13)),
        R.q 15 (.mov (R.t 1)),
        R.q 16 (.bin .eql .no (R.t 14) (R.t 15))])
      (.cond (R.t 16)
        (.seq (.reg [R.q 4 (.mov R.tt)])
        .ret)
        .skip)))
     (.reg [R.q 10 (.mov (R.t 5)),
       R.q 11 (.bin .add .no (R.t 10) (R.i 1)),
       R.q 5 (.mov (R.t 11))]))))))
  (.seq (.reg [R.q 4 (.mov R.ff)])
  .ret)))
def r1_has.rs : List RRes := [.tmp 4]
theorem r1_has.of {xs : List AV} {d : Nat} {B : BL} {K : ARes → BL → Prop} (hn : xs.length = 2) (hB : onlyOuter B = true) (h : awp ⟨PT, 17, exitX r1_has.rs K⟩ 10000 [.code r1_has.rc] ⟨params 0 xs, B, .nil⟩) : CallAt PT r1_has xs d B K :=
  call_of_awp 10000 Try.func92 rfl (by kernel_rfl) (by kernel_rfl) (by kernel_rfl) (by rw [hn]; decide) hB h
abbrev r1_record : Nat := 93
def r1_record.rc : RC :=
  (.seq (.reg [R.q 1 (.box (R.t 0)),
    R.q 2 (.mov (.val (.str fun _ => [])))])
  (.seq (.reg [R.q 5 (.fld 0 (R.t 1)),
    R.q 6 (.load1 (R.t 5)),
    R.q 7 (.bin .add .no (.val (.str fun _ => [32])) (R.t 6)),
    R.q 8 (.bin .add .no (R.t 7) (.val (.str fun _ => [61]))),
    R.q 9 (.fld 1 (R.t 1)),
    R.q 10 (.load1 (R.t 9)),
    R.q 11 (.bin .add .no (R.t 8) (R.t 10)),
    R.q 12 (.bin .add .no (R.t 11) (.val (.str fun _ => [10]))),
    R.q 3 (.mov (R.t 12))])
  (.seq (.reg [R.q 13 (.mov (R.t 3)),
    R.q 14 (.lenS (R.t 13)),
    R.q 15 (.bin .add .no (R.t 14) (R.i 1)),
    R.q 4 (.mov (R.t 15))])
  (.seq (.block 0 (.loop
     (.seq (.seq (.reg [R.q 16 (.mov (R.t 4)),
       R.q 17 (.mov (R.t 3)),
       R.q 18 (.lenS (R.t 17)),
       R.q 19 (.mov (R.t 4)),
       R.q 20 (.call 84 [(R.t 19)]),
       R.q 21 (.lenS (R.t 20)),
       R.q 22 (.bin .add .no (R.t 18) (R.t 21)),
       R.q 23 (.bin .neq .no (R.t 16) (R.t 22))])
     (.cond (R.t 23)
       .skip
       (.exit 0)))
     (.block 1 (.reg [R.q 24 (.mov (R.t 4)),
        R.q 25 (.bin .add .no (R.t 24) (R.i 1)),
        R.q 4 (.mov (R.t 25))])))))
  (.seq (.reg [R.q 26 (.mov (R.t 4)),
    R.q 27 (.call 84 [(R.t 26)]),
    R.q 28 (.mov (R.t 3)),
    R.q 29 (.bin .add .no (R.t 27) (R.t 28)),
    R.q 2 (.mov (R.t 29))])
  .ret)))))
def r1_record.rs : List RRes := [.tmp 2]
theorem r1_record.of {xs : List AV} {d : Nat} {B : BL} {K : ARes → BL → Prop} (hn : xs.length = 1) (hB : onlyOuter B = true) (h : awp ⟨PT, 30, exitX r1_record.rs K⟩ 10000 [.code r1_record.rc] ⟨params 0 xs, B, .nil⟩) : CallAt PT r1_record xs d B K :=
  call_of_awp 10000 Try.func93 rfl (by kernel_rfl) (by kernel_rfl) (by kernel_rfl) (by rw [hn]; decide) hB h
abbrev r1_Bad : Nat := 118
def r1_Bad.rc : RC :=
  (.seq (.reg [R.q 2 (.mov (R.i 0))])
  (.seq (.seq (.reg [R.q 3 (.mov (R.i 0))])
  (.block 0 (.loop
     (.seq (.seq (.reg [R.q 5 (.mov (R.t 3)),
       R.q 6 (.mov (R.t 0)),
       R.q 7 (.lenS (R.t 6)),
       R.q 8 (.bin .lss .no (R.t 5) (R.t 7))])
     (.cond (R.t 8)
       .skip
       (.exit 0)))
     (.block 1 (.seq (.reg [R.q 9 (.mov (R.t 0)),
        R.q 10 (.mov (R.t 3)),
        R.q 11 (.sliceS (R.t 9) (some (R.t 10)) none),
        R.q 12 (.call 133 [(R.t 11)]),
        R.q 4 (.mov (R.t 12))])
      (.seq (.seq (.reg [R.q 13 (.mov (R.t 4)),
        R.q 14 (.bin .eql .no (R.t 13) (R.i 0))])
      (.cond (R.t 14)
        (.seq (.reg [R.q 15 (.mov (R.t 3)),
          R.q 2 (.mov (R.t 15))])
        .ret)
        .skip))
      (.reg [R.q 16 (.mov (R.t 3)),
        R.q 17 (.mov (R.t 4)),
        R.q 18 (.bin .add .no (R.t 16) (R.t 17)),
        R.q 3 (.mov (R.t 18))]))))))))
  (.seq (.reg [R.q 2 (.mov (R.i (-1)))])
  .ret)))
def r1_Bad.rs : List RRes := [.tmp 2]
theorem r1_Bad.of {xs : List AV} {d : Nat} {B : BL} {K : ARes → BL → Prop} (hn : xs.length = 1) (hB : onlyOuter B = true) (h : awp ⟨PT, 19, exitX r1_Bad.rs K⟩ 10000 [.code r1_Bad.rc] ⟨params 0 xs, B, .nil⟩) : CallAt PT r1_Bad xs d B K :=
  call_of_awp 10000 Try.func118 rfl (by kernel_rfl) (by kernel_rfl) (by kernel_rfl) (by rw [hn]; decide) hB h
abbrev r9_rwx : Nat := 119
def r9_rwx.rc : RC :=
  (.seq (.reg [R.q 2 (.mov (.val (.str fun _ => [])))])
  (.seq (.reg [R.q 4 (.bslice 1 (.cons (.int .u8 fun _ => 0) .nil) 3 [(0, 1, (R.u 45)), (1, 1, (R.u 45)), (2, 1, (R.u 45))]),
    R.q 5 (.s2s (R.t 4)),
    R.q 3 (.mov (R.t 5))])
  (.seq (.seq (.reg [R.q 6 (.mov (R.t 0)),
    R.q 7 (.bin .and .no (R.t 6) (R.i 4)),
    R.q 8 (.bin .neq .no (R.t 7) (R.i 0))])
  (.cond (R.t 8)
    (.reg [R.q 9 (.mov (R.t 3)),
      R.q 10 (.idx 1 (R.t 9) (R.i 0)),
      R.e (.store 1 (R.t 10) (R.u 114))])
    .skip))
  (.seq (.seq (.reg [R.q 11 (.mov (R.t 0)),
    R.q 12 (.bin .and .no (R.t 11) (R.i 2)),
    R.q 13 (.bin .neq .no (R.t 12) (R.i 0))])
  (.cond (R.t 13)
    (.reg [R.q 14 (.mov (R.t 3)),
      R.q 15 (.idx 1 (R.t 14) (R.i 1)),
      R.e (.store 1 (R.t 15) (R.u 119))])
    .skip))
  (.seq (.seq (.reg [R.q 16 (.mov (R.t 0)),
    R.q 17 (.bin .and .no (R.t 16) (R.i 1)),
    R.q 18 (.bin .neq .no (R.t 17) (R.i 0))])
  (.cond (R.t 18)
    (.reg [R.q 19 (.mov (R.t 3)),
      R.q 20 (.idx 1 (R.t 19) (R.i 2)),
      R.e (.store 1 (R.t 20) (R.u 120))])
    .skip))
  (.seq (.reg [R.q 21 (.mov (R.t 3)),
    R.q 22 (.b2s (R.t 21)),
    R.q 2 (.mov (R.t 22))])
  .ret))))))
def r9_rwx.rs : List RRes := [.tmp 2]
theorem r9_rwx.of {xs : List AV} {d : Nat} {B : BL} {K : ARes → BL → Prop} (hn : xs.length = 1) (hB : onlyOuter B = true) (h : awp ⟨PT, 23, exitX r9_rwx.rs K⟩ 10000 [.code r9_rwx.rc] ⟨params 0 xs, B, .nil⟩) : CallAt PT r9_rwx xs d B K :=
  call_of_awp 10000 Try.func119 rfl (by kernel_rfl) (by kernel_rfl) (by kernel_rfl) (by rw [hn]; decide) hB h
abbrev r1_letters : Nat := 120
def r1_letters.rc : RC :=
  (.seq (.reg [R.q 0 (.mov (.val (.str fun _ => [])))])
  (.seq (.reg [R.q 0 (.mov (.val (.str fun _ => [65, 66, 67, 68, 69, 70, 71, 72, 73, 74, 75, 76, 77, 78, 79, 80, 81, 82, 83, 84, 85, 86, 87, 88, 89, 90, 97, 98, 99, 100, 101, 102, 103, 104, 105, 106, 107, 108, 109, 110, 111, 112, 113, 114, 115, 116, 117, 118, 119, 120, 121, 122, 48, 49, 50, 51, 52, 53, 54, 55, 56, 57, 43, 47])))])
  .ret))
def r1_letters.rs : List RRes := [.tmp 0]
theorem r1_letters.of {xs : List AV} {d : Nat} {B : BL} {K : ARes → BL → Prop} (hn : xs.length = 0) (hB : onlyOuter B = true) (h : awp ⟨PT, 1, exitX r1_letters.rs K⟩ 10000 [.code r1_letters.rc] ⟨params 0 xs, B, .nil⟩) : CallAt PT r1_letters xs d B K :=
  call_of_awp 10000 Try.func120 rfl (by kernel_rfl) (by kernel_rfl) (by kernel_rfl) (by rw [hn]; decide) hB h
abbrev r9_four : Nat := 121
def r9_four.rc : RC :=
  (.seq (.reg [R.q 2 (.mov (.val (.str fun _ => [])))])
  (.seq (.reg [R.q 3 (.mov (R.t 0)),
    R.q 4 (.conv .u8 (R.t 3)),
    R.q 5 (.mov (R.t 0)),
    R.q 6 (.bin .shr .no (R.t 5) (.val (.int .u64 fun _ => 8))),
    R.q 7 (.conv .u8 (R.t 6)),
    R.q 8 (.mov (R.t 0)),
    R.q 9 (.bin .shr .no (R.t 8) (.val (.int .u64 fun _ => 16))),
    R.q 10 (.conv .u8 (R.t 9)),
    R.q 11 (.mov (R.t 0)),
    R.q 12 (.bin .shr .no (R.t 11) (.val (.int .u64 fun _ => 24))),
    R.q 13 (.conv .u8 (R.t 12)),
    R.q 14 (.bslice 1 (.cons (.int .u8 fun _ => 0) .nil) 4 [(0, 1, (R.t 4)), (1, 1, (R.t 7)), (2, 1, (R.t 10)), (3, 1, (R.t 13))]),
    R.q 15 (.b2s (R.t 14)),
    R.q 2 (.mov (R.t 15))])
  .ret))
def r9_four.rs : List RRes := [.tmp 2]
theorem r9_four.of {xs : List AV} {d : Nat} {B : BL} {K : ARes → BL → Prop} (hn : xs.length = 1) (hB : onlyOuter B = true) (h : awp ⟨PT, 16, exitX r9_four.rs K⟩ 10000 [.code r9_four.rc] ⟨params 0 xs, B, .nil⟩) : CallAt PT r9_four xs d B K :=
  call_of_awp 10000 Try.func121 rfl (by kernel_rfl) (by kernel_rfl) (by kernel_rfl) (by rw [hn]; decide) hB h
abbrev r1_sign : Nat := 133
def r1_sign.rc : RC :=
  (.seq (.reg [R.q 2 (.mov (R.i 0))])
  (.seq (.reg [R.q 8 (.mov (R.t 0)),
    R.q 9 (.idxS (R.t 8) (R.i 0)),
    R.q 3 (.mov (R.t 9))])
  (.seq (.seq (.reg [R.q 10 (.mov (R.t 3)),
    R.q 11 (.bin .lss .no (R.t 10) (R.u 128))])
  (.cond (R.t 11)
    (.seq (.reg [R.q 2 (.mov (R.i 1))])
    .ret)
    .skip))
  (.seq (.reg [R.q 4 (.mov (R.i 0)),
    R.q 5 (.mov (R.i 0)),
    R.q 6 (.mov (R.i 0))])
  (.seq (.block 0 (.seq (.reg [R.q 13 (.mov (R.t 3)),
     R.q 14 (.bin .shr .no (R.t 13) (.val (.int .u64 fun _ => 5))),
     R.q 15 (.bin .eql .no (R.t 14) (R.u 6)),
     R.q 12 (.mov (R.t 15))])
   (.cond (R.t 12)
     (.seq (.reg [R.q 4 (.mov (R.i 2))])
     (.seq (.reg [R.q 16 (.mov (R.t 3)),
       R.q 17 (.bin .and .no (R.t 16) (R.u 31)),
       R.q 18 (.conv .i64 (R.t 17)),
       R.q 5 (.mov (R.t 18))])
     (.reg [R.q 6 (.mov (R.i 128))])))
     (.seq (.reg [R.q 20 (.mov (R.t 3)),
       R.q 21 (.bin .shr .no (R.t 20) (.val (.int .u64 fun _ => 4))),
       R.q 22 (.bin .eql .no (R.t 21) (R.u 14)),
       R.q 19 (.mov (R.t 22))])
     (.cond (R.t 19)
       (.seq (.reg [R.q 4 (.mov (R.i 3))])
       (.seq (.reg [R.q 23 (.mov (R.t 3)),
         R.q 24 (.bin .and .no (R.t 23) (R.u 15)),
         R.q 25 (.conv .i64 (R.t 24)),
         R.q 5 (.mov (R.t 25))])
       (.reg [R.q 6 (.mov (R.i 2048))])))
       (.seq (.reg [R.q 27 (.mov (R.t 3)),
         R.q 28 (.bin .shr .no (R.t 27) (.val (.int .u64 fun _ => 3))),
         R.q 29 (.bin .eql .no (R.t 28) (R.u 30)),
         R.q 26 (.mov (R.t 29))])
       (.cond (R.t 26)
         (.seq (.reg [R.q 4 (.mov (R.i 4))])
         (.seq (.reg [R.q 30 (.mov (R.t 3)),
           R.q 31 (.bin .and .no (R.t 30) (R.u 7)),
           R.q 32 (.conv .i64 (R.t 31)),
           R.q 5 (.mov (R.t 32))])
         (.reg [R.q 6 (.mov (R.i 65536))])))
         (.seq (.reg [R.q 2 (.mov (R.i 0))])
         .ret))))))))
  (.seq (.seq (.reg [R.q 7 (.mov (R.i 1))])
  (.block 1 (.loop
     (.seq (.seq (.reg [R.q 33 (.mov (R.t 7)),
       R.q 34 (.mov (R.t 4)),
       R.q 35 (.bin .lss .no (R.t 33) (R.t 34))])
     (.cond (R.t 35)
       .skip
       (.exit 1)))
     (.seq (.block 2 (.seq (.seq (.reg [R.q 38 (.mov (R.t 7)),
        R.q 39 (.mov (R.t 0)),
        R.q 40 (.lenS (R.t 39)),
        R.q 41 (.bin .geq .no (R.t 38) (R.t 40)),
        R.q 42 (.mov (R.t 41)),
        R.g 43 (.mov (R.t 0)) 42 false,
        R.g 44 (.mov (R.t 7)) 42 false,
        R.g 45 (.idxS (R.t 43) (R.t 44)) 42 false,
        R.g 46 (.bin .shr .no (R.t 45) (.val (.int .u64 fun _ => 6))) 42 false,
        R.g 47 (.bin .neq .no (R.t 46) (R.u 2)) 42 false,
        R.q 48 (.pick (R.t 42) R.tt (R.t 47))])
      (.cond (R.t 48)
        (.seq (.reg [R.q 2 (.mov (R.i 0))])
        .ret)
        .skip))
      (.reg [R.q 49 (.mov (R.t 5)),
        R.q 50 (.bin .shl .no (R.t 49) (.val (.int .u64 fun _ => 6))),
        R.q 51 (.mov (R.t 0)),
        R.q 52 (.mov (R.t 7)),
        R.q 53 (.idxS (R.t 51) (R.t 52)),
        R.q 54 (.bin .and .no (R.t 53) (R.u 63)),
        R.q 55 (.conv .i64 (R.t 54)),
        R.q 56 (.bin .or .no (R.t 50) (R.t 55)),
        R.q 5 (.mov (R.t 56))])))
     (.reg [R.q 36 (.mov (R.t 7)),
       R.q 37 (.bin .add .no (R.t 36) (R.i 1)),
       R.q 7 (.mov (R.t 37))]))))))
  (.seq (.seq (.reg [R.q 57 (.mov (R.t 5)),
    R.q 58 (.mov (R.t 6)),
    R.q 59 (.bin .lss .no (R.t 57) (R.t 58)),
    R.q 60 (.mov (R.t 59)),
    R.g 61 (.mov (R.t 5)) 60 false,
    R.g 62 (.bin .gtr .no (R.t 61) (R.i 1114111)) 60 false,
    R.q 63 (.pick (R.t 60) R.tt (R.t 62)),
    R.q 64 (.mov (R.t 63)),
    R.g 65 (.mov (R.t 5)) 64 false,
    R.g 66 (.bin .geq .no (R.t 65) (R.i 55296)) 64 false,
    R.g 67 (.mov (R.t 66)) 64 false,
    R.g 68 (.mov (R.t 5)) 67 true,
    R.g 69 (.bin .leq .no (R.t 68) (R.i 57343)) 67 true,
    R.g 70 (.pick (R.t 67) (R.t 69) R.ff) 64 false,
    R.q 71 (.pick (R.t 64) R.tt (R.t 70))])
  (.cond (R.t 71)
    (.seq (.reg [R.q 2 (.mov (R.i 0))])
    .ret)
    .skip))
  (.seq (.reg [R.q 72 (.mov (R.t 4)),
    R.q 2 (.mov (R.t 72))])
  .ret))))))))
def r1_sign.rs : List RRes := [.tmp 2]
theorem r1_sign.of {xs : List AV} {d : Nat} {B : BL} {K : ARes → BL → Prop} (hn : xs.length = 1) (hB : onlyOuter B = true) (h : awp ⟨PT, 73, exitX r1_sign.rs K⟩ 10000 [.code r1_sign.rc] ⟨params 0 xs, B, .nil⟩) : CallAt PT r1_sign xs d B K :=
  call_of_awp 10000 Try.func133 rfl (by kernel_rfl) (by kernel_rfl) (by kernel_rfl) (by rw [hn]; decide) hB h
end F
end Go.Proofs.Ytgjlkcdnlndlnaa
/- More of the program's functions, resolved (printed by a tool). -/
namespace Go.Proofs.Ytgjlkcdnlndlnaa
open Go Go.Proofs.Ytgjlkcdnlndlnaa.Sx
namespace F
end F
end Go.Proofs.Ytgjlkcdnlndlnaa
/- Which flags may be: walked. -/
namespace Go.Proofs.Ytgjlkcdnlndlnaa
open Go Go.Proofs.Ytgjlkcdnlndlnaa.Sx F
set_option linter.unusedVariables false
set_option linter.unusedSimpArgs false
def mayF (n : Int) : Bool := decide (0 ≤ n) && decide (n < 16)
theorem mayflags9_c (n : Th Int) {d : Nat} {K : ARes → BL → Prop} (hr : ∀ b : Th Bool, b .o = mayF (n .o) → K (.ret (.bool b)) .nil) : CallAt PT r9_MayFlags [.int .i64 n] d .nil K := by
  refine CallAt.res ?_
  refine r9_MayFlags.of rfl rfl ?_
  cbv
  refine ⟨fun hc => ?_, fun hc => ?_⟩
  · cbv
    have h0 : decide (0 ≤ n .o) = true := hc
    refine ⟨_, .ret (Same.refl _), hr _ ?_⟩
    show decide (n .o ≤ 15) = _
    rw [mayF, h0, Bool.true_and]
    exact decide_eq_decide.2 ⟨fun h => by omega, fun h => by omega⟩
  · cbv
    have h0 : decide (0 ≤ n .o) = false := hc
    refine ⟨_, .ret (.ff rfl), hr (fun _ => false) ?_⟩
    show false = _
    rw [mayF, h0]
    rfl
end Go.Proofs.Ytgjlkcdnlndlnaa
/- The package right, walked: what each function answers. -/
namespace Go.Proofs.Ytgjlkcdnlndlnaa
open Go Go.Proofs.Ytgjlkcdnlndlnaa.Sx F
def band (a b : Int) : Int := abits .and .i64 a b
def permS (l : List Ace) (t : Int) : Option Int := (l.find? fun a => decide (a.tag = t)).map (·.perm)
def maskS (l : List Ace) : Option Int := if 0 ≤ ixP (fun a : Ace => decide (a.tag = 5)) l then permS l 5 else some 7
def fromMode (m : Int) : List Ace := [⟨1, 0, (band m 511).fdiv (2 ^ 6)⟩, ⟨3, 0, band ((band m 511).fdiv (2 ^ 3)) 7⟩, ⟨6, 0, band (band m 511) 7⟩]
def ofS (m : Meta) : List Ace := if 0 < m.acl.length then m.acl else fromMode m.mode
def inS (c : Cred) (g : Int) : Bool := decide (c.gid = g) || decide (g ∈ c.groups)
theorem ixP_find {α : Type} (p : α → Bool) (z : α) (l : List α) : (ixP p l < 0 ∧ l.find? p = none) ∨ (∃ k, ixP p l = zi k ∧ k < l.length ∧ l.find? p = some (l.getD k z)) := by
  induction l with
  | nil => exact .inl ⟨by simp [ixP], rfl⟩
  | cons y r ih =>
    by_cases h : p y = true
    · exact .inr ⟨0, by simp [ixP, h, zi], by simp, by simp [h]⟩
    · rcases ih with ⟨h1, h2⟩ | ⟨k, h1, h2, h3⟩
      · exact .inl ⟨by simp [ixP, h, h1], by simp [h, h2]⟩
      · refine .inr ⟨k + 1, ?_, by simpa using h2, by simp [h, h3]⟩
        simp only [ixP, h, h1, Bool.false_eq_true, if_false]
        unfold zi
        rw [if_neg (by omega)]
        omega
theorem mask1_c (a : Th Ace) {d : Nat} {K : ARes → BL → Prop} (hr : ∀ b : Th Bool, b .o = decide ((a .o).tag = 5) → K (.ret (.bool b)) .nil) : CallAt PT right_list_mask_1 [Ace.av a] d .nil K := by
  refine right_list_mask_1.of rfl rfl ?_
  cbv
  exact (hr _ rfl)
theorem perm1_c (a : Th Ace) (t : Th Int) {d : Nat} {K : ARes → BL → Prop}
    (hr : ∀ b : Th Bool, b .o = decide ((a .o).tag = t .o) → K (.ret (.bool b)) (.cons 10000 (.cells (.cons (.int .i64 t) .nil)) .nil)) : CallAt PT right_list_perm_1 [Ace.av a, .ptr 10000 0] d (.cons 10000 (.cells (.cons (.int .i64 t) .nil)) .nil) K := by
  refine right_list_perm_1.of rfl rfl ?_
  cbv
  exact hr _ rfl
theorem index_mask_c (l : Th (List Ace)) (hl : short (l .o)) {d : Nat} {K : ARes → BL → Prop} (hr : ∀ n : Th Int, n .o = ixP (fun a : Ace => decide (a.tag = 5)) (l .o) → K (.ret (.int .i64 n)) .nil) :
    CallAt PT slices_IndexFunc_right_list_api_Ace [aces l, .fn (.func right_list_mask_1) .nil .nil] d .nil K := by
  refine slices_IndexFunc_right_list_api_Ace.of rfl rfl ?_
  cbv
  refine loop_rule (X := Nat) 1000 [0, 1, 7] [] (fun k => .cons 8 (.int .i64 fun _ => zi k) .nil) (fun _ => .nil) (fun k => k ≤ (l .o).length ∧ ∀ j, j < k → decide (((l .o).getD j Ace.z).tag = 5) = false) (fun k => (l .o).length - k) 0 ?_ ⟨Nat.zero_le _, fun j hj => by omega⟩ ?_
  · cbv
    exact ⟨⟨.refl _, .refl _, .refl _, .int rfl, trivial⟩, ⟨rfl⟩⟩
  · intro k hk
    cbv
    refine ⟨fun h1 => ?_, fun h1 => ?_⟩
    · have h1 : k < (l .o).length := zi_lt.1 (of_decide_eq_true h1)
      cbv
      refine ⟨fun _ => ⟨zi_nonneg _, zi_lt.2 h1⟩, ?_⟩
      refine mask1_c (fun _ => (l .o).getD (zi k).toNat Ace.z) fun b hb => ?_
      rw [zi_toNat] at hb
      cbv
      refine ⟨fun h2 => ?_, fun h2 => ?_⟩
      · cbv
        exact (hr _ (ixP_at _ Ace.z _ k h1 hk.2 (hb.symm.trans h2)).symm)
      · cbv
        refine ⟨k + 1, ⟨h1, ?_⟩, by omega, ?_⟩
        · intro j hj
          by_cases he : j = k
          · subst he; exact hb.symm.trans h2
          · exact hk.2 j (by omega)
        · cbv
          exact ⟨⟨.refl _, .refl _, .refl _, .int (zi_succ (by unfold short at hl; omega)), trivial⟩, ⟨rfl⟩⟩
    · have h1 : ¬ k < (l .o).length := fun q => of_decide_eq_false h1 (zi_lt.2 q)
      cbv
      exact (hr _ (ixP_no _ Ace.z _ fun j hj => hk.2 j (by omega)).symm)
theorem index_perm_c (l : Th (List Ace)) (t : Th Int) (hl : short (l .o)) {d : Nat} {K : ARes → BL → Prop} (hr : ∀ n : Th Int, n .o = ixP (fun a : Ace => decide (a.tag = t .o)) (l .o) → K (.ret (.int .i64 n)) (.cons 10000 (.cells (.cons (.int .i64 t) .nil)) .nil)) :
    CallAt PT slices_IndexFunc_right_list_api_Ace [aces l, .fn (.func right_list_perm_1) .nil (.cons (.ptr 10000 0) .nil)] d (.cons 10000 (.cells (.cons (.int .i64 t) .nil)) .nil) K := by
  refine slices_IndexFunc_right_list_api_Ace.of rfl rfl ?_
  cbv
  refine loop_rule (X := Nat) 1000 [0, 1, 7] [10000] (fun k => .cons 8 (.int .i64 fun _ => zi k) .nil) (fun _ => .nil) (fun k => k ≤ (l .o).length ∧ ∀ j, j < k → decide (((l .o).getD j Ace.z).tag = t .o) = false) (fun k => (l .o).length - k) 0 ?_ ⟨Nat.zero_le _, fun j hj => by omega⟩ ?_
  · cbv
    exact ⟨⟨.refl _, .refl _, .refl _, .int rfl, trivial⟩, ⟨.refl _, trivial⟩, ⟨rfl⟩⟩
  · intro k hk
    cbv
    refine ⟨fun h1 => ?_, fun h1 => ?_⟩
    · have h1 : k < (l .o).length := zi_lt.1 (of_decide_eq_true h1)
      cbv
      refine ⟨fun _ => ⟨zi_nonneg _, zi_lt.2 h1⟩, ?_⟩
      refine perm1_c (fun _ => (l .o).getD (zi k).toNat Ace.z) t fun b hb => ?_
      rw [zi_toNat] at hb
      cbv
      refine ⟨fun h2 => ?_, fun h2 => ?_⟩
      · cbv
        exact hr _ (ixP_at _ Ace.z _ k h1 hk.2 (hb.symm.trans h2)).symm
      · cbv
        refine ⟨k + 1, ⟨h1, ?_⟩, by omega, ?_⟩
        · intro j hj
          by_cases he : j = k
          · subst he; exact hb.symm.trans h2
          · exact hk.2 j (by omega)
        · cbv
          exact ⟨⟨.refl _, .refl _, .refl _, .int (zi_succ (by unfold short at hl; omega)), trivial⟩, ⟨.refl _, trivial⟩, ⟨rfl⟩⟩
    · have h1 : ¬ k < (l .o).length := fun q => of_decide_eq_false h1 (zi_lt.2 q)
      cbv
      exact hr _ (ixP_no _ Ace.z _ fun j hj => hk.2 j (by omega)).symm
theorem contains_mask_c (l : Th (List Ace)) (hl : short (l .o)) {d : Nat} {K : ARes → BL → Prop} (hr : ∀ b : Th Bool, b .o = decide (0 ≤ ixP (fun a : Ace => decide (a.tag = 5)) (l .o)) → K (.ret (.bool b)) .nil) :
    CallAt PT slices_ContainsFunc_right_list_api_Ace [aces l, .fn (.func right_list_mask_1) .nil .nil] d .nil K := by
  refine slices_ContainsFunc_right_list_api_Ace.of rfl rfl ?_
  cbv
  refine index_mask_c l hl fun n hn => ?_
  cbv
  exact (hr _ (by show decide (0 ≤ n .o) = _; rw [hn]))
/-- What is raised where a part lacks. -/
def lacks (t : Th Int) : AV := .ifc 138 (.agg (.cons (.int .i64 t) .nil))
theorem perm_c (l : Th (List Ace)) (t : Th Int) (hl : short (l .o)) {d : Nat} {K : ARes → BL → Prop} (hr : ∀ n : Th Int, permS (l .o) (t .o) = some (n .o) → K (.ret (.int .i64 n)) .nil) (hp : permS (l .o) (t .o) = none → K (.pan (lacks t)) .nil) :
    CallAt PT right_list_perm [aces l, .int .i64 t] d .nil K := by
  refine right_list_perm.of rfl rfl ?_
  cbv
  refine CallAt.frameP [(10000, 3)] [aces l, .fn (.func right_list_perm_1) .nil (.cons (.ptr 10000 0) .nil)] (by kernel_rfl) rfl fun K1 hK1 => ?_
  cbv
  refine index_perm_c l t hl fun n hn => hK1 _ _ ?_
  cbv
  have hfind := ixP_find (fun a : Ace => decide (a.tag = t .o)) Ace.z (l .o)
  refine ⟨fun h1 => ?_, fun h1 => ?_⟩
  · have h1 : n .o < 0 := of_decide_eq_true h1
    cbv
    refine (hp ?_)
    rcases hfind with ⟨_, h2⟩ | ⟨k, h2, _, _⟩
    · unfold permS; rw [h2]; rfl
    · rw [hn, h2] at h1; have := zi_nonneg k; omega
  · have h1 : ¬ n .o < 0 := of_decide_eq_false h1
    rcases hfind with ⟨h2, _⟩ | ⟨k, h2, h3, h4⟩
    · exact (h1 (hn ▸ h2)).elim
    · rw [h2] at hn
      cbv
      refine ⟨fun _ => by rw [hn]; exact ⟨zi_nonneg _, zi_lt.2 h3⟩, ?_⟩
      refine (hr _ ?_)
      show _ = some ((l .o).getD (n .o).toNat Ace.z).perm
      rw [hn, zi_toNat]
      unfold permS
      rw [h4]
      rfl
theorem mask_c (l : Th (List Ace)) (hl : short (l .o)) {d : Nat} {K : ARes → BL → Prop} (hr : ∀ n : Th Int, maskS (l .o) = some (n .o) → K (.ret (.int .i64 n)) .nil) (hp : ∀ t, maskS (l .o) = none → K (.pan (lacks t)) .nil) :
    CallAt PT right_list_mask [aces l] d .nil K := by
  refine right_list_mask.of rfl rfl ?_
  cbv
  refine contains_mask_c l hl fun b hb => ?_
  cbv
  refine ⟨fun h1 => ?_, fun h1 => ?_⟩
  · have hm : maskS (l .o) = permS (l .o) 5 := by unfold maskS; rw [if_pos (of_decide_eq_true (hb.symm.trans h1))]
    cbv
    refine perm_c l (fun _ => 5) hl (fun n hn => ?_) fun hn => ?_
    · cbv
      exact (hr _ (hm.trans hn))
    · cbv
      exact (hp _ (hm.trans hn))
  · have hm : maskS (l .o) = some 7 := by unfold maskS; rw [if_neg (of_decide_eq_false (hb.symm.trans h1))]
    cbv
    exact (hr _ hm)
theorem from_c (m : Th Int) {d : Nat} {K : ARes → BL → Prop} (hr : ∀ l : Th (List Ace), l .o = fromMode (m .o) → K (.ret (aces l)) .nil) : CallAt PT acl_From [.int .i64 m] d .nil K := by
  refine CallAt.res ?_
  refine acl_From.of rfl rfl ?_
  cbv
  refine ⟨fun _ => by decide, fun _ => by decide, ?_⟩
  refine ⟨_, .ret (.sl ?_ ?_), (hr (fun _ => fromMode (m .o)) rfl)⟩
  · rfl
  · intro i hi
    have hi : i < 3 := hi
    match i, hi with
    | 0, _ => rfl
    | 1, _ => rfl
    | 2, _ => rfl
theorem of_c (m : Th Meta) {d : Nat} {K : ARes → BL → Prop} (hr : ∀ l : Th (List Ace), l .o = ofS (m .o) → K (.ret (aces l)) .nil) : CallAt PT right_of [Meta.av m] d .nil K := by
  refine right_of.of rfl rfl ?_
  cbv
  refine ⟨fun h1 => ?_, fun h1 => ?_⟩
  · have h1 : 0 < ((m .o).acl).length := zi_lt.1 (of_decide_eq_true h1)
    cbv
    refine (hr (fun _ => (m .o).acl) ?_)
    unfold ofS; rw [if_pos h1]
  · have h1 : ¬ 0 < ((m .o).acl).length := fun q => of_decide_eq_false h1 (zi_lt.2 q)
    cbv
    refine from_c (fun _ => (m .o).mode) fun l hl => ?_
    cbv
    refine (hr l ?_)
    unfold ofS; rw [if_neg h1, hl]
theorem index_int_c (l : Th (List Int)) (x : Th Int) (hl : short (l .o)) {d : Nat} {K : ARes → BL → Prop} (hr : ∀ n : Th Int, n .o = ixP (fun a => decide (x .o = a)) (l .o) → K (.ret (.int .i64 n)) .nil) : CallAt PT slices_Index_int_int [ints l, .int .i64 x] d .nil K := by
  refine slices_Index_int_int.of rfl rfl ?_
  cbv
  refine loop_rule (X := Nat) 1000 [0, 1, 7] [] (fun k => .cons 8 (.int .i64 fun _ => zi k) .nil) (fun _ => .nil) (fun k => k ≤ (l .o).length ∧ ∀ j, j < k → decide (x .o = (l .o).getD j 0) = false) (fun k => (l .o).length - k) 0 ?_ ⟨Nat.zero_le _, fun j hj => by omega⟩ ?_
  · cbv
    exact ⟨⟨.refl _, .refl _, .refl _, .int rfl, trivial⟩, ⟨rfl⟩⟩
  · intro k hk
    cbv
    refine ⟨fun h1 => ?_, fun h1 => ?_⟩
    · have h1 : k < (l .o).length := zi_lt.1 (of_decide_eq_true h1)
      cbv
      refine ⟨fun _ => ⟨zi_nonneg _, zi_lt.2 h1⟩, fun h2 => ?_, fun h2 => ?_⟩
      · cbv
        have h2 : decide (x .o = (l .o).getD (zi k).toNat 0) = true := h2
        rw [zi_toNat] at h2
        exact (hr _ (ixP_at _ 0 _ k h1 hk.2 h2).symm)
      · cbv
        have h2 : decide (x .o = (l .o).getD (zi k).toNat 0) = false := h2
        rw [zi_toNat] at h2
        refine ⟨k + 1, ⟨h1, ?_⟩, by omega, ?_⟩
        · intro j hj
          by_cases he : j = k
          · subst he; exact h2
          · exact hk.2 j (by omega)
        · cbv
          exact ⟨⟨.refl _, .refl _, .refl _, .int (zi_succ (by unfold short at hl; omega)), trivial⟩, ⟨rfl⟩⟩
    · have h1 : ¬ k < (l .o).length := fun q => of_decide_eq_false h1 (zi_lt.2 q)
      cbv
      exact (hr _ (ixP_no _ 0 _ fun j hj => hk.2 j (by omega)).symm)
theorem contains_int_c (l : Th (List Int)) (x : Th Int) (hl : short (l .o)) {d : Nat} {K : ARes → BL → Prop} (hr : ∀ b : Th Bool, b .o = decide (x .o ∈ l .o) → K (.ret (.bool b)) .nil) : CallAt PT slices_Contains_int_int [ints l, .int .i64 x] d .nil K := by
  refine slices_Contains_int_int.of rfl rfl ?_
  cbv
  refine index_int_c l x hl fun n hn => ?_
  cbv
  refine (hr _ ?_)
  show decide (0 ≤ n .o) = _
  rw [hn]
  rcases ixP_find (fun a => decide (x .o = a)) 0 (l .o) with ⟨h1, h2⟩ | ⟨k, h1, h2, h3⟩
  · rw [decide_eq_decide]
    refine ⟨fun h => by omega, fun h => ?_⟩
    have := List.find?_eq_none.1 h2 _ h
    simp at this
  · rw [h1, decide_eq_decide]
    refine ⟨fun _ => ?_, fun _ => zi_nonneg k⟩
    have h4 := List.find?_some h3
    have h5 := List.mem_of_find?_eq_some h3
    rw [← of_decide_eq_true h4] at h5
    exact h5
theorem in_c (c : Th Cred) (g : Th Int) (hl : short (c .o).groups) {d : Nat} {K : ARes → BL → Prop} (hr : ∀ b : Th Bool, b .o = inS (c .o) (g .o) → K (.ret (.bool b)) .nil) : CallAt PT right_In [Cred.av c, .int .i64 g] d .nil K := by
  refine CallAt.res ?_
  refine right_In.of rfl rfl ?_
  cbv
  refine ⟨fun h1 => ?_, fun h1 => ?_⟩
  · refine contains_int_c (fun _ => (c .o).groups) g hl fun b hb => ?_
    cbv
    refine ⟨_, .ret (.refl _), (hr b ?_)⟩
    unfold inS
    rw [hb, show decide ((c .o).gid = g .o) = false from h1]
    rfl
  · cbv
    refine ⟨_, .ret (.tt rfl), (hr (fun _ => true) ?_)⟩
    unfold inS
    rw [show decide ((c .o).gid = g .o) = true from h1]
    rfl
def hasS (w p : Int) : Bool := decide (band p w = w)
theorem ofS_short {m : Meta} (h : short m.acl) : short (ofS m) := by
  unfold ofS
  split
  · exact h
  · show 3 ≤ _; decide
theorem drop_cons {α : Type} (l : List α) (z : α) (k : Nat) (h : k < l.length) : l.drop k = l.getD k z :: l.drop (k + 1) := by
  rw [List.drop_eq_getElem_cons h, List.getD_eq_getElem?_getD, List.getElem?_eq_getElem h]
  rfl
end Go.Proofs.Ytgjlkcdnlndlnaa
/- The document's example of the layer right, and what the laws of rights share. -/
namespace Go.Proofs.Ytgjlkcdnlndlnaa
open Go Go.Proofs.Ytgjlkcdnlndlnaa.Sx F
def metaZ : Meta := ⟨0, 0, 0, 0, 0, [], [], [], ⟨0, 0, 0, false, 0⟩, 0⟩
def credZ : Cred := ⟨0, 0, [], 0⟩
theorem band_le {x y : Int} (h0 : 0 ≤ y) (h1 : y < 4611686018427387904) : 0 ≤ band x y ∧ band x y ≤ y := by
  have hy : (BitVec.ofInt 64 y).toNat = y.toNat := by
    rw [BitVec.toNat_ofInt]
    omega
  have hle : (BitVec.ofInt 64 x &&& BitVec.ofInt 64 y).toNat ≤ y.toNat := by
    rw [BitVec.toNat_and, hy]
    exact Nat.and_le_right
  have he : band x y = IntKind.i64.wrap ((BitVec.ofInt 64 x &&& BitVec.ofInt 64 y).toNat : Int) := rfl
  rw [he, IntKind.wrap_i64]
  omega
theorem fin8 {p : Int → Prop} (h : ∀ n : Fin 8, p (n.1 : Int)) {n : Int} (h0 : 0 ≤ n) (h1 : n < 8) : p n := by
  have := h ⟨n.toNat, by omega⟩
  rwa [show ((⟨n.toNat, by omega⟩ : Fin 8).1 : Int) = n from Int.toNat_of_nonneg h0] at this
end Go.Proofs.Ytgjlkcdnlndlnaa
/- Who asks, by numbers. -/
namespace Go.Proofs.Ytgjlkcdnlndlnaa
open Go Go.Proofs.Ytgjlkcdnlndlnaa.Sx F
end Go.Proofs.Ytgjlkcdnlndlnaa
/- What the laws make by numbers: access lists. -/
namespace Go.Proofs.Ytgjlkcdnlndlnaa
open Go Go.Proofs.Ytgjlkcdnlndlnaa.Sx F
set_option linter.unusedVariables false
set_option linter.unusedSimpArgs false
def pairs (ns : List Int) : Nat := min 6 (ns.length / 2)
end Go.Proofs.Ytgjlkcdnlndlnaa
/- What the laws make by numbers: names with values. -/
namespace Go.Proofs.Ytgjlkcdnlndlnaa
open Go Go.Proofs.Ytgjlkcdnlndlnaa.Sx F
set_option linter.unusedVariables false
set_option linter.unusedSimpArgs false
def byteCh (a : Th Int) : AV := .cons (.int .u8 a) .nil
theorem getD_all {α : Type} {p : α → Prop} {z : α} (hz : p z) : ∀ (l : List α) (n : Nat), (∀ x ∈ l, p x) → p (l.getD n z)
  | [], _, _ => by simpa using hz
  | x :: r, 0, h => by simpa using h x (by simp)
  | x :: r, n + 1, h => by simpa using getD_all hz r n fun y hy => h y (by simp [hy])
theorem bytesN_len (n : Nat) (g : Th Nat → AV) : (bytesN n g).length = n := by simp [bytesN]
end Go.Proofs.Ytgjlkcdnlndlnaa
/- What the laws make by numbers: what is kept of a file. -/
namespace Go.Proofs.Ytgjlkcdnlndlnaa
open Go Go.Proofs.Ytgjlkcdnlndlnaa.Sx F
set_option linter.unusedVariables false
set_option linter.unusedSimpArgs false
theorem nsl_aces : Same .nsl (aces fun _ => []) := Same.nsl rfl
theorem nsl_xattrs : Same .nsl (xattrs fun _ => []) := Same.nsl rfl
theorem ff_bool : Same .ff (.bool fun _ => false) := Same.ff rfl
end Go.Proofs.Ytgjlkcdnlndlnaa
/- The law RightModes, walked: it answers true whatever the numbers. -/
namespace Go.Proofs.Ytgjlkcdnlndlnaa
open Go Go.Proofs.Ytgjlkcdnlndlnaa.Sx F
set_option linter.unusedVariables false
set_option linter.unusedSimpArgs false
theorem band_7 (x : Int) : 0 ≤ band x 7 ∧ band x 7 < 8 := by
  have := band_le (x := x) (y := 7) (by decide) (by decide)
  omega
end Go.Proofs.Ytgjlkcdnlndlnaa
/- Who can what: the law of lists, in plain Lean. -/
namespace Go.Proofs.Ytgjlkcdnlndlnaa
open Go Go.Proofs.Ytgjlkcdnlndlnaa.Sx F
set_option linter.unusedVariables false
set_option linter.unusedSimpArgs false
structure Good (l : List Ace) : Prop where
  perm : ∀ a ∈ l, 0 ≤ a.perm ∧ a.perm < 8
  own : ∃ a ∈ l, a.tag = 1
  grp : ∃ a ∈ l, a.tag = 3
  oth : ∃ a ∈ l, a.tag = 6
theorem good_mode (m : Int) : Good (fromMode m) := by
  have h := band_le (x := m) (y := 511) (by decide) (by decide)
  refine ⟨fun a ha => ?_, ⟨_, .head _, rfl⟩, ⟨_, .tail _ (.head _), rfl⟩, ⟨_, .tail _ (.tail _ (.head _)), rfl⟩⟩
  simp only [fromMode, List.mem_cons, List.not_mem_nil, or_false] at ha
  rcases ha with rfl | rfl | rfl
  · show 0 ≤ (band m 511).fdiv 64 ∧ (band m 511).fdiv 64 < 8
    rw [Int.fdiv_eq_ediv_of_nonneg _ (by decide)]
    omega
  · exact band_7 _
  · exact band_7 _
theorem perm_some {l : List Ace} (h : Good l) {t : Int} (ht : ∃ a ∈ l, a.tag = t) : ∃ p, permS l t = some p ∧ 0 ≤ p ∧ p < 8 := by
  obtain ⟨a, ha, hat⟩ := ht
  unfold permS
  cases hf : l.find? fun a => decide (a.tag = t) with
  | none => exact absurd (List.find?_eq_none.1 hf a ha) (by simp [hat])
  | some b => exact ⟨b.perm, rfl, h.perm b (List.mem_of_find?_eq_some hf)⟩
theorem mask_some {l : List Ace} (h : Good l) : ∃ p, maskS l = some p ∧ 0 ≤ p ∧ p < 8 := by
  unfold maskS
  split
  · rename_i hx
    rcases ixP_find (fun a : Ace => decide (a.tag = 5)) Ace.z l with ⟨h1, _⟩ | ⟨k, _, _, h3⟩
    · omega
    · refine perm_some h ⟨_, List.mem_of_find?_eq_some h3, by simpa using List.find?_some h3⟩
  · exact ⟨7, rfl, by decide, by decide⟩
theorem fin88 {p : Int → Int → Prop} (h : ∀ n k : Fin 8, p (n.1 : Int) (k.1 : Int)) {n k : Int} (hn : 0 ≤ n ∧ n < 8) (hk : 0 ≤ k ∧ k < 8) : p n k :=
  fin8 (p := fun n => ∀ k, 0 ≤ k ∧ k < 8 → p n k) (fun n k hk => fin8 (p := p n.1) (fun k => h n k) hk.1 hk.2) hn.1 hn.2 k hk
def bor (a b : Int) : Int := abits .or .i64 a b
end Go.Proofs.Ytgjlkcdnlndlnaa
/- right.Less, walked, and what it answers. -/
namespace Go.Proofs.Ytgjlkcdnlndlnaa
open Go Go.Proofs.Ytgjlkcdnlndlnaa.Sx F
set_option linter.unusedVariables false
set_option linter.unusedSimpArgs false
def lessG (mask : Int) : List Ace → Int → Int → Int × Int
  | [], g, o => (g, o)
  | a :: r, g, o =>
    if a.tag = 2 then lessG mask r (band g (band a.perm mask)) (band o (band a.perm mask))
    else if a.tag = 4 then lessG mask r g (band o (band a.perm mask))
    else lessG mask r g o
def lessN (p g o : Int) : Int := bor (bor (IntKind.i64.wrap (p * 2 ^ 6)) (IntKind.i64.wrap (g * 2 ^ 3))) o
def lessO (l : List Ace) : Option Int :=
  (maskS l).bind fun mask => (permS l 3).bind fun g => (permS l 6).bind fun o => (permS l 1).map fun p =>
    lessN p (lessG mask l (band g mask) o).1 (lessG mask l (band g mask) o).2
def box1 (m : Th Meta) : BL := .cons 10000 (.cells (Meta.ch m)) .nil
theorem less1_c (m : Th Meta) (hm : short (m .o).acl) {d : Nat} {K : ARes → BL → Prop} (hr : ∀ n : Th Int, lessO (ofS (m .o)) = some (n .o) → K (.ret (.int .i64 n)) (box1 m))
    (hp : ∀ t, lessO (ofS (m .o)) = none → K (.pan (lacks t)) (box1 m)) : CallAt PT right_Less_1 [.ptr 10000 0] d (box1 m) K := by
  refine right_Less_1.of rfl rfl ?_
  cbv
  refine of_c m fun l hl => ?_
  have hls : short (l .o) := by rw [hl]; exact ofS_short hm
  rw [← hl] at hr hp
  cbv
  refine mask_c l hls (fun mk hmk => ?_) fun t ht => ?_
  rotate_left
  · cbv
    exact hp _ (by unfold lessO; rw [ht]; rfl)
  cbv
  refine perm_c l (fun _ => 3) hls (fun g hg => ?_) fun hg => ?_
  rotate_left
  · cbv
    exact hp _ (by unfold lessO; rw [hmk, show permS (l .o) 3 = none from hg]; rfl)
  have hg : permS (l .o) 3 = some (g .o) := hg
  cbv
  refine perm_c l (fun _ => 6) hls (fun o ho => ?_) fun ho => ?_
  rotate_left
  · cbv
    exact hp _ (by unfold lessO; rw [hmk, hg, show permS (l .o) 6 = none from ho]; rfl)
  have ho : permS (l .o) 6 = some (o .o) := ho
  cbv
  refine loop_rule (X := Nat × Int × Int) 1000 [0, 2, 3, 18, 19] [10000] (fun x => .cons 20 (.int .i64 fun _ => zi x.1) (.cons 4 (.int .i64 fun _ => x.2.1) (.cons 5 (.int .i64 fun _ => x.2.2) .nil))) (fun _ => .nil)
    (fun x => x.1 ≤ (l .o).length ∧ lessG (mk .o) (l .o) (band (g .o) (mk .o)) (o .o) = lessG (mk .o) ((l .o).drop x.1) x.2.1 x.2.2) (fun x => (l .o).length - x.1) (0, band (g .o) (mk .o), o .o) ?_ ⟨Nat.zero_le _, rfl⟩ ?_
  · cbv
    (repeat' (first | exact True.intro | exact Same.refl _ | exact SameB.refl _ | exact ⟨rfl⟩ | exact Same.int rfl | exact Same.str rfl | exact Same.bool rfl | (refine Same.int ?_; simp only [List.length_append, List.length_cons, List.length_nil, zi]; omega) | (refine SameB.row' rfl fun i hi => ?_; first | rfl | exact absurd hi (Nat.not_lt_zero _)) | refine And.intro ?_ ?_ | refine SameB.cells ?_ | exact SameC.nil | refine SameC.cons ?_ ?_ | exact Same.nsl rfl | exact Same.tt rfl | exact Same.ff rfl))
  · rintro ⟨k, gg, oo⟩ ⟨hk, hgo⟩
    dsimp only at hk hgo
    have succ := zi_succ (k := k) (by unfold short at hls; omega)
    cbv
    ((try refine br_rev ?_); (first | refine br_dec (fun h2 => ?_) (fun h2 => ?_) | refine br_ndec (fun h2 => ?_) (fun h2 => ?_) | refine br_nbool (fun h2 => ?_) (fun h2 => ?_) | refine br_bool (fun h2 => ?_) (fun h2 => ?_)); all_goals (try dsimp only at h2); all_goals (try with_reducible replace h2 := zi_lt.1 h2); all_goals (try with_reducible replace h2 := not_zlt h2)) <;> cbv
    · rw [drop_cons _ Ace.z _ h2] at hgo
      refine safe ⟨zi_nonneg _, zi_lt.2 h2⟩ ?_
      generalize hx : (l O1.o).getD ((fun x => (zi (k, gg, oo).fst).toNat) O1.o) Ace.z = a
      have hx : (l .o).getD k Ace.z = a := by rw [← hx]; show _ = (l .o).getD (zi k).toNat Ace.z; rw [zi_toNat]
      rw [hx] at hgo
      ((try refine br_rev ?_); (first | refine br_dec (fun h3 => ?_) (fun h3 => ?_) | refine br_ndec (fun h3 => ?_) (fun h3 => ?_) | refine br_nbool (fun h3 => ?_) (fun h3 => ?_) | refine br_bool (fun h3 => ?_) (fun h3 => ?_)); all_goals (try dsimp only at h3); all_goals (try with_reducible replace h3 := zi_lt.1 h3); all_goals (try with_reducible replace h3 := not_zlt h3)) <;> cbv
      · refine ⟨(k + 1, band gg (band a.perm (mk .o)), band oo (band a.perm (mk .o))), ⟨by show k + 1 ≤ _; omega, by show _ = lessG _ _ (band gg (band a.perm (mk .o))) (band oo (band a.perm (mk .o))); rw [hgo, lessG, if_pos h3]⟩, by show _ - (k + 1) < _ - k; omega, ?_⟩
        cbv
        (repeat' (first | exact True.intro | exact Same.refl _ | exact SameB.refl _ | exact ⟨rfl⟩ | exact Same.int rfl | exact Same.str rfl | exact Same.bool rfl | (refine Same.int ?_; simp only [List.length_append, List.length_cons, List.length_nil, zi]; omega) | (refine SameB.row' rfl fun i hi => ?_; first | rfl | exact absurd hi (Nat.not_lt_zero _)) | refine And.intro ?_ ?_ | refine SameB.cells ?_ | exact SameC.nil | refine SameC.cons ?_ ?_ | exact Same.nsl rfl | exact Same.tt rfl | exact Same.ff rfl))
        all_goals exact Same.int succ
      · ((try refine br_rev ?_); (first | refine br_dec (fun h4 => ?_) (fun h4 => ?_) | refine br_ndec (fun h4 => ?_) (fun h4 => ?_) | refine br_nbool (fun h4 => ?_) (fun h4 => ?_) | refine br_bool (fun h4 => ?_) (fun h4 => ?_)); all_goals (try dsimp only at h4); all_goals (try with_reducible replace h4 := zi_lt.1 h4); all_goals (try with_reducible replace h4 := not_zlt h4)) <;> cbv
        · refine ⟨(k + 1, gg, band oo (band a.perm (mk .o))), ⟨by show k + 1 ≤ _; omega, by show _ = lessG _ _ gg (band oo (band a.perm (mk .o))); rw [hgo, lessG, if_neg h3, if_pos h4]⟩, by show _ - (k + 1) < _ - k; omega, ?_⟩
          cbv
          (repeat' (first | exact True.intro | exact Same.refl _ | exact SameB.refl _ | exact ⟨rfl⟩ | exact Same.int rfl | exact Same.str rfl | exact Same.bool rfl | (refine Same.int ?_; simp only [List.length_append, List.length_cons, List.length_nil, zi]; omega) | (refine SameB.row' rfl fun i hi => ?_; first | rfl | exact absurd hi (Nat.not_lt_zero _)) | refine And.intro ?_ ?_ | refine SameB.cells ?_ | exact SameC.nil | refine SameC.cons ?_ ?_ | exact Same.nsl rfl | exact Same.tt rfl | exact Same.ff rfl))
          all_goals exact Same.int succ
        · refine ⟨(k + 1, gg, oo), ⟨by show k + 1 ≤ _; omega, by show _ = lessG _ _ gg oo; rw [hgo, lessG, if_neg h3, if_neg h4]⟩, by show _ - (k + 1) < _ - k; omega, ?_⟩
          cbv
          (repeat' (first | exact True.intro | exact Same.refl _ | exact SameB.refl _ | exact ⟨rfl⟩ | exact Same.int rfl | exact Same.str rfl | exact Same.bool rfl | (refine Same.int ?_; simp only [List.length_append, List.length_cons, List.length_nil, zi]; omega) | (refine SameB.row' rfl fun i hi => ?_; first | rfl | exact absurd hi (Nat.not_lt_zero _)) | refine And.intro ?_ ?_ | refine SameB.cells ?_ | exact SameC.nil | refine SameC.cons ?_ ?_ | exact Same.nsl rfl | exact Same.tt rfl | exact Same.ff rfl))
          all_goals exact Same.int succ
    · rw [List.drop_eq_nil_of_le (by omega)] at hgo
      refine perm_c l (fun _ => 1) hls (fun p hp1 => ?_) fun hp1 => ?_
      · have hp1 : permS (l .o) 1 = some (p .o) := hp1
        (cbv; repeat (refine safe (by first | decide | (simp only [zi] at *; omega) | assumption | (dsimp only; omega) | (dsimp only at *; simp only [List.length_append, List.length_cons, List.length_nil, zi] at *; omega)) ?_; cbv))
        exact hr _ (by unfold lessO; rw [hmk, hg, ho, hp1]; show some _ = _; rw [hgo]; rfl)
      · cbv
        exact hp _ (by unfold lessO; rw [hmk, hg, ho, show permS (l .o) 1 = none from hp1]; rfl)
theorem lookid_none_c (b : Th Int) {K : BL → Prop} (h : K (.cons 10000 (.cells (.cons (.int .i64 b) .nil)) .nil)) : DefAt PT right_look_int_1 false [.nif, .ptr 10000 0] (.cons 10000 (.cells (.cons (.int .i64 b) .nil)) .nil) K := by
  refine right_look_int_1.of rfl rfl (fun _ => rfl) ?_
  cbv
  exact h
theorem lookid_some_c (t : Th Int) {K : BL → Prop} (h : K (.cons 10000 (.cells (.cons (.int .i64 fun _ => 0) .nil)) .nil)) : DefAt PT right_look_int_1 true [lacks t, .ptr 10000 0] (.cons 10000 (.cells (.cons (.int .i64 fun _ => 0) .nil)) .nil) K := by
  refine right_look_int_1.of rfl rfl (fun h => by cases h) ?_
  cbv
  exact h
theorem look_less_c (m : Th Meta) (hm : short (m .o).acl) {d : Nat} {K : ARes → BL → Prop} (hr : ∀ n : Th Int, n .o = (lessO (ofS (m .o))).getD 0 → K (.ret (.int .i64 n)) (box1 m)) :
    CallAt PT right_look_int [.fn (.func right_Less_1) .nil (.cons (.ptr 10000 0) .nil)] d (box1 m) K := by
  refine CallAt.res ?_
  refine right_look_int.of rfl rfl ?_
  cbv
  refine CallAt.frameP [(10000, 10000)] [.ptr 10000 0] (by kernel_rfl) rfl fun K1 hK1 => ?_
  cbv
  refine less1_c m hm (fun b hb => hK1 _ _ ?_) fun t ht => hK1 _ _ ?_
  · cbv
    refine DefAt.use [(10000, 2)] [.nif, .ptr 10000 0] (by kernel_rfl) rfl (lookid_none_c b ?_)
    cbv
    refine ⟨_, .ret (.refl _), hr b ?_⟩
    rw [hb]; rfl
  · cbv
    refine DefAt.use [(10000, 2)] [lacks t, .ptr 10000 0] (by kernel_rfl) rfl (lookid_some_c t ?_)
    cbv
    refine ⟨_, .ret (.refl _), hr (fun _ => 0) ?_⟩
    rw [ht]; rfl
def LessS (m : Meta) : Int := (lessO (ofS m)).getD 0
theorem Less_c (m : Th Meta) (hm : short (m .o).acl) {d : Nat} {K : ARes → BL → Prop} (hr : ∀ n : Th Int, n .o = LessS (m .o) → K (.ret (.int .i64 n)) .nil) :
    CallAt PT right_Less [Meta.av m] d .nil K := by
  refine right_Less.of rfl rfl ?_
  cbv
  refine CallAt.frameP [(10000, 1)] [.fn (.func right_Less_1) .nil (.cons (.ptr 10000 0) .nil)] (by kernel_rfl) rfl fun K1 hK1 => ?_
  cbv
  refine look_less_c m hm fun n hn => hK1 _ _ ?_
  cbv
  exact hr n hn
theorem fin888 {p : Int → Int → Int → Prop} (h : ∀ n k j : Fin 8, p (n.1 : Int) (k.1 : Int) (j.1 : Int)) {n k j : Int} (hn : 0 ≤ n ∧ n < 8) (hk : 0 ≤ k ∧ k < 8) (hj : 0 ≤ j ∧ j < 8) : p n k j :=
  fin88 (p := fun n k => ∀ j, 0 ≤ j ∧ j < 8 → p n k j) (fun n k j hj => fin8 (p := p n.1 k.1) (fun j => h n k j) hj.1 hj.2) hn hk j hj
/-- What a right may, another may. -/
def sub (x y : Int) : Prop := ∀ w, 0 ≤ w → w < 8 → hasS w x = true → hasS w y = true
theorem sub_refl (x : Int) : sub x x := fun _ _ _ h => h
theorem sub_trans {x y z : Int} (h1 : sub x y) (h2 : sub y z) : sub x z := fun w a b h => h2 w a b (h1 w a b h)
theorem band_8 {a b : Int} (ha : 0 ≤ a ∧ a < 8) (hb : 0 ≤ b ∧ b < 8) : 0 ≤ band a b ∧ band a b < 8 := fin88 (p := fun a b => 0 ≤ band a b ∧ band a b < 8) (by decide +kernel) ha hb
theorem sub_l {a b : Int} (ha : 0 ≤ a ∧ a < 8) (hb : 0 ≤ b ∧ b < 8) : sub (band a b) a := fun w h0 h1 =>
  fin888 (p := fun a b w => hasS w (band a b) = true → hasS w a = true) (by decide +kernel) ha hb ⟨h0, h1⟩
theorem sub_r {a b : Int} (ha : 0 ≤ a ∧ a < 8) (hb : 0 ≤ b ∧ b < 8) : sub (band a b) b := fun w h0 h1 =>
  fin888 (p := fun a b w => hasS w (band a b) = true → hasS w b = true) (by decide +kernel) ha hb ⟨h0, h1⟩
structure LessOk (mask : Int) (l : List Ace) (g o : Int) (x : Int × Int) : Prop where
  r1 : 0 ≤ x.1 ∧ x.1 < 8
  r2 : 0 ≤ x.2 ∧ x.2 < 8
  g : sub x.1 g
  o : sub x.2 o
  u : ∀ a ∈ l, a.tag = 2 → sub x.1 (band a.perm mask) ∧ sub x.2 (band a.perm mask)
  n : ∀ a ∈ l, a.tag = 4 → sub x.2 (band a.perm mask)
theorem lessG_ok {mask : Int} (hm : 0 ≤ mask ∧ mask < 8) : ∀ (l : List Ace) (g o : Int), (∀ a ∈ l, 0 ≤ a.perm ∧ a.perm < 8) → 0 ≤ g ∧ g < 8 → 0 ≤ o ∧ o < 8 → LessOk mask l g o (lessG mask l g o)
  | [], g, o, _, hg, ho => ⟨hg, ho, sub_refl _, sub_refl _, by simp, by simp⟩
  | a :: r, g, o, hl, hg, ho => by
    have ha := hl a (by simp)
    have hr := fun x hx => hl x (List.mem_cons_of_mem a hx)
    have hb := band_8 ha hm
    unfold lessG
    by_cases h2 : a.tag = 2
    · rw [if_pos h2]
      have ih := lessG_ok hm r _ _ hr (band_8 hg hb) (band_8 ho hb)
      refine ⟨ih.r1, ih.r2, sub_trans ih.g (sub_l hg hb), sub_trans ih.o (sub_l ho hb), fun x hx ht => ?_, fun x hx ht => ?_⟩
      · rcases List.mem_cons.1 hx with rfl | hx
        · exact ⟨sub_trans ih.g (sub_r hg hb), sub_trans ih.o (sub_r ho hb)⟩
        · exact ih.u x hx ht
      · rcases List.mem_cons.1 hx with rfl | hx
        · omega
        · exact ih.n x hx ht
    · rw [if_neg h2]
      by_cases h4 : a.tag = 4
      · rw [if_pos h4]
        have ih := lessG_ok hm r _ _ hr hg (band_8 ho hb)
        refine ⟨ih.r1, ih.r2, ih.g, sub_trans ih.o (sub_l ho hb), fun x hx ht => ?_, fun x hx ht => ?_⟩
        · rcases List.mem_cons.1 hx with rfl | hx
          · exact absurd ht h2
          · exact ih.u x hx ht
        · rcases List.mem_cons.1 hx with rfl | hx
          · exact sub_trans ih.o (sub_r ho hb)
          · exact ih.n x hx ht
      · rw [if_neg h4]
        have ih := lessG_ok hm r _ _ hr hg ho
        refine ⟨ih.r1, ih.r2, ih.g, ih.o, fun x hx ht => ?_, fun x hx ht => ?_⟩
        · rcases List.mem_cons.1 hx with rfl | hx
          · exact absurd ht h2
          · exact ih.u x hx ht
        · rcases List.mem_cons.1 hx with rfl | hx
          · exact absurd ht h4
          · exact ih.n x hx ht
theorem lessN_eq {p g o : Int} (hp : 0 ≤ p ∧ p < 8) (hg : 0 ≤ g ∧ g < 8) (ho : 0 ≤ o ∧ o < 8) : lessN p g o = 64 * p + 8 * g + o :=
  fin888 (p := fun p g o => lessN p g o = 64 * p + 8 * g + o) (by decide +kernel) hp hg ho
theorem fin512 {p : Int → Prop} (h : ∀ n : Fin 512, p (n.1 : Int)) {n : Int} (h0 : 0 ≤ n) (h1 : n < 512) : p n := by
  have := h ⟨n.toNat, by omega⟩
  rwa [show ((⟨n.toNat, by omega⟩ : Fin 512).1 : Int) = n from Int.toNat_of_nonneg h0] at this
theorem less_mode {m : Meta} (h : m.acl = []) : LessS m = band m.mode 511 := by
  have hb := band_le (x := m.mode) (y := 511) (by decide) (by decide)
  unfold LessS ofS
  rw [h]
  simp only [List.length_nil, Nat.lt_irrefl, if_false]
  unfold fromMode
  generalize band m.mode 511 = b at hb
  exact fin512 (p := fun b => (lessO [⟨1, 0, b.fdiv (2 ^ 6)⟩, ⟨3, 0, band (b.fdiv (2 ^ 3)) 7⟩, ⟨6, 0, band b 7⟩]).getD 0 = b) (by decide +kernel) (by omega) (by omega)
end Go.Proofs.Ytgjlkcdnlndlnaa
/- The document's answers on rights, walked. -/
namespace Go.Proofs.Ytgjlkcdnlndlnaa
open Go Go.Proofs.Ytgjlkcdnlndlnaa.Sx F
set_option linter.unusedVariables false
set_option linter.unusedSimpArgs false
def permR (l : List Ace) (t : Int) : Int := (permS l t).getD (-1)
theorem permS_cons (a : Ace) (r : List Ace) (t : Int) : permS (a :: r) t = if a.tag = t then some a.perm else permS r t := by
  unfold permS
  by_cases h : a.tag = t <;> simp [h]
theorem perm9_c (l : Th (List Ace)) (t : Th Int) (hl : short (l .o)) {d : Nat} {K : ARes → BL → Prop} (hr : ∀ n : Th Int, n .o = permR (l .o) (t .o) → K (.ret (.int .i64 n)) .nil) : CallAt PT r9_Perm [aces l, .int .i64 t] d .nil K := by
  refine r9_Perm.of rfl rfl ?_
  cbv
  refine loop_rule (X := Nat) 1000 [0, 1] [] (fun k => .cons 5 (.int .i64 fun _ => zi k) .nil) (fun _ => .nil) (fun k => k ≤ (l .o).length ∧ permS (l .o) (t .o) = permS ((l .o).drop k) (t .o)) (fun k => (l .o).length - k) 0 ?_ ⟨Nat.zero_le _, rfl⟩ ?_
  · cbv
    (repeat' (first | exact True.intro | exact Same.refl _ | exact SameB.refl _ | exact ⟨rfl⟩ | exact Same.int rfl | exact Same.str rfl | exact Same.bool rfl | (refine Same.int ?_; simp only [List.length_append, List.length_cons, List.length_nil, zi]; omega) | (refine SameB.row' rfl fun i hi => ?_; first | rfl | exact absurd hi (Nat.not_lt_zero _)) | refine And.intro ?_ ?_ | refine SameB.cells ?_ | exact SameC.nil | refine SameC.cons ?_ ?_ | exact Same.nsl rfl | exact Same.tt rfl | exact Same.ff rfl))
  · rintro k ⟨hk, hp⟩
    have succ := zi_succ (k := k) (by unfold short at hl; omega)
    cbv
    ((try refine br_rev ?_); (first | refine br_dec (fun h1 => ?_) (fun h1 => ?_) | refine br_ndec (fun h1 => ?_) (fun h1 => ?_) | refine br_nbool (fun h1 => ?_) (fun h1 => ?_) | refine br_bool (fun h1 => ?_) (fun h1 => ?_)); all_goals (try dsimp only at h1); all_goals (try with_reducible replace h1 := zi_lt.1 h1); all_goals (try with_reducible replace h1 := not_zlt h1)) <;> cbv
    · rw [drop_cons _ Ace.z _ h1, permS_cons] at hp
      refine safe ⟨zi_nonneg _, zi_lt.2 h1⟩ ?_
      have hz := zi_toNat k
      ((try refine br_rev ?_); (first | refine br_dec (fun h2 => ?_) (fun h2 => ?_) | refine br_ndec (fun h2 => ?_) (fun h2 => ?_) | refine br_nbool (fun h2 => ?_) (fun h2 => ?_) | refine br_bool (fun h2 => ?_) (fun h2 => ?_)); all_goals (try dsimp only at h2); all_goals (try with_reducible replace h2 := zi_lt.1 h2); all_goals (try with_reducible replace h2 := not_zlt h2)) <;> cbv
      · rw [hz] at h2
        refine safe ⟨zi_nonneg _, zi_lt.2 h1⟩ ?_
        exact hr _ (by unfold permR; rw [hp, if_pos h2]; show ((l .o).getD (zi k).toNat Ace.z).perm = _; rw [hz]; rfl)
      · rw [hz] at h2
        rw [if_neg h2] at hp
        refine ⟨k + 1, ⟨h1, hp⟩, by omega, ?_⟩
        cbv
        (repeat' (first | exact True.intro | exact Same.refl _ | exact SameB.refl _ | exact ⟨rfl⟩ | exact Same.int rfl | exact Same.str rfl | exact Same.bool rfl | (refine Same.int ?_; simp only [List.length_append, List.length_cons, List.length_nil, zi]; omega) | (refine SameB.row' rfl fun i hi => ?_; first | rfl | exact absurd hi (Nat.not_lt_zero _)) | refine And.intro ?_ ?_ | refine SameB.cells ?_ | exact SameC.nil | refine SameC.cons ?_ ?_ | exact Same.nsl rfl | exact Same.tt rfl | exact Same.ff rfl))
        all_goals exact Same.int succ
    · rw [List.drop_eq_nil_of_le (by omega)] at hp
      exact hr (fun _ => -1) (by unfold permR; rw [hp]; rfl)
theorem in9_c (c : Th Cred) (g : Th Int) (hl : short (c .o).groups) {d : Nat} {K : ARes → BL → Prop} (hr : ∀ b : Th Bool, b .o = inS (c .o) (g .o) → K (.ret (.bool b)) .nil) : CallAt PT r18_In [Cred.av c, .int .i64 g] d .nil K := by
  refine r18_In.of rfl rfl ?_
  cbv
  refine loop_rule (X := Nat × Bool) 1000 [1, 2] [2] (fun x => .cons 5 (.bool fun _ => x.2) (.cons 6 (.int .i64 fun _ => zi x.1) .nil)) (fun _ => .nil) (fun x => x.1 ≤ (c .o).groups.length ∧ x.2 = (decide ((c .o).gid = g .o) || decide (g .o ∈ (c .o).groups.take x.1))) (fun x => (c .o).groups.length - x.1) (0, decide ((c .o).gid = g .o)) ?_ ⟨Nat.zero_le _, by simp⟩ ?_
  · cbv
    (repeat' (first | exact True.intro | exact Same.refl _ | exact SameB.refl _ | exact ⟨rfl⟩ | exact Same.int rfl | exact Same.str rfl | exact Same.bool rfl | (refine Same.int ?_; simp only [List.length_append, List.length_cons, List.length_nil, zi]; omega) | (refine SameB.row' rfl fun i hi => ?_; first | rfl | exact absurd hi (Nat.not_lt_zero _)) | refine And.intro ?_ ?_ | refine SameB.cells ?_ | exact SameC.nil | refine SameC.cons ?_ ?_ | exact Same.nsl rfl | exact Same.tt rfl | exact Same.ff rfl))
  · rintro ⟨k, b⟩ ⟨hk, hb⟩
    dsimp only at hk hb
    have succ := zi_succ (k := k) (by unfold short at hl; omega)
    have hz := zi_toNat k
    cbv
    ((try refine br_rev ?_); (first | refine br_dec (fun h1 => ?_) (fun h1 => ?_) | refine br_ndec (fun h1 => ?_) (fun h1 => ?_) | refine br_nbool (fun h1 => ?_) (fun h1 => ?_) | refine br_bool (fun h1 => ?_) (fun h1 => ?_)); all_goals (try dsimp only at h1); all_goals (try with_reducible replace h1 := zi_lt.1 h1); all_goals (try with_reducible replace h1 := not_zlt h1)) <;> cbv
    · have hstep : (decide ((c .o).gid = g .o) || decide (g .o ∈ (c .o).groups.take (k + 1))) = (b || decide ((c .o).groups.getD k 0 = g .o)) := by
        rw [hb, List.take_add_one, List.getD_eq_getElem?_getD, List.getElem?_eq_getElem h1]
        simp only [List.mem_append, Option.toList_some, List.mem_singleton, Option.getD_some, Bool.or_assoc, Bool.decide_or]
        congr 2
        exact decide_eq_decide.2 eq_comm
      refine br_rev (br_bool (fun h2 => ?_) (fun h2 => ?_))
      · replace h2 : b = true := h2
        cbv
        refine ⟨(k + 1, true), ⟨h1, by show true = _; rw [hstep, h2]; rfl⟩, by show _ - (k + 1) < _ - k; omega, ?_⟩
        cbv
        (repeat' (first | exact True.intro | exact Same.refl _ | exact SameB.refl _ | exact ⟨rfl⟩ | exact Same.int rfl | exact Same.str rfl | exact Same.bool rfl | (refine Same.int ?_; simp only [List.length_append, List.length_cons, List.length_nil, zi]; omega) | (refine SameB.row' rfl fun i hi => ?_; first | rfl | exact absurd hi (Nat.not_lt_zero _)) | refine And.intro ?_ ?_ | refine SameB.cells ?_ | exact SameC.nil | refine SameC.cons ?_ ?_ | exact Same.nsl rfl | exact Same.tt rfl | exact Same.ff rfl))
        all_goals first | exact Same.int succ | exact Same.tt rfl
      · replace h2 : b = false := h2
        cbv
        refine safe ⟨zi_nonneg _, zi_lt.2 h1⟩ ?_
        refine ⟨(k + 1, decide ((c .o).groups.getD k 0 = g .o)), ⟨h1, by show decide _ = _; rw [hstep, h2]; rfl⟩, by show _ - (k + 1) < _ - k; omega, ?_⟩
        cbv
        (repeat' (first | exact True.intro | exact Same.refl _ | exact SameB.refl _ | exact ⟨rfl⟩ | exact Same.int rfl | exact Same.str rfl | exact Same.bool rfl | (refine Same.int ?_; simp only [List.length_append, List.length_cons, List.length_nil, zi]; omega) | (refine SameB.row' rfl fun i hi => ?_; first | rfl | exact absurd hi (Nat.not_lt_zero _)) | refine And.intro ?_ ?_ | refine SameB.cells ?_ | exact SameC.nil | refine SameC.cons ?_ ?_ | exact Same.nsl rfl | exact Same.tt rfl | exact Same.ff rfl))
        all_goals first | exact Same.int succ | exact Same.bool (by show decide ((c .o).groups.getD (zi k).toNat 0 = g .o) = decide ((c .o).groups.getD k 0 = g .o); rw [hz])
    · exact hr _ (by show b = _; rw [hb, List.take_of_length_le (by omega)]; rfl)
def mask9 (l : List Ace) : Int := if permR l 5 < 0 then 7 else permR l 5
end Go.Proofs.Ytgjlkcdnlndlnaa
/- What may be said of a node: its parts, walked. -/
namespace Go.Proofs.Ytgjlkcdnlndlnaa
open Go Go.Proofs.Ytgjlkcdnlndlnaa.Sx F
set_option linter.unusedVariables false
set_option linter.unusedSimpArgs false
def StampOk (s n : Int) : Prop := -1099511627776 ≤ s ∧ s ≤ 1099511627776 ∧ 0 ≤ n ∧ n < 1000000000
def stampAv (s n : Th Int) : AV := .agg (.cons (.int .i64 s) (.cons (.int .i64 n) .nil))
theorem stamp1_c (s n : Th Int) {d : Nat} {K : ARes → BL → Prop} (hr : ∀ b : Th Bool, (b .o = true ↔ StampOk (s .o) (n .o)) → K (.ret (.bool b)) .nil) : CallAt PT r1_MayStamp [stampAv s n] d .nil K := by
  refine CallAt.res ?_
  refine r1_MayStamp.of rfl rfl ?_
  cbv
  (repeat' (first | (refine br_dec (fun h => ?_) (fun h => ?_) <;> cbv) | (refine br_rev (br_dec (fun h => ?_) (fun h => ?_)) <;> cbv) | (refine br_ndec (fun h => ?_) (fun h => ?_) <;> cbv) | (refine br_rev (br_ndec (fun h => ?_) (fun h => ?_)) <;> cbv)))
  all_goals (first | exact ⟨_, .ret (.tt rfl), hr (fun _ => true) (by (try dsimp only at *); (try simp only [decide_eq_true_eq, true_iff, false_iff, Bool.false_eq_true, StampOk]); omega)⟩ | exact ⟨_, .ret (.ff rfl), hr (fun _ => false) (by (try dsimp only at *); (try simp only [decide_eq_true_eq, true_iff, false_iff, Bool.false_eq_true, StampOk]); omega)⟩ | exact ⟨_, .ret (.refl _), hr _ (by (try dsimp only at *); (try simp only [decide_eq_true_eq, true_iff, false_iff, Bool.false_eq_true, StampOk]); omega)⟩)
def IdOk (n : Int) : Prop := 0 ≤ n ∧ n ≤ 2147483647
theorem id9_c (n : Th Int) {d : Nat} {K : ARes → BL → Prop} (hr : ∀ b : Th Bool, (b .o = true ↔ IdOk (n .o)) → K (.ret (.bool b)) .nil) : CallAt PT r9_id [.int .i64 n] d .nil K := by
  refine CallAt.res ?_
  refine r9_id.of rfl rfl ?_
  cbv
  (repeat' (first | (refine br_dec (fun h => ?_) (fun h => ?_) <;> cbv) | (refine br_rev (br_dec (fun h => ?_) (fun h => ?_)) <;> cbv) | (refine br_ndec (fun h => ?_) (fun h => ?_) <;> cbv) | (refine br_rev (br_ndec (fun h => ?_) (fun h => ?_)) <;> cbv)))
  all_goals (first | exact ⟨_, .ret (.tt rfl), hr (fun _ => true) (by (try dsimp only at *); (try simp only [decide_eq_true_eq, true_iff, false_iff, Bool.false_eq_true, IdOk]); omega)⟩ | exact ⟨_, .ret (.ff rfl), hr (fun _ => false) (by (try dsimp only at *); (try simp only [decide_eq_true_eq, true_iff, false_iff, Bool.false_eq_true, IdOk]); omega)⟩ | exact ⟨_, .ret (.refl _), hr _ (by (try dsimp only at *); (try simp only [decide_eq_true_eq, true_iff, false_iff, Bool.false_eq_true, IdOk]); omega)⟩)
def Caps.zero : Caps := ⟨0, 0, 0, false, 0⟩
def CapsOk (c : Caps) : Prop := c = Caps.zero ∨ (c.ver = 2 ∧ c.root = 0) ∨ (c.ver = 3 ∧ 0 ≤ c.root ∧ c.root ≤ 2147483647)
def Caps.ch (c : Th Caps) : AV := .cons (.int .i64 fun _ => (c .o).ver) (.cons (.int .u64 fun _ => (c .o).perm) (.cons (.int .u64 fun _ => (c .o).inh) (.cons (.bool fun _ => (c .o).eff) (.cons (.int .i64 fun _ => (c .o).root) .nil))))
def Caps.av (c : Th Caps) : AV := .agg (Caps.ch c)
theorem Caps.zero_iff (c : Caps) : (decide (c.ver = 0) && (decide (c.perm = 0) && (decide (c.inh = 0) && ((c.eff == false) && (decide (c.root = 0) && true))))) = true ↔ c = Caps.zero := by
  obtain ⟨a, b, d, e, f⟩ := c
  unfold Caps.zero
  simp
theorem caps9_c (c : Th Caps) {d : Nat} {K : ARes → BL → Prop} (hr : ∀ b : Th Bool, (b .o = true ↔ CapsOk (c .o)) → K (.ret (.bool b)) .nil) : CallAt PT r9_MayCaps [Caps.av c] d .nil K := by
  refine CallAt.res ?_
  refine r9_MayCaps.of rfl rfl ?_
  cbv
  refine br_dec (fun h1 => ?_) (fun h1 => ?_)
  · have h1 : (c .o).ver = 0 := h1
    cbv
    refine ⟨_, .ret (.refl _), hr _ ((Caps.zero_iff _).trans ⟨.inl, fun q => ?_⟩)⟩
    rcases q with q | q | q
    · exact q
    · omega
    · omega
  have h1 : ¬ (c .o).ver = 0 := h1
  have hz : c .o ≠ Caps.zero := fun q => h1 (by rw [q]; rfl)
  cbv
  refine br_dec (fun h2 => ?_) (fun h2 => ?_)
  · have h2 : (c .o).ver = 2 := h2
    cbv
    exact ⟨_, .ret (.refl _), hr _ ⟨fun q => .inr (.inl ⟨h2, of_decide_eq_true q⟩), fun q => decide_eq_true (by rcases q with q | q | q; exact absurd q hz; exact q.2; show (c .o).root = 0; omega)⟩⟩
  have h2 : ¬ (c .o).ver = 2 := h2
  cbv
  refine br_dec (fun h3 => ?_) (fun h3 => ?_)
  · have h3 : (c .o).ver = 3 := h3
    cbv
    have hc : CapsOk (c .o) ↔ 0 ≤ (c .o).root ∧ (c .o).root ≤ 2147483647 := ⟨fun q => by rcases q with q | q | q; exact absurd q hz; omega; exact q.2, fun q => .inr (.inr ⟨h3, q⟩)⟩
    rw [hc] at hr
    (repeat' (first | (refine br_dec (fun h => ?_) (fun h => ?_) <;> cbv) | (refine br_rev (br_dec (fun h => ?_) (fun h => ?_)) <;> cbv) | (refine br_ndec (fun h => ?_) (fun h => ?_) <;> cbv) | (refine br_rev (br_ndec (fun h => ?_) (fun h => ?_)) <;> cbv)))
    all_goals (first | exact ⟨_, .ret (.tt rfl), hr (fun _ => true) (by (try dsimp only at *); (try simp only [decide_eq_true_eq, true_iff, false_iff, Bool.false_eq_true, and_self]); omega)⟩ | exact ⟨_, .ret (.ff rfl), hr (fun _ => false) (by (try dsimp only at *); (try simp only [decide_eq_true_eq, true_iff, false_iff, Bool.false_eq_true, and_self]); omega)⟩ | exact ⟨_, .ret (.refl _), hr _ (by (try dsimp only at *); (try simp only [decide_eq_true_eq, true_iff, false_iff, Bool.false_eq_true, and_self]); omega)⟩)
  have h3 : ¬ (c .o).ver = 3 := h3
  cbv
  exact ⟨_, .ret (.ff rfl), hr (fun _ => false) ⟨fun q => (by cases q), fun q => (by rcases q with q | q | q <;> first | exact absurd q hz | omega)⟩⟩
end Go.Proofs.Ytgjlkcdnlndlnaa
/- The document's mode that gives nobody more, walked; and that it is the program's. -/
namespace Go.Proofs.Ytgjlkcdnlndlnaa
open Go Go.Proofs.Ytgjlkcdnlndlnaa.Sx F
set_option linter.unusedVariables false
set_option linter.unusedSimpArgs false
def less9G (mask : Int) : List Ace → Int → Int → Int × Int
  | [], g, o => (g, o)
  | a :: r, g, o =>
    if a.tag = 2 then less9G mask r (band g a.perm) (band (band o a.perm) mask)
    else if a.tag = 4 then less9G mask r g (band (band o a.perm) mask)
    else less9G mask r g o
def less9N (p g o : Int) : Int := IntKind.i64.wrap (IntKind.i64.wrap (IntKind.i64.wrap (p * 64) + IntKind.i64.wrap (g * 8)) + o)
def less9O (l : List Ace) (mask : Int) : Int := less9N (permR l 1) (less9G mask l (band (permR l 3) mask) (permR l 6)).1 (less9G mask l (band (permR l 3) mask) (permR l 6)).2
def Less9 (m : Meta) : Int := if m.acl.length = 0 then band m.mode 511 else less9O m.acl (mask9 m.acl)
theorem Less9_c (m : Th Meta) (hm : short (m .o).acl) {d : Nat} {K : ARes → BL → Prop} (hr : ∀ n : Th Int, n .o = Less9 (m .o) → K (.ret (.int .i64 n)) .nil) : CallAt PT r18_Less [Meta.av m] d .nil K := by
  refine r18_Less.of rfl rfl ?_
  cbv
  refine br_dec (fun h0 => ?_) (fun h0 => ?_)
  · have h0 : (m .o).acl.length = 0 := zi_inj.1 h0
    cbv
    exact hr _ (by unfold Less9; rw [if_pos h0]; rfl)
  have h0 : ¬ (m .o).acl.length = 0 := fun q => h0 (zi_inj.2 q)
  cbv
  refine perm9_c (fun _ => (m .o).acl) (fun _ => 5) hm fun n hn => ?_
  cbv
  refine br_dec (fun h5 => ?_) (fun h5 => ?_)
  · skip
    have hmk : mask9 (m .o).acl = (7 : Int) := (by unfold mask9; rw [if_pos (show permR (m .o).acl 5 < 0 by rw [← hn]; exact h5)])
    cbv
    refine perm9_c (fun _ => (m .o).acl) (fun _ => 3) hm fun g hg => ?_
    cbv
    refine perm9_c (fun _ => (m .o).acl) (fun _ => 6) hm fun o ho => ?_
    cbv
    refine loop_rule (X := Nat × Int × Int) 1000 [1, 3] [1] (fun x => .cons 4 (.int .i64 fun _ => x.2.1) (.cons 5 (.int .i64 fun _ => x.2.2) (.cons 6 (.int .i64 fun _ => zi x.1) .nil))) (fun _ => .nil)
      (fun x => x.1 ≤ (m .o).acl.length ∧ less9G ((7 : Int)) (m .o).acl (band (g .o) ((7 : Int))) (o .o) = less9G ((7 : Int)) ((m .o).acl.drop x.1) x.2.1 x.2.2) (fun x => (m .o).acl.length - x.1) (0, band (g .o) ((7 : Int)), o .o) ?_ ⟨Nat.zero_le _, rfl⟩ ?_
    · cbv
      (repeat' (first | exact True.intro | exact Same.refl _ | exact SameB.refl _ | exact ⟨rfl⟩ | exact Same.int rfl | exact Same.str rfl | exact Same.bool rfl | (refine Same.int ?_; simp only [List.length_append, List.length_cons, List.length_nil, zi]; omega) | (refine SameB.row' rfl fun i hi => ?_; first | rfl | exact absurd hi (Nat.not_lt_zero _)) | refine And.intro ?_ ?_ | refine SameB.cells ?_ | exact SameC.nil | refine SameC.cons ?_ ?_ | exact Same.nsl rfl | exact Same.tt rfl | exact Same.ff rfl))
    · rintro ⟨k, gg, oo⟩ ⟨hk, hgo⟩
      dsimp only at hk hgo
      have succ := zi_succ (k := k) (by unfold short at hm; omega)
      cbv
      ((try refine br_rev ?_); (first | refine br_dec (fun h2 => ?_) (fun h2 => ?_) | refine br_ndec (fun h2 => ?_) (fun h2 => ?_) | refine br_nbool (fun h2 => ?_) (fun h2 => ?_) | refine br_bool (fun h2 => ?_) (fun h2 => ?_)); all_goals (try dsimp only at h2); all_goals (try with_reducible replace h2 := zi_lt.1 h2); all_goals (try with_reducible replace h2 := not_zlt h2)) <;> cbv
      · rw [drop_cons _ Ace.z _ h2, less9G] at hgo
        have hi : (0 : Int) ≤ zi k ∧ zi k < zi (m .o).acl.length := ⟨zi_nonneg _, zi_lt.2 h2⟩
        refine safe hi ?_
        ((try refine br_rev ?_); (first | refine br_dec (fun h3 => ?_) (fun h3 => ?_) | refine br_ndec (fun h3 => ?_) (fun h3 => ?_) | refine br_nbool (fun h3 => ?_) (fun h3 => ?_) | refine br_bool (fun h3 => ?_) (fun h3 => ?_)); all_goals (try dsimp only at h3); all_goals (try with_reducible replace h3 := zi_lt.1 h3); all_goals (try with_reducible replace h3 := not_zlt h3))
        · replace h3 : ((m .o).acl.getD k Ace.z).tag = 2 := by simpa only [zi_toNat] using h3
          rw [if_pos h3] at hgo
          cbv
          refine safe hi ?_
          refine safe hi ?_
          refine safe hi ?_
          ((try refine br_rev ?_); (first | refine br_dec (fun h4 => ?_) (fun h4 => ?_) | refine br_ndec (fun h4 => ?_) (fun h4 => ?_) | refine br_nbool (fun h4 => ?_) (fun h4 => ?_) | refine br_bool (fun h4 => ?_) (fun h4 => ?_)); all_goals (try dsimp only at h4); all_goals (try with_reducible replace h4 := zi_lt.1 h4); all_goals (try with_reducible replace h4 := not_zlt h4))
          · replace h4 : ((m .o).acl.getD k Ace.z).tag = 4 := by simpa only [zi_toNat] using h4
            omega
          cbv
          refine ⟨(k + 1, band gg ((m .o).acl.getD k Ace.z).perm, band (band oo ((m .o).acl.getD k Ace.z).perm) ((7 : Int))), ⟨h2, hgo⟩, by show _ - (k + 1) < _ - k; omega, ?_⟩
          cbv
          (repeat' (first | exact True.intro | exact Same.refl _ | exact SameB.refl _ | exact ⟨rfl⟩ | exact Same.int rfl | exact Same.str rfl | exact Same.bool rfl | (refine Same.int ?_; simp only [List.length_append, List.length_cons, List.length_nil, zi]; omega) | (refine SameB.row' rfl fun i hi => ?_; first | rfl | exact absurd hi (Nat.not_lt_zero _)) | refine And.intro ?_ ?_ | refine SameB.cells ?_ | exact SameC.nil | refine SameC.cons ?_ ?_ | exact Same.nsl rfl | exact Same.tt rfl | exact Same.ff rfl))
          all_goals first | exact Same.int succ | exact Same.int (by simp only [zi_toNat, band])
        · replace h3 : ¬ ((m .o).acl.getD k Ace.z).tag = 2 := by simpa only [zi_toNat] using h3
          rw [if_neg h3] at hgo
          cbv
          refine safe hi ?_
          ((try refine br_rev ?_); (first | refine br_dec (fun h4 => ?_) (fun h4 => ?_) | refine br_ndec (fun h4 => ?_) (fun h4 => ?_) | refine br_nbool (fun h4 => ?_) (fun h4 => ?_) | refine br_bool (fun h4 => ?_) (fun h4 => ?_)); all_goals (try dsimp only at h4); all_goals (try with_reducible replace h4 := zi_lt.1 h4); all_goals (try with_reducible replace h4 := not_zlt h4))
          · replace h4 : ((m .o).acl.getD k Ace.z).tag = 4 := by simpa only [zi_toNat] using h4
            rw [if_pos h4] at hgo
            cbv
            refine safe hi ?_
            refine ⟨(k + 1, gg, band (band oo ((m .o).acl.getD k Ace.z).perm) ((7 : Int))), ⟨h2, hgo⟩, by show _ - (k + 1) < _ - k; omega, ?_⟩
            cbv
            (repeat' (first | exact True.intro | exact Same.refl _ | exact SameB.refl _ | exact ⟨rfl⟩ | exact Same.int rfl | exact Same.str rfl | exact Same.bool rfl | (refine Same.int ?_; simp only [List.length_append, List.length_cons, List.length_nil, zi]; omega) | (refine SameB.row' rfl fun i hi => ?_; first | rfl | exact absurd hi (Nat.not_lt_zero _)) | refine And.intro ?_ ?_ | refine SameB.cells ?_ | exact SameC.nil | refine SameC.cons ?_ ?_ | exact Same.nsl rfl | exact Same.tt rfl | exact Same.ff rfl))
            all_goals first | exact Same.int succ | exact Same.int (by simp only [zi_toNat, band])
          · replace h4 : ¬ ((m .o).acl.getD k Ace.z).tag = 4 := by simpa only [zi_toNat] using h4
            rw [if_neg h4] at hgo
            cbv
            refine ⟨(k + 1, gg, oo), ⟨h2, hgo⟩, by show _ - (k + 1) < _ - k; omega, ?_⟩
            cbv
            (repeat' (first | exact True.intro | exact Same.refl _ | exact SameB.refl _ | exact ⟨rfl⟩ | exact Same.int rfl | exact Same.str rfl | exact Same.bool rfl | (refine Same.int ?_; simp only [List.length_append, List.length_cons, List.length_nil, zi]; omega) | (refine SameB.row' rfl fun i hi => ?_; first | rfl | exact absurd hi (Nat.not_lt_zero _)) | refine And.intro ?_ ?_ | refine SameB.cells ?_ | exact SameC.nil | refine SameC.cons ?_ ?_ | exact Same.nsl rfl | exact Same.tt rfl | exact Same.ff rfl))
            all_goals exact Same.int succ
      · rw [List.drop_eq_nil_of_le (by omega), less9G] at hgo
        refine perm9_c (fun _ => (m .o).acl) (fun _ => 1) hm fun p hp => ?_
        cbv
        exact hr _ (by unfold Less9; rw [if_neg h0, hmk]; unfold less9O; rw [show permR (m .o).acl 3 = g .o from hg.symm, show permR (m .o).acl 6 = o .o from ho.symm, show permR (m .o).acl 1 = p .o from hp.symm, hgo]; rfl)
  · skip
    have hmk : mask9 (m .o).acl = n .o := (by unfold mask9; rw [if_neg (show ¬ permR (m .o).acl 5 < 0 by rw [← hn]; exact h5)]; exact hn.symm)
    cbv
    refine perm9_c (fun _ => (m .o).acl) (fun _ => 3) hm fun g hg => ?_
    cbv
    refine perm9_c (fun _ => (m .o).acl) (fun _ => 6) hm fun o ho => ?_
    cbv
    refine loop_rule (X := Nat × Int × Int) 1000 [1, 3] [1] (fun x => .cons 4 (.int .i64 fun _ => x.2.1) (.cons 5 (.int .i64 fun _ => x.2.2) (.cons 6 (.int .i64 fun _ => zi x.1) .nil))) (fun _ => .nil)
      (fun x => x.1 ≤ (m .o).acl.length ∧ less9G (n .o) (m .o).acl (band (g .o) (n .o)) (o .o) = less9G (n .o) ((m .o).acl.drop x.1) x.2.1 x.2.2) (fun x => (m .o).acl.length - x.1) (0, band (g .o) (n .o), o .o) ?_ ⟨Nat.zero_le _, rfl⟩ ?_
    · cbv
      (repeat' (first | exact True.intro | exact Same.refl _ | exact SameB.refl _ | exact ⟨rfl⟩ | exact Same.int rfl | exact Same.str rfl | exact Same.bool rfl | (refine Same.int ?_; simp only [List.length_append, List.length_cons, List.length_nil, zi]; omega) | (refine SameB.row' rfl fun i hi => ?_; first | rfl | exact absurd hi (Nat.not_lt_zero _)) | refine And.intro ?_ ?_ | refine SameB.cells ?_ | exact SameC.nil | refine SameC.cons ?_ ?_ | exact Same.nsl rfl | exact Same.tt rfl | exact Same.ff rfl))
    · rintro ⟨k, gg, oo⟩ ⟨hk, hgo⟩
      dsimp only at hk hgo
      have succ := zi_succ (k := k) (by unfold short at hm; omega)
      cbv
      ((try refine br_rev ?_); (first | refine br_dec (fun h2 => ?_) (fun h2 => ?_) | refine br_ndec (fun h2 => ?_) (fun h2 => ?_) | refine br_nbool (fun h2 => ?_) (fun h2 => ?_) | refine br_bool (fun h2 => ?_) (fun h2 => ?_)); all_goals (try dsimp only at h2); all_goals (try with_reducible replace h2 := zi_lt.1 h2); all_goals (try with_reducible replace h2 := not_zlt h2)) <;> cbv
      · rw [drop_cons _ Ace.z _ h2, less9G] at hgo
        have hi : (0 : Int) ≤ zi k ∧ zi k < zi (m .o).acl.length := ⟨zi_nonneg _, zi_lt.2 h2⟩
        refine safe hi ?_
        ((try refine br_rev ?_); (first | refine br_dec (fun h3 => ?_) (fun h3 => ?_) | refine br_ndec (fun h3 => ?_) (fun h3 => ?_) | refine br_nbool (fun h3 => ?_) (fun h3 => ?_) | refine br_bool (fun h3 => ?_) (fun h3 => ?_)); all_goals (try dsimp only at h3); all_goals (try with_reducible replace h3 := zi_lt.1 h3); all_goals (try with_reducible replace h3 := not_zlt h3))
        · replace h3 : ((m .o).acl.getD k Ace.z).tag = 2 := by simpa only [zi_toNat] using h3
          rw [if_pos h3] at hgo
          cbv
          refine safe hi ?_
          refine safe hi ?_
          refine safe hi ?_
          ((try refine br_rev ?_); (first | refine br_dec (fun h4 => ?_) (fun h4 => ?_) | refine br_ndec (fun h4 => ?_) (fun h4 => ?_) | refine br_nbool (fun h4 => ?_) (fun h4 => ?_) | refine br_bool (fun h4 => ?_) (fun h4 => ?_)); all_goals (try dsimp only at h4); all_goals (try with_reducible replace h4 := zi_lt.1 h4); all_goals (try with_reducible replace h4 := not_zlt h4))
          · replace h4 : ((m .o).acl.getD k Ace.z).tag = 4 := by simpa only [zi_toNat] using h4
            omega
          cbv
          refine ⟨(k + 1, band gg ((m .o).acl.getD k Ace.z).perm, band (band oo ((m .o).acl.getD k Ace.z).perm) (n .o)), ⟨h2, hgo⟩, by show _ - (k + 1) < _ - k; omega, ?_⟩
          cbv
          (repeat' (first | exact True.intro | exact Same.refl _ | exact SameB.refl _ | exact ⟨rfl⟩ | exact Same.int rfl | exact Same.str rfl | exact Same.bool rfl | (refine Same.int ?_; simp only [List.length_append, List.length_cons, List.length_nil, zi]; omega) | (refine SameB.row' rfl fun i hi => ?_; first | rfl | exact absurd hi (Nat.not_lt_zero _)) | refine And.intro ?_ ?_ | refine SameB.cells ?_ | exact SameC.nil | refine SameC.cons ?_ ?_ | exact Same.nsl rfl | exact Same.tt rfl | exact Same.ff rfl))
          all_goals first | exact Same.int succ | exact Same.int (by simp only [zi_toNat, band])
        · replace h3 : ¬ ((m .o).acl.getD k Ace.z).tag = 2 := by simpa only [zi_toNat] using h3
          rw [if_neg h3] at hgo
          cbv
          refine safe hi ?_
          ((try refine br_rev ?_); (first | refine br_dec (fun h4 => ?_) (fun h4 => ?_) | refine br_ndec (fun h4 => ?_) (fun h4 => ?_) | refine br_nbool (fun h4 => ?_) (fun h4 => ?_) | refine br_bool (fun h4 => ?_) (fun h4 => ?_)); all_goals (try dsimp only at h4); all_goals (try with_reducible replace h4 := zi_lt.1 h4); all_goals (try with_reducible replace h4 := not_zlt h4))
          · replace h4 : ((m .o).acl.getD k Ace.z).tag = 4 := by simpa only [zi_toNat] using h4
            rw [if_pos h4] at hgo
            cbv
            refine safe hi ?_
            refine ⟨(k + 1, gg, band (band oo ((m .o).acl.getD k Ace.z).perm) (n .o)), ⟨h2, hgo⟩, by show _ - (k + 1) < _ - k; omega, ?_⟩
            cbv
            (repeat' (first | exact True.intro | exact Same.refl _ | exact SameB.refl _ | exact ⟨rfl⟩ | exact Same.int rfl | exact Same.str rfl | exact Same.bool rfl | (refine Same.int ?_; simp only [List.length_append, List.length_cons, List.length_nil, zi]; omega) | (refine SameB.row' rfl fun i hi => ?_; first | rfl | exact absurd hi (Nat.not_lt_zero _)) | refine And.intro ?_ ?_ | refine SameB.cells ?_ | exact SameC.nil | refine SameC.cons ?_ ?_ | exact Same.nsl rfl | exact Same.tt rfl | exact Same.ff rfl))
            all_goals first | exact Same.int succ | exact Same.int (by simp only [zi_toNat, band])
          · replace h4 : ¬ ((m .o).acl.getD k Ace.z).tag = 4 := by simpa only [zi_toNat] using h4
            rw [if_neg h4] at hgo
            cbv
            refine ⟨(k + 1, gg, oo), ⟨h2, hgo⟩, by show _ - (k + 1) < _ - k; omega, ?_⟩
            cbv
            (repeat' (first | exact True.intro | exact Same.refl _ | exact SameB.refl _ | exact ⟨rfl⟩ | exact Same.int rfl | exact Same.str rfl | exact Same.bool rfl | (refine Same.int ?_; simp only [List.length_append, List.length_cons, List.length_nil, zi]; omega) | (refine SameB.row' rfl fun i hi => ?_; first | rfl | exact absurd hi (Nat.not_lt_zero _)) | refine And.intro ?_ ?_ | refine SameB.cells ?_ | exact SameC.nil | refine SameC.cons ?_ ?_ | exact Same.nsl rfl | exact Same.tt rfl | exact Same.ff rfl))
            all_goals exact Same.int succ
      · rw [List.drop_eq_nil_of_le (by omega), less9G] at hgo
        refine perm9_c (fun _ => (m .o).acl) (fun _ => 1) hm fun p hp => ?_
        cbv
        exact hr _ (by unfold Less9; rw [if_neg h0, hmk]; unfold less9O; rw [show permR (m .o).acl 3 = g .o from hg.symm, show permR (m .o).acl 6 = o .o from ho.symm, show permR (m .o).acl 1 = p .o from hp.symm, hgo]; rfl)
end Go.Proofs.Ytgjlkcdnlndlnaa
/- The law RightMade, walked: the program's rights are the document's, of what is made by numbers. -/
namespace Go.Proofs.Ytgjlkcdnlndlnaa
open Go Go.Proofs.Ytgjlkcdnlndlnaa.Sx F
set_option linter.unusedVariables false
set_option linter.unusedSimpArgs false
theorem mask9_eq {l : List Ace} (h : Good l) : maskS l = some (mask9 l) := by
  unfold maskS mask9 permR
  rcases ixP_find (fun a : Ace => decide (a.tag = 5)) Ace.z l with ⟨h1, h2⟩ | ⟨k, h1, h2, h3⟩
  · rw [if_neg (by omega)]
    have : permS l 5 = none := by unfold permS; rw [h2]; rfl
    rw [this]
    rfl
  · have := zi_nonneg k
    rw [if_pos (by omega)]
    obtain ⟨p, hp, q⟩ := perm_some h (t := 5) ⟨_, List.mem_of_find?_eq_some h3, by simpa using List.find?_some h3⟩
    rw [hp]
    simp only [Option.getD_some]
    rw [if_neg (by omega)]
theorem less9G_eq {mask : Int} (hm : 0 ≤ mask ∧ mask < 8) : ∀ (l : List Ace) (g o : Int), (∀ a ∈ l, 0 ≤ a.perm ∧ a.perm < 8) → (0 ≤ g ∧ g < 8) → band g mask = g → (0 ≤ o ∧ o < 8) → less9G mask l g o = lessG mask l g o
  | [], _, _, _, _, _, _ => rfl
  | a :: r, g, o, hl, hg, hgm, ho => by
    have ha := hl a (by simp)
    have hr := fun x hx => hl x (List.mem_cons_of_mem a hx)
    have e1 : band g (band a.perm mask) = band g a.perm := fin888 (p := fun g p k => band g k = g → band g (band p k) = band g p) (by decide +kernel) hg ha hm hgm
    have e2 : band o (band a.perm mask) = band (band o a.perm) mask := fin888 (p := fun o p k => band o (band p k) = band (band o p) k) (by decide +kernel) ho ha hm
    have e3 : band (band g a.perm) mask = band g a.perm := fin888 (p := fun g p k => band g k = g → band (band g p) k = band g p) (by decide +kernel) hg ha hm hgm
    unfold less9G lessG
    rw [e1, e2]
    split
    · exact less9G_eq hm r _ _ hr (band_8 hg ha) e3 (band_8 (band_8 ho ha) hm)
    · split
      · exact less9G_eq hm r _ _ hr hg hgm (band_8 (band_8 ho ha) hm)
      · exact less9G_eq hm r _ _ hr hg hgm ho
theorem less9_law {m : Meta} (h : Good (ofS m)) : Less9 m = LessS m := by
  unfold Less9
  by_cases h0 : m.acl.length = 0
  · rw [if_pos h0, less_mode (List.eq_nil_of_length_eq_zero h0)]
  · rw [if_neg h0]
    have ho : ofS m = m.acl := by unfold ofS; rw [if_pos (by omega)]
    rw [ho] at h
    unfold LessS lessO less9O
    rw [ho]
    obtain ⟨p1, e1, q1⟩ := perm_some h h.own
    obtain ⟨p3, e3, q3⟩ := perm_some h h.grp
    obtain ⟨p6, e6, q6⟩ := perm_some h h.oth
    obtain ⟨k, ek, qk⟩ := mask_some h
    have hk : mask9 m.acl = k := by have := mask9_eq h; rw [ek] at this; injection this with this; exact this.symm
    unfold permR
    rw [ek, e1, e3, e6, hk]
    simp only [Option.getD_some, Option.bind_some, Option.map_some]
    have hkk : band (band p3 k) k = band p3 k := fin88 (p := fun p k => band (band p k) k = band p k) (by decide +kernel) q3 qk
    rw [less9G_eq qk m.acl _ _ h.perm (band_8 q3 qk) hkk q6]
    have hx := lessG_ok qk m.acl (band p3 k) p6 h.perm (band_8 q3 qk) q6
    rw [lessN_eq q1 hx.r1 hx.r2]
    have r1 := hx.r1
    have r2 := hx.r2
    generalize lessG k m.acl (band p3 k) p6 = x at r1 r2
    unfold less9N
    rw [IntKind.wrap_i64, IntKind.wrap_i64, IntKind.wrap_i64, IntKind.wrap_i64]
    omega
end Go.Proofs.Ytgjlkcdnlndlnaa
/- Which lists may be: r9.MayAcl walked, as far as the rights want it. -/
namespace Go.Proofs.Ytgjlkcdnlndlnaa
open Go Go.Proofs.Ytgjlkcdnlndlnaa.Sx F
set_option linter.unusedVariables false
set_option linter.unusedSimpArgs false
theorem named_c (a : Th Ace) {d : Nat} {K : ARes → BL → Prop} (hr : ∀ b : Th Bool, K (.ret (.bool b)) .nil) : CallAt PT r9_named [Ace.av a] d .nil K := by
  refine CallAt.res ?_
  refine r9_named.of rfl rfl ?_
  cbv
  ((try refine br_rev ?_); (first | refine br_dec (fun h1 => ?_) (fun h1 => ?_) | refine br_ndec (fun h1 => ?_) (fun h1 => ?_) | refine br_nbool (fun h1 => ?_) (fun h1 => ?_) | refine br_bool (fun h1 => ?_) (fun h1 => ?_)); all_goals (try dsimp only at h1); all_goals (try with_reducible replace h1 := zi_lt.1 h1); all_goals (try with_reducible replace h1 := not_zlt h1)) <;> cbv
  · exact ⟨_, .ret (.tt rfl), hr (fun _ => true)⟩
  · exact ⟨_, .ret (.refl _), hr _⟩
end Go.Proofs.Ytgjlkcdnlndlnaa
/- Which access lists may be: walked, exact. -/
namespace Go.Proofs.Ytgjlkcdnlndlnaa
open Go Go.Proofs.Ytgjlkcdnlndlnaa.Sx F
set_option linter.unusedVariables false
set_option linter.unusedSimpArgs false
def namedT (t : Int) : Prop := t = 2 ∨ t = 4
def AceOk (a : Ace) : Prop := 0 ≤ a.perm ∧ a.perm ≤ 7 ∧ 0 ≤ a.id ∧ a.id ≤ 2147483647 ∧ (a.id = 0 ∨ a.tag = 2 ∨ a.tag = 4)
def aft (a b : Ace) : Prop := a.tag < b.tag ∨ a.tag = b.tag ∧ a.id < b.id
def cntN (l : List Ace) (k t : Nat) : Nat := (l.take k).countP fun a => decide (a.tag = (t : Int))
structure AclTo (l : List Ace) (k : Nat) : Prop where
  tag : ∀ j, j < k → 1 ≤ (l.getD j Ace.z).tag ∧ (l.getD j Ace.z).tag ≤ 6
  ok : ∀ j, j < k → AceOk (l.getD j Ace.z)
  up : ∀ j, j + 1 < k → aft (l.getD j Ace.z) (l.getD (j + 1) Ace.z)
structure AclOk (l : List Ace) : Prop where
  to : AclTo l l.length
  own : cntN l l.length 1 = 1
  grp : cntN l l.length 3 = 1
  oth : cntN l l.length 6 = 1
  msk : cntN l l.length 5 = min 1 (cntN l l.length 2 + cntN l l.length 4)
  len : l.length ≤ 32
theorem take_succ_getD {α : Type} (l : List α) (z : α) (k : Nat) (h : k < l.length) : l.take (k + 1) = l.take k ++ [l.getD k z] := by
  rw [List.take_succ_eq_append_getElem h, List.getD_eq_getElem?_getD, List.getElem?_eq_getElem h]; rfl
theorem cntN_succ (l : List Ace) (k t : Nat) (h : k < l.length) : cntN l (k + 1) t = cntN l k t + if (l.getD k Ace.z).tag = (t : Int) then 1 else 0 := by
  unfold cntN
  rw [take_succ_getD l Ace.z k h, List.countP_append, List.countP_cons, List.countP_nil]
  by_cases q : (l.getD k Ace.z).tag = (t : Int) <;> simp only [q, decide_true, decide_false, if_true, if_false, Nat.zero_add, Bool.false_eq_true]
theorem cntN_le (l : List Ace) (k t : Nat) : cntN l k t ≤ k := Nat.le_trans List.countP_le_length (List.length_take_le _ _)
theorem cntN_zero (l : List Ace) (t : Nat) : cntN l 0 t = 0 := rfl
/-- Unnamed parts stand once at most. -/
theorem cntN_once {l : List Ace} {k t : Nat} (h : AclTo l k) (hk : k ≤ l.length) (ht : t ≠ 2 ∧ t ≠ 4) : cntN l k t ≤ 1 ∧ (cntN l k t = 1 → 0 < k → (l.getD (k - 1) Ace.z).tag ≥ (t : Int)) ∧ ∀ j, j < k → (l.getD j Ace.z).tag ≤ (l.getD (k - 1) Ace.z).tag := by
  induction k with
  | zero => exact ⟨by rw [cntN_zero]; omega, fun h => by rw [cntN_zero] at h; omega, fun j hj => by omega⟩
  | succ k ih =>
    obtain ⟨i1, i2, i3⟩ := ih ⟨fun j hj => h.tag j (by omega), fun j hj => h.ok j (by omega), fun j hj => h.up j (by omega)⟩ (by omega)
    have hok := h.ok k (by omega)
    rw [cntN_succ l k t (by omega)]
    have hup : 0 < k → aft (l.getD (k - 1) Ace.z) (l.getD k Ace.z) := fun q => by have := h.up (k - 1) (by omega); rwa [show k - 1 + 1 = k by omega] at this
    have hle : 0 < k → (l.getD (k - 1) Ace.z).tag ≤ (l.getD k Ace.z).tag := fun q => by rcases hup q with q | q <;> omega
    simp only [Nat.add_sub_cancel]
    refine ⟨?_, ?_, fun j hj => ?_⟩
    · split
      · rename_i q
        by_cases hk0 : 0 < k
        · have : cntN l k t ≠ 1 := fun e => by
            have h1 := i2 e hk0
            have h2 := hup hk0
            have h3 := h.ok (k - 1) (by omega)
            unfold AceOk at h3 hok
            rcases h2 with h2 | h2
            · omega
            · omega
          omega
        · have : cntN l k t ≤ k := cntN_le _ _ _
          omega
      · omega
    · intro e _
      split at e
      · omega
      · rename_i q
        by_cases hk0 : 0 < k
        · have := i2 (by omega) hk0
          have := hle hk0
          omega
        · have := cntN_le l k t
          omega
    · rcases Nat.lt_or_ge j k with q | q
      · have := i3 j q
        have := hle (by omega)
        omega
      · obtain rfl : j = k := by omega
        exact Int.le_refl _
theorem AclOk.good {l : List Ace} (h : AclOk l) : Good l := by
  have one : ∀ t : Nat, cntN l l.length t = 1 → ∃ a ∈ l, a.tag = (t : Int) := by
    intro t ht
    unfold cntN at ht
    rw [List.take_length] at ht
    obtain ⟨a, ha, hat⟩ := List.countP_pos_iff.1 (by rw [ht]; exact Nat.one_pos)
    exact ⟨a, ha, by simpa using hat⟩
  refine ⟨fun a ha => ?_, one 1 h.own, one 3 h.grp, one 6 h.oth⟩
  obtain ⟨j, hj, rfl⟩ := List.getElem_of_mem ha
  have := h.to.ok j hj
  unfold AceOk at this
  rw [List.getD_eq_getElem?_getD, List.getElem?_eq_getElem hj] at this
  exact ⟨this.1, by have := this.2.1; simp only [Option.getD_some] at this; omega⟩
def cntL (l : List Ace) (k : Nat) : List Int := (List.range 7).map fun t => (cntN l k t : Int)
theorem cntL_len (l : List Ace) (k : Nat) : (cntL l k).length = 7 := by simp [cntL]
theorem cntL_at (l : List Ace) (k : Nat) {t : Nat} (h : t < 7) : (cntL l k).getD t 0 = (cntN l k t : Int) := by
  unfold cntL
  rw [List.getD_eq_getElem?_getD, List.getElem?_map, List.getElem?_range h]; rfl
theorem cntL_succ (l : List Ace) (k : Nat) (hk : k < l.length) {t : Nat} (ht : t < 7) (he : (l.getD k Ace.z).tag = (t : Int)) : (cntL l k).set t ((cntN l k t : Int) + 1) = cntL l (k + 1) := by
  apply List.ext_getElem?
  intro i
  rw [List.getElem?_set]
  unfold cntL
  rw [List.getElem?_map, List.getElem?_map, List.length_map, List.length_range]
  by_cases hi : i < 7
  · rw [List.getElem?_range hi]
    simp only [Option.map_some]
    rw [cntN_succ l k i hk, he]
    by_cases q : t = i
    · subst q; simp [ht]
    · rw [if_neg q, if_neg (by omega)]; simp
  · rw [List.getElem?_eq_none (by simp; omega)]
    simp only [Option.map_none]
    rw [if_neg (by omega)]
theorem named9_c (a : Th Ace) {d : Nat} {K : ARes → BL → Prop} (hr : ∀ b : Th Bool, (b .o = true ↔ namedT (a .o).tag) → K (.ret (.bool b)) .nil) : CallAt PT r9_named [Ace.av a] d .nil K := by
  refine CallAt.res ?_
  refine r9_named.of rfl rfl ?_
  cbv
  (repeat' (first | (refine br_dec (fun h => ?_) (fun h => ?_) <;> cbv) | (refine br_rev (br_dec (fun h => ?_) (fun h => ?_)) <;> cbv) | (refine br_ndec (fun h => ?_) (fun h => ?_) <;> cbv) | (refine br_rev (br_ndec (fun h => ?_) (fun h => ?_)) <;> cbv)))
  all_goals (first | exact ⟨_, .ret (.tt rfl), hr (fun _ => true) (by (try dsimp only at *); (try simp only [decide_eq_true_eq, true_iff, false_iff, Bool.false_eq_true, namedT]); omega)⟩ | exact ⟨_, .ret (.ff rfl), hr (fun _ => false) (by (try dsimp only at *); (try simp only [decide_eq_true_eq, true_iff, false_iff, Bool.false_eq_true, namedT]); omega)⟩ | exact ⟨_, .ret (.refl _), hr _ (by (try dsimp only at *); (try simp only [decide_eq_true_eq, true_iff, false_iff, Bool.false_eq_true, namedT]); omega)⟩)
end Go.Proofs.Ytgjlkcdnlndlnaa
/- Which access lists may be: the loops walked, exact. -/
namespace Go.Proofs.Ytgjlkcdnlndlnaa
open Go Go.Proofs.Ytgjlkcdnlndlnaa.Sx F
set_option linter.unusedVariables false
set_option linter.unusedSimpArgs false
def lastA (l : List Ace) (k : Nat) : Ace := if k = 0 then Ace.z else l.getD (k - 1) Ace.z
theorem aclTo_succ {l : List Ace} {k : Nat} (h : AclTo l k) (h1 : 1 ≤ (l.getD k Ace.z).tag ∧ (l.getD k Ace.z).tag ≤ 6) (h2 : AceOk (l.getD k Ace.z)) (h3 : k = 0 ∨ aft (lastA l k) (l.getD k Ace.z)) : AclTo l (k + 1) := by
  refine ⟨fun j hj => ?_, fun j hj => ?_, fun j hj => ?_⟩
  · rcases Nat.lt_or_ge j k with q | q
    · exact h.tag j q
    · obtain rfl : j = k := by omega
      exact h1
  · rcases Nat.lt_or_ge j k with q | q
    · exact h.ok j q
    · obtain rfl : j = k := by omega
      exact h2
  · rcases Nat.lt_or_ge (j + 1) k with q | q
    · exact h.up j q
    · obtain rfl : k = j + 1 := by omega
      rcases h3 with h3 | h3
      · omega
      · unfold lastA at h3
        rw [if_neg (by omega)] at h3
        exact h3
theorem aclTo_aft {l : List Ace} {k : Nat} (h : AclTo l l.length) (hk : k < l.length) : aft (lastA l k) (l.getD k Ace.z) := by
  unfold lastA
  split
  · exact .inl (by have := (h.tag k hk).1; show (0 : Int) < _; omega)
  · have := h.up (k - 1) (by omega)
    rwa [show k - 1 + 1 = k by omega] at this
end Go.Proofs.Ytgjlkcdnlndlnaa
/- The document's lists that may be: walked, exact; modes of lists. -/
namespace Go.Proofs.Ytgjlkcdnlndlnaa
open Go Go.Proofs.Ytgjlkcdnlndlnaa.Sx F
set_option linter.unusedVariables false
set_option linter.unusedSimpArgs false
theorem aclOk_three {l : List Ace} (h : AclOk l) : 3 ≤ l.length := by
  have a := h.own
  have b := h.grp
  have c := h.oth
  unfold cntN at a b c
  rw [List.take_length] at a b c
  have hsum : ∀ r : List Ace, r.countP (fun a => decide (a.tag = ((1 : Nat) : Int))) + r.countP (fun a => decide (a.tag = ((3 : Nat) : Int))) + r.countP (fun a => decide (a.tag = ((6 : Nat) : Int))) ≤ r.length := by
    intro r
    induction r with
    | nil => simp
    | cons x r ih =>
      simp only [List.countP_cons, List.length_cons]
      by_cases q1 : x.tag = ((1 : Nat) : Int)
      · have q3 : ¬ x.tag = ((3 : Nat) : Int) := by omega
        have q6 : ¬ x.tag = ((6 : Nat) : Int) := by omega
        simp only [q1, q3, q6, decide_true, decide_false, if_true, if_false, Bool.false_eq_true]
        simp only [q1] at q3 q6
        simp only [q3, q6, decide_false, if_false, Bool.false_eq_true]
        omega
      · by_cases q3 : x.tag = ((3 : Nat) : Int)
        · have q6 : ¬ x.tag = ((6 : Nat) : Int) := by omega
          have e1 : decide (x.tag = ((1 : Nat) : Int)) = false := decide_eq_false q1
          have e3 : decide (x.tag = ((3 : Nat) : Int)) = true := decide_eq_true q3
          have e6 : decide (x.tag = ((6 : Nat) : Int)) = false := decide_eq_false q6
          rw [e1, e3, e6]
          simp only [if_true, Bool.false_eq_true, if_false]
          omega
        · have e1 : decide (x.tag = ((1 : Nat) : Int)) = false := decide_eq_false q1
          have e3 : decide (x.tag = ((3 : Nat) : Int)) = false := decide_eq_false q3
          rw [e1, e3]
          simp only [Bool.false_eq_true, if_false]
          split <;> omega
  have := hsum l
  omega
theorem msk_iff (n5 n2 n4 : Nat) (h5 : n5 ≤ 1) (h2 : n2 ≤ 32) (h4 : n4 ≤ 32) : (decide ((n5 : Int) = 1) == decide (0 < IntKind.i64.wrap ((n2 : Int) + (n4 : Int)))) = true ↔ n5 = min 1 (n2 + n4) := by
  have e : IntKind.i64.wrap ((n2 : Int) + (n4 : Int)) = (n2 : Int) + (n4 : Int) := by rw [IntKind.wrap_i64]; omega
  rw [e, beq_iff_eq, decide_eq_decide]
  omega
theorem may9_c (l : Th (List Ace)) (hl : short (l .o)) {d : Nat} {K : ARes → BL → Prop} (hr : ∀ b : Th Bool, (b .o = true ↔ AclOk (l .o)) → K (.ret (.bool b)) .nil) : CallAt PT r9_MayAcl [aces l] d .nil K := by
  refine CallAt.res ?_
  have hf : ¬ AclOk (l .o) → ∃ r', SameR (.ret .ff) r' ∧ K r' .nil := fun h => ⟨_, .ret (.ff rfl), hr (fun _ => false) ⟨fun q => (by cases q), fun q => (h q).elim⟩⟩
  refine r9_MayAcl.of rfl rfl ?_
  cbv
  refine br_rev (br_dec (fun h1 => ?_) (fun h1 => ?_))
  · cbv
    exact hf fun q => by have := aclOk_three q; have h1 : zi (l .o).length < 3 := h1; unfold zi at h1; omega
  cbv
  refine br_dec (fun h2 => ?_) (fun h2 => ?_)
  · cbv
    exact hf fun q => by have := q.len; have h2 : 32 < zi (l .o).length := h2; unfold zi at h2; omega
  have h2 : (l .o).length ≤ 32 := by have h2 : ¬ 32 < zi (l .o).length := h2; unfold zi at h2; omega
  (cbv; repeat (refine safe (by first | decide | (simp only [zi] at *; omega) | assumption | (dsimp only; omega) | (dsimp only at *; simp only [List.length_append, List.length_cons, List.length_nil, zi] at *; omega)) ?_; cbv))
  refine loop_at (X := Nat) 1000 [0, 3] [] (fun _ k => .cons 4 (.int .i64 fun _ => zi k) .nil) (fun _ k => .cons 14 (rowB 1 intCh 0 fun _ => cntL (l .o) k) .nil)
    (fun k => k ≤ (l .o).length ∧ AclTo (l .o) k) (fun k => (l .o).length - k) 0 ?_ ⟨Nat.zero_le _, ⟨fun j hj => by omega, fun j hj => by omega, fun j hj => by omega⟩⟩ ?_
  · cbv
    (repeat' (first | exact True.intro | exact Same.refl _ | exact SameB.refl _ | exact ⟨rfl⟩ | exact Same.int rfl | exact Same.str rfl | exact Same.bool rfl | (refine Same.int ?_; simp only [List.length_append, List.length_cons, List.length_nil, zi]; omega) | (refine SameB.row' rfl fun i hi => ?_; first | rfl | exact absurd hi (Nat.not_lt_zero _)) | refine And.intro ?_ ?_ | refine SameB.cells ?_ | exact SameC.nil | refine SameC.cons ?_ ?_ | exact Same.nsl rfl | exact Same.tt rfl | exact Same.ff rfl))
    all_goals
      refine SameB.row' rfl fun i hi => ?_
      have hi : i < 7 := hi
      match i, hi with
      | 0, _ | 1, _ | 2, _ | 3, _ | 4, _ | 5, _ | 6, _ => rfl
  · rintro k ⟨hk, hto⟩
    have hz := zi_toNat k
    have hcl := cntL_len (l .o) k
    cbv
    ((try refine br_rev ?_); (first | refine br_dec (fun h3 => ?_) (fun h3 => ?_) | refine br_ndec (fun h3 => ?_) (fun h3 => ?_) | refine br_nbool (fun h3 => ?_) (fun h3 => ?_) | refine br_bool (fun h3 => ?_) (fun h3 => ?_)); all_goals (try dsimp only at h3); all_goals (try with_reducible replace h3 := zi_lt.1 h3); all_goals (try with_reducible replace h3 := not_zlt h3))
    · have h3 : k < (l .o).length := h3
      cbv
      refine safe ⟨zi_nonneg _, zi_lt.2 h3⟩ ?_
      rw [hz]
      refine br_rev (br_dec (fun h4 => ?_) (fun h4 => ?_))
      · cbv
        exact hf fun q => by have := (q.to.tag k h3).1; have h4 : ((l .o).getD k Ace.z).tag < 1 := h4; omega
      have h4 : ¬ ((l .o).getD k Ace.z).tag < 1 := h4
      cbv
      refine br_rev (br_dec (fun h5 => ?_) (fun h5 => ?_))
      · cbv
        exact hf fun q => by have := (q.to.tag k h3).2; have h5 : 6 < ((l .o).getD k Ace.z).tag := h5; omega
      have h5 : ¬ 6 < ((l .o).getD k Ace.z).tag := h5
      cbv
      refine br_rev (br_dec (fun h6 => ?_) (fun h6 => ?_))
      · cbv
        exact hf fun q => by have := (q.to.ok k h3).1; have h6 : ((l .o).getD k Ace.z).perm < 0 := h6; omega
      have h6 : ¬ ((l .o).getD k Ace.z).perm < 0 := h6
      cbv
      refine br_rev (br_dec (fun h7 => ?_) (fun h7 => ?_))
      · cbv
        exact hf fun q => by have := (q.to.ok k h3).2.1; have h7 : 7 < ((l .o).getD k Ace.z).perm := h7; omega
      have h7 : ¬ 7 < ((l .o).getD k Ace.z).perm := h7
      cbv
      refine br_rev (br_dec (fun h8 => ?_) (fun h8 => ?_))
      · cbv
        exact hf fun q => by have := (q.to.ok k h3).2.2.1; have h8 : ((l .o).getD k Ace.z).id < 0 := h8; omega
      have h8 : ¬ ((l .o).getD k Ace.z).id < 0 := h8
      cbv
      refine br_rev (br_dec (fun h9 => ?_) (fun h9 => ?_))
      · cbv
        exact hf fun q => by have := (q.to.ok k h3).2.2.2.1; have h9 : 2147483647 < ((l .o).getD k Ace.z).id := h9; omega
      have h9 : ¬ 2147483647 < ((l .o).getD k Ace.z).id := h9
      cbv
      refine named9_c (fun _ => (l .o).getD k Ace.z) fun nb hnb => ?_
      have hnb : nb .o = true ↔ namedT ((l .o).getD k Ace.z).tag := hnb
      cbv
      have hT : 0 ≤ ((l .o).getD k Ace.z).tag ∧ ((l .o).getD k Ace.z).tag < zi (cntL (l .o) k).length := by
        rw [hcl]
        have : zi 7 = 7 := rfl
        omega
      have hTn : ((l .o).getD k Ace.z).tag.toNat < (cntL (l .o) k).length := by rw [hcl]; omega
      have htt : ((l .o).getD k Ace.z).tag = ((((l .o).getD k Ace.z).tag.toNat : Nat) : Int) := by omega
      have hcn := cntN_le (l .o) k ((l .o).getD k Ace.z).tag.toNat
      have hset : (cntL (l .o) k).set ((l .o).getD k Ace.z).tag.toNat (IntKind.i64.wrap ((cntL (l .o) k).getD ((l .o).getD k Ace.z).tag.toNat 0 + 1)) = cntL (l .o) (k + 1) := by
        rw [cntL_at _ _ (by omega), show IntKind.i64.wrap ((cntN (l .o) k ((l .o).getD k Ace.z).tag.toNat : Int) + 1) = (cntN (l .o) k ((l .o).getD k Ace.z).tag.toNat : Int) + 1 by rw [IntKind.wrap_i64]; omega]
        exact cntL_succ _ _ h3 (by omega) htt
      have succ := zi_succ (k := k) (by omega)
      have ok : (¬ ((l .o).getD k Ace.z).id = 0 → nb .o = true) → AceOk ((l .o).getD k Ace.z) := fun q => ⟨by omega, by omega, by omega, by omega, by
        by_cases e : ((l .o).getD k Ace.z).id = 0
        · exact .inl e
        · exact .inr (hnb.1 (q e))⟩
      refine br_nbool (fun ha => ?_) (fun ha => ?_)
      focus
        cbv
        refine br_ndec (fun hb => ?_) (fun hb => ?_)
        focus
          cbv
          exact hf fun q => by
            have hb : ¬ ((l .o).getD k Ace.z).id = 0 := hb
            have := (q.to.ok k h3).2.2.2.2
            have hn : ¬ namedT ((l .o).getD k Ace.z).tag := fun e => by rw [hnb.2 e] at ha; cases ha
            unfold namedT at hn
            omega
        replace ok := ok fun q => (q hb).elim
      rotate_left
      focus replace ok := ok fun _ => ha
      all_goals
        cbv
        refine br_dec (fun hc => ?_) (fun hc => ?_)
      all_goals cbv
      rotate_left
      focus
        replace hto := aclTo_succ hto ⟨by omega, by omega⟩ ok (.inl (by have hc : ¬ 0 < zi k := hc; unfold zi at hc; omega))
      rotate_left 2
      focus
        replace hto := aclTo_succ hto ⟨by omega, by omega⟩ ok (.inl (by have hc : ¬ 0 < zi k := hc; unfold zi at hc; omega))
      rotate_left
      all_goals try (
        have hc : 0 < k := by have hc : 0 < zi k := hc; unfold zi at hc; omega
        have hi1 : 0 ≤ IntKind.i64.wrap (zi k - 1) ∧ IntKind.i64.wrap (zi k - 1) < zi (l .o).length := by rw [IntKind.wrap_i64]; unfold zi; omega
        have hi2 : (IntKind.i64.wrap (zi k - 1)).toNat = k - 1 := by rw [IntKind.wrap_i64]; unfold zi; omega
        have hlast : lastA (l .o) k = (l .o).getD (k - 1) Ace.z := by unfold lastA; rw [if_neg (by omega)]
        refine safe hi1 ?_
        rw [hi2]
        refine br_rev (br_dec (fun hd => ?_) (fun hd => ?_))
        focus
          cbv
          exact hf fun q => by
            have := aclTo_aft q.to h3
            rw [hlast] at this
            have hd : ((l .o).getD k Ace.z).tag < ((l .o).getD (k - 1) Ace.z).tag := hd
            rcases this with q | q <;> omega
        have hd : ¬ ((l .o).getD k Ace.z).tag < ((l .o).getD (k - 1) Ace.z).tag := hd
        cbv
        refine safe hi1 ?_
        rw [hi2]
        refine br_dec (fun he => ?_) (fun he => ?_)
        focus
          have he : ((l .o).getD k Ace.z).tag = ((l .o).getD (k - 1) Ace.z).tag := he
          cbv
          refine named9_c (fun _ => (l .o).getD k Ace.z) fun nb2 hnb2 => ?_
          have hnb2 : nb2 .o = true ↔ namedT ((l .o).getD k Ace.z).tag := hnb2
          cbv
          refine br_rev (br_nbool (fun hg => ?_) (fun hg => ?_))
          focus
            cbv
            exact hf fun q => by
              have h10 := aclTo_aft q.to h3
              rw [hlast] at h10
              have h11 := (q.to.ok k h3).2.2.2.2
              have h12 := (q.to.ok (k - 1) (by omega)).2.2.2.2
              have hn : ¬ namedT ((l .o).getD k Ace.z).tag := fun e => by rw [hnb2.2 e] at hg; cases hg
              unfold namedT at hn
              rcases h10 with q | q <;> omega
          cbv
          refine safe hi1 ?_
          rw [hi2]
          refine br_dec (fun hj => ?_) (fun hj => ?_)
          focus
            cbv
            exact hf fun q => by
              have h10 := aclTo_aft q.to h3
              rw [hlast] at h10
              have hj : ((l .o).getD k Ace.z).id ≤ ((l .o).getD (k - 1) Ace.z).id := hj
              rcases h10 with q | q <;> omega
          have hj : ¬ ((l .o).getD k Ace.z).id ≤ ((l .o).getD (k - 1) Ace.z).id := hj
          replace hto := aclTo_succ hto ⟨by omega, by omega⟩ ok (.inr (by rw [hlast]; exact .inr ⟨by omega, by omega⟩))
          cbv
        rotate_left
        focus
          have he : ¬ ((l .o).getD k Ace.z).tag = ((l .o).getD (k - 1) Ace.z).tag := he
          replace hto := aclTo_succ hto ⟨by omega, by omega⟩ ok (.inr (by rw [hlast]; exact .inl (by omega)))
          cbv)
      all_goals
        refine safe hT ?_
        refine safe hTn ?_
        refine safe hT ?_
        refine put_rows intCh 0 (cntL (l .o) k) (IntKind.i64.wrap ((cntL (l .o) k).getD ((l .o).getD k Ace.z).tag.toNat 0 + 1)) rfl (fun i hi => rfl) hTn rfl ?_
        cbv
        rw [hset]
        refine ⟨k + 1, ⟨h3, hto⟩, by omega, ?_⟩
        cbv
        (repeat' (first | exact True.intro | exact Same.refl _ | exact SameB.refl _ | exact ⟨rfl⟩ | exact Same.int rfl | exact Same.str rfl | exact Same.bool rfl | (refine Same.int ?_; simp only [List.length_append, List.length_cons, List.length_nil, zi]; omega) | (refine SameB.row' rfl fun i hi => ?_; first | rfl | exact absurd hi (Nat.not_lt_zero _)) | refine And.intro ?_ ?_ | refine SameB.cells ?_ | exact SameC.nil | refine SameC.cons ?_ ?_ | exact Same.nsl rfl | exact Same.tt rfl | exact Same.ff rfl))
        all_goals first | exact Same.int succ | exact SameB.row' (by simp [cntL]) fun i hi => rfl
    · obtain rfl : k = (l .o).length := by have h3 : (l .o).length ≤ k := h3; omega
      have cn : ∀ t : Nat, t < 7 → 0 ≤ (t : Int) ∧ (t : Int) < zi (cntL (l .o) (l .o).length).length := fun t ht => by rw [hcl]; unfold zi; omega
      have cm : ∀ t : Nat, t < 7 → t < (cntL (l .o) (l .o).length).length := fun t ht => by rw [hcl]; exact ht
      have cv : ∀ t : Nat, t < 7 → (cntL (l .o) (l .o).length).getD t 0 = (cntN (l .o) (l .o).length t : Int) := fun t ht => cntL_at _ _ ht
      have hc2 := cntN_le (l .o) (l .o).length 2
      have hc4 := cntN_le (l .o) (l .o).length 4
      have hc5 := (cntN_once hto (Nat.le_refl _) (t := 5) (by decide)).1
      cbv
      refine safe (cn 1 (by decide)) ?_
      refine safe (cm 1 (by decide)) ?_
      refine br_dec (fun a1 => ?_) (fun a1 => ?_)
      rotate_left
      · cbv
        exact hf fun q => a1 (by show (cntL (l .o) (l .o).length).getD 1 0 = 1; rw [cv 1 (by decide), q.own]; rfl)
      cbv
      refine safe (cn 3 (by decide)) ?_
      refine safe (cm 3 (by decide)) ?_
      refine br_dec (fun a3 => ?_) (fun a3 => ?_)
      rotate_left
      · cbv
        exact hf fun q => a3 (by show (cntL (l .o) (l .o).length).getD 3 0 = 1; rw [cv 3 (by decide), q.grp]; rfl)
      cbv
      refine safe (cn 6 (by decide)) ?_
      refine safe (cm 6 (by decide)) ?_
      refine br_dec (fun a6 => ?_) (fun a6 => ?_)
      rotate_left
      · cbv
        exact hf fun q => a6 (by show (cntL (l .o) (l .o).length).getD 6 0 = 1; rw [cv 6 (by decide), q.oth]; rfl)
      have a1 : (cntL (l .o) (l .o).length).getD 1 0 = 1 := a1
      have a3 : (cntL (l .o) (l .o).length).getD 3 0 = 1 := a3
      have a6 : (cntL (l .o) (l .o).length).getD 6 0 = 1 := a6
      rw [cv 1 (by decide)] at a1
      rw [cv 3 (by decide)] at a3
      rw [cv 6 (by decide)] at a6
      have b1 : cntN (l .o) (l .o).length 1 = 1 := Int.ofNat.inj a1
      have b3 : cntN (l .o) (l .o).length 3 = 1 := Int.ofNat.inj a3
      have b6 : cntN (l .o) (l .o).length 6 = 1 := Int.ofNat.inj a6
      cbv
      refine safe (cn 5 (by decide)) ?_
      refine safe (cm 5 (by decide)) ?_
      refine safe (cn 2 (by decide)) ?_
      refine safe (cm 2 (by decide)) ?_
      refine safe (cn 4 (by decide)) ?_
      refine safe (cm 4 (by decide)) ?_
      refine ⟨_, .ret (.refl _), hr _ ?_⟩
      show (decide ((cntL (l .o) (l .o).length).getD 5 0 = 1) == decide (0 < IntKind.i64.wrap ((cntL (l .o) (l .o).length).getD 2 0 + (cntL (l .o) (l .o).length).getD 4 0))) = true ↔ _
      rw [cv 5 (by decide), cv 2 (by decide), cv 4 (by decide)]
      rw [msk_iff _ _ _ hc5 (by omega) (by omega)]
      exact ⟨fun q => ⟨hto, b1, b3, b6, q, h2⟩, fun q => q.msk⟩
/-- A list's mode. -/
def modeA (l : List Ace) : Int := permR l 1 * 64 + (if permR l 5 < 0 then permR l 3 else permR l 5) * 8 + permR l 6
theorem perm8 {l : List Ace} (h : Good l) (t : Int) : permR l t = -1 ∨ (0 ≤ permR l t ∧ permR l t < 8) := by
  unfold permR permS
  cases e : l.find? fun a => decide (a.tag = t) with
  | none => exact .inl rfl
  | some a => exact .inr (h.perm a (List.mem_of_find?_eq_some e))
theorem perm8' {l : List Ace} (h : Good l) {t : Int} (ht : ∃ a ∈ l, a.tag = t) : 0 ≤ permR l t ∧ permR l t < 8 := by
  obtain ⟨p, h1, h2⟩ := perm_some h ht
  unfold permR
  rw [h1]; exact h2
theorem mode9_c (l : Th (List Ace)) (hl : short (l .o)) (hg : Good (l .o)) {d : Nat} {K : ARes → BL → Prop} (hr : ∀ n : Th Int, n .o = modeA (l .o) → K (.ret (.int .i64 n)) .nil) : CallAt PT r9_ModeAcl [aces l] d .nil K := by
  refine CallAt.res ?_
  have k1 := perm8' hg hg.own
  have k3 := perm8' hg hg.grp
  have k6 := perm8' hg hg.oth
  have k5 := perm8 hg 5
  have wr : ∀ a b c : Int, 0 ≤ a ∧ a < 8 → 0 ≤ b ∧ b < 8 → 0 ≤ c ∧ c < 8 → IntKind.i64.wrap (IntKind.i64.wrap (IntKind.i64.wrap (a * 64) + IntKind.i64.wrap (b * 8)) + c) = a * 64 + b * 8 + c := fun a b c ha hb hc => by
    simp only [IntKind.wrap_i64]
    omega
  refine r9_ModeAcl.of rfl rfl ?_
  cbv
  refine perm9_c l (fun _ => 5) hl fun n5 e5 => ?_
  cbv
  refine br_dec (fun h => ?_) (fun h => ?_)
  · have h : n5 .o < 0 := h
    cbv
    refine perm9_c l (fun _ => 3) hl fun n3 e3 => ?_
    cbv
    refine perm9_c l (fun _ => 1) hl fun n1 e1 => ?_
    cbv
    refine perm9_c l (fun _ => 6) hl fun n6 e6 => ?_
    cbv
    refine ⟨_, .ret (.refl _), hr _ ?_⟩
    show IntKind.i64.wrap (IntKind.i64.wrap (IntKind.i64.wrap (n1 .o * 64) + IntKind.i64.wrap (n3 .o * 8)) + n6 .o) = _
    rw [e1, e3, e6, wr _ _ _ k1 k3 k6]
    unfold modeA
    rw [if_pos (e5 ▸ h)]
  · have h : ¬ n5 .o < 0 := h
    cbv
    refine perm9_c l (fun _ => 1) hl fun n1 e1 => ?_
    cbv
    refine perm9_c l (fun _ => 6) hl fun n6 e6 => ?_
    cbv
    refine ⟨_, .ret (.refl _), hr _ ?_⟩
    show IntKind.i64.wrap (IntKind.i64.wrap (IntKind.i64.wrap (n1 .o * 64) + IntKind.i64.wrap (n5 .o * 8)) + n6 .o) = _
    have h' : ¬ permR (l .o) 5 < 0 := fun q => h (by rw [e5]; exact q)
    rw [e1, e5, e6, wr _ _ _ k1 (by rcases k5 with q | q; omega; exact q) k6]
    unfold modeA
    rw [if_neg h']
end Go.Proofs.Ytgjlkcdnlndlnaa
/- A builder's methods: the kit's contracts at this program, laid by hand (its tool passes them by). -/
namespace Go.Proofs
open Go.Shelf
end Go.Proofs
/- A builder whose buffer lies above all that a call has made ahead of it: its methods, with all else kept. -/
namespace Go.Proofs.Ytgjlkcdnlndlnaa
open Go Go.RowKit Go.Shelf
set_option linter.unusedVariables false
set_option linter.unusedSimpArgs false
end Go.Proofs.Ytgjlkcdnlndlnaa
/- escape.Put, at the machine's level, by the kit's walk; then as a contract. -/
namespace Go.Proofs.Ytgjlkcdnlndlnaa
open Go Go.RowKit Go.Shelf
set_option linter.unusedVariables false
set_option linter.unusedSimpArgs false
def plainB (c : Int) : Bool := decide (33 ≤ c) && decide (c ≤ 126) && !decide (c = 37) && !decide (c = 61)
/-- A byte, escaped. -/
def hexB (n : UInt8) : UInt8 := ([48, 49, 50, 51, 52, 53, 54, 55, 56, 57, 65, 66, 67, 68, 69, 70] : List UInt8).getD n.toNat 0
def escB (c : UInt8) : List UInt8 := if plainB c.toNat then [c] else [37, hexB (c / 16), hexB (c % 16)]
def escS (s : List UInt8) : List UInt8 := s.flatMap escB
theorem escS_take (l : List UInt8) (k : Nat) (h : k < l.length) : escS (l.take (k + 1)) = escS (l.take k) ++ escB (l[k]) := by
  unfold escS
  rw [List.take_succ_eq_append_getElem h, List.flatMap_append]
  simp
theorem escB_len (c : UInt8) : (escB c).length ≤ 3 := by unfold escB; split <;> simp
theorem escS_len : ∀ l : List UInt8, (escS l).length ≤ 3 * l.length
  | [] => Nat.le_refl _
  | c :: r => by
    have h1 := escS_len r
    have h2 := escB_len c
    simp only [escS, List.flatMap_cons, List.length_append, List.length_cons] at h1 ⊢
    omega
open Go.Proofs.Ytgjlkcdnlndlnaa.Sx F
end Go.Proofs.Ytgjlkcdnlndlnaa
/- Functions of package strings at a separator of one byte: walked by the kit's laws. -/
namespace Go.Proofs.Ytgjlkcdnlndlnaa
open Go Go.RowKit
set_option linter.unusedVariables false
set_option linter.unusedSimpArgs false
open Go.Proofs.Ytgjlkcdnlndlnaa.Sx F
end Go.Proofs.Ytgjlkcdnlndlnaa
