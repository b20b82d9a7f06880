/- Texts laid together: Dat, Row, Opn, Rc, RcP, RcM, Right, Byt, RightA, Made, Mk, Mkx, Mkm, Nam, Ent, Modes, Acl, Less, Ref. -/
import Derived.ChangeSlices
import Derived.SizedLaws
import Derived.Deep.Slices
import Derived.Test.YtgjlkcdnlndlnaaProg
import Derived.KernelRfl
import Derived.Test.YtgjlkcdnlndlnaaD3
/- The program's data, as the executor tells of it. -/
namespace Go.Proofs.Ytgjlkcdnlndlnaa
open Go Go.Proofs.Ytgjlkcdnlndlnaa.Sx
/-- A part of an access list. -/
structure Ace where
  tag : Int
  id : Int
  perm : Int
def Ace.z : Ace := ⟨0, 0, 0⟩
def Ace.ch (a : Th Ace) : AV := .cons (.int .i64 fun _ => (a .o).tag) (.cons (.int .i64 fun _ => (a .o).id) (.cons (.int .i64 fun _ => (a .o).perm) .nil))
def Ace.av (a : Th Ace) : AV := .agg (Ace.ch a)
def aces (l : Th (List Ace)) : AV := .sl 3 (fun _ => (l .o).length) fun i => Ace.ch fun _ => (l .o).getD (i .o) Ace.z
def ints (l : Th (List Int)) : AV := .sl 1 (fun _ => (l .o).length) fun i => .cons (.int .i64 fun _ => (l .o).getD (i .o) 0) .nil
/-- A name with a value. -/
structure Xattr where
  name : List UInt8
  value : List UInt8
def Xattr.z : Xattr := ⟨[], []⟩
def Xattr.ch (a : Th Xattr) : AV := .cons (.str fun _ => (a .o).name) (.cons (.str fun _ => (a .o).value) .nil)
def Xattr.av (a : Th Xattr) : AV := .agg (Xattr.ch a)
def xattrs (l : Th (List Xattr)) : AV := .sl 2 (fun _ => (l .o).length) fun i => Xattr.ch fun _ => (l .o).getD (i .o) Xattr.z
structure Caps where
  ver : Int
  perm : Int
  inh : Int
  eff : Bool
  root : Int
structure Meta where
  mode : Int
  uid : Int
  gid : Int
  sec : Int
  nano : Int
  acl : List Ace
  dflt : List Ace
  xs : List Xattr
  caps : Caps
  flags : Int
def Meta.ch (m : Th Meta) : AV :=
  .cons (.int .i64 fun _ => (m .o).mode) (.cons (.int .i64 fun _ => (m .o).uid) (.cons (.int .i64 fun _ => (m .o).gid) (.cons (.int .i64 fun _ => (m .o).sec) (.cons (.int .i64 fun _ => (m .o).nano)
  (.cons (aces fun _ => (m .o).acl) (.cons (aces fun _ => (m .o).dflt) (.cons (xattrs fun _ => (m .o).xs)
  (.cons (.int .i64 fun _ => (m .o).caps.ver) (.cons (.int .u64 fun _ => (m .o).caps.perm) (.cons (.int .u64 fun _ => (m .o).caps.inh) (.cons (.bool fun _ => (m .o).caps.eff) (.cons (.int .i64 fun _ => (m .o).caps.root)
  (.cons (.int .i64 fun _ => (m .o).flags) .nil)))))))))))))
def Meta.av (m : Th Meta) : AV := .agg (Meta.ch m)
structure Cred where
  uid : Int
  gid : Int
  groups : List Int
  powers : Int
def Cred.ch (c : Th Cred) : AV := .cons (.int .i64 fun _ => (c .o).uid) (.cons (.int .i64 fun _ => (c .o).gid) (.cons (ints fun _ => (c .o).groups) (.cons (.int .i64 fun _ => (c .o).powers) .nil)))
def Cred.av (c : Th Cred) : AV := .agg (Cred.ch c)
/-- Short enough for a count that is a number of 64 bits. -/
def short {α : Type} (l : List α) : Prop := l.length ≤ 140737488355328
def ixP {α : Type} (p : α → Bool) : List α → Int
  | [] => -1
  | y :: r => if p y = true then 0 else if ixP p r < 0 then -1 else ixP p r + 1
theorem ixP_at {α : Type} (p : α → Bool) (z : α) : ∀ (l : List α) (k : Nat), k < l.length → (∀ j, j < k → p (l.getD j z) = false) → p (l.getD k z) = true → ixP p l = zi k
  | [], k, hk, _, _ => by simp at hk
  | y :: r, 0, _, _, h => by simp at h; simp [ixP, h, zi]
  | y :: r, k + 1, hk, hj, h => by
    have h0 := hj 0 (by omega)
    have := ixP_at p z r k (by simpa using hk) (fun j hj' => by simpa using hj (j + 1) (by omega)) (by simpa using h)
    simp at h0
    simp only [ixP, h0, this, Bool.false_eq_true, if_false]
    unfold zi
    rw [if_neg (by omega)]
    omega
theorem ixP_no {α : Type} (p : α → Bool) (z : α) : ∀ (l : List α), (∀ j, j < l.length → p (l.getD j z) = false) → ixP p l = -1
  | [], _ => rfl
  | y :: r, h => by
    have h0 := h 0 (by simp)
    have := ixP_no p z r fun j hj => by simpa using h (j + 1) (by simpa using hj)
    simp at h0
    simp [ixP, h0, this]
end Go.Proofs.Ytgjlkcdnlndlnaa
/- From a law's contract to what its row asks: it answers true, and nothing that was there has turned. -/
namespace Go.Proofs.Ytgjlkcdnlndlnaa
open Go Go.Proofs.Ytgjlkcdnlndlnaa.Sx Go.RowKit
/-- What a law is to come to. -/
def Yes (r : ARes) (_ : BL) : Prop := ∃ b : Th Bool, r = .ret (.bool b) ∧ b .o = true
theorem law_of {P : Th Program} {f : Nat} {asL0 : List AV} {w : World} {vs : List Value} (I : Nat → Nat → Prop) (hI : ∀ b o, I b o → b < w.heap.size) (hv : ListC ⟨fun _ => 0, fun _ => undef, I, w⟩ (chain asL0) vs) (hs : (chain asL0).still)
    (h : CallAt P f asL0 9999 .nil Yes) : Calls (P .o) f vs.toArray w fun e w' => e = .returned (.bool true) ∧ Below w.heap.size w w' := by
  have hdead : ∀ x, ¬ BL.nil.liveAt x := fun x hx => by simp [BL.liveAt, BL.get, Blk.live] at hx
  refine (h.run ⟨fun _ => 0, fun _ => undef, I, w⟩ vs ⟨fun d => trivial, fun d d' hd => (hdead d (solid_live hd)).elim, fun d hd => (hdead d (solid_live hd)).elim, hI, fun d x hx => hx.elim⟩ hv (fun x hx => ((AV.still_locs _).1 hs x hx).elim) (hdead _)).mono ?_
  rintro e w' ⟨E', r, B', rfl, ⟨b, rfl, hb⟩, hend, hinv, hpost, hl⟩
  cases e with
  | returned x =>
    have hx : x = .bool (b .o) := hend
    rw [hx, hb]
    exact ⟨rfl, hpost.os, hpost.tape, hpost.output, hpost.size, fun k hk => hpost.old k hk fun x hx => (hdead x (solid_live hx)).elim⟩
  | _ => exact hend.elim
/-- Numbers of any kind in a row. -/
def nums (k : IntKind) (l : Th (List Int)) : AV := .sl 1 (fun _ => (l .o).length) fun i => .cons (.int k fun _ => (l .o).getD (i .o) 0) .nil
theorem wf_u8 {n : Int} (h : (Lit.int .u8 n).wf = true) : 0 ≤ n ∧ n < 256 := by
  have : IntKind.u8.min ≤ n ∧ n ≤ IntKind.u8.max := by simpa [Lit.wf] using h
  have h1 : IntKind.u8.min = 0 := by decide
  have h2 : IntKind.u8.max = 255 := by decide
  omega
end Go.Proofs.Ytgjlkcdnlndlnaa
/- What a caller hands in, of any plain type, as the executor tells of it. -/
namespace Go.Proofs.Ytgjlkcdnlndlnaa
open Go Go.Proofs.Ytgjlkcdnlndlnaa.Sx Go.RowKit
set_option linter.unusedVariables false
set_option linter.unusedSimpArgs false
/-- The cells of a plain type. -/
inductive CS : Type | nil | b (r : CS) | i (k : IntKind) (r : CS) | s (r : CS) | sl (e r : CS)
def CS.len : CS → Nat | .nil => 0 | .b r => r.len + 1 | .i _ r => r.len + 1 | .s r => r.len + 1 | .sl _ r => r.len + 1
/-- A chain of such cells. -/
def Shape : CS → AV → Prop
  | .nil, c => c = .nil
  | .b r, c => ∃ x t, c = .cons (.bool x) t ∧ Shape r t
  | .i k r, c => ∃ n t, c = .cons (.int k n) t ∧ (Lit.int k (n .o)).wf = true ∧ Shape r t
  | .s r, c => ∃ x t, c = .cons (.str x) t ∧ (x .o).length ≤ 140737488355328 ∧ Shape r t
  | .sl e r, c => ∃ n g t, c = .cons (.sl e.len n g) t ∧ n .o ≤ 140737488355328 ∧ (∀ j, j < n .o → Shape e (g fun _ => j)) ∧ Shape r t
theorem shape_ok : ∀ (e : CS) (c : AV), Shape e c → c.okE ∧ c.len = e.len
  | .nil, c, h => by cases h; exact ⟨⟨trivial, rfl⟩, rfl⟩
  | .b r, c, h => by obtain ⟨x, t, rfl, h⟩ := h; obtain ⟨⟨h1, h2⟩, h3⟩ := shape_ok r t h; exact ⟨⟨⟨trivial, h1⟩, h2⟩, by simp [AV.len, CS.len, h3]⟩
  | .i k r, c, h => by obtain ⟨x, t, rfl, _, h⟩ := h; obtain ⟨⟨h1, h2⟩, h3⟩ := shape_ok r t h; exact ⟨⟨⟨trivial, h1⟩, h2⟩, by simp [AV.len, CS.len, h3]⟩
  | .s r, c, h => by obtain ⟨x, t, rfl, _, h⟩ := h; obtain ⟨⟨h1, h2⟩, h3⟩ := shape_ok r t h; exact ⟨⟨⟨trivial, h1⟩, h2⟩, by simp [AV.len, CS.len, h3]⟩
  | .sl e r, c, h => by obtain ⟨n, g, t, rfl, _, _, h⟩ := h; obtain ⟨⟨h1, h2⟩, h3⟩ := shape_ok r t h; exact ⟨⟨⟨trivial, h1⟩, h2⟩, by simp [AV.len, CS.len, h3]⟩
def tcsF (P : Program) (g : TypeId → CS → Option CS) : List Field → Nat → Nat → CS → Option CS
  | [], off, n, r => if off = n then some r else none
  | f :: fs, off, n, r => if f.offset = off then (match tcsF P g fs (off + P.cellsOf f.type) n r with | some q => g f.type q | none => none) else none
def tcs (P : Program) : Nat → TypeId → CS → Option CS
  | 0, _, _ => none
  | d + 1, t, r => match P.underlying t with
    | some .bool => some (.b r)
    | some (.int k) => some (.i k r)
    | some .string => some (.s r)
    | some (.slice e) => match tcs P d e .nil with
      | some c => if P.cellsOf e = c.len ∧ 0 < c.len ∧ 0 < P.bytesOf e then some (.sl c r) else none
      | none => none
    | some (.struct fs) => tcsF P (tcs P d) fs.toList 0 (P.cellsOf t) r
    | _ => none
section
variable {H : Type} {enc : TypeId × Value → H} {P : Program} {w : World}
/-- The caller's memory, shut for good. -/
abbrev envOf (w : World) : Env := ⟨fun _ => 0, fun _ => undef, fun b _ => b < w.heap.size, w⟩
def Small (P : Program) (t : TypeId) (d : DataW H) : Prop := ∀ n ∈ d.weights P t, n ≤ reachBytes
theorem mapM_cons' {α β : Type} (f : α → Option β) (a : α) (l : List α) (r : List β) (h : (a :: l).mapM f = some r) : ∃ x q, f a = some x ∧ l.mapM f = some q ∧ r = x :: q := by
  rw [List.mapM_cons] at h
  cases hx : f a with
  | none => rw [hx] at h; cases h
  | some x =>
    rw [hx] at h
    cases hq : l.mapM f with
    | none => rw [hq] at h; cases h
    | some q => rw [hq] at h; cases h; exact ⟨x, q, rfl, rfl, rfl⟩
/-- What opens a type: any cells that are read as data of it. -/
def Opens (enc : TypeId × Value → H) (P : Program) (w : World) (g : TypeId → CS → Option CS) : Prop :=
  ∀ t r c, g t r = some c → ∀ fuel cs (d : DataW H) ps, DataW.trod enc P w 0 (fun _ => true) true fuel t cs = some (d, ps) → Small P t d → ∀ (rest : AV) (rl : List Value), Shape r rest → ListC (envOf w) rest rl →
    ∃ ch, Shape c ch ∧ ListC (envOf w) ch (cs ++ rl)
theorem open_fields {g : TypeId → CS → Option CS} (hg : Opens enc P w g) {fuel : Nat} {cs : List Value} : ∀ (fs : List Field) (off : Nat) (r c : CS), tcsF P g fs off cs.length r = some c → ∀ xs : List (DataW H × List MemPlace),
    (fs.mapM fun f => DataW.trod enc P w 0 (fun _ => true) true fuel f.type ((cs.drop f.offset).take (P.cellsOf f.type))) = some xs → (∀ n ∈ DataW.weightsEach P (fs.map (·.type)) (xs.map (·.1)), n ≤ reachBytes) →
    ∀ (rest : AV) (rl : List Value), Shape r rest → ListC (envOf w) rest rl → ∃ ch, Shape c ch ∧ ListC (envOf w) ch (cs.drop off ++ rl)
  | [], off, r, c, hc, xs, hx, hw, rest, rl, hs, hl => by
    simp only [tcsF] at hc
    split at hc
    · rename_i he
      cases hc
      exact ⟨rest, hs, by rw [he, List.drop_length]; exact hl⟩
    · cases hc
  | f :: fs, off, r, c, hc, xs, hx, hw, rest, rl, hs, hl => by
    simp only [tcsF] at hc
    split at hc
    · rename_i he
      split at hc
      · rename_i q hq
        obtain ⟨x, xs', h1, h2, rfl⟩ := mapM_cons' _ _ _ _ hx
        simp only [List.map_cons, DataW.weightsEach, List.mem_append] at hw
        obtain ⟨ch, k1, k2⟩ := open_fields hg fs _ r q hq xs' h2 (fun n hn => hw n (.inr hn)) rest rl hs hl
        obtain ⟨d, ps⟩ := x
        obtain ⟨ch', m1, m2⟩ := hg f.type q c hc fuel _ d ps h1 (fun n hn => hw n (.inl hn)) ch _ k1 k2
        refine ⟨ch', m1, ?_⟩
        rw [he, ← List.append_assoc, ← List.drop_drop, List.take_append_drop] at m2
        exact m2
      · cases hc
    · cases hc
theorem weightsAll_mem {e : TypeId} : ∀ {l : List (DataW H)} {d : DataW H}, d ∈ l → ∀ n ∈ d.weights P e, n ∈ DataW.weightsAll P e l
  | x :: l, d, h, n, hn => by
    simp only [DataW.weightsAll, List.mem_append]
    rcases List.mem_cons.1 h with rfl | h
    · exact .inl hn
    · exact .inr (weightsAll_mem h n hn)
theorem opens (enc : TypeId × Value → H) (P : Program) (w : World) : ∀ n, Opens enc P w (tcs P n)
  | 0 => fun t r c h => by cases h
  | n + 1 => fun t r c h fuel cs d ps ht hsm rest rl hs hl => by
    have ih := opens enc P w n
    cases fuel with
    | zero => simp [DataW.trod] at ht
    | succ fuel =>
    simp only [tcs] at h
    split at h
    · rename_i hu
      cases h
      simp only [DataW.trod, hu] at ht
      split at ht <;> simp_all
      rename_i b
      exact ⟨.cons (.bool fun _ => b) rest, ⟨_, _, rfl, hs⟩, listC_cons.2 ⟨_, _, rfl, rfl, hl⟩⟩
    · rename_i k hu
      cases h
      simp only [DataW.trod, hu] at ht
      split at ht <;> simp_all
      rename_i k' m he
      obtain ⟨⟨_, hwf⟩, _⟩ := ht
      subst he
      exact ⟨.cons (.int _ fun _ => m) rest, ⟨_, _, rfl, hwf, hs⟩, listC_cons.2 ⟨_, _, rfl, rfl, hl⟩⟩
    · rename_i hu
      cases h
      simp only [DataW.trod, hu] at ht
      split at ht <;> simp_all
      rename_i s
      have hle : s.size ≤ reachBytes := by
        have := hsm s.size
        obtain ⟨_, hd, _⟩ := ht
        subst hd
        simpa [DataW.weights] using this
      refine ⟨.cons (.str fun _ => s.data.toList) rest, ⟨_, _, rfl, ?_, hs⟩, listC_cons.2 ⟨_, _, rfl, show Value.string s = .string ⟨s.data.toList.toArray⟩ from by rw [Array.toArray_toList], hl⟩⟩
      have : s.data.toList.length = s.size := Array.length_toList
      rw [this]
      unfold reachBytes at hle
      omega
    · rename_i e hu
      split at h
      · rename_i ce he
        split at h
        · rename_i hcond
          cases h
          obtain ⟨hce, hpos, hby⟩ := hcond
          rcases Deep.open_slice hu ht with ⟨rfl, hx⟩ | ⟨a, len, cap, m, n', D, Pl, rfl, _, hlc, hcm, hm, hx, hel⟩
          · exact ⟨.cons (.sl ce.len (fun _ => 0) fun _ => .nil) rest, ⟨_, _, _, rfl, Nat.zero_le _, fun j hj => absurd hj (Nat.not_lt_zero _), hs⟩, listC_cons.2 ⟨_, _, rfl, ⟨none, 0, rfl, Nat.le_refl _, fun j hj => absurd hj (Nat.not_lt_zero _)⟩, hl⟩⟩
          · simp only [if_true] at hm
            subst hm
            simp only [Prod.mk.injEq] at hx
            obtain ⟨rfl, rfl⟩ := hx
            have hw1 : ∀ q ∈ ((List.range len).map D ++ (List.range (m - len)).map fun j => D (len + j)), Small P e q := by
              intro q hq k hk
              refine hsm k ?_
              simp only [DataW.weights, hu, List.mem_cons, List.mem_append]
              rcases List.mem_append.1 hq with hq | hq
              · exact .inr (.inl (weightsAll_mem hq k hk))
              · exact .inr (.inr (weightsAll_mem hq k hk))
            have hlen : len ≤ 140737488355328 := by
              have := hsm ((len + (m - len)) * P.bytesOf e) (by simp [DataW.weights, hu])
              have h2 : len ≤ (len + (m - len)) * P.bytesOf e := Nat.le_trans (by omega) (Nat.le_mul_of_pos_right _ hby)
              unfold reachBytes at this
              omega
            have one : ∀ j, j < len → ∃ ch, Shape ce ch ∧ ∃ cs', w.cells? 0 (a.add (j * P.cellsOf e)) (P.cellsOf e) = some cs' ∧ ListC (envOf w) ch cs' := by
              intro j hj
              obtain ⟨cs', h1, h2⟩ := hel j (by omega)
              obtain ⟨ch, k1, k2⟩ := ih e .nil ce he n' cs' _ _ h2 (hw1 _ (List.mem_append_left _ (List.mem_map.2 ⟨j, by simpa using hj, rfl⟩))) .nil [] rfl (listC_nil.2 rfl)
              exact ⟨ch, k1, cs', h1, by simpa using k2⟩
            refine ⟨.cons (.sl ce.len (fun _ => len) fun j => if hj : j .o < len then (one (j .o) hj).choose else .nil) rest, ⟨_, _, _, rfl, hlen, fun j hj => ?_, hs⟩, listC_cons.2 ⟨_, _, rfl, ⟨some a, m, rfl, hlc, fun j hj => ?_⟩, hl⟩⟩
            · have hj : j < len := hj
              simp only [hj, dif_pos]
              exact (one j hj).choose_spec.1
            · have hj : j < len := hj
              simp only [hj, dif_pos]
              obtain ⟨k1, cs', h1, k2⟩ := (one j hj).choose_spec
              refine ⟨shape_ok _ _ k1, ?_⟩
              obtain ⟨_, hcl, hcc⟩ := World.cells?_some h1
              obtain ⟨b, o, sp⟩ := a
              have hsp : sp = none := by
                cases sp with
                | none => rfl
                | some q =>
                  exfalso
                  obtain ⟨cs0, e0, _⟩ := hel 0 (by omega)
                  obtain ⟨_, hl0, hc0⟩ := World.cells?_some e0
                  have hc0 := hc0 0 (by omega)
                  rw [List.getElem?_eq_getElem (show 0 < cs0.length by omega)] at hc0
                  have ha : ∀ x : Addr, x.add 0 = x := fun x => by unfold Addr.add; rw [if_pos rfl]
                  rw [Nat.zero_mul, ha, ha] at hc0
                  unfold World.cell? at hc0
                  split at hc0
                  · simp at hc0
                  · cases hc0
              subst hsp
              have hadd : ∀ o i, (⟨b, o, none⟩ : Addr).add i = ⟨b, o + i, none⟩ := fun o i => by unfold Addr.add; split <;> simp_all
              refine ⟨b, o, rfl, memC_of_list' _ cs' b (o + j * ce.len) k2 fun i v hv => ?_⟩
              have hi : i < cs'.length := by
                rcases Nat.lt_or_ge i cs'.length with h | h
                · exact h
                · rw [List.getElem?_eq_none h] at hv; cases hv
              have := hcc i (by omega)
              simp only [hadd] at this
              rw [hv, hce] at this
              refine ⟨this, ?_⟩
              show b < w.heap.size
              unfold World.cell? at this
              split at this
              · rename_i hh; exact (Array.getElem?_eq_some_iff.1 hh).1
              · cases this
        · cases h
      · cases h
    · rename_i fs hu
      simp only [DataW.trod, hu] at ht
      split at ht
      · rename_i hcl
        cases hm : (fs.toList.mapM fun f => DataW.trod enc P w 0 (fun _ => true) true fuel f.type ((cs.drop f.offset).take (P.cellsOf f.type))) with
        | none => rw [hm] at ht; cases ht
        | some xs =>
          rw [hm] at ht
          cases ht
          rw [← hcl] at h
          have := open_fields ih fs.toList 0 r c h xs hm (fun n hn => hsm n (by simp only [DataW.weights, hu]; exact hn)) rest rl hs hl
          simpa using this
      · cases ht
    · cases h
/-- An argument of a plain type, opened. -/
theorem open_plain {n : Nat} {t : TypeId} {c : CS} (hc : tcs P n t .nil = some c) {v : Value} {d : DataW H} {ps : List MemPlace} (h : DataW.Trod enc P w 0 (fun _ => true) true t v d ps) (hs : Small P t d) :
    ∃ ch, Shape c ch ∧ ListC (envOf w) ch v.cells.toList := by
  obtain ⟨fuel, h⟩ := h
  obtain ⟨ch, h1, h2⟩ := opens enc P w n t .nil c hc fuel _ d ps h hs .nil [] rfl (listC_nil.2 rfl)
  exact ⟨ch, h1, by simpa using h2⟩
end
/-- Rows of numbers. -/
theorem arg_nums {k : IntKind} {c : AV} (h : Shape (.sl (.i k .nil) .nil) c) : ∃ l : List Int, ((∀ n ∈ l, (Lit.int k n).wf = true) ∧ l.length ≤ 140737488355328) ∧ SameC c (.cons (nums k fun _ => l) .nil) := by
  obtain ⟨n, g, t, rfl, hn, hg, ht⟩ := h
  cases ht
  have one : ∀ m, m ≤ n .o → ∃ l : List Int, l.length = m ∧ (∀ x ∈ l, (Lit.int k x).wf = true) ∧ ∀ j, j < m → ∃ x : Th Int, (g fun _ => j) = .cons (.int k x) .nil ∧ x .o = l.getD j 0 := by
    intro m
    induction m with
    | zero => intro _; exact ⟨[], rfl, by simp, fun j hj => absurd hj (Nat.not_lt_zero _)⟩
    | succ m ih =>
      intro hm
      obtain ⟨l, h1, h2, h3⟩ := ih (by omega)
      obtain ⟨x, t, hx, hw, ht⟩ := hg m (by omega)
      cases ht
      refine ⟨l ++ [x .o], by simp [h1], fun y hy => ?_, fun j hj => ?_⟩
      · rcases List.mem_append.1 hy with hy | hy
        · exact h2 y hy
        · rw [List.mem_singleton.1 hy]; exact hw
      · by_cases hjm : j < m
        · obtain ⟨y, h4, h5⟩ := h3 j hjm
          refine ⟨y, h4, ?_⟩
          simp only [List.getD_eq_getElem?_getD, List.getElem?_append_left (show j < l.length by omega)] at h5 ⊢
          exact h5
        · obtain rfl : j = m := by omega
          refine ⟨x, hx, ?_⟩
          simp [List.getD_eq_getElem?_getD, List.getElem?_append_right (show l.length ≤ j by omega), h1]
  obtain ⟨l, h1, h2, h3⟩ := one _ (Nat.le_refl _)
  refine ⟨l, ⟨h2, by omega⟩, .cons (.sl h1.symm fun j hj => ?_) .nil⟩
  obtain ⟨x, h4, h5⟩ := h3 j hj
  rw [h4]
  show AV.cons (.int k x) .nil = .cons (.int k fun _ => l.getD j 0) .nil
  congr 2
  funext u
  cases u
  exact h5
theorem arg_one {E : Env} {x : AV} {v : Value} (h : ListC E (.cons x .nil) [v]) : Rp E x v := by
  obtain ⟨y, r, he, h1, _⟩ := listC_cons.1 h
  cases he
  exact h1
theorem small_of {H : Type} {P : Program} {ts : List TypeId} {ds : List (DataW H)} (h : (DataW.weightsEach P ts ds).all (· ≤ reachBytes) = true) {j : Nat} {t : TypeId} {d : DataW H} (ht : ts[j]? = some t) (hd : ds[j]? = some d) : Small P t d :=
  fun n hn => by simpa using List.all_eq_true.1 h n (DataW.weights_mem_each ht hd n hn)
end Go.Proofs.Ytgjlkcdnlndlnaa
/- The program's functions, resolved (printed by a tool). -/
namespace Go.Proofs.Ytgjlkcdnlndlnaa
open Go Go.Proofs.Ytgjlkcdnlndlnaa.Sx
namespace F
noncomputable def PT : Th Program := fun _ => Try.prog
abbrev l25_DegradeFull : Nat := 6
def l25_DegradeFull.rc : RC :=
  (.seq (.reg [R.q 8 (.mov R.ff)])
  (.seq (.reg [R.q 17 (.bslice 1 (.cons (R.z 0) .nil) 6 [(0, 1, (R.i 1)), (1, 1, (R.i 3)), (2, 1, (R.i 4)), (3, 1, (R.i 5)), (4, 1, (R.i 6)), (5, 1, (R.i 7))]),
    R.q 18 (.mov (R.t 0)),
    R.q 19 (.bin .rem .no (R.t 18) (R.u 6)),
    R.q 20 (.idx 1 (R.t 17) (R.t 19)),
    R.q 21 (.load1 (R.t 20)),
    R.q 9 (.mov (R.t 21))])
  (.seq (.reg [R.q 22 (.mov (R.t 9)),
    R.q 23 (.mov (R.t 1)),
    R.q 24 (.call 33 [(R.t 22), (.val (.str fun _ => [112])), (R.t 23)]),
    R.q 10 (.alloc (.cons (.str fun _ => []) (.cons (R.z 0) (.cons (R.z 0) (.cons (R.z 0) (.cons (R.z 0) (.cons (R.z 0) (.cons (R.z 0) (.cons .nsl (.cons .nsl (.cons .nsl (.cons (R.z 0) (.cons (.int .u64 fun _ => 0) (.cons (.int .u64 fun _ => 0) (.cons .ff (.cons (R.z 0) (.cons (R.z 0) (.cons (.str fun _ => []) (.cons (.str fun _ => []) (.cons (R.z 0) (.cons (R.z 0) .nil))))))))))))))))))))),
    R.e (.store 20 (R.t 10) (R.t 24))])
  (.seq (.reg [R.q 25 (.mov (R.t 2)),
    R.q 26 (.call 34 [(R.t 25)]),
    R.q 11 (.alloc (.cons (R.z 0) (.cons (R.z 0) (.cons .nsl (.cons (R.z 0) .nil))))),
    R.e (.store 4 (R.t 11) (R.t 26))])
  (.seq (.reg [R.q 27 (.mov (R.t 3)),
    R.q 28 (.conv .i64 (R.t 27)),
    R.q 29 (.bin .rem .no (R.t 28) (R.i 128)),
    R.q 30 (.bin .or .no (R.t 29) (R.i 4)),
    R.q 31 (.fld 3 (R.t 11)),
    R.e (.store 1 (R.t 31) (R.t 30))])
  (.seq (.reg [R.q 32 (.build (.cons (.str fun _ => []) (.cons (R.z 0) (.cons (R.z 0) .nil))) [(0, 1, (.val (.str fun _ => [112]))), (1, 1, (R.i 1)), (2, 1, (R.i 1))]),
    R.q 33 (.bslice 3 (.cons (.str fun _ => []) (.cons (R.z 0) (.cons (R.z 0) .nil))) 1 [(0, 3, (R.t 32))]),
    R.q 12 (.mov (R.t 33))])
  (.seq (.reg [R.q 34 (.build (.cons (.str fun _ => []) (.cons (R.z 0) (.cons (R.z 0) .nil))) [(0, 1, (.val (.str fun _ => [112]))), (1, 1, (R.i 1)), (2, 1, (R.i 1))]),
    R.q 35 (.bslice 3 (.cons (.str fun _ => []) (.cons (R.z 0) (.cons (R.z 0) .nil))) 1 [(0, 3, (R.t 34))]),
    R.q 13 (.mov (R.t 35))])
  (.seq (.reg [R.q 36 (.loadA 20 (R.t 10)),
    R.q 37 (.call 25 [(R.t 36)]),
    R.q 14 (.mov (R.t 37))])
  (.seq (.seq (.reg [R.q 15 (.mov (R.i 0))])
  (.block 0 (.loop
     (.seq (.seq (.reg [R.q 38 (.mov (R.t 15)),
       R.q 39 (.mov (R.t 14)),
       R.q 40 (.len (R.t 39)),
       R.q 41 (.bin .lss .no (R.t 38) (R.t 40))])
     (.cond (R.t 41)
       .skip
       (.exit 0)))
     (.seq (.block 1 (.seq (.reg [R.q 44 (.mov (R.t 12)),
        R.q 45 (.mov (R.t 14)),
        R.q 46 (.mov (R.t 15)),
        R.q 47 (.idx 1 (R.t 45) (R.t 46)),
        R.q 48 (.load1 (R.t 47)),
        R.q 49 (.build (.cons (.str fun _ => []) (.cons (R.z 0) (.cons (R.z 0) .nil))) [(0, 1, (.val (.str fun _ => [112]))), (1, 1, (R.t 48)), (2, 1, (R.i 1))]),
        R.q 50 (.bslice 3 (.cons (.str fun _ => []) (.cons (R.z 0) (.cons (R.z 0) .nil))) 1 [(0, 3, (R.t 49))]),
        R.q 51 (.append 3 32 (R.t 44) (R.t 50)),
        R.q 12 (.mov (R.t 51))])
      (.reg [R.q 52 (.mov (R.t 13)),
        R.q 53 (.mov (R.t 14)),
        R.q 54 (.mov (R.t 15)),
        R.q 55 (.idx 1 (R.t 53) (R.t 54)),
        R.q 56 (.load1 (R.t 55)),
        R.q 57 (.build (.cons (.str fun _ => []) (.cons (R.z 0) (.cons (R.z 0) .nil))) [(0, 1, (.val (.str fun _ => [112]))), (1, 1, (R.t 56)), (2, 1, (R.i 3))]),
        R.q 58 (.bslice 3 (.cons (.str fun _ => []) (.cons (R.z 0) (.cons (R.z 0) .nil))) 1 [(0, 3, (R.t 57))]),
        R.q 59 (.append 3 32 (R.t 52) (R.t 58)),
        R.q 13 (.mov (R.t 59))])))
     (.reg [R.q 42 (.mov (R.t 15)),
       R.q 43 (.bin .add .no (R.t 42) (R.i 1)),
       R.q 15 (.mov (R.t 43))]))))))
  (.seq (.reg [R.q 60 (.loadA 20 (R.t 10)),
    R.q 61 (.loadA 4 (R.t 11)),
    R.q 62 (.mov (R.t 13)),
    R.q 63 (.call 31 [(R.t 60), (R.t 61), (R.t 62)]),
    R.q 16 (.alloc (.cons (R.z 0) (.cons (R.z 0) (.cons (R.z 0) (.cons (R.z 0) (.cons (R.z 0) (.cons .nsl (.cons .nsl (.cons .nsl (.cons (R.z 0) (.cons (.int .u64 fun _ => 0) (.cons (.int .u64 fun _ => 0) (.cons .ff (.cons (R.z 0) (.cons (R.z 0) .nil))))))))))))))),
    R.e (.store 14 (R.t 16) (R.t 63))])
  (.seq (.mark (.regd [R.f (R.q 64 (.loadA 20 (R.t 10))),
    R.f (R.q 65 (.loadA 4 (R.t 11))),
    R.f (R.q 66 (.mov (R.t 12))),
    R.f (R.q 68 (.fld 2 (R.t 10))),
    R.f (R.q 69 (.loadA 14 (R.t 68))),
    R.s (R.q 67 (.call 31 [(R.t 64), (R.t 65), (R.t 66)])) [3, 4],
    R.s (R.q 70 (.call 30 [(R.t 67), (R.t 69)])) [],
    R.f (R.q 71 (.mov (R.t 70))),
    R.f (R.g 72 (.loadA 14 (R.t 16)) 71 true),
    R.f (R.g 73 (.mov (R.t 9)) 71 true),
    R.f (R.g 75 (.fld 0 (R.t 11)) 71 true),
    R.f (R.g 76 (.load1 (R.t 75)) 71 true),
    R.f (R.g 77 (.fld 1 (R.t 11)) 71 true),
    R.f (R.g 78 (.load1 (R.t 77)) 71 true),
    R.s (R.g 74 (.call 16 [(R.t 73)]) 71 true) [8, 10, 11, 12, 13],
    R.s (R.g 79 (.call 35 [(R.t 74), (R.t 76), (R.t 78)]) 71 true) [8],
    R.s (R.g 80 (.call 30 [(R.t 72), (R.t 79)]) 71 true) [],
    R.f (R.q 81 (.pick (R.t 71) (R.t 80) R.ff)),
    R.f (R.q 82 (.mov (R.t 81))),
    R.f (R.g 83 (.mov (R.t 1)) 82 true),
    R.f (R.g 84 (.mov (R.t 9)) 82 true),
    R.f (R.g 86 (.mov (R.t 9)) 82 true),
    R.s (R.g 85 (.call 37 [(R.t 83), (R.t 84)]) 82 true) [21],
    R.s (R.g 87 (.call 36 [(R.t 85), (R.t 86)]) 82 true) [],
    R.f (R.q 88 (.pick (R.t 82) (R.t 87) R.ff)),
    R.f (R.q 89 (.mov (R.t 88))),
    R.s (R.g 90 (.call 29 []) 89 true) [],
    R.f (R.q 91 (.pick (R.t 89) (R.t 90) R.ff)),
    R.s (R.q 8 (.mov (R.t 91))) []]))
  .ret)))))))))))
def l25_DegradeFull.rs : List RRes := [.tmp 8]
theorem l25_DegradeFull.of {xs : List AV} {d : Nat} {B : BL} {K : ARes → BL → Prop} (hn : xs.length = 4) (hB : onlyOuter B = true) (h : awp ⟨PT, 92, exitX l25_DegradeFull.rs K⟩ 10000 [.code l25_DegradeFull.rc] ⟨params 0 xs, B, .nil⟩) : CallAt PT l25_DegradeFull xs d B K :=
  call_of_awp 10000 Try.func6 rfl (by kernel_rfl) (by kernel_rfl) (by kernel_rfl) (by rw [hn]; decide) hB h
abbrev plan_Stage : Nat := 15
def plan_Stage.rc : RC :=
  (.seq (.reg [R.q 2 (.mov (R.i 0))])
  (.seq (.seq (.reg [R.q 3 (.mov (R.t 0))])
  (.block 0 (.seq (.reg [R.q 5 (.bin .eql .no (R.t 3) (R.i 6)),
     R.q 4 (.mov (R.t 5))])
   (.cond (R.t 4)
     (.seq (.reg [R.q 2 (.mov (R.i 448))])
     .ret)
     (.seq (.reg [R.q 7 (.bin .eql .no (R.t 3) (R.i 3)),
       R.q 6 (.mov (R.t 7))])
     (.cond (R.t 6)
       (.seq (.reg [R.q 2 (.mov (R.i 511))])
       .ret)
       .skip))))))
  (.seq (.reg [R.q 2 (.mov (R.i 0))])
  .ret)))
def plan_Stage.rs : List RRes := [.tmp 2]
theorem plan_Stage.of {xs : List AV} {d : Nat} {B : BL} {K : ARes → BL → Prop} (hn : xs.length = 1) (hB : onlyOuter B = true) (h : awp ⟨PT, 8, exitX plan_Stage.rs K⟩ 10000 [.code plan_Stage.rc] ⟨params 0 xs, B, .nil⟩) : CallAt PT plan_Stage xs d B K :=
  call_of_awp 10000 Try.func15 rfl (by kernel_rfl) (by kernel_rfl) (by kernel_rfl) (by rw [hn]; decide) hB h
abbrev r21_Stage : Nat := 16
def r21_Stage.rc : RC :=
  (.seq (.reg [R.q 2 (.mov (R.i 0))])
  (.seq (.seq (.reg [R.q 3 (.mov (R.t 0))])
  (.block 0 (.seq (.reg [R.q 5 (.bin .eql .no (R.t 3) (R.i 6)),
     R.q 4 (.mov (R.t 5))])
   (.cond (R.t 4)
     (.seq (.reg [R.q 2 (.mov (R.i 448))])
     .ret)
     (.seq (.reg [R.q 7 (.bin .eql .no (R.t 3) (R.i 3)),
       R.q 6 (.mov (R.t 7))])
     (.cond (R.t 6)
       (.seq (.reg [R.q 2 (.mov (R.i 511))])
       .ret)
       .skip))))))
  (.seq (.reg [R.q 2 (.mov (R.i 0))])
  .ret)))
def r21_Stage.rs : List RRes := [.tmp 2]
theorem r21_Stage.of {xs : List AV} {d : Nat} {B : BL} {K : ARes → BL → Prop} (hn : xs.length = 1) (hB : onlyOuter B = true) (h : awp ⟨PT, 8, exitX r21_Stage.rs K⟩ 10000 [.code r21_Stage.rc] ⟨params 0 xs, B, .nil⟩) : CallAt PT r21_Stage xs d B K :=
  call_of_awp 10000 Try.func16 rfl (by kernel_rfl) (by kernel_rfl) (by kernel_rfl) (by rw [hn]; decide) hB h
abbrev plan_Mode : Nat := 18
def plan_Mode.rc : RC :=
  (.seq (.reg [R.q 2 (.box (R.t 0)),
    R.q 4 (.mov (R.i 0)),
    R.q 5 (.mov R.ff)])
  (.seq (.seq (.reg [R.q 6 (.mov (R.t 1)),
    R.q 7 (.un .not (R.t 6))])
  (.cond (R.t 7)
    (.seq (.reg [R.q 8 (.fld 0 (R.t 2)),
      R.q 9 (.load1 (R.t 8)),
      R.q 10 (.bin .and .no (R.t 9) (R.i 448)),
      R.q 4 (.mov (R.t 10)),
      R.q 5 (.mov R.ff)])
    .ret)
    .skip))
  (.seq (.regd [R.f (R.q 11 (.fld 0 (R.t 2))),
    R.f (R.q 12 (.load1 (R.t 11))),
    R.f (R.q 13 (.bin .andNot .no (R.t 12) (R.i 511))),
    R.f (R.q 14 (.loadA 14 (R.t 2))),
    R.s (R.q 15 (.call 49 [(R.t 14)])) [0, 1, 2],
    R.f (R.q 16 (.bin .or .no (R.t 13) (R.t 15))),
    R.s (R.q 4 (.mov (R.t 16))) [],
    R.s (R.q 5 (.mov R.tt)) []])
  .ret)))
def plan_Mode.rs : List RRes := [.tmp 4, .tmp 5]
theorem plan_Mode.of {xs : List AV} {d : Nat} {B : BL} {K : ARes → BL → Prop} (hn : xs.length = 2) (hB : onlyOuter B = true) (h : awp ⟨PT, 17, exitX plan_Mode.rs K⟩ 10000 [.code plan_Mode.rc] ⟨params 0 xs, B, .nil⟩) : CallAt PT plan_Mode xs d B K :=
  call_of_awp 10000 Try.func18 rfl (by kernel_rfl) (by kernel_rfl) (by kernel_rfl) (by rw [hn]; decide) hB h
abbrev r9_SameXattrs : Nat := 20
def r9_SameXattrs.rc : RC :=
  (.seq (.reg [R.q 4 (.mov R.ff)])
  (.seq (.seq (.reg [R.q 6 (.mov (R.t 0)),
    R.q 7 (.len (R.t 6)),
    R.q 8 (.mov (R.t 1)),
    R.q 9 (.len (R.t 8)),
    R.q 10 (.bin .neq .no (R.t 7) (R.t 9))])
  (.cond (R.t 10)
    (.seq (.reg [R.q 4 (.mov R.ff)])
    .ret)
    .skip))
  (.seq (.seq (.reg [R.q 5 (.mov (R.i 0))])
  (.block 0 (.loop
     (.seq (.seq (.reg [R.q 11 (.mov (R.t 5)),
       R.q 12 (.mov (R.t 0)),
       R.q 13 (.len (R.t 12)),
       R.q 14 (.bin .lss .no (R.t 11) (R.t 13))])
     (.cond (R.t 14)
       .skip
       (.exit 0)))
     (.seq (.block 1 (.seq (.regd [R.f (R.q 17 (.mov (R.t 0))),
        R.f (R.q 18 (.mov (R.t 5))),
        R.f (R.q 19 (.idx 2 (R.t 17) (R.t 18))),
        R.f (R.q 20 (.loadA 2 (R.t 19))),
        R.f (R.q 21 (.mov (R.t 1))),
        R.f (R.q 22 (.mov (R.t 5))),
        R.f (R.q 23 (.idx 2 (R.t 21) (R.t 22))),
        R.f (R.q 24 (.loadA 2 (R.t 23))),
        R.f (R.q 25 (.bin .neq (.agg [.s, .s]) (R.t 20) (R.t 24)))])
      (.cond (R.t 25)
        (.seq (.reg [R.q 4 (.mov R.ff)])
        .ret)
        .skip)))
     (.reg [R.q 15 (.mov (R.t 5)),
       R.q 16 (.bin .add .no (R.t 15) (R.i 1)),
       R.q 5 (.mov (R.t 16))]))))))
  (.seq (.reg [R.q 4 (.mov R.tt)])
  .ret))))
def r9_SameXattrs.rs : List RRes := [.tmp 4]
theorem r9_SameXattrs.of {xs : List AV} {d : Nat} {B : BL} {K : ARes → BL → Prop} (hn : xs.length = 2) (hB : onlyOuter B = true) (h : awp ⟨PT, 26, exitX r9_SameXattrs.rs K⟩ 10000 [.code r9_SameXattrs.rc] ⟨params 0 xs, B, .nil⟩) : CallAt PT r9_SameXattrs xs d B K :=
  call_of_awp 10000 Try.func20 rfl (by kernel_rfl) (by kernel_rfl) (by kernel_rfl) (by rw [hn]; decide) hB h
abbrev plan_Fewer : Nat := 21
def plan_Fewer.rc : RC :=
  (.seq (.reg [R.q 2 (.mov (.val .nsl))])
  (.seq (.reg [R.q 3 (.mov (.val .nsl))])
  (.seq (.seq (.reg [R.q 6 (.mov (R.t 0)),
    R.q 7 (.len (R.t 6)),
    R.q 8 (.mov (R.i 0))])
  (.block 0 (.loop
     (.seq (.reg [R.q 9 (.bin .lss .no (R.t 8) (R.t 7))])
     (.seq (.cond (R.t 9)
       .skip
       (.exit 0))
     (.seq (.block 1 (.seq (.reg [R.q 10 (.idx 2 (R.t 6) (R.t 8)),
        R.q 11 (.loadA 2 (R.t 10)),
        R.q 5 (.alloc (.cons (.str fun _ => []) (.cons (.str fun _ => []) .nil))),
        R.e (.store 2 (R.t 5) (R.t 11))])
      (.seq (.reg [R.q 12 (.fld 0 (R.t 5)),
        R.q 13 (.load1 (R.t 12)),
        R.q 14 (.call 51 [(R.t 13), (.val (.str fun _ => [116, 114, 117, 115, 116, 101, 100, 46]))]),
        R.q 15 (.un .not (R.t 14)),
        R.q 16 (.mov (R.t 15)),
        R.g 17 (.fld 0 (R.t 5)) 16 true,
        R.g 18 (.load1 (R.t 17)) 16 true,
        R.g 19 (.call 51 [(R.t 18), (.val (.str fun _ => [115, 101, 99, 117, 114, 105, 116, 121, 46]))]) 16 true,
        R.g 20 (.un .not (R.t 19)) 16 true,
        R.q 21 (.pick (R.t 16) (R.t 20) R.ff)])
      (.cond (R.t 21)
        (.reg [R.q 22 (.mov (R.t 3)),
          R.q 23 (.loadA 2 (R.t 5)),
          R.q 24 (.bslice 2 (.cons (.str fun _ => []) (.cons (.str fun _ => []) .nil)) 1 [(0, 2, (R.t 23))]),
          R.q 25 (.append 2 32 (R.t 22) (R.t 24)),
          R.q 3 (.mov (R.t 25))])
        .skip))))
     (.reg [R.q 26 (.bin .add .no (R.t 8) (R.i 1)),
       R.q 8 (.mov (R.t 26))])))))))
  (.seq (.reg [R.q 27 (.mov (R.t 3)),
    R.q 2 (.mov (R.t 27))])
  .ret))))
def plan_Fewer.rs : List RRes := [.tmp 2]
theorem plan_Fewer.of {xs : List AV} {d : Nat} {B : BL} {K : ARes → BL → Prop} (hn : xs.length = 1) (hB : onlyOuter B = true) (h : awp ⟨PT, 28, exitX plan_Fewer.rs K⟩ 10000 [.code plan_Fewer.rc] ⟨params 0 xs, B, .nil⟩) : CallAt PT plan_Fewer xs d B K :=
  call_of_awp 10000 Try.func21 rfl (by kernel_rfl) (by kernel_rfl) (by kernel_rfl) (by rw [hn]; decide) hB h
abbrev r21_Attrs : Nat := 25
def r21_Attrs.rc : RC :=
  (.seq (.reg [R.q 1 (.box (R.t 0)),
    R.q 2 (.mov (.val .nsl))])
  (.seq (.mark (.seq (.reg [R.q 4 (.fld 1 (R.t 1)),
    R.q 5 (.load1 (R.t 4)),
    R.q 6 (.bin .eql .no (R.t 5) (R.i 2))])
  (.cond (R.t 6)
    (.seq (.reg [R.q 2 (.mov (.val .nsl))])
    .ret)
    .skip)))
  (.seq (.reg [R.q 3 (.mov (.val .nsl))])
  (.seq (.mark (.seq (.reg [R.q 7 (.fld 1 (R.t 1)),
    R.q 8 (.load1 (R.t 7)),
    R.q 9 (.bin .eql .no (R.t 8) (R.i 6))])
  (.cond (R.t 9)
    (.reg [R.q 10 (.mov (R.t 3)),
      R.q 11 (.bslice 1 (.cons (R.z 0) .nil) 1 [(0, 1, (R.i 10))]),
      R.q 12 (.append 1 8 (R.t 10) (R.t 11)),
      R.q 3 (.mov (R.t 12))])
    .skip)))
  (.seq (.reg [R.q 13 (.mov (R.t 3)),
    R.q 14 (.bslice 1 (.cons (R.z 0) .nil) 1 [(0, 1, (R.i 2))]),
    R.q 15 (.append 1 8 (R.t 13) (R.t 14)),
    R.q 3 (.mov (R.t 15))])
  (.seq (.mark (.seq (.reg [R.q 16 (.fld 1 (R.t 1)),
    R.q 17 (.load1 (R.t 16)),
    R.q 18 (.bin .neq .no (R.t 17) (R.i 3))])
  (.cond (R.t 18)
    (.reg [R.q 19 (.mov (R.t 3)),
      R.q 20 (.bslice 1 (.cons (R.z 0) .nil) 1 [(0, 1, (R.i 3))]),
      R.q 21 (.append 1 8 (R.t 19) (R.t 20)),
      R.q 3 (.mov (R.t 21))])
    .skip)))
  (.seq (.mark (.seq (.reg [R.q 22 (.fld 2 (R.t 1)),
    R.q 23 (.fld 5 (R.t 22)),
    R.q 24 (.load1 (R.t 23)),
    R.q 25 (.len (R.t 24)),
    R.q 26 (.bin .gtr .no (R.t 25) (R.i 0))])
  (.cond (R.t 26)
    (.reg [R.q 27 (.mov (R.t 3)),
      R.q 28 (.bslice 1 (.cons (R.z 0) .nil) 1 [(0, 1, (R.i 4))]),
      R.q 29 (.append 1 8 (R.t 27) (R.t 28)),
      R.q 3 (.mov (R.t 29))])
    .skip)))
  (.seq (.mark (.seq (.reg [R.q 30 (.fld 2 (R.t 1)),
    R.q 31 (.fld 6 (R.t 30)),
    R.q 32 (.load1 (R.t 31)),
    R.q 33 (.len (R.t 32)),
    R.q 34 (.bin .gtr .no (R.t 33) (R.i 0))])
  (.cond (R.t 34)
    (.reg [R.q 35 (.mov (R.t 3)),
      R.q 36 (.bslice 1 (.cons (R.z 0) .nil) 1 [(0, 1, (R.i 5))]),
      R.q 37 (.append 1 8 (R.t 35) (R.t 36)),
      R.q 3 (.mov (R.t 37))])
    .skip)))
  (.seq (.mark (.seq (.reg [R.q 38 (.fld 2 (R.t 1)),
    R.q 39 (.fld 7 (R.t 38)),
    R.q 40 (.load1 (R.t 39)),
    R.q 41 (.len (R.t 40)),
    R.q 42 (.bin .gtr .no (R.t 41) (R.i 0))])
  (.cond (R.t 42)
    (.reg [R.q 43 (.mov (R.t 3)),
      R.q 44 (.bslice 1 (.cons (R.z 0) .nil) 1 [(0, 1, (R.i 6))]),
      R.q 45 (.append 1 8 (R.t 43) (R.t 44)),
      R.q 3 (.mov (R.t 45))])
    .skip)))
  (.seq (.mark (.seq (.reg [R.q 46 (.fld 2 (R.t 1)),
    R.q 47 (.fld 8 (R.t 46)),
    R.q 48 (.fld 0 (R.t 47)),
    R.q 49 (.load1 (R.t 48)),
    R.q 50 (.bin .neq .no (R.t 49) (R.i 0))])
  (.cond (R.t 50)
    (.reg [R.q 51 (.mov (R.t 3)),
      R.q 52 (.bslice 1 (.cons (R.z 0) .nil) 1 [(0, 1, (R.i 7))]),
      R.q 53 (.append 1 8 (R.t 51) (R.t 52)),
      R.q 3 (.mov (R.t 53))])
    .skip)))
  (.seq (.reg [R.q 54 (.mov (R.t 3)),
    R.q 55 (.bslice 1 (.cons (R.z 0) .nil) 1 [(0, 1, (R.i 8))]),
    R.q 56 (.append 1 8 (R.t 54) (R.t 55)),
    R.q 3 (.mov (R.t 56))])
  (.seq (.mark (.seq (.reg [R.q 57 (.fld 2 (R.t 1)),
    R.q 58 (.fld 13 (R.t 57)),
    R.q 59 (.load1 (R.t 58)),
    R.q 60 (.bin .neq .no (R.t 59) (R.i 0))])
  (.cond (R.t 60)
    (.reg [R.q 61 (.mov (R.t 3)),
      R.q 62 (.bslice 1 (.cons (R.z 0) .nil) 1 [(0, 1, (R.i 9))]),
      R.q 63 (.append 1 8 (R.t 61) (R.t 62)),
      R.q 3 (.mov (R.t 63))])
    .skip)))
  (.seq (.reg [R.q 64 (.mov (R.t 3)),
    R.q 2 (.mov (R.t 64))])
  .ret)))))))))))))
def r21_Attrs.rs : List RRes := [.tmp 2]
theorem r21_Attrs.of {xs : List AV} {d : Nat} {B : BL} {K : ARes → BL → Prop} (hn : xs.length = 1) (hB : onlyOuter B = true) (h : awp ⟨PT, 65, exitX r21_Attrs.rs K⟩ 10000 [.code r21_Attrs.rc] ⟨params 0 xs, B, .nil⟩) : CallAt PT r21_Attrs xs d B K :=
  call_of_awp 10000 Try.func25 rfl (by kernel_rfl) (by kernel_rfl) (by kernel_rfl) (by rw [hn]; decide) hB h
abbrev l25_awake : Nat := 29
def l25_awake.rc : RC :=
  (.seq (.reg [R.q 0 (.mov R.ff)])
  (.seq (.reg [R.q 3 (.build (.cons (.str fun _ => []) (.cons (R.z 0) (.cons (R.z 0) .nil))) [(0, 1, (.val (.str fun _ => [97]))), (1, 1, (R.i 1)), (2, 1, (R.i 1))]),
    R.q 4 (.build (.cons (.str fun _ => []) (.cons (R.z 0) (.cons (R.z 0) .nil))) [(0, 1, (.val (.str fun _ => [97]))), (1, 1, (R.i 8)), (2, 1, (R.i 1))]),
    R.q 5 (.bslice 3 (.cons (.str fun _ => []) (.cons (R.z 0) (.cons (R.z 0) .nil))) 2 [(0, 3, (R.t 3)), (3, 3, (R.t 4))]),
    R.q 1 (.mov (R.t 5))])
  (.seq (.reg [R.q 6 (.build (.cons (R.z 0) (.cons (R.z 0) .nil)) [(0, 1, (R.i 7))]),
    R.q 7 (.build (.cons (R.z 0) (.cons (R.z 0) (.cons (R.z 0) (.cons (R.z 0) (.cons (R.z 0) (.cons .nsl (.cons .nsl (.cons .nsl (.cons (R.z 0) (.cons (.int .u64 fun _ => 0) (.cons (.int .u64 fun _ => 0) (.cons .ff (.cons (R.z 0) (.cons (R.z 0) .nil)))))))))))))) [(3, 2, (R.t 6))]),
    R.q 8 (.build (.cons (.str fun _ => []) (.cons (R.z 0) (.cons (R.z 0) (.cons (R.z 0) (.cons (R.z 0) (.cons (R.z 0) (.cons (R.z 0) (.cons .nsl (.cons .nsl (.cons .nsl (.cons (R.z 0) (.cons (.int .u64 fun _ => 0) (.cons (.int .u64 fun _ => 0) (.cons .ff (.cons (R.z 0) (.cons (R.z 0) (.cons (.str fun _ => []) (.cons (.str fun _ => []) (.cons (R.z 0) (.cons (R.z 0) .nil)))))))))))))))))))) [(0, 1, (.val (.str fun _ => [97]))), (1, 1, (R.i 1)), (2, 14, (R.t 7))]),
    R.q 2 (.alloc (.cons (.str fun _ => []) (.cons (R.z 0) (.cons (R.z 0) (.cons (R.z 0) (.cons (R.z 0) (.cons (R.z 0) (.cons (R.z 0) (.cons .nsl (.cons .nsl (.cons .nsl (.cons (R.z 0) (.cons (.int .u64 fun _ => 0) (.cons (.int .u64 fun _ => 0) (.cons .ff (.cons (R.z 0) (.cons (R.z 0) (.cons (.str fun _ => []) (.cons (.str fun _ => []) (.cons (R.z 0) (.cons (R.z 0) .nil))))))))))))))))))))),
    R.e (.store 20 (R.t 2) (R.t 8))])
  (.seq (.reg [R.q 9 (.call 27 [(.val .nsl), (.val (.str fun _ => [97])), (R.i 1)]),
    R.q 10 (.bin .eql .no (R.t 9) (R.i 0)),
    R.q 11 (.mov (R.t 10)),
    R.g 12 (.mov (R.t 1)) 11 true,
    R.g 13 (.call 27 [(R.t 12), (.val (.str fun _ => [97])), (R.i 8)]) 11 true,
    R.g 14 (.bin .eql .no (R.t 13) (R.i 1)) 11 true,
    R.q 15 (.pick (R.t 11) (R.t 14) R.ff),
    R.q 16 (.mov (R.t 15)),
    R.g 17 (.loadA 20 (R.t 2)) 16 true,
    R.g 18 (.build (.cons (R.z 0) (.cons (R.z 0) (.cons .nsl (.cons (R.z 0) .nil)))) []) 16 true,
    R.g 19 (.mov (R.t 1)) 16 true,
    R.g 20 (.call 31 [(R.t 17), (R.t 18), (R.t 19)]) 16 true,
    R.g 21 (.fieldA 3 2 (R.t 20)) 16 true,
    R.g 22 (.field1 0 (R.t 21)) 16 true,
    R.g 23 (.bin .eql .no (R.t 22) (R.i 7)) 16 true,
    R.q 24 (.pick (R.t 16) (R.t 23) R.ff),
    R.q 0 (.mov (R.t 24))])
  .ret))))
def l25_awake.rs : List RRes := [.tmp 0]
theorem l25_awake.of {xs : List AV} {d : Nat} {B : BL} {K : ARes → BL → Prop} (hn : xs.length = 0) (hB : onlyOuter B = true) (h : awp ⟨PT, 25, exitX l25_awake.rs K⟩ 10000 [.code l25_awake.rc] ⟨params 0 xs, B, .nil⟩) : CallAt PT l25_awake xs d B K :=
  call_of_awp 10000 Try.func29 rfl (by kernel_rfl) (by kernel_rfl) (by kernel_rfl) (by rw [hn]; decide) hB h
abbrev r9_SameMeta : Nat := 30
def r9_SameMeta.rc : RC :=
  (.seq (.reg [R.q 2 (.box (R.t 0)),
    R.q 3 (.box (R.t 1)),
    R.q 4 (.mov R.ff)])
  (.seq (.reg [R.q 5 (.fld 0 (R.t 2)),
    R.q 6 (.load1 (R.t 5)),
    R.q 7 (.fld 0 (R.t 3)),
    R.q 8 (.load1 (R.t 7)),
    R.q 9 (.bin .eql .no (R.t 6) (R.t 8)),
    R.q 10 (.mov (R.t 9)),
    R.g 11 (.fld 1 (R.t 2)) 10 true,
    R.g 12 (.load1 (R.t 11)) 10 true,
    R.g 13 (.fld 1 (R.t 3)) 10 true,
    R.g 14 (.load1 (R.t 13)) 10 true,
    R.g 15 (.bin .eql .no (R.t 12) (R.t 14)) 10 true,
    R.q 16 (.pick (R.t 10) (R.t 15) R.ff),
    R.q 17 (.mov (R.t 16)),
    R.g 18 (.fld 2 (R.t 2)) 17 true,
    R.g 19 (.load1 (R.t 18)) 17 true,
    R.g 20 (.fld 2 (R.t 3)) 17 true,
    R.g 21 (.load1 (R.t 20)) 17 true,
    R.g 22 (.bin .eql .no (R.t 19) (R.t 21)) 17 true,
    R.q 23 (.pick (R.t 17) (R.t 22) R.ff),
    R.q 24 (.mov (R.t 23)),
    R.g 25 (.fld 3 (R.t 2)) 24 true,
    R.g 26 (.loadA 2 (R.t 25)) 24 true,
    R.g 27 (.fld 3 (R.t 3)) 24 true,
    R.g 28 (.loadA 2 (R.t 27)) 24 true,
    R.g 29 (.bin .eql (.agg [.i .i64, .i .i64]) (R.t 26) (R.t 28)) 24 true,
    R.q 30 (.pick (R.t 24) (R.t 29) R.ff),
    R.q 31 (.mov (R.t 30)),
    R.g 32 (.fld 5 (R.t 2)) 31 true,
    R.g 33 (.load1 (R.t 32)) 31 true,
    R.g 34 (.fld 5 (R.t 3)) 31 true,
    R.g 35 (.load1 (R.t 34)) 31 true,
    R.g 36 (.call 57 [(R.t 33), (R.t 35)]) 31 true,
    R.q 37 (.pick (R.t 31) (R.t 36) R.ff),
    R.q 38 (.mov (R.t 37)),
    R.g 39 (.fld 6 (R.t 2)) 38 true,
    R.g 40 (.load1 (R.t 39)) 38 true,
    R.g 41 (.fld 6 (R.t 3)) 38 true,
    R.g 42 (.load1 (R.t 41)) 38 true,
    R.g 43 (.call 57 [(R.t 40), (R.t 42)]) 38 true,
    R.q 44 (.pick (R.t 38) (R.t 43) R.ff),
    R.q 45 (.mov (R.t 44)),
    R.g 46 (.fld 7 (R.t 2)) 45 true,
    R.g 47 (.load1 (R.t 46)) 45 true,
    R.g 48 (.fld 7 (R.t 3)) 45 true,
    R.g 49 (.load1 (R.t 48)) 45 true,
    R.g 50 (.call 20 [(R.t 47), (R.t 49)]) 45 true,
    R.q 51 (.pick (R.t 45) (R.t 50) R.ff),
    R.q 52 (.mov (R.t 51)),
    R.g 53 (.fld 8 (R.t 2)) 52 true,
    R.g 54 (.loadA 5 (R.t 53)) 52 true,
    R.g 55 (.fld 8 (R.t 3)) 52 true,
    R.g 56 (.loadA 5 (R.t 55)) 52 true,
    R.g 57 (.bin .eql (.agg [.i .i64, .i .u64, .i .u64, .b, .i .i64]) (R.t 54) (R.t 56)) 52 true,
    R.q 58 (.pick (R.t 52) (R.t 57) R.ff),
    R.q 59 (.mov (R.t 58)),
    R.g 60 (.fld 13 (R.t 2)) 59 true,
    R.g 61 (.load1 (R.t 60)) 59 true,
    R.g 62 (.fld 13 (R.t 3)) 59 true,
    R.g 63 (.load1 (R.t 62)) 59 true,
    R.g 64 (.bin .eql .no (R.t 61) (R.t 63)) 59 true,
    R.q 65 (.pick (R.t 59) (R.t 64) R.ff),
    R.q 4 (.mov (R.t 65))])
  .ret))
def r9_SameMeta.rs : List RRes := [.tmp 4]
theorem r9_SameMeta.of {xs : List AV} {d : Nat} {B : BL} {K : ARes → BL → Prop} (hn : xs.length = 2) (hB : onlyOuter B = true) (h : awp ⟨PT, 66, exitX r9_SameMeta.rs K⟩ 10000 [.code r9_SameMeta.rc] ⟨params 0 xs, B, .nil⟩) : CallAt PT r9_SameMeta xs d B K :=
  call_of_awp 10000 Try.func30 rfl (by kernel_rfl) (by kernel_rfl) (by kernel_rfl) (by rw [hn]; decide) hB h
abbrev degrade_Meta : Nat := 31
def degrade_Meta.rc : RC :=
  (.seq (.reg [R.q 3 (.box (R.t 0)),
    R.q 4 (.box (R.t 1)),
    R.q 6 (.alloc (.cons (R.z 0) (.cons (R.z 0) (.cons (R.z 0) (.cons (R.z 0) (.cons (R.z 0) (.cons .nsl (.cons .nsl (.cons .nsl (.cons (R.z 0) (.cons (.int .u64 fun _ => 0) (.cons (.int .u64 fun _ => 0) (.cons .ff (.cons (R.z 0) (.cons (R.z 0) .nil)))))))))))))))])
  (.seq (.reg [R.q 10 (.loadA 20 (R.t 3)),
    R.q 11 (.loadA 4 (R.t 4)),
    R.q 12 (.mov (R.t 2)),
    R.q 13 (.build (.cons (.str fun _ => []) (.cons (R.z 0) (.cons (R.z 0) (.cons (R.z 0) (.cons (R.z 0) (.cons (R.z 0) (.cons (R.z 0) (.cons .nsl (.cons .nsl (.cons .nsl (.cons (R.z 0) (.cons (.int .u64 fun _ => 0) (.cons (.int .u64 fun _ => 0) (.cons .ff (.cons (R.z 0) (.cons (R.z 0) (.cons (.str fun _ => []) (.cons (.str fun _ => []) (.cons (R.z 0) (.cons (R.z 0) (.cons (R.z 0) (.cons (R.z 0) (.cons .nsl (.cons (R.z 0) (.cons .nsl .nil))))))))))))))))))))))))) [(0, 20, (R.t 10)), (20, 4, (R.t 11)), (24, 1, (R.t 12))]),
    R.q 7 (.alloc (.cons (.str fun _ => []) (.cons (R.z 0) (.cons (R.z 0) (.cons (R.z 0) (.cons (R.z 0) (.cons (R.z 0) (.cons (R.z 0) (.cons .nsl (.cons .nsl (.cons .nsl (.cons (R.z 0) (.cons (.int .u64 fun _ => 0) (.cons (.int .u64 fun _ => 0) (.cons .ff (.cons (R.z 0) (.cons (R.z 0) (.cons (.str fun _ => []) (.cons (.str fun _ => []) (.cons (R.z 0) (.cons (R.z 0) (.cons (R.z 0) (.cons (R.z 0) (.cons .nsl (.cons (R.z 0) (.cons .nsl .nil)))))))))))))))))))))))))),
    R.e (.store 25 (R.t 7) (R.t 13))])
  (.seq (.reg [R.q 14 (.fld 2 (R.t 3)),
    R.q 15 (.loadA 14 (R.t 14)),
    R.q 8 (.alloc (.cons (R.z 0) (.cons (R.z 0) (.cons (R.z 0) (.cons (R.z 0) (.cons (R.z 0) (.cons .nsl (.cons .nsl (.cons .nsl (.cons (R.z 0) (.cons (.int .u64 fun _ => 0) (.cons (.int .u64 fun _ => 0) (.cons .ff (.cons (R.z 0) (.cons (R.z 0) .nil))))))))))))))),
    R.e (.store 14 (R.t 8) (R.t 15))])
  (.seq (.regd [R.f (R.q 16 (.loadA 25 (R.t 7))),
    R.f (R.q 18 (.fld 0 (R.t 4))),
    R.f (R.q 19 (.load1 (R.t 18))),
    R.f (R.q 20 (.fld 1 (R.t 4))),
    R.f (R.q 21 (.load1 (R.t 20))),
    R.f (R.q 9 (.alloc (.cons (R.z 0) (.cons (R.z 0) (.cons (R.z 0) (.cons (R.z 0) (.cons (R.z 0) (.cons .nsl (.cons .nsl (.cons .nsl (.cons (R.z 0) (.cons (.int .u64 fun _ => 0) (.cons (.int .u64 fun _ => 0) (.cons .ff (.cons (R.z 0) (.cons (R.z 0) .nil)))))))))))))))),
    R.s (R.q 17 (.call 58 [(R.t 16)])) [1, 2, 3, 4, 5],
    R.f (R.q 22 (.build (.cons (R.z 0) (.cons (R.z 0) (.cons (R.z 0) (.cons (R.z 0) (.cons (R.z 0) (.cons .nsl (.cons .nsl (.cons .nsl (.cons (R.z 0) (.cons (.int .u64 fun _ => 0) (.cons (.int .u64 fun _ => 0) (.cons .ff (.cons (R.z 0) (.cons (R.z 0) .nil)))))))))))))) [(0, 1, (R.t 17)), (1, 1, (R.t 19)), (2, 1, (R.t 21))])),
    R.s (R.e (.store 14 (R.t 9) (R.t 22))) []])
  (.seq (.mark (.seq (.reg [R.q 23 (.loadA 25 (R.t 7)),
    R.q 24 (.call 59 [(R.t 23), (R.i 2), (R.i 1)])])
  (.cond (R.t 24)
    (.regd [R.f (R.q 25 (.fld 1 (R.t 8))),
      R.f (R.q 26 (.load1 (R.t 25))),
      R.f (R.q 27 (.fld 2 (R.t 8))),
      R.f (R.q 28 (.load1 (R.t 27))),
      R.f (R.q 29 (.fld 1 (R.t 9))),
      R.s (R.e (.store 1 (R.t 29) (R.t 26))) [2, 3],
      R.f (R.q 30 (.fld 2 (R.t 9))),
      R.s (R.e (.store 1 (R.t 30) (R.t 28))) []])
    .skip)))
  (.seq (.mark (.seq (.reg [R.q 31 (.loadA 25 (R.t 7)),
    R.q 32 (.call 59 [(R.t 31), (R.i 4), (R.i 1)])])
  (.cond (R.t 32)
    (.reg [R.q 33 (.fld 5 (R.t 8)),
      R.q 34 (.load1 (R.t 33)),
      R.q 35 (.call 60 [(R.t 34)]),
      R.q 36 (.fld 5 (R.t 9)),
      R.e (.store 1 (R.t 36) (R.t 35))])
    .skip)))
  (.seq (.mark (.seq (.reg [R.q 37 (.loadA 25 (R.t 7)),
    R.q 38 (.call 59 [(R.t 37), (R.i 5), (R.i 1)])])
  (.cond (R.t 38)
    (.reg [R.q 39 (.fld 6 (R.t 8)),
      R.q 40 (.load1 (R.t 39)),
      R.q 41 (.call 60 [(R.t 40)]),
      R.q 42 (.fld 6 (R.t 9)),
      R.e (.store 1 (R.t 42) (R.t 41))])
    .skip)))
  (.seq (.mark (.block 0 (.seq (.reg [R.q 44 (.loadA 25 (R.t 7)),
     R.q 45 (.call 59 [(R.t 44), (R.i 6), (R.i 1)]),
     R.q 43 (.mov (R.t 45))])
   (.cond (R.t 43)
     (.reg [R.q 46 (.fld 7 (R.t 8)),
       R.q 47 (.load1 (R.t 46)),
       R.q 48 (.call 61 [(R.t 47)]),
       R.q 49 (.fld 7 (R.t 9)),
       R.e (.store 1 (R.t 49) (R.t 48))])
     (.seq (.reg [R.q 51 (.loadA 25 (R.t 7)),
       R.q 52 (.call 59 [(R.t 51), (R.i 6), (R.i 2)]),
       R.q 50 (.mov (R.t 52))])
     (.cond (R.t 50)
       (.reg [R.q 53 (.fld 7 (R.t 8)),
         R.q 54 (.load1 (R.t 53)),
         R.q 55 (.call 21 [(R.t 54)]),
         R.q 56 (.fld 7 (R.t 9)),
         R.e (.store 1 (R.t 56) (R.t 55))])
       .skip))))))
  (.seq (.mark (.seq (.reg [R.q 57 (.loadA 25 (R.t 7)),
    R.q 58 (.call 59 [(R.t 57), (R.i 7), (R.i 1)])])
  (.cond (R.t 58)
    (.reg [R.q 59 (.fld 8 (R.t 8)),
      R.q 60 (.loadA 5 (R.t 59)),
      R.q 61 (.fld 8 (R.t 9)),
      R.e (.store 5 (R.t 61) (R.t 60))])
    .skip)))
  (.seq (.mark (.seq (.reg [R.q 62 (.loadA 25 (R.t 7)),
    R.q 63 (.call 59 [(R.t 62), (R.i 8), (R.i 1)])])
  (.cond (R.t 63)
    (.reg [R.q 64 (.fld 3 (R.t 8)),
      R.q 65 (.loadA 2 (R.t 64)),
      R.q 66 (.fld 3 (R.t 9)),
      R.e (.store 2 (R.t 66) (R.t 65))])
    .skip)))
  (.seq (.mark (.block 1 (.seq (.reg [R.q 68 (.loadA 25 (R.t 7)),
     R.q 69 (.call 59 [(R.t 68), (R.i 9), (R.i 1)]),
     R.q 67 (.mov (R.t 69))])
   (.cond (R.t 67)
     (.reg [R.q 70 (.fld 13 (R.t 8)),
       R.q 71 (.load1 (R.t 70)),
       R.q 72 (.fld 13 (R.t 9)),
       R.e (.store 1 (R.t 72) (R.t 71))])
     (.seq (.reg [R.q 74 (.loadA 25 (R.t 7)),
       R.q 75 (.call 59 [(R.t 74), (R.i 9), (R.i 2)]),
       R.q 73 (.mov (R.t 75))])
     (.cond (R.t 73)
       (.reg [R.q 76 (.fld 13 (R.t 8)),
         R.q 77 (.load1 (R.t 76)),
         R.q 78 (.bin .and .no (R.t 77) (R.i 12)),
         R.q 79 (.fld 13 (R.t 9)),
         R.e (.store 1 (R.t 79) (R.t 78))])
       .skip))))))
  (.seq (.reg [R.q 80 (.loadA 14 (R.t 9)),
    R.e (.store 14 (R.t 6) (R.t 80))])
  .ret))))))))))))
def degrade_Meta.rs : List RRes := [.cellA 6 14]
theorem degrade_Meta.of {xs : List AV} {d : Nat} {B : BL} {K : ARes → BL → Prop} (hn : xs.length = 3) (hB : onlyOuter B = true) (h : awp ⟨PT, 81, exitX degrade_Meta.rs K⟩ 10000 [.code degrade_Meta.rc] ⟨params 0 xs, B, .nil⟩) : CallAt PT degrade_Meta xs d B K :=
  call_of_awp 10000 Try.func31 rfl (by kernel_rfl) (by kernel_rfl) (by kernel_rfl) (by rw [hn]; decide) hB h
abbrev l15_Make : Nat := 33
def l15_Make.rc : RC :=
  (.seq (.reg [R.q 6 (.alloc (.cons (.str fun _ => []) (.cons (R.z 0) (.cons (R.z 0) (.cons (R.z 0) (.cons (R.z 0) (.cons (R.z 0) (.cons (R.z 0) (.cons .nsl (.cons .nsl (.cons .nsl (.cons (R.z 0) (.cons (.int .u64 fun _ => 0) (.cons (.int .u64 fun _ => 0) (.cons .ff (.cons (R.z 0) (.cons (R.z 0) (.cons (.str fun _ => []) (.cons (.str fun _ => []) (.cons (R.z 0) (.cons (R.z 0) .nil)))))))))))))))))))))])
  (.seq (.reg [R.q 9 (.mov (R.t 1)),
    R.q 10 (.mov (R.t 0)),
    R.q 11 (.build (.cons (.str fun _ => []) (.cons (R.z 0) (.cons (R.z 0) (.cons (R.z 0) (.cons (R.z 0) (.cons (R.z 0) (.cons (R.z 0) (.cons .nsl (.cons .nsl (.cons .nsl (.cons (R.z 0) (.cons (.int .u64 fun _ => 0) (.cons (.int .u64 fun _ => 0) (.cons .ff (.cons (R.z 0) (.cons (R.z 0) (.cons (.str fun _ => []) (.cons (.str fun _ => []) (.cons (R.z 0) (.cons (R.z 0) .nil)))))))))))))))))))) [(0, 1, (R.t 9)), (1, 1, (R.t 10))]),
    R.q 7 (.alloc (.cons (.str fun _ => []) (.cons (R.z 0) (.cons (R.z 0) (.cons (R.z 0) (.cons (R.z 0) (.cons (R.z 0) (.cons (R.z 0) (.cons .nsl (.cons .nsl (.cons .nsl (.cons (R.z 0) (.cons (.int .u64 fun _ => 0) (.cons (.int .u64 fun _ => 0) (.cons .ff (.cons (R.z 0) (.cons (R.z 0) (.cons (.str fun _ => []) (.cons (.str fun _ => []) (.cons (R.z 0) (.cons (R.z 0) .nil))))))))))))))))))))),
    R.e (.store 20 (R.t 7) (R.t 11))])
  (.seq (.reg [R.q 8 (.mov (R.i 0))])
  (.seq (.seq (.reg [R.q 12 (.mov (R.t 2)),
    R.q 13 (.len (R.t 12)),
    R.q 14 (.bin .gtr .no (R.t 13) (R.i 0))])
  (.cond (R.t 14)
    (.reg [R.q 15 (.mov (R.t 2)),
      R.q 16 (.idx 1 (R.t 15) (R.i 0)),
      R.q 17 (.load1 (R.t 16)),
      R.q 18 (.conv .i64 (R.t 17)),
      R.q 8 (.mov (R.t 18))])
    .skip))
  (.seq (.seq (.reg [R.q 19 (.mov (R.t 0)),
    R.q 20 (.bin .eql .no (R.t 19) (R.i 2))])
  (.cond (R.t 20)
    (.seq (.reg [R.q 21 (.mov (R.t 2)),
      R.q 22 (.mov (R.t 2)),
      R.q 23 (.len (R.t 22)),
      R.q 24 (.mm false [(R.t 23), (R.i 4)]),
      R.q 25 (.slice 1 (R.t 21) none (some (R.t 24))),
      R.q 26 (.call 63 [(R.t 25)]),
      R.q 27 (.fld 17 (R.t 7)),
      R.e (.store 1 (R.t 27) (R.t 26))])
    (.seq (.reg [R.q 28 (.loadA 20 (R.t 7)),
      R.e (.store 20 (R.t 6) (R.t 28))])
    .ret))
    .skip))
  (.seq (.reg [R.q 29 (.mov (R.t 2)),
    R.q 30 (.mov (R.t 0)),
    R.q 31 (.call 37 [(R.t 29), (R.t 30)]),
    R.q 32 (.fld 2 (R.t 7)),
    R.e (.store 14 (R.t 32) (R.t 31))])
  (.seq (.seq (.reg [R.q 33 (.mov (R.t 0))])
  (.block 0 (.seq (.reg [R.q 35 (.bin .eql .no (R.t 33) (R.i 1)),
     R.q 34 (.mov (R.t 35))])
   (.cond (R.t 34)
     (.reg [R.q 36 (.mov (R.t 8)),
       R.q 37 (.bin .mul .no (R.t 36) (R.i 3)),
       R.q 38 (.mks 1 1 (.cons (.int .u8 fun _ => 0) .nil) (R.t 37) (R.t 37)),
       R.q 39 (.b2s (R.t 38)),
       R.q 40 (.bin .add .no (R.t 39) (.val (.str fun _ => [101, 110, 100]))),
       R.q 41 (.fld 16 (R.t 7)),
       R.e (.store 1 (R.t 41) (R.t 40))])
     (.seq (.reg [R.q 43 (.bin .eql .no (R.t 33) (R.i 3)),
       R.q 42 (.mov (R.t 43))])
     (.cond (R.t 42)
       (.reg [R.q 44 (.mov (R.t 2)),
         R.q 45 (.mov (R.t 2)),
         R.q 46 (.len (R.t 45)),
         R.q 47 (.mm false [(R.t 46), (R.i 6)]),
         R.q 48 (.slice 1 (R.t 44) none (some (R.t 47))),
         R.q 49 (.call 63 [(R.t 48)]),
         R.q 50 (.bin .add .no (.val (.str fun _ => [46, 46, 47])) (R.t 49)),
         R.q 51 (.fld 17 (R.t 7)),
         R.e (.store 1 (R.t 51) (R.t 50))])
       (.seq (.seq (.reg [R.q 53 (.bin .eql .no (R.t 33) (R.i 4)),
         R.q 52 (.mov (R.t 53))])
       (.cond (R.t 52)
         .skip
         (.reg [R.q 54 (.bin .eql .no (R.t 33) (R.i 5)),
           R.q 52 (.mov (R.t 54))])))
       (.cond (R.t 52)
         (.seq (.reg [R.q 55 (.mov (R.t 8)),
           R.q 56 (.fld 18 (R.t 7)),
           R.e (.store 1 (R.t 56) (R.t 55))])
         (.reg [R.q 57 (.mov (R.t 8)),
           R.q 58 (.bin .mul .no (R.t 57) (R.i 200)),
           R.q 59 (.fld 19 (R.t 7)),
           R.e (.store 1 (R.t 59) (R.t 58))]))
         .skip))))))))
  (.seq (.reg [R.q 60 (.loadA 20 (R.t 7)),
    R.e (.store 20 (R.t 6) (R.t 60))])
  .ret))))))))
def l15_Make.rs : List RRes := [.cellA 6 20]
theorem l15_Make.of {xs : List AV} {d : Nat} {B : BL} {K : ARes → BL → Prop} (hn : xs.length = 3) (hB : onlyOuter B = true) (h : awp ⟨PT, 61, exitX l15_Make.rs K⟩ 10000 [.code l15_Make.rc] ⟨params 0 xs, B, .nil⟩) : CallAt PT l15_Make xs d B K :=
  call_of_awp 10000 Try.func33 rfl (by kernel_rfl) (by kernel_rfl) (by kernel_rfl) (by rw [hn]; decide) hB h
abbrev l18_Cred : Nat := 34
def l18_Cred.rc : RC :=
  (.seq (.reg [R.q 2 (.alloc (.cons (R.z 0) (.cons (R.z 0) (.cons .nsl (.cons (R.z 0) .nil)))))])
  (.seq (.reg [R.q 5 (.build (.cons (R.z 0) (.cons (R.z 0) (.cons .nsl (.cons (R.z 0) .nil)))) []),
    R.q 3 (.alloc (.cons (R.z 0) (.cons (R.z 0) (.cons .nsl (.cons (R.z 0) .nil))))),
    R.e (.store 4 (R.t 3) (R.t 5))])
  (.seq (.seq (.reg [R.q 6 (.mov (R.t 0)),
    R.q 7 (.len (R.t 6)),
    R.q 8 (.bin .gtr .no (R.t 7) (R.i 0))])
  (.cond (R.t 8)
    (.reg [R.q 9 (.mov (R.t 0)),
      R.q 10 (.idx 1 (R.t 9) (R.i 0)),
      R.q 11 (.load1 (R.t 10)),
      R.q 12 (.conv .i64 (R.t 11)),
      R.q 13 (.bin .rem .no (R.t 12) (R.i 8)),
      R.q 14 (.fld 0 (R.t 3)),
      R.e (.store 1 (R.t 14) (R.t 13))])
    .skip))
  (.seq (.seq (.reg [R.q 15 (.mov (R.t 0)),
    R.q 16 (.len (R.t 15)),
    R.q 17 (.bin .gtr .no (R.t 16) (R.i 1))])
  (.cond (R.t 17)
    (.reg [R.q 18 (.mov (R.t 0)),
      R.q 19 (.idx 1 (R.t 18) (R.i 1)),
      R.q 20 (.load1 (R.t 19)),
      R.q 21 (.conv .i64 (R.t 20)),
      R.q 22 (.bin .rem .no (R.t 21) (R.i 8)),
      R.q 23 (.fld 1 (R.t 3)),
      R.e (.store 1 (R.t 23) (R.t 22))])
    .skip))
  (.seq (.seq (.reg [R.q 4 (.mov (R.i 2))])
  (.block 0 (.loop
     (.seq (.seq (.reg [R.q 24 (.mov (R.t 4)),
       R.q 25 (.mov (R.t 0)),
       R.q 26 (.len (R.t 25)),
       R.q 27 (.bin .lss .no (R.t 24) (R.t 26)),
       R.q 28 (.mov (R.t 27)),
       R.g 29 (.mov (R.t 4)) 28 true,
       R.g 30 (.bin .lss .no (R.t 29) (R.i 6)) 28 true,
       R.q 31 (.pick (R.t 28) (R.t 30) R.ff)])
     (.cond (R.t 31)
       .skip
       (.exit 0)))
     (.seq (.block 1 (.regd [R.f (R.q 34 (.fld 2 (R.t 3))),
        R.f (R.q 35 (.load1 (R.t 34))),
        R.f (R.q 36 (.mov (R.t 0))),
        R.f (R.q 37 (.mov (R.t 4))),
        R.f (R.q 38 (.idx 1 (R.t 36) (R.t 37))),
        R.f (R.q 39 (.load1 (R.t 38))),
        R.f (R.q 40 (.conv .i64 (R.t 39))),
        R.f (R.q 41 (.bin .rem .no (R.t 40) (R.i 16))),
        R.f (R.q 42 (.bslice 1 (.cons (R.z 0) .nil) 1 [(0, 1, (R.t 41))])),
        R.s (R.q 43 (.append 1 8 (R.t 35) (R.t 42))) [],
        R.f (R.q 44 (.fld 2 (R.t 3))),
        R.s (R.e (.store 1 (R.t 44) (R.t 43))) []]))
     (.reg [R.q 32 (.mov (R.t 4)),
       R.q 33 (.bin .add .no (R.t 32) (R.i 1)),
       R.q 4 (.mov (R.t 33))]))))))
  (.seq (.reg [R.q 45 (.loadA 4 (R.t 3)),
    R.e (.store 4 (R.t 2) (R.t 45))])
  .ret))))))
def l18_Cred.rs : List RRes := [.cellA 2 4]
theorem l18_Cred.of {xs : List AV} {d : Nat} {B : BL} {K : ARes → BL → Prop} (hn : xs.length = 1) (hB : onlyOuter B = true) (h : awp ⟨PT, 46, exitX l18_Cred.rs K⟩ 10000 [.code l18_Cred.rc] ⟨params 0 xs, B, .nil⟩) : CallAt PT l18_Cred xs d B K :=
  call_of_awp 10000 Try.func34 rfl (by kernel_rfl) (by kernel_rfl) (by kernel_rfl) (by rw [hn]; decide) hB h
abbrev r9_Plain : Nat := 35
def r9_Plain.rc : RC :=
  (.seq (.reg [R.q 6 (.alloc (.cons (R.z 0) (.cons (R.z 0) (.cons (R.z 0) (.cons (R.z 0) (.cons (R.z 0) (.cons .nsl (.cons .nsl (.cons .nsl (.cons (R.z 0) (.cons (.int .u64 fun _ => 0) (.cons (.int .u64 fun _ => 0) (.cons .ff (.cons (R.z 0) (.cons (R.z 0) .nil)))))))))))))))])
  (.seq (.reg [R.q 7 (.mov (R.t 0)),
    R.q 8 (.mov (R.t 1)),
    R.q 9 (.mov (R.t 2)),
    R.q 10 (.build (.cons (R.z 0) (.cons (R.z 0) (.cons (R.z 0) (.cons (R.z 0) (.cons (R.z 0) (.cons .nsl (.cons .nsl (.cons .nsl (.cons (R.z 0) (.cons (.int .u64 fun _ => 0) (.cons (.int .u64 fun _ => 0) (.cons .ff (.cons (R.z 0) (.cons (R.z 0) .nil)))))))))))))) [(0, 1, (R.t 7)), (1, 1, (R.t 8)), (2, 1, (R.t 9))]),
    R.e (.store 14 (R.t 6) (R.t 10))])
  .ret))
def r9_Plain.rs : List RRes := [.cellA 6 14]
theorem r9_Plain.of {xs : List AV} {d : Nat} {B : BL} {K : ARes → BL → Prop} (hn : xs.length = 3) (hB : onlyOuter B = true) (h : awp ⟨PT, 11, exitX r9_Plain.rs K⟩ 10000 [.code r9_Plain.rc] ⟨params 0 xs, B, .nil⟩) : CallAt PT r9_Plain xs d B K :=
  call_of_awp 10000 Try.func35 rfl (by kernel_rfl) (by kernel_rfl) (by kernel_rfl) (by rw [hn]; decide) hB h
abbrev r9_MayMeta : Nat := 36
def r9_MayMeta.rc : RC :=
  (.seq (.reg [R.q 2 (.box (R.t 0)),
    R.q 4 (.mov R.ff)])
  (.seq (.seq (.reg [R.q 5 (.mov (R.t 1)),
    R.q 6 (.bin .neq .no (R.t 5) (R.i 1)),
    R.q 7 (.mov (R.t 6)),
    R.g 8 (.mov (R.t 1)) 7 true,
    R.g 9 (.bin .lss .no (R.t 8) (R.i 3)) 7 true,
    R.g 10 (.mov (R.t 9)) 7 true,
    R.g 11 (.mov (R.t 1)) 10 false,
    R.g 12 (.bin .gtr .no (R.t 11) (R.i 7)) 10 false,
    R.g 13 (.pick (R.t 10) R.tt (R.t 12)) 7 true,
    R.q 14 (.pick (R.t 7) (R.t 13) R.ff)])
  (.cond (R.t 14)
    (.seq (.reg [R.q 4 (.mov R.ff)])
    .ret)
    .skip))
  (.seq (.seq (.reg [R.q 15 (.fld 0 (R.t 2)),
    R.q 16 (.load1 (R.t 15)),
    R.q 17 (.bin .lss .no (R.t 16) (R.i 0)),
    R.q 18 (.mov (R.t 17)),
    R.g 19 (.fld 0 (R.t 2)) 18 false,
    R.g 20 (.load1 (R.t 19)) 18 false,
    R.g 21 (.bin .gtr .no (R.t 20) (R.i 4095)) 18 false,
    R.q 22 (.pick (R.t 18) R.tt (R.t 21)),
    R.q 23 (.mov (R.t 22)),
    R.g 24 (.fld 1 (R.t 2)) 23 false,
    R.g 25 (.load1 (R.t 24)) 23 false,
    R.g 26 (.call 64 [(R.t 25)]) 23 false,
    R.g 27 (.un .not (R.t 26)) 23 false,
    R.q 28 (.pick (R.t 23) R.tt (R.t 27)),
    R.q 29 (.mov (R.t 28)),
    R.g 30 (.fld 2 (R.t 2)) 29 false,
    R.g 31 (.load1 (R.t 30)) 29 false,
    R.g 32 (.call 64 [(R.t 31)]) 29 false,
    R.g 33 (.un .not (R.t 32)) 29 false,
    R.q 34 (.pick (R.t 29) R.tt (R.t 33)),
    R.q 35 (.mov (R.t 34)),
    R.g 36 (.fld 3 (R.t 2)) 35 false,
    R.g 37 (.loadA 2 (R.t 36)) 35 false,
    R.g 38 (.call 65 [(R.t 37)]) 35 false,
    R.g 39 (.un .not (R.t 38)) 35 false,
    R.q 40 (.pick (R.t 35) R.tt (R.t 39)),
    R.q 41 (.mov (R.t 40)),
    R.g 42 (.fld 13 (R.t 2)) 41 false,
    R.g 43 (.load1 (R.t 42)) 41 false,
    R.g 44 (.call 66 [(R.t 43)]) 41 false,
    R.g 45 (.un .not (R.t 44)) 41 false,
    R.q 46 (.pick (R.t 41) R.tt (R.t 45)),
    R.q 47 (.mov (R.t 46)),
    R.g 48 (.fld 7 (R.t 2)) 47 false,
    R.g 49 (.load1 (R.t 48)) 47 false,
    R.g 50 (.call 67 [(R.t 49)]) 47 false,
    R.g 51 (.un .not (R.t 50)) 47 false,
    R.q 52 (.pick (R.t 47) R.tt (R.t 51))])
  (.cond (R.t 52)
    (.seq (.reg [R.q 4 (.mov R.ff)])
    .ret)
    .skip))
  (.seq (.seq (.regd [R.f (R.q 53 (.fld 5 (R.t 2))),
    R.f (R.q 54 (.load1 (R.t 53))),
    R.f (R.q 55 (.len (R.t 54))),
    R.f (R.q 56 (.bin .gtr .no (R.t 55) (R.i 0))),
    R.f (R.q 57 (.mov (R.t 56))),
    R.f (R.g 58 (.fld 5 (R.t 2)) 57 true),
    R.f (R.g 59 (.load1 (R.t 58)) 57 true),
    R.s (R.g 60 (.call 68 [(R.t 59)]) 57 true) [],
    R.f (R.g 61 (.un .not (R.t 60)) 57 true),
    R.f (R.g 62 (.mov (R.t 61)) 57 true),
    R.f (R.g 63 (.fld 5 (R.t 2)) 62 false),
    R.f (R.g 64 (.load1 (R.t 63)) 62 false),
    R.f (R.g 66 (.fld 0 (R.t 2)) 62 false),
    R.f (R.g 67 (.load1 (R.t 66)) 62 false),
    R.f (R.g 68 (.bin .and .no (R.t 67) (R.i 511)) 62 false),
    R.s (R.g 65 (.call 69 [(R.t 64)]) 62 false) [12, 13, 14],
    R.f (R.g 69 (.bin .neq .no (R.t 65) (R.t 68)) 62 false),
    R.f (R.g 70 (.pick (R.t 62) R.tt (R.t 69)) 57 true),
    R.f (R.q 71 (.pick (R.t 57) (R.t 70) R.ff))])
  (.cond (R.t 71)
    (.seq (.reg [R.q 4 (.mov R.ff)])
    .ret)
    .skip))
  (.seq (.seq (.reg [R.q 72 (.fld 6 (R.t 2)),
    R.q 73 (.load1 (R.t 72)),
    R.q 74 (.len (R.t 73)),
    R.q 75 (.bin .gtr .no (R.t 74) (R.i 0)),
    R.q 76 (.mov (R.t 75)),
    R.g 77 (.mov (R.t 1)) 76 true,
    R.g 78 (.bin .neq .no (R.t 77) (R.i 6)) 76 true,
    R.g 79 (.mov (R.t 78)) 76 true,
    R.g 80 (.fld 6 (R.t 2)) 79 false,
    R.g 81 (.load1 (R.t 80)) 79 false,
    R.g 82 (.call 68 [(R.t 81)]) 79 false,
    R.g 83 (.un .not (R.t 82)) 79 false,
    R.g 84 (.pick (R.t 79) R.tt (R.t 83)) 76 true,
    R.q 85 (.pick (R.t 76) (R.t 84) R.ff)])
  (.cond (R.t 85)
    (.seq (.reg [R.q 4 (.mov R.ff)])
    .ret)
    .skip))
  (.seq (.seq (.reg [R.q 86 (.fld 8 (R.t 2)),
    R.q 87 (.loadA 5 (R.t 86)),
    R.q 88 (.call 70 [(R.t 87)]),
    R.q 89 (.un .not (R.t 88)),
    R.q 90 (.mov (R.t 89)),
    R.g 91 (.fld 8 (R.t 2)) 90 false,
    R.g 92 (.fld 0 (R.t 91)) 90 false,
    R.g 93 (.load1 (R.t 92)) 90 false,
    R.g 94 (.bin .neq .no (R.t 93) (R.i 0)) 90 false,
    R.g 95 (.mov (R.t 94)) 90 false,
    R.g 96 (.mov (R.t 1)) 95 true,
    R.g 97 (.bin .neq .no (R.t 96) (R.i 1)) 95 true,
    R.g 98 (.pick (R.t 95) (R.t 97) R.ff) 90 false,
    R.q 99 (.pick (R.t 90) R.tt (R.t 98))])
  (.cond (R.t 99)
    (.seq (.reg [R.q 4 (.mov R.ff)])
    .ret)
    .skip))
  (.seq (.reg [R.q 100 (.mov (R.t 1)),
    R.q 101 (.bin .neq .no (R.t 100) (R.i 3)),
    R.q 102 (.mov (R.t 101)),
    R.g 103 (.fld 0 (R.t 2)) 102 false,
    R.g 104 (.load1 (R.t 103)) 102 false,
    R.g 105 (.bin .eql .no (R.t 104) (R.i 511)) 102 false,
    R.g 106 (.mov (R.t 105)) 102 false,
    R.g 107 (.fld 5 (R.t 2)) 106 true,
    R.g 108 (.load1 (R.t 107)) 106 true,
    R.g 109 (.len (R.t 108)) 106 true,
    R.g 110 (.bin .eql .no (R.t 109) (R.i 0)) 106 true,
    R.g 111 (.pick (R.t 106) (R.t 110) R.ff) 102 false,
    R.g 112 (.mov (R.t 111)) 102 false,
    R.g 113 (.fld 13 (R.t 2)) 112 true,
    R.g 114 (.load1 (R.t 113)) 112 true,
    R.g 115 (.bin .eql .no (R.t 114) (R.i 0)) 112 true,
    R.g 116 (.pick (R.t 112) (R.t 115) R.ff) 102 false,
    R.q 117 (.pick (R.t 102) R.tt (R.t 116)),
    R.q 4 (.mov (R.t 117))])
  .ret)))))))
def r9_MayMeta.rs : List RRes := [.tmp 4]
theorem r9_MayMeta.of {xs : List AV} {d : Nat} {B : BL} {K : ARes → BL → Prop} (hn : xs.length = 2) (hB : onlyOuter B = true) (h : awp ⟨PT, 118, exitX r9_MayMeta.rs K⟩ 10000 [.code r9_MayMeta.rc] ⟨params 0 xs, B, .nil⟩) : CallAt PT r9_MayMeta xs d B K :=
  call_of_awp 10000 Try.func36 rfl (by kernel_rfl) (by kernel_rfl) (by kernel_rfl) (by rw [hn]; decide) hB h
abbrev l14_Make : Nat := 37
def l14_Make.rc : RC :=
  (.seq (.reg [R.q 4 (.alloc (.cons (R.z 0) (.cons (R.z 0) (.cons (R.z 0) (.cons (R.z 0) (.cons (R.z 0) (.cons .nsl (.cons .nsl (.cons .nsl (.cons (R.z 0) (.cons (.int .u64 fun _ => 0) (.cons (.int .u64 fun _ => 0) (.cons .ff (.cons (R.z 0) (.cons (R.z 0) .nil)))))))))))))))])
  (.seq (.reg [R.q 8 (.mks 1 8 (.cons (R.z 0) .nil) (R.i 12) (R.i 12)),
    R.q 5 (.mov (R.t 8))])
  (.seq (.seq (.reg [R.q 6 (.mov (R.i 0))])
  (.block 0 (.loop
     (.seq (.seq (.reg [R.q 9 (.mov (R.t 6)),
       R.q 10 (.bin .lss .no (R.t 9) (R.i 12)),
       R.q 11 (.mov (R.t 10)),
       R.g 12 (.mov (R.t 6)) 11 true,
       R.g 13 (.mov (R.t 0)) 11 true,
       R.g 14 (.len (R.t 13)) 11 true,
       R.g 15 (.bin .lss .no (R.t 12) (R.t 14)) 11 true,
       R.q 16 (.pick (R.t 11) (R.t 15) R.ff)])
     (.cond (R.t 16)
       .skip
       (.exit 0)))
     (.seq (.block 1 (.reg [R.q 19 (.mov (R.t 5)),
        R.q 20 (.mov (R.t 6)),
        R.q 21 (.mov (R.t 0)),
        R.q 22 (.mov (R.t 6)),
        R.q 23 (.idx 1 (R.t 21) (R.t 22)),
        R.q 24 (.load1 (R.t 23)),
        R.q 25 (.conv .i64 (R.t 24)),
        R.q 26 (.idx 1 (R.t 19) (R.t 20)),
        R.e (.store 1 (R.t 26) (R.t 25))]))
     (.reg [R.q 17 (.mov (R.t 6)),
       R.q 18 (.bin .add .no (R.t 17) (R.i 1)),
       R.q 6 (.mov (R.t 18))]))))))
  (.seq (.regd [R.f (R.q 27 (.mov (R.t 5))),
    R.f (R.q 28 (.idx 1 (R.t 27) (R.i 0))),
    R.f (R.q 29 (.load1 (R.t 28))),
    R.f (R.q 30 (.bin .mul .no (R.t 29) (R.i 16))),
    R.f (R.q 31 (.mov (R.t 5))),
    R.f (R.q 32 (.idx 1 (R.t 31) (R.i 1))),
    R.f (R.q 33 (.load1 (R.t 32))),
    R.f (R.q 34 (.bin .rem .no (R.t 33) (R.i 16))),
    R.f (R.q 35 (.bin .add .no (R.t 30) (R.t 34))),
    R.f (R.q 36 (.mov (R.t 5))),
    R.f (R.q 37 (.idx 1 (R.t 36) (R.i 2))),
    R.f (R.q 38 (.load1 (R.t 37))),
    R.f (R.q 39 (.bin .rem .no (R.t 38) (R.i 6))),
    R.f (R.q 40 (.mov (R.t 5))),
    R.f (R.q 41 (.idx 1 (R.t 40) (R.i 3))),
    R.f (R.q 42 (.load1 (R.t 41))),
    R.f (R.q 43 (.bin .rem .no (R.t 42) (R.i 6))),
    R.f (R.q 44 (.mov (R.t 5))),
    R.f (R.q 45 (.idx 1 (R.t 44) (R.i 4))),
    R.f (R.q 46 (.load1 (R.t 45))),
    R.f (R.q 47 (.bin .mul .no (R.t 46) (R.i 1000))),
    R.f (R.q 48 (.bin .sub .no (R.t 47) (R.i 50000))),
    R.f (R.q 49 (.mov (R.t 5))),
    R.f (R.q 50 (.idx 1 (R.t 49) (R.i 5))),
    R.f (R.q 51 (.load1 (R.t 50))),
    R.f (R.q 52 (.bin .rem .no (R.t 51) (R.i 2))),
    R.f (R.q 53 (.bin .mul .no (R.t 52) (R.i 500000000))),
    R.f (R.q 54 (.build (.cons (R.z 0) (.cons (R.z 0) .nil)) [(0, 1, (R.t 48)), (1, 1, (R.t 53))])),
    R.f (R.q 55 (.build (.cons (R.z 0) (.cons (R.z 0) (.cons (R.z 0) (.cons (R.z 0) (.cons (R.z 0) (.cons .nsl (.cons .nsl (.cons .nsl (.cons (R.z 0) (.cons (.int .u64 fun _ => 0) (.cons (.int .u64 fun _ => 0) (.cons .ff (.cons (R.z 0) (.cons (R.z 0) .nil)))))))))))))) [(0, 1, (R.t 35)), (1, 1, (R.t 39)), (2, 1, (R.t 43)), (3, 2, (R.t 54))])),
    R.f (R.q 7 (.alloc (.cons (R.z 0) (.cons (R.z 0) (.cons (R.z 0) (.cons (R.z 0) (.cons (R.z 0) (.cons .nsl (.cons .nsl (.cons .nsl (.cons (R.z 0) (.cons (.int .u64 fun _ => 0) (.cons (.int .u64 fun _ => 0) (.cons .ff (.cons (R.z 0) (.cons (R.z 0) .nil)))))))))))))))),
    R.s (R.e (.store 14 (R.t 7) (R.t 55))) []])
  (.seq (.seq (.reg [R.q 56 (.mov (R.t 0)),
    R.q 57 (.len (R.t 56)),
    R.q 58 (.bin .gtr .no (R.t 57) (R.i 12))])
  (.cond (R.t 58)
    (.reg [R.q 59 (.mov (R.t 0)),
      R.q 60 (.slice 1 (R.t 59) (some (R.i 12)) none),
      R.q 61 (.call 71 [(R.t 60)]),
      R.q 62 (.fld 7 (R.t 7)),
      R.e (.store 1 (R.t 62) (R.t 61))])
    .skip))
  (.seq (.seq (.reg [R.q 63 (.mov (R.t 1)),
    R.q 64 (.bin .eql .no (R.t 63) (R.i 3))])
  (.cond (R.t 64)
    (.seq (.reg [R.q 65 (.fld 0 (R.t 7)),
      R.e (.store 1 (R.t 65) (R.i 511))])
    (.seq (.reg [R.q 66 (.loadA 14 (R.t 7)),
      R.e (.store 14 (R.t 4) (R.t 66))])
    .ret))
    .skip))
  (.seq (.reg [R.q 67 (.mov (R.t 5)),
    R.q 68 (.idx 1 (R.t 67) (R.i 6)),
    R.q 69 (.load1 (R.t 68)),
    R.q 70 (.bin .rem .no (R.t 69) (R.i 16)),
    R.q 71 (.fld 13 (R.t 7)),
    R.e (.store 1 (R.t 71) (R.t 70))])
  (.seq (.seq (.reg [R.q 72 (.mov (R.t 5)),
    R.q 73 (.idx 1 (R.t 72) (R.i 7)),
    R.q 74 (.load1 (R.t 73)),
    R.q 75 (.bin .rem .no (R.t 74) (R.i 2)),
    R.q 76 (.bin .eql .no (R.t 75) (R.i 1))])
  (.cond (R.t 76)
    (.regd [R.f (R.q 77 (.mov (R.t 0))),
      R.f (R.q 78 (.slice 1 (R.t 77) (some (R.i 8)) none)),
      R.f (R.q 79 (.fld 0 (R.t 7))),
      R.f (R.q 80 (.load1 (R.t 79))),
      R.f (R.q 81 (.bin .and .no (R.t 80) (R.i 511))),
      R.s (R.q 82 (.call 38 [(R.t 78), (R.t 81)])) [],
      R.f (R.q 83 (.fld 5 (R.t 7))),
      R.s (R.e (.store 1 (R.t 83) (R.t 82))) []])
    .skip))
  (.seq (.seq (.reg [R.q 84 (.mov (R.t 1)),
    R.q 85 (.bin .eql .no (R.t 84) (R.i 6)),
    R.q 86 (.mov (R.t 85)),
    R.g 87 (.mov (R.t 5)) 86 true,
    R.g 88 (.idx 1 (R.t 87) (R.i 7)) 86 true,
    R.g 89 (.load1 (R.t 88)) 86 true,
    R.g 90 (.bin .rem .no (R.t 89) (R.i 4)) 86 true,
    R.g 91 (.bin .geq .no (R.t 90) (R.i 2)) 86 true,
    R.q 92 (.pick (R.t 86) (R.t 91) R.ff)])
  (.cond (R.t 92)
    (.regd [R.f (R.q 93 (.mov (R.t 0))),
      R.f (R.q 94 (.mov (R.t 0))),
      R.f (R.q 95 (.len (R.t 94))),
      R.f (R.q 96 (.mm false [(R.t 95), (R.i 9)])),
      R.f (R.q 97 (.slice 1 (R.t 93) (some (R.t 96)) none)),
      R.f (R.q 98 (.mov (R.t 5))),
      R.f (R.q 99 (.idx 1 (R.t 98) (R.i 9))),
      R.f (R.q 100 (.load1 (R.t 99))),
      R.s (R.q 101 (.call 38 [(R.t 97), (R.t 100)])) [],
      R.f (R.q 102 (.fld 6 (R.t 7))),
      R.s (R.e (.store 1 (R.t 102) (R.t 101))) []])
    .skip))
  (.seq (.seq (.reg [R.q 103 (.mov (R.t 1)),
    R.q 104 (.bin .eql .no (R.t 103) (R.i 1)),
    R.q 105 (.mov (R.t 104)),
    R.g 106 (.mov (R.t 5)) 105 true,
    R.g 107 (.idx 1 (R.t 106) (R.i 10)) 105 true,
    R.g 108 (.load1 (R.t 107)) 105 true,
    R.g 109 (.bin .rem .no (R.t 108) (R.i 3)) 105 true,
    R.g 110 (.bin .eql .no (R.t 109) (R.i 0)) 105 true,
    R.q 111 (.pick (R.t 105) (R.t 110) R.ff),
    R.q 112 (.mov (R.t 111)),
    R.g 113 (.mov (R.t 0)) 112 true,
    R.g 114 (.len (R.t 113)) 112 true,
    R.g 115 (.bin .gtr .no (R.t 114) (R.i 10)) 112 true,
    R.q 116 (.pick (R.t 112) (R.t 115) R.ff)])
  (.cond (R.t 116)
    (.regd [R.f (R.q 117 (.mov (R.t 5))),
      R.f (R.q 118 (.idx 1 (R.t 117) (R.i 8))),
      R.f (R.q 119 (.load1 (R.t 118))),
      R.f (R.q 120 (.conv .u64 (R.t 119))),
      R.f (R.q 121 (.mov (R.t 5))),
      R.f (R.q 122 (.idx 1 (R.t 121) (R.i 9))),
      R.f (R.q 123 (.load1 (R.t 122))),
      R.f (R.q 124 (.conv .u64 (R.t 123))),
      R.f (R.q 125 (.bin .shl .no (R.t 124) (.val (.int .u64 fun _ => 40)))),
      R.f (R.q 126 (.mov (R.t 0))),
      R.f (R.q 127 (.idx 1 (R.t 126) (R.i 10))),
      R.f (R.q 128 (.load1 (R.t 127))),
      R.f (R.q 129 (.mov (R.t 5))),
      R.f (R.q 130 (.idx 1 (R.t 129) (R.i 11))),
      R.f (R.q 131 (.load1 (R.t 130))),
      R.f (R.q 132 (.conv .u32 (R.t 131))),
      R.s (R.q 133 (.call 72 [(R.t 120), (R.t 125), (R.t 128), (R.t 132)])) [],
      R.f (R.q 134 (.fld 8 (R.t 7))),
      R.s (R.e (.store 5 (R.t 134) (R.t 133))) []])
    .skip))
  (.seq (.reg [R.q 135 (.loadA 14 (R.t 7)),
    R.e (.store 14 (R.t 4) (R.t 135))])
  .ret)))))))))))
def l14_Make.rs : List RRes := [.cellA 4 14]
theorem l14_Make.of {xs : List AV} {d : Nat} {B : BL} {K : ARes → BL → Prop} (hn : xs.length = 2) (hB : onlyOuter B = true) (h : awp ⟨PT, 136, exitX l14_Make.rs K⟩ 10000 [.code l14_Make.rc] ⟨params 0 xs, B, .nil⟩) : CallAt PT l14_Make xs d B K :=
  call_of_awp 10000 Try.func37 rfl (by kernel_rfl) (by kernel_rfl) (by kernel_rfl) (by rw [hn]; decide) hB h
abbrev l9_Make : Nat := 38
def l9_Make.rc : RC :=
  (.seq (.reg [R.q 4 (.mov (.val .nsl))])
  (.seq (.reg [R.q 14 (.mov (R.t 1)),
    R.q 15 (.bin .shr .no (R.t 14) (.val (.int .u64 fun _ => 6))),
    R.q 16 (.bin .and .no (R.t 15) (R.i 7)),
    R.q 17 (.mov (R.t 1)),
    R.q 18 (.bin .shr .no (R.t 17) (.val (.int .u64 fun _ => 3))),
    R.q 19 (.bin .and .no (R.t 18) (R.i 7)),
    R.q 20 (.mov (R.t 1)),
    R.q 21 (.bin .and .no (R.t 20) (R.i 7)),
    R.q 5 (.mov (R.t 16)),
    R.q 6 (.mov (R.t 19)),
    R.q 7 (.mov (R.t 21))])
  (.seq (.reg [R.q 8 (.mov (.val .nsl)),
    R.q 9 (.mov (.val .nsl))])
  (.seq (.seq (.reg [R.q 10 (.mov (R.i 0))])
  (.block 0 (.loop
     (.seq (.seq (.reg [R.q 22 (.mov (R.t 10)),
       R.q 23 (.bin .add .no (R.t 22) (R.i 1)),
       R.q 24 (.mov (R.t 0)),
       R.q 25 (.len (R.t 24)),
       R.q 26 (.bin .lss .no (R.t 23) (R.t 25)),
       R.q 27 (.mov (R.t 26)),
       R.g 28 (.mov (R.t 10)) 27 true,
       R.g 29 (.bin .lss .no (R.t 28) (R.i 12)) 27 true,
       R.q 30 (.pick (R.t 27) (R.t 29) R.ff)])
     (.cond (R.t 30)
       .skip
       (.exit 0)))
     (.seq (.block 1 (.seq (.regd [R.f (R.q 33 (.mov (R.t 0))),
        R.f (R.q 34 (.mov (R.t 10))),
        R.f (R.q 35 (.idx 1 (R.t 33) (R.t 34))),
        R.f (R.q 36 (.load1 (R.t 35))),
        R.f (R.q 37 (.conv .i64 (R.t 36))),
        R.f (R.q 38 (.bin .quo .no (R.t 37) (R.i 2))),
        R.f (R.q 39 (.mov (R.t 0))),
        R.f (R.q 40 (.mov (R.t 10))),
        R.f (R.q 41 (.bin .add .no (R.t 40) (R.i 1))),
        R.f (R.q 42 (.idx 1 (R.t 39) (R.t 41))),
        R.f (R.q 43 (.load1 (R.t 42))),
        R.f (R.q 44 (.conv .i64 (R.t 43))),
        R.f (R.q 45 (.bin .rem .no (R.t 44) (R.i 8))),
        R.s (R.q 11 (.mov (R.t 38))) [6, 7, 8, 9, 10, 11, 12],
        R.s (R.q 12 (.mov (R.t 45))) []])
      (.seq (.reg [R.q 46 (.mov (R.t 0)),
        R.q 47 (.mov (R.t 10)),
        R.q 48 (.idx 1 (R.t 46) (R.t 47)),
        R.q 49 (.load1 (R.t 48)),
        R.q 50 (.bin .rem .no (R.t 49) (R.u 2)),
        R.q 51 (.bin .eql .no (R.t 50) (R.u 0))])
      (.cond (R.t 51)
        (.reg [R.q 52 (.mov (R.t 8)),
          R.q 53 (.mov (R.t 11)),
          R.q 54 (.mov (R.t 12)),
          R.q 55 (.build (.cons (R.z 0) (.cons (R.z 0) (.cons (R.z 0) .nil))) [(0, 1, (R.i 2)), (1, 1, (R.t 53)), (2, 1, (R.t 54))]),
          R.q 56 (.call 73 [(R.t 52), (R.t 55)]),
          R.q 8 (.mov (R.t 56))])
        (.reg [R.q 57 (.mov (R.t 9)),
          R.q 58 (.mov (R.t 11)),
          R.q 59 (.mov (R.t 12)),
          R.q 60 (.build (.cons (R.z 0) (.cons (R.z 0) (.cons (R.z 0) .nil))) [(0, 1, (R.i 4)), (1, 1, (R.t 58)), (2, 1, (R.t 59))]),
          R.q 61 (.call 73 [(R.t 57), (R.t 60)]),
          R.q 9 (.mov (R.t 61))])))))
     (.reg [R.q 31 (.mov (R.t 10)),
       R.q 32 (.bin .add .no (R.t 31) (R.i 2)),
       R.q 10 (.mov (R.t 32))]))))))
  (.seq (.reg [R.q 62 (.mov (R.t 5)),
    R.q 63 (.build (.cons (R.z 0) (.cons (R.z 0) (.cons (R.z 0) .nil))) [(0, 1, (R.i 1)), (2, 1, (R.t 62))]),
    R.q 64 (.bslice 3 (.cons (R.z 0) (.cons (R.z 0) (.cons (R.z 0) .nil))) 1 [(0, 3, (R.t 63))]),
    R.q 65 (.mov (R.t 8)),
    R.q 66 (.append 3 24 (R.t 64) (R.t 65)),
    R.q 13 (.mov (R.t 66))])
  (.seq (.seq (.reg [R.q 67 (.mov (R.t 8)),
    R.q 68 (.len (R.t 67)),
    R.q 69 (.mov (R.t 9)),
    R.q 70 (.len (R.t 69)),
    R.q 71 (.bin .add .no (R.t 68) (R.t 70)),
    R.q 72 (.bin .eql .no (R.t 71) (R.i 0))])
  (.cond (R.t 72)
    (.seq (.reg [R.q 73 (.mov (R.t 13)),
      R.q 74 (.mov (R.t 6)),
      R.q 75 (.build (.cons (R.z 0) (.cons (R.z 0) (.cons (R.z 0) .nil))) [(0, 1, (R.i 3)), (2, 1, (R.t 74))]),
      R.q 76 (.mov (R.t 7)),
      R.q 77 (.build (.cons (R.z 0) (.cons (R.z 0) (.cons (R.z 0) .nil))) [(0, 1, (R.i 6)), (2, 1, (R.t 76))]),
      R.q 78 (.bslice 3 (.cons (R.z 0) (.cons (R.z 0) (.cons (R.z 0) .nil))) 2 [(0, 3, (R.t 75)), (3, 3, (R.t 77))]),
      R.q 79 (.append 3 24 (R.t 73) (R.t 78)),
      R.q 4 (.mov (R.t 79))])
    .ret)
    .skip))
  (.seq (.reg [R.q 80 (.mov (R.t 13)),
    R.q 81 (.mov (R.t 6)),
    R.q 82 (.mov (R.t 0)),
    R.q 83 (.idx 1 (R.t 82) (R.i 0)),
    R.q 84 (.load1 (R.t 83)),
    R.q 85 (.conv .i64 (R.t 84)),
    R.q 86 (.bin .rem .no (R.t 85) (R.i 8)),
    R.q 87 (.bin .xor .no (R.t 81) (R.t 86)),
    R.q 88 (.build (.cons (R.z 0) (.cons (R.z 0) (.cons (R.z 0) .nil))) [(0, 1, (R.i 3)), (2, 1, (R.t 87))]),
    R.q 89 (.bslice 3 (.cons (R.z 0) (.cons (R.z 0) (.cons (R.z 0) .nil))) 1 [(0, 3, (R.t 88))]),
    R.q 90 (.append 3 24 (R.t 80) (R.t 89)),
    R.q 91 (.mov (R.t 9)),
    R.q 92 (.append 3 24 (R.t 90) (R.t 91)),
    R.q 13 (.mov (R.t 92))])
  (.seq (.reg [R.q 93 (.mov (R.t 13)),
    R.q 94 (.mov (R.t 6)),
    R.q 95 (.build (.cons (R.z 0) (.cons (R.z 0) (.cons (R.z 0) .nil))) [(0, 1, (R.i 5)), (2, 1, (R.t 94))]),
    R.q 96 (.mov (R.t 7)),
    R.q 97 (.build (.cons (R.z 0) (.cons (R.z 0) (.cons (R.z 0) .nil))) [(0, 1, (R.i 6)), (2, 1, (R.t 96))]),
    R.q 98 (.bslice 3 (.cons (R.z 0) (.cons (R.z 0) (.cons (R.z 0) .nil))) 2 [(0, 3, (R.t 95)), (3, 3, (R.t 97))]),
    R.q 99 (.append 3 24 (R.t 93) (R.t 98)),
    R.q 4 (.mov (R.t 99))])
  .ret))))))))
def l9_Make.rs : List RRes := [.tmp 4]
theorem l9_Make.of {xs : List AV} {d : Nat} {B : BL} {K : ARes → BL → Prop} (hn : xs.length = 2) (hB : onlyOuter B = true) (h : awp ⟨PT, 100, exitX l9_Make.rs K⟩ 10000 [.code l9_Make.rc] ⟨params 0 xs, B, .nil⟩) : CallAt PT l9_Make xs d B K :=
  call_of_awp 10000 Try.func38 rfl (by kernel_rfl) (by kernel_rfl) (by kernel_rfl) (by rw [hn]; decide) hB h
abbrev right_Less : Nat := 49
def right_Less.rc : RC :=
  (.seq (.reg [R.q 1 (.box (R.t 0)),
    R.q 2 (.mov (R.i 0))])
  (.seq (.reg [R.q 3 (.mkfn (.func 95) [] [(R.t 1)]),
    R.q 4 (.call 94 [(R.t 3)]),
    R.q 2 (.mov (R.t 4))])
  .ret))
def right_Less.rs : List RRes := [.tmp 2]
theorem right_Less.of {xs : List AV} {d : Nat} {B : BL} {K : ARes → BL → Prop} (hn : xs.length = 1) (hB : onlyOuter B = true) (h : awp ⟨PT, 5, exitX right_Less.rs K⟩ 10000 [.code right_Less.rc] ⟨params 0 xs, B, .nil⟩) : CallAt PT right_Less xs d B K :=
  call_of_awp 10000 Try.func49 rfl (by kernel_rfl) (by kernel_rfl) (by kernel_rfl) (by rw [hn]; decide) hB h
abbrev strings_HasPrefix : Nat := 51
def strings_HasPrefix.rc : RC :=
  (.seq (.reg [R.q 4 (.mov R.ff)])
  (.seq (.reg [R.q 5 (.mov (R.t 0)),
    R.q 6 (.mov (R.t 1)),
    R.q 7 (.call 100 [(R.t 5), (R.t 6)]),
    R.q 4 (.mov (R.t 7))])
  .ret))
def strings_HasPrefix.rs : List RRes := [.tmp 4]
theorem strings_HasPrefix.of {xs : List AV} {d : Nat} {B : BL} {K : ARes → BL → Prop} (hn : xs.length = 2) (hB : onlyOuter B = true) (h : awp ⟨PT, 8, exitX strings_HasPrefix.rs K⟩ 10000 [.code strings_HasPrefix.rc] ⟨params 0 xs, B, .nil⟩) : CallAt PT strings_HasPrefix xs d B K :=
  call_of_awp 10000 Try.func51 rfl (by kernel_rfl) (by kernel_rfl) (by kernel_rfl) (by rw [hn]; decide) hB h
abbrev r9_SameAcl : Nat := 57
def r9_SameAcl.rc : RC :=
  (.seq (.reg [R.q 4 (.mov R.ff)])
  (.seq (.seq (.reg [R.q 6 (.mov (R.t 0)),
    R.q 7 (.len (R.t 6)),
    R.q 8 (.mov (R.t 1)),
    R.q 9 (.len (R.t 8)),
    R.q 10 (.bin .neq .no (R.t 7) (R.t 9))])
  (.cond (R.t 10)
    (.seq (.reg [R.q 4 (.mov R.ff)])
    .ret)
    .skip))
  (.seq (.seq (.reg [R.q 5 (.mov (R.i 0))])
  (.block 0 (.loop
     (.seq (.seq (.reg [R.q 11 (.mov (R.t 5)),
       R.q 12 (.mov (R.t 0)),
       R.q 13 (.len (R.t 12)),
       R.q 14 (.bin .lss .no (R.t 11) (R.t 13))])
     (.cond (R.t 14)
       .skip
       (.exit 0)))
     (.seq (.block 1 (.seq (.regd [R.f (R.q 17 (.mov (R.t 0))),
        R.f (R.q 18 (.mov (R.t 5))),
        R.f (R.q 19 (.idx 3 (R.t 17) (R.t 18))),
        R.f (R.q 20 (.loadA 3 (R.t 19))),
        R.f (R.q 21 (.mov (R.t 1))),
        R.f (R.q 22 (.mov (R.t 5))),
        R.f (R.q 23 (.idx 3 (R.t 21) (R.t 22))),
        R.f (R.q 24 (.loadA 3 (R.t 23))),
        R.f (R.q 25 (.bin .neq (.agg [.i .i64, .i .i64, .i .i64]) (R.t 20) (R.t 24)))])
      (.cond (R.t 25)
        (.seq (.reg [R.q 4 (.mov R.ff)])
        .ret)
        .skip)))
     (.reg [R.q 15 (.mov (R.t 5)),
       R.q 16 (.bin .add .no (R.t 15) (R.i 1)),
       R.q 5 (.mov (R.t 16))]))))))
  (.seq (.reg [R.q 4 (.mov R.tt)])
  .ret))))
def r9_SameAcl.rs : List RRes := [.tmp 4]
theorem r9_SameAcl.of {xs : List AV} {d : Nat} {B : BL} {K : ARes → BL → Prop} (hn : xs.length = 2) (hB : onlyOuter B = true) (h : awp ⟨PT, 26, exitX r9_SameAcl.rs K⟩ 10000 [.code r9_SameAcl.rc] ⟨params 0 xs, B, .nil⟩) : CallAt PT r9_SameAcl xs d B K :=
  call_of_awp 10000 Try.func57 rfl (by kernel_rfl) (by kernel_rfl) (by kernel_rfl) (by rw [hn]; decide) hB h
abbrev degrade_teller_mode : Nat := 58
def degrade_teller_mode.rc : RC :=
  (.seq (.reg [R.q 1 (.box (R.t 0)),
    R.q 2 (.mov (R.i 0))])
  (.seq (.reg [R.q 8 (.fld 0 (R.t 1)),
    R.q 9 (.fld 2 (R.t 8)),
    R.q 10 (.loadA 14 (R.t 9)),
    R.q 3 (.alloc (.cons (R.z 0) (.cons (R.z 0) (.cons (R.z 0) (.cons (R.z 0) (.cons (R.z 0) (.cons .nsl (.cons .nsl (.cons .nsl (.cons (R.z 0) (.cons (.int .u64 fun _ => 0) (.cons (.int .u64 fun _ => 0) (.cons .ff (.cons (R.z 0) (.cons (R.z 0) .nil))))))))))))))),
    R.e (.store 14 (R.t 3) (R.t 10))])
  (.seq (.block 0 (.seq (.reg [R.q 12 (.fld 0 (R.t 1)),
     R.q 13 (.fld 1 (R.t 12)),
     R.q 14 (.load1 (R.t 13)),
     R.q 15 (.bin .eql .no (R.t 14) (R.i 3)),
     R.q 11 (.mov (R.t 15))])
   (.cond (R.t 11)
     (.seq (.reg [R.q 2 (.mov (R.i 511))])
     .ret)
     (.seq (.reg [R.q 17 (.loadA 25 (R.t 1)),
       R.q 18 (.call 59 [(R.t 17), (R.i 3), (R.i 2)]),
       R.q 16 (.mov (R.t 18))])
     (.cond (R.t 16)
       (.seq (.reg [R.q 20 (.loadA 14 (R.t 3)),
         R.q 21 (.call 18 [(R.t 20), R.ff]),
         R.q 19 (.mov (R.t 21)),
         R.q 22 (.ext 0 (R.t 19)),
         R.q 23 (.ext 1 (R.t 19)),
         R.q 4 (.mov (R.t 22)),
         R.q 5 (.mov (R.t 23))])
       (.seq (.reg [R.q 24 (.mov (R.t 4)),
         R.q 2 (.mov (R.t 24))])
       .ret))
       (.seq (.reg [R.q 26 (.loadA 25 (R.t 1)),
         R.q 27 (.call 59 [(R.t 26), (R.i 3), (R.i 1)]),
         R.q 28 (.un .not (R.t 27)),
         R.q 25 (.mov (R.t 28))])
       (.cond (R.t 25)
         (.seq (.seq (.reg [R.q 29 (.loadA 25 (R.t 1)),
           R.q 30 (.call 59 [(R.t 29), (R.i 10), (R.i 1)])])
         (.cond (R.t 30)
           (.seq (.reg [R.q 2 (.mov (R.i 0))])
           .ret)
           .skip))
         (.seq (.reg [R.q 31 (.fld 0 (R.t 1)),
           R.q 32 (.fld 1 (R.t 31)),
           R.q 33 (.load1 (R.t 32)),
           R.q 34 (.call 15 [(R.t 33)]),
           R.q 2 (.mov (R.t 34))])
         .ret))
         .skip)))))))
  (.seq (.reg [R.q 36 (.loadA 14 (R.t 3)),
    R.q 37 (.call 18 [(R.t 36), R.tt]),
    R.q 35 (.mov (R.t 37)),
    R.q 38 (.ext 0 (R.t 35)),
    R.q 39 (.ext 1 (R.t 35)),
    R.q 6 (.mov (R.t 38)),
    R.q 7 (.mov (R.t 39))])
  (.seq (.seq (.reg [R.q 40 (.loadA 25 (R.t 1)),
    R.q 41 (.call 59 [(R.t 40), (R.i 4), (R.i 1)])])
  (.cond (R.t 41)
    (.reg [R.q 42 (.fld 0 (R.t 3)),
      R.q 43 (.load1 (R.t 42)),
      R.q 6 (.mov (R.t 43))])
    .skip))
  (.seq (.seq (.reg [R.q 44 (.fld 0 (R.t 1)),
    R.q 45 (.fld 1 (R.t 44)),
    R.q 46 (.load1 (R.t 45)),
    R.q 47 (.bin .eql .no (R.t 46) (R.i 1)),
    R.q 48 (.mov (R.t 47)),
    R.g 49 (.fld 20 (R.t 1)) 48 true,
    R.g 50 (.loadA 4 (R.t 49)) 48 true,
    R.g 51 (.fld 2 (R.t 3)) 48 true,
    R.g 52 (.load1 (R.t 51)) 48 true,
    R.g 53 (.call 103 [(R.t 50), (R.t 52)]) 48 true,
    R.g 54 (.un .not (R.t 53)) 48 true,
    R.q 55 (.pick (R.t 48) (R.t 54) R.ff),
    R.q 56 (.mov (R.t 55)),
    R.g 57 (.fld 20 (R.t 1)) 56 true,
    R.g 58 (.fld 3 (R.t 57)) 56 true,
    R.g 59 (.load1 (R.t 58)) 56 true,
    R.g 60 (.bin .and .no (R.t 59) (R.i 4)) 56 true,
    R.g 61 (.bin .eql .no (R.t 60) (R.i 0)) 56 true,
    R.q 62 (.pick (R.t 56) (R.t 61) R.ff)])
  (.cond (R.t 62)
    (.reg [R.q 63 (.mov (R.t 6)),
      R.q 64 (.bin .andNot .no (R.t 63) (R.i 1024)),
      R.q 6 (.mov (R.t 64))])
    .skip))
  (.seq (.reg [R.q 65 (.mov (R.t 6)),
    R.q 2 (.mov (R.t 65))])
  .ret)))))))
def degrade_teller_mode.rs : List RRes := [.tmp 2]
theorem degrade_teller_mode.of {xs : List AV} {d : Nat} {B : BL} {K : ARes → BL → Prop} (hn : xs.length = 1) (hB : onlyOuter B = true) (h : awp ⟨PT, 66, exitX degrade_teller_mode.rs K⟩ 10000 [.code degrade_teller_mode.rc] ⟨params 0 xs, B, .nil⟩) : CallAt PT degrade_teller_mode xs d B K :=
  call_of_awp 10000 Try.func58 rfl (by kernel_rfl) (by kernel_rfl) (by kernel_rfl) (by rw [hn]; decide) hB h
abbrev degrade_teller_is : Nat := 59
def degrade_teller_is.rc : RC :=
  (.seq (.reg [R.q 3 (.box (R.t 0)),
    R.q 6 (.mov R.ff)])
  (.seq (.reg [R.q 7 (.fld 24 (R.t 3)),
    R.q 8 (.load1 (R.t 7)),
    R.q 9 (.fld 0 (R.t 3)),
    R.q 10 (.fld 0 (R.t 9)),
    R.q 11 (.load1 (R.t 10)),
    R.q 12 (.mov (R.t 1)),
    R.q 13 (.call 27 [(R.t 8), (R.t 11), (R.t 12)]),
    R.q 14 (.mov (R.t 2)),
    R.q 15 (.bin .eql .no (R.t 13) (R.t 14)),
    R.q 6 (.mov (R.t 15))])
  .ret))
def degrade_teller_is.rs : List RRes := [.tmp 6]
theorem degrade_teller_is.of {xs : List AV} {d : Nat} {B : BL} {K : ARes → BL → Prop} (hn : xs.length = 3) (hB : onlyOuter B = true) (h : awp ⟨PT, 16, exitX degrade_teller_is.rs K⟩ 10000 [.code degrade_teller_is.rc] ⟨params 0 xs, B, .nil⟩) : CallAt PT degrade_teller_is xs d B K :=
  call_of_awp 10000 Try.func59 rfl (by kernel_rfl) (by kernel_rfl) (by kernel_rfl) (by rw [hn]; decide) hB h
abbrev slices_Clone_api_Ace_api_Ace : Nat := 60
def slices_Clone_api_Ace_api_Ace.rc : RC :=
  (.seq (.reg [R.q 2 (.mov (.val .nsl))])
  (.seq (.seq (.reg [R.q 3 (.mov (R.t 0)),
    R.q 4 (.isNil true (R.t 3))])
  (.cond (R.t 4)
    (.seq (.reg [R.q 2 (.mov (.val .nsl))])
    .ret)
    .skip))
  (.seq (.reg [R.q 5 (.bslice 3 (.cons (R.z 0) (.cons (R.z 0) (.cons (R.z 0) .nil))) 0 []),
    R.q 6 (.mov (R.t 0)),
    R.q 7 (.append 3 24 (R.t 5) (R.t 6)),
    R.q 2 (.mov (R.t 7))])
  .ret)))
def slices_Clone_api_Ace_api_Ace.rs : List RRes := [.tmp 2]
theorem slices_Clone_api_Ace_api_Ace.of {xs : List AV} {d : Nat} {B : BL} {K : ARes → BL → Prop} (hn : xs.length = 1) (hB : onlyOuter B = true) (h : awp ⟨PT, 8, exitX slices_Clone_api_Ace_api_Ace.rs K⟩ 10000 [.code slices_Clone_api_Ace_api_Ace.rc] ⟨params 0 xs, B, .nil⟩) : CallAt PT slices_Clone_api_Ace_api_Ace xs d B K :=
  call_of_awp 10000 Try.func60 rfl (by kernel_rfl) (by kernel_rfl) (by kernel_rfl) (by rw [hn]; decide) hB h
abbrev slices_Clone_api_Xattr_api_Xattr : Nat := 61
def slices_Clone_api_Xattr_api_Xattr.rc : RC :=
  (.seq (.reg [R.q 2 (.mov (.val .nsl))])
  (.seq (.seq (.reg [R.q 3 (.mov (R.t 0)),
    R.q 4 (.isNil true (R.t 3))])
  (.cond (R.t 4)
    (.seq (.reg [R.q 2 (.mov (.val .nsl))])
    .ret)
    .skip))
  (.seq (.reg [R.q 5 (.bslice 2 (.cons (.str fun _ => []) (.cons (.str fun _ => []) .nil)) 0 []),
    R.q 6 (.mov (R.t 0)),
    R.q 7 (.append 2 32 (R.t 5) (R.t 6)),
    R.q 2 (.mov (R.t 7))])
  .ret)))
def slices_Clone_api_Xattr_api_Xattr.rs : List RRes := [.tmp 2]
theorem slices_Clone_api_Xattr_api_Xattr.of {xs : List AV} {d : Nat} {B : BL} {K : ARes → BL → Prop} (hn : xs.length = 1) (hB : onlyOuter B = true) (h : awp ⟨PT, 8, exitX slices_Clone_api_Xattr_api_Xattr.rs K⟩ 10000 [.code slices_Clone_api_Xattr_api_Xattr.rc] ⟨params 0 xs, B, .nil⟩) : CallAt PT slices_Clone_api_Xattr_api_Xattr xs d B K :=
  call_of_awp 10000 Try.func61 rfl (by kernel_rfl) (by kernel_rfl) (by kernel_rfl) (by rw [hn]; decide) hB h
abbrev l15_Path : Nat := 63
def l15_Path.rc : RC :=
  (.seq (.reg [R.q 2 (.mov (.val (.str fun _ => [])))])
  (.seq (.reg [R.q 3 (.mov (.val (.str fun _ => [112])))])
  (.seq (.seq (.reg [R.q 4 (.mov (R.i 0))])
  (.block 0 (.loop
     (.seq (.seq (.reg [R.q 5 (.mov (R.t 4)),
       R.q 6 (.mov (R.t 0)),
       R.q 7 (.len (R.t 6)),
       R.q 8 (.bin .lss .no (R.t 5) (R.t 7)),
       R.q 9 (.mov (R.t 8)),
       R.g 10 (.mov (R.t 4)) 9 true,
       R.g 11 (.bin .lss .no (R.t 10) (R.i 8)) 9 true,
       R.q 12 (.pick (R.t 9) (R.t 11) R.ff)])
     (.cond (R.t 12)
       .skip
       (.exit 0)))
     (.seq (.block 1 (.reg [R.q 15 (.mov (R.t 3)),
        R.q 16 (.bin .add .no (R.t 15) (.val (.str fun _ => [47]))),
        R.q 17 (.mov (R.t 0)),
        R.q 18 (.mov (R.t 4)),
        R.q 19 (.idx 1 (R.t 17) (R.t 18)),
        R.q 20 (.load1 (R.t 19)),
        R.q 21 (.call 104 [(R.t 20)]),
        R.q 22 (.bin .add .no (R.t 16) (R.t 21)),
        R.q 3 (.mov (R.t 22))]))
     (.reg [R.q 13 (.mov (R.t 4)),
       R.q 14 (.bin .add .no (R.t 13) (R.i 1)),
       R.q 4 (.mov (R.t 14))]))))))
  (.seq (.reg [R.q 23 (.mov (R.t 3)),
    R.q 2 (.mov (R.t 23))])
  .ret))))
def l15_Path.rs : List RRes := [.tmp 2]
theorem l15_Path.of {xs : List AV} {d : Nat} {B : BL} {K : ARes → BL → Prop} (hn : xs.length = 1) (hB : onlyOuter B = true) (h : awp ⟨PT, 24, exitX l15_Path.rs K⟩ 10000 [.code l15_Path.rc] ⟨params 0 xs, B, .nil⟩) : CallAt PT l15_Path xs d B K :=
  call_of_awp 10000 Try.func63 rfl (by kernel_rfl) (by kernel_rfl) (by kernel_rfl) (by rw [hn]; decide) hB h
abbrev r9_id : Nat := 64
def r9_id.rc : RC :=
  (.seq (.reg [R.q 2 (.mov R.ff)])
  (.seq (.reg [R.q 3 (.mov (R.t 0)),
    R.q 4 (.bin .geq .no (R.t 3) (R.i 0)),
    R.q 5 (.mov (R.t 4)),
    R.g 6 (.mov (R.t 0)) 5 true,
    R.g 7 (.bin .leq .no (R.t 6) (R.i 2147483647)) 5 true,
    R.q 8 (.pick (R.t 5) (R.t 7) R.ff),
    R.q 2 (.mov (R.t 8))])
  .ret))
def r9_id.rs : List RRes := [.tmp 2]
theorem r9_id.of {xs : List AV} {d : Nat} {B : BL} {K : ARes → BL → Prop} (hn : xs.length = 1) (hB : onlyOuter B = true) (h : awp ⟨PT, 9, exitX r9_id.rs K⟩ 10000 [.code r9_id.rc] ⟨params 0 xs, B, .nil⟩) : CallAt PT r9_id xs d B K :=
  call_of_awp 10000 Try.func64 rfl (by kernel_rfl) (by kernel_rfl) (by kernel_rfl) (by rw [hn]; decide) hB h
abbrev r1_MayStamp : Nat := 65
def r1_MayStamp.rc : RC :=
  (.seq (.reg [R.q 1 (.box (R.t 0)),
    R.q 2 (.mov R.ff)])
  (.seq (.reg [R.q 3 (.fld 0 (R.t 1)),
    R.q 4 (.load1 (R.t 3)),
    R.q 5 (.bin .geq .no (R.t 4) (R.i (-1099511627776))),
    R.q 6 (.mov (R.t 5)),
    R.g 7 (.fld 0 (R.t 1)) 6 true,
    R.g 8 (.load1 (R.t 7)) 6 true,
    R.g 9 (.bin .leq .no (R.t 8) (R.i 1099511627776)) 6 true,
    R.q 10 (.pick (R.t 6) (R.t 9) R.ff),
    R.q 11 (.mov (R.t 10)),
    R.g 12 (.fld 1 (R.t 1)) 11 true,
    R.g 13 (.load1 (R.t 12)) 11 true,
    R.g 14 (.bin .geq .no (R.t 13) (R.i 0)) 11 true,
    R.q 15 (.pick (R.t 11) (R.t 14) R.ff),
    R.q 16 (.mov (R.t 15)),
    R.g 17 (.fld 1 (R.t 1)) 16 true,
    R.g 18 (.load1 (R.t 17)) 16 true,
    R.g 19 (.bin .leq .no (R.t 18) (R.i 999999999)) 16 true,
    R.q 20 (.pick (R.t 16) (R.t 19) R.ff),
    R.q 2 (.mov (R.t 20))])
  .ret))
def r1_MayStamp.rs : List RRes := [.tmp 2]
theorem r1_MayStamp.of {xs : List AV} {d : Nat} {B : BL} {K : ARes → BL → Prop} (hn : xs.length = 1) (hB : onlyOuter B = true) (h : awp ⟨PT, 21, exitX r1_MayStamp.rs K⟩ 10000 [.code r1_MayStamp.rc] ⟨params 0 xs, B, .nil⟩) : CallAt PT r1_MayStamp xs d B K :=
  call_of_awp 10000 Try.func65 rfl (by kernel_rfl) (by kernel_rfl) (by kernel_rfl) (by rw [hn]; decide) hB h
abbrev r9_MayFlags : Nat := 66
def r9_MayFlags.rc : RC :=
  (.seq (.reg [R.q 2 (.mov R.ff)])
  (.seq (.reg [R.q 3 (.mov (R.t 0)),
    R.q 4 (.bin .geq .no (R.t 3) (R.i 0)),
    R.q 5 (.mov (R.t 4)),
    R.g 6 (.mov (R.t 0)) 5 true,
    R.g 7 (.bin .leq .no (R.t 6) (R.i 15)) 5 true,
    R.q 8 (.pick (R.t 5) (R.t 7) R.ff),
    R.q 2 (.mov (R.t 8))])
  .ret))
def r9_MayFlags.rs : List RRes := [.tmp 2]
theorem r9_MayFlags.of {xs : List AV} {d : Nat} {B : BL} {K : ARes → BL → Prop} (hn : xs.length = 1) (hB : onlyOuter B = true) (h : awp ⟨PT, 9, exitX r9_MayFlags.rs K⟩ 10000 [.code r9_MayFlags.rc] ⟨params 0 xs, B, .nil⟩) : CallAt PT r9_MayFlags xs d B K :=
  call_of_awp 10000 Try.func66 rfl (by kernel_rfl) (by kernel_rfl) (by kernel_rfl) (by rw [hn]; decide) hB h
abbrev r9_MayXattrs : Nat := 67
def r9_MayXattrs.rc : RC :=
  (.seq (.reg [R.q 2 (.mov R.ff)])
  (.seq (.seq (.reg [R.q 3 (.mov (R.i 0))])
  (.block 0 (.loop
     (.seq (.seq (.reg [R.q 5 (.mov (R.t 3)),
       R.q 6 (.mov (R.t 0)),
       R.q 7 (.len (R.t 6)),
       R.q 8 (.bin .lss .no (R.t 5) (R.t 7))])
     (.cond (R.t 8)
       .skip
       (.exit 0)))
     (.seq (.block 1 (.seq (.reg [R.q 11 (.mov (R.t 0)),
        R.q 12 (.mov (R.t 3)),
        R.q 13 (.idx 2 (R.t 11) (R.t 12)),
        R.q 14 (.fld 0 (R.t 13)),
        R.q 15 (.load1 (R.t 14)),
        R.q 4 (.mov (R.t 15))])
      (.seq (.reg [R.q 16 (.mov (R.t 4)),
        R.q 17 (.lenS (R.t 16)),
        R.q 18 (.bin .eql .no (R.t 17) (R.i 0)),
        R.q 19 (.mov (R.t 18)),
        R.g 20 (.mov (R.t 4)) 19 false,
        R.g 21 (.lenS (R.t 20)) 19 false,
        R.g 22 (.bin .gtr .no (R.t 21) (R.i 238)) 19 false,
        R.q 23 (.pick (R.t 19) R.tt (R.t 22)),
        R.q 24 (.mov (R.t 23)),
        R.g 25 (.mov (R.t 4)) 24 false,
        R.g 26 (.call 105 [(R.t 25), (.val (.str fun _ => [0]))]) 24 false,
        R.q 27 (.pick (R.t 24) R.tt (R.t 26)),
        R.q 28 (.mov (R.t 27)),
        R.g 29 (.mov (R.t 4)) 28 false,
        R.g 30 (.call 106 [(R.t 29)]) 28 false,
        R.g 31 (.lenS (R.t 30)) 28 false,
        R.g 32 (.bin .gtr .no (R.t 31) (R.i 238)) 28 false,
        R.q 33 (.pick (R.t 28) R.tt (R.t 32)),
        R.q 34 (.mov (R.t 33)),
        R.g 35 (.mov (R.t 0)) 34 false,
        R.g 36 (.mov (R.t 3)) 34 false,
        R.g 37 (.idx 2 (R.t 35) (R.t 36)) 34 false,
        R.g 38 (.fld 1 (R.t 37)) 34 false,
        R.g 39 (.load1 (R.t 38)) 34 false,
        R.g 40 (.lenS (R.t 39)) 34 false,
        R.g 41 (.bin .gtr .no (R.t 40) (R.i 4096)) 34 false,
        R.q 42 (.pick (R.t 34) R.tt (R.t 41)),
        R.q 43 (.mov (R.t 42)),
        R.g 44 (.mov (R.t 3)) 43 false,
        R.g 45 (.bin .gtr .no (R.t 44) (R.i 0)) 43 false,
        R.g 46 (.mov (R.t 45)) 43 false,
        R.g 47 (.mov (R.t 4)) 46 true,
        R.g 48 (.mov (R.t 0)) 46 true,
        R.g 49 (.mov (R.t 3)) 46 true,
        R.g 50 (.bin .sub .no (R.t 49) (R.i 1)) 46 true,
        R.g 51 (.idx 2 (R.t 48) (R.t 50)) 46 true,
        R.g 52 (.fld 0 (R.t 51)) 46 true,
        R.g 53 (.load1 (R.t 52)) 46 true,
        R.g 54 (.bin .leq .no (R.t 47) (R.t 53)) 46 true,
        R.g 55 (.pick (R.t 46) (R.t 54) R.ff) 43 false,
        R.q 56 (.pick (R.t 43) R.tt (R.t 55))])
      (.cond (R.t 56)
        (.seq (.reg [R.q 2 (.mov R.ff)])
        .ret)
        .skip))))
     (.reg [R.q 9 (.mov (R.t 3)),
       R.q 10 (.bin .add .no (R.t 9) (R.i 1)),
       R.q 3 (.mov (R.t 10))]))))))
  (.seq (.reg [R.q 57 (.mov (R.t 0)),
    R.q 58 (.len (R.t 57)),
    R.q 59 (.bin .leq .no (R.t 58) (R.i 32)),
    R.q 2 (.mov (R.t 59))])
  .ret)))
def r9_MayXattrs.rs : List RRes := [.tmp 2]
theorem r9_MayXattrs.of {xs : List AV} {d : Nat} {B : BL} {K : ARes → BL → Prop} (hn : xs.length = 1) (hB : onlyOuter B = true) (h : awp ⟨PT, 60, exitX r9_MayXattrs.rs K⟩ 10000 [.code r9_MayXattrs.rc] ⟨params 0 xs, B, .nil⟩) : CallAt PT r9_MayXattrs xs d B K :=
  call_of_awp 10000 Try.func67 rfl (by kernel_rfl) (by kernel_rfl) (by kernel_rfl) (by rw [hn]; decide) hB h
abbrev r9_MayAcl : Nat := 68
def r9_MayAcl.rc : RC :=
  (.seq (.reg [R.q 2 (.mov R.ff)])
  (.seq (.seq (.reg [R.q 6 (.mov (R.t 0)),
    R.q 7 (.len (R.t 6)),
    R.q 8 (.bin .lss .no (R.t 7) (R.i 3)),
    R.q 9 (.mov (R.t 8)),
    R.g 10 (.mov (R.t 0)) 9 false,
    R.g 11 (.len (R.t 10)) 9 false,
    R.g 12 (.bin .gtr .no (R.t 11) (R.i 32)) 9 false,
    R.q 13 (.pick (R.t 9) R.tt (R.t 12))])
  (.cond (R.t 13)
    (.seq (.reg [R.q 2 (.mov R.ff)])
    .ret)
    .skip))
  (.seq (.reg [R.q 14 (.mks 1 8 (.cons (R.z 0) .nil) (R.i 7) (R.i 7)),
    R.q 3 (.mov (R.t 14))])
  (.seq (.seq (.reg [R.q 4 (.mov (R.i 0))])
  (.block 0 (.loop
     (.seq (.seq (.reg [R.q 15 (.mov (R.t 4)),
       R.q 16 (.mov (R.t 0)),
       R.q 17 (.len (R.t 16)),
       R.q 18 (.bin .lss .no (R.t 15) (R.t 17))])
     (.cond (R.t 18)
       .skip
       (.exit 0)))
     (.seq (.block 1 (.seq (.reg [R.q 21 (.mov (R.t 0)),
        R.q 22 (.mov (R.t 4)),
        R.q 23 (.idx 3 (R.t 21) (R.t 22)),
        R.q 24 (.loadA 3 (R.t 23)),
        R.q 5 (.alloc (.cons (R.z 0) (.cons (R.z 0) (.cons (R.z 0) .nil)))),
        R.e (.store 3 (R.t 5) (R.t 24))])
      (.seq (.seq (.reg [R.q 25 (.fld 0 (R.t 5)),
        R.q 26 (.load1 (R.t 25)),
        R.q 27 (.bin .lss .no (R.t 26) (R.i 1)),
        R.q 28 (.mov (R.t 27)),
        R.g 29 (.fld 0 (R.t 5)) 28 false,
        R.g 30 (.load1 (R.t 29)) 28 false,
        R.g 31 (.bin .gtr .no (R.t 30) (R.i 6)) 28 false,
        R.q 32 (.pick (R.t 28) R.tt (R.t 31)),
        R.q 33 (.mov (R.t 32)),
        R.g 34 (.fld 2 (R.t 5)) 33 false,
        R.g 35 (.load1 (R.t 34)) 33 false,
        R.g 36 (.bin .lss .no (R.t 35) (R.i 0)) 33 false,
        R.q 37 (.pick (R.t 33) R.tt (R.t 36)),
        R.q 38 (.mov (R.t 37)),
        R.g 39 (.fld 2 (R.t 5)) 38 false,
        R.g 40 (.load1 (R.t 39)) 38 false,
        R.g 41 (.bin .gtr .no (R.t 40) (R.i 7)) 38 false,
        R.q 42 (.pick (R.t 38) R.tt (R.t 41)),
        R.q 43 (.mov (R.t 42)),
        R.g 44 (.fld 1 (R.t 5)) 43 false,
        R.g 45 (.load1 (R.t 44)) 43 false,
        R.g 46 (.bin .lss .no (R.t 45) (R.i 0)) 43 false,
        R.q 47 (.pick (R.t 43) R.tt (R.t 46)),
        R.q 48 (.mov (R.t 47)),
        R.g 49 (.fld 1 (R.t 5)) 48 false,
        R.g 50 (.load1 (R.t 49)) 48 false,
        R.g 51 (.bin .gtr .no (R.t 50) (R.i 2147483647)) 48 false,
        R.q 52 (.pick (R.t 48) R.tt (R.t 51)),
        R.q 53 (.mov (R.t 52)),
        R.g 54 (.loadA 3 (R.t 5)) 53 false,
        R.g 55 (.call 107 [(R.t 54)]) 53 false,
        R.g 56 (.un .not (R.t 55)) 53 false,
        R.g 57 (.mov (R.t 56)) 53 false,
        R.g 58 (.fld 1 (R.t 5)) 57 true,
        R.g 59 (.load1 (R.t 58)) 57 true,
        R.g 60 (.bin .neq .no (R.t 59) (R.i 0)) 57 true,
        R.g 61 (.pick (R.t 57) (R.t 60) R.ff) 53 false,
        R.q 62 (.pick (R.t 53) R.tt (R.t 61))])
      (.cond (R.t 62)
        (.seq (.reg [R.q 2 (.mov R.ff)])
        .ret)
        .skip))
      (.seq (.seq (.regd [R.f (R.q 63 (.mov (R.t 4))),
        R.f (R.q 64 (.bin .gtr .no (R.t 63) (R.i 0))),
        R.f (R.q 65 (.mov (R.t 64))),
        R.f (R.g 66 (.fld 0 (R.t 5)) 65 true),
        R.f (R.g 67 (.load1 (R.t 66)) 65 true),
        R.f (R.g 68 (.mov (R.t 0)) 65 true),
        R.f (R.g 69 (.mov (R.t 4)) 65 true),
        R.f (R.g 70 (.bin .sub .no (R.t 69) (R.i 1)) 65 true),
        R.f (R.g 71 (.idx 3 (R.t 68) (R.t 70)) 65 true),
        R.f (R.g 72 (.fld 0 (R.t 71)) 65 true),
        R.f (R.g 73 (.load1 (R.t 72)) 65 true),
        R.f (R.g 74 (.bin .lss .no (R.t 67) (R.t 73)) 65 true),
        R.f (R.g 75 (.mov (R.t 74)) 65 true),
        R.f (R.g 76 (.fld 0 (R.t 5)) 75 false),
        R.f (R.g 77 (.load1 (R.t 76)) 75 false),
        R.f (R.g 78 (.mov (R.t 0)) 75 false),
        R.f (R.g 79 (.mov (R.t 4)) 75 false),
        R.f (R.g 80 (.bin .sub .no (R.t 79) (R.i 1)) 75 false),
        R.f (R.g 81 (.idx 3 (R.t 78) (R.t 80)) 75 false),
        R.f (R.g 82 (.fld 0 (R.t 81)) 75 false),
        R.f (R.g 83 (.load1 (R.t 82)) 75 false),
        R.f (R.g 84 (.bin .eql .no (R.t 77) (R.t 83)) 75 false),
        R.f (R.g 85 (.mov (R.t 84)) 75 false),
        R.f (R.g 86 (.loadA 3 (R.t 5)) 85 true),
        R.s (R.g 87 (.call 107 [(R.t 86)]) 85 true) [],
        R.f (R.g 88 (.un .not (R.t 87)) 85 true),
        R.f (R.g 89 (.mov (R.t 88)) 85 true),
        R.f (R.g 90 (.fld 1 (R.t 5)) 89 false),
        R.f (R.g 91 (.load1 (R.t 90)) 89 false),
        R.f (R.g 92 (.mov (R.t 0)) 89 false),
        R.f (R.g 93 (.mov (R.t 4)) 89 false),
        R.f (R.g 94 (.bin .sub .no (R.t 93) (R.i 1)) 89 false),
        R.f (R.g 95 (.idx 3 (R.t 92) (R.t 94)) 89 false),
        R.f (R.g 96 (.fld 1 (R.t 95)) 89 false),
        R.f (R.g 97 (.load1 (R.t 96)) 89 false),
        R.f (R.g 98 (.bin .leq .no (R.t 91) (R.t 97)) 89 false),
        R.f (R.g 99 (.pick (R.t 89) R.tt (R.t 98)) 85 true),
        R.f (R.g 100 (.pick (R.t 85) (R.t 99) R.ff) 75 false),
        R.f (R.g 101 (.pick (R.t 75) R.tt (R.t 100)) 65 true),
        R.f (R.q 102 (.pick (R.t 65) (R.t 101) R.ff))])
      (.cond (R.t 102)
        (.seq (.reg [R.q 2 (.mov R.ff)])
        .ret)
        .skip))
      (.reg [R.q 103 (.mov (R.t 3)),
        R.q 104 (.fld 0 (R.t 5)),
        R.q 105 (.load1 (R.t 104)),
        R.q 106 (.idx 1 (R.t 103) (R.t 105)),
        R.q 107 (.load1 (R.t 106)),
        R.q 108 (.bin .add .no (R.t 107) (R.i 1)),
        R.q 109 (.idx 1 (R.t 103) (R.t 105)),
        R.e (.store 1 (R.t 109) (R.t 108))])))))
     (.reg [R.q 19 (.mov (R.t 4)),
       R.q 20 (.bin .add .no (R.t 19) (R.i 1)),
       R.q 4 (.mov (R.t 20))]))))))
  (.seq (.regd [R.f (R.q 110 (.mov (R.t 3))),
    R.f (R.q 111 (.idx 1 (R.t 110) (R.i 1))),
    R.f (R.q 112 (.load1 (R.t 111))),
    R.f (R.q 113 (.bin .eql .no (R.t 112) (R.i 1))),
    R.f (R.q 114 (.mov (R.t 113))),
    R.f (R.g 115 (.mov (R.t 3)) 114 true),
    R.f (R.g 116 (.idx 1 (R.t 115) (R.i 3)) 114 true),
    R.f (R.g 117 (.load1 (R.t 116)) 114 true),
    R.f (R.g 118 (.bin .eql .no (R.t 117) (R.i 1)) 114 true),
    R.f (R.q 119 (.pick (R.t 114) (R.t 118) R.ff)),
    R.f (R.q 120 (.mov (R.t 119))),
    R.f (R.g 121 (.mov (R.t 3)) 120 true),
    R.f (R.g 122 (.idx 1 (R.t 121) (R.i 6)) 120 true),
    R.f (R.g 123 (.load1 (R.t 122)) 120 true),
    R.f (R.g 124 (.bin .eql .no (R.t 123) (R.i 1)) 120 true),
    R.f (R.q 125 (.pick (R.t 120) (R.t 124) R.ff)),
    R.f (R.q 126 (.mov (R.t 125))),
    R.f (R.g 127 (.mov (R.t 3)) 126 true),
    R.f (R.g 128 (.idx 1 (R.t 127) (R.i 5)) 126 true),
    R.f (R.g 129 (.load1 (R.t 128)) 126 true),
    R.f (R.g 130 (.bin .eql .no (R.t 129) (R.i 1)) 126 true),
    R.f (R.g 131 (.mov (R.t 3)) 126 true),
    R.f (R.g 132 (.idx 1 (R.t 131) (R.i 2)) 126 true),
    R.f (R.g 133 (.load1 (R.t 132)) 126 true),
    R.f (R.g 134 (.mov (R.t 3)) 126 true),
    R.f (R.g 135 (.idx 1 (R.t 134) (R.i 4)) 126 true),
    R.f (R.g 136 (.load1 (R.t 135)) 126 true),
    R.f (R.g 137 (.bin .add .no (R.t 133) (R.t 136)) 126 true),
    R.f (R.g 138 (.bin .gtr .no (R.t 137) (R.i 0)) 126 true),
    R.f (R.g 139 (.bin .eql .bool (R.t 130) (R.t 138)) 126 true),
    R.f (R.q 140 (.pick (R.t 126) (R.t 139) R.ff)),
    R.s (R.q 2 (.mov (R.t 140))) []])
  .ret)))))
def r9_MayAcl.rs : List RRes := [.tmp 2]
theorem r9_MayAcl.of {xs : List AV} {d : Nat} {B : BL} {K : ARes → BL → Prop} (hn : xs.length = 1) (hB : onlyOuter B = true) (h : awp ⟨PT, 141, exitX r9_MayAcl.rs K⟩ 10000 [.code r9_MayAcl.rc] ⟨params 0 xs, B, .nil⟩) : CallAt PT r9_MayAcl xs d B K :=
  call_of_awp 10000 Try.func68 rfl (by kernel_rfl) (by kernel_rfl) (by kernel_rfl) (by rw [hn]; decide) hB h
abbrev r9_ModeAcl : Nat := 69
def r9_ModeAcl.rc : RC :=
  (.seq (.reg [R.q 2 (.mov (R.i 0))])
  (.seq (.reg [R.q 4 (.mov (R.t 0)),
    R.q 5 (.call 99 [(R.t 4), (R.i 5)]),
    R.q 3 (.mov (R.t 5))])
  (.seq (.seq (.reg [R.q 6 (.mov (R.t 3)),
    R.q 7 (.bin .lss .no (R.t 6) (R.i 0))])
  (.cond (R.t 7)
    (.reg [R.q 8 (.mov (R.t 0)),
      R.q 9 (.call 99 [(R.t 8), (R.i 3)]),
      R.q 3 (.mov (R.t 9))])
    .skip))
  (.seq (.reg [R.q 10 (.mov (R.t 0)),
    R.q 11 (.call 99 [(R.t 10), (R.i 1)]),
    R.q 12 (.bin .mul .no (R.t 11) (R.i 64)),
    R.q 13 (.mov (R.t 3)),
    R.q 14 (.bin .mul .no (R.t 13) (R.i 8)),
    R.q 15 (.bin .add .no (R.t 12) (R.t 14)),
    R.q 16 (.mov (R.t 0)),
    R.q 17 (.call 99 [(R.t 16), (R.i 6)]),
    R.q 18 (.bin .add .no (R.t 15) (R.t 17)),
    R.q 2 (.mov (R.t 18))])
  .ret))))
def r9_ModeAcl.rs : List RRes := [.tmp 2]
theorem r9_ModeAcl.of {xs : List AV} {d : Nat} {B : BL} {K : ARes → BL → Prop} (hn : xs.length = 1) (hB : onlyOuter B = true) (h : awp ⟨PT, 19, exitX r9_ModeAcl.rs K⟩ 10000 [.code r9_ModeAcl.rc] ⟨params 0 xs, B, .nil⟩) : CallAt PT r9_ModeAcl xs d B K :=
  call_of_awp 10000 Try.func69 rfl (by kernel_rfl) (by kernel_rfl) (by kernel_rfl) (by rw [hn]; decide) hB h
abbrev r9_MayCaps : Nat := 70
def r9_MayCaps.rc : RC :=
  (.seq (.reg [R.q 1 (.box (R.t 0)),
    R.q 2 (.mov R.ff)])
  (.seq (.seq (.reg [R.q 3 (.fld 0 (R.t 1)),
    R.q 4 (.load1 (R.t 3))])
  (.block 0 (.seq (.reg [R.q 6 (.bin .eql .no (R.t 4) (R.i 0)),
     R.q 5 (.mov (R.t 6))])
   (.cond (R.t 5)
     (.seq (.reg [R.q 7 (.loadA 5 (R.t 1)),
       R.q 8 (.build (.cons (R.z 0) (.cons (.int .u64 fun _ => 0) (.cons (.int .u64 fun _ => 0) (.cons .ff (.cons (R.z 0) .nil))))) []),
       R.q 9 (.bin .eql (.agg [.i .i64, .i .u64, .i .u64, .b, .i .i64]) (R.t 7) (R.t 8)),
       R.q 2 (.mov (R.t 9))])
     .ret)
     (.seq (.reg [R.q 11 (.bin .eql .no (R.t 4) (R.i 2)),
       R.q 10 (.mov (R.t 11))])
     (.cond (R.t 10)
       (.seq (.reg [R.q 12 (.fld 4 (R.t 1)),
         R.q 13 (.load1 (R.t 12)),
         R.q 14 (.bin .eql .no (R.t 13) (R.i 0)),
         R.q 2 (.mov (R.t 14))])
       .ret)
       (.seq (.reg [R.q 16 (.bin .eql .no (R.t 4) (R.i 3)),
         R.q 15 (.mov (R.t 16))])
       (.cond (R.t 15)
         (.seq (.reg [R.q 17 (.fld 4 (R.t 1)),
           R.q 18 (.load1 (R.t 17)),
           R.q 19 (.bin .geq .no (R.t 18) (R.i 0)),
           R.q 20 (.mov (R.t 19)),
           R.g 21 (.fld 4 (R.t 1)) 20 true,
           R.g 22 (.load1 (R.t 21)) 20 true,
           R.g 23 (.bin .leq .no (R.t 22) (R.i 2147483647)) 20 true,
           R.q 24 (.pick (R.t 20) (R.t 23) R.ff),
           R.q 2 (.mov (R.t 24))])
         .ret)
         .skip))))))))
  (.seq (.reg [R.q 2 (.mov R.ff)])
  .ret)))
def r9_MayCaps.rs : List RRes := [.tmp 2]
theorem r9_MayCaps.of {xs : List AV} {d : Nat} {B : BL} {K : ARes → BL → Prop} (hn : xs.length = 1) (hB : onlyOuter B = true) (h : awp ⟨PT, 25, exitX r9_MayCaps.rs K⟩ 10000 [.code r9_MayCaps.rc] ⟨params 0 xs, B, .nil⟩) : CallAt PT r9_MayCaps xs d B K :=
  call_of_awp 10000 Try.func70 rfl (by kernel_rfl) (by kernel_rfl) (by kernel_rfl) (by rw [hn]; decide) hB h
abbrev l13_Make : Nat := 71
def l13_Make.rc : RC :=
  (.seq (.reg [R.q 2 (.mov (.val .nsl))])
  (.seq (.reg [R.q 3 (.mov (.val .nsl))])
  (.seq (.seq (.reg [R.q 4 (.mov (R.i 0))])
  (.block 0 (.loop
     (.seq (.seq (.reg [R.q 8 (.mov (R.t 4)),
       R.q 9 (.bin .add .no (R.t 8) (R.i 1)),
       R.q 10 (.mov (R.t 0)),
       R.q 11 (.len (R.t 10)),
       R.q 12 (.bin .lss .no (R.t 9) (R.t 11)),
       R.q 13 (.mov (R.t 12)),
       R.g 14 (.mov (R.t 3)) 13 true,
       R.g 15 (.len (R.t 14)) 13 true,
       R.g 16 (.bin .lss .no (R.t 15) (R.i 6)) 13 true,
       R.q 17 (.pick (R.t 13) (R.t 16) R.ff)])
     (.cond (R.t 17)
       .skip
       (.exit 0)))
     (.seq (.block 1 (.seq (.regd [R.f (R.q 20 (.bslice 1 (.cons (.str fun _ => []) .nil) 5 [(0, 1, (.val (.str fun _ => [117, 115, 101, 114, 46]))), (1, 1, (.val (.str fun _ => [116, 114, 117, 115, 116, 101, 100, 46]))), (2, 1, (.val (.str fun _ => [115, 101, 99, 117, 114, 105, 116, 121, 46]))), (3, 1, (.val (.str fun _ => [120, 61]))), (4, 1, (.val (.str fun _ => [255])))])),
        R.f (R.q 21 (.mov (R.t 0))),
        R.f (R.q 22 (.mov (R.t 4))),
        R.f (R.q 23 (.idx 1 (R.t 21) (R.t 22))),
        R.f (R.q 24 (.load1 (R.t 23))),
        R.f (R.q 25 (.bin .rem .no (R.t 24) (R.u 5))),
        R.f (R.q 26 (.idx 1 (R.t 20) (R.t 25))),
        R.f (R.q 27 (.load1 (R.t 26))),
        R.f (R.q 28 (.mov (R.t 0))),
        R.f (R.q 29 (.mov (R.t 4))),
        R.f (R.q 30 (.idx 1 (R.t 28) (R.t 29))),
        R.f (R.q 31 (.load1 (R.t 30))),
        R.f (R.q 32 (.bin .quo .no (R.t 31) (R.u 5))),
        R.f (R.q 33 (.bin .rem .no (R.t 32) (R.u 20))),
        R.f (R.q 34 (.bin .add .no (R.u 97) (R.t 33))),
        R.f (R.q 35 (.mov (R.t 0))),
        R.f (R.q 36 (.mov (R.t 4))),
        R.f (R.q 37 (.bin .add .no (R.t 36) (R.i 1))),
        R.f (R.q 38 (.idx 1 (R.t 35) (R.t 37))),
        R.f (R.q 39 (.load1 (R.t 38))),
        R.f (R.q 40 (.bin .rem .no (R.t 39) (R.u 255))),
        R.f (R.q 41 (.bin .add .no (R.u 1) (R.t 40))),
        R.f (R.q 42 (.bslice 1 (.cons (.int .u8 fun _ => 0) .nil) 2 [(0, 1, (R.t 34)), (1, 1, (R.t 41))])),
        R.f (R.q 43 (.b2s (R.t 42))),
        R.f (R.q 44 (.bin .add .no (R.t 27) (R.t 43))),
        R.s (R.q 5 (.mov (R.t 44))) []])
      (.seq (.reg [R.q 45 (.mov (R.t 0)),
        R.q 46 (.mov (R.t 4)),
        R.q 47 (.bin .add .no (R.t 46) (R.i 1)),
        R.q 48 (.idx 1 (R.t 45) (R.t 47)),
        R.q 49 (.load1 (R.t 48)),
        R.q 50 (.conv .i64 (R.t 49)),
        R.q 51 (.bin .rem .no (R.t 50) (R.i 20)),
        R.q 52 (.mks 1 1 (.cons (.int .u8 fun _ => 0) .nil) (R.t 51) (R.t 51)),
        R.q 6 (.mov (R.t 52))])
      (.seq (.seq (.reg [R.q 7 (.mov (R.i 0))])
      (.block 2 (.loop
         (.seq (.seq (.reg [R.q 53 (.mov (R.t 7)),
           R.q 54 (.mov (R.t 6)),
           R.q 55 (.len (R.t 54)),
           R.q 56 (.bin .lss .no (R.t 53) (R.t 55))])
         (.cond (R.t 56)
           .skip
           (.exit 2)))
         (.seq (.block 3 (.reg [R.q 59 (.mov (R.t 6)),
            R.q 60 (.mov (R.t 7)),
            R.q 61 (.mov (R.t 0)),
            R.q 62 (.mov (R.t 4)),
            R.q 63 (.idx 1 (R.t 61) (R.t 62)),
            R.q 64 (.load1 (R.t 63)),
            R.q 65 (.mov (R.t 7)),
            R.q 66 (.bin .add .no (R.t 65) (R.i 1)),
            R.q 67 (.conv .u8 (R.t 66)),
            R.q 68 (.bin .mul .no (R.t 64) (R.t 67)),
            R.q 69 (.idx 1 (R.t 59) (R.t 60)),
            R.e (.store 1 (R.t 69) (R.t 68))]))
         (.reg [R.q 57 (.mov (R.t 7)),
           R.q 58 (.bin .add .no (R.t 57) (R.i 1)),
           R.q 7 (.mov (R.t 58))]))))))
      (.reg [R.q 70 (.mov (R.t 3)),
        R.q 71 (.mov (R.t 5)),
        R.q 72 (.mov (R.t 6)),
        R.q 73 (.b2s (R.t 72)),
        R.q 74 (.build (.cons (.str fun _ => []) (.cons (.str fun _ => []) .nil)) [(0, 1, (R.t 71)), (1, 1, (R.t 73))]),
        R.q 75 (.call 108 [(R.t 70), (R.t 74)]),
        R.q 3 (.mov (R.t 75))])))))
     (.reg [R.q 18 (.mov (R.t 4)),
       R.q 19 (.bin .add .no (R.t 18) (R.i 2)),
       R.q 4 (.mov (R.t 19))]))))))
  (.seq (.reg [R.q 76 (.mov (R.t 3)),
    R.q 2 (.mov (R.t 76))])
  .ret))))
def l13_Make.rs : List RRes := [.tmp 2]
theorem l13_Make.of {xs : List AV} {d : Nat} {B : BL} {K : ARes → BL → Prop} (hn : xs.length = 1) (hB : onlyOuter B = true) (h : awp ⟨PT, 77, exitX l13_Make.rs K⟩ 10000 [.code l13_Make.rc] ⟨params 0 xs, B, .nil⟩) : CallAt PT l13_Make xs d B K :=
  call_of_awp 10000 Try.func71 rfl (by kernel_rfl) (by kernel_rfl) (by kernel_rfl) (by rw [hn]; decide) hB h
abbrev l11_Make : Nat := 72
def l11_Make.rc : RC :=
  (.seq (.reg [R.q 8 (.alloc (.cons (R.z 0) (.cons (.int .u64 fun _ => 0) (.cons (.int .u64 fun _ => 0) (.cons .ff (.cons (R.z 0) .nil))))))])
  (.seq (.reg [R.q 10 (.mov (R.t 2)),
    R.q 11 (.conv .i64 (R.t 10)),
    R.q 12 (.bin .rem .no (R.t 11) (R.i 2)),
    R.q 13 (.bin .add .no (R.i 2) (R.t 12)),
    R.q 14 (.mov (R.t 0)),
    R.q 15 (.mov (R.t 1)),
    R.q 16 (.mov (R.t 2)),
    R.q 17 (.bin .geq .no (R.t 16) (R.u 128)),
    R.q 18 (.build (.cons (R.z 0) (.cons (.int .u64 fun _ => 0) (.cons (.int .u64 fun _ => 0) (.cons .ff (.cons (R.z 0) .nil))))) [(0, 1, (R.t 13)), (1, 1, (R.t 14)), (2, 1, (R.t 15)), (3, 1, (R.t 17))]),
    R.q 9 (.alloc (.cons (R.z 0) (.cons (.int .u64 fun _ => 0) (.cons (.int .u64 fun _ => 0) (.cons .ff (.cons (R.z 0) .nil)))))),
    R.e (.store 5 (R.t 9) (R.t 18))])
  (.seq (.seq (.reg [R.q 19 (.fld 0 (R.t 9)),
    R.q 20 (.load1 (R.t 19)),
    R.q 21 (.bin .eql .no (R.t 20) (R.i 3))])
  (.cond (R.t 21)
    (.reg [R.q 22 (.mov (R.t 3)),
      R.q 23 (.conv .i64 (R.t 22)),
      R.q 24 (.bin .shr .no (R.t 23) (.val (.int .u64 fun _ => 1))),
      R.q 25 (.fld 4 (R.t 9)),
      R.e (.store 1 (R.t 25) (R.t 24))])
    .skip))
  (.seq (.reg [R.q 26 (.loadA 5 (R.t 9)),
    R.e (.store 5 (R.t 8) (R.t 26))])
  .ret))))
def l11_Make.rs : List RRes := [.cellA 8 5]
theorem l11_Make.of {xs : List AV} {d : Nat} {B : BL} {K : ARes → BL → Prop} (hn : xs.length = 4) (hB : onlyOuter B = true) (h : awp ⟨PT, 27, exitX l11_Make.rs K⟩ 10000 [.code l11_Make.rc] ⟨params 0 xs, B, .nil⟩) : CallAt PT l11_Make xs d B K :=
  call_of_awp 10000 Try.func72 rfl (by kernel_rfl) (by kernel_rfl) (by kernel_rfl) (by rw [hn]; decide) hB h
abbrev l9_add : Nat := 73
def l9_add.rc : RC :=
  (.seq (.reg [R.q 3 (.box (R.t 1)),
    R.q 4 (.mov (.val .nsl))])
  (.seq (.reg [R.q 5 (.mov (R.i 0))])
  (.seq (.block 0 (.loop
     (.seq (.seq (.regd [R.f (R.q 7 (.mov (R.t 5))),
       R.f (R.q 8 (.mov (R.t 0))),
       R.f (R.q 9 (.len (R.t 8))),
       R.f (R.q 10 (.bin .lss .no (R.t 7) (R.t 9))),
       R.f (R.q 11 (.mov (R.t 10))),
       R.f (R.g 12 (.mov (R.t 0)) 11 true),
       R.f (R.g 13 (.mov (R.t 5)) 11 true),
       R.f (R.g 14 (.idx 3 (R.t 12) (R.t 13)) 11 true),
       R.f (R.g 15 (.fld 1 (R.t 14)) 11 true),
       R.f (R.g 16 (.load1 (R.t 15)) 11 true),
       R.f (R.g 17 (.fld 1 (R.t 3)) 11 true),
       R.f (R.g 18 (.load1 (R.t 17)) 11 true),
       R.f (R.g 19 (.bin .lss .no (R.t 16) (R.t 18)) 11 true),
       R.f (R.q 20 (.pick (R.t 11) (R.t 19) R.ff))])
     (.cond (R.t 20)
       .skip
       (.exit 0)))
     (.block 1 (.reg [R.q 21 (.mov (R.t 5)),
        R.q 22 (.bin .add .no (R.t 21) (R.i 1)),
        R.q 5 (.mov (R.t 22))])))))
  (.seq (.reg [R.q 23 (.bslice 3 (.cons (R.z 0) (.cons (R.z 0) (.cons (R.z 0) .nil))) 0 []),
    R.q 24 (.mov (R.t 0)),
    R.q 25 (.mov (R.t 5)),
    R.q 26 (.slice 3 (R.t 24) (some (R.t 25)) none),
    R.q 27 (.append 3 24 (R.t 23) (R.t 26)),
    R.q 6 (.mov (R.t 27))])
  (.seq (.seq (.regd [R.f (R.q 28 (.mov (R.t 6))),
    R.f (R.q 29 (.len (R.t 28))),
    R.f (R.q 30 (.bin .gtr .no (R.t 29) (R.i 0))),
    R.f (R.q 31 (.mov (R.t 30))),
    R.f (R.g 32 (.mov (R.t 6)) 31 true),
    R.f (R.g 33 (.idx 3 (R.t 32) (R.i 0)) 31 true),
    R.f (R.g 34 (.fld 1 (R.t 33)) 31 true),
    R.f (R.g 35 (.load1 (R.t 34)) 31 true),
    R.f (R.g 36 (.fld 1 (R.t 3)) 31 true),
    R.f (R.g 37 (.load1 (R.t 36)) 31 true),
    R.f (R.g 38 (.bin .eql .no (R.t 35) (R.t 37)) 31 true),
    R.f (R.q 39 (.pick (R.t 31) (R.t 38) R.ff))])
  (.cond (R.t 39)
    (.reg [R.q 40 (.mov (R.t 6)),
      R.q 41 (.slice 3 (R.t 40) (some (R.i 1)) none),
      R.q 6 (.mov (R.t 41))])
    .skip))
  (.seq (.regd [R.f (R.q 42 (.bslice 3 (.cons (R.z 0) (.cons (R.z 0) (.cons (R.z 0) .nil))) 0 [])),
    R.f (R.q 43 (.mov (R.t 0))),
    R.f (R.q 44 (.mov (R.t 5))),
    R.f (R.q 45 (.slice 3 (R.t 43) none (some (R.t 44)))),
    R.f (R.q 47 (.loadA 3 (R.t 3))),
    R.f (R.q 48 (.bslice 3 (.cons (R.z 0) (.cons (R.z 0) (.cons (R.z 0) .nil))) 1 [(0, 3, (R.t 47))])),
    R.f (R.q 50 (.mov (R.t 6))),
    R.s (R.q 46 (.append 3 24 (R.t 42) (R.t 45))) [4, 5, 6],
    R.s (R.q 49 (.append 3 24 (R.t 46) (R.t 48))) [6],
    R.s (R.q 51 (.append 3 24 (R.t 49) (R.t 50))) [],
    R.s (R.q 4 (.mov (R.t 51))) []])
  .ret))))))
def l9_add.rs : List RRes := [.tmp 4]
theorem l9_add.of {xs : List AV} {d : Nat} {B : BL} {K : ARes → BL → Prop} (hn : xs.length = 2) (hB : onlyOuter B = true) (h : awp ⟨PT, 52, exitX l9_add.rs K⟩ 10000 [.code l9_add.rc] ⟨params 0 xs, B, .nil⟩) : CallAt PT l9_add xs d B K :=
  call_of_awp 10000 Try.func73 rfl (by kernel_rfl) (by kernel_rfl) (by kernel_rfl) (by rw [hn]; decide) hB h
abbrev right_look_int : Nat := 94
def right_look_int.rc : RC :=
  (.seq (.reg [R.q 2 (.alloc (.cons (R.z 0) .nil))])
  (.seq (.reg [R.q 3 (.mkfn (.func 122) [] [(R.t 2)]),
    R.e (.defer (R.t 3) [])])
  (.seq (.reg [R.q 4 (.mov (R.t 0)),
    R.q 5 (.callv (R.t 4) []),
    R.e (.store 1 (R.t 2) (R.t 5))])
  .ret)))
def right_look_int.rs : List RRes := [.cell1 2]
theorem right_look_int.of {xs : List AV} {d : Nat} {B : BL} {K : ARes → BL → Prop} (hn : xs.length = 1) (hB : onlyOuter B = true) (h : awp ⟨PT, 6, exitD PT right_look_int.rs K⟩ 10000 [.code right_look_int.rc] ⟨params 0 xs, B, .nil⟩) : CallAt PT right_look_int xs d B K :=
  call_of_awp_d 10000 Try.func94 rfl (by kernel_rfl) (by kernel_rfl) (by kernel_rfl) (by rw [hn]; decide) hB h
abbrev right_Less_1 : Nat := 95
def right_Less_1.rc : RC :=
  (.seq (.reg [R.q 1 (.mov (R.i 0))])
  (.seq (.reg [R.q 8 (.loadA 14 (R.t 0)),
    R.q 9 (.call 96 [(R.t 8)]),
    R.q 2 (.mov (R.t 9))])
  (.seq (.reg [R.q 10 (.mov (R.t 2)),
    R.q 11 (.call 97 [(R.t 10)]),
    R.q 3 (.mov (R.t 11))])
  (.seq (.reg [R.q 12 (.mov (R.t 2)),
    R.q 13 (.call 98 [(R.t 12), (R.i 3)]),
    R.q 14 (.mov (R.t 3)),
    R.q 15 (.bin .and .no (R.t 13) (R.t 14)),
    R.q 16 (.mov (R.t 2)),
    R.q 17 (.call 98 [(R.t 16), (R.i 6)]),
    R.q 4 (.mov (R.t 15)),
    R.q 5 (.mov (R.t 17))])
  (.seq (.seq (.reg [R.q 18 (.mov (R.t 2)),
    R.q 19 (.len (R.t 18)),
    R.q 20 (.mov (R.i 0))])
  (.block 0 (.loop
     (.seq (.reg [R.q 21 (.bin .lss .no (R.t 20) (R.t 19))])
     (.seq (.cond (R.t 21)
       .skip
       (.exit 0))
     (.seq (.block 1 (.seq (.reg [R.q 22 (.idx 3 (R.t 18) (R.t 20)),
        R.q 23 (.loadA 3 (R.t 22)),
        R.q 7 (.alloc (.cons (R.z 0) (.cons (R.z 0) (.cons (R.z 0) .nil)))),
        R.e (.store 3 (R.t 7) (R.t 23))])
      (.seq (.reg [R.q 24 (.fld 0 (R.t 7)),
        R.q 25 (.load1 (R.t 24))])
      (.block 2 (.seq (.reg [R.q 27 (.bin .eql .no (R.t 25) (R.i 2)),
         R.q 26 (.mov (R.t 27))])
       (.cond (R.t 26)
         (.seq (.reg [R.q 28 (.mov (R.t 4)),
           R.q 29 (.fld 2 (R.t 7)),
           R.q 30 (.load1 (R.t 29)),
           R.q 31 (.mov (R.t 3)),
           R.q 32 (.bin .and .no (R.t 30) (R.t 31)),
           R.q 33 (.bin .and .no (R.t 28) (R.t 32)),
           R.q 4 (.mov (R.t 33))])
         (.reg [R.q 34 (.mov (R.t 5)),
           R.q 35 (.fld 2 (R.t 7)),
           R.q 36 (.load1 (R.t 35)),
           R.q 37 (.mov (R.t 3)),
           R.q 38 (.bin .and .no (R.t 36) (R.t 37)),
           R.q 39 (.bin .and .no (R.t 34) (R.t 38)),
           R.q 5 (.mov (R.t 39))]))
         (.seq (.reg [R.q 41 (.bin .eql .no (R.t 25) (R.i 4)),
           R.q 40 (.mov (R.t 41))])
         (.cond (R.t 40)
           (.reg [R.q 42 (.mov (R.t 5)),
             R.q 43 (.fld 2 (R.t 7)),
             R.q 44 (.load1 (R.t 43)),
             R.q 45 (.mov (R.t 3)),
             R.q 46 (.bin .and .no (R.t 44) (R.t 45)),
             R.q 47 (.bin .and .no (R.t 42) (R.t 46)),
             R.q 5 (.mov (R.t 47))])
           .skip))))))))
     (.reg [R.q 48 (.bin .add .no (R.t 20) (R.i 1)),
       R.q 20 (.mov (R.t 48))])))))))
  (.seq (.reg [R.q 49 (.mov (R.t 2)),
    R.q 50 (.call 98 [(R.t 49), (R.i 1)]),
    R.q 51 (.bin .shl .no (R.t 50) (.val (.int .u64 fun _ => 6))),
    R.q 52 (.mov (R.t 4)),
    R.q 53 (.bin .shl .no (R.t 52) (.val (.int .u64 fun _ => 3))),
    R.q 54 (.bin .or .no (R.t 51) (R.t 53)),
    R.q 55 (.mov (R.t 5)),
    R.q 56 (.bin .or .no (R.t 54) (R.t 55)),
    R.q 1 (.mov (R.t 56))])
  .ret))))))
def right_Less_1.rs : List RRes := [.tmp 1]
theorem right_Less_1.of {xs : List AV} {d : Nat} {B : BL} {K : ARes → BL → Prop} (hn : xs.length = 1) (hB : onlyOuter B = true) (h : awp ⟨PT, 57, exitX right_Less_1.rs K⟩ 10000 [.code right_Less_1.rc] ⟨params 0 xs, B, .nil⟩) : CallAt PT right_Less_1 xs d B K :=
  call_of_awp 10000 Try.func95 rfl (by kernel_rfl) (by kernel_rfl) (by kernel_rfl) (by rw [hn]; decide) hB h
abbrev right_of : Nat := 96
def right_of.rc : RC :=
  (.seq (.reg [R.q 1 (.box (R.t 0)),
    R.q 2 (.mov (.val .nsl))])
  (.seq (.seq (.reg [R.q 3 (.fld 5 (R.t 1)),
    R.q 4 (.load1 (R.t 3)),
    R.q 5 (.len (R.t 4)),
    R.q 6 (.bin .gtr .no (R.t 5) (R.i 0))])
  (.cond (R.t 6)
    (.seq (.reg [R.q 7 (.fld 5 (R.t 1)),
      R.q 8 (.load1 (R.t 7)),
      R.q 2 (.mov (R.t 8))])
    .ret)
    .skip))
  (.seq (.reg [R.q 9 (.fld 0 (R.t 1)),
    R.q 10 (.load1 (R.t 9)),
    R.q 11 (.call 123 [(R.t 10)]),
    R.q 2 (.mov (R.t 11))])
  .ret)))
def right_of.rs : List RRes := [.tmp 2]
theorem right_of.of {xs : List AV} {d : Nat} {B : BL} {K : ARes → BL → Prop} (hn : xs.length = 1) (hB : onlyOuter B = true) (h : awp ⟨PT, 12, exitX right_of.rs K⟩ 10000 [.code right_of.rc] ⟨params 0 xs, B, .nil⟩) : CallAt PT right_of xs d B K :=
  call_of_awp 10000 Try.func96 rfl (by kernel_rfl) (by kernel_rfl) (by kernel_rfl) (by rw [hn]; decide) hB h
abbrev right_list_mask : Nat := 97
def right_list_mask.rc : RC :=
  (.seq (.reg [R.q 2 (.mov (R.i 0))])
  (.seq (.seq (.reg [R.q 3 (.mov (R.t 0)),
    R.q 4 (.call 124 [(R.t 3), (.val (.fn (.func 125) .nil .nil))])])
  (.cond (R.t 4)
    (.seq (.reg [R.q 5 (.mov (R.t 0)),
      R.q 6 (.call 98 [(R.t 5), (R.i 5)]),
      R.q 2 (.mov (R.t 6))])
    .ret)
    .skip))
  (.seq (.reg [R.q 2 (.mov (R.i 7))])
  .ret)))
def right_list_mask.rs : List RRes := [.tmp 2]
theorem right_list_mask.of {xs : List AV} {d : Nat} {B : BL} {K : ARes → BL → Prop} (hn : xs.length = 1) (hB : onlyOuter B = true) (h : awp ⟨PT, 7, exitX right_list_mask.rs K⟩ 10000 [.code right_list_mask.rc] ⟨params 0 xs, B, .nil⟩) : CallAt PT right_list_mask xs d B K :=
  call_of_awp 10000 Try.func97 rfl (by kernel_rfl) (by kernel_rfl) (by kernel_rfl) (by rw [hn]; decide) hB h
abbrev right_list_perm : Nat := 98
def right_list_perm.rc : RC :=
  (.seq (.reg [R.q 3 (.box (R.t 1)),
    R.q 4 (.mov (R.i 0))])
  (.seq (.reg [R.q 6 (.mov (R.t 0)),
    R.q 7 (.mkfn (.func 127) [] [(R.t 3)]),
    R.q 8 (.call 126 [(R.t 6), (R.t 7)]),
    R.q 5 (.mov (R.t 8))])
  (.seq (.seq (.reg [R.q 9 (.mov (R.t 5)),
    R.q 10 (.bin .lss .no (R.t 9) (R.i 0))])
  (.cond (R.t 10)
    (.reg [R.q 11 (.load1 (R.t 3)),
      R.q 12 (.build (.cons (R.z 0) .nil) [(0, 1, (R.t 11))]),
      R.q 13 (.mkif 138 (R.t 12)),
      R.e (.panic (R.t 13))])
    .skip))
  (.seq (.reg [R.q 14 (.mov (R.t 0)),
    R.q 15 (.mov (R.t 5)),
    R.q 16 (.idx 3 (R.t 14) (R.t 15)),
    R.q 17 (.fld 2 (R.t 16)),
    R.q 18 (.load1 (R.t 17)),
    R.q 4 (.mov (R.t 18))])
  .ret))))
def right_list_perm.rs : List RRes := [.tmp 4]
theorem right_list_perm.of {xs : List AV} {d : Nat} {B : BL} {K : ARes → BL → Prop} (hn : xs.length = 2) (hB : onlyOuter B = true) (h : awp ⟨PT, 19, exitX right_list_perm.rs K⟩ 10000 [.code right_list_perm.rc] ⟨params 0 xs, B, .nil⟩) : CallAt PT right_list_perm xs d B K :=
  call_of_awp 10000 Try.func98 rfl (by kernel_rfl) (by kernel_rfl) (by kernel_rfl) (by rw [hn]; decide) hB h
abbrev r9_Perm : Nat := 99
def r9_Perm.rc : RC :=
  (.seq (.reg [R.q 4 (.mov (R.i 0))])
  (.seq (.seq (.reg [R.q 5 (.mov (R.i 0))])
  (.block 0 (.loop
     (.seq (.seq (.reg [R.q 6 (.mov (R.t 5)),
       R.q 7 (.mov (R.t 0)),
       R.q 8 (.len (R.t 7)),
       R.q 9 (.bin .lss .no (R.t 6) (R.t 8))])
     (.cond (R.t 9)
       .skip
       (.exit 0)))
     (.seq (.block 1 (.seq (.reg [R.q 12 (.mov (R.t 0)),
        R.q 13 (.mov (R.t 5)),
        R.q 14 (.idx 3 (R.t 12) (R.t 13)),
        R.q 15 (.fld 0 (R.t 14)),
        R.q 16 (.load1 (R.t 15)),
        R.q 17 (.mov (R.t 1)),
        R.q 18 (.bin .eql .no (R.t 16) (R.t 17))])
      (.cond (R.t 18)
        (.seq (.reg [R.q 19 (.mov (R.t 0)),
          R.q 20 (.mov (R.t 5)),
          R.q 21 (.idx 3 (R.t 19) (R.t 20)),
          R.q 22 (.fld 2 (R.t 21)),
          R.q 23 (.load1 (R.t 22)),
          R.q 4 (.mov (R.t 23))])
        .ret)
        .skip)))
     (.reg [R.q 10 (.mov (R.t 5)),
       R.q 11 (.bin .add .no (R.t 10) (R.i 1)),
       R.q 5 (.mov (R.t 11))]))))))
  (.seq (.reg [R.q 4 (.mov (R.i (-1)))])
  .ret)))
def r9_Perm.rs : List RRes := [.tmp 4]
theorem r9_Perm.of {xs : List AV} {d : Nat} {B : BL} {K : ARes → BL → Prop} (hn : xs.length = 2) (hB : onlyOuter B = true) (h : awp ⟨PT, 24, exitX r9_Perm.rs K⟩ 10000 [.code r9_Perm.rc] ⟨params 0 xs, B, .nil⟩) : CallAt PT r9_Perm xs d B K :=
  call_of_awp 10000 Try.func99 rfl (by kernel_rfl) (by kernel_rfl) (by kernel_rfl) (by rw [hn]; decide) hB h
abbrev internal_stringslite_HasPrefix : Nat := 100
def internal_stringslite_HasPrefix.rc : RC :=
  (.seq (.reg [R.q 4 (.mov R.ff)])
  (.seq (.reg [R.q 5 (.mov (R.t 0)),
    R.q 6 (.lenS (R.t 5)),
    R.q 7 (.mov (R.t 1)),
    R.q 8 (.lenS (R.t 7)),
    R.q 9 (.bin .geq .no (R.t 6) (R.t 8)),
    R.q 10 (.mov (R.t 9)),
    R.g 11 (.mov (R.t 0)) 10 true,
    R.g 12 (.mov (R.t 1)) 10 true,
    R.g 13 (.lenS (R.t 12)) 10 true,
    R.g 14 (.sliceS (R.t 11) none (some (R.t 13))) 10 true,
    R.g 15 (.mov (R.t 1)) 10 true,
    R.g 16 (.bin .eql .no (R.t 14) (R.t 15)) 10 true,
    R.q 17 (.pick (R.t 10) (R.t 16) R.ff),
    R.q 4 (.mov (R.t 17))])
  .ret))
def internal_stringslite_HasPrefix.rs : List RRes := [.tmp 4]
theorem internal_stringslite_HasPrefix.of {xs : List AV} {d : Nat} {B : BL} {K : ARes → BL → Prop} (hn : xs.length = 2) (hB : onlyOuter B = true) (h : awp ⟨PT, 18, exitX internal_stringslite_HasPrefix.rs K⟩ 10000 [.code internal_stringslite_HasPrefix.rc] ⟨params 0 xs, B, .nil⟩) : CallAt PT internal_stringslite_HasPrefix xs d B K :=
  call_of_awp 10000 Try.func100 rfl (by kernel_rfl) (by kernel_rfl) (by kernel_rfl) (by rw [hn]; decide) hB h
abbrev right_In : Nat := 103
def right_In.rc : RC :=
  (.seq (.reg [R.q 2 (.box (R.t 0)),
    R.q 4 (.mov R.ff)])
  (.seq (.reg [R.q 5 (.fld 1 (R.t 2)),
    R.q 6 (.load1 (R.t 5)),
    R.q 7 (.mov (R.t 1)),
    R.q 8 (.bin .eql .no (R.t 6) (R.t 7)),
    R.q 9 (.mov (R.t 8)),
    R.g 10 (.fld 2 (R.t 2)) 9 false,
    R.g 11 (.load1 (R.t 10)) 9 false,
    R.g 12 (.mov (R.t 1)) 9 false,
    R.g 13 (.call 128 [(R.t 11), (R.t 12)]) 9 false,
    R.q 14 (.pick (R.t 9) R.tt (R.t 13)),
    R.q 4 (.mov (R.t 14))])
  .ret))
def right_In.rs : List RRes := [.tmp 4]
theorem right_In.of {xs : List AV} {d : Nat} {B : BL} {K : ARes → BL → Prop} (hn : xs.length = 2) (hB : onlyOuter B = true) (h : awp ⟨PT, 15, exitX right_In.rs K⟩ 10000 [.code right_In.rc] ⟨params 0 xs, B, .nil⟩) : CallAt PT right_In xs d B K :=
  call_of_awp 10000 Try.func103 rfl (by kernel_rfl) (by kernel_rfl) (by kernel_rfl) (by rw [hn]; decide) hB h
abbrev l15_name : Nat := 104
def l15_name.rc : RC :=
  (.seq (.reg [R.q 2 (.mov (.val (.str fun _ => [])))])
  (.seq (.reg [R.q 6 (.bslice 1 (.cons (.str fun _ => []) .nil) 8 [(0, 1, (.val (.str fun _ => [97]))), (1, 1, (.val (.str fun _ => [98]))), (2, 1, (.val (.str fun _ => [100, 105, 114]))), (3, 1, (.val (.str fun _ => [120, 32, 121]))), (4, 1, (.val (.str fun _ => [255]))), (5, 1, (.val (.str fun _ => [108, 111, 110, 103]))), (6, 1, (.val (.str fun _ => [195, 164]))), (7, 1, (.val (.str fun _ => [99])))]),
    R.q 3 (.mov (R.t 6))])
  (.seq (.reg [R.q 7 (.mov (R.t 3)),
    R.q 8 (.mov (R.t 0)),
    R.q 9 (.bin .rem .no (R.t 8) (R.u 8)),
    R.q 10 (.idx 1 (R.t 7) (R.t 9)),
    R.q 11 (.load1 (R.t 10)),
    R.q 4 (.mov (R.t 11))])
  (.seq (.seq (.reg [R.q 12 (.mov (R.t 0)),
    R.q 13 (.bin .geq .no (R.t 12) (R.u 200))])
  (.cond (R.t 13)
    (.seq (.reg [R.q 5 (.mov (R.i 0))])
    (.block 0 (.loop
       (.seq (.seq (.reg [R.q 14 (.mov (R.t 5)),
         R.q 15 (.mov (R.t 0)),
         R.q 16 (.conv .i64 (R.t 15)),
         R.q 17 (.bin .sub .no (R.t 16) (R.i 190)),
         R.q 18 (.bin .lss .no (R.t 14) (R.t 17))])
       (.cond (R.t 18)
         .skip
         (.exit 0)))
       (.seq (.block 1 (.reg [R.q 21 (.mov (R.t 4)),
          R.q 22 (.bin .add .no (R.t 21) (.val (.str fun _ => [122]))),
          R.q 4 (.mov (R.t 22))]))
       (.reg [R.q 19 (.mov (R.t 5)),
         R.q 20 (.bin .add .no (R.t 19) (R.i 1)),
         R.q 5 (.mov (R.t 20))]))))))
    .skip))
  (.seq (.reg [R.q 23 (.mov (R.t 4)),
    R.q 2 (.mov (R.t 23))])
  .ret)))))
def l15_name.rs : List RRes := [.tmp 2]
theorem l15_name.of {xs : List AV} {d : Nat} {B : BL} {K : ARes → BL → Prop} (hn : xs.length = 1) (hB : onlyOuter B = true) (h : awp ⟨PT, 24, exitX l15_name.rs K⟩ 10000 [.code l15_name.rc] ⟨params 0 xs, B, .nil⟩) : CallAt PT l15_name xs d B K :=
  call_of_awp 10000 Try.func104 rfl (by kernel_rfl) (by kernel_rfl) (by kernel_rfl) (by rw [hn]; decide) hB h
abbrev r9_hasAny : Nat := 105
def r9_hasAny.rc : RC :=
  (.seq (.reg [R.q 4 (.mov R.ff)])
  (.seq (.seq (.reg [R.q 5 (.mov (R.i 0))])
  (.block 0 (.loop
     (.seq (.seq (.reg [R.q 7 (.mov (R.t 5)),
       R.q 8 (.mov (R.t 0)),
       R.q 9 (.lenS (R.t 8)),
       R.q 10 (.bin .lss .no (R.t 7) (R.t 9))])
     (.cond (R.t 10)
       .skip
       (.exit 0)))
     (.seq (.block 1 (.seq (.reg [R.q 6 (.mov (R.i 0))])
      (.block 2 (.loop
         (.seq (.seq (.reg [R.q 13 (.mov (R.t 6)),
           R.q 14 (.mov (R.t 1)),
           R.q 15 (.lenS (R.t 14)),
           R.q 16 (.bin .lss .no (R.t 13) (R.t 15))])
         (.cond (R.t 16)
           .skip
           (.exit 2)))
         (.seq (.block 3 (.seq (.regd [R.f (R.q 19 (.mov (R.t 0))),
            R.f (R.q 20 (.mov (R.t 5))),
            R.f (R.q 21 (.idxS (R.t 19) (R.t 20))),
            R.f (R.q 22 (.mov (R.t 1))),
            R.f (R.q 23 (.mov (R.t 6))),
            R.f (R.q 24 (.idxS (R.t 22) (R.t 23))),
            R.f (R.q 25 (.bin .eql .no (R.t 21) (R.t 24)))])
          (.cond (R.t 25)
            (.seq (.reg [R.q 4 (.mov R.tt)])
            .ret)
            .skip)))
         (.reg [R.q 17 (.mov (R.t 6)),
           R.q 18 (.bin .add .no (R.t 17) (R.i 1)),
           R.q 6 (.mov (R.t 18))])))))))
     (.reg [R.q 11 (.mov (R.t 5)),
       R.q 12 (.bin .add .no (R.t 11) (R.i 1)),
       R.q 5 (.mov (R.t 12))]))))))
  (.seq (.reg [R.q 4 (.mov R.ff)])
  .ret)))
def r9_hasAny.rs : List RRes := [.tmp 4]
theorem r9_hasAny.of {xs : List AV} {d : Nat} {B : BL} {K : ARes → BL → Prop} (hn : xs.length = 2) (hB : onlyOuter B = true) (h : awp ⟨PT, 26, exitX r9_hasAny.rs K⟩ 10000 [.code r9_hasAny.rc] ⟨params 0 xs, B, .nil⟩) : CallAt PT r9_hasAny xs d B K :=
  call_of_awp 10000 Try.func105 rfl (by kernel_rfl) (by kernel_rfl) (by kernel_rfl) (by rw [hn]; decide) hB h
abbrev r1_Escape : Nat := 106
def r1_Escape.rc : RC :=
  (.seq (.reg [R.q 2 (.mov (.val (.str fun _ => [])))])
  (.seq (.reg [R.q 3 (.mov (.val .nsl))])
  (.seq (.reg [R.q 4 (.mov (.val (.str fun _ => [48, 49, 50, 51, 52, 53, 54, 55, 56, 57, 65, 66, 67, 68, 69, 70])))])
  (.seq (.seq (.reg [R.q 5 (.mov (R.i 0))])
  (.block 0 (.loop
     (.seq (.seq (.reg [R.q 6 (.mov (R.t 5)),
       R.q 7 (.mov (R.t 0)),
       R.q 8 (.lenS (R.t 7)),
       R.q 9 (.bin .lss .no (R.t 6) (R.t 8))])
     (.cond (R.t 9)
       .skip
       (.exit 0)))
     (.seq (.block 1 (.seq (.reg [R.q 12 (.mov (R.t 0)),
        R.q 13 (.mov (R.t 5)),
        R.q 14 (.idxS (R.t 12) (R.t 13)),
        R.q 15 (.bin .lss .no (R.t 14) (R.u 33)),
        R.q 16 (.mov (R.t 15)),
        R.g 17 (.mov (R.t 0)) 16 false,
        R.g 18 (.mov (R.t 5)) 16 false,
        R.g 19 (.idxS (R.t 17) (R.t 18)) 16 false,
        R.g 20 (.bin .gtr .no (R.t 19) (R.u 126)) 16 false,
        R.q 21 (.pick (R.t 16) R.tt (R.t 20)),
        R.q 22 (.mov (R.t 21)),
        R.g 23 (.mov (R.t 0)) 22 false,
        R.g 24 (.mov (R.t 5)) 22 false,
        R.g 25 (.idxS (R.t 23) (R.t 24)) 22 false,
        R.g 26 (.bin .eql .no (R.t 25) (R.u 37)) 22 false,
        R.q 27 (.pick (R.t 22) R.tt (R.t 26)),
        R.q 28 (.mov (R.t 27)),
        R.g 29 (.mov (R.t 0)) 28 false,
        R.g 30 (.mov (R.t 5)) 28 false,
        R.g 31 (.idxS (R.t 29) (R.t 30)) 28 false,
        R.g 32 (.bin .eql .no (R.t 31) (R.u 61)) 28 false,
        R.q 33 (.pick (R.t 28) R.tt (R.t 32))])
      (.cond (R.t 33)
        (.regd [R.f (R.q 34 (.mov (R.t 3))),
          R.f (R.q 35 (.mov (R.t 4))),
          R.f (R.q 36 (.mov (R.t 0))),
          R.f (R.q 37 (.mov (R.t 5))),
          R.f (R.q 38 (.idxS (R.t 36) (R.t 37))),
          R.f (R.q 39 (.bin .shr .no (R.t 38) (.val (.int .u64 fun _ => 4)))),
          R.f (R.q 40 (.idxS (R.t 35) (R.t 39))),
          R.f (R.q 41 (.mov (R.t 4))),
          R.f (R.q 42 (.mov (R.t 0))),
          R.f (R.q 43 (.mov (R.t 5))),
          R.f (R.q 44 (.idxS (R.t 42) (R.t 43))),
          R.f (R.q 45 (.bin .and .no (R.t 44) (R.u 15))),
          R.f (R.q 46 (.idxS (R.t 41) (R.t 45))),
          R.f (R.q 47 (.bslice 1 (.cons (.int .u8 fun _ => 0) .nil) 3 [(0, 1, (R.u 37)), (1, 1, (R.t 40)), (2, 1, (R.t 46))])),
          R.s (R.q 48 (.append 1 1 (R.t 34) (R.t 47))) [],
          R.s (R.q 3 (.mov (R.t 48))) []])
        (.reg [R.q 49 (.mov (R.t 3)),
          R.q 50 (.mov (R.t 0)),
          R.q 51 (.mov (R.t 5)),
          R.q 52 (.idxS (R.t 50) (R.t 51)),
          R.q 53 (.bslice 1 (.cons (.int .u8 fun _ => 0) .nil) 1 [(0, 1, (R.t 52))]),
          R.q 54 (.append 1 1 (R.t 49) (R.t 53)),
          R.q 3 (.mov (R.t 54))]))))
     (.reg [R.q 10 (.mov (R.t 5)),
       R.q 11 (.bin .add .no (R.t 10) (R.i 1)),
       R.q 5 (.mov (R.t 11))]))))))
  (.seq (.reg [R.q 55 (.mov (R.t 3)),
    R.q 56 (.b2s (R.t 55)),
    R.q 2 (.mov (R.t 56))])
  .ret)))))
def r1_Escape.rs : List RRes := [.tmp 2]
theorem r1_Escape.of {xs : List AV} {d : Nat} {B : BL} {K : ARes → BL → Prop} (hn : xs.length = 1) (hB : onlyOuter B = true) (h : awp ⟨PT, 57, exitX r1_Escape.rs K⟩ 10000 [.code r1_Escape.rc] ⟨params 0 xs, B, .nil⟩) : CallAt PT r1_Escape xs d B K :=
  call_of_awp 10000 Try.func106 rfl (by kernel_rfl) (by kernel_rfl) (by kernel_rfl) (by rw [hn]; decide) hB h
abbrev r9_named : Nat := 107
def r9_named.rc : RC :=
  (.seq (.reg [R.q 1 (.box (R.t 0)),
    R.q 2 (.mov R.ff)])
  (.seq (.reg [R.q 3 (.fld 0 (R.t 1)),
    R.q 4 (.load1 (R.t 3)),
    R.q 5 (.bin .eql .no (R.t 4) (R.i 2)),
    R.q 6 (.mov (R.t 5)),
    R.g 7 (.fld 0 (R.t 1)) 6 false,
    R.g 8 (.load1 (R.t 7)) 6 false,
    R.g 9 (.bin .eql .no (R.t 8) (R.i 4)) 6 false,
    R.q 10 (.pick (R.t 6) R.tt (R.t 9)),
    R.q 2 (.mov (R.t 10))])
  .ret))
def r9_named.rs : List RRes := [.tmp 2]
theorem r9_named.of {xs : List AV} {d : Nat} {B : BL} {K : ARes → BL → Prop} (hn : xs.length = 1) (hB : onlyOuter B = true) (h : awp ⟨PT, 11, exitX r9_named.rs K⟩ 10000 [.code r9_named.rc] ⟨params 0 xs, B, .nil⟩) : CallAt PT r9_named xs d B K :=
  call_of_awp 10000 Try.func107 rfl (by kernel_rfl) (by kernel_rfl) (by kernel_rfl) (by rw [hn]; decide) hB h
abbrev l13_add : Nat := 108
def l13_add.rc : RC :=
  (.seq (.reg [R.q 3 (.box (R.t 1)),
    R.q 4 (.mov (.val .nsl))])
  (.seq (.reg [R.q 5 (.mov (R.i 0))])
  (.seq (.block 0 (.loop
     (.seq (.seq (.regd [R.f (R.q 7 (.mov (R.t 5))),
       R.f (R.q 8 (.mov (R.t 0))),
       R.f (R.q 9 (.len (R.t 8))),
       R.f (R.q 10 (.bin .lss .no (R.t 7) (R.t 9))),
       R.f (R.q 11 (.mov (R.t 10))),
       R.f (R.g 12 (.mov (R.t 0)) 11 true),
       R.f (R.g 13 (.mov (R.t 5)) 11 true),
       R.f (R.g 14 (.idx 2 (R.t 12) (R.t 13)) 11 true),
       R.f (R.g 15 (.fld 0 (R.t 14)) 11 true),
       R.f (R.g 16 (.load1 (R.t 15)) 11 true),
       R.f (R.g 17 (.fld 0 (R.t 3)) 11 true),
       R.f (R.g 18 (.load1 (R.t 17)) 11 true),
       R.f (R.g 19 (.bin .lss .no (R.t 16) (R.t 18)) 11 true),
       R.f (R.q 20 (.pick (R.t 11) (R.t 19) R.ff))])
     (.cond (R.t 20)
       .skip
       (.exit 0)))
     (.block 1 (.reg [R.q 21 (.mov (R.t 5)),
        R.q 22 (.bin .add .no (R.t 21) (R.i 1)),
        R.q 5 (.mov (R.t 22))])))))
  (.seq (.reg [R.q 23 (.bslice 2 (.cons (.str fun _ => []) (.cons (.str fun _ => []) .nil)) 0 []),
    R.q 24 (.mov (R.t 0)),
    R.q 25 (.mov (R.t 5)),
    R.q 26 (.slice 2 (R.t 24) (some (R.t 25)) none),
    R.q 27 (.append 2 32 (R.t 23) (R.t 26)),
    R.q 6 (.mov (R.t 27))])
  (.seq (.seq (.regd [R.f (R.q 28 (.mov (R.t 6))),
    R.f (R.q 29 (.len (R.t 28))),
    R.f (R.q 30 (.bin .gtr .no (R.t 29) (R.i 0))),
    R.f (R.q 31 (.mov (R.t 30))),
    R.f (R.g 32 (.mov (R.t 6)) 31 true),
    R.f (R.g 33 (.idx 2 (R.t 32) (R.i 0)) 31 true),
    R.f (R.g 34 (.fld 0 (R.t 33)) 31 true),
    R.f (R.g 35 (.load1 (R.t 34)) 31 true),
    R.f (R.g 36 (.fld 0 (R.t 3)) 31 true),
    R.f (R.g 37 (.load1 (R.t 36)) 31 true),
    R.f (R.g 38 (.bin .eql .no (R.t 35) (R.t 37)) 31 true),
    R.f (R.q 39 (.pick (R.t 31) (R.t 38) R.ff))])
  (.cond (R.t 39)
    (.reg [R.q 40 (.mov (R.t 6)),
      R.q 41 (.slice 2 (R.t 40) (some (R.i 1)) none),
      R.q 6 (.mov (R.t 41))])
    .skip))
  (.seq (.regd [R.f (R.q 42 (.bslice 2 (.cons (.str fun _ => []) (.cons (.str fun _ => []) .nil)) 0 [])),
    R.f (R.q 43 (.mov (R.t 0))),
    R.f (R.q 44 (.mov (R.t 5))),
    R.f (R.q 45 (.slice 2 (R.t 43) none (some (R.t 44)))),
    R.f (R.q 47 (.loadA 2 (R.t 3))),
    R.f (R.q 48 (.bslice 2 (.cons (.str fun _ => []) (.cons (.str fun _ => []) .nil)) 1 [(0, 2, (R.t 47))])),
    R.f (R.q 50 (.mov (R.t 6))),
    R.s (R.q 46 (.append 2 32 (R.t 42) (R.t 45))) [4, 5, 6],
    R.s (R.q 49 (.append 2 32 (R.t 46) (R.t 48))) [6],
    R.s (R.q 51 (.append 2 32 (R.t 49) (R.t 50))) [],
    R.s (R.q 4 (.mov (R.t 51))) []])
  .ret))))))
def l13_add.rs : List RRes := [.tmp 4]
theorem l13_add.of {xs : List AV} {d : Nat} {B : BL} {K : ARes → BL → Prop} (hn : xs.length = 2) (hB : onlyOuter B = true) (h : awp ⟨PT, 52, exitX l13_add.rs K⟩ 10000 [.code l13_add.rc] ⟨params 0 xs, B, .nil⟩) : CallAt PT l13_add xs d B K :=
  call_of_awp 10000 Try.func108 rfl (by kernel_rfl) (by kernel_rfl) (by kernel_rfl) (by rw [hn]; decide) hB h
abbrev right_look_int_1 : Nat := 122
def right_look_int_1.rc : RC :=
  (.seq (.reg [R.q 6 (.mov (R.t 1)),
    R.q 7 (.bin .neq (.ifc true) (R.t 6) (.val .nif))])
  (.cond (R.t 7)
    (.seq (.seq (.reg [R.q 9 (.mov (R.t 1)),
      R.q 10 (.assert 138 (.agg (.cons (R.z 0) .nil)) (R.t 9)),
      R.q 8 (.mov (R.t 10)),
      R.q 11 (.ext 0 (R.t 8)),
      R.q 12 (.ext 1 (R.t 8)),
      R.q 2 (.alloc (.cons (R.z 0) .nil)),
      R.e (.store 1 (R.t 2) (R.t 11)),
      R.q 3 (.mov (R.t 12))])
    (.seq (.reg [R.q 13 (.mov (R.t 3)),
      R.q 14 (.un .not (R.t 13))])
    (.cond (R.t 14)
      (.reg [R.q 15 (.mov (R.t 1)),
        R.e (.panic (R.t 15))])
      .skip)))
    (.seq (.reg [R.q 4 (.mov (R.i 0))])
    (.reg [R.q 16 (.mov (R.t 4)),
      R.e (.store 1 (R.t 0) (R.t 16))])))
    .skip))
def right_look_int_1.rs : List RRes := []
theorem right_look_int_1.of {pn : Bool} {pv : AV} {xs : List AV} {B : BL} {K : BL → Prop} (hn : xs.length = 1) (hB : onlyOuter B = true) (hpv : pn = false → pv = .nif) (h : awp ⟨PT, 17, exitC K⟩ 10000 [.code right_look_int_1.rc] ⟨.cons 1 pv (.cons 5 pv (params 0 xs)), B, .nil⟩) : DefAt PT right_look_int_1 pn (pv :: xs) B K :=
  def_of_awp 10000 Try.func122 rfl (by kernel_rfl) (by kernel_rfl) rfl (by rw [hn]; decide) (by decide) (by decide) hB hpv h
abbrev acl_From : Nat := 123
def acl_From.rc : RC :=
  (.seq (.reg [R.q 2 (.mov (.val .nsl))])
  (.seq (.reg [R.q 3 (.mov (R.t 0)),
    R.q 4 (.bin .and .no (R.t 3) (R.i 511)),
    R.q 0 (.mov (R.t 4))])
  (.seq (.reg [R.q 5 (.mov (R.t 0)),
    R.q 6 (.bin .shr .no (R.t 5) (.val (.int .u64 fun _ => 6))),
    R.q 7 (.build (.cons (R.z 0) (.cons (R.z 0) (.cons (R.z 0) .nil))) [(0, 1, (R.i 1)), (2, 1, (R.t 6))]),
    R.q 8 (.mov (R.t 0)),
    R.q 9 (.bin .shr .no (R.t 8) (.val (.int .u64 fun _ => 3))),
    R.q 10 (.bin .and .no (R.t 9) (R.i 7)),
    R.q 11 (.build (.cons (R.z 0) (.cons (R.z 0) (.cons (R.z 0) .nil))) [(0, 1, (R.i 3)), (2, 1, (R.t 10))]),
    R.q 12 (.mov (R.t 0)),
    R.q 13 (.bin .and .no (R.t 12) (R.i 7)),
    R.q 14 (.build (.cons (R.z 0) (.cons (R.z 0) (.cons (R.z 0) .nil))) [(0, 1, (R.i 6)), (2, 1, (R.t 13))]),
    R.q 15 (.bslice 3 (.cons (R.z 0) (.cons (R.z 0) (.cons (R.z 0) .nil))) 3 [(0, 3, (R.t 7)), (3, 3, (R.t 11)), (6, 3, (R.t 14))]),
    R.q 2 (.mov (R.t 15))])
  .ret)))
def acl_From.rs : List RRes := [.tmp 2]
theorem acl_From.of {xs : List AV} {d : Nat} {B : BL} {K : ARes → BL → Prop} (hn : xs.length = 1) (hB : onlyOuter B = true) (h : awp ⟨PT, 16, exitX acl_From.rs K⟩ 10000 [.code acl_From.rc] ⟨params 0 xs, B, .nil⟩) : CallAt PT acl_From xs d B K :=
  call_of_awp 10000 Try.func123 rfl (by kernel_rfl) (by kernel_rfl) (by kernel_rfl) (by rw [hn]; decide) hB h
abbrev slices_ContainsFunc_right_list_api_Ace : Nat := 124
def slices_ContainsFunc_right_list_api_Ace.rc : RC :=
  (.seq (.reg [R.q 4 (.mov R.ff)])
  (.seq (.reg [R.q 5 (.mov (R.t 0)),
    R.q 6 (.mov (R.t 1)),
    R.q 7 (.call 126 [(R.t 5), (R.t 6)]),
    R.q 8 (.bin .geq .no (R.t 7) (R.i 0)),
    R.q 4 (.mov (R.t 8))])
  .ret))
def slices_ContainsFunc_right_list_api_Ace.rs : List RRes := [.tmp 4]
theorem slices_ContainsFunc_right_list_api_Ace.of {xs : List AV} {d : Nat} {B : BL} {K : ARes → BL → Prop} (hn : xs.length = 2) (hB : onlyOuter B = true) (h : awp ⟨PT, 9, exitX slices_ContainsFunc_right_list_api_Ace.rs K⟩ 10000 [.code slices_ContainsFunc_right_list_api_Ace.rc] ⟨params 0 xs, B, .nil⟩) : CallAt PT slices_ContainsFunc_right_list_api_Ace xs d B K :=
  call_of_awp 10000 Try.func124 rfl (by kernel_rfl) (by kernel_rfl) (by kernel_rfl) (by rw [hn]; decide) hB h
abbrev right_list_mask_1 : Nat := 125
def right_list_mask_1.rc : RC :=
  (.seq (.reg [R.q 1 (.box (R.t 0)),
    R.q 2 (.mov R.ff)])
  (.seq (.reg [R.q 3 (.fld 0 (R.t 1)),
    R.q 4 (.load1 (R.t 3)),
    R.q 5 (.bin .eql .no (R.t 4) (R.i 5)),
    R.q 2 (.mov (R.t 5))])
  .ret))
def right_list_mask_1.rs : List RRes := [.tmp 2]
theorem right_list_mask_1.of {xs : List AV} {d : Nat} {B : BL} {K : ARes → BL → Prop} (hn : xs.length = 1) (hB : onlyOuter B = true) (h : awp ⟨PT, 6, exitX right_list_mask_1.rs K⟩ 10000 [.code right_list_mask_1.rc] ⟨params 0 xs, B, .nil⟩) : CallAt PT right_list_mask_1 xs d B K :=
  call_of_awp 10000 Try.func125 rfl (by kernel_rfl) (by kernel_rfl) (by kernel_rfl) (by rw [hn]; decide) hB h
abbrev slices_IndexFunc_right_list_api_Ace : Nat := 126
def slices_IndexFunc_right_list_api_Ace.rc : RC :=
  (.seq (.reg [R.q 4 (.mov (R.i 0))])
  (.seq (.seq (.reg [R.q 6 (.mov (R.t 0)),
    R.q 7 (.len (R.t 6)),
    R.q 8 (.mov (R.i 0))])
  (.block 0 (.loop
     (.seq (.reg [R.q 9 (.bin .lss .no (R.t 8) (R.t 7))])
     (.seq (.cond (R.t 9)
       .skip
       (.exit 0))
     (.seq (.block 1 (.seq (.reg [R.q 10 (.mov (R.t 8)),
        R.q 5 (.mov (R.t 10))])
      (.seq (.reg [R.q 11 (.mov (R.t 1)),
        R.q 12 (.mov (R.t 0)),
        R.q 13 (.mov (R.t 5)),
        R.q 14 (.idx 3 (R.t 12) (R.t 13)),
        R.q 15 (.loadA 3 (R.t 14)),
        R.q 16 (.callv (R.t 11) [(R.t 15)])])
      (.cond (R.t 16)
        (.seq (.reg [R.q 17 (.mov (R.t 5)),
          R.q 4 (.mov (R.t 17))])
        .ret)
        .skip))))
     (.reg [R.q 18 (.bin .add .no (R.t 8) (R.i 1)),
       R.q 8 (.mov (R.t 18))])))))))
  (.seq (.reg [R.q 4 (.mov (R.i (-1)))])
  .ret)))
def slices_IndexFunc_right_list_api_Ace.rs : List RRes := [.tmp 4]
theorem slices_IndexFunc_right_list_api_Ace.of {xs : List AV} {d : Nat} {B : BL} {K : ARes → BL → Prop} (hn : xs.length = 2) (hB : onlyOuter B = true) (h : awp ⟨PT, 19, exitX slices_IndexFunc_right_list_api_Ace.rs K⟩ 10000 [.code slices_IndexFunc_right_list_api_Ace.rc] ⟨params 0 xs, B, .nil⟩) : CallAt PT slices_IndexFunc_right_list_api_Ace xs d B K :=
  call_of_awp 10000 Try.func126 rfl (by kernel_rfl) (by kernel_rfl) (by kernel_rfl) (by rw [hn]; decide) hB h
abbrev right_list_perm_1 : Nat := 127
def right_list_perm_1.rc : RC :=
  (.seq (.reg [R.q 2 (.box (R.t 0)),
    R.q 3 (.mov R.ff)])
  (.seq (.reg [R.q 4 (.fld 0 (R.t 2)),
    R.q 5 (.load1 (R.t 4)),
    R.q 6 (.load1 (R.t 1)),
    R.q 7 (.bin .eql .no (R.t 5) (R.t 6)),
    R.q 3 (.mov (R.t 7))])
  .ret))
def right_list_perm_1.rs : List RRes := [.tmp 3]
theorem right_list_perm_1.of {xs : List AV} {d : Nat} {B : BL} {K : ARes → BL → Prop} (hn : xs.length = 2) (hB : onlyOuter B = true) (h : awp ⟨PT, 8, exitX right_list_perm_1.rs K⟩ 10000 [.code right_list_perm_1.rc] ⟨params 0 xs, B, .nil⟩) : CallAt PT right_list_perm_1 xs d B K :=
  call_of_awp 10000 Try.func127 rfl (by kernel_rfl) (by kernel_rfl) (by kernel_rfl) (by rw [hn]; decide) hB h
abbrev slices_Contains_int_int : Nat := 128
def slices_Contains_int_int.rc : RC :=
  (.seq (.reg [R.q 4 (.mov R.ff)])
  (.seq (.reg [R.q 5 (.mov (R.t 0)),
    R.q 6 (.mov (R.t 1)),
    R.q 7 (.call 134 [(R.t 5), (R.t 6)]),
    R.q 8 (.bin .geq .no (R.t 7) (R.i 0)),
    R.q 4 (.mov (R.t 8))])
  .ret))
def slices_Contains_int_int.rs : List RRes := [.tmp 4]
theorem slices_Contains_int_int.of {xs : List AV} {d : Nat} {B : BL} {K : ARes → BL → Prop} (hn : xs.length = 2) (hB : onlyOuter B = true) (h : awp ⟨PT, 9, exitX slices_Contains_int_int.rs K⟩ 10000 [.code slices_Contains_int_int.rc] ⟨params 0 xs, B, .nil⟩) : CallAt PT slices_Contains_int_int xs d B K :=
  call_of_awp 10000 Try.func128 rfl (by kernel_rfl) (by kernel_rfl) (by kernel_rfl) (by rw [hn]; decide) hB h
abbrev slices_Index_int_int : Nat := 134
def slices_Index_int_int.rc : RC :=
  (.seq (.reg [R.q 4 (.mov (R.i 0))])
  (.seq (.seq (.reg [R.q 6 (.mov (R.t 0)),
    R.q 7 (.len (R.t 6)),
    R.q 8 (.mov (R.i 0))])
  (.block 0 (.loop
     (.seq (.reg [R.q 9 (.bin .lss .no (R.t 8) (R.t 7))])
     (.seq (.cond (R.t 9)
       .skip
       (.exit 0))
     (.seq (.block 1 (.seq (.reg [R.q 10 (.mov (R.t 8)),
        R.q 5 (.mov (R.t 10))])
      (.seq (.reg [R.q 11 (.mov (R.t 1)),
        R.q 12 (.mov (R.t 0)),
        R.q 13 (.mov (R.t 5)),
        R.q 14 (.idx 1 (R.t 12) (R.t 13)),
        R.q 15 (.load1 (R.t 14)),
        R.q 16 (.bin .eql .no (R.t 11) (R.t 15))])
      (.cond (R.t 16)
        (.seq (.reg [R.q 17 (.mov (R.t 5)),
          R.q 4 (.mov (R.t 17))])
        .ret)
        .skip))))
     (.reg [R.q 18 (.bin .add .no (R.t 8) (R.i 1)),
       R.q 8 (.mov (R.t 18))])))))))
  (.seq (.reg [R.q 4 (.mov (R.i (-1)))])
  .ret)))
def slices_Index_int_int.rs : List RRes := [.tmp 4]
theorem slices_Index_int_int.of {xs : List AV} {d : Nat} {B : BL} {K : ARes → BL → Prop} (hn : xs.length = 2) (hB : onlyOuter B = true) (h : awp ⟨PT, 19, exitX slices_Index_int_int.rs K⟩ 10000 [.code slices_Index_int_int.rc] ⟨params 0 xs, B, .nil⟩) : CallAt PT slices_Index_int_int xs d B K :=
  call_of_awp 10000 Try.func134 rfl (by kernel_rfl) (by kernel_rfl) (by kernel_rfl) (by rw [hn]; decide) hB h
end F
end Go.Proofs.Ytgjlkcdnlndlnaa
/- More of the program's functions, resolved (printed by a tool). -/
namespace Go.Proofs.Ytgjlkcdnlndlnaa
open Go Go.Proofs.Ytgjlkcdnlndlnaa.Sx
namespace F
end F
end Go.Proofs.Ytgjlkcdnlndlnaa
/- More of the program's functions, resolved (printed by a tool). -/
namespace Go.Proofs.Ytgjlkcdnlndlnaa
open Go Go.Proofs.Ytgjlkcdnlndlnaa.Sx
namespace F
end F
end Go.Proofs.Ytgjlkcdnlndlnaa
/- The package right, walked: what each function answers. -/
namespace Go.Proofs.Ytgjlkcdnlndlnaa
open Go Go.Proofs.Ytgjlkcdnlndlnaa.Sx F
def band (a b : Int) : Int := abits .and .i64 a b
def permS (l : List Ace) (t : Int) : Option Int := (l.find? fun a => decide (a.tag = t)).map (·.perm)
def maskS (l : List Ace) : Option Int := if 0 ≤ ixP (fun a : Ace => decide (a.tag = 5)) l then permS l 5 else some 7
def fromMode (m : Int) : List Ace := [⟨1, 0, (band m 511).fdiv (2 ^ 6)⟩, ⟨3, 0, band ((band m 511).fdiv (2 ^ 3)) 7⟩, ⟨6, 0, band (band m 511) 7⟩]
def ofS (m : Meta) : List Ace := if 0 < m.acl.length then m.acl else fromMode m.mode
def inS (c : Cred) (g : Int) : Bool := decide (c.gid = g) || decide (g ∈ c.groups)
theorem ixP_find {α : Type} (p : α → Bool) (z : α) (l : List α) : (ixP p l < 0 ∧ l.find? p = none) ∨ (∃ k, ixP p l = zi k ∧ k < l.length ∧ l.find? p = some (l.getD k z)) := by
  induction l with
  | nil => exact .inl ⟨by simp [ixP], rfl⟩
  | cons y r ih =>
    by_cases h : p y = true
    · exact .inr ⟨0, by simp [ixP, h, zi], by simp, by simp [h]⟩
    · rcases ih with ⟨h1, h2⟩ | ⟨k, h1, h2, h3⟩
      · exact .inl ⟨by simp [ixP, h, h1], by simp [h, h2]⟩
      · refine .inr ⟨k + 1, ?_, by simpa using h2, by simp [h, h3]⟩
        simp only [ixP, h, h1, Bool.false_eq_true, if_false]
        unfold zi
        rw [if_neg (by omega)]
        omega
theorem mask1_c (a : Th Ace) {d : Nat} {K : ARes → BL → Prop} (hr : ∀ b : Th Bool, b .o = decide ((a .o).tag = 5) → K (.ret (.bool b)) .nil) : CallAt PT right_list_mask_1 [Ace.av a] d .nil K := by
  refine right_list_mask_1.of rfl rfl ?_
  cbv
  exact (hr _ rfl)
theorem perm1_c (a : Th Ace) (t : Th Int) {d : Nat} {K : ARes → BL → Prop}
    (hr : ∀ b : Th Bool, b .o = decide ((a .o).tag = t .o) → K (.ret (.bool b)) (.cons 10000 (.cells (.cons (.int .i64 t) .nil)) .nil)) : CallAt PT right_list_perm_1 [Ace.av a, .ptr 10000 0] d (.cons 10000 (.cells (.cons (.int .i64 t) .nil)) .nil) K := by
  refine right_list_perm_1.of rfl rfl ?_
  cbv
  exact hr _ rfl
theorem index_mask_c (l : Th (List Ace)) (hl : short (l .o)) {d : Nat} {K : ARes → BL → Prop} (hr : ∀ n : Th Int, n .o = ixP (fun a : Ace => decide (a.tag = 5)) (l .o) → K (.ret (.int .i64 n)) .nil) :
    CallAt PT slices_IndexFunc_right_list_api_Ace [aces l, .fn (.func right_list_mask_1) .nil .nil] d .nil K := by
  refine slices_IndexFunc_right_list_api_Ace.of rfl rfl ?_
  cbv
  refine loop_rule (X := Nat) 1000 [0, 1, 7] [] (fun k => .cons 8 (.int .i64 fun _ => zi k) .nil) (fun _ => .nil) (fun k => k ≤ (l .o).length ∧ ∀ j, j < k → decide (((l .o).getD j Ace.z).tag = 5) = false) (fun k => (l .o).length - k) 0 ?_ ⟨Nat.zero_le _, fun j hj => by omega⟩ ?_
  · cbv
    exact ⟨⟨.refl _, .refl _, .refl _, .int rfl, trivial⟩, ⟨rfl⟩⟩
  · intro k hk
    cbv
    refine ⟨fun h1 => ?_, fun h1 => ?_⟩
    · have h1 : k < (l .o).length := zi_lt.1 (of_decide_eq_true h1)
      cbv
      refine ⟨fun _ => ⟨zi_nonneg _, zi_lt.2 h1⟩, ?_⟩
      refine mask1_c (fun _ => (l .o).getD (zi k).toNat Ace.z) fun b hb => ?_
      rw [zi_toNat] at hb
      cbv
      refine ⟨fun h2 => ?_, fun h2 => ?_⟩
      · cbv
        exact (hr _ (ixP_at _ Ace.z _ k h1 hk.2 (hb.symm.trans h2)).symm)
      · cbv
        refine ⟨k + 1, ⟨h1, ?_⟩, by omega, ?_⟩
        · intro j hj
          by_cases he : j = k
          · subst he; exact hb.symm.trans h2
          · exact hk.2 j (by omega)
        · cbv
          exact ⟨⟨.refl _, .refl _, .refl _, .int (zi_succ (by unfold short at hl; omega)), trivial⟩, ⟨rfl⟩⟩
    · have h1 : ¬ k < (l .o).length := fun q => of_decide_eq_false h1 (zi_lt.2 q)
      cbv
      exact (hr _ (ixP_no _ Ace.z _ fun j hj => hk.2 j (by omega)).symm)
theorem index_perm_c (l : Th (List Ace)) (t : Th Int) (hl : short (l .o)) {d : Nat} {K : ARes → BL → Prop} (hr : ∀ n : Th Int, n .o = ixP (fun a : Ace => decide (a.tag = t .o)) (l .o) → K (.ret (.int .i64 n)) (.cons 10000 (.cells (.cons (.int .i64 t) .nil)) .nil)) :
    CallAt PT slices_IndexFunc_right_list_api_Ace [aces l, .fn (.func right_list_perm_1) .nil (.cons (.ptr 10000 0) .nil)] d (.cons 10000 (.cells (.cons (.int .i64 t) .nil)) .nil) K := by
  refine slices_IndexFunc_right_list_api_Ace.of rfl rfl ?_
  cbv
  refine loop_rule (X := Nat) 1000 [0, 1, 7] [10000] (fun k => .cons 8 (.int .i64 fun _ => zi k) .nil) (fun _ => .nil) (fun k => k ≤ (l .o).length ∧ ∀ j, j < k → decide (((l .o).getD j Ace.z).tag = t .o) = false) (fun k => (l .o).length - k) 0 ?_ ⟨Nat.zero_le _, fun j hj => by omega⟩ ?_
  · cbv
    exact ⟨⟨.refl _, .refl _, .refl _, .int rfl, trivial⟩, ⟨.refl _, trivial⟩, ⟨rfl⟩⟩
  · intro k hk
    cbv
    refine ⟨fun h1 => ?_, fun h1 => ?_⟩
    · have h1 : k < (l .o).length := zi_lt.1 (of_decide_eq_true h1)
      cbv
      refine ⟨fun _ => ⟨zi_nonneg _, zi_lt.2 h1⟩, ?_⟩
      refine perm1_c (fun _ => (l .o).getD (zi k).toNat Ace.z) t fun b hb => ?_
      rw [zi_toNat] at hb
      cbv
      refine ⟨fun h2 => ?_, fun h2 => ?_⟩
      · cbv
        exact hr _ (ixP_at _ Ace.z _ k h1 hk.2 (hb.symm.trans h2)).symm
      · cbv
        refine ⟨k + 1, ⟨h1, ?_⟩, by omega, ?_⟩
        · intro j hj
          by_cases he : j = k
          · subst he; exact hb.symm.trans h2
          · exact hk.2 j (by omega)
        · cbv
          exact ⟨⟨.refl _, .refl _, .refl _, .int (zi_succ (by unfold short at hl; omega)), trivial⟩, ⟨.refl _, trivial⟩, ⟨rfl⟩⟩
    · have h1 : ¬ k < (l .o).length := fun q => of_decide_eq_false h1 (zi_lt.2 q)
      cbv
      exact hr _ (ixP_no _ Ace.z _ fun j hj => hk.2 j (by omega)).symm
theorem contains_mask_c (l : Th (List Ace)) (hl : short (l .o)) {d : Nat} {K : ARes → BL → Prop} (hr : ∀ b : Th Bool, b .o = decide (0 ≤ ixP (fun a : Ace => decide (a.tag = 5)) (l .o)) → K (.ret (.bool b)) .nil) :
    CallAt PT slices_ContainsFunc_right_list_api_Ace [aces l, .fn (.func right_list_mask_1) .nil .nil] d .nil K := by
  refine slices_ContainsFunc_right_list_api_Ace.of rfl rfl ?_
  cbv
  refine index_mask_c l hl fun n hn => ?_
  cbv
  exact (hr _ (by show decide (0 ≤ n .o) = _; rw [hn]))
/-- What is raised where a part lacks. -/
def lacks (t : Th Int) : AV := .ifc 138 (.agg (.cons (.int .i64 t) .nil))
theorem perm_c (l : Th (List Ace)) (t : Th Int) (hl : short (l .o)) {d : Nat} {K : ARes → BL → Prop} (hr : ∀ n : Th Int, permS (l .o) (t .o) = some (n .o) → K (.ret (.int .i64 n)) .nil) (hp : permS (l .o) (t .o) = none → K (.pan (lacks t)) .nil) :
    CallAt PT right_list_perm [aces l, .int .i64 t] d .nil K := by
  refine right_list_perm.of rfl rfl ?_
  cbv
  refine CallAt.frameP [(10000, 3)] [aces l, .fn (.func right_list_perm_1) .nil (.cons (.ptr 10000 0) .nil)] (by kernel_rfl) rfl fun K1 hK1 => ?_
  cbv
  refine index_perm_c l t hl fun n hn => hK1 _ _ ?_
  cbv
  have hfind := ixP_find (fun a : Ace => decide (a.tag = t .o)) Ace.z (l .o)
  refine ⟨fun h1 => ?_, fun h1 => ?_⟩
  · have h1 : n .o < 0 := of_decide_eq_true h1
    cbv
    refine (hp ?_)
    rcases hfind with ⟨_, h2⟩ | ⟨k, h2, _, _⟩
    · unfold permS; rw [h2]; rfl
    · rw [hn, h2] at h1; have := zi_nonneg k; omega
  · have h1 : ¬ n .o < 0 := of_decide_eq_false h1
    rcases hfind with ⟨h2, _⟩ | ⟨k, h2, h3, h4⟩
    · exact (h1 (hn ▸ h2)).elim
    · rw [h2] at hn
      cbv
      refine ⟨fun _ => by rw [hn]; exact ⟨zi_nonneg _, zi_lt.2 h3⟩, ?_⟩
      refine (hr _ ?_)
      show _ = some ((l .o).getD (n .o).toNat Ace.z).perm
      rw [hn, zi_toNat]
      unfold permS
      rw [h4]
      rfl
theorem mask_c (l : Th (List Ace)) (hl : short (l .o)) {d : Nat} {K : ARes → BL → Prop} (hr : ∀ n : Th Int, maskS (l .o) = some (n .o) → K (.ret (.int .i64 n)) .nil) (hp : ∀ t, maskS (l .o) = none → K (.pan (lacks t)) .nil) :
    CallAt PT right_list_mask [aces l] d .nil K := by
  refine right_list_mask.of rfl rfl ?_
  cbv
  refine contains_mask_c l hl fun b hb => ?_
  cbv
  refine ⟨fun h1 => ?_, fun h1 => ?_⟩
  · have hm : maskS (l .o) = permS (l .o) 5 := by unfold maskS; rw [if_pos (of_decide_eq_true (hb.symm.trans h1))]
    cbv
    refine perm_c l (fun _ => 5) hl (fun n hn => ?_) fun hn => ?_
    · cbv
      exact (hr _ (hm.trans hn))
    · cbv
      exact (hp _ (hm.trans hn))
  · have hm : maskS (l .o) = some 7 := by unfold maskS; rw [if_neg (of_decide_eq_false (hb.symm.trans h1))]
    cbv
    exact (hr _ hm)
theorem from_c (m : Th Int) {d : Nat} {K : ARes → BL → Prop} (hr : ∀ l : Th (List Ace), l .o = fromMode (m .o) → K (.ret (aces l)) .nil) : CallAt PT acl_From [.int .i64 m] d .nil K := by
  refine CallAt.res ?_
  refine acl_From.of rfl rfl ?_
  cbv
  refine ⟨fun _ => by decide, fun _ => by decide, ?_⟩
  refine ⟨_, .ret (.sl ?_ ?_), (hr (fun _ => fromMode (m .o)) rfl)⟩
  · rfl
  · intro i hi
    have hi : i < 3 := hi
    match i, hi with
    | 0, _ => rfl
    | 1, _ => rfl
    | 2, _ => rfl
theorem of_c (m : Th Meta) {d : Nat} {K : ARes → BL → Prop} (hr : ∀ l : Th (List Ace), l .o = ofS (m .o) → K (.ret (aces l)) .nil) : CallAt PT right_of [Meta.av m] d .nil K := by
  refine right_of.of rfl rfl ?_
  cbv
  refine ⟨fun h1 => ?_, fun h1 => ?_⟩
  · have h1 : 0 < ((m .o).acl).length := zi_lt.1 (of_decide_eq_true h1)
    cbv
    refine (hr (fun _ => (m .o).acl) ?_)
    unfold ofS; rw [if_pos h1]
  · have h1 : ¬ 0 < ((m .o).acl).length := fun q => of_decide_eq_false h1 (zi_lt.2 q)
    cbv
    refine from_c (fun _ => (m .o).mode) fun l hl => ?_
    cbv
    refine (hr l ?_)
    unfold ofS; rw [if_neg h1, hl]
theorem index_int_c (l : Th (List Int)) (x : Th Int) (hl : short (l .o)) {d : Nat} {K : ARes → BL → Prop} (hr : ∀ n : Th Int, n .o = ixP (fun a => decide (x .o = a)) (l .o) → K (.ret (.int .i64 n)) .nil) : CallAt PT slices_Index_int_int [ints l, .int .i64 x] d .nil K := by
  refine slices_Index_int_int.of rfl rfl ?_
  cbv
  refine loop_rule (X := Nat) 1000 [0, 1, 7] [] (fun k => .cons 8 (.int .i64 fun _ => zi k) .nil) (fun _ => .nil) (fun k => k ≤ (l .o).length ∧ ∀ j, j < k → decide (x .o = (l .o).getD j 0) = false) (fun k => (l .o).length - k) 0 ?_ ⟨Nat.zero_le _, fun j hj => by omega⟩ ?_
  · cbv
    exact ⟨⟨.refl _, .refl _, .refl _, .int rfl, trivial⟩, ⟨rfl⟩⟩
  · intro k hk
    cbv
    refine ⟨fun h1 => ?_, fun h1 => ?_⟩
    · have h1 : k < (l .o).length := zi_lt.1 (of_decide_eq_true h1)
      cbv
      refine ⟨fun _ => ⟨zi_nonneg _, zi_lt.2 h1⟩, fun h2 => ?_, fun h2 => ?_⟩
      · cbv
        have h2 : decide (x .o = (l .o).getD (zi k).toNat 0) = true := h2
        rw [zi_toNat] at h2
        exact (hr _ (ixP_at _ 0 _ k h1 hk.2 h2).symm)
      · cbv
        have h2 : decide (x .o = (l .o).getD (zi k).toNat 0) = false := h2
        rw [zi_toNat] at h2
        refine ⟨k + 1, ⟨h1, ?_⟩, by omega, ?_⟩
        · intro j hj
          by_cases he : j = k
          · subst he; exact h2
          · exact hk.2 j (by omega)
        · cbv
          exact ⟨⟨.refl _, .refl _, .refl _, .int (zi_succ (by unfold short at hl; omega)), trivial⟩, ⟨rfl⟩⟩
    · have h1 : ¬ k < (l .o).length := fun q => of_decide_eq_false h1 (zi_lt.2 q)
      cbv
      exact (hr _ (ixP_no _ 0 _ fun j hj => hk.2 j (by omega)).symm)
theorem contains_int_c (l : Th (List Int)) (x : Th Int) (hl : short (l .o)) {d : Nat} {K : ARes → BL → Prop} (hr : ∀ b : Th Bool, b .o = decide (x .o ∈ l .o) → K (.ret (.bool b)) .nil) : CallAt PT slices_Contains_int_int [ints l, .int .i64 x] d .nil K := by
  refine slices_Contains_int_int.of rfl rfl ?_
  cbv
  refine index_int_c l x hl fun n hn => ?_
  cbv
  refine (hr _ ?_)
  show decide (0 ≤ n .o) = _
  rw [hn]
  rcases ixP_find (fun a => decide (x .o = a)) 0 (l .o) with ⟨h1, h2⟩ | ⟨k, h1, h2, h3⟩
  · rw [decide_eq_decide]
    refine ⟨fun h => by omega, fun h => ?_⟩
    have := List.find?_eq_none.1 h2 _ h
    simp at this
  · rw [h1, decide_eq_decide]
    refine ⟨fun _ => ?_, fun _ => zi_nonneg k⟩
    have h4 := List.find?_some h3
    have h5 := List.mem_of_find?_eq_some h3
    rw [← of_decide_eq_true h4] at h5
    exact h5
theorem in_c (c : Th Cred) (g : Th Int) (hl : short (c .o).groups) {d : Nat} {K : ARes → BL → Prop} (hr : ∀ b : Th Bool, b .o = inS (c .o) (g .o) → K (.ret (.bool b)) .nil) : CallAt PT right_In [Cred.av c, .int .i64 g] d .nil K := by
  refine CallAt.res ?_
  refine right_In.of rfl rfl ?_
  cbv
  refine ⟨fun h1 => ?_, fun h1 => ?_⟩
  · refine contains_int_c (fun _ => (c .o).groups) g hl fun b hb => ?_
    cbv
    refine ⟨_, .ret (.refl _), (hr b ?_)⟩
    unfold inS
    rw [hb, show decide ((c .o).gid = g .o) = false from h1]
    rfl
  · cbv
    refine ⟨_, .ret (.tt rfl), (hr (fun _ => true) ?_)⟩
    unfold inS
    rw [show decide ((c .o).gid = g .o) = true from h1]
    rfl
def hasS (w p : Int) : Bool := decide (band p w = w)
theorem ofS_short {m : Meta} (h : short m.acl) : short (ofS m) := by
  unfold ofS
  split
  · exact h
  · show 3 ≤ _; decide
theorem drop_cons {α : Type} (l : List α) (z : α) (k : Nat) (h : k < l.length) : l.drop k = l.getD k z :: l.drop (k + 1) := by
  rw [List.drop_eq_getElem_cons h, List.getD_eq_getElem?_getD, List.getElem?_eq_getElem h]
  rfl
end Go.Proofs.Ytgjlkcdnlndlnaa
/- Bytes as numbers; entries: data. -/
namespace Go.Proofs.Ytgjlkcdnlndlnaa
open Go Go.Proofs.Ytgjlkcdnlndlnaa.Sx
set_option linter.unusedVariables false
set_option linter.unusedSimpArgs false
def isBytes (l : List Int) : Prop := ∀ x ∈ l, 0 ≤ x ∧ x < 256
theorem byte_at {l : List Int} (h : isBytes l) {k : Nat} : 0 ≤ l.getD k 0 ∧ l.getD k 0 < 256 := by
  rw [List.getD_eq_getElem?_getD]
  by_cases hk : k < l.length
  · rw [List.getElem?_eq_getElem hk]; exact h _ (List.getElem_mem hk)
  · rw [List.getElem?_eq_none (by omega)]; simp
theorem rest_of {x : Int} (h : 0 ≤ x ∧ x < 256) {m : Int} (hm : 0 < m) : 0 ≤ (IntKind.i64.wrap x).tmod m ∧ (IntKind.i64.wrap x).tmod m < m := by
  have : IntKind.i64.wrap x = x := by rw [IntKind.wrap_i64]; omega
  rw [this]
  exact ⟨Int.tmod_nonneg _ h.1, Int.tmod_lt_of_pos _ hm⟩
def byteI (l : Th (List Int)) : AV := .sl 1 (fun _ => (l .o).length) fun i => .cons (.int .u8 fun _ => (l .o).getD (i .o) 0) .nil
def intCh (a : Th Int) : AV := .cons (.int .i64 a) .nil
theorem wrap_byte {x : Int} (h : 0 ≤ x ∧ x < 256) : IntKind.i64.wrap x = x := by rw [IntKind.wrap_i64]; omega
/-- Behind a row of nothing. -/
theorem app_rows0 {α : Type} {bytes : Nat} {n m : Th Nat} {g gy : Th Nat → AV} {K : Th Nat → (Th Nat → AV) → Prop} (ch : Th α → AV) (z : α) (ys : List α) (hn : n .o = 0)
    (hm : m .o = ys.length) (hy : ∀ i, i < ys.length → gy (fun _ => i) = ch fun _ => ys.getD i z) (hroom : ys.length * bytes ≤ 140737488355328)
    (h : K (fun _ => ys.length) fun i => ch fun _ => ys.getD (i .o) z) : AppAt bytes n m g gy K :=
  app_rows ch z [] ys hn (fun i hi => absurd hi (Nat.not_lt_zero _)) hm hy (by simpa using hroom) h
structure Entry where
  path : List UInt8
  kind : Int
  mt : Meta
  data : List UInt8
  target : List UInt8
  major : Int
  minor : Int
def Entry.ch (e : Th Entry) : AV := .cons (.str fun _ => (e .o).path) (.cons (.int .i64 fun _ => (e .o).kind) ((Meta.ch fun _ => (e .o).mt).app
  (.cons (.str fun _ => (e .o).data) (.cons (.str fun _ => (e .o).target) (.cons (.int .i64 fun _ => (e .o).major) (.cons (.int .i64 fun _ => (e .o).minor) .nil))))))
def Entry.av (e : Th Entry) : AV := .agg (Entry.ch e)
def kindN (n : Int) : Int := ([fun _ => 1, fun _ => 3, fun _ => 4, fun _ => 5, fun _ => 6, fun _ => 7] : List (Th Int)).getD (n.tmod 6).toNat (fun _ => 1) .o
theorem kindN_in (n : Int) : kindN n ≠ 2 ∧ (kindN n = 1 ∨ kindN n = 3 ∨ kindN n = 4 ∨ kindN n = 5 ∨ kindN n = 6 ∨ kindN n = 7) := by
  unfold kindN
  generalize (n.tmod 6).toNat = j
  match j with
  | 0 | 1 | 2 | 3 | 4 | 5 => decide
  | j + 6 => exact (by decide : (1 : Int) ≠ 2 ∧ ((1 : Int) = 1 ∨ (1 : Int) = 3 ∨ (1 : Int) = 4 ∨ (1 : Int) = 5 ∨ (1 : Int) = 6 ∨ (1 : Int) = 7))
end Go.Proofs.Ytgjlkcdnlndlnaa
/- The document's example of the layer right, and what the laws of rights share. -/
namespace Go.Proofs.Ytgjlkcdnlndlnaa
open Go Go.Proofs.Ytgjlkcdnlndlnaa.Sx F
def metaZ : Meta := ⟨0, 0, 0, 0, 0, [], [], [], ⟨0, 0, 0, false, 0⟩, 0⟩
theorem plain_c (mo u g : Th Int) {d : Nat} {K : ARes → BL → Prop} (hr : ∀ m : Th Meta, m .o = { metaZ with mode := mo .o, uid := u .o, gid := g .o } → K (.ret (Meta.av m)) .nil) : CallAt PT r9_Plain [.int .i64 mo, .int .i64 u, .int .i64 g] d .nil K := by
  refine CallAt.res ?_
  refine r9_Plain.of rfl rfl ?_
  cbv
  refine ⟨_, .ret (.agg ?_), (hr (fun _ => { metaZ with mode := mo .o, uid := u .o, gid := g .o }) rfl)⟩
  exact .cons (.refl _) (.cons (.refl _) (.cons (.refl _) (.cons (.refl _) (.cons (.refl _) (.cons (.nsl rfl) (.cons (.nsl rfl) (.cons (.nsl rfl) (.cons (.refl _) (.cons (.refl _) (.cons (.refl _) (.cons (.ff rfl) (.cons (.refl _) (.cons (.refl _) .nil)))))))))))))
def credZ : Cred := ⟨0, 0, [], 0⟩
theorem band_le {x y : Int} (h0 : 0 ≤ y) (h1 : y < 4611686018427387904) : 0 ≤ band x y ∧ band x y ≤ y := by
  have hy : (BitVec.ofInt 64 y).toNat = y.toNat := by
    rw [BitVec.toNat_ofInt]
    omega
  have hle : (BitVec.ofInt 64 x &&& BitVec.ofInt 64 y).toNat ≤ y.toNat := by
    rw [BitVec.toNat_and, hy]
    exact Nat.and_le_right
  have he : band x y = IntKind.i64.wrap ((BitVec.ofInt 64 x &&& BitVec.ofInt 64 y).toNat : Int) := rfl
  rw [he, IntKind.wrap_i64]
  omega
theorem fin8 {p : Int → Prop} (h : ∀ n : Fin 8, p (n.1 : Int)) {n : Int} (h0 : 0 ≤ n) (h1 : n < 8) : p n := by
  have := h ⟨n.toNat, by omega⟩
  rwa [show ((⟨n.toNat, by omega⟩ : Fin 8).1 : Int) = n from Int.toNat_of_nonneg h0] at this
end Go.Proofs.Ytgjlkcdnlndlnaa
/- Who asks, by numbers. -/
namespace Go.Proofs.Ytgjlkcdnlndlnaa
open Go Go.Proofs.Ytgjlkcdnlndlnaa.Sx F
/-- Who asks, as they are made by numbers. -/
structure CredOk (c : Cred) : Prop where
  uid : 0 ≤ c.uid ∧ c.uid < 8
  gid : 0 ≤ c.gid ∧ c.gid < 8
  gs : ∀ x ∈ c.groups, 0 ≤ x ∧ x < 16
  len : c.groups.length ≤ 4
  pw : c.powers = 0
theorem cred_c (l : Th (List Int)) (hl : isBytes (l .o)) (hs : (l .o).length ≤ 140737488355328) {d : Nat} {K : ARes → BL → Prop} (hr : ∀ c : Th Cred, CredOk (c .o) → K (.ret (Cred.av c)) .nil) : CallAt PT l18_Cred [byteI l] d .nil K := by
  refine CallAt.res ?_
  refine l18_Cred.of rfl rfl ?_
  have r8 : ∀ k, 0 ≤ (IntKind.i64.wrap ((l .o).getD k 0)).tmod 8 ∧ (IntKind.i64.wrap ((l .o).getD k 0)).tmod 8 < 8 := fun k => rest_of (byte_at hl) (by decide)
  have r16 : ∀ k, 0 ≤ (IntKind.i64.wrap ((l .o).getD k 0)).tmod 16 ∧ (IntKind.i64.wrap ((l .o).getD k 0)).tmod 16 < 16 := fun k => rest_of (byte_at hl) (by decide)
  have z8 : (0 : Int) ≤ 0 ∧ (0 : Int) < 8 := by decide
  cbv
  ((try refine br_rev ?_); (first | refine br_dec (fun h1 => ?_) (fun h1 => ?_) | refine br_ndec (fun h1 => ?_) (fun h1 => ?_) | refine br_nbool (fun h1 => ?_) (fun h1 => ?_) | refine br_bool (fun h1 => ?_) (fun h1 => ?_)); all_goals (try dsimp only at h1); all_goals (try with_reducible replace h1 := zi_lt.1 h1); all_goals (try with_reducible replace h1 := not_zlt h1)) <;> (cbv; repeat (refine safe (by first | decide | (simp only [zi] at *; omega) | assumption | (dsimp only; omega) | (dsimp only at *; simp only [List.length_append, List.length_cons, List.length_nil, zi] at *; omega)) ?_; cbv))
  all_goals ((try refine br_rev ?_); (first | refine br_dec (fun h2 => ?_) (fun h2 => ?_) | refine br_ndec (fun h2 => ?_) (fun h2 => ?_) | refine br_nbool (fun h2 => ?_) (fun h2 => ?_) | refine br_bool (fun h2 => ?_) (fun h2 => ?_)); all_goals (try dsimp only at h2); all_goals (try with_reducible replace h2 := zi_lt.1 h2); all_goals (try with_reducible replace h2 := not_zlt h2))
  all_goals (cbv; repeat (refine safe (by first | decide | (simp only [zi] at *; omega) | assumption | (dsimp only; omega) | (dsimp only at *; simp only [List.length_append, List.length_cons, List.length_nil, zi] at *; omega)) ?_; cbv))
  all_goals try (exfalso; simp only [zi] at h1 h2; omega)
  all_goals
    refine nil_cell 3 2 9000 1 (fun _ => .nil) rfl rfl rfl ?_
    refine loop_at (X := List Int) 1000 [0, 2, 3] [2] (fun _ gs => .cons 4 (.int .i64 fun _ => zi (2 + gs.length)) .nil) (fun s gs => .cons 3 (.cells ((s.b.get 3).cs.put 2 (.row 9000))) (.cons 9000 (rowB 1 intCh 0 fun _ => gs) .nil)) (fun gs => gs.length ≤ 4 ∧ ∀ x ∈ gs, 0 ≤ x ∧ x < 16) (fun gs => 4 - gs.length) [] ?_ ⟨by simp, by simp⟩ ?_
  all_goals first | (cbv; (repeat' (first | exact True.intro | exact Same.refl _ | exact SameB.refl _ | exact ⟨rfl⟩ | exact Same.int rfl | exact Same.str rfl | exact Same.bool rfl | (refine Same.int ?_; simp only [List.length_append, List.length_cons, List.length_nil, zi]; omega) | (refine SameB.row' rfl fun i hi => ?_; first | rfl | exact absurd hi (Nat.not_lt_zero _)) | refine And.intro ?_ ?_ | refine SameB.cells ?_ | exact SameC.nil | refine SameC.cons ?_ ?_ | exact Same.nsl rfl | exact Same.tt rfl | exact Same.ff rfl)); done) | skip
  all_goals
    rintro gs ⟨hg1, hg2⟩
    cbv
    ((try refine br_rev ?_); (first | refine br_dec (fun h3 => ?_) (fun h3 => ?_) | refine br_ndec (fun h3 => ?_) (fun h3 => ?_) | refine br_nbool (fun h3 => ?_) (fun h3 => ?_) | refine br_bool (fun h3 => ?_) (fun h3 => ?_)); all_goals (try dsimp only at h3); all_goals (try with_reducible replace h3 := zi_lt.1 h3); all_goals (try with_reducible replace h3 := not_zlt h3))
  all_goals (cbv; repeat (refine safe (by first | decide | (simp only [zi] at *; omega) | assumption | (dsimp only; omega) | (dsimp only at *; simp only [List.length_append, List.length_cons, List.length_nil, zi] at *; omega)) ?_; cbv))
  all_goals try (((try refine br_rev ?_); (first | refine br_dec (fun h4 => ?_) (fun h4 => ?_) | refine br_ndec (fun h4 => ?_) (fun h4 => ?_) | refine br_nbool (fun h4 => ?_) (fun h4 => ?_) | refine br_bool (fun h4 => ?_) (fun h4 => ?_)); all_goals (try dsimp only at h4); all_goals (try with_reducible replace h4 := zi_lt.1 h4); all_goals (try with_reducible replace h4 := not_zlt h4)); (cbv; repeat (refine safe (by first | decide | (simp only [zi] at *; omega) | assumption | (dsimp only; omega) | (dsimp only at *; simp only [List.length_append, List.length_cons, List.length_nil, zi] at *; omega)) ?_; cbv)))
  all_goals try (exact ⟨_, .ret (y := Cred.av fun _ => ⟨_, _, gs, 0⟩) (by (repeat' (first | exact Same.refl _ | exact SameC.nil | refine SameC.cons ?_ ?_ | refine Same.agg ?_ | refine Same.tup ?_ | exact Same.nsl rfl | exact Same.tt rfl | exact Same.ff rfl | exact Same.int rfl | exact Same.str rfl | exact Same.bool rfl | refine Same.sl rfl ?_))), hr _ ⟨by first | exact r8 _ | exact z8, by first | exact r8 _ | exact z8, hg2, hg1, rfl⟩⟩)
  all_goals
    refine app_one intCh 0 gs ((IntKind.i64.wrap ((l .o).getD (2 + gs.length) 0)).tmod 16) rfl (fun i hi => rfl) rfl rfl (by omega) ?_
    cbv
    refine ⟨gs ++ [(IntKind.i64.wrap ((l .o).getD (2 + gs.length) 0)).tmod 16], ⟨by simp only [List.length_append, List.length_cons, List.length_nil]; simp only [zi] at *; omega, fun x hx => ?_⟩, by simp only [List.length_append, List.length_cons, List.length_nil]; simp only [zi] at *; omega, ?_⟩
    · rcases List.mem_append.1 hx with hx | hx
      · exact hg2 x hx
      · rw [List.mem_singleton.1 hx]; exact r16 _
    · rw [zi_succ (by omega)]
      cbv
      (repeat' (first | exact True.intro | exact Same.refl _ | exact SameB.refl _ | exact ⟨rfl⟩ | exact Same.int rfl | exact Same.str rfl | exact Same.bool rfl | (refine Same.int ?_; simp only [List.length_append, List.length_cons, List.length_nil, zi]; omega) | (refine SameB.row' rfl fun i hi => ?_; first | rfl | exact absurd hi (Nat.not_lt_zero _)) | refine And.intro ?_ ?_ | refine SameB.cells ?_ | exact SameC.nil | refine SameC.cons ?_ ?_ | exact Same.nsl rfl | exact Same.tt rfl | exact Same.ff rfl))
end Go.Proofs.Ytgjlkcdnlndlnaa
/- What the laws make by numbers: access lists. -/
namespace Go.Proofs.Ytgjlkcdnlndlnaa
open Go Go.Proofs.Ytgjlkcdnlndlnaa.Sx F
set_option linter.unusedVariables false
set_option linter.unusedSimpArgs false
/-- In order, each Id once. -/
def addS (a : Ace) : List Ace → List Ace
  | [] => [a]
  | x :: r => if x.id < a.id then x :: addS a r else if x.id = a.id then a :: r else a :: x :: r
theorem addS_at (a : Ace) : ∀ (l : List Ace) (k : Nat), k ≤ l.length → (∀ j, j < k → (l.getD j Ace.z).id < a.id) → (k < l.length → ¬ (l.getD k Ace.z).id < a.id) →
    addS a l = l.take k ++ a :: (if k < l.length ∧ (l.getD k Ace.z).id = a.id then l.drop (k + 1) else l.drop k)
  | [], k, hk, _, _ => by simp at hk; subst hk; simp [addS]
  | x :: r, 0, _, _, h => by
    have h := h (by simp)
    simp at h
    simp [addS]
    by_cases he : x.id = a.id <;> simp [he]
    intro q; omega
  | x :: r, k + 1, hk, hj, h => by
    have h0 := hj 0 (by omega)
    have := addS_at a r k (by simpa using hk) (fun j hj' => by simpa using hj (j + 1) (by omega)) (fun q => by simpa using h (by simpa using q))
    simp at h0
    simp [addS, h0, this]
theorem addS_len (a : Ace) : ∀ l : List Ace, (addS a l).length ≤ l.length + 1
  | [] => by simp [addS]
  | x :: r => by
    have := addS_len a r
    unfold addS
    split
    · simp; omega
    · split <;> simp
theorem add_c (l : Th (List Ace)) (a : Th Ace) (hl : (l .o).length ≤ 1000) {d : Nat} {K : ARes → BL → Prop} (hr : ∀ r : Th (List Ace), r .o = addS (a .o) (l .o) → K (.ret (aces r)) .nil) : CallAt PT l9_add [aces l, Ace.av a] d .nil K := by
  refine l9_add.of rfl rfl ?_
  cbv
  refine loop_rule (X := Nat) 1000 [0, 3] [3] (fun k => .cons 5 (.int .i64 fun _ => zi k) .nil) (fun _ => .nil) (fun k => k ≤ (l .o).length ∧ ∀ j, j < k → ((l .o).getD j Ace.z).id < (a .o).id) (fun k => (l .o).length - k) 0 ?_ ⟨Nat.zero_le _, fun j hj => by omega⟩ ?_
  · cbv
    (repeat' (first | exact True.intro | exact Same.refl _ | exact SameB.refl _ | exact ⟨rfl⟩ | exact Same.int rfl | exact Same.str rfl | exact Same.bool rfl | (refine Same.int ?_; simp only [List.length_append, List.length_cons, List.length_nil, zi]; omega) | (refine SameB.row' rfl fun i hi => ?_; first | rfl | exact absurd hi (Nat.not_lt_zero _)) | refine And.intro ?_ ?_ | refine SameB.cells ?_ | exact SameC.nil | refine SameC.cons ?_ ?_ | exact Same.nsl rfl | exact Same.tt rfl | exact Same.ff rfl))
  · intro k hk
    obtain ⟨hk, hj⟩ := hk
    have fin : (k < (l .o).length → ¬ ((l .o).getD k Ace.z).id < (a .o).id) → addS (a .o) (l .o) = (l .o).take k ++ (a .o) :: (if k < (l .o).length ∧ ((l .o).getD k Ace.z).id = (a .o).id then (l .o).drop (k + 1) else (l .o).drop k) := addS_at _ _ k hk hj
    cbv
    ((try refine br_rev ?_); (first | refine br_dec (fun h1 => ?_) (fun h1 => ?_) | refine br_ndec (fun h1 => ?_) (fun h1 => ?_) | refine br_nbool (fun h1 => ?_) (fun h1 => ?_) | refine br_bool (fun h1 => ?_) (fun h1 => ?_)); all_goals (try dsimp only at h1); all_goals (try with_reducible replace h1 := zi_lt.1 h1); all_goals (try with_reducible replace h1 := not_zlt h1)) <;> cbv
    focus (refine safe ⟨zi_nonneg _, zi_lt.2 (by omega)⟩ ?_; cbv; ((try refine br_rev ?_); (first | refine br_dec (fun h2 => ?_) (fun h2 => ?_) | refine br_ndec (fun h2 => ?_) (fun h2 => ?_) | refine br_nbool (fun h2 => ?_) (fun h2 => ?_) | refine br_bool (fun h2 => ?_) (fun h2 => ?_)); all_goals (try dsimp only at h2); all_goals (try with_reducible replace h2 := zi_lt.1 h2); all_goals (try with_reducible replace h2 := not_zlt h2)) <;> cbv)
    · refine ⟨k + 1, ⟨h1, fun j hj' => ?_⟩, by omega, ?_⟩
      · by_cases he : j = k
        · subst he; exact h2
        · exact hj j (by omega)
      · cbv
        rw [zi_succ (by omega)]
        (repeat' (first | exact True.intro | exact Same.refl _ | exact SameB.refl _ | exact ⟨rfl⟩ | exact Same.int rfl | exact Same.str rfl | exact Same.bool rfl | (refine Same.int ?_; simp only [List.length_append, List.length_cons, List.length_nil, zi]; omega) | (refine SameB.row' rfl fun i hi => ?_; first | rfl | exact absurd hi (Nat.not_lt_zero _)) | refine And.intro ?_ ?_ | refine SameB.cells ?_ | exact SameC.nil | refine SameC.cons ?_ ?_ | exact Same.nsl rfl | exact Same.tt rfl | exact Same.ff rfl))
    focus (replace fin := fin fun _ => h2)
    rotate_left
    focus (replace fin := fin fun q => by omega)
    all_goals
      refine safe ⟨zi_nonneg _, zi_le.2 hk, Int.le_refl _⟩ ?_
      refine app_rows0 Ace.ch Ace.z ((l .o).drop k) rfl (by simp [zi]) (fun i hi => by simp only [getD_drop]; rfl) (by simp only [List.length_drop]; omega) ?_
      cbv
      ((try refine br_rev ?_); (first | refine br_dec (fun h3 => ?_) (fun h3 => ?_) | refine br_ndec (fun h3 => ?_) (fun h3 => ?_) | refine br_nbool (fun h3 => ?_) (fun h3 => ?_) | refine br_bool (fun h3 => ?_) (fun h3 => ?_)); all_goals (try dsimp only at h3); all_goals (try with_reducible replace h3 := zi_lt.1 h3); all_goals (try with_reducible replace h3 := not_zlt h3))
    all_goals cbv
    all_goals try (have h3' : 0 < ((l .o).drop k).length := zi_lt.1 h3; refine safe ⟨Int.le_refl _, h3⟩ ?_; refine safe h3' ?_; cbv; ((try refine br_rev ?_); (first | refine br_dec (fun h4 => ?_) (fun h4 => ?_) | refine br_ndec (fun h4 => ?_) (fun h4 => ?_) | refine br_nbool (fun h4 => ?_) (fun h4 => ?_) | refine br_bool (fun h4 => ?_) (fun h4 => ?_)); all_goals (try dsimp only at h4); all_goals (try with_reducible replace h4 := zi_lt.1 h4); all_goals (try with_reducible replace h4 := not_zlt h4)))
    all_goals cbv
    all_goals have htk : ((l .o).take k).length = k := by rw [List.length_take]; omega
    all_goals try refine safe ⟨by decide, zi_le.2 h3', Int.le_refl _⟩ ?_
    all_goals
      refine safe ⟨Int.le_refl _, zi_nonneg _, zi_le.2 hk⟩ ?_
      refine app_rows0 Ace.ch Ace.z ((l .o).take k) rfl (by rw [htk]; simp [zi]) (fun i hi => by rw [htk] at hi; simp only [getD_take _ _ _ _ hi]; exact congrArg (fun j => Ace.ch fun _ => (l .o).getD j Ace.z) (by simp)) (by rw [htk]; omega) ?_
      cbv
      refine app_one Ace.ch Ace.z _ (a .o) rfl (fun i hi => rfl) rfl rfl (by rw [htk]; omega) ?_
      cbv
    all_goals first
      | (refine app_rows Ace.ch Ace.z ((l .o).take k ++ [a .o]) ((l .o).drop k) rfl (fun i hi => rfl) rfl (fun i hi => rfl) (by rw [List.length_append, htk, List.length_drop]; simp only [List.length_cons, List.length_nil]; omega) ?_
         cbv
         exact hr (fun _ => (l .o).take k ++ [a .o] ++ (l .o).drop k) (by
           rw [fin, if_neg (by
             rintro ⟨q1, q2⟩
             first
             | exact h4 (by simpa [getD_drop] using q2)
             | exact h3 ((zi_lt (a := 0)).2 (by rw [List.length_drop]; omega)))]
           simp)
         done)
      | (refine app_rows Ace.ch Ace.z ((l .o).take k ++ [a .o]) ((l .o).drop (k + 1)) rfl (fun i hi => rfl) (by simp [zi]; omega) (fun i hi => by simp only [getD_drop]; exact congrArg (fun j => Ace.ch fun _ => (l .o).getD j Ace.z) (by simp [Nat.add_assoc])) (by simp only [List.length_append, htk, List.length_drop, List.length_cons, List.length_nil]; omega) ?_
         cbv
         exact hr (fun _ => (l .o).take k ++ [a .o] ++ (l .o).drop (k + 1)) (by
           rw [fin, if_pos ⟨by rw [List.length_drop] at h3'; omega, by simpa [getD_drop] using h4⟩]
           simp)
         done)
theorem add_c' (l : Th (List Ace)) (a : Th Ace) (hl : (l .o).length ≤ 1000) {d : Nat} {K : ARes → BL → Prop} (hr : K (.ret (aces fun _ => addS (a .o) (l .o))) .nil) : CallAt PT l9_add [aces l, Ace.av a] d .nil K :=
  add_c l a hl fun r hr' => by
    have : r = fun _ => addS (a .o) (l .o) := funext fun | .o => hr'
    subst this
    exact hr
/-- Users and groups out of the first k pairs. -/
def accS (ns : List Int) : Nat → List Ace × List Ace
  | 0 => ([], [])
  | k + 1 =>
    if (ns.getD (2 * k) 0).tmod 2 = 0 then (addS ⟨2, (ns.getD (2 * k) 0).tdiv 2, (ns.getD (2 * k + 1) 0).tmod 8⟩ (accS ns k).1, (accS ns k).2)
    else ((accS ns k).1, addS ⟨4, (ns.getD (2 * k) 0).tdiv 2, (ns.getD (2 * k + 1) 0).tmod 8⟩ (accS ns k).2)
theorem accS_len (ns : List Int) : ∀ k, (accS ns k).1.length ≤ k ∧ (accS ns k).2.length ≤ k
  | 0 => by simp [accS]
  | k + 1 => by
    have := accS_len ns k
    unfold accS
    split
    · have := addS_len ⟨2, (ns.getD (2 * k) 0).tdiv 2, (ns.getD (2 * k + 1) 0).tmod 8⟩ (accS ns k).1
      dsimp only; omega
    · have := addS_len ⟨4, (ns.getD (2 * k) 0).tdiv 2, (ns.getD (2 * k + 1) 0).tmod 8⟩ (accS ns k).2
      dsimp only; omega
def pairs (ns : List Int) : Nat := min 6 (ns.length / 2)
def bxor (a b : Int) : Int := abits .xor .i64 a b
def l9S (ns : List Int) (m : Int) : List Ace :=
  let u := (accS ns (pairs ns)).1
  let g := (accS ns (pairs ns)).2
  if u.length + g.length = 0 then [⟨1, 0, band (m.fdiv (2 ^ 6)) 7⟩] ++ u ++ [⟨3, 0, band (m.fdiv (2 ^ 3)) 7⟩, ⟨6, 0, band m 7⟩]
  else [⟨1, 0, band (m.fdiv (2 ^ 6)) 7⟩] ++ u ++ [⟨3, 0, bxor (band (m.fdiv (2 ^ 3)) 7) ((ns.getD 0 0).tmod 8)⟩] ++ g ++ [⟨5, 0, band (m.fdiv (2 ^ 3)) 7⟩, ⟨6, 0, band m 7⟩]
theorem l9_c (ns : Th (List Int)) (m : Th Int) (hns : isBytes (ns .o)) (hs : short (ns .o)) {d : Nat} {K : ARes → BL → Prop} (hr : ∀ r : Th (List Ace), r .o = l9S (ns .o) (m .o) → K (.ret (aces r)) .nil) : CallAt PT l9_Make [byteI ns, .int .i64 m] d .nil K := by
  refine l9_Make.of rfl rfl ?_
  (cbv; repeat (refine safe (by first | decide | (simp only [zi] at *; omega) | assumption | (dsimp only; omega) | (dsimp only at *; simp only [List.length_append, List.length_cons, List.length_nil, zi] at *; omega)) ?_; cbv))
  refine loop_rule (X := Nat) 1000 [0, 5, 6, 7] [] (fun k => .cons 8 (aces fun _ => (accS (ns .o) k).1) (.cons 9 (aces fun _ => (accS (ns .o) k).2) (.cons 10 (.int .i64 fun _ => zi (2 * k)) .nil))) (fun _ => .nil) (fun k => k ≤ pairs (ns .o)) (fun k => 6 - k) 0 ?_ (Nat.zero_le _) ?_
  · cbv
    (repeat' (first | exact True.intro | exact Same.refl _ | exact SameB.refl _ | exact ⟨rfl⟩ | exact Same.int rfl | exact Same.str rfl | exact Same.bool rfl | (refine Same.int ?_; simp only [List.length_append, List.length_cons, List.length_nil, zi]; omega) | (refine SameB.row' rfl fun i hi => ?_; first | rfl | exact absurd hi (Nat.not_lt_zero _)) | refine And.intro ?_ ?_ | refine SameB.cells ?_ | exact SameC.nil | refine SameC.cons ?_ ?_ | exact Same.nsl rfl | exact Same.tt rfl | exact Same.ff rfl))
    all_goals exact Same.nsl rfl
  · intro k hk
    have hp : pairs (ns .o) = min 6 ((ns .o).length / 2) := rfl
    have hl := accS_len (ns .o) k
    unfold short at hs
    have hsucc : IntKind.i64.wrap (zi (2 * k) + 1) = zi (2 * k + 1) := zi_succ (by omega)
    cbv
    rw [hsucc]
    ((try refine br_rev ?_); (first | refine br_dec (fun h1 => ?_) (fun h1 => ?_) | refine br_ndec (fun h1 => ?_) (fun h1 => ?_) | refine br_nbool (fun h1 => ?_) (fun h1 => ?_) | refine br_bool (fun h1 => ?_) (fun h1 => ?_)); all_goals (try dsimp only at h1); all_goals (try with_reducible replace h1 := zi_lt.1 h1); all_goals (try with_reducible replace h1 := not_zlt h1)) <;> cbv
    all_goals try (((try refine br_rev ?_); (first | refine br_dec (fun h2 => ?_) (fun h2 => ?_) | refine br_ndec (fun h2 => ?_) (fun h2 => ?_) | refine br_nbool (fun h2 => ?_) (fun h2 => ?_) | refine br_bool (fun h2 => ?_) (fun h2 => ?_)); all_goals (try dsimp only at h2); all_goals (try with_reducible replace h2 := zi_lt.1 h2); all_goals (try with_reducible replace h2 := not_zlt h2)); replace h2 : 2 * k < 12 := h2; rotate_left; replace h2 : 12 ≤ 2 * k := h2; rotate_left)
    all_goals cbv
    focus
      refine safe ⟨zi_nonneg _, zi_lt.2 (by omega)⟩ ?_
      refine safe (by decide) ?_
      refine safe (by rw [hsucc]; exact ⟨zi_nonneg _, zi_lt.2 h1⟩) ?_
      refine safe (by decide) ?_
      refine safe ⟨zi_nonneg _, zi_lt.2 (by omega)⟩ ?_
      refine safe (by decide) ?_
      rw [hsucc]
      have hb : ∀ j, IntKind.i64.wrap ((ns .o).getD j 0) = (ns .o).getD j 0 := fun j => wrap_byte (byte_at hns)
      have hq : ∀ j, IntKind.i64.wrap (((ns .o).getD j 0).tdiv 2) = ((ns .o).getD j 0).tdiv 2 := fun j => wrap_byte (by
        have := byte_at hns (k := j)
        rw [Int.tdiv_eq_ediv_of_nonneg this.1]
        omega)
      ((try refine br_rev ?_); (first | refine br_dec (fun h3 => ?_) (fun h3 => ?_) | refine br_ndec (fun h3 => ?_) (fun h3 => ?_) | refine br_nbool (fun h3 => ?_) (fun h3 => ?_) | refine br_bool (fun h3 => ?_) (fun h3 => ?_)); all_goals (try dsimp only at h3); all_goals (try with_reducible replace h3 := zi_lt.1 h3); all_goals (try with_reducible replace h3 := not_zlt h3)) <;> cbv
      · rw [zi_toNat] at h3
        refine add_c' (fun _ => (accS (ns .o) k).1) (fun _ => ⟨2, IntKind.i64.wrap ((IntKind.i64.wrap ((ns .o).getD (zi (2 * k)).toNat 0)).tdiv 2), (IntKind.i64.wrap ((ns .o).getD (zi (2 * k + 1)).toNat 0)).tmod 8⟩) (by omega) ?_
        cbv
        have e : accS (ns .o) (k + 1) = (addS ⟨2, ((ns .o).getD (2 * k) 0).tdiv 2, ((ns .o).getD (2 * k + 1) 0).tmod 8⟩ (accS (ns .o) k).1, (accS (ns .o) k).2) := by
          rw [accS, if_pos h3]
        refine ⟨k + 1, by omega, by omega, ?_⟩
        cbv
        rw [e]
        dsimp only
        rw [zi_toNat, zi_toNat, hb, hb, hq]
        (repeat' (first | exact True.intro | exact Same.refl _ | exact SameB.refl _ | exact ⟨rfl⟩ | exact Same.int rfl | exact Same.str rfl | exact Same.bool rfl | (refine Same.int ?_; simp only [List.length_append, List.length_cons, List.length_nil, zi]; omega) | (refine SameB.row' rfl fun i hi => ?_; first | rfl | exact absurd hi (Nat.not_lt_zero _)) | refine And.intro ?_ ?_ | refine SameB.cells ?_ | exact SameC.nil | refine SameC.cons ?_ ?_ | exact Same.nsl rfl | exact Same.tt rfl | exact Same.ff rfl))
        exact Same.int (by rw [IntKind.wrap_i64]; unfold zi; omega)
      · rw [zi_toNat] at h3
        refine add_c' (fun _ => (accS (ns .o) k).2) (fun _ => ⟨4, IntKind.i64.wrap ((IntKind.i64.wrap ((ns .o).getD (zi (2 * k)).toNat 0)).tdiv 2), (IntKind.i64.wrap ((ns .o).getD (zi (2 * k + 1)).toNat 0)).tmod 8⟩) (by omega) ?_
        cbv
        have e : accS (ns .o) (k + 1) = ((accS (ns .o) k).1, addS ⟨4, ((ns .o).getD (2 * k) 0).tdiv 2, ((ns .o).getD (2 * k + 1) 0).tmod 8⟩ (accS (ns .o) k).2) := by
          rw [accS, if_neg h3]
        refine ⟨k + 1, by omega, by omega, ?_⟩
        cbv
        rw [e]
        dsimp only
        rw [zi_toNat, zi_toNat, hb, hb, hq]
        (repeat' (first | exact True.intro | exact Same.refl _ | exact SameB.refl _ | exact ⟨rfl⟩ | exact Same.int rfl | exact Same.str rfl | exact Same.bool rfl | (refine Same.int ?_; simp only [List.length_append, List.length_cons, List.length_nil, zi]; omega) | (refine SameB.row' rfl fun i hi => ?_; first | rfl | exact absurd hi (Nat.not_lt_zero _)) | refine And.intro ?_ ?_ | refine SameB.cells ?_ | exact SameC.nil | refine SameC.cons ?_ ?_ | exact Same.nsl rfl | exact Same.tt rfl | exact Same.ff rfl))
        exact Same.int (by rw [IntKind.wrap_i64]; unfold zi; omega)
    all_goals
      have hk6 : k = pairs (ns .o) := by omega
      refine app_rows Ace.ch Ace.z [⟨1, 0, band ((m .o).fdiv (2 ^ 6)) 7⟩] (accS (ns .o) k).1 rfl (fun i hi => by
        have : i = 0 := by simpa using hi
        subst this
        rfl) rfl (fun i hi => rfl) (by simp only [List.length_cons, List.length_nil]; omega) ?_
      cbv
      have hsum : IntKind.i64.wrap (zi (accS (ns .o) k).1.length + zi (accS (ns .o) k).2.length) = zi ((accS (ns .o) k).1.length + (accS (ns .o) k).2.length) := by rw [IntKind.wrap_i64]; unfold zi; omega
      rw [hsum]
      ((try refine br_rev ?_); (first | refine br_dec (fun h3 => ?_) (fun h3 => ?_) | refine br_ndec (fun h3 => ?_) (fun h3 => ?_) | refine br_nbool (fun h3 => ?_) (fun h3 => ?_) | refine br_bool (fun h3 => ?_) (fun h3 => ?_)); all_goals (try dsimp only at h3); all_goals (try with_reducible replace h3 := zi_lt.1 h3); all_goals (try with_reducible replace h3 := not_zlt h3)) <;> cbv
    all_goals first
      | (refine app_rows Ace.ch Ace.z ([⟨1, 0, band ((m .o).fdiv (2 ^ 6)) 7⟩] ++ (accS (ns .o) k).1) [⟨3, 0, band ((m .o).fdiv (2 ^ 3)) 7⟩, ⟨6, 0, band (m .o) 7⟩] rfl (fun i hi => rfl) rfl (fun i hi => by
           have hi : i < 2 := hi
           match i, hi with
           | 0, _ => rfl
           | 1, _ => rfl) (by simp only [List.length_append, List.length_cons, List.length_nil]; omega) ?_
         cbv
         exact hr (fun _ => _) (by
           have h3' : (accS (ns .o) (pairs (ns .o))).1.length + (accS (ns .o) (pairs (ns .o))).2.length = 0 := by rw [← hk6]; exact zi_inj.1 h3
           unfold l9S
           dsimp only
           rw [if_pos h3', ← hk6])
         done)
      | (have h3' : ¬ (accS (ns .o) (pairs (ns .o))).1.length + (accS (ns .o) (pairs (ns .o))).2.length = 0 := by rw [← hk6]; exact fun q => h3 (zi_inj.2 q)
         have hpos : 0 < (ns .o).length := by
           rw [← hk6] at h3'
           omega
         refine safe ⟨Int.le_refl _, (zi_lt (a := 0)).2 hpos⟩ ?_
         refine safe (by decide) ?_
         rw [wrap_byte (byte_at hns (k := (0 : Int).toNat))]
         refine app_one Ace.ch Ace.z ([⟨1, 0, band ((m .o).fdiv (2 ^ 6)) 7⟩] ++ (accS (ns .o) k).1) ⟨3, 0, bxor (band ((m .o).fdiv (2 ^ 3)) 7) (((ns .o).getD 0 0).tmod 8)⟩ rfl (fun i hi => rfl) rfl rfl (by simp only [List.length_append, List.length_cons, List.length_nil]; omega) ?_
         cbv
         refine app_rows Ace.ch Ace.z _ (accS (ns .o) k).2 rfl (fun i hi => rfl) rfl (fun i hi => rfl) (by simp only [List.length_append, List.length_cons, List.length_nil]; omega) ?_
         cbv
         refine app_rows Ace.ch Ace.z _ [⟨5, 0, band ((m .o).fdiv (2 ^ 3)) 7⟩, ⟨6, 0, band (m .o) 7⟩] rfl (fun i hi => rfl) rfl (fun i hi => by
           have hi : i < 2 := hi
           match i, hi with
           | 0, _ => rfl
           | 1, _ => rfl) (by simp only [List.length_append, List.length_cons, List.length_nil]; omega) ?_
         cbv
         exact hr (fun _ => _) (by
           unfold l9S
           dsimp only
           rw [if_neg h3', ← hk6])
         done)
end Go.Proofs.Ytgjlkcdnlndlnaa
/- What the laws make by numbers: names with values. -/
namespace Go.Proofs.Ytgjlkcdnlndlnaa
open Go Go.Proofs.Ytgjlkcdnlndlnaa.Sx F
set_option linter.unusedVariables false
set_option linter.unusedSimpArgs false
theorem lt_irr : ∀ a : List UInt8, strLt a a = false
  | [] => rfl
  | x :: r => by
    have := lt_irr r
    unfold strLt at *
    simp [Op.bytesLess, this]
theorem lt_trans' : ∀ {a b c : List UInt8}, strLt a b = true → strLt b c = true → strLt a c = true
  | _, _, [], _, h => by unfold strLt at h; simp [Op.bytesLess] at h
  | _, [], _ :: _, h, _ => by unfold strLt at h; simp [Op.bytesLess] at h
  | [], _ :: _, _ :: _, _, _ => rfl
  | x :: a, y :: b, z :: c, h, k => by
    have ih := @lt_trans' a b c
    unfold strLt at *
    simp only [Op.bytesLess, Bool.or_eq_true, Bool.and_eq_true, decide_eq_true_eq, beq_iff_eq] at *
    rcases h with h | ⟨rfl, h⟩
    · rcases k with k | ⟨rfl, k⟩
      · exact .inl (UInt8.lt_trans h k)
      · exact .inl h
    · rcases k with k | ⟨rfl, k⟩
      · exact .inl k
      · exact .inr ⟨rfl, ih h k⟩
theorem lt_tri : ∀ {a b : List UInt8}, strLt a b = false → a ≠ b → strLt b a = true
  | [], [], _, h => (h rfl).elim
  | [], _ :: _, h, _ => by unfold strLt at h; simp [Op.bytesLess] at h
  | _ :: _, [], _, _ => rfl
  | x :: a, y :: b, h, k => by
    have ih := @lt_tri a b
    unfold strLt at *
    simp only [Op.bytesLess, Bool.or_eq_true, Bool.and_eq_true, decide_eq_true_eq, beq_iff_eq, Bool.or_eq_false_iff, decide_eq_false_iff_not] at *
    rcases Nat.lt_trichotomy x.toNat y.toNat with q | q | q
    · exact (h.1 (UInt8.lt_iff_toNat_lt.2 q)).elim
    · obtain rfl : x = y := UInt8.toNat_inj.1 q
      simp only [beq_self_eq_true, Bool.true_and] at h
      exact .inr ⟨rfl, ih h.2 fun e => k (by rw [e])⟩
    · exact .inl (UInt8.lt_iff_toNat_lt.2 q)
def ltX (x y : Xattr) : Prop := strLt x.name y.name = true
/-- In order, each name once. -/
def addX (a : Xattr) : List Xattr → List Xattr
  | [] => [a]
  | x :: r => if strLt x.name a.name = true then x :: addX a r else if x.name = a.name then a :: r else a :: x :: r
theorem addX_at (a : Xattr) : ∀ (l : List Xattr) (k : Nat), k ≤ l.length → (∀ j, j < k → strLt (l.getD j Xattr.z).name a.name = true) → (k < l.length → ¬ strLt (l.getD k Xattr.z).name a.name = true) →
    addX a l = l.take k ++ a :: (if k < l.length ∧ (l.getD k Xattr.z).name = a.name then l.drop (k + 1) else l.drop k)
  | [], k, hk, _, _ => by simp at hk; subst hk; simp [addX]
  | x :: r, 0, _, _, h => by
    have h := h (by simp)
    simp at h
    simp [addX]
    by_cases he : x.name = a.name
    · simp [he, lt_irr]
    · simp [h, he]
  | x :: r, k + 1, hk, hj, h => by
    have h0 := hj 0 (by omega)
    have := addX_at a r k (by simpa using hk) (fun j hj' => by simpa using hj (j + 1) (by omega)) (fun q => by simpa using h (by simpa using q))
    simp at h0
    simp [addX, h0, this]
theorem addX_mem {a x : Xattr} : ∀ {l : List Xattr}, x ∈ addX a l → x = a ∨ x ∈ l
  | [], h => by simp [addX] at h; exact .inl h
  | y :: r, h => by
    unfold addX at h
    split at h
    · rcases List.mem_cons.1 h with h | h
      · exact .inr (by simp [h])
      · rcases addX_mem h with h | h
        · exact .inl h
        · exact .inr (by simp [h])
    · split at h
      · rcases List.mem_cons.1 h with h | h
        · exact .inl h
        · exact .inr (by simp [h])
      · rcases List.mem_cons.1 h with h | h
        · exact .inl h
        · exact .inr h
theorem addX_up (a : Xattr) : ∀ l : List Xattr, l.Pairwise ltX → (addX a l).Pairwise ltX
  | [], _ => by simp [addX]
  | x :: r, h => by
    obtain ⟨h1, h2⟩ := List.pairwise_cons.1 h
    unfold addX
    split
    · rename_i hlt
      refine List.pairwise_cons.2 ⟨fun y hy => ?_, addX_up a r h2⟩
      rcases addX_mem hy with rfl | hy
      · exact hlt
      · exact h1 y hy
    · rename_i hlt
      split
      · rename_i he
        exact List.pairwise_cons.2 ⟨fun y hy => by unfold ltX; rw [← he]; exact h1 y hy, h2⟩
      · rename_i hne
        have ha : ltX a x := lt_tri (by simpa using hlt) hne
        refine List.pairwise_cons.2 ⟨fun y hy => ?_, h⟩
        rcases List.mem_cons.1 hy with rfl | hy
        · exact ha
        · exact lt_trans' ha (h1 y hy)
theorem addX_len (a : Xattr) : ∀ l : List Xattr, (addX a l).length ≤ l.length + 1
  | [] => by simp [addX]
  | x :: r => by
    have := addX_len a r
    unfold addX
    split
    · simp; omega
    · split <;> simp
theorem addxs_c (l : Th (List Xattr)) (a : Th Xattr) (hl : (l .o).length ≤ 1000) {d : Nat} {K : ARes → BL → Prop} (hr : ∀ r : Th (List Xattr), r .o = addX (a .o) (l .o) → K (.ret (xattrs r)) .nil) : CallAt PT l13_add [xattrs l, Xattr.av a] d .nil K := by
  refine l13_add.of rfl rfl ?_
  cbv
  refine loop_rule (X := Nat) 1000 [0, 3] [3] (fun k => .cons 5 (.int .i64 fun _ => zi k) .nil) (fun _ => .nil) (fun k => k ≤ (l .o).length ∧ ∀ j, j < k → strLt ((l .o).getD j Xattr.z).name (a .o).name = true) (fun k => (l .o).length - k) 0 ?_ ⟨Nat.zero_le _, fun j hj => by omega⟩ ?_
  · cbv
    (repeat' (first | exact True.intro | exact Same.refl _ | exact SameB.refl _ | exact ⟨rfl⟩ | exact Same.int rfl | exact Same.str rfl | exact Same.bool rfl | (refine Same.int ?_; simp only [List.length_append, List.length_cons, List.length_nil, zi]; omega) | (refine SameB.row' rfl fun i hi => ?_; first | rfl | exact absurd hi (Nat.not_lt_zero _)) | refine And.intro ?_ ?_ | refine SameB.cells ?_ | exact SameC.nil | refine SameC.cons ?_ ?_ | exact Same.nsl rfl | exact Same.tt rfl | exact Same.ff rfl))
  · intro k hk
    obtain ⟨hk, hj⟩ := hk
    have fin : (k < (l .o).length → ¬ strLt ((l .o).getD k Xattr.z).name (a .o).name = true) → addX (a .o) (l .o) = (l .o).take k ++ (a .o) :: (if k < (l .o).length ∧ ((l .o).getD k Xattr.z).name = (a .o).name then (l .o).drop (k + 1) else (l .o).drop k) := addX_at _ _ k hk hj
    have hz := zi_toNat k
    cbv
    ((try refine br_rev ?_); (first | refine br_dec (fun h1 => ?_) (fun h1 => ?_) | refine br_ndec (fun h1 => ?_) (fun h1 => ?_) | refine br_nbool (fun h1 => ?_) (fun h1 => ?_) | refine br_bool (fun h1 => ?_) (fun h1 => ?_)); all_goals (try dsimp only at h1); all_goals (try with_reducible replace h1 := zi_lt.1 h1); all_goals (try with_reducible replace h1 := not_zlt h1)) <;> cbv
    focus (refine safe ⟨zi_nonneg _, zi_lt.2 (by omega)⟩ ?_; cbv; ((try refine br_rev ?_); (first | refine br_dec (fun h2 => ?_) (fun h2 => ?_) | refine br_ndec (fun h2 => ?_) (fun h2 => ?_) | refine br_nbool (fun h2 => ?_) (fun h2 => ?_) | refine br_bool (fun h2 => ?_) (fun h2 => ?_)); all_goals (try dsimp only at h2); all_goals (try with_reducible replace h2 := zi_lt.1 h2); all_goals (try with_reducible replace h2 := not_zlt h2)) <;> cbv)
    · rw [hz] at h2
      refine ⟨k + 1, ⟨h1, fun j hj' => ?_⟩, by omega, ?_⟩
      · by_cases he : j = k
        · subst he; exact h2
        · exact hj j (by omega)
      · cbv
        rw [zi_succ (by omega)]
        (repeat' (first | exact True.intro | exact Same.refl _ | exact SameB.refl _ | exact ⟨rfl⟩ | exact Same.int rfl | exact Same.str rfl | exact Same.bool rfl | (refine Same.int ?_; simp only [List.length_append, List.length_cons, List.length_nil, zi]; omega) | (refine SameB.row' rfl fun i hi => ?_; first | rfl | exact absurd hi (Nat.not_lt_zero _)) | refine And.intro ?_ ?_ | refine SameB.cells ?_ | exact SameC.nil | refine SameC.cons ?_ ?_ | exact Same.nsl rfl | exact Same.tt rfl | exact Same.ff rfl))
    focus (rw [hz] at h2; replace fin := fin fun _ => by rw [h2]; decide)
    rotate_left
    focus (replace fin := fin fun q => by omega)
    all_goals
      refine safe ⟨zi_nonneg _, zi_le.2 hk, Int.le_refl _⟩ ?_
      refine app_rows0 Xattr.ch Xattr.z ((l .o).drop k) rfl (by simp [zi]) (fun i hi => by simp only [getD_drop]; rfl) (by simp only [List.length_drop]; omega) ?_
      cbv
      ((try refine br_rev ?_); (first | refine br_dec (fun h3 => ?_) (fun h3 => ?_) | refine br_ndec (fun h3 => ?_) (fun h3 => ?_) | refine br_nbool (fun h3 => ?_) (fun h3 => ?_) | refine br_bool (fun h3 => ?_) (fun h3 => ?_)); all_goals (try dsimp only at h3); all_goals (try with_reducible replace h3 := zi_lt.1 h3); all_goals (try with_reducible replace h3 := not_zlt h3))
    all_goals cbv
    all_goals try (have h3' : 0 < ((l .o).drop k).length := zi_lt.1 h3; refine safe ⟨Int.le_refl _, h3⟩ ?_; refine safe h3' ?_; cbv; ((try refine br_rev ?_); (first | refine br_dec (fun h4 => ?_) (fun h4 => ?_) | refine br_ndec (fun h4 => ?_) (fun h4 => ?_) | refine br_nbool (fun h4 => ?_) (fun h4 => ?_) | refine br_bool (fun h4 => ?_) (fun h4 => ?_)); all_goals (try dsimp only at h4); all_goals (try with_reducible replace h4 := zi_lt.1 h4); all_goals (try with_reducible replace h4 := not_zlt h4)))
    all_goals cbv
    all_goals have htk : ((l .o).take k).length = k := by rw [List.length_take]; omega
    all_goals try refine safe ⟨by decide, zi_le.2 h3', Int.le_refl _⟩ ?_
    all_goals
      refine safe ⟨Int.le_refl _, zi_nonneg _, zi_le.2 hk⟩ ?_
      refine app_rows0 Xattr.ch Xattr.z ((l .o).take k) rfl (by rw [htk]; simp [zi]) (fun i hi => by rw [htk] at hi; simp only [getD_take _ _ _ _ hi]; exact congrArg (fun j => Xattr.ch fun _ => (l .o).getD j Xattr.z) (by simp)) (by rw [htk]; omega) ?_
      cbv
      refine app_one Xattr.ch Xattr.z _ (a .o) rfl (fun i hi => rfl) rfl rfl (by rw [htk]; omega) ?_
      cbv
    all_goals first
      | (refine app_rows Xattr.ch Xattr.z ((l .o).take k ++ [a .o]) ((l .o).drop k) rfl (fun i hi => rfl) rfl (fun i hi => rfl) (by rw [List.length_append, htk, List.length_drop]; simp only [List.length_cons, List.length_nil]; omega) ?_
         cbv
         exact hr (fun _ => (l .o).take k ++ [a .o] ++ (l .o).drop k) (by
           rw [fin, if_neg (by
             rintro ⟨q1, q2⟩
             first
             | exact h4 (by simpa [getD_drop] using q2)
             | exact h3 ((zi_lt (a := 0)).2 (by rw [List.length_drop]; omega)))]
           simp)
         done)
      | (refine app_rows Xattr.ch Xattr.z ((l .o).take k ++ [a .o]) ((l .o).drop (k + 1)) rfl (fun i hi => rfl) (by simp [zi]; omega) (fun i hi => by simp only [getD_drop]; exact congrArg (fun j => Xattr.ch fun _ => (l .o).getD j Xattr.z) (by simp [Nat.add_assoc])) (by simp only [List.length_append, htk, List.length_drop, List.length_cons, List.length_nil]; omega) ?_
         cbv
         exact hr (fun _ => (l .o).take k ++ [a .o] ++ (l .o).drop (k + 1)) (by
           rw [fin, if_pos ⟨by rw [List.length_drop] at h3'; omega, by simpa [getD_drop] using h4⟩]
           simp)
         done)
def byteCh (a : Th Int) : AV := .cons (.int .u8 a) .nil
theorem getD_all {α : Type} {p : α → Prop} {z : α} (hz : p z) : ∀ (l : List α) (n : Nat), (∀ x ∈ l, p x) → p (l.getD n z)
  | [], _, _ => by simpa using hz
  | x :: r, 0, h => by simpa using h x (by simp)
  | x :: r, n + 1, h => by simpa using getD_all hz r n fun y hy => h y (by simp [hy])
theorem bytesN_len (n : Nat) (g : Th Nat → AV) : (bytesN n g).length = n := by simp [bytesN]
/-- Of few bytes, none of which is nought. -/
def MadeX (x : Xattr) : Prop := x.name.length ≤ 11 ∧ x.name ≠ [] ∧ ¬ (0 : UInt8) ∈ x.name ∧ x.value.length ≤ 19
structure MadeXs (l : List Xattr) : Prop where
  made : ∀ x ∈ l, MadeX x
  up : l.Pairwise ltX
  len : l.length ≤ 6
theorem MadeXs.add {l : List Xattr} {x : Xattr} (h : MadeXs l) (hx : MadeX x) (hl : l.length < 6) : MadeXs (addX x l) :=
  ⟨fun y hy => by rcases addX_mem hy with rfl | hy; exact hx; exact h.made y hy, addX_up x l h.up, by have := addX_len x l; omega⟩
theorem MadeXs.nil : MadeXs [] := ⟨fun x hx => (by cases hx), List.Pairwise.nil, by decide⟩
theorem two_bytes {g : Th Nat → AV} (q : (0 : UInt8) ∈ bytesN 2 g) (a b : Int) (h0 : byteAt (g fun _ => 0) = a) (h1 : byteAt (g fun _ => 1) = b) (ha : 0 < a ∧ a < 256) (hb : 0 < b ∧ b < 256) : False := by
  have q : (0 : UInt8) ∈ [UInt8.ofNat (byteAt (g fun _ => 0)).toNat, UInt8.ofNat (byteAt (g fun _ => 1)).toNat] := q
  rw [h0, h1] at q
  have no : ∀ x : Int, 0 < x ∧ x < 256 → (0 : UInt8) ≠ UInt8.ofNat x.toNat := fun x hx e => by
    have e := congrArg UInt8.toNat e
    rw [UInt8.toNat_ofNat'] at e
    have e : 0 = x.toNat % 256 := e
    omega
  rcases List.mem_cons.1 q with q | q
  · exact no a ha q
  · rcases List.mem_cons.1 q with q | q
    · exact no b hb q
    · cases q
theorem byteA {x : Int} (hx : 0 ≤ x ∧ x < 256) : 0 < IntKind.u8.wrap (97 + (IntKind.u8.wrap (x.tdiv 5)).tmod 20) ∧ IntKind.u8.wrap (97 + (IntKind.u8.wrap (x.tdiv 5)).tmod 20) < 256 := by
  simp only [IntKind.wrap_u8]
  rw [Int.tdiv_eq_ediv_of_nonneg hx.1, Int.tmod_eq_emod_of_nonneg (by omega)]
  omega
theorem byteB {x : Int} (hx : 0 ≤ x ∧ x < 256) : 0 < IntKind.u8.wrap (1 + x.tmod 255) ∧ IntKind.u8.wrap (1 + x.tmod 255) < 256 := by
  simp only [IntKind.wrap_u8]
  rw [Int.tmod_eq_emod_of_nonneg hx.1]
  omega
def preX : List (Th (List UInt8)) := [fun _ => [117, 115, 101, 114, 46], fun _ => [116, 114, 117, 115, 116, 101, 100, 46], fun _ => [115, 101, 99, 117, 114, 105, 116, 121, 46], fun _ => [120, 61], fun _ => [255]]
def byteI' (x : Int) : UInt8 := UInt8.ofNat x.toNat
def nameX (a b : Int) : List UInt8 := (preX.getD (a.tmod 5).toNat fun _ => [117, 115, 101, 114, 46]) .o ++ [byteI' (IntKind.u8.wrap (97 + (IntKind.u8.wrap (a.tdiv 5)).tmod 20)), byteI' (IntKind.u8.wrap (1 + b.tmod 255))]
def valB (a : Int) (j : Nat) : Int := IntKind.u8.wrap (a * IntKind.u8.wrap (IntKind.i64.wrap (zi j + 1)))
def valX (a : Int) (n : Nat) : List UInt8 := (List.range n).map fun j => byteI' (valB a j)
def oneX (ns : List Int) (k : Nat) : Xattr := ⟨nameX (ns.getD (2 * k) 0) (ns.getD (2 * k + 1) 0), valX (ns.getD (2 * k) 0) ((IntKind.i64.wrap (ns.getD (2 * k + 1) 0)).tmod 20).toNat⟩
def accX (ns : List Int) : Nat → List Xattr
  | 0 => []
  | k + 1 => addX (oneX ns k) (accX ns k)
def goX (ns : List Int) (k : Nat) : Prop := 2 * k + 1 < ns.length ∧ (accX ns k).length < 6
/-- What is made of these numbers. -/
def Is13 (ns : List Int) (r : List Xattr) : Prop := ∃ k, r = accX ns k ∧ (∀ j, j < k → goX ns j) ∧ ¬ goX ns k
theorem l13e_c (ns : Th (List Int)) (hns : isBytes (ns .o)) (hs : short (ns .o)) {d : Nat} {K : ARes → BL → Prop} (hr : ∀ r : Th (List Xattr), MadeXs (r .o) → Is13 (ns .o) (r .o) → K (.ret (xattrs r)) .nil) : CallAt PT l13_Make [byteI ns] d .nil K := by
  refine l13_Make.of rfl rfl ?_
  (cbv; repeat (refine safe (by first | decide | (simp only [zi] at *; omega) | assumption | (dsimp only; omega) | (dsimp only at *; simp only [List.length_append, List.length_cons, List.length_nil, zi] at *; omega)) ?_; cbv))
  refine loop_rule (X := Nat × List Xattr) 1000 [0] [] (fun x => .cons 3 (xattrs fun _ => x.2) (.cons 4 (.int .i64 fun _ => zi (2 * x.1)) .nil)) (fun _ => .nil) (fun x => MadeXs x.2 ∧ 2 * x.1 ≤ (ns .o).length ∧ x.2 = accX (ns .o) x.1 ∧ ∀ j, j < x.1 → goX (ns .o) j) (fun x => (ns .o).length - 2 * x.1) (0, []) ?_ ⟨MadeXs.nil, by simp, rfl, fun j hj => (Nat.not_lt_zero _ hj).elim⟩ ?_
  · cbv
    (repeat' (first | exact True.intro | exact Same.refl _ | exact SameB.refl _ | exact ⟨rfl⟩ | exact Same.int rfl | exact Same.str rfl | exact Same.bool rfl | (refine Same.int ?_; simp only [List.length_append, List.length_cons, List.length_nil, zi]; omega) | (refine SameB.row' rfl fun i hi => ?_; first | rfl | exact absurd hi (Nat.not_lt_zero _)) | refine And.intro ?_ ?_ | refine SameB.cells ?_ | exact SameC.nil | refine SameC.cons ?_ ?_ | exact Same.nsl rfl | exact Same.tt rfl | exact Same.ff rfl))
    all_goals exact Same.nsl rfl
  · rintro ⟨k, l⟩ ⟨hk, hk2, hacc, hgo⟩
    dsimp only at hacc hgo
    unfold short at hs
    have hsucc : IntKind.i64.wrap (zi (2 * k) + 1) = zi (2 * k + 1) := zi_succ (by omega)
    cbv
    rw [hsucc]
    ((try refine br_rev ?_); (first | refine br_dec (fun h1 => ?_) (fun h1 => ?_) | refine br_ndec (fun h1 => ?_) (fun h1 => ?_) | refine br_nbool (fun h1 => ?_) (fun h1 => ?_) | refine br_bool (fun h1 => ?_) (fun h1 => ?_)); all_goals (try dsimp only at h1); all_goals (try with_reducible replace h1 := zi_lt.1 h1); all_goals (try with_reducible replace h1 := not_zlt h1)) <;> cbv
    all_goals try (((try refine br_rev ?_); (first | refine br_dec (fun h2 => ?_) (fun h2 => ?_) | refine br_ndec (fun h2 => ?_) (fun h2 => ?_) | refine br_nbool (fun h2 => ?_) (fun h2 => ?_) | refine br_bool (fun h2 => ?_) (fun h2 => ?_)); all_goals (try dsimp only at h2); all_goals (try with_reducible replace h2 := zi_lt.1 h2); all_goals (try with_reducible replace h2 := not_zlt h2)); replace h2 : l.length < 6 := h2; rotate_left; replace h2 : 6 ≤ l.length := h2; rotate_left)
    all_goals cbv
    rotate_left
    all_goals try exact hr (fun _ => l) hk ⟨k, hacc, hgo, fun q => by
      have q1 := q.1
      have q2 := q.2
      rw [← hacc] at q2
      first
      | exact absurd q2 (Nat.not_lt.2 h2)
      | exact h1 ((zi_lt (a := 2 * k + 1)).2 q1)
      | omega⟩
    have b1 := rest_of (byte_at hns (k := 2 * k + 1)) (m := 20) (by decide)
    refine safe ⟨zi_nonneg _, zi_lt.2 (by show 2 * k < _; omega)⟩ ?_
    refine safe (by decide) ?_
    refine safe ⟨Int.tmod_nonneg _ (byte_at hns).1, Int.tmod_lt_of_pos _ (by decide)⟩ ?_
    refine safe (by
      have h0 : 0 ≤ ((ns .o).getD (zi (2 * k)).toNat 0).tmod 5 := Int.tmod_nonneg _ (byte_at hns).1
      have h5 : ((ns .o).getD (zi (2 * k)).toNat 0).tmod 5 < 5 := Int.tmod_lt_of_pos _ (by decide)
      show (((ns .o).getD (zi (2 * k)).toNat 0).tmod 5).toNat < 5
      omega) ?_
    refine safe ⟨zi_nonneg _, zi_lt.2 (by show 2 * k < _; omega)⟩ ?_
    refine safe (by decide) ?_
    refine safe (by decide) ?_
    refine safe (by show 0 ≤ IntKind.i64.wrap (zi (2 * k) + 1) ∧ IntKind.i64.wrap (zi (2 * k) + 1) < _; rw [hsucc]; exact ⟨zi_nonneg _, zi_lt.2 h1⟩) ?_
    refine safe (by decide) ?_
    refine safe (fun i hi => ⟨_, rfl⟩) ?_
    refine safe (by
      dsimp only
      rw [bytesN_len]
      refine Nat.le_trans (Nat.add_le_add_right (getD_all (p := fun t : Th (List UInt8) => (t .o).length ≤ 9) (by decide) _ _ (by simp)) 2) (by decide)) ?_
    refine safe (by show 0 ≤ IntKind.i64.wrap (zi (2 * k) + 1) ∧ IntKind.i64.wrap (zi (2 * k) + 1) < _; rw [hsucc]; exact ⟨zi_nonneg _, zi_lt.2 h1⟩) ?_
    refine safe (by decide) ?_
    dsimp only
    rw [hsucc, zi_toNat]
    generalize hv : (IntKind.i64.wrap ((ns .o).getD (2 * k + 1) 0)).tmod 20 = v at b1
    refine safe ⟨b1.1, Int.le_refl _, by show 1 * v ≤ _; omega, by omega⟩ ?_
    refine loop_at (X := Nat × List Int) 1000 [0, 3, 4, 5, 6] [] (fun _ x => .cons 7 (.int .i64 fun _ => zi x.1) .nil) (fun _ x => .cons 52 (rowB 1 byteCh 0 fun _ => x.2) .nil) (fun x => x.1 ≤ v.toNat ∧ x.2.length = v.toNat ∧ ∀ j', j' < x.1 → x.2.getD j' 0 = valB ((ns .o).getD (2 * k) 0) j') (fun x => v.toNat - x.1) (0, List.replicate v.toNat 0) ?_ ⟨by simp, by simp, fun j' hj' => (Nat.not_lt_zero _ hj').elim⟩ ?_
    · cbv
      (repeat' (first | exact True.intro | exact Same.refl _ | exact SameB.refl _ | exact ⟨rfl⟩ | exact Same.int rfl | exact Same.str rfl | exact Same.bool rfl | (refine Same.int ?_; simp only [List.length_append, List.length_cons, List.length_nil, zi]; omega) | (refine SameB.row' rfl fun i hi => ?_; first | rfl | exact absurd hi (Nat.not_lt_zero _)) | refine And.intro ?_ ?_ | refine SameB.cells ?_ | exact SameC.nil | refine SameC.cons ?_ ?_ | exact Same.nsl rfl | exact Same.tt rfl | exact Same.ff rfl))
      all_goals
        refine SameB.row' (by simp) fun i hi => ?_
        show byteCh (fun _ => 0) = byteCh fun _ => (List.replicate v.toNat 0).getD i 0
        congr 1
        funext _
        rw [List.getD_eq_getElem?_getD, List.getElem?_replicate]
        split <;> rfl
    · rintro ⟨j, bs⟩ ⟨hj, hbs, hval⟩
      dsimp only at hj hbs hval
      cbv
      ((try refine br_rev ?_); (first | refine br_dec (fun h3 => ?_) (fun h3 => ?_) | refine br_ndec (fun h3 => ?_) (fun h3 => ?_) | refine br_nbool (fun h3 => ?_) (fun h3 => ?_) | refine br_bool (fun h3 => ?_) (fun h3 => ?_)); all_goals (try dsimp only at h3); all_goals (try with_reducible replace h3 := zi_lt.1 h3); all_goals (try with_reducible replace h3 := not_zlt h3)) <;> cbv
      · refine safe ⟨zi_nonneg _, zi_lt.2 (by omega)⟩ ?_
        refine safe ⟨zi_nonneg _, zi_lt.2 h3⟩ ?_
        refine put_rows byteCh 0 bs (IntKind.u8.wrap ((ns .o).getD (zi (2 * k)).toNat 0 * IntKind.u8.wrap (IntKind.i64.wrap (zi j + 1)))) rfl (fun i hi => rfl) (by show (zi j).toNat < _; rw [zi_toNat]; exact h3) rfl ?_
        cbv
        refine ⟨(j + 1, bs.set (zi j).toNat (IntKind.u8.wrap ((ns .o).getD (zi (2 * k)).toNat 0 * IntKind.u8.wrap (IntKind.i64.wrap (zi j + 1))))), ⟨by show j + 1 ≤ _; omega, by rw [List.length_set]; exact hbs, fun j' hj' => by
          have hj' : j' < j + 1 := hj'
          show (bs.set (zi j).toNat _).getD j' 0 = _
          rw [zi_toNat, zi_toNat]
          by_cases e : j' = j
          · subst e
            rw [List.getD_eq_getElem?_getD, List.getElem?_set_self (by omega)]; rfl
          · rw [List.getD_eq_getElem?_getD, List.getElem?_set_ne (Ne.symm e), ← List.getD_eq_getElem?_getD]
            exact hval j' (by omega)⟩, by show _ - (j + 1) < _ - j; omega, ?_⟩
        have hsj : IntKind.i64.wrap (zi j + 1) = zi (j + 1) := zi_succ (by omega)
        cbv
        (repeat' (first | exact True.intro | exact Same.refl _ | exact SameB.refl _ | exact ⟨rfl⟩ | exact Same.int rfl | exact Same.str rfl | exact Same.bool rfl | (refine Same.int ?_; simp only [List.length_append, List.length_cons, List.length_nil, zi]; omega) | (refine SameB.row' rfl fun i hi => ?_; first | rfl | exact absurd hi (Nat.not_lt_zero _)) | refine And.intro ?_ ?_ | refine SameB.cells ?_ | exact SameC.nil | refine SameC.cons ?_ ?_ | exact Same.nsl rfl | exact Same.tt rfl | exact Same.ff rfl))
        · exact Same.int hsj
        · exact SameB.row' (by show bs.length = (bs.set _ _).length; rw [List.length_set]) fun i hi => rfl
      · refine safe (fun i hi => ⟨_, rfl⟩) ?_
        refine addxs_c (fun _ => l) (fun _ => ⟨_, _⟩) (by show l.length ≤ 1000; omega) fun r hr' => ?_
        replace hr' : r .o = addX ⟨_, _⟩ l := hr'
        have hmade : MadeXs (r .o) := by
          rw [hr']
          refine hk.add ⟨?_, ?_, ?_, ?_⟩ h2
          · show (_ ++ bytesN 2 _).length ≤ 11
            rw [List.length_append, bytesN_len]
            exact Nat.le_trans (Nat.add_le_add_right (getD_all (p := fun t : Th (List UInt8) => (t .o).length ≤ 9) (by decide) _ _ (by simp)) 2) (by decide)
          · intro e
            have e := congrArg List.length e
            revert e
            show (_ ++ bytesN 2 _).length = 0 → False
            rw [List.length_append, bytesN_len]
            omega
          · show ¬ (0 : UInt8) ∈ _ ++ bytesN 2 _
            rw [List.mem_append]
            rintro (q | q)
            · exact getD_all (p := fun t : Th (List UInt8) => ¬ (0 : UInt8) ∈ t .o) (by decide) _ _ (by simp) q
            · exact two_bytes q _ _ rfl rfl (byteA (byte_at hns)) (byteB (byte_at hns))
          · show (List.map _ (List.range bs.length)).length ≤ 19
            rw [List.length_map, List.length_range]
            omega
        have hacc' : r .o = accX (ns .o) (k + 1) := by
          rw [hr']
          show addX _ l = addX (oneX (ns .o) k) (accX (ns .o) k)
          rw [← hacc]
          congr 1
          unfold oneX
          congr 1
          · rw [zi_toNat]
            unfold nameX preX
            refine congr (congrArg _ ?_) ?_
            · refine congrArg (fun t : Th (List UInt8) => t .o) (congrArg (fun n => List.getD _ n _) ?_)
              generalize ns .o = L
              generalize k = q
              cases q <;> cases L <;> rfl
            · rfl
          · show (List.range bs.length).map _ = valX _ _
            rw [hv, hbs]
            unfold valX
            refine List.map_congr_left fun i hi => ?_
            rw [← hval i (by have := List.mem_range.1 hi; omega)]; rfl
        have hgo' : ∀ j, j < k + 1 → goX (ns .o) j := fun j' hj' => by
          by_cases e : j' = k
          · subst e; exact ⟨h1, by rw [← hacc]; exact h2⟩
          · exact hgo j' (by omega)
        cbv
        refine ⟨(k + 1, r .o), ⟨hmade, by show 2 * (k + 1) ≤ _; omega, hacc', hgo'⟩, by show _ - 2 * (k + 1) < _ - 2 * k; omega, ?_⟩
        cbv
        (repeat' (first | exact True.intro | exact Same.refl _ | exact SameB.refl _ | exact ⟨rfl⟩ | exact Same.int rfl | exact Same.str rfl | exact Same.bool rfl | (refine Same.int ?_; simp only [List.length_append, List.length_cons, List.length_nil, zi]; omega) | (refine SameB.row' rfl fun i hi => ?_; first | rfl | exact absurd hi (Nat.not_lt_zero _)) | refine And.intro ?_ ?_ | refine SameB.cells ?_ | exact SameC.nil | refine SameC.cons ?_ ?_ | exact Same.nsl rfl | exact Same.tt rfl | exact Same.ff rfl))
        exact Same.int (by show IntKind.i64.wrap (zi (2 * k) + 2) = zi (2 * (k + 1)); rw [IntKind.wrap_i64]; unfold zi; omega)
/-- The rights of a file, by numbers. -/
structure CapsMade (c : Caps) : Prop where
  ver : c.ver = 2 ∨ c.ver = 3
  root2 : c.ver = 2 → c.root = 0
  root3 : 0 ≤ c.root ∧ c.root < 2147483648
def l11S (p i w ro : Int) : Caps := ⟨IntKind.i64.wrap (2 + (IntKind.i64.wrap w).tmod 2), p, i, decide (128 ≤ w), if IntKind.i64.wrap (2 + (IntKind.i64.wrap w).tmod 2) = 3 then (IntKind.i64.wrap ro).fdiv (2 ^ min (Int.toNat 1) IntKind.i64.bits) else 0⟩
theorem l11e_c (p i : Th Int) (w : Th Int) (ro : Th Int) (hw : 0 ≤ w .o ∧ w .o < 256) (hro : 0 ≤ ro .o ∧ ro .o < 4294967296) {d : Nat} {K : ARes → BL → Prop} (hr : ∀ c : Th Caps, CapsMade (c .o) → c .o = l11S (p .o) (i .o) (w .o) (ro .o) → K (.ret (.agg (.cons (.int .i64 fun _ => (c .o).ver) (.cons (.int .u64 fun _ => (c .o).perm) (.cons (.int .u64 fun _ => (c .o).inh) (.cons (.bool fun _ => (c .o).eff) (.cons (.int .i64 fun _ => (c .o).root) .nil))))))) .nil) :
    CallAt PT l11_Make [.int .u64 p, .int .u64 i, .int .u8 w, .int .u32 ro] d .nil K := by
  refine l11_Make.of rfl rfl ?_
  have hm := rest_of hw (m := 2) (by decide)
  have hv : IntKind.i64.wrap (2 + (IntKind.i64.wrap (w .o)).tmod 2) = 2 ∨ IntKind.i64.wrap (2 + (IntKind.i64.wrap (w .o)).tmod 2) = 3 := by
    rw [IntKind.wrap_i64 (2 + _)]
    omega
  (cbv; repeat (refine safe (by first | decide | (simp only [zi] at *; omega) | assumption | (dsimp only; omega) | (dsimp only at *; simp only [List.length_append, List.length_cons, List.length_nil, zi] at *; omega)) ?_; cbv))
  ((try refine br_rev ?_); (first | refine br_dec (fun h1 => ?_) (fun h1 => ?_) | refine br_ndec (fun h1 => ?_) (fun h1 => ?_) | refine br_nbool (fun h1 => ?_) (fun h1 => ?_) | refine br_bool (fun h1 => ?_) (fun h1 => ?_)); all_goals (try dsimp only at h1); all_goals (try with_reducible replace h1 := zi_lt.1 h1); all_goals (try with_reducible replace h1 := not_zlt h1)) <;> cbv
  · refine safe (by decide) ?_
    refine hr (fun _ => ⟨IntKind.i64.wrap (2 + (IntKind.i64.wrap (w .o)).tmod 2), p .o, i .o, decide (128 ≤ w .o), (IntKind.i64.wrap (ro .o)).fdiv (2 ^ min (Int.toNat 1) IntKind.i64.bits)⟩) ⟨hv, fun q => absurd (q.symm.trans h1) (by decide), ?_⟩ (by unfold l11S; rw [if_pos h1])
    show 0 ≤ (IntKind.i64.wrap (ro .o)).fdiv 2 ∧ (IntKind.i64.wrap (ro .o)).fdiv 2 < 2147483648
    rw [show IntKind.i64.wrap (ro .o) = ro .o by rw [IntKind.wrap_i64]; omega, Int.fdiv_eq_ediv_of_nonneg _ (by decide)]
    omega
  · exact hr (fun _ => ⟨IntKind.i64.wrap (2 + (IntKind.i64.wrap (w .o)).tmod 2), p .o, i .o, decide (128 ≤ w .o), 0⟩) ⟨hv, fun _ => rfl, Int.le_refl 0, by show (0 : Int) < 2147483648; decide⟩ (by unfold l11S; rw [if_neg h1])
end Go.Proofs.Ytgjlkcdnlndlnaa
/- What the laws make by numbers: what is kept of a file. -/
namespace Go.Proofs.Ytgjlkcdnlndlnaa
open Go Go.Proofs.Ytgjlkcdnlndlnaa.Sx F
set_option linter.unusedVariables false
set_option linter.unusedSimpArgs false
/-- Number j, of those read so far. -/
def kAt (ns : List Int) (i j : Nat) : Int := if j < i then ns.getD j 0 else 0
theorem kAt_byte {ns : List Int} (h : isBytes ns) (i j : Nat) : 0 ≤ kAt ns i j ∧ kAt ns i j < 256 := by
  unfold kAt; split
  · exact byte_at h
  · decide
/-- What l14.Make makes. -/
structure MadeM (ns : List Int) (m : Meta) : Prop where
  mode : 0 ≤ m.mode ∧ m.mode < 4096
  uid : 0 ≤ m.uid ∧ m.uid < 6
  gid : 0 ≤ m.gid ∧ m.gid < 6
  acl : m.acl = [] ∨ ∃ ns', isBytes ns' ∧ m.acl = l9S ns' (band m.mode 511)
  xs : MadeXs m.xs
/-- What depends on the kind. -/
structure MadeK (k : Int) (m : Meta) : Prop where
  flags : 0 ≤ m.flags ∧ m.flags < 16
  dflt : m.dflt = [] ∨ (k = 6 ∧ ∃ ns' n, isBytes ns' ∧ (0 ≤ n ∧ n < 256) ∧ m.dflt = l9S ns' n)
  caps : m.caps = ⟨0, 0, 0, false, 0⟩ ∨ (k = 1 ∧ CapsMade m.caps)
  sym : k = 3 → m.mode = 511 ∧ m.acl = [] ∧ m.flags = 0
  sec : -50000 ≤ m.sec ∧ m.sec ≤ 205000
  nano : m.nano = 0 ∨ m.nano = 500000000
theorem bytes_drop {l : List Int} (h : isBytes l) (k : Nat) : isBytes (l.drop k) := fun x hx => h x (List.drop_subset _ _ hx)
theorem short_drop {l : List Int} (h : short l) (k : Nat) : short (l.drop k) := by unfold short at *; rw [List.length_drop]; omega
/-- The row from number c on. -/
def fromI (l : Th (List Int)) (c : Th Int) : AV := .sl 1 (fun _ => (zi (l .o).length - c .o).toNat) fun i => .cons (.int .u8 fun _ => (l .o).getD ((c .o).toNat + i .o) 0) .nil
theorem from_same (l : Th (List Int)) (c : Th Int) (hc : 0 ≤ c .o) : Same (fromI l c) (byteI fun _ => (l .o).drop (c .o).toNat) := by
  refine Same.sl ?_ fun i hi => ?_
  · show (zi (l .o).length - c .o).toNat = ((l .o).drop (c .o).toNat).length
    rw [List.length_drop]; unfold zi; omega
  · show (AV.cons (.int .u8 fun _ => (l .o).getD ((c .o).toNat + i) 0) .nil) = AV.cons (.int .u8 fun _ => ((l .o).drop (c .o).toNat).getD i 0) .nil
    rw [getD_drop]
theorem l13e_from (l : Th (List Int)) (c : Th Int) (hc : 0 ≤ c .o) (hns : isBytes (l .o)) (hs : short (l .o)) {d : Nat} {K : ARes → BL → Prop} (hr : ∀ r : Th (List Xattr), MadeXs (r .o) → Is13 ((l .o).drop (c .o).toNat) (r .o) → K (.ret (xattrs r)) .nil) : CallAt PT l13_Make [fromI l c] d .nil K :=
  CallAt.args (.cons (from_same l c hc) .nil) (l13e_c _ (bytes_drop hns _) (short_drop hs _) hr)
theorem l9_from (l : Th (List Int)) (c : Th Int) (m : Th Int) (hc : 0 ≤ c .o) (hns : isBytes (l .o)) (hs : short (l .o)) {d : Nat} {K : ARes → BL → Prop} (hr : ∀ r : Th (List Ace), r .o = l9S ((l .o).drop (c .o).toNat) (m .o) → K (.ret (aces r)) .nil) : CallAt PT l9_Make [fromI l c, .int .i64 m] d .nil K :=
  CallAt.args (.cons (from_same l c hc) (.cons (.refl _) .nil)) (l9_c _ m (bytes_drop hns _) (short_drop hs _) hr)
/-- A Meta told by its parts. -/
theorem meta_ret {K : ARes → BL → Prop} {mode uid gid sec nano ver perm inh root flags : Th Int} {eff : Th Bool} {A D X E : AV} (acl dflt : Th (List Ace)) (xs : Th (List Xattr))
    (hA : Same A (aces acl)) (hD : Same D (aces dflt)) (hX : Same X (xattrs xs)) (hE : Same E (.bool eff))
    (h : K (.ret (Meta.av fun _ => ⟨mode .o, uid .o, gid .o, sec .o, nano .o, acl .o, dflt .o, xs .o, ⟨ver .o, perm .o, inh .o, eff .o, root .o⟩, flags .o⟩)) .nil) :
    ∃ r', SameR (.ret (.agg (.cons (.int .i64 mode) (.cons (.int .i64 uid) (.cons (.int .i64 gid) (.cons (.int .i64 sec) (.cons (.int .i64 nano) (.cons A (.cons D (.cons X
      (.cons (.int .i64 ver) (.cons (.int .u64 perm) (.cons (.int .u64 inh) (.cons E (.cons (.int .i64 root) (.cons (.int .i64 flags) .nil)))))))))))))))) r' ∧ K r' .nil :=
  ⟨_, .ret (y := Meta.av fun _ => ⟨mode .o, uid .o, gid .o, sec .o, nano .o, acl .o, dflt .o, xs .o, ⟨ver .o, perm .o, inh .o, eff .o, root .o⟩, flags .o⟩)
    (.agg (.cons (.int rfl) (.cons (.int rfl) (.cons (.int rfl) (.cons (.int rfl) (.cons (.int rfl) (.cons hA (.cons hD (.cons hX (.cons (.int rfl) (.cons (.int rfl) (.cons (.int rfl) (.cons hE (.cons (.int rfl) (.cons (.int rfl) .nil))))))))))))))), h⟩
theorem wrap_u32 (x : Int) : 0 ≤ IntKind.u32.wrap x ∧ IntKind.u32.wrap x < 4294967296 := by
  rw [IntKind.wrap_u32]; omega
theorem nsl_aces : Same .nsl (aces fun _ => []) := Same.nsl rfl
theorem nsl_xattrs : Same .nsl (xattrs fun _ => []) := Same.nsl rfl
theorem ff_bool : Same .ff (.bool fun _ => false) := Same.ff rfl
/-- Just what is made of these numbers, for this kind, with these names. -/
def l14S (ns : List Int) (kind : Int) (xs : List Xattr) : Meta :=
  let k := kAt ns (min 12 ns.length)
  let mo := if kind = 3 then 511 else IntKind.i64.wrap (IntKind.i64.wrap (k 0 * 16) + (k 1).tmod 16)
  ⟨mo, (k 2).tmod 6, (k 3).tmod 6, IntKind.i64.wrap (IntKind.i64.wrap (k 4 * 1000) - 50000), IntKind.i64.wrap ((k 5).tmod 2 * 500000000),
    if ¬ kind = 3 ∧ (k 7).tmod 2 = 1 then l9S (ns.drop 8) (band mo 511) else [],
    if ¬ kind = 3 ∧ kind = 6 ∧ 2 ≤ (k 7).tmod 4 then l9S (ns.drop (if 9 < zi ns.length then (9 : Int) else zi ns.length).toNat) (k 9) else [],
    xs,
    if ¬ kind = 3 ∧ kind = 1 ∧ (k 10).tmod 3 = 0 ∧ 10 < zi ns.length then l11S (IntKind.u64.wrap (k 8)) (IntKind.u64.wrap (IntKind.u64.wrap (k 9) * 2 ^ min (Int.toNat 40) IntKind.u64.bits)) (ns.getD 10 0) (IntKind.u32.wrap (k 11)) else ⟨0, 0, 0, false, 0⟩,
    if kind = 3 then 0 else (k 6).tmod 16⟩
structure Is14 (ns : List Int) (kind : Int) (m : Meta) : Prop where
  xs : if 12 < zi ns.length then Is13 (ns.drop 12) m.xs else m.xs = []
  rest : m = l14S ns kind m.xs
theorem is14_sym {ns : List Int} {kind : Int} {i : Nat} {xs : List Xattr} (hi : i = min 12 ns.length) (hk : kind = 3) (hx : if 12 < zi ns.length then Is13 (ns.drop 12) xs else xs = []) :
    Is14 ns kind ⟨511, (kAt ns i 2).tmod 6, (kAt ns i 3).tmod 6, IntKind.i64.wrap (IntKind.i64.wrap (kAt ns i 4 * 1000) - 50000), IntKind.i64.wrap ((kAt ns i 5).tmod 2 * 500000000), [], [], xs, ⟨0, 0, 0, false, 0⟩, 0⟩ := by
  subst hi
  subst hk
  exact ⟨hx, by unfold l14S; simp⟩
theorem is14_of {ns : List Int} {kind : Int} {i : Nat} {xs : List Xattr} {acl dflt : List Ace} {caps : Caps} (hi : i = min 12 ns.length) (hk : ¬ kind = 3) (hx : if 12 < zi ns.length then Is13 (ns.drop 12) xs else xs = [])
    (ha : acl = if (kAt ns i 7).tmod 2 = 1 then l9S (ns.drop 8) (band (IntKind.i64.wrap (IntKind.i64.wrap (kAt ns i 0 * 16) + (kAt ns i 1).tmod 16)) 511) else [])
    (hd : dflt = if kind = 6 ∧ 2 ≤ (kAt ns i 7).tmod 4 then l9S (ns.drop (if 9 < zi ns.length then (9 : Int) else zi ns.length).toNat) (kAt ns i 9) else [])
    (hc : caps = if kind = 1 ∧ (kAt ns i 10).tmod 3 = 0 ∧ 10 < zi ns.length then l11S (IntKind.u64.wrap (kAt ns i 8)) (IntKind.u64.wrap (IntKind.u64.wrap (kAt ns i 9) * 2 ^ min (Int.toNat 40) IntKind.u64.bits)) (ns.getD 10 0) (IntKind.u32.wrap (kAt ns i 11)) else ⟨0, 0, 0, false, 0⟩) :
    Is14 ns kind ⟨IntKind.i64.wrap (IntKind.i64.wrap (kAt ns i 0 * 16) + (kAt ns i 1).tmod 16), (kAt ns i 2).tmod 6, (kAt ns i 3).tmod 6, IntKind.i64.wrap (IntKind.i64.wrap (kAt ns i 4 * 1000) - 50000), IntKind.i64.wrap ((kAt ns i 5).tmod 2 * 500000000), acl, dflt, xs, caps, (kAt ns i 6).tmod 16⟩ := by
  subst hi
  exact ⟨hx, by unfold l14S; rw [ha, hd, hc]; simp [hk]⟩
set_option maxHeartbeats 1000000 in
theorem l14e_c (ns : Th (List Int)) (kind : Th Int) (hns : isBytes (ns .o)) (hs : short (ns .o)) {d : Nat} {K : ARes → BL → Prop} (hr : ∀ m : Th Meta, MadeM (ns .o) (m .o) → MadeK (kind .o) (m .o) → Is14 (ns .o) (kind .o) (m .o) → K (.ret (Meta.av m)) .nil) : CallAt PT l14_Make [byteI ns, .int .i64 kind] d .nil K := by
  refine CallAt.res ?_
  refine l14_Make.of rfl rfl ?_
  (cbv; repeat (refine safe (by first | decide | (simp only [zi] at *; omega) | assumption | (dsimp only; omega) | (dsimp only at *; simp only [List.length_append, List.length_cons, List.length_nil, zi] at *; omega)) ?_; cbv))
  refine loop_at (X := Nat) 1000 [0, 1, 4, 5] [4] (fun _ i => .cons 6 (.int .i64 fun _ => zi i) .nil) (fun _ i => .cons 8 (.row 1 (fun _ => 12) fun j => intCh fun _ => kAt (ns .o) i (j .o)) .nil) (fun i => i ≤ 12 ∧ i ≤ (ns .o).length) (fun i => 12 - i) 0 ?_ ⟨by simp, by simp⟩ ?_
  · cbv
    (repeat' (first | exact True.intro | exact Same.refl _ | exact SameB.refl _ | exact ⟨rfl⟩ | exact Same.int rfl | exact Same.str rfl | exact Same.bool rfl | (refine Same.int ?_; simp only [List.length_append, List.length_cons, List.length_nil, zi]; omega) | (refine SameB.row' rfl fun i hi => ?_; first | rfl | exact absurd hi (Nat.not_lt_zero _)) | refine And.intro ?_ ?_ | refine SameB.cells ?_ | exact SameC.nil | refine SameC.cons ?_ ?_ | exact Same.nsl rfl | exact Same.tt rfl | exact Same.ff rfl))
  · rintro i ⟨hi, hil⟩
    cbv
    ((try refine br_rev ?_); (first | refine br_dec (fun h1 => ?_) (fun h1 => ?_) | refine br_ndec (fun h1 => ?_) (fun h1 => ?_) | refine br_nbool (fun h1 => ?_) (fun h1 => ?_) | refine br_bool (fun h1 => ?_) (fun h1 => ?_)); all_goals (try dsimp only at h1); all_goals (try with_reducible replace h1 := zi_lt.1 h1); all_goals (try with_reducible replace h1 := not_zlt h1))
    focus replace h1 : i < 12 := h1
    rotate_left
    focus replace h1 : 12 ≤ i := h1
    rotate_left
    all_goals cbv
    all_goals try ((try refine br_rev ?_); (first | refine br_dec (fun h2 => ?_) (fun h2 => ?_) | refine br_ndec (fun h2 => ?_) (fun h2 => ?_) | refine br_nbool (fun h2 => ?_) (fun h2 => ?_) | refine br_bool (fun h2 => ?_) (fun h2 => ?_)); all_goals (try dsimp only at h2); all_goals (try with_reducible replace h2 := zi_lt.1 h2); all_goals (try with_reducible replace h2 := not_zlt h2))
    all_goals cbv
    focus
      refine safe ⟨zi_nonneg _, zi_lt.2 h2⟩ ?_
      refine safe ⟨zi_nonneg _, zi_lt.2 h1⟩ ?_
      refine ⟨by show (zi i).toNat < 12; rw [zi_toNat]; exact h1, fun j => intCh fun _ => kAt (ns .o) (i + 1) (j .o), _, rfl, fun j hj hne => Fits.of_eq ?_, Fits.of_eq ?_, ?_⟩
      · show (intCh fun _ => kAt (ns .o) i j) = intCh fun _ => kAt (ns .o) (i + 1) j
        replace hne : j ≠ (zi i).toNat := hne
        rw [zi_toNat] at hne
        unfold kAt
        by_cases q : j < i
        · simp only [if_pos q, if_pos (show j < i + 1 by omega)]
        · simp only [if_neg q, if_neg (show ¬ j < i + 1 by omega)]
      · show (intCh fun _ => IntKind.i64.wrap ((ns .o).getD (zi i).toNat 0)) = intCh fun _ => kAt (ns .o) (i + 1) (zi i).toNat
        rw [zi_toNat, wrap_byte (byte_at hns), kAt, if_pos (by omega)]
      · cbv
        refine ⟨i + 1, ⟨by omega, by omega⟩, by omega, ?_⟩
        cbv
        rw [zi_succ (by omega)]
        (repeat' (first | exact True.intro | exact Same.refl _ | exact SameB.refl _ | exact ⟨rfl⟩ | exact Same.int rfl | exact Same.str rfl | exact Same.bool rfl | (refine Same.int ?_; simp only [List.length_append, List.length_cons, List.length_nil, zi]; omega) | (refine SameB.row' rfl fun i hi => ?_; first | rfl | exact absurd hi (Nat.not_lt_zero _)) | refine And.intro ?_ ?_ | refine SameB.cells ?_ | exact SameC.nil | refine SameC.cons ?_ ?_ | exact Same.nsl rfl | exact Same.tt rfl | exact Same.ff rfl))
    all_goals
      have hie : i = min 12 (ns .o).length := by omega
      have kb := fun j => kAt_byte hns i j
      have hk0 : ∀ j, (ns .o).length ≤ j → kAt (ns .o) i j = 0 := by
        intro j hj
        unfold kAt
        split
        · rw [List.getD_eq_getElem?_getD, List.getElem?_eq_none hj]; rfl
        · rfl
      (repeat (refine safe (by first | decide | (simp only [zi] at *; omega) | assumption | (dsimp only; omega) | (dsimp only at *; simp only [List.length_append, List.length_cons, List.length_nil, zi] at *; omega)) ?_))
      ((try refine br_rev ?_); (first | refine br_dec (fun h3 => ?_) (fun h3 => ?_) | refine br_ndec (fun h3 => ?_) (fun h3 => ?_) | refine br_nbool (fun h3 => ?_) (fun h3 => ?_) | refine br_bool (fun h3 => ?_) (fun h3 => ?_)); all_goals (try dsimp only at h3); all_goals (try with_reducible replace h3 := zi_lt.1 h3); all_goals (try with_reducible replace h3 := not_zlt h3))
    all_goals cbv
    all_goals try (refine safe ⟨by decide, Int.le_of_lt h3, Int.le_refl _⟩ ?_; refine l13e_from ns (fun _ => 12) (by show (0 : Int) ≤ 12; decide) hns hs fun xs hxs hxe => ?_; cbv)
    all_goals
      have hmode : 0 ≤ IntKind.i64.wrap (IntKind.i64.wrap (kAt (ns .o) i 0 * 16) + (kAt (ns .o) i 1).tmod 16) ∧ IntKind.i64.wrap (IntKind.i64.wrap (kAt (ns .o) i 0 * 16) + (kAt (ns .o) i 1).tmod 16) < 4096 := by
        have q1 := Int.tmod_nonneg 16 (kb 1).1
        have q2 : (kAt (ns .o) i 1).tmod 16 < 16 := Int.tmod_lt_of_pos _ (by decide)
        have q0 := kb 0
        have e1 : IntKind.i64.wrap (kAt (ns .o) i 0 * 16) = kAt (ns .o) i 0 * 16 := by rw [IntKind.wrap_i64]; omega
        rw [e1, IntKind.wrap_i64]
        omega
      have huid : ∀ j, 0 ≤ (kAt (ns .o) i j).tmod 6 ∧ (kAt (ns .o) i j).tmod 6 < 6 := fun j => ⟨Int.tmod_nonneg _ (kb j).1, Int.tmod_lt_of_pos _ (by decide)⟩
      have hsec : -50000 ≤ IntKind.i64.wrap (IntKind.i64.wrap (kAt (ns .o) i 4 * 1000) - 50000) ∧ IntKind.i64.wrap (IntKind.i64.wrap (kAt (ns .o) i 4 * 1000) - 50000) ≤ 205000 := by
        have q0 := kb 4
        have e1 : IntKind.i64.wrap (kAt (ns .o) i 4 * 1000) = kAt (ns .o) i 4 * 1000 := by rw [IntKind.wrap_i64]; omega
        have e2 : IntKind.i64.wrap (kAt (ns .o) i 4 * 1000 - 50000) = kAt (ns .o) i 4 * 1000 - 50000 := by rw [IntKind.wrap_i64]; omega
        rw [e1, e2]
        omega
      have hnano : IntKind.i64.wrap ((kAt (ns .o) i 5).tmod 2 * 500000000) = 0 ∨ IntKind.i64.wrap ((kAt (ns .o) i 5).tmod 2 * 500000000) = 500000000 := by
        have q1 := Int.tmod_nonneg 2 (kb 5).1
        have q2 : (kAt (ns .o) i 5).tmod 2 < 2 := Int.tmod_lt_of_pos _ (by decide)
        have e2 : IntKind.i64.wrap ((kAt (ns .o) i 5).tmod 2 * 500000000) = (kAt (ns .o) i 5).tmod 2 * 500000000 := by rw [IntKind.wrap_i64]; omega
        rw [e2]
        omega
      have hfl : 0 ≤ (kAt (ns .o) i 6).tmod 16 ∧ (kAt (ns .o) i 6).tmod 16 < 16 := ⟨Int.tmod_nonneg _ (kb 6).1, Int.tmod_lt_of_pos _ (by decide)⟩
      ((try refine br_rev ?_); (first | refine br_dec (fun h4 => ?_) (fun h4 => ?_) | refine br_ndec (fun h4 => ?_) (fun h4 => ?_) | refine br_nbool (fun h4 => ?_) (fun h4 => ?_) | refine br_bool (fun h4 => ?_) (fun h4 => ?_)); all_goals (try dsimp only at h4); all_goals (try with_reducible replace h4 := zi_lt.1 h4); all_goals (try with_reducible replace h4 := not_zlt h4))
    all_goals cbv
    all_goals try (first
      | exact meta_ret (eff := fun _ => false) (fun _ => []) (fun _ => []) (fun _ => []) (Same.nsl rfl) (Same.nsl rfl) (Same.nsl rfl) (Same.ff rfl) (hr _ ⟨by show (0 : Int) ≤ 511 ∧ (511 : Int) < 4096; decide, huid 2, huid 3, .inl rfl, MadeXs.nil⟩ ⟨by show (0 : Int) ≤ 0 ∧ (0 : Int) < 16; decide, .inl rfl, .inl rfl, fun _ => ⟨rfl, rfl, rfl⟩, hsec, hnano⟩ (is14_sym hie h4 (by split <;> rename_i q <;> first | exact hxe | rfl | (exfalso; unfold zi at q; (try unfold zi at h3); omega))))
      | exact meta_ret (eff := fun _ => false) (fun _ => []) (fun _ => []) xs (Same.nsl rfl) (Same.nsl rfl) (Same.refl _) (Same.ff rfl) (hr _ ⟨by show (0 : Int) ≤ 511 ∧ (511 : Int) < 4096; decide, huid 2, huid 3, .inl rfl, hxs⟩ ⟨by show (0 : Int) ≤ 0 ∧ (0 : Int) < 16; decide, .inl rfl, .inl rfl, fun _ => ⟨rfl, rfl, rfl⟩, hsec, hnano⟩ (is14_sym hie h4 (by split <;> rename_i q <;> first | exact hxe | rfl | (exfalso; unfold zi at q; (try unfold zi at h3); omega)))))
    all_goals (repeat (refine safe (by first | decide | (simp only [zi] at *; omega) | assumption | (dsimp only; omega) | (dsimp only at *; simp only [List.length_append, List.length_cons, List.length_nil, zi] at *; omega)) ?_))
    all_goals ((try refine br_rev ?_); (first | refine br_dec (fun h5 => ?_) (fun h5 => ?_) | refine br_ndec (fun h5 => ?_) (fun h5 => ?_) | refine br_nbool (fun h5 => ?_) (fun h5 => ?_) | refine br_bool (fun h5 => ?_) (fun h5 => ?_)); all_goals (try dsimp only at h5); all_goals (try with_reducible replace h5 := zi_lt.1 h5); all_goals (try with_reducible replace h5 := not_zlt h5))
    all_goals cbv
    all_goals try (
      have h8 : 8 ≤ (ns .o).length := by
        refine Nat.le_of_not_lt fun q => ?_
        have := hk0 7 (by omega)
        replace h5 : (kAt (ns .o) i 7).tmod 2 = 1 := h5
        rw [this] at h5
        exact absurd h5 (by decide)
      refine safe ⟨by decide, (zi_le (a := 8)).2 h8, Int.le_refl _⟩ ?_
      refine l9_from ns (fun _ => 8) _ (by show (0 : Int) ≤ 8; decide) hns hs fun acl hacl => ?_
      cbv)
    all_goals ((try refine br_rev ?_); (first | refine br_dec (fun h6 => ?_) (fun h6 => ?_) | refine br_ndec (fun h6 => ?_) (fun h6 => ?_) | refine br_nbool (fun h6 => ?_) (fun h6 => ?_) | refine br_bool (fun h6 => ?_) (fun h6 => ?_)); all_goals (try dsimp only at h6); all_goals (try with_reducible replace h6 := zi_lt.1 h6); all_goals (try with_reducible replace h6 := not_zlt h6))
    all_goals cbv
    all_goals try (refine safe (by decide) ?_; (repeat (refine safe (by first | decide | (simp only [zi] at *; omega) | assumption | (dsimp only; omega) | (dsimp only at *; simp only [List.length_append, List.length_cons, List.length_nil, zi] at *; omega)) ?_)); ((try refine br_rev ?_); (first | refine br_dec (fun h7 => ?_) (fun h7 => ?_) | refine br_ndec (fun h7 => ?_) (fun h7 => ?_) | refine br_nbool (fun h7 => ?_) (fun h7 => ?_) | refine br_bool (fun h7 => ?_) (fun h7 => ?_)); all_goals (try dsimp only at h7); all_goals (try with_reducible replace h7 := zi_lt.1 h7); all_goals (try with_reducible replace h7 := not_zlt h7)); all_goals cbv)
    all_goals try (
      refine safe (by refine ⟨?_, ?_, Int.le_refl _⟩ <;> (have := zi_nonneg (ns .o).length; (try dsimp only); split <;> omega)) ?_
      (repeat (refine safe (by first | decide | (simp only [zi] at *; omega) | assumption | (dsimp only; omega) | (dsimp only at *; simp only [List.length_append, List.length_cons, List.length_nil, zi] at *; omega)) ?_))
      refine l9_from ns (fun _ => if 9 < zi (ns .o).length then 9 else zi (ns .o).length) _ (by have := zi_nonneg (ns .o).length; (try dsimp only); split <;> omega) hns hs fun df hdf => ?_
      cbv)
    all_goals ((try refine br_rev ?_); (first | refine br_dec (fun h9 => ?_) (fun h9 => ?_) | refine br_ndec (fun h9 => ?_) (fun h9 => ?_) | refine br_nbool (fun h9 => ?_) (fun h9 => ?_) | refine br_bool (fun h9 => ?_) (fun h9 => ?_)); all_goals (try dsimp only at h9); all_goals (try with_reducible replace h9 := zi_lt.1 h9); all_goals (try with_reducible replace h9 := not_zlt h9))
    all_goals try (exfalso; omega)
    all_goals cbv
    all_goals try (repeat (refine safe (by first | decide | (simp only [zi] at *; omega) | assumption | (dsimp only; omega) | (dsimp only at *; simp only [List.length_append, List.length_cons, List.length_nil, zi] at *; omega)) ?_))
    all_goals try ((try refine br_rev ?_); (first | refine br_dec (fun h10 => ?_) (fun h10 => ?_) | refine br_ndec (fun h10 => ?_) (fun h10 => ?_) | refine br_nbool (fun h10 => ?_) (fun h10 => ?_) | refine br_bool (fun h10 => ?_) (fun h10 => ?_)); all_goals (try dsimp only at h10); all_goals (try with_reducible replace h10 := zi_lt.1 h10); all_goals (try with_reducible replace h10 := not_zlt h10))
    all_goals cbv
    all_goals try ((try refine br_rev ?_); (first | refine br_dec (fun h11 => ?_) (fun h11 => ?_) | refine br_ndec (fun h11 => ?_) (fun h11 => ?_) | refine br_nbool (fun h11 => ?_) (fun h11 => ?_) | refine br_bool (fun h11 => ?_) (fun h11 => ?_)); all_goals (try dsimp only at h11); all_goals (try with_reducible replace h11 := zi_lt.1 h11); all_goals (try with_reducible replace h11 := not_zlt h11))
    all_goals cbv
    all_goals try (
      (repeat (refine safe (by first | decide | (simp only [zi] at *; omega) | assumption | (dsimp only; omega) | (dsimp only at *; simp only [List.length_append, List.length_cons, List.length_nil, zi] at *; omega)) ?_))
      refine l11e_c _ _ (fun _ => (ns .o).getD 10 0) _ (byte_at hns) (wrap_u32 _) fun caps hcaps hce => ?_
      cbv)
    all_goals (
      apply meta_ret
      focus first | exact nsl_aces | exact Same.refl _
      focus first | exact nsl_aces | exact Same.refl _
      focus first | exact nsl_xattrs | exact Same.refl _
      focus first | exact ff_bool | exact Same.refl _
      refine hr _ ⟨hmode, huid 2, huid 3, by first | exact .inl rfl | exact .inr ⟨_, bytes_drop hns _, hacl⟩, by first | exact MadeXs.nil | exact hxs⟩ ⟨hfl, by first | exact .inl rfl | exact .inr ⟨h6, _, _, bytes_drop hns _, kb 9, hdf⟩, by first | exact .inl rfl | exact .inr ⟨h9, hcaps⟩, fun q => absurd q h4, hsec, hnano⟩ (is14_of hie h4 (by split <;> rename_i q <;> first | exact hxe | rfl | (exfalso; unfold zi at q; (try unfold zi at h3); omega)) ?_ ?_ ?_)
      · focus (split <;> rename_i q <;> first | exact hacl | (exfalso; first | exact h5 q | exact q h5) | rfl)
      · focus (split <;> rename_i q <;> first | exact hdf | (exfalso; first | exact h6 q.1 | exact h7 q.2 | exact q ⟨h6, h7⟩) | rfl)
      · focus (split <;> rename_i q <;> first | exact hce | (exfalso; first | exact h9 q.1 | exact h10 q.2.1 | exact h11 q.2.2 | exact absurd q.2.2 (Int.not_lt.2 h11) | exact q ⟨h9, h10, h11⟩) | rfl))
theorem l14k_c (ns : Th (List Int)) (kind : Th Int) (hns : isBytes (ns .o)) (hs : short (ns .o)) {d : Nat} {K : ARes → BL → Prop} (hr : ∀ m : Th Meta, MadeM (ns .o) (m .o) → MadeK (kind .o) (m .o) → K (.ret (Meta.av m)) .nil) : CallAt PT l14_Make [byteI ns, .int .i64 kind] d .nil K :=
  l14e_c ns kind hns hs fun m h1 h2 _ => hr m h1 h2
end Go.Proofs.Ytgjlkcdnlndlnaa
/- What the laws make by numbers: names, paths. -/
namespace Go.Proofs.Ytgjlkcdnlndlnaa
open Go Go.Proofs.Ytgjlkcdnlndlnaa.Sx F
set_option linter.unusedVariables false
set_option linter.unusedSimpArgs false
/-- A name that the laws make. -/
structure NameOk (s : List UInt8) : Prop where
  len : s.length ≤ 80
  ne : s ≠ []
  no0 : (0 : UInt8) ∉ s
  no46 : (46 : UInt8) ∉ s
  no47 : (47 : UInt8) ∉ s
theorem NameOk.snoc {s : List UInt8} {x : UInt8} (h : NameOk s) (hl : s.length < 80) (h0 : x ≠ 0) (h1 : x ≠ 46) (h2 : x ≠ 47) : NameOk (s ++ [x]) := by
  refine ⟨by rw [List.length_append]; simp; omega, by simp, ?_, ?_, ?_⟩ <;> simp only [List.mem_append, List.mem_singleton, not_or]
  · exact ⟨h.no0, fun q => h0 q.symm⟩
  · exact ⟨h.no46, fun q => h1 q.symm⟩
  · exact ⟨h.no47, fun q => h2 q.symm⟩
theorem name_x (n : Th Int) (hn : 0 ≤ n .o ∧ n .o < 256) {d : Nat} {K : ARes → BL → Prop} (hr : ∀ s : Th (List UInt8), NameOk (s .o) → K (.ret (.str s)) .nil) : CallAt PT l15_name [.int .u8 n] d .nil K := by
  refine l15_name.of rfl rfl ?_
  cbv
  refine safe (by decide) ?_
  have h8 : 0 ≤ (n .o).tmod 8 ∧ (n .o).tmod 8 < 8 := ⟨Int.tmod_nonneg _ hn.1, Int.tmod_lt_of_pos _ (by decide)⟩
  refine safe h8 ?_
  refine safe (by show ((n .o).tmod 8).toNat < 8; omega) ?_
  have hl8 : ∀ j : Nat, (([fun _ : O1 => [97], fun _ => [98], fun _ => [100, 105, 114], fun _ => [120, 32, 121], fun _ => [255], fun _ => [108, 111, 110, 103], fun _ => [195, 164], fun _ => [99]] : List (Th (List UInt8))).getD j (fun _ => [97]) .o).length ≤ 4 := by
    intro j
    match j with
    | 0 | 1 | 2 | 3 | 4 | 5 | 6 | 7 => decide
    | j + 8 => exact (by decide : (1 : Nat) ≤ 4)
  have hok8 : ∀ j : Nat, NameOk (([fun _ : O1 => [97], fun _ => [98], fun _ => [100, 105, 114], fun _ => [120, 32, 121], fun _ => [255], fun _ => [108, 111, 110, 103], fun _ => [195, 164], fun _ => [99]] : List (Th (List UInt8))).getD j (fun _ => [97]) .o) := by
    intro j
    match j with
    | 0 | 1 | 2 | 3 | 4 | 5 | 6 | 7 => exact ⟨by decide, by decide, by decide, by decide, by decide⟩
    | j + 8 => exact ⟨by show (1 : Nat) ≤ 80; decide, by show ([97] : List UInt8) ≠ []; decide, by show (0 : UInt8) ∉ [97]; decide, by show (46 : UInt8) ∉ [97]; decide, by show (47 : UInt8) ∉ [97]; decide⟩
  have hl := hl8 ((n .o).tmod 8).toNat
  have hok := hok8 ((n .o).tmod 8).toNat
  ((try refine br_rev ?_); (first | refine br_dec (fun h1 => ?_) (fun h1 => ?_) | refine br_ndec (fun h1 => ?_) (fun h1 => ?_) | refine br_nbool (fun h1 => ?_) (fun h1 => ?_) | refine br_bool (fun h1 => ?_) (fun h1 => ?_)); all_goals (try dsimp only at h1); all_goals (try with_reducible replace h1 := zi_lt.1 h1); all_goals (try with_reducible replace h1 := not_zlt h1))
  · cbv
    have hw : IntKind.i64.wrap (IntKind.i64.wrap (n .o) - 190) = n .o - 190 := by rw [IntKind.wrap_i64, IntKind.wrap_i64]; omega
    refine loop_at (X := Nat × List UInt8) 1000 [0] [] (fun _ x => .cons 4 (.str fun _ => x.2) (.cons 5 (.int .i64 fun _ => zi x.1) .nil)) (fun _ _ => .nil) (fun x => x.1 ≤ 66 ∧ x.2.length ≤ 4 + x.1 ∧ NameOk x.2) (fun x => 70 - x.1) (0, _) ?_ ⟨Nat.zero_le _, hl, hok⟩ ?_
    · cbv
      (repeat' (first | exact True.intro | exact Same.refl _ | exact SameB.refl _ | exact ⟨rfl⟩ | exact Same.int rfl | exact Same.str rfl | exact Same.bool rfl | (refine Same.int ?_; simp only [List.length_append, List.length_cons, List.length_nil, zi]; omega) | (refine SameB.row' rfl fun i hi => ?_; first | rfl | exact absurd hi (Nat.not_lt_zero _)) | refine And.intro ?_ ?_ | refine SameB.cells ?_ | exact SameC.nil | refine SameC.cons ?_ ?_ | exact Same.nsl rfl | exact Same.tt rfl | exact Same.ff rfl))
    · rintro ⟨i, s⟩ ⟨hi, hs, hso⟩
      dsimp only at hi hs hso
      cbv
      ((try refine br_rev ?_); (first | refine br_dec (fun h2 => ?_) (fun h2 => ?_) | refine br_ndec (fun h2 => ?_) (fun h2 => ?_) | refine br_nbool (fun h2 => ?_) (fun h2 => ?_) | refine br_bool (fun h2 => ?_) (fun h2 => ?_)); all_goals (try dsimp only at h2); all_goals (try with_reducible replace h2 := zi_lt.1 h2); all_goals (try with_reducible replace h2 := not_zlt h2))
      · have h2 : zi i < n .o - 190 := by rw [← hw]; exact h2
        have h2' : i < 66 := by unfold zi at h2; omega
        (cbv; repeat (refine safe (by first | decide | (simp only [zi] at *; omega) | assumption | (dsimp only; omega) | (dsimp only at *; simp only [List.length_append, List.length_cons, List.length_nil, zi] at *; omega)) ?_; cbv))
        refine ⟨(i + 1, s ++ [122]), ⟨h2', ?_, hso.snoc (by omega) (by decide) (by decide) (by decide)⟩, ?_, ?_⟩
        · show (s ++ [122]).length ≤ 4 + (i + 1)
          simp only [List.length_append, List.length_cons, List.length_nil]; omega
        · show 70 - (i + 1) < 70 - i
          omega
        cbv
        rw [zi_succ (by omega)]
        (repeat' (first | exact True.intro | exact Same.refl _ | exact SameB.refl _ | exact ⟨rfl⟩ | exact Same.int rfl | exact Same.str rfl | exact Same.bool rfl | (refine Same.int ?_; simp only [List.length_append, List.length_cons, List.length_nil, zi]; omega) | (refine SameB.row' rfl fun i hi => ?_; first | rfl | exact absurd hi (Nat.not_lt_zero _)) | refine And.intro ?_ ?_ | refine SameB.cells ?_ | exact SameC.nil | refine SameC.cons ?_ ?_ | exact Same.nsl rfl | exact Same.tt rfl | exact Same.ff rfl))
      · cbv
        exact hr _ hso
  · cbv
    exact hr _ hok
/-- A path that the laws make: by its names. -/
inductive PathN : Nat → List UInt8 → Prop
  | one : PathN 0 [112]
  | more {k : Nat} {s t : List UInt8} (h : PathN k s) (ht : NameOk t) : PathN (k + 1) (s ++ [47] ++ t)
theorem path_x (ns : Th (List Int)) (hns : isBytes (ns .o)) (hs : short (ns .o)) {d : Nat} {K : ARes → BL → Prop} (hr : ∀ s : Th (List UInt8), (s .o).length ≤ 700 → (∃ k, k ≤ 8 ∧ PathN k (s .o)) → K (.ret (.str s)) .nil) : CallAt PT l15_Path [byteI ns] d .nil K := by
  refine l15_Path.of rfl rfl ?_
  cbv
  refine loop_at (X := Nat × List UInt8) 1000 [0] [] (fun _ x => .cons 3 (.str fun _ => x.2) (.cons 4 (.int .i64 fun _ => zi x.1) .nil)) (fun _ _ => .nil) (fun x => x.1 ≤ 8 ∧ x.2.length ≤ 1 + 81 * x.1 ∧ PathN x.1 x.2) (fun x => 8 - x.1) (0, [112]) ?_ ⟨Nat.zero_le _, by decide, .one⟩ ?_
  · cbv
    (repeat' (first | exact True.intro | exact Same.refl _ | exact SameB.refl _ | exact ⟨rfl⟩ | exact Same.int rfl | exact Same.str rfl | exact Same.bool rfl | (refine Same.int ?_; simp only [List.length_append, List.length_cons, List.length_nil, zi]; omega) | (refine SameB.row' rfl fun i hi => ?_; first | rfl | exact absurd hi (Nat.not_lt_zero _)) | refine And.intro ?_ ?_ | refine SameB.cells ?_ | exact SameC.nil | refine SameC.cons ?_ ?_ | exact Same.nsl rfl | exact Same.tt rfl | exact Same.ff rfl))
  · rintro ⟨i, s⟩ ⟨hi, hsl, hpn⟩
    dsimp only at hi hsl hpn
    cbv
    ((try refine br_rev ?_); (first | refine br_dec (fun h1 => ?_) (fun h1 => ?_) | refine br_ndec (fun h1 => ?_) (fun h1 => ?_) | refine br_nbool (fun h1 => ?_) (fun h1 => ?_) | refine br_bool (fun h1 => ?_) (fun h1 => ?_)); all_goals (try dsimp only at h1); all_goals (try with_reducible replace h1 := zi_lt.1 h1); all_goals (try with_reducible replace h1 := not_zlt h1))
    · cbv
      ((try refine br_rev ?_); (first | refine br_dec (fun h2 => ?_) (fun h2 => ?_) | refine br_ndec (fun h2 => ?_) (fun h2 => ?_) | refine br_nbool (fun h2 => ?_) (fun h2 => ?_) | refine br_bool (fun h2 => ?_) (fun h2 => ?_)); all_goals (try dsimp only at h2); all_goals (try with_reducible replace h2 := zi_lt.1 h2); all_goals (try with_reducible replace h2 := not_zlt h2))
      · have h2' : i < 8 := h2
        (cbv; repeat (refine safe (by first | decide | (simp only [zi] at *; omega) | assumption | (dsimp only; omega) | (dsimp only at *; simp only [List.length_append, List.length_cons, List.length_nil, zi] at *; omega)) ?_; cbv))
        refine name_x (fun _ => (ns .o).getD (zi i).toNat 0) (byte_at hns) fun t hto => ?_
        have ht := hto.len
        cbv
        refine safe (by dsimp only; simp only [List.length_append, List.length_cons, List.length_nil]; omega) ?_
        refine ⟨(i + 1, s ++ [47] ++ t .o), ⟨h2', ?_, hpn.more hto⟩, ?_, ?_⟩
        · show (s ++ [47] ++ t .o).length ≤ 1 + 81 * (i + 1)
          simp only [List.length_append, List.length_cons, List.length_nil]; omega
        · show 8 - (i + 1) < 8 - i
          omega
        cbv
        rw [zi_succ (by omega)]
        (repeat' (first | exact True.intro | exact Same.refl _ | exact SameB.refl _ | exact ⟨rfl⟩ | exact Same.int rfl | exact Same.str rfl | exact Same.bool rfl | (refine Same.int ?_; simp only [List.length_append, List.length_cons, List.length_nil, zi]; omega) | (refine SameB.row' rfl fun i hi => ?_; first | rfl | exact absurd hi (Nat.not_lt_zero _)) | refine And.intro ?_ ?_ | refine SameB.cells ?_ | exact SameC.nil | refine SameC.cons ?_ ?_ | exact Same.nsl rfl | exact Same.tt rfl | exact Same.ff rfl))
      · cbv
        exact hr _ (by dsimp only; omega) ⟨i, hi, hpn⟩
    · cbv
      exact hr _ (by dsimp only; omega) ⟨i, hi, hpn⟩
theorem path_c (ns : Th (List Int)) (hns : isBytes (ns .o)) (hs : short (ns .o)) {d : Nat} {K : ARes → BL → Prop} (hr : ∀ s : Th (List UInt8), (s .o).length ≤ 700 → K (.ret (.str s)) .nil) : CallAt PT l15_Path [byteI ns] d .nil K :=
  path_x ns hns hs fun s h1 _ => hr s h1
end Go.Proofs.Ytgjlkcdnlndlnaa
/- What the laws make by numbers: entries. -/
namespace Go.Proofs.Ytgjlkcdnlndlnaa
open Go Go.Proofs.Ytgjlkcdnlndlnaa.Sx F
set_option linter.unusedVariables false
set_option linter.unusedSimpArgs false
theorem path_from (l : Th (List Int)) (n : Th Nat) (hn : n .o ≤ (l .o).length) (hns : isBytes (l .o)) (hs : short (l .o)) {d : Nat} {K : ARes → BL → Prop} (hr : ∀ s : Th (List UInt8), (s .o).length ≤ 700 → K (.ret (.str s)) .nil) :
    CallAt PT l15_Path [.sl 1 n fun i => .cons (.int .u8 fun _ => (l .o).getD ((0 : Int).toNat + i .o) 0) .nil] d .nil K := by
  refine CallAt.args (.cons (y := byteI fun _ => (l .o).take (n .o)) (.sl ?_ fun i hi => ?_) .nil) (path_c _ (fun x hx => hns x (List.take_subset _ _ hx)) (by unfold short at *; rw [List.length_take]; omega) hr)
  · show n .o = ((l .o).take (n .o)).length
    rw [List.length_take]; omega
  · show (AV.cons (.int .u8 fun _ => (l .o).getD (0 + i) 0) .nil) = AV.cons (.int .u8 fun _ => ((l .o).take (n .o)).getD i 0) .nil
    rw [getD_take _ _ _ _ hi, Nat.zero_add]
/-- A Meta that says nothing. -/
def Meta.z : Meta := ⟨0, 0, 0, 0, 0, [], [], [], ⟨0, 0, 0, false, 0⟩, 0⟩
/-- What l15.Make makes. -/
structure MadeE (k : Int) (p : List UInt8) (ns : List Int) (e : Entry) : Prop where
  kind : e.kind = k
  path : e.path = p
  hard : k = 2 → e.mt = Meta.z
  mt : k ≠ 2 → MadeM ns e.mt
  km : k ≠ 2 → MadeK k e.mt
/-- An Entry told by its parts. -/
theorem entry_ret {K : ARes → BL → Prop} {path data target : Th (List UInt8)} {kind mode uid gid sec nano ver perm inh root flags major minor : Th Int} {eff : Th Bool} {A D X E : AV} (acl dflt : Th (List Ace)) (xs : Th (List Xattr))
    (hA : Same A (aces acl)) (hD : Same D (aces dflt)) (hX : Same X (xattrs xs)) (hE : Same E (.bool eff))
    (h : K (.ret (Entry.av fun _ => ⟨path .o, kind .o, ⟨mode .o, uid .o, gid .o, sec .o, nano .o, acl .o, dflt .o, xs .o, ⟨ver .o, perm .o, inh .o, eff .o, root .o⟩, flags .o⟩, data .o, target .o, major .o, minor .o⟩)) .nil) :
    ∃ r', SameR (.ret (.agg (.cons (.str path) (.cons (.int .i64 kind) (.cons (.int .i64 mode) (.cons (.int .i64 uid) (.cons (.int .i64 gid) (.cons (.int .i64 sec) (.cons (.int .i64 nano) (.cons A (.cons D (.cons X
      (.cons (.int .i64 ver) (.cons (.int .u64 perm) (.cons (.int .u64 inh) (.cons E (.cons (.int .i64 root) (.cons (.int .i64 flags) (.cons (.str data) (.cons (.str target) (.cons (.int .i64 major) (.cons (.int .i64 minor) .nil)))))))))))))))))))))) r' ∧ K r' .nil :=
  ⟨_, .ret (y := Entry.av fun _ => ⟨path .o, kind .o, ⟨mode .o, uid .o, gid .o, sec .o, nano .o, acl .o, dflt .o, xs .o, ⟨ver .o, perm .o, inh .o, eff .o, root .o⟩, flags .o⟩, data .o, target .o, major .o, minor .o⟩)
    (.agg (.cons (.str rfl) (.cons (.int rfl) (.cons (.int rfl) (.cons (.int rfl) (.cons (.int rfl) (.cons (.int rfl) (.cons (.int rfl) (.cons hA (.cons hD (.cons hX (.cons (.int rfl) (.cons (.int rfl) (.cons (.int rfl) (.cons hE (.cons (.int rfl) (.cons (.int rfl) (.cons (.str rfl) (.cons (.str rfl) (.cons (.int rfl) (.cons (.int rfl) .nil))))))))))))))))))))), h⟩
theorem make15_c (kind : Th Int) (path : Th (List UInt8)) (ns : Th (List Int)) (hns : isBytes (ns .o)) (hs : short (ns .o)) {d : Nat} {K : ARes → BL → Prop} (hr : ∀ e : Th Entry, MadeE (kind .o) (path .o) (ns .o) (e .o) → K (.ret (Entry.av e)) .nil) :
    CallAt PT l15_Make [.int .i64 kind, .str path, byteI ns] d .nil K := by
  refine CallAt.res ?_
  refine l15_Make.of rfl rfl ?_
  cbv
  have b0 := byte_at (k := 0) hns
  have w0 : IntKind.i64.wrap ((ns .o).getD 0 0) = (ns .o).getD 0 0 := wrap_byte b0
  have w3 : IntKind.i64.wrap (IntKind.i64.wrap ((ns .o).getD 0 0) * 3) = (ns .o).getD 0 0 * 3 := by rw [w0, IntKind.wrap_i64]; omega
  have hm4 : ∀ c : Int, 0 ≤ c → (True → (0 : Int) ≤ 0 ∧ 0 ≤ (if c < zi (ns .o).length then c else zi (ns .o).length) ∧ (if c < zi (ns .o).length then c else zi (ns .o).length) ≤ zi (ns .o).length) := by
    intro c hc _
    have := zi_nonneg (ns .o).length
    split <;> omega
  have hn4 : ∀ c : Int, 0 ≤ c → ((if c < zi (ns .o).length then c else zi (ns .o).length) - 0).toNat ≤ (ns .o).length := by
    intro c hc
    unfold zi
    split <;> omega
  ((try refine br_rev ?_); (first | refine br_dec (fun h1 => ?_) (fun h1 => ?_) | refine br_ndec (fun h1 => ?_) (fun h1 => ?_) | refine br_nbool (fun h1 => ?_) (fun h1 => ?_) | refine br_bool (fun h1 => ?_) (fun h1 => ?_)); all_goals (try dsimp only at h1); all_goals (try with_reducible replace h1 := zi_lt.1 h1); all_goals (try with_reducible replace h1 := not_zlt h1))
  all_goals cbv
  focus refine safe ⟨by decide, h1⟩ ?_
  all_goals ((try refine br_rev ?_); (first | refine br_dec (fun h2 => ?_) (fun h2 => ?_) | refine br_ndec (fun h2 => ?_) (fun h2 => ?_) | refine br_nbool (fun h2 => ?_) (fun h2 => ?_) | refine br_bool (fun h2 => ?_) (fun h2 => ?_)); all_goals (try dsimp only at h2); all_goals (try with_reducible replace h2 := zi_lt.1 h2); all_goals (try with_reducible replace h2 := not_zlt h2))
  all_goals cbv
  all_goals try (
    refine ⟨hm4 4 (by decide), ?_⟩
    refine path_from ns _ (hn4 4 (by decide)) hns hs fun s hsl => ?_
    cbv
    apply entry_ret (eff := fun _ => false) (fun _ => []) (fun _ => []) (fun _ => []) (.nsl rfl) (.nsl rfl) (.nsl rfl) (.ff rfl)
    exact hr _ ⟨rfl, rfl, fun _ => rfl, fun q => absurd h2 q, fun q => absurd h2 q⟩)
  all_goals
    refine l14k_c ns kind hns hs fun m hm hmk => ?_
    cbv
    ((try refine br_rev ?_); (first | refine br_dec (fun h3 => ?_) (fun h3 => ?_) | refine br_ndec (fun h3 => ?_) (fun h3 => ?_) | refine br_nbool (fun h3 => ?_) (fun h3 => ?_) | refine br_bool (fun h3 => ?_) (fun h3 => ?_)); all_goals (try dsimp only at h3); all_goals (try with_reducible replace h3 := zi_lt.1 h3); all_goals (try with_reducible replace h3 := not_zlt h3))
  all_goals cbv
  -- a file
  all_goals try (
    refine ⟨fun _ => ?_, ?_⟩
    · first
        | exact ⟨by decide, by decide, by decide, by decide⟩
        | (show 0 ≤ IntKind.i64.wrap (IntKind.i64.wrap ((ns .o).getD 0 0) * 3) ∧ IntKind.i64.wrap (IntKind.i64.wrap ((ns .o).getD 0 0) * 3) ≤ IntKind.i64.wrap (IntKind.i64.wrap ((ns .o).getD 0 0) * 3) ∧ (1 : Int) * IntKind.i64.wrap (IntKind.i64.wrap ((ns .o).getD 0 0) * 3) ≤ 281474976710656 ∧ IntKind.i64.wrap (IntKind.i64.wrap ((ns .o).getD 0 0) * 3) ≤ 9223372036854775807
           rw [w3]; omega)
    refine ⟨fun _ i hi => ⟨_, rfl⟩, ?_⟩
    refine ⟨fun _ => ?_, ?_⟩
    · rw [bytesN_len]
      first
        | (show 0 + 3 ≤ 9223372036854775807; decide)
        | (show (IntKind.i64.wrap (IntKind.i64.wrap ((ns .o).getD 0 0) * 3)).toNat + 3 ≤ 9223372036854775807
           rw [w3]; omega)
    apply entry_ret (fun _ => (m .o).acl) (fun _ => (m .o).dflt) (fun _ => (m .o).xs) (.refl _) (.refl _) (.refl _) (.refl _)
    exact hr _ ⟨rfl, rfl, fun q => absurd q h2, fun _ => hm, fun _ => hmk⟩)
  all_goals ((try refine br_rev ?_); (first | refine br_dec (fun h4 => ?_) (fun h4 => ?_) | refine br_ndec (fun h4 => ?_) (fun h4 => ?_) | refine br_nbool (fun h4 => ?_) (fun h4 => ?_) | refine br_bool (fun h4 => ?_) (fun h4 => ?_)); all_goals (try dsimp only at h4); all_goals (try with_reducible replace h4 := zi_lt.1 h4); all_goals (try with_reducible replace h4 := not_zlt h4))
  all_goals cbv
  all_goals try (
    refine ⟨hm4 6 (by decide), ?_⟩
    refine path_from ns _ (hn4 6 (by decide)) hns hs fun s hsl => ?_
    cbv
    refine safe (by dsimp only; simp only [List.length_cons, List.length_nil]; omega) ?_
    apply entry_ret (fun _ => (m .o).acl) (fun _ => (m .o).dflt) (fun _ => (m .o).xs) (.refl _) (.refl _) (.refl _) (.refl _)
    exact hr _ ⟨rfl, rfl, fun q => absurd q h2, fun _ => hm, fun _ => hmk⟩)
  all_goals ((try refine br_rev ?_); (first | refine br_dec (fun h5 => ?_) (fun h5 => ?_) | refine br_ndec (fun h5 => ?_) (fun h5 => ?_) | refine br_nbool (fun h5 => ?_) (fun h5 => ?_) | refine br_bool (fun h5 => ?_) (fun h5 => ?_)); all_goals (try dsimp only at h5); all_goals (try with_reducible replace h5 := zi_lt.1 h5); all_goals (try with_reducible replace h5 := not_zlt h5))
  all_goals cbv
  all_goals try ((try refine br_rev ?_); (first | refine br_dec (fun h6 => ?_) (fun h6 => ?_) | refine br_ndec (fun h6 => ?_) (fun h6 => ?_) | refine br_nbool (fun h6 => ?_) (fun h6 => ?_) | refine br_bool (fun h6 => ?_) (fun h6 => ?_)); all_goals (try dsimp only at h6); all_goals (try with_reducible replace h6 := zi_lt.1 h6); all_goals (try with_reducible replace h6 := not_zlt h6))
  all_goals cbv
  all_goals (
    apply entry_ret (fun _ => (m .o).acl) (fun _ => (m .o).dflt) (fun _ => (m .o).xs) (.refl _) (.refl _) (.refl _) (.refl _)
    exact hr _ ⟨rfl, rfl, fun q => absurd q h2, fun _ => hm, fun _ => hmk⟩)
end Go.Proofs.Ytgjlkcdnlndlnaa
/- The law RightModes, walked: it answers true whatever the numbers. -/
namespace Go.Proofs.Ytgjlkcdnlndlnaa
open Go Go.Proofs.Ytgjlkcdnlndlnaa.Sx F
set_option linter.unusedVariables false
set_option linter.unusedSimpArgs false
theorem band_7 (x : Int) : 0 ≤ band x 7 ∧ band x 7 < 8 := by
  have := band_le (x := x) (y := 7) (by decide) (by decide)
  omega
end Go.Proofs.Ytgjlkcdnlndlnaa
/- Who can what: the law of lists, in plain Lean. -/
namespace Go.Proofs.Ytgjlkcdnlndlnaa
open Go Go.Proofs.Ytgjlkcdnlndlnaa.Sx F
set_option linter.unusedVariables false
set_option linter.unusedSimpArgs false
structure Good (l : List Ace) : Prop where
  perm : ∀ a ∈ l, 0 ≤ a.perm ∧ a.perm < 8
  own : ∃ a ∈ l, a.tag = 1
  grp : ∃ a ∈ l, a.tag = 3
  oth : ∃ a ∈ l, a.tag = 6
theorem mem_addS {a x : Ace} : ∀ {l : List Ace}, x ∈ addS a l → x = a ∨ x ∈ l
  | [], h => by simp [addS] at h; exact .inl h
  | y :: r, h => by
    unfold addS at h
    split at h
    · rcases List.mem_cons.1 h with h | h
      · exact .inr (by simp [h])
      · rcases mem_addS h with h | h
        · exact .inl h
        · exact .inr (by simp [h])
    · split at h
      · rcases List.mem_cons.1 h with h | h
        · exact .inl h
        · exact .inr (by simp [h])
      · rcases List.mem_cons.1 h with h | h
        · exact .inl h
        · exact .inr h
theorem accS_perm {ns : List Int} (hns : isBytes ns) : ∀ k, (∀ a ∈ (accS ns k).1, (0 ≤ a.perm ∧ a.perm < 8) ∧ a.tag = 2) ∧ ∀ a ∈ (accS ns k).2, (0 ≤ a.perm ∧ a.perm < 8) ∧ a.tag = 4
  | 0 => by simp [accS]
  | k + 1 => by
    obtain ⟨h1, h2⟩ := accS_perm hns k
    have hp : 0 ≤ (ns.getD (2 * k + 1) 0).tmod 8 ∧ (ns.getD (2 * k + 1) 0).tmod 8 < 8 := ⟨Int.tmod_nonneg _ (byte_at hns).1, Int.tmod_lt_of_pos _ (by decide)⟩
    unfold accS
    split
    · refine ⟨fun a ha => ?_, h2⟩
      rcases mem_addS ha with rfl | ha
      · exact ⟨hp, rfl⟩
      · exact h1 a ha
    · refine ⟨h1, fun a ha => ?_⟩
      rcases mem_addS ha with rfl | ha
      · exact ⟨hp, rfl⟩
      · exact h2 a ha
theorem bxor_8 {a b : Int} (ha : 0 ≤ a ∧ a < 8) (hb : 0 ≤ b ∧ b < 8) : 0 ≤ bxor a b ∧ bxor a b < 8 := by
  have : ∀ x y : Fin 8, 0 ≤ bxor (x.1 : Int) (y.1 : Int) ∧ bxor (x.1 : Int) (y.1 : Int) < 8 := by decide +kernel
  have := this ⟨a.toNat, by omega⟩ ⟨b.toNat, by omega⟩
  rwa [show ((⟨a.toNat, by omega⟩ : Fin 8).1 : Int) = a from Int.toNat_of_nonneg ha.1, show ((⟨b.toNat, by omega⟩ : Fin 8).1 : Int) = b from Int.toNat_of_nonneg hb.1] at this
theorem good_l9 {ns : List Int} (hns : isBytes ns) (m : Int) : Good (l9S ns m) := by
  obtain ⟨h1, h2⟩ := accS_perm hns (pairs ns)
  have hp : 0 ≤ (ns.getD 0 0).tmod 8 ∧ (ns.getD 0 0).tmod 8 < 8 := ⟨Int.tmod_nonneg _ (byte_at hns).1, Int.tmod_lt_of_pos _ (by decide)⟩
  unfold l9S
  dsimp only
  split
  · refine ⟨fun a ha => ?_, ⟨⟨1, 0, band (m.fdiv (2 ^ 6)) 7⟩, by simp, rfl⟩, ⟨⟨3, 0, band (m.fdiv (2 ^ 3)) 7⟩, by simp, rfl⟩, ⟨⟨6, 0, band m 7⟩, by simp, rfl⟩⟩
    simp only [List.mem_append, List.mem_cons, List.not_mem_nil, or_false] at ha
    rcases ha with (rfl | ha) | rfl | rfl
    · exact band_7 _
    · exact (h1 a ha).1
    · exact band_7 _
    · exact band_7 _
  · refine ⟨fun a ha => ?_, ⟨⟨1, 0, band (m.fdiv (2 ^ 6)) 7⟩, by simp, rfl⟩, ⟨⟨3, 0, bxor (band (m.fdiv (2 ^ 3)) 7) ((ns.getD 0 0).tmod 8)⟩, by simp, rfl⟩, ⟨⟨6, 0, band m 7⟩, by simp, rfl⟩⟩
    simp only [List.mem_append, List.mem_cons, List.not_mem_nil, or_false] at ha
    rcases ha with (((rfl | ha) | rfl) | ha) | rfl | rfl
    · exact band_7 _
    · exact (h1 a ha).1
    · exact bxor_8 (band_7 _) hp
    · exact (h2 a ha).1
    · exact band_7 _
    · exact band_7 _
theorem good_mode (m : Int) : Good (fromMode m) := by
  have h := band_le (x := m) (y := 511) (by decide) (by decide)
  refine ⟨fun a ha => ?_, ⟨_, .head _, rfl⟩, ⟨_, .tail _ (.head _), rfl⟩, ⟨_, .tail _ (.tail _ (.head _)), rfl⟩⟩
  simp only [fromMode, List.mem_cons, List.not_mem_nil, or_false] at ha
  rcases ha with rfl | rfl | rfl
  · show 0 ≤ (band m 511).fdiv 64 ∧ (band m 511).fdiv 64 < 8
    rw [Int.fdiv_eq_ediv_of_nonneg _ (by decide)]
    omega
  · exact band_7 _
  · exact band_7 _
theorem l9_len (ns : List Int) (m : Int) : (l9S ns m).length ≤ 17 := by
  have h := accS_len ns (pairs ns)
  have hp : pairs ns ≤ 6 := Nat.min_le_left _ _
  unfold l9S
  dsimp only
  split <;> simp only [List.length_append, List.length_cons, List.length_nil] <;> omega
theorem MadeM.good {ns : List Int} {m : Meta} (h : MadeM ns m) : Good (ofS m) := by
  unfold ofS
  split
  · rename_i hl
    rcases h.acl with h | ⟨ns', h1, h2⟩
    · rw [h] at hl; simp at hl
    · rw [h2]; exact good_l9 h1 _
  · exact good_mode _
theorem dflt_len {k : Int} {m : Meta} (h : MadeK k m) : m.dflt.length ≤ 17 := by
  rcases h.dflt with h | ⟨_, ns', n, _, _, h⟩
  · rw [h]; simp
  · rw [h]; exact l9_len _ _
theorem MadeM.len {ns : List Int} {m : Meta} (h : MadeM ns m) : m.acl.length ≤ 17 := by
  rcases h.acl with h | ⟨ns', h1, h2⟩
  · rw [h]; simp
  · rw [h2]; exact l9_len _ _
theorem MadeM.short {ns : List Int} {m : Meta} (h : MadeM ns m) : _root_.Go.Proofs.Ytgjlkcdnlndlnaa.short m.acl := Nat.le_trans h.len (by decide)
theorem perm_some {l : List Ace} (h : Good l) {t : Int} (ht : ∃ a ∈ l, a.tag = t) : ∃ p, permS l t = some p ∧ 0 ≤ p ∧ p < 8 := by
  obtain ⟨a, ha, hat⟩ := ht
  unfold permS
  cases hf : l.find? fun a => decide (a.tag = t) with
  | none => exact absurd (List.find?_eq_none.1 hf a ha) (by simp [hat])
  | some b => exact ⟨b.perm, rfl, h.perm b (List.mem_of_find?_eq_some hf)⟩
theorem mask_some {l : List Ace} (h : Good l) : ∃ p, maskS l = some p ∧ 0 ≤ p ∧ p < 8 := by
  unfold maskS
  split
  · rename_i hx
    rcases ixP_find (fun a : Ace => decide (a.tag = 5)) Ace.z l with ⟨h1, _⟩ | ⟨k, _, _, h3⟩
    · omega
    · refine perm_some h ⟨_, List.mem_of_find?_eq_some h3, by simpa using List.find?_some h3⟩
  · exact ⟨7, rfl, by decide, by decide⟩
theorem fin88 {p : Int → Int → Prop} (h : ∀ n k : Fin 8, p (n.1 : Int) (k.1 : Int)) {n k : Int} (hn : 0 ≤ n ∧ n < 8) (hk : 0 ≤ k ∧ k < 8) : p n k :=
  fin8 (p := fun n => ∀ k, 0 ≤ k ∧ k < 8 → p n k) (fun n k hk => fin8 (p := p n.1) (fun k => h n k) hk.1 hk.2) hn.1 hn.2 k hk
def bor (a b : Int) : Int := abits .or .i64 a b
end Go.Proofs.Ytgjlkcdnlndlnaa
/- right.Less, walked, and what it answers. -/
namespace Go.Proofs.Ytgjlkcdnlndlnaa
open Go Go.Proofs.Ytgjlkcdnlndlnaa.Sx F
set_option linter.unusedVariables false
set_option linter.unusedSimpArgs false
def lessG (mask : Int) : List Ace → Int → Int → Int × Int
  | [], g, o => (g, o)
  | a :: r, g, o =>
    if a.tag = 2 then lessG mask r (band g (band a.perm mask)) (band o (band a.perm mask))
    else if a.tag = 4 then lessG mask r g (band o (band a.perm mask))
    else lessG mask r g o
def lessN (p g o : Int) : Int := bor (bor (IntKind.i64.wrap (p * 2 ^ 6)) (IntKind.i64.wrap (g * 2 ^ 3))) o
def lessO (l : List Ace) : Option Int :=
  (maskS l).bind fun mask => (permS l 3).bind fun g => (permS l 6).bind fun o => (permS l 1).map fun p =>
    lessN p (lessG mask l (band g mask) o).1 (lessG mask l (band g mask) o).2
def box1 (m : Th Meta) : BL := .cons 10000 (.cells (Meta.ch m)) .nil
theorem less1_c (m : Th Meta) (hm : short (m .o).acl) {d : Nat} {K : ARes → BL → Prop} (hr : ∀ n : Th Int, lessO (ofS (m .o)) = some (n .o) → K (.ret (.int .i64 n)) (box1 m))
    (hp : ∀ t, lessO (ofS (m .o)) = none → K (.pan (lacks t)) (box1 m)) : CallAt PT right_Less_1 [.ptr 10000 0] d (box1 m) K := by
  refine right_Less_1.of rfl rfl ?_
  cbv
  refine of_c m fun l hl => ?_
  have hls : short (l .o) := by rw [hl]; exact ofS_short hm
  rw [← hl] at hr hp
  cbv
  refine mask_c l hls (fun mk hmk => ?_) fun t ht => ?_
  rotate_left
  · cbv
    exact hp _ (by unfold lessO; rw [ht]; rfl)
  cbv
  refine perm_c l (fun _ => 3) hls (fun g hg => ?_) fun hg => ?_
  rotate_left
  · cbv
    exact hp _ (by unfold lessO; rw [hmk, show permS (l .o) 3 = none from hg]; rfl)
  have hg : permS (l .o) 3 = some (g .o) := hg
  cbv
  refine perm_c l (fun _ => 6) hls (fun o ho => ?_) fun ho => ?_
  rotate_left
  · cbv
    exact hp _ (by unfold lessO; rw [hmk, hg, show permS (l .o) 6 = none from ho]; rfl)
  have ho : permS (l .o) 6 = some (o .o) := ho
  cbv
  refine loop_rule (X := Nat × Int × Int) 1000 [0, 2, 3, 18, 19] [10000] (fun x => .cons 20 (.int .i64 fun _ => zi x.1) (.cons 4 (.int .i64 fun _ => x.2.1) (.cons 5 (.int .i64 fun _ => x.2.2) .nil))) (fun _ => .nil)
    (fun x => x.1 ≤ (l .o).length ∧ lessG (mk .o) (l .o) (band (g .o) (mk .o)) (o .o) = lessG (mk .o) ((l .o).drop x.1) x.2.1 x.2.2) (fun x => (l .o).length - x.1) (0, band (g .o) (mk .o), o .o) ?_ ⟨Nat.zero_le _, rfl⟩ ?_
  · cbv
    (repeat' (first | exact True.intro | exact Same.refl _ | exact SameB.refl _ | exact ⟨rfl⟩ | exact Same.int rfl | exact Same.str rfl | exact Same.bool rfl | (refine Same.int ?_; simp only [List.length_append, List.length_cons, List.length_nil, zi]; omega) | (refine SameB.row' rfl fun i hi => ?_; first | rfl | exact absurd hi (Nat.not_lt_zero _)) | refine And.intro ?_ ?_ | refine SameB.cells ?_ | exact SameC.nil | refine SameC.cons ?_ ?_ | exact Same.nsl rfl | exact Same.tt rfl | exact Same.ff rfl))
  · rintro ⟨k, gg, oo⟩ ⟨hk, hgo⟩
    dsimp only at hk hgo
    have succ := zi_succ (k := k) (by unfold short at hls; omega)
    cbv
    ((try refine br_rev ?_); (first | refine br_dec (fun h2 => ?_) (fun h2 => ?_) | refine br_ndec (fun h2 => ?_) (fun h2 => ?_) | refine br_nbool (fun h2 => ?_) (fun h2 => ?_) | refine br_bool (fun h2 => ?_) (fun h2 => ?_)); all_goals (try dsimp only at h2); all_goals (try with_reducible replace h2 := zi_lt.1 h2); all_goals (try with_reducible replace h2 := not_zlt h2)) <;> cbv
    · rw [drop_cons _ Ace.z _ h2] at hgo
      refine safe ⟨zi_nonneg _, zi_lt.2 h2⟩ ?_
      generalize hx : (l O1.o).getD ((fun x => (zi (k, gg, oo).fst).toNat) O1.o) Ace.z = a
      have hx : (l .o).getD k Ace.z = a := by rw [← hx]; show _ = (l .o).getD (zi k).toNat Ace.z; rw [zi_toNat]
      rw [hx] at hgo
      ((try refine br_rev ?_); (first | refine br_dec (fun h3 => ?_) (fun h3 => ?_) | refine br_ndec (fun h3 => ?_) (fun h3 => ?_) | refine br_nbool (fun h3 => ?_) (fun h3 => ?_) | refine br_bool (fun h3 => ?_) (fun h3 => ?_)); all_goals (try dsimp only at h3); all_goals (try with_reducible replace h3 := zi_lt.1 h3); all_goals (try with_reducible replace h3 := not_zlt h3)) <;> cbv
      · refine ⟨(k + 1, band gg (band a.perm (mk .o)), band oo (band a.perm (mk .o))), ⟨by show k + 1 ≤ _; omega, by show _ = lessG _ _ (band gg (band a.perm (mk .o))) (band oo (band a.perm (mk .o))); rw [hgo, lessG, if_pos h3]⟩, by show _ - (k + 1) < _ - k; omega, ?_⟩
        cbv
        (repeat' (first | exact True.intro | exact Same.refl _ | exact SameB.refl _ | exact ⟨rfl⟩ | exact Same.int rfl | exact Same.str rfl | exact Same.bool rfl | (refine Same.int ?_; simp only [List.length_append, List.length_cons, List.length_nil, zi]; omega) | (refine SameB.row' rfl fun i hi => ?_; first | rfl | exact absurd hi (Nat.not_lt_zero _)) | refine And.intro ?_ ?_ | refine SameB.cells ?_ | exact SameC.nil | refine SameC.cons ?_ ?_ | exact Same.nsl rfl | exact Same.tt rfl | exact Same.ff rfl))
        all_goals exact Same.int succ
      · ((try refine br_rev ?_); (first | refine br_dec (fun h4 => ?_) (fun h4 => ?_) | refine br_ndec (fun h4 => ?_) (fun h4 => ?_) | refine br_nbool (fun h4 => ?_) (fun h4 => ?_) | refine br_bool (fun h4 => ?_) (fun h4 => ?_)); all_goals (try dsimp only at h4); all_goals (try with_reducible replace h4 := zi_lt.1 h4); all_goals (try with_reducible replace h4 := not_zlt h4)) <;> cbv
        · refine ⟨(k + 1, gg, band oo (band a.perm (mk .o))), ⟨by show k + 1 ≤ _; omega, by show _ = lessG _ _ gg (band oo (band a.perm (mk .o))); rw [hgo, lessG, if_neg h3, if_pos h4]⟩, by show _ - (k + 1) < _ - k; omega, ?_⟩
          cbv
          (repeat' (first | exact True.intro | exact Same.refl _ | exact SameB.refl _ | exact ⟨rfl⟩ | exact Same.int rfl | exact Same.str rfl | exact Same.bool rfl | (refine Same.int ?_; simp only [List.length_append, List.length_cons, List.length_nil, zi]; omega) | (refine SameB.row' rfl fun i hi => ?_; first | rfl | exact absurd hi (Nat.not_lt_zero _)) | refine And.intro ?_ ?_ | refine SameB.cells ?_ | exact SameC.nil | refine SameC.cons ?_ ?_ | exact Same.nsl rfl | exact Same.tt rfl | exact Same.ff rfl))
          all_goals exact Same.int succ
        · refine ⟨(k + 1, gg, oo), ⟨by show k + 1 ≤ _; omega, by show _ = lessG _ _ gg oo; rw [hgo, lessG, if_neg h3, if_neg h4]⟩, by show _ - (k + 1) < _ - k; omega, ?_⟩
          cbv
          (repeat' (first | exact True.intro | exact Same.refl _ | exact SameB.refl _ | exact ⟨rfl⟩ | exact Same.int rfl | exact Same.str rfl | exact Same.bool rfl | (refine Same.int ?_; simp only [List.length_append, List.length_cons, List.length_nil, zi]; omega) | (refine SameB.row' rfl fun i hi => ?_; first | rfl | exact absurd hi (Nat.not_lt_zero _)) | refine And.intro ?_ ?_ | refine SameB.cells ?_ | exact SameC.nil | refine SameC.cons ?_ ?_ | exact Same.nsl rfl | exact Same.tt rfl | exact Same.ff rfl))
          all_goals exact Same.int succ
    · rw [List.drop_eq_nil_of_le (by omega)] at hgo
      refine perm_c l (fun _ => 1) hls (fun p hp1 => ?_) fun hp1 => ?_
      · have hp1 : permS (l .o) 1 = some (p .o) := hp1
        (cbv; repeat (refine safe (by first | decide | (simp only [zi] at *; omega) | assumption | (dsimp only; omega) | (dsimp only at *; simp only [List.length_append, List.length_cons, List.length_nil, zi] at *; omega)) ?_; cbv))
        exact hr _ (by unfold lessO; rw [hmk, hg, ho, hp1]; show some _ = _; rw [hgo]; rfl)
      · cbv
        exact hp _ (by unfold lessO; rw [hmk, hg, ho, show permS (l .o) 1 = none from hp1]; rfl)
theorem lookid_none_c (b : Th Int) {K : BL → Prop} (h : K (.cons 10000 (.cells (.cons (.int .i64 b) .nil)) .nil)) : DefAt PT right_look_int_1 false [.nif, .ptr 10000 0] (.cons 10000 (.cells (.cons (.int .i64 b) .nil)) .nil) K := by
  refine right_look_int_1.of rfl rfl (fun _ => rfl) ?_
  cbv
  exact h
theorem lookid_some_c (t : Th Int) {K : BL → Prop} (h : K (.cons 10000 (.cells (.cons (.int .i64 fun _ => 0) .nil)) .nil)) : DefAt PT right_look_int_1 true [lacks t, .ptr 10000 0] (.cons 10000 (.cells (.cons (.int .i64 fun _ => 0) .nil)) .nil) K := by
  refine right_look_int_1.of rfl rfl (fun h => by cases h) ?_
  cbv
  exact h
theorem look_less_c (m : Th Meta) (hm : short (m .o).acl) {d : Nat} {K : ARes → BL → Prop} (hr : ∀ n : Th Int, n .o = (lessO (ofS (m .o))).getD 0 → K (.ret (.int .i64 n)) (box1 m)) :
    CallAt PT right_look_int [.fn (.func right_Less_1) .nil (.cons (.ptr 10000 0) .nil)] d (box1 m) K := by
  refine CallAt.res ?_
  refine right_look_int.of rfl rfl ?_
  cbv
  refine CallAt.frameP [(10000, 10000)] [.ptr 10000 0] (by kernel_rfl) rfl fun K1 hK1 => ?_
  cbv
  refine less1_c m hm (fun b hb => hK1 _ _ ?_) fun t ht => hK1 _ _ ?_
  · cbv
    refine DefAt.use [(10000, 2)] [.nif, .ptr 10000 0] (by kernel_rfl) rfl (lookid_none_c b ?_)
    cbv
    refine ⟨_, .ret (.refl _), hr b ?_⟩
    rw [hb]; rfl
  · cbv
    refine DefAt.use [(10000, 2)] [lacks t, .ptr 10000 0] (by kernel_rfl) rfl (lookid_some_c t ?_)
    cbv
    refine ⟨_, .ret (.refl _), hr (fun _ => 0) ?_⟩
    rw [ht]; rfl
def LessS (m : Meta) : Int := (lessO (ofS m)).getD 0
theorem Less_c (m : Th Meta) (hm : short (m .o).acl) {d : Nat} {K : ARes → BL → Prop} (hr : ∀ n : Th Int, n .o = LessS (m .o) → K (.ret (.int .i64 n)) .nil) :
    CallAt PT right_Less [Meta.av m] d .nil K := by
  refine right_Less.of rfl rfl ?_
  cbv
  refine CallAt.frameP [(10000, 1)] [.fn (.func right_Less_1) .nil (.cons (.ptr 10000 0) .nil)] (by kernel_rfl) rfl fun K1 hK1 => ?_
  cbv
  refine look_less_c m hm fun n hn => hK1 _ _ ?_
  cbv
  exact hr n hn
theorem fin888 {p : Int → Int → Int → Prop} (h : ∀ n k j : Fin 8, p (n.1 : Int) (k.1 : Int) (j.1 : Int)) {n k j : Int} (hn : 0 ≤ n ∧ n < 8) (hk : 0 ≤ k ∧ k < 8) (hj : 0 ≤ j ∧ j < 8) : p n k j :=
  fin88 (p := fun n k => ∀ j, 0 ≤ j ∧ j < 8 → p n k j) (fun n k j hj => fin8 (p := p n.1 k.1) (fun j => h n k j) hj.1 hj.2) hn hk j hj
/-- What a right may, another may. -/
def sub (x y : Int) : Prop := ∀ w, 0 ≤ w → w < 8 → hasS w x = true → hasS w y = true
theorem sub_refl (x : Int) : sub x x := fun _ _ _ h => h
theorem sub_trans {x y z : Int} (h1 : sub x y) (h2 : sub y z) : sub x z := fun w a b h => h2 w a b (h1 w a b h)
theorem band_8 {a b : Int} (ha : 0 ≤ a ∧ a < 8) (hb : 0 ≤ b ∧ b < 8) : 0 ≤ band a b ∧ band a b < 8 := fin88 (p := fun a b => 0 ≤ band a b ∧ band a b < 8) (by decide +kernel) ha hb
theorem sub_l {a b : Int} (ha : 0 ≤ a ∧ a < 8) (hb : 0 ≤ b ∧ b < 8) : sub (band a b) a := fun w h0 h1 =>
  fin888 (p := fun a b w => hasS w (band a b) = true → hasS w a = true) (by decide +kernel) ha hb ⟨h0, h1⟩
theorem sub_r {a b : Int} (ha : 0 ≤ a ∧ a < 8) (hb : 0 ≤ b ∧ b < 8) : sub (band a b) b := fun w h0 h1 =>
  fin888 (p := fun a b w => hasS w (band a b) = true → hasS w b = true) (by decide +kernel) ha hb ⟨h0, h1⟩
structure LessOk (mask : Int) (l : List Ace) (g o : Int) (x : Int × Int) : Prop where
  r1 : 0 ≤ x.1 ∧ x.1 < 8
  r2 : 0 ≤ x.2 ∧ x.2 < 8
  g : sub x.1 g
  o : sub x.2 o
  u : ∀ a ∈ l, a.tag = 2 → sub x.1 (band a.perm mask) ∧ sub x.2 (band a.perm mask)
  n : ∀ a ∈ l, a.tag = 4 → sub x.2 (band a.perm mask)
theorem lessG_ok {mask : Int} (hm : 0 ≤ mask ∧ mask < 8) : ∀ (l : List Ace) (g o : Int), (∀ a ∈ l, 0 ≤ a.perm ∧ a.perm < 8) → 0 ≤ g ∧ g < 8 → 0 ≤ o ∧ o < 8 → LessOk mask l g o (lessG mask l g o)
  | [], g, o, _, hg, ho => ⟨hg, ho, sub_refl _, sub_refl _, by simp, by simp⟩
  | a :: r, g, o, hl, hg, ho => by
    have ha := hl a (by simp)
    have hr := fun x hx => hl x (List.mem_cons_of_mem a hx)
    have hb := band_8 ha hm
    unfold lessG
    by_cases h2 : a.tag = 2
    · rw [if_pos h2]
      have ih := lessG_ok hm r _ _ hr (band_8 hg hb) (band_8 ho hb)
      refine ⟨ih.r1, ih.r2, sub_trans ih.g (sub_l hg hb), sub_trans ih.o (sub_l ho hb), fun x hx ht => ?_, fun x hx ht => ?_⟩
      · rcases List.mem_cons.1 hx with rfl | hx
        · exact ⟨sub_trans ih.g (sub_r hg hb), sub_trans ih.o (sub_r ho hb)⟩
        · exact ih.u x hx ht
      · rcases List.mem_cons.1 hx with rfl | hx
        · omega
        · exact ih.n x hx ht
    · rw [if_neg h2]
      by_cases h4 : a.tag = 4
      · rw [if_pos h4]
        have ih := lessG_ok hm r _ _ hr hg (band_8 ho hb)
        refine ⟨ih.r1, ih.r2, ih.g, sub_trans ih.o (sub_l ho hb), fun x hx ht => ?_, fun x hx ht => ?_⟩
        · rcases List.mem_cons.1 hx with rfl | hx
          · exact absurd ht h2
          · exact ih.u x hx ht
        · rcases List.mem_cons.1 hx with rfl | hx
          · exact sub_trans ih.o (sub_r ho hb)
          · exact ih.n x hx ht
      · rw [if_neg h4]
        have ih := lessG_ok hm r _ _ hr hg ho
        refine ⟨ih.r1, ih.r2, ih.g, ih.o, fun x hx ht => ?_, fun x hx ht => ?_⟩
        · rcases List.mem_cons.1 hx with rfl | hx
          · exact absurd ht h2
          · exact ih.u x hx ht
        · rcases List.mem_cons.1 hx with rfl | hx
          · exact absurd ht h4
          · exact ih.n x hx ht
theorem lessN_eq {p g o : Int} (hp : 0 ≤ p ∧ p < 8) (hg : 0 ≤ g ∧ g < 8) (ho : 0 ≤ o ∧ o < 8) : lessN p g o = 64 * p + 8 * g + o :=
  fin888 (p := fun p g o => lessN p g o = 64 * p + 8 * g + o) (by decide +kernel) hp hg ho
theorem fin512 {p : Int → Prop} (h : ∀ n : Fin 512, p (n.1 : Int)) {n : Int} (h0 : 0 ≤ n) (h1 : n < 512) : p n := by
  have := h ⟨n.toNat, by omega⟩
  rwa [show ((⟨n.toNat, by omega⟩ : Fin 512).1 : Int) = n from Int.toNat_of_nonneg h0] at this
theorem less_mode {m : Meta} (h : m.acl = []) : LessS m = band m.mode 511 := by
  have hb := band_le (x := m.mode) (y := 511) (by decide) (by decide)
  unfold LessS ofS
  rw [h]
  simp only [List.length_nil, Nat.lt_irrefl, if_false]
  unfold fromMode
  generalize band m.mode 511 = b at hb
  exact fin512 (p := fun b => (lessO [⟨1, 0, b.fdiv (2 ^ 6)⟩, ⟨3, 0, band (b.fdiv (2 ^ 3)) 7⟩, ⟨6, 0, band b 7⟩]).getD 0 = b) (by decide +kernel) (by omega) (by omega)
end Go.Proofs.Ytgjlkcdnlndlnaa
/- The document's answers on rights, walked. -/
namespace Go.Proofs.Ytgjlkcdnlndlnaa
open Go Go.Proofs.Ytgjlkcdnlndlnaa.Sx F
set_option linter.unusedVariables false
set_option linter.unusedSimpArgs false
def permR (l : List Ace) (t : Int) : Int := (permS l t).getD (-1)
theorem permS_cons (a : Ace) (r : List Ace) (t : Int) : permS (a :: r) t = if a.tag = t then some a.perm else permS r t := by
  unfold permS
  by_cases h : a.tag = t <;> simp [h]
theorem perm9_c (l : Th (List Ace)) (t : Th Int) (hl : short (l .o)) {d : Nat} {K : ARes → BL → Prop} (hr : ∀ n : Th Int, n .o = permR (l .o) (t .o) → K (.ret (.int .i64 n)) .nil) : CallAt PT r9_Perm [aces l, .int .i64 t] d .nil K := by
  refine r9_Perm.of rfl rfl ?_
  cbv
  refine loop_rule (X := Nat) 1000 [0, 1] [] (fun k => .cons 5 (.int .i64 fun _ => zi k) .nil) (fun _ => .nil) (fun k => k ≤ (l .o).length ∧ permS (l .o) (t .o) = permS ((l .o).drop k) (t .o)) (fun k => (l .o).length - k) 0 ?_ ⟨Nat.zero_le _, rfl⟩ ?_
  · cbv
    (repeat' (first | exact True.intro | exact Same.refl _ | exact SameB.refl _ | exact ⟨rfl⟩ | exact Same.int rfl | exact Same.str rfl | exact Same.bool rfl | (refine Same.int ?_; simp only [List.length_append, List.length_cons, List.length_nil, zi]; omega) | (refine SameB.row' rfl fun i hi => ?_; first | rfl | exact absurd hi (Nat.not_lt_zero _)) | refine And.intro ?_ ?_ | refine SameB.cells ?_ | exact SameC.nil | refine SameC.cons ?_ ?_ | exact Same.nsl rfl | exact Same.tt rfl | exact Same.ff rfl))
  · rintro k ⟨hk, hp⟩
    have succ := zi_succ (k := k) (by unfold short at hl; omega)
    cbv
    ((try refine br_rev ?_); (first | refine br_dec (fun h1 => ?_) (fun h1 => ?_) | refine br_ndec (fun h1 => ?_) (fun h1 => ?_) | refine br_nbool (fun h1 => ?_) (fun h1 => ?_) | refine br_bool (fun h1 => ?_) (fun h1 => ?_)); all_goals (try dsimp only at h1); all_goals (try with_reducible replace h1 := zi_lt.1 h1); all_goals (try with_reducible replace h1 := not_zlt h1)) <;> cbv
    · rw [drop_cons _ Ace.z _ h1, permS_cons] at hp
      refine safe ⟨zi_nonneg _, zi_lt.2 h1⟩ ?_
      have hz := zi_toNat k
      ((try refine br_rev ?_); (first | refine br_dec (fun h2 => ?_) (fun h2 => ?_) | refine br_ndec (fun h2 => ?_) (fun h2 => ?_) | refine br_nbool (fun h2 => ?_) (fun h2 => ?_) | refine br_bool (fun h2 => ?_) (fun h2 => ?_)); all_goals (try dsimp only at h2); all_goals (try with_reducible replace h2 := zi_lt.1 h2); all_goals (try with_reducible replace h2 := not_zlt h2)) <;> cbv
      · rw [hz] at h2
        refine safe ⟨zi_nonneg _, zi_lt.2 h1⟩ ?_
        exact hr _ (by unfold permR; rw [hp, if_pos h2]; show ((l .o).getD (zi k).toNat Ace.z).perm = _; rw [hz]; rfl)
      · rw [hz] at h2
        rw [if_neg h2] at hp
        refine ⟨k + 1, ⟨h1, hp⟩, by omega, ?_⟩
        cbv
        (repeat' (first | exact True.intro | exact Same.refl _ | exact SameB.refl _ | exact ⟨rfl⟩ | exact Same.int rfl | exact Same.str rfl | exact Same.bool rfl | (refine Same.int ?_; simp only [List.length_append, List.length_cons, List.length_nil, zi]; omega) | (refine SameB.row' rfl fun i hi => ?_; first | rfl | exact absurd hi (Nat.not_lt_zero _)) | refine And.intro ?_ ?_ | refine SameB.cells ?_ | exact SameC.nil | refine SameC.cons ?_ ?_ | exact Same.nsl rfl | exact Same.tt rfl | exact Same.ff rfl))
        all_goals exact Same.int succ
    · rw [List.drop_eq_nil_of_le (by omega)] at hp
      exact hr (fun _ => -1) (by unfold permR; rw [hp]; rfl)
def mask9 (l : List Ace) : Int := if permR l 5 < 0 then 7 else permR l 5
end Go.Proofs.Ytgjlkcdnlndlnaa
