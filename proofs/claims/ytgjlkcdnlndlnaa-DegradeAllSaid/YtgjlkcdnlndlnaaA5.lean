/- Texts laid together: MeE, Nam, Ent, Plan, Fewer, Attrs, Order, Ref21, Same, MeF, MeG, MeH, MeI, Mkv, MeJ, W1, W2, W3, W4, W5, Split, Safe, W6, RcQ, W7, PlanMade, W8, DegRes, Deg. -/
import Derived.Lib.Bytealg
import Derived.RangeFuncNested
import Derived.RangeFuncLeaves
import Derived.Shelf.Abstract
import Derived.WalkKit
import Derived.WalkLawsBesides
import Derived.OwnWalkIn
import Derived.TacticsInMore
import Derived.LoopNIn
import Derived.LoopIn
import Derived.Test.YtgjlkcdnlndlnaaProg
import Derived.Test.YtgjlkcdnlndlnaaA4
/- Names with values that may be: walked, exact. -/
namespace Go.Proofs.Ytgjlkcdnlndlnaa
open Go Go.Proofs.Ytgjlkcdnlndlnaa.Sx F
set_option linter.unusedVariables false
set_option linter.unusedSimpArgs false
def u8Ch (b : Th UInt8) : AV := .cons (.int .u8 fun _ => zi (b .o).toNat) .nil
def hexS : List UInt8 := [48, 49, 50, 51, 52, 53, 54, 55, 56, 57, 65, 66, 67, 68, 69, 70]
theorem escS_succ (l : List UInt8) (k : Nat) (h : k < l.length) : escS (l.take (k + 1)) = escS (l.take k) ++ escB (l.getD k 0) := by
  rw [escS_take l k h, List.getD_eq_getElem?_getD, List.getElem?_eq_getElem h]; rfl
theorem escB_ge (c : UInt8) : 1 ≤ (escB c).length := by unfold escB; split <;> simp
theorem escS_ge : ∀ l : List UInt8, l.length ≤ (escS l).length
  | [] => Nat.le_refl _
  | c :: r => by
    have h1 := escS_ge r
    have h2 := escB_ge c
    simp only [escS, List.flatMap_cons, List.length_append, List.length_cons] at h1 ⊢
    omega
theorem bytes_u8 {n : Nat} {g : Th Nat → AV} (l : List UInt8) (hn : n = l.length) (hg : ∀ i, i < n → g (fun _ => i) = u8Ch fun _ => l.getD i 0) : bytesN n g = l := by
  subst hn
  unfold bytesN
  apply List.ext_getElem?
  intro i
  rw [List.getElem?_map]
  by_cases h : i < l.length
  · rw [List.getElem?_range h, List.getElem?_eq_getElem h]
    simp only [Option.map_some, hg i h]
    show some (UInt8.ofNat (zi (l.getD i 0).toNat).toNat) = _
    rw [zi_toNat, List.getD_eq_getElem?_getD, List.getElem?_eq_getElem h]
    simp
  · rw [List.getElem?_eq_none (by simp; omega), List.getElem?_eq_none (by omega)]; rfl
theorem plain_lt {c : UInt8} (h : zi c.toNat < 33) : plainB c.toNat = false := by
  unfold zi at h
  unfold plainB; rw [decide_eq_false (by omega : ¬ 33 ≤ (c.toNat : Int))]; rfl
theorem plain_gt {c : UInt8} (h : 126 < zi c.toNat) : plainB c.toNat = false := by
  unfold zi at h
  unfold plainB; rw [decide_eq_false (by omega : ¬ (c.toNat : Int) ≤ 126)]; simp
theorem plain_37 {c : UInt8} (h : zi c.toNat = 37) : plainB c.toNat = false := by
  have h : (c.toNat : Int) = 37 := h
  rw [h]; rfl
theorem plain_61 {c : UInt8} (h : zi c.toNat = 61) : plainB c.toNat = false := by
  have h : (c.toNat : Int) = 61 := h
  rw [h]; rfl
theorem plain_ok {c : UInt8} (h1 : ¬ zi c.toNat < 33) (h2 : ¬ 126 < zi c.toNat) (h3 : ¬ zi c.toNat = 37) (h4 : ¬ zi c.toNat = 61) : plainB c.toNat = true := by
  unfold zi at h1 h2 h3 h4
  unfold plainB
  rw [decide_eq_true (by omega : 33 ≤ (c.toNat : Int)), decide_eq_true (by omega : (c.toNat : Int) ≤ 126), decide_eq_false h3, decide_eq_false h4]; rfl
theorem hex_hi_fin : ∀ n : Fin 256, (0 ≤ (zi n.1).fdiv (2 ^ min (Int.toNat 4) IntKind.u8.bits) ∧ (zi n.1).fdiv (2 ^ min (Int.toNat 4) IntKind.u8.bits) < zi 16) ∧ hexS.getD ((zi n.1).fdiv (2 ^ min (Int.toNat 4) IntKind.u8.bits)).toNat 0 = hexB (UInt8.ofNat n.1 / 16) := by decide +kernel
theorem hex_hi (c : UInt8) : (0 ≤ (zi c.toNat).fdiv (2 ^ min (Int.toNat 4) IntKind.u8.bits) ∧ (zi c.toNat).fdiv (2 ^ min (Int.toNat 4) IntKind.u8.bits) < zi 16) ∧ hexS.getD ((zi c.toNat).fdiv (2 ^ min (Int.toNat 4) IntKind.u8.bits)).toNat 0 = hexB (c / 16) := by
  have := hex_hi_fin ⟨c.toNat, c.toNat_lt⟩
  simpa using this
theorem hex_lo_fin : ∀ n : Fin 256, (0 ≤ abits .and .u8 (zi n.1) 15 ∧ abits .and .u8 (zi n.1) 15 < zi 16) ∧ hexS.getD (abits .and .u8 (zi n.1) 15).toNat 0 = hexB (UInt8.ofNat n.1 % 16) := by decide +kernel
theorem hex_lo (c : UInt8) : (0 ≤ abits .and .u8 (zi c.toNat) 15 ∧ abits .and .u8 (zi c.toNat) 15 < zi 16) ∧ hexS.getD (abits .and .u8 (zi c.toNat) 15).toNat 0 = hexB (c % 16) := by
  have := hex_lo_fin ⟨c.toNat, c.toNat_lt⟩
  simpa using this
theorem r1esc_c (s : Th (List UInt8)) (hs : (s .o).length ≤ 1099511627776) {d : Nat} {K : ARes → BL → Prop} (hr : ∀ t : Th (List UInt8), t .o = escS (s .o) → K (.ret (.str t)) .nil) : CallAt PT r1_Escape [.str s] d .nil K := by
  refine CallAt.res ?_
  refine r1_Escape.of rfl rfl ?_
  cbv
  refine nil_tmp 3 9000 1 (fun i => u8Ch fun _ => ([] : List UInt8).getD (i .o) 0) rfl rfl ?_
  refine loop_at (X := Nat) 1000 [0, 4] [] (fun _ k => .cons 3 (.row 9000) (.cons 5 (.int .i64 fun _ => zi k) .nil)) (fun _ k => .cons 9000 (rowB 1 u8Ch 0 fun _ => escS ((s .o).take k)) .nil)
    (fun k => k ≤ (s .o).length) (fun k => (s .o).length - k) 0 ?_ (Nat.zero_le _) ?_
  · cbv
    (repeat' (first | exact True.intro | exact Same.refl _ | exact SameB.refl _ | exact ⟨rfl⟩ | exact Same.int rfl | exact Same.str rfl | exact Same.bool rfl | (refine Same.int ?_; simp only [List.length_append, List.length_cons, List.length_nil, zi]; omega) | (refine SameB.row' rfl fun i hi => ?_; first | rfl | exact absurd hi (Nat.not_lt_zero _)) | refine And.intro ?_ ?_ | refine SameB.cells ?_ | exact SameC.nil | refine SameC.cons ?_ ?_ | exact Same.nsl rfl | exact Same.tt rfl | exact Same.ff rfl))
  · intro k hk
    have hz := zi_toNat k
    have hel := escS_len ((s .o).take k)
    rw [List.length_take] at hel
    cbv
    ((try refine br_rev ?_); (first | refine br_dec (fun h1 => ?_) (fun h1 => ?_) | refine br_ndec (fun h1 => ?_) (fun h1 => ?_) | refine br_nbool (fun h1 => ?_) (fun h1 => ?_) | refine br_bool (fun h1 => ?_) (fun h1 => ?_)); all_goals (try dsimp only at h1); all_goals (try with_reducible replace h1 := zi_lt.1 h1); all_goals (try with_reducible replace h1 := not_zlt h1))
    · cbv
      refine safe ⟨zi_nonneg _, zi_lt.2 h1⟩ ?_
      rw [hz]
      have hlt := zi_lt.2 h1
      refine br_rev (br_dec (fun h2 => ?_) (fun h2 => ?_))
      rotate_left
      focus
        cbv
        refine safe ⟨zi_nonneg _, hlt⟩ ?_
        rw [hz]
        refine br_rev (br_dec (fun h3 => ?_) (fun h3 => ?_))
        rotate_left
        focus
          cbv
          refine safe ⟨zi_nonneg _, hlt⟩ ?_
          rw [hz]
          refine br_rev (br_dec (fun h4 => ?_) (fun h4 => ?_))
          rotate_left
          focus
            cbv
            refine safe ⟨zi_nonneg _, hlt⟩ ?_
            rw [hz]
            refine br_dec (fun h5 => ?_) (fun h5 => ?_)
            rotate_left
            focus
              have hp := plain_ok h2 h3 h4 h5
              cbv
              refine safe ⟨zi_nonneg _, hlt⟩ ?_
              rw [hz]
              refine app_one u8Ch 0 (escS ((s .o).take k)) ((s .o).getD k 0) rfl (fun i hi => rfl) rfl rfl (by omega) ?_
              cbv
              refine ⟨k + 1, h1, by omega, ?_⟩
              cbv
              rw [zi_succ (by omega), escS_succ _ _ h1, show escB ((s .o).getD k 0) = [(s .o).getD k 0] by rw [escB, hp]; rfl]
              (repeat' (first | exact True.intro | exact Same.refl _ | exact SameB.refl _ | exact ⟨rfl⟩ | exact Same.int rfl | exact Same.str rfl | exact Same.bool rfl | (refine Same.int ?_; simp only [List.length_append, List.length_cons, List.length_nil, zi]; omega) | (refine SameB.row' rfl fun i hi => ?_; first | rfl | exact absurd hi (Nat.not_lt_zero _)) | refine And.intro ?_ ?_ | refine SameB.cells ?_ | exact SameC.nil | refine SameC.cons ?_ ?_ | exact Same.nsl rfl | exact Same.tt rfl | exact Same.ff rfl))
      all_goals
        have hp : plainB ((s .o).getD k 0).toNat = false := by first | exact plain_61 h5 | exact plain_37 h4 | exact plain_gt h3 | exact plain_lt h2
        cbv
        refine safe ⟨zi_nonneg _, hlt⟩ ?_
        refine safe (by decide) ?_
        rw [hz]
        refine safe (hex_hi _).1 ?_
        refine safe ⟨zi_nonneg _, hlt⟩ ?_
        try rw [hz]
        refine safe (hex_lo _).1 ?_
        refine app_rows u8Ch 0 (escS ((s .o).take k)) [37, hexS.getD ((zi ((s .o).getD k 0).toNat).fdiv (2 ^ min (Int.toNat 4) IntKind.u8.bits)).toNat 0, hexS.getD (abits .and .u8 (zi ((s .o).getD k 0).toNat) 15).toNat 0] rfl (fun i hi => rfl) rfl (fun i hi => by
          have hi : i < 3 := hi
          match i, hi with
          | 0, _ | 1, _ | 2, _ => rfl) (by simp only [List.length_cons, List.length_nil]; omega) ?_
        cbv
        refine ⟨k + 1, h1, by omega, ?_⟩
        cbv
        rw [zi_succ (by omega), escS_succ _ _ h1, show escB ((s .o).getD k 0) = [37, hexB ((s .o).getD k 0 / 16), hexB ((s .o).getD k 0 % 16)] by rw [escB, hp]; rfl, (hex_hi ((s .o).getD k 0)).2, (hex_lo ((s .o).getD k 0)).2]
        (repeat' (first | exact True.intro | exact Same.refl _ | exact SameB.refl _ | exact ⟨rfl⟩ | exact Same.int rfl | exact Same.str rfl | exact Same.bool rfl | (refine Same.int ?_; simp only [List.length_append, List.length_cons, List.length_nil, zi]; omega) | (refine SameB.row' rfl fun i hi => ?_; first | rfl | exact absurd hi (Nat.not_lt_zero _)) | refine And.intro ?_ ?_ | refine SameB.cells ?_ | exact SameC.nil | refine SameC.cons ?_ ?_ | exact Same.nsl rfl | exact Same.tt rfl | exact Same.ff rfl))
    · obtain rfl : k = (s .o).length := by have h1 : (s .o).length ≤ k := h1; omega
      cbv
      refine safe (fun i _ => ⟨_, rfl⟩) ?_
      refine ⟨_, .ret (.refl _), hr _ ?_⟩
      have hall : (s .o).take (s .o).length = s .o := List.take_length
      show bytesN (escS ((s .o).take (s .o).length)).length _ = _
      rw [hall]
      exact bytes_u8 _ rfl fun i hi => rfl
theorem hasAny1_c (s : Th (List UInt8)) (c : UInt8) (hs : (s .o).length ≤ 1099511627776) {d : Nat} {K : ARes → BL → Prop} (hr : ∀ b : Th Bool, (b .o = true ↔ c ∈ s .o) → K (.ret (.bool b)) .nil) : CallAt PT r9_hasAny [.str s, .str fun _ => [c]] d .nil K := by
  refine CallAt.res ?_
  refine r9_hasAny.of rfl rfl ?_
  cbv
  refine loop_at (X := Nat) 1000 [0, 1] [] (fun _ k => .cons 5 (.int .i64 fun _ => zi k) .nil) (fun _ k => .nil)
    (fun k => k ≤ (s .o).length ∧ ∀ j, j < k → (s .o).getD j 0 ≠ c) (fun k => (s .o).length - k) 0 ?_ ⟨Nat.zero_le _, fun j hj => absurd hj (Nat.not_lt_zero _)⟩ ?_
  · cbv
    (repeat' (first | exact True.intro | exact Same.refl _ | exact SameB.refl _ | exact ⟨rfl⟩ | exact Same.int rfl | exact Same.str rfl | exact Same.bool rfl | (refine Same.int ?_; simp only [List.length_append, List.length_cons, List.length_nil, zi]; omega) | (refine SameB.row' rfl fun i hi => ?_; first | rfl | exact absurd hi (Nat.not_lt_zero _)) | refine And.intro ?_ ?_ | refine SameB.cells ?_ | exact SameC.nil | refine SameC.cons ?_ ?_ | exact Same.nsl rfl | exact Same.tt rfl | exact Same.ff rfl))
  · rintro k ⟨hk, hno⟩
    have hz := zi_toNat k
    cbv
    ((try refine br_rev ?_); (first | refine br_dec (fun h1 => ?_) (fun h1 => ?_) | refine br_ndec (fun h1 => ?_) (fun h1 => ?_) | refine br_nbool (fun h1 => ?_) (fun h1 => ?_) | refine br_bool (fun h1 => ?_) (fun h1 => ?_)); all_goals (try dsimp only at h1); all_goals (try with_reducible replace h1 := zi_lt.1 h1); all_goals (try with_reducible replace h1 := not_zlt h1))
    · cbv
      refine loop_at (X := Nat) 1000 [0, 1, 5] [] (fun _ i => .cons 6 (.int .i64 fun _ => zi i) .nil) (fun _ k => .nil)
        (fun i => i ≤ 1 ∧ (i = 1 → (s .o).getD k 0 ≠ c)) (fun i => 1 - i) 0 ?_ ⟨Nat.zero_le _, fun q => by cases q⟩ ?_
      · cbv
        (repeat' (first | exact True.intro | exact Same.refl _ | exact SameB.refl _ | exact ⟨rfl⟩ | exact Same.int rfl | exact Same.str rfl | exact Same.bool rfl | (refine Same.int ?_; simp only [List.length_append, List.length_cons, List.length_nil, zi]; omega) | (refine SameB.row' rfl fun i hi => ?_; first | rfl | exact absurd hi (Nat.not_lt_zero _)) | refine And.intro ?_ ?_ | refine SameB.cells ?_ | exact SameC.nil | refine SameC.cons ?_ ?_ | exact Same.nsl rfl | exact Same.tt rfl | exact Same.ff rfl))
      · rintro i ⟨hi, hic⟩
        cbv
        refine br_zlt (fun h2 => ?_) (fun h2 => ?_)
        · have h2 : i < 1 := h2
          obtain rfl : i = 0 := by omega
          cbv
          refine safe ⟨zi_nonneg _, zi_lt.2 h1⟩ ?_
          refine safe ⟨zi_nonneg _, (by show zi 0 < zi 1; decide)⟩ ?_
          refine br_dec (fun h3 => ?_) (fun h3 => ?_)
          · have h3 : zi ((s .o).getD (zi k).toNat 0).toNat = zi c.toNat := h3
            rw [hz] at h3
            have h3 : (s .o).getD k 0 = c := UInt8.toNat_inj.1 (zi_inj.1 h3)
            cbv
            refine ⟨_, .ret (.tt rfl), hr (fun _ => true) ⟨fun _ => ?_, fun _ => rfl⟩⟩
            rw [← h3, List.getD_eq_getElem?_getD, List.getElem?_eq_getElem h1]
            exact List.getElem_mem h1
          · have h3 : ¬ zi ((s .o).getD (zi k).toNat 0).toNat = zi c.toNat := h3
            rw [hz] at h3
            cbv
            refine ⟨1, ⟨Nat.le_refl _, fun _ e => h3 (by rw [e])⟩, by decide, ?_⟩
            cbv
            (repeat' (first | exact True.intro | exact Same.refl _ | exact SameB.refl _ | exact ⟨rfl⟩ | exact Same.int rfl | exact Same.str rfl | exact Same.bool rfl | (refine Same.int ?_; simp only [List.length_append, List.length_cons, List.length_nil, zi]; omega) | (refine SameB.row' rfl fun i hi => ?_; first | rfl | exact absurd hi (Nat.not_lt_zero _)) | refine And.intro ?_ ?_ | refine SameB.cells ?_ | exact SameC.nil | refine SameC.cons ?_ ?_ | exact Same.nsl rfl | exact Same.tt rfl | exact Same.ff rfl))
        · obtain rfl : i = 1 := by have h2 : 1 ≤ i := h2; omega
          cbv
          refine ⟨k + 1, ⟨h1, fun j hj => ?_⟩, by omega, ?_⟩
          · rcases Nat.lt_or_ge j k with q | q
            · exact hno j q
            · obtain rfl : j = k := by omega
              exact hic rfl
          cbv
          rw [zi_succ (by omega)]
          (repeat' (first | exact True.intro | exact Same.refl _ | exact SameB.refl _ | exact ⟨rfl⟩ | exact Same.int rfl | exact Same.str rfl | exact Same.bool rfl | (refine Same.int ?_; simp only [List.length_append, List.length_cons, List.length_nil, zi]; omega) | (refine SameB.row' rfl fun i hi => ?_; first | rfl | exact absurd hi (Nat.not_lt_zero _)) | refine And.intro ?_ ?_ | refine SameB.cells ?_ | exact SameC.nil | refine SameC.cons ?_ ?_ | exact Same.nsl rfl | exact Same.tt rfl | exact Same.ff rfl))
    · have h1 : (s .o).length ≤ k := h1
      cbv
      refine ⟨_, .ret (.ff rfl), hr (fun _ => false) ⟨fun q => (by cases q), fun q => ?_⟩⟩
      obtain ⟨j, hj, hjc⟩ := List.getElem_of_mem q
      exact (hno j (by omega) (by rw [List.getD_eq_getElem?_getD, List.getElem?_eq_getElem hj]; exact hjc)).elim
def XOk (x : Xattr) : Prop := x.name ≠ [] ∧ (escS x.name).length ≤ 238 ∧ ¬ (0 : UInt8) ∈ x.name ∧ x.value.length ≤ 4096
def leS (a b : List UInt8) : Bool := strLt a b || decide (a = b)
structure XsTo (l : List Xattr) (k : Nat) : Prop where
  ok : ∀ j, j < k → XOk (l.getD j Xattr.z)
  up : ∀ j, j + 1 < k → leS (l.getD (j + 1) Xattr.z).name (l.getD j Xattr.z).name = false
structure XsOk (l : List Xattr) : Prop where
  to : XsTo l l.length
  len : l.length ≤ 32
theorem xsTo_succ {l : List Xattr} {k : Nat} (h : XsTo l k) (h1 : XOk (l.getD k Xattr.z)) (h2 : k = 0 ∨ leS (l.getD k Xattr.z).name (l.getD (k - 1) Xattr.z).name = false) : XsTo l (k + 1) := by
  refine ⟨fun j hj => ?_, fun j hj => ?_⟩
  · rcases Nat.lt_or_ge j k with q | q
    · exact h.ok j q
    · obtain rfl : j = k := by omega
      exact h1
  · rcases Nat.lt_or_ge (j + 1) k with q | q
    · exact h.up j q
    · obtain rfl : k = j + 1 := by omega
      rcases h2 with h2 | h2
      · omega
      · exact h2
def longX (l : List Xattr) : Prop := ∀ x ∈ l, x.name.length ≤ 1099511627776
theorem longX_at {l : List Xattr} (h : longX l) (k : Nat) : (l.getD k Xattr.z).name.length ≤ 1099511627776 := by
  rw [List.getD_eq_getElem?_getD]
  by_cases hk : k < l.length
  · rw [List.getElem?_eq_getElem hk]; exact h _ (List.getElem_mem hk)
  · rw [List.getElem?_eq_none (by omega)]; exact Nat.zero_le _
theorem xsmay9_c (l : Th (List Xattr)) (hl : short (l .o)) (hx : longX (l .o)) {d : Nat} {K : ARes → BL → Prop} (hr : ∀ b : Th Bool, (b .o = true ↔ XsOk (l .o)) → K (.ret (.bool b)) .nil) : CallAt PT r9_MayXattrs [xattrs l] d .nil K := by
  refine CallAt.res ?_
  have hf : ¬ XsOk (l .o) → ∃ r', SameR (.ret .ff) r' ∧ K r' .nil := fun h => ⟨_, .ret (.ff rfl), hr (fun _ => false) ⟨fun q => (by cases q), fun q => (h q).elim⟩⟩
  refine r9_MayXattrs.of rfl rfl ?_
  cbv
  refine loop_at (X := Nat) 1000 [0] [] (fun _ k => .cons 3 (.int .i64 fun _ => zi k) .nil) (fun _ k => .nil)
    (fun k => k ≤ (l .o).length ∧ XsTo (l .o) k) (fun k => (l .o).length - k) 0 ?_ ⟨Nat.zero_le _, ⟨fun j hj => absurd hj (Nat.not_lt_zero _), fun j hj => absurd hj (Nat.not_lt_zero _)⟩⟩ ?_
  · cbv
    (repeat' (first | exact True.intro | exact Same.refl _ | exact SameB.refl _ | exact ⟨rfl⟩ | exact Same.int rfl | exact Same.str rfl | exact Same.bool rfl | (refine Same.int ?_; simp only [List.length_append, List.length_cons, List.length_nil, zi]; omega) | (refine SameB.row' rfl fun i hi => ?_; first | rfl | exact absurd hi (Nat.not_lt_zero _)) | refine And.intro ?_ ?_ | refine SameB.cells ?_ | exact SameC.nil | refine SameC.cons ?_ ?_ | exact Same.nsl rfl | exact Same.tt rfl | exact Same.ff rfl))
  · rintro k ⟨hk, hto⟩
    have hz := zi_toNat k
    unfold short at hl
    cbv
    ((try refine br_rev ?_); (first | refine br_dec (fun h1 => ?_) (fun h1 => ?_) | refine br_ndec (fun h1 => ?_) (fun h1 => ?_) | refine br_nbool (fun h1 => ?_) (fun h1 => ?_) | refine br_bool (fun h1 => ?_) (fun h1 => ?_)); all_goals (try dsimp only at h1); all_goals (try with_reducible replace h1 := zi_lt.1 h1); all_goals (try with_reducible replace h1 := not_zlt h1))
    · have h1 : k < (l .o).length := h1
      have hlt := zi_lt.2 h1
      have hxk := longX_at hx k
      cbv
      refine safe ⟨zi_nonneg _, hlt⟩ ?_
      rw [hz]
      refine br_rev (br_dec (fun h2 => ?_) (fun h2 => ?_))
      · cbv
        exact hf fun q => (q.to.ok k h1).1 (List.eq_nil_of_length_eq_zero (zi_inj.1 h2))
      have h2 : ((l .o).getD k Xattr.z).name ≠ [] := fun e => h2 (by show zi ((l .o).getD k Xattr.z).name.length = 0; rw [e]; rfl)
      cbv
      refine br_rev (br_dec (fun h3 => ?_) (fun h3 => ?_))
      · cbv
        exact hf fun q => by
          have h3 : 238 < zi ((l .o).getD k Xattr.z).name.length := h3
          have h4 := (q.to.ok k h1).2.1
          have h5 := escS_ge ((l .o).getD k Xattr.z).name
          unfold zi at h3
          omega
      cbv
      refine hasAny1_c (fun _ => ((l .o).getD k Xattr.z).name) 0 hxk fun b hb => ?_
      have hb : b .o = true ↔ 0 ∈ ((l .o).getD k Xattr.z).name := hb
      cbv
      refine br_rev (br_bool (fun h4 => ?_) (fun h4 => ?_))
      · cbv
        exact hf fun q => (q.to.ok k h1).2.2.1 (hb.1 h4)
      have h4 : ¬ 0 ∈ ((l .o).getD k Xattr.z).name := fun e => by rw [hb.2 e] at h4; cases h4
      cbv
      refine r1esc_c (fun _ => ((l .o).getD k Xattr.z).name) hxk fun t ht => ?_
      have ht : t .o = escS ((l .o).getD k Xattr.z).name := ht
      cbv
      refine br_rev (br_dec (fun h5 => ?_) (fun h5 => ?_))
      · cbv
        exact hf fun q => by have h5 : 238 < zi (t .o).length := h5; have := (q.to.ok k h1).2.1; rw [ht] at h5; unfold zi at h5; omega
      have h5 : (escS ((l .o).getD k Xattr.z).name).length ≤ 238 := by have h5 : ¬ 238 < zi (t .o).length := h5; rw [ht] at h5; unfold zi at h5; omega
      cbv
      refine safe ⟨zi_nonneg _, hlt⟩ ?_
      rw [hz]
      refine br_rev (br_dec (fun h6 => ?_) (fun h6 => ?_))
      · cbv
        exact hf fun q => by have h6 : 4096 < zi ((l .o).getD k Xattr.z).value.length := h6; have := (q.to.ok k h1).2.2.2; unfold zi at h6; omega
      have h6 : ((l .o).getD k Xattr.z).value.length ≤ 4096 := by have h6 : ¬ 4096 < zi ((l .o).getD k Xattr.z).value.length := h6; unfold zi at h6; omega
      have hok : XOk ((l .o).getD k Xattr.z) := ⟨h2, h5, h4, h6⟩
      have succ := zi_succ (k := k) (by omega)
      cbv
      refine br_dec (fun h7 => ?_) (fun h7 => ?_)
      · have h7 : 0 < k := by have h7 : 0 < zi k := h7; unfold zi at h7; omega
        have hi1 : 0 ≤ IntKind.i64.wrap (zi k - 1) ∧ IntKind.i64.wrap (zi k - 1) < zi (l .o).length := by rw [IntKind.wrap_i64]; unfold zi; omega
        have hi2 : (IntKind.i64.wrap (zi k - 1)).toNat = k - 1 := by rw [IntKind.wrap_i64]; unfold zi; omega
        cbv
        refine safe hi1 ?_
        rw [hi2]
        refine br_bool (fun h8 => ?_) (fun h8 => ?_)
        · cbv
          exact hf fun q => by have := q.to.up (k - 1) (by omega); rw [show k - 1 + 1 = k by omega] at this; rw [leS] at this; rw [this] at h8; cases h8
        cbv
        refine ⟨k + 1, ⟨h1, xsTo_succ hto hok (.inr h8)⟩, by omega, ?_⟩
        cbv
        rw [succ]
        (repeat' (first | exact True.intro | exact Same.refl _ | exact SameB.refl _ | exact ⟨rfl⟩ | exact Same.int rfl | exact Same.str rfl | exact Same.bool rfl | (refine Same.int ?_; simp only [List.length_append, List.length_cons, List.length_nil, zi]; omega) | (refine SameB.row' rfl fun i hi => ?_; first | rfl | exact absurd hi (Nat.not_lt_zero _)) | refine And.intro ?_ ?_ | refine SameB.cells ?_ | exact SameC.nil | refine SameC.cons ?_ ?_ | exact Same.nsl rfl | exact Same.tt rfl | exact Same.ff rfl))
      · have h7 : ¬ 0 < k := by have h7 : ¬ 0 < zi k := h7; unfold zi at h7; omega
        cbv
        refine ⟨k + 1, ⟨h1, xsTo_succ hto hok (.inl (by omega))⟩, by omega, ?_⟩
        cbv
        rw [succ]
        (repeat' (first | exact True.intro | exact Same.refl _ | exact SameB.refl _ | exact ⟨rfl⟩ | exact Same.int rfl | exact Same.str rfl | exact Same.bool rfl | (refine Same.int ?_; simp only [List.length_append, List.length_cons, List.length_nil, zi]; omega) | (refine SameB.row' rfl fun i hi => ?_; first | rfl | exact absurd hi (Nat.not_lt_zero _)) | refine And.intro ?_ ?_ | refine SameB.cells ?_ | exact SameC.nil | refine SameC.cons ?_ ?_ | exact Same.nsl rfl | exact Same.tt rfl | exact Same.ff rfl))
    · obtain rfl : k = (l .o).length := by have h1 : (l .o).length ≤ k := h1; omega
      cbv
      refine ⟨_, .ret (.refl _), hr _ ⟨fun q => ⟨hto, ?_⟩, fun q => decide_eq_true ?_⟩⟩
      · have q : zi (l .o).length ≤ 32 := of_decide_eq_true q
        unfold zi at q
        omega
      · show zi (l .o).length ≤ 32
        have := q.len
        unfold zi
        omega
end Go.Proofs.Ytgjlkcdnlndlnaa
/- What the laws make by numbers: names, paths. -/
namespace Go.Proofs.Ytgjlkcdnlndlnaa
open Go Go.Proofs.Ytgjlkcdnlndlnaa.Sx F
set_option linter.unusedVariables false
set_option linter.unusedSimpArgs false
end Go.Proofs.Ytgjlkcdnlndlnaa
/- What the laws make by numbers: entries. -/
namespace Go.Proofs.Ytgjlkcdnlndlnaa
open Go Go.Proofs.Ytgjlkcdnlndlnaa.Sx F
set_option linter.unusedVariables false
set_option linter.unusedSimpArgs false
/-- A Meta that says nothing. -/
def Meta.z : Meta := ⟨0, 0, 0, 0, 0, [], [], [], ⟨0, 0, 0, false, 0⟩, 0⟩
end Go.Proofs.Ytgjlkcdnlndlnaa
/- The law PlanLess, walked: what is laid before all is there gives nobody more. -/
namespace Go.Proofs.Ytgjlkcdnlndlnaa
open Go Go.Proofs.Ytgjlkcdnlndlnaa.Sx F
set_option linter.unusedVariables false
set_option linter.unusedSimpArgs false
def bnot (a b : Int) : Int := abits .andNot .i64 a b
theorem pmode_ff (m : Th Meta) {d : Nat} {K : ARes → BL → Prop} (hr : ∀ n : Th Int, n .o = band (m .o).mode 448 → K (.ret (.tup (.cons (.int .i64 n) (.cons .ff .nil)))) .nil) : CallAt PT plan_Mode [Meta.av m, .ff] d .nil K := by
  refine plan_Mode.of rfl rfl ?_
  cbv
  exact hr _ rfl
theorem pmode_tt (m : Th Meta) (hm : short (m .o).acl) {d : Nat} {K : ARes → BL → Prop} (hr : ∀ n : Th Int, n .o = bor (bnot (m .o).mode 511) (LessS (m .o)) → K (.ret (.tup (.cons (.int .i64 n) (.cons .tt .nil)))) .nil) : CallAt PT plan_Mode [Meta.av m, .tt] d .nil K := by
  refine plan_Mode.of rfl rfl ?_
  cbv
  refine Less_c m hm fun n hn => ?_
  cbv
  exact hr _ (by rw [← hn]; rfl)
theorem stage_c (k : Th Int) {d : Nat} {K : ARes → BL → Prop} (hr : ∀ n : Th Int, n .o = (if k .o = 6 then 448 else if k .o = 3 then 511 else 0) → K (.ret (.int .i64 n)) .nil) : CallAt PT plan_Stage [.int .i64 k] d .nil K := by
  refine plan_Stage.of rfl rfl ?_
  cbv
  ((try refine br_rev ?_); (first | refine br_dec (fun h1 => ?_) (fun h1 => ?_) | refine br_ndec (fun h1 => ?_) (fun h1 => ?_) | refine br_nbool (fun h1 => ?_) (fun h1 => ?_) | refine br_bool (fun h1 => ?_) (fun h1 => ?_)); all_goals (try dsimp only at h1); all_goals (try with_reducible replace h1 := zi_lt.1 h1); all_goals (try with_reducible replace h1 := not_zlt h1)) <;> cbv
  · exact hr (fun _ => 448) (by rw [if_pos h1])
  · ((try refine br_rev ?_); (first | refine br_dec (fun h2 => ?_) (fun h2 => ?_) | refine br_ndec (fun h2 => ?_) (fun h2 => ?_) | refine br_nbool (fun h2 => ?_) (fun h2 => ?_) | refine br_bool (fun h2 => ?_) (fun h2 => ?_)); all_goals (try dsimp only at h2); all_goals (try with_reducible replace h2 := zi_lt.1 h2); all_goals (try with_reducible replace h2 := not_zlt h2)) <;> cbv
    · exact hr (fun _ => 511) (by rw [if_neg h1, if_pos h2])
    · exact hr (fun _ => 0) (by rw [if_neg h1, if_neg h2])
end Go.Proofs.Ytgjlkcdnlndlnaa
/- The law PlanFewer, walked: names that are strict are left out. -/
namespace Go.Proofs.Ytgjlkcdnlndlnaa
open Go Go.Proofs.Ytgjlkcdnlndlnaa.Sx F
set_option linter.unusedVariables false
set_option linter.unusedSimpArgs false
def preS (p s : List UInt8) : Bool := decide (p.length ≤ s.length) && decide (s.take p.length = p)
theorem pre1_c (s p : Th (List UInt8)) {d : Nat} {K : ARes → BL → Prop} (hr : ∀ b : Th Bool, b .o = preS (p .o) (s .o) → K (.ret (.bool b)) .nil) : CallAt PT internal_stringslite_HasPrefix [.str s, .str p] d .nil K := by
  refine CallAt.res ?_
  refine internal_stringslite_HasPrefix.of rfl rfl ?_
  cbv
  ((try refine br_rev ?_); (first | refine br_dec (fun h1 => ?_) (fun h1 => ?_) | refine br_ndec (fun h1 => ?_) (fun h1 => ?_) | refine br_nbool (fun h1 => ?_) (fun h1 => ?_) | refine br_bool (fun h1 => ?_) (fun h1 => ?_)); all_goals (try dsimp only at h1); all_goals (try with_reducible replace h1 := zi_lt.1 h1); all_goals (try with_reducible replace h1 := not_zlt h1)) <;> cbv
  · have h1' : (p .o).length ≤ (s .o).length := zi_le.1 h1
    refine safe ⟨Int.le_refl _, zi_nonneg _, h1⟩ ?_
    exact ⟨_, .ret (.refl _), hr _ (by
      unfold preS
      rw [decide_eq_true h1', Bool.true_and]
      show decide (List.drop (0 : Int).toNat (List.take (zi (p .o).length).toNat (s .o)) = p .o) = _
      rw [zi_toNat]
      rfl)⟩
  · have h1' : ¬ (p .o).length ≤ (s .o).length := fun q => h1 (zi_le.2 q)
    exact ⟨_, .ret (.ff rfl), hr (fun _ => false) (by unfold preS; rw [decide_eq_false h1']; rfl)⟩
theorem pre_c (s p : Th (List UInt8)) {d : Nat} {K : ARes → BL → Prop} (hr : ∀ b : Th Bool, b .o = preS (p .o) (s .o) → K (.ret (.bool b)) .nil) : CallAt PT strings_HasPrefix [.str s, .str p] d .nil K := by
  refine strings_HasPrefix.of rfl rfl ?_
  cbv
  refine pre1_c s p fun b hb => ?_
  cbv
  exact hr b hb
def trustedS : List UInt8 := [116, 114, 117, 115, 116, 101, 100, 46]
def securityS : List UInt8 := [115, 101, 99, 117, 114, 105, 116, 121, 46]
def strictS (x : Xattr) : Bool := preS trustedS x.name || preS securityS x.name
def fewerS (l : List Xattr) : List Xattr := l.filter fun x => !strictS x
theorem fewer_step (l : List Xattr) (k : Nat) (h : k < l.length) : fewerS (l.take (k + 1)) = if strictS (l.getD k Xattr.z) = true then fewerS (l.take k) else fewerS (l.take k) ++ [l.getD k Xattr.z] := by
  unfold fewerS
  rw [List.take_add_one, List.filter_append, List.getD_eq_getElem?_getD, List.getElem?_eq_getElem h]
  simp only [Option.toList_some, Option.getD_some]
  by_cases q : strictS l[k] = true
  · rw [if_pos q]; simp [q]
  · rw [if_neg q]; simp [q]
theorem fewer_len (l : List Xattr) : (fewerS l).length ≤ l.length := List.length_filter_le _ _
theorem fewer_c (l : Th (List Xattr)) (hl : (l .o).length ≤ 1000) {d : Nat} {K : ARes → BL → Prop} (hr : ∀ r : Th (List Xattr), r .o = fewerS (l .o) → K (.ret (xattrs r)) .nil) : CallAt PT plan_Fewer [xattrs l] d .nil K := by
  refine plan_Fewer.of rfl rfl ?_
  cbv
  refine nil_tmp 3 9000 2 (fun _ => .nil) rfl rfl ?_
  refine loop_at (X := Nat) 1000 [3, 6, 7] [] (fun _ k => .cons 8 (.int .i64 fun _ => zi k) .nil) (fun _ k => .cons 9000 (rowB 2 Xattr.ch Xattr.z fun _ => fewerS ((l .o).take k)) .nil) (fun k => k ≤ (l .o).length) (fun k => (l .o).length - k) 0 ?_ (Nat.zero_le _) ?_
  · cbv
    (repeat' (first | exact True.intro | exact Same.refl _ | exact SameB.refl _ | exact ⟨rfl⟩ | exact Same.int rfl | exact Same.str rfl | exact Same.bool rfl | (refine Same.int ?_; simp only [List.length_append, List.length_cons, List.length_nil, zi]; omega) | (refine SameB.row' rfl fun i hi => ?_; first | rfl | exact absurd hi (Nat.not_lt_zero _)) | refine And.intro ?_ ?_ | refine SameB.cells ?_ | exact SameC.nil | refine SameC.cons ?_ ?_ | exact Same.nsl rfl | exact Same.tt rfl | exact Same.ff rfl))
  · intro k hk
    have succ := zi_succ (k := k) (by omega)
    have hz := zi_toNat k
    cbv
    ((try refine br_rev ?_); (first | refine br_dec (fun h1 => ?_) (fun h1 => ?_) | refine br_ndec (fun h1 => ?_) (fun h1 => ?_) | refine br_nbool (fun h1 => ?_) (fun h1 => ?_) | refine br_bool (fun h1 => ?_) (fun h1 => ?_)); all_goals (try dsimp only at h1); all_goals (try with_reducible replace h1 := zi_lt.1 h1); all_goals (try with_reducible replace h1 := not_zlt h1)) <;> cbv
    · have hst := fewer_step (l .o) k h1
      have hfl := fewer_len ((l .o).take k)
      have htl : ((l .o).take k).length ≤ k := by rw [List.length_take]; omega
      refine safe ⟨zi_nonneg _, zi_lt.2 h1⟩ ?_
      refine pre_c (fun _ => ((l .o).getD (zi k).toNat Xattr.z).name) (fun _ => trustedS) fun b1 hb1 => ?_
      have hb1 : b1 .o = preS trustedS ((l .o).getD k Xattr.z).name := by rw [hb1]; show preS trustedS ((l .o).getD (zi k).toNat Xattr.z).name = _; rw [hz]
      cbv
      refine br_nbool (fun h2 => ?_) (fun h2 => ?_)
      · have h2 : b1 .o = false := h2
        cbv
        refine pre_c (fun _ => ((l .o).getD (zi k).toNat Xattr.z).name) (fun _ => securityS) fun b2 hb2 => ?_
        have hb2 : b2 .o = preS securityS ((l .o).getD k Xattr.z).name := by rw [hb2]; show preS securityS ((l .o).getD (zi k).toNat Xattr.z).name = _; rw [hz]
        cbv
        refine br_nbool (fun h3 => ?_) (fun h3 => ?_)
        · have h3 : b2 .o = false := h3
          have hs : ¬ strictS ((l .o).getD k Xattr.z) = true := by unfold strictS; rw [← hb1, ← hb2, h2, h3]; decide
          rw [if_neg hs] at hst
          cbv
          refine app_one Xattr.ch Xattr.z (fewerS ((l .o).take k)) ((l .o).getD (zi k).toNat Xattr.z) rfl (fun i hi => rfl) rfl rfl (by omega) ?_
          cbv
          refine ⟨k + 1, h1, by omega, ?_⟩
          cbv
          rw [hst, hz]
          (repeat' (first | exact True.intro | exact Same.refl _ | exact SameB.refl _ | exact ⟨rfl⟩ | exact Same.int rfl | exact Same.str rfl | exact Same.bool rfl | (refine Same.int ?_; simp only [List.length_append, List.length_cons, List.length_nil, zi]; omega) | (refine SameB.row' rfl fun i hi => ?_; first | rfl | exact absurd hi (Nat.not_lt_zero _)) | refine And.intro ?_ ?_ | refine SameB.cells ?_ | exact SameC.nil | refine SameC.cons ?_ ?_ | exact Same.nsl rfl | exact Same.tt rfl | exact Same.ff rfl))
          all_goals exact Same.int succ
        · have h3 : b2 .o = true := h3
          have hs : strictS ((l .o).getD k Xattr.z) = true := by unfold strictS; rw [← hb1, ← hb2, h3]; simp
          rw [if_pos hs] at hst
          cbv
          refine ⟨k + 1, h1, by omega, ?_⟩
          cbv
          rw [hst]
          (repeat' (first | exact True.intro | exact Same.refl _ | exact SameB.refl _ | exact ⟨rfl⟩ | exact Same.int rfl | exact Same.str rfl | exact Same.bool rfl | (refine Same.int ?_; simp only [List.length_append, List.length_cons, List.length_nil, zi]; omega) | (refine SameB.row' rfl fun i hi => ?_; first | rfl | exact absurd hi (Nat.not_lt_zero _)) | refine And.intro ?_ ?_ | refine SameB.cells ?_ | exact SameC.nil | refine SameC.cons ?_ ?_ | exact Same.nsl rfl | exact Same.tt rfl | exact Same.ff rfl))
          all_goals exact Same.int succ
      · have h2 : b1 .o = true := h2
        have hs : strictS ((l .o).getD k Xattr.z) = true := by unfold strictS; rw [← hb1, h2]; rfl
        rw [if_pos hs] at hst
        cbv
        refine ⟨k + 1, h1, by omega, ?_⟩
        cbv
        rw [hst]
        (repeat' (first | exact True.intro | exact Same.refl _ | exact SameB.refl _ | exact ⟨rfl⟩ | exact Same.int rfl | exact Same.str rfl | exact Same.bool rfl | (refine Same.int ?_; simp only [List.length_append, List.length_cons, List.length_nil, zi]; omega) | (refine SameB.row' rfl fun i hi => ?_; first | rfl | exact absurd hi (Nat.not_lt_zero _)) | refine And.intro ?_ ?_ | refine SameB.cells ?_ | exact SameC.nil | refine SameC.cons ?_ ?_ | exact Same.nsl rfl | exact Same.tt rfl | exact Same.ff rfl))
        all_goals exact Same.int succ
    · exact hr (fun _ => fewerS ((l .o).take k)) (by rw [List.take_of_length_le (by omega)])
end Go.Proofs.Ytgjlkcdnlndlnaa
/- What is tried of an entry: plan.Attrs, walked. -/
namespace Go.Proofs.Ytgjlkcdnlndlnaa
open Go Go.Proofs.Ytgjlkcdnlndlnaa.Sx F
set_option linter.unusedVariables false
set_option linter.unusedSimpArgs false
end Go.Proofs.Ytgjlkcdnlndlnaa
/- The law PlanOrder, walked: in which order attributes are tried. -/
namespace Go.Proofs.Ytgjlkcdnlndlnaa
open Go Go.Proofs.Ytgjlkcdnlndlnaa.Sx F
set_option linter.unusedVariables false
set_option linter.unusedSimpArgs false
end Go.Proofs.Ytgjlkcdnlndlnaa
/- The document's plan, walked; the law PlanMade. -/
namespace Go.Proofs.Ytgjlkcdnlndlnaa
open Go Go.Proofs.Ytgjlkcdnlndlnaa.Sx F
set_option linter.unusedVariables false
set_option linter.unusedSimpArgs false
def modeS (less : Int) (m : Meta) (o : Bool) : Int := if o = true then bor (bnot m.mode 511) less else band m.mode 448
theorem mode21_c (m : Th Meta) (o : Th Bool) (hm : short (m .o).acl) {d : Nat} {K : ARes → BL → Prop} (hr : ∀ (n : Th Int) (f : Th Bool), n .o = modeS (Less9 (m .o)) (m .o) (o .o) → f .o = o .o → K (.ret (.tup (.cons (.int .i64 n) (.cons (.bool f) .nil)))) .nil) :
    CallAt PT r21_Mode [Meta.av m, .bool o] d .nil K := by
  refine CallAt.res ?_
  refine r21_Mode.of rfl rfl ?_
  cbv
  refine br_bool (fun h1 => ?_) (fun h1 => ?_)
  · cbv
    refine Less9_c m hm fun n hn => ?_
    cbv
    exact ⟨_, .ret (.tup (.cons (.int (b := fun _ => modeS (Less9 (m .o)) (m .o) (o .o)) (by unfold modeS; rw [h1, ← hn]; rfl)) (.cons (.tt h1) .nil))), hr _ _ rfl rfl⟩
  · cbv
    exact ⟨_, .ret (.tup (.cons (.int (b := fun _ => modeS (Less9 (m .o)) (m .o) (o .o)) (by unfold modeS; rw [h1]; rfl)) (.cons (.ff h1) .nil))), hr _ _ rfl rfl⟩
theorem stage21_c (k : Th Int) {d : Nat} {K : ARes → BL → Prop} (hr : ∀ n : Th Int, n .o = (if k .o = 6 then 448 else if k .o = 3 then 511 else 0) → K (.ret (.int .i64 n)) .nil) : CallAt PT r21_Stage [.int .i64 k] d .nil K := by
  refine r21_Stage.of rfl rfl ?_
  cbv
  ((try refine br_rev ?_); (first | refine br_dec (fun h1 => ?_) (fun h1 => ?_) | refine br_ndec (fun h1 => ?_) (fun h1 => ?_) | refine br_nbool (fun h1 => ?_) (fun h1 => ?_) | refine br_bool (fun h1 => ?_) (fun h1 => ?_)); all_goals (try dsimp only at h1); all_goals (try with_reducible replace h1 := zi_lt.1 h1); all_goals (try with_reducible replace h1 := not_zlt h1)) <;> cbv
  · exact hr (fun _ => 448) (by rw [if_pos h1])
  · ((try refine br_rev ?_); (first | refine br_dec (fun h2 => ?_) (fun h2 => ?_) | refine br_ndec (fun h2 => ?_) (fun h2 => ?_) | refine br_nbool (fun h2 => ?_) (fun h2 => ?_) | refine br_bool (fun h2 => ?_) (fun h2 => ?_)); all_goals (try dsimp only at h2); all_goals (try with_reducible replace h2 := zi_lt.1 h2); all_goals (try with_reducible replace h2 := not_zlt h2)) <;> cbv
    · exact hr (fun _ => 511) (by rw [if_neg h1, if_pos h2])
    · exact hr (fun _ => 0) (by rw [if_neg h1, if_neg h2])
theorem preS_8 (s : List UInt8) (p : List UInt8) (n : Nat) (hp : p.length = n) : preS p s = (decide (zi n ≤ zi s.length) && decide (((s.take (zi n).toNat).drop (0 : Int).toNat) = p)) := by
  unfold preS
  rw [hp, zi_toNat]
  congr 1
  unfold zi
  rw [decide_eq_decide]; omega
theorem strict_c (s : Th (List UInt8)) {d : Nat} {K : ARes → BL → Prop} (hr : ∀ b : Th Bool, b .o = (preS trustedS (s .o) || preS securityS (s .o)) → K (.ret (.bool b)) .nil) : CallAt PT r18_Strict [.str s] d .nil K := by
  refine CallAt.res ?_
  refine r18_Strict.of rfl rfl ?_
  cbv
  rw [preS_8 (s .o) trustedS 8 rfl, preS_8 (s .o) securityS 9 rfl] at hr
  have fin : ∀ (b : Th Bool) {x : AV}, b .o = _ → Same x (.bool b) → ∃ r', SameR (.ret x) r' ∧ K r' .nil := fun b x h1 h2 => ⟨_, .ret h2, hr b h1⟩
  refine br_bool (fun h1 => ?_) (fun h1 => ?_)
  · cbv
    refine safe ⟨Int.le_refl _, by decide, of_decide_eq_true h1⟩ ?_
    refine br_rev (br_bool (fun h2 => ?_) (fun h2 => ?_))
    · cbv
      exact fin (fun _ => true) (by rw [show decide (zi 8 ≤ zi (s .o).length) = true from h1, show decide (((s .o).take (zi 8).toNat).drop (0 : Int).toNat = trustedS) = true from h2]; rfl) (.tt rfl)
    · have e1 : (decide (zi 8 ≤ zi (s .o).length) && decide (((s .o).take (zi 8).toNat).drop (0 : Int).toNat = trustedS)) = false := by
        rw [show decide (((s .o).take (zi 8).toNat).drop (0 : Int).toNat = trustedS) = false from h2, Bool.and_false]
      rw [e1] at fin
      cbv
      refine br_bool (fun h3 => ?_) (fun h3 => ?_)
      · cbv
        refine safe ⟨Int.le_refl _, by decide, of_decide_eq_true h3⟩ ?_
        exact fin _ (by rw [show decide (zi 9 ≤ zi (s .o).length) = true from h3]; rfl) (.refl _)
      · cbv
        exact fin (fun _ => false) (by rw [show decide (zi 9 ≤ zi (s .o).length) = false from h3]; rfl) (.ff rfl)
  · have e1 : (decide (zi 8 ≤ zi (s .o).length) && decide (((s .o).take (zi 8).toNat).drop (0 : Int).toNat = trustedS)) = false := by
      rw [show decide (zi 8 ≤ zi (s .o).length) = false from h1, Bool.false_and]
    rw [e1] at fin
    cbv
    refine br_bool (fun h3 => ?_) (fun h3 => ?_)
    · cbv
      refine safe ⟨Int.le_refl _, by decide, of_decide_eq_true h3⟩ ?_
      exact fin _ (by rw [show decide (zi 9 ≤ zi (s .o).length) = true from h3]; rfl) (.refl _)
    · cbv
      exact fin (fun _ => false) (by rw [show decide (zi 9 ≤ zi (s .o).length) = false from h3]; rfl) (.ff rfl)
theorem fewer21_c (l : Th (List Xattr)) (hl : (l .o).length ≤ 1000) {d : Nat} {K : ARes → BL → Prop} (hr : ∀ r : Th (List Xattr), r .o = fewerS (l .o) → K (.ret (xattrs r)) .nil) : CallAt PT r21_Fewer [xattrs l] d .nil K := by
  refine r21_Fewer.of rfl rfl ?_
  cbv
  refine nil_tmp 3 9000 2 (fun _ => .nil) rfl rfl ?_
  refine loop_at (X := Nat) 1000 [0, 3] [] (fun _ k => .cons 4 (.int .i64 fun _ => zi k) .nil) (fun _ k => .cons 9000 (rowB 2 Xattr.ch Xattr.z fun _ => fewerS ((l .o).take k)) .nil) (fun k => k ≤ (l .o).length) (fun k => (l .o).length - k) 0 ?_ (Nat.zero_le _) ?_
  · cbv
    (repeat' (first | exact True.intro | exact Same.refl _ | exact SameB.refl _ | exact ⟨rfl⟩ | exact Same.int rfl | exact Same.str rfl | exact Same.bool rfl | (refine Same.int ?_; simp only [List.length_append, List.length_cons, List.length_nil, zi]; omega) | (refine SameB.row' rfl fun i hi => ?_; first | rfl | exact absurd hi (Nat.not_lt_zero _)) | refine And.intro ?_ ?_ | refine SameB.cells ?_ | exact SameC.nil | refine SameC.cons ?_ ?_ | exact Same.nsl rfl | exact Same.tt rfl | exact Same.ff rfl))
  · intro k hk
    have succ := zi_succ (k := k) (by omega)
    have hz := zi_toNat k
    cbv
    ((try refine br_rev ?_); (first | refine br_dec (fun h1 => ?_) (fun h1 => ?_) | refine br_ndec (fun h1 => ?_) (fun h1 => ?_) | refine br_nbool (fun h1 => ?_) (fun h1 => ?_) | refine br_bool (fun h1 => ?_) (fun h1 => ?_)); all_goals (try dsimp only at h1); all_goals (try with_reducible replace h1 := zi_lt.1 h1); all_goals (try with_reducible replace h1 := not_zlt h1)) <;> cbv
    · have hst := fewer_step (l .o) k h1
      have hfl := fewer_len ((l .o).take k)
      have htl : ((l .o).take k).length ≤ k := by rw [List.length_take]; omega
      refine safe ⟨zi_nonneg _, zi_lt.2 h1⟩ ?_
      refine strict_c (fun _ => ((l .o).getD (zi k).toNat Xattr.z).name) fun b hb => ?_
      have hb : b .o = strictS ((l .o).getD k Xattr.z) := by rw [hb, hz]; rfl
      cbv
      refine br_nbool (fun h2 => ?_) (fun h2 => ?_)
      · have h2 : b .o = false := h2
        rw [if_neg (by rw [← hb, h2]; decide)] at hst
        cbv
        refine safe ⟨zi_nonneg _, zi_lt.2 h1⟩ ?_
        refine app_one Xattr.ch Xattr.z (fewerS ((l .o).take k)) ((l .o).getD (zi k).toNat Xattr.z) rfl (fun i hi => rfl) rfl rfl (by omega) ?_
        cbv
        refine ⟨k + 1, h1, by omega, ?_⟩
        cbv
        rw [hst, hz]
        (repeat' (first | exact True.intro | exact Same.refl _ | exact SameB.refl _ | exact ⟨rfl⟩ | exact Same.int rfl | exact Same.str rfl | exact Same.bool rfl | (refine Same.int ?_; simp only [List.length_append, List.length_cons, List.length_nil, zi]; omega) | (refine SameB.row' rfl fun i hi => ?_; first | rfl | exact absurd hi (Nat.not_lt_zero _)) | refine And.intro ?_ ?_ | refine SameB.cells ?_ | exact SameC.nil | refine SameC.cons ?_ ?_ | exact Same.nsl rfl | exact Same.tt rfl | exact Same.ff rfl))
        all_goals exact Same.int succ
      · have h2 : b .o = true := h2
        rw [if_pos (by rw [← hb, h2])] at hst
        cbv
        refine ⟨k + 1, h1, by omega, ?_⟩
        cbv
        rw [hst]
        (repeat' (first | exact True.intro | exact Same.refl _ | exact SameB.refl _ | exact ⟨rfl⟩ | exact Same.int rfl | exact Same.str rfl | exact Same.bool rfl | (refine Same.int ?_; simp only [List.length_append, List.length_cons, List.length_nil, zi]; omega) | (refine SameB.row' rfl fun i hi => ?_; first | rfl | exact absurd hi (Nat.not_lt_zero _)) | refine And.intro ?_ ?_ | refine SameB.cells ?_ | exact SameC.nil | refine SameC.cons ?_ ?_ | exact Same.nsl rfl | exact Same.tt rfl | exact Same.ff rfl))
        all_goals exact Same.int succ
    · exact hr (fun _ => fewerS ((l .o).take k)) (by rw [List.take_of_length_le (by omega)])
theorem list_ext_getD {α : Type} {a b : List α} (z : α) (hl : a.length = b.length) (h : ∀ j, j < a.length → a.getD j z = b.getD j z) : a = b := by
  apply List.ext_getElem hl
  intro i h1 h2
  have := h i h1
  simpa [List.getD_eq_getElem?_getD, List.getElem?_eq_getElem h1, List.getElem?_eq_getElem h2] using this
/-- Two lists that differ in a place. -/
theorem list_ne_getD {α : Type} {a b : List α} (z : α) (j : Nat) (h : a.getD j z ≠ b.getD j z) : a ≠ b := fun e => h (by rw [e])
theorem sameX_c (a b : Th (List Xattr)) (ha : short (a .o)) {d : Nat} {K : ARes → BL → Prop} (hr : ∀ r : Th Bool, (r .o = true ↔ a .o = b .o) → K (.ret (.bool r)) .nil) : CallAt PT r9_SameXattrs [xattrs a, xattrs b] d .nil K := by
  refine CallAt.res ?_
  refine r9_SameXattrs.of rfl rfl ?_
  cbv
  have no : ∀ {x : AV}, a .o ≠ b .o → Same x (.bool fun _ => false) → ∃ r', SameR (.ret x) r' ∧ K r' .nil := fun h1 h2 => ⟨_, .ret h2, hr _ ⟨fun q => (by cases q), fun q => (h1 q).elim⟩⟩
  refine br_ndec (fun h1 => ?_) (fun h1 => ?_)
  · cbv
    exact no (fun q => h1 (by rw [q])) (.ff rfl)
  · have h1 : (a .o).length = (b .o).length := zi_inj.1 h1
    cbv
    refine loop_rule (X := Nat) 1000 [0, 1] [] (fun k => .cons 5 (.int .i64 fun _ => zi k) .nil) (fun _ => .nil) (fun k => k ≤ (a .o).length ∧ ∀ j, j < k → (a .o).getD j Xattr.z = (b .o).getD j Xattr.z) (fun k => (a .o).length - k) 0 ?_ ⟨Nat.zero_le _, fun j hj => by omega⟩ ?_
    · cbv
      (repeat' (first | exact True.intro | exact Same.refl _ | exact SameB.refl _ | exact ⟨rfl⟩ | exact Same.int rfl | exact Same.str rfl | exact Same.bool rfl | (refine Same.int ?_; simp only [List.length_append, List.length_cons, List.length_nil, zi]; omega) | (refine SameB.row' rfl fun i hi => ?_; first | rfl | exact absurd hi (Nat.not_lt_zero _)) | refine And.intro ?_ ?_ | refine SameB.cells ?_ | exact SameC.nil | refine SameC.cons ?_ ?_ | exact Same.nsl rfl | exact Same.tt rfl | exact Same.ff rfl))
    · rintro k ⟨hk, heq⟩
      have hz := zi_toNat k
      cbv
      ((try refine br_rev ?_); (first | refine br_dec (fun h2 => ?_) (fun h2 => ?_) | refine br_ndec (fun h2 => ?_) (fun h2 => ?_) | refine br_nbool (fun h2 => ?_) (fun h2 => ?_) | refine br_bool (fun h2 => ?_) (fun h2 => ?_)); all_goals (try dsimp only at h2); all_goals (try with_reducible replace h2 := zi_lt.1 h2); all_goals (try with_reducible replace h2 := not_zlt h2))
      · cbv
        refine safe ⟨zi_nonneg _, zi_lt.2 h2⟩ ?_
        refine safe ⟨zi_nonneg _, zi_lt.2 (by omega)⟩ ?_
        refine br_nbool (fun h3 => ?_) (fun h3 => ?_)
        · cbv
          refine no (list_ne_getD Xattr.z k fun q => ?_) (.ff rfl)
          rw [hz, q] at h3
          simp at h3
        · rw [hz] at h3
          simp only [Bool.and_eq_true, decide_eq_true_eq] at h3
          have h3' : (a .o).getD k Xattr.z = (b .o).getD k Xattr.z := by
            have e1 := h3.1
            have e2 := h3.2.1
            generalize (a .o).getD k Xattr.z = p at e1 e2 ⊢
            generalize (b .o).getD k Xattr.z = q at e1 e2 ⊢
            cases p; cases q
            simp only at e1 e2
            rw [e1, e2]
          cbv
          refine ⟨k + 1, ⟨h2, fun j hj => ?_⟩, by omega, ?_⟩
          · by_cases e : j = k
            · rw [e]; exact h3'
            · exact heq j (by omega)
          · cbv
            rw [zi_succ (by unfold short at ha; omega)]
            (repeat' (first | exact True.intro | exact Same.refl _ | exact SameB.refl _ | exact ⟨rfl⟩ | exact Same.int rfl | exact Same.str rfl | exact Same.bool rfl | (refine Same.int ?_; simp only [List.length_append, List.length_cons, List.length_nil, zi]; omega) | (refine SameB.row' rfl fun i hi => ?_; first | rfl | exact absurd hi (Nat.not_lt_zero _)) | refine And.intro ?_ ?_ | refine SameB.cells ?_ | exact SameC.nil | refine SameC.cons ?_ ?_ | exact Same.nsl rfl | exact Same.tt rfl | exact Same.ff rfl))
      · cbv
        exact ⟨_, .ret (y := .bool fun _ => true) (.tt rfl), hr _ ⟨fun _ => list_ext_getD Xattr.z h1 fun j hj => heq j (by omega), fun _ => rfl⟩⟩
end Go.Proofs.Ytgjlkcdnlndlnaa
/- Sameness of what is said of nodes. -/
namespace Go.Proofs.Ytgjlkcdnlndlnaa
open Go Go.Proofs.Ytgjlkcdnlndlnaa.Sx F
set_option linter.unusedVariables false
set_option linter.unusedSimpArgs false
theorem sameA_c (a b : Th (List Ace)) (ha : short (a .o)) {d : Nat} {K : ARes → BL → Prop} (hr : ∀ r : Th Bool, (r .o = true ↔ a .o = b .o) → K (.ret (.bool r)) .nil) : CallAt PT r9_SameAcl [aces a, aces b] d .nil K := by
  refine CallAt.res ?_
  refine r9_SameAcl.of rfl rfl ?_
  cbv
  have no : ∀ {x : AV}, a .o ≠ b .o → Same x (.bool fun _ => false) → ∃ r', SameR (.ret x) r' ∧ K r' .nil := fun h1 h2 => ⟨_, .ret h2, hr _ ⟨fun q => (by cases q), fun q => (h1 q).elim⟩⟩
  refine br_ndec (fun h1 => ?_) (fun h1 => ?_)
  · cbv
    exact no (fun q => h1 (by rw [q])) (.ff rfl)
  · have h1 : (a .o).length = (b .o).length := zi_inj.1 h1
    cbv
    refine loop_rule (X := Nat) 1000 [0, 1] [] (fun k => .cons 5 (.int .i64 fun _ => zi k) .nil) (fun _ => .nil) (fun k => k ≤ (a .o).length ∧ ∀ j, j < k → (a .o).getD j Ace.z = (b .o).getD j Ace.z) (fun k => (a .o).length - k) 0 ?_ ⟨Nat.zero_le _, fun j hj => by omega⟩ ?_
    · cbv
      (repeat' (first | exact True.intro | exact Same.refl _ | exact SameB.refl _ | exact ⟨rfl⟩ | exact Same.int rfl | exact Same.str rfl | exact Same.bool rfl | (refine Same.int ?_; simp only [List.length_append, List.length_cons, List.length_nil, zi]; omega) | (refine SameB.row' rfl fun i hi => ?_; first | rfl | exact absurd hi (Nat.not_lt_zero _)) | refine And.intro ?_ ?_ | refine SameB.cells ?_ | exact SameC.nil | refine SameC.cons ?_ ?_ | exact Same.nsl rfl | exact Same.tt rfl | exact Same.ff rfl))
    · rintro k ⟨hk, heq⟩
      have hz := zi_toNat k
      cbv
      ((try refine br_rev ?_); (first | refine br_dec (fun h2 => ?_) (fun h2 => ?_) | refine br_ndec (fun h2 => ?_) (fun h2 => ?_) | refine br_nbool (fun h2 => ?_) (fun h2 => ?_) | refine br_bool (fun h2 => ?_) (fun h2 => ?_)); all_goals (try dsimp only at h2); all_goals (try with_reducible replace h2 := zi_lt.1 h2); all_goals (try with_reducible replace h2 := not_zlt h2))
      · cbv
        refine safe ⟨zi_nonneg _, zi_lt.2 h2⟩ ?_
        refine safe ⟨zi_nonneg _, zi_lt.2 (by omega)⟩ ?_
        refine br_nbool (fun h3 => ?_) (fun h3 => ?_)
        · cbv
          refine no (list_ne_getD Ace.z k fun q => ?_) (.ff rfl)
          rw [hz, q] at h3
          simp at h3
        · rw [hz] at h3
          simp only [Bool.and_eq_true, decide_eq_true_eq] at h3
          have h3' : (a .o).getD k Ace.z = (b .o).getD k Ace.z := by
            have e1 := h3.1
            have e2 := h3.2.1
            have e3 := h3.2.2.1
            generalize (a .o).getD k Ace.z = p at e1 e2 e3 ⊢
            generalize (b .o).getD k Ace.z = q at e1 e2 e3 ⊢
            cases p; cases q
            simp only at e1 e2 e3
            rw [e1, e2, e3]
          cbv
          refine ⟨k + 1, ⟨h2, fun j hj => ?_⟩, by omega, ?_⟩
          · by_cases e : j = k
            · rw [e]; exact h3'
            · exact heq j (by omega)
          · cbv
            rw [zi_succ (by unfold short at ha; omega)]
            (repeat' (first | exact True.intro | exact Same.refl _ | exact SameB.refl _ | exact ⟨rfl⟩ | exact Same.int rfl | exact Same.str rfl | exact Same.bool rfl | (refine Same.int ?_; simp only [List.length_append, List.length_cons, List.length_nil, zi]; omega) | (refine SameB.row' rfl fun i hi => ?_; first | rfl | exact absurd hi (Nat.not_lt_zero _)) | refine And.intro ?_ ?_ | refine SameB.cells ?_ | exact SameC.nil | refine SameC.cons ?_ ?_ | exact Same.nsl rfl | exact Same.tt rfl | exact Same.ff rfl))
      · cbv
        exact ⟨_, .ret (y := .bool fun _ => true) (.tt rfl), hr _ ⟨fun _ => list_ext_getD Ace.z h1 fun j hj => heq j (by omega), fun _ => rfl⟩⟩
theorem sameM_c (a b : Th Meta) (h1 : short (a .o).acl) (h2 : short (a .o).dflt) (h3 : short (a .o).xs) {d : Nat} {K : ARes → BL → Prop} (hr : ∀ r : Th Bool, (r .o = true ↔ a .o = b .o) → K (.ret (.bool r)) .nil) :
    CallAt PT r9_SameMeta [Meta.av a, Meta.av b] d .nil K := by
  refine CallAt.res ?_
  refine r9_SameMeta.of rfl rfl ?_
  have no : ∀ {x : AV}, a .o ≠ b .o → Same x (.bool fun _ => false) → ∃ r', SameR (.ret x) r' ∧ K r' .nil := fun h1 h2 => ⟨_, .ret h2, hr _ ⟨fun q => (by cases q), fun q => (h1 q).elim⟩⟩
  cbv
  refine br_dec (fun q1 => ?_) (fun q1 => ?_)
  rotate_left
  · cbv
    exact no (fun q => q1 (by rw [q])) (.ff rfl)
  cbv
  refine br_dec (fun q2 => ?_) (fun q2 => ?_)
  rotate_left
  · cbv
    exact no (fun q => q2 (by rw [q])) (.ff rfl)
  cbv
  refine br_dec (fun q3 => ?_) (fun q3 => ?_)
  rotate_left
  · cbv
    exact no (fun q => q3 (by rw [q])) (.ff rfl)
  cbv
  refine br_bool (fun q4 => ?_) (fun q4 => ?_)
  rotate_left
  · cbv
    exact no (fun q => by rw [q] at q4; simp at q4) (.ff rfl)
  simp only [Bool.and_eq_true, decide_eq_true_eq] at q4
  cbv
  refine sameA_c (fun _ => (a .o).acl) (fun _ => (b .o).acl) h1 fun rq5 hrq5 => ?_
  cbv
  refine br_bool (fun q5 => ?_) (fun q5 => ?_)
  rotate_left
  · cbv
    exact no (fun q => by rw [hrq5.2 (by rw [q])] at q5; cases q5) (.ff rfl)
  replace q5 : (a .o).acl = (b .o).acl := hrq5.1 q5
  cbv
  refine sameA_c (fun _ => (a .o).dflt) (fun _ => (b .o).dflt) h2 fun rq6 hrq6 => ?_
  cbv
  refine br_bool (fun q6 => ?_) (fun q6 => ?_)
  rotate_left
  · cbv
    exact no (fun q => by rw [hrq6.2 (by rw [q])] at q6; cases q6) (.ff rfl)
  replace q6 : (a .o).dflt = (b .o).dflt := hrq6.1 q6
  cbv
  refine sameX_c (fun _ => (a .o).xs) (fun _ => (b .o).xs) h3 fun rq7 hrq7 => ?_
  cbv
  refine br_bool (fun q7 => ?_) (fun q7 => ?_)
  rotate_left
  · cbv
    exact no (fun q => by rw [hrq7.2 (by rw [q])] at q7; cases q7) (.ff rfl)
  replace q7 : (a .o).xs = (b .o).xs := hrq7.1 q7
  cbv
  refine br_bool (fun q8 => ?_) (fun q8 => ?_)
  rotate_left
  · cbv
    exact no (fun q => by rw [q] at q8; simp at q8) (.ff rfl)
  simp only [Bool.and_eq_true, decide_eq_true_eq, beq_iff_eq] at q8
  cbv
  refine ⟨_, .ret (Same.refl _), hr _ ⟨fun q9 => ?_, fun q => ?_⟩⟩
  · replace q9 : (a .o).flags = (b .o).flags := of_decide_eq_true q9
    have c1 := q8.1
    have c2 := q8.2.1
    have c3 := q8.2.2.1
    have c4 := q8.2.2.2.1
    have c5 := q8.2.2.2.2.1
    have m4 := q4.1
    have m5 := q4.2.1
    generalize a .o = x at *
    generalize b .o = y at *
    obtain ⟨_, _, _, _, _, _, _, _, ⟨_, _, _, _, _⟩, _⟩ := x
    obtain ⟨_, _, _, _, _, _, _, _, ⟨_, _, _, _, _⟩, _⟩ := y
    simp only at *
    subst q1 q2 q3 m4 m5 q5 q6 q7 c1 c2 c3 c4 c5 q9
    rfl
  · show decide ((a .o).flags = (b .o).flags) = true
    rw [q]; simp
end Go.Proofs.Ytgjlkcdnlndlnaa
/- What may be said of a node, and whether two are one: walked, exact. -/
namespace Go.Proofs.Ytgjlkcdnlndlnaa
open Go Go.Proofs.Ytgjlkcdnlndlnaa.Sx F
set_option linter.unusedVariables false
set_option linter.unusedSimpArgs false
structure MetaOk (m : Meta) (k : Int) : Prop where
  kind : k = 1 ∨ 3 ≤ k ∧ k ≤ 7
  mode : 0 ≤ m.mode ∧ m.mode ≤ 4095
  uid : IdOk m.uid
  gid : IdOk m.gid
  stamp : StampOk m.sec m.nano
  flags : mayF m.flags = true
  xs : XsOk m.xs
  acl : m.acl = [] ∨ AclOk m.acl ∧ modeA m.acl = band m.mode 511
  dflt : m.dflt = [] ∨ k = 6 ∧ AclOk m.dflt
  caps : CapsOk m.caps
  capk : k = 1 ∨ m.caps = Caps.zero
  sym : k ≠ 3 ∨ m.mode = 511 ∧ m.acl = [] ∧ m.flags = 0
structure MetaShort (m : Meta) : Prop where
  acl : short m.acl
  dflt : short m.dflt
  xs : short m.xs
  long : longX m.xs
end Go.Proofs.Ytgjlkcdnlndlnaa
/- meta.May, the document's, what is too heavy: walked, exact. -/
namespace Go.Proofs.Ytgjlkcdnlndlnaa
open Go Go.Proofs.Ytgjlkcdnlndlnaa.Sx F
set_option linter.unusedVariables false
set_option linter.unusedSimpArgs false
theorem maymeta9_c (m : Th Meta) (k : Th Int) (hs : MetaShort (m .o)) {d : Nat} {K : ARes → BL → Prop} (hr : ∀ b : Th Bool, (b .o = true ↔ MetaOk (m .o) (k .o)) → K (.ret (.bool b)) .nil) : CallAt PT r9_MayMeta [Meta.av m, .int .i64 k] d .nil K := by
  refine CallAt.res ?_
  have hf : ¬ MetaOk (m .o) (k .o) → ∃ r', SameR (.ret .ff) r' ∧ K r' .nil := fun h => ⟨_, .ret (.ff rfl), hr (fun _ => false) ⟨fun q => (by cases q), fun q => (h q).elim⟩⟩
  refine r9_MayMeta.of rfl rfl ?_
  cbv
  refine br_ndec (fun a1 => ?_) (fun a1 => ?_)
  focus
    have a1 : ¬ k .o = 1 := a1
    cbv
    refine br_rev (br_dec (fun a2 => ?_) (fun a2 => ?_))
    focus
      cbv
      exact hf fun q => by have a2 : k .o < 3 := a2; have := q.kind; omega
    have a2 : ¬ k .o < 3 := a2
    cbv
    refine br_dec (fun a3 => ?_) (fun a3 => ?_)
    focus
      cbv
      exact hf fun q => by have a3 : 7 < k .o := a3; have := q.kind; omega
    have a3 : ¬ 7 < k .o := a3
    have hK : k .o = 1 ∨ 3 ≤ k .o ∧ k .o ≤ 7 := .inr ⟨by omega, by omega⟩
    cbv
  rotate_left
  focus
    have hK : k .o = 1 ∨ 3 ≤ k .o ∧ k .o ≤ 7 := .inl a1
    cbv
  all_goals
    refine br_rev (br_dec (fun b1 => ?_) (fun b1 => ?_))
    focus
      cbv
      exact hf fun q => by have b1 : (m .o).mode < 0 := b1; have := q.mode; omega
    have b1 : ¬ (m .o).mode < 0 := b1
    cbv
    refine br_rev (br_dec (fun b2 => ?_) (fun b2 => ?_))
    focus
      cbv
      exact hf fun q => by have b2 : 4095 < (m .o).mode := b2; have := q.mode; omega
    have b2 : ¬ 4095 < (m .o).mode := b2
    have hM : 0 ≤ (m .o).mode ∧ (m .o).mode ≤ 4095 := ⟨by omega, by omega⟩
    cbv
    refine id9_c (fun _ => (m .o).uid) fun c1 c2 => ?_
    cbv
    refine br_rev (br_nbool (fun c3 => ?_) (fun c3 => ?_))
    focus
      cbv
      exact hf fun q => by rw [c2.2 q.uid] at c3; cases c3
    have hU := c2.1 c3
    cbv
    refine id9_c (fun _ => (m .o).gid) fun c4 c5 => ?_
    cbv
    refine br_rev (br_nbool (fun c6 => ?_) (fun c6 => ?_))
    focus
      cbv
      exact hf fun q => by rw [c5.2 q.gid] at c6; cases c6
    have hG := c5.1 c6
    cbv
    refine stamp1_c (fun _ => (m .o).sec) (fun _ => (m .o).nano) fun d1 e1 => ?_
    cbv
    refine br_rev (br_nbool (fun f1 => ?_) (fun f1 => ?_))
    focus
      cbv
      exact hf fun q => by rw [e1.2 q.stamp] at f1; cases f1
    have hS := e1.1 f1
    cbv
    refine mayflags9_c (fun _ => (m .o).flags) fun d2 e2 => ?_
    cbv
    refine br_rev (br_nbool (fun f2 => ?_) (fun f2 => ?_))
    focus
      cbv
      exact hf fun q => by have := q.flags; rw [e2, this] at f2; cases f2
    have hF : mayF (m .o).flags = true := e2.symm.trans f2
    cbv
    refine xsmay9_c (fun _ => (m .o).xs) hs.xs hs.long fun d3 e3 => ?_
    cbv
    refine br_nbool (fun f3 => ?_) (fun f3 => ?_)
    focus
      cbv
      exact hf fun q => by rw [e3.2 q.xs] at f3; cases f3
    have hX := e3.1 f3
    cbv
    refine br_dec (fun g1 => ?_) (fun g1 => ?_)
  all_goals try (
    have hA : 0 < (m .o).acl.length := by have g1 : 0 < zi (m .o).acl.length := g1; unfold zi at g1; omega
    have hA : ¬ (m .o).acl = [] := fun e => by rw [e] at hA; exact absurd hA (by decide)
    cbv
    refine may9_c (fun _ => (m .o).acl) hs.acl fun g2 g3 => ?_
    cbv
    refine br_rev (br_nbool (fun g4 => ?_) (fun g4 => ?_))
    focus
      cbv
      exact hf fun q => by rcases q.acl with q | q; exact hA q; rw [g3.2 q.1] at g4; cases g4
    have g5 := g3.1 g4
    cbv
    refine mode9_c (fun _ => (m .o).acl) hs.acl g5.good fun g6 g7 => ?_
    cbv
    refine br_ndec (fun g8 => ?_) (fun g8 => ?_)
    focus
      cbv
      exact hf fun q => by
        rcases q.acl with q | q
        · exact hA q
        · exact g8 (by rw [g7]; exact q.2)
    have hA : (m .o).acl = [] ∨ AclOk (m .o).acl ∧ modeA (m .o).acl = band (m .o).mode 511 := .inr ⟨g5, by rw [← g7]; exact g8⟩
    cbv)
  all_goals try (
    have hA : (m .o).acl = [] := List.eq_nil_of_length_eq_zero (by have g1 : ¬ 0 < zi (m .o).acl.length := g1; unfold zi at g1; omega)
    have hA : (m .o).acl = [] ∨ AclOk (m .o).acl ∧ modeA (m .o).acl = band (m .o).mode 511 := .inl hA
    cbv)
  all_goals
    refine br_dec (fun i1 => ?_) (fun i1 => ?_)
  all_goals try (
    have hD : 0 < (m .o).dflt.length := by have i1 : 0 < zi (m .o).dflt.length := i1; unfold zi at i1; omega
    have hD : ¬ (m .o).dflt = [] := fun e => by rw [e] at hD; exact absurd hD (by decide)
    cbv
    refine br_rev (br_ndec (fun i2 => ?_) (fun i2 => ?_))
    focus
      cbv
      exact hf fun q => by rcases q.dflt with q | q; exact hD q; exact i2 q.1
    have i2 : k .o = 6 := i2
    cbv
    refine may9_c (fun _ => (m .o).dflt) hs.dflt fun i3 i4 => ?_
    cbv
    refine br_nbool (fun i5 => ?_) (fun i5 => ?_)
    focus
      cbv
      exact hf fun q => by rcases q.dflt with q | q; exact hD q; rw [i4.2 q.2] at i5; cases i5
    have hD : (m .o).dflt = [] ∨ k .o = 6 ∧ AclOk (m .o).dflt := .inr ⟨i2, i4.1 i5⟩
    cbv)
  all_goals try (
    have hD : (m .o).dflt = [] := List.eq_nil_of_length_eq_zero (by have i1 : ¬ 0 < zi (m .o).dflt.length := i1; unfold zi at i1; omega)
    have hD : (m .o).dflt = [] ∨ k .o = 6 ∧ AclOk (m .o).dflt := .inl hD
    cbv)
  all_goals
    refine caps9_c (fun _ => (m .o).caps) fun j1 j2 => ?_
    cbv
    refine br_rev (br_nbool (fun j3 => ?_) (fun j3 => ?_))
    focus
      cbv
      exact hf fun q => by rw [j2.2 q.caps] at j3; cases j3
    have hC := j2.1 j3
    cbv
    refine br_ndec (fun j4 => ?_) (fun j4 => ?_)
  all_goals try (
    have j4 : ¬ (m .o).caps.ver = 0 := j4
    cbv
    refine br_ndec (fun j5 => ?_) (fun j5 => ?_)
    focus
      cbv
      exact hf fun q => by rcases q.capk with q | q; exact j5 q; exact j4 (by rw [q]; rfl)
    have hCk : k .o = 1 ∨ (m .o).caps = Caps.zero := .inl j5
    cbv)
  all_goals try (
    have j4 : (m .o).caps.ver = 0 := j4
    have hCk : k .o = 1 ∨ (m .o).caps = Caps.zero := .inr (by have hC : CapsOk (m .o).caps := hC; rcases hC with q | q | q; exact q; omega; omega)
    cbv)
  all_goals
    refine br_rev (br_ndec (fun l1 => ?_) (fun l1 => ?_))
  all_goals try (
    have l1 : ¬ k .o = 3 := l1
    cbv
    exact ⟨_, .ret (.tt rfl), hr (fun _ => true) ⟨fun _ => ⟨hK, hM, hU, hG, hS, hF, hX, hA, hD, hC, hCk, .inl l1⟩, fun _ => rfl⟩⟩)
  all_goals
    have l1 : k .o = 3 := l1
    cbv
    refine br_dec (fun l2 => ?_) (fun l2 => ?_)
    rotate_left
    focus
      cbv
      exact hf fun q => by rcases q.sym with q | q; exact q l1; exact l2 q.1
    cbv
    refine br_dec (fun l3 => ?_) (fun l3 => ?_)
    rotate_left
    focus
      cbv
      exact hf fun q => by rcases q.sym with q | q; exact q l1; exact l3 (by show zi (m .o).acl.length = 0; rw [q.2.1]; rfl)
    cbv
    exact ⟨_, .ret (.refl _), hr _ ⟨fun l4 => ⟨hK, hM, hU, hG, hS, hF, hX, hA, hD, hC, hCk, .inr ⟨l2, List.eq_nil_of_length_eq_zero (zi_inj.1 l3), of_decide_eq_true l4⟩⟩, fun q => decide_eq_true (by rcases q.sym with q | q; exact absurd l1 q; exact q.2.2)⟩⟩
end Go.Proofs.Ytgjlkcdnlndlnaa
/- The lists that the laws make by numbers may be, and have their mode: plain. -/
namespace Go.Proofs.Ytgjlkcdnlndlnaa
open Go Go.Proofs.Ytgjlkcdnlndlnaa.Sx F
set_option linter.unusedVariables false
set_option linter.unusedSimpArgs false
end Go.Proofs.Ytgjlkcdnlndlnaa
/- The laws of what is said of nodes: walked. -/
namespace Go.Proofs.Ytgjlkcdnlndlnaa
open Go Go.Proofs.Ytgjlkcdnlndlnaa.Sx F
set_option linter.unusedVariables false
set_option linter.unusedSimpArgs false
end Go.Proofs.Ytgjlkcdnlndlnaa
/- Names with values made by numbers may be: walked. -/
namespace Go.Proofs.Ytgjlkcdnlndlnaa
open Go Go.Proofs.Ytgjlkcdnlndlnaa.Sx F
set_option linter.unusedVariables false
set_option linter.unusedSimpArgs false
end Go.Proofs.Ytgjlkcdnlndlnaa
/- The laws MetaKinds and MetaAll: walked. -/
namespace Go.Proofs.Ytgjlkcdnlndlnaa
open Go Go.Proofs.Ytgjlkcdnlndlnaa.Sx F
set_option linter.unusedVariables false
set_option linter.unusedSimpArgs false
theorem fewx_c (l : Th (List Xattr)) {d : Nat} {K : ARes → BL → Prop} (hr : ∀ b : Th Bool, (b .o = true → longX (l .o) ∧ (l .o).length ≤ 40) → K (.ret (.bool b)) .nil) : CallAt PT l13_Few [xattrs l] d .nil K := by
  refine CallAt.res ?_
  refine l13_Few.of rfl rfl ?_
  cbv
  refine loop_rule (X := Nat) 1000 [0] [] (fun k => .cons 3 (.int .i64 fun _ => zi k) .nil) (fun _ => .nil) (fun k => k ≤ 40 ∧ ∀ j, j < k → ((l .o).getD j Xattr.z).name.length ≤ 400) (fun k => 40 - k) 0 ?_ ⟨by decide, fun j hj => absurd hj (Nat.not_lt_zero _)⟩ ?_
  · cbv
    (repeat' (first | exact True.intro | exact Same.refl _ | exact SameB.refl _ | exact ⟨rfl⟩ | exact Same.int rfl | exact Same.str rfl | exact Same.bool rfl | (refine Same.int ?_; simp only [List.length_append, List.length_cons, List.length_nil, zi]; omega) | (refine SameB.row' rfl fun i hi => ?_; first | rfl | exact absurd hi (Nat.not_lt_zero _)) | refine And.intro ?_ ?_ | refine SameB.cells ?_ | exact SameC.nil | refine SameC.cons ?_ ?_ | exact Same.nsl rfl | exact Same.tt rfl | exact Same.ff rfl))
  · rintro k ⟨hk, hj⟩
    have hz := zi_toNat k
    have fin : k = 40 ∨ (l .o).length ≤ k → decide (zi (l .o).length ≤ 40) = true → longX (l .o) ∧ (l .o).length ≤ 40 := fun q e => by
      have e : zi (l .o).length ≤ 40 := of_decide_eq_true e
      have e : (l .o).length ≤ 40 := by unfold zi at e; omega
      refine ⟨fun x hx => ?_, e⟩
      obtain ⟨j, hjl, rfl⟩ := List.getElem_of_mem hx
      have := hj j (by omega)
      rw [List.getD_eq_getElem?_getD, List.getElem?_eq_getElem hjl] at this
      exact Nat.le_trans this (by decide)
    cbv
    ((try refine br_rev ?_); (first | refine br_dec (fun h1 => ?_) (fun h1 => ?_) | refine br_ndec (fun h1 => ?_) (fun h1 => ?_) | refine br_nbool (fun h1 => ?_) (fun h1 => ?_) | refine br_bool (fun h1 => ?_) (fun h1 => ?_)); all_goals (try dsimp only at h1); all_goals (try with_reducible replace h1 := zi_lt.1 h1); all_goals (try with_reducible replace h1 := not_zlt h1))
    · cbv
      ((try refine br_rev ?_); (first | refine br_dec (fun h2 => ?_) (fun h2 => ?_) | refine br_ndec (fun h2 => ?_) (fun h2 => ?_) | refine br_nbool (fun h2 => ?_) (fun h2 => ?_) | refine br_bool (fun h2 => ?_) (fun h2 => ?_)); all_goals (try dsimp only at h2); all_goals (try with_reducible replace h2 := zi_lt.1 h2); all_goals (try with_reducible replace h2 := not_zlt h2))
      · have h2 : k < 40 := h2
        cbv
        refine safe ⟨zi_nonneg _, zi_lt.2 h1⟩ ?_
        rw [hz]
        refine br_rev (br_dec (fun h3 => ?_) (fun h3 => ?_))
        · cbv
          exact ⟨_, .ret (y := .bool fun _ => false) (.ff rfl), hr _ fun q => by cases q⟩
        have h3 : ((l .o).getD k Xattr.z).name.length ≤ 400 := by have h3 : ¬ 400 < zi ((l .o).getD k Xattr.z).name.length := h3; unfold zi at h3; omega
        cbv
        refine safe ⟨zi_nonneg _, zi_lt.2 h1⟩ ?_
        refine br_dec (fun h4 => ?_) (fun h4 => ?_)
        · cbv
          exact ⟨_, .ret (y := .bool fun _ => false) (.ff rfl), hr _ fun q => by cases q⟩
        cbv
        refine ⟨k + 1, ⟨h2, fun j hj' => ?_⟩, by omega, ?_⟩
        · rcases Nat.lt_or_ge j k with q | q
          · exact hj j q
          · obtain rfl : j = k := by omega
            exact h3
        cbv
        rw [zi_succ (by omega)]
        (repeat' (first | exact True.intro | exact Same.refl _ | exact SameB.refl _ | exact ⟨rfl⟩ | exact Same.int rfl | exact Same.str rfl | exact Same.bool rfl | (refine Same.int ?_; simp only [List.length_append, List.length_cons, List.length_nil, zi]; omega) | (refine SameB.row' rfl fun i hi => ?_; first | rfl | exact absurd hi (Nat.not_lt_zero _)) | refine And.intro ?_ ?_ | refine SameB.cells ?_ | exact SameC.nil | refine SameC.cons ?_ ?_ | exact Same.nsl rfl | exact Same.tt rfl | exact Same.ff rfl))
      · have h2 : 40 ≤ k := h2
        cbv
        exact ⟨_, .ret (Same.refl _), hr _ (fin (.inl (by omega)))⟩
    · cbv
      exact ⟨_, .ret (Same.refl _), hr _ (fin (.inr h1))⟩
theorem heavym_c (m : Th Meta) {d : Nat} {K : ARes → BL → Prop} (hr : ∀ b : Th Bool, (b .o = false → MetaShort (m .o)) → K (.ret (.bool b)) .nil) : CallAt PT l14_Heavy [Meta.av m] d .nil K := by
  refine CallAt.res ?_
  refine l14_Heavy.of rfl rfl ?_
  cbv
  refine br_rev (br_dec (fun h1 => ?_) (fun h1 => ?_))
  · cbv
    exact ⟨_, .ret (y := .bool fun _ => true) (.tt rfl), hr _ fun q => by cases q⟩
  have h1 : short (m .o).acl := by have h1 : ¬ 60 < zi (m .o).acl.length := h1; unfold zi at h1; unfold short; omega
  cbv
  refine br_rev (br_dec (fun h2 => ?_) (fun h2 => ?_))
  · cbv
    exact ⟨_, .ret (y := .bool fun _ => true) (.tt rfl), hr _ fun q => by cases q⟩
  have h2 : short (m .o).dflt := by have h2 : ¬ 60 < zi (m .o).dflt.length := h2; unfold zi at h2; unfold short; omega
  cbv
  refine fewx_c (fun _ => (m .o).xs) fun b hb => ?_
  cbv
  refine ⟨_, .ret (Same.refl _), hr _ fun q => ?_⟩
  have q : (!b .o) = false := q
  have q := hb (by simpa using q)
  exact ⟨h1, h2, Nat.le_trans q.2 (by decide), q.1⟩
end Go.Proofs.Ytgjlkcdnlndlnaa
/- Digits, records: walked as far as entries want. -/
namespace Go.Proofs.Ytgjlkcdnlndlnaa
open Go Go.Proofs.Ytgjlkcdnlndlnaa.Sx F
set_option linter.unusedVariables false
set_option linter.unusedSimpArgs false
theorem rhas_c (s : Th (List UInt8)) (c : Th Int) (hs : (s .o).length ≤ 1099511627776) {d : Nat} {K : ARes → BL → Prop} (hr : ∀ b : Th Bool, K (.ret (.bool b)) .nil) : CallAt PT r1_has [.str s, .int .u8 c] d .nil K := by
  refine CallAt.res ?_
  refine r1_has.of rfl rfl ?_
  cbv
  refine loop_at (X := Nat) 1000 [0, 1] [] (fun _ k => .cons 5 (.int .i64 fun _ => zi k) .nil) (fun _ k => .nil) (fun k => k ≤ (s .o).length) (fun k => (s .o).length - k) 0 ?_ (Nat.zero_le _) ?_
  · cbv
    (repeat' (first | exact True.intro | exact Same.refl _ | exact SameB.refl _ | exact ⟨rfl⟩ | exact Same.int rfl | exact Same.str rfl | exact Same.bool rfl | (refine Same.int ?_; simp only [List.length_append, List.length_cons, List.length_nil, zi]; omega) | (refine SameB.row' rfl fun i hi => ?_; first | rfl | exact absurd hi (Nat.not_lt_zero _)) | refine And.intro ?_ ?_ | refine SameB.cells ?_ | exact SameC.nil | refine SameC.cons ?_ ?_ | exact Same.nsl rfl | exact Same.tt rfl | exact Same.ff rfl))
  · intro k hk
    cbv
    ((try refine br_rev ?_); (first | refine br_dec (fun h1 => ?_) (fun h1 => ?_) | refine br_ndec (fun h1 => ?_) (fun h1 => ?_) | refine br_nbool (fun h1 => ?_) (fun h1 => ?_) | refine br_bool (fun h1 => ?_) (fun h1 => ?_)); all_goals (try dsimp only at h1); all_goals (try with_reducible replace h1 := zi_lt.1 h1); all_goals (try with_reducible replace h1 := not_zlt h1))
    · cbv
      refine safe ⟨zi_nonneg _, zi_lt.2 h1⟩ ?_
      ((try refine br_rev ?_); (first | refine br_dec (fun h2 => ?_) (fun h2 => ?_) | refine br_ndec (fun h2 => ?_) (fun h2 => ?_) | refine br_nbool (fun h2 => ?_) (fun h2 => ?_) | refine br_bool (fun h2 => ?_) (fun h2 => ?_)); all_goals (try dsimp only at h2); all_goals (try with_reducible replace h2 := zi_lt.1 h2); all_goals (try with_reducible replace h2 := not_zlt h2))
      · cbv
        exact ⟨_, .ret (.tt rfl), hr fun _ => true⟩
      · cbv
        refine ⟨k + 1, h1, by omega, ?_⟩
        cbv
        rw [zi_succ (by omega)]
        (repeat' (first | exact True.intro | exact Same.refl _ | exact SameB.refl _ | exact ⟨rfl⟩ | exact Same.int rfl | exact Same.str rfl | exact Same.bool rfl | (refine Same.int ?_; simp only [List.length_append, List.length_cons, List.length_nil, zi]; omega) | (refine SameB.row' rfl fun i hi => ?_; first | rfl | exact absurd hi (Nat.not_lt_zero _)) | refine And.intro ?_ ?_ | refine SameB.cells ?_ | exact SameC.nil | refine SameC.cons ?_ ?_ | exact Same.nsl rfl | exact Same.tt rfl | exact Same.ff rfl))
    · cbv
      exact ⟨_, .ret (.ff rfl), hr fun _ => false⟩
def dch (x : Int) : UInt8 := UInt8.ofNat (IntKind.u8.wrap (IntKind.i64.wrap (48 + x))).toNat
def digs (n : Nat) : List UInt8 := if h : n < 10 then [dch n] else digs (n / 10) ++ [dch (n % 10 : Nat)]
termination_by n
decreasing_by omega
theorem digs_lt {n : Nat} (h : n < 10) : digs n = [dch n] := by rw [digs, dif_pos h]
theorem digs_ge {n : Nat} (h : 10 ≤ n) : digs n = digs (n / 10) ++ [dch (n % 10 : Nat)] := by rw [digs, dif_neg (by omega)]
theorem digs_len : ∀ (k n : Nat), n < 10 ^ (k + 1) → (digs n).length ≤ k + 1
  | 0, n, h => by rw [digs_lt (by omega)]; simp
  | k + 1, n, h => by
    by_cases q : n < 10
    · rw [digs_lt q]; simp
    · rw [digs_ge (by omega), List.length_append]
      have := digs_len k (n / 10) (by rw [Nat.div_lt_iff_lt_mul (by decide)]; rw [Nat.pow_succ] at h; exact h)
      simp only [List.length_cons, List.length_nil]
      omega
theorem digs_pos (n : Nat) : 1 ≤ (digs n).length := by
  by_cases q : n < 10
  · rw [digs_lt q]; simp
  · rw [digs_ge (by omega), List.length_append]; simp
theorem digs_mono : ∀ (a b : Nat), a ≤ b → (digs a).length ≤ (digs b).length := by
  intro a
  induction a using Nat.strongRecOn with
  | ind a ih =>
    intro b hb
    by_cases q : a < 10
    · rw [digs_lt q]; exact digs_pos b
    · rw [digs_ge (by omega), digs_ge (n := b) (by omega), List.length_append, List.length_append]
      have := ih (a / 10) (by omega) (b / 10) (Nat.div_le_div_right hb)
      simp only [List.length_cons, List.length_nil]
      omega
theorem digs63 {n : Nat} (h : n < 9223372036854775808) : (digs n).length ≤ 19 := digs_len 18 n (Nat.lt_of_lt_of_le h (by decide))
theorem digits_c (n : Th Int) (hn : 0 ≤ n .o ∧ n .o < 9223372036854775808) {d : Nat} {K : ARes → BL → Prop} (hr : ∀ t : Th (List UInt8), t .o = digs (n .o).toNat → K (.ret (.str t)) .nil) : CallAt PT r1_Digits [.int .i64 n] d .nil K := by
  refine CallAt.res ?_
  refine r1_Digits.of rfl rfl ?_
  cbv
  refine loop_at (X := Nat × List UInt8) 1000 [] [] (fun _ x => .cons 0 (.int .i64 fun _ => zi x.1) (.cons 3 (.str fun _ => x.2) .nil)) (fun _ k => .nil)
    (fun x => digs (n .o).toNat = digs x.1 ++ x.2 ∧ x.1 ≤ (n .o).toNat) (fun x => x.1) ((n .o).toNat, []) ?_ ⟨by simp, Nat.le_refl _⟩ ?_
  · cbv
    (repeat' (first | exact True.intro | exact Same.refl _ | exact SameB.refl _ | exact ⟨rfl⟩ | exact Same.int rfl | exact Same.str rfl | exact Same.bool rfl | (refine Same.int ?_; simp only [List.length_append, List.length_cons, List.length_nil, zi]; omega) | (refine SameB.row' rfl fun i hi => ?_; first | rfl | exact absurd hi (Nat.not_lt_zero _)) | refine And.intro ?_ ?_ | refine SameB.cells ?_ | exact SameC.nil | refine SameC.cons ?_ ?_ | exact Same.nsl rfl | exact Same.tt rfl | exact Same.ff rfl))
    all_goals exact Same.int (by show n .o = zi (n .o).toNat; unfold zi; omega)
  · rintro ⟨m, s⟩ ⟨hm, hle⟩
    dsimp only at hm hle
    have hl := digs63 (n := (n .o).toNat) (by omega)
    rw [hm, List.length_append] at hl
    have hp := digs_pos m
    cbv
    refine br_dec (fun h1 => ?_) (fun h1 => ?_)
    · have h1 : 10 ≤ m := by have h1 : 10 ≤ zi m := h1; unfold zi at h1; omega
      cbv
      refine safe (by decide) ?_
      refine safe (fun i hi => ⟨_, rfl⟩) ?_
      refine safe (by dsimp only; rw [bytesN_len]; omega) ?_
      refine safe (by decide) ?_
      refine ⟨(m / 10, dch (m % 10 : Nat) :: s), ⟨?_, by show m / 10 ≤ _; omega⟩, by show m / 10 < m; omega, ?_⟩
      · show _ = digs (m / 10) ++ (dch (m % 10 : Nat) :: s)
        rw [hm, digs_ge h1, List.append_assoc]; rfl
      · cbv
        have e1 : (zi m).tdiv 10 = zi (m / 10) := rfl
        (repeat' (first | exact True.intro | exact Same.refl _ | exact SameB.refl _ | exact ⟨rfl⟩ | exact Same.int rfl | exact Same.str rfl | exact Same.bool rfl | (refine Same.int ?_; simp only [List.length_append, List.length_cons, List.length_nil, zi]; omega) | (refine SameB.row' rfl fun i hi => ?_; first | rfl | exact absurd hi (Nat.not_lt_zero _)) | refine And.intro ?_ ?_ | refine SameB.cells ?_ | exact SameC.nil | refine SameC.cons ?_ ?_ | exact Same.nsl rfl | exact Same.tt rfl | exact Same.ff rfl))
        exact Same.int (by show IntKind.i64.wrap ((zi m).tdiv 10) = zi (m / 10); rw [IntKind.wrap_i64, e1]; unfold zi; omega)
    · have h1 : m < 10 := by have h1 : ¬ 10 ≤ zi m := h1; unfold zi at h1; omega
      cbv
      refine safe (fun i hi => ⟨_, rfl⟩) ?_
      refine safe (by dsimp only; rw [bytesN_len]; omega) ?_
      refine ⟨_, .ret (.refl _), hr _ ?_⟩
      rw [hm, digs_lt h1]; rfl
theorem record_c (r : Th Xattr) (h1 : (r .o).name.length ≤ 1000000) (h2 : (r .o).value.length ≤ 1000000) {d : Nat} {K : ARes → BL → Prop} (hr : ∀ t : Th (List UInt8), (t .o).length ≤ 2000100 → K (.ret (.str t)) .nil) : CallAt PT r1_record [Xattr.av r] d .nil K := by
  refine CallAt.res ?_
  refine r1_record.of rfl rfl ?_
  cbv
  refine safe (by simp only [List.length_append, List.length_cons, List.length_nil]; omega) ?_
  refine safe (by simp only [List.length_append, List.length_cons, List.length_nil]; omega) ?_
  refine safe (by simp only [List.length_append, List.length_cons, List.length_nil]; omega) ?_
  refine safe (by simp only [List.length_append, List.length_cons, List.length_nil]; omega) ?_
  have hB : ([32] ++ (r .o).name ++ [61] ++ (r .o).value ++ [10]).length ≤ 2000003 := by simp only [List.length_append, List.length_cons, List.length_nil]; omega
  generalize [32] ++ (r .o).name ++ [61] ++ (r .o).value ++ [10] = B at hB
  have hz1 : IntKind.i64.wrap (zi B.length + 1) = zi (B.length + 1) := zi_succ (by omega)
  rw [hz1]
  refine loop_at (X := Nat) 1000 [3] [] (fun _ m => .cons 4 (.int .i64 fun _ => zi m) .nil) (fun _ k => .nil)
    (fun m => m ≤ B.length + 19 ∧ m ≤ B.length + (digs m).length) (fun m => B.length + 21 - m) (B.length + 1) ?_ ⟨by omega, Nat.add_le_add_left (digs_pos _) _⟩ ?_
  · cbv
    (repeat' (first | exact True.intro | exact Same.refl _ | exact SameB.refl _ | exact ⟨rfl⟩ | exact Same.int rfl | exact Same.str rfl | exact Same.bool rfl | (refine Same.int ?_; simp only [List.length_append, List.length_cons, List.length_nil, zi]; omega) | (refine SameB.row' rfl fun i hi => ?_; first | rfl | exact absurd hi (Nat.not_lt_zero _)) | refine And.intro ?_ ?_ | refine SameB.cells ?_ | exact SameC.nil | refine SameC.cons ?_ ?_ | exact Same.nsl rfl | exact Same.tt rfl | exact Same.ff rfl))
  · rintro m ⟨hm1, hm2⟩
    have hl : (digs m).length ≤ 19 := digs63 (by omega)
    have hmo := digs_mono m (m + 1) (by omega)
    have hmt : (zi m).toNat = m := zi_toNat m
    cbv
    refine digits_c _ ⟨zi_nonneg _, by show zi m < _; unfold zi; omega⟩ fun t ht => ?_
    have ht : t .o = digs m := by rw [ht]; show digs (zi m).toNat = _; rw [hmt]
    cbv
    have hsum : IntKind.i64.wrap (zi B.length + zi (t .o).length) = zi (B.length + (digs m).length) := by rw [ht, IntKind.wrap_i64]; unfold zi; omega
    rw [hsum]
    ((try refine br_rev ?_); (first | refine br_dec (fun q1 => ?_) (fun q1 => ?_) | refine br_ndec (fun q1 => ?_) (fun q1 => ?_) | refine br_nbool (fun q1 => ?_) (fun q1 => ?_) | refine br_bool (fun q1 => ?_) (fun q1 => ?_)); all_goals (try dsimp only at q1); all_goals (try with_reducible replace q1 := zi_lt.1 q1); all_goals (try with_reducible replace q1 := not_zlt q1))
    all_goals cbv
    · have q1 : m ≠ B.length + (digs m).length := fun e => q1 (congrArg zi e)
      refine ⟨m + 1, ⟨by omega, by omega⟩, by omega, ?_⟩
      cbv
      rw [zi_succ (by omega)]
      (repeat' (first | exact True.intro | exact Same.refl _ | exact SameB.refl _ | exact ⟨rfl⟩ | exact Same.int rfl | exact Same.str rfl | exact Same.bool rfl | (refine Same.int ?_; simp only [List.length_append, List.length_cons, List.length_nil, zi]; omega) | (refine SameB.row' rfl fun i hi => ?_; first | rfl | exact absurd hi (Nat.not_lt_zero _)) | refine And.intro ?_ ?_ | refine SameB.cells ?_ | exact SameC.nil | refine SameC.cons ?_ ?_ | exact Same.nsl rfl | exact Same.tt rfl | exact Same.ff rfl))
    · refine digits_c _ ⟨zi_nonneg _, by show zi m < _; unfold zi; omega⟩ fun u hu => ?_
      have hu : u .o = digs m := by rw [hu]; show digs (zi m).toNat = _; rw [hmt]
      cbv
      refine safe (by dsimp only; rw [hu]; omega) ?_
      exact ⟨_, .ret (.refl _), hr _ (by show (u .o ++ B).length ≤ _; rw [List.length_append, hu]; omega)⟩
theorem mayrec_c (r : Th Xattr) (h1 : (r .o).name.length ≤ 1000000) (h2 : (r .o).value.length ≤ 1000000) {d : Nat} {K : ARes → BL → Prop} (hr : ∀ b : Th Bool, K (.ret (.bool b)) .nil) : CallAt PT r1_MayRec [Xattr.av r] d .nil K := by
  refine CallAt.res ?_
  refine r1_MayRec.of rfl rfl ?_
  cbv
  ((try refine br_rev ?_); (first | refine br_dec (fun q1 => ?_) (fun q1 => ?_) | refine br_ndec (fun q1 => ?_) (fun q1 => ?_) | refine br_nbool (fun q1 => ?_) (fun q1 => ?_) | refine br_bool (fun q1 => ?_) (fun q1 => ?_)); all_goals (try dsimp only at q1); all_goals (try with_reducible replace q1 := zi_lt.1 q1); all_goals (try with_reducible replace q1 := not_zlt q1))
  all_goals cbv
  all_goals try ((try refine br_rev ?_); (first | refine br_dec (fun q2 => ?_) (fun q2 => ?_) | refine br_ndec (fun q2 => ?_) (fun q2 => ?_) | refine br_nbool (fun q2 => ?_) (fun q2 => ?_) | refine br_bool (fun q2 => ?_) (fun q2 => ?_)); all_goals (try dsimp only at q2); all_goals (try with_reducible replace q2 := zi_lt.1 q2); all_goals (try with_reducible replace q2 := not_zlt q2))
  all_goals cbv
  all_goals try (refine rhas_c _ _ (by omega) fun b1 => ?_; cbv; ((try refine br_rev ?_); (first | refine br_dec (fun q3 => ?_) (fun q3 => ?_) | refine br_ndec (fun q3 => ?_) (fun q3 => ?_) | refine br_nbool (fun q3 => ?_) (fun q3 => ?_) | refine br_bool (fun q3 => ?_) (fun q3 => ?_)); all_goals (try dsimp only at q3); all_goals (try with_reducible replace q3 := zi_lt.1 q3); all_goals (try with_reducible replace q3 := not_zlt q3)))
  all_goals cbv
  all_goals try (refine rhas_c _ _ (by omega) fun b1 => ?_; cbv; ((try refine br_rev ?_); (first | refine br_dec (fun q4 => ?_) (fun q4 => ?_) | refine br_ndec (fun q4 => ?_) (fun q4 => ?_) | refine br_nbool (fun q4 => ?_) (fun q4 => ?_) | refine br_bool (fun q4 => ?_) (fun q4 => ?_)); all_goals (try dsimp only at q4); all_goals (try with_reducible replace q4 := zi_lt.1 q4); all_goals (try with_reducible replace q4 := not_zlt q4)))
  all_goals cbv
  all_goals try ((try refine br_rev ?_); (first | refine br_dec (fun q5 => ?_) (fun q5 => ?_) | refine br_ndec (fun q5 => ?_) (fun q5 => ?_) | refine br_nbool (fun q5 => ?_) (fun q5 => ?_) | refine br_bool (fun q5 => ?_) (fun q5 => ?_)); all_goals (try dsimp only at q5); all_goals (try with_reducible replace q5 := zi_lt.1 q5); all_goals (try with_reducible replace q5 := not_zlt q5))
  all_goals cbv
  all_goals try (refine record_c _ h1 h2 fun t ht => ?_; cbv)
  all_goals first
    | exact ⟨_, .ret (.ff rfl), hr fun _ => false⟩
    | exact ⟨_, .ret (.refl _), hr _⟩
    | skip
theorem putrec_c (r : Th Xattr) (h1 : (r .o).name.length ≤ 1000000) (h2 : (r .o).value.length ≤ 1000000) {d : Nat} {K : ARes → BL → Prop} (hr : ∀ t : Th (List UInt8), (t .o).length ≤ 2000100 → K (.ret (.str t)) .nil) : CallAt PT r1_PutRec [Xattr.av r] d .nil K := by
  refine CallAt.res ?_
  refine r1_PutRec.of rfl rfl ?_
  cbv
  refine mayrec_c r h1 h2 fun b => ?_
  cbv
  ((try refine br_rev ?_); (first | refine br_dec (fun q1 => ?_) (fun q1 => ?_) | refine br_ndec (fun q1 => ?_) (fun q1 => ?_) | refine br_nbool (fun q1 => ?_) (fun q1 => ?_) | refine br_bool (fun q1 => ?_) (fun q1 => ?_)); all_goals (try dsimp only at q1); all_goals (try with_reducible replace q1 := zi_lt.1 q1); all_goals (try with_reducible replace q1 := not_zlt q1))
  all_goals cbv
  · exact ⟨_, .ret (.refl _), hr (fun _ => []) (by simp)⟩
  · refine record_c r h1 h2 fun t ht => ?_
    cbv
    exact ⟨_, .ret (.refl _), hr _ ht⟩
end Go.Proofs.Ytgjlkcdnlndlnaa
/- Splitting, signs: walked as far as entries want. -/
namespace Go.Proofs.Ytgjlkcdnlndlnaa
open Go Go.Proofs.Ytgjlkcdnlndlnaa.Sx F
set_option linter.unusedVariables false
set_option linter.unusedSimpArgs false
theorem sign_c (s : Th (List UInt8)) (hs : (s .o).length ≤ 1099511627776) (hp : 0 < (s .o).length) {d : Nat} {K : ARes → BL → Prop} (hr : ∀ r : Th Int, 0 ≤ r .o ∧ r .o ≤ 4 → K (.ret (.int .i64 r)) .nil) : CallAt PT r1_sign [.str s] d .nil K := by
  refine CallAt.res ?_
  refine r1_sign.of rfl rfl ?_
  cbv
  refine safe ⟨by decide, zi_lt.2 hp⟩ ?_
  ((try refine br_rev ?_); (first | refine br_dec (fun h1 => ?_) (fun h1 => ?_) | refine br_ndec (fun h1 => ?_) (fun h1 => ?_) | refine br_nbool (fun h1 => ?_) (fun h1 => ?_) | refine br_bool (fun h1 => ?_) (fun h1 => ?_)); all_goals (try dsimp only at h1); all_goals (try with_reducible replace h1 := zi_lt.1 h1); all_goals (try with_reducible replace h1 := not_zlt h1))
  · cbv
    exact ⟨_, .ret (.refl _), hr (fun _ => 1) (by decide)⟩
  · cbv
    refine safe (by decide) ?_
    ((try refine br_rev ?_); (first | refine br_dec (fun h2 => ?_) (fun h2 => ?_) | refine br_ndec (fun h2 => ?_) (fun h2 => ?_) | refine br_nbool (fun h2 => ?_) (fun h2 => ?_) | refine br_bool (fun h2 => ?_) (fun h2 => ?_)); all_goals (try dsimp only at h2); all_goals (try with_reducible replace h2 := zi_lt.1 h2); all_goals (try with_reducible replace h2 := not_zlt h2))
    rotate_left
    focus
      cbv
      refine safe (by decide) ?_
      ((try refine br_rev ?_); (first | refine br_dec (fun h3 => ?_) (fun h3 => ?_) | refine br_ndec (fun h3 => ?_) (fun h3 => ?_) | refine br_nbool (fun h3 => ?_) (fun h3 => ?_) | refine br_bool (fun h3 => ?_) (fun h3 => ?_)); all_goals (try dsimp only at h3); all_goals (try with_reducible replace h3 := zi_lt.1 h3); all_goals (try with_reducible replace h3 := not_zlt h3))
      rotate_left
      focus
        cbv
        refine safe (by decide) ?_
        ((try refine br_rev ?_); (first | refine br_dec (fun h4 => ?_) (fun h4 => ?_) | refine br_ndec (fun h4 => ?_) (fun h4 => ?_) | refine br_nbool (fun h4 => ?_) (fun h4 => ?_) | refine br_bool (fun h4 => ?_) (fun h4 => ?_)); all_goals (try dsimp only at h4); all_goals (try with_reducible replace h4 := zi_lt.1 h4); all_goals (try with_reducible replace h4 := not_zlt h4))
        rotate_left
        focus
          cbv
          exact ⟨_, .ret (.refl _), hr (fun _ => 0) (by decide)⟩
    all_goals cbv
    all_goals first | (refine loop_at (X := Nat × Int) 1000 [0, 4, 6] [] (fun _ x => .cons 7 (.int .i64 fun _ => zi x.1) (.cons 5 (.int .i64 fun _ => x.2) .nil)) (fun _ _ => .nil) (fun x => x.1 ≤ 4) (fun x => 4 - x.1) (1, IntKind.i64.wrap (abits .and .u8 (zi ((s .o).getD (Int.toNat 0) 0).toNat) 7)) ?_ (by show 1 ≤ 4; decide) ?_; focus (cbv; (repeat' (first | exact True.intro | exact Same.refl _ | exact SameB.refl _ | exact ⟨rfl⟩ | exact Same.int rfl | exact Same.str rfl | exact Same.bool rfl | (refine Same.int ?_; simp only [List.length_append, List.length_cons, List.length_nil, zi]; omega) | (refine SameB.row' rfl fun i hi => ?_; first | rfl | exact absurd hi (Nat.not_lt_zero _)) | refine And.intro ?_ ?_ | refine SameB.cells ?_ | exact SameC.nil | refine SameC.cons ?_ ?_ | exact Same.nsl rfl | exact Same.tt rfl | exact Same.ff rfl)); done)) | (refine loop_at (X := Nat × Int) 1000 [0, 4, 6] [] (fun _ x => .cons 7 (.int .i64 fun _ => zi x.1) (.cons 5 (.int .i64 fun _ => x.2) .nil)) (fun _ _ => .nil) (fun x => x.1 ≤ 4) (fun x => 4 - x.1) (1, IntKind.i64.wrap (abits .and .u8 (zi ((s .o).getD (Int.toNat 0) 0).toNat) 15)) ?_ (by show 1 ≤ 4; decide) ?_; focus (cbv; (repeat' (first | exact True.intro | exact Same.refl _ | exact SameB.refl _ | exact ⟨rfl⟩ | exact Same.int rfl | exact Same.str rfl | exact Same.bool rfl | (refine Same.int ?_; simp only [List.length_append, List.length_cons, List.length_nil, zi]; omega) | (refine SameB.row' rfl fun i hi => ?_; first | rfl | exact absurd hi (Nat.not_lt_zero _)) | refine And.intro ?_ ?_ | refine SameB.cells ?_ | exact SameC.nil | refine SameC.cons ?_ ?_ | exact Same.nsl rfl | exact Same.tt rfl | exact Same.ff rfl)); done)) | (refine loop_at (X := Nat × Int) 1000 [0, 4, 6] [] (fun _ x => .cons 7 (.int .i64 fun _ => zi x.1) (.cons 5 (.int .i64 fun _ => x.2) .nil)) (fun _ _ => .nil) (fun x => x.1 ≤ 4) (fun x => 4 - x.1) (1, IntKind.i64.wrap (abits .and .u8 (zi ((s .o).getD (Int.toNat 0) 0).toNat) 31)) ?_ (by show 1 ≤ 4; decide) ?_; focus (cbv; (repeat' (first | exact True.intro | exact Same.refl _ | exact SameB.refl _ | exact ⟨rfl⟩ | exact Same.int rfl | exact Same.str rfl | exact Same.bool rfl | (refine Same.int ?_; simp only [List.length_append, List.length_cons, List.length_nil, zi]; omega) | (refine SameB.row' rfl fun i hi => ?_; first | rfl | exact absurd hi (Nat.not_lt_zero _)) | refine And.intro ?_ ?_ | refine SameB.cells ?_ | exact SameC.nil | refine SameC.cons ?_ ?_ | exact Same.nsl rfl | exact Same.tt rfl | exact Same.ff rfl)); done))
    all_goals (rintro ⟨i, n⟩ hi; dsimp only at hi; cbv; refine br_zlt (fun q1 => ?_) (fun q1 => ?_))
    all_goals cbv
    all_goals refine br_rev (br_dec (fun q2 => ?_) (fun q2 => ?_))
    all_goals cbv
    all_goals try exact ⟨_, .ret (.refl _), hr (fun _ => 0) (by decide)⟩
    all_goals try ((repeat' (first | (refine br_dec (fun h => ?_) (fun h => ?_) <;> cbv) | (refine br_rev (br_dec (fun h => ?_) (fun h => ?_)) <;> cbv) | (refine br_ndec (fun h => ?_) (fun h => ?_) <;> cbv) | (refine br_rev (br_ndec (fun h => ?_) (fun h => ?_)) <;> cbv))))
    all_goals try exact ⟨_, .ret (.refl _), hr (fun _ => 0) (by decide)⟩
    all_goals try exact ⟨_, .ret (.refl _), hr (fun _ => 2) (by decide)⟩
    all_goals try exact ⟨_, .ret (.refl _), hr (fun _ => 3) (by decide)⟩
    all_goals try exact ⟨_, .ret (.refl _), hr (fun _ => 4) (by decide)⟩
    all_goals (
      have q2 : ¬ zi (s .o).length ≤ zi i := q2
      have q1 : i + 1 ≤ 4 := by first | exact q1 | exact Nat.le_trans q1 (by decide)
      refine safe ⟨zi_nonneg _, Int.not_le.1 q2⟩ ?_
      refine safe (by decide) ?_
      refine br_ndec (fun q3 => ?_) (fun q3 => ?_) <;> cbv
      focus exact ⟨_, .ret (.refl _), hr (fun _ => 0) (by decide)⟩
      refine safe (by decide) ?_
      refine safe ⟨zi_nonneg _, Int.not_le.1 q2⟩ ?_
      refine ⟨(i + 1, abits .or .i64 (IntKind.i64.wrap (n * 2 ^ min (Int.toNat 6) IntKind.i64.bits)) (IntKind.i64.wrap (abits .and .u8 (zi ((s .o).getD (zi i).toNat 0).toNat) 63))), ?_⟩
      refine ⟨by show i + 1 ≤ 4; omega, by show 4 - (i + 1) < 4 - i; omega, ?_⟩
      cbv
      rw [zi_succ (by omega)]
      (repeat' (first | exact True.intro | exact Same.refl _ | exact SameB.refl _ | exact ⟨rfl⟩ | exact Same.int rfl | exact Same.str rfl | exact Same.bool rfl | (refine Same.int ?_; simp only [List.length_append, List.length_cons, List.length_nil, zi]; omega) | (refine SameB.row' rfl fun i hi => ?_; first | rfl | exact absurd hi (Nat.not_lt_zero _)) | refine And.intro ?_ ?_ | refine SameB.cells ?_ | exact SameC.nil | refine SameC.cons ?_ ?_ | exact Same.nsl rfl | exact Same.tt rfl | exact Same.ff rfl))
      done)
theorem bad_c (s : Th (List UInt8)) (hs : (s .o).length ≤ 1099511627776) {d : Nat} {K : ARes → BL → Prop} (hr : ∀ r : Th Int, K (.ret (.int .i64 r)) .nil) : CallAt PT r1_Bad [.str s] d .nil K := by
  refine CallAt.res ?_
  refine r1_Bad.of rfl rfl ?_
  cbv
  refine loop_at (X := Nat) 1000 [0] [] (fun _ k => .cons 3 (.int .i64 fun _ => zi k) .nil) (fun _ k => .nil) (fun k => k ≤ (s .o).length + 4) (fun k => (s .o).length + 4 - k) 0 ?_ (Nat.zero_le _) ?_
  · cbv
    (repeat' (first | exact True.intro | exact Same.refl _ | exact SameB.refl _ | exact ⟨rfl⟩ | exact Same.int rfl | exact Same.str rfl | exact Same.bool rfl | (refine Same.int ?_; simp only [List.length_append, List.length_cons, List.length_nil, zi]; omega) | (refine SameB.row' rfl fun i hi => ?_; first | rfl | exact absurd hi (Nat.not_lt_zero _)) | refine And.intro ?_ ?_ | refine SameB.cells ?_ | exact SameC.nil | refine SameC.cons ?_ ?_ | exact Same.nsl rfl | exact Same.tt rfl | exact Same.ff rfl))
  · intro k hk
    cbv
    ((try refine br_rev ?_); (first | refine br_dec (fun h1 => ?_) (fun h1 => ?_) | refine br_ndec (fun h1 => ?_) (fun h1 => ?_) | refine br_nbool (fun h1 => ?_) (fun h1 => ?_) | refine br_bool (fun h1 => ?_) (fun h1 => ?_)); all_goals (try dsimp only at h1); all_goals (try with_reducible replace h1 := zi_lt.1 h1); all_goals (try with_reducible replace h1 := not_zlt h1))
    · cbv
      refine safe ⟨zi_nonneg _, zi_le.2 (Nat.le_of_lt h1), Int.le_refl _⟩ ?_
      refine sign_c _ (by dsimp only; (try rw [zi_toNat]); simp only [List.length_take, List.length_drop]; omega) (by dsimp only; (try rw [zi_toNat]); simp only [zi, List.length_take, List.length_drop]; omega) fun r hr' => ?_
      cbv
      ((try refine br_rev ?_); (first | refine br_dec (fun h2 => ?_) (fun h2 => ?_) | refine br_ndec (fun h2 => ?_) (fun h2 => ?_) | refine br_nbool (fun h2 => ?_) (fun h2 => ?_) | refine br_bool (fun h2 => ?_) (fun h2 => ?_)); all_goals (try dsimp only at h2); all_goals (try with_reducible replace h2 := zi_lt.1 h2); all_goals (try with_reducible replace h2 := not_zlt h2))
      · cbv
        exact ⟨_, .ret (.refl _), hr _⟩
      · have h2 : ¬ r .o = 0 := h2
        cbv
        refine ⟨k + (r .o).toNat, by omega, by omega, ?_⟩
        cbv
        (repeat' (first | exact True.intro | exact Same.refl _ | exact SameB.refl _ | exact ⟨rfl⟩ | exact Same.int rfl | exact Same.str rfl | exact Same.bool rfl | (refine Same.int ?_; simp only [List.length_append, List.length_cons, List.length_nil, zi]; omega) | (refine SameB.row' rfl fun i hi => ?_; first | rfl | exact absurd hi (Nat.not_lt_zero _)) | refine And.intro ?_ ?_ | refine SameB.cells ?_ | exact SameC.nil | refine SameC.cons ?_ ?_ | exact Same.nsl rfl | exact Same.tt rfl | exact Same.ff rfl))
        all_goals exact Same.int (by show IntKind.i64.wrap (zi k + r .o) = zi (k + (r .o).toNat); rw [IntKind.wrap_i64]; unfold zi; omega)
    · cbv
      exact ⟨_, .ret (.refl _), hr (fun _ => -1)⟩
theorem valid_c (s : Th (List UInt8)) (hs : (s .o).length ≤ 1099511627776) {d : Nat} {K : ARes → BL → Prop} (hr : ∀ r : Th Bool, K (.ret (.bool r)) .nil) : CallAt PT r1_Valid [.str s] d .nil K := by
  refine CallAt.res ?_
  refine r1_Valid.of rfl rfl ?_
  cbv
  refine bad_c s hs fun r => ?_
  cbv
  exact ⟨_, .ret (.refl _), hr _⟩
def partsAv (a b : Th (List UInt8)) (c : Th Bool) : AV := .agg (.cons (.str a) (.cons (.str b) (.cons (.bool c) .nil)))
theorem split_c' (s : Th (List UInt8)) (hs : (s .o).length ≤ 1099511627776) {d : Nat} {K : ARes → BL → Prop} (hr : ∀ a b c, K (.ret (partsAv a b c)) .nil) : CallAt PT r1_Split [.str s] d .nil K := by
  refine CallAt.res ?_
  refine r1_Split.of rfl rfl ?_
  cbv
  ((try refine br_rev ?_); (first | refine br_dec (fun h1 => ?_) (fun h1 => ?_) | refine br_ndec (fun h1 => ?_) (fun h1 => ?_) | refine br_nbool (fun h1 => ?_) (fun h1 => ?_) | refine br_bool (fun h1 => ?_) (fun h1 => ?_)); all_goals (try dsimp only at h1); all_goals (try with_reducible replace h1 := zi_lt.1 h1); all_goals (try with_reducible replace h1 := not_zlt h1))
  · cbv
    exact ⟨_, .ret (y := partsAv (fun _ => []) s fun _ => true) (.agg (.cons (.refl _) (.cons (.refl _) (.cons (.tt rfl) .nil)))), hr _ _ _⟩
  · cbv
    refine loop_at (X := Nat) 1000 [0, 2] [2] (fun _ k => .cons 3 (.int .i64 fun _ => zi k) .nil) (fun _ k => .nil) (fun k => k ≤ (s .o).length) (fun k => (s .o).length - k) 0 ?_ (Nat.zero_le _) ?_
    · cbv
      (repeat' (first | exact True.intro | exact Same.refl _ | exact SameB.refl _ | exact ⟨rfl⟩ | exact Same.int rfl | exact Same.str rfl | exact Same.bool rfl | (refine Same.int ?_; simp only [List.length_append, List.length_cons, List.length_nil, zi]; omega) | (refine SameB.row' rfl fun i hi => ?_; first | rfl | exact absurd hi (Nat.not_lt_zero _)) | refine And.intro ?_ ?_ | refine SameB.cells ?_ | exact SameC.nil | refine SameC.cons ?_ ?_ | exact Same.nsl rfl | exact Same.tt rfl | exact Same.ff rfl))
    · intro k hk
      cbv
      rw [show IntKind.i64.wrap (zi k + 1) = zi (k + 1) from zi_succ (by omega)]
      ((try refine br_rev ?_); (first | refine br_dec (fun h2 => ?_) (fun h2 => ?_) | refine br_ndec (fun h2 => ?_) (fun h2 => ?_) | refine br_nbool (fun h2 => ?_) (fun h2 => ?_) | refine br_bool (fun h2 => ?_) (fun h2 => ?_)); all_goals (try dsimp only at h2); all_goals (try with_reducible replace h2 := zi_lt.1 h2); all_goals (try with_reducible replace h2 := not_zlt h2))
      rotate_left
      · cbv
        exact ⟨_, .ret (y := partsAv (fun _ => []) (fun _ => []) fun _ => false) (.agg (.cons (.refl _) (.cons (.refl _) (.cons (.ff rfl) .nil)))), hr _ _ _⟩
      have h2 : k + 1 < (s .o).length := h2
      cbv
      refine safe ⟨zi_nonneg _, zi_lt.2 (by omega)⟩ ?_
      ((try refine br_rev ?_); (first | refine br_dec (fun h3 => ?_) (fun h3 => ?_) | refine br_ndec (fun h3 => ?_) (fun h3 => ?_) | refine br_nbool (fun h3 => ?_) (fun h3 => ?_) | refine br_bool (fun h3 => ?_) (fun h3 => ?_)); all_goals (try dsimp only at h3); all_goals (try with_reducible replace h3 := zi_lt.1 h3); all_goals (try with_reducible replace h3 := not_zlt h3))
      all_goals cbv
      all_goals try ((try refine br_rev ?_); (first | refine br_dec (fun h4 => ?_) (fun h4 => ?_) | refine br_ndec (fun h4 => ?_) (fun h4 => ?_) | refine br_nbool (fun h4 => ?_) (fun h4 => ?_) | refine br_bool (fun h4 => ?_) (fun h4 => ?_)); all_goals (try dsimp only at h4); all_goals (try with_reducible replace h4 := zi_lt.1 h4); all_goals (try with_reducible replace h4 := not_zlt h4))
      all_goals cbv
      all_goals try (
        refine ⟨k + 1, by omega, by omega, ?_⟩
        cbv
        rw [zi_succ (by omega)]
        (repeat' (first | exact True.intro | exact Same.refl _ | exact SameB.refl _ | exact ⟨rfl⟩ | exact Same.int rfl | exact Same.str rfl | exact Same.bool rfl | (refine Same.int ?_; simp only [List.length_append, List.length_cons, List.length_nil, zi]; omega) | (refine SameB.row' rfl fun i hi => ?_; first | rfl | exact absurd hi (Nat.not_lt_zero _)) | refine And.intro ?_ ?_ | refine SameB.cells ?_ | exact SameC.nil | refine SameC.cons ?_ ?_ | exact Same.nsl rfl | exact Same.tt rfl | exact Same.ff rfl))
        done)
      ((try refine br_rev ?_); (first | refine br_dec (fun h5 => ?_) (fun h5 => ?_) | refine br_ndec (fun h5 => ?_) (fun h5 => ?_) | refine br_nbool (fun h5 => ?_) (fun h5 => ?_) | refine br_bool (fun h5 => ?_) (fun h5 => ?_)); all_goals (try dsimp only at h5); all_goals (try with_reducible replace h5 := zi_lt.1 h5); all_goals (try with_reducible replace h5 := not_zlt h5))
      · cbv
        exact ⟨_, .ret (y := partsAv (fun _ => []) (fun _ => []) fun _ => false) (.agg (.cons (.refl _) (.cons (.refl _) (.cons (.ff rfl) .nil)))), hr _ _ _⟩
      · cbv
        ((try refine br_rev ?_); (first | refine br_dec (fun h6 => ?_) (fun h6 => ?_) | refine br_ndec (fun h6 => ?_) (fun h6 => ?_) | refine br_nbool (fun h6 => ?_) (fun h6 => ?_) | refine br_bool (fun h6 => ?_) (fun h6 => ?_)); all_goals (try dsimp only at h6); all_goals (try with_reducible replace h6 := zi_lt.1 h6); all_goals (try with_reducible replace h6 := not_zlt h6))
        all_goals cbv
        · exact ⟨_, .ret (y := partsAv (fun _ => []) (fun _ => []) fun _ => false) (.agg (.cons (.refl _) (.cons (.refl _) (.cons (.ff rfl) .nil)))), hr _ _ _⟩
        · refine safe ⟨Int.le_refl _, zi_nonneg _, zi_le.2 (by omega)⟩ ?_
          refine safe (by dsimp only; rw [zi_succ (by omega)]; exact ⟨zi_nonneg _, zi_le.2 (by omega), Int.le_refl _⟩) ?_
          exact ⟨_, .ret (y := partsAv _ _ fun _ => true) (.agg (.cons (.refl _) (.cons (.refl _) (.cons (.tt rfl) .nil)))), hr _ _ _⟩
end Go.Proofs.Ytgjlkcdnlndlnaa
/- Lists, capabilities as texts: walked as far as entries want. -/
namespace Go.Proofs.Ytgjlkcdnlndlnaa
open Go Go.Proofs.Ytgjlkcdnlndlnaa.Sx F
set_option linter.unusedVariables false
set_option linter.unusedSimpArgs false
theorem long_c (s n : Th Int) {d : Nat} {K : ARes → BL → Prop} (hr : ∀ b : Th Bool, (b .o = true ↔ n .o ≠ 0 ∨ s .o < 0 ∨ 8589934592 ≤ s .o) → K (.ret (.bool b)) .nil) : CallAt PT r15_long [stampAv s n] d .nil K := by
  refine CallAt.res ?_
  refine r15_long.of rfl rfl ?_
  cbv
  (repeat' (first | (refine br_dec (fun h => ?_) (fun h => ?_) <;> cbv) | (refine br_rev (br_dec (fun h => ?_) (fun h => ?_)) <;> cbv) | (refine br_ndec (fun h => ?_) (fun h => ?_) <;> cbv) | (refine br_rev (br_ndec (fun h => ?_) (fun h => ?_)) <;> cbv)))
  all_goals (try dsimp only at *)
  all_goals first
    | exact ⟨_, .ret (y := .bool fun _ => true) (.tt rfl), hr (fun _ => true) ⟨fun _ => by omega, fun _ => rfl⟩⟩
    | exact ⟨_, .ret (y := .bool fun _ => false) (.ff rfl), hr (fun _ => false) ⟨fun q => (by cases q), fun q => by omega⟩⟩
    | exact ⟨_, .ret (.refl _), hr _ (by show decide (8589934592 ≤ s .o) = true ↔ _; rw [decide_eq_true_eq]; omega)⟩
theorem el3 (i : Nat) (hi : i < 3) : elemAt 1 (.cons (.int .u8 fun _ => 45) (.cons (.int .u8 fun _ => 45) (.cons (.int .u8 fun _ => 45) .nil))) i = byteCh fun _ => ([45, 45, 45] : List Int).getD i 0 := by
  match i, hi with
  | 0, _ | 1, _ | 2, _ => rfl
theorem rwx_c (n : Th Int) {d : Nat} {K : ARes → BL → Prop} (hr : ∀ t : Th (List UInt8), (t .o).length = 3 → K (.ret (.str t)) .nil) : CallAt PT r9_rwx [.int .i64 n] d .nil K := by
  refine CallAt.res ?_
  refine r9_rwx.of rfl rfl ?_
  cbv
  refine safe (by decide) ?_
  ((try refine br_rev ?_); (first | refine br_dec (fun h1 => ?_) (fun h1 => ?_) | refine br_ndec (fun h1 => ?_) (fun h1 => ?_) | refine br_nbool (fun h1 => ?_) (fun h1 => ?_) | refine br_bool (fun h1 => ?_) (fun h1 => ?_)); all_goals (try dsimp only at h1); all_goals (try with_reducible replace h1 := zi_lt.1 h1); all_goals (try with_reducible replace h1 := not_zlt h1))
  all_goals cbv
  all_goals try (refine safe (by decide) ?_; refine put_rows byteCh 0 [45, 45, 45] 114 rfl (by first | exact fun i hi => rfl | exact fun i hi => el3 i hi) (by decide) rfl ?_; cbv)
  all_goals ((try refine br_rev ?_); (first | refine br_dec (fun h2 => ?_) (fun h2 => ?_) | refine br_ndec (fun h2 => ?_) (fun h2 => ?_) | refine br_nbool (fun h2 => ?_) (fun h2 => ?_) | refine br_bool (fun h2 => ?_) (fun h2 => ?_)); all_goals (try dsimp only at h2); all_goals (try with_reducible replace h2 := zi_lt.1 h2); all_goals (try with_reducible replace h2 := not_zlt h2))
  all_goals cbv
  all_goals try (refine safe (by decide) ?_; first | (refine put_rows byteCh 0 [45, 45, 45] 119 rfl (by first | exact fun i hi => rfl | exact fun i hi => el3 i hi) (by decide) rfl ?_; cbv) | (refine put_rows byteCh 0 [114, 45, 45] 119 rfl (by first | exact fun i hi => rfl | exact fun i hi => el3 i hi) (by decide) rfl ?_; cbv))
  all_goals ((try refine br_rev ?_); (first | refine br_dec (fun h3 => ?_) (fun h3 => ?_) | refine br_ndec (fun h3 => ?_) (fun h3 => ?_) | refine br_nbool (fun h3 => ?_) (fun h3 => ?_) | refine br_bool (fun h3 => ?_) (fun h3 => ?_)); all_goals (try dsimp only at h3); all_goals (try with_reducible replace h3 := zi_lt.1 h3); all_goals (try with_reducible replace h3 := not_zlt h3))
  all_goals cbv
  all_goals try (refine safe (by decide) ?_; first | (refine put_rows byteCh 0 [45, 45, 45] 120 rfl (by first | exact fun i hi => rfl | exact fun i hi => el3 i hi) (by decide) rfl ?_; cbv) | (refine put_rows byteCh 0 [45, 119, 45] 120 rfl (by first | exact fun i hi => rfl | exact fun i hi => el3 i hi) (by decide) rfl ?_; cbv) | (refine put_rows byteCh 0 [114, 45, 45] 120 rfl (by first | exact fun i hi => rfl | exact fun i hi => el3 i hi) (by decide) rfl ?_; cbv) | (refine put_rows byteCh 0 [114, 119, 45] 120 rfl (by first | exact fun i hi => rfl | exact fun i hi => el3 i hi) (by decide) rfl ?_; cbv))
  all_goals refine safe (by first | exact fun i hi => ⟨_, rfl⟩ | exact fun i hi => ⟨_, el3 i hi⟩) ?_
  all_goals exact ⟨_, .ret (.refl _), hr _ (by show (bytesN 3 _).length = 3; rw [bytesN_len])⟩
theorem four_c (n : Th Int) {d : Nat} {K : ARes → BL → Prop} (hr : ∀ t : Th (List UInt8), (t .o).length = 4 → K (.ret (.str t)) .nil) : CallAt PT r9_four [.int .u64 n] d .nil K := by
  refine CallAt.res ?_
  refine r9_four.of rfl rfl ?_
  cbv
  refine safe (by decide) ?_
  refine safe (by decide) ?_
  refine safe (by decide) ?_
  refine safe (fun i hi => ⟨_, rfl⟩) ?_
  exact ⟨_, .ret (.refl _), hr _ (by show (bytesN 4 _).length = 4; rw [bytesN_len])⟩
theorem putcaps_c (c : Th Caps) {d : Nat} {K : ARes → BL → Prop} (hr : ∀ t : Th (List UInt8), (t .o).length ≤ 24 → K (.ret (.str t)) .nil) : CallAt PT r9_PutCaps [Caps.av c] d .nil K := by
  refine CallAt.res ?_
  refine r9_PutCaps.of rfl rfl ?_
  cbv
  refine caps9_c c fun b hb => ?_
  cbv
  refine br_rev (br_nbool (fun q1 => ?_) (fun q1 => ?_))
  all_goals cbv
  focus exact ⟨_, .ret (.refl _), hr (fun _ => []) (by simp)⟩
  ((try refine br_rev ?_); (first | refine br_dec (fun q2 => ?_) (fun q2 => ?_) | refine br_ndec (fun q2 => ?_) (fun q2 => ?_) | refine br_nbool (fun q2 => ?_) (fun q2 => ?_) | refine br_bool (fun q2 => ?_) (fun q2 => ?_)); all_goals (try dsimp only at q2); all_goals (try with_reducible replace q2 := zi_lt.1 q2); all_goals (try with_reducible replace q2 := not_zlt q2))
  all_goals cbv
  focus exact ⟨_, .ret (.refl _), hr (fun _ => []) (by simp)⟩
  focus refine safe (by decide) ?_
  refine br_bool (fun q3 => ?_) (fun q3 => ?_)
  all_goals cbv
  all_goals (repeat (first | (refine four_c _ fun t ht => ?_; cbv) | refine safe (by first | decide | (simp only [List.length_append]; omega)) ?_))
  all_goals refine br_dec (fun q4 => ?_) (fun q4 => ?_)
  all_goals cbv
  all_goals (repeat (first | (refine four_c _ fun t ht => ?_; cbv) | refine safe (by first | decide | (simp only [List.length_append]; omega)) ?_))
  all_goals exact ⟨_, .ret (.refl _), hr _ (by simp only [List.length_append]; omega)⟩
theorem len7 (n : Nat) : ((([fun _ => [], fun _ => [117], fun _ => [117], fun _ => [103], fun _ => [103], fun _ => [109], fun _ => [111]] : List (Th (List UInt8))).getD n fun _ => []) O1.o).length = min (min n 1) (7 - n) := by
  match n with
  | 0 | 1 | 2 | 3 | 4 | 5 | 6 => rfl
  | n + 7 => show 0 = _; omega
theorem textacl_c (l : Th (List Ace)) (hl : (l .o).length ≤ 60) (ht : ∀ k, 0 ≤ ((l .o).getD k Ace.z).tag ∧ ((l .o).getD k Ace.z).tag < 7) (hi : ∀ k, 0 ≤ ((l .o).getD k Ace.z).id ∧ ((l .o).getD k Ace.z).id < 9223372036854775808) {d : Nat} {K : ARes → BL → Prop} (hr : ∀ t : Th (List UInt8), (t .o).length ≤ 64 * (l .o).length → K (.ret (.str t)) .nil) : CallAt PT r9_TextAcl [aces l] d .nil K := by
  refine CallAt.res ?_
  refine r9_TextAcl.of rfl rfl ?_
  cbv
  refine loop_at (X := Nat × List UInt8) 1000 [0] [] (fun _ x => .cons 4 (.int .i64 fun _ => zi x.1) (.cons 3 (.str fun _ => x.2) .nil)) (fun _ k => .nil) (fun x => x.1 ≤ (l .o).length ∧ x.2.length ≤ 64 * x.1) (fun x => (l .o).length - x.1) (0, []) ?_ ⟨by simp, by simp⟩ ?_
  · cbv
    (repeat' (first | exact True.intro | exact Same.refl _ | exact SameB.refl _ | exact ⟨rfl⟩ | exact Same.int rfl | exact Same.str rfl | exact Same.bool rfl | (refine Same.int ?_; simp only [List.length_append, List.length_cons, List.length_nil, zi]; omega) | (refine SameB.row' rfl fun i hi => ?_; first | rfl | exact absurd hi (Nat.not_lt_zero _)) | refine And.intro ?_ ?_ | refine SameB.cells ?_ | exact SameC.nil | refine SameC.cons ?_ ?_ | exact Same.nsl rfl | exact Same.tt rfl | exact Same.ff rfl))
  · rintro ⟨k, s⟩ ⟨hk, hs⟩
    dsimp only at hk hs
    cbv
    refine br_zlt (fun h1 => ?_) (fun h1 => ?_)
    all_goals cbv
    rotate_left
    · exact ⟨_, .ret (.refl _), hr _ (by show s.length ≤ _; omega)⟩
    have h1 : k < (l .o).length := h1
    refine safe ⟨zi_nonneg _, zi_lt.2 h1⟩ ?_
    have hz := zi_toNat k
    ((try refine br_rev ?_); (first | refine br_dec (fun h2 => ?_) (fun h2 => ?_) | refine br_ndec (fun h2 => ?_) (fun h2 => ?_) | refine br_nbool (fun h2 => ?_) (fun h2 => ?_) | refine br_bool (fun h2 => ?_) (fun h2 => ?_)); all_goals (try dsimp only at h2); all_goals (try with_reducible replace h2 := zi_lt.1 h2); all_goals (try with_reducible replace h2 := not_zlt h2))
    all_goals cbv
    all_goals try refine safe (by simp only [List.length_append, List.length_cons, List.length_nil, len7]; omega) ?_
    all_goals refine safe ⟨(ht _).1, (ht _).2⟩ ?_
    all_goals refine safe (by have := ht (zi k).toNat; dsimp only; omega) ?_
    all_goals refine safe (by simp only [List.length_append, List.length_cons, List.length_nil, len7]; omega) ?_
    all_goals refine safe (by simp only [List.length_append, List.length_cons, List.length_nil, len7]; omega) ?_
    all_goals refine named_c (fun _ => (l .o).getD (zi k).toNat Ace.z) fun b => ?_
    all_goals cbv
    all_goals refine br_bool (fun q3 => ?_) (fun q3 => ?_)
    all_goals cbv
    all_goals try (
      refine digits_c _ (hi _) fun t ht' => ?_
      have htl : (t .o).length ≤ 19 := by rw [ht']; exact digs63 (by have := hi (zi k).toNat; dsimp only; omega)
      cbv
      refine safe (by simp only [List.length_append, List.length_cons, List.length_nil, len7]; omega) ?_)
    all_goals refine safe (by simp only [List.length_append, List.length_cons, List.length_nil, len7]; omega) ?_
    all_goals refine rwx_c _ fun u hu => ?_
    all_goals cbv
    all_goals refine safe (by simp only [List.length_append, List.length_cons, List.length_nil, len7]; omega) ?_
    all_goals cbv
    all_goals (apply Exists.intro (k + 1, _); refine ⟨⟨?_, ?_⟩, ?_, ?_⟩)
    all_goals try (cbv; rw [zi_succ (by omega)]; (repeat' (first | exact True.intro | exact Same.refl _ | exact SameB.refl _ | exact ⟨rfl⟩ | exact Same.int rfl | exact Same.str rfl | exact Same.bool rfl | (refine Same.int ?_; simp only [List.length_append, List.length_cons, List.length_nil, zi]; omega) | (refine SameB.row' rfl fun i hi => ?_; first | rfl | exact absurd hi (Nat.not_lt_zero _)) | refine And.intro ?_ ?_ | refine SameB.cells ?_ | exact SameC.nil | refine SameC.cons ?_ ?_ | exact Same.nsl rfl | exact Same.tt rfl | exact Same.ff rfl)); done)
    all_goals (dsimp only; first | omega | (simp only [List.length_append, List.length_cons, List.length_nil, len7]; omega))
theorem band_63 (x : Int) : 0 ≤ band x 63 ∧ band x 63 < 64 := by
  have := band_le (x := x) (y := 63) (by decide) (by decide)
  omega
def lettersS : List UInt8 := [65, 66, 67, 68, 69, 70, 71, 72, 73, 74, 75, 76, 77, 78, 79, 80, 81, 82, 83, 84, 85, 86, 87, 88, 89, 90, 97, 98, 99, 100, 101, 102, 103, 104, 105, 106, 107, 108, 109, 110, 111, 112, 113, 114, 115, 116, 117, 118, 119, 120, 121, 122, 48, 49, 50, 51, 52, 53, 54, 55, 56, 57, 43, 47]
theorem letters_c {d : Nat} {K : ARes → BL → Prop} (hr : ∀ t : Th (List UInt8), t .o = lettersS → K (.ret (.str t)) .nil) : CallAt PT r1_letters [] d .nil K := by
  refine CallAt.res ?_
  refine r1_letters.of rfl rfl ?_
  cbv
  exact ⟨_, .ret (.refl _), hr (fun _ => lettersS) rfl⟩
theorem sixty1_c (s : Th (List UInt8)) (hs : (s .o).length ≤ 1000000) {d : Nat} {K : ARes → BL → Prop} (hr : ∀ t : Th (List UInt8), (t .o).length ≤ 4 * (s .o).length → K (.ret (.str t)) .nil) : CallAt PT r1_Sixty [.str s] d .nil K := by
  refine CallAt.res ?_
  refine r1_Sixty.of rfl rfl ?_
  cbv
  refine letters_c fun l hl => ?_
  cbv
  refine nil_tmp 4 9000 1 (fun i => u8Ch fun _ => ([] : List UInt8).getD (i .o) 0) rfl rfl ?_
  refine loop_at (X := Nat × List UInt8) 1000 [0, 3] [] (fun _ x => .cons 4 (.row 9000) (.cons 5 (.int .i64 fun _ => zi (3 * x.1)) .nil)) (fun _ x => .cons 9000 (rowB 1 u8Ch 0 fun _ => x.2) .nil)
    (fun x => 3 * x.1 ≤ (s .o).length + 2 ∧ x.2.length = 4 * x.1) (fun x => (s .o).length + 3 - 3 * x.1) (0, []) ?_ ⟨by simp, by simp⟩ ?_
  · cbv
    (repeat' (first | exact True.intro | exact Same.refl _ | exact SameB.refl _ | exact ⟨rfl⟩ | exact Same.int rfl | exact Same.str rfl | exact Same.bool rfl | (refine Same.int ?_; simp only [List.length_append, List.length_cons, List.length_nil, zi]; omega) | (refine SameB.row' rfl fun i hi => ?_; first | rfl | exact absurd hi (Nat.not_lt_zero _)) | refine And.intro ?_ ?_ | refine SameB.cells ?_ | exact SameC.nil | refine SameC.cons ?_ ?_ | exact Same.nsl rfl | exact Same.tt rfl | exact Same.ff rfl))
  · rintro ⟨k, out⟩ ⟨hk, ho⟩
    dsimp only at hk ho
    cbv
    refine br_zlt (fun h1 => ?_) (fun h1 => ?_)
    · have h1 : 3 * k < (s .o).length := h1
      have hw : IntKind.i64.wrap (zi (s .o).length - zi (3 * k)) = zi ((s .o).length - 3 * k) := by rw [IntKind.wrap_i64]; unfold zi; omega
      cbv
      dsimp only
      rw [hw, show (if zi ((s .o).length - 3 * k) < 3 then zi ((s .o).length - 3 * k) else 3) = zi (min 3 ((s .o).length - 3 * k)) by unfold zi; split <;> omega]
      obtain ⟨m, hm⟩ : ∃ m, m = min 3 ((s .o).length - 3 * k) := ⟨_, rfl⟩
      rw [← hm]
      refine loop_at (X := Nat × Int) 1000 [0, 3, 4, 5, 7] [9000] (fun _ y => .cons 8 (.int .i64 fun _ => zi y.1) (.cons 6 (.int .i64 fun _ => y.2) .nil)) (fun _ _ => .nil) (fun y => y.1 ≤ 3) (fun y => 3 - y.1) (0, 0) ?_ (by decide) ?_
      · cbv
        (repeat' (first | exact True.intro | exact Same.refl _ | exact SameB.refl _ | exact ⟨rfl⟩ | exact Same.int rfl | exact Same.str rfl | exact Same.bool rfl | (refine Same.int ?_; simp only [List.length_append, List.length_cons, List.length_nil, zi]; omega) | (refine SameB.row' rfl fun i hi => ?_; first | rfl | exact absurd hi (Nat.not_lt_zero _)) | refine And.intro ?_ ?_ | refine SameB.cells ?_ | exact SameC.nil | refine SameC.cons ?_ ?_ | exact Same.nsl rfl | exact Same.tt rfl | exact Same.ff rfl))
      · rintro ⟨j, n⟩ hj
        dsimp only at hj
        cbv
        refine br_dec (fun h2 => ?_) (fun h2 => ?_)
        · have h2 : j < 3 := by have h2 : zi j < 3 := h2; unfold zi at h2; omega
          cbv
          refine safe (by decide) ?_
          refine br_zlt (fun h3 => ?_) (fun h3 => ?_)
          · have h3 : j < m := h3
            have hkj : IntKind.i64.wrap (zi (3 * k) + zi j) = zi (3 * k + j) := by rw [IntKind.wrap_i64]; unfold zi; omega
            cbv
            dsimp only
            refine safe (by rw [hkj]; exact ⟨zi_nonneg _, zi_lt.2 (by omega)⟩) ?_
            apply Exists.intro (j + 1, _)
            refine ⟨by show j + 1 ≤ 3; omega, by show 3 - (j + 1) < 3 - j; omega, ?_⟩
            cbv
            rw [zi_succ (by omega)]
            (repeat' (first | exact True.intro | exact Same.refl _ | exact SameB.refl _ | exact ⟨rfl⟩ | exact Same.int rfl | exact Same.str rfl | exact Same.bool rfl | (refine Same.int ?_; simp only [List.length_append, List.length_cons, List.length_nil, zi]; omega) | (refine SameB.row' rfl fun i hi => ?_; first | rfl | exact absurd hi (Nat.not_lt_zero _)) | refine And.intro ?_ ?_ | refine SameB.cells ?_ | exact SameC.nil | refine SameC.cons ?_ ?_ | exact Same.nsl rfl | exact Same.tt rfl | exact Same.ff rfl))
          · cbv
            apply Exists.intro (j + 1, _)
            refine ⟨by show j + 1 ≤ 3; omega, by show 3 - (j + 1) < 3 - j; omega, ?_⟩
            cbv
            rw [zi_succ (by omega)]
            (repeat' (first | exact True.intro | exact Same.refl _ | exact SameB.refl _ | exact ⟨rfl⟩ | exact Same.int rfl | exact Same.str rfl | exact Same.bool rfl | (refine Same.int ?_; simp only [List.length_append, List.length_cons, List.length_nil, zi]; omega) | (refine SameB.row' rfl fun i hi => ?_; first | rfl | exact absurd hi (Nat.not_lt_zero _)) | refine And.intro ?_ ?_ | refine SameB.cells ?_ | exact SameC.nil | refine SameC.cons ?_ ?_ | exact Same.nsl rfl | exact Same.tt rfl | exact Same.ff rfl))
        · cbv
          refine loop_at (X := Nat × List UInt8) 1000 [0, 3, 5, 6, 7] [] (fun _ y => .cons 4 (.row 9000) (.cons 9 (.int .i64 fun _ => zi y.1) .nil)) (fun _ y => .cons 9000 (rowB 1 u8Ch 0 fun _ => y.2) .nil) (fun y => y.1 ≤ 4 ∧ y.2.length = 4 * k + y.1) (fun y => 4 - y.1) (0, out) ?_ ⟨Nat.zero_le _, ho⟩ ?_
          · cbv
            (repeat' (first | exact True.intro | exact Same.refl _ | exact SameB.refl _ | exact ⟨rfl⟩ | exact Same.int rfl | exact Same.str rfl | exact Same.bool rfl | (refine Same.int ?_; simp only [List.length_append, List.length_cons, List.length_nil, zi]; omega) | (refine SameB.row' rfl fun i hi => ?_; first | rfl | exact absurd hi (Nat.not_lt_zero _)) | refine And.intro ?_ ?_ | refine SameB.cells ?_ | exact SameC.nil | refine SameC.cons ?_ ?_ | exact Same.nsl rfl | exact Same.tt rfl | exact Same.ff rfl))
          · rintro ⟨i, o⟩ ⟨hi, hol⟩
            dsimp only at hi hol
            cbv
            refine br_dec (fun h4 => ?_) (fun h4 => ?_)
            · have h4 : i < 4 := by have h4 : zi i < 4 := h4; unfold zi at h4; omega
              cbv
              refine br_dec (fun h5 => ?_) (fun h5 => ?_)
              · have h5 : i ≤ m := zi_le.1 h5
                have e6 : IntKind.i64.wrap (6 * zi i) = 6 * zi i := by rw [IntKind.wrap_i64]; unfold zi; omega
                have e18 : IntKind.i64.wrap (18 - 6 * zi i) = 18 - 6 * zi i := by rw [IntKind.wrap_i64]; unfold zi; omega
                cbv
                dsimp only
                rw [e6, e18]
                refine safe (by unfold zi; omega) ?_
                refine safe (by rw [hl]; exact ⟨(band_63 _).1, (band_63 _).2⟩) ?_
                obtain ⟨y, hy⟩ : ∃ y, y = (l .o).getD (abits .and .i64 (n.fdiv (2 ^ min (18 - 6 * zi i).toNat IntKind.i64.bits)) 63).toNat 0 := ⟨_, rfl⟩
                refine app_one u8Ch 0 o y rfl (fun i hi => rfl) rfl (by rw [hy]; rfl) (by omega) ?_
                cbv
                refine ⟨(i + 1, o ++ [y]), ⟨by show i + 1 ≤ 4; omega, by show (o ++ [_]).length = 4 * k + (i + 1); rw [List.length_append]; simp only [List.length_cons, List.length_nil]; omega⟩, by show 4 - (i + 1) < 4 - i; omega, ?_⟩
                cbv
                rw [zi_succ (by omega)]
                (repeat' (first | exact True.intro | exact Same.refl _ | exact SameB.refl _ | exact ⟨rfl⟩ | exact Same.int rfl | exact Same.str rfl | exact Same.bool rfl | (refine Same.int ?_; simp only [List.length_append, List.length_cons, List.length_nil, zi]; omega) | (refine SameB.row' rfl fun i hi => ?_; first | rfl | exact absurd hi (Nat.not_lt_zero _)) | refine And.intro ?_ ?_ | refine SameB.cells ?_ | exact SameC.nil | refine SameC.cons ?_ ?_ | exact Same.nsl rfl | exact Same.tt rfl | exact Same.ff rfl))
              · cbv
                refine app_one u8Ch 0 o 61 rfl (fun i hi => rfl) rfl rfl (by omega) ?_
                cbv
                refine ⟨(i + 1, o ++ [61]), ⟨by show i + 1 ≤ 4; omega, by show (o ++ [_]).length = 4 * k + (i + 1); rw [List.length_append]; simp only [List.length_cons, List.length_nil]; omega⟩, by show 4 - (i + 1) < 4 - i; omega, ?_⟩
                cbv
                rw [zi_succ (by omega)]
                (repeat' (first | exact True.intro | exact Same.refl _ | exact SameB.refl _ | exact ⟨rfl⟩ | exact Same.int rfl | exact Same.str rfl | exact Same.bool rfl | (refine Same.int ?_; simp only [List.length_append, List.length_cons, List.length_nil, zi]; omega) | (refine SameB.row' rfl fun i hi => ?_; first | rfl | exact absurd hi (Nat.not_lt_zero _)) | refine And.intro ?_ ?_ | refine SameB.cells ?_ | exact SameC.nil | refine SameC.cons ?_ ?_ | exact Same.nsl rfl | exact Same.tt rfl | exact Same.ff rfl))
            · have h4 : i = 4 := by have h4 : ¬ zi i < 4 := h4; unfold zi at h4; omega
              cbv
              refine ⟨(k + 1, o), ⟨by show 3 * (k + 1) ≤ _; omega, by show o.length = 4 * (k + 1); omega⟩, by show _ - 3 * (k + 1) < _ - 3 * k; omega, ?_⟩
              cbv
              (repeat' (first | exact True.intro | exact Same.refl _ | exact SameB.refl _ | exact ⟨rfl⟩ | exact Same.int rfl | exact Same.str rfl | exact Same.bool rfl | (refine Same.int ?_; simp only [List.length_append, List.length_cons, List.length_nil, zi]; omega) | (refine SameB.row' rfl fun i hi => ?_; first | rfl | exact absurd hi (Nat.not_lt_zero _)) | refine And.intro ?_ ?_ | refine SameB.cells ?_ | exact SameC.nil | refine SameC.cons ?_ ?_ | exact Same.nsl rfl | exact Same.tt rfl | exact Same.ff rfl))
              all_goals exact Same.int (by show IntKind.i64.wrap (zi (3 * k) + 3) = zi (3 * (k + 1)); rw [IntKind.wrap_i64]; unfold zi; omega)
    · have h1 : (s .o).length ≤ 3 * k := h1
      cbv
      refine safe (fun i _ => ⟨_, rfl⟩) ?_
      exact ⟨_, .ret (.refl _), hr _ (by show (bytesN _ _).length ≤ _; rw [bytesN_len]; dsimp only; omega)⟩
end Go.Proofs.Ytgjlkcdnlndlnaa
/- Times as texts: walked as far as entries want. -/
namespace Go.Proofs.Ytgjlkcdnlndlnaa
open Go Go.Proofs.Ytgjlkcdnlndlnaa.Sx F
set_option linter.unusedVariables false
set_option linter.unusedSimpArgs false
theorem digs_len_ge : ∀ (k n : Nat), 10 ^ k ≤ n → k + 1 ≤ (digs n).length
  | 0, n, h => digs_pos n
  | k + 1, n, h => by
    have h10 : 10 ≤ n := Nat.le_trans (show 10 ^ 1 ≤ 10 ^ (k + 1) from Nat.pow_le_pow_right (by decide) (by omega)) h
    rw [digs_ge h10, List.length_append]
    have := digs_len_ge k (n / 10) (by rw [Nat.le_div_iff_mul_le (by decide)]; rw [Nat.pow_succ] at h; exact h)
    simp only [List.length_cons, List.length_nil]
    omega
theorem dch_48 : ∀ x : Fin 10, dch (x.1 : Nat) = 48 → x.1 = 0 := by decide
theorem digs_zero : ∀ (n : Nat), (∀ i, 1 ≤ i → i < (digs n).length → (digs n).getD i 0 = 48) → ∃ a, n = a * 10 ^ ((digs n).length - 1) := by
  intro n
  induction n using Nat.strongRecOn with
  | ind n ih =>
    intro h
    by_cases q : n < 10
    · exact ⟨n, by rw [digs_lt q]; simp⟩
    · have q : 10 ≤ n := by omega
      have e := digs_ge q
      have hl : (digs n).length = (digs (n / 10)).length + 1 := by rw [e, List.length_append]; rfl
      have hp := digs_pos (n / 10)
      have hlast : dch (n % 10 : Nat) = 48 := by
        have := h (digs (n / 10)).length hp (by omega)
        rw [e, List.getD_eq_getElem?_getD, List.getElem?_append_right (Nat.le_refl _)] at this
        simpa using this
      have hm : n % 10 = 0 := dch_48 ⟨n % 10, by omega⟩ hlast
      obtain ⟨a, ha⟩ := ih (n / 10) (by omega) fun i hi1 hi2 => by
        have := h i hi1 (by omega)
        rw [e, List.getD_eq_getElem?_getD, List.getElem?_append_left hi2, ← List.getD_eq_getElem?_getD] at this
        exact this
      refine ⟨a, ?_⟩
      have hn : n = n / 10 * 10 := by omega
      have hpow : 10 ^ ((digs n).length - 1) = 10 ^ ((digs (n / 10)).length - 1) * 10 := by
        rw [← Nat.pow_succ]; congr 1; omega
      rw [hpow, ← Nat.mul_assoc, ← ha]
      exact hn
/-- The digits behind the point. -/
def fracS (nn : Int) : List UInt8 := (digs (1000000000 + nn).toNat).drop 1
theorem frac_len {nn : Int} (h : 0 < nn ∧ nn < 1000000000) : (digs (1000000000 + nn).toNat).length = 10 := by
  have h1 := digs_len 9 (1000000000 + nn).toNat (by show _ < 10000000000; omega)
  have h2 := digs_len_ge 9 (1000000000 + nn).toNat (by show 1000000000 ≤ _; omega)
  omega
theorem frac_some {nn : Int} (h : 0 < nn ∧ nn < 1000000000) : ∃ i, i < 9 ∧ (fracS nn).getD i 0 ≠ 48 := by
  refine Classical.byContradiction fun no => ?_
  have hl := frac_len h
  obtain ⟨a, ha⟩ := digs_zero (1000000000 + nn).toNat fun i h1 h2 => by
    refine Classical.byContradiction fun q => no ⟨i - 1, by omega, ?_⟩
    unfold fracS
    rw [getD_drop, show 1 + (i - 1) = i by omega]
    exact q
  rw [hl] at ha
  have ha : (1000000000 + nn).toNat = a * 1000000000 := ha
  omega
theorem textstamp_c (s n : Th Int) (h : StampOk (s .o) (n .o)) {d : Nat} {K : ARes → BL → Prop} (hr : ∀ t : Th (List UInt8), (t .o).length ≤ 100 → K (.ret (.str t)) .nil) : CallAt PT r1_TextStamp [stampAv s n] d .nil K := by
  obtain ⟨s1, s2, n1, n2⟩ := h
  refine CallAt.res ?_
  refine r1_TextStamp.of rfl rfl ?_
  cbv
  refine br_dec (fun q1 => ?_) (fun q1 => ?_)
  all_goals cbv
  focus
    refine br_dec (fun q2 => ?_) (fun q2 => ?_)
    all_goals cbv
    · rw [show IntKind.i64.wrap (IntKind.i64.wrap (0 - s .o) - 1) = 0 - s .o - 1 by rw [IntKind.wrap_i64, IntKind.wrap_i64]; omega, show IntKind.i64.wrap (1000000000 - n .o) = 1000000000 - n .o by rw [IntKind.wrap_i64]; omega]
      refine digits_c _ (by (try dsimp only); omega) fun t ht => ?_
      have htl : (t .o).length ≤ 19 := by rw [ht]; exact digs63 (by (try dsimp only); omega)
      cbv
      refine safe (by simp only [List.length_append, List.length_cons, List.length_nil]; omega) ?_
      ((try refine br_rev ?_); (first | refine br_dec (fun q3 => ?_) (fun q3 => ?_) | refine br_ndec (fun q3 => ?_) (fun q3 => ?_) | refine br_nbool (fun q3 => ?_) (fun q3 => ?_) | refine br_bool (fun q3 => ?_) (fun q3 => ?_)); all_goals (try dsimp only at q3); all_goals (try with_reducible replace q3 := zi_lt.1 q3); all_goals (try with_reducible replace q3 := not_zlt q3))
      all_goals cbv
      focus exact ⟨_, .ret (.refl _), hr _ (by simp only [List.length_append, List.length_cons, List.length_nil]; omega)⟩
      have hn : 0 < (1000000000 - n .o) ∧ (1000000000 - n .o) < 1000000000 := by (try dsimp only at q3); omega
      have hfl : (fracS ((1000000000 - n .o))).length = 9 := by unfold fracS; rw [List.length_drop, frac_len hn]
      rw [show IntKind.i64.wrap (1000000000 + (1000000000 - n .o)) = 1000000000 + (1000000000 - n .o) by rw [IntKind.wrap_i64]; omega]
      refine digits_c _ (by (try dsimp only); omega) fun u hu => ?_
      have hu : u .o = digs (1000000000 + (1000000000 - n .o)).toNat := hu
      have hul : (u .o).length = 10 := by rw [hu]; exact frac_len hn
      cbv
      refine safe ⟨by decide, by (try dsimp only); rw [hul]; decide, Int.le_refl _⟩ ?_
      refine loop_at (X := Nat) 1000 [6] [] (fun _ j => .cons 7 (.str fun _ => (fracS ((1000000000 - n .o))).take j) .nil) (fun _ _ => .nil) (fun j => j ≤ 9 ∧ ∃ i, i < j ∧ (fracS ((1000000000 - n .o))).getD i 0 ≠ 48) (fun j => j) 9 ?_ ⟨Nat.le_refl _, frac_some hn⟩ ?_
      · cbv
        (repeat' (first | exact True.intro | exact Same.refl _ | exact SameB.refl _ | exact ⟨rfl⟩ | exact Same.int rfl | exact Same.str rfl | exact Same.bool rfl | (refine Same.int ?_; simp only [List.length_append, List.length_cons, List.length_nil, zi]; omega) | (refine SameB.row' rfl fun i hi => ?_; first | rfl | exact absurd hi (Nat.not_lt_zero _)) | refine And.intro ?_ ?_ | refine SameB.cells ?_ | exact SameC.nil | refine SameC.cons ?_ ?_ | exact Same.nsl rfl | exact Same.tt rfl | exact Same.ff rfl))
        all_goals exact Same.str (by show List.drop 1 (List.take (zi (u .o).length).toNat (u .o)) = List.take 9 (fracS ((1000000000 - n .o))); rw [zi_toNat, List.take_length, List.take_of_length_le (by rw [hfl]; exact Nat.le_refl _), hu]; rfl)
      · rintro j ⟨hj, i, hi, hne⟩
        have htk : ((fracS ((1000000000 - n .o))).take j).length = j := by rw [List.length_take]; omega
        have hw : IntKind.i64.wrap (zi ((fracS ((1000000000 - n .o))).take j).length - 1) = zi (j - 1) := by rw [htk, IntKind.wrap_i64]; unfold zi; omega
        cbv
        rw [hw]
        refine safe ⟨zi_nonneg _, zi_lt.2 (by (try dsimp only); rw [htk]; omega)⟩ ?_
        ((try refine br_rev ?_); (first | refine br_dec (fun q4 => ?_) (fun q4 => ?_) | refine br_ndec (fun q4 => ?_) (fun q4 => ?_) | refine br_nbool (fun q4 => ?_) (fun q4 => ?_) | refine br_bool (fun q4 => ?_) (fun q4 => ?_)); all_goals (try dsimp only at q4); all_goals (try with_reducible replace q4 := zi_lt.1 q4); all_goals (try with_reducible replace q4 := not_zlt q4))
        all_goals cbv
        · have q4 : zi ((List.take j (fracS ((1000000000 - n .o)))).getD (zi (j - 1)).toNat 0).toNat = zi (48 : UInt8).toNat := q4
          have q4 : (List.take j (fracS ((1000000000 - n .o)))).getD (zi (j - 1)).toNat 0 = 48 := UInt8.toNat_inj.1 (zi_inj.1 q4)
          rw [zi_toNat, getD_take _ _ _ _ (by omega)] at q4
          rw [hw]
          refine safe ⟨Int.le_refl _, zi_nonneg _, zi_le.2 (by (try dsimp only); rw [htk]; omega)⟩ ?_
          refine ⟨j - 1, ⟨by omega, i, ?_, hne⟩, by omega, ?_⟩
          · rcases Nat.lt_or_ge i (j - 1) with q | q
            · exact q
            · exact (hne (by rw [show i = j - 1 by omega]; exact q4)).elim
          · cbv
            (repeat' (first | exact True.intro | exact Same.refl _ | exact SameB.refl _ | exact ⟨rfl⟩ | exact Same.int rfl | exact Same.str rfl | exact Same.bool rfl | (refine Same.int ?_; simp only [List.length_append, List.length_cons, List.length_nil, zi]; omega) | (refine SameB.row' rfl fun i hi => ?_; first | rfl | exact absurd hi (Nat.not_lt_zero _)) | refine And.intro ?_ ?_ | refine SameB.cells ?_ | exact SameC.nil | refine SameC.cons ?_ ?_ | exact Same.nsl rfl | exact Same.tt rfl | exact Same.ff rfl))
            all_goals exact Same.str (by show List.drop 0 (List.take (zi (j - 1)).toNat (List.take j (fracS ((1000000000 - n .o))))) = List.take (j - 1) (fracS ((1000000000 - n .o))); rw [zi_toNat, List.drop_zero, List.take_take, Nat.min_eq_left (by omega)])
        · refine safe (by simp only [List.length_append, List.length_cons, List.length_nil]; omega) ?_
          refine safe (by simp only [List.length_append, List.length_cons, List.length_nil, htk]; omega) ?_
          exact ⟨_, .ret (.refl _), hr _ (by simp only [List.length_append, List.length_cons, List.length_nil, htk]; omega)⟩
    · rw [show IntKind.i64.wrap (0 - s .o) = 0 - s .o by rw [IntKind.wrap_i64]; omega]
      refine digits_c _ (by (try dsimp only); omega) fun t ht => ?_
      have htl : (t .o).length ≤ 19 := by rw [ht]; exact digs63 (by (try dsimp only); omega)
      cbv
      refine safe (by simp only [List.length_append, List.length_cons, List.length_nil]; omega) ?_
      ((try refine br_rev ?_); (first | refine br_dec (fun q3 => ?_) (fun q3 => ?_) | refine br_ndec (fun q3 => ?_) (fun q3 => ?_) | refine br_nbool (fun q3 => ?_) (fun q3 => ?_) | refine br_bool (fun q3 => ?_) (fun q3 => ?_)); all_goals (try dsimp only at q3); all_goals (try with_reducible replace q3 := zi_lt.1 q3); all_goals (try with_reducible replace q3 := not_zlt q3))
      all_goals cbv
      focus exact ⟨_, .ret (.refl _), hr _ (by simp only [List.length_append, List.length_cons, List.length_nil]; omega)⟩
      exact absurd q3 (by (try dsimp only); omega)
  refine digits_c _ (by (try dsimp only); omega) fun t ht => ?_
  have htl : (t .o).length ≤ 19 := by rw [ht]; exact digs63 (by (try dsimp only); omega)
  cbv
  refine safe (by simp only [List.length_append, List.length_cons, List.length_nil]; omega) ?_
  ((try refine br_rev ?_); (first | refine br_dec (fun q3 => ?_) (fun q3 => ?_) | refine br_ndec (fun q3 => ?_) (fun q3 => ?_) | refine br_nbool (fun q3 => ?_) (fun q3 => ?_) | refine br_bool (fun q3 => ?_) (fun q3 => ?_)); all_goals (try dsimp only at q3); all_goals (try with_reducible replace q3 := zi_lt.1 q3); all_goals (try with_reducible replace q3 := not_zlt q3))
  all_goals cbv
  focus exact ⟨_, .ret (.refl _), hr _ (by simp only [List.length_append, List.length_cons, List.length_nil]; omega)⟩
  have hn : 0 < n .o ∧ n .o < 1000000000 := by (try dsimp only at q3); omega
  have hfl : (fracS (n .o)).length = 9 := by unfold fracS; rw [List.length_drop, frac_len hn]
  rw [show IntKind.i64.wrap (1000000000 + n .o) = 1000000000 + n .o by rw [IntKind.wrap_i64]; omega]
  refine digits_c _ (by (try dsimp only); omega) fun u hu => ?_
  have hu : u .o = digs (1000000000 + n .o).toNat := hu
  have hul : (u .o).length = 10 := by rw [hu]; exact frac_len hn
  cbv
  refine safe ⟨by decide, by (try dsimp only); rw [hul]; decide, Int.le_refl _⟩ ?_
  refine loop_at (X := Nat) 1000 [6] [] (fun _ j => .cons 7 (.str fun _ => (fracS (n .o)).take j) .nil) (fun _ _ => .nil) (fun j => j ≤ 9 ∧ ∃ i, i < j ∧ (fracS (n .o)).getD i 0 ≠ 48) (fun j => j) 9 ?_ ⟨Nat.le_refl _, frac_some hn⟩ ?_
  · cbv
    (repeat' (first | exact True.intro | exact Same.refl _ | exact SameB.refl _ | exact ⟨rfl⟩ | exact Same.int rfl | exact Same.str rfl | exact Same.bool rfl | (refine Same.int ?_; simp only [List.length_append, List.length_cons, List.length_nil, zi]; omega) | (refine SameB.row' rfl fun i hi => ?_; first | rfl | exact absurd hi (Nat.not_lt_zero _)) | refine And.intro ?_ ?_ | refine SameB.cells ?_ | exact SameC.nil | refine SameC.cons ?_ ?_ | exact Same.nsl rfl | exact Same.tt rfl | exact Same.ff rfl))
    all_goals exact Same.str (by show List.drop 1 (List.take (zi (u .o).length).toNat (u .o)) = List.take 9 (fracS (n .o)); rw [zi_toNat, List.take_length, List.take_of_length_le (by rw [hfl]; exact Nat.le_refl _), hu]; rfl)
  · rintro j ⟨hj, i, hi, hne⟩
    have htk : ((fracS (n .o)).take j).length = j := by rw [List.length_take]; omega
    have hw : IntKind.i64.wrap (zi ((fracS (n .o)).take j).length - 1) = zi (j - 1) := by rw [htk, IntKind.wrap_i64]; unfold zi; omega
    cbv
    rw [hw]
    refine safe ⟨zi_nonneg _, zi_lt.2 (by (try dsimp only); rw [htk]; omega)⟩ ?_
    ((try refine br_rev ?_); (first | refine br_dec (fun q4 => ?_) (fun q4 => ?_) | refine br_ndec (fun q4 => ?_) (fun q4 => ?_) | refine br_nbool (fun q4 => ?_) (fun q4 => ?_) | refine br_bool (fun q4 => ?_) (fun q4 => ?_)); all_goals (try dsimp only at q4); all_goals (try with_reducible replace q4 := zi_lt.1 q4); all_goals (try with_reducible replace q4 := not_zlt q4))
    all_goals cbv
    · have q4 : zi ((List.take j (fracS (n .o))).getD (zi (j - 1)).toNat 0).toNat = zi (48 : UInt8).toNat := q4
      have q4 : (List.take j (fracS (n .o))).getD (zi (j - 1)).toNat 0 = 48 := UInt8.toNat_inj.1 (zi_inj.1 q4)
      rw [zi_toNat, getD_take _ _ _ _ (by omega)] at q4
      rw [hw]
      refine safe ⟨Int.le_refl _, zi_nonneg _, zi_le.2 (by (try dsimp only); rw [htk]; omega)⟩ ?_
      refine ⟨j - 1, ⟨by omega, i, ?_, hne⟩, by omega, ?_⟩
      · rcases Nat.lt_or_ge i (j - 1) with q | q
        · exact q
        · exact (hne (by rw [show i = j - 1 by omega]; exact q4)).elim
      · cbv
        (repeat' (first | exact True.intro | exact Same.refl _ | exact SameB.refl _ | exact ⟨rfl⟩ | exact Same.int rfl | exact Same.str rfl | exact Same.bool rfl | (refine Same.int ?_; simp only [List.length_append, List.length_cons, List.length_nil, zi]; omega) | (refine SameB.row' rfl fun i hi => ?_; first | rfl | exact absurd hi (Nat.not_lt_zero _)) | refine And.intro ?_ ?_ | refine SameB.cells ?_ | exact SameC.nil | refine SameC.cons ?_ ?_ | exact Same.nsl rfl | exact Same.tt rfl | exact Same.ff rfl))
        all_goals exact Same.str (by show List.drop 0 (List.take (zi (j - 1)).toNat (List.take j (fracS (n .o)))) = List.take (j - 1) (fracS (n .o)); rw [zi_toNat, List.drop_zero, List.take_take, Nat.min_eq_left (by omega)])
    · refine safe (by simp only [List.length_append, List.length_cons, List.length_nil]; omega) ?_
      refine safe (by simp only [List.length_append, List.length_cons, List.length_nil, htk]; omega) ?_
      exact ⟨_, .ret (.refl _), hr _ (by simp only [List.length_append, List.length_cons, List.length_nil, htk]; omega)⟩
end Go.Proofs.Ytgjlkcdnlndlnaa
/- Records of names with values: walked as far as entries want. -/
namespace Go.Proofs.Ytgjlkcdnlndlnaa
open Go Go.Proofs.Ytgjlkcdnlndlnaa.Sx F
set_option linter.unusedVariables false
set_option linter.unusedSimpArgs false
def RecOk (x : Xattr) : Prop := x.name.length ≤ 100000 ∧ x.value.length ≤ 100000
structure RecsOk (l : List Xattr) (n : Nat) : Prop where
  len : l.length ≤ n
  ok : ∀ x ∈ l, RecOk x
theorem RecsOk.nil (n : Nat) : RecsOk [] n := ⟨Nat.zero_le _, fun x hx => by cases hx⟩
theorem RecsOk.one {l : List Xattr} {n : Nat} {x : Xattr} (h : RecsOk l n) (hx : RecOk x) : RecsOk (l ++ [x]) (n + 1) :=
  ⟨by rw [List.length_append]; have := h.len; simp only [List.length_cons, List.length_nil]; omega, fun y hy => by rcases List.mem_append.1 hy with q | q; exact h.ok y q; rw [List.mem_singleton.1 q]; exact hx⟩
theorem RecsOk.mono {l : List Xattr} {n m : Nat} (h : RecsOk l n) (hm : n ≤ m) : RecsOk l m := ⟨Nat.le_trans h.len hm, h.ok⟩
theorem RecsOk.app {l k : List Xattr} {n m : Nat} (h : RecsOk l n) (g : RecsOk k m) : RecsOk (l ++ k) (n + m) :=
  ⟨by rw [List.length_append]; have := h.len; have := g.len; omega, fun y hy => by rcases List.mem_append.1 hy with q | q; exact h.ok y q; exact g.ok y q⟩
theorem RecsOk.at {l : List Xattr} {n : Nat} (h : RecsOk l n) (k : Nat) : RecOk (l.getD k Xattr.z) :=
  getD_all (p := RecOk) ⟨by decide, by decide⟩ l k h.ok
theorem recsx_c (l : Th (List Xattr)) (hl : short (l .o)) (hx : longX (l .o)) {d : Nat} {K : ARes → BL → Prop} (hr : ∀ r : Th (List Xattr), RecsOk (r .o) 64 → K (.ret (xattrs r)) .nil) : CallAt PT r9_RecsXattrs [xattrs l] d .nil K := by
  refine CallAt.res ?_
  refine r9_RecsXattrs.of rfl rfl ?_
  cbv
  refine xsmay9_c l hl hx fun b hb => ?_
  cbv
  refine br_nbool (fun q1 => ?_) (fun q1 => ?_)
  all_goals cbv
  · exact ⟨_, .ret (y := xattrs fun _ => []) (.nsl rfl), hr _ (.nil _)⟩
  have ok := hb.1 q1
  have hlen := ok.len
  refine nil_tmp 3 9000 2 (fun i => Xattr.ch fun _ => ([] : List Xattr).getD (i .o) Xattr.z) rfl rfl ?_
  refine loop_at (X := Nat × List Xattr) 1000 [0] [] (fun _ x => .cons 3 (.row 9000) (.cons 4 (.int .i64 fun _ => zi x.1) .nil)) (fun _ x => .cons 9000 (rowB 2 Xattr.ch Xattr.z fun _ => x.2) .nil)
    (fun x => x.1 ≤ (l .o).length ∧ RecsOk x.2 (2 * x.1)) (fun x => (l .o).length - x.1) (0, []) ?_ ⟨by simp, .nil _⟩ ?_
  · cbv
    (repeat' (first | exact True.intro | exact Same.refl _ | exact SameB.refl _ | exact ⟨rfl⟩ | exact Same.int rfl | exact Same.str rfl | exact Same.bool rfl | (refine Same.int ?_; simp only [List.length_append, List.length_cons, List.length_nil, zi]; omega) | (refine SameB.row' rfl fun i hi => ?_; first | rfl | exact absurd hi (Nat.not_lt_zero _)) | refine And.intro ?_ ?_ | refine SameB.cells ?_ | exact SameC.nil | refine SameC.cons ?_ ?_ | exact Same.nsl rfl | exact Same.tt rfl | exact Same.ff rfl))
  · rintro ⟨k, out⟩ ⟨hk, ho⟩
    dsimp only at hk ho
    have hol := ho.len
    cbv
    refine br_zlt (fun h1 => ?_) (fun h1 => ?_)
    rotate_left
    · have h1 : (l .o).length ≤ k := h1
      cbv
      exact ⟨_, .ret (.refl _), hr (fun _ => out) (ho.mono (by omega))⟩
    · have h1 : k < (l .o).length := h1
      have hxk := ok.to.ok k h1
      have hz := zi_toNat k
      have hn : ((l .o).getD k Xattr.z).name.length ≤ 238 := Nat.le_trans (escS_ge _) hxk.2.1
      have hv : ((l .o).getD k Xattr.z).value.length ≤ 4096 := hxk.2.2.2
      have he := hxk.2.1
      cbv
      dsimp only
      rw [hz]
      refine safe ⟨zi_nonneg _, zi_lt.2 h1⟩ ?_
      refine hasAny1_c _ 61 (by (try dsimp only); omega) fun b2 hb2 => ?_
      cbv
      refine br_nbool (fun q2 => ?_) (fun q2 => ?_)
      all_goals cbv
      · refine safe ⟨zi_nonneg _, zi_lt.2 h1⟩ ?_
        refine safe (by (try dsimp only); rw [hz]; simp only [List.length_cons, List.length_nil]; omega) ?_
        refine safe ⟨zi_nonneg _, zi_lt.2 h1⟩ ?_
        obtain ⟨x1, hx1⟩ : ∃ x1 : Xattr, x1 = ⟨[83, 67, 72, 73, 76, 89, 46, 120, 97, 116, 116, 114, 46] ++ ((l .o).getD (zi k).toNat Xattr.z).name, ((l .o).getD (zi k).toNat Xattr.z).value⟩ := ⟨_, rfl⟩
        refine app_one Xattr.ch Xattr.z out x1 rfl (fun i hi => rfl) rfl (by rw [hx1]; rfl) (by omega) ?_
        have ho1 : RecsOk (out ++ [x1]) (2 * k + 1) := ho.one (by rw [hx1, hz]; exact ⟨by (try dsimp only); rw [List.length_append]; simp only [List.length_cons, List.length_nil]; omega, by (try dsimp only); omega⟩)
        have ho1l := ho1.len
        cbv
        refine safe ⟨zi_nonneg _, zi_lt.2 h1⟩ ?_
        refine safe ⟨zi_nonneg _, zi_lt.2 h1⟩ ?_
        refine r1esc_c _ (by (try dsimp only); rw [hz]; omega) fun e he' => ?_
        have hel : (e .o).length ≤ 238 := by rw [he']; (try dsimp only); rw [hz]; exact he
        cbv
        refine safe (by (try dsimp only); simp only [List.length_cons, List.length_nil]; omega) ?_
        refine sixty1_c _ (by (try dsimp only); rw [hz]; omega) fun u hu => ?_
        have hul : (u .o).length ≤ 16384 := Nat.le_trans hu (by (try dsimp only); rw [hz]; omega)
        cbv
        obtain ⟨x2, hx2⟩ : ∃ x2 : Xattr, x2 = ⟨[76, 73, 66, 65, 82, 67, 72, 73, 86, 69, 46, 120, 97, 116, 116, 114, 46] ++ e .o, u .o⟩ := ⟨_, rfl⟩
        have hr2 : RecOk x2 := by rw [hx2]; exact ⟨by (try dsimp only); rw [List.length_append]; simp only [List.length_cons, List.length_nil]; omega, by (try dsimp only); omega⟩
        refine app_one Xattr.ch Xattr.z (out ++ [x1]) x2 rfl (fun i hi => rfl) rfl (by rw [hx2]; rfl) (by omega) ?_
        cbv
        refine ⟨(k + 1, (out ++ [x1]) ++ [x2]), ⟨h1, (RecsOk.one ho1 hr2).mono (by (try dsimp only); omega)⟩, by show _ - (k + 1) < _ - k; omega, ?_⟩
        cbv
        rw [zi_succ (by omega)]
        (repeat' (first | exact True.intro | exact Same.refl _ | exact SameB.refl _ | exact ⟨rfl⟩ | exact Same.int rfl | exact Same.str rfl | exact Same.bool rfl | (refine Same.int ?_; simp only [List.length_append, List.length_cons, List.length_nil, zi]; omega) | (refine SameB.row' rfl fun i hi => ?_; first | rfl | exact absurd hi (Nat.not_lt_zero _)) | refine And.intro ?_ ?_ | refine SameB.cells ?_ | exact SameC.nil | refine SameC.cons ?_ ?_ | exact Same.nsl rfl | exact Same.tt rfl | exact Same.ff rfl))
      · refine safe ⟨zi_nonneg _, zi_lt.2 h1⟩ ?_
        refine safe ⟨zi_nonneg _, zi_lt.2 h1⟩ ?_
        refine r1esc_c _ (by (try dsimp only); rw [hz]; omega) fun e he' => ?_
        have hel : (e .o).length ≤ 238 := by rw [he']; (try dsimp only); rw [hz]; exact he
        cbv
        refine safe (by (try dsimp only); simp only [List.length_cons, List.length_nil]; omega) ?_
        refine sixty1_c _ (by (try dsimp only); rw [hz]; omega) fun u hu => ?_
        have hul : (u .o).length ≤ 16384 := Nat.le_trans hu (by (try dsimp only); rw [hz]; omega)
        cbv
        obtain ⟨x2, hx2⟩ : ∃ x2 : Xattr, x2 = ⟨[76, 73, 66, 65, 82, 67, 72, 73, 86, 69, 46, 120, 97, 116, 116, 114, 46] ++ e .o, u .o⟩ := ⟨_, rfl⟩
        have hr2 : RecOk x2 := by rw [hx2]; exact ⟨by (try dsimp only); rw [List.length_append]; simp only [List.length_cons, List.length_nil]; omega, by (try dsimp only); omega⟩
        refine app_one Xattr.ch Xattr.z out x2 rfl (fun i hi => rfl) rfl (by rw [hx2]; rfl) (by omega) ?_
        cbv
        refine ⟨(k + 1, out ++ [x2]), ⟨h1, (RecsOk.one ho hr2).mono (by (try dsimp only); omega)⟩, by show _ - (k + 1) < _ - k; omega, ?_⟩
        cbv
        rw [zi_succ (by omega)]
        (repeat' (first | exact True.intro | exact Same.refl _ | exact SameB.refl _ | exact ⟨rfl⟩ | exact Same.int rfl | exact Same.str rfl | exact Same.bool rfl | (refine Same.int ?_; simp only [List.length_append, List.length_cons, List.length_nil, zi]; omega) | (refine SameB.row' rfl fun i hi => ?_; first | rfl | exact absurd hi (Nat.not_lt_zero _)) | refine And.intro ?_ ?_ | refine SameB.cells ?_ | exact SameC.nil | refine SameC.cons ?_ ?_ | exact Same.nsl rfl | exact Same.tt rfl | exact Same.ff rfl))
end Go.Proofs.Ytgjlkcdnlndlnaa
/- The pieces of a text between bytes: plain. -/
namespace Go.Proofs.Ytgjlkcdnlndlnaa
open Go Go.Proofs.Ytgjlkcdnlndlnaa.Sx
set_option linter.unusedVariables false
set_option linter.unusedSimpArgs false
/-- The pieces of a text between the bytes c. -/
def splitC (c : UInt8) : List UInt8 → List (List UInt8)
  | [] => [[]]
  | x :: r => if x = c then [] :: splitC c r else match splitC c r with
    | [] => [[x]]
    | h :: t => (x :: h) :: t
theorem splitC_len (c : UInt8) (s : List UInt8) : (splitC c s).length = s.count c + 1 := by
  induction s with
  | nil => rfl
  | cons x r ih =>
    unfold splitC
    by_cases h : x = c
    · rw [if_pos h, List.length_cons, ih, h, List.count_cons_self]
    · rw [if_neg h, List.count_cons_of_ne h]
      cases hs : splitC c r with
      | nil => rw [hs] at ih; simp at ih
      | cons a t => rw [hs] at ih; simpa using ih
theorem splitC_no {c : UInt8} : ∀ {s : List UInt8}, c ∉ s → splitC c s = [s]
  | [], _ => rfl
  | x :: r, h => by
    unfold splitC
    rw [if_neg (fun e => h (by simp [e])), splitC_no (fun q => h (by simp [q]))]
theorem splitC_at {c : UInt8} : ∀ (a b : List UInt8), c ∉ a → splitC c (a ++ c :: b) = a :: splitC c b
  | [], b, _ => by
    show splitC c (c :: b) = _
    rw [splitC, if_pos rfl]
  | x :: r, b, h => by
    show splitC c (x :: (r ++ c :: b)) = _
    rw [splitC, if_neg (fun e => h (by simp [e])), splitC_at r b (fun q => h (by simp [q]))]
theorem mem_split {c : UInt8} : ∀ {s : List UInt8} {p : List UInt8} {x : UInt8}, p ∈ splitC c s → x ∈ p → x ∈ s ∧ x ≠ c
  | [], p, x, hp, hx => by
    have : p = [] := by simpa [splitC] using hp
    subst this
    cases hx
  | y :: r, p, x, hp, hx => by
    unfold splitC at hp
    by_cases h : y = c
    · rw [if_pos h] at hp
      rcases List.mem_cons.1 hp with rfl | hp
      · cases hx
      · have := mem_split hp hx
        exact ⟨by simp [this.1], this.2⟩
    · rw [if_neg h] at hp
      cases hs : splitC c r with
      | nil => have := splitC_len c r; rw [hs] at this; simp at this
      | cons a t =>
        rw [hs] at hp
        rcases List.mem_cons.1 hp with rfl | hp
        · rcases List.mem_cons.1 hx with rfl | hx
          · exact ⟨by simp, h⟩
          · have := mem_split (c := c) (s := r) (p := a) (x := x) (by rw [hs]; simp) hx
            exact ⟨by simp [this.1], this.2⟩
        · have := mem_split (c := c) (s := r) (p := p) (x := x) (by rw [hs]; simp [hp]) hx
          exact ⟨by simp [this.1], this.2⟩
theorem split_mem {c : UInt8} : ∀ {s : List UInt8} {x : UInt8}, x ∈ s → x ≠ c → ∃ p ∈ splitC c s, x ∈ p
  | [], x, hx, _ => by cases hx
  | y :: r, x, hx, hc => by
    unfold splitC
    by_cases h : y = c
    · rw [if_pos h]
      rcases List.mem_cons.1 hx with rfl | hx
      · exact absurd h hc
      · obtain ⟨p, hp, hxp⟩ := split_mem hx hc
        exact ⟨p, by simp [hp], hxp⟩
    · rw [if_neg h]
      cases hs : splitC c r with
      | nil => have := splitC_len c r; rw [hs] at this; simp at this
      | cons a t =>
        rcases List.mem_cons.1 hx with rfl | hx
        · exact ⟨x :: a, by simp, by simp⟩
        · obtain ⟨p, hp, hxp⟩ := split_mem hx hc
          rw [hs] at hp
          rcases List.mem_cons.1 hp with rfl | hp
          · exact ⟨y :: p, by simp, by simp [hxp]⟩
          · exact ⟨p, by simp [hp], hxp⟩
def nameB (x : List UInt8) : Bool := decide (x ≠ []) && decide (x.length ≤ 255) && decide (x ≠ [46]) && decide (x ≠ [46, 46])
def pathS (s : List UInt8) : Bool := (splitC 47 s).all nameB && decide (s.length ≤ 4096) && decide ((splitC 47 s).length ≤ 64) && !decide ((0 : UInt8) ∈ s)
def name15 (x : List UInt8) : Bool := nameB x && !decide ((0 : UInt8) ∈ x) && !decide ((47 : UInt8) ∈ x)
def path15 (s : List UInt8) : Bool := decide (s ≠ []) && decide (s.length ≤ 4096) && (splitC 47 s).all name15 && decide ((splitC 47 s).length ≤ 64)
theorem path15_eq (s : List UInt8) : path15 s = pathS s := by
  rw [Bool.eq_iff_iff]
  unfold path15 pathS
  simp only [Bool.and_eq_true, decide_eq_true_eq, List.all_eq_true, Bool.not_eq_true', decide_eq_false_iff_not]
  constructor
  · rintro ⟨⟨⟨h1, h2⟩, h3⟩, h4⟩
    refine ⟨⟨⟨fun x hx => ?_, h2⟩, h4⟩, fun h0 => ?_⟩
    · have := h3 x hx
      unfold name15 at this
      simp only [Bool.and_eq_true] at this
      exact this.1.1
    · obtain ⟨p, hp, hx⟩ := split_mem (c := 47) h0 (by decide)
      have := h3 p hp
      unfold name15 at this
      simp only [Bool.and_eq_true, Bool.not_eq_true', decide_eq_false_iff_not] at this
      exact this.1.2 hx
  · rintro ⟨⟨⟨h1, h2⟩, h3⟩, h4⟩
    refine ⟨⟨⟨fun e => ?_, h2⟩, fun x hx => ?_⟩, h3⟩
    · subst e
      have := h1 [] (by simp [splitC])
      simp [nameB] at this
    · unfold name15
      simp only [Bool.and_eq_true, Bool.not_eq_true', decide_eq_false_iff_not]
      exact ⟨⟨h1 x hx, fun q => h4 (mem_split hx q).1⟩, fun q => (mem_split hx q).2 rfl⟩
end Go.Proofs.Ytgjlkcdnlndlnaa
/- Splitting, paths, where targets lead: walked. -/
namespace Go.Proofs.Ytgjlkcdnlndlnaa
open Go Go.Proofs.Ytgjlkcdnlndlnaa.Sx F
set_option linter.unusedVariables false
set_option linter.unusedSimpArgs false
theorem split_el {c : UInt8} : ∀ {s p : List UInt8}, p ∈ splitC c s → p.length ≤ s.length
  | [], p, hp => by
    have : p = [] := by simpa [splitC] using hp
    subst this; exact Nat.le_refl _
  | y :: r, p, hp => by
    unfold splitC at hp
    by_cases h : y = c
    · rw [if_pos h] at hp
      rcases List.mem_cons.1 hp with rfl | hp
      · exact Nat.zero_le _
      · have := split_el hp; simp only [List.length_cons]; omega
    · rw [if_neg h] at hp
      cases hs : splitC c r with
      | nil => have := splitC_len c r; rw [hs] at this; simp at this
      | cons a t =>
        rw [hs] at hp
        rcases List.mem_cons.1 hp with rfl | hp
        · have := split_el (c := c) (s := r) (p := a) (by rw [hs]; simp)
          simp only [List.length_cons]; omega
        · have := split_el (c := c) (s := r) (p := p) (by rw [hs]; simp [hp])
          simp only [List.length_cons]; omega
theorem byte_is {x : UInt8} {k : Nat} (hk : k < 256) (h : zi x.toNat = (k : Int)) : x = UInt8.ofNat k := by
  have : x.toNat = k := by unfold zi at h; omega
  rw [← this]; simp
/-- gripsackref15.names. -/
theorem names_c (s : Th (List UInt8)) (hs : (s .o).length ≤ 1099511627776) {d : Nat} {K : ARes → BL → Prop} (hr : ∀ l : Th (List (List UInt8)), l .o = splitC 47 (s .o) → K (.ret (strs l)) .nil) : CallAt PT r15_names [.str s] d .nil K := by
  refine CallAt.res ?_
  refine r15_names.of rfl rfl ?_
  cbv
  refine nil_tmp 3 9000 1 (fun i => strCh fun _ => ([] : List (List UInt8)).getD (i .o) []) rfl rfl ?_
  refine loop_at (X := Nat × Nat × List (List UInt8)) 1000 [0] [] (fun _ x => .cons 3 (.row 9000) (.cons 4 (.int .i64 fun _ => zi x.2.1) (.cons 5 (.int .i64 fun _ => zi x.1) .nil))) (fun _ x => .cons 9000 (rowB 1 strCh [] fun _ => x.2.2) .nil)
    (fun x => x.2.2.length ≤ x.1 ∧ ((x.1 ≤ (s .o).length ∧ x.2.1 ≤ x.1 ∧ splitC 47 (s .o) = x.2.2 ++ splitC 47 ((s .o).drop x.2.1) ∧ (47 : UInt8) ∉ ((s .o).take x.1).drop x.2.1) ∨ (x.1 = (s .o).length + 1 ∧ splitC 47 (s .o) = x.2.2)))
    (fun x => (s .o).length + 1 - x.1) (0, 0, []) ?_ ⟨Nat.le_refl _, .inl ⟨Nat.zero_le _, Nat.le_refl _, rfl, by simp⟩⟩ ?_
  · cbv
    (repeat' (first | exact True.intro | exact Same.refl _ | exact SameB.refl _ | exact ⟨rfl⟩ | exact Same.int rfl | exact Same.str rfl | exact Same.bool rfl | (refine Same.int ?_; simp only [List.length_append, List.length_cons, List.length_nil, zi]; omega) | (refine SameB.row' rfl fun i hi => ?_; first | rfl | exact absurd hi (Nat.not_lt_zero _)) | refine And.intro ?_ ?_ | refine SameB.cells ?_ | exact SameC.nil | refine SameC.cons ?_ ?_ | exact Same.nsl rfl | exact Same.tt rfl | exact Same.ff rfl))
  · rintro ⟨i, from', ps⟩ ⟨hpl, hR⟩
    dsimp only at hpl hR
    cbv
    refine br_dec (fun h1 => ?_) (fun h1 => ?_)
    · have h1 : i ≤ (s .o).length := by have : zi i ≤ zi (s .o).length := h1; unfold zi at this; omega
      rcases hR with ⟨_, hfi, hsp, hno⟩ | ⟨q, _⟩
      rotate_left
      · omega
      have hzi : (zi i).toNat = i := zi_toNat i
      have hzf : (zi from').toNat = from' := zi_toNat from'
      have hsl : True → 0 ≤ zi from' ∧ zi from' ≤ zi i ∧ zi i ≤ zi (s .o).length := fun _ => by unfold zi; omega
      have add : (i = (s .o).length ∨ ∃ h : i < (s .o).length, (s .o)[i] = 47) → ((ps ++ [List.drop (zi from').toNat (List.take (zi i).toNat (s .o))]).length ≤ i + 1 ∧
          ((i + 1 ≤ (s .o).length ∧ i + 1 ≤ i + 1 ∧ splitC 47 (s .o) = (ps ++ [List.drop (zi from').toNat (List.take (zi i).toNat (s .o))]) ++ splitC 47 ((s .o).drop (i + 1)) ∧ (47 : UInt8) ∉ ((s .o).take (i + 1)).drop (i + 1)) ∨ (i + 1 = (s .o).length + 1 ∧ splitC 47 (s .o) = ps ++ [List.drop (zi from').toNat (List.take (zi i).toNat (s .o))]))) := by
        rw [hzi, hzf]
        intro h
        refine ⟨by rw [List.length_append]; simp; omega, ?_⟩
        rcases h with h | ⟨h, hc⟩
        · right
          refine ⟨by omega, ?_⟩
          rw [h, List.take_length] at hno ⊢
          rw [hsp, splitC_no hno]
        · left
          refine ⟨h, Nat.le_refl _, ?_, ?_⟩
          · have e : (s .o).drop from' = ((s .o).take i).drop from' ++ 47 :: (s .o).drop (i + 1) := by
              have e1 : s .o = (s .o).take i ++ 47 :: (s .o).drop (i + 1) := by
                rw [← hc, List.getElem_cons_drop, List.take_append_drop]
              conv => lhs; rw [e1]
              rw [List.drop_append_of_le_length (by rw [List.length_take]; omega)]
            rw [hsp, e, splitC_at _ _ hno, List.append_assoc]; rfl
          · rw [List.drop_take]; simp
      have stay : ∀ h : i < (s .o).length, (s .o)[i] ≠ 47 → (ps.length ≤ i + 1 ∧ ((i + 1 ≤ (s .o).length ∧ from' ≤ i + 1 ∧ splitC 47 (s .o) = ps ++ splitC 47 ((s .o).drop from') ∧ (47 : UInt8) ∉ ((s .o).take (i + 1)).drop from') ∨ (i + 1 = (s .o).length + 1 ∧ splitC 47 (s .o) = ps))) := by
        intro h hc
        refine ⟨by omega, .inl ⟨h, by omega, hsp, ?_⟩⟩
        rw [List.take_add_one, List.getElem?_eq_getElem h, List.drop_append_of_le_length (by rw [List.length_take]; omega)]
        simp only [Option.toList_some, List.mem_append, List.mem_singleton, not_or]
        exact ⟨hno, fun q => hc q.symm⟩
      cbv
      refine br_rev (br_dec (fun h2 => ?_) (fun h2 => ?_))
      · have h2 : i = (s .o).length := by have : zi i = zi (s .o).length := h2; exact zi_inj.1 this
        cbv
        refine ⟨hsl, ?_⟩
        refine app_one strCh [] ps (List.drop (zi from').toNat (List.take (zi i).toNat (s .o))) rfl (fun i hi => rfl) rfl rfl (by omega) ?_
        cbv
        refine ⟨(i + 1, i + 1, ps ++ [List.drop (zi from').toNat (List.take (zi i).toNat (s .o))]), add (.inl h2), by show (s .o).length + 1 - (i + 1) < (s .o).length + 1 - i; omega, ?_⟩
        cbv
        rw [zi_succ (by omega)]
        (repeat' (first | exact True.intro | exact Same.refl _ | exact SameB.refl _ | exact ⟨rfl⟩ | exact Same.int rfl | exact Same.str rfl | exact Same.bool rfl | (refine Same.int ?_; simp only [List.length_append, List.length_cons, List.length_nil, zi]; omega) | (refine SameB.row' rfl fun i hi => ?_; first | rfl | exact absurd hi (Nat.not_lt_zero _)) | refine And.intro ?_ ?_ | refine SameB.cells ?_ | exact SameC.nil | refine SameC.cons ?_ ?_ | exact Same.nsl rfl | exact Same.tt rfl | exact Same.ff rfl))
      · have h2 : i < (s .o).length := by have : ¬ zi i = zi (s .o).length := h2; unfold zi at this; omega
        cbv
        refine safe ⟨zi_nonneg _, zi_lt.2 h2⟩ ?_
        have hby : (s .o).getD (zi i).toNat 0 = (s .o)[i] := by rw [hzi, List.getD_eq_getElem?_getD, List.getElem?_eq_getElem h2]; rfl
        refine br_dec (fun h3 => ?_) (fun h3 => ?_)
        · have h3 : (s .o)[i] = 47 := byte_is (k := 47) (by decide) (hby ▸ h3)
          cbv
          refine ⟨hsl, ?_⟩
          refine app_one strCh [] ps (List.drop (zi from').toNat (List.take (zi i).toNat (s .o))) rfl (fun i hi => rfl) rfl rfl (by omega) ?_
          cbv
          refine ⟨(i + 1, i + 1, ps ++ [List.drop (zi from').toNat (List.take (zi i).toNat (s .o))]), add (.inr ⟨h2, h3⟩), by show (s .o).length + 1 - (i + 1) < (s .o).length + 1 - i; omega, ?_⟩
          cbv
          rw [zi_succ (by omega)]
          (repeat' (first | exact True.intro | exact Same.refl _ | exact SameB.refl _ | exact ⟨rfl⟩ | exact Same.int rfl | exact Same.str rfl | exact Same.bool rfl | (refine Same.int ?_; simp only [List.length_append, List.length_cons, List.length_nil, zi]; omega) | (refine SameB.row' rfl fun i hi => ?_; first | rfl | exact absurd hi (Nat.not_lt_zero _)) | refine And.intro ?_ ?_ | refine SameB.cells ?_ | exact SameC.nil | refine SameC.cons ?_ ?_ | exact Same.nsl rfl | exact Same.tt rfl | exact Same.ff rfl))
        · have h3 : (s .o)[i] ≠ 47 := fun q => h3 (by show zi ((s .o).getD (zi i).toNat 0).toNat = 47; rw [hby, q]; rfl)
          cbv
          refine ⟨(i + 1, from', ps), stay h2 h3, by show (s .o).length + 1 - (i + 1) < (s .o).length + 1 - i; omega, ?_⟩
          cbv
          rw [zi_succ (by omega)]
          (repeat' (first | exact True.intro | exact Same.refl _ | exact SameB.refl _ | exact ⟨rfl⟩ | exact Same.int rfl | exact Same.str rfl | exact Same.bool rfl | (refine Same.int ?_; simp only [List.length_append, List.length_cons, List.length_nil, zi]; omega) | (refine SameB.row' rfl fun i hi => ?_; first | rfl | exact absurd hi (Nat.not_lt_zero _)) | refine And.intro ?_ ?_ | refine SameB.cells ?_ | exact SameC.nil | refine SameC.cons ?_ ?_ | exact Same.nsl rfl | exact Same.tt rfl | exact Same.ff rfl))
    · have h1 : (s .o).length < i := by have : ¬ zi i ≤ zi (s .o).length := h1; unfold zi at this; omega
      rcases hR with ⟨q, _⟩ | ⟨_, hsp⟩
      · omega
      cbv
      exact ⟨_, .ret (y := strs fun _ => ps) (Same.refl _), hr _ hsp.symm⟩
theorem may15_c (x : Th (List UInt8)) (hs : (x .o).length ≤ 1099511627776) {d : Nat} {K : ARes → BL → Prop} (hr : ∀ b : Th Bool, b .o = name15 (x .o) → K (.ret (.bool b)) .nil) : CallAt PT r15_MayName [.str x] d .nil K := by
  refine CallAt.res ?_
  refine r15_MayName.of rfl rfl ?_
  cbv
  have fin : ∀ (b : Bool) {y : AV}, b = name15 (x .o) → Same y (.bool fun _ => b) → ∃ r', SameR (.ret y) r' ∧ K r' .nil := fun b y h1 h2 => ⟨_, .ret h2, hr _ h1⟩
  refine br_rev (br_dec (fun h1 => ?_) (fun h1 => ?_))
  · have h1 : x .o = [] := by have : zi (x .o).length = 0 := h1; unfold zi at this; exact List.eq_nil_of_length_eq_zero (by omega)
    cbv
    exact fin false (by unfold name15 nameB; simp [h1]) (.ff rfl)
  have h1 : x .o ≠ [] := fun q => h1 (by show zi (x .o).length = 0; rw [q]; rfl)
  cbv
  refine br_rev (br_dec (fun h2 => ?_) (fun h2 => ?_))
  · have h2 : ¬ (x .o).length ≤ 255 := by have : 255 < zi (x .o).length := h2; unfold zi at this; omega
    cbv
    exact fin false (by unfold name15 nameB; simp [h2]) (.ff rfl)
  have h2 : (x .o).length ≤ 255 := by have : ¬ 255 < zi (x .o).length := h2; unfold zi at this; omega
  cbv
  refine br_rev (br_dec (fun h3 => ?_) (fun h3 => ?_))
  · have h3 : x .o = [46] := h3
    cbv
    exact fin false (by unfold name15 nameB; simp [h3]) (.ff rfl)
  have h3 : ¬ x .o = [46] := h3
  cbv
  refine br_dec (fun h4 => ?_) (fun h4 => ?_)
  · have h4 : x .o = [46, 46] := h4
    cbv
    exact fin false (by unfold name15 nameB; simp [h4]) (.ff rfl)
  have h4 : ¬ x .o = [46, 46] := h4
  cbv
  have hnb : nameB (x .o) = true := by unfold nameB; simp [h1, h2, h3, h4]
  refine loop_rule (X := Nat) 1000 [0] [] (fun k => .cons 3 (.int .i64 fun _ => zi k) .nil) (fun _ => .nil) (fun k => k ≤ (x .o).length ∧ (0 : UInt8) ∉ (x .o).take k ∧ (47 : UInt8) ∉ (x .o).take k) (fun k => (x .o).length - k) 0 ?_ ⟨Nat.zero_le _, by simp, by simp⟩ ?_
  · cbv
    (repeat' (first | exact True.intro | exact Same.refl _ | exact SameB.refl _ | exact ⟨rfl⟩ | exact Same.int rfl | exact Same.str rfl | exact Same.bool rfl | (refine Same.int ?_; simp only [List.length_append, List.length_cons, List.length_nil, zi]; omega) | (refine SameB.row' rfl fun i hi => ?_; first | rfl | exact absurd hi (Nat.not_lt_zero _)) | refine And.intro ?_ ?_ | refine SameB.cells ?_ | exact SameC.nil | refine SameC.cons ?_ ?_ | exact Same.nsl rfl | exact Same.tt rfl | exact Same.ff rfl))
  · rintro k ⟨hk, n0, n47⟩
    have hz := zi_toNat k
    cbv
    ((try refine br_rev ?_); (first | refine br_dec (fun h5 => ?_) (fun h5 => ?_) | refine br_ndec (fun h5 => ?_) (fun h5 => ?_) | refine br_nbool (fun h5 => ?_) (fun h5 => ?_) | refine br_bool (fun h5 => ?_) (fun h5 => ?_)); all_goals (try dsimp only at h5); all_goals (try with_reducible replace h5 := zi_lt.1 h5); all_goals (try with_reducible replace h5 := not_zlt h5))
    · have hby : (x .o).getD (zi k).toNat 0 = (x .o)[k] := by rw [hz, List.getD_eq_getElem?_getD, List.getElem?_eq_getElem h5]; rfl
      cbv
      refine safe ⟨zi_nonneg _, zi_lt.2 h5⟩ ?_
      refine br_rev (br_dec (fun h6 => ?_) (fun h6 => ?_))
      · have h6 : (x .o)[k] = 0 := byte_is (k := 0) (by decide) (hby ▸ h6)
        cbv
        refine fin false ?_ (.ff rfl)
        have : (0 : UInt8) ∈ x .o := h6 ▸ List.getElem_mem h5
        unfold name15; simp [this]
      · have h6 : (x .o)[k] ≠ 0 := fun q => h6 (by show zi ((x .o).getD (zi k).toNat 0).toNat = 0; rw [hby, q]; rfl)
        cbv
        refine safe ⟨zi_nonneg _, zi_lt.2 h5⟩ ?_
        refine br_dec (fun h7 => ?_) (fun h7 => ?_)
        · have h7 : (x .o)[k] = 47 := byte_is (k := 47) (by decide) (hby ▸ h7)
          cbv
          refine fin false ?_ (.ff rfl)
          have : (47 : UInt8) ∈ x .o := h7 ▸ List.getElem_mem h5
          unfold name15; simp [this]
        · have h7 : (x .o)[k] ≠ 47 := fun q => h7 (by show zi ((x .o).getD (zi k).toNat 0).toNat = 47; rw [hby, q]; rfl)
          cbv
          refine ⟨k + 1, ⟨h5, ?_, ?_⟩, by omega, ?_⟩
          · rw [List.take_add_one, List.getElem?_eq_getElem h5]
            simp only [Option.toList_some, List.mem_append, List.mem_singleton, not_or]
            exact ⟨n0, fun q => h6 q.symm⟩
          · rw [List.take_add_one, List.getElem?_eq_getElem h5]
            simp only [Option.toList_some, List.mem_append, List.mem_singleton, not_or]
            exact ⟨n47, fun q => h7 q.symm⟩
          cbv
          rw [zi_succ (by omega)]
          (repeat' (first | exact True.intro | exact Same.refl _ | exact SameB.refl _ | exact ⟨rfl⟩ | exact Same.int rfl | exact Same.str rfl | exact Same.bool rfl | (refine Same.int ?_; simp only [List.length_append, List.length_cons, List.length_nil, zi]; omega) | (refine SameB.row' rfl fun i hi => ?_; first | rfl | exact absurd hi (Nat.not_lt_zero _)) | refine And.intro ?_ ?_ | refine SameB.cells ?_ | exact SameC.nil | refine SameC.cons ?_ ?_ | exact Same.nsl rfl | exact Same.tt rfl | exact Same.ff rfl))
    · rw [List.take_of_length_le h5] at n0 n47
      cbv
      exact fin true (by unfold name15; simp [hnb, n0, n47]) (.tt rfl)
theorem path15_c (s : Th (List UInt8)) (hs : (s .o).length ≤ 1099511627776) {d : Nat} {K : ARes → BL → Prop} (hr : ∀ b : Th Bool, b .o = pathS (s .o) → K (.ret (.bool b)) .nil) : CallAt PT r15_Path [.str s] d .nil K := by
  refine CallAt.res ?_
  refine r15_Path.of rfl rfl ?_
  cbv
  have fin : ∀ (b : Bool) {y : AV}, b = path15 (s .o) → Same y (.bool fun _ => b) → ∃ r', SameR (.ret y) r' ∧ K r' .nil := fun b y h1 h2 => ⟨_, .ret h2, hr _ (h1.trans (path15_eq _))⟩
  refine br_rev (br_dec (fun h1 => ?_) (fun h1 => ?_))
  · have h1 : s .o = [] := by have : zi (s .o).length = 0 := h1; unfold zi at this; exact List.eq_nil_of_length_eq_zero (by omega)
    cbv
    exact fin false (by unfold path15; simp [h1]) (.ff rfl)
  have h1 : s .o ≠ [] := fun q => h1 (by show zi (s .o).length = 0; rw [q]; rfl)
  cbv
  refine br_dec (fun h2 => ?_) (fun h2 => ?_)
  · have h2 : ¬ (s .o).length ≤ 4096 := by have : 4096 < zi (s .o).length := h2; unfold zi at this; omega
    cbv
    exact fin false (by unfold path15; simp [h2]) (.ff rfl)
  have h2 : (s .o).length ≤ 4096 := by have : ¬ 4096 < zi (s .o).length := h2; unfold zi at this; omega
  cbv
  refine names_c s hs fun l hl => ?_
  have hll : (l .o).length ≤ 4097 := by rw [hl, splitC_len]; have : (s .o).count 47 ≤ _ := List.count_le_length; omega
  have hel : ∀ j, ((l .o).getD j []).length ≤ 4096 := fun j => by
    rw [List.getD_eq_getElem?_getD]
    by_cases hj : j < (l .o).length
    · rw [List.getElem?_eq_getElem hj]
      exact Nat.le_trans (split_el (c := 47) (s := s .o) (by rw [← hl]; exact List.getElem_mem hj)) h2
    · rw [List.getElem?_eq_none (by omega)]; exact Nat.zero_le _
  cbv
  refine loop_rule (X := Nat) 1000 [0, 3] [] (fun k => .cons 4 (.int .i64 fun _ => zi k) .nil) (fun _ => .nil) (fun k => k ≤ (l .o).length ∧ ∀ j, j < k → name15 ((l .o).getD j []) = true) (fun k => (l .o).length - k) 0 ?_ ⟨Nat.zero_le _, fun j hj => by omega⟩ ?_
  · cbv
    (repeat' (first | exact True.intro | exact Same.refl _ | exact SameB.refl _ | exact ⟨rfl⟩ | exact Same.int rfl | exact Same.str rfl | exact Same.bool rfl | (refine Same.int ?_; simp only [List.length_append, List.length_cons, List.length_nil, zi]; omega) | (refine SameB.row' rfl fun i hi => ?_; first | rfl | exact absurd hi (Nat.not_lt_zero _)) | refine And.intro ?_ ?_ | refine SameB.cells ?_ | exact SameC.nil | refine SameC.cons ?_ ?_ | exact Same.nsl rfl | exact Same.tt rfl | exact Same.ff rfl))
  · rintro k ⟨hk, hall⟩
    have hz := zi_toNat k
    cbv
    ((try refine br_rev ?_); (first | refine br_dec (fun h3 => ?_) (fun h3 => ?_) | refine br_ndec (fun h3 => ?_) (fun h3 => ?_) | refine br_nbool (fun h3 => ?_) (fun h3 => ?_) | refine br_bool (fun h3 => ?_) (fun h3 => ?_)); all_goals (try dsimp only at h3); all_goals (try with_reducible replace h3 := zi_lt.1 h3); all_goals (try with_reducible replace h3 := not_zlt h3))
    · cbv
      refine safe ⟨zi_nonneg _, zi_lt.2 h3⟩ ?_
      refine may15_c (fun _ => (l .o).getD (zi k).toNat []) (Nat.le_trans (hel _) (by decide)) fun b hb => ?_
      have hb : b .o = name15 ((l .o).getD k []) := by rw [hb, hz]
      cbv
      refine br_nbool (fun h4 => ?_) (fun h4 => ?_)
      · cbv
        refine fin false ?_ (.ff rfl)
        have hm : (l .o).getD k [] ∈ l .o := by rw [List.getD_eq_getElem?_getD, List.getElem?_eq_getElem h3]; exact List.getElem_mem h3
        have : (splitC 47 (s .o)).all name15 = false := by
          rw [← hl, List.all_eq_false]
          exact ⟨_, hm, by rw [← hb, h4]; decide⟩
        unfold path15
        rw [this]; simp
      · cbv
        refine ⟨k + 1, ⟨h3, fun j hj => ?_⟩, by omega, ?_⟩
        · by_cases e : j = k
          · rw [e, ← hb, h4]
          · exact hall j (by omega)
        · cbv
          rw [zi_succ (by omega)]
          (repeat' (first | exact True.intro | exact Same.refl _ | exact SameB.refl _ | exact ⟨rfl⟩ | exact Same.int rfl | exact Same.str rfl | exact Same.bool rfl | (refine Same.int ?_; simp only [List.length_append, List.length_cons, List.length_nil, zi]; omega) | (refine SameB.row' rfl fun i hi => ?_; first | rfl | exact absurd hi (Nat.not_lt_zero _)) | refine And.intro ?_ ?_ | refine SameB.cells ?_ | exact SameC.nil | refine SameC.cons ?_ ?_ | exact Same.nsl rfl | exact Same.tt rfl | exact Same.ff rfl))
    · have hall' : (splitC 47 (s .o)).all name15 = true := by
        rw [← hl, List.all_eq_true]
        intro x hx
        obtain ⟨i, hi, rfl⟩ := List.mem_iff_getElem.1 hx
        have := hall i (by omega)
        rwa [List.getD_eq_getElem?_getD, List.getElem?_eq_getElem hi] at this
      cbv
      refine ⟨_, .ret (Same.refl _), hr _ ?_⟩
      rw [← path15_eq]
      unfold path15
      rw [hall', ← hl]
      show decide (zi (l .o).length ≤ 64) = _
      simp only [h1, h2, ne_eq, not_false_eq_true, decide_true, Bool.true_and]
      rw [decide_eq_decide]; unfold zi; omega
end Go.Proofs.Ytgjlkcdnlndlnaa
/- What may stand in an entry: walked as far as entries want. -/
namespace Go.Proofs.Ytgjlkcdnlndlnaa
open Go Go.Proofs.Ytgjlkcdnlndlnaa.Sx F
set_option linter.unusedVariables false
set_option linter.unusedSimpArgs false
theorem device_c (k : Th Int) {d : Nat} {K : ARes → BL → Prop} (hr : ∀ b : Th Bool, K (.ret (.bool b)) .nil) : CallAt PT r15_device [.int .i64 k] d .nil K := by
  refine CallAt.res ?_
  refine r15_device.of rfl rfl ?_
  cbv
  (repeat' (first | (refine br_dec (fun h => ?_) (fun h => ?_) <;> cbv) | (refine br_rev (br_dec (fun h => ?_) (fun h => ?_)) <;> cbv) | (refine br_ndec (fun h => ?_) (fun h => ?_) <;> cbv) | (refine br_rev (br_ndec (fun h => ?_) (fun h => ?_)) <;> cbv)))
  all_goals first
    | exact ⟨_, .ret (y := .bool fun _ => true) (.tt rfl), hr _⟩
    | exact ⟨_, .ret (.refl _), hr _⟩
theorem maybody_c (k : Th Int) (dt tg : Th (List UInt8)) (ma mi : Th Int) (ht : (tg .o).length ≤ 1000000) {d : Nat} {K : ARes → BL → Prop} (hr : ∀ b : Th Bool, K (.ret (.bool b)) .nil) : CallAt PT r15_MayBody [.int .i64 k, .str dt, .str tg, .int .i64 ma, .int .i64 mi] d .nil K := by
  refine CallAt.res ?_
  refine r15_MayBody.of rfl rfl ?_
  cbv
  (repeat' (first | (refine br_dec (fun h => ?_) (fun h => ?_) <;> cbv) | (refine br_rev (br_dec (fun h => ?_) (fun h => ?_)) <;> cbv) | (refine br_ndec (fun h => ?_) (fun h => ?_) <;> cbv) | (refine br_rev (br_ndec (fun h => ?_) (fun h => ?_)) <;> cbv)))
  all_goals try exact ⟨_, .ret (y := .bool fun _ => false) (.ff rfl), hr _⟩
  all_goals refine device_c k fun b => ?_
  all_goals cbv
  all_goals first | refine br_nbool (fun q1 => ?_) (fun q1 => ?_) | refine br_rev (br_nbool (fun q1 => ?_) (fun q1 => ?_))
  all_goals cbv
  all_goals try ((repeat' (first | (refine br_dec (fun h => ?_) (fun h => ?_) <;> cbv) | (refine br_rev (br_dec (fun h => ?_) (fun h => ?_)) <;> cbv) | (refine br_ndec (fun h => ?_) (fun h => ?_) <;> cbv) | (refine br_rev (br_ndec (fun h => ?_) (fun h => ?_)) <;> cbv))))
  all_goals try exact ⟨_, .ret (y := .bool fun _ => false) (.ff rfl), hr _⟩
  all_goals first
    | exact ⟨_, .ret (.refl _), hr _⟩
    | (refine path15_c tg (by omega) fun r hr' => ?_
       cbv
       exact ⟨_, .ret (.refl _), hr _⟩)
    | skip
  all_goals
    refine loop_at (X := Nat) 1000 [2] [] (fun _ j => .cons 11 (.int .i64 fun _ => zi j) .nil) (fun _ _ => .nil) (fun j => j ≤ (tg .o).length) (fun j => (tg .o).length - j) 0 ?_ (Nat.zero_le _) ?_
    · cbv
      (repeat' (first | exact True.intro | exact Same.refl _ | exact SameB.refl _ | exact ⟨rfl⟩ | exact Same.int rfl | exact Same.str rfl | exact Same.bool rfl | (refine Same.int ?_; simp only [List.length_append, List.length_cons, List.length_nil, zi]; omega) | (refine SameB.row' rfl fun i hi => ?_; first | rfl | exact absurd hi (Nat.not_lt_zero _)) | refine And.intro ?_ ?_ | refine SameB.cells ?_ | exact SameC.nil | refine SameC.cons ?_ ?_ | exact Same.nsl rfl | exact Same.tt rfl | exact Same.ff rfl))
    · intro j hj
      cbv
      refine br_zlt (fun h1 => ?_) (fun h1 => ?_)
      · have h1 : j < (tg .o).length := h1
        cbv
        refine safe ⟨zi_nonneg _, zi_lt.2 h1⟩ ?_
        refine br_dec (fun h2 => ?_) (fun h2 => ?_)
        · cbv
          exact ⟨_, .ret (y := .bool fun _ => false) (.ff rfl), hr _⟩
        · cbv
          refine ⟨j + 1, h1, by omega, ?_⟩
          cbv
          rw [zi_succ (by omega)]
          (repeat' (first | exact True.intro | exact Same.refl _ | exact SameB.refl _ | exact ⟨rfl⟩ | exact Same.int rfl | exact Same.str rfl | exact Same.bool rfl | (refine Same.int ?_; simp only [List.length_append, List.length_cons, List.length_nil, zi]; omega) | (refine SameB.row' rfl fun i hi => ?_; first | rfl | exact absurd hi (Nat.not_lt_zero _)) | refine And.intro ?_ ?_ | refine SameB.cells ?_ | exact SameC.nil | refine SameC.cons ?_ ?_ | exact Same.nsl rfl | exact Same.tt rfl | exact Same.ff rfl))
      · cbv
        exact ⟨_, .ret (y := .bool fun _ => true) (.tt rfl), hr _⟩
def wordsW : List (List UInt8) := [[117, 99, 104, 103], [117, 97, 112, 112, 110, 100], [110, 111, 100, 117, 109, 112], [111, 112, 97, 113, 117, 101]]
theorem wordsW_len (k : Nat) : (wordsW.getD k []).length ≤ 6 := getD_all (p := fun t : List UInt8 => t.length ≤ 6) (by decide) _ _ (by decide)
theorem textflagsw_c (n : Th Int) {d : Nat} {K : ARes → BL → Prop} (hr : ∀ t : Th (List UInt8), (t .o).length ≤ 40 → K (.ret (.str t)) .nil) : CallAt PT r9_TextFlags [.int .i64 n] d .nil K := by
  refine CallAt.res ?_
  refine r9_TextFlags.of rfl rfl ?_
  cbv
  refine mayflags9_c n fun b hb => ?_
  cbv
  refine br_nbool (fun q1 => ?_) (fun q1 => ?_)
  all_goals cbv
  · exact ⟨_, .ret (.refl _), hr (fun _ => []) (by simp)⟩
  refine loop_at (X := Nat × List UInt8) 1000 [0, 4] [] (fun _ x => .cons 3 (.str fun _ => x.2) (.cons 5 (.int .i64 fun _ => zi x.1) .nil)) (fun _ x => .cons 9 (rowB 1 strCh [] fun _ => wordsW) .nil)
    (fun x => x.1 ≤ 4 ∧ x.2.length ≤ 7 * x.1) (fun x => 4 - x.1) (0, []) ?_ ⟨by simp, by simp⟩ ?_
  · cbv
    refine ⟨by (repeat' (first | exact True.intro | exact Same.refl _ | exact SameB.refl _ | exact ⟨rfl⟩ | exact Same.int rfl | exact Same.str rfl | exact Same.bool rfl | (refine Same.int ?_; simp only [List.length_append, List.length_cons, List.length_nil, zi]; omega) | (refine SameB.row' rfl fun i hi => ?_; first | rfl | exact absurd hi (Nat.not_lt_zero _)) | refine And.intro ?_ ?_ | refine SameB.cells ?_ | exact SameC.nil | refine SameC.cons ?_ ?_ | exact Same.nsl rfl | exact Same.tt rfl | exact Same.ff rfl)), ⟨SameB.row' rfl fun i hi => ?_, True.intro⟩, by (repeat' (first | exact True.intro | exact Same.refl _ | exact SameB.refl _ | exact ⟨rfl⟩ | exact Same.int rfl | exact Same.str rfl | exact Same.bool rfl | (refine Same.int ?_; simp only [List.length_append, List.length_cons, List.length_nil, zi]; omega) | (refine SameB.row' rfl fun i hi => ?_; first | rfl | exact absurd hi (Nat.not_lt_zero _)) | refine And.intro ?_ ?_ | refine SameB.cells ?_ | exact SameC.nil | refine SameC.cons ?_ ?_ | exact Same.nsl rfl | exact Same.tt rfl | exact Same.ff rfl))⟩
    have hi : i < 4 := hi
    match i, hi with
    | 0, _ => rfl
    | 1, _ => rfl
    | 2, _ => rfl
    | 3, _ => rfl
  · rintro ⟨k, s⟩ ⟨hk, hs⟩
    dsimp only at hk hs
    have hz := zi_toNat k
    cbv
    refine br_dec (fun h1 => ?_) (fun h1 => ?_)
    all_goals cbv
    · have h1 : k < 4 := by have h1 : zi k < 4 := h1; unfold zi at h1; omega
      have hw := wordsW_len k
      refine safe (zi_nonneg _) ?_
      refine br_dec (fun h2 => ?_) (fun h2 => ?_)
      all_goals cbv
      · refine br_ndec (fun h3 => ?_) (fun h3 => ?_)
        all_goals cbv
        all_goals try refine safe (by simp only [List.length_cons, List.length_nil]; omega) ?_
        all_goals refine safe ⟨zi_nonneg _, zi_lt.2 (show k < 4 from h1)⟩ ?_
        all_goals refine safe (by show (zi k).toNat < 4; rw [hz]; exact h1) ?_
        all_goals (dsimp only; rw [hz])
        all_goals generalize wordsW.getD k [] = w at hw ⊢
        all_goals refine safe (by (try simp only [List.length_append, List.length_cons, List.length_nil]); omega) ?_
        · refine ⟨(k + 1, s ++ [44] ++ w), ⟨h1, by show (s ++ [44] ++ w).length ≤ _; simp only [List.length_append, List.length_cons, List.length_nil]; omega⟩, by show 4 - (k + 1) < 4 - k; omega, ?_⟩
          cbv
          rw [zi_succ (by omega)]
          (repeat' (first | exact True.intro | exact Same.refl _ | exact SameB.refl _ | exact ⟨rfl⟩ | exact Same.int rfl | exact Same.str rfl | exact Same.bool rfl | (refine Same.int ?_; simp only [List.length_append, List.length_cons, List.length_nil, zi]; omega) | (refine SameB.row' rfl fun i hi => ?_; first | rfl | exact absurd hi (Nat.not_lt_zero _)) | refine And.intro ?_ ?_ | refine SameB.cells ?_ | exact SameC.nil | refine SameC.cons ?_ ?_ | exact Same.nsl rfl | exact Same.tt rfl | exact Same.ff rfl))
        · refine ⟨(k + 1, s ++ w), ⟨h1, by show (s ++ w).length ≤ _; rw [List.length_append]; omega⟩, by show 4 - (k + 1) < 4 - k; omega, ?_⟩
          cbv
          rw [zi_succ (by omega)]
          (repeat' (first | exact True.intro | exact Same.refl _ | exact SameB.refl _ | exact ⟨rfl⟩ | exact Same.int rfl | exact Same.str rfl | exact Same.bool rfl | (refine Same.int ?_; simp only [List.length_append, List.length_cons, List.length_nil, zi]; omega) | (refine SameB.row' rfl fun i hi => ?_; first | rfl | exact absurd hi (Nat.not_lt_zero _)) | refine And.intro ?_ ?_ | refine SameB.cells ?_ | exact SameC.nil | refine SameC.cons ?_ ?_ | exact Same.nsl rfl | exact Same.tt rfl | exact Same.ff rfl))
      · refine ⟨(k + 1, s), ⟨h1, by show s.length ≤ _; omega⟩, by show 4 - (k + 1) < 4 - k; omega, ?_⟩
        cbv
        rw [zi_succ (by omega)]
        (repeat' (first | exact True.intro | exact Same.refl _ | exact SameB.refl _ | exact ⟨rfl⟩ | exact Same.int rfl | exact Same.str rfl | exact Same.bool rfl | (refine Same.int ?_; simp only [List.length_append, List.length_cons, List.length_nil, zi]; omega) | (refine SameB.row' rfl fun i hi => ?_; first | rfl | exact absurd hi (Nat.not_lt_zero _)) | refine And.intro ?_ ?_ | refine SameB.cells ?_ | exact SameC.nil | refine SameC.cons ?_ ?_ | exact Same.nsl rfl | exact Same.tt rfl | exact Same.ff rfl))
    · exact ⟨_, .ret (.refl _), hr _ (by show s.length ≤ _; omega)⟩
end Go.Proofs.Ytgjlkcdnlndlnaa
/- Functions resolved once more, with marks (printed by a tool). -/
namespace Go.Proofs.Ytgjlkcdnlndlnaa
open Go Go.Proofs.Ytgjlkcdnlndlnaa.Sx
namespace F
abbrev r15_RecsC : Nat := 46
def r15_RecsC.rc : RC :=
  (.seq (.reg [R.q 1 (.box (R.t 0)),
    R.q 2 (.mov (.val .nsl))])
  (.seq (.reg [R.q 3 (.mov (.val .nsl))])
  (.seq (.regd [R.f (R.q 7 (.fld 0 (R.t 1))),
    R.f (R.q 8 (.load1 (R.t 7))),
    R.f (R.q 12 (.fld 17 (R.t 1))),
    R.f (R.q 13 (.load1 (R.t 12))),
    R.f (R.q 14 (.lenS (R.t 13))),
    R.f (R.q 15 (.bin .gtr .no (R.t 14) (R.i 100))),
    R.s (R.q 9 (.call 82 [(R.t 8)])) [2, 3, 4, 5],
    R.f (R.q 10 (.field1 2 (R.t 9))),
    R.f (R.q 11 (.un .not (R.t 10))),
    R.s (R.q 4 (.mov (R.t 11))) [2, 3, 4, 5],
    R.s (R.q 5 (.mov (R.t 15))) []])
  (.seq (.mark (.seq (.reg [R.q 16 (.mov (R.t 4)),
    R.q 17 (.mov (R.t 16)),
    R.g 18 (.fld 0 (R.t 1)) 17 true,
    R.g 19 (.load1 (R.t 18)) 17 true,
    R.g 20 (.call 83 [(R.t 19)]) 17 true,
    R.g 21 (.un .not (R.t 20)) 17 true,
    R.q 22 (.pick (R.t 17) (R.t 21) R.ff),
    R.q 23 (.mov (R.t 22)),
    R.g 24 (.mov (R.t 5)) 23 false,
    R.g 25 (.mov (R.t 24)) 23 false,
    R.g 26 (.fld 17 (R.t 1)) 25 true,
    R.g 27 (.load1 (R.t 26)) 25 true,
    R.g 28 (.call 83 [(R.t 27)]) 25 true,
    R.g 29 (.un .not (R.t 28)) 25 true,
    R.g 30 (.pick (R.t 25) (R.t 29) R.ff) 23 false,
    R.q 31 (.pick (R.t 23) R.tt (R.t 30))])
  (.cond (R.t 31)
    (.reg [R.q 32 (.mov (R.t 3)),
      R.q 33 (.build (.cons (.str fun _ => []) (.cons (.str fun _ => []) .nil)) [(0, 1, (.val (.str fun _ => [104, 100, 114, 99, 104, 97, 114, 115, 101, 116]))), (1, 1, (.val (.str fun _ => [66, 73, 78, 65, 82, 89])))]),
      R.q 34 (.bslice 2 (.cons (.str fun _ => []) (.cons (.str fun _ => []) .nil)) 1 [(0, 2, (R.t 33))]),
      R.q 35 (.append 2 32 (R.t 32) (R.t 34)),
      R.q 3 (.mov (R.t 35))])
    .skip)))
  (.seq (.mark (.seq (.reg [R.q 36 (.mov (R.t 4))])
  (.cond (R.t 36)
    (.reg [R.q 37 (.mov (R.t 3)),
      R.q 38 (.fld 0 (R.t 1)),
      R.q 39 (.load1 (R.t 38)),
      R.q 40 (.build (.cons (.str fun _ => []) (.cons (.str fun _ => []) .nil)) [(0, 1, (.val (.str fun _ => [112, 97, 116, 104]))), (1, 1, (R.t 39))]),
      R.q 41 (.bslice 2 (.cons (.str fun _ => []) (.cons (.str fun _ => []) .nil)) 1 [(0, 2, (R.t 40))]),
      R.q 42 (.append 2 32 (R.t 37) (R.t 41)),
      R.q 3 (.mov (R.t 42))])
    .skip)))
  (.seq (.mark (.seq (.reg [R.q 43 (.mov (R.t 5))])
  (.cond (R.t 43)
    (.reg [R.q 44 (.mov (R.t 3)),
      R.q 45 (.fld 17 (R.t 1)),
      R.q 46 (.load1 (R.t 45)),
      R.q 47 (.build (.cons (.str fun _ => []) (.cons (.str fun _ => []) .nil)) [(0, 1, (.val (.str fun _ => [108, 105, 110, 107, 112, 97, 116, 104]))), (1, 1, (R.t 46))]),
      R.q 48 (.bslice 2 (.cons (.str fun _ => []) (.cons (.str fun _ => []) .nil)) 1 [(0, 2, (R.t 47))]),
      R.q 49 (.append 2 32 (R.t 44) (R.t 48)),
      R.q 3 (.mov (R.t 49))])
    .skip)))
  (.seq (.reg [R.q 50 (.fld 2 (R.t 1)),
    R.q 51 (.loadA 14 (R.t 50)),
    R.q 6 (.alloc (.cons (R.z 0) (.cons (R.z 0) (.cons (R.z 0) (.cons (R.z 0) (.cons (R.z 0) (.cons .nsl (.cons .nsl (.cons .nsl (.cons (R.z 0) (.cons (.int .u64 fun _ => 0) (.cons (.int .u64 fun _ => 0) (.cons .ff (.cons (R.z 0) (.cons (R.z 0) .nil))))))))))))))),
    R.e (.store 14 (R.t 6) (R.t 51))])
  (.seq (.mark (.seq (.reg [R.q 52 (.fld 1 (R.t 6)),
    R.q 53 (.load1 (R.t 52)),
    R.q 54 (.bin .gtr .no (R.t 53) (R.i 2097151))])
  (.cond (R.t 54)
    (.reg [R.q 55 (.mov (R.t 3)),
      R.q 56 (.fld 1 (R.t 6)),
      R.q 57 (.load1 (R.t 56)),
      R.q 58 (.call 84 [(R.t 57)]),
      R.q 59 (.build (.cons (.str fun _ => []) (.cons (.str fun _ => []) .nil)) [(0, 1, (.val (.str fun _ => [117, 105, 100]))), (1, 1, (R.t 58))]),
      R.q 60 (.bslice 2 (.cons (.str fun _ => []) (.cons (.str fun _ => []) .nil)) 1 [(0, 2, (R.t 59))]),
      R.q 61 (.append 2 32 (R.t 55) (R.t 60)),
      R.q 3 (.mov (R.t 61))])
    .skip)))
  (.seq (.mark (.seq (.reg [R.q 62 (.fld 2 (R.t 6)),
    R.q 63 (.load1 (R.t 62)),
    R.q 64 (.bin .gtr .no (R.t 63) (R.i 2097151))])
  (.cond (R.t 64)
    (.reg [R.q 65 (.mov (R.t 3)),
      R.q 66 (.fld 2 (R.t 6)),
      R.q 67 (.load1 (R.t 66)),
      R.q 68 (.call 84 [(R.t 67)]),
      R.q 69 (.build (.cons (.str fun _ => []) (.cons (.str fun _ => []) .nil)) [(0, 1, (.val (.str fun _ => [103, 105, 100]))), (1, 1, (R.t 68))]),
      R.q 70 (.bslice 2 (.cons (.str fun _ => []) (.cons (.str fun _ => []) .nil)) 1 [(0, 2, (R.t 69))]),
      R.q 71 (.append 2 32 (R.t 65) (R.t 70)),
      R.q 3 (.mov (R.t 71))])
    .skip)))
  (.seq (.mark (.seq (.reg [R.q 72 (.fld 3 (R.t 6)),
    R.q 73 (.loadA 2 (R.t 72)),
    R.q 74 (.call 85 [(R.t 73)])])
  (.cond (R.t 74)
    (.reg [R.q 75 (.mov (R.t 3)),
      R.q 76 (.fld 3 (R.t 6)),
      R.q 77 (.loadA 2 (R.t 76)),
      R.q 78 (.call 86 [(R.t 77)]),
      R.q 79 (.build (.cons (.str fun _ => []) (.cons (.str fun _ => []) .nil)) [(0, 1, (.val (.str fun _ => [109, 116, 105, 109, 101]))), (1, 1, (R.t 78))]),
      R.q 80 (.bslice 2 (.cons (.str fun _ => []) (.cons (.str fun _ => []) .nil)) 1 [(0, 2, (R.t 79))]),
      R.q 81 (.append 2 32 (R.t 75) (R.t 80)),
      R.q 3 (.mov (R.t 81))])
    .skip)))
  (.seq (.mark (.seq (.reg [R.q 82 (.fld 5 (R.t 6)),
    R.q 83 (.load1 (R.t 82)),
    R.q 84 (.len (R.t 83)),
    R.q 85 (.bin .gtr .no (R.t 84) (R.i 0))])
  (.cond (R.t 85)
    (.reg [R.q 86 (.mov (R.t 3)),
      R.q 87 (.fld 5 (R.t 6)),
      R.q 88 (.load1 (R.t 87)),
      R.q 89 (.call 87 [(R.t 88)]),
      R.q 90 (.build (.cons (.str fun _ => []) (.cons (.str fun _ => []) .nil)) [(0, 1, (.val (.str fun _ => [83, 67, 72, 73, 76, 89, 46, 97, 99, 108, 46, 97, 99, 99, 101, 115, 115]))), (1, 1, (R.t 89))]),
      R.q 91 (.bslice 2 (.cons (.str fun _ => []) (.cons (.str fun _ => []) .nil)) 1 [(0, 2, (R.t 90))]),
      R.q 92 (.append 2 32 (R.t 86) (R.t 91)),
      R.q 3 (.mov (R.t 92))])
    .skip)))
  (.seq (.mark (.seq (.reg [R.q 93 (.fld 6 (R.t 6)),
    R.q 94 (.load1 (R.t 93)),
    R.q 95 (.len (R.t 94)),
    R.q 96 (.bin .gtr .no (R.t 95) (R.i 0))])
  (.cond (R.t 96)
    (.reg [R.q 97 (.mov (R.t 3)),
      R.q 98 (.fld 6 (R.t 6)),
      R.q 99 (.load1 (R.t 98)),
      R.q 100 (.call 87 [(R.t 99)]),
      R.q 101 (.build (.cons (.str fun _ => []) (.cons (.str fun _ => []) .nil)) [(0, 1, (.val (.str fun _ => [83, 67, 72, 73, 76, 89, 46, 97, 99, 108, 46, 100, 101, 102, 97, 117, 108, 116]))), (1, 1, (R.t 100))]),
      R.q 102 (.bslice 2 (.cons (.str fun _ => []) (.cons (.str fun _ => []) .nil)) 1 [(0, 2, (R.t 101))]),
      R.q 103 (.append 2 32 (R.t 97) (R.t 102)),
      R.q 3 (.mov (R.t 103))])
    .skip)))
  (.seq (.mark (.seq (.reg [R.q 104 (.fld 13 (R.t 6)),
    R.q 105 (.load1 (R.t 104)),
    R.q 106 (.bin .neq .no (R.t 105) (R.i 0))])
  (.cond (R.t 106)
    (.reg [R.q 107 (.mov (R.t 3)),
      R.q 108 (.fld 13 (R.t 6)),
      R.q 109 (.load1 (R.t 108)),
      R.q 110 (.call 88 [(R.t 109)]),
      R.q 111 (.build (.cons (.str fun _ => []) (.cons (.str fun _ => []) .nil)) [(0, 1, (.val (.str fun _ => [83, 67, 72, 73, 76, 89, 46, 102, 102, 108, 97, 103, 115]))), (1, 1, (R.t 110))]),
      R.q 112 (.bslice 2 (.cons (.str fun _ => []) (.cons (.str fun _ => []) .nil)) 1 [(0, 2, (R.t 111))]),
      R.q 113 (.append 2 32 (R.t 107) (R.t 112)),
      R.q 3 (.mov (R.t 113))])
    .skip)))
  (.seq (.mark (.seq (.reg [R.q 114 (.fld 8 (R.t 6)),
    R.q 115 (.fld 0 (R.t 114)),
    R.q 116 (.load1 (R.t 115)),
    R.q 117 (.bin .neq .no (R.t 116) (R.i 0))])
  (.cond (R.t 117)
    (.reg [R.q 118 (.mov (R.t 3)),
      R.q 119 (.fld 8 (R.t 6)),
      R.q 120 (.loadA 5 (R.t 119)),
      R.q 121 (.call 90 [(R.t 120)]),
      R.q 122 (.call 89 [(R.t 121)]),
      R.q 123 (.build (.cons (.str fun _ => []) (.cons (.str fun _ => []) .nil)) [(0, 1, (.val (.str fun _ => [71, 82, 73, 80, 83, 65, 67, 75, 46, 99, 97, 112, 115]))), (1, 1, (R.t 122))]),
      R.q 124 (.bslice 2 (.cons (.str fun _ => []) (.cons (.str fun _ => []) .nil)) 1 [(0, 2, (R.t 123))]),
      R.q 125 (.append 2 32 (R.t 118) (R.t 124)),
      R.q 3 (.mov (R.t 125))])
    .skip)))
  (.seq (.reg [R.q 126 (.mov (R.t 3)),
    R.q 127 (.fld 7 (R.t 6)),
    R.q 128 (.load1 (R.t 127)),
    R.q 129 (.call 91 [(R.t 128)]),
    R.q 130 (.append 2 32 (R.t 126) (R.t 129)),
    R.q 2 (.mov (R.t 130))])
  .ret)))))))))))))))
def r15_RecsC.rs : List RRes := [.tmp 2]
theorem r15_RecsC.of {xs : List AV} {d : Nat} {B : BL} {K : ARes → BL → Prop} (hn : xs.length = 1) (hB : onlyOuter B = true) (h : awp ⟨PT, 131, exitX r15_RecsC.rs K⟩ 10000 [.code r15_RecsC.rc] ⟨params 0 xs, B, .nil⟩) : CallAt PT r15_RecsC xs d B K :=
  call_of_awp 10000 Try.func46 rfl (by kernel_rfl) (by kernel_rfl) (by kernel_rfl) (by rw [hn]; decide) hB h
end F
end Go.Proofs.Ytgjlkcdnlndlnaa
/- The records of an entry: walked as far as entries want. -/
namespace Go.Proofs.Ytgjlkcdnlndlnaa
open Go Go.Proofs.Ytgjlkcdnlndlnaa.Sx F
set_option linter.unusedVariables false
set_option linter.unusedSimpArgs false
theorem Int.toNat_lt_of {x : Int} (h : x ≤ 2147483647) : x.toNat < 9223372036854775808 := by omega
structure AclIn (l : List Ace) : Prop where
  len : l.length ≤ 60
  tag : ∀ k, 0 ≤ (l.getD k Ace.z).tag ∧ (l.getD k Ace.z).tag < 7
  id : ∀ k, 0 ≤ (l.getD k Ace.z).id ∧ (l.getD k Ace.z).id < 9223372036854775808
structure RecsIn (e : Entry) : Prop where
  path : e.path.length ≤ 5000
  target : e.target.length ≤ 5000
  uid : IdOk e.mt.uid
  gid : IdOk e.mt.gid
  stamp : StampOk e.mt.sec e.mt.nano
  acl : AclIn e.mt.acl
  dflt : AclIn e.mt.dflt
  xs : short e.mt.xs
  long : longX e.mt.xs
theorem RecsOk.put {l : List Xattr} {n : Nat} {x : Xattr} (h : RecsOk l n) (hx : RecOk x) : RecsOk (l ++ [x]) (n + 1) := h.one hx
theorem recs15_c (e : Th Entry) (h : RecsIn (e .o)) {d : Nat} {K : ARes → BL → Prop} (hr : ∀ r : Th (List Xattr), RecsOk (r .o) 80 → K (.ret (xattrs r)) .nil) : CallAt PT r15_RecsC [Entry.av e] d .nil K := by
  have hp := h.path
  have ht := h.target
  obtain ⟨hu1, hu2⟩ := h.uid
  obtain ⟨hg1, hg2⟩ := h.gid
  refine CallAt.res ?_
  refine r15_RecsC.of rfl rfl ?_
  cbv
  refine split_c' _ (by (try dsimp only); omega) fun a b c => ?_
  cbv
  refine nil_tmp 3 9000 2 (fun i => Xattr.ch fun _ => ([] : List Xattr).getD (i .o) Xattr.z) rfl rfl ?_
  refine cut_rule (X := List Xattr) 1000 1000 [1, 4, 5] [1] (fun _ => .cons 3 (.row 9000) .nil) (fun x => .cons 9000 (rowB 2 Xattr.ch Xattr.z fun _ => x) .nil) (fun x => RecsOk x 1) ?_ fun l1 ok1 => ?_
  · have ok0 : RecsOk [] 0 := .nil _
    have hlen := ok0.len
    cbv
    (repeat' (first | (refine br_nbool (fun _ => ?_) (fun _ => ?_) <;> cbv) | (refine br_rev (br_nbool (fun _ => ?_) (fun _ => ?_)) <;> cbv) | (refine br_dec (fun _ => ?_) (fun _ => ?_) <;> cbv) | (refine br_rev (br_dec (fun _ => ?_) (fun _ => ?_)) <;> cbv) | (refine br_ndec (fun _ => ?_) (fun _ => ?_) <;> cbv) | (refine br_rev (br_ndec (fun _ => ?_) (fun _ => ?_)) <;> cbv) | (refine br_bool (fun _ => ?_) (fun _ => ?_) <;> cbv) | (refine br_rev (br_bool (fun _ => ?_) (fun _ => ?_)) <;> cbv) | (refine valid_c _ (by (try dsimp only); omega) fun _ => ?_; cbv) | (refine long_c _ _ fun _ _ => ?_; cbv)))
    all_goals first
      | (refine app_one Xattr.ch Xattr.z [] ⟨[104, 100, 114, 99, 104, 97, 114, 115, 101, 116], [66, 73, 78, 65, 82, 89]⟩ rfl (fun i hi => rfl) rfl rfl (by omega) ?_; cbv; refine ⟨[] ++ [⟨[104, 100, 114, 99, 104, 97, 114, 115, 101, 116], [66, 73, 78, 65, 82, 89]⟩], ok0.put ⟨by (try dsimp only); simp only [List.length_cons, List.length_nil]; omega, by (try dsimp only); (try simp only [List.length_cons, List.length_nil]); omega⟩, ?_⟩; cbv; (repeat' (first | exact True.intro | exact Same.refl _ | exact SameB.refl _ | exact ⟨rfl⟩ | exact Same.int rfl | exact Same.str rfl | exact Same.bool rfl | (refine Same.int ?_; simp only [List.length_append, List.length_cons, List.length_nil, zi]; omega) | (refine SameB.row' rfl fun i hi => ?_; first | rfl | exact absurd hi (Nat.not_lt_zero _)) | refine And.intro ?_ ?_ | refine SameB.cells ?_ | exact SameC.nil | refine SameC.cons ?_ ?_ | exact Same.nsl rfl | exact Same.tt rfl | exact Same.ff rfl)); done)
      | (refine ⟨[], ok0.mono (by decide), ?_⟩; cbv; (repeat' (first | exact True.intro | exact Same.refl _ | exact SameB.refl _ | exact ⟨rfl⟩ | exact Same.int rfl | exact Same.str rfl | exact Same.bool rfl | (refine Same.int ?_; simp only [List.length_append, List.length_cons, List.length_nil, zi]; omega) | (refine SameB.row' rfl fun i hi => ?_; first | rfl | exact absurd hi (Nat.not_lt_zero _)) | refine And.intro ?_ ?_ | refine SameB.cells ?_ | exact SameC.nil | refine SameC.cons ?_ ?_ | exact Same.nsl rfl | exact Same.tt rfl | exact Same.ff rfl)); done)
      | trace_state
  have hlen1 := ok1.len
  cbv
  refine cut_rule (X := List Xattr) 1000 1000 [1, 5] [1] (fun _ => .cons 3 (.row 9000) .nil) (fun x => .cons 9000 (rowB 2 Xattr.ch Xattr.z fun _ => x) .nil) (fun x => RecsOk x 2) ?_ fun l2 ok2 => ?_
  · have ok1 := ok1
    have hlen := ok1.len
    cbv
    (repeat' (first | (refine br_nbool (fun _ => ?_) (fun _ => ?_) <;> cbv) | (refine br_rev (br_nbool (fun _ => ?_) (fun _ => ?_)) <;> cbv) | (refine br_dec (fun _ => ?_) (fun _ => ?_) <;> cbv) | (refine br_rev (br_dec (fun _ => ?_) (fun _ => ?_)) <;> cbv) | (refine br_ndec (fun _ => ?_) (fun _ => ?_) <;> cbv) | (refine br_rev (br_ndec (fun _ => ?_) (fun _ => ?_)) <;> cbv) | (refine br_bool (fun _ => ?_) (fun _ => ?_) <;> cbv) | (refine br_rev (br_bool (fun _ => ?_) (fun _ => ?_)) <;> cbv) | (refine valid_c _ (by (try dsimp only); omega) fun _ => ?_; cbv) | (refine long_c _ _ fun _ _ => ?_; cbv)))
    all_goals first
      | (refine app_one Xattr.ch Xattr.z l1 ⟨[112, 97, 116, 104], (e .o).path⟩ rfl (fun i hi => rfl) rfl rfl (by omega) ?_; cbv; refine ⟨l1 ++ [⟨[112, 97, 116, 104], (e .o).path⟩], ok1.put ⟨by (try dsimp only); simp only [List.length_cons, List.length_nil]; omega, by (try dsimp only); (try simp only [List.length_cons, List.length_nil]); omega⟩, ?_⟩; cbv; (repeat' (first | exact True.intro | exact Same.refl _ | exact SameB.refl _ | exact ⟨rfl⟩ | exact Same.int rfl | exact Same.str rfl | exact Same.bool rfl | (refine Same.int ?_; simp only [List.length_append, List.length_cons, List.length_nil, zi]; omega) | (refine SameB.row' rfl fun i hi => ?_; first | rfl | exact absurd hi (Nat.not_lt_zero _)) | refine And.intro ?_ ?_ | refine SameB.cells ?_ | exact SameC.nil | refine SameC.cons ?_ ?_ | exact Same.nsl rfl | exact Same.tt rfl | exact Same.ff rfl)); done)
      | (refine ⟨l1, ok1.mono (by decide), ?_⟩; cbv; (repeat' (first | exact True.intro | exact Same.refl _ | exact SameB.refl _ | exact ⟨rfl⟩ | exact Same.int rfl | exact Same.str rfl | exact Same.bool rfl | (refine Same.int ?_; simp only [List.length_append, List.length_cons, List.length_nil, zi]; omega) | (refine SameB.row' rfl fun i hi => ?_; first | rfl | exact absurd hi (Nat.not_lt_zero _)) | refine And.intro ?_ ?_ | refine SameB.cells ?_ | exact SameC.nil | refine SameC.cons ?_ ?_ | exact Same.nsl rfl | exact Same.tt rfl | exact Same.ff rfl)); done)
      | trace_state
  have hlen2 := ok2.len
  cbv
  refine cut_rule (X := List Xattr) 1000 1000 [1] [1] (fun _ => .cons 3 (.row 9000) .nil) (fun x => .cons 9000 (rowB 2 Xattr.ch Xattr.z fun _ => x) .nil) (fun x => RecsOk x 3) ?_ fun l3 ok3 => ?_
  · have ok2 := ok2
    have hlen := ok2.len
    cbv
    (repeat' (first | (refine br_nbool (fun _ => ?_) (fun _ => ?_) <;> cbv) | (refine br_rev (br_nbool (fun _ => ?_) (fun _ => ?_)) <;> cbv) | (refine br_dec (fun _ => ?_) (fun _ => ?_) <;> cbv) | (refine br_rev (br_dec (fun _ => ?_) (fun _ => ?_)) <;> cbv) | (refine br_ndec (fun _ => ?_) (fun _ => ?_) <;> cbv) | (refine br_rev (br_ndec (fun _ => ?_) (fun _ => ?_)) <;> cbv) | (refine br_bool (fun _ => ?_) (fun _ => ?_) <;> cbv) | (refine br_rev (br_bool (fun _ => ?_) (fun _ => ?_)) <;> cbv) | (refine valid_c _ (by (try dsimp only); omega) fun _ => ?_; cbv) | (refine long_c _ _ fun _ _ => ?_; cbv)))
    all_goals first
      | (refine app_one Xattr.ch Xattr.z l2 ⟨[108, 105, 110, 107, 112, 97, 116, 104], (e .o).target⟩ rfl (fun i hi => rfl) rfl rfl (by omega) ?_; cbv; refine ⟨l2 ++ [⟨[108, 105, 110, 107, 112, 97, 116, 104], (e .o).target⟩], ok2.put ⟨by (try dsimp only); simp only [List.length_cons, List.length_nil]; omega, by (try dsimp only); (try simp only [List.length_cons, List.length_nil]); omega⟩, ?_⟩; cbv; (repeat' (first | exact True.intro | exact Same.refl _ | exact SameB.refl _ | exact ⟨rfl⟩ | exact Same.int rfl | exact Same.str rfl | exact Same.bool rfl | (refine Same.int ?_; simp only [List.length_append, List.length_cons, List.length_nil, zi]; omega) | (refine SameB.row' rfl fun i hi => ?_; first | rfl | exact absurd hi (Nat.not_lt_zero _)) | refine And.intro ?_ ?_ | refine SameB.cells ?_ | exact SameC.nil | refine SameC.cons ?_ ?_ | exact Same.nsl rfl | exact Same.tt rfl | exact Same.ff rfl)); done)
      | (refine ⟨l2, ok2.mono (by decide), ?_⟩; cbv; (repeat' (first | exact True.intro | exact Same.refl _ | exact SameB.refl _ | exact ⟨rfl⟩ | exact Same.int rfl | exact Same.str rfl | exact Same.bool rfl | (refine Same.int ?_; simp only [List.length_append, List.length_cons, List.length_nil, zi]; omega) | (refine SameB.row' rfl fun i hi => ?_; first | rfl | exact absurd hi (Nat.not_lt_zero _)) | refine And.intro ?_ ?_ | refine SameB.cells ?_ | exact SameC.nil | refine SameC.cons ?_ ?_ | exact Same.nsl rfl | exact Same.tt rfl | exact Same.ff rfl)); done)
      | trace_state
  have hlen3 := ok3.len
  cbv
  refine cut_rule (X := List Xattr) 1000 1000 [6] [6] (fun _ => .cons 3 (.row 9000) .nil) (fun x => .cons 9000 (rowB 2 Xattr.ch Xattr.z fun _ => x) .nil) (fun x => RecsOk x 4) ?_ fun l4 ok4 => ?_
  · have ok3 := ok3
    have hlen := ok3.len
    cbv
    (repeat' (first | (refine br_nbool (fun _ => ?_) (fun _ => ?_) <;> cbv) | (refine br_rev (br_nbool (fun _ => ?_) (fun _ => ?_)) <;> cbv) | (refine br_dec (fun _ => ?_) (fun _ => ?_) <;> cbv) | (refine br_rev (br_dec (fun _ => ?_) (fun _ => ?_)) <;> cbv) | (refine br_ndec (fun _ => ?_) (fun _ => ?_) <;> cbv) | (refine br_rev (br_ndec (fun _ => ?_) (fun _ => ?_)) <;> cbv) | (refine br_bool (fun _ => ?_) (fun _ => ?_) <;> cbv) | (refine br_rev (br_bool (fun _ => ?_) (fun _ => ?_)) <;> cbv) | (refine valid_c _ (by (try dsimp only); omega) fun _ => ?_; cbv) | (refine long_c _ _ fun _ _ => ?_; cbv)))
    focus (refine digits_c _ (by (try dsimp only); omega) fun t ht => ?_; have htl : (t .o).length ≤ 19 := (by rw [ht]; exact digs63 (Int.toNat_lt_of (by first | exact hu2 | exact hg2))); cbv)
    all_goals first
      | (refine app_one Xattr.ch Xattr.z l3 ⟨[117, 105, 100], t .o⟩ rfl (fun i hi => rfl) rfl rfl (by omega) ?_; cbv; refine ⟨l3 ++ [⟨[117, 105, 100], t .o⟩], ok3.put ⟨by (try dsimp only); simp only [List.length_cons, List.length_nil]; omega, by (try dsimp only); (try simp only [List.length_cons, List.length_nil]); omega⟩, ?_⟩; cbv; (repeat' (first | exact True.intro | exact Same.refl _ | exact SameB.refl _ | exact ⟨rfl⟩ | exact Same.int rfl | exact Same.str rfl | exact Same.bool rfl | (refine Same.int ?_; simp only [List.length_append, List.length_cons, List.length_nil, zi]; omega) | (refine SameB.row' rfl fun i hi => ?_; first | rfl | exact absurd hi (Nat.not_lt_zero _)) | refine And.intro ?_ ?_ | refine SameB.cells ?_ | exact SameC.nil | refine SameC.cons ?_ ?_ | exact Same.nsl rfl | exact Same.tt rfl | exact Same.ff rfl)); done)
      | (refine ⟨l3, ok3.mono (by decide), ?_⟩; cbv; (repeat' (first | exact True.intro | exact Same.refl _ | exact SameB.refl _ | exact ⟨rfl⟩ | exact Same.int rfl | exact Same.str rfl | exact Same.bool rfl | (refine Same.int ?_; simp only [List.length_append, List.length_cons, List.length_nil, zi]; omega) | (refine SameB.row' rfl fun i hi => ?_; first | rfl | exact absurd hi (Nat.not_lt_zero _)) | refine And.intro ?_ ?_ | refine SameB.cells ?_ | exact SameC.nil | refine SameC.cons ?_ ?_ | exact Same.nsl rfl | exact Same.tt rfl | exact Same.ff rfl)); done)
      | trace_state
  have hlen4 := ok4.len
  cbv
  refine cut_rule (X := List Xattr) 1000 1000 [6] [6] (fun _ => .cons 3 (.row 9000) .nil) (fun x => .cons 9000 (rowB 2 Xattr.ch Xattr.z fun _ => x) .nil) (fun x => RecsOk x 5) ?_ fun l5 ok5 => ?_
  · have ok4 := ok4
    have hlen := ok4.len
    cbv
    (repeat' (first | (refine br_nbool (fun _ => ?_) (fun _ => ?_) <;> cbv) | (refine br_rev (br_nbool (fun _ => ?_) (fun _ => ?_)) <;> cbv) | (refine br_dec (fun _ => ?_) (fun _ => ?_) <;> cbv) | (refine br_rev (br_dec (fun _ => ?_) (fun _ => ?_)) <;> cbv) | (refine br_ndec (fun _ => ?_) (fun _ => ?_) <;> cbv) | (refine br_rev (br_ndec (fun _ => ?_) (fun _ => ?_)) <;> cbv) | (refine br_bool (fun _ => ?_) (fun _ => ?_) <;> cbv) | (refine br_rev (br_bool (fun _ => ?_) (fun _ => ?_)) <;> cbv) | (refine valid_c _ (by (try dsimp only); omega) fun _ => ?_; cbv) | (refine long_c _ _ fun _ _ => ?_; cbv)))
    focus (refine digits_c _ (by (try dsimp only); omega) fun t ht => ?_; have htl : (t .o).length ≤ 19 := (by rw [ht]; exact digs63 (Int.toNat_lt_of (by first | exact hu2 | exact hg2))); cbv)
    all_goals first
      | (refine app_one Xattr.ch Xattr.z l4 ⟨[103, 105, 100], t .o⟩ rfl (fun i hi => rfl) rfl rfl (by omega) ?_; cbv; refine ⟨l4 ++ [⟨[103, 105, 100], t .o⟩], ok4.put ⟨by (try dsimp only); simp only [List.length_cons, List.length_nil]; omega, by (try dsimp only); (try simp only [List.length_cons, List.length_nil]); omega⟩, ?_⟩; cbv; (repeat' (first | exact True.intro | exact Same.refl _ | exact SameB.refl _ | exact ⟨rfl⟩ | exact Same.int rfl | exact Same.str rfl | exact Same.bool rfl | (refine Same.int ?_; simp only [List.length_append, List.length_cons, List.length_nil, zi]; omega) | (refine SameB.row' rfl fun i hi => ?_; first | rfl | exact absurd hi (Nat.not_lt_zero _)) | refine And.intro ?_ ?_ | refine SameB.cells ?_ | exact SameC.nil | refine SameC.cons ?_ ?_ | exact Same.nsl rfl | exact Same.tt rfl | exact Same.ff rfl)); done)
      | (refine ⟨l4, ok4.mono (by decide), ?_⟩; cbv; (repeat' (first | exact True.intro | exact Same.refl _ | exact SameB.refl _ | exact ⟨rfl⟩ | exact Same.int rfl | exact Same.str rfl | exact Same.bool rfl | (refine Same.int ?_; simp only [List.length_append, List.length_cons, List.length_nil, zi]; omega) | (refine SameB.row' rfl fun i hi => ?_; first | rfl | exact absurd hi (Nat.not_lt_zero _)) | refine And.intro ?_ ?_ | refine SameB.cells ?_ | exact SameC.nil | refine SameC.cons ?_ ?_ | exact Same.nsl rfl | exact Same.tt rfl | exact Same.ff rfl)); done)
      | trace_state
  have hlen5 := ok5.len
  cbv
  refine cut_rule (X := List Xattr) 1000 1000 [6] [6] (fun _ => .cons 3 (.row 9000) .nil) (fun x => .cons 9000 (rowB 2 Xattr.ch Xattr.z fun _ => x) .nil) (fun x => RecsOk x 6) ?_ fun l6 ok6 => ?_
  · have ok5 := ok5
    have hlen := ok5.len
    cbv
    (repeat' (first | (refine br_nbool (fun _ => ?_) (fun _ => ?_) <;> cbv) | (refine br_rev (br_nbool (fun _ => ?_) (fun _ => ?_)) <;> cbv) | (refine br_dec (fun _ => ?_) (fun _ => ?_) <;> cbv) | (refine br_rev (br_dec (fun _ => ?_) (fun _ => ?_)) <;> cbv) | (refine br_ndec (fun _ => ?_) (fun _ => ?_) <;> cbv) | (refine br_rev (br_ndec (fun _ => ?_) (fun _ => ?_)) <;> cbv) | (refine br_bool (fun _ => ?_) (fun _ => ?_) <;> cbv) | (refine br_rev (br_bool (fun _ => ?_) (fun _ => ?_)) <;> cbv) | (refine valid_c _ (by (try dsimp only); omega) fun _ => ?_; cbv) | (refine long_c _ _ fun _ _ => ?_; cbv)))
    all_goals try (refine textstamp_c (fun _ => (e .o).mt.sec) (fun _ => (e .o).mt.nano) h.stamp fun t ht => ?_; cbv)
    all_goals first
      | (refine app_one Xattr.ch Xattr.z l5 ⟨[109, 116, 105, 109, 101], t .o⟩ rfl (fun i hi => rfl) rfl rfl (by omega) ?_; cbv; refine ⟨l5 ++ [⟨[109, 116, 105, 109, 101], t .o⟩], ok5.put ⟨by (try dsimp only); simp only [List.length_cons, List.length_nil]; omega, by (try dsimp only); (try simp only [List.length_cons, List.length_nil]); omega⟩, ?_⟩; cbv; (repeat' (first | exact True.intro | exact Same.refl _ | exact SameB.refl _ | exact ⟨rfl⟩ | exact Same.int rfl | exact Same.str rfl | exact Same.bool rfl | (refine Same.int ?_; simp only [List.length_append, List.length_cons, List.length_nil, zi]; omega) | (refine SameB.row' rfl fun i hi => ?_; first | rfl | exact absurd hi (Nat.not_lt_zero _)) | refine And.intro ?_ ?_ | refine SameB.cells ?_ | exact SameC.nil | refine SameC.cons ?_ ?_ | exact Same.nsl rfl | exact Same.tt rfl | exact Same.ff rfl)); done)
      | (refine ⟨l5, ok5.mono (by decide), ?_⟩; cbv; (repeat' (first | exact True.intro | exact Same.refl _ | exact SameB.refl _ | exact ⟨rfl⟩ | exact Same.int rfl | exact Same.str rfl | exact Same.bool rfl | (refine Same.int ?_; simp only [List.length_append, List.length_cons, List.length_nil, zi]; omega) | (refine SameB.row' rfl fun i hi => ?_; first | rfl | exact absurd hi (Nat.not_lt_zero _)) | refine And.intro ?_ ?_ | refine SameB.cells ?_ | exact SameC.nil | refine SameC.cons ?_ ?_ | exact Same.nsl rfl | exact Same.tt rfl | exact Same.ff rfl)); done)
      | trace_state
  have hlen6 := ok6.len
  cbv
  refine cut_rule (X := List Xattr) 1000 1000 [6] [6] (fun _ => .cons 3 (.row 9000) .nil) (fun x => .cons 9000 (rowB 2 Xattr.ch Xattr.z fun _ => x) .nil) (fun x => RecsOk x 7) ?_ fun l7 ok7 => ?_
  · have ok6 := ok6
    have hlen := ok6.len
    cbv
    (repeat' (first | (refine br_nbool (fun _ => ?_) (fun _ => ?_) <;> cbv) | (refine br_rev (br_nbool (fun _ => ?_) (fun _ => ?_)) <;> cbv) | (refine br_dec (fun _ => ?_) (fun _ => ?_) <;> cbv) | (refine br_rev (br_dec (fun _ => ?_) (fun _ => ?_)) <;> cbv) | (refine br_ndec (fun _ => ?_) (fun _ => ?_) <;> cbv) | (refine br_rev (br_ndec (fun _ => ?_) (fun _ => ?_)) <;> cbv) | (refine br_bool (fun _ => ?_) (fun _ => ?_) <;> cbv) | (refine br_rev (br_bool (fun _ => ?_) (fun _ => ?_)) <;> cbv) | (refine valid_c _ (by (try dsimp only); omega) fun _ => ?_; cbv) | (refine long_c _ _ fun _ _ => ?_; cbv)))
    all_goals try (refine textacl_c (fun _ => (e .o).mt.acl) h.acl.len h.acl.tag h.acl.id fun t ht => ?_; have htl : (t .o).length ≤ 3840 := Nat.le_trans ht (by (try dsimp only); have := h.acl.len; omega); cbv)
    all_goals first
      | (refine app_one Xattr.ch Xattr.z l6 ⟨[83, 67, 72, 73, 76, 89, 46, 97, 99, 108, 46, 97, 99, 99, 101, 115, 115], t .o⟩ rfl (fun i hi => rfl) rfl rfl (by omega) ?_; cbv; refine ⟨l6 ++ [⟨[83, 67, 72, 73, 76, 89, 46, 97, 99, 108, 46, 97, 99, 99, 101, 115, 115], t .o⟩], ok6.put ⟨by (try dsimp only); simp only [List.length_cons, List.length_nil]; omega, by (try dsimp only); (try simp only [List.length_cons, List.length_nil]); omega⟩, ?_⟩; cbv; (repeat' (first | exact True.intro | exact Same.refl _ | exact SameB.refl _ | exact ⟨rfl⟩ | exact Same.int rfl | exact Same.str rfl | exact Same.bool rfl | (refine Same.int ?_; simp only [List.length_append, List.length_cons, List.length_nil, zi]; omega) | (refine SameB.row' rfl fun i hi => ?_; first | rfl | exact absurd hi (Nat.not_lt_zero _)) | refine And.intro ?_ ?_ | refine SameB.cells ?_ | exact SameC.nil | refine SameC.cons ?_ ?_ | exact Same.nsl rfl | exact Same.tt rfl | exact Same.ff rfl)); done)
      | (refine ⟨l6, ok6.mono (by decide), ?_⟩; cbv; (repeat' (first | exact True.intro | exact Same.refl _ | exact SameB.refl _ | exact ⟨rfl⟩ | exact Same.int rfl | exact Same.str rfl | exact Same.bool rfl | (refine Same.int ?_; simp only [List.length_append, List.length_cons, List.length_nil, zi]; omega) | (refine SameB.row' rfl fun i hi => ?_; first | rfl | exact absurd hi (Nat.not_lt_zero _)) | refine And.intro ?_ ?_ | refine SameB.cells ?_ | exact SameC.nil | refine SameC.cons ?_ ?_ | exact Same.nsl rfl | exact Same.tt rfl | exact Same.ff rfl)); done)
      | trace_state
  have hlen7 := ok7.len
  cbv
  refine cut_rule (X := List Xattr) 1000 1000 [6] [6] (fun _ => .cons 3 (.row 9000) .nil) (fun x => .cons 9000 (rowB 2 Xattr.ch Xattr.z fun _ => x) .nil) (fun x => RecsOk x 8) ?_ fun l8 ok8 => ?_
  · have ok7 := ok7
    have hlen := ok7.len
    cbv
    (repeat' (first | (refine br_nbool (fun _ => ?_) (fun _ => ?_) <;> cbv) | (refine br_rev (br_nbool (fun _ => ?_) (fun _ => ?_)) <;> cbv) | (refine br_dec (fun _ => ?_) (fun _ => ?_) <;> cbv) | (refine br_rev (br_dec (fun _ => ?_) (fun _ => ?_)) <;> cbv) | (refine br_ndec (fun _ => ?_) (fun _ => ?_) <;> cbv) | (refine br_rev (br_ndec (fun _ => ?_) (fun _ => ?_)) <;> cbv) | (refine br_bool (fun _ => ?_) (fun _ => ?_) <;> cbv) | (refine br_rev (br_bool (fun _ => ?_) (fun _ => ?_)) <;> cbv) | (refine valid_c _ (by (try dsimp only); omega) fun _ => ?_; cbv) | (refine long_c _ _ fun _ _ => ?_; cbv)))
    all_goals try (refine textacl_c (fun _ => (e .o).mt.dflt) h.dflt.len h.dflt.tag h.dflt.id fun t ht => ?_; have htl : (t .o).length ≤ 3840 := Nat.le_trans ht (by (try dsimp only); have := h.dflt.len; omega); cbv)
    all_goals first
      | (refine app_one Xattr.ch Xattr.z l7 ⟨[83, 67, 72, 73, 76, 89, 46, 97, 99, 108, 46, 100, 101, 102, 97, 117, 108, 116], t .o⟩ rfl (fun i hi => rfl) rfl rfl (by omega) ?_; cbv; refine ⟨l7 ++ [⟨[83, 67, 72, 73, 76, 89, 46, 97, 99, 108, 46, 100, 101, 102, 97, 117, 108, 116], t .o⟩], ok7.put ⟨by (try dsimp only); simp only [List.length_cons, List.length_nil]; omega, by (try dsimp only); (try simp only [List.length_cons, List.length_nil]); omega⟩, ?_⟩; cbv; (repeat' (first | exact True.intro | exact Same.refl _ | exact SameB.refl _ | exact ⟨rfl⟩ | exact Same.int rfl | exact Same.str rfl | exact Same.bool rfl | (refine Same.int ?_; simp only [List.length_append, List.length_cons, List.length_nil, zi]; omega) | (refine SameB.row' rfl fun i hi => ?_; first | rfl | exact absurd hi (Nat.not_lt_zero _)) | refine And.intro ?_ ?_ | refine SameB.cells ?_ | exact SameC.nil | refine SameC.cons ?_ ?_ | exact Same.nsl rfl | exact Same.tt rfl | exact Same.ff rfl)); done)
      | (refine ⟨l7, ok7.mono (by decide), ?_⟩; cbv; (repeat' (first | exact True.intro | exact Same.refl _ | exact SameB.refl _ | exact ⟨rfl⟩ | exact Same.int rfl | exact Same.str rfl | exact Same.bool rfl | (refine Same.int ?_; simp only [List.length_append, List.length_cons, List.length_nil, zi]; omega) | (refine SameB.row' rfl fun i hi => ?_; first | rfl | exact absurd hi (Nat.not_lt_zero _)) | refine And.intro ?_ ?_ | refine SameB.cells ?_ | exact SameC.nil | refine SameC.cons ?_ ?_ | exact Same.nsl rfl | exact Same.tt rfl | exact Same.ff rfl)); done)
      | trace_state
  have hlen8 := ok8.len
  cbv
  refine cut_rule (X := List Xattr) 1000 1000 [6] [6] (fun _ => .cons 3 (.row 9000) .nil) (fun x => .cons 9000 (rowB 2 Xattr.ch Xattr.z fun _ => x) .nil) (fun x => RecsOk x 9) ?_ fun l9 ok9 => ?_
  · have ok8 := ok8
    have hlen := ok8.len
    cbv
    (repeat' (first | (refine br_nbool (fun _ => ?_) (fun _ => ?_) <;> cbv) | (refine br_rev (br_nbool (fun _ => ?_) (fun _ => ?_)) <;> cbv) | (refine br_dec (fun _ => ?_) (fun _ => ?_) <;> cbv) | (refine br_rev (br_dec (fun _ => ?_) (fun _ => ?_)) <;> cbv) | (refine br_ndec (fun _ => ?_) (fun _ => ?_) <;> cbv) | (refine br_rev (br_ndec (fun _ => ?_) (fun _ => ?_)) <;> cbv) | (refine br_bool (fun _ => ?_) (fun _ => ?_) <;> cbv) | (refine br_rev (br_bool (fun _ => ?_) (fun _ => ?_)) <;> cbv) | (refine valid_c _ (by (try dsimp only); omega) fun _ => ?_; cbv) | (refine long_c _ _ fun _ _ => ?_; cbv)))
    all_goals try (refine textflagsw_c _ fun t ht => ?_; cbv)
    all_goals first
      | (refine app_one Xattr.ch Xattr.z l8 ⟨[83, 67, 72, 73, 76, 89, 46, 102, 102, 108, 97, 103, 115], t .o⟩ rfl (fun i hi => rfl) rfl rfl (by omega) ?_; cbv; refine ⟨l8 ++ [⟨[83, 67, 72, 73, 76, 89, 46, 102, 102, 108, 97, 103, 115], t .o⟩], ok8.put ⟨by (try dsimp only); simp only [List.length_cons, List.length_nil]; omega, by (try dsimp only); (try simp only [List.length_cons, List.length_nil]); omega⟩, ?_⟩; cbv; (repeat' (first | exact True.intro | exact Same.refl _ | exact SameB.refl _ | exact ⟨rfl⟩ | exact Same.int rfl | exact Same.str rfl | exact Same.bool rfl | (refine Same.int ?_; simp only [List.length_append, List.length_cons, List.length_nil, zi]; omega) | (refine SameB.row' rfl fun i hi => ?_; first | rfl | exact absurd hi (Nat.not_lt_zero _)) | refine And.intro ?_ ?_ | refine SameB.cells ?_ | exact SameC.nil | refine SameC.cons ?_ ?_ | exact Same.nsl rfl | exact Same.tt rfl | exact Same.ff rfl)); done)
      | (refine ⟨l8, ok8.mono (by decide), ?_⟩; cbv; (repeat' (first | exact True.intro | exact Same.refl _ | exact SameB.refl _ | exact ⟨rfl⟩ | exact Same.int rfl | exact Same.str rfl | exact Same.bool rfl | (refine Same.int ?_; simp only [List.length_append, List.length_cons, List.length_nil, zi]; omega) | (refine SameB.row' rfl fun i hi => ?_; first | rfl | exact absurd hi (Nat.not_lt_zero _)) | refine And.intro ?_ ?_ | refine SameB.cells ?_ | exact SameC.nil | refine SameC.cons ?_ ?_ | exact Same.nsl rfl | exact Same.tt rfl | exact Same.ff rfl)); done)
      | trace_state
  have hlen9 := ok9.len
  cbv
  refine cut_rule (X := List Xattr) 1000 1000 [6] [6] (fun _ => .cons 3 (.row 9000) .nil) (fun x => .cons 9000 (rowB 2 Xattr.ch Xattr.z fun _ => x) .nil) (fun x => RecsOk x 10) ?_ fun l10 ok10 => ?_
  · have ok9 := ok9
    have hlen := ok9.len
    cbv
    (repeat' (first | (refine br_nbool (fun _ => ?_) (fun _ => ?_) <;> cbv) | (refine br_rev (br_nbool (fun _ => ?_) (fun _ => ?_)) <;> cbv) | (refine br_dec (fun _ => ?_) (fun _ => ?_) <;> cbv) | (refine br_rev (br_dec (fun _ => ?_) (fun _ => ?_)) <;> cbv) | (refine br_ndec (fun _ => ?_) (fun _ => ?_) <;> cbv) | (refine br_rev (br_ndec (fun _ => ?_) (fun _ => ?_)) <;> cbv) | (refine br_bool (fun _ => ?_) (fun _ => ?_) <;> cbv) | (refine br_rev (br_bool (fun _ => ?_) (fun _ => ?_)) <;> cbv) | (refine valid_c _ (by (try dsimp only); omega) fun _ => ?_; cbv) | (refine long_c _ _ fun _ _ => ?_; cbv)))
    all_goals try (refine putcaps_c (fun _ => (e .o).mt.caps) fun u hu => ?_; cbv; refine sixty1_c _ (by omega) fun t ht => ?_; have htl : (t .o).length ≤ 96 := Nat.le_trans ht (by omega); cbv)
    all_goals first
      | (refine app_one Xattr.ch Xattr.z l9 ⟨[71, 82, 73, 80, 83, 65, 67, 75, 46, 99, 97, 112, 115], t .o⟩ rfl (fun i hi => rfl) rfl rfl (by omega) ?_; cbv; refine ⟨l9 ++ [⟨[71, 82, 73, 80, 83, 65, 67, 75, 46, 99, 97, 112, 115], t .o⟩], ok9.put ⟨by (try dsimp only); simp only [List.length_cons, List.length_nil]; omega, by (try dsimp only); (try simp only [List.length_cons, List.length_nil]); omega⟩, ?_⟩; cbv; (repeat' (first | exact True.intro | exact Same.refl _ | exact SameB.refl _ | exact ⟨rfl⟩ | exact Same.int rfl | exact Same.str rfl | exact Same.bool rfl | (refine Same.int ?_; simp only [List.length_append, List.length_cons, List.length_nil, zi]; omega) | (refine SameB.row' rfl fun i hi => ?_; first | rfl | exact absurd hi (Nat.not_lt_zero _)) | refine And.intro ?_ ?_ | refine SameB.cells ?_ | exact SameC.nil | refine SameC.cons ?_ ?_ | exact Same.nsl rfl | exact Same.tt rfl | exact Same.ff rfl)); done)
      | (refine ⟨l9, ok9.mono (by decide), ?_⟩; cbv; (repeat' (first | exact True.intro | exact Same.refl _ | exact SameB.refl _ | exact ⟨rfl⟩ | exact Same.int rfl | exact Same.str rfl | exact Same.bool rfl | (refine Same.int ?_; simp only [List.length_append, List.length_cons, List.length_nil, zi]; omega) | (refine SameB.row' rfl fun i hi => ?_; first | rfl | exact absurd hi (Nat.not_lt_zero _)) | refine And.intro ?_ ?_ | refine SameB.cells ?_ | exact SameC.nil | refine SameC.cons ?_ ?_ | exact Same.nsl rfl | exact Same.tt rfl | exact Same.ff rfl)); done)
      | trace_state
  have hlen10 := ok10.len
  cbv
  refine recsx_c (fun _ => (e .o).mt.xs) h.xs h.long fun r okr => ?_
  have hrl := okr.len
  cbv
  refine app_rows Xattr.ch Xattr.z l10 (r .o) rfl (fun i hi => rfl) rfl (fun i hi => rfl) (by omega) ?_
  cbv
  exact ⟨_, .ret (.refl _), hr (fun _ => l10 ++ r .o) ((ok10.app okr).mono (by decide))⟩
end Go.Proofs.Ytgjlkcdnlndlnaa
/- The law PlanMade, walked: plans of what is made by numbers are the document's. -/
namespace Go.Proofs.Ytgjlkcdnlndlnaa
open Go Go.Proofs.Ytgjlkcdnlndlnaa.Sx F
set_option linter.unusedVariables false
set_option linter.unusedSimpArgs false
end Go.Proofs.Ytgjlkcdnlndlnaa
/- Whether an entry may be: walked, as far as plans want. -/
namespace Go.Proofs.Ytgjlkcdnlndlnaa
open Go Go.Proofs.Ytgjlkcdnlndlnaa.Sx F
set_option linter.unusedVariables false
set_option linter.unusedSimpArgs false
theorem cntN_mem {l : List Ace} {t : Nat} (h : cntN l l.length t = 1) : ∃ a ∈ l, a.tag = (t : Int) := by
  unfold cntN at h
  rw [List.take_length] at h
  have : 0 < l.countP fun a => decide (a.tag = (t : Int)) := by omega
  obtain ⟨a, h1, h2⟩ := List.countP_pos_iff.1 this
  exact ⟨a, h1, of_decide_eq_true h2⟩
theorem aclOk_at {l : List Ace} (h : AclOk l) {a : Ace} (ha : a ∈ l) : AceOk a := by
  obtain ⟨i, hi, rfl⟩ := List.getElem_of_mem ha
  have := h.to.ok i hi
  rwa [List.getD_eq_getElem?_getD, List.getElem?_eq_getElem hi] at this
theorem aclOk_good {l : List Ace} (h : AclOk l) : Good l :=
  ⟨fun a ha => by have := aclOk_at h ha; exact ⟨this.1, by have := this.2.1; omega⟩, cntN_mem h.own, cntN_mem h.grp, cntN_mem h.oth⟩
theorem good_meta {m : Meta} (h : m.acl = [] ∨ AclOk m.acl) : Good (ofS m) := by
  unfold ofS
  split
  · rename_i hl
    rcases h with q | q
    · rw [q] at hl; simp at hl
    · exact aclOk_good q
  · exact good_mode _
theorem getD_far {α : Type} (l : List α) (z : α) (k : Nat) (h : l.length ≤ k) : l.getD k z = z := by
  rw [List.getD_eq_getElem?_getD, List.getElem?_eq_none h]; rfl
theorem aclIn_of {l : List Ace} (h : l = [] ∨ AclOk l) : AclIn l := by
  rcases h with rfl | h
  · exact ⟨by decide, fun k => (by rw [getD_far _ _ _ (Nat.zero_le _)]; decide), fun k => (by rw [getD_far _ _ _ (Nat.zero_le _)]; decide)⟩
  · refine ⟨Nat.le_trans h.len (by decide), fun k => ?_, fun k => ?_⟩
    · rcases Nat.lt_or_ge k l.length with q | q
      · have := h.to.tag k q; omega
      · rw [getD_far _ _ _ q]; decide
    · rcases Nat.lt_or_ge k l.length with q | q
      · have := (h.to.ok k q).2.2; omega
      · rw [getD_far _ _ _ q]; decide
structure Light (e : Entry) : Prop where
  path : e.path.length ≤ 5000
  target : e.target.length ≤ 5000
  mt : MetaShort e.mt
def EntOk (e : Entry) : Prop := e.kind = 2 ∧ e.mt = metaZ ∨ MetaOk e.mt e.kind
theorem recsIn_of {e : Entry} (h : Light e) (g : EntOk e) : RecsIn e := by
  rcases g with ⟨_, g⟩ | g
  · exact ⟨h.path, h.target, by rw [g]; exact ⟨by decide, by decide⟩, by rw [g]; exact ⟨by decide, by decide⟩, by rw [g]; exact ⟨by decide, by decide, by decide, by decide⟩, by rw [g]; exact aclIn_of (.inl rfl), by rw [g]; exact aclIn_of (.inl rfl), h.mt.xs, h.mt.long⟩
  · exact ⟨h.path, h.target, g.uid, g.gid, g.stamp, aclIn_of (g.acl.imp_right fun q => q.1), aclIn_of (g.dflt.imp_right fun q => q.2), h.mt.xs, h.mt.long⟩
theorem heavyE_c (e : Th Entry) {d : Nat} {K : ARes → BL → Prop} (hr : ∀ b : Th Bool, (b .o = false → Light (e .o)) → K (.ret (.bool b)) .nil) : CallAt PT l15_Heavy [Entry.av e] d .nil K := by
  refine CallAt.res ?_
  refine l15_Heavy.of rfl rfl ?_
  cbv
  have fin : ∀ {y : AV}, Same y (.bool fun _ => true) → ∃ r', SameR (.ret y) r' ∧ K r' .nil := fun h2 => ⟨_, .ret h2, hr _ fun q => by cases q⟩
  refine br_rev (br_dec (fun h1 => ?_) (fun h1 => ?_))
  · cbv
    exact fin (.tt rfl)
  have h1 : (e .o).path.length ≤ 5000 := by have : ¬ 5000 < zi (e .o).path.length := h1; unfold zi at this; omega
  cbv
  refine br_rev (br_dec (fun h2 => ?_) (fun h2 => ?_))
  · cbv
    exact fin (.tt rfl)
  cbv
  refine br_rev (br_dec (fun h3 => ?_) (fun h3 => ?_))
  · cbv
    exact fin (.tt rfl)
  have h3 : (e .o).target.length ≤ 5000 := by have : ¬ 5000 < zi (e .o).target.length := h3; unfold zi at this; omega
  cbv
  refine heavym_c (fun _ => (e .o).mt) fun b hb => ?_
  cbv
  exact ⟨_, .ret (.refl _), hr b fun q => ⟨h1, h3, hb q⟩⟩
def metaZav : AV :=
  .agg (.cons (.int .i64 fun _ => 0) (.cons (.int .i64 fun _ => 0) (.cons (.int .i64 fun _ => 0) (.cons (.int .i64 fun _ => 0) (.cons (.int .i64 fun _ => 0) (.cons .nsl (.cons .nsl (.cons .nsl (.cons (.int .i64 fun _ => 0) (.cons (.int .u64 fun _ => 0) (.cons (.int .u64 fun _ => 0) (.cons .ff (.cons (.int .i64 fun _ => 0) (.cons (.int .i64 fun _ => 0) .nil))))))))))))))
theorem metaZav_same : Same metaZav (Meta.av fun _ => metaZ) :=
  .agg (.cons (.int rfl) (.cons (.int rfl) (.cons (.int rfl) (.cons (.int rfl) (.cons (.int rfl) (.cons nsl_aces (.cons nsl_aces (.cons nsl_xattrs (.cons (.int rfl) (.cons (.int rfl) (.cons (.int rfl) (.cons ff_bool (.cons (.int rfl) (.cons (.int rfl) .nil))))))))))))))
theorem may15E_c (e : Th Entry) (h : Light (e .o)) {d : Nat} {K : ARes → BL → Prop} (hr : ∀ b : Th Bool, (b .o = true → EntOk (e .o)) → K (.ret (.bool b)) .nil) : CallAt PT r15_May [Entry.av e] d .nil K := by
  have hp := h.path
  have ht := h.target
  refine CallAt.res ?_
  refine r15_May.of rfl rfl ?_
  cbv
  have no : ∃ r', SameR (.ret .ff) r' ∧ K r' .nil := ⟨_, .ret (y := .bool fun _ => false) (.ff rfl), hr (fun _ => false) fun q => by cases q⟩
  refine path15_c _ (by (try dsimp only); omega) fun b1 _ => ?_
  cbv
  (repeat' (first | (refine br_nbool (fun _ => ?_) (fun _ => ?_) <;> cbv) | (refine br_rev (br_nbool (fun _ => ?_) (fun _ => ?_)) <;> cbv) | (refine br_dec (fun q => ?_) (fun q => ?_) <;> cbv) | (refine br_rev (br_dec (fun q => ?_) (fun q => ?_)) <;> cbv)))
  all_goals try exact no
  all_goals (refine maybody_c _ _ _ _ _ (by (try dsimp only); omega) fun b2 => ?_; cbv)
  all_goals first | refine br_nbool (fun _ => ?_) (fun _ => ?_) | refine br_rev (br_nbool (fun _ => ?_) (fun _ => ?_))
  all_goals cbv
  all_goals try exact no
  all_goals refine br_dec (fun q2 => ?_) (fun q2 => ?_)
  all_goals cbv
  · refine CallAt.args (.cons (.refl _) (.cons metaZav_same .nil)) ?_
    refine sameM_c (fun _ => (e .o).mt) (fun _ => metaZ) h.mt.acl h.mt.dflt h.mt.xs fun b3 hb3 => ?_
    cbv
    refine br_nbool (fun q3 => ?_) (fun q3 => ?_)
    all_goals cbv
    focus exact no
    have hE : EntOk (e .o) := .inl ⟨q2, hb3.1 q3⟩
    refine recs15_c e (recsIn_of h hE) fun rs hrs => ?_
    cbv
    refine loop_at (X := Nat × Int) 1000 [3] [] (fun _ x => .cons 4 (.int .i64 fun _ => x.2) (.cons 5 (.int .i64 fun _ => zi x.1) .nil)) (fun _ _ => .nil) (fun x => x.1 ≤ (rs .o).length) (fun x => (rs .o).length - x.1) (0, 0) ?_ (Nat.zero_le _) ?_
    · cbv
      (repeat' (first | exact True.intro | exact Same.refl _ | exact SameB.refl _ | exact ⟨rfl⟩ | exact Same.int rfl | exact Same.str rfl | exact Same.bool rfl | (refine Same.int ?_; simp only [List.length_append, List.length_cons, List.length_nil, zi]; omega) | (refine SameB.row' rfl fun i hi => ?_; first | rfl | exact absurd hi (Nat.not_lt_zero _)) | refine And.intro ?_ ?_ | refine SameB.cells ?_ | exact SameC.nil | refine SameC.cons ?_ ?_ | exact Same.nsl rfl | exact Same.tt rfl | exact Same.ff rfl))
    · rintro ⟨k, n⟩ hk
      dsimp only at hk
      cbv
      refine br_zlt (fun h1 => ?_) (fun h1 => ?_)
      · have h1 : k < (rs .o).length := h1
        have hrk := hrs.at k
        have hz := zi_toNat k
        have hlen := hrs.len
        cbv
        refine safe ⟨zi_nonneg _, zi_lt.2 h1⟩ ?_
        refine mayrec_c (fun _ => (rs .o).getD (zi k).toNat Xattr.z) (by (try dsimp only); rw [hz]; have := hrk.1; omega) (by (try dsimp only); rw [hz]; have := hrk.2; omega) fun b4 => ?_
        cbv
        refine br_nbool (fun q4 => ?_) (fun q4 => ?_)
        all_goals cbv
        focus exact no
        refine safe ⟨zi_nonneg _, zi_lt.2 h1⟩ ?_
        refine putrec_c (fun _ => (rs .o).getD (zi k).toNat Xattr.z) (by (try dsimp only); rw [hz]; have := hrk.1; omega) (by (try dsimp only); rw [hz]; have := hrk.2; omega) fun t htl => ?_
        cbv
        apply Exists.intro (k + 1, _)
        refine ⟨h1, by show _ - (k + 1) < _ - k; omega, ?_⟩
        cbv
        rw [zi_succ (by omega)]
        (repeat' (first | exact True.intro | exact Same.refl _ | exact SameB.refl _ | exact ⟨rfl⟩ | exact Same.int rfl | exact Same.str rfl | exact Same.bool rfl | (refine Same.int ?_; simp only [List.length_append, List.length_cons, List.length_nil, zi]; omega) | (refine SameB.row' rfl fun i hi => ?_; first | rfl | exact absurd hi (Nat.not_lt_zero _)) | refine And.intro ?_ ?_ | refine SameB.cells ?_ | exact SameC.nil | refine SameC.cons ?_ ?_ | exact Same.nsl rfl | exact Same.tt rfl | exact Same.ff rfl))
      · cbv
        exact ⟨_, .ret (.refl _), hr _ fun _ => hE⟩
  · refine maymeta9_c (fun _ => (e .o).mt) (fun _ => (e .o).kind) h.mt fun b3 hb3 => ?_
    cbv
    refine br_nbool (fun q3 => ?_) (fun q3 => ?_)
    all_goals cbv
    focus exact no
    have hE : EntOk (e .o) := .inr (hb3.1 q3)
    refine recs15_c e (recsIn_of h hE) fun rs hrs => ?_
    cbv
    refine loop_at (X := Nat × Int) 1000 [3] [] (fun _ x => .cons 4 (.int .i64 fun _ => x.2) (.cons 5 (.int .i64 fun _ => zi x.1) .nil)) (fun _ _ => .nil) (fun x => x.1 ≤ (rs .o).length) (fun x => (rs .o).length - x.1) (0, 0) ?_ (Nat.zero_le _) ?_
    · cbv
      (repeat' (first | exact True.intro | exact Same.refl _ | exact SameB.refl _ | exact ⟨rfl⟩ | exact Same.int rfl | exact Same.str rfl | exact Same.bool rfl | (refine Same.int ?_; simp only [List.length_append, List.length_cons, List.length_nil, zi]; omega) | (refine SameB.row' rfl fun i hi => ?_; first | rfl | exact absurd hi (Nat.not_lt_zero _)) | refine And.intro ?_ ?_ | refine SameB.cells ?_ | exact SameC.nil | refine SameC.cons ?_ ?_ | exact Same.nsl rfl | exact Same.tt rfl | exact Same.ff rfl))
    · rintro ⟨k, n⟩ hk
      dsimp only at hk
      cbv
      refine br_zlt (fun h1 => ?_) (fun h1 => ?_)
      · have h1 : k < (rs .o).length := h1
        have hrk := hrs.at k
        have hz := zi_toNat k
        have hlen := hrs.len
        cbv
        refine safe ⟨zi_nonneg _, zi_lt.2 h1⟩ ?_
        refine mayrec_c (fun _ => (rs .o).getD (zi k).toNat Xattr.z) (by (try dsimp only); rw [hz]; have := hrk.1; omega) (by (try dsimp only); rw [hz]; have := hrk.2; omega) fun b4 => ?_
        cbv
        refine br_nbool (fun q4 => ?_) (fun q4 => ?_)
        all_goals cbv
        focus exact no
        refine safe ⟨zi_nonneg _, zi_lt.2 h1⟩ ?_
        refine putrec_c (fun _ => (rs .o).getD (zi k).toNat Xattr.z) (by (try dsimp only); rw [hz]; have := hrk.1; omega) (by (try dsimp only); rw [hz]; have := hrk.2; omega) fun t htl => ?_
        cbv
        apply Exists.intro (k + 1, _)
        refine ⟨h1, by show _ - (k + 1) < _ - k; omega, ?_⟩
        cbv
        rw [zi_succ (by omega)]
        (repeat' (first | exact True.intro | exact Same.refl _ | exact SameB.refl _ | exact ⟨rfl⟩ | exact Same.int rfl | exact Same.str rfl | exact Same.bool rfl | (refine Same.int ?_; simp only [List.length_append, List.length_cons, List.length_nil, zi]; omega) | (refine SameB.row' rfl fun i hi => ?_; first | rfl | exact absurd hi (Nat.not_lt_zero _)) | refine And.intro ?_ ?_ | refine SameB.cells ?_ | exact SameC.nil | refine SameC.cons ?_ ?_ | exact Same.nsl rfl | exact Same.tt rfl | exact Same.ff rfl))
      · cbv
        exact ⟨_, .ret (.refl _), hr _ fun _ => hE⟩
end Go.Proofs.Ytgjlkcdnlndlnaa
/- degrade.Result: a loop over slices.Backward, by hand. -/
namespace Go.Proofs.Ytgjlkcdnlndlnaa
open Go Go.RowKit Go.Shelf
set_option linter.unusedVariables false
set_option linter.unusedSimpArgs false
attribute [local go_sem] Oper.semAt_some
structure Item where
  path : List UInt8
  attr : Int
  res : Int
def Item.z : Item := ⟨[], 0, 0⟩
def Item.v (x : Item) : Value := .agg #[.string ⟨x.path.toArray⟩, .int .i64 x.attr, .int .i64 x.res]
/-- The block b holds the items zs from off on. -/
def ItemsAt (b off : Nat) (zs : List Item) (W : World) : Prop := ∀ j, j < zs.length → W.cell? ⟨b, off + j * 3, none⟩ = some (.string ⟨(zs[j]?.getD Item.z).path.toArray⟩) ∧ W.cell? ⟨b, off + j * 3 + 1, none⟩ = some (.int .i64 (zs[j]?.getD Item.z).attr) ∧ W.cell? ⟨b, off + j * 3 + 2, none⟩ = some (.int .i64 (zs[j]?.getD Item.z).res)
def backs (zs : List Item) (k : Nat) : List (Int × Item) := (List.range k).map fun (j : Nat) => ((zs.length : Int) - 1 - j, zs[zs.length - 1 - j]?.getD Item.z)
theorem backs_succ (zs : List Item) (k : Nat) : backs zs (k + 1) = backs zs k ++ [((zs.length : Int) - 1 - k, zs[zs.length - 1 - k]?.getD Item.z)] := by simp [backs, List.range_succ]
theorem backs_length (zs : List Item) (k : Nat) : (backs zs k).length = k := by simp [backs]
set_option maxRecDepth 100000 in
set_option maxHeartbeats 2000000 in
theorem back1_in (F : Fence) (n : Nat) (h8 : F.fn 102) (hro : F.round = none) (hn : 1 ≤ n) (l Bs n₀ : Nat) (a : Option Addr) (cap : Nat) (zs : List Item) (hreach : zs.length ≤ 140737488351232) (J Jx : List (Int × Item) → World → Prop)
    (hY : ∀ pre x W, J pre W → pre.length < zs.length → YieldAt F (n - 1) Try.prog l #[.int .i64 x.1, x.2.v] W fun e W' =>
      (e = .returned (.bool true) ∧ J (pre ++ [x]) W' ∧ Below n₀ W W') ∨ (e = .returned (.bool false) ∧ Jx (pre ++ [x]) W'))
    (W : World) (hBs : W.cell? ⟨Bs, 0, none⟩ = some (.slice a zs.length cap)) (hBl : Bs < n₀) (hc : zs.length ≠ 0 → ∃ b off, a = some ⟨b, off, none⟩ ∧ b < n₀ ∧ ItemsAt b off zs W) (h0 : J [] W) :
    CallsIn F n Try.prog 102 #[.func (.yield l) #[] #[], .pointer (some ⟨Bs, 0, none⟩)] W fun e W' => (∃ v, e = .returned v) ∧
      ((∃ ys, ys = backs zs zs.length ∧ J ys W') ∨ (∃ pre, (∃ k, k ≤ zs.length ∧ pre = backs zs k) ∧ Jx pre W')) := by
  refine callsIn_of_wp Try.func102 rfl h8 ?_ hro
  simp only [Try.ntmps102, List.size_toArray, List.length_cons, List.length_nil, Nat.reduceAdd, Nat.reduceSub, Array.replicate_succ, Array.replicate_zero, List.push_toArray, List.append_toArray, List.nil_append, List.cons_append]
  gi_wp2
  gi_loopw [3] (fun i wr => ∃ k : Nat, k ≤ zs.length ∧ i = .int .i64 ((zs.length : Int) - 1 - k) ∧ J (backs zs k) wr ∧ Below n₀ W wr)
    (fun i _ => (intOf i + 1).toNat)
  case atStart => exact ⟨0, Nat.zero_le _, by simp, h0, Below.refl _ _⟩
  case round =>
    obtain ⟨k, hk, rfl, hJs, hnx⟩ := hrel
    have hBx : wr.cell? ⟨Bs, 0, none⟩ = some (.slice a zs.length cap) := (hnx.cell (p := ⟨Bs, 0, none⟩) hBl).trans hBs
    by_cases hlt : k < zs.length
    · obtain ⟨fn, tmps, assign, body, hy, hR⟩ := hY _ ((zs.length : Int) - 1 - k, zs[zs.length - 1 - k]?.getD Item.z) wr hJs (by rw [backs_length]; exact hlt)
      dsimp only [Item.v] at hy
      obtain ⟨b, off, rfl, hb, hi⟩ := hc (by omega)
      obtain ⟨c1, c2, c3⟩ := hi (zs.length - 1 - k) (by omega)
      have d1 := (hnx.cell (p := ⟨b, _, none⟩) hb).trans c1
      have d2 := (hnx.cell (p := ⟨b, _, none⟩) hb).trans c2
      have d3 := (hnx.cell (p := ⟨b, _, none⟩) hb).trans c3
      gi_wp2
      refine hR.mono ?_
      rintro e W3 (⟨rfl, hJ3, hk3⟩ | ⟨rfl, hJx3⟩)
      · gi_wp2
        go_roundw
        case rel => exact ⟨k + 1, by omega, by simp; omega, by rw [backs_succ]; exact hJ3, hnx.trans hk3⟩
        case measure => simp [intOf]; omega
      · gi_wp2
        refine bodyPost_ret (results_none rfl _ _ _) rfl ?_
        exact ⟨⟨_, rfl⟩, .inr ⟨_, ⟨k + 1, by omega, (backs_succ _ _).symm⟩, hJx3⟩⟩
    · obtain rfl : k = zs.length := by omega
      gi_wp2
      go_end0
      exact ⟨⟨_, rfl⟩, .inl ⟨_, rfl, hJs⟩⟩
set_option maxHeartbeats 1000000 in
theorem back_in (F : Fence) (n : Nat) (h5 : F.fn 56) (hro : F.round = none) (a : Option Addr) (len cap : Nat) (w : World) :
    CallsIn F n Try.prog 56 #[.slice a len cap] w fun e w' => e = .returned (.func (.func 102) #[] #[.pointer (some ⟨w.heap.size, 0, none⟩)]) ∧ w' = w.alloc (.cells #[.slice a len cap] 46) := by
  refine callsIn_of_wp Try.func56 rfl h5 ?_ hro
  simp only [Try.ntmps56, List.size_toArray, List.length_cons, List.length_nil, Nat.reduceAdd, Nat.reduceSub, Array.replicate_succ, Array.replicate_zero, List.push_toArray, List.append_toArray, List.nil_append, List.cons_append]
  gi_wp2
  go_ret
  exact ⟨rfl, rfl⟩
/-- What holds of a slice's items. -/
def ItemsOf (n₀ : Nat) (W : World) (a : Option Addr) (zs : List Item) : Prop := zs.length ≠ 0 → ∃ b off, a = some ⟨b, off, none⟩ ∧ b < n₀ ∧ ItemsAt b off zs W
theorem ItemsOf.below {n₀ : Nat} {A B : World} (h : Below n₀ A B) {a : Option Addr} {zs : List Item} (hi : ItemsOf n₀ A a zs) : ItemsOf n₀ B a zs := fun hz => by
  obtain ⟨b, off, h1, h2, h3⟩ := hi hz
  exact ⟨b, off, h1, h2, fun j hj => ⟨(h.cell (p := ⟨b, _, none⟩) h2).trans (h3 j hj).1, (h.cell (p := ⟨b, _, none⟩) h2).trans (h3 j hj).2.1, (h.cell (p := ⟨b, _, none⟩) h2).trans (h3 j hj).2.2⟩⟩
theorem back_stops (F : Fence) (n : Nat) (h8 : F.fn 102) (hro : F.round = none) (hn : 1 ≤ n) (Bs n₀ : Nat) (a : Option Addr) (cap : Nat) (zs : List Item) (hreach : zs.length ≤ 140737488351232) (w : World) (hBs : Bs < w.heap.size) (hBl : n₀ ≤ Bs)
    (hc : w.cell? ⟨Bs, 0, none⟩ = some (.slice a zs.length cap)) (hI : ItemsOf n₀ w a zs) :
    SeqStopsK F n Try.prog 102 #[.pointer (some ⟨Bs, 0, none⟩)] (fun x : Int × Item => #[Value.int .i64 x.1, x.2.v]) (Below (Bs + 1)) (fun ys => ys = backs zs zs.length)
      (fun pre => ∃ k, k ≤ zs.length ∧ pre = backs zs k) zs.length w := fun l J Jx W hW _ _ hY h0 => by
  have hc' := (hW.cell (p := ⟨Bs, 0, none⟩) hBs).trans hc
  have hI' := hI.below (hW.mono (by omega))
  exact back1_in F n h8 hro hn l Bs (Bs + 1) a cap zs hreach J Jx hY W hc' (by omega) (fun hz => by obtain ⟨b, off, h1, h2, h3⟩ := hI' hz; exact ⟨b, off, h1, by omega, h3⟩) h0
/-- What a report says last of an attribute. -/
def lastR (l : List Item) (p : List UInt8) (a : Int) : Int := ((l.reverse.find? fun x => decide (x.path = p ∧ x.attr = a)).map (·.res)).getD 0
/-- The block B holds the item x. -/
def ItemIn (W : World) (B : Nat) (x : Item) : Prop := W.heap[B]? = some (.cells #[.string ⟨x.path.toArray⟩, .int .i64 x.attr, .int .i64 x.res] 56 (0, 0))
theorem ItemIn.cells {W : World} {B : Nat} {x : Item} (h : ItemIn W B x) : W.cell? ⟨B, 0, none⟩ = some (.string ⟨x.path.toArray⟩) ∧ W.cell? ⟨B, 1, none⟩ = some (.int .i64 x.attr) ∧ W.cell? ⟨B, 2, none⟩ = some (.int .i64 x.res) :=
  ⟨by simp [World.cell?, show W.heap[B]? = _ from h], by simp [World.cell?, show W.heap[B]? = _ from h], by simp [World.cell?, show W.heap[B]? = _ from h]⟩
theorem itemIn_own (B : Nat) (x : Item) : Own (fun (_ : Unit) W => ItemIn W B x) := fun s X Y row hs hg hrow =>
  (hg.block B (Array.getElem?_eq_some_iff.1 hs).1 (fun e' => by obtain ⟨o, ho, hc⟩ := hrow B e'.symm; rw [show X.heap[B]? = _ from hs] at ho; cases ho; cases hc)).trans hs
theorem backs_snd (zs : List Item) (k : Nat) (hk : k ≤ zs.length) : (backs zs k).map (·.2) = zs.reverse.take k := by
  apply List.ext_getElem
  · simp [backs, hk]
  · intro i h1 h2
    have hi : i < k := by simp [backs] at h1; exact h1
    have h3 : zs.length - 1 - i < zs.length := by omega
    simp [backs, h3]
/-- What the report says, out of a prefix of what comes. -/
def hit (p : List UInt8) (a : Int) (x : Item) : Bool := decide (x.path = p ∧ x.attr = a)
theorem lastR_none {zs : List Item} {p : List UInt8} {a : Int} (h : ∀ y ∈ backs zs zs.length, hit p a y.2 = false) : lastR zs p a = 0 := by
  unfold lastR
  rw [List.find?_eq_none.2 fun x hx => ?_]
  · rfl
  · have : x ∈ (backs zs zs.length).map (·.2) := by rw [backs_snd zs _ (Nat.le_refl _), List.take_of_length_le (by simp)]; exact hx
    obtain ⟨y, hy, rfl⟩ := List.mem_map.1 this
    have := h y hy
    unfold hit at this
    simp [this]
theorem lastR_some {zs : List Item} {p : List UInt8} {a : Int} {k : Nat} {pre : List (Int × Item)} {y : Int × Item} (hk : k ≤ zs.length) (e : pre ++ [y] = backs zs k) (h : ∀ z ∈ pre, hit p a z.2 = false) (hy : hit p a y.2 = true) : lastR zs p a = y.2.res := by
  unfold lastR
  have h1 : zs.reverse = (pre.map (·.2) ++ [y.2]) ++ zs.reverse.drop k := by
    rw [show pre.map (·.2) ++ [y.2] = (pre ++ [y]).map (·.2) by simp, e, backs_snd zs k hk, List.take_append_drop]
  rw [h1, List.append_assoc, List.find?_append, List.find?_eq_none.2 fun x hx => ?_]
  · obtain ⟨e1, e2⟩ := of_decide_eq_true (show decide (y.2.path = p ∧ y.2.attr = a) = true from hy)
    simp [e1, e2]
  · obtain ⟨z, hz, rfl⟩ := List.mem_map.1 hx
    have := h z hz
    unfold hit at this
    simp [this]
set_option maxRecDepth 100000 in
set_option maxHeartbeats 4000000 in
theorem result_in (F : Fence) (n : Nat) (h3 : F.fn 27) (h5 : F.fn 56) (h6 : F.fn 102) (hro : F.round = none) (hn : 4 ≤ n)
    (a : Option Addr) (cap : Nat) (zs : List Item) (hreach : zs.length ≤ 140737488351232) (pt : List UInt8) (at' : Int) (w : World) (hL : ItemsOf w.heap.size w a zs) :
    CallsIn F n Try.prog 27 #[.slice a zs.length cap, .string ⟨pt.toArray⟩, .int .i64 at'] w fun e W' => e = .returned (.int .i64 (lastR zs pt at')) ∧ Below w.heap.size w W' := by
  have h1 : 1 ≤ n := by omega
  refine callsIn_of_wp_marks Try.func27 rfl h3 ?_ hro
  simp only [Try.ntmps27, List.size_toArray, List.length_cons, List.length_nil, Nat.reduceAdd, Nat.reduceSub, Array.replicate_succ, Array.replicate_zero, List.push_toArray, List.append_toArray, List.nil_append, List.cons_append]
  gi_wp2_with (gi_at_call 56; refine (back_in F (n - 1) h5 hro _ _ _ _).mono ?_; rintro e w' ⟨rfl, rfl⟩)
  have bP := (((Boxed.new w 9 (.string ⟨pt.toArray⟩)).alloc (.cells #[.int .i64 at'] 3)).alloc (.cells #[.int .i64 0] 3)).alloc (.cells #[.slice a zs.length cap] 46)
  have bA := ((Boxed.new (w.alloc (.cells #[.string ⟨pt.toArray⟩] 9)) 3 (.int .i64 at')).alloc (.cells #[.int .i64 0] 3)).alloc (.cells #[.slice a zs.length cap] 46)
  have bR := (Boxed.new ((w.alloc (.cells #[.string ⟨pt.toArray⟩] 9)).alloc (.cells #[.int .i64 at'] 3)) 3 (.int .i64 0)).alloc (.cells #[.slice a zs.length cap] 46)
  have bS := Boxed.new (((w.alloc (.cells #[.string ⟨pt.toArray⟩] 9)).alloc (.cells #[.int .i64 at'] 3)).alloc (.cells #[.int .i64 0] 3)) 46 (.slice a zs.length cap)
  simp only [World.size_alloc] at bA bR bS
  have hB0 : Below w.heap.size w ((((w.alloc (.cells #[.string ⟨pt.toArray⟩] 9)).alloc (.cells #[.int .i64 at'] 3)).alloc (.cells #[.int .i64 0] 3)).alloc (.cells #[.slice a zs.length cap] 46)) :=
    ((((Below.refl _ w).alloc (Nat.le_refl _) _).alloc (by simp) _).alloc (by simp; omega) _).alloc (by simp; omega) _
  have hsz : ((((w.alloc (.cells #[.string ⟨pt.toArray⟩] 9)).alloc (.cells #[.int .i64 at'] 3)).alloc (.cells #[.int .i64 0] 3)).alloc (.cells #[.slice a zs.length cap] 46)).heap.size = w.heap.size + 4 := by simp
  obtain ⟨W0, hW0⟩ : ∃ W0, ((((w.alloc (.cells #[.string ⟨pt.toArray⟩] 9)).alloc (.cells #[.int .i64 at'] 3)).alloc (.cells #[.int .i64 0] 3)).alloc (.cells #[.slice a zs.length cap] 46)) = W0 := ⟨_, rfl⟩
  rw [hW0] at bP bA bR bS hB0 hsz ⊢
  clear hW0
  refine wpIn_rangeFunc_ownH hro h1 (gf := 102) (lb := #[.pointer (some ⟨w.heap.size + 1 + 1 + 1, 0, none⟩)]) rfl h6 (enters_of Try.func102 (by kernel_rfl) rfl)
    (back_stops F (n - 1) h6 hro (by omega) (w.heap.size + 1 + 1 + 1) w.heap.size a cap zs hreach W0 (by omega) (by omega) bS.cell (hL.below hB0)) belowK_t (belowK_b (by omega)) (Below.refl _ _) (fun _ => rfl)
    (fun pre W => (((Boxed W (w.heap.size + 1 + 1) 3 (.int .i64 0) ∧ Boxed W w.heap.size 9 (.string ⟨pt.toArray⟩)) ∧ Boxed W (w.heap.size + 1) 3 (.int .i64 at')) ∧ (Below w.heap.size w W ∧ Below w.heap.size W0 W)) ∧ ∀ y ∈ pre, hit pt at' y.2 = false)
    (fun c pre W => ((∃ v, Boxed W (w.heap.size + 1 + 1) 3 (.int .i64 v) ∧ ∃ pre' y, v = y.2.res ∧ pre = pre' ++ [y] ∧ (∀ z ∈ pre', hit pt at' z.2 = false) ∧ hit pt at' y.2 = true) ∧ Below w.heap.size w W) ∧ c = .ret)
    (OwnFrom.and (OwnFrom.and (OwnFrom.and (OwnFrom.and (Own.from (boxed_own _ _ _) _) (Own.from (boxed_own _ _ _) _)) (Own.from (boxed_own _ _ _) _)) (OwnFrom.and (ownFrom_below (Nat.le_refl _) (by omega)) (ownFrom_below (by omega) (by omega)))) (ownFrom_pure _ _))
    (fun c => OwnFrom.and (OwnFrom.and (fun s X Y row hs hg hr => by obtain ⟨v, h1, h2⟩ := hs; exact ⟨v, Own.from (boxed_own (w.heap.size + 1 + 1) 3 (fun (_ : Unit) => Value.int .i64 v)) _ () X Y row h1 hg hr, h2⟩) (ownFrom_below (Nat.le_refl _) (by omega))) (ownFrom_pure _ _))
    ⟨⟨⟨⟨bR, bP⟩, bA⟩, hB0, Below.refl _ _⟩, fun _ h => (List.not_mem_nil h).elim⟩
    (fun x a' W => ∃ Bx, w.heap.size + 3 < Bx ∧ ItemIn W Bx x.2 ∧ a' = { tmps := #[.slice a zs.length cap, .string ⟨pt.toArray⟩, .int .i64 at', undef, .pointer (some ⟨w.heap.size, 0, none⟩), .pointer (some ⟨w.heap.size + 1, 0, none⟩), .pointer (some ⟨w.heap.size + 1 + 1, 0, none⟩), undef, .pointer (some ⟨Bx, 0, none⟩), .slice a zs.length cap, .func (.func 102) #[] #[.pointer (some ⟨w.heap.size + 1 + 1 + 1, 0, none⟩)], .int .i64 x.1, x.2.v, undef, undef, undef, undef, undef, undef, undef, undef, undef, undef, undef, undef], defers := [] })
    (fun x a' _ X Y row hs hg hr => by obtain ⟨Bx, h1, h2, h3⟩ := hs; exact ⟨Bx, h1, itemIn_own Bx x.2 () X Y row h2 hg (fun r e => (hr r e).2), h3⟩)
    ?assign ?body ?done ?stop
  case assign =>
    rintro l pre ⟨x1, x2⟩ W K ⟨⟨⟨⟨bR1, bP1⟩, bA1⟩, hB1, hB2⟩, hp⟩ hK
    dsimp only [Item.v] at hK ⊢
    gi_wp2
    exact hK _ _ ((KeepsOthers.alloc _ _).from _) ((Below.refl _ W).alloc (by have := bR1.lt; have := hB2.size; omega) _) ⟨⟨⟨⟨bR1.alloc _, bP1.alloc _⟩, bA1.alloc _⟩, hB1.alloc hB1.size _, hB2.alloc hB1.size _⟩, hp⟩ ⟨W.heap.size, by have := hB2.size; omega, World.alloc_heap_new W _, rfl⟩
  case body =>
    rintro l pre ⟨x1, x2⟩ a' W hl ⟨r, hr⟩ ⟨⟨⟨⟨bR1, bP1⟩, bA1⟩, hB1, hB2⟩, hp⟩ ⟨Bx, hBx, bX, rfl⟩ hlt
    dsimp only at bX
    obtain ⟨x1, x2, x3⟩ := bX.cells
    have cP := bP1.cell
    have cA := bA1.cell
    have cR := bR1.cell
    have fR := bR1.frozen
    gi_wp2
    · rename_i e1 e2
      exact ⟨(KeepsOthers.setCell _ _ _).from _, ⟨⟨_, bR1.set _, pre, _, rfl, rfl, hp, decide_eq_true ⟨e1, by simpa using e2⟩⟩, hB1.setCell (p := ⟨w.heap.size + 1 + 1, 0, none⟩) (by show w.heap.size ≤ w.heap.size + 1 + 1; omega) _⟩, rfl⟩
    · rename_i e1 e2
      exact ⟨(KeepsOthers.refl _).from _, Below.refl _ _, ⟨⟨⟨bR1, bP1⟩, bA1⟩, hB1, hB2⟩, fun y hy => (List.mem_append.1 hy).elim (hp y) fun e => by obtain rfl := List.mem_singleton.1 e; exact decide_eq_false fun h => by have h2 := h.2; simp only at h2; simp [h2] at e2⟩
    · rename_i e1
      exact ⟨(KeepsOthers.refl _).from _, Below.refl _ _, ⟨⟨⟨bR1, bP1⟩, bA1⟩, hB1, hB2⟩, fun y hy => (List.mem_append.1 hy).elim (hp y) fun e => by obtain rfl := List.mem_singleton.1 e; exact decide_eq_false fun h => e1 h.1⟩
  case done =>
    rintro D zs' W hD rfl ⟨⟨⟨⟨bR1, bP1⟩, bA1⟩, hB1, hB2⟩, hp⟩ hK
    have cR := bR1.cell
    have fR := bR1.frozen
    gi_wp2
    have hK' := (KeepsOthers.setCell W ⟨w.heap.size + 1 + 1, 0, none⟩ (.int .i64 0)).same D _ hK rfl
    refine ⟨by simp, .inl ⟨_, _, rfl, run_takeDeferred hK', ?_⟩⟩
    have hc5 := cell_kept (World.cell?_setCell_same' W ⟨w.heap.size + 1 + 1, 0, none⟩ (.int .i64 0) (by rw [cR]; rfl)) (grownBy_putObj' _ D (.deferred none)) (fun r e => by cases e; exact ⟨_, hK', rfl⟩)
    refine ⟨.int .i64 0, ?_, by rw [lastR_none hp], (hB1.setCell (p := ⟨w.heap.size + 1 + 1, 0, none⟩) (by show w.heap.size ≤ w.heap.size + 1 + 1; omega) _).trans (belowK_b (w := w) (Nat.le_refl _) _ D _ _ (by omega) hK' rfl rfl)⟩
    simp [results, Try.f27, go_sem, hc5]
  case stop =>
    rintro D c pre W hD ⟨k, hk, hpre⟩ ⟨⟨⟨v, bR1, pre', y, rfl, rfl, h5, h6⟩, hB1⟩, rfl⟩ hK
    have cR := bR1.cell
    gi_wp2
    refine ⟨by simp, .inl ⟨_, _, rfl, run_takeDeferred hK, ?_⟩⟩
    have hc5 := cell_kept cR (grownBy_putObj' _ D (.deferred none)) (fun r e => by cases e; exact ⟨_, hK, rfl⟩)
    refine ⟨.int .i64 y.2.res, ?_, by rw [lastR_some hk hpre h5 h6], hB1.trans (belowK_b (w := w) (Nat.le_refl _) W D _ _ (by omega) hK rfl rfl)⟩
    simp [results, Try.f27, go_sem, hc5]
/-- **degrade.Result(l, path, attr)**: what the report says last; nothing that lay there is turned. -/
theorem result_calls (a : Option Addr) (cap : Nat) (zs : List Item) (hreach : zs.length ≤ 140737488351232) (pt : List UInt8) (at' : Int) (w : World) (hL : ItemsOf w.heap.size w a zs) :
    Calls Try.prog 27 #[.slice a zs.length cap, .string ⟨pt.toArray⟩, .int .i64 at'] w fun e W' => e = .returned (.int .i64 (lastR zs pt at')) ∧ Below w.heap.size w W' :=
  callsIn_wide.1 (result_in Fence.wide 4 trivial trivial trivial rfl (Nat.le_refl _) a cap zs hreach pt at' w hL)
end Go.Proofs.Ytgjlkcdnlndlnaa
/- What a report says of a node: walked. -/
namespace Go.Proofs.Ytgjlkcdnlndlnaa
open Go Go.Proofs.Ytgjlkcdnlndlnaa.Sx F
set_option linter.unusedVariables false
set_option linter.unusedSimpArgs false
def Item.ch (x : Th Item) : AV := .cons (.str fun _ => (x .o).path) (.cons (.int .i64 fun _ => (x .o).attr) (.cons (.int .i64 fun _ => (x .o).res) .nil))
def items (l : Th (List Item)) : AV := .sl 3 (fun _ => (l .o).length) fun i => Item.ch fun _ => (l .o).getD (i .o) Item.z
/-- degrade.Result. -/
theorem degRes_c (l : Th (List Item)) (p : Th (List UInt8)) (a : Th Int) (hl : (l .o).length ≤ 140737488351232) {d : Nat} {K : ARes → BL → Prop} (hr : ∀ n : Th Int, n .o = lastR (l .o) (p .o) (a .o) → K (.ret (.int .i64 n)) .nil) :
    CallAt PT 27 [items l, .str p, .int .i64 a] d .nil K := by
  refine CallAt.of_below (by kernel_rfl) fun E vs hb hv => ?_
  obtain ⟨v1, r1, rfl, h1, v2, r2, rfl, h2, v3, r3, rfl, h3, rfl⟩ : ∃ v1 r1, vs = v1 :: r1 ∧ Rp E (items l) v1 ∧ ∃ v2 r2, r1 = v2 :: r2 ∧ Rp E (.str p) v2 ∧ ∃ v3 r3, r2 = v3 :: r3 ∧ Rp E (.int .i64 a) v3 ∧ r3 = [] := hv
  obtain rfl : v2 = .string ⟨(p .o).toArray⟩ := h2
  obtain rfl : v3 = .int .i64 (a .o) := h3
  obtain ⟨ad, cap, rfl, hcap, hc⟩ : ∃ ad cap, v1 = .slice ad (l .o).length cap ∧ (l .o).length ≤ cap ∧ ∀ i, i < (l .o).length → ((Item.ch fun _ => (l .o).getD i Item.z).okE ∧ (Item.ch fun _ => (l .o).getD i Item.z).len = 3) ∧ ∃ b o, ad = some ⟨b, o, none⟩ ∧ MemC E (Item.ch fun _ => (l .o).getD i Item.z) b (o + i * 3) := h1
  refine (result_calls ad cap (l .o) hl (p .o) (a .o) E.w fun hz => ?_).mono ?_
  · obtain ⟨_, b, o, rfl, hm⟩ := hc 0 (by omega)
    refine ⟨b, o, rfl, ?_, fun j hj => ?_⟩
    · obtain ⟨⟨v, _, hi, _⟩, _⟩ := hm
      exact hb _ _ hi
    · obtain ⟨_, b', o', e, hm'⟩ := hc j hj
      cases e
      obtain ⟨⟨u1, k1, _, q1⟩, ⟨u2, k2, _, q2⟩, ⟨u3, k3, _, q3⟩, _⟩ := hm'
      obtain rfl : u1 = .string ⟨((l .o).getD j Item.z).path.toArray⟩ := q1
      obtain rfl : u2 = .int .i64 ((l .o).getD j Item.z).attr := q2
      obtain rfl : u3 = .int .i64 ((l .o).getD j Item.z).res := q3
      simp only [List.getD_eq_getElem?_getD] at k1 k2 k3
      exact ⟨k1, k2, k3⟩
  · rintro e w' ⟨rfl, hbl⟩
    exact ⟨.ret (.int .i64 fun _ => lastR (l .o) (p .o) (a .o)), rfl, rfl, hr _ rfl, hbl⟩
/-- What the teller holds. -/
def Teller.av (e : Th Entry) (c : Th Cred) (l : Th (List Item)) : AV := .agg ((Entry.ch e).app ((Cred.ch c).app (.cons (items l) .nil)))
theorem is_c (e : Th Entry) (c : Th Cred) (l : Th (List Item)) (a r : Th Int) (hl : (l .o).length ≤ 140737488351232) {d : Nat} {K : ARes → BL → Prop} (hr : ∀ b : Th Bool, b .o = decide (lastR (l .o) (e .o).path (a .o) = r .o) → K (.ret (.bool b)) .nil) :
    CallAt PT degrade_teller_is [Teller.av e c l, .int .i64 a, .int .i64 r] d .nil K := by
  refine degrade_teller_is.of rfl rfl ?_
  cbv
  refine degRes_c l (fun _ => (e .o).path) a hl fun n hn => ?_
  cbv
  exact hr _ (by show decide (n .o = r .o) = _; rw [hn])
theorem cloneA_c (l : Th (List Ace)) (hl : (l .o).length * 24 ≤ 140737488355328) {d : Nat} {K : ARes → BL → Prop} (hr : ∀ r : Th (List Ace), r .o = l .o → K (.ret (aces r)) .nil) : CallAt PT slices_Clone_api_Ace_api_Ace [aces l] d .nil K := by
  refine CallAt.res ?_
  refine slices_Clone_api_Ace_api_Ace.of rfl rfl ?_
  cbv
  intro b hb
  cbv
  refine br_bool (fun h1 => ?_) (fun h1 => ?_)
  · cbv
    exact ⟨_, .ret (y := aces fun _ => []) (.nsl rfl), hr _ (List.eq_nil_of_length_eq_zero (hb h1)).symm⟩
  · cbv
    refine app_rows0 Ace.ch Ace.z (l .o) rfl rfl (fun i hi => rfl) hl ?_
    cbv
    exact ⟨_, .ret (Same.refl _), hr l rfl⟩
theorem cloneX_c (l : Th (List Xattr)) (hl : (l .o).length * 32 ≤ 140737488355328) {d : Nat} {K : ARes → BL → Prop} (hr : ∀ r : Th (List Xattr), r .o = l .o → K (.ret (xattrs r)) .nil) : CallAt PT slices_Clone_api_Xattr_api_Xattr [xattrs l] d .nil K := by
  refine CallAt.res ?_
  refine slices_Clone_api_Xattr_api_Xattr.of rfl rfl ?_
  cbv
  intro b hb
  cbv
  refine br_bool (fun h1 => ?_) (fun h1 => ?_)
  · cbv
    exact ⟨_, .ret (y := xattrs fun _ => []) (.nsl rfl), hr _ (List.eq_nil_of_length_eq_zero (hb h1)).symm⟩
  · cbv
    refine app_rows0 Xattr.ch Xattr.z (l .o) rfl rfl (fun i hi => rfl) hl ?_
    cbv
    exact ⟨_, .ret (Same.refl _), hr l rfl⟩
/-- gripsackref21.Result. -/
theorem lastR_drop (l : List Item) (p : List UInt8) (a : Int) {k : Nat} (hk : k ≤ l.length) (h : ∀ j, k ≤ j → j < l.length → hit p a (l.getD j Item.z) = false) : lastR l p a = lastR (l.take k) p a := by
  unfold lastR
  conv => lhs; rw [← List.take_append_drop k l]
  rw [List.reverse_append, List.find?_append, List.find?_eq_none.2 fun x hx => ?_]
  · rfl
  · obtain ⟨i, hi, rfl⟩ := List.mem_iff_getElem.1 (List.mem_reverse.1 hx)
    simp only [List.length_drop] at hi
    have := h (k + i) (by omega) (by omega)
    simpa [hit, List.getD_eq_getElem?_getD, List.getElem?_eq_getElem (show k + i < l.length by omega)] using this
theorem lastR_take (l : List Item) (p : List UInt8) (a : Int) {k : Nat} (hk : k < l.length) (h : hit p a (l.getD k Item.z) = true) : lastR (l.take (k + 1)) p a = (l.getD k Item.z).res := by
  unfold lastR
  have : l.getD k Item.z = l[k] := by simp [List.getD_eq_getElem?_getD, List.getElem?_eq_getElem hk]
  rw [this] at h ⊢
  rw [List.take_add_one, List.getElem?_eq_getElem hk]
  have h' : decide (l[k].path = p ∧ l[k].attr = a) = true := h
  simp only [Option.toList_some, List.reverse_append, List.reverse_cons, List.reverse_nil, List.nil_append, List.cons_append, List.find?_cons, h', Option.map_some, Option.getD_some]
theorem res21_c (l : Th (List Item)) (p : Th (List UInt8)) (a : Th Int) (hl : (l .o).length ≤ 140737488351232) {d : Nat} {K : ARes → BL → Prop} (hr : ∀ n : Th Int, n .o = lastR (l .o) (p .o) (a .o) → K (.ret (.int .i64 n)) .nil) :
    CallAt PT r21_Result [items l, .str p, .int .i64 a] d .nil K := by
  refine CallAt.res ?_
  refine r21_Result.of rfl rfl ?_
  cbv
  have hw : ∀ k : Nat, k ≤ (l .o).length → IntKind.i64.wrap (zi k - 1) = zi k - 1 := fun k hk => by rw [IntKind.wrap_i64]; unfold zi; omega
  refine loop_rule (X := Nat) 1000 [0, 1, 2] [] (fun k => .cons 7 (.int .i64 fun _ => zi k - 1) .nil) (fun _ => .nil) (fun k => k ≤ (l .o).length ∧ ∀ j, k ≤ j → j < (l .o).length → hit (p .o) (a .o) ((l .o).getD j Item.z) = false) (fun k => k) (l .o).length ?_ ⟨Nat.le_refl _, fun j h1 h2 => by omega⟩ ?_
  · cbv
    rw [hw _ (Nat.le_refl _)]
    (repeat' (first | exact True.intro | exact Same.refl _ | exact SameB.refl _ | exact ⟨rfl⟩ | exact Same.int rfl | exact Same.str rfl | exact Same.bool rfl | (refine Same.int ?_; simp only [List.length_append, List.length_cons, List.length_nil, zi]; omega) | (refine SameB.row' rfl fun i hi => ?_; first | rfl | exact absurd hi (Nat.not_lt_zero _)) | refine And.intro ?_ ?_ | refine SameB.cells ?_ | exact SameC.nil | refine SameC.cons ?_ ?_ | exact Same.nsl rfl | exact Same.tt rfl | exact Same.ff rfl))
  · rintro k ⟨hk, hno⟩
    cbv
    ((try refine br_rev ?_); (first | refine br_dec (fun h1 => ?_) (fun h1 => ?_) | refine br_ndec (fun h1 => ?_) (fun h1 => ?_) | refine br_nbool (fun h1 => ?_) (fun h1 => ?_) | refine br_bool (fun h1 => ?_) (fun h1 => ?_)); all_goals (try dsimp only at h1); all_goals (try with_reducible replace h1 := zi_lt.1 h1); all_goals (try with_reducible replace h1 := not_zlt h1))
    · have hk1 : 0 < k := by unfold zi at h1; omega
      have hz : (zi k - 1).toNat = k - 1 := by unfold zi; omega
      cbv
      have hin : 0 ≤ zi k - 1 ∧ zi k - 1 < zi (l .o).length := ⟨h1, by unfold zi; omega⟩
      have on : hit (p .o) (a .o) ((l .o).getD (k - 1) Item.z) = false → ∀ j, k - 1 ≤ j → j < (l .o).length → hit (p .o) (a .o) ((l .o).getD j Item.z) = false := fun q j hj hl' => by
        by_cases e : j = k - 1
        · rw [e]; exact q
        · exact hno j (by omega) hl'
      have hs1 : zi k - 1 = zi (k - 1) := by unfold zi; omega
      refine safe hin ?_
      refine br_bool (fun h2 => ?_) (fun h2 => ?_)
      · have h2 : ((l .o).getD (k - 1) Item.z).path = p .o := by rw [← hz]; exact of_decide_eq_true h2
        cbv
        refine safe hin ?_
        refine br_dec (fun h3 => ?_) (fun h3 => ?_)
        · have h3 : ((l .o).getD (k - 1) Item.z).attr = a .o := by rw [← hz]; exact h3
          cbv
          refine safe hin ?_
          refine ⟨_, .ret (Same.int (b := fun _ => lastR (l .o) (p .o) (a .o)) ?_), hr _ rfl⟩
          show ((l .o).getD (zi k - 1).toNat Item.z).res = _
          rw [hz, lastR_drop (l .o) (p .o) (a .o) hk hno]
          have := lastR_take (l .o) (p .o) (a .o) (k := k - 1) (by omega) (decide_eq_true ⟨h2, h3⟩)
          rw [← this, show k - 1 + 1 = k by omega]
        · have h3 : ¬ ((l .o).getD (k - 1) Item.z).attr = a .o := by rw [← hz]; exact h3
          cbv
          refine ⟨k - 1, ⟨by omega, on (decide_eq_false fun q => h3 q.2)⟩, by omega, ?_⟩
          cbv
          rw [hs1, hw (k - 1) (by omega)]
          (repeat' (first | exact True.intro | exact Same.refl _ | exact SameB.refl _ | exact ⟨rfl⟩ | exact Same.int rfl | exact Same.str rfl | exact Same.bool rfl | (refine Same.int ?_; simp only [List.length_append, List.length_cons, List.length_nil, zi]; omega) | (refine SameB.row' rfl fun i hi => ?_; first | rfl | exact absurd hi (Nat.not_lt_zero _)) | refine And.intro ?_ ?_ | refine SameB.cells ?_ | exact SameC.nil | refine SameC.cons ?_ ?_ | exact Same.nsl rfl | exact Same.tt rfl | exact Same.ff rfl))
      · have h2 : ¬ ((l .o).getD (k - 1) Item.z).path = p .o := by rw [← hz]; exact of_decide_eq_false h2
        cbv
        refine ⟨k - 1, ⟨by omega, on (decide_eq_false fun q => h2 q.1)⟩, by omega, ?_⟩
        cbv
        rw [hs1, hw (k - 1) (by omega)]
        (repeat' (first | exact True.intro | exact Same.refl _ | exact SameB.refl _ | exact ⟨rfl⟩ | exact Same.int rfl | exact Same.str rfl | exact Same.bool rfl | (refine Same.int ?_; simp only [List.length_append, List.length_cons, List.length_nil, zi]; omega) | (refine SameB.row' rfl fun i hi => ?_; first | rfl | exact absurd hi (Nat.not_lt_zero _)) | refine And.intro ?_ ?_ | refine SameB.cells ?_ | exact SameC.nil | refine SameC.cons ?_ ?_ | exact Same.nsl rfl | exact Same.tt rfl | exact Same.ff rfl))
    · have hk0 : k = 0 := by unfold zi at h1; omega
      subst hk0
      cbv
      exact ⟨_, .ret (Same.int (b := fun _ => lastR (l .o) (p .o) (a .o)) (by rw [lastR_drop (l .o) (p .o) (a .o) (Nat.zero_le _) hno]; rfl)), hr _ rfl⟩
/-- The mode of what a report tells. -/
def stageS (k : Int) : Int := if k = 6 then 448 else if k = 3 then 511 else 0
def tmodeS (e : Entry) (c : Cred) (l : List Item) : Int :=
  if e.kind = 3 then 511 else if lastR l e.path 3 = 2 then modeS (LessS e.mt) e.mt false
  else if ¬ lastR l e.path 3 = 1 then (if lastR l e.path 10 = 1 then 0 else stageS e.kind)
  else if e.kind = 1 ∧ inS c e.mt.gid = false ∧ band c.powers 4 = 0 then bnot (if lastR l e.path 4 = 1 then e.mt.mode else modeS (LessS e.mt) e.mt true) 1024
  else if lastR l e.path 4 = 1 then e.mt.mode else modeS (LessS e.mt) e.mt true
structure TellOk (e : Entry) (c : Cred) (l : List Item) : Prop where
  acl : short e.mt.acl
  grp : short c.groups
  len : l.length ≤ 140737488351232
theorem tmode_c (e : Th Entry) (c : Th Cred) (l : Th (List Item)) (h : TellOk (e .o) (c .o) (l .o)) {d : Nat} {K : ARes → BL → Prop} (hr : ∀ n : Th Int, n .o = tmodeS (e .o) (c .o) (l .o) → K (.ret (.int .i64 n)) .nil) :
    CallAt PT degrade_teller_mode [Teller.av e c l] d .nil K := by
  refine degrade_teller_mode.of rfl rfl ?_
  cbv
  refine br_dec (fun h1 => ?_) (fun h1 => ?_)
  · cbv
    exact hr _ (by unfold tmodeS; rw [if_pos h1])
  cbv
  refine is_c e c l (fun _ => 3) (fun _ => 2) h.len fun b hb => ?_
  cbv
  refine br_bool (fun h2 => ?_) (fun h2 => ?_)
  · rw [hb] at h2
    have h2 := of_decide_eq_true h2
    cbv
    refine pmode_ff (fun _ => (e .o).mt) fun n hn => ?_
    cbv
    exact hr _ (by unfold tmodeS; rw [if_neg h1, if_pos h2]; exact hn)
  rw [hb] at h2
  have h2 := of_decide_eq_false h2
  cbv
  refine is_c e c l (fun _ => 3) (fun _ => 1) h.len fun b hb => ?_
  cbv
  refine br_nbool (fun h3 => ?_) (fun h3 => ?_)
  · rw [hb] at h3
    have h3 := of_decide_eq_false h3
    cbv
    refine is_c e c l (fun _ => 10) (fun _ => 1) h.len fun b hb => ?_
    cbv
    refine br_bool (fun h4 => ?_) (fun h4 => ?_)
    · rw [hb] at h4
      have h4 := of_decide_eq_true h4
      cbv
      exact hr _ (by unfold tmodeS; rw [if_neg h1, if_neg h2, if_pos h3, if_pos h4])
    · rw [hb] at h4
      have h4 := of_decide_eq_false h4
      cbv
      refine stage_c (fun _ => (e .o).kind) fun n hn => ?_
      cbv
      exact hr _ (by unfold tmodeS; rw [if_neg h1, if_neg h2, if_pos h3, if_neg h4]; exact hn)
  rw [hb] at h3
  have h3 := of_decide_eq_true h3
  cbv
  refine pmode_tt (fun _ => (e .o).mt) h.acl fun n hn => ?_
  cbv
  refine is_c e c l (fun _ => 4) (fun _ => 1) h.len fun b hb => ?_
  cbv
  have hn' : n .o = modeS (LessS (e .o).mt) (e .o).mt true := hn
  refine br_bool (fun h4 => ?_) (fun h4 => ?_)
  all_goals
    rw [hb] at h4
    simp only [decide_eq_true_eq, decide_eq_false_iff_not] at h4
    cbv
    refine br_dec (fun h5 => ?_) (fun h5 => ?_)
    · have h5 : (e .o).kind = 1 := h5
      cbv
      refine in_c c (fun _ => (e .o).mt.gid) h.grp fun b6 hb6 => ?_
      cbv
      refine br_nbool (fun h6 => ?_) (fun h6 => ?_)
      · rw [hb6] at h6
        cbv
        refine br_dec (fun h7 => ?_) (fun h7 => ?_)
        · have h7 : band (c .o).powers 4 = 0 := h7
          cbv
          exact hr _ (by unfold tmodeS; rw [if_neg h1, if_neg h2, if_neg (fun q : ¬ _ => q h3), if_pos ⟨h5, h6, h7⟩, ← hn']; first | (rw [if_pos h4]; rfl) | (rw [if_neg h4]; rfl))
        · have h7 : ¬ band (c .o).powers 4 = 0 := h7
          cbv
          exact hr _ (by unfold tmodeS; rw [if_neg h1, if_neg h2, if_neg (fun q : ¬ _ => q h3), if_neg (fun q => h7 q.2.2), ← hn']; first | rw [if_pos h4] | rw [if_neg h4])
      · rw [hb6] at h6
        cbv
        exact hr _ (by unfold tmodeS; rw [if_neg h1, if_neg h2, if_neg (fun q : ¬ _ => q h3), if_neg (fun q => by rw [q.2.1] at h6; cases h6), ← hn']; first | rw [if_pos h4] | rw [if_neg h4])
    · have h5 : ¬ (e .o).kind = 1 := h5
      cbv
      exact hr _ (by unfold tmodeS; rw [if_neg h1, if_neg h2, if_neg (fun q : ¬ _ => q h3), if_neg (fun q => h5 q.1), ← hn']; first | rw [if_pos h4] | rw [if_neg h4])
def putOwner (e : Entry) (m : Meta) : Meta := { m with uid := e.mt.uid, gid := e.mt.gid }
def putAcl (e : Entry) (m : Meta) : Meta := { m with acl := e.mt.acl }
def putDflt (e : Entry) (m : Meta) : Meta := { m with dflt := e.mt.dflt }
def putXs (l : List Xattr) (m : Meta) : Meta := { m with xs := l }
def putCaps (e : Entry) (m : Meta) : Meta := { m with caps := e.mt.caps }
def putTime (e : Entry) (m : Meta) : Meta := { m with sec := e.mt.sec, nano := e.mt.nano }
def putFlags (f : Int) (m : Meta) : Meta := { m with flags := f }
def deg0 (e : Entry) (c : Cred) (l : List Item) : Meta := { metaZ with mode := tmodeS e c l, uid := c.uid, gid := c.gid }
def deg1 (e : Entry) (c : Cred) (l : List Item) : Meta := if lastR l e.path 2 = 1 then putOwner e (deg0 e c l) else deg0 e c l
def deg2 (e : Entry) (c : Cred) (l : List Item) : Meta := if lastR l e.path 4 = 1 then putAcl e (deg1 e c l) else deg1 e c l
def deg3 (e : Entry) (c : Cred) (l : List Item) : Meta := if lastR l e.path 5 = 1 then putDflt e (deg2 e c l) else deg2 e c l
def deg4 (e : Entry) (c : Cred) (l : List Item) : Meta := if lastR l e.path 6 = 1 then putXs e.mt.xs (deg3 e c l) else if lastR l e.path 6 = 2 then putXs (fewerS e.mt.xs) (deg3 e c l) else deg3 e c l
def deg5 (e : Entry) (c : Cred) (l : List Item) : Meta := if lastR l e.path 7 = 1 then putCaps e (deg4 e c l) else deg4 e c l
def deg6 (e : Entry) (c : Cred) (l : List Item) : Meta := if lastR l e.path 8 = 1 then putTime e (deg5 e c l) else deg5 e c l
def degS (e : Entry) (c : Cred) (l : List Item) : Meta := if lastR l e.path 9 = 1 then putFlags e.mt.flags (deg6 e c l) else if lastR l e.path 9 = 2 then putFlags (band e.mt.flags 12) (deg6 e c l) else deg6 e c l
structure DegOk (e : Entry) (c : Cred) (l : List Item) : Prop extends TellOk e c l where
  acl24 : e.mt.acl.length * 24 ≤ 140737488355328
  dflt24 : e.mt.dflt.length * 24 ≤ 140737488355328
  xs : e.mt.xs.length ≤ 1000
theorem deg_c (e : Th Entry) (c : Th Cred) (l : Th (List Item)) (h : DegOk (e .o) (c .o) (l .o)) {d : Nat} {K : ARes → BL → Prop} (hr : ∀ m : Th Meta, m .o = degS (e .o) (c .o) (l .o) → K (.ret (Meta.av m)) .nil) :
    CallAt PT degrade_Meta [Entry.av e, Cred.av c, items l] d .nil K := by
  refine CallAt.res ?_
  refine degrade_Meta.of rfl rfl ?_
  cbv
  refine tmode_c e c l h.toTellOk fun n hn => ?_
  cbv
  have q1 : ∀ {p : Prop} [Decidable p] (a b : Meta), p → (if p then a else b) = a := fun _ _ q => if_pos q
  refine cut_rule (X := Unit) 1000 1000 [6, 7, 8, 9] [6, 7, 8] (fun _ => .nil) (fun _ => .cons 9 (.cells (Meta.ch fun _ => deg1 (e .o) (c .o) (l .o))) .nil) (fun _ => True) ?_ fun _ _ => ?_
  · cbv
    refine is_c e c l (fun _ => 2) (fun _ => 1) h.len fun b hb => ?_
    cbv
    refine br_bool (fun h1 => ?_) (fun h1 => ?_)
    · have e1 : deg1 (e .o) (c .o) (l .o) = putOwner (e .o) (deg0 (e .o) (c .o) (l .o)) := if_pos (by rw [hb] at h1; exact of_decide_eq_true h1)
      cbv
      refine ⟨(), trivial, ?_⟩
      cbv
      rw [e1]
      (repeat' (first | exact True.intro | exact Same.refl _ | exact SameB.refl _ | exact ⟨rfl⟩ | exact Same.int rfl | exact Same.str rfl | exact Same.bool rfl | (refine Same.int ?_; simp only [List.length_append, List.length_cons, List.length_nil, zi]; omega) | (refine SameB.row' rfl fun i hi => ?_; first | rfl | exact absurd hi (Nat.not_lt_zero _)) | refine And.intro ?_ ?_ | refine SameB.cells ?_ | exact SameC.nil | refine SameC.cons ?_ ?_ | exact Same.nsl rfl | exact Same.tt rfl | exact Same.ff rfl))
      all_goals exact Same.int hn
    · have e1 : deg1 (e .o) (c .o) (l .o) = deg0 (e .o) (c .o) (l .o) := if_neg (by rw [hb] at h1; exact of_decide_eq_false h1)
      cbv
      refine ⟨(), trivial, ?_⟩
      cbv
      rw [e1]
      (repeat' (first | exact True.intro | exact Same.refl _ | exact SameB.refl _ | exact ⟨rfl⟩ | exact Same.int rfl | exact Same.str rfl | exact Same.bool rfl | (refine Same.int ?_; simp only [List.length_append, List.length_cons, List.length_nil, zi]; omega) | (refine SameB.row' rfl fun i hi => ?_; first | rfl | exact absurd hi (Nat.not_lt_zero _)) | refine And.intro ?_ ?_ | refine SameB.cells ?_ | exact SameC.nil | refine SameC.cons ?_ ?_ | exact Same.nsl rfl | exact Same.tt rfl | exact Same.ff rfl))
      all_goals exact Same.int hn
  cbv
  refine cut_rule (X := Unit) 1000 1000 [6, 7, 8, 9] [6, 7, 8] (fun _ => .nil) (fun _ => .cons 9 (.cells (Meta.ch fun _ => deg2 (e .o) (c .o) (l .o))) .nil) (fun _ => True) ?_ fun _ _ => ?_
  · cbv
    refine is_c e c l (fun _ => 4) (fun _ => 1) h.len fun b hb => ?_
    cbv
    refine br_bool (fun h1 => ?_) (fun h1 => ?_)
    · have e1 : deg2 (e .o) (c .o) (l .o) = putAcl (e .o) (deg1 (e .o) (c .o) (l .o)) := if_pos (by rw [hb] at h1; exact of_decide_eq_true h1)
      cbv
      refine cloneA_c (fun _ => (e .o).mt.acl) h.acl24 fun q hq => ?_
      cbv
      refine ⟨(), trivial, ?_⟩
      cbv
      rw [e1]
      rw [hq]
      (repeat' (first | exact True.intro | exact Same.refl _ | exact SameB.refl _ | exact ⟨rfl⟩ | exact Same.int rfl | exact Same.str rfl | exact Same.bool rfl | (refine Same.int ?_; simp only [List.length_append, List.length_cons, List.length_nil, zi]; omega) | (refine SameB.row' rfl fun i hi => ?_; first | rfl | exact absurd hi (Nat.not_lt_zero _)) | refine And.intro ?_ ?_ | refine SameB.cells ?_ | exact SameC.nil | refine SameC.cons ?_ ?_ | exact Same.nsl rfl | exact Same.tt rfl | exact Same.ff rfl))
    · have e1 : deg2 (e .o) (c .o) (l .o) = deg1 (e .o) (c .o) (l .o) := if_neg (by rw [hb] at h1; exact of_decide_eq_false h1)
      cbv
      refine ⟨(), trivial, ?_⟩
      cbv
      rw [e1]
      (repeat' (first | exact True.intro | exact Same.refl _ | exact SameB.refl _ | exact ⟨rfl⟩ | exact Same.int rfl | exact Same.str rfl | exact Same.bool rfl | (refine Same.int ?_; simp only [List.length_append, List.length_cons, List.length_nil, zi]; omega) | (refine SameB.row' rfl fun i hi => ?_; first | rfl | exact absurd hi (Nat.not_lt_zero _)) | refine And.intro ?_ ?_ | refine SameB.cells ?_ | exact SameC.nil | refine SameC.cons ?_ ?_ | exact Same.nsl rfl | exact Same.tt rfl | exact Same.ff rfl))
  cbv
  refine cut_rule (X := Unit) 1000 1000 [6, 7, 8, 9] [6, 7, 8] (fun _ => .nil) (fun _ => .cons 9 (.cells (Meta.ch fun _ => deg3 (e .o) (c .o) (l .o))) .nil) (fun _ => True) ?_ fun _ _ => ?_
  · cbv
    refine is_c e c l (fun _ => 5) (fun _ => 1) h.len fun b hb => ?_
    cbv
    refine br_bool (fun h1 => ?_) (fun h1 => ?_)
    · have e1 : deg3 (e .o) (c .o) (l .o) = putDflt (e .o) (deg2 (e .o) (c .o) (l .o)) := if_pos (by rw [hb] at h1; exact of_decide_eq_true h1)
      cbv
      refine cloneA_c (fun _ => (e .o).mt.dflt) h.dflt24 fun q hq => ?_
      cbv
      refine ⟨(), trivial, ?_⟩
      cbv
      rw [e1]
      rw [hq]
      (repeat' (first | exact True.intro | exact Same.refl _ | exact SameB.refl _ | exact ⟨rfl⟩ | exact Same.int rfl | exact Same.str rfl | exact Same.bool rfl | (refine Same.int ?_; simp only [List.length_append, List.length_cons, List.length_nil, zi]; omega) | (refine SameB.row' rfl fun i hi => ?_; first | rfl | exact absurd hi (Nat.not_lt_zero _)) | refine And.intro ?_ ?_ | refine SameB.cells ?_ | exact SameC.nil | refine SameC.cons ?_ ?_ | exact Same.nsl rfl | exact Same.tt rfl | exact Same.ff rfl))
    · have e1 : deg3 (e .o) (c .o) (l .o) = deg2 (e .o) (c .o) (l .o) := if_neg (by rw [hb] at h1; exact of_decide_eq_false h1)
      cbv
      refine ⟨(), trivial, ?_⟩
      cbv
      rw [e1]
      (repeat' (first | exact True.intro | exact Same.refl _ | exact SameB.refl _ | exact ⟨rfl⟩ | exact Same.int rfl | exact Same.str rfl | exact Same.bool rfl | (refine Same.int ?_; simp only [List.length_append, List.length_cons, List.length_nil, zi]; omega) | (refine SameB.row' rfl fun i hi => ?_; first | rfl | exact absurd hi (Nat.not_lt_zero _)) | refine And.intro ?_ ?_ | refine SameB.cells ?_ | exact SameC.nil | refine SameC.cons ?_ ?_ | exact Same.nsl rfl | exact Same.tt rfl | exact Same.ff rfl))
  cbv
  refine cut_rule (X := Unit) 1000 1000 [6, 7, 8, 9] [6, 7, 8] (fun _ => .nil) (fun _ => .cons 9 (.cells (Meta.ch fun _ => deg4 (e .o) (c .o) (l .o))) .nil) (fun _ => True) ?_ fun _ _ => ?_
  · cbv
    refine is_c e c l (fun _ => 6) (fun _ => 1) h.len fun b hb => ?_
    cbv
    refine br_bool (fun h1 => ?_) (fun h1 => ?_)
    · have e1 : deg4 (e .o) (c .o) (l .o) = putXs (e .o).mt.xs (deg3 (e .o) (c .o) (l .o)) := if_pos (by rw [hb] at h1; exact of_decide_eq_true h1)
      cbv
      refine cloneX_c (fun _ => (e .o).mt.xs) (by have := h.xs; omega) fun q hq => ?_
      cbv
      refine ⟨(), trivial, ?_⟩
      cbv
      rw [e1]
      rw [hq]
      (repeat' (first | exact True.intro | exact Same.refl _ | exact SameB.refl _ | exact ⟨rfl⟩ | exact Same.int rfl | exact Same.str rfl | exact Same.bool rfl | (refine Same.int ?_; simp only [List.length_append, List.length_cons, List.length_nil, zi]; omega) | (refine SameB.row' rfl fun i hi => ?_; first | rfl | exact absurd hi (Nat.not_lt_zero _)) | refine And.intro ?_ ?_ | refine SameB.cells ?_ | exact SameC.nil | refine SameC.cons ?_ ?_ | exact Same.nsl rfl | exact Same.tt rfl | exact Same.ff rfl))
    · have h1 : ¬ lastR (l .o) (e .o).path 6 = 1 := by rw [hb] at h1; exact of_decide_eq_false h1
      cbv
      refine is_c e c l (fun _ => 6) (fun _ => 2) h.len fun b hb => ?_
      cbv
      refine br_bool (fun h2 => ?_) (fun h2 => ?_)
      · have e1 : deg4 (e .o) (c .o) (l .o) = putXs (fewerS (e .o).mt.xs) (deg3 (e .o) (c .o) (l .o)) := (if_neg h1).trans (if_pos (by rw [hb] at h2; exact of_decide_eq_true h2))
        cbv
        refine fewer_c (fun _ => (e .o).mt.xs) h.xs fun q hq => ?_
        cbv
        refine ⟨(), trivial, ?_⟩
        cbv
        rw [e1]
        rw [hq]
        (repeat' (first | exact True.intro | exact Same.refl _ | exact SameB.refl _ | exact ⟨rfl⟩ | exact Same.int rfl | exact Same.str rfl | exact Same.bool rfl | (refine Same.int ?_; simp only [List.length_append, List.length_cons, List.length_nil, zi]; omega) | (refine SameB.row' rfl fun i hi => ?_; first | rfl | exact absurd hi (Nat.not_lt_zero _)) | refine And.intro ?_ ?_ | refine SameB.cells ?_ | exact SameC.nil | refine SameC.cons ?_ ?_ | exact Same.nsl rfl | exact Same.tt rfl | exact Same.ff rfl))
      · have e1 : deg4 (e .o) (c .o) (l .o) = deg3 (e .o) (c .o) (l .o) := (if_neg h1).trans (if_neg (by rw [hb] at h2; exact of_decide_eq_false h2))
        cbv
        refine ⟨(), trivial, ?_⟩
        cbv
        rw [e1]
        (repeat' (first | exact True.intro | exact Same.refl _ | exact SameB.refl _ | exact ⟨rfl⟩ | exact Same.int rfl | exact Same.str rfl | exact Same.bool rfl | (refine Same.int ?_; simp only [List.length_append, List.length_cons, List.length_nil, zi]; omega) | (refine SameB.row' rfl fun i hi => ?_; first | rfl | exact absurd hi (Nat.not_lt_zero _)) | refine And.intro ?_ ?_ | refine SameB.cells ?_ | exact SameC.nil | refine SameC.cons ?_ ?_ | exact Same.nsl rfl | exact Same.tt rfl | exact Same.ff rfl))
  cbv
  refine cut_rule (X := Unit) 1000 1000 [6, 7, 8, 9] [6, 7, 8] (fun _ => .nil) (fun _ => .cons 9 (.cells (Meta.ch fun _ => deg5 (e .o) (c .o) (l .o))) .nil) (fun _ => True) ?_ fun _ _ => ?_
  · cbv
    refine is_c e c l (fun _ => 7) (fun _ => 1) h.len fun b hb => ?_
    cbv
    refine br_bool (fun h1 => ?_) (fun h1 => ?_)
    · have e1 : deg5 (e .o) (c .o) (l .o) = putCaps (e .o) (deg4 (e .o) (c .o) (l .o)) := if_pos (by rw [hb] at h1; exact of_decide_eq_true h1)
      cbv
      refine ⟨(), trivial, ?_⟩
      cbv
      rw [e1]
      (repeat' (first | exact True.intro | exact Same.refl _ | exact SameB.refl _ | exact ⟨rfl⟩ | exact Same.int rfl | exact Same.str rfl | exact Same.bool rfl | (refine Same.int ?_; simp only [List.length_append, List.length_cons, List.length_nil, zi]; omega) | (refine SameB.row' rfl fun i hi => ?_; first | rfl | exact absurd hi (Nat.not_lt_zero _)) | refine And.intro ?_ ?_ | refine SameB.cells ?_ | exact SameC.nil | refine SameC.cons ?_ ?_ | exact Same.nsl rfl | exact Same.tt rfl | exact Same.ff rfl))
    · have e1 : deg5 (e .o) (c .o) (l .o) = deg4 (e .o) (c .o) (l .o) := if_neg (by rw [hb] at h1; exact of_decide_eq_false h1)
      cbv
      refine ⟨(), trivial, ?_⟩
      cbv
      rw [e1]
      (repeat' (first | exact True.intro | exact Same.refl _ | exact SameB.refl _ | exact ⟨rfl⟩ | exact Same.int rfl | exact Same.str rfl | exact Same.bool rfl | (refine Same.int ?_; simp only [List.length_append, List.length_cons, List.length_nil, zi]; omega) | (refine SameB.row' rfl fun i hi => ?_; first | rfl | exact absurd hi (Nat.not_lt_zero _)) | refine And.intro ?_ ?_ | refine SameB.cells ?_ | exact SameC.nil | refine SameC.cons ?_ ?_ | exact Same.nsl rfl | exact Same.tt rfl | exact Same.ff rfl))
  cbv
  refine cut_rule (X := Unit) 1000 1000 [6, 7, 8, 9] [6, 7, 8] (fun _ => .nil) (fun _ => .cons 9 (.cells (Meta.ch fun _ => deg6 (e .o) (c .o) (l .o))) .nil) (fun _ => True) ?_ fun _ _ => ?_
  · cbv
    refine is_c e c l (fun _ => 8) (fun _ => 1) h.len fun b hb => ?_
    cbv
    refine br_bool (fun h1 => ?_) (fun h1 => ?_)
    · have e1 : deg6 (e .o) (c .o) (l .o) = putTime (e .o) (deg5 (e .o) (c .o) (l .o)) := if_pos (by rw [hb] at h1; exact of_decide_eq_true h1)
      cbv
      refine ⟨(), trivial, ?_⟩
      cbv
      rw [e1]
      (repeat' (first | exact True.intro | exact Same.refl _ | exact SameB.refl _ | exact ⟨rfl⟩ | exact Same.int rfl | exact Same.str rfl | exact Same.bool rfl | (refine Same.int ?_; simp only [List.length_append, List.length_cons, List.length_nil, zi]; omega) | (refine SameB.row' rfl fun i hi => ?_; first | rfl | exact absurd hi (Nat.not_lt_zero _)) | refine And.intro ?_ ?_ | refine SameB.cells ?_ | exact SameC.nil | refine SameC.cons ?_ ?_ | exact Same.nsl rfl | exact Same.tt rfl | exact Same.ff rfl))
    · have e1 : deg6 (e .o) (c .o) (l .o) = deg5 (e .o) (c .o) (l .o) := if_neg (by rw [hb] at h1; exact of_decide_eq_false h1)
      cbv
      refine ⟨(), trivial, ?_⟩
      cbv
      rw [e1]
      (repeat' (first | exact True.intro | exact Same.refl _ | exact SameB.refl _ | exact ⟨rfl⟩ | exact Same.int rfl | exact Same.str rfl | exact Same.bool rfl | (refine Same.int ?_; simp only [List.length_append, List.length_cons, List.length_nil, zi]; omega) | (refine SameB.row' rfl fun i hi => ?_; first | rfl | exact absurd hi (Nat.not_lt_zero _)) | refine And.intro ?_ ?_ | refine SameB.cells ?_ | exact SameC.nil | refine SameC.cons ?_ ?_ | exact Same.nsl rfl | exact Same.tt rfl | exact Same.ff rfl))
  cbv
  refine cut_rule (X := Unit) 1000 1000 [6, 7, 8, 9] [6, 7, 8] (fun _ => .nil) (fun _ => .cons 9 (.cells (Meta.ch fun _ => degS (e .o) (c .o) (l .o))) .nil) (fun _ => True) ?_ fun _ _ => ?_
  · cbv
    refine is_c e c l (fun _ => 9) (fun _ => 1) h.len fun b hb => ?_
    cbv
    refine br_bool (fun h1 => ?_) (fun h1 => ?_)
    · have e1 : degS (e .o) (c .o) (l .o) = putFlags (e .o).mt.flags (deg6 (e .o) (c .o) (l .o)) := if_pos (by rw [hb] at h1; exact of_decide_eq_true h1)
      cbv
      refine ⟨(), trivial, ?_⟩
      cbv
      rw [e1]

      (repeat' (first | exact True.intro | exact Same.refl _ | exact SameB.refl _ | exact ⟨rfl⟩ | exact Same.int rfl | exact Same.str rfl | exact Same.bool rfl | (refine Same.int ?_; simp only [List.length_append, List.length_cons, List.length_nil, zi]; omega) | (refine SameB.row' rfl fun i hi => ?_; first | rfl | exact absurd hi (Nat.not_lt_zero _)) | refine And.intro ?_ ?_ | refine SameB.cells ?_ | exact SameC.nil | refine SameC.cons ?_ ?_ | exact Same.nsl rfl | exact Same.tt rfl | exact Same.ff rfl))
    · have h1 : ¬ lastR (l .o) (e .o).path 9 = 1 := by rw [hb] at h1; exact of_decide_eq_false h1
      cbv
      refine is_c e c l (fun _ => 9) (fun _ => 2) h.len fun b hb => ?_
      cbv
      refine br_bool (fun h2 => ?_) (fun h2 => ?_)
      · have e1 : degS (e .o) (c .o) (l .o) = putFlags (band (e .o).mt.flags 12) (deg6 (e .o) (c .o) (l .o)) := (if_neg h1).trans (if_pos (by rw [hb] at h2; exact of_decide_eq_true h2))
        cbv
        refine ⟨(), trivial, ?_⟩
        cbv
        rw [e1]

        (repeat' (first | exact True.intro | exact Same.refl _ | exact SameB.refl _ | exact ⟨rfl⟩ | exact Same.int rfl | exact Same.str rfl | exact Same.bool rfl | (refine Same.int ?_; simp only [List.length_append, List.length_cons, List.length_nil, zi]; omega) | (refine SameB.row' rfl fun i hi => ?_; first | rfl | exact absurd hi (Nat.not_lt_zero _)) | refine And.intro ?_ ?_ | refine SameB.cells ?_ | exact SameC.nil | refine SameC.cons ?_ ?_ | exact Same.nsl rfl | exact Same.tt rfl | exact Same.ff rfl))
      · have e1 : degS (e .o) (c .o) (l .o) = deg6 (e .o) (c .o) (l .o) := (if_neg h1).trans (if_neg (by rw [hb] at h2; exact of_decide_eq_false h2))
        cbv
        refine ⟨(), trivial, ?_⟩
        cbv
        rw [e1]
        (repeat' (first | exact True.intro | exact Same.refl _ | exact SameB.refl _ | exact ⟨rfl⟩ | exact Same.int rfl | exact Same.str rfl | exact Same.bool rfl | (refine Same.int ?_; simp only [List.length_append, List.length_cons, List.length_nil, zi]; omega) | (refine SameB.row' rfl fun i hi => ?_; first | rfl | exact absurd hi (Nat.not_lt_zero _)) | refine And.intro ?_ ?_ | refine SameB.cells ?_ | exact SameC.nil | refine SameC.cons ?_ ?_ | exact Same.nsl rfl | exact Same.tt rfl | exact Same.ff rfl))
  cbv
  exact ⟨_, .ret (y := Meta.av fun _ => degS (e .o) (c .o) (l .o)) (Same.refl _), hr _ rfl⟩
end Go.Proofs.Ytgjlkcdnlndlnaa
