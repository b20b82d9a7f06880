/- Texts laid together: MeD, Bld, Bldx, Esc, Strs, MeE, Nam, Ent, Plan, Fewer, Attrs, Order, Ref21, Same, MeF, MeG, MeH, MeI, Mkv, MeJ, Arg. -/
import Derived.Shelf.Strings.Builder1
import Derived.Shelf.LaysM
import Derived.Test.YtgjlkcdnlndlnaaProg
import Derived.WalkKit
import Derived.WalkLawsBesides
import Derived.Lib.Strings
import Derived.Lib.Slices
import Derived.Lib.Walk
import Derived.Lib.AppendStr
import Derived.Laws.IdiomCopy
import Derived.Laws.Externs
import Derived.Lib.ConvBytes
import Derived.Laws.IdiomStrings
import Derived.Deep.RegionWith
import Derived.Lib.Bytealg
import Derived.WideShapes
import Derived.Test.YtgjlkcdnlndlnaaK5
/- The document's lists that may be: walked, exact; modes of lists. -/
namespace Go.Proofs.Ytgjlkcdnlndlnaa
open Go Go.Proofs.Ytgjlkcdnlndlnaa.Sx F
set_option linter.unusedVariables false
set_option linter.unusedSimpArgs false

theorem aclOk_three {l : List Ace} (h : AclOk l) : 3 ≤ l.length := by
  have a := h.own
  have b := h.grp
  have c := h.oth
  unfold cntN at a b c
  rw [List.take_length] at a b c
  have hsum : ∀ r : List Ace, r.countP (fun a => decide (a.tag = ((1 : Nat) : Int))) + r.countP (fun a => decide (a.tag = ((3 : Nat) : Int))) + r.countP (fun a => decide (a.tag = ((6 : Nat) : Int))) ≤ r.length := by
    intro r
    induction r with
    | nil => simp
    | cons x r ih =>
      simp only [List.countP_cons, List.length_cons]
      by_cases q1 : x.tag = ((1 : Nat) : Int)
      · have q3 : ¬ x.tag = ((3 : Nat) : Int) := by omega
        have q6 : ¬ x.tag = ((6 : Nat) : Int) := by omega
        simp only [q1, q3, q6, decide_true, decide_false, if_true, if_false, Bool.false_eq_true]
        simp only [q1] at q3 q6
        simp only [q3, q6, decide_false, if_false, Bool.false_eq_true]
        omega
      · by_cases q3 : x.tag = ((3 : Nat) : Int)
        · have q6 : ¬ x.tag = ((6 : Nat) : Int) := by omega
          have e1 : decide (x.tag = ((1 : Nat) : Int)) = false := decide_eq_false q1
          have e3 : decide (x.tag = ((3 : Nat) : Int)) = true := decide_eq_true q3
          have e6 : decide (x.tag = ((6 : Nat) : Int)) = false := decide_eq_false q6
          rw [e1, e3, e6]
          simp only [if_true, Bool.false_eq_true, if_false]
          omega
        · have e1 : decide (x.tag = ((1 : Nat) : Int)) = false := decide_eq_false q1
          have e3 : decide (x.tag = ((3 : Nat) : Int)) = false := decide_eq_false q3
          rw [e1, e3]
          simp only [Bool.false_eq_true, if_false]
          split <;> omega
  have := hsum l
  omega
theorem msk_iff (n5 n2 n4 : Nat) (h5 : n5 ≤ 1) (h2 : n2 ≤ 32) (h4 : n4 ≤ 32) : (decide ((n5 : Int) = 1) == decide (0 < IntKind.i64.wrap ((n2 : Int) + (n4 : Int)))) = true ↔ n5 = min 1 (n2 + n4) := by
  have e : IntKind.i64.wrap ((n2 : Int) + (n4 : Int)) = (n2 : Int) + (n4 : Int) := by rw [IntKind.wrap_i64]; omega
  rw [e, beq_iff_eq, decide_eq_decide]
  omega
theorem may9_c (l : Th (List Ace)) (hl : short (l .o)) {d : Nat} {K : ARes → BL → Prop} (hr : ∀ b : Th Bool, (b .o = true ↔ AclOk (l .o)) → K (.ret (.bool b)) .nil) : CallAt PT r9_MayAcl [aces l] d .nil K := by
  refine CallAt.res ?_
  have hf : ¬ AclOk (l .o) → ∃ r', SameR (.ret .ff) r' ∧ K r' .nil := fun h => ⟨_, .ret (.ff rfl), hr (fun _ => false) ⟨fun q => (by cases q), fun q => (h q).elim⟩⟩
  refine r9_MayAcl.of rfl rfl ?_
  cbv
  refine br_rev (br_dec (fun h1 => ?_) (fun h1 => ?_))
  · cbv
    exact hf fun q => by have := aclOk_three q; have h1 : zi (l .o).length < 3 := h1; unfold zi at h1; omega
  cbv
  refine br_dec (fun h2 => ?_) (fun h2 => ?_)
  · cbv
    exact hf fun q => by have := q.len; have h2 : 32 < zi (l .o).length := h2; unfold zi at h2; omega
  have h2 : (l .o).length ≤ 32 := by have h2 : ¬ 32 < zi (l .o).length := h2; unfold zi at h2; omega
  (cbv; repeat (refine safe (by first | decide | (simp only [zi] at *; omega) | assumption | (dsimp only; omega) | (dsimp only at *; simp only [List.length_append, List.length_cons, List.length_nil, zi] at *; omega)) ?_; cbv))
  refine loop_at (X := Nat) 1000 [0, 3] [] (fun _ k => .cons 4 (.int .i64 fun _ => zi k) .nil) (fun _ k => .cons 14 (rowB 1 intCh 0 fun _ => cntL (l .o) k) .nil)
    (fun k => k ≤ (l .o).length ∧ AclTo (l .o) k) (fun k => (l .o).length - k) 0 ?_ ⟨Nat.zero_le _, ⟨fun j hj => by omega, fun j hj => by omega, fun j hj => by omega⟩⟩ ?_
  · cbv
    (repeat' (first | exact True.intro | exact Same.refl _ | exact SameB.refl _ | exact ⟨rfl⟩ | exact Same.int rfl | exact Same.str rfl | exact Same.bool rfl | (refine Same.int ?_; simp only [List.length_append, List.length_cons, List.length_nil, zi]; omega) | (refine SameB.row' rfl fun i hi => ?_; first | rfl | exact absurd hi (Nat.not_lt_zero _)) | refine And.intro ?_ ?_ | refine SameB.cells ?_ | exact SameC.nil | refine SameC.cons ?_ ?_ | exact Same.nsl rfl | exact Same.tt rfl | exact Same.ff rfl))
    all_goals
      refine SameB.row' rfl fun i hi => ?_
      have hi : i < 7 := hi
      match i, hi with
      | 0, _ | 1, _ | 2, _ | 3, _ | 4, _ | 5, _ | 6, _ => rfl
  · rintro k ⟨hk, hto⟩
    have hz := zi_toNat k
    have hcl := cntL_len (l .o) k
    cbv
    ((try refine br_rev ?_); (first | refine br_dec (fun h3 => ?_) (fun h3 => ?_) | refine br_ndec (fun h3 => ?_) (fun h3 => ?_) | refine br_nbool (fun h3 => ?_) (fun h3 => ?_) | refine br_bool (fun h3 => ?_) (fun h3 => ?_)); all_goals (try dsimp only at h3); all_goals (try with_reducible replace h3 := zi_lt.1 h3); all_goals (try with_reducible replace h3 := not_zlt h3))
    · have h3 : k < (l .o).length := h3
      cbv
      refine safe ⟨zi_nonneg _, zi_lt.2 h3⟩ ?_
      rw [hz]
      refine br_rev (br_dec (fun h4 => ?_) (fun h4 => ?_))
      · cbv
        exact hf fun q => by have := (q.to.tag k h3).1; have h4 : ((l .o).getD k Ace.z).tag < 1 := h4; omega
      have h4 : ¬ ((l .o).getD k Ace.z).tag < 1 := h4
      cbv
      refine br_rev (br_dec (fun h5 => ?_) (fun h5 => ?_))
      · cbv
        exact hf fun q => by have := (q.to.tag k h3).2; have h5 : 6 < ((l .o).getD k Ace.z).tag := h5; omega
      have h5 : ¬ 6 < ((l .o).getD k Ace.z).tag := h5
      cbv
      refine br_rev (br_dec (fun h6 => ?_) (fun h6 => ?_))
      · cbv
        exact hf fun q => by have := (q.to.ok k h3).1; have h6 : ((l .o).getD k Ace.z).perm < 0 := h6; omega
      have h6 : ¬ ((l .o).getD k Ace.z).perm < 0 := h6
      cbv
      refine br_rev (br_dec (fun h7 => ?_) (fun h7 => ?_))
      · cbv
        exact hf fun q => by have := (q.to.ok k h3).2.1; have h7 : 7 < ((l .o).getD k Ace.z).perm := h7; omega
      have h7 : ¬ 7 < ((l .o).getD k Ace.z).perm := h7
      cbv
      refine br_rev (br_dec (fun h8 => ?_) (fun h8 => ?_))
      · cbv
        exact hf fun q => by have := (q.to.ok k h3).2.2.1; have h8 : ((l .o).getD k Ace.z).id < 0 := h8; omega
      have h8 : ¬ ((l .o).getD k Ace.z).id < 0 := h8
      cbv
      refine br_rev (br_dec (fun h9 => ?_) (fun h9 => ?_))
      · cbv
        exact hf fun q => by have := (q.to.ok k h3).2.2.2.1; have h9 : 2147483647 < ((l .o).getD k Ace.z).id := h9; omega
      have h9 : ¬ 2147483647 < ((l .o).getD k Ace.z).id := h9
      cbv
      refine named9_c (fun _ => (l .o).getD k Ace.z) fun nb hnb => ?_
      have hnb : nb .o = true ↔ namedT ((l .o).getD k Ace.z).tag := hnb
      cbv
      have hT : 0 ≤ ((l .o).getD k Ace.z).tag ∧ ((l .o).getD k Ace.z).tag < zi (cntL (l .o) k).length := by
        rw [hcl]
        have : zi 7 = 7 := rfl
        omega
      have hTn : ((l .o).getD k Ace.z).tag.toNat < (cntL (l .o) k).length := by rw [hcl]; omega
      have htt : ((l .o).getD k Ace.z).tag = ((((l .o).getD k Ace.z).tag.toNat : Nat) : Int) := by omega
      have hcn := cntN_le (l .o) k ((l .o).getD k Ace.z).tag.toNat
      have hset : (cntL (l .o) k).set ((l .o).getD k Ace.z).tag.toNat (IntKind.i64.wrap ((cntL (l .o) k).getD ((l .o).getD k Ace.z).tag.toNat 0 + 1)) = cntL (l .o) (k + 1) := by
        rw [cntL_at _ _ (by omega), show IntKind.i64.wrap ((cntN (l .o) k ((l .o).getD k Ace.z).tag.toNat : Int) + 1) = (cntN (l .o) k ((l .o).getD k Ace.z).tag.toNat : Int) + 1 by rw [IntKind.wrap_i64]; omega]
        exact cntL_succ _ _ h3 (by omega) htt
      have succ := zi_succ (k := k) (by omega)
      have ok : (¬ ((l .o).getD k Ace.z).id = 0 → nb .o = true) → AceOk ((l .o).getD k Ace.z) := fun q => ⟨by omega, by omega, by omega, by omega, by
        by_cases e : ((l .o).getD k Ace.z).id = 0
        · exact .inl e
        · exact .inr (hnb.1 (q e))⟩
      refine br_nbool (fun ha => ?_) (fun ha => ?_)
      focus
        cbv
        refine br_ndec (fun hb => ?_) (fun hb => ?_)
        focus
          cbv
          exact hf fun q => by
            have hb : ¬ ((l .o).getD k Ace.z).id = 0 := hb
            have := (q.to.ok k h3).2.2.2.2
            have hn : ¬ namedT ((l .o).getD k Ace.z).tag := fun e => by rw [hnb.2 e] at ha; cases ha
            unfold namedT at hn
            omega
        replace ok := ok fun q => (q hb).elim
      rotate_left
      focus replace ok := ok fun _ => ha
      all_goals
        cbv
        refine br_dec (fun hc => ?_) (fun hc => ?_)
      all_goals cbv
      rotate_left
      focus
        replace hto := aclTo_succ hto ⟨by omega, by omega⟩ ok (.inl (by have hc : ¬ 0 < zi k := hc; unfold zi at hc; omega))
      rotate_left 2
      focus
        replace hto := aclTo_succ hto ⟨by omega, by omega⟩ ok (.inl (by have hc : ¬ 0 < zi k := hc; unfold zi at hc; omega))
      rotate_left
      all_goals try (
        have hc : 0 < k := by have hc : 0 < zi k := hc; unfold zi at hc; omega
        have hi1 : 0 ≤ IntKind.i64.wrap (zi k - 1) ∧ IntKind.i64.wrap (zi k - 1) < zi (l .o).length := by rw [IntKind.wrap_i64]; unfold zi; omega
        have hi2 : (IntKind.i64.wrap (zi k - 1)).toNat = k - 1 := by rw [IntKind.wrap_i64]; unfold zi; omega
        have hlast : lastA (l .o) k = (l .o).getD (k - 1) Ace.z := by unfold lastA; rw [if_neg (by omega)]
        refine safe hi1 ?_
        rw [hi2]
        refine br_rev (br_dec (fun hd => ?_) (fun hd => ?_))
        focus
          cbv
          exact hf fun q => by
            have := aclTo_aft q.to h3
            rw [hlast] at this
            have hd : ((l .o).getD k Ace.z).tag < ((l .o).getD (k - 1) Ace.z).tag := hd
            rcases this with q | q <;> omega
        have hd : ¬ ((l .o).getD k Ace.z).tag < ((l .o).getD (k - 1) Ace.z).tag := hd
        cbv
        refine safe hi1 ?_
        rw [hi2]
        refine br_dec (fun he => ?_) (fun he => ?_)
        focus
          have he : ((l .o).getD k Ace.z).tag = ((l .o).getD (k - 1) Ace.z).tag := he
          cbv
          refine named9_c (fun _ => (l .o).getD k Ace.z) fun nb2 hnb2 => ?_
          have hnb2 : nb2 .o = true ↔ namedT ((l .o).getD k Ace.z).tag := hnb2
          cbv
          refine br_rev (br_nbool (fun hg => ?_) (fun hg => ?_))
          focus
            cbv
            exact hf fun q => by
              have h10 := aclTo_aft q.to h3
              rw [hlast] at h10
              have h11 := (q.to.ok k h3).2.2.2.2
              have h12 := (q.to.ok (k - 1) (by omega)).2.2.2.2
              have hn : ¬ namedT ((l .o).getD k Ace.z).tag := fun e => by rw [hnb2.2 e] at hg; cases hg
              unfold namedT at hn
              rcases h10 with q | q <;> omega
          cbv
          refine safe hi1 ?_
          rw [hi2]
          refine br_dec (fun hj => ?_) (fun hj => ?_)
          focus
            cbv
            exact hf fun q => by
              have h10 := aclTo_aft q.to h3
              rw [hlast] at h10
              have hj : ((l .o).getD k Ace.z).id ≤ ((l .o).getD (k - 1) Ace.z).id := hj
              rcases h10 with q | q <;> omega
          have hj : ¬ ((l .o).getD k Ace.z).id ≤ ((l .o).getD (k - 1) Ace.z).id := hj
          replace hto := aclTo_succ hto ⟨by omega, by omega⟩ ok (.inr (by rw [hlast]; exact .inr ⟨by omega, by omega⟩))
          cbv
        rotate_left
        focus
          have he : ¬ ((l .o).getD k Ace.z).tag = ((l .o).getD (k - 1) Ace.z).tag := he
          replace hto := aclTo_succ hto ⟨by omega, by omega⟩ ok (.inr (by rw [hlast]; exact .inl (by omega)))
          cbv)
      all_goals
        refine safe hT ?_
        refine safe hTn ?_
        refine safe hT ?_
        refine put_rows intCh 0 (cntL (l .o) k) (IntKind.i64.wrap ((cntL (l .o) k).getD ((l .o).getD k Ace.z).tag.toNat 0 + 1)) rfl (fun i hi => rfl) hTn rfl ?_
        cbv
        rw [hset]
        refine ⟨k + 1, ⟨h3, hto⟩, by omega, ?_⟩
        cbv
        (repeat' (first | exact True.intro | exact Same.refl _ | exact SameB.refl _ | exact ⟨rfl⟩ | exact Same.int rfl | exact Same.str rfl | exact Same.bool rfl | (refine Same.int ?_; simp only [List.length_append, List.length_cons, List.length_nil, zi]; omega) | (refine SameB.row' rfl fun i hi => ?_; first | rfl | exact absurd hi (Nat.not_lt_zero _)) | refine And.intro ?_ ?_ | refine SameB.cells ?_ | exact SameC.nil | refine SameC.cons ?_ ?_ | exact Same.nsl rfl | exact Same.tt rfl | exact Same.ff rfl))
        all_goals first | exact Same.int succ | exact SameB.row' (by simp [cntL]) fun i hi => rfl
    · obtain rfl : k = (l .o).length := by have h3 : (l .o).length ≤ k := h3; omega
      have cn : ∀ t : Nat, t < 7 → 0 ≤ (t : Int) ∧ (t : Int) < zi (cntL (l .o) (l .o).length).length := fun t ht => by rw [hcl]; unfold zi; omega
      have cm : ∀ t : Nat, t < 7 → t < (cntL (l .o) (l .o).length).length := fun t ht => by rw [hcl]; exact ht
      have cv : ∀ t : Nat, t < 7 → (cntL (l .o) (l .o).length).getD t 0 = (cntN (l .o) (l .o).length t : Int) := fun t ht => cntL_at _ _ ht
      have hc2 := cntN_le (l .o) (l .o).length 2
      have hc4 := cntN_le (l .o) (l .o).length 4
      have hc5 := (cntN_once hto (Nat.le_refl _) (t := 5) (by decide)).1
      cbv
      refine safe (cn 1 (by decide)) ?_
      refine safe (cm 1 (by decide)) ?_
      refine br_dec (fun a1 => ?_) (fun a1 => ?_)
      rotate_left
      · cbv
        exact hf fun q => a1 (by show (cntL (l .o) (l .o).length).getD 1 0 = 1; rw [cv 1 (by decide), q.own]; rfl)
      cbv
      refine safe (cn 3 (by decide)) ?_
      refine safe (cm 3 (by decide)) ?_
      refine br_dec (fun a3 => ?_) (fun a3 => ?_)
      rotate_left
      · cbv
        exact hf fun q => a3 (by show (cntL (l .o) (l .o).length).getD 3 0 = 1; rw [cv 3 (by decide), q.grp]; rfl)
      cbv
      refine safe (cn 6 (by decide)) ?_
      refine safe (cm 6 (by decide)) ?_
      refine br_dec (fun a6 => ?_) (fun a6 => ?_)
      rotate_left
      · cbv
        exact hf fun q => a6 (by show (cntL (l .o) (l .o).length).getD 6 0 = 1; rw [cv 6 (by decide), q.oth]; rfl)
      have a1 : (cntL (l .o) (l .o).length).getD 1 0 = 1 := a1
      have a3 : (cntL (l .o) (l .o).length).getD 3 0 = 1 := a3
      have a6 : (cntL (l .o) (l .o).length).getD 6 0 = 1 := a6
      rw [cv 1 (by decide)] at a1
      rw [cv 3 (by decide)] at a3
      rw [cv 6 (by decide)] at a6
      have b1 : cntN (l .o) (l .o).length 1 = 1 := Int.ofNat.inj a1
      have b3 : cntN (l .o) (l .o).length 3 = 1 := Int.ofNat.inj a3
      have b6 : cntN (l .o) (l .o).length 6 = 1 := Int.ofNat.inj a6
      cbv
      refine safe (cn 5 (by decide)) ?_
      refine safe (cm 5 (by decide)) ?_
      refine safe (cn 2 (by decide)) ?_
      refine safe (cm 2 (by decide)) ?_
      refine safe (cn 4 (by decide)) ?_
      refine safe (cm 4 (by decide)) ?_
      refine ⟨_, .ret (.refl _), hr _ ?_⟩
      show (decide ((cntL (l .o) (l .o).length).getD 5 0 = 1) == decide (0 < IntKind.i64.wrap ((cntL (l .o) (l .o).length).getD 2 0 + (cntL (l .o) (l .o).length).getD 4 0))) = true ↔ _
      rw [cv 5 (by decide), cv 2 (by decide), cv 4 (by decide)]
      rw [msk_iff _ _ _ hc5 (by omega) (by omega)]
      exact ⟨fun q => ⟨hto, b1, b3, b6, q, h2⟩, fun q => q.msk⟩
theorem aclperm1_c (a : Th Ace) (t : Th Int) {d : Nat} {K : ARes → BL → Prop}
    (hr : ∀ b : Th Bool, b .o = decide ((a .o).tag = t .o) → K (.ret (.bool b)) (.cons 10000 (.cells (.cons (.int .i64 t) .nil)) .nil)) : CallAt PT acl_perm_1 [Ace.av a, .ptr 10000 0] d (.cons 10000 (.cells (.cons (.int .i64 t) .nil)) .nil) K := by
  refine acl_perm_1.of rfl rfl ?_
  cbv
  exact hr _ rfl
theorem aclindex_c (l : Th (List Ace)) (t : Th Int) (hl : short (l .o)) {d : Nat} {K : ARes → BL → Prop} (hr : ∀ n : Th Int, n .o = ixP (fun a : Ace => decide (a.tag = t .o)) (l .o) → K (.ret (.int .i64 n)) (.cons 10000 (.cells (.cons (.int .i64 t) .nil)) .nil)) :
    CallAt PT slices_IndexFunc_api_Ace_api_Ace [aces l, .fn (.func acl_perm_1) .nil (.cons (.ptr 10000 0) .nil)] d (.cons 10000 (.cells (.cons (.int .i64 t) .nil)) .nil) K := by
  refine slices_IndexFunc_api_Ace_api_Ace.of rfl rfl ?_
  cbv
  refine loop_rule (X := Nat) 1000 [0, 1, 7] [10000] (fun k => .cons 8 (.int .i64 fun _ => zi k) .nil) (fun _ => .nil) (fun k => k ≤ (l .o).length ∧ ∀ j, j < k → decide (((l .o).getD j Ace.z).tag = t .o) = false) (fun k => (l .o).length - k) 0 ?_ ⟨Nat.zero_le _, fun j hj => by omega⟩ ?_
  · cbv
    exact ⟨⟨.refl _, .refl _, .refl _, .int rfl, trivial⟩, ⟨.refl _, trivial⟩, ⟨rfl⟩⟩
  · intro k hk
    cbv
    refine ⟨fun h1 => ?_, fun h1 => ?_⟩
    · have h1 : k < (l .o).length := zi_lt.1 (of_decide_eq_true h1)
      cbv
      refine ⟨fun _ => ⟨zi_nonneg _, zi_lt.2 h1⟩, ?_⟩
      refine aclperm1_c (fun _ => (l .o).getD (zi k).toNat Ace.z) t fun b hb => ?_
      rw [zi_toNat] at hb
      cbv
      refine ⟨fun h2 => ?_, fun h2 => ?_⟩
      · cbv
        exact hr _ (ixP_at _ Ace.z _ k h1 hk.2 (hb.symm.trans h2)).symm
      · cbv
        refine ⟨k + 1, ⟨h1, ?_⟩, by omega, ?_⟩
        · intro j hj
          by_cases he : j = k
          · subst he; exact hb.symm.trans h2
          · exact hk.2 j (by omega)
        · cbv
          exact ⟨⟨.refl _, .refl _, .refl _, .int (zi_succ (by unfold short at hl; omega)), trivial⟩, ⟨.refl _, trivial⟩, ⟨rfl⟩⟩
    · have h1 : ¬ k < (l .o).length := fun q => of_decide_eq_false h1 (zi_lt.2 q)
      cbv
      exact hr _ (ixP_no _ Ace.z _ fun j hj => hk.2 j (by omega)).symm
theorem aclperm_c (l : Th (List Ace)) (t : Th Int) (hl : short (l .o)) {d : Nat} {K : ARes → BL → Prop} (hr : ∀ n : Th Int, n .o = permR (l .o) (t .o) → K (.ret (.int .i64 n)) .nil) :
    CallAt PT acl_perm [aces l, .int .i64 t] d .nil K := by
  refine CallAt.res ?_
  refine acl_perm.of rfl rfl ?_
  cbv
  refine CallAt.frameP [(10000, 3)] [aces l, .fn (.func acl_perm_1) .nil (.cons (.ptr 10000 0) .nil)] (by kernel_rfl) rfl fun K1 hK1 => ?_
  cbv
  refine aclindex_c l t hl fun n hn => hK1 _ _ ?_
  cbv
  have hfind := ixP_find (fun a : Ace => decide (a.tag = t .o)) Ace.z (l .o)
  refine ⟨fun h1 => ?_, fun h1 => ?_⟩
  · have h1 : n .o < 0 := of_decide_eq_true h1
    cbv
    refine ⟨_, .ret (.refl _), hr (fun _ => -1) ?_⟩
    rcases hfind with ⟨_, h2⟩ | ⟨k, h2, _, _⟩
    · unfold permR permS; rw [h2]; rfl
    · rw [hn, h2] at h1; have := zi_nonneg k; omega
  · have h1 : ¬ n .o < 0 := of_decide_eq_false h1
    rcases hfind with ⟨h2, _⟩ | ⟨k, h2, h3, h4⟩
    · exact (h1 (hn ▸ h2)).elim
    · rw [h2] at hn
      cbv
      refine ⟨fun _ => by rw [hn]; exact ⟨zi_nonneg _, zi_lt.2 h3⟩, ?_⟩
      refine ⟨_, .ret (.refl _), hr _ ?_⟩
      unfold permR permS
      rw [h4]
      show ((l .o).getD (n .o).toNat Ace.z).perm = _
      rw [hn, zi_toNat]; rfl
/-- A list's mode. -/
def modeA (l : List Ace) : Int := permR l 1 * 64 + (if permR l 5 < 0 then permR l 3 else permR l 5) * 8 + permR l 6
theorem perm8 {l : List Ace} (h : Good l) (t : Int) : permR l t = -1 ∨ (0 ≤ permR l t ∧ permR l t < 8) := by
  unfold permR permS
  cases e : l.find? fun a => decide (a.tag = t) with
  | none => exact .inl rfl
  | some a => exact .inr (h.perm a (List.mem_of_find?_eq_some e))
theorem perm8' {l : List Ace} (h : Good l) {t : Int} (ht : ∃ a ∈ l, a.tag = t) : 0 ≤ permR l t ∧ permR l t < 8 := by
  obtain ⟨p, h1, h2⟩ := perm_some h ht
  unfold permR
  rw [h1]; exact h2
theorem bor3 : ∀ a b c : Fin 8, abits .or .i64 (abits .or .i64 (IntKind.i64.wrap ((a.1 : Int) * 2 ^ 6)) (IntKind.i64.wrap ((b.1 : Int) * 2 ^ 3))) (c.1 : Int) = (a.1 : Int) * 64 + (b.1 : Int) * 8 + (c.1 : Int) := by decide +kernel
theorem bor3' {a b c : Int} (ha : 0 ≤ a ∧ a < 8) (hb : 0 ≤ b ∧ b < 8) (hc : 0 ≤ c ∧ c < 8) : abits .or .i64 (abits .or .i64 (IntKind.i64.wrap (a * 2 ^ 6)) (IntKind.i64.wrap (b * 2 ^ 3))) c = a * 64 + b * 8 + c := by
  have := bor3 ⟨a.toNat, by omega⟩ ⟨b.toNat, by omega⟩ ⟨c.toNat, by omega⟩
  simpa only [Int.toNat_of_nonneg ha.1, Int.toNat_of_nonneg hb.1, Int.toNat_of_nonneg hc.1] using this
theorem aclmode_c (l : Th (List Ace)) (hl : short (l .o)) (hg : Good (l .o)) {d : Nat} {K : ARes → BL → Prop} (hr : ∀ n : Th Int, n .o = modeA (l .o) → K (.ret (.int .i64 n)) .nil) : CallAt PT acl_Mode [aces l] d .nil K := by
  refine CallAt.res ?_
  have k1 := perm8' hg hg.own
  have k3 := perm8' hg hg.grp
  have k6 := perm8' hg hg.oth
  have k5 := perm8 hg 5
  refine acl_Mode.of rfl rfl ?_
  cbv
  refine aclperm_c l (fun _ => 5) hl fun n5 e5 => ?_
  cbv
  refine br_dec (fun h => ?_) (fun h => ?_)
  · have h : n5 .o < 0 := h
    cbv
    refine aclperm_c l (fun _ => 3) hl fun n3 e3 => ?_
    cbv
    refine aclperm_c l (fun _ => 1) hl fun n1 e1 => ?_
    cbv
    refine safe (by decide) ?_
    refine safe (by decide) ?_
    refine aclperm_c l (fun _ => 6) hl fun n6 e6 => ?_
    cbv
    refine ⟨_, .ret (.refl _), hr _ ?_⟩
    show abits .or .i64 (abits .or .i64 (IntKind.i64.wrap (n1 .o * 2 ^ 6)) (IntKind.i64.wrap (n3 .o * 2 ^ 3))) (n6 .o) = _
    rw [e1, e3, e6, bor3' k1 k3 k6]
    unfold modeA
    rw [if_pos (e5 ▸ h)]
  · have h : ¬ n5 .o < 0 := h
    cbv
    refine aclperm_c l (fun _ => 1) hl fun n1 e1 => ?_
    cbv
    refine safe (by decide) ?_
    refine safe (by decide) ?_
    refine aclperm_c l (fun _ => 6) hl fun n6 e6 => ?_
    cbv
    refine ⟨_, .ret (.refl _), hr _ ?_⟩
    show abits .or .i64 (abits .or .i64 (IntKind.i64.wrap (n1 .o * 2 ^ 6)) (IntKind.i64.wrap (n5 .o * 2 ^ 3))) (n6 .o) = _
    have h' : ¬ permR (l .o) 5 < 0 := fun q => h (by rw [e5]; exact q)
    rw [e1, e5, e6, bor3' k1 (by rcases k5 with q | q; omega; exact q) k6]
    unfold modeA
    rw [if_neg h']
theorem mode9_c (l : Th (List Ace)) (hl : short (l .o)) (hg : Good (l .o)) {d : Nat} {K : ARes → BL → Prop} (hr : ∀ n : Th Int, n .o = modeA (l .o) → K (.ret (.int .i64 n)) .nil) : CallAt PT r9_ModeAcl [aces l] d .nil K := by
  refine CallAt.res ?_
  have k1 := perm8' hg hg.own
  have k3 := perm8' hg hg.grp
  have k6 := perm8' hg hg.oth
  have k5 := perm8 hg 5
  have wr : ∀ a b c : Int, 0 ≤ a ∧ a < 8 → 0 ≤ b ∧ b < 8 → 0 ≤ c ∧ c < 8 → IntKind.i64.wrap (IntKind.i64.wrap (IntKind.i64.wrap (a * 64) + IntKind.i64.wrap (b * 8)) + c) = a * 64 + b * 8 + c := fun a b c ha hb hc => by
    simp only [IntKind.wrap_i64]
    omega
  refine r9_ModeAcl.of rfl rfl ?_
  cbv
  refine perm9_c l (fun _ => 5) hl fun n5 e5 => ?_
  cbv
  refine br_dec (fun h => ?_) (fun h => ?_)
  · have h : n5 .o < 0 := h
    cbv
    refine perm9_c l (fun _ => 3) hl fun n3 e3 => ?_
    cbv
    refine perm9_c l (fun _ => 1) hl fun n1 e1 => ?_
    cbv
    refine perm9_c l (fun _ => 6) hl fun n6 e6 => ?_
    cbv
    refine ⟨_, .ret (.refl _), hr _ ?_⟩
    show IntKind.i64.wrap (IntKind.i64.wrap (IntKind.i64.wrap (n1 .o * 64) + IntKind.i64.wrap (n3 .o * 8)) + n6 .o) = _
    rw [e1, e3, e6, wr _ _ _ k1 k3 k6]
    unfold modeA
    rw [if_pos (e5 ▸ h)]
  · have h : ¬ n5 .o < 0 := h
    cbv
    refine perm9_c l (fun _ => 1) hl fun n1 e1 => ?_
    cbv
    refine perm9_c l (fun _ => 6) hl fun n6 e6 => ?_
    cbv
    refine ⟨_, .ret (.refl _), hr _ ?_⟩
    show IntKind.i64.wrap (IntKind.i64.wrap (IntKind.i64.wrap (n1 .o * 64) + IntKind.i64.wrap (n5 .o * 8)) + n6 .o) = _
    have h' : ¬ permR (l .o) 5 < 0 := fun q => h (by rw [e5]; exact q)
    rw [e1, e5, e6, wr _ _ _ k1 (by rcases k5 with q | q; omega; exact q) k6]
    unfold modeA
    rw [if_neg h']
end Go.Proofs.Ytgjlkcdnlndlnaa
/- A builder's methods: the kit's contracts at this program, laid by hand (its tool passes them by). -/
namespace Go.Proofs
open Go.Shelf
def Try.bld_ren : Go.Shelf.Ren := ⟨fun | 167 => 141 | 240 => 145 | 276 => 147 | 169 => 143 | n => n, fun | 0 => 0 | 3 => 3 | 4 => 4 | 5 => 5 | 9 => 9 | 20 => 20 | 37 => 52 | 70 => 149 | 72 => 151 | 127 => 159 | 164 => 160 | 75 => 154 | 80 => 135 | n => n, fun | n => n⟩
theorem Try.bl240 : Go.Proofs.Lays.n240 Try.prog Try.bld_ren := {
  mixed := by kernel_rfl
  f240 := Try.func145.trans (congrArg some (by kernel_rfl))
  f276 := Try.func147.trans (congrArg some (by kernel_rfl))
  t0 := Try.underlying0
  a0 := Try.isAgg0
  z0 := Try.sizeOf0
  v0 := Try.zeroValue0
  t4 := Try.underlying4
  a4 := Try.isAgg4
  z4 := Try.sizeOf4
  v4 := Try.zeroValue4
  t9 := Try.underlying9
  a9 := Try.isAgg9
  z9 := Try.sizeOf9
  v9 := Try.zeroValue9
  t20 := Try.underlying20
  a20 := Try.isAgg20
  z20 := Try.sizeOf20
  v20 := Try.zeroValue20
  t70 := Try.underlying149
  a70 := Try.isAgg149
  z70 := Try.sizeOf149
  v70 := Try.zeroValue149
  t72 := Try.underlying151
  a72 := Try.isAgg151
  z72 := Try.sizeOf151
  v72 := Try.zeroValue151
  t164 := Try.underlying160
  a164 := Try.isAgg160
  z164 := Try.sizeOf160
  v164 := Try.zeroValue160 }
theorem Try.bl167 : Go.Proofs.Lays.n167 Try.prog Try.bld_ren := {
  mixed := by kernel_rfl
  f167 := Try.func141.trans (congrArg some (by kernel_rfl))
  f240 := Try.func145.trans (congrArg some (by kernel_rfl))
  f276 := Try.func147.trans (congrArg some (by kernel_rfl))
  t0 := Try.underlying0
  a0 := Try.isAgg0
  z0 := Try.sizeOf0
  v0 := Try.zeroValue0
  t4 := Try.underlying4
  a4 := Try.isAgg4
  z4 := Try.sizeOf4
  v4 := Try.zeroValue4
  t5 := Try.underlying5
  a5 := Try.isAgg5
  z5 := Try.sizeOf5
  v5 := Try.zeroValue5
  t9 := Try.underlying9
  a9 := Try.isAgg9
  z9 := Try.sizeOf9
  v9 := Try.zeroValue9
  t20 := Try.underlying20
  a20 := Try.isAgg20
  z20 := Try.sizeOf20
  v20 := Try.zeroValue20
  t37 := Try.underlying52
  a37 := Try.isAgg52
  z37 := Try.sizeOf52
  v37 := Try.zeroValue52
  t70 := Try.underlying149
  a70 := Try.isAgg149
  z70 := Try.sizeOf149
  v70 := Try.zeroValue149
  t72 := Try.underlying151
  a72 := Try.isAgg151
  z72 := Try.sizeOf151
  v72 := Try.zeroValue151
  t75 := Try.underlying154
  a75 := Try.isAgg154
  z75 := Try.sizeOf154
  v75 := Try.zeroValue154
  t164 := Try.underlying160
  a164 := Try.isAgg160
  z164 := Try.sizeOf160
  v164 := Try.zeroValue160 }
theorem Try.bl169 : Go.Proofs.Lays.n169 Try.prog Try.bld_ren := {
  mixed := by kernel_rfl
  f169 := Try.func143.trans (congrArg some (by kernel_rfl))
  t0 := Try.underlying0
  a0 := Try.isAgg0
  z0 := Try.sizeOf0
  v0 := Try.zeroValue0
  t3 := Try.underlying3
  a3 := Try.isAgg3
  z3 := Try.sizeOf3
  v3 := Try.zeroValue3
  t9 := Try.underlying9
  a9 := Try.isAgg9
  z9 := Try.sizeOf9
  v9 := Try.zeroValue9
  t37 := Try.underlying52
  a37 := Try.isAgg52
  z37 := Try.sizeOf52
  v37 := Try.zeroValue52
  t70 := Try.underlying149
  a70 := Try.isAgg149
  z70 := Try.sizeOf149
  v70 := Try.zeroValue149
  t72 := Try.underlying151
  a72 := Try.isAgg151
  z72 := Try.sizeOf151
  v72 := Try.zeroValue151
  t127 := Try.underlying159
  a127 := Try.isAgg159
  z127 := Try.sizeOf159
  v127 := Try.zeroValue159 }
theorem Try.bldX : Builder.Extra Try.prog Try.bld_ren := {
  sizeBuilder := by kernel_rfl
  liesBuilder := by kernel_rfl
  t5 := Try.underlying5
  a5 := Try.isAgg5
  z5 := Try.sizeOf5
  v5 := Try.zeroValue5
  infoByte := by kernel_rfl
  cellsByte := by kernel_rfl
  sizeByte := by kernel_rfl
  neB5 := by decide }
end Go.Proofs
/- A builder whose buffer lies above all that a call has made ahead of it: its methods, with all else kept. -/
namespace Go.Proofs.Ytgjlkcdnlndlnaa
open Go Go.RowKit Go.Shelf
set_option linter.unusedVariables false
set_option linter.unusedSimpArgs false

/-- A builder in block b holds the bytes bs; its buffer lies from R on. -/
structure BX (R b : Nat) (bs : List Value) (w : World) : Prop where
  lt : b < R
  le : R ≤ w.heap.size
  ex : ∃ p v, (p = .pointer none ∨ p = .pointer (some ⟨b, 0, none⟩)) ∧ w.heap[b]? = some (.cells #[p, v] 151 (0, 0)) ∧ w.ownsRow R 5 1 v bs.length bs
/-- All below R but block b is as it was. -/
structure FX (R b : Nat) (w w' : World) : Prop where
  os : w'.os = w.os
  tape : w'.tape = w.tape
  output : w'.output = w.output
  size : w.heap.size ≤ w'.heap.size
  block : ∀ k, k < R → k ≠ b → w'.heap[k]? = w.heap[k]?
theorem FX.refl (R b : Nat) (w : World) : FX R b w w := ⟨rfl, rfl, rfl, Nat.le_refl _, fun _ _ _ => rfl⟩
theorem FX.trans {R b : Nat} {u v w : World} (h : FX R b u v) (k : FX R b v w) : FX R b u w :=
  ⟨k.os.trans h.os, k.tape.trans h.tape, k.output.trans h.output, Nat.le_trans h.size k.size, fun i hi hb => (k.block i hi hb).trans (h.block i hi hb)⟩
theorem FX.below {R b : Nat} {w w' : World} (h : FX R b w w') (hR : b ≤ R) : Below b w w' := ⟨h.os, h.tape, h.output, h.size, fun k hk => h.block k (by omega) (by omega)⟩
theorem FX.cell {R b : Nat} {w w' : World} (h : FX R b w w') {k : Nat} (hk : k < R) (hb : k ≠ b) (o : Nat) : w'.cell? ⟨k, o, none⟩ = w.cell? ⟨k, o, none⟩ := World.cell?_of_block (w := w) (h.block k hk hb)
theorem FX.setCell {R b : Nat} {u w : World} (h : FX R b u w) (o : Nat) (v : Value) : FX R b u (w.setCell ⟨b, o, none⟩ v) :=
  ⟨h.os, h.tape, h.output, by simpa [World.setCell] using h.size, fun k hk hb => (Below.heap_setCell w ⟨b, o, none⟩ v k hb).trans (h.block k hk hb)⟩
theorem FX.alloc {R b : Nat} {u w : World} (h : FX R b u w) (hR : R ≤ w.heap.size) (o : Obj) : FX R b u (w.alloc o) :=
  ⟨h.os, h.tape, h.output, Nat.le_trans h.size (by simp), fun k hk hb => (Below.heap_alloc w o k (by omega)).trans (h.block k hk hb)⟩
theorem FX.grown {R b : Nat} {u w w' : World} {row : Option Nat} (h : FX R b u w) (hg : w.grownBy w' row) (hR : R ≤ w.heap.size) (hr : ∀ k, row = some k → R ≤ k) : FX R b u w' :=
  ⟨hg.os.trans h.os, hg.tape.trans h.tape, hg.output.trans h.output, Nat.le_trans h.size hg.size, fun k hk hb => (hg.block k (by omega) (fun e => by have := hr k e.symm; omega)).trans (h.block k hk hb)⟩
theorem owns_of {R : Nat} {e : TypeId} {v : Value} {n : Nat} {xs : List Value} {w w' : World} (h : w.ownsRow R e 1 v n xs) (hk : ∀ k, R ≤ k → k < w.heap.size → w'.heap[k]? = w.heap[k]?) : w'.ownsRow R e 1 v n xs := by
  refine ⟨h.1, ?_⟩
  rcases h.2 with hn | ⟨g, cap, cur, hv, hb, hg, rest⟩
  · exact .inl hn
  · exact .inr ⟨g, cap, cur, hv, hb, by rw [hk g hb (Array.getElem?_eq_some_iff.1 hg).1]; exact hg, rest⟩
theorem owns_setCell {R b : Nat} {e : TypeId} {v : Value} {n : Nat} {xs : List Value} {w : World} (h : w.ownsRow R e 1 v n xs) (hb : b < R) (o : Nat) (u : Value) : (w.setCell ⟨b, o, none⟩ u).ownsRow R e 1 v n xs :=
  owns_of h fun k hk _ => Below.heap_setCell w ⟨b, o, none⟩ u k (by show k ≠ b; omega)
theorem owns_lt {R : Nat} {e : TypeId} {v : Value} {n : Nat} {xs : List Value} {w : World} (h : w.ownsRow R e 1 v n xs) : ∀ k, v.ownBlock = some k → R ≤ k := by
  intro k hk
  rcases h.2 with ⟨rfl, _⟩ | ⟨g, cap, cur, rfl, hb, _⟩
  · simp [Value.ownBlock] at hk
  · simp [Value.ownBlock] at hk; omega
theorem heap_set2 {w : World} {b : Nat} {p v : Value} {T : TypeId} (h : w.heap[b]? = some (.cells #[p, v] T (0, 0))) (q : Value) : (w.setCell ⟨b, 0, none⟩ q).heap[b]? = some (.cells #[q, v] T (0, 0)) ∧ (w.setCell ⟨b, 1, none⟩ q).heap[b]? = some (.cells #[p, q] T (0, 0)) := by
  constructor <;> simp [World.setCell, Array.getElem?_modify, h]
theorem BX.is {R b : Nat} {bs : List Value} {w : World} (h : BX R b bs w) : Lib.IsBuilder 151 5 b b bs w := by
  obtain ⟨p, v, hp, hb, hown⟩ := h.ex
  have hlt := h.lt
  have hne : v.ownBlock ≠ some b := fun e => by have := owns_lt hown b e; omega
  have ho : w.ownsRow b 5 1 v bs.length bs := by
    refine ⟨hown.1, ?_⟩
    rcases hown.2 with hn | ⟨g, cap, cur, hv, hg, rest⟩
    · exact .inl hn
    · exact .inr ⟨g, cap, cur, hv, by omega, rest⟩
  rcases hp with rfl | rfl
  · exact .inl ⟨Nat.le_refl _, v, hb, ho, hne⟩
  · exact .inr ⟨Nat.le_refl _, v, hb, ho, hne⟩
theorem BX.drew {R b : Nat} {bs : List Value} {w : World} (h : BX R b bs w) : BX R b bs w.drew := ⟨h.lt, h.le, h.ex⟩
theorem BX.alloc {R b : Nat} {bs : List Value} {w : World} (h : BX R b bs w) (o : Obj) : BX R b bs (w.alloc o) := by
  obtain ⟨p, v, hp, hb, hown⟩ := h.ex
  have h1 := h.lt
  have h2 := h.le
  exact ⟨h1, Nat.le_trans h2 (by simp), p, v, hp, by rw [Lib.alloc_old w _ b (by omega)]; exact hb, owns_of hown fun k _ hk => Lib.alloc_old w _ k hk⟩
theorem FX.drew {R b : Nat} {u w : World} (h : FX R b u w) : FX R b u w.drew := ⟨h.os, h.tape, h.output, h.size, h.block⟩
theorem bcheck_m (R b : Nat) (bs : List Value) (w : World) (h : BX R b bs w) : Calls Try.prog 145 #[.pointer (some ⟨b, 0, none⟩)] w fun e w' => e = .returned (.tuple #[]) ∧ BX R b bs w' ∧ FX R b w w' ∧ ∀ k, k ≠ b → w'.heap[k]? = w.heap[k]? := by
  have h' := h
  obtain ⟨p, v, hp, hb, hown⟩ := h.ex
  rcases hp with rfl | rfl
  · refine (Any.Builder_copyCheck_fresh Try.bl240 Try.bldX.toX72 b w (by rw [Lib.cell_of_heap hb]; rfl) (by simp [World.shape?, hb]; rfl) (by simp [World.frozen?, hb])).mono ?_
    rintro e w' ⟨rfl, rfl⟩
    exact ⟨rfl, ⟨h.lt, by simpa [World.setCell] using h.le, _, v, .inr rfl, (heap_set2 hb _).1, owns_setCell hown h.lt 0 _⟩, (FX.refl R b w).setCell 0 _, fun k hk => Below.heap_setCell w ⟨b, 0, none⟩ _ k hk⟩
  · refine (Any.Builder_copyCheck_used Try.bl240 Try.bldX.toX72 b w (by rw [Lib.cell_of_heap hb]; rfl)).mono ?_
    rintro e w' ⟨rfl, rfl⟩
    exact ⟨rfl, h', .refl R b _, fun _ _ => rfl⟩
set_option maxHeartbeats 2000000 in
set_option maxRecDepth 100000 in
/-- WriteByte. -/
theorem bbyte_m (R b : Nat) (bs : List Value) (c : Int) (w : World) (h : BX R b bs w) (hlen : bs.length + 1 ≤ 140737488355328) : Calls Try.prog 141 #[.pointer (some ⟨b, 0, none⟩), .int .u8 c] w fun e w' => e = .returned .nilIface ∧ BX R b (bs ++ [.int .u8 c]) w' ∧ FX R b w w' := by
  have X := Try.bldX
  obtain ⟨i0, hi, hz0, hz1, hz2⟩ := info_parts X.infoByte
  go_enter Try.func141, Try.ntmps141
  go_wp2_with fail
  go_at_call 145
  refine (bcheck_m R b bs _ h).mono ?_
  rintro e w1 ⟨rfl, h1, hb1, hot⟩
  obtain ⟨p, v, hp, hbk, hown⟩ := h1.ex
  have c1 : w1.cell? ⟨b, 1, none⟩ = some v := by rw [Lib.cell_of_heap hbk]; rfl
  have hle := h1.le
  have hlt := h1.lt
  go_wp2_with (at_builtin; refine wpList_append_own _ rfl _ _ 52 rfl R 5 i0 (.int .u8 0) 1 1 Try.underlying52 hi hz0 hz1 hz2 rfl (by decide) _ _ _ rfl (hown.alloc _) ⟨w1.heap.size, 0, none⟩ 1 1 [.int .u8 c] rfl rfl ?c1 ?c2 ?c3 ?c4 ?c5 ?_)
  case c1 =>
    intro j u hj
    match j, hj with
    | 0, hj => simp at hj; subst hj; simp [Addr.add]
  case c2 => intro u hu; simp at hu; subst hu; rfl
  case c3 => unfold maxLen; omega
  case c4 => omega
  case c5 => simp; omega
  intro v' w2 hown' hgrow _
  have hb2 : w2.heap[b]? = some (.cells #[p, v] 151 (0, 0)) := by
    rw [hgrow.block b (by simp; omega) (fun e => by have := owns_lt hown b e.symm; omega), Lib.alloc_old w1 _ b (by omega)]
    exact hbk
  have d1 : w2.cell? ⟨b, 1, none⟩ = some v := by rw [Lib.cell_of_heap hb2]; rfl
  have f1 : w2.frozen? ⟨b, 1, none⟩ = false := Lib.frozen_of_heap hb2 1
  have hs2 : R ≤ w2.heap.size := Nat.le_trans (by simp; omega) hgrow.size
  obtain ⟨g, cap, rfl⟩ : ∃ g cap, v' = .slice (some ⟨g, 0, none⟩) (bs.length + 1) cap := by
    rcases hown'.2 with ⟨_, h0⟩ | ⟨g, cap, cur, hv, _⟩
    · omega
    · exact ⟨g, cap, hv⟩
  go_wp2
  go_ret
  refine ⟨rfl, ⟨hlt, by simpa [World.setCell] using hs2, p, _, hp, (heap_set2 hb2 _).2, ?_⟩, (FX.grown (hb1.alloc hle _) hgrow (by simp; omega) (fun k hk => owns_lt hown k hk)).setCell 1 _⟩
  exact owns_setCell (by simpa using hown') hlt 1 _
set_option maxHeartbeats 2000000 in
set_option maxRecDepth 100000 in
/-- Write. -/
theorem bwrite_m (R b : Nat) (bs : List Value) (ad : Addr) (m cap0 : Nat) (news : List Value) (w : World) (h : BX R b bs w) (hlen : bs.length + m ≤ 140737488355328) (hm : 0 < m) (hl : news.length = m) (hnews : ∀ j u, news[j]? = some u → w.cell? (ad.add j) = some u) (h1c : ∀ u ∈ news, u.oneCell' = true) (had : ad.block ≠ b) : Calls Try.prog 142 #[.pointer (some ⟨b, 0, none⟩), .slice (some ad) m cap0] w fun e w' => e = .returned (.tuple #[.int .i64 m, .nilIface]) ∧ BX R b (bs ++ news) w' ∧ FX R b w w' := by
  have X := Try.bldX
  obtain ⟨i0, hi, hz0, hz1, hz2⟩ := info_parts X.infoByte
  go_enter Try.func142, Try.ntmps142
  go_wp2_with fail
  go_at_call 145
  refine (bcheck_m R b bs _ h).mono ?_
  rintro e w1 ⟨rfl, h1, hb1, hot⟩
  obtain ⟨p, v, hp, hbk, hown⟩ := h1.ex
  have c1 : w1.cell? ⟨b, 1, none⟩ = some v := by rw [Lib.cell_of_heap hbk]; rfl
  have hle := h1.le
  have hlt := h1.lt
  have hadd : ∀ j, (ad.add j).block = ad.block := fun j => by unfold Addr.add; split <;> rfl
  go_wp2_with (at_builtin; refine wpList_append_own _ rfl _ _ 52 rfl R 5 i0 (.int .u8 0) 1 1 Try.underlying52 hi hz0 hz1 hz2 rfl (by decide) _ _ _ rfl hown ad m cap0 news rfl (by rw [hl, Nat.mul_one]) ?c1 h1c ?c3 ?c4 ?c5 ?_)
  case c1 =>
    intro j u hj
    rw [World.cell?_of_block (w := w) (hot _ (by rw [hadd]; exact had))]
    exact hnews j u hj
  case c3 => unfold maxLen; omega
  case c4 => omega
  case c5 => exact hle
  intro v' w2 hown' hgrow _
  have hb2 : w2.heap[b]? = some (.cells #[p, v] 151 (0, 0)) := by
    rw [hgrow.block b (by omega) (fun e => by have := owns_lt hown b e.symm; omega)]
    exact hbk
  have d1 : w2.cell? ⟨b, 1, none⟩ = some v := by rw [Lib.cell_of_heap hb2]; rfl
  have f1 : w2.frozen? ⟨b, 1, none⟩ = false := Lib.frozen_of_heap hb2 1
  have hs2 : R ≤ w2.heap.size := Nat.le_trans hle hgrow.size
  obtain ⟨g, cap, rfl⟩ : ∃ g cap, v' = .slice (some ⟨g, 0, none⟩) (bs.length + m) cap := by
    rcases hown'.2 with ⟨_, h0⟩ | ⟨g, cap, cur, hv, _⟩
    · omega
    · exact ⟨g, cap, hv⟩
  go_wp2
  go_ret2
  refine ⟨rfl, ⟨hlt, by simpa [World.setCell] using hs2, p, _, hp, (heap_set2 hb2 _).2, ?_⟩, (FX.grown hb1 hgrow hle (fun k hk => owns_lt hown k hk)).setCell 1 _⟩
  exact owns_setCell (by simpa [hl] using hown') hlt 1 _
set_option maxHeartbeats 1000000 in
/-- Write of three bytes just laid. -/
theorem bwrite3_m (R b : Nat) (bs : List Value) (x y z : Int) (w1 : World) (h : BX R b bs w1) (hlen : bs.length + 3 ≤ 140737488355328) : Calls Try.prog 142 #[.pointer (some ⟨b, 0, none⟩), .slice (some ⟨w1.heap.size, 0, none⟩) 3 3] (w1.alloc (.cells #[.int .u8 x, .int .u8 y, .int .u8 z] 5)).drew fun e w' => (∃ v, e = .returned v) ∧ BX R b (bs ++ [.int .u8 x, .int .u8 y, .int .u8 z]) w' ∧ FX R b w1 w' := by
  have h1 := h.lt
  have h2 := h.le
  refine (bwrite_m R b bs ⟨w1.heap.size, 0, none⟩ 3 3 [.int .u8 x, .int .u8 y, .int .u8 z] _ (h.alloc _).drew hlen (by decide) rfl ?_ ?_ (by show w1.heap.size ≠ b; omega)).mono ?_
  · intro j u hj
    match j, hj with
    | 0, hj | 1, hj | 2, hj => simp at hj; subst hj; simp [Addr.add]
  · intro u hu
    simp at hu
    rcases hu with rfl | rfl | rfl <;> rfl
  · rintro e w' ⟨rfl, h3, h4⟩
    exact ⟨⟨_, rfl⟩, h3, (((FX.refl R b w1).alloc h2 _).drew).trans h4⟩
end Go.Proofs.Ytgjlkcdnlndlnaa
/- escape.Put, at the machine's level, by the kit's walk; then as a contract. -/
namespace Go.Proofs.Ytgjlkcdnlndlnaa
open Go Go.RowKit Go.Shelf
set_option linter.unusedVariables false
set_option linter.unusedSimpArgs false

def plainB (c : Int) : Bool := decide (33 ≤ c) && decide (c ≤ 126) && !decide (c = 37) && !decide (c = 61)
theorem plain_m (c : Int) (w : World) : Calls Try.prog 140 #[.int .u8 c] w fun e w' => e = .returned (.bool (plainB c)) ∧ w' = w := by
  go_enter Try.func140, Try.ntmps140
  go_wp2
  all_goals go_ret
  all_goals refine ⟨?_, rfl⟩
  all_goals (congr 2; simp only [plainB])
  · rename_i h1 h2 h3; subst h3; rfl
  · rename_i h1 h2 h3
    rw [decide_eq_true h1, decide_eq_true h2, decide_eq_false h3]
    show Value.bool (c != 37 && c != 61) = _
    rw [show (c != 37) = true by simpa using h3]
    rfl
  · rename_i h1 h2; rw [decide_eq_true h1, decide_eq_false (by omega : ¬ c ≤ 126)]; rfl
  · rename_i h1; rw [decide_eq_false (by omega : ¬ 33 ≤ c)]; rfl
/-- A byte, escaped. -/
def hexB (n : UInt8) : UInt8 := ([48, 49, 50, 51, 52, 53, 54, 55, 56, 57, 65, 66, 67, 68, 69, 70] : List UInt8).getD n.toNat 0
def escB (c : UInt8) : List UInt8 := if plainB c.toNat then [c] else [37, hexB (c / 16), hexB (c % 16)]
def escS (s : List UInt8) : List UInt8 := s.flatMap escB
theorem escS_take (l : List UInt8) (k : Nat) (h : k < l.length) : escS (l.take (k + 1)) = escS (l.take k) ++ escB (l[k]) := by
  unfold escS
  rw [List.take_succ_eq_append_getElem h, List.flatMap_append]
  simp
theorem escB_len (c : UInt8) : (escB c).length ≤ 3 := by unfold escB; split <;> simp
theorem escS_len : ∀ l : List UInt8, (escS l).length ≤ 3 * l.length
  | [] => Nat.le_refl _
  | c :: r => by
    have h1 := escS_len r
    have h2 := escB_len c
    simp only [escS, List.flatMap_cons, List.length_append, List.length_cons] at h1 ⊢
    omega
theorem band15_fin : ∀ n : Fin 256, bits BinOp.and IntKind.u8 (n.1 : Int) 15 = (n.1 : Int) % 16 := by decide +kernel
theorem band15 (c : UInt8) : bits BinOp.and IntKind.u8 (c.toNat : Int) 15 = (c.toNat : Int) % 16 := band15_fin ⟨c.toNat, c.toNat_lt⟩
theorem hexB_fin : ∀ n : Fin 16, (⟨#[48, 49, 50, 51, 52, 53, 54, 55, 56, 57, 65, 66, 67, 68, 69, 70]⟩ : ByteArray)[n.1]'(Nat.lt_of_lt_of_le n.2 (by decide)) = hexB (UInt8.ofNat n.1) := by decide
theorem hexB_at (n : Nat) (h : n < (⟨#[48, 49, 50, 51, 52, 53, 54, 55, 56, 57, 65, 66, 67, 68, 69, 70]⟩ : ByteArray).size) : (⟨#[48, 49, 50, 51, 52, 53, 54, 55, 56, 57, 65, 66, 67, 68, 69, 70]⟩ : ByteArray)[n] = hexB (UInt8.ofNat n) := hexB_fin ⟨n, h⟩
set_option maxHeartbeats 2000000 in
set_option maxRecDepth 100000 in
theorem esc_m (s : ByteArray) (w : World) (hs : s.size ≤ 1099511627776) : Calls Try.prog 135 #[.string s] w fun e w' => e = .returned (.string ⟨(escS s.data.toList).toArray⟩) ∧ Below w.heap.size w w' := by
  go_enter Try.func135, Try.ntmps135
  go_wp2
  rw [Lib.run_convert_string_bytes _ _ _ 5 s Try.underlying9 Try.underlying52 Try.underlying5]
  simp only [Result.andThen]
  rw [Oper.upon_value]
  go_wp2
  generalize hW0 : w.alloc (Obj.cells #[Value.pointer none, Value.slice none 0 0] 151) = w0
  have hw0 : w0.heap.size = w.heap.size + 1 := by rw [← hW0]; simp
  have hb0 : w0.heap[w.heap.size]? = some (.cells #[.pointer none, .slice none 0 0] 151 (0, 0)) := by rw [← hW0]; exact heap_alloc_new w _
  have hbel0 : Below w.heap.size w w0 := by rw [← hW0]; exact (Below.refl _ w).alloc (Nat.le_refl _) _
  have HB0 : Hid (BX (w.heap.size + 2) w.heap.size (Lib.byteCells (escS (s.data.toList.take 0))) (Lib.bytesWorld w0 5 s)) := ⟨by omega, by rw [Lib.bytesWorld_size, hw0]; exact Nat.le_refl _, .pointer none, .slice none 0 0, .inl rfl, by rw [Lib.bytesWorld_at_old _ _ _ _ (by omega)]; exact hb0, by rw [List.take_zero]; exact ⟨rfl, .inl ⟨rfl, rfl⟩⟩⟩
  have HF0 : Hid (FX (w.heap.size + 2) w.heap.size (Lib.bytesWorld w0 5 s) (Lib.bytesWorld w0 5 s)) := FX.refl _ _ _
  clear hb0
  go_loopw [9] (fun v wr => ∃ k : Nat, k ≤ s.size ∧ v = .int .i64 k ∧ Hid (BX (w.heap.size + 2) w.heap.size (Lib.byteCells (escS (s.data.toList.take k))) wr) ∧ Hid (FX (w.heap.size + 2) w.heap.size (Lib.bytesWorld w0 5 s) wr)) (fun v _ => s.size - (intOf v).toNat)
  case atStart => exact ⟨0, Nat.zero_le _, rfl, HB0, HF0⟩
  case round =>
    obtain ⟨k, hk, rfl, HB, HF⟩ := hrel
    by_cases hlt : k < s.size
    · obtain ⟨c, hcd⟩ : ∃ c, s.data.toList[k]'(by simpa using hlt) = c := ⟨_, rfl⟩
      have hc : wr.cell? ⟨w.heap.size + 1, k, none⟩ = some (.int .u8 c.toNat) := by
        rw [HF.out.cell (by omega) (by omega), ← hw0, Lib.bytesWorld_cell w0 _ s k hlt, ← hcd, List.getD_eq_getElem?_getD, List.getElem?_eq_getElem (by simpa using hlt)]; rfl
      have hnx : escS (s.data.toList.take (k + 1)) = escS (s.data.toList.take k) ++ escB c := by rw [escS_take _ _ (by simpa using hlt), hcd]
      have hlen : (Lib.byteCells (escS (s.data.toList.take k))).length ≤ 3 * k := by
        rw [Lib.byteCells_length]
        have := escS_len (s.data.toList.take k)
        rw [List.length_take] at this
        omega
      have hc256 : c.toNat < 256 := c.toNat_lt
      go_wp2_with fail
      refine (plain_m _ _).mono ?_
      rintro e w1 ⟨rfl, rfl⟩
      cases hp : plainB c.toNat with
      | true =>
        have he : escB c = [c] := by rw [escB, hp]; rfl
        go_wp2_with fail
        refine (bbyte_m (w.heap.size + 2) w.heap.size _ _ _ HB.out (by omega)).mono ?_
        rintro e w2 ⟨rfl, h2, hf2⟩
        have H2 : Hid (BX (w.heap.size + 2) w.heap.size (Lib.byteCells (escS (s.data.toList.take (k + 1)))) w2) := by
          rw [hnx, he, Lib.byteCells_append]; exact h2
        have F2 : Hid (FX (w.heap.size + 2) w.heap.size (Lib.bytesWorld w0 5 s) w2) := HF.out.trans hf2
        clear h2 hf2
        go_wp2
        exact ⟨⟨k + 1, by omega, by go_num, H2, F2⟩, by simp [intOf]; omega⟩
      | false =>
        have he : escB c = [37, hexB (c / 16), hexB (c % 16)] := by rw [escB, hp]; rfl
        go_wp2_with fail
        have q1 : 0 ≤ (c.toNat : Int) / 16 ∧ (c.toNat : Int) / 16 < 16 := by omega
        have q2 : 0 ≤ (c.toNat : Int) % 16 ∧ (c.toNat : Int) % 16 < 16 := by omega
        have q3 : bits BinOp.and IntKind.u8 (c.toNat : Int) 15 = (c.toNat : Int) % 16 := band15 c
        have q4 : 0 ≤ bits BinOp.and IntKind.u8 (c.toNat : Int) 15 ∧ bits BinOp.and IntKind.u8 (c.toNat : Int) 15 < 16 := by rw [q3]; exact q2
        have q5 : UInt8.ofNat ((c.toNat : Int) / 16).toNat = c / 16 := UInt8.toNat_inj.1 (by rw [UInt8.toNat_ofNat', UInt8.toNat_div]; show _ % 256 = c.toNat / 16; omega)
        have q6 : UInt8.ofNat ((c.toNat : Int) % 16).toNat = c % 16 := UInt8.toNat_inj.1 (by rw [UInt8.toNat_ofNat', UInt8.toNat_mod]; show _ % 256 = c.toNat % 16; omega)
        go_region_with (go_at_call 142; refine (bwrite3_m (w.heap.size + 2) w.heap.size _ _ _ _ _ HB.out (by omega)).mono ?_; rintro e w2 ⟨⟨v, rfl⟩, h2, hf2⟩)
        all_goals go_wp2_with fail
        all_goals
          simp only [hexB_at, q5, q6] at h2
          have H2 : Hid (BX (w.heap.size + 2) w.heap.size (Lib.byteCells (escS (s.data.toList.take (k + 1)))) w2) := by
            rw [hnx, he, Lib.byteCells_append]; exact h2
          exact ⟨⟨k + 1, by omega, by go_num, H2, HF.out.trans hf2⟩, by simp [intOf]; omega⟩
    · have hke : k = s.size := by omega
      subst hke
      have hall : s.data.toList.take s.size = s.data.toList := List.take_of_length_le (by simp)
      have HB' := HB.out
      rw [hall] at HB'
      go_wp2_with fail
      refine (Any.Builder_String_any Try.bl169 Try.bldX w.heap.size w.heap.size _ wr HB'.is (by have := HB'.le; omega)).mono ?_
      rintro e w5 ⟨rfl, hb5⟩
      have hb6 : Below w.heap.size w (Lib.bytesWorld w0 5 s) := hbel0.trans ⟨rfl, rfl, rfl, by rw [Lib.bytesWorld_size]; omega, fun j hj => Lib.bytesWorld_at_old w0 _ s j (by omega)⟩
      have Hb5 : Hid (Below w.heap.size w w5) := (hb6.trans (HF.out.below (by omega))).trans hb5
      clear hb5 hb6 HB'
      go_wp2
      go_ret
      exact ⟨rfl, Hb5.out⟩
open Go.Proofs.Ytgjlkcdnlndlnaa.Sx F
theorem esc_c (s : Th (List UInt8)) (hs : (s .o).length ≤ 1099511627776) {d : Nat} {K : ARes → BL → Prop} (hr : ∀ t : Th (List UInt8), t .o = escS (s .o) → K (.ret (.str t)) .nil) : CallAt PT 135 [.str s] d .nil K := by
  refine CallAt.of_below (by kernel_rfl) fun E vs hb hv => ?_
  obtain ⟨v1, r1, rfl, h1, rfl⟩ : ∃ v1 r1, vs = v1 :: r1 ∧ Rp E (.str s) v1 ∧ r1 = [] := hv
  obtain rfl : v1 = .string ⟨(s .o).toArray⟩ := h1
  refine (esc_m ⟨(s .o).toArray⟩ E.w (by show (s .o).toArray.size ≤ _; simpa using hs)).mono ?_
  rintro e w' ⟨rfl, hbl⟩
  exact ⟨.ret (.str fun _ => escS (s .o)), rfl, rfl, hr _ rfl, hbl⟩
end Go.Proofs.Ytgjlkcdnlndlnaa
/- Functions of package strings at a separator of one byte: walked by the kit's laws. -/
namespace Go.Proofs.Ytgjlkcdnlndlnaa
open Go Go.RowKit
set_option linter.unusedVariables false
set_option linter.unusedSimpArgs false

set_option maxHeartbeats 1000000 in
set_option maxRecDepth 100000 in
theorem indexByte_calls (s : ByteArray) (c : Int) (w : World) :
    Calls Try.prog 148 #[.string s, .int .u8 c] w fun e w' => e = .returned (.int .i64 (Lib.indexByte s.data.toList c.toNat.toUInt8)) ∧ w' = w := by
  go_enter Try.func148, Try.ntmps148
  go_wp2
  rw [run_callFunc_extern Try.func152 (by kernel_rfl) (by kernel_rfl) (by kernel_rfl) (e := Extern.BytealgIndexByte.indexByte) (by kernel_rfl), Lib.run_indexByteString]
  simp only [Result.andThen]
  rw [Oper.upon_value]
  go_wp2
  go_ret
  exact ⟨rfl, rfl⟩

set_option maxHeartbeats 2000000 in
set_option maxRecDepth 100000 in
theorem index1_calls (s : ByteArray) (c : UInt8) (w : World) :
    Calls Try.prog 146 #[.string s, .string ⟨#[c]⟩] w fun e w' => e = .returned (.int .i64 (Lib.indexByte s.data.toList c)) ∧ w' = w := by
  go_enter Try.func146, Try.ntmps146
  go_wp2_with (go_at_call 148; refine (indexByte_calls _ _ _).mono ?_; rintro e w' ⟨rfl, rfl⟩)
  · have h : ([c] == s.toList) = true := by assumption
    go_ret
    refine ⟨?_, rfl⟩
    have e : s.data.toList = [c] := by rw [← Lib.toList_data]; exact (beq_iff_eq.1 h).symm
    rw [e]
    simp [Lib.indexByte]
  · go_ret
    exact ⟨rfl, rfl⟩

open Go.Proofs.Ytgjlkcdnlndlnaa.Sx F
/-- A call of two strings that hands back what names nothing. -/
theorem two_strs {f : Nat} (hf : callable (PT .o) f = true) (s : Th (List UInt8)) (p : List UInt8) (r : ARes) (hr : r.flat = true) (post : Ending → Prop)
    (h : ∀ w, Calls (PT .o) f #[.string ⟨(s .o).toArray⟩, .string ⟨p.toArray⟩] w fun e w' => post e ∧ w' = w) (hp : ∀ (E : Env) e, post e → Sx.Ends E r e) {d : Nat} {K : ARes → BL → Prop} (hK : K r .nil) :
    CallAt PT f [.str s, .str fun _ => p] d .nil K := by
  refine CallAt.of_below hf fun E vs hb hv => ?_
  obtain ⟨v1, r1, rfl, h1, v2, r2, rfl, h2, rfl⟩ : ∃ v1 r1, vs = v1 :: r1 ∧ Rp E (.str s) v1 ∧ ∃ v2 r2, r1 = v2 :: r2 ∧ Rp E (.str fun _ => p) v2 ∧ r2 = [] := hv
  obtain rfl : v1 = .string ⟨(s .o).toArray⟩ := h1
  obtain rfl : v2 = .string ⟨p.toArray⟩ := h2
  refine (h E.w).mono ?_
  rintro e w' ⟨he, rfl⟩
  exact ⟨r, hr, hp E e he, hK, Below.refl _ _⟩
theorem index1_c (s : Th (List UInt8)) (c : UInt8) {d : Nat} {K : ARes → BL → Prop} (hr : ∀ n : Th Int, n .o = Lib.indexByte (s .o) c → K (.ret (.int .i64 n)) .nil) : CallAt PT 146 [.str s, .str fun _ => [c]] d .nil K :=
  two_strs (by kernel_rfl) s [c] (.ret (.int .i64 fun _ => Lib.indexByte (s .o) c)) rfl (fun e => e = .returned (.int .i64 (Lib.indexByte (s .o) c))) (fun w => index1_calls _ c w) (fun E e he => by subst he; rfl) (hr _ rfl)
theorem strIndex1_c (s : Th (List UInt8)) (c : UInt8) {d : Nat} {K : ARes → BL → Prop} (hr : ∀ n : Th Int, n .o = Lib.indexByte (s .o) c → K (.ret (.int .i64 n)) .nil) : CallAt PT strings_Index [.str s, .str fun _ => [c]] d .nil K := by
  refine strings_Index.of rfl rfl ?_
  cbv
  refine index1_c s c fun n hn => ?_
  cbv
  exact hr _ hn
theorem index_neg {l : List UInt8} {c : UInt8} : 0 ≤ Lib.indexByte l c ↔ c ∈ l := by
  induction l with
  | nil => simp [Lib.indexByte]
  | cons b l ih =>
    have hg := Lib.indexByte_ge l c
    unfold Lib.indexByte
    by_cases h : b = c
    · simp [h]
    · have h' : (b == c) = false := by simpa using h
      rw [h']
      simp only [Bool.false_eq_true, if_false, List.mem_cons]
      split
      · rename_i h2
        have h2 : Lib.indexByte l c = -1 := by simpa using h2
        constructor
        · intro q; omega
        · rintro (q | q)
          · exact absurd q.symm h
          · have := ih.2 q; omega
      · rename_i h2
        have h2 : Lib.indexByte l c ≠ -1 := by simpa using h2
        constructor
        · intro q; exact .inr (ih.1 (by omega))
        · intro _; omega
theorem contains1_c (s : Th (List UInt8)) (c : UInt8) {d : Nat} {K : ARes → BL → Prop} (hr : ∀ b : Th Bool, b .o = decide (c ∈ s .o) → K (.ret (.bool b)) .nil) : CallAt PT strings_Contains [.str s, .str fun _ => [c]] d .nil K := by
  refine strings_Contains.of rfl rfl ?_
  cbv
  refine strIndex1_c s c fun n hn => ?_
  cbv
  exact hr _ (by show decide (0 ≤ n .o) = _; rw [hn, decide_eq_decide]; exact index_neg)
end Go.Proofs.Ytgjlkcdnlndlnaa
/- Names with values that may be: walked, exact. -/
namespace Go.Proofs.Ytgjlkcdnlndlnaa
open Go Go.Proofs.Ytgjlkcdnlndlnaa.Sx F
set_option linter.unusedVariables false
set_option linter.unusedSimpArgs false

/-! ### escaped, the document's way -/
def u8Ch (b : Th UInt8) : AV := .cons (.int .u8 fun _ => zi (b .o).toNat) .nil
def hexS : List UInt8 := [48, 49, 50, 51, 52, 53, 54, 55, 56, 57, 65, 66, 67, 68, 69, 70]
theorem escS_succ (l : List UInt8) (k : Nat) (h : k < l.length) : escS (l.take (k + 1)) = escS (l.take k) ++ escB (l.getD k 0) := by
  rw [escS_take l k h, List.getD_eq_getElem?_getD, List.getElem?_eq_getElem h]; rfl
theorem escB_ge (c : UInt8) : 1 ≤ (escB c).length := by unfold escB; split <;> simp
theorem escS_ge : ∀ l : List UInt8, l.length ≤ (escS l).length
  | [] => Nat.le_refl _
  | c :: r => by
    have h1 := escS_ge r
    have h2 := escB_ge c
    simp only [escS, List.flatMap_cons, List.length_append, List.length_cons] at h1 ⊢
    omega
theorem bytes_u8 {n : Nat} {g : Th Nat → AV} (l : List UInt8) (hn : n = l.length) (hg : ∀ i, i < n → g (fun _ => i) = u8Ch fun _ => l.getD i 0) : bytesN n g = l := by
  subst hn
  unfold bytesN
  apply List.ext_getElem?
  intro i
  rw [List.getElem?_map]
  by_cases h : i < l.length
  · rw [List.getElem?_range h, List.getElem?_eq_getElem h]
    simp only [Option.map_some, hg i h]
    show some (UInt8.ofNat (zi (l.getD i 0).toNat).toNat) = _
    rw [zi_toNat, List.getD_eq_getElem?_getD, List.getElem?_eq_getElem h]
    simp
  · rw [List.getElem?_eq_none (by simp; omega), List.getElem?_eq_none (by omega)]; rfl
theorem plain_lt {c : UInt8} (h : zi c.toNat < 33) : plainB c.toNat = false := by
  unfold zi at h
  unfold plainB; rw [decide_eq_false (by omega : ¬ 33 ≤ (c.toNat : Int))]; rfl
theorem plain_gt {c : UInt8} (h : 126 < zi c.toNat) : plainB c.toNat = false := by
  unfold zi at h
  unfold plainB; rw [decide_eq_false (by omega : ¬ (c.toNat : Int) ≤ 126)]; simp
theorem plain_37 {c : UInt8} (h : zi c.toNat = 37) : plainB c.toNat = false := by
  have h : (c.toNat : Int) = 37 := h
  rw [h]; rfl
theorem plain_61 {c : UInt8} (h : zi c.toNat = 61) : plainB c.toNat = false := by
  have h : (c.toNat : Int) = 61 := h
  rw [h]; rfl
theorem plain_ok {c : UInt8} (h1 : ¬ zi c.toNat < 33) (h2 : ¬ 126 < zi c.toNat) (h3 : ¬ zi c.toNat = 37) (h4 : ¬ zi c.toNat = 61) : plainB c.toNat = true := by
  unfold zi at h1 h2 h3 h4
  unfold plainB
  rw [decide_eq_true (by omega : 33 ≤ (c.toNat : Int)), decide_eq_true (by omega : (c.toNat : Int) ≤ 126), decide_eq_false h3, decide_eq_false h4]; rfl
theorem hex_hi_fin : ∀ n : Fin 256, (0 ≤ (zi n.1).fdiv (2 ^ min (Int.toNat 4) IntKind.u8.bits) ∧ (zi n.1).fdiv (2 ^ min (Int.toNat 4) IntKind.u8.bits) < zi 16) ∧ hexS.getD ((zi n.1).fdiv (2 ^ min (Int.toNat 4) IntKind.u8.bits)).toNat 0 = hexB (UInt8.ofNat n.1 / 16) := by decide +kernel
theorem hex_hi (c : UInt8) : (0 ≤ (zi c.toNat).fdiv (2 ^ min (Int.toNat 4) IntKind.u8.bits) ∧ (zi c.toNat).fdiv (2 ^ min (Int.toNat 4) IntKind.u8.bits) < zi 16) ∧ hexS.getD ((zi c.toNat).fdiv (2 ^ min (Int.toNat 4) IntKind.u8.bits)).toNat 0 = hexB (c / 16) := by
  have := hex_hi_fin ⟨c.toNat, c.toNat_lt⟩
  simpa using this
theorem hex_lo_fin : ∀ n : Fin 256, (0 ≤ abits .and .u8 (zi n.1) 15 ∧ abits .and .u8 (zi n.1) 15 < zi 16) ∧ hexS.getD (abits .and .u8 (zi n.1) 15).toNat 0 = hexB (UInt8.ofNat n.1 % 16) := by decide +kernel
theorem hex_lo (c : UInt8) : (0 ≤ abits .and .u8 (zi c.toNat) 15 ∧ abits .and .u8 (zi c.toNat) 15 < zi 16) ∧ hexS.getD (abits .and .u8 (zi c.toNat) 15).toNat 0 = hexB (c % 16) := by
  have := hex_lo_fin ⟨c.toNat, c.toNat_lt⟩
  simpa using this
theorem r1esc_c (s : Th (List UInt8)) (hs : (s .o).length ≤ 1099511627776) {d : Nat} {K : ARes → BL → Prop} (hr : ∀ t : Th (List UInt8), t .o = escS (s .o) → K (.ret (.str t)) .nil) : CallAt PT r1_Escape [.str s] d .nil K := by
  refine CallAt.res ?_
  refine r1_Escape.of rfl rfl ?_
  cbv
  refine nil_tmp 3 9000 1 (fun i => u8Ch fun _ => ([] : List UInt8).getD (i .o) 0) rfl rfl ?_
  refine loop_at (X := Nat) 1000 [0, 4] [] (fun _ k => .cons 3 (.row 9000) (.cons 5 (.int .i64 fun _ => zi k) .nil)) (fun _ k => .cons 9000 (rowB 1 u8Ch 0 fun _ => escS ((s .o).take k)) .nil)
    (fun k => k ≤ (s .o).length) (fun k => (s .o).length - k) 0 ?_ (Nat.zero_le _) ?_
  · cbv
    (repeat' (first | exact True.intro | exact Same.refl _ | exact SameB.refl _ | exact ⟨rfl⟩ | exact Same.int rfl | exact Same.str rfl | exact Same.bool rfl | (refine Same.int ?_; simp only [List.length_append, List.length_cons, List.length_nil, zi]; omega) | (refine SameB.row' rfl fun i hi => ?_; first | rfl | exact absurd hi (Nat.not_lt_zero _)) | refine And.intro ?_ ?_ | refine SameB.cells ?_ | exact SameC.nil | refine SameC.cons ?_ ?_ | exact Same.nsl rfl | exact Same.tt rfl | exact Same.ff rfl))
  · intro k hk
    have hz := zi_toNat k
    have hel := escS_len ((s .o).take k)
    rw [List.length_take] at hel
    cbv
    ((try refine br_rev ?_); (first | refine br_dec (fun h1 => ?_) (fun h1 => ?_) | refine br_ndec (fun h1 => ?_) (fun h1 => ?_) | refine br_nbool (fun h1 => ?_) (fun h1 => ?_) | refine br_bool (fun h1 => ?_) (fun h1 => ?_)); all_goals (try dsimp only at h1); all_goals (try with_reducible replace h1 := zi_lt.1 h1); all_goals (try with_reducible replace h1 := not_zlt h1))
    · cbv
      refine safe ⟨zi_nonneg _, zi_lt.2 h1⟩ ?_
      rw [hz]
      have hlt := zi_lt.2 h1
      refine br_rev (br_dec (fun h2 => ?_) (fun h2 => ?_))
      rotate_left
      focus
        cbv
        refine safe ⟨zi_nonneg _, hlt⟩ ?_
        rw [hz]
        refine br_rev (br_dec (fun h3 => ?_) (fun h3 => ?_))
        rotate_left
        focus
          cbv
          refine safe ⟨zi_nonneg _, hlt⟩ ?_
          rw [hz]
          refine br_rev (br_dec (fun h4 => ?_) (fun h4 => ?_))
          rotate_left
          focus
            cbv
            refine safe ⟨zi_nonneg _, hlt⟩ ?_
            rw [hz]
            refine br_dec (fun h5 => ?_) (fun h5 => ?_)
            rotate_left
            focus
              have hp := plain_ok h2 h3 h4 h5
              cbv
              refine safe ⟨zi_nonneg _, hlt⟩ ?_
              rw [hz]
              refine app_one u8Ch 0 (escS ((s .o).take k)) ((s .o).getD k 0) rfl (fun i hi => rfl) rfl rfl (by omega) ?_
              cbv
              refine ⟨k + 1, h1, by omega, ?_⟩
              cbv
              rw [zi_succ (by omega), escS_succ _ _ h1, show escB ((s .o).getD k 0) = [(s .o).getD k 0] by rw [escB, hp]; rfl]
              (repeat' (first | exact True.intro | exact Same.refl _ | exact SameB.refl _ | exact ⟨rfl⟩ | exact Same.int rfl | exact Same.str rfl | exact Same.bool rfl | (refine Same.int ?_; simp only [List.length_append, List.length_cons, List.length_nil, zi]; omega) | (refine SameB.row' rfl fun i hi => ?_; first | rfl | exact absurd hi (Nat.not_lt_zero _)) | refine And.intro ?_ ?_ | refine SameB.cells ?_ | exact SameC.nil | refine SameC.cons ?_ ?_ | exact Same.nsl rfl | exact Same.tt rfl | exact Same.ff rfl))
      all_goals
        have hp : plainB ((s .o).getD k 0).toNat = false := by first | exact plain_61 h5 | exact plain_37 h4 | exact plain_gt h3 | exact plain_lt h2
        cbv
        refine safe ⟨zi_nonneg _, hlt⟩ ?_
        refine safe (by decide) ?_
        rw [hz]
        refine safe (hex_hi _).1 ?_
        refine safe ⟨zi_nonneg _, hlt⟩ ?_
        try rw [hz]
        refine safe (hex_lo _).1 ?_
        refine app_rows u8Ch 0 (escS ((s .o).take k)) [37, hexS.getD ((zi ((s .o).getD k 0).toNat).fdiv (2 ^ min (Int.toNat 4) IntKind.u8.bits)).toNat 0, hexS.getD (abits .and .u8 (zi ((s .o).getD k 0).toNat) 15).toNat 0] rfl (fun i hi => rfl) rfl (fun i hi => by
          have hi : i < 3 := hi
          match i, hi with
          | 0, _ | 1, _ | 2, _ => rfl) (by simp only [List.length_cons, List.length_nil]; omega) ?_
        cbv
        refine ⟨k + 1, h1, by omega, ?_⟩
        cbv
        rw [zi_succ (by omega), escS_succ _ _ h1, show escB ((s .o).getD k 0) = [37, hexB ((s .o).getD k 0 / 16), hexB ((s .o).getD k 0 % 16)] by rw [escB, hp]; rfl, (hex_hi ((s .o).getD k 0)).2, (hex_lo ((s .o).getD k 0)).2]
        (repeat' (first | exact True.intro | exact Same.refl _ | exact SameB.refl _ | exact ⟨rfl⟩ | exact Same.int rfl | exact Same.str rfl | exact Same.bool rfl | (refine Same.int ?_; simp only [List.length_append, List.length_cons, List.length_nil, zi]; omega) | (refine SameB.row' rfl fun i hi => ?_; first | rfl | exact absurd hi (Nat.not_lt_zero _)) | refine And.intro ?_ ?_ | refine SameB.cells ?_ | exact SameC.nil | refine SameC.cons ?_ ?_ | exact Same.nsl rfl | exact Same.tt rfl | exact Same.ff rfl))
    · obtain rfl : k = (s .o).length := by have h1 : (s .o).length ≤ k := h1; omega
      cbv
      refine safe (fun i _ => ⟨_, rfl⟩) ?_
      refine ⟨_, .ret (.refl _), hr _ ?_⟩
      have hall : (s .o).take (s .o).length = s .o := List.take_length
      show bytesN (escS ((s .o).take (s .o).length)).length _ = _
      rw [hall]
      exact bytes_u8 _ rfl fun i hi => rfl
/-! ### does a text have a byte? -/
theorem hasAny1_c (s : Th (List UInt8)) (c : UInt8) (hs : (s .o).length ≤ 1099511627776) {d : Nat} {K : ARes → BL → Prop} (hr : ∀ b : Th Bool, (b .o = true ↔ c ∈ s .o) → K (.ret (.bool b)) .nil) : CallAt PT r9_hasAny [.str s, .str fun _ => [c]] d .nil K := by
  refine CallAt.res ?_
  refine r9_hasAny.of rfl rfl ?_
  cbv
  refine loop_at (X := Nat) 1000 [0, 1] [] (fun _ k => .cons 5 (.int .i64 fun _ => zi k) .nil) (fun _ k => .nil)
    (fun k => k ≤ (s .o).length ∧ ∀ j, j < k → (s .o).getD j 0 ≠ c) (fun k => (s .o).length - k) 0 ?_ ⟨Nat.zero_le _, fun j hj => absurd hj (Nat.not_lt_zero _)⟩ ?_
  · cbv
    (repeat' (first | exact True.intro | exact Same.refl _ | exact SameB.refl _ | exact ⟨rfl⟩ | exact Same.int rfl | exact Same.str rfl | exact Same.bool rfl | (refine Same.int ?_; simp only [List.length_append, List.length_cons, List.length_nil, zi]; omega) | (refine SameB.row' rfl fun i hi => ?_; first | rfl | exact absurd hi (Nat.not_lt_zero _)) | refine And.intro ?_ ?_ | refine SameB.cells ?_ | exact SameC.nil | refine SameC.cons ?_ ?_ | exact Same.nsl rfl | exact Same.tt rfl | exact Same.ff rfl))
  · rintro k ⟨hk, hno⟩
    have hz := zi_toNat k
    cbv
    ((try refine br_rev ?_); (first | refine br_dec (fun h1 => ?_) (fun h1 => ?_) | refine br_ndec (fun h1 => ?_) (fun h1 => ?_) | refine br_nbool (fun h1 => ?_) (fun h1 => ?_) | refine br_bool (fun h1 => ?_) (fun h1 => ?_)); all_goals (try dsimp only at h1); all_goals (try with_reducible replace h1 := zi_lt.1 h1); all_goals (try with_reducible replace h1 := not_zlt h1))
    · cbv
      refine loop_at (X := Nat) 1000 [0, 1, 5] [] (fun _ i => .cons 6 (.int .i64 fun _ => zi i) .nil) (fun _ k => .nil)
        (fun i => i ≤ 1 ∧ (i = 1 → (s .o).getD k 0 ≠ c)) (fun i => 1 - i) 0 ?_ ⟨Nat.zero_le _, fun q => by cases q⟩ ?_
      · cbv
        (repeat' (first | exact True.intro | exact Same.refl _ | exact SameB.refl _ | exact ⟨rfl⟩ | exact Same.int rfl | exact Same.str rfl | exact Same.bool rfl | (refine Same.int ?_; simp only [List.length_append, List.length_cons, List.length_nil, zi]; omega) | (refine SameB.row' rfl fun i hi => ?_; first | rfl | exact absurd hi (Nat.not_lt_zero _)) | refine And.intro ?_ ?_ | refine SameB.cells ?_ | exact SameC.nil | refine SameC.cons ?_ ?_ | exact Same.nsl rfl | exact Same.tt rfl | exact Same.ff rfl))
      · rintro i ⟨hi, hic⟩
        cbv
        refine br_zlt (fun h2 => ?_) (fun h2 => ?_)
        · have h2 : i < 1 := h2
          obtain rfl : i = 0 := by omega
          cbv
          refine safe ⟨zi_nonneg _, zi_lt.2 h1⟩ ?_
          refine safe ⟨zi_nonneg _, (by show zi 0 < zi 1; decide)⟩ ?_
          refine br_dec (fun h3 => ?_) (fun h3 => ?_)
          · have h3 : zi ((s .o).getD (zi k).toNat 0).toNat = zi c.toNat := h3
            rw [hz] at h3
            have h3 : (s .o).getD k 0 = c := UInt8.toNat_inj.1 (zi_inj.1 h3)
            cbv
            refine ⟨_, .ret (.tt rfl), hr (fun _ => true) ⟨fun _ => ?_, fun _ => rfl⟩⟩
            rw [← h3, List.getD_eq_getElem?_getD, List.getElem?_eq_getElem h1]
            exact List.getElem_mem h1
          · have h3 : ¬ zi ((s .o).getD (zi k).toNat 0).toNat = zi c.toNat := h3
            rw [hz] at h3
            cbv
            refine ⟨1, ⟨Nat.le_refl _, fun _ e => h3 (by rw [e])⟩, by decide, ?_⟩
            cbv
            (repeat' (first | exact True.intro | exact Same.refl _ | exact SameB.refl _ | exact ⟨rfl⟩ | exact Same.int rfl | exact Same.str rfl | exact Same.bool rfl | (refine Same.int ?_; simp only [List.length_append, List.length_cons, List.length_nil, zi]; omega) | (refine SameB.row' rfl fun i hi => ?_; first | rfl | exact absurd hi (Nat.not_lt_zero _)) | refine And.intro ?_ ?_ | refine SameB.cells ?_ | exact SameC.nil | refine SameC.cons ?_ ?_ | exact Same.nsl rfl | exact Same.tt rfl | exact Same.ff rfl))
        · obtain rfl : i = 1 := by have h2 : 1 ≤ i := h2; omega
          cbv
          refine ⟨k + 1, ⟨h1, fun j hj => ?_⟩, by omega, ?_⟩
          · rcases Nat.lt_or_ge j k with q | q
            · exact hno j q
            · obtain rfl : j = k := by omega
              exact hic rfl
          cbv
          rw [zi_succ (by omega)]
          (repeat' (first | exact True.intro | exact Same.refl _ | exact SameB.refl _ | exact ⟨rfl⟩ | exact Same.int rfl | exact Same.str rfl | exact Same.bool rfl | (refine Same.int ?_; simp only [List.length_append, List.length_cons, List.length_nil, zi]; omega) | (refine SameB.row' rfl fun i hi => ?_; first | rfl | exact absurd hi (Nat.not_lt_zero _)) | refine And.intro ?_ ?_ | refine SameB.cells ?_ | exact SameC.nil | refine SameC.cons ?_ ?_ | exact Same.nsl rfl | exact Same.tt rfl | exact Same.ff rfl))
    · have h1 : (s .o).length ≤ k := h1
      cbv
      refine ⟨_, .ret (.ff rfl), hr (fun _ => false) ⟨fun q => (by cases q), fun q => ?_⟩⟩
      obtain ⟨j, hj, hjc⟩ := List.getElem_of_mem q
      exact (hno j (by omega) (by rw [List.getD_eq_getElem?_getD, List.getElem?_eq_getElem hj]; exact hjc)).elim
/-! ### names with values -/
def XOk (x : Xattr) : Prop := x.name ≠ [] ∧ (escS x.name).length ≤ 238 ∧ ¬ (0 : UInt8) ∈ x.name ∧ x.value.length ≤ 4096
def leS (a b : List UInt8) : Bool := strLt a b || decide (a = b)
structure XsTo (l : List Xattr) (k : Nat) : Prop where
  ok : ∀ j, j < k → XOk (l.getD j Xattr.z)
  up : ∀ j, j + 1 < k → leS (l.getD (j + 1) Xattr.z).name (l.getD j Xattr.z).name = false
structure XsOk (l : List Xattr) : Prop where
  to : XsTo l l.length
  len : l.length ≤ 32
theorem xsTo_succ {l : List Xattr} {k : Nat} (h : XsTo l k) (h1 : XOk (l.getD k Xattr.z)) (h2 : k = 0 ∨ leS (l.getD k Xattr.z).name (l.getD (k - 1) Xattr.z).name = false) : XsTo l (k + 1) := by
  refine ⟨fun j hj => ?_, fun j hj => ?_⟩
  · rcases Nat.lt_or_ge j k with q | q
    · exact h.ok j q
    · obtain rfl : j = k := by omega
      exact h1
  · rcases Nat.lt_or_ge (j + 1) k with q | q
    · exact h.up j q
    · obtain rfl : k = j + 1 := by omega
      rcases h2 with h2 | h2
      · omega
      · exact h2
def longX (l : List Xattr) : Prop := ∀ x ∈ l, x.name.length ≤ 1099511627776
theorem longX_at {l : List Xattr} (h : longX l) (k : Nat) : (l.getD k Xattr.z).name.length ≤ 1099511627776 := by
  rw [List.getD_eq_getElem?_getD]
  by_cases hk : k < l.length
  · rw [List.getElem?_eq_getElem hk]; exact h _ (List.getElem_mem hk)
  · rw [List.getElem?_eq_none (by omega)]; exact Nat.zero_le _
theorem xmay_c (x : Th Xattr) (hx : (x .o).name.length ≤ 1099511627776) {d : Nat} {K : ARes → BL → Prop} (hr : ∀ b : Th Bool, (b .o = true ↔ XOk (x .o)) → K (.ret (.bool b)) .nil) : CallAt PT xattr_may [Xattr.av x] d .nil K := by
  refine CallAt.res ?_
  have hf : ¬ XOk (x .o) → ∃ r', SameR (.ret .ff) r' ∧ K r' .nil := fun h => ⟨_, .ret (.ff rfl), hr (fun _ => false) ⟨fun q => (by cases q), fun q => (h q).elim⟩⟩
  refine xattr_may.of rfl rfl ?_
  cbv
  refine br_ndec (fun h1 => ?_) (fun h1 => ?_)
  rotate_left
  · cbv
    exact hf fun q => q.1 h1
  have h1 : ¬ (x .o).name = [] := h1
  cbv
  refine esc_c (fun _ => (x .o).name) hx fun t ht => ?_
  have ht : t .o = escS (x .o).name := ht
  cbv
  refine br_dec (fun h2 => ?_) (fun h2 => ?_)
  rotate_left
  · cbv
    exact hf fun q => h2 (by show zi (t .o).length ≤ 238; rw [ht]; have := q.2.1; unfold zi; omega)
  have h2 : (escS (x .o).name).length ≤ 238 := by have h2 : zi (t .o).length ≤ 238 := h2; rw [ht] at h2; unfold zi at h2; omega
  cbv
  refine contains1_c (fun _ => (x .o).name) 0 fun b hb => ?_
  cbv
  refine br_nbool (fun h3 => ?_) (fun h3 => ?_)
  rotate_left
  · cbv
    rw [hb] at h3
    exact hf fun q => q.2.2.1 (of_decide_eq_true h3)
  rw [hb] at h3
  have h3 := of_decide_eq_false h3
  cbv
  refine ⟨_, .ret (.refl _), hr _ ⟨fun q => ⟨h1, h2, h3, ?_⟩, fun q => decide_eq_true ?_⟩⟩
  · have q : zi (x .o).value.length ≤ 4096 := of_decide_eq_true q
    unfold zi at q
    omega
  · show zi (x .o).value.length ≤ 4096
    have := q.2.2.2
    unfold zi
    omega
theorem xsmay_c (l : Th (List Xattr)) (hl : short (l .o)) (hx : longX (l .o)) {d : Nat} {K : ARes → BL → Prop} (hr : ∀ b : Th Bool, (b .o = true ↔ XsOk (l .o)) → K (.ret (.bool b)) .nil) : CallAt PT xattr_May [xattrs l] d .nil K := by
  refine CallAt.res ?_
  have hf : ¬ XsOk (l .o) → ∃ r', SameR (.ret .ff) r' ∧ K r' .nil := fun h => ⟨_, .ret (.ff rfl), hr (fun _ => false) ⟨fun q => (by cases q), fun q => (h q).elim⟩⟩
  refine xattr_May.of rfl rfl ?_
  cbv
  refine loop_at (X := Nat) 1000 [0, 5, 6] [] (fun _ k => .cons 7 (.int .i64 fun _ => zi k) .nil) (fun _ k => .nil)
    (fun k => k ≤ (l .o).length ∧ XsTo (l .o) k) (fun k => (l .o).length - k) 0 ?_ ⟨Nat.zero_le _, ⟨fun j hj => absurd hj (Nat.not_lt_zero _), fun j hj => absurd hj (Nat.not_lt_zero _)⟩⟩ ?_
  · cbv
    (repeat' (first | exact True.intro | exact Same.refl _ | exact SameB.refl _ | exact ⟨rfl⟩ | exact Same.int rfl | exact Same.str rfl | exact Same.bool rfl | (refine Same.int ?_; simp only [List.length_append, List.length_cons, List.length_nil, zi]; omega) | (refine SameB.row' rfl fun i hi => ?_; first | rfl | exact absurd hi (Nat.not_lt_zero _)) | refine And.intro ?_ ?_ | refine SameB.cells ?_ | exact SameC.nil | refine SameC.cons ?_ ?_ | exact Same.nsl rfl | exact Same.tt rfl | exact Same.ff rfl))
  · rintro k ⟨hk, hto⟩
    have hz := zi_toNat k
    unfold short at hl
    cbv
    ((try refine br_rev ?_); (first | refine br_dec (fun h1 => ?_) (fun h1 => ?_) | refine br_ndec (fun h1 => ?_) (fun h1 => ?_) | refine br_nbool (fun h1 => ?_) (fun h1 => ?_) | refine br_bool (fun h1 => ?_) (fun h1 => ?_)); all_goals (try dsimp only at h1); all_goals (try with_reducible replace h1 := zi_lt.1 h1); all_goals (try with_reducible replace h1 := not_zlt h1))
    · have h1 : k < (l .o).length := h1
      cbv
      refine safe ⟨zi_nonneg _, zi_lt.2 h1⟩ ?_
      rw [hz]
      refine xmay_c (fun _ => (l .o).getD k Xattr.z) (longX_at hx k) fun b hb => ?_
      cbv
      refine br_rev (br_nbool (fun h2 => ?_) (fun h2 => ?_))
      · cbv
        exact hf fun q => by have := hb.2 (q.to.ok k h1); rw [this] at h2; cases h2
      have hok := hb.1 h2
      have succ := zi_succ (k := k) (by omega)
      cbv
      refine br_dec (fun h3 => ?_) (fun h3 => ?_)
      · have h3 : 0 < k := by have h3 : 0 < zi k := h3; unfold zi at h3; omega
        have hi1 : 0 ≤ IntKind.i64.wrap (zi k - 1) ∧ IntKind.i64.wrap (zi k - 1) < zi (l .o).length := by rw [IntKind.wrap_i64]; unfold zi; omega
        have hi2 : (IntKind.i64.wrap (zi k - 1)).toNat = k - 1 := by rw [IntKind.wrap_i64]; unfold zi; omega
        cbv
        refine safe hi1 ?_
        rw [hi2]
        refine br_bool (fun h4 => ?_) (fun h4 => ?_)
        · cbv
          exact hf fun q => by have := q.to.up (k - 1) (by omega); rw [show k - 1 + 1 = k by omega] at this; rw [leS] at this; rw [this] at h4; cases h4
        cbv
        refine ⟨k + 1, ⟨h1, xsTo_succ hto hok (.inr h4)⟩, by omega, ?_⟩
        cbv
        rw [succ]
        (repeat' (first | exact True.intro | exact Same.refl _ | exact SameB.refl _ | exact ⟨rfl⟩ | exact Same.int rfl | exact Same.str rfl | exact Same.bool rfl | (refine Same.int ?_; simp only [List.length_append, List.length_cons, List.length_nil, zi]; omega) | (refine SameB.row' rfl fun i hi => ?_; first | rfl | exact absurd hi (Nat.not_lt_zero _)) | refine And.intro ?_ ?_ | refine SameB.cells ?_ | exact SameC.nil | refine SameC.cons ?_ ?_ | exact Same.nsl rfl | exact Same.tt rfl | exact Same.ff rfl))
      · have h3 : ¬ 0 < k := by have h3 : ¬ 0 < zi k := h3; unfold zi at h3; omega
        cbv
        refine ⟨k + 1, ⟨h1, xsTo_succ hto hok (.inl (by omega))⟩, by omega, ?_⟩
        cbv
        rw [succ]
        (repeat' (first | exact True.intro | exact Same.refl _ | exact SameB.refl _ | exact ⟨rfl⟩ | exact Same.int rfl | exact Same.str rfl | exact Same.bool rfl | (refine Same.int ?_; simp only [List.length_append, List.length_cons, List.length_nil, zi]; omega) | (refine SameB.row' rfl fun i hi => ?_; first | rfl | exact absurd hi (Nat.not_lt_zero _)) | refine And.intro ?_ ?_ | refine SameB.cells ?_ | exact SameC.nil | refine SameC.cons ?_ ?_ | exact Same.nsl rfl | exact Same.tt rfl | exact Same.ff rfl))
    · obtain rfl : k = (l .o).length := by have h1 : (l .o).length ≤ k := h1; omega
      cbv
      refine ⟨_, .ret (.refl _), hr _ ⟨fun q => ⟨hto, ?_⟩, fun q => decide_eq_true ?_⟩⟩
      · have q : zi (l .o).length ≤ 32 := of_decide_eq_true q
        unfold zi at q
        omega
      · show zi (l .o).length ≤ 32
        have := q.len
        unfold zi
        omega
theorem xsmay9_c (l : Th (List Xattr)) (hl : short (l .o)) (hx : longX (l .o)) {d : Nat} {K : ARes → BL → Prop} (hr : ∀ b : Th Bool, (b .o = true ↔ XsOk (l .o)) → K (.ret (.bool b)) .nil) : CallAt PT r9_MayXattrs [xattrs l] d .nil K := by
  refine CallAt.res ?_
  have hf : ¬ XsOk (l .o) → ∃ r', SameR (.ret .ff) r' ∧ K r' .nil := fun h => ⟨_, .ret (.ff rfl), hr (fun _ => false) ⟨fun q => (by cases q), fun q => (h q).elim⟩⟩
  refine r9_MayXattrs.of rfl rfl ?_
  cbv
  refine loop_at (X := Nat) 1000 [0] [] (fun _ k => .cons 3 (.int .i64 fun _ => zi k) .nil) (fun _ k => .nil)
    (fun k => k ≤ (l .o).length ∧ XsTo (l .o) k) (fun k => (l .o).length - k) 0 ?_ ⟨Nat.zero_le _, ⟨fun j hj => absurd hj (Nat.not_lt_zero _), fun j hj => absurd hj (Nat.not_lt_zero _)⟩⟩ ?_
  · cbv
    (repeat' (first | exact True.intro | exact Same.refl _ | exact SameB.refl _ | exact ⟨rfl⟩ | exact Same.int rfl | exact Same.str rfl | exact Same.bool rfl | (refine Same.int ?_; simp only [List.length_append, List.length_cons, List.length_nil, zi]; omega) | (refine SameB.row' rfl fun i hi => ?_; first | rfl | exact absurd hi (Nat.not_lt_zero _)) | refine And.intro ?_ ?_ | refine SameB.cells ?_ | exact SameC.nil | refine SameC.cons ?_ ?_ | exact Same.nsl rfl | exact Same.tt rfl | exact Same.ff rfl))
  · rintro k ⟨hk, hto⟩
    have hz := zi_toNat k
    unfold short at hl
    cbv
    ((try refine br_rev ?_); (first | refine br_dec (fun h1 => ?_) (fun h1 => ?_) | refine br_ndec (fun h1 => ?_) (fun h1 => ?_) | refine br_nbool (fun h1 => ?_) (fun h1 => ?_) | refine br_bool (fun h1 => ?_) (fun h1 => ?_)); all_goals (try dsimp only at h1); all_goals (try with_reducible replace h1 := zi_lt.1 h1); all_goals (try with_reducible replace h1 := not_zlt h1))
    · have h1 : k < (l .o).length := h1
      have hlt := zi_lt.2 h1
      have hxk := longX_at hx k
      cbv
      refine safe ⟨zi_nonneg _, hlt⟩ ?_
      rw [hz]
      refine br_rev (br_dec (fun h2 => ?_) (fun h2 => ?_))
      · cbv
        exact hf fun q => (q.to.ok k h1).1 (List.eq_nil_of_length_eq_zero (zi_inj.1 h2))
      have h2 : ((l .o).getD k Xattr.z).name ≠ [] := fun e => h2 (by show zi ((l .o).getD k Xattr.z).name.length = 0; rw [e]; rfl)
      cbv
      refine br_rev (br_dec (fun h3 => ?_) (fun h3 => ?_))
      · cbv
        exact hf fun q => by
          have h3 : 238 < zi ((l .o).getD k Xattr.z).name.length := h3
          have h4 := (q.to.ok k h1).2.1
          have h5 := escS_ge ((l .o).getD k Xattr.z).name
          unfold zi at h3
          omega
      cbv
      refine hasAny1_c (fun _ => ((l .o).getD k Xattr.z).name) 0 hxk fun b hb => ?_
      have hb : b .o = true ↔ 0 ∈ ((l .o).getD k Xattr.z).name := hb
      cbv
      refine br_rev (br_bool (fun h4 => ?_) (fun h4 => ?_))
      · cbv
        exact hf fun q => (q.to.ok k h1).2.2.1 (hb.1 h4)
      have h4 : ¬ 0 ∈ ((l .o).getD k Xattr.z).name := fun e => by rw [hb.2 e] at h4; cases h4
      cbv
      refine r1esc_c (fun _ => ((l .o).getD k Xattr.z).name) hxk fun t ht => ?_
      have ht : t .o = escS ((l .o).getD k Xattr.z).name := ht
      cbv
      refine br_rev (br_dec (fun h5 => ?_) (fun h5 => ?_))
      · cbv
        exact hf fun q => by have h5 : 238 < zi (t .o).length := h5; have := (q.to.ok k h1).2.1; rw [ht] at h5; unfold zi at h5; omega
      have h5 : (escS ((l .o).getD k Xattr.z).name).length ≤ 238 := by have h5 : ¬ 238 < zi (t .o).length := h5; rw [ht] at h5; unfold zi at h5; omega
      cbv
      refine safe ⟨zi_nonneg _, hlt⟩ ?_
      rw [hz]
      refine br_rev (br_dec (fun h6 => ?_) (fun h6 => ?_))
      · cbv
        exact hf fun q => by have h6 : 4096 < zi ((l .o).getD k Xattr.z).value.length := h6; have := (q.to.ok k h1).2.2.2; unfold zi at h6; omega
      have h6 : ((l .o).getD k Xattr.z).value.length ≤ 4096 := by have h6 : ¬ 4096 < zi ((l .o).getD k Xattr.z).value.length := h6; unfold zi at h6; omega
      have hok : XOk ((l .o).getD k Xattr.z) := ⟨h2, h5, h4, h6⟩
      have succ := zi_succ (k := k) (by omega)
      cbv
      refine br_dec (fun h7 => ?_) (fun h7 => ?_)
      · have h7 : 0 < k := by have h7 : 0 < zi k := h7; unfold zi at h7; omega
        have hi1 : 0 ≤ IntKind.i64.wrap (zi k - 1) ∧ IntKind.i64.wrap (zi k - 1) < zi (l .o).length := by rw [IntKind.wrap_i64]; unfold zi; omega
        have hi2 : (IntKind.i64.wrap (zi k - 1)).toNat = k - 1 := by rw [IntKind.wrap_i64]; unfold zi; omega
        cbv
        refine safe hi1 ?_
        rw [hi2]
        refine br_bool (fun h8 => ?_) (fun h8 => ?_)
        · cbv
          exact hf fun q => by have := q.to.up (k - 1) (by omega); rw [show k - 1 + 1 = k by omega] at this; rw [leS] at this; rw [this] at h8; cases h8
        cbv
        refine ⟨k + 1, ⟨h1, xsTo_succ hto hok (.inr h8)⟩, by omega, ?_⟩
        cbv
        rw [succ]
        (repeat' (first | exact True.intro | exact Same.refl _ | exact SameB.refl _ | exact ⟨rfl⟩ | exact Same.int rfl | exact Same.str rfl | exact Same.bool rfl | (refine Same.int ?_; simp only [List.length_append, List.length_cons, List.length_nil, zi]; omega) | (refine SameB.row' rfl fun i hi => ?_; first | rfl | exact absurd hi (Nat.not_lt_zero _)) | refine And.intro ?_ ?_ | refine SameB.cells ?_ | exact SameC.nil | refine SameC.cons ?_ ?_ | exact Same.nsl rfl | exact Same.tt rfl | exact Same.ff rfl))
      · have h7 : ¬ 0 < k := by have h7 : ¬ 0 < zi k := h7; unfold zi at h7; omega
        cbv
        refine ⟨k + 1, ⟨h1, xsTo_succ hto hok (.inl (by omega))⟩, by omega, ?_⟩
        cbv
        rw [succ]
        (repeat' (first | exact True.intro | exact Same.refl _ | exact SameB.refl _ | exact ⟨rfl⟩ | exact Same.int rfl | exact Same.str rfl | exact Same.bool rfl | (refine Same.int ?_; simp only [List.length_append, List.length_cons, List.length_nil, zi]; omega) | (refine SameB.row' rfl fun i hi => ?_; first | rfl | exact absurd hi (Nat.not_lt_zero _)) | refine And.intro ?_ ?_ | refine SameB.cells ?_ | exact SameC.nil | refine SameC.cons ?_ ?_ | exact Same.nsl rfl | exact Same.tt rfl | exact Same.ff rfl))
    · obtain rfl : k = (l .o).length := by have h1 : (l .o).length ≤ k := h1; omega
      cbv
      refine ⟨_, .ret (.refl _), hr _ ⟨fun q => ⟨hto, ?_⟩, fun q => decide_eq_true ?_⟩⟩
      · have q : zi (l .o).length ≤ 32 := of_decide_eq_true q
        unfold zi at q
        omega
      · show zi (l .o).length ≤ 32
        have := q.len
        unfold zi
        omega
end Go.Proofs.Ytgjlkcdnlndlnaa
/- What the laws make by numbers: names, paths. -/
namespace Go.Proofs.Ytgjlkcdnlndlnaa
open Go Go.Proofs.Ytgjlkcdnlndlnaa.Sx F
set_option linter.unusedVariables false
set_option linter.unusedSimpArgs false

/-- A name that the laws make. -/
structure NameOk (s : List UInt8) : Prop where
  len : s.length ≤ 80
  ne : s ≠ []
  no0 : (0 : UInt8) ∉ s
  no46 : (46 : UInt8) ∉ s
  no47 : (47 : UInt8) ∉ s
theorem NameOk.snoc {s : List UInt8} {x : UInt8} (h : NameOk s) (hl : s.length < 80) (h0 : x ≠ 0) (h1 : x ≠ 46) (h2 : x ≠ 47) : NameOk (s ++ [x]) := by
  refine ⟨by rw [List.length_append]; simp; omega, by simp, ?_, ?_, ?_⟩ <;> simp only [List.mem_append, List.mem_singleton, not_or]
  · exact ⟨h.no0, fun q => h0 q.symm⟩
  · exact ⟨h.no46, fun q => h1 q.symm⟩
  · exact ⟨h.no47, fun q => h2 q.symm⟩
theorem name_x (n : Th Int) (hn : 0 ≤ n .o ∧ n .o < 256) {d : Nat} {K : ARes → BL → Prop} (hr : ∀ s : Th (List UInt8), NameOk (s .o) → K (.ret (.str s)) .nil) : CallAt PT l15_name [.int .u8 n] d .nil K := by
  refine l15_name.of rfl rfl ?_
  cbv
  refine safe (by decide) ?_
  have h8 : 0 ≤ (n .o).tmod 8 ∧ (n .o).tmod 8 < 8 := ⟨Int.tmod_nonneg _ hn.1, Int.tmod_lt_of_pos _ (by decide)⟩
  refine safe h8 ?_
  refine safe (by show ((n .o).tmod 8).toNat < 8; omega) ?_
  have hl8 : ∀ j : Nat, (([fun _ : O1 => [97], fun _ => [98], fun _ => [100, 105, 114], fun _ => [120, 32, 121], fun _ => [255], fun _ => [108, 111, 110, 103], fun _ => [195, 164], fun _ => [99]] : List (Th (List UInt8))).getD j (fun _ => [97]) .o).length ≤ 4 := by
    intro j
    match j with
    | 0 | 1 | 2 | 3 | 4 | 5 | 6 | 7 => decide
    | j + 8 => exact (by decide : (1 : Nat) ≤ 4)
  have hok8 : ∀ j : Nat, NameOk (([fun _ : O1 => [97], fun _ => [98], fun _ => [100, 105, 114], fun _ => [120, 32, 121], fun _ => [255], fun _ => [108, 111, 110, 103], fun _ => [195, 164], fun _ => [99]] : List (Th (List UInt8))).getD j (fun _ => [97]) .o) := by
    intro j
    match j with
    | 0 | 1 | 2 | 3 | 4 | 5 | 6 | 7 => exact ⟨by decide, by decide, by decide, by decide, by decide⟩
    | j + 8 => exact ⟨by show (1 : Nat) ≤ 80; decide, by show ([97] : List UInt8) ≠ []; decide, by show (0 : UInt8) ∉ [97]; decide, by show (46 : UInt8) ∉ [97]; decide, by show (47 : UInt8) ∉ [97]; decide⟩
  have hl := hl8 ((n .o).tmod 8).toNat
  have hok := hok8 ((n .o).tmod 8).toNat
  ((try refine br_rev ?_); (first | refine br_dec (fun h1 => ?_) (fun h1 => ?_) | refine br_ndec (fun h1 => ?_) (fun h1 => ?_) | refine br_nbool (fun h1 => ?_) (fun h1 => ?_) | refine br_bool (fun h1 => ?_) (fun h1 => ?_)); all_goals (try dsimp only at h1); all_goals (try with_reducible replace h1 := zi_lt.1 h1); all_goals (try with_reducible replace h1 := not_zlt h1))
  · cbv
    have hw : IntKind.i64.wrap (IntKind.i64.wrap (n .o) - 190) = n .o - 190 := by rw [IntKind.wrap_i64, IntKind.wrap_i64]; omega
    refine loop_at (X := Nat × List UInt8) 1000 [0] [] (fun _ x => .cons 4 (.str fun _ => x.2) (.cons 5 (.int .i64 fun _ => zi x.1) .nil)) (fun _ _ => .nil) (fun x => x.1 ≤ 66 ∧ x.2.length ≤ 4 + x.1 ∧ NameOk x.2) (fun x => 70 - x.1) (0, _) ?_ ⟨Nat.zero_le _, hl, hok⟩ ?_
    · cbv
      (repeat' (first | exact True.intro | exact Same.refl _ | exact SameB.refl _ | exact ⟨rfl⟩ | exact Same.int rfl | exact Same.str rfl | exact Same.bool rfl | (refine Same.int ?_; simp only [List.length_append, List.length_cons, List.length_nil, zi]; omega) | (refine SameB.row' rfl fun i hi => ?_; first | rfl | exact absurd hi (Nat.not_lt_zero _)) | refine And.intro ?_ ?_ | refine SameB.cells ?_ | exact SameC.nil | refine SameC.cons ?_ ?_ | exact Same.nsl rfl | exact Same.tt rfl | exact Same.ff rfl))
    · rintro ⟨i, s⟩ ⟨hi, hs, hso⟩
      dsimp only at hi hs hso
      cbv
      ((try refine br_rev ?_); (first | refine br_dec (fun h2 => ?_) (fun h2 => ?_) | refine br_ndec (fun h2 => ?_) (fun h2 => ?_) | refine br_nbool (fun h2 => ?_) (fun h2 => ?_) | refine br_bool (fun h2 => ?_) (fun h2 => ?_)); all_goals (try dsimp only at h2); all_goals (try with_reducible replace h2 := zi_lt.1 h2); all_goals (try with_reducible replace h2 := not_zlt h2))
      · have h2 : zi i < n .o - 190 := by rw [← hw]; exact h2
        have h2' : i < 66 := by unfold zi at h2; omega
        (cbv; repeat (refine safe (by first | decide | (simp only [zi] at *; omega) | assumption | (dsimp only; omega) | (dsimp only at *; simp only [List.length_append, List.length_cons, List.length_nil, zi] at *; omega)) ?_; cbv))
        refine ⟨(i + 1, s ++ [122]), ⟨h2', ?_, hso.snoc (by omega) (by decide) (by decide) (by decide)⟩, ?_, ?_⟩
        · show (s ++ [122]).length ≤ 4 + (i + 1)
          simp only [List.length_append, List.length_cons, List.length_nil]; omega
        · show 70 - (i + 1) < 70 - i
          omega
        cbv
        rw [zi_succ (by omega)]
        (repeat' (first | exact True.intro | exact Same.refl _ | exact SameB.refl _ | exact ⟨rfl⟩ | exact Same.int rfl | exact Same.str rfl | exact Same.bool rfl | (refine Same.int ?_; simp only [List.length_append, List.length_cons, List.length_nil, zi]; omega) | (refine SameB.row' rfl fun i hi => ?_; first | rfl | exact absurd hi (Nat.not_lt_zero _)) | refine And.intro ?_ ?_ | refine SameB.cells ?_ | exact SameC.nil | refine SameC.cons ?_ ?_ | exact Same.nsl rfl | exact Same.tt rfl | exact Same.ff rfl))
      · cbv
        exact hr _ hso
  · cbv
    exact hr _ hok
theorem name_c (n : Th Int) (hn : 0 ≤ n .o ∧ n .o < 256) {d : Nat} {K : ARes → BL → Prop} (hr : ∀ s : Th (List UInt8), (s .o).length ≤ 80 → K (.ret (.str s)) .nil) : CallAt PT l15_name [.int .u8 n] d .nil K :=
  name_x n hn fun s hs => hr s hs.len
/-- A path that the laws make: by its names. -/
inductive PathN : Nat → List UInt8 → Prop
  | one : PathN 0 [112]
  | more {k : Nat} {s t : List UInt8} (h : PathN k s) (ht : NameOk t) : PathN (k + 1) (s ++ [47] ++ t)

theorem path_x (ns : Th (List Int)) (hns : isBytes (ns .o)) (hs : short (ns .o)) {d : Nat} {K : ARes → BL → Prop} (hr : ∀ s : Th (List UInt8), (s .o).length ≤ 700 → (∃ k, k ≤ 8 ∧ PathN k (s .o)) → K (.ret (.str s)) .nil) : CallAt PT l15_Path [byteI ns] d .nil K := by
  refine l15_Path.of rfl rfl ?_
  cbv
  refine loop_at (X := Nat × List UInt8) 1000 [0] [] (fun _ x => .cons 3 (.str fun _ => x.2) (.cons 4 (.int .i64 fun _ => zi x.1) .nil)) (fun _ _ => .nil) (fun x => x.1 ≤ 8 ∧ x.2.length ≤ 1 + 81 * x.1 ∧ PathN x.1 x.2) (fun x => 8 - x.1) (0, [112]) ?_ ⟨Nat.zero_le _, by decide, .one⟩ ?_
  · cbv
    (repeat' (first | exact True.intro | exact Same.refl _ | exact SameB.refl _ | exact ⟨rfl⟩ | exact Same.int rfl | exact Same.str rfl | exact Same.bool rfl | (refine Same.int ?_; simp only [List.length_append, List.length_cons, List.length_nil, zi]; omega) | (refine SameB.row' rfl fun i hi => ?_; first | rfl | exact absurd hi (Nat.not_lt_zero _)) | refine And.intro ?_ ?_ | refine SameB.cells ?_ | exact SameC.nil | refine SameC.cons ?_ ?_ | exact Same.nsl rfl | exact Same.tt rfl | exact Same.ff rfl))
  · rintro ⟨i, s⟩ ⟨hi, hsl, hpn⟩
    dsimp only at hi hsl hpn
    cbv
    ((try refine br_rev ?_); (first | refine br_dec (fun h1 => ?_) (fun h1 => ?_) | refine br_ndec (fun h1 => ?_) (fun h1 => ?_) | refine br_nbool (fun h1 => ?_) (fun h1 => ?_) | refine br_bool (fun h1 => ?_) (fun h1 => ?_)); all_goals (try dsimp only at h1); all_goals (try with_reducible replace h1 := zi_lt.1 h1); all_goals (try with_reducible replace h1 := not_zlt h1))
    · cbv
      ((try refine br_rev ?_); (first | refine br_dec (fun h2 => ?_) (fun h2 => ?_) | refine br_ndec (fun h2 => ?_) (fun h2 => ?_) | refine br_nbool (fun h2 => ?_) (fun h2 => ?_) | refine br_bool (fun h2 => ?_) (fun h2 => ?_)); all_goals (try dsimp only at h2); all_goals (try with_reducible replace h2 := zi_lt.1 h2); all_goals (try with_reducible replace h2 := not_zlt h2))
      · have h2' : i < 8 := h2
        (cbv; repeat (refine safe (by first | decide | (simp only [zi] at *; omega) | assumption | (dsimp only; omega) | (dsimp only at *; simp only [List.length_append, List.length_cons, List.length_nil, zi] at *; omega)) ?_; cbv))
        refine name_x (fun _ => (ns .o).getD (zi i).toNat 0) (byte_at hns) fun t hto => ?_
        have ht := hto.len
        cbv
        refine safe (by dsimp only; simp only [List.length_append, List.length_cons, List.length_nil]; omega) ?_
        refine ⟨(i + 1, s ++ [47] ++ t .o), ⟨h2', ?_, hpn.more hto⟩, ?_, ?_⟩
        · show (s ++ [47] ++ t .o).length ≤ 1 + 81 * (i + 1)
          simp only [List.length_append, List.length_cons, List.length_nil]; omega
        · show 8 - (i + 1) < 8 - i
          omega
        cbv
        rw [zi_succ (by omega)]
        (repeat' (first | exact True.intro | exact Same.refl _ | exact SameB.refl _ | exact ⟨rfl⟩ | exact Same.int rfl | exact Same.str rfl | exact Same.bool rfl | (refine Same.int ?_; simp only [List.length_append, List.length_cons, List.length_nil, zi]; omega) | (refine SameB.row' rfl fun i hi => ?_; first | rfl | exact absurd hi (Nat.not_lt_zero _)) | refine And.intro ?_ ?_ | refine SameB.cells ?_ | exact SameC.nil | refine SameC.cons ?_ ?_ | exact Same.nsl rfl | exact Same.tt rfl | exact Same.ff rfl))
      · cbv
        exact hr _ (by dsimp only; omega) ⟨i, hi, hpn⟩
    · cbv
      exact hr _ (by dsimp only; omega) ⟨i, hi, hpn⟩
theorem path_c (ns : Th (List Int)) (hns : isBytes (ns .o)) (hs : short (ns .o)) {d : Nat} {K : ARes → BL → Prop} (hr : ∀ s : Th (List UInt8), (s .o).length ≤ 700 → K (.ret (.str s)) .nil) : CallAt PT l15_Path [byteI ns] d .nil K :=
  path_x ns hns hs fun s h1 _ => hr s h1
end Go.Proofs.Ytgjlkcdnlndlnaa
/- What the laws make by numbers: entries. -/
namespace Go.Proofs.Ytgjlkcdnlndlnaa
open Go Go.Proofs.Ytgjlkcdnlndlnaa.Sx F
set_option linter.unusedVariables false
set_option linter.unusedSimpArgs false

theorem path_from (l : Th (List Int)) (n : Th Nat) (hn : n .o ≤ (l .o).length) (hns : isBytes (l .o)) (hs : short (l .o)) {d : Nat} {K : ARes → BL → Prop} (hr : ∀ s : Th (List UInt8), (s .o).length ≤ 700 → K (.ret (.str s)) .nil) :
    CallAt PT l15_Path [.sl 1 n fun i => .cons (.int .u8 fun _ => (l .o).getD ((0 : Int).toNat + i .o) 0) .nil] d .nil K := by
  refine CallAt.args (.cons (y := byteI fun _ => (l .o).take (n .o)) (.sl ?_ fun i hi => ?_) .nil) (path_c _ (fun x hx => hns x (List.take_subset _ _ hx)) (by unfold short at *; rw [List.length_take]; omega) hr)
  · show n .o = ((l .o).take (n .o)).length
    rw [List.length_take]; omega
  · show (AV.cons (.int .u8 fun _ => (l .o).getD (0 + i) 0) .nil) = AV.cons (.int .u8 fun _ => ((l .o).take (n .o)).getD i 0) .nil
    rw [getD_take _ _ _ _ hi, Nat.zero_add]


/-- A Meta that says nothing. -/
def Meta.z : Meta := ⟨0, 0, 0, 0, 0, [], [], [], ⟨0, 0, 0, false, 0⟩, 0⟩
/-- What l15.Make makes. -/
structure MadeE (k : Int) (p : List UInt8) (ns : List Int) (e : Entry) : Prop where
  kind : e.kind = k
  path : e.path = p
  hard : k = 2 → e.mt = Meta.z
  mt : k ≠ 2 → MadeM ns e.mt
  km : k ≠ 2 → MadeK k e.mt

/-- An Entry told by its parts. -/
theorem entry_ret {K : ARes → BL → Prop} {path data target : Th (List UInt8)} {kind mode uid gid sec nano ver perm inh root flags major minor : Th Int} {eff : Th Bool} {A D X E : AV} (acl dflt : Th (List Ace)) (xs : Th (List Xattr))
    (hA : Same A (aces acl)) (hD : Same D (aces dflt)) (hX : Same X (xattrs xs)) (hE : Same E (.bool eff))
    (h : K (.ret (Entry.av fun _ => ⟨path .o, kind .o, ⟨mode .o, uid .o, gid .o, sec .o, nano .o, acl .o, dflt .o, xs .o, ⟨ver .o, perm .o, inh .o, eff .o, root .o⟩, flags .o⟩, data .o, target .o, major .o, minor .o⟩)) .nil) :
    ∃ r', SameR (.ret (.agg (.cons (.str path) (.cons (.int .i64 kind) (.cons (.int .i64 mode) (.cons (.int .i64 uid) (.cons (.int .i64 gid) (.cons (.int .i64 sec) (.cons (.int .i64 nano) (.cons A (.cons D (.cons X
      (.cons (.int .i64 ver) (.cons (.int .u64 perm) (.cons (.int .u64 inh) (.cons E (.cons (.int .i64 root) (.cons (.int .i64 flags) (.cons (.str data) (.cons (.str target) (.cons (.int .i64 major) (.cons (.int .i64 minor) .nil)))))))))))))))))))))) r' ∧ K r' .nil :=
  ⟨_, .ret (y := Entry.av fun _ => ⟨path .o, kind .o, ⟨mode .o, uid .o, gid .o, sec .o, nano .o, acl .o, dflt .o, xs .o, ⟨ver .o, perm .o, inh .o, eff .o, root .o⟩, flags .o⟩, data .o, target .o, major .o, minor .o⟩)
    (.agg (.cons (.str rfl) (.cons (.int rfl) (.cons (.int rfl) (.cons (.int rfl) (.cons (.int rfl) (.cons (.int rfl) (.cons (.int rfl) (.cons hA (.cons hD (.cons hX (.cons (.int rfl) (.cons (.int rfl) (.cons (.int rfl) (.cons hE (.cons (.int rfl) (.cons (.int rfl) (.cons (.str rfl) (.cons (.str rfl) (.cons (.int rfl) (.cons (.int rfl) .nil))))))))))))))))))))), h⟩

theorem make15_c (kind : Th Int) (path : Th (List UInt8)) (ns : Th (List Int)) (hns : isBytes (ns .o)) (hs : short (ns .o)) {d : Nat} {K : ARes → BL → Prop} (hr : ∀ e : Th Entry, MadeE (kind .o) (path .o) (ns .o) (e .o) → K (.ret (Entry.av e)) .nil) :
    CallAt PT l15_Make [.int .i64 kind, .str path, byteI ns] d .nil K := by
  refine CallAt.res ?_
  refine l15_Make.of rfl rfl ?_
  cbv
  have b0 := byte_at (k := 0) hns
  have w0 : IntKind.i64.wrap ((ns .o).getD 0 0) = (ns .o).getD 0 0 := wrap_byte b0
  have w3 : IntKind.i64.wrap (IntKind.i64.wrap ((ns .o).getD 0 0) * 3) = (ns .o).getD 0 0 * 3 := by rw [w0, IntKind.wrap_i64]; omega
  have hm4 : ∀ c : Int, 0 ≤ c → (True → (0 : Int) ≤ 0 ∧ 0 ≤ (if c < zi (ns .o).length then c else zi (ns .o).length) ∧ (if c < zi (ns .o).length then c else zi (ns .o).length) ≤ zi (ns .o).length) := by
    intro c hc _
    have := zi_nonneg (ns .o).length
    split <;> omega
  have hn4 : ∀ c : Int, 0 ≤ c → ((if c < zi (ns .o).length then c else zi (ns .o).length) - 0).toNat ≤ (ns .o).length := by
    intro c hc
    unfold zi
    split <;> omega
  ((try refine br_rev ?_); (first | refine br_dec (fun h1 => ?_) (fun h1 => ?_) | refine br_ndec (fun h1 => ?_) (fun h1 => ?_) | refine br_nbool (fun h1 => ?_) (fun h1 => ?_) | refine br_bool (fun h1 => ?_) (fun h1 => ?_)); all_goals (try dsimp only at h1); all_goals (try with_reducible replace h1 := zi_lt.1 h1); all_goals (try with_reducible replace h1 := not_zlt h1))
  all_goals cbv
  focus refine safe ⟨by decide, h1⟩ ?_
  all_goals ((try refine br_rev ?_); (first | refine br_dec (fun h2 => ?_) (fun h2 => ?_) | refine br_ndec (fun h2 => ?_) (fun h2 => ?_) | refine br_nbool (fun h2 => ?_) (fun h2 => ?_) | refine br_bool (fun h2 => ?_) (fun h2 => ?_)); all_goals (try dsimp only at h2); all_goals (try with_reducible replace h2 := zi_lt.1 h2); all_goals (try with_reducible replace h2 := not_zlt h2))
  all_goals cbv
  all_goals try (
    refine ⟨hm4 4 (by decide), ?_⟩
    refine path_from ns _ (hn4 4 (by decide)) hns hs fun s hsl => ?_
    cbv
    apply entry_ret (eff := fun _ => false) (fun _ => []) (fun _ => []) (fun _ => []) (.nsl rfl) (.nsl rfl) (.nsl rfl) (.ff rfl)
    exact hr _ ⟨rfl, rfl, fun _ => rfl, fun q => absurd h2 q, fun q => absurd h2 q⟩)
  all_goals
    refine l14k_c ns kind hns hs fun m hm hmk => ?_
    cbv
    ((try refine br_rev ?_); (first | refine br_dec (fun h3 => ?_) (fun h3 => ?_) | refine br_ndec (fun h3 => ?_) (fun h3 => ?_) | refine br_nbool (fun h3 => ?_) (fun h3 => ?_) | refine br_bool (fun h3 => ?_) (fun h3 => ?_)); all_goals (try dsimp only at h3); all_goals (try with_reducible replace h3 := zi_lt.1 h3); all_goals (try with_reducible replace h3 := not_zlt h3))
  all_goals cbv
  -- a file
  all_goals try (
    refine ⟨fun _ => ?_, ?_⟩
    · first
        | exact ⟨by decide, by decide, by decide, by decide⟩
        | (show 0 ≤ IntKind.i64.wrap (IntKind.i64.wrap ((ns .o).getD 0 0) * 3) ∧ IntKind.i64.wrap (IntKind.i64.wrap ((ns .o).getD 0 0) * 3) ≤ IntKind.i64.wrap (IntKind.i64.wrap ((ns .o).getD 0 0) * 3) ∧ (1 : Int) * IntKind.i64.wrap (IntKind.i64.wrap ((ns .o).getD 0 0) * 3) ≤ 281474976710656 ∧ IntKind.i64.wrap (IntKind.i64.wrap ((ns .o).getD 0 0) * 3) ≤ 9223372036854775807
           rw [w3]; omega)
    refine ⟨fun _ i hi => ⟨_, rfl⟩, ?_⟩
    refine ⟨fun _ => ?_, ?_⟩
    · rw [bytesN_len]
      first
        | (show 0 + 3 ≤ 9223372036854775807; decide)
        | (show (IntKind.i64.wrap (IntKind.i64.wrap ((ns .o).getD 0 0) * 3)).toNat + 3 ≤ 9223372036854775807
           rw [w3]; omega)
    apply entry_ret (fun _ => (m .o).acl) (fun _ => (m .o).dflt) (fun _ => (m .o).xs) (.refl _) (.refl _) (.refl _) (.refl _)
    exact hr _ ⟨rfl, rfl, fun q => absurd q h2, fun _ => hm, fun _ => hmk⟩)
  all_goals ((try refine br_rev ?_); (first | refine br_dec (fun h4 => ?_) (fun h4 => ?_) | refine br_ndec (fun h4 => ?_) (fun h4 => ?_) | refine br_nbool (fun h4 => ?_) (fun h4 => ?_) | refine br_bool (fun h4 => ?_) (fun h4 => ?_)); all_goals (try dsimp only at h4); all_goals (try with_reducible replace h4 := zi_lt.1 h4); all_goals (try with_reducible replace h4 := not_zlt h4))
  all_goals cbv
  all_goals try (
    refine ⟨hm4 6 (by decide), ?_⟩
    refine path_from ns _ (hn4 6 (by decide)) hns hs fun s hsl => ?_
    cbv
    refine safe (by dsimp only; simp only [List.length_cons, List.length_nil]; omega) ?_
    apply entry_ret (fun _ => (m .o).acl) (fun _ => (m .o).dflt) (fun _ => (m .o).xs) (.refl _) (.refl _) (.refl _) (.refl _)
    exact hr _ ⟨rfl, rfl, fun q => absurd q h2, fun _ => hm, fun _ => hmk⟩)
  all_goals ((try refine br_rev ?_); (first | refine br_dec (fun h5 => ?_) (fun h5 => ?_) | refine br_ndec (fun h5 => ?_) (fun h5 => ?_) | refine br_nbool (fun h5 => ?_) (fun h5 => ?_) | refine br_bool (fun h5 => ?_) (fun h5 => ?_)); all_goals (try dsimp only at h5); all_goals (try with_reducible replace h5 := zi_lt.1 h5); all_goals (try with_reducible replace h5 := not_zlt h5))
  all_goals cbv
  all_goals try ((try refine br_rev ?_); (first | refine br_dec (fun h6 => ?_) (fun h6 => ?_) | refine br_ndec (fun h6 => ?_) (fun h6 => ?_) | refine br_nbool (fun h6 => ?_) (fun h6 => ?_) | refine br_bool (fun h6 => ?_) (fun h6 => ?_)); all_goals (try dsimp only at h6); all_goals (try with_reducible replace h6 := zi_lt.1 h6); all_goals (try with_reducible replace h6 := not_zlt h6))
  all_goals cbv
  all_goals (
    apply entry_ret (fun _ => (m .o).acl) (fun _ => (m .o).dflt) (fun _ => (m .o).xs) (.refl _) (.refl _) (.refl _) (.refl _)
    exact hr _ ⟨rfl, rfl, fun q => absurd q h2, fun _ => hm, fun _ => hmk⟩)
end Go.Proofs.Ytgjlkcdnlndlnaa
/- The law PlanLess, walked: what is laid before all is there gives nobody more. -/
namespace Go.Proofs.Ytgjlkcdnlndlnaa
open Go Go.Proofs.Ytgjlkcdnlndlnaa.Sx F
set_option linter.unusedVariables false
set_option linter.unusedSimpArgs false

def bnot (a b : Int) : Int := abits .andNot .i64 a b
theorem pmode_ff (m : Th Meta) {d : Nat} {K : ARes → BL → Prop} (hr : ∀ n : Th Int, n .o = band (m .o).mode 448 → K (.ret (.tup (.cons (.int .i64 n) (.cons .ff .nil)))) .nil) : CallAt PT plan_Mode [Meta.av m, .ff] d .nil K := by
  refine plan_Mode.of rfl rfl ?_
  cbv
  exact hr _ rfl
theorem pmode_tt (m : Th Meta) (hm : short (m .o).acl) {d : Nat} {K : ARes → BL → Prop} (hr : ∀ n : Th Int, n .o = bor (bnot (m .o).mode 511) (LessS (m .o)) → K (.ret (.tup (.cons (.int .i64 n) (.cons .tt .nil)))) .nil) : CallAt PT plan_Mode [Meta.av m, .tt] d .nil K := by
  refine plan_Mode.of rfl rfl ?_
  cbv
  refine Less_c m hm fun n hn => ?_
  cbv
  exact hr _ (by rw [← hn]; rfl)
theorem stage_c (k : Th Int) {d : Nat} {K : ARes → BL → Prop} (hr : ∀ n : Th Int, n .o = (if k .o = 6 then 448 else if k .o = 3 then 511 else 0) → K (.ret (.int .i64 n)) .nil) : CallAt PT plan_Stage [.int .i64 k] d .nil K := by
  refine plan_Stage.of rfl rfl ?_
  cbv
  ((try refine br_rev ?_); (first | refine br_dec (fun h1 => ?_) (fun h1 => ?_) | refine br_ndec (fun h1 => ?_) (fun h1 => ?_) | refine br_nbool (fun h1 => ?_) (fun h1 => ?_) | refine br_bool (fun h1 => ?_) (fun h1 => ?_)); all_goals (try dsimp only at h1); all_goals (try with_reducible replace h1 := zi_lt.1 h1); all_goals (try with_reducible replace h1 := not_zlt h1)) <;> cbv
  · exact hr (fun _ => 448) (by rw [if_pos h1])
  · ((try refine br_rev ?_); (first | refine br_dec (fun h2 => ?_) (fun h2 => ?_) | refine br_ndec (fun h2 => ?_) (fun h2 => ?_) | refine br_nbool (fun h2 => ?_) (fun h2 => ?_) | refine br_bool (fun h2 => ?_) (fun h2 => ?_)); all_goals (try dsimp only at h2); all_goals (try with_reducible replace h2 := zi_lt.1 h2); all_goals (try with_reducible replace h2 := not_zlt h2)) <;> cbv
    · exact hr (fun _ => 511) (by rw [if_neg h1, if_pos h2])
    · exact hr (fun _ => 0) (by rw [if_neg h1, if_neg h2])
theorem awake23_c {d : Nat} {K : ARes → BL → Prop} (hr : ∀ b : Th Bool, b .o = true → K (.ret (.bool b)) .nil) : CallAt PT l23_awake [] d .nil K := by
  refine CallAt.res ?_
  refine l23_awake.of rfl rfl ?_
  cbv
  refine plain_c (fun _ => 2541) (fun _ => 0) (fun _ => 0) fun m hm => ?_
  cbv
  refine pmode_ff m fun n hn => ?_
  cbv
  refine stage_c (fun _ => 1) fun s1 hs1 => ?_
  cbv
  refine br_dec (fun _ => ?_) (fun q => absurd (show s1 .o = 0 by rw [hs1]; rfl) q)
  cbv
  refine stage_c (fun _ => 6) fun s2 hs2 => ?_
  cbv
  refine br_dec (fun _ => ?_) (fun q => absurd (show s2 .o = 448 by rw [hs2]; rfl) q)
  cbv
  refine br_dec (fun _ => ?_) (fun q => absurd (show n .o = 448 by rw [hn, hm]; decide +kernel) q)
  cbv
  exact ⟨_, .ret (.tt rfl), hr (fun _ => true) rfl⟩

/-! ### bits -/
theorem fin6464 {p : Int → Prop} (h : ∀ a b : Fin 64, p (64 * (a.1 : Int) + (b.1 : Int))) {n : Int} (h0 : 0 ≤ n) (h1 : n < 4096) : p n := by
  have := h ⟨(n / 64).toNat, by omega⟩ ⟨(n % 64).toNat, by omega⟩
  rwa [show (64 * ((⟨(n / 64).toNat, by omega⟩ : Fin 64).1 : Int) + ((⟨(n % 64).toNat, by omega⟩ : Fin 64).1 : Int)) = n by simp only []; omega] at this
theorem bnot_511 {n : Int} (h0 : 0 ≤ n) (h1 : n < 4096) : bnot n 511 = 512 * (n / 512) := fin6464 (p := fun n => bnot n 511 = 512 * (n / 512)) (by decide +kernel) h0 h1
theorem band_448 {n : Int} (h0 : 0 ≤ n) (h1 : n < 4096) : band n 448 = 64 * (n / 64 % 8) := fin6464 (p := fun n => band n 448 = 64 * (n / 64 % 8)) (by decide +kernel) h0 h1
theorem bor_512 {q r : Int} (hq : 0 ≤ q ∧ q < 8) (hr : 0 ≤ r ∧ r < 512) : bor (512 * q) r = 512 * q + r :=
  fin8 (p := fun q => bor (512 * q) r = 512 * q + r) (fun q => by
    have h : ∀ q : Fin 8, ∀ a : Fin 8, ∀ b : Fin 64, bor (512 * (q.1 : Int)) (64 * (a.1 : Int) + (b.1 : Int)) = 512 * (q.1 : Int) + (64 * (a.1 : Int) + (b.1 : Int)) := by decide +kernel
    have := h q ⟨(r / 64).toNat, by omega⟩ ⟨(r % 64).toNat, by omega⟩
    rwa [show (64 * ((⟨(r / 64).toNat, by omega⟩ : Fin 8).1 : Int) + ((⟨(r % 64).toNat, by omega⟩ : Fin 64).1 : Int)) = r by simp only []; omega] at this) hq.1 hq.2

theorem goS_gid {m m' : Meta} (h : m.gid = m'.gid) (c : Cred) (w mask : Int) : ∀ (l : List Ace) (me any : Bool), goS m c w mask l me any = goS m' c w mask l me any
  | [], _, _ => rfl
  | a :: r, me, any => by
    unfold goS
    rw [h, goS_gid h c w mask r, goS_gid h c w mask r]
theorem CanS_congr {m m' : Meta} {c : Cred} {w : Int} (hu : m.uid = m'.uid) (hg : m.gid = m'.gid) (ho : ofS m = ofS m') : CanS m c w = CanS m' c w := by
  have hgo : ∀ mask l me any, goS m c w mask l me any = goS m' c w mask l me any := goS_gid hg c w
  unfold CanS canS
  simp only [hu, ho, hgo]
theorem has_zero {k : Int} (h0 : 1 ≤ k) (h1 : k < 8) : hasS k 0 = false := by
  unfold hasS
  rw [band0 (by omega) h1]
  simp; omega
theorem of_none (mo u g : Int) : ofS { metaZ with mode := mo, uid := u, gid := g } = fromMode mo := rfl

end Go.Proofs.Ytgjlkcdnlndlnaa
/- The law PlanFewer, walked: names that are strict are left out. -/
namespace Go.Proofs.Ytgjlkcdnlndlnaa
open Go Go.Proofs.Ytgjlkcdnlndlnaa.Sx F
set_option linter.unusedVariables false
set_option linter.unusedSimpArgs false

def preS (p s : List UInt8) : Bool := decide (p.length ≤ s.length) && decide (s.take p.length = p)
theorem pre1_c (s p : Th (List UInt8)) {d : Nat} {K : ARes → BL → Prop} (hr : ∀ b : Th Bool, b .o = preS (p .o) (s .o) → K (.ret (.bool b)) .nil) : CallAt PT internal_stringslite_HasPrefix [.str s, .str p] d .nil K := by
  refine CallAt.res ?_
  refine internal_stringslite_HasPrefix.of rfl rfl ?_
  cbv
  ((try refine br_rev ?_); (first | refine br_dec (fun h1 => ?_) (fun h1 => ?_) | refine br_ndec (fun h1 => ?_) (fun h1 => ?_) | refine br_nbool (fun h1 => ?_) (fun h1 => ?_) | refine br_bool (fun h1 => ?_) (fun h1 => ?_)); all_goals (try dsimp only at h1); all_goals (try with_reducible replace h1 := zi_lt.1 h1); all_goals (try with_reducible replace h1 := not_zlt h1)) <;> cbv
  · have h1' : (p .o).length ≤ (s .o).length := zi_le.1 h1
    refine safe ⟨Int.le_refl _, zi_nonneg _, h1⟩ ?_
    exact ⟨_, .ret (.refl _), hr _ (by
      unfold preS
      rw [decide_eq_true h1', Bool.true_and]
      show decide (List.drop (0 : Int).toNat (List.take (zi (p .o).length).toNat (s .o)) = p .o) = _
      rw [zi_toNat]
      rfl)⟩
  · have h1' : ¬ (p .o).length ≤ (s .o).length := fun q => h1 (zi_le.2 q)
    exact ⟨_, .ret (.ff rfl), hr (fun _ => false) (by unfold preS; rw [decide_eq_false h1']; rfl)⟩
theorem pre_c (s p : Th (List UInt8)) {d : Nat} {K : ARes → BL → Prop} (hr : ∀ b : Th Bool, b .o = preS (p .o) (s .o) → K (.ret (.bool b)) .nil) : CallAt PT strings_HasPrefix [.str s, .str p] d .nil K := by
  refine strings_HasPrefix.of rfl rfl ?_
  cbv
  refine pre1_c s p fun b hb => ?_
  cbv
  exact hr b hb
def trustedS : List UInt8 := [116, 114, 117, 115, 116, 101, 100, 46]
def securityS : List UInt8 := [115, 101, 99, 117, 114, 105, 116, 121, 46]
def strictS (x : Xattr) : Bool := preS trustedS x.name || preS securityS x.name
def fewerS (l : List Xattr) : List Xattr := l.filter fun x => !strictS x
theorem fewer_step (l : List Xattr) (k : Nat) (h : k < l.length) : fewerS (l.take (k + 1)) = if strictS (l.getD k Xattr.z) = true then fewerS (l.take k) else fewerS (l.take k) ++ [l.getD k Xattr.z] := by
  unfold fewerS
  rw [List.take_add_one, List.filter_append, List.getD_eq_getElem?_getD, List.getElem?_eq_getElem h]
  simp only [Option.toList_some, Option.getD_some]
  by_cases q : strictS l[k] = true
  · rw [if_pos q]; simp [q]
  · rw [if_neg q]; simp [q]
theorem fewer_len (l : List Xattr) : (fewerS l).length ≤ l.length := List.length_filter_le _ _
theorem fewer_c (l : Th (List Xattr)) (hl : (l .o).length ≤ 1000) {d : Nat} {K : ARes → BL → Prop} (hr : ∀ r : Th (List Xattr), r .o = fewerS (l .o) → K (.ret (xattrs r)) .nil) : CallAt PT plan_Fewer [xattrs l] d .nil K := by
  refine plan_Fewer.of rfl rfl ?_
  cbv
  refine nil_tmp 3 9000 2 (fun _ => .nil) rfl rfl ?_
  refine loop_at (X := Nat) 1000 [3, 6, 7] [] (fun _ k => .cons 8 (.int .i64 fun _ => zi k) .nil) (fun _ k => .cons 9000 (rowB 2 Xattr.ch Xattr.z fun _ => fewerS ((l .o).take k)) .nil) (fun k => k ≤ (l .o).length) (fun k => (l .o).length - k) 0 ?_ (Nat.zero_le _) ?_
  · cbv
    (repeat' (first | exact True.intro | exact Same.refl _ | exact SameB.refl _ | exact ⟨rfl⟩ | exact Same.int rfl | exact Same.str rfl | exact Same.bool rfl | (refine Same.int ?_; simp only [List.length_append, List.length_cons, List.length_nil, zi]; omega) | (refine SameB.row' rfl fun i hi => ?_; first | rfl | exact absurd hi (Nat.not_lt_zero _)) | refine And.intro ?_ ?_ | refine SameB.cells ?_ | exact SameC.nil | refine SameC.cons ?_ ?_ | exact Same.nsl rfl | exact Same.tt rfl | exact Same.ff rfl))
  · intro k hk
    have succ := zi_succ (k := k) (by omega)
    have hz := zi_toNat k
    cbv
    ((try refine br_rev ?_); (first | refine br_dec (fun h1 => ?_) (fun h1 => ?_) | refine br_ndec (fun h1 => ?_) (fun h1 => ?_) | refine br_nbool (fun h1 => ?_) (fun h1 => ?_) | refine br_bool (fun h1 => ?_) (fun h1 => ?_)); all_goals (try dsimp only at h1); all_goals (try with_reducible replace h1 := zi_lt.1 h1); all_goals (try with_reducible replace h1 := not_zlt h1)) <;> cbv
    · have hst := fewer_step (l .o) k h1
      have hfl := fewer_len ((l .o).take k)
      have htl : ((l .o).take k).length ≤ k := by rw [List.length_take]; omega
      refine safe ⟨zi_nonneg _, zi_lt.2 h1⟩ ?_
      refine pre_c (fun _ => ((l .o).getD (zi k).toNat Xattr.z).name) (fun _ => trustedS) fun b1 hb1 => ?_
      have hb1 : b1 .o = preS trustedS ((l .o).getD k Xattr.z).name := by rw [hb1]; show preS trustedS ((l .o).getD (zi k).toNat Xattr.z).name = _; rw [hz]
      cbv
      refine br_nbool (fun h2 => ?_) (fun h2 => ?_)
      · have h2 : b1 .o = false := h2
        cbv
        refine pre_c (fun _ => ((l .o).getD (zi k).toNat Xattr.z).name) (fun _ => securityS) fun b2 hb2 => ?_
        have hb2 : b2 .o = preS securityS ((l .o).getD k Xattr.z).name := by rw [hb2]; show preS securityS ((l .o).getD (zi k).toNat Xattr.z).name = _; rw [hz]
        cbv
        refine br_nbool (fun h3 => ?_) (fun h3 => ?_)
        · have h3 : b2 .o = false := h3
          have hs : ¬ strictS ((l .o).getD k Xattr.z) = true := by unfold strictS; rw [← hb1, ← hb2, h2, h3]; decide
          rw [if_neg hs] at hst
          cbv
          refine app_one Xattr.ch Xattr.z (fewerS ((l .o).take k)) ((l .o).getD (zi k).toNat Xattr.z) rfl (fun i hi => rfl) rfl rfl (by omega) ?_
          cbv
          refine ⟨k + 1, h1, by omega, ?_⟩
          cbv
          rw [hst, hz]
          (repeat' (first | exact True.intro | exact Same.refl _ | exact SameB.refl _ | exact ⟨rfl⟩ | exact Same.int rfl | exact Same.str rfl | exact Same.bool rfl | (refine Same.int ?_; simp only [List.length_append, List.length_cons, List.length_nil, zi]; omega) | (refine SameB.row' rfl fun i hi => ?_; first | rfl | exact absurd hi (Nat.not_lt_zero _)) | refine And.intro ?_ ?_ | refine SameB.cells ?_ | exact SameC.nil | refine SameC.cons ?_ ?_ | exact Same.nsl rfl | exact Same.tt rfl | exact Same.ff rfl))
          all_goals exact Same.int succ
        · have h3 : b2 .o = true := h3
          have hs : strictS ((l .o).getD k Xattr.z) = true := by unfold strictS; rw [← hb1, ← hb2, h3]; simp
          rw [if_pos hs] at hst
          cbv
          refine ⟨k + 1, h1, by omega, ?_⟩
          cbv
          rw [hst]
          (repeat' (first | exact True.intro | exact Same.refl _ | exact SameB.refl _ | exact ⟨rfl⟩ | exact Same.int rfl | exact Same.str rfl | exact Same.bool rfl | (refine Same.int ?_; simp only [List.length_append, List.length_cons, List.length_nil, zi]; omega) | (refine SameB.row' rfl fun i hi => ?_; first | rfl | exact absurd hi (Nat.not_lt_zero _)) | refine And.intro ?_ ?_ | refine SameB.cells ?_ | exact SameC.nil | refine SameC.cons ?_ ?_ | exact Same.nsl rfl | exact Same.tt rfl | exact Same.ff rfl))
          all_goals exact Same.int succ
      · have h2 : b1 .o = true := h2
        have hs : strictS ((l .o).getD k Xattr.z) = true := by unfold strictS; rw [← hb1, h2]; rfl
        rw [if_pos hs] at hst
        cbv
        refine ⟨k + 1, h1, by omega, ?_⟩
        cbv
        rw [hst]
        (repeat' (first | exact True.intro | exact Same.refl _ | exact SameB.refl _ | exact ⟨rfl⟩ | exact Same.int rfl | exact Same.str rfl | exact Same.bool rfl | (refine Same.int ?_; simp only [List.length_append, List.length_cons, List.length_nil, zi]; omega) | (refine SameB.row' rfl fun i hi => ?_; first | rfl | exact absurd hi (Nat.not_lt_zero _)) | refine And.intro ?_ ?_ | refine SameB.cells ?_ | exact SameC.nil | refine SameC.cons ?_ ?_ | exact Same.nsl rfl | exact Same.tt rfl | exact Same.ff rfl))
        all_goals exact Same.int succ
    · exact hr (fun _ => fewerS ((l .o).take k)) (by rw [List.take_of_length_le (by omega)])

theorem strict_iff (x : Xattr) : strictS x = true ↔ (8 ≤ x.name.length ∧ x.name.take 8 = trustedS) ∨ (9 ≤ x.name.length ∧ x.name.take 9 = securityS) := by
  unfold strictS preS
  rw [show trustedS.length = 8 from rfl, show securityS.length = 9 from rfl]
  simp only [Bool.or_eq_true, Bool.and_eq_true, decide_eq_true_eq]

end Go.Proofs.Ytgjlkcdnlndlnaa
/- What is tried of an entry: plan.Attrs, walked. -/
namespace Go.Proofs.Ytgjlkcdnlndlnaa
open Go Go.Proofs.Ytgjlkcdnlndlnaa.Sx F
set_option linter.unusedVariables false
set_option linter.unusedSimpArgs false

theorem zpos_dec (n : Nat) : decide (0 < zi n) = decide (0 < n) := by unfold zi; rw [decide_eq_decide]; omega
def hasA (e : Entry) (a : Int) : Bool :=
  if a = 10 then decide (e.kind = 6) else if a = 3 then !decide (e.kind = 3) else if a = 4 then decide (0 < e.mt.acl.length) else if a = 5 then decide (0 < e.mt.dflt.length) else if a = 6 then decide (0 < e.mt.xs.length)
  else if a = 7 then !decide (e.mt.caps.ver = 0) else if a = 9 then !decide (e.mt.flags = 0) else true
theorem hasA_c (e : Th Entry) (a : Th Int) {d : Nat} {K : ARes → BL → Prop} (hr : ∀ b : Th Bool, b .o = hasA (e .o) (a .o) → K (.ret (.bool b)) .nil) : CallAt PT plan_has [Entry.av e, .int .i64 a] d .nil K := by
  refine CallAt.res ?_
  refine plan_has.of rfl rfl ?_
  cbv
  have fin : ∀ (b : Th Bool) {x : AV}, b .o = hasA (e .o) (a .o) → Same x (.bool b) → ∃ r', SameR (.ret x) r' ∧ K r' .nil := fun b x h1 h2 => ⟨_, .ret h2, hr b h1⟩
  ((try refine br_rev ?_); (first | refine br_dec (fun h1 => ?_) (fun h1 => ?_) | refine br_ndec (fun h1 => ?_) (fun h1 => ?_) | refine br_nbool (fun h1 => ?_) (fun h1 => ?_) | refine br_bool (fun h1 => ?_) (fun h1 => ?_)); all_goals (try dsimp only at h1); all_goals (try with_reducible replace h1 := zi_lt.1 h1); all_goals (try with_reducible replace h1 := not_zlt h1)) <;> cbv
  · exact fin _ (by unfold hasA; rw [if_pos h1]) (.refl _)
  · ((try refine br_rev ?_); (first | refine br_dec (fun h2 => ?_) (fun h2 => ?_) | refine br_ndec (fun h2 => ?_) (fun h2 => ?_) | refine br_nbool (fun h2 => ?_) (fun h2 => ?_) | refine br_bool (fun h2 => ?_) (fun h2 => ?_)); all_goals (try dsimp only at h2); all_goals (try with_reducible replace h2 := zi_lt.1 h2); all_goals (try with_reducible replace h2 := not_zlt h2)) <;> cbv
    · exact fin _ (by unfold hasA; rw [if_neg h1, if_pos h2]) (.refl _)
    · ((try refine br_rev ?_); (first | refine br_dec (fun h3 => ?_) (fun h3 => ?_) | refine br_ndec (fun h3 => ?_) (fun h3 => ?_) | refine br_nbool (fun h3 => ?_) (fun h3 => ?_) | refine br_bool (fun h3 => ?_) (fun h3 => ?_)); all_goals (try dsimp only at h3); all_goals (try with_reducible replace h3 := zi_lt.1 h3); all_goals (try with_reducible replace h3 := not_zlt h3)) <;> cbv
      · exact fin _ (by unfold hasA; rw [if_neg h1, if_neg h2, if_pos h3]; exact zpos_dec _) (.refl _)
      · ((try refine br_rev ?_); (first | refine br_dec (fun h4 => ?_) (fun h4 => ?_) | refine br_ndec (fun h4 => ?_) (fun h4 => ?_) | refine br_nbool (fun h4 => ?_) (fun h4 => ?_) | refine br_bool (fun h4 => ?_) (fun h4 => ?_)); all_goals (try dsimp only at h4); all_goals (try with_reducible replace h4 := zi_lt.1 h4); all_goals (try with_reducible replace h4 := not_zlt h4)) <;> cbv
        · exact fin _ (by unfold hasA; rw [if_neg h1, if_neg h2, if_neg h3, if_pos h4]; exact zpos_dec _) (.refl _)
        · ((try refine br_rev ?_); (first | refine br_dec (fun h5 => ?_) (fun h5 => ?_) | refine br_ndec (fun h5 => ?_) (fun h5 => ?_) | refine br_nbool (fun h5 => ?_) (fun h5 => ?_) | refine br_bool (fun h5 => ?_) (fun h5 => ?_)); all_goals (try dsimp only at h5); all_goals (try with_reducible replace h5 := zi_lt.1 h5); all_goals (try with_reducible replace h5 := not_zlt h5)) <;> cbv
          · exact fin _ (by unfold hasA; rw [if_neg h1, if_neg h2, if_neg h3, if_neg h4, if_pos h5]; exact zpos_dec _) (.refl _)
          · ((try refine br_rev ?_); (first | refine br_dec (fun h6 => ?_) (fun h6 => ?_) | refine br_ndec (fun h6 => ?_) (fun h6 => ?_) | refine br_nbool (fun h6 => ?_) (fun h6 => ?_) | refine br_bool (fun h6 => ?_) (fun h6 => ?_)); all_goals (try dsimp only at h6); all_goals (try with_reducible replace h6 := zi_lt.1 h6); all_goals (try with_reducible replace h6 := not_zlt h6)) <;> cbv
            · exact fin _ (by unfold hasA; rw [if_neg h1, if_neg h2, if_neg h3, if_neg h4, if_neg h5, if_pos h6]) (.refl _)
            · ((try refine br_rev ?_); (first | refine br_dec (fun h7 => ?_) (fun h7 => ?_) | refine br_ndec (fun h7 => ?_) (fun h7 => ?_) | refine br_nbool (fun h7 => ?_) (fun h7 => ?_) | refine br_bool (fun h7 => ?_) (fun h7 => ?_)); all_goals (try dsimp only at h7); all_goals (try with_reducible replace h7 := zi_lt.1 h7); all_goals (try with_reducible replace h7 := not_zlt h7)) <;> cbv
              · exact fin _ (by unfold hasA; rw [if_neg h1, if_neg h2, if_neg h3, if_neg h4, if_neg h5, if_neg h6, if_pos h7]) (.refl _)
              · exact fin (fun _ => true) (by unfold hasA; rw [if_neg h1, if_neg h2, if_neg h3, if_neg h4, if_neg h5, if_neg h6, if_neg h7]) (.tt rfl)

def BE (e : Th Entry) : BL := .cons 10001 (.cells (Entry.ch e)) .nil
def BB (l : Th (List Int)) (e : Th Entry) : BL := .cons 10001 (.cells (Entry.ch e)) (.cons 10000 (rowB 1 intCh 0 l) .nil)
def dels (e : Th Entry) : AV := .fn (.func plan_Attrs_1) .nil (.cons (.ptr 10001 0) .nil)

theorem attrs1_c (e : Th Entry) (a : Th Int) {d : Nat} {K : ARes → BL → Prop} (hr : ∀ b : Th Bool, b .o = !hasA (e .o) (a .o) → K (.ret (.bool b)) (BE e)) : CallAt PT plan_Attrs_1 [.int .i64 a, .ptr 10001 0] d (BE e) K := by
  refine plan_Attrs_1.of rfl rfl ?_
  cbv
  refine hasA_c e a fun b hb => ?_
  cbv
  exact hr _ (by rw [← hb])

theorem attrs1i_c (e : Th Entry) (a : Th Int) {d : Nat} {K : ARes → BL → Prop} (hr : ∀ b : Th Bool, b .o = !hasA (e .o) (a .o) → K (.ret (.bool b)) .nil) : CallAt PT plan_Attrs_1 [.int .i64 a, .iptr (Entry.ch e)] d .nil K := by
  refine plan_Attrs_1.of rfl rfl ?_
  cbv
  refine hasA_c e a fun b hb => ?_
  cbv
  exact hr _ (by rw [← hb])

theorem indexA_c (e : Th Entry) (l : Th (List Int)) (hl : short (l .o)) {d : Nat} {K : ARes → BL → Prop}
    (hr : ∀ n : Th Int, ((n .o = -1 ∧ ∀ j, j < (l .o).length → hasA (e .o) ((l .o).getD j 0) = true) ∨ ∃ k, k < (l .o).length ∧ n .o = zi k ∧ (∀ j, j < k → hasA (e .o) ((l .o).getD j 0) = true) ∧ hasA (e .o) ((l .o).getD k 0) = false) → K (.ret (.int .i64 n)) .nil) :
    CallAt PT slices_IndexFunc_int_int [ints l, .fn (.func plan_Attrs_1) .nil (.cons (.iptr (Entry.ch e)) .nil)] d .nil K := by
  refine slices_IndexFunc_int_int.of rfl rfl ?_
  cbv
  refine loop_rule (X := Nat) 1000 [0, 1, 7] [] (fun k => .cons 8 (.int .i64 fun _ => zi k) .nil) (fun _ => .nil) (fun k => k ≤ (l .o).length ∧ ∀ j, j < k → hasA (e .o) ((l .o).getD j 0) = true) (fun k => (l .o).length - k) 0 ?_ ⟨Nat.zero_le _, fun j hj => by omega⟩ ?_
  · cbv
    (repeat' (first | exact True.intro | exact Same.refl _ | exact SameB.refl _ | exact ⟨rfl⟩ | exact Same.int rfl | exact Same.str rfl | exact Same.bool rfl | (refine Same.int ?_; simp only [List.length_append, List.length_cons, List.length_nil, zi]; omega) | (refine SameB.row' rfl fun i hi => ?_; first | rfl | exact absurd hi (Nat.not_lt_zero _)) | refine And.intro ?_ ?_ | refine SameB.cells ?_ | exact SameC.nil | refine SameC.cons ?_ ?_ | exact Same.nsl rfl | exact Same.tt rfl | exact Same.ff rfl))
  · rintro k ⟨hk, hk2⟩
    cbv
    ((try refine br_rev ?_); (first | refine br_dec (fun h1 => ?_) (fun h1 => ?_) | refine br_ndec (fun h1 => ?_) (fun h1 => ?_) | refine br_nbool (fun h1 => ?_) (fun h1 => ?_) | refine br_bool (fun h1 => ?_) (fun h1 => ?_)); all_goals (try dsimp only at h1); all_goals (try with_reducible replace h1 := zi_lt.1 h1); all_goals (try with_reducible replace h1 := not_zlt h1))
    · cbv
      refine safe ⟨zi_nonneg _, zi_lt.2 h1⟩ ?_
      refine attrs1i_c e (fun _ => (l .o).getD (zi k).toNat 0) fun b hb => ?_
      rw [zi_toNat] at hb
      cbv
      refine br_bool (fun h2 => ?_) (fun h2 => ?_)
      · cbv
        exact hr (fun _ => zi k) (.inr ⟨k, h1, rfl, hk2, by have := hb.symm.trans h2; simpa using this⟩)
      · cbv
        refine ⟨k + 1, ⟨h1, ?_⟩, by omega, ?_⟩
        · intro j hj
          by_cases he : j = k
          · subst he; have := hb.symm.trans h2; simpa using this
          · exact hk2 j (by omega)
        · cbv
          rw [zi_succ (by unfold short at hl; omega)]
          (repeat' (first | exact True.intro | exact Same.refl _ | exact SameB.refl _ | exact ⟨rfl⟩ | exact Same.int rfl | exact Same.str rfl | exact Same.bool rfl | (refine Same.int ?_; simp only [List.length_append, List.length_cons, List.length_nil, zi]; omega) | (refine SameB.row' rfl fun i hi => ?_; first | rfl | exact absurd hi (Nat.not_lt_zero _)) | refine And.intro ?_ ?_ | refine SameB.cells ?_ | exact SameC.nil | refine SameC.cons ?_ ?_ | exact Same.nsl rfl | exact Same.tt rfl | exact Same.ff rfl))
    · cbv
      exact hr (fun _ => -1) (.inl ⟨rfl, fun j hj => hk2 j (by omega)⟩)

/-- What is kept of the first j. -/
def keptA (e : Entry) (L : List Int) (j : Nat) : List Int := (L.take j).filter (hasA e)
theorem keptA_le (e : Entry) (L : List Int) (j : Nat) : (keptA e L j).length ≤ j := by
  unfold keptA
  refine Nat.le_trans (List.length_filter_le _ _) ?_
  rw [List.length_take]; omega
theorem keptA_succ (e : Entry) (L : List Int) (j : Nat) (h : j < L.length) : keptA e L (j + 1) = if hasA e (L.getD j 0) = true then keptA e L j ++ [L.getD j 0] else keptA e L j := by
  unfold keptA
  rw [List.take_add_one, List.filter_append, List.getD_eq_getElem?_getD, List.getElem?_eq_getElem h]
  simp only [Option.toList_some, Option.getD_some]
  by_cases q : hasA e L[j] = true
  · rw [if_pos q]; simp [q]
  · rw [if_neg q]; simp [q]
theorem keptA_all (e : Entry) (L : List Int) (k : Nat) (hk : k ≤ L.length) (h : ∀ j, j < k → hasA e (L.getD j 0) = true) : keptA e L k = L.take k := by
  unfold keptA
  rw [List.filter_eq_self]
  intro x hx
  obtain ⟨i, hi, rfl⟩ := List.getElem_of_mem hx
  rw [List.length_take] at hi
  have := h i (by omega)
  rw [List.getD_eq_getElem?_getD, List.getElem?_eq_getElem (by omega)] at this
  simpa using this
/-- The row as it is when the first j have been looked at. -/
structure DelI (e : Entry) (L : List Int) (j : Nat) (R : List Int) : Prop where
  len : R.length = L.length
  done : R.take (keptA e L j).length = keptA e L j
  rest : R.drop j = L.drop j
theorem DelI.at {e : Entry} {L R : List Int} {j : Nat} (h : DelI e L j R) : R.getD j 0 = L.getD j 0 := by
  have := congrArg (·.getD 0 0) h.rest
  simpa [List.getD_eq_getElem?_getD, List.getElem?_drop] using this
theorem DelI.skip {e : Entry} {L R : List Int} {j : Nat} (h : DelI e L j R) (hj : j < L.length) (hp : hasA e (L.getD j 0) = false) : DelI e L (j + 1) R := by
  have hk : keptA e L (j + 1) = keptA e L j := by rw [keptA_succ e L j hj, if_neg (by rw [hp]; simp)]
  refine ⟨h.len, by rw [hk]; exact h.done, ?_⟩
  rw [← List.drop_drop, ← List.drop_drop, h.rest]
theorem DelI.keep {e : Entry} {L R : List Int} {j : Nat} (h : DelI e L j R) (hj : j < L.length) (hp : hasA e (L.getD j 0) = true) (hi : (keptA e L j).length ≤ j) : DelI e L (j + 1) (R.set (keptA e L j).length (L.getD j 0)) ∧ (keptA e L (j + 1)).length = (keptA e L j).length + 1 := by
  have hk : keptA e L (j + 1) = keptA e L j ++ [L.getD j 0] := by rw [keptA_succ e L j hj, if_pos hp]
  have hl := h.len
  refine ⟨⟨by rw [List.length_set]; exact h.len, ?_, ?_⟩, by rw [hk, List.length_append]; rfl⟩
  · rw [hk, List.length_append, List.length_singleton, List.take_add_one, List.take_set_of_le (Nat.le_refl _), h.done, List.getElem?_set_self (by omega)]
    rfl
  · rw [List.drop_set_of_lt (by omega), ← List.drop_drop, ← List.drop_drop, h.rest]

theorem delFunc_c (e : Th Entry) (l : Th (List Int)) (hl : short (l .o)) {d : Nat} (hd : d < 10000) {K : ARes → BL → Prop}
    (hr1 : (l .o).filter (hasA (e .o)) = l .o → K (.ret (.row 10000)) (.cons 10000 (rowB 1 intCh 0 l) (BE e)))
    (hr2 : ∀ (n : Th Nat) (g : Th Nat → AV) (X : Blk), n .o = ((l .o).filter (hasA (e .o))).length → (∀ i, i < n .o → (g fun _ => i) = intCh fun _ => ((l .o).filter (hasA (e .o))).getD i 0) →
      K (.ret (.row 10000)) (.cons 10000 (.row 1 n g) (.cons 10000 X (BE e)))) :
    CallAt PT slices_DeleteFunc_int_int [.row 10000, dels e] d (BB l e) K := by
  refine CallAt.trim 10000 rfl (by omega) ?_
  refine slices_DeleteFunc_int_int.of rfl rfl ?_
  cbv
  refine indexA_c e l hl fun n hn => ?_
  cbv
  rcases hn with ⟨hn, hall⟩ | ⟨k, hk, hn, hkeep, hdel⟩
  · refine br_dec (fun _ => ?_) (fun q => absurd hn q)
    cbv
    have hf : (l .o).filter (hasA (e .o)) = l .o := by
      have := keptA_all (e .o) (l .o) (l .o).length (Nat.le_refl _) hall
      unfold keptA at this
      rwa [List.take_length] at this
    exact .inl (hr1 hf)
  · refine br_dec (fun q => absurd (q.symm.trans hn) (by have := zi_nonneg k; omega)) (fun _ => ?_)
    cbv
    have hs : IntKind.i64.wrap (n .o + 1) = zi (k + 1) := by rw [hn]; exact zi_succ (by unfold short at hl; omega)
    have hk0 : keptA (e .o) (l .o) (k + 1) = (l .o).take k := by
      rw [keptA_succ _ _ _ hk, if_neg (by rw [hdel]; simp), keptA_all _ _ _ (by omega) hkeep]
    have hk1 : (keptA (e .o) (l .o) (k + 1)).length = k := by rw [hk0, List.length_take]; omega
    refine loop_at (X := Nat × List Int) 1000 [0, 1] [10001] (fun _ x => .cons 5 (.int .i64 fun _ => zi (keptA (e .o) (l .o) x.1).length) (.cons 6 (.int .i64 fun _ => zi x.1) .nil)) (fun _ x => .cons 10000 (rowB 1 intCh 0 fun _ => x.2) .nil)
      (fun x => x.1 ≤ (l .o).length ∧ (keptA (e .o) (l .o) x.1).length < x.1 ∧ DelI (e .o) (l .o) x.1 x.2) (fun x => (l .o).length - x.1) (k + 1, l .o) ?_ ⟨hk, by dsimp only; rw [hk1]; omega, rfl, by dsimp only; rw [hk1, hk0], rfl⟩ ?_
    · cbv
      (repeat' (first | exact True.intro | exact Same.refl _ | exact SameB.refl _ | exact ⟨rfl⟩ | exact Same.int rfl | exact Same.str rfl | exact Same.bool rfl | (refine Same.int ?_; simp only [List.length_append, List.length_cons, List.length_nil, zi]; omega) | (refine SameB.row' rfl fun i hi => ?_; first | rfl | exact absurd hi (Nat.not_lt_zero _)) | refine And.intro ?_ ?_ | refine SameB.cells ?_ | exact SameC.nil | refine SameC.cons ?_ ?_ | exact Same.nsl rfl | exact Same.tt rfl | exact Same.ff rfl))
      all_goals first | exact Same.int (by rw [hn, hk1]) | exact Same.int hs
    · rintro ⟨j, R⟩ ⟨hj, hij, hI⟩
      dsimp only at hj hij hI
      have hRl := hI.len
      cbv
      ((try refine br_rev ?_); (first | refine br_dec (fun h1 => ?_) (fun h1 => ?_) | refine br_ndec (fun h1 => ?_) (fun h1 => ?_) | refine br_nbool (fun h1 => ?_) (fun h1 => ?_) | refine br_bool (fun h1 => ?_) (fun h1 => ?_)); all_goals (try dsimp only at h1); all_goals (try with_reducible replace h1 := zi_lt.1 h1); all_goals (try with_reducible replace h1 := not_zlt h1))
      · have h1' : j < (l .o).length := by rw [← hRl]; exact h1
        have hat := hI.at
        cbv
        refine safe ⟨zi_nonneg _, zi_lt.2 h1⟩ ?_
        refine safe (by show (zi j).toNat < _; rw [zi_toNat]; exact h1) ?_
        refine attrs1_c e (fun _ => R.getD (zi j).toNat 0) fun b hb => ?_
        rw [zi_toNat, hat] at hb
        cbv
        refine br_nbool (fun h2 => ?_) (fun h2 => ?_)
        · have h2' : hasA (e .o) ((l .o).getD j 0) = true := by have := hb.symm.trans h2; simpa using this
          obtain ⟨hI2, hlen⟩ := hI.keep h1' h2' (by omega)
          cbv
          refine safe ⟨zi_nonneg _, zi_lt.2 (by show (keptA (e .o) (l .o) j).length < R.length; omega)⟩ ?_
          refine put_rows intCh 0 R (R.getD j 0) rfl (fun i hi => rfl) (by show (zi (keptA (e .o) (l .o) j).length).toNat < R.length; rw [zi_toNat]; omega) (by rw [zi_toNat]; rfl) ?_
          cbv
          refine ⟨(j + 1, R.set (keptA (e .o) (l .o) j).length ((l .o).getD j 0)), ⟨h1', by dsimp only; omega, hI2⟩, by dsimp only; omega, ?_⟩
          cbv
          have e1 := zi_succ (k := (keptA (e .o) (l .o) j).length) (by unfold short at hl; omega)
          have e2 := zi_succ (k := j) (by unfold short at hl; omega)
          rw [hlen, ← hat]
          dsimp only
          rw [zi_toNat]
          (repeat' (first | exact True.intro | exact Same.refl _ | exact SameB.refl _ | exact ⟨rfl⟩ | exact Same.int rfl | exact Same.str rfl | exact Same.bool rfl | (refine Same.int ?_; simp only [List.length_append, List.length_cons, List.length_nil, zi]; omega) | (refine SameB.row' rfl fun i hi => ?_; first | rfl | exact absurd hi (Nat.not_lt_zero _)) | refine And.intro ?_ ?_ | refine SameB.cells ?_ | exact SameC.nil | refine SameC.cons ?_ ?_ | exact Same.nsl rfl | exact Same.tt rfl | exact Same.ff rfl))
          all_goals first | exact Same.int e1 | exact Same.int e2 | exact SameB.row' (by simp) fun i hi => rfl
        · have h2' : hasA (e .o) ((l .o).getD j 0) = false := by have := hb.symm.trans h2; simpa using this
          have hk2 : keptA (e .o) (l .o) (j + 1) = keptA (e .o) (l .o) j := by rw [keptA_succ _ _ _ h1', if_neg (by rw [h2']; simp)]
          cbv
          refine ⟨(j + 1, R), ⟨h1', by dsimp only; rw [hk2]; omega, hI.skip h1' h2'⟩, by dsimp only; omega, ?_⟩
          cbv
          rw [hk2, zi_succ (by unfold short at hl; omega)]
          (repeat' (first | exact True.intro | exact Same.refl _ | exact SameB.refl _ | exact ⟨rfl⟩ | exact Same.int rfl | exact Same.str rfl | exact Same.bool rfl | (refine Same.int ?_; simp only [List.length_append, List.length_cons, List.length_nil, zi]; omega) | (refine SameB.row' rfl fun i hi => ?_; first | rfl | exact absurd hi (Nat.not_lt_zero _)) | refine And.intro ?_ ?_ | refine SameB.cells ?_ | exact SameC.nil | refine SameC.cons ?_ ?_ | exact Same.nsl rfl | exact Same.tt rfl | exact Same.ff rfl))
      · have hjl : j = (l .o).length := by
          have : R.length ≤ j := h1
          omega
        have hkf : keptA (e .o) (l .o) j = (l .o).filter (hasA (e .o)) := by unfold keptA; rw [hjl, List.take_length]
        cbv
        refine safe ⟨zi_nonneg _, zi_le.2 (by show (keptA (e .o) (l .o) j).length ≤ R.length; omega), Int.le_refl _⟩ ?_
        have hle : (keptA (e .o) (l .o) j).length ≤ R.length := by omega
        refine clr_rows intCh 0 R rfl (fun i hi => rfl) rfl (by dsimp only; rw [zi_toNat]; unfold zi; omega) ?_
        cbv
        refine safe ⟨by decide, zi_nonneg _, zi_le.2 hle⟩ ?_
        refine .inr ⟨1, _, _, _, _, rfl, rfl, ?_, rfl, fun x hx => ?_, hr2 _ _ _ ?_ (fun i hi => ?_)⟩
        · show (zi (keptA (e .o) (l .o) j).length - 0).toNat ≤ R.length
          unfold zi; omega
        · rw [BL.get_cons] at hx
          split at hx
          · exact hx
          · rw [BL.get_cons] at hx
            split at hx
            · simp [Blk.locs, AV.locs, Entry.ch, Meta.ch, AV.app, aces, xattrs] at hx
            · exact hx
        · show (zi (keptA (e .o) (l .o) j).length - 0).toNat = _
          rw [← hkf]; unfold zi; omega
        · have hi : i < (zi (keptA (e .o) (l .o) j).length - 0).toNat := hi
          have hi' : i < (keptA (e .o) (l .o) j).length := by unfold zi at hi; omega
          show (intCh fun _ => if (zi (keptA (e .o) (l .o) j).length).toNat ≤ i ∧ _ then 0 else R.getD i 0) = _
          rw [if_neg (by rw [zi_toNat]; omega), ← hkf]
          congr 1
          funext _
          conv => rhs; rw [← hI.done]
          rw [getD_take _ _ _ _ hi']

def attrsAll : List Int := [10, 2, 3, 4, 5, 6, 7, 8, 9]
def attrsS (e : Entry) : List Int := if e.kind = 2 then [] else attrsAll.filter (hasA e)
theorem attrs_c (e : Th Entry) {d : Nat} {K : ARes → BL → Prop} (hr : ∀ r : Th (List Int), r .o = attrsS (e .o) → K (.ret (ints r)) .nil) : CallAt PT plan_Attrs [Entry.av e] d .nil K := by
  refine CallAt.res ?_
  refine plan_Attrs.of rfl rfl ?_
  cbv
  ((try refine br_rev ?_); (first | refine br_dec (fun h1 => ?_) (fun h1 => ?_) | refine br_ndec (fun h1 => ?_) (fun h1 => ?_) | refine br_nbool (fun h1 => ?_) (fun h1 => ?_) | refine br_bool (fun h1 => ?_) (fun h1 => ?_)); all_goals (try dsimp only at h1); all_goals (try with_reducible replace h1 := zi_lt.1 h1); all_goals (try with_reducible replace h1 := not_zlt h1)) <;> cbv
  · exact ⟨_, .ret (y := ints fun _ => []) (.nsl rfl), hr _ (by unfold attrsS; rw [if_pos h1])⟩
  · refine keep_row 7 9500 rfl rfl rfl ?_
    refine row_told 9500 (fun _ => attrsAll.length) (fun i => intCh fun _ => attrsAll.getD (i .o) 0) rfl rfl (fun i hi => Fits.of_eq ?_) ?_
    · replace hi : i < 9 := hi
      match i, hi with
      | 0, _ | 1, _ | 2, _ | 3, _ | 4, _ | 5, _ | 6, _ | 7, _ | 8, _ => rfl
    refine go_on 1000 ?_
    cbv
    refine CallAt.frameP [(10001, 1), (10000, 9500)] [.row 10000, dels e] (by kernel_rfl) rfl fun K1 hK1 => ?_
    have fin : ∀ (n : Th Nat) (g : Th Nat → AV), n .o = (attrsAll.filter (hasA (e .o))).length → (∀ i, i < n .o → (g fun _ => i) = intCh fun _ => (attrsAll.filter (hasA (e .o))).getD i 0) → ∃ r', SameR (.ret (.sl 1 n g)) r' ∧ K r' .nil := fun n g h1' h2' =>
      ⟨_, .ret (y := ints fun _ => attrsAll.filter (hasA (e .o))) (.sl h1' h2'), hr _ (by unfold attrsS; rw [if_neg h1])⟩
    cbv
    refine delFunc_c e (fun _ => attrsAll) (by unfold short; decide) (by decide) (fun hf => hK1 _ _ ?_) (fun n g X hn hg => hK1 _ _ ?_)
    · cbv
      exact fin _ _ (by rw [hf]) (fun i hi => by rw [hf])
    · cbv
      exact fin n g hn hg
end Go.Proofs.Ytgjlkcdnlndlnaa
/- The law PlanOrder, walked: in which order attributes are tried. -/
namespace Go.Proofs.Ytgjlkcdnlndlnaa
open Go Go.Proofs.Ytgjlkcdnlndlnaa.Sx F
set_option linter.unusedVariables false
set_option linter.unusedSimpArgs false

def consB (b : Bool) (x : Int) (l : List Int) : List Int := match b with | true => x :: l | false => l
def mkA (b10 b3 b4 b5 b6 b7 b9 : Bool) : List Int := consB b10 10 (2 :: consB b3 3 (consB b4 4 (consB b5 5 (consB b6 6 (consB b7 7 (8 :: consB b9 9 []))))))
theorem filter_consB (p : Int → Bool) (x : Int) (l : List Int) : (x :: l).filter p = consB (p x) x (l.filter p) := by
  cases h : p x <;> simp [consB, h]
theorem filter_mkA (p : Int → Bool) (h2 : p 2 = true) (h8 : p 8 = true) : attrsAll.filter p = mkA (p 10) (p 3) (p 4) (p 5) (p 6) (p 7) (p 9) := by
  unfold attrsAll mkA
  simp only [filter_consB, h2, h8]
  rfl
def orderB (L : List Int) (d f : Bool) : Bool :=
  decide (2 ≤ L.length) && (decide (L.getD 0 0 = 10) == d) && (List.range L.length).all (fun i => i == 0 || L.getD i 0 == 10 || L.getD (i - 1) 0 == 10 || decide (L.getD (i - 1) 0 < L.getD i 0)) &&
  L.contains 2 && L.contains 8 && (decide (L.getD (L.length - 1) 0 = 9) == f)
theorem order_all : ∀ b10 b3 b4 b5 b6 b7 b9 : Bool, orderB (mkA b10 b3 b4 b5 b6 b7 b9) b10 b9 = true := by decide +kernel
structure OrderOk (e : Entry) (L : List Int) : Prop where
  len : 2 ≤ L.length
  first : decide (L.getD 0 0 = 10) = decide (e.kind = 6)
  rise : ∀ i, 0 < i → i < L.length → L.getD i 0 ≠ 10 → L.getD (i - 1) 0 ≠ 10 → L.getD (i - 1) 0 < L.getD i 0
  owner : (2 : Int) ∈ L
  times : (8 : Int) ∈ L
  last : decide (L.getD (L.length - 1) 0 = 9) = !decide (e.mt.flags = 0)
  short : L.length ≤ 9
theorem order_ok (e : Entry) : OrderOk e (attrsAll.filter (hasA e)) := by
  have h := order_all (hasA e 10) (hasA e 3) (hasA e 4) (hasA e 5) (hasA e 6) (hasA e 7) (hasA e 9)
  rw [← filter_mkA (hasA e) rfl rfl] at h
  have hs : (attrsAll.filter (hasA e)).length ≤ 9 := List.length_filter_le _ _
  generalize attrsAll.filter (hasA e) = L at h hs
  unfold orderB at h
  simp only [Bool.and_eq_true, decide_eq_true_eq, beq_iff_eq, List.all_eq_true, List.mem_range, List.contains_iff_mem, Bool.or_eq_true] at h
  obtain ⟨⟨⟨⟨⟨h1, h2⟩, h3⟩, h4⟩, h5⟩, h6⟩ := h
  refine ⟨h1, h2, fun i hi hl ha hb => ?_, h4, h5, h6, hs⟩
  rcases h3 i hl with ((h | h) | h) | h
  · omega
  · exact absurd h ha
  · exact absurd h hb
  · exact h

def seenB (x : Int) (L : List Int) (i : Nat) : Bool := decide (x ∈ L.take i)
theorem seen_succ (x : Int) (L : List Int) (i : Nat) (h : i < L.length) : seenB x L (i + 1) = (seenB x L i || decide (L.getD i 0 = x)) := by
  unfold seenB
  rw [List.take_add_one, List.getD_eq_getElem?_getD, List.getElem?_eq_getElem h]
  simp only [Option.toList_some, Option.getD_some, List.mem_append, List.mem_singleton]
  by_cases h1 : x ∈ L.take i <;> by_cases h2 : x = L[i] <;> simp [h1, h2, eq_comm]

end Go.Proofs.Ytgjlkcdnlndlnaa
/- The document's plan, walked; the law PlanMade. -/
namespace Go.Proofs.Ytgjlkcdnlndlnaa
open Go Go.Proofs.Ytgjlkcdnlndlnaa.Sx F
set_option linter.unusedVariables false
set_option linter.unusedSimpArgs false

def modeS (less : Int) (m : Meta) (o : Bool) : Int := if o = true then bor (bnot m.mode 511) less else band m.mode 448
theorem pmode_c (m : Th Meta) (o : Th Bool) (hm : short (m .o).acl) {d : Nat} {K : ARes → BL → Prop} (hr : ∀ (n : Th Int) (f : Th Bool), n .o = modeS (LessS (m .o)) (m .o) (o .o) → f .o = o .o → K (.ret (.tup (.cons (.int .i64 n) (.cons (.bool f) .nil)))) .nil) :
    CallAt PT plan_Mode [Meta.av m, .bool o] d .nil K := by
  refine CallAt.res ?_
  refine plan_Mode.of rfl rfl ?_
  cbv
  refine br_nbool (fun h1 => ?_) (fun h1 => ?_)
  · cbv
    exact ⟨_, .ret (.tup (.cons (.int (b := fun _ => modeS (LessS (m .o)) (m .o) (o .o)) (by unfold modeS; rw [h1]; rfl)) (.cons (.ff h1) .nil))), hr _ _ rfl rfl⟩
  · cbv
    refine Less_c m hm fun n hn => ?_
    cbv
    exact ⟨_, .ret (.tup (.cons (.int (b := fun _ => modeS (LessS (m .o)) (m .o) (o .o)) (by unfold modeS; rw [h1, ← hn]; rfl)) (.cons (.tt h1) .nil))), hr _ _ rfl rfl⟩
theorem mode21_c (m : Th Meta) (o : Th Bool) (hm : short (m .o).acl) {d : Nat} {K : ARes → BL → Prop} (hr : ∀ (n : Th Int) (f : Th Bool), n .o = modeS (Less9 (m .o)) (m .o) (o .o) → f .o = o .o → K (.ret (.tup (.cons (.int .i64 n) (.cons (.bool f) .nil)))) .nil) :
    CallAt PT r21_Mode [Meta.av m, .bool o] d .nil K := by
  refine CallAt.res ?_
  refine r21_Mode.of rfl rfl ?_
  cbv
  refine br_bool (fun h1 => ?_) (fun h1 => ?_)
  · cbv
    refine Less9_c m hm fun n hn => ?_
    cbv
    exact ⟨_, .ret (.tup (.cons (.int (b := fun _ => modeS (Less9 (m .o)) (m .o) (o .o)) (by unfold modeS; rw [h1, ← hn]; rfl)) (.cons (.tt h1) .nil))), hr _ _ rfl rfl⟩
  · cbv
    exact ⟨_, .ret (.tup (.cons (.int (b := fun _ => modeS (Less9 (m .o)) (m .o) (o .o)) (by unfold modeS; rw [h1]; rfl)) (.cons (.ff h1) .nil))), hr _ _ rfl rfl⟩
theorem stage21_c (k : Th Int) {d : Nat} {K : ARes → BL → Prop} (hr : ∀ n : Th Int, n .o = (if k .o = 6 then 448 else if k .o = 3 then 511 else 0) → K (.ret (.int .i64 n)) .nil) : CallAt PT r21_Stage [.int .i64 k] d .nil K := by
  refine r21_Stage.of rfl rfl ?_
  cbv
  ((try refine br_rev ?_); (first | refine br_dec (fun h1 => ?_) (fun h1 => ?_) | refine br_ndec (fun h1 => ?_) (fun h1 => ?_) | refine br_nbool (fun h1 => ?_) (fun h1 => ?_) | refine br_bool (fun h1 => ?_) (fun h1 => ?_)); all_goals (try dsimp only at h1); all_goals (try with_reducible replace h1 := zi_lt.1 h1); all_goals (try with_reducible replace h1 := not_zlt h1)) <;> cbv
  · exact hr (fun _ => 448) (by rw [if_pos h1])
  · ((try refine br_rev ?_); (first | refine br_dec (fun h2 => ?_) (fun h2 => ?_) | refine br_ndec (fun h2 => ?_) (fun h2 => ?_) | refine br_nbool (fun h2 => ?_) (fun h2 => ?_) | refine br_bool (fun h2 => ?_) (fun h2 => ?_)); all_goals (try dsimp only at h2); all_goals (try with_reducible replace h2 := zi_lt.1 h2); all_goals (try with_reducible replace h2 := not_zlt h2)) <;> cbv
    · exact hr (fun _ => 511) (by rw [if_neg h1, if_pos h2])
    · exact hr (fun _ => 0) (by rw [if_neg h1, if_neg h2])

theorem preS_8 (s : List UInt8) (p : List UInt8) (n : Nat) (hp : p.length = n) : preS p s = (decide (zi n ≤ zi s.length) && decide (((s.take (zi n).toNat).drop (0 : Int).toNat) = p)) := by
  unfold preS
  rw [hp, zi_toNat]
  congr 1
  unfold zi
  rw [decide_eq_decide]; omega
theorem strict_c (s : Th (List UInt8)) {d : Nat} {K : ARes → BL → Prop} (hr : ∀ b : Th Bool, b .o = (preS trustedS (s .o) || preS securityS (s .o)) → K (.ret (.bool b)) .nil) : CallAt PT r18_Strict [.str s] d .nil K := by
  refine CallAt.res ?_
  refine r18_Strict.of rfl rfl ?_
  cbv
  rw [preS_8 (s .o) trustedS 8 rfl, preS_8 (s .o) securityS 9 rfl] at hr
  have fin : ∀ (b : Th Bool) {x : AV}, b .o = _ → Same x (.bool b) → ∃ r', SameR (.ret x) r' ∧ K r' .nil := fun b x h1 h2 => ⟨_, .ret h2, hr b h1⟩
  refine br_bool (fun h1 => ?_) (fun h1 => ?_)
  · cbv
    refine safe ⟨Int.le_refl _, by decide, of_decide_eq_true h1⟩ ?_
    refine br_rev (br_bool (fun h2 => ?_) (fun h2 => ?_))
    · cbv
      exact fin (fun _ => true) (by rw [show decide (zi 8 ≤ zi (s .o).length) = true from h1, show decide (((s .o).take (zi 8).toNat).drop (0 : Int).toNat = trustedS) = true from h2]; rfl) (.tt rfl)
    · have e1 : (decide (zi 8 ≤ zi (s .o).length) && decide (((s .o).take (zi 8).toNat).drop (0 : Int).toNat = trustedS)) = false := by
        rw [show decide (((s .o).take (zi 8).toNat).drop (0 : Int).toNat = trustedS) = false from h2, Bool.and_false]
      rw [e1] at fin
      cbv
      refine br_bool (fun h3 => ?_) (fun h3 => ?_)
      · cbv
        refine safe ⟨Int.le_refl _, by decide, of_decide_eq_true h3⟩ ?_
        exact fin _ (by rw [show decide (zi 9 ≤ zi (s .o).length) = true from h3]; rfl) (.refl _)
      · cbv
        exact fin (fun _ => false) (by rw [show decide (zi 9 ≤ zi (s .o).length) = false from h3]; rfl) (.ff rfl)
  · have e1 : (decide (zi 8 ≤ zi (s .o).length) && decide (((s .o).take (zi 8).toNat).drop (0 : Int).toNat = trustedS)) = false := by
      rw [show decide (zi 8 ≤ zi (s .o).length) = false from h1, Bool.false_and]
    rw [e1] at fin
    cbv
    refine br_bool (fun h3 => ?_) (fun h3 => ?_)
    · cbv
      refine safe ⟨Int.le_refl _, by decide, of_decide_eq_true h3⟩ ?_
      exact fin _ (by rw [show decide (zi 9 ≤ zi (s .o).length) = true from h3]; rfl) (.refl _)
    · cbv
      exact fin (fun _ => false) (by rw [show decide (zi 9 ≤ zi (s .o).length) = false from h3]; rfl) (.ff rfl)

theorem fewer21_c (l : Th (List Xattr)) (hl : (l .o).length ≤ 1000) {d : Nat} {K : ARes → BL → Prop} (hr : ∀ r : Th (List Xattr), r .o = fewerS (l .o) → K (.ret (xattrs r)) .nil) : CallAt PT r21_Fewer [xattrs l] d .nil K := by
  refine r21_Fewer.of rfl rfl ?_
  cbv
  refine nil_tmp 3 9000 2 (fun _ => .nil) rfl rfl ?_
  refine loop_at (X := Nat) 1000 [0, 3] [] (fun _ k => .cons 4 (.int .i64 fun _ => zi k) .nil) (fun _ k => .cons 9000 (rowB 2 Xattr.ch Xattr.z fun _ => fewerS ((l .o).take k)) .nil) (fun k => k ≤ (l .o).length) (fun k => (l .o).length - k) 0 ?_ (Nat.zero_le _) ?_
  · cbv
    (repeat' (first | exact True.intro | exact Same.refl _ | exact SameB.refl _ | exact ⟨rfl⟩ | exact Same.int rfl | exact Same.str rfl | exact Same.bool rfl | (refine Same.int ?_; simp only [List.length_append, List.length_cons, List.length_nil, zi]; omega) | (refine SameB.row' rfl fun i hi => ?_; first | rfl | exact absurd hi (Nat.not_lt_zero _)) | refine And.intro ?_ ?_ | refine SameB.cells ?_ | exact SameC.nil | refine SameC.cons ?_ ?_ | exact Same.nsl rfl | exact Same.tt rfl | exact Same.ff rfl))
  · intro k hk
    have succ := zi_succ (k := k) (by omega)
    have hz := zi_toNat k
    cbv
    ((try refine br_rev ?_); (first | refine br_dec (fun h1 => ?_) (fun h1 => ?_) | refine br_ndec (fun h1 => ?_) (fun h1 => ?_) | refine br_nbool (fun h1 => ?_) (fun h1 => ?_) | refine br_bool (fun h1 => ?_) (fun h1 => ?_)); all_goals (try dsimp only at h1); all_goals (try with_reducible replace h1 := zi_lt.1 h1); all_goals (try with_reducible replace h1 := not_zlt h1)) <;> cbv
    · have hst := fewer_step (l .o) k h1
      have hfl := fewer_len ((l .o).take k)
      have htl : ((l .o).take k).length ≤ k := by rw [List.length_take]; omega
      refine safe ⟨zi_nonneg _, zi_lt.2 h1⟩ ?_
      refine strict_c (fun _ => ((l .o).getD (zi k).toNat Xattr.z).name) fun b hb => ?_
      have hb : b .o = strictS ((l .o).getD k Xattr.z) := by rw [hb, hz]; rfl
      cbv
      refine br_nbool (fun h2 => ?_) (fun h2 => ?_)
      · have h2 : b .o = false := h2
        rw [if_neg (by rw [← hb, h2]; decide)] at hst
        cbv
        refine safe ⟨zi_nonneg _, zi_lt.2 h1⟩ ?_
        refine app_one Xattr.ch Xattr.z (fewerS ((l .o).take k)) ((l .o).getD (zi k).toNat Xattr.z) rfl (fun i hi => rfl) rfl rfl (by omega) ?_
        cbv
        refine ⟨k + 1, h1, by omega, ?_⟩
        cbv
        rw [hst, hz]
        (repeat' (first | exact True.intro | exact Same.refl _ | exact SameB.refl _ | exact ⟨rfl⟩ | exact Same.int rfl | exact Same.str rfl | exact Same.bool rfl | (refine Same.int ?_; simp only [List.length_append, List.length_cons, List.length_nil, zi]; omega) | (refine SameB.row' rfl fun i hi => ?_; first | rfl | exact absurd hi (Nat.not_lt_zero _)) | refine And.intro ?_ ?_ | refine SameB.cells ?_ | exact SameC.nil | refine SameC.cons ?_ ?_ | exact Same.nsl rfl | exact Same.tt rfl | exact Same.ff rfl))
        all_goals exact Same.int succ
      · have h2 : b .o = true := h2
        rw [if_pos (by rw [← hb, h2])] at hst
        cbv
        refine ⟨k + 1, h1, by omega, ?_⟩
        cbv
        rw [hst]
        (repeat' (first | exact True.intro | exact Same.refl _ | exact SameB.refl _ | exact ⟨rfl⟩ | exact Same.int rfl | exact Same.str rfl | exact Same.bool rfl | (refine Same.int ?_; simp only [List.length_append, List.length_cons, List.length_nil, zi]; omega) | (refine SameB.row' rfl fun i hi => ?_; first | rfl | exact absurd hi (Nat.not_lt_zero _)) | refine And.intro ?_ ?_ | refine SameB.cells ?_ | exact SameC.nil | refine SameC.cons ?_ ?_ | exact Same.nsl rfl | exact Same.tt rfl | exact Same.ff rfl))
        all_goals exact Same.int succ
    · exact hr (fun _ => fewerS ((l .o).take k)) (by rw [List.take_of_length_le (by omega)])

theorem list_ext_getD {α : Type} {a b : List α} (z : α) (hl : a.length = b.length) (h : ∀ j, j < a.length → a.getD j z = b.getD j z) : a = b := by
  apply List.ext_getElem hl
  intro i h1 h2
  have := h i h1
  simpa [List.getD_eq_getElem?_getD, List.getElem?_eq_getElem h1, List.getElem?_eq_getElem h2] using this
/-- Two lists that differ in a place. -/
theorem list_ne_getD {α : Type} {a b : List α} (z : α) (j : Nat) (h : a.getD j z ≠ b.getD j z) : a ≠ b := fun e => h (by rw [e])

theorem ints_c (a b : Th (List Int)) (ha : short (a .o)) {d : Nat} {K : ARes → BL → Prop} (hr : ∀ r : Th Bool, (r .o = true ↔ a .o = b .o) → K (.ret (.bool r)) .nil) : CallAt PT l23_ints [ints a, ints b] d .nil K := by
  refine CallAt.res ?_
  refine l23_ints.of rfl rfl ?_
  cbv
  have no : ∀ {x : AV}, a .o ≠ b .o → Same x (.bool fun _ => false) → ∃ r', SameR (.ret x) r' ∧ K r' .nil := fun h1 h2 => ⟨_, .ret h2, hr _ ⟨fun q => (by cases q), fun q => (h1 q).elim⟩⟩
  refine br_ndec (fun h1 => ?_) (fun h1 => ?_)
  · cbv
    exact no (fun q => h1 (by rw [q])) (.ff rfl)
  · have h1 : (a .o).length = (b .o).length := zi_inj.1 h1
    cbv
    refine loop_rule (X := Nat) 1000 [0, 1] [] (fun k => .cons 5 (.int .i64 fun _ => zi k) .nil) (fun _ => .nil) (fun k => k ≤ (a .o).length ∧ ∀ j, j < k → (a .o).getD j 0 = (b .o).getD j 0) (fun k => (a .o).length - k) 0 ?_ ⟨Nat.zero_le _, fun j hj => by omega⟩ ?_
    · cbv
      (repeat' (first | exact True.intro | exact Same.refl _ | exact SameB.refl _ | exact ⟨rfl⟩ | exact Same.int rfl | exact Same.str rfl | exact Same.bool rfl | (refine Same.int ?_; simp only [List.length_append, List.length_cons, List.length_nil, zi]; omega) | (refine SameB.row' rfl fun i hi => ?_; first | rfl | exact absurd hi (Nat.not_lt_zero _)) | refine And.intro ?_ ?_ | refine SameB.cells ?_ | exact SameC.nil | refine SameC.cons ?_ ?_ | exact Same.nsl rfl | exact Same.tt rfl | exact Same.ff rfl))
    · rintro k ⟨hk, heq⟩
      have hz := zi_toNat k
      cbv
      ((try refine br_rev ?_); (first | refine br_dec (fun h2 => ?_) (fun h2 => ?_) | refine br_ndec (fun h2 => ?_) (fun h2 => ?_) | refine br_nbool (fun h2 => ?_) (fun h2 => ?_) | refine br_bool (fun h2 => ?_) (fun h2 => ?_)); all_goals (try dsimp only at h2); all_goals (try with_reducible replace h2 := zi_lt.1 h2); all_goals (try with_reducible replace h2 := not_zlt h2))
      · cbv
        refine safe ⟨zi_nonneg _, zi_lt.2 h2⟩ ?_
        refine safe ⟨zi_nonneg _, zi_lt.2 (by omega)⟩ ?_
        refine br_ndec (fun h3 => ?_) (fun h3 => ?_)
        · cbv
          exact no (list_ne_getD 0 k (by rw [hz] at h3; exact h3)) (.ff rfl)
        · rw [hz] at h3
          cbv
          refine ⟨k + 1, ⟨h2, fun j hj => ?_⟩, by omega, ?_⟩
          · by_cases e : j = k
            · rw [e]; exact h3
            · exact heq j (by omega)
          · cbv
            rw [zi_succ (by unfold short at ha; omega)]
            (repeat' (first | exact True.intro | exact Same.refl _ | exact SameB.refl _ | exact ⟨rfl⟩ | exact Same.int rfl | exact Same.str rfl | exact Same.bool rfl | (refine Same.int ?_; simp only [List.length_append, List.length_cons, List.length_nil, zi]; omega) | (refine SameB.row' rfl fun i hi => ?_; first | rfl | exact absurd hi (Nat.not_lt_zero _)) | refine And.intro ?_ ?_ | refine SameB.cells ?_ | exact SameC.nil | refine SameC.cons ?_ ?_ | exact Same.nsl rfl | exact Same.tt rfl | exact Same.ff rfl))
      · cbv
        exact ⟨_, .ret (y := .bool fun _ => true) (.tt rfl), hr _ ⟨fun _ => list_ext_getD 0 h1 fun j hj => heq j (by omega), fun _ => rfl⟩⟩

theorem sameX_c (a b : Th (List Xattr)) (ha : short (a .o)) {d : Nat} {K : ARes → BL → Prop} (hr : ∀ r : Th Bool, (r .o = true ↔ a .o = b .o) → K (.ret (.bool r)) .nil) : CallAt PT r9_SameXattrs [xattrs a, xattrs b] d .nil K := by
  refine CallAt.res ?_
  refine r9_SameXattrs.of rfl rfl ?_
  cbv
  have no : ∀ {x : AV}, a .o ≠ b .o → Same x (.bool fun _ => false) → ∃ r', SameR (.ret x) r' ∧ K r' .nil := fun h1 h2 => ⟨_, .ret h2, hr _ ⟨fun q => (by cases q), fun q => (h1 q).elim⟩⟩
  refine br_ndec (fun h1 => ?_) (fun h1 => ?_)
  · cbv
    exact no (fun q => h1 (by rw [q])) (.ff rfl)
  · have h1 : (a .o).length = (b .o).length := zi_inj.1 h1
    cbv
    refine loop_rule (X := Nat) 1000 [0, 1] [] (fun k => .cons 5 (.int .i64 fun _ => zi k) .nil) (fun _ => .nil) (fun k => k ≤ (a .o).length ∧ ∀ j, j < k → (a .o).getD j Xattr.z = (b .o).getD j Xattr.z) (fun k => (a .o).length - k) 0 ?_ ⟨Nat.zero_le _, fun j hj => by omega⟩ ?_
    · cbv
      (repeat' (first | exact True.intro | exact Same.refl _ | exact SameB.refl _ | exact ⟨rfl⟩ | exact Same.int rfl | exact Same.str rfl | exact Same.bool rfl | (refine Same.int ?_; simp only [List.length_append, List.length_cons, List.length_nil, zi]; omega) | (refine SameB.row' rfl fun i hi => ?_; first | rfl | exact absurd hi (Nat.not_lt_zero _)) | refine And.intro ?_ ?_ | refine SameB.cells ?_ | exact SameC.nil | refine SameC.cons ?_ ?_ | exact Same.nsl rfl | exact Same.tt rfl | exact Same.ff rfl))
    · rintro k ⟨hk, heq⟩
      have hz := zi_toNat k
      cbv
      ((try refine br_rev ?_); (first | refine br_dec (fun h2 => ?_) (fun h2 => ?_) | refine br_ndec (fun h2 => ?_) (fun h2 => ?_) | refine br_nbool (fun h2 => ?_) (fun h2 => ?_) | refine br_bool (fun h2 => ?_) (fun h2 => ?_)); all_goals (try dsimp only at h2); all_goals (try with_reducible replace h2 := zi_lt.1 h2); all_goals (try with_reducible replace h2 := not_zlt h2))
      · cbv
        refine safe ⟨zi_nonneg _, zi_lt.2 h2⟩ ?_
        refine safe ⟨zi_nonneg _, zi_lt.2 (by omega)⟩ ?_
        refine br_nbool (fun h3 => ?_) (fun h3 => ?_)
        · cbv
          refine no (list_ne_getD Xattr.z k fun q => ?_) (.ff rfl)
          rw [hz, q] at h3
          simp at h3
        · rw [hz] at h3
          simp only [Bool.and_eq_true, decide_eq_true_eq] at h3
          have h3' : (a .o).getD k Xattr.z = (b .o).getD k Xattr.z := by
            have e1 := h3.1
            have e2 := h3.2.1
            generalize (a .o).getD k Xattr.z = p at e1 e2 ⊢
            generalize (b .o).getD k Xattr.z = q at e1 e2 ⊢
            cases p; cases q
            simp only at e1 e2
            rw [e1, e2]
          cbv
          refine ⟨k + 1, ⟨h2, fun j hj => ?_⟩, by omega, ?_⟩
          · by_cases e : j = k
            · rw [e]; exact h3'
            · exact heq j (by omega)
          · cbv
            rw [zi_succ (by unfold short at ha; omega)]
            (repeat' (first | exact True.intro | exact Same.refl _ | exact SameB.refl _ | exact ⟨rfl⟩ | exact Same.int rfl | exact Same.str rfl | exact Same.bool rfl | (refine Same.int ?_; simp only [List.length_append, List.length_cons, List.length_nil, zi]; omega) | (refine SameB.row' rfl fun i hi => ?_; first | rfl | exact absurd hi (Nat.not_lt_zero _)) | refine And.intro ?_ ?_ | refine SameB.cells ?_ | exact SameC.nil | refine SameC.cons ?_ ?_ | exact Same.nsl rfl | exact Same.tt rfl | exact Same.ff rfl))
      · cbv
        exact ⟨_, .ret (y := .bool fun _ => true) (.tt rfl), hr _ ⟨fun _ => list_ext_getD Xattr.z h1 fun j hj => heq j (by omega), fun _ => rfl⟩⟩

def optA (b : Bool) (x : Int) : List Int := match b with | true => [x] | false => []
theorem mkA_opt (a b c d e f g : Bool) : mkA a b c d e f g = optA a 10 ++ [2] ++ optA b 3 ++ optA c 4 ++ optA d 5 ++ optA e 6 ++ optA f 7 ++ [8] ++ optA g 9 := by
  cases a <;> cases b <;> cases c <;> cases d <;> cases e <;> cases f <;> cases g <;> rfl
theorem optA_len (b : Bool) (x : Int) : (optA b x).length ≤ 1 := by cases b <;> simp [optA]
theorem attrs21_c (e : Th Entry) {d : Nat} {K : ARes → BL → Prop} (hr : ∀ r : Th (List Int), r .o = attrsS (e .o) → K (.ret (ints r)) .nil) : CallAt PT r21_Attrs [Entry.av e] d .nil K := by
  refine CallAt.res ?_
  refine r21_Attrs.of rfl rfl ?_
  cbv
  refine go_on 1000 ?_
  cbv
  ((try refine br_rev ?_); (first | refine br_dec (fun h1 => ?_) (fun h1 => ?_) | refine br_ndec (fun h1 => ?_) (fun h1 => ?_) | refine br_nbool (fun h1 => ?_) (fun h1 => ?_) | refine br_bool (fun h1 => ?_) (fun h1 => ?_)); all_goals (try dsimp only at h1); all_goals (try with_reducible replace h1 := zi_lt.1 h1); all_goals (try with_reducible replace h1 := not_zlt h1)) <;> cbv
  · exact ⟨_, .ret (y := ints fun _ => []) (.nsl rfl), hr _ (by unfold attrsS; rw [if_pos h1])⟩
  · refine nil_tmp 3 9000 1 (fun i => intCh fun _ => ([] : List Int).getD (i .o) 0) rfl rfl ?_
    have q10 := optA_len (hasA (e .o) 10) 10
    have q3 := optA_len (hasA (e .o) 3) 3
    have q4 := optA_len (hasA (e .o) 4) 4
    have q5 := optA_len (hasA (e .o) 5) 5
    have q6 := optA_len (hasA (e .o) 6) 6
    have q7 := optA_len (hasA (e .o) 7) 7
    have q9 := optA_len (hasA (e .o) 9) 9
    refine cut_rule (X := Unit) 1000 1000 [1] [1] (fun _ => .cons 3 (.row 9000) .nil) (fun _ => .cons 9000 (rowB 1 intCh 0 fun _ => optA (hasA (e .o) 10) 10) .nil) (fun _ => True) ?_ fun _ _ => ?_
    · cbv
      refine br_dec (fun h2 => ?_) (fun h2 => ?_)
      · have e1 : hasA (e .o) 10 = true := decide_eq_true h2
        cbv
        refine app_one intCh 0 ([]) 10 rfl (fun i hi => rfl) rfl rfl (by decide) ?_
        cbv
        refine ⟨(), trivial, ?_⟩
        cbv
        rw [e1]
        (repeat' (first | exact True.intro | exact Same.refl _ | exact SameB.refl _ | exact ⟨rfl⟩ | exact Same.int rfl | exact Same.str rfl | exact Same.bool rfl | (refine Same.int ?_; simp only [List.length_append, List.length_cons, List.length_nil, zi]; omega) | (refine SameB.row' rfl fun i hi => ?_; first | rfl | exact absurd hi (Nat.not_lt_zero _)) | refine And.intro ?_ ?_ | refine SameB.cells ?_ | exact SameC.nil | refine SameC.cons ?_ ?_ | exact Same.nsl rfl | exact Same.tt rfl | exact Same.ff rfl))
      · have e1 : hasA (e .o) 10 = false := decide_eq_false h2
        cbv
        refine ⟨(), trivial, ?_⟩
        cbv
        rw [e1]
        (repeat' (first | exact True.intro | exact Same.refl _ | exact SameB.refl _ | exact ⟨rfl⟩ | exact Same.int rfl | exact Same.str rfl | exact Same.bool rfl | (refine Same.int ?_; simp only [List.length_append, List.length_cons, List.length_nil, zi]; omega) | (refine SameB.row' rfl fun i hi => ?_; first | rfl | exact absurd hi (Nat.not_lt_zero _)) | refine And.intro ?_ ?_ | refine SameB.cells ?_ | exact SameC.nil | refine SameC.cons ?_ ?_ | exact Same.nsl rfl | exact Same.tt rfl | exact Same.ff rfl))
        all_goals exact SameB.row' (by simp [optA]) fun i hi => by simp [optA]
    cbv
    refine app_one intCh 0 (optA (hasA (e .o) 10) 10) 2 rfl (fun i hi => rfl) rfl rfl (by omega) ?_
    cbv
    refine cut_rule (X := Unit) 1000 1000 [1] [1] (fun _ => .cons 3 (.row 9000) .nil) (fun _ => .cons 9000 (rowB 1 intCh 0 fun _ => optA (hasA (e .o) 10) 10 ++ [2] ++ optA (hasA (e .o) 3) 3) .nil) (fun _ => True) ?_ fun _ _ => ?_
    · cbv
      refine br_ndec (fun h2 => ?_) (fun h2 => ?_)
      · have e1 : hasA (e .o) 3 = true := by show (!decide _) = true; rw [decide_eq_false h2]; rfl
        cbv
        refine app_one intCh 0 (optA (hasA (e .o) 10) 10 ++ [2]) 3 rfl (fun i hi => rfl) rfl rfl (by simp only [List.length_append, List.length_cons, List.length_nil]; omega) ?_
        cbv
        refine ⟨(), trivial, ?_⟩
        cbv
        rw [e1]
        (repeat' (first | exact True.intro | exact Same.refl _ | exact SameB.refl _ | exact ⟨rfl⟩ | exact Same.int rfl | exact Same.str rfl | exact Same.bool rfl | (refine Same.int ?_; simp only [List.length_append, List.length_cons, List.length_nil, zi]; omega) | (refine SameB.row' rfl fun i hi => ?_; first | rfl | exact absurd hi (Nat.not_lt_zero _)) | refine And.intro ?_ ?_ | refine SameB.cells ?_ | exact SameC.nil | refine SameC.cons ?_ ?_ | exact Same.nsl rfl | exact Same.tt rfl | exact Same.ff rfl))
      · have e1 : hasA (e .o) 3 = false := by show (!decide _) = false; rw [decide_eq_true h2]; rfl
        cbv
        refine ⟨(), trivial, ?_⟩
        cbv
        rw [e1]
        (repeat' (first | exact True.intro | exact Same.refl _ | exact SameB.refl _ | exact ⟨rfl⟩ | exact Same.int rfl | exact Same.str rfl | exact Same.bool rfl | (refine Same.int ?_; simp only [List.length_append, List.length_cons, List.length_nil, zi]; omega) | (refine SameB.row' rfl fun i hi => ?_; first | rfl | exact absurd hi (Nat.not_lt_zero _)) | refine And.intro ?_ ?_ | refine SameB.cells ?_ | exact SameC.nil | refine SameC.cons ?_ ?_ | exact Same.nsl rfl | exact Same.tt rfl | exact Same.ff rfl))
        all_goals exact SameB.row' (by simp [optA]) fun i hi => by simp [optA]
    cbv
    refine cut_rule (X := Unit) 1000 1000 [1] [1] (fun _ => .cons 3 (.row 9000) .nil) (fun _ => .cons 9000 (rowB 1 intCh 0 fun _ => optA (hasA (e .o) 10) 10 ++ [2] ++ optA (hasA (e .o) 3) 3 ++ optA (hasA (e .o) 4) 4) .nil) (fun _ => True) ?_ fun _ _ => ?_
    · cbv
      refine br_dec (fun h2 => ?_) (fun h2 => ?_)
      · have e1 : hasA (e .o) 4 = true := (zpos_dec _).symm.trans (decide_eq_true h2)
        cbv
        refine app_one intCh 0 (optA (hasA (e .o) 10) 10 ++ [2] ++ optA (hasA (e .o) 3) 3) 4 rfl (fun i hi => rfl) rfl rfl (by simp only [List.length_append, List.length_cons, List.length_nil]; omega) ?_
        cbv
        refine ⟨(), trivial, ?_⟩
        cbv
        rw [e1]
        (repeat' (first | exact True.intro | exact Same.refl _ | exact SameB.refl _ | exact ⟨rfl⟩ | exact Same.int rfl | exact Same.str rfl | exact Same.bool rfl | (refine Same.int ?_; simp only [List.length_append, List.length_cons, List.length_nil, zi]; omega) | (refine SameB.row' rfl fun i hi => ?_; first | rfl | exact absurd hi (Nat.not_lt_zero _)) | refine And.intro ?_ ?_ | refine SameB.cells ?_ | exact SameC.nil | refine SameC.cons ?_ ?_ | exact Same.nsl rfl | exact Same.tt rfl | exact Same.ff rfl))
      · have e1 : hasA (e .o) 4 = false := (zpos_dec _).symm.trans (decide_eq_false h2)
        cbv
        refine ⟨(), trivial, ?_⟩
        cbv
        rw [e1]
        (repeat' (first | exact True.intro | exact Same.refl _ | exact SameB.refl _ | exact ⟨rfl⟩ | exact Same.int rfl | exact Same.str rfl | exact Same.bool rfl | (refine Same.int ?_; simp only [List.length_append, List.length_cons, List.length_nil, zi]; omega) | (refine SameB.row' rfl fun i hi => ?_; first | rfl | exact absurd hi (Nat.not_lt_zero _)) | refine And.intro ?_ ?_ | refine SameB.cells ?_ | exact SameC.nil | refine SameC.cons ?_ ?_ | exact Same.nsl rfl | exact Same.tt rfl | exact Same.ff rfl))
        all_goals exact SameB.row' (by simp [optA]) fun i hi => by simp [optA]
    cbv
    refine cut_rule (X := Unit) 1000 1000 [1] [1] (fun _ => .cons 3 (.row 9000) .nil) (fun _ => .cons 9000 (rowB 1 intCh 0 fun _ => optA (hasA (e .o) 10) 10 ++ [2] ++ optA (hasA (e .o) 3) 3 ++ optA (hasA (e .o) 4) 4 ++ optA (hasA (e .o) 5) 5) .nil) (fun _ => True) ?_ fun _ _ => ?_
    · cbv
      refine br_dec (fun h2 => ?_) (fun h2 => ?_)
      · have e1 : hasA (e .o) 5 = true := (zpos_dec _).symm.trans (decide_eq_true h2)
        cbv
        refine app_one intCh 0 (optA (hasA (e .o) 10) 10 ++ [2] ++ optA (hasA (e .o) 3) 3 ++ optA (hasA (e .o) 4) 4) 5 rfl (fun i hi => rfl) rfl rfl (by simp only [List.length_append, List.length_cons, List.length_nil]; omega) ?_
        cbv
        refine ⟨(), trivial, ?_⟩
        cbv
        rw [e1]
        (repeat' (first | exact True.intro | exact Same.refl _ | exact SameB.refl _ | exact ⟨rfl⟩ | exact Same.int rfl | exact Same.str rfl | exact Same.bool rfl | (refine Same.int ?_; simp only [List.length_append, List.length_cons, List.length_nil, zi]; omega) | (refine SameB.row' rfl fun i hi => ?_; first | rfl | exact absurd hi (Nat.not_lt_zero _)) | refine And.intro ?_ ?_ | refine SameB.cells ?_ | exact SameC.nil | refine SameC.cons ?_ ?_ | exact Same.nsl rfl | exact Same.tt rfl | exact Same.ff rfl))
      · have e1 : hasA (e .o) 5 = false := (zpos_dec _).symm.trans (decide_eq_false h2)
        cbv
        refine ⟨(), trivial, ?_⟩
        cbv
        rw [e1]
        (repeat' (first | exact True.intro | exact Same.refl _ | exact SameB.refl _ | exact ⟨rfl⟩ | exact Same.int rfl | exact Same.str rfl | exact Same.bool rfl | (refine Same.int ?_; simp only [List.length_append, List.length_cons, List.length_nil, zi]; omega) | (refine SameB.row' rfl fun i hi => ?_; first | rfl | exact absurd hi (Nat.not_lt_zero _)) | refine And.intro ?_ ?_ | refine SameB.cells ?_ | exact SameC.nil | refine SameC.cons ?_ ?_ | exact Same.nsl rfl | exact Same.tt rfl | exact Same.ff rfl))
        all_goals exact SameB.row' (by simp [optA]) fun i hi => by simp [optA]
    cbv
    refine cut_rule (X := Unit) 1000 1000 [1] [1] (fun _ => .cons 3 (.row 9000) .nil) (fun _ => .cons 9000 (rowB 1 intCh 0 fun _ => optA (hasA (e .o) 10) 10 ++ [2] ++ optA (hasA (e .o) 3) 3 ++ optA (hasA (e .o) 4) 4 ++ optA (hasA (e .o) 5) 5 ++ optA (hasA (e .o) 6) 6) .nil) (fun _ => True) ?_ fun _ _ => ?_
    · cbv
      refine br_dec (fun h2 => ?_) (fun h2 => ?_)
      · have e1 : hasA (e .o) 6 = true := (zpos_dec _).symm.trans (decide_eq_true h2)
        cbv
        refine app_one intCh 0 (optA (hasA (e .o) 10) 10 ++ [2] ++ optA (hasA (e .o) 3) 3 ++ optA (hasA (e .o) 4) 4 ++ optA (hasA (e .o) 5) 5) 6 rfl (fun i hi => rfl) rfl rfl (by simp only [List.length_append, List.length_cons, List.length_nil]; omega) ?_
        cbv
        refine ⟨(), trivial, ?_⟩
        cbv
        rw [e1]
        (repeat' (first | exact True.intro | exact Same.refl _ | exact SameB.refl _ | exact ⟨rfl⟩ | exact Same.int rfl | exact Same.str rfl | exact Same.bool rfl | (refine Same.int ?_; simp only [List.length_append, List.length_cons, List.length_nil, zi]; omega) | (refine SameB.row' rfl fun i hi => ?_; first | rfl | exact absurd hi (Nat.not_lt_zero _)) | refine And.intro ?_ ?_ | refine SameB.cells ?_ | exact SameC.nil | refine SameC.cons ?_ ?_ | exact Same.nsl rfl | exact Same.tt rfl | exact Same.ff rfl))
      · have e1 : hasA (e .o) 6 = false := (zpos_dec _).symm.trans (decide_eq_false h2)
        cbv
        refine ⟨(), trivial, ?_⟩
        cbv
        rw [e1]
        (repeat' (first | exact True.intro | exact Same.refl _ | exact SameB.refl _ | exact ⟨rfl⟩ | exact Same.int rfl | exact Same.str rfl | exact Same.bool rfl | (refine Same.int ?_; simp only [List.length_append, List.length_cons, List.length_nil, zi]; omega) | (refine SameB.row' rfl fun i hi => ?_; first | rfl | exact absurd hi (Nat.not_lt_zero _)) | refine And.intro ?_ ?_ | refine SameB.cells ?_ | exact SameC.nil | refine SameC.cons ?_ ?_ | exact Same.nsl rfl | exact Same.tt rfl | exact Same.ff rfl))
        all_goals exact SameB.row' (by simp [optA]) fun i hi => by simp [optA]
    cbv
    refine cut_rule (X := Unit) 1000 1000 [1] [1] (fun _ => .cons 3 (.row 9000) .nil) (fun _ => .cons 9000 (rowB 1 intCh 0 fun _ => optA (hasA (e .o) 10) 10 ++ [2] ++ optA (hasA (e .o) 3) 3 ++ optA (hasA (e .o) 4) 4 ++ optA (hasA (e .o) 5) 5 ++ optA (hasA (e .o) 6) 6 ++ optA (hasA (e .o) 7) 7) .nil) (fun _ => True) ?_ fun _ _ => ?_
    · cbv
      refine br_ndec (fun h2 => ?_) (fun h2 => ?_)
      · have e1 : hasA (e .o) 7 = true := by show (!decide _) = true; rw [decide_eq_false h2]; rfl
        cbv
        refine app_one intCh 0 (optA (hasA (e .o) 10) 10 ++ [2] ++ optA (hasA (e .o) 3) 3 ++ optA (hasA (e .o) 4) 4 ++ optA (hasA (e .o) 5) 5 ++ optA (hasA (e .o) 6) 6) 7 rfl (fun i hi => rfl) rfl rfl (by simp only [List.length_append, List.length_cons, List.length_nil]; omega) ?_
        cbv
        refine ⟨(), trivial, ?_⟩
        cbv
        rw [e1]
        (repeat' (first | exact True.intro | exact Same.refl _ | exact SameB.refl _ | exact ⟨rfl⟩ | exact Same.int rfl | exact Same.str rfl | exact Same.bool rfl | (refine Same.int ?_; simp only [List.length_append, List.length_cons, List.length_nil, zi]; omega) | (refine SameB.row' rfl fun i hi => ?_; first | rfl | exact absurd hi (Nat.not_lt_zero _)) | refine And.intro ?_ ?_ | refine SameB.cells ?_ | exact SameC.nil | refine SameC.cons ?_ ?_ | exact Same.nsl rfl | exact Same.tt rfl | exact Same.ff rfl))
      · have e1 : hasA (e .o) 7 = false := by show (!decide _) = false; rw [decide_eq_true h2]; rfl
        cbv
        refine ⟨(), trivial, ?_⟩
        cbv
        rw [e1]
        (repeat' (first | exact True.intro | exact Same.refl _ | exact SameB.refl _ | exact ⟨rfl⟩ | exact Same.int rfl | exact Same.str rfl | exact Same.bool rfl | (refine Same.int ?_; simp only [List.length_append, List.length_cons, List.length_nil, zi]; omega) | (refine SameB.row' rfl fun i hi => ?_; first | rfl | exact absurd hi (Nat.not_lt_zero _)) | refine And.intro ?_ ?_ | refine SameB.cells ?_ | exact SameC.nil | refine SameC.cons ?_ ?_ | exact Same.nsl rfl | exact Same.tt rfl | exact Same.ff rfl))
        all_goals exact SameB.row' (by simp [optA]) fun i hi => by simp [optA]
    cbv
    refine app_one intCh 0 (optA (hasA (e .o) 10) 10 ++ [2] ++ optA (hasA (e .o) 3) 3 ++ optA (hasA (e .o) 4) 4 ++ optA (hasA (e .o) 5) 5 ++ optA (hasA (e .o) 6) 6 ++ optA (hasA (e .o) 7) 7) 8 rfl (fun i hi => rfl) rfl rfl (by simp only [List.length_append, List.length_cons, List.length_nil]; omega) ?_
    cbv
    refine cut_rule (X := Unit) 1000 1000 [1] [1] (fun _ => .cons 3 (.row 9000) .nil) (fun _ => .cons 9000 (rowB 1 intCh 0 fun _ => optA (hasA (e .o) 10) 10 ++ [2] ++ optA (hasA (e .o) 3) 3 ++ optA (hasA (e .o) 4) 4 ++ optA (hasA (e .o) 5) 5 ++ optA (hasA (e .o) 6) 6 ++ optA (hasA (e .o) 7) 7 ++ [8] ++ optA (hasA (e .o) 9) 9) .nil) (fun _ => True) ?_ fun _ _ => ?_
    · cbv
      refine br_ndec (fun h2 => ?_) (fun h2 => ?_)
      · have e1 : hasA (e .o) 9 = true := by show (!decide _) = true; rw [decide_eq_false h2]; rfl
        cbv
        refine app_one intCh 0 (optA (hasA (e .o) 10) 10 ++ [2] ++ optA (hasA (e .o) 3) 3 ++ optA (hasA (e .o) 4) 4 ++ optA (hasA (e .o) 5) 5 ++ optA (hasA (e .o) 6) 6 ++ optA (hasA (e .o) 7) 7 ++ [8]) 9 rfl (fun i hi => rfl) rfl rfl (by simp only [List.length_append, List.length_cons, List.length_nil]; omega) ?_
        cbv
        refine ⟨(), trivial, ?_⟩
        cbv
        rw [e1]
        (repeat' (first | exact True.intro | exact Same.refl _ | exact SameB.refl _ | exact ⟨rfl⟩ | exact Same.int rfl | exact Same.str rfl | exact Same.bool rfl | (refine Same.int ?_; simp only [List.length_append, List.length_cons, List.length_nil, zi]; omega) | (refine SameB.row' rfl fun i hi => ?_; first | rfl | exact absurd hi (Nat.not_lt_zero _)) | refine And.intro ?_ ?_ | refine SameB.cells ?_ | exact SameC.nil | refine SameC.cons ?_ ?_ | exact Same.nsl rfl | exact Same.tt rfl | exact Same.ff rfl))
      · have e1 : hasA (e .o) 9 = false := by show (!decide _) = false; rw [decide_eq_true h2]; rfl
        cbv
        refine ⟨(), trivial, ?_⟩
        cbv
        rw [e1]
        (repeat' (first | exact True.intro | exact Same.refl _ | exact SameB.refl _ | exact ⟨rfl⟩ | exact Same.int rfl | exact Same.str rfl | exact Same.bool rfl | (refine Same.int ?_; simp only [List.length_append, List.length_cons, List.length_nil, zi]; omega) | (refine SameB.row' rfl fun i hi => ?_; first | rfl | exact absurd hi (Nat.not_lt_zero _)) | refine And.intro ?_ ?_ | refine SameB.cells ?_ | exact SameC.nil | refine SameC.cons ?_ ?_ | exact Same.nsl rfl | exact Same.tt rfl | exact Same.ff rfl))
        all_goals exact SameB.row' (by simp [optA]) fun i hi => by simp [optA]
    cbv
    exact ⟨_, .ret (y := ints fun _ => attrsS (e .o)) (.sl (by unfold attrsS; rw [if_neg h1, filter_mkA _ rfl rfl, mkA_opt]) fun i hi => by unfold attrsS; rw [if_neg h1, filter_mkA _ rfl rfl, mkA_opt]; rfl), hr _ rfl⟩
end Go.Proofs.Ytgjlkcdnlndlnaa
/- Sameness of what is said of nodes. -/
namespace Go.Proofs.Ytgjlkcdnlndlnaa
open Go Go.Proofs.Ytgjlkcdnlndlnaa.Sx F
set_option linter.unusedVariables false
set_option linter.unusedSimpArgs false

theorem sameA_c (a b : Th (List Ace)) (ha : short (a .o)) {d : Nat} {K : ARes → BL → Prop} (hr : ∀ r : Th Bool, (r .o = true ↔ a .o = b .o) → K (.ret (.bool r)) .nil) : CallAt PT r9_SameAcl [aces a, aces b] d .nil K := by
  refine CallAt.res ?_
  refine r9_SameAcl.of rfl rfl ?_
  cbv
  have no : ∀ {x : AV}, a .o ≠ b .o → Same x (.bool fun _ => false) → ∃ r', SameR (.ret x) r' ∧ K r' .nil := fun h1 h2 => ⟨_, .ret h2, hr _ ⟨fun q => (by cases q), fun q => (h1 q).elim⟩⟩
  refine br_ndec (fun h1 => ?_) (fun h1 => ?_)
  · cbv
    exact no (fun q => h1 (by rw [q])) (.ff rfl)
  · have h1 : (a .o).length = (b .o).length := zi_inj.1 h1
    cbv
    refine loop_rule (X := Nat) 1000 [0, 1] [] (fun k => .cons 5 (.int .i64 fun _ => zi k) .nil) (fun _ => .nil) (fun k => k ≤ (a .o).length ∧ ∀ j, j < k → (a .o).getD j Ace.z = (b .o).getD j Ace.z) (fun k => (a .o).length - k) 0 ?_ ⟨Nat.zero_le _, fun j hj => by omega⟩ ?_
    · cbv
      (repeat' (first | exact True.intro | exact Same.refl _ | exact SameB.refl _ | exact ⟨rfl⟩ | exact Same.int rfl | exact Same.str rfl | exact Same.bool rfl | (refine Same.int ?_; simp only [List.length_append, List.length_cons, List.length_nil, zi]; omega) | (refine SameB.row' rfl fun i hi => ?_; first | rfl | exact absurd hi (Nat.not_lt_zero _)) | refine And.intro ?_ ?_ | refine SameB.cells ?_ | exact SameC.nil | refine SameC.cons ?_ ?_ | exact Same.nsl rfl | exact Same.tt rfl | exact Same.ff rfl))
    · rintro k ⟨hk, heq⟩
      have hz := zi_toNat k
      cbv
      ((try refine br_rev ?_); (first | refine br_dec (fun h2 => ?_) (fun h2 => ?_) | refine br_ndec (fun h2 => ?_) (fun h2 => ?_) | refine br_nbool (fun h2 => ?_) (fun h2 => ?_) | refine br_bool (fun h2 => ?_) (fun h2 => ?_)); all_goals (try dsimp only at h2); all_goals (try with_reducible replace h2 := zi_lt.1 h2); all_goals (try with_reducible replace h2 := not_zlt h2))
      · cbv
        refine safe ⟨zi_nonneg _, zi_lt.2 h2⟩ ?_
        refine safe ⟨zi_nonneg _, zi_lt.2 (by omega)⟩ ?_
        refine br_nbool (fun h3 => ?_) (fun h3 => ?_)
        · cbv
          refine no (list_ne_getD Ace.z k fun q => ?_) (.ff rfl)
          rw [hz, q] at h3
          simp at h3
        · rw [hz] at h3
          simp only [Bool.and_eq_true, decide_eq_true_eq] at h3
          have h3' : (a .o).getD k Ace.z = (b .o).getD k Ace.z := by
            have e1 := h3.1
            have e2 := h3.2.1
            have e3 := h3.2.2.1
            generalize (a .o).getD k Ace.z = p at e1 e2 e3 ⊢
            generalize (b .o).getD k Ace.z = q at e1 e2 e3 ⊢
            cases p; cases q
            simp only at e1 e2 e3
            rw [e1, e2, e3]
          cbv
          refine ⟨k + 1, ⟨h2, fun j hj => ?_⟩, by omega, ?_⟩
          · by_cases e : j = k
            · rw [e]; exact h3'
            · exact heq j (by omega)
          · cbv
            rw [zi_succ (by unfold short at ha; omega)]
            (repeat' (first | exact True.intro | exact Same.refl _ | exact SameB.refl _ | exact ⟨rfl⟩ | exact Same.int rfl | exact Same.str rfl | exact Same.bool rfl | (refine Same.int ?_; simp only [List.length_append, List.length_cons, List.length_nil, zi]; omega) | (refine SameB.row' rfl fun i hi => ?_; first | rfl | exact absurd hi (Nat.not_lt_zero _)) | refine And.intro ?_ ?_ | refine SameB.cells ?_ | exact SameC.nil | refine SameC.cons ?_ ?_ | exact Same.nsl rfl | exact Same.tt rfl | exact Same.ff rfl))
      · cbv
        exact ⟨_, .ret (y := .bool fun _ => true) (.tt rfl), hr _ ⟨fun _ => list_ext_getD Ace.z h1 fun j hj => heq j (by omega), fun _ => rfl⟩⟩

theorem sameM_c (a b : Th Meta) (h1 : short (a .o).acl) (h2 : short (a .o).dflt) (h3 : short (a .o).xs) {d : Nat} {K : ARes → BL → Prop} (hr : ∀ r : Th Bool, (r .o = true ↔ a .o = b .o) → K (.ret (.bool r)) .nil) :
    CallAt PT r9_SameMeta [Meta.av a, Meta.av b] d .nil K := by
  refine CallAt.res ?_
  refine r9_SameMeta.of rfl rfl ?_
  have no : ∀ {x : AV}, a .o ≠ b .o → Same x (.bool fun _ => false) → ∃ r', SameR (.ret x) r' ∧ K r' .nil := fun h1 h2 => ⟨_, .ret h2, hr _ ⟨fun q => (by cases q), fun q => (h1 q).elim⟩⟩
  cbv
  refine br_dec (fun q1 => ?_) (fun q1 => ?_)
  rotate_left
  · cbv
    exact no (fun q => q1 (by rw [q])) (.ff rfl)
  cbv
  refine br_dec (fun q2 => ?_) (fun q2 => ?_)
  rotate_left
  · cbv
    exact no (fun q => q2 (by rw [q])) (.ff rfl)
  cbv
  refine br_dec (fun q3 => ?_) (fun q3 => ?_)
  rotate_left
  · cbv
    exact no (fun q => q3 (by rw [q])) (.ff rfl)
  cbv
  refine br_bool (fun q4 => ?_) (fun q4 => ?_)
  rotate_left
  · cbv
    exact no (fun q => by rw [q] at q4; simp at q4) (.ff rfl)
  simp only [Bool.and_eq_true, decide_eq_true_eq] at q4
  cbv
  refine sameA_c (fun _ => (a .o).acl) (fun _ => (b .o).acl) h1 fun rq5 hrq5 => ?_
  cbv
  refine br_bool (fun q5 => ?_) (fun q5 => ?_)
  rotate_left
  · cbv
    exact no (fun q => by rw [hrq5.2 (by rw [q])] at q5; cases q5) (.ff rfl)
  replace q5 : (a .o).acl = (b .o).acl := hrq5.1 q5
  cbv
  refine sameA_c (fun _ => (a .o).dflt) (fun _ => (b .o).dflt) h2 fun rq6 hrq6 => ?_
  cbv
  refine br_bool (fun q6 => ?_) (fun q6 => ?_)
  rotate_left
  · cbv
    exact no (fun q => by rw [hrq6.2 (by rw [q])] at q6; cases q6) (.ff rfl)
  replace q6 : (a .o).dflt = (b .o).dflt := hrq6.1 q6
  cbv
  refine sameX_c (fun _ => (a .o).xs) (fun _ => (b .o).xs) h3 fun rq7 hrq7 => ?_
  cbv
  refine br_bool (fun q7 => ?_) (fun q7 => ?_)
  rotate_left
  · cbv
    exact no (fun q => by rw [hrq7.2 (by rw [q])] at q7; cases q7) (.ff rfl)
  replace q7 : (a .o).xs = (b .o).xs := hrq7.1 q7
  cbv
  refine br_bool (fun q8 => ?_) (fun q8 => ?_)
  rotate_left
  · cbv
    exact no (fun q => by rw [q] at q8; simp at q8) (.ff rfl)
  simp only [Bool.and_eq_true, decide_eq_true_eq, beq_iff_eq] at q8
  cbv
  refine ⟨_, .ret (Same.refl _), hr _ ⟨fun q9 => ?_, fun q => ?_⟩⟩
  · replace q9 : (a .o).flags = (b .o).flags := of_decide_eq_true q9
    have c1 := q8.1
    have c2 := q8.2.1
    have c3 := q8.2.2.1
    have c4 := q8.2.2.2.1
    have c5 := q8.2.2.2.2.1
    have m4 := q4.1
    have m5 := q4.2.1
    generalize a .o = x at *
    generalize b .o = y at *
    obtain ⟨_, _, _, _, _, _, _, _, ⟨_, _, _, _, _⟩, _⟩ := x
    obtain ⟨_, _, _, _, _, _, _, _, ⟨_, _, _, _, _⟩, _⟩ := y
    simp only at *
    subst q1 q2 q3 m4 m5 q5 q6 q7 c1 c2 c3 c4 c5 q9
    rfl
  · show decide ((a .o).flags = (b .o).flags) = true
    rw [q]; simp
end Go.Proofs.Ytgjlkcdnlndlnaa
/- What may be said of a node, and whether two are one: walked, exact. -/
namespace Go.Proofs.Ytgjlkcdnlndlnaa
open Go Go.Proofs.Ytgjlkcdnlndlnaa.Sx F
set_option linter.unusedVariables false
set_option linter.unusedSimpArgs false

structure MetaOk (m : Meta) (k : Int) : Prop where
  kind : k = 1 ∨ 3 ≤ k ∧ k ≤ 7
  mode : 0 ≤ m.mode ∧ m.mode ≤ 4095
  uid : IdOk m.uid
  gid : IdOk m.gid
  stamp : StampOk m.sec m.nano
  flags : mayF m.flags = true
  xs : XsOk m.xs
  acl : m.acl = [] ∨ AclOk m.acl ∧ modeA m.acl = band m.mode 511
  dflt : m.dflt = [] ∨ k = 6 ∧ AclOk m.dflt
  caps : CapsOk m.caps
  capk : k = 1 ∨ m.caps = Caps.zero
  sym : k ≠ 3 ∨ m.mode = 511 ∧ m.acl = [] ∧ m.flags = 0
structure MetaShort (m : Meta) : Prop where
  acl : short m.acl
  dflt : short m.dflt
  xs : short m.xs
  long : longX m.xs
/-! ### sameness -/
theorem eqA_c (a b : Th (List Ace)) (ha : short (a .o)) {d : Nat} {K : ARes → BL → Prop} (hr : ∀ r : Th Bool, (r .o = true ↔ a .o = b .o) → K (.ret (.bool r)) .nil) : CallAt PT slices_Equal_api_Ace_api_Ace [aces a, aces b] d .nil K := by
  refine CallAt.res ?_
  refine slices_Equal_api_Ace_api_Ace.of rfl rfl ?_
  cbv
  have no : ∀ {x : AV}, a .o ≠ b .o → Same x (.bool fun _ => false) → ∃ r', SameR (.ret x) r' ∧ K r' .nil := fun h1 h2 => ⟨_, .ret h2, hr _ ⟨fun q => (by cases q), fun q => (h1 q).elim⟩⟩
  refine br_ndec (fun h1 => ?_) (fun h1 => ?_)
  · cbv
    exact no (fun q => h1 (by rw [q])) (.ff rfl)
  · have h1 : (a .o).length = (b .o).length := zi_inj.1 h1
    cbv
    refine loop_at (X := Nat) 1000 [0, 1, 12] [] (fun _ k => .cons 13 (.int .i64 fun _ => zi k) .nil) (fun _ _ => .nil) (fun k => k ≤ (a .o).length ∧ ∀ j, j < k → (a .o).getD j Ace.z = (b .o).getD j Ace.z) (fun k => (a .o).length - k) 0 ?_ ⟨Nat.zero_le _, fun j hj => by omega⟩ ?_
    · cbv
      (repeat' (first | exact True.intro | exact Same.refl _ | exact SameB.refl _ | exact ⟨rfl⟩ | exact Same.int rfl | exact Same.str rfl | exact Same.bool rfl | (refine Same.int ?_; simp only [List.length_append, List.length_cons, List.length_nil, zi]; omega) | (refine SameB.row' rfl fun i hi => ?_; first | rfl | exact absurd hi (Nat.not_lt_zero _)) | refine And.intro ?_ ?_ | refine SameB.cells ?_ | exact SameC.nil | refine SameC.cons ?_ ?_ | exact Same.nsl rfl | exact Same.tt rfl | exact Same.ff rfl))
    · rintro k ⟨hk, heq⟩
      have hz := zi_toNat k
      cbv
      ((try refine br_rev ?_); (first | refine br_dec (fun h2 => ?_) (fun h2 => ?_) | refine br_ndec (fun h2 => ?_) (fun h2 => ?_) | refine br_nbool (fun h2 => ?_) (fun h2 => ?_) | refine br_bool (fun h2 => ?_) (fun h2 => ?_)); all_goals (try dsimp only at h2); all_goals (try with_reducible replace h2 := zi_lt.1 h2); all_goals (try with_reducible replace h2 := not_zlt h2))
      · cbv
        refine safe ⟨zi_nonneg _, zi_lt.2 h2⟩ ?_
        refine safe ⟨zi_nonneg _, zi_lt.2 (by omega)⟩ ?_
        refine br_nbool (fun h3 => ?_) (fun h3 => ?_)
        · cbv
          refine no (list_ne_getD Ace.z k fun q => ?_) (.ff rfl)
          rw [hz, q] at h3
          simp at h3
        · rw [hz] at h3
          simp only [Bool.and_eq_true, decide_eq_true_eq] at h3
          have h3' : (a .o).getD k Ace.z = (b .o).getD k Ace.z := by
            have e1 := h3.1
            have e2 := h3.2.1
            have e3 := h3.2.2.1
            generalize (a .o).getD k Ace.z = p at e1 e2 e3 ⊢
            generalize (b .o).getD k Ace.z = q at e1 e2 e3 ⊢
            cases p; cases q
            simp only at e1 e2 e3
            rw [e1, e2, e3]
          cbv
          refine ⟨k + 1, ⟨h2, fun j hj => ?_⟩, by omega, ?_⟩
          · by_cases e : j = k
            · rw [e]; exact h3'
            · exact heq j (by omega)
          · cbv
            rw [zi_succ (by unfold short at ha; omega)]
            (repeat' (first | exact True.intro | exact Same.refl _ | exact SameB.refl _ | exact ⟨rfl⟩ | exact Same.int rfl | exact Same.str rfl | exact Same.bool rfl | (refine Same.int ?_; simp only [List.length_append, List.length_cons, List.length_nil, zi]; omega) | (refine SameB.row' rfl fun i hi => ?_; first | rfl | exact absurd hi (Nat.not_lt_zero _)) | refine And.intro ?_ ?_ | refine SameB.cells ?_ | exact SameC.nil | refine SameC.cons ?_ ?_ | exact Same.nsl rfl | exact Same.tt rfl | exact Same.ff rfl))
      · cbv
        exact ⟨_, .ret (y := .bool fun _ => true) (.tt rfl), hr _ ⟨fun _ => list_ext_getD Ace.z h1 fun j hj => heq j (by omega), fun _ => rfl⟩⟩
theorem eqX_c (a b : Th (List Xattr)) (ha : short (a .o)) {d : Nat} {K : ARes → BL → Prop} (hr : ∀ r : Th Bool, (r .o = true ↔ a .o = b .o) → K (.ret (.bool r)) .nil) : CallAt PT slices_Equal_api_Xattr_api_Xattr [xattrs a, xattrs b] d .nil K := by
  refine CallAt.res ?_
  refine slices_Equal_api_Xattr_api_Xattr.of rfl rfl ?_
  cbv
  have no : ∀ {x : AV}, a .o ≠ b .o → Same x (.bool fun _ => false) → ∃ r', SameR (.ret x) r' ∧ K r' .nil := fun h1 h2 => ⟨_, .ret h2, hr _ ⟨fun q => (by cases q), fun q => (h1 q).elim⟩⟩
  refine br_ndec (fun h1 => ?_) (fun h1 => ?_)
  · cbv
    exact no (fun q => h1 (by rw [q])) (.ff rfl)
  · have h1 : (a .o).length = (b .o).length := zi_inj.1 h1
    cbv
    refine loop_at (X := Nat) 1000 [0, 1, 12] [] (fun _ k => .cons 13 (.int .i64 fun _ => zi k) .nil) (fun _ _ => .nil) (fun k => k ≤ (a .o).length ∧ ∀ j, j < k → (a .o).getD j Xattr.z = (b .o).getD j Xattr.z) (fun k => (a .o).length - k) 0 ?_ ⟨Nat.zero_le _, fun j hj => by omega⟩ ?_
    · cbv
      (repeat' (first | exact True.intro | exact Same.refl _ | exact SameB.refl _ | exact ⟨rfl⟩ | exact Same.int rfl | exact Same.str rfl | exact Same.bool rfl | (refine Same.int ?_; simp only [List.length_append, List.length_cons, List.length_nil, zi]; omega) | (refine SameB.row' rfl fun i hi => ?_; first | rfl | exact absurd hi (Nat.not_lt_zero _)) | refine And.intro ?_ ?_ | refine SameB.cells ?_ | exact SameC.nil | refine SameC.cons ?_ ?_ | exact Same.nsl rfl | exact Same.tt rfl | exact Same.ff rfl))
    · rintro k ⟨hk, heq⟩
      have hz := zi_toNat k
      cbv
      ((try refine br_rev ?_); (first | refine br_dec (fun h2 => ?_) (fun h2 => ?_) | refine br_ndec (fun h2 => ?_) (fun h2 => ?_) | refine br_nbool (fun h2 => ?_) (fun h2 => ?_) | refine br_bool (fun h2 => ?_) (fun h2 => ?_)); all_goals (try dsimp only at h2); all_goals (try with_reducible replace h2 := zi_lt.1 h2); all_goals (try with_reducible replace h2 := not_zlt h2))
      · cbv
        refine safe ⟨zi_nonneg _, zi_lt.2 h2⟩ ?_
        refine safe ⟨zi_nonneg _, zi_lt.2 (by omega)⟩ ?_
        refine br_nbool (fun h3 => ?_) (fun h3 => ?_)
        · cbv
          refine no (list_ne_getD Xattr.z k fun q => ?_) (.ff rfl)
          rw [hz, q] at h3
          simp at h3
        · rw [hz] at h3
          simp only [Bool.and_eq_true, decide_eq_true_eq] at h3
          have h3' : (a .o).getD k Xattr.z = (b .o).getD k Xattr.z := by
            have e1 := h3.1
            have e2 := h3.2.1
            generalize (a .o).getD k Xattr.z = p at e1 e2 ⊢
            generalize (b .o).getD k Xattr.z = q at e1 e2 ⊢
            cases p; cases q
            simp only at e1 e2
            rw [e1, e2]
          cbv
          refine ⟨k + 1, ⟨h2, fun j hj => ?_⟩, by omega, ?_⟩
          · by_cases e : j = k
            · rw [e]; exact h3'
            · exact heq j (by omega)
          · cbv
            rw [zi_succ (by unfold short at ha; omega)]
            (repeat' (first | exact True.intro | exact Same.refl _ | exact SameB.refl _ | exact ⟨rfl⟩ | exact Same.int rfl | exact Same.str rfl | exact Same.bool rfl | (refine Same.int ?_; simp only [List.length_append, List.length_cons, List.length_nil, zi]; omega) | (refine SameB.row' rfl fun i hi => ?_; first | rfl | exact absurd hi (Nat.not_lt_zero _)) | refine And.intro ?_ ?_ | refine SameB.cells ?_ | exact SameC.nil | refine SameC.cons ?_ ?_ | exact Same.nsl rfl | exact Same.tt rfl | exact Same.ff rfl))
      · cbv
        exact ⟨_, .ret (y := .bool fun _ => true) (.tt rfl), hr _ ⟨fun _ => list_ext_getD Xattr.z h1 fun j hj => heq j (by omega), fun _ => rfl⟩⟩
theorem asame_c (a b : Th (List Ace)) (ha : short (a .o)) {d : Nat} {K : ARes → BL → Prop} (hr : ∀ r : Th Bool, (r .o = true ↔ a .o = b .o) → K (.ret (.bool r)) .nil) : CallAt PT acl_Same [aces a, aces b] d .nil K := by
  refine acl_Same.of rfl rfl ?_
  cbv
  refine eqA_c a b ha fun r h => ?_
  cbv
  exact hr _ h
theorem xsame_c (a b : Th (List Xattr)) (ha : short (a .o)) {d : Nat} {K : ARes → BL → Prop} (hr : ∀ r : Th Bool, (r .o = true ↔ a .o = b .o) → K (.ret (.bool r)) .nil) : CallAt PT xattr_Same [xattrs a, xattrs b] d .nil K := by
  refine xattr_Same.of rfl rfl ?_
  cbv
  refine eqX_c a b ha fun r h => ?_
  cbv
  exact hr _ h
theorem meta_ext {p q : Meta} (h1 : p.mode = q.mode) (h2 : p.uid = q.uid) (h3 : p.gid = q.gid) (h4 : p.sec = q.sec) (h5 : p.nano = q.nano) (h6 : p.acl = q.acl) (h7 : p.dflt = q.dflt) (h8 : p.xs = q.xs) (h9 : p.caps.ver = q.caps.ver) (h10 : p.caps.perm = q.caps.perm) (h11 : p.caps.inh = q.caps.inh) (h12 : p.caps.eff = q.caps.eff) (h13 : p.caps.root = q.caps.root) (h14 : p.flags = q.flags) : p = q := by
  obtain ⟨a1, a2, a3, a4, a5, a6, a7, a8, ⟨a9, a10, a11, a12, a13⟩, a14⟩ := p
  obtain ⟨b1, b2, b3, b4, b5, b6, b7, b8, ⟨b9, b10, b11, b12, b13⟩, b14⟩ := q
  dsimp only at *
  subst h1 h2 h3 h4 h5 h6 h7 h8 h9 h10 h11 h12 h13 h14
  rfl
theorem msame_c (a b : Th Meta) (h1 : short (a .o).acl) (h2 : short (a .o).dflt) (h3 : short (a .o).xs) {d : Nat} {K : ARes → BL → Prop} (hr : ∀ r : Th Bool, (r .o = true ↔ a .o = b .o) → K (.ret (.bool r)) .nil) :
    CallAt PT meta_Same [Meta.av a, Meta.av b] d .nil K := by
  refine CallAt.res ?_
  refine meta_Same.of rfl rfl ?_
  have no : ∀ {x : AV}, a .o ≠ b .o → Same x (.bool fun _ => false) → ∃ r', SameR (.ret x) r' ∧ K r' .nil := fun h1 h2 => ⟨_, .ret h2, hr _ ⟨fun q => (by cases q), fun q => (h1 q).elim⟩⟩
  cbv
  refine asame_c (fun _ => (a .o).acl) (fun _ => (b .o).acl) h1 fun rq5 hrq5 => ?_
  cbv
  refine br_bool (fun q5 => ?_) (fun q5 => ?_)
  rotate_left
  · cbv
    exact no (fun q => by rw [hrq5.2 (by rw [q])] at q5; cases q5) (.ff rfl)
  replace q5 : (a .o).acl = (b .o).acl := hrq5.1 q5
  cbv
  refine asame_c (fun _ => (a .o).dflt) (fun _ => (b .o).dflt) h2 fun rq6 hrq6 => ?_
  cbv
  refine br_bool (fun q6 => ?_) (fun q6 => ?_)
  rotate_left
  · cbv
    exact no (fun q => by rw [hrq6.2 (by rw [q])] at q6; cases q6) (.ff rfl)
  replace q6 : (a .o).dflt = (b .o).dflt := hrq6.1 q6
  cbv
  refine xsame_c (fun _ => (a .o).xs) (fun _ => (b .o).xs) h3 fun rq7 hrq7 => ?_
  cbv
  refine br_bool (fun q7 => ?_) (fun q7 => ?_)
  rotate_left
  · cbv
    exact no (fun q => by rw [hrq7.2 (by rw [q])] at q7; cases q7) (.ff rfl)
  replace q7 : (a .o).xs = (b .o).xs := hrq7.1 q7
  cbv
  refine br_dec (fun q1 => ?_) (fun q1 => ?_)
  rotate_left
  · cbv
    exact no (fun q => q1 (by rw [q])) (.ff rfl)
  cbv
  refine br_dec (fun q2 => ?_) (fun q2 => ?_)
  rotate_left
  · cbv
    exact no (fun q => q2 (by rw [q])) (.ff rfl)
  cbv
  refine br_dec (fun q3 => ?_) (fun q3 => ?_)
  rotate_left
  · cbv
    exact no (fun q => q3 (by rw [q])) (.ff rfl)
  cbv
  refine br_bool (fun q4 => ?_) (fun q4 => ?_)
  rotate_left
  · cbv
    exact no (fun q => by rw [q] at q4; simp at q4) (.ff rfl)
  simp only [Bool.and_eq_true, decide_eq_true_eq] at q4
  cbv
  refine br_bool (fun q8 => ?_) (fun q8 => ?_)
  rotate_left
  · cbv
    exact no (fun q => by rw [q] at q8; simp at q8) (.ff rfl)
  simp only [Bool.and_eq_true, decide_eq_true_eq, beq_iff_eq] at q8
  cbv
  refine ⟨_, .ret (.refl _), hr _ ⟨fun q9 => ?_, fun q => decide_eq_true (by rw [q])⟩⟩
  have q9 : (a .o).flags = (b .o).flags := of_decide_eq_true q9
  have q1 : (a .o).mode = (b .o).mode := q1
  have q2 : (a .o).uid = (b .o).uid := q2
  have q3 : (a .o).gid = (b .o).gid := q3
  obtain ⟨q41, q42, _⟩ := q4
  obtain ⟨q81, q82, q83, q84, q85, _⟩ := q8
  exact meta_ext q1 q2 q3 q41 q42 q5 q6 q7 q81 q82 q83 q84 q85 q9
/-! ### what may be -/
def mayNotV (s : Th (List UInt8)) : AV := .ifc 110 (.agg (.cons (.str s) .nil))
theorem must_c (b : Th Bool) (s : Th (List UInt8)) {d : Nat} {K : ARes → BL → Prop} (hr : b .o = true → K (.ret (.tup .nil)) .nil) (hp : b .o = false → K (.pan (mayNotV s)) .nil) : CallAt PT meta_must [.bool b, .str s] d .nil K := by
  refine meta_must.of rfl rfl ?_
  cbv
  refine br_nbool (fun h => ?_) (fun h => ?_)
  · cbv
    exact hp h
  · cbv
    exact hr h
theorem must_tt {s : Th (List UInt8)} {d : Nat} {K : ARes → BL → Prop} (hr : K (.ret (.tup .nil)) .nil) : CallAt PT meta_must [.tt, .str s] d .nil K := by
  refine meta_must.of rfl rfl ?_
  cbv
  exact hr
theorem must_ff {s : Th (List UInt8)} {d : Nat} {K : ARes → BL → Prop} (hp : K (.pan (mayNotV s)) .nil) : CallAt PT meta_must [.ff, .str s] d .nil K := by
  refine meta_must.of rfl rfl ?_
  cbv
  exact hp
theorem capz (c : Caps) : (decide (c.ver = 0) && (decide (c.perm = 0) && (decide (c.inh = 0) && ((c.eff == false) && (decide (c.root = 0) && true))))) = true ↔ c = Caps.zero := Caps.zero_iff c
theorem look_c (m : Th Meta) (k : Th Int) (hs : MetaShort (m .o)) {d : Nat} {K : ARes → BL → Prop} (hr : MetaOk (m .o) (k .o) → K (.ret (.tup .nil)) .nil) (hp : ¬ MetaOk (m .o) (k .o) → ∀ s, K (.pan (mayNotV s)) .nil) : CallAt PT meta_look [Meta.av m, .int .i64 k] d .nil K := by
  refine meta_look.of rfl rfl ?_
  cbv
  -- the kind
  refine br_rev (br_dec (fun a1 => ?_) (fun a1 => ?_))
  focus
    have a1 : k .o = 1 := a1
    have hK : k .o = 1 ∨ 3 ≤ k .o ∧ k .o ≤ 7 := .inl a1
    cbv
    refine must_tt ?_
    cbv
  rotate_left
  focus
    have a1 : ¬ k .o = 1 := a1
    cbv
    refine br_dec (fun a2 => ?_) (fun a2 => ?_)
    rotate_left
    focus
      cbv
      refine must_ff ?_
      cbv
      exact hp (fun q => by have a2 : ¬ 3 ≤ k .o := a2; have := q.kind; omega) _
    have a2 : 3 ≤ k .o := a2
    cbv
    refine must_c _ _ (fun a3 => ?_) (fun a3 => ?_)
    rotate_left
    focus
      cbv
      exact hp (fun q => by have a3 : ¬ k .o ≤ 7 := of_decide_eq_false a3; have := q.kind; omega) _
    have a3 : k .o ≤ 7 := of_decide_eq_true a3
    have hK : k .o = 1 ∨ 3 ≤ k .o ∧ k .o ≤ 7 := .inr ⟨a2, a3⟩
    cbv
  rotate_left
  all_goals
    -- the mode
    refine br_dec (fun b1 => ?_) (fun b1 => ?_)
    rotate_left
    focus
      cbv
      refine must_ff ?_
      cbv
      exact hp (fun q => b1 q.mode.1) _
    cbv
    refine must_c _ _ (fun b2 => ?_) (fun b2 => ?_)
    rotate_left
    focus
      cbv
      exact hp (fun q => of_decide_eq_false b2 q.mode.2) _
    have hM : 0 ≤ (m .o).mode ∧ (m .o).mode ≤ 4095 := ⟨b1, of_decide_eq_true b2⟩
    cbv
    -- owner and group
    refine br_dec (fun c1 => ?_) (fun c1 => ?_)
    rotate_left
    focus
      cbv
      refine must_ff ?_
      cbv
      exact hp (fun q => c1 q.uid.1) _
    cbv
    refine br_dec (fun c2 => ?_) (fun c2 => ?_)
    rotate_left
    focus
      cbv
      refine must_ff ?_
      cbv
      exact hp (fun q => c2 q.uid.2) _
    cbv
    refine br_dec (fun c3 => ?_) (fun c3 => ?_)
    rotate_left
    focus
      cbv
      refine must_ff ?_
      cbv
      exact hp (fun q => c3 q.gid.1) _
    cbv
    refine must_c _ _ (fun c4 => ?_) (fun c4 => ?_)
    rotate_left
    focus
      cbv
      exact hp (fun q => of_decide_eq_false c4 q.gid.2) _
    have hU : IdOk (m .o).uid := ⟨c1, c2⟩
    have hG : IdOk (m .o).gid := ⟨c3, of_decide_eq_true c4⟩
    cbv
    -- times, flags, names
    refine stamp_c (fun _ => (m .o).sec) (fun _ => (m .o).nano) fun d1 e1 => ?_
    cbv
    refine br_bool (fun f1 => ?_) (fun f1 => ?_)
    rotate_left
    focus
      cbv
      refine must_ff ?_
      cbv
      exact hp (fun q => by rw [e1.2 q.stamp] at f1; cases f1) _
    have hS := e1.1 f1
    cbv
    refine fmay_c (fun _ => (m .o).flags) fun d2 e2 => ?_
    cbv
    refine br_bool (fun f2 => ?_) (fun f2 => ?_)
    rotate_left
    focus
      cbv
      refine must_ff ?_
      cbv
      exact hp (fun q => by have := q.flags; rw [e2, this] at f2; cases f2) _
    have hF : mayF (m .o).flags = true := e2.symm.trans f2
    cbv
    refine xsmay_c (fun _ => (m .o).xs) hs.xs hs.long fun d3 e3 => ?_
    cbv
    refine must_c _ _ (fun f3 => ?_) (fun f3 => ?_)
    rotate_left
    focus
      cbv
      exact hp (fun q => by rw [e3.2 q.xs] at f3; cases f3) _
    have hX := e3.1 f3
    cbv
    -- the list
    refine br_rev (br_dec (fun g1 => ?_) (fun g1 => ?_))
  all_goals try (
    have hA : (m .o).acl = [] := List.eq_nil_of_length_eq_zero (zi_inj.1 g1)
    cbv
    refine must_tt ?_
    have hA : (m .o).acl = [] ∨ AclOk (m .o).acl ∧ modeA (m .o).acl = band (m .o).mode 511 := .inl hA
    cbv)
  all_goals try (
    have hA : ¬ (m .o).acl = [] := fun e => g1 (by show zi (m .o).acl.length = 0; rw [e]; rfl)
    cbv
    refine aclmay_c (fun _ => (m .o).acl) hs.acl fun g2 g3 => ?_
    cbv
    refine br_bool (fun g4 => ?_) (fun g4 => ?_)
    rotate_left
    focus
      cbv
      refine must_ff ?_
      cbv
      exact hp (fun q => by rcases q.acl with q | q; exact hA q; rw [g3.2 q.1] at g4; cases g4) _
    have g5 := g3.1 g4
    cbv
    refine aclmode_c (fun _ => (m .o).acl) hs.acl g5.good fun g6 g7 => ?_
    cbv
    refine must_c _ _ (fun g8 => ?_) (fun g8 => ?_)
    rotate_left
    focus
      cbv
      exact hp (fun q => by
        rcases q.acl with q | q
        · exact hA q
        · exact of_decide_eq_false g8 (by rw [g7]; exact q.2)) _
    have hA : (m .o).acl = [] ∨ AclOk (m .o).acl ∧ modeA (m .o).acl = band (m .o).mode 511 := .inr ⟨g5, by rw [← g7]; exact of_decide_eq_true g8⟩
    cbv)
  all_goals
    -- the list for what comes
    refine br_rev (br_dec (fun i1 => ?_) (fun i1 => ?_))
  all_goals try (
    have hD : (m .o).dflt = [] := List.eq_nil_of_length_eq_zero (zi_inj.1 i1)
    cbv
    refine must_tt ?_
    have hD : (m .o).dflt = [] ∨ k .o = 6 ∧ AclOk (m .o).dflt := .inl hD
    cbv)
  all_goals try (
    have hD : ¬ (m .o).dflt = [] := fun e => i1 (by show zi (m .o).dflt.length = 0; rw [e]; rfl)
    cbv
    refine br_dec (fun i2 => ?_) (fun i2 => ?_)
    rotate_left
    focus
      cbv
      refine must_ff ?_
      cbv
      exact hp (fun q => by rcases q.dflt with q | q; exact hD q; exact i2 q.1) _
    have i2 : k .o = 6 := i2
    cbv
    refine aclmay_c (fun _ => (m .o).dflt) hs.dflt fun i3 i4 => ?_
    cbv
    refine must_c _ _ (fun i5 => ?_) (fun i5 => ?_)
    rotate_left
    focus
      cbv
      exact hp (fun q => by rcases q.dflt with q | q; exact hD q; rw [i4.2 q.2] at i5; cases i5) _
    have hD : (m .o).dflt = [] ∨ k .o = 6 ∧ AclOk (m .o).dflt := .inr ⟨i2, i4.1 i5⟩
    cbv)
  all_goals
    -- capabilities
    refine caps_c (fun _ => (m .o).caps) fun j1 j2 => ?_
    cbv
    refine br_bool (fun j3 => ?_) (fun j3 => ?_)
    rotate_left
    focus
      cbv
      refine must_ff ?_
      cbv
      exact hp (fun q => by rw [j2.2 q.caps] at j3; cases j3) _
    have hC := j2.1 j3
    cbv
    refine br_rev (br_dec (fun j4 => ?_) (fun j4 => ?_))
  all_goals try (
    have hCk : k .o = 1 := j4
    cbv
    refine must_tt ?_
    have hCk : k .o = 1 ∨ (m .o).caps = Caps.zero := .inl hCk
    cbv)
  all_goals try (
    have j4 : ¬ k .o = 1 := j4
    cbv
    refine must_c _ _ (fun j5 => ?_) (fun j5 => ?_)
    rotate_left
    focus
      cbv
      exact hp (fun q => by rcases q.capk with q | q; exact j4 q; have j5 := (Bool.eq_false_iff.1 j5); exact j5 ((capz _).2 q)) _
    have hCk : k .o = 1 ∨ (m .o).caps = Caps.zero := .inr ((capz _).1 j5)
    cbv)
  all_goals
    -- links
    refine br_rev (br_ndec (fun l1 => ?_) (fun l1 => ?_))
  all_goals try (
    have l1 : ¬ k .o = 3 := l1
    cbv
    refine must_tt ?_
    cbv
    exact hr ⟨hK, hM, hU, hG, hS, hF, hX, hA, hD, hC, hCk, .inl l1⟩)
  all_goals
    have l1 : k .o = 3 := l1
    cbv
    refine br_dec (fun l2 => ?_) (fun l2 => ?_)
    rotate_left
    focus
      cbv
      refine must_ff ?_
      cbv
      exact hp (fun q => by rcases q.sym with q | q; exact q l1; exact l2 q.1) _
    cbv
    refine br_dec (fun l3 => ?_) (fun l3 => ?_)
    rotate_left
    focus
      cbv
      refine must_ff ?_
      cbv
      exact hp (fun q => by rcases q.sym with q | q; exact q l1; exact l3 (by show zi (m .o).acl.length = 0; rw [q.2.1]; rfl)) _
    cbv
    refine must_c _ _ (fun l4 => ?_) (fun l4 => ?_)
    rotate_left
    focus
      cbv
      exact hp (fun q => by rcases q.sym with q | q; exact q l1; exact of_decide_eq_false l4 q.2.2) _
    cbv
    exact hr ⟨hK, hM, hU, hG, hS, hF, hX, hA, hD, hC, hCk, .inr ⟨l2, List.eq_nil_of_length_eq_zero (zi_inj.1 l3), of_decide_eq_true l4⟩⟩
end Go.Proofs.Ytgjlkcdnlndlnaa
/- meta.May, the document's, what is too heavy: walked, exact. -/
namespace Go.Proofs.Ytgjlkcdnlndlnaa
open Go Go.Proofs.Ytgjlkcdnlndlnaa.Sx F
set_option linter.unusedVariables false
set_option linter.unusedSimpArgs false

theorem mendT_c {K : BL → Prop} (h : K (.cons 10000 (.cells (.cons .tt .nil)) .nil)) : DefAt PT meta_May_1 false [.nif, .ptr 10000 0] (.cons 10000 (.cells (.cons .tt .nil)) .nil) K := by
  refine meta_May_1.of rfl rfl (fun _ => rfl) ?_
  cbv
  exact h
theorem mendS_c (s : Th (List UInt8)) {K : BL → Prop} (h : K (.cons 10000 (.cells (.cons .ff .nil)) .nil)) : DefAt PT meta_May_1 true [mayNotV s, .ptr 10000 0] (.cons 10000 (.cells (.cons .ff .nil)) .nil) K := by
  refine meta_May_1.of rfl rfl (fun h => by cases h) ?_
  cbv
  exact h
theorem mmay_c (m : Th Meta) (k : Th Int) (hs : MetaShort (m .o)) {d : Nat} {K : ARes → BL → Prop} (hr : ∀ b : Th Bool, (b .o = true ↔ MetaOk (m .o) (k .o)) → K (.ret (.bool b)) .nil) : CallAt PT meta_May [Meta.av m, .int .i64 k] d .nil K := by
  refine CallAt.res ?_
  refine meta_May.of rfl rfl ?_
  cbv
  refine look_c m k hs (fun h => ?_) (fun h s => ?_)
  · cbv
    refine DefAt.use [(10000, 4)] [.nif, .ptr 10000 0] (by kernel_rfl) rfl (mendT_c ?_)
    cbv
    exact ⟨_, .ret (.tt rfl), hr (fun _ => true) ⟨fun _ => h, fun _ => rfl⟩⟩
  · cbv
    refine DefAt.use [(10000, 4)] [mayNotV s, .ptr 10000 0] (by kernel_rfl) rfl (mendS_c s ?_)
    cbv
    exact ⟨_, .ret (.ff rfl), hr (fun _ => false) ⟨fun q => (by cases q), fun q => (h q).elim⟩⟩
theorem maymeta9_c (m : Th Meta) (k : Th Int) (hs : MetaShort (m .o)) {d : Nat} {K : ARes → BL → Prop} (hr : ∀ b : Th Bool, (b .o = true ↔ MetaOk (m .o) (k .o)) → K (.ret (.bool b)) .nil) : CallAt PT r9_MayMeta [Meta.av m, .int .i64 k] d .nil K := by
  refine CallAt.res ?_
  have hf : ¬ MetaOk (m .o) (k .o) → ∃ r', SameR (.ret .ff) r' ∧ K r' .nil := fun h => ⟨_, .ret (.ff rfl), hr (fun _ => false) ⟨fun q => (by cases q), fun q => (h q).elim⟩⟩
  refine r9_MayMeta.of rfl rfl ?_
  cbv
  refine br_ndec (fun a1 => ?_) (fun a1 => ?_)
  focus
    have a1 : ¬ k .o = 1 := a1
    cbv
    refine br_rev (br_dec (fun a2 => ?_) (fun a2 => ?_))
    focus
      cbv
      exact hf fun q => by have a2 : k .o < 3 := a2; have := q.kind; omega
    have a2 : ¬ k .o < 3 := a2
    cbv
    refine br_dec (fun a3 => ?_) (fun a3 => ?_)
    focus
      cbv
      exact hf fun q => by have a3 : 7 < k .o := a3; have := q.kind; omega
    have a3 : ¬ 7 < k .o := a3
    have hK : k .o = 1 ∨ 3 ≤ k .o ∧ k .o ≤ 7 := .inr ⟨by omega, by omega⟩
    cbv
  rotate_left
  focus
    have hK : k .o = 1 ∨ 3 ≤ k .o ∧ k .o ≤ 7 := .inl a1
    cbv
  all_goals
    refine br_rev (br_dec (fun b1 => ?_) (fun b1 => ?_))
    focus
      cbv
      exact hf fun q => by have b1 : (m .o).mode < 0 := b1; have := q.mode; omega
    have b1 : ¬ (m .o).mode < 0 := b1
    cbv
    refine br_rev (br_dec (fun b2 => ?_) (fun b2 => ?_))
    focus
      cbv
      exact hf fun q => by have b2 : 4095 < (m .o).mode := b2; have := q.mode; omega
    have b2 : ¬ 4095 < (m .o).mode := b2
    have hM : 0 ≤ (m .o).mode ∧ (m .o).mode ≤ 4095 := ⟨by omega, by omega⟩
    cbv
    refine id9_c (fun _ => (m .o).uid) fun c1 c2 => ?_
    cbv
    refine br_rev (br_nbool (fun c3 => ?_) (fun c3 => ?_))
    focus
      cbv
      exact hf fun q => by rw [c2.2 q.uid] at c3; cases c3
    have hU := c2.1 c3
    cbv
    refine id9_c (fun _ => (m .o).gid) fun c4 c5 => ?_
    cbv
    refine br_rev (br_nbool (fun c6 => ?_) (fun c6 => ?_))
    focus
      cbv
      exact hf fun q => by rw [c5.2 q.gid] at c6; cases c6
    have hG := c5.1 c6
    cbv
    refine stamp1_c (fun _ => (m .o).sec) (fun _ => (m .o).nano) fun d1 e1 => ?_
    cbv
    refine br_rev (br_nbool (fun f1 => ?_) (fun f1 => ?_))
    focus
      cbv
      exact hf fun q => by rw [e1.2 q.stamp] at f1; cases f1
    have hS := e1.1 f1
    cbv
    refine mayflags9_c (fun _ => (m .o).flags) fun d2 e2 => ?_
    cbv
    refine br_rev (br_nbool (fun f2 => ?_) (fun f2 => ?_))
    focus
      cbv
      exact hf fun q => by have := q.flags; rw [e2, this] at f2; cases f2
    have hF : mayF (m .o).flags = true := e2.symm.trans f2
    cbv
    refine xsmay9_c (fun _ => (m .o).xs) hs.xs hs.long fun d3 e3 => ?_
    cbv
    refine br_nbool (fun f3 => ?_) (fun f3 => ?_)
    focus
      cbv
      exact hf fun q => by rw [e3.2 q.xs] at f3; cases f3
    have hX := e3.1 f3
    cbv
    refine br_dec (fun g1 => ?_) (fun g1 => ?_)
  all_goals try (
    have hA : 0 < (m .o).acl.length := by have g1 : 0 < zi (m .o).acl.length := g1; unfold zi at g1; omega
    have hA : ¬ (m .o).acl = [] := fun e => by rw [e] at hA; exact absurd hA (by decide)
    cbv
    refine may9_c (fun _ => (m .o).acl) hs.acl fun g2 g3 => ?_
    cbv
    refine br_rev (br_nbool (fun g4 => ?_) (fun g4 => ?_))
    focus
      cbv
      exact hf fun q => by rcases q.acl with q | q; exact hA q; rw [g3.2 q.1] at g4; cases g4
    have g5 := g3.1 g4
    cbv
    refine mode9_c (fun _ => (m .o).acl) hs.acl g5.good fun g6 g7 => ?_
    cbv
    refine br_ndec (fun g8 => ?_) (fun g8 => ?_)
    focus
      cbv
      exact hf fun q => by
        rcases q.acl with q | q
        · exact hA q
        · exact g8 (by rw [g7]; exact q.2)
    have hA : (m .o).acl = [] ∨ AclOk (m .o).acl ∧ modeA (m .o).acl = band (m .o).mode 511 := .inr ⟨g5, by rw [← g7]; exact g8⟩
    cbv)
  all_goals try (
    have hA : (m .o).acl = [] := List.eq_nil_of_length_eq_zero (by have g1 : ¬ 0 < zi (m .o).acl.length := g1; unfold zi at g1; omega)
    have hA : (m .o).acl = [] ∨ AclOk (m .o).acl ∧ modeA (m .o).acl = band (m .o).mode 511 := .inl hA
    cbv)
  all_goals
    refine br_dec (fun i1 => ?_) (fun i1 => ?_)
  all_goals try (
    have hD : 0 < (m .o).dflt.length := by have i1 : 0 < zi (m .o).dflt.length := i1; unfold zi at i1; omega
    have hD : ¬ (m .o).dflt = [] := fun e => by rw [e] at hD; exact absurd hD (by decide)
    cbv
    refine br_rev (br_ndec (fun i2 => ?_) (fun i2 => ?_))
    focus
      cbv
      exact hf fun q => by rcases q.dflt with q | q; exact hD q; exact i2 q.1
    have i2 : k .o = 6 := i2
    cbv
    refine may9_c (fun _ => (m .o).dflt) hs.dflt fun i3 i4 => ?_
    cbv
    refine br_nbool (fun i5 => ?_) (fun i5 => ?_)
    focus
      cbv
      exact hf fun q => by rcases q.dflt with q | q; exact hD q; rw [i4.2 q.2] at i5; cases i5
    have hD : (m .o).dflt = [] ∨ k .o = 6 ∧ AclOk (m .o).dflt := .inr ⟨i2, i4.1 i5⟩
    cbv)
  all_goals try (
    have hD : (m .o).dflt = [] := List.eq_nil_of_length_eq_zero (by have i1 : ¬ 0 < zi (m .o).dflt.length := i1; unfold zi at i1; omega)
    have hD : (m .o).dflt = [] ∨ k .o = 6 ∧ AclOk (m .o).dflt := .inl hD
    cbv)
  all_goals
    refine caps9_c (fun _ => (m .o).caps) fun j1 j2 => ?_
    cbv
    refine br_rev (br_nbool (fun j3 => ?_) (fun j3 => ?_))
    focus
      cbv
      exact hf fun q => by rw [j2.2 q.caps] at j3; cases j3
    have hC := j2.1 j3
    cbv
    refine br_ndec (fun j4 => ?_) (fun j4 => ?_)
  all_goals try (
    have j4 : ¬ (m .o).caps.ver = 0 := j4
    cbv
    refine br_ndec (fun j5 => ?_) (fun j5 => ?_)
    focus
      cbv
      exact hf fun q => by rcases q.capk with q | q; exact j5 q; exact j4 (by rw [q]; rfl)
    have hCk : k .o = 1 ∨ (m .o).caps = Caps.zero := .inl j5
    cbv)
  all_goals try (
    have j4 : (m .o).caps.ver = 0 := j4
    have hCk : k .o = 1 ∨ (m .o).caps = Caps.zero := .inr (by have hC : CapsOk (m .o).caps := hC; rcases hC with q | q | q; exact q; omega; omega)
    cbv)
  all_goals
    refine br_rev (br_ndec (fun l1 => ?_) (fun l1 => ?_))
  all_goals try (
    have l1 : ¬ k .o = 3 := l1
    cbv
    exact ⟨_, .ret (.tt rfl), hr (fun _ => true) ⟨fun _ => ⟨hK, hM, hU, hG, hS, hF, hX, hA, hD, hC, hCk, .inl l1⟩, fun _ => rfl⟩⟩)
  all_goals
    have l1 : k .o = 3 := l1
    cbv
    refine br_dec (fun l2 => ?_) (fun l2 => ?_)
    rotate_left
    focus
      cbv
      exact hf fun q => by rcases q.sym with q | q; exact q l1; exact l2 q.1
    cbv
    refine br_dec (fun l3 => ?_) (fun l3 => ?_)
    rotate_left
    focus
      cbv
      exact hf fun q => by rcases q.sym with q | q; exact q l1; exact l3 (by show zi (m .o).acl.length = 0; rw [q.2.1]; rfl)
    cbv
    exact ⟨_, .ret (.refl _), hr _ ⟨fun l4 => ⟨hK, hM, hU, hG, hS, hF, hX, hA, hD, hC, hCk, .inr ⟨l2, List.eq_nil_of_length_eq_zero (zi_inj.1 l3), of_decide_eq_true l4⟩⟩, fun q => decide_eq_true (by rcases q.sym with q | q; exact absurd l1 q; exact q.2.2)⟩⟩
/-! ### plain ones -/
theorem mplain_c (mo u g : Th Int) {d : Nat} {K : ARes → BL → Prop} (hr : ∀ m : Th Meta, m .o = { metaZ with mode := mo .o, uid := u .o, gid := g .o } → K (.ret (Meta.av m)) .nil) : CallAt PT meta_Plain [.int .i64 mo, .int .i64 u, .int .i64 g] d .nil K := by
  refine CallAt.res ?_
  refine meta_Plain.of rfl rfl ?_
  cbv
  exact meta_ret (fun _ => []) (fun _ => []) (fun _ => []) nsl_aces nsl_aces nsl_xattrs ff_bool (hr (fun _ => { metaZ with mode := mo .o, uid := u .o, gid := g .o }) rfl)
theorem shortZ (mo u g : Int) : MetaShort { metaZ with mode := mo, uid := u, gid := g } := ⟨Nat.zero_le _, Nat.zero_le _, Nat.zero_le _, fun x hx => by cases hx⟩
theorem xsOk_nil : XsOk [] := ⟨⟨fun j hj => absurd hj (Nat.not_lt_zero _), fun j hj => absurd hj (Nat.not_lt_zero _)⟩, Nat.zero_le _⟩
theorem metaOk_plain {mo u g k : Int} (hk : k = 1 ∨ 3 ≤ k ∧ k ≤ 7) (hm : 0 ≤ mo ∧ mo ≤ 4095) (hu : IdOk u) (hg : IdOk g) (hs : k ≠ 3 ∨ mo = 511) : MetaOk { metaZ with mode := mo, uid := u, gid := g } k :=
  ⟨hk, hm, hu, hg, (show StampOk 0 0 from ⟨by decide, by decide, by decide, by decide⟩), rfl, xsOk_nil, .inl rfl, .inl rfl, .inl rfl, .inr rfl, by rcases hs with q | q; exact .inl q; exact .inr ⟨q, rfl, rfl⟩⟩
theorem metaZ_arg {d : Nat} {k : Th Int} {K : ARes → BL → Prop} (h : CallAt PT meta_May [Meta.av fun _ => metaZ, .int .i64 k] d .nil K) :
    CallAt PT meta_May [.agg (.cons (.int .i64 fun _ => 0) (.cons (.int .i64 fun _ => 0) (.cons (.int .i64 fun _ => 0) (.cons (.int .i64 fun _ => 0) (.cons (.int .i64 fun _ => 0) (.cons .nsl (.cons .nsl (.cons .nsl (.cons (.int .i64 fun _ => 0) (.cons (.int .u64 fun _ => 0) (.cons (.int .u64 fun _ => 0) (.cons .ff (.cons (.int .i64 fun _ => 0) (.cons (.int .i64 fun _ => 0) .nil)))))))))))))), .int .i64 k] d .nil K :=
  CallAt.args (.cons (.agg (.cons (.int rfl) (.cons (.int rfl) (.cons (.int rfl) (.cons (.int rfl) (.cons (.int rfl) (.cons nsl_aces (.cons nsl_aces (.cons nsl_xattrs (.cons (.int rfl) (.cons (.int rfl) (.cons (.int rfl) (.cons ff_bool (.cons (.int rfl) (.cons (.int rfl) .nil))))))))))))))) (.cons (.refl _) .nil)) h
theorem awake14_c {d : Nat} {K : ARes → BL → Prop} (hr : ∀ b : Th Bool, b .o = true → K (.ret (.bool b)) .nil) : CallAt PT l14_awake [] d .nil K := by
  refine CallAt.res ?_
  refine l14_awake.of rfl rfl ?_
  cbv
  refine mplain_c _ _ _ fun m hm => ?_
  cbv
  refine mmay_c m (fun _ => 1) (by rw [hm]; exact shortZ _ _ _) fun b hb => ?_
  have hb : b .o = true := hb.2 (by rw [hm]; exact metaOk_plain (.inl rfl) ⟨by decide, by decide⟩ ⟨by decide, by decide⟩ ⟨by decide, by decide⟩ (.inl (by decide)))
  cbv
  (first | refine br_is (hb) ?_ | refine br_not (hb) ?_ | refine br_rev (br_is (hb) ?_) | refine br_rev (br_not (hb) ?_))
  cbv
  refine metaZ_arg ?_
  refine mmay_c (fun _ => metaZ) (fun _ => 2) (shortZ 0 0 0) fun b2 hb2 => ?_
  have hb2 : (!b2 .o) = true := by
    have : ¬ b2 .o = true := fun q => by have := (hb2.1 q).kind; exact absurd this (by decide)
    simpa using this
  cbv
  exact ⟨_, .ret (.refl _), hr _ hb2⟩
end Go.Proofs.Ytgjlkcdnlndlnaa
/- The lists that the laws make by numbers may be, and have their mode: plain. -/
namespace Go.Proofs.Ytgjlkcdnlndlnaa
open Go Go.Proofs.Ytgjlkcdnlndlnaa.Sx F
set_option linter.unusedVariables false
set_option linter.unusedSimpArgs false

theorem aclTo_of {l : List Ace} (h1 : ∀ a ∈ l, (1 ≤ a.tag ∧ a.tag ≤ 6) ∧ AceOk a) (h2 : l.Pairwise aft) : AclTo l l.length := by
  have mem : ∀ j, j < l.length → l.getD j Ace.z ∈ l := fun j hj => by
    rw [List.getD_eq_getElem?_getD, List.getElem?_eq_getElem hj]; exact List.getElem_mem hj
  refine ⟨fun j hj => (h1 _ (mem j hj)).1, fun j hj => (h1 _ (mem j hj)).2, fun j hj => ?_⟩
  have := List.pairwise_iff_getElem.1 h2 j (j + 1) (by omega) hj (by omega)
  rw [List.getD_eq_getElem?_getD, List.getElem?_eq_getElem (by omega : j < l.length), List.getD_eq_getElem?_getD, List.getElem?_eq_getElem hj]
  exact this
theorem addS_up (a : Ace) : ∀ l : List Ace, l.Pairwise (fun x y => x.id < y.id) → (addS a l).Pairwise fun x y => x.id < y.id
  | [], _ => by simp [addS]
  | x :: r, h => by
    obtain ⟨h1, h2⟩ := List.pairwise_cons.1 h
    unfold addS
    split
    · rename_i hlt
      refine List.pairwise_cons.2 ⟨fun y hy => ?_, addS_up a r h2⟩
      rcases mem_addS hy with rfl | hy
      · exact hlt
      · exact h1 y hy
    · rename_i hlt
      split
      · rename_i he
        exact List.pairwise_cons.2 ⟨fun y hy => by rw [← he]; exact h1 y hy, h2⟩
      · rename_i hne
        refine List.pairwise_cons.2 ⟨fun y hy => ?_, h⟩
        rcases List.mem_cons.1 hy with rfl | hy
        · omega
        · have := h1 y hy
          omega
theorem accS_up (ns : List Int) : ∀ k, ((accS ns k).1.Pairwise fun x y => x.id < y.id) ∧ (accS ns k).2.Pairwise fun x y => x.id < y.id
  | 0 => ⟨.nil, .nil⟩
  | k + 1 => by
    obtain ⟨h1, h2⟩ := accS_up ns k
    unfold accS
    split
    · exact ⟨addS_up _ _ h1, h2⟩
    · exact ⟨h1, addS_up _ _ h2⟩
theorem accS_id {ns : List Int} (hns : isBytes ns) : ∀ k, (∀ a ∈ (accS ns k).1, 0 ≤ a.id ∧ a.id ≤ 2147483647) ∧ ∀ a ∈ (accS ns k).2, 0 ≤ a.id ∧ a.id ≤ 2147483647
  | 0 => by simp [accS]
  | k + 1 => by
    obtain ⟨h1, h2⟩ := accS_id hns k
    have hb := byte_at hns (k := 2 * k)
    have hp : 0 ≤ (ns.getD (2 * k) 0).tdiv 2 ∧ (ns.getD (2 * k) 0).tdiv 2 ≤ 2147483647 := by rw [Int.tdiv_eq_ediv_of_nonneg hb.1]; omega
    unfold accS
    split
    · refine ⟨fun a ha => ?_, h2⟩
      rcases mem_addS ha with rfl | ha
      · exact hp
      · exact h1 a ha
    · refine ⟨h1, fun a ha => ?_⟩
      rcases mem_addS ha with rfl | ha
      · exact hp
      · exact h2 a ha
theorem cnt_app (a b : List Ace) (t : Nat) : cntN (a ++ b) (a ++ b).length t = cntN a a.length t + cntN b b.length t := by
  unfold cntN
  rw [List.take_length, List.take_length, List.take_length, List.countP_append]
theorem cnt_tag {l : List Ace} {s : Int} (h : ∀ a ∈ l, a.tag = s) (t : Nat) : cntN l l.length t = if s = (t : Int) then l.length else 0 := by
  unfold cntN
  rw [List.take_length]
  split
  · rename_i e
    exact List.countP_eq_length.2 fun a ha => decide_eq_true ((h a ha).trans e)
  · rename_i e
    exact List.countP_eq_zero.2 fun a ha q => e ((h a ha).symm.trans (of_decide_eq_true q))
theorem permS_app (a b : List Ace) (t : Int) : permS (a ++ b) t = (permS a t).or (permS b t) := by
  unfold permS
  rw [List.find?_append]
  cases a.find? fun x => decide (x.tag = t) <;> rfl
theorem permS_no {l : List Ace} {s t : Int} (h : ∀ a ∈ l, a.tag = s) (hst : s ≠ t) : permS l t = none := by
  unfold permS
  rw [List.find?_eq_none.2 fun a ha q => hst ((h a ha).symm.trans (of_decide_eq_true q))]; rfl
theorem permS_nil (t : Int) : permS [] t = none := rfl
theorem l9_ok {ns : List Int} (hns : isBytes ns) (m : Int) : AclOk (l9S ns m) := by
  obtain ⟨h1, h2⟩ := accS_perm hns (pairs ns)
  obtain ⟨i1, i2⟩ := accS_id hns (pairs ns)
  obtain ⟨u1, u2⟩ := accS_up ns (pairs ns)
  have hl := accS_len ns (pairs ns)
  have hp6 : pairs ns ≤ 6 := Nat.min_le_left _ _
  have b1 := band_7 (m.fdiv (2 ^ 6))
  have b2 := band_7 (m.fdiv (2 ^ 3))
  have b3 := band_7 m
  have b4 := bxor_8 (band_7 (m.fdiv (2 ^ 3))) (b := (ns.getD 0 0).tmod 8) ⟨Int.tmod_nonneg _ (byte_at hns).1, Int.tmod_lt_of_pos _ (by decide)⟩
  have t1 : ∀ a ∈ (accS ns (pairs ns)).1, a.tag = 2 := fun a ha => (h1 a ha).2
  have t2 : ∀ a ∈ (accS ns (pairs ns)).2, a.tag = 4 := fun a ha => (h2 a ha).2
  have k1 : ∀ a ∈ (accS ns (pairs ns)).1, (1 ≤ a.tag ∧ a.tag ≤ 6) ∧ AceOk a := fun a ha => by
    have := h1 a ha
    have := i1 a ha
    unfold AceOk
    omega
  have k2 : ∀ a ∈ (accS ns (pairs ns)).2, (1 ≤ a.tag ∧ a.tag ≤ 6) ∧ AceOk a := fun a ha => by
    have := h2 a ha
    have := i2 a ha
    unfold AceOk
    omega
  have p1 : (accS ns (pairs ns)).1.Pairwise aft := u1.imp_of_mem fun {a b} ha hb q => .inr ⟨by rw [t1 a ha, t1 b hb], q⟩
  have p2 : (accS ns (pairs ns)).2.Pairwise aft := u2.imp_of_mem fun {a b} ha hb q => .inr ⟨by rw [t2 a ha, t2 b hb], q⟩
  have one : ∀ (t p : Int) (k : Nat), cntN [⟨t, 0, p⟩] 1 k = if t = (k : Int) then 1 else 0 := fun t p k => by
    unfold cntN
    by_cases q : t = (k : Int) <;> simp [q]
  have two : ∀ (t t' p p' : Int) (k : Nat), cntN [⟨t, 0, p⟩, ⟨t', 0, p'⟩] 2 k = (if t = (k : Int) then 1 else 0) + if t' = (k : Int) then 1 else 0 := fun t t' p p' k => by
    unfold cntN
    by_cases q : t = (k : Int) <;> by_cases q' : t' = (k : Int) <;> simp [q, q', List.countP_cons]
  unfold l9S
  dsimp only
  generalize (accS ns (pairs ns)).1 = u at *
  generalize (accS ns (pairs ns)).2 = g at *
  split
  · rename_i h0
    obtain rfl : u = [] := List.eq_nil_of_length_eq_zero (by omega)
    have cn : ∀ t, cntN ([(⟨1, 0, band (m.fdiv (2 ^ 6)) 7⟩ : Ace)] ++ [] ++ ([⟨3, 0, band (m.fdiv (2 ^ 3)) 7⟩, ⟨6, 0, band m 7⟩] : List Ace)) ([(⟨1, 0, band (m.fdiv (2 ^ 6)) 7⟩ : Ace)] ++ [] ++ ([⟨3, 0, band (m.fdiv (2 ^ 3)) 7⟩, ⟨6, 0, band m 7⟩] : List Ace)).length t = (if (1 : Int) = (t : Int) then 1 else 0) + ((if (3 : Int) = (t : Int) then 1 else 0) + if (6 : Int) = (t : Int) then 1 else 0) := fun t => by
      rw [cnt_app, cnt_app]
      show cntN _ 1 t + cntN [] 0 t + cntN _ 2 t = _
      rw [one, two, cntN_zero]; rfl
    refine ⟨aclTo_of (fun a ha => ?_) ?_, cn 1, cn 3, cn 6, ?_, by simp⟩
    · simp only [List.append_nil, List.cons_append, List.nil_append, List.mem_cons, List.not_mem_nil, or_false] at ha
      rcases ha with rfl | rfl | rfl <;> (unfold AceOk; dsimp only; omega)
    · simp [aft]
    · rw [cn 5, cn 2, cn 4]; rfl
  · rename_i h0
    have cn : ∀ t, cntN ([(⟨1, 0, band (m.fdiv (2 ^ 6)) 7⟩ : Ace)] ++ u ++ ([⟨3, 0, bxor (band (m.fdiv (2 ^ 3)) 7) ((ns.getD 0 0).tmod 8)⟩] : List Ace) ++ g ++ ([⟨5, 0, band (m.fdiv (2 ^ 3)) 7⟩, ⟨6, 0, band m 7⟩] : List Ace)) ([(⟨1, 0, band (m.fdiv (2 ^ 6)) 7⟩ : Ace)] ++ u ++ ([⟨3, 0, bxor (band (m.fdiv (2 ^ 3)) 7) ((ns.getD 0 0).tmod 8)⟩] : List Ace) ++ g ++ ([⟨5, 0, band (m.fdiv (2 ^ 3)) 7⟩, ⟨6, 0, band m 7⟩] : List Ace)).length t
        = (if (1 : Int) = (t : Int) then 1 else 0) + (if (2 : Int) = (t : Int) then u.length else 0) + (if (3 : Int) = (t : Int) then 1 else 0) + (if (4 : Int) = (t : Int) then g.length else 0) + ((if (5 : Int) = (t : Int) then 1 else 0) + if (6 : Int) = (t : Int) then 1 else 0) := fun t => by
      rw [cnt_app, cnt_app, cnt_app, cnt_app, cnt_tag t1, cnt_tag t2]
      show cntN _ 1 t + _ + cntN _ 1 t + _ + cntN _ 2 t = _
      rw [one, one, two]
    refine ⟨aclTo_of (fun a ha => ?_) ?_, cn 1, cn 3, cn 6, ?_, by simp only [List.length_append, List.length_cons, List.length_nil]; omega⟩
    · simp only [List.mem_append, List.mem_cons, List.not_mem_nil, or_false] at ha
      rcases ha with (((rfl | ha) | rfl) | ha) | rfl | rfl
      · unfold AceOk; dsimp only; omega
      · exact k1 a ha
      · unfold AceOk; dsimp only; omega
      · exact k2 a ha
      · unfold AceOk; dsimp only; omega
      · unfold AceOk; dsimp only; omega
    · simp only [List.pairwise_append, List.pairwise_cons, List.mem_append, List.mem_cons, List.not_mem_nil, or_false, false_or]
      refine ⟨⟨⟨⟨⟨fun a h => h.elim, .nil⟩, p1, fun a ha b hb => ?_⟩, ⟨fun a h => h.elim, .nil⟩, fun a ha b hb => ?_⟩, p2, fun a ha b hb => ?_⟩, ⟨fun a ha => ?_, fun a h => h.elim, .nil⟩, fun a ha b hb => ?_⟩
      · subst ha; left; rw [t1 b hb]; exact (by decide : (1 : Int) < 2)
      · subst hb
        left
        rcases ha with rfl | ha
        · exact (by decide : (1 : Int) < 3)
        · rw [t1 a ha]; exact (by decide : (2 : Int) < 3)
      · left
        rw [t2 b hb]
        rcases ha with (rfl | ha) | rfl
        · exact (by decide : (1 : Int) < 4)
        · rw [t1 a ha]; decide
        · exact (by decide : (3 : Int) < 4)
      · subst ha; left; exact (by decide : (5 : Int) < 6)
      · left
        have hb5 : b.tag = 5 ∨ b.tag = 6 := by rcases hb with rfl | rfl; exact .inl rfl; exact .inr rfl
        have ha4 : a.tag ≤ 4 := by
          rcases ha with ((rfl | ha) | rfl) | ha
          · exact (by decide : (1 : Int) ≤ 4)
          · rw [t1 a ha]; decide
          · exact (by decide : (3 : Int) ≤ 4)
          · rw [t2 a ha]; decide
        omega
    · rw [cn 5, cn 2, cn 4]
      show 0 + 0 + 0 + 0 + (1 + 0) = min 1 ((0 + u.length + 0 + 0 + (0 + 0)) + (0 + 0 + 0 + g.length + (0 + 0)))
      omega
theorem modeA_l9 {ns : List Int} (hns : isBytes ns) {m : Int} (hm : 0 ≤ m ∧ m < 512) : modeA (l9S ns m) = m := by
  obtain ⟨h1, h2⟩ := accS_perm hns (pairs ns)
  have t1 : ∀ a ∈ (accS ns (pairs ns)).1, a.tag = 2 := fun a ha => (h1 a ha).2
  have t2 : ∀ a ∈ (accS ns (pairs ns)).2, a.tag = 4 := fun a ha => (h2 a ha).2
  have e : band (m.fdiv (2 ^ 6)) 7 * 64 + band (m.fdiv (2 ^ 3)) 7 * 8 + band m 7 = m := by
    simp only [band_mod3]
    rw [show ((2 : Int) ^ 6) = 64 from rfl, show ((2 : Int) ^ 3) = 8 from rfl, Int.fdiv_eq_ediv_of_nonneg _ (by decide), Int.fdiv_eq_ediv_of_nonneg _ (by decide)]
    omega
  have b2 := band_7 (m.fdiv (2 ^ 3))
  unfold l9S modeA permR
  dsimp only
  split
  · rename_i h0
    have e0 : (accS ns (pairs ns)).1 = [] := List.eq_nil_of_length_eq_zero (by omega)
    rw [e0]
    simpa [permS, List.find?] using e
  · simp only [permS_app, permS_no t1 (by decide : (2 : Int) ≠ 1), permS_no t1 (by decide : (2 : Int) ≠ 5), permS_no t1 (by decide : (2 : Int) ≠ 3), permS_no t1 (by decide : (2 : Int) ≠ 6), permS_no t2 (by decide : (4 : Int) ≠ 1), permS_no t2 (by decide : (4 : Int) ≠ 5), permS_no t2 (by decide : (4 : Int) ≠ 3), permS_no t2 (by decide : (4 : Int) ≠ 6)]
    simp [permS, List.find?]
    rw [if_neg (by have := band_7 (m.fdiv 8); omega)]
    exact e
theorem l9_ne {ns : List Int} (hns : isBytes ns) (m : Int) : l9S ns m ≠ [] := fun e => by
  have := aclOk_three (l9_ok hns m)
  rw [e] at this
  exact absurd this (by decide)
end Go.Proofs.Ytgjlkcdnlndlnaa
/- The laws of what is said of nodes: walked. -/
namespace Go.Proofs.Ytgjlkcdnlndlnaa
open Go Go.Proofs.Ytgjlkcdnlndlnaa.Sx F
set_option linter.unusedVariables false
set_option linter.unusedSimpArgs false

/-- One whose list is told as nil. -/
def metaN (m : Th Meta) : AV :=
  .agg (.cons (.int .i64 fun _ => (m .o).mode) (.cons (.int .i64 fun _ => (m .o).uid) (.cons (.int .i64 fun _ => (m .o).gid) (.cons (.int .i64 fun _ => (m .o).sec) (.cons (.int .i64 fun _ => (m .o).nano)
  (.cons .nsl (.cons (aces fun _ => (m .o).dflt) (.cons (xattrs fun _ => (m .o).xs)
  (.cons (.int .i64 fun _ => (m .o).caps.ver) (.cons (.int .u64 fun _ => (m .o).caps.perm) (.cons (.int .u64 fun _ => (m .o).caps.inh) (.cons (.bool fun _ => (m .o).caps.eff) (.cons (.int .i64 fun _ => (m .o).caps.root)
  (.cons (.int .i64 fun _ => (m .o).flags) .nil))))))))))))))
theorem metaN_same (m : Th Meta) : Same (metaN m) (Meta.av fun _ => { m .o with acl := [] }) :=
  .agg (.cons (.int rfl) (.cons (.int rfl) (.cons (.int rfl) (.cons (.int rfl) (.cons (.int rfl) (.cons nsl_aces (.cons (.refl _) (.cons (.refl _) (.cons (.int rfl) (.cons (.int rfl) (.cons (.int rfl) (.cons (.refl _) (.cons (.int rfl) (.cons (.int rfl) .nil))))))))))))))
theorem mod512 {a : Int} (ha : 0 ≤ a ∧ a < 65536) : 0 ≤ (IntKind.i64.wrap a).tmod 512 ∧ (IntKind.i64.wrap a).tmod 512 < 512 ∧ (IntKind.i64.wrap a).tmod 512 = a % 512 := by
  have : IntKind.i64.wrap a = a := by rw [IntKind.wrap_i64]; omega
  rw [this, Int.tmod_eq_emod_of_nonneg ha.1]
  omega
theorem mod4096 {a : Int} (ha : 0 ≤ a ∧ a < 65536) : 0 ≤ (IntKind.i64.wrap a).tmod 4096 ∧ (IntKind.i64.wrap a).tmod 4096 < 4096 ∧ (IntKind.i64.wrap a).tmod 4096 = a % 4096 := by
  have : IntKind.i64.wrap a = a := by rw [IntKind.wrap_i64]; omega
  rw [this, Int.tmod_eq_emod_of_nonneg ha.1]
  omega
theorem l9_short (ns : List Int) (m : Int) : short (l9S ns m) := Nat.le_trans (l9_len _ _) (by decide)
theorem metaLists_c (ns : Th (List Int)) (a b : Th Int) (hns : isBytes (ns .o)) (hs : short (ns .o)) (ha : 0 ≤ a .o ∧ a .o < 65536) (hb : 0 ≤ b .o ∧ b .o < 65536) : CallAt PT l14_MetaLists [byteI ns, .int .u16 a, .int .u16 b] 9999 .nil Yes := by
  obtain ⟨a1, a2, a3⟩ := mod4096 ha
  obtain ⟨a4, a5, a6⟩ := mod512 ha
  obtain ⟨b1, b2, b3⟩ := mod512 hb
  refine l14_MetaLists.of rfl rfl ?_
  cbv
  refine safe (by decide) ?_
  refine plain_c _ _ _ fun m hm => ?_
  cbv
  refine safe (by decide) ?_
  refine l9_c ns _ hns hs fun l hl => ?_
  have hl : l .o = l9S (ns .o) ((IntKind.i64.wrap (b .o)).tmod 512) := hl
  cbv
  have hne : l .o ≠ [] := by rw [hl]; exact l9_ne hns _
  have hok : AclOk (l .o) := by rw [hl]; exact l9_ok hns _
  have hmode : modeA (l .o) = (IntKind.i64.wrap (b .o)).tmod 512 := by rw [hl]; exact modeA_l9 hns ⟨b1, b2⟩
  have hlsh : short (l .o) := by rw [hl]; exact l9_short _ _
  refine mmay_c (fun _ => { m .o with acl := l .o }) (fun _ => 1) (by rw [hm]; exact ⟨hlsh, Nat.zero_le _, Nat.zero_le _, fun x hx => by cases hx⟩) fun r1 h1 => ?_
  cbv
  refine safe (by decide) ?_
  refine safe (by decide) ?_
  have hplain : MetaOk { metaZ with mode := (IntKind.i64.wrap (a .o)).tmod 4096, uid := 0, gid := 0 } 1 := metaOk_plain (.inl rfl) ⟨by omega, by omega⟩ ⟨by decide, by decide⟩ ⟨by decide, by decide⟩ (.inl (by decide))
  have k1 : (r1 .o == decide ((IntKind.i64.wrap (a .o)).tmod 512 = (IntKind.i64.wrap (b .o)).tmod 512)) = true := by
    have hiff : r1 .o = true ↔ (IntKind.i64.wrap (a .o)).tmod 512 = (IntKind.i64.wrap (b .o)).tmod 512 := by
      rw [h1]
      rw [hm]
      constructor
      · intro q
        rcases q.acl with e | e
        · exact (hne e).elim
        · have e := e.2
          rw [hmode, band_mod9] at e
          have e : (IntKind.i64.wrap (b .o)).tmod 512 = (IntKind.i64.wrap (a .o)).tmod 4096 % 512 := e
          rw [a3] at e
          omega
      · intro q
        refine ⟨.inl rfl, hplain.mode, hplain.uid, hplain.gid, hplain.stamp, hplain.flags, hplain.xs, .inr ⟨hok, ?_⟩, .inl rfl, hplain.caps, .inl rfl, .inl (by decide)⟩
        show modeA (l .o) = band ((IntKind.i64.wrap (a .o)).tmod 4096) 511
        rw [hmode, band_mod9, a3]
        omega
    rw [beq_iff_eq, Bool.eq_iff_iff, hiff, decide_eq_true_eq]
  (first | refine br_is (k1) ?_ | refine br_not (k1) ?_ | refine br_rev (br_is (k1) ?_) | refine br_rev (br_not (k1) ?_))
  cbv
  refine CallAt.args (.cons (metaN_same m) (.cons (.refl _) .nil)) ?_
  refine mmay_c (fun _ => { m .o with acl := [] }) (fun _ => 1) (by rw [hm]; exact shortZ _ _ _) fun r2 h2 => ?_
  have h2 : r2 .o = true := h2.2 (by rw [hm]; exact hplain)
  cbv
  (first | refine br_is (h2) ?_ | refine br_not (h2) ?_ | refine br_rev (br_is (h2) ?_) | refine br_rev (br_not (h2) ?_))
  cbv
  refine CallAt.args (.cons (.refl _) (.cons (metaN_same m) .nil)) ?_
  refine msame_c (fun _ => { m .o with acl := l .o }) (fun _ => { m .o with acl := [] }) hlsh (by rw [hm]; exact Nat.zero_le _) (by rw [hm]; exact Nat.zero_le _) fun r3 h3 => ?_
  have h3 : (!r3 .o) = true := by
    have : ¬ r3 .o = true := fun q => hne (congrArg Meta.acl (h3.1 q))
    simpa using this
  cbv
  (first | refine br_is (h3) ?_ | refine br_not (h3) ?_ | refine br_rev (br_is (h3) ?_) | refine br_rev (br_not (h3) ?_))
  cbv
  refine awake14_c fun r hr => ?_
  cbv
  exact ⟨r, rfl, hr⟩
end Go.Proofs.Ytgjlkcdnlndlnaa
/- Names with values made by numbers may be: walked. -/
namespace Go.Proofs.Ytgjlkcdnlndlnaa
open Go Go.Proofs.Ytgjlkcdnlndlnaa.Sx F
set_option linter.unusedVariables false
set_option linter.unusedSimpArgs false

theorem le_lt {a b : List UInt8} : leS b a = false ↔ strLt a b = true := by
  unfold leS
  constructor
  · intro h
    simp only [Bool.or_eq_false_iff, decide_eq_false_iff_not] at h
    exact lt_tri h.1 h.2
  · intro h
    simp only [Bool.or_eq_false_iff, decide_eq_false_iff_not]
    refine ⟨?_, fun e => ?_⟩
    · cases q : strLt b a with
      | false => rfl
      | true => have := lt_trans' h q; rw [lt_irr] at this; cases this
    · subst e; rw [lt_irr] at h; cases h
theorem xsTo_of {l : List Xattr} (h1 : ∀ x ∈ l, XOk x) (h2 : l.Pairwise ltX) : XsTo l l.length := by
  refine ⟨fun j hj => ?_, fun j hj => ?_⟩
  · rw [List.getD_eq_getElem?_getD, List.getElem?_eq_getElem hj]; exact h1 _ (List.getElem_mem hj)
  · have := List.pairwise_iff_getElem.1 h2 j (j + 1) (by omega) hj (by omega)
    rw [List.getD_eq_getElem?_getD, List.getElem?_eq_getElem hj, List.getD_eq_getElem?_getD, List.getElem?_eq_getElem (by omega : j < l.length)]
    exact le_lt.2 this
theorem MadeX.ok {x : Xattr} (h : MadeX x) : XOk x := ⟨h.2.1, Nat.le_trans (escS_len _) (by have := h.1; omega), h.2.2.1, by have := h.2.2.2; omega⟩
theorem MadeXs.ok {l : List Xattr} (h : MadeXs l) : XsOk l := ⟨xsTo_of (fun x hx => (h.made x hx).ok) h.up, Nat.le_trans h.len (by decide)⟩
theorem MadeXs.long {l : List Xattr} (h : MadeXs l) : longX l := fun x hx => Nat.le_trans (h.made x hx).1 (by decide)
end Go.Proofs.Ytgjlkcdnlndlnaa
/- The laws MetaKinds and MetaAll: walked. -/
namespace Go.Proofs.Ytgjlkcdnlndlnaa
open Go Go.Proofs.Ytgjlkcdnlndlnaa.Sx F
set_option linter.unusedVariables false
set_option linter.unusedSimpArgs false

theorem mayF_of {f : Int} (h : 0 ≤ f ∧ f < 16) : mayF f = true := by
  unfold mayF
  rw [decide_eq_true h.1, decide_eq_true h.2]; rfl
theorem metaOk_made {ns : List Int} {m : Meta} {k : Int} (h1 : MadeM ns m) (h2 : MadeK k m) (hk : k = 1 ∨ 3 ≤ k ∧ k ≤ 7) : MetaOk m k := by
  have hm := h1.mode
  have hu := h1.uid
  have hg := h1.gid
  have hs := h2.sec
  refine ⟨hk, ⟨hm.1, by omega⟩, ⟨hu.1, by omega⟩, ⟨hg.1, by omega⟩, ⟨by omega, by omega, by rcases h2.nano with q | q <;> omega, by rcases h2.nano with q | q <;> omega⟩, mayF_of h2.flags, h1.xs.ok, ?_, ?_, ?_, ?_, ?_⟩
  · rcases h1.acl with q | ⟨ns', q1, q2⟩
    · exact .inl q
    · refine .inr ⟨by rw [q2]; exact l9_ok q1 _, ?_⟩
      rw [q2]
      exact modeA_l9 q1 (by rw [band_mod9]; omega)
  · rcases h2.dflt with q | ⟨q0, ns', n, q1, q2, q3⟩
    · exact .inl q
    · exact .inr ⟨q0, by rw [q3]; exact l9_ok q1 _⟩
  · rcases h2.caps with q | ⟨_, q⟩
    · exact .inl q
    · rcases q.ver with v | v
      · exact .inr (.inl ⟨v, q.root2 v⟩)
      · have := q.root3
        exact .inr (.inr ⟨v, this.1, by omega⟩)
  · rcases h2.caps with q | ⟨q, _⟩
    · exact .inr q
    · exact .inl q
  · by_cases q : k = 3
    · exact .inr (h2.sym q)
    · exact .inl q
/-- One of whose capabilities the truth is told as no. -/
def metaE (m : Th Meta) : AV :=
  .agg (.cons (.int .i64 fun _ => (m .o).mode) (.cons (.int .i64 fun _ => (m .o).uid) (.cons (.int .i64 fun _ => (m .o).gid) (.cons (.int .i64 fun _ => (m .o).sec) (.cons (.int .i64 fun _ => (m .o).nano)
  (.cons (aces fun _ => (m .o).acl) (.cons (aces fun _ => (m .o).dflt) (.cons (xattrs fun _ => (m .o).xs)
  (.cons (.int .i64 fun _ => (m .o).caps.ver) (.cons (.int .u64 fun _ => (m .o).caps.perm) (.cons (.int .u64 fun _ => (m .o).caps.inh) (.cons .ff (.cons (.int .i64 fun _ => (m .o).caps.root)
  (.cons (.int .i64 fun _ => (m .o).flags) .nil))))))))))))))
theorem metaE_same (m : Th Meta) (h : (m .o).caps.eff = false) : Same (metaE m) (Meta.av m) :=
  .agg (.cons (.int rfl) (.cons (.int rfl) (.cons (.int rfl) (.cons (.int rfl) (.cons (.int rfl) (.cons (.refl _) (.cons (.refl _) (.cons (.refl _) (.cons (.int rfl) (.cons (.int rfl) (.cons (.int rfl) (.cons (.ff h) (.cons (.int rfl) (.cons (.int rfl) .nil))))))))))))))
theorem kind_ok (n : Int) : kindN n = 1 ∨ 3 ≤ kindN n ∧ kindN n ≤ 7 := by
  rcases (kindN_in n).2 with h | h | h | h | h | h <;> omega
theorem bool_iff {a : Bool} {p : Prop} [Decidable p] (h : a = true ↔ p) : (a == decide p) = true := by
  rw [beq_iff_eq, Bool.eq_iff_iff, h, decide_eq_true_eq]
theorem bool_not {a : Bool} {p : Prop} [Decidable p] (h : a = true ↔ ¬ p) : (a == !decide p) = true := by
  rw [beq_iff_eq, Bool.eq_iff_iff, h, Bool.not_eq_true', decide_eq_false_iff_not]
theorem metaKinds_c (kind : Th Int) (ns : Th (List Int)) (mo : Th Int) (hk : 0 ≤ kind .o ∧ kind .o < 256) (hns : isBytes (ns .o)) (hs : short (ns .o)) (hmo : 0 ≤ mo .o ∧ mo .o < 65536) : CallAt PT l14_MetaKinds [.int .u8 kind, byteI ns, .int .u16 mo] 9999 .nil Yes := by
  obtain ⟨n1, n2, _⟩ := mod4096 hmo
  refine l14_MetaKinds.of rfl rfl ?_
  cbv
  refine safe (by decide) ?_
  have h6 : 0 ≤ (kind .o).tmod 6 ∧ (kind .o).tmod 6 < zi 6 := ⟨Int.tmod_nonneg _ hk.1, Int.tmod_lt_of_pos _ (by decide)⟩
  refine safe h6 ?_
  refine safe (by show ((kind .o).tmod 6).toNat < 6; unfold zi at h6; omega) ?_
  refine safe (by decide) ?_
  have hK := kind_ok (kind .o)
  refine plain_c _ _ _ fun m hm => ?_
  have hm : m .o = { metaZ with mode := (IntKind.i64.wrap (mo .o)).tmod 4096, uid := 1, gid := 2 } := hm
  cbv
  refine l9_c ns _ hns hs fun l1 hl1 => ?_
  have hl1 : l1 .o = l9S (ns .o) 7 := hl1
  cbv
  refine l9_c ns _ hns hs fun l2 hl2 => ?_
  have hl2 : l2 .o = l9S (ns .o) (band ((IntKind.i64.wrap (mo .o)).tmod 4096) 511) := hl2
  cbv
  have hb : 0 ≤ band ((IntKind.i64.wrap (mo .o)).tmod 4096) 511 ∧ band ((IntKind.i64.wrap (mo .o)).tmod 4096) 511 < 512 := by rw [band_mod9]; omega
  have s1 : short (l1 .o) := by rw [hl1]; exact l9_short _ _
  have s2 : short (l2 .o) := by rw [hl2]; exact l9_short _ _
  have e1 : l1 .o ≠ [] := by rw [hl1]; exact l9_ne hns _
  have e2 : l2 .o ≠ [] := by rw [hl2]; exact l9_ne hns _
  have o1 : AclOk (l1 .o) := by rw [hl1]; exact l9_ok hns _
  have o2 : AclOk (l2 .o) := by rw [hl2]; exact l9_ok hns _
  have m2 : modeA (l2 .o) = band ((IntKind.i64.wrap (mo .o)).tmod 4096) 511 := by rw [hl2]; exact modeA_l9 hns hb
  have hplain : ∀ k : Int, (k = 1 ∨ 3 ≤ k ∧ k ≤ 7) → (k ≠ 3 ∨ (IntKind.i64.wrap (mo .o)).tmod 4096 = 511) → MetaOk (m .o) k := fun k q1 q2 => by
    rw [hm]; exact metaOk_plain q1 ⟨n1, by omega⟩ ⟨by decide, by decide⟩ ⟨by decide, by decide⟩ q2
  have hplain' : MetaOk (m .o) (kindN (kind .o)) ↔ (kindN (kind .o) ≠ 3 ∨ (IntKind.i64.wrap (mo .o)).tmod 4096 = 511) := ⟨fun q => by
    rcases q.sym with q | q
    · exact .inl q
    · exact .inr (by rw [hm] at q; exact q.1), hplain _ hK⟩
  -- what is wanted of the others
  have wd : MetaOk { m .o with dflt := l1 .o } (kindN (kind .o)) ↔ kindN (kind .o) = 6 := ⟨fun q => by rcases q.dflt with q | q; exact (e1 q).elim; exact q.1, fun q => by
    have p := hplain _ hK (.inl (by omega))
    exact ⟨p.kind, p.mode, p.uid, p.gid, p.stamp, p.flags, p.xs, p.acl, .inr ⟨q, o1⟩, p.caps, p.capk, p.sym⟩⟩
  have wc : MetaOk { m .o with caps := ⟨2, 0, 0, false, 0⟩ } (kindN (kind .o)) ↔ kindN (kind .o) = 1 := ⟨fun q => by rcases q.capk with q | q; exact q; exact absurd (show (2 : Int) = 0 from congrArg Caps.ver q) (by decide), fun q => by
    have p := hplain _ hK (.inl (by omega))
    exact ⟨p.kind, p.mode, p.uid, p.gid, p.stamp, p.flags, p.xs, p.acl, p.dflt, .inr (.inl ⟨rfl, rfl⟩), .inl q, p.sym⟩⟩
  have wa : MetaOk { m .o with acl := l2 .o } (kindN (kind .o)) ↔ ¬ kindN (kind .o) = 3 := ⟨fun q => by rcases q.sym with q | q; exact q; exact (e2 q.2.1).elim, fun q => by
    have p := hplain _ hK (.inl q)
    exact ⟨p.kind, p.mode, p.uid, p.gid, p.stamp, p.flags, p.xs, .inr ⟨o2, by rw [m2, hm]⟩, p.dflt, p.caps, p.capk, .inl q⟩⟩
  have wf : MetaOk { m .o with flags := 1 } (kindN (kind .o)) ↔ ¬ kindN (kind .o) = 3 := ⟨fun q => by rcases q.sym with q | q; exact q; exact absurd (show (1 : Int) = 0 from q.2.2) (by decide), fun q => by
    have p := hplain _ hK (.inl q)
    exact ⟨p.kind, p.mode, p.uid, p.gid, p.stamp, rfl, p.xs, p.acl, p.dflt, p.caps, p.capk, .inl q⟩⟩
  have sZ : ∀ x : Meta, x = m .o → MetaShort x := fun x e => by rw [e, hm]; exact shortZ _ _ _
  refine br_rev (br_ndec (fun hk3 => ?_) (fun hk3 => ?_))
  all_goals cbv
  all_goals refine mmay_c m (fun _ => kindN (kind .o)) (sZ _ rfl) fun r1 h1 => ?_
  all_goals cbv
  focus
    have hk3 : ¬ kindN (kind .o) = 3 := hk3
    have k1 : (r1 .o == true) = true := by rw [h1.2 (hplain _ hK (.inl hk3))]; rfl
  rotate_left
  focus
    have hk3 : kindN (kind .o) = 3 := hk3
    have k1 : (r1 .o == decide ((IntKind.i64.wrap (mo .o)).tmod 4096 = 511)) = true := bool_iff (h1.trans (hplain'.trans ⟨fun q => q.resolve_left fun e => e hk3, .inr⟩))
  rotate_left
  all_goals
    (first | refine br_is (k1) ?_ | refine br_not (k1) ?_ | refine br_rev (br_is (k1) ?_) | refine br_rev (br_not (k1) ?_))
    cbv
    refine mmay_c (fun _ => { m .o with dflt := l1 .o }) (fun _ => kindN (kind .o)) ⟨(sZ _ rfl).acl, s1, (sZ _ rfl).xs, (sZ _ rfl).long⟩ fun r2 h2 => ?_
    cbv
    have k2 : (r2 .o == decide (kindN (kind .o) = 6)) = true := bool_iff (h2.trans wd)
    (first | refine br_is (k2) ?_ | refine br_not (k2) ?_ | refine br_rev (br_is (k2) ?_) | refine br_rev (br_not (k2) ?_))
    cbv
    refine CallAt.args (.cons (metaE_same (fun _ => { m .o with caps := ⟨2, 0, 0, false, 0⟩ }) rfl) (.cons (.refl _) .nil)) ?_
    refine mmay_c (fun _ => { m .o with caps := ⟨2, 0, 0, false, 0⟩ }) (fun _ => kindN (kind .o)) ⟨(sZ _ rfl).acl, (sZ _ rfl).dflt, (sZ _ rfl).xs, (sZ _ rfl).long⟩ fun r3 h3 => ?_
    cbv
    have k3 : (r3 .o == decide (kindN (kind .o) = 1)) = true := bool_iff (h3.trans wc)
    (first | refine br_is (k3) ?_ | refine br_not (k3) ?_ | refine br_rev (br_is (k3) ?_) | refine br_rev (br_not (k3) ?_))
    cbv
    refine mmay_c (fun _ => { m .o with acl := l2 .o }) (fun _ => kindN (kind .o)) ⟨s2, (sZ _ rfl).dflt, (sZ _ rfl).xs, (sZ _ rfl).long⟩ fun r4 h4 => ?_
    cbv
    have k4 : (r4 .o == !decide (kindN (kind .o) = 3)) = true := bool_not (h4.trans wa)
    (first | refine br_is (k4) ?_ | refine br_not (k4) ?_ | refine br_rev (br_is (k4) ?_) | refine br_rev (br_not (k4) ?_))
    cbv
    refine mmay_c (fun _ => { m .o with flags := 1 }) (fun _ => kindN (kind .o)) ⟨(sZ _ rfl).acl, (sZ _ rfl).dflt, (sZ _ rfl).xs, (sZ _ rfl).long⟩ fun r5 h5 => ?_
    cbv
    have k5 : (r5 .o == !decide (kindN (kind .o) = 3)) = true := bool_not (h5.trans wf)
    (first | refine br_is (k5) ?_ | refine br_not (k5) ?_ | refine br_rev (br_is (k5) ?_) | refine br_rev (br_not (k5) ?_))
    cbv
    refine awake14_c fun r hr => ?_
    cbv
    exact ⟨r, rfl, hr⟩
/-! ### any two -/
theorem fewx_c (l : Th (List Xattr)) {d : Nat} {K : ARes → BL → Prop} (hr : ∀ b : Th Bool, (b .o = true → longX (l .o) ∧ (l .o).length ≤ 40) → K (.ret (.bool b)) .nil) : CallAt PT l13_Few [xattrs l] d .nil K := by
  refine CallAt.res ?_
  refine l13_Few.of rfl rfl ?_
  cbv
  refine loop_rule (X := Nat) 1000 [0] [] (fun k => .cons 3 (.int .i64 fun _ => zi k) .nil) (fun _ => .nil) (fun k => k ≤ 40 ∧ ∀ j, j < k → ((l .o).getD j Xattr.z).name.length ≤ 400) (fun k => 40 - k) 0 ?_ ⟨by decide, fun j hj => absurd hj (Nat.not_lt_zero _)⟩ ?_
  · cbv
    (repeat' (first | exact True.intro | exact Same.refl _ | exact SameB.refl _ | exact ⟨rfl⟩ | exact Same.int rfl | exact Same.str rfl | exact Same.bool rfl | (refine Same.int ?_; simp only [List.length_append, List.length_cons, List.length_nil, zi]; omega) | (refine SameB.row' rfl fun i hi => ?_; first | rfl | exact absurd hi (Nat.not_lt_zero _)) | refine And.intro ?_ ?_ | refine SameB.cells ?_ | exact SameC.nil | refine SameC.cons ?_ ?_ | exact Same.nsl rfl | exact Same.tt rfl | exact Same.ff rfl))
  · rintro k ⟨hk, hj⟩
    have hz := zi_toNat k
    have fin : k = 40 ∨ (l .o).length ≤ k → decide (zi (l .o).length ≤ 40) = true → longX (l .o) ∧ (l .o).length ≤ 40 := fun q e => by
      have e : zi (l .o).length ≤ 40 := of_decide_eq_true e
      have e : (l .o).length ≤ 40 := by unfold zi at e; omega
      refine ⟨fun x hx => ?_, e⟩
      obtain ⟨j, hjl, rfl⟩ := List.getElem_of_mem hx
      have := hj j (by omega)
      rw [List.getD_eq_getElem?_getD, List.getElem?_eq_getElem hjl] at this
      exact Nat.le_trans this (by decide)
    cbv
    ((try refine br_rev ?_); (first | refine br_dec (fun h1 => ?_) (fun h1 => ?_) | refine br_ndec (fun h1 => ?_) (fun h1 => ?_) | refine br_nbool (fun h1 => ?_) (fun h1 => ?_) | refine br_bool (fun h1 => ?_) (fun h1 => ?_)); all_goals (try dsimp only at h1); all_goals (try with_reducible replace h1 := zi_lt.1 h1); all_goals (try with_reducible replace h1 := not_zlt h1))
    · cbv
      ((try refine br_rev ?_); (first | refine br_dec (fun h2 => ?_) (fun h2 => ?_) | refine br_ndec (fun h2 => ?_) (fun h2 => ?_) | refine br_nbool (fun h2 => ?_) (fun h2 => ?_) | refine br_bool (fun h2 => ?_) (fun h2 => ?_)); all_goals (try dsimp only at h2); all_goals (try with_reducible replace h2 := zi_lt.1 h2); all_goals (try with_reducible replace h2 := not_zlt h2))
      · have h2 : k < 40 := h2
        cbv
        refine safe ⟨zi_nonneg _, zi_lt.2 h1⟩ ?_
        rw [hz]
        refine br_rev (br_dec (fun h3 => ?_) (fun h3 => ?_))
        · cbv
          exact ⟨_, .ret (y := .bool fun _ => false) (.ff rfl), hr _ fun q => by cases q⟩
        have h3 : ((l .o).getD k Xattr.z).name.length ≤ 400 := by have h3 : ¬ 400 < zi ((l .o).getD k Xattr.z).name.length := h3; unfold zi at h3; omega
        cbv
        refine safe ⟨zi_nonneg _, zi_lt.2 h1⟩ ?_
        refine br_dec (fun h4 => ?_) (fun h4 => ?_)
        · cbv
          exact ⟨_, .ret (y := .bool fun _ => false) (.ff rfl), hr _ fun q => by cases q⟩
        cbv
        refine ⟨k + 1, ⟨h2, fun j hj' => ?_⟩, by omega, ?_⟩
        · rcases Nat.lt_or_ge j k with q | q
          · exact hj j q
          · obtain rfl : j = k := by omega
            exact h3
        cbv
        rw [zi_succ (by omega)]
        (repeat' (first | exact True.intro | exact Same.refl _ | exact SameB.refl _ | exact ⟨rfl⟩ | exact Same.int rfl | exact Same.str rfl | exact Same.bool rfl | (refine Same.int ?_; simp only [List.length_append, List.length_cons, List.length_nil, zi]; omega) | (refine SameB.row' rfl fun i hi => ?_; first | rfl | exact absurd hi (Nat.not_lt_zero _)) | refine And.intro ?_ ?_ | refine SameB.cells ?_ | exact SameC.nil | refine SameC.cons ?_ ?_ | exact Same.nsl rfl | exact Same.tt rfl | exact Same.ff rfl))
      · have h2 : 40 ≤ k := h2
        cbv
        exact ⟨_, .ret (Same.refl _), hr _ (fin (.inl (by omega)))⟩
    · cbv
      exact ⟨_, .ret (Same.refl _), hr _ (fin (.inr h1))⟩
theorem heavym_c (m : Th Meta) {d : Nat} {K : ARes → BL → Prop} (hr : ∀ b : Th Bool, (b .o = false → MetaShort (m .o)) → K (.ret (.bool b)) .nil) : CallAt PT l14_Heavy [Meta.av m] d .nil K := by
  refine CallAt.res ?_
  refine l14_Heavy.of rfl rfl ?_
  cbv
  refine br_rev (br_dec (fun h1 => ?_) (fun h1 => ?_))
  · cbv
    exact ⟨_, .ret (y := .bool fun _ => true) (.tt rfl), hr _ fun q => by cases q⟩
  have h1 : short (m .o).acl := by have h1 : ¬ 60 < zi (m .o).acl.length := h1; unfold zi at h1; unfold short; omega
  cbv
  refine br_rev (br_dec (fun h2 => ?_) (fun h2 => ?_))
  · cbv
    exact ⟨_, .ret (y := .bool fun _ => true) (.tt rfl), hr _ fun q => by cases q⟩
  have h2 : short (m .o).dflt := by have h2 : ¬ 60 < zi (m .o).dflt.length := h2; unfold zi at h2; unfold short; omega
  cbv
  refine fewx_c (fun _ => (m .o).xs) fun b hb => ?_
  cbv
  refine ⟨_, .ret (Same.refl _), hr _ fun q => ?_⟩
  have q : (!b .o) = false := q
  have q := hb (by simpa using q)
  exact ⟨h1, h2, Nat.le_trans q.2 (by decide), q.1⟩
theorem metaAll_c (m n : Th Meta) (k mo u g : Th Int) (_ : short (m .o).acl) (_ : short (n .o).acl) : CallAt PT l14_MetaAll [Meta.av m, Meta.av n, .int .i64 k, .int .i64 mo, .int .i64 u, .int .i64 g] 9999 .nil Yes := by
  refine l14_MetaAll.of rfl rfl ?_
  cbv
  refine heavym_c m fun b1 hb1 => ?_
  cbv
  refine br_rev (br_bool (fun h1 => ?_) (fun h1 => ?_))
  · cbv
    refine awake14_c fun b hb => ?_
    cbv
    exact ⟨b, rfl, hb⟩
  have sm := hb1 h1
  cbv
  refine heavym_c n fun b2 hb2 => ?_
  cbv
  refine br_bool (fun h2 => ?_) (fun h2 => ?_)
  · cbv
    refine awake14_c fun b hb => ?_
    cbv
    exact ⟨b, rfl, hb⟩
  have sn := hb2 h2
  cbv
  refine mmay_c m k sm fun r1 e1 => ?_
  cbv
  refine maymeta9_c m k sm fun r2 e2 => ?_
  cbv
  have k1 : (r1 .o == r2 .o) = true := by rw [beq_iff_eq, Bool.eq_iff_iff, e1, e2]
  (first | refine br_is (k1) ?_ | refine br_not (k1) ?_ | refine br_rev (br_is (k1) ?_) | refine br_rev (br_not (k1) ?_))
  cbv
  refine msame_c m n sm.acl sm.dflt sm.xs fun r3 e3 => ?_
  cbv
  refine sameM_c m n sm.acl sm.dflt sm.xs fun r4 e4 => ?_
  cbv
  have k2 : (r3 .o == r4 .o) = true := by rw [beq_iff_eq, Bool.eq_iff_iff, e3, e4]
  (first | refine br_is (k2) ?_ | refine br_not (k2) ?_ | refine br_rev (br_is (k2) ?_) | refine br_rev (br_not (k2) ?_))
  cbv
  refine msame_c m m sm.acl sm.dflt sm.xs fun r5 e5 => ?_
  have k3 : r5 .o = true := e5.2 rfl
  cbv
  (first | refine br_is (k3) ?_ | refine br_not (k3) ?_ | refine br_rev (br_is (k3) ?_) | refine br_rev (br_not (k3) ?_))
  cbv
  refine mplain_c mo u g fun p1 q1 => ?_
  cbv
  refine plain_c mo u g fun p2 q2 => ?_
  cbv
  refine msame_c p1 p2 (by rw [q1]; exact Nat.zero_le _) (by rw [q1]; exact Nat.zero_le _) (by rw [q1]; exact Nat.zero_le _) fun r6 e6 => ?_
  have k4 : r6 .o = true := e6.2 (by rw [q1, q2])
  cbv
  (first | refine br_is (k4) ?_ | refine br_not (k4) ?_ | refine br_rev (br_is (k4) ?_) | refine br_rev (br_not (k4) ?_))
  cbv
  refine awake14_c fun b hb => ?_
  cbv
  exact ⟨b, rfl, hb⟩
end Go.Proofs.Ytgjlkcdnlndlnaa
/- Arguments of the program's own kinds, opened: what is kept of a file, who asks. -/
namespace Go.Proofs.Ytgjlkcdnlndlnaa
open Go Go.Proofs.Ytgjlkcdnlndlnaa.Sx
set_option linter.unusedVariables false

def isStructB (P : Program) (t : TypeId) : Bool := match P.underlying t with | some (.struct _) => true | _ => false
theorem okStruct {P : Program} {w : World} {r : Reach} {base : Nat} {t : TypeId} {v : Value} (hs : isStructB P t = true) (h : Value.okWide P w r base t v) : ∃ cs, v = .agg cs := by
  unfold isStructB at hs
  split at hs
  · rename_i fs hu
    obtain ⟨cs, h1, _⟩ := Go.WideShapes.okWide_struct hu h
    exact ⟨cs, h1⟩
  · cases hs
theorem agg_one {E : Env} {c : AV} {a : Array Value} (h : ListC E c a.toList) : Rp E (.agg c) (.agg a) := ⟨a.toList, by simp, h⟩
theorem th_eta {α : Type} (x : Th α) : (fun _ => x .o) = x := funext fun | .o => rfl
theorem rows_eq {α : Type} {ch : Th α → AV} {z : α} {g : Nat → AV} : ∀ m : Nat, (∀ j, j < m → ∃ a : α, g j = ch fun _ => a) → ∃ l : List α, l.length = m ∧ ∀ j, j < m → g j = ch fun _ => l.getD j z
  | 0, _ => ⟨[], rfl, fun j hj => absurd hj (Nat.not_lt_zero _)⟩
  | m + 1, h => by
    obtain ⟨l, h1, h2⟩ := rows_eq (z := z) m fun j hj => h j (by omega)
    obtain ⟨a, ha⟩ := h m (by omega)
    refine ⟨l ++ [a], by simp [h1], fun j hj => ?_⟩
    by_cases q : j < m
    · rw [h2 j q]
      congr 1
      funext _
      simp only [List.getD_eq_getElem?_getD]
      rw [List.getElem?_append_left (by omega)]
    · obtain rfl : j = m := by omega
      rw [ha]
      congr 1
      funext _
      simp [List.getD_eq_getElem?_getD, h1]
def aceC : CS := .i .i64 (.i .i64 (.i .i64 .nil))
def xatC : CS := .s (.s .nil)
def metaC : CS := .i .i64 (.i .i64 (.i .i64 (.i .i64 (.i .i64 (.sl aceC (.sl aceC (.sl xatC (.i .i64 (.i .u64 (.i .u64 (.b (.i .i64 (.i .i64 .nil)))))))))))))
def credC : CS := .i .i64 (.i .i64 (.sl (.i .i64 .nil) (.i .i64 .nil)))
theorem ace_of {c : AV} (h : Shape aceC c) : ∃ a : Ace, c = Ace.ch fun _ => a := by
  obtain ⟨x, _, rfl, _, y, _, rfl, _, z, _, rfl, _, rfl⟩ := h
  refine ⟨⟨x .o, y .o, z .o⟩, ?_⟩
  show _ = AV.cons (.int .i64 fun _ => x .o) (.cons (.int .i64 fun _ => y .o) (.cons (.int .i64 fun _ => z .o) .nil))
  rw [th_eta, th_eta, th_eta]
theorem xat_of {c : AV} (h : Shape xatC c) : ∃ a : Xattr, c = Xattr.ch fun _ => a := by
  obtain ⟨x, _, rfl, _, y, _, rfl, _, rfl⟩ := h
  refine ⟨⟨x .o, y .o⟩, ?_⟩
  show _ = AV.cons (.str fun _ => x .o) (.cons (.str fun _ => y .o) .nil)
  rw [th_eta, th_eta]
theorem aces_of {n : Th Nat} {g : Th Nat → AV} (h : ∀ j, j < n .o → Shape aceC (g fun _ => j)) : ∃ l : List Ace, l.length = n .o ∧ Same (.sl 3 n g) (aces fun _ => l) := by
  obtain ⟨l, h1, h2⟩ := rows_eq (ch := Ace.ch) (z := Ace.z) (g := fun j => g fun _ => j) (n .o) fun j hj => ace_of (h j hj)
  exact ⟨l, h1, Same.sl h1.symm fun j hj => h2 j hj⟩
theorem xats_of {n : Th Nat} {g : Th Nat → AV} (h : ∀ j, j < n .o → Shape xatC (g fun _ => j)) : ∃ l : List Xattr, l.length = n .o ∧ Same (.sl 2 n g) (xattrs fun _ => l) := by
  obtain ⟨l, h1, h2⟩ := rows_eq (ch := Xattr.ch) (z := Xattr.z) (g := fun j => g fun _ => j) (n .o) fun j hj => xat_of (h j hj)
  exact ⟨l, h1, Same.sl h1.symm fun j hj => h2 j hj⟩
theorem ints_of {n : Th Nat} {g : Th Nat → AV} (h : ∀ j, j < n .o → Shape (.i .i64 .nil) (g fun _ => j)) : ∃ l : List Int, l.length = n .o ∧ Same (.sl 1 n g) (ints fun _ => l) := by
  obtain ⟨l, h1, h2⟩ := rows_eq (ch := fun a : Th Int => .cons (.int .i64 a) .nil) (z := 0) (g := fun j => g fun _ => j) (n .o) fun j hj => by
    obtain ⟨x, _, hx, _, rfl⟩ := h j hj
    exact ⟨x .o, by rw [hx]⟩
  exact ⟨l, h1, Same.sl h1.symm fun j hj => h2 j hj⟩
theorem arg_meta {c : AV} (h : Shape metaC c) : ∃ m : Meta, short m.acl ∧ SameC c (Meta.ch fun _ => m) := by
  obtain ⟨x1, _, rfl, _, x2, _, rfl, _, x3, _, rfl, _, x4, _, rfl, _, x5, _, rfl, _, n1, g1, _, rfl, s1, e1, n2, g2, _, rfl, s2, e2, n3, g3, _, rfl, s3, e3, x6, _, rfl, _, x7, _, rfl, _, x8, _, rfl, _, x9, _, rfl, x10, _, rfl, _, x11, _, rfl, _, rfl⟩ := h
  obtain ⟨l1, a1, b1⟩ := aces_of e1
  obtain ⟨l2, a2, b2⟩ := aces_of e2
  obtain ⟨l3, a3, b3⟩ := xats_of e3
  exact ⟨⟨x1 .o, x2 .o, x3 .o, x4 .o, x5 .o, l1, l2, l3, ⟨x6 .o, x7 .o, x8 .o, x9 .o, x10 .o⟩, x11 .o⟩, by show l1.length ≤ _; omega,
    .cons (.int rfl) (.cons (.int rfl) (.cons (.int rfl) (.cons (.int rfl) (.cons (.int rfl) (.cons b1 (.cons b2 (.cons b3 (.cons (.int rfl) (.cons (.int rfl) (.cons (.int rfl) (.cons (.bool rfl) (.cons (.int rfl) (.cons (.int rfl) .nil)))))))))))))⟩
theorem arg_cred {c : AV} (h : Shape credC c) : ∃ m : Cred, short m.groups ∧ SameC c (Cred.ch fun _ => m) := by
  obtain ⟨x1, _, rfl, _, x2, _, rfl, _, n1, g1, _, rfl, s1, e1, x3, _, rfl, _, rfl⟩ := h
  obtain ⟨l1, a1, b1⟩ := ints_of e1
  exact ⟨⟨x1 .o, x2 .o, l1, x3 .o⟩, by show l1.length ≤ _; omega, .cons (.int rfl) (.cons (.int rfl) (.cons b1 (.cons (.int rfl) .nil)))⟩
def entryC : CS := .s (.i .i64 (.i .i64 (.i .i64 (.i .i64 (.i .i64 (.i .i64 (.sl aceC (.sl aceC (.sl xatC (.i .i64 (.i .u64 (.i .u64 (.b (.i .i64 (.i .i64 (.s (.s (.i .i64 (.i .i64 .nil)))))))))))))))))))
theorem arg_entry {c : AV} (h : Shape entryC c) : ∃ m : Entry, short m.mt.acl ∧ SameC c (Entry.ch fun _ => m) := by
  obtain ⟨y1, _, rfl, _, y2, _, rfl, _, x1, _, rfl, _, x2, _, rfl, _, x3, _, rfl, _, x4, _, rfl, _, x5, _, rfl, _, n1, g1, _, rfl, s1, e1, n2, g2, _, rfl, s2, e2, n3, g3, _, rfl, s3, e3, x6, _, rfl, _, x7, _, rfl, _, x8, _, rfl, _, x9, _, rfl, x10, _, rfl, _, x11, _, rfl, _, y3, _, rfl, _, y4, _, rfl, _, y5, _, rfl, _, y6, _, rfl, _, rfl⟩ := h
  obtain ⟨l1, a1, b1⟩ := aces_of e1
  obtain ⟨l2, a2, b2⟩ := aces_of e2
  obtain ⟨l3, a3, b3⟩ := xats_of e3
  exact ⟨⟨y1 .o, y2 .o, ⟨x1 .o, x2 .o, x3 .o, x4 .o, x5 .o, l1, l2, l3, ⟨x6 .o, x7 .o, x8 .o, x9 .o, x10 .o⟩, x11 .o⟩, y3 .o, y4 .o, y5 .o, y6 .o⟩, by show l1.length ≤ _; omega,
    .cons (.str rfl) (.cons (.int rfl) (.cons (.int rfl) (.cons (.int rfl) (.cons (.int rfl) (.cons (.int rfl) (.cons (.int rfl) (.cons b1 (.cons b2 (.cons b3 (.cons (.int rfl) (.cons (.int rfl) (.cons (.int rfl) (.cons (.bool rfl) (.cons (.int rfl) (.cons (.int rfl) (.cons (.str rfl) (.cons (.str rfl) (.cons (.int rfl) (.cons (.int rfl) .nil)))))))))))))))))))⟩
end Go.Proofs.Ytgjlkcdnlndlnaa
