/- The document's mode that gives nobody more, walked; and that it is the program's. -/
import Derived.Test.YtgjlkcdnlndlnaaRef
namespace Go.Proofs.Ytgjlkcdnlndlnaa
open Go Go.Proofs.Ytgjlkcdnlndlnaa.Sx F
set_option linter.unusedVariables false
set_option linter.unusedSimpArgs false

def less9G (mask : Int) : List Ace → Int → Int → Int × Int
  | [], g, o => (g, o)
  | a :: r, g, o =>
    if a.tag = 2 then less9G mask r (band g a.perm) (band (band o a.perm) mask)
    else if a.tag = 4 then less9G mask r g (band (band o a.perm) mask)
    else less9G mask r g o
def less9N (p g o : Int) : Int := IntKind.i64.wrap (IntKind.i64.wrap (IntKind.i64.wrap (p * 64) + IntKind.i64.wrap (g * 8)) + o)
def less9O (l : List Ace) (mask : Int) : Int := less9N (permR l 1) (less9G mask l (band (permR l 3) mask) (permR l 6)).1 (less9G mask l (band (permR l 3) mask) (permR l 6)).2
def Less9 (m : Meta) : Int := if m.acl.length = 0 then band m.mode 511 else less9O m.acl (mask9 m.acl)
theorem Less9_c (m : Th Meta) (hm : short (m .o).acl) {d : Nat} {K : ARes → BL → Prop} (hr : ∀ n : Th Int, n .o = Less9 (m .o) → K (.ret (.int .i64 n)) .nil) : CallAt PT r18_Less [Meta.av m] d .nil K := by
  refine r18_Less.of rfl rfl ?_
  cbv
  refine br_dec (fun h0 => ?_) (fun h0 => ?_)
  · have h0 : (m .o).acl.length = 0 := zi_inj.1 h0
    cbv
    exact hr _ (by unfold Less9; rw [if_pos h0]; rfl)
  have h0 : ¬ (m .o).acl.length = 0 := fun q => h0 (zi_inj.2 q)
  cbv
  refine perm9_c (fun _ => (m .o).acl) (fun _ => 5) hm fun n hn => ?_
  cbv
  refine br_dec (fun h5 => ?_) (fun h5 => ?_)
  · skip
    have hmk : mask9 (m .o).acl = (7 : Int) := (by unfold mask9; rw [if_pos (show permR (m .o).acl 5 < 0 by rw [← hn]; exact h5)])
    cbv
    refine perm9_c (fun _ => (m .o).acl) (fun _ => 3) hm fun g hg => ?_
    cbv
    refine perm9_c (fun _ => (m .o).acl) (fun _ => 6) hm fun o ho => ?_
    cbv
    refine loop_rule (X := Nat × Int × Int) 1000 [1, 3] [1] (fun x => .cons 4 (.int .i64 fun _ => x.2.1) (.cons 5 (.int .i64 fun _ => x.2.2) (.cons 6 (.int .i64 fun _ => zi x.1) .nil))) (fun _ => .nil)
      (fun x => x.1 ≤ (m .o).acl.length ∧ less9G ((7 : Int)) (m .o).acl (band (g .o) ((7 : Int))) (o .o) = less9G ((7 : Int)) ((m .o).acl.drop x.1) x.2.1 x.2.2) (fun x => (m .o).acl.length - x.1) (0, band (g .o) ((7 : Int)), o .o) ?_ ⟨Nat.zero_le _, rfl⟩ ?_
    · cbv
      (repeat' (first | exact True.intro | exact Same.refl _ | exact SameB.refl _ | exact ⟨rfl⟩ | exact Same.int rfl | exact Same.str rfl | exact Same.bool rfl | (refine Same.int ?_; simp only [List.length_append, List.length_cons, List.length_nil, zi]; omega) | (refine SameB.row' rfl fun i hi => ?_; first | rfl | exact absurd hi (Nat.not_lt_zero _)) | refine And.intro ?_ ?_ | refine SameB.cells ?_ | exact SameC.nil | refine SameC.cons ?_ ?_ | exact Same.nsl rfl | exact Same.tt rfl | exact Same.ff rfl))
    · rintro ⟨k, gg, oo⟩ ⟨hk, hgo⟩
      dsimp only at hk hgo
      have succ := zi_succ (k := k) (by unfold short at hm; omega)
      cbv
      ((try refine br_rev ?_); (first | refine br_dec (fun h2 => ?_) (fun h2 => ?_) | refine br_ndec (fun h2 => ?_) (fun h2 => ?_) | refine br_nbool (fun h2 => ?_) (fun h2 => ?_) | refine br_bool (fun h2 => ?_) (fun h2 => ?_)); all_goals (try dsimp only at h2); all_goals (try with_reducible replace h2 := zi_lt.1 h2); all_goals (try with_reducible replace h2 := not_zlt h2)) <;> cbv
      · rw [drop_cons _ Ace.z _ h2, less9G] at hgo
        have hi : (0 : Int) ≤ zi k ∧ zi k < zi (m .o).acl.length := ⟨zi_nonneg _, zi_lt.2 h2⟩
        refine safe hi ?_
        ((try refine br_rev ?_); (first | refine br_dec (fun h3 => ?_) (fun h3 => ?_) | refine br_ndec (fun h3 => ?_) (fun h3 => ?_) | refine br_nbool (fun h3 => ?_) (fun h3 => ?_) | refine br_bool (fun h3 => ?_) (fun h3 => ?_)); all_goals (try dsimp only at h3); all_goals (try with_reducible replace h3 := zi_lt.1 h3); all_goals (try with_reducible replace h3 := not_zlt h3))
        · replace h3 : ((m .o).acl.getD k Ace.z).tag = 2 := by simpa only [zi_toNat] using h3
          rw [if_pos h3] at hgo
          cbv
          refine safe hi ?_
          refine safe hi ?_
          refine safe hi ?_
          ((try refine br_rev ?_); (first | refine br_dec (fun h4 => ?_) (fun h4 => ?_) | refine br_ndec (fun h4 => ?_) (fun h4 => ?_) | refine br_nbool (fun h4 => ?_) (fun h4 => ?_) | refine br_bool (fun h4 => ?_) (fun h4 => ?_)); all_goals (try dsimp only at h4); all_goals (try with_reducible replace h4 := zi_lt.1 h4); all_goals (try with_reducible replace h4 := not_zlt h4))
          · replace h4 : ((m .o).acl.getD k Ace.z).tag = 4 := by simpa only [zi_toNat] using h4
            omega
          cbv
          refine ⟨(k + 1, band gg ((m .o).acl.getD k Ace.z).perm, band (band oo ((m .o).acl.getD k Ace.z).perm) ((7 : Int))), ⟨h2, hgo⟩, by show _ - (k + 1) < _ - k; omega, ?_⟩
          cbv
          (repeat' (first | exact True.intro | exact Same.refl _ | exact SameB.refl _ | exact ⟨rfl⟩ | exact Same.int rfl | exact Same.str rfl | exact Same.bool rfl | (refine Same.int ?_; simp only [List.length_append, List.length_cons, List.length_nil, zi]; omega) | (refine SameB.row' rfl fun i hi => ?_; first | rfl | exact absurd hi (Nat.not_lt_zero _)) | refine And.intro ?_ ?_ | refine SameB.cells ?_ | exact SameC.nil | refine SameC.cons ?_ ?_ | exact Same.nsl rfl | exact Same.tt rfl | exact Same.ff rfl))
          all_goals first | exact Same.int succ | exact Same.int (by simp only [zi_toNat, band])
        · replace h3 : ¬ ((m .o).acl.getD k Ace.z).tag = 2 := by simpa only [zi_toNat] using h3
          rw [if_neg h3] at hgo
          cbv
          refine safe hi ?_
          ((try refine br_rev ?_); (first | refine br_dec (fun h4 => ?_) (fun h4 => ?_) | refine br_ndec (fun h4 => ?_) (fun h4 => ?_) | refine br_nbool (fun h4 => ?_) (fun h4 => ?_) | refine br_bool (fun h4 => ?_) (fun h4 => ?_)); all_goals (try dsimp only at h4); all_goals (try with_reducible replace h4 := zi_lt.1 h4); all_goals (try with_reducible replace h4 := not_zlt h4))
          · replace h4 : ((m .o).acl.getD k Ace.z).tag = 4 := by simpa only [zi_toNat] using h4
            rw [if_pos h4] at hgo
            cbv
            refine safe hi ?_
            refine ⟨(k + 1, gg, band (band oo ((m .o).acl.getD k Ace.z).perm) ((7 : Int))), ⟨h2, hgo⟩, by show _ - (k + 1) < _ - k; omega, ?_⟩
            cbv
            (repeat' (first | exact True.intro | exact Same.refl _ | exact SameB.refl _ | exact ⟨rfl⟩ | exact Same.int rfl | exact Same.str rfl | exact Same.bool rfl | (refine Same.int ?_; simp only [List.length_append, List.length_cons, List.length_nil, zi]; omega) | (refine SameB.row' rfl fun i hi => ?_; first | rfl | exact absurd hi (Nat.not_lt_zero _)) | refine And.intro ?_ ?_ | refine SameB.cells ?_ | exact SameC.nil | refine SameC.cons ?_ ?_ | exact Same.nsl rfl | exact Same.tt rfl | exact Same.ff rfl))
            all_goals first | exact Same.int succ | exact Same.int (by simp only [zi_toNat, band])
          · replace h4 : ¬ ((m .o).acl.getD k Ace.z).tag = 4 := by simpa only [zi_toNat] using h4
            rw [if_neg h4] at hgo
            cbv
            refine ⟨(k + 1, gg, oo), ⟨h2, hgo⟩, by show _ - (k + 1) < _ - k; omega, ?_⟩
            cbv
            (repeat' (first | exact True.intro | exact Same.refl _ | exact SameB.refl _ | exact ⟨rfl⟩ | exact Same.int rfl | exact Same.str rfl | exact Same.bool rfl | (refine Same.int ?_; simp only [List.length_append, List.length_cons, List.length_nil, zi]; omega) | (refine SameB.row' rfl fun i hi => ?_; first | rfl | exact absurd hi (Nat.not_lt_zero _)) | refine And.intro ?_ ?_ | refine SameB.cells ?_ | exact SameC.nil | refine SameC.cons ?_ ?_ | exact Same.nsl rfl | exact Same.tt rfl | exact Same.ff rfl))
            all_goals exact Same.int succ
      · rw [List.drop_eq_nil_of_le (by omega), less9G] at hgo
        refine perm9_c (fun _ => (m .o).acl) (fun _ => 1) hm fun p hp => ?_
        cbv
        exact hr _ (by unfold Less9; rw [if_neg h0, hmk]; unfold less9O; rw [show permR (m .o).acl 3 = g .o from hg.symm, show permR (m .o).acl 6 = o .o from ho.symm, show permR (m .o).acl 1 = p .o from hp.symm, hgo]; rfl)
  · skip
    have hmk : mask9 (m .o).acl = n .o := (by unfold mask9; rw [if_neg (show ¬ permR (m .o).acl 5 < 0 by rw [← hn]; exact h5)]; exact hn.symm)
    cbv
    refine perm9_c (fun _ => (m .o).acl) (fun _ => 3) hm fun g hg => ?_
    cbv
    refine perm9_c (fun _ => (m .o).acl) (fun _ => 6) hm fun o ho => ?_
    cbv
    refine loop_rule (X := Nat × Int × Int) 1000 [1, 3] [1] (fun x => .cons 4 (.int .i64 fun _ => x.2.1) (.cons 5 (.int .i64 fun _ => x.2.2) (.cons 6 (.int .i64 fun _ => zi x.1) .nil))) (fun _ => .nil)
      (fun x => x.1 ≤ (m .o).acl.length ∧ less9G (n .o) (m .o).acl (band (g .o) (n .o)) (o .o) = less9G (n .o) ((m .o).acl.drop x.1) x.2.1 x.2.2) (fun x => (m .o).acl.length - x.1) (0, band (g .o) (n .o), o .o) ?_ ⟨Nat.zero_le _, rfl⟩ ?_
    · cbv
      (repeat' (first | exact True.intro | exact Same.refl _ | exact SameB.refl _ | exact ⟨rfl⟩ | exact Same.int rfl | exact Same.str rfl | exact Same.bool rfl | (refine Same.int ?_; simp only [List.length_append, List.length_cons, List.length_nil, zi]; omega) | (refine SameB.row' rfl fun i hi => ?_; first | rfl | exact absurd hi (Nat.not_lt_zero _)) | refine And.intro ?_ ?_ | refine SameB.cells ?_ | exact SameC.nil | refine SameC.cons ?_ ?_ | exact Same.nsl rfl | exact Same.tt rfl | exact Same.ff rfl))
    · rintro ⟨k, gg, oo⟩ ⟨hk, hgo⟩
      dsimp only at hk hgo
      have succ := zi_succ (k := k) (by unfold short at hm; omega)
      cbv
      ((try refine br_rev ?_); (first | refine br_dec (fun h2 => ?_) (fun h2 => ?_) | refine br_ndec (fun h2 => ?_) (fun h2 => ?_) | refine br_nbool (fun h2 => ?_) (fun h2 => ?_) | refine br_bool (fun h2 => ?_) (fun h2 => ?_)); all_goals (try dsimp only at h2); all_goals (try with_reducible replace h2 := zi_lt.1 h2); all_goals (try with_reducible replace h2 := not_zlt h2)) <;> cbv
      · rw [drop_cons _ Ace.z _ h2, less9G] at hgo
        have hi : (0 : Int) ≤ zi k ∧ zi k < zi (m .o).acl.length := ⟨zi_nonneg _, zi_lt.2 h2⟩
        refine safe hi ?_
        ((try refine br_rev ?_); (first | refine br_dec (fun h3 => ?_) (fun h3 => ?_) | refine br_ndec (fun h3 => ?_) (fun h3 => ?_) | refine br_nbool (fun h3 => ?_) (fun h3 => ?_) | refine br_bool (fun h3 => ?_) (fun h3 => ?_)); all_goals (try dsimp only at h3); all_goals (try with_reducible replace h3 := zi_lt.1 h3); all_goals (try with_reducible replace h3 := not_zlt h3))
        · replace h3 : ((m .o).acl.getD k Ace.z).tag = 2 := by simpa only [zi_toNat] using h3
          rw [if_pos h3] at hgo
          cbv
          refine safe hi ?_
          refine safe hi ?_
          refine safe hi ?_
          ((try refine br_rev ?_); (first | refine br_dec (fun h4 => ?_) (fun h4 => ?_) | refine br_ndec (fun h4 => ?_) (fun h4 => ?_) | refine br_nbool (fun h4 => ?_) (fun h4 => ?_) | refine br_bool (fun h4 => ?_) (fun h4 => ?_)); all_goals (try dsimp only at h4); all_goals (try with_reducible replace h4 := zi_lt.1 h4); all_goals (try with_reducible replace h4 := not_zlt h4))
          · replace h4 : ((m .o).acl.getD k Ace.z).tag = 4 := by simpa only [zi_toNat] using h4
            omega
          cbv
          refine ⟨(k + 1, band gg ((m .o).acl.getD k Ace.z).perm, band (band oo ((m .o).acl.getD k Ace.z).perm) (n .o)), ⟨h2, hgo⟩, by show _ - (k + 1) < _ - k; omega, ?_⟩
          cbv
          (repeat' (first | exact True.intro | exact Same.refl _ | exact SameB.refl _ | exact ⟨rfl⟩ | exact Same.int rfl | exact Same.str rfl | exact Same.bool rfl | (refine Same.int ?_; simp only [List.length_append, List.length_cons, List.length_nil, zi]; omega) | (refine SameB.row' rfl fun i hi => ?_; first | rfl | exact absurd hi (Nat.not_lt_zero _)) | refine And.intro ?_ ?_ | refine SameB.cells ?_ | exact SameC.nil | refine SameC.cons ?_ ?_ | exact Same.nsl rfl | exact Same.tt rfl | exact Same.ff rfl))
          all_goals first | exact Same.int succ | exact Same.int (by simp only [zi_toNat, band])
        · replace h3 : ¬ ((m .o).acl.getD k Ace.z).tag = 2 := by simpa only [zi_toNat] using h3
          rw [if_neg h3] at hgo
          cbv
          refine safe hi ?_
          ((try refine br_rev ?_); (first | refine br_dec (fun h4 => ?_) (fun h4 => ?_) | refine br_ndec (fun h4 => ?_) (fun h4 => ?_) | refine br_nbool (fun h4 => ?_) (fun h4 => ?_) | refine br_bool (fun h4 => ?_) (fun h4 => ?_)); all_goals (try dsimp only at h4); all_goals (try with_reducible replace h4 := zi_lt.1 h4); all_goals (try with_reducible replace h4 := not_zlt h4))
          · replace h4 : ((m .o).acl.getD k Ace.z).tag = 4 := by simpa only [zi_toNat] using h4
            rw [if_pos h4] at hgo
            cbv
            refine safe hi ?_
            refine ⟨(k + 1, gg, band (band oo ((m .o).acl.getD k Ace.z).perm) (n .o)), ⟨h2, hgo⟩, by show _ - (k + 1) < _ - k; omega, ?_⟩
            cbv
            (repeat' (first | exact True.intro | exact Same.refl _ | exact SameB.refl _ | exact ⟨rfl⟩ | exact Same.int rfl | exact Same.str rfl | exact Same.bool rfl | (refine Same.int ?_; simp only [List.length_append, List.length_cons, List.length_nil, zi]; omega) | (refine SameB.row' rfl fun i hi => ?_; first | rfl | exact absurd hi (Nat.not_lt_zero _)) | refine And.intro ?_ ?_ | refine SameB.cells ?_ | exact SameC.nil | refine SameC.cons ?_ ?_ | exact Same.nsl rfl | exact Same.tt rfl | exact Same.ff rfl))
            all_goals first | exact Same.int succ | exact Same.int (by simp only [zi_toNat, band])
          · replace h4 : ¬ ((m .o).acl.getD k Ace.z).tag = 4 := by simpa only [zi_toNat] using h4
            rw [if_neg h4] at hgo
            cbv
            refine ⟨(k + 1, gg, oo), ⟨h2, hgo⟩, by show _ - (k + 1) < _ - k; omega, ?_⟩
            cbv
            (repeat' (first | exact True.intro | exact Same.refl _ | exact SameB.refl _ | exact ⟨rfl⟩ | exact Same.int rfl | exact Same.str rfl | exact Same.bool rfl | (refine Same.int ?_; simp only [List.length_append, List.length_cons, List.length_nil, zi]; omega) | (refine SameB.row' rfl fun i hi => ?_; first | rfl | exact absurd hi (Nat.not_lt_zero _)) | refine And.intro ?_ ?_ | refine SameB.cells ?_ | exact SameC.nil | refine SameC.cons ?_ ?_ | exact Same.nsl rfl | exact Same.tt rfl | exact Same.ff rfl))
            all_goals exact Same.int succ
      · rw [List.drop_eq_nil_of_le (by omega), less9G] at hgo
        refine perm9_c (fun _ => (m .o).acl) (fun _ => 1) hm fun p hp => ?_
        cbv
        exact hr _ (by unfold Less9; rw [if_neg h0, hmk]; unfold less9O; rw [show permR (m .o).acl 3 = g .o from hg.symm, show permR (m .o).acl 6 = o .o from ho.symm, show permR (m .o).acl 1 = p .o from hp.symm, hgo]; rfl)
end Go.Proofs.Ytgjlkcdnlndlnaa
