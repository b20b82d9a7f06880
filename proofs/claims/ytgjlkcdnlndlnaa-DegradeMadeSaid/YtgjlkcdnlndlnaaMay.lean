/- Which lists may be: r9.MayAcl walked, as far as the rights want it. -/
import Derived.Test.YtgjlkcdnlndlnaaRightMade
namespace Go.Proofs.Ytgjlkcdnlndlnaa
open Go Go.Proofs.Ytgjlkcdnlndlnaa.Sx F
set_option linter.unusedVariables false
set_option linter.unusedSimpArgs false

theorem band_mod9 (x : Int) : band x 511 = x % 512 := by
  have he : band x 511 = IntKind.i64.wrap ((BitVec.ofInt 64 x &&& BitVec.ofInt 64 511).toNat : Int) := rfl
  rw [he, BitVec.toNat_and, show (BitVec.ofInt 64 511).toNat = 2 ^ 9 - 1 from rfl, Nat.and_two_pow_sub_one_eq_mod, BitVec.toNat_ofInt, IntKind.wrap_i64]
  omega
theorem band_mod3 (x : Int) : band x 7 = x % 8 := by
  have he : band x 7 = IntKind.i64.wrap ((BitVec.ofInt 64 x &&& BitVec.ofInt 64 7).toNat : Int) := rfl
  rw [he, BitVec.toNat_and, show (BitVec.ofInt 64 7).toNat = 2 ^ 3 - 1 from rfl, Nat.and_two_pow_sub_one_eq_mod, BitVec.toNat_ofInt, IntKind.wrap_i64]
  omega
theorem mode_eq' (n : Int) : mode9 n = fromMode n := by
  unfold mode9 fromMode
  simp only [band_mod9, band_mod3]
  rw [show ((2 : Int) ^ 6) = 64 from rfl, show ((2 : Int) ^ 3) = 8 from rfl]
  rw [Int.fdiv_eq_ediv_of_nonneg _ (by decide), Int.fdiv_eq_ediv_of_nonneg _ (by decide), Int.fdiv_eq_ediv_of_nonneg _ (by decide), Int.fdiv_eq_ediv_of_nonneg _ (by decide)]
  rw [show n / 64 % 8 = n % 512 / 64 by omega, show n / 8 % 8 = n % 512 / 8 % 8 by omega, show n % 8 = n % 512 % 8 by omega]

theorem named_c (a : Th Ace) {d : Nat} {K : ARes → BL → Prop} (hr : ∀ b : Th Bool, K (.ret (.bool b)) .nil) : CallAt PT r9_named [Ace.av a] d .nil K := by
  refine CallAt.res ?_
  refine r9_named.of rfl rfl ?_
  cbv
  ((try refine br_rev ?_); (first | refine br_dec (fun h1 => ?_) (fun h1 => ?_) | refine br_ndec (fun h1 => ?_) (fun h1 => ?_) | refine br_nbool (fun h1 => ?_) (fun h1 => ?_) | refine br_bool (fun h1 => ?_) (fun h1 => ?_)); all_goals (try dsimp only at h1); all_goals (try with_reducible replace h1 := zi_lt.1 h1); all_goals (try with_reducible replace h1 := not_zlt h1)) <;> cbv
  · exact ⟨_, .ret (.tt rfl), hr (fun _ => true)⟩
  · exact ⟨_, .ret (.refl _), hr _⟩

theorem may_c (l : Th (List Ace)) (hl : short (l .o)) {d : Nat} {K : ARes → BL → Prop} (hr : ∀ b : Th Bool, (b .o = true → Good (l .o)) → K (.ret (.bool b)) .nil) : CallAt PT r9_MayAcl [aces l] d .nil K := by
  refine CallAt.res ?_
  have hr' : ∀ b : Th Bool, (b .o = true → Good (l .o)) → ∃ r', SameR (.ret (.bool b)) r' ∧ K r' .nil := fun b h => ⟨_, .ret (.refl _), hr b h⟩
  have hf : ∃ r', SameR (.ret .ff) r' ∧ K r' .nil := ⟨_, .ret (.ff rfl), hr (fun _ => false) (fun q => by cases q)⟩
  refine r9_MayAcl.of rfl rfl ?_
  cbv
  ((try refine br_rev ?_); (first | refine br_dec (fun h1 => ?_) (fun h1 => ?_) | refine br_ndec (fun h1 => ?_) (fun h1 => ?_) | refine br_nbool (fun h1 => ?_) (fun h1 => ?_) | refine br_bool (fun h1 => ?_) (fun h1 => ?_)); all_goals (try dsimp only at h1); all_goals (try with_reducible replace h1 := zi_lt.1 h1); all_goals (try with_reducible replace h1 := not_zlt h1))
  all_goals try (cbv; exact hf)
  cbv
  ((try refine br_rev ?_); (first | refine br_dec (fun h2 => ?_) (fun h2 => ?_) | refine br_ndec (fun h2 => ?_) (fun h2 => ?_) | refine br_nbool (fun h2 => ?_) (fun h2 => ?_) | refine br_bool (fun h2 => ?_) (fun h2 => ?_)); all_goals (try dsimp only at h2); all_goals (try with_reducible replace h2 := zi_lt.1 h2); all_goals (try with_reducible replace h2 := not_zlt h2))
  all_goals try (cbv; exact hf)
  (cbv; repeat (refine safe (by first | decide | (simp only [zi] at *; omega) | assumption | (dsimp only; omega) | (dsimp only at *; simp only [List.length_append, List.length_cons, List.length_nil, zi] at *; omega)) ?_; cbv))
  refine loop_at (X := Nat × List Int) 1000 [0, 3] [] (fun _ x => .cons 4 (.int .i64 fun _ => zi x.1) .nil) (fun _ x => .cons 14 (rowB 1 intCh 0 fun _ => x.2) .nil)
    (fun x => x.1 ≤ (l .o).length ∧ x.2.length = 7 ∧ (∀ j, j < x.1 → 0 ≤ ((l .o).getD j Ace.z).perm ∧ ((l .o).getD j Ace.z).perm < 8) ∧ ∀ t : Nat, x.2.getD t 0 ≠ 0 → ∃ j, j < x.1 ∧ ((l .o).getD j Ace.z).tag = (t : Int)) (fun x => (l .o).length - x.1) (0, List.replicate 7 0) ?_ ⟨Nat.zero_le _, by simp, fun j hj => absurd hj (Nat.not_lt_zero _), fun t ht => absurd (by rw [List.getD_eq_getElem?_getD, List.getElem?_replicate]; split <;> rfl) ht⟩ ?_
  · cbv
    (repeat' (first | exact True.intro | exact Same.refl _ | exact SameB.refl _ | exact ⟨rfl⟩ | exact Same.int rfl | exact Same.str rfl | exact Same.bool rfl | (refine Same.int ?_; simp only [List.length_append, List.length_cons, List.length_nil, zi]; omega) | (refine SameB.row' rfl fun i hi => ?_; first | rfl | exact absurd hi (Nat.not_lt_zero _)) | refine And.intro ?_ ?_ | refine SameB.cells ?_ | exact SameC.nil | refine SameC.cons ?_ ?_ | exact Same.nsl rfl | exact Same.tt rfl | exact Same.ff rfl))
    all_goals
      refine SameB.row' (by simp) fun i hi => ?_
      show intCh (fun _ => 0) = intCh fun _ => (List.replicate 7 0).getD i 0
      congr 1
      funext _
      rw [List.getD_eq_getElem?_getD, List.getElem?_replicate]
      split <;> rfl
  · rintro ⟨k, ls⟩ ⟨hk, hls, hperm, hcnt⟩
    dsimp only at hk hls hperm hcnt
    cbv
    ((try refine br_rev ?_); (first | refine br_dec (fun h3 => ?_) (fun h3 => ?_) | refine br_ndec (fun h3 => ?_) (fun h3 => ?_) | refine br_nbool (fun h3 => ?_) (fun h3 => ?_) | refine br_bool (fun h3 => ?_) (fun h3 => ?_)); all_goals (try dsimp only at h3); all_goals (try with_reducible replace h3 := zi_lt.1 h3); all_goals (try with_reducible replace h3 := not_zlt h3))
    · have h3 : k < (l .o).length := h3
      cbv
      refine safe ⟨zi_nonneg _, zi_lt.2 h3⟩ ?_
      ((try refine br_rev ?_); (first | refine br_dec (fun h4 => ?_) (fun h4 => ?_) | refine br_ndec (fun h4 => ?_) (fun h4 => ?_) | refine br_nbool (fun h4 => ?_) (fun h4 => ?_) | refine br_bool (fun h4 => ?_) (fun h4 => ?_)); all_goals (try dsimp only at h4); all_goals (try with_reducible replace h4 := zi_lt.1 h4); all_goals (try with_reducible replace h4 := not_zlt h4))
      all_goals try (cbv; exact hf)
      cbv
      ((try refine br_rev ?_); (first | refine br_dec (fun h5 => ?_) (fun h5 => ?_) | refine br_ndec (fun h5 => ?_) (fun h5 => ?_) | refine br_nbool (fun h5 => ?_) (fun h5 => ?_) | refine br_bool (fun h5 => ?_) (fun h5 => ?_)); all_goals (try dsimp only at h5); all_goals (try with_reducible replace h5 := zi_lt.1 h5); all_goals (try with_reducible replace h5 := not_zlt h5))
      all_goals try (cbv; exact hf)
      cbv
      ((try refine br_rev ?_); (first | refine br_dec (fun h6 => ?_) (fun h6 => ?_) | refine br_ndec (fun h6 => ?_) (fun h6 => ?_) | refine br_nbool (fun h6 => ?_) (fun h6 => ?_) | refine br_bool (fun h6 => ?_) (fun h6 => ?_)); all_goals (try dsimp only at h6); all_goals (try with_reducible replace h6 := zi_lt.1 h6); all_goals (try with_reducible replace h6 := not_zlt h6))
      all_goals try (cbv; exact hf)
      cbv
      ((try refine br_rev ?_); (first | refine br_dec (fun h7 => ?_) (fun h7 => ?_) | refine br_ndec (fun h7 => ?_) (fun h7 => ?_) | refine br_nbool (fun h7 => ?_) (fun h7 => ?_) | refine br_bool (fun h7 => ?_) (fun h7 => ?_)); all_goals (try dsimp only at h7); all_goals (try with_reducible replace h7 := zi_lt.1 h7); all_goals (try with_reducible replace h7 := not_zlt h7))
      all_goals try (cbv; exact hf)
      cbv
      ((try refine br_rev ?_); (first | refine br_dec (fun h8 => ?_) (fun h8 => ?_) | refine br_ndec (fun h8 => ?_) (fun h8 => ?_) | refine br_nbool (fun h8 => ?_) (fun h8 => ?_) | refine br_bool (fun h8 => ?_) (fun h8 => ?_)); all_goals (try dsimp only at h8); all_goals (try with_reducible replace h8 := zi_lt.1 h8); all_goals (try with_reducible replace h8 := not_zlt h8))
      all_goals try (cbv; exact hf)
      cbv
      ((try refine br_rev ?_); (first | refine br_dec (fun h9 => ?_) (fun h9 => ?_) | refine br_ndec (fun h9 => ?_) (fun h9 => ?_) | refine br_nbool (fun h9 => ?_) (fun h9 => ?_) | refine br_bool (fun h9 => ?_) (fun h9 => ?_)); all_goals (try dsimp only at h9); all_goals (try with_reducible replace h9 := zi_lt.1 h9); all_goals (try with_reducible replace h9 := not_zlt h9))
      all_goals try (cbv; exact hf)
      cbv
      have hz := zi_toNat k
      have next : ∀ v : Int, k + 1 ≤ (l .o).length ∧ (ls.set ((l .o).getD (zi k).toNat Ace.z).tag.toNat v).length = 7 ∧ (∀ j, j < k + 1 → 0 ≤ ((l .o).getD j Ace.z).perm ∧ ((l .o).getD j Ace.z).perm < 8) ∧
          ∀ t : Nat, (ls.set ((l .o).getD (zi k).toNat Ace.z).tag.toNat v).getD t 0 ≠ 0 → ∃ j, j < k + 1 ∧ ((l .o).getD j Ace.z).tag = (t : Int) := by
        intro v
        rw [hz] at h4 h6 h7 ⊢
        refine ⟨h3, by rw [List.length_set]; exact hls, fun j hj => ?_, fun t ht => ?_⟩
        · by_cases q : j = k
          · subst q; omega
          · exact hperm j (by omega)
        · by_cases q : t = ((l .o).getD k Ace.z).tag.toNat
          · exact ⟨k, by omega, by omega⟩
          · rw [List.getD_eq_getElem?_getD, List.getElem?_set_ne (Ne.symm q), ← List.getD_eq_getElem?_getD] at ht
            obtain ⟨j, hj, hjt⟩ := hcnt t ht
            exact ⟨j, by omega, hjt⟩
      have hT : 0 ≤ ((l .o).getD (zi k).toNat Ace.z).tag ∧ ((l .o).getD (zi k).toNat Ace.z).tag < zi ls.length := by
        rw [hls]
        have : zi 7 = 7 := rfl
        omega
      have hTn : ((l .o).getD (zi k).toNat Ace.z).tag.toNat < ls.length := by rw [hls]; omega
      have succ := zi_succ (k := k) (by unfold short at hl; omega)
      refine named_c (fun _ => (l .o).getD (zi k).toNat Ace.z) fun nb => ?_
      cbv
      refine br_nbool (fun ha => ?_) (fun ha => ?_)
      all_goals cbv
      focus
        ((try refine br_rev ?_); (first | refine br_dec (fun hb => ?_) (fun hb => ?_) | refine br_ndec (fun hb => ?_) (fun hb => ?_) | refine br_nbool (fun hb => ?_) (fun hb => ?_) | refine br_bool (fun hb => ?_) (fun hb => ?_)); all_goals (try dsimp only at hb); all_goals (try with_reducible replace hb := zi_lt.1 hb); all_goals (try with_reducible replace hb := not_zlt hb))
        all_goals cbv
        all_goals try exact hf
      rotate_left
      all_goals ((try refine br_rev ?_); (first | refine br_dec (fun hd => ?_) (fun hd => ?_) | refine br_ndec (fun hd => ?_) (fun hd => ?_) | refine br_nbool (fun hd => ?_) (fun hd => ?_) | refine br_bool (fun hd => ?_) (fun hd => ?_)); all_goals (try dsimp only at hd); all_goals (try with_reducible replace hd := zi_lt.1 hd); all_goals (try with_reducible replace hd := not_zlt hd))
      all_goals cbv
      all_goals have hzl := zi_lt.2 h3
      all_goals try (
        have hi1 : 0 ≤ IntKind.i64.wrap (zi k - 1) ∧ IntKind.i64.wrap (zi k - 1) < zi (l .o).length := by rw [IntKind.wrap_i64]; omega
        refine safe hi1 ?_
        ((try refine br_rev ?_); (first | refine br_dec (fun he => ?_) (fun he => ?_) | refine br_ndec (fun he => ?_) (fun he => ?_) | refine br_nbool (fun he => ?_) (fun he => ?_) | refine br_bool (fun he => ?_) (fun he => ?_)); all_goals (try dsimp only at he); all_goals (try with_reducible replace he := zi_lt.1 he); all_goals (try with_reducible replace he := not_zlt he))
        focus (cbv; exact hf)
        cbv
        refine safe hi1 ?_
        ((try refine br_rev ?_); (first | refine br_dec (fun hg => ?_) (fun hg => ?_) | refine br_ndec (fun hg => ?_) (fun hg => ?_) | refine br_nbool (fun hg => ?_) (fun hg => ?_) | refine br_bool (fun hg => ?_) (fun hg => ?_)); all_goals (try dsimp only at hg); all_goals (try with_reducible replace hg := zi_lt.1 hg); all_goals (try with_reducible replace hg := not_zlt hg))
        focus
          cbv
          refine named_c (fun _ => (l .o).getD (zi k).toNat Ace.z) fun nb2 => ?_
          cbv
          refine br_rev (br_nbool (fun hh => ?_) (fun hh => ?_))
          rotate_left
          focus
            cbv
            refine safe hi1 ?_
            ((try refine br_rev ?_); (first | refine br_dec (fun hj => ?_) (fun hj => ?_) | refine br_ndec (fun hj => ?_) (fun hj => ?_) | refine br_nbool (fun hj => ?_) (fun hj => ?_) | refine br_bool (fun hj => ?_) (fun hj => ?_)); all_goals (try dsimp only at hj); all_goals (try with_reducible replace hj := zi_lt.1 hj); all_goals (try with_reducible replace hj := not_zlt hj))
            focus (cbv; exact hf)
            cbv
          rotate_left
          focus (cbv; exact hf)
        rotate_left
        focus cbv)
      all_goals
        refine safe hT ?_
        refine safe hTn ?_
        refine safe hT ?_
        refine put_rows intCh 0 ls (IntKind.i64.wrap (ls.getD ((l .o).getD (zi k).toNat Ace.z).tag.toNat 0 + 1)) rfl (fun i hi => rfl) hTn rfl ?_
        cbv
        refine ⟨(k + 1, ls.set ((l .o).getD (zi k).toNat Ace.z).tag.toNat (IntKind.i64.wrap (ls.getD ((l .o).getD (zi k).toNat Ace.z).tag.toNat 0 + 1))), next _, by show _ - (k + 1) < _ - k; omega, ?_⟩
        cbv
        (repeat' (first | exact True.intro | exact Same.refl _ | exact SameB.refl _ | exact ⟨rfl⟩ | exact Same.int rfl | exact Same.str rfl | exact Same.bool rfl | (refine Same.int ?_; simp only [List.length_append, List.length_cons, List.length_nil, zi]; omega) | (refine SameB.row' rfl fun i hi => ?_; first | rfl | exact absurd hi (Nat.not_lt_zero _)) | refine And.intro ?_ ?_ | refine SameB.cells ?_ | exact SameC.nil | refine SameC.cons ?_ ?_ | exact Same.nsl rfl | exact Same.tt rfl | exact Same.ff rfl))
        all_goals first | exact Same.int succ | exact SameB.row' (by show ls.length = (ls.set _ _).length; rw [List.length_set]) fun i hi => rfl
    · have h3 : (l .o).length ≤ k := h3
      have one : ∀ t : Nat, ls.getD t 0 = 1 → ∃ a ∈ (l .o), a.tag = (t : Int) := by
        intro t ht
        obtain ⟨j, hj, hjt⟩ := hcnt t (by rw [ht]; decide)
        have hjl : j < (l .o).length := by omega
        refine ⟨(l .o).getD j Ace.z, ?_, hjt⟩
        rw [List.getD_eq_getElem?_getD, List.getElem?_eq_getElem hjl]
        exact List.getElem_mem hjl
      have all : ∀ a ∈ (l .o), 0 ≤ a.perm ∧ a.perm < 8 := by
        intro a ha
        obtain ⟨j, hj, rfl⟩ := List.getElem_of_mem ha
        have := hperm j (by omega)
        rwa [List.getD_eq_getElem?_getD, List.getElem?_eq_getElem hj] at this
      cbv
      refine safe (by show (0 : Int) ≤ 1 ∧ (1 : Int) < zi ls.length; rw [hls]; decide) ?_
      refine safe (by show 1 < ls.length; omega) ?_
      ((try refine br_rev ?_); (first | refine br_dec (fun ha => ?_) (fun ha => ?_) | refine br_ndec (fun ha => ?_) (fun ha => ?_) | refine br_nbool (fun ha => ?_) (fun ha => ?_) | refine br_bool (fun ha => ?_) (fun ha => ?_)); all_goals (try dsimp only at ha); all_goals (try with_reducible replace ha := zi_lt.1 ha); all_goals (try with_reducible replace ha := not_zlt ha))
      rotate_left
      focus (cbv; exact hf)
      cbv
      refine safe (by show (0 : Int) ≤ 3 ∧ (3 : Int) < zi ls.length; rw [hls]; decide) ?_
      refine safe (by show 3 < ls.length; omega) ?_
      ((try refine br_rev ?_); (first | refine br_dec (fun hb => ?_) (fun hb => ?_) | refine br_ndec (fun hb => ?_) (fun hb => ?_) | refine br_nbool (fun hb => ?_) (fun hb => ?_) | refine br_bool (fun hb => ?_) (fun hb => ?_)); all_goals (try dsimp only at hb); all_goals (try with_reducible replace hb := zi_lt.1 hb); all_goals (try with_reducible replace hb := not_zlt hb))
      rotate_left
      focus (cbv; exact hf)
      cbv
      refine safe (by show (0 : Int) ≤ 6 ∧ (6 : Int) < zi ls.length; rw [hls]; decide) ?_
      refine safe (by show 6 < ls.length; omega) ?_
      ((try refine br_rev ?_); (first | refine br_dec (fun hd => ?_) (fun hd => ?_) | refine br_ndec (fun hd => ?_) (fun hd => ?_) | refine br_nbool (fun hd => ?_) (fun hd => ?_) | refine br_bool (fun hd => ?_) (fun hd => ?_)); all_goals (try dsimp only at hd); all_goals (try with_reducible replace hd := zi_lt.1 hd); all_goals (try with_reducible replace hd := not_zlt hd))
      rotate_left
      focus (cbv; exact hf)
      have good : Good (l .o) := ⟨all, one 1 ha, one 3 hb, one 6 hd⟩
      cbv
      refine safe (by show (0 : Int) ≤ 5 ∧ (5 : Int) < zi ls.length; rw [hls]; decide) ?_
      refine safe (by show 5 < ls.length; omega) ?_
      refine safe (by show (0 : Int) ≤ 2 ∧ (2 : Int) < zi ls.length; rw [hls]; decide) ?_
      refine safe (by show 2 < ls.length; omega) ?_
      refine safe (by show (0 : Int) ≤ 4 ∧ (4 : Int) < zi ls.length; rw [hls]; decide) ?_
      refine safe (by show 4 < ls.length; omega) ?_
      exact hr' _ fun _ => good

theorem of9_eq (m : Meta) : of9 m = ofS m := by
  unfold of9 ofS
  rw [mode_eq']

end Go.Proofs.Ytgjlkcdnlndlnaa
