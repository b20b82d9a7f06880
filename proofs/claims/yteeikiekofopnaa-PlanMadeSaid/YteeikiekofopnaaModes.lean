/- The law RightModes, walked: it answers true whatever the numbers. -/
import Derived.Test.YteeikiekofopnaaMade
import Derived.Test.YteeikiekofopnaaRow
namespace Go.Proofs.Yteeikiekofopnaa
open Go Go.Proofs.Yteeikiekofopnaa.Sx F
set_option linter.unusedVariables false
set_option linter.unusedSimpArgs false

theorem band_511 {n : Int} (h0 : 0 ≤ n) (h1 : n < 512) : band n 511 = n := by
  have : ∀ k : Fin 512, band (k.1 : Int) 511 = (k.1 : Int) := by decide +kernel
  have := this ⟨n.toNat, by omega⟩
  rwa [show ((⟨n.toNat, by omega⟩ : Fin 512).1 : Int) = n from Int.toNat_of_nonneg h0] at this
theorem band_7 (x : Int) : 0 ≤ band x 7 ∧ band x 7 < 8 := by
  have := band_le (x := x) (y := 7) (by decide) (by decide)
  omega
theorem band_77 (x : Int) : band (band x 7) 7 = band x 7 := fin8 (p := fun n => band n 7 = n) (by decide +kernel) (band_7 x).1 (band_7 x).2

/-- What one of no powers can without lists. -/
theorem can_plain (n u g : Int) (c : Cred) (hc : c.powers = 0) {w : Int} (hw0 : 0 ≤ w) (hw1 : w < 8) : CanS { metaZ with mode := n, uid := u, gid := g } c w =
    hasS w (if u = c.uid then (band n 511).fdiv (2 ^ 6) else if inS c g = true then band ((band n 511).fdiv (2 ^ 3)) 7 else band (band n 511) 7) := by
  have h1 : ¬ w < 0 := by omega
  have h2 : ¬ 7 < w := by omega
  have h3 : band c.powers 2 = 0 := by rw [hc]; decide +kernel
  by_cases hu : u = c.uid
  · simp [CanS, canS, metaZ, ofS, fromMode, permS, h1, h2, h3, hu]
  · by_cases hg : inS c g = true
    · simp [CanS, canS, metaZ, ofS, fromMode, permS, maskS, goS, ixP, h1, h2, h3, hu, hg, band_77]
    · simp [CanS, canS, metaZ, ofS, fromMode, permS, maskS, goS, ixP, h1, h2, h3, hu, hg]

theorem owner_c (m : Th Meta) (c : Th Cred) {d : Nat} {K : ARes → BL → Prop} (hr : ∀ b : Th Bool, b .o = (decide ((m .o).uid = (c .o).uid) || decide (0 < band (c .o).powers 4)) → K (.ret (.bool b)) .nil) : CallAt PT right_Owner [Meta.av m, Cred.av c] d .nil K := by
  refine CallAt.res ?_
  refine right_Owner.of rfl rfl ?_
  cbv
  ((try refine br_rev ?_); (first | refine br_dec (fun h1 => ?_) (fun h1 => ?_) | refine br_ndec (fun h1 => ?_) (fun h1 => ?_) | refine br_nbool (fun h1 => ?_) (fun h1 => ?_) | refine br_bool (fun h1 => ?_) (fun h1 => ?_)); all_goals (try dsimp only at h1); all_goals (try with_reducible replace h1 := zi_lt.1 h1); all_goals (try with_reducible replace h1 := not_zlt h1))
  · cbv
    exact ⟨_, .ret (.tt rfl), hr (fun _ => true) (by simp [h1])⟩
  · cbv
    exact ⟨_, .ret (.refl _), hr _ (by simp [h1]; rfl)⟩

theorem rightModes_c (mo u g : Th Int) (cs : Th (List Int)) (hmo : 0 ≤ mo .o ∧ mo .o < 65536) (hu : 0 ≤ u .o ∧ u .o < 256) (hg : 0 ≤ g .o ∧ g .o < 256) (hcs : isBytes (cs .o)) (hsz : (cs .o).length ≤ 140737488355328) :
    CallAt PT l18_RightModes [.int .u16 mo, .int .u8 u, .int .u8 g, byteI cs] 9999 .nil Yes := by
  refine l18_RightModes.of rfl rfl ?_
  (cbv; repeat (refine safe (by first | decide | (simp only [zi] at *; omega) | assumption) ?_; cbv))
  have hu8 := rest_of hu (m := 8) (by decide)
  have hg8 := rest_of hg (m := 8) (by decide)
  have hmw : IntKind.i64.wrap (mo .o) = mo .o := by rw [IntKind.wrap_i64]; omega
  have hn0 : 0 ≤ (mo .o).tmod 512 := Int.tmod_nonneg _ hmo.1
  have hn1 : (mo .o).tmod 512 < 512 := Int.tmod_lt_of_pos _ (by decide)
  refine plain_c _ _ _ fun m hm => ?_
  cbv
  refine cred_c cs hcs hsz fun c hc => ?_
  cbv
  have hms : short (m .o).acl := by rw [hm]; exact short_nil
  have hcsh : short (c .o).groups := by have := hc.len; unfold short; omega
  refine in_c c (fun _ => (m .o).gid) hcsh fun b1 hb1 => ?_
  have hmu : (m .o).uid = (IntKind.i64.wrap (u .o)).tmod 8 := by rw [hm]
  have hcan : ∀ k : Nat, k < 8 → CanS (m .o) (c .o) (zi k) = hasS (zi k) (if (m .o).uid = (c .o).uid then ((IntKind.i64.wrap (mo .o)).tmod 512).fdiv (2 ^ 6) else if inS (c .o) (m .o).gid = true then band (((IntKind.i64.wrap (mo .o)).tmod 512).fdiv (2 ^ 3)) 7 else band ((IntKind.i64.wrap (mo .o)).tmod 512) 7) := by
    intro k hk
    have := can_plain ((IntKind.i64.wrap (mo .o)).tmod 512) ((IntKind.i64.wrap (u .o)).tmod 8) ((IntKind.i64.wrap (g .o)).tmod 8) (c .o) hc.pw (w := zi k) (zi_nonneg _) (by unfold zi; omega)
    rw [hmw] at this ⊢
    rw [band_511 hn0 hn1] at this
    rw [hm]
    rw [hmw]
    exact this
  cbv
  ((try refine br_rev ?_); (first | refine br_dec (fun h1 => ?_) (fun h1 => ?_) | refine br_ndec (fun h1 => ?_) (fun h1 => ?_) | refine br_nbool (fun h1 => ?_) (fun h1 => ?_) | refine br_bool (fun h1 => ?_) (fun h1 => ?_)); all_goals (try dsimp only at h1); all_goals (try with_reducible replace h1 := zi_lt.1 h1); all_goals (try with_reducible replace h1 := not_zlt h1))
  all_goals (cbv; repeat (refine safe (by first | decide | (simp only [zi] at *; omega) | assumption) ?_; cbv))
  all_goals ((try refine br_rev ?_); (first | refine br_dec (fun h2 => ?_) (fun h2 => ?_) | refine br_ndec (fun h2 => ?_) (fun h2 => ?_) | refine br_nbool (fun h2 => ?_) (fun h2 => ?_) | refine br_bool (fun h2 => ?_) (fun h2 => ?_)); all_goals (try dsimp only at h2); all_goals (try with_reducible replace h2 := zi_lt.1 h2); all_goals (try with_reducible replace h2 := not_zlt h2))
  all_goals (cbv; repeat (refine safe (by first | decide | (simp only [zi] at *; omega) | assumption) ?_; cbv))
  all_goals
    refine loop_at (X := Nat) 1000 [8, 10, 11, 12] [10, 11] (fun _ k => .cons 13 (.int .i64 fun _ => zi k) .nil) (fun _ _ => .nil) (fun k => k ≤ 8) (fun k => 8 - k) 0 ?_ (by decide) ?_
  all_goals first | (cbv; (repeat' (first | exact True.intro | exact Same.refl _ | exact SameB.refl _ | exact ⟨rfl⟩ | exact Same.int rfl | exact Same.str rfl | exact Same.bool rfl | (refine Same.int ?_; simp only [List.length_append, List.length_cons, List.length_nil, zi]; omega) | (refine SameB.row' rfl fun i hi => ?_; first | rfl | exact absurd hi (Nat.not_lt_zero _)) | refine And.intro ?_ ?_)); done) | skip
  all_goals
    intro k hk
    cbv
    ((try refine br_rev ?_); (first | refine br_dec (fun h3 => ?_) (fun h3 => ?_) | refine br_ndec (fun h3 => ?_) (fun h3 => ?_) | refine br_nbool (fun h3 => ?_) (fun h3 => ?_) | refine br_bool (fun h3 => ?_) (fun h3 => ?_)); all_goals (try dsimp only at h3); all_goals (try with_reducible replace h3 := zi_lt.1 h3); all_goals (try with_reducible replace h3 := not_zlt h3))
  all_goals (cbv; repeat (refine safe (by first | decide | (simp only [zi] at *; omega) | assumption) ?_; cbv))
  all_goals try
    (refine Can_c m c (fun _ => zi k) hms hcsh fun b hb => ?_
     have hb' := hb.trans (hcan k (by simp only [zi] at h3; omega))
     first | rw [if_pos (by first | exact h2.symm)] at hb' | rw [if_neg (fun q => h2 q.symm), if_pos (by rw [← hb1]; exact h1)] at hb' | rw [if_neg (fun q => h2 q.symm), if_neg (by rw [← hb1, h1]; simp)] at hb'
     cbv
     refine br_neq hb' ?_
     cbv
     refine ⟨k + 1, by simp only [zi] at h3; omega, by simp only [zi] at h3; omega, ?_⟩
     rw [zi_succ (by omega)]
     cbv
     (repeat' (first | exact True.intro | exact Same.refl _ | exact SameB.refl _ | exact ⟨rfl⟩ | exact Same.int rfl | exact Same.str rfl | exact Same.bool rfl | (refine Same.int ?_; simp only [List.length_append, List.length_cons, List.length_nil, zi]; omega) | (refine SameB.row' rfl fun i hi => ?_; first | rfl | exact absurd hi (Nat.not_lt_zero _)) | refine And.intro ?_ ?_)))
  all_goals
    refine owner_c m c fun b2 hb2 => ?_
    cbv
    have hb2' : b2 .o = decide ((c .o).uid = (m .o).uid) := by
      rw [hb2, hc.pw]
      simp [show ¬ (0 < band 0 4) by decide +kernel, eq_comm]
    refine br_eq hb2' ?_
    cbv
    refine in_c c (fun _ => (c .o).gid) hcsh fun b3 hb3 => ?_
    cbv
    refine br_is (by rw [hb3]; simp [inS]) ?_
    cbv
    refine awake_c fun b4 hb4 => ?_
    cbv
    exact ⟨b4, rfl, hb4⟩
end Go.Proofs.Yteeikiekofopnaa
