/- The law RightLess, walked: it answers true whatever the numbers. -/
import Derived.Test.YteeikiekofopnaaLess
namespace Go.Proofs.Yteeikiekofopnaa
open Go Go.Proofs.Yteeikiekofopnaa.Sx F
set_option linter.unusedVariables false
set_option linter.unusedSimpArgs false

theorem rightLess_c (ns cs : Th (List Int)) (w : Th Int) (hns : isBytes (ns .o)) (hs1 : (ns .o).length ≤ 140737488355328) (hcs : isBytes (cs .o)) (hs2 : (cs .o).length ≤ 140737488355328) (hw : 0 ≤ w .o ∧ w .o < 256) :
    CallAt PT l18_RightLess [byteI ns, byteI cs, .int .u8 w] 9999 .nil Yes := by
  refine l18_RightLess.of rfl rfl ?_
  cbv
  refine l14_c ns (fun _ => 1) hns hs1 fun m hm => ?_
  cbv
  refine cred_c cs hcs hs2 fun c hc => ?_
  (cbv; repeat (refine safe (by first | decide | (simp only [zi] at *; omega) | assumption) ?_; cbv))
  have hms := hm.short
  have hcsh : short (c .o).groups := by have := hc.len; unfold short; omega
  have w8 := rest8 hw
  have hg := hm.good
  have hb0 : ¬ 0 < band (c .o).powers 2 := by rw [hc.pw]; decide +kernel
  obtain ⟨l1, l2⟩ := less_law hg
  refine Less_c m hms fun n hn => ?_
  cbv
  refine br_dec (fun _ => ?_) (fun q => absurd (show 0 ≤ n .o by rw [hn]; exact l1.1) q)
  cbv
  refine br_dec (fun _ => ?_) (fun q => absurd (show n .o < 512 by rw [hn]; exact l1.2) q)
  cbv
  refine CallAt.args (.cons (y := Meta.av fun _ => { m .o with acl := [], mode := n .o }) (by (repeat' (first | exact Same.refl _ | exact SameC.nil | refine SameC.cons ?_ ?_ | refine Same.agg ?_ | refine Same.tup ?_ | exact Same.nsl rfl | exact Same.tt rfl | exact Same.ff rfl | exact Same.int rfl | exact Same.str rfl | exact Same.bool rfl | refine Same.sl rfl ?_))) (.cons (.refl _) (.cons (.refl _) .nil))) ?_
  refine Can_c (fun _ => { m .o with acl := [], mode := n .o }) c (fun _ => (IntKind.i64.wrap (w .o)).tmod 8) short_nil hcsh fun b1 hb1 => ?_
  have hle : b1 .o = true → CanS (m .o) (c .o) ((IntKind.i64.wrap (w .o)).tmod 8) = true := fun q => l2 (c .o) _ w8.1 w8.2 hb0 (by rw [← hn]; exact hb1.symm.trans q)
  cbv
  refine br_rev (br_nbool (fun h1 => ?_) (fun h1 => ?_))
  rotate_left
  focus
    cbv
    refine Can_c m c (fun _ => (IntKind.i64.wrap (w .o)).tmod 8) hms hcsh fun b2 hb2 => ?_
    cbv
    refine br_is (hb2.trans (hle h1)) ?_
    cbv
  rotate_left
  focus cbv
  all_goals ((try refine br_rev ?_); (first | refine br_dec (fun h2 => ?_) (fun h2 => ?_) | refine br_ndec (fun h2 => ?_) (fun h2 => ?_) | refine br_nbool (fun h2 => ?_) (fun h2 => ?_) | refine br_bool (fun h2 => ?_) (fun h2 => ?_)); all_goals (try dsimp only at h2); all_goals (try with_reducible replace h2 := zi_lt.1 h2); all_goals (try with_reducible replace h2 := not_zlt h2))
  all_goals cbv
  all_goals try (
    refine br_dec (fun _ => ?_) (fun q => absurd (show n .o = band (m .o).mode 511 by
      have he : (m .o).acl = [] := by
        refine List.eq_nil_of_length_eq_zero ?_
        have h2 : ¬ (0 : Int) < zi (m .o).acl.length := h2
        unfold zi at h2
        omega
      rw [hn]; exact less_mode he) q)
    cbv)
  all_goals
    refine awake_c fun b6 hb6 => ?_
    cbv
    exact ⟨b6, rfl, hb6⟩
end Go.Proofs.Yteeikiekofopnaa
