/- The law SafeKnown, walked. -/
import Derived.Test.YtiaenejafpbfkaaDoorSafeMade
namespace Go.Proofs.YtiaenejafpbfkaaDoor
open Go Go.Proofs.YtiaenejafpbfkaaDoor.Sx F
set_option linter.unusedVariables false
set_option linter.unusedSimpArgs false

set_option maxRecDepth 100000 in
theorem safeKnown_c (which : Th Int) (hk : 0 ≤ which .o ∧ which .o < 256) : CallAt PT l22_SafeKnown [.int .u8 which] 9999 .nil Yes := by
  refine l22_SafeKnown.of rfl rfl ?_
  cbv
  refine safe (by decide) ?_
  have h9 : 0 ≤ (IntKind.i64.wrap (which .o)).tmod 9 ∧ (IntKind.i64.wrap (which .o)).tmod 9 < 9 := rest_of hk (by decide)
  have h9' : (IntKind.i64.wrap (which .o)).tmod (zi 9) = 0 ∨ (IntKind.i64.wrap (which .o)).tmod (zi 9) = 1 ∨ (IntKind.i64.wrap (which .o)).tmod (zi 9) = 2 ∨ (IntKind.i64.wrap (which .o)).tmod (zi 9) = 3 ∨ (IntKind.i64.wrap (which .o)).tmod (zi 9) = 4 ∨ (IntKind.i64.wrap (which .o)).tmod (zi 9) = 5 ∨ (IntKind.i64.wrap (which .o)).tmod (zi 9) = 6 ∨ (IntKind.i64.wrap (which .o)).tmod (zi 9) = 7 ∨ (IntKind.i64.wrap (which .o)).tmod (zi 9) = 8 := by
    show (IntKind.i64.wrap (which .o)).tmod 9 = 0 ∨ _
    have e : zi 9 = 9 := rfl
    rw [e]
    omega
  rcases h9' with h | h | h | h | h | h | h | h | h
  all_goals
    simp only [h]
    refine go_on 1000 ?_
    cbv
  all_goals
    refine safe (by decide) ?_
    refine safe (by decide) ?_
    refine safe (by decide) ?_
    refine safe (by decide) ?_
    refine safe (by decide) ?_
    refine safe (by decide) ?_
    refine inside_c (fun _ => _) (fun _ => _) ?_ ?_ fun b1 hb1 => ?_
    focus decide
    focus decide
    cbv
    have q1 : b1 .o = true := hb1.trans (by decide +kernel)
    (first | refine br_is (q1) ?_ | refine br_not (q1) ?_ | refine br_rev (br_is (q1) ?_) | refine br_rev (br_not (q1) ?_))
    cbv
    refine safe (by decide) ?_
    refine safe (by decide) ?_
    refine safe (by decide) ?_
    refine safe (by decide) ?_
    refine safe (by decide) ?_
    refine safe (by decide) ?_
    refine inside_c (fun _ => _) (fun _ => _) ?_ ?_ fun b2 hb2 => ?_
    focus decide
    focus decide
    cbv
    have q2 : (!b2 .o) = true := by rw [hb2]; decide +kernel
    (first | refine br_is (q2) ?_ | refine br_not (q2) ?_ | refine br_rev (br_is (q2) ?_) | refine br_rev (br_not (q2) ?_))
    cbv
    refine awake22_c fun b hb => ?_
    cbv
    exact ⟨b, rfl, hb⟩
end Go.Proofs.YtiaenejafpbfkaaDoor
