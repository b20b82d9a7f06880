/- The law RightParts, walked: it answers true whatever the numbers. -/
import Derived.Test.YteeikiekofopnaaAcl
namespace Go.Proofs.Yteeikiekofopnaa
open Go Go.Proofs.Yteeikiekofopnaa.Sx F
set_option linter.unusedVariables false
set_option linter.unusedSimpArgs false

theorem rightParts_c (ns cs : Th (List Int)) (a b : Th Int) (hns : isBytes (ns .o)) (hs1 : (ns .o).length ≤ 140737488355328) (hcs : isBytes (cs .o)) (hs2 : (cs .o).length ≤ 140737488355328) (ha : 0 ≤ a .o ∧ a .o < 256) (hb : 0 ≤ b .o ∧ b .o < 256) :
    CallAt PT l18_RightParts [byteI ns, byteI cs, .int .u8 a, .int .u8 b] 9999 .nil Yes := by
  refine l18_RightParts.of rfl rfl ?_
  cbv
  refine l14_c ns (fun _ => 6) hns hs1 fun m hm => ?_
  cbv
  refine cred_c cs hcs hs2 fun c hc => ?_
  (cbv; repeat (refine safe (by first | decide | (simp only [zi] at *; omega) | assumption) ?_; cbv))
  have hms := hm.short
  have hcsh : short (c .o).groups := by have := hc.len; unfold short; omega
  have x8 := rest8 ha
  have y8 := rest8 hb
  have o8 := bor_8 x8 y8
  have hg := hm.good
  have hb0 : ¬ 0 < band (c .o).powers 2 := by rw [hc.pw]; decide +kernel
  have can : ∀ w, 0 ≤ w → w < 8 → CanS (m .o) (c .o) w = (repS (m .o) (c .o)).any (hasS w) := fun w h0 h1 => by rw [CanS_rep hg h0 h1]; simp [hb0]
  obtain ⟨hne, hrep⟩ := repS_good (c := c .o) hg
  have hor : CanS (m .o) (c .o) (bor ((IntKind.i64.wrap (a .o)).tmod 8) ((IntKind.i64.wrap (b .o)).tmod 8)) = true → CanS (m .o) (c .o) ((IntKind.i64.wrap (a .o)).tmod 8) = true ∧ CanS (m .o) (c .o) ((IntKind.i64.wrap (b .o)).tmod 8) = true := by
    rw [can _ o8.1 o8.2, can _ x8.1 x8.2, can _ y8.1 y8.2]
    simp only [List.any_eq_true]
    rintro ⟨p, hp, h⟩
    have := has_or x8 y8 (hrep p hp) h
    exact ⟨⟨p, hp, this.1⟩, ⟨p, hp, this.2⟩⟩
  have h0 : CanS (m .o) (c .o) 0 = true := by
    rw [can 0 (by decide) (by decide), List.any_eq_true]
    obtain ⟨p, hp⟩ := List.exists_mem_of_ne_nil _ hne
    exact ⟨p, hp, has_0 (hrep p hp)⟩
  refine Can_c m c (fun _ => bor ((IntKind.i64.wrap (a .o)).tmod 8) ((IntKind.i64.wrap (b .o)).tmod 8)) hms hcsh fun b1 hb1 => ?_
  cbv
  ((try refine br_rev ?_); (first | refine br_dec (fun h1 => ?_) (fun h1 => ?_) | refine br_ndec (fun h1 => ?_) (fun h1 => ?_) | refine br_nbool (fun h1 => ?_) (fun h1 => ?_) | refine br_bool (fun h1 => ?_) (fun h1 => ?_)); all_goals (try dsimp only at h1); all_goals (try with_reducible replace h1 := zi_lt.1 h1); all_goals (try with_reducible replace h1 := not_zlt h1)) <;> cbv
  rotate_left
  focus
    have hq := hor (hb1.symm.trans h1)
    refine Can_c m c (fun _ => (IntKind.i64.wrap (a .o)).tmod 8) hms hcsh fun b2 hb2 => ?_
    cbv
    refine br_is (hb2.trans hq.1) ?_
    cbv
    refine Can_c m c (fun _ => (IntKind.i64.wrap (b .o)).tmod 8) hms hcsh fun b3 hb3 => ?_
    cbv
    refine br_is (hb3.trans hq.2) ?_
    cbv
  all_goals
    refine Can_c m c (fun _ => 0) hms hcsh fun b4 hb4 => ?_
    cbv
    refine br_is (hb4.trans h0) ?_
    cbv
    refine Can_c m (fun _ => { c .o with powers := 2 }) (fun _ => 7) hms hcsh fun b5 hb5 => ?_
    cbv
    refine br_is (hb5.trans (by
      unfold CanS
      rw [show decide (0 < band ({ c .o with powers := 2 } : Cred).powers 2) = true from by show decide (0 < band 2 2) = true; decide +kernel]
      rfl)) ?_
    cbv
    refine Can_c m (fun _ => { c .o with powers := 2 }) (fun _ => 8) hms hcsh fun b6 hb6 => ?_
    cbv
    refine br_nbool (fun h6 => ?_) (fun h6 => absurd (hb6.symm.trans h6) (by simp [CanS]))
    cbv
    refine Can_c m (fun _ => { c .o with powers := 2 }) (fun _ => -1) hms hcsh fun b7 hb7 => ?_
    cbv
    refine br_nbool (fun h7 => ?_) (fun h7 => absurd (hb7.symm.trans h7) (by simp [CanS]))
    cbv
    refine awake_c fun b8 hb8 => ?_
    cbv
    exact ⟨b8, rfl, hb8⟩
end Go.Proofs.Yteeikiekofopnaa
