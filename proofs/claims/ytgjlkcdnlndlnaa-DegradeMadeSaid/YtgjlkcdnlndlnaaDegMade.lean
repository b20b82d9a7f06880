/- The law DegradeMade, walked. -/
import Derived.Test.YtgjlkcdnlndlnaaDeg21
import Derived.Test.YtgjlkcdnlndlnaaSame
import Derived.Test.YtgjlkcdnlndlnaaDegLast
namespace Go.Proofs.Ytgjlkcdnlndlnaa
open Go Go.Proofs.Ytgjlkcdnlndlnaa.Sx F
set_option linter.unusedVariables false
set_option linter.unusedSimpArgs false

theorem flags_16 {f : Int} (h : 0 ≤ f ∧ f < 16) : bnot f 3 = band f 12 := by
  have : ∀ x : Fin 16, bnot (x.1 : Int) 3 = band (x.1 : Int) 12 := by decide +kernel
  have := this ⟨f.toNat, by omega⟩
  rwa [show ((⟨f.toNat, by omega⟩ : Fin 16).1 : Int) = f from Int.toNat_of_nonneg h.1] at this
theorem dflt_len {k : Int} {m : Meta} (h : MadeK k m) : m.dflt.length ≤ 17 := by
  rcases h.dflt with h | ⟨_, ns', n, _, _, h⟩
  · rw [h]; simp
  · rw [h]; exact l9_len _ _
theorem deg21Ok_made {k : Int} {p : List UInt8} {ns : List Int} {e : Entry} {c : Cred} {l : List Item} (h : MadeE k p ns e) (hk : k ≠ 2) (hc : short c.groups) (hl : l.length ≤ 140737488351232) : Deg21Ok e c l := by
  have hm := h.mt hk
  have hx := h.km hk
  have h1 := hm.len
  have h2 := dflt_len hx
  exact ⟨⟨⟨hm.short, hc, hl⟩, by omega, by omega, Nat.le_trans hm.xs (by decide)⟩, less9_law hm.good, flags_16 hx.flags⟩

structure Lim (e : Entry) (m : Meta) : Prop where
  acl : m.acl.length ≤ e.mt.acl.length
  dflt : m.dflt.length ≤ e.mt.dflt.length
  xs : m.xs.length ≤ e.mt.xs.length
theorem lim_deg (e : Entry) (c : Cred) (l : List Item) : Lim e (degS e c l) := by
  have h0 : Lim e (deg0 e c l) := ⟨Nat.zero_le _, Nat.zero_le _, Nat.zero_le _⟩
  have h1 : Lim e (deg1 e c l) := by unfold deg1; split <;> first | exact ⟨h0.acl, h0.dflt, h0.xs⟩ | exact h0
  have h2 : Lim e (deg2 e c l) := by unfold deg2; split <;> first | exact ⟨Nat.le_refl _, h1.dflt, h1.xs⟩ | exact h1
  have h3 : Lim e (deg3 e c l) := by unfold deg3; split <;> first | exact ⟨h2.acl, Nat.le_refl _, h2.xs⟩ | exact h2
  have h4 : Lim e (deg4 e c l) := by
    unfold deg4
    split
    · exact ⟨h3.acl, h3.dflt, Nat.le_refl _⟩
    · split
      · exact ⟨h3.acl, h3.dflt, List.length_filter_le _ _⟩
      · exact h3
  have h5 : Lim e (deg5 e c l) := by unfold deg5; split <;> first | exact ⟨h4.acl, h4.dflt, h4.xs⟩ | exact h4
  have h6 : Lim e (deg6 e c l) := by unfold deg6; split <;> first | exact ⟨h5.acl, h5.dflt, h5.xs⟩ | exact h5
  unfold degS
  split
  · exact ⟨h6.acl, h6.dflt, h6.xs⟩
  · split
    · exact ⟨h6.acl, h6.dflt, h6.xs⟩
    · exact h6
theorem short_deg {e : Entry} {c : Cred} {l : List Item} (h : DegOk e c l) : short (degS e c l).acl ∧ short (degS e c l).dflt ∧ short (degS e c l).xs := by
  have h1 := lim_deg e c l
  have := h1.acl
  have := h1.dflt
  have := h1.xs
  have := h.acl24
  have := h.dflt24
  have := h.xs
  unfold short
  omega

/-- The list of what was tried, by numbers. -/
def rOf (rs : List Int) (i : Nat) : Int := if i < rs.length then IntKind.i64.wrap (1 + (IntKind.i64.wrap (rs.getD i 0)).tmod 3) else 1
def tried (at' rs : List Int) (k : Nat) : List Item := ⟨[112], 1, 1⟩ :: (List.range k).map fun i => ⟨[112], at'.getD i 0, rOf rs i⟩
theorem tried_succ (at' rs : List Int) (k : Nat) : tried at' rs (k + 1) = tried at' rs k ++ [⟨[112], at'.getD k 0, rOf rs k⟩] := by
  unfold tried
  rw [List.range_succ, List.map_append, List.cons_append]; rfl
theorem tried_len (at' rs : List Int) (k : Nat) : (tried at' rs k).length = k + 1 := by simp [tried]

def kindN (n : Int) : Int := ([fun _ => 1, fun _ => 3, fun _ => 4, fun _ => 5, fun _ => 6, fun _ => 7] : List (Th Int)).getD (n.tmod 6).toNat (fun _ => 1) .o
theorem kindN_in (n : Int) : kindN n ≠ 2 ∧ (kindN n = 1 ∨ kindN n = 3 ∨ kindN n = 4 ∨ kindN n = 5 ∨ kindN n = 6 ∨ kindN n = 7) := by
  unfold kindN
  generalize (n.tmod 6).toNat = j
  match j with
  | 0 | 1 | 2 | 3 | 4 | 5 => decide
  | j + 6 => exact (by decide : (1 : Int) ≠ 2 ∧ ((1 : Int) = 1 ∨ (1 : Int) = 3 ∨ (1 : Int) = 4 ∨ (1 : Int) = 5 ∨ (1 : Int) = 6 ∨ (1 : Int) = 7))
theorem attrs_len (e : Entry) : (attrsS e).length ≤ 9 := by
  unfold attrsS; split; exact Nat.zero_le _; exact Nat.le_trans (List.length_filter_le _ _) (by decide)
theorem degradeMade_c (kind : Th Int) (ns cs : Th (List Int)) (pw : Th Int) (rs : Th (List Int)) (hk : 0 ≤ kind .o ∧ kind .o < 256) (hns : isBytes (ns .o)) (hs : short (ns .o)) (hcs : isBytes (cs .o)) (hs2 : short (cs .o)) (hpw : 0 ≤ pw .o ∧ pw .o < 256) (hrs : isBytes (rs .o)) (hs3 : short (rs .o)) :
    CallAt PT l25_DegradeMade [.int .u8 kind, byteI ns, byteI cs, .int .u8 pw, byteI rs] 9999 .nil Yes := by
  refine l25_DegradeMade.of rfl rfl ?_
  cbv
  refine safe (by decide) ?_
  have h6 : 0 ≤ (kind .o).tmod 6 ∧ (kind .o).tmod 6 < zi 6 := ⟨Int.tmod_nonneg _ hk.1, Int.tmod_lt_of_pos _ (by decide)⟩
  refine safe h6 ?_
  refine safe (by show ((kind .o).tmod 6).toNat < 6; unfold zi at h6; omega) ?_
  refine make15_c (fun _ => kindN (kind .o)) (fun _ => [112]) ns hns hs fun e he => ?_
  cbv
  refine cred_c cs hcs hs2 fun c0 hc0 => ?_
  cbv
  refine safe (by decide) ?_
  refine attrs21_c e fun at' hat => ?_
  cbv
  have hal : (at' .o).length ≤ 9 := by rw [hat]; exact attrs_len _
  refine loop_rule (X := Nat) 1000 [4, 11, 12, 14] [11, 12] (fun k => .cons 13 (.row 31) (.cons 15 (.int .i64 fun _ => zi k) .nil)) (fun k => .cons 31 (rowB 3 Item.ch Item.z fun _ => tried (at' .o) (rs .o) k) .nil) (fun k => k ≤ (at' .o).length) (fun k => (at' .o).length - k) 0 ?_ (Nat.zero_le _) ?_
  · cbv
    (repeat' (first | exact True.intro | exact Same.refl _ | exact SameB.refl _ | exact ⟨rfl⟩ | exact Same.int rfl | exact Same.str rfl | exact Same.bool rfl | (refine Same.int ?_; simp only [List.length_append, List.length_cons, List.length_nil, zi]; omega) | (refine SameB.row' rfl fun i hi => ?_; first | rfl | exact absurd hi (Nat.not_lt_zero _)) | refine And.intro ?_ ?_ | refine SameB.cells ?_ | exact SameC.nil | refine SameC.cons ?_ ?_ | exact Same.nsl rfl | exact Same.tt rfl | exact Same.ff rfl))
    all_goals
      refine SameB.row' rfl fun i hi => ?_
      obtain rfl : i = 0 := Nat.lt_one_iff.1 hi
      rfl
  · intro k hkl
    have hz : (zi k).toNat = k := zi_toNat k
    have htl := tried_len (at' .o) (rs .o) k
    cbv
    ((try refine br_rev ?_); (first | refine br_dec (fun h1 => ?_) (fun h1 => ?_) | refine br_ndec (fun h1 => ?_) (fun h1 => ?_) | refine br_nbool (fun h1 => ?_) (fun h1 => ?_) | refine br_bool (fun h1 => ?_) (fun h1 => ?_)); all_goals (try dsimp only at h1); all_goals (try with_reducible replace h1 := zi_lt.1 h1); all_goals (try with_reducible replace h1 := not_zlt h1))
    · have hfin : ∀ r : Th Int, r .o = rOf (rs .o) k → tried (at' .o) (rs .o) k ++ [⟨[112], (at' .o).getD (zi k).toNat 0, r .o⟩] = tried (at' .o) (rs .o) (k + 1) := fun r hr => by rw [tried_succ, hr, hz]
      cbv
      refine safe ⟨zi_nonneg _, zi_lt.2 h1⟩ ?_
      ((try refine br_rev ?_); (first | refine br_dec (fun h2 => ?_) (fun h2 => ?_) | refine br_ndec (fun h2 => ?_) (fun h2 => ?_) | refine br_nbool (fun h2 => ?_) (fun h2 => ?_) | refine br_bool (fun h2 => ?_) (fun h2 => ?_)); all_goals (try dsimp only at h2); all_goals (try with_reducible replace h2 := zi_lt.1 h2); all_goals (try with_reducible replace h2 := not_zlt h2))
      · cbv
        refine safe ⟨zi_nonneg _, zi_lt.2 h2⟩ ?_
        refine safe (by decide) ?_
        refine app_one Item.ch Item.z (tried (at' .o) (rs .o) k) ⟨[112], (at' .o).getD (zi k).toNat 0, IntKind.i64.wrap (1 + (IntKind.i64.wrap ((rs .o).getD (zi k).toNat 0)).tmod 3)⟩ rfl (fun i hi => rfl) rfl rfl (by omega) ?_
        cbv
        refine ⟨k + 1, h1, by omega, ?_⟩
        cbv
        rw [zi_succ (by omega)]
        rw [hfin (fun _ => IntKind.i64.wrap (1 + (IntKind.i64.wrap ((rs .o).getD (zi k).toNat 0)).tmod 3)) (by unfold rOf; rw [if_pos h2, hz])]
        (repeat' (first | exact True.intro | exact Same.refl _ | exact SameB.refl _ | exact ⟨rfl⟩ | exact Same.int rfl | exact Same.str rfl | exact Same.bool rfl | (refine Same.int ?_; simp only [List.length_append, List.length_cons, List.length_nil, zi]; omega) | (refine SameB.row' rfl fun i hi => ?_; first | rfl | exact absurd hi (Nat.not_lt_zero _)) | refine And.intro ?_ ?_ | refine SameB.cells ?_ | exact SameC.nil | refine SameC.cons ?_ ?_ | exact Same.nsl rfl | exact Same.tt rfl | exact Same.ff rfl))
      · cbv
        refine app_one Item.ch Item.z (tried (at' .o) (rs .o) k) ⟨[112], (at' .o).getD (zi k).toNat 0, 1⟩ rfl (fun i hi => rfl) rfl rfl (by omega) ?_
        cbv
        refine ⟨k + 1, h1, by omega, ?_⟩
        cbv
        rw [zi_succ (by omega)]
        rw [hfin (fun _ => 1) (by unfold rOf; rw [if_neg (by omega)])]
        (repeat' (first | exact True.intro | exact Same.refl _ | exact SameB.refl _ | exact ⟨rfl⟩ | exact Same.int rfl | exact Same.str rfl | exact Same.bool rfl | (refine Same.int ?_; simp only [List.length_append, List.length_cons, List.length_nil, zi]; omega) | (refine SameB.row' rfl fun i hi => ?_; first | rfl | exact absurd hi (Nat.not_lt_zero _)) | refine And.intro ?_ ?_ | refine SameB.cells ?_ | exact SameC.nil | refine SameC.cons ?_ ?_ | exact Same.nsl rfl | exact Same.tt rfl | exact Same.ff rfl))
    · cbv
      have hok : Deg21Ok (e .o) { c0 .o with powers := (IntKind.i64.wrap (pw .o)).tmod 128 } (tried (at' .o) (rs .o) k) := deg21Ok_made he (kindN_in _).1 (Nat.le_trans hc0.len (by decide)) (by omega)
      refine shut_row 31 ?_
      refine go_on 1000 ?_
      cbv
      refine deg_c e (fun _ => { c0 .o with powers := (IntKind.i64.wrap (pw .o)).tmod 128 }) (fun _ => tried (at' .o) (rs .o) k) hok.toDegOk fun m1 hm1 => ?_
      cbv
      refine deg21_c e (fun _ => { c0 .o with powers := (IntKind.i64.wrap (pw .o)).tmod 128 }) (fun _ => tried (at' .o) (rs .o) k) hok fun m2 hm2 => ?_
      cbv
      have hsh := short_deg hok.toDegOk
      refine sameM_c m1 m2 (by rw [hm1]; exact hsh.1) (by rw [hm1]; exact hsh.2.1) (by rw [hm1]; exact hsh.2.2) fun b hb => ?_
      cbv
      have hb1 : b .o = true := hb.2 (by rw [hm1, hm2])
      (first | refine br_is (hb1) ?_ | refine br_not (hb1) ?_ | refine br_rev (br_is (hb1) ?_) | refine br_rev (br_not (hb1) ?_))
      cbv
      refine awake25_c fun b2 hb2 => ?_
      cbv
      exact ⟨b2, rfl, hb2⟩
end Go.Proofs.Ytgjlkcdnlndlnaa
