/- What the laws make by numbers: names with values. -/
import Derived.Test.YtgjlkcdnlndlnaaMk
namespace Go.Proofs.Ytgjlkcdnlndlnaa
open Go Go.Proofs.Ytgjlkcdnlndlnaa.Sx F
set_option linter.unusedVariables false
set_option linter.unusedSimpArgs false

theorem addx_c (l : Th (List Xattr)) (a : Th Xattr) (hl : (l .o).length ≤ 1000) {d : Nat} {K : ARes → BL → Prop} (hr : ∀ r : Th (List Xattr), (r .o).length ≤ (l .o).length + 1 → K (.ret (xattrs r)) .nil) : CallAt PT l13_add [xattrs l, Xattr.av a] d .nil K := by
  refine l13_add.of rfl rfl ?_
  cbv
  refine loop_rule (X := Nat) 1000 [0, 3] [3] (fun k => .cons 5 (.int .i64 fun _ => zi k) .nil) (fun _ => .nil) (fun k => k ≤ (l .o).length) (fun k => (l .o).length - k) 0 ?_ (Nat.zero_le _) ?_
  · cbv
    (repeat' (first | exact True.intro | exact Same.refl _ | exact SameB.refl _ | exact ⟨rfl⟩ | exact Same.int rfl | exact Same.str rfl | exact Same.bool rfl | (refine Same.int ?_; simp only [List.length_append, List.length_cons, List.length_nil, zi]; omega) | (refine SameB.row' rfl fun i hi => ?_; first | rfl | exact absurd hi (Nat.not_lt_zero _)) | refine And.intro ?_ ?_ | refine SameB.cells ?_ | exact SameC.nil | refine SameC.cons ?_ ?_ | exact Same.nsl rfl | exact Same.tt rfl | exact Same.ff rfl))
  · intro k hk
    cbv
    ((try refine br_rev ?_); (first | refine br_dec (fun h1 => ?_) (fun h1 => ?_) | refine br_ndec (fun h1 => ?_) (fun h1 => ?_) | refine br_nbool (fun h1 => ?_) (fun h1 => ?_) | refine br_bool (fun h1 => ?_) (fun h1 => ?_)); all_goals (try dsimp only at h1); all_goals (try with_reducible replace h1 := zi_lt.1 h1); all_goals (try with_reducible replace h1 := not_zlt h1)) <;> cbv
    focus (refine safe ⟨zi_nonneg _, zi_lt.2 (by omega)⟩ ?_; cbv; ((try refine br_rev ?_); (first | refine br_dec (fun h2 => ?_) (fun h2 => ?_) | refine br_ndec (fun h2 => ?_) (fun h2 => ?_) | refine br_nbool (fun h2 => ?_) (fun h2 => ?_) | refine br_bool (fun h2 => ?_) (fun h2 => ?_)); all_goals (try dsimp only at h2); all_goals (try with_reducible replace h2 := zi_lt.1 h2); all_goals (try with_reducible replace h2 := not_zlt h2)) <;> cbv)
    · refine ⟨k + 1, h1, by omega, ?_⟩
      cbv
      rw [zi_succ (by omega)]
      (repeat' (first | exact True.intro | exact Same.refl _ | exact SameB.refl _ | exact ⟨rfl⟩ | exact Same.int rfl | exact Same.str rfl | exact Same.bool rfl | (refine Same.int ?_; simp only [List.length_append, List.length_cons, List.length_nil, zi]; omega) | (refine SameB.row' rfl fun i hi => ?_; first | rfl | exact absurd hi (Nat.not_lt_zero _)) | refine And.intro ?_ ?_ | refine SameB.cells ?_ | exact SameC.nil | refine SameC.cons ?_ ?_ | exact Same.nsl rfl | exact Same.tt rfl | exact Same.ff rfl))
    all_goals
      refine safe ⟨zi_nonneg _, zi_le.2 hk, Int.le_refl _⟩ ?_
      refine app_rows0 Xattr.ch Xattr.z ((l .o).drop k) rfl (by simp [zi]) (fun i hi => by simp only [getD_drop]; rfl) (by simp only [List.length_drop]; omega) ?_
      cbv
      ((try refine br_rev ?_); (first | refine br_dec (fun h3 => ?_) (fun h3 => ?_) | refine br_ndec (fun h3 => ?_) (fun h3 => ?_) | refine br_nbool (fun h3 => ?_) (fun h3 => ?_) | refine br_bool (fun h3 => ?_) (fun h3 => ?_)); all_goals (try dsimp only at h3); all_goals (try with_reducible replace h3 := zi_lt.1 h3); all_goals (try with_reducible replace h3 := not_zlt h3))
    all_goals cbv
    all_goals try (have h3' : 0 < ((l .o).drop k).length := zi_lt.1 h3; refine safe ⟨Int.le_refl _, h3⟩ ?_; refine safe h3' ?_; cbv; ((try refine br_rev ?_); (first | refine br_dec (fun h4 => ?_) (fun h4 => ?_) | refine br_ndec (fun h4 => ?_) (fun h4 => ?_) | refine br_nbool (fun h4 => ?_) (fun h4 => ?_) | refine br_bool (fun h4 => ?_) (fun h4 => ?_)); all_goals (try dsimp only at h4); all_goals (try with_reducible replace h4 := zi_lt.1 h4); all_goals (try with_reducible replace h4 := not_zlt h4)))
    all_goals cbv
    all_goals have htk : ((l .o).take k).length = k := by rw [List.length_take]; omega
    all_goals try refine safe ⟨by decide, zi_le.2 h3', Int.le_refl _⟩ ?_
    all_goals
      refine safe ⟨Int.le_refl _, zi_nonneg _, zi_le.2 hk⟩ ?_
      refine app_rows0 Xattr.ch Xattr.z ((l .o).take k) rfl (by rw [htk]; simp [zi]) (fun i hi => by rw [htk] at hi; simp only [getD_take _ _ _ _ hi]; exact congrArg (fun j => Xattr.ch fun _ => (l .o).getD j Xattr.z) (by simp)) (by rw [htk]; omega) ?_
      cbv
      refine app_one Xattr.ch Xattr.z _ (a .o) rfl (fun i hi => rfl) rfl rfl (by rw [htk]; omega) ?_
      cbv
    all_goals first
      | (refine app_rows Xattr.ch Xattr.z ((l .o).take k ++ [a .o]) ((l .o).drop k) rfl (fun i hi => rfl) rfl (fun i hi => rfl) (by rw [List.length_append, htk, List.length_drop]; simp only [List.length_cons, List.length_nil]; omega) ?_
         cbv
         exact hr (fun _ => (l .o).take k ++ [a .o] ++ (l .o).drop k) (by simp; omega)
         done)
      | (refine app_rows Xattr.ch Xattr.z ((l .o).take k ++ [a .o]) ((l .o).drop (k + 1)) rfl (fun i hi => rfl) (by simp [zi]; omega) (fun i hi => by simp only [getD_drop]; exact congrArg (fun j => Xattr.ch fun _ => (l .o).getD j Xattr.z) (by simp [Nat.add_assoc])) (by simp only [List.length_append, htk, List.length_drop, List.length_cons, List.length_nil]; omega) ?_
         cbv
         exact hr (fun _ => (l .o).take k ++ [a .o] ++ (l .o).drop (k + 1)) (by simp; omega)
         done)

def byteCh (a : Th Int) : AV := .cons (.int .u8 a) .nil
theorem getD_all {α : Type} {p : α → Prop} {z : α} (hz : p z) : ∀ (l : List α) (n : Nat), (∀ x ∈ l, p x) → p (l.getD n z)
  | [], _, _ => by simpa using hz
  | x :: r, 0, h => by simpa using h x (by simp)
  | x :: r, n + 1, h => by simpa using getD_all hz r n fun y hy => h y (by simp [hy])
theorem bytesN_len (n : Nat) (g : Th Nat → AV) : (bytesN n g).length = n := by simp [bytesN]

theorem l13_c (ns : Th (List Int)) (hns : isBytes (ns .o)) (hs : short (ns .o)) {d : Nat} {K : ARes → BL → Prop} (hr : ∀ r : Th (List Xattr), (r .o).length ≤ 6 → K (.ret (xattrs r)) .nil) : CallAt PT l13_Make [byteI ns] d .nil K := by
  refine l13_Make.of rfl rfl ?_
  (cbv; repeat (refine safe (by first | decide | (simp only [zi] at *; omega) | assumption | (dsimp only; omega) | (dsimp only at *; simp only [List.length_append, List.length_cons, List.length_nil, zi] at *; omega)) ?_; cbv))
  refine loop_rule (X := Nat × List Xattr) 1000 [0] [] (fun x => .cons 3 (xattrs fun _ => x.2) (.cons 4 (.int .i64 fun _ => zi (2 * x.1)) .nil)) (fun _ => .nil) (fun x => x.2.length ≤ 6 ∧ 2 * x.1 ≤ (ns .o).length) (fun x => (ns .o).length - 2 * x.1) (0, []) ?_ ⟨by simp, by simp⟩ ?_
  · cbv
    (repeat' (first | exact True.intro | exact Same.refl _ | exact SameB.refl _ | exact ⟨rfl⟩ | exact Same.int rfl | exact Same.str rfl | exact Same.bool rfl | (refine Same.int ?_; simp only [List.length_append, List.length_cons, List.length_nil, zi]; omega) | (refine SameB.row' rfl fun i hi => ?_; first | rfl | exact absurd hi (Nat.not_lt_zero _)) | refine And.intro ?_ ?_ | refine SameB.cells ?_ | exact SameC.nil | refine SameC.cons ?_ ?_ | exact Same.nsl rfl | exact Same.tt rfl | exact Same.ff rfl))
    all_goals exact Same.nsl rfl
  · rintro ⟨k, l⟩ ⟨hk, hk2⟩
    unfold short at hs
    have hsucc : IntKind.i64.wrap (zi (2 * k) + 1) = zi (2 * k + 1) := zi_succ (by omega)
    cbv
    rw [hsucc]
    ((try refine br_rev ?_); (first | refine br_dec (fun h1 => ?_) (fun h1 => ?_) | refine br_ndec (fun h1 => ?_) (fun h1 => ?_) | refine br_nbool (fun h1 => ?_) (fun h1 => ?_) | refine br_bool (fun h1 => ?_) (fun h1 => ?_)); all_goals (try dsimp only at h1); all_goals (try with_reducible replace h1 := zi_lt.1 h1); all_goals (try with_reducible replace h1 := not_zlt h1)) <;> cbv
    all_goals try (((try refine br_rev ?_); (first | refine br_dec (fun h2 => ?_) (fun h2 => ?_) | refine br_ndec (fun h2 => ?_) (fun h2 => ?_) | refine br_nbool (fun h2 => ?_) (fun h2 => ?_) | refine br_bool (fun h2 => ?_) (fun h2 => ?_)); all_goals (try dsimp only at h2); all_goals (try with_reducible replace h2 := zi_lt.1 h2); all_goals (try with_reducible replace h2 := not_zlt h2)); replace h2 : l.length < 6 := h2; rotate_left; replace h2 : 6 ≤ l.length := h2; rotate_left)
    all_goals cbv
    rotate_left
    all_goals try exact hr (fun _ => l) hk
    have b1 := rest_of (byte_at hns (k := 2 * k + 1)) (m := 20) (by decide)
    refine safe ⟨zi_nonneg _, zi_lt.2 (by show 2 * k < _; omega)⟩ ?_
    refine safe (by decide) ?_
    refine safe ⟨Int.tmod_nonneg _ (byte_at hns).1, Int.tmod_lt_of_pos _ (by decide)⟩ ?_
    refine safe (by
      have h0 : 0 ≤ ((ns .o).getD (zi (2 * k)).toNat 0).tmod 5 := Int.tmod_nonneg _ (byte_at hns).1
      have h5 : ((ns .o).getD (zi (2 * k)).toNat 0).tmod 5 < 5 := Int.tmod_lt_of_pos _ (by decide)
      show (((ns .o).getD (zi (2 * k)).toNat 0).tmod 5).toNat < 5
      omega) ?_
    refine safe ⟨zi_nonneg _, zi_lt.2 (by show 2 * k < _; omega)⟩ ?_
    refine safe (by decide) ?_
    refine safe (by decide) ?_
    refine safe (by show 0 ≤ IntKind.i64.wrap (zi (2 * k) + 1) ∧ IntKind.i64.wrap (zi (2 * k) + 1) < _; rw [hsucc]; exact ⟨zi_nonneg _, zi_lt.2 h1⟩) ?_
    refine safe (by decide) ?_
    refine safe (fun i hi => ⟨_, rfl⟩) ?_
    refine safe (by
      dsimp only
      rw [bytesN_len]
      refine Nat.le_trans (Nat.add_le_add_right (getD_all (p := fun t : Th (List UInt8) => (t .o).length ≤ 9) (by decide) _ _ (by simp)) 2) (by decide)) ?_
    refine safe (by show 0 ≤ IntKind.i64.wrap (zi (2 * k) + 1) ∧ IntKind.i64.wrap (zi (2 * k) + 1) < _; rw [hsucc]; exact ⟨zi_nonneg _, zi_lt.2 h1⟩) ?_
    refine safe (by decide) ?_
    dsimp only
    rw [hsucc, zi_toNat]
    generalize hv : (IntKind.i64.wrap ((ns .o).getD (2 * k + 1) 0)).tmod 20 = v at b1
    refine safe ⟨b1.1, Int.le_refl _, by show 1 * v ≤ _; omega, by omega⟩ ?_
    refine loop_at (X := Nat × List Int) 1000 [0, 3, 4, 5, 6] [] (fun _ x => .cons 7 (.int .i64 fun _ => zi x.1) .nil) (fun _ x => .cons 52 (rowB 1 byteCh 0 fun _ => x.2) .nil) (fun x => x.1 ≤ v.toNat ∧ x.2.length = v.toNat) (fun x => v.toNat - x.1) (0, List.replicate v.toNat 0) ?_ ⟨by simp, by simp⟩ ?_
    · cbv
      (repeat' (first | exact True.intro | exact Same.refl _ | exact SameB.refl _ | exact ⟨rfl⟩ | exact Same.int rfl | exact Same.str rfl | exact Same.bool rfl | (refine Same.int ?_; simp only [List.length_append, List.length_cons, List.length_nil, zi]; omega) | (refine SameB.row' rfl fun i hi => ?_; first | rfl | exact absurd hi (Nat.not_lt_zero _)) | refine And.intro ?_ ?_ | refine SameB.cells ?_ | exact SameC.nil | refine SameC.cons ?_ ?_ | exact Same.nsl rfl | exact Same.tt rfl | exact Same.ff rfl))
      all_goals
        refine SameB.row' (by simp) fun i hi => ?_
        show byteCh (fun _ => 0) = byteCh fun _ => (List.replicate v.toNat 0).getD i 0
        congr 1
        funext _
        rw [List.getD_eq_getElem?_getD, List.getElem?_replicate]
        split <;> rfl
    · rintro ⟨j, bs⟩ ⟨hj, hbs⟩
      dsimp only at hj hbs
      cbv
      ((try refine br_rev ?_); (first | refine br_dec (fun h3 => ?_) (fun h3 => ?_) | refine br_ndec (fun h3 => ?_) (fun h3 => ?_) | refine br_nbool (fun h3 => ?_) (fun h3 => ?_) | refine br_bool (fun h3 => ?_) (fun h3 => ?_)); all_goals (try dsimp only at h3); all_goals (try with_reducible replace h3 := zi_lt.1 h3); all_goals (try with_reducible replace h3 := not_zlt h3)) <;> cbv
      · refine safe ⟨zi_nonneg _, zi_lt.2 (by omega)⟩ ?_
        refine safe ⟨zi_nonneg _, zi_lt.2 h3⟩ ?_
        refine put_rows byteCh 0 bs (IntKind.u8.wrap ((ns .o).getD (zi (2 * k)).toNat 0 * IntKind.u8.wrap (IntKind.i64.wrap (zi j + 1)))) rfl (fun i hi => rfl) (by show (zi j).toNat < _; rw [zi_toNat]; exact h3) rfl ?_
        cbv
        refine ⟨(j + 1, bs.set (zi j).toNat (IntKind.u8.wrap ((ns .o).getD (zi (2 * k)).toNat 0 * IntKind.u8.wrap (IntKind.i64.wrap (zi j + 1))))), ⟨by show j + 1 ≤ _; omega, by rw [List.length_set]; exact hbs⟩, by show _ - (j + 1) < _ - j; omega, ?_⟩
        have hsj : IntKind.i64.wrap (zi j + 1) = zi (j + 1) := zi_succ (by omega)
        cbv
        (repeat' (first | exact True.intro | exact Same.refl _ | exact SameB.refl _ | exact ⟨rfl⟩ | exact Same.int rfl | exact Same.str rfl | exact Same.bool rfl | (refine Same.int ?_; simp only [List.length_append, List.length_cons, List.length_nil, zi]; omega) | (refine SameB.row' rfl fun i hi => ?_; first | rfl | exact absurd hi (Nat.not_lt_zero _)) | refine And.intro ?_ ?_ | refine SameB.cells ?_ | exact SameC.nil | refine SameC.cons ?_ ?_ | exact Same.nsl rfl | exact Same.tt rfl | exact Same.ff rfl))
        · exact Same.int hsj
        · exact SameB.row' (by show bs.length = (bs.set _ _).length; rw [List.length_set]) fun i hi => rfl
      · refine safe (fun i hi => ⟨_, rfl⟩) ?_
        refine addx_c (fun _ => l) (fun _ => ⟨_, _⟩) (by show l.length ≤ 1000; omega) fun r hr' => ?_
        replace hr' : (r .o).length ≤ l.length + 1 := hr'
        cbv
        refine ⟨(k + 1, r .o), ⟨by show (r .o).length ≤ 6; omega, by show 2 * (k + 1) ≤ _; omega⟩, by show _ - 2 * (k + 1) < _ - 2 * k; omega, ?_⟩
        cbv
        (repeat' (first | exact True.intro | exact Same.refl _ | exact SameB.refl _ | exact ⟨rfl⟩ | exact Same.int rfl | exact Same.str rfl | exact Same.bool rfl | (refine Same.int ?_; simp only [List.length_append, List.length_cons, List.length_nil, zi]; omega) | (refine SameB.row' rfl fun i hi => ?_; first | rfl | exact absurd hi (Nat.not_lt_zero _)) | refine And.intro ?_ ?_ | refine SameB.cells ?_ | exact SameC.nil | refine SameC.cons ?_ ?_ | exact Same.nsl rfl | exact Same.tt rfl | exact Same.ff rfl))
        exact Same.int (by show IntKind.i64.wrap (zi (2 * k) + 2) = zi (2 * (k + 1)); rw [IntKind.wrap_i64]; unfold zi; omega)

/-- The rights of a file, by numbers. -/
structure CapsMade (c : Caps) : Prop where
  ver : c.ver = 2 ∨ c.ver = 3
  root2 : c.ver = 2 → c.root = 0
  root3 : 0 ≤ c.root ∧ c.root < 2147483648
theorem l11_c (p i : Th Int) (w : Th Int) (ro : Th Int) (hw : 0 ≤ w .o ∧ w .o < 256) (hro : 0 ≤ ro .o ∧ ro .o < 4294967296) {d : Nat} {K : ARes → BL → Prop} (hr : ∀ c : Th Caps, CapsMade (c .o) → K (.ret (.agg (.cons (.int .i64 fun _ => (c .o).ver) (.cons (.int .u64 fun _ => (c .o).perm) (.cons (.int .u64 fun _ => (c .o).inh) (.cons (.bool fun _ => (c .o).eff) (.cons (.int .i64 fun _ => (c .o).root) .nil))))))) .nil) :
    CallAt PT l11_Make [.int .u64 p, .int .u64 i, .int .u8 w, .int .u32 ro] d .nil K := by
  refine l11_Make.of rfl rfl ?_
  have hm := rest_of hw (m := 2) (by decide)
  have hv : IntKind.i64.wrap (2 + (IntKind.i64.wrap (w .o)).tmod 2) = 2 ∨ IntKind.i64.wrap (2 + (IntKind.i64.wrap (w .o)).tmod 2) = 3 := by
    rw [IntKind.wrap_i64 (2 + _)]
    omega
  (cbv; repeat (refine safe (by first | decide | (simp only [zi] at *; omega) | assumption | (dsimp only; omega) | (dsimp only at *; simp only [List.length_append, List.length_cons, List.length_nil, zi] at *; omega)) ?_; cbv))
  ((try refine br_rev ?_); (first | refine br_dec (fun h1 => ?_) (fun h1 => ?_) | refine br_ndec (fun h1 => ?_) (fun h1 => ?_) | refine br_nbool (fun h1 => ?_) (fun h1 => ?_) | refine br_bool (fun h1 => ?_) (fun h1 => ?_)); all_goals (try dsimp only at h1); all_goals (try with_reducible replace h1 := zi_lt.1 h1); all_goals (try with_reducible replace h1 := not_zlt h1)) <;> cbv
  · refine safe (by decide) ?_
    refine hr (fun _ => ⟨IntKind.i64.wrap (2 + (IntKind.i64.wrap (w .o)).tmod 2), p .o, i .o, decide (128 ≤ w .o), (IntKind.i64.wrap (ro .o)).fdiv (2 ^ min (Int.toNat 1) IntKind.i64.bits)⟩) ⟨hv, fun q => absurd (q.symm.trans h1) (by decide), ?_⟩
    show 0 ≤ (IntKind.i64.wrap (ro .o)).fdiv 2 ∧ (IntKind.i64.wrap (ro .o)).fdiv 2 < 2147483648
    rw [show IntKind.i64.wrap (ro .o) = ro .o by rw [IntKind.wrap_i64]; omega, Int.fdiv_eq_ediv_of_nonneg _ (by decide)]
    omega
  · exact hr (fun _ => ⟨IntKind.i64.wrap (2 + (IntKind.i64.wrap (w .o)).tmod 2), p .o, i .o, decide (128 ≤ w .o), 0⟩) ⟨hv, fun _ => rfl, Int.le_refl 0, by show (0 : Int) < 2147483648; decide⟩
end Go.Proofs.Ytgjlkcdnlndlnaa
