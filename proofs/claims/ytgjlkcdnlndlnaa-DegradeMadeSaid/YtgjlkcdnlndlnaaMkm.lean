/- What the laws make by numbers: what is kept of a file. -/
import Derived.Test.YtgjlkcdnlndlnaaMkx
namespace Go.Proofs.Ytgjlkcdnlndlnaa
open Go Go.Proofs.Ytgjlkcdnlndlnaa.Sx F
set_option linter.unusedVariables false
set_option linter.unusedSimpArgs false

/-- Number j, of those read so far. -/
def kAt (ns : List Int) (i j : Nat) : Int := if j < i then ns.getD j 0 else 0
theorem kAt_byte {ns : List Int} (h : isBytes ns) (i j : Nat) : 0 ≤ kAt ns i j ∧ kAt ns i j < 256 := by
  unfold kAt; split
  · exact byte_at h
  · decide
/-- What l14.Make makes. -/
structure MadeM (ns : List Int) (m : Meta) : Prop where
  mode : 0 ≤ m.mode ∧ m.mode < 4096
  uid : 0 ≤ m.uid ∧ m.uid < 6
  gid : 0 ≤ m.gid ∧ m.gid < 6
  acl : m.acl = [] ∨ ∃ ns', isBytes ns' ∧ m.acl = l9S ns' (band m.mode 511)
  xs : m.xs.length ≤ 6

/-- What depends on the kind. -/
structure MadeK (k : Int) (m : Meta) : Prop where
  flags : 0 ≤ m.flags ∧ m.flags < 16
  dflt : m.dflt = [] ∨ (k = 6 ∧ ∃ ns' n, isBytes ns' ∧ (0 ≤ n ∧ n < 256) ∧ m.dflt = l9S ns' n)
  caps : m.caps = ⟨0, 0, 0, false, 0⟩ ∨ (k = 1 ∧ CapsMade m.caps)
  sym : k = 3 → m.mode = 511 ∧ m.acl = [] ∧ m.flags = 0
  sec : -50000 ≤ m.sec ∧ m.sec ≤ 205000
  nano : m.nano = 0 ∨ m.nano = 500000000
theorem bytes_drop {l : List Int} (h : isBytes l) (k : Nat) : isBytes (l.drop k) := fun x hx => h x (List.drop_subset _ _ hx)
theorem short_drop {l : List Int} (h : short l) (k : Nat) : short (l.drop k) := by unfold short at *; rw [List.length_drop]; omega
/-- The row from number c on. -/
def fromI (l : Th (List Int)) (c : Th Int) : AV := .sl 1 (fun _ => (zi (l .o).length - c .o).toNat) fun i => .cons (.int .u8 fun _ => (l .o).getD ((c .o).toNat + i .o) 0) .nil
theorem from_same (l : Th (List Int)) (c : Th Int) (hc : 0 ≤ c .o) : Same (fromI l c) (byteI fun _ => (l .o).drop (c .o).toNat) := by
  refine Same.sl ?_ fun i hi => ?_
  · show (zi (l .o).length - c .o).toNat = ((l .o).drop (c .o).toNat).length
    rw [List.length_drop]; unfold zi; omega
  · show (AV.cons (.int .u8 fun _ => (l .o).getD ((c .o).toNat + i) 0) .nil) = AV.cons (.int .u8 fun _ => ((l .o).drop (c .o).toNat).getD i 0) .nil
    rw [getD_drop]
theorem l13_from (l : Th (List Int)) (c : Th Int) (hc : 0 ≤ c .o) (hns : isBytes (l .o)) (hs : short (l .o)) {d : Nat} {K : ARes → BL → Prop} (hr : ∀ r : Th (List Xattr), (r .o).length ≤ 6 → K (.ret (xattrs r)) .nil) : CallAt PT l13_Make [fromI l c] d .nil K :=
  CallAt.args (.cons (from_same l c hc) .nil) (l13_c _ (bytes_drop hns _) (short_drop hs _) hr)
theorem l9_from (l : Th (List Int)) (c : Th Int) (m : Th Int) (hc : 0 ≤ c .o) (hns : isBytes (l .o)) (hs : short (l .o)) {d : Nat} {K : ARes → BL → Prop} (hr : ∀ r : Th (List Ace), r .o = l9S ((l .o).drop (c .o).toNat) (m .o) → K (.ret (aces r)) .nil) : CallAt PT l9_Make [fromI l c, .int .i64 m] d .nil K :=
  CallAt.args (.cons (from_same l c hc) (.cons (.refl _) .nil)) (l9_c _ m (bytes_drop hns _) (short_drop hs _) hr)

/-- A Meta told by its parts. -/
theorem meta_ret {K : ARes → BL → Prop} {mode uid gid sec nano ver perm inh root flags : Th Int} {eff : Th Bool} {A D X E : AV} (acl dflt : Th (List Ace)) (xs : Th (List Xattr))
    (hA : Same A (aces acl)) (hD : Same D (aces dflt)) (hX : Same X (xattrs xs)) (hE : Same E (.bool eff))
    (h : K (.ret (Meta.av fun _ => ⟨mode .o, uid .o, gid .o, sec .o, nano .o, acl .o, dflt .o, xs .o, ⟨ver .o, perm .o, inh .o, eff .o, root .o⟩, flags .o⟩)) .nil) :
    ∃ r', SameR (.ret (.agg (.cons (.int .i64 mode) (.cons (.int .i64 uid) (.cons (.int .i64 gid) (.cons (.int .i64 sec) (.cons (.int .i64 nano) (.cons A (.cons D (.cons X
      (.cons (.int .i64 ver) (.cons (.int .u64 perm) (.cons (.int .u64 inh) (.cons E (.cons (.int .i64 root) (.cons (.int .i64 flags) .nil)))))))))))))))) r' ∧ K r' .nil :=
  ⟨_, .ret (y := Meta.av fun _ => ⟨mode .o, uid .o, gid .o, sec .o, nano .o, acl .o, dflt .o, xs .o, ⟨ver .o, perm .o, inh .o, eff .o, root .o⟩, flags .o⟩)
    (.agg (.cons (.int rfl) (.cons (.int rfl) (.cons (.int rfl) (.cons (.int rfl) (.cons (.int rfl) (.cons hA (.cons hD (.cons hX (.cons (.int rfl) (.cons (.int rfl) (.cons (.int rfl) (.cons hE (.cons (.int rfl) (.cons (.int rfl) .nil))))))))))))))), h⟩

theorem wrap_u32 (x : Int) : 0 ≤ IntKind.u32.wrap x ∧ IntKind.u32.wrap x < 4294967296 := by
  rw [IntKind.wrap_u32]; omega
theorem nsl_aces : Same .nsl (aces fun _ => []) := Same.nsl rfl
theorem nsl_xattrs : Same .nsl (xattrs fun _ => []) := Same.nsl rfl
theorem ff_bool : Same .ff (.bool fun _ => false) := Same.ff rfl

theorem l14k_c (ns : Th (List Int)) (kind : Th Int) (hns : isBytes (ns .o)) (hs : short (ns .o)) {d : Nat} {K : ARes → BL → Prop} (hr : ∀ m : Th Meta, MadeM (ns .o) (m .o) → MadeK (kind .o) (m .o) → K (.ret (Meta.av m)) .nil) : CallAt PT l14_Make [byteI ns, .int .i64 kind] d .nil K := by
  refine CallAt.res ?_
  refine l14_Make.of rfl rfl ?_
  (cbv; repeat (refine safe (by first | decide | (simp only [zi] at *; omega) | assumption | (dsimp only; omega) | (dsimp only at *; simp only [List.length_append, List.length_cons, List.length_nil, zi] at *; omega)) ?_; cbv))
  refine loop_at (X := Nat) 1000 [0, 1, 4, 5] [4] (fun _ i => .cons 6 (.int .i64 fun _ => zi i) .nil) (fun _ i => .cons 8 (.row 1 (fun _ => 12) fun j => intCh fun _ => kAt (ns .o) i (j .o)) .nil) (fun i => i ≤ 12 ∧ i ≤ (ns .o).length) (fun i => 12 - i) 0 ?_ ⟨by simp, by simp⟩ ?_
  · cbv
    (repeat' (first | exact True.intro | exact Same.refl _ | exact SameB.refl _ | exact ⟨rfl⟩ | exact Same.int rfl | exact Same.str rfl | exact Same.bool rfl | (refine Same.int ?_; simp only [List.length_append, List.length_cons, List.length_nil, zi]; omega) | (refine SameB.row' rfl fun i hi => ?_; first | rfl | exact absurd hi (Nat.not_lt_zero _)) | refine And.intro ?_ ?_ | refine SameB.cells ?_ | exact SameC.nil | refine SameC.cons ?_ ?_ | exact Same.nsl rfl | exact Same.tt rfl | exact Same.ff rfl))
  · rintro i ⟨hi, hil⟩
    cbv
    ((try refine br_rev ?_); (first | refine br_dec (fun h1 => ?_) (fun h1 => ?_) | refine br_ndec (fun h1 => ?_) (fun h1 => ?_) | refine br_nbool (fun h1 => ?_) (fun h1 => ?_) | refine br_bool (fun h1 => ?_) (fun h1 => ?_)); all_goals (try dsimp only at h1); all_goals (try with_reducible replace h1 := zi_lt.1 h1); all_goals (try with_reducible replace h1 := not_zlt h1))
    focus replace h1 : i < 12 := h1
    rotate_left
    focus replace h1 : 12 ≤ i := h1
    rotate_left
    all_goals cbv
    all_goals try ((try refine br_rev ?_); (first | refine br_dec (fun h2 => ?_) (fun h2 => ?_) | refine br_ndec (fun h2 => ?_) (fun h2 => ?_) | refine br_nbool (fun h2 => ?_) (fun h2 => ?_) | refine br_bool (fun h2 => ?_) (fun h2 => ?_)); all_goals (try dsimp only at h2); all_goals (try with_reducible replace h2 := zi_lt.1 h2); all_goals (try with_reducible replace h2 := not_zlt h2))
    all_goals cbv
    focus
      refine safe ⟨zi_nonneg _, zi_lt.2 h2⟩ ?_
      refine safe ⟨zi_nonneg _, zi_lt.2 h1⟩ ?_
      refine ⟨by show (zi i).toNat < 12; rw [zi_toNat]; exact h1, fun j => intCh fun _ => kAt (ns .o) (i + 1) (j .o), _, rfl, fun j hj hne => Fits.of_eq ?_, Fits.of_eq ?_, ?_⟩
      · show (intCh fun _ => kAt (ns .o) i j) = intCh fun _ => kAt (ns .o) (i + 1) j
        replace hne : j ≠ (zi i).toNat := hne
        rw [zi_toNat] at hne
        unfold kAt
        by_cases q : j < i
        · simp only [if_pos q, if_pos (show j < i + 1 by omega)]
        · simp only [if_neg q, if_neg (show ¬ j < i + 1 by omega)]
      · show (intCh fun _ => IntKind.i64.wrap ((ns .o).getD (zi i).toNat 0)) = intCh fun _ => kAt (ns .o) (i + 1) (zi i).toNat
        rw [zi_toNat, wrap_byte (byte_at hns), kAt, if_pos (by omega)]
      · cbv
        refine ⟨i + 1, ⟨by omega, by omega⟩, by omega, ?_⟩
        cbv
        rw [zi_succ (by omega)]
        (repeat' (first | exact True.intro | exact Same.refl _ | exact SameB.refl _ | exact ⟨rfl⟩ | exact Same.int rfl | exact Same.str rfl | exact Same.bool rfl | (refine Same.int ?_; simp only [List.length_append, List.length_cons, List.length_nil, zi]; omega) | (refine SameB.row' rfl fun i hi => ?_; first | rfl | exact absurd hi (Nat.not_lt_zero _)) | refine And.intro ?_ ?_ | refine SameB.cells ?_ | exact SameC.nil | refine SameC.cons ?_ ?_ | exact Same.nsl rfl | exact Same.tt rfl | exact Same.ff rfl))
    all_goals
      have kb := fun j => kAt_byte hns i j
      have hk0 : ∀ j, (ns .o).length ≤ j → kAt (ns .o) i j = 0 := by
        intro j hj
        unfold kAt
        split
        · rw [List.getD_eq_getElem?_getD, List.getElem?_eq_none hj]; rfl
        · rfl
      (repeat (refine safe (by first | decide | (simp only [zi] at *; omega) | assumption | (dsimp only; omega) | (dsimp only at *; simp only [List.length_append, List.length_cons, List.length_nil, zi] at *; omega)) ?_))
      ((try refine br_rev ?_); (first | refine br_dec (fun h3 => ?_) (fun h3 => ?_) | refine br_ndec (fun h3 => ?_) (fun h3 => ?_) | refine br_nbool (fun h3 => ?_) (fun h3 => ?_) | refine br_bool (fun h3 => ?_) (fun h3 => ?_)); all_goals (try dsimp only at h3); all_goals (try with_reducible replace h3 := zi_lt.1 h3); all_goals (try with_reducible replace h3 := not_zlt h3))
    all_goals cbv
    all_goals try (refine safe ⟨by decide, Int.le_of_lt h3, Int.le_refl _⟩ ?_; refine l13_from ns (fun _ => 12) (by show (0 : Int) ≤ 12; decide) hns hs fun xs hxs => ?_; cbv)
    all_goals
      have hmode : 0 ≤ IntKind.i64.wrap (IntKind.i64.wrap (kAt (ns .o) i 0 * 16) + (kAt (ns .o) i 1).tmod 16) ∧ IntKind.i64.wrap (IntKind.i64.wrap (kAt (ns .o) i 0 * 16) + (kAt (ns .o) i 1).tmod 16) < 4096 := by
        have q1 := Int.tmod_nonneg 16 (kb 1).1
        have q2 : (kAt (ns .o) i 1).tmod 16 < 16 := Int.tmod_lt_of_pos _ (by decide)
        have q0 := kb 0
        have e1 : IntKind.i64.wrap (kAt (ns .o) i 0 * 16) = kAt (ns .o) i 0 * 16 := by rw [IntKind.wrap_i64]; omega
        rw [e1, IntKind.wrap_i64]
        omega
      have huid : ∀ j, 0 ≤ (kAt (ns .o) i j).tmod 6 ∧ (kAt (ns .o) i j).tmod 6 < 6 := fun j => ⟨Int.tmod_nonneg _ (kb j).1, Int.tmod_lt_of_pos _ (by decide)⟩
      have hsec : -50000 ≤ IntKind.i64.wrap (IntKind.i64.wrap (kAt (ns .o) i 4 * 1000) - 50000) ∧ IntKind.i64.wrap (IntKind.i64.wrap (kAt (ns .o) i 4 * 1000) - 50000) ≤ 205000 := by
        have q0 := kb 4
        have e1 : IntKind.i64.wrap (kAt (ns .o) i 4 * 1000) = kAt (ns .o) i 4 * 1000 := by rw [IntKind.wrap_i64]; omega
        have e2 : IntKind.i64.wrap (kAt (ns .o) i 4 * 1000 - 50000) = kAt (ns .o) i 4 * 1000 - 50000 := by rw [IntKind.wrap_i64]; omega
        rw [e1, e2]
        omega
      have hnano : IntKind.i64.wrap ((kAt (ns .o) i 5).tmod 2 * 500000000) = 0 ∨ IntKind.i64.wrap ((kAt (ns .o) i 5).tmod 2 * 500000000) = 500000000 := by
        have q1 := Int.tmod_nonneg 2 (kb 5).1
        have q2 : (kAt (ns .o) i 5).tmod 2 < 2 := Int.tmod_lt_of_pos _ (by decide)
        have e2 : IntKind.i64.wrap ((kAt (ns .o) i 5).tmod 2 * 500000000) = (kAt (ns .o) i 5).tmod 2 * 500000000 := by rw [IntKind.wrap_i64]; omega
        rw [e2]
        omega
      have hfl : 0 ≤ (kAt (ns .o) i 6).tmod 16 ∧ (kAt (ns .o) i 6).tmod 16 < 16 := ⟨Int.tmod_nonneg _ (kb 6).1, Int.tmod_lt_of_pos _ (by decide)⟩
      ((try refine br_rev ?_); (first | refine br_dec (fun h4 => ?_) (fun h4 => ?_) | refine br_ndec (fun h4 => ?_) (fun h4 => ?_) | refine br_nbool (fun h4 => ?_) (fun h4 => ?_) | refine br_bool (fun h4 => ?_) (fun h4 => ?_)); all_goals (try dsimp only at h4); all_goals (try with_reducible replace h4 := zi_lt.1 h4); all_goals (try with_reducible replace h4 := not_zlt h4))
    all_goals cbv
    all_goals try (first
      | exact meta_ret (eff := fun _ => false) (fun _ => []) (fun _ => []) (fun _ => []) (Same.nsl rfl) (Same.nsl rfl) (Same.nsl rfl) (Same.ff rfl) (hr _ ⟨by show (0 : Int) ≤ 511 ∧ (511 : Int) < 4096; decide, huid 2, huid 3, .inl rfl, Nat.zero_le _⟩ ⟨by show (0 : Int) ≤ 0 ∧ (0 : Int) < 16; decide, .inl rfl, .inl rfl, fun _ => ⟨rfl, rfl, rfl⟩, hsec, hnano⟩)
      | exact meta_ret (eff := fun _ => false) (fun _ => []) (fun _ => []) xs (Same.nsl rfl) (Same.nsl rfl) (Same.refl _) (Same.ff rfl) (hr _ ⟨by show (0 : Int) ≤ 511 ∧ (511 : Int) < 4096; decide, huid 2, huid 3, .inl rfl, hxs⟩ ⟨by show (0 : Int) ≤ 0 ∧ (0 : Int) < 16; decide, .inl rfl, .inl rfl, fun _ => ⟨rfl, rfl, rfl⟩, hsec, hnano⟩))
    all_goals (repeat (refine safe (by first | decide | (simp only [zi] at *; omega) | assumption | (dsimp only; omega) | (dsimp only at *; simp only [List.length_append, List.length_cons, List.length_nil, zi] at *; omega)) ?_))
    all_goals ((try refine br_rev ?_); (first | refine br_dec (fun h5 => ?_) (fun h5 => ?_) | refine br_ndec (fun h5 => ?_) (fun h5 => ?_) | refine br_nbool (fun h5 => ?_) (fun h5 => ?_) | refine br_bool (fun h5 => ?_) (fun h5 => ?_)); all_goals (try dsimp only at h5); all_goals (try with_reducible replace h5 := zi_lt.1 h5); all_goals (try with_reducible replace h5 := not_zlt h5))
    all_goals cbv
    all_goals try (
      have h8 : 8 ≤ (ns .o).length := by
        refine Nat.le_of_not_lt fun q => ?_
        have := hk0 7 (by omega)
        replace h5 : (kAt (ns .o) i 7).tmod 2 = 1 := h5
        rw [this] at h5
        exact absurd h5 (by decide)
      refine safe ⟨by decide, (zi_le (a := 8)).2 h8, Int.le_refl _⟩ ?_
      refine l9_from ns (fun _ => 8) _ (by show (0 : Int) ≤ 8; decide) hns hs fun acl hacl => ?_
      cbv)
    all_goals ((try refine br_rev ?_); (first | refine br_dec (fun h6 => ?_) (fun h6 => ?_) | refine br_ndec (fun h6 => ?_) (fun h6 => ?_) | refine br_nbool (fun h6 => ?_) (fun h6 => ?_) | refine br_bool (fun h6 => ?_) (fun h6 => ?_)); all_goals (try dsimp only at h6); all_goals (try with_reducible replace h6 := zi_lt.1 h6); all_goals (try with_reducible replace h6 := not_zlt h6))
    all_goals cbv
    all_goals try (refine safe (by decide) ?_; (repeat (refine safe (by first | decide | (simp only [zi] at *; omega) | assumption | (dsimp only; omega) | (dsimp only at *; simp only [List.length_append, List.length_cons, List.length_nil, zi] at *; omega)) ?_)); ((try refine br_rev ?_); (first | refine br_dec (fun h7 => ?_) (fun h7 => ?_) | refine br_ndec (fun h7 => ?_) (fun h7 => ?_) | refine br_nbool (fun h7 => ?_) (fun h7 => ?_) | refine br_bool (fun h7 => ?_) (fun h7 => ?_)); all_goals (try dsimp only at h7); all_goals (try with_reducible replace h7 := zi_lt.1 h7); all_goals (try with_reducible replace h7 := not_zlt h7)); all_goals cbv)
    all_goals try (
      refine safe (by refine ⟨?_, ?_, Int.le_refl _⟩ <;> (have := zi_nonneg (ns .o).length; (try dsimp only); split <;> omega)) ?_
      (repeat (refine safe (by first | decide | (simp only [zi] at *; omega) | assumption | (dsimp only; omega) | (dsimp only at *; simp only [List.length_append, List.length_cons, List.length_nil, zi] at *; omega)) ?_))
      refine l9_from ns (fun _ => if 9 < zi (ns .o).length then 9 else zi (ns .o).length) _ (by have := zi_nonneg (ns .o).length; (try dsimp only); split <;> omega) hns hs fun df hdf => ?_
      cbv)
    all_goals ((try refine br_rev ?_); (first | refine br_dec (fun h9 => ?_) (fun h9 => ?_) | refine br_ndec (fun h9 => ?_) (fun h9 => ?_) | refine br_nbool (fun h9 => ?_) (fun h9 => ?_) | refine br_bool (fun h9 => ?_) (fun h9 => ?_)); all_goals (try dsimp only at h9); all_goals (try with_reducible replace h9 := zi_lt.1 h9); all_goals (try with_reducible replace h9 := not_zlt h9))
    all_goals try (exfalso; omega)
    all_goals cbv
    all_goals try (repeat (refine safe (by first | decide | (simp only [zi] at *; omega) | assumption | (dsimp only; omega) | (dsimp only at *; simp only [List.length_append, List.length_cons, List.length_nil, zi] at *; omega)) ?_))
    all_goals try ((try refine br_rev ?_); (first | refine br_dec (fun h10 => ?_) (fun h10 => ?_) | refine br_ndec (fun h10 => ?_) (fun h10 => ?_) | refine br_nbool (fun h10 => ?_) (fun h10 => ?_) | refine br_bool (fun h10 => ?_) (fun h10 => ?_)); all_goals (try dsimp only at h10); all_goals (try with_reducible replace h10 := zi_lt.1 h10); all_goals (try with_reducible replace h10 := not_zlt h10))
    all_goals cbv
    all_goals try ((try refine br_rev ?_); (first | refine br_dec (fun h11 => ?_) (fun h11 => ?_) | refine br_ndec (fun h11 => ?_) (fun h11 => ?_) | refine br_nbool (fun h11 => ?_) (fun h11 => ?_) | refine br_bool (fun h11 => ?_) (fun h11 => ?_)); all_goals (try dsimp only at h11); all_goals (try with_reducible replace h11 := zi_lt.1 h11); all_goals (try with_reducible replace h11 := not_zlt h11))
    all_goals cbv
    all_goals try (
      (repeat (refine safe (by first | decide | (simp only [zi] at *; omega) | assumption | (dsimp only; omega) | (dsimp only at *; simp only [List.length_append, List.length_cons, List.length_nil, zi] at *; omega)) ?_))
      refine l11_c _ _ (fun _ => (ns .o).getD 10 0) _ (byte_at hns) (wrap_u32 _) fun caps hcaps => ?_
      cbv)
    all_goals (
      apply meta_ret
      focus first | exact nsl_aces | exact Same.refl _
      focus first | exact nsl_aces | exact Same.refl _
      focus first | exact nsl_xattrs | exact Same.refl _
      focus first | exact ff_bool | exact Same.refl _
      exact hr _ ⟨hmode, huid 2, huid 3, by first | exact .inl rfl | exact .inr ⟨_, bytes_drop hns _, hacl⟩, by first | exact Nat.zero_le _ | exact hxs⟩ ⟨hfl, by first | exact .inl rfl | exact .inr ⟨h6, _, _, bytes_drop hns _, kb 9, hdf⟩, by first | exact .inl rfl | exact .inr ⟨h9, hcaps⟩, fun q => absurd q h4, hsec, hnano⟩)
theorem l14_c (ns : Th (List Int)) (kind : Th Int) (hns : isBytes (ns .o)) (hs : short (ns .o)) {d : Nat} {K : ARes → BL → Prop} (hr : ∀ m : Th Meta, MadeM (ns .o) (m .o) → K (.ret (Meta.av m)) .nil) : CallAt PT l14_Make [byteI ns, .int .i64 kind] d .nil K :=
  l14k_c ns kind hns hs fun m h _ => hr m h
end Go.Proofs.Ytgjlkcdnlndlnaa
