/- What the laws make by numbers: entries. -/
import Derived.Test.YtgjlkcdnlndlnaaMkm
import Derived.Test.YtgjlkcdnlndlnaaSxy
namespace Go.Proofs.Ytgjlkcdnlndlnaa
open Go Go.Proofs.Ytgjlkcdnlndlnaa.Sx F
set_option linter.unusedVariables false
set_option linter.unusedSimpArgs false

structure Entry where
  path : List UInt8
  kind : Int
  mt : Meta
  data : List UInt8
  target : List UInt8
  major : Int
  minor : Int
def Entry.ch (e : Th Entry) : AV := .cons (.str fun _ => (e .o).path) (.cons (.int .i64 fun _ => (e .o).kind) ((Meta.ch fun _ => (e .o).mt).app
  (.cons (.str fun _ => (e .o).data) (.cons (.str fun _ => (e .o).target) (.cons (.int .i64 fun _ => (e .o).major) (.cons (.int .i64 fun _ => (e .o).minor) .nil))))))
def Entry.av (e : Th Entry) : AV := .agg (Entry.ch e)

theorem name_c (n : Th Int) (hn : 0 ≤ n .o ∧ n .o < 256) {d : Nat} {K : ARes → BL → Prop} (hr : ∀ s : Th (List UInt8), (s .o).length ≤ 80 → K (.ret (.str s)) .nil) : CallAt PT l15_name [.int .u8 n] d .nil K := by
  refine l15_name.of rfl rfl ?_
  cbv
  refine safe (by decide) ?_
  have h8 : 0 ≤ (n .o).tmod 8 ∧ (n .o).tmod 8 < 8 := ⟨Int.tmod_nonneg _ hn.1, Int.tmod_lt_of_pos _ (by decide)⟩
  refine safe h8 ?_
  refine safe (by show ((n .o).tmod 8).toNat < 8; omega) ?_
  have hl8 : ∀ j : Nat, (([fun _ : O1 => [97], fun _ => [98], fun _ => [100, 105, 114], fun _ => [120, 32, 121], fun _ => [255], fun _ => [108, 111, 110, 103], fun _ => [195, 164], fun _ => [99]] : List (Th (List UInt8))).getD j (fun _ => [97]) .o).length ≤ 4 := by
    intro j
    match j with
    | 0 | 1 | 2 | 3 | 4 | 5 | 6 | 7 => decide
    | j + 8 => exact (by decide : (1 : Nat) ≤ 4)
  have hl := hl8 ((n .o).tmod 8).toNat
  ((try refine br_rev ?_); (first | refine br_dec (fun h1 => ?_) (fun h1 => ?_) | refine br_ndec (fun h1 => ?_) (fun h1 => ?_) | refine br_nbool (fun h1 => ?_) (fun h1 => ?_) | refine br_bool (fun h1 => ?_) (fun h1 => ?_)); all_goals (try dsimp only at h1); all_goals (try with_reducible replace h1 := zi_lt.1 h1); all_goals (try with_reducible replace h1 := not_zlt h1))
  · cbv
    have hw : IntKind.i64.wrap (IntKind.i64.wrap (n .o) - 190) = n .o - 190 := by rw [IntKind.wrap_i64, IntKind.wrap_i64]; omega
    refine loop_at (X := Nat × List UInt8) 1000 [0] [] (fun _ x => .cons 4 (.str fun _ => x.2) (.cons 5 (.int .i64 fun _ => zi x.1) .nil)) (fun _ _ => .nil) (fun x => x.1 ≤ 66 ∧ x.2.length ≤ 4 + x.1) (fun x => 70 - x.1) (0, _) ?_ ⟨Nat.zero_le _, hl⟩ ?_
    · cbv
      (repeat' (first | exact True.intro | exact Same.refl _ | exact SameB.refl _ | exact ⟨rfl⟩ | exact Same.int rfl | exact Same.str rfl | exact Same.bool rfl | (refine Same.int ?_; simp only [List.length_append, List.length_cons, List.length_nil, zi]; omega) | (refine SameB.row' rfl fun i hi => ?_; first | rfl | exact absurd hi (Nat.not_lt_zero _)) | refine And.intro ?_ ?_ | refine SameB.cells ?_ | exact SameC.nil | refine SameC.cons ?_ ?_ | exact Same.nsl rfl | exact Same.tt rfl | exact Same.ff rfl))
    · rintro ⟨i, s⟩ ⟨hi, hs⟩
      dsimp only at hi hs
      cbv
      ((try refine br_rev ?_); (first | refine br_dec (fun h2 => ?_) (fun h2 => ?_) | refine br_ndec (fun h2 => ?_) (fun h2 => ?_) | refine br_nbool (fun h2 => ?_) (fun h2 => ?_) | refine br_bool (fun h2 => ?_) (fun h2 => ?_)); all_goals (try dsimp only at h2); all_goals (try with_reducible replace h2 := zi_lt.1 h2); all_goals (try with_reducible replace h2 := not_zlt h2))
      · have h2 : zi i < n .o - 190 := by rw [← hw]; exact h2
        have h2' : i < 66 := by unfold zi at h2; omega
        (cbv; repeat (refine safe (by first | decide | (simp only [zi] at *; omega) | assumption | (dsimp only; omega) | (dsimp only at *; simp only [List.length_append, List.length_cons, List.length_nil, zi] at *; omega)) ?_; cbv))
        refine ⟨(i + 1, s ++ [122]), ⟨h2', ?_⟩, ?_, ?_⟩
        · show (s ++ [122]).length ≤ 4 + (i + 1)
          simp only [List.length_append, List.length_cons, List.length_nil]; omega
        · show 70 - (i + 1) < 70 - i
          omega
        cbv
        rw [zi_succ (by omega)]
        (repeat' (first | exact True.intro | exact Same.refl _ | exact SameB.refl _ | exact ⟨rfl⟩ | exact Same.int rfl | exact Same.str rfl | exact Same.bool rfl | (refine Same.int ?_; simp only [List.length_append, List.length_cons, List.length_nil, zi]; omega) | (refine SameB.row' rfl fun i hi => ?_; first | rfl | exact absurd hi (Nat.not_lt_zero _)) | refine And.intro ?_ ?_ | refine SameB.cells ?_ | exact SameC.nil | refine SameC.cons ?_ ?_ | exact Same.nsl rfl | exact Same.tt rfl | exact Same.ff rfl))
      · cbv
        exact hr _ (by dsimp only; omega)
  · cbv
    exact hr _ (Nat.le_trans hl (by decide))

theorem path_c (ns : Th (List Int)) (hns : isBytes (ns .o)) (hs : short (ns .o)) {d : Nat} {K : ARes → BL → Prop} (hr : ∀ s : Th (List UInt8), (s .o).length ≤ 700 → K (.ret (.str s)) .nil) : CallAt PT l15_Path [byteI ns] d .nil K := by
  refine l15_Path.of rfl rfl ?_
  cbv
  refine loop_at (X := Nat × List UInt8) 1000 [0] [] (fun _ x => .cons 3 (.str fun _ => x.2) (.cons 4 (.int .i64 fun _ => zi x.1) .nil)) (fun _ _ => .nil) (fun x => x.1 ≤ 8 ∧ x.2.length ≤ 1 + 81 * x.1) (fun x => 8 - x.1) (0, [112]) ?_ ⟨Nat.zero_le _, by decide⟩ ?_
  · cbv
    (repeat' (first | exact True.intro | exact Same.refl _ | exact SameB.refl _ | exact ⟨rfl⟩ | exact Same.int rfl | exact Same.str rfl | exact Same.bool rfl | (refine Same.int ?_; simp only [List.length_append, List.length_cons, List.length_nil, zi]; omega) | (refine SameB.row' rfl fun i hi => ?_; first | rfl | exact absurd hi (Nat.not_lt_zero _)) | refine And.intro ?_ ?_ | refine SameB.cells ?_ | exact SameC.nil | refine SameC.cons ?_ ?_ | exact Same.nsl rfl | exact Same.tt rfl | exact Same.ff rfl))
  · rintro ⟨i, s⟩ ⟨hi, hsl⟩
    dsimp only at hi hsl
    cbv
    ((try refine br_rev ?_); (first | refine br_dec (fun h1 => ?_) (fun h1 => ?_) | refine br_ndec (fun h1 => ?_) (fun h1 => ?_) | refine br_nbool (fun h1 => ?_) (fun h1 => ?_) | refine br_bool (fun h1 => ?_) (fun h1 => ?_)); all_goals (try dsimp only at h1); all_goals (try with_reducible replace h1 := zi_lt.1 h1); all_goals (try with_reducible replace h1 := not_zlt h1))
    · cbv
      ((try refine br_rev ?_); (first | refine br_dec (fun h2 => ?_) (fun h2 => ?_) | refine br_ndec (fun h2 => ?_) (fun h2 => ?_) | refine br_nbool (fun h2 => ?_) (fun h2 => ?_) | refine br_bool (fun h2 => ?_) (fun h2 => ?_)); all_goals (try dsimp only at h2); all_goals (try with_reducible replace h2 := zi_lt.1 h2); all_goals (try with_reducible replace h2 := not_zlt h2))
      · have h2' : i < 8 := h2
        (cbv; repeat (refine safe (by first | decide | (simp only [zi] at *; omega) | assumption | (dsimp only; omega) | (dsimp only at *; simp only [List.length_append, List.length_cons, List.length_nil, zi] at *; omega)) ?_; cbv))
        refine name_c (fun _ => (ns .o).getD (zi i).toNat 0) (byte_at hns) fun t ht => ?_
        cbv
        refine safe (by dsimp only; simp only [List.length_append, List.length_cons, List.length_nil]; omega) ?_
        refine ⟨(i + 1, s ++ [47] ++ t .o), ⟨h2', ?_⟩, ?_, ?_⟩
        · show (s ++ [47] ++ t .o).length ≤ 1 + 81 * (i + 1)
          simp only [List.length_append, List.length_cons, List.length_nil]; omega
        · show 8 - (i + 1) < 8 - i
          omega
        cbv
        rw [zi_succ (by omega)]
        (repeat' (first | exact True.intro | exact Same.refl _ | exact SameB.refl _ | exact ⟨rfl⟩ | exact Same.int rfl | exact Same.str rfl | exact Same.bool rfl | (refine Same.int ?_; simp only [List.length_append, List.length_cons, List.length_nil, zi]; omega) | (refine SameB.row' rfl fun i hi => ?_; first | rfl | exact absurd hi (Nat.not_lt_zero _)) | refine And.intro ?_ ?_ | refine SameB.cells ?_ | exact SameC.nil | refine SameC.cons ?_ ?_ | exact Same.nsl rfl | exact Same.tt rfl | exact Same.ff rfl))
      · cbv
        exact hr _ (by dsimp only; omega)
    · cbv
      exact hr _ (by dsimp only; omega)
theorem path_from (l : Th (List Int)) (n : Th Nat) (hn : n .o ≤ (l .o).length) (hns : isBytes (l .o)) (hs : short (l .o)) {d : Nat} {K : ARes → BL → Prop} (hr : ∀ s : Th (List UInt8), (s .o).length ≤ 700 → K (.ret (.str s)) .nil) :
    CallAt PT l15_Path [.sl 1 n fun i => .cons (.int .u8 fun _ => (l .o).getD ((0 : Int).toNat + i .o) 0) .nil] d .nil K := by
  refine CallAt.args (.cons (y := byteI fun _ => (l .o).take (n .o)) (.sl ?_ fun i hi => ?_) .nil) (path_c _ (fun x hx => hns x (List.take_subset _ _ hx)) (by unfold short at *; rw [List.length_take]; omega) hr)
  · show n .o = ((l .o).take (n .o)).length
    rw [List.length_take]; omega
  · show (AV.cons (.int .u8 fun _ => (l .o).getD (0 + i) 0) .nil) = AV.cons (.int .u8 fun _ => ((l .o).take (n .o)).getD i 0) .nil
    rw [getD_take _ _ _ _ hi, Nat.zero_add]


/-- A Meta that says nothing. -/
def Meta.z : Meta := ⟨0, 0, 0, 0, 0, [], [], [], ⟨0, 0, 0, false, 0⟩, 0⟩
/-- What l15.Make makes. -/
structure MadeE (k : Int) (p : List UInt8) (ns : List Int) (e : Entry) : Prop where
  kind : e.kind = k
  path : e.path = p
  hard : k = 2 → e.mt = Meta.z
  mt : k ≠ 2 → MadeM ns e.mt
  km : k ≠ 2 → MadeK k e.mt

/-- An Entry told by its parts. -/
theorem entry_ret {K : ARes → BL → Prop} {path data target : Th (List UInt8)} {kind mode uid gid sec nano ver perm inh root flags major minor : Th Int} {eff : Th Bool} {A D X E : AV} (acl dflt : Th (List Ace)) (xs : Th (List Xattr))
    (hA : Same A (aces acl)) (hD : Same D (aces dflt)) (hX : Same X (xattrs xs)) (hE : Same E (.bool eff))
    (h : K (.ret (Entry.av fun _ => ⟨path .o, kind .o, ⟨mode .o, uid .o, gid .o, sec .o, nano .o, acl .o, dflt .o, xs .o, ⟨ver .o, perm .o, inh .o, eff .o, root .o⟩, flags .o⟩, data .o, target .o, major .o, minor .o⟩)) .nil) :
    ∃ r', SameR (.ret (.agg (.cons (.str path) (.cons (.int .i64 kind) (.cons (.int .i64 mode) (.cons (.int .i64 uid) (.cons (.int .i64 gid) (.cons (.int .i64 sec) (.cons (.int .i64 nano) (.cons A (.cons D (.cons X
      (.cons (.int .i64 ver) (.cons (.int .u64 perm) (.cons (.int .u64 inh) (.cons E (.cons (.int .i64 root) (.cons (.int .i64 flags) (.cons (.str data) (.cons (.str target) (.cons (.int .i64 major) (.cons (.int .i64 minor) .nil)))))))))))))))))))))) r' ∧ K r' .nil :=
  ⟨_, .ret (y := Entry.av fun _ => ⟨path .o, kind .o, ⟨mode .o, uid .o, gid .o, sec .o, nano .o, acl .o, dflt .o, xs .o, ⟨ver .o, perm .o, inh .o, eff .o, root .o⟩, flags .o⟩, data .o, target .o, major .o, minor .o⟩)
    (.agg (.cons (.str rfl) (.cons (.int rfl) (.cons (.int rfl) (.cons (.int rfl) (.cons (.int rfl) (.cons (.int rfl) (.cons (.int rfl) (.cons hA (.cons hD (.cons hX (.cons (.int rfl) (.cons (.int rfl) (.cons (.int rfl) (.cons hE (.cons (.int rfl) (.cons (.int rfl) (.cons (.str rfl) (.cons (.str rfl) (.cons (.int rfl) (.cons (.int rfl) .nil))))))))))))))))))))), h⟩

theorem make15_c (kind : Th Int) (path : Th (List UInt8)) (ns : Th (List Int)) (hns : isBytes (ns .o)) (hs : short (ns .o)) {d : Nat} {K : ARes → BL → Prop} (hr : ∀ e : Th Entry, MadeE (kind .o) (path .o) (ns .o) (e .o) → K (.ret (Entry.av e)) .nil) :
    CallAt PT l15_Make [.int .i64 kind, .str path, byteI ns] d .nil K := by
  refine CallAt.res ?_
  refine l15_Make.of rfl rfl ?_
  cbv
  have b0 := byte_at (k := 0) hns
  have w0 : IntKind.i64.wrap ((ns .o).getD 0 0) = (ns .o).getD 0 0 := wrap_byte b0
  have w3 : IntKind.i64.wrap (IntKind.i64.wrap ((ns .o).getD 0 0) * 3) = (ns .o).getD 0 0 * 3 := by rw [w0, IntKind.wrap_i64]; omega
  have hm4 : ∀ c : Int, 0 ≤ c → (True → (0 : Int) ≤ 0 ∧ 0 ≤ (if c < zi (ns .o).length then c else zi (ns .o).length) ∧ (if c < zi (ns .o).length then c else zi (ns .o).length) ≤ zi (ns .o).length) := by
    intro c hc _
    have := zi_nonneg (ns .o).length
    split <;> omega
  have hn4 : ∀ c : Int, 0 ≤ c → ((if c < zi (ns .o).length then c else zi (ns .o).length) - 0).toNat ≤ (ns .o).length := by
    intro c hc
    unfold zi
    split <;> omega
  ((try refine br_rev ?_); (first | refine br_dec (fun h1 => ?_) (fun h1 => ?_) | refine br_ndec (fun h1 => ?_) (fun h1 => ?_) | refine br_nbool (fun h1 => ?_) (fun h1 => ?_) | refine br_bool (fun h1 => ?_) (fun h1 => ?_)); all_goals (try dsimp only at h1); all_goals (try with_reducible replace h1 := zi_lt.1 h1); all_goals (try with_reducible replace h1 := not_zlt h1))
  all_goals cbv
  focus refine safe ⟨by decide, h1⟩ ?_
  all_goals ((try refine br_rev ?_); (first | refine br_dec (fun h2 => ?_) (fun h2 => ?_) | refine br_ndec (fun h2 => ?_) (fun h2 => ?_) | refine br_nbool (fun h2 => ?_) (fun h2 => ?_) | refine br_bool (fun h2 => ?_) (fun h2 => ?_)); all_goals (try dsimp only at h2); all_goals (try with_reducible replace h2 := zi_lt.1 h2); all_goals (try with_reducible replace h2 := not_zlt h2))
  all_goals cbv
  all_goals try (
    refine ⟨hm4 4 (by decide), ?_⟩
    refine path_from ns _ (hn4 4 (by decide)) hns hs fun s hsl => ?_
    cbv
    apply entry_ret (eff := fun _ => false) (fun _ => []) (fun _ => []) (fun _ => []) (.nsl rfl) (.nsl rfl) (.nsl rfl) (.ff rfl)
    exact hr _ ⟨rfl, rfl, fun _ => rfl, fun q => absurd h2 q, fun q => absurd h2 q⟩)
  all_goals
    refine l14k_c ns kind hns hs fun m hm hmk => ?_
    cbv
    ((try refine br_rev ?_); (first | refine br_dec (fun h3 => ?_) (fun h3 => ?_) | refine br_ndec (fun h3 => ?_) (fun h3 => ?_) | refine br_nbool (fun h3 => ?_) (fun h3 => ?_) | refine br_bool (fun h3 => ?_) (fun h3 => ?_)); all_goals (try dsimp only at h3); all_goals (try with_reducible replace h3 := zi_lt.1 h3); all_goals (try with_reducible replace h3 := not_zlt h3))
  all_goals cbv
  -- a file
  all_goals try (
    refine ⟨fun _ => ?_, ?_⟩
    · first
        | exact ⟨by decide, by decide, by decide, by decide⟩
        | (show 0 ≤ IntKind.i64.wrap (IntKind.i64.wrap ((ns .o).getD 0 0) * 3) ∧ IntKind.i64.wrap (IntKind.i64.wrap ((ns .o).getD 0 0) * 3) ≤ IntKind.i64.wrap (IntKind.i64.wrap ((ns .o).getD 0 0) * 3) ∧ (1 : Int) * IntKind.i64.wrap (IntKind.i64.wrap ((ns .o).getD 0 0) * 3) ≤ 281474976710656 ∧ IntKind.i64.wrap (IntKind.i64.wrap ((ns .o).getD 0 0) * 3) ≤ 9223372036854775807
           rw [w3]; omega)
    refine ⟨fun _ i hi => ⟨_, rfl⟩, ?_⟩
    refine ⟨fun _ => ?_, ?_⟩
    · rw [bytesN_len]
      first
        | (show 0 + 3 ≤ 9223372036854775807; decide)
        | (show (IntKind.i64.wrap (IntKind.i64.wrap ((ns .o).getD 0 0) * 3)).toNat + 3 ≤ 9223372036854775807
           rw [w3]; omega)
    apply entry_ret (fun _ => (m .o).acl) (fun _ => (m .o).dflt) (fun _ => (m .o).xs) (.refl _) (.refl _) (.refl _) (.refl _)
    exact hr _ ⟨rfl, rfl, fun q => absurd q h2, fun _ => hm, fun _ => hmk⟩)
  all_goals ((try refine br_rev ?_); (first | refine br_dec (fun h4 => ?_) (fun h4 => ?_) | refine br_ndec (fun h4 => ?_) (fun h4 => ?_) | refine br_nbool (fun h4 => ?_) (fun h4 => ?_) | refine br_bool (fun h4 => ?_) (fun h4 => ?_)); all_goals (try dsimp only at h4); all_goals (try with_reducible replace h4 := zi_lt.1 h4); all_goals (try with_reducible replace h4 := not_zlt h4))
  all_goals cbv
  all_goals try (
    refine ⟨hm4 6 (by decide), ?_⟩
    refine path_from ns _ (hn4 6 (by decide)) hns hs fun s hsl => ?_
    cbv
    refine safe (by dsimp only; simp only [List.length_cons, List.length_nil]; omega) ?_
    apply entry_ret (fun _ => (m .o).acl) (fun _ => (m .o).dflt) (fun _ => (m .o).xs) (.refl _) (.refl _) (.refl _) (.refl _)
    exact hr _ ⟨rfl, rfl, fun q => absurd q h2, fun _ => hm, fun _ => hmk⟩)
  all_goals ((try refine br_rev ?_); (first | refine br_dec (fun h5 => ?_) (fun h5 => ?_) | refine br_ndec (fun h5 => ?_) (fun h5 => ?_) | refine br_nbool (fun h5 => ?_) (fun h5 => ?_) | refine br_bool (fun h5 => ?_) (fun h5 => ?_)); all_goals (try dsimp only at h5); all_goals (try with_reducible replace h5 := zi_lt.1 h5); all_goals (try with_reducible replace h5 := not_zlt h5))
  all_goals cbv
  all_goals try ((try refine br_rev ?_); (first | refine br_dec (fun h6 => ?_) (fun h6 => ?_) | refine br_ndec (fun h6 => ?_) (fun h6 => ?_) | refine br_nbool (fun h6 => ?_) (fun h6 => ?_) | refine br_bool (fun h6 => ?_) (fun h6 => ?_)); all_goals (try dsimp only at h6); all_goals (try with_reducible replace h6 := zi_lt.1 h6); all_goals (try with_reducible replace h6 := not_zlt h6))
  all_goals cbv
  all_goals (
    apply entry_ret (fun _ => (m .o).acl) (fun _ => (m .o).dflt) (fun _ => (m .o).xs) (.refl _) (.refl _) (.refl _) (.refl _)
    exact hr _ ⟨rfl, rfl, fun q => absurd q h2, fun _ => hm, fun _ => hmk⟩)
end Go.Proofs.Ytgjlkcdnlndlnaa
