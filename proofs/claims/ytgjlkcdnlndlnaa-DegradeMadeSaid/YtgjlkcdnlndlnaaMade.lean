/- Who asks, by numbers. -/
import Derived.Test.YtgjlkcdnlndlnaaRightA
namespace Go.Proofs.Ytgjlkcdnlndlnaa
open Go Go.Proofs.Ytgjlkcdnlndlnaa.Sx F

/-- Who asks, as they are made by numbers. -/
structure CredOk (c : Cred) : Prop where
  uid : 0 ≤ c.uid ∧ c.uid < 8
  gid : 0 ≤ c.gid ∧ c.gid < 8
  gs : ∀ x ∈ c.groups, 0 ≤ x ∧ x < 16
  len : c.groups.length ≤ 4
  pw : c.powers = 0
def isBytes (l : List Int) : Prop := ∀ x ∈ l, 0 ≤ x ∧ x < 256
theorem byte_at {l : List Int} (h : isBytes l) {k : Nat} : 0 ≤ l.getD k 0 ∧ l.getD k 0 < 256 := by
  rw [List.getD_eq_getElem?_getD]
  by_cases hk : k < l.length
  · rw [List.getElem?_eq_getElem hk]; exact h _ (List.getElem_mem hk)
  · rw [List.getElem?_eq_none (by omega)]; simp
theorem rest_of {x : Int} (h : 0 ≤ x ∧ x < 256) {m : Int} (hm : 0 < m) : 0 ≤ (IntKind.i64.wrap x).tmod m ∧ (IntKind.i64.wrap x).tmod m < m := by
  have : IntKind.i64.wrap x = x := by rw [IntKind.wrap_i64]; omega
  rw [this]
  exact ⟨Int.tmod_nonneg _ h.1, Int.tmod_lt_of_pos _ hm⟩
def byteI (l : Th (List Int)) : AV := .sl 1 (fun _ => (l .o).length) fun i => .cons (.int .u8 fun _ => (l .o).getD (i .o) 0) .nil
def intCh (a : Th Int) : AV := .cons (.int .i64 a) .nil

theorem cred_c (l : Th (List Int)) (hl : isBytes (l .o)) (hs : (l .o).length ≤ 140737488355328) {d : Nat} {K : ARes → BL → Prop} (hr : ∀ c : Th Cred, CredOk (c .o) → K (.ret (Cred.av c)) .nil) : CallAt PT l18_Cred [byteI l] d .nil K := by
  refine CallAt.res ?_
  refine l18_Cred.of rfl rfl ?_
  have r8 : ∀ k, 0 ≤ (IntKind.i64.wrap ((l .o).getD k 0)).tmod 8 ∧ (IntKind.i64.wrap ((l .o).getD k 0)).tmod 8 < 8 := fun k => rest_of (byte_at hl) (by decide)
  have r16 : ∀ k, 0 ≤ (IntKind.i64.wrap ((l .o).getD k 0)).tmod 16 ∧ (IntKind.i64.wrap ((l .o).getD k 0)).tmod 16 < 16 := fun k => rest_of (byte_at hl) (by decide)
  have z8 : (0 : Int) ≤ 0 ∧ (0 : Int) < 8 := by decide
  cbv
  ((try refine br_rev ?_); (first | refine br_dec (fun h1 => ?_) (fun h1 => ?_) | refine br_ndec (fun h1 => ?_) (fun h1 => ?_) | refine br_nbool (fun h1 => ?_) (fun h1 => ?_) | refine br_bool (fun h1 => ?_) (fun h1 => ?_)); all_goals (try dsimp only at h1); all_goals (try with_reducible replace h1 := zi_lt.1 h1); all_goals (try with_reducible replace h1 := not_zlt h1)) <;> (cbv; repeat (refine safe (by first | decide | (simp only [zi] at *; omega) | assumption | (dsimp only; omega) | (dsimp only at *; simp only [List.length_append, List.length_cons, List.length_nil, zi] at *; omega)) ?_; cbv))
  all_goals ((try refine br_rev ?_); (first | refine br_dec (fun h2 => ?_) (fun h2 => ?_) | refine br_ndec (fun h2 => ?_) (fun h2 => ?_) | refine br_nbool (fun h2 => ?_) (fun h2 => ?_) | refine br_bool (fun h2 => ?_) (fun h2 => ?_)); all_goals (try dsimp only at h2); all_goals (try with_reducible replace h2 := zi_lt.1 h2); all_goals (try with_reducible replace h2 := not_zlt h2))
  all_goals (cbv; repeat (refine safe (by first | decide | (simp only [zi] at *; omega) | assumption | (dsimp only; omega) | (dsimp only at *; simp only [List.length_append, List.length_cons, List.length_nil, zi] at *; omega)) ?_; cbv))
  all_goals try (exfalso; simp only [zi] at h1 h2; omega)
  all_goals
    refine nil_cell 3 2 9000 1 (fun _ => .nil) rfl rfl rfl ?_
    refine loop_at (X := List Int) 1000 [0, 2, 3] [2] (fun _ gs => .cons 4 (.int .i64 fun _ => zi (2 + gs.length)) .nil) (fun s gs => .cons 3 (.cells ((s.b.get 3).cs.put 2 (.row 9000))) (.cons 9000 (rowB 1 intCh 0 fun _ => gs) .nil)) (fun gs => gs.length ≤ 4 ∧ ∀ x ∈ gs, 0 ≤ x ∧ x < 16) (fun gs => 4 - gs.length) [] ?_ ⟨by simp, by simp⟩ ?_
  all_goals first | (cbv; (repeat' (first | exact True.intro | exact Same.refl _ | exact SameB.refl _ | exact ⟨rfl⟩ | exact Same.int rfl | exact Same.str rfl | exact Same.bool rfl | (refine Same.int ?_; simp only [List.length_append, List.length_cons, List.length_nil, zi]; omega) | (refine SameB.row' rfl fun i hi => ?_; first | rfl | exact absurd hi (Nat.not_lt_zero _)) | refine And.intro ?_ ?_ | refine SameB.cells ?_ | exact SameC.nil | refine SameC.cons ?_ ?_ | exact Same.nsl rfl | exact Same.tt rfl | exact Same.ff rfl)); done) | skip
  all_goals
    rintro gs ⟨hg1, hg2⟩
    cbv
    ((try refine br_rev ?_); (first | refine br_dec (fun h3 => ?_) (fun h3 => ?_) | refine br_ndec (fun h3 => ?_) (fun h3 => ?_) | refine br_nbool (fun h3 => ?_) (fun h3 => ?_) | refine br_bool (fun h3 => ?_) (fun h3 => ?_)); all_goals (try dsimp only at h3); all_goals (try with_reducible replace h3 := zi_lt.1 h3); all_goals (try with_reducible replace h3 := not_zlt h3))
  all_goals (cbv; repeat (refine safe (by first | decide | (simp only [zi] at *; omega) | assumption | (dsimp only; omega) | (dsimp only at *; simp only [List.length_append, List.length_cons, List.length_nil, zi] at *; omega)) ?_; cbv))
  all_goals try (((try refine br_rev ?_); (first | refine br_dec (fun h4 => ?_) (fun h4 => ?_) | refine br_ndec (fun h4 => ?_) (fun h4 => ?_) | refine br_nbool (fun h4 => ?_) (fun h4 => ?_) | refine br_bool (fun h4 => ?_) (fun h4 => ?_)); all_goals (try dsimp only at h4); all_goals (try with_reducible replace h4 := zi_lt.1 h4); all_goals (try with_reducible replace h4 := not_zlt h4)); (cbv; repeat (refine safe (by first | decide | (simp only [zi] at *; omega) | assumption | (dsimp only; omega) | (dsimp only at *; simp only [List.length_append, List.length_cons, List.length_nil, zi] at *; omega)) ?_; cbv)))
  all_goals try (exact ⟨_, .ret (y := Cred.av fun _ => ⟨_, _, gs, 0⟩) (by (repeat' (first | exact Same.refl _ | exact SameC.nil | refine SameC.cons ?_ ?_ | refine Same.agg ?_ | refine Same.tup ?_ | exact Same.nsl rfl | exact Same.tt rfl | exact Same.ff rfl | exact Same.int rfl | exact Same.str rfl | exact Same.bool rfl | refine Same.sl rfl ?_))), hr _ ⟨by first | exact r8 _ | exact z8, by first | exact r8 _ | exact z8, hg2, hg1, rfl⟩⟩)
  all_goals
    refine app_one intCh 0 gs ((IntKind.i64.wrap ((l .o).getD (2 + gs.length) 0)).tmod 16) rfl (fun i hi => rfl) rfl rfl (by omega) ?_
    cbv
    refine ⟨gs ++ [(IntKind.i64.wrap ((l .o).getD (2 + gs.length) 0)).tmod 16], ⟨by simp only [List.length_append, List.length_cons, List.length_nil]; simp only [zi] at *; omega, fun x hx => ?_⟩, by simp only [List.length_append, List.length_cons, List.length_nil]; simp only [zi] at *; omega, ?_⟩
    · rcases List.mem_append.1 hx with hx | hx
      · exact hg2 x hx
      · rw [List.mem_singleton.1 hx]; exact r16 _
    · rw [zi_succ (by omega)]
      cbv
      (repeat' (first | exact True.intro | exact Same.refl _ | exact SameB.refl _ | exact ⟨rfl⟩ | exact Same.int rfl | exact Same.str rfl | exact Same.bool rfl | (refine Same.int ?_; simp only [List.length_append, List.length_cons, List.length_nil, zi]; omega) | (refine SameB.row' rfl fun i hi => ?_; first | rfl | exact absurd hi (Nat.not_lt_zero _)) | refine And.intro ?_ ?_ | refine SameB.cells ?_ | exact SameC.nil | refine SameC.cons ?_ ?_ | exact Same.nsl rfl | exact Same.tt rfl | exact Same.ff rfl))
end Go.Proofs.Ytgjlkcdnlndlnaa
