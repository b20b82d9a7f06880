/- Texts laid together: Deg21, DegLast, DegMade, Arg, W9. -/
import Derived.WideShapes
import Derived.Test.YtgjlkcdnlndlnaaA5
/- What the document's report says of a node: walked; sameness of what is said of nodes. -/
namespace Go.Proofs.Ytgjlkcdnlndlnaa
open Go Go.Proofs.Ytgjlkcdnlndlnaa.Sx F
set_option linter.unusedVariables false
set_option linter.unusedSimpArgs false
def putMode (n : Int) (m : Meta) : Meta := { m with mode := n }
def g0 (c : Cred) : Meta := { metaZ with uid := c.uid, gid := c.gid }
def g1 (e : Entry) (c : Cred) (l : List Item) : Meta := if lastR l e.path 2 = 1 then putOwner e (g0 c) else g0 c
def modeD (e : Entry) (c : Cred) (l : List Item) : Int :=
  if lastR l e.path 3 = 1 then (if e.kind = 1 ∧ inS c e.mt.gid = false ∧ band c.powers 4 = 0 then bnot (if lastR l e.path 4 = 1 then e.mt.mode else modeS (LessS e.mt) e.mt true) 1024 else if lastR l e.path 4 = 1 then e.mt.mode else modeS (LessS e.mt) e.mt true)
  else if lastR l e.path 3 = 2 then modeS (LessS e.mt) e.mt false else if lastR l e.path 10 = 1 then 0 else stageS e.kind
def g2 (e : Entry) (c : Cred) (l : List Item) : Meta := putMode (modeD e c l) (g1 e c l)
theorem g3_eq (e : Entry) (c : Cred) (l : List Item) : deg1 e c l = if e.kind = 3 then putMode 511 (g2 e c l) else g2 e c l := by
  have h : tmodeS e c l = if e.kind = 3 then 511 else modeD e c l := by
    unfold tmodeS modeD
    by_cases h3 : e.kind = 3
    · rw [if_pos h3, if_pos h3]
    · rw [if_neg h3, if_neg h3]
      by_cases h1 : lastR l e.path 3 = 1
      · rw [if_neg (by rw [h1]; decide), if_neg (fun q : ¬ _ => q h1), if_pos h1]
      · rw [if_neg h1, if_pos h1]
  unfold deg1 g2 g1
  by_cases h3 : e.kind = 3
  · rw [if_pos h3] at h ⊢
    split <;> simp only [putOwner, deg0, g0, putMode, h]
  · rw [if_neg h3] at h ⊢
    split <;> simp only [putOwner, deg0, g0, putMode, h]
structure Deg21Ok (e : Entry) (c : Cred) (l : List Item) : Prop extends DegOk e c l where
  less : Less9 e.mt = LessS e.mt
  flags : bnot e.mt.flags 3 = band e.mt.flags 12
theorem deg21_c (e : Th Entry) (c : Th Cred) (l : Th (List Item)) (h : Deg21Ok (e .o) (c .o) (l .o)) {d : Nat} {K : ARes → BL → Prop} (hr : ∀ m : Th Meta, m .o = degS (e .o) (c .o) (l .o) → K (.ret (Meta.av m)) .nil) :
    CallAt PT r21_Degraded [Entry.av e, Cred.av c, items l] d .nil K := by
  refine CallAt.res ?_
  refine r21_Degraded.of rfl rfl ?_
  cbv
  refine cut_rule (X := Unit) 1000 1000 [2, 3, 4, 6, 7] [3, 4, 6] (fun _ => .nil) (fun _ => .cons 7 (.cells (Meta.ch fun _ => g1 (e .o) (c .o) (l .o))) .nil) (fun _ => True) ?_ fun _ _ => ?_
  · cbv
    refine res21_c l (fun _ => (e .o).path) (fun _ => 2) h.len fun n hn => ?_
    cbv
    refine br_dec (fun h1 => ?_) (fun h1 => ?_)
    · have h1 : lastR (l .o) (e .o).path 2 = 1 := hn ▸ h1
      have e1 : g1 (e .o) (c .o) (l .o) = putOwner (e .o) (g0 (c .o)) := if_pos h1
      cbv
      refine ⟨(), trivial, ?_⟩
      cbv
      rw [e1]
      (repeat' (first | exact True.intro | exact Same.refl _ | exact SameB.refl _ | exact ⟨rfl⟩ | exact Same.int rfl | exact Same.str rfl | exact Same.bool rfl | (refine Same.int ?_; simp only [List.length_append, List.length_cons, List.length_nil, zi]; omega) | (refine SameB.row' rfl fun i hi => ?_; first | rfl | exact absurd hi (Nat.not_lt_zero _)) | refine And.intro ?_ ?_ | refine SameB.cells ?_ | exact SameC.nil | refine SameC.cons ?_ ?_ | exact Same.nsl rfl | exact Same.tt rfl | exact Same.ff rfl))
    · have h1 : ¬ lastR (l .o) (e .o).path 2 = 1 := hn ▸ h1
      have e1 : g1 (e .o) (c .o) (l .o) = g0 (c .o) := if_neg h1
      cbv
      refine ⟨(), trivial, ?_⟩
      cbv
      rw [e1]
      (repeat' (first | exact True.intro | exact Same.refl _ | exact SameB.refl _ | exact ⟨rfl⟩ | exact Same.int rfl | exact Same.str rfl | exact Same.bool rfl | (refine Same.int ?_; simp only [List.length_append, List.length_cons, List.length_nil, zi]; omega) | (refine SameB.row' rfl fun i hi => ?_; first | rfl | exact absurd hi (Nat.not_lt_zero _)) | refine And.intro ?_ ?_ | refine SameB.cells ?_ | exact SameC.nil | refine SameC.cons ?_ ?_ | exact Same.nsl rfl | exact Same.tt rfl | exact Same.ff rfl))
  cbv
  refine cut_rule (X := Unit) 1000 1000 [2, 3, 4, 6, 7] [3, 4, 6] (fun _ => .nil) (fun _ => .cons 7 (.cells (Meta.ch fun _ => g2 (e .o) (c .o) (l .o))) .nil) (fun _ => True) ?_ fun _ _ => ?_
  · cbv
    refine res21_c l (fun _ => (e .o).path) (fun _ => 3) h.len fun n hn => ?_
    cbv
    refine br_dec (fun h1 => ?_) (fun h1 => ?_)
    · have h1 : lastR (l .o) (e .o).path 3 = 1 := hn ▸ h1
      cbv
      refine CallAt.args (.cons (Same.refl _) (.cons (Same.tt (b := fun _ => true) rfl) .nil)) ?_
      refine mode21_c (fun _ => (e .o).mt) (fun _ => true) h.acl fun n2 f2 hn2 hf2 => ?_
      rw [h.less] at hn2
      cbv
      refine res21_c l (fun _ => (e .o).path) (fun _ => 4) h.len fun n4 hn4 => ?_
      cbv
      refine br_dec (fun h4 => ?_) (fun h4 => ?_)
      all_goals
        rw [hn4] at h4
        cbv
        refine br_dec (fun h5 => ?_) (fun h5 => ?_)
        · have h5 : (e .o).kind = 1 := h5
          cbv
          refine in9_c c (fun _ => (e .o).mt.gid) h.grp fun b6 hb6 => ?_
          cbv
          refine br_nbool (fun h6 => ?_) (fun h6 => ?_)
          · rw [hb6] at h6
            cbv
            refine br_dec (fun h7 => ?_) (fun h7 => ?_)
            · have h7 : band (c .o).powers 4 = 0 := h7
              have e1 : g2 (e .o) (c .o) (l .o) = putMode (bnot (if lastR (l .o) (e .o).path 4 = 1 then (e .o).mt.mode else n2 .o) 1024) (g1 (e .o) (c .o) (l .o)) := by
                unfold g2 modeD; rw [if_pos h1, if_pos ⟨h5, h6, h7⟩, hn2]
              first | rw [if_pos h4] at e1 | rw [if_neg h4] at e1
              cbv
              refine ⟨(), trivial, ?_⟩
              cbv
              rw [e1]
              (repeat' (first | exact True.intro | exact Same.refl _ | exact SameB.refl _ | exact ⟨rfl⟩ | exact Same.int rfl | exact Same.str rfl | exact Same.bool rfl | (refine Same.int ?_; simp only [List.length_append, List.length_cons, List.length_nil, zi]; omega) | (refine SameB.row' rfl fun i hi => ?_; first | rfl | exact absurd hi (Nat.not_lt_zero _)) | refine And.intro ?_ ?_ | refine SameB.cells ?_ | exact SameC.nil | refine SameC.cons ?_ ?_ | exact Same.nsl rfl | exact Same.tt rfl | exact Same.ff rfl))
            · have h7 : ¬ band (c .o).powers 4 = 0 := h7
              have e1 : g2 (e .o) (c .o) (l .o) = putMode (if lastR (l .o) (e .o).path 4 = 1 then (e .o).mt.mode else n2 .o) (g1 (e .o) (c .o) (l .o)) := by
                unfold g2 modeD; rw [if_pos h1, if_neg (fun q => h7 q.2.2), hn2]
              first | rw [if_pos h4] at e1 | rw [if_neg h4] at e1
              cbv
              refine ⟨(), trivial, ?_⟩
              cbv
              rw [e1]
              (repeat' (first | exact True.intro | exact Same.refl _ | exact SameB.refl _ | exact ⟨rfl⟩ | exact Same.int rfl | exact Same.str rfl | exact Same.bool rfl | (refine Same.int ?_; simp only [List.length_append, List.length_cons, List.length_nil, zi]; omega) | (refine SameB.row' rfl fun i hi => ?_; first | rfl | exact absurd hi (Nat.not_lt_zero _)) | refine And.intro ?_ ?_ | refine SameB.cells ?_ | exact SameC.nil | refine SameC.cons ?_ ?_ | exact Same.nsl rfl | exact Same.tt rfl | exact Same.ff rfl))
          · rw [hb6] at h6
            have e1 : g2 (e .o) (c .o) (l .o) = putMode (if lastR (l .o) (e .o).path 4 = 1 then (e .o).mt.mode else n2 .o) (g1 (e .o) (c .o) (l .o)) := by
              unfold g2 modeD; rw [if_pos h1, if_neg (fun q => by rw [q.2.1] at h6; cases h6), hn2]
            first | rw [if_pos h4] at e1 | rw [if_neg h4] at e1
            cbv
            refine ⟨(), trivial, ?_⟩
            cbv
            rw [e1]
            (repeat' (first | exact True.intro | exact Same.refl _ | exact SameB.refl _ | exact ⟨rfl⟩ | exact Same.int rfl | exact Same.str rfl | exact Same.bool rfl | (refine Same.int ?_; simp only [List.length_append, List.length_cons, List.length_nil, zi]; omega) | (refine SameB.row' rfl fun i hi => ?_; first | rfl | exact absurd hi (Nat.not_lt_zero _)) | refine And.intro ?_ ?_ | refine SameB.cells ?_ | exact SameC.nil | refine SameC.cons ?_ ?_ | exact Same.nsl rfl | exact Same.tt rfl | exact Same.ff rfl))
        · have h5 : ¬ (e .o).kind = 1 := h5
          have e1 : g2 (e .o) (c .o) (l .o) = putMode (if lastR (l .o) (e .o).path 4 = 1 then (e .o).mt.mode else n2 .o) (g1 (e .o) (c .o) (l .o)) := by
            unfold g2 modeD; rw [if_pos h1, if_neg (fun q => h5 q.1), hn2]
          first | rw [if_pos h4] at e1 | rw [if_neg h4] at e1
          cbv
          refine ⟨(), trivial, ?_⟩
          cbv
          rw [e1]
          (repeat' (first | exact True.intro | exact Same.refl _ | exact SameB.refl _ | exact ⟨rfl⟩ | exact Same.int rfl | exact Same.str rfl | exact Same.bool rfl | (refine Same.int ?_; simp only [List.length_append, List.length_cons, List.length_nil, zi]; omega) | (refine SameB.row' rfl fun i hi => ?_; first | rfl | exact absurd hi (Nat.not_lt_zero _)) | refine And.intro ?_ ?_ | refine SameB.cells ?_ | exact SameC.nil | refine SameC.cons ?_ ?_ | exact Same.nsl rfl | exact Same.tt rfl | exact Same.ff rfl))
    · have h1 : ¬ lastR (l .o) (e .o).path 3 = 1 := hn ▸ h1
      cbv
      refine br_dec (fun h2 => ?_) (fun h2 => ?_)
      · have h2 : lastR (l .o) (e .o).path 3 = 2 := hn ▸ h2
        cbv
        refine CallAt.args (.cons (Same.refl _) (.cons (Same.ff (b := fun _ => false) rfl) .nil)) ?_
        refine mode21_c (fun _ => (e .o).mt) (fun _ => false) h.acl fun n2 f2 hn2 hf2 => ?_
        have e1 : g2 (e .o) (c .o) (l .o) = putMode (n2 .o) (g1 (e .o) (c .o) (l .o)) := by
          unfold g2 modeD; rw [if_neg h1, if_pos h2, hn2, h.less]
        cbv
        refine ⟨(), trivial, ?_⟩
        cbv
        rw [e1]
        (repeat' (first | exact True.intro | exact Same.refl _ | exact SameB.refl _ | exact ⟨rfl⟩ | exact Same.int rfl | exact Same.str rfl | exact Same.bool rfl | (refine Same.int ?_; simp only [List.length_append, List.length_cons, List.length_nil, zi]; omega) | (refine SameB.row' rfl fun i hi => ?_; first | rfl | exact absurd hi (Nat.not_lt_zero _)) | refine And.intro ?_ ?_ | refine SameB.cells ?_ | exact SameC.nil | refine SameC.cons ?_ ?_ | exact Same.nsl rfl | exact Same.tt rfl | exact Same.ff rfl))
      · have h2 : ¬ lastR (l .o) (e .o).path 3 = 2 := hn ▸ h2
        cbv
        refine stage21_c (fun _ => (e .o).kind) fun n2 hn2 => ?_
        cbv
        refine res21_c l (fun _ => (e .o).path) (fun _ => 10) h.len fun n3 hn3 => ?_
        cbv
        refine br_dec (fun h3 => ?_) (fun h3 => ?_)
        · have h3 : lastR (l .o) (e .o).path 10 = 1 := hn3 ▸ h3
          have e1 : g2 (e .o) (c .o) (l .o) = putMode 0 (g1 (e .o) (c .o) (l .o)) := by
            unfold g2 modeD; rw [if_neg h1, if_neg h2, if_pos h3]
          cbv
          refine ⟨(), trivial, ?_⟩
          cbv
          rw [e1]
          (repeat' (first | exact True.intro | exact Same.refl _ | exact SameB.refl _ | exact ⟨rfl⟩ | exact Same.int rfl | exact Same.str rfl | exact Same.bool rfl | (refine Same.int ?_; simp only [List.length_append, List.length_cons, List.length_nil, zi]; omega) | (refine SameB.row' rfl fun i hi => ?_; first | rfl | exact absurd hi (Nat.not_lt_zero _)) | refine And.intro ?_ ?_ | refine SameB.cells ?_ | exact SameC.nil | refine SameC.cons ?_ ?_ | exact Same.nsl rfl | exact Same.tt rfl | exact Same.ff rfl))
        · have h3 : ¬ lastR (l .o) (e .o).path 10 = 1 := hn3 ▸ h3
          have e1 : g2 (e .o) (c .o) (l .o) = putMode (n2 .o) (g1 (e .o) (c .o) (l .o)) := by
            unfold g2 modeD; rw [if_neg h1, if_neg h2, if_neg h3, hn2]; rfl
          cbv
          refine ⟨(), trivial, ?_⟩
          cbv
          rw [e1]
          (repeat' (first | exact True.intro | exact Same.refl _ | exact SameB.refl _ | exact ⟨rfl⟩ | exact Same.int rfl | exact Same.str rfl | exact Same.bool rfl | (refine Same.int ?_; simp only [List.length_append, List.length_cons, List.length_nil, zi]; omega) | (refine SameB.row' rfl fun i hi => ?_; first | rfl | exact absurd hi (Nat.not_lt_zero _)) | refine And.intro ?_ ?_ | refine SameB.cells ?_ | exact SameC.nil | refine SameC.cons ?_ ?_ | exact Same.nsl rfl | exact Same.tt rfl | exact Same.ff rfl))
  cbv
  refine cut_rule (X := Unit) 1000 1000 [2, 3, 4, 6, 7] [3, 4, 6] (fun _ => .nil) (fun _ => .cons 7 (.cells (Meta.ch fun _ => deg1 (e .o) (c .o) (l .o))) .nil) (fun _ => True) ?_ fun _ _ => ?_
  · cbv
    refine br_dec (fun h1 => ?_) (fun h1 => ?_)
    · have h1 : (e .o).kind = 3 := h1
      have e1 : deg1 (e .o) (c .o) (l .o) = putMode 511 (g2 (e .o) (c .o) (l .o)) := (g3_eq _ _ _).trans (if_pos h1)
      cbv
      refine ⟨(), trivial, ?_⟩
      cbv
      rw [e1]
      (repeat' (first | exact True.intro | exact Same.refl _ | exact SameB.refl _ | exact ⟨rfl⟩ | exact Same.int rfl | exact Same.str rfl | exact Same.bool rfl | (refine Same.int ?_; simp only [List.length_append, List.length_cons, List.length_nil, zi]; omega) | (refine SameB.row' rfl fun i hi => ?_; first | rfl | exact absurd hi (Nat.not_lt_zero _)) | refine And.intro ?_ ?_ | refine SameB.cells ?_ | exact SameC.nil | refine SameC.cons ?_ ?_ | exact Same.nsl rfl | exact Same.tt rfl | exact Same.ff rfl))
    · have h1 : ¬ (e .o).kind = 3 := h1
      have e1 : deg1 (e .o) (c .o) (l .o) = g2 (e .o) (c .o) (l .o) := (g3_eq _ _ _).trans (if_neg h1)
      cbv
      refine ⟨(), trivial, ?_⟩
      cbv
      rw [e1]
      (repeat' (first | exact True.intro | exact Same.refl _ | exact SameB.refl _ | exact ⟨rfl⟩ | exact Same.int rfl | exact Same.str rfl | exact Same.bool rfl | (refine Same.int ?_; simp only [List.length_append, List.length_cons, List.length_nil, zi]; omega) | (refine SameB.row' rfl fun i hi => ?_; first | rfl | exact absurd hi (Nat.not_lt_zero _)) | refine And.intro ?_ ?_ | refine SameB.cells ?_ | exact SameC.nil | refine SameC.cons ?_ ?_ | exact Same.nsl rfl | exact Same.tt rfl | exact Same.ff rfl))
  cbv
  refine cut_rule (X := Unit) 1000 1000 [2, 3, 4, 6, 7] [3, 4, 6] (fun _ => .nil) (fun _ => .cons 7 (.cells (Meta.ch fun _ => deg2 (e .o) (c .o) (l .o))) .nil) (fun _ => True) ?_ fun _ _ => ?_
  · cbv
    refine res21_c l (fun _ => (e .o).path) (fun _ => 4) h.len fun n hn => ?_
    cbv
    refine br_dec (fun h1 => ?_) (fun h1 => ?_)
    · have h1 : lastR (l .o) (e .o).path 4 = 1 := hn ▸ h1
      have e1 : deg2 (e .o) (c .o) (l .o) = putAcl (e .o) (deg1 (e .o) (c .o) (l .o)) := if_pos h1
      cbv
      refine ⟨(), trivial, ?_⟩
      cbv
      rw [e1]
      (repeat' (first | exact True.intro | exact Same.refl _ | exact SameB.refl _ | exact ⟨rfl⟩ | exact Same.int rfl | exact Same.str rfl | exact Same.bool rfl | (refine Same.int ?_; simp only [List.length_append, List.length_cons, List.length_nil, zi]; omega) | (refine SameB.row' rfl fun i hi => ?_; first | rfl | exact absurd hi (Nat.not_lt_zero _)) | refine And.intro ?_ ?_ | refine SameB.cells ?_ | exact SameC.nil | refine SameC.cons ?_ ?_ | exact Same.nsl rfl | exact Same.tt rfl | exact Same.ff rfl))
    · have h1 : ¬ lastR (l .o) (e .o).path 4 = 1 := hn ▸ h1
      have e1 : deg2 (e .o) (c .o) (l .o) = deg1 (e .o) (c .o) (l .o) := if_neg h1
      cbv
      refine ⟨(), trivial, ?_⟩
      cbv
      rw [e1]
      (repeat' (first | exact True.intro | exact Same.refl _ | exact SameB.refl _ | exact ⟨rfl⟩ | exact Same.int rfl | exact Same.str rfl | exact Same.bool rfl | (refine Same.int ?_; simp only [List.length_append, List.length_cons, List.length_nil, zi]; omega) | (refine SameB.row' rfl fun i hi => ?_; first | rfl | exact absurd hi (Nat.not_lt_zero _)) | refine And.intro ?_ ?_ | refine SameB.cells ?_ | exact SameC.nil | refine SameC.cons ?_ ?_ | exact Same.nsl rfl | exact Same.tt rfl | exact Same.ff rfl))
  cbv
  refine cut_rule (X := Unit) 1000 1000 [2, 3, 4, 6, 7] [3, 4, 6] (fun _ => .nil) (fun _ => .cons 7 (.cells (Meta.ch fun _ => deg3 (e .o) (c .o) (l .o))) .nil) (fun _ => True) ?_ fun _ _ => ?_
  · cbv
    refine res21_c l (fun _ => (e .o).path) (fun _ => 5) h.len fun n hn => ?_
    cbv
    refine br_dec (fun h1 => ?_) (fun h1 => ?_)
    · have h1 : lastR (l .o) (e .o).path 5 = 1 := hn ▸ h1
      have e1 : deg3 (e .o) (c .o) (l .o) = putDflt (e .o) (deg2 (e .o) (c .o) (l .o)) := if_pos h1
      cbv
      refine ⟨(), trivial, ?_⟩
      cbv
      rw [e1]
      (repeat' (first | exact True.intro | exact Same.refl _ | exact SameB.refl _ | exact ⟨rfl⟩ | exact Same.int rfl | exact Same.str rfl | exact Same.bool rfl | (refine Same.int ?_; simp only [List.length_append, List.length_cons, List.length_nil, zi]; omega) | (refine SameB.row' rfl fun i hi => ?_; first | rfl | exact absurd hi (Nat.not_lt_zero _)) | refine And.intro ?_ ?_ | refine SameB.cells ?_ | exact SameC.nil | refine SameC.cons ?_ ?_ | exact Same.nsl rfl | exact Same.tt rfl | exact Same.ff rfl))
    · have h1 : ¬ lastR (l .o) (e .o).path 5 = 1 := hn ▸ h1
      have e1 : deg3 (e .o) (c .o) (l .o) = deg2 (e .o) (c .o) (l .o) := if_neg h1
      cbv
      refine ⟨(), trivial, ?_⟩
      cbv
      rw [e1]
      (repeat' (first | exact True.intro | exact Same.refl _ | exact SameB.refl _ | exact ⟨rfl⟩ | exact Same.int rfl | exact Same.str rfl | exact Same.bool rfl | (refine Same.int ?_; simp only [List.length_append, List.length_cons, List.length_nil, zi]; omega) | (refine SameB.row' rfl fun i hi => ?_; first | rfl | exact absurd hi (Nat.not_lt_zero _)) | refine And.intro ?_ ?_ | refine SameB.cells ?_ | exact SameC.nil | refine SameC.cons ?_ ?_ | exact Same.nsl rfl | exact Same.tt rfl | exact Same.ff rfl))
  cbv
  refine cut_rule (X := Unit) 1000 1000 [2, 3, 4, 6, 7] [3, 4, 6] (fun _ => .nil) (fun _ => .cons 7 (.cells (Meta.ch fun _ => deg4 (e .o) (c .o) (l .o))) .nil) (fun _ => True) ?_ fun _ _ => ?_
  · cbv
    refine res21_c l (fun _ => (e .o).path) (fun _ => 6) h.len fun n hn => ?_
    cbv
    refine br_dec (fun h1 => ?_) (fun h1 => ?_)
    · have h1 : lastR (l .o) (e .o).path 6 = 1 := hn ▸ h1
      have e1 : deg4 (e .o) (c .o) (l .o) = putXs (e .o).mt.xs (deg3 (e .o) (c .o) (l .o)) := if_pos h1
      cbv
      refine ⟨(), trivial, ?_⟩
      cbv
      rw [e1]
      (repeat' (first | exact True.intro | exact Same.refl _ | exact SameB.refl _ | exact ⟨rfl⟩ | exact Same.int rfl | exact Same.str rfl | exact Same.bool rfl | (refine Same.int ?_; simp only [List.length_append, List.length_cons, List.length_nil, zi]; omega) | (refine SameB.row' rfl fun i hi => ?_; first | rfl | exact absurd hi (Nat.not_lt_zero _)) | refine And.intro ?_ ?_ | refine SameB.cells ?_ | exact SameC.nil | refine SameC.cons ?_ ?_ | exact Same.nsl rfl | exact Same.tt rfl | exact Same.ff rfl))
    · have h1 : ¬ lastR (l .o) (e .o).path 6 = 1 := hn ▸ h1
      cbv
      refine br_dec (fun h2 => ?_) (fun h2 => ?_)
      · have h2 : lastR (l .o) (e .o).path 6 = 2 := hn ▸ h2
        have e1 : deg4 (e .o) (c .o) (l .o) = putXs (fewerS (e .o).mt.xs) (deg3 (e .o) (c .o) (l .o)) := (if_neg h1).trans (if_pos h2)
        cbv
        refine fewer21_c (fun _ => (e .o).mt.xs) h.xs fun q hq => ?_
        cbv
        refine ⟨(), trivial, ?_⟩
        cbv
        rw [e1]
        rw [hq]
        (repeat' (first | exact True.intro | exact Same.refl _ | exact SameB.refl _ | exact ⟨rfl⟩ | exact Same.int rfl | exact Same.str rfl | exact Same.bool rfl | (refine Same.int ?_; simp only [List.length_append, List.length_cons, List.length_nil, zi]; omega) | (refine SameB.row' rfl fun i hi => ?_; first | rfl | exact absurd hi (Nat.not_lt_zero _)) | refine And.intro ?_ ?_ | refine SameB.cells ?_ | exact SameC.nil | refine SameC.cons ?_ ?_ | exact Same.nsl rfl | exact Same.tt rfl | exact Same.ff rfl))
      · have h2 : ¬ lastR (l .o) (e .o).path 6 = 2 := hn ▸ h2
        have e1 : deg4 (e .o) (c .o) (l .o) = deg3 (e .o) (c .o) (l .o) := (if_neg h1).trans (if_neg h2)
        cbv
        refine ⟨(), trivial, ?_⟩
        cbv
        rw [e1]
        (repeat' (first | exact True.intro | exact Same.refl _ | exact SameB.refl _ | exact ⟨rfl⟩ | exact Same.int rfl | exact Same.str rfl | exact Same.bool rfl | (refine Same.int ?_; simp only [List.length_append, List.length_cons, List.length_nil, zi]; omega) | (refine SameB.row' rfl fun i hi => ?_; first | rfl | exact absurd hi (Nat.not_lt_zero _)) | refine And.intro ?_ ?_ | refine SameB.cells ?_ | exact SameC.nil | refine SameC.cons ?_ ?_ | exact Same.nsl rfl | exact Same.tt rfl | exact Same.ff rfl))
  cbv
  refine cut_rule (X := Unit) 1000 1000 [2, 3, 4, 6, 7] [3, 4, 6] (fun _ => .nil) (fun _ => .cons 7 (.cells (Meta.ch fun _ => deg5 (e .o) (c .o) (l .o))) .nil) (fun _ => True) ?_ fun _ _ => ?_
  · cbv
    refine res21_c l (fun _ => (e .o).path) (fun _ => 7) h.len fun n hn => ?_
    cbv
    refine br_dec (fun h1 => ?_) (fun h1 => ?_)
    · have h1 : lastR (l .o) (e .o).path 7 = 1 := hn ▸ h1
      have e1 : deg5 (e .o) (c .o) (l .o) = putCaps (e .o) (deg4 (e .o) (c .o) (l .o)) := if_pos h1
      cbv
      refine ⟨(), trivial, ?_⟩
      cbv
      rw [e1]
      (repeat' (first | exact True.intro | exact Same.refl _ | exact SameB.refl _ | exact ⟨rfl⟩ | exact Same.int rfl | exact Same.str rfl | exact Same.bool rfl | (refine Same.int ?_; simp only [List.length_append, List.length_cons, List.length_nil, zi]; omega) | (refine SameB.row' rfl fun i hi => ?_; first | rfl | exact absurd hi (Nat.not_lt_zero _)) | refine And.intro ?_ ?_ | refine SameB.cells ?_ | exact SameC.nil | refine SameC.cons ?_ ?_ | exact Same.nsl rfl | exact Same.tt rfl | exact Same.ff rfl))
    · have h1 : ¬ lastR (l .o) (e .o).path 7 = 1 := hn ▸ h1
      have e1 : deg5 (e .o) (c .o) (l .o) = deg4 (e .o) (c .o) (l .o) := if_neg h1
      cbv
      refine ⟨(), trivial, ?_⟩
      cbv
      rw [e1]
      (repeat' (first | exact True.intro | exact Same.refl _ | exact SameB.refl _ | exact ⟨rfl⟩ | exact Same.int rfl | exact Same.str rfl | exact Same.bool rfl | (refine Same.int ?_; simp only [List.length_append, List.length_cons, List.length_nil, zi]; omega) | (refine SameB.row' rfl fun i hi => ?_; first | rfl | exact absurd hi (Nat.not_lt_zero _)) | refine And.intro ?_ ?_ | refine SameB.cells ?_ | exact SameC.nil | refine SameC.cons ?_ ?_ | exact Same.nsl rfl | exact Same.tt rfl | exact Same.ff rfl))
  cbv
  refine cut_rule (X := Unit) 1000 1000 [2, 3, 4, 6, 7] [3, 4, 6] (fun _ => .nil) (fun _ => .cons 7 (.cells (Meta.ch fun _ => deg6 (e .o) (c .o) (l .o))) .nil) (fun _ => True) ?_ fun _ _ => ?_
  · cbv
    refine res21_c l (fun _ => (e .o).path) (fun _ => 8) h.len fun n hn => ?_
    cbv
    refine br_dec (fun h1 => ?_) (fun h1 => ?_)
    · have h1 : lastR (l .o) (e .o).path 8 = 1 := hn ▸ h1
      have e1 : deg6 (e .o) (c .o) (l .o) = putTime (e .o) (deg5 (e .o) (c .o) (l .o)) := if_pos h1
      cbv
      refine ⟨(), trivial, ?_⟩
      cbv
      rw [e1]
      (repeat' (first | exact True.intro | exact Same.refl _ | exact SameB.refl _ | exact ⟨rfl⟩ | exact Same.int rfl | exact Same.str rfl | exact Same.bool rfl | (refine Same.int ?_; simp only [List.length_append, List.length_cons, List.length_nil, zi]; omega) | (refine SameB.row' rfl fun i hi => ?_; first | rfl | exact absurd hi (Nat.not_lt_zero _)) | refine And.intro ?_ ?_ | refine SameB.cells ?_ | exact SameC.nil | refine SameC.cons ?_ ?_ | exact Same.nsl rfl | exact Same.tt rfl | exact Same.ff rfl))
    · have h1 : ¬ lastR (l .o) (e .o).path 8 = 1 := hn ▸ h1
      have e1 : deg6 (e .o) (c .o) (l .o) = deg5 (e .o) (c .o) (l .o) := if_neg h1
      cbv
      refine ⟨(), trivial, ?_⟩
      cbv
      rw [e1]
      (repeat' (first | exact True.intro | exact Same.refl _ | exact SameB.refl _ | exact ⟨rfl⟩ | exact Same.int rfl | exact Same.str rfl | exact Same.bool rfl | (refine Same.int ?_; simp only [List.length_append, List.length_cons, List.length_nil, zi]; omega) | (refine SameB.row' rfl fun i hi => ?_; first | rfl | exact absurd hi (Nat.not_lt_zero _)) | refine And.intro ?_ ?_ | refine SameB.cells ?_ | exact SameC.nil | refine SameC.cons ?_ ?_ | exact Same.nsl rfl | exact Same.tt rfl | exact Same.ff rfl))
  cbv
  refine cut_rule (X := Unit) 1000 1000 [2, 3, 4, 6, 7] [3, 4, 6] (fun _ => .nil) (fun _ => .cons 7 (.cells (Meta.ch fun _ => degS (e .o) (c .o) (l .o))) .nil) (fun _ => True) ?_ fun _ _ => ?_
  · cbv
    refine res21_c l (fun _ => (e .o).path) (fun _ => 9) h.len fun n hn => ?_
    cbv
    refine br_dec (fun h1 => ?_) (fun h1 => ?_)
    · have h1 : lastR (l .o) (e .o).path 9 = 1 := hn ▸ h1
      have e1 : degS (e .o) (c .o) (l .o) = putFlags (e .o).mt.flags (deg6 (e .o) (c .o) (l .o)) := if_pos h1
      cbv
      refine ⟨(), trivial, ?_⟩
      cbv
      rw [e1]
      (repeat' (first | exact True.intro | exact Same.refl _ | exact SameB.refl _ | exact ⟨rfl⟩ | exact Same.int rfl | exact Same.str rfl | exact Same.bool rfl | (refine Same.int ?_; simp only [List.length_append, List.length_cons, List.length_nil, zi]; omega) | (refine SameB.row' rfl fun i hi => ?_; first | rfl | exact absurd hi (Nat.not_lt_zero _)) | refine And.intro ?_ ?_ | refine SameB.cells ?_ | exact SameC.nil | refine SameC.cons ?_ ?_ | exact Same.nsl rfl | exact Same.tt rfl | exact Same.ff rfl))
    · have h1 : ¬ lastR (l .o) (e .o).path 9 = 1 := hn ▸ h1
      cbv
      refine br_dec (fun h2 => ?_) (fun h2 => ?_)
      · have h2 : lastR (l .o) (e .o).path 9 = 2 := hn ▸ h2
        have e1 : degS (e .o) (c .o) (l .o) = putFlags (band (e .o).mt.flags 12) (deg6 (e .o) (c .o) (l .o)) := (if_neg h1).trans (if_pos h2)
        cbv
        refine ⟨(), trivial, ?_⟩
        cbv
        rw [e1]
        rw [← h.flags]
        (repeat' (first | exact True.intro | exact Same.refl _ | exact SameB.refl _ | exact ⟨rfl⟩ | exact Same.int rfl | exact Same.str rfl | exact Same.bool rfl | (refine Same.int ?_; simp only [List.length_append, List.length_cons, List.length_nil, zi]; omega) | (refine SameB.row' rfl fun i hi => ?_; first | rfl | exact absurd hi (Nat.not_lt_zero _)) | refine And.intro ?_ ?_ | refine SameB.cells ?_ | exact SameC.nil | refine SameC.cons ?_ ?_ | exact Same.nsl rfl | exact Same.tt rfl | exact Same.ff rfl))
      · have h2 : ¬ lastR (l .o) (e .o).path 9 = 2 := hn ▸ h2
        have e1 : degS (e .o) (c .o) (l .o) = deg6 (e .o) (c .o) (l .o) := (if_neg h1).trans (if_neg h2)
        cbv
        refine ⟨(), trivial, ?_⟩
        cbv
        rw [e1]
        (repeat' (first | exact True.intro | exact Same.refl _ | exact SameB.refl _ | exact ⟨rfl⟩ | exact Same.int rfl | exact Same.str rfl | exact Same.bool rfl | (refine Same.int ?_; simp only [List.length_append, List.length_cons, List.length_nil, zi]; omega) | (refine SameB.row' rfl fun i hi => ?_; first | rfl | exact absurd hi (Nat.not_lt_zero _)) | refine And.intro ?_ ?_ | refine SameB.cells ?_ | exact SameC.nil | refine SameC.cons ?_ ?_ | exact Same.nsl rfl | exact Same.tt rfl | exact Same.ff rfl))
  cbv
  exact ⟨_, .ret (y := Meta.av fun _ => degS (e .o) (c .o) (l .o)) (Same.refl _), hr _ rfl⟩
end Go.Proofs.Ytgjlkcdnlndlnaa
/- The law DegradeLast, walked. -/
namespace Go.Proofs.Ytgjlkcdnlndlnaa
open Go Go.Proofs.Ytgjlkcdnlndlnaa.Sx F
set_option linter.unusedVariables false
set_option linter.unusedSimpArgs false
def itemsA : List Item := [⟨[97], 1, 1⟩, ⟨[97], 8, 1⟩]
def entA : Entry := ⟨[97], 1, { metaZ with sec := 7 }, [], [], 0, 0⟩
theorem awake25_c {d : Nat} {K : ARes → BL → Prop} (hr : ∀ b : Th Bool, b .o = true → K (.ret (.bool b)) .nil) : CallAt PT l25_awake [] d .nil K := by
  refine l25_awake.of rfl rfl ?_
  cbv
  have two : Same (AV.sl 3 (fun _ => 2) fun i => elemAt 3 (.cons (.str fun _ => [97]) (.cons (.int .i64 fun _ => 1) (.cons (.int .i64 fun _ => 1) (.cons (.str fun _ => [97]) (.cons (.int .i64 fun _ => 8) (.cons (.int .i64 fun _ => 1) .nil)))))) (i .o)) (items fun _ => itemsA) :=
    .sl rfl fun i hi => by
      have hi : i < 2 := hi
      match i, hi with
      | 0, _ => rfl
      | 1, _ => rfl
  refine CallAt.args (.cons (y := items fun _ => []) (.nsl rfl) (.cons (Same.refl _) (.cons (Same.refl _) .nil))) ?_
  refine degRes_c (fun _ => []) (fun _ => [97]) (fun _ => 1) (by decide) fun n1 hn1 => ?_
  cbv
  have k1 : n1 .o = 0 := hn1
  (first | refine br_is (decide_eq_true k1) ?_ | refine br_not (decide_eq_true k1) ?_ | refine br_rev (br_is (decide_eq_true k1) ?_) | refine br_rev (br_not (decide_eq_true k1) ?_))
  cbv
  refine CallAt.args (.cons two (.cons (Same.refl _) (.cons (Same.refl _) .nil))) ?_
  refine degRes_c (fun _ => itemsA) (fun _ => [97]) (fun _ => 8) (by decide) fun n2 hn2 => ?_
  cbv
  have k2 : n2 .o = 1 := hn2.trans (by decide +kernel)
  (first | refine br_is (decide_eq_true k2) ?_ | refine br_not (decide_eq_true k2) ?_ | refine br_rev (br_is (decide_eq_true k2) ?_) | refine br_rev (br_not (decide_eq_true k2) ?_))
  cbv
  have hent : Same (AV.agg (.cons (.str fun _ => [97]) (.cons (.int .i64 fun _ => 1) (.cons (.int .i64 fun _ => 0) (.cons (.int .i64 fun _ => 0) (.cons (.int .i64 fun _ => 0) (.cons (.int .i64 fun _ => 7) (.cons (.int .i64 fun _ => 0)
    (.cons .nsl (.cons .nsl (.cons .nsl (.cons (.int .i64 fun _ => 0) (.cons (.int .u64 fun _ => 0) (.cons (.int .u64 fun _ => 0) (.cons .ff (.cons (.int .i64 fun _ => 0) (.cons (.int .i64 fun _ => 0) (.cons (.str fun _ => []) (.cons (.str fun _ => [])
    (.cons (.int .i64 fun _ => 0) (.cons (.int .i64 fun _ => 0) .nil))))))))))))))))))))) (Entry.av fun _ => entA) := by
    (repeat' (first | exact Same.refl _ | exact SameC.nil | refine SameC.cons ?_ ?_ | refine Same.agg ?_ | refine Same.tup ?_ | exact Same.nsl rfl | exact Same.tt rfl | exact Same.ff rfl | exact Same.int rfl | exact Same.str rfl | exact Same.bool rfl | refine Same.sl rfl ?_))
  have hcred : Same (AV.agg (.cons (.int .i64 fun _ => 0) (.cons (.int .i64 fun _ => 0) (.cons .nsl (.cons (.int .i64 fun _ => 0) .nil))))) (Cred.av fun _ => credZ) := by
    (repeat' (first | exact Same.refl _ | exact SameC.nil | refine SameC.cons ?_ ?_ | refine Same.agg ?_ | refine Same.tup ?_ | exact Same.nsl rfl | exact Same.tt rfl | exact Same.ff rfl | exact Same.int rfl | exact Same.str rfl | exact Same.bool rfl | refine Same.sl rfl ?_))
  refine CallAt.args (.cons hent (.cons hcred (.cons two .nil))) ?_
  refine deg_c (fun _ => entA) (fun _ => credZ) (fun _ => itemsA) ⟨⟨by unfold short; decide, by unfold short; decide, by decide⟩, by decide, by decide, by decide⟩ fun m hm => ?_
  cbv
  have k3 : (m .o).sec = 7 := by rw [hm]; decide +kernel
  exact hr _ (decide_eq_true k3)
end Go.Proofs.Ytgjlkcdnlndlnaa
/- The law DegradeMade, walked. -/
namespace Go.Proofs.Ytgjlkcdnlndlnaa
open Go Go.Proofs.Ytgjlkcdnlndlnaa.Sx F
set_option linter.unusedVariables false
set_option linter.unusedSimpArgs false
theorem flags_16 {f : Int} (h : 0 ≤ f ∧ f < 16) : bnot f 3 = band f 12 := by
  have : ∀ x : Fin 16, bnot (x.1 : Int) 3 = band (x.1 : Int) 12 := by decide +kernel
  have := this ⟨f.toNat, by omega⟩
  rwa [show ((⟨f.toNat, by omega⟩ : Fin 16).1 : Int) = f from Int.toNat_of_nonneg h.1] at this
structure Lim (e : Entry) (m : Meta) : Prop where
  acl : m.acl.length ≤ e.mt.acl.length
  dflt : m.dflt.length ≤ e.mt.dflt.length
  xs : m.xs.length ≤ e.mt.xs.length
theorem lim_deg (e : Entry) (c : Cred) (l : List Item) : Lim e (degS e c l) := by
  have h0 : Lim e (deg0 e c l) := ⟨Nat.zero_le _, Nat.zero_le _, Nat.zero_le _⟩
  have h1 : Lim e (deg1 e c l) := by unfold deg1; split <;> first | exact ⟨h0.acl, h0.dflt, h0.xs⟩ | exact h0
  have h2 : Lim e (deg2 e c l) := by unfold deg2; split <;> first | exact ⟨Nat.le_refl _, h1.dflt, h1.xs⟩ | exact h1
  have h3 : Lim e (deg3 e c l) := by unfold deg3; split <;> first | exact ⟨h2.acl, Nat.le_refl _, h2.xs⟩ | exact h2
  have h4 : Lim e (deg4 e c l) := by
    unfold deg4
    split
    · exact ⟨h3.acl, h3.dflt, Nat.le_refl _⟩
    · split
      · exact ⟨h3.acl, h3.dflt, List.length_filter_le _ _⟩
      · exact h3
  have h5 : Lim e (deg5 e c l) := by unfold deg5; split <;> first | exact ⟨h4.acl, h4.dflt, h4.xs⟩ | exact h4
  have h6 : Lim e (deg6 e c l) := by unfold deg6; split <;> first | exact ⟨h5.acl, h5.dflt, h5.xs⟩ | exact h5
  unfold degS
  split
  · exact ⟨h6.acl, h6.dflt, h6.xs⟩
  · split
    · exact ⟨h6.acl, h6.dflt, h6.xs⟩
    · exact h6
theorem short_deg {e : Entry} {c : Cred} {l : List Item} (h : DegOk e c l) : short (degS e c l).acl ∧ short (degS e c l).dflt ∧ short (degS e c l).xs := by
  have h1 := lim_deg e c l
  have := h1.acl
  have := h1.dflt
  have := h1.xs
  have := h.acl24
  have := h.dflt24
  have := h.xs
  unfold short
  omega
end Go.Proofs.Ytgjlkcdnlndlnaa
/- Arguments of the program's own kinds, opened: what is kept of a file, who asks. -/
namespace Go.Proofs.Ytgjlkcdnlndlnaa
open Go Go.Proofs.Ytgjlkcdnlndlnaa.Sx
set_option linter.unusedVariables false
def isStructB (P : Program) (t : TypeId) : Bool := match P.underlying t with | some (.struct _) => true | _ => false
theorem okStruct {P : Program} {w : World} {r : Reach} {base : Nat} {t : TypeId} {v : Value} (hs : isStructB P t = true) (h : Value.okWide P w r base t v) : ∃ cs, v = .agg cs := by
  unfold isStructB at hs
  split at hs
  · rename_i fs hu
    obtain ⟨cs, h1, _⟩ := Go.WideShapes.okWide_struct hu h
    exact ⟨cs, h1⟩
  · cases hs
theorem agg_one {E : Env} {c : AV} {a : Array Value} (h : ListC E c a.toList) : Rp E (.agg c) (.agg a) := ⟨a.toList, by simp, h⟩
theorem th_eta {α : Type} (x : Th α) : (fun _ => x .o) = x := funext fun | .o => rfl
theorem rows_eq {α : Type} {ch : Th α → AV} {z : α} {g : Nat → AV} : ∀ m : Nat, (∀ j, j < m → ∃ a : α, g j = ch fun _ => a) → ∃ l : List α, l.length = m ∧ ∀ j, j < m → g j = ch fun _ => l.getD j z
  | 0, _ => ⟨[], rfl, fun j hj => absurd hj (Nat.not_lt_zero _)⟩
  | m + 1, h => by
    obtain ⟨l, h1, h2⟩ := rows_eq (z := z) m fun j hj => h j (by omega)
    obtain ⟨a, ha⟩ := h m (by omega)
    refine ⟨l ++ [a], by simp [h1], fun j hj => ?_⟩
    by_cases q : j < m
    · rw [h2 j q]
      congr 1
      funext _
      simp only [List.getD_eq_getElem?_getD]
      rw [List.getElem?_append_left (by omega)]
    · obtain rfl : j = m := by omega
      rw [ha]
      congr 1
      funext _
      simp [List.getD_eq_getElem?_getD, h1]
def aceC : CS := .i .i64 (.i .i64 (.i .i64 .nil))
def xatC : CS := .s (.s .nil)
def credC : CS := .i .i64 (.i .i64 (.sl (.i .i64 .nil) (.i .i64 .nil)))
theorem ace_of {c : AV} (h : Shape aceC c) : ∃ a : Ace, c = Ace.ch fun _ => a := by
  obtain ⟨x, _, rfl, _, y, _, rfl, _, z, _, rfl, _, rfl⟩ := h
  refine ⟨⟨x .o, y .o, z .o⟩, ?_⟩
  show _ = AV.cons (.int .i64 fun _ => x .o) (.cons (.int .i64 fun _ => y .o) (.cons (.int .i64 fun _ => z .o) .nil))
  rw [th_eta, th_eta, th_eta]
theorem xat_of {c : AV} (h : Shape xatC c) : ∃ a : Xattr, c = Xattr.ch fun _ => a := by
  obtain ⟨x, _, rfl, _, y, _, rfl, _, rfl⟩ := h
  refine ⟨⟨x .o, y .o⟩, ?_⟩
  show _ = AV.cons (.str fun _ => x .o) (.cons (.str fun _ => y .o) .nil)
  rw [th_eta, th_eta]
theorem aces_of {n : Th Nat} {g : Th Nat → AV} (h : ∀ j, j < n .o → Shape aceC (g fun _ => j)) : ∃ l : List Ace, l.length = n .o ∧ Same (.sl 3 n g) (aces fun _ => l) := by
  obtain ⟨l, h1, h2⟩ := rows_eq (ch := Ace.ch) (z := Ace.z) (g := fun j => g fun _ => j) (n .o) fun j hj => ace_of (h j hj)
  exact ⟨l, h1, Same.sl h1.symm fun j hj => h2 j hj⟩
theorem xats_of {n : Th Nat} {g : Th Nat → AV} (h : ∀ j, j < n .o → Shape xatC (g fun _ => j)) : ∃ l : List Xattr, l.length = n .o ∧ Same (.sl 2 n g) (xattrs fun _ => l) := by
  obtain ⟨l, h1, h2⟩ := rows_eq (ch := Xattr.ch) (z := Xattr.z) (g := fun j => g fun _ => j) (n .o) fun j hj => xat_of (h j hj)
  exact ⟨l, h1, Same.sl h1.symm fun j hj => h2 j hj⟩
theorem ints_of {n : Th Nat} {g : Th Nat → AV} (h : ∀ j, j < n .o → Shape (.i .i64 .nil) (g fun _ => j)) : ∃ l : List Int, l.length = n .o ∧ Same (.sl 1 n g) (ints fun _ => l) := by
  obtain ⟨l, h1, h2⟩ := rows_eq (ch := fun a : Th Int => .cons (.int .i64 a) .nil) (z := 0) (g := fun j => g fun _ => j) (n .o) fun j hj => by
    obtain ⟨x, _, hx, _, rfl⟩ := h j hj
    exact ⟨x .o, by rw [hx]⟩
  exact ⟨l, h1, Same.sl h1.symm fun j hj => h2 j hj⟩
theorem arg_cred {c : AV} (h : Shape credC c) : ∃ m : Cred, short m.groups ∧ SameC c (Cred.ch fun _ => m) := by
  obtain ⟨x1, _, rfl, _, x2, _, rfl, _, n1, g1, _, rfl, s1, e1, x3, _, rfl, _, rfl⟩ := h
  obtain ⟨l1, a1, b1⟩ := ints_of e1
  exact ⟨⟨x1 .o, x2 .o, l1, x3 .o⟩, by show l1.length ≤ _; omega, .cons (.int rfl) (.cons (.int rfl) (.cons b1 (.cons (.int rfl) .nil)))⟩
def entryC : CS := .s (.i .i64 (.i .i64 (.i .i64 (.i .i64 (.i .i64 (.i .i64 (.sl aceC (.sl aceC (.sl xatC (.i .i64 (.i .u64 (.i .u64 (.b (.i .i64 (.i .i64 (.s (.s (.i .i64 (.i .i64 .nil)))))))))))))))))))
theorem arg_entry {c : AV} (h : Shape entryC c) : ∃ m : Entry, short m.mt.acl ∧ SameC c (Entry.ch fun _ => m) := by
  obtain ⟨y1, _, rfl, _, y2, _, rfl, _, x1, _, rfl, _, x2, _, rfl, _, x3, _, rfl, _, x4, _, rfl, _, x5, _, rfl, _, n1, g1, _, rfl, s1, e1, n2, g2, _, rfl, s2, e2, n3, g3, _, rfl, s3, e3, x6, _, rfl, _, x7, _, rfl, _, x8, _, rfl, _, x9, _, rfl, x10, _, rfl, _, x11, _, rfl, _, y3, _, rfl, _, y4, _, rfl, _, y5, _, rfl, _, y6, _, rfl, _, rfl⟩ := h
  obtain ⟨l1, a1, b1⟩ := aces_of e1
  obtain ⟨l2, a2, b2⟩ := aces_of e2
  obtain ⟨l3, a3, b3⟩ := xats_of e3
  exact ⟨⟨y1 .o, y2 .o, ⟨x1 .o, x2 .o, x3 .o, x4 .o, x5 .o, l1, l2, l3, ⟨x6 .o, x7 .o, x8 .o, x9 .o, x10 .o⟩, x11 .o⟩, y3 .o, y4 .o, y5 .o, y6 .o⟩, by show l1.length ≤ _; omega,
    .cons (.str rfl) (.cons (.int rfl) (.cons (.int rfl) (.cons (.int rfl) (.cons (.int rfl) (.cons (.int rfl) (.cons (.int rfl) (.cons b1 (.cons b2 (.cons b3 (.cons (.int rfl) (.cons (.int rfl) (.cons (.int rfl) (.cons (.bool rfl) (.cons (.int rfl) (.cons (.int rfl) (.cons (.str rfl) (.cons (.str rfl) (.cons (.int rfl) (.cons (.int rfl) .nil)))))))))))))))))))⟩
end Go.Proofs.Ytgjlkcdnlndlnaa
/- The law DegradeAll, walked. -/
namespace Go.Proofs.Ytgjlkcdnlndlnaa
open Go Go.Proofs.Ytgjlkcdnlndlnaa.Sx F
set_option linter.unusedVariables false
set_option linter.unusedSimpArgs false
def itemC : CS := .s (.i .i64 (.i .i64 .nil))
theorem item_of {c : AV} (h : Shape itemC c) : ∃ a : Item, c = Item.ch fun _ => a := by
  obtain ⟨x, _, rfl, _, y, _, rfl, _, z, _, rfl, _, rfl⟩ := h
  refine ⟨⟨x .o, y .o, z .o⟩, ?_⟩
  show _ = AV.cons (.str fun _ => x .o) (.cons (.int .i64 fun _ => y .o) (.cons (.int .i64 fun _ => z .o) .nil))
  rw [th_eta, th_eta, th_eta]
theorem arg_items {c : AV} (h : Shape (.sl itemC .nil) c) : ∃ l : List Item, l.length ≤ 140737488351232 ∧ SameC c (.cons (items fun _ => l) .nil) := by
  obtain ⟨n, g, t, rfl, hn, hg, ht⟩ := h
  cases ht
  obtain ⟨l, h1, h2⟩ := rows_eq (ch := Item.ch) (z := Item.z) (g := fun j => g fun _ => j) (n .o) fun j hj => item_of (hg j hj)
  exact ⟨l, by omega, .cons (Same.sl h1.symm fun j hj => h2 j hj) .nil⟩
theorem maycred_c (c : Th Cred) (hc : short (c .o).groups) {d : Nat} {K : ARes → BL → Prop} (hr : ∀ b : Th Bool, K (.ret (.bool b)) .nil) : CallAt PT r18_MayCred [Cred.av c] d .nil K := by
  refine CallAt.res ?_
  refine r18_MayCred.of rfl rfl ?_
  cbv
  refine loop_at (X := Nat) 1000 [1] [1] (fun _ k => .cons 3 (.int .i64 fun _ => zi k) .nil) (fun _ _ => .nil) (fun k => k ≤ (c .o).groups.length) (fun k => (c .o).groups.length - k) 0 ?_ (Nat.zero_le _) ?_
  · cbv
    (repeat' (first | exact True.intro | exact Same.refl _ | exact SameB.refl _ | exact ⟨rfl⟩ | exact Same.int rfl | exact Same.str rfl | exact Same.bool rfl | (refine Same.int ?_; simp only [List.length_append, List.length_cons, List.length_nil, zi]; omega) | (refine SameB.row' rfl fun i hi => ?_; first | rfl | exact absurd hi (Nat.not_lt_zero _)) | refine And.intro ?_ ?_ | refine SameB.cells ?_ | exact SameC.nil | refine SameC.cons ?_ ?_ | exact Same.nsl rfl | exact Same.tt rfl | exact Same.ff rfl))
  · intro k hk
    cbv
    refine br_zlt (fun h1 => ?_) (fun h1 => ?_)
    · have h1 : k < (c .o).groups.length := h1
      cbv
      refine safe ⟨zi_nonneg _, zi_lt.2 h1⟩ ?_
      refine br_rev (br_dec (fun h2 => ?_) (fun h2 => ?_))
      all_goals cbv
      · exact ⟨_, .ret (y := .bool fun _ => false) (.ff rfl), hr _⟩
      refine safe ⟨zi_nonneg _, zi_lt.2 h1⟩ ?_
      refine br_dec (fun h3 => ?_) (fun h3 => ?_)
      all_goals cbv
      · exact ⟨_, .ret (y := .bool fun _ => false) (.ff rfl), hr _⟩
      refine ⟨k + 1, h1, by omega, ?_⟩
      cbv
      rw [zi_succ (by unfold short at hc; omega)]
      (repeat' (first | exact True.intro | exact Same.refl _ | exact SameB.refl _ | exact ⟨rfl⟩ | exact Same.int rfl | exact Same.str rfl | exact Same.bool rfl | (refine Same.int ?_; simp only [List.length_append, List.length_cons, List.length_nil, zi]; omega) | (refine SameB.row' rfl fun i hi => ?_; first | rfl | exact absurd hi (Nat.not_lt_zero _)) | refine And.intro ?_ ?_ | refine SameB.cells ?_ | exact SameC.nil | refine SameC.cons ?_ ?_ | exact Same.nsl rfl | exact Same.tt rfl | exact Same.ff rfl))
    · cbv
      (repeat' (first | (refine br_dec (fun h => ?_) (fun h => ?_) <;> cbv) | (refine br_rev (br_dec (fun h => ?_) (fun h => ?_)) <;> cbv) | (refine br_ndec (fun h => ?_) (fun h => ?_) <;> cbv) | (refine br_rev (br_ndec (fun h => ?_) (fun h => ?_)) <;> cbv)))
      all_goals first
        | exact ⟨_, .ret (y := .bool fun _ => false) (.ff rfl), hr _⟩
        | exact ⟨_, .ret (.refl _), hr _⟩
theorem degradeAll_c (e : Th Entry) (c : Th Cred) (l : Th (List Item)) (p : Th (List UInt8)) (a : Th Int) (he : short (e .o).mt.acl) (hc : short (c .o).groups) (hl : (l .o).length ≤ 140737488351232) : CallAt PT l25_DegradeAll [Entry.av e, Cred.av c, items l, .str p, .int .i64 a] 9999 .nil Yes := by
  refine l25_DegradeAll.of rfl rfl ?_
  cbv
  refine heavyE_c e fun b hb => ?_
  cbv
  refine br_rev (br_bool (fun q1 => ?_) (fun q1 => ?_))
  all_goals cbv
  focus
    refine degRes_c l p a hl fun n1 hn1 => ?_
    cbv
    refine res21_c l p a hl fun n2 hn2 => ?_
    cbv
    have h1 : decide (n1 .o = n2 .o) = true := decide_eq_true (by rw [hn1, hn2])
    (first | refine br_is (h1) ?_ | refine br_not (h1) ?_ | refine br_rev (br_is (h1) ?_) | refine br_rev (br_not (h1) ?_))
    cbv
    refine awake25_c fun b hb => ?_
    cbv
    exact ⟨b, rfl, hb⟩
  have hl' := hb q1
  refine may15E_c e hl' fun b2 hb2 => ?_
  cbv
  refine br_rev (br_nbool (fun q2 => ?_) (fun q2 => ?_))
  all_goals cbv
  focus
    refine degRes_c l p a hl fun n1 hn1 => ?_
    cbv
    refine res21_c l p a hl fun n2 hn2 => ?_
    cbv
    have h1 : decide (n1 .o = n2 .o) = true := decide_eq_true (by rw [hn1, hn2])
    (first | refine br_is (h1) ?_ | refine br_not (h1) ?_ | refine br_rev (br_is (h1) ?_) | refine br_rev (br_not (h1) ?_))
    cbv
    refine awake25_c fun b hb => ?_
    cbv
    exact ⟨b, rfl, hb⟩
  have hE := hb2 q2
  refine br_rev (br_dec (fun q3 => ?_) (fun q3 => ?_))
  all_goals cbv
  focus
    refine degRes_c l p a hl fun n1 hn1 => ?_
    cbv
    refine res21_c l p a hl fun n2 hn2 => ?_
    cbv
    have h1 : decide (n1 .o = n2 .o) = true := decide_eq_true (by rw [hn1, hn2])
    (first | refine br_is (h1) ?_ | refine br_not (h1) ?_ | refine br_rev (br_is (h1) ?_) | refine br_rev (br_not (h1) ?_))
    cbv
    refine awake25_c fun b hb => ?_
    cbv
    exact ⟨b, rfl, hb⟩
  refine br_rev (br_dec (fun q4 => ?_) (fun q4 => ?_))
  all_goals cbv
  focus
    refine degRes_c l p a hl fun n1 hn1 => ?_
    cbv
    refine res21_c l p a hl fun n2 hn2 => ?_
    cbv
    have h1 : decide (n1 .o = n2 .o) = true := decide_eq_true (by rw [hn1, hn2])
    (first | refine br_is (h1) ?_ | refine br_not (h1) ?_ | refine br_rev (br_is (h1) ?_) | refine br_rev (br_not (h1) ?_))
    cbv
    refine awake25_c fun b hb => ?_
    cbv
    exact ⟨b, rfl, hb⟩
  refine br_rev (br_dec (fun q5 => ?_) (fun q5 => ?_))
  all_goals cbv
  focus
    refine degRes_c l p a hl fun n1 hn1 => ?_
    cbv
    refine res21_c l p a hl fun n2 hn2 => ?_
    cbv
    have h1 : decide (n1 .o = n2 .o) = true := decide_eq_true (by rw [hn1, hn2])
    (first | refine br_is (h1) ?_ | refine br_not (h1) ?_ | refine br_rev (br_is (h1) ?_) | refine br_rev (br_not (h1) ?_))
    cbv
    refine awake25_c fun b hb => ?_
    cbv
    exact ⟨b, rfl, hb⟩
  refine maycred_c c hc fun b3 => ?_
  cbv
  refine br_nbool (fun q6 => ?_) (fun q6 => ?_)
  all_goals cbv
  focus
    refine degRes_c l p a hl fun n1 hn1 => ?_
    cbv
    refine res21_c l p a hl fun n2 hn2 => ?_
    cbv
    have h1 : decide (n1 .o = n2 .o) = true := decide_eq_true (by rw [hn1, hn2])
    (first | refine br_is (h1) ?_ | refine br_not (h1) ?_ | refine br_rev (br_is (h1) ?_) | refine br_rev (br_not (h1) ?_))
    cbv
    refine awake25_c fun b hb => ?_
    cbv
    exact ⟨b, rfl, hb⟩
  have q3 : ¬ (e .o).kind = 2 := q3
  have hm : MetaOk (e .o).mt (e .o).kind := by
    rcases hE with ⟨q, _⟩ | q
    · exact (q3 q).elim
    · exact q
  have n32 : ∀ {l : List Ace}, l = [] ∨ AclOk l → l.length ≤ 32 := fun {l} h => by
    rcases h with q | q
    · rw [q]; exact Nat.zero_le _
    · exact q.len
  have l1 := n32 (hm.acl.imp_right fun q => q.1)
  have l2 := n32 (hm.dflt.imp_right fun q => q.2)
  have hf : 0 ≤ (e .o).mt.flags ∧ (e .o).mt.flags < 16 := by
    have := hm.flags
    unfold mayF at this
    simpa using this
  have ok : Deg21Ok (e .o) (c .o) (l .o) := ⟨⟨⟨hl'.mt.acl, hc, hl⟩, by omega, by omega, Nat.le_trans hm.xs.len (by decide)⟩, less9_law (good_meta (hm.acl.imp_right fun q => q.1)), flags_16 hf⟩
  refine degRes_c l p a hl fun n1 hn1 => ?_
  cbv
  refine res21_c l p a hl fun n2 hn2 => ?_
  cbv
  have h1 : (!decide (n1 .o = n2 .o)) = false := by rw [decide_eq_true (by rw [hn1, hn2])]; rfl
  (first | refine br_is (h1) ?_ | refine br_not (h1) ?_ | refine br_rev (br_is (h1) ?_) | refine br_rev (br_not (h1) ?_))
  cbv
  refine deg_c e c l ok.toDegOk fun m1 hm1 => ?_
  cbv
  refine deg21_c e c l ok fun m2 hm2 => ?_
  cbv
  have hsh := short_deg ok.toDegOk
  refine sameM_c m1 m2 (by rw [hm1]; exact hsh.1) (by rw [hm1]; exact hsh.2.1) (by rw [hm1]; exact hsh.2.2) fun b4 hb4 => ?_
  cbv
  have h4 : b4 .o = true := hb4.2 (by rw [hm1, hm2])
  (first | refine br_is (h4) ?_ | refine br_not (h4) ?_ | refine br_rev (br_is (h4) ?_) | refine br_rev (br_not (h4) ?_))
  cbv
  refine awake25_c fun b5 hb5 => ?_
  cbv
  exact ⟨b5, rfl, hb5⟩
end Go.Proofs.Ytgjlkcdnlndlnaa
