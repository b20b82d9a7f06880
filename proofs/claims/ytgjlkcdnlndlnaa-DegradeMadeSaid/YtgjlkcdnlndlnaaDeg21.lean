/- What the document's report says of a node: walked; sameness of what is said of nodes. -/
import Derived.Test.YtgjlkcdnlndlnaaDeg
namespace Go.Proofs.Ytgjlkcdnlndlnaa
open Go Go.Proofs.Ytgjlkcdnlndlnaa.Sx F
set_option linter.unusedVariables false
set_option linter.unusedSimpArgs false

def putMode (n : Int) (m : Meta) : Meta := { m with mode := n }
def g0 (c : Cred) : Meta := { metaZ with uid := c.uid, gid := c.gid }
def g1 (e : Entry) (c : Cred) (l : List Item) : Meta := if lastR l e.path 2 = 1 then putOwner e (g0 c) else g0 c
def modeD (e : Entry) (c : Cred) (l : List Item) : Int :=
  if lastR l e.path 3 = 1 then (if e.kind = 1 ∧ inS c e.mt.gid = false ∧ band c.powers 4 = 0 then bnot (if lastR l e.path 4 = 1 then e.mt.mode else modeS (LessS e.mt) e.mt true) 1024 else if lastR l e.path 4 = 1 then e.mt.mode else modeS (LessS e.mt) e.mt true)
  else if lastR l e.path 3 = 2 then modeS (LessS e.mt) e.mt false else if lastR l e.path 10 = 1 then 0 else stageS e.kind
def g2 (e : Entry) (c : Cred) (l : List Item) : Meta := putMode (modeD e c l) (g1 e c l)
theorem g3_eq (e : Entry) (c : Cred) (l : List Item) : deg1 e c l = if e.kind = 3 then putMode 511 (g2 e c l) else g2 e c l := by
  have h : tmodeS e c l = if e.kind = 3 then 511 else modeD e c l := by
    unfold tmodeS modeD
    by_cases h3 : e.kind = 3
    · rw [if_pos h3, if_pos h3]
    · rw [if_neg h3, if_neg h3]
      by_cases h1 : lastR l e.path 3 = 1
      · rw [if_neg (by rw [h1]; decide), if_neg (fun q : ¬ _ => q h1), if_pos h1]
      · rw [if_neg h1, if_pos h1]
  unfold deg1 g2 g1
  by_cases h3 : e.kind = 3
  · rw [if_pos h3] at h ⊢
    split <;> simp only [putOwner, deg0, g0, putMode, h]
  · rw [if_neg h3] at h ⊢
    split <;> simp only [putOwner, deg0, g0, putMode, h]
structure Deg21Ok (e : Entry) (c : Cred) (l : List Item) : Prop extends DegOk e c l where
  less : Less9 e.mt = LessS e.mt
  flags : bnot e.mt.flags 3 = band e.mt.flags 12

theorem deg21_c (e : Th Entry) (c : Th Cred) (l : Th (List Item)) (h : Deg21Ok (e .o) (c .o) (l .o)) {d : Nat} {K : ARes → BL → Prop} (hr : ∀ m : Th Meta, m .o = degS (e .o) (c .o) (l .o) → K (.ret (Meta.av m)) .nil) :
    CallAt PT r21_Degraded [Entry.av e, Cred.av c, items l] d .nil K := by
  refine CallAt.res ?_
  refine r21_Degraded.of rfl rfl ?_
  cbv
  refine cut_rule (X := Unit) 1000 1000 [2, 3, 4, 6, 7] [3, 4, 6] (fun _ => .nil) (fun _ => .cons 7 (.cells (Meta.ch fun _ => g1 (e .o) (c .o) (l .o))) .nil) (fun _ => True) ?_ fun _ _ => ?_
  · cbv
    refine res21_c l (fun _ => (e .o).path) (fun _ => 2) h.len fun n hn => ?_
    cbv
    refine br_dec (fun h1 => ?_) (fun h1 => ?_)
    · have h1 : lastR (l .o) (e .o).path 2 = 1 := hn ▸ h1
      have e1 : g1 (e .o) (c .o) (l .o) = putOwner (e .o) (g0 (c .o)) := if_pos h1
      cbv
      refine ⟨(), trivial, ?_⟩
      cbv
      rw [e1]
      (repeat' (first | exact True.intro | exact Same.refl _ | exact SameB.refl _ | exact ⟨rfl⟩ | exact Same.int rfl | exact Same.str rfl | exact Same.bool rfl | (refine Same.int ?_; simp only [List.length_append, List.length_cons, List.length_nil, zi]; omega) | (refine SameB.row' rfl fun i hi => ?_; first | rfl | exact absurd hi (Nat.not_lt_zero _)) | refine And.intro ?_ ?_ | refine SameB.cells ?_ | exact SameC.nil | refine SameC.cons ?_ ?_ | exact Same.nsl rfl | exact Same.tt rfl | exact Same.ff rfl))
    · have h1 : ¬ lastR (l .o) (e .o).path 2 = 1 := hn ▸ h1
      have e1 : g1 (e .o) (c .o) (l .o) = g0 (c .o) := if_neg h1
      cbv
      refine ⟨(), trivial, ?_⟩
      cbv
      rw [e1]
      (repeat' (first | exact True.intro | exact Same.refl _ | exact SameB.refl _ | exact ⟨rfl⟩ | exact Same.int rfl | exact Same.str rfl | exact Same.bool rfl | (refine Same.int ?_; simp only [List.length_append, List.length_cons, List.length_nil, zi]; omega) | (refine SameB.row' rfl fun i hi => ?_; first | rfl | exact absurd hi (Nat.not_lt_zero _)) | refine And.intro ?_ ?_ | refine SameB.cells ?_ | exact SameC.nil | refine SameC.cons ?_ ?_ | exact Same.nsl rfl | exact Same.tt rfl | exact Same.ff rfl))
  cbv
  refine cut_rule (X := Unit) 1000 1000 [2, 3, 4, 6, 7] [3, 4, 6] (fun _ => .nil) (fun _ => .cons 7 (.cells (Meta.ch fun _ => g2 (e .o) (c .o) (l .o))) .nil) (fun _ => True) ?_ fun _ _ => ?_
  · cbv
    refine res21_c l (fun _ => (e .o).path) (fun _ => 3) h.len fun n hn => ?_
    cbv
    refine br_dec (fun h1 => ?_) (fun h1 => ?_)
    · have h1 : lastR (l .o) (e .o).path 3 = 1 := hn ▸ h1
      cbv
      refine CallAt.args (.cons (Same.refl _) (.cons (Same.tt (b := fun _ => true) rfl) .nil)) ?_
      refine mode21_c (fun _ => (e .o).mt) (fun _ => true) h.acl fun n2 f2 hn2 hf2 => ?_
      rw [h.less] at hn2
      cbv
      refine res21_c l (fun _ => (e .o).path) (fun _ => 4) h.len fun n4 hn4 => ?_
      cbv
      refine br_dec (fun h4 => ?_) (fun h4 => ?_)
      all_goals
        rw [hn4] at h4
        cbv
        refine br_dec (fun h5 => ?_) (fun h5 => ?_)
        · have h5 : (e .o).kind = 1 := h5
          cbv
          refine in9_c c (fun _ => (e .o).mt.gid) h.grp fun b6 hb6 => ?_
          cbv
          refine br_nbool (fun h6 => ?_) (fun h6 => ?_)
          · rw [hb6] at h6
            cbv
            refine br_dec (fun h7 => ?_) (fun h7 => ?_)
            · have h7 : band (c .o).powers 4 = 0 := h7
              have e1 : g2 (e .o) (c .o) (l .o) = putMode (bnot (if lastR (l .o) (e .o).path 4 = 1 then (e .o).mt.mode else n2 .o) 1024) (g1 (e .o) (c .o) (l .o)) := by
                unfold g2 modeD; rw [if_pos h1, if_pos ⟨h5, h6, h7⟩, hn2]
              first | rw [if_pos h4] at e1 | rw [if_neg h4] at e1
              cbv
              refine ⟨(), trivial, ?_⟩
              cbv
              rw [e1]
              (repeat' (first | exact True.intro | exact Same.refl _ | exact SameB.refl _ | exact ⟨rfl⟩ | exact Same.int rfl | exact Same.str rfl | exact Same.bool rfl | (refine Same.int ?_; simp only [List.length_append, List.length_cons, List.length_nil, zi]; omega) | (refine SameB.row' rfl fun i hi => ?_; first | rfl | exact absurd hi (Nat.not_lt_zero _)) | refine And.intro ?_ ?_ | refine SameB.cells ?_ | exact SameC.nil | refine SameC.cons ?_ ?_ | exact Same.nsl rfl | exact Same.tt rfl | exact Same.ff rfl))
            · have h7 : ¬ band (c .o).powers 4 = 0 := h7
              have e1 : g2 (e .o) (c .o) (l .o) = putMode (if lastR (l .o) (e .o).path 4 = 1 then (e .o).mt.mode else n2 .o) (g1 (e .o) (c .o) (l .o)) := by
                unfold g2 modeD; rw [if_pos h1, if_neg (fun q => h7 q.2.2), hn2]
              first | rw [if_pos h4] at e1 | rw [if_neg h4] at e1
              cbv
              refine ⟨(), trivial, ?_⟩
              cbv
              rw [e1]
              (repeat' (first | exact True.intro | exact Same.refl _ | exact SameB.refl _ | exact ⟨rfl⟩ | exact Same.int rfl | exact Same.str rfl | exact Same.bool rfl | (refine Same.int ?_; simp only [List.length_append, List.length_cons, List.length_nil, zi]; omega) | (refine SameB.row' rfl fun i hi => ?_; first | rfl | exact absurd hi (Nat.not_lt_zero _)) | refine And.intro ?_ ?_ | refine SameB.cells ?_ | exact SameC.nil | refine SameC.cons ?_ ?_ | exact Same.nsl rfl | exact Same.tt rfl | exact Same.ff rfl))
          · rw [hb6] at h6
            have e1 : g2 (e .o) (c .o) (l .o) = putMode (if lastR (l .o) (e .o).path 4 = 1 then (e .o).mt.mode else n2 .o) (g1 (e .o) (c .o) (l .o)) := by
              unfold g2 modeD; rw [if_pos h1, if_neg (fun q => by rw [q.2.1] at h6; cases h6), hn2]
            first | rw [if_pos h4] at e1 | rw [if_neg h4] at e1
            cbv
            refine ⟨(), trivial, ?_⟩
            cbv
            rw [e1]
            (repeat' (first | exact True.intro | exact Same.refl _ | exact SameB.refl _ | exact ⟨rfl⟩ | exact Same.int rfl | exact Same.str rfl | exact Same.bool rfl | (refine Same.int ?_; simp only [List.length_append, List.length_cons, List.length_nil, zi]; omega) | (refine SameB.row' rfl fun i hi => ?_; first | rfl | exact absurd hi (Nat.not_lt_zero _)) | refine And.intro ?_ ?_ | refine SameB.cells ?_ | exact SameC.nil | refine SameC.cons ?_ ?_ | exact Same.nsl rfl | exact Same.tt rfl | exact Same.ff rfl))
        · have h5 : ¬ (e .o).kind = 1 := h5
          have e1 : g2 (e .o) (c .o) (l .o) = putMode (if lastR (l .o) (e .o).path 4 = 1 then (e .o).mt.mode else n2 .o) (g1 (e .o) (c .o) (l .o)) := by
            unfold g2 modeD; rw [if_pos h1, if_neg (fun q => h5 q.1), hn2]
          first | rw [if_pos h4] at e1 | rw [if_neg h4] at e1
          cbv
          refine ⟨(), trivial, ?_⟩
          cbv
          rw [e1]
          (repeat' (first | exact True.intro | exact Same.refl _ | exact SameB.refl _ | exact ⟨rfl⟩ | exact Same.int rfl | exact Same.str rfl | exact Same.bool rfl | (refine Same.int ?_; simp only [List.length_append, List.length_cons, List.length_nil, zi]; omega) | (refine SameB.row' rfl fun i hi => ?_; first | rfl | exact absurd hi (Nat.not_lt_zero _)) | refine And.intro ?_ ?_ | refine SameB.cells ?_ | exact SameC.nil | refine SameC.cons ?_ ?_ | exact Same.nsl rfl | exact Same.tt rfl | exact Same.ff rfl))
    · have h1 : ¬ lastR (l .o) (e .o).path 3 = 1 := hn ▸ h1
      cbv
      refine br_dec (fun h2 => ?_) (fun h2 => ?_)
      · have h2 : lastR (l .o) (e .o).path 3 = 2 := hn ▸ h2
        cbv
        refine CallAt.args (.cons (Same.refl _) (.cons (Same.ff (b := fun _ => false) rfl) .nil)) ?_
        refine mode21_c (fun _ => (e .o).mt) (fun _ => false) h.acl fun n2 f2 hn2 hf2 => ?_
        have e1 : g2 (e .o) (c .o) (l .o) = putMode (n2 .o) (g1 (e .o) (c .o) (l .o)) := by
          unfold g2 modeD; rw [if_neg h1, if_pos h2, hn2, h.less]
        cbv
        refine ⟨(), trivial, ?_⟩
        cbv
        rw [e1]
        (repeat' (first | exact True.intro | exact Same.refl _ | exact SameB.refl _ | exact ⟨rfl⟩ | exact Same.int rfl | exact Same.str rfl | exact Same.bool rfl | (refine Same.int ?_; simp only [List.length_append, List.length_cons, List.length_nil, zi]; omega) | (refine SameB.row' rfl fun i hi => ?_; first | rfl | exact absurd hi (Nat.not_lt_zero _)) | refine And.intro ?_ ?_ | refine SameB.cells ?_ | exact SameC.nil | refine SameC.cons ?_ ?_ | exact Same.nsl rfl | exact Same.tt rfl | exact Same.ff rfl))
      · have h2 : ¬ lastR (l .o) (e .o).path 3 = 2 := hn ▸ h2
        cbv
        refine stage21_c (fun _ => (e .o).kind) fun n2 hn2 => ?_
        cbv
        refine res21_c l (fun _ => (e .o).path) (fun _ => 10) h.len fun n3 hn3 => ?_
        cbv
        refine br_dec (fun h3 => ?_) (fun h3 => ?_)
        · have h3 : lastR (l .o) (e .o).path 10 = 1 := hn3 ▸ h3
          have e1 : g2 (e .o) (c .o) (l .o) = putMode 0 (g1 (e .o) (c .o) (l .o)) := by
            unfold g2 modeD; rw [if_neg h1, if_neg h2, if_pos h3]
          cbv
          refine ⟨(), trivial, ?_⟩
          cbv
          rw [e1]
          (repeat' (first | exact True.intro | exact Same.refl _ | exact SameB.refl _ | exact ⟨rfl⟩ | exact Same.int rfl | exact Same.str rfl | exact Same.bool rfl | (refine Same.int ?_; simp only [List.length_append, List.length_cons, List.length_nil, zi]; omega) | (refine SameB.row' rfl fun i hi => ?_; first | rfl | exact absurd hi (Nat.not_lt_zero _)) | refine And.intro ?_ ?_ | refine SameB.cells ?_ | exact SameC.nil | refine SameC.cons ?_ ?_ | exact Same.nsl rfl | exact Same.tt rfl | exact Same.ff rfl))
        · have h3 : ¬ lastR (l .o) (e .o).path 10 = 1 := hn3 ▸ h3
          have e1 : g2 (e .o) (c .o) (l .o) = putMode (n2 .o) (g1 (e .o) (c .o) (l .o)) := by
            unfold g2 modeD; rw [if_neg h1, if_neg h2, if_neg h3, hn2]; rfl
          cbv
          refine ⟨(), trivial, ?_⟩
          cbv
          rw [e1]
          (repeat' (first | exact True.intro | exact Same.refl _ | exact SameB.refl _ | exact ⟨rfl⟩ | exact Same.int rfl | exact Same.str rfl | exact Same.bool rfl | (refine Same.int ?_; simp only [List.length_append, List.length_cons, List.length_nil, zi]; omega) | (refine SameB.row' rfl fun i hi => ?_; first | rfl | exact absurd hi (Nat.not_lt_zero _)) | refine And.intro ?_ ?_ | refine SameB.cells ?_ | exact SameC.nil | refine SameC.cons ?_ ?_ | exact Same.nsl rfl | exact Same.tt rfl | exact Same.ff rfl))
  cbv
  refine cut_rule (X := Unit) 1000 1000 [2, 3, 4, 6, 7] [3, 4, 6] (fun _ => .nil) (fun _ => .cons 7 (.cells (Meta.ch fun _ => deg1 (e .o) (c .o) (l .o))) .nil) (fun _ => True) ?_ fun _ _ => ?_
  · cbv
    refine br_dec (fun h1 => ?_) (fun h1 => ?_)
    · have h1 : (e .o).kind = 3 := h1
      have e1 : deg1 (e .o) (c .o) (l .o) = putMode 511 (g2 (e .o) (c .o) (l .o)) := (g3_eq _ _ _).trans (if_pos h1)
      cbv
      refine ⟨(), trivial, ?_⟩
      cbv
      rw [e1]
      (repeat' (first | exact True.intro | exact Same.refl _ | exact SameB.refl _ | exact ⟨rfl⟩ | exact Same.int rfl | exact Same.str rfl | exact Same.bool rfl | (refine Same.int ?_; simp only [List.length_append, List.length_cons, List.length_nil, zi]; omega) | (refine SameB.row' rfl fun i hi => ?_; first | rfl | exact absurd hi (Nat.not_lt_zero _)) | refine And.intro ?_ ?_ | refine SameB.cells ?_ | exact SameC.nil | refine SameC.cons ?_ ?_ | exact Same.nsl rfl | exact Same.tt rfl | exact Same.ff rfl))
    · have h1 : ¬ (e .o).kind = 3 := h1
      have e1 : deg1 (e .o) (c .o) (l .o) = g2 (e .o) (c .o) (l .o) := (g3_eq _ _ _).trans (if_neg h1)
      cbv
      refine ⟨(), trivial, ?_⟩
      cbv
      rw [e1]
      (repeat' (first | exact True.intro | exact Same.refl _ | exact SameB.refl _ | exact ⟨rfl⟩ | exact Same.int rfl | exact Same.str rfl | exact Same.bool rfl | (refine Same.int ?_; simp only [List.length_append, List.length_cons, List.length_nil, zi]; omega) | (refine SameB.row' rfl fun i hi => ?_; first | rfl | exact absurd hi (Nat.not_lt_zero _)) | refine And.intro ?_ ?_ | refine SameB.cells ?_ | exact SameC.nil | refine SameC.cons ?_ ?_ | exact Same.nsl rfl | exact Same.tt rfl | exact Same.ff rfl))
  cbv
  refine cut_rule (X := Unit) 1000 1000 [2, 3, 4, 6, 7] [3, 4, 6] (fun _ => .nil) (fun _ => .cons 7 (.cells (Meta.ch fun _ => deg2 (e .o) (c .o) (l .o))) .nil) (fun _ => True) ?_ fun _ _ => ?_
  · cbv
    refine res21_c l (fun _ => (e .o).path) (fun _ => 4) h.len fun n hn => ?_
    cbv
    refine br_dec (fun h1 => ?_) (fun h1 => ?_)
    · have h1 : lastR (l .o) (e .o).path 4 = 1 := hn ▸ h1
      have e1 : deg2 (e .o) (c .o) (l .o) = putAcl (e .o) (deg1 (e .o) (c .o) (l .o)) := if_pos h1
      cbv
      refine ⟨(), trivial, ?_⟩
      cbv
      rw [e1]
      (repeat' (first | exact True.intro | exact Same.refl _ | exact SameB.refl _ | exact ⟨rfl⟩ | exact Same.int rfl | exact Same.str rfl | exact Same.bool rfl | (refine Same.int ?_; simp only [List.length_append, List.length_cons, List.length_nil, zi]; omega) | (refine SameB.row' rfl fun i hi => ?_; first | rfl | exact absurd hi (Nat.not_lt_zero _)) | refine And.intro ?_ ?_ | refine SameB.cells ?_ | exact SameC.nil | refine SameC.cons ?_ ?_ | exact Same.nsl rfl | exact Same.tt rfl | exact Same.ff rfl))
    · have h1 : ¬ lastR (l .o) (e .o).path 4 = 1 := hn ▸ h1
      have e1 : deg2 (e .o) (c .o) (l .o) = deg1 (e .o) (c .o) (l .o) := if_neg h1
      cbv
      refine ⟨(), trivial, ?_⟩
      cbv
      rw [e1]
      (repeat' (first | exact True.intro | exact Same.refl _ | exact SameB.refl _ | exact ⟨rfl⟩ | exact Same.int rfl | exact Same.str rfl | exact Same.bool rfl | (refine Same.int ?_; simp only [List.length_append, List.length_cons, List.length_nil, zi]; omega) | (refine SameB.row' rfl fun i hi => ?_; first | rfl | exact absurd hi (Nat.not_lt_zero _)) | refine And.intro ?_ ?_ | refine SameB.cells ?_ | exact SameC.nil | refine SameC.cons ?_ ?_ | exact Same.nsl rfl | exact Same.tt rfl | exact Same.ff rfl))
  cbv
  refine cut_rule (X := Unit) 1000 1000 [2, 3, 4, 6, 7] [3, 4, 6] (fun _ => .nil) (fun _ => .cons 7 (.cells (Meta.ch fun _ => deg3 (e .o) (c .o) (l .o))) .nil) (fun _ => True) ?_ fun _ _ => ?_
  · cbv
    refine res21_c l (fun _ => (e .o).path) (fun _ => 5) h.len fun n hn => ?_
    cbv
    refine br_dec (fun h1 => ?_) (fun h1 => ?_)
    · have h1 : lastR (l .o) (e .o).path 5 = 1 := hn ▸ h1
      have e1 : deg3 (e .o) (c .o) (l .o) = putDflt (e .o) (deg2 (e .o) (c .o) (l .o)) := if_pos h1
      cbv
      refine ⟨(), trivial, ?_⟩
      cbv
      rw [e1]
      (repeat' (first | exact True.intro | exact Same.refl _ | exact SameB.refl _ | exact ⟨rfl⟩ | exact Same.int rfl | exact Same.str rfl | exact Same.bool rfl | (refine Same.int ?_; simp only [List.length_append, List.length_cons, List.length_nil, zi]; omega) | (refine SameB.row' rfl fun i hi => ?_; first | rfl | exact absurd hi (Nat.not_lt_zero _)) | refine And.intro ?_ ?_ | refine SameB.cells ?_ | exact SameC.nil | refine SameC.cons ?_ ?_ | exact Same.nsl rfl | exact Same.tt rfl | exact Same.ff rfl))
    · have h1 : ¬ lastR (l .o) (e .o).path 5 = 1 := hn ▸ h1
      have e1 : deg3 (e .o) (c .o) (l .o) = deg2 (e .o) (c .o) (l .o) := if_neg h1
      cbv
      refine ⟨(), trivial, ?_⟩
      cbv
      rw [e1]
      (repeat' (first | exact True.intro | exact Same.refl _ | exact SameB.refl _ | exact ⟨rfl⟩ | exact Same.int rfl | exact Same.str rfl | exact Same.bool rfl | (refine Same.int ?_; simp only [List.length_append, List.length_cons, List.length_nil, zi]; omega) | (refine SameB.row' rfl fun i hi => ?_; first | rfl | exact absurd hi (Nat.not_lt_zero _)) | refine And.intro ?_ ?_ | refine SameB.cells ?_ | exact SameC.nil | refine SameC.cons ?_ ?_ | exact Same.nsl rfl | exact Same.tt rfl | exact Same.ff rfl))
  cbv
  refine cut_rule (X := Unit) 1000 1000 [2, 3, 4, 6, 7] [3, 4, 6] (fun _ => .nil) (fun _ => .cons 7 (.cells (Meta.ch fun _ => deg4 (e .o) (c .o) (l .o))) .nil) (fun _ => True) ?_ fun _ _ => ?_
  · cbv
    refine res21_c l (fun _ => (e .o).path) (fun _ => 6) h.len fun n hn => ?_
    cbv
    refine br_dec (fun h1 => ?_) (fun h1 => ?_)
    · have h1 : lastR (l .o) (e .o).path 6 = 1 := hn ▸ h1
      have e1 : deg4 (e .o) (c .o) (l .o) = putXs (e .o).mt.xs (deg3 (e .o) (c .o) (l .o)) := if_pos h1
      cbv
      refine ⟨(), trivial, ?_⟩
      cbv
      rw [e1]
      (repeat' (first | exact True.intro | exact Same.refl _ | exact SameB.refl _ | exact ⟨rfl⟩ | exact Same.int rfl | exact Same.str rfl | exact Same.bool rfl | (refine Same.int ?_; simp only [List.length_append, List.length_cons, List.length_nil, zi]; omega) | (refine SameB.row' rfl fun i hi => ?_; first | rfl | exact absurd hi (Nat.not_lt_zero _)) | refine And.intro ?_ ?_ | refine SameB.cells ?_ | exact SameC.nil | refine SameC.cons ?_ ?_ | exact Same.nsl rfl | exact Same.tt rfl | exact Same.ff rfl))
    · have h1 : ¬ lastR (l .o) (e .o).path 6 = 1 := hn ▸ h1
      cbv
      refine br_dec (fun h2 => ?_) (fun h2 => ?_)
      · have h2 : lastR (l .o) (e .o).path 6 = 2 := hn ▸ h2
        have e1 : deg4 (e .o) (c .o) (l .o) = putXs (fewerS (e .o).mt.xs) (deg3 (e .o) (c .o) (l .o)) := (if_neg h1).trans (if_pos h2)
        cbv
        refine fewer21_c (fun _ => (e .o).mt.xs) h.xs fun q hq => ?_
        cbv
        refine ⟨(), trivial, ?_⟩
        cbv
        rw [e1]
        rw [hq]
        (repeat' (first | exact True.intro | exact Same.refl _ | exact SameB.refl _ | exact ⟨rfl⟩ | exact Same.int rfl | exact Same.str rfl | exact Same.bool rfl | (refine Same.int ?_; simp only [List.length_append, List.length_cons, List.length_nil, zi]; omega) | (refine SameB.row' rfl fun i hi => ?_; first | rfl | exact absurd hi (Nat.not_lt_zero _)) | refine And.intro ?_ ?_ | refine SameB.cells ?_ | exact SameC.nil | refine SameC.cons ?_ ?_ | exact Same.nsl rfl | exact Same.tt rfl | exact Same.ff rfl))
      · have h2 : ¬ lastR (l .o) (e .o).path 6 = 2 := hn ▸ h2
        have e1 : deg4 (e .o) (c .o) (l .o) = deg3 (e .o) (c .o) (l .o) := (if_neg h1).trans (if_neg h2)
        cbv
        refine ⟨(), trivial, ?_⟩
        cbv
        rw [e1]
        (repeat' (first | exact True.intro | exact Same.refl _ | exact SameB.refl _ | exact ⟨rfl⟩ | exact Same.int rfl | exact Same.str rfl | exact Same.bool rfl | (refine Same.int ?_; simp only [List.length_append, List.length_cons, List.length_nil, zi]; omega) | (refine SameB.row' rfl fun i hi => ?_; first | rfl | exact absurd hi (Nat.not_lt_zero _)) | refine And.intro ?_ ?_ | refine SameB.cells ?_ | exact SameC.nil | refine SameC.cons ?_ ?_ | exact Same.nsl rfl | exact Same.tt rfl | exact Same.ff rfl))
  cbv
  refine cut_rule (X := Unit) 1000 1000 [2, 3, 4, 6, 7] [3, 4, 6] (fun _ => .nil) (fun _ => .cons 7 (.cells (Meta.ch fun _ => deg5 (e .o) (c .o) (l .o))) .nil) (fun _ => True) ?_ fun _ _ => ?_
  · cbv
    refine res21_c l (fun _ => (e .o).path) (fun _ => 7) h.len fun n hn => ?_
    cbv
    refine br_dec (fun h1 => ?_) (fun h1 => ?_)
    · have h1 : lastR (l .o) (e .o).path 7 = 1 := hn ▸ h1
      have e1 : deg5 (e .o) (c .o) (l .o) = putCaps (e .o) (deg4 (e .o) (c .o) (l .o)) := if_pos h1
      cbv
      refine ⟨(), trivial, ?_⟩
      cbv
      rw [e1]
      (repeat' (first | exact True.intro | exact Same.refl _ | exact SameB.refl _ | exact ⟨rfl⟩ | exact Same.int rfl | exact Same.str rfl | exact Same.bool rfl | (refine Same.int ?_; simp only [List.length_append, List.length_cons, List.length_nil, zi]; omega) | (refine SameB.row' rfl fun i hi => ?_; first | rfl | exact absurd hi (Nat.not_lt_zero _)) | refine And.intro ?_ ?_ | refine SameB.cells ?_ | exact SameC.nil | refine SameC.cons ?_ ?_ | exact Same.nsl rfl | exact Same.tt rfl | exact Same.ff rfl))
    · have h1 : ¬ lastR (l .o) (e .o).path 7 = 1 := hn ▸ h1
      have e1 : deg5 (e .o) (c .o) (l .o) = deg4 (e .o) (c .o) (l .o) := if_neg h1
      cbv
      refine ⟨(), trivial, ?_⟩
      cbv
      rw [e1]
      (repeat' (first | exact True.intro | exact Same.refl _ | exact SameB.refl _ | exact ⟨rfl⟩ | exact Same.int rfl | exact Same.str rfl | exact Same.bool rfl | (refine Same.int ?_; simp only [List.length_append, List.length_cons, List.length_nil, zi]; omega) | (refine SameB.row' rfl fun i hi => ?_; first | rfl | exact absurd hi (Nat.not_lt_zero _)) | refine And.intro ?_ ?_ | refine SameB.cells ?_ | exact SameC.nil | refine SameC.cons ?_ ?_ | exact Same.nsl rfl | exact Same.tt rfl | exact Same.ff rfl))
  cbv
  refine cut_rule (X := Unit) 1000 1000 [2, 3, 4, 6, 7] [3, 4, 6] (fun _ => .nil) (fun _ => .cons 7 (.cells (Meta.ch fun _ => deg6 (e .o) (c .o) (l .o))) .nil) (fun _ => True) ?_ fun _ _ => ?_
  · cbv
    refine res21_c l (fun _ => (e .o).path) (fun _ => 8) h.len fun n hn => ?_
    cbv
    refine br_dec (fun h1 => ?_) (fun h1 => ?_)
    · have h1 : lastR (l .o) (e .o).path 8 = 1 := hn ▸ h1
      have e1 : deg6 (e .o) (c .o) (l .o) = putTime (e .o) (deg5 (e .o) (c .o) (l .o)) := if_pos h1
      cbv
      refine ⟨(), trivial, ?_⟩
      cbv
      rw [e1]
      (repeat' (first | exact True.intro | exact Same.refl _ | exact SameB.refl _ | exact ⟨rfl⟩ | exact Same.int rfl | exact Same.str rfl | exact Same.bool rfl | (refine Same.int ?_; simp only [List.length_append, List.length_cons, List.length_nil, zi]; omega) | (refine SameB.row' rfl fun i hi => ?_; first | rfl | exact absurd hi (Nat.not_lt_zero _)) | refine And.intro ?_ ?_ | refine SameB.cells ?_ | exact SameC.nil | refine SameC.cons ?_ ?_ | exact Same.nsl rfl | exact Same.tt rfl | exact Same.ff rfl))
    · have h1 : ¬ lastR (l .o) (e .o).path 8 = 1 := hn ▸ h1
      have e1 : deg6 (e .o) (c .o) (l .o) = deg5 (e .o) (c .o) (l .o) := if_neg h1
      cbv
      refine ⟨(), trivial, ?_⟩
      cbv
      rw [e1]
      (repeat' (first | exact True.intro | exact Same.refl _ | exact SameB.refl _ | exact ⟨rfl⟩ | exact Same.int rfl | exact Same.str rfl | exact Same.bool rfl | (refine Same.int ?_; simp only [List.length_append, List.length_cons, List.length_nil, zi]; omega) | (refine SameB.row' rfl fun i hi => ?_; first | rfl | exact absurd hi (Nat.not_lt_zero _)) | refine And.intro ?_ ?_ | refine SameB.cells ?_ | exact SameC.nil | refine SameC.cons ?_ ?_ | exact Same.nsl rfl | exact Same.tt rfl | exact Same.ff rfl))
  cbv
  refine cut_rule (X := Unit) 1000 1000 [2, 3, 4, 6, 7] [3, 4, 6] (fun _ => .nil) (fun _ => .cons 7 (.cells (Meta.ch fun _ => degS (e .o) (c .o) (l .o))) .nil) (fun _ => True) ?_ fun _ _ => ?_
  · cbv
    refine res21_c l (fun _ => (e .o).path) (fun _ => 9) h.len fun n hn => ?_
    cbv
    refine br_dec (fun h1 => ?_) (fun h1 => ?_)
    · have h1 : lastR (l .o) (e .o).path 9 = 1 := hn ▸ h1
      have e1 : degS (e .o) (c .o) (l .o) = putFlags (e .o).mt.flags (deg6 (e .o) (c .o) (l .o)) := if_pos h1
      cbv
      refine ⟨(), trivial, ?_⟩
      cbv
      rw [e1]
      (repeat' (first | exact True.intro | exact Same.refl _ | exact SameB.refl _ | exact ⟨rfl⟩ | exact Same.int rfl | exact Same.str rfl | exact Same.bool rfl | (refine Same.int ?_; simp only [List.length_append, List.length_cons, List.length_nil, zi]; omega) | (refine SameB.row' rfl fun i hi => ?_; first | rfl | exact absurd hi (Nat.not_lt_zero _)) | refine And.intro ?_ ?_ | refine SameB.cells ?_ | exact SameC.nil | refine SameC.cons ?_ ?_ | exact Same.nsl rfl | exact Same.tt rfl | exact Same.ff rfl))
    · have h1 : ¬ lastR (l .o) (e .o).path 9 = 1 := hn ▸ h1
      cbv
      refine br_dec (fun h2 => ?_) (fun h2 => ?_)
      · have h2 : lastR (l .o) (e .o).path 9 = 2 := hn ▸ h2
        have e1 : degS (e .o) (c .o) (l .o) = putFlags (band (e .o).mt.flags 12) (deg6 (e .o) (c .o) (l .o)) := (if_neg h1).trans (if_pos h2)
        cbv
        refine ⟨(), trivial, ?_⟩
        cbv
        rw [e1]
        rw [← h.flags]
        (repeat' (first | exact True.intro | exact Same.refl _ | exact SameB.refl _ | exact ⟨rfl⟩ | exact Same.int rfl | exact Same.str rfl | exact Same.bool rfl | (refine Same.int ?_; simp only [List.length_append, List.length_cons, List.length_nil, zi]; omega) | (refine SameB.row' rfl fun i hi => ?_; first | rfl | exact absurd hi (Nat.not_lt_zero _)) | refine And.intro ?_ ?_ | refine SameB.cells ?_ | exact SameC.nil | refine SameC.cons ?_ ?_ | exact Same.nsl rfl | exact Same.tt rfl | exact Same.ff rfl))
      · have h2 : ¬ lastR (l .o) (e .o).path 9 = 2 := hn ▸ h2
        have e1 : degS (e .o) (c .o) (l .o) = deg6 (e .o) (c .o) (l .o) := (if_neg h1).trans (if_neg h2)
        cbv
        refine ⟨(), trivial, ?_⟩
        cbv
        rw [e1]
        (repeat' (first | exact True.intro | exact Same.refl _ | exact SameB.refl _ | exact ⟨rfl⟩ | exact Same.int rfl | exact Same.str rfl | exact Same.bool rfl | (refine Same.int ?_; simp only [List.length_append, List.length_cons, List.length_nil, zi]; omega) | (refine SameB.row' rfl fun i hi => ?_; first | rfl | exact absurd hi (Nat.not_lt_zero _)) | refine And.intro ?_ ?_ | refine SameB.cells ?_ | exact SameC.nil | refine SameC.cons ?_ ?_ | exact Same.nsl rfl | exact Same.tt rfl | exact Same.ff rfl))
  cbv
  exact ⟨_, .ret (y := Meta.av fun _ => degS (e .o) (c .o) (l .o)) (Same.refl _), hr _ rfl⟩
end Go.Proofs.Ytgjlkcdnlndlnaa
