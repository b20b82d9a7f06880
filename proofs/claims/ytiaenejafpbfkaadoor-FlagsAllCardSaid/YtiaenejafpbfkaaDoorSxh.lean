/- A symbolic executor for the model's code: every operation does as the model does. -/
import Derived.Test.YtiaenejafpbfkaaDoorSxg
namespace Go.Proofs.YtiaenejafpbfkaaDoor.Sx
open Go
set_option linter.unusedSimpArgs false
set_option linter.unusedVariables false

section
variable {E : Env} {s : St} {a : Act} {P : Program}

/-- Resolved parts of a struct, or of a row: place, size, operand. -/
def rParts (place : Nat → Option (Nat × Nat)) : List (Nat × Operand) → Option (List (Nat × Nat × Opd))
  | [] => some []
  | (i, x) :: r => match place i, rOpd x, rParts place r with
    | some (o, n), some x, some q => some ((o, n, x) :: q)
    | _, _, _ => none

theorem zipIdx_fold (l : List Value) : ∀ (off k : Nat) (cs : Array Value), off + k + l.length ≤ cs.size →
    ((l.zipIdx k).foldl (fun (cs : Array Value) (p : Value × Nat) => cs.setIfInBounds (off + p.2) p.1) cs).toList = cs.toList.take (off + k) ++ l ++ cs.toList.drop (off + k + l.length) := by
  induction l with
  | nil => intro off k cs _; simp
  | cons v r ih =>
    intro off k cs h
    simp only [List.length_cons] at h
    simp only [List.zipIdx_cons, List.foldl_cons]
    rw [ih off (k + 1) _ (by simp; omega)]
    have e := list_seg_step cs.toList (off + k) v r (by simp; omega)
    simpa [Array.toList_setIfInBounds, Nat.add_assoc, Nat.add_comm, Nat.add_left_comm] using e

theorem fill_sound (hS : SI E s a) {place : Nat → Option (Nat × Nat)} : ∀ (ps : List (Nat × Operand)) (qs : List (Nat × Nat × Opd)) (z c : AV) (cs : Array Value), rParts place ps = some qs → ListC E z cs.toList → fillc s z qs = some c →
    ∃ cs', Instr.fill place cs (ps.map fun p => (p.1, a.eval p.2)) = some cs' ∧ ListC E c cs'.toList ∧ (∀ y, c.locs y → z.locs y ∨ ∃ x ∈ qs, (x.2.2.ev s).locs y)
  | [], qs, z, c, cs, h, hz, hf => by
    cases h
    cases hf
    exact ⟨cs, rfl, hz, fun y hy => .inl hy⟩
  | (i, x) :: r, qs, z, c, cs, h, hz, hf => by
    unfold rParts at h
    split at h
    · rename_i o n x' q hp hx hq
      cases h
      unfold fillc at hf
      split at hf
      · rename_i vc hvc
        split at hf
        · rename_i hlen
          split at hf
          · rename_i z' hov
            obtain ⟨h1, _, h3⟩ := cells_sound (opd_sound hS hx) hvc
            obtain ⟨h4, h5, h6⟩ := over_sound z o vc z' _ _ hz h1 hov
            have hl1 := listC_len h1
            have hn : (a.eval x).cells.size = n := by
              have : vc.len = n := by simpa using hlen
              rw [← this, ← hl1]; simp
            have hfold := zipIdx_fold (a.eval x).cells.toList o 0 cs (by simpa using h4)
            simp only [Nat.add_zero] at hfold
            obtain ⟨cs', h7, h8, h9⟩ := fill_sound hS r q z' c (((a.eval x).cells.toList.zipIdx 0).foldl (fun (cs : Array Value) (p : Value × Nat) => cs.setIfInBounds (o + p.2) p.1) cs) hq (by rw [hfold]; exact h5) hf
            refine ⟨cs', ?_, h8, fun y hy => ?_⟩
            · rw [← h7]
              simp only [List.map_cons, Instr.fill, hp]
              rw [if_neg (by simp [hn]; simp at h4; omega)]
              congr 1
              rw [← Array.foldl_toList]
              simp
            · rcases h9 y hy with h | ⟨w, hw, hwl⟩
              · rcases h6 y h with h | h
                · exact .inl h
                · exact .inr ⟨(o, n, x'), by simp, (h3 y).1 h⟩
              · exact .inr ⟨w, by simp [hw], hwl⟩
          · cases hf
        · cases hf
      · cases hf
    · cases h

theorem opd_locs {N : Nat} {E0 : Env} {B0 : BL} (h : Rel N E0 B0 E s a) {x : Operand} {y : Opd} (hx : rOpd x = some y) {z : Nat} (hz : (y.ev s).locs z) : s.b.liveAt z := by
  unfold rOpd at hx
  split at hx
  · cases hx; exact h.tn _ _ hz
  · rename_i v
    cases hc : cval v with
    | none => simp [hc] at hx
    | some c => simp [hc] at hx; subst hx; exact ((AV.still_locs _).1 (cval_sound (E := E) hc).2 z hz).elim
  · cases hx; simp [Opd.ev, AV.locs] at hz
  · cases hx

theorem opds_locs {N : Nat} {E0 : Env} {B0 : BL} (h : Rel N E0 B0 E s a) {z : Nat} : ∀ (l : List Operand) (m : List Opd), rOpds l = some m → (chain (evs s m)).locs z → s.b.liveAt z
  | [], m, hm, hz => by cases hm; exact hz.elim
  | x :: r, m, hm, hz => by
    unfold rOpds at hm
    split at hm
    · rename_i y q hy hq
      cases hm
      rcases hz with hz | hz
      · exact opd_locs h hy hz
      · exact opds_locs h r q hq hz
    · cases hm

theorem parts_locs {N : Nat} {E0 : Env} {B0 : BL} (h : Rel N E0 B0 E s a) {place : Nat → Option (Nat × Nat)} : ∀ (ps : List (Nat × Operand)) (qs : List (Nat × Nat × Opd)), rParts place ps = some qs → ∀ x ∈ qs, ∀ z, (x.2.2.ev s).locs z → s.b.liveAt z
  | [], qs, hq, x, hx, z, hz => by cases hq; simp at hx
  | (i, y) :: r, qs, hq, x, hx, z, hz => by
    unfold rParts at hq
    split at hq
    · rename_i o n x' q hp hy hq'
      cases hq
      rcases List.mem_cons.1 hx with rfl | hx
      · exact opd_locs h hy hz
      · exact parts_locs h r q hq' x hx z hz
    · cases hq

theorem nth_locs : ∀ (n : Nat) (c x : AV), c.nth n = some x → ∀ y, x.locs y → c.locs y
  | 0, .cons a t, x, h, y, hy => by simp only [AV.nth, Option.some.injEq] at h; subst h; exact .inl hy
  | n + 1, .cons a t, x, h, y, hy => .inr (nth_locs n t x h y hy)
  | n, .nil, x, h, y, hy | n, .any, x, h, y, hy | n, .int _ _, x, h, y, hy | n, .bool _, x, h, y, hy | n, .tt, x, h, y, hy | n, .ff, x, h, y, hy | n, .str _, x, h, y, hy | n, .sl _ _ _, x, h, y, hy | n, .nsl, x, h, y, hy
  | n, .row _, x, h, y, hy | n, .ptr _ _, x, h, y, hy | n, .iptr _, x, h, y, hy | n, .rptr _ _ _ _, x, h, y, hy | n, .win _ _ _ _, x, h, y, hy | n, .nptr, x, h, y, hy | n, .fn _ _ _, x, h, y, hy | n, .nfn, x, h, y, hy | n, .nif, x, h, y, hy
  | n, .ifc _ _, x, h, y, hy | n, .agg _, x, h, y, hy | n, .tup _, x, h, y, hy => by cases n <;> simp [AV.nth] at h
theorem drop_locs : ∀ (n : Nat) (c : AV) (y : Nat), (c.drop n).locs y → c.locs y
  | 0, c, y, h => by unfold AV.drop at h; exact h
  | n + 1, .cons a t, y, h => .inr (drop_locs n t y h)
  | n + 1, .nil, y, h | n + 1, .any, y, h | n + 1, .int _ _, y, h | n + 1, .bool _, y, h | n + 1, .tt, y, h | n + 1, .ff, y, h | n + 1, .str _, y, h | n + 1, .sl _ _ _, y, h | n + 1, .nsl, y, h
  | n + 1, .row _, y, h | n + 1, .ptr _ _, y, h | n + 1, .iptr _, y, h | n + 1, .rptr _ _ _ _, y, h | n + 1, .win _ _ _ _, y, h | n + 1, .nptr, y, h | n + 1, .fn _ _ _, y, h | n + 1, .nfn, y, h | n + 1, .nif, y, h
  | n + 1, .ifc _ _, y, h | n + 1, .agg _, y, h | n + 1, .tup _, y, h => h
theorem take_locs : ∀ (n : Nat) (c r : AV), c.take n = some r → ∀ y, r.locs y → c.locs y
  | 0, c, r, h, y, hy => by
    have : r = .nil := by cases c <;> simp [AV.take] at h <;> exact h.symm
    subst this; exact hy.elim
  | n + 1, .cons a t, r, h, y, hy => by
    simp only [AV.take] at h
    split at h
    · rename_i r' hr
      cases h
      rcases hy with hy | hy
      · exact .inl hy
      · exact .inr (take_locs n t r' hr y hy)
    · cases h
  | n + 1, .nil, r, h, y, hy | n + 1, .any, r, h, y, hy | n + 1, .int _ _, r, h, y, hy | n + 1, .bool _, r, h, y, hy | n + 1, .tt, r, h, y, hy | n + 1, .ff, r, h, y, hy | n + 1, .str _, r, h, y, hy | n + 1, .sl _ _ _, r, h, y, hy | n + 1, .nsl, r, h, y, hy
  | n + 1, .row _, r, h, y, hy | n + 1, .ptr _ _, r, h, y, hy | n + 1, .iptr _, r, h, y, hy | n + 1, .rptr _ _ _ _, r, h, y, hy | n + 1, .win _ _ _ _, r, h, y, hy | n + 1, .nptr, r, h, y, hy | n + 1, .fn _ _ _, r, h, y, hy | n + 1, .nfn, r, h, y, hy | n + 1, .nif, r, h, y, hy
  | n + 1, .ifc _ _, r, h, y, hy | n + 1, .agg _, r, h, y, hy | n + 1, .tup _, r, h, y, hy => by simp [AV.take] at h

theorem first_locs {c x : AV} (h : first c = some x) (y : Nat) (hy : x.locs y) : c.locs y := nth_locs 0 c x h y hy
theorem takeA_locs {n : Nat} {c x : AV} (h : takeA n c = some x) (y : Nat) (hy : x.locs y) : c.locs y := by
  unfold takeA at h
  split at h
  · rename_i r hr; cases h; exact take_locs n c r hr y hy
  · cases h

theorem bl_locs {x : AV} {b : Th Bool} (h : x.bl = some b) (y : Nat) : ¬ x.locs y := by
  cases x <;> simp [AV.bl] at h <;> exact fun h => h

theorem aload_locs {N : Nat} {E0 : Env} {B0 : BL} (h : Rel N E0 B0 E s a) {f : AV → Option AV} (hf : ∀ c v, f c = some v → ∀ y, v.locs y → c.locs y) {x v : AV} (hx : ∀ y, x.locs y → s.b.liveAt y) (hg : (aload f s x).gives v) {z : Nat} (hz : v.locs z) : s.b.liveAt z := by
  unfold aload at hg
  split at hg
  · rename_i c
    rw [okO_gives] at hg
    exact hx z (hf c v hg z hz)
  · rename_i d o
    split at hg
    · rename_i c hb
      rw [okO_gives] at hg
      exact h.inv.nm d z (by rw [hb]; exact drop_locs o c z (hf _ v hg z hz))
    · exact (gives_bad.1 hg).elim
  · rename_i d sz i o
    split at hg
    · rename_i sz' n g hb
      split at hg
      · split at hg
        · rename_i u hu
          obtain ⟨rfl, hi⟩ := gives_cond.1 hg
          have hB := h.inv.blk d
          rw [hb] at hB
          rcases hB with ⟨_, h0⟩ | ⟨cap, cur, e, _, _, _, _, _, h6⟩
          · rw [h0] at hi; exact absurd hi (Nat.not_lt_zero _)
          have := (h6 (i .o) hi).1.1
          exact ((AV.still_locs _).1 this z (drop_locs o _ z (hf _ u hu z hz))).elim
        · exact (gives_bad.1 hg).elim
      · exact (gives_bad.1 hg).elim
    · exact (gives_bad.1 hg).elim
  · exact (gives_bad.1 hg).elim

theorem amms_locs {mx : Bool} {z : Nat} : ∀ (l : List AV) (x v : AV), amms mx x l = some v → v.locs z → x.locs z
  | [], x, v, h, hz => by cases h; exact hz
  | y :: l, x, v, h, hz => by
    unfold amms at h
    split at h
    · rename_i u hu
      have := amms_locs l u v h hz
      unfold amm at hu
      split at hu
      · cases hu; exact this.elim
      · cases hu
    · cases h

end

end Go.Proofs.YtiaenejafpbfkaaDoor.Sx
