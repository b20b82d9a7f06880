/- Who can what: the law of lists, in plain Lean. -/
import Derived.Test.YtgjlkcdnlndlnaaMkm
import Derived.Test.YtgjlkcdnlndlnaaModes
namespace Go.Proofs.Ytgjlkcdnlndlnaa
open Go Go.Proofs.Ytgjlkcdnlndlnaa.Sx F
set_option linter.unusedVariables false
set_option linter.unusedSimpArgs false

structure Good (l : List Ace) : Prop where
  perm : ∀ a ∈ l, 0 ≤ a.perm ∧ a.perm < 8
  own : ∃ a ∈ l, a.tag = 1
  grp : ∃ a ∈ l, a.tag = 3
  oth : ∃ a ∈ l, a.tag = 6

theorem mem_addS {a x : Ace} : ∀ {l : List Ace}, x ∈ addS a l → x = a ∨ x ∈ l
  | [], h => by simp [addS] at h; exact .inl h
  | y :: r, h => by
    unfold addS at h
    split at h
    · rcases List.mem_cons.1 h with h | h
      · exact .inr (by simp [h])
      · rcases mem_addS h with h | h
        · exact .inl h
        · exact .inr (by simp [h])
    · split at h
      · rcases List.mem_cons.1 h with h | h
        · exact .inl h
        · exact .inr (by simp [h])
      · rcases List.mem_cons.1 h with h | h
        · exact .inl h
        · exact .inr h
theorem accS_perm {ns : List Int} (hns : isBytes ns) : ∀ k, (∀ a ∈ (accS ns k).1, (0 ≤ a.perm ∧ a.perm < 8) ∧ a.tag = 2) ∧ ∀ a ∈ (accS ns k).2, (0 ≤ a.perm ∧ a.perm < 8) ∧ a.tag = 4
  | 0 => by simp [accS]
  | k + 1 => by
    obtain ⟨h1, h2⟩ := accS_perm hns k
    have hp : 0 ≤ (ns.getD (2 * k + 1) 0).tmod 8 ∧ (ns.getD (2 * k + 1) 0).tmod 8 < 8 := ⟨Int.tmod_nonneg _ (byte_at hns).1, Int.tmod_lt_of_pos _ (by decide)⟩
    unfold accS
    split
    · refine ⟨fun a ha => ?_, h2⟩
      rcases mem_addS ha with rfl | ha
      · exact ⟨hp, rfl⟩
      · exact h1 a ha
    · refine ⟨h1, fun a ha => ?_⟩
      rcases mem_addS ha with rfl | ha
      · exact ⟨hp, rfl⟩
      · exact h2 a ha
theorem bxor_8 {a b : Int} (ha : 0 ≤ a ∧ a < 8) (hb : 0 ≤ b ∧ b < 8) : 0 ≤ bxor a b ∧ bxor a b < 8 := by
  have : ∀ x y : Fin 8, 0 ≤ bxor (x.1 : Int) (y.1 : Int) ∧ bxor (x.1 : Int) (y.1 : Int) < 8 := by decide +kernel
  have := this ⟨a.toNat, by omega⟩ ⟨b.toNat, by omega⟩
  rwa [show ((⟨a.toNat, by omega⟩ : Fin 8).1 : Int) = a from Int.toNat_of_nonneg ha.1, show ((⟨b.toNat, by omega⟩ : Fin 8).1 : Int) = b from Int.toNat_of_nonneg hb.1] at this
theorem good_l9 {ns : List Int} (hns : isBytes ns) (m : Int) : Good (l9S ns m) := by
  obtain ⟨h1, h2⟩ := accS_perm hns (pairs ns)
  have hp : 0 ≤ (ns.getD 0 0).tmod 8 ∧ (ns.getD 0 0).tmod 8 < 8 := ⟨Int.tmod_nonneg _ (byte_at hns).1, Int.tmod_lt_of_pos _ (by decide)⟩
  unfold l9S
  dsimp only
  split
  · refine ⟨fun a ha => ?_, ⟨⟨1, 0, band (m.fdiv (2 ^ 6)) 7⟩, by simp, rfl⟩, ⟨⟨3, 0, band (m.fdiv (2 ^ 3)) 7⟩, by simp, rfl⟩, ⟨⟨6, 0, band m 7⟩, by simp, rfl⟩⟩
    simp only [List.mem_append, List.mem_cons, List.not_mem_nil, or_false] at ha
    rcases ha with (rfl | ha) | rfl | rfl
    · exact band_7 _
    · exact (h1 a ha).1
    · exact band_7 _
    · exact band_7 _
  · refine ⟨fun a ha => ?_, ⟨⟨1, 0, band (m.fdiv (2 ^ 6)) 7⟩, by simp, rfl⟩, ⟨⟨3, 0, bxor (band (m.fdiv (2 ^ 3)) 7) ((ns.getD 0 0).tmod 8)⟩, by simp, rfl⟩, ⟨⟨6, 0, band m 7⟩, by simp, rfl⟩⟩
    simp only [List.mem_append, List.mem_cons, List.not_mem_nil, or_false] at ha
    rcases ha with (((rfl | ha) | rfl) | ha) | rfl | rfl
    · exact band_7 _
    · exact (h1 a ha).1
    · exact bxor_8 (band_7 _) hp
    · exact (h2 a ha).1
    · exact band_7 _
    · exact band_7 _
theorem good_mode (m : Int) : Good (fromMode m) := by
  have h := band_le (x := m) (y := 511) (by decide) (by decide)
  refine ⟨fun a ha => ?_, ⟨_, .head _, rfl⟩, ⟨_, .tail _ (.head _), rfl⟩, ⟨_, .tail _ (.tail _ (.head _)), rfl⟩⟩
  simp only [fromMode, List.mem_cons, List.not_mem_nil, or_false] at ha
  rcases ha with rfl | rfl | rfl
  · show 0 ≤ (band m 511).fdiv 64 ∧ (band m 511).fdiv 64 < 8
    rw [Int.fdiv_eq_ediv_of_nonneg _ (by decide)]
    omega
  · exact band_7 _
  · exact band_7 _
theorem l9_len (ns : List Int) (m : Int) : (l9S ns m).length ≤ 17 := by
  have h := accS_len ns (pairs ns)
  have hp : pairs ns ≤ 6 := Nat.min_le_left _ _
  unfold l9S
  dsimp only
  split <;> simp only [List.length_append, List.length_cons, List.length_nil] <;> omega
theorem MadeM.good {ns : List Int} {m : Meta} (h : MadeM ns m) : Good (ofS m) := by
  unfold ofS
  split
  · rename_i hl
    rcases h.acl with h | ⟨ns', h1, h2⟩
    · rw [h] at hl; simp at hl
    · rw [h2]; exact good_l9 h1 _
  · exact good_mode _
theorem MadeM.len {ns : List Int} {m : Meta} (h : MadeM ns m) : m.acl.length ≤ 17 := by
  rcases h.acl with h | ⟨ns', h1, h2⟩
  · rw [h]; simp
  · rw [h2]; exact l9_len _ _
theorem MadeM.short {ns : List Int} {m : Meta} (h : MadeM ns m) : _root_.Go.Proofs.Ytgjlkcdnlndlnaa.short m.acl := Nat.le_trans h.len (by decide)

theorem perm_some {l : List Ace} (h : Good l) {t : Int} (ht : ∃ a ∈ l, a.tag = t) : ∃ p, permS l t = some p ∧ 0 ≤ p ∧ p < 8 := by
  obtain ⟨a, ha, hat⟩ := ht
  unfold permS
  cases hf : l.find? fun a => decide (a.tag = t) with
  | none => exact absurd (List.find?_eq_none.1 hf a ha) (by simp [hat])
  | some b => exact ⟨b.perm, rfl, h.perm b (List.mem_of_find?_eq_some hf)⟩
theorem mask_some {l : List Ace} (h : Good l) : ∃ p, maskS l = some p ∧ 0 ≤ p ∧ p < 8 := by
  unfold maskS
  split
  · rename_i hx
    rcases ixP_find (fun a : Ace => decide (a.tag = 5)) Ace.z l with ⟨h1, _⟩ | ⟨k, _, _, h3⟩
    · omega
    · refine perm_some h ⟨_, List.mem_of_find?_eq_some h3, by simpa using List.find?_some h3⟩
  · exact ⟨7, rfl, by decide, by decide⟩

/-- What the list says of who asks: a right of the one named, or those of the groups. -/
def goP (m : Meta) (c : Cred) (mask : Int) : List Ace → Int ⊕ List Int
  | [] => .inr []
  | a :: r =>
    if a.tag = 2 ∧ a.id = c.uid then .inl (band a.perm mask)
    else if (a.tag = 3 ∧ inS c m.gid = true) ∨ (a.tag = 4 ∧ inS c a.id = true) then
      match goP m c mask r with
      | .inl p => .inl p
      | .inr P => .inr (band a.perm mask :: P)
    else goP m c mask r
theorem goS_goP (m : Meta) (c : Cred) (w mask : Int) : ∀ (l : List Ace) (me any : Bool), goS m c w mask l me any = match goP m c mask l with
    | .inl p => .inl (hasS w p)
    | .inr P => .inr (me || !P.isEmpty, any || P.any (hasS w))
  | [], me, any => by simp [goS, goP]
  | a :: r, me, any => by
    unfold goS goP
    split
    · rfl
    · split
      · rw [goS_goP m c w mask r]
        split <;> simp_all [Bool.or_assoc]
      · exact goS_goP m c w mask r me any
/-- The rights of which one must do. -/
def repS (m : Meta) (c : Cred) : List Int :=
  if m.uid = c.uid then [(permS (ofS m) 1).getD 0] else
  match goP m c ((maskS (ofS m)).getD 0) (ofS m) with
  | .inl p => [p]
  | .inr [] => [(permS (ofS m) 6).getD 0]
  | .inr (p :: P) => p :: P
theorem canS_rep {m : Meta} {c : Cred} (h : Good (ofS m)) (w : Int) : canS m c w = some ((repS m c).any (hasS w)) := by
  obtain ⟨p1, h1, _⟩ := perm_some h h.own
  obtain ⟨p6, h6, _⟩ := perm_some h h.oth
  obtain ⟨k, hk, _⟩ := mask_some h
  unfold canS repS
  rw [h1, h6, hk]
  split
  · simp
  · rw [Option.bind_some, goS_goP]
    simp only [Option.getD_some]
    cases goP m c k (ofS m) with
    | inl p => simp
    | inr P => cases P <;> simp
def okP : Int ⊕ List Int → Prop
  | .inl p => 0 ≤ p ∧ p < 8
  | .inr P => ∀ p ∈ P, 0 ≤ p ∧ p < 8
theorem goP_perm {m : Meta} {c : Cred} {mask : Int} (h0 : 0 ≤ mask) (h1 : mask < 8) : ∀ l : List Ace, okP (goP m c mask l)
  | [] => by simp [goP, okP]
  | a :: r => by
    have ih := goP_perm (m := m) (c := c) h0 h1 r
    have hb := band_le (x := a.perm) (y := mask) h0 (by omega)
    unfold goP
    by_cases q1 : a.tag = 2 ∧ a.id = c.uid
    · rw [if_pos q1]
      show 0 ≤ band a.perm mask ∧ band a.perm mask < 8
      omega
    · rw [if_neg q1]
      by_cases q2 : (a.tag = 3 ∧ inS c m.gid = true) ∨ (a.tag = 4 ∧ inS c a.id = true)
      · rw [if_pos q2]
        cases hg : goP m c mask r with
        | inl p => rw [hg] at ih; exact ih
        | inr P =>
          rw [hg] at ih
          intro p hp
          rcases List.mem_cons.1 hp with rfl | hp
          · omega
          · exact ih p hp
      · rw [if_neg q2]
        exact ih
theorem repS_good {m : Meta} {c : Cred} (h : Good (ofS m)) : repS m c ≠ [] ∧ ∀ p ∈ repS m c, 0 ≤ p ∧ p < 8 := by
  obtain ⟨p1, h1, q1⟩ := perm_some h h.own
  obtain ⟨p6, h6, q6⟩ := perm_some h h.oth
  obtain ⟨k, hk, qk⟩ := mask_some h
  have hg := goP_perm (m := m) (c := c) qk.1 qk.2 (ofS m)
  unfold repS
  rw [h1, h6, hk]
  split
  · simpa using q1
  · simp only [Option.getD_some]
    cases hG : goP m c k (ofS m) with
    | inl p => rw [hG] at hg; simpa using (show 0 ≤ p ∧ p < 8 from hg)
    | inr P =>
      rw [hG] at hg
      cases P with
      | nil => simpa using q6
      | cons p P => exact ⟨by simp, hg⟩
theorem CanS_rep {m : Meta} {c : Cred} (h : Good (ofS m)) {w : Int} (h0 : 0 ≤ w) (h1 : w < 8) : CanS m c w = (decide (0 < band c.powers 2) || (repS m c).any (hasS w)) := by
  unfold CanS
  rw [canS_rep h]
  simp [show ¬ w < 0 by omega, show ¬ 7 < w by omega]

/-! ### bits of three -/
theorem fin88 {p : Int → Int → Prop} (h : ∀ n k : Fin 8, p (n.1 : Int) (k.1 : Int)) {n k : Int} (hn : 0 ≤ n ∧ n < 8) (hk : 0 ≤ k ∧ k < 8) : p n k :=
  fin8 (p := fun n => ∀ k, 0 ≤ k ∧ k < 8 → p n k) (fun n k hk => fin8 (p := p n.1) (fun k => h n k) hk.1 hk.2) hn.1 hn.2 k hk
def bor (a b : Int) : Int := abits .or .i64 a b
theorem bor_8 {a b : Int} (ha : 0 ≤ a ∧ a < 8) (hb : 0 ≤ b ∧ b < 8) : 0 ≤ bor a b ∧ bor a b < 8 :=
  fin88 (p := fun a b => 0 ≤ bor a b ∧ bor a b < 8) (by decide +kernel) ha hb
theorem has_or {a b p : Int} (ha : 0 ≤ a ∧ a < 8) (hb : 0 ≤ b ∧ b < 8) (hp : 0 ≤ p ∧ p < 8) : hasS (bor a b) p = true → hasS a p = true ∧ hasS b p = true :=
  fin88 (p := fun a b => hasS (bor a b) p = true → hasS a p = true ∧ hasS b p = true) (fun a b => fin8 (p := fun p => hasS (bor a.1 b.1) p = true → hasS a.1 p = true ∧ hasS b.1 p = true) (by
    have : ∀ a b p : Fin 8, hasS (bor (a.1 : Int) (b.1 : Int)) (p.1 : Int) = true → hasS (a.1 : Int) (p.1 : Int) = true ∧ hasS (b.1 : Int) (p.1 : Int) = true := by decide +kernel
    exact this a b) hp.1 hp.2) ha hb
theorem has_0 {p : Int} (hp : 0 ≤ p ∧ p < 8) : hasS 0 p = true := fin8 (p := fun p => hasS 0 p = true) (by decide +kernel) hp.1 hp.2
end Go.Proofs.Ytgjlkcdnlndlnaa
