/- The law RightGroups, walked: it answers true whatever the numbers. -/
import Derived.Test.YteeikiekofopnaaAcl
namespace Go.Proofs.Yteeikiekofopnaa
open Go Go.Proofs.Yteeikiekofopnaa.Sx F
set_option linter.unusedVariables false
set_option linter.unusedSimpArgs false

/-- One more group. -/
def moreC (c : Cred) (g : Int) : Cred := { c with groups := c.groups ++ [g] }
theorem in_more {c : Cred} {g x : Int} (h : inS c x = true) : inS (moreC c g) x = true := by
  unfold inS at h ⊢
  rcases Bool.or_eq_true_iff.1 h with h | h
  · exact Bool.or_eq_true_iff.2 (.inl h)
  · exact Bool.or_eq_true_iff.2 (.inr (decide_eq_true (List.mem_append_left _ (of_decide_eq_true h))))
theorem in_new (c : Cred) (g : Int) : inS (moreC c g) g = true := by simp [inS, moreC]
def leP : Int ⊕ List Int → Int ⊕ List Int → Prop
  | .inl p, .inl q => p = q
  | .inr P, .inr Q => ∀ p ∈ P, p ∈ Q
  | _, _ => False
theorem goP_more (m : Meta) (c : Cred) (g mask : Int) : ∀ l : List Ace, leP (goP m c mask l) (goP m (moreC c g) mask l)
  | [] => by simp [goP, leP]
  | a :: r => by
    have ih := goP_more m c g mask r
    unfold goP
    by_cases q1 : a.tag = 2 ∧ a.id = c.uid
    · rw [if_pos q1, if_pos (show a.tag = 2 ∧ a.id = (moreC c g).uid from q1)]
      rfl
    · rw [if_neg q1, if_neg (show ¬ (a.tag = 2 ∧ a.id = (moreC c g).uid) from q1)]
      by_cases q2 : (a.tag = 3 ∧ inS c m.gid = true) ∨ (a.tag = 4 ∧ inS c a.id = true)
      · have q3 : (a.tag = 3 ∧ inS (moreC c g) m.gid = true) ∨ (a.tag = 4 ∧ inS (moreC c g) a.id = true) := by
          rcases q2 with ⟨h1, h2⟩ | ⟨h1, h2⟩
          · exact .inl ⟨h1, in_more h2⟩
          · exact .inr ⟨h1, in_more h2⟩
        rw [if_pos q2, if_pos q3]
        cases h1 : goP m c mask r <;> cases h2 : goP m (moreC c g) mask r <;> rw [h1, h2] at ih <;> simp only [leP] at ih ⊢
        · exact ih
        · intro p hp
          rcases List.mem_cons.1 hp with rfl | hp
          · simp
          · simp [ih p hp]
      · rw [if_neg q2]
        split
        · cases h1 : goP m c mask r <;> cases h2 : goP m (moreC c g) mask r <;> rw [h1, h2] at ih <;> simp only [leP] at ih ⊢
          · exact ih
          · intro p hp
            simp [ih p hp]
        · exact ih
/-- Is who asks in a group that the list means? -/
def meantS (m : Meta) (c : Cred) (l : List Ace) : Bool := l.any fun a => decide (a.tag = 4) && inS c a.id
theorem goP_meant {m : Meta} {c : Cred} {mask : Int} : ∀ l : List Ace, (∃ a ∈ l, (a.tag = 3 ∧ inS c m.gid = true) ∨ (a.tag = 4 ∧ inS c a.id = true)) → goP m c mask l ≠ .inr []
  | [], h => by obtain ⟨a, ha, _⟩ := h; simp at ha
  | a :: r, h => by
    unfold goP
    split
    · simp
    · rename_i q1
      split
      · split <;> simp
      · rename_i q2
        refine goP_meant r ?_
        obtain ⟨b, hb, hq⟩ := h
        rcases List.mem_cons.1 hb with rfl | hb
        · exact absurd hq q2
        · exact ⟨b, hb, hq⟩
theorem groups_law {m : Meta} {c : Cred} {g w : Int} (hg : Good (ofS m)) (h0 : 0 ≤ w) (h1 : w < 8) (hp : ¬ 0 < band c.powers 2)
    (hin : meantS m c m.acl = true ∨ inS c m.gid = true) (hcan : CanS m c w = true) : CanS m (moreC c g) w = true := by
  rw [CanS_rep hg h0 h1] at hcan ⊢
  have hp' : ¬ 0 < band (moreC c g).powers 2 := hp
  simp only [hp, hp', decide_false, Bool.false_or] at hcan ⊢
  obtain ⟨k, hk, _⟩ := mask_some hg
  have hex : ∃ a ∈ ofS m, (a.tag = 3 ∧ inS c m.gid = true) ∨ (a.tag = 4 ∧ inS c a.id = true) := by
    rcases hin with h | h
    · obtain ⟨a, ha, hq⟩ := List.any_eq_true.1 h
      simp only [Bool.and_eq_true, decide_eq_true_eq] at hq
      have hl : 0 < m.acl.length := List.length_pos_of_mem ha
      exact ⟨a, by unfold ofS; rw [if_pos hl]; exact ha, .inr hq⟩
    · obtain ⟨a, ha, hq⟩ := hg.grp
      exact ⟨a, ha, .inl ⟨hq, h⟩⟩
  have hne := goP_meant (mask := k) _ hex
  have hle := goP_more m c g k (ofS m)
  unfold repS at hcan ⊢
  rw [hk] at hcan ⊢
  simp only [Option.getD_some] at hcan ⊢
  by_cases hu : m.uid = c.uid
  · rw [if_pos hu] at hcan
    rw [if_pos (show m.uid = (moreC c g).uid from hu)]
    exact hcan
  · rw [if_neg hu] at hcan
    rw [if_neg (show ¬ m.uid = (moreC c g).uid from hu)]
    cases e1 : goP m c k (ofS m) with
    | inl p =>
      rw [e1] at hcan hle
      cases e2 : goP m (moreC c g) k (ofS m) with
      | inl q => rw [e2] at hle; obtain rfl : p = q := hle; exact hcan
      | inr Q => rw [e2] at hle; exact hle.elim
    | inr P =>
      rw [e1] at hcan hle hne
      cases P with
      | nil => exact absurd rfl hne
      | cons p P =>
        cases e2 : goP m (moreC c g) k (ofS m) with
        | inl q => rw [e2] at hle; exact hle.elim
        | inr Q =>
          rw [e2] at hle
          have hle : ∀ x ∈ p :: P, x ∈ Q := hle
          obtain ⟨x, hx, hxw⟩ := List.any_eq_true.1 hcan
          cases Q with
          | nil => exact absurd (hle x hx) (by simp)
          | cons q Q => exact List.any_eq_true.2 ⟨x, hle x hx, hxw⟩

theorem rightGroups_c (ns cs : Th (List Int)) (g w : Th Int) (hns : isBytes (ns .o)) (hs1 : (ns .o).length ≤ 140737488355328) (hcs : isBytes (cs .o)) (hs2 : (cs .o).length ≤ 140737488355328) (hgb : 0 ≤ g .o ∧ g .o < 256) (hw : 0 ≤ w .o ∧ w .o < 256) :
    CallAt PT l18_RightGroups [byteI ns, byteI cs, .int .u8 g, .int .u8 w] 9999 .nil Yes := by
  refine l18_RightGroups.of rfl rfl ?_
  cbv
  refine l14_c ns (fun _ => 1) hns hs1 fun m hm => ?_
  cbv
  refine cred_c cs hcs hs2 fun c hc => ?_
  (cbv; repeat (refine safe (by first | decide | (simp only [zi] at *; omega) | assumption) ?_; cbv))
  have hms := hm.short
  have hml := hm.len
  have hcsh : short (c .o).groups := by have := hc.len; unfold short; omega
  have w8 := rest8 hw
  have hg := hm.good
  have hb0 : ¬ 0 < band (c .o).powers 2 := by rw [hc.pw]; decide +kernel
  refine loop_at (X := Nat × Bool) 1000 [2, 9, 10, 11] [9, 10] (fun _ x => .cons 12 (.bool fun _ => x.2) (.cons 13 (.int .i64 fun _ => zi x.1) .nil)) (fun _ _ => .nil) (fun x => x.1 ≤ (m .o).acl.length ∧ x.2 = meantS (m .o) (c .o) ((m .o).acl.take x.1)) (fun x => (m .o).acl.length - x.1) (0, false) ?_ ⟨Nat.zero_le _, by simp [meantS]⟩ ?_
  · cbv
    (repeat' (first | exact True.intro | exact Same.refl _ | exact SameB.refl _ | exact ⟨rfl⟩ | exact Same.int rfl | exact Same.str rfl | exact Same.bool rfl | (refine Same.int ?_; simp only [List.length_append, List.length_cons, List.length_nil, zi]; omega) | (refine SameB.row' rfl fun i hi => ?_; first | rfl | exact absurd hi (Nat.not_lt_zero _)) | refine And.intro ?_ ?_))
    all_goals exact ff_bool
  · rintro ⟨k, b⟩ ⟨hk, hb⟩
    dsimp only at hk hb
    cbv
    ((try refine br_rev ?_); (first | refine br_dec (fun h1 => ?_) (fun h1 => ?_) | refine br_ndec (fun h1 => ?_) (fun h1 => ?_) | refine br_nbool (fun h1 => ?_) (fun h1 => ?_) | refine br_bool (fun h1 => ?_) (fun h1 => ?_)); all_goals (try dsimp only at h1); all_goals (try with_reducible replace h1 := zi_lt.1 h1); all_goals (try with_reducible replace h1 := not_zlt h1)) <;> cbv
    · have succ := zi_succ (k := k) (by omega)
      have hstep : meantS (m .o) (c .o) ((m .o).acl.take (k + 1)) = (b || (decide (((m .o).acl.getD k Ace.z).tag = 4) && inS (c .o) ((m .o).acl.getD k Ace.z).id)) := by
        rw [hb]
        unfold meantS
        rw [List.take_add_one, List.any_append, List.getD_eq_getElem?_getD, List.getElem?_eq_getElem h1]
        simp
      have next : ∀ b' : Bool, b' = (b || (decide (((m .o).acl.getD k Ace.z).tag = 4) && inS (c .o) ((m .o).acl.getD k Ace.z).id)) → k + 1 ≤ (m .o).acl.length ∧ b' = meantS (m .o) (c .o) ((m .o).acl.take (k + 1)) := fun b' q => ⟨h1, q.trans hstep.symm⟩
      refine br_rev (br_bool (fun h2 => ?_) (fun h2 => ?_))
      · replace h2 : b = true := h2
        cbv
        refine ⟨(k + 1, true), next true (by rw [h2]; rfl), by show _ - (k + 1) < _ - k; omega, ?_⟩
        cbv
        (repeat' (first | exact True.intro | exact Same.refl _ | exact SameB.refl _ | exact ⟨rfl⟩ | exact Same.int rfl | exact Same.str rfl | exact Same.bool rfl | (refine Same.int ?_; simp only [List.length_append, List.length_cons, List.length_nil, zi]; omega) | (refine SameB.row' rfl fun i hi => ?_; first | rfl | exact absurd hi (Nat.not_lt_zero _)) | refine And.intro ?_ ?_))
        all_goals first | exact Same.int succ | exact Same.tt rfl
      · replace h2 : b = false := h2
        cbv
        refine safe ⟨zi_nonneg _, zi_lt.2 h1⟩ ?_
        have hz : (zi (k, b).1).toNat = k := zi_toNat k
        ((try refine br_rev ?_); (first | refine br_dec (fun h3 => ?_) (fun h3 => ?_) | refine br_ndec (fun h3 => ?_) (fun h3 => ?_) | refine br_nbool (fun h3 => ?_) (fun h3 => ?_) | refine br_bool (fun h3 => ?_) (fun h3 => ?_)); all_goals (try dsimp only at h3); all_goals (try with_reducible replace h3 := zi_lt.1 h3); all_goals (try with_reducible replace h3 := not_zlt h3))
        · replace h3 : ((m .o).acl.getD k Ace.z).tag = 4 := by rw [← h3]; show _ = ((m .o).acl.getD (zi (k, b).1).toNat Ace.z).tag; rw [hz]
          cbv
          refine safe ⟨zi_nonneg _, zi_lt.2 h1⟩ ?_
          refine in_c c (fun _ => ((m .o).acl.getD (zi (k, b).1).toNat Ace.z).id) hcsh fun b' hb' => ?_
          cbv
          refine ⟨(k + 1, b' .o), next _ (by rw [hb', h2, h3]; show inS (c .o) ((m .o).acl.getD (zi (k, b).1).toNat Ace.z).id = _; rw [hz]; simp), by show _ - (k + 1) < _ - k; omega, ?_⟩
          cbv
          (repeat' (first | exact True.intro | exact Same.refl _ | exact SameB.refl _ | exact ⟨rfl⟩ | exact Same.int rfl | exact Same.str rfl | exact Same.bool rfl | (refine Same.int ?_; simp only [List.length_append, List.length_cons, List.length_nil, zi]; omega) | (refine SameB.row' rfl fun i hi => ?_; first | rfl | exact absurd hi (Nat.not_lt_zero _)) | refine And.intro ?_ ?_))
          all_goals first | exact Same.int succ | exact Same.bool rfl
        · replace h3 : ¬ ((m .o).acl.getD k Ace.z).tag = 4 := fun q => h3 (by show ((m .o).acl.getD (zi (k, b).1).toNat Ace.z).tag = 4; rw [hz]; exact q)
          cbv
          refine ⟨(k + 1, false), next false (by rw [h2, decide_eq_false h3]; rfl), by show _ - (k + 1) < _ - k; omega, ?_⟩
          cbv
          (repeat' (first | exact True.intro | exact Same.refl _ | exact SameB.refl _ | exact ⟨rfl⟩ | exact Same.int rfl | exact Same.str rfl | exact Same.bool rfl | (refine Same.int ?_; simp only [List.length_append, List.length_cons, List.length_nil, zi]; omega) | (refine SameB.row' rfl fun i hi => ?_; first | rfl | exact absurd hi (Nat.not_lt_zero _)) | refine And.intro ?_ ?_))
          all_goals first | exact Same.int succ | exact Same.ff rfl
    · have hb : b = meantS (m .o) (c .o) (m .o).acl := by rw [hb, List.take_of_length_le (by omega)]
      have hg16 := rest_of hgb (m := 16) (by decide)
      have hmsh : short (moreC (c .o) ((IntKind.i64.wrap (g .o)).tmod 16)).groups := by
        have := hc.len
        unfold short moreC
        simp only [List.length_append, List.length_cons, List.length_nil]
        omega
      have law : (meantS (m .o) (c .o) (m .o).acl = true ∨ inS (c .o) (m .o).gid = true) → CanS (m .o) (c .o) ((IntKind.i64.wrap (w .o)).tmod 8) = true → CanS (m .o) (moreC (c .o) ((IntKind.i64.wrap (g .o)).tmod 16)) ((IntKind.i64.wrap (w .o)).tmod 8) = true :=
        fun h1 h2 => groups_law hg w8.1 w8.2 hb0 h1 h2
      refine br_rev (br_bool (fun h2 => ?_) (fun h2 => ?_))
      focus
        replace h2 : b = true := h2
        have hin : meantS (m .o) (c .o) (m .o).acl = true ∨ inS (c .o) (m .o).gid = true := .inl (hb.symm.trans h2)
        cbv
      rotate_left
      focus
        replace h2 : b = false := h2
        cbv
        refine in_c c (fun _ => (m .o).gid) hcsh fun b1 hb1 => ?_
        cbv
      all_goals
        refine app_rows0 intCh 0 (c .o).groups rfl rfl (fun i hi => rfl) (by have := hc.len; omega) ?_
        (cbv; repeat (refine safe (by first | decide | (simp only [zi] at *; omega) | assumption) ?_; cbv))
        refine app_one intCh 0 (c .o).groups ((IntKind.i64.wrap (g .o)).tmod 16) rfl (fun i hi => rfl) rfl rfl (by have := hc.len; omega) ?_
        cbv
      focus
        refine br_rev (br_nbool (fun h4 => ?_) (fun h4 => ?_))
        rotate_left
        focus
          have hin : meantS (m .o) (c .o) (m .o).acl = true ∨ inS (c .o) (m .o).gid = true := .inr (hb1.symm.trans h4)
          cbv
        rotate_left
        focus cbv
      all_goals try (
        refine Can_c m c (fun _ => (IntKind.i64.wrap (w .o)).tmod 8) hms hcsh fun b2 hb2 => ?_
        cbv
        refine br_rev (br_nbool (fun h3 => ?_) (fun h3 => ?_))
        rotate_left
        focus
          cbv
          refine Can_c m (fun _ => moreC (c .o) ((IntKind.i64.wrap (g .o)).tmod 16)) (fun _ => (IntKind.i64.wrap (w .o)).tmod 8) hms hmsh fun b3 hb3 => ?_
          cbv
          refine br_is (hb3.trans (law hin (hb2.symm.trans h3))) ?_
          cbv
        rotate_left
        focus cbv)
      all_goals
        refine safe (by decide) ?_
        refine in_c (fun _ => moreC (c .o) ((IntKind.i64.wrap (g .o)).tmod 16)) (fun _ => (IntKind.i64.wrap (g .o)).tmod 16) hmsh fun b5 hb5 => ?_
        cbv
        refine br_is (hb5.trans (in_new _ _)) ?_
        cbv
        refine awake_c fun b6 hb6 => ?_
        cbv
        exact ⟨b6, rfl, hb6⟩
end Go.Proofs.Yteeikiekofopnaa
