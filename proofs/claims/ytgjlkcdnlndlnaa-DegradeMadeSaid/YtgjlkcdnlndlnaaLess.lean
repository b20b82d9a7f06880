/- right.Less, walked, and what it answers. -/
import Derived.Test.YtgjlkcdnlndlnaaAcl
namespace Go.Proofs.Ytgjlkcdnlndlnaa
open Go Go.Proofs.Ytgjlkcdnlndlnaa.Sx F
set_option linter.unusedVariables false
set_option linter.unusedSimpArgs false

def lessG (mask : Int) : List Ace → Int → Int → Int × Int
  | [], g, o => (g, o)
  | a :: r, g, o =>
    if a.tag = 2 then lessG mask r (band g (band a.perm mask)) (band o (band a.perm mask))
    else if a.tag = 4 then lessG mask r g (band o (band a.perm mask))
    else lessG mask r g o
def lessN (p g o : Int) : Int := bor (bor (IntKind.i64.wrap (p * 2 ^ 6)) (IntKind.i64.wrap (g * 2 ^ 3))) o
def lessO (l : List Ace) : Option Int :=
  (maskS l).bind fun mask => (permS l 3).bind fun g => (permS l 6).bind fun o => (permS l 1).map fun p =>
    lessN p (lessG mask l (band g mask) o).1 (lessG mask l (band g mask) o).2
def box1 (m : Th Meta) : BL := .cons 10000 (.cells (Meta.ch m)) .nil

theorem less1_c (m : Th Meta) (hm : short (m .o).acl) {d : Nat} {K : ARes → BL → Prop} (hr : ∀ n : Th Int, lessO (ofS (m .o)) = some (n .o) → K (.ret (.int .i64 n)) (box1 m))
    (hp : ∀ t, lessO (ofS (m .o)) = none → K (.pan (lacks t)) (box1 m)) : CallAt PT right_Less_1 [.ptr 10000 0] d (box1 m) K := by
  refine right_Less_1.of rfl rfl ?_
  cbv
  refine of_c m fun l hl => ?_
  have hls : short (l .o) := by rw [hl]; exact ofS_short hm
  rw [← hl] at hr hp
  cbv
  refine mask_c l hls (fun mk hmk => ?_) fun t ht => ?_
  rotate_left
  · cbv
    exact hp _ (by unfold lessO; rw [ht]; rfl)
  cbv
  refine perm_c l (fun _ => 3) hls (fun g hg => ?_) fun hg => ?_
  rotate_left
  · cbv
    exact hp _ (by unfold lessO; rw [hmk, show permS (l .o) 3 = none from hg]; rfl)
  have hg : permS (l .o) 3 = some (g .o) := hg
  cbv
  refine perm_c l (fun _ => 6) hls (fun o ho => ?_) fun ho => ?_
  rotate_left
  · cbv
    exact hp _ (by unfold lessO; rw [hmk, hg, show permS (l .o) 6 = none from ho]; rfl)
  have ho : permS (l .o) 6 = some (o .o) := ho
  cbv
  refine loop_rule (X := Nat × Int × Int) 1000 [0, 2, 3, 18, 19] [10000] (fun x => .cons 20 (.int .i64 fun _ => zi x.1) (.cons 4 (.int .i64 fun _ => x.2.1) (.cons 5 (.int .i64 fun _ => x.2.2) .nil))) (fun _ => .nil)
    (fun x => x.1 ≤ (l .o).length ∧ lessG (mk .o) (l .o) (band (g .o) (mk .o)) (o .o) = lessG (mk .o) ((l .o).drop x.1) x.2.1 x.2.2) (fun x => (l .o).length - x.1) (0, band (g .o) (mk .o), o .o) ?_ ⟨Nat.zero_le _, rfl⟩ ?_
  · cbv
    (repeat' (first | exact True.intro | exact Same.refl _ | exact SameB.refl _ | exact ⟨rfl⟩ | exact Same.int rfl | exact Same.str rfl | exact Same.bool rfl | (refine Same.int ?_; simp only [List.length_append, List.length_cons, List.length_nil, zi]; omega) | (refine SameB.row' rfl fun i hi => ?_; first | rfl | exact absurd hi (Nat.not_lt_zero _)) | refine And.intro ?_ ?_ | refine SameB.cells ?_ | exact SameC.nil | refine SameC.cons ?_ ?_ | exact Same.nsl rfl | exact Same.tt rfl | exact Same.ff rfl))
  · rintro ⟨k, gg, oo⟩ ⟨hk, hgo⟩
    dsimp only at hk hgo
    have succ := zi_succ (k := k) (by unfold short at hls; omega)
    cbv
    ((try refine br_rev ?_); (first | refine br_dec (fun h2 => ?_) (fun h2 => ?_) | refine br_ndec (fun h2 => ?_) (fun h2 => ?_) | refine br_nbool (fun h2 => ?_) (fun h2 => ?_) | refine br_bool (fun h2 => ?_) (fun h2 => ?_)); all_goals (try dsimp only at h2); all_goals (try with_reducible replace h2 := zi_lt.1 h2); all_goals (try with_reducible replace h2 := not_zlt h2)) <;> cbv
    · rw [drop_cons _ Ace.z _ h2] at hgo
      refine safe ⟨zi_nonneg _, zi_lt.2 h2⟩ ?_
      generalize hx : (l O1.o).getD ((fun x => (zi (k, gg, oo).fst).toNat) O1.o) Ace.z = a
      have hx : (l .o).getD k Ace.z = a := by rw [← hx]; show _ = (l .o).getD (zi k).toNat Ace.z; rw [zi_toNat]
      rw [hx] at hgo
      ((try refine br_rev ?_); (first | refine br_dec (fun h3 => ?_) (fun h3 => ?_) | refine br_ndec (fun h3 => ?_) (fun h3 => ?_) | refine br_nbool (fun h3 => ?_) (fun h3 => ?_) | refine br_bool (fun h3 => ?_) (fun h3 => ?_)); all_goals (try dsimp only at h3); all_goals (try with_reducible replace h3 := zi_lt.1 h3); all_goals (try with_reducible replace h3 := not_zlt h3)) <;> cbv
      · refine ⟨(k + 1, band gg (band a.perm (mk .o)), band oo (band a.perm (mk .o))), ⟨by show k + 1 ≤ _; omega, by show _ = lessG _ _ (band gg (band a.perm (mk .o))) (band oo (band a.perm (mk .o))); rw [hgo, lessG, if_pos h3]⟩, by show _ - (k + 1) < _ - k; omega, ?_⟩
        cbv
        (repeat' (first | exact True.intro | exact Same.refl _ | exact SameB.refl _ | exact ⟨rfl⟩ | exact Same.int rfl | exact Same.str rfl | exact Same.bool rfl | (refine Same.int ?_; simp only [List.length_append, List.length_cons, List.length_nil, zi]; omega) | (refine SameB.row' rfl fun i hi => ?_; first | rfl | exact absurd hi (Nat.not_lt_zero _)) | refine And.intro ?_ ?_ | refine SameB.cells ?_ | exact SameC.nil | refine SameC.cons ?_ ?_ | exact Same.nsl rfl | exact Same.tt rfl | exact Same.ff rfl))
        all_goals exact Same.int succ
      · ((try refine br_rev ?_); (first | refine br_dec (fun h4 => ?_) (fun h4 => ?_) | refine br_ndec (fun h4 => ?_) (fun h4 => ?_) | refine br_nbool (fun h4 => ?_) (fun h4 => ?_) | refine br_bool (fun h4 => ?_) (fun h4 => ?_)); all_goals (try dsimp only at h4); all_goals (try with_reducible replace h4 := zi_lt.1 h4); all_goals (try with_reducible replace h4 := not_zlt h4)) <;> cbv
        · refine ⟨(k + 1, gg, band oo (band a.perm (mk .o))), ⟨by show k + 1 ≤ _; omega, by show _ = lessG _ _ gg (band oo (band a.perm (mk .o))); rw [hgo, lessG, if_neg h3, if_pos h4]⟩, by show _ - (k + 1) < _ - k; omega, ?_⟩
          cbv
          (repeat' (first | exact True.intro | exact Same.refl _ | exact SameB.refl _ | exact ⟨rfl⟩ | exact Same.int rfl | exact Same.str rfl | exact Same.bool rfl | (refine Same.int ?_; simp only [List.length_append, List.length_cons, List.length_nil, zi]; omega) | (refine SameB.row' rfl fun i hi => ?_; first | rfl | exact absurd hi (Nat.not_lt_zero _)) | refine And.intro ?_ ?_ | refine SameB.cells ?_ | exact SameC.nil | refine SameC.cons ?_ ?_ | exact Same.nsl rfl | exact Same.tt rfl | exact Same.ff rfl))
          all_goals exact Same.int succ
        · refine ⟨(k + 1, gg, oo), ⟨by show k + 1 ≤ _; omega, by show _ = lessG _ _ gg oo; rw [hgo, lessG, if_neg h3, if_neg h4]⟩, by show _ - (k + 1) < _ - k; omega, ?_⟩
          cbv
          (repeat' (first | exact True.intro | exact Same.refl _ | exact SameB.refl _ | exact ⟨rfl⟩ | exact Same.int rfl | exact Same.str rfl | exact Same.bool rfl | (refine Same.int ?_; simp only [List.length_append, List.length_cons, List.length_nil, zi]; omega) | (refine SameB.row' rfl fun i hi => ?_; first | rfl | exact absurd hi (Nat.not_lt_zero _)) | refine And.intro ?_ ?_ | refine SameB.cells ?_ | exact SameC.nil | refine SameC.cons ?_ ?_ | exact Same.nsl rfl | exact Same.tt rfl | exact Same.ff rfl))
          all_goals exact Same.int succ
    · rw [List.drop_eq_nil_of_le (by omega)] at hgo
      refine perm_c l (fun _ => 1) hls (fun p hp1 => ?_) fun hp1 => ?_
      · have hp1 : permS (l .o) 1 = some (p .o) := hp1
        (cbv; repeat (refine safe (by first | decide | (simp only [zi] at *; omega) | assumption | (dsimp only; omega) | (dsimp only at *; simp only [List.length_append, List.length_cons, List.length_nil, zi] at *; omega)) ?_; cbv))
        exact hr _ (by unfold lessO; rw [hmk, hg, ho, hp1]; show some _ = _; rw [hgo]; rfl)
      · cbv
        exact hp _ (by unfold lessO; rw [hmk, hg, ho, show permS (l .o) 1 = none from hp1]; rfl)

theorem lookid_none_c (b : Th Int) {K : BL → Prop} (h : K (.cons 10000 (.cells (.cons (.int .i64 b) .nil)) .nil)) : DefAt PT right_look_int_1 false [.nif, .ptr 10000 0] (.cons 10000 (.cells (.cons (.int .i64 b) .nil)) .nil) K := by
  refine right_look_int_1.of rfl rfl (fun _ => rfl) ?_
  cbv
  exact h
theorem lookid_some_c (t : Th Int) {K : BL → Prop} (h : K (.cons 10000 (.cells (.cons (.int .i64 fun _ => 0) .nil)) .nil)) : DefAt PT right_look_int_1 true [lacks t, .ptr 10000 0] (.cons 10000 (.cells (.cons (.int .i64 fun _ => 0) .nil)) .nil) K := by
  refine right_look_int_1.of rfl rfl (fun h => by cases h) ?_
  cbv
  exact h
theorem look_less_c (m : Th Meta) (hm : short (m .o).acl) {d : Nat} {K : ARes → BL → Prop} (hr : ∀ n : Th Int, n .o = (lessO (ofS (m .o))).getD 0 → K (.ret (.int .i64 n)) (box1 m)) :
    CallAt PT right_look_int [.fn (.func right_Less_1) .nil (.cons (.ptr 10000 0) .nil)] d (box1 m) K := by
  refine CallAt.res ?_
  refine right_look_int.of rfl rfl ?_
  cbv
  refine CallAt.frameP [(10000, 10000)] [.ptr 10000 0] (by kernel_rfl) rfl fun K1 hK1 => ?_
  cbv
  refine less1_c m hm (fun b hb => hK1 _ _ ?_) fun t ht => hK1 _ _ ?_
  · cbv
    refine DefAt.use [(10000, 2)] [.nif, .ptr 10000 0] (by kernel_rfl) rfl (lookid_none_c b ?_)
    cbv
    refine ⟨_, .ret (.refl _), hr b ?_⟩
    rw [hb]; rfl
  · cbv
    refine DefAt.use [(10000, 2)] [lacks t, .ptr 10000 0] (by kernel_rfl) rfl (lookid_some_c t ?_)
    cbv
    refine ⟨_, .ret (.refl _), hr (fun _ => 0) ?_⟩
    rw [ht]; rfl
def LessS (m : Meta) : Int := (lessO (ofS m)).getD 0
theorem Less_c (m : Th Meta) (hm : short (m .o).acl) {d : Nat} {K : ARes → BL → Prop} (hr : ∀ n : Th Int, n .o = LessS (m .o) → K (.ret (.int .i64 n)) .nil) :
    CallAt PT right_Less [Meta.av m] d .nil K := by
  refine right_Less.of rfl rfl ?_
  cbv
  refine CallAt.frameP [(10000, 1)] [.fn (.func right_Less_1) .nil (.cons (.ptr 10000 0) .nil)] (by kernel_rfl) rfl fun K1 hK1 => ?_
  cbv
  refine look_less_c m hm fun n hn => hK1 _ _ ?_
  cbv
  exact hr n hn

/-! ### what it answers of good lists -/
theorem fin888 {p : Int → Int → Int → Prop} (h : ∀ n k j : Fin 8, p (n.1 : Int) (k.1 : Int) (j.1 : Int)) {n k j : Int} (hn : 0 ≤ n ∧ n < 8) (hk : 0 ≤ k ∧ k < 8) (hj : 0 ≤ j ∧ j < 8) : p n k j :=
  fin88 (p := fun n k => ∀ j, 0 ≤ j ∧ j < 8 → p n k j) (fun n k j hj => fin8 (p := p n.1 k.1) (fun j => h n k j) hj.1 hj.2) hn hk j hj
/-- What a right may, another may. -/
def sub (x y : Int) : Prop := ∀ w, 0 ≤ w → w < 8 → hasS w x = true → hasS w y = true
theorem sub_refl (x : Int) : sub x x := fun _ _ _ h => h
theorem sub_trans {x y z : Int} (h1 : sub x y) (h2 : sub y z) : sub x z := fun w a b h => h2 w a b (h1 w a b h)
theorem band_8 {a b : Int} (ha : 0 ≤ a ∧ a < 8) (hb : 0 ≤ b ∧ b < 8) : 0 ≤ band a b ∧ band a b < 8 := fin88 (p := fun a b => 0 ≤ band a b ∧ band a b < 8) (by decide +kernel) ha hb
theorem sub_l {a b : Int} (ha : 0 ≤ a ∧ a < 8) (hb : 0 ≤ b ∧ b < 8) : sub (band a b) a := fun w h0 h1 =>
  fin888 (p := fun a b w => hasS w (band a b) = true → hasS w a = true) (by decide +kernel) ha hb ⟨h0, h1⟩
theorem sub_r {a b : Int} (ha : 0 ≤ a ∧ a < 8) (hb : 0 ≤ b ∧ b < 8) : sub (band a b) b := fun w h0 h1 =>
  fin888 (p := fun a b w => hasS w (band a b) = true → hasS w b = true) (by decide +kernel) ha hb ⟨h0, h1⟩
structure LessOk (mask : Int) (l : List Ace) (g o : Int) (x : Int × Int) : Prop where
  r1 : 0 ≤ x.1 ∧ x.1 < 8
  r2 : 0 ≤ x.2 ∧ x.2 < 8
  g : sub x.1 g
  o : sub x.2 o
  u : ∀ a ∈ l, a.tag = 2 → sub x.1 (band a.perm mask) ∧ sub x.2 (band a.perm mask)
  n : ∀ a ∈ l, a.tag = 4 → sub x.2 (band a.perm mask)
theorem lessG_ok {mask : Int} (hm : 0 ≤ mask ∧ mask < 8) : ∀ (l : List Ace) (g o : Int), (∀ a ∈ l, 0 ≤ a.perm ∧ a.perm < 8) → 0 ≤ g ∧ g < 8 → 0 ≤ o ∧ o < 8 → LessOk mask l g o (lessG mask l g o)
  | [], g, o, _, hg, ho => ⟨hg, ho, sub_refl _, sub_refl _, by simp, by simp⟩
  | a :: r, g, o, hl, hg, ho => by
    have ha := hl a (by simp)
    have hr := fun x hx => hl x (List.mem_cons_of_mem a hx)
    have hb := band_8 ha hm
    unfold lessG
    by_cases h2 : a.tag = 2
    · rw [if_pos h2]
      have ih := lessG_ok hm r _ _ hr (band_8 hg hb) (band_8 ho hb)
      refine ⟨ih.r1, ih.r2, sub_trans ih.g (sub_l hg hb), sub_trans ih.o (sub_l ho hb), fun x hx ht => ?_, fun x hx ht => ?_⟩
      · rcases List.mem_cons.1 hx with rfl | hx
        · exact ⟨sub_trans ih.g (sub_r hg hb), sub_trans ih.o (sub_r ho hb)⟩
        · exact ih.u x hx ht
      · rcases List.mem_cons.1 hx with rfl | hx
        · omega
        · exact ih.n x hx ht
    · rw [if_neg h2]
      by_cases h4 : a.tag = 4
      · rw [if_pos h4]
        have ih := lessG_ok hm r _ _ hr hg (band_8 ho hb)
        refine ⟨ih.r1, ih.r2, ih.g, sub_trans ih.o (sub_l ho hb), fun x hx ht => ?_, fun x hx ht => ?_⟩
        · rcases List.mem_cons.1 hx with rfl | hx
          · exact absurd ht h2
          · exact ih.u x hx ht
        · rcases List.mem_cons.1 hx with rfl | hx
          · exact sub_trans ih.o (sub_r ho hb)
          · exact ih.n x hx ht
      · rw [if_neg h4]
        have ih := lessG_ok hm r _ _ hr hg ho
        refine ⟨ih.r1, ih.r2, ih.g, ih.o, fun x hx ht => ?_, fun x hx ht => ?_⟩
        · rcases List.mem_cons.1 hx with rfl | hx
          · exact absurd ht h2
          · exact ih.u x hx ht
        · rcases List.mem_cons.1 hx with rfl | hx
          · exact absurd ht h4
          · exact ih.n x hx ht
theorem lessN_eq {p g o : Int} (hp : 0 ≤ p ∧ p < 8) (hg : 0 ≤ g ∧ g < 8) (ho : 0 ≤ o ∧ o < 8) : lessN p g o = 64 * p + 8 * g + o :=
  fin888 (p := fun p g o => lessN p g o = 64 * p + 8 * g + o) (by decide +kernel) hp hg ho
theorem fin512 {p : Int → Prop} (h : ∀ n : Fin 512, p (n.1 : Int)) {n : Int} (h0 : 0 ≤ n) (h1 : n < 512) : p n := by
  have := h ⟨n.toNat, by omega⟩
  rwa [show ((⟨n.toNat, by omega⟩ : Fin 512).1 : Int) = n from Int.toNat_of_nonneg h0] at this
theorem goP_inl {m : Meta} {c : Cred} {mask p : Int} : ∀ {l : List Ace}, goP m c mask l = .inl p → ∃ a ∈ l, a.tag = 2 ∧ p = band a.perm mask
  | [], h => by simp [goP] at h
  | a :: r, h => by
    unfold goP at h
    by_cases q1 : a.tag = 2 ∧ a.id = c.uid
    · rw [if_pos q1] at h
      exact ⟨a, by simp, q1.1, by injection h with h; exact h.symm⟩
    · rw [if_neg q1] at h
      have ih : goP m c mask r = .inl p → ∃ b ∈ a :: r, b.tag = 2 ∧ p = band b.perm mask := fun q => by
        obtain ⟨b, hb, hh⟩ := goP_inl q
        exact ⟨b, by simp [hb], hh⟩
      split at h
      · cases hg : goP m c mask r with
        | inl q => rw [hg] at h; exact ih (by rw [hg]; exact h)
        | inr Q => rw [hg] at h; cases h
      · exact ih h
theorem goP_mem {m : Meta} {c : Cred} {mask : Int} : ∀ {l : List Ace} {P : List Int}, goP m c mask l = .inr P →
    (∀ a ∈ l, (a.tag = 3 ∧ inS c m.gid = true) ∨ (a.tag = 4 ∧ inS c a.id = true) → band a.perm mask ∈ P) ∧ (inS c m.gid = false → ∀ p ∈ P, ∃ a ∈ l, a.tag = 4 ∧ p = band a.perm mask)
  | [], P, h => by
    simp [goP] at h
    subst h
    simp
  | a :: r, P, h => by
    unfold goP at h
    by_cases q1 : a.tag = 2 ∧ a.id = c.uid
    · rw [if_pos q1] at h; cases h
    · rw [if_neg q1] at h
      by_cases q2 : (a.tag = 3 ∧ inS c m.gid = true) ∨ (a.tag = 4 ∧ inS c a.id = true)
      · rw [if_pos q2] at h
        cases hg : goP m c mask r with
        | inl q => rw [hg] at h; cases h
        | inr Q =>
          rw [hg] at h
          injection h with h
          subst h
          obtain ⟨i1, i2⟩ := goP_mem hg
          refine ⟨fun b hb hq => ?_, fun hi p hp => ?_⟩
          · rcases List.mem_cons.1 hb with rfl | hb
            · simp
            · simp [i1 b hb hq]
          · rcases List.mem_cons.1 hp with rfl | hp
            · rcases q2 with q2 | q2
              · rw [hi] at q2; simp at q2
              · exact ⟨a, by simp, q2.1, rfl⟩
            · obtain ⟨b, hb, hh⟩ := i2 hi p hp
              exact ⟨b, by simp [hb], hh⟩
      · rw [if_neg q2] at h
        obtain ⟨i1, i2⟩ := goP_mem h
        refine ⟨fun b hb hq => ?_, fun hi p hp => ?_⟩
        · rcases List.mem_cons.1 hb with rfl | hb
          · exact absurd hq q2
          · exact i1 b hb hq
        · obtain ⟨b, hb, hh⟩ := i2 hi p hp
          exact ⟨b, by simp [hb], hh⟩
theorem perm_mem {l : List Ace} {t p : Int} (h : permS l t = some p) : ∃ a ∈ l, a.tag = t ∧ p = a.perm := by
  unfold permS at h
  cases hf : l.find? fun a => decide (a.tag = t) with
  | none => rw [hf] at h; cases h
  | some b =>
    rw [hf] at h
    injection h with h
    exact ⟨b, List.mem_of_find?_eq_some hf, by simpa using List.find?_some hf, h.symm⟩
/-- The mode that gives nobody more. -/
theorem less_law {m : Meta} (h : Good (ofS m)) : (0 ≤ LessS m ∧ LessS m < 512) ∧
    (∀ (c : Cred) (w : Int), 0 ≤ w → w < 8 → ¬ 0 < band c.powers 2 → CanS { m with acl := [], mode := LessS m } c w = true → CanS m c w = true) := by
  obtain ⟨p1, h1, q1⟩ := perm_some h h.own
  obtain ⟨p3, h3, q3⟩ := perm_some h h.grp
  obtain ⟨p6, h6, q6⟩ := perm_some h h.oth
  obtain ⟨k, hk, qk⟩ := mask_some h
  have hx := lessG_ok qk (ofS m) (band p3 k) p6 h.perm (band_8 q3 qk) q6
  have he : LessS m = 64 * p1 + 8 * (lessG k (ofS m) (band p3 k) p6).1 + (lessG k (ofS m) (band p3 k) p6).2 := by
    unfold LessS lessO
    rw [hk, h3, h6, h1]
    exact lessN_eq q1 hx.r1 hx.r2
  generalize lessG k (ofS m) (band p3 k) p6 = x at hx he
  obtain ⟨x1, x2⟩ := x
  have r1 := hx.r1
  have r2 := hx.r2
  dsimp only at he r1 r2
  refine ⟨by omega, fun c w h0 w1 hp hcan => ?_⟩
  have hgn : Good (ofS { m with acl := [], mode := LessS m }) := good_mode _
  rw [CanS_rep hgn h0 w1] at hcan
  rw [CanS_rep h h0 w1]
  simp only [hp, decide_false, Bool.false_or] at hcan ⊢
  have e1 : (band (LessS m) 511).fdiv (2 ^ 6) = p1 := by
    rw [band_511 (by omega) (by omega), show ((2 : Int) ^ 6) = 64 from rfl, Int.fdiv_eq_ediv_of_nonneg _ (by decide)]
    omega
  have e2 : band ((band (LessS m) 511).fdiv (2 ^ 3)) 7 = x1 := by
    have : ∀ n : Int, 0 ≤ n → n < 512 → band (n.fdiv (2 ^ 3)) 7 = n / 8 % 8 := fun n h0 h1 => fin512 (p := fun n => band (n.fdiv (2 ^ 3)) 7 = n / 8 % 8) (by decide +kernel) h0 h1
    rw [band_511 (by omega) (by omega), this _ (by omega) (by omega)]
    omega
  have e3 : band (band (LessS m) 511) 7 = x2 := by
    have : ∀ n : Int, 0 ≤ n → n < 512 → band n 7 = n % 8 := fun n h0 h1 => fin512 (p := fun n => band n 7 = n % 8) (by decide +kernel) h0 h1
    rw [band_511 (by omega) (by omega), this _ (by omega) (by omega)]
    omega
  have hof : ofS { m with acl := [], mode := LessS m } = [⟨1, 0, p1⟩, ⟨3, 0, x1⟩, ⟨6, 0, x2⟩] := by
    unfold ofS
    simp only [List.length_nil, Nat.lt_irrefl, if_false]
    unfold fromMode
    rw [e1, e2, e3]
  have hb7 : band x1 7 = x1 := fin8 (p := fun n => band n 7 = n) (by decide +kernel) r1.1 r1.2
  obtain ⟨v, hv, hvw⟩ := List.any_eq_true.1 hcan
  unfold repS at hv ⊢
  rw [hof] at hv
  rw [hk, h1, h6]
  dsimp only at hv
  by_cases hu : m.uid = c.uid
  · rw [if_pos hu] at hv ⊢
    simp [permS] at hv
    subst hv
    simpa using hvw
  · rw [if_neg hu] at hv ⊢
    simp only [Option.getD_some]
    -- whatever the mode gives, each of the rights that count gives
    by_cases hi : inS c m.gid = true
    · have hv : v = x1 := by
        simpa [goP, maskS, ixP, permS, hi, hb7] using hv
      subst hv
      cases hG : goP m c k (ofS m) with
      | inl p =>
        obtain ⟨a, ha, ht, rfl⟩ := goP_inl hG
        simpa using (hx.u a ha ht).1 w h0 w1 hvw
      | inr P =>
        obtain ⟨i1, _⟩ := goP_mem hG
        obtain ⟨a, ha, ht, rfl⟩ := perm_mem h3
        have hm := i1 a ha (.inl ⟨ht, hi⟩)
        cases P with
        | nil => simp at hm
        | cons p P => exact List.any_eq_true.2 ⟨_, hm, hx.g w h0 w1 hvw⟩
    · have hi : inS c m.gid = false := by simpa using hi
      have hv : v = x2 := by
        simpa [goP, maskS, ixP, permS, hi] using hv
      subst hv
      cases hG : goP m c k (ofS m) with
      | inl p =>
        obtain ⟨a, ha, ht, rfl⟩ := goP_inl hG
        simpa using (hx.u a ha ht).2 w h0 w1 hvw
      | inr P =>
        obtain ⟨_, i2⟩ := goP_mem hG
        cases P with
        | nil => simpa using hx.o w h0 w1 hvw
        | cons p P =>
          obtain ⟨a, ha, ht, he⟩ := i2 hi p (by simp)
          exact List.any_eq_true.2 ⟨p, by simp, by rw [he]; exact hx.n a ha ht w h0 w1 hvw⟩
theorem less_mode {m : Meta} (h : m.acl = []) : LessS m = band m.mode 511 := by
  have hb := band_le (x := m.mode) (y := 511) (by decide) (by decide)
  unfold LessS ofS
  rw [h]
  simp only [List.length_nil, Nat.lt_irrefl, if_false]
  unfold fromMode
  generalize band m.mode 511 = b at hb
  exact fin512 (p := fun b => (lessO [⟨1, 0, b.fdiv (2 ^ 6)⟩, ⟨3, 0, band (b.fdiv (2 ^ 3)) 7⟩, ⟨6, 0, band b 7⟩]).getD 0 = b) (by decide +kernel) (by omega) (by omega)
end Go.Proofs.Ytgjlkcdnlndlnaa
