/- The law RightMade, walked: the program's rights are the document's, of what is made by numbers. -/
import Derived.Test.YtgjlkcdnlndlnaaRef2
namespace Go.Proofs.Ytgjlkcdnlndlnaa
open Go Go.Proofs.Ytgjlkcdnlndlnaa.Sx F
set_option linter.unusedVariables false
set_option linter.unusedSimpArgs false

/-! ### who can -/
def grpL (m : Meta) (c : Cred) (mask : Int) : List Ace → List Int
  | [] => []
  | a :: r => if (a.tag = 3 ∧ inS c m.gid = true) ∨ (a.tag = 4 ∧ inS c a.id = true) then band a.perm mask :: grpL m c mask r else grpL m c mask r
theorem goP_user (m : Meta) (c : Cred) (mask : Int) : ∀ l : List Ace, goP m c mask l = match user9 c l with
    | some p => .inl (band p mask)
    | none => .inr (grpL m c mask l)
  | [] => rfl
  | a :: r => by
    have ih := goP_user m c mask r
    unfold goP user9 grpL
    by_cases q1 : a.tag = 2 ∧ a.id = c.uid
    · rw [if_pos q1, if_pos q1]
    · rw [if_neg q1, if_neg q1]
      by_cases q2 : (a.tag = 3 ∧ inS c m.gid = true) ∨ (a.tag = 4 ∧ inS c a.id = true)
      · rw [if_pos q2, if_pos q2, ih]
        cases user9 c r <;> rfl
      · rw [if_neg q2, if_neg q2, ih]
theorem grp9_any (m : Meta) (c : Cred) (w mask : Int) (fin : Bool) : ∀ (l : List Ace) (s : Bool), grp9 m c w mask fin l s = ((grpL m c mask l).any (hasS w) || (!(s || !(grpL m c mask l).isEmpty) && fin))
  | [], s => by simp [grp9, grpL]
  | a :: r, s => by
    unfold grp9 grpL
    split
    · rw [List.any_cons]
      by_cases q : hasS w (band a.perm mask) = true
      · rw [if_pos q, q]; simp
      · rw [if_neg q, grp9_any]
        simp [q]
    · exact grp9_any m c w mask fin r s
theorem mask9_eq {l : List Ace} (h : Good l) : maskS l = some (mask9 l) := by
  unfold maskS mask9 permR
  rcases ixP_find (fun a : Ace => decide (a.tag = 5)) Ace.z l with ⟨h1, h2⟩ | ⟨k, h1, h2, h3⟩
  · rw [if_neg (by omega)]
    have : permS l 5 = none := by unfold permS; rw [h2]; rfl
    rw [this]
    rfl
  · have := zi_nonneg k
    rw [if_pos (by omega)]
    obtain ⟨p, hp, q⟩ := perm_some h (t := 5) ⟨_, List.mem_of_find?_eq_some h3, by simpa using List.find?_some h3⟩
    rw [hp]
    simp only [Option.getD_some]
    rw [if_neg (by omega)]
theorem band_pos (x y : Int) (h0 : 0 ≤ y) (h1 : y < 4611686018427387904) : decide (0 < band x y) = !decide (band x y = 0) := by
  have := (band_le (x := x) h0 h1).1
  by_cases q : band x y = 0
  · simp [q]
  · have : 0 < band x y := by omega
    simp [q, this]
theorem can9_law {m : Meta} (h : Good (ofS m)) (he : of9 m = ofS m) (c : Cred) (w : Int) : Can9 m c w = CanS m c w := by
  have hpos := band_pos c.powers 2 (by decide) (by decide)
  unfold Can9 CanS
  rw [hpos, canS_rep h, he]
  by_cases hw : w < 0 ∨ 7 < w
  · rw [if_pos hw]
    rcases hw with q | q <;> simp [q]
  · rw [if_neg hw]
    have w1 : ¬ w < 0 := fun q => hw (.inl q)
    have w2 : ¬ 7 < w := fun q => hw (.inr q)
    by_cases hp : band c.powers 2 = 0
    · rw [if_neg (by simpa using hp)]
      simp only [w1, w2, hp, decide_false, decide_true, Bool.or_false, Bool.not_false, Bool.true_and, Bool.not_true, Bool.false_or, Option.getD_some]
      obtain ⟨p1, e1, _⟩ := perm_some h h.own
      obtain ⟨p6, e6, _⟩ := perm_some h h.oth
      unfold repS
      rw [mask9_eq h, e1, e6]
      unfold permR
      rw [e1, e6]
      simp only [Option.getD_some]
      by_cases hu : m.uid = c.uid
      · rw [if_pos hu, if_pos hu]; simp
      · rw [if_neg hu, if_neg hu, goP_user]
        cases user9 c (ofS m) with
        | some p => simp
        | none =>
          simp only
          rw [grp9_any]
          cases grpL m c (mask9 (ofS m)) (ofS m) with
          | nil => simp
          | cons p P => simp
    · rw [if_pos hp]
      simp [w1, w2, hp]

/-! ### the mode that gives nobody more -/
theorem less9G_eq {mask : Int} (hm : 0 ≤ mask ∧ mask < 8) : ∀ (l : List Ace) (g o : Int), (∀ a ∈ l, 0 ≤ a.perm ∧ a.perm < 8) → (0 ≤ g ∧ g < 8) → band g mask = g → (0 ≤ o ∧ o < 8) → less9G mask l g o = lessG mask l g o
  | [], _, _, _, _, _, _ => rfl
  | a :: r, g, o, hl, hg, hgm, ho => by
    have ha := hl a (by simp)
    have hr := fun x hx => hl x (List.mem_cons_of_mem a hx)
    have e1 : band g (band a.perm mask) = band g a.perm := fin888 (p := fun g p k => band g k = g → band g (band p k) = band g p) (by decide +kernel) hg ha hm hgm
    have e2 : band o (band a.perm mask) = band (band o a.perm) mask := fin888 (p := fun o p k => band o (band p k) = band (band o p) k) (by decide +kernel) ho ha hm
    have e3 : band (band g a.perm) mask = band g a.perm := fin888 (p := fun g p k => band g k = g → band (band g p) k = band g p) (by decide +kernel) hg ha hm hgm
    unfold less9G lessG
    rw [e1, e2]
    split
    · exact less9G_eq hm r _ _ hr (band_8 hg ha) e3 (band_8 (band_8 ho ha) hm)
    · split
      · exact less9G_eq hm r _ _ hr hg hgm (band_8 (band_8 ho ha) hm)
      · exact less9G_eq hm r _ _ hr hg hgm ho
theorem less9_law {m : Meta} (h : Good (ofS m)) : Less9 m = LessS m := by
  unfold Less9
  by_cases h0 : m.acl.length = 0
  · rw [if_pos h0, less_mode (List.eq_nil_of_length_eq_zero h0)]
  · rw [if_neg h0]
    have ho : ofS m = m.acl := by unfold ofS; rw [if_pos (by omega)]
    rw [ho] at h
    unfold LessS lessO less9O
    rw [ho]
    obtain ⟨p1, e1, q1⟩ := perm_some h h.own
    obtain ⟨p3, e3, q3⟩ := perm_some h h.grp
    obtain ⟨p6, e6, q6⟩ := perm_some h h.oth
    obtain ⟨k, ek, qk⟩ := mask_some h
    have hk : mask9 m.acl = k := by have := mask9_eq h; rw [ek] at this; injection this with this; exact this.symm
    unfold permR
    rw [ek, e1, e3, e6, hk]
    simp only [Option.getD_some, Option.bind_some, Option.map_some]
    have hkk : band (band p3 k) k = band p3 k := fin88 (p := fun p k => band (band p k) k = band p k) (by decide +kernel) q3 qk
    rw [less9G_eq qk m.acl _ _ h.perm (band_8 q3 qk) hkk q6]
    have hx := lessG_ok qk m.acl (band p3 k) p6 h.perm (band_8 q3 qk) q6
    rw [lessN_eq q1 hx.r1 hx.r2]
    have r1 := hx.r1
    have r2 := hx.r2
    generalize lessG k m.acl (band p3 k) p6 = x at r1 r2
    unfold less9N
    rw [IntKind.wrap_i64, IntKind.wrap_i64, IntKind.wrap_i64, IntKind.wrap_i64]
    omega
theorem mode_eq {n : Int} (h0 : 0 ≤ n) (h1 : n < 4096) : mode9 n = fromMode n := by
  have key : ∀ a b : Fin 64, band ((64 * (a.1 : Int) + (b.1 : Int)).fdiv (2 ^ 6)) 7 = (band (64 * (a.1 : Int) + (b.1 : Int)) 511).fdiv (2 ^ 6) ∧ band ((64 * (a.1 : Int) + (b.1 : Int)).fdiv (2 ^ 3)) 7 = band ((band (64 * (a.1 : Int) + (b.1 : Int)) 511).fdiv (2 ^ 3)) 7 ∧ band (64 * (a.1 : Int) + (b.1 : Int)) 7 = band (band (64 * (a.1 : Int) + (b.1 : Int)) 511) 7 := by decide +kernel
  have := key ⟨(n / 64).toNat, by omega⟩ ⟨(n % 64).toNat, by omega⟩
  rw [show (64 * ((⟨(n / 64).toNat, by omega⟩ : Fin 64).1 : Int) + ((⟨(n % 64).toNat, by omega⟩ : Fin 64).1 : Int)) = n by simp only []; omega] at this
  unfold mode9 fromMode
  rw [this.1, this.2.1, this.2.2]
theorem MadeM.nine {ns : List Int} {m : Meta} (h : MadeM ns m) : of9 m = ofS m := by
  unfold of9 ofS
  rw [mode_eq h.mode.1 h.mode.2]

end Go.Proofs.Ytgjlkcdnlndlnaa
