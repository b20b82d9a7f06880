/- Texts laid together: ChgMake, Ref2, RightMade, May, Lwa, St1, Fm, MeA, MeB, MeC, MeD, Bld, Bldx, Esc, MeE, Ent, Plan, Fewer, Attrs, Order, Ref21, Same, MeF, MeG, St2, St3, St4, St5, St6, St7, St8, St9, Fsk, Fd1, Fd2, Fd3, Fd4, Fd5, Fd6, Lwb, ChgChmod, Lwc. -/
import Derived.Shelf.Strings.Builder1
import Derived.Shelf.LaysM
import Derived.Test.YtkklflpfklbbcaaGreatDoorProg
import Derived.WalkKit
import Derived.WalkLawsBesides
import Derived.Lib.Strings
import Derived.Lib.Slices
import Derived.Lib.Walk
import Derived.Lib.AppendStr
import Derived.Laws.IdiomCopy
import Derived.Laws.Externs
import Derived.Lib.ConvBytes
import Derived.Laws.IdiomStrings
import Derived.Deep.RegionWith
import Derived.Test.YtkklflpfklbbcaaGreatDoorHc5
/- The program's file system: Make. -/
namespace Go.Proofs.YtkklflpfklbbcaaGreatDoor
open Go Go.Proofs.YtkklflpfklbbcaaGreatDoor.Sx F
set_option linter.unusedVariables false
set_option linter.unusedSimpArgs false
def BMake (f : Th FS) (c : Th Cred) (p : Th (List UInt8)) (n : Th Ino) : BL := (.cons 10000 (.cells (.cons (.fn (.func fs_Make_1) .nil (.cons (.ptr 10002 0) (.cons (.ptr 10003 0) (.cons (.ptr 10004 0) .nil)))) .nil)) (.cons 10001 (.cells (.cons (.ptr 10005 0) .nil)) (.cons 10002 (.cells (.cons (.str p) .nil)) (.cons 10003 (.cells (Ino.ch n)) (.cons 10004 (.cells (Cred.ch c)) (.cons 10005 (.cells (callC f c 10006)) (.cons 10006 (rowB 20 Ino.ch Ino.z fun _ => (f .o).nodes) .nil)))))))
def CMake (c : Th Cred) (p : Th (List UInt8)) (n : Th Ino) : BL := (.cons 10000 (.cells (.cons (.str p) .nil)) (.cons 10001 (.cells (Ino.ch n)) (.cons 10002 (.cells (Cred.ch c)) .nil)))
theorem chg1Make_c (f : Th FS) (c : Th Cred) (p : Th (List UInt8)) (n : Th Ino) (hW : Walk (f .o) (c .o)) (hp : (p .o).length ≤ 100000) (hn : (n .o).data.length ≤ 1000000) (hroom : -1000000 ≤ (f .o).room ∧ (f .o).room ≤ 1000000000) (hpre : preRm (p .o)) {d : Nat} {K : ARes → BL → Prop}
    (h1 : ∀ e : Th Int, (mkD (c .o) (p .o) (n .o)) (f .o) = .inl (e .o) → e .o ≠ 0 → K (.pan (failV e)) (BMake f c p n))
    (h2 : ∀ g : Th FS, (mkD (c .o) (p .o) (n .o)) (f .o) = .inr (g .o) → K (.ret (.tup .nil)) (BMake g c p n)) : CallAt PT fs_change_1 [.ptr 10000 0, .ptr 10001 0] d (BMake f c p n) K := by
  refine fs_change_1.of rfl rfl ?_
  cbv
  refine CallAt.frameP [(10000, 10005), (10001, 10006), (10002, 10002), (10003, 10003), (10004, 10004)] [.ptr 10000 0, .ptr 10002 0, .ptr 10003 0, .ptr 10004 0] (by kernel_rfl) rfl fun K1 hK1 => ?_
  cbv
  refine opMake_c f c p n hW hp hn hroom hpre (fun e q1 q2 => hK1 _ _ ?_) (fun g q1 => hK1 _ _ ?_)
  · cbv
    exact h1 e q1 q2
  · cbv
    exact h2 g q1
theorem caughtMake_c (f : Th FS) (c : Th Cred) (p : Th (List UInt8)) (n : Th Ino) (hW : Walk (f .o) (c .o)) (hp : (p .o).length ≤ 100000) (hn : (n .o).data.length ≤ 1000000) (hroom : -1000000 ≤ (f .o).room ∧ (f .o).room ≤ 1000000000) (hpre : preRm (p .o)) {d : Nat} {K : ARes → BL → Prop}
    (h1 : ∀ e : Th Int, (mkD (c .o) (p .o) (n .o)) (f .o) = .inl (e .o) → e .o ≠ 0 → K (.ret (.int .i64 e)) (BMake f c p n))
    (h2 : ∀ g : Th FS, (mkD (c .o) (p .o) (n .o)) (f .o) = .inr (g .o) → K (.ret (.int .i64 fun _ => 0)) (BMake g c p n)) : CallAt PT fs_caught [.fn (.func fs_change_1) .nil (.cons (.ptr 10000 0) (.cons (.ptr 10001 0) .nil))] d (BMake f c p n) K := by
  refine CallAt.res ?_
  refine fs_caught.of rfl rfl ?_
  cbv
  refine CallAt.frameP [(10000, 10000), (10001, 10001), (10002, 10002), (10003, 10003), (10004, 10004), (10005, 10005), (10006, 10006)] [.ptr 10000 0, .ptr 10001 0] (by kernel_rfl) rfl fun K1 hK1 => ?_
  cbv
  refine chg1Make_c f c p n hW hp hn hroom hpre (fun e q1 q2 => hK1 _ _ ?_) (fun g q1 => hK1 _ _ ?_)
  · cbv
    refine DefAt.use [(10000, 2)] [failV e, .ptr 10000 0] (by kernel_rfl) rfl (caughtP_c e _ ?_)
    cbv
    exact ⟨_, .ret (.refl _), h1 e q1 q2⟩
  · cbv
    refine DefAt.use [(10000, 2)] [.nif, .ptr 10000 0] (by kernel_rfl) rfl (caughtN_c _ ?_)
    cbv
    exact ⟨_, .ret (.refl _), h2 g q1⟩
theorem changeMake_c (f : Th FS) (c : Th Cred) (p : Th (List UInt8)) (n : Th Ino) (may : Th Bool) (l : Th (List (List UInt8))) (hl : (l .o).length ≤ 4 ∧ ∀ p ∈ l .o, p.length ≤ 100000) (hW : Walk (f .o) (c .o)) (hp : (p .o).length ≤ 100000) (hn : (n .o).data.length ≤ 1000000) (hroom : -1000000 ≤ (f .o).room ∧ (f .o).room ≤ 1000000000) (hpre : may .o = true → allP (l .o) = true → preRm (p .o)) {d : Nat} (hd : d < 10000) {K : ARes → BL → Prop}
    (hr : ∀ (g : Th FS) (e : Th Int), chgS (f .o) (may .o && allP (l .o)) (mkD (c .o) (p .o) (n .o)) = (g .o, e .o) → K (.ret (.tup (.cons (FS.av g) (.cons (.int .i64 e) .nil)))) (CMake c p n)) :
    CallAt PT fs_change [FS.av f, Cred.av c, .bool may, (.fn (.func fs_Make_1) .nil (.cons (.ptr 10000 0) (.cons (.ptr 10001 0) (.cons (.ptr 10002 0) .nil)))), strs l] d (CMake c p n) K := by
  refine CallAt.res ?_
  refine fs_change.of rfl rfl ?_
  cbv
  refine loop_at (X := Nat) 1000 [0, 1, 3, 5, 6, 8, 10, 11, 18, 19] [5, 6, 8, 10, 10000, 10001, 10002] (fun _ k => .cons 2 (.bool fun _ => may .o && allP ((l .o).take k)) (.cons 20 (.int .i64 fun _ => zi k) .nil)) (fun _ _ => .nil) (fun k => k ≤ (l .o).length) (fun k => (l .o).length - k) 0 ?_ (Nat.zero_le _) ?_
  · cbv
    (repeat' (first | exact True.intro | exact Same.refl _ | exact SameB.refl _ | exact ⟨rfl⟩ | exact Same.int rfl | exact Same.str rfl | exact Same.bool rfl | (refine Same.int ?_; simp only [List.length_append, List.length_cons, List.length_nil, zi]; omega) | (refine SameB.row' rfl fun i hi => ?_; first | rfl | exact absurd hi (Nat.not_lt_zero _)) | refine And.intro ?_ ?_ | refine SameB.cells ?_ | exact SameC.nil | refine SameC.cons ?_ ?_ | exact Same.nsl rfl | exact Same.tt rfl | exact Same.ff rfl))
    all_goals exact Same.bool (by show may .o = (may .o && true); rw [Bool.and_true])
  · intro k hk
    have hk : k ≤ (l .o).length := hk
    have hkz := zi_toNat k
    cbv
    refine br_zlt (fun r1 => ?_) (fun r1 => ?_)
    · have r1 : k < (l .o).length := r1
      have hat := allP_take r1
      have hpl : ((l .o).getD k []).length ≤ 100000 := hl.2 _ (by rw [List.getD_eq_getElem?_getD, List.getElem?_eq_getElem r1]; exact List.getElem_mem r1)
      cbv
      refine safe ⟨zi_nonneg _, zi_lt.2 r1⟩ ?_
      simp only [hkz]
      refine partsP_c (fun _ => (l .o).getD k []) hpl (fun q hq => ?_) (fun hq => ?_)
      · have hok : isPath ((l .o).getD k []) = true := by unfold isPath; rw [hq]; rfl
        have hat : (may .o && allP ((l .o).take k)) = (may .o && allP ((l .o).take (k + 1))) := by rw [hat, hok, Bool.and_true]
        cbv
        refine ⟨fun r2 => ?_, fun r2 => ?_⟩
        · have r2 : (may .o && allP ((l .o).take k)) = true := r2
          rw [hat] at r2
          cbv
          refine ⟨k + 1, r1, by omega, ?_⟩
          cbv
          rw [zi_succ (by omega)]
          (repeat' (first | exact True.intro | exact Same.refl _ | exact SameB.refl _ | exact ⟨rfl⟩ | exact Same.int rfl | exact Same.str rfl | exact Same.bool rfl | (refine Same.int ?_; simp only [List.length_append, List.length_cons, List.length_nil, zi]; omega) | (refine SameB.row' rfl fun i hi => ?_; first | rfl | exact absurd hi (Nat.not_lt_zero _)) | refine And.intro ?_ ?_ | refine SameB.cells ?_ | exact SameC.nil | refine SameC.cons ?_ ?_ | exact Same.nsl rfl | exact Same.tt rfl | exact Same.ff rfl))
          all_goals exact Same.tt r2
        · have r2 : (may .o && allP ((l .o).take k)) = false := r2
          rw [hat] at r2
          cbv
          refine ⟨k + 1, r1, by omega, ?_⟩
          cbv
          rw [zi_succ (by omega)]
          (repeat' (first | exact True.intro | exact Same.refl _ | exact SameB.refl _ | exact ⟨rfl⟩ | exact Same.int rfl | exact Same.str rfl | exact Same.bool rfl | (refine Same.int ?_; simp only [List.length_append, List.length_cons, List.length_nil, zi]; omega) | (refine SameB.row' rfl fun i hi => ?_; first | rfl | exact absurd hi (Nat.not_lt_zero _)) | refine And.intro ?_ ?_ | refine SameB.cells ?_ | exact SameC.nil | refine SameC.cons ?_ ?_ | exact Same.nsl rfl | exact Same.tt rfl | exact Same.ff rfl))
          all_goals exact Same.ff r2
      · have hok : isPath ((l .o).getD k []) = false := by unfold isPath; rw [hq]; rfl
        have hat : (may .o && allP ((l .o).take (k + 1))) = false := by rw [hat, hok, Bool.and_false, Bool.and_false]
        cbv
        refine ⟨fun r2 => ?_, fun r2 => ?_⟩
        all_goals
          cbv
          refine ⟨k + 1, r1, by omega, ?_⟩
          cbv
          rw [zi_succ (by omega)]
          (repeat' (first | exact True.intro | exact Same.refl _ | exact SameB.refl _ | exact ⟨rfl⟩ | exact Same.int rfl | exact Same.str rfl | exact Same.bool rfl | (refine Same.int ?_; simp only [List.length_append, List.length_cons, List.length_nil, zi]; omega) | (refine SameB.row' rfl fun i hi => ?_; first | rfl | exact absurd hi (Nat.not_lt_zero _)) | refine And.intro ?_ ?_ | refine SameB.cells ?_ | exact SameC.nil | refine SameC.cons ?_ ?_ | exact Same.nsl rfl | exact Same.tt rfl | exact Same.ff rfl))
          all_goals exact Same.ff hat
    · obtain rfl : k = (l .o).length := Nat.le_antisymm hk r1
      rw [List.take_length]
      cbv
      refine br_nbool (fun r2 => ?_) (fun r2 => ?_)
      · cbv
        exact ⟨_, .ret (.refl _), hr f (fun _ => 1) (chg_may r2)⟩
      have r2 : (may .o && allP (l .o)) = true := r2
      have hpre := hpre (Bool.and_eq_true_iff.1 r2).1 (Bool.and_eq_true_iff.1 r2).2
      have hfl := hW.ok.faults
      cbv
      refine contains_int_c (fun _ => (f .o).faults) (fun _ => IntKind.i64.wrap ((f .o).op + 1)) (by unfold short; omega) fun b hb => ?_
      have hb : b .o = decide (IntKind.i64.wrap ((f .o).op + 1) ∈ (f .o).faults) := hb
      cbv
      refine br_bool (fun r3 => ?_) (fun r3 => ?_)
      · have he : askE (f .o) = 8 := by unfold askE; rw [if_pos (of_decide_eq_true (hb.symm.trans r3))]
        cbv
        exact ⟨_, .ret (.refl _), hr (fun _ => askS (f .o)) (fun _ => 8) (chg_ask r2 he)⟩
      have he : askE (f .o) = 0 := by unfold askE; rw [if_neg (of_decide_eq_false (hb.symm.trans r3))]
      cbv
      refine cloneI_c (fun _ => (f .o).nodes) hW.ok.ne hW.ok.few ?_
      cbv
      refine CallAt.frameP [(10000, 8), (10001, 16), (10002, 10000), (10003, 10001), (10004, 10002), (10005, 50), (10006, 54)] [.fn (.func fs_change_1) .nil (.cons (.ptr 10000 0) (.cons (.ptr 10001 0) .nil))] (by kernel_rfl) rfl fun K1 hK1 => ?_
      cbv
      refine caughtMake_c (fun _ => askS (f .o)) c p n hW.ask hp hn hroom hpre (fun e q1 q2 => hK1 _ _ ?_) (fun g q1 => hK1 _ _ ?_)
      · cbv
        refine br_ndec (fun _ => ?_) (fun h => (q2 h).elim)
        cbv
        exact ⟨_, .ret (.refl _), hr (fun _ => askS (f .o)) e (chg_err r2 he q1)⟩
      · cbv
        refine br_ndec (fun h => (h rfl).elim) (fun _ => ?_)
        cbv
        exact ⟨_, .ret (.refl _), hr g (fun _ => 0) (chg_ok r2 he q1)⟩
theorem make_c (f : Th FS) (c : Th Cred) (p : Th (List UInt8)) (n : Th Ino) (hW : Walk (f .o) (c .o)) (hp : (p .o).length ≤ 100000) (hn : (n .o).data.length ≤ 1000000) (hroom : -1000000 ≤ (f .o).room ∧ (f .o).room ≤ 1000000000) {d : Nat} {K : ARes → BL → Prop}
    (hr : ∀ (g : Th FS) (e : Th Int), chgS (f .o) (!decide (p .o = []) && mayMk (n .o) && isPath (p .o)) (mkD (c .o) (p .o) (n .o)) = (g .o, e .o) → K (.ret (.tup (.cons (FS.av g) (.cons (.int .i64 e) .nil)))) .nil) :
    CallAt PT fs_Make [FS.av f, Cred.av c, .str p, Ino.av n] d .nil K := by
  refine CallAt.res ?_
  refine fs_Make.of rfl rfl ?_
  cbv
  refine ⟨fun s1 => ?_, fun s1 => ?_⟩
  · have s1 : (!decide (p .o = [])) = true := s1
    cbv
    refine mayMake19_c n fun b hb => ?_
    cbv
    refine CallAt.args (as' := [FS.av f, Cred.av c, .bool fun _ => b .o, (.fn (.func fs_Make_1) .nil (.cons (.ptr 6 0) (.cons (.ptr 7 0) (.cons (.ptr 5 0) .nil)))), strs fun _ => [p .o]]) (.cons (.refl _) (.cons (.refl _) (.cons (.refl _) (.cons (.refl _) (.cons (Same.sl rfl fun i hi => ?_) .nil))))) ?_
    · obtain rfl : i = 0 := by have hi : i < 1 := hi; omega
      rfl
    refine CallAt.frameP [(10000, 6), (10001, 7), (10002, 5)] [FS.av f, Cred.av c, .bool fun _ => b .o, (.fn (.func fs_Make_1) .nil (.cons (.ptr 10000 0) (.cons (.ptr 10001 0) (.cons (.ptr 10002 0) .nil)))), strs fun _ => [p .o]] (by kernel_rfl) rfl fun K1 hK1 => ?_
    cbv
    refine changeMake_c f c p n (fun _ => b .o) (fun _ => [p .o]) ⟨by show 1 ≤ 4; decide, fun q hq => by simp at hq; rw [hq]; exact hp⟩ hW hp hn hroom (fun h1 h2 => ⟨by simpa using s1, by simpa [allP] using h2⟩) (by decide) fun g e q => hK1 _ _ ?_
    cbv
    exact ⟨_, .ret (.refl _), hr g e (by rw [← q]; rw [s1, ← hb]; simp [allP])⟩
  · have s1 : (!decide (p .o = [])) = false := s1
    cbv
    refine CallAt.args (as' := [FS.av f, Cred.av c, .bool fun _ => false, (.fn (.func fs_Make_1) .nil (.cons (.ptr 6 0) (.cons (.ptr 7 0) (.cons (.ptr 5 0) .nil)))), strs fun _ => [p .o]]) (.cons (.refl _) (.cons (.refl _) (.cons (Same.ff rfl) (.cons (.refl _) (.cons (Same.sl rfl fun i hi => ?_) .nil))))) ?_
    · obtain rfl : i = 0 := by have hi : i < 1 := hi; omega
      rfl
    refine CallAt.frameP [(10000, 6), (10001, 7), (10002, 5)] [FS.av f, Cred.av c, .bool fun _ => false, (.fn (.func fs_Make_1) .nil (.cons (.ptr 10000 0) (.cons (.ptr 10001 0) (.cons (.ptr 10002 0) .nil)))), strs fun _ => [p .o]] (by kernel_rfl) rfl fun K1 hK1 => ?_
    cbv
    refine changeMake_c f c p n (fun _ => false) (fun _ => [p .o]) ⟨by show 1 ≤ 4; decide, fun q hq => by simp at hq; rw [hq]; exact hp⟩ hW hp hn hroom (fun h1 h2 => by cases h1) (by decide) fun g e q => hK1 _ _ ?_
    cbv
    exact ⟨_, .ret (.refl _), hr g e (by rw [← q]; rw [s1]; simp [allP])⟩
end Go.Proofs.YtkklflpfklbbcaaGreatDoor
/- The document's mode that gives nobody more, walked; and that it is the program's. -/
namespace Go.Proofs.YtkklflpfklbbcaaGreatDoor
open Go Go.Proofs.YtkklflpfklbbcaaGreatDoor.Sx F
set_option linter.unusedVariables false
set_option linter.unusedSimpArgs false
end Go.Proofs.YtkklflpfklbbcaaGreatDoor
/- The law RightMade, walked: the program's rights are the document's, of what is made by numbers. -/
namespace Go.Proofs.YtkklflpfklbbcaaGreatDoor
open Go Go.Proofs.YtkklflpfklbbcaaGreatDoor.Sx F
set_option linter.unusedVariables false
set_option linter.unusedSimpArgs false
def grpL (m : Meta) (c : Cred) (mask : Int) : List Ace → List Int
  | [] => []
  | a :: r => if (a.tag = 3 ∧ inS c m.gid = true) ∨ (a.tag = 4 ∧ inS c a.id = true) then band a.perm mask :: grpL m c mask r else grpL m c mask r
theorem goP_user (m : Meta) (c : Cred) (mask : Int) : ∀ l : List Ace, goP m c mask l = match user9 c l with
    | some p => .inl (band p mask)
    | none => .inr (grpL m c mask l)
  | [] => rfl
  | a :: r => by
    have ih := goP_user m c mask r
    unfold goP user9 grpL
    by_cases q1 : a.tag = 2 ∧ a.id = c.uid
    · rw [if_pos q1, if_pos q1]
    · rw [if_neg q1, if_neg q1]
      by_cases q2 : (a.tag = 3 ∧ inS c m.gid = true) ∨ (a.tag = 4 ∧ inS c a.id = true)
      · rw [if_pos q2, if_pos q2, ih]
        cases user9 c r <;> rfl
      · rw [if_neg q2, if_neg q2, ih]
theorem grp9_any (m : Meta) (c : Cred) (w mask : Int) (fin : Bool) : ∀ (l : List Ace) (s : Bool), grp9 m c w mask fin l s = ((grpL m c mask l).any (hasS w) || (!(s || !(grpL m c mask l).isEmpty) && fin))
  | [], s => by simp [grp9, grpL]
  | a :: r, s => by
    unfold grp9 grpL
    split
    · rw [List.any_cons]
      by_cases q : hasS w (band a.perm mask) = true
      · rw [if_pos q, q]; simp
      · rw [if_neg q, grp9_any]
        simp [q]
    · exact grp9_any m c w mask fin r s
theorem mask9_eq {l : List Ace} (h : Good l) : maskS l = some (mask9 l) := by
  unfold maskS mask9 permR
  rcases ixP_find (fun a : Ace => decide (a.tag = 5)) Ace.z l with ⟨h1, h2⟩ | ⟨k, h1, h2, h3⟩
  · rw [if_neg (by omega)]
    have : permS l 5 = none := by unfold permS; rw [h2]; rfl
    rw [this]
    rfl
  · have := zi_nonneg k
    rw [if_pos (by omega)]
    obtain ⟨p, hp, q⟩ := perm_some h (t := 5) ⟨_, List.mem_of_find?_eq_some h3, by simpa using List.find?_some h3⟩
    rw [hp]
    simp only [Option.getD_some]
    rw [if_neg (by omega)]
theorem band_pos (x y : Int) (h0 : 0 ≤ y) (h1 : y < 4611686018427387904) : decide (0 < band x y) = !decide (band x y = 0) := by
  have := (band_le (x := x) h0 h1).1
  by_cases q : band x y = 0
  · simp [q]
  · have : 0 < band x y := by omega
    simp [q, this]
theorem can9_law {m : Meta} (h : Good (ofS m)) (he : of9 m = ofS m) (c : Cred) (w : Int) : Can9 m c w = CanS m c w := by
  have hpos := band_pos c.powers 2 (by decide) (by decide)
  unfold Can9 CanS
  rw [hpos, canS_rep h, he]
  by_cases hw : w < 0 ∨ 7 < w
  · rw [if_pos hw]
    rcases hw with q | q <;> simp [q]
  · rw [if_neg hw]
    have w1 : ¬ w < 0 := fun q => hw (.inl q)
    have w2 : ¬ 7 < w := fun q => hw (.inr q)
    by_cases hp : band c.powers 2 = 0
    · rw [if_neg (by simpa using hp)]
      simp only [w1, w2, hp, decide_false, decide_true, Bool.or_false, Bool.not_false, Bool.true_and, Bool.not_true, Bool.false_or, Option.getD_some]
      obtain ⟨p1, e1, _⟩ := perm_some h h.own
      obtain ⟨p6, e6, _⟩ := perm_some h h.oth
      unfold repS
      rw [mask9_eq h, e1, e6]
      unfold permR
      rw [e1, e6]
      simp only [Option.getD_some]
      by_cases hu : m.uid = c.uid
      · rw [if_pos hu, if_pos hu]; simp
      · rw [if_neg hu, if_neg hu, goP_user]
        cases user9 c (ofS m) with
        | some p => simp
        | none =>
          simp only
          rw [grp9_any]
          cases grpL m c (mask9 (ofS m)) (ofS m) with
          | nil => simp
          | cons p P => simp
    · rw [if_pos hp]
      simp [w1, w2, hp]
end Go.Proofs.YtkklflpfklbbcaaGreatDoor
/- Which lists may be: r9.MayAcl walked, as far as the rights want it. -/
namespace Go.Proofs.YtkklflpfklbbcaaGreatDoor
open Go Go.Proofs.YtkklflpfklbbcaaGreatDoor.Sx F
set_option linter.unusedVariables false
set_option linter.unusedSimpArgs false
theorem band_mod9 (x : Int) : band x 511 = x % 512 := by
  have he : band x 511 = IntKind.i64.wrap ((BitVec.ofInt 64 x &&& BitVec.ofInt 64 511).toNat : Int) := rfl
  rw [he, BitVec.toNat_and, show (BitVec.ofInt 64 511).toNat = 2 ^ 9 - 1 from rfl, Nat.and_two_pow_sub_one_eq_mod, BitVec.toNat_ofInt, IntKind.wrap_i64]
  omega
theorem band_mod3 (x : Int) : band x 7 = x % 8 := by
  have he : band x 7 = IntKind.i64.wrap ((BitVec.ofInt 64 x &&& BitVec.ofInt 64 7).toNat : Int) := rfl
  rw [he, BitVec.toNat_and, show (BitVec.ofInt 64 7).toNat = 2 ^ 3 - 1 from rfl, Nat.and_two_pow_sub_one_eq_mod, BitVec.toNat_ofInt, IntKind.wrap_i64]
  omega
theorem mode_eq' (n : Int) : mode9 n = fromMode n := by
  unfold mode9 fromMode
  simp only [band_mod9, band_mod3]
  rw [show ((2 : Int) ^ 6) = 64 from rfl, show ((2 : Int) ^ 3) = 8 from rfl]
  rw [Int.fdiv_eq_ediv_of_nonneg _ (by decide), Int.fdiv_eq_ediv_of_nonneg _ (by decide), Int.fdiv_eq_ediv_of_nonneg _ (by decide), Int.fdiv_eq_ediv_of_nonneg _ (by decide)]
  rw [show n / 64 % 8 = n % 512 / 64 by omega, show n / 8 % 8 = n % 512 / 8 % 8 by omega, show n % 8 = n % 512 % 8 by omega]
theorem of9_eq (m : Meta) : of9 m = ofS m := by
  unfold of9 ofS
  rw [mode_eq']
end Go.Proofs.YtkklflpfklbbcaaGreatDoor
/- Of laws about a file system: who walks; that the law is awake. -/
namespace Go.Proofs.YtkklflpfklbbcaaGreatDoor
open Go Go.Proofs.YtkklflpfklbbcaaGreatDoor.Sx F
set_option linter.unusedVariables false
set_option linter.unusedSimpArgs false
theorem walk_of {f : FS} {c : Cred} (ok : FsOk f) (up : UpF f) (good : ∀ n ∈ f.nodes, Good (ofS n.mt)) (ino : ∀ n ∈ f.nodes, ∀ d ∈ n.kids, 0 ≤ d.ino) (grp : short c.groups) : Walk f c :=
  ⟨ok, up, fun w n hn => (can9_law (good n hn) (of9_eq _) c w).symm, ino, grp⟩
theorem ok_new (room : Int) : FsOk (newS room) := by
  refine ⟨by show 0 < 1; decide, by show 1 ≤ 1000; decide, fun n hn => ?_, fun n hn => ?_, by show 0 ≤ 1000; decide⟩
  · obtain rfl : n = rootS := by simpa [newS] using hn
    exact ⟨by show 0 ≤ 1000; decide, fun d hd => by simp [rootS] at hd⟩
  · obtain rfl : n = rootS := by simpa [newS] using hn
    show 0 ≤ 1000
    decide
theorem walk_new (room : Int) {c : Cred} (hc : short c.groups) : Walk (newS room) c := by
  refine walk_of (ok_new room) (fun n hn => ?_) (fun n hn => ?_) (fun n hn d hd => ?_) hc
  · obtain rfl : n = rootS := by simpa [newS] using hn
    exact .nil
  · obtain rfl : n = rootS := by simpa [newS] using hn
    exact good_mode _
  · obtain rfl : n = rootS := by simpa [newS] using hn
    simp [rootS] at hd
def dirN : Ino := { Ino.z with kind := 6 }
theorem ino_same (k mo u g ma mi : Th Int) (da ta : Th (List UInt8)) : Same (.agg (.cons (.int .i64 k) (.cons (.int .i64 mo) (.cons (.int .i64 u) (.cons (.int .i64 g) (.cons (.int .i64 fun _ => 0) (.cons (.int .i64 fun _ => 0) (.cons .nsl (.cons .nsl (.cons .nsl (.cons (.int .i64 fun _ => 0) (.cons (.int .u64 fun _ => 0) (.cons (.int .u64 fun _ => 0) (.cons .ff (.cons (.int .i64 fun _ => 0) (.cons (.int .i64 fun _ => 0) (.cons (.str da) (.cons (.str ta) (.cons (.int .i64 ma) (.cons (.int .i64 mi) (.cons .nsl .nil))))))))))))))))))))) (Ino.av fun _ => ⟨k .o, { metaZ with mode := mo .o, uid := u .o, gid := g .o }, da .o, ta .o, ma .o, mi .o, []⟩) :=
  .agg (.cons (.refl _) (.cons (.refl _) (.cons (.refl _) (.cons (.refl _) (.cons (.refl _) (.cons (.refl _) (.cons (.nsl rfl) (.cons (.nsl rfl) (.cons (.nsl rfl) (.cons (.refl _) (.cons (.refl _) (.cons (.refl _) (.cons (.ff rfl) (.cons (.refl _) (.cons (.refl _) (.cons (.refl _) (.cons (.refl _) (.cons (.refl _) (.cons (.refl _) (.cons (.nsl rfl) .nil))))))))))))))))))))
/-- A truth that is known. -/
theorem tru {b : Bool} {A B : Prop} (hb : b = true) (h : A) : (b = true → A) ∧ (b = false → B) := ⟨fun _ => h, fun q => absurd (hb.symm.trans q) (by decide)⟩
theorem fls {b : Bool} {A B : Prop} (hb : b = false) (h : B) : (b = true → A) ∧ (b = false → B) := ⟨fun q => absurd (hb.symm.trans q) (by decide), fun _ => h⟩
theorem flsF {b : Bool} {A B : Prop} (hb : b = false) (h : A) : (b = false → A) ∧ (b = true → B) := ⟨fun _ => h, fun q => absurd (hb.symm.trans q) (by decide)⟩
theorem root_look : lookS (newS 10) rootC [] = (0, 0) := by decide +kernel
theorem root_make : (chgS (newS 10) (!decide ([97] = ([] : List UInt8)) && mayMk dirN && isPath [97]) (mkD rootC [97] dirN)).2 = 0 ∧ (chgS (newS 10) (!decide ([97] = ([] : List UInt8)) && mayMk dirN && isPath [97]) (mkD rootC [97] dirN)).1.nodes.length = 2 := by decide +kernel
theorem short_root : short rootC.groups := by show 0 ≤ _; decide
theorem awake19_c {d : Nat} {K : ARes → BL → Prop} (hr : ∀ b : Th Bool, b .o = true → K (.ret (.bool b)) .nil) : CallAt PT l19_awake [] d .nil K := by
  refine CallAt.res ?_
  refine l19_awake.of rfl rfl ?_
  cbv
  refine newP_c (fun _ => 10) fun f hf => ?_
  have hf : f .o = newS 10 := hf
  cbv
  refine rootc_c ?_
  cbv
  refine findP_c f (fun _ => rootC) (fun _ => []) (by rw [hf]; exact walk_new _ short_root) (Nat.zero_le _) fun n e h1 => ?_
  have h1 : lookS (f .o) rootC [] = (n .o, e .o) := h1
  rw [hf, root_look] at h1
  have hn : n .o = 0 := (congrArg Prod.fst h1).symm
  have he : e .o = 0 := (congrArg Prod.snd h1).symm
  cbv
  refine rootc_c ?_
  cbv
  refine CallAt.args (as' := [FS.av f, Cred.av fun _ => rootC, .str fun _ => [97], Ino.av fun _ => dirN]) (.cons (.refl _) (.cons (.refl _) (.cons (.refl _) (.cons ?_ .nil)))) ?_
  · exact ino_same (fun _ => 6) (fun _ => 0) (fun _ => 0) (fun _ => 0) (fun _ => 0) (fun _ => 0) (fun _ => []) (fun _ => [])
  refine make_c f (fun _ => rootC) (fun _ => [97]) (fun _ => dirN) (by rw [hf]; exact walk_new _ short_root) (by show 1 ≤ 100000; decide) (by show 0 ≤ 1000000; decide) (by rw [hf]; decide) fun g x h2 => ?_
  have h2 : chgS (f .o) (!decide ([97] = ([] : List UInt8)) && mayMk dirN && isPath [97]) (mkD rootC [97] dirN) = (g .o, x .o) := h2
  rw [hf] at h2
  have h3 := root_make
  rw [h2] at h3
  have hx : x .o = 0 := h3.1
  have hg : (g .o).nodes.length = 2 := h3.2
  cbv
  refine tru (decide_eq_true hn) ?_
  cbv
  refine err19_c _ ?_
  cbv
  refine err19_c _ ?_
  cbv
  refine tru (decide_eq_true ?_) ?_
  · show IntKind.i64.wrap (e .o + x .o) = 0
    rw [he, hx]; decide
  cbv
  refine tru (decide_eq_true ?_) ?_
  · show zi (f .o).nodes.length = 1
    rw [hf]; rfl
  cbv
  refine tru (decide_eq_true ?_) ?_
  · show zi (g .o).nodes.length = 2
    rw [hg]; rfl
  cbv
  refine ⟨_, .ret (.refl _), (hr _ ?_)⟩
  show decide ((f .o).room = 10) = true
  rw [hf]; rfl
end Go.Proofs.YtkklflpfklbbcaaGreatDoor
/- The program's file system: closures that change a node: its time, its capabilities, its flags. -/
namespace Go.Proofs.YtkklflpfklbbcaaGreatDoor
open Go Go.Proofs.YtkklflpfklbbcaaGreatDoor.Sx F
set_option linter.unusedVariables false
set_option linter.unusedSimpArgs false
/-- A node at a path is looked at, and changed. -/
def upD (c : Cred) (p : List UInt8) (chk : Ino → Int) (upd : Ino → Ino) (f : FS) : Int ⊕ FS :=
  if (lookS f c p).2 ≠ 0 then .inl (lookS f c p).2 else
  if chk (f.nodes.getD (lookS f c p).1.toNat Ino.z) ≠ 0 then .inl (chk (f.nodes.getD (lookS f c p).1.toNat Ino.z)) else
  .inr { f with nodes := f.nodes.set (lookS f c p).1.toNat (upd (f.nodes.getD (lookS f c p).1.toNat Ino.z)) }
theorem up_look {c : Cred} {p : List UInt8} {chk : Ino → Int} {upd : Ino → Ino} {f : FS} {e : Int} (h : lookS f c p = (0, e)) (he : e ≠ 0) : upD c p chk upd f = .inl e := by
  unfold upD
  rw [h, if_pos he]
theorem up_chk {c : Cred} {p : List UInt8} {chk : Ino → Int} {upd : Ino → Ino} {f : FS} {k : Nat} {e : Int} (h : lookS f c p = (zi k, 0)) (hc : chk (f.nodes.getD k Ino.z) = e) (he : e ≠ 0) : upD c p chk upd f = .inl e := by
  unfold upD
  rw [h, if_neg (by simp)]
  dsimp only
  rw [zi_toNat, hc, if_pos he]
theorem up_ok {c : Cred} {p : List UInt8} {chk : Ino → Int} {upd : Ino → Ino} {f : FS} {k : Nat} (h : lookS f c p = (zi k, 0)) (hc : chk (f.nodes.getD k Ino.z) = 0) : upD c p chk upd f = .inr { f with nodes := f.nodes.set k (upd (f.nodes.getD k Ino.z)) } := by
  unfold upD
  rw [h, if_neg (by simp)]
  dsimp only
  rw [zi_toNat, hc, if_neg (by simp)]
/-- Behind a store into a node: the row told. -/
theorem put_inoC {n i : Th Nat} {g : Th Nat → AV} {c : AV} {K : (Th Nat → AV) → Prop} (xs : List Ino) (v : Ino) (hn : n .o = xs.length) (hg : ∀ i, i < xs.length → g (fun _ => i) = Ino.ch fun _ => xs.getD i Ino.z)
    (hi : i .o < xs.length) (hc : c = Ino.ch fun _ => v) (h : K fun j => Ino.ch fun _ => (xs.set (i .o) v).getD (j .o) Ino.z) : PutAt n i g (some c) K :=
  put_rows Ino.ch Ino.z xs v hn hg hi (by rw [hc]) h
theorem rowlen {l l' : List Ino} (h : l'.length = l.length) : (fun _ : O1 => l.length) = fun _ => l'.length := funext fun _ => h.symm
end Go.Proofs.YtkklflpfklbbcaaGreatDoor
/- Which flags may be: walked. -/
namespace Go.Proofs.YtkklflpfklbbcaaGreatDoor
open Go Go.Proofs.YtkklflpfklbbcaaGreatDoor.Sx F
set_option linter.unusedVariables false
set_option linter.unusedSimpArgs false
end Go.Proofs.YtkklflpfklbbcaaGreatDoor
/- What may be said of a node: its parts, walked. -/
namespace Go.Proofs.YtkklflpfklbbcaaGreatDoor
open Go Go.Proofs.YtkklflpfklbbcaaGreatDoor.Sx F
set_option linter.unusedVariables false
set_option linter.unusedSimpArgs false
def Caps.zero : Caps := ⟨0, 0, 0, false, 0⟩
def Caps.ch (c : Th Caps) : AV := .cons (.int .i64 fun _ => (c .o).ver) (.cons (.int .u64 fun _ => (c .o).perm) (.cons (.int .u64 fun _ => (c .o).inh) (.cons (.bool fun _ => (c .o).eff) (.cons (.int .i64 fun _ => (c .o).root) .nil))))
def Caps.av (c : Th Caps) : AV := .agg (Caps.ch c)
end Go.Proofs.YtkklflpfklbbcaaGreatDoor
/- Which access lists may be: walked, exact. -/
namespace Go.Proofs.YtkklflpfklbbcaaGreatDoor
open Go Go.Proofs.YtkklflpfklbbcaaGreatDoor.Sx F
set_option linter.unusedVariables false
set_option linter.unusedSimpArgs false
def namedT (t : Int) : Prop := t = 2 ∨ t = 4
def AceOk (a : Ace) : Prop := 0 ≤ a.perm ∧ a.perm ≤ 7 ∧ 0 ≤ a.id ∧ a.id ≤ 2147483647 ∧ (a.id = 0 ∨ a.tag = 2 ∨ a.tag = 4)
def aft (a b : Ace) : Prop := a.tag < b.tag ∨ a.tag = b.tag ∧ a.id < b.id
def cntN (l : List Ace) (k t : Nat) : Nat := (l.take k).countP fun a => decide (a.tag = (t : Int))
structure AclTo (l : List Ace) (k : Nat) : Prop where
  tag : ∀ j, j < k → 1 ≤ (l.getD j Ace.z).tag ∧ (l.getD j Ace.z).tag ≤ 6
  ok : ∀ j, j < k → AceOk (l.getD j Ace.z)
  up : ∀ j, j + 1 < k → aft (l.getD j Ace.z) (l.getD (j + 1) Ace.z)
structure AclOk (l : List Ace) : Prop where
  to : AclTo l l.length
  own : cntN l l.length 1 = 1
  grp : cntN l l.length 3 = 1
  oth : cntN l l.length 6 = 1
  msk : cntN l l.length 5 = min 1 (cntN l l.length 2 + cntN l l.length 4)
  len : l.length ≤ 32
theorem take_succ_getD {α : Type} (l : List α) (z : α) (k : Nat) (h : k < l.length) : l.take (k + 1) = l.take k ++ [l.getD k z] := by
  rw [List.take_succ_eq_append_getElem h, List.getD_eq_getElem?_getD, List.getElem?_eq_getElem h]; rfl
theorem cntN_succ (l : List Ace) (k t : Nat) (h : k < l.length) : cntN l (k + 1) t = cntN l k t + if (l.getD k Ace.z).tag = (t : Int) then 1 else 0 := by
  unfold cntN
  rw [take_succ_getD l Ace.z k h, List.countP_append, List.countP_cons, List.countP_nil]
  by_cases q : (l.getD k Ace.z).tag = (t : Int) <;> simp only [q, decide_true, decide_false, if_true, if_false, Nat.zero_add, Bool.false_eq_true]
theorem cntN_le (l : List Ace) (k t : Nat) : cntN l k t ≤ k := Nat.le_trans List.countP_le_length (List.length_take_le _ _)
theorem cntN_zero (l : List Ace) (t : Nat) : cntN l 0 t = 0 := rfl
/-- Unnamed parts stand once at most. -/
theorem cntN_once {l : List Ace} {k t : Nat} (h : AclTo l k) (hk : k ≤ l.length) (ht : t ≠ 2 ∧ t ≠ 4) : cntN l k t ≤ 1 ∧ (cntN l k t = 1 → 0 < k → (l.getD (k - 1) Ace.z).tag ≥ (t : Int)) ∧ ∀ j, j < k → (l.getD j Ace.z).tag ≤ (l.getD (k - 1) Ace.z).tag := by
  induction k with
  | zero => exact ⟨by rw [cntN_zero]; omega, fun h => by rw [cntN_zero] at h; omega, fun j hj => by omega⟩
  | succ k ih =>
    obtain ⟨i1, i2, i3⟩ := ih ⟨fun j hj => h.tag j (by omega), fun j hj => h.ok j (by omega), fun j hj => h.up j (by omega)⟩ (by omega)
    have hok := h.ok k (by omega)
    rw [cntN_succ l k t (by omega)]
    have hup : 0 < k → aft (l.getD (k - 1) Ace.z) (l.getD k Ace.z) := fun q => by have := h.up (k - 1) (by omega); rwa [show k - 1 + 1 = k by omega] at this
    have hle : 0 < k → (l.getD (k - 1) Ace.z).tag ≤ (l.getD k Ace.z).tag := fun q => by rcases hup q with q | q <;> omega
    simp only [Nat.add_sub_cancel]
    refine ⟨?_, ?_, fun j hj => ?_⟩
    · split
      · rename_i q
        by_cases hk0 : 0 < k
        · have : cntN l k t ≠ 1 := fun e => by
            have h1 := i2 e hk0
            have h2 := hup hk0
            have h3 := h.ok (k - 1) (by omega)
            unfold AceOk at h3 hok
            rcases h2 with h2 | h2
            · omega
            · omega
          omega
        · have : cntN l k t ≤ k := cntN_le _ _ _
          omega
      · omega
    · intro e _
      split at e
      · omega
      · rename_i q
        by_cases hk0 : 0 < k
        · have := i2 (by omega) hk0
          have := hle hk0
          omega
        · have := cntN_le l k t
          omega
    · rcases Nat.lt_or_ge j k with q | q
      · have := i3 j q
        have := hle (by omega)
        omega
      · obtain rfl : j = k := by omega
        exact Int.le_refl _
theorem AclOk.good {l : List Ace} (h : AclOk l) : Good l := by
  have one : ∀ t : Nat, cntN l l.length t = 1 → ∃ a ∈ l, a.tag = (t : Int) := by
    intro t ht
    unfold cntN at ht
    rw [List.take_length] at ht
    obtain ⟨a, ha, hat⟩ := List.countP_pos_iff.1 (by rw [ht]; exact Nat.one_pos)
    exact ⟨a, ha, by simpa using hat⟩
  refine ⟨fun a ha => ?_, one 1 h.own, one 3 h.grp, one 6 h.oth⟩
  obtain ⟨j, hj, rfl⟩ := List.getElem_of_mem ha
  have := h.to.ok j hj
  unfold AceOk at this
  rw [List.getD_eq_getElem?_getD, List.getElem?_eq_getElem hj] at this
  exact ⟨this.1, by have := this.2.1; simp only [Option.getD_some] at this; omega⟩
def cntL (l : List Ace) (k : Nat) : List Int := (List.range 7).map fun t => (cntN l k t : Int)
theorem cntL_len (l : List Ace) (k : Nat) : (cntL l k).length = 7 := by simp [cntL]
theorem cntL_at (l : List Ace) (k : Nat) {t : Nat} (h : t < 7) : (cntL l k).getD t 0 = (cntN l k t : Int) := by
  unfold cntL
  rw [List.getD_eq_getElem?_getD, List.getElem?_map, List.getElem?_range h]; rfl
theorem cntL_succ (l : List Ace) (k : Nat) (hk : k < l.length) {t : Nat} (ht : t < 7) (he : (l.getD k Ace.z).tag = (t : Int)) : (cntL l k).set t ((cntN l k t : Int) + 1) = cntL l (k + 1) := by
  apply List.ext_getElem?
  intro i
  rw [List.getElem?_set]
  unfold cntL
  rw [List.getElem?_map, List.getElem?_map, List.length_map, List.length_range]
  by_cases hi : i < 7
  · rw [List.getElem?_range hi]
    simp only [Option.map_some]
    rw [cntN_succ l k i hk, he]
    by_cases q : t = i
    · subst q; simp [ht]
    · rw [if_neg q, if_neg (by omega)]; simp
  · rw [List.getElem?_eq_none (by simp; omega)]
    simp only [Option.map_none]
    rw [if_neg (by omega)]
theorem named9_c (a : Th Ace) {d : Nat} {K : ARes → BL → Prop} (hr : ∀ b : Th Bool, (b .o = true ↔ namedT (a .o).tag) → K (.ret (.bool b)) .nil) : CallAt PT r9_named [Ace.av a] d .nil K := by
  refine CallAt.res ?_
  refine r9_named.of rfl rfl ?_
  cbv
  (repeat' (first | (refine br_dec (fun h => ?_) (fun h => ?_) <;> cbv) | (refine br_rev (br_dec (fun h => ?_) (fun h => ?_)) <;> cbv) | (refine br_ndec (fun h => ?_) (fun h => ?_) <;> cbv) | (refine br_rev (br_ndec (fun h => ?_) (fun h => ?_)) <;> cbv)))
  all_goals (first | exact ⟨_, .ret (.tt rfl), hr (fun _ => true) (by (try dsimp only at *); (try simp only [decide_eq_true_eq, true_iff, false_iff, Bool.false_eq_true, namedT]); omega)⟩ | exact ⟨_, .ret (.ff rfl), hr (fun _ => false) (by (try dsimp only at *); (try simp only [decide_eq_true_eq, true_iff, false_iff, Bool.false_eq_true, namedT]); omega)⟩ | exact ⟨_, .ret (.refl _), hr _ (by (try dsimp only at *); (try simp only [decide_eq_true_eq, true_iff, false_iff, Bool.false_eq_true, namedT]); omega)⟩)
end Go.Proofs.YtkklflpfklbbcaaGreatDoor
/- Which access lists may be: the loops walked, exact. -/
namespace Go.Proofs.YtkklflpfklbbcaaGreatDoor
open Go Go.Proofs.YtkklflpfklbbcaaGreatDoor.Sx F
set_option linter.unusedVariables false
set_option linter.unusedSimpArgs false
def lastA (l : List Ace) (k : Nat) : Ace := if k = 0 then Ace.z else l.getD (k - 1) Ace.z
theorem aclTo_succ {l : List Ace} {k : Nat} (h : AclTo l k) (h1 : 1 ≤ (l.getD k Ace.z).tag ∧ (l.getD k Ace.z).tag ≤ 6) (h2 : AceOk (l.getD k Ace.z)) (h3 : k = 0 ∨ aft (lastA l k) (l.getD k Ace.z)) : AclTo l (k + 1) := by
  refine ⟨fun j hj => ?_, fun j hj => ?_, fun j hj => ?_⟩
  · rcases Nat.lt_or_ge j k with q | q
    · exact h.tag j q
    · obtain rfl : j = k := by omega
      exact h1
  · rcases Nat.lt_or_ge j k with q | q
    · exact h.ok j q
    · obtain rfl : j = k := by omega
      exact h2
  · rcases Nat.lt_or_ge (j + 1) k with q | q
    · exact h.up j q
    · obtain rfl : k = j + 1 := by omega
      rcases h3 with h3 | h3
      · omega
      · unfold lastA at h3
        rw [if_neg (by omega)] at h3
        exact h3
theorem aclTo_aft {l : List Ace} {k : Nat} (h : AclTo l l.length) (hk : k < l.length) : aft (lastA l k) (l.getD k Ace.z) := by
  unfold lastA
  split
  · exact .inl (by have := (h.tag k hk).1; show (0 : Int) < _; omega)
  · have := h.up (k - 1) (by omega)
    rwa [show k - 1 + 1 = k by omega] at this
end Go.Proofs.YtkklflpfklbbcaaGreatDoor
/- The document's lists that may be: walked, exact; modes of lists. -/
namespace Go.Proofs.YtkklflpfklbbcaaGreatDoor
open Go Go.Proofs.YtkklflpfklbbcaaGreatDoor.Sx F
set_option linter.unusedVariables false
set_option linter.unusedSimpArgs false
theorem aclOk_three {l : List Ace} (h : AclOk l) : 3 ≤ l.length := by
  have a := h.own
  have b := h.grp
  have c := h.oth
  unfold cntN at a b c
  rw [List.take_length] at a b c
  have hsum : ∀ r : List Ace, r.countP (fun a => decide (a.tag = ((1 : Nat) : Int))) + r.countP (fun a => decide (a.tag = ((3 : Nat) : Int))) + r.countP (fun a => decide (a.tag = ((6 : Nat) : Int))) ≤ r.length := by
    intro r
    induction r with
    | nil => simp
    | cons x r ih =>
      simp only [List.countP_cons, List.length_cons]
      by_cases q1 : x.tag = ((1 : Nat) : Int)
      · have q3 : ¬ x.tag = ((3 : Nat) : Int) := by omega
        have q6 : ¬ x.tag = ((6 : Nat) : Int) := by omega
        simp only [q1, q3, q6, decide_true, decide_false, if_true, if_false, Bool.false_eq_true]
        simp only [q1] at q3 q6
        simp only [q3, q6, decide_false, if_false, Bool.false_eq_true]
        omega
      · by_cases q3 : x.tag = ((3 : Nat) : Int)
        · have q6 : ¬ x.tag = ((6 : Nat) : Int) := by omega
          have e1 : decide (x.tag = ((1 : Nat) : Int)) = false := decide_eq_false q1
          have e3 : decide (x.tag = ((3 : Nat) : Int)) = true := decide_eq_true q3
          have e6 : decide (x.tag = ((6 : Nat) : Int)) = false := decide_eq_false q6
          rw [e1, e3, e6]
          simp only [if_true, Bool.false_eq_true, if_false]
          omega
        · have e1 : decide (x.tag = ((1 : Nat) : Int)) = false := decide_eq_false q1
          have e3 : decide (x.tag = ((3 : Nat) : Int)) = false := decide_eq_false q3
          rw [e1, e3]
          simp only [Bool.false_eq_true, if_false]
          split <;> omega
  have := hsum l
  omega
theorem msk_iff (n5 n2 n4 : Nat) (h5 : n5 ≤ 1) (h2 : n2 ≤ 32) (h4 : n4 ≤ 32) : (decide ((n5 : Int) = 1) == decide (0 < IntKind.i64.wrap ((n2 : Int) + (n4 : Int)))) = true ↔ n5 = min 1 (n2 + n4) := by
  have e : IntKind.i64.wrap ((n2 : Int) + (n4 : Int)) = (n2 : Int) + (n4 : Int) := by rw [IntKind.wrap_i64]; omega
  rw [e, beq_iff_eq, decide_eq_decide]
  omega
theorem may9_c (l : Th (List Ace)) (hl : short (l .o)) {d : Nat} {K : ARes → BL → Prop} (hr : ∀ b : Th Bool, (b .o = true ↔ AclOk (l .o)) → K (.ret (.bool b)) .nil) : CallAt PT r9_MayAcl [aces l] d .nil K := by
  refine CallAt.res ?_
  have hf : ¬ AclOk (l .o) → ∃ r', SameR (.ret .ff) r' ∧ K r' .nil := fun h => ⟨_, .ret (.ff rfl), hr (fun _ => false) ⟨fun q => (by cases q), fun q => (h q).elim⟩⟩
  refine r9_MayAcl.of rfl rfl ?_
  cbv
  refine br_rev (br_dec (fun h1 => ?_) (fun h1 => ?_))
  · cbv
    exact hf fun q => by have := aclOk_three q; have h1 : zi (l .o).length < 3 := h1; unfold zi at h1; omega
  cbv
  refine br_dec (fun h2 => ?_) (fun h2 => ?_)
  · cbv
    exact hf fun q => by have := q.len; have h2 : 32 < zi (l .o).length := h2; unfold zi at h2; omega
  have h2 : (l .o).length ≤ 32 := by have h2 : ¬ 32 < zi (l .o).length := h2; unfold zi at h2; omega
  (cbv; repeat (refine safe (by first | decide | (simp only [zi] at *; omega) | assumption | (dsimp only; omega) | (dsimp only at *; simp only [List.length_append, List.length_cons, List.length_nil, zi] at *; omega)) ?_; cbv))
  refine loop_at (X := Nat) 1000 [0, 3] [] (fun _ k => .cons 4 (.int .i64 fun _ => zi k) .nil) (fun _ k => .cons 14 (rowB 1 intCh 0 fun _ => cntL (l .o) k) .nil)
    (fun k => k ≤ (l .o).length ∧ AclTo (l .o) k) (fun k => (l .o).length - k) 0 ?_ ⟨Nat.zero_le _, ⟨fun j hj => by omega, fun j hj => by omega, fun j hj => by omega⟩⟩ ?_
  · cbv
    (repeat' (first | exact True.intro | exact Same.refl _ | exact SameB.refl _ | exact ⟨rfl⟩ | exact Same.int rfl | exact Same.str rfl | exact Same.bool rfl | (refine Same.int ?_; simp only [List.length_append, List.length_cons, List.length_nil, zi]; omega) | (refine SameB.row' rfl fun i hi => ?_; first | rfl | exact absurd hi (Nat.not_lt_zero _)) | refine And.intro ?_ ?_ | refine SameB.cells ?_ | exact SameC.nil | refine SameC.cons ?_ ?_ | exact Same.nsl rfl | exact Same.tt rfl | exact Same.ff rfl))
    all_goals
      refine SameB.row' rfl fun i hi => ?_
      have hi : i < 7 := hi
      match i, hi with
      | 0, _ | 1, _ | 2, _ | 3, _ | 4, _ | 5, _ | 6, _ => rfl
  · rintro k ⟨hk, hto⟩
    have hz := zi_toNat k
    have hcl := cntL_len (l .o) k
    cbv
    ((try refine br_rev ?_); (first | refine br_dec (fun h3 => ?_) (fun h3 => ?_) | refine br_ndec (fun h3 => ?_) (fun h3 => ?_) | refine br_nbool (fun h3 => ?_) (fun h3 => ?_) | refine br_bool (fun h3 => ?_) (fun h3 => ?_)); all_goals (try dsimp only at h3); all_goals (try with_reducible replace h3 := zi_lt.1 h3); all_goals (try with_reducible replace h3 := not_zlt h3))
    · have h3 : k < (l .o).length := h3
      cbv
      refine safe ⟨zi_nonneg _, zi_lt.2 h3⟩ ?_
      rw [hz]
      refine br_rev (br_dec (fun h4 => ?_) (fun h4 => ?_))
      · cbv
        exact hf fun q => by have := (q.to.tag k h3).1; have h4 : ((l .o).getD k Ace.z).tag < 1 := h4; omega
      have h4 : ¬ ((l .o).getD k Ace.z).tag < 1 := h4
      cbv
      refine br_rev (br_dec (fun h5 => ?_) (fun h5 => ?_))
      · cbv
        exact hf fun q => by have := (q.to.tag k h3).2; have h5 : 6 < ((l .o).getD k Ace.z).tag := h5; omega
      have h5 : ¬ 6 < ((l .o).getD k Ace.z).tag := h5
      cbv
      refine br_rev (br_dec (fun h6 => ?_) (fun h6 => ?_))
      · cbv
        exact hf fun q => by have := (q.to.ok k h3).1; have h6 : ((l .o).getD k Ace.z).perm < 0 := h6; omega
      have h6 : ¬ ((l .o).getD k Ace.z).perm < 0 := h6
      cbv
      refine br_rev (br_dec (fun h7 => ?_) (fun h7 => ?_))
      · cbv
        exact hf fun q => by have := (q.to.ok k h3).2.1; have h7 : 7 < ((l .o).getD k Ace.z).perm := h7; omega
      have h7 : ¬ 7 < ((l .o).getD k Ace.z).perm := h7
      cbv
      refine br_rev (br_dec (fun h8 => ?_) (fun h8 => ?_))
      · cbv
        exact hf fun q => by have := (q.to.ok k h3).2.2.1; have h8 : ((l .o).getD k Ace.z).id < 0 := h8; omega
      have h8 : ¬ ((l .o).getD k Ace.z).id < 0 := h8
      cbv
      refine br_rev (br_dec (fun h9 => ?_) (fun h9 => ?_))
      · cbv
        exact hf fun q => by have := (q.to.ok k h3).2.2.2.1; have h9 : 2147483647 < ((l .o).getD k Ace.z).id := h9; omega
      have h9 : ¬ 2147483647 < ((l .o).getD k Ace.z).id := h9
      cbv
      refine named9_c (fun _ => (l .o).getD k Ace.z) fun nb hnb => ?_
      have hnb : nb .o = true ↔ namedT ((l .o).getD k Ace.z).tag := hnb
      cbv
      have hT : 0 ≤ ((l .o).getD k Ace.z).tag ∧ ((l .o).getD k Ace.z).tag < zi (cntL (l .o) k).length := by
        rw [hcl]
        have : zi 7 = 7 := rfl
        omega
      have hTn : ((l .o).getD k Ace.z).tag.toNat < (cntL (l .o) k).length := by rw [hcl]; omega
      have htt : ((l .o).getD k Ace.z).tag = ((((l .o).getD k Ace.z).tag.toNat : Nat) : Int) := by omega
      have hcn := cntN_le (l .o) k ((l .o).getD k Ace.z).tag.toNat
      have hset : (cntL (l .o) k).set ((l .o).getD k Ace.z).tag.toNat (IntKind.i64.wrap ((cntL (l .o) k).getD ((l .o).getD k Ace.z).tag.toNat 0 + 1)) = cntL (l .o) (k + 1) := by
        rw [cntL_at _ _ (by omega), show IntKind.i64.wrap ((cntN (l .o) k ((l .o).getD k Ace.z).tag.toNat : Int) + 1) = (cntN (l .o) k ((l .o).getD k Ace.z).tag.toNat : Int) + 1 by rw [IntKind.wrap_i64]; omega]
        exact cntL_succ _ _ h3 (by omega) htt
      have succ := zi_succ (k := k) (by omega)
      have ok : (¬ ((l .o).getD k Ace.z).id = 0 → nb .o = true) → AceOk ((l .o).getD k Ace.z) := fun q => ⟨by omega, by omega, by omega, by omega, by
        by_cases e : ((l .o).getD k Ace.z).id = 0
        · exact .inl e
        · exact .inr (hnb.1 (q e))⟩
      refine br_nbool (fun ha => ?_) (fun ha => ?_)
      focus
        cbv
        refine br_ndec (fun hb => ?_) (fun hb => ?_)
        focus
          cbv
          exact hf fun q => by
            have hb : ¬ ((l .o).getD k Ace.z).id = 0 := hb
            have := (q.to.ok k h3).2.2.2.2
            have hn : ¬ namedT ((l .o).getD k Ace.z).tag := fun e => by rw [hnb.2 e] at ha; cases ha
            unfold namedT at hn
            omega
        replace ok := ok fun q => (q hb).elim
      rotate_left
      focus replace ok := ok fun _ => ha
      all_goals
        cbv
        refine br_dec (fun hc => ?_) (fun hc => ?_)
      all_goals cbv
      rotate_left
      focus
        replace hto := aclTo_succ hto ⟨by omega, by omega⟩ ok (.inl (by have hc : ¬ 0 < zi k := hc; unfold zi at hc; omega))
      rotate_left 2
      focus
        replace hto := aclTo_succ hto ⟨by omega, by omega⟩ ok (.inl (by have hc : ¬ 0 < zi k := hc; unfold zi at hc; omega))
      rotate_left
      all_goals try (
        have hc : 0 < k := by have hc : 0 < zi k := hc; unfold zi at hc; omega
        have hi1 : 0 ≤ IntKind.i64.wrap (zi k - 1) ∧ IntKind.i64.wrap (zi k - 1) < zi (l .o).length := by rw [IntKind.wrap_i64]; unfold zi; omega
        have hi2 : (IntKind.i64.wrap (zi k - 1)).toNat = k - 1 := by rw [IntKind.wrap_i64]; unfold zi; omega
        have hlast : lastA (l .o) k = (l .o).getD (k - 1) Ace.z := by unfold lastA; rw [if_neg (by omega)]
        refine safe hi1 ?_
        rw [hi2]
        refine br_rev (br_dec (fun hd => ?_) (fun hd => ?_))
        focus
          cbv
          exact hf fun q => by
            have := aclTo_aft q.to h3
            rw [hlast] at this
            have hd : ((l .o).getD k Ace.z).tag < ((l .o).getD (k - 1) Ace.z).tag := hd
            rcases this with q | q <;> omega
        have hd : ¬ ((l .o).getD k Ace.z).tag < ((l .o).getD (k - 1) Ace.z).tag := hd
        cbv
        refine safe hi1 ?_
        rw [hi2]
        refine br_dec (fun he => ?_) (fun he => ?_)
        focus
          have he : ((l .o).getD k Ace.z).tag = ((l .o).getD (k - 1) Ace.z).tag := he
          cbv
          refine named9_c (fun _ => (l .o).getD k Ace.z) fun nb2 hnb2 => ?_
          have hnb2 : nb2 .o = true ↔ namedT ((l .o).getD k Ace.z).tag := hnb2
          cbv
          refine br_rev (br_nbool (fun hg => ?_) (fun hg => ?_))
          focus
            cbv
            exact hf fun q => by
              have h10 := aclTo_aft q.to h3
              rw [hlast] at h10
              have h11 := (q.to.ok k h3).2.2.2.2
              have h12 := (q.to.ok (k - 1) (by omega)).2.2.2.2
              have hn : ¬ namedT ((l .o).getD k Ace.z).tag := fun e => by rw [hnb2.2 e] at hg; cases hg
              unfold namedT at hn
              rcases h10 with q | q <;> omega
          cbv
          refine safe hi1 ?_
          rw [hi2]
          refine br_dec (fun hj => ?_) (fun hj => ?_)
          focus
            cbv
            exact hf fun q => by
              have h10 := aclTo_aft q.to h3
              rw [hlast] at h10
              have hj : ((l .o).getD k Ace.z).id ≤ ((l .o).getD (k - 1) Ace.z).id := hj
              rcases h10 with q | q <;> omega
          have hj : ¬ ((l .o).getD k Ace.z).id ≤ ((l .o).getD (k - 1) Ace.z).id := hj
          replace hto := aclTo_succ hto ⟨by omega, by omega⟩ ok (.inr (by rw [hlast]; exact .inr ⟨by omega, by omega⟩))
          cbv
        rotate_left
        focus
          have he : ¬ ((l .o).getD k Ace.z).tag = ((l .o).getD (k - 1) Ace.z).tag := he
          replace hto := aclTo_succ hto ⟨by omega, by omega⟩ ok (.inr (by rw [hlast]; exact .inl (by omega)))
          cbv)
      all_goals
        refine safe hT ?_
        refine safe hTn ?_
        refine safe hT ?_
        refine put_rows intCh 0 (cntL (l .o) k) (IntKind.i64.wrap ((cntL (l .o) k).getD ((l .o).getD k Ace.z).tag.toNat 0 + 1)) rfl (fun i hi => rfl) hTn rfl ?_
        cbv
        rw [hset]
        refine ⟨k + 1, ⟨h3, hto⟩, by omega, ?_⟩
        cbv
        (repeat' (first | exact True.intro | exact Same.refl _ | exact SameB.refl _ | exact ⟨rfl⟩ | exact Same.int rfl | exact Same.str rfl | exact Same.bool rfl | (refine Same.int ?_; simp only [List.length_append, List.length_cons, List.length_nil, zi]; omega) | (refine SameB.row' rfl fun i hi => ?_; first | rfl | exact absurd hi (Nat.not_lt_zero _)) | refine And.intro ?_ ?_ | refine SameB.cells ?_ | exact SameC.nil | refine SameC.cons ?_ ?_ | exact Same.nsl rfl | exact Same.tt rfl | exact Same.ff rfl))
        all_goals first | exact Same.int succ | exact SameB.row' (by simp [cntL]) fun i hi => rfl
    · obtain rfl : k = (l .o).length := by have h3 : (l .o).length ≤ k := h3; omega
      have cn : ∀ t : Nat, t < 7 → 0 ≤ (t : Int) ∧ (t : Int) < zi (cntL (l .o) (l .o).length).length := fun t ht => by rw [hcl]; unfold zi; omega
      have cm : ∀ t : Nat, t < 7 → t < (cntL (l .o) (l .o).length).length := fun t ht => by rw [hcl]; exact ht
      have cv : ∀ t : Nat, t < 7 → (cntL (l .o) (l .o).length).getD t 0 = (cntN (l .o) (l .o).length t : Int) := fun t ht => cntL_at _ _ ht
      have hc2 := cntN_le (l .o) (l .o).length 2
      have hc4 := cntN_le (l .o) (l .o).length 4
      have hc5 := (cntN_once hto (Nat.le_refl _) (t := 5) (by decide)).1
      cbv
      refine safe (cn 1 (by decide)) ?_
      refine safe (cm 1 (by decide)) ?_
      refine br_dec (fun a1 => ?_) (fun a1 => ?_)
      rotate_left
      · cbv
        exact hf fun q => a1 (by show (cntL (l .o) (l .o).length).getD 1 0 = 1; rw [cv 1 (by decide), q.own]; rfl)
      cbv
      refine safe (cn 3 (by decide)) ?_
      refine safe (cm 3 (by decide)) ?_
      refine br_dec (fun a3 => ?_) (fun a3 => ?_)
      rotate_left
      · cbv
        exact hf fun q => a3 (by show (cntL (l .o) (l .o).length).getD 3 0 = 1; rw [cv 3 (by decide), q.grp]; rfl)
      cbv
      refine safe (cn 6 (by decide)) ?_
      refine safe (cm 6 (by decide)) ?_
      refine br_dec (fun a6 => ?_) (fun a6 => ?_)
      rotate_left
      · cbv
        exact hf fun q => a6 (by show (cntL (l .o) (l .o).length).getD 6 0 = 1; rw [cv 6 (by decide), q.oth]; rfl)
      have a1 : (cntL (l .o) (l .o).length).getD 1 0 = 1 := a1
      have a3 : (cntL (l .o) (l .o).length).getD 3 0 = 1 := a3
      have a6 : (cntL (l .o) (l .o).length).getD 6 0 = 1 := a6
      rw [cv 1 (by decide)] at a1
      rw [cv 3 (by decide)] at a3
      rw [cv 6 (by decide)] at a6
      have b1 : cntN (l .o) (l .o).length 1 = 1 := Int.ofNat.inj a1
      have b3 : cntN (l .o) (l .o).length 3 = 1 := Int.ofNat.inj a3
      have b6 : cntN (l .o) (l .o).length 6 = 1 := Int.ofNat.inj a6
      cbv
      refine safe (cn 5 (by decide)) ?_
      refine safe (cm 5 (by decide)) ?_
      refine safe (cn 2 (by decide)) ?_
      refine safe (cm 2 (by decide)) ?_
      refine safe (cn 4 (by decide)) ?_
      refine safe (cm 4 (by decide)) ?_
      refine ⟨_, .ret (.refl _), hr _ ?_⟩
      show (decide ((cntL (l .o) (l .o).length).getD 5 0 = 1) == decide (0 < IntKind.i64.wrap ((cntL (l .o) (l .o).length).getD 2 0 + (cntL (l .o) (l .o).length).getD 4 0))) = true ↔ _
      rw [cv 5 (by decide), cv 2 (by decide), cv 4 (by decide)]
      rw [msk_iff _ _ _ hc5 (by omega) (by omega)]
      exact ⟨fun q => ⟨hto, b1, b3, b6, q, h2⟩, fun q => q.msk⟩
/-- A list's mode. -/
def modeA (l : List Ace) : Int := permR l 1 * 64 + (if permR l 5 < 0 then permR l 3 else permR l 5) * 8 + permR l 6
theorem perm8 {l : List Ace} (h : Good l) (t : Int) : permR l t = -1 ∨ (0 ≤ permR l t ∧ permR l t < 8) := by
  unfold permR permS
  cases e : l.find? fun a => decide (a.tag = t) with
  | none => exact .inl rfl
  | some a => exact .inr (h.perm a (List.mem_of_find?_eq_some e))
theorem perm8' {l : List Ace} (h : Good l) {t : Int} (ht : ∃ a ∈ l, a.tag = t) : 0 ≤ permR l t ∧ permR l t < 8 := by
  obtain ⟨p, h1, h2⟩ := perm_some h ht
  unfold permR
  rw [h1]; exact h2
theorem mode9_c (l : Th (List Ace)) (hl : short (l .o)) (hg : Good (l .o)) {d : Nat} {K : ARes → BL → Prop} (hr : ∀ n : Th Int, n .o = modeA (l .o) → K (.ret (.int .i64 n)) .nil) : CallAt PT r9_ModeAcl [aces l] d .nil K := by
  refine CallAt.res ?_
  have k1 := perm8' hg hg.own
  have k3 := perm8' hg hg.grp
  have k6 := perm8' hg hg.oth
  have k5 := perm8 hg 5
  have wr : ∀ a b c : Int, 0 ≤ a ∧ a < 8 → 0 ≤ b ∧ b < 8 → 0 ≤ c ∧ c < 8 → IntKind.i64.wrap (IntKind.i64.wrap (IntKind.i64.wrap (a * 64) + IntKind.i64.wrap (b * 8)) + c) = a * 64 + b * 8 + c := fun a b c ha hb hc => by
    simp only [IntKind.wrap_i64]
    omega
  refine r9_ModeAcl.of rfl rfl ?_
  cbv
  refine perm9_c l (fun _ => 5) hl fun n5 e5 => ?_
  cbv
  refine br_dec (fun h => ?_) (fun h => ?_)
  · have h : n5 .o < 0 := h
    cbv
    refine perm9_c l (fun _ => 3) hl fun n3 e3 => ?_
    cbv
    refine perm9_c l (fun _ => 1) hl fun n1 e1 => ?_
    cbv
    refine perm9_c l (fun _ => 6) hl fun n6 e6 => ?_
    cbv
    refine ⟨_, .ret (.refl _), hr _ ?_⟩
    show IntKind.i64.wrap (IntKind.i64.wrap (IntKind.i64.wrap (n1 .o * 64) + IntKind.i64.wrap (n3 .o * 8)) + n6 .o) = _
    rw [e1, e3, e6, wr _ _ _ k1 k3 k6]
    unfold modeA
    rw [if_pos (e5 ▸ h)]
  · have h : ¬ n5 .o < 0 := h
    cbv
    refine perm9_c l (fun _ => 1) hl fun n1 e1 => ?_
    cbv
    refine perm9_c l (fun _ => 6) hl fun n6 e6 => ?_
    cbv
    refine ⟨_, .ret (.refl _), hr _ ?_⟩
    show IntKind.i64.wrap (IntKind.i64.wrap (IntKind.i64.wrap (n1 .o * 64) + IntKind.i64.wrap (n5 .o * 8)) + n6 .o) = _
    have h' : ¬ permR (l .o) 5 < 0 := fun q => h (by rw [e5]; exact q)
    rw [e1, e5, e6, wr _ _ _ k1 (by rcases k5 with q | q; omega; exact q) k6]
    unfold modeA
    rw [if_neg h']
end Go.Proofs.YtkklflpfklbbcaaGreatDoor
/- A builder's methods: the kit's contracts at this program, laid by hand (its tool passes them by). -/
namespace Go.Proofs
open Go.Shelf
end Go.Proofs
/- A builder whose buffer lies above all that a call has made ahead of it: its methods, with all else kept. -/
namespace Go.Proofs.YtkklflpfklbbcaaGreatDoor
open Go Go.RowKit Go.Shelf
set_option linter.unusedVariables false
set_option linter.unusedSimpArgs false
end Go.Proofs.YtkklflpfklbbcaaGreatDoor
/- escape.Put, at the machine's level, by the kit's walk; then as a contract. -/
namespace Go.Proofs.YtkklflpfklbbcaaGreatDoor
open Go Go.RowKit Go.Shelf
set_option linter.unusedVariables false
set_option linter.unusedSimpArgs false
open Go.Proofs.YtkklflpfklbbcaaGreatDoor.Sx F
end Go.Proofs.YtkklflpfklbbcaaGreatDoor
/- Names with values that may be: walked, exact. -/
namespace Go.Proofs.YtkklflpfklbbcaaGreatDoor
open Go Go.Proofs.YtkklflpfklbbcaaGreatDoor.Sx F
set_option linter.unusedVariables false
set_option linter.unusedSimpArgs false
end Go.Proofs.YtkklflpfklbbcaaGreatDoor
/- What the laws make by numbers: entries. -/
namespace Go.Proofs.YtkklflpfklbbcaaGreatDoor
open Go Go.Proofs.YtkklflpfklbbcaaGreatDoor.Sx F
set_option linter.unusedVariables false
set_option linter.unusedSimpArgs false
/-- A Meta that says nothing. -/
def Meta.z : Meta := ⟨0, 0, 0, 0, 0, [], [], [], ⟨0, 0, 0, false, 0⟩, 0⟩
end Go.Proofs.YtkklflpfklbbcaaGreatDoor
/- The law PlanLess, walked: what is laid before all is there gives nobody more. -/
namespace Go.Proofs.YtkklflpfklbbcaaGreatDoor
open Go Go.Proofs.YtkklflpfklbbcaaGreatDoor.Sx F
set_option linter.unusedVariables false
set_option linter.unusedSimpArgs false
end Go.Proofs.YtkklflpfklbbcaaGreatDoor
/- The law PlanFewer, walked: names that are strict are left out. -/
namespace Go.Proofs.YtkklflpfklbbcaaGreatDoor
open Go Go.Proofs.YtkklflpfklbbcaaGreatDoor.Sx F
set_option linter.unusedVariables false
set_option linter.unusedSimpArgs false
end Go.Proofs.YtkklflpfklbbcaaGreatDoor
/- What is tried of an entry: plan.Attrs, walked. -/
namespace Go.Proofs.YtkklflpfklbbcaaGreatDoor
open Go Go.Proofs.YtkklflpfklbbcaaGreatDoor.Sx F
set_option linter.unusedVariables false
set_option linter.unusedSimpArgs false
end Go.Proofs.YtkklflpfklbbcaaGreatDoor
/- The law PlanOrder, walked: in which order attributes are tried. -/
namespace Go.Proofs.YtkklflpfklbbcaaGreatDoor
open Go Go.Proofs.YtkklflpfklbbcaaGreatDoor.Sx F
set_option linter.unusedVariables false
set_option linter.unusedSimpArgs false
end Go.Proofs.YtkklflpfklbbcaaGreatDoor
/- The document's plan, walked; the law PlanMade. -/
namespace Go.Proofs.YtkklflpfklbbcaaGreatDoor
open Go Go.Proofs.YtkklflpfklbbcaaGreatDoor.Sx F
set_option linter.unusedVariables false
set_option linter.unusedSimpArgs false
theorem list_ext_getD {α : Type} {a b : List α} (z : α) (hl : a.length = b.length) (h : ∀ j, j < a.length → a.getD j z = b.getD j z) : a = b := by
  apply List.ext_getElem hl
  intro i h1 h2
  have := h i h1
  simpa [List.getD_eq_getElem?_getD, List.getElem?_eq_getElem h1, List.getElem?_eq_getElem h2] using this
/-- Two lists that differ in a place. -/
theorem list_ne_getD {α : Type} {a b : List α} (z : α) (j : Nat) (h : a.getD j z ≠ b.getD j z) : a ≠ b := fun e => h (by rw [e])
end Go.Proofs.YtkklflpfklbbcaaGreatDoor
/- Sameness of what is said of nodes. -/
namespace Go.Proofs.YtkklflpfklbbcaaGreatDoor
open Go Go.Proofs.YtkklflpfklbbcaaGreatDoor.Sx F
set_option linter.unusedVariables false
set_option linter.unusedSimpArgs false
theorem sameA_c (a b : Th (List Ace)) (ha : short (a .o)) {d : Nat} {K : ARes → BL → Prop} (hr : ∀ r : Th Bool, (r .o = true ↔ a .o = b .o) → K (.ret (.bool r)) .nil) : CallAt PT r9_SameAcl [aces a, aces b] d .nil K := by
  refine CallAt.res ?_
  refine r9_SameAcl.of rfl rfl ?_
  cbv
  have no : ∀ {x : AV}, a .o ≠ b .o → Same x (.bool fun _ => false) → ∃ r', SameR (.ret x) r' ∧ K r' .nil := fun h1 h2 => ⟨_, .ret h2, hr _ ⟨fun q => (by cases q), fun q => (h1 q).elim⟩⟩
  refine br_ndec (fun h1 => ?_) (fun h1 => ?_)
  · cbv
    exact no (fun q => h1 (by rw [q])) (.ff rfl)
  · have h1 : (a .o).length = (b .o).length := zi_inj.1 h1
    cbv
    refine loop_rule (X := Nat) 1000 [0, 1] [] (fun k => .cons 5 (.int .i64 fun _ => zi k) .nil) (fun _ => .nil) (fun k => k ≤ (a .o).length ∧ ∀ j, j < k → (a .o).getD j Ace.z = (b .o).getD j Ace.z) (fun k => (a .o).length - k) 0 ?_ ⟨Nat.zero_le _, fun j hj => by omega⟩ ?_
    · cbv
      (repeat' (first | exact True.intro | exact Same.refl _ | exact SameB.refl _ | exact ⟨rfl⟩ | exact Same.int rfl | exact Same.str rfl | exact Same.bool rfl | (refine Same.int ?_; simp only [List.length_append, List.length_cons, List.length_nil, zi]; omega) | (refine SameB.row' rfl fun i hi => ?_; first | rfl | exact absurd hi (Nat.not_lt_zero _)) | refine And.intro ?_ ?_ | refine SameB.cells ?_ | exact SameC.nil | refine SameC.cons ?_ ?_ | exact Same.nsl rfl | exact Same.tt rfl | exact Same.ff rfl))
    · rintro k ⟨hk, heq⟩
      have hz := zi_toNat k
      cbv
      ((try refine br_rev ?_); (first | refine br_dec (fun h2 => ?_) (fun h2 => ?_) | refine br_ndec (fun h2 => ?_) (fun h2 => ?_) | refine br_nbool (fun h2 => ?_) (fun h2 => ?_) | refine br_bool (fun h2 => ?_) (fun h2 => ?_)); all_goals (try dsimp only at h2); all_goals (try with_reducible replace h2 := zi_lt.1 h2); all_goals (try with_reducible replace h2 := not_zlt h2))
      · cbv
        refine safe ⟨zi_nonneg _, zi_lt.2 h2⟩ ?_
        refine safe ⟨zi_nonneg _, zi_lt.2 (by omega)⟩ ?_
        refine br_nbool (fun h3 => ?_) (fun h3 => ?_)
        · cbv
          refine no (list_ne_getD Ace.z k fun q => ?_) (.ff rfl)
          rw [hz, q] at h3
          simp at h3
        · rw [hz] at h3
          simp only [Bool.and_eq_true, decide_eq_true_eq] at h3
          have h3' : (a .o).getD k Ace.z = (b .o).getD k Ace.z := by
            have e1 := h3.1
            have e2 := h3.2.1
            have e3 := h3.2.2.1
            generalize (a .o).getD k Ace.z = p at e1 e2 e3 ⊢
            generalize (b .o).getD k Ace.z = q at e1 e2 e3 ⊢
            cases p; cases q
            simp only at e1 e2 e3
            rw [e1, e2, e3]
          cbv
          refine ⟨k + 1, ⟨h2, fun j hj => ?_⟩, by omega, ?_⟩
          · by_cases e : j = k
            · rw [e]; exact h3'
            · exact heq j (by omega)
          · cbv
            rw [zi_succ (by unfold short at ha; omega)]
            (repeat' (first | exact True.intro | exact Same.refl _ | exact SameB.refl _ | exact ⟨rfl⟩ | exact Same.int rfl | exact Same.str rfl | exact Same.bool rfl | (refine Same.int ?_; simp only [List.length_append, List.length_cons, List.length_nil, zi]; omega) | (refine SameB.row' rfl fun i hi => ?_; first | rfl | exact absurd hi (Nat.not_lt_zero _)) | refine And.intro ?_ ?_ | refine SameB.cells ?_ | exact SameC.nil | refine SameC.cons ?_ ?_ | exact Same.nsl rfl | exact Same.tt rfl | exact Same.ff rfl))
      · cbv
        exact ⟨_, .ret (y := .bool fun _ => true) (.tt rfl), hr _ ⟨fun _ => list_ext_getD Ace.z h1 fun j hj => heq j (by omega), fun _ => rfl⟩⟩
end Go.Proofs.YtkklflpfklbbcaaGreatDoor
/- What may be said of a node, and whether two are one: walked, exact. -/
namespace Go.Proofs.YtkklflpfklbbcaaGreatDoor
open Go Go.Proofs.YtkklflpfklbbcaaGreatDoor.Sx F
set_option linter.unusedVariables false
set_option linter.unusedSimpArgs false
end Go.Proofs.YtkklflpfklbbcaaGreatDoor
/- meta.May, the document's, what is too heavy: walked, exact. -/
namespace Go.Proofs.YtkklflpfklbbcaaGreatDoor
open Go Go.Proofs.YtkklflpfklbbcaaGreatDoor.Sx F
set_option linter.unusedVariables false
set_option linter.unusedSimpArgs false
end Go.Proofs.YtkklflpfklbbcaaGreatDoor
/- The program's file system: closures that change a node: its capabilities, its flags. -/
namespace Go.Proofs.YtkklflpfklbbcaaGreatDoor
open Go Go.Proofs.YtkklflpfklbbcaaGreatDoor.Sx F
set_option linter.unusedVariables false
set_option linter.unusedSimpArgs false
end Go.Proofs.YtkklflpfklbbcaaGreatDoor
/- The program's file system: the closure that changes a node's owner. -/
namespace Go.Proofs.YtkklflpfklbbcaaGreatDoor
open Go Go.Proofs.YtkklflpfklbbcaaGreatDoor.Sx F
set_option linter.unusedVariables false
set_option linter.unusedSimpArgs false
def capsZ : Caps := ⟨0, 0, 0, false, 0⟩
def ownC (c : Cred) (uid gid : Int) (n : Ino) : Bool := decide (c.uid = n.mt.uid) && decide (c.uid = uid) && inS c gid
def updChown (uid gid : Int) (n : Ino) : Ino := if n.kind = 1 then { n with mt := { n.mt with uid := uid, gid := gid, mode := abits .andNot .i64 n.mt.mode 3072, caps := capsZ } } else { n with mt := { n.mt with uid := uid, gid := gid } }
theorem set_set' {l : List Ino} {k : Nat} {x y : Ino} : (l.set k x).set k y = l.set k y := List.set_set ..
theorem getD_set' {l : List Ino} {k : Nat} {x : Ino} (h : k < l.length) : (l.set k x).getD k Ino.z = x := by
  rw [List.getD_eq_getElem?_getD, List.getElem?_set_self h]; rfl
end Go.Proofs.YtkklflpfklbbcaaGreatDoor
/- The program's file system: lists by a mode, names that need a power. -/
namespace Go.Proofs.YtkklflpfklbbcaaGreatDoor
open Go Go.Proofs.YtkklflpfklbbcaaGreatDoor.Sx F
set_option linter.unusedVariables false
set_option linter.unusedSimpArgs false
/-- What a part comes to by a mode: who is the class of the group? -/
def turnA (cls mode : Int) (a : Ace) : Ace :=
  if a.tag = 1 then { a with perm := band (mode.fdiv (2 ^ min (Int.toNat 6) IntKind.i64.bits)) 7 } else
  if a.tag = cls then { a with perm := band (mode.fdiv (2 ^ min (Int.toNat 3) IntKind.i64.bits)) 7 } else
  if a.tag = 6 then { a with perm := band mode 7 } else a
def hasMask (l : List Ace) : Bool := l.any fun a => decide (a.tag = 5)
def turnL (l : List Ace) (mode : Int) : List Ace := l.map (turnA (if hasMask l = true then 5 else 3) mode)
theorem turned1_c (a : Th Ace) {d : Nat} {K : ARes → BL → Prop} (hr : ∀ b : Th Bool, b .o = decide ((a .o).tag = 5) → K (.ret (.bool b)) .nil) : CallAt PT fs_turned_1 [.agg (Ace.ch a)] d .nil K := by
  refine fs_turned_1.of rfl rfl ?_
  cbv
  exact hr _ rfl
theorem indexT_c (l : Th (List Ace)) (hl : (l .o).length ≤ 1000) {d : Nat} {K : ARes → BL → Prop}
    (hr : ∀ n : Th Int, (0 ≤ n .o ↔ hasMask (l .o) = true) → K (.ret (.int .i64 n)) .nil) :
    CallAt PT slices_IndexFunc_api_Ace_api_Ace [aces l, .fn (.func fs_turned_1) .nil .nil] d .nil K := by
  refine slices_IndexFunc_api_Ace_api_Ace.of rfl rfl ?_
  cbv
  refine loop_at (X := Nat) 1000 [0, 1, 7] [] (fun _ k => .cons 8 (.int .i64 fun _ => zi k) .nil) (fun _ _ => .nil) (fun k => k ≤ (l .o).length ∧ ∀ j, j < k → decide (((l .o).getD j Ace.z).tag = 5) = false) (fun k => (l .o).length - k) 0 ?_ ⟨Nat.zero_le _, fun j hj => by omega⟩ ?_
  · cbv
    (repeat' (first | exact True.intro | exact Same.refl _ | exact SameB.refl _ | exact ⟨rfl⟩ | exact Same.int rfl | exact Same.str rfl | exact Same.bool rfl | (refine Same.int ?_; simp only [List.length_append, List.length_cons, List.length_nil, zi]; omega) | (refine SameB.row' rfl fun i hi => ?_; first | rfl | exact absurd hi (Nat.not_lt_zero _)) | refine And.intro ?_ ?_ | refine SameB.cells ?_ | exact SameC.nil | refine SameC.cons ?_ ?_ | exact Same.nsl rfl | exact Same.tt rfl | exact Same.ff rfl))
  · rintro k ⟨hk, hk2⟩
    cbv
    ((try refine br_rev ?_); (first | refine br_dec (fun h1 => ?_) (fun h1 => ?_) | refine br_ndec (fun h1 => ?_) (fun h1 => ?_) | refine br_nbool (fun h1 => ?_) (fun h1 => ?_) | refine br_bool (fun h1 => ?_) (fun h1 => ?_)); all_goals (try dsimp only at h1); all_goals (try with_reducible replace h1 := zi_lt.1 h1); all_goals (try with_reducible replace h1 := not_zlt h1))
    · cbv
      refine safe ⟨zi_nonneg _, zi_lt.2 h1⟩ ?_
      refine turned1_c (fun _ => (l .o).getD (zi k).toNat Ace.z) fun b hb => ?_
      rw [zi_toNat] at hb
      cbv
      refine br_bool (fun h2 => ?_) (fun h2 => ?_)
      · cbv
        exact hr (fun _ => zi k) (iff_of_true (zi_nonneg k) (any_at _ Ace.z _ k h1 (by rw [← hb]; exact h2)))
      · cbv
        refine ⟨k + 1, ⟨h1, ?_⟩, by omega, ?_⟩
        · intro j hj
          by_cases he : j = k
          · subst he; rw [← hb]; exact h2
          · exact hk2 j (by omega)
        · cbv
          rw [zi_succ (by omega)]
          (repeat' (first | exact True.intro | exact Same.refl _ | exact SameB.refl _ | exact ⟨rfl⟩ | exact Same.int rfl | exact Same.str rfl | exact Same.bool rfl | (refine Same.int ?_; simp only [List.length_append, List.length_cons, List.length_nil, zi]; omega) | (refine SameB.row' rfl fun i hi => ?_; first | rfl | exact absurd hi (Nat.not_lt_zero _)) | refine And.intro ?_ ?_ | refine SameB.cells ?_ | exact SameC.nil | refine SameC.cons ?_ ?_ | exact Same.nsl rfl | exact Same.tt rfl | exact Same.ff rfl))
    · cbv
      exact hr (fun _ => -1) (iff_of_false (by decide) (by rw [show hasMask (l .o) = false from any_no _ Ace.z _ fun j hj => hk2 j (by omega)]; simp))
theorem containsT_c (l : Th (List Ace)) (hl : (l .o).length ≤ 1000) {d : Nat} {K : ARes → BL → Prop} (hr : ∀ b : Th Bool, b .o = hasMask (l .o) → K (.ret (.bool b)) .nil) :
    CallAt PT slices_ContainsFunc_api_Ace_api_Ace [aces l, .fn (.func fs_turned_1) .nil .nil] d .nil K := by
  refine slices_ContainsFunc_api_Ace_api_Ace.of rfl rfl ?_
  cbv
  refine indexT_c l hl fun n hn => ?_
  cbv
  exact hr _ (by rw [Bool.eq_iff_iff, ← hn]; exact decide_eq_true_iff)
end Go.Proofs.YtkklflpfklbbcaaGreatDoor
/- The program's file system: a list by a mode. -/
namespace Go.Proofs.YtkklflpfklbbcaaGreatDoor
open Go Go.Proofs.YtkklflpfklbbcaaGreatDoor.Sx F
set_option linter.unusedVariables false
set_option linter.unusedSimpArgs false
theorem cloneAO_of {xs : List AV} {d : Nat} {K : ARes → BL → Prop} (hn : xs.length = 1) (h : awp ⟨PT, 8, exitO PT slices_Clone_api_Ace_api_Ace.rs d K⟩ 10000 [.code slices_Clone_api_Ace_api_Ace.rc] ⟨params 0 xs, .nil, .nil⟩) : CallAt PT slices_Clone_api_Ace_api_Ace xs d .nil K :=
  call_of_awp_o 10000 Tryz.func119 rfl (by kernel_rfl) (by kernel_rfl) (by kernel_rfl) (by rw [hn]; decide) h
theorem cloneAO_c (l : Th (List Ace)) (hl : (l .o).length ≤ 1000) {d : Nat} {K : ARes → BL → Prop} (h0 : (l .o).length = 0 → K (.ret .nsl) .nil) (hr : K (.ret (.row d)) (.cons d (rowB 3 Ace.ch Ace.z l) .nil)) : CallAt PT slices_Clone_api_Ace_api_Ace [aces l] d .nil K := by
  refine cloneAO_of rfl ?_
  cbv
  intro b hb
  refine br_bool (fun h => ?_) (fun h => ?_)
  · cbv
    exact h0 (hb h)
  · cbv
    refine app_rows0 Ace.ch Ace.z (l .o) rfl rfl (fun i hi => rfl) (by omega) ?_
    cbv
    exact hr
/-- The first k turned. -/
def turnK (l : List Ace) (cls mode : Int) (k : Nat) : List Ace := (l.take k).map (turnA cls mode) ++ l.drop k
theorem turnK_len (l : List Ace) (cls mode : Int) (k : Nat) : (turnK l cls mode k).length = l.length := by
  unfold turnK
  rw [List.length_append, List.length_map, List.length_take, List.length_drop]
  omega
theorem turnK_at {l : List Ace} {cls mode : Int} {k : Nat} (h : k < l.length) : (turnK l cls mode k).getD k Ace.z = l.getD k Ace.z := by
  unfold turnK
  rw [List.getD_eq_getElem?_getD, List.getElem?_append_right (by rw [List.length_map, List.length_take]; omega), List.length_map, List.length_take, Nat.min_eq_left (by omega), Nat.sub_self, List.getElem?_drop, List.getD_eq_getElem?_getD]
  rfl
theorem turnK_succ {l : List Ace} {cls mode : Int} {k : Nat} (h : k < l.length) : turnK l cls mode (k + 1) = (turnK l cls mode k).set k (turnA cls mode (l.getD k Ace.z)) := by
  have hm : ((l.take k).map (turnA cls mode)).length = k := by rw [List.length_map, List.length_take]; omega
  unfold turnK
  rw [List.take_succ_eq_append_getElem h, List.drop_eq_getElem_cons h, List.set_append_right _ _ (by omega), hm, Nat.sub_self, List.set_cons_zero, List.map_append, List.append_assoc, List.getD_eq_getElem?_getD, List.getElem?_eq_getElem h]
  rfl
theorem turnK_end (l : List Ace) (cls mode : Int) : turnK l cls mode l.length = l.map (turnA cls mode) := by
  unfold turnK
  rw [List.take_length, List.drop_length, List.append_nil]
theorem turnK_keep {l : List Ace} {cls mode : Int} {k : Nat} (h : k < l.length) (ht : turnA cls mode (l.getD k Ace.z) = l.getD k Ace.z) : turnK l cls mode (k + 1) = turnK l cls mode k := by
  rw [turnK_succ h, ht, ← turnK_at (cls := cls) (mode := mode) h]
  refine List.ext_getElem? fun i => ?_
  rw [List.getElem?_set]
  split
  · rename_i e
    subst e
    split
    · rename_i q
      rw [List.getD_eq_getElem?_getD, List.getElem?_eq_getElem q]; rfl
    · rename_i q
      rw [List.getElem?_eq_none (Nat.le_of_not_lt q)]
  · rfl
set_option maxHeartbeats 4000000 in
theorem turned_c (l : Th (List Ace)) (mode : Th Int) (hl : (l .o).length ≤ 1000) {d : Nat} {K : ARes → BL → Prop} (hr : ∀ r : Th (List Ace), r .o = turnL (l .o) (mode .o) → K (.ret (aces r)) .nil) : CallAt PT fs_turned [aces l, .int .i64 mode] d .nil K := by
  refine CallAt.res ?_
  refine fs_turned.of rfl rfl ?_
  cbv
  refine containsT_c l hl fun b hb => ?_
  cbv
  refine br_bool (fun s1 => ?_) (fun s1 => ?_)
  · have s1 : b .o = true := s1
    have hcls : turnL (l .o) (mode .o) = (l .o).map (turnA 5 (mode .o)) := by unfold turnL; rw [← hb, s1]; rfl
    cbv
    refine cloneAO_c l hl (fun h0 => ?_) ?_
    · have h0 : l .o = [] := List.eq_nil_of_length_eq_zero h0
      cbv
      refine loop_at (X := Unit) 1000 [4, 6, 13, 14] [] (fun _ _ => .cons 15 (.int .i64 fun _ => 0) .nil) (fun _ _ => .nil) (fun _ => True) (fun _ => 0) () ?_ trivial ?_
      · cbv
        (repeat' (first | exact True.intro | exact Same.refl _ | exact SameB.refl _ | exact ⟨rfl⟩ | exact Same.int rfl | exact Same.str rfl | exact Same.bool rfl | (refine Same.int ?_; simp only [List.length_append, List.length_cons, List.length_nil, zi]; omega) | (refine SameB.row' rfl fun i hi => ?_; first | rfl | exact absurd hi (Nat.not_lt_zero _)) | refine And.intro ?_ ?_ | refine SameB.cells ?_ | exact SameC.nil | refine SameC.cons ?_ ?_ | exact Same.nsl rfl | exact Same.tt rfl | exact Same.ff rfl))
      · intro _ _
        cbv
        refine br_not (decide_eq_false (by decide)) ?_
        cbv
        exact ⟨_, .ret (y := aces fun _ => []) (.nsl rfl), hr _ (by rw [hcls, h0]; rfl)⟩
    cbv
    refine loop_at (X := Nat) 1000 [1, 4, 5, 6, 13, 14] [] (fun _ k => .cons 15 (.int .i64 fun _ => zi k) .nil) (fun _ k => .cons 12 (rowB 3 Ace.ch Ace.z fun _ => turnK (l .o) 5 (mode .o) k) .nil) (fun k => k ≤ (l .o).length) (fun k => (l .o).length - k) 0 ?_ (Nat.zero_le _) ?_
    · cbv
      (repeat' (first | exact True.intro | exact Same.refl _ | exact SameB.refl _ | exact ⟨rfl⟩ | exact Same.int rfl | exact Same.str rfl | exact Same.bool rfl | (refine Same.int ?_; simp only [List.length_append, List.length_cons, List.length_nil, zi]; omega) | (refine SameB.row' rfl fun i hi => ?_; first | rfl | exact absurd hi (Nat.not_lt_zero _)) | refine And.intro ?_ ?_ | refine SameB.cells ?_ | exact SameC.nil | refine SameC.cons ?_ ?_ | exact Same.nsl rfl | exact Same.tt rfl | exact Same.ff rfl))
    · intro k hk
      have hk : k ≤ (l .o).length := hk
      have hkz := zi_toNat k
      have hlen := turnK_len (l .o) 5 (mode .o) k
      have succ := zi_succ (k := k) (by omega)
      cbv
      refine br_zlt (fun r1 => ?_) (fun r1 => ?_)
      · have r1 : k < (l .o).length := r1
        have hs := turnK_succ (cls := 5) (mode := mode .o) r1
        have hke := turnK_keep (cls := 5) (mode := mode .o) r1
        have hat := turnK_at (cls := 5) (mode := mode .o) r1
        have hat2 : (turnK (l .o) 5 (mode .o) k).getD k ⟨0, 0, 0⟩ = (l .o).getD k Ace.z := hat
        have r2 : k < (turnK (l .o) 5 (mode .o) k).length := by rw [hlen]; exact r1
        have hend : ∀ {g : Th Nat → AV}, True := fun {g} => trivial
        cbv
        refine safe ⟨zi_nonneg _, zi_lt.2 r2⟩ ?_
        refine safe (by rw [hkz]; exact r2) ?_
        simp only [hkz, hat2]
        refine br_dec (fun s2 => ?_) (fun s2 => ?_)
        · have s2 : ((l .o).getD k Ace.z).tag = 1 := s2
          have ht : turnA 5 (mode .o) ((l .o).getD k Ace.z) = { (l .o).getD k Ace.z with perm := band ((mode .o).fdiv (2 ^ min (Int.toNat 6) IntKind.i64.bits)) 7 } := by unfold turnA; rw [if_pos s2]
          rw [ht] at hs
          cbv
          refine safe (by decide) ?_
          refine safe ⟨zi_nonneg _, zi_lt.2 r2⟩ ?_
          refine put_rows Ace.ch Ace.z (turnK (l .o) 5 (mode .o) k) { (l .o).getD k Ace.z with perm := band ((mode .o).fdiv (2 ^ min (Int.toNat 6) IntKind.i64.bits)) 7 } rfl (fun i hi => rfl) (by show (zi k).toNat < _; rw [hkz]; exact r2) (by simp only [hkz, hat2]; rfl) ?_
          cbv
          simp only [hkz]
          refine ⟨k + 1, r1, by omega, ?_⟩
          cbv
          rw [succ, hs]
          (repeat' (first | exact True.intro | exact Same.refl _ | exact SameB.refl _ | exact ⟨rfl⟩ | exact Same.int rfl | exact Same.str rfl | exact Same.bool rfl | (refine Same.int ?_; simp only [List.length_append, List.length_cons, List.length_nil, zi]; omega) | (refine SameB.row' rfl fun i hi => ?_; first | rfl | exact absurd hi (Nat.not_lt_zero _)) | refine And.intro ?_ ?_ | refine SameB.cells ?_ | exact SameC.nil | refine SameC.cons ?_ ?_ | exact Same.nsl rfl | exact Same.tt rfl | exact Same.ff rfl))
          all_goals exact SameB.row' List.length_set.symm fun i hi => rfl
        have s2 : ¬ ((l .o).getD k Ace.z).tag = 1 := s2
        cbv
        refine br_dec (fun s3 => ?_) (fun s3 => ?_)
        · have s3 : ((l .o).getD k Ace.z).tag = 5 := s3
          have ht : turnA 5 (mode .o) ((l .o).getD k Ace.z) = { (l .o).getD k Ace.z with perm := band ((mode .o).fdiv (2 ^ min (Int.toNat 3) IntKind.i64.bits)) 7 } := by unfold turnA; rw [if_neg s2, if_pos s3]
          rw [ht] at hs
          cbv
          refine safe (by decide) ?_
          refine safe ⟨zi_nonneg _, zi_lt.2 r2⟩ ?_
          refine put_rows Ace.ch Ace.z (turnK (l .o) 5 (mode .o) k) { (l .o).getD k Ace.z with perm := band ((mode .o).fdiv (2 ^ min (Int.toNat 3) IntKind.i64.bits)) 7 } rfl (fun i hi => rfl) (by show (zi k).toNat < _; rw [hkz]; exact r2) (by simp only [hkz, hat2]; rfl) ?_
          cbv
          simp only [hkz]
          refine ⟨k + 1, r1, by omega, ?_⟩
          cbv
          rw [succ, hs]
          (repeat' (first | exact True.intro | exact Same.refl _ | exact SameB.refl _ | exact ⟨rfl⟩ | exact Same.int rfl | exact Same.str rfl | exact Same.bool rfl | (refine Same.int ?_; simp only [List.length_append, List.length_cons, List.length_nil, zi]; omega) | (refine SameB.row' rfl fun i hi => ?_; first | rfl | exact absurd hi (Nat.not_lt_zero _)) | refine And.intro ?_ ?_ | refine SameB.cells ?_ | exact SameC.nil | refine SameC.cons ?_ ?_ | exact Same.nsl rfl | exact Same.tt rfl | exact Same.ff rfl))
          all_goals exact SameB.row' List.length_set.symm fun i hi => rfl
        have s3 : ¬ ((l .o).getD k Ace.z).tag = 5 := s3
        cbv
        refine br_dec (fun s4 => ?_) (fun s4 => ?_)
        · have s4 : ((l .o).getD k Ace.z).tag = 6 := s4
          have ht : turnA 5 (mode .o) ((l .o).getD k Ace.z) = { (l .o).getD k Ace.z with perm := band (mode .o) 7 } := by unfold turnA; rw [if_neg s2, if_neg s3, if_pos s4]
          rw [ht] at hs
          cbv
          refine safe ⟨zi_nonneg _, zi_lt.2 r2⟩ ?_
          refine put_rows Ace.ch Ace.z (turnK (l .o) 5 (mode .o) k) { (l .o).getD k Ace.z with perm := band (mode .o) 7 } rfl (fun i hi => rfl) (by show (zi k).toNat < _; rw [hkz]; exact r2) (by simp only [hkz, hat2]; rfl) ?_
          cbv
          simp only [hkz]
          refine ⟨k + 1, r1, by omega, ?_⟩
          cbv
          rw [succ, hs]
          (repeat' (first | exact True.intro | exact Same.refl _ | exact SameB.refl _ | exact ⟨rfl⟩ | exact Same.int rfl | exact Same.str rfl | exact Same.bool rfl | (refine Same.int ?_; simp only [List.length_append, List.length_cons, List.length_nil, zi]; omega) | (refine SameB.row' rfl fun i hi => ?_; first | rfl | exact absurd hi (Nat.not_lt_zero _)) | refine And.intro ?_ ?_ | refine SameB.cells ?_ | exact SameC.nil | refine SameC.cons ?_ ?_ | exact Same.nsl rfl | exact Same.tt rfl | exact Same.ff rfl))
          all_goals exact SameB.row' List.length_set.symm fun i hi => rfl
        have s4 : ¬ ((l .o).getD k Ace.z).tag = 6 := s4
        have ht : turnA 5 (mode .o) ((l .o).getD k Ace.z) = (l .o).getD k Ace.z := by unfold turnA; rw [if_neg s2, if_neg s3, if_neg s4]
        replace hke := hke ht
        cbv
        refine ⟨k + 1, r1, by omega, ?_⟩
        cbv
        rw [succ]
        rw [hke]
        (repeat' (first | exact True.intro | exact Same.refl _ | exact SameB.refl _ | exact ⟨rfl⟩ | exact Same.int rfl | exact Same.str rfl | exact Same.bool rfl | (refine Same.int ?_; simp only [List.length_append, List.length_cons, List.length_nil, zi]; omega) | (refine SameB.row' rfl fun i hi => ?_; first | rfl | exact absurd hi (Nat.not_lt_zero _)) | refine And.intro ?_ ?_ | refine SameB.cells ?_ | exact SameC.nil | refine SameC.cons ?_ ?_ | exact Same.nsl rfl | exact Same.tt rfl | exact Same.ff rfl))
      · obtain rfl : k = (l .o).length := Nat.le_antisymm hk r1
        have he := turnK_end (l .o) 5 (mode .o)
        cbv
        exact ⟨_, .ret (.refl _), hr (fun _ => turnK (l .o) 5 (mode .o) (l .o).length) (by rw [hcls]; exact he)⟩
  · have s1 : b .o = false := s1
    have hcls : turnL (l .o) (mode .o) = (l .o).map (turnA 3 (mode .o)) := by unfold turnL; rw [← hb, s1]; rfl
    cbv
    refine cloneAO_c l hl (fun h0 => ?_) ?_
    · have h0 : l .o = [] := List.eq_nil_of_length_eq_zero h0
      cbv
      refine loop_at (X := Unit) 1000 [4, 6, 13, 14] [] (fun _ _ => .cons 15 (.int .i64 fun _ => 0) .nil) (fun _ _ => .nil) (fun _ => True) (fun _ => 0) () ?_ trivial ?_
      · cbv
        (repeat' (first | exact True.intro | exact Same.refl _ | exact SameB.refl _ | exact ⟨rfl⟩ | exact Same.int rfl | exact Same.str rfl | exact Same.bool rfl | (refine Same.int ?_; simp only [List.length_append, List.length_cons, List.length_nil, zi]; omega) | (refine SameB.row' rfl fun i hi => ?_; first | rfl | exact absurd hi (Nat.not_lt_zero _)) | refine And.intro ?_ ?_ | refine SameB.cells ?_ | exact SameC.nil | refine SameC.cons ?_ ?_ | exact Same.nsl rfl | exact Same.tt rfl | exact Same.ff rfl))
      · intro _ _
        cbv
        refine br_not (decide_eq_false (by decide)) ?_
        cbv
        exact ⟨_, .ret (y := aces fun _ => []) (.nsl rfl), hr _ (by rw [hcls, h0]; rfl)⟩
    cbv
    refine loop_at (X := Nat) 1000 [1, 4, 5, 6, 13, 14] [] (fun _ k => .cons 15 (.int .i64 fun _ => zi k) .nil) (fun _ k => .cons 12 (rowB 3 Ace.ch Ace.z fun _ => turnK (l .o) 3 (mode .o) k) .nil) (fun k => k ≤ (l .o).length) (fun k => (l .o).length - k) 0 ?_ (Nat.zero_le _) ?_
    · cbv
      (repeat' (first | exact True.intro | exact Same.refl _ | exact SameB.refl _ | exact ⟨rfl⟩ | exact Same.int rfl | exact Same.str rfl | exact Same.bool rfl | (refine Same.int ?_; simp only [List.length_append, List.length_cons, List.length_nil, zi]; omega) | (refine SameB.row' rfl fun i hi => ?_; first | rfl | exact absurd hi (Nat.not_lt_zero _)) | refine And.intro ?_ ?_ | refine SameB.cells ?_ | exact SameC.nil | refine SameC.cons ?_ ?_ | exact Same.nsl rfl | exact Same.tt rfl | exact Same.ff rfl))
    · intro k hk
      have hk : k ≤ (l .o).length := hk
      have hkz := zi_toNat k
      have hlen := turnK_len (l .o) 3 (mode .o) k
      have succ := zi_succ (k := k) (by omega)
      cbv
      refine br_zlt (fun r1 => ?_) (fun r1 => ?_)
      · have r1 : k < (l .o).length := r1
        have hs := turnK_succ (cls := 3) (mode := mode .o) r1
        have hke := turnK_keep (cls := 3) (mode := mode .o) r1
        have hat := turnK_at (cls := 3) (mode := mode .o) r1
        have hat2 : (turnK (l .o) 3 (mode .o) k).getD k ⟨0, 0, 0⟩ = (l .o).getD k Ace.z := hat
        have r2 : k < (turnK (l .o) 3 (mode .o) k).length := by rw [hlen]; exact r1
        have hend : ∀ {g : Th Nat → AV}, True := fun {g} => trivial
        cbv
        refine safe ⟨zi_nonneg _, zi_lt.2 r2⟩ ?_
        refine safe (by rw [hkz]; exact r2) ?_
        simp only [hkz, hat2]
        refine br_dec (fun s2 => ?_) (fun s2 => ?_)
        · have s2 : ((l .o).getD k Ace.z).tag = 1 := s2
          have ht : turnA 3 (mode .o) ((l .o).getD k Ace.z) = { (l .o).getD k Ace.z with perm := band ((mode .o).fdiv (2 ^ min (Int.toNat 6) IntKind.i64.bits)) 7 } := by unfold turnA; rw [if_pos s2]
          rw [ht] at hs
          cbv
          refine safe (by decide) ?_
          refine safe ⟨zi_nonneg _, zi_lt.2 r2⟩ ?_
          refine put_rows Ace.ch Ace.z (turnK (l .o) 3 (mode .o) k) { (l .o).getD k Ace.z with perm := band ((mode .o).fdiv (2 ^ min (Int.toNat 6) IntKind.i64.bits)) 7 } rfl (fun i hi => rfl) (by show (zi k).toNat < _; rw [hkz]; exact r2) (by simp only [hkz, hat2]; rfl) ?_
          cbv
          simp only [hkz]
          refine ⟨k + 1, r1, by omega, ?_⟩
          cbv
          rw [succ, hs]
          (repeat' (first | exact True.intro | exact Same.refl _ | exact SameB.refl _ | exact ⟨rfl⟩ | exact Same.int rfl | exact Same.str rfl | exact Same.bool rfl | (refine Same.int ?_; simp only [List.length_append, List.length_cons, List.length_nil, zi]; omega) | (refine SameB.row' rfl fun i hi => ?_; first | rfl | exact absurd hi (Nat.not_lt_zero _)) | refine And.intro ?_ ?_ | refine SameB.cells ?_ | exact SameC.nil | refine SameC.cons ?_ ?_ | exact Same.nsl rfl | exact Same.tt rfl | exact Same.ff rfl))
          all_goals exact SameB.row' List.length_set.symm fun i hi => rfl
        have s2 : ¬ ((l .o).getD k Ace.z).tag = 1 := s2
        cbv
        refine br_dec (fun s3 => ?_) (fun s3 => ?_)
        · have s3 : ((l .o).getD k Ace.z).tag = 3 := s3
          have ht : turnA 3 (mode .o) ((l .o).getD k Ace.z) = { (l .o).getD k Ace.z with perm := band ((mode .o).fdiv (2 ^ min (Int.toNat 3) IntKind.i64.bits)) 7 } := by unfold turnA; rw [if_neg s2, if_pos s3]
          rw [ht] at hs
          cbv
          refine safe (by decide) ?_
          refine safe ⟨zi_nonneg _, zi_lt.2 r2⟩ ?_
          refine put_rows Ace.ch Ace.z (turnK (l .o) 3 (mode .o) k) { (l .o).getD k Ace.z with perm := band ((mode .o).fdiv (2 ^ min (Int.toNat 3) IntKind.i64.bits)) 7 } rfl (fun i hi => rfl) (by show (zi k).toNat < _; rw [hkz]; exact r2) (by simp only [hkz, hat2]; rfl) ?_
          cbv
          simp only [hkz]
          refine ⟨k + 1, r1, by omega, ?_⟩
          cbv
          rw [succ, hs]
          (repeat' (first | exact True.intro | exact Same.refl _ | exact SameB.refl _ | exact ⟨rfl⟩ | exact Same.int rfl | exact Same.str rfl | exact Same.bool rfl | (refine Same.int ?_; simp only [List.length_append, List.length_cons, List.length_nil, zi]; omega) | (refine SameB.row' rfl fun i hi => ?_; first | rfl | exact absurd hi (Nat.not_lt_zero _)) | refine And.intro ?_ ?_ | refine SameB.cells ?_ | exact SameC.nil | refine SameC.cons ?_ ?_ | exact Same.nsl rfl | exact Same.tt rfl | exact Same.ff rfl))
          all_goals exact SameB.row' List.length_set.symm fun i hi => rfl
        have s3 : ¬ ((l .o).getD k Ace.z).tag = 3 := s3
        cbv
        refine br_dec (fun s4 => ?_) (fun s4 => ?_)
        · have s4 : ((l .o).getD k Ace.z).tag = 6 := s4
          have ht : turnA 3 (mode .o) ((l .o).getD k Ace.z) = { (l .o).getD k Ace.z with perm := band (mode .o) 7 } := by unfold turnA; rw [if_neg s2, if_neg s3, if_pos s4]
          rw [ht] at hs
          cbv
          refine safe ⟨zi_nonneg _, zi_lt.2 r2⟩ ?_
          refine put_rows Ace.ch Ace.z (turnK (l .o) 3 (mode .o) k) { (l .o).getD k Ace.z with perm := band (mode .o) 7 } rfl (fun i hi => rfl) (by show (zi k).toNat < _; rw [hkz]; exact r2) (by simp only [hkz, hat2]; rfl) ?_
          cbv
          simp only [hkz]
          refine ⟨k + 1, r1, by omega, ?_⟩
          cbv
          rw [succ, hs]
          (repeat' (first | exact True.intro | exact Same.refl _ | exact SameB.refl _ | exact ⟨rfl⟩ | exact Same.int rfl | exact Same.str rfl | exact Same.bool rfl | (refine Same.int ?_; simp only [List.length_append, List.length_cons, List.length_nil, zi]; omega) | (refine SameB.row' rfl fun i hi => ?_; first | rfl | exact absurd hi (Nat.not_lt_zero _)) | refine And.intro ?_ ?_ | refine SameB.cells ?_ | exact SameC.nil | refine SameC.cons ?_ ?_ | exact Same.nsl rfl | exact Same.tt rfl | exact Same.ff rfl))
          all_goals exact SameB.row' List.length_set.symm fun i hi => rfl
        have s4 : ¬ ((l .o).getD k Ace.z).tag = 6 := s4
        have ht : turnA 3 (mode .o) ((l .o).getD k Ace.z) = (l .o).getD k Ace.z := by unfold turnA; rw [if_neg s2, if_neg s3, if_neg s4]
        replace hke := hke ht
        cbv
        refine ⟨k + 1, r1, by omega, ?_⟩
        cbv
        rw [succ]
        rw [hke]
        (repeat' (first | exact True.intro | exact Same.refl _ | exact SameB.refl _ | exact ⟨rfl⟩ | exact Same.int rfl | exact Same.str rfl | exact Same.bool rfl | (refine Same.int ?_; simp only [List.length_append, List.length_cons, List.length_nil, zi]; omega) | (refine SameB.row' rfl fun i hi => ?_; first | rfl | exact absurd hi (Nat.not_lt_zero _)) | refine And.intro ?_ ?_ | refine SameB.cells ?_ | exact SameC.nil | refine SameC.cons ?_ ?_ | exact Same.nsl rfl | exact Same.tt rfl | exact Same.ff rfl))
      · obtain rfl : k = (l .o).length := Nat.le_antisymm hk r1
        have he := turnK_end (l .o) 3 (mode .o)
        cbv
        exact ⟨_, .ret (.refl _), hr (fun _ => turnK (l .o) 3 (mode .o) (l .o).length) (by rw [hcls]; exact he)⟩
end Go.Proofs.YtkklflpfklbbcaaGreatDoor
/- The program's file system: the closure that changes a node's mode. -/
namespace Go.Proofs.YtkklflpfklbbcaaGreatDoor
open Go Go.Proofs.YtkklflpfklbbcaaGreatDoor.Sx F
set_option linter.unusedVariables false
set_option linter.unusedSimpArgs false
/-- The mode that a node comes to have. -/
def cmM (c : Cred) (mode : Int) (n : Ino) : Int := if (decide (n.kind = 1) && !inS c n.mt.gid && !decide (0 < band c.powers 4)) = true then abits .andNot .i64 mode 1024 else mode
def chkChmod (c : Cred) (n : Ino) : Int := if n.kind = 3 then 10 else if !shutP n.mt && ownS n.mt c then 0 else 7
def updChmod (c : Cred) (mode : Int) (n : Ino) : Ino := { n with mt := { n.mt with mode := cmM c mode n, acl := turnL n.mt.acl (cmM c mode n) } }
def BCm (f : Th FS) (c : Th Cred) (p : Th (List UInt8)) (mode : Th Int) : BL := .cons 10000 (.cells (callC f c 10001)) (.cons 10001 (rowB 20 Ino.ch Ino.z fun _ => (f .o).nodes) (.cons 10002 (.cells (.cons (.str p) .nil)) (.cons 10003 (.cells (Cred.ch c)) (.cons 10004 (.cells (.cons (.int .i64 mode) .nil)) .nil))))
set_option maxHeartbeats 4000000 in
theorem opChmod_c (f : Th FS) (c : Th Cred) (p : Th (List UInt8)) (mode : Th Int) (hW : Walk (f .o) (c .o)) (hp : (p .o).length ≤ 100000) (hpre : True) {d : Nat} {K : ARes → BL → Prop}
    (h1 : ∀ e : Th Int, upD (c .o) (p .o) (chkChmod (c .o)) (updChmod (c .o) (mode .o)) (f .o) = .inl (e .o) → e .o ≠ 0 → ∀ m : Th Int, K (.pan (failV e)) (BCm f c p m))
    (h2 : ∀ g : Th FS, upD (c .o) (p .o) (chkChmod (c .o)) (updChmod (c .o) (mode .o)) (f .o) = .inr (g .o) → ∀ m : Th Int, K (.ret (.tup .nil)) (BCm g c p m)) :
    CallAt PT fs_Chmod_1 [.ptr 10000 0, .ptr 10002 0, .ptr 10003 0, .ptr 10004 0] d (BCm f c p mode) K := by
  refine fs_Chmod_1.of rfl rfl ?_
  cbv
  refine path19_c f c p hW hp (fun k q1 q2 => ?_) (fun e q1 q2 => ?_)
  rotate_left
  · cbv
    exact h1 e (up_look q1 q2) q2 mode
  have hkz := zi_toNat k
  cbv
  refine safe ⟨zi_nonneg _, zi_lt.2 q2⟩ ?_
  refine safe (by rw [hkz]; exact q2) ?_
  simp only [hkz]
  refine mustF_c (fun _ => !decide (((f .o).nodes.getD k Ino.z).kind = 3)) (fun _ => 10) (fun s0 => ?_) (fun s0 => ?_)
  rotate_left
  · have s0 : ((f .o).nodes.getD k Ino.z).kind = 3 := by have s0 : (!decide (((f .o).nodes.getD k Ino.z).kind = 3)) = false := s0; simpa using s0
    cbv
    exact h1 (fun _ => 10) (up_chk q1 (by unfold chkChmod; rw [if_pos s0]) (by decide)) (by decide) mode
  have s0 : ¬ ((f .o).nodes.getD k Ino.z).kind = 3 := by have s0 : (!decide (((f .o).nodes.getD k Ino.z).kind = 3)) = true := s0; simpa using s0
  have bad : (!shutP ((f .o).nodes.getD k Ino.z).mt && ownS ((f .o).nodes.getD k Ino.z).mt (c .o)) = false → K (.pan (failV fun _ => 7)) (BCm f c p mode) := fun h => h1 (fun _ => 7) (up_chk q1 (by unfold chkChmod; rw [if_neg s0, h]; rfl) (by decide)) (by decide) mode
  have good : (!shutP ((f .o).nodes.getD k Ino.z).mt && ownS ((f .o).nodes.getD k Ino.z).mt (c .o)) = true → ∀ m, K (.ret (.tup .nil)) (BCm (fun _ => { f .o with nodes := (f .o).nodes.set k (updChmod (c .o) (mode .o) ((f .o).nodes.getD k Ino.z)) }) c p m) := fun h => h2 _ (up_ok q1 (by unfold chkChmod; rw [if_neg s0, h]; rfl))
  have hlen := rowlen (l := (f .o).nodes) (l' := (f .o).nodes.set k (updChmod (c .o) (mode .o) ((f .o).nodes.getD k Ino.z))) List.length_set
  have hacl := hW.ok.acl _ (node_mem q2)
  cbv
  refine shut19_c f c k q2 fun b1 hb1 => ?_
  rw [← hb1] at bad good
  cbv
  refine ⟨fun s1 => ?_, fun s1 => ?_⟩
  rotate_left
  · have s1 : (!b1 .o) = false := s1
    rw [s1] at bad
    cbv
    refine CallAt.args (.cons (Same.ff rfl) (.cons (Same.refl _) .nil)) (mustF_c (fun _ => false) (fun _ => 7) (fun h => by cases h) (fun _ => ?_))
    cbv
    exact bad rfl
  have s1 : (!b1 .o) = true := s1
  rw [s1] at bad good
  cbv
  refine owner19_c f c k q2 fun b2 hb2 => ?_
  rw [← hb2] at bad good
  cbv
  refine mustF_c b2 (fun _ => 7) (fun s2 => ?_) (fun s2 => ?_)
  rotate_left
  · rw [s2] at bad
    cbv
    exact bad rfl
  rw [s2] at good
  replace good := good rfl
  have hcm : ∀ b : Bool, (decide (((f .o).nodes.getD k Ino.z).kind = 1) && !inS (c .o) ((f .o).nodes.getD k Ino.z).mt.gid && !decide (0 < band (c .o).powers 4)) = b → cmM (c .o) (mode .o) ((f .o).nodes.getD k Ino.z) = if b = true then abits .andNot .i64 (mode .o) 1024 else mode .o := fun b h => by unfold cmM; rw [h]
  cbv
  refine safe ⟨zi_nonneg _, zi_lt.2 q2⟩ ?_
  refine safe ⟨zi_nonneg _, zi_lt.2 q2⟩ ?_
  refine safe (by rw [hkz]; exact q2) ?_
  simp only [hkz]
  refine ⟨fun s3 => ?_, fun s3 => ?_⟩
  rotate_left
  · have s3 : decide (((f .o).nodes.getD k Ino.z).kind = 1) = false := s3
    have hcm := hcm false (by rw [s3]; rfl)
    replace hcm : cmM (c .o) (mode .o) ((f .o).nodes.getD k Ino.z) = mode .o := hcm
    have hupd : updChmod (c .o) (mode .o) ((f .o).nodes.getD k Ino.z) = { (f .o).nodes.getD k Ino.z with mt := { ((f .o).nodes.getD k Ino.z).mt with mode := mode .o, acl := turnL ((f .o).nodes.getD k Ino.z).mt.acl (mode .o) } } := by unfold updChmod; rw [hcm]
    rw [hupd] at good hlen
    cbv
    refine safe q2 ?_
    refine turned_c (fun _ => ((f .o).nodes.getD k Ino.z).mt.acl) (fun _ => mode .o) hacl fun r hr => ?_
    have hr : r .o = turnL ((f .o).nodes.getD k Ino.z).mt.acl (mode .o) := hr
    obtain rfl : r = fun _ => turnL ((f .o).nodes.getD k Ino.z).mt.acl (mode .o) := funext fun | .o => hr
    cbv
    refine put_inoC (f .o).nodes { (f .o).nodes.getD k Ino.z with mt := { ((f .o).nodes.getD k Ino.z).mt with mode := mode .o } } rfl (fun i hi => rfl) q2 rfl ?_
    cbv
    refine put_inoC ((f .o).nodes.set k { (f .o).nodes.getD k Ino.z with mt := { ((f .o).nodes.getD k Ino.z).mt with mode := mode .o } }) { (f .o).nodes.getD k Ino.z with mt := { ((f .o).nodes.getD k Ino.z).mt with mode := mode .o, acl := turnL ((f .o).nodes.getD k Ino.z).mt.acl (mode .o) } } (by rw [List.length_set]) (fun i hi => rfl) (by rw [List.length_set]; exact q2) (by dsimp only; rw [getD_set' q2]; rfl) ?_
    simp only [set_set']
    cbv
    rw [hlen]
    exact good _
  have s3 : decide (((f .o).nodes.getD k Ino.z).kind = 1) = true := s3
  cbv
  refine safe q2 ?_
  refine in_c c (fun _ => ((f .o).nodes.getD k Ino.z).mt.gid) hW.grp fun b3 hb3 => ?_
  have hb3 : b3 .o = inS (c .o) ((f .o).nodes.getD k Ino.z).mt.gid := hb3
  cbv
  refine ⟨fun s4 => ?_, fun s4 => ?_⟩
  rotate_left
  · have s4 : (!b3 .o) = false := s4
    have hcm := hcm false (by rw [s3, ← hb3, s4]; rfl)
    replace hcm : cmM (c .o) (mode .o) ((f .o).nodes.getD k Ino.z) = mode .o := hcm
    have hupd : updChmod (c .o) (mode .o) ((f .o).nodes.getD k Ino.z) = { (f .o).nodes.getD k Ino.z with mt := { ((f .o).nodes.getD k Ino.z).mt with mode := mode .o, acl := turnL ((f .o).nodes.getD k Ino.z).mt.acl (mode .o) } } := by unfold updChmod; rw [hcm]
    rw [hupd] at good hlen
    cbv
    refine safe q2 ?_
    refine turned_c (fun _ => ((f .o).nodes.getD k Ino.z).mt.acl) (fun _ => mode .o) hacl fun r hr => ?_
    have hr : r .o = turnL ((f .o).nodes.getD k Ino.z).mt.acl (mode .o) := hr
    obtain rfl : r = fun _ => turnL ((f .o).nodes.getD k Ino.z).mt.acl (mode .o) := funext fun | .o => hr
    cbv
    refine put_inoC (f .o).nodes { (f .o).nodes.getD k Ino.z with mt := { ((f .o).nodes.getD k Ino.z).mt with mode := mode .o } } rfl (fun i hi => rfl) q2 rfl ?_
    cbv
    refine put_inoC ((f .o).nodes.set k { (f .o).nodes.getD k Ino.z with mt := { ((f .o).nodes.getD k Ino.z).mt with mode := mode .o } }) { (f .o).nodes.getD k Ino.z with mt := { ((f .o).nodes.getD k Ino.z).mt with mode := mode .o, acl := turnL ((f .o).nodes.getD k Ino.z).mt.acl (mode .o) } } (by rw [List.length_set]) (fun i hi => rfl) (by rw [List.length_set]; exact q2) (by dsimp only; rw [getD_set' q2]; rfl) ?_
    simp only [set_set']
    cbv
    rw [hlen]
    exact good _
  have s4 : (!b3 .o) = true := s4
  cbv
  refine power19_c f c (fun _ => 4) fun b4 hb4 => ?_
  have hb4 : b4 .o = decide (0 < band (c .o).powers 4) := hb4
  cbv
  refine br_nbool (fun s5 => ?_) (fun s5 => ?_)
  · have s5 : b4 .o = false := s5
    have hcm := hcm true (by rw [s3, ← hb3, s4, ← hb4, s5]; rfl)
    replace hcm : cmM (c .o) (mode .o) ((f .o).nodes.getD k Ino.z) = abits .andNot .i64 (mode .o) 1024 := hcm
    have hupd : updChmod (c .o) (mode .o) ((f .o).nodes.getD k Ino.z) = { (f .o).nodes.getD k Ino.z with mt := { ((f .o).nodes.getD k Ino.z).mt with mode := abits .andNot .i64 (mode .o) 1024, acl := turnL ((f .o).nodes.getD k Ino.z).mt.acl (abits .andNot .i64 (mode .o) 1024) } } := by unfold updChmod; rw [hcm]
    rw [hupd] at good hlen
    cbv
    refine safe q2 ?_
    refine turned_c (fun _ => ((f .o).nodes.getD k Ino.z).mt.acl) (fun _ => abits .andNot .i64 (mode .o) 1024) hacl fun r hr => ?_
    have hr : r .o = turnL ((f .o).nodes.getD k Ino.z).mt.acl (abits .andNot .i64 (mode .o) 1024) := hr
    obtain rfl : r = fun _ => turnL ((f .o).nodes.getD k Ino.z).mt.acl (abits .andNot .i64 (mode .o) 1024) := funext fun | .o => hr
    cbv
    refine put_inoC (f .o).nodes { (f .o).nodes.getD k Ino.z with mt := { ((f .o).nodes.getD k Ino.z).mt with mode := abits .andNot .i64 (mode .o) 1024 } } rfl (fun i hi => rfl) q2 rfl ?_
    cbv
    refine put_inoC ((f .o).nodes.set k { (f .o).nodes.getD k Ino.z with mt := { ((f .o).nodes.getD k Ino.z).mt with mode := abits .andNot .i64 (mode .o) 1024 } }) { (f .o).nodes.getD k Ino.z with mt := { ((f .o).nodes.getD k Ino.z).mt with mode := abits .andNot .i64 (mode .o) 1024, acl := turnL ((f .o).nodes.getD k Ino.z).mt.acl (abits .andNot .i64 (mode .o) 1024) } } (by rw [List.length_set]) (fun i hi => rfl) (by rw [List.length_set]; exact q2) (by dsimp only; rw [getD_set' q2]; rfl) ?_
    simp only [set_set']
    cbv
    rw [hlen]
    exact good _
  · have s5 : b4 .o = true := s5
    have hcm := hcm false (by rw [s3, ← hb3, s4, ← hb4, s5]; rfl)
    replace hcm : cmM (c .o) (mode .o) ((f .o).nodes.getD k Ino.z) = mode .o := hcm
    have hupd : updChmod (c .o) (mode .o) ((f .o).nodes.getD k Ino.z) = { (f .o).nodes.getD k Ino.z with mt := { ((f .o).nodes.getD k Ino.z).mt with mode := mode .o, acl := turnL ((f .o).nodes.getD k Ino.z).mt.acl (mode .o) } } := by unfold updChmod; rw [hcm]
    rw [hupd] at good hlen
    cbv
    refine safe q2 ?_
    refine turned_c (fun _ => ((f .o).nodes.getD k Ino.z).mt.acl) (fun _ => mode .o) hacl fun r hr => ?_
    have hr : r .o = turnL ((f .o).nodes.getD k Ino.z).mt.acl (mode .o) := hr
    obtain rfl : r = fun _ => turnL ((f .o).nodes.getD k Ino.z).mt.acl (mode .o) := funext fun | .o => hr
    cbv
    refine put_inoC (f .o).nodes { (f .o).nodes.getD k Ino.z with mt := { ((f .o).nodes.getD k Ino.z).mt with mode := mode .o } } rfl (fun i hi => rfl) q2 rfl ?_
    cbv
    refine put_inoC ((f .o).nodes.set k { (f .o).nodes.getD k Ino.z with mt := { ((f .o).nodes.getD k Ino.z).mt with mode := mode .o } }) { (f .o).nodes.getD k Ino.z with mt := { ((f .o).nodes.getD k Ino.z).mt with mode := mode .o, acl := turnL ((f .o).nodes.getD k Ino.z).mt.acl (mode .o) } } (by rw [List.length_set]) (fun i hi => rfl) (by rw [List.length_set]; exact q2) (by dsimp only; rw [getD_set' q2]; rfl) ?_
    simp only [set_set']
    cbv
    rw [hlen]
    exact good _
end Go.Proofs.YtkklflpfklbbcaaGreatDoor
/- The program's file system: the closure that gives a node lists. -/
namespace Go.Proofs.YtkklflpfklbbcaaGreatDoor
open Go Go.Proofs.YtkklflpfklbbcaaGreatDoor.Sx F
set_option linter.unusedVariables false
set_option linter.unusedSimpArgs false
def mayLs (l : List Ace) : Prop := l = [] ∨ AclOk l
def saM (l : List Ace) (n : Ino) : Int := if 0 < l.length then abits .or .i64 (abits .andNot .i64 n.mt.mode 511) (modeA l) else n.mt.mode
def updAcl (l df : List Ace) (n : Ino) : Ino := { n with mt := { n.mt with acl := l, dflt := df, mode := saM l n } }
end Go.Proofs.YtkklflpfklbbcaaGreatDoor
/- The program's file system: the closure that gives a node names with values. -/
namespace Go.Proofs.YtkklflpfklbbcaaGreatDoor
open Go Go.Proofs.YtkklflpfklbbcaaGreatDoor.Sx F
set_option linter.unusedVariables false
set_option linter.unusedSimpArgs false
instance : DecidableEq Xattr := fun a b => decidable_of_iff (a.name = b.name ∧ a.value = b.value) ⟨fun h => by cases a; cases b; simp_all, fun h => by rw [h]; exact ⟨rfl, rfl⟩⟩
end Go.Proofs.YtkklflpfklbbcaaGreatDoor
/- The program's file system: the closure that gives a node one more name. -/
namespace Go.Proofs.YtkklflpfklbbcaaGreatDoor
open Go Go.Proofs.YtkklflpfklbbcaaGreatDoor.Sx F
set_option linter.unusedVariables false
set_option linter.unusedSimpArgs false
end Go.Proofs.YtkklflpfklbbcaaGreatDoor
/- A file system, by the document: a node that is to be changed. -/
namespace Go.Proofs.YtkklflpfklbbcaaGreatDoor
open Go Go.Proofs.YtkklflpfklbbcaaGreatDoor.Sx F
set_option linter.unusedVariables false
set_option linter.unusedSimpArgs false
/-- Begun, and nothing came of it. -/
def setE (f : Th FS) (e : Th Int) : AV := .agg (.cons (inos fun _ => (f .o).nodes) (.cons (.int .i64 fun _ => (f .o).room) (.cons (.int .i64 fun _ => (f .o).op) (.cons (ints fun _ => (f .o).faults) (.cons (.int .i64 fun _ => 0)
  (.cons (.int .i64 fun _ => 0) (.cons (.int .i64 fun _ => 0) (.cons (.int .i64 fun _ => 0) (.cons (.int .i64 fun _ => 0) (.cons (.int .i64 fun _ => 0) (.cons (.int .i64 fun _ => 0) (.cons .nsl (.cons .nsl (.cons .nsl (.cons (.int .i64 fun _ => 0) (.cons (.int .u64 fun _ => 0) (.cons (.int .u64 fun _ => 0) (.cons .ff (.cons (.int .i64 fun _ => 0) (.cons (.int .i64 fun _ => 0) (.cons (.str fun _ => []) (.cons (.str fun _ => []) (.cons (.int .i64 fun _ => 0) (.cons (.int .i64 fun _ => 0) (.cons .nsl (.cons (.int .i64 e) .nil))))))))))))))))))))))))))
/-- Begun, with a node. -/
def setAv (f : Th FS) (k : Th Int) (n : Th Ino) : AV := .agg (.cons (inos fun _ => (f .o).nodes) (.cons (.int .i64 fun _ => (f .o).room) (.cons (.int .i64 fun _ => (f .o).op) (.cons (ints fun _ => (f .o).faults) (.cons (.int .i64 k) ((Ino.ch n).app (.cons (.int .i64 fun _ => 0) .nil)))))))
def begS (f : FS) (c : Cred) (p : List UInt8) (may : Bool) : (FS × Int) ⊕ Nat := match partsS p with
  | none => .inl (f, 1)
  | some l => if may = false then .inl (f, 1) else if askE f ≠ 0 then .inl (askS f, askE f) else
    if (downS (askS f) c l 0).2 ≠ 0 then .inl (askS f, (downS (askS f) c l 0).2) else .inr (downS (askS f) c l 0).1.toNat
theorem begun_c (f : Th FS) (c : Th Cred) (p : Th (List UInt8)) (may : Th Bool) (hf : FsOk (f .o)) (hc : short (c .o).groups) (hp : (p .o).length ≤ 100000) {d : Nat} {K : ARes → BL → Prop}
    (h1 : ∀ (g : Th FS) (e : Th Int), begS (f .o) (c .o) (p .o) (may .o) = .inl (g .o, e .o) → e .o ≠ 0 → K (.ret (setE g e)) .nil)
    (h2 : ∀ k : Nat, begS (f .o) (c .o) (p .o) (may .o) = .inr k → k < (f .o).nodes.length → K (.ret (setAv (fun _ => askS (f .o)) (fun _ => zi k) fun _ => (f .o).nodes.getD k Ino.z)) .nil) : CallAt PT r18_begun [FS.av f, Cred.av c, .str p, .bool may] d .nil K := by
  generalize hV : begS (f .o) (c .o) (p .o) (may .o) = V at h1 h2
  unfold begS at hV
  refine r18_begun.of rfl rfl ?_
  cbv
  refine parts18_c p hp (fun l hl => ?_) (fun hl => ?_)
  rotate_left
  · rw [hl] at hV
    cbv
    exact h1 f (fun _ => 1) hV.symm (by decide)
  rw [hl] at hV
  have hV : (if may .o = false then .inl (f .o, 1) else if askE (f .o) ≠ 0 then .inl (askS (f .o), askE (f .o)) else
    if (downS (askS (f .o)) (c .o) (l .o) 0).2 ≠ 0 then .inl (askS (f .o), (downS (askS (f .o)) (c .o) (l .o) 0).2) else .inr (downS (askS (f .o)) (c .o) (l .o) 0).1.toNat) = V := hV
  have hl64 := parts_len hl
  cbv
  refine br_nbool (fun q1 => ?_) (fun q1 => ?_)
  · rw [if_pos q1] at hV
    cbv
    exact h1 f (fun _ => 1) hV.symm (by decide)
  rw [if_neg (by rw [q1]; simp)] at hV
  cbv
  refine asked_c f hf fun e0 he0 => ?_
  rw [← he0] at hV
  cbv
  refine br_ndec (fun q2 => ?_) (fun q2 => ?_)
  · have q2 : ¬ e0 .o = 0 := q2
    rw [if_pos q2] at hV
    cbv
    exact h1 (fun _ => askS (f .o)) e0 hV.symm q2
  have q2 : e0 .o = 0 := q2
  rw [if_neg (by simpa using q2)] at hV
  cbv
  refine down18_c (fun _ => askS (f .o)) c l hf.ask hc (by omega) fun a e1 ha => ?_
  have ha : downS (askS (f .o)) (c .o) (l .o) 0 = (a .o, e1 .o) := ha
  rw [ha] at hV
  cbv
  refine br_ndec (fun q3 => ?_) (fun q3 => ?_)
  · have q3 : ¬ e1 .o = 0 := q3
    have hV : (if ¬ e1 .o = 0 then (.inl (askS (f .o), e1 .o) : (FS × Int) ⊕ Nat) else .inr (a .o).toNat) = V := hV
    rw [if_pos q3] at hV
    cbv
    exact h1 (fun _ => askS (f .o)) e1 hV.symm q3
  have q3 : e1 .o = 0 := q3
  have hV : (if ¬ e1 .o = 0 then (.inl (askS (f .o), e1 .o) : (FS × Int) ⊕ Nat) else .inr (a .o).toNat) = V := hV
  rw [if_neg (by simpa using q3)] at hV
  rw [q3] at ha
  obtain ⟨ha0, ha1⟩ := down_lt hf.ask _ 0 hf.ne _ ha
  obtain ⟨k, hk⟩ : ∃ k : Nat, a .o = zi k := ⟨(a .o).toNat, by unfold zi; omega⟩
  obtain rfl : a = fun _ => zi k := funext fun | .o => hk
  have hkz := zi_toNat k
  have ha1 : (zi k).toNat < (f .o).nodes.length := ha1
  have hV : (.inr (zi k).toNat : (FS × Int) ⊕ Nat) = V := hV
  rw [hkz] at ha1 hV
  cbv
  refine safe ⟨zi_nonneg _, zi_lt.2 ha1⟩ ?_
  simp only [hkz]
  exact h2 k hV.symm ha1
def endS (f : FS) (k : Nat) (n0 : Ino) (kind allowed : Bool) (n : Ino) : FS × Int := if kind = false then (f, 10) else if allowed = false ∨ shutS n0.mt = true then (f, 7) else (withS f k n, 0)
theorem ended_c (f : Th FS) (k : Nat) (n0 : Th Ino) (kind allowed : Th Bool) (n : Th Ino) (hf : FsOk (f .o)) (hk : k < (f .o).nodes.length) {d : Nat} {K : ARes → BL → Prop}
    (hr : ∀ (g : Th FS) (e : Th Int), endS (f .o) k (n0 .o) (kind .o) (allowed .o) (n .o) = (g .o, e .o) → K (.ret (nextAv g e)) .nil) : CallAt PT r18_ended [setAv f (fun _ => zi k) n0, .bool kind, .bool allowed, Ino.av n] d .nil K := by
  have hkz := zi_toNat k
  unfold endS at hr
  refine r18_ended.of rfl rfl ?_
  cbv
  refine br_nbool (fun q1 => ?_) (fun q1 => ?_)
  · rw [if_pos q1] at hr
    cbv
    refine refused_c f (fun _ => 10) ?_
    cbv
    exact hr f (fun _ => 10) rfl
  rw [if_neg (by rw [q1]; simp)] at hr
  cbv
  refine ⟨fun q2 => ?_, fun q2 => ?_⟩
  rotate_left
  · have q2 : allowed .o = false := by have q2 : (!allowed .o) = true := q2; simpa using q2
    rw [if_pos (.inl q2)] at hr
    cbv
    refine refused_c f (fun _ => 7) ?_
    cbv
    exact hr f (fun _ => 7) rfl
  have q2 : allowed .o = true := by have q2 : (!allowed .o) = false := q2; simpa using q2
  cbv
  refine shut18_c (fun _ => (n0 .o).mt) fun b hb => ?_
  have hb : b .o = shutS (n0 .o).mt := hb
  cbv
  refine br_bool (fun q3 => ?_) (fun q3 => ?_)
  · rw [if_pos (.inr (by rw [← hb]; exact q3))] at hr
    cbv
    refine refused_c f (fun _ => 7) ?_
    cbv
    exact hr f (fun _ => 7) rfl
  rw [if_neg (fun q => q.elim (fun w => by rw [q2] at w; cases w) (fun w => by rw [← hb, q3] at w; cases w))] at hr
  cbv
  refine with18_c f (fun _ => zi k) n hf ⟨zi_nonneg _, by show (zi k).toNat < _; rw [hkz]; exact hk⟩ ?_
  cbv
  simp only [hkz]
  exact hr (fun _ => withS (f .o) k (n .o)) (fun _ => 0) rfl
end Go.Proofs.YtkklflpfklbbcaaGreatDoor
/- A file system, by the document: a node's time, capabilities, flags, owner. -/
namespace Go.Proofs.YtkklflpfklbbcaaGreatDoor
open Go Go.Proofs.YtkklflpfklbbcaaGreatDoor.Sx F
set_option linter.unusedVariables false
set_option linter.unusedSimpArgs false
def own9 (m : Meta) (c : Cred) : Bool := decide (m.uid = c.uid) || !decide (band c.powers 4 = 0)
def has9 (c : Cred) (p : Int) : Bool := !decide (band c.powers p = 0)
theorem beg_inl {f g : FS} {c : Cred} {p : List UInt8} {may : Bool} {e : Int} {chk : Ino → Int} {upd : Ino → Ino} (h : begS f c p may = .inl (g, e)) : chgS f (may && isPath p) (upD c p chk upd) = (g, e) := by
  unfold begS at h
  split at h
  · rename_i hp
    cases h
    exact chg_may (by unfold isPath; rw [hp]; simp)
  · rename_i l hp
    have hi : isPath p = true := by unfold isPath; rw [hp]; rfl
    split at h
    · rename_i hm; cases h; exact chg_may (by rw [hm]; rfl)
    · rename_i hm
      have hm : (may && isPath p) = true := by rw [hi]; simpa using hm
      split at h
      · rename_i he
        cases h
        unfold chgS
        rw [if_neg (by rw [hm]; simp), if_pos he]
      · rename_i he
        split at h
        · rename_i hd
          cases h
          refine chg_err hm (by simpa using he) ?_
          unfold upD lookS
          rw [hp]
          dsimp only
          rw [if_pos hd]
        · cases h
theorem beg_inr {f : FS} {c : Cred} {p : List UInt8} {may : Bool} {k : Nat} {chk : Ino → Int} {upd : Ino → Ino} (h : begS f c p may = .inr k) :
    chgS f (may && isPath p) (upD c p chk upd) = if chk (f.nodes.getD k Ino.z) ≠ 0 then (askS f, chk (f.nodes.getD k Ino.z)) else ({ askS f with nodes := f.nodes.set k (upd (f.nodes.getD k Ino.z)) }, 0) := by
  unfold begS at h
  split at h
  · cases h
  · rename_i l hp
    have hi : isPath p = true := by unfold isPath; rw [hp]; rfl
    split at h
    · cases h
    · rename_i hm
      have hm : (may && isPath p) = true := by rw [hi]; simpa using hm
      split at h
      · cases h
      · rename_i he
        split at h
        · cases h
        · rename_i hd
          have hk : (downS (askS f) c l 0).1.toNat = k := Sum.inr.inj h
          have hu : upD c p chk upd (askS f) = if chk (f.nodes.getD k Ino.z) ≠ 0 then .inl (chk (f.nodes.getD k Ino.z)) else .inr { askS f with nodes := f.nodes.set k (upd (f.nodes.getD k Ino.z)) } := by
            unfold upD lookS
            rw [hp]
            dsimp only
            rw [if_neg hd, hk]
            rfl
          split
          · rename_i hc
            exact chg_err hm (by simpa using he) (by rw [hu, if_pos hc])
          · rename_i hc
            exact chg_ok hm (by simpa using he) (by rw [hu, if_neg hc])
/-- Is it of a kind, allowed, not shut? -/
def chkE (kd al : Ino → Bool) (n : Ino) : Int := if kd n = false then 10 else if al n = false ∨ shutS n.mt = true then 7 else 0
theorem end_chg {f g : FS} {c : Cred} {p : List UInt8} {may : Bool} {k : Nat} {e : Int} {kd al : Ino → Bool} {upd : Ino → Ino} (h : begS f c p may = .inr k)
    (he : endS (askS f) k (f.nodes.getD k Ino.z) (kd (f.nodes.getD k Ino.z)) (al (f.nodes.getD k Ino.z)) (upd (f.nodes.getD k Ino.z)) = (g, e)) : chgS f (may && isPath p) (upD c p (chkE kd al) upd) = (g, e) := by
  rw [beg_inr h, ← he]
  unfold endS chkE
  by_cases q : kd (f.nodes.getD k Ino.z) = false
  · rw [if_pos q, if_pos q, if_pos (by decide)]
  · rw [if_neg q, if_neg q]
    by_cases q2 : al (f.nodes.getD k Ino.z) = false ∨ shutS (f.nodes.getD k Ino.z).mt = true
    · rw [if_pos q2, if_pos q2, if_pos (by decide)]
    · rw [if_neg q2, if_neg q2, if_neg (by simp)]
      rfl
/-- What ends a call by the document. -/
theorem hasD_c (c : Th Cred) (p : Th Int) {d : Nat} {K : ARes → BL → Prop} (hr : ∀ b : Th Bool, b .o = has9 (c .o) (p .o) → K (.ret (.bool b)) .nil) : CallAt PT r18_has [Cred.av c, .int .i64 p] d .nil K := has9_c c p hr
end Go.Proofs.YtkklflpfklbbcaaGreatDoor
/- A file system, by the document: a node's capabilities, flags, lists. -/
namespace Go.Proofs.YtkklflpfklbbcaaGreatDoor
open Go Go.Proofs.YtkklflpfklbbcaaGreatDoor.Sx F
set_option linter.unusedVariables false
set_option linter.unusedSimpArgs false
end Go.Proofs.YtkklflpfklbbcaaGreatDoor
/- A file system, by the document: a node's lists. -/
namespace Go.Proofs.YtkklflpfklbbcaaGreatDoor
open Go Go.Proofs.YtkklflpfklbbcaaGreatDoor.Sx F
set_option linter.unusedVariables false
set_option linter.unusedSimpArgs false
theorem beg_may {f : FS} {c : Cred} {p : List UInt8} {may : Bool} {k : Nat} (h : begS f c p may = .inr k) : may = true := by
  unfold begS at h
  split at h
  · cases h
  · split at h
    · cases h
    · rename_i hm; simpa using hm
def kdAcl (df : List Ace) (n : Ino) : Bool := !decide (n.kind = 3) && (decide (df.length = 0) || decide (n.kind = 6))
theorem mayLs_ne {l : List Ace} (h : ¬ l.length = 0) : mayLs l ↔ AclOk l := ⟨fun q => q.elim (fun q => absurd (by rw [q]; rfl) h) id, .inr⟩
theorem mayLs_nil {l : List Ace} (h : l.length = 0) : mayLs l := .inl (List.eq_nil_of_length_eq_zero h)
set_option maxHeartbeats 8000000 in
theorem setAcl18_c (f : Th FS) (c : Th Cred) (p : Th (List UInt8)) (l df : Th (List Ace)) (hf : FsOk (f .o)) (hc : short (c .o).groups) (hp : (p .o).length ≤ 100000) (hll : (l .o).length ≤ 1000) (hdl : (df .o).length ≤ 1000) {d : Nat} {K : ARes → BL → Prop}
    (hr : ∀ (g : Th FS) (e : Th Int) (b : Bool), (b = true ↔ mayLs (l .o) ∧ mayLs (df .o)) → chgS (f .o) (b && isPath (p .o)) (upD (c .o) (p .o) (chkE (kdAcl (df .o)) (fun n => own9 n.mt (c .o))) (updAcl (l .o) (df .o))) = (g .o, e .o) → K (.ret (nextAv g e)) .nil) :
    CallAt PT r18_SetAcl [FS.av f, Cred.av c, .str p, aces l, aces df] d .nil K := by
  refine CallAt.res ?_
  refine r18_SetAcl.of rfl rfl ?_
  have zne : ∀ {n : Nat}, ¬ zi n = 0 → ¬ n = 0 := fun h q => h (by rw [q]; rfl)
  have zeq : ∀ {n : Nat}, zi n = 0 → n = 0 := fun h => by unfold zi at h; omega
  cbv
  refine ⟨fun t1 => ?_, fun t1 => ?_⟩
  · have t1 : ¬ (l .o).length = 0 := zne (of_decide_eq_false t1)
    cbv
    refine may9_c l (by unfold short; omega) fun b1 hb1 => ?_
    cbv
    refine ⟨fun t3 => ?_, fun t3 => ?_⟩
    · have hl1 : mayLs (l .o) := (mayLs_ne t1).2 (hb1.1 t3)
      cbv
      refine ⟨fun t2 => ?_, fun t2 => ?_⟩
      · have t2 : ¬ (df .o).length = 0 := zne (of_decide_eq_false t2)
        cbv
        refine may9_c df (by unfold short; omega) fun b2 hb2 => ?_
        cbv
        have hmay : (b2 .o) = true ↔ mayLs (l .o) ∧ mayLs (df .o) := by rw [hb2, ← mayLs_ne t2]; exact ⟨fun h => ⟨hl1, h⟩, fun h => h.2⟩
        refine CallAt.args (.cons (Same.refl _) (.cons (Same.refl _) (.cons (Same.refl _) (.cons (Same.refl _) .nil)))) (begun_c f c p (fun _ => b2 .o) hf hc hp (fun g e q1 q2 => ?_) (fun k q1 q2 => ?_))
        · cbv
          refine br_ndec (fun _ => ?_) (fun h => (q2 h).elim)
          cbv
          refine refused_c g e ?_
          cbv
          exact ⟨_, .ret (.refl _), hr g e (b2 .o) hmay (beg_inl q1)⟩
        have q3 : k < (askS (f .o)).nodes.length := q2
        have hls := (hmay.1 (beg_may q1)).1
        have hend : ∀ {g : FS} {e : Int}, endS (askS (f .o)) k ((f .o).nodes.getD k Ino.z) (kdAcl (df .o) ((f .o).nodes.getD k Ino.z)) (own9 ((f .o).nodes.getD k Ino.z).mt (c .o)) (updAcl (l .o) (df .o) ((f .o).nodes.getD k Ino.z)) = (g, e) → chgS (f .o) ((b2 .o) && isPath (p .o)) (upD (c .o) (p .o) (chkE (kdAcl (df .o)) (fun n => own9 n.mt (c .o))) (updAcl (l .o) (df .o))) = (g, e) := fun h => end_chg (kd := kdAcl (df .o)) (al := fun n => own9 n.mt (c .o)) q1 h
        generalize (f .o).nodes.getD k Ino.z = n at hend ⊢
        have hkd : ∀ b, kdAcl (df .o) n = b → kdAcl (df .o) n = b := fun b h => h
        cbv
        refine br_ndec (fun h => (h rfl).elim) (fun _ => ?_)
        cbv
        refine br_dec (fun s5 => ?_) (fun s5 => ?_)
        · have s5 : 0 < (l .o).length := by have s5 : (0 : Int) < zi (l .o).length := s5; unfold zi at s5; omega
          have hupd : updAcl (l .o) (df .o) n = { n with mt := { n.mt with acl := l .o, dflt := df .o, mode := abits .or .i64 (abits .andNot .i64 n.mt.mode 511) (modeA (l .o)) } } := by unfold updAcl saM; rw [if_pos s5]
          have hg : Good (l .o) := by
            rcases hls with q | q
            · rw [q] at s5; simp at s5
            · exact q.good
          cbv
          refine mode9_c l (by unfold short; omega) hg fun m hm => ?_
          obtain rfl : m = fun _ => modeA (l .o) := funext fun | .o => hm
          cbv
          refine ⟨fun u1 => ?_, fun u1 => ?_⟩
          rotate_left
          · have u1 : decide (n.kind = 3) = true := by have u1 : (!decide (n.kind = 3)) = false := u1; simpa using u1
            cbv
            refine owner9_c (fun _ => ({ n with mt := { n.mt with acl := l .o, dflt := df .o, mode := abits .or .i64 (abits .andNot .i64 n.mt.mode 511) (modeA (l .o)) } }).mt) c fun b9 hb9 => ?_
            have hb9 : b9 .o = own9 n.mt (c .o) := hb9
            cbv
            refine CallAt.args (.cons (Same.refl _) (.cons (Same.ff rfl) (.cons (Same.refl _) (.cons (Same.refl _) .nil)))) (ended_c (fun _ => askS (f .o)) k (fun _ => n) (fun _ => false) b9 (fun _ => { n with mt := { n.mt with acl := l .o, dflt := df .o, mode := abits .or .i64 (abits .andNot .i64 n.mt.mode 511) (modeA (l .o)) } }) hf.ask q3 fun g e h => ?_)
            have h : endS (askS (f .o)) k n (false) (b9 .o) ({ n with mt := { n.mt with acl := l .o, dflt := df .o, mode := abits .or .i64 (abits .andNot .i64 n.mt.mode 511) (modeA (l .o)) } }) = (g .o, e .o) := h
            rw [hb9] at h
            cbv
            exact ⟨_, .ret (.refl _), hr g e (b2 .o) hmay (hend (by rw [hupd, hkd (false) (by unfold kdAcl; rw [u1]; rfl)]; exact h))⟩
          have u1 : decide (n.kind = 3) = false := by have u1 : (!decide (n.kind = 3)) = true := u1; simpa using u1
          cbv
          refine ⟨fun u2 => ?_, fun u2 => ?_⟩
          · have u2 : decide ((df .o).length = 0) = false := decide_eq_false (zne (of_decide_eq_false u2))
            cbv
            refine owner9_c (fun _ => ({ n with mt := { n.mt with acl := l .o, dflt := df .o, mode := abits .or .i64 (abits .andNot .i64 n.mt.mode 511) (modeA (l .o)) } }).mt) c fun b9 hb9 => ?_
            have hb9 : b9 .o = own9 n.mt (c .o) := hb9
            cbv
            refine CallAt.args (.cons (Same.refl _) (.cons (Same.refl _) (.cons (Same.refl _) (.cons (Same.refl _) .nil)))) (ended_c (fun _ => askS (f .o)) k (fun _ => n) (fun _ => decide (n.kind = 6)) b9 (fun _ => { n with mt := { n.mt with acl := l .o, dflt := df .o, mode := abits .or .i64 (abits .andNot .i64 n.mt.mode 511) (modeA (l .o)) } }) hf.ask q3 fun g e h => ?_)
            have h : endS (askS (f .o)) k n (decide (n.kind = 6)) (b9 .o) ({ n with mt := { n.mt with acl := l .o, dflt := df .o, mode := abits .or .i64 (abits .andNot .i64 n.mt.mode 511) (modeA (l .o)) } }) = (g .o, e .o) := h
            rw [hb9] at h
            cbv
            exact ⟨_, .ret (.refl _), hr g e (b2 .o) hmay (hend (by rw [hupd, hkd (decide (n.kind = 6)) (by unfold kdAcl; rw [u1, u2]; rfl)]; exact h))⟩
          · have u2 : decide ((df .o).length = 0) = true := decide_eq_true (zeq (of_decide_eq_true u2))
            cbv
            refine owner9_c (fun _ => ({ n with mt := { n.mt with acl := l .o, dflt := df .o, mode := abits .or .i64 (abits .andNot .i64 n.mt.mode 511) (modeA (l .o)) } }).mt) c fun b9 hb9 => ?_
            have hb9 : b9 .o = own9 n.mt (c .o) := hb9
            cbv
            refine CallAt.args (.cons (Same.refl _) (.cons (Same.tt rfl) (.cons (Same.refl _) (.cons (Same.refl _) .nil)))) (ended_c (fun _ => askS (f .o)) k (fun _ => n) (fun _ => true) b9 (fun _ => { n with mt := { n.mt with acl := l .o, dflt := df .o, mode := abits .or .i64 (abits .andNot .i64 n.mt.mode 511) (modeA (l .o)) } }) hf.ask q3 fun g e h => ?_)
            have h : endS (askS (f .o)) k n (true) (b9 .o) ({ n with mt := { n.mt with acl := l .o, dflt := df .o, mode := abits .or .i64 (abits .andNot .i64 n.mt.mode 511) (modeA (l .o)) } }) = (g .o, e .o) := h
            rw [hb9] at h
            cbv
            exact ⟨_, .ret (.refl _), hr g e (b2 .o) hmay (hend (by rw [hupd, hkd (true) (by unfold kdAcl; rw [u1, u2]; rfl)]; exact h))⟩
        · have s5 : ¬ 0 < (l .o).length := by have s5 : ¬ (0 : Int) < zi (l .o).length := s5; unfold zi at s5; omega
          have hupd : updAcl (l .o) (df .o) n = { n with mt := { n.mt with acl := l .o, dflt := df .o } } := by unfold updAcl saM; rw [if_neg s5]
          cbv
          refine ⟨fun u1 => ?_, fun u1 => ?_⟩
          rotate_left
          · have u1 : decide (n.kind = 3) = true := by have u1 : (!decide (n.kind = 3)) = false := u1; simpa using u1
            cbv
            refine owner9_c (fun _ => ({ n with mt := { n.mt with acl := l .o, dflt := df .o } }).mt) c fun b9 hb9 => ?_
            have hb9 : b9 .o = own9 n.mt (c .o) := hb9
            cbv
            refine CallAt.args (.cons (Same.refl _) (.cons (Same.ff rfl) (.cons (Same.refl _) (.cons (Same.refl _) .nil)))) (ended_c (fun _ => askS (f .o)) k (fun _ => n) (fun _ => false) b9 (fun _ => { n with mt := { n.mt with acl := l .o, dflt := df .o } }) hf.ask q3 fun g e h => ?_)
            have h : endS (askS (f .o)) k n (false) (b9 .o) ({ n with mt := { n.mt with acl := l .o, dflt := df .o } }) = (g .o, e .o) := h
            rw [hb9] at h
            cbv
            exact ⟨_, .ret (.refl _), hr g e (b2 .o) hmay (hend (by rw [hupd, hkd (false) (by unfold kdAcl; rw [u1]; rfl)]; exact h))⟩
          have u1 : decide (n.kind = 3) = false := by have u1 : (!decide (n.kind = 3)) = true := u1; simpa using u1
          cbv
          refine ⟨fun u2 => ?_, fun u2 => ?_⟩
          · have u2 : decide ((df .o).length = 0) = false := decide_eq_false (zne (of_decide_eq_false u2))
            cbv
            refine owner9_c (fun _ => ({ n with mt := { n.mt with acl := l .o, dflt := df .o } }).mt) c fun b9 hb9 => ?_
            have hb9 : b9 .o = own9 n.mt (c .o) := hb9
            cbv
            refine CallAt.args (.cons (Same.refl _) (.cons (Same.refl _) (.cons (Same.refl _) (.cons (Same.refl _) .nil)))) (ended_c (fun _ => askS (f .o)) k (fun _ => n) (fun _ => decide (n.kind = 6)) b9 (fun _ => { n with mt := { n.mt with acl := l .o, dflt := df .o } }) hf.ask q3 fun g e h => ?_)
            have h : endS (askS (f .o)) k n (decide (n.kind = 6)) (b9 .o) ({ n with mt := { n.mt with acl := l .o, dflt := df .o } }) = (g .o, e .o) := h
            rw [hb9] at h
            cbv
            exact ⟨_, .ret (.refl _), hr g e (b2 .o) hmay (hend (by rw [hupd, hkd (decide (n.kind = 6)) (by unfold kdAcl; rw [u1, u2]; rfl)]; exact h))⟩
          · have u2 : decide ((df .o).length = 0) = true := decide_eq_true (zeq (of_decide_eq_true u2))
            cbv
            refine owner9_c (fun _ => ({ n with mt := { n.mt with acl := l .o, dflt := df .o } }).mt) c fun b9 hb9 => ?_
            have hb9 : b9 .o = own9 n.mt (c .o) := hb9
            cbv
            refine CallAt.args (.cons (Same.refl _) (.cons (Same.tt rfl) (.cons (Same.refl _) (.cons (Same.refl _) .nil)))) (ended_c (fun _ => askS (f .o)) k (fun _ => n) (fun _ => true) b9 (fun _ => { n with mt := { n.mt with acl := l .o, dflt := df .o } }) hf.ask q3 fun g e h => ?_)
            have h : endS (askS (f .o)) k n (true) (b9 .o) ({ n with mt := { n.mt with acl := l .o, dflt := df .o } }) = (g .o, e .o) := h
            rw [hb9] at h
            cbv
            exact ⟨_, .ret (.refl _), hr g e (b2 .o) hmay (hend (by rw [hupd, hkd (true) (by unfold kdAcl; rw [u1, u2]; rfl)]; exact h))⟩
      · have t2 : (df .o).length = 0 := zeq (of_decide_eq_true t2)
        cbv
        have hmay : (true) = true ↔ mayLs (l .o) ∧ mayLs (df .o) := iff_of_true rfl ⟨hl1, mayLs_nil t2⟩
        refine CallAt.args (.cons (Same.refl _) (.cons (Same.refl _) (.cons (Same.refl _) (.cons (Same.tt rfl) .nil)))) (begun_c f c p (fun _ => true) hf hc hp (fun g e q1 q2 => ?_) (fun k q1 q2 => ?_))
        · cbv
          refine br_ndec (fun _ => ?_) (fun h => (q2 h).elim)
          cbv
          refine refused_c g e ?_
          cbv
          exact ⟨_, .ret (.refl _), hr g e (true) hmay (beg_inl q1)⟩
        have q3 : k < (askS (f .o)).nodes.length := q2
        have hls := (hmay.1 (beg_may q1)).1
        have hend : ∀ {g : FS} {e : Int}, endS (askS (f .o)) k ((f .o).nodes.getD k Ino.z) (kdAcl (df .o) ((f .o).nodes.getD k Ino.z)) (own9 ((f .o).nodes.getD k Ino.z).mt (c .o)) (updAcl (l .o) (df .o) ((f .o).nodes.getD k Ino.z)) = (g, e) → chgS (f .o) ((true) && isPath (p .o)) (upD (c .o) (p .o) (chkE (kdAcl (df .o)) (fun n => own9 n.mt (c .o))) (updAcl (l .o) (df .o))) = (g, e) := fun h => end_chg (kd := kdAcl (df .o)) (al := fun n => own9 n.mt (c .o)) q1 h
        generalize (f .o).nodes.getD k Ino.z = n at hend ⊢
        have hkd : ∀ b, kdAcl (df .o) n = b → kdAcl (df .o) n = b := fun b h => h
        cbv
        refine br_ndec (fun h => (h rfl).elim) (fun _ => ?_)
        cbv
        refine br_dec (fun s5 => ?_) (fun s5 => ?_)
        · have s5 : 0 < (l .o).length := by have s5 : (0 : Int) < zi (l .o).length := s5; unfold zi at s5; omega
          have hupd : updAcl (l .o) (df .o) n = { n with mt := { n.mt with acl := l .o, dflt := df .o, mode := abits .or .i64 (abits .andNot .i64 n.mt.mode 511) (modeA (l .o)) } } := by unfold updAcl saM; rw [if_pos s5]
          have hg : Good (l .o) := by
            rcases hls with q | q
            · rw [q] at s5; simp at s5
            · exact q.good
          cbv
          refine mode9_c l (by unfold short; omega) hg fun m hm => ?_
          obtain rfl : m = fun _ => modeA (l .o) := funext fun | .o => hm
          cbv
          refine ⟨fun u1 => ?_, fun u1 => ?_⟩
          rotate_left
          · have u1 : decide (n.kind = 3) = true := by have u1 : (!decide (n.kind = 3)) = false := u1; simpa using u1
            cbv
            refine owner9_c (fun _ => ({ n with mt := { n.mt with acl := l .o, dflt := df .o, mode := abits .or .i64 (abits .andNot .i64 n.mt.mode 511) (modeA (l .o)) } }).mt) c fun b9 hb9 => ?_
            have hb9 : b9 .o = own9 n.mt (c .o) := hb9
            cbv
            refine CallAt.args (.cons (Same.refl _) (.cons (Same.ff rfl) (.cons (Same.refl _) (.cons (Same.refl _) .nil)))) (ended_c (fun _ => askS (f .o)) k (fun _ => n) (fun _ => false) b9 (fun _ => { n with mt := { n.mt with acl := l .o, dflt := df .o, mode := abits .or .i64 (abits .andNot .i64 n.mt.mode 511) (modeA (l .o)) } }) hf.ask q3 fun g e h => ?_)
            have h : endS (askS (f .o)) k n (false) (b9 .o) ({ n with mt := { n.mt with acl := l .o, dflt := df .o, mode := abits .or .i64 (abits .andNot .i64 n.mt.mode 511) (modeA (l .o)) } }) = (g .o, e .o) := h
            rw [hb9] at h
            cbv
            exact ⟨_, .ret (.refl _), hr g e (true) hmay (hend (by rw [hupd, hkd (false) (by unfold kdAcl; rw [u1]; rfl)]; exact h))⟩
          have u1 : decide (n.kind = 3) = false := by have u1 : (!decide (n.kind = 3)) = true := u1; simpa using u1
          cbv
          refine ⟨fun u2 => ?_, fun u2 => ?_⟩
          · have u2 : decide ((df .o).length = 0) = false := decide_eq_false (zne (of_decide_eq_false u2))
            cbv
            refine owner9_c (fun _ => ({ n with mt := { n.mt with acl := l .o, dflt := df .o, mode := abits .or .i64 (abits .andNot .i64 n.mt.mode 511) (modeA (l .o)) } }).mt) c fun b9 hb9 => ?_
            have hb9 : b9 .o = own9 n.mt (c .o) := hb9
            cbv
            refine CallAt.args (.cons (Same.refl _) (.cons (Same.refl _) (.cons (Same.refl _) (.cons (Same.refl _) .nil)))) (ended_c (fun _ => askS (f .o)) k (fun _ => n) (fun _ => decide (n.kind = 6)) b9 (fun _ => { n with mt := { n.mt with acl := l .o, dflt := df .o, mode := abits .or .i64 (abits .andNot .i64 n.mt.mode 511) (modeA (l .o)) } }) hf.ask q3 fun g e h => ?_)
            have h : endS (askS (f .o)) k n (decide (n.kind = 6)) (b9 .o) ({ n with mt := { n.mt with acl := l .o, dflt := df .o, mode := abits .or .i64 (abits .andNot .i64 n.mt.mode 511) (modeA (l .o)) } }) = (g .o, e .o) := h
            rw [hb9] at h
            cbv
            exact ⟨_, .ret (.refl _), hr g e (true) hmay (hend (by rw [hupd, hkd (decide (n.kind = 6)) (by unfold kdAcl; rw [u1, u2]; rfl)]; exact h))⟩
          · have u2 : decide ((df .o).length = 0) = true := decide_eq_true (zeq (of_decide_eq_true u2))
            cbv
            refine owner9_c (fun _ => ({ n with mt := { n.mt with acl := l .o, dflt := df .o, mode := abits .or .i64 (abits .andNot .i64 n.mt.mode 511) (modeA (l .o)) } }).mt) c fun b9 hb9 => ?_
            have hb9 : b9 .o = own9 n.mt (c .o) := hb9
            cbv
            refine CallAt.args (.cons (Same.refl _) (.cons (Same.tt rfl) (.cons (Same.refl _) (.cons (Same.refl _) .nil)))) (ended_c (fun _ => askS (f .o)) k (fun _ => n) (fun _ => true) b9 (fun _ => { n with mt := { n.mt with acl := l .o, dflt := df .o, mode := abits .or .i64 (abits .andNot .i64 n.mt.mode 511) (modeA (l .o)) } }) hf.ask q3 fun g e h => ?_)
            have h : endS (askS (f .o)) k n (true) (b9 .o) ({ n with mt := { n.mt with acl := l .o, dflt := df .o, mode := abits .or .i64 (abits .andNot .i64 n.mt.mode 511) (modeA (l .o)) } }) = (g .o, e .o) := h
            rw [hb9] at h
            cbv
            exact ⟨_, .ret (.refl _), hr g e (true) hmay (hend (by rw [hupd, hkd (true) (by unfold kdAcl; rw [u1, u2]; rfl)]; exact h))⟩
        · have s5 : ¬ 0 < (l .o).length := by have s5 : ¬ (0 : Int) < zi (l .o).length := s5; unfold zi at s5; omega
          have hupd : updAcl (l .o) (df .o) n = { n with mt := { n.mt with acl := l .o, dflt := df .o } } := by unfold updAcl saM; rw [if_neg s5]
          cbv
          refine ⟨fun u1 => ?_, fun u1 => ?_⟩
          rotate_left
          · have u1 : decide (n.kind = 3) = true := by have u1 : (!decide (n.kind = 3)) = false := u1; simpa using u1
            cbv
            refine owner9_c (fun _ => ({ n with mt := { n.mt with acl := l .o, dflt := df .o } }).mt) c fun b9 hb9 => ?_
            have hb9 : b9 .o = own9 n.mt (c .o) := hb9
            cbv
            refine CallAt.args (.cons (Same.refl _) (.cons (Same.ff rfl) (.cons (Same.refl _) (.cons (Same.refl _) .nil)))) (ended_c (fun _ => askS (f .o)) k (fun _ => n) (fun _ => false) b9 (fun _ => { n with mt := { n.mt with acl := l .o, dflt := df .o } }) hf.ask q3 fun g e h => ?_)
            have h : endS (askS (f .o)) k n (false) (b9 .o) ({ n with mt := { n.mt with acl := l .o, dflt := df .o } }) = (g .o, e .o) := h
            rw [hb9] at h
            cbv
            exact ⟨_, .ret (.refl _), hr g e (true) hmay (hend (by rw [hupd, hkd (false) (by unfold kdAcl; rw [u1]; rfl)]; exact h))⟩
          have u1 : decide (n.kind = 3) = false := by have u1 : (!decide (n.kind = 3)) = true := u1; simpa using u1
          cbv
          refine ⟨fun u2 => ?_, fun u2 => ?_⟩
          · have u2 : decide ((df .o).length = 0) = false := decide_eq_false (zne (of_decide_eq_false u2))
            cbv
            refine owner9_c (fun _ => ({ n with mt := { n.mt with acl := l .o, dflt := df .o } }).mt) c fun b9 hb9 => ?_
            have hb9 : b9 .o = own9 n.mt (c .o) := hb9
            cbv
            refine CallAt.args (.cons (Same.refl _) (.cons (Same.refl _) (.cons (Same.refl _) (.cons (Same.refl _) .nil)))) (ended_c (fun _ => askS (f .o)) k (fun _ => n) (fun _ => decide (n.kind = 6)) b9 (fun _ => { n with mt := { n.mt with acl := l .o, dflt := df .o } }) hf.ask q3 fun g e h => ?_)
            have h : endS (askS (f .o)) k n (decide (n.kind = 6)) (b9 .o) ({ n with mt := { n.mt with acl := l .o, dflt := df .o } }) = (g .o, e .o) := h
            rw [hb9] at h
            cbv
            exact ⟨_, .ret (.refl _), hr g e (true) hmay (hend (by rw [hupd, hkd (decide (n.kind = 6)) (by unfold kdAcl; rw [u1, u2]; rfl)]; exact h))⟩
          · have u2 : decide ((df .o).length = 0) = true := decide_eq_true (zeq (of_decide_eq_true u2))
            cbv
            refine owner9_c (fun _ => ({ n with mt := { n.mt with acl := l .o, dflt := df .o } }).mt) c fun b9 hb9 => ?_
            have hb9 : b9 .o = own9 n.mt (c .o) := hb9
            cbv
            refine CallAt.args (.cons (Same.refl _) (.cons (Same.tt rfl) (.cons (Same.refl _) (.cons (Same.refl _) .nil)))) (ended_c (fun _ => askS (f .o)) k (fun _ => n) (fun _ => true) b9 (fun _ => { n with mt := { n.mt with acl := l .o, dflt := df .o } }) hf.ask q3 fun g e h => ?_)
            have h : endS (askS (f .o)) k n (true) (b9 .o) ({ n with mt := { n.mt with acl := l .o, dflt := df .o } }) = (g .o, e .o) := h
            rw [hb9] at h
            cbv
            exact ⟨_, .ret (.refl _), hr g e (true) hmay (hend (by rw [hupd, hkd (true) (by unfold kdAcl; rw [u1, u2]; rfl)]; exact h))⟩
    · cbv
      have hmay : (false) = true ↔ mayLs (l .o) ∧ mayLs (df .o) := iff_of_false (by simp) fun h => by rw [hb1.2 ((mayLs_ne t1).1 h.1)] at t3; cases t3
      refine CallAt.args (.cons (Same.refl _) (.cons (Same.refl _) (.cons (Same.refl _) (.cons (Same.ff rfl) .nil)))) (begun_c f c p (fun _ => false) hf hc hp (fun g e q1 q2 => ?_) (fun k q1 q2 => ?_))
      · cbv
        refine br_ndec (fun _ => ?_) (fun h => (q2 h).elim)
        cbv
        refine refused_c g e ?_
        cbv
        exact ⟨_, .ret (.refl _), hr g e (false) hmay (beg_inl q1)⟩
      have q3 : k < (askS (f .o)).nodes.length := q2
      have hls := (hmay.1 (beg_may q1)).1
      have hend : ∀ {g : FS} {e : Int}, endS (askS (f .o)) k ((f .o).nodes.getD k Ino.z) (kdAcl (df .o) ((f .o).nodes.getD k Ino.z)) (own9 ((f .o).nodes.getD k Ino.z).mt (c .o)) (updAcl (l .o) (df .o) ((f .o).nodes.getD k Ino.z)) = (g, e) → chgS (f .o) ((false) && isPath (p .o)) (upD (c .o) (p .o) (chkE (kdAcl (df .o)) (fun n => own9 n.mt (c .o))) (updAcl (l .o) (df .o))) = (g, e) := fun h => end_chg (kd := kdAcl (df .o)) (al := fun n => own9 n.mt (c .o)) q1 h
      generalize (f .o).nodes.getD k Ino.z = n at hend ⊢
      have hkd : ∀ b, kdAcl (df .o) n = b → kdAcl (df .o) n = b := fun b h => h
      cbv
      refine br_ndec (fun h => (h rfl).elim) (fun _ => ?_)
      cbv
      refine br_dec (fun s5 => ?_) (fun s5 => ?_)
      · have s5 : 0 < (l .o).length := by have s5 : (0 : Int) < zi (l .o).length := s5; unfold zi at s5; omega
        have hupd : updAcl (l .o) (df .o) n = { n with mt := { n.mt with acl := l .o, dflt := df .o, mode := abits .or .i64 (abits .andNot .i64 n.mt.mode 511) (modeA (l .o)) } } := by unfold updAcl saM; rw [if_pos s5]
        have hg : Good (l .o) := by
          rcases hls with q | q
          · rw [q] at s5; simp at s5
          · exact q.good
        cbv
        refine mode9_c l (by unfold short; omega) hg fun m hm => ?_
        obtain rfl : m = fun _ => modeA (l .o) := funext fun | .o => hm
        cbv
        refine ⟨fun u1 => ?_, fun u1 => ?_⟩
        rotate_left
        · have u1 : decide (n.kind = 3) = true := by have u1 : (!decide (n.kind = 3)) = false := u1; simpa using u1
          cbv
          refine owner9_c (fun _ => ({ n with mt := { n.mt with acl := l .o, dflt := df .o, mode := abits .or .i64 (abits .andNot .i64 n.mt.mode 511) (modeA (l .o)) } }).mt) c fun b9 hb9 => ?_
          have hb9 : b9 .o = own9 n.mt (c .o) := hb9
          cbv
          refine CallAt.args (.cons (Same.refl _) (.cons (Same.ff rfl) (.cons (Same.refl _) (.cons (Same.refl _) .nil)))) (ended_c (fun _ => askS (f .o)) k (fun _ => n) (fun _ => false) b9 (fun _ => { n with mt := { n.mt with acl := l .o, dflt := df .o, mode := abits .or .i64 (abits .andNot .i64 n.mt.mode 511) (modeA (l .o)) } }) hf.ask q3 fun g e h => ?_)
          have h : endS (askS (f .o)) k n (false) (b9 .o) ({ n with mt := { n.mt with acl := l .o, dflt := df .o, mode := abits .or .i64 (abits .andNot .i64 n.mt.mode 511) (modeA (l .o)) } }) = (g .o, e .o) := h
          rw [hb9] at h
          cbv
          exact ⟨_, .ret (.refl _), hr g e (false) hmay (hend (by rw [hupd, hkd (false) (by unfold kdAcl; rw [u1]; rfl)]; exact h))⟩
        have u1 : decide (n.kind = 3) = false := by have u1 : (!decide (n.kind = 3)) = true := u1; simpa using u1
        cbv
        refine ⟨fun u2 => ?_, fun u2 => ?_⟩
        · have u2 : decide ((df .o).length = 0) = false := decide_eq_false (zne (of_decide_eq_false u2))
          cbv
          refine owner9_c (fun _ => ({ n with mt := { n.mt with acl := l .o, dflt := df .o, mode := abits .or .i64 (abits .andNot .i64 n.mt.mode 511) (modeA (l .o)) } }).mt) c fun b9 hb9 => ?_
          have hb9 : b9 .o = own9 n.mt (c .o) := hb9
          cbv
          refine CallAt.args (.cons (Same.refl _) (.cons (Same.refl _) (.cons (Same.refl _) (.cons (Same.refl _) .nil)))) (ended_c (fun _ => askS (f .o)) k (fun _ => n) (fun _ => decide (n.kind = 6)) b9 (fun _ => { n with mt := { n.mt with acl := l .o, dflt := df .o, mode := abits .or .i64 (abits .andNot .i64 n.mt.mode 511) (modeA (l .o)) } }) hf.ask q3 fun g e h => ?_)
          have h : endS (askS (f .o)) k n (decide (n.kind = 6)) (b9 .o) ({ n with mt := { n.mt with acl := l .o, dflt := df .o, mode := abits .or .i64 (abits .andNot .i64 n.mt.mode 511) (modeA (l .o)) } }) = (g .o, e .o) := h
          rw [hb9] at h
          cbv
          exact ⟨_, .ret (.refl _), hr g e (false) hmay (hend (by rw [hupd, hkd (decide (n.kind = 6)) (by unfold kdAcl; rw [u1, u2]; rfl)]; exact h))⟩
        · have u2 : decide ((df .o).length = 0) = true := decide_eq_true (zeq (of_decide_eq_true u2))
          cbv
          refine owner9_c (fun _ => ({ n with mt := { n.mt with acl := l .o, dflt := df .o, mode := abits .or .i64 (abits .andNot .i64 n.mt.mode 511) (modeA (l .o)) } }).mt) c fun b9 hb9 => ?_
          have hb9 : b9 .o = own9 n.mt (c .o) := hb9
          cbv
          refine CallAt.args (.cons (Same.refl _) (.cons (Same.tt rfl) (.cons (Same.refl _) (.cons (Same.refl _) .nil)))) (ended_c (fun _ => askS (f .o)) k (fun _ => n) (fun _ => true) b9 (fun _ => { n with mt := { n.mt with acl := l .o, dflt := df .o, mode := abits .or .i64 (abits .andNot .i64 n.mt.mode 511) (modeA (l .o)) } }) hf.ask q3 fun g e h => ?_)
          have h : endS (askS (f .o)) k n (true) (b9 .o) ({ n with mt := { n.mt with acl := l .o, dflt := df .o, mode := abits .or .i64 (abits .andNot .i64 n.mt.mode 511) (modeA (l .o)) } }) = (g .o, e .o) := h
          rw [hb9] at h
          cbv
          exact ⟨_, .ret (.refl _), hr g e (false) hmay (hend (by rw [hupd, hkd (true) (by unfold kdAcl; rw [u1, u2]; rfl)]; exact h))⟩
      · have s5 : ¬ 0 < (l .o).length := by have s5 : ¬ (0 : Int) < zi (l .o).length := s5; unfold zi at s5; omega
        have hupd : updAcl (l .o) (df .o) n = { n with mt := { n.mt with acl := l .o, dflt := df .o } } := by unfold updAcl saM; rw [if_neg s5]
        cbv
        refine ⟨fun u1 => ?_, fun u1 => ?_⟩
        rotate_left
        · have u1 : decide (n.kind = 3) = true := by have u1 : (!decide (n.kind = 3)) = false := u1; simpa using u1
          cbv
          refine owner9_c (fun _ => ({ n with mt := { n.mt with acl := l .o, dflt := df .o } }).mt) c fun b9 hb9 => ?_
          have hb9 : b9 .o = own9 n.mt (c .o) := hb9
          cbv
          refine CallAt.args (.cons (Same.refl _) (.cons (Same.ff rfl) (.cons (Same.refl _) (.cons (Same.refl _) .nil)))) (ended_c (fun _ => askS (f .o)) k (fun _ => n) (fun _ => false) b9 (fun _ => { n with mt := { n.mt with acl := l .o, dflt := df .o } }) hf.ask q3 fun g e h => ?_)
          have h : endS (askS (f .o)) k n (false) (b9 .o) ({ n with mt := { n.mt with acl := l .o, dflt := df .o } }) = (g .o, e .o) := h
          rw [hb9] at h
          cbv
          exact ⟨_, .ret (.refl _), hr g e (false) hmay (hend (by rw [hupd, hkd (false) (by unfold kdAcl; rw [u1]; rfl)]; exact h))⟩
        have u1 : decide (n.kind = 3) = false := by have u1 : (!decide (n.kind = 3)) = true := u1; simpa using u1
        cbv
        refine ⟨fun u2 => ?_, fun u2 => ?_⟩
        · have u2 : decide ((df .o).length = 0) = false := decide_eq_false (zne (of_decide_eq_false u2))
          cbv
          refine owner9_c (fun _ => ({ n with mt := { n.mt with acl := l .o, dflt := df .o } }).mt) c fun b9 hb9 => ?_
          have hb9 : b9 .o = own9 n.mt (c .o) := hb9
          cbv
          refine CallAt.args (.cons (Same.refl _) (.cons (Same.refl _) (.cons (Same.refl _) (.cons (Same.refl _) .nil)))) (ended_c (fun _ => askS (f .o)) k (fun _ => n) (fun _ => decide (n.kind = 6)) b9 (fun _ => { n with mt := { n.mt with acl := l .o, dflt := df .o } }) hf.ask q3 fun g e h => ?_)
          have h : endS (askS (f .o)) k n (decide (n.kind = 6)) (b9 .o) ({ n with mt := { n.mt with acl := l .o, dflt := df .o } }) = (g .o, e .o) := h
          rw [hb9] at h
          cbv
          exact ⟨_, .ret (.refl _), hr g e (false) hmay (hend (by rw [hupd, hkd (decide (n.kind = 6)) (by unfold kdAcl; rw [u1, u2]; rfl)]; exact h))⟩
        · have u2 : decide ((df .o).length = 0) = true := decide_eq_true (zeq (of_decide_eq_true u2))
          cbv
          refine owner9_c (fun _ => ({ n with mt := { n.mt with acl := l .o, dflt := df .o } }).mt) c fun b9 hb9 => ?_
          have hb9 : b9 .o = own9 n.mt (c .o) := hb9
          cbv
          refine CallAt.args (.cons (Same.refl _) (.cons (Same.tt rfl) (.cons (Same.refl _) (.cons (Same.refl _) .nil)))) (ended_c (fun _ => askS (f .o)) k (fun _ => n) (fun _ => true) b9 (fun _ => { n with mt := { n.mt with acl := l .o, dflt := df .o } }) hf.ask q3 fun g e h => ?_)
          have h : endS (askS (f .o)) k n (true) (b9 .o) ({ n with mt := { n.mt with acl := l .o, dflt := df .o } }) = (g .o, e .o) := h
          rw [hb9] at h
          cbv
          exact ⟨_, .ret (.refl _), hr g e (false) hmay (hend (by rw [hupd, hkd (true) (by unfold kdAcl; rw [u1, u2]; rfl)]; exact h))⟩
  · have hl1 : mayLs (l .o) := mayLs_nil (zeq (of_decide_eq_true t1))
    cbv
    refine ⟨fun t2 => ?_, fun t2 => ?_⟩
    · have t2 : ¬ (df .o).length = 0 := zne (of_decide_eq_false t2)
      cbv
      refine may9_c df (by unfold short; omega) fun b2 hb2 => ?_
      cbv
      have hmay : (b2 .o) = true ↔ mayLs (l .o) ∧ mayLs (df .o) := by rw [hb2, ← mayLs_ne t2]; exact ⟨fun h => ⟨hl1, h⟩, fun h => h.2⟩
      refine CallAt.args (.cons (Same.refl _) (.cons (Same.refl _) (.cons (Same.refl _) (.cons (Same.refl _) .nil)))) (begun_c f c p (fun _ => b2 .o) hf hc hp (fun g e q1 q2 => ?_) (fun k q1 q2 => ?_))
      · cbv
        refine br_ndec (fun _ => ?_) (fun h => (q2 h).elim)
        cbv
        refine refused_c g e ?_
        cbv
        exact ⟨_, .ret (.refl _), hr g e (b2 .o) hmay (beg_inl q1)⟩
      have q3 : k < (askS (f .o)).nodes.length := q2
      have hls := (hmay.1 (beg_may q1)).1
      have hend : ∀ {g : FS} {e : Int}, endS (askS (f .o)) k ((f .o).nodes.getD k Ino.z) (kdAcl (df .o) ((f .o).nodes.getD k Ino.z)) (own9 ((f .o).nodes.getD k Ino.z).mt (c .o)) (updAcl (l .o) (df .o) ((f .o).nodes.getD k Ino.z)) = (g, e) → chgS (f .o) ((b2 .o) && isPath (p .o)) (upD (c .o) (p .o) (chkE (kdAcl (df .o)) (fun n => own9 n.mt (c .o))) (updAcl (l .o) (df .o))) = (g, e) := fun h => end_chg (kd := kdAcl (df .o)) (al := fun n => own9 n.mt (c .o)) q1 h
      generalize (f .o).nodes.getD k Ino.z = n at hend ⊢
      have hkd : ∀ b, kdAcl (df .o) n = b → kdAcl (df .o) n = b := fun b h => h
      cbv
      refine br_ndec (fun h => (h rfl).elim) (fun _ => ?_)
      cbv
      refine br_dec (fun s5 => ?_) (fun s5 => ?_)
      · have s5 : 0 < (l .o).length := by have s5 : (0 : Int) < zi (l .o).length := s5; unfold zi at s5; omega
        have hupd : updAcl (l .o) (df .o) n = { n with mt := { n.mt with acl := l .o, dflt := df .o, mode := abits .or .i64 (abits .andNot .i64 n.mt.mode 511) (modeA (l .o)) } } := by unfold updAcl saM; rw [if_pos s5]
        have hg : Good (l .o) := by
          rcases hls with q | q
          · rw [q] at s5; simp at s5
          · exact q.good
        cbv
        refine mode9_c l (by unfold short; omega) hg fun m hm => ?_
        obtain rfl : m = fun _ => modeA (l .o) := funext fun | .o => hm
        cbv
        refine ⟨fun u1 => ?_, fun u1 => ?_⟩
        rotate_left
        · have u1 : decide (n.kind = 3) = true := by have u1 : (!decide (n.kind = 3)) = false := u1; simpa using u1
          cbv
          refine owner9_c (fun _ => ({ n with mt := { n.mt with acl := l .o, dflt := df .o, mode := abits .or .i64 (abits .andNot .i64 n.mt.mode 511) (modeA (l .o)) } }).mt) c fun b9 hb9 => ?_
          have hb9 : b9 .o = own9 n.mt (c .o) := hb9
          cbv
          refine CallAt.args (.cons (Same.refl _) (.cons (Same.ff rfl) (.cons (Same.refl _) (.cons (Same.refl _) .nil)))) (ended_c (fun _ => askS (f .o)) k (fun _ => n) (fun _ => false) b9 (fun _ => { n with mt := { n.mt with acl := l .o, dflt := df .o, mode := abits .or .i64 (abits .andNot .i64 n.mt.mode 511) (modeA (l .o)) } }) hf.ask q3 fun g e h => ?_)
          have h : endS (askS (f .o)) k n (false) (b9 .o) ({ n with mt := { n.mt with acl := l .o, dflt := df .o, mode := abits .or .i64 (abits .andNot .i64 n.mt.mode 511) (modeA (l .o)) } }) = (g .o, e .o) := h
          rw [hb9] at h
          cbv
          exact ⟨_, .ret (.refl _), hr g e (b2 .o) hmay (hend (by rw [hupd, hkd (false) (by unfold kdAcl; rw [u1]; rfl)]; exact h))⟩
        have u1 : decide (n.kind = 3) = false := by have u1 : (!decide (n.kind = 3)) = true := u1; simpa using u1
        cbv
        refine ⟨fun u2 => ?_, fun u2 => ?_⟩
        · have u2 : decide ((df .o).length = 0) = false := decide_eq_false (zne (of_decide_eq_false u2))
          cbv
          refine owner9_c (fun _ => ({ n with mt := { n.mt with acl := l .o, dflt := df .o, mode := abits .or .i64 (abits .andNot .i64 n.mt.mode 511) (modeA (l .o)) } }).mt) c fun b9 hb9 => ?_
          have hb9 : b9 .o = own9 n.mt (c .o) := hb9
          cbv
          refine CallAt.args (.cons (Same.refl _) (.cons (Same.refl _) (.cons (Same.refl _) (.cons (Same.refl _) .nil)))) (ended_c (fun _ => askS (f .o)) k (fun _ => n) (fun _ => decide (n.kind = 6)) b9 (fun _ => { n with mt := { n.mt with acl := l .o, dflt := df .o, mode := abits .or .i64 (abits .andNot .i64 n.mt.mode 511) (modeA (l .o)) } }) hf.ask q3 fun g e h => ?_)
          have h : endS (askS (f .o)) k n (decide (n.kind = 6)) (b9 .o) ({ n with mt := { n.mt with acl := l .o, dflt := df .o, mode := abits .or .i64 (abits .andNot .i64 n.mt.mode 511) (modeA (l .o)) } }) = (g .o, e .o) := h
          rw [hb9] at h
          cbv
          exact ⟨_, .ret (.refl _), hr g e (b2 .o) hmay (hend (by rw [hupd, hkd (decide (n.kind = 6)) (by unfold kdAcl; rw [u1, u2]; rfl)]; exact h))⟩
        · have u2 : decide ((df .o).length = 0) = true := decide_eq_true (zeq (of_decide_eq_true u2))
          cbv
          refine owner9_c (fun _ => ({ n with mt := { n.mt with acl := l .o, dflt := df .o, mode := abits .or .i64 (abits .andNot .i64 n.mt.mode 511) (modeA (l .o)) } }).mt) c fun b9 hb9 => ?_
          have hb9 : b9 .o = own9 n.mt (c .o) := hb9
          cbv
          refine CallAt.args (.cons (Same.refl _) (.cons (Same.tt rfl) (.cons (Same.refl _) (.cons (Same.refl _) .nil)))) (ended_c (fun _ => askS (f .o)) k (fun _ => n) (fun _ => true) b9 (fun _ => { n with mt := { n.mt with acl := l .o, dflt := df .o, mode := abits .or .i64 (abits .andNot .i64 n.mt.mode 511) (modeA (l .o)) } }) hf.ask q3 fun g e h => ?_)
          have h : endS (askS (f .o)) k n (true) (b9 .o) ({ n with mt := { n.mt with acl := l .o, dflt := df .o, mode := abits .or .i64 (abits .andNot .i64 n.mt.mode 511) (modeA (l .o)) } }) = (g .o, e .o) := h
          rw [hb9] at h
          cbv
          exact ⟨_, .ret (.refl _), hr g e (b2 .o) hmay (hend (by rw [hupd, hkd (true) (by unfold kdAcl; rw [u1, u2]; rfl)]; exact h))⟩
      · have s5 : ¬ 0 < (l .o).length := by have s5 : ¬ (0 : Int) < zi (l .o).length := s5; unfold zi at s5; omega
        have hupd : updAcl (l .o) (df .o) n = { n with mt := { n.mt with acl := l .o, dflt := df .o } } := by unfold updAcl saM; rw [if_neg s5]
        cbv
        refine ⟨fun u1 => ?_, fun u1 => ?_⟩
        rotate_left
        · have u1 : decide (n.kind = 3) = true := by have u1 : (!decide (n.kind = 3)) = false := u1; simpa using u1
          cbv
          refine owner9_c (fun _ => ({ n with mt := { n.mt with acl := l .o, dflt := df .o } }).mt) c fun b9 hb9 => ?_
          have hb9 : b9 .o = own9 n.mt (c .o) := hb9
          cbv
          refine CallAt.args (.cons (Same.refl _) (.cons (Same.ff rfl) (.cons (Same.refl _) (.cons (Same.refl _) .nil)))) (ended_c (fun _ => askS (f .o)) k (fun _ => n) (fun _ => false) b9 (fun _ => { n with mt := { n.mt with acl := l .o, dflt := df .o } }) hf.ask q3 fun g e h => ?_)
          have h : endS (askS (f .o)) k n (false) (b9 .o) ({ n with mt := { n.mt with acl := l .o, dflt := df .o } }) = (g .o, e .o) := h
          rw [hb9] at h
          cbv
          exact ⟨_, .ret (.refl _), hr g e (b2 .o) hmay (hend (by rw [hupd, hkd (false) (by unfold kdAcl; rw [u1]; rfl)]; exact h))⟩
        have u1 : decide (n.kind = 3) = false := by have u1 : (!decide (n.kind = 3)) = true := u1; simpa using u1
        cbv
        refine ⟨fun u2 => ?_, fun u2 => ?_⟩
        · have u2 : decide ((df .o).length = 0) = false := decide_eq_false (zne (of_decide_eq_false u2))
          cbv
          refine owner9_c (fun _ => ({ n with mt := { n.mt with acl := l .o, dflt := df .o } }).mt) c fun b9 hb9 => ?_
          have hb9 : b9 .o = own9 n.mt (c .o) := hb9
          cbv
          refine CallAt.args (.cons (Same.refl _) (.cons (Same.refl _) (.cons (Same.refl _) (.cons (Same.refl _) .nil)))) (ended_c (fun _ => askS (f .o)) k (fun _ => n) (fun _ => decide (n.kind = 6)) b9 (fun _ => { n with mt := { n.mt with acl := l .o, dflt := df .o } }) hf.ask q3 fun g e h => ?_)
          have h : endS (askS (f .o)) k n (decide (n.kind = 6)) (b9 .o) ({ n with mt := { n.mt with acl := l .o, dflt := df .o } }) = (g .o, e .o) := h
          rw [hb9] at h
          cbv
          exact ⟨_, .ret (.refl _), hr g e (b2 .o) hmay (hend (by rw [hupd, hkd (decide (n.kind = 6)) (by unfold kdAcl; rw [u1, u2]; rfl)]; exact h))⟩
        · have u2 : decide ((df .o).length = 0) = true := decide_eq_true (zeq (of_decide_eq_true u2))
          cbv
          refine owner9_c (fun _ => ({ n with mt := { n.mt with acl := l .o, dflt := df .o } }).mt) c fun b9 hb9 => ?_
          have hb9 : b9 .o = own9 n.mt (c .o) := hb9
          cbv
          refine CallAt.args (.cons (Same.refl _) (.cons (Same.tt rfl) (.cons (Same.refl _) (.cons (Same.refl _) .nil)))) (ended_c (fun _ => askS (f .o)) k (fun _ => n) (fun _ => true) b9 (fun _ => { n with mt := { n.mt with acl := l .o, dflt := df .o } }) hf.ask q3 fun g e h => ?_)
          have h : endS (askS (f .o)) k n (true) (b9 .o) ({ n with mt := { n.mt with acl := l .o, dflt := df .o } }) = (g .o, e .o) := h
          rw [hb9] at h
          cbv
          exact ⟨_, .ret (.refl _), hr g e (b2 .o) hmay (hend (by rw [hupd, hkd (true) (by unfold kdAcl; rw [u1, u2]; rfl)]; exact h))⟩
    · have t2 : (df .o).length = 0 := zeq (of_decide_eq_true t2)
      cbv
      have hmay : (true) = true ↔ mayLs (l .o) ∧ mayLs (df .o) := iff_of_true rfl ⟨hl1, mayLs_nil t2⟩
      refine CallAt.args (.cons (Same.refl _) (.cons (Same.refl _) (.cons (Same.refl _) (.cons (Same.tt rfl) .nil)))) (begun_c f c p (fun _ => true) hf hc hp (fun g e q1 q2 => ?_) (fun k q1 q2 => ?_))
      · cbv
        refine br_ndec (fun _ => ?_) (fun h => (q2 h).elim)
        cbv
        refine refused_c g e ?_
        cbv
        exact ⟨_, .ret (.refl _), hr g e (true) hmay (beg_inl q1)⟩
      have q3 : k < (askS (f .o)).nodes.length := q2
      have hls := (hmay.1 (beg_may q1)).1
      have hend : ∀ {g : FS} {e : Int}, endS (askS (f .o)) k ((f .o).nodes.getD k Ino.z) (kdAcl (df .o) ((f .o).nodes.getD k Ino.z)) (own9 ((f .o).nodes.getD k Ino.z).mt (c .o)) (updAcl (l .o) (df .o) ((f .o).nodes.getD k Ino.z)) = (g, e) → chgS (f .o) ((true) && isPath (p .o)) (upD (c .o) (p .o) (chkE (kdAcl (df .o)) (fun n => own9 n.mt (c .o))) (updAcl (l .o) (df .o))) = (g, e) := fun h => end_chg (kd := kdAcl (df .o)) (al := fun n => own9 n.mt (c .o)) q1 h
      generalize (f .o).nodes.getD k Ino.z = n at hend ⊢
      have hkd : ∀ b, kdAcl (df .o) n = b → kdAcl (df .o) n = b := fun b h => h
      cbv
      refine br_ndec (fun h => (h rfl).elim) (fun _ => ?_)
      cbv
      refine br_dec (fun s5 => ?_) (fun s5 => ?_)
      · have s5 : 0 < (l .o).length := by have s5 : (0 : Int) < zi (l .o).length := s5; unfold zi at s5; omega
        have hupd : updAcl (l .o) (df .o) n = { n with mt := { n.mt with acl := l .o, dflt := df .o, mode := abits .or .i64 (abits .andNot .i64 n.mt.mode 511) (modeA (l .o)) } } := by unfold updAcl saM; rw [if_pos s5]
        have hg : Good (l .o) := by
          rcases hls with q | q
          · rw [q] at s5; simp at s5
          · exact q.good
        cbv
        refine mode9_c l (by unfold short; omega) hg fun m hm => ?_
        obtain rfl : m = fun _ => modeA (l .o) := funext fun | .o => hm
        cbv
        refine ⟨fun u1 => ?_, fun u1 => ?_⟩
        rotate_left
        · have u1 : decide (n.kind = 3) = true := by have u1 : (!decide (n.kind = 3)) = false := u1; simpa using u1
          cbv
          refine owner9_c (fun _ => ({ n with mt := { n.mt with acl := l .o, dflt := df .o, mode := abits .or .i64 (abits .andNot .i64 n.mt.mode 511) (modeA (l .o)) } }).mt) c fun b9 hb9 => ?_
          have hb9 : b9 .o = own9 n.mt (c .o) := hb9
          cbv
          refine CallAt.args (.cons (Same.refl _) (.cons (Same.ff rfl) (.cons (Same.refl _) (.cons (Same.refl _) .nil)))) (ended_c (fun _ => askS (f .o)) k (fun _ => n) (fun _ => false) b9 (fun _ => { n with mt := { n.mt with acl := l .o, dflt := df .o, mode := abits .or .i64 (abits .andNot .i64 n.mt.mode 511) (modeA (l .o)) } }) hf.ask q3 fun g e h => ?_)
          have h : endS (askS (f .o)) k n (false) (b9 .o) ({ n with mt := { n.mt with acl := l .o, dflt := df .o, mode := abits .or .i64 (abits .andNot .i64 n.mt.mode 511) (modeA (l .o)) } }) = (g .o, e .o) := h
          rw [hb9] at h
          cbv
          exact ⟨_, .ret (.refl _), hr g e (true) hmay (hend (by rw [hupd, hkd (false) (by unfold kdAcl; rw [u1]; rfl)]; exact h))⟩
        have u1 : decide (n.kind = 3) = false := by have u1 : (!decide (n.kind = 3)) = true := u1; simpa using u1
        cbv
        refine ⟨fun u2 => ?_, fun u2 => ?_⟩
        · have u2 : decide ((df .o).length = 0) = false := decide_eq_false (zne (of_decide_eq_false u2))
          cbv
          refine owner9_c (fun _ => ({ n with mt := { n.mt with acl := l .o, dflt := df .o, mode := abits .or .i64 (abits .andNot .i64 n.mt.mode 511) (modeA (l .o)) } }).mt) c fun b9 hb9 => ?_
          have hb9 : b9 .o = own9 n.mt (c .o) := hb9
          cbv
          refine CallAt.args (.cons (Same.refl _) (.cons (Same.refl _) (.cons (Same.refl _) (.cons (Same.refl _) .nil)))) (ended_c (fun _ => askS (f .o)) k (fun _ => n) (fun _ => decide (n.kind = 6)) b9 (fun _ => { n with mt := { n.mt with acl := l .o, dflt := df .o, mode := abits .or .i64 (abits .andNot .i64 n.mt.mode 511) (modeA (l .o)) } }) hf.ask q3 fun g e h => ?_)
          have h : endS (askS (f .o)) k n (decide (n.kind = 6)) (b9 .o) ({ n with mt := { n.mt with acl := l .o, dflt := df .o, mode := abits .or .i64 (abits .andNot .i64 n.mt.mode 511) (modeA (l .o)) } }) = (g .o, e .o) := h
          rw [hb9] at h
          cbv
          exact ⟨_, .ret (.refl _), hr g e (true) hmay (hend (by rw [hupd, hkd (decide (n.kind = 6)) (by unfold kdAcl; rw [u1, u2]; rfl)]; exact h))⟩
        · have u2 : decide ((df .o).length = 0) = true := decide_eq_true (zeq (of_decide_eq_true u2))
          cbv
          refine owner9_c (fun _ => ({ n with mt := { n.mt with acl := l .o, dflt := df .o, mode := abits .or .i64 (abits .andNot .i64 n.mt.mode 511) (modeA (l .o)) } }).mt) c fun b9 hb9 => ?_
          have hb9 : b9 .o = own9 n.mt (c .o) := hb9
          cbv
          refine CallAt.args (.cons (Same.refl _) (.cons (Same.tt rfl) (.cons (Same.refl _) (.cons (Same.refl _) .nil)))) (ended_c (fun _ => askS (f .o)) k (fun _ => n) (fun _ => true) b9 (fun _ => { n with mt := { n.mt with acl := l .o, dflt := df .o, mode := abits .or .i64 (abits .andNot .i64 n.mt.mode 511) (modeA (l .o)) } }) hf.ask q3 fun g e h => ?_)
          have h : endS (askS (f .o)) k n (true) (b9 .o) ({ n with mt := { n.mt with acl := l .o, dflt := df .o, mode := abits .or .i64 (abits .andNot .i64 n.mt.mode 511) (modeA (l .o)) } }) = (g .o, e .o) := h
          rw [hb9] at h
          cbv
          exact ⟨_, .ret (.refl _), hr g e (true) hmay (hend (by rw [hupd, hkd (true) (by unfold kdAcl; rw [u1, u2]; rfl)]; exact h))⟩
      · have s5 : ¬ 0 < (l .o).length := by have s5 : ¬ (0 : Int) < zi (l .o).length := s5; unfold zi at s5; omega
        have hupd : updAcl (l .o) (df .o) n = { n with mt := { n.mt with acl := l .o, dflt := df .o } } := by unfold updAcl saM; rw [if_neg s5]
        cbv
        refine ⟨fun u1 => ?_, fun u1 => ?_⟩
        rotate_left
        · have u1 : decide (n.kind = 3) = true := by have u1 : (!decide (n.kind = 3)) = false := u1; simpa using u1
          cbv
          refine owner9_c (fun _ => ({ n with mt := { n.mt with acl := l .o, dflt := df .o } }).mt) c fun b9 hb9 => ?_
          have hb9 : b9 .o = own9 n.mt (c .o) := hb9
          cbv
          refine CallAt.args (.cons (Same.refl _) (.cons (Same.ff rfl) (.cons (Same.refl _) (.cons (Same.refl _) .nil)))) (ended_c (fun _ => askS (f .o)) k (fun _ => n) (fun _ => false) b9 (fun _ => { n with mt := { n.mt with acl := l .o, dflt := df .o } }) hf.ask q3 fun g e h => ?_)
          have h : endS (askS (f .o)) k n (false) (b9 .o) ({ n with mt := { n.mt with acl := l .o, dflt := df .o } }) = (g .o, e .o) := h
          rw [hb9] at h
          cbv
          exact ⟨_, .ret (.refl _), hr g e (true) hmay (hend (by rw [hupd, hkd (false) (by unfold kdAcl; rw [u1]; rfl)]; exact h))⟩
        have u1 : decide (n.kind = 3) = false := by have u1 : (!decide (n.kind = 3)) = true := u1; simpa using u1
        cbv
        refine ⟨fun u2 => ?_, fun u2 => ?_⟩
        · have u2 : decide ((df .o).length = 0) = false := decide_eq_false (zne (of_decide_eq_false u2))
          cbv
          refine owner9_c (fun _ => ({ n with mt := { n.mt with acl := l .o, dflt := df .o } }).mt) c fun b9 hb9 => ?_
          have hb9 : b9 .o = own9 n.mt (c .o) := hb9
          cbv
          refine CallAt.args (.cons (Same.refl _) (.cons (Same.refl _) (.cons (Same.refl _) (.cons (Same.refl _) .nil)))) (ended_c (fun _ => askS (f .o)) k (fun _ => n) (fun _ => decide (n.kind = 6)) b9 (fun _ => { n with mt := { n.mt with acl := l .o, dflt := df .o } }) hf.ask q3 fun g e h => ?_)
          have h : endS (askS (f .o)) k n (decide (n.kind = 6)) (b9 .o) ({ n with mt := { n.mt with acl := l .o, dflt := df .o } }) = (g .o, e .o) := h
          rw [hb9] at h
          cbv
          exact ⟨_, .ret (.refl _), hr g e (true) hmay (hend (by rw [hupd, hkd (decide (n.kind = 6)) (by unfold kdAcl; rw [u1, u2]; rfl)]; exact h))⟩
        · have u2 : decide ((df .o).length = 0) = true := decide_eq_true (zeq (of_decide_eq_true u2))
          cbv
          refine owner9_c (fun _ => ({ n with mt := { n.mt with acl := l .o, dflt := df .o } }).mt) c fun b9 hb9 => ?_
          have hb9 : b9 .o = own9 n.mt (c .o) := hb9
          cbv
          refine CallAt.args (.cons (Same.refl _) (.cons (Same.tt rfl) (.cons (Same.refl _) (.cons (Same.refl _) .nil)))) (ended_c (fun _ => askS (f .o)) k (fun _ => n) (fun _ => true) b9 (fun _ => { n with mt := { n.mt with acl := l .o, dflt := df .o } }) hf.ask q3 fun g e h => ?_)
          have h : endS (askS (f .o)) k n (true) (b9 .o) ({ n with mt := { n.mt with acl := l .o, dflt := df .o } }) = (g .o, e .o) := h
          rw [hb9] at h
          cbv
          exact ⟨_, .ret (.refl _), hr g e (true) hmay (hend (by rw [hupd, hkd (true) (by unfold kdAcl; rw [u1, u2]; rfl)]; exact h))⟩
end Go.Proofs.YtkklflpfklbbcaaGreatDoor
/- A file system, by the document: a node's names with values. -/
namespace Go.Proofs.YtkklflpfklbbcaaGreatDoor
open Go Go.Proofs.YtkklflpfklbbcaaGreatDoor.Sx F
set_option linter.unusedVariables false
set_option linter.unusedSimpArgs false
end Go.Proofs.YtkklflpfklbbcaaGreatDoor
/- A file system, by the document: a node's owner. -/
namespace Go.Proofs.YtkklflpfklbbcaaGreatDoor
open Go Go.Proofs.YtkklflpfklbbcaaGreatDoor.Sx F
set_option linter.unusedVariables false
set_option linter.unusedSimpArgs false
def mayId (u g : Int) : Bool := decide (0 ≤ u) && decide (u ≤ 2147483647) && decide (0 ≤ g) && decide (g ≤ 2147483647)
def alChown (c : Cred) (uid gid : Int) (n : Ino) : Bool := has9 c 1 || ownC c uid gid n
set_option maxHeartbeats 4000000 in
theorem chown18_c (f : Th FS) (c : Th Cred) (p : Th (List UInt8)) (uid gid : Th Int) (hf : FsOk (f .o)) (hc : short (c .o).groups) (hp : (p .o).length ≤ 100000) {d : Nat} {K : ARes → BL → Prop}
    (hr : ∀ (g : Th FS) (e : Th Int), chgS (f .o) (mayId (uid .o) (gid .o) && isPath (p .o)) (upD (c .o) (p .o) (chkE (fun _ => true) (alChown (c .o) (uid .o) (gid .o))) (updChown (uid .o) (gid .o))) = (g .o, e .o) → K (.ret (nextAv g e)) .nil) :
    CallAt PT r18_Chown [FS.av f, Cred.av c, .str p, .int .i64 uid, .int .i64 gid] d .nil K := by
  refine CallAt.res ?_
  refine r18_Chown.of rfl rfl ?_
  cbv
  refine ⟨fun m0 => ?_, fun m0 => ?_⟩
  rotate_left
  · have m0 : decide (0 ≤ uid .o) = false := m0
    cbv
    have hmay : mayId (uid .o) (gid .o) = false := by unfold mayId; rw [m0]; rfl
    rw [hmay] at hr
    refine CallAt.args (.cons (Same.refl _) (.cons (Same.refl _) (.cons (Same.refl _) (.cons (Same.ff rfl) .nil)))) (begun_c f c p (fun _ => false) hf hc hp (fun g e q1 q2 => ?_) (fun k q1 q2 => by cases beg_may q1))
    cbv
    refine br_ndec (fun _ => ?_) (fun h => (q2 h).elim)
    cbv
    refine refused_c g e ?_
    cbv
    exact ⟨_, .ret (.refl _), hr g e (beg_inl q1)⟩
  have m0 : decide (0 ≤ uid .o) = true := m0
  cbv
  refine ⟨fun m1 => ?_, fun m1 => ?_⟩
  rotate_left
  · have m1 : decide (uid .o ≤ 2147483647) = false := m1
    cbv
    have hmay : mayId (uid .o) (gid .o) = false := by unfold mayId; rw [m0, m1]; rfl
    rw [hmay] at hr
    refine CallAt.args (.cons (Same.refl _) (.cons (Same.refl _) (.cons (Same.refl _) (.cons (Same.ff rfl) .nil)))) (begun_c f c p (fun _ => false) hf hc hp (fun g e q1 q2 => ?_) (fun k q1 q2 => by cases beg_may q1))
    cbv
    refine br_ndec (fun _ => ?_) (fun h => (q2 h).elim)
    cbv
    refine refused_c g e ?_
    cbv
    exact ⟨_, .ret (.refl _), hr g e (beg_inl q1)⟩
  have m1 : decide (uid .o ≤ 2147483647) = true := m1
  cbv
  refine ⟨fun m2 => ?_, fun m2 => ?_⟩
  rotate_left
  · have m2 : decide (0 ≤ gid .o) = false := m2
    cbv
    have hmay : mayId (uid .o) (gid .o) = false := by unfold mayId; rw [m0, m1, m2]; rfl
    rw [hmay] at hr
    refine CallAt.args (.cons (Same.refl _) (.cons (Same.refl _) (.cons (Same.refl _) (.cons (Same.ff rfl) .nil)))) (begun_c f c p (fun _ => false) hf hc hp (fun g e q1 q2 => ?_) (fun k q1 q2 => by cases beg_may q1))
    cbv
    refine br_ndec (fun _ => ?_) (fun h => (q2 h).elim)
    cbv
    refine refused_c g e ?_
    cbv
    exact ⟨_, .ret (.refl _), hr g e (beg_inl q1)⟩
  have m2 : decide (0 ≤ gid .o) = true := m2
  cbv
  have hmay : mayId (uid .o) (gid .o) = decide (gid .o ≤ 2147483647) := by unfold mayId; rw [m0, m1, m2]; rfl
  rw [hmay] at hr
  refine begun_c f c p (fun _ => decide (gid .o ≤ 2147483647)) hf hc hp (fun g e q1 q2 => ?_) (fun k q1 q2 => ?_)
  · cbv
    refine br_ndec (fun _ => ?_) (fun h => (q2 h).elim)
    cbv
    refine refused_c g e ?_
    cbv
    exact ⟨_, .ret (.refl _), hr g e (beg_inl q1)⟩
  have q3 : k < (askS (f .o)).nodes.length := q2
  have hend : ∀ {g : FS} {e : Int}, endS (askS (f .o)) k ((f .o).nodes.getD k Ino.z) true (alChown (c .o) (uid .o) (gid .o) ((f .o).nodes.getD k Ino.z)) (updChown (uid .o) (gid .o) ((f .o).nodes.getD k Ino.z)) = (g, e) → chgS (f .o) (decide (gid .o ≤ 2147483647) && isPath (p .o)) (upD (c .o) (p .o) (chkE (fun _ => true) (alChown (c .o) (uid .o) (gid .o))) (updChown (uid .o) (gid .o))) = (g, e) := fun h => end_chg (kd := fun _ => true) (al := alChown (c .o) (uid .o) (gid .o)) q1 h
  generalize (f .o).nodes.getD k Ino.z = n at hend ⊢
  cbv
  refine br_ndec (fun h => (h rfl).elim) (fun _ => ?_)
  cbv
  refine hasD_c c (fun _ => 1) fun b2 hb2 => ?_
  have hb2 : b2 .o = has9 (c .o) 1 := hb2
  cbv
  refine ⟨fun s2 => ?_, fun s2 => ?_⟩
  rotate_left
  · have s2 : b2 .o = true := s2
    cbv
    refine br_dec (fun s4 => ?_) (fun s4 => ?_)
    · have s4 : n.kind = 1 := s4
      cbv
      refine CallAt.args (.cons (Same.refl _) (.cons (Same.tt rfl) (.cons (Same.tt rfl) (.cons (Same.agg (.cons (.refl _) (.cons (.refl _) (.cons (.refl _) (.cons (.refl _) (.cons (.refl _) (.cons (.refl _) (.cons (.refl _) (.cons (.refl _) (.cons (.refl _) (.cons (.refl _) (.cons (.refl _) (.cons (.refl _) (.cons (.ff rfl) (.cons (.refl _) (.cons (.refl _) (.cons (.refl _) (.cons (.refl _) (.cons (.refl _) (.cons (.refl _) (.cons (.refl _) (.nil)))))))))))))))))))))) .nil)))) (ended_c (fun _ => askS (f .o)) k (fun _ => n) (fun _ => true) (fun _ => true) (fun _ => { n with mt := { n.mt with uid := uid .o, gid := gid .o, mode := abits .andNot .i64 n.mt.mode 3072, caps := capsZ } }) hf.ask q3 fun g e h => ?_)
      have h : endS (askS (f .o)) k n true (true) ({ n with mt := { n.mt with uid := uid .o, gid := gid .o, mode := abits .andNot .i64 n.mt.mode 3072, caps := capsZ } }) = (g .o, e .o) := h
      cbv
      exact ⟨_, .ret (.refl _), hr g e (hend (by rw [show alChown (c .o) (uid .o) (gid .o) n = (true) from by unfold alChown; rw [← hb2, s2]; rfl, show updChown (uid .o) (gid .o) n = { n with mt := { n.mt with uid := uid .o, gid := gid .o, mode := abits .andNot .i64 n.mt.mode 3072, caps := capsZ } } from by unfold updChown; rw [if_pos s4]]; exact h))⟩
    · have s4 : ¬ n.kind = 1 := s4
      cbv
      refine CallAt.args (.cons (Same.refl _) (.cons (Same.tt rfl) (.cons (Same.tt rfl) (.cons (Same.agg (.cons (.refl _) (.cons (.refl _) (.cons (.refl _) (.cons (.refl _) (.cons (.refl _) (.cons (.refl _) (.cons (.refl _) (.cons (.refl _) (.cons (.refl _) (.cons (.refl _) (.cons (.refl _) (.cons (.refl _) (.cons (.refl _) (.cons (.refl _) (.cons (.refl _) (.cons (.refl _) (.cons (.refl _) (.cons (.refl _) (.cons (.refl _) (.cons (.refl _) (.nil)))))))))))))))))))))) .nil)))) (ended_c (fun _ => askS (f .o)) k (fun _ => n) (fun _ => true) (fun _ => true) (fun _ => { n with mt := { n.mt with uid := uid .o, gid := gid .o } }) hf.ask q3 fun g e h => ?_)
      have h : endS (askS (f .o)) k n true (true) ({ n with mt := { n.mt with uid := uid .o, gid := gid .o } }) = (g .o, e .o) := h
      cbv
      exact ⟨_, .ret (.refl _), hr g e (hend (by rw [show alChown (c .o) (uid .o) (gid .o) n = (true) from by unfold alChown; rw [← hb2, s2]; rfl, show updChown (uid .o) (gid .o) n = { n with mt := { n.mt with uid := uid .o, gid := gid .o } } from by unfold updChown; rw [if_neg s4]]; exact h))⟩
  have s2 : b2 .o = false := s2
  cbv
  refine ⟨fun u1 => ?_, fun u1 => ?_⟩
  rotate_left
  · have u1 : decide ((c .o).uid = n.mt.uid) = false := u1
    cbv
    refine br_dec (fun s4 => ?_) (fun s4 => ?_)
    · have s4 : n.kind = 1 := s4
      cbv
      refine CallAt.args (.cons (Same.refl _) (.cons (Same.tt rfl) (.cons (Same.ff rfl) (.cons (Same.agg (.cons (.refl _) (.cons (.refl _) (.cons (.refl _) (.cons (.refl _) (.cons (.refl _) (.cons (.refl _) (.cons (.refl _) (.cons (.refl _) (.cons (.refl _) (.cons (.refl _) (.cons (.refl _) (.cons (.refl _) (.cons (.ff rfl) (.cons (.refl _) (.cons (.refl _) (.cons (.refl _) (.cons (.refl _) (.cons (.refl _) (.cons (.refl _) (.cons (.refl _) (.nil)))))))))))))))))))))) .nil)))) (ended_c (fun _ => askS (f .o)) k (fun _ => n) (fun _ => true) (fun _ => false) (fun _ => { n with mt := { n.mt with uid := uid .o, gid := gid .o, mode := abits .andNot .i64 n.mt.mode 3072, caps := capsZ } }) hf.ask q3 fun g e h => ?_)
      have h : endS (askS (f .o)) k n true (false) ({ n with mt := { n.mt with uid := uid .o, gid := gid .o, mode := abits .andNot .i64 n.mt.mode 3072, caps := capsZ } }) = (g .o, e .o) := h
      cbv
      exact ⟨_, .ret (.refl _), hr g e (hend (by rw [show alChown (c .o) (uid .o) (gid .o) n = (false) from by unfold alChown ownC; rw [← hb2, s2, u1]; rfl, show updChown (uid .o) (gid .o) n = { n with mt := { n.mt with uid := uid .o, gid := gid .o, mode := abits .andNot .i64 n.mt.mode 3072, caps := capsZ } } from by unfold updChown; rw [if_pos s4]]; exact h))⟩
    · have s4 : ¬ n.kind = 1 := s4
      cbv
      refine CallAt.args (.cons (Same.refl _) (.cons (Same.tt rfl) (.cons (Same.ff rfl) (.cons (Same.agg (.cons (.refl _) (.cons (.refl _) (.cons (.refl _) (.cons (.refl _) (.cons (.refl _) (.cons (.refl _) (.cons (.refl _) (.cons (.refl _) (.cons (.refl _) (.cons (.refl _) (.cons (.refl _) (.cons (.refl _) (.cons (.refl _) (.cons (.refl _) (.cons (.refl _) (.cons (.refl _) (.cons (.refl _) (.cons (.refl _) (.cons (.refl _) (.cons (.refl _) (.nil)))))))))))))))))))))) .nil)))) (ended_c (fun _ => askS (f .o)) k (fun _ => n) (fun _ => true) (fun _ => false) (fun _ => { n with mt := { n.mt with uid := uid .o, gid := gid .o } }) hf.ask q3 fun g e h => ?_)
      have h : endS (askS (f .o)) k n true (false) ({ n with mt := { n.mt with uid := uid .o, gid := gid .o } }) = (g .o, e .o) := h
      cbv
      exact ⟨_, .ret (.refl _), hr g e (hend (by rw [show alChown (c .o) (uid .o) (gid .o) n = (false) from by unfold alChown ownC; rw [← hb2, s2, u1]; rfl, show updChown (uid .o) (gid .o) n = { n with mt := { n.mt with uid := uid .o, gid := gid .o } } from by unfold updChown; rw [if_neg s4]]; exact h))⟩
  have u1 : decide ((c .o).uid = n.mt.uid) = true := u1
  cbv
  refine ⟨fun u2 => ?_, fun u2 => ?_⟩
  rotate_left
  · have u2 : decide ((c .o).uid = uid .o) = false := u2
    cbv
    refine br_dec (fun s4 => ?_) (fun s4 => ?_)
    · have s4 : n.kind = 1 := s4
      cbv
      refine CallAt.args (.cons (Same.refl _) (.cons (Same.tt rfl) (.cons (Same.ff rfl) (.cons (Same.agg (.cons (.refl _) (.cons (.refl _) (.cons (.refl _) (.cons (.refl _) (.cons (.refl _) (.cons (.refl _) (.cons (.refl _) (.cons (.refl _) (.cons (.refl _) (.cons (.refl _) (.cons (.refl _) (.cons (.refl _) (.cons (.ff rfl) (.cons (.refl _) (.cons (.refl _) (.cons (.refl _) (.cons (.refl _) (.cons (.refl _) (.cons (.refl _) (.cons (.refl _) (.nil)))))))))))))))))))))) .nil)))) (ended_c (fun _ => askS (f .o)) k (fun _ => n) (fun _ => true) (fun _ => false) (fun _ => { n with mt := { n.mt with uid := uid .o, gid := gid .o, mode := abits .andNot .i64 n.mt.mode 3072, caps := capsZ } }) hf.ask q3 fun g e h => ?_)
      have h : endS (askS (f .o)) k n true (false) ({ n with mt := { n.mt with uid := uid .o, gid := gid .o, mode := abits .andNot .i64 n.mt.mode 3072, caps := capsZ } }) = (g .o, e .o) := h
      cbv
      exact ⟨_, .ret (.refl _), hr g e (hend (by rw [show alChown (c .o) (uid .o) (gid .o) n = (false) from by unfold alChown ownC; rw [← hb2, s2, u1, u2]; rfl, show updChown (uid .o) (gid .o) n = { n with mt := { n.mt with uid := uid .o, gid := gid .o, mode := abits .andNot .i64 n.mt.mode 3072, caps := capsZ } } from by unfold updChown; rw [if_pos s4]]; exact h))⟩
    · have s4 : ¬ n.kind = 1 := s4
      cbv
      refine CallAt.args (.cons (Same.refl _) (.cons (Same.tt rfl) (.cons (Same.ff rfl) (.cons (Same.agg (.cons (.refl _) (.cons (.refl _) (.cons (.refl _) (.cons (.refl _) (.cons (.refl _) (.cons (.refl _) (.cons (.refl _) (.cons (.refl _) (.cons (.refl _) (.cons (.refl _) (.cons (.refl _) (.cons (.refl _) (.cons (.refl _) (.cons (.refl _) (.cons (.refl _) (.cons (.refl _) (.cons (.refl _) (.cons (.refl _) (.cons (.refl _) (.cons (.refl _) (.nil)))))))))))))))))))))) .nil)))) (ended_c (fun _ => askS (f .o)) k (fun _ => n) (fun _ => true) (fun _ => false) (fun _ => { n with mt := { n.mt with uid := uid .o, gid := gid .o } }) hf.ask q3 fun g e h => ?_)
      have h : endS (askS (f .o)) k n true (false) ({ n with mt := { n.mt with uid := uid .o, gid := gid .o } }) = (g .o, e .o) := h
      cbv
      exact ⟨_, .ret (.refl _), hr g e (hend (by rw [show alChown (c .o) (uid .o) (gid .o) n = (false) from by unfold alChown ownC; rw [← hb2, s2, u1, u2]; rfl, show updChown (uid .o) (gid .o) n = { n with mt := { n.mt with uid := uid .o, gid := gid .o } } from by unfold updChown; rw [if_neg s4]]; exact h))⟩
  have u2 : decide ((c .o).uid = uid .o) = true := u2
  cbv
  refine in9_c c gid hc fun b3 hb3 => ?_
  cbv
  refine br_dec (fun s4 => ?_) (fun s4 => ?_)
  · have s4 : n.kind = 1 := s4
    cbv
    refine CallAt.args (.cons (Same.refl _) (.cons (Same.tt rfl) (.cons (Same.refl _) (.cons (Same.agg (.cons (.refl _) (.cons (.refl _) (.cons (.refl _) (.cons (.refl _) (.cons (.refl _) (.cons (.refl _) (.cons (.refl _) (.cons (.refl _) (.cons (.refl _) (.cons (.refl _) (.cons (.refl _) (.cons (.refl _) (.cons (.ff rfl) (.cons (.refl _) (.cons (.refl _) (.cons (.refl _) (.cons (.refl _) (.cons (.refl _) (.cons (.refl _) (.cons (.refl _) (.nil)))))))))))))))))))))) .nil)))) (ended_c (fun _ => askS (f .o)) k (fun _ => n) (fun _ => true) (fun _ => b3 .o) (fun _ => { n with mt := { n.mt with uid := uid .o, gid := gid .o, mode := abits .andNot .i64 n.mt.mode 3072, caps := capsZ } }) hf.ask q3 fun g e h => ?_)
    have h : endS (askS (f .o)) k n true (b3 .o) ({ n with mt := { n.mt with uid := uid .o, gid := gid .o, mode := abits .andNot .i64 n.mt.mode 3072, caps := capsZ } }) = (g .o, e .o) := h
    cbv
    exact ⟨_, .ret (.refl _), hr g e (hend (by rw [show alChown (c .o) (uid .o) (gid .o) n = (b3 .o) from by unfold alChown ownC; rw [← hb2, s2, u1, u2, ← hb3]; rfl, show updChown (uid .o) (gid .o) n = { n with mt := { n.mt with uid := uid .o, gid := gid .o, mode := abits .andNot .i64 n.mt.mode 3072, caps := capsZ } } from by unfold updChown; rw [if_pos s4]]; exact h))⟩
  · have s4 : ¬ n.kind = 1 := s4
    cbv
    refine CallAt.args (.cons (Same.refl _) (.cons (Same.tt rfl) (.cons (Same.refl _) (.cons (Same.agg (.cons (.refl _) (.cons (.refl _) (.cons (.refl _) (.cons (.refl _) (.cons (.refl _) (.cons (.refl _) (.cons (.refl _) (.cons (.refl _) (.cons (.refl _) (.cons (.refl _) (.cons (.refl _) (.cons (.refl _) (.cons (.refl _) (.cons (.refl _) (.cons (.refl _) (.cons (.refl _) (.cons (.refl _) (.cons (.refl _) (.cons (.refl _) (.cons (.refl _) (.nil)))))))))))))))))))))) .nil)))) (ended_c (fun _ => askS (f .o)) k (fun _ => n) (fun _ => true) (fun _ => b3 .o) (fun _ => { n with mt := { n.mt with uid := uid .o, gid := gid .o } }) hf.ask q3 fun g e h => ?_)
    have h : endS (askS (f .o)) k n true (b3 .o) ({ n with mt := { n.mt with uid := uid .o, gid := gid .o } }) = (g .o, e .o) := h
    cbv
    exact ⟨_, .ret (.refl _), hr g e (hend (by rw [show alChown (c .o) (uid .o) (gid .o) n = (b3 .o) from by unfold alChown ownC; rw [← hb2, s2, u1, u2, ← hb3]; rfl, show updChown (uid .o) (gid .o) n = { n with mt := { n.mt with uid := uid .o, gid := gid .o } } from by unfold updChown; rw [if_neg s4]]; exact h))⟩
end Go.Proofs.YtkklflpfklbbcaaGreatDoor
/- A file system, by the document: a node's mode. -/
namespace Go.Proofs.YtkklflpfklbbcaaGreatDoor
open Go Go.Proofs.YtkklflpfklbbcaaGreatDoor.Sx F
set_option linter.unusedVariables false
set_option linter.unusedSimpArgs false
end Go.Proofs.YtkklflpfklbbcaaGreatDoor
/- Of laws about a file system: one node below the root, by name; the law FsChmods, in plain. -/
namespace Go.Proofs.YtkklflpfklbbcaaGreatDoor
open Go Go.Proofs.YtkklflpfklbbcaaGreatDoor.Sx F
set_option linter.unusedVariables false
set_option linter.unusedSimpArgs false
/-- One node behind a root, of a name of one byte. -/
def oneS (b : UInt8) (x : Ino) (room op : Int) : FS := ⟨[{ rootS with kids := [⟨[b], 1⟩] }, x], room, op, []⟩
theorem root_x (c : Cred) : Can9 rootS.mt c 1 = true := by
  have h1 : permR (of9 rootS.mt) 1 = 7 := by decide +kernel
  have h6 : permR (of9 rootS.mt) 6 = 5 := by decide +kernel
  have hm : mask9 (of9 rootS.mt) = 7 := by decide +kernel
  have hl : of9 rootS.mt = [⟨1, 0, 7⟩, ⟨3, 0, 5⟩, ⟨6, 0, 5⟩] := by kernel_rfl
  have e7 : band 7 1 = 1 := by decide +kernel
  have e5 : band 5 1 = 1 := by decide +kernel
  have e57 : band (band 5 7) 1 = 1 := by decide +kernel
  unfold Can9
  rw [h1, h6, hm, hl]
  simp [hasS, user9, grp9, e7, e5, e57]
theorem walk_one (b : UInt8) (x : Ino) (room op : Int) {c : Cred} (hc : short c.groups) (hk : x.kids = []) (hg : Good (ofS x.mt)) (ha : x.mt.acl.length ≤ 1000) : Walk (oneS b x room op) c := by
  have hr : Good (ofS rootS.mt) := good_mode _
  refine walk_of ⟨by show 0 < 2; decide, by show 2 ≤ 1000; decide, ?_, ?_, by show 0 ≤ 1000; decide⟩ ?_ ?_ ?_ hc
  · intro n hn
    rcases List.mem_cons.1 hn with rfl | hn
    · refine ⟨by show 1 ≤ 1000; decide, fun d hd => ?_⟩
      obtain rfl := List.mem_singleton.1 hd
      show (1 : Int) < 2
      decide
    · obtain rfl := List.mem_singleton.1 hn
      rw [hk]
      exact ⟨by show 0 ≤ 1000; decide, fun d hd => by simp at hd⟩
  · intro n hn
    rcases List.mem_cons.1 hn with rfl | hn
    · show 0 ≤ 1000; decide
    · obtain rfl := List.mem_singleton.1 hn
      exact ha
  · intro n hn
    rcases List.mem_cons.1 hn with rfl | hn
    · exact List.pairwise_singleton _ _
    · obtain rfl := List.mem_singleton.1 hn
      rw [hk]; exact .nil
  · intro n hn
    rcases List.mem_cons.1 hn with rfl | hn
    · exact hr
    · obtain rfl := List.mem_singleton.1 hn
      exact hg
  · intro n hn d hd
    rcases List.mem_cons.1 hn with rfl | hn
    · obtain rfl := List.mem_singleton.1 hd
      show (0 : Int) ≤ 1
      decide
    · obtain rfl := List.mem_singleton.1 hn
      rw [hk] at hd; simp at hd
theorem look_one (x : Ino) (room op : Int) (c : Cred) : lookS (oneS 97 x room op) c [97] = (1, 0) := by
  have hp : partsS [97] = some [[97]] := by decide +kernel
  have e1 : kidS [⟨[97], 1⟩] [97] = 1 := by decide
  unfold lookS
  rw [hp]
  show downS (oneS 97 x room op) c [[97]] 0 = _
  unfold downS
  show (if ¬ (6 : Int) = 6 then ((0 : Int), (10 : Int)) else if Can9 rootS.mt c 1 = false then (0, 7) else if kidS [⟨[97], 1⟩] [97] < 0 then (0, 2) else downS (oneS 97 x room op) c [] (kidS [⟨[97], 1⟩] [97]).toNat) = _
  rw [root_x, e1]
  rfl
/-- What is asked of the one node. -/
theorem set_one {x : Ino} {room op : Int} {c : Cred} {may : Bool} {chk : Ino → Int} {upd : Ino → Ino} (hm : may = true) (hc : chk x = 0) : chgS (oneS 97 x room op) may (upD c [97] chk upd) = (oneS 97 (upd x) room (IntKind.i64.wrap (op + 1)), 0) := by
  unfold chgS
  have ha : askE (oneS 97 x room op) = 0 := if_neg (by show ¬ _ ∈ ([] : List Int); simp)
  rw [if_neg (by rw [hm]; decide), ha, if_neg (by decide)]
  have hs : askS (oneS 97 x room op) = oneS 97 x room (IntKind.i64.wrap (op + 1)) := rfl
  unfold upD
  rw [hs, look_one]
  show (match (if (0 : Int) ≠ 0 then .inl 0 else if chk x ≠ 0 then .inl (chk x) else .inr (oneS 97 (upd x) room (IntKind.i64.wrap (op + 1))) : Int ⊕ FS) with | .inl e => (oneS 97 x room (IntKind.i64.wrap (op + 1)), e) | .inr g => (g, 0)) = _
  rw [hc]
  rfl
def fileN : Ino := { Ino.z with kind := 1 }
theorem make_one : makeS (newS 10) rootC [97] fileN = (oneS 97 fileN 10 1, 0) := by kernel_rfl
def LL (mask : Bool) : List Ace := if mask then [⟨1, 0, 7⟩, ⟨2, 9, 2⟩, ⟨3, 0, 5⟩, ⟨5, 0, 6⟩, ⟨6, 0, 1⟩] else [⟨1, 0, 7⟩, ⟨3, 0, 5⟩, ⟨6, 0, 1⟩]
theorem ace_ok0 (t : Int) {p : Int} (h : 0 ≤ p ∧ p ≤ 7) : AceOk ⟨t, 0, p⟩ := ⟨h.1, h.2, by show (0 : Int) ≤ 0; decide, by show (0 : Int) ≤ 2147483647; decide, .inl rfl⟩
theorem ll_ok3 {a b c : Int} (ha : 0 ≤ a ∧ a ≤ 7) (hb : 0 ≤ b ∧ b ≤ 7) (hc : 0 ≤ c ∧ c ≤ 7) : AclOk [⟨1, 0, a⟩, ⟨3, 0, b⟩, ⟨6, 0, c⟩] := by
  refine ⟨⟨fun j hj => ?_, fun j hj => ?_, fun j hj => ?_⟩, rfl, rfl, rfl, rfl, by show 3 ≤ 32; decide⟩
  · have hj : j < 3 := hj
    match j, hj with
    | 0, _ => exact (by decide : (1 : Int) ≤ 1 ∧ (1 : Int) ≤ 6)
    | 1, _ => exact (by decide : (1 : Int) ≤ 3 ∧ (3 : Int) ≤ 6)
    | 2, _ => exact (by decide : (1 : Int) ≤ 6 ∧ (6 : Int) ≤ 6)
  · have hj : j < 3 := hj
    match j, hj with
    | 0, _ => exact ace_ok0 _ ha
    | 1, _ => exact ace_ok0 _ hb
    | 2, _ => exact ace_ok0 _ hc
  · have hj : j + 1 < 3 := hj
    match j, hj with
    | 0, _ => exact .inl (by decide : (1 : Int) < 3)
    | 1, _ => exact .inl (by decide : (3 : Int) < 6)
theorem ll_ok5 {a b c : Int} (ha : 0 ≤ a ∧ a ≤ 7) (hb : 0 ≤ b ∧ b ≤ 7) (hc : 0 ≤ c ∧ c ≤ 7) : AclOk [⟨1, 0, a⟩, ⟨2, 9, 2⟩, ⟨3, 0, 5⟩, ⟨5, 0, b⟩, ⟨6, 0, c⟩] := by
  refine ⟨⟨fun j hj => ?_, fun j hj => ?_, fun j hj => ?_⟩, rfl, rfl, rfl, rfl, by show 5 ≤ 32; decide⟩
  · have hj : j < 5 := hj
    match j, hj with
    | 0, _ => exact (by decide : (1 : Int) ≤ 1 ∧ (1 : Int) ≤ 6)
    | 1, _ => exact (by decide : (1 : Int) ≤ 2 ∧ (2 : Int) ≤ 6)
    | 2, _ => exact (by decide : (1 : Int) ≤ 3 ∧ (3 : Int) ≤ 6)
    | 3, _ => exact (by decide : (1 : Int) ≤ 5 ∧ (5 : Int) ≤ 6)
    | 4, _ => exact (by decide : (1 : Int) ≤ 6 ∧ (6 : Int) ≤ 6)
  · have hj : j < 5 := hj
    match j, hj with
    | 0, _ => exact ace_ok0 _ ha
    | 1, _ => exact (by decide : 0 ≤ (2 : Int) ∧ (2 : Int) ≤ 7 ∧ 0 ≤ (9 : Int) ∧ (9 : Int) ≤ 2147483647 ∧ ((9 : Int) = 0 ∨ (2 : Int) = 2 ∨ (2 : Int) = 4))
    | 2, _ => exact ace_ok0 3 (by decide : (0 : Int) ≤ 5 ∧ (5 : Int) ≤ 7)
    | 3, _ => exact ace_ok0 _ hb
    | 4, _ => exact ace_ok0 _ hc
  · have hj : j + 1 < 5 := hj
    match j, hj with
    | 0, _ => exact .inl (by decide : (1 : Int) < 2)
    | 1, _ => exact .inl (by decide : (2 : Int) < 3)
    | 2, _ => exact .inl (by decide : (3 : Int) < 5)
    | 3, _ => exact .inl (by decide : (5 : Int) < 6)
theorem ll_ok (mask : Bool) : AclOk (LL mask) := by
  cases mask
  · exact ll_ok3 (by decide) (by decide) (by decide)
  · exact ll_ok5 (by decide) (by decide) (by decide)
theorem band7r (x : Int) : 0 ≤ band x 7 ∧ band x 7 ≤ 7 := band_le (by decide) (by decide)
theorem ll_turn (mask : Bool) (n : Int) : AclOk (turnL (LL mask) n) ∧ (turnL (LL mask) n).length = (LL mask).length := by
  cases mask
  · exact ⟨ll_ok3 (band7r _) (band7r _) (band7r _), rfl⟩
  · exact ⟨ll_ok5 (band7r _) (band7r _) (band7r _), rfl⟩
theorem fin4096 {p : Int → Prop} (h : ∀ a b : Fin 64, p ((a.1 * 64 + b.1 : Nat) : Int)) {n : Int} (h0 : 0 ≤ n) (h1 : n < 4096) : p n := by
  have := h ⟨n.toNat / 64, by omega⟩ ⟨n.toNat % 64, by omega⟩
  rwa [show ((n.toNat / 64 * 64 + n.toNat % 64 : Nat) : Int) = n by omega] at this
theorem turn_bits {n : Int} (h0 : 0 ≤ n) (h1 : n < 4096) : band ((abits .andNot .i64 n 1024).fdiv (2 ^ min (Int.toNat 6) IntKind.i64.bits)) 7 = band ((n).fdiv (2 ^ min (Int.toNat 6) IntKind.i64.bits)) 7 ∧ band ((abits .andNot .i64 n 1024).fdiv (2 ^ min (Int.toNat 3) IntKind.i64.bits)) 7 = band ((n).fdiv (2 ^ min (Int.toNat 3) IntKind.i64.bits)) 7 ∧ band (abits .andNot .i64 n 1024) 7 = band n 7 :=
  fin4096 (p := fun n => band ((abits .andNot .i64 n 1024).fdiv (2 ^ min (Int.toNat 6) IntKind.i64.bits)) 7 = band ((n).fdiv (2 ^ min (Int.toNat 6) IntKind.i64.bits)) 7 ∧ band ((abits .andNot .i64 n 1024).fdiv (2 ^ min (Int.toNat 3) IntKind.i64.bits)) 7 = band ((n).fdiv (2 ^ min (Int.toNat 3) IntKind.i64.bits)) 7 ∧ band (abits .andNot .i64 n 1024) 7 = band n 7) (by decide +kernel) h0 h1
theorem turn_same {n : Int} (h0 : 0 ≤ n) (h1 : n < 4096) (mask : Bool) : turnL (LL mask) (abits .andNot .i64 n 1024) = turnL (LL mask) n := by
  obtain ⟨e1, e2, e3⟩ := turn_bits h0 h1
  cases mask
  · show [Ace.mk 1 0 (band ((abits .andNot .i64 n 1024).fdiv (2 ^ min (Int.toNat 6) IntKind.i64.bits)) 7), ⟨3, 0, band ((abits .andNot .i64 n 1024).fdiv (2 ^ min (Int.toNat 3) IntKind.i64.bits)) 7⟩, ⟨6, 0, band (abits .andNot .i64 n 1024) 7⟩] = _
    rw [e1, e2, e3]
    rfl
  · show [Ace.mk 1 0 (band ((abits .andNot .i64 n 1024).fdiv (2 ^ min (Int.toNat 6) IntKind.i64.bits)) 7), ⟨2, 9, 2⟩, ⟨3, 0, 5⟩, ⟨5, 0, band ((abits .andNot .i64 n 1024).fdiv (2 ^ min (Int.toNat 3) IntKind.i64.bits)) 7⟩, ⟨6, 0, band (abits .andNot .i64 n 1024) 7⟩] = _
    rw [e1, e2, e3]
    rfl
theorem turn_mode {n : Int} (h0 : 0 ≤ n) (h1 : n < 4096) (mask : Bool) : modeA (turnL (LL mask) n) = band n 511 := by
  cases mask
  · exact fin4096 (p := fun n => modeA (turnL (LL false) n) = band n 511) (by decide +kernel) h0 h1
  · exact fin4096 (p := fun n => modeA (turnL (LL true) n) = band n 511) (by decide +kernel) h0 h1
theorem turn_perm (n : Int) : permR (turnL (LL true) n) 3 = 5 := rfl
def chA (g : Int) : Ino := updChown 5 g fileN
def chB (g : Int) (mask : Bool) : Ino := updAcl (LL mask) [] (chA g)
theorem chown_one {g : Int} (hg : 1 ≤ g ∧ g ≤ 256) : chgS (oneS 97 fileN 10 1) (mayId 5 g && isPath [97]) (upD rootC [97] (chkE (fun _ => true) (alChown rootC 5 g)) (updChown 5 g)) = (oneS 97 (chA g) 10 2, 0) := by
  refine (set_one ?_ ?_).trans ?_
  · have hp : isPath [97] = true := by decide +kernel
    rw [hp]
    have h1 := hg.1
    have h2 := hg.2
    simp [mayId]
    omega
  · have h1 : has9 rootC 1 = true := by decide +kernel
    have h2 : shutS fileN.mt = false := by decide +kernel
    unfold chkE alChown
    rw [h1, h2]
    rfl
  · rfl
theorem acl_one {g : Int} (mask : Bool) {b : Bool} (hb : b = true ↔ mayLs (LL mask) ∧ mayLs []) : chgS (oneS 97 (chA g) 10 2) (b && isPath [97]) (upD rootC [97] (chkE (kdAcl []) (fun n => own9 n.mt rootC)) (updAcl (LL mask) [])) = (oneS 97 (chB g mask) 10 3, 0) := by
  refine (set_one ?_ ?_).trans ?_
  · have hp : isPath [97] = true := by decide +kernel
    rw [hp, hb.2 ⟨.inr (ll_ok mask), .inl rfl⟩]
    rfl
  · have h1 : has9 rootC 4 = true := by decide +kernel
    have h2 : shutS (chA g).mt = false := by show (!decide (band 0 3 = 0)) = false; decide +kernel
    have h3 : own9 (chA g).mt rootC = true := by unfold own9; rw [show band rootC.powers 4 = 4 by decide +kernel]; simp
    show (if kdAcl [] (chA g) = false then 10 else if own9 (chA g).mt rootC = false ∨ shutS (chA g).mt = true then 7 else 0) = (0 : Int)
    rw [h2, h3]
    rfl
  · rfl
theorem shutP_chB (g : Int) (mask : Bool) : shutP (chB g mask).mt = false := by
  show decide (0 < band 0 3) = false
  decide +kernel
theorem chmod_one {g n : Int} (mask : Bool) (c : Cred) (hu : c.uid = 5) (hn : 0 ≤ n ∧ n < 4096) : chgS (oneS 97 (chB g mask) 10 3) ((decide (0 ≤ n) && decide (n ≤ 4095)) && isPath [97]) (upD c [97] (chkChmod c) (updChmod c n)) = (oneS 97 (updChmod c n (chB g mask)) 10 4, 0) := by
  refine (set_one ?_ ?_).trans ?_
  · have hp : isPath [97] = true := by decide +kernel
    rw [hp, decide_eq_true hn.1, decide_eq_true (by omega : n ≤ 4095)]
    rfl
  · have h3 : ownS (chB g mask).mt c = true := by
      unfold ownS
      rw [show (chB g mask).mt.uid = 5 from rfl, hu]
      rfl
    unfold chkChmod
    rw [shutP_chB, h3]
    rfl
  · rfl
theorem cm_out {g : Int} (hg : 1 ≤ g) (n : Int) (mask : Bool) : cmM ⟨5, 0, [], 0⟩ n (chB g mask) = abits .andNot .i64 n 1024 := by
  have h1 : inS ⟨5, 0, [], 0⟩ g = false := by simp [inS]; omega
  have h2 : band 0 4 = 0 := by decide +kernel
  unfold cmM
  show (if (decide ((1 : Int) = 1) && !inS ⟨5, 0, [], 0⟩ g && !decide (0 < band 0 4)) = true then abits .andNot .i64 n 1024 else n) = _
  rw [h1, h2]
  rfl
theorem cm_in (g n : Int) (mask : Bool) : cmM ⟨5, g, [], 0⟩ n (chB g mask) = n := by
  have h1 : inS ⟨5, g, [], 0⟩ g = true := by simp [inS]
  unfold cmM
  show (if (decide ((1 : Int) = 1) && !inS ⟨5, g, [], 0⟩ g && !decide (0 < band 0 4)) = true then abits .andNot .i64 n 1024 else n) = _
  rw [h1]
  rfl
end Go.Proofs.YtkklflpfklbbcaaGreatDoor
/- The program's file system: Chmod. -/
namespace Go.Proofs.YtkklflpfklbbcaaGreatDoor
open Go Go.Proofs.YtkklflpfklbbcaaGreatDoor.Sx F
set_option linter.unusedVariables false
set_option linter.unusedSimpArgs false
def BChmod (f : Th FS) (c : Th Cred) (p : Th (List UInt8)) (mode : Th Int) : BL := (.cons 10000 (.cells (.cons (.fn (.func fs_Chmod_1) .nil (.cons (.ptr 10002 0) (.cons (.ptr 10003 0) (.cons (.ptr 10004 0) .nil)))) .nil)) (.cons 10001 (.cells (.cons (.ptr 10005 0) .nil)) (.cons 10002 (.cells (.cons (.str p) .nil)) (.cons 10003 (.cells (Cred.ch c)) (.cons 10004 (.cells (.cons (.int .i64 mode) .nil)) (.cons 10005 (.cells (callC f c 10006)) (.cons 10006 (rowB 20 Ino.ch Ino.z fun _ => (f .o).nodes) .nil)))))))
def CChmod (c : Th Cred) (p : Th (List UInt8)) (mode : Th Int) : BL := (.cons 10000 (.cells (.cons (.str p) .nil)) (.cons 10001 (.cells (Cred.ch c)) (.cons 10002 (.cells (.cons (.int .i64 mode) .nil)) .nil)))
theorem chg1Chmod_c (f : Th FS) (c : Th Cred) (p : Th (List UInt8)) (mode : Th Int) (hW : Walk (f .o) (c .o)) (hp : (p .o).length ≤ 100000) (hpre : True) {d : Nat} {K : ARes → BL → Prop}
    (h1 : ∀ e : Th Int, (upD (c .o) (p .o) (chkChmod (c .o)) (updChmod (c .o) (mode .o))) (f .o) = .inl (e .o) → e .o ≠ 0 → ∀ m : Th Int, K (.pan (failV e)) (BChmod f c p m))
    (h2 : ∀ g : Th FS, (upD (c .o) (p .o) (chkChmod (c .o)) (updChmod (c .o) (mode .o))) (f .o) = .inr (g .o) → ∀ m : Th Int, K (.ret (.tup .nil)) (BChmod g c p m)) : CallAt PT fs_change_1 [.ptr 10000 0, .ptr 10001 0] d (BChmod f c p mode) K := by
  refine fs_change_1.of rfl rfl ?_
  cbv
  refine CallAt.frameP [(10000, 10005), (10001, 10006), (10002, 10002), (10003, 10003), (10004, 10004)] [.ptr 10000 0, .ptr 10002 0, .ptr 10003 0, .ptr 10004 0] (by kernel_rfl) rfl fun K1 hK1 => ?_
  cbv
  refine opChmod_c f c p mode hW hp hpre (fun e q1 q2 m => hK1 _ _ ?_) (fun g q1 m => hK1 _ _ ?_)
  · cbv
    exact h1 e q1 q2 m
  · cbv
    exact h2 g q1 m
theorem caughtChmod_c (f : Th FS) (c : Th Cred) (p : Th (List UInt8)) (mode : Th Int) (hW : Walk (f .o) (c .o)) (hp : (p .o).length ≤ 100000) (hpre : True) {d : Nat} {K : ARes → BL → Prop}
    (h1 : ∀ e : Th Int, (upD (c .o) (p .o) (chkChmod (c .o)) (updChmod (c .o) (mode .o))) (f .o) = .inl (e .o) → e .o ≠ 0 → ∀ m : Th Int, K (.ret (.int .i64 e)) (BChmod f c p m))
    (h2 : ∀ g : Th FS, (upD (c .o) (p .o) (chkChmod (c .o)) (updChmod (c .o) (mode .o))) (f .o) = .inr (g .o) → ∀ m : Th Int, K (.ret (.int .i64 fun _ => 0)) (BChmod g c p m)) : CallAt PT fs_caught [.fn (.func fs_change_1) .nil (.cons (.ptr 10000 0) (.cons (.ptr 10001 0) .nil))] d (BChmod f c p mode) K := by
  refine CallAt.res ?_
  refine fs_caught.of rfl rfl ?_
  cbv
  refine CallAt.frameP [(10000, 10000), (10001, 10001), (10002, 10002), (10003, 10003), (10004, 10004), (10005, 10005), (10006, 10006)] [.ptr 10000 0, .ptr 10001 0] (by kernel_rfl) rfl fun K1 hK1 => ?_
  cbv
  refine chg1Chmod_c f c p mode hW hp hpre (fun e q1 q2 m => hK1 _ _ ?_) (fun g q1 m => hK1 _ _ ?_)
  · cbv
    refine DefAt.use [(10000, 2)] [failV e, .ptr 10000 0] (by kernel_rfl) rfl (caughtP_c e _ ?_)
    cbv
    exact ⟨_, .ret (.refl _), h1 e q1 q2 m⟩
  · cbv
    refine DefAt.use [(10000, 2)] [.nif, .ptr 10000 0] (by kernel_rfl) rfl (caughtN_c _ ?_)
    cbv
    exact ⟨_, .ret (.refl _), h2 g q1 m⟩
theorem changeChmod_c (f : Th FS) (c : Th Cred) (p : Th (List UInt8)) (mode : Th Int) (may : Th Bool) (l : Th (List (List UInt8))) (hl : (l .o).length ≤ 4 ∧ ∀ p ∈ l .o, p.length ≤ 100000) (hW : Walk (f .o) (c .o)) (hp : (p .o).length ≤ 100000) (hpre : may .o = true → allP (l .o) = true → True) {d : Nat} (hd : d < 10000) {K : ARes → BL → Prop}
    (hr : ∀ (g : Th FS) (e : Th Int), chgS (f .o) (may .o && allP (l .o)) (upD (c .o) (p .o) (chkChmod (c .o)) (updChmod (c .o) (mode .o))) = (g .o, e .o) → ∀ m : Th Int, K (.ret (.tup (.cons (FS.av g) (.cons (.int .i64 e) .nil)))) (CChmod c p m)) :
    CallAt PT fs_change [FS.av f, Cred.av c, .bool may, (.fn (.func fs_Chmod_1) .nil (.cons (.ptr 10000 0) (.cons (.ptr 10001 0) (.cons (.ptr 10002 0) .nil)))), strs l] d (CChmod c p mode) K := by
  refine CallAt.res ?_
  refine fs_change.of rfl rfl ?_
  cbv
  refine loop_at (X := Nat) 1000 [0, 1, 3, 5, 6, 8, 10, 11, 18, 19] [5, 6, 8, 10, 10000, 10001, 10002] (fun _ k => .cons 2 (.bool fun _ => may .o && allP ((l .o).take k)) (.cons 20 (.int .i64 fun _ => zi k) .nil)) (fun _ _ => .nil) (fun k => k ≤ (l .o).length) (fun k => (l .o).length - k) 0 ?_ (Nat.zero_le _) ?_
  · cbv
    (repeat' (first | exact True.intro | exact Same.refl _ | exact SameB.refl _ | exact ⟨rfl⟩ | exact Same.int rfl | exact Same.str rfl | exact Same.bool rfl | (refine Same.int ?_; simp only [List.length_append, List.length_cons, List.length_nil, zi]; omega) | (refine SameB.row' rfl fun i hi => ?_; first | rfl | exact absurd hi (Nat.not_lt_zero _)) | refine And.intro ?_ ?_ | refine SameB.cells ?_ | exact SameC.nil | refine SameC.cons ?_ ?_ | exact Same.nsl rfl | exact Same.tt rfl | exact Same.ff rfl))
    all_goals exact Same.bool (by show may .o = (may .o && true); rw [Bool.and_true])
  · intro k hk
    have hk : k ≤ (l .o).length := hk
    have hkz := zi_toNat k
    cbv
    refine br_zlt (fun r1 => ?_) (fun r1 => ?_)
    · have r1 : k < (l .o).length := r1
      have hat := allP_take r1
      have hpl : ((l .o).getD k []).length ≤ 100000 := hl.2 _ (by rw [List.getD_eq_getElem?_getD, List.getElem?_eq_getElem r1]; exact List.getElem_mem r1)
      cbv
      refine safe ⟨zi_nonneg _, zi_lt.2 r1⟩ ?_
      simp only [hkz]
      refine partsP_c (fun _ => (l .o).getD k []) hpl (fun q hq => ?_) (fun hq => ?_)
      · have hok : isPath ((l .o).getD k []) = true := by unfold isPath; rw [hq]; rfl
        have hat : (may .o && allP ((l .o).take k)) = (may .o && allP ((l .o).take (k + 1))) := by rw [hat, hok, Bool.and_true]
        cbv
        refine ⟨fun r2 => ?_, fun r2 => ?_⟩
        · have r2 : (may .o && allP ((l .o).take k)) = true := r2
          rw [hat] at r2
          cbv
          refine ⟨k + 1, r1, by omega, ?_⟩
          cbv
          rw [zi_succ (by omega)]
          (repeat' (first | exact True.intro | exact Same.refl _ | exact SameB.refl _ | exact ⟨rfl⟩ | exact Same.int rfl | exact Same.str rfl | exact Same.bool rfl | (refine Same.int ?_; simp only [List.length_append, List.length_cons, List.length_nil, zi]; omega) | (refine SameB.row' rfl fun i hi => ?_; first | rfl | exact absurd hi (Nat.not_lt_zero _)) | refine And.intro ?_ ?_ | refine SameB.cells ?_ | exact SameC.nil | refine SameC.cons ?_ ?_ | exact Same.nsl rfl | exact Same.tt rfl | exact Same.ff rfl))
          all_goals exact Same.tt r2
        · have r2 : (may .o && allP ((l .o).take k)) = false := r2
          rw [hat] at r2
          cbv
          refine ⟨k + 1, r1, by omega, ?_⟩
          cbv
          rw [zi_succ (by omega)]
          (repeat' (first | exact True.intro | exact Same.refl _ | exact SameB.refl _ | exact ⟨rfl⟩ | exact Same.int rfl | exact Same.str rfl | exact Same.bool rfl | (refine Same.int ?_; simp only [List.length_append, List.length_cons, List.length_nil, zi]; omega) | (refine SameB.row' rfl fun i hi => ?_; first | rfl | exact absurd hi (Nat.not_lt_zero _)) | refine And.intro ?_ ?_ | refine SameB.cells ?_ | exact SameC.nil | refine SameC.cons ?_ ?_ | exact Same.nsl rfl | exact Same.tt rfl | exact Same.ff rfl))
          all_goals exact Same.ff r2
      · have hok : isPath ((l .o).getD k []) = false := by unfold isPath; rw [hq]; rfl
        have hat : (may .o && allP ((l .o).take (k + 1))) = false := by rw [hat, hok, Bool.and_false, Bool.and_false]
        cbv
        refine ⟨fun r2 => ?_, fun r2 => ?_⟩
        all_goals
          cbv
          refine ⟨k + 1, r1, by omega, ?_⟩
          cbv
          rw [zi_succ (by omega)]
          (repeat' (first | exact True.intro | exact Same.refl _ | exact SameB.refl _ | exact ⟨rfl⟩ | exact Same.int rfl | exact Same.str rfl | exact Same.bool rfl | (refine Same.int ?_; simp only [List.length_append, List.length_cons, List.length_nil, zi]; omega) | (refine SameB.row' rfl fun i hi => ?_; first | rfl | exact absurd hi (Nat.not_lt_zero _)) | refine And.intro ?_ ?_ | refine SameB.cells ?_ | exact SameC.nil | refine SameC.cons ?_ ?_ | exact Same.nsl rfl | exact Same.tt rfl | exact Same.ff rfl))
          all_goals exact Same.ff hat
    · obtain rfl : k = (l .o).length := Nat.le_antisymm hk r1
      rw [List.take_length]
      cbv
      refine br_nbool (fun r2 => ?_) (fun r2 => ?_)
      · cbv
        exact ⟨_, .ret (.refl _), hr f (fun _ => 1) (chg_may r2) mode⟩
      have r2 : (may .o && allP (l .o)) = true := r2
      have hpre := hpre (Bool.and_eq_true_iff.1 r2).1 (Bool.and_eq_true_iff.1 r2).2
      have hfl := hW.ok.faults
      cbv
      refine contains_int_c (fun _ => (f .o).faults) (fun _ => IntKind.i64.wrap ((f .o).op + 1)) (by unfold short; omega) fun b hb => ?_
      have hb : b .o = decide (IntKind.i64.wrap ((f .o).op + 1) ∈ (f .o).faults) := hb
      cbv
      refine br_bool (fun r3 => ?_) (fun r3 => ?_)
      · have he : askE (f .o) = 8 := by unfold askE; rw [if_pos (of_decide_eq_true (hb.symm.trans r3))]
        cbv
        exact ⟨_, .ret (.refl _), hr (fun _ => askS (f .o)) (fun _ => 8) (chg_ask r2 he) mode⟩
      have he : askE (f .o) = 0 := by unfold askE; rw [if_neg (of_decide_eq_false (hb.symm.trans r3))]
      cbv
      refine cloneI_c (fun _ => (f .o).nodes) hW.ok.ne hW.ok.few ?_
      cbv
      refine CallAt.frameP [(10000, 8), (10001, 16), (10002, 10000), (10003, 10001), (10004, 10002), (10005, 50), (10006, 54)] [.fn (.func fs_change_1) .nil (.cons (.ptr 10000 0) (.cons (.ptr 10001 0) .nil))] (by kernel_rfl) rfl fun K1 hK1 => ?_
      cbv
      refine caughtChmod_c (fun _ => askS (f .o)) c p mode hW.ask hp hpre (fun e q1 q2 m => hK1 _ _ ?_) (fun g q1 m => hK1 _ _ ?_)
      · cbv
        refine br_ndec (fun _ => ?_) (fun h => (q2 h).elim)
        cbv
        exact ⟨_, .ret (.refl _), hr (fun _ => askS (f .o)) e (chg_err r2 he q1) m⟩
      · cbv
        refine br_ndec (fun h => (h rfl).elim) (fun _ => ?_)
        cbv
        exact ⟨_, .ret (.refl _), hr g (fun _ => 0) (chg_ok r2 he q1) m⟩
theorem chmod_c (f : Th FS) (c : Th Cred) (p : Th (List UInt8)) (mode : Th Int) (hW : Walk (f .o) (c .o)) (hp : (p .o).length ≤ 100000) {d : Nat} {K : ARes → BL → Prop}
    (hr : ∀ (g : Th FS) (e : Th Int) , chgS (f .o) ((decide (0 ≤ mode .o) && decide (mode .o ≤ 4095)) && isPath (p .o)) (upD (c .o) (p .o) (chkChmod (c .o)) (updChmod (c .o) (mode .o))) = (g .o, e .o) → K (.ret (.tup (.cons (FS.av g) (.cons (.int .i64 e) .nil)))) .nil) :
    CallAt PT fs_Chmod [FS.av f, Cred.av c, .str p, .int .i64 mode] d .nil K := by
  refine CallAt.res ?_
  refine fs_Chmod.of rfl rfl ?_
  cbv
  refine ⟨fun s1 => ?_, fun s1 => ?_⟩
  · have s1 : decide (0 ≤ mode .o) = true := s1
    cbv
    refine CallAt.args (as' := [FS.av f, Cred.av c, .bool fun _ => decide (mode .o ≤ 4095), (.fn (.func fs_Chmod_1) .nil (.cons (.ptr 6 0) (.cons (.ptr 5 0) (.cons (.ptr 7 0) .nil)))), strs fun _ => [p .o]]) (.cons (.refl _) (.cons (.refl _) (.cons (.refl _) (.cons (.refl _) (.cons (Same.sl rfl fun i hi => ?_) .nil))))) ?_
    · obtain rfl : i = 0 := by have hi : i < 1 := hi; omega
      rfl
    refine CallAt.frameP [(10000, 6), (10001, 5), (10002, 7)] [FS.av f, Cred.av c, .bool fun _ => decide (mode .o ≤ 4095), (.fn (.func fs_Chmod_1) .nil (.cons (.ptr 10000 0) (.cons (.ptr 10001 0) (.cons (.ptr 10002 0) .nil)))), strs fun _ => [p .o]] (by kernel_rfl) rfl fun K1 hK1 => ?_
    cbv
    refine changeChmod_c f c p mode (fun _ => decide (mode .o ≤ 4095)) (fun _ => [p .o]) ⟨by show 1 ≤ 4; decide, fun q hq => by simp at hq; rw [hq]; exact hp⟩ hW hp (fun h1 h2 => trivial) (by decide) fun g e q m => hK1 _ _ ?_
    cbv
    exact ⟨_, .ret (.refl _), hr g e (by rw [← q]; rw [s1]; simp [allP])⟩
  · have s1 : decide (0 ≤ mode .o) = false := s1
    cbv
    refine CallAt.args (as' := [FS.av f, Cred.av c, .bool fun _ => false, (.fn (.func fs_Chmod_1) .nil (.cons (.ptr 6 0) (.cons (.ptr 5 0) (.cons (.ptr 7 0) .nil)))), strs fun _ => [p .o]]) (.cons (.refl _) (.cons (.refl _) (.cons (Same.ff rfl) (.cons (.refl _) (.cons (Same.sl rfl fun i hi => ?_) .nil))))) ?_
    · obtain rfl : i = 0 := by have hi : i < 1 := hi; omega
      rfl
    refine CallAt.frameP [(10000, 6), (10001, 5), (10002, 7)] [FS.av f, Cred.av c, .bool fun _ => false, (.fn (.func fs_Chmod_1) .nil (.cons (.ptr 10000 0) (.cons (.ptr 10001 0) (.cons (.ptr 10002 0) .nil)))), strs fun _ => [p .o]] (by kernel_rfl) rfl fun K1 hK1 => ?_
    cbv
    refine changeChmod_c f c p mode (fun _ => false) (fun _ => [p .o]) ⟨by show 1 ≤ 4; decide, fun q hq => by simp at hq; rw [hq]; exact hp⟩ hW hp (fun h1 h2 => trivial) (by decide) fun g e q m => hK1 _ _ ?_
    cbv
    exact ⟨_, .ret (.refl _), hr g e (by rw [← q]; rw [s1]; simp [allP])⟩
end Go.Proofs.YtkklflpfklbbcaaGreatDoor
/- The law FsChmods, walked: it answers true whatever the numbers. -/
namespace Go.Proofs.YtkklflpfklbbcaaGreatDoor
open Go Go.Proofs.YtkklflpfklbbcaaGreatDoor.Sx F
set_option linter.unusedVariables false
set_option linter.unusedSimpArgs false
theorem fileN_same : Same (.agg (.cons (.int .i64 fun _ => 1) (.cons (.int .i64 fun _ => 0) (.cons (.int .i64 fun _ => 0) (.cons (.int .i64 fun _ => 0) (.cons (.int .i64 fun _ => 0) (.cons (.int .i64 fun _ => 0) (.cons .nsl (.cons .nsl (.cons .nsl (.cons (.int .i64 fun _ => 0) (.cons (.int .u64 fun _ => 0) (.cons (.int .u64 fun _ => 0) (.cons .ff (.cons (.int .i64 fun _ => 0) (.cons (.int .i64 fun _ => 0) (.cons (.str fun _ => []) (.cons (.str fun _ => []) (.cons (.int .i64 fun _ => 0) (.cons (.int .i64 fun _ => 0) (.cons .nsl .nil))))))))))))))))))))) (Ino.av fun _ => fileN) :=
  ino_same (fun _ => 1) (fun _ => 0) (fun _ => 0) (fun _ => 0) (fun _ => 0) (fun _ => 0) (fun _ => []) (fun _ => [])
theorem truF {b : Bool} {A B : Prop} (hb : b = true) (h : B) : (b = false → A) ∧ (b = true → B) := ⟨fun q => absurd (hb.symm.trans q) (by decide), fun _ => h⟩
theorem wrapF_in {x : Int} (h : -9223372036854775808 ≤ x ∧ x ≤ 9223372036854775807) : IntKind.i64.wrap x = x := by rw [IntKind.wrap_i64]; omega
theorem fsChmods_c (mode gid : Th Int) (mask : Th Bool) (hm : 0 ≤ mode .o ∧ mode .o < 65536) (hg : 0 ≤ gid .o ∧ gid .o < 256) : CallAt PT l19_FsChmods [.int .u16 mode, .int .u8 gid, .bool mask] 9999 .nil Yes := by
  have hG : 1 ≤ IntKind.i64.wrap (1 + IntKind.i64.wrap (gid .o)) ∧ IntKind.i64.wrap (1 + IntKind.i64.wrap (gid .o)) ≤ 256 := by
    rw [wrap_byte hg, wrapF_in (by omega)]; omega
  have hn : 0 ≤ (IntKind.i64.wrap (mode .o)).tmod 4096 ∧ (IntKind.i64.wrap (mode .o)).tmod 4096 < 4096 := by
    rw [wrapF_in (by omega)]
    exact ⟨Int.tmod_nonneg _ hm.1, Int.tmod_lt_of_pos _ (by decide)⟩
  refine l19_FsChmods.of rfl rfl ?_
  cbv
  refine ⟨fun _ => by decide, ?_⟩
  refine new18_c (fun _ => 10) fun f hf => ?_
  have hf : f .o = newS 10 := hf
  cbv
  refine rootc_c ?_
  cbv
  refine CallAt.args (as' := [FS.av f, Cred.av fun _ => rootC, .str fun _ => [97], Ino.av fun _ => fileN]) (.cons (.refl _) (.cons (.refl _) (.cons (.refl _) (.cons fileN_same .nil)))) ?_
  refine make18_c f (fun _ => rootC) (fun _ => [97]) (fun _ => fileN) (by rw [hf]; exact ok_new 10) short_root (by show 1 ≤ 100000; decide) (by show 0 ≤ 100000; decide) (by show 0 ≤ 100000; decide) (by rw [hf]; decide) fun f1 e1 h1 => ?_
  have h1 : makeS (f .o) rootC [97] fileN = (f1 .o, e1 .o) := h1
  rw [hf, make_one] at h1
  have hf1 : f1 .o = oneS 97 fileN 10 1 := (congrArg Prod.fst h1).symm
  have ok1 : FsOk (f1 .o) := by rw [hf1]; exact (walk_one 97 fileN 10 1 short_root rfl (good_mode _) (by show 0 ≤ 1000; decide)).ok
  cbv
  refine rootc_c ?_
  cbv
  refine chown18_c f1 (fun _ => rootC) (fun _ => [97]) (fun _ => 5) (fun _ => IntKind.i64.wrap (1 + IntKind.i64.wrap (gid .o))) ok1 short_root (by show 1 ≤ 100000; decide) fun f2 e2 h2 => ?_
  have h2 := (congrArg (fun f => chgS f (mayId 5 (IntKind.i64.wrap (1 + IntKind.i64.wrap (gid .o))) && isPath [97]) (upD rootC [97] (chkE (fun _ => true) (alChown rootC 5 (IntKind.i64.wrap (1 + IntKind.i64.wrap (gid .o))))) (updChown 5 (IntKind.i64.wrap (1 + IntKind.i64.wrap (gid .o)))))) hf1).symm.trans h2
  rw [chown_one hG] at h2
  have hf2 : f2 .o = oneS 97 (chA (IntKind.i64.wrap (1 + IntKind.i64.wrap (gid .o)))) 10 2 := (congrArg Prod.fst h2).symm
  have ok2 : FsOk (f2 .o) := by rw [hf2]; exact (walk_one 97 (chA _) 10 2 short_root rfl (good_mode _) (by show 0 ≤ 1000; decide)).ok
  cbv
  refine ⟨fun hk => ?_, fun hk => ?_⟩
  · have hk : mask .o = true := hk
    cbv
    refine rootc_c ?_
    cbv
    refine CallAt.args (as' := [FS.av f2, Cred.av fun _ => rootC, .str fun _ => [97], aces fun _ => LL true, aces fun _ => []]) (.cons (.refl _) (.cons (.refl _) (.cons (.refl _) (.cons (Same.sl rfl fun i hi => ?_) (.cons (.nsl rfl) .nil))))) ?_
    · have hi : i < 5 := hi
      match i, hi with
      | 0, _ => rfl
      | 1, _ => rfl
      | 2, _ => rfl
      | 3, _ => rfl
      | 4, _ => rfl
    refine setAcl18_c f2 (fun _ => rootC) (fun _ => [97]) (fun _ => LL true) (fun _ => []) ok2 short_root (by show 1 ≤ 100000; decide) (by show 5 ≤ 1000; decide) (by show 0 ≤ 1000; decide) fun f3 e3 b3 hb3 h3 => ?_
    have h3 := (congrArg (fun f => chgS f (b3 && isPath [97]) (upD rootC [97] (chkE (kdAcl []) (fun n => own9 n.mt rootC)) (updAcl (LL true) []))) hf2).symm.trans h3
    rw [acl_one true hb3] at h3
    have hf3 : f3 .o = oneS 97 (chB (IntKind.i64.wrap (1 + IntKind.i64.wrap (gid .o))) true) 10 3 := (congrArg Prod.fst h3).symm
    have w3 : ∀ c : Cred, short c.groups → Walk (f3 .o) c := fun c hc => by rw [hf3]; exact walk_one 97 (chB _ true) 10 3 hc rfl (ll_ok true).good (by show 5 ≤ 1000; decide)
    cbv
    refine CallAt.args (as' := [FS.av f3, Cred.av fun _ => ⟨5, 0, [], 0⟩, .str fun _ => [97], .int .i64 fun _ => (IntKind.i64.wrap (mode .o)).tmod 4096]) (.cons (.refl _) (.cons (cred_same (fun _ => 5) (fun _ => 0) (fun _ => 0)) (.cons (.refl _) (.cons (.refl _) .nil)))) ?_
    refine chmod_c f3 (fun _ => ⟨5, 0, [], 0⟩) (fun _ => [97]) (fun _ => (IntKind.i64.wrap (mode .o)).tmod 4096) (w3 _ short_nil) (by show 1 ≤ 100000; decide) fun f4 e4 h4 => ?_
    have h4 := (congrArg (fun f => chgS f ((decide (0 ≤ (IntKind.i64.wrap (mode .o)).tmod 4096) && decide ((IntKind.i64.wrap (mode .o)).tmod 4096 ≤ 4095)) && isPath [97]) (upD ⟨5, 0, [], 0⟩ [97] (chkChmod ⟨5, 0, [], 0⟩) (updChmod ⟨5, 0, [], 0⟩ ((IntKind.i64.wrap (mode .o)).tmod 4096)))) hf3).symm.trans h4
    rw [chmod_one true ⟨5, 0, [], 0⟩ rfl hn] at h4
    have hf4 : f4 .o = oneS 97 (updChmod ⟨5, 0, [], 0⟩ ((IntKind.i64.wrap (mode .o)).tmod 4096) (chB (IntKind.i64.wrap (1 + IntKind.i64.wrap (gid .o))) true)) 10 4 := (congrArg Prod.fst h4).symm
    have he4 : e4 .o = 0 := (congrArg Prod.snd h4).symm
    cbv
    refine CallAt.args (as' := [FS.av f3, Cred.av fun _ => ⟨5, IntKind.i64.wrap (1 + IntKind.i64.wrap (gid .o)), [], 0⟩, .str fun _ => [97], .int .i64 fun _ => (IntKind.i64.wrap (mode .o)).tmod 4096]) (.cons (.refl _) (.cons (cred_same (fun _ => 5) (fun _ => IntKind.i64.wrap (1 + IntKind.i64.wrap (gid .o))) (fun _ => 0)) (.cons (.refl _) (.cons (.refl _) .nil)))) ?_
    refine chmod_c f3 (fun _ => ⟨5, IntKind.i64.wrap (1 + IntKind.i64.wrap (gid .o)), [], 0⟩) (fun _ => [97]) (fun _ => (IntKind.i64.wrap (mode .o)).tmod 4096) (w3 _ short_nil) (by show 1 ≤ 100000; decide) fun f5 e5 h5 => ?_
    have h5 := (congrArg (fun f => chgS f ((decide (0 ≤ (IntKind.i64.wrap (mode .o)).tmod 4096) && decide ((IntKind.i64.wrap (mode .o)).tmod 4096 ≤ 4095)) && isPath [97]) (upD ⟨5, IntKind.i64.wrap (1 + IntKind.i64.wrap (gid .o)), [], 0⟩ [97] (chkChmod ⟨5, IntKind.i64.wrap (1 + IntKind.i64.wrap (gid .o)), [], 0⟩) (updChmod ⟨5, IntKind.i64.wrap (1 + IntKind.i64.wrap (gid .o)), [], 0⟩ ((IntKind.i64.wrap (mode .o)).tmod 4096)))) hf3).symm.trans h5
    rw [chmod_one true ⟨5, IntKind.i64.wrap (1 + IntKind.i64.wrap (gid .o)), [], 0⟩ rfl hn] at h5
    have hf5 : f5 .o = oneS 97 (updChmod ⟨5, IntKind.i64.wrap (1 + IntKind.i64.wrap (gid .o)), [], 0⟩ ((IntKind.i64.wrap (mode .o)).tmod 4096) (chB (IntKind.i64.wrap (1 + IntKind.i64.wrap (gid .o))) true)) 10 4 := (congrArg Prod.fst h5).symm
    have he5 : e5 .o = 0 := (congrArg Prod.snd h5).symm
    have l4 : (f4 .o).nodes.length = 2 := by rw [hf4]; rfl
    have l5 : (f5 .o).nodes.length = 2 := by rw [hf5]; rfl
    have m4 : ((f4 .o).nodes.getD 1 Ino.z).mt.mode = abits .andNot .i64 ((IntKind.i64.wrap (mode .o)).tmod 4096) 1024 := by rw [hf4]; exact cm_out hG.1 _ true
    have m5 : ((f5 .o).nodes.getD 1 Ino.z).mt.mode = (IntKind.i64.wrap (mode .o)).tmod 4096 := by rw [hf5]; exact cm_in _ _ true
    have a4 : ((f4 .o).nodes.getD 1 Ino.z).mt.acl = turnL (LL true) ((IntKind.i64.wrap (mode .o)).tmod 4096) := by
      rw [hf4]; exact (congrArg (turnL (LL true)) (cm_out hG.1 _ true)).trans (turn_same hn.1 hn.2 true)
    have a5 : ((f5 .o).nodes.getD 1 Ino.z).mt.acl = turnL (LL true) ((IntKind.i64.wrap (mode .o)).tmod 4096) := by
      rw [hf5]; exact congrArg (turnL (LL true)) (cm_in _ _ true)
    cbv
    refine err19_c _ ?_
    cbv
    refine err19_c _ ?_
    cbv
    refine flsF (by show (!decide (IntKind.i64.wrap (e4 .o + e5 .o) = 0)) = false; rw [he4, he5]; decide) ?_
    cbv
    refine flsF (by show (!decide (zi (f4 .o).nodes.length = 2)) = false; rw [l4]; rfl) ?_
    cbv
    refine fls (by show (!decide (zi (f5 .o).nodes.length = 2)) = false; rw [l5]; rfl) ?_
    cbv
    refine safe ⟨by decide, by rw [l4]; decide⟩ ?_
    refine safe ⟨by decide, by rw [l5]; decide⟩ ?_
    refine tru (decide_eq_true m4) ?_
    cbv
    refine tru (decide_eq_true m5) ?_
    cbv
    have sA : ((f4 .o).nodes.getD 1 Ino.z).mt.acl.length = 5 := by rw [a4]; exact (ll_turn true _).2
    have sh4 : short ((f4 .o).nodes.getD 1 Ino.z).mt.acl := by show _ ≤ _; rw [sA]; decide
    have ok4 : AclOk ((f4 .o).nodes.getD 1 Ino.z).mt.acl := by rw [a4]; exact (ll_turn true _).1
    refine tru (decide_eq_true (congrArg zi sA)) ?_
    cbv
    refine sameA_c (fun _ => ((f4 .o).nodes.getD 1 Ino.z).mt.acl) (fun _ => ((f5 .o).nodes.getD 1 Ino.z).mt.acl) sh4 fun b6 hb6 => ?_
    have hb6 : b6 .o = true := hb6.2 (a4.trans a5.symm)
    cbv
    refine tru hb6 ?_
    cbv
    refine may9_c (fun _ => ((f4 .o).nodes.getD 1 Ino.z).mt.acl) sh4 fun b7 hb7 => ?_
    have hb7 : b7 .o = true := hb7.2 ok4
    cbv
    refine tru hb7 ?_
    cbv
    refine mode9_c (fun _ => ((f4 .o).nodes.getD 1 Ino.z).mt.acl) sh4 ok4.good fun n8 hn8 => ?_
    have hn8 : n8 .o = band ((IntKind.i64.wrap (mode .o)).tmod 4096) 511 := hn8.trans ((congrArg modeA a4).trans (turn_mode hn.1 hn.2 true))
    cbv
    refine tru (decide_eq_true hn8) ?_
    cbv
    refine flsF (by show (!mask .o) = false; rw [hk]; rfl) ?_
    cbv
    refine perm9_c (fun _ => ((f4 .o).nodes.getD 1 Ino.z).mt.acl) (fun _ => 3) sh4 fun n9 hn9 => ?_
    have hn9 : n9 .o = 5 := hn9.trans ((congrArg (permR · 3) a4).trans (turn_perm _))
    cbv
    refine tru (decide_eq_true hn9) ?_
    cbv
    refine awake19_c fun b5 hb5 => ?_
    cbv
    exact ⟨b5, rfl, hb5⟩
  · have hk : mask .o = false := hk
    cbv
    refine rootc_c ?_
    cbv
    refine CallAt.args (as' := [FS.av f2, Cred.av fun _ => rootC, .str fun _ => [97], aces fun _ => LL false, aces fun _ => []]) (.cons (.refl _) (.cons (.refl _) (.cons (.refl _) (.cons (Same.sl rfl fun i hi => ?_) (.cons (.nsl rfl) .nil))))) ?_
    · have hi : i < 3 := hi
      match i, hi with
      | 0, _ => rfl
      | 1, _ => rfl
      | 2, _ => rfl
    refine setAcl18_c f2 (fun _ => rootC) (fun _ => [97]) (fun _ => LL false) (fun _ => []) ok2 short_root (by show 1 ≤ 100000; decide) (by show 3 ≤ 1000; decide) (by show 0 ≤ 1000; decide) fun f3 e3 b3 hb3 h3 => ?_
    have h3 := (congrArg (fun f => chgS f (b3 && isPath [97]) (upD rootC [97] (chkE (kdAcl []) (fun n => own9 n.mt rootC)) (updAcl (LL false) []))) hf2).symm.trans h3
    rw [acl_one false hb3] at h3
    have hf3 : f3 .o = oneS 97 (chB (IntKind.i64.wrap (1 + IntKind.i64.wrap (gid .o))) false) 10 3 := (congrArg Prod.fst h3).symm
    have w3 : ∀ c : Cred, short c.groups → Walk (f3 .o) c := fun c hc => by rw [hf3]; exact walk_one 97 (chB _ false) 10 3 hc rfl (ll_ok false).good (by show 3 ≤ 1000; decide)
    cbv
    refine CallAt.args (as' := [FS.av f3, Cred.av fun _ => ⟨5, 0, [], 0⟩, .str fun _ => [97], .int .i64 fun _ => (IntKind.i64.wrap (mode .o)).tmod 4096]) (.cons (.refl _) (.cons (cred_same (fun _ => 5) (fun _ => 0) (fun _ => 0)) (.cons (.refl _) (.cons (.refl _) .nil)))) ?_
    refine chmod_c f3 (fun _ => ⟨5, 0, [], 0⟩) (fun _ => [97]) (fun _ => (IntKind.i64.wrap (mode .o)).tmod 4096) (w3 _ short_nil) (by show 1 ≤ 100000; decide) fun f4 e4 h4 => ?_
    have h4 := (congrArg (fun f => chgS f ((decide (0 ≤ (IntKind.i64.wrap (mode .o)).tmod 4096) && decide ((IntKind.i64.wrap (mode .o)).tmod 4096 ≤ 4095)) && isPath [97]) (upD ⟨5, 0, [], 0⟩ [97] (chkChmod ⟨5, 0, [], 0⟩) (updChmod ⟨5, 0, [], 0⟩ ((IntKind.i64.wrap (mode .o)).tmod 4096)))) hf3).symm.trans h4
    rw [chmod_one false ⟨5, 0, [], 0⟩ rfl hn] at h4
    have hf4 : f4 .o = oneS 97 (updChmod ⟨5, 0, [], 0⟩ ((IntKind.i64.wrap (mode .o)).tmod 4096) (chB (IntKind.i64.wrap (1 + IntKind.i64.wrap (gid .o))) false)) 10 4 := (congrArg Prod.fst h4).symm
    have he4 : e4 .o = 0 := (congrArg Prod.snd h4).symm
    cbv
    refine CallAt.args (as' := [FS.av f3, Cred.av fun _ => ⟨5, IntKind.i64.wrap (1 + IntKind.i64.wrap (gid .o)), [], 0⟩, .str fun _ => [97], .int .i64 fun _ => (IntKind.i64.wrap (mode .o)).tmod 4096]) (.cons (.refl _) (.cons (cred_same (fun _ => 5) (fun _ => IntKind.i64.wrap (1 + IntKind.i64.wrap (gid .o))) (fun _ => 0)) (.cons (.refl _) (.cons (.refl _) .nil)))) ?_
    refine chmod_c f3 (fun _ => ⟨5, IntKind.i64.wrap (1 + IntKind.i64.wrap (gid .o)), [], 0⟩) (fun _ => [97]) (fun _ => (IntKind.i64.wrap (mode .o)).tmod 4096) (w3 _ short_nil) (by show 1 ≤ 100000; decide) fun f5 e5 h5 => ?_
    have h5 := (congrArg (fun f => chgS f ((decide (0 ≤ (IntKind.i64.wrap (mode .o)).tmod 4096) && decide ((IntKind.i64.wrap (mode .o)).tmod 4096 ≤ 4095)) && isPath [97]) (upD ⟨5, IntKind.i64.wrap (1 + IntKind.i64.wrap (gid .o)), [], 0⟩ [97] (chkChmod ⟨5, IntKind.i64.wrap (1 + IntKind.i64.wrap (gid .o)), [], 0⟩) (updChmod ⟨5, IntKind.i64.wrap (1 + IntKind.i64.wrap (gid .o)), [], 0⟩ ((IntKind.i64.wrap (mode .o)).tmod 4096)))) hf3).symm.trans h5
    rw [chmod_one false ⟨5, IntKind.i64.wrap (1 + IntKind.i64.wrap (gid .o)), [], 0⟩ rfl hn] at h5
    have hf5 : f5 .o = oneS 97 (updChmod ⟨5, IntKind.i64.wrap (1 + IntKind.i64.wrap (gid .o)), [], 0⟩ ((IntKind.i64.wrap (mode .o)).tmod 4096) (chB (IntKind.i64.wrap (1 + IntKind.i64.wrap (gid .o))) false)) 10 4 := (congrArg Prod.fst h5).symm
    have he5 : e5 .o = 0 := (congrArg Prod.snd h5).symm
    have l4 : (f4 .o).nodes.length = 2 := by rw [hf4]; rfl
    have l5 : (f5 .o).nodes.length = 2 := by rw [hf5]; rfl
    have m4 : ((f4 .o).nodes.getD 1 Ino.z).mt.mode = abits .andNot .i64 ((IntKind.i64.wrap (mode .o)).tmod 4096) 1024 := by rw [hf4]; exact cm_out hG.1 _ false
    have m5 : ((f5 .o).nodes.getD 1 Ino.z).mt.mode = (IntKind.i64.wrap (mode .o)).tmod 4096 := by rw [hf5]; exact cm_in _ _ false
    have a4 : ((f4 .o).nodes.getD 1 Ino.z).mt.acl = turnL (LL false) ((IntKind.i64.wrap (mode .o)).tmod 4096) := by
      rw [hf4]; exact (congrArg (turnL (LL false)) (cm_out hG.1 _ false)).trans (turn_same hn.1 hn.2 false)
    have a5 : ((f5 .o).nodes.getD 1 Ino.z).mt.acl = turnL (LL false) ((IntKind.i64.wrap (mode .o)).tmod 4096) := by
      rw [hf5]; exact congrArg (turnL (LL false)) (cm_in _ _ false)
    cbv
    refine err19_c _ ?_
    cbv
    refine err19_c _ ?_
    cbv
    refine flsF (by show (!decide (IntKind.i64.wrap (e4 .o + e5 .o) = 0)) = false; rw [he4, he5]; decide) ?_
    cbv
    refine flsF (by show (!decide (zi (f4 .o).nodes.length = 2)) = false; rw [l4]; rfl) ?_
    cbv
    refine fls (by show (!decide (zi (f5 .o).nodes.length = 2)) = false; rw [l5]; rfl) ?_
    cbv
    refine safe ⟨by decide, by rw [l4]; decide⟩ ?_
    refine safe ⟨by decide, by rw [l5]; decide⟩ ?_
    refine tru (decide_eq_true m4) ?_
    cbv
    refine tru (decide_eq_true m5) ?_
    cbv
    have sA : ((f4 .o).nodes.getD 1 Ino.z).mt.acl.length = 3 := by rw [a4]; exact (ll_turn false _).2
    have sh4 : short ((f4 .o).nodes.getD 1 Ino.z).mt.acl := by show _ ≤ _; rw [sA]; decide
    have ok4 : AclOk ((f4 .o).nodes.getD 1 Ino.z).mt.acl := by rw [a4]; exact (ll_turn false _).1
    refine tru (decide_eq_true (congrArg zi sA)) ?_
    cbv
    refine sameA_c (fun _ => ((f4 .o).nodes.getD 1 Ino.z).mt.acl) (fun _ => ((f5 .o).nodes.getD 1 Ino.z).mt.acl) sh4 fun b6 hb6 => ?_
    have hb6 : b6 .o = true := hb6.2 (a4.trans a5.symm)
    cbv
    refine tru hb6 ?_
    cbv
    refine may9_c (fun _ => ((f4 .o).nodes.getD 1 Ino.z).mt.acl) sh4 fun b7 hb7 => ?_
    have hb7 : b7 .o = true := hb7.2 ok4
    cbv
    refine tru hb7 ?_
    cbv
    refine mode9_c (fun _ => ((f4 .o).nodes.getD 1 Ino.z).mt.acl) sh4 ok4.good fun n8 hn8 => ?_
    have hn8 : n8 .o = band ((IntKind.i64.wrap (mode .o)).tmod 4096) 511 := hn8.trans ((congrArg modeA a4).trans (turn_mode hn.1 hn.2 false))
    cbv
    refine tru (decide_eq_true hn8) ?_
    cbv
    refine truF (by show (!mask .o) = true; rw [hk]; rfl) ?_
    cbv
    refine awake19_c fun b5 hb5 => ?_
    cbv
    exact ⟨b5, rfl, hb5⟩
end Go.Proofs.YtkklflpfklbbcaaGreatDoor
