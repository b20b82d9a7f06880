/- Texts laid together: Ref2, RightMade, May, Plan, Fewer, Attrs, Order, Ref21, DegRes, Deg, Deg21, Same, DegLast, DegMade, Fm, MeA, MeB, MeC, MeD, Bld, Bldx, Esc, Strs, MeE, MeF, MeG, MeH, MeI, Mkv, MeJ, DegFull. -/
import Derived.RangeFuncNested
import Derived.RangeFuncLeaves
import Derived.Shelf.Abstract
import Derived.WalkKit
import Derived.WalkLawsBesides
import Derived.OwnWalkIn
import Derived.TacticsInMore
import Derived.LoopNIn
import Derived.LoopIn
import Derived.Test.YtgjlkcdnlndlnaaProg
import Derived.Shelf.Strings.Builder1
import Derived.Shelf.LaysM
import Derived.Lib.Strings
import Derived.Lib.Slices
import Derived.Lib.Walk
import Derived.Lib.AppendStr
import Derived.Laws.IdiomCopy
import Derived.Laws.Externs
import Derived.Lib.ConvBytes
import Derived.Laws.IdiomStrings
import Derived.Deep.RegionWith
import Derived.Lib.Bytealg
import Derived.Test.YtgjlkcdnlndlnaaD4
/- The document's mode that gives nobody more, walked; and that it is the program's. -/
namespace Go.Proofs.Ytgjlkcdnlndlnaa
open Go Go.Proofs.Ytgjlkcdnlndlnaa.Sx F
set_option linter.unusedVariables false
set_option linter.unusedSimpArgs false
def less9G (mask : Int) : List Ace → Int → Int → Int × Int
  | [], g, o => (g, o)
  | a :: r, g, o =>
    if a.tag = 2 then less9G mask r (band g a.perm) (band (band o a.perm) mask)
    else if a.tag = 4 then less9G mask r g (band (band o a.perm) mask)
    else less9G mask r g o
def less9N (p g o : Int) : Int := IntKind.i64.wrap (IntKind.i64.wrap (IntKind.i64.wrap (p * 64) + IntKind.i64.wrap (g * 8)) + o)
def less9O (l : List Ace) (mask : Int) : Int := less9N (permR l 1) (less9G mask l (band (permR l 3) mask) (permR l 6)).1 (less9G mask l (band (permR l 3) mask) (permR l 6)).2
def Less9 (m : Meta) : Int := if m.acl.length = 0 then band m.mode 511 else less9O m.acl (mask9 m.acl)
end Go.Proofs.Ytgjlkcdnlndlnaa
/- The law RightMade, walked: the program's rights are the document's, of what is made by numbers. -/
namespace Go.Proofs.Ytgjlkcdnlndlnaa
open Go Go.Proofs.Ytgjlkcdnlndlnaa.Sx F
set_option linter.unusedVariables false
set_option linter.unusedSimpArgs false
theorem mask9_eq {l : List Ace} (h : Good l) : maskS l = some (mask9 l) := by
  unfold maskS mask9 permR
  rcases ixP_find (fun a : Ace => decide (a.tag = 5)) Ace.z l with ⟨h1, h2⟩ | ⟨k, h1, h2, h3⟩
  · rw [if_neg (by omega)]
    have : permS l 5 = none := by unfold permS; rw [h2]; rfl
    rw [this]
    rfl
  · have := zi_nonneg k
    rw [if_pos (by omega)]
    obtain ⟨p, hp, q⟩ := perm_some h (t := 5) ⟨_, List.mem_of_find?_eq_some h3, by simpa using List.find?_some h3⟩
    rw [hp]
    simp only [Option.getD_some]
    rw [if_neg (by omega)]
theorem less9G_eq {mask : Int} (hm : 0 ≤ mask ∧ mask < 8) : ∀ (l : List Ace) (g o : Int), (∀ a ∈ l, 0 ≤ a.perm ∧ a.perm < 8) → (0 ≤ g ∧ g < 8) → band g mask = g → (0 ≤ o ∧ o < 8) → less9G mask l g o = lessG mask l g o
  | [], _, _, _, _, _, _ => rfl
  | a :: r, g, o, hl, hg, hgm, ho => by
    have ha := hl a (by simp)
    have hr := fun x hx => hl x (List.mem_cons_of_mem a hx)
    have e1 : band g (band a.perm mask) = band g a.perm := fin888 (p := fun g p k => band g k = g → band g (band p k) = band g p) (by decide +kernel) hg ha hm hgm
    have e2 : band o (band a.perm mask) = band (band o a.perm) mask := fin888 (p := fun o p k => band o (band p k) = band (band o p) k) (by decide +kernel) ho ha hm
    have e3 : band (band g a.perm) mask = band g a.perm := fin888 (p := fun g p k => band g k = g → band (band g p) k = band g p) (by decide +kernel) hg ha hm hgm
    unfold less9G lessG
    rw [e1, e2]
    split
    · exact less9G_eq hm r _ _ hr (band_8 hg ha) e3 (band_8 (band_8 ho ha) hm)
    · split
      · exact less9G_eq hm r _ _ hr hg hgm (band_8 (band_8 ho ha) hm)
      · exact less9G_eq hm r _ _ hr hg hgm ho
theorem less9_law {m : Meta} (h : Good (ofS m)) : Less9 m = LessS m := by
  unfold Less9
  by_cases h0 : m.acl.length = 0
  · rw [if_pos h0, less_mode (List.eq_nil_of_length_eq_zero h0)]
  · rw [if_neg h0]
    have ho : ofS m = m.acl := by unfold ofS; rw [if_pos (by omega)]
    rw [ho] at h
    unfold LessS lessO less9O
    rw [ho]
    obtain ⟨p1, e1, q1⟩ := perm_some h h.own
    obtain ⟨p3, e3, q3⟩ := perm_some h h.grp
    obtain ⟨p6, e6, q6⟩ := perm_some h h.oth
    obtain ⟨k, ek, qk⟩ := mask_some h
    have hk : mask9 m.acl = k := by have := mask9_eq h; rw [ek] at this; injection this with this; exact this.symm
    unfold permR
    rw [ek, e1, e3, e6, hk]
    simp only [Option.getD_some, Option.bind_some, Option.map_some]
    have hkk : band (band p3 k) k = band p3 k := fin88 (p := fun p k => band (band p k) k = band p k) (by decide +kernel) q3 qk
    rw [less9G_eq qk m.acl _ _ h.perm (band_8 q3 qk) hkk q6]
    have hx := lessG_ok qk m.acl (band p3 k) p6 h.perm (band_8 q3 qk) q6
    rw [lessN_eq q1 hx.r1 hx.r2]
    have r1 := hx.r1
    have r2 := hx.r2
    generalize lessG k m.acl (band p3 k) p6 = x at r1 r2
    unfold less9N
    rw [IntKind.wrap_i64, IntKind.wrap_i64, IntKind.wrap_i64, IntKind.wrap_i64]
    omega
end Go.Proofs.Ytgjlkcdnlndlnaa
/- Which lists may be: r9.MayAcl walked, as far as the rights want it. -/
namespace Go.Proofs.Ytgjlkcdnlndlnaa
open Go Go.Proofs.Ytgjlkcdnlndlnaa.Sx F
set_option linter.unusedVariables false
set_option linter.unusedSimpArgs false
theorem band_mod9 (x : Int) : band x 511 = x % 512 := by
  have he : band x 511 = IntKind.i64.wrap ((BitVec.ofInt 64 x &&& BitVec.ofInt 64 511).toNat : Int) := rfl
  rw [he, BitVec.toNat_and, show (BitVec.ofInt 64 511).toNat = 2 ^ 9 - 1 from rfl, Nat.and_two_pow_sub_one_eq_mod, BitVec.toNat_ofInt, IntKind.wrap_i64]
  omega
theorem band_mod3 (x : Int) : band x 7 = x % 8 := by
  have he : band x 7 = IntKind.i64.wrap ((BitVec.ofInt 64 x &&& BitVec.ofInt 64 7).toNat : Int) := rfl
  rw [he, BitVec.toNat_and, show (BitVec.ofInt 64 7).toNat = 2 ^ 3 - 1 from rfl, Nat.and_two_pow_sub_one_eq_mod, BitVec.toNat_ofInt, IntKind.wrap_i64]
  omega
end Go.Proofs.Ytgjlkcdnlndlnaa
/- The law PlanLess, walked: what is laid before all is there gives nobody more. -/
namespace Go.Proofs.Ytgjlkcdnlndlnaa
open Go Go.Proofs.Ytgjlkcdnlndlnaa.Sx F
set_option linter.unusedVariables false
set_option linter.unusedSimpArgs false
def bnot (a b : Int) : Int := abits .andNot .i64 a b
theorem pmode_ff (m : Th Meta) {d : Nat} {K : ARes → BL → Prop} (hr : ∀ n : Th Int, n .o = band (m .o).mode 448 → K (.ret (.tup (.cons (.int .i64 n) (.cons .ff .nil)))) .nil) : CallAt PT plan_Mode [Meta.av m, .ff] d .nil K := by
  refine plan_Mode.of rfl rfl ?_
  cbv
  exact hr _ rfl
theorem pmode_tt (m : Th Meta) (hm : short (m .o).acl) {d : Nat} {K : ARes → BL → Prop} (hr : ∀ n : Th Int, n .o = bor (bnot (m .o).mode 511) (LessS (m .o)) → K (.ret (.tup (.cons (.int .i64 n) (.cons .tt .nil)))) .nil) : CallAt PT plan_Mode [Meta.av m, .tt] d .nil K := by
  refine plan_Mode.of rfl rfl ?_
  cbv
  refine Less_c m hm fun n hn => ?_
  cbv
  exact hr _ (by rw [← hn]; rfl)
theorem stage_c (k : Th Int) {d : Nat} {K : ARes → BL → Prop} (hr : ∀ n : Th Int, n .o = (if k .o = 6 then 448 else if k .o = 3 then 511 else 0) → K (.ret (.int .i64 n)) .nil) : CallAt PT plan_Stage [.int .i64 k] d .nil K := by
  refine plan_Stage.of rfl rfl ?_
  cbv
  ((try refine br_rev ?_); (first | refine br_dec (fun h1 => ?_) (fun h1 => ?_) | refine br_ndec (fun h1 => ?_) (fun h1 => ?_) | refine br_nbool (fun h1 => ?_) (fun h1 => ?_) | refine br_bool (fun h1 => ?_) (fun h1 => ?_)); all_goals (try dsimp only at h1); all_goals (try with_reducible replace h1 := zi_lt.1 h1); all_goals (try with_reducible replace h1 := not_zlt h1)) <;> cbv
  · exact hr (fun _ => 448) (by rw [if_pos h1])
  · ((try refine br_rev ?_); (first | refine br_dec (fun h2 => ?_) (fun h2 => ?_) | refine br_ndec (fun h2 => ?_) (fun h2 => ?_) | refine br_nbool (fun h2 => ?_) (fun h2 => ?_) | refine br_bool (fun h2 => ?_) (fun h2 => ?_)); all_goals (try dsimp only at h2); all_goals (try with_reducible replace h2 := zi_lt.1 h2); all_goals (try with_reducible replace h2 := not_zlt h2)) <;> cbv
    · exact hr (fun _ => 511) (by rw [if_neg h1, if_pos h2])
    · exact hr (fun _ => 0) (by rw [if_neg h1, if_neg h2])
end Go.Proofs.Ytgjlkcdnlndlnaa
/- The law PlanFewer, walked: names that are strict are left out. -/
namespace Go.Proofs.Ytgjlkcdnlndlnaa
open Go Go.Proofs.Ytgjlkcdnlndlnaa.Sx F
set_option linter.unusedVariables false
set_option linter.unusedSimpArgs false
def preS (p s : List UInt8) : Bool := decide (p.length ≤ s.length) && decide (s.take p.length = p)
theorem pre1_c (s p : Th (List UInt8)) {d : Nat} {K : ARes → BL → Prop} (hr : ∀ b : Th Bool, b .o = preS (p .o) (s .o) → K (.ret (.bool b)) .nil) : CallAt PT internal_stringslite_HasPrefix [.str s, .str p] d .nil K := by
  refine CallAt.res ?_
  refine internal_stringslite_HasPrefix.of rfl rfl ?_
  cbv
  ((try refine br_rev ?_); (first | refine br_dec (fun h1 => ?_) (fun h1 => ?_) | refine br_ndec (fun h1 => ?_) (fun h1 => ?_) | refine br_nbool (fun h1 => ?_) (fun h1 => ?_) | refine br_bool (fun h1 => ?_) (fun h1 => ?_)); all_goals (try dsimp only at h1); all_goals (try with_reducible replace h1 := zi_lt.1 h1); all_goals (try with_reducible replace h1 := not_zlt h1)) <;> cbv
  · have h1' : (p .o).length ≤ (s .o).length := zi_le.1 h1
    refine safe ⟨Int.le_refl _, zi_nonneg _, h1⟩ ?_
    exact ⟨_, .ret (.refl _), hr _ (by
      unfold preS
      rw [decide_eq_true h1', Bool.true_and]
      show decide (List.drop (0 : Int).toNat (List.take (zi (p .o).length).toNat (s .o)) = p .o) = _
      rw [zi_toNat]
      rfl)⟩
  · have h1' : ¬ (p .o).length ≤ (s .o).length := fun q => h1 (zi_le.2 q)
    exact ⟨_, .ret (.ff rfl), hr (fun _ => false) (by unfold preS; rw [decide_eq_false h1']; rfl)⟩
theorem pre_c (s p : Th (List UInt8)) {d : Nat} {K : ARes → BL → Prop} (hr : ∀ b : Th Bool, b .o = preS (p .o) (s .o) → K (.ret (.bool b)) .nil) : CallAt PT strings_HasPrefix [.str s, .str p] d .nil K := by
  refine strings_HasPrefix.of rfl rfl ?_
  cbv
  refine pre1_c s p fun b hb => ?_
  cbv
  exact hr b hb
def trustedS : List UInt8 := [116, 114, 117, 115, 116, 101, 100, 46]
def securityS : List UInt8 := [115, 101, 99, 117, 114, 105, 116, 121, 46]
def strictS (x : Xattr) : Bool := preS trustedS x.name || preS securityS x.name
def fewerS (l : List Xattr) : List Xattr := l.filter fun x => !strictS x
theorem fewer_step (l : List Xattr) (k : Nat) (h : k < l.length) : fewerS (l.take (k + 1)) = if strictS (l.getD k Xattr.z) = true then fewerS (l.take k) else fewerS (l.take k) ++ [l.getD k Xattr.z] := by
  unfold fewerS
  rw [List.take_add_one, List.filter_append, List.getD_eq_getElem?_getD, List.getElem?_eq_getElem h]
  simp only [Option.toList_some, Option.getD_some]
  by_cases q : strictS l[k] = true
  · rw [if_pos q]; simp [q]
  · rw [if_neg q]; simp [q]
theorem fewer_len (l : List Xattr) : (fewerS l).length ≤ l.length := List.length_filter_le _ _
theorem fewer_c (l : Th (List Xattr)) (hl : (l .o).length ≤ 1000) {d : Nat} {K : ARes → BL → Prop} (hr : ∀ r : Th (List Xattr), r .o = fewerS (l .o) → K (.ret (xattrs r)) .nil) : CallAt PT plan_Fewer [xattrs l] d .nil K := by
  refine plan_Fewer.of rfl rfl ?_
  cbv
  refine nil_tmp 3 9000 2 (fun _ => .nil) rfl rfl ?_
  refine loop_at (X := Nat) 1000 [3, 6, 7] [] (fun _ k => .cons 8 (.int .i64 fun _ => zi k) .nil) (fun _ k => .cons 9000 (rowB 2 Xattr.ch Xattr.z fun _ => fewerS ((l .o).take k)) .nil) (fun k => k ≤ (l .o).length) (fun k => (l .o).length - k) 0 ?_ (Nat.zero_le _) ?_
  · cbv
    (repeat' (first | exact True.intro | exact Same.refl _ | exact SameB.refl _ | exact ⟨rfl⟩ | exact Same.int rfl | exact Same.str rfl | exact Same.bool rfl | (refine Same.int ?_; simp only [List.length_append, List.length_cons, List.length_nil, zi]; omega) | (refine SameB.row' rfl fun i hi => ?_; first | rfl | exact absurd hi (Nat.not_lt_zero _)) | refine And.intro ?_ ?_ | refine SameB.cells ?_ | exact SameC.nil | refine SameC.cons ?_ ?_ | exact Same.nsl rfl | exact Same.tt rfl | exact Same.ff rfl))
  · intro k hk
    have succ := zi_succ (k := k) (by omega)
    have hz := zi_toNat k
    cbv
    ((try refine br_rev ?_); (first | refine br_dec (fun h1 => ?_) (fun h1 => ?_) | refine br_ndec (fun h1 => ?_) (fun h1 => ?_) | refine br_nbool (fun h1 => ?_) (fun h1 => ?_) | refine br_bool (fun h1 => ?_) (fun h1 => ?_)); all_goals (try dsimp only at h1); all_goals (try with_reducible replace h1 := zi_lt.1 h1); all_goals (try with_reducible replace h1 := not_zlt h1)) <;> cbv
    · have hst := fewer_step (l .o) k h1
      have hfl := fewer_len ((l .o).take k)
      have htl : ((l .o).take k).length ≤ k := by rw [List.length_take]; omega
      refine safe ⟨zi_nonneg _, zi_lt.2 h1⟩ ?_
      refine pre_c (fun _ => ((l .o).getD (zi k).toNat Xattr.z).name) (fun _ => trustedS) fun b1 hb1 => ?_
      have hb1 : b1 .o = preS trustedS ((l .o).getD k Xattr.z).name := by rw [hb1]; show preS trustedS ((l .o).getD (zi k).toNat Xattr.z).name = _; rw [hz]
      cbv
      refine br_nbool (fun h2 => ?_) (fun h2 => ?_)
      · have h2 : b1 .o = false := h2
        cbv
        refine pre_c (fun _ => ((l .o).getD (zi k).toNat Xattr.z).name) (fun _ => securityS) fun b2 hb2 => ?_
        have hb2 : b2 .o = preS securityS ((l .o).getD k Xattr.z).name := by rw [hb2]; show preS securityS ((l .o).getD (zi k).toNat Xattr.z).name = _; rw [hz]
        cbv
        refine br_nbool (fun h3 => ?_) (fun h3 => ?_)
        · have h3 : b2 .o = false := h3
          have hs : ¬ strictS ((l .o).getD k Xattr.z) = true := by unfold strictS; rw [← hb1, ← hb2, h2, h3]; decide
          rw [if_neg hs] at hst
          cbv
          refine app_one Xattr.ch Xattr.z (fewerS ((l .o).take k)) ((l .o).getD (zi k).toNat Xattr.z) rfl (fun i hi => rfl) rfl rfl (by omega) ?_
          cbv
          refine ⟨k + 1, h1, by omega, ?_⟩
          cbv
          rw [hst, hz]
          (repeat' (first | exact True.intro | exact Same.refl _ | exact SameB.refl _ | exact ⟨rfl⟩ | exact Same.int rfl | exact Same.str rfl | exact Same.bool rfl | (refine Same.int ?_; simp only [List.length_append, List.length_cons, List.length_nil, zi]; omega) | (refine SameB.row' rfl fun i hi => ?_; first | rfl | exact absurd hi (Nat.not_lt_zero _)) | refine And.intro ?_ ?_ | refine SameB.cells ?_ | exact SameC.nil | refine SameC.cons ?_ ?_ | exact Same.nsl rfl | exact Same.tt rfl | exact Same.ff rfl))
          all_goals exact Same.int succ
        · have h3 : b2 .o = true := h3
          have hs : strictS ((l .o).getD k Xattr.z) = true := by unfold strictS; rw [← hb1, ← hb2, h3]; simp
          rw [if_pos hs] at hst
          cbv
          refine ⟨k + 1, h1, by omega, ?_⟩
          cbv
          rw [hst]
          (repeat' (first | exact True.intro | exact Same.refl _ | exact SameB.refl _ | exact ⟨rfl⟩ | exact Same.int rfl | exact Same.str rfl | exact Same.bool rfl | (refine Same.int ?_; simp only [List.length_append, List.length_cons, List.length_nil, zi]; omega) | (refine SameB.row' rfl fun i hi => ?_; first | rfl | exact absurd hi (Nat.not_lt_zero _)) | refine And.intro ?_ ?_ | refine SameB.cells ?_ | exact SameC.nil | refine SameC.cons ?_ ?_ | exact Same.nsl rfl | exact Same.tt rfl | exact Same.ff rfl))
          all_goals exact Same.int succ
      · have h2 : b1 .o = true := h2
        have hs : strictS ((l .o).getD k Xattr.z) = true := by unfold strictS; rw [← hb1, h2]; rfl
        rw [if_pos hs] at hst
        cbv
        refine ⟨k + 1, h1, by omega, ?_⟩
        cbv
        rw [hst]
        (repeat' (first | exact True.intro | exact Same.refl _ | exact SameB.refl _ | exact ⟨rfl⟩ | exact Same.int rfl | exact Same.str rfl | exact Same.bool rfl | (refine Same.int ?_; simp only [List.length_append, List.length_cons, List.length_nil, zi]; omega) | (refine SameB.row' rfl fun i hi => ?_; first | rfl | exact absurd hi (Nat.not_lt_zero _)) | refine And.intro ?_ ?_ | refine SameB.cells ?_ | exact SameC.nil | refine SameC.cons ?_ ?_ | exact Same.nsl rfl | exact Same.tt rfl | exact Same.ff rfl))
        all_goals exact Same.int succ
    · exact hr (fun _ => fewerS ((l .o).take k)) (by rw [List.take_of_length_le (by omega)])
end Go.Proofs.Ytgjlkcdnlndlnaa
/- What is tried of an entry: plan.Attrs, walked. -/
namespace Go.Proofs.Ytgjlkcdnlndlnaa
open Go Go.Proofs.Ytgjlkcdnlndlnaa.Sx F
set_option linter.unusedVariables false
set_option linter.unusedSimpArgs false
theorem zpos_dec (n : Nat) : decide (0 < zi n) = decide (0 < n) := by unfold zi; rw [decide_eq_decide]; omega
def hasA (e : Entry) (a : Int) : Bool :=
  if a = 10 then decide (e.kind = 6) else if a = 3 then !decide (e.kind = 3) else if a = 4 then decide (0 < e.mt.acl.length) else if a = 5 then decide (0 < e.mt.dflt.length) else if a = 6 then decide (0 < e.mt.xs.length)
  else if a = 7 then !decide (e.mt.caps.ver = 0) else if a = 9 then !decide (e.mt.flags = 0) else true
def attrsAll : List Int := [10, 2, 3, 4, 5, 6, 7, 8, 9]
def attrsS (e : Entry) : List Int := if e.kind = 2 then [] else attrsAll.filter (hasA e)
end Go.Proofs.Ytgjlkcdnlndlnaa
/- The law PlanOrder, walked: in which order attributes are tried. -/
namespace Go.Proofs.Ytgjlkcdnlndlnaa
open Go Go.Proofs.Ytgjlkcdnlndlnaa.Sx F
set_option linter.unusedVariables false
set_option linter.unusedSimpArgs false
def consB (b : Bool) (x : Int) (l : List Int) : List Int := match b with | true => x :: l | false => l
def mkA (b10 b3 b4 b5 b6 b7 b9 : Bool) : List Int := consB b10 10 (2 :: consB b3 3 (consB b4 4 (consB b5 5 (consB b6 6 (consB b7 7 (8 :: consB b9 9 []))))))
theorem filter_consB (p : Int → Bool) (x : Int) (l : List Int) : (x :: l).filter p = consB (p x) x (l.filter p) := by
  cases h : p x <;> simp [consB, h]
theorem filter_mkA (p : Int → Bool) (h2 : p 2 = true) (h8 : p 8 = true) : attrsAll.filter p = mkA (p 10) (p 3) (p 4) (p 5) (p 6) (p 7) (p 9) := by
  unfold attrsAll mkA
  simp only [filter_consB, h2, h8]
  rfl
end Go.Proofs.Ytgjlkcdnlndlnaa
/- The document's plan, walked; the law PlanMade. -/
namespace Go.Proofs.Ytgjlkcdnlndlnaa
open Go Go.Proofs.Ytgjlkcdnlndlnaa.Sx F
set_option linter.unusedVariables false
set_option linter.unusedSimpArgs false
def modeS (less : Int) (m : Meta) (o : Bool) : Int := if o = true then bor (bnot m.mode 511) less else band m.mode 448
theorem stage21_c (k : Th Int) {d : Nat} {K : ARes → BL → Prop} (hr : ∀ n : Th Int, n .o = (if k .o = 6 then 448 else if k .o = 3 then 511 else 0) → K (.ret (.int .i64 n)) .nil) : CallAt PT r21_Stage [.int .i64 k] d .nil K := by
  refine r21_Stage.of rfl rfl ?_
  cbv
  ((try refine br_rev ?_); (first | refine br_dec (fun h1 => ?_) (fun h1 => ?_) | refine br_ndec (fun h1 => ?_) (fun h1 => ?_) | refine br_nbool (fun h1 => ?_) (fun h1 => ?_) | refine br_bool (fun h1 => ?_) (fun h1 => ?_)); all_goals (try dsimp only at h1); all_goals (try with_reducible replace h1 := zi_lt.1 h1); all_goals (try with_reducible replace h1 := not_zlt h1)) <;> cbv
  · exact hr (fun _ => 448) (by rw [if_pos h1])
  · ((try refine br_rev ?_); (first | refine br_dec (fun h2 => ?_) (fun h2 => ?_) | refine br_ndec (fun h2 => ?_) (fun h2 => ?_) | refine br_nbool (fun h2 => ?_) (fun h2 => ?_) | refine br_bool (fun h2 => ?_) (fun h2 => ?_)); all_goals (try dsimp only at h2); all_goals (try with_reducible replace h2 := zi_lt.1 h2); all_goals (try with_reducible replace h2 := not_zlt h2)) <;> cbv
    · exact hr (fun _ => 511) (by rw [if_neg h1, if_pos h2])
    · exact hr (fun _ => 0) (by rw [if_neg h1, if_neg h2])
theorem list_ext_getD {α : Type} {a b : List α} (z : α) (hl : a.length = b.length) (h : ∀ j, j < a.length → a.getD j z = b.getD j z) : a = b := by
  apply List.ext_getElem hl
  intro i h1 h2
  have := h i h1
  simpa [List.getD_eq_getElem?_getD, List.getElem?_eq_getElem h1, List.getElem?_eq_getElem h2] using this
/-- Two lists that differ in a place. -/
theorem list_ne_getD {α : Type} {a b : List α} (z : α) (j : Nat) (h : a.getD j z ≠ b.getD j z) : a ≠ b := fun e => h (by rw [e])
theorem sameX_c (a b : Th (List Xattr)) (ha : short (a .o)) {d : Nat} {K : ARes → BL → Prop} (hr : ∀ r : Th Bool, (r .o = true ↔ a .o = b .o) → K (.ret (.bool r)) .nil) : CallAt PT r9_SameXattrs [xattrs a, xattrs b] d .nil K := by
  refine CallAt.res ?_
  refine r9_SameXattrs.of rfl rfl ?_
  cbv
  have no : ∀ {x : AV}, a .o ≠ b .o → Same x (.bool fun _ => false) → ∃ r', SameR (.ret x) r' ∧ K r' .nil := fun h1 h2 => ⟨_, .ret h2, hr _ ⟨fun q => (by cases q), fun q => (h1 q).elim⟩⟩
  refine br_ndec (fun h1 => ?_) (fun h1 => ?_)
  · cbv
    exact no (fun q => h1 (by rw [q])) (.ff rfl)
  · have h1 : (a .o).length = (b .o).length := zi_inj.1 h1
    cbv
    refine loop_rule (X := Nat) 1000 [0, 1] [] (fun k => .cons 5 (.int .i64 fun _ => zi k) .nil) (fun _ => .nil) (fun k => k ≤ (a .o).length ∧ ∀ j, j < k → (a .o).getD j Xattr.z = (b .o).getD j Xattr.z) (fun k => (a .o).length - k) 0 ?_ ⟨Nat.zero_le _, fun j hj => by omega⟩ ?_
    · cbv
      (repeat' (first | exact True.intro | exact Same.refl _ | exact SameB.refl _ | exact ⟨rfl⟩ | exact Same.int rfl | exact Same.str rfl | exact Same.bool rfl | (refine Same.int ?_; simp only [List.length_append, List.length_cons, List.length_nil, zi]; omega) | (refine SameB.row' rfl fun i hi => ?_; first | rfl | exact absurd hi (Nat.not_lt_zero _)) | refine And.intro ?_ ?_ | refine SameB.cells ?_ | exact SameC.nil | refine SameC.cons ?_ ?_ | exact Same.nsl rfl | exact Same.tt rfl | exact Same.ff rfl))
    · rintro k ⟨hk, heq⟩
      have hz := zi_toNat k
      cbv
      ((try refine br_rev ?_); (first | refine br_dec (fun h2 => ?_) (fun h2 => ?_) | refine br_ndec (fun h2 => ?_) (fun h2 => ?_) | refine br_nbool (fun h2 => ?_) (fun h2 => ?_) | refine br_bool (fun h2 => ?_) (fun h2 => ?_)); all_goals (try dsimp only at h2); all_goals (try with_reducible replace h2 := zi_lt.1 h2); all_goals (try with_reducible replace h2 := not_zlt h2))
      · cbv
        refine safe ⟨zi_nonneg _, zi_lt.2 h2⟩ ?_
        refine safe ⟨zi_nonneg _, zi_lt.2 (by omega)⟩ ?_
        refine br_nbool (fun h3 => ?_) (fun h3 => ?_)
        · cbv
          refine no (list_ne_getD Xattr.z k fun q => ?_) (.ff rfl)
          rw [hz, q] at h3
          simp at h3
        · rw [hz] at h3
          simp only [Bool.and_eq_true, decide_eq_true_eq] at h3
          have h3' : (a .o).getD k Xattr.z = (b .o).getD k Xattr.z := by
            have e1 := h3.1
            have e2 := h3.2.1
            generalize (a .o).getD k Xattr.z = p at e1 e2 ⊢
            generalize (b .o).getD k Xattr.z = q at e1 e2 ⊢
            cases p; cases q
            simp only at e1 e2
            rw [e1, e2]
          cbv
          refine ⟨k + 1, ⟨h2, fun j hj => ?_⟩, by omega, ?_⟩
          · by_cases e : j = k
            · rw [e]; exact h3'
            · exact heq j (by omega)
          · cbv
            rw [zi_succ (by unfold short at ha; omega)]
            (repeat' (first | exact True.intro | exact Same.refl _ | exact SameB.refl _ | exact ⟨rfl⟩ | exact Same.int rfl | exact Same.str rfl | exact Same.bool rfl | (refine Same.int ?_; simp only [List.length_append, List.length_cons, List.length_nil, zi]; omega) | (refine SameB.row' rfl fun i hi => ?_; first | rfl | exact absurd hi (Nat.not_lt_zero _)) | refine And.intro ?_ ?_ | refine SameB.cells ?_ | exact SameC.nil | refine SameC.cons ?_ ?_ | exact Same.nsl rfl | exact Same.tt rfl | exact Same.ff rfl))
      · cbv
        exact ⟨_, .ret (y := .bool fun _ => true) (.tt rfl), hr _ ⟨fun _ => list_ext_getD Xattr.z h1 fun j hj => heq j (by omega), fun _ => rfl⟩⟩
def optA (b : Bool) (x : Int) : List Int := match b with | true => [x] | false => []
theorem mkA_opt (a b c d e f g : Bool) : mkA a b c d e f g = optA a 10 ++ [2] ++ optA b 3 ++ optA c 4 ++ optA d 5 ++ optA e 6 ++ optA f 7 ++ [8] ++ optA g 9 := by
  cases a <;> cases b <;> cases c <;> cases d <;> cases e <;> cases f <;> cases g <;> rfl
theorem optA_len (b : Bool) (x : Int) : (optA b x).length ≤ 1 := by cases b <;> simp [optA]
theorem attrs21_c (e : Th Entry) {d : Nat} {K : ARes → BL → Prop} (hr : ∀ r : Th (List Int), r .o = attrsS (e .o) → K (.ret (ints r)) .nil) : CallAt PT r21_Attrs [Entry.av e] d .nil K := by
  refine CallAt.res ?_
  refine r21_Attrs.of rfl rfl ?_
  cbv
  refine go_on 1000 ?_
  cbv
  ((try refine br_rev ?_); (first | refine br_dec (fun h1 => ?_) (fun h1 => ?_) | refine br_ndec (fun h1 => ?_) (fun h1 => ?_) | refine br_nbool (fun h1 => ?_) (fun h1 => ?_) | refine br_bool (fun h1 => ?_) (fun h1 => ?_)); all_goals (try dsimp only at h1); all_goals (try with_reducible replace h1 := zi_lt.1 h1); all_goals (try with_reducible replace h1 := not_zlt h1)) <;> cbv
  · exact ⟨_, .ret (y := ints fun _ => []) (.nsl rfl), hr _ (by unfold attrsS; rw [if_pos h1])⟩
  · refine nil_tmp 3 9000 1 (fun i => intCh fun _ => ([] : List Int).getD (i .o) 0) rfl rfl ?_
    have q10 := optA_len (hasA (e .o) 10) 10
    have q3 := optA_len (hasA (e .o) 3) 3
    have q4 := optA_len (hasA (e .o) 4) 4
    have q5 := optA_len (hasA (e .o) 5) 5
    have q6 := optA_len (hasA (e .o) 6) 6
    have q7 := optA_len (hasA (e .o) 7) 7
    have q9 := optA_len (hasA (e .o) 9) 9
    refine cut_rule (X := Unit) 1000 1000 [1] [1] (fun _ => .cons 3 (.row 9000) .nil) (fun _ => .cons 9000 (rowB 1 intCh 0 fun _ => optA (hasA (e .o) 10) 10) .nil) (fun _ => True) ?_ fun _ _ => ?_
    · cbv
      refine br_dec (fun h2 => ?_) (fun h2 => ?_)
      · have e1 : hasA (e .o) 10 = true := decide_eq_true h2
        cbv
        refine app_one intCh 0 ([]) 10 rfl (fun i hi => rfl) rfl rfl (by decide) ?_
        cbv
        refine ⟨(), trivial, ?_⟩
        cbv
        rw [e1]
        (repeat' (first | exact True.intro | exact Same.refl _ | exact SameB.refl _ | exact ⟨rfl⟩ | exact Same.int rfl | exact Same.str rfl | exact Same.bool rfl | (refine Same.int ?_; simp only [List.length_append, List.length_cons, List.length_nil, zi]; omega) | (refine SameB.row' rfl fun i hi => ?_; first | rfl | exact absurd hi (Nat.not_lt_zero _)) | refine And.intro ?_ ?_ | refine SameB.cells ?_ | exact SameC.nil | refine SameC.cons ?_ ?_ | exact Same.nsl rfl | exact Same.tt rfl | exact Same.ff rfl))
      · have e1 : hasA (e .o) 10 = false := decide_eq_false h2
        cbv
        refine ⟨(), trivial, ?_⟩
        cbv
        rw [e1]
        (repeat' (first | exact True.intro | exact Same.refl _ | exact SameB.refl _ | exact ⟨rfl⟩ | exact Same.int rfl | exact Same.str rfl | exact Same.bool rfl | (refine Same.int ?_; simp only [List.length_append, List.length_cons, List.length_nil, zi]; omega) | (refine SameB.row' rfl fun i hi => ?_; first | rfl | exact absurd hi (Nat.not_lt_zero _)) | refine And.intro ?_ ?_ | refine SameB.cells ?_ | exact SameC.nil | refine SameC.cons ?_ ?_ | exact Same.nsl rfl | exact Same.tt rfl | exact Same.ff rfl))
        all_goals exact SameB.row' (by simp [optA]) fun i hi => by simp [optA]
    cbv
    refine app_one intCh 0 (optA (hasA (e .o) 10) 10) 2 rfl (fun i hi => rfl) rfl rfl (by omega) ?_
    cbv
    refine cut_rule (X := Unit) 1000 1000 [1] [1] (fun _ => .cons 3 (.row 9000) .nil) (fun _ => .cons 9000 (rowB 1 intCh 0 fun _ => optA (hasA (e .o) 10) 10 ++ [2] ++ optA (hasA (e .o) 3) 3) .nil) (fun _ => True) ?_ fun _ _ => ?_
    · cbv
      refine br_ndec (fun h2 => ?_) (fun h2 => ?_)
      · have e1 : hasA (e .o) 3 = true := by show (!decide _) = true; rw [decide_eq_false h2]; rfl
        cbv
        refine app_one intCh 0 (optA (hasA (e .o) 10) 10 ++ [2]) 3 rfl (fun i hi => rfl) rfl rfl (by simp only [List.length_append, List.length_cons, List.length_nil]; omega) ?_
        cbv
        refine ⟨(), trivial, ?_⟩
        cbv
        rw [e1]
        (repeat' (first | exact True.intro | exact Same.refl _ | exact SameB.refl _ | exact ⟨rfl⟩ | exact Same.int rfl | exact Same.str rfl | exact Same.bool rfl | (refine Same.int ?_; simp only [List.length_append, List.length_cons, List.length_nil, zi]; omega) | (refine SameB.row' rfl fun i hi => ?_; first | rfl | exact absurd hi (Nat.not_lt_zero _)) | refine And.intro ?_ ?_ | refine SameB.cells ?_ | exact SameC.nil | refine SameC.cons ?_ ?_ | exact Same.nsl rfl | exact Same.tt rfl | exact Same.ff rfl))
      · have e1 : hasA (e .o) 3 = false := by show (!decide _) = false; rw [decide_eq_true h2]; rfl
        cbv
        refine ⟨(), trivial, ?_⟩
        cbv
        rw [e1]
        (repeat' (first | exact True.intro | exact Same.refl _ | exact SameB.refl _ | exact ⟨rfl⟩ | exact Same.int rfl | exact Same.str rfl | exact Same.bool rfl | (refine Same.int ?_; simp only [List.length_append, List.length_cons, List.length_nil, zi]; omega) | (refine SameB.row' rfl fun i hi => ?_; first | rfl | exact absurd hi (Nat.not_lt_zero _)) | refine And.intro ?_ ?_ | refine SameB.cells ?_ | exact SameC.nil | refine SameC.cons ?_ ?_ | exact Same.nsl rfl | exact Same.tt rfl | exact Same.ff rfl))
        all_goals exact SameB.row' (by simp [optA]) fun i hi => by simp [optA]
    cbv
    refine cut_rule (X := Unit) 1000 1000 [1] [1] (fun _ => .cons 3 (.row 9000) .nil) (fun _ => .cons 9000 (rowB 1 intCh 0 fun _ => optA (hasA (e .o) 10) 10 ++ [2] ++ optA (hasA (e .o) 3) 3 ++ optA (hasA (e .o) 4) 4) .nil) (fun _ => True) ?_ fun _ _ => ?_
    · cbv
      refine br_dec (fun h2 => ?_) (fun h2 => ?_)
      · have e1 : hasA (e .o) 4 = true := (zpos_dec _).symm.trans (decide_eq_true h2)
        cbv
        refine app_one intCh 0 (optA (hasA (e .o) 10) 10 ++ [2] ++ optA (hasA (e .o) 3) 3) 4 rfl (fun i hi => rfl) rfl rfl (by simp only [List.length_append, List.length_cons, List.length_nil]; omega) ?_
        cbv
        refine ⟨(), trivial, ?_⟩
        cbv
        rw [e1]
        (repeat' (first | exact True.intro | exact Same.refl _ | exact SameB.refl _ | exact ⟨rfl⟩ | exact Same.int rfl | exact Same.str rfl | exact Same.bool rfl | (refine Same.int ?_; simp only [List.length_append, List.length_cons, List.length_nil, zi]; omega) | (refine SameB.row' rfl fun i hi => ?_; first | rfl | exact absurd hi (Nat.not_lt_zero _)) | refine And.intro ?_ ?_ | refine SameB.cells ?_ | exact SameC.nil | refine SameC.cons ?_ ?_ | exact Same.nsl rfl | exact Same.tt rfl | exact Same.ff rfl))
      · have e1 : hasA (e .o) 4 = false := (zpos_dec _).symm.trans (decide_eq_false h2)
        cbv
        refine ⟨(), trivial, ?_⟩
        cbv
        rw [e1]
        (repeat' (first | exact True.intro | exact Same.refl _ | exact SameB.refl _ | exact ⟨rfl⟩ | exact Same.int rfl | exact Same.str rfl | exact Same.bool rfl | (refine Same.int ?_; simp only [List.length_append, List.length_cons, List.length_nil, zi]; omega) | (refine SameB.row' rfl fun i hi => ?_; first | rfl | exact absurd hi (Nat.not_lt_zero _)) | refine And.intro ?_ ?_ | refine SameB.cells ?_ | exact SameC.nil | refine SameC.cons ?_ ?_ | exact Same.nsl rfl | exact Same.tt rfl | exact Same.ff rfl))
        all_goals exact SameB.row' (by simp [optA]) fun i hi => by simp [optA]
    cbv
    refine cut_rule (X := Unit) 1000 1000 [1] [1] (fun _ => .cons 3 (.row 9000) .nil) (fun _ => .cons 9000 (rowB 1 intCh 0 fun _ => optA (hasA (e .o) 10) 10 ++ [2] ++ optA (hasA (e .o) 3) 3 ++ optA (hasA (e .o) 4) 4 ++ optA (hasA (e .o) 5) 5) .nil) (fun _ => True) ?_ fun _ _ => ?_
    · cbv
      refine br_dec (fun h2 => ?_) (fun h2 => ?_)
      · have e1 : hasA (e .o) 5 = true := (zpos_dec _).symm.trans (decide_eq_true h2)
        cbv
        refine app_one intCh 0 (optA (hasA (e .o) 10) 10 ++ [2] ++ optA (hasA (e .o) 3) 3 ++ optA (hasA (e .o) 4) 4) 5 rfl (fun i hi => rfl) rfl rfl (by simp only [List.length_append, List.length_cons, List.length_nil]; omega) ?_
        cbv
        refine ⟨(), trivial, ?_⟩
        cbv
        rw [e1]
        (repeat' (first | exact True.intro | exact Same.refl _ | exact SameB.refl _ | exact ⟨rfl⟩ | exact Same.int rfl | exact Same.str rfl | exact Same.bool rfl | (refine Same.int ?_; simp only [List.length_append, List.length_cons, List.length_nil, zi]; omega) | (refine SameB.row' rfl fun i hi => ?_; first | rfl | exact absurd hi (Nat.not_lt_zero _)) | refine And.intro ?_ ?_ | refine SameB.cells ?_ | exact SameC.nil | refine SameC.cons ?_ ?_ | exact Same.nsl rfl | exact Same.tt rfl | exact Same.ff rfl))
      · have e1 : hasA (e .o) 5 = false := (zpos_dec _).symm.trans (decide_eq_false h2)
        cbv
        refine ⟨(), trivial, ?_⟩
        cbv
        rw [e1]
        (repeat' (first | exact True.intro | exact Same.refl _ | exact SameB.refl _ | exact ⟨rfl⟩ | exact Same.int rfl | exact Same.str rfl | exact Same.bool rfl | (refine Same.int ?_; simp only [List.length_append, List.length_cons, List.length_nil, zi]; omega) | (refine SameB.row' rfl fun i hi => ?_; first | rfl | exact absurd hi (Nat.not_lt_zero _)) | refine And.intro ?_ ?_ | refine SameB.cells ?_ | exact SameC.nil | refine SameC.cons ?_ ?_ | exact Same.nsl rfl | exact Same.tt rfl | exact Same.ff rfl))
        all_goals exact SameB.row' (by simp [optA]) fun i hi => by simp [optA]
    cbv
    refine cut_rule (X := Unit) 1000 1000 [1] [1] (fun _ => .cons 3 (.row 9000) .nil) (fun _ => .cons 9000 (rowB 1 intCh 0 fun _ => optA (hasA (e .o) 10) 10 ++ [2] ++ optA (hasA (e .o) 3) 3 ++ optA (hasA (e .o) 4) 4 ++ optA (hasA (e .o) 5) 5 ++ optA (hasA (e .o) 6) 6) .nil) (fun _ => True) ?_ fun _ _ => ?_
    · cbv
      refine br_dec (fun h2 => ?_) (fun h2 => ?_)
      · have e1 : hasA (e .o) 6 = true := (zpos_dec _).symm.trans (decide_eq_true h2)
        cbv
        refine app_one intCh 0 (optA (hasA (e .o) 10) 10 ++ [2] ++ optA (hasA (e .o) 3) 3 ++ optA (hasA (e .o) 4) 4 ++ optA (hasA (e .o) 5) 5) 6 rfl (fun i hi => rfl) rfl rfl (by simp only [List.length_append, List.length_cons, List.length_nil]; omega) ?_
        cbv
        refine ⟨(), trivial, ?_⟩
        cbv
        rw [e1]
        (repeat' (first | exact True.intro | exact Same.refl _ | exact SameB.refl _ | exact ⟨rfl⟩ | exact Same.int rfl | exact Same.str rfl | exact Same.bool rfl | (refine Same.int ?_; simp only [List.length_append, List.length_cons, List.length_nil, zi]; omega) | (refine SameB.row' rfl fun i hi => ?_; first | rfl | exact absurd hi (Nat.not_lt_zero _)) | refine And.intro ?_ ?_ | refine SameB.cells ?_ | exact SameC.nil | refine SameC.cons ?_ ?_ | exact Same.nsl rfl | exact Same.tt rfl | exact Same.ff rfl))
      · have e1 : hasA (e .o) 6 = false := (zpos_dec _).symm.trans (decide_eq_false h2)
        cbv
        refine ⟨(), trivial, ?_⟩
        cbv
        rw [e1]
        (repeat' (first | exact True.intro | exact Same.refl _ | exact SameB.refl _ | exact ⟨rfl⟩ | exact Same.int rfl | exact Same.str rfl | exact Same.bool rfl | (refine Same.int ?_; simp only [List.length_append, List.length_cons, List.length_nil, zi]; omega) | (refine SameB.row' rfl fun i hi => ?_; first | rfl | exact absurd hi (Nat.not_lt_zero _)) | refine And.intro ?_ ?_ | refine SameB.cells ?_ | exact SameC.nil | refine SameC.cons ?_ ?_ | exact Same.nsl rfl | exact Same.tt rfl | exact Same.ff rfl))
        all_goals exact SameB.row' (by simp [optA]) fun i hi => by simp [optA]
    cbv
    refine cut_rule (X := Unit) 1000 1000 [1] [1] (fun _ => .cons 3 (.row 9000) .nil) (fun _ => .cons 9000 (rowB 1 intCh 0 fun _ => optA (hasA (e .o) 10) 10 ++ [2] ++ optA (hasA (e .o) 3) 3 ++ optA (hasA (e .o) 4) 4 ++ optA (hasA (e .o) 5) 5 ++ optA (hasA (e .o) 6) 6 ++ optA (hasA (e .o) 7) 7) .nil) (fun _ => True) ?_ fun _ _ => ?_
    · cbv
      refine br_ndec (fun h2 => ?_) (fun h2 => ?_)
      · have e1 : hasA (e .o) 7 = true := by show (!decide _) = true; rw [decide_eq_false h2]; rfl
        cbv
        refine app_one intCh 0 (optA (hasA (e .o) 10) 10 ++ [2] ++ optA (hasA (e .o) 3) 3 ++ optA (hasA (e .o) 4) 4 ++ optA (hasA (e .o) 5) 5 ++ optA (hasA (e .o) 6) 6) 7 rfl (fun i hi => rfl) rfl rfl (by simp only [List.length_append, List.length_cons, List.length_nil]; omega) ?_
        cbv
        refine ⟨(), trivial, ?_⟩
        cbv
        rw [e1]
        (repeat' (first | exact True.intro | exact Same.refl _ | exact SameB.refl _ | exact ⟨rfl⟩ | exact Same.int rfl | exact Same.str rfl | exact Same.bool rfl | (refine Same.int ?_; simp only [List.length_append, List.length_cons, List.length_nil, zi]; omega) | (refine SameB.row' rfl fun i hi => ?_; first | rfl | exact absurd hi (Nat.not_lt_zero _)) | refine And.intro ?_ ?_ | refine SameB.cells ?_ | exact SameC.nil | refine SameC.cons ?_ ?_ | exact Same.nsl rfl | exact Same.tt rfl | exact Same.ff rfl))
      · have e1 : hasA (e .o) 7 = false := by show (!decide _) = false; rw [decide_eq_true h2]; rfl
        cbv
        refine ⟨(), trivial, ?_⟩
        cbv
        rw [e1]
        (repeat' (first | exact True.intro | exact Same.refl _ | exact SameB.refl _ | exact ⟨rfl⟩ | exact Same.int rfl | exact Same.str rfl | exact Same.bool rfl | (refine Same.int ?_; simp only [List.length_append, List.length_cons, List.length_nil, zi]; omega) | (refine SameB.row' rfl fun i hi => ?_; first | rfl | exact absurd hi (Nat.not_lt_zero _)) | refine And.intro ?_ ?_ | refine SameB.cells ?_ | exact SameC.nil | refine SameC.cons ?_ ?_ | exact Same.nsl rfl | exact Same.tt rfl | exact Same.ff rfl))
        all_goals exact SameB.row' (by simp [optA]) fun i hi => by simp [optA]
    cbv
    refine app_one intCh 0 (optA (hasA (e .o) 10) 10 ++ [2] ++ optA (hasA (e .o) 3) 3 ++ optA (hasA (e .o) 4) 4 ++ optA (hasA (e .o) 5) 5 ++ optA (hasA (e .o) 6) 6 ++ optA (hasA (e .o) 7) 7) 8 rfl (fun i hi => rfl) rfl rfl (by simp only [List.length_append, List.length_cons, List.length_nil]; omega) ?_
    cbv
    refine cut_rule (X := Unit) 1000 1000 [1] [1] (fun _ => .cons 3 (.row 9000) .nil) (fun _ => .cons 9000 (rowB 1 intCh 0 fun _ => optA (hasA (e .o) 10) 10 ++ [2] ++ optA (hasA (e .o) 3) 3 ++ optA (hasA (e .o) 4) 4 ++ optA (hasA (e .o) 5) 5 ++ optA (hasA (e .o) 6) 6 ++ optA (hasA (e .o) 7) 7 ++ [8] ++ optA (hasA (e .o) 9) 9) .nil) (fun _ => True) ?_ fun _ _ => ?_
    · cbv
      refine br_ndec (fun h2 => ?_) (fun h2 => ?_)
      · have e1 : hasA (e .o) 9 = true := by show (!decide _) = true; rw [decide_eq_false h2]; rfl
        cbv
        refine app_one intCh 0 (optA (hasA (e .o) 10) 10 ++ [2] ++ optA (hasA (e .o) 3) 3 ++ optA (hasA (e .o) 4) 4 ++ optA (hasA (e .o) 5) 5 ++ optA (hasA (e .o) 6) 6 ++ optA (hasA (e .o) 7) 7 ++ [8]) 9 rfl (fun i hi => rfl) rfl rfl (by simp only [List.length_append, List.length_cons, List.length_nil]; omega) ?_
        cbv
        refine ⟨(), trivial, ?_⟩
        cbv
        rw [e1]
        (repeat' (first | exact True.intro | exact Same.refl _ | exact SameB.refl _ | exact ⟨rfl⟩ | exact Same.int rfl | exact Same.str rfl | exact Same.bool rfl | (refine Same.int ?_; simp only [List.length_append, List.length_cons, List.length_nil, zi]; omega) | (refine SameB.row' rfl fun i hi => ?_; first | rfl | exact absurd hi (Nat.not_lt_zero _)) | refine And.intro ?_ ?_ | refine SameB.cells ?_ | exact SameC.nil | refine SameC.cons ?_ ?_ | exact Same.nsl rfl | exact Same.tt rfl | exact Same.ff rfl))
      · have e1 : hasA (e .o) 9 = false := by show (!decide _) = false; rw [decide_eq_true h2]; rfl
        cbv
        refine ⟨(), trivial, ?_⟩
        cbv
        rw [e1]
        (repeat' (first | exact True.intro | exact Same.refl _ | exact SameB.refl _ | exact ⟨rfl⟩ | exact Same.int rfl | exact Same.str rfl | exact Same.bool rfl | (refine Same.int ?_; simp only [List.length_append, List.length_cons, List.length_nil, zi]; omega) | (refine SameB.row' rfl fun i hi => ?_; first | rfl | exact absurd hi (Nat.not_lt_zero _)) | refine And.intro ?_ ?_ | refine SameB.cells ?_ | exact SameC.nil | refine SameC.cons ?_ ?_ | exact Same.nsl rfl | exact Same.tt rfl | exact Same.ff rfl))
        all_goals exact SameB.row' (by simp [optA]) fun i hi => by simp [optA]
    cbv
    exact ⟨_, .ret (y := ints fun _ => attrsS (e .o)) (.sl (by unfold attrsS; rw [if_neg h1, filter_mkA _ rfl rfl, mkA_opt]) fun i hi => by unfold attrsS; rw [if_neg h1, filter_mkA _ rfl rfl, mkA_opt]; rfl), hr _ rfl⟩
end Go.Proofs.Ytgjlkcdnlndlnaa
/- degrade.Result: a loop over slices.Backward, by hand. -/
namespace Go.Proofs.Ytgjlkcdnlndlnaa
open Go Go.RowKit Go.Shelf
set_option linter.unusedVariables false
set_option linter.unusedSimpArgs false
attribute [local go_sem] Oper.semAt_some
structure Item where
  path : List UInt8
  attr : Int
  res : Int
def Item.z : Item := ⟨[], 0, 0⟩
def Item.v (x : Item) : Value := .agg #[.string ⟨x.path.toArray⟩, .int .i64 x.attr, .int .i64 x.res]
/-- The block b holds the items zs from off on. -/
def ItemsAt (b off : Nat) (zs : List Item) (W : World) : Prop := ∀ j, j < zs.length → W.cell? ⟨b, off + j * 3, none⟩ = some (.string ⟨(zs[j]?.getD Item.z).path.toArray⟩) ∧ W.cell? ⟨b, off + j * 3 + 1, none⟩ = some (.int .i64 (zs[j]?.getD Item.z).attr) ∧ W.cell? ⟨b, off + j * 3 + 2, none⟩ = some (.int .i64 (zs[j]?.getD Item.z).res)
def backs (zs : List Item) (k : Nat) : List (Int × Item) := (List.range k).map fun (j : Nat) => ((zs.length : Int) - 1 - j, zs[zs.length - 1 - j]?.getD Item.z)
theorem backs_succ (zs : List Item) (k : Nat) : backs zs (k + 1) = backs zs k ++ [((zs.length : Int) - 1 - k, zs[zs.length - 1 - k]?.getD Item.z)] := by simp [backs, List.range_succ]
theorem backs_length (zs : List Item) (k : Nat) : (backs zs k).length = k := by simp [backs]
set_option maxRecDepth 100000 in
set_option maxHeartbeats 2000000 in
theorem back1_in (F : Fence) (n : Nat) (h8 : F.fn 102) (hro : F.round = none) (hn : 1 ≤ n) (l Bs n₀ : Nat) (a : Option Addr) (cap : Nat) (zs : List Item) (hreach : zs.length ≤ 140737488351232) (J Jx : List (Int × Item) → World → Prop)
    (hY : ∀ pre x W, J pre W → pre.length < zs.length → YieldAt F (n - 1) Try.prog l #[.int .i64 x.1, x.2.v] W fun e W' =>
      (e = .returned (.bool true) ∧ J (pre ++ [x]) W' ∧ Below n₀ W W') ∨ (e = .returned (.bool false) ∧ Jx (pre ++ [x]) W'))
    (W : World) (hBs : W.cell? ⟨Bs, 0, none⟩ = some (.slice a zs.length cap)) (hBl : Bs < n₀) (hc : zs.length ≠ 0 → ∃ b off, a = some ⟨b, off, none⟩ ∧ b < n₀ ∧ ItemsAt b off zs W) (h0 : J [] W) :
    CallsIn F n Try.prog 102 #[.func (.yield l) #[] #[], .pointer (some ⟨Bs, 0, none⟩)] W fun e W' => (∃ v, e = .returned v) ∧
      ((∃ ys, ys = backs zs zs.length ∧ J ys W') ∨ (∃ pre, (∃ k, k ≤ zs.length ∧ pre = backs zs k) ∧ Jx pre W')) := by
  refine callsIn_of_wp Try.func102 rfl h8 ?_ hro
  simp only [Try.ntmps102, List.size_toArray, List.length_cons, List.length_nil, Nat.reduceAdd, Nat.reduceSub, Array.replicate_succ, Array.replicate_zero, List.push_toArray, List.append_toArray, List.nil_append, List.cons_append]
  gi_wp2
  gi_loopw [3] (fun i wr => ∃ k : Nat, k ≤ zs.length ∧ i = .int .i64 ((zs.length : Int) - 1 - k) ∧ J (backs zs k) wr ∧ Below n₀ W wr)
    (fun i _ => (intOf i + 1).toNat)
  case atStart => exact ⟨0, Nat.zero_le _, by simp, h0, Below.refl _ _⟩
  case round =>
    obtain ⟨k, hk, rfl, hJs, hnx⟩ := hrel
    have hBx : wr.cell? ⟨Bs, 0, none⟩ = some (.slice a zs.length cap) := (hnx.cell (p := ⟨Bs, 0, none⟩) hBl).trans hBs
    by_cases hlt : k < zs.length
    · obtain ⟨fn, tmps, assign, body, hy, hR⟩ := hY _ ((zs.length : Int) - 1 - k, zs[zs.length - 1 - k]?.getD Item.z) wr hJs (by rw [backs_length]; exact hlt)
      dsimp only [Item.v] at hy
      obtain ⟨b, off, rfl, hb, hi⟩ := hc (by omega)
      obtain ⟨c1, c2, c3⟩ := hi (zs.length - 1 - k) (by omega)
      have d1 := (hnx.cell (p := ⟨b, _, none⟩) hb).trans c1
      have d2 := (hnx.cell (p := ⟨b, _, none⟩) hb).trans c2
      have d3 := (hnx.cell (p := ⟨b, _, none⟩) hb).trans c3
      gi_wp2
      refine hR.mono ?_
      rintro e W3 (⟨rfl, hJ3, hk3⟩ | ⟨rfl, hJx3⟩)
      · gi_wp2
        go_roundw
        case rel => exact ⟨k + 1, by omega, by simp; omega, by rw [backs_succ]; exact hJ3, hnx.trans hk3⟩
        case measure => simp [intOf]; omega
      · gi_wp2
        refine bodyPost_ret (results_none rfl _ _ _) rfl ?_
        exact ⟨⟨_, rfl⟩, .inr ⟨_, ⟨k + 1, by omega, (backs_succ _ _).symm⟩, hJx3⟩⟩
    · obtain rfl : k = zs.length := by omega
      gi_wp2
      go_end0
      exact ⟨⟨_, rfl⟩, .inl ⟨_, rfl, hJs⟩⟩
set_option maxHeartbeats 1000000 in
theorem back_in (F : Fence) (n : Nat) (h5 : F.fn 56) (hro : F.round = none) (a : Option Addr) (len cap : Nat) (w : World) :
    CallsIn F n Try.prog 56 #[.slice a len cap] w fun e w' => e = .returned (.func (.func 102) #[] #[.pointer (some ⟨w.heap.size, 0, none⟩)]) ∧ w' = w.alloc (.cells #[.slice a len cap] 46) := by
  refine callsIn_of_wp Try.func56 rfl h5 ?_ hro
  simp only [Try.ntmps56, List.size_toArray, List.length_cons, List.length_nil, Nat.reduceAdd, Nat.reduceSub, Array.replicate_succ, Array.replicate_zero, List.push_toArray, List.append_toArray, List.nil_append, List.cons_append]
  gi_wp2
  go_ret
  exact ⟨rfl, rfl⟩
/-- What holds of a slice's items. -/
def ItemsOf (n₀ : Nat) (W : World) (a : Option Addr) (zs : List Item) : Prop := zs.length ≠ 0 → ∃ b off, a = some ⟨b, off, none⟩ ∧ b < n₀ ∧ ItemsAt b off zs W
theorem ItemsOf.below {n₀ : Nat} {A B : World} (h : Below n₀ A B) {a : Option Addr} {zs : List Item} (hi : ItemsOf n₀ A a zs) : ItemsOf n₀ B a zs := fun hz => by
  obtain ⟨b, off, h1, h2, h3⟩ := hi hz
  exact ⟨b, off, h1, h2, fun j hj => ⟨(h.cell (p := ⟨b, _, none⟩) h2).trans (h3 j hj).1, (h.cell (p := ⟨b, _, none⟩) h2).trans (h3 j hj).2.1, (h.cell (p := ⟨b, _, none⟩) h2).trans (h3 j hj).2.2⟩⟩
theorem back_stops (F : Fence) (n : Nat) (h8 : F.fn 102) (hro : F.round = none) (hn : 1 ≤ n) (Bs n₀ : Nat) (a : Option Addr) (cap : Nat) (zs : List Item) (hreach : zs.length ≤ 140737488351232) (w : World) (hBs : Bs < w.heap.size) (hBl : n₀ ≤ Bs)
    (hc : w.cell? ⟨Bs, 0, none⟩ = some (.slice a zs.length cap)) (hI : ItemsOf n₀ w a zs) :
    SeqStopsK F n Try.prog 102 #[.pointer (some ⟨Bs, 0, none⟩)] (fun x : Int × Item => #[Value.int .i64 x.1, x.2.v]) (Below (Bs + 1)) (fun ys => ys = backs zs zs.length)
      (fun pre => ∃ k, k ≤ zs.length ∧ pre = backs zs k) zs.length w := fun l J Jx W hW _ _ hY h0 => by
  have hc' := (hW.cell (p := ⟨Bs, 0, none⟩) hBs).trans hc
  have hI' := hI.below (hW.mono (by omega))
  exact back1_in F n h8 hro hn l Bs (Bs + 1) a cap zs hreach J Jx hY W hc' (by omega) (fun hz => by obtain ⟨b, off, h1, h2, h3⟩ := hI' hz; exact ⟨b, off, h1, by omega, h3⟩) h0
/-- What a report says last of an attribute. -/
def lastR (l : List Item) (p : List UInt8) (a : Int) : Int := ((l.reverse.find? fun x => decide (x.path = p ∧ x.attr = a)).map (·.res)).getD 0
/-- The block B holds the item x. -/
def ItemIn (W : World) (B : Nat) (x : Item) : Prop := W.heap[B]? = some (.cells #[.string ⟨x.path.toArray⟩, .int .i64 x.attr, .int .i64 x.res] 56 (0, 0))
theorem ItemIn.cells {W : World} {B : Nat} {x : Item} (h : ItemIn W B x) : W.cell? ⟨B, 0, none⟩ = some (.string ⟨x.path.toArray⟩) ∧ W.cell? ⟨B, 1, none⟩ = some (.int .i64 x.attr) ∧ W.cell? ⟨B, 2, none⟩ = some (.int .i64 x.res) :=
  ⟨by simp [World.cell?, show W.heap[B]? = _ from h], by simp [World.cell?, show W.heap[B]? = _ from h], by simp [World.cell?, show W.heap[B]? = _ from h]⟩
theorem itemIn_own (B : Nat) (x : Item) : Own (fun (_ : Unit) W => ItemIn W B x) := fun s X Y row hs hg hrow =>
  (hg.block B (Array.getElem?_eq_some_iff.1 hs).1 (fun e' => by obtain ⟨o, ho, hc⟩ := hrow B e'.symm; rw [show X.heap[B]? = _ from hs] at ho; cases ho; cases hc)).trans hs
theorem backs_snd (zs : List Item) (k : Nat) (hk : k ≤ zs.length) : (backs zs k).map (·.2) = zs.reverse.take k := by
  apply List.ext_getElem
  · simp [backs, hk]
  · intro i h1 h2
    have hi : i < k := by simp [backs] at h1; exact h1
    have h3 : zs.length - 1 - i < zs.length := by omega
    simp [backs, h3]
/-- What the report says, out of a prefix of what comes. -/
def hit (p : List UInt8) (a : Int) (x : Item) : Bool := decide (x.path = p ∧ x.attr = a)
theorem lastR_none {zs : List Item} {p : List UInt8} {a : Int} (h : ∀ y ∈ backs zs zs.length, hit p a y.2 = false) : lastR zs p a = 0 := by
  unfold lastR
  rw [List.find?_eq_none.2 fun x hx => ?_]
  · rfl
  · have : x ∈ (backs zs zs.length).map (·.2) := by rw [backs_snd zs _ (Nat.le_refl _), List.take_of_length_le (by simp)]; exact hx
    obtain ⟨y, hy, rfl⟩ := List.mem_map.1 this
    have := h y hy
    unfold hit at this
    simp [this]
theorem lastR_some {zs : List Item} {p : List UInt8} {a : Int} {k : Nat} {pre : List (Int × Item)} {y : Int × Item} (hk : k ≤ zs.length) (e : pre ++ [y] = backs zs k) (h : ∀ z ∈ pre, hit p a z.2 = false) (hy : hit p a y.2 = true) : lastR zs p a = y.2.res := by
  unfold lastR
  have h1 : zs.reverse = (pre.map (·.2) ++ [y.2]) ++ zs.reverse.drop k := by
    rw [show pre.map (·.2) ++ [y.2] = (pre ++ [y]).map (·.2) by simp, e, backs_snd zs k hk, List.take_append_drop]
  rw [h1, List.append_assoc, List.find?_append, List.find?_eq_none.2 fun x hx => ?_]
  · obtain ⟨e1, e2⟩ := of_decide_eq_true (show decide (y.2.path = p ∧ y.2.attr = a) = true from hy)
    simp [e1, e2]
  · obtain ⟨z, hz, rfl⟩ := List.mem_map.1 hx
    have := h z hz
    unfold hit at this
    simp [this]
set_option maxRecDepth 100000 in
set_option maxHeartbeats 4000000 in
theorem result_in (F : Fence) (n : Nat) (h3 : F.fn 27) (h5 : F.fn 56) (h6 : F.fn 102) (hro : F.round = none) (hn : 4 ≤ n)
    (a : Option Addr) (cap : Nat) (zs : List Item) (hreach : zs.length ≤ 140737488351232) (pt : List UInt8) (at' : Int) (w : World) (hL : ItemsOf w.heap.size w a zs) :
    CallsIn F n Try.prog 27 #[.slice a zs.length cap, .string ⟨pt.toArray⟩, .int .i64 at'] w fun e W' => e = .returned (.int .i64 (lastR zs pt at')) ∧ Below w.heap.size w W' := by
  have h1 : 1 ≤ n := by omega
  refine callsIn_of_wp_marks Try.func27 rfl h3 ?_ hro
  simp only [Try.ntmps27, List.size_toArray, List.length_cons, List.length_nil, Nat.reduceAdd, Nat.reduceSub, Array.replicate_succ, Array.replicate_zero, List.push_toArray, List.append_toArray, List.nil_append, List.cons_append]
  gi_wp2_with (gi_at_call 56; refine (back_in F (n - 1) h5 hro _ _ _ _).mono ?_; rintro e w' ⟨rfl, rfl⟩)
  have bP := (((Boxed.new w 9 (.string ⟨pt.toArray⟩)).alloc (.cells #[.int .i64 at'] 3)).alloc (.cells #[.int .i64 0] 3)).alloc (.cells #[.slice a zs.length cap] 46)
  have bA := ((Boxed.new (w.alloc (.cells #[.string ⟨pt.toArray⟩] 9)) 3 (.int .i64 at')).alloc (.cells #[.int .i64 0] 3)).alloc (.cells #[.slice a zs.length cap] 46)
  have bR := (Boxed.new ((w.alloc (.cells #[.string ⟨pt.toArray⟩] 9)).alloc (.cells #[.int .i64 at'] 3)) 3 (.int .i64 0)).alloc (.cells #[.slice a zs.length cap] 46)
  have bS := Boxed.new (((w.alloc (.cells #[.string ⟨pt.toArray⟩] 9)).alloc (.cells #[.int .i64 at'] 3)).alloc (.cells #[.int .i64 0] 3)) 46 (.slice a zs.length cap)
  simp only [World.size_alloc] at bA bR bS
  have hB0 : Below w.heap.size w ((((w.alloc (.cells #[.string ⟨pt.toArray⟩] 9)).alloc (.cells #[.int .i64 at'] 3)).alloc (.cells #[.int .i64 0] 3)).alloc (.cells #[.slice a zs.length cap] 46)) :=
    ((((Below.refl _ w).alloc (Nat.le_refl _) _).alloc (by simp) _).alloc (by simp; omega) _).alloc (by simp; omega) _
  have hsz : ((((w.alloc (.cells #[.string ⟨pt.toArray⟩] 9)).alloc (.cells #[.int .i64 at'] 3)).alloc (.cells #[.int .i64 0] 3)).alloc (.cells #[.slice a zs.length cap] 46)).heap.size = w.heap.size + 4 := by simp
  obtain ⟨W0, hW0⟩ : ∃ W0, ((((w.alloc (.cells #[.string ⟨pt.toArray⟩] 9)).alloc (.cells #[.int .i64 at'] 3)).alloc (.cells #[.int .i64 0] 3)).alloc (.cells #[.slice a zs.length cap] 46)) = W0 := ⟨_, rfl⟩
  rw [hW0] at bP bA bR bS hB0 hsz ⊢
  clear hW0
  refine wpIn_rangeFunc_ownH hro h1 (gf := 102) (lb := #[.pointer (some ⟨w.heap.size + 1 + 1 + 1, 0, none⟩)]) rfl h6 (enters_of Try.func102 (by kernel_rfl) rfl)
    (back_stops F (n - 1) h6 hro (by omega) (w.heap.size + 1 + 1 + 1) w.heap.size a cap zs hreach W0 (by omega) (by omega) bS.cell (hL.below hB0)) belowK_t (belowK_b (by omega)) (Below.refl _ _) (fun _ => rfl)
    (fun pre W => (((Boxed W (w.heap.size + 1 + 1) 3 (.int .i64 0) ∧ Boxed W w.heap.size 9 (.string ⟨pt.toArray⟩)) ∧ Boxed W (w.heap.size + 1) 3 (.int .i64 at')) ∧ (Below w.heap.size w W ∧ Below w.heap.size W0 W)) ∧ ∀ y ∈ pre, hit pt at' y.2 = false)
    (fun c pre W => ((∃ v, Boxed W (w.heap.size + 1 + 1) 3 (.int .i64 v) ∧ ∃ pre' y, v = y.2.res ∧ pre = pre' ++ [y] ∧ (∀ z ∈ pre', hit pt at' z.2 = false) ∧ hit pt at' y.2 = true) ∧ Below w.heap.size w W) ∧ c = .ret)
    (OwnFrom.and (OwnFrom.and (OwnFrom.and (OwnFrom.and (Own.from (boxed_own _ _ _) _) (Own.from (boxed_own _ _ _) _)) (Own.from (boxed_own _ _ _) _)) (OwnFrom.and (ownFrom_below (Nat.le_refl _) (by omega)) (ownFrom_below (by omega) (by omega)))) (ownFrom_pure _ _))
    (fun c => OwnFrom.and (OwnFrom.and (fun s X Y row hs hg hr => by obtain ⟨v, h1, h2⟩ := hs; exact ⟨v, Own.from (boxed_own (w.heap.size + 1 + 1) 3 (fun (_ : Unit) => Value.int .i64 v)) _ () X Y row h1 hg hr, h2⟩) (ownFrom_below (Nat.le_refl _) (by omega))) (ownFrom_pure _ _))
    ⟨⟨⟨⟨bR, bP⟩, bA⟩, hB0, Below.refl _ _⟩, fun _ h => (List.not_mem_nil h).elim⟩
    (fun x a' W => ∃ Bx, w.heap.size + 3 < Bx ∧ ItemIn W Bx x.2 ∧ a' = { tmps := #[.slice a zs.length cap, .string ⟨pt.toArray⟩, .int .i64 at', undef, .pointer (some ⟨w.heap.size, 0, none⟩), .pointer (some ⟨w.heap.size + 1, 0, none⟩), .pointer (some ⟨w.heap.size + 1 + 1, 0, none⟩), undef, .pointer (some ⟨Bx, 0, none⟩), .slice a zs.length cap, .func (.func 102) #[] #[.pointer (some ⟨w.heap.size + 1 + 1 + 1, 0, none⟩)], .int .i64 x.1, x.2.v, undef, undef, undef, undef, undef, undef, undef, undef, undef, undef, undef, undef], defers := [] })
    (fun x a' _ X Y row hs hg hr => by obtain ⟨Bx, h1, h2, h3⟩ := hs; exact ⟨Bx, h1, itemIn_own Bx x.2 () X Y row h2 hg (fun r e => (hr r e).2), h3⟩)
    ?assign ?body ?done ?stop
  case assign =>
    rintro l pre ⟨x1, x2⟩ W K ⟨⟨⟨⟨bR1, bP1⟩, bA1⟩, hB1, hB2⟩, hp⟩ hK
    dsimp only [Item.v] at hK ⊢
    gi_wp2
    exact hK _ _ ((KeepsOthers.alloc _ _).from _) ((Below.refl _ W).alloc (by have := bR1.lt; have := hB2.size; omega) _) ⟨⟨⟨⟨bR1.alloc _, bP1.alloc _⟩, bA1.alloc _⟩, hB1.alloc hB1.size _, hB2.alloc hB1.size _⟩, hp⟩ ⟨W.heap.size, by have := hB2.size; omega, World.alloc_heap_new W _, rfl⟩
  case body =>
    rintro l pre ⟨x1, x2⟩ a' W hl ⟨r, hr⟩ ⟨⟨⟨⟨bR1, bP1⟩, bA1⟩, hB1, hB2⟩, hp⟩ ⟨Bx, hBx, bX, rfl⟩ hlt
    dsimp only at bX
    obtain ⟨x1, x2, x3⟩ := bX.cells
    have cP := bP1.cell
    have cA := bA1.cell
    have cR := bR1.cell
    have fR := bR1.frozen
    gi_wp2
    · rename_i e1 e2
      exact ⟨(KeepsOthers.setCell _ _ _).from _, ⟨⟨_, bR1.set _, pre, _, rfl, rfl, hp, decide_eq_true ⟨e1, by simpa using e2⟩⟩, hB1.setCell (p := ⟨w.heap.size + 1 + 1, 0, none⟩) (by show w.heap.size ≤ w.heap.size + 1 + 1; omega) _⟩, rfl⟩
    · rename_i e1 e2
      exact ⟨(KeepsOthers.refl _).from _, Below.refl _ _, ⟨⟨⟨bR1, bP1⟩, bA1⟩, hB1, hB2⟩, fun y hy => (List.mem_append.1 hy).elim (hp y) fun e => by obtain rfl := List.mem_singleton.1 e; exact decide_eq_false fun h => by have h2 := h.2; simp only at h2; simp [h2] at e2⟩
    · rename_i e1
      exact ⟨(KeepsOthers.refl _).from _, Below.refl _ _, ⟨⟨⟨bR1, bP1⟩, bA1⟩, hB1, hB2⟩, fun y hy => (List.mem_append.1 hy).elim (hp y) fun e => by obtain rfl := List.mem_singleton.1 e; exact decide_eq_false fun h => e1 h.1⟩
  case done =>
    rintro D zs' W hD rfl ⟨⟨⟨⟨bR1, bP1⟩, bA1⟩, hB1, hB2⟩, hp⟩ hK
    have cR := bR1.cell
    have fR := bR1.frozen
    gi_wp2
    have hK' := (KeepsOthers.setCell W ⟨w.heap.size + 1 + 1, 0, none⟩ (.int .i64 0)).same D _ hK rfl
    refine ⟨by simp, .inl ⟨_, _, rfl, run_takeDeferred hK', ?_⟩⟩
    have hc5 := cell_kept (World.cell?_setCell_same' W ⟨w.heap.size + 1 + 1, 0, none⟩ (.int .i64 0) (by rw [cR]; rfl)) (grownBy_putObj' _ D (.deferred none)) (fun r e => by cases e; exact ⟨_, hK', rfl⟩)
    refine ⟨.int .i64 0, ?_, by rw [lastR_none hp], (hB1.setCell (p := ⟨w.heap.size + 1 + 1, 0, none⟩) (by show w.heap.size ≤ w.heap.size + 1 + 1; omega) _).trans (belowK_b (w := w) (Nat.le_refl _) _ D _ _ (by omega) hK' rfl rfl)⟩
    simp [results, Try.f27, go_sem, hc5]
  case stop =>
    rintro D c pre W hD ⟨k, hk, hpre⟩ ⟨⟨⟨v, bR1, pre', y, rfl, rfl, h5, h6⟩, hB1⟩, rfl⟩ hK
    have cR := bR1.cell
    gi_wp2
    refine ⟨by simp, .inl ⟨_, _, rfl, run_takeDeferred hK, ?_⟩⟩
    have hc5 := cell_kept cR (grownBy_putObj' _ D (.deferred none)) (fun r e => by cases e; exact ⟨_, hK, rfl⟩)
    refine ⟨.int .i64 y.2.res, ?_, by rw [lastR_some hk hpre h5 h6], hB1.trans (belowK_b (w := w) (Nat.le_refl _) W D _ _ (by omega) hK rfl rfl)⟩
    simp [results, Try.f27, go_sem, hc5]
/-- **degrade.Result(l, path, attr)**: what the report says last; nothing that lay there is turned. -/
theorem result_calls (a : Option Addr) (cap : Nat) (zs : List Item) (hreach : zs.length ≤ 140737488351232) (pt : List UInt8) (at' : Int) (w : World) (hL : ItemsOf w.heap.size w a zs) :
    Calls Try.prog 27 #[.slice a zs.length cap, .string ⟨pt.toArray⟩, .int .i64 at'] w fun e W' => e = .returned (.int .i64 (lastR zs pt at')) ∧ Below w.heap.size w W' :=
  callsIn_wide.1 (result_in Fence.wide 4 trivial trivial trivial rfl (Nat.le_refl _) a cap zs hreach pt at' w hL)
end Go.Proofs.Ytgjlkcdnlndlnaa
/- What a report says of a node: walked. -/
namespace Go.Proofs.Ytgjlkcdnlndlnaa
open Go Go.Proofs.Ytgjlkcdnlndlnaa.Sx F
set_option linter.unusedVariables false
set_option linter.unusedSimpArgs false
def Item.ch (x : Th Item) : AV := .cons (.str fun _ => (x .o).path) (.cons (.int .i64 fun _ => (x .o).attr) (.cons (.int .i64 fun _ => (x .o).res) .nil))
def items (l : Th (List Item)) : AV := .sl 3 (fun _ => (l .o).length) fun i => Item.ch fun _ => (l .o).getD (i .o) Item.z
/-- degrade.Result. -/
theorem degRes_c (l : Th (List Item)) (p : Th (List UInt8)) (a : Th Int) (hl : (l .o).length ≤ 140737488351232) {d : Nat} {K : ARes → BL → Prop} (hr : ∀ n : Th Int, n .o = lastR (l .o) (p .o) (a .o) → K (.ret (.int .i64 n)) .nil) :
    CallAt PT 27 [items l, .str p, .int .i64 a] d .nil K := by
  refine CallAt.of_below (by kernel_rfl) fun E vs hb hv => ?_
  obtain ⟨v1, r1, rfl, h1, v2, r2, rfl, h2, v3, r3, rfl, h3, rfl⟩ : ∃ v1 r1, vs = v1 :: r1 ∧ Rp E (items l) v1 ∧ ∃ v2 r2, r1 = v2 :: r2 ∧ Rp E (.str p) v2 ∧ ∃ v3 r3, r2 = v3 :: r3 ∧ Rp E (.int .i64 a) v3 ∧ r3 = [] := hv
  obtain rfl : v2 = .string ⟨(p .o).toArray⟩ := h2
  obtain rfl : v3 = .int .i64 (a .o) := h3
  obtain ⟨ad, cap, rfl, hcap, hc⟩ : ∃ ad cap, v1 = .slice ad (l .o).length cap ∧ (l .o).length ≤ cap ∧ ∀ i, i < (l .o).length → ((Item.ch fun _ => (l .o).getD i Item.z).okE ∧ (Item.ch fun _ => (l .o).getD i Item.z).len = 3) ∧ ∃ b o, ad = some ⟨b, o, none⟩ ∧ MemC E (Item.ch fun _ => (l .o).getD i Item.z) b (o + i * 3) := h1
  refine (result_calls ad cap (l .o) hl (p .o) (a .o) E.w fun hz => ?_).mono ?_
  · obtain ⟨_, b, o, rfl, hm⟩ := hc 0 (by omega)
    refine ⟨b, o, rfl, ?_, fun j hj => ?_⟩
    · obtain ⟨⟨v, _, hi, _⟩, _⟩ := hm
      exact hb _ _ hi
    · obtain ⟨_, b', o', e, hm'⟩ := hc j hj
      cases e
      obtain ⟨⟨u1, k1, _, q1⟩, ⟨u2, k2, _, q2⟩, ⟨u3, k3, _, q3⟩, _⟩ := hm'
      obtain rfl : u1 = .string ⟨((l .o).getD j Item.z).path.toArray⟩ := q1
      obtain rfl : u2 = .int .i64 ((l .o).getD j Item.z).attr := q2
      obtain rfl : u3 = .int .i64 ((l .o).getD j Item.z).res := q3
      simp only [List.getD_eq_getElem?_getD] at k1 k2 k3
      exact ⟨k1, k2, k3⟩
  · rintro e w' ⟨rfl, hbl⟩
    exact ⟨.ret (.int .i64 fun _ => lastR (l .o) (p .o) (a .o)), rfl, rfl, hr _ rfl, hbl⟩
/-- What the teller holds. -/
def Teller.av (e : Th Entry) (c : Th Cred) (l : Th (List Item)) : AV := .agg ((Entry.ch e).app ((Cred.ch c).app (.cons (items l) .nil)))
theorem is_c (e : Th Entry) (c : Th Cred) (l : Th (List Item)) (a r : Th Int) (hl : (l .o).length ≤ 140737488351232) {d : Nat} {K : ARes → BL → Prop} (hr : ∀ b : Th Bool, b .o = decide (lastR (l .o) (e .o).path (a .o) = r .o) → K (.ret (.bool b)) .nil) :
    CallAt PT degrade_teller_is [Teller.av e c l, .int .i64 a, .int .i64 r] d .nil K := by
  refine degrade_teller_is.of rfl rfl ?_
  cbv
  refine degRes_c l (fun _ => (e .o).path) a hl fun n hn => ?_
  cbv
  exact hr _ (by show decide (n .o = r .o) = _; rw [hn])
theorem cloneA_c (l : Th (List Ace)) (hl : (l .o).length * 24 ≤ 140737488355328) {d : Nat} {K : ARes → BL → Prop} (hr : ∀ r : Th (List Ace), r .o = l .o → K (.ret (aces r)) .nil) : CallAt PT slices_Clone_api_Ace_api_Ace [aces l] d .nil K := by
  refine CallAt.res ?_
  refine slices_Clone_api_Ace_api_Ace.of rfl rfl ?_
  cbv
  intro b hb
  cbv
  refine br_bool (fun h1 => ?_) (fun h1 => ?_)
  · cbv
    exact ⟨_, .ret (y := aces fun _ => []) (.nsl rfl), hr _ (List.eq_nil_of_length_eq_zero (hb h1)).symm⟩
  · cbv
    refine app_rows0 Ace.ch Ace.z (l .o) rfl rfl (fun i hi => rfl) hl ?_
    cbv
    exact ⟨_, .ret (Same.refl _), hr l rfl⟩
theorem cloneX_c (l : Th (List Xattr)) (hl : (l .o).length * 32 ≤ 140737488355328) {d : Nat} {K : ARes → BL → Prop} (hr : ∀ r : Th (List Xattr), r .o = l .o → K (.ret (xattrs r)) .nil) : CallAt PT slices_Clone_api_Xattr_api_Xattr [xattrs l] d .nil K := by
  refine CallAt.res ?_
  refine slices_Clone_api_Xattr_api_Xattr.of rfl rfl ?_
  cbv
  intro b hb
  cbv
  refine br_bool (fun h1 => ?_) (fun h1 => ?_)
  · cbv
    exact ⟨_, .ret (y := xattrs fun _ => []) (.nsl rfl), hr _ (List.eq_nil_of_length_eq_zero (hb h1)).symm⟩
  · cbv
    refine app_rows0 Xattr.ch Xattr.z (l .o) rfl rfl (fun i hi => rfl) hl ?_
    cbv
    exact ⟨_, .ret (Same.refl _), hr l rfl⟩
/-- The mode of what a report tells. -/
def stageS (k : Int) : Int := if k = 6 then 448 else if k = 3 then 511 else 0
def tmodeS (e : Entry) (c : Cred) (l : List Item) : Int :=
  if e.kind = 3 then 511 else if lastR l e.path 3 = 2 then modeS (LessS e.mt) e.mt false
  else if ¬ lastR l e.path 3 = 1 then (if lastR l e.path 10 = 1 then 0 else stageS e.kind)
  else if e.kind = 1 ∧ inS c e.mt.gid = false ∧ band c.powers 4 = 0 then bnot (if lastR l e.path 4 = 1 then e.mt.mode else modeS (LessS e.mt) e.mt true) 1024
  else if lastR l e.path 4 = 1 then e.mt.mode else modeS (LessS e.mt) e.mt true
structure TellOk (e : Entry) (c : Cred) (l : List Item) : Prop where
  acl : short e.mt.acl
  grp : short c.groups
  len : l.length ≤ 140737488351232
theorem tmode_c (e : Th Entry) (c : Th Cred) (l : Th (List Item)) (h : TellOk (e .o) (c .o) (l .o)) {d : Nat} {K : ARes → BL → Prop} (hr : ∀ n : Th Int, n .o = tmodeS (e .o) (c .o) (l .o) → K (.ret (.int .i64 n)) .nil) :
    CallAt PT degrade_teller_mode [Teller.av e c l] d .nil K := by
  refine degrade_teller_mode.of rfl rfl ?_
  cbv
  refine br_dec (fun h1 => ?_) (fun h1 => ?_)
  · cbv
    exact hr _ (by unfold tmodeS; rw [if_pos h1])
  cbv
  refine is_c e c l (fun _ => 3) (fun _ => 2) h.len fun b hb => ?_
  cbv
  refine br_bool (fun h2 => ?_) (fun h2 => ?_)
  · rw [hb] at h2
    have h2 := of_decide_eq_true h2
    cbv
    refine pmode_ff (fun _ => (e .o).mt) fun n hn => ?_
    cbv
    exact hr _ (by unfold tmodeS; rw [if_neg h1, if_pos h2]; exact hn)
  rw [hb] at h2
  have h2 := of_decide_eq_false h2
  cbv
  refine is_c e c l (fun _ => 3) (fun _ => 1) h.len fun b hb => ?_
  cbv
  refine br_nbool (fun h3 => ?_) (fun h3 => ?_)
  · rw [hb] at h3
    have h3 := of_decide_eq_false h3
    cbv
    refine is_c e c l (fun _ => 10) (fun _ => 1) h.len fun b hb => ?_
    cbv
    refine br_bool (fun h4 => ?_) (fun h4 => ?_)
    · rw [hb] at h4
      have h4 := of_decide_eq_true h4
      cbv
      exact hr _ (by unfold tmodeS; rw [if_neg h1, if_neg h2, if_pos h3, if_pos h4])
    · rw [hb] at h4
      have h4 := of_decide_eq_false h4
      cbv
      refine stage_c (fun _ => (e .o).kind) fun n hn => ?_
      cbv
      exact hr _ (by unfold tmodeS; rw [if_neg h1, if_neg h2, if_pos h3, if_neg h4]; exact hn)
  rw [hb] at h3
  have h3 := of_decide_eq_true h3
  cbv
  refine pmode_tt (fun _ => (e .o).mt) h.acl fun n hn => ?_
  cbv
  refine is_c e c l (fun _ => 4) (fun _ => 1) h.len fun b hb => ?_
  cbv
  have hn' : n .o = modeS (LessS (e .o).mt) (e .o).mt true := hn
  refine br_bool (fun h4 => ?_) (fun h4 => ?_)
  all_goals
    rw [hb] at h4
    simp only [decide_eq_true_eq, decide_eq_false_iff_not] at h4
    cbv
    refine br_dec (fun h5 => ?_) (fun h5 => ?_)
    · have h5 : (e .o).kind = 1 := h5
      cbv
      refine in_c c (fun _ => (e .o).mt.gid) h.grp fun b6 hb6 => ?_
      cbv
      refine br_nbool (fun h6 => ?_) (fun h6 => ?_)
      · rw [hb6] at h6
        cbv
        refine br_dec (fun h7 => ?_) (fun h7 => ?_)
        · have h7 : band (c .o).powers 4 = 0 := h7
          cbv
          exact hr _ (by unfold tmodeS; rw [if_neg h1, if_neg h2, if_neg (fun q : ¬ _ => q h3), if_pos ⟨h5, h6, h7⟩, ← hn']; first | (rw [if_pos h4]; rfl) | (rw [if_neg h4]; rfl))
        · have h7 : ¬ band (c .o).powers 4 = 0 := h7
          cbv
          exact hr _ (by unfold tmodeS; rw [if_neg h1, if_neg h2, if_neg (fun q : ¬ _ => q h3), if_neg (fun q => h7 q.2.2), ← hn']; first | rw [if_pos h4] | rw [if_neg h4])
      · rw [hb6] at h6
        cbv
        exact hr _ (by unfold tmodeS; rw [if_neg h1, if_neg h2, if_neg (fun q : ¬ _ => q h3), if_neg (fun q => by rw [q.2.1] at h6; cases h6), ← hn']; first | rw [if_pos h4] | rw [if_neg h4])
    · have h5 : ¬ (e .o).kind = 1 := h5
      cbv
      exact hr _ (by unfold tmodeS; rw [if_neg h1, if_neg h2, if_neg (fun q : ¬ _ => q h3), if_neg (fun q => h5 q.1), ← hn']; first | rw [if_pos h4] | rw [if_neg h4])
def putOwner (e : Entry) (m : Meta) : Meta := { m with uid := e.mt.uid, gid := e.mt.gid }
def putAcl (e : Entry) (m : Meta) : Meta := { m with acl := e.mt.acl }
def putDflt (e : Entry) (m : Meta) : Meta := { m with dflt := e.mt.dflt }
def putXs (l : List Xattr) (m : Meta) : Meta := { m with xs := l }
def putCaps (e : Entry) (m : Meta) : Meta := { m with caps := e.mt.caps }
def putTime (e : Entry) (m : Meta) : Meta := { m with sec := e.mt.sec, nano := e.mt.nano }
def putFlags (f : Int) (m : Meta) : Meta := { m with flags := f }
def deg0 (e : Entry) (c : Cred) (l : List Item) : Meta := { metaZ with mode := tmodeS e c l, uid := c.uid, gid := c.gid }
def deg1 (e : Entry) (c : Cred) (l : List Item) : Meta := if lastR l e.path 2 = 1 then putOwner e (deg0 e c l) else deg0 e c l
def deg2 (e : Entry) (c : Cred) (l : List Item) : Meta := if lastR l e.path 4 = 1 then putAcl e (deg1 e c l) else deg1 e c l
def deg3 (e : Entry) (c : Cred) (l : List Item) : Meta := if lastR l e.path 5 = 1 then putDflt e (deg2 e c l) else deg2 e c l
def deg4 (e : Entry) (c : Cred) (l : List Item) : Meta := if lastR l e.path 6 = 1 then putXs e.mt.xs (deg3 e c l) else if lastR l e.path 6 = 2 then putXs (fewerS e.mt.xs) (deg3 e c l) else deg3 e c l
def deg5 (e : Entry) (c : Cred) (l : List Item) : Meta := if lastR l e.path 7 = 1 then putCaps e (deg4 e c l) else deg4 e c l
def deg6 (e : Entry) (c : Cred) (l : List Item) : Meta := if lastR l e.path 8 = 1 then putTime e (deg5 e c l) else deg5 e c l
def degS (e : Entry) (c : Cred) (l : List Item) : Meta := if lastR l e.path 9 = 1 then putFlags e.mt.flags (deg6 e c l) else if lastR l e.path 9 = 2 then putFlags (band e.mt.flags 12) (deg6 e c l) else deg6 e c l
structure DegOk (e : Entry) (c : Cred) (l : List Item) : Prop extends TellOk e c l where
  acl24 : e.mt.acl.length * 24 ≤ 140737488355328
  dflt24 : e.mt.dflt.length * 24 ≤ 140737488355328
  xs : e.mt.xs.length ≤ 1000
theorem deg_c (e : Th Entry) (c : Th Cred) (l : Th (List Item)) (h : DegOk (e .o) (c .o) (l .o)) {d : Nat} {K : ARes → BL → Prop} (hr : ∀ m : Th Meta, m .o = degS (e .o) (c .o) (l .o) → K (.ret (Meta.av m)) .nil) :
    CallAt PT degrade_Meta [Entry.av e, Cred.av c, items l] d .nil K := by
  refine CallAt.res ?_
  refine degrade_Meta.of rfl rfl ?_
  cbv
  refine tmode_c e c l h.toTellOk fun n hn => ?_
  cbv
  have q1 : ∀ {p : Prop} [Decidable p] (a b : Meta), p → (if p then a else b) = a := fun _ _ q => if_pos q
  refine cut_rule (X := Unit) 1000 1000 [6, 7, 8, 9] [6, 7, 8] (fun _ => .nil) (fun _ => .cons 9 (.cells (Meta.ch fun _ => deg1 (e .o) (c .o) (l .o))) .nil) (fun _ => True) ?_ fun _ _ => ?_
  · cbv
    refine is_c e c l (fun _ => 2) (fun _ => 1) h.len fun b hb => ?_
    cbv
    refine br_bool (fun h1 => ?_) (fun h1 => ?_)
    · have e1 : deg1 (e .o) (c .o) (l .o) = putOwner (e .o) (deg0 (e .o) (c .o) (l .o)) := if_pos (by rw [hb] at h1; exact of_decide_eq_true h1)
      cbv
      refine ⟨(), trivial, ?_⟩
      cbv
      rw [e1]
      (repeat' (first | exact True.intro | exact Same.refl _ | exact SameB.refl _ | exact ⟨rfl⟩ | exact Same.int rfl | exact Same.str rfl | exact Same.bool rfl | (refine Same.int ?_; simp only [List.length_append, List.length_cons, List.length_nil, zi]; omega) | (refine SameB.row' rfl fun i hi => ?_; first | rfl | exact absurd hi (Nat.not_lt_zero _)) | refine And.intro ?_ ?_ | refine SameB.cells ?_ | exact SameC.nil | refine SameC.cons ?_ ?_ | exact Same.nsl rfl | exact Same.tt rfl | exact Same.ff rfl))
      all_goals exact Same.int hn
    · have e1 : deg1 (e .o) (c .o) (l .o) = deg0 (e .o) (c .o) (l .o) := if_neg (by rw [hb] at h1; exact of_decide_eq_false h1)
      cbv
      refine ⟨(), trivial, ?_⟩
      cbv
      rw [e1]
      (repeat' (first | exact True.intro | exact Same.refl _ | exact SameB.refl _ | exact ⟨rfl⟩ | exact Same.int rfl | exact Same.str rfl | exact Same.bool rfl | (refine Same.int ?_; simp only [List.length_append, List.length_cons, List.length_nil, zi]; omega) | (refine SameB.row' rfl fun i hi => ?_; first | rfl | exact absurd hi (Nat.not_lt_zero _)) | refine And.intro ?_ ?_ | refine SameB.cells ?_ | exact SameC.nil | refine SameC.cons ?_ ?_ | exact Same.nsl rfl | exact Same.tt rfl | exact Same.ff rfl))
      all_goals exact Same.int hn
  cbv
  refine cut_rule (X := Unit) 1000 1000 [6, 7, 8, 9] [6, 7, 8] (fun _ => .nil) (fun _ => .cons 9 (.cells (Meta.ch fun _ => deg2 (e .o) (c .o) (l .o))) .nil) (fun _ => True) ?_ fun _ _ => ?_
  · cbv
    refine is_c e c l (fun _ => 4) (fun _ => 1) h.len fun b hb => ?_
    cbv
    refine br_bool (fun h1 => ?_) (fun h1 => ?_)
    · have e1 : deg2 (e .o) (c .o) (l .o) = putAcl (e .o) (deg1 (e .o) (c .o) (l .o)) := if_pos (by rw [hb] at h1; exact of_decide_eq_true h1)
      cbv
      refine cloneA_c (fun _ => (e .o).mt.acl) h.acl24 fun q hq => ?_
      cbv
      refine ⟨(), trivial, ?_⟩
      cbv
      rw [e1]
      rw [hq]
      (repeat' (first | exact True.intro | exact Same.refl _ | exact SameB.refl _ | exact ⟨rfl⟩ | exact Same.int rfl | exact Same.str rfl | exact Same.bool rfl | (refine Same.int ?_; simp only [List.length_append, List.length_cons, List.length_nil, zi]; omega) | (refine SameB.row' rfl fun i hi => ?_; first | rfl | exact absurd hi (Nat.not_lt_zero _)) | refine And.intro ?_ ?_ | refine SameB.cells ?_ | exact SameC.nil | refine SameC.cons ?_ ?_ | exact Same.nsl rfl | exact Same.tt rfl | exact Same.ff rfl))
    · have e1 : deg2 (e .o) (c .o) (l .o) = deg1 (e .o) (c .o) (l .o) := if_neg (by rw [hb] at h1; exact of_decide_eq_false h1)
      cbv
      refine ⟨(), trivial, ?_⟩
      cbv
      rw [e1]
      (repeat' (first | exact True.intro | exact Same.refl _ | exact SameB.refl _ | exact ⟨rfl⟩ | exact Same.int rfl | exact Same.str rfl | exact Same.bool rfl | (refine Same.int ?_; simp only [List.length_append, List.length_cons, List.length_nil, zi]; omega) | (refine SameB.row' rfl fun i hi => ?_; first | rfl | exact absurd hi (Nat.not_lt_zero _)) | refine And.intro ?_ ?_ | refine SameB.cells ?_ | exact SameC.nil | refine SameC.cons ?_ ?_ | exact Same.nsl rfl | exact Same.tt rfl | exact Same.ff rfl))
  cbv
  refine cut_rule (X := Unit) 1000 1000 [6, 7, 8, 9] [6, 7, 8] (fun _ => .nil) (fun _ => .cons 9 (.cells (Meta.ch fun _ => deg3 (e .o) (c .o) (l .o))) .nil) (fun _ => True) ?_ fun _ _ => ?_
  · cbv
    refine is_c e c l (fun _ => 5) (fun _ => 1) h.len fun b hb => ?_
    cbv
    refine br_bool (fun h1 => ?_) (fun h1 => ?_)
    · have e1 : deg3 (e .o) (c .o) (l .o) = putDflt (e .o) (deg2 (e .o) (c .o) (l .o)) := if_pos (by rw [hb] at h1; exact of_decide_eq_true h1)
      cbv
      refine cloneA_c (fun _ => (e .o).mt.dflt) h.dflt24 fun q hq => ?_
      cbv
      refine ⟨(), trivial, ?_⟩
      cbv
      rw [e1]
      rw [hq]
      (repeat' (first | exact True.intro | exact Same.refl _ | exact SameB.refl _ | exact ⟨rfl⟩ | exact Same.int rfl | exact Same.str rfl | exact Same.bool rfl | (refine Same.int ?_; simp only [List.length_append, List.length_cons, List.length_nil, zi]; omega) | (refine SameB.row' rfl fun i hi => ?_; first | rfl | exact absurd hi (Nat.not_lt_zero _)) | refine And.intro ?_ ?_ | refine SameB.cells ?_ | exact SameC.nil | refine SameC.cons ?_ ?_ | exact Same.nsl rfl | exact Same.tt rfl | exact Same.ff rfl))
    · have e1 : deg3 (e .o) (c .o) (l .o) = deg2 (e .o) (c .o) (l .o) := if_neg (by rw [hb] at h1; exact of_decide_eq_false h1)
      cbv
      refine ⟨(), trivial, ?_⟩
      cbv
      rw [e1]
      (repeat' (first | exact True.intro | exact Same.refl _ | exact SameB.refl _ | exact ⟨rfl⟩ | exact Same.int rfl | exact Same.str rfl | exact Same.bool rfl | (refine Same.int ?_; simp only [List.length_append, List.length_cons, List.length_nil, zi]; omega) | (refine SameB.row' rfl fun i hi => ?_; first | rfl | exact absurd hi (Nat.not_lt_zero _)) | refine And.intro ?_ ?_ | refine SameB.cells ?_ | exact SameC.nil | refine SameC.cons ?_ ?_ | exact Same.nsl rfl | exact Same.tt rfl | exact Same.ff rfl))
  cbv
  refine cut_rule (X := Unit) 1000 1000 [6, 7, 8, 9] [6, 7, 8] (fun _ => .nil) (fun _ => .cons 9 (.cells (Meta.ch fun _ => deg4 (e .o) (c .o) (l .o))) .nil) (fun _ => True) ?_ fun _ _ => ?_
  · cbv
    refine is_c e c l (fun _ => 6) (fun _ => 1) h.len fun b hb => ?_
    cbv
    refine br_bool (fun h1 => ?_) (fun h1 => ?_)
    · have e1 : deg4 (e .o) (c .o) (l .o) = putXs (e .o).mt.xs (deg3 (e .o) (c .o) (l .o)) := if_pos (by rw [hb] at h1; exact of_decide_eq_true h1)
      cbv
      refine cloneX_c (fun _ => (e .o).mt.xs) (by have := h.xs; omega) fun q hq => ?_
      cbv
      refine ⟨(), trivial, ?_⟩
      cbv
      rw [e1]
      rw [hq]
      (repeat' (first | exact True.intro | exact Same.refl _ | exact SameB.refl _ | exact ⟨rfl⟩ | exact Same.int rfl | exact Same.str rfl | exact Same.bool rfl | (refine Same.int ?_; simp only [List.length_append, List.length_cons, List.length_nil, zi]; omega) | (refine SameB.row' rfl fun i hi => ?_; first | rfl | exact absurd hi (Nat.not_lt_zero _)) | refine And.intro ?_ ?_ | refine SameB.cells ?_ | exact SameC.nil | refine SameC.cons ?_ ?_ | exact Same.nsl rfl | exact Same.tt rfl | exact Same.ff rfl))
    · have h1 : ¬ lastR (l .o) (e .o).path 6 = 1 := by rw [hb] at h1; exact of_decide_eq_false h1
      cbv
      refine is_c e c l (fun _ => 6) (fun _ => 2) h.len fun b hb => ?_
      cbv
      refine br_bool (fun h2 => ?_) (fun h2 => ?_)
      · have e1 : deg4 (e .o) (c .o) (l .o) = putXs (fewerS (e .o).mt.xs) (deg3 (e .o) (c .o) (l .o)) := (if_neg h1).trans (if_pos (by rw [hb] at h2; exact of_decide_eq_true h2))
        cbv
        refine fewer_c (fun _ => (e .o).mt.xs) h.xs fun q hq => ?_
        cbv
        refine ⟨(), trivial, ?_⟩
        cbv
        rw [e1]
        rw [hq]
        (repeat' (first | exact True.intro | exact Same.refl _ | exact SameB.refl _ | exact ⟨rfl⟩ | exact Same.int rfl | exact Same.str rfl | exact Same.bool rfl | (refine Same.int ?_; simp only [List.length_append, List.length_cons, List.length_nil, zi]; omega) | (refine SameB.row' rfl fun i hi => ?_; first | rfl | exact absurd hi (Nat.not_lt_zero _)) | refine And.intro ?_ ?_ | refine SameB.cells ?_ | exact SameC.nil | refine SameC.cons ?_ ?_ | exact Same.nsl rfl | exact Same.tt rfl | exact Same.ff rfl))
      · have e1 : deg4 (e .o) (c .o) (l .o) = deg3 (e .o) (c .o) (l .o) := (if_neg h1).trans (if_neg (by rw [hb] at h2; exact of_decide_eq_false h2))
        cbv
        refine ⟨(), trivial, ?_⟩
        cbv
        rw [e1]
        (repeat' (first | exact True.intro | exact Same.refl _ | exact SameB.refl _ | exact ⟨rfl⟩ | exact Same.int rfl | exact Same.str rfl | exact Same.bool rfl | (refine Same.int ?_; simp only [List.length_append, List.length_cons, List.length_nil, zi]; omega) | (refine SameB.row' rfl fun i hi => ?_; first | rfl | exact absurd hi (Nat.not_lt_zero _)) | refine And.intro ?_ ?_ | refine SameB.cells ?_ | exact SameC.nil | refine SameC.cons ?_ ?_ | exact Same.nsl rfl | exact Same.tt rfl | exact Same.ff rfl))
  cbv
  refine cut_rule (X := Unit) 1000 1000 [6, 7, 8, 9] [6, 7, 8] (fun _ => .nil) (fun _ => .cons 9 (.cells (Meta.ch fun _ => deg5 (e .o) (c .o) (l .o))) .nil) (fun _ => True) ?_ fun _ _ => ?_
  · cbv
    refine is_c e c l (fun _ => 7) (fun _ => 1) h.len fun b hb => ?_
    cbv
    refine br_bool (fun h1 => ?_) (fun h1 => ?_)
    · have e1 : deg5 (e .o) (c .o) (l .o) = putCaps (e .o) (deg4 (e .o) (c .o) (l .o)) := if_pos (by rw [hb] at h1; exact of_decide_eq_true h1)
      cbv
      refine ⟨(), trivial, ?_⟩
      cbv
      rw [e1]
      (repeat' (first | exact True.intro | exact Same.refl _ | exact SameB.refl _ | exact ⟨rfl⟩ | exact Same.int rfl | exact Same.str rfl | exact Same.bool rfl | (refine Same.int ?_; simp only [List.length_append, List.length_cons, List.length_nil, zi]; omega) | (refine SameB.row' rfl fun i hi => ?_; first | rfl | exact absurd hi (Nat.not_lt_zero _)) | refine And.intro ?_ ?_ | refine SameB.cells ?_ | exact SameC.nil | refine SameC.cons ?_ ?_ | exact Same.nsl rfl | exact Same.tt rfl | exact Same.ff rfl))
    · have e1 : deg5 (e .o) (c .o) (l .o) = deg4 (e .o) (c .o) (l .o) := if_neg (by rw [hb] at h1; exact of_decide_eq_false h1)
      cbv
      refine ⟨(), trivial, ?_⟩
      cbv
      rw [e1]
      (repeat' (first | exact True.intro | exact Same.refl _ | exact SameB.refl _ | exact ⟨rfl⟩ | exact Same.int rfl | exact Same.str rfl | exact Same.bool rfl | (refine Same.int ?_; simp only [List.length_append, List.length_cons, List.length_nil, zi]; omega) | (refine SameB.row' rfl fun i hi => ?_; first | rfl | exact absurd hi (Nat.not_lt_zero _)) | refine And.intro ?_ ?_ | refine SameB.cells ?_ | exact SameC.nil | refine SameC.cons ?_ ?_ | exact Same.nsl rfl | exact Same.tt rfl | exact Same.ff rfl))
  cbv
  refine cut_rule (X := Unit) 1000 1000 [6, 7, 8, 9] [6, 7, 8] (fun _ => .nil) (fun _ => .cons 9 (.cells (Meta.ch fun _ => deg6 (e .o) (c .o) (l .o))) .nil) (fun _ => True) ?_ fun _ _ => ?_
  · cbv
    refine is_c e c l (fun _ => 8) (fun _ => 1) h.len fun b hb => ?_
    cbv
    refine br_bool (fun h1 => ?_) (fun h1 => ?_)
    · have e1 : deg6 (e .o) (c .o) (l .o) = putTime (e .o) (deg5 (e .o) (c .o) (l .o)) := if_pos (by rw [hb] at h1; exact of_decide_eq_true h1)
      cbv
      refine ⟨(), trivial, ?_⟩
      cbv
      rw [e1]
      (repeat' (first | exact True.intro | exact Same.refl _ | exact SameB.refl _ | exact ⟨rfl⟩ | exact Same.int rfl | exact Same.str rfl | exact Same.bool rfl | (refine Same.int ?_; simp only [List.length_append, List.length_cons, List.length_nil, zi]; omega) | (refine SameB.row' rfl fun i hi => ?_; first | rfl | exact absurd hi (Nat.not_lt_zero _)) | refine And.intro ?_ ?_ | refine SameB.cells ?_ | exact SameC.nil | refine SameC.cons ?_ ?_ | exact Same.nsl rfl | exact Same.tt rfl | exact Same.ff rfl))
    · have e1 : deg6 (e .o) (c .o) (l .o) = deg5 (e .o) (c .o) (l .o) := if_neg (by rw [hb] at h1; exact of_decide_eq_false h1)
      cbv
      refine ⟨(), trivial, ?_⟩
      cbv
      rw [e1]
      (repeat' (first | exact True.intro | exact Same.refl _ | exact SameB.refl _ | exact ⟨rfl⟩ | exact Same.int rfl | exact Same.str rfl | exact Same.bool rfl | (refine Same.int ?_; simp only [List.length_append, List.length_cons, List.length_nil, zi]; omega) | (refine SameB.row' rfl fun i hi => ?_; first | rfl | exact absurd hi (Nat.not_lt_zero _)) | refine And.intro ?_ ?_ | refine SameB.cells ?_ | exact SameC.nil | refine SameC.cons ?_ ?_ | exact Same.nsl rfl | exact Same.tt rfl | exact Same.ff rfl))
  cbv
  refine cut_rule (X := Unit) 1000 1000 [6, 7, 8, 9] [6, 7, 8] (fun _ => .nil) (fun _ => .cons 9 (.cells (Meta.ch fun _ => degS (e .o) (c .o) (l .o))) .nil) (fun _ => True) ?_ fun _ _ => ?_
  · cbv
    refine is_c e c l (fun _ => 9) (fun _ => 1) h.len fun b hb => ?_
    cbv
    refine br_bool (fun h1 => ?_) (fun h1 => ?_)
    · have e1 : degS (e .o) (c .o) (l .o) = putFlags (e .o).mt.flags (deg6 (e .o) (c .o) (l .o)) := if_pos (by rw [hb] at h1; exact of_decide_eq_true h1)
      cbv
      refine ⟨(), trivial, ?_⟩
      cbv
      rw [e1]

      (repeat' (first | exact True.intro | exact Same.refl _ | exact SameB.refl _ | exact ⟨rfl⟩ | exact Same.int rfl | exact Same.str rfl | exact Same.bool rfl | (refine Same.int ?_; simp only [List.length_append, List.length_cons, List.length_nil, zi]; omega) | (refine SameB.row' rfl fun i hi => ?_; first | rfl | exact absurd hi (Nat.not_lt_zero _)) | refine And.intro ?_ ?_ | refine SameB.cells ?_ | exact SameC.nil | refine SameC.cons ?_ ?_ | exact Same.nsl rfl | exact Same.tt rfl | exact Same.ff rfl))
    · have h1 : ¬ lastR (l .o) (e .o).path 9 = 1 := by rw [hb] at h1; exact of_decide_eq_false h1
      cbv
      refine is_c e c l (fun _ => 9) (fun _ => 2) h.len fun b hb => ?_
      cbv
      refine br_bool (fun h2 => ?_) (fun h2 => ?_)
      · have e1 : degS (e .o) (c .o) (l .o) = putFlags (band (e .o).mt.flags 12) (deg6 (e .o) (c .o) (l .o)) := (if_neg h1).trans (if_pos (by rw [hb] at h2; exact of_decide_eq_true h2))
        cbv
        refine ⟨(), trivial, ?_⟩
        cbv
        rw [e1]

        (repeat' (first | exact True.intro | exact Same.refl _ | exact SameB.refl _ | exact ⟨rfl⟩ | exact Same.int rfl | exact Same.str rfl | exact Same.bool rfl | (refine Same.int ?_; simp only [List.length_append, List.length_cons, List.length_nil, zi]; omega) | (refine SameB.row' rfl fun i hi => ?_; first | rfl | exact absurd hi (Nat.not_lt_zero _)) | refine And.intro ?_ ?_ | refine SameB.cells ?_ | exact SameC.nil | refine SameC.cons ?_ ?_ | exact Same.nsl rfl | exact Same.tt rfl | exact Same.ff rfl))
      · have e1 : degS (e .o) (c .o) (l .o) = deg6 (e .o) (c .o) (l .o) := (if_neg h1).trans (if_neg (by rw [hb] at h2; exact of_decide_eq_false h2))
        cbv
        refine ⟨(), trivial, ?_⟩
        cbv
        rw [e1]
        (repeat' (first | exact True.intro | exact Same.refl _ | exact SameB.refl _ | exact ⟨rfl⟩ | exact Same.int rfl | exact Same.str rfl | exact Same.bool rfl | (refine Same.int ?_; simp only [List.length_append, List.length_cons, List.length_nil, zi]; omega) | (refine SameB.row' rfl fun i hi => ?_; first | rfl | exact absurd hi (Nat.not_lt_zero _)) | refine And.intro ?_ ?_ | refine SameB.cells ?_ | exact SameC.nil | refine SameC.cons ?_ ?_ | exact Same.nsl rfl | exact Same.tt rfl | exact Same.ff rfl))
  cbv
  exact ⟨_, .ret (y := Meta.av fun _ => degS (e .o) (c .o) (l .o)) (Same.refl _), hr _ rfl⟩
end Go.Proofs.Ytgjlkcdnlndlnaa
/- What the document's report says of a node: walked; sameness of what is said of nodes. -/
namespace Go.Proofs.Ytgjlkcdnlndlnaa
open Go Go.Proofs.Ytgjlkcdnlndlnaa.Sx F
set_option linter.unusedVariables false
set_option linter.unusedSimpArgs false
def putMode (n : Int) (m : Meta) : Meta := { m with mode := n }
def g0 (c : Cred) : Meta := { metaZ with uid := c.uid, gid := c.gid }
def g1 (e : Entry) (c : Cred) (l : List Item) : Meta := if lastR l e.path 2 = 1 then putOwner e (g0 c) else g0 c
def modeD (e : Entry) (c : Cred) (l : List Item) : Int :=
  if lastR l e.path 3 = 1 then (if e.kind = 1 ∧ inS c e.mt.gid = false ∧ band c.powers 4 = 0 then bnot (if lastR l e.path 4 = 1 then e.mt.mode else modeS (LessS e.mt) e.mt true) 1024 else if lastR l e.path 4 = 1 then e.mt.mode else modeS (LessS e.mt) e.mt true)
  else if lastR l e.path 3 = 2 then modeS (LessS e.mt) e.mt false else if lastR l e.path 10 = 1 then 0 else stageS e.kind
def g2 (e : Entry) (c : Cred) (l : List Item) : Meta := putMode (modeD e c l) (g1 e c l)
structure Deg21Ok (e : Entry) (c : Cred) (l : List Item) : Prop extends DegOk e c l where
  less : Less9 e.mt = LessS e.mt
  flags : bnot e.mt.flags 3 = band e.mt.flags 12
end Go.Proofs.Ytgjlkcdnlndlnaa
/- Sameness of what is said of nodes. -/
namespace Go.Proofs.Ytgjlkcdnlndlnaa
open Go Go.Proofs.Ytgjlkcdnlndlnaa.Sx F
set_option linter.unusedVariables false
set_option linter.unusedSimpArgs false
theorem sameA_c (a b : Th (List Ace)) (ha : short (a .o)) {d : Nat} {K : ARes → BL → Prop} (hr : ∀ r : Th Bool, (r .o = true ↔ a .o = b .o) → K (.ret (.bool r)) .nil) : CallAt PT r9_SameAcl [aces a, aces b] d .nil K := by
  refine CallAt.res ?_
  refine r9_SameAcl.of rfl rfl ?_
  cbv
  have no : ∀ {x : AV}, a .o ≠ b .o → Same x (.bool fun _ => false) → ∃ r', SameR (.ret x) r' ∧ K r' .nil := fun h1 h2 => ⟨_, .ret h2, hr _ ⟨fun q => (by cases q), fun q => (h1 q).elim⟩⟩
  refine br_ndec (fun h1 => ?_) (fun h1 => ?_)
  · cbv
    exact no (fun q => h1 (by rw [q])) (.ff rfl)
  · have h1 : (a .o).length = (b .o).length := zi_inj.1 h1
    cbv
    refine loop_rule (X := Nat) 1000 [0, 1] [] (fun k => .cons 5 (.int .i64 fun _ => zi k) .nil) (fun _ => .nil) (fun k => k ≤ (a .o).length ∧ ∀ j, j < k → (a .o).getD j Ace.z = (b .o).getD j Ace.z) (fun k => (a .o).length - k) 0 ?_ ⟨Nat.zero_le _, fun j hj => by omega⟩ ?_
    · cbv
      (repeat' (first | exact True.intro | exact Same.refl _ | exact SameB.refl _ | exact ⟨rfl⟩ | exact Same.int rfl | exact Same.str rfl | exact Same.bool rfl | (refine Same.int ?_; simp only [List.length_append, List.length_cons, List.length_nil, zi]; omega) | (refine SameB.row' rfl fun i hi => ?_; first | rfl | exact absurd hi (Nat.not_lt_zero _)) | refine And.intro ?_ ?_ | refine SameB.cells ?_ | exact SameC.nil | refine SameC.cons ?_ ?_ | exact Same.nsl rfl | exact Same.tt rfl | exact Same.ff rfl))
    · rintro k ⟨hk, heq⟩
      have hz := zi_toNat k
      cbv
      ((try refine br_rev ?_); (first | refine br_dec (fun h2 => ?_) (fun h2 => ?_) | refine br_ndec (fun h2 => ?_) (fun h2 => ?_) | refine br_nbool (fun h2 => ?_) (fun h2 => ?_) | refine br_bool (fun h2 => ?_) (fun h2 => ?_)); all_goals (try dsimp only at h2); all_goals (try with_reducible replace h2 := zi_lt.1 h2); all_goals (try with_reducible replace h2 := not_zlt h2))
      · cbv
        refine safe ⟨zi_nonneg _, zi_lt.2 h2⟩ ?_
        refine safe ⟨zi_nonneg _, zi_lt.2 (by omega)⟩ ?_
        refine br_nbool (fun h3 => ?_) (fun h3 => ?_)
        · cbv
          refine no (list_ne_getD Ace.z k fun q => ?_) (.ff rfl)
          rw [hz, q] at h3
          simp at h3
        · rw [hz] at h3
          simp only [Bool.and_eq_true, decide_eq_true_eq] at h3
          have h3' : (a .o).getD k Ace.z = (b .o).getD k Ace.z := by
            have e1 := h3.1
            have e2 := h3.2.1
            have e3 := h3.2.2.1
            generalize (a .o).getD k Ace.z = p at e1 e2 e3 ⊢
            generalize (b .o).getD k Ace.z = q at e1 e2 e3 ⊢
            cases p; cases q
            simp only at e1 e2 e3
            rw [e1, e2, e3]
          cbv
          refine ⟨k + 1, ⟨h2, fun j hj => ?_⟩, by omega, ?_⟩
          · by_cases e : j = k
            · rw [e]; exact h3'
            · exact heq j (by omega)
          · cbv
            rw [zi_succ (by unfold short at ha; omega)]
            (repeat' (first | exact True.intro | exact Same.refl _ | exact SameB.refl _ | exact ⟨rfl⟩ | exact Same.int rfl | exact Same.str rfl | exact Same.bool rfl | (refine Same.int ?_; simp only [List.length_append, List.length_cons, List.length_nil, zi]; omega) | (refine SameB.row' rfl fun i hi => ?_; first | rfl | exact absurd hi (Nat.not_lt_zero _)) | refine And.intro ?_ ?_ | refine SameB.cells ?_ | exact SameC.nil | refine SameC.cons ?_ ?_ | exact Same.nsl rfl | exact Same.tt rfl | exact Same.ff rfl))
      · cbv
        exact ⟨_, .ret (y := .bool fun _ => true) (.tt rfl), hr _ ⟨fun _ => list_ext_getD Ace.z h1 fun j hj => heq j (by omega), fun _ => rfl⟩⟩
theorem sameM_c (a b : Th Meta) (h1 : short (a .o).acl) (h2 : short (a .o).dflt) (h3 : short (a .o).xs) {d : Nat} {K : ARes → BL → Prop} (hr : ∀ r : Th Bool, (r .o = true ↔ a .o = b .o) → K (.ret (.bool r)) .nil) :
    CallAt PT r9_SameMeta [Meta.av a, Meta.av b] d .nil K := by
  refine CallAt.res ?_
  refine r9_SameMeta.of rfl rfl ?_
  have no : ∀ {x : AV}, a .o ≠ b .o → Same x (.bool fun _ => false) → ∃ r', SameR (.ret x) r' ∧ K r' .nil := fun h1 h2 => ⟨_, .ret h2, hr _ ⟨fun q => (by cases q), fun q => (h1 q).elim⟩⟩
  cbv
  refine br_dec (fun q1 => ?_) (fun q1 => ?_)
  rotate_left
  · cbv
    exact no (fun q => q1 (by rw [q])) (.ff rfl)
  cbv
  refine br_dec (fun q2 => ?_) (fun q2 => ?_)
  rotate_left
  · cbv
    exact no (fun q => q2 (by rw [q])) (.ff rfl)
  cbv
  refine br_dec (fun q3 => ?_) (fun q3 => ?_)
  rotate_left
  · cbv
    exact no (fun q => q3 (by rw [q])) (.ff rfl)
  cbv
  refine br_bool (fun q4 => ?_) (fun q4 => ?_)
  rotate_left
  · cbv
    exact no (fun q => by rw [q] at q4; simp at q4) (.ff rfl)
  simp only [Bool.and_eq_true, decide_eq_true_eq] at q4
  cbv
  refine sameA_c (fun _ => (a .o).acl) (fun _ => (b .o).acl) h1 fun rq5 hrq5 => ?_
  cbv
  refine br_bool (fun q5 => ?_) (fun q5 => ?_)
  rotate_left
  · cbv
    exact no (fun q => by rw [hrq5.2 (by rw [q])] at q5; cases q5) (.ff rfl)
  replace q5 : (a .o).acl = (b .o).acl := hrq5.1 q5
  cbv
  refine sameA_c (fun _ => (a .o).dflt) (fun _ => (b .o).dflt) h2 fun rq6 hrq6 => ?_
  cbv
  refine br_bool (fun q6 => ?_) (fun q6 => ?_)
  rotate_left
  · cbv
    exact no (fun q => by rw [hrq6.2 (by rw [q])] at q6; cases q6) (.ff rfl)
  replace q6 : (a .o).dflt = (b .o).dflt := hrq6.1 q6
  cbv
  refine sameX_c (fun _ => (a .o).xs) (fun _ => (b .o).xs) h3 fun rq7 hrq7 => ?_
  cbv
  refine br_bool (fun q7 => ?_) (fun q7 => ?_)
  rotate_left
  · cbv
    exact no (fun q => by rw [hrq7.2 (by rw [q])] at q7; cases q7) (.ff rfl)
  replace q7 : (a .o).xs = (b .o).xs := hrq7.1 q7
  cbv
  refine br_bool (fun q8 => ?_) (fun q8 => ?_)
  rotate_left
  · cbv
    exact no (fun q => by rw [q] at q8; simp at q8) (.ff rfl)
  simp only [Bool.and_eq_true, decide_eq_true_eq, beq_iff_eq] at q8
  cbv
  refine ⟨_, .ret (Same.refl _), hr _ ⟨fun q9 => ?_, fun q => ?_⟩⟩
  · replace q9 : (a .o).flags = (b .o).flags := of_decide_eq_true q9
    have c1 := q8.1
    have c2 := q8.2.1
    have c3 := q8.2.2.1
    have c4 := q8.2.2.2.1
    have c5 := q8.2.2.2.2.1
    have m4 := q4.1
    have m5 := q4.2.1
    generalize a .o = x at *
    generalize b .o = y at *
    obtain ⟨_, _, _, _, _, _, _, _, ⟨_, _, _, _, _⟩, _⟩ := x
    obtain ⟨_, _, _, _, _, _, _, _, ⟨_, _, _, _, _⟩, _⟩ := y
    simp only at *
    subst q1 q2 q3 m4 m5 q5 q6 q7 c1 c2 c3 c4 c5 q9
    rfl
  · show decide ((a .o).flags = (b .o).flags) = true
    rw [q]; simp
end Go.Proofs.Ytgjlkcdnlndlnaa
/- The law DegradeLast, walked. -/
namespace Go.Proofs.Ytgjlkcdnlndlnaa
open Go Go.Proofs.Ytgjlkcdnlndlnaa.Sx F
set_option linter.unusedVariables false
set_option linter.unusedSimpArgs false
def itemsA : List Item := [⟨[97], 1, 1⟩, ⟨[97], 8, 1⟩]
def entA : Entry := ⟨[97], 1, { metaZ with sec := 7 }, [], [], 0, 0⟩
theorem awake25_c {d : Nat} {K : ARes → BL → Prop} (hr : ∀ b : Th Bool, b .o = true → K (.ret (.bool b)) .nil) : CallAt PT l25_awake [] d .nil K := by
  refine l25_awake.of rfl rfl ?_
  cbv
  have two : Same (AV.sl 3 (fun _ => 2) fun i => elemAt 3 (.cons (.str fun _ => [97]) (.cons (.int .i64 fun _ => 1) (.cons (.int .i64 fun _ => 1) (.cons (.str fun _ => [97]) (.cons (.int .i64 fun _ => 8) (.cons (.int .i64 fun _ => 1) .nil)))))) (i .o)) (items fun _ => itemsA) :=
    .sl rfl fun i hi => by
      have hi : i < 2 := hi
      match i, hi with
      | 0, _ => rfl
      | 1, _ => rfl
  refine CallAt.args (.cons (y := items fun _ => []) (.nsl rfl) (.cons (Same.refl _) (.cons (Same.refl _) .nil))) ?_
  refine degRes_c (fun _ => []) (fun _ => [97]) (fun _ => 1) (by decide) fun n1 hn1 => ?_
  cbv
  have k1 : n1 .o = 0 := hn1
  (first | refine br_is (decide_eq_true k1) ?_ | refine br_not (decide_eq_true k1) ?_ | refine br_rev (br_is (decide_eq_true k1) ?_) | refine br_rev (br_not (decide_eq_true k1) ?_))
  cbv
  refine CallAt.args (.cons two (.cons (Same.refl _) (.cons (Same.refl _) .nil))) ?_
  refine degRes_c (fun _ => itemsA) (fun _ => [97]) (fun _ => 8) (by decide) fun n2 hn2 => ?_
  cbv
  have k2 : n2 .o = 1 := hn2.trans (by decide +kernel)
  (first | refine br_is (decide_eq_true k2) ?_ | refine br_not (decide_eq_true k2) ?_ | refine br_rev (br_is (decide_eq_true k2) ?_) | refine br_rev (br_not (decide_eq_true k2) ?_))
  cbv
  have hent : Same (AV.agg (.cons (.str fun _ => [97]) (.cons (.int .i64 fun _ => 1) (.cons (.int .i64 fun _ => 0) (.cons (.int .i64 fun _ => 0) (.cons (.int .i64 fun _ => 0) (.cons (.int .i64 fun _ => 7) (.cons (.int .i64 fun _ => 0)
    (.cons .nsl (.cons .nsl (.cons .nsl (.cons (.int .i64 fun _ => 0) (.cons (.int .u64 fun _ => 0) (.cons (.int .u64 fun _ => 0) (.cons .ff (.cons (.int .i64 fun _ => 0) (.cons (.int .i64 fun _ => 0) (.cons (.str fun _ => []) (.cons (.str fun _ => [])
    (.cons (.int .i64 fun _ => 0) (.cons (.int .i64 fun _ => 0) .nil))))))))))))))))))))) (Entry.av fun _ => entA) := by
    (repeat' (first | exact Same.refl _ | exact SameC.nil | refine SameC.cons ?_ ?_ | refine Same.agg ?_ | refine Same.tup ?_ | exact Same.nsl rfl | exact Same.tt rfl | exact Same.ff rfl | exact Same.int rfl | exact Same.str rfl | exact Same.bool rfl | refine Same.sl rfl ?_))
  have hcred : Same (AV.agg (.cons (.int .i64 fun _ => 0) (.cons (.int .i64 fun _ => 0) (.cons .nsl (.cons (.int .i64 fun _ => 0) .nil))))) (Cred.av fun _ => credZ) := by
    (repeat' (first | exact Same.refl _ | exact SameC.nil | refine SameC.cons ?_ ?_ | refine Same.agg ?_ | refine Same.tup ?_ | exact Same.nsl rfl | exact Same.tt rfl | exact Same.ff rfl | exact Same.int rfl | exact Same.str rfl | exact Same.bool rfl | refine Same.sl rfl ?_))
  refine CallAt.args (.cons hent (.cons hcred (.cons two .nil))) ?_
  refine deg_c (fun _ => entA) (fun _ => credZ) (fun _ => itemsA) ⟨⟨by unfold short; decide, by unfold short; decide, by decide⟩, by decide, by decide, by decide⟩ fun m hm => ?_
  cbv
  have k3 : (m .o).sec = 7 := by rw [hm]; decide +kernel
  exact hr _ (decide_eq_true k3)
theorem lastR_snoc (l : List Item) (x : Item) (p : List UInt8) (a : Int) : lastR (l ++ [x]) p a = if hit p a x = true then x.res else lastR l p a := by
  unfold lastR hit
  rw [List.reverse_append, List.reverse_cons, List.reverse_nil, List.nil_append, List.cons_append, List.nil_append, List.find?_cons]
  split
  · rename_i h; rw [if_pos h]; rfl
  · rename_i h; rw [if_neg (by rw [h]; decide)]
end Go.Proofs.Ytgjlkcdnlndlnaa
/- The law DegradeMade, walked. -/
namespace Go.Proofs.Ytgjlkcdnlndlnaa
open Go Go.Proofs.Ytgjlkcdnlndlnaa.Sx F
set_option linter.unusedVariables false
set_option linter.unusedSimpArgs false
theorem flags_16 {f : Int} (h : 0 ≤ f ∧ f < 16) : bnot f 3 = band f 12 := by
  have : ∀ x : Fin 16, bnot (x.1 : Int) 3 = band (x.1 : Int) 12 := by decide +kernel
  have := this ⟨f.toNat, by omega⟩
  rwa [show ((⟨f.toNat, by omega⟩ : Fin 16).1 : Int) = f from Int.toNat_of_nonneg h.1] at this
theorem deg21Ok_made {k : Int} {p : List UInt8} {ns : List Int} {e : Entry} {c : Cred} {l : List Item} (h : MadeE k p ns e) (hk : k ≠ 2) (hc : short c.groups) (hl : l.length ≤ 140737488351232) : Deg21Ok e c l := by
  have hm := h.mt hk
  have hx := h.km hk
  have h1 := hm.len
  have h2 := dflt_len hx
  exact ⟨⟨⟨hm.short, hc, hl⟩, by omega, by omega, Nat.le_trans hm.xs.len (by decide)⟩, less9_law hm.good, flags_16 hx.flags⟩
/-- The list of what was tried, by numbers. -/
def rOf (rs : List Int) (i : Nat) : Int := if i < rs.length then IntKind.i64.wrap (1 + (IntKind.i64.wrap (rs.getD i 0)).tmod 3) else 1
def tried (at' rs : List Int) (k : Nat) : List Item := ⟨[112], 1, 1⟩ :: (List.range k).map fun i => ⟨[112], at'.getD i 0, rOf rs i⟩
theorem attrs_len (e : Entry) : (attrsS e).length ≤ 9 := by
  unfold attrsS; split; exact Nat.zero_le _; exact Nat.le_trans (List.length_filter_le _ _) (by decide)
end Go.Proofs.Ytgjlkcdnlndlnaa
/- Which flags may be: walked. -/
namespace Go.Proofs.Ytgjlkcdnlndlnaa
open Go Go.Proofs.Ytgjlkcdnlndlnaa.Sx F
set_option linter.unusedVariables false
set_option linter.unusedSimpArgs false
def mayF (n : Int) : Bool := decide (0 ≤ n) && decide (n < 16)
theorem mayflags9_c (n : Th Int) {d : Nat} {K : ARes → BL → Prop} (hr : ∀ b : Th Bool, b .o = mayF (n .o) → K (.ret (.bool b)) .nil) : CallAt PT r9_MayFlags [.int .i64 n] d .nil K := by
  refine CallAt.res ?_
  refine r9_MayFlags.of rfl rfl ?_
  cbv
  refine ⟨fun hc => ?_, fun hc => ?_⟩
  · cbv
    have h0 : decide (0 ≤ n .o) = true := hc
    refine ⟨_, .ret (Same.refl _), hr _ ?_⟩
    show decide (n .o ≤ 15) = _
    rw [mayF, h0, Bool.true_and]
    exact decide_eq_decide.2 ⟨fun h => by omega, fun h => by omega⟩
  · cbv
    have h0 : decide (0 ≤ n .o) = false := hc
    refine ⟨_, .ret (.ff rfl), hr (fun _ => false) ?_⟩
    show false = _
    rw [mayF, h0]
    rfl
end Go.Proofs.Ytgjlkcdnlndlnaa
/- What may be said of a node: its parts, walked. -/
namespace Go.Proofs.Ytgjlkcdnlndlnaa
open Go Go.Proofs.Ytgjlkcdnlndlnaa.Sx F
set_option linter.unusedVariables false
set_option linter.unusedSimpArgs false
def StampOk (s n : Int) : Prop := -1099511627776 ≤ s ∧ s ≤ 1099511627776 ∧ 0 ≤ n ∧ n < 1000000000
def stampAv (s n : Th Int) : AV := .agg (.cons (.int .i64 s) (.cons (.int .i64 n) .nil))
theorem stamp1_c (s n : Th Int) {d : Nat} {K : ARes → BL → Prop} (hr : ∀ b : Th Bool, (b .o = true ↔ StampOk (s .o) (n .o)) → K (.ret (.bool b)) .nil) : CallAt PT r1_MayStamp [stampAv s n] d .nil K := by
  refine CallAt.res ?_
  refine r1_MayStamp.of rfl rfl ?_
  cbv
  (repeat' (first | (refine br_dec (fun h => ?_) (fun h => ?_) <;> cbv) | (refine br_rev (br_dec (fun h => ?_) (fun h => ?_)) <;> cbv) | (refine br_ndec (fun h => ?_) (fun h => ?_) <;> cbv) | (refine br_rev (br_ndec (fun h => ?_) (fun h => ?_)) <;> cbv)))
  all_goals (first | exact ⟨_, .ret (.tt rfl), hr (fun _ => true) (by (try dsimp only at *); (try simp only [decide_eq_true_eq, true_iff, false_iff, Bool.false_eq_true, StampOk]); omega)⟩ | exact ⟨_, .ret (.ff rfl), hr (fun _ => false) (by (try dsimp only at *); (try simp only [decide_eq_true_eq, true_iff, false_iff, Bool.false_eq_true, StampOk]); omega)⟩ | exact ⟨_, .ret (.refl _), hr _ (by (try dsimp only at *); (try simp only [decide_eq_true_eq, true_iff, false_iff, Bool.false_eq_true, StampOk]); omega)⟩)
def IdOk (n : Int) : Prop := 0 ≤ n ∧ n ≤ 2147483647
theorem id9_c (n : Th Int) {d : Nat} {K : ARes → BL → Prop} (hr : ∀ b : Th Bool, (b .o = true ↔ IdOk (n .o)) → K (.ret (.bool b)) .nil) : CallAt PT r9_id [.int .i64 n] d .nil K := by
  refine CallAt.res ?_
  refine r9_id.of rfl rfl ?_
  cbv
  (repeat' (first | (refine br_dec (fun h => ?_) (fun h => ?_) <;> cbv) | (refine br_rev (br_dec (fun h => ?_) (fun h => ?_)) <;> cbv) | (refine br_ndec (fun h => ?_) (fun h => ?_) <;> cbv) | (refine br_rev (br_ndec (fun h => ?_) (fun h => ?_)) <;> cbv)))
  all_goals (first | exact ⟨_, .ret (.tt rfl), hr (fun _ => true) (by (try dsimp only at *); (try simp only [decide_eq_true_eq, true_iff, false_iff, Bool.false_eq_true, IdOk]); omega)⟩ | exact ⟨_, .ret (.ff rfl), hr (fun _ => false) (by (try dsimp only at *); (try simp only [decide_eq_true_eq, true_iff, false_iff, Bool.false_eq_true, IdOk]); omega)⟩ | exact ⟨_, .ret (.refl _), hr _ (by (try dsimp only at *); (try simp only [decide_eq_true_eq, true_iff, false_iff, Bool.false_eq_true, IdOk]); omega)⟩)
def Caps.zero : Caps := ⟨0, 0, 0, false, 0⟩
def CapsOk (c : Caps) : Prop := c = Caps.zero ∨ (c.ver = 2 ∧ c.root = 0) ∨ (c.ver = 3 ∧ 0 ≤ c.root ∧ c.root ≤ 2147483647)
def Caps.ch (c : Th Caps) : AV := .cons (.int .i64 fun _ => (c .o).ver) (.cons (.int .u64 fun _ => (c .o).perm) (.cons (.int .u64 fun _ => (c .o).inh) (.cons (.bool fun _ => (c .o).eff) (.cons (.int .i64 fun _ => (c .o).root) .nil))))
def Caps.av (c : Th Caps) : AV := .agg (Caps.ch c)
theorem Caps.zero_iff (c : Caps) : (decide (c.ver = 0) && (decide (c.perm = 0) && (decide (c.inh = 0) && ((c.eff == false) && (decide (c.root = 0) && true))))) = true ↔ c = Caps.zero := by
  obtain ⟨a, b, d, e, f⟩ := c
  unfold Caps.zero
  simp
theorem caps9_c (c : Th Caps) {d : Nat} {K : ARes → BL → Prop} (hr : ∀ b : Th Bool, (b .o = true ↔ CapsOk (c .o)) → K (.ret (.bool b)) .nil) : CallAt PT r9_MayCaps [Caps.av c] d .nil K := by
  refine CallAt.res ?_
  refine r9_MayCaps.of rfl rfl ?_
  cbv
  refine br_dec (fun h1 => ?_) (fun h1 => ?_)
  · have h1 : (c .o).ver = 0 := h1
    cbv
    refine ⟨_, .ret (.refl _), hr _ ((Caps.zero_iff _).trans ⟨.inl, fun q => ?_⟩)⟩
    rcases q with q | q | q
    · exact q
    · omega
    · omega
  have h1 : ¬ (c .o).ver = 0 := h1
  have hz : c .o ≠ Caps.zero := fun q => h1 (by rw [q]; rfl)
  cbv
  refine br_dec (fun h2 => ?_) (fun h2 => ?_)
  · have h2 : (c .o).ver = 2 := h2
    cbv
    exact ⟨_, .ret (.refl _), hr _ ⟨fun q => .inr (.inl ⟨h2, of_decide_eq_true q⟩), fun q => decide_eq_true (by rcases q with q | q | q; exact absurd q hz; exact q.2; show (c .o).root = 0; omega)⟩⟩
  have h2 : ¬ (c .o).ver = 2 := h2
  cbv
  refine br_dec (fun h3 => ?_) (fun h3 => ?_)
  · have h3 : (c .o).ver = 3 := h3
    cbv
    have hc : CapsOk (c .o) ↔ 0 ≤ (c .o).root ∧ (c .o).root ≤ 2147483647 := ⟨fun q => by rcases q with q | q | q; exact absurd q hz; omega; exact q.2, fun q => .inr (.inr ⟨h3, q⟩)⟩
    rw [hc] at hr
    (repeat' (first | (refine br_dec (fun h => ?_) (fun h => ?_) <;> cbv) | (refine br_rev (br_dec (fun h => ?_) (fun h => ?_)) <;> cbv) | (refine br_ndec (fun h => ?_) (fun h => ?_) <;> cbv) | (refine br_rev (br_ndec (fun h => ?_) (fun h => ?_)) <;> cbv)))
    all_goals (first | exact ⟨_, .ret (.tt rfl), hr (fun _ => true) (by (try dsimp only at *); (try simp only [decide_eq_true_eq, true_iff, false_iff, Bool.false_eq_true, and_self]); omega)⟩ | exact ⟨_, .ret (.ff rfl), hr (fun _ => false) (by (try dsimp only at *); (try simp only [decide_eq_true_eq, true_iff, false_iff, Bool.false_eq_true, and_self]); omega)⟩ | exact ⟨_, .ret (.refl _), hr _ (by (try dsimp only at *); (try simp only [decide_eq_true_eq, true_iff, false_iff, Bool.false_eq_true, and_self]); omega)⟩)
  have h3 : ¬ (c .o).ver = 3 := h3
  cbv
  exact ⟨_, .ret (.ff rfl), hr (fun _ => false) ⟨fun q => (by cases q), fun q => (by rcases q with q | q | q <;> first | exact absurd q hz | omega)⟩⟩
end Go.Proofs.Ytgjlkcdnlndlnaa
/- Which access lists may be: walked, exact. -/
namespace Go.Proofs.Ytgjlkcdnlndlnaa
open Go Go.Proofs.Ytgjlkcdnlndlnaa.Sx F
set_option linter.unusedVariables false
set_option linter.unusedSimpArgs false
def namedT (t : Int) : Prop := t = 2 ∨ t = 4
def AceOk (a : Ace) : Prop := 0 ≤ a.perm ∧ a.perm ≤ 7 ∧ 0 ≤ a.id ∧ a.id ≤ 2147483647 ∧ (a.id = 0 ∨ a.tag = 2 ∨ a.tag = 4)
def aft (a b : Ace) : Prop := a.tag < b.tag ∨ a.tag = b.tag ∧ a.id < b.id
def cntN (l : List Ace) (k t : Nat) : Nat := (l.take k).countP fun a => decide (a.tag = (t : Int))
structure AclTo (l : List Ace) (k : Nat) : Prop where
  tag : ∀ j, j < k → 1 ≤ (l.getD j Ace.z).tag ∧ (l.getD j Ace.z).tag ≤ 6
  ok : ∀ j, j < k → AceOk (l.getD j Ace.z)
  up : ∀ j, j + 1 < k → aft (l.getD j Ace.z) (l.getD (j + 1) Ace.z)
structure AclOk (l : List Ace) : Prop where
  to : AclTo l l.length
  own : cntN l l.length 1 = 1
  grp : cntN l l.length 3 = 1
  oth : cntN l l.length 6 = 1
  msk : cntN l l.length 5 = min 1 (cntN l l.length 2 + cntN l l.length 4)
  len : l.length ≤ 32
theorem take_succ_getD {α : Type} (l : List α) (z : α) (k : Nat) (h : k < l.length) : l.take (k + 1) = l.take k ++ [l.getD k z] := by
  rw [List.take_succ_eq_append_getElem h, List.getD_eq_getElem?_getD, List.getElem?_eq_getElem h]; rfl
theorem cntN_succ (l : List Ace) (k t : Nat) (h : k < l.length) : cntN l (k + 1) t = cntN l k t + if (l.getD k Ace.z).tag = (t : Int) then 1 else 0 := by
  unfold cntN
  rw [take_succ_getD l Ace.z k h, List.countP_append, List.countP_cons, List.countP_nil]
  by_cases q : (l.getD k Ace.z).tag = (t : Int) <;> simp only [q, decide_true, decide_false, if_true, if_false, Nat.zero_add, Bool.false_eq_true]
theorem cntN_le (l : List Ace) (k t : Nat) : cntN l k t ≤ k := Nat.le_trans List.countP_le_length (List.length_take_le _ _)
theorem cntN_zero (l : List Ace) (t : Nat) : cntN l 0 t = 0 := rfl
/-- Unnamed parts stand once at most. -/
theorem cntN_once {l : List Ace} {k t : Nat} (h : AclTo l k) (hk : k ≤ l.length) (ht : t ≠ 2 ∧ t ≠ 4) : cntN l k t ≤ 1 ∧ (cntN l k t = 1 → 0 < k → (l.getD (k - 1) Ace.z).tag ≥ (t : Int)) ∧ ∀ j, j < k → (l.getD j Ace.z).tag ≤ (l.getD (k - 1) Ace.z).tag := by
  induction k with
  | zero => exact ⟨by rw [cntN_zero]; omega, fun h => by rw [cntN_zero] at h; omega, fun j hj => by omega⟩
  | succ k ih =>
    obtain ⟨i1, i2, i3⟩ := ih ⟨fun j hj => h.tag j (by omega), fun j hj => h.ok j (by omega), fun j hj => h.up j (by omega)⟩ (by omega)
    have hok := h.ok k (by omega)
    rw [cntN_succ l k t (by omega)]
    have hup : 0 < k → aft (l.getD (k - 1) Ace.z) (l.getD k Ace.z) := fun q => by have := h.up (k - 1) (by omega); rwa [show k - 1 + 1 = k by omega] at this
    have hle : 0 < k → (l.getD (k - 1) Ace.z).tag ≤ (l.getD k Ace.z).tag := fun q => by rcases hup q with q | q <;> omega
    simp only [Nat.add_sub_cancel]
    refine ⟨?_, ?_, fun j hj => ?_⟩
    · split
      · rename_i q
        by_cases hk0 : 0 < k
        · have : cntN l k t ≠ 1 := fun e => by
            have h1 := i2 e hk0
            have h2 := hup hk0
            have h3 := h.ok (k - 1) (by omega)
            unfold AceOk at h3 hok
            rcases h2 with h2 | h2
            · omega
            · omega
          omega
        · have : cntN l k t ≤ k := cntN_le _ _ _
          omega
      · omega
    · intro e _
      split at e
      · omega
      · rename_i q
        by_cases hk0 : 0 < k
        · have := i2 (by omega) hk0
          have := hle hk0
          omega
        · have := cntN_le l k t
          omega
    · rcases Nat.lt_or_ge j k with q | q
      · have := i3 j q
        have := hle (by omega)
        omega
      · obtain rfl : j = k := by omega
        exact Int.le_refl _
theorem AclOk.good {l : List Ace} (h : AclOk l) : Good l := by
  have one : ∀ t : Nat, cntN l l.length t = 1 → ∃ a ∈ l, a.tag = (t : Int) := by
    intro t ht
    unfold cntN at ht
    rw [List.take_length] at ht
    obtain ⟨a, ha, hat⟩ := List.countP_pos_iff.1 (by rw [ht]; exact Nat.one_pos)
    exact ⟨a, ha, by simpa using hat⟩
  refine ⟨fun a ha => ?_, one 1 h.own, one 3 h.grp, one 6 h.oth⟩
  obtain ⟨j, hj, rfl⟩ := List.getElem_of_mem ha
  have := h.to.ok j hj
  unfold AceOk at this
  rw [List.getD_eq_getElem?_getD, List.getElem?_eq_getElem hj] at this
  exact ⟨this.1, by have := this.2.1; simp only [Option.getD_some] at this; omega⟩
def cntL (l : List Ace) (k : Nat) : List Int := (List.range 7).map fun t => (cntN l k t : Int)
theorem cntL_len (l : List Ace) (k : Nat) : (cntL l k).length = 7 := by simp [cntL]
theorem cntL_at (l : List Ace) (k : Nat) {t : Nat} (h : t < 7) : (cntL l k).getD t 0 = (cntN l k t : Int) := by
  unfold cntL
  rw [List.getD_eq_getElem?_getD, List.getElem?_map, List.getElem?_range h]; rfl
theorem cntL_succ (l : List Ace) (k : Nat) (hk : k < l.length) {t : Nat} (ht : t < 7) (he : (l.getD k Ace.z).tag = (t : Int)) : (cntL l k).set t ((cntN l k t : Int) + 1) = cntL l (k + 1) := by
  apply List.ext_getElem?
  intro i
  rw [List.getElem?_set]
  unfold cntL
  rw [List.getElem?_map, List.getElem?_map, List.length_map, List.length_range]
  by_cases hi : i < 7
  · rw [List.getElem?_range hi]
    simp only [Option.map_some]
    rw [cntN_succ l k i hk, he]
    by_cases q : t = i
    · subst q; simp [ht]
    · rw [if_neg q, if_neg (by omega)]; simp
  · rw [List.getElem?_eq_none (by simp; omega)]
    simp only [Option.map_none]
    rw [if_neg (by omega)]
theorem named9_c (a : Th Ace) {d : Nat} {K : ARes → BL → Prop} (hr : ∀ b : Th Bool, (b .o = true ↔ namedT (a .o).tag) → K (.ret (.bool b)) .nil) : CallAt PT r9_named [Ace.av a] d .nil K := by
  refine CallAt.res ?_
  refine r9_named.of rfl rfl ?_
  cbv
  (repeat' (first | (refine br_dec (fun h => ?_) (fun h => ?_) <;> cbv) | (refine br_rev (br_dec (fun h => ?_) (fun h => ?_)) <;> cbv) | (refine br_ndec (fun h => ?_) (fun h => ?_) <;> cbv) | (refine br_rev (br_ndec (fun h => ?_) (fun h => ?_)) <;> cbv)))
  all_goals (first | exact ⟨_, .ret (.tt rfl), hr (fun _ => true) (by (try dsimp only at *); (try simp only [decide_eq_true_eq, true_iff, false_iff, Bool.false_eq_true, namedT]); omega)⟩ | exact ⟨_, .ret (.ff rfl), hr (fun _ => false) (by (try dsimp only at *); (try simp only [decide_eq_true_eq, true_iff, false_iff, Bool.false_eq_true, namedT]); omega)⟩ | exact ⟨_, .ret (.refl _), hr _ (by (try dsimp only at *); (try simp only [decide_eq_true_eq, true_iff, false_iff, Bool.false_eq_true, namedT]); omega)⟩)
end Go.Proofs.Ytgjlkcdnlndlnaa
/- Which access lists may be: the loops walked, exact. -/
namespace Go.Proofs.Ytgjlkcdnlndlnaa
open Go Go.Proofs.Ytgjlkcdnlndlnaa.Sx F
set_option linter.unusedVariables false
set_option linter.unusedSimpArgs false
def lastA (l : List Ace) (k : Nat) : Ace := if k = 0 then Ace.z else l.getD (k - 1) Ace.z
theorem aclTo_succ {l : List Ace} {k : Nat} (h : AclTo l k) (h1 : 1 ≤ (l.getD k Ace.z).tag ∧ (l.getD k Ace.z).tag ≤ 6) (h2 : AceOk (l.getD k Ace.z)) (h3 : k = 0 ∨ aft (lastA l k) (l.getD k Ace.z)) : AclTo l (k + 1) := by
  refine ⟨fun j hj => ?_, fun j hj => ?_, fun j hj => ?_⟩
  · rcases Nat.lt_or_ge j k with q | q
    · exact h.tag j q
    · obtain rfl : j = k := by omega
      exact h1
  · rcases Nat.lt_or_ge j k with q | q
    · exact h.ok j q
    · obtain rfl : j = k := by omega
      exact h2
  · rcases Nat.lt_or_ge (j + 1) k with q | q
    · exact h.up j q
    · obtain rfl : k = j + 1 := by omega
      rcases h3 with h3 | h3
      · omega
      · unfold lastA at h3
        rw [if_neg (by omega)] at h3
        exact h3
theorem aclTo_aft {l : List Ace} {k : Nat} (h : AclTo l l.length) (hk : k < l.length) : aft (lastA l k) (l.getD k Ace.z) := by
  unfold lastA
  split
  · exact .inl (by have := (h.tag k hk).1; show (0 : Int) < _; omega)
  · have := h.up (k - 1) (by omega)
    rwa [show k - 1 + 1 = k by omega] at this
end Go.Proofs.Ytgjlkcdnlndlnaa
/- The document's lists that may be: walked, exact; modes of lists. -/
namespace Go.Proofs.Ytgjlkcdnlndlnaa
open Go Go.Proofs.Ytgjlkcdnlndlnaa.Sx F
set_option linter.unusedVariables false
set_option linter.unusedSimpArgs false
theorem aclOk_three {l : List Ace} (h : AclOk l) : 3 ≤ l.length := by
  have a := h.own
  have b := h.grp
  have c := h.oth
  unfold cntN at a b c
  rw [List.take_length] at a b c
  have hsum : ∀ r : List Ace, r.countP (fun a => decide (a.tag = ((1 : Nat) : Int))) + r.countP (fun a => decide (a.tag = ((3 : Nat) : Int))) + r.countP (fun a => decide (a.tag = ((6 : Nat) : Int))) ≤ r.length := by
    intro r
    induction r with
    | nil => simp
    | cons x r ih =>
      simp only [List.countP_cons, List.length_cons]
      by_cases q1 : x.tag = ((1 : Nat) : Int)
      · have q3 : ¬ x.tag = ((3 : Nat) : Int) := by omega
        have q6 : ¬ x.tag = ((6 : Nat) : Int) := by omega
        simp only [q1, q3, q6, decide_true, decide_false, if_true, if_false, Bool.false_eq_true]
        simp only [q1] at q3 q6
        simp only [q3, q6, decide_false, if_false, Bool.false_eq_true]
        omega
      · by_cases q3 : x.tag = ((3 : Nat) : Int)
        · have q6 : ¬ x.tag = ((6 : Nat) : Int) := by omega
          have e1 : decide (x.tag = ((1 : Nat) : Int)) = false := decide_eq_false q1
          have e3 : decide (x.tag = ((3 : Nat) : Int)) = true := decide_eq_true q3
          have e6 : decide (x.tag = ((6 : Nat) : Int)) = false := decide_eq_false q6
          rw [e1, e3, e6]
          simp only [if_true, Bool.false_eq_true, if_false]
          omega
        · have e1 : decide (x.tag = ((1 : Nat) : Int)) = false := decide_eq_false q1
          have e3 : decide (x.tag = ((3 : Nat) : Int)) = false := decide_eq_false q3
          rw [e1, e3]
          simp only [Bool.false_eq_true, if_false]
          split <;> omega
  have := hsum l
  omega
theorem msk_iff (n5 n2 n4 : Nat) (h5 : n5 ≤ 1) (h2 : n2 ≤ 32) (h4 : n4 ≤ 32) : (decide ((n5 : Int) = 1) == decide (0 < IntKind.i64.wrap ((n2 : Int) + (n4 : Int)))) = true ↔ n5 = min 1 (n2 + n4) := by
  have e : IntKind.i64.wrap ((n2 : Int) + (n4 : Int)) = (n2 : Int) + (n4 : Int) := by rw [IntKind.wrap_i64]; omega
  rw [e, beq_iff_eq, decide_eq_decide]
  omega
theorem may9_c (l : Th (List Ace)) (hl : short (l .o)) {d : Nat} {K : ARes → BL → Prop} (hr : ∀ b : Th Bool, (b .o = true ↔ AclOk (l .o)) → K (.ret (.bool b)) .nil) : CallAt PT r9_MayAcl [aces l] d .nil K := by
  refine CallAt.res ?_
  have hf : ¬ AclOk (l .o) → ∃ r', SameR (.ret .ff) r' ∧ K r' .nil := fun h => ⟨_, .ret (.ff rfl), hr (fun _ => false) ⟨fun q => (by cases q), fun q => (h q).elim⟩⟩
  refine r9_MayAcl.of rfl rfl ?_
  cbv
  refine br_rev (br_dec (fun h1 => ?_) (fun h1 => ?_))
  · cbv
    exact hf fun q => by have := aclOk_three q; have h1 : zi (l .o).length < 3 := h1; unfold zi at h1; omega
  cbv
  refine br_dec (fun h2 => ?_) (fun h2 => ?_)
  · cbv
    exact hf fun q => by have := q.len; have h2 : 32 < zi (l .o).length := h2; unfold zi at h2; omega
  have h2 : (l .o).length ≤ 32 := by have h2 : ¬ 32 < zi (l .o).length := h2; unfold zi at h2; omega
  (cbv; repeat (refine safe (by first | decide | (simp only [zi] at *; omega) | assumption | (dsimp only; omega) | (dsimp only at *; simp only [List.length_append, List.length_cons, List.length_nil, zi] at *; omega)) ?_; cbv))
  refine loop_at (X := Nat) 1000 [0, 3] [] (fun _ k => .cons 4 (.int .i64 fun _ => zi k) .nil) (fun _ k => .cons 14 (rowB 1 intCh 0 fun _ => cntL (l .o) k) .nil)
    (fun k => k ≤ (l .o).length ∧ AclTo (l .o) k) (fun k => (l .o).length - k) 0 ?_ ⟨Nat.zero_le _, ⟨fun j hj => by omega, fun j hj => by omega, fun j hj => by omega⟩⟩ ?_
  · cbv
    (repeat' (first | exact True.intro | exact Same.refl _ | exact SameB.refl _ | exact ⟨rfl⟩ | exact Same.int rfl | exact Same.str rfl | exact Same.bool rfl | (refine Same.int ?_; simp only [List.length_append, List.length_cons, List.length_nil, zi]; omega) | (refine SameB.row' rfl fun i hi => ?_; first | rfl | exact absurd hi (Nat.not_lt_zero _)) | refine And.intro ?_ ?_ | refine SameB.cells ?_ | exact SameC.nil | refine SameC.cons ?_ ?_ | exact Same.nsl rfl | exact Same.tt rfl | exact Same.ff rfl))
    all_goals
      refine SameB.row' rfl fun i hi => ?_
      have hi : i < 7 := hi
      match i, hi with
      | 0, _ | 1, _ | 2, _ | 3, _ | 4, _ | 5, _ | 6, _ => rfl
  · rintro k ⟨hk, hto⟩
    have hz := zi_toNat k
    have hcl := cntL_len (l .o) k
    cbv
    ((try refine br_rev ?_); (first | refine br_dec (fun h3 => ?_) (fun h3 => ?_) | refine br_ndec (fun h3 => ?_) (fun h3 => ?_) | refine br_nbool (fun h3 => ?_) (fun h3 => ?_) | refine br_bool (fun h3 => ?_) (fun h3 => ?_)); all_goals (try dsimp only at h3); all_goals (try with_reducible replace h3 := zi_lt.1 h3); all_goals (try with_reducible replace h3 := not_zlt h3))
    · have h3 : k < (l .o).length := h3
      cbv
      refine safe ⟨zi_nonneg _, zi_lt.2 h3⟩ ?_
      rw [hz]
      refine br_rev (br_dec (fun h4 => ?_) (fun h4 => ?_))
      · cbv
        exact hf fun q => by have := (q.to.tag k h3).1; have h4 : ((l .o).getD k Ace.z).tag < 1 := h4; omega
      have h4 : ¬ ((l .o).getD k Ace.z).tag < 1 := h4
      cbv
      refine br_rev (br_dec (fun h5 => ?_) (fun h5 => ?_))
      · cbv
        exact hf fun q => by have := (q.to.tag k h3).2; have h5 : 6 < ((l .o).getD k Ace.z).tag := h5; omega
      have h5 : ¬ 6 < ((l .o).getD k Ace.z).tag := h5
      cbv
      refine br_rev (br_dec (fun h6 => ?_) (fun h6 => ?_))
      · cbv
        exact hf fun q => by have := (q.to.ok k h3).1; have h6 : ((l .o).getD k Ace.z).perm < 0 := h6; omega
      have h6 : ¬ ((l .o).getD k Ace.z).perm < 0 := h6
      cbv
      refine br_rev (br_dec (fun h7 => ?_) (fun h7 => ?_))
      · cbv
        exact hf fun q => by have := (q.to.ok k h3).2.1; have h7 : 7 < ((l .o).getD k Ace.z).perm := h7; omega
      have h7 : ¬ 7 < ((l .o).getD k Ace.z).perm := h7
      cbv
      refine br_rev (br_dec (fun h8 => ?_) (fun h8 => ?_))
      · cbv
        exact hf fun q => by have := (q.to.ok k h3).2.2.1; have h8 : ((l .o).getD k Ace.z).id < 0 := h8; omega
      have h8 : ¬ ((l .o).getD k Ace.z).id < 0 := h8
      cbv
      refine br_rev (br_dec (fun h9 => ?_) (fun h9 => ?_))
      · cbv
        exact hf fun q => by have := (q.to.ok k h3).2.2.2.1; have h9 : 2147483647 < ((l .o).getD k Ace.z).id := h9; omega
      have h9 : ¬ 2147483647 < ((l .o).getD k Ace.z).id := h9
      cbv
      refine named9_c (fun _ => (l .o).getD k Ace.z) fun nb hnb => ?_
      have hnb : nb .o = true ↔ namedT ((l .o).getD k Ace.z).tag := hnb
      cbv
      have hT : 0 ≤ ((l .o).getD k Ace.z).tag ∧ ((l .o).getD k Ace.z).tag < zi (cntL (l .o) k).length := by
        rw [hcl]
        have : zi 7 = 7 := rfl
        omega
      have hTn : ((l .o).getD k Ace.z).tag.toNat < (cntL (l .o) k).length := by rw [hcl]; omega
      have htt : ((l .o).getD k Ace.z).tag = ((((l .o).getD k Ace.z).tag.toNat : Nat) : Int) := by omega
      have hcn := cntN_le (l .o) k ((l .o).getD k Ace.z).tag.toNat
      have hset : (cntL (l .o) k).set ((l .o).getD k Ace.z).tag.toNat (IntKind.i64.wrap ((cntL (l .o) k).getD ((l .o).getD k Ace.z).tag.toNat 0 + 1)) = cntL (l .o) (k + 1) := by
        rw [cntL_at _ _ (by omega), show IntKind.i64.wrap ((cntN (l .o) k ((l .o).getD k Ace.z).tag.toNat : Int) + 1) = (cntN (l .o) k ((l .o).getD k Ace.z).tag.toNat : Int) + 1 by rw [IntKind.wrap_i64]; omega]
        exact cntL_succ _ _ h3 (by omega) htt
      have succ := zi_succ (k := k) (by omega)
      have ok : (¬ ((l .o).getD k Ace.z).id = 0 → nb .o = true) → AceOk ((l .o).getD k Ace.z) := fun q => ⟨by omega, by omega, by omega, by omega, by
        by_cases e : ((l .o).getD k Ace.z).id = 0
        · exact .inl e
        · exact .inr (hnb.1 (q e))⟩
      refine br_nbool (fun ha => ?_) (fun ha => ?_)
      focus
        cbv
        refine br_ndec (fun hb => ?_) (fun hb => ?_)
        focus
          cbv
          exact hf fun q => by
            have hb : ¬ ((l .o).getD k Ace.z).id = 0 := hb
            have := (q.to.ok k h3).2.2.2.2
            have hn : ¬ namedT ((l .o).getD k Ace.z).tag := fun e => by rw [hnb.2 e] at ha; cases ha
            unfold namedT at hn
            omega
        replace ok := ok fun q => (q hb).elim
      rotate_left
      focus replace ok := ok fun _ => ha
      all_goals
        cbv
        refine br_dec (fun hc => ?_) (fun hc => ?_)
      all_goals cbv
      rotate_left
      focus
        replace hto := aclTo_succ hto ⟨by omega, by omega⟩ ok (.inl (by have hc : ¬ 0 < zi k := hc; unfold zi at hc; omega))
      rotate_left 2
      focus
        replace hto := aclTo_succ hto ⟨by omega, by omega⟩ ok (.inl (by have hc : ¬ 0 < zi k := hc; unfold zi at hc; omega))
      rotate_left
      all_goals try (
        have hc : 0 < k := by have hc : 0 < zi k := hc; unfold zi at hc; omega
        have hi1 : 0 ≤ IntKind.i64.wrap (zi k - 1) ∧ IntKind.i64.wrap (zi k - 1) < zi (l .o).length := by rw [IntKind.wrap_i64]; unfold zi; omega
        have hi2 : (IntKind.i64.wrap (zi k - 1)).toNat = k - 1 := by rw [IntKind.wrap_i64]; unfold zi; omega
        have hlast : lastA (l .o) k = (l .o).getD (k - 1) Ace.z := by unfold lastA; rw [if_neg (by omega)]
        refine safe hi1 ?_
        rw [hi2]
        refine br_rev (br_dec (fun hd => ?_) (fun hd => ?_))
        focus
          cbv
          exact hf fun q => by
            have := aclTo_aft q.to h3
            rw [hlast] at this
            have hd : ((l .o).getD k Ace.z).tag < ((l .o).getD (k - 1) Ace.z).tag := hd
            rcases this with q | q <;> omega
        have hd : ¬ ((l .o).getD k Ace.z).tag < ((l .o).getD (k - 1) Ace.z).tag := hd
        cbv
        refine safe hi1 ?_
        rw [hi2]
        refine br_dec (fun he => ?_) (fun he => ?_)
        focus
          have he : ((l .o).getD k Ace.z).tag = ((l .o).getD (k - 1) Ace.z).tag := he
          cbv
          refine named9_c (fun _ => (l .o).getD k Ace.z) fun nb2 hnb2 => ?_
          have hnb2 : nb2 .o = true ↔ namedT ((l .o).getD k Ace.z).tag := hnb2
          cbv
          refine br_rev (br_nbool (fun hg => ?_) (fun hg => ?_))
          focus
            cbv
            exact hf fun q => by
              have h10 := aclTo_aft q.to h3
              rw [hlast] at h10
              have h11 := (q.to.ok k h3).2.2.2.2
              have h12 := (q.to.ok (k - 1) (by omega)).2.2.2.2
              have hn : ¬ namedT ((l .o).getD k Ace.z).tag := fun e => by rw [hnb2.2 e] at hg; cases hg
              unfold namedT at hn
              rcases h10 with q | q <;> omega
          cbv
          refine safe hi1 ?_
          rw [hi2]
          refine br_dec (fun hj => ?_) (fun hj => ?_)
          focus
            cbv
            exact hf fun q => by
              have h10 := aclTo_aft q.to h3
              rw [hlast] at h10
              have hj : ((l .o).getD k Ace.z).id ≤ ((l .o).getD (k - 1) Ace.z).id := hj
              rcases h10 with q | q <;> omega
          have hj : ¬ ((l .o).getD k Ace.z).id ≤ ((l .o).getD (k - 1) Ace.z).id := hj
          replace hto := aclTo_succ hto ⟨by omega, by omega⟩ ok (.inr (by rw [hlast]; exact .inr ⟨by omega, by omega⟩))
          cbv
        rotate_left
        focus
          have he : ¬ ((l .o).getD k Ace.z).tag = ((l .o).getD (k - 1) Ace.z).tag := he
          replace hto := aclTo_succ hto ⟨by omega, by omega⟩ ok (.inr (by rw [hlast]; exact .inl (by omega)))
          cbv)
      all_goals
        refine safe hT ?_
        refine safe hTn ?_
        refine safe hT ?_
        refine put_rows intCh 0 (cntL (l .o) k) (IntKind.i64.wrap ((cntL (l .o) k).getD ((l .o).getD k Ace.z).tag.toNat 0 + 1)) rfl (fun i hi => rfl) hTn rfl ?_
        cbv
        rw [hset]
        refine ⟨k + 1, ⟨h3, hto⟩, by omega, ?_⟩
        cbv
        (repeat' (first | exact True.intro | exact Same.refl _ | exact SameB.refl _ | exact ⟨rfl⟩ | exact Same.int rfl | exact Same.str rfl | exact Same.bool rfl | (refine Same.int ?_; simp only [List.length_append, List.length_cons, List.length_nil, zi]; omega) | (refine SameB.row' rfl fun i hi => ?_; first | rfl | exact absurd hi (Nat.not_lt_zero _)) | refine And.intro ?_ ?_ | refine SameB.cells ?_ | exact SameC.nil | refine SameC.cons ?_ ?_ | exact Same.nsl rfl | exact Same.tt rfl | exact Same.ff rfl))
        all_goals first | exact Same.int succ | exact SameB.row' (by simp [cntL]) fun i hi => rfl
    · obtain rfl : k = (l .o).length := by have h3 : (l .o).length ≤ k := h3; omega
      have cn : ∀ t : Nat, t < 7 → 0 ≤ (t : Int) ∧ (t : Int) < zi (cntL (l .o) (l .o).length).length := fun t ht => by rw [hcl]; unfold zi; omega
      have cm : ∀ t : Nat, t < 7 → t < (cntL (l .o) (l .o).length).length := fun t ht => by rw [hcl]; exact ht
      have cv : ∀ t : Nat, t < 7 → (cntL (l .o) (l .o).length).getD t 0 = (cntN (l .o) (l .o).length t : Int) := fun t ht => cntL_at _ _ ht
      have hc2 := cntN_le (l .o) (l .o).length 2
      have hc4 := cntN_le (l .o) (l .o).length 4
      have hc5 := (cntN_once hto (Nat.le_refl _) (t := 5) (by decide)).1
      cbv
      refine safe (cn 1 (by decide)) ?_
      refine safe (cm 1 (by decide)) ?_
      refine br_dec (fun a1 => ?_) (fun a1 => ?_)
      rotate_left
      · cbv
        exact hf fun q => a1 (by show (cntL (l .o) (l .o).length).getD 1 0 = 1; rw [cv 1 (by decide), q.own]; rfl)
      cbv
      refine safe (cn 3 (by decide)) ?_
      refine safe (cm 3 (by decide)) ?_
      refine br_dec (fun a3 => ?_) (fun a3 => ?_)
      rotate_left
      · cbv
        exact hf fun q => a3 (by show (cntL (l .o) (l .o).length).getD 3 0 = 1; rw [cv 3 (by decide), q.grp]; rfl)
      cbv
      refine safe (cn 6 (by decide)) ?_
      refine safe (cm 6 (by decide)) ?_
      refine br_dec (fun a6 => ?_) (fun a6 => ?_)
      rotate_left
      · cbv
        exact hf fun q => a6 (by show (cntL (l .o) (l .o).length).getD 6 0 = 1; rw [cv 6 (by decide), q.oth]; rfl)
      have a1 : (cntL (l .o) (l .o).length).getD 1 0 = 1 := a1
      have a3 : (cntL (l .o) (l .o).length).getD 3 0 = 1 := a3
      have a6 : (cntL (l .o) (l .o).length).getD 6 0 = 1 := a6
      rw [cv 1 (by decide)] at a1
      rw [cv 3 (by decide)] at a3
      rw [cv 6 (by decide)] at a6
      have b1 : cntN (l .o) (l .o).length 1 = 1 := Int.ofNat.inj a1
      have b3 : cntN (l .o) (l .o).length 3 = 1 := Int.ofNat.inj a3
      have b6 : cntN (l .o) (l .o).length 6 = 1 := Int.ofNat.inj a6
      cbv
      refine safe (cn 5 (by decide)) ?_
      refine safe (cm 5 (by decide)) ?_
      refine safe (cn 2 (by decide)) ?_
      refine safe (cm 2 (by decide)) ?_
      refine safe (cn 4 (by decide)) ?_
      refine safe (cm 4 (by decide)) ?_
      refine ⟨_, .ret (.refl _), hr _ ?_⟩
      show (decide ((cntL (l .o) (l .o).length).getD 5 0 = 1) == decide (0 < IntKind.i64.wrap ((cntL (l .o) (l .o).length).getD 2 0 + (cntL (l .o) (l .o).length).getD 4 0))) = true ↔ _
      rw [cv 5 (by decide), cv 2 (by decide), cv 4 (by decide)]
      rw [msk_iff _ _ _ hc5 (by omega) (by omega)]
      exact ⟨fun q => ⟨hto, b1, b3, b6, q, h2⟩, fun q => q.msk⟩
/-- A list's mode. -/
def modeA (l : List Ace) : Int := permR l 1 * 64 + (if permR l 5 < 0 then permR l 3 else permR l 5) * 8 + permR l 6
theorem perm8 {l : List Ace} (h : Good l) (t : Int) : permR l t = -1 ∨ (0 ≤ permR l t ∧ permR l t < 8) := by
  unfold permR permS
  cases e : l.find? fun a => decide (a.tag = t) with
  | none => exact .inl rfl
  | some a => exact .inr (h.perm a (List.mem_of_find?_eq_some e))
theorem perm8' {l : List Ace} (h : Good l) {t : Int} (ht : ∃ a ∈ l, a.tag = t) : 0 ≤ permR l t ∧ permR l t < 8 := by
  obtain ⟨p, h1, h2⟩ := perm_some h ht
  unfold permR
  rw [h1]; exact h2
theorem mode9_c (l : Th (List Ace)) (hl : short (l .o)) (hg : Good (l .o)) {d : Nat} {K : ARes → BL → Prop} (hr : ∀ n : Th Int, n .o = modeA (l .o) → K (.ret (.int .i64 n)) .nil) : CallAt PT r9_ModeAcl [aces l] d .nil K := by
  refine CallAt.res ?_
  have k1 := perm8' hg hg.own
  have k3 := perm8' hg hg.grp
  have k6 := perm8' hg hg.oth
  have k5 := perm8 hg 5
  have wr : ∀ a b c : Int, 0 ≤ a ∧ a < 8 → 0 ≤ b ∧ b < 8 → 0 ≤ c ∧ c < 8 → IntKind.i64.wrap (IntKind.i64.wrap (IntKind.i64.wrap (a * 64) + IntKind.i64.wrap (b * 8)) + c) = a * 64 + b * 8 + c := fun a b c ha hb hc => by
    simp only [IntKind.wrap_i64]
    omega
  refine r9_ModeAcl.of rfl rfl ?_
  cbv
  refine perm9_c l (fun _ => 5) hl fun n5 e5 => ?_
  cbv
  refine br_dec (fun h => ?_) (fun h => ?_)
  · have h : n5 .o < 0 := h
    cbv
    refine perm9_c l (fun _ => 3) hl fun n3 e3 => ?_
    cbv
    refine perm9_c l (fun _ => 1) hl fun n1 e1 => ?_
    cbv
    refine perm9_c l (fun _ => 6) hl fun n6 e6 => ?_
    cbv
    refine ⟨_, .ret (.refl _), hr _ ?_⟩
    show IntKind.i64.wrap (IntKind.i64.wrap (IntKind.i64.wrap (n1 .o * 64) + IntKind.i64.wrap (n3 .o * 8)) + n6 .o) = _
    rw [e1, e3, e6, wr _ _ _ k1 k3 k6]
    unfold modeA
    rw [if_pos (e5 ▸ h)]
  · have h : ¬ n5 .o < 0 := h
    cbv
    refine perm9_c l (fun _ => 1) hl fun n1 e1 => ?_
    cbv
    refine perm9_c l (fun _ => 6) hl fun n6 e6 => ?_
    cbv
    refine ⟨_, .ret (.refl _), hr _ ?_⟩
    show IntKind.i64.wrap (IntKind.i64.wrap (IntKind.i64.wrap (n1 .o * 64) + IntKind.i64.wrap (n5 .o * 8)) + n6 .o) = _
    have h' : ¬ permR (l .o) 5 < 0 := fun q => h (by rw [e5]; exact q)
    rw [e1, e5, e6, wr _ _ _ k1 (by rcases k5 with q | q; omega; exact q) k6]
    unfold modeA
    rw [if_neg h']
end Go.Proofs.Ytgjlkcdnlndlnaa
/- A builder's methods: the kit's contracts at this program, laid by hand (its tool passes them by). -/
namespace Go.Proofs
open Go.Shelf
end Go.Proofs
/- A builder whose buffer lies above all that a call has made ahead of it: its methods, with all else kept. -/
namespace Go.Proofs.Ytgjlkcdnlndlnaa
open Go Go.RowKit Go.Shelf
set_option linter.unusedVariables false
set_option linter.unusedSimpArgs false
end Go.Proofs.Ytgjlkcdnlndlnaa
/- escape.Put, at the machine's level, by the kit's walk; then as a contract. -/
namespace Go.Proofs.Ytgjlkcdnlndlnaa
open Go Go.RowKit Go.Shelf
set_option linter.unusedVariables false
set_option linter.unusedSimpArgs false
def plainB (c : Int) : Bool := decide (33 ≤ c) && decide (c ≤ 126) && !decide (c = 37) && !decide (c = 61)
/-- A byte, escaped. -/
def hexB (n : UInt8) : UInt8 := ([48, 49, 50, 51, 52, 53, 54, 55, 56, 57, 65, 66, 67, 68, 69, 70] : List UInt8).getD n.toNat 0
def escB (c : UInt8) : List UInt8 := if plainB c.toNat then [c] else [37, hexB (c / 16), hexB (c % 16)]
def escS (s : List UInt8) : List UInt8 := s.flatMap escB
theorem escS_take (l : List UInt8) (k : Nat) (h : k < l.length) : escS (l.take (k + 1)) = escS (l.take k) ++ escB (l[k]) := by
  unfold escS
  rw [List.take_succ_eq_append_getElem h, List.flatMap_append]
  simp
theorem escB_len (c : UInt8) : (escB c).length ≤ 3 := by unfold escB; split <;> simp
theorem escS_len : ∀ l : List UInt8, (escS l).length ≤ 3 * l.length
  | [] => Nat.le_refl _
  | c :: r => by
    have h1 := escS_len r
    have h2 := escB_len c
    simp only [escS, List.flatMap_cons, List.length_append, List.length_cons] at h1 ⊢
    omega
open Go.Proofs.Ytgjlkcdnlndlnaa.Sx F
end Go.Proofs.Ytgjlkcdnlndlnaa
/- Functions of package strings at a separator of one byte: walked by the kit's laws. -/
namespace Go.Proofs.Ytgjlkcdnlndlnaa
open Go Go.RowKit
set_option linter.unusedVariables false
set_option linter.unusedSimpArgs false
open Go.Proofs.Ytgjlkcdnlndlnaa.Sx F
end Go.Proofs.Ytgjlkcdnlndlnaa
/- Names with values that may be: walked, exact. -/
namespace Go.Proofs.Ytgjlkcdnlndlnaa
open Go Go.Proofs.Ytgjlkcdnlndlnaa.Sx F
set_option linter.unusedVariables false
set_option linter.unusedSimpArgs false
def u8Ch (b : Th UInt8) : AV := .cons (.int .u8 fun _ => zi (b .o).toNat) .nil
def hexS : List UInt8 := [48, 49, 50, 51, 52, 53, 54, 55, 56, 57, 65, 66, 67, 68, 69, 70]
theorem escS_succ (l : List UInt8) (k : Nat) (h : k < l.length) : escS (l.take (k + 1)) = escS (l.take k) ++ escB (l.getD k 0) := by
  rw [escS_take l k h, List.getD_eq_getElem?_getD, List.getElem?_eq_getElem h]; rfl
theorem escB_ge (c : UInt8) : 1 ≤ (escB c).length := by unfold escB; split <;> simp
theorem escS_ge : ∀ l : List UInt8, l.length ≤ (escS l).length
  | [] => Nat.le_refl _
  | c :: r => by
    have h1 := escS_ge r
    have h2 := escB_ge c
    simp only [escS, List.flatMap_cons, List.length_append, List.length_cons] at h1 ⊢
    omega
theorem bytes_u8 {n : Nat} {g : Th Nat → AV} (l : List UInt8) (hn : n = l.length) (hg : ∀ i, i < n → g (fun _ => i) = u8Ch fun _ => l.getD i 0) : bytesN n g = l := by
  subst hn
  unfold bytesN
  apply List.ext_getElem?
  intro i
  rw [List.getElem?_map]
  by_cases h : i < l.length
  · rw [List.getElem?_range h, List.getElem?_eq_getElem h]
    simp only [Option.map_some, hg i h]
    show some (UInt8.ofNat (zi (l.getD i 0).toNat).toNat) = _
    rw [zi_toNat, List.getD_eq_getElem?_getD, List.getElem?_eq_getElem h]
    simp
  · rw [List.getElem?_eq_none (by simp; omega), List.getElem?_eq_none (by omega)]; rfl
theorem plain_lt {c : UInt8} (h : zi c.toNat < 33) : plainB c.toNat = false := by
  unfold zi at h
  unfold plainB; rw [decide_eq_false (by omega : ¬ 33 ≤ (c.toNat : Int))]; rfl
theorem plain_gt {c : UInt8} (h : 126 < zi c.toNat) : plainB c.toNat = false := by
  unfold zi at h
  unfold plainB; rw [decide_eq_false (by omega : ¬ (c.toNat : Int) ≤ 126)]; simp
theorem plain_37 {c : UInt8} (h : zi c.toNat = 37) : plainB c.toNat = false := by
  have h : (c.toNat : Int) = 37 := h
  rw [h]; rfl
theorem plain_61 {c : UInt8} (h : zi c.toNat = 61) : plainB c.toNat = false := by
  have h : (c.toNat : Int) = 61 := h
  rw [h]; rfl
theorem plain_ok {c : UInt8} (h1 : ¬ zi c.toNat < 33) (h2 : ¬ 126 < zi c.toNat) (h3 : ¬ zi c.toNat = 37) (h4 : ¬ zi c.toNat = 61) : plainB c.toNat = true := by
  unfold zi at h1 h2 h3 h4
  unfold plainB
  rw [decide_eq_true (by omega : 33 ≤ (c.toNat : Int)), decide_eq_true (by omega : (c.toNat : Int) ≤ 126), decide_eq_false h3, decide_eq_false h4]; rfl
theorem hex_hi_fin : ∀ n : Fin 256, (0 ≤ (zi n.1).fdiv (2 ^ min (Int.toNat 4) IntKind.u8.bits) ∧ (zi n.1).fdiv (2 ^ min (Int.toNat 4) IntKind.u8.bits) < zi 16) ∧ hexS.getD ((zi n.1).fdiv (2 ^ min (Int.toNat 4) IntKind.u8.bits)).toNat 0 = hexB (UInt8.ofNat n.1 / 16) := by decide +kernel
theorem hex_hi (c : UInt8) : (0 ≤ (zi c.toNat).fdiv (2 ^ min (Int.toNat 4) IntKind.u8.bits) ∧ (zi c.toNat).fdiv (2 ^ min (Int.toNat 4) IntKind.u8.bits) < zi 16) ∧ hexS.getD ((zi c.toNat).fdiv (2 ^ min (Int.toNat 4) IntKind.u8.bits)).toNat 0 = hexB (c / 16) := by
  have := hex_hi_fin ⟨c.toNat, c.toNat_lt⟩
  simpa using this
theorem hex_lo_fin : ∀ n : Fin 256, (0 ≤ abits .and .u8 (zi n.1) 15 ∧ abits .and .u8 (zi n.1) 15 < zi 16) ∧ hexS.getD (abits .and .u8 (zi n.1) 15).toNat 0 = hexB (UInt8.ofNat n.1 % 16) := by decide +kernel
theorem hex_lo (c : UInt8) : (0 ≤ abits .and .u8 (zi c.toNat) 15 ∧ abits .and .u8 (zi c.toNat) 15 < zi 16) ∧ hexS.getD (abits .and .u8 (zi c.toNat) 15).toNat 0 = hexB (c % 16) := by
  have := hex_lo_fin ⟨c.toNat, c.toNat_lt⟩
  simpa using this
theorem r1esc_c (s : Th (List UInt8)) (hs : (s .o).length ≤ 1099511627776) {d : Nat} {K : ARes → BL → Prop} (hr : ∀ t : Th (List UInt8), t .o = escS (s .o) → K (.ret (.str t)) .nil) : CallAt PT r1_Escape [.str s] d .nil K := by
  refine CallAt.res ?_
  refine r1_Escape.of rfl rfl ?_
  cbv
  refine nil_tmp 3 9000 1 (fun i => u8Ch fun _ => ([] : List UInt8).getD (i .o) 0) rfl rfl ?_
  refine loop_at (X := Nat) 1000 [0, 4] [] (fun _ k => .cons 3 (.row 9000) (.cons 5 (.int .i64 fun _ => zi k) .nil)) (fun _ k => .cons 9000 (rowB 1 u8Ch 0 fun _ => escS ((s .o).take k)) .nil)
    (fun k => k ≤ (s .o).length) (fun k => (s .o).length - k) 0 ?_ (Nat.zero_le _) ?_
  · cbv
    (repeat' (first | exact True.intro | exact Same.refl _ | exact SameB.refl _ | exact ⟨rfl⟩ | exact Same.int rfl | exact Same.str rfl | exact Same.bool rfl | (refine Same.int ?_; simp only [List.length_append, List.length_cons, List.length_nil, zi]; omega) | (refine SameB.row' rfl fun i hi => ?_; first | rfl | exact absurd hi (Nat.not_lt_zero _)) | refine And.intro ?_ ?_ | refine SameB.cells ?_ | exact SameC.nil | refine SameC.cons ?_ ?_ | exact Same.nsl rfl | exact Same.tt rfl | exact Same.ff rfl))
  · intro k hk
    have hz := zi_toNat k
    have hel := escS_len ((s .o).take k)
    rw [List.length_take] at hel
    cbv
    ((try refine br_rev ?_); (first | refine br_dec (fun h1 => ?_) (fun h1 => ?_) | refine br_ndec (fun h1 => ?_) (fun h1 => ?_) | refine br_nbool (fun h1 => ?_) (fun h1 => ?_) | refine br_bool (fun h1 => ?_) (fun h1 => ?_)); all_goals (try dsimp only at h1); all_goals (try with_reducible replace h1 := zi_lt.1 h1); all_goals (try with_reducible replace h1 := not_zlt h1))
    · cbv
      refine safe ⟨zi_nonneg _, zi_lt.2 h1⟩ ?_
      rw [hz]
      have hlt := zi_lt.2 h1
      refine br_rev (br_dec (fun h2 => ?_) (fun h2 => ?_))
      rotate_left
      focus
        cbv
        refine safe ⟨zi_nonneg _, hlt⟩ ?_
        rw [hz]
        refine br_rev (br_dec (fun h3 => ?_) (fun h3 => ?_))
        rotate_left
        focus
          cbv
          refine safe ⟨zi_nonneg _, hlt⟩ ?_
          rw [hz]
          refine br_rev (br_dec (fun h4 => ?_) (fun h4 => ?_))
          rotate_left
          focus
            cbv
            refine safe ⟨zi_nonneg _, hlt⟩ ?_
            rw [hz]
            refine br_dec (fun h5 => ?_) (fun h5 => ?_)
            rotate_left
            focus
              have hp := plain_ok h2 h3 h4 h5
              cbv
              refine safe ⟨zi_nonneg _, hlt⟩ ?_
              rw [hz]
              refine app_one u8Ch 0 (escS ((s .o).take k)) ((s .o).getD k 0) rfl (fun i hi => rfl) rfl rfl (by omega) ?_
              cbv
              refine ⟨k + 1, h1, by omega, ?_⟩
              cbv
              rw [zi_succ (by omega), escS_succ _ _ h1, show escB ((s .o).getD k 0) = [(s .o).getD k 0] by rw [escB, hp]; rfl]
              (repeat' (first | exact True.intro | exact Same.refl _ | exact SameB.refl _ | exact ⟨rfl⟩ | exact Same.int rfl | exact Same.str rfl | exact Same.bool rfl | (refine Same.int ?_; simp only [List.length_append, List.length_cons, List.length_nil, zi]; omega) | (refine SameB.row' rfl fun i hi => ?_; first | rfl | exact absurd hi (Nat.not_lt_zero _)) | refine And.intro ?_ ?_ | refine SameB.cells ?_ | exact SameC.nil | refine SameC.cons ?_ ?_ | exact Same.nsl rfl | exact Same.tt rfl | exact Same.ff rfl))
      all_goals
        have hp : plainB ((s .o).getD k 0).toNat = false := by first | exact plain_61 h5 | exact plain_37 h4 | exact plain_gt h3 | exact plain_lt h2
        cbv
        refine safe ⟨zi_nonneg _, hlt⟩ ?_
        refine safe (by decide) ?_
        rw [hz]
        refine safe (hex_hi _).1 ?_
        refine safe ⟨zi_nonneg _, hlt⟩ ?_
        try rw [hz]
        refine safe (hex_lo _).1 ?_
        refine app_rows u8Ch 0 (escS ((s .o).take k)) [37, hexS.getD ((zi ((s .o).getD k 0).toNat).fdiv (2 ^ min (Int.toNat 4) IntKind.u8.bits)).toNat 0, hexS.getD (abits .and .u8 (zi ((s .o).getD k 0).toNat) 15).toNat 0] rfl (fun i hi => rfl) rfl (fun i hi => by
          have hi : i < 3 := hi
          match i, hi with
          | 0, _ | 1, _ | 2, _ => rfl) (by simp only [List.length_cons, List.length_nil]; omega) ?_
        cbv
        refine ⟨k + 1, h1, by omega, ?_⟩
        cbv
        rw [zi_succ (by omega), escS_succ _ _ h1, show escB ((s .o).getD k 0) = [37, hexB ((s .o).getD k 0 / 16), hexB ((s .o).getD k 0 % 16)] by rw [escB, hp]; rfl, (hex_hi ((s .o).getD k 0)).2, (hex_lo ((s .o).getD k 0)).2]
        (repeat' (first | exact True.intro | exact Same.refl _ | exact SameB.refl _ | exact ⟨rfl⟩ | exact Same.int rfl | exact Same.str rfl | exact Same.bool rfl | (refine Same.int ?_; simp only [List.length_append, List.length_cons, List.length_nil, zi]; omega) | (refine SameB.row' rfl fun i hi => ?_; first | rfl | exact absurd hi (Nat.not_lt_zero _)) | refine And.intro ?_ ?_ | refine SameB.cells ?_ | exact SameC.nil | refine SameC.cons ?_ ?_ | exact Same.nsl rfl | exact Same.tt rfl | exact Same.ff rfl))
    · obtain rfl : k = (s .o).length := by have h1 : (s .o).length ≤ k := h1; omega
      cbv
      refine safe (fun i _ => ⟨_, rfl⟩) ?_
      refine ⟨_, .ret (.refl _), hr _ ?_⟩
      have hall : (s .o).take (s .o).length = s .o := List.take_length
      show bytesN (escS ((s .o).take (s .o).length)).length _ = _
      rw [hall]
      exact bytes_u8 _ rfl fun i hi => rfl
theorem hasAny1_c (s : Th (List UInt8)) (c : UInt8) (hs : (s .o).length ≤ 1099511627776) {d : Nat} {K : ARes → BL → Prop} (hr : ∀ b : Th Bool, (b .o = true ↔ c ∈ s .o) → K (.ret (.bool b)) .nil) : CallAt PT r9_hasAny [.str s, .str fun _ => [c]] d .nil K := by
  refine CallAt.res ?_
  refine r9_hasAny.of rfl rfl ?_
  cbv
  refine loop_at (X := Nat) 1000 [0, 1] [] (fun _ k => .cons 5 (.int .i64 fun _ => zi k) .nil) (fun _ k => .nil)
    (fun k => k ≤ (s .o).length ∧ ∀ j, j < k → (s .o).getD j 0 ≠ c) (fun k => (s .o).length - k) 0 ?_ ⟨Nat.zero_le _, fun j hj => absurd hj (Nat.not_lt_zero _)⟩ ?_
  · cbv
    (repeat' (first | exact True.intro | exact Same.refl _ | exact SameB.refl _ | exact ⟨rfl⟩ | exact Same.int rfl | exact Same.str rfl | exact Same.bool rfl | (refine Same.int ?_; simp only [List.length_append, List.length_cons, List.length_nil, zi]; omega) | (refine SameB.row' rfl fun i hi => ?_; first | rfl | exact absurd hi (Nat.not_lt_zero _)) | refine And.intro ?_ ?_ | refine SameB.cells ?_ | exact SameC.nil | refine SameC.cons ?_ ?_ | exact Same.nsl rfl | exact Same.tt rfl | exact Same.ff rfl))
  · rintro k ⟨hk, hno⟩
    have hz := zi_toNat k
    cbv
    ((try refine br_rev ?_); (first | refine br_dec (fun h1 => ?_) (fun h1 => ?_) | refine br_ndec (fun h1 => ?_) (fun h1 => ?_) | refine br_nbool (fun h1 => ?_) (fun h1 => ?_) | refine br_bool (fun h1 => ?_) (fun h1 => ?_)); all_goals (try dsimp only at h1); all_goals (try with_reducible replace h1 := zi_lt.1 h1); all_goals (try with_reducible replace h1 := not_zlt h1))
    · cbv
      refine loop_at (X := Nat) 1000 [0, 1, 5] [] (fun _ i => .cons 6 (.int .i64 fun _ => zi i) .nil) (fun _ k => .nil)
        (fun i => i ≤ 1 ∧ (i = 1 → (s .o).getD k 0 ≠ c)) (fun i => 1 - i) 0 ?_ ⟨Nat.zero_le _, fun q => by cases q⟩ ?_
      · cbv
        (repeat' (first | exact True.intro | exact Same.refl _ | exact SameB.refl _ | exact ⟨rfl⟩ | exact Same.int rfl | exact Same.str rfl | exact Same.bool rfl | (refine Same.int ?_; simp only [List.length_append, List.length_cons, List.length_nil, zi]; omega) | (refine SameB.row' rfl fun i hi => ?_; first | rfl | exact absurd hi (Nat.not_lt_zero _)) | refine And.intro ?_ ?_ | refine SameB.cells ?_ | exact SameC.nil | refine SameC.cons ?_ ?_ | exact Same.nsl rfl | exact Same.tt rfl | exact Same.ff rfl))
      · rintro i ⟨hi, hic⟩
        cbv
        refine br_zlt (fun h2 => ?_) (fun h2 => ?_)
        · have h2 : i < 1 := h2
          obtain rfl : i = 0 := by omega
          cbv
          refine safe ⟨zi_nonneg _, zi_lt.2 h1⟩ ?_
          refine safe ⟨zi_nonneg _, (by show zi 0 < zi 1; decide)⟩ ?_
          refine br_dec (fun h3 => ?_) (fun h3 => ?_)
          · have h3 : zi ((s .o).getD (zi k).toNat 0).toNat = zi c.toNat := h3
            rw [hz] at h3
            have h3 : (s .o).getD k 0 = c := UInt8.toNat_inj.1 (zi_inj.1 h3)
            cbv
            refine ⟨_, .ret (.tt rfl), hr (fun _ => true) ⟨fun _ => ?_, fun _ => rfl⟩⟩
            rw [← h3, List.getD_eq_getElem?_getD, List.getElem?_eq_getElem h1]
            exact List.getElem_mem h1
          · have h3 : ¬ zi ((s .o).getD (zi k).toNat 0).toNat = zi c.toNat := h3
            rw [hz] at h3
            cbv
            refine ⟨1, ⟨Nat.le_refl _, fun _ e => h3 (by rw [e])⟩, by decide, ?_⟩
            cbv
            (repeat' (first | exact True.intro | exact Same.refl _ | exact SameB.refl _ | exact ⟨rfl⟩ | exact Same.int rfl | exact Same.str rfl | exact Same.bool rfl | (refine Same.int ?_; simp only [List.length_append, List.length_cons, List.length_nil, zi]; omega) | (refine SameB.row' rfl fun i hi => ?_; first | rfl | exact absurd hi (Nat.not_lt_zero _)) | refine And.intro ?_ ?_ | refine SameB.cells ?_ | exact SameC.nil | refine SameC.cons ?_ ?_ | exact Same.nsl rfl | exact Same.tt rfl | exact Same.ff rfl))
        · obtain rfl : i = 1 := by have h2 : 1 ≤ i := h2; omega
          cbv
          refine ⟨k + 1, ⟨h1, fun j hj => ?_⟩, by omega, ?_⟩
          · rcases Nat.lt_or_ge j k with q | q
            · exact hno j q
            · obtain rfl : j = k := by omega
              exact hic rfl
          cbv
          rw [zi_succ (by omega)]
          (repeat' (first | exact True.intro | exact Same.refl _ | exact SameB.refl _ | exact ⟨rfl⟩ | exact Same.int rfl | exact Same.str rfl | exact Same.bool rfl | (refine Same.int ?_; simp only [List.length_append, List.length_cons, List.length_nil, zi]; omega) | (refine SameB.row' rfl fun i hi => ?_; first | rfl | exact absurd hi (Nat.not_lt_zero _)) | refine And.intro ?_ ?_ | refine SameB.cells ?_ | exact SameC.nil | refine SameC.cons ?_ ?_ | exact Same.nsl rfl | exact Same.tt rfl | exact Same.ff rfl))
    · have h1 : (s .o).length ≤ k := h1
      cbv
      refine ⟨_, .ret (.ff rfl), hr (fun _ => false) ⟨fun q => (by cases q), fun q => ?_⟩⟩
      obtain ⟨j, hj, hjc⟩ := List.getElem_of_mem q
      exact (hno j (by omega) (by rw [List.getD_eq_getElem?_getD, List.getElem?_eq_getElem hj]; exact hjc)).elim
def XOk (x : Xattr) : Prop := x.name ≠ [] ∧ (escS x.name).length ≤ 238 ∧ ¬ (0 : UInt8) ∈ x.name ∧ x.value.length ≤ 4096
def leS (a b : List UInt8) : Bool := strLt a b || decide (a = b)
structure XsTo (l : List Xattr) (k : Nat) : Prop where
  ok : ∀ j, j < k → XOk (l.getD j Xattr.z)
  up : ∀ j, j + 1 < k → leS (l.getD (j + 1) Xattr.z).name (l.getD j Xattr.z).name = false
structure XsOk (l : List Xattr) : Prop where
  to : XsTo l l.length
  len : l.length ≤ 32
theorem xsTo_succ {l : List Xattr} {k : Nat} (h : XsTo l k) (h1 : XOk (l.getD k Xattr.z)) (h2 : k = 0 ∨ leS (l.getD k Xattr.z).name (l.getD (k - 1) Xattr.z).name = false) : XsTo l (k + 1) := by
  refine ⟨fun j hj => ?_, fun j hj => ?_⟩
  · rcases Nat.lt_or_ge j k with q | q
    · exact h.ok j q
    · obtain rfl : j = k := by omega
      exact h1
  · rcases Nat.lt_or_ge (j + 1) k with q | q
    · exact h.up j q
    · obtain rfl : k = j + 1 := by omega
      rcases h2 with h2 | h2
      · omega
      · exact h2
def longX (l : List Xattr) : Prop := ∀ x ∈ l, x.name.length ≤ 1099511627776
theorem longX_at {l : List Xattr} (h : longX l) (k : Nat) : (l.getD k Xattr.z).name.length ≤ 1099511627776 := by
  rw [List.getD_eq_getElem?_getD]
  by_cases hk : k < l.length
  · rw [List.getElem?_eq_getElem hk]; exact h _ (List.getElem_mem hk)
  · rw [List.getElem?_eq_none (by omega)]; exact Nat.zero_le _
theorem xsmay9_c (l : Th (List Xattr)) (hl : short (l .o)) (hx : longX (l .o)) {d : Nat} {K : ARes → BL → Prop} (hr : ∀ b : Th Bool, (b .o = true ↔ XsOk (l .o)) → K (.ret (.bool b)) .nil) : CallAt PT r9_MayXattrs [xattrs l] d .nil K := by
  refine CallAt.res ?_
  have hf : ¬ XsOk (l .o) → ∃ r', SameR (.ret .ff) r' ∧ K r' .nil := fun h => ⟨_, .ret (.ff rfl), hr (fun _ => false) ⟨fun q => (by cases q), fun q => (h q).elim⟩⟩
  refine r9_MayXattrs.of rfl rfl ?_
  cbv
  refine loop_at (X := Nat) 1000 [0] [] (fun _ k => .cons 3 (.int .i64 fun _ => zi k) .nil) (fun _ k => .nil)
    (fun k => k ≤ (l .o).length ∧ XsTo (l .o) k) (fun k => (l .o).length - k) 0 ?_ ⟨Nat.zero_le _, ⟨fun j hj => absurd hj (Nat.not_lt_zero _), fun j hj => absurd hj (Nat.not_lt_zero _)⟩⟩ ?_
  · cbv
    (repeat' (first | exact True.intro | exact Same.refl _ | exact SameB.refl _ | exact ⟨rfl⟩ | exact Same.int rfl | exact Same.str rfl | exact Same.bool rfl | (refine Same.int ?_; simp only [List.length_append, List.length_cons, List.length_nil, zi]; omega) | (refine SameB.row' rfl fun i hi => ?_; first | rfl | exact absurd hi (Nat.not_lt_zero _)) | refine And.intro ?_ ?_ | refine SameB.cells ?_ | exact SameC.nil | refine SameC.cons ?_ ?_ | exact Same.nsl rfl | exact Same.tt rfl | exact Same.ff rfl))
  · rintro k ⟨hk, hto⟩
    have hz := zi_toNat k
    unfold short at hl
    cbv
    ((try refine br_rev ?_); (first | refine br_dec (fun h1 => ?_) (fun h1 => ?_) | refine br_ndec (fun h1 => ?_) (fun h1 => ?_) | refine br_nbool (fun h1 => ?_) (fun h1 => ?_) | refine br_bool (fun h1 => ?_) (fun h1 => ?_)); all_goals (try dsimp only at h1); all_goals (try with_reducible replace h1 := zi_lt.1 h1); all_goals (try with_reducible replace h1 := not_zlt h1))
    · have h1 : k < (l .o).length := h1
      have hlt := zi_lt.2 h1
      have hxk := longX_at hx k
      cbv
      refine safe ⟨zi_nonneg _, hlt⟩ ?_
      rw [hz]
      refine br_rev (br_dec (fun h2 => ?_) (fun h2 => ?_))
      · cbv
        exact hf fun q => (q.to.ok k h1).1 (List.eq_nil_of_length_eq_zero (zi_inj.1 h2))
      have h2 : ((l .o).getD k Xattr.z).name ≠ [] := fun e => h2 (by show zi ((l .o).getD k Xattr.z).name.length = 0; rw [e]; rfl)
      cbv
      refine br_rev (br_dec (fun h3 => ?_) (fun h3 => ?_))
      · cbv
        exact hf fun q => by
          have h3 : 238 < zi ((l .o).getD k Xattr.z).name.length := h3
          have h4 := (q.to.ok k h1).2.1
          have h5 := escS_ge ((l .o).getD k Xattr.z).name
          unfold zi at h3
          omega
      cbv
      refine hasAny1_c (fun _ => ((l .o).getD k Xattr.z).name) 0 hxk fun b hb => ?_
      have hb : b .o = true ↔ 0 ∈ ((l .o).getD k Xattr.z).name := hb
      cbv
      refine br_rev (br_bool (fun h4 => ?_) (fun h4 => ?_))
      · cbv
        exact hf fun q => (q.to.ok k h1).2.2.1 (hb.1 h4)
      have h4 : ¬ 0 ∈ ((l .o).getD k Xattr.z).name := fun e => by rw [hb.2 e] at h4; cases h4
      cbv
      refine r1esc_c (fun _ => ((l .o).getD k Xattr.z).name) hxk fun t ht => ?_
      have ht : t .o = escS ((l .o).getD k Xattr.z).name := ht
      cbv
      refine br_rev (br_dec (fun h5 => ?_) (fun h5 => ?_))
      · cbv
        exact hf fun q => by have h5 : 238 < zi (t .o).length := h5; have := (q.to.ok k h1).2.1; rw [ht] at h5; unfold zi at h5; omega
      have h5 : (escS ((l .o).getD k Xattr.z).name).length ≤ 238 := by have h5 : ¬ 238 < zi (t .o).length := h5; rw [ht] at h5; unfold zi at h5; omega
      cbv
      refine safe ⟨zi_nonneg _, hlt⟩ ?_
      rw [hz]
      refine br_rev (br_dec (fun h6 => ?_) (fun h6 => ?_))
      · cbv
        exact hf fun q => by have h6 : 4096 < zi ((l .o).getD k Xattr.z).value.length := h6; have := (q.to.ok k h1).2.2.2; unfold zi at h6; omega
      have h6 : ((l .o).getD k Xattr.z).value.length ≤ 4096 := by have h6 : ¬ 4096 < zi ((l .o).getD k Xattr.z).value.length := h6; unfold zi at h6; omega
      have hok : XOk ((l .o).getD k Xattr.z) := ⟨h2, h5, h4, h6⟩
      have succ := zi_succ (k := k) (by omega)
      cbv
      refine br_dec (fun h7 => ?_) (fun h7 => ?_)
      · have h7 : 0 < k := by have h7 : 0 < zi k := h7; unfold zi at h7; omega
        have hi1 : 0 ≤ IntKind.i64.wrap (zi k - 1) ∧ IntKind.i64.wrap (zi k - 1) < zi (l .o).length := by rw [IntKind.wrap_i64]; unfold zi; omega
        have hi2 : (IntKind.i64.wrap (zi k - 1)).toNat = k - 1 := by rw [IntKind.wrap_i64]; unfold zi; omega
        cbv
        refine safe hi1 ?_
        rw [hi2]
        refine br_bool (fun h8 => ?_) (fun h8 => ?_)
        · cbv
          exact hf fun q => by have := q.to.up (k - 1) (by omega); rw [show k - 1 + 1 = k by omega] at this; rw [leS] at this; rw [this] at h8; cases h8
        cbv
        refine ⟨k + 1, ⟨h1, xsTo_succ hto hok (.inr h8)⟩, by omega, ?_⟩
        cbv
        rw [succ]
        (repeat' (first | exact True.intro | exact Same.refl _ | exact SameB.refl _ | exact ⟨rfl⟩ | exact Same.int rfl | exact Same.str rfl | exact Same.bool rfl | (refine Same.int ?_; simp only [List.length_append, List.length_cons, List.length_nil, zi]; omega) | (refine SameB.row' rfl fun i hi => ?_; first | rfl | exact absurd hi (Nat.not_lt_zero _)) | refine And.intro ?_ ?_ | refine SameB.cells ?_ | exact SameC.nil | refine SameC.cons ?_ ?_ | exact Same.nsl rfl | exact Same.tt rfl | exact Same.ff rfl))
      · have h7 : ¬ 0 < k := by have h7 : ¬ 0 < zi k := h7; unfold zi at h7; omega
        cbv
        refine ⟨k + 1, ⟨h1, xsTo_succ hto hok (.inl (by omega))⟩, by omega, ?_⟩
        cbv
        rw [succ]
        (repeat' (first | exact True.intro | exact Same.refl _ | exact SameB.refl _ | exact ⟨rfl⟩ | exact Same.int rfl | exact Same.str rfl | exact Same.bool rfl | (refine Same.int ?_; simp only [List.length_append, List.length_cons, List.length_nil, zi]; omega) | (refine SameB.row' rfl fun i hi => ?_; first | rfl | exact absurd hi (Nat.not_lt_zero _)) | refine And.intro ?_ ?_ | refine SameB.cells ?_ | exact SameC.nil | refine SameC.cons ?_ ?_ | exact Same.nsl rfl | exact Same.tt rfl | exact Same.ff rfl))
    · obtain rfl : k = (l .o).length := by have h1 : (l .o).length ≤ k := h1; omega
      cbv
      refine ⟨_, .ret (.refl _), hr _ ⟨fun q => ⟨hto, ?_⟩, fun q => decide_eq_true ?_⟩⟩
      · have q : zi (l .o).length ≤ 32 := of_decide_eq_true q
        unfold zi at q
        omega
      · show zi (l .o).length ≤ 32
        have := q.len
        unfold zi
        omega
end Go.Proofs.Ytgjlkcdnlndlnaa
/- What may be said of a node, and whether two are one: walked, exact. -/
namespace Go.Proofs.Ytgjlkcdnlndlnaa
open Go Go.Proofs.Ytgjlkcdnlndlnaa.Sx F
set_option linter.unusedVariables false
set_option linter.unusedSimpArgs false
structure MetaOk (m : Meta) (k : Int) : Prop where
  kind : k = 1 ∨ 3 ≤ k ∧ k ≤ 7
  mode : 0 ≤ m.mode ∧ m.mode ≤ 4095
  uid : IdOk m.uid
  gid : IdOk m.gid
  stamp : StampOk m.sec m.nano
  flags : mayF m.flags = true
  xs : XsOk m.xs
  acl : m.acl = [] ∨ AclOk m.acl ∧ modeA m.acl = band m.mode 511
  dflt : m.dflt = [] ∨ k = 6 ∧ AclOk m.dflt
  caps : CapsOk m.caps
  capk : k = 1 ∨ m.caps = Caps.zero
  sym : k ≠ 3 ∨ m.mode = 511 ∧ m.acl = [] ∧ m.flags = 0
structure MetaShort (m : Meta) : Prop where
  acl : short m.acl
  dflt : short m.dflt
  xs : short m.xs
  long : longX m.xs
end Go.Proofs.Ytgjlkcdnlndlnaa
/- meta.May, the document's, what is too heavy: walked, exact. -/
namespace Go.Proofs.Ytgjlkcdnlndlnaa
open Go Go.Proofs.Ytgjlkcdnlndlnaa.Sx F
set_option linter.unusedVariables false
set_option linter.unusedSimpArgs false
theorem maymeta9_c (m : Th Meta) (k : Th Int) (hs : MetaShort (m .o)) {d : Nat} {K : ARes → BL → Prop} (hr : ∀ b : Th Bool, (b .o = true ↔ MetaOk (m .o) (k .o)) → K (.ret (.bool b)) .nil) : CallAt PT r9_MayMeta [Meta.av m, .int .i64 k] d .nil K := by
  refine CallAt.res ?_
  have hf : ¬ MetaOk (m .o) (k .o) → ∃ r', SameR (.ret .ff) r' ∧ K r' .nil := fun h => ⟨_, .ret (.ff rfl), hr (fun _ => false) ⟨fun q => (by cases q), fun q => (h q).elim⟩⟩
  refine r9_MayMeta.of rfl rfl ?_
  cbv
  refine br_ndec (fun a1 => ?_) (fun a1 => ?_)
  focus
    have a1 : ¬ k .o = 1 := a1
    cbv
    refine br_rev (br_dec (fun a2 => ?_) (fun a2 => ?_))
    focus
      cbv
      exact hf fun q => by have a2 : k .o < 3 := a2; have := q.kind; omega
    have a2 : ¬ k .o < 3 := a2
    cbv
    refine br_dec (fun a3 => ?_) (fun a3 => ?_)
    focus
      cbv
      exact hf fun q => by have a3 : 7 < k .o := a3; have := q.kind; omega
    have a3 : ¬ 7 < k .o := a3
    have hK : k .o = 1 ∨ 3 ≤ k .o ∧ k .o ≤ 7 := .inr ⟨by omega, by omega⟩
    cbv
  rotate_left
  focus
    have hK : k .o = 1 ∨ 3 ≤ k .o ∧ k .o ≤ 7 := .inl a1
    cbv
  all_goals
    refine br_rev (br_dec (fun b1 => ?_) (fun b1 => ?_))
    focus
      cbv
      exact hf fun q => by have b1 : (m .o).mode < 0 := b1; have := q.mode; omega
    have b1 : ¬ (m .o).mode < 0 := b1
    cbv
    refine br_rev (br_dec (fun b2 => ?_) (fun b2 => ?_))
    focus
      cbv
      exact hf fun q => by have b2 : 4095 < (m .o).mode := b2; have := q.mode; omega
    have b2 : ¬ 4095 < (m .o).mode := b2
    have hM : 0 ≤ (m .o).mode ∧ (m .o).mode ≤ 4095 := ⟨by omega, by omega⟩
    cbv
    refine id9_c (fun _ => (m .o).uid) fun c1 c2 => ?_
    cbv
    refine br_rev (br_nbool (fun c3 => ?_) (fun c3 => ?_))
    focus
      cbv
      exact hf fun q => by rw [c2.2 q.uid] at c3; cases c3
    have hU := c2.1 c3
    cbv
    refine id9_c (fun _ => (m .o).gid) fun c4 c5 => ?_
    cbv
    refine br_rev (br_nbool (fun c6 => ?_) (fun c6 => ?_))
    focus
      cbv
      exact hf fun q => by rw [c5.2 q.gid] at c6; cases c6
    have hG := c5.1 c6
    cbv
    refine stamp1_c (fun _ => (m .o).sec) (fun _ => (m .o).nano) fun d1 e1 => ?_
    cbv
    refine br_rev (br_nbool (fun f1 => ?_) (fun f1 => ?_))
    focus
      cbv
      exact hf fun q => by rw [e1.2 q.stamp] at f1; cases f1
    have hS := e1.1 f1
    cbv
    refine mayflags9_c (fun _ => (m .o).flags) fun d2 e2 => ?_
    cbv
    refine br_rev (br_nbool (fun f2 => ?_) (fun f2 => ?_))
    focus
      cbv
      exact hf fun q => by have := q.flags; rw [e2, this] at f2; cases f2
    have hF : mayF (m .o).flags = true := e2.symm.trans f2
    cbv
    refine xsmay9_c (fun _ => (m .o).xs) hs.xs hs.long fun d3 e3 => ?_
    cbv
    refine br_nbool (fun f3 => ?_) (fun f3 => ?_)
    focus
      cbv
      exact hf fun q => by rw [e3.2 q.xs] at f3; cases f3
    have hX := e3.1 f3
    cbv
    refine br_dec (fun g1 => ?_) (fun g1 => ?_)
  all_goals try (
    have hA : 0 < (m .o).acl.length := by have g1 : 0 < zi (m .o).acl.length := g1; unfold zi at g1; omega
    have hA : ¬ (m .o).acl = [] := fun e => by rw [e] at hA; exact absurd hA (by decide)
    cbv
    refine may9_c (fun _ => (m .o).acl) hs.acl fun g2 g3 => ?_
    cbv
    refine br_rev (br_nbool (fun g4 => ?_) (fun g4 => ?_))
    focus
      cbv
      exact hf fun q => by rcases q.acl with q | q; exact hA q; rw [g3.2 q.1] at g4; cases g4
    have g5 := g3.1 g4
    cbv
    refine mode9_c (fun _ => (m .o).acl) hs.acl g5.good fun g6 g7 => ?_
    cbv
    refine br_ndec (fun g8 => ?_) (fun g8 => ?_)
    focus
      cbv
      exact hf fun q => by
        rcases q.acl with q | q
        · exact hA q
        · exact g8 (by rw [g7]; exact q.2)
    have hA : (m .o).acl = [] ∨ AclOk (m .o).acl ∧ modeA (m .o).acl = band (m .o).mode 511 := .inr ⟨g5, by rw [← g7]; exact g8⟩
    cbv)
  all_goals try (
    have hA : (m .o).acl = [] := List.eq_nil_of_length_eq_zero (by have g1 : ¬ 0 < zi (m .o).acl.length := g1; unfold zi at g1; omega)
    have hA : (m .o).acl = [] ∨ AclOk (m .o).acl ∧ modeA (m .o).acl = band (m .o).mode 511 := .inl hA
    cbv)
  all_goals
    refine br_dec (fun i1 => ?_) (fun i1 => ?_)
  all_goals try (
    have hD : 0 < (m .o).dflt.length := by have i1 : 0 < zi (m .o).dflt.length := i1; unfold zi at i1; omega
    have hD : ¬ (m .o).dflt = [] := fun e => by rw [e] at hD; exact absurd hD (by decide)
    cbv
    refine br_rev (br_ndec (fun i2 => ?_) (fun i2 => ?_))
    focus
      cbv
      exact hf fun q => by rcases q.dflt with q | q; exact hD q; exact i2 q.1
    have i2 : k .o = 6 := i2
    cbv
    refine may9_c (fun _ => (m .o).dflt) hs.dflt fun i3 i4 => ?_
    cbv
    refine br_nbool (fun i5 => ?_) (fun i5 => ?_)
    focus
      cbv
      exact hf fun q => by rcases q.dflt with q | q; exact hD q; rw [i4.2 q.2] at i5; cases i5
    have hD : (m .o).dflt = [] ∨ k .o = 6 ∧ AclOk (m .o).dflt := .inr ⟨i2, i4.1 i5⟩
    cbv)
  all_goals try (
    have hD : (m .o).dflt = [] := List.eq_nil_of_length_eq_zero (by have i1 : ¬ 0 < zi (m .o).dflt.length := i1; unfold zi at i1; omega)
    have hD : (m .o).dflt = [] ∨ k .o = 6 ∧ AclOk (m .o).dflt := .inl hD
    cbv)
  all_goals
    refine caps9_c (fun _ => (m .o).caps) fun j1 j2 => ?_
    cbv
    refine br_rev (br_nbool (fun j3 => ?_) (fun j3 => ?_))
    focus
      cbv
      exact hf fun q => by rw [j2.2 q.caps] at j3; cases j3
    have hC := j2.1 j3
    cbv
    refine br_ndec (fun j4 => ?_) (fun j4 => ?_)
  all_goals try (
    have j4 : ¬ (m .o).caps.ver = 0 := j4
    cbv
    refine br_ndec (fun j5 => ?_) (fun j5 => ?_)
    focus
      cbv
      exact hf fun q => by rcases q.capk with q | q; exact j5 q; exact j4 (by rw [q]; rfl)
    have hCk : k .o = 1 ∨ (m .o).caps = Caps.zero := .inl j5
    cbv)
  all_goals try (
    have j4 : (m .o).caps.ver = 0 := j4
    have hCk : k .o = 1 ∨ (m .o).caps = Caps.zero := .inr (by have hC : CapsOk (m .o).caps := hC; rcases hC with q | q | q; exact q; omega; omega)
    cbv)
  all_goals
    refine br_rev (br_ndec (fun l1 => ?_) (fun l1 => ?_))
  all_goals try (
    have l1 : ¬ k .o = 3 := l1
    cbv
    exact ⟨_, .ret (.tt rfl), hr (fun _ => true) ⟨fun _ => ⟨hK, hM, hU, hG, hS, hF, hX, hA, hD, hC, hCk, .inl l1⟩, fun _ => rfl⟩⟩)
  all_goals
    have l1 : k .o = 3 := l1
    cbv
    refine br_dec (fun l2 => ?_) (fun l2 => ?_)
    rotate_left
    focus
      cbv
      exact hf fun q => by rcases q.sym with q | q; exact q l1; exact l2 q.1
    cbv
    refine br_dec (fun l3 => ?_) (fun l3 => ?_)
    rotate_left
    focus
      cbv
      exact hf fun q => by rcases q.sym with q | q; exact q l1; exact l3 (by show zi (m .o).acl.length = 0; rw [q.2.1]; rfl)
    cbv
    exact ⟨_, .ret (.refl _), hr _ ⟨fun l4 => ⟨hK, hM, hU, hG, hS, hF, hX, hA, hD, hC, hCk, .inr ⟨l2, List.eq_nil_of_length_eq_zero (zi_inj.1 l3), of_decide_eq_true l4⟩⟩, fun q => decide_eq_true (by rcases q.sym with q | q; exact absurd l1 q; exact q.2.2)⟩⟩
end Go.Proofs.Ytgjlkcdnlndlnaa
/- The lists that the laws make by numbers may be, and have their mode: plain. -/
namespace Go.Proofs.Ytgjlkcdnlndlnaa
open Go Go.Proofs.Ytgjlkcdnlndlnaa.Sx F
set_option linter.unusedVariables false
set_option linter.unusedSimpArgs false
theorem aclTo_of {l : List Ace} (h1 : ∀ a ∈ l, (1 ≤ a.tag ∧ a.tag ≤ 6) ∧ AceOk a) (h2 : l.Pairwise aft) : AclTo l l.length := by
  have mem : ∀ j, j < l.length → l.getD j Ace.z ∈ l := fun j hj => by
    rw [List.getD_eq_getElem?_getD, List.getElem?_eq_getElem hj]; exact List.getElem_mem hj
  refine ⟨fun j hj => (h1 _ (mem j hj)).1, fun j hj => (h1 _ (mem j hj)).2, fun j hj => ?_⟩
  have := List.pairwise_iff_getElem.1 h2 j (j + 1) (by omega) hj (by omega)
  rw [List.getD_eq_getElem?_getD, List.getElem?_eq_getElem (by omega : j < l.length), List.getD_eq_getElem?_getD, List.getElem?_eq_getElem hj]
  exact this
theorem addS_up (a : Ace) : ∀ l : List Ace, l.Pairwise (fun x y => x.id < y.id) → (addS a l).Pairwise fun x y => x.id < y.id
  | [], _ => by simp [addS]
  | x :: r, h => by
    obtain ⟨h1, h2⟩ := List.pairwise_cons.1 h
    unfold addS
    split
    · rename_i hlt
      refine List.pairwise_cons.2 ⟨fun y hy => ?_, addS_up a r h2⟩
      rcases mem_addS hy with rfl | hy
      · exact hlt
      · exact h1 y hy
    · rename_i hlt
      split
      · rename_i he
        exact List.pairwise_cons.2 ⟨fun y hy => by rw [← he]; exact h1 y hy, h2⟩
      · rename_i hne
        refine List.pairwise_cons.2 ⟨fun y hy => ?_, h⟩
        rcases List.mem_cons.1 hy with rfl | hy
        · omega
        · have := h1 y hy
          omega
theorem accS_up (ns : List Int) : ∀ k, ((accS ns k).1.Pairwise fun x y => x.id < y.id) ∧ (accS ns k).2.Pairwise fun x y => x.id < y.id
  | 0 => ⟨.nil, .nil⟩
  | k + 1 => by
    obtain ⟨h1, h2⟩ := accS_up ns k
    unfold accS
    split
    · exact ⟨addS_up _ _ h1, h2⟩
    · exact ⟨h1, addS_up _ _ h2⟩
theorem accS_id {ns : List Int} (hns : isBytes ns) : ∀ k, (∀ a ∈ (accS ns k).1, 0 ≤ a.id ∧ a.id ≤ 2147483647) ∧ ∀ a ∈ (accS ns k).2, 0 ≤ a.id ∧ a.id ≤ 2147483647
  | 0 => by simp [accS]
  | k + 1 => by
    obtain ⟨h1, h2⟩ := accS_id hns k
    have hb := byte_at hns (k := 2 * k)
    have hp : 0 ≤ (ns.getD (2 * k) 0).tdiv 2 ∧ (ns.getD (2 * k) 0).tdiv 2 ≤ 2147483647 := by rw [Int.tdiv_eq_ediv_of_nonneg hb.1]; omega
    unfold accS
    split
    · refine ⟨fun a ha => ?_, h2⟩
      rcases mem_addS ha with rfl | ha
      · exact hp
      · exact h1 a ha
    · refine ⟨h1, fun a ha => ?_⟩
      rcases mem_addS ha with rfl | ha
      · exact hp
      · exact h2 a ha
theorem cnt_app (a b : List Ace) (t : Nat) : cntN (a ++ b) (a ++ b).length t = cntN a a.length t + cntN b b.length t := by
  unfold cntN
  rw [List.take_length, List.take_length, List.take_length, List.countP_append]
theorem cnt_tag {l : List Ace} {s : Int} (h : ∀ a ∈ l, a.tag = s) (t : Nat) : cntN l l.length t = if s = (t : Int) then l.length else 0 := by
  unfold cntN
  rw [List.take_length]
  split
  · rename_i e
    exact List.countP_eq_length.2 fun a ha => decide_eq_true ((h a ha).trans e)
  · rename_i e
    exact List.countP_eq_zero.2 fun a ha q => e ((h a ha).symm.trans (of_decide_eq_true q))
theorem permS_app (a b : List Ace) (t : Int) : permS (a ++ b) t = (permS a t).or (permS b t) := by
  unfold permS
  rw [List.find?_append]
  cases a.find? fun x => decide (x.tag = t) <;> rfl
theorem permS_no {l : List Ace} {s t : Int} (h : ∀ a ∈ l, a.tag = s) (hst : s ≠ t) : permS l t = none := by
  unfold permS
  rw [List.find?_eq_none.2 fun a ha q => hst ((h a ha).symm.trans (of_decide_eq_true q))]; rfl
theorem l9_ok {ns : List Int} (hns : isBytes ns) (m : Int) : AclOk (l9S ns m) := by
  obtain ⟨h1, h2⟩ := accS_perm hns (pairs ns)
  obtain ⟨i1, i2⟩ := accS_id hns (pairs ns)
  obtain ⟨u1, u2⟩ := accS_up ns (pairs ns)
  have hl := accS_len ns (pairs ns)
  have hp6 : pairs ns ≤ 6 := Nat.min_le_left _ _
  have b1 := band_7 (m.fdiv (2 ^ 6))
  have b2 := band_7 (m.fdiv (2 ^ 3))
  have b3 := band_7 m
  have b4 := bxor_8 (band_7 (m.fdiv (2 ^ 3))) (b := (ns.getD 0 0).tmod 8) ⟨Int.tmod_nonneg _ (byte_at hns).1, Int.tmod_lt_of_pos _ (by decide)⟩
  have t1 : ∀ a ∈ (accS ns (pairs ns)).1, a.tag = 2 := fun a ha => (h1 a ha).2
  have t2 : ∀ a ∈ (accS ns (pairs ns)).2, a.tag = 4 := fun a ha => (h2 a ha).2
  have k1 : ∀ a ∈ (accS ns (pairs ns)).1, (1 ≤ a.tag ∧ a.tag ≤ 6) ∧ AceOk a := fun a ha => by
    have := h1 a ha
    have := i1 a ha
    unfold AceOk
    omega
  have k2 : ∀ a ∈ (accS ns (pairs ns)).2, (1 ≤ a.tag ∧ a.tag ≤ 6) ∧ AceOk a := fun a ha => by
    have := h2 a ha
    have := i2 a ha
    unfold AceOk
    omega
  have p1 : (accS ns (pairs ns)).1.Pairwise aft := u1.imp_of_mem fun {a b} ha hb q => .inr ⟨by rw [t1 a ha, t1 b hb], q⟩
  have p2 : (accS ns (pairs ns)).2.Pairwise aft := u2.imp_of_mem fun {a b} ha hb q => .inr ⟨by rw [t2 a ha, t2 b hb], q⟩
  have one : ∀ (t p : Int) (k : Nat), cntN [⟨t, 0, p⟩] 1 k = if t = (k : Int) then 1 else 0 := fun t p k => by
    unfold cntN
    by_cases q : t = (k : Int) <;> simp [q]
  have two : ∀ (t t' p p' : Int) (k : Nat), cntN [⟨t, 0, p⟩, ⟨t', 0, p'⟩] 2 k = (if t = (k : Int) then 1 else 0) + if t' = (k : Int) then 1 else 0 := fun t t' p p' k => by
    unfold cntN
    by_cases q : t = (k : Int) <;> by_cases q' : t' = (k : Int) <;> simp [q, q', List.countP_cons]
  unfold l9S
  dsimp only
  generalize (accS ns (pairs ns)).1 = u at *
  generalize (accS ns (pairs ns)).2 = g at *
  split
  · rename_i h0
    obtain rfl : u = [] := List.eq_nil_of_length_eq_zero (by omega)
    have cn : ∀ t, cntN ([(⟨1, 0, band (m.fdiv (2 ^ 6)) 7⟩ : Ace)] ++ [] ++ ([⟨3, 0, band (m.fdiv (2 ^ 3)) 7⟩, ⟨6, 0, band m 7⟩] : List Ace)) ([(⟨1, 0, band (m.fdiv (2 ^ 6)) 7⟩ : Ace)] ++ [] ++ ([⟨3, 0, band (m.fdiv (2 ^ 3)) 7⟩, ⟨6, 0, band m 7⟩] : List Ace)).length t = (if (1 : Int) = (t : Int) then 1 else 0) + ((if (3 : Int) = (t : Int) then 1 else 0) + if (6 : Int) = (t : Int) then 1 else 0) := fun t => by
      rw [cnt_app, cnt_app]
      show cntN _ 1 t + cntN [] 0 t + cntN _ 2 t = _
      rw [one, two, cntN_zero]; rfl
    refine ⟨aclTo_of (fun a ha => ?_) ?_, cn 1, cn 3, cn 6, ?_, by simp⟩
    · simp only [List.append_nil, List.cons_append, List.nil_append, List.mem_cons, List.not_mem_nil, or_false] at ha
      rcases ha with rfl | rfl | rfl <;> (unfold AceOk; dsimp only; omega)
    · simp [aft]
    · rw [cn 5, cn 2, cn 4]; rfl
  · rename_i h0
    have cn : ∀ t, cntN ([(⟨1, 0, band (m.fdiv (2 ^ 6)) 7⟩ : Ace)] ++ u ++ ([⟨3, 0, bxor (band (m.fdiv (2 ^ 3)) 7) ((ns.getD 0 0).tmod 8)⟩] : List Ace) ++ g ++ ([⟨5, 0, band (m.fdiv (2 ^ 3)) 7⟩, ⟨6, 0, band m 7⟩] : List Ace)) ([(⟨1, 0, band (m.fdiv (2 ^ 6)) 7⟩ : Ace)] ++ u ++ ([⟨3, 0, bxor (band (m.fdiv (2 ^ 3)) 7) ((ns.getD 0 0).tmod 8)⟩] : List Ace) ++ g ++ ([⟨5, 0, band (m.fdiv (2 ^ 3)) 7⟩, ⟨6, 0, band m 7⟩] : List Ace)).length t
        = (if (1 : Int) = (t : Int) then 1 else 0) + (if (2 : Int) = (t : Int) then u.length else 0) + (if (3 : Int) = (t : Int) then 1 else 0) + (if (4 : Int) = (t : Int) then g.length else 0) + ((if (5 : Int) = (t : Int) then 1 else 0) + if (6 : Int) = (t : Int) then 1 else 0) := fun t => by
      rw [cnt_app, cnt_app, cnt_app, cnt_app, cnt_tag t1, cnt_tag t2]
      show cntN _ 1 t + _ + cntN _ 1 t + _ + cntN _ 2 t = _
      rw [one, one, two]
    refine ⟨aclTo_of (fun a ha => ?_) ?_, cn 1, cn 3, cn 6, ?_, by simp only [List.length_append, List.length_cons, List.length_nil]; omega⟩
    · simp only [List.mem_append, List.mem_cons, List.not_mem_nil, or_false] at ha
      rcases ha with (((rfl | ha) | rfl) | ha) | rfl | rfl
      · unfold AceOk; dsimp only; omega
      · exact k1 a ha
      · unfold AceOk; dsimp only; omega
      · exact k2 a ha
      · unfold AceOk; dsimp only; omega
      · unfold AceOk; dsimp only; omega
    · simp only [List.pairwise_append, List.pairwise_cons, List.mem_append, List.mem_cons, List.not_mem_nil, or_false, false_or]
      refine ⟨⟨⟨⟨⟨fun a h => h.elim, .nil⟩, p1, fun a ha b hb => ?_⟩, ⟨fun a h => h.elim, .nil⟩, fun a ha b hb => ?_⟩, p2, fun a ha b hb => ?_⟩, ⟨fun a ha => ?_, fun a h => h.elim, .nil⟩, fun a ha b hb => ?_⟩
      · subst ha; left; rw [t1 b hb]; exact (by decide : (1 : Int) < 2)
      · subst hb
        left
        rcases ha with rfl | ha
        · exact (by decide : (1 : Int) < 3)
        · rw [t1 a ha]; exact (by decide : (2 : Int) < 3)
      · left
        rw [t2 b hb]
        rcases ha with (rfl | ha) | rfl
        · exact (by decide : (1 : Int) < 4)
        · rw [t1 a ha]; decide
        · exact (by decide : (3 : Int) < 4)
      · subst ha; left; exact (by decide : (5 : Int) < 6)
      · left
        have hb5 : b.tag = 5 ∨ b.tag = 6 := by rcases hb with rfl | rfl; exact .inl rfl; exact .inr rfl
        have ha4 : a.tag ≤ 4 := by
          rcases ha with ((rfl | ha) | rfl) | ha
          · exact (by decide : (1 : Int) ≤ 4)
          · rw [t1 a ha]; decide
          · exact (by decide : (3 : Int) ≤ 4)
          · rw [t2 a ha]; decide
        omega
    · rw [cn 5, cn 2, cn 4]
      show 0 + 0 + 0 + 0 + (1 + 0) = min 1 ((0 + u.length + 0 + 0 + (0 + 0)) + (0 + 0 + 0 + g.length + (0 + 0)))
      omega
theorem modeA_l9 {ns : List Int} (hns : isBytes ns) {m : Int} (hm : 0 ≤ m ∧ m < 512) : modeA (l9S ns m) = m := by
  obtain ⟨h1, h2⟩ := accS_perm hns (pairs ns)
  have t1 : ∀ a ∈ (accS ns (pairs ns)).1, a.tag = 2 := fun a ha => (h1 a ha).2
  have t2 : ∀ a ∈ (accS ns (pairs ns)).2, a.tag = 4 := fun a ha => (h2 a ha).2
  have e : band (m.fdiv (2 ^ 6)) 7 * 64 + band (m.fdiv (2 ^ 3)) 7 * 8 + band m 7 = m := by
    simp only [band_mod3]
    rw [show ((2 : Int) ^ 6) = 64 from rfl, show ((2 : Int) ^ 3) = 8 from rfl, Int.fdiv_eq_ediv_of_nonneg _ (by decide), Int.fdiv_eq_ediv_of_nonneg _ (by decide)]
    omega
  have b2 := band_7 (m.fdiv (2 ^ 3))
  unfold l9S modeA permR
  dsimp only
  split
  · rename_i h0
    have e0 : (accS ns (pairs ns)).1 = [] := List.eq_nil_of_length_eq_zero (by omega)
    rw [e0]
    simpa [permS, List.find?] using e
  · simp only [permS_app, permS_no t1 (by decide : (2 : Int) ≠ 1), permS_no t1 (by decide : (2 : Int) ≠ 5), permS_no t1 (by decide : (2 : Int) ≠ 3), permS_no t1 (by decide : (2 : Int) ≠ 6), permS_no t2 (by decide : (4 : Int) ≠ 1), permS_no t2 (by decide : (4 : Int) ≠ 5), permS_no t2 (by decide : (4 : Int) ≠ 3), permS_no t2 (by decide : (4 : Int) ≠ 6)]
    simp [permS, List.find?]
    rw [if_neg (by have := band_7 (m.fdiv 8); omega)]
    exact e
end Go.Proofs.Ytgjlkcdnlndlnaa
/- The laws of what is said of nodes: walked. -/
namespace Go.Proofs.Ytgjlkcdnlndlnaa
open Go Go.Proofs.Ytgjlkcdnlndlnaa.Sx F
set_option linter.unusedVariables false
set_option linter.unusedSimpArgs false
end Go.Proofs.Ytgjlkcdnlndlnaa
/- Names with values made by numbers may be: walked. -/
namespace Go.Proofs.Ytgjlkcdnlndlnaa
open Go Go.Proofs.Ytgjlkcdnlndlnaa.Sx F
set_option linter.unusedVariables false
set_option linter.unusedSimpArgs false
theorem le_lt {a b : List UInt8} : leS b a = false ↔ strLt a b = true := by
  unfold leS
  constructor
  · intro h
    simp only [Bool.or_eq_false_iff, decide_eq_false_iff_not] at h
    exact lt_tri h.1 h.2
  · intro h
    simp only [Bool.or_eq_false_iff, decide_eq_false_iff_not]
    refine ⟨?_, fun e => ?_⟩
    · cases q : strLt b a with
      | false => rfl
      | true => have := lt_trans' h q; rw [lt_irr] at this; cases this
    · subst e; rw [lt_irr] at h; cases h
theorem xsTo_of {l : List Xattr} (h1 : ∀ x ∈ l, XOk x) (h2 : l.Pairwise ltX) : XsTo l l.length := by
  refine ⟨fun j hj => ?_, fun j hj => ?_⟩
  · rw [List.getD_eq_getElem?_getD, List.getElem?_eq_getElem hj]; exact h1 _ (List.getElem_mem hj)
  · have := List.pairwise_iff_getElem.1 h2 j (j + 1) (by omega) hj (by omega)
    rw [List.getD_eq_getElem?_getD, List.getElem?_eq_getElem hj, List.getD_eq_getElem?_getD, List.getElem?_eq_getElem (by omega : j < l.length)]
    exact le_lt.2 this
theorem MadeX.ok {x : Xattr} (h : MadeX x) : XOk x := ⟨h.2.1, Nat.le_trans (escS_len _) (by have := h.1; omega), h.2.2.1, by have := h.2.2.2; omega⟩
theorem MadeXs.ok {l : List Xattr} (h : MadeXs l) : XsOk l := ⟨xsTo_of (fun x hx => (h.made x hx).ok) h.up, Nat.le_trans h.len (by decide)⟩
theorem MadeXs.long {l : List Xattr} (h : MadeXs l) : longX l := fun x hx => Nat.le_trans (h.made x hx).1 (by decide)
end Go.Proofs.Ytgjlkcdnlndlnaa
/- The laws MetaKinds and MetaAll: walked. -/
namespace Go.Proofs.Ytgjlkcdnlndlnaa
open Go Go.Proofs.Ytgjlkcdnlndlnaa.Sx F
set_option linter.unusedVariables false
set_option linter.unusedSimpArgs false
theorem mayF_of {f : Int} (h : 0 ≤ f ∧ f < 16) : mayF f = true := by
  unfold mayF
  rw [decide_eq_true h.1, decide_eq_true h.2]; rfl
theorem metaOk_made {ns : List Int} {m : Meta} {k : Int} (h1 : MadeM ns m) (h2 : MadeK k m) (hk : k = 1 ∨ 3 ≤ k ∧ k ≤ 7) : MetaOk m k := by
  have hm := h1.mode
  have hu := h1.uid
  have hg := h1.gid
  have hs := h2.sec
  refine ⟨hk, ⟨hm.1, by omega⟩, ⟨hu.1, by omega⟩, ⟨hg.1, by omega⟩, ⟨by omega, by omega, by rcases h2.nano with q | q <;> omega, by rcases h2.nano with q | q <;> omega⟩, mayF_of h2.flags, h1.xs.ok, ?_, ?_, ?_, ?_, ?_⟩
  · rcases h1.acl with q | ⟨ns', q1, q2⟩
    · exact .inl q
    · refine .inr ⟨by rw [q2]; exact l9_ok q1 _, ?_⟩
      rw [q2]
      exact modeA_l9 q1 (by rw [band_mod9]; omega)
  · rcases h2.dflt with q | ⟨q0, ns', n, q1, q2, q3⟩
    · exact .inl q
    · exact .inr ⟨q0, by rw [q3]; exact l9_ok q1 _⟩
  · rcases h2.caps with q | ⟨_, q⟩
    · exact .inl q
    · rcases q.ver with v | v
      · exact .inr (.inl ⟨v, q.root2 v⟩)
      · have := q.root3
        exact .inr (.inr ⟨v, this.1, by omega⟩)
  · rcases h2.caps with q | ⟨q, _⟩
    · exact .inr q
    · exact .inl q
  · by_cases q : k = 3
    · exact .inr (h2.sym q)
    · exact .inl q
theorem kind_ok (n : Int) : kindN n = 1 ∨ 3 ≤ kindN n ∧ kindN n ≤ 7 := by
  rcases (kindN_in n).2 with h | h | h | h | h | h <;> omega
end Go.Proofs.Ytgjlkcdnlndlnaa
/- The law DegradeFull, walked. -/
namespace Go.Proofs.Ytgjlkcdnlndlnaa
open Go Go.Proofs.Ytgjlkcdnlndlnaa.Sx F
set_option linter.unusedVariables false
set_option linter.unusedSimpArgs false
/-- A report in which all that was tried came out alike. -/
def uni (at' : List Int) (r : Int) (k : Nat) : List Item := ⟨[112], 1, 1⟩ :: (List.range k).map fun i => ⟨[112], at'.getD i 0, r⟩
theorem uni_succ (at' : List Int) (r : Int) (k : Nat) : uni at' r (k + 1) = uni at' r k ++ [⟨[112], at'.getD k 0, r⟩] := by
  unfold uni
  rw [List.range_succ, List.map_append, List.cons_append]; rfl
theorem uni_len (at' : List Int) (r : Int) (k : Nat) : (uni at' r k).length = k + 1 := by simp [uni]
theorem uni_last (at' : List Int) (r a : Int) (ha : a ≠ 1) : ∀ k, k ≤ at'.length → lastR (uni at' r k) [112] a = if a ∈ at'.take k then r else 0
  | 0, _ => by
    have : lastR (uni at' r 0) [112] a = 0 := by
      show lastR [⟨[112], 1, 1⟩] [112] a = 0
      unfold lastR
      simp [Ne.symm ha]
    rw [this]; simp
  | k + 1, hk => by
    rw [uni_succ, lastR_snoc, uni_last at' r a ha k (by omega), take_succ_getD at' 0 k (by omega)]
    unfold hit
    by_cases q : at'.getD k 0 = a
    · rw [if_pos (by rw [q]; simp), if_pos (by rw [q]; exact List.mem_append_right _ (List.mem_singleton.2 rfl))]
    · rw [if_neg (fun e => q (of_decide_eq_true e).2)]
      have : (a ∈ at'.take k ++ [at'.getD k 0]) ↔ a ∈ at'.take k := by
        rw [List.mem_append, List.mem_singleton]
        exact ⟨fun e => e.resolve_right fun e => q e.symm, .inl⟩
      simp only [this]
theorem uni_has {e : Entry} (hk : e.kind ≠ 2) (r a : Int) (ha : a ∈ attrsAll) : lastR (uni (attrsS e) r (attrsS e).length) [112] a = if hasA e a = true then r else 0 := by
  have h1 : a ≠ 1 := fun q => by subst q; exact absurd ha (by decide)
  rw [uni_last _ r a h1 _ (Nat.le_refl _), List.take_length]
  have : a ∈ attrsS e ↔ hasA e a = true := by
    unfold attrsS
    rw [if_neg hk, List.mem_filter]
    exact ⟨fun q => q.2, fun q => ⟨ha, q⟩⟩
  simp only [this]
theorem mode_bits : ∀ a : Fin 64, ∀ b : Fin 64, bor (bnot ((a.1 * 64 + b.1 : Nat) : Int) 511) (band ((a.1 * 64 + b.1 : Nat) : Int) 511) = ((a.1 * 64 + b.1 : Nat) : Int) := by decide +kernel
theorem mode_bits' {m : Int} (h : 0 ≤ m ∧ m < 4096) : bor (bnot m 511) (band m 511) = m := by
  have := mode_bits ⟨m.toNat / 64, by omega⟩ ⟨m.toNat % 64, by omega⟩
  rwa [show (((m.toNat / 64) * 64 + m.toNat % 64 : Nat) : Int) = m by omega] at this
theorem or4 : ∀ n : Fin 128, band (abits .or .i64 (n.1 : Int) 4) 4 = 4 := by decide +kernel
theorem or4' {p : Int} (h : 0 ≤ p ∧ p < 128) : band (abits .or .i64 p 4) 4 = 4 := by
  have := or4 ⟨p.toNat, by omega⟩
  rwa [show ((⟨p.toNat, by omega⟩ : Fin 128).1 : Int) = p from Int.toNat_of_nonneg h.1] at this
theorem hasA_vals (e : Entry) : hasA e 2 = true ∧ hasA e 8 = true ∧ hasA e 3 = !decide (e.kind = 3) ∧ hasA e 4 = decide (0 < e.mt.acl.length) ∧ hasA e 5 = decide (0 < e.mt.dflt.length) ∧ hasA e 6 = decide (0 < e.mt.xs.length) ∧ hasA e 7 = !decide (e.mt.caps.ver = 0) ∧ hasA e 9 = !decide (e.mt.flags = 0) :=
  ⟨rfl, rfl, rfl, rfl, rfl, rfl, rfl, rfl⟩
/-- What the report of an entry of which all came out says of one attribute. -/
theorem all1 {e : Entry} (hek : e.kind ≠ 2) {a : Int} (ha : a ∈ attrsAll) (q : hasA e a = true) : lastR (uni (attrsS e) 1 (attrsS e).length) [112] a = 1 := (uni_has hek 1 a ha).trans (if_pos q)
theorem all0 {e : Entry} (hek : e.kind ≠ 2) {a : Int} (ha : a ∈ attrsAll) (q : ¬ hasA e a = true) : lastR (uni (attrsS e) 1 (attrsS e).length) [112] a = 0 := (uni_has hek 1 a ha).trans (if_neg q)
structure AllOf (e : Entry) (l : List Item) : Prop where
  a2 : lastR l [112] 2 = 1
  a3 : ¬ e.kind = 3 → lastR l [112] 3 = 1
  a4 : 0 < e.mt.acl.length → lastR l [112] 4 = 1
  n4 : ¬ 0 < e.mt.acl.length → lastR l [112] 4 = 0
  a5 : 0 < e.mt.dflt.length → lastR l [112] 5 = 1
  n5 : ¬ 0 < e.mt.dflt.length → lastR l [112] 5 = 0
  a6 : 0 < e.mt.xs.length → lastR l [112] 6 = 1
  n6 : ¬ 0 < e.mt.xs.length → lastR l [112] 6 = 0
  a7 : ¬ e.mt.caps.ver = 0 → lastR l [112] 7 = 1
  n7 : e.mt.caps.ver = 0 → lastR l [112] 7 = 0
  a8 : lastR l [112] 8 = 1
  a9 : ¬ e.mt.flags = 0 → lastR l [112] 9 = 1
  n9 : e.mt.flags = 0 → lastR l [112] 9 = 0
theorem not_of_false {b : Bool} (h : b = false) : ¬ b = true := by rw [h]; exact Bool.false_ne_true
theorem allOf {e : Entry} (hek : e.kind ≠ 2) : AllOf e (uni (attrsS e) 1 (attrsS e).length) := by
  obtain ⟨v2, v8, v3, v4, v5, v6, v7, v9⟩ := hasA_vals e
  exact {
    a2 := all1 hek (by decide) v2
    a3 := fun q => all1 hek (by decide) (by rw [v3, decide_eq_false q]; rfl)
    a4 := fun q => all1 hek (by decide) (v4.trans (decide_eq_true q))
    n4 := fun q => all0 hek (by decide) (not_of_false (v4.trans (decide_eq_false q)))
    a5 := fun q => all1 hek (by decide) (v5.trans (decide_eq_true q))
    n5 := fun q => all0 hek (by decide) (not_of_false (v5.trans (decide_eq_false q)))
    a6 := fun q => all1 hek (by decide) (v6.trans (decide_eq_true q))
    n6 := fun q => all0 hek (by decide) (not_of_false (v6.trans (decide_eq_false q)))
    a7 := fun q => all1 hek (by decide) (by rw [v7, decide_eq_false q]; rfl)
    n7 := fun q => all0 hek (by decide) (not_of_false (by rw [v7, decide_eq_true q]; rfl))
    a8 := all1 hek (by decide) v8
    a9 := fun q => all1 hek (by decide) (by rw [v9, decide_eq_false q]; rfl)
    n9 := fun q => all0 hek (by decide) (not_of_false (by rw [v9, decide_eq_true q]; rfl)) }
theorem i01 : ¬ (0 : Int) = 1 := by decide
theorem i02 : ¬ (0 : Int) = 2 := by decide
theorem i12 : ¬ (1 : Int) = 2 := by decide
theorem all_mode {k : Int} {ns : List Int} {e : Entry} {c : Cred} {p : Int} {l : List Item} (h : MadeE k [112] ns e) (hk : k ≠ 2) (hp : 0 ≤ p ∧ p < 128) (hc : c.powers = abits .or .i64 p 4) (A : AllOf e l) : tmodeS e c l = e.mt.mode := by
  have hm := h.mt hk
  have hx := h.km hk
  unfold tmodeS
  rw [h.path]
  by_cases q3 : e.kind = 3
  · rw [if_pos q3]
    exact (hx.sym (by rw [← h.kind]; exact q3)).1.symm
  · rw [if_neg q3, A.a3 q3, if_neg i12, if_neg (fun q => q rfl)]
    rw [if_neg (by rintro ⟨_, _, q⟩; rw [hc, or4' hp] at q; exact absurd q (by decide))]
    by_cases q4 : 0 < e.mt.acl.length
    · rw [A.a4 q4, if_pos rfl]
    · rw [A.n4 q4, if_neg i01]
      unfold modeS
      rw [if_pos rfl, less_mode (List.eq_nil_of_length_eq_zero (by omega))]
      exact mode_bits' hm.mode
theorem len0 {α : Type} {l : List α} (h : ¬ 0 < l.length) : l = [] := List.eq_nil_of_length_eq_zero (by omega)
theorem deg_all {k : Int} {ns : List Int} {e : Entry} {c : Cred} {p : Int} {l : List Item} (h : MadeE k [112] ns e) (hk : k ≠ 2) (hp : 0 ≤ p ∧ p < 128) (hc : c.powers = abits .or .i64 p 4) (A : AllOf e l) : degS e c l = e.mt := by
  have hx := h.km hk
  have e2 : deg1 e c l = { metaZ with mode := e.mt.mode, uid := e.mt.uid, gid := e.mt.gid } := by
    unfold deg1 deg0 putOwner
    rw [h.path, A.a2, if_pos rfl, all_mode h hk hp hc A]
  have e3 : deg2 e c l = { metaZ with mode := e.mt.mode, uid := e.mt.uid, gid := e.mt.gid, acl := e.mt.acl } := by
    unfold deg2 putAcl
    rw [h.path, e2]
    by_cases q : 0 < e.mt.acl.length
    · rw [A.a4 q, if_pos rfl]
    · rw [A.n4 q, if_neg i01, len0 q]; rfl
  have e4 : deg3 e c l = { metaZ with mode := e.mt.mode, uid := e.mt.uid, gid := e.mt.gid, acl := e.mt.acl, dflt := e.mt.dflt } := by
    unfold deg3 putDflt
    rw [h.path, e3]
    by_cases q : 0 < e.mt.dflt.length
    · rw [A.a5 q, if_pos rfl]
    · rw [A.n5 q, if_neg i01, len0 q]; rfl
  have e5 : deg4 e c l = { metaZ with mode := e.mt.mode, uid := e.mt.uid, gid := e.mt.gid, acl := e.mt.acl, dflt := e.mt.dflt, xs := e.mt.xs } := by
    unfold deg4 putXs
    rw [h.path, e4]
    by_cases q : 0 < e.mt.xs.length
    · rw [A.a6 q, if_pos rfl]
    · rw [A.n6 q, if_neg i01, if_neg i02, len0 q]; rfl
  have e6 : deg5 e c l = { metaZ with mode := e.mt.mode, uid := e.mt.uid, gid := e.mt.gid, acl := e.mt.acl, dflt := e.mt.dflt, xs := e.mt.xs, caps := e.mt.caps } := by
    unfold deg5 putCaps
    rw [h.path, e5]
    by_cases q : e.mt.caps.ver = 0
    · have z : e.mt.caps = ⟨0, 0, 0, false, 0⟩ := by
        rcases hx.caps with q' | ⟨_, q'⟩
        · exact q'
        · rcases q'.ver with v | v <;> (rw [v] at q; exact absurd q (by decide))
      rw [A.n7 q, if_neg i01, z]; rfl
    · rw [A.a7 q, if_pos rfl]
  have e7 : deg6 e c l = { metaZ with mode := e.mt.mode, uid := e.mt.uid, gid := e.mt.gid, acl := e.mt.acl, dflt := e.mt.dflt, xs := e.mt.xs, caps := e.mt.caps, sec := e.mt.sec, nano := e.mt.nano } := by
    unfold deg6 putTime
    rw [h.path, e6, A.a8, if_pos rfl]
  unfold degS putFlags
  rw [h.path, e7]
  by_cases q : e.mt.flags = 0
  · rw [A.n9 q, if_neg i01, if_neg i02]
    refine Eq.trans ?_ (show ({ e.mt with flags := 0 } : Meta) = e.mt by rw [← q])
    rfl
  · rw [A.a9 q, if_pos rfl]
theorem deg_none {k : Int} {ns : List Int} {e : Entry} {c : Cred} (h : MadeE k [112] ns e) (hk : k ≠ 2) : degS e c (uni (attrsS e) 3 (attrsS e).length) = { metaZ with mode := stageS k, uid := c.uid, gid := c.gid } := by
  have hek : e.kind ≠ 2 := by rw [h.kind]; exact hk
  have L := fun a ha => uni_has hek 3 a ha
  have no : ∀ a, a ∈ attrsAll → ∀ r, r = 1 ∨ r = 2 → ¬ lastR (uni (attrsS e) 3 (attrsS e).length) [112] a = r := fun a ha r hr q => by
    rw [L a ha] at q
    split at q
    · rcases hr with rfl | rfl <;> exact absurd q (by decide)
    · rcases hr with rfl | rfl <;> exact absurd q (by decide)
  generalize uni (attrsS e) 3 (attrsS e).length = l at *
  unfold degS deg6 deg5 deg4 deg3 deg2 deg1
  rw [h.path, if_neg (no 9 (by decide) 1 (.inl rfl)), if_neg (no 9 (by decide) 2 (.inr rfl)), if_neg (no 8 (by decide) 1 (.inl rfl)), if_neg (no 7 (by decide) 1 (.inl rfl)), if_neg (no 6 (by decide) 1 (.inl rfl)), if_neg (no 6 (by decide) 2 (.inr rfl)), if_neg (no 5 (by decide) 1 (.inl rfl)), if_neg (no 4 (by decide) 1 (.inl rfl)), if_neg (no 2 (by decide) 1 (.inl rfl))]
  unfold deg0 tmodeS
  rw [h.path, h.kind]
  by_cases q : k = 3
  · rw [if_pos q, q]; rfl
  · rw [if_neg q, if_neg (no 3 (by decide) 2 (.inr rfl)), if_pos (no 3 (by decide) 1 (.inl rfl)), if_neg (no 10 (by decide) 1 (.inl rfl))]
theorem degradeFull_c (kind : Th Int) (ns cs : Th (List Int)) (pw : Th Int) (hk : 0 ≤ kind .o ∧ kind .o < 256) (hns : isBytes (ns .o)) (hs : short (ns .o)) (hcs : isBytes (cs .o)) (hs2 : short (cs .o)) (hpw : 0 ≤ pw .o ∧ pw .o < 256) :
    CallAt PT l25_DegradeFull [.int .u8 kind, byteI ns, byteI cs, .int .u8 pw] 9999 .nil Yes := by
  refine l25_DegradeFull.of rfl rfl ?_
  cbv
  refine safe (by decide) ?_
  have h6 : 0 ≤ (kind .o).tmod 6 ∧ (kind .o).tmod 6 < zi 6 := ⟨Int.tmod_nonneg _ hk.1, Int.tmod_lt_of_pos _ (by decide)⟩
  refine safe h6 ?_
  refine safe (by show ((kind .o).tmod 6).toNat < 6; unfold zi at h6; omega) ?_
  refine make15_c (fun _ => kindN (kind .o)) (fun _ => [112]) ns hns hs fun e he => ?_
  cbv
  refine cred_c cs hcs hs2 fun c0 hc0 => ?_
  cbv
  refine safe (by decide) ?_
  refine attrs21_c e fun at' hat => ?_
  cbv
  have hal : (at' .o).length ≤ 9 := by rw [hat]; exact attrs_len _
  refine loop_at (X := Nat) 1000 [0, 1, 9, 10, 11, 14] [10, 11] (fun _ k => .cons 12 (.row 33) (.cons 13 (.row 35) (.cons 15 (.int .i64 fun _ => zi k) .nil))) (fun _ k => .cons 33 (rowB 3 Item.ch Item.z fun _ => uni (at' .o) 1 k) (.cons 35 (rowB 3 Item.ch Item.z fun _ => uni (at' .o) 3 k) .nil)) (fun k => k ≤ (at' .o).length) (fun k => (at' .o).length - k) 0 ?_ (Nat.zero_le _) ?_
  · cbv
    (repeat' (first | exact True.intro | exact Same.refl _ | exact SameB.refl _ | exact ⟨rfl⟩ | exact Same.int rfl | exact Same.str rfl | exact Same.bool rfl | (refine Same.int ?_; simp only [List.length_append, List.length_cons, List.length_nil, zi]; omega) | (refine SameB.row' rfl fun i hi => ?_; first | rfl | exact absurd hi (Nat.not_lt_zero _)) | refine And.intro ?_ ?_ | refine SameB.cells ?_ | exact SameC.nil | refine SameC.cons ?_ ?_ | exact Same.nsl rfl | exact Same.tt rfl | exact Same.ff rfl))
    all_goals
      refine SameB.row' rfl fun i hi => ?_
      obtain rfl : i = 0 := Nat.lt_one_iff.1 hi
      rfl
  · intro k hkl
    have hz : (zi k).toNat = k := zi_toNat k
    have ul := fun r => uni_len (at' .o) r k
    cbv
    ((try refine br_rev ?_); (first | refine br_dec (fun h1 => ?_) (fun h1 => ?_) | refine br_ndec (fun h1 => ?_) (fun h1 => ?_) | refine br_nbool (fun h1 => ?_) (fun h1 => ?_) | refine br_bool (fun h1 => ?_) (fun h1 => ?_)); all_goals (try dsimp only at h1); all_goals (try with_reducible replace h1 := zi_lt.1 h1); all_goals (try with_reducible replace h1 := not_zlt h1))
    · cbv
      refine safe ⟨zi_nonneg _, zi_lt.2 h1⟩ ?_
      rw [hz]
      refine app_one Item.ch Item.z (uni (at' .o) 1 k) ⟨[112], (at' .o).getD k 0, 1⟩ rfl (fun i hi => rfl) rfl rfl (by rw [ul]; omega) ?_
      cbv
      refine safe ⟨zi_nonneg _, zi_lt.2 h1⟩ ?_
      rw [hz]
      refine app_one Item.ch Item.z (uni (at' .o) 3 k) ⟨[112], (at' .o).getD k 0, 3⟩ rfl (fun i hi => rfl) rfl rfl (by rw [ul]; omega) ?_
      cbv
      refine ⟨k + 1, h1, by omega, ?_⟩
      cbv
      rw [zi_succ (by omega), uni_succ, uni_succ]
      (repeat' (first | exact True.intro | exact Same.refl _ | exact SameB.refl _ | exact ⟨rfl⟩ | exact Same.int rfl | exact Same.str rfl | exact Same.bool rfl | (refine Same.int ?_; simp only [List.length_append, List.length_cons, List.length_nil, zi]; omega) | (refine SameB.row' rfl fun i hi => ?_; first | rfl | exact absurd hi (Nat.not_lt_zero _)) | refine And.intro ?_ ?_ | refine SameB.cells ?_ | exact SameC.nil | refine SameC.cons ?_ ?_ | exact Same.nsl rfl | exact Same.tt rfl | exact Same.ff rfl))
    · obtain rfl : k = (at' .o).length := by omega
      have hk2 := (kindN_in (kind .o)).1
      have hp : 0 ≤ (IntKind.i64.wrap (pw .o)).tmod 128 ∧ (IntKind.i64.wrap (pw .o)).tmod 128 < 128 := by
        rw [show IntKind.i64.wrap (pw .o) = pw .o by rw [IntKind.wrap_i64]; omega]
        exact ⟨Int.tmod_nonneg _ hpw.1, Int.tmod_lt_of_pos _ (by decide)⟩
      have hcg : ∀ p : Int, short ({ c0 .o with powers := p } : Cred).groups := fun p => Nat.le_trans hc0.len (by decide)
      cbv
      have ok : ∀ r : Int, DegOk (e .o) { c0 .o with powers := abits .or .i64 ((IntKind.i64.wrap (pw .o)).tmod 128) 4 } (uni (at' .o) r (at' .o).length) := fun r => (deg21Ok_made he hk2 (hcg _) (by rw [uni_len]; omega)).toDegOk
      refine deg_c e (fun _ => { c0 .o with powers := abits .or .i64 ((IntKind.i64.wrap (pw .o)).tmod 128) 4 }) (fun _ => uni (at' .o) 3 (at' .o).length) (ok 3) fun m1 hm1 => ?_
      cbv
      have hm1 : m1 .o = { metaZ with mode := stageS (kindN (kind .o)), uid := (c0 .o).uid, gid := (c0 .o).gid } := by rw [hm1, hat]; exact deg_none he hk2
      refine shut_row 33 ?_
      refine go_on 1000 ?_
      cbv
      refine deg_c e (fun _ => { c0 .o with powers := abits .or .i64 ((IntKind.i64.wrap (pw .o)).tmod 128) 4 }) (fun _ => uni (at' .o) 1 (at' .o).length) (ok 1) fun m2 hm2 => ?_
      have hm2 : m2 .o = (e .o).mt := by rw [hm2, hat]; exact deg_all he hk2 hp rfl (allOf (by rw [he.kind]; exact hk2))
      cbv
      have hmt := he.mt hk2
      have hkm := he.km hk2
      have hok := metaOk_made hmt hkm (kind_ok _)
      have sh : MetaShort (e .o).mt := ⟨hmt.short, Nat.le_trans (dflt_len hkm) (by decide), Nat.le_trans hmt.xs.len (by decide), hmt.xs.long⟩
      refine sameM_c m2 (fun _ => (e .o).mt) (by rw [hm2]; exact sh.acl) (by rw [hm2]; exact sh.dflt) (by rw [hm2]; exact sh.xs) fun b1 hb1 => ?_
      have hb1 : b1 .o = true := hb1.2 hm2
      cbv
      (first | refine br_is (hb1) ?_ | refine br_not (hb1) ?_ | refine br_rev (br_is (hb1) ?_) | refine br_rev (br_not (hb1) ?_))
      cbv
      refine stage21_c (fun _ => kindN (kind .o)) fun st hst => ?_
      cbv
      refine plain_c st _ _ fun m3 hm3 => ?_
      cbv
      refine sameM_c m1 m3 (by rw [hm1]; exact Nat.zero_le _) (by rw [hm1]; exact Nat.zero_le _) (by rw [hm1]; exact Nat.zero_le _) fun b2 hb2 => ?_
      have hb2 : b2 .o = true := hb2.2 (by rw [hm1, hm3, hst]; rfl)
      cbv
      (first | refine br_is (hb2) ?_ | refine br_not (hb2) ?_ | refine br_rev (br_is (hb2) ?_) | refine br_rev (br_not (hb2) ?_))
      cbv
      refine l14k_c ns (fun _ => kindN (kind .o)) hns hs fun m4 h4 h5 => ?_
      cbv
      have hok4 := metaOk_made h4 h5 (kind_ok _)
      refine maymeta9_c m4 (fun _ => kindN (kind .o)) ⟨h4.short, Nat.le_trans (dflt_len h5) (by decide), Nat.le_trans h4.xs.len (by decide), h4.xs.long⟩ fun b3 hb3 => ?_
      have hb3 : b3 .o = true := hb3.2 hok4
      cbv
      (first | refine br_is (hb3) ?_ | refine br_not (hb3) ?_ | refine br_rev (br_is (hb3) ?_) | refine br_rev (br_not (hb3) ?_))
      cbv
      refine awake25_c fun b4 hb4 => ?_
      cbv
      exact ⟨b4, rfl, hb4⟩
end Go.Proofs.Ytgjlkcdnlndlnaa
