/- Texts laid together: Arg, Wd7. -/
import Derived.WideShapes
import Derived.Test.YtjjddmbnfkmfdaaDoorMa4
/- Arguments of the program's own kinds, opened: what is kept of a file, who asks. -/
namespace Go.Proofs.YtjjddmbnfkmfdaaDoor
open Go Go.Proofs.YtjjddmbnfkmfdaaDoor.Sx
set_option linter.unusedVariables false
theorem th_eta {α : Type} (x : Th α) : (fun _ => x .o) = x := funext fun | .o => rfl
theorem rows_eq {α : Type} {ch : Th α → AV} {z : α} {g : Nat → AV} : ∀ m : Nat, (∀ j, j < m → ∃ a : α, g j = ch fun _ => a) → ∃ l : List α, l.length = m ∧ ∀ j, j < m → g j = ch fun _ => l.getD j z
  | 0, _ => ⟨[], rfl, fun j hj => absurd hj (Nat.not_lt_zero _)⟩
  | m + 1, h => by
    obtain ⟨l, h1, h2⟩ := rows_eq (z := z) m fun j hj => h j (by omega)
    obtain ⟨a, ha⟩ := h m (by omega)
    refine ⟨l ++ [a], by simp [h1], fun j hj => ?_⟩
    by_cases q : j < m
    · rw [h2 j q]
      congr 1
      funext _
      simp only [List.getD_eq_getElem?_getD]
      rw [List.getElem?_append_left (by omega)]
    · obtain rfl : j = m := by omega
      rw [ha]
      congr 1
      funext _
      simp [List.getD_eq_getElem?_getD, h1]
end Go.Proofs.YtjjddmbnfkmfdaaDoor
/- The document's example of wide lists, arguments, law WideAll: walked. -/
namespace Go.Proofs.YtjjddmbnfkmfdaaDoor
open Go Go.Proofs.YtjjddmbnfkmfdaaDoor.Sx F
set_option linter.unusedVariables false
set_option linter.unusedSimpArgs false
def wideC : CS := .i .i64 (.i .i64 (.i .i64 (.s .nil)))
def strC : CS := .s .nil
theorem wide_of {c : AV} (h : Shape wideC c) : ∃ a : WideE, c = WideE.ch fun _ => a := by
  obtain ⟨x, _, rfl, _, y, _, rfl, _, z, _, rfl, _, w, _, rfl, _, rfl⟩ := h
  refine ⟨⟨x .o, y .o, z .o, w .o⟩, ?_⟩
  show _ = AV.cons (.int .i64 fun _ => x .o) (.cons (.int .i64 fun _ => y .o) (.cons (.int .i64 fun _ => z .o) (.cons (.str fun _ => w .o) .nil)))
  rw [th_eta, th_eta, th_eta, th_eta]
theorem arg_wides {c : AV} (h : Shape (.sl wideC .nil) c) : ∃ l : List WideE, l.length ≤ 140737488351232 ∧ SameC c (.cons (wides fun _ => l) .nil) := by
  obtain ⟨n, g, t, rfl, hn, hg, ht⟩ := h
  cases ht
  obtain ⟨l, h1, h2⟩ := rows_eq (ch := WideE.ch) (z := WideE.z) (g := fun j => g fun _ => j) (n .o) fun j hj => wide_of (hg j hj)
  exact ⟨l, by omega, .cons (Same.sl h1.symm fun j hj => h2 j hj) .nil⟩
theorem str_of {c : AV} (h : Shape strC c) : ∃ a : List UInt8, c = strCh fun _ => a := by
  obtain ⟨x, _, rfl, _, rfl⟩ := h
  refine ⟨x .o, ?_⟩
  show _ = AV.cons (.str fun _ => x .o) .nil
  rw [th_eta]
theorem arg_strs {c : AV} (h : Shape (.sl strC .nil) c) : ∃ l : List (List UInt8), l.length ≤ 140737488351232 ∧ SameC c (.cons (strs fun _ => l) .nil) := by
  obtain ⟨n, g, t, rfl, hn, hg, ht⟩ := h
  cases ht
  obtain ⟨l, h1, h2⟩ := rows_eq (ch := strCh) (z := []) (g := fun j => g fun _ => j) (n .o) fun j hj => str_of (hg j hj)
  exact ⟨l, by omega, .cons (Same.sl h1.symm fun j hj => h2 j hj) .nil⟩
/-- OWNER@ -/
def ownerS : List UInt8 := [79, 87, 78, 69, 82, 64]
def exS : List UInt8 := [65, 58, 58, 79, 87, 78, 69, 82, 64, 58, 114, 119]
def exL : List WideE := [⟨1, 0, 3, ownerS⟩]
theorem ex_says : Says exS exL := ⟨(mayW_iff _).1 (by decide +kernel), by decide +kernel⟩
theorem one_str (x : List UInt8) : Same (.sl 1 (fun _ => 1) fun i => elemAt 1 (.cons (.str fun _ => x) .nil) (i .o)) (strs fun _ => [x]) :=
  Same.sl rfl fun i hi => by
    have hi : i < 1 := hi
    obtain rfl : i = 0 := by omega
    rfl
theorem aw10_c {d : Nat} {K : ARes → BL → Prop} (hr : ∀ b : Th Bool, b .o = true → K (.ret (.bool b)) .nil) : CallAt PT l10_awake [] d .nil K := by
  refine CallAt.res ?_
  refine l10_awake.of rfl rfl ?_
  cbv
  refine wparse_c (fun _ => exS) (by decide) fun l b hp => ?_
  obtain ⟨hb, hl⟩ := hp.of ex_says
  cbv
  refine br_is hb ?_
  cbv
  refine br_is (by show decide (zi (l .o).length = 1) = true; rw [hl]; rfl) ?_
  cbv
  refine safe (by show (0 : Int) ≤ 0 ∧ 0 < zi (l .o).length; rw [hl]; decide) ?_
  refine br_is (by show decide (((l .o).getD 0 WideE.z).mask = 3) = true; rw [hl]; rfl) ?_
  cbv
  have ok : AllOk (l .o) := by rw [hl]; exact ex_says.1
  refine wText_c l ok fun t ht => ?_
  have ht : t .o = exS := by rw [ht, hl]; exact ex_says.2
  cbv
  refine br_is (by show decide (t .o = exS) = true; rw [decide_eq_true ht]) ?_
  cbv
  refine CallAt.args (.cons (Same.refl _) (.cons (one_str ownerS) (.cons (Same.refl _) .nil))) ?_
  refine wallows_c l (fun _ => [ownerS]) (fun _ => 1) ok (by decide) fun r hr' => ?_
  cbv
  refine ⟨_, .ret (Same.refl _), hr _ ?_⟩
  rw [hr', hl]
  decide +kernel
theorem PW.len {s : List UInt8} {l : List WideE} {b : Bool} (h : PW s l b) : l.length ≤ 32 := by
  rcases h with ⟨_, h, _⟩ | ⟨_, rfl, _⟩
  · exact h.1
  · exact Nat.zero_le _
theorem wideAll_c (l : Th (List WideE)) (s : Th (List UInt8)) (who : Th (List (List UInt8))) (bit : Th Int) (hl : (l .o).length ≤ 140737488351232) (hw : (who .o).length ≤ 140737488351232) {d : Nat} {K : ARes → BL → Prop} (hr : ∀ b : Th Bool, b .o = true → K (.ret (.bool b)) .nil) : CallAt PT l10_WideAll [wides l, .str s, strs who, .int .i64 bit] d .nil K := by
  refine CallAt.res ?_
  refine l10_WideAll.of rfl rfl ?_
  cbv
  refine br_rev (br_dec (fun h1 => ?_) (fun h1 => ?_))
  · cbv
    refine aw10_c fun b hb => ?_
    cbv
    exact ⟨_, .ret (Same.refl _), hr _ hb⟩
  have h1 : (l .o).length ≤ 60 := by have h1 : ¬ 60 < zi (l .o).length := h1; unfold zi at h1; omega
  cbv
  refine br_rev (br_dec (fun h2 => ?_) (fun h2 => ?_))
  · cbv
    refine aw10_c fun b hb => ?_
    cbv
    exact ⟨_, .ret (Same.refl _), hr _ hb⟩
  have h2 : (s .o).length ≤ 500 := by have h2 : ¬ 500 < zi (s .o).length := h2; unfold zi at h2; omega
  cbv
  refine br_dec (fun h3 => ?_) (fun h3 => ?_)
  · cbv
    refine aw10_c fun b hb => ?_
    cbv
    exact ⟨_, .ret (Same.refl _), hr _ hb⟩
  have h3 : (who .o).length ≤ 20 := by have h3 : ¬ 20 < zi (who .o).length := h3; unfold zi at h3; omega
  cbv
  refine wparse_c s (by omega) fun x xb hx => ?_
  cbv
  refine parsewide9_c s (by omega) fun y yb hy => ?_
  obtain ⟨exy, ebb⟩ := pw_one hx hy
  cbv
  refine wMay_c l (by omega) fun m hm => ?_
  cbv
  refine maywide9_c l (by omega) fun m9 hm9 => ?_
  cbv
  refine br_rev (br_neq (hm.trans hm9.symm) ?_)
  cbv
  refine samewide_c x y (Nat.le_trans hx.len (by decide)) fun e he => ?_
  have he : e .o = true := by rw [he, exy]; simp
  cbv
  refine br_rev (br_nbool (fun q => ?_) (fun q => ?_))
  · rw [he] at q; cases q
  cbv
  refine br_neq ebb ?_
  cbv
  refine maywide9_c l (by omega) fun m2 hm2 => ?_
  cbv
  refine br_rev (br_nbool (fun h4 => ?_) (fun h4 => ?_))
  · cbv
    refine aw10_c fun b hb => ?_
    cbv
    exact ⟨_, .ret (Same.refl _), hr _ hb⟩
  have ok : AllOk (l .o) := (mayW_iff _).1 (by rw [← hm2]; exact h4)
  cbv
  refine wText_c l ok fun t1 ht1 => ?_
  cbv
  refine textwide9_c l ok fun t2 ht2 => ?_
  cbv
  refine br_is (decide_eq_true (ht1.trans ht2.symm)) ?_
  cbv
  refine wallows_c l who bit ok (by omega) fun a1 ha1 => ?_
  cbv
  refine allows9_c l who bit ok (by omega) fun a2 ha2 => ?_
  cbv
  refine br_eq (ha1.trans ha2.symm) ?_
  cbv
  refine aw10_c fun b hb => ?_
  cbv
  exact ⟨_, .ret (Same.refl _), hr _ hb⟩
theorem wideAllY (l : Th (List WideE)) (s : Th (List UInt8)) (who : Th (List (List UInt8))) (bit : Th Int) (hl : (l .o).length ≤ 140737488351232) (hw : (who .o).length ≤ 140737488351232) : CallAt PT l10_WideAll [wides l, .str s, strs who, .int .i64 bit] 9999 .nil Yes :=
  wideAll_c l s who bit hl hw fun b hb => ⟨b, rfl, hb⟩
end Go.Proofs.YtjjddmbnfkmfdaaDoor
