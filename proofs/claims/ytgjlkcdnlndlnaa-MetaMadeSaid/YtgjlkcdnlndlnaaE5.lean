/- Texts laid together: MeH, MeI, Mkv, MeJ, MeK. -/
import Derived.Test.YtgjlkcdnlndlnaaE4
/- The lists that the laws make by numbers may be, and have their mode: plain. -/
namespace Go.Proofs.Ytgjlkcdnlndlnaa
open Go Go.Proofs.Ytgjlkcdnlndlnaa.Sx F
set_option linter.unusedVariables false
set_option linter.unusedSimpArgs false
theorem aclTo_of {l : List Ace} (h1 : ∀ a ∈ l, (1 ≤ a.tag ∧ a.tag ≤ 6) ∧ AceOk a) (h2 : l.Pairwise aft) : AclTo l l.length := by
  have mem : ∀ j, j < l.length → l.getD j Ace.z ∈ l := fun j hj => by
    rw [List.getD_eq_getElem?_getD, List.getElem?_eq_getElem hj]; exact List.getElem_mem hj
  refine ⟨fun j hj => (h1 _ (mem j hj)).1, fun j hj => (h1 _ (mem j hj)).2, fun j hj => ?_⟩
  have := List.pairwise_iff_getElem.1 h2 j (j + 1) (by omega) hj (by omega)
  rw [List.getD_eq_getElem?_getD, List.getElem?_eq_getElem (by omega : j < l.length), List.getD_eq_getElem?_getD, List.getElem?_eq_getElem hj]
  exact this
theorem addS_up (a : Ace) : ∀ l : List Ace, l.Pairwise (fun x y => x.id < y.id) → (addS a l).Pairwise fun x y => x.id < y.id
  | [], _ => by simp [addS]
  | x :: r, h => by
    obtain ⟨h1, h2⟩ := List.pairwise_cons.1 h
    unfold addS
    split
    · rename_i hlt
      refine List.pairwise_cons.2 ⟨fun y hy => ?_, addS_up a r h2⟩
      rcases mem_addS hy with rfl | hy
      · exact hlt
      · exact h1 y hy
    · rename_i hlt
      split
      · rename_i he
        exact List.pairwise_cons.2 ⟨fun y hy => by rw [← he]; exact h1 y hy, h2⟩
      · rename_i hne
        refine List.pairwise_cons.2 ⟨fun y hy => ?_, h⟩
        rcases List.mem_cons.1 hy with rfl | hy
        · omega
        · have := h1 y hy
          omega
theorem accS_up (ns : List Int) : ∀ k, ((accS ns k).1.Pairwise fun x y => x.id < y.id) ∧ (accS ns k).2.Pairwise fun x y => x.id < y.id
  | 0 => ⟨.nil, .nil⟩
  | k + 1 => by
    obtain ⟨h1, h2⟩ := accS_up ns k
    unfold accS
    split
    · exact ⟨addS_up _ _ h1, h2⟩
    · exact ⟨h1, addS_up _ _ h2⟩
theorem accS_id {ns : List Int} (hns : isBytes ns) : ∀ k, (∀ a ∈ (accS ns k).1, 0 ≤ a.id ∧ a.id ≤ 2147483647) ∧ ∀ a ∈ (accS ns k).2, 0 ≤ a.id ∧ a.id ≤ 2147483647
  | 0 => by simp [accS]
  | k + 1 => by
    obtain ⟨h1, h2⟩ := accS_id hns k
    have hb := byte_at hns (k := 2 * k)
    have hp : 0 ≤ (ns.getD (2 * k) 0).tdiv 2 ∧ (ns.getD (2 * k) 0).tdiv 2 ≤ 2147483647 := by rw [Int.tdiv_eq_ediv_of_nonneg hb.1]; omega
    unfold accS
    split
    · refine ⟨fun a ha => ?_, h2⟩
      rcases mem_addS ha with rfl | ha
      · exact hp
      · exact h1 a ha
    · refine ⟨h1, fun a ha => ?_⟩
      rcases mem_addS ha with rfl | ha
      · exact hp
      · exact h2 a ha
theorem cnt_app (a b : List Ace) (t : Nat) : cntN (a ++ b) (a ++ b).length t = cntN a a.length t + cntN b b.length t := by
  unfold cntN
  rw [List.take_length, List.take_length, List.take_length, List.countP_append]
theorem cnt_tag {l : List Ace} {s : Int} (h : ∀ a ∈ l, a.tag = s) (t : Nat) : cntN l l.length t = if s = (t : Int) then l.length else 0 := by
  unfold cntN
  rw [List.take_length]
  split
  · rename_i e
    exact List.countP_eq_length.2 fun a ha => decide_eq_true ((h a ha).trans e)
  · rename_i e
    exact List.countP_eq_zero.2 fun a ha q => e ((h a ha).symm.trans (of_decide_eq_true q))
theorem permS_app (a b : List Ace) (t : Int) : permS (a ++ b) t = (permS a t).or (permS b t) := by
  unfold permS
  rw [List.find?_append]
  cases a.find? fun x => decide (x.tag = t) <;> rfl
theorem permS_no {l : List Ace} {s t : Int} (h : ∀ a ∈ l, a.tag = s) (hst : s ≠ t) : permS l t = none := by
  unfold permS
  rw [List.find?_eq_none.2 fun a ha q => hst ((h a ha).symm.trans (of_decide_eq_true q))]; rfl
theorem l9_ok {ns : List Int} (hns : isBytes ns) (m : Int) : AclOk (l9S ns m) := by
  obtain ⟨h1, h2⟩ := accS_perm hns (pairs ns)
  obtain ⟨i1, i2⟩ := accS_id hns (pairs ns)
  obtain ⟨u1, u2⟩ := accS_up ns (pairs ns)
  have hl := accS_len ns (pairs ns)
  have hp6 : pairs ns ≤ 6 := Nat.min_le_left _ _
  have b1 := band_7 (m.fdiv (2 ^ 6))
  have b2 := band_7 (m.fdiv (2 ^ 3))
  have b3 := band_7 m
  have b4 := bxor_8 (band_7 (m.fdiv (2 ^ 3))) (b := (ns.getD 0 0).tmod 8) ⟨Int.tmod_nonneg _ (byte_at hns).1, Int.tmod_lt_of_pos _ (by decide)⟩
  have t1 : ∀ a ∈ (accS ns (pairs ns)).1, a.tag = 2 := fun a ha => (h1 a ha).2
  have t2 : ∀ a ∈ (accS ns (pairs ns)).2, a.tag = 4 := fun a ha => (h2 a ha).2
  have k1 : ∀ a ∈ (accS ns (pairs ns)).1, (1 ≤ a.tag ∧ a.tag ≤ 6) ∧ AceOk a := fun a ha => by
    have := h1 a ha
    have := i1 a ha
    unfold AceOk
    omega
  have k2 : ∀ a ∈ (accS ns (pairs ns)).2, (1 ≤ a.tag ∧ a.tag ≤ 6) ∧ AceOk a := fun a ha => by
    have := h2 a ha
    have := i2 a ha
    unfold AceOk
    omega
  have p1 : (accS ns (pairs ns)).1.Pairwise aft := u1.imp_of_mem fun {a b} ha hb q => .inr ⟨by rw [t1 a ha, t1 b hb], q⟩
  have p2 : (accS ns (pairs ns)).2.Pairwise aft := u2.imp_of_mem fun {a b} ha hb q => .inr ⟨by rw [t2 a ha, t2 b hb], q⟩
  have one : ∀ (t p : Int) (k : Nat), cntN [⟨t, 0, p⟩] 1 k = if t = (k : Int) then 1 else 0 := fun t p k => by
    unfold cntN
    by_cases q : t = (k : Int) <;> simp [q]
  have two : ∀ (t t' p p' : Int) (k : Nat), cntN [⟨t, 0, p⟩, ⟨t', 0, p'⟩] 2 k = (if t = (k : Int) then 1 else 0) + if t' = (k : Int) then 1 else 0 := fun t t' p p' k => by
    unfold cntN
    by_cases q : t = (k : Int) <;> by_cases q' : t' = (k : Int) <;> simp [q, q', List.countP_cons]
  unfold l9S
  dsimp only
  generalize (accS ns (pairs ns)).1 = u at *
  generalize (accS ns (pairs ns)).2 = g at *
  split
  · rename_i h0
    obtain rfl : u = [] := List.eq_nil_of_length_eq_zero (by omega)
    have cn : ∀ t, cntN ([(⟨1, 0, band (m.fdiv (2 ^ 6)) 7⟩ : Ace)] ++ [] ++ ([⟨3, 0, band (m.fdiv (2 ^ 3)) 7⟩, ⟨6, 0, band m 7⟩] : List Ace)) ([(⟨1, 0, band (m.fdiv (2 ^ 6)) 7⟩ : Ace)] ++ [] ++ ([⟨3, 0, band (m.fdiv (2 ^ 3)) 7⟩, ⟨6, 0, band m 7⟩] : List Ace)).length t = (if (1 : Int) = (t : Int) then 1 else 0) + ((if (3 : Int) = (t : Int) then 1 else 0) + if (6 : Int) = (t : Int) then 1 else 0) := fun t => by
      rw [cnt_app, cnt_app]
      show cntN _ 1 t + cntN [] 0 t + cntN _ 2 t = _
      rw [one, two, cntN_zero]; rfl
    refine ⟨aclTo_of (fun a ha => ?_) ?_, cn 1, cn 3, cn 6, ?_, by simp⟩
    · simp only [List.append_nil, List.cons_append, List.nil_append, List.mem_cons, List.not_mem_nil, or_false] at ha
      rcases ha with rfl | rfl | rfl <;> (unfold AceOk; dsimp only; omega)
    · simp [aft]
    · rw [cn 5, cn 2, cn 4]; rfl
  · rename_i h0
    have cn : ∀ t, cntN ([(⟨1, 0, band (m.fdiv (2 ^ 6)) 7⟩ : Ace)] ++ u ++ ([⟨3, 0, bxor (band (m.fdiv (2 ^ 3)) 7) ((ns.getD 0 0).tmod 8)⟩] : List Ace) ++ g ++ ([⟨5, 0, band (m.fdiv (2 ^ 3)) 7⟩, ⟨6, 0, band m 7⟩] : List Ace)) ([(⟨1, 0, band (m.fdiv (2 ^ 6)) 7⟩ : Ace)] ++ u ++ ([⟨3, 0, bxor (band (m.fdiv (2 ^ 3)) 7) ((ns.getD 0 0).tmod 8)⟩] : List Ace) ++ g ++ ([⟨5, 0, band (m.fdiv (2 ^ 3)) 7⟩, ⟨6, 0, band m 7⟩] : List Ace)).length t
        = (if (1 : Int) = (t : Int) then 1 else 0) + (if (2 : Int) = (t : Int) then u.length else 0) + (if (3 : Int) = (t : Int) then 1 else 0) + (if (4 : Int) = (t : Int) then g.length else 0) + ((if (5 : Int) = (t : Int) then 1 else 0) + if (6 : Int) = (t : Int) then 1 else 0) := fun t => by
      rw [cnt_app, cnt_app, cnt_app, cnt_app, cnt_tag t1, cnt_tag t2]
      show cntN _ 1 t + _ + cntN _ 1 t + _ + cntN _ 2 t = _
      rw [one, one, two]
    refine ⟨aclTo_of (fun a ha => ?_) ?_, cn 1, cn 3, cn 6, ?_, by simp only [List.length_append, List.length_cons, List.length_nil]; omega⟩
    · simp only [List.mem_append, List.mem_cons, List.not_mem_nil, or_false] at ha
      rcases ha with (((rfl | ha) | rfl) | ha) | rfl | rfl
      · unfold AceOk; dsimp only; omega
      · exact k1 a ha
      · unfold AceOk; dsimp only; omega
      · exact k2 a ha
      · unfold AceOk; dsimp only; omega
      · unfold AceOk; dsimp only; omega
    · simp only [List.pairwise_append, List.pairwise_cons, List.mem_append, List.mem_cons, List.not_mem_nil, or_false, false_or]
      refine ⟨⟨⟨⟨⟨fun a h => h.elim, .nil⟩, p1, fun a ha b hb => ?_⟩, ⟨fun a h => h.elim, .nil⟩, fun a ha b hb => ?_⟩, p2, fun a ha b hb => ?_⟩, ⟨fun a ha => ?_, fun a h => h.elim, .nil⟩, fun a ha b hb => ?_⟩
      · subst ha; left; rw [t1 b hb]; exact (by decide : (1 : Int) < 2)
      · subst hb
        left
        rcases ha with rfl | ha
        · exact (by decide : (1 : Int) < 3)
        · rw [t1 a ha]; exact (by decide : (2 : Int) < 3)
      · left
        rw [t2 b hb]
        rcases ha with (rfl | ha) | rfl
        · exact (by decide : (1 : Int) < 4)
        · rw [t1 a ha]; decide
        · exact (by decide : (3 : Int) < 4)
      · subst ha; left; exact (by decide : (5 : Int) < 6)
      · left
        have hb5 : b.tag = 5 ∨ b.tag = 6 := by rcases hb with rfl | rfl; exact .inl rfl; exact .inr rfl
        have ha4 : a.tag ≤ 4 := by
          rcases ha with ((rfl | ha) | rfl) | ha
          · exact (by decide : (1 : Int) ≤ 4)
          · rw [t1 a ha]; decide
          · exact (by decide : (3 : Int) ≤ 4)
          · rw [t2 a ha]; decide
        omega
    · rw [cn 5, cn 2, cn 4]
      show 0 + 0 + 0 + 0 + (1 + 0) = min 1 ((0 + u.length + 0 + 0 + (0 + 0)) + (0 + 0 + 0 + g.length + (0 + 0)))
      omega
theorem modeA_l9 {ns : List Int} (hns : isBytes ns) {m : Int} (hm : 0 ≤ m ∧ m < 512) : modeA (l9S ns m) = m := by
  obtain ⟨h1, h2⟩ := accS_perm hns (pairs ns)
  have t1 : ∀ a ∈ (accS ns (pairs ns)).1, a.tag = 2 := fun a ha => (h1 a ha).2
  have t2 : ∀ a ∈ (accS ns (pairs ns)).2, a.tag = 4 := fun a ha => (h2 a ha).2
  have e : band (m.fdiv (2 ^ 6)) 7 * 64 + band (m.fdiv (2 ^ 3)) 7 * 8 + band m 7 = m := by
    simp only [band_mod3]
    rw [show ((2 : Int) ^ 6) = 64 from rfl, show ((2 : Int) ^ 3) = 8 from rfl, Int.fdiv_eq_ediv_of_nonneg _ (by decide), Int.fdiv_eq_ediv_of_nonneg _ (by decide)]
    omega
  have b2 := band_7 (m.fdiv (2 ^ 3))
  unfold l9S modeA permR
  dsimp only
  split
  · rename_i h0
    have e0 : (accS ns (pairs ns)).1 = [] := List.eq_nil_of_length_eq_zero (by omega)
    rw [e0]
    simpa [permS, List.find?] using e
  · simp only [permS_app, permS_no t1 (by decide : (2 : Int) ≠ 1), permS_no t1 (by decide : (2 : Int) ≠ 5), permS_no t1 (by decide : (2 : Int) ≠ 3), permS_no t1 (by decide : (2 : Int) ≠ 6), permS_no t2 (by decide : (4 : Int) ≠ 1), permS_no t2 (by decide : (4 : Int) ≠ 5), permS_no t2 (by decide : (4 : Int) ≠ 3), permS_no t2 (by decide : (4 : Int) ≠ 6)]
    simp [permS, List.find?]
    rw [if_neg (by have := band_7 (m.fdiv 8); omega)]
    exact e
theorem l9_ne {ns : List Int} (hns : isBytes ns) (m : Int) : l9S ns m ≠ [] := fun e => by
  have := aclOk_three (l9_ok hns m)
  rw [e] at this
  exact absurd this (by decide)
end Go.Proofs.Ytgjlkcdnlndlnaa
/- The laws of what is said of nodes: walked. -/
namespace Go.Proofs.Ytgjlkcdnlndlnaa
open Go Go.Proofs.Ytgjlkcdnlndlnaa.Sx F
set_option linter.unusedVariables false
set_option linter.unusedSimpArgs false
theorem l9_short (ns : List Int) (m : Int) : short (l9S ns m) := Nat.le_trans (l9_len _ _) (by decide)
end Go.Proofs.Ytgjlkcdnlndlnaa
/- Names with values made by numbers may be: walked. -/
namespace Go.Proofs.Ytgjlkcdnlndlnaa
open Go Go.Proofs.Ytgjlkcdnlndlnaa.Sx F
set_option linter.unusedVariables false
set_option linter.unusedSimpArgs false
theorem le_lt {a b : List UInt8} : leS b a = false ↔ strLt a b = true := by
  unfold leS
  constructor
  · intro h
    simp only [Bool.or_eq_false_iff, decide_eq_false_iff_not] at h
    exact lt_tri h.1 h.2
  · intro h
    simp only [Bool.or_eq_false_iff, decide_eq_false_iff_not]
    refine ⟨?_, fun e => ?_⟩
    · cases q : strLt b a with
      | false => rfl
      | true => have := lt_trans' h q; rw [lt_irr] at this; cases this
    · subst e; rw [lt_irr] at h; cases h
theorem xsTo_of {l : List Xattr} (h1 : ∀ x ∈ l, XOk x) (h2 : l.Pairwise ltX) : XsTo l l.length := by
  refine ⟨fun j hj => ?_, fun j hj => ?_⟩
  · rw [List.getD_eq_getElem?_getD, List.getElem?_eq_getElem hj]; exact h1 _ (List.getElem_mem hj)
  · have := List.pairwise_iff_getElem.1 h2 j (j + 1) (by omega) hj (by omega)
    rw [List.getD_eq_getElem?_getD, List.getElem?_eq_getElem hj, List.getD_eq_getElem?_getD, List.getElem?_eq_getElem (by omega : j < l.length)]
    exact le_lt.2 this
theorem MadeX.ok {x : Xattr} (h : MadeX x) : XOk x := ⟨h.2.1, Nat.le_trans (escS_len _) (by have := h.1; omega), h.2.2.1, by have := h.2.2.2; omega⟩
theorem MadeXs.ok {l : List Xattr} (h : MadeXs l) : XsOk l := ⟨xsTo_of (fun x hx => (h.made x hx).ok) h.up, Nat.le_trans h.len (by decide)⟩
theorem MadeXs.long {l : List Xattr} (h : MadeXs l) : longX l := fun x hx => Nat.le_trans (h.made x hx).1 (by decide)
end Go.Proofs.Ytgjlkcdnlndlnaa
/- The laws MetaKinds and MetaAll: walked. -/
namespace Go.Proofs.Ytgjlkcdnlndlnaa
open Go Go.Proofs.Ytgjlkcdnlndlnaa.Sx F
set_option linter.unusedVariables false
set_option linter.unusedSimpArgs false
theorem mayF_of {f : Int} (h : 0 ≤ f ∧ f < 16) : mayF f = true := by
  unfold mayF
  rw [decide_eq_true h.1, decide_eq_true h.2]; rfl
theorem metaOk_made {ns : List Int} {m : Meta} {k : Int} (h1 : MadeM ns m) (h2 : MadeK k m) (hk : k = 1 ∨ 3 ≤ k ∧ k ≤ 7) : MetaOk m k := by
  have hm := h1.mode
  have hu := h1.uid
  have hg := h1.gid
  have hs := h2.sec
  refine ⟨hk, ⟨hm.1, by omega⟩, ⟨hu.1, by omega⟩, ⟨hg.1, by omega⟩, ⟨by omega, by omega, by rcases h2.nano with q | q <;> omega, by rcases h2.nano with q | q <;> omega⟩, mayF_of h2.flags, h1.xs.ok, ?_, ?_, ?_, ?_, ?_⟩
  · rcases h1.acl with q | ⟨ns', q1, q2⟩
    · exact .inl q
    · refine .inr ⟨by rw [q2]; exact l9_ok q1 _, ?_⟩
      rw [q2]
      exact modeA_l9 q1 (by rw [band_mod9]; omega)
  · rcases h2.dflt with q | ⟨q0, ns', n, q1, q2, q3⟩
    · exact .inl q
    · exact .inr ⟨q0, by rw [q3]; exact l9_ok q1 _⟩
  · rcases h2.caps with q | ⟨_, q⟩
    · exact .inl q
    · rcases q.ver with v | v
      · exact .inr (.inl ⟨v, q.root2 v⟩)
      · have := q.root3
        exact .inr (.inr ⟨v, this.1, by omega⟩)
  · rcases h2.caps with q | ⟨q, _⟩
    · exact .inr q
    · exact .inl q
  · by_cases q : k = 3
    · exact .inr (h2.sym q)
    · exact .inl q
theorem kind_ok (n : Int) : kindN n = 1 ∨ 3 ≤ kindN n ∧ kindN n ≤ 7 := by
  rcases (kindN_in n).2 with h | h | h | h | h | h <;> omega
end Go.Proofs.Ytgjlkcdnlndlnaa
/- The law MetaMade, walked. -/
namespace Go.Proofs.Ytgjlkcdnlndlnaa
open Go Go.Proofs.Ytgjlkcdnlndlnaa.Sx F
set_option linter.unusedVariables false
set_option linter.unusedSimpArgs false
theorem xor1 : ∀ x : Fin 512, (0 ≤ abits .xor .i64 (x.1 : Int) 1 ∧ abits .xor .i64 (x.1 : Int) 1 < 512) ∧ abits .xor .i64 (x.1 : Int) 1 ≠ (x.1 : Int) := by decide +kernel
theorem xor1' {x : Int} (h : 0 ≤ x ∧ x < 512) : (0 ≤ abits .xor .i64 x 1 ∧ abits .xor .i64 x 1 < 512) ∧ abits .xor .i64 x 1 ≠ x := by
  have := xor1 ⟨x.toNat, by omega⟩
  rwa [show ((⟨x.toNat, by omega⟩ : Fin 512).1 : Int) = x from Int.toNat_of_nonneg h.1] at this
theorem xs_turned : ¬ XsOk [⟨[98], []⟩, ⟨[97], []⟩] := fun q => absurd (q.to.up 0 (by decide)) (by decide)
theorem xs2_short : short ([⟨[98], []⟩, ⟨[97], []⟩] : List Xattr) := by unfold short; decide
theorem xs2_long : longX [⟨[98], []⟩, ⟨[97], []⟩] := by unfold longX; decide
def metaX (m : Th Meta) (X : AV) : AV :=
  .agg (.cons (.int .i64 fun _ => (m .o).mode) (.cons (.int .i64 fun _ => (m .o).uid) (.cons (.int .i64 fun _ => (m .o).gid) (.cons (.int .i64 fun _ => (m .o).sec) (.cons (.int .i64 fun _ => (m .o).nano)
  (.cons (aces fun _ => (m .o).acl) (.cons (aces fun _ => (m .o).dflt) (.cons X
  (.cons (.int .i64 fun _ => (m .o).caps.ver) (.cons (.int .u64 fun _ => (m .o).caps.perm) (.cons (.int .u64 fun _ => (m .o).caps.inh) (.cons (.bool fun _ => (m .o).caps.eff) (.cons (.int .i64 fun _ => (m .o).caps.root)
  (.cons (.int .i64 fun _ => (m .o).flags) .nil))))))))))))))
theorem metaX_same (m : Th Meta) {X : AV} (xs : Th (List Xattr)) (h : Same X (xattrs xs)) : Same (metaX m X) (Meta.av fun _ => { m .o with xs := xs .o }) :=
  .agg (.cons (.int rfl) (.cons (.int rfl) (.cons (.int rfl) (.cons (.int rfl) (.cons (.int rfl) (.cons (.refl _) (.cons (.refl _) (.cons h (.cons (.int rfl) (.cons (.int rfl) (.cons (.int rfl) (.cons (.refl _) (.cons (.int rfl) (.cons (.int rfl) .nil))))))))))))))
def X2 : AV := .sl 2 (fun _ => 2) fun i => elemAt 2 (.cons (.str fun _ => [98]) (.cons (.str fun _ => []) (.cons (.str fun _ => [97]) (.cons (.str fun _ => []) .nil)))) (i .o)
theorem x2_same : Same X2 (xattrs fun _ => [⟨[98], []⟩, ⟨[97], []⟩]) := Same.sl rfl fun i hi => by
  replace hi : i < 2 := hi
  match i, hi with
  | 0, _ | 1, _ => rfl
theorem isB_nil : isBytes ([] : List Int) := fun x hx => by cases hx
theorem metaMade_c (ns : Th (List Int)) (kind wh : Th Int) (hns : isBytes (ns .o)) (hs : short (ns .o)) (hk : 0 ≤ kind .o ∧ kind .o < 256) (hw : 0 ≤ wh .o ∧ wh .o < 256) : CallAt PT l14_MetaMade [byteI ns, .int .u8 kind, .int .u8 wh] 9999 .nil Yes := by
  refine l14_MetaMade.of rfl rfl ?_
  cbv
  refine safe (by decide) ?_
  have h6 : 0 ≤ (kind .o).tmod 6 ∧ (kind .o).tmod 6 < zi 6 := ⟨Int.tmod_nonneg _ hk.1, Int.tmod_lt_of_pos _ (by decide)⟩
  refine safe h6 ?_
  refine safe (by show ((kind .o).tmod 6).toNat < 6; unfold zi at h6; omega) ?_
  have hK := kind_ok (kind .o)
  refine l14e_c ns (fun _ => kindN (kind .o)) hns hs fun m a1 a2 a3 => ?_
  cbv
  refine l14e_c ns (fun _ => kindN (kind .o)) hns hs fun n b1 b2 b3 => ?_
  cbv
  have emn : m .o = n .o := is14_eq a3 b3
  have ok := metaOk_made a1 a2 hK
  have okn := metaOk_made b1 b2 hK
  have sm : MetaShort (m .o) := ⟨a1.short, Nat.le_trans (dflt_len a2) (by decide), Nat.le_trans a1.xs.len (by decide), a1.xs.long⟩
  have sn : MetaShort (n .o) := ⟨b1.short, Nat.le_trans (dflt_len b2) (by decide), Nat.le_trans b1.xs.len (by decide), b1.xs.long⟩
  refine mmay_c m (fun _ => kindN (kind .o)) sm fun r1 h1 => ?_
  have h1 : (!r1 .o) = false := by rw [h1.2 ok]; rfl
  cbv
  (first | refine br_is (h1) ?_ | refine br_not (h1) ?_ | refine br_rev (br_is (h1) ?_) | refine br_rev (br_not (h1) ?_))
  cbv
  refine msame_c m n sm.acl sm.dflt sm.xs fun r2 h2 => ?_
  have h2 : (!r2 .o) = false := by rw [h2.2 emn]; rfl
  cbv
  (first | refine br_is (h2) ?_ | refine br_not (h2) ?_ | refine br_rev (br_is (h2) ?_) | refine br_rev (br_not (h2) ?_))
  cbv
  refine mmay_c m (fun _ => 2) sm fun r3 h3 => ?_
  have h3 : r3 .o = false := by
    rw [Bool.eq_false_iff]; intro q; have := (h3.1 q).kind; revert this; decide
  cbv
  (first | refine br_is (h3) ?_ | refine br_not (h3) ?_ | refine br_rev (br_is (h3) ?_) | refine br_rev (br_not (h3) ?_))
  cbv
  refine mmay_c m (fun _ => 0) sm fun r4 h4 => ?_
  have h4 : r4 .o = false := by
    rw [Bool.eq_false_iff]; intro q; have := (h4.1 q).kind; revert this; decide
  cbv
  (first | refine br_is (h4) ?_ | refine br_not (h4) ?_ | refine br_rev (br_is (h4) ?_) | refine br_rev (br_not (h4) ?_))
  cbv
  refine mmay_c m (fun _ => 8) sm fun r5 h5 => ?_
  have h5 : r5 .o = false := by
    rw [Bool.eq_false_iff]; intro q; have := (h5.1 q).kind; revert this; decide
  cbv
  (first | refine br_is (h5) ?_ | refine br_not (h5) ?_ | refine br_rev (br_is (h5) ?_) | refine br_rev (br_not (h5) ?_))
  cbv
  refine safe (by decide) ?_
  ((try refine br_rev ?_); (first | refine br_dec (fun w0 => ?_) (fun w0 => ?_) | refine br_ndec (fun w0 => ?_) (fun w0 => ?_) | refine br_nbool (fun w0 => ?_) (fun w0 => ?_) | refine br_bool (fun w0 => ?_) (fun w0 => ?_)); all_goals (try dsimp only at w0); all_goals (try with_reducible replace w0 := zi_lt.1 w0); all_goals (try with_reducible replace w0 := not_zlt w0))
  focus
    cbv
    have no : ¬ MetaOk { n .o with mode := 4096 } (kindN (kind .o)) := fun q => absurd (show (4096 : Int) ≤ 4095 from q.mode.2) (by decide)
    refine mmay_c (fun _ => { n .o with mode := 4096 }) (fun _ => kindN (kind .o)) ⟨sn.acl, sn.dflt, sn.xs, sn.long⟩ fun q1 g1 => ?_
    have g1 : (!q1 .o) = true := by
      rw [Bool.not_eq_true', Bool.eq_false_iff]
      exact fun q => no (g1.1 q)
    cbv
    (first | refine br_is (g1) ?_ | refine br_not (g1) ?_ | refine br_rev (br_is (g1) ?_) | refine br_rev (br_not (g1) ?_))
    cbv
    refine msame_c m (fun _ => { n .o with mode := 4096 }) sm.acl sm.dflt sm.xs fun q2 g2 => ?_
    have g2 : (!q2 .o) = true := by
      rw [Bool.not_eq_true', Bool.eq_false_iff]
      exact fun q => no (by rw [← g2.1 q]; exact ok)
    cbv
    (first | refine br_is (g2) ?_ | refine br_not (g2) ?_ | refine br_rev (br_is (g2) ?_) | refine br_rev (br_not (g2) ?_))
    cbv
    refine awake14_c fun r hr => ?_
    cbv
    exact ⟨r, rfl, hr⟩
  cbv
  ((try refine br_rev ?_); (first | refine br_dec (fun w1 => ?_) (fun w1 => ?_) | refine br_ndec (fun w1 => ?_) (fun w1 => ?_) | refine br_nbool (fun w1 => ?_) (fun w1 => ?_) | refine br_bool (fun w1 => ?_) (fun w1 => ?_)); all_goals (try dsimp only at w1); all_goals (try with_reducible replace w1 := zi_lt.1 w1); all_goals (try with_reducible replace w1 := not_zlt w1))
  focus
    cbv
    have no : ¬ MetaOk { n .o with uid := -1 } (kindN (kind .o)) := fun q => absurd (show (0 : Int) ≤ -1 from q.uid.1) (by decide)
    refine mmay_c (fun _ => { n .o with uid := -1 }) (fun _ => kindN (kind .o)) ⟨sn.acl, sn.dflt, sn.xs, sn.long⟩ fun q1 g1 => ?_
    have g1 : (!q1 .o) = true := by
      rw [Bool.not_eq_true', Bool.eq_false_iff]
      exact fun q => no (g1.1 q)
    cbv
    (first | refine br_is (g1) ?_ | refine br_not (g1) ?_ | refine br_rev (br_is (g1) ?_) | refine br_rev (br_not (g1) ?_))
    cbv
    refine msame_c m (fun _ => { n .o with uid := -1 }) sm.acl sm.dflt sm.xs fun q2 g2 => ?_
    have g2 : (!q2 .o) = true := by
      rw [Bool.not_eq_true', Bool.eq_false_iff]
      exact fun q => no (by rw [← g2.1 q]; exact ok)
    cbv
    (first | refine br_is (g2) ?_ | refine br_not (g2) ?_ | refine br_rev (br_is (g2) ?_) | refine br_rev (br_not (g2) ?_))
    cbv
    refine awake14_c fun r hr => ?_
    cbv
    exact ⟨r, rfl, hr⟩
  cbv
  ((try refine br_rev ?_); (first | refine br_dec (fun w2 => ?_) (fun w2 => ?_) | refine br_ndec (fun w2 => ?_) (fun w2 => ?_) | refine br_nbool (fun w2 => ?_) (fun w2 => ?_) | refine br_bool (fun w2 => ?_) (fun w2 => ?_)); all_goals (try dsimp only at w2); all_goals (try with_reducible replace w2 := zi_lt.1 w2); all_goals (try with_reducible replace w2 := not_zlt w2))
  focus
    cbv
    have no : ¬ MetaOk { n .o with gid := 2147483648 } (kindN (kind .o)) := fun q => absurd (show (2147483648 : Int) ≤ 2147483647 from q.gid.2) (by decide)
    refine mmay_c (fun _ => { n .o with gid := 2147483648 }) (fun _ => kindN (kind .o)) ⟨sn.acl, sn.dflt, sn.xs, sn.long⟩ fun q1 g1 => ?_
    have g1 : (!q1 .o) = true := by
      rw [Bool.not_eq_true', Bool.eq_false_iff]
      exact fun q => no (g1.1 q)
    cbv
    (first | refine br_is (g1) ?_ | refine br_not (g1) ?_ | refine br_rev (br_is (g1) ?_) | refine br_rev (br_not (g1) ?_))
    cbv
    refine msame_c m (fun _ => { n .o with gid := 2147483648 }) sm.acl sm.dflt sm.xs fun q2 g2 => ?_
    have g2 : (!q2 .o) = true := by
      rw [Bool.not_eq_true', Bool.eq_false_iff]
      exact fun q => no (by rw [← g2.1 q]; exact ok)
    cbv
    (first | refine br_is (g2) ?_ | refine br_not (g2) ?_ | refine br_rev (br_is (g2) ?_) | refine br_rev (br_not (g2) ?_))
    cbv
    refine awake14_c fun r hr => ?_
    cbv
    exact ⟨r, rfl, hr⟩
  cbv
  ((try refine br_rev ?_); (first | refine br_dec (fun w3 => ?_) (fun w3 => ?_) | refine br_ndec (fun w3 => ?_) (fun w3 => ?_) | refine br_nbool (fun w3 => ?_) (fun w3 => ?_) | refine br_bool (fun w3 => ?_) (fun w3 => ?_)); all_goals (try dsimp only at w3); all_goals (try with_reducible replace w3 := zi_lt.1 w3); all_goals (try with_reducible replace w3 := not_zlt w3))
  focus
    cbv
    have no : ¬ MetaOk { n .o with nano := 1000000000 } (kindN (kind .o)) := fun q => absurd (show (1000000000 : Int) < 1000000000 from q.stamp.2.2.2) (by decide)
    refine mmay_c (fun _ => { n .o with nano := 1000000000 }) (fun _ => kindN (kind .o)) ⟨sn.acl, sn.dflt, sn.xs, sn.long⟩ fun q1 g1 => ?_
    have g1 : (!q1 .o) = true := by
      rw [Bool.not_eq_true', Bool.eq_false_iff]
      exact fun q => no (g1.1 q)
    cbv
    (first | refine br_is (g1) ?_ | refine br_not (g1) ?_ | refine br_rev (br_is (g1) ?_) | refine br_rev (br_not (g1) ?_))
    cbv
    refine msame_c m (fun _ => { n .o with nano := 1000000000 }) sm.acl sm.dflt sm.xs fun q2 g2 => ?_
    have g2 : (!q2 .o) = true := by
      rw [Bool.not_eq_true', Bool.eq_false_iff]
      exact fun q => no (by rw [← g2.1 q]; exact ok)
    cbv
    (first | refine br_is (g2) ?_ | refine br_not (g2) ?_ | refine br_rev (br_is (g2) ?_) | refine br_rev (br_not (g2) ?_))
    cbv
    refine awake14_c fun r hr => ?_
    cbv
    exact ⟨r, rfl, hr⟩
  cbv
  ((try refine br_rev ?_); (first | refine br_dec (fun w4 => ?_) (fun w4 => ?_) | refine br_ndec (fun w4 => ?_) (fun w4 => ?_) | refine br_nbool (fun w4 => ?_) (fun w4 => ?_) | refine br_bool (fun w4 => ?_) (fun w4 => ?_)); all_goals (try dsimp only at w4); all_goals (try with_reducible replace w4 := zi_lt.1 w4); all_goals (try with_reducible replace w4 := not_zlt w4))
  focus
    cbv
    have no : ¬ MetaOk { n .o with flags := 16 } (kindN (kind .o)) := fun q => absurd (show mayF 16 = true from q.flags) (by decide)
    refine mmay_c (fun _ => { n .o with flags := 16 }) (fun _ => kindN (kind .o)) ⟨sn.acl, sn.dflt, sn.xs, sn.long⟩ fun q1 g1 => ?_
    have g1 : (!q1 .o) = true := by
      rw [Bool.not_eq_true', Bool.eq_false_iff]
      exact fun q => no (g1.1 q)
    cbv
    (first | refine br_is (g1) ?_ | refine br_not (g1) ?_ | refine br_rev (br_is (g1) ?_) | refine br_rev (br_not (g1) ?_))
    cbv
    refine msame_c m (fun _ => { n .o with flags := 16 }) sm.acl sm.dflt sm.xs fun q2 g2 => ?_
    have g2 : (!q2 .o) = true := by
      rw [Bool.not_eq_true', Bool.eq_false_iff]
      exact fun q => no (by rw [← g2.1 q]; exact ok)
    cbv
    (first | refine br_is (g2) ?_ | refine br_not (g2) ?_ | refine br_rev (br_is (g2) ?_) | refine br_rev (br_not (g2) ?_))
    cbv
    refine awake14_c fun r hr => ?_
    cbv
    exact ⟨r, rfl, hr⟩
  cbv
  ((try refine br_rev ?_); (first | refine br_dec (fun w5 => ?_) (fun w5 => ?_) | refine br_ndec (fun w5 => ?_) (fun w5 => ?_) | refine br_nbool (fun w5 => ?_) (fun w5 => ?_) | refine br_bool (fun w5 => ?_) (fun w5 => ?_)); all_goals (try dsimp only at w5); all_goals (try with_reducible replace w5 := zi_lt.1 w5); all_goals (try with_reducible replace w5 := not_zlt w5))
  focus
    cbv
    have no : ¬ MetaOk { n .o with xs := [⟨[98], []⟩, ⟨[97], []⟩] } (kindN (kind .o)) := fun q => xs_turned q.xs
    refine CallAt.args (.cons (metaX_same n (X := X2) (fun _ => [⟨[98], []⟩, ⟨[97], []⟩]) x2_same) (.cons (.refl _) .nil)) ?_
    refine mmay_c (fun _ => { n .o with xs := [⟨[98], []⟩, ⟨[97], []⟩] }) (fun _ => kindN (kind .o)) ⟨sn.acl, sn.dflt, xs2_short, xs2_long⟩ fun q1 g1 => ?_
    have g1 : (!q1 .o) = true := by
      rw [Bool.not_eq_true', Bool.eq_false_iff]
      exact fun q => no (g1.1 q)
    cbv
    (first | refine br_is (g1) ?_ | refine br_not (g1) ?_ | refine br_rev (br_is (g1) ?_) | refine br_rev (br_not (g1) ?_))
    cbv
    refine CallAt.args (.cons (.refl _) (.cons (metaX_same n (X := X2) (fun _ => [⟨[98], []⟩, ⟨[97], []⟩]) x2_same) .nil)) ?_
    refine msame_c m (fun _ => { n .o with xs := [⟨[98], []⟩, ⟨[97], []⟩] }) sm.acl sm.dflt sm.xs fun q2 g2 => ?_
    have g2 : (!q2 .o) = true := by
      rw [Bool.not_eq_true', Bool.eq_false_iff]
      exact fun q => no (by rw [← g2.1 q]; exact ok)
    cbv
    (first | refine br_is (g2) ?_ | refine br_not (g2) ?_ | refine br_rev (br_is (g2) ?_) | refine br_rev (br_not (g2) ?_))
    cbv
    refine awake14_c fun r hr => ?_
    cbv
    exact ⟨r, rfl, hr⟩
  cbv
  ((try refine br_rev ?_); (first | refine br_dec (fun w6 => ?_) (fun w6 => ?_) | refine br_ndec (fun w6 => ?_) (fun w6 => ?_) | refine br_nbool (fun w6 => ?_) (fun w6 => ?_) | refine br_bool (fun w6 => ?_) (fun w6 => ?_)); all_goals (try dsimp only at w6); all_goals (try with_reducible replace w6 := zi_lt.1 w6); all_goals (try with_reducible replace w6 := not_zlt w6))
  focus
    cbv
    have hb : 0 ≤ band (n .o).mode 511 ∧ band (n .o).mode 511 < 512 := by have := b1.mode; rw [band_mod9]; omega
    refine CallAt.args (.cons (show Same .nsl (byteI fun _ => []) from Same.nsl rfl) (.cons (.refl _) .nil)) ?_
    refine l9_c (fun _ => []) _ isB_nil (by unfold short; decide) fun l hl => ?_
    have hl : l .o = l9S [] (abits .xor .i64 (band (n .o).mode 511) 1) := hl
    cbv
    have hls : short (l .o) := by rw [hl]; exact l9_short _ _
    have no : ¬ MetaOk { n .o with acl := l .o } (kindN (kind .o)) := fun q => by
      rcases q.acl with e | e
      · rw [show l .o = _ from hl] at e; exact l9_ne isB_nil _ e
      · have e := e.2
        rw [show l .o = _ from hl] at e; rw [modeA_l9 isB_nil (xor1' hb).1] at e; exact (xor1' hb).2 e
    refine mmay_c (fun _ => { n .o with acl := l .o }) (fun _ => kindN (kind .o)) ⟨hls, sn.dflt, sn.xs, sn.long⟩ fun q1 g1 => ?_
    have g1 : (!q1 .o) = true := by
      rw [Bool.not_eq_true', Bool.eq_false_iff]
      exact fun q => no (g1.1 q)
    cbv
    (first | refine br_is (g1) ?_ | refine br_not (g1) ?_ | refine br_rev (br_is (g1) ?_) | refine br_rev (br_not (g1) ?_))
    cbv
    refine msame_c m (fun _ => { n .o with acl := l .o }) sm.acl sm.dflt sm.xs fun q2 g2 => ?_
    have g2 : (!q2 .o) = true := by
      rw [Bool.not_eq_true', Bool.eq_false_iff]
      exact fun q => no (by rw [← g2.1 q]; exact ok)
    cbv
    (first | refine br_is (g2) ?_ | refine br_not (g2) ?_ | refine br_rev (br_is (g2) ?_) | refine br_rev (br_not (g2) ?_))
    cbv
    refine awake14_c fun r hr => ?_
    cbv
    exact ⟨r, rfl, hr⟩
  cbv
  cbv
  have no : ¬ MetaOk { n .o with caps := { (n .o).caps with ver := 5 } } (kindN (kind .o)) := fun q => by
    rcases q.caps with e | e | e
    · exact absurd (show (5 : Int) = 0 from congrArg Caps.ver e) (by decide)
    · exact absurd (show (5 : Int) = 2 from e.1) (by decide)
    · exact absurd (show (5 : Int) = 3 from e.1) (by decide)
  refine mmay_c (fun _ => { n .o with caps := { (n .o).caps with ver := 5 } }) (fun _ => kindN (kind .o)) ⟨sn.acl, sn.dflt, sn.xs, sn.long⟩ fun q1 g1 => ?_
  have g1 : (!q1 .o) = true := by
    rw [Bool.not_eq_true', Bool.eq_false_iff]
    exact fun q => no (g1.1 q)
  cbv
  (first | refine br_is (g1) ?_ | refine br_not (g1) ?_ | refine br_rev (br_is (g1) ?_) | refine br_rev (br_not (g1) ?_))
  cbv
  refine msame_c m (fun _ => { n .o with caps := { (n .o).caps with ver := 5 } }) sm.acl sm.dflt sm.xs fun q2 g2 => ?_
  have g2 : (!q2 .o) = true := by
    rw [Bool.not_eq_true', Bool.eq_false_iff]
    exact fun q => no (by rw [← g2.1 q]; exact ok)
  cbv
  (first | refine br_is (g2) ?_ | refine br_not (g2) ?_ | refine br_rev (br_is (g2) ?_) | refine br_rev (br_not (g2) ?_))
  cbv
  refine awake14_c fun r hr => ?_
  cbv
  exact ⟨r, rfl, hr⟩
end Go.Proofs.Ytgjlkcdnlndlnaa
