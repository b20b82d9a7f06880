/- Texts laid together: Xs. -/
import Derived.Test.YtjjddmbnfkmfdaaXL4
/- Law XattrLimits. -/
namespace Go.Proofs.Ytjjddmbnfkmfdaa
open Go Go.Proofs.Ytjjddmbnfkmfdaa.Sx F
set_option linter.unusedVariables false
set_option linter.unusedSimpArgs false
theorem escS_app (a b : List UInt8) : escS (a ++ b) = escS a ++ escS b := by unfold escS; rw [List.flatMap_append]
theorem escS_rep : ∀ k, (escS (List.replicate k 110)).length = k
  | 0 => rfl
  | k + 1 => by
    have ih := escS_rep k
    rw [List.replicate_succ]
    unfold escS at ih ⊢
    rw [List.flatMap_cons, List.length_append, ih]
    have : (escB 110).length = 1 := by decide
    omega
theorem xsOne {x : Xattr} : XsOk [x] ↔ XOk x := by
  constructor
  · intro h; exact h.to.ok 0 (by simp)
  · intro h
    refine ⟨⟨fun j hj => ?_, fun j hj => by simp at hj⟩, by simp⟩
    obtain rfl : j = 0 := by simpa using hj
    exact h
structure NmOk (nm : List UInt8) (k : Nat) : Prop where
  ne : nm ≠ []
  esc : (escS nm).length = k
  no : ¬ (0 : UInt8) ∈ nm
  len : nm.length ≤ 300
theorem NmOk.iff {nm : List UInt8} {k : Nat} (h : NmOk nm k) : XsOk [⟨nm, []⟩] ↔ k ≤ 238 := by
  rw [xsOne]
  unfold XOk
  simp only [h.esc]
  exact ⟨fun q => q.2.1, fun q => ⟨h.ne, q, h.no, by simp⟩⟩
theorem nm_plain {k : Nat} (h0 : 0 < k) (h1 : k ≤ 300) : NmOk (List.replicate k 110) k :=
  ⟨by intro q; have := congrArg List.length q; simp at this; omega, escS_rep k, fun q => by { have := List.eq_of_mem_replicate q; cases this }, by simpa using h1⟩
theorem nm_odd {k : Nat} (h0 : 76 ≤ k) (h1 : k ≤ 290) : NmOk ((List.replicate k 110).take 75 ++ [255] ++ (List.replicate k 110).drop 76) (k + 2) := by
  have e1 : (List.replicate k (110 : UInt8)).take 75 = List.replicate 75 110 := by rw [List.take_replicate, Nat.min_eq_left (by omega)]
  have e2 : (List.replicate k (110 : UInt8)).drop 76 = List.replicate (k - 76) 110 := by rw [List.drop_replicate]
  rw [e1, e2]
  refine ⟨by simp, ?_, fun q => ?_, ?_⟩
  · rw [escS_app, escS_app, List.length_append, List.length_append, escS_rep, escS_rep, show (escS [255]).length = 3 by decide]; omega
  · rcases List.mem_append.1 q with q | q
    · rcases List.mem_append.1 q with q | q
      · have := List.eq_of_mem_replicate q; cases this
      · simp at q
    · have := List.eq_of_mem_replicate q; cases this
  · simp only [List.length_append, List.length_replicate, List.length_cons, List.length_nil]; omega
theorem val_iff (n : Nat) : XsOk [⟨[118], List.replicate n 0⟩] ↔ n ≤ 4096 := by
  rw [xsOne]
  unfold XOk
  simp only [List.length_replicate]
  exact ⟨fun q => q.2.2.2, fun q => ⟨by decide, by decide, by decide, q⟩⟩
def manyX (n : Nat) : List Xattr := (List.range n).map fun i => ⟨[110, UInt8.ofNat (65 + i)], []⟩
theorem many_at {n i : Nat} (h : i < n) : (manyX n).getD i Xattr.z = ⟨[110, UInt8.ofNat (65 + i)], []⟩ := by
  unfold manyX
  rw [List.getD_eq_getElem?_getD, List.getElem?_map, List.getElem?_range h]
  rfl
theorem many_len (n : Nat) : (manyX n).length = n := by simp [manyX]
theorem many_succ (n : Nat) : manyX (n + 1) = manyX n ++ [⟨[110, UInt8.ofNat (65 + n)], []⟩] := by
  unfold manyX
  rw [List.range_succ, List.map_append]
  rfl
theorem many_ok : ∀ i : Fin 40, XOk ⟨[110, UInt8.ofNat (65 + i.1)], []⟩ ∧ leS [110, UInt8.ofNat (65 + (i.1 + 1))] [110, UInt8.ofNat (65 + i.1)] = false := by
  intro i
  refine ⟨⟨by simp, ?_, ?_, by simp⟩, ?_⟩
  · revert i; decide +kernel
  · revert i; decide +kernel
  · revert i; decide +kernel
theorem many_iff {n : Nat} (h : n ≤ 40) : XsOk (manyX n) ↔ n ≤ 32 := by
  constructor
  · intro q; have := q.len; rwa [many_len] at this
  · intro q
    refine ⟨⟨fun j hj => ?_, fun j hj => ?_⟩, by rw [many_len]; exact q⟩
    · rw [many_len] at hj
      rw [many_at hj]
      exact (many_ok ⟨j, by omega⟩).1
    · rw [many_len] at hj
      rw [many_at hj, many_at (by omega)]
      exact (many_ok ⟨j, by omega⟩).2
theorem not_empty : ¬ XsOk [⟨[], []⟩] := by rw [xsOne]; intro h; exact h.1 rfl
theorem not_zero : ¬ XsOk [⟨[97, 0], []⟩] := by rw [xsOne]; intro h; exact h.2.2.1 (by decide)
theorem not_twice : ¬ XsOk [⟨[97], []⟩, ⟨[97], []⟩] := fun h => by
  have := h.to.up 0 (by decide)
  revert this
  decide
theorem many_long (n : Nat) : longX (manyX n) := by
  intro x hx
  unfold manyX at hx
  obtain ⟨i, _, rfl⟩ := List.mem_map.1 hx
  show 2 ≤ _
  omega
theorem one2 (x y : List UInt8) : Same (AV.sl 2 (fun _ => 1) fun i => elemAt 2 ((AV.str fun _ => x).cons ((AV.str fun _ => y).cons AV.nil)) (i .o)) (xattrs fun _ => [⟨x, y⟩]) := by
  refine .sl rfl fun i hi => ?_
  obtain rfl : i = 0 := by
    have hi : i < 1 := hi
    omega
  rfl
theorem two2 (x y u v : List UInt8) : Same (AV.sl 2 (fun _ => 2) fun i => elemAt 2 ((AV.str fun _ => x).cons ((AV.str fun _ => y).cons ((AV.str fun _ => u).cons ((AV.str fun _ => v).cons AV.nil)))) (i .o)) (xattrs fun _ => [⟨x, y⟩, ⟨u, v⟩]) := by
  refine .sl rfl fun i hi => ?_
  have hi : i < 2 := hi
  obtain rfl | rfl : i = 0 ∨ i = 1 := by omega
  · rfl
  · rfl
theorem twice_long : longX [⟨[97], []⟩, ⟨[97], []⟩] := by
  intro x hx
  have hx : x = ⟨[97], []⟩ := by simpa using hx
  rw [hx]
  decide
theorem letter_eq {j : Nat} (h : j < 40) : IntKind.u8.wrap (IntKind.i64.wrap (65 + zi j)) = zi (UInt8.ofNat (65 + j)).toNat := by
  have e1 : IntKind.i64.wrap (65 + zi j) = 65 + zi j := by rw [IntKind.wrap_i64]; unfold zi; omega
  have e2 : (65 + j) % 2 ^ 8 = 65 + j := Nat.mod_eq_of_lt (by omega)
  rw [e1, IntKind.wrap_u8, UInt8.toNat_ofNat', e2]
  unfold zi
  omega
theorem agree {b : Bool} {p q : Prop} [Decidable q] (h : b = true ↔ p) (hq : q ↔ p) : (b == decide q) = true := by
  have : b = true ↔ q := h.trans hq.symm
  cases b <;> by_cases q <;> simp_all
set_option maxHeartbeats 8000000 in
theorem limits_c (n m : Th Int) (odd : Th Bool) (hn : 0 ≤ n .o ∧ n .o < 256) (hm : 0 ≤ m .o ∧ m .o < 256) {d : Nat} {K : ARes → BL → Prop} (hr : ∀ b : Th Bool, b .o = true → K (.ret (.bool b)) .nil) : CallAt PT l13_XattrLimits [.int .u8 n, .int .u8 m, .bool odd] d .nil K := by
  refine CallAt.res ?_
  obtain ⟨hn0, hn1⟩ := hn
  obtain ⟨hm0, hm1⟩ := hm
  refine l13_XattrLimits.of rfl rfl ?_
  cbv
  refine safe (by decide) ?_
  obtain ⟨k, hkd⟩ : ∃ k : Nat, k = 225 + (n .o).toNat % 20 := ⟨_, rfl⟩
  have hk1 : 225 ≤ k := by omega
  have hk2 : k ≤ 244 := by omega
  refine loop_at (X := Nat) 1000 [0, 1, 2, 6] [] (fun _ i => .cons 7 (.str fun _ => List.replicate i 110) (.cons 8 (.int .i64 fun _ => zi k) (.cons 9 (.int .i64 fun _ => zi i) .nil))) (fun _ _ => .nil) (fun i => i ≤ k) (fun i => k - i) 0 ?_ (Nat.zero_le _) ?_
  · cbv
    (repeat' (first | exact True.intro | exact Same.refl _ | exact SameB.refl _ | exact ⟨rfl⟩ | exact Same.int rfl | exact Same.str rfl | exact Same.bool rfl | (refine Same.int ?_; simp only [List.length_append, List.length_cons, List.length_nil, zi]; omega) | (refine SameB.row' rfl fun i hi => ?_; first | rfl | exact absurd hi (Nat.not_lt_zero _)) | refine And.intro ?_ ?_ | refine SameB.cells ?_ | exact SameC.nil | refine SameC.cons ?_ ?_ | exact Same.nsl rfl | exact Same.tt rfl | exact Same.ff rfl))
    all_goals (refine Same.int ?_; rw [IntKind.wrap_i64, IntKind.wrap_i64, Int.tmod_eq_emod_of_nonneg (by omega)]; unfold zi; omega)
  · intro i hi
    cbv
    refine br_zlt (fun h4 => ?_) (fun h4 => ?_)
    · have h4 : i < k := h4
      cbv
      refine safe (by show (List.replicate i (110 : UInt8)).length + 1 ≤ _; rw [List.length_replicate]; omega) ?_
      refine ⟨i + 1, h4, by show k - (i + 1) < k - i; omega, ?_⟩
      cbv
      rw [zi_succ (by omega)]
      (repeat' (first | exact True.intro | exact Same.refl _ | exact SameB.refl _ | exact ⟨rfl⟩ | exact Same.int rfl | exact Same.str rfl | exact Same.bool rfl | (refine Same.int ?_; simp only [List.length_append, List.length_cons, List.length_nil, zi]; omega) | (refine SameB.row' rfl fun i hi => ?_; first | rfl | exact absurd hi (Nat.not_lt_zero _)) | refine And.intro ?_ ?_ | refine SameB.cells ?_ | exact SameC.nil | refine SameC.cons ?_ ?_ | exact Same.nsl rfl | exact Same.tt rfl | exact Same.ff rfl))
      all_goals (refine Same.str ?_; show List.replicate i (110 : UInt8) ++ [110] = List.replicate (i + 1) 110; rw [List.replicate_succ'])
    · obtain rfl : i = k := by have h4 : k ≤ i := h4; omega
      cbv
      have hll : (List.replicate i (110 : UInt8)).length = i := List.length_replicate
      obtain ⟨mm, hmm⟩ : ∃ mm : Nat, mm = 4090 + (m .o).toNat % 12 := ⟨_, rfl⟩
      have hme : IntKind.i64.wrap (4090 + (IntKind.i64.wrap (m .o)).tmod 12) = zi mm := by
        rw [IntKind.wrap_i64, IntKind.wrap_i64, Int.tmod_eq_emod_of_nonneg (by omega)]; unfold zi; omega
      have hmz : (zi mm).toNat = mm := zi_toNat mm
      have hm28 : IntKind.i64.wrap (28 + (IntKind.i64.wrap (m .o)).tmod 8) = zi (28 + (m .o).toNat % 8) := by
        rw [IntKind.wrap_i64, IntKind.wrap_i64, Int.tmod_eq_emod_of_nonneg (by omega)]; unfold zi; omega
      obtain ⟨M, hM⟩ : ∃ M : Nat, M = 28 + (m .o).toNat % 8 := ⟨_, rfl⟩
      rw [← hM] at hm28
      have hMl : M ≤ 35 := by omega
      refine br_bool ?w1 ?w2
      case' w1 =>
        intro h5
        cbv
        refine safe ⟨Int.le_refl _, by decide, by show (75 : Int) ≤ zi (List.replicate i 110).length; rw [hll]; unfold zi; omega⟩ ?_
        refine safe (by show (List.drop (0 : Int).toNat (List.take (75 : Int).toNat (List.replicate i (110 : UInt8)))).length + 1 ≤ _; rw [List.length_drop, List.length_take, hll]; omega) ?_
        refine safe ⟨by decide, by show (76 : Int) ≤ zi (List.replicate i 110).length; rw [hll]; unfold zi; omega, Int.le_refl _⟩ ?_
        refine safe (by simp only [List.length_append, List.length_drop, List.length_take, hll, List.length_cons, List.length_nil]; unfold zi; omega) ?_
        obtain ⟨nm, hnm⟩ : ∃ nm : List UInt8, nm = List.drop (0 : Int).toNat (List.take (75 : Int).toNat (List.replicate i (110 : UInt8))) ++ [255] ++ List.drop (76 : Int).toNat (List.take (zi (List.replicate i (110 : UInt8)).length).toNat (List.replicate i 110)) := ⟨_, rfl⟩
        have hok : NmOk nm (i + 2) := by
          have h := nm_odd (k := i) (by omega) (by omega)
          rw [hnm, zi_toNat, List.take_length]
          exact h
        have hKK : IntKind.i64.wrap (zi i + 2) = zi (i + 2) := by rw [IntKind.wrap_i64]; unfold zi; omega
        rw [← hnm]
        simp only [hKK]
        generalize i + 2 = kk at hok
        clear hnm
      case' w2 =>
        intro h5
        obtain ⟨nm, hnm⟩ : ∃ nm : List UInt8, nm = List.replicate i 110 := ⟨_, rfl⟩
        have hok : NmOk nm i := by rw [hnm]; exact nm_plain (by omega) (by omega)
        rw [← hnm]
        cbv
        clear hnm
        generalize i = kk at hok ⊢
      all_goals
        refine safe (by decide) ?_
        simp only [hme]
        refine safe ⟨zi_nonneg _, Int.le_refl _, by show (1 : Int) * zi mm ≤ _; unfold zi; omega, by unfold zi; omega⟩ ?_
        refine safe (fun _ _ => ⟨_, rfl⟩) ?_
        refine nil_tmp 12 9000 2 (fun i => Xattr.ch fun _ => ([] : List Xattr).getD (i .o) Xattr.z) rfl rfl ?_
        refine loop_at (X := Nat) 1000 [1, 10, 11] [] (fun _ j => .cons 8 (.int .i64 fun _ => zi kk) (.cons 12 (.row 9000) (.cons 13 (.int .i64 fun _ => zi j) .nil))) (fun _ j => .cons 36 (rowB 2 Xattr.ch Xattr.z fun _ => [⟨nm, []⟩]) (.cons 44 (rowB 2 Xattr.ch Xattr.z fun _ => [⟨[118], List.replicate mm 0⟩]) (.cons 9000 (rowB 2 Xattr.ch Xattr.z fun _ => manyX j) .nil))) (fun j => j ≤ M) (fun j => M - j) 0 ?_ (Nat.zero_le _) ?_
        · cbv
          (repeat' (first | exact True.intro | exact Same.refl _ | exact SameB.refl _ | exact ⟨rfl⟩ | exact Same.int rfl | exact Same.str rfl | exact Same.bool rfl | (refine Same.int ?_; simp only [List.length_append, List.length_cons, List.length_nil, zi]; omega) | (refine SameB.row' rfl fun i hi => ?_; first | rfl | exact absurd hi (Nat.not_lt_zero _)) | refine And.intro ?_ ?_ | refine SameB.cells ?_ | exact SameC.nil | refine SameC.cons ?_ ?_ | exact Same.nsl rfl | exact Same.tt rfl | exact Same.ff rfl))
          · refine SameB.row' rfl fun q hq => ?_
            obtain rfl : q = 0 := by
              have hq : q < 1 := hq
              omega
            rfl
          · refine SameB.row' rfl fun q hq => ?_
            obtain rfl : q = 0 := by
              have hq : q < 1 := hq
              omega
            have hbz : bytesN (zi mm).toNat (fun _ => (AV.int IntKind.u8 fun _ => 0).cons AV.nil) = List.replicate mm 0 := by
              rw [hmz]
              exact bytes_u8 (List.replicate mm 0) List.length_replicate.symm fun q hq => by
                have hq' : q < mm := by simpa using hq
                show _ = u8Ch fun _ => (List.replicate mm 0).getD q 0
                rw [List.getD_eq_getElem?_getD, List.getElem?_replicate, if_pos hq']
                rfl
            show (AV.str fun _ => [118]).cons ((AV.str fun _ => bytesN (zi mm).toNat fun _ => (AV.int IntKind.u8 fun _ => 0).cons AV.nil).cons AV.nil) = _
            rw [hbz]
            rfl
        · intro j hj
          have hjz := zi_toNat j
          cbv
          refine safe (by decide) ?_
          simp only [hm28]
          refine br_zlt (fun h6 => ?_) (fun h6 => ?_)
          · have h6 : j < M := h6
            have hby := letter_eq (j := j) (by omega)
            have hmj := many_succ j
            have hmlen := many_len j
            cbv
            simp only [hby]
            generalize UInt8.ofNat (65 + j) = c at hmj
            have hbe : bytesN 1 (fun i => elemAt 1 ((AV.int IntKind.u8 fun _ => zi c.toNat).cons AV.nil) (i .o)) = [c] := bytes_u8 [c] rfl fun q hq => by
              obtain rfl : q = 0 := by
                have hq : q < 1 := hq
                omega
              rfl
            refine safe (fun q hq => ?_) ?_
            · obtain rfl : q = 0 := by
                have hq : q < 1 := hq
                omega
              exact ⟨_, rfl⟩
            refine safe (by show ([110] : List UInt8).length + (bytesN 1 _).length ≤ _; rw [hbe]; simp only [List.length_cons, List.length_nil]; omega) ?_
            refine app_one Xattr.ch Xattr.z (manyX j) ⟨[110, c], []⟩ rfl (fun i hi => rfl) rfl (by
              show (AV.str fun _ => [110] ++ bytesN 1 fun i => elemAt 1 ((AV.int IntKind.u8 fun _ => zi c.toNat).cons AV.nil) (i .o)).cons ((AV.str fun _ => []).cons AV.nil) = _
              rw [hbe]; rfl) (by rw [hmlen]; omega) ?_
            rw [← hmj]
            cbv
            refine ⟨j + 1, h6, by show M - (j + 1) < M - j; omega, ?_⟩
            cbv
            rw [zi_succ (by omega)]
            (repeat' (first | exact True.intro | exact Same.refl _ | exact SameB.refl _ | exact ⟨rfl⟩ | exact Same.int rfl | exact Same.str rfl | exact Same.bool rfl | (refine Same.int ?_; simp only [List.length_append, List.length_cons, List.length_nil, zi]; omega) | (refine SameB.row' rfl fun i hi => ?_; first | rfl | exact absurd hi (Nat.not_lt_zero _)) | refine And.intro ?_ ?_ | refine SameB.cells ?_ | exact SameC.nil | refine SameC.cons ?_ ?_ | exact Same.nsl rfl | exact Same.tt rfl | exact Same.ff rfl))
          · obtain rfl : j = M := by have h6 : M ≤ j := h6; omega
            cbv
            refine xsmay_c (fun _ => [⟨nm, []⟩]) (by unfold short; simp) (fun x hx => by rw [List.mem_singleton.1 hx]; have := hok.len; show nm.length ≤ _; omega) fun b1 hb1 => ?_
            have hb1 : b1 .o = true ↔ kk ≤ 238 := hb1.trans hok.iff
            cbv
            have e1 : (b1 .o == decide (zi kk ≤ 238)) = true := agree hb1 (by unfold zi; omega)
            refine ⟨fun _ => ?_, fun h => absurd (e1.symm.trans h) (by decide)⟩
            cbv
            refine xsmay_c (fun _ => [⟨[118], List.replicate mm 0⟩]) (by unfold short; simp) (fun x hx => by rw [List.mem_singleton.1 hx]; show 1 ≤ _; omega) fun b2 hb2 => ?_
            have hb2 : b2 .o = true ↔ mm ≤ 4096 := hb2.trans (val_iff mm)
            cbv
            refine safe (by decide) ?_
            simp only [hme]
            have e2 : (b2 .o == decide (zi mm ≤ 4096)) = true := agree hb2 (by unfold zi; omega)
            refine ⟨fun _ => ?_, fun h => absurd (e2.symm.trans h) (by decide)⟩
            cbv
            refine xsmay_c (fun _ => manyX j) (by unfold short; show (manyX j).length ≤ _; rw [many_len]; omega) (many_long j) fun b3 hb3 => ?_
            have hb3 : b3 .o = true ↔ j ≤ 32 := hb3.trans (many_iff (by omega))
            have hml : zi (manyX j).length ≤ 32 ↔ j ≤ 32 := by rw [many_len]; unfold zi; omega
            cbv
            have e3 : (b3 .o == decide (zi (manyX j).length ≤ 32)) = true := agree hb3 hml
            refine ⟨fun _ => ?_, fun h => absurd (e3.symm.trans h) (by decide)⟩
            cbv
            refine CallAt.args (.cons (one2 [] []) .nil) (xsmay_c (fun _ => [⟨[], []⟩]) (by unfold short; decide) (fun x hx => by rw [List.mem_singleton.1 hx]; decide) fun b4 hb4 => ?_)
            have hb4 : b4 .o = false := Bool.eq_false_iff.2 fun h => not_empty (hb4.1 h)
            cbv
            have e4 : (!b4 .o) = true := by rw [hb4]; rfl
            refine ⟨fun _ => ?_, fun h => absurd (e4.symm.trans h) (by decide)⟩
            cbv
            refine CallAt.args (.cons (one2 [97, 0] []) .nil) (xsmay_c (fun _ => [⟨[97, 0], []⟩]) (by unfold short; decide) (fun x hx => by rw [List.mem_singleton.1 hx]; decide) fun b5 hb5 => ?_)
            have hb5 : b5 .o = false := Bool.eq_false_iff.2 fun h => not_zero (hb5.1 h)
            cbv
            have e5 : (!b5 .o) = true := by rw [hb5]; rfl
            refine ⟨fun _ => ?_, fun h => absurd (e5.symm.trans h) (by decide)⟩
            cbv
            refine CallAt.args (.cons (two2 [97] [] [97] []) .nil) (xsmay_c (fun _ => [⟨[97], []⟩, ⟨[97], []⟩]) (by unfold short; decide) twice_long fun b6 hb6 => ?_)
            have hb6 : b6 .o = false := Bool.eq_false_iff.2 fun h => not_twice (hb6.1 h)
            cbv
            have e6 : (!b6 .o) = true := by rw [hb6]; rfl
            refine ⟨fun _ => ?_, fun h => absurd (e6.symm.trans h) (by decide)⟩
            cbv
            refine awake13_c fun b7 hb7 => ?_
            cbv
            exact ⟨_, .ret (Same.refl _), hr _ hb7⟩
theorem xattrLimits_c (n m : Th Int) (odd : Th Bool) (hn : 0 ≤ n .o ∧ n .o < 256) (hm : 0 ≤ m .o ∧ m .o < 256) : CallAt PT l13_XattrLimits [.int .u8 n, .int .u8 m, .bool odd] 9999 .nil Yes :=
  limits_c n m odd hn hm fun b hb => ⟨b, rfl, hb⟩
end Go.Proofs.Ytjjddmbnfkmfdaa
