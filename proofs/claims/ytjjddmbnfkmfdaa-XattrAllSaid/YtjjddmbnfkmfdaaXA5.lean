/- Texts laid together: Xl, Xn, Xat, Xo, Xp, Ins, InsC, Xq, Xr, Xt, Arg, Xu. -/
import Derived.Shelf.Spec.SlicesInsertGrow
import Derived.Deep.RegionLaw
import Derived.WideShapes
import Derived.Test.YtjjddmbnfkmfdaaXA4
/- Letters as bytes, the document's way. -/
namespace Go.Proofs.Ytjjddmbnfkmfdaa
open Go Go.Proofs.Ytjjddmbnfkmfdaa.Sx F
set_option linter.unusedVariables false
set_option linter.unusedSimpArgs false
/-- A letter more: what is known so far, how many bits of it are not yet told, the bytes. -/
def nx6 (c : UInt8) (n : Nat) : Nat := match sixI c with | some k => (n * 64 + k) % 1048576 | none => n
def bx6 (c : UInt8) (b : Nat) : Nat := match sixI c with | some k => b + 6 | none => b
def g6 (x : Nat × Nat × List UInt8) (c : UInt8) : Nat × Nat × List UInt8 :=
  if 8 ≤ bx6 c x.2.1 then (nx6 c x.1, bx6 c x.2.1 - 8, x.2.2 ++ [UInt8.ofNat (nx6 c x.1 / 2 ^ (bx6 c x.2.1 - 8))]) else (nx6 c x.1, bx6 c x.2.1, x.2.2)
theorem g6_let {n b N k i : Nat} {o : List UInt8} (hi : i ≤ k) : g6 (n, b, o) (let4 N k i) = if 8 ≤ b + 6 then ((n * 64 + N / 64 ^ (3 - i) % 64) % 1048576, b + 6 - 8, o ++ [UInt8.ofNat ((n * 64 + N / 64 ^ (3 - i) % 64) % 1048576 / 2 ^ (b + 6 - 8))]) else ((n * 64 + N / 64 ^ (3 - i) % 64) % 1048576, b + 6, o) := by
  have h := (sixI_mod (N / 64 ^ (3 - i))).1
  unfold g6 nx6 bx6 let4
  rw [if_pos hi]
  simp only [h]
theorem g6_pad {n b N k i : Nat} {o : List UInt8} (hi : ¬ i ≤ k) (hb : b < 8) : g6 (n, b, o) (let4 N k i) = (n, b, o) := by
  have h : sixI 61 = none := by decide
  unfold g6 nx6 bx6 let4
  rw [if_neg hi]
  simp only [h]
  rw [if_neg (by omega)]
theorem l0 (n N k : Nat) (o : List UInt8) : ∃ m, m = (n * 64 + N / 262144 % 64) % 1048576 ∧ g6 (n, 0, o) (let4 N k 0) = (m, 6, o) := ⟨_, rfl, by rw [g6_let (Nat.zero_le _)]; rfl⟩
theorem l1 (n N k : Nat) (o : List UInt8) (h : 1 ≤ k) : ∃ m, m = (n * 64 + N / 4096 % 64) % 1048576 ∧ g6 (n, 6, o) (let4 N k 1) = (m, 4, o ++ [UInt8.ofNat (m / 16)]) := ⟨_, rfl, by rw [g6_let h]; rfl⟩
theorem l2 (n N k : Nat) (o : List UInt8) (h : 2 ≤ k) : ∃ m, m = (n * 64 + N / 64 % 64) % 1048576 ∧ g6 (n, 4, o) (let4 N k 2) = (m, 2, o ++ [UInt8.ofNat (m / 4)]) := ⟨_, rfl, by rw [g6_let h]; rfl⟩
theorem l3 (n N k : Nat) (o : List UInt8) (h : 3 ≤ k) : ∃ m, m = (n * 64 + N / 1 % 64) % 1048576 ∧ g6 (n, 2, o) (let4 N k 3) = (m, 0, o ++ [UInt8.ofNat (m / 1)]) := ⟨_, rfl, by rw [g6_let h]; rfl⟩
theorem fold_six3 (n : Nat) (o : List UInt8) (a b c : UInt8) : ∃ n', (six4 [a, b, c]).foldl g6 (n, 0, o) = (n', 0, o ++ [a, b, c]) := by
  have ha := a.toNat_lt
  have hb := b.toNat_lt
  have hc := c.toNat_lt
  have hN : num3 [a, b, c] = a.toNat * 65536 + b.toNat * 256 + c.toNat := rfl
  simp only [six4, List.foldl_cons, List.foldl_nil, List.length_cons, List.length_nil]
  generalize num3 [a, b, c] = N at hN
  obtain ⟨n1, e1, h1⟩ := l0 n N 3 o
  obtain ⟨n2, e2, h2⟩ := l1 n1 N 3 o (by decide)
  obtain ⟨n3, e3, h3⟩ := l2 n2 N 3 (o ++ [UInt8.ofNat (n2 / 16)]) (by decide)
  obtain ⟨n4, e4, h4⟩ := l3 n3 N 3 ((o ++ [UInt8.ofNat (n2 / 16)]) ++ [UInt8.ofNat (n3 / 4)]) (by decide)
  refine ⟨n4, ?_⟩
  show g6 (g6 (g6 (g6 (n, 0, o) (let4 N 3 0)) (let4 N 3 1)) (let4 N 3 2)) (let4 N 3 3) = _
  rw [h1, h2, h3, h4, ofNat_eq (a := a) (by omega), ofNat_eq (a := b) (by omega), ofNat_eq (a := c) (by omega)]
  simp
theorem fold_six2 (n : Nat) (o : List UInt8) (a b : UInt8) : ∃ n' m', (six4 [a, b]).foldl g6 (n, 0, o) = (n', m', o ++ [a, b]) := by
  have ha := a.toNat_lt
  have hb := b.toNat_lt
  have hN : num3 [a, b] = a.toNat * 65536 + b.toNat * 256 := by simp [num3]
  simp only [six4, List.foldl_cons, List.foldl_nil, List.length_cons, List.length_nil]
  generalize num3 [a, b] = N at hN
  obtain ⟨n1, e1, h1⟩ := l0 n N 2 o
  obtain ⟨n2, e2, h2⟩ := l1 n1 N 2 o (by decide)
  obtain ⟨n3, e3, h3⟩ := l2 n2 N 2 (o ++ [UInt8.ofNat (n2 / 16)]) (by decide)
  refine ⟨n3, 2, ?_⟩
  show g6 (g6 (g6 (g6 (n, 0, o) (let4 N 2 0)) (let4 N 2 1)) (let4 N 2 2)) (let4 N 2 3) = _
  rw [h1, h2, h3, g6_pad (by decide) (by decide), ofNat_eq (a := a) (by omega), ofNat_eq (a := b) (by omega)]
  simp
theorem fold_six1 (n : Nat) (o : List UInt8) (a : UInt8) : ∃ n' m', (six4 [a]).foldl g6 (n, 0, o) = (n', m', o ++ [a]) := by
  have ha := a.toNat_lt
  have hN : num3 [a] = a.toNat * 65536 := by simp [num3]
  simp only [six4, List.foldl_cons, List.foldl_nil, List.length_cons, List.length_nil]
  generalize num3 [a] = N at hN
  obtain ⟨n1, e1, h1⟩ := l0 n N 1 o
  obtain ⟨n2, e2, h2⟩ := l1 n1 N 1 o (by decide)
  refine ⟨n2, 4, ?_⟩
  show g6 (g6 (g6 (g6 (n, 0, o) (let4 N 1 0)) (let4 N 1 1)) (let4 N 1 2)) (let4 N 1 3) = _
  rw [h1, h2, g6_pad (n := n2) (b := 4) (i := 2) (by decide) (by decide), g6_pad (n := n2) (b := 4) (i := 3) (by decide) (by decide), ofNat_eq (a := a) (by omega)]
theorem fold_sixty : ∀ (u : List UInt8) (n : Nat) (o : List UInt8), ((sixtyS u).foldl g6 (n, 0, o)).2.2 = o ++ u
  | [], n, o => by simp [sixtyS]
  | [a], n, o => by obtain ⟨n', m', h⟩ := fold_six1 n o a; rw [sixtyS, h]
  | [a, b], n, o => by obtain ⟨n', m', h⟩ := fold_six2 n o a b; rw [sixtyS, h]
  | a :: b :: c :: r, n, o => by
    obtain ⟨n', h⟩ := fold_six3 n o a b c
    rw [sixtyS, List.foldl_append, h, fold_sixty r]
    simp
def R6 (s : List UInt8) : List UInt8 := (s.foldl g6 (0, 0, [])).2.2
theorem R6_six (u : List UInt8) : R6 (sixtyS u) = u := by unfold R6; rw [fold_sixty]; rfl
theorem R6_SG (s : List UInt8) : SG s (if sixtyS (R6 s) = s then R6 s else []) (decide (sixtyS (R6 s) = s)) := by
  by_cases h : sixtyS (R6 s) = s
  · rw [if_pos h, decide_eq_true h]; exact .inl ⟨rfl, h⟩
  · rw [if_neg h, decide_eq_false h]
    exact .inr ⟨rfl, rfl, fun u hu => h (by rw [← hu, R6_six])⟩
/-- Having looked at the first k letters. -/
def hit (c : UInt8) (k : Nat) : Bool := match sixI c with | some q => decide (q < k) | none => false
theorem hit_0 (c : UInt8) : hit c 0 = false := by unfold hit; split <;> simp
theorem hit_64 (c : UInt8) : hit c 64 = (sixI c).isSome := by
  unfold hit
  split
  · rename_i q h; rw [h]; simpa using sixI_lt h
  · rename_i h; rw [h]; rfl
theorem hit_yes {c : UInt8} {k : Nat} (hk : k < 64) (h : sixL.getD k 0 = c) : sixI c = some k := by rw [← h]; exact (sixI_at ⟨k, hk⟩).1
theorem hit_no {c : UInt8} {k : Nat} (hk : k < 64) (h : sixL.getD k 0 ≠ c) : sixI c ≠ some k := fun q => h (by
  have := (List.findIdx?_eq_some_iff_getElem.1 q)
  obtain ⟨h1, h2, _⟩ := this
  rw [List.getD_eq_getElem?_getD, List.getElem?_eq_getElem h1]
  simpa using h2)
theorem hit_same {c : UInt8} {k : Nat} (h : sixI c ≠ some k) : hit c (k + 1) = hit c k := by
  unfold hit
  split
  · rename_i q hq
    have : q ≠ k := fun e => h (by rw [hq, e])
    rw [decide_eq_decide]; omega
  · rfl
theorem and20 {n : Nat} (h : n < 4611686018427387904) : abits .and .i64 (zi n) 1048575 = zi (n % 1048576) := by
  show bits .and .i64 (n : Int) ((1048575 : Nat) : Int) = _
  rw [and64 h (by decide)]
  have : n &&& 1048575 = n % 1048576 := Nat.and_two_pow_sub_one_eq_mod _ 20
  rw [this]; rfl
theorem getsixty_c (s : Th (List UInt8)) (hs : (s .o).length ≤ 200000) {d : Nat} {K : ARes → BL → Prop} (hr : ∀ t : Th (List UInt8), ∀ b : Th Bool, SG (s .o) (t .o) (b .o) → K (.ret (.agg (.cons (.str t) (.cons (.bool b) .nil)))) .nil) : CallAt PT r1_GetSixty [.str s] d .nil K := by
  refine CallAt.res ?_
  refine r1_GetSixty.of rfl rfl ?_
  cbv
  refine letters_c ?_
  have hLl : sixL.length = 64 := rfl
  have hSe : ∃ SL, SL = sixL := ⟨_, rfl⟩
  obtain ⟨SL, hSL⟩ := hSe
  rw [← hSL] at hLl ⊢
  cbv
  refine nil_tmp 4 9000 1 (fun i => u8Ch fun _ => ([] : List UInt8).getD (i .o) 0) rfl rfl ?_
  refine loop_at (X := Nat × Nat × Nat × List UInt8) 1000 [0, 2, 3] [2] (fun _ x => .cons 4 (.row 9000) (.cons 5 (.int .i64 fun _ => zi x.2.1) (.cons 6 (.int .i64 fun _ => zi x.2.2.1) (.cons 7 (.int .i64 fun _ => zi x.1) .nil)))) (fun _ x => .cons 9000 (rowB 1 u8Ch 0 fun _ => x.2.2.2) .nil)
    (fun x => x.1 ≤ (s .o).length ∧ x.2.2.2.length ≤ x.1 ∧ x.2.1 < 1048576 ∧ x.2.2.1 < 8 ∧ (s .o).foldl g6 (0, 0, []) = ((s .o).drop x.1).foldl g6 (x.2.1, x.2.2.1, x.2.2.2)) (fun x => (s .o).length - x.1) (0, 0, 0, []) ?_ ⟨Nat.zero_le _, Nat.le_refl _, by decide, by decide, rfl⟩ ?_
  · cbv
    (repeat' (first | exact True.intro | exact Same.refl _ | exact SameB.refl _ | exact ⟨rfl⟩ | exact Same.int rfl | exact Same.str rfl | exact Same.bool rfl | (refine Same.int ?_; simp only [List.length_append, List.length_cons, List.length_nil, zi]; omega) | (refine SameB.row' rfl fun i hi => ?_; first | rfl | exact absurd hi (Nat.not_lt_zero _)) | refine And.intro ?_ ?_ | refine SameB.cells ?_ | exact SameC.nil | refine SameC.cons ?_ ?_ | exact Same.nsl rfl | exact Same.tt rfl | exact Same.ff rfl))
  · rintro ⟨i, n, b, o⟩ ⟨h2, h2b, hn, hb, h3⟩
    dsimp only at h2 h2b hn hb h3
    have hz := zi_toNat i
    cbv
    refine br_zlt (fun h4 => ?_) (fun h4 => ?_)
    · have h4 : i < (s .o).length := h4
      have hdr : (s .o).drop i = (s .o).getD i 0 :: (s .o).drop (i + 1) := by
        rw [← List.getElem_cons_drop h4, List.getD_eq_getElem?_getD, List.getElem?_eq_getElem h4]; rfl
      rw [hdr, List.foldl_cons] at h3
      obtain ⟨c, hc⟩ : ∃ c, c = (s .o).getD i 0 := ⟨_, rfl⟩
      rw [← hc] at h3
      cbv
      refine loop_at (X := Nat) 1000 [0, 2, 3, 4, 7] [2, 9000] (fun _ k => .cons 5 (.int .i64 fun _ => zi (bif hit c k then nx6 c n else n)) (.cons 6 (.int .i64 fun _ => zi (bif hit c k then b + 6 else b)) (.cons 8 (.int .i64 fun _ => zi k) .nil))) (fun _ _ => .nil) (fun k => k ≤ 64) (fun k => 64 - k) 0 ?_ (Nat.zero_le _) ?_
      · cbv
        (repeat' (first | exact True.intro | exact Same.refl _ | exact SameB.refl _ | exact ⟨rfl⟩ | exact Same.int rfl | exact Same.str rfl | exact Same.bool rfl | (refine Same.int ?_; simp only [List.length_append, List.length_cons, List.length_nil, zi]; omega) | (refine SameB.row' rfl fun i hi => ?_; first | rfl | exact absurd hi (Nat.not_lt_zero _)) | refine And.intro ?_ ?_ | refine SameB.cells ?_ | exact SameC.nil | refine SameC.cons ?_ ?_ | exact Same.nsl rfl | exact Same.tt rfl | exact Same.ff rfl))
        all_goals (refine Same.int ?_; rw [hit_0]; rfl)
      · intro k hk
        have hzk := zi_toNat k
        cbv
        refine br_dec (fun h5 => ?_) (fun h5 => ?_)
        · have h5 : k < 64 := by have h5 : zi k < 64 := h5; unfold zi at h5; omega
          refine safe ⟨zi_nonneg _, zi_lt.2 (by rw [hLl]; exact h5)⟩ (safe ⟨zi_nonneg _, zi_lt.2 h4⟩ ?_)
          refine br_dec (fun h6 => ?_) (fun h6 => ?_)
          · have h6 : sixL.getD k 0 = c := by
              have h6 : zi (SL.getD (zi k).toNat 0).toNat = zi ((s .o).getD (zi i).toNat 0).toNat := h6
              rw [hz, hzk, ← hc, hSL] at h6
              exact UInt8.toNat_inj.1 (by unfold zi at h6; omega)
            have h7 := hit_yes h5 h6
            have k0 : hit c k = false := by unfold hit; rw [h7]; simp
            have k1 : hit c (k + 1) = true := by unfold hit; rw [h7]; simp
            have hnx : nx6 c n = (n * 64 + k) % 1048576 := by unfold nx6; rw [h7]
            simp only [k0, cond_false]
            cbv
            refine safe (by decide) ?_
            refine ⟨k + 1, h5, by show 64 - (k + 1) < 64 - k; omega, ?_⟩
            simp only [k1, cond_true, hnx]
            rw [shl6 (n := n) (by omega)]
            cbv
            rw [zi_succ (by omega)]
            (repeat' (first | exact True.intro | exact Same.refl _ | exact SameB.refl _ | exact ⟨rfl⟩ | exact Same.int rfl | exact Same.str rfl | exact Same.bool rfl | (refine Same.int ?_; simp only [List.length_append, List.length_cons, List.length_nil, zi]; omega) | (refine SameB.row' rfl fun i hi => ?_; first | rfl | exact absurd hi (Nat.not_lt_zero _)) | refine And.intro ?_ ?_ | refine SameB.cells ?_ | exact SameC.nil | refine SameC.cons ?_ ?_ | exact Same.nsl rfl | exact Same.tt rfl | exact Same.ff rfl))
            · refine Same.int ?_
              show abits .and .i64 (abits .or .i64 (zi (n * 64)) (zi k)) 1048575 = zi ((n * 64 + k) % 1048576)
              rw [or6 (by omega) h5, and20 (by omega)]
            · refine Same.int ?_
              show IntKind.i64.wrap (zi b + 6) = zi (b + 6)
              rw [IntKind.wrap_i64]; unfold zi; omega
          · have h6 : sixL.getD k 0 ≠ c := fun q => h6 (by
              show zi (SL.getD (zi k).toNat 0).toNat = zi ((s .o).getD (zi i).toNat 0).toNat
              rw [hz, hzk, ← hc, hSL, q])
            have k1 := hit_same (hit_no h5 h6)
            cbv
            refine ⟨k + 1, h5, by show 64 - (k + 1) < 64 - k; omega, ?_⟩
            simp only [k1]
            cbv
            rw [zi_succ (by omega)]
            (repeat' (first | exact True.intro | exact Same.refl _ | exact SameB.refl _ | exact ⟨rfl⟩ | exact Same.int rfl | exact Same.str rfl | exact Same.bool rfl | (refine Same.int ?_; simp only [List.length_append, List.length_cons, List.length_nil, zi]; omega) | (refine SameB.row' rfl fun i hi => ?_; first | rfl | exact absurd hi (Nat.not_lt_zero _)) | refine And.intro ?_ ?_ | refine SameB.cells ?_ | exact SameC.nil | refine SameC.cons ?_ ?_ | exact Same.nsl rfl | exact Same.tt rfl | exact Same.ff rfl))
        · obtain rfl : k = 64 := by have h5 : ¬ zi k < 64 := h5; unfold zi at h5; omega
          have hN : (bif hit c 64 then nx6 c n else n) = nx6 c n := by
            rw [hit_64]; unfold nx6; split <;> rename_i q <;> rw [q] <;> rfl
          have hBB : (bif hit c 64 then b + 6 else b) = bx6 c b := by
            rw [hit_64]; unfold bx6; split <;> rename_i q <;> rw [q] <;> rfl
          have hnl : nx6 c n < 1048576 := by unfold nx6; split <;> omega
          have hbl : bx6 c b < 14 := by unfold bx6; split <;> omega
          have hg : g6 (n, b, o) c = if 8 ≤ bx6 c b then (nx6 c n, bx6 c b - 8, o ++ [UInt8.ofNat (nx6 c n / 2 ^ (bx6 c b - 8))]) else (nx6 c n, bx6 c b, o) := rfl
          rw [hg] at h3
          simp only [hN, hBB]
          generalize nx6 c n = nn at hnl h3
          generalize bx6 c b = bb at hbl h3
          cbv
          refine br_dec (fun h6 => ?_) (fun h6 => ?_)
          · have h6 : 8 ≤ bb := by have h6 : (8 : Int) ≤ zi bb := h6; unfold zi at h6; omega
            rw [if_pos h6] at h3
            have e1 : IntKind.i64.wrap (zi bb - 8) = zi (bb - 8) := by rw [IntKind.wrap_i64]; unfold zi; omega
            have e2 : IntKind.u8.wrap ((zi nn).fdiv (2 ^ min (zi (bb - 8)).toNat IntKind.i64.bits)) = zi (UInt8.ofNat (nn / 2 ^ (bb - 8))).toNat := by
              rw [zi_toNat, show min (bb - 8) IntKind.i64.bits = bb - 8 from by show min _ 64 = _; omega, fdiv_pow, IntKind.wrap_u8, UInt8.toNat_ofNat']
              have : (zi nn) / 2 ^ (bb - 8) = ((nn / 2 ^ (bb - 8) : Nat) : Int) := by rw [Int.natCast_ediv]; unfold zi; norm_cast
              rw [this]; unfold zi; omega
            cbv
            rw [e1]
            refine safe (zi_nonneg _) ?_
            rw [e2]
            generalize UInt8.ofNat (nn / 2 ^ (bb - 8)) = cc at h3
            refine app_one u8Ch 0 o cc rfl (fun i hi => rfl) rfl rfl (by omega) ?_
            cbv
            refine ⟨(i + 1, nn, bb - 8, o ++ [cc]), ⟨h4, by show (o ++ [cc]).length ≤ i + 1; rw [List.length_append]; simp; omega, hnl, by show bb - 8 < 8; omega, h3⟩, by show (s .o).length - (i + 1) < (s .o).length - i; omega, ?_⟩
            cbv
            rw [zi_succ (by omega)]
            (repeat' (first | exact True.intro | exact Same.refl _ | exact SameB.refl _ | exact ⟨rfl⟩ | exact Same.int rfl | exact Same.str rfl | exact Same.bool rfl | (refine Same.int ?_; simp only [List.length_append, List.length_cons, List.length_nil, zi]; omega) | (refine SameB.row' rfl fun i hi => ?_; first | rfl | exact absurd hi (Nat.not_lt_zero _)) | refine And.intro ?_ ?_ | refine SameB.cells ?_ | exact SameC.nil | refine SameC.cons ?_ ?_ | exact Same.nsl rfl | exact Same.tt rfl | exact Same.ff rfl))
          · have h6 : ¬ 8 ≤ bb := fun q => h6 (by show (8 : Int) ≤ zi bb; unfold zi; omega)
            rw [if_neg h6] at h3
            cbv
            refine ⟨(i + 1, nn, bb, o), ⟨h4, by show o.length ≤ i + 1; omega, hnl, by show bb < 8; omega, h3⟩, by show (s .o).length - (i + 1) < (s .o).length - i; omega, ?_⟩
            cbv
            rw [zi_succ (by omega)]
            (repeat' (first | exact True.intro | exact Same.refl _ | exact SameB.refl _ | exact ⟨rfl⟩ | exact Same.int rfl | exact Same.str rfl | exact Same.bool rfl | (refine Same.int ?_; simp only [List.length_append, List.length_cons, List.length_nil, zi]; omega) | (refine SameB.row' rfl fun i hi => ?_; first | rfl | exact absurd hi (Nat.not_lt_zero _)) | refine And.intro ?_ ?_ | refine SameB.cells ?_ | exact SameC.nil | refine SameC.cons ?_ ?_ | exact Same.nsl rfl | exact Same.tt rfl | exact Same.ff rfl))
    · have h4 : (s .o).length ≤ i := h4
      rw [List.drop_of_length_le h4, List.foldl_nil] at h3
      have h3 : R6 (s .o) = o := by unfold R6; rw [h3]
      have hbe : bytesN o.length (fun q => u8Ch fun _ => o.getD (q .o) 0) = o := bytes_u8 o rfl fun i hi => rfl
      cbv
      refine safe (fun i hi => ⟨_, rfl⟩) ?_
      refine r1sixty_c (fun _ => bytesN o.length (fun q => u8Ch fun _ => o.getD (q .o) 0)) (by rw [hbe]; omega) fun t ht => ?_
      rw [hbe] at ht
      have hS := R6_SG (s .o)
      rw [h3] at hS
      cbv
      refine br_ndec (fun h5 => ?_) (fun h5 => ?_)
      · have h5 : ¬ sixtyS o = s .o := by rw [← ht]; exact h5
        rw [if_neg h5, decide_eq_false h5] at hS
        cbv
        exact ⟨_, .ret (.agg (.cons (.str rfl) (.cons (.ff rfl) .nil))), hr (fun _ => []) (fun _ => false) hS⟩
      · have h5 : sixtyS o = s .o := by rw [← ht]; exact h5
        rw [if_pos h5, decide_eq_true h5] at hS
        cbv
        refine safe (fun i hi => ⟨_, rfl⟩) ?_
        exact ⟨_, .ret (.agg (.cons (.str hbe) (.cons (.tt rfl) .nil))), hr (fun _ => o) (fun _ => true) hS⟩
end Go.Proofs.Ytjjddmbnfkmfdaa
/- Records of names with values: xattr.read. -/
namespace Go.Proofs.Ytjjddmbnfkmfdaa
open Go Go.Proofs.Ytjjddmbnfkmfdaa.Sx F
set_option linter.unusedVariables false
set_option linter.unusedSimpArgs false
def isPre (p s : List UInt8) : Bool := decide (s.take p.length = p)
theorem xpre_c (s p : Th (List UInt8)) {d : Nat} {K : ARes → BL → Prop} (hr : ∀ b : Th Bool, b .o = isPre (p .o) (s .o) → K (.ret (.bool b)) .nil) : CallAt PT internal_stringslite_HasPrefix [.str s, .str p] d .nil K := by
  refine CallAt.res ?_
  refine internal_stringslite_HasPrefix.of rfl rfl ?_
  cbv
  ((try refine br_rev ?_); (first | refine br_dec (fun h1 => ?_) (fun h1 => ?_) | refine br_ndec (fun h1 => ?_) (fun h1 => ?_) | refine br_nbool (fun h1 => ?_) (fun h1 => ?_) | refine br_bool (fun h1 => ?_) (fun h1 => ?_)); all_goals (try dsimp only at h1); all_goals (try with_reducible replace h1 := zi_lt.1 h1); all_goals (try with_reducible replace h1 := not_zlt h1)) <;> cbv
  · have h1' : (p .o).length ≤ (s .o).length := zi_le.1 h1
    refine safe ⟨Int.le_refl _, zi_nonneg _, h1⟩ ?_
    exact ⟨_, .ret (.refl _), hr _ (by
      unfold isPre
      show decide (List.drop (0 : Int).toNat (List.take (zi (p .o).length).toNat (s .o)) = p .o) = _
      rw [zi_toNat]
      rfl)⟩
  · have h1' : ¬ (p .o).length ≤ (s .o).length := fun q => h1 (zi_le.2 q)
    exact ⟨_, .ret (.ff rfl), hr (fun _ => false) (by
      unfold isPre
      refine (decide_eq_false fun q => h1' ?_).symm
      have := congrArg List.length q
      rw [List.length_take] at this
      omega)⟩
theorem xcut1_c (s p : Th (List UInt8)) {d : Nat} {K : ARes → BL → Prop} (h1 : isPre (p .o) (s .o) = true → ∀ t : Th (List UInt8), t .o = (s .o).drop (p .o).length → K (.ret (.tup (.cons (.str t) (.cons .tt .nil)))) .nil)
    (h2 : isPre (p .o) (s .o) = false → K (.ret (.tup (.cons (.str s) (.cons .ff .nil)))) .nil) : CallAt PT internal_stringslite_CutPrefix [.str s, .str p] d .nil K := by
  refine CallAt.res ?_
  refine internal_stringslite_CutPrefix.of rfl rfl ?_
  cbv
  refine xpre_c s p fun b hb => ?_
  cbv
  refine br_nbool (fun h => ?_) (fun h => ?_)
  · cbv
    exact ⟨_, .ret (.refl _), h2 (by rw [← hb]; exact h)⟩
  · have hp : isPre (p .o) (s .o) = true := by rw [← hb]; exact h
    have hl : (p .o).length ≤ (s .o).length := by
      have := congrArg List.length (of_decide_eq_true hp)
      rw [List.length_take] at this
      omega
    cbv
    refine safe ⟨zi_nonneg _, zi_le.2 hl, Int.le_refl _⟩ ?_
    refine ⟨_, .ret (.refl _), h1 hp _ ?_⟩
    show List.drop (zi (p .o).length).toNat (List.take (zi (s .o).length).toNat (s .o)) = _
    rw [zi_toNat, zi_toNat, List.take_length]
theorem xcut_c (s p : Th (List UInt8)) {d : Nat} {K : ARes → BL → Prop} (h1 : isPre (p .o) (s .o) = true → ∀ t : Th (List UInt8), t .o = (s .o).drop (p .o).length → K (.ret (.tup (.cons (.str t) (.cons .tt .nil)))) .nil)
    (h2 : isPre (p .o) (s .o) = false → K (.ret (.tup (.cons (.str s) (.cons .ff .nil)))) .nil) : CallAt PT strings_CutPrefix [.str s, .str p] d .nil K := by
  refine strings_CutPrefix.of rfl rfl ?_
  cbv
  refine xcut1_c s p (fun h t ht => ?_) (fun h => ?_)
  · cbv
    exact h1 h t ht
  · cbv
    exact h2 h
def schS : List UInt8 := [83, 67, 72, 73, 76, 89, 46, 120, 97, 116, 116, 114, 46]
def libS : List UInt8 := [76, 73, 66, 65, 82, 67, 72, 73, 86, 69, 46, 120, 97, 116, 116, 114, 46]
def unE (s : List UInt8) : Option (List UInt8) := match decE s with | some t => if escS t = s then some t else none | none => none
def unX (s : List UInt8) : Option (List UInt8) := if sixtyS (R6 s) = s then some (R6 s) else none
theorem EG.fn {s t : List UInt8} {b : Bool} (h : EG s t b) : (b = true ∧ unE s = some t) ∨ (b = false ∧ t = [] ∧ unE s = none) := by
  rcases h with ⟨rfl, rfl⟩ | ⟨rfl, rfl, h⟩
  · exact .inl ⟨rfl, by unfold unE; rw [dec_esc]; simp⟩
  · refine .inr ⟨rfl, rfl, ?_⟩
    unfold unE
    split
    · rw [if_neg (h _)]
    · rfl
theorem SG.fn {s t : List UInt8} {b : Bool} (h : SG s t b) : (b = true ∧ unX s = some t) ∨ (b = false ∧ t = [] ∧ unX s = none) := by
  rcases h with ⟨rfl, rfl⟩ | ⟨rfl, rfl, h⟩
  · exact .inl ⟨rfl, by unfold unX; rw [R6_six]; simp⟩
  · exact .inr ⟨rfl, rfl, by unfold unX; rw [if_neg (h _)]⟩
theorem unE_esc (t : List UInt8) : unE (escS t) = some t := by unfold unE; rw [dec_esc]; simp
theorem unX_six (t : List UInt8) : unX (sixtyS t) = some t := by unfold unX; rw [R6_six]; simp
/-- What a record says: none: nothing that may be; some none: it is of something else. -/
def readX (k v : List UInt8) : Option (Option Xattr) :=
  if isPre schS k then some (some ⟨k.drop 13, v⟩) else if isPre libS k then (match unE (k.drop 17), unX v with
    | some n, some u => some (some ⟨n, u⟩)
    | _, _ => none) else some none
def noValV (k : Th (List UInt8)) : AV := .ifc 48 (.agg (.cons (.str k) .nil))
theorem xread_c (k v : Th (List UInt8)) (hk : (k .o).length ≤ 1000000) (hv : (v .o).length ≤ 1000000) {d : Nat} {K : ARes → BL → Prop}
    (h1 : ∀ n u : Th (List UInt8), readX (k .o) (v .o) = some (some ⟨n .o, u .o⟩) → K (.ret (.tup (.cons (.agg (.cons (.str n) (.cons (.str u) .nil))) (.cons .tt .nil)))) .nil)
    (h2 : readX (k .o) (v .o) = some none → K (.ret (.tup (.cons (.agg (.cons (.str fun _ => []) (.cons (.str fun _ => []) .nil))) (.cons .ff .nil)))) .nil)
    (h3 : readX (k .o) (v .o) = none → K (.pan (noValV k)) .nil) : CallAt PT xattr_read [.agg (.cons (.str k) (.cons (.str v) .nil))] d .nil K := by
  refine CallAt.res ?_
  refine xattr_read.of rfl rfl ?_
  cbv
  refine xcut_c k (fun _ => schS) (fun hp t ht => ?_) (fun hp => ?_)
  · have hR : readX (k .o) (v .o) = some (some ⟨(k .o).drop 13, v .o⟩) := by unfold readX; rw [if_pos hp]
    cbv
    exact ⟨_, .ret (.refl _), h1 t v (by rw [hR, ht]; rfl)⟩
  · have hR1 : readX (k .o) (v .o) = if isPre libS (k .o) then (match unE ((k .o).drop 17), unX (v .o) with
      | some n, some u => some (some ⟨n, u⟩)
      | _, _ => none) else some none := by unfold readX; rw [if_neg (by rw [show isPre schS (k .o) = false from hp]; simp)]
    cbv
    refine xcut_c k (fun _ => libS) (fun hq t ht => ?_) (fun hq => ?_)
    · rw [if_pos hq] at hR1
      have ht : t .o = (k .o).drop 17 := ht
      rw [← ht] at hR1
      cbv
      refine esget_c t (by rw [ht, List.length_drop]; omega) fun n bn hn => ?_
      cbv
      refine sixGet_c v hv fun u bu hu => ?_
      have hn := hn.fn
      have hu := hu.fn
      have hfin : (¬ (bn .o = true ∧ bu .o = true)) → readX (k .o) (v .o) = none := fun q => by
        rw [hR1]
        rcases hn with ⟨q1, e1⟩ | ⟨q1, _, e1⟩
        · rcases hu with ⟨q2, e2⟩ | ⟨q2, _, e2⟩
          · exact absurd ⟨q1, q2⟩ q
          · rw [e1, e2]
        · rw [e1]
      have hgood : bn .o = true → bu .o = true → readX (k .o) (v .o) = some (some ⟨n .o, u .o⟩) := fun q1 q2 => by
        rw [hR1]
        rcases hn with ⟨_, e1⟩ | ⟨q, _⟩
        · rcases hu with ⟨_, e2⟩ | ⟨q, _⟩
          · rw [e1, e2]
          · rw [q2] at q; cases q
        · rw [q1] at q; cases q
      cbv
      refine ⟨fun h => ?_, fun h => ?_⟩
      · have hbn : bn .o = true := by have h : (!bn .o) = false := h; simpa using h
        cbv
        refine br_nbool (fun h4 => ?_) (fun h4 => ?_)
        · have h4 : bu .o = false := h4
          cbv
          exact ⟨_, .pan (Same.refl _), h3 (hfin fun q => by rw [h4] at q; cases q.2)⟩
        · have h4 : bu .o = true := h4
          cbv
          exact ⟨_, .ret (.refl _), h1 n u (hgood hbn h4)⟩
      · have hbn : bn .o = false := by have h : (!bn .o) = true := h; simpa using h
        cbv
        exact ⟨_, .pan (Same.refl _), h3 (hfin fun q => by rw [hbn] at q; cases q.1)⟩
    · cbv
      exact ⟨_, .ret (.refl _), h2 (by rw [hR1, if_neg (by rw [show isPre libS (k .o) = false from hq]; simp)])⟩
end Go.Proofs.Ytjjddmbnfkmfdaa
/- Names with values told again by their records, in plain Lean. -/
namespace Go.Proofs.Ytjjddmbnfkmfdaa
open Go Go.Proofs.Ytjjddmbnfkmfdaa.Sx
set_option linter.unusedVariables false
set_option linter.unusedSimpArgs false
theorem ltX_ne {x y : Xattr} (h : ltX x y) : x.name ≠ y.name := fun e => by
  unfold ltX at h
  rw [e, lt_irr] at h
  cases h
theorem ltX_not {x y : Xattr} (h : ltX x y) : strLt y.name x.name = false := by
  cases q : strLt y.name x.name with
  | false => rfl
  | true => have := lt_trans' h q; rw [lt_irr] at this; cases this
theorem addX_front {y : Xattr} : ∀ {l : List Xattr}, (∀ x ∈ l, ltX y x) → addX y l = y :: l
  | [], _ => rfl
  | x :: r, h => by
    have h1 := h x (by simp)
    unfold addX
    rw [if_neg (by rw [ltX_not h1]; decide), if_neg (fun e => ltX_ne h1 e.symm)]
theorem addX_filter {y : Xattr} : ∀ {l : List Xattr} (p : Xattr → Bool), l.Pairwise ltX → y ∈ l → addX y (l.filter p) = l.filter fun z => p z || decide (z.name = y.name)
  | [], _, _, h => by cases h
  | z :: r, p, hp, hy => by
    obtain ⟨h1, h2⟩ := List.pairwise_cons.1 hp
    rcases List.mem_cons.1 hy with rfl | hy
    · have e : (r.filter fun x => p x || decide (x.name = y.name)) = r.filter p := by
        refine List.filter_congr fun x hx => ?_
        rw [decide_eq_false (fun q => ltX_ne (h1 x hx) q.symm), Bool.or_false]
      rw [List.filter_cons_of_pos (p := fun x => p x || decide (x.name = y.name)) (by simp), e]
      by_cases q : p y = true
      · rw [List.filter_cons_of_pos q]
        unfold addX
        rw [if_neg (by rw [lt_irr]; decide), if_pos rfl]
      · rw [List.filter_cons_of_neg q]
        exact addX_front fun x hx => h1 x (List.mem_filter.1 hx).1
    · have hzy := h1 y hy
      have ih := addX_filter (y := y) p h2 hy
      by_cases q : p z = true
      · rw [List.filter_cons_of_pos q, List.filter_cons_of_pos (by simp [q])]
        unfold addX
        rw [if_pos (show strLt z.name y.name = true from hzy), ih]
      · rw [List.filter_cons_of_neg q, List.filter_cons_of_neg (by simp [q, ltX_ne hzy]), ih]
theorem fold_filter {l : List Xattr} (hl : l.Pairwise ltX) : ∀ (ys : List Xattr) (p : Xattr → Bool), (∀ y ∈ ys, y ∈ l) → ys.foldl (fun a y => addX y a) (l.filter p) = l.filter fun z => p z || ys.any fun y => decide (z.name = y.name)
  | [], p, _ => by simp
  | y :: r, p, h => by
    rw [List.foldl_cons, addX_filter p hl (h y (by simp)), fold_filter hl r _ fun x hx => h x (List.mem_cons_of_mem _ hx)]
    refine List.filter_congr fun z hz => ?_
    rw [List.any_cons, Bool.or_assoc]
/-- Told in any order, each once at least: the list again. -/
theorem fold_all {l : List Xattr} (hl : l.Pairwise ltX) (ys : List Xattr) (h : ∀ y ∈ ys, y ∈ l) (g : ∀ x ∈ l, x ∈ ys) : ys.foldl (fun a y => addX y a) [] = l := by
  have := fold_filter hl ys (fun _ => false) h
  rw [show l.filter (fun _ => false) = [] by simp] at this
  rw [this]
  refine List.filter_eq_self.2 fun x hx => ?_
  rw [Bool.false_or, List.any_eq_true]
  exact ⟨x, g x hx, by simp⟩
end Go.Proofs.Ytjjddmbnfkmfdaa
/- Where a name stands among names that rise: the search by halves. -/
namespace Go.Proofs.Ytjjddmbnfkmfdaa
open Go Go.Proofs.Ytjjddmbnfkmfdaa.Sx F
set_option linter.unusedVariables false
set_option linter.unusedSimpArgs false
def cmpX (a b : List UInt8) : Int := if strLt a b then -1 else if a = b then 0 else 1
theorem nan_c (a : Th (List UInt8)) {d : Nat} {K : ARes → BL → Prop} (hr : ∀ b : Th Bool, b .o = false → K (.ret (.bool b)) .nil) : CallAt PT cmp_isNaN_string [.str a] d .nil K := by
  refine cmp_isNaN_string.of rfl rfl ?_
  cbv
  exact hr _ (by simp)
theorem compare_c (a b : Th (List UInt8)) {d : Nat} {K : ARes → BL → Prop} (hr : ∀ n : Th Int, n .o = cmpX (a .o) (b .o) → K (.ret (.int .i64 n)) .nil) : CallAt PT cmp_Compare_string [.str a, .str b] d .nil K := by
  refine CallAt.res ?_
  refine cmp_Compare_string.of rfl rfl ?_
  cbv
  refine nan_c a fun n1 e1 => ?_
  cbv
  refine nan_c b fun n2 e2 => ?_
  cbv
  refine br_bool (fun h => by have h : n1 .o = true := h; rw [e1] at h; cases h) (fun _ => ?_)
  cbv
  refine br_bool (fun h => by have h : n2 .o = true := h; rw [e2] at h; cases h) (fun _ => ?_)
  cbv
  refine br_bool (fun h => ?_) (fun h => ?_)
  · have h : strLt (a .o) (b .o) = true := h
    cbv
    exact ⟨_, .ret (.refl _), hr _ (by unfold cmpX; rw [if_pos h])⟩
  · have h : strLt (a .o) (b .o) = false := h
    cbv
    refine ⟨fun h2 => ?_, fun h2 => ?_⟩
    · have h2 : (!(strLt (a .o) (b .o) || decide (a .o = b .o))) = true := h2
      rw [h, Bool.false_or] at h2
      have h2 : ¬ a .o = b .o := by simpa using h2
      cbv
      exact ⟨_, .ret (.refl _), hr _ (by unfold cmpX; rw [if_neg (by rw [h]; decide), if_neg h2])⟩
    · have h2 : (!(strLt (a .o) (b .o) || decide (a .o = b .o))) = false := h2
      rw [h, Bool.false_or] at h2
      have h2 : a .o = b .o := by simpa using h2
      cbv
      exact ⟨_, .ret (.refl _), hr _ (by unfold cmpX; rw [if_neg (by rw [h]; decide), if_pos h2])⟩
theorem cmpf_c (x : Th Xattr) (b : Th (List UInt8)) {d : Nat} {K : ARes → BL → Prop} (hr : ∀ n : Th Int, n .o = cmpX (x .o).name (b .o) → K (.ret (.int .i64 n)) .nil) : CallAt PT xattr_From_2 [Xattr.av x, .str b] d .nil K := by
  refine xattr_From_2.of rfl rfl ?_
  cbv
  refine compare_c (fun _ => (x .o).name) b fun n hn => ?_
  cbv
  exact hr n hn
/-- The place of a name. -/
structure At (l : List Xattr) (s : List UInt8) (k : Nat) : Prop where
  le : k ≤ l.length
  lo : ∀ j, j < k → strLt (l.getD j Xattr.z).name s = true
  hi : ∀ j, k ≤ j → j < l.length → ¬ strLt (l.getD j Xattr.z).name s = true
theorem up_at {l : List Xattr} (h : l.Pairwise ltX) {i j : Nat} (hij : i < j) (hj : j < l.length) : strLt (l.getD i Xattr.z).name (l.getD j Xattr.z).name = true := by
  have := List.pairwise_iff_getElem.1 h i j (by omega) hj hij
  rw [List.getD_eq_getElem?_getD, List.getD_eq_getElem?_getD, List.getElem?_eq_getElem (by omega), List.getElem?_eq_getElem hj]
  exact this
theorem lt_down {l : List Xattr} (h : l.Pairwise ltX) {s : List UInt8} {k : Nat} (hk : k < l.length) (hs : strLt (l.getD k Xattr.z).name s = true) : ∀ j, j ≤ k → strLt (l.getD j Xattr.z).name s = true := fun j hj => by
  rcases Nat.lt_or_ge j k with q | q
  · exact lt_trans' (up_at h q hk) hs
  · obtain rfl : j = k := by omega
    exact hs
def cmpFn : AV := .fn (.func xattr_From_2) .nil .nil
theorem half_eq {a b : Nat} (h : a + b < 4611686018427387904) : IntKind.i64.wrap ((IntKind.u64.wrap (IntKind.i64.wrap (zi a + zi b))).fdiv (2 ^ min (Int.toNat 1) IntKind.u64.bits)) = zi ((a + b) / 2) := by
  have e1 : IntKind.i64.wrap (zi a + zi b) = zi (a + b) := by rw [IntKind.wrap_i64]; unfold zi; omega
  have e2 : IntKind.u64.wrap (zi (a + b)) = zi (a + b) := by rw [IntKind.wrap_u64]; unfold zi; omega
  rw [e1, e2, show min (Int.toNat 1) IntKind.u64.bits = 1 from rfl, fdiv_pow, IntKind.wrap_i64]
  unfold zi; omega
theorem search_c (l : Th (List Xattr)) (s : Th (List UInt8)) (hl : (l .o).length ≤ 1000000) (hup : (l .o).Pairwise ltX) {d : Nat} {K : ARes → BL → Prop}
    (hr : ∀ k : Nat, At (l .o) (s .o) k → ∀ b : Th Bool, (b .o = true ↔ k < (l .o).length ∧ ((l .o).getD k Xattr.z).name = s .o) → K (.ret (.tup (.cons (.int .i64 fun _ => zi k) (.cons (.bool b) .nil)))) .nil) : CallAt PT slices_BinarySearchFunc_api_Xattr_api_Xattr_string [xattrs l, .str s, cmpFn] d .nil K := by
  refine CallAt.res ?_
  refine slices_BinarySearchFunc_api_Xattr_api_Xattr_string.of rfl rfl ?_
  cbv
  refine loop_at (X := Nat × Nat) 1000 [0, 1, 2, 8] [] (fun _ x => .cons 9 (.int .i64 fun _ => zi x.1) (.cons 10 (.int .i64 fun _ => zi x.2) .nil)) (fun _ _ => .nil)
    (fun x => x.1 ≤ x.2 ∧ x.2 ≤ (l .o).length ∧ (∀ j, j < x.1 → strLt ((l .o).getD j Xattr.z).name (s .o) = true) ∧ ∀ j, x.2 ≤ j → j < (l .o).length → ¬ strLt ((l .o).getD j Xattr.z).name (s .o) = true) (fun x => x.2 - x.1) (0, (l .o).length) ?_ ⟨Nat.zero_le _, Nat.le_refl _, fun j hj => absurd hj (Nat.not_lt_zero _), fun j h1 h2 => by have h1 : (l .o).length ≤ j := h1; omega⟩ ?_
  · cbv
    (repeat' (first | exact True.intro | exact Same.refl _ | exact SameB.refl _ | exact ⟨rfl⟩ | exact Same.int rfl | exact Same.str rfl | exact Same.bool rfl | (refine Same.int ?_; simp only [List.length_append, List.length_cons, List.length_nil, zi]; omega) | (refine SameB.row' rfl fun i hi => ?_; first | rfl | exact absurd hi (Nat.not_lt_zero _)) | refine And.intro ?_ ?_ | refine SameB.cells ?_ | exact SameC.nil | refine SameC.cons ?_ ?_ | exact Same.nsl rfl | exact Same.tt rfl | exact Same.ff rfl))
  · rintro ⟨i, j⟩ ⟨h1, h2, h3, h4⟩
    dsimp only at h1 h2 h3 h4
    cbv
    refine br_zlt (fun h5 => ?_) (fun h5 => ?_)
    · have h5 : i < j := h5
      cbv
      refine safe (by decide) ?_
      rw [half_eq (by omega)]
      have hm : (i + j) / 2 < (l .o).length := by omega
      have hm1 : i ≤ (i + j) / 2 := by omega
      have hm2 : (i + j) / 2 < j := by omega
      generalize (i + j) / 2 = m at hm hm1 hm2
      refine safe ⟨zi_nonneg _, zi_lt.2 hm⟩ ?_
      refine cmpf_c (fun _ => (l .o).getD (zi m).toNat Xattr.z) s fun n hn => ?_
      have hn : n .o = cmpX ((l .o).getD m Xattr.z).name (s .o) := by rw [hn, zi_toNat]
      cbv
      refine br_dec (fun h6 => ?_) (fun h6 => ?_)
      · have h6 : strLt ((l .o).getD m Xattr.z).name (s .o) = true := by
          have h6 : n .o < 0 := h6
          rw [hn] at h6
          unfold cmpX at h6
          split at h6
          · assumption
          · split at h6 <;> exact absurd h6 (by decide)
        cbv
        refine ⟨(m + 1, j), ⟨by show m + 1 ≤ j; omega, h2, fun q hq => lt_down hup hm h6 q (by have hq : q < m + 1 := hq; omega), h4⟩, by show j - (m + 1) < j - i; omega, ?_⟩
        cbv
        rw [zi_succ (by omega)]
        (repeat' (first | exact True.intro | exact Same.refl _ | exact SameB.refl _ | exact ⟨rfl⟩ | exact Same.int rfl | exact Same.str rfl | exact Same.bool rfl | (refine Same.int ?_; simp only [List.length_append, List.length_cons, List.length_nil, zi]; omega) | (refine SameB.row' rfl fun i hi => ?_; first | rfl | exact absurd hi (Nat.not_lt_zero _)) | refine And.intro ?_ ?_ | refine SameB.cells ?_ | exact SameC.nil | refine SameC.cons ?_ ?_ | exact Same.nsl rfl | exact Same.tt rfl | exact Same.ff rfl))
      · have h6 : ¬ strLt ((l .o).getD m Xattr.z).name (s .o) = true := fun q => h6 (by
          show n .o < 0
          rw [hn]; unfold cmpX; rw [if_pos q]; decide)
        cbv
        refine ⟨(i, m), ⟨hm1, by show m ≤ _; omega, h3, fun q hq hql q2 => h6 (lt_down hup hql q2 m hq)⟩, by show m - i < j - i; omega, ?_⟩
        cbv
        (repeat' (first | exact True.intro | exact Same.refl _ | exact SameB.refl _ | exact ⟨rfl⟩ | exact Same.int rfl | exact Same.str rfl | exact Same.bool rfl | (refine Same.int ?_; simp only [List.length_append, List.length_cons, List.length_nil, zi]; omega) | (refine SameB.row' rfl fun i hi => ?_; first | rfl | exact absurd hi (Nat.not_lt_zero _)) | refine And.intro ?_ ?_ | refine SameB.cells ?_ | exact SameC.nil | refine SameC.cons ?_ ?_ | exact Same.nsl rfl | exact Same.tt rfl | exact Same.ff rfl))
    · have h5 : j ≤ i := h5
      obtain rfl : i = j := by omega
      have hat : At (l .o) (s .o) i := ⟨h2, h3, h4⟩
      cbv
      refine br_zlt (fun h6 => ?_) (fun h6 => ?_)
      · have h6 : i < (l .o).length := h6
        cbv
        refine safe ⟨zi_nonneg _, zi_lt.2 h6⟩ ?_
        refine cmpf_c (fun _ => (l .o).getD (zi i).toNat Xattr.z) s fun n hn => ?_
        have hn : n .o = cmpX ((l .o).getD i Xattr.z).name (s .o) := by rw [hn, zi_toNat]
        cbv
        refine ⟨_, .ret (.refl _), hr i hat _ ?_⟩
        show decide (n .o = 0) = true ↔ _
        rw [decide_eq_true_eq, hn]
        unfold cmpX
        rw [if_neg (h4 i (Nat.le_refl _) h6)]
        split
        · rename_i q; exact ⟨fun _ => ⟨h6, q⟩, fun _ => rfl⟩
        · rename_i q; exact ⟨fun w => absurd w (by decide), fun w => (q w.2).elim⟩
      · have h6 : (l .o).length ≤ i := h6
        cbv
        exact ⟨_, .ret (.tup (.cons (.refl _) (.cons (.ff rfl) .nil))), hr i hat (fun _ => false) ⟨fun w => (by cases w), fun w => by omega⟩⟩
end Go.Proofs.Ytjjddmbnfkmfdaa
/- Names with values out of records: xattr.From, given what slices.Insert does. -/
namespace Go.Proofs.Ytjjddmbnfkmfdaa
open Go Go.Proofs.Ytjjddmbnfkmfdaa.Sx F
set_option linter.unusedVariables false
set_option linter.unusedSimpArgs false
def stepX (a : Option (List Xattr)) (r : Xattr) : Option (List Xattr) := match a with
  | none => none
  | some a => match readX r.name r.value with
    | none => none
    | some none => some a
    | some (some x) => some (addX x a)
def foldX (rs : List Xattr) : Option (List Xattr) := rs.foldl stepX (some [])
theorem stepX_none (rs : List Xattr) : rs.foldl stepX none = none := by
  induction rs with
  | nil => rfl
  | cons r q ih => exact ih
theorem escS_le : ∀ t : List UInt8, t.length ≤ (escS t).length
  | [] => Nat.le_refl _
  | c :: r => by
    have ih := escS_le r
    have : 1 ≤ (escB c).length := by unfold escB; split <;> simp
    simp only [escS, List.flatMap_cons, List.length_append, List.length_cons] at ih ⊢
    omega
theorem sixty_le : ∀ t : List UInt8, t.length ≤ (sixtyS t).length
  | [] => Nat.le_refl _
  | [a] => by show 1 ≤ 4; omega
  | [a, b] => by show 2 ≤ 4; omega
  | a :: b :: c :: r => by
    have := sixty_le r
    simp only [sixtyS, List.length_append, six4_len, List.length_cons]
    omega
theorem unE_le {s t : List UInt8} (h : unE s = some t) : t.length ≤ s.length := by
  unfold unE at h
  split at h
  · split at h
    · rename_i q; cases h; rw [← q]; exact escS_le _
    · cases h
  · cases h
theorem unX_le {s t : List UInt8} (h : unX s = some t) : t.length ≤ s.length := by
  unfold unX at h
  split at h
  · rename_i q; cases h; have := sixty_le (R6 s); rw [q] at this; exact this
  · cases h
structure SmallX (N : Nat) (x : Xattr) : Prop where
  name : x.name.length ≤ N
  value : x.value.length ≤ N
theorem readX_small {N : Nat} {k v : List UInt8} (hk : k.length ≤ N) (hv : v.length ≤ N) {x : Xattr} (h : readX k v = some (some x)) : SmallX N x := by
  unfold readX at h
  split at h
  · cases h; exact ⟨by show (k.drop 13).length ≤ N; rw [List.length_drop]; omega, hv⟩
  · split at h
    · split at h
      · rename_i n u e1 e2
        cases h
        have h1 := unE_le e1
        have h2 := unX_le e2
        rw [List.length_drop] at h1
        exact ⟨by show n.length ≤ N; omega, by show u.length ≤ N; omega⟩
      · cases h
    · cases h
def insF : Nat := 26
/-- What slices.Insert does, at such lists and places as Ok lets in. -/
def InsC (Ok : List Xattr → Nat → Prop) : Prop := ∀ (l : List Xattr) (i : Nat) (x : Xattr) {m nn : Th Nat} {g gy : Th Nat → AV} {iv : Th Int} {K : Th Nat → (Th Nat → AV) → Prop}, Ok l i → i ≤ l.length → l.length ≤ 1000 → m .o = l.length → (∀ j, j < l.length → g (fun _ => j) = Xattr.ch fun _ => l.getD j Xattr.z) → iv .o = zi i → nn .o = 1 → gy (fun _ => 0) = Xattr.ch (fun _ => x) →
  K (fun _ => (l.take i ++ x :: l.drop i).length) (fun j => Xattr.ch fun _ => (l.take i ++ x :: l.drop i).getD (j .o) Xattr.z) → GrowAt PT insF 2 m g [.int .i64 iv, .sl 2 nn gy] K
theorem xendP_c (k : Th (List UInt8)) (e : Th Int) (n : Th Nat) (g : Th Nat → AV) {K : BL → Prop} (h : K (.cons 10000 (.cells (.cons .nsl .nil)) (.cons 10001 (.cells (.cons (.int .i64 fun _ => 4) .nil)) (.cons 10002 (.row 2 n g) .nil)))) : DefAt PT xattr_From_1 true [noValV k, .ptr 10000 0, .ptr 10001 0] (.cons 10000 (.cells (.cons (.row 10002) .nil)) (.cons 10001 (.cells (.cons (.int .i64 e) .nil)) (.cons 10002 (.row 2 n g) .nil))) K := by
  refine xattr_From_1.of rfl rfl (fun h => by cases h) ?_
  cbv
  exact h
theorem xendR_c (e : Th Int) (n : Th Nat) (g : Th Nat → AV) {K : BL → Prop} (h : K (.cons 10000 (.cells (.cons (.row 10002) .nil)) (.cons 10001 (.cells (.cons (.int .i64 e) .nil)) (.cons 10002 (.row 2 n g) .nil)))) : DefAt PT xattr_From_1 false [.nif, .ptr 10000 0, .ptr 10001 0] (.cons 10000 (.cells (.cons (.row 10002) .nil)) (.cons 10001 (.cells (.cons (.int .i64 e) .nil)) (.cons 10002 (.row 2 n g) .nil))) K := by
  refine xattr_From_1.of rfl rfl (fun _ => rfl) ?_
  cbv
  exact h
theorem xendN_c (e : Th Int) {K : BL → Prop} (h : K (.cons 10000 (.cells (.cons .nsl .nil)) (.cons 10001 (.cells (.cons (.int .i64 e) .nil)) .nil))) : DefAt PT xattr_From_1 false [.nif, .ptr 10000 0, .ptr 10001 0] (.cons 10000 (.cells (.cons .nsl .nil)) (.cons 10001 (.cells (.cons (.int .i64 e) .nil)) .nil)) K := by
  refine xattr_From_1.of rfl rfl (fun _ => rfl) ?_
  cbv
  exact h
theorem xfrom_c {Ok : List Xattr → Nat → Prop} (hI : InsC Ok) (rs : Th (List Xattr)) (hrs : (rs .o).length ≤ 1000) (hsm : ∀ r ∈ rs .o, SmallX 1000000 r) (hOk : ∀ k acc x i, k < (rs .o).length → foldX ((rs .o).take k) = some acc → readX ((rs .o).getD k Xattr.z).name ((rs .o).getD k Xattr.z).value = some (some x) → At acc x.name i → Ok acc i) {d : Nat} {K : ARes → BL → Prop}
    (h1 : ∀ l : Th (List Xattr), foldX (rs .o) = some (l .o) → XsOk (l .o) → K (.ret (.tup (.cons (xattrs l) (.cons (.int .i64 fun _ => 0) .nil)))) .nil)
    (h2 : (∀ l, foldX (rs .o) = some l → ¬ XsOk l) → K (.ret (.tup (.cons .nsl (.cons (.int .i64 fun _ => 4) .nil)))) .nil) : CallAt PT xattr_From [xattrs rs] d .nil K := by
  refine CallAt.res ?_
  refine xattr_From.of rfl rfl ?_
  cbv
  refine nil_cell 2 0 9000 2 (fun i => Xattr.ch fun _ => ([] : List Xattr).getD (i .o) Xattr.z) rfl rfl rfl ?_
  refine loop_at (X := Nat × List Xattr) 1000 [0, 2, 3, 10, 11, 12] [2, 3] (fun _ x => .cons 13 (.int .i64 fun _ => zi x.1) .nil) (fun _ x => .cons 9000 (rowB 2 Xattr.ch Xattr.z fun _ => x.2) .nil)
    (fun x => x.1 ≤ (rs .o).length ∧ foldX ((rs .o).take x.1) = some x.2 ∧ x.2.Pairwise ltX ∧ x.2.length ≤ x.1 ∧ ∀ y ∈ x.2, SmallX 1000000 y) (fun x => (rs .o).length - x.1) (0, []) ?_ ⟨Nat.zero_le _, rfl, List.Pairwise.nil, Nat.le_refl _, fun y hy => by cases hy⟩ ?_
  · cbv
    (repeat' (first | exact True.intro | exact Same.refl _ | exact SameB.refl _ | exact ⟨rfl⟩ | exact Same.int rfl | exact Same.str rfl | exact Same.bool rfl | (refine Same.int ?_; simp only [List.length_append, List.length_cons, List.length_nil, zi]; omega) | (refine SameB.row' rfl fun i hi => ?_; first | rfl | exact absurd hi (Nat.not_lt_zero _)) | refine And.intro ?_ ?_ | refine SameB.cells ?_ | exact SameC.nil | refine SameC.cons ?_ ?_ | exact Same.nsl rfl | exact Same.tt rfl | exact Same.ff rfl))
  · rintro ⟨k, acc⟩ ⟨hk, hf, hup, hlen, hacc⟩
    dsimp only at hk hf hup hlen hacc
    have hz := zi_toNat k
    cbv
    refine br_zlt (fun h4 => ?_) (fun h4 => ?_)
    · have h4 : k < (rs .o).length := h4
      have hmem : (rs .o).getD k Xattr.z ∈ rs .o := by
        rw [List.getD_eq_getElem?_getD, List.getElem?_eq_getElem h4]; exact List.getElem_mem h4
      have hr := hsm _ hmem
      have hf1 : foldX ((rs .o).take (k + 1)) = stepX (some acc) ((rs .o).getD k Xattr.z) := by
        rw [List.take_succ_eq_append_getElem h4]
        unfold foldX at hf ⊢
        rw [List.foldl_append, hf]
        rw [List.getD_eq_getElem?_getD, List.getElem?_eq_getElem h4]
        rfl
      have hOk := hOk k acc
      generalize hrr : (rs .o).getD k Xattr.z = r at hr hf1 hOk
      have hst : stepX (some acc) r = match readX r.name r.value with | none => none | some none => some acc | some (some x) => some (addX x acc) := rfl
      cbv
      refine safe ⟨zi_nonneg _, zi_lt.2 h4⟩ ?_
      refine xread_c (fun _ => ((rs .o).getD (zi k).toNat Xattr.z).name) (fun _ => ((rs .o).getD (zi k).toNat Xattr.z).value) (by rw [hz, hrr]; exact hr.name) (by rw [hz, hrr]; exact hr.value) (fun n u hx => ?_) (fun hx => ?_) (fun hx => ?_)
      · rw [hz, hrr] at hx
        rw [hx] at hst
        cbv
        refine search_c (fun _ => acc) n (by omega) hup fun i hi b hb => ?_
        have hxs := readX_small hr.name hr.value hx
        have hadd := addX_at ⟨n .o, u .o⟩ acc i hi.le hi.lo (fun q => hi.hi i (Nat.le_refl _) q)
        have hnew : ∀ y ∈ addX ⟨n .o, u .o⟩ acc, SmallX 1000000 y := fun y hy => (addX_mem hy).elim (fun e => e ▸ hxs) (hacc y)
        have hnl := addX_len ⟨n .o, u .o⟩ acc
        have hnu := addX_up ⟨n .o, u .o⟩ acc hup
        have hil := hi.le
        cbv
        refine br_bool (fun h5 => ?_) (fun h5 => ?_)
        · have h5 : i < acc.length ∧ (acc.getD i Xattr.z).name = n .o := hb.1 h5
          rw [if_pos h5] at hadd
          have hset : addX ⟨n .o, u .o⟩ acc = acc.set i ⟨n .o, u .o⟩ := by rw [hadd, List.set_eq_take_append_cons_drop, if_pos h5.1]
          cbv
          refine safe ⟨zi_nonneg _, zi_lt.2 h5.1⟩ ?_
          refine put_rows Xattr.ch Xattr.z acc ⟨n .o, u .o⟩ rfl (fun j hj => rfl) (by show (zi i).toNat < _; rw [zi_toNat]; exact h5.1) rfl ?_
          rw [zi_toNat, ← hset]
          have hll : acc.length = (addX ⟨n .o, u .o⟩ acc).length := by rw [hset, List.length_set]
          cbv
          refine ⟨(k + 1, addX ⟨n .o, u .o⟩ acc), ⟨h4, hf1.trans hst, hnu, by show (addX _ acc).length ≤ k + 1; omega, hnew⟩, by show (rs .o).length - (k + 1) < (rs .o).length - k; omega, ?_⟩
          cbv
          rw [zi_succ (by omega)]
          (repeat' (first | exact True.intro | exact Same.refl _ | exact SameB.refl _ | exact ⟨rfl⟩ | exact Same.int rfl | exact Same.str rfl | exact Same.bool rfl | (refine Same.int ?_; simp only [List.length_append, List.length_cons, List.length_nil, zi]; omega) | (refine SameB.row' rfl fun i hi => ?_; first | rfl | exact absurd hi (Nat.not_lt_zero _)) | refine And.intro ?_ ?_ | refine SameB.cells ?_ | exact SameC.nil | refine SameC.cons ?_ ?_ | exact Same.nsl rfl | exact Same.tt rfl | exact Same.ff rfl))
          all_goals (refine SameB.row' hll fun j hj => rfl)
        · have h5 : ¬ (i < acc.length ∧ (acc.getD i Xattr.z).name = n .o) := fun q => by have := hb.2 q; rw [this] at h5; cases h5
          rw [if_neg h5] at hadd
          cbv
          refine hI acc i ⟨n .o, u .o⟩ (hOk _ i (by omega) hf hx hi) hil (by omega) rfl (fun j hj => rfl) rfl rfl rfl ?_
          rw [← hadd]
          cbv
          refine ⟨(k + 1, addX ⟨n .o, u .o⟩ acc), ⟨h4, hf1.trans hst, hnu, by show (addX _ acc).length ≤ k + 1; omega, hnew⟩, by show (rs .o).length - (k + 1) < (rs .o).length - k; omega, ?_⟩
          cbv
          rw [zi_succ (by omega)]
          (repeat' (first | exact True.intro | exact Same.refl _ | exact SameB.refl _ | exact ⟨rfl⟩ | exact Same.int rfl | exact Same.str rfl | exact Same.bool rfl | (refine Same.int ?_; simp only [List.length_append, List.length_cons, List.length_nil, zi]; omega) | (refine SameB.row' rfl fun i hi => ?_; first | rfl | exact absurd hi (Nat.not_lt_zero _)) | refine And.intro ?_ ?_ | refine SameB.cells ?_ | exact SameC.nil | refine SameC.cons ?_ ?_ | exact Same.nsl rfl | exact Same.tt rfl | exact Same.ff rfl))
      · rw [hz, hrr] at hx
        rw [hx] at hst
        cbv
        refine ⟨(k + 1, acc), ⟨h4, hf1.trans hst, hup, by show acc.length ≤ k + 1; omega, hacc⟩, by show (rs .o).length - (k + 1) < (rs .o).length - k; omega, ?_⟩
        cbv
        rw [zi_succ (by omega)]
        (repeat' (first | exact True.intro | exact Same.refl _ | exact SameB.refl _ | exact ⟨rfl⟩ | exact Same.int rfl | exact Same.str rfl | exact Same.bool rfl | (refine Same.int ?_; simp only [List.length_append, List.length_cons, List.length_nil, zi]; omega) | (refine SameB.row' rfl fun i hi => ?_; first | rfl | exact absurd hi (Nat.not_lt_zero _)) | refine And.intro ?_ ?_ | refine SameB.cells ?_ | exact SameC.nil | refine SameC.cons ?_ ?_ | exact Same.nsl rfl | exact Same.tt rfl | exact Same.ff rfl))
      · rw [hz, hrr] at hx
        rw [hx] at hst
        have hnone : foldX (rs .o) = none := by
          have e : rs .o = (rs .o).take (k + 1) ++ (rs .o).drop (k + 1) := (List.take_append_drop _ _).symm
          have h := hf1.trans hst
          unfold foldX at h ⊢
          rw [e, List.foldl_append, h, stepX_none]
        cbv
        refine DefAt.use [(10000, 2), (10001, 3), (10002, 9000)] [noValV _, .ptr 10000 0, .ptr 10001 0] (by kernel_rfl) rfl (xendP_c _ _ _ _ ?_)
        cbv
        exact ⟨_, .ret (.refl _), h2 fun l hl => by rw [hnone] at hl; cases hl⟩
    · have h4 : (rs .o).length ≤ k := h4
      rw [List.take_of_length_le h4] at hf
      cbv
      refine xsmay_c (fun _ => acc) (by unfold short; omega) (fun y hy => by have := (hacc y hy).name; omega) fun b hb => ?_
      cbv
      refine br_nbool (fun h5 => ?_) (fun h5 => ?_)
      · have h5 : ¬ XsOk acc := fun q => by have := hb.2 q; rw [this] at h5; cases h5
        cbv
        refine DefAt.use [(10000, 2), (10001, 3)] [.nif, .ptr 10000 0, .ptr 10001 0] (by kernel_rfl) rfl (xendN_c _ ?_)
        cbv
        exact ⟨_, .ret (.refl _), h2 fun l hl => by rw [hf] at hl; cases hl; exact h5⟩
      · have h5 : XsOk acc := hb.1 h5
        cbv
        refine DefAt.use [(10000, 2), (10001, 3), (10002, 9000)] [.nif, .ptr 10000 0, .ptr 10001 0] (by kernel_rfl) rfl (xendR_c _ _ _ ?_)
        cbv
        exact ⟨_, .ret (.refl _), h1 (fun _ => acc) hf h5⟩
end Go.Proofs.Ytjjddmbnfkmfdaa
/- slices.Insert of one name with its value, at the machine's level. -/
namespace Go.Proofs.Ytjjddmbnfkmfdaa
open Go Go.RowKit Go.Shelf Go.Lib
open Go.Proofs.Ytjjddmbnfkmfdaa.Sx F
set_option linter.unusedVariables false
set_option linter.unusedSimpArgs false
theorem run_copy_soft {P : Program} {w : World} {dT sT ty elem : TypeId} {i : TypeInfo} (hu : P.underlying dT = some (.slice elem)) (hi : P.info? elem = some i) (b o dLen dCap : Nat) (a : Addr) (sLen sCap : Nat) (cs : List Value) (hn : cs.length = Nat.min sLen dLen * i.size)
    (hsrc : ∀ j v, cs[j]? = some v → w.cell? (a.add j) = some v) {cur : Array Value} {t : TypeId} {fr : Nat × Nat} (hg : w.heap[b]? = some (.cells cur t fr)) (hs : Soft0 cur.size fr) (hf : o + cs.length ≤ cur.size) (h1 : ∀ v ∈ cs, v.oneCell' = true) :
    (Builtin.copy_ #[dT, sT] ty #[.slice (some ⟨b, o, none⟩) dLen dCap, .slice (some a) sLen sCap]).run P w = .ok (goInt (Nat.min sLen dLen)) (w.setRow b (cur.toList.take o ++ cs ++ cur.toList.drop (o + cs.length)).toArray) := by
  have hl := run_firstCells_some (P := P) w i.size (Nat.min sLen dLen) a sLen sCap cs hn hsrc
  have hst := run_storeCells_soft P b o t fr cs 0 cur w hg hs (by simpa using hf) h1
  simp only [Nat.add_zero] at hst
  simp [Builtin.copy_, run_underlying hu, Builtin.lenOf, sizeOf, typeInfo, hi, hl, hst]
theorem insInfo : ∃ i, Try.prog.info? 42 = some i ∧ i.zero = some (.agg #[.string ⟨#[]⟩, .string ⟨#[]⟩]) ∧ i.size = 2 ∧ i.bytes = 32 := info_parts (by kernel_rfl)
/-- How a call ends that has made xs of a row. -/
structure InsR (w : World) (v : Value) (b m : Nat) (xs : List Value) (e : Ending) (w' : World) : Prop where
  ex : ∃ v' b', e = .returned v' ∧ RowOk w' 2 v' m xs b' ∧ Sx.Grown w w' v b ∧ (v' ≠ nilV → (v ≠ nilV ∧ b' = b) ∨ (w.heap.size ≤ b' ∧ b' < w'.heap.size))
set_option maxHeartbeats 4000000 in
set_option maxRecDepth 100000 in
theorem ins_end (v : Value) (n : Nat) (xs : List Value) (b : Nat) (w : World) (hv : RowOk w 2 v n xs b) (hxl : xs.length = n * 2) (a : Addr) (vc : Nat) (vs : List Value) (hvl : vs.length = 2) (hvs : ∀ j u, vs[j]? = some u → w.cell? (a.add j) = some u) (h1v : ∀ u ∈ vs, u.oneCell' = true) (hn : n ≤ 1000) :
    Calls Try.prog insF #[v, .int .i64 n, .slice (some a) 1 vc] w (InsR w v b (n + 1) (xs ++ vs)) := by
  obtain ⟨i0, hi, hz, hs, hb⟩ := insInfo
  have key := fun ty => run_append_row (P := Try.prog) (w := w) (ty := ty) Try.underlying22 hi hz (by rw [hs]; rfl) (v := v) (n := n) (xs := xs) (b := b) (by rw [hs]; exact hv) (by rw [hs]; exact hxl) (yv := .slice (some a) 1 vc) (m := 1) (news := vs) (by rw [hs]; exact hvl)
    (.inl ⟨a, vc, rfl, hvs⟩) h1v (by rw [hb]; omega) (by omega)
  rw [hs] at key
  unfold insF
  obtain ⟨v', w', b', hrun, hrow, hgr, hnew⟩ := key 22
  have hfin : InsR w v b (n + 1) (xs ++ vs) (.returned v') w' := ⟨_, _, rfl, hrow, hgr, hnew⟩
  clear hrow hgr hnew key
  rcases hv with ⟨rfl, rfl, rfl⟩ | ⟨cap, cur, e', rfl, hg, hnc, hcm, hcs, htake⟩
  · unfold nilV at hrun hfin ⊢
    go_enter Try.func26, Try.ntmps26
    go_wp2_with (at_builtin; refine Lib.wpList_append_run _ rfl _ _ _ _ rfl _ _ rfl rfl _ _ hrun ?_)
    go_ret
    exact hfin
  · go_enter Try.func26, Try.ntmps26
    go_wp2_with (at_builtin; refine Lib.wpList_append_run _ rfl _ _ _ _ rfl _ _ rfl rfl _ _ hrun ?_)
    · obtain rfl : cap = n := by assumption
      go_ret
      exact hfin
    · go_ret
      exact hfin
theorem run_overlaps_row {P : Program} (w : World) (tS tR e : TypeId) (ht : P.underlying tS = some (.slice e)) (size : Nat) (hz : ∀ w, (Go.sizeOf e).run P w = .ok size w)
    (a b : Addr) (la ca lb cb : Nat) (hne : a.block ≠ b.block) (tA tB : TypeId) (kA kB : Nat) (hsa : w.shape? a.block = some (tA, kA)) (hsb : w.shape? b.block = some (tB, kB)) (hkA : kA ≠ 0) (hkB : kB ≠ 0)
    (hfb : w.frozen? b = false) (hfe : w.frozen? { block := b.block, off := kB } = false) :
    (Extern.SlicesOverlaps.overlaps #[tS, tS] #[tR] #[.slice (some a) la ca, .slice (some b) lb cb]).run P w = .ok (.bool false) w := by
  have hnb : (a.block != b.block) = true := by simpa using hne
  have hnb' : (a.block == b.block) = false := by simpa using hne
  change Sem.run P (α := Value) (do
    let some t := (#[tS, tS] : Array TypeId)[0]? | stuck "slices.overlaps: no parameter types"
    let .slice elem ← underlying t | stuck "slices.overlaps: slice type expected"
    let size ← sizeOf elem
    match (some a : Option Addr), (some b : Option Addr) with
    | some a, some b =>
      if la = 0 ∨ lb = 0 ∨ size = 0 then pure (Value.bool false)
      else if a.block != b.block && (← frozen a) && (← frozen b) then unsupported .addressObserved
      else do
        if a.block != b.block then do
          noView a; noView b
          if ← mayBeOne a b then return Value.bool ((← choose (.extern "sameAddr.stringBytes" 2)) == 1)
        pure (Value.bool (a.block == b.block && a.off < b.off + lb * size && b.off < a.off + la * size))
    | _, _ => pure (Value.bool false)) w = _
  by_cases h0 : la = 0 ∨ lb = 0 ∨ size = 0
  · simp [run_underlying ht, hz, h0]
  · cases kB with
    | zero => exact absurd rfl hkB
    | succ kB =>
      obtain ⟨k, rfl⟩ : ∃ k, kA = k + 1 := ⟨kA - 1, by omega⟩
      cases hfa : w.frozen? a <;> simp [run_underlying ht, hz, h0, hnb, hnb', frozen, noView, viewAt, mayBeOne, stringish, shape, Sem.run, hsa, hsb, hfa, hfb, hfe]
theorem shape_row {w : World} {b : Nat} {cur : Array Value} {t : TypeId} {fr : Nat × Nat} (h : w.heap[b]? = some (.cells cur t fr)) : w.shape? b = some (t, cur.size) := by simp [World.shape?, h]
theorem cells_block {w : World} {b o : Nat} {v : Value} (h : w.cell? ⟨b, o, none⟩ = some v) : ∃ cur t fr, w.heap[b]? = some (.cells cur t fr) ∧ o < cur.size := by
  unfold World.cell? at h
  simp only at h
  split at h
  · rename_i cur t fr hq
    exact ⟨cur, t, fr, hq, (Array.getElem?_eq_some_iff.1 h).1⟩
  · cases h
theorem froz_off {w : World} {b : Nat} {cur : Array Value} {t : TypeId} {fr : Nat × Nat} (h : w.heap[b]? = some (.cells cur t fr)) (hs : fr.1 = fr.2) (o : Nat) : w.frozen? ⟨b, o, none⟩ = false := by
  obtain ⟨lo, hi⟩ := fr
  simp only at hs
  subst hs
  simp only [World.frozen?, h, Bool.and_eq_false_iff, decide_eq_false_iff_not]
  omega
set_option maxHeartbeats 4000000 in
set_option maxRecDepth 100000 in
theorem ins_shift (n i cap : Nat) (cur : List Value) (e' : TypeId) (b : Nat) (w : World) (hg : Hs w b cur e' 2) (hnc : n < cap) (hcm : cap ≤ maxLen) (hcs : cur.length = cap * 2) (hin : i < n) (h1c : ∀ u ∈ cur.take (n * 2), u.oneCell' = true)
    (vb vo vc : Nat) (vs : List Value) (hvl : vs.length = 2) (hvs : ∀ j u, vs[j]? = some u → w.cell? ⟨vb, vo + j, none⟩ = some u) (h1v : ∀ u ∈ vs, u.oneCell' = true) (hn : n ≤ 1000) (hvb : vb ≠ b) :
    Calls Try.prog insF #[.slice (some ⟨b, 0, none⟩) n cap, .int .i64 i, .slice (some ⟨vb, vo, none⟩) 1 vc] w (InsR w (.slice (some ⟨b, 0, none⟩) n cap) b (n + 1) ((cur.take (n * 2)).take (i * 2) ++ vs ++ (cur.take (n * 2)).drop (i * 2))) := by
  obtain ⟨i0, hi, hz, hs, hb⟩ := insInfo
  obtain ⟨fr, hgh, hsoft⟩ := hg.ex
  have hfr : fr.1 = fr.2 := hsoft.resolve_right (fun q => by have := q.1; omega)
  have hsz : ∀ w, (Go.sizeOf 42).run Try.prog w = .ok 2 w := fun w => by simp [Go.sizeOf, typeInfo, hi, hs]
  have hut := Try.underlying22
  obtain ⟨cv, tv', frv, hvh, hvo⟩ := cells_block (hvs 0 _ (List.getElem?_eq_getElem (by omega)))
  have hcl : cur.toArray.size = cap * 2 := by simpa using hcs
  have hov : ∀ lb cb, (callFunc 43 #[.slice (some ⟨vb, vo, none⟩) 1 vc, .slice (some ⟨b, (i + 1) * 2, none⟩) lb cb]).run Try.prog w = .ok (.value (.bool false)) w := fun lb cb => by
    rw [run_callFunc_extern Try.func43 (by kernel_rfl) (by kernel_rfl) (by kernel_rfl) (e := Extern.SlicesOverlaps.overlaps #[22, 22] #[4]) (by kernel_rfl),
      run_overlaps_row w 22 4 42 hut 2 hsz ⟨vb, vo, none⟩ ⟨b, (i + 1) * 2, none⟩ 1 vc lb cb hvb _ _ _ _ (shape_row hvh) (shape_row hgh) (by omega) (by omega) (froz_off hgh hfr _) (froz_off hgh hfr _)]
    rfl
  obtain ⟨cs1, hcs1⟩ : ∃ cs1, cs1 = (cur.drop (i * 2)).take ((n - i) * 2) := ⟨_, rfl⟩
  have hl1 : cs1.length = (n - i) * 2 := by rw [hcs1, List.length_take, List.length_drop]; omega
  have h1s : ∀ u ∈ cs1, u.oneCell' = true := fun u hu => h1c u (by
    rw [hcs1] at hu
    have e : (cur.drop (i * 2)).take ((n - i) * 2) = (cur.take (n * 2)).drop (i * 2) := by rw [List.drop_take, Nat.sub_mul]
    rw [e] at hu
    exact List.mem_of_mem_drop hu)
  have hcp1 : ∀ ty dc sc, (Builtin.copy_ #[22, 22] ty #[.slice (some ⟨b, (i + 1) * 2, none⟩) (n - i) dc, .slice (some ⟨b, i * 2, none⟩) (n + 1 - i) sc]).run Try.prog w.drew = .ok (goInt ((n - i : Nat) : Int)) (w.drew.setRow b (cur.take ((i + 1) * 2) ++ cs1 ++ cur.drop ((i + 1) * 2 + cs1.length)).toArray) := fun ty dc sc => by
    have hm : Nat.min (n + 1 - i) (n - i) = n - i := by simp only [Nat.min_def]; split <;> omega
    have h := run_copy_soft (P := Try.prog) (w := w.drew) (dT := 22) (sT := 22) (ty := ty) hut hi b ((i + 1) * 2) (n - i) dc ⟨b, i * 2, none⟩ (n + 1 - i) sc cs1 (by rw [hm, hs, hl1]) (fun j v hj => by
      rw [addr_add]
      show w.cell? _ = _
      rw [hg.cell]
      rw [hcs1, List.getElem?_take] at hj
      split at hj
      · rw [List.getElem?_drop] at hj; exact hj
      · cases hj) (cur := cur.toArray) (t := e') (fr := fr) hgh (.inl hfr) (by rw [hcl, hl1]; omega) h1s
    rw [hm] at h
    exact h
  obtain ⟨cur1, hcur1⟩ : ∃ cur1, cur1 = cur.take ((i + 1) * 2) ++ cs1 ++ cur.drop ((i + 1) * 2 + cs1.length) := ⟨_, rfl⟩
  rw [← hcur1] at hcp1
  have hl2 : cur1.length = cap * 2 := by rw [hcur1]; simp only [List.length_append, List.length_take, List.length_drop]; omega
  obtain ⟨W1, hW1⟩ : ∃ W1, W1 = w.drew.setRow b cur1.toArray := ⟨_, rfl⟩
  rw [← hW1] at hcp1
  have hg1 : W1.heap[b]? = some (.cells cur1.toArray e' fr) := by rw [hW1]; exact setRow_heap w.drew b _ _ e' fr hgh
  have hcp2 : ∀ ty dc, (Builtin.copy_ #[22, 22] ty #[.slice (some ⟨b, i * 2, none⟩) (n + 1 - i) dc, .slice (some ⟨vb, vo, none⟩) 1 vc]).run Try.prog W1 = .ok (goInt 1) (W1.setRow b (cur1.take (i * 2) ++ vs ++ cur1.drop (i * 2 + vs.length)).toArray) := fun ty dc => by
    have hm : Nat.min 1 (n + 1 - i) = 1 := by simp only [Nat.min_def]; split <;> omega
    have h := run_copy_soft (P := Try.prog) (w := W1) (dT := 22) (sT := 22) (ty := ty) hut hi b (i * 2) (n + 1 - i) dc ⟨vb, vo, none⟩ 1 vc vs (by rw [hm, hs, hvl]) (fun j v hj => by
      rw [addr_add, ← hvs j v hj]
      refine World.cell?_of_block (w := w) ?_
      show W1.heap[vb]? = _
      rw [hW1]
      exact setRow_other w.drew b vb _ hvb) (cur := cur1.toArray) (t := e') (fr := fr) hg1 (.inl hfr) (by simp only [List.size_toArray]; omega) h1v
    rw [hm] at h
    exact h
  have hw1 : IntKind.i64.wrap ((i : Int) + 1) = (i : Int) + 1 := by rw [IntKind.wrap_i64]; omega
  have hw2 : IntKind.i64.wrap ((n : Int) + 1) = (n : Int) + 1 := by rw [IntKind.wrap_i64]; omega
  have hb1 : (0 : Int) ≤ (i : Int) + 1 := by omega
  have htn : ((i : Int) + 1).toNat = i + 1 := by omega
  have htn2 : ((n : Int) + 1).toNat = n + 1 := by omega
  have hz2 : ¬ ((i : Int) = (n : Int)) := by omega
  have hb2 : ¬ (cap = i + 1) := by omega
  have hb3 : (i : Int) ≤ (n : Int) + 1 := by omega
  have hb4 : ¬ (cap = i) := by omega
  have hinle : i ≤ n := by omega
  have hcm' : cap ≤ 9223372036854775807 := by unfold maxLen at hcm; omega
  have hfin : InsR w (.slice (some ⟨b, 0, none⟩) n cap) b (n + 1) ((cur.take (n * 2)).take (i * 2) ++ vs ++ (cur.take (n * 2)).drop (i * 2)) (.returned (.slice (some ⟨b, 0, none⟩) (n + 1) cap)) (W1.setRow b (cur1.take (i * 2) ++ vs ++ cur1.drop (i * 2 + vs.length)).toArray) := by
    have hvn : (Value.slice (some ⟨b, 0, none⟩) n cap) ≠ nilV := by simp [nilV]
    have hlen2 : (cur1.take (i * 2) ++ vs ++ cur1.drop (i * 2 + vs.length)).length = cap * 2 := by simp only [List.length_append, List.length_take, List.length_drop]; omega
    refine ⟨_, b, rfl, .inr ⟨cap, _, e', rfl, ⟨fr, setRow_heap W1 b _ _ e' fr hg1, .inl hfr⟩, by omega, hcm, hlen2, ?_⟩, ⟨by rw [hW1]; rfl, by rw [hW1]; rfl, by rw [hW1]; rfl, by rw [hW1]; simp [World.setRow], fun k hk hne => ?_⟩, fun _ => .inl ⟨hvn, rfl⟩⟩
    · have e1 : cur1.take (i * 2) = cur.take (i * 2) := by
        rw [hcur1, List.append_assoc, List.take_append_of_le_length (by rw [List.length_take]; omega), List.take_take, Nat.min_eq_left (by omega)]
      have e2 : cur1.drop (i * 2 + vs.length) = cs1 ++ cur.drop ((i + 1) * 2 + cs1.length) := by
        have e3 : (cur.take ((i + 1) * 2)).length = i * 2 + vs.length := by rw [List.length_take]; omega
        rw [hcur1, List.append_assoc, ← e3, List.drop_left]
      have e4 : (cur.take (n * 2)).drop (i * 2) = cs1 := by rw [hcs1, List.drop_take, Nat.sub_mul]
      rw [e1, e2, e4, List.take_take, Nat.min_eq_left (by omega : i * 2 ≤ n * 2), ← List.append_assoc]
      exact List.take_left' (by simp only [List.length_append, List.length_take]; omega)
    · rw [setRow_other W1 b k _ (hne hvn), hW1]
      exact setRow_other w.drew b k _ (hne hvn)
  generalize (cur.take (n * 2)).take (i * 2) ++ vs ++ (cur.take (n * 2)).drop (i * 2) = XS at hfin ⊢
  generalize (cur1.take (i * 2) ++ vs ++ cur1.drop (i * 2 + vs.length)).toArray = cur2 at hfin hcp2
  clear hcs1 hcur1 hg1 h1s
  subst hW1
  unfold insF
  go_enter Try.func26, Try.ntmps26
  go_wp2_with (simp only [hov])
  go_region_law (refine step_copy_runI rfl _ _ 22 22 rfl _ _ (by simp [Act.eval, Act.put]) (by simp [Act.eval, Act.put]) (hcp1 _ _ _) ?_)
  go_wp2_with (at_builtin; refine wpList_copy_runI _ rfl _ _ 22 22 rfl _ _ rfl rfl (hcp2 _ _) ?_)
  go_ret
  exact hfin
set_option maxHeartbeats 4000000 in
set_option maxRecDepth 100000 in
theorem ins_grow (n i cap : Nat) (cur : List Value) (e' : TypeId) (b : Nat) (w : World) (hg : Hs w b cur e' 2) (hnc : n ≤ cap) (hcn : cap < n + 1) (hcs : cur.length = cap * 2) (hin : i < n) (h1c : ∀ u ∈ cur.take (n * 2), u.oneCell' = true)
    (vb vo vc : Nat) (vs : List Value) (hvl : vs.length = 2) (hvs : ∀ j u, vs[j]? = some u → w.cell? ⟨vb, vo + j, none⟩ = some u) (h1v : ∀ u ∈ vs, u.oneCell' = true) (hn : n ≤ 1000) :
    Calls Try.prog insF #[.slice (some ⟨b, 0, none⟩) n cap, .int .i64 i, .slice (some ⟨vb, vo, none⟩) 1 vc] w (InsR w (.slice (some ⟨b, 0, none⟩) n cap) b (n + 1) ((cur.take (n * 2)).take (i * 2) ++ vs ++ (cur.take (n * 2)).drop (i * 2))) := by
  obtain ⟨i0, hi, hz, hs, hb⟩ := insInfo
  have hut := Try.underlying22
  have hut3 := Try.underlying3
  have hbw := hg.lt
  obtain ⟨cv, tv', frv, hvh, hvo⟩ := cells_block (hvs 0 _ (List.getElem?_eq_getElem (by omega)))
  have hvw : vb < w.heap.size := (Array.getElem?_eq_some_iff.1 hvh).1
  have hkk : (n : Int) + 1 - (i : Int) = ((n + 1 - i : Nat) : Int) := by omega
  have hik : i + (n + 1 - i) = n + 1 := by omega
  have hold : (Builtin.firstCells i0.size i (.slice (some ⟨b, 0, none⟩) i cap)).run Try.prog w.drew = .ok (cur.take (i * 2)).toArray w.drew := by
    rw [hs]
    exact run_firstCells_some w.drew 2 i ⟨b, 0, none⟩ i cap (cur.take (i * 2)) (by rw [List.length_take]; omega) (fun j v hj => by
      rw [addr_add, Nat.zero_add]
      show w.cell? _ = _
      rw [hg.cell]
      rw [List.getElem?_take] at hj
      split at hj
      · exact hj
      · cases hj)
  obtain ⟨G, hG⟩ : ∃ G, G = grownCap w (n + 1) cap 42 := ⟨_, rfl⟩
  obtain ⟨ROW, hROW⟩ : ∃ ROW : Array Value, ROW = (cur.take (i * 2)).toArray ++ Builtin.zeroCells (Value.agg #[.string ⟨#[]⟩, .string ⟨#[]⟩]).cells (n + 1 - i) ++ Builtin.zeroCells (Value.agg #[.string ⟨#[]⟩, .string ⟨#[]⟩]).cells (G - (n + 1)) := ⟨_, rfl⟩
  have hGn : n + 1 ≤ G := by rw [hG]; exact grownCap_ge w _ _ _
  have hGm : G ≤ maxLen := by rw [hG]; exact grownCap_le_maxLen w (n + 1) cap _ (by unfold maxLen; omega)
  have hG63 : G ≤ 9223372036854775807 := by unfold maxLen at hGm; omega
  have hRl : ROW.size = G * 2 := by
    have hz2 : (Value.agg #[.string ⟨#[]⟩, .string ⟨#[]⟩]).cells.size = 2 := rfl
    rw [hROW]
    simp only [Array.size_append, List.size_toArray, size_zeroCells, hz2, List.length_take]
    omega
  have hrz : ∀ ty, (Builtin.append_ #[22, 3] ty #[.slice (some ⟨b, 0, none⟩) i cap, .int .i64 ((n : Int) + 1 - (i : Int))]).run Try.prog w =
      .ok (.slice (some ⟨w.heap.size, 0, none⟩) (n + 1) G) ((w.alloc (.cells ROW 42)).drew) := fun ty => by
    have h := Lib.run_append_grow_zeros w 22 3 ty 42 i0 _ .i64 .i64 hut hut3 hi hz (some ⟨b, 0, none⟩) i cap (cur.take (i * 2)) hold (n + 1 - i) (by omega) (by omega) (by omega) (by omega) (by rw [hb]; omega) (by rw [hb, hik]; exact growslice_fits hcn (by omega))
    rw [hik, ← hG, ← hROW] at h
    rw [hkk]
    exact h
  obtain ⟨cs1, hcs1⟩ : ∃ cs1, cs1 = (cur.drop (i * 2)).take ((n - i) * 2) := ⟨_, rfl⟩
  have hl1 : cs1.length = (n - i) * 2 := by rw [hcs1, List.length_take, List.length_drop]; omega
  have h1s : ∀ u ∈ cs1, u.oneCell' = true := fun u hu => h1c u (by
    rw [hcs1] at hu
    have e : (cur.drop (i * 2)).take ((n - i) * 2) = (cur.take (n * 2)).drop (i * 2) := by rw [List.drop_take, Nat.sub_mul]
    rw [e] at hu
    exact List.mem_of_mem_drop hu)
  obtain ⟨W1, hW1⟩ : ∃ W1, W1 = (w.alloc (.cells ROW 42)).drew := ⟨_, rfl⟩
  have hold1 : ∀ k, k < w.heap.size → W1.heap[k]? = w.heap[k]? := fun k hk => by rw [hW1]; exact Lib.alloc_old w _ k hk
  have hnew1 : W1.heap[w.heap.size]? = some (.cells ROW 42 (0, 0)) := by rw [hW1]; exact heap_alloc_new w _
  obtain ⟨row1, hrow1⟩ : ∃ row1 : List Value, row1 = ROW.toList.take (i * 2) ++ vs ++ ROW.toList.drop (i * 2 + vs.length) := ⟨_, rfl⟩
  have hr1l : row1.length = G * 2 := by rw [hrow1]; simp only [List.length_append, List.length_take, List.length_drop, Array.length_toList]; omega
  have hcpA : ∀ ty dc, (Builtin.copy_ #[22, 22] ty #[.slice (some ⟨w.heap.size, i * 2, none⟩) (n + 1 - i) dc, .slice (some ⟨vb, vo, none⟩) 1 vc]).run Try.prog W1 = .ok (goInt 1) (W1.setRow w.heap.size row1.toArray) := fun ty dc => by
    have hm : Nat.min 1 (n + 1 - i) = 1 := by simp only [Nat.min_def]; split <;> omega
    have h := run_copy_soft (P := Try.prog) (w := W1) (dT := 22) (sT := 22) (ty := ty) hut hi w.heap.size (i * 2) (n + 1 - i) dc ⟨vb, vo, none⟩ 1 vc vs (by rw [hm, hs, hvl]) (fun j v hj => by
      rw [addr_add, ← hvs j v hj]
      exact World.cell?_of_block (w := w) (hold1 vb hvw)) hnew1 (.inl rfl) (by omega) h1v
    rw [hm, ← hrow1] at h
    exact h
  obtain ⟨W2, hW2⟩ : ∃ W2, W2 = (W1.setRow w.heap.size row1.toArray).drew := ⟨_, rfl⟩
  have hold2 : ∀ k, k < w.heap.size → W2.heap[k]? = w.heap[k]? := fun k hk => by
    rw [hW2]
    exact (setRow_other W1 w.heap.size k _ (by omega)).trans (hold1 k hk)
  have hnew2 : W2.heap[w.heap.size]? = some (.cells row1.toArray 42 (0, 0)) := by rw [hW2]; exact setRow_heap W1 w.heap.size _ _ _ _ hnew1
  obtain ⟨row2, hrow2⟩ : ∃ row2 : List Value, row2 = row1.take ((i + 1) * 2) ++ cs1 ++ row1.drop ((i + 1) * 2 + cs1.length) := ⟨_, rfl⟩
  have hr2l : row2.length = G * 2 := by rw [hrow2]; simp only [List.length_append, List.length_take, List.length_drop]; omega
  have hcpB : ∀ ty dc sc, (Builtin.copy_ #[22, 22] ty #[.slice (some ⟨w.heap.size, (i + 1) * 2, none⟩) (n - i) dc, .slice (some ⟨b, i * 2, none⟩) (n - i) sc]).run Try.prog W2 = .ok (goInt ((n - i : Nat) : Int)) (W2.setRow w.heap.size row2.toArray) := fun ty dc sc => by
    have hm : Nat.min (n - i) (n - i) = n - i := by simp only [Nat.min_def]; split <;> omega
    have h := run_copy_soft (P := Try.prog) (w := W2) (dT := 22) (sT := 22) (ty := ty) hut hi w.heap.size ((i + 1) * 2) (n - i) dc ⟨b, i * 2, none⟩ (n - i) sc cs1 (by rw [hm, hs, hl1]) (fun j v hj => by
      rw [addr_add]
      refine (World.cell?_of_block (w := w) (hold2 b hbw)).trans ?_
      rw [hg.cell]
      rw [hcs1, List.getElem?_take] at hj
      split at hj
      · rw [List.getElem?_drop] at hj; exact hj
      · cases hj) hnew2 (.inl rfl) (by simp only [List.size_toArray]; omega) h1s
    rw [hm] at h
    rw [hrow2]
    exact h
  have hfin : InsR w (.slice (some ⟨b, 0, none⟩) n cap) b (n + 1) ((cur.take (n * 2)).take (i * 2) ++ vs ++ (cur.take (n * 2)).drop (i * 2)) (.returned (.slice (some ⟨w.heap.size, 0, none⟩) (n + 1) G)) (W2.setRow w.heap.size row2.toArray) := by
    have hsz2 : W2.heap.size = w.heap.size + 1 := by rw [hW2, hW1]; simp [World.setRow]
    refine ⟨_, w.heap.size, rfl, .inr ⟨G, row2, _, rfl, Hs.mk0 (setRow_heap W2 w.heap.size _ _ _ _ hnew2), hGn, hGm, hr2l, ?_⟩, ⟨by rw [hW2, hW1]; rfl, by rw [hW2, hW1]; rfl, by rw [hW2, hW1]; rfl, by simp [World.setRow, hsz2], fun k hk _ => (setRow_other W2 w.heap.size k _ (by omega)).trans (hold2 k hk)⟩, fun _ => .inr ⟨Nat.le_refl _, by simp [World.setRow, hsz2]⟩⟩
    have e0 : ROW.toList.take (i * 2) = cur.take (i * 2) := by
      rw [hROW]
      simp only [Array.toList_append, List.append_assoc]
      exact List.take_left' (by rw [List.length_take]; omega)
    have e1 : row1.take ((i + 1) * 2) = cur.take (i * 2) ++ vs := by
      rw [hrow1, e0]
      exact List.take_left' (by simp only [List.length_append, List.length_take]; omega)
    have e4 : (cur.take (n * 2)).drop (i * 2) = cs1 := by rw [hcs1, List.drop_take, Nat.sub_mul]
    rw [hrow2, e1, e4, List.take_take, Nat.min_eq_left (by omega : i * 2 ≤ n * 2)]
    exact List.take_left' (by simp only [List.length_append, List.length_take]; omega)
  generalize (cur.take (n * 2)).take (i * 2) ++ vs ++ (cur.take (n * 2)).drop (i * 2) = XS at hfin ⊢
  have hz3 : (cap : Int) < (n : Int) + 1 := by omega
  have hw1 : IntKind.i64.wrap ((i : Int) + 1) = (i : Int) + 1 := by rw [IntKind.wrap_i64]; omega
  have hw2 : IntKind.i64.wrap ((n : Int) + 1) = (n : Int) + 1 := by rw [IntKind.wrap_i64]; omega
  have hw3 : IntKind.i64.wrap ((n : Int) + 1 - (i : Int)) = (n : Int) + 1 - (i : Int) := by rw [IntKind.wrap_i64]; omega
  have hb1 : (0 : Int) ≤ (i : Int) + 1 := by omega
  have htn : ((i : Int) + 1).toNat = i + 1 := by omega
  have hz2 : ¬ ((i : Int) = (n : Int)) := by omega
  have hb2 : ¬ (G = i + 1) := by omega
  have hb3 : (i : Int) ≤ (n : Int) + 1 := by omega
  have hb4 : ¬ (cap = i) := by omega
  have hb5 : ¬ (G = i) := by omega
  have hb6 : (i : Int) ≤ (n : Int) := by omega
  have hinle : i ≤ n := by omega
  have hcm' : cap ≤ 9223372036854775807 := by omega
  clear hrow1 hrow2 hROW hG hkk hik hold hnew1 hnew2 hold1 hold2 hRl hcs1
  subst hW2
  subst hW1
  generalize row1.toArray = A1 at hcpA hcpB hfin
  generalize row2.toArray = A2 at hcpB hfin
  unfold insF
  go_enter Try.func26, Try.ntmps26
  go_wp2_with (first
    | (at_builtin; refine Lib.wpList_append_run _ rfl _ _ _ _ rfl _ _ rfl rfl _ _ (hrz _) ?_)
    | (at_builtin; refine wpList_copy_runI _ rfl _ _ 22 22 rfl _ _ rfl rfl (hcpA _ _) ?_))
  go_region_law (refine step_copy_runI rfl _ _ 22 22 rfl _ _ (by simp [Act.eval, Act.put]) (by simp [Act.eval, Act.put]) (hcpB _ _ _) ?_)
  go_wp2
  go_ret
  exact hfin
end Go.Proofs.Ytjjddmbnfkmfdaa
/- slices.Insert of one name with its value: the contract. -/
namespace Go.Proofs.Ytjjddmbnfkmfdaa
open Go Go.Proofs.Ytjjddmbnfkmfdaa.Sx F
set_option linter.unusedVariables false
set_option linter.unusedSimpArgs false
theorem seg_ins {xs vs : List Value} {i j : Nat} (hv : vs.length = 2) (hi : i * 2 ≤ xs.length) (hj : (j + 1) * 2 ≤ xs.length + 2) :
    ((xs.take (i * 2) ++ vs ++ xs.drop (i * 2)).drop (j * 2)).take 2 = if j < i then (xs.drop (j * 2)).take 2 else if j = i then vs else (xs.drop ((j - 1) * 2)).take 2 := by
  have hl : (xs.take (i * 2)).length = i * 2 := by rw [List.length_take]; omega
  by_cases h1 : j < i
  · rw [if_pos h1, List.append_assoc, List.drop_append_of_le_length (by omega), List.take_append_of_le_length (by rw [List.length_drop]; omega), List.drop_take, List.take_take, Nat.min_eq_left (by omega)]
  · rw [if_neg h1]
    by_cases h2 : j = i
    · subst h2
      rw [if_pos rfl, List.append_assoc, List.drop_left' hl, List.take_left' hv]
    · rw [if_neg h2, List.drop_append, List.drop_eq_nil_of_le (by rw [List.length_append]; omega), List.nil_append, List.length_append, hl, hv, List.drop_drop]
      congr 2
      omega
theorem ins_c : InsC fun _ _ => True := by
  intro l i x m nn g gy iv K _ hil hl hm hg hiv hnn hgy hK
  have hll : (l.take i ++ x :: l.drop i).length = l.length + 1 := by simp only [List.length_append, List.length_take, List.length_cons, List.length_drop]; omega
  refine ⟨_, _, hK, fun E vs v xs b hI hvs hrow hxl hel => ?_⟩
  obtain ⟨u1, r1, rfl, hu1, u2, r2, rfl, hu2, hr2⟩ : ∃ u1 r1, vs = u1 :: r1 ∧ Rp E (.int .i64 iv) u1 ∧ ∃ u2 r2, r1 = u2 :: r2 ∧ Rp E (.sl 2 nn gy) u2 ∧ r2 = [] := hvs
  subst hr2
  obtain rfl : u1 = .int .i64 i := by rw [show u1 = _ from hu1, hiv]; rfl
  obtain ⟨a, vc, rfl, hvc, hmem⟩ := hu2
  obtain ⟨_, vb, vo, rfl, hmc⟩ := hmem 0 (by omega)
  rw [hgy, hnn] at *
  rw [Nat.zero_mul, Nat.add_zero] at hmc
  obtain ⟨⟨w1, c1, i1, p1⟩, ⟨w2, c2, i2, p2⟩, _⟩ := hmc
  obtain rfl : w1 = .string ⟨x.name.toArray⟩ := p1
  obtain rfl : w2 = .string ⟨x.value.toArray⟩ := p2
  rw [hm] at hrow hxl hel
  have hvs2 : ∀ j u, ([.string ⟨x.name.toArray⟩, .string ⟨x.value.toArray⟩] : List Value)[j]? = some u → E.w.cell? ⟨vb, vo + j, none⟩ = some u := fun j u hj => by
    match j, hj with
    | 0, hj => simp at hj; subst hj; exact c1
    | 1, hj => simp at hj; subst hj; exact c2
  have h1v : ∀ u ∈ ([.string ⟨x.name.toArray⟩, .string ⟨x.value.toArray⟩] : List Value), u.oneCell' = true := by
    intro u hu
    simp at hu
    rcases hu with rfl | rfl <;> rfl
  have h1c : ∀ u ∈ xs, u.oneCell' = true := rows_one hxl hel
  have hvne : v ≠ nilV → vb ≠ b := fun q => (hI vb vo i1).2 q
  obtain ⟨vv, hvv⟩ : ∃ vv, vv = ([.string ⟨x.name.toArray⟩, .string ⟨x.value.toArray⟩] : List Value) := ⟨_, rfl⟩
  rw [← hvv] at hvs2 h1v
  have hvl : vv.length = 2 := by rw [hvv]; rfl
  have key : Calls Try.prog insF #[v, .int .i64 i, .slice (some ⟨vb, vo, none⟩) 1 vc] E.w (InsR E.w v b (l.length + 1) (xs.take (i * 2) ++ vv ++ xs.drop (i * 2))) := by
    by_cases hin : i = l.length
    · subst hin
      have h := ins_end v l.length xs b E.w hrow hxl ⟨vb, vo, none⟩ vc vv hvl (fun j u hj => by rw [addr_add]; exact hvs2 j u hj) h1v hl
      rw [List.take_of_length_le (by omega), List.drop_of_length_le (by omega), List.append_nil]
      exact h
    · have hlt : i < l.length := by omega
      rcases hrow with ⟨rfl, h0, _⟩ | ⟨cap, cur, e', rfl, hg', hnc, hcm, hcs, htake⟩
      · omega
      · have hvb := hvne (by simp [nilV])
        rw [← htake] at h1c ⊢
        by_cases hroom : l.length < cap
        · exact ins_shift l.length i cap cur e' b E.w hg' hroom hcm hcs hlt h1c vb vo vc vv hvl hvs2 h1v hl hvb
        · exact ins_grow l.length i cap cur e' b E.w hg' hnc (by omega) hcs hlt h1c vb vo vc vv hvl hvs2 h1v hl
  refine key.mono ?_
  rintro e w' ⟨v', b', he, hro, hgr, hnew⟩
  refine ⟨v', _, b', he, by rw [hll]; exact hro, hgr, hnew, fun j hj => ?_⟩
  rw [hll] at hj
  rw [seg_ins hvl (by omega) (by omega)]
  refine ⟨⟨⟨⟨trivial, trivial, trivial⟩, rfl⟩, rfl⟩, ?_⟩
  show ListC E (Xattr.ch fun _ => (l.take i ++ x :: l.drop i).getD j Xattr.z) _
  by_cases h1 : j < i
  · have e : (l.take i ++ x :: l.drop i).getD j Xattr.z = l.getD j Xattr.z := by
      simp only [List.getD_eq_getElem?_getD]
      rw [List.getElem?_append_left (by rw [List.length_take]; omega), List.getElem?_take, if_pos h1]
    rw [if_pos h1, e, ← hg j (by omega)]
    exact (hel j (by omega)).2
  · rw [if_neg h1]
    by_cases h2 : j = i
    · subst h2
      have e : (l.take j ++ x :: l.drop j).getD j Xattr.z = x := by
        simp only [List.getD_eq_getElem?_getD]
        rw [List.getElem?_append_right (by rw [List.length_take]; omega), List.length_take, Nat.min_eq_left hil, Nat.sub_self]
        rfl
      rw [if_pos rfl, e, hvv]
      exact ⟨_, _, rfl, rfl, _, _, rfl, rfl, rfl⟩
    · have e : (l.take i ++ x :: l.drop i).getD j Xattr.z = l.getD (j - 1) Xattr.z := by
        simp only [List.getD_eq_getElem?_getD]
        rw [List.getElem?_append_right (by rw [List.length_take]; omega), List.length_take, Nat.min_eq_left hil]
        obtain ⟨q, hq⟩ : ∃ q, j - i = q + 1 := ⟨j - i - 1, by omega⟩
        rw [hq, List.getElem?_cons_succ, List.getElem?_drop]
        congr 2
        omega
      rw [if_neg h2, e, ← hg (j - 1) (by omega)]
      exact (hel (j - 1) (by omega)).2
end Go.Proofs.Ytjjddmbnfkmfdaa
/- Names with values: alike, and their records. -/
namespace Go.Proofs.Ytjjddmbnfkmfdaa
open Go Go.Proofs.Ytjjddmbnfkmfdaa.Sx F
set_option linter.unusedVariables false
set_option linter.unusedSimpArgs false
theorem list_ext_getD {α : Type} {a b : List α} (z : α) (hl : a.length = b.length) (h : ∀ j, j < a.length → a.getD j z = b.getD j z) : a = b := by
  apply List.ext_getElem hl
  intro i h1 h2
  have := h i h1
  simpa [List.getD_eq_getElem?_getD, List.getElem?_eq_getElem h1, List.getElem?_eq_getElem h2] using this
/-- Two lists that differ in a place. -/
theorem list_ne_getD {α : Type} {a b : List α} (z : α) (j : Nat) (h : a.getD j z ≠ b.getD j z) : a ≠ b := fun e => h (by rw [e])
theorem eqX_c (a b : Th (List Xattr)) (ha : short (a .o)) {d : Nat} {K : ARes → BL → Prop} (hr : ∀ r : Th Bool, (r .o = true ↔ a .o = b .o) → K (.ret (.bool r)) .nil) : CallAt PT slices_Equal_api_Xattr_api_Xattr [xattrs a, xattrs b] d .nil K := by
  refine CallAt.res ?_
  refine slices_Equal_api_Xattr_api_Xattr.of rfl rfl ?_
  cbv
  have no : ∀ {x : AV}, a .o ≠ b .o → Same x (.bool fun _ => false) → ∃ r', SameR (.ret x) r' ∧ K r' .nil := fun h1 h2 => ⟨_, .ret h2, hr _ ⟨fun q => (by cases q), fun q => (h1 q).elim⟩⟩
  refine br_ndec (fun h1 => ?_) (fun h1 => ?_)
  · cbv
    exact no (fun q => h1 (by rw [q])) (.ff rfl)
  · have h1 : (a .o).length = (b .o).length := zi_inj.1 h1
    cbv
    refine loop_at (X := Nat) 1000 [0, 1, 12] [] (fun _ k => .cons 13 (.int .i64 fun _ => zi k) .nil) (fun _ _ => .nil) (fun k => k ≤ (a .o).length ∧ ∀ j, j < k → (a .o).getD j Xattr.z = (b .o).getD j Xattr.z) (fun k => (a .o).length - k) 0 ?_ ⟨Nat.zero_le _, fun j hj => by omega⟩ ?_
    · cbv
      (repeat' (first | exact True.intro | exact Same.refl _ | exact SameB.refl _ | exact ⟨rfl⟩ | exact Same.int rfl | exact Same.str rfl | exact Same.bool rfl | (refine Same.int ?_; simp only [List.length_append, List.length_cons, List.length_nil, zi]; omega) | (refine SameB.row' rfl fun i hi => ?_; first | rfl | exact absurd hi (Nat.not_lt_zero _)) | refine And.intro ?_ ?_ | refine SameB.cells ?_ | exact SameC.nil | refine SameC.cons ?_ ?_ | exact Same.nsl rfl | exact Same.tt rfl | exact Same.ff rfl))
    · rintro k ⟨hk, heq⟩
      have hz := zi_toNat k
      cbv
      ((try refine br_rev ?_); (first | refine br_dec (fun h2 => ?_) (fun h2 => ?_) | refine br_ndec (fun h2 => ?_) (fun h2 => ?_) | refine br_nbool (fun h2 => ?_) (fun h2 => ?_) | refine br_bool (fun h2 => ?_) (fun h2 => ?_)); all_goals (try dsimp only at h2); all_goals (try with_reducible replace h2 := zi_lt.1 h2); all_goals (try with_reducible replace h2 := not_zlt h2))
      · cbv
        refine safe ⟨zi_nonneg _, zi_lt.2 h2⟩ ?_
        refine safe ⟨zi_nonneg _, zi_lt.2 (by omega)⟩ ?_
        refine br_nbool (fun h3 => ?_) (fun h3 => ?_)
        · cbv
          refine no (list_ne_getD Xattr.z k fun q => ?_) (.ff rfl)
          rw [hz, q] at h3
          simp at h3
        · rw [hz] at h3
          simp only [Bool.and_eq_true, decide_eq_true_eq] at h3
          have h3' : (a .o).getD k Xattr.z = (b .o).getD k Xattr.z := by
            have e1 := h3.1
            have e2 := h3.2.1
            generalize (a .o).getD k Xattr.z = p at e1 e2 ⊢
            generalize (b .o).getD k Xattr.z = q at e1 e2 ⊢
            cases p; cases q
            simp only at e1 e2
            rw [e1, e2]
          cbv
          refine ⟨k + 1, ⟨h2, fun j hj => ?_⟩, by omega, ?_⟩
          · by_cases e : j = k
            · rw [e]; exact h3'
            · exact heq j (by omega)
          · cbv
            rw [zi_succ (by unfold short at ha; omega)]
            (repeat' (first | exact True.intro | exact Same.refl _ | exact SameB.refl _ | exact ⟨rfl⟩ | exact Same.int rfl | exact Same.str rfl | exact Same.bool rfl | (refine Same.int ?_; simp only [List.length_append, List.length_cons, List.length_nil, zi]; omega) | (refine SameB.row' rfl fun i hi => ?_; first | rfl | exact absurd hi (Nat.not_lt_zero _)) | refine And.intro ?_ ?_ | refine SameB.cells ?_ | exact SameC.nil | refine SameC.cons ?_ ?_ | exact Same.nsl rfl | exact Same.tt rfl | exact Same.ff rfl))
      · cbv
        exact ⟨_, .ret (y := .bool fun _ => true) (.tt rfl), hr _ ⟨fun _ => list_ext_getD Xattr.z h1 fun j hj => heq j (by omega), fun _ => rfl⟩⟩
theorem sameX_c (a b : Th (List Xattr)) (ha : short (a .o)) {d : Nat} {K : ARes → BL → Prop} (hr : ∀ r : Th Bool, (r .o = true ↔ a .o = b .o) → K (.ret (.bool r)) .nil) : CallAt PT r9_SameXattrs [xattrs a, xattrs b] d .nil K := by
  refine CallAt.res ?_
  refine r9_SameXattrs.of rfl rfl ?_
  cbv
  have no : ∀ {x : AV}, a .o ≠ b .o → Same x (.bool fun _ => false) → ∃ r', SameR (.ret x) r' ∧ K r' .nil := fun h1 h2 => ⟨_, .ret h2, hr _ ⟨fun q => (by cases q), fun q => (h1 q).elim⟩⟩
  refine br_ndec (fun h1 => ?_) (fun h1 => ?_)
  · cbv
    exact no (fun q => h1 (by rw [q])) (.ff rfl)
  · have h1 : (a .o).length = (b .o).length := zi_inj.1 h1
    cbv
    refine loop_rule (X := Nat) 1000 [0, 1] [] (fun k => .cons 5 (.int .i64 fun _ => zi k) .nil) (fun _ => .nil) (fun k => k ≤ (a .o).length ∧ ∀ j, j < k → (a .o).getD j Xattr.z = (b .o).getD j Xattr.z) (fun k => (a .o).length - k) 0 ?_ ⟨Nat.zero_le _, fun j hj => by omega⟩ ?_
    · cbv
      (repeat' (first | exact True.intro | exact Same.refl _ | exact SameB.refl _ | exact ⟨rfl⟩ | exact Same.int rfl | exact Same.str rfl | exact Same.bool rfl | (refine Same.int ?_; simp only [List.length_append, List.length_cons, List.length_nil, zi]; omega) | (refine SameB.row' rfl fun i hi => ?_; first | rfl | exact absurd hi (Nat.not_lt_zero _)) | refine And.intro ?_ ?_ | refine SameB.cells ?_ | exact SameC.nil | refine SameC.cons ?_ ?_ | exact Same.nsl rfl | exact Same.tt rfl | exact Same.ff rfl))
    · rintro k ⟨hk, heq⟩
      have hz := zi_toNat k
      cbv
      ((try refine br_rev ?_); (first | refine br_dec (fun h2 => ?_) (fun h2 => ?_) | refine br_ndec (fun h2 => ?_) (fun h2 => ?_) | refine br_nbool (fun h2 => ?_) (fun h2 => ?_) | refine br_bool (fun h2 => ?_) (fun h2 => ?_)); all_goals (try dsimp only at h2); all_goals (try with_reducible replace h2 := zi_lt.1 h2); all_goals (try with_reducible replace h2 := not_zlt h2))
      · cbv
        refine safe ⟨zi_nonneg _, zi_lt.2 h2⟩ ?_
        refine safe ⟨zi_nonneg _, zi_lt.2 (by omega)⟩ ?_
        refine br_nbool (fun h3 => ?_) (fun h3 => ?_)
        · cbv
          refine no (list_ne_getD Xattr.z k fun q => ?_) (.ff rfl)
          rw [hz, q] at h3
          simp at h3
        · rw [hz] at h3
          simp only [Bool.and_eq_true, decide_eq_true_eq] at h3
          have h3' : (a .o).getD k Xattr.z = (b .o).getD k Xattr.z := by
            have e1 := h3.1
            have e2 := h3.2.1
            generalize (a .o).getD k Xattr.z = p at e1 e2 ⊢
            generalize (b .o).getD k Xattr.z = q at e1 e2 ⊢
            cases p; cases q
            simp only at e1 e2
            rw [e1, e2]
          cbv
          refine ⟨k + 1, ⟨h2, fun j hj => ?_⟩, by omega, ?_⟩
          · by_cases e : j = k
            · rw [e]; exact h3'
            · exact heq j (by omega)
          · cbv
            rw [zi_succ (by unfold short at ha; omega)]
            (repeat' (first | exact True.intro | exact Same.refl _ | exact SameB.refl _ | exact ⟨rfl⟩ | exact Same.int rfl | exact Same.str rfl | exact Same.bool rfl | (refine Same.int ?_; simp only [List.length_append, List.length_cons, List.length_nil, zi]; omega) | (refine SameB.row' rfl fun i hi => ?_; first | rfl | exact absurd hi (Nat.not_lt_zero _)) | refine And.intro ?_ ?_ | refine SameB.cells ?_ | exact SameC.nil | refine SameC.cons ?_ ?_ | exact Same.nsl rfl | exact Same.tt rfl | exact Same.ff rfl))
      · cbv
        exact ⟨_, .ret (y := .bool fun _ => true) (.tt rfl), hr _ ⟨fun _ => list_ext_getD Xattr.z h1 fun j hj => heq j (by omega), fun _ => rfl⟩⟩
theorem sameRec_c (a b : Th (List Xattr)) (ha : short (a .o)) {d : Nat} {K : ARes → BL → Prop} (hr : ∀ r : Th Bool, (r .o = true ↔ a .o = b .o) → K (.ret (.bool r)) .nil) : CallAt PT r1_SameRecs [xattrs a, xattrs b] d .nil K := by
  refine CallAt.res ?_
  refine r1_SameRecs.of rfl rfl ?_
  cbv
  have no : ∀ {x : AV}, a .o ≠ b .o → Same x (.bool fun _ => false) → ∃ r', SameR (.ret x) r' ∧ K r' .nil := fun h1 h2 => ⟨_, .ret h2, hr _ ⟨fun q => (by cases q), fun q => (h1 q).elim⟩⟩
  refine br_ndec (fun h1 => ?_) (fun h1 => ?_)
  · cbv
    exact no (fun q => h1 (by rw [q])) (.ff rfl)
  · have h1 : (a .o).length = (b .o).length := zi_inj.1 h1
    cbv
    refine loop_rule (X := Nat) 1000 [0, 1] [] (fun k => .cons 5 (.int .i64 fun _ => zi k) .nil) (fun _ => .nil) (fun k => k ≤ (a .o).length ∧ ∀ j, j < k → (a .o).getD j Xattr.z = (b .o).getD j Xattr.z) (fun k => (a .o).length - k) 0 ?_ ⟨Nat.zero_le _, fun j hj => by omega⟩ ?_
    · cbv
      (repeat' (first | exact True.intro | exact Same.refl _ | exact SameB.refl _ | exact ⟨rfl⟩ | exact Same.int rfl | exact Same.str rfl | exact Same.bool rfl | (refine Same.int ?_; simp only [List.length_append, List.length_cons, List.length_nil, zi]; omega) | (refine SameB.row' rfl fun i hi => ?_; first | rfl | exact absurd hi (Nat.not_lt_zero _)) | refine And.intro ?_ ?_ | refine SameB.cells ?_ | exact SameC.nil | refine SameC.cons ?_ ?_ | exact Same.nsl rfl | exact Same.tt rfl | exact Same.ff rfl))
    · rintro k ⟨hk, heq⟩
      have hz := zi_toNat k
      cbv
      ((try refine br_rev ?_); (first | refine br_dec (fun h2 => ?_) (fun h2 => ?_) | refine br_ndec (fun h2 => ?_) (fun h2 => ?_) | refine br_nbool (fun h2 => ?_) (fun h2 => ?_) | refine br_bool (fun h2 => ?_) (fun h2 => ?_)); all_goals (try dsimp only at h2); all_goals (try with_reducible replace h2 := zi_lt.1 h2); all_goals (try with_reducible replace h2 := not_zlt h2))
      · cbv
        refine safe ⟨zi_nonneg _, zi_lt.2 h2⟩ ?_
        refine safe ⟨zi_nonneg _, zi_lt.2 (by omega)⟩ ?_
        refine br_nbool (fun h3 => ?_) (fun h3 => ?_)
        · cbv
          refine no (list_ne_getD Xattr.z k fun q => ?_) (.ff rfl)
          rw [hz, q] at h3
          simp at h3
        · rw [hz] at h3
          simp only [Bool.and_eq_true, decide_eq_true_eq] at h3
          have h3' : (a .o).getD k Xattr.z = (b .o).getD k Xattr.z := by
            have e1 := h3.1
            have e2 := h3.2.1
            generalize (a .o).getD k Xattr.z = p at e1 e2 ⊢
            generalize (b .o).getD k Xattr.z = q at e1 e2 ⊢
            cases p; cases q
            simp only at e1 e2
            rw [e1, e2]
          cbv
          refine ⟨k + 1, ⟨h2, fun j hj => ?_⟩, by omega, ?_⟩
          · by_cases e : j = k
            · rw [e]; exact h3'
            · exact heq j (by omega)
          · cbv
            rw [zi_succ (by unfold short at ha; omega)]
            (repeat' (first | exact True.intro | exact Same.refl _ | exact SameB.refl _ | exact ⟨rfl⟩ | exact Same.int rfl | exact Same.str rfl | exact Same.bool rfl | (refine Same.int ?_; simp only [List.length_append, List.length_cons, List.length_nil, zi]; omega) | (refine SameB.row' rfl fun i hi => ?_; first | rfl | exact absurd hi (Nat.not_lt_zero _)) | refine And.intro ?_ ?_ | refine SameB.cells ?_ | exact SameC.nil | refine SameC.cons ?_ ?_ | exact Same.nsl rfl | exact Same.tt rfl | exact Same.ff rfl))
      · cbv
        exact ⟨_, .ret (y := .bool fun _ => true) (.tt rfl), hr _ ⟨fun _ => list_ext_getD Xattr.z h1 fun j hj => heq j (by omega), fun _ => rfl⟩⟩
theorem xsame_c (a b : Th (List Xattr)) (ha : short (a .o)) {d : Nat} {K : ARes → BL → Prop} (hr : ∀ r : Th Bool, (r .o = true ↔ a .o = b .o) → K (.ret (.bool r)) .nil) : CallAt PT xattr_Same [xattrs a, xattrs b] d .nil K := by
  refine xattr_Same.of rfl rfl ?_
  cbv
  refine eqX_c a b ha fun r h => ?_
  cbv
  exact hr r h
theorem err_c (e : Th Int) {d : Nat} {K : ARes → BL → Prop} (hr : K (.ret (.int .i64 e)) .nil) : CallAt PT l1_Err [.int .i64 e] d .nil K := by
  refine l1_Err.of rfl rfl ?_
  cbv
  exact hr
def recX (x : Xattr) : List Xattr := (if (61 : UInt8) ∈ x.name then [] else [⟨schS ++ x.name, x.value⟩]) ++ [⟨libS ++ escS x.name, sixtyS x.value⟩]
def recsX (l : List Xattr) : List Xattr := l.flatMap recX
theorem recsX_step {l : List Xattr} {k : Nat} (h : k < l.length) : recsX (l.take (k + 1)) = recsX (l.take k) ++ recX (l.getD k Xattr.z) := by
  unfold recsX
  rw [List.take_succ_eq_append_getElem h, List.flatMap_append, List.getD_eq_getElem?_getD, List.getElem?_eq_getElem h]
  simp
theorem recX_len (x : Xattr) : (recX x).length ≤ 2 := by unfold recX; split <;> simp
theorem recsX_len : ∀ l : List Xattr, (recsX l).length ≤ 2 * l.length
  | [] => Nat.le_refl _
  | x :: r => by
    have h1 := recsX_len r
    have h2 := recX_len x
    simp only [recsX, List.flatMap_cons, List.length_append, List.length_cons] at h1 ⊢
    omega
theorem recs9_c (l : Th (List Xattr)) (hl : short (l .o)) (hx : longX (l .o)) {d : Nat} {K : ARes → BL → Prop} (hr : ∀ r : Th (List Xattr), (XsOk (l .o) → r .o = recsX (l .o)) → (¬ XsOk (l .o) → r .o = []) → K (.ret (xattrs r)) .nil) : CallAt PT r9_RecsXattrs [xattrs l] d .nil K := by
  refine CallAt.res ?_
  refine r9_RecsXattrs.of rfl rfl ?_
  cbv
  refine xsmay9_c l hl hx fun b hb => ?_
  cbv
  refine br_nbool (fun q1 => ?_) (fun q1 => ?_)
  all_goals cbv
  · exact ⟨_, .ret (y := xattrs fun _ => []) (.nsl rfl), hr _ (fun q => by have := hb.2 q; rw [this] at q1; cases q1) fun _ => rfl⟩
  have ok := hb.1 q1
  have hlen := ok.len
  refine nil_tmp 3 9000 2 (fun i => Xattr.ch fun _ => ([] : List Xattr).getD (i .o) Xattr.z) rfl rfl ?_
  refine loop_at (X := Nat × List Xattr) 1000 [0] [] (fun _ x => .cons 3 (.row 9000) (.cons 4 (.int .i64 fun _ => zi x.1) .nil)) (fun _ x => .cons 9000 (rowB 2 Xattr.ch Xattr.z fun _ => x.2) .nil)
    (fun x => x.1 ≤ (l .o).length ∧ x.2 = recsX ((l .o).take x.1)) (fun x => (l .o).length - x.1) (0, []) ?_ ⟨by simp, rfl⟩ ?_
  · cbv
    (repeat' (first | exact True.intro | exact Same.refl _ | exact SameB.refl _ | exact ⟨rfl⟩ | exact Same.int rfl | exact Same.str rfl | exact Same.bool rfl | (refine Same.int ?_; simp only [List.length_append, List.length_cons, List.length_nil, zi]; omega) | (refine SameB.row' rfl fun i hi => ?_; first | rfl | exact absurd hi (Nat.not_lt_zero _)) | refine And.intro ?_ ?_ | refine SameB.cells ?_ | exact SameC.nil | refine SameC.cons ?_ ?_ | exact Same.nsl rfl | exact Same.tt rfl | exact Same.ff rfl))
  · rintro ⟨k, out⟩ ⟨hk, ho⟩
    dsimp only at hk ho
    have hol : out.length ≤ 2 * k := by have := recsX_len ((l .o).take k); rw [List.length_take] at this; rw [ho]; omega
    cbv
    refine br_zlt (fun h1 => ?_) (fun h1 => ?_)
    rotate_left
    · have h1 : (l .o).length ≤ k := h1
      cbv
      exact ⟨_, .ret (.refl _), hr (fun _ => out) (fun _ => by rw [ho, List.take_of_length_le h1]) fun q => (q ok).elim⟩
    · have h1 : k < (l .o).length := h1
      have hxk := ok.to.ok k h1
      have hz := zi_toNat k
      have hn : ((l .o).getD k Xattr.z).name.length ≤ 238 := Nat.le_trans (escS_ge _) hxk.2.1
      have hv : ((l .o).getD k Xattr.z).value.length ≤ 4096 := hxk.2.2.2
      have he := hxk.2.1
      have hstep := recsX_step h1
      rw [← ho] at hstep
      have hxe : ∃ x, x = (l .o).getD k Xattr.z := ⟨_, rfl⟩
      obtain ⟨x, hxx⟩ := hxe
      rw [← hxx] at hxk hn hv he hstep
      cbv
      dsimp only
      rw [hz]
      refine safe ⟨zi_nonneg _, zi_lt.2 h1⟩ ?_
      simp only [← hxx]
      refine hasAny1_c _ 61 (by (try dsimp only); omega) fun b2 hb2 => ?_
      cbv
      refine br_nbool (fun q2 => ?_) (fun q2 => ?_)
      all_goals cbv
      · have hq : ¬ (61 : UInt8) ∈ x.name := fun q => by have := hb2.2 q; rw [this] at q2; cases q2
        have hrx : recX x = [⟨schS ++ x.name, x.value⟩] ++ [⟨libS ++ escS x.name, sixtyS x.value⟩] := by unfold recX; rw [if_neg hq]
        refine safe ⟨zi_nonneg _, zi_lt.2 h1⟩ ?_
        refine safe (by (try dsimp only); rw [hz, ← hxx]; simp only [List.length_cons, List.length_nil]; omega) ?_
        refine safe ⟨zi_nonneg _, zi_lt.2 h1⟩ ?_
        obtain ⟨x1, hx1⟩ : ∃ x1 : Xattr, x1 = ⟨schS ++ x.name, x.value⟩ := ⟨_, rfl⟩
        refine app_one Xattr.ch Xattr.z out x1 rfl (fun i hi => rfl) rfl (by rw [hx1, hz, ← hxx]; rfl) (by omega) ?_
        cbv
        refine safe ⟨zi_nonneg _, zi_lt.2 h1⟩ ?_
        refine safe ⟨zi_nonneg _, zi_lt.2 h1⟩ ?_
        refine r1esc_c _ (by (try dsimp only); rw [hz, ← hxx]; omega) fun e he' => ?_
        have he' : e .o = escS x.name := by rw [he']; dsimp only; rw [hz, ← hxx]
        cbv
        refine safe (by (try dsimp only); rw [he']; simp only [List.length_cons, List.length_nil]; omega) ?_
        refine r1sixty_c _ (by (try dsimp only); rw [hz, ← hxx]; omega) fun u hu => ?_
        have hu : u .o = sixtyS x.value := by rw [hu]; dsimp only; rw [hz, ← hxx]
        cbv
        obtain ⟨x2, hx2⟩ : ∃ x2 : Xattr, x2 = ⟨libS ++ escS x.name, sixtyS x.value⟩ := ⟨_, rfl⟩
        refine app_one Xattr.ch Xattr.z (out ++ [x1]) x2 rfl (fun i hi => rfl) rfl (by rw [hx2, ← he', ← hu]; rfl) (by rw [List.length_append]; simp only [List.length_cons, List.length_nil]; omega) ?_
        cbv
        refine ⟨(k + 1, (out ++ [x1]) ++ [x2]), ⟨h1, by show (out ++ [x1]) ++ [x2] = _; rw [hstep, hrx, hx1, hx2, List.append_assoc]⟩, by show _ - (k + 1) < _ - k; omega, ?_⟩
        cbv
        rw [zi_succ (by omega)]
        (repeat' (first | exact True.intro | exact Same.refl _ | exact SameB.refl _ | exact ⟨rfl⟩ | exact Same.int rfl | exact Same.str rfl | exact Same.bool rfl | (refine Same.int ?_; simp only [List.length_append, List.length_cons, List.length_nil, zi]; omega) | (refine SameB.row' rfl fun i hi => ?_; first | rfl | exact absurd hi (Nat.not_lt_zero _)) | refine And.intro ?_ ?_ | refine SameB.cells ?_ | exact SameC.nil | refine SameC.cons ?_ ?_ | exact Same.nsl rfl | exact Same.tt rfl | exact Same.ff rfl))
      · have hq : (61 : UInt8) ∈ x.name := hb2.1 q2
        have hrx : recX x = [⟨libS ++ escS x.name, sixtyS x.value⟩] := by unfold recX; rw [if_pos hq]; rfl
        refine safe ⟨zi_nonneg _, zi_lt.2 h1⟩ ?_
        refine safe ⟨zi_nonneg _, zi_lt.2 h1⟩ ?_
        refine r1esc_c _ (by (try dsimp only); rw [hz, ← hxx]; omega) fun e he' => ?_
        have he' : e .o = escS x.name := by rw [he']; dsimp only; rw [hz, ← hxx]
        cbv
        refine safe (by (try dsimp only); rw [he']; simp only [List.length_cons, List.length_nil]; omega) ?_
        refine r1sixty_c _ (by (try dsimp only); rw [hz, ← hxx]; omega) fun u hu => ?_
        have hu : u .o = sixtyS x.value := by rw [hu]; dsimp only; rw [hz, ← hxx]
        cbv
        obtain ⟨x2, hx2⟩ : ∃ x2 : Xattr, x2 = ⟨libS ++ escS x.name, sixtyS x.value⟩ := ⟨_, rfl⟩
        refine app_one Xattr.ch Xattr.z out x2 rfl (fun i hi => rfl) rfl (by rw [hx2, ← he', ← hu]; rfl) (by omega) ?_
        cbv
        refine ⟨(k + 1, out ++ [x2]), ⟨h1, by show out ++ [x2] = _; rw [hstep, hrx, hx2]⟩, by show _ - (k + 1) < _ - k; omega, ?_⟩
        cbv
        rw [zi_succ (by omega)]
        (repeat' (first | exact True.intro | exact Same.refl _ | exact SameB.refl _ | exact ⟨rfl⟩ | exact Same.int rfl | exact Same.str rfl | exact Same.bool rfl | (refine Same.int ?_; simp only [List.length_append, List.length_cons, List.length_nil, zi]; omega) | (refine SameB.row' rfl fun i hi => ?_; first | rfl | exact absurd hi (Nat.not_lt_zero _)) | refine And.intro ?_ ?_ | refine SameB.cells ?_ | exact SameC.nil | refine SameC.cons ?_ ?_ | exact Same.nsl rfl | exact Same.tt rfl | exact Same.ff rfl))
theorem recs_c (l : Th (List Xattr)) (hl : short (l .o)) (hx : longX (l .o)) {d : Nat} {K : ARes → BL → Prop} (hr : ∀ r : Th (List Xattr), (XsOk (l .o) → r .o = recsX (l .o)) → (¬ XsOk (l .o) → r .o = []) → K (.ret (xattrs r)) .nil) : CallAt PT xattr_Recs [xattrs l] d .nil K := by
  refine CallAt.res ?_
  refine xattr_Recs.of rfl rfl ?_
  cbv
  refine xsmay_c l hl hx fun b hb => ?_
  cbv
  refine br_nbool (fun q1 => ?_) (fun q1 => ?_)
  all_goals cbv
  · exact ⟨_, .ret (y := xattrs fun _ => []) (.nsl rfl), hr _ (fun q => by have := hb.2 q; rw [this] at q1; cases q1) fun _ => rfl⟩
  have ok := hb.1 q1
  have hlen := ok.len
  refine nil_tmp 3 9000 2 (fun i => Xattr.ch fun _ => ([] : List Xattr).getD (i .o) Xattr.z) rfl rfl ?_
  refine loop_at (X := Nat × List Xattr) 1000 [9, 10] [] (fun _ x => .cons 3 (.row 9000) (.cons 11 (.int .i64 fun _ => zi x.1) .nil)) (fun _ x => .cons 9000 (rowB 2 Xattr.ch Xattr.z fun _ => x.2) .nil)
    (fun x => x.1 ≤ (l .o).length ∧ x.2 = recsX ((l .o).take x.1)) (fun x => (l .o).length - x.1) (0, []) ?_ ⟨by simp, rfl⟩ ?_
  · cbv
    (repeat' (first | exact True.intro | exact Same.refl _ | exact SameB.refl _ | exact ⟨rfl⟩ | exact Same.int rfl | exact Same.str rfl | exact Same.bool rfl | (refine Same.int ?_; simp only [List.length_append, List.length_cons, List.length_nil, zi]; omega) | (refine SameB.row' rfl fun i hi => ?_; first | rfl | exact absurd hi (Nat.not_lt_zero _)) | refine And.intro ?_ ?_ | refine SameB.cells ?_ | exact SameC.nil | refine SameC.cons ?_ ?_ | exact Same.nsl rfl | exact Same.tt rfl | exact Same.ff rfl))
  · rintro ⟨k, out⟩ ⟨hk, ho⟩
    dsimp only at hk ho
    have hol : out.length ≤ 2 * k := by have := recsX_len ((l .o).take k); rw [List.length_take] at this; rw [ho]; omega
    cbv
    refine br_zlt (fun h1 => ?_) (fun h1 => ?_)
    rotate_left
    · have h1 : (l .o).length ≤ k := h1
      cbv
      exact ⟨_, .ret (.refl _), hr (fun _ => out) (fun _ => by rw [ho, List.take_of_length_le h1]) fun q => (q ok).elim⟩
    · have h1 : k < (l .o).length := h1
      have hxk := ok.to.ok k h1
      have hz := zi_toNat k
      have hn : ((l .o).getD k Xattr.z).name.length ≤ 238 := Nat.le_trans (escS_ge _) hxk.2.1
      have hv : ((l .o).getD k Xattr.z).value.length ≤ 4096 := hxk.2.2.2
      have he := hxk.2.1
      have hstep := recsX_step h1
      rw [← ho] at hstep
      have hxe : ∃ x, x = (l .o).getD k Xattr.z := ⟨_, rfl⟩
      obtain ⟨x, hxx⟩ := hxe
      rw [← hxx] at hxk hn hv he hstep
      cbv
      dsimp only
      rw [hz]
      refine safe ⟨zi_nonneg _, zi_lt.2 h1⟩ ?_
      simp only [← hxx]
      refine contains1_c (fun _ => x.name) 61 fun b2 hb2 => ?_
      have hb2 : b2 .o = true ↔ (61 : UInt8) ∈ x.name := by rw [hb2, decide_eq_true_eq]
      cbv
      refine br_nbool (fun q2 => ?_) (fun q2 => ?_)
      all_goals cbv
      · have hq : ¬ (61 : UInt8) ∈ x.name := fun q => by have := hb2.2 q; rw [this] at q2; cases q2
        have hrx : recX x = [⟨schS ++ x.name, x.value⟩] ++ [⟨libS ++ escS x.name, sixtyS x.value⟩] := by unfold recX; rw [if_neg hq]
        refine safe (by (try dsimp only); simp only [List.length_cons, List.length_nil]; omega) ?_
        obtain ⟨x1, hx1⟩ : ∃ x1 : Xattr, x1 = ⟨schS ++ x.name, x.value⟩ := ⟨_, rfl⟩
        refine app_one Xattr.ch Xattr.z out x1 rfl (fun i hi => rfl) rfl (by rw [hx1]; rfl) (by omega) ?_
        cbv
        refine esc_c (fun _ => x.name) (by (try dsimp only); omega) fun e he' => ?_
        have he' : e .o = escS x.name := he'
        cbv
        refine safe (by (try dsimp only); rw [he']; simp only [List.length_cons, List.length_nil]; omega) ?_
        refine sixPut_c (fun _ => x.value) (by (try dsimp only); omega) fun u hu => ?_
        have hu : u .o = sixtyS x.value := hu
        cbv
        obtain ⟨x2, hx2⟩ : ∃ x2 : Xattr, x2 = ⟨libS ++ escS x.name, sixtyS x.value⟩ := ⟨_, rfl⟩
        refine app_one Xattr.ch Xattr.z (out ++ [x1]) x2 rfl (fun i hi => rfl) rfl (by rw [hx2, ← he', ← hu]; rfl) (by (try simp only [List.length_append, List.length_cons, List.length_nil]); omega) ?_
        cbv
        refine ⟨(k + 1, (out ++ [x1]) ++ [x2]), ⟨h1, by show (out ++ [x1]) ++ [x2] = _; rw [hstep, hrx, hx1, hx2, List.append_assoc]⟩, by show _ - (k + 1) < _ - k; omega, ?_⟩
        cbv
        rw [zi_succ (by omega)]
        (repeat' (first | exact True.intro | exact Same.refl _ | exact SameB.refl _ | exact ⟨rfl⟩ | exact Same.int rfl | exact Same.str rfl | exact Same.bool rfl | (refine Same.int ?_; simp only [List.length_append, List.length_cons, List.length_nil, zi]; omega) | (refine SameB.row' rfl fun i hi => ?_; first | rfl | exact absurd hi (Nat.not_lt_zero _)) | refine And.intro ?_ ?_ | refine SameB.cells ?_ | exact SameC.nil | refine SameC.cons ?_ ?_ | exact Same.nsl rfl | exact Same.tt rfl | exact Same.ff rfl))
      · have hq : (61 : UInt8) ∈ x.name := hb2.1 q2
        have hrx : recX x = [⟨libS ++ escS x.name, sixtyS x.value⟩] := by unfold recX; rw [if_pos hq]; rfl
        refine esc_c (fun _ => x.name) (by (try dsimp only); omega) fun e he' => ?_
        have he' : e .o = escS x.name := he'
        cbv
        refine safe (by (try dsimp only); rw [he']; simp only [List.length_cons, List.length_nil]; omega) ?_
        refine sixPut_c (fun _ => x.value) (by (try dsimp only); omega) fun u hu => ?_
        have hu : u .o = sixtyS x.value := hu
        cbv
        obtain ⟨x2, hx2⟩ : ∃ x2 : Xattr, x2 = ⟨libS ++ escS x.name, sixtyS x.value⟩ := ⟨_, rfl⟩
        refine app_one Xattr.ch Xattr.z out x2 rfl (fun i hi => rfl) rfl (by rw [hx2, ← he', ← hu]; rfl) (by (try simp only [List.length_append, List.length_cons, List.length_nil]); omega) ?_
        cbv
        refine ⟨(k + 1, out ++ [x2]), ⟨h1, by show out ++ [x2] = _; rw [hstep, hrx, hx2]⟩, by show _ - (k + 1) < _ - k; omega, ?_⟩
        cbv
        rw [zi_succ (by omega)]
        (repeat' (first | exact True.intro | exact Same.refl _ | exact SameB.refl _ | exact ⟨rfl⟩ | exact Same.int rfl | exact Same.str rfl | exact Same.bool rfl | (refine Same.int ?_; simp only [List.length_append, List.length_cons, List.length_nil, zi]; omega) | (refine SameB.row' rfl fun i hi => ?_; first | rfl | exact absurd hi (Nat.not_lt_zero _)) | refine And.intro ?_ ?_ | refine SameB.cells ?_ | exact SameC.nil | refine SameC.cons ?_ ?_ | exact Same.nsl rfl | exact Same.tt rfl | exact Same.ff rfl))
end Go.Proofs.Ytjjddmbnfkmfdaa
/- Names with values: what their records say; the example. -/
namespace Go.Proofs.Ytjjddmbnfkmfdaa
open Go Go.Proofs.Ytjjddmbnfkmfdaa.Sx F
set_option linter.unusedVariables false
set_option linter.unusedSimpArgs false
theorem isPre_app (p s : List UInt8) : isPre p (p ++ s) = true := by unfold isPre; rw [List.take_left]; simp
theorem read_sch (n v : List UInt8) : readX (schS ++ n) v = some (some ⟨n, v⟩) := by
  unfold readX
  rw [if_pos (isPre_app _ _)]
  rfl
theorem sch_lib (s : List UInt8) : isPre schS (libS ++ s) = false := by
  unfold isPre
  refine decide_eq_false fun q => ?_
  have h : ((libS ++ s).take schS.length).head? = schS.head? := by rw [q]
  revert h
  simp [libS, schS]
theorem read_lib (n v : List UInt8) : readX (libS ++ escS n) (sixtyS v) = some (some ⟨n, v⟩) := by
  unfold readX
  rw [if_neg (by rw [sch_lib]; simp), if_pos (isPre_app _ _)]
  have : (libS ++ escS n).drop 17 = escS n := rfl
  rw [this, unE_esc, unX_six]
theorem fold_read : ∀ (rs ys a : List Xattr), rs.map (fun r => readX r.name r.value) = ys.map (fun y => some (some y)) → rs.foldl stepX (some a) = some (ys.foldl (fun a y => addX y a) a)
  | [], [], a, _ => rfl
  | [], _ :: _, a, h => by cases h
  | _ :: _, [], a, h => by cases h
  | r :: rs, y :: ys, a, h => by
    simp only [List.map_cons, List.cons.injEq] at h
    have hs : stepX (some a) r = some (addX y a) := by
      unfold stepX
      simp only [h.1]
    rw [List.foldl_cons, List.foldl_cons, hs]
    exact fold_read rs ys _ h.2
/-- What each record of a list is of. -/
def ofX (x : Xattr) : List Xattr := if (61 : UInt8) ∈ x.name then [x] else [x, x]
theorem recX_read (x : Xattr) : (recX x).map (fun r => readX r.name r.value) = (ofX x).map (fun y => some (some y)) := by
  unfold recX ofX
  split
  · simp only [List.nil_append, List.map_cons, List.map_nil, read_lib]
  · simp only [List.singleton_append, List.map_cons, List.map_nil, read_lib, read_sch]
theorem recsX_read : ∀ l : List Xattr, (recsX l).map (fun r => readX r.name r.value) = (l.flatMap ofX).map (fun y => some (some y))
  | [] => rfl
  | x :: r => by
    have h1 := recsX_read r
    have h2 := recX_read x
    unfold recsX at h1 ⊢
    rw [List.flatMap_cons, List.flatMap_cons, List.map_append, List.map_append, h1, h2]
theorem ofX_mem {x y : Xattr} (h : y ∈ ofX x) : y = x := by
  unfold ofX at h
  split at h <;> simp at h <;> exact h
theorem ofX_self (x : Xattr) : x ∈ ofX x := by unfold ofX; split <;> simp
theorem XsOk.up {l : List Xattr} (h : XsOk l) : l.Pairwise ltX := by
  have step : ∀ j, j + 1 < l.length → strLt (l.getD j Xattr.z).name (l.getD (j + 1) Xattr.z).name = true := fun j hj => by
    have h1 := h.to.up j hj
    unfold leS at h1
    rw [Bool.or_eq_false_iff] at h1
    exact lt_tri h1.1 (of_decide_eq_false h1.2)
  have far : ∀ m i, i + m + 1 < l.length → strLt (l.getD i Xattr.z).name (l.getD (i + m + 1) Xattr.z).name = true := by
    intro m
    induction m with
    | zero => intro i hi; exact step i hi
    | succ m ih => intro i hi; exact lt_trans' (ih i (by omega)) (step (i + m + 1) hi)
  refine List.pairwise_iff_getElem.2 fun i j hi hj hij => ?_
  have := far (j - i - 1) i (by omega)
  rw [show i + (j - i - 1) + 1 = j by omega, List.getD_eq_getElem?_getD, List.getD_eq_getElem?_getD, List.getElem?_eq_getElem hi, List.getElem?_eq_getElem hj] at this
  exact this
theorem foldX_recs {l : List Xattr} (h : l.Pairwise ltX) : foldX (recsX l) = some l := by
  unfold foldX
  rw [fold_read _ _ _ (recsX_read l), fold_all h _ (fun y hy => by
    obtain ⟨x, hx, hy⟩ := List.mem_flatMap.1 hy
    rw [ofX_mem hy]; exact hx) fun x hx => List.mem_flatMap.2 ⟨x, hx, ofX_self x⟩]
theorem recX_small {x : Xattr} (h : XOk x) : ∀ r ∈ recX x, SmallX 1000000 r := by
  obtain ⟨h1, h2, h3, h4⟩ := h
  have h5 := escS_le x.name
  have h6 := sixty_len x.value
  intro r hr
  unfold recX at hr
  rcases List.mem_append.1 hr with hr | hr
  · split at hr
    · cases hr
    · rw [List.mem_singleton.1 hr]
      exact ⟨by show (schS ++ x.name).length ≤ _; rw [List.length_append, show schS.length = 13 from rfl]; omega, by show x.value.length ≤ _; omega⟩
  · rw [List.mem_singleton.1 hr]
    exact ⟨by show (libS ++ escS x.name).length ≤ _; rw [List.length_append, show libS.length = 17 from rfl]; omega, by show (sixtyS x.value).length ≤ _; omega⟩
theorem XsOk.all {l : List Xattr} (h : XsOk l) : ∀ x ∈ l, XOk x := fun x hx => by
  obtain ⟨j, hj, rfl⟩ := List.getElem_of_mem hx
  have := h.to.ok j hj
  rw [List.getD_eq_getElem?_getD, List.getElem?_eq_getElem hj] at this
  exact this
theorem recsX_small {l : List Xattr} (h : XsOk l) : ∀ r ∈ recsX l, SmallX 1000000 r := fun r hr => by
  obtain ⟨x, hx, hr⟩ := List.mem_flatMap.1 hr
  exact recX_small (h.all x hx) r hr
def exX : Xattr := ⟨[117, 115, 101, 114, 46, 97], [98]⟩
theorem exX_ok : XsOk [exX] := by
  refine ⟨⟨fun j hj => ?_, fun j hj => by simp at hj⟩, by decide⟩
  obtain rfl : j = 0 := by simpa using hj
  refine ⟨by decide, by decide, by decide, by decide⟩
theorem exX_same : Same (AV.sl 2 (fun _ => 1) fun i => elemAt 2 ((AV.str fun _ => [117, 115, 101, 114, 46, 97]).cons ((AV.str fun _ => [98]).cons AV.nil)) (i .o)) (xattrs fun _ => [exX]) := by
  refine .sl rfl fun i hi => ?_
  obtain rfl : i = 0 := by
    have hi : i < 1 := hi
    omega
  rfl
theorem awake13_c {d : Nat} {K : ARes → BL → Prop} (hr : ∀ b : Th Bool, b .o = true → K (.ret (.bool b)) .nil) : CallAt PT l13_awake [] d .nil K := by
  refine l13_awake.of rfl rfl ?_
  have one : ∀ {f : Nat} {d : Nat} {B : BL} {K : ARes → BL → Prop}, CallAt PT f [xattrs fun _ => [exX]] d B K → CallAt PT f [AV.sl 2 (fun _ => 1) fun i => elemAt 2 ((AV.str fun _ => [117, 115, 101, 114, 46, 97]).cons ((AV.str fun _ => [98]).cons AV.nil)) (i .o)] d B K := fun h =>
    CallAt.args (.cons exX_same .nil) h
  have hlx : longX [exX] := fun x hx => by rw [List.mem_singleton.1 hx]; decide
  have hre : recsX [exX] = [⟨schS ++ exX.name, exX.value⟩, ⟨libS ++ escS exX.name, sixtyS exX.value⟩] := by
    unfold recsX recX
    rw [List.flatMap_cons, if_neg (by decide)]
    rfl
  cbv
  refine one (recs_c (fun _ => [exX]) (by unfold short; decide) hlx fun r h1 _ => ?_)
  have h1 : r .o = recsX [exX] := h1 exX_ok
  have hrl : (r .o).length = 2 := by rw [h1, hre]; rfl
  have hfx : foldX (r .o) = some [exX] := by rw [h1]; exact foldX_recs exX_ok.up
  cbv
  refine xfrom_c ins_c r (by omega) (fun x hx => by rw [h1] at hx; exact recsX_small exX_ok x hx) (fun _ _ _ _ _ _ _ _ => trivial) (fun l hl hok => ?_) (fun h => (h _ hfx exX_ok).elim)
  have hl : l .o = [exX] := by rw [hfx] at hl; exact (Option.some.inj hl).symm
  cbv
  refine one (recs_c (fun _ => [exX]) (by unfold short; decide) hlx fun r2 h2 _ => ?_)
  have h2 : r2 .o = recsX [exX] := h2 exX_ok
  have h2l : zi (r2 .o).length = 2 := by rw [h2, hre]; rfl
  cbv
  refine br_is (decide_eq_true h2l) ?_
  cbv
  refine err_c (fun _ => 0) ?_
  cbv
  refine br_is (decide_eq_true (rfl : (0 : Int) = 0)) ?_
  cbv
  refine CallAt.args (.cons (Same.refl _) (.cons exX_same .nil)) (xsame_c l (fun _ => [exX]) (by rw [hl]; unfold short; decide) fun b hb => ?_)
  cbv
  exact hr b (hb.2 hl)
end Go.Proofs.Ytjjddmbnfkmfdaa
/- Names with values out of records, by the document: r9.IsXattr, r9.FromRecs; l13.Few. -/
namespace Go.Proofs.Ytjjddmbnfkmfdaa
open Go Go.Proofs.Ytjjddmbnfkmfdaa.Sx F
set_option linter.unusedVariables false
set_option linter.unusedSimpArgs false
theorem pre_take {p s : List UInt8} {n : Nat} (hn : p.length = n) : decide (List.drop (0 : Int).toNat (List.take (n : Int).toNat s) = p) = isPre p s := by
  unfold isPre
  rw [hn]
  rfl
theorem pre_short {p s : List UInt8} (h : s.length < p.length) : isPre p s = false := by
  unfold isPre
  refine decide_eq_false fun q => ?_
  have := congrArg List.length q
  rw [List.length_take] at this
  omega
theorem isx_c (k : Th (List UInt8)) {d : Nat} {K : ARes → BL → Prop} (hr : ∀ b : Th Bool, b .o = (isPre schS (k .o) || isPre libS (k .o)) → K (.ret (.bool b)) .nil) : CallAt PT r9_IsXattr [.str k] d .nil K := by
  refine CallAt.res ?_
  refine r9_IsXattr.of rfl rfl ?_
  cbv
  ((try refine br_rev ?_); (first | refine br_dec (fun h1 => ?_) (fun h1 => ?_) | refine br_ndec (fun h1 => ?_) (fun h1 => ?_) | refine br_nbool (fun h1 => ?_) (fun h1 => ?_) | refine br_bool (fun h1 => ?_) (fun h1 => ?_)); all_goals (try dsimp only at h1); all_goals (try with_reducible replace h1 := zi_lt.1 h1); all_goals (try with_reducible replace h1 := not_zlt h1)) <;> cbv
  · refine safe ⟨Int.le_refl _, by decide, h1⟩ ?_
    have hd := pre_take (p := schS) (s := k .o) (n := 13) rfl
    cbv
    refine ⟨fun h2 => ?_, fun h2 => ?_⟩
    · have h2 : isPre schS (k .o) = false := hd.symm.trans h2
      cbv
      ((try refine br_rev ?_); (first | refine br_dec (fun h3 => ?_) (fun h3 => ?_) | refine br_ndec (fun h3 => ?_) (fun h3 => ?_) | refine br_nbool (fun h3 => ?_) (fun h3 => ?_) | refine br_bool (fun h3 => ?_) (fun h3 => ?_)); all_goals (try dsimp only at h3); all_goals (try with_reducible replace h3 := zi_lt.1 h3); all_goals (try with_reducible replace h3 := not_zlt h3)) <;> cbv
      · refine safe ⟨Int.le_refl _, by decide, h3⟩ ?_
        have hd := pre_take (p := libS) (s := k .o) (n := 17) rfl
        cbv
        exact ⟨_, .ret (Same.refl _), hr (fun _ => _) (by show decide _ = _; rw [h2]; exact hd)⟩
      · exact ⟨_, .ret (.ff rfl), hr (fun _ => false) (by rw [h2, pre_short (p := libS) (by show (k .o).length < 17; unfold zi at h3; omega)]; rfl)⟩
    · have h2 : isPre schS (k .o) = true := hd.symm.trans h2
      cbv
      exact ⟨_, .ret (.tt rfl), hr (fun _ => true) (by rw [h2]; rfl)⟩
  · have h2 : isPre schS (k .o) = false := pre_short (p := schS) (by show (k .o).length < 13; unfold zi at h1; omega)
    ((try refine br_rev ?_); (first | refine br_dec (fun h3 => ?_) (fun h3 => ?_) | refine br_ndec (fun h3 => ?_) (fun h3 => ?_) | refine br_nbool (fun h3 => ?_) (fun h3 => ?_) | refine br_bool (fun h3 => ?_) (fun h3 => ?_)); all_goals (try dsimp only at h3); all_goals (try with_reducible replace h3 := zi_lt.1 h3); all_goals (try with_reducible replace h3 := not_zlt h3)) <;> cbv
    · refine safe ⟨Int.le_refl _, by decide, h3⟩ ?_
      have hd := pre_take (p := libS) (s := k .o) (n := 17) rfl
      cbv
      exact ⟨_, .ret (Same.refl _), hr (fun _ => _) (by show decide _ = _; rw [h2]; exact hd)⟩
    · exact ⟨_, .ret (.ff rfl), hr (fun _ => false) (by rw [h2, pre_short (p := libS) (by show (k .o).length < 17; unfold zi at h3; omega)]; rfl)⟩
theorem few_c (l : Th (List Xattr)) (hl : short (l .o)) {d : Nat} {K : ARes → BL → Prop} (hr : ∀ b : Th Bool, (b .o = true → (l .o).length ≤ 40 ∧ ∀ x ∈ l .o, x.name.length ≤ 400 ∧ x.value.length ≤ 5000) → K (.ret (.bool b)) .nil) : CallAt PT l13_Few [xattrs l] d .nil K := by
  refine CallAt.res ?_
  refine l13_Few.of rfl rfl ?_
  cbv
  have no : ∃ r', SameR (.ret .ff) r' ∧ K r' .nil := ⟨_, .ret (.ff rfl), hr (fun _ => false) fun q => (by cases q)⟩
  refine loop_rule (X := Nat) 1000 [0] [] (fun k => .cons 3 (.int .i64 fun _ => zi k) .nil) (fun _ => .nil) (fun k => k ≤ (l .o).length ∧ k ≤ 40 ∧ ∀ j, j < k → ((l .o).getD j Xattr.z).name.length ≤ 400 ∧ ((l .o).getD j Xattr.z).value.length ≤ 5000) (fun k => (l .o).length - k) 0 ?_ ⟨Nat.zero_le _, by decide, fun j hj => by omega⟩ ?_
  · cbv
    (repeat' (first | exact True.intro | exact Same.refl _ | exact SameB.refl _ | exact ⟨rfl⟩ | exact Same.int rfl | exact Same.str rfl | exact Same.bool rfl | (refine Same.int ?_; simp only [List.length_append, List.length_cons, List.length_nil, zi]; omega) | (refine SameB.row' rfl fun i hi => ?_; first | rfl | exact absurd hi (Nat.not_lt_zero _)) | refine And.intro ?_ ?_ | refine SameB.cells ?_ | exact SameC.nil | refine SameC.cons ?_ ?_ | exact Same.nsl rfl | exact Same.tt rfl | exact Same.ff rfl))
  · rintro k ⟨hk, hk40, hj⟩
    have hz := zi_toNat k
    cbv
    ((try refine br_rev ?_); (first | refine br_dec (fun h1 => ?_) (fun h1 => ?_) | refine br_ndec (fun h1 => ?_) (fun h1 => ?_) | refine br_nbool (fun h1 => ?_) (fun h1 => ?_) | refine br_bool (fun h1 => ?_) (fun h1 => ?_)); all_goals (try dsimp only at h1); all_goals (try with_reducible replace h1 := zi_lt.1 h1); all_goals (try with_reducible replace h1 := not_zlt h1)) <;> cbv
    · refine br_dec (fun h2 => ?_) (fun h2 => ?_)
      · have h2 : k < 40 := by unfold zi at h2; omega
        cbv
        refine safe ⟨zi_nonneg _, zi_lt.2 h1⟩ ?_
        cbv
        refine ⟨fun h3 => ?_, fun h3 => ?_⟩
        · have h3 : ¬ (400 < zi ((l .o).getD (zi k).toNat Xattr.z).name.length) := of_decide_eq_false h3
          rw [hz] at h3
          cbv
          refine safe ⟨zi_nonneg _, zi_lt.2 h1⟩ ?_
          cbv
          refine br_dec (fun h4 => ?_) (fun h4 => ?_)
          · cbv
            exact no
          · have h4 : ¬ (5000 < zi ((l .o).getD (zi k).toNat Xattr.z).value.length) := h4
            rw [hz] at h4
            cbv
            refine ⟨k + 1, ⟨h1, h2, fun j hj' => ?_⟩, by omega, ?_⟩
            · by_cases e : j = k
              · subst e
                unfold zi at h3 h4
                exact ⟨by omega, by omega⟩
              · exact hj j (by omega)
            · cbv
              rw [zi_succ (by omega)]
              (repeat' (first | exact True.intro | exact Same.refl _ | exact SameB.refl _ | exact ⟨rfl⟩ | exact Same.int rfl | exact Same.str rfl | exact Same.bool rfl | (refine Same.int ?_; simp only [List.length_append, List.length_cons, List.length_nil, zi]; omega) | (refine SameB.row' rfl fun i hi => ?_; first | rfl | exact absurd hi (Nat.not_lt_zero _)) | refine And.intro ?_ ?_ | refine SameB.cells ?_ | exact SameC.nil | refine SameC.cons ?_ ?_ | exact Same.nsl rfl | exact Same.tt rfl | exact Same.ff rfl))
        · cbv
          exact no
      · have h2 : k = 40 := by unfold zi at h2; omega
        subst h2
        cbv
        exact ⟨_, .ret (Same.refl _), hr _ fun q => by have q := of_decide_eq_true q; unfold zi at q; omega⟩
    · have h1 : k = (l .o).length := by omega
      subst h1
      cbv
      exact ⟨_, .ret (Same.refl _), hr _ fun q => ⟨hk40, fun x hx => by
        obtain ⟨j, hj1, rfl⟩ := List.getElem_of_mem hx
        have := hj j hj1
        rwa [List.getD_eq_getElem?_getD, List.getElem?_eq_getElem hj1] at this⟩⟩
theorem pre_at {p s : List UInt8} {c : UInt8} (h : isPre p s = true) (h0 : p.head? = some c) : s.getD 0 0 = c ∧ p.length ≤ s.length := by
  have q := of_decide_eq_true h
  cases s with
  | nil => rw [← q] at h0; simp at h0
  | cons a r =>
    have hl := congrArg List.length q
    rw [List.length_take] at hl
    refine ⟨?_, by omega⟩
    cases p with
    | nil => cases h0
    | cons b u => simp at q h0; simp [q.1, h0]
/-- A loop at whose end the row q is shut. -/
theorem loop_shut {C : Cx} {b : RC} {k : List It} {s : St} {X : Type} (q : Nat) (F : Nat) (ks bs : List Nat) (T : St → X → AL) (B : St → X → BL) (R : X → Prop) (m : X → Nat) (x0 : X)
    (h0 : fit s (s.head ks bs (T s x0) (B s x0))) (hR : R x0)
    (step : ∀ x, R x → awp C F (.code b :: .inv (fun s' => ∃ x', R x' ∧ m x' < m x ∧ fit (s'.shut1 q) (s.head ks bs (T s x') (B s x'))) :: k) (s.head ks bs (T s x) (B s x))) :
    Sound C (.code (.loop b) :: k) s := by
  refine ⟨fun E0 B0 hB0 E a hr c' hc' => ?_⟩
  obtain ⟨b', rfl, hb⟩ := res_inv hc'
  refine wp_loop' (fun n a w => ∃ x E, R x ∧ m x = n ∧ Rel C.N E0 B0 E (s.head ks bs (T s x) (B s x)) a ∧ E.w = w) ?_ (n := m x0) ⟨x0, E, hR, rfl, hr.fit hB0 h0, rfl⟩
  rintro n a w ⟨x, E, hRx, rfl, hrel, rfl⟩
  have := (awp_sound F _ _ (step x hRx)).run E0 B0 hB0 E a hrel b' hb
  refine wp_mono this fun e a w hq => ?_
  cases e with
  | normal =>
    obtain ⟨E', s', hr', rfl, x', h1, h2, h3⟩ := hq
    obtain ⟨E'', hw, _, _, _, hr''⟩ := hr'.shut1 hB0 q
    exact ⟨m x', h2, x', E'', h1, rfl, hr''.fit hB0 h3, hw⟩
  | _ => exact hq
theorem fromrecs_c (rs : Th (List Xattr)) (hrs : (rs .o).length ≤ 1000) (hsm : ∀ r ∈ rs .o, SmallX 100000 r) {d : Nat} {K : ARes → BL → Prop}
    (hr : ∀ (l : Th (List Xattr)) (e : Th Int), (foldX (rs .o) = some (l .o) ∧ XsOk (l .o) ∧ e .o = 0) ∨ (l .o = [] ∧ e .o = 4 ∧ ∀ l', foldX (rs .o) = some l' → ¬ XsOk l') → K (.ret (.agg (.cons (xattrs l) (.cons (.int .i64 e) .nil)))) .nil) : CallAt PT r9_FromRecs [xattrs rs] d .nil K := by
  refine CallAt.res ?_
  have bad : (∀ l', foldX (rs .o) = some l' → ¬ XsOk l') → ∃ r', SameR (.ret (.agg (.cons .nsl (.cons (.int .i64 fun _ => 4) .nil)))) r' ∧ K r' .nil := fun h => ⟨_, .ret (.agg (.cons (.nsl rfl) (.cons (Same.refl _) .nil))), hr (fun _ => []) (fun _ => 4) (.inr ⟨rfl, rfl, h⟩)⟩
  refine r9_FromRecs.of rfl rfl ?_
  cbv
  refine loop_shut (X := Nat × List Xattr) 104 1000 [0, 2] [2] (fun _ x => .cons 3 (xattrs fun _ => x.2) (.cons 4 (.int .i64 fun _ => zi x.1) .nil)) (fun _ x => .nil)
    (fun x => x.1 ≤ (rs .o).length ∧ foldX ((rs .o).take x.1) = some x.2 ∧ x.2.Pairwise ltX ∧ x.2.length ≤ x.1 ∧ ∀ y ∈ x.2, SmallX 100000 y) (fun x => (rs .o).length - x.1) (0, []) ?_ ⟨Nat.zero_le _, rfl, List.Pairwise.nil, Nat.le_refl _, fun y hy => by cases hy⟩ ?_
  · cbv
    (repeat' (first | exact True.intro | exact Same.refl _ | exact SameB.refl _ | exact ⟨rfl⟩ | exact Same.int rfl | exact Same.str rfl | exact Same.bool rfl | (refine Same.int ?_; simp only [List.length_append, List.length_cons, List.length_nil, zi]; omega) | (refine SameB.row' rfl fun i hi => ?_; first | rfl | exact absurd hi (Nat.not_lt_zero _)) | refine And.intro ?_ ?_ | refine SameB.cells ?_ | exact SameC.nil | refine SameC.cons ?_ ?_ | exact Same.nsl rfl | exact Same.tt rfl | exact Same.ff rfl))
  · rintro ⟨k, acc⟩ ⟨hk, hf, hup, hlen, hacc⟩
    dsimp only at hk hf hup hlen hacc
    have hz := zi_toNat k
    cbv
    refine br_zlt (fun h4 => ?_) (fun h4 => ?_)
    · have h4 : k < (rs .o).length := h4
      have hmem : (rs .o).getD k Xattr.z ∈ rs .o := by
        rw [List.getD_eq_getElem?_getD, List.getElem?_eq_getElem h4]; exact List.getElem_mem h4
      have hrr := hsm _ hmem
      have hf1 : foldX ((rs .o).take (k + 1)) = stepX (some acc) ((rs .o).getD k Xattr.z) := by
        rw [List.take_succ_eq_append_getElem h4]
        unfold foldX at hf ⊢
        rw [List.foldl_append, hf]
        rw [List.getD_eq_getElem?_getD, List.getElem?_eq_getElem h4]
        rfl
      have hnone : stepX (some acc) ((rs .o).getD k Xattr.z) = none → ∀ l', foldX (rs .o) = some l' → ¬ XsOk l' := fun h l' hl' => by
        have e : rs .o = (rs .o).take (k + 1) ++ (rs .o).drop (k + 1) := (List.take_append_drop _ _).symm
        have h := hf1.trans h
        unfold foldX at h hl'
        rw [e, List.foldl_append, h, stepX_none] at hl'
        cases hl'
      cbv
      refine safe ⟨zi_nonneg _, zi_lt.2 h4⟩ ?_
      rw [hz]
      generalize hgr : (rs .o).getD k Xattr.z = r at hrr hf1 hnone
      cbv
      refine isx_c (fun _ => r.name) fun b hb => ?_
      have hb : b .o = (isPre schS r.name || isPre libS r.name) := hb
      have hst : stepX (some acc) r = match readX r.name r.value with | none => none | some none => some acc | some (some x) => some (addX x acc) := rfl
      cbv
      refine br_nbool (fun h5 => ?_) (fun h5 => ?_)
      · have h5 : (isPre schS r.name || isPre libS r.name) = false := hb.symm.trans h5
        rw [Bool.or_eq_false_iff] at h5
        have hR : readX r.name r.value = some none := by unfold readX; rw [if_neg (by rw [h5.1]; simp), if_neg (by rw [h5.2]; simp)]
        rw [hR] at hst
        cbv
        refine ⟨(k + 1, acc), ⟨h4, hf1.trans hst, hup, by show acc.length ≤ k + 1; omega, hacc⟩, by show (rs .o).length - (k + 1) < (rs .o).length - k; omega, ?_⟩
        cbv
        rw [zi_succ (by omega)]
        (repeat' (first | exact True.intro | exact Same.refl _ | exact SameB.refl _ | exact ⟨rfl⟩ | exact Same.int rfl | exact Same.str rfl | exact Same.bool rfl | (refine Same.int ?_; simp only [List.length_append, List.length_cons, List.length_nil, zi]; omega) | (refine SameB.row' rfl fun i hi => ?_; first | rfl | exact absurd hi (Nat.not_lt_zero _)) | refine And.intro ?_ ?_ | refine SameB.cells ?_ | exact SameC.nil | refine SameC.cons ?_ ?_ | exact Same.nsl rfl | exact Same.tt rfl | exact Same.ff rfl))
      · have h5 : (isPre schS r.name || isPre libS r.name) = true := hb.symm.trans h5
        have hn13 : 13 ≤ r.name.length := by
          rcases Bool.or_eq_true_iff.1 h5 with q | q
          · exact (pre_at (c := 83) q rfl).2
          · have := (pre_at (c := 76) q rfl).2
            exact Nat.le_trans (by decide) this
        cbv
        refine safe ⟨zi_nonneg _, zi_lt.2 h4⟩ ?_
        simp only [hz, hgr]
        refine safe ⟨by decide, by show (13 : Int) ≤ zi r.name.length; unfold zi; omega, Int.le_refl _⟩ ?_
        refine safe ⟨zi_nonneg _, zi_lt.2 h4⟩ ?_
        have hd13 : List.drop (13 : Int).toNat (List.take (zi r.name.length).toNat r.name) = r.name.drop 13 := by rw [zi_toNat, List.take_length]; rfl
        cbv
        refine safe ⟨zi_nonneg _, zi_lt.2 h4⟩ ?_
        refine safe ⟨Int.le_refl _, by show (0 : Int) < zi r.name.length; unfold zi; omega⟩ ?_
        refine br_dec ?w1 ?w2
        case' w1 =>
          intro h6
          have h6 : (r.name.getD 0 0).toNat = 76 := by have h6 : zi (r.name.getD 0 0).toNat = 76 := h6; unfold zi at h6; omega
          have hs : isPre schS r.name = false := by
            refine Bool.eq_false_iff.2 fun q => ?_
            rw [(pre_at (c := 83) q rfl).1] at h6
            cases h6
          have hl : isPre libS r.name = true := by rw [hs] at h5; exact h5
          have hn17 : 17 ≤ r.name.length := (pre_at (c := 76) hl rfl).2
          have hd17 : List.drop (17 : Int).toNat (List.take (zi r.name.length).toNat r.name) = r.name.drop 17 := by rw [zi_toNat, List.take_length]; rfl
          have hR1 : readX r.name r.value = (match unE (r.name.drop 17), unX r.value with
            | some n, some u => some (some ⟨n, u⟩)
            | _, _ => none) := by unfold readX; rw [if_neg (by rw [hs]; simp), if_pos hl]; try rfl
          cbv
          refine safe ⟨zi_nonneg _, zi_lt.2 h4⟩ ?_
          simp only [hz, hgr]
          refine safe ⟨by decide, by show (17 : Int) ≤ zi r.name.length; unfold zi; omega, Int.le_refl _⟩ ?_
          refine safe ⟨zi_nonneg _, zi_lt.2 h4⟩ ?_
          simp only [hd17]
          cbv
          have hrn := hrr.name
          have hrv := hrr.value
          refine getescape_c (fun _ => r.name.drop 17) (by show (List.drop 17 r.name).length ≤ _; rw [List.length_drop]; omega) fun n bn hn => ?_
          cbv
          refine getsixty_c (fun _ => r.value) (by show r.value.length ≤ _; omega) fun u bu hu => ?_
          have hn := hn.fn
          have hu := hu.fn
          have hfin : (¬ (bn .o = true ∧ bu .o = true)) → stepX (some acc) r = none := fun q => by
            have hR : readX r.name r.value = none := by
              rw [hR1]
              rcases hn with ⟨q1, e1⟩ | ⟨q1, _, e1⟩
              · rcases hu with ⟨q2, e2⟩ | ⟨q2, _, e2⟩
                · exact absurd ⟨q1, q2⟩ q
                · rw [e1, e2]
              · rw [e1]
            rw [hst, hR]
          have hgood : bn .o = true → bu .o = true → readX r.name r.value = some (some ⟨n .o, u .o⟩) := fun q1 q2 => by
            rw [hR1]
            rcases hn with ⟨_, e1⟩ | ⟨q, _⟩
            · rcases hu with ⟨_, e2⟩ | ⟨q, _⟩
              · rw [e1, e2]
              · rw [q2] at q; cases q
            · rw [q1] at q; cases q
          cbv
          refine ⟨?g1, fun h => by
            have hbn : bn .o = false := by have h : (!bn .o) = true := h; simpa using h
            cbv
            exact bad (hnone (hfin fun q => by rw [hbn] at q; cases q.1))⟩
          case' g1 =>
            intro h
            have hbn : bn .o = true := by have h : (!bn .o) = false := h; simpa using h
            cbv
            refine br_nbool ?g2 ?g3
            case g2 =>
              intro h7
              have h7 : bu .o = false := h7
              cbv
              exact bad (hnone (hfin fun q => by rw [h7] at q; cases q.2))
            case' g3 =>
              intro h7
              have h7 : bu .o = true := h7
              have hR := hgood hbn h7
              cbv
        case' w2 =>
          intro h6
          have h6 : ¬ (r.name.getD 0 0).toNat = 76 := fun q => h6 (by show zi (r.name.getD 0 0).toNat = 76; rw [q]; rfl)
          have hs : isPre schS r.name = true := by
            rcases Bool.or_eq_true_iff.1 h5 with q | q
            · exact q
            · exact absurd (by rw [(pre_at (c := 76) q rfl).1]; rfl) h6
          have hR : readX r.name r.value = some (some ⟨r.name.drop 13, r.value⟩) := by unfold readX; rw [if_pos hs]
          obtain ⟨n, hnn⟩ : ∃ n : Th (List UInt8), n .o = r.name.drop 13 := ⟨fun _ => _, rfl⟩
          obtain ⟨u, huu⟩ : ∃ u : Th (List UInt8), u .o = r.value := ⟨fun _ => _, rfl⟩
          have hR : readX r.name r.value = some (some ⟨n .o, u .o⟩) := by rw [hR, hnn, huu]
          have hun : (fun _ : O1 => List.drop (13 : Int).toNat (List.take (zi r.name.length).toNat r.name)) = n := by funext _; rw [hd13, ← hnn]
          have huv : (fun _ : O1 => r.value) = u := by funext _; rw [← huu]
          cbv
        all_goals
          rw [hR] at hst
          refine loop_at (X := Nat) 1000 [0, 2, 3, 4, 5] [2] (fun _ j => .cons 8 (.int .i64 fun _ => zi j) .nil) (fun _ _ => .cons 5 (.cells (.cons (.str n) (.cons (.str u) .nil))) .nil) (fun j => j ≤ acc.length ∧ ∀ i, i < j → strLt (acc.getD i Xattr.z).name (n .o) = true) (fun j => acc.length - j) 0 ?_ ⟨Nat.zero_le _, fun i hi => by omega⟩ ?_
          · cbv
            (repeat' (first | exact True.intro | exact Same.refl _ | exact SameB.refl _ | exact ⟨rfl⟩ | exact Same.int rfl | exact Same.str rfl | exact Same.bool rfl | (refine Same.int ?_; simp only [List.length_append, List.length_cons, List.length_nil, zi]; omega) | (refine SameB.row' rfl fun i hi => ?_; first | rfl | exact absurd hi (Nat.not_lt_zero _)) | refine And.intro ?_ ?_ | refine SameB.cells ?_ | exact SameC.nil | refine SameC.cons ?_ ?_ | exact Same.nsl rfl | exact Same.tt rfl | exact Same.ff rfl))
            all_goals (refine Same.str ?_; first | exact hd13.trans hnn.symm | exact huu.symm)
          · rintro j ⟨hj, hjl⟩
            have fin : (j < acc.length → ¬ strLt (acc.getD j Xattr.z).name (n .o) = true) → addX ⟨n .o, u .o⟩ acc = acc.take j ++ ⟨n .o, u .o⟩ :: (if j < acc.length ∧ (acc.getD j Xattr.z).name = n .o then acc.drop (j + 1) else acc.drop j) := addX_at ⟨n .o, u .o⟩ acc j hj hjl
            have hjz := zi_toNat j
            have hjm : j ≤ acc.length := hj
            cbv
            ((try refine br_rev ?_); (first | refine br_dec (fun h1 => ?_) (fun h1 => ?_) | refine br_ndec (fun h1 => ?_) (fun h1 => ?_) | refine br_nbool (fun h1 => ?_) (fun h1 => ?_) | refine br_bool (fun h1 => ?_) (fun h1 => ?_)); all_goals (try dsimp only at h1); all_goals (try with_reducible replace h1 := zi_lt.1 h1); all_goals (try with_reducible replace h1 := not_zlt h1)) <;> cbv
            focus (refine safe ⟨zi_nonneg _, zi_lt.2 (by omega)⟩ ?_; cbv; ((try refine br_rev ?_); (first | refine br_dec (fun h2 => ?_) (fun h2 => ?_) | refine br_ndec (fun h2 => ?_) (fun h2 => ?_) | refine br_nbool (fun h2 => ?_) (fun h2 => ?_) | refine br_bool (fun h2 => ?_) (fun h2 => ?_)); all_goals (try dsimp only at h2); all_goals (try with_reducible replace h2 := zi_lt.1 h2); all_goals (try with_reducible replace h2 := not_zlt h2)) <;> cbv)
            · rw [hjz] at h2
              refine ⟨j + 1, ⟨h1, fun i hi' => ?_⟩, by omega, ?_⟩
              · by_cases he : i = j
                · subst he; exact h2
                · exact hjl i (by omega)
              · cbv
                rw [zi_succ (by omega)]
                (repeat' (first | exact True.intro | exact Same.refl _ | exact SameB.refl _ | exact ⟨rfl⟩ | exact Same.int rfl | exact Same.str rfl | exact Same.bool rfl | (refine Same.int ?_; simp only [List.length_append, List.length_cons, List.length_nil, zi]; omega) | (refine SameB.row' rfl fun i hi => ?_; first | rfl | exact absurd hi (Nat.not_lt_zero _)) | refine And.intro ?_ ?_ | refine SameB.cells ?_ | exact SameC.nil | refine SameC.cons ?_ ?_ | exact Same.nsl rfl | exact Same.tt rfl | exact Same.ff rfl))
            focus (rw [hjz] at h2; replace fin := fin fun _ => by rw [show strLt (acc.getD j Xattr.z).name (n .o) = false from h2]; decide)
            rotate_left
            focus (replace fin := fin fun q => by omega)
            all_goals
              refine safe ⟨zi_nonneg _, zi_le.2 hj, Int.le_refl _⟩ ?_
              refine app_rows0 Xattr.ch Xattr.z (acc.drop j) rfl (by simp [zi]) (fun i hi => by simp only [getD_drop]; rfl) (by simp only [List.length_drop]; omega) ?_
              cbv
              ((try refine br_rev ?_); (first | refine br_dec (fun h3 => ?_) (fun h3 => ?_) | refine br_ndec (fun h3 => ?_) (fun h3 => ?_) | refine br_nbool (fun h3 => ?_) (fun h3 => ?_) | refine br_bool (fun h3 => ?_) (fun h3 => ?_)); all_goals (try dsimp only at h3); all_goals (try with_reducible replace h3 := zi_lt.1 h3); all_goals (try with_reducible replace h3 := not_zlt h3))
            all_goals cbv
            all_goals try (have h3' : 0 < (acc.drop j).length := zi_lt.1 h3; refine safe ⟨Int.le_refl _, h3⟩ ?_; refine safe h3' ?_; cbv; ((try refine br_rev ?_); (first | refine br_dec (fun h8 => ?_) (fun h8 => ?_) | refine br_ndec (fun h8 => ?_) (fun h8 => ?_) | refine br_nbool (fun h8 => ?_) (fun h8 => ?_) | refine br_bool (fun h8 => ?_) (fun h8 => ?_)); all_goals (try dsimp only at h8); all_goals (try with_reducible replace h8 := zi_lt.1 h8); all_goals (try with_reducible replace h8 := not_zlt h8)))
            all_goals cbv
            all_goals have htk : (acc.take j).length = j := by rw [List.length_take]; omega
            all_goals try refine safe ⟨by decide, zi_le.2 h3', Int.le_refl _⟩ ?_
            all_goals
              refine safe ⟨Int.le_refl _, zi_nonneg _, zi_le.2 hj⟩ ?_
              refine app_rows0 Xattr.ch Xattr.z (acc.take j) rfl (by rw [htk]; simp [zi]) (fun i hi => by rw [htk] at hi; simp only [getD_take _ _ _ _ hi]; exact congrArg (fun j => Xattr.ch fun _ => acc.getD j Xattr.z) (by simp)) (by rw [htk]; omega) ?_
              cbv
              refine app_one Xattr.ch Xattr.z _ ⟨n .o, u .o⟩ rfl (fun i hi => rfl) rfl rfl (by rw [htk]; omega) ?_
              cbv
            all_goals
              have hnm := readX_small hrr.name hrr.value hR
              have hnew : ∀ y ∈ addX ⟨n .o, u .o⟩ acc, SmallX 100000 y := fun y hy => (addX_mem hy).elim (fun e => e ▸ hnm) (hacc y)
              have hnl := addX_len ⟨n .o, u .o⟩ acc
              have hnu := addX_up ⟨n .o, u .o⟩ acc hup
            all_goals first
              | (refine app_rows Xattr.ch Xattr.z (acc.take j ++ [⟨n .o, u .o⟩]) (acc.drop j) rfl (fun i hi => rfl) rfl (fun i hi => rfl) (by rw [List.length_append, htk, List.length_drop]; simp only [List.length_cons, List.length_nil]; omega) ?_
                 have hadd : addX ⟨n .o, u .o⟩ acc = acc.take j ++ [⟨n .o, u .o⟩] ++ acc.drop j := by
                   rw [fin, if_neg (by
                     rintro ⟨q1, q2⟩
                     first
                     | exact h8 (by simpa [getD_drop] using q2)
                     | exact h3 ((zi_lt (a := 0)).2 (by rw [List.length_drop]; omega)))]
                   simp
                 rw [← hadd]
                 cbv
                 refine ⟨(k + 1, addX ⟨n .o, u .o⟩ acc), ⟨h4, hf1.trans hst, hnu, by show (addX _ acc).length ≤ k + 1; omega, hnew⟩, by show (rs .o).length - (k + 1) < (rs .o).length - k; omega, ?_⟩
                 cbv
                 rw [zi_succ (by omega)]
                 (repeat' (first | exact True.intro | exact Same.refl _ | exact SameB.refl _ | exact ⟨rfl⟩ | exact Same.int rfl | exact Same.str rfl | exact Same.bool rfl | (refine Same.int ?_; simp only [List.length_append, List.length_cons, List.length_nil, zi]; omega) | (refine SameB.row' rfl fun i hi => ?_; first | rfl | exact absurd hi (Nat.not_lt_zero _)) | refine And.intro ?_ ?_ | refine SameB.cells ?_ | exact SameC.nil | refine SameC.cons ?_ ?_ | exact Same.nsl rfl | exact Same.tt rfl | exact Same.ff rfl))
                 done)
              | (refine app_rows Xattr.ch Xattr.z (acc.take j ++ [⟨n .o, u .o⟩]) (acc.drop (j + 1)) rfl (fun i hi => rfl) (by simp [zi]; omega) (fun i hi => by simp only [getD_drop]; exact congrArg (fun j => Xattr.ch fun _ => acc.getD j Xattr.z) (by simp [Nat.add_assoc])) (by simp only [List.length_append, htk, List.length_drop, List.length_cons, List.length_nil]; omega) ?_
                 have hadd : addX ⟨n .o, u .o⟩ acc = acc.take j ++ [⟨n .o, u .o⟩] ++ acc.drop (j + 1) := by
                   rw [fin, if_pos ⟨by rw [List.length_drop] at h3'; omega, by simpa [getD_drop] using h8⟩]
                   simp
                 rw [← hadd]
                 cbv
                 refine ⟨(k + 1, addX ⟨n .o, u .o⟩ acc), ⟨h4, hf1.trans hst, hnu, by show (addX _ acc).length ≤ k + 1; omega, hnew⟩, by show (rs .o).length - (k + 1) < (rs .o).length - k; omega, ?_⟩
                 cbv
                 rw [zi_succ (by omega)]
                 (repeat' (first | exact True.intro | exact Same.refl _ | exact SameB.refl _ | exact ⟨rfl⟩ | exact Same.int rfl | exact Same.str rfl | exact Same.bool rfl | (refine Same.int ?_; simp only [List.length_append, List.length_cons, List.length_nil, zi]; omega) | (refine SameB.row' rfl fun i hi => ?_; first | rfl | exact absurd hi (Nat.not_lt_zero _)) | refine And.intro ?_ ?_ | refine SameB.cells ?_ | exact SameC.nil | refine SameC.cons ?_ ?_ | exact Same.nsl rfl | exact Same.tt rfl | exact Same.ff rfl))
                 done)
    · have h4 : (rs .o).length ≤ k := h4
      rw [List.take_of_length_le h4] at hf
      cbv
      refine xsmay9_c (fun _ => acc) (by unfold short; omega) (fun y hy => by have := (hacc y hy).name; omega) fun b hb => ?_
      cbv
      refine br_nbool (fun h5 => ?_) (fun h5 => ?_)
      · have h5 : ¬ XsOk acc := fun q => by have := hb.2 q; rw [this] at h5; cases h5
        cbv
        exact bad (fun l hl => by rw [hf] at hl; cases hl; exact h5)
      · have h5 : XsOk acc := hb.1 h5
        cbv
        exact ⟨_, .ret (.refl _), hr (fun _ => acc) (fun _ => 0) (.inl ⟨hf, h5, rfl⟩)⟩
end Go.Proofs.Ytjjddmbnfkmfdaa
/- Arguments of the program's own kinds, opened: what is kept of a file, who asks. -/
namespace Go.Proofs.Ytjjddmbnfkmfdaa
open Go Go.Proofs.Ytjjddmbnfkmfdaa.Sx
set_option linter.unusedVariables false
theorem th_eta {α : Type} (x : Th α) : (fun _ => x .o) = x := funext fun | .o => rfl
theorem rows_eq {α : Type} {ch : Th α → AV} {z : α} {g : Nat → AV} : ∀ m : Nat, (∀ j, j < m → ∃ a : α, g j = ch fun _ => a) → ∃ l : List α, l.length = m ∧ ∀ j, j < m → g j = ch fun _ => l.getD j z
  | 0, _ => ⟨[], rfl, fun j hj => absurd hj (Nat.not_lt_zero _)⟩
  | m + 1, h => by
    obtain ⟨l, h1, h2⟩ := rows_eq (z := z) m fun j hj => h j (by omega)
    obtain ⟨a, ha⟩ := h m (by omega)
    refine ⟨l ++ [a], by simp [h1], fun j hj => ?_⟩
    by_cases q : j < m
    · rw [h2 j q]
      congr 1
      funext _
      simp only [List.getD_eq_getElem?_getD]
      rw [List.getElem?_append_left (by omega)]
    · obtain rfl : j = m := by omega
      rw [ha]
      congr 1
      funext _
      simp [List.getD_eq_getElem?_getD, h1]
def xatC : CS := .s (.s .nil)
theorem xat_of {c : AV} (h : Shape xatC c) : ∃ a : Xattr, c = Xattr.ch fun _ => a := by
  obtain ⟨x, _, rfl, _, y, _, rfl, _, rfl⟩ := h
  refine ⟨⟨x .o, y .o⟩, ?_⟩
  show _ = AV.cons (.str fun _ => x .o) (.cons (.str fun _ => y .o) .nil)
  rw [th_eta, th_eta]
end Go.Proofs.Ytjjddmbnfkmfdaa
/- Law XattrAll. -/
namespace Go.Proofs.Ytjjddmbnfkmfdaa
open Go Go.Proofs.Ytjjddmbnfkmfdaa.Sx F
set_option linter.unusedVariables false
set_option linter.unusedSimpArgs false
theorem both {a b : Bool} (h : a = true ↔ b = true) : (a == b) = true := by cases a <;> cases b <;> simp_all
theorem xattrAll_c (l m rs : Th (List Xattr)) (hl : short (l .o)) (hm : short (m .o)) (hrs : short (rs .o)) : CallAt PT l13_XattrAll [xattrs l, xattrs m, xattrs rs] 9999 .nil Yes := by
  refine l13_XattrAll.of rfl rfl ?_
  cbv
  refine few_c l hl fun b1 hb1 => ?_
  cbv
  refine ⟨fun h1 => ?_, fun h1 => ?_⟩
  rotate_left
  · cbv
    refine awake13_c fun b hb => ?_
    cbv
    exact ⟨b, rfl, hb⟩
  have h1 : b1 .o = true := by have h : (!b1 .o) = false := h1; simpa using h
  obtain ⟨hl40, hlx⟩ := hb1 h1
  cbv
  refine few_c m hm fun b2 hb2 => ?_
  cbv
  refine ⟨fun h2 => ?_, fun h2 => ?_⟩
  rotate_left
  · cbv
    refine awake13_c fun b hb => ?_
    cbv
    exact ⟨b, rfl, hb⟩
  have h2 : b2 .o = true := by have h : (!b2 .o) = false := h2; simpa using h
  obtain ⟨hm40, hmx⟩ := hb2 h2
  cbv
  refine br_dec (fun h3 => ?_) (fun h3 => ?_)
  · cbv
    refine awake13_c fun b hb => ?_
    cbv
    exact ⟨b, rfl, hb⟩
  have h3 : (rs .o).length ≤ 60 := by have h3 : ¬ (60 < zi (rs .o).length) := h3; unfold zi at h3; omega
  cbv
  refine loop_rule (X := Nat) 1000 [0, 1, 2] [] (fun k => .cons 7 (.int .i64 fun _ => zi k) .nil) (fun _ => .nil) (fun k => k ≤ (rs .o).length ∧ ∀ j, j < k → ((rs .o).getD j Xattr.z).name.length ≤ 500 ∧ ((rs .o).getD j Xattr.z).value.length ≤ 6000) (fun k => (rs .o).length - k) 0 ?_ ⟨Nat.zero_le _, fun j hj => by omega⟩ ?_
  · cbv
    (repeat' (first | exact True.intro | exact Same.refl _ | exact SameB.refl _ | exact ⟨rfl⟩ | exact Same.int rfl | exact Same.str rfl | exact Same.bool rfl | (refine Same.int ?_; simp only [List.length_append, List.length_cons, List.length_nil, zi]; omega) | (refine SameB.row' rfl fun i hi => ?_; first | rfl | exact absurd hi (Nat.not_lt_zero _)) | refine And.intro ?_ ?_ | refine SameB.cells ?_ | exact SameC.nil | refine SameC.cons ?_ ?_ | exact Same.nsl rfl | exact Same.tt rfl | exact Same.ff rfl))
  · rintro k ⟨hk, hj⟩
    have hz := zi_toNat k
    cbv
    refine br_zlt (fun h4 => ?_) (fun h4 => ?_)
    · cbv
      refine safe ⟨zi_nonneg _, zi_lt.2 h4⟩ ?_
      cbv
      refine ⟨fun h5 => ?_, fun h5 => ?_⟩
      · have h5 : ¬ (500 < zi ((rs .o).getD (zi k).toNat Xattr.z).name.length) := of_decide_eq_false h5
        rw [hz] at h5
        cbv
        refine safe ⟨zi_nonneg _, zi_lt.2 h4⟩ ?_
        cbv
        refine br_dec (fun h6 => ?_) (fun h6 => ?_)
        · cbv
          refine awake13_c fun b hb => ?_
          cbv
          exact ⟨b, rfl, hb⟩
        · have h6 : ¬ (6000 < zi ((rs .o).getD (zi k).toNat Xattr.z).value.length) := h6
          rw [hz] at h6
          cbv
          refine ⟨k + 1, ⟨h4, fun j hj' => ?_⟩, by omega, ?_⟩
          · by_cases e : j = k
            · subst e
              unfold zi at h5 h6
              exact ⟨by omega, by omega⟩
            · exact hj j (by omega)
          · cbv
            rw [zi_succ (by omega)]
            (repeat' (first | exact True.intro | exact Same.refl _ | exact SameB.refl _ | exact ⟨rfl⟩ | exact Same.int rfl | exact Same.str rfl | exact Same.bool rfl | (refine Same.int ?_; simp only [List.length_append, List.length_cons, List.length_nil, zi]; omega) | (refine SameB.row' rfl fun i hi => ?_; first | rfl | exact absurd hi (Nat.not_lt_zero _)) | refine And.intro ?_ ?_ | refine SameB.cells ?_ | exact SameC.nil | refine SameC.cons ?_ ?_ | exact Same.nsl rfl | exact Same.tt rfl | exact Same.ff rfl))
      · cbv
        refine awake13_c fun b hb => ?_
        cbv
        exact ⟨b, rfl, hb⟩
    · have h4 : k = (rs .o).length := by omega
      subst h4
      have hsm : ∀ r ∈ rs .o, SmallX 6000 r := fun x hx => by
        obtain ⟨j, hj1, rfl⟩ := List.getElem_of_mem hx
        have := hj j hj1
        rw [List.getD_eq_getElem?_getD, List.getElem?_eq_getElem hj1] at this
        exact ⟨Nat.le_trans this.1 (by decide), this.2⟩
      have hlong : longX (l .o) := fun x hx => by have := (hlx x hx).1; omega
      cbv
      refine xfrom_c ins_c rs (by omega) (fun r hr => ⟨by have := (hsm r hr).name; omega, by have := (hsm r hr).value; omega⟩) (fun _ _ _ _ _ _ _ _ => trivial) (fun x hx hxo => ?_) (fun hx => ?_)
      · cbv
        refine fromrecs_c rs (by omega) (fun r hr => ⟨by have := (hsm r hr).name; omega, by have := (hsm r hr).value; omega⟩) fun y e hy => ?_
        have hys : short (y .o) := by
          unfold short
          rcases hy with ⟨_, q2, _⟩ | ⟨q1, _, _⟩
          · have := q2.len; omega
          · rw [q1]; exact Nat.zero_le _
        have hye : x .o = y .o ∧ e .o = 0 := by
          rcases hy with ⟨q1, _, q3⟩ | ⟨_, _, q3⟩
          · exact ⟨Option.some.inj (hx.symm.trans q1), q3⟩
          · exact (q3 _ hx hxo).elim
        cbv
        refine xsmay_c l hl hlong fun b3 hb3 => ?_
        cbv
        refine xsmay9_c l hl hlong fun b4 hb4 => ?_
        have e34 : (b3 .o == b4 .o) = true := both (hb3.trans hb4.symm)
        cbv
        refine br_is e34 ?_
        cbv
        refine recs_c l hl hlong fun r1 q1 q2 => ?_
        cbv
        refine recs9_c l hl hlong fun r2 p1 p2 => ?_
        have hrr : r1 .o = r2 .o := by
          by_cases q : XsOk (l .o)
          · rw [q1 q, p1 q]
          · rw [q2 q, p2 q]
        have hrs : short (r1 .o) := by
          unfold short
          by_cases q : XsOk (l .o)
          · rw [q1 q]; have := recsX_len (l .o); omega
          · rw [q2 q]; exact Nat.zero_le _
        cbv
        refine sameRec_c r1 r2 hrs fun b5 hb5 => ?_
        cbv
        refine br_is (hb5.2 hrr) ?_
        cbv
        refine sameX_c x y (by rw [hye.1]; exact hys) fun b6 hb6 => ?_
        cbv
        refine br_is (hb6.2 hye.1) ?_
        cbv
        refine err_c _ ?_
        cbv
        refine br_is (decide_eq_true hye.2.symm) ?_
        cbv
        refine xsame_c l m hl fun b7 hb7 => ?_
        cbv
        refine sameX_c l m hl fun b8 hb8 => ?_
        cbv
        refine br_is (both (hb7.trans hb8.symm)) ?_
        cbv
        refine awake13_c fun b hb => ?_
        cbv
        exact ⟨b, rfl, hb⟩
      · cbv
        refine fromrecs_c rs (by omega) (fun r hr => ⟨by have := (hsm r hr).name; omega, by have := (hsm r hr).value; omega⟩) fun y e hy => ?_
        have hye : ([] : List Xattr) = y .o ∧ e .o = 4 := by
          rcases hy with ⟨q1, q2, _⟩ | ⟨q1, q2, q3⟩
          · exact (hx _ q1 q2).elim
          · exact ⟨q1.symm, q2⟩
        cbv
        refine xsmay_c l hl hlong fun b3 hb3 => ?_
        cbv
        refine xsmay9_c l hl hlong fun b4 hb4 => ?_
        have e34 : (b3 .o == b4 .o) = true := both (hb3.trans hb4.symm)
        cbv
        refine br_is e34 ?_
        cbv
        refine recs_c l hl hlong fun r1 q1 q2 => ?_
        cbv
        refine recs9_c l hl hlong fun r2 p1 p2 => ?_
        have hrr : r1 .o = r2 .o := by
          by_cases q : XsOk (l .o)
          · rw [q1 q, p1 q]
          · rw [q2 q, p2 q]
        have hrs : short (r1 .o) := by
          unfold short
          by_cases q : XsOk (l .o)
          · rw [q1 q]; have := recsX_len (l .o); omega
          · rw [q2 q]; exact Nat.zero_le _
        cbv
        refine sameRec_c r1 r2 hrs fun b5 hb5 => ?_
        cbv
        refine br_is (hb5.2 hrr) ?_
        cbv
        refine CallAt.args (.cons (Same.nsl rfl) (.cons (Same.refl _) .nil)) (sameX_c (fun _ => []) y (by unfold short; exact Nat.zero_le _) fun b6 hb6 => ?_)
        cbv
        refine br_is (hb6.2 hye.1) ?_
        cbv
        refine err_c _ ?_
        cbv
        refine br_is (decide_eq_true hye.2.symm) ?_
        cbv
        refine xsame_c l m hl fun b7 hb7 => ?_
        cbv
        refine sameX_c l m hl fun b8 hb8 => ?_
        cbv
        refine br_is (both (hb7.trans hb8.symm)) ?_
        cbv
        refine awake13_c fun b hb => ?_
        cbv
        exact ⟨b, rfl, hb⟩
theorem arg_xats {c : AV} (h : Shape (.sl xatC .nil) c) : ∃ l : List Xattr, l.length ≤ 140737488351232 ∧ SameC c (.cons (xattrs fun _ => l) .nil) := by
  obtain ⟨n, g, t, rfl, hn, hg, ht⟩ := h
  cases ht
  obtain ⟨l, h1, h2⟩ := rows_eq (ch := Xattr.ch) (z := Xattr.z) (g := fun j => g fun _ => j) (n .o) fun j hj => xat_of (hg j hj)
  exact ⟨l, by omega, .cons (Same.sl h1.symm fun j hj => h2 j hj) .nil⟩
theorem xattrAllL_c (l m rs : Th (List Xattr)) (hl : (l .o).length ≤ 140737488351232) (hm : (m .o).length ≤ 140737488351232) (hrs : (rs .o).length ≤ 140737488351232) : CallAt PT l13_XattrAll [xattrs l, xattrs m, xattrs rs] 9999 .nil Yes :=
  xattrAll_c l m rs (by unfold short; omega) (by unfold short; omega) (by unfold short; omega)
end Go.Proofs.Ytjjddmbnfkmfdaa
