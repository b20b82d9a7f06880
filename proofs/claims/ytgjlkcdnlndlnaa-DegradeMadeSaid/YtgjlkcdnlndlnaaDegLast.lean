/- The law DegradeLast, walked. -/
import Derived.Test.YtgjlkcdnlndlnaaDeg
namespace Go.Proofs.Ytgjlkcdnlndlnaa
open Go Go.Proofs.Ytgjlkcdnlndlnaa.Sx F
set_option linter.unusedVariables false
set_option linter.unusedSimpArgs false

def itemsA : List Item := [⟨[97], 1, 1⟩, ⟨[97], 8, 1⟩]
def entA : Entry := ⟨[97], 1, { metaZ with sec := 7 }, [], [], 0, 0⟩
theorem awake25_c {d : Nat} {K : ARes → BL → Prop} (hr : ∀ b : Th Bool, b .o = true → K (.ret (.bool b)) .nil) : CallAt PT l25_awake [] d .nil K := by
  refine l25_awake.of rfl rfl ?_
  cbv
  have two : Same (AV.sl 3 (fun _ => 2) fun i => elemAt 3 (.cons (.str fun _ => [97]) (.cons (.int .i64 fun _ => 1) (.cons (.int .i64 fun _ => 1) (.cons (.str fun _ => [97]) (.cons (.int .i64 fun _ => 8) (.cons (.int .i64 fun _ => 1) .nil)))))) (i .o)) (items fun _ => itemsA) :=
    .sl rfl fun i hi => by
      have hi : i < 2 := hi
      match i, hi with
      | 0, _ => rfl
      | 1, _ => rfl
  refine CallAt.args (.cons (y := items fun _ => []) (.nsl rfl) (.cons (Same.refl _) (.cons (Same.refl _) .nil))) ?_
  refine degRes_c (fun _ => []) (fun _ => [97]) (fun _ => 1) (by decide) fun n1 hn1 => ?_
  cbv
  have k1 : n1 .o = 0 := hn1
  (first | refine br_is (decide_eq_true k1) ?_ | refine br_not (decide_eq_true k1) ?_ | refine br_rev (br_is (decide_eq_true k1) ?_) | refine br_rev (br_not (decide_eq_true k1) ?_))
  cbv
  refine CallAt.args (.cons two (.cons (Same.refl _) (.cons (Same.refl _) .nil))) ?_
  refine degRes_c (fun _ => itemsA) (fun _ => [97]) (fun _ => 8) (by decide) fun n2 hn2 => ?_
  cbv
  have k2 : n2 .o = 1 := hn2.trans (by decide +kernel)
  (first | refine br_is (decide_eq_true k2) ?_ | refine br_not (decide_eq_true k2) ?_ | refine br_rev (br_is (decide_eq_true k2) ?_) | refine br_rev (br_not (decide_eq_true k2) ?_))
  cbv
  have hent : Same (AV.agg (.cons (.str fun _ => [97]) (.cons (.int .i64 fun _ => 1) (.cons (.int .i64 fun _ => 0) (.cons (.int .i64 fun _ => 0) (.cons (.int .i64 fun _ => 0) (.cons (.int .i64 fun _ => 7) (.cons (.int .i64 fun _ => 0)
    (.cons .nsl (.cons .nsl (.cons .nsl (.cons (.int .i64 fun _ => 0) (.cons (.int .u64 fun _ => 0) (.cons (.int .u64 fun _ => 0) (.cons .ff (.cons (.int .i64 fun _ => 0) (.cons (.int .i64 fun _ => 0) (.cons (.str fun _ => []) (.cons (.str fun _ => [])
    (.cons (.int .i64 fun _ => 0) (.cons (.int .i64 fun _ => 0) .nil))))))))))))))))))))) (Entry.av fun _ => entA) := by
    (repeat' (first | exact Same.refl _ | exact SameC.nil | refine SameC.cons ?_ ?_ | refine Same.agg ?_ | refine Same.tup ?_ | exact Same.nsl rfl | exact Same.tt rfl | exact Same.ff rfl | exact Same.int rfl | exact Same.str rfl | exact Same.bool rfl | refine Same.sl rfl ?_))
  have hcred : Same (AV.agg (.cons (.int .i64 fun _ => 0) (.cons (.int .i64 fun _ => 0) (.cons .nsl (.cons (.int .i64 fun _ => 0) .nil))))) (Cred.av fun _ => credZ) := by
    (repeat' (first | exact Same.refl _ | exact SameC.nil | refine SameC.cons ?_ ?_ | refine Same.agg ?_ | refine Same.tup ?_ | exact Same.nsl rfl | exact Same.tt rfl | exact Same.ff rfl | exact Same.int rfl | exact Same.str rfl | exact Same.bool rfl | refine Same.sl rfl ?_))
  refine CallAt.args (.cons hent (.cons hcred (.cons two .nil))) ?_
  refine deg_c (fun _ => entA) (fun _ => credZ) (fun _ => itemsA) ⟨⟨by unfold short; decide, by unfold short; decide, by decide⟩, by decide, by decide, by decide⟩ fun m hm => ?_
  cbv
  have k3 : (m .o).sec = 7 := by rw [hm]; decide +kernel
  exact hr _ (decide_eq_true k3)

def pathN (n : Int) : List UInt8 := ([fun _ => [112], fun _ => [113], fun _ => [112, 47, 113]] : List (Th (List UInt8))).getD (n.tmod 3).toNat (fun _ => [112]) .o
def itemN (n : Int) : Item := ⟨pathN n, IntKind.i64.wrap (1 + (IntKind.i64.wrap ((IntKind.i64.wrap n).tdiv 3)).tmod 4), IntKind.i64.wrap (1 + (IntKind.i64.wrap ((IntKind.i64.wrap n).tdiv 12)).tmod 4)⟩
def itemsN (ns : List Int) (k : Nat) : List Item := (ns.take k).map itemN
theorem lastR_snoc (l : List Item) (x : Item) (p : List UInt8) (a : Int) : lastR (l ++ [x]) p a = if hit p a x = true then x.res else lastR l p a := by
  unfold lastR hit
  rw [List.reverse_append, List.reverse_cons, List.reverse_nil, List.nil_append, List.cons_append, List.nil_append, List.find?_cons]
  split
  · rename_i h; rw [if_pos h]; rfl
  · rename_i h; rw [if_neg (by rw [h]; decide)]
theorem itemsN_succ (ns : List Int) (k : Nat) (h : k < ns.length) : itemsN ns (k + 1) = itemsN ns k ++ [itemN (ns.getD k 0)] := by
  unfold itemsN
  rw [List.take_add_one, List.getElem?_eq_getElem h, List.getD_eq_getElem?_getD, List.getElem?_eq_getElem h]
  simp only [List.map_append, Option.toList_some, List.map_cons, List.map_nil, Option.getD_some]
theorem pathN_ne (n : Int) : pathN n ≠ [110, 111, 110, 101] := by
  unfold pathN
  generalize (n.tmod 3).toNat = j
  match j with
  | 0 | 1 | 2 => decide
  | j + 3 => exact (by decide : ([112] : List UInt8) ≠ [110, 111, 110, 101])
theorem lastR_no {l : List Item} {p : List UInt8} {a : Int} (h : ∀ x ∈ l, x.path ≠ p) : lastR l p a = 0 := by
  unfold lastR
  rw [List.find?_eq_none.2 fun x hx => by simpa using fun q => absurd q (h x (List.mem_reverse.1 hx))]
  rfl
theorem degradeLast_c (rs : Th (List Int)) (at' : Th Int) (hns : isBytes (rs .o)) (hs : short (rs .o)) (ha : 0 ≤ at' .o ∧ at' .o < 256) {d : Nat} :
    CallAt PT l25_DegradeLast [byteI rs, .int .u8 at'] d .nil fun r _ => ∃ b : Th Bool, r = .ret (.bool b) ∧ b .o = true := by
  obtain ⟨g, hg⟩ : ∃ g : Nat → Int, ∀ i, (rs .o).getD i 0 = g i := ⟨fun i => (rs .o).getD i 0, fun _ => rfl⟩
  refine CallAt.args (.cons (y := .sl 1 (fun _ => (rs .o).length) fun i => .cons (.int .u8 fun _ => g (i .o)) .nil) (.sl rfl fun i hi => by simp only [hg]) (.cons (Same.refl _) .nil)) ?_
  refine l25_DegradeLast.of rfl rfl ?_
  cbv
  refine nil_tmp 5 9000 3 (fun i => Item.ch fun _ => ([] : List Item).getD (i .o) Item.z) rfl rfl ?_
  refine loop_at (X := Nat) 1000 [0, 1] [] (fun _ k => .cons 5 (.row 9000) (.cons 6 (.int .i64 fun _ => lastR (itemsN (rs .o) k) [112] 2) (.cons 7 (.int .i64 fun _ => zi k) .nil))) (fun _ k => .cons 9000 (rowB 3 Item.ch Item.z fun _ => itemsN (rs .o) k) .nil) (fun k => k ≤ (rs .o).length ∧ k ≤ 40) (fun k => (rs .o).length - k) 0 ?_ ⟨Nat.zero_le _, by decide⟩ ?_
  · cbv
    (repeat' (first | exact True.intro | exact Same.refl _ | exact SameB.refl _ | exact ⟨rfl⟩ | exact Same.int rfl | exact Same.str rfl | exact Same.bool rfl | (refine Same.int ?_; simp only [List.length_append, List.length_cons, List.length_nil, zi]; omega) | (refine SameB.row' rfl fun i hi => ?_; first | rfl | exact absurd hi (Nat.not_lt_zero _)) | refine And.intro ?_ ?_ | refine SameB.cells ?_ | exact SameC.nil | refine SameC.cons ?_ ?_ | exact Same.nsl rfl | exact Same.tt rfl | exact Same.ff rfl))
  · rintro k ⟨hk, hk4⟩
    cbv
    ((try refine br_rev ?_); (first | refine br_dec (fun h1 => ?_) (fun h1 => ?_) | refine br_ndec (fun h1 => ?_) (fun h1 => ?_) | refine br_nbool (fun h1 => ?_) (fun h1 => ?_) | refine br_bool (fun h1 => ?_) (fun h1 => ?_)); all_goals (try dsimp only at h1); all_goals (try with_reducible replace h1 := zi_lt.1 h1); all_goals (try with_reducible replace h1 := not_zlt h1))
    · cbv
      ((try refine br_rev ?_); (first | refine br_dec (fun h2 => ?_) (fun h2 => ?_) | refine br_ndec (fun h2 => ?_) (fun h2 => ?_) | refine br_nbool (fun h2 => ?_) (fun h2 => ?_) | refine br_bool (fun h2 => ?_) (fun h2 => ?_)); all_goals (try dsimp only at h2); all_goals (try with_reducible replace h2 := zi_lt.1 h2); all_goals (try with_reducible replace h2 := not_zlt h2))
      · have h2 : k < 40 := h2
        have hb : 0 ≤ g (zi k).toNat ∧ g (zi k).toNat < 256 := by rw [← hg]; exact byte_at hns
        have hb3 : 0 ≤ (g (zi k).toNat).tmod 3 ∧ (g (zi k).toNat).tmod 3 < zi 3 := ⟨Int.tmod_nonneg _ hb.1, Int.tmod_lt_of_pos _ (by decide)⟩
        have hlen : (itemsN (rs .o) k).length = k := by unfold itemsN; rw [List.length_map, List.length_take, Nat.min_eq_left hk]
        (cbv; repeat (refine safe (by first | decide | (simp only [zi] at *; omega) | assumption | (dsimp only; omega) | (dsimp only at *; simp only [List.length_append, List.length_cons, List.length_nil, zi] at *; omega)) ?_; cbv))
        refine app_one Item.ch Item.z (itemsN (rs .o) k) (itemN (g (zi k).toNat)) rfl (fun i hi => rfl) rfl rfl (by omega) ?_
        cbv
        have hz : (zi k).toNat = k := zi_toNat k
        have hsucc : itemsN (rs .o) k ++ [itemN (g (zi k).toNat)] = itemsN (rs .o) (k + 1) := by rw [itemsN_succ _ _ h1, hg, hz]
        have next : ∀ n : Th Int, n .o = lastR (itemsN (rs .o) (k + 1)) [112] 2 → Same (.int .i64 n) (.int .i64 fun _ => lastR (itemsN (rs .o) (k + 1)) [112] 2) := fun n hn => .int hn
        refine br_dec (fun h3 => ?_) (fun h3 => ?_)
        · have h3 : (itemN (g (zi k).toNat)).path = [112] := h3
          cbv
          refine br_dec (fun h4 => ?_) (fun h4 => ?_)
          · have h4 : (itemN (g (zi k).toNat)).attr = 2 := h4
            have hl : (itemN (g (zi k).toNat)).res = lastR (itemsN (rs .o) (k + 1)) [112] 2 := by
              rw [← hsucc, lastR_snoc, if_pos (show hit _ _ _ = true from decide_eq_true ⟨h3, h4⟩)]
            cbv
            refine ⟨k + 1, ⟨h1, h2⟩, by omega, ?_⟩
            cbv
            rw [zi_succ (by omega)]
            rw [hsucc]
            (repeat' (first | exact True.intro | exact Same.refl _ | exact SameB.refl _ | exact ⟨rfl⟩ | exact Same.int rfl | exact Same.str rfl | exact Same.bool rfl | (refine Same.int ?_; simp only [List.length_append, List.length_cons, List.length_nil, zi]; omega) | (refine SameB.row' rfl fun i hi => ?_; first | rfl | exact absurd hi (Nat.not_lt_zero _)) | refine And.intro ?_ ?_ | refine SameB.cells ?_ | exact SameC.nil | refine SameC.cons ?_ ?_ | exact Same.nsl rfl | exact Same.tt rfl | exact Same.ff rfl))
            all_goals first | exact next _ hl | skip
          · have h4 : ¬ (itemN (g (zi k).toNat)).attr = 2 := h4
            have hl : lastR (itemsN (rs .o) k) [112] 2 = lastR (itemsN (rs .o) (k + 1)) [112] 2 := by
              rw [← hsucc, lastR_snoc, if_neg (by unfold hit; simp [h4])]
            cbv
            refine ⟨k + 1, ⟨h1, h2⟩, by omega, ?_⟩
            cbv
            rw [zi_succ (by omega)]
            rw [hsucc]
            (repeat' (first | exact True.intro | exact Same.refl _ | exact SameB.refl _ | exact ⟨rfl⟩ | exact Same.int rfl | exact Same.str rfl | exact Same.bool rfl | (refine Same.int ?_; simp only [List.length_append, List.length_cons, List.length_nil, zi]; omega) | (refine SameB.row' rfl fun i hi => ?_; first | rfl | exact absurd hi (Nat.not_lt_zero _)) | refine And.intro ?_ ?_ | refine SameB.cells ?_ | exact SameC.nil | refine SameC.cons ?_ ?_ | exact Same.nsl rfl | exact Same.tt rfl | exact Same.ff rfl))
            all_goals first | exact next _ hl | skip
        · have h3 : ¬ (itemN (g (zi k).toNat)).path = [112] := h3
          have hl : lastR (itemsN (rs .o) k) [112] 2 = lastR (itemsN (rs .o) (k + 1)) [112] 2 := by
            rw [← hsucc, lastR_snoc, if_neg (by unfold hit; simp [h3])]
          cbv
          refine ⟨k + 1, ⟨h1, h2⟩, by omega, ?_⟩
          cbv
          rw [zi_succ (by omega)]
          rw [hsucc]
          (repeat' (first | exact True.intro | exact Same.refl _ | exact SameB.refl _ | exact ⟨rfl⟩ | exact Same.int rfl | exact Same.str rfl | exact Same.bool rfl | (refine Same.int ?_; simp only [List.length_append, List.length_cons, List.length_nil, zi]; omega) | (refine SameB.row' rfl fun i hi => ?_; first | rfl | exact absurd hi (Nat.not_lt_zero _)) | refine And.intro ?_ ?_ | refine SameB.cells ?_ | exact SameC.nil | refine SameC.cons ?_ ?_ | exact Same.nsl rfl | exact Same.tt rfl | exact Same.ff rfl))
          all_goals first | exact next _ hl | skip
      · cbv
        have hlen : (itemsN (rs .o) k).length = k := by unfold itemsN; rw [List.length_map, List.length_take, Nat.min_eq_left hk]
        generalize hL : itemsN (rs .o) k = L at hlen
        refine app_rows0 Item.ch Item.z L rfl rfl (fun i hi => rfl) (by omega) ?_
        cbv
        refine app_rows Item.ch Item.z L [⟨[113], 2, 4⟩, ⟨[112], 9, 4⟩] rfl (fun i hi => rfl) rfl (fun i hi => by
          match i, (show i < 2 from hi) with
          | 0, _ => rfl
          | 1, _ => rfl) (by simp only [List.length_cons, List.length_nil]; omega) ?_
        cbv
        refine safe (by decide) ?_
        refine app_rows0 Item.ch Item.z L rfl rfl (fun i hi => rfl) (by omega) ?_
        cbv
        refine app_one Item.ch Item.z L ⟨[112], 2, IntKind.i64.wrap (1 + (IntKind.i64.wrap (at' .o)).tmod 4)⟩ rfl (fun i hi => rfl) rfl rfl (by omega) ?_
        cbv
        refine degRes_c (fun _ => L) (fun _ => [112]) (fun _ => 2) (by show L.length ≤ _; omega) fun n1 hn1 => ?_
        cbv
        have k1 : n1 .o = lastR L [112] 2 := hn1
        (first | refine br_is (decide_eq_true k1) ?_ | refine br_not (decide_eq_true k1) ?_ | refine br_rev (br_is (decide_eq_true k1) ?_) | refine br_rev (br_not (decide_eq_true k1) ?_))
        cbv
        refine degRes_c (fun _ => L ++ [⟨[113], 2, 4⟩, ⟨[112], 9, 4⟩]) (fun _ => [112]) (fun _ => 2) (by show (L ++ _).length ≤ _; simp only [List.length_append, List.length_cons, List.length_nil]; omega) fun n2 hn2 => ?_
        cbv
        have k2 : n2 .o = lastR L [112] 2 := by
          rw [hn2]
          show lastR (L ++ ([⟨[113], 2, 4⟩] ++ [⟨[112], 9, 4⟩])) [112] 2 = _
          rw [← List.append_assoc, lastR_snoc, if_neg (by decide), lastR_snoc, if_neg (by decide)]
        (first | refine br_is (decide_eq_true k2) ?_ | refine br_not (decide_eq_true k2) ?_ | refine br_rev (br_is (decide_eq_true k2) ?_) | refine br_rev (br_not (decide_eq_true k2) ?_))
        cbv
        refine degRes_c (fun _ => L ++ [⟨[112], 2, IntKind.i64.wrap (1 + (IntKind.i64.wrap (at' .o)).tmod 4)⟩]) (fun _ => [112]) (fun _ => 2) (by show (L ++ _).length ≤ _; simp only [List.length_append, List.length_cons, List.length_nil]; omega) fun n3 hn3 => ?_
        cbv
        have k3 : n3 .o = IntKind.i64.wrap (1 + (IntKind.i64.wrap (at' .o)).tmod 4) := by
          rw [hn3]
          show lastR (L ++ [_]) [112] 2 = _
          rw [lastR_snoc, if_pos (by unfold hit; exact decide_eq_true ⟨rfl, rfl⟩)]
        (first | refine br_is (decide_eq_true k3) ?_ | refine br_not (decide_eq_true k3) ?_ | refine br_rev (br_is (decide_eq_true k3) ?_) | refine br_rev (br_not (decide_eq_true k3) ?_))
        cbv
        refine degRes_c (fun _ => L) (fun _ => [110, 111, 110, 101]) (fun _ => 2) (by show L.length ≤ _; omega) fun n4 hn4 => ?_
        cbv
        have k4 : n4 .o = 0 := by
          rw [hn4]
          refine lastR_no fun x hx => ?_
          rw [← hL] at hx
          obtain ⟨y, _, rfl⟩ := List.mem_map.1 hx
          exact pathN_ne y
        (first | refine br_is (decide_eq_true k4) ?_ | refine br_not (decide_eq_true k4) ?_ | refine br_rev (br_is (decide_eq_true k4) ?_) | refine br_rev (br_not (decide_eq_true k4) ?_))
        cbv
        refine awake25_c fun b hb => ?_
        cbv
        exact ⟨b, rfl, hb⟩
    · cbv
      have hlen : (itemsN (rs .o) k).length = k := by unfold itemsN; rw [List.length_map, List.length_take, Nat.min_eq_left hk]
      generalize hL : itemsN (rs .o) k = L at hlen
      refine app_rows0 Item.ch Item.z L rfl rfl (fun i hi => rfl) (by omega) ?_
      cbv
      refine app_rows Item.ch Item.z L [⟨[113], 2, 4⟩, ⟨[112], 9, 4⟩] rfl (fun i hi => rfl) rfl (fun i hi => by
        match i, (show i < 2 from hi) with
        | 0, _ => rfl
        | 1, _ => rfl) (by simp only [List.length_cons, List.length_nil]; omega) ?_
      cbv
      refine safe (by decide) ?_
      refine app_rows0 Item.ch Item.z L rfl rfl (fun i hi => rfl) (by omega) ?_
      cbv
      refine app_one Item.ch Item.z L ⟨[112], 2, IntKind.i64.wrap (1 + (IntKind.i64.wrap (at' .o)).tmod 4)⟩ rfl (fun i hi => rfl) rfl rfl (by omega) ?_
      cbv
      refine degRes_c (fun _ => L) (fun _ => [112]) (fun _ => 2) (by show L.length ≤ _; omega) fun n1 hn1 => ?_
      cbv
      have k1 : n1 .o = lastR L [112] 2 := hn1
      (first | refine br_is (decide_eq_true k1) ?_ | refine br_not (decide_eq_true k1) ?_ | refine br_rev (br_is (decide_eq_true k1) ?_) | refine br_rev (br_not (decide_eq_true k1) ?_))
      cbv
      refine degRes_c (fun _ => L ++ [⟨[113], 2, 4⟩, ⟨[112], 9, 4⟩]) (fun _ => [112]) (fun _ => 2) (by show (L ++ _).length ≤ _; simp only [List.length_append, List.length_cons, List.length_nil]; omega) fun n2 hn2 => ?_
      cbv
      have k2 : n2 .o = lastR L [112] 2 := by
        rw [hn2]
        show lastR (L ++ ([⟨[113], 2, 4⟩] ++ [⟨[112], 9, 4⟩])) [112] 2 = _
        rw [← List.append_assoc, lastR_snoc, if_neg (by decide), lastR_snoc, if_neg (by decide)]
      (first | refine br_is (decide_eq_true k2) ?_ | refine br_not (decide_eq_true k2) ?_ | refine br_rev (br_is (decide_eq_true k2) ?_) | refine br_rev (br_not (decide_eq_true k2) ?_))
      cbv
      refine degRes_c (fun _ => L ++ [⟨[112], 2, IntKind.i64.wrap (1 + (IntKind.i64.wrap (at' .o)).tmod 4)⟩]) (fun _ => [112]) (fun _ => 2) (by show (L ++ _).length ≤ _; simp only [List.length_append, List.length_cons, List.length_nil]; omega) fun n3 hn3 => ?_
      cbv
      have k3 : n3 .o = IntKind.i64.wrap (1 + (IntKind.i64.wrap (at' .o)).tmod 4) := by
        rw [hn3]
        show lastR (L ++ [_]) [112] 2 = _
        rw [lastR_snoc, if_pos (by unfold hit; exact decide_eq_true ⟨rfl, rfl⟩)]
      (first | refine br_is (decide_eq_true k3) ?_ | refine br_not (decide_eq_true k3) ?_ | refine br_rev (br_is (decide_eq_true k3) ?_) | refine br_rev (br_not (decide_eq_true k3) ?_))
      cbv
      refine degRes_c (fun _ => L) (fun _ => [110, 111, 110, 101]) (fun _ => 2) (by show L.length ≤ _; omega) fun n4 hn4 => ?_
      cbv
      have k4 : n4 .o = 0 := by
        rw [hn4]
        refine lastR_no fun x hx => ?_
        rw [← hL] at hx
        obtain ⟨y, _, rfl⟩ := List.mem_map.1 hx
        exact pathN_ne y
      (first | refine br_is (decide_eq_true k4) ?_ | refine br_not (decide_eq_true k4) ?_ | refine br_rev (br_is (decide_eq_true k4) ?_) | refine br_rev (br_not (decide_eq_true k4) ?_))
      cbv
      refine awake25_c fun b hb => ?_
      cbv
      exact ⟨b, rfl, hb⟩
end Go.Proofs.Ytgjlkcdnlndlnaa
