/- degrade.Result: a loop over slices.Backward, by hand. -/
import Derived.RangeFuncNested
import Derived.RangeFuncLeaves
import Derived.Shelf.Abstract
import Derived.WalkKit
import Derived.WalkLawsBesides
import Derived.OwnWalkIn
import Derived.TacticsInMore
import Derived.LoopNIn
import Derived.LoopIn
import Derived.Test.YtgjlkcdnlndlnaaProg
namespace Go.Proofs.Ytgjlkcdnlndlnaa
open Go Go.RowKit Go.Shelf
set_option linter.unusedVariables false
set_option linter.unusedSimpArgs false
attribute [local go_sem] Oper.semAt_some

structure Item where
  path : List UInt8
  attr : Int
  res : Int
def Item.z : Item := ⟨[], 0, 0⟩
def Item.v (x : Item) : Value := .agg #[.string ⟨x.path.toArray⟩, .int .i64 x.attr, .int .i64 x.res]
/-- The block b holds the items zs from off on. -/
def ItemsAt (b off : Nat) (zs : List Item) (W : World) : Prop := ∀ j, j < zs.length → W.cell? ⟨b, off + j * 3, none⟩ = some (.string ⟨(zs[j]?.getD Item.z).path.toArray⟩) ∧ W.cell? ⟨b, off + j * 3 + 1, none⟩ = some (.int .i64 (zs[j]?.getD Item.z).attr) ∧ W.cell? ⟨b, off + j * 3 + 2, none⟩ = some (.int .i64 (zs[j]?.getD Item.z).res)
def backs (zs : List Item) (k : Nat) : List (Int × Item) := (List.range k).map fun (j : Nat) => ((zs.length : Int) - 1 - j, zs[zs.length - 1 - j]?.getD Item.z)
theorem backs_succ (zs : List Item) (k : Nat) : backs zs (k + 1) = backs zs k ++ [((zs.length : Int) - 1 - k, zs[zs.length - 1 - k]?.getD Item.z)] := by simp [backs, List.range_succ]
theorem backs_length (zs : List Item) (k : Nat) : (backs zs k).length = k := by simp [backs]

set_option maxRecDepth 100000 in
set_option maxHeartbeats 2000000 in
theorem back1_in (F : Fence) (n : Nat) (h8 : F.fn 102) (hro : F.round = none) (hn : 1 ≤ n) (l Bs n₀ : Nat) (a : Option Addr) (cap : Nat) (zs : List Item) (hreach : zs.length ≤ 140737488351232) (J Jx : List (Int × Item) → World → Prop)
    (hY : ∀ pre x W, J pre W → pre.length < zs.length → YieldAt F (n - 1) Try.prog l #[.int .i64 x.1, x.2.v] W fun e W' =>
      (e = .returned (.bool true) ∧ J (pre ++ [x]) W' ∧ Below n₀ W W') ∨ (e = .returned (.bool false) ∧ Jx (pre ++ [x]) W'))
    (W : World) (hBs : W.cell? ⟨Bs, 0, none⟩ = some (.slice a zs.length cap)) (hBl : Bs < n₀) (hc : zs.length ≠ 0 → ∃ b off, a = some ⟨b, off, none⟩ ∧ b < n₀ ∧ ItemsAt b off zs W) (h0 : J [] W) :
    CallsIn F n Try.prog 102 #[.func (.yield l) #[] #[], .pointer (some ⟨Bs, 0, none⟩)] W fun e W' => (∃ v, e = .returned v) ∧
      ((∃ ys, ys = backs zs zs.length ∧ J ys W') ∨ (∃ pre, (∃ k, k ≤ zs.length ∧ pre = backs zs k) ∧ Jx pre W')) := by
  refine callsIn_of_wp Try.func102 rfl h8 ?_ hro
  simp only [Try.ntmps102, List.size_toArray, List.length_cons, List.length_nil, Nat.reduceAdd, Nat.reduceSub, Array.replicate_succ, Array.replicate_zero, List.push_toArray, List.append_toArray, List.nil_append, List.cons_append]
  gi_wp2
  gi_loopw [3] (fun i wr => ∃ k : Nat, k ≤ zs.length ∧ i = .int .i64 ((zs.length : Int) - 1 - k) ∧ J (backs zs k) wr ∧ Below n₀ W wr)
    (fun i _ => (intOf i + 1).toNat)
  case atStart => exact ⟨0, Nat.zero_le _, by simp, h0, Below.refl _ _⟩
  case round =>
    obtain ⟨k, hk, rfl, hJs, hnx⟩ := hrel
    have hBx : wr.cell? ⟨Bs, 0, none⟩ = some (.slice a zs.length cap) := (hnx.cell (p := ⟨Bs, 0, none⟩) hBl).trans hBs
    by_cases hlt : k < zs.length
    · obtain ⟨fn, tmps, assign, body, hy, hR⟩ := hY _ ((zs.length : Int) - 1 - k, zs[zs.length - 1 - k]?.getD Item.z) wr hJs (by rw [backs_length]; exact hlt)
      dsimp only [Item.v] at hy
      obtain ⟨b, off, rfl, hb, hi⟩ := hc (by omega)
      obtain ⟨c1, c2, c3⟩ := hi (zs.length - 1 - k) (by omega)
      have d1 := (hnx.cell (p := ⟨b, _, none⟩) hb).trans c1
      have d2 := (hnx.cell (p := ⟨b, _, none⟩) hb).trans c2
      have d3 := (hnx.cell (p := ⟨b, _, none⟩) hb).trans c3
      gi_wp2
      refine hR.mono ?_
      rintro e W3 (⟨rfl, hJ3, hk3⟩ | ⟨rfl, hJx3⟩)
      · gi_wp2
        go_roundw
        case rel => exact ⟨k + 1, by omega, by simp; omega, by rw [backs_succ]; exact hJ3, hnx.trans hk3⟩
        case measure => simp [intOf]; omega
      · gi_wp2
        refine bodyPost_ret (results_none rfl _ _ _) rfl ?_
        exact ⟨⟨_, rfl⟩, .inr ⟨_, ⟨k + 1, by omega, (backs_succ _ _).symm⟩, hJx3⟩⟩
    · obtain rfl : k = zs.length := by omega
      gi_wp2
      go_end0
      exact ⟨⟨_, rfl⟩, .inl ⟨_, rfl, hJs⟩⟩

set_option maxHeartbeats 1000000 in
theorem back_in (F : Fence) (n : Nat) (h5 : F.fn 56) (hro : F.round = none) (a : Option Addr) (len cap : Nat) (w : World) :
    CallsIn F n Try.prog 56 #[.slice a len cap] w fun e w' => e = .returned (.func (.func 102) #[] #[.pointer (some ⟨w.heap.size, 0, none⟩)]) ∧ w' = w.alloc (.cells #[.slice a len cap] 46) := by
  refine callsIn_of_wp Try.func56 rfl h5 ?_ hro
  simp only [Try.ntmps56, List.size_toArray, List.length_cons, List.length_nil, Nat.reduceAdd, Nat.reduceSub, Array.replicate_succ, Array.replicate_zero, List.push_toArray, List.append_toArray, List.nil_append, List.cons_append]
  gi_wp2
  go_ret
  exact ⟨rfl, rfl⟩

/-- What holds of a slice's items. -/
def ItemsOf (n₀ : Nat) (W : World) (a : Option Addr) (zs : List Item) : Prop := zs.length ≠ 0 → ∃ b off, a = some ⟨b, off, none⟩ ∧ b < n₀ ∧ ItemsAt b off zs W
theorem ItemsOf.below {n₀ : Nat} {A B : World} (h : Below n₀ A B) {a : Option Addr} {zs : List Item} (hi : ItemsOf n₀ A a zs) : ItemsOf n₀ B a zs := fun hz => by
  obtain ⟨b, off, h1, h2, h3⟩ := hi hz
  exact ⟨b, off, h1, h2, fun j hj => ⟨(h.cell (p := ⟨b, _, none⟩) h2).trans (h3 j hj).1, (h.cell (p := ⟨b, _, none⟩) h2).trans (h3 j hj).2.1, (h.cell (p := ⟨b, _, none⟩) h2).trans (h3 j hj).2.2⟩⟩

theorem back_stops (F : Fence) (n : Nat) (h8 : F.fn 102) (hro : F.round = none) (hn : 1 ≤ n) (Bs n₀ : Nat) (a : Option Addr) (cap : Nat) (zs : List Item) (hreach : zs.length ≤ 140737488351232) (w : World) (hBs : Bs < w.heap.size) (hBl : n₀ ≤ Bs)
    (hc : w.cell? ⟨Bs, 0, none⟩ = some (.slice a zs.length cap)) (hI : ItemsOf n₀ w a zs) :
    SeqStopsK F n Try.prog 102 #[.pointer (some ⟨Bs, 0, none⟩)] (fun x : Int × Item => #[Value.int .i64 x.1, x.2.v]) (Below (Bs + 1)) (fun ys => ys = backs zs zs.length)
      (fun pre => ∃ k, k ≤ zs.length ∧ pre = backs zs k) zs.length w := fun l J Jx W hW _ _ hY h0 => by
  have hc' := (hW.cell (p := ⟨Bs, 0, none⟩) hBs).trans hc
  have hI' := hI.below (hW.mono (by omega))
  exact back1_in F n h8 hro hn l Bs (Bs + 1) a cap zs hreach J Jx hY W hc' (by omega) (fun hz => by obtain ⟨b, off, h1, h2, h3⟩ := hI' hz; exact ⟨b, off, h1, by omega, h3⟩) h0

/-- What a report says last of an attribute. -/
def lastR (l : List Item) (p : List UInt8) (a : Int) : Int := ((l.reverse.find? fun x => decide (x.path = p ∧ x.attr = a)).map (·.res)).getD 0

/-- The block B holds the item x. -/
def ItemIn (W : World) (B : Nat) (x : Item) : Prop := W.heap[B]? = some (.cells #[.string ⟨x.path.toArray⟩, .int .i64 x.attr, .int .i64 x.res] 56 (0, 0))
theorem ItemIn.cells {W : World} {B : Nat} {x : Item} (h : ItemIn W B x) : W.cell? ⟨B, 0, none⟩ = some (.string ⟨x.path.toArray⟩) ∧ W.cell? ⟨B, 1, none⟩ = some (.int .i64 x.attr) ∧ W.cell? ⟨B, 2, none⟩ = some (.int .i64 x.res) :=
  ⟨by simp [World.cell?, show W.heap[B]? = _ from h], by simp [World.cell?, show W.heap[B]? = _ from h], by simp [World.cell?, show W.heap[B]? = _ from h]⟩
theorem itemIn_own (B : Nat) (x : Item) : Own (fun (_ : Unit) W => ItemIn W B x) := fun s X Y row hs hg hrow =>
  (hg.block B (Array.getElem?_eq_some_iff.1 hs).1 (fun e' => by obtain ⟨o, ho, hc⟩ := hrow B e'.symm; rw [show X.heap[B]? = _ from hs] at ho; cases ho; cases hc)).trans hs

theorem backs_snd (zs : List Item) (k : Nat) (hk : k ≤ zs.length) : (backs zs k).map (·.2) = zs.reverse.take k := by
  apply List.ext_getElem
  · simp [backs, hk]
  · intro i h1 h2
    have hi : i < k := by simp [backs] at h1; exact h1
    have h3 : zs.length - 1 - i < zs.length := by omega
    simp [backs, h3]
/-- What the report says, out of a prefix of what comes. -/
def hit (p : List UInt8) (a : Int) (x : Item) : Bool := decide (x.path = p ∧ x.attr = a)
theorem lastR_none {zs : List Item} {p : List UInt8} {a : Int} (h : ∀ y ∈ backs zs zs.length, hit p a y.2 = false) : lastR zs p a = 0 := by
  unfold lastR
  rw [List.find?_eq_none.2 fun x hx => ?_]
  · rfl
  · have : x ∈ (backs zs zs.length).map (·.2) := by rw [backs_snd zs _ (Nat.le_refl _), List.take_of_length_le (by simp)]; exact hx
    obtain ⟨y, hy, rfl⟩ := List.mem_map.1 this
    have := h y hy
    unfold hit at this
    simp [this]
theorem lastR_some {zs : List Item} {p : List UInt8} {a : Int} {k : Nat} {pre : List (Int × Item)} {y : Int × Item} (hk : k ≤ zs.length) (e : pre ++ [y] = backs zs k) (h : ∀ z ∈ pre, hit p a z.2 = false) (hy : hit p a y.2 = true) : lastR zs p a = y.2.res := by
  unfold lastR
  have h1 : zs.reverse = (pre.map (·.2) ++ [y.2]) ++ zs.reverse.drop k := by
    rw [show pre.map (·.2) ++ [y.2] = (pre ++ [y]).map (·.2) by simp, e, backs_snd zs k hk, List.take_append_drop]
  rw [h1, List.append_assoc, List.find?_append, List.find?_eq_none.2 fun x hx => ?_]
  · obtain ⟨e1, e2⟩ := of_decide_eq_true (show decide (y.2.path = p ∧ y.2.attr = a) = true from hy)
    simp [e1, e2]
  · obtain ⟨z, hz, rfl⟩ := List.mem_map.1 hx
    have := h z hz
    unfold hit at this
    simp [this]

set_option maxRecDepth 100000 in
set_option maxHeartbeats 4000000 in
theorem result_in (F : Fence) (n : Nat) (h3 : F.fn 27) (h5 : F.fn 56) (h6 : F.fn 102) (hro : F.round = none) (hn : 4 ≤ n)
    (a : Option Addr) (cap : Nat) (zs : List Item) (hreach : zs.length ≤ 140737488351232) (pt : List UInt8) (at' : Int) (w : World) (hL : ItemsOf w.heap.size w a zs) :
    CallsIn F n Try.prog 27 #[.slice a zs.length cap, .string ⟨pt.toArray⟩, .int .i64 at'] w fun e W' => e = .returned (.int .i64 (lastR zs pt at')) ∧ Below w.heap.size w W' := by
  have h1 : 1 ≤ n := by omega
  refine callsIn_of_wp_marks Try.func27 rfl h3 ?_ hro
  simp only [Try.ntmps27, List.size_toArray, List.length_cons, List.length_nil, Nat.reduceAdd, Nat.reduceSub, Array.replicate_succ, Array.replicate_zero, List.push_toArray, List.append_toArray, List.nil_append, List.cons_append]
  gi_wp2_with (gi_at_call 56; refine (back_in F (n - 1) h5 hro _ _ _ _).mono ?_; rintro e w' ⟨rfl, rfl⟩)
  have bP := (((Boxed.new w 9 (.string ⟨pt.toArray⟩)).alloc (.cells #[.int .i64 at'] 3)).alloc (.cells #[.int .i64 0] 3)).alloc (.cells #[.slice a zs.length cap] 46)
  have bA := ((Boxed.new (w.alloc (.cells #[.string ⟨pt.toArray⟩] 9)) 3 (.int .i64 at')).alloc (.cells #[.int .i64 0] 3)).alloc (.cells #[.slice a zs.length cap] 46)
  have bR := (Boxed.new ((w.alloc (.cells #[.string ⟨pt.toArray⟩] 9)).alloc (.cells #[.int .i64 at'] 3)) 3 (.int .i64 0)).alloc (.cells #[.slice a zs.length cap] 46)
  have bS := Boxed.new (((w.alloc (.cells #[.string ⟨pt.toArray⟩] 9)).alloc (.cells #[.int .i64 at'] 3)).alloc (.cells #[.int .i64 0] 3)) 46 (.slice a zs.length cap)
  simp only [World.size_alloc] at bA bR bS
  have hB0 : Below w.heap.size w ((((w.alloc (.cells #[.string ⟨pt.toArray⟩] 9)).alloc (.cells #[.int .i64 at'] 3)).alloc (.cells #[.int .i64 0] 3)).alloc (.cells #[.slice a zs.length cap] 46)) :=
    ((((Below.refl _ w).alloc (Nat.le_refl _) _).alloc (by simp) _).alloc (by simp; omega) _).alloc (by simp; omega) _
  have hsz : ((((w.alloc (.cells #[.string ⟨pt.toArray⟩] 9)).alloc (.cells #[.int .i64 at'] 3)).alloc (.cells #[.int .i64 0] 3)).alloc (.cells #[.slice a zs.length cap] 46)).heap.size = w.heap.size + 4 := by simp
  obtain ⟨W0, hW0⟩ : ∃ W0, ((((w.alloc (.cells #[.string ⟨pt.toArray⟩] 9)).alloc (.cells #[.int .i64 at'] 3)).alloc (.cells #[.int .i64 0] 3)).alloc (.cells #[.slice a zs.length cap] 46)) = W0 := ⟨_, rfl⟩
  rw [hW0] at bP bA bR bS hB0 hsz ⊢
  clear hW0
  refine wpIn_rangeFunc_ownH hro h1 (gf := 102) (lb := #[.pointer (some ⟨w.heap.size + 1 + 1 + 1, 0, none⟩)]) rfl h6 (enters_of Try.func102 (by kernel_rfl) rfl)
    (back_stops F (n - 1) h6 hro (by omega) (w.heap.size + 1 + 1 + 1) w.heap.size a cap zs hreach W0 (by omega) (by omega) bS.cell (hL.below hB0)) belowK_t (belowK_b (by omega)) (Below.refl _ _) (fun _ => rfl)
    (fun pre W => (((Boxed W (w.heap.size + 1 + 1) 3 (.int .i64 0) ∧ Boxed W w.heap.size 9 (.string ⟨pt.toArray⟩)) ∧ Boxed W (w.heap.size + 1) 3 (.int .i64 at')) ∧ (Below w.heap.size w W ∧ Below w.heap.size W0 W)) ∧ ∀ y ∈ pre, hit pt at' y.2 = false)
    (fun c pre W => ((∃ v, Boxed W (w.heap.size + 1 + 1) 3 (.int .i64 v) ∧ ∃ pre' y, v = y.2.res ∧ pre = pre' ++ [y] ∧ (∀ z ∈ pre', hit pt at' z.2 = false) ∧ hit pt at' y.2 = true) ∧ Below w.heap.size w W) ∧ c = .ret)
    (OwnFrom.and (OwnFrom.and (OwnFrom.and (OwnFrom.and (Own.from (boxed_own _ _ _) _) (Own.from (boxed_own _ _ _) _)) (Own.from (boxed_own _ _ _) _)) (OwnFrom.and (ownFrom_below (Nat.le_refl _) (by omega)) (ownFrom_below (by omega) (by omega)))) (ownFrom_pure _ _))
    (fun c => OwnFrom.and (OwnFrom.and (fun s X Y row hs hg hr => by obtain ⟨v, h1, h2⟩ := hs; exact ⟨v, Own.from (boxed_own (w.heap.size + 1 + 1) 3 (fun (_ : Unit) => Value.int .i64 v)) _ () X Y row h1 hg hr, h2⟩) (ownFrom_below (Nat.le_refl _) (by omega))) (ownFrom_pure _ _))
    ⟨⟨⟨⟨bR, bP⟩, bA⟩, hB0, Below.refl _ _⟩, fun _ h => (List.not_mem_nil h).elim⟩
    (fun x a' W => ∃ Bx, w.heap.size + 3 < Bx ∧ ItemIn W Bx x.2 ∧ a' = { tmps := #[.slice a zs.length cap, .string ⟨pt.toArray⟩, .int .i64 at', undef, .pointer (some ⟨w.heap.size, 0, none⟩), .pointer (some ⟨w.heap.size + 1, 0, none⟩), .pointer (some ⟨w.heap.size + 1 + 1, 0, none⟩), undef, .pointer (some ⟨Bx, 0, none⟩), .slice a zs.length cap, .func (.func 102) #[] #[.pointer (some ⟨w.heap.size + 1 + 1 + 1, 0, none⟩)], .int .i64 x.1, x.2.v, undef, undef, undef, undef, undef, undef, undef, undef, undef, undef, undef, undef], defers := [] })
    (fun x a' _ X Y row hs hg hr => by obtain ⟨Bx, h1, h2, h3⟩ := hs; exact ⟨Bx, h1, itemIn_own Bx x.2 () X Y row h2 hg (fun r e => (hr r e).2), h3⟩)
    ?assign ?body ?done ?stop
  case assign =>
    rintro l pre ⟨x1, x2⟩ W K ⟨⟨⟨⟨bR1, bP1⟩, bA1⟩, hB1, hB2⟩, hp⟩ hK
    dsimp only [Item.v] at hK ⊢
    gi_wp2
    exact hK _ _ ((KeepsOthers.alloc _ _).from _) ((Below.refl _ W).alloc (by have := bR1.lt; have := hB2.size; omega) _) ⟨⟨⟨⟨bR1.alloc _, bP1.alloc _⟩, bA1.alloc _⟩, hB1.alloc hB1.size _, hB2.alloc hB1.size _⟩, hp⟩ ⟨W.heap.size, by have := hB2.size; omega, World.alloc_heap_new W _, rfl⟩
  case body =>
    rintro l pre ⟨x1, x2⟩ a' W hl ⟨r, hr⟩ ⟨⟨⟨⟨bR1, bP1⟩, bA1⟩, hB1, hB2⟩, hp⟩ ⟨Bx, hBx, bX, rfl⟩ hlt
    dsimp only at bX
    obtain ⟨x1, x2, x3⟩ := bX.cells
    have cP := bP1.cell
    have cA := bA1.cell
    have cR := bR1.cell
    have fR := bR1.frozen
    gi_wp2
    · rename_i e1 e2
      exact ⟨(KeepsOthers.setCell _ _ _).from _, ⟨⟨_, bR1.set _, pre, _, rfl, rfl, hp, decide_eq_true ⟨e1, by simpa using e2⟩⟩, hB1.setCell (p := ⟨w.heap.size + 1 + 1, 0, none⟩) (by show w.heap.size ≤ w.heap.size + 1 + 1; omega) _⟩, rfl⟩
    · rename_i e1 e2
      exact ⟨(KeepsOthers.refl _).from _, Below.refl _ _, ⟨⟨⟨bR1, bP1⟩, bA1⟩, hB1, hB2⟩, fun y hy => (List.mem_append.1 hy).elim (hp y) fun e => by obtain rfl := List.mem_singleton.1 e; exact decide_eq_false fun h => by have h2 := h.2; simp only at h2; simp [h2] at e2⟩
    · rename_i e1
      exact ⟨(KeepsOthers.refl _).from _, Below.refl _ _, ⟨⟨⟨bR1, bP1⟩, bA1⟩, hB1, hB2⟩, fun y hy => (List.mem_append.1 hy).elim (hp y) fun e => by obtain rfl := List.mem_singleton.1 e; exact decide_eq_false fun h => e1 h.1⟩
  case done =>
    rintro D zs' W hD rfl ⟨⟨⟨⟨bR1, bP1⟩, bA1⟩, hB1, hB2⟩, hp⟩ hK
    have cR := bR1.cell
    have fR := bR1.frozen
    gi_wp2
    have hK' := (KeepsOthers.setCell W ⟨w.heap.size + 1 + 1, 0, none⟩ (.int .i64 0)).same D _ hK rfl
    refine ⟨by simp, .inl ⟨_, _, rfl, run_takeDeferred hK', ?_⟩⟩
    have hc5 := cell_kept (World.cell?_setCell_same' W ⟨w.heap.size + 1 + 1, 0, none⟩ (.int .i64 0) (by rw [cR]; rfl)) (grownBy_putObj' _ D (.deferred none)) (fun r e => by cases e; exact ⟨_, hK', rfl⟩)
    refine ⟨.int .i64 0, ?_, by rw [lastR_none hp], (hB1.setCell (p := ⟨w.heap.size + 1 + 1, 0, none⟩) (by show w.heap.size ≤ w.heap.size + 1 + 1; omega) _).trans (belowK_b (w := w) (Nat.le_refl _) _ D _ _ (by omega) hK' rfl rfl)⟩
    simp [results, Try.f27, go_sem, hc5]
  case stop =>
    rintro D c pre W hD ⟨k, hk, hpre⟩ ⟨⟨⟨v, bR1, pre', y, rfl, rfl, h5, h6⟩, hB1⟩, rfl⟩ hK
    have cR := bR1.cell
    gi_wp2
    refine ⟨by simp, .inl ⟨_, _, rfl, run_takeDeferred hK, ?_⟩⟩
    have hc5 := cell_kept cR (grownBy_putObj' _ D (.deferred none)) (fun r e => by cases e; exact ⟨_, hK, rfl⟩)
    refine ⟨.int .i64 y.2.res, ?_, by rw [lastR_some hk hpre h5 h6], hB1.trans (belowK_b (w := w) (Nat.le_refl _) W D _ _ (by omega) hK rfl rfl)⟩
    simp [results, Try.f27, go_sem, hc5]

/-- **degrade.Result(l, path, attr)**: what the report says last; nothing that lay there is turned. -/
theorem result_calls (a : Option Addr) (cap : Nat) (zs : List Item) (hreach : zs.length ≤ 140737488351232) (pt : List UInt8) (at' : Int) (w : World) (hL : ItemsOf w.heap.size w a zs) :
    Calls Try.prog 27 #[.slice a zs.length cap, .string ⟨pt.toArray⟩, .int .i64 at'] w fun e W' => e = .returned (.int .i64 (lastR zs pt at')) ∧ Below w.heap.size w W' :=
  callsIn_wide.1 (result_in Fence.wide 4 trivial trivial trivial rfl (Nat.le_refl _) a cap zs hreach pt at' w hL)

end Go.Proofs.Ytgjlkcdnlndlnaa
