/- The document's example of the layer right, and what the laws of rights share. -/
import Derived.Test.YtgjlkcdnlndlnaaRight
namespace Go.Proofs.Ytgjlkcdnlndlnaa
open Go Go.Proofs.Ytgjlkcdnlndlnaa.Sx F

def metaZ : Meta := ⟨0, 0, 0, 0, 0, [], [], [], ⟨0, 0, 0, false, 0⟩, 0⟩
theorem plain_c (mo u g : Th Int) {d : Nat} {K : ARes → BL → Prop} (hr : ∀ m : Th Meta, m .o = { metaZ with mode := mo .o, uid := u .o, gid := g .o } → K (.ret (Meta.av m)) .nil) : CallAt PT r9_Plain [.int .i64 mo, .int .i64 u, .int .i64 g] d .nil K := by
  refine CallAt.res ?_
  refine r9_Plain.of rfl rfl ?_
  cbv
  refine ⟨_, .ret (.agg ?_), (hr (fun _ => { metaZ with mode := mo .o, uid := u .o, gid := g .o }) rfl)⟩
  exact .cons (.refl _) (.cons (.refl _) (.cons (.refl _) (.cons (.refl _) (.cons (.refl _) (.cons (.nsl rfl) (.cons (.nsl rfl) (.cons (.nsl rfl) (.cons (.refl _) (.cons (.refl _) (.cons (.refl _) (.cons (.ff rfl) (.cons (.refl _) (.cons (.refl _) .nil)))))))))))))

def credZ : Cred := ⟨0, 0, [], 0⟩
/-- Who asks, in no further group. -/
theorem cred_same (u g p : Th Int) : Same (.agg (.cons (.int .i64 u) (.cons (.int .i64 g) (.cons .nsl (.cons (.int .i64 p) .nil))))) (Cred.av fun _ => ⟨u .o, g .o, [], p .o⟩) :=
  .agg (.cons (.refl _) (.cons (.refl _) (.cons (.nsl rfl) (.cons (.refl _) .nil))))
theorem short_nil {α : Type} : short ([] : List α) := by show 0 ≤ _; decide

/-! ### bits -/
theorem band_le {x y : Int} (h0 : 0 ≤ y) (h1 : y < 4611686018427387904) : 0 ≤ band x y ∧ band x y ≤ y := by
  have hy : (BitVec.ofInt 64 y).toNat = y.toNat := by
    rw [BitVec.toNat_ofInt]
    omega
  have hle : (BitVec.ofInt 64 x &&& BitVec.ofInt 64 y).toNat ≤ y.toNat := by
    rw [BitVec.toNat_and, hy]
    exact Nat.and_le_right
  have he : band x y = IntKind.i64.wrap ((BitVec.ofInt 64 x &&& BitVec.ofInt 64 y).toNat : Int) := rfl
  rw [he, IntKind.wrap_i64]
  omega
theorem band02 : band 0 2 = 0 := by decide +kernel
theorem fin8 {p : Int → Prop} (h : ∀ n : Fin 8, p (n.1 : Int)) {n : Int} (h0 : 0 ≤ n) (h1 : n < 8) : p n := by
  have := h ⟨n.toNat, by omega⟩
  rwa [show ((⟨n.toNat, by omega⟩ : Fin 8).1 : Int) = n from Int.toNat_of_nonneg h0] at this
theorem band7 {n : Int} (h0 : 0 ≤ n) (h1 : n < 8) : band 7 n = n := fin8 (p := fun n => band 7 n = n) (by decide +kernel) h0 h1
theorem band0 {n : Int} (h0 : 0 ≤ n) (h1 : n < 8) : band 0 n = 0 := fin8 (p := fun n => band 0 n = 0) (by decide +kernel) h0 h1

/-- A byte's rest by eight. -/
theorem rest8 {x : Int} (h : 0 ≤ x ∧ x < 256) : 0 ≤ (IntKind.i64.wrap x).tmod 8 ∧ (IntKind.i64.wrap x).tmod 8 < 8 := by
  have : IntKind.i64.wrap x = x := by rw [IntKind.wrap_i64]; omega
  rw [this]
  exact ⟨Int.tmod_nonneg _ h.1, Int.tmod_lt_of_pos _ (by decide)⟩
theorem wrap_byte {x : Int} (h : 0 ≤ x ∧ x < 256) : IntKind.i64.wrap x = x := by rw [IntKind.wrap_i64]; omega


end Go.Proofs.Ytgjlkcdnlndlnaa
