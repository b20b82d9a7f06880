/- The law PlanLess, walked: what is laid before all is there gives nobody more. -/
import Derived.Test.YtgjlkcdnlndlnaaMay
namespace Go.Proofs.Ytgjlkcdnlndlnaa
open Go Go.Proofs.Ytgjlkcdnlndlnaa.Sx F
set_option linter.unusedVariables false
set_option linter.unusedSimpArgs false

def bnot (a b : Int) : Int := abits .andNot .i64 a b
theorem pmode_ff (m : Th Meta) {d : Nat} {K : ARes → BL → Prop} (hr : ∀ n : Th Int, n .o = band (m .o).mode 448 → K (.ret (.tup (.cons (.int .i64 n) (.cons .ff .nil)))) .nil) : CallAt PT plan_Mode [Meta.av m, .ff] d .nil K := by
  refine plan_Mode.of rfl rfl ?_
  cbv
  exact hr _ rfl
theorem pmode_tt (m : Th Meta) (hm : short (m .o).acl) {d : Nat} {K : ARes → BL → Prop} (hr : ∀ n : Th Int, n .o = bor (bnot (m .o).mode 511) (LessS (m .o)) → K (.ret (.tup (.cons (.int .i64 n) (.cons .tt .nil)))) .nil) : CallAt PT plan_Mode [Meta.av m, .tt] d .nil K := by
  refine plan_Mode.of rfl rfl ?_
  cbv
  refine Less_c m hm fun n hn => ?_
  cbv
  exact hr _ (by rw [← hn]; rfl)
theorem stage_c (k : Th Int) {d : Nat} {K : ARes → BL → Prop} (hr : ∀ n : Th Int, n .o = (if k .o = 6 then 448 else if k .o = 3 then 511 else 0) → K (.ret (.int .i64 n)) .nil) : CallAt PT plan_Stage [.int .i64 k] d .nil K := by
  refine plan_Stage.of rfl rfl ?_
  cbv
  ((try refine br_rev ?_); (first | refine br_dec (fun h1 => ?_) (fun h1 => ?_) | refine br_ndec (fun h1 => ?_) (fun h1 => ?_) | refine br_nbool (fun h1 => ?_) (fun h1 => ?_) | refine br_bool (fun h1 => ?_) (fun h1 => ?_)); all_goals (try dsimp only at h1); all_goals (try with_reducible replace h1 := zi_lt.1 h1); all_goals (try with_reducible replace h1 := not_zlt h1)) <;> cbv
  · exact hr (fun _ => 448) (by rw [if_pos h1])
  · ((try refine br_rev ?_); (first | refine br_dec (fun h2 => ?_) (fun h2 => ?_) | refine br_ndec (fun h2 => ?_) (fun h2 => ?_) | refine br_nbool (fun h2 => ?_) (fun h2 => ?_) | refine br_bool (fun h2 => ?_) (fun h2 => ?_)); all_goals (try dsimp only at h2); all_goals (try with_reducible replace h2 := zi_lt.1 h2); all_goals (try with_reducible replace h2 := not_zlt h2)) <;> cbv
    · exact hr (fun _ => 511) (by rw [if_neg h1, if_pos h2])
    · exact hr (fun _ => 0) (by rw [if_neg h1, if_neg h2])
/-! ### bits -/
theorem fin6464 {p : Int → Prop} (h : ∀ a b : Fin 64, p (64 * (a.1 : Int) + (b.1 : Int))) {n : Int} (h0 : 0 ≤ n) (h1 : n < 4096) : p n := by
  have := h ⟨(n / 64).toNat, by omega⟩ ⟨(n % 64).toNat, by omega⟩
  rwa [show (64 * ((⟨(n / 64).toNat, by omega⟩ : Fin 64).1 : Int) + ((⟨(n % 64).toNat, by omega⟩ : Fin 64).1 : Int)) = n by simp only []; omega] at this
theorem bnot_511 {n : Int} (h0 : 0 ≤ n) (h1 : n < 4096) : bnot n 511 = 512 * (n / 512) := fin6464 (p := fun n => bnot n 511 = 512 * (n / 512)) (by decide +kernel) h0 h1
theorem band_448 {n : Int} (h0 : 0 ≤ n) (h1 : n < 4096) : band n 448 = 64 * (n / 64 % 8) := fin6464 (p := fun n => band n 448 = 64 * (n / 64 % 8)) (by decide +kernel) h0 h1
theorem bor_512 {q r : Int} (hq : 0 ≤ q ∧ q < 8) (hr : 0 ≤ r ∧ r < 512) : bor (512 * q) r = 512 * q + r :=
  fin8 (p := fun q => bor (512 * q) r = 512 * q + r) (fun q => by
    have h : ∀ q : Fin 8, ∀ a : Fin 8, ∀ b : Fin 64, bor (512 * (q.1 : Int)) (64 * (a.1 : Int) + (b.1 : Int)) = 512 * (q.1 : Int) + (64 * (a.1 : Int) + (b.1 : Int)) := by decide +kernel
    have := h q ⟨(r / 64).toNat, by omega⟩ ⟨(r % 64).toNat, by omega⟩
    rwa [show (64 * ((⟨(r / 64).toNat, by omega⟩ : Fin 8).1 : Int) + ((⟨(r % 64).toNat, by omega⟩ : Fin 64).1 : Int)) = r by simp only []; omega] at this) hq.1 hq.2

theorem goS_gid {m m' : Meta} (h : m.gid = m'.gid) (c : Cred) (w mask : Int) : ∀ (l : List Ace) (me any : Bool), goS m c w mask l me any = goS m' c w mask l me any
  | [], _, _ => rfl
  | a :: r, me, any => by
    unfold goS
    rw [h, goS_gid h c w mask r, goS_gid h c w mask r]
theorem CanS_congr {m m' : Meta} {c : Cred} {w : Int} (hu : m.uid = m'.uid) (hg : m.gid = m'.gid) (ho : ofS m = ofS m') : CanS m c w = CanS m' c w := by
  have hgo : ∀ mask l me any, goS m c w mask l me any = goS m' c w mask l me any := goS_gid hg c w
  unfold CanS canS
  simp only [hu, ho, hgo]
theorem has_zero {k : Int} (h0 : 1 ≤ k) (h1 : k < 8) : hasS k 0 = false := by
  unfold hasS
  rw [band0 (by omega) h1]
  simp; omega
theorem of_none (mo u g : Int) : ofS { metaZ with mode := mo, uid := u, gid := g } = fromMode mo := rfl

end Go.Proofs.Ytgjlkcdnlndlnaa
