/- The law PlanLess, walked: what is laid before all is there gives nobody more. -/
import Derived.Test.YteeikiekofopnaaMay
namespace Go.Proofs.Yteeikiekofopnaa
open Go Go.Proofs.Yteeikiekofopnaa.Sx F
set_option linter.unusedVariables false
set_option linter.unusedSimpArgs false

def bnot (a b : Int) : Int := abits .andNot .i64 a b
theorem pmode_ff (m : Th Meta) {d : Nat} {K : ARes → BL → Prop} (hr : ∀ n : Th Int, n .o = band (m .o).mode 448 → K (.ret (.tup (.cons (.int .i64 n) (.cons .ff .nil)))) .nil) : CallAt PT plan_Mode [Meta.av m, .ff] d .nil K := by
  refine plan_Mode.of rfl rfl ?_
  cbv
  exact hr _ rfl
theorem pmode_tt (m : Th Meta) (hm : short (m .o).acl) {d : Nat} {K : ARes → BL → Prop} (hr : ∀ n : Th Int, n .o = bor (bnot (m .o).mode 511) (LessS (m .o)) → K (.ret (.tup (.cons (.int .i64 n) (.cons .tt .nil)))) .nil) : CallAt PT plan_Mode [Meta.av m, .tt] d .nil K := by
  refine plan_Mode.of rfl rfl ?_
  cbv
  refine Less_c m hm fun n hn => ?_
  cbv
  exact hr _ (by rw [← hn]; rfl)
theorem stage_c (k : Th Int) {d : Nat} {K : ARes → BL → Prop} (hr : ∀ n : Th Int, n .o = (if k .o = 6 then 448 else if k .o = 3 then 511 else 0) → K (.ret (.int .i64 n)) .nil) : CallAt PT plan_Stage [.int .i64 k] d .nil K := by
  refine plan_Stage.of rfl rfl ?_
  cbv
  ((try refine br_rev ?_); (first | refine br_dec (fun h1 => ?_) (fun h1 => ?_) | refine br_ndec (fun h1 => ?_) (fun h1 => ?_) | refine br_nbool (fun h1 => ?_) (fun h1 => ?_) | refine br_bool (fun h1 => ?_) (fun h1 => ?_)); all_goals (try dsimp only at h1); all_goals (try with_reducible replace h1 := zi_lt.1 h1); all_goals (try with_reducible replace h1 := not_zlt h1)) <;> cbv
  · exact hr (fun _ => 448) (by rw [if_pos h1])
  · ((try refine br_rev ?_); (first | refine br_dec (fun h2 => ?_) (fun h2 => ?_) | refine br_ndec (fun h2 => ?_) (fun h2 => ?_) | refine br_nbool (fun h2 => ?_) (fun h2 => ?_) | refine br_bool (fun h2 => ?_) (fun h2 => ?_)); all_goals (try dsimp only at h2); all_goals (try with_reducible replace h2 := zi_lt.1 h2); all_goals (try with_reducible replace h2 := not_zlt h2)) <;> cbv
    · exact hr (fun _ => 511) (by rw [if_neg h1, if_pos h2])
    · exact hr (fun _ => 0) (by rw [if_neg h1, if_neg h2])
theorem awake23_c {d : Nat} {K : ARes → BL → Prop} (hr : ∀ b : Th Bool, b .o = true → K (.ret (.bool b)) .nil) : CallAt PT l23_awake [] d .nil K := by
  refine CallAt.res ?_
  refine l23_awake.of rfl rfl ?_
  cbv
  refine plain_c (fun _ => 2541) (fun _ => 0) (fun _ => 0) fun m hm => ?_
  cbv
  refine pmode_ff m fun n hn => ?_
  cbv
  refine stage_c (fun _ => 1) fun s1 hs1 => ?_
  cbv
  refine br_dec (fun _ => ?_) (fun q => absurd (show s1 .o = 0 by rw [hs1]; rfl) q)
  cbv
  refine stage_c (fun _ => 6) fun s2 hs2 => ?_
  cbv
  refine br_dec (fun _ => ?_) (fun q => absurd (show s2 .o = 448 by rw [hs2]; rfl) q)
  cbv
  refine br_dec (fun _ => ?_) (fun q => absurd (show n .o = 448 by rw [hn, hm]; decide +kernel) q)
  cbv
  exact ⟨_, .ret (.tt rfl), hr (fun _ => true) rfl⟩

/-! ### bits -/
theorem fin6464 {p : Int → Prop} (h : ∀ a b : Fin 64, p (64 * (a.1 : Int) + (b.1 : Int))) {n : Int} (h0 : 0 ≤ n) (h1 : n < 4096) : p n := by
  have := h ⟨(n / 64).toNat, by omega⟩ ⟨(n % 64).toNat, by omega⟩
  rwa [show (64 * ((⟨(n / 64).toNat, by omega⟩ : Fin 64).1 : Int) + ((⟨(n % 64).toNat, by omega⟩ : Fin 64).1 : Int)) = n by simp only []; omega] at this
theorem bnot_511 {n : Int} (h0 : 0 ≤ n) (h1 : n < 4096) : bnot n 511 = 512 * (n / 512) := fin6464 (p := fun n => bnot n 511 = 512 * (n / 512)) (by decide +kernel) h0 h1
theorem band_448 {n : Int} (h0 : 0 ≤ n) (h1 : n < 4096) : band n 448 = 64 * (n / 64 % 8) := fin6464 (p := fun n => band n 448 = 64 * (n / 64 % 8)) (by decide +kernel) h0 h1
theorem bor_512 {q r : Int} (hq : 0 ≤ q ∧ q < 8) (hr : 0 ≤ r ∧ r < 512) : bor (512 * q) r = 512 * q + r :=
  fin8 (p := fun q => bor (512 * q) r = 512 * q + r) (fun q => by
    have h : ∀ q : Fin 8, ∀ a : Fin 8, ∀ b : Fin 64, bor (512 * (q.1 : Int)) (64 * (a.1 : Int) + (b.1 : Int)) = 512 * (q.1 : Int) + (64 * (a.1 : Int) + (b.1 : Int)) := by decide +kernel
    have := h q ⟨(r / 64).toNat, by omega⟩ ⟨(r % 64).toNat, by omega⟩
    rwa [show (64 * ((⟨(r / 64).toNat, by omega⟩ : Fin 8).1 : Int) + ((⟨(r % 64).toNat, by omega⟩ : Fin 64).1 : Int)) = r by simp only []; omega] at this) hq.1 hq.2

theorem goS_gid {m m' : Meta} (h : m.gid = m'.gid) (c : Cred) (w mask : Int) : ∀ (l : List Ace) (me any : Bool), goS m c w mask l me any = goS m' c w mask l me any
  | [], _, _ => rfl
  | a :: r, me, any => by
    unfold goS
    rw [h, goS_gid h c w mask r, goS_gid h c w mask r]
theorem CanS_congr {m m' : Meta} {c : Cred} {w : Int} (hu : m.uid = m'.uid) (hg : m.gid = m'.gid) (ho : ofS m = ofS m') : CanS m c w = CanS m' c w := by
  have hgo : ∀ mask l me any, goS m c w mask l me any = goS m' c w mask l me any := goS_gid hg c w
  unfold CanS canS
  simp only [hu, ho, hgo]
theorem has_zero {k : Int} (h0 : 1 ≤ k) (h1 : k < 8) : hasS k 0 = false := by
  unfold hasS
  rw [band0 (by omega) h1]
  simp; omega
theorem of_none (mo u g : Int) : ofS { metaZ with mode := mo, uid := u, gid := g } = fromMode mo := rfl

theorem planLess_c (ns cs : Th (List Int)) (w : Th Int) (hns : isBytes (ns .o)) (hs1 : (ns .o).length ≤ 140737488355328) (hcs : isBytes (cs .o)) (hs2 : (cs .o).length ≤ 140737488355328) (hw : 0 ≤ w .o ∧ w .o < 256) :
    CallAt PT l23_PlanLess [byteI ns, byteI cs, .int .u8 w] 9999 .nil Yes := by
  refine l23_PlanLess.of rfl rfl ?_
  cbv
  refine l14_c ns (fun _ => 1) hns hs1 fun m hm => ?_
  cbv
  refine cred_c cs hcs hs2 fun c hc => ?_
  (cbv; repeat (refine safe (by first | decide | (simp only [zi] at *; omega) | assumption) ?_; cbv))
  have hms := hm.short
  have hcsh : short (c .o).groups := by have := hc.len; unfold short; omega
  have hg := hm.good
  have hb0 : band (c .o).powers 2 = 0 := by rw [hc.pw]; decide +kernel
  have w7 := rest_of hw (m := 7) (by decide)
  have hwk : IntKind.i64.wrap ((IntKind.i64.wrap (w .o)).tmod 7 + 1) = (IntKind.i64.wrap (w .o)).tmod 7 + 1 := by rw [IntKind.wrap_i64]; omega
  rw [hwk]
  generalize hk : (IntKind.i64.wrap (w .o)).tmod 7 + 1 = k
  have k7 : 1 ≤ k ∧ k < 8 := by omega
  obtain ⟨l1, l2⟩ := less_law hg
  refine pmode_ff m fun n hn => ?_
  cbv
  refine pmode_tt m hms fun o ho => ?_
  cbv
  refine plain_c n (fun _ => IntKind.i64.wrap ((c .o).uid + 1)) (fun _ => (c .o).gid) fun a ha => ?_
  cbv
  refine plain_c o (fun _ => (m .o).uid) (fun _ => (m .o).gid) fun b hb => ?_
  have hmo := hm.mode
  have hn' : n .o = 64 * ((m .o).mode / 64 % 8) := by rw [hn, band_448 hmo.1 hmo.2]
  have hn0 : bnot (n .o) 448 = 0 := by
    rw [hn']
    exact fin8 (p := fun j => bnot (64 * j) 448 = 0) (by decide +kernel) (by omega) (by omega)
  have ho' : o .o = 512 * ((m .o).mode / 512) + LessS (m .o) := by rw [ho, bnot_511 hmo.1 hmo.2, bor_512 (by omega) l1]
  have ho5 : bnot (o .o) 511 = bnot (m .o).mode 511 := by rw [bnot_511 hmo.1 hmo.2, bnot_511 (by omega) (by omega)]; omega
  have hobl : band (o .o) 511 = band (LessS (m .o)) 511 := by rw [band_mod9, band_mod9]; omega
  have hga : Good (ofS (a .o)) := by rw [ha]; exact good_mode _
  have hgb : Good (ofS (b .o)) := by rw [hb]; exact good_mode _
  have hcu := hc.uid
  have hca : Can9 (a .o) (c .o) k = false := by
    have hu : ¬ IntKind.i64.wrap ((c .o).uid + 1) = (c .o).uid := by rw [IntKind.wrap_i64]; omega
    have h7 : band (n .o) 7 = 0 := by rw [band_mod3]; omega
    have h78 : band ((n .o).fdiv (2 ^ 3)) 7 = 0 := by
      rw [band_mod3, show ((2 : Int) ^ 3) = 8 from rfl, Int.fdiv_eq_ediv_of_nonneg _ (by decide)]
      omega
    rw [can9_law hga (of9_eq _), ha, can_plain _ _ _ _ hc.pw (by omega) k7.2, if_neg hu, band_511 (by omega) (by omega), h7, h78]
    split <;> exact has_zero k7.1 k7.2
  have hcb : Can9 (b .o) (c .o) k = true → Can9 (m .o) (c .o) k = true := by
    rw [can9_law hgb (of9_eq _), can9_law hg (of9_eq _)]
    intro q
    refine l2 (c .o) k (by omega) k7.2 (by rw [hb0]; decide) ?_
    rw [← q, hb]
    refine CanS_congr rfl rfl ?_
    rw [of_none]
    show fromMode (LessS (m .o)) = fromMode (o .o)
    unfold fromMode
    rw [hobl]
  have sa : short (a .o).acl := by rw [ha]; exact short_nil
  have sb : short (b .o).acl := by rw [hb]; exact short_nil
  cbv
  refine br_dec (fun _ => ?_) (fun q => absurd hn0 q)
  cbv
  refine Can9_c a c (fun _ => k) sa hcsh fun b1 hb1 => ?_
  cbv
  refine br_nbool (fun h1 => ?_) (fun h1 => absurd (h1.symm.trans (hb1.trans hca)) (by simp))
  cbv
  refine Can9_c b c (fun _ => k) sb hcsh fun b2 hb2 => ?_
  cbv
  refine br_rev (br_nbool (fun h2 => ?_) (fun h2 => ?_))
  rotate_left
  focus
    cbv
    refine Can9_c m c (fun _ => k) hms hcsh fun b3 hb3 => ?_
    cbv
    refine br_is (hb3.trans (hcb (hb2.symm.trans h2))) ?_
    cbv
  rotate_left
  focus cbv
  all_goals
    refine br_dec (fun _ => ?_) (fun q => absurd ho5 q)
    cbv
    refine awake23_c fun b6 hb6 => ?_
    cbv
    exact ⟨b6, rfl, hb6⟩
end Go.Proofs.Yteeikiekofopnaa
