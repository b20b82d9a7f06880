/- The law RightMask, walked: it answers true whatever the numbers. -/
import Derived.Test.YteeikiekofopnaaRight
import Derived.Test.YteeikiekofopnaaRow
namespace Go.Proofs.Yteeikiekofopnaa
open Go Go.Proofs.Yteeikiekofopnaa.Sx F

def metaZ : Meta := ⟨0, 0, 0, 0, 0, [], [], [], ⟨0, 0, 0, false, 0⟩, 0⟩
theorem plain_c (mo u g : Th Int) {d : Nat} {B : BL} {K : ARes → BL → Prop} (hr : ∀ m : Th Meta, m .o = { metaZ with mode := mo .o, uid := u .o, gid := g .o } → K (.ret (Meta.av m)) B) : CallAt PT r9_Plain [.int .i64 mo, .int .i64 u, .int .i64 g] d B K := by
  refine CallAt.frame rfl rfl fun K' hK => CallAt.res ?_
  refine r9_Plain.of rfl rfl ?_
  cbv
  refine ⟨_, .ret (.agg ?_), hK _ rfl (hr (fun _ => { metaZ with mode := mo .o, uid := u .o, gid := g .o }) rfl)⟩
  exact .cons (.refl _) (.cons (.refl _) (.cons (.refl _) (.cons (.refl _) (.cons (.refl _) (.cons (.nsl rfl) (.cons (.nsl rfl) (.cons (.nsl rfl) (.cons (.refl _) (.cons (.refl _) (.cons (.refl _) (.cons (.ff rfl) (.cons (.refl _) (.cons (.refl _) .nil)))))))))))))

def credZ : Cred := ⟨0, 0, [], 0⟩
/-- Who asks, in no further group. -/
theorem cred_same (u g p : Th Int) : Same (.agg (.cons (.int .i64 u) (.cons (.int .i64 g) (.cons .nsl (.cons (.int .i64 p) .nil))))) (Cred.av fun _ => ⟨u .o, g .o, [], p .o⟩) :=
  .agg (.cons (.refl _) (.cons (.refl _) (.cons (.nsl rfl) (.cons (.refl _) .nil))))
theorem short_nil {α : Type} : short ([] : List α) := by show 0 < _; decide

theorem awake_c {d : Nat} {B : BL} {K : ARes → BL → Prop} (hr : ∀ b : Th Bool, b .o = true → K (.ret (.bool b)) B) : CallAt PT l18_awake [] d B K := by
  refine CallAt.frame rfl rfl fun K' hK => CallAt.res ?_
  refine l18_awake.of rfl rfl ?_
  cbv
  refine plain_c (fun _ => 256) (fun _ => 5) (fun _ => 5) fun m hm => ?_
  have hs : short (m .o).acl := by rw [hm]; exact short_nil
  cbv
  refine CallAt.args (.cons (.refl _) (.cons (cred_same (fun _ => 5) (fun _ => 0) (fun _ => 0)) (.cons (.refl _) .nil))) ?_
  refine Can_c m (fun _ => ⟨5, 0, [], 0⟩) (fun _ => 4) hs short_nil fun b1 hb1 => ?_
  have hb1 : b1 .o = true := by rw [hb1, hm]; decide +kernel
  cbv
  refine ⟨fun h1 => ?_, fun h1 => ?_⟩
  · refine CallAt.args (.cons (.refl _) (.cons (cred_same (fun _ => 5) (fun _ => 0) (fun _ => 0)) (.cons (.refl _) .nil))) ?_
    refine Can_c m (fun _ => ⟨5, 0, [], 0⟩) (fun _ => 2) hs short_nil fun b2 hb2 => ?_
    have hb2 : b2 .o = false := by rw [hb2, hm]; decide +kernel
    cbv
    refine ⟨fun h2 => ?_, fun h2 => ?_⟩
    · refine CallAt.args (.cons (.refl _) (.cons (cred_same (fun _ => 6) (fun _ => 0) (fun _ => 0)) (.cons (.refl _) .nil))) ?_
      refine Can_c m (fun _ => ⟨6, 0, [], 0⟩) (fun _ => 4) hs short_nil fun b3 hb3 => ?_
      have hb3 : b3 .o = false := by rw [hb3, hm]; decide +kernel
      cbv
      refine ⟨_, .ret (.refl _), hK _ rfl (hr _ ?_)⟩
      show (!b3 .o) = true
      rw [hb3]; rfl
    · have h2 : (!b2 .o) = false := h2
      rw [hb2] at h2; cases h2
  · have h1 : b1 .o = false := h1
    rw [hb1] at h1; cases h1

/-! ### the law -/
def maskM (id k n o : Int) : Meta := { metaZ with uid := 1000, gid := 1000, acl := [⟨1, 0, 0⟩, ⟨2, id, k⟩, ⟨3, 0, 7⟩, ⟨5, 0, n⟩, ⟨6, 0, o⟩] }
theorem band02 : band 0 2 = 0 := by decide +kernel
theorem fin8 {p : Int → Prop} (h : ∀ n : Fin 8, p (n.1 : Int)) {n : Int} (h0 : 0 ≤ n) (h1 : n < 8) : p n := by
  have := h ⟨n.toNat, by omega⟩
  rwa [show ((⟨n.toNat, by omega⟩ : Fin 8).1 : Int) = n from Int.toNat_of_nonneg h0] at this
theorem band7 {n : Int} (h0 : 0 ≤ n) (h1 : n < 8) : band 7 n = n := fin8 (p := fun n => band 7 n = n) (by decide +kernel) h0 h1
theorem band0 {n : Int} (h0 : 0 ≤ n) (h1 : n < 8) : band 0 n = 0 := fin8 (p := fun n => band 0 n = 0) (by decide +kernel) h0 h1

theorem mask_who {id k n o w : Int} (hid : id ≠ 1000) (hw0 : 0 ≤ w) (hw1 : w < 8) : CanS (maskM id k n o) ⟨id, 1000, [], 0⟩ w = decide (band (band k n) w = w) := by
  have h1 : ¬ w < 0 := by omega
  have h2 : ¬ 7 < w := by omega
  simp [CanS, canS, maskM, metaZ, ofS, maskS, permS, goS, ixP, hasS, band02, h1, h2, Ne.symm hid]
theorem mask_one {id k n o w : Int} (hid : id ≠ 2000) (hn0 : 0 ≤ n) (hn1 : n < 8) (hw0 : 0 ≤ w) (hw1 : w < 8) : CanS (maskM id k n o) ⟨2000, 1000, [], 0⟩ w = decide (band n w = w) := by
  have h1 : ¬ w < 0 := by omega
  have h2 : ¬ 7 < w := by omega
  simp [CanS, canS, maskM, metaZ, ofS, maskS, permS, goS, ixP, hasS, inS, band02, h1, h2, hid, band7 hn0 hn1]
theorem mask_none {id k n o w : Int} (hid : id ≠ 2000) (hw0 : 0 ≤ w) (hw1 : w < 8) : CanS (maskM id k n o) ⟨2000, 2000, [], 0⟩ w = decide (band o w = w) := by
  have h1 : ¬ w < 0 := by omega
  have h2 : ¬ 7 < w := by omega
  simp [CanS, canS, maskM, metaZ, ofS, maskS, permS, goS, ixP, hasS, inS, band02, h1, h2, hid]
theorem mask_owner {id k n o w : Int} (hw0 : 0 ≤ w) (hw1 : w < 8) : CanS (maskM id k n o) ⟨1000, 0, [], 0⟩ w = decide (w = 0) := by
  have h1 : ¬ w < 0 := by omega
  have h2 : ¬ 7 < w := by omega
  simp [CanS, canS, maskM, metaZ, ofS, permS, hasS, band02, h1, h2, band0 hw0 hw1]
  omega

/-- A byte's rest by eight. -/
theorem rest8 {x : Int} (h : 0 ≤ x ∧ x < 256) : 0 ≤ (IntKind.i64.wrap x).tmod 8 ∧ (IntKind.i64.wrap x).tmod 8 < 8 := by
  have : IntKind.i64.wrap x = x := by rw [IntKind.wrap_i64]; omega
  rw [this]
  exact ⟨Int.tmod_nonneg _ h.1, Int.tmod_lt_of_pos _ (by decide)⟩
theorem wrap_byte {x : Int} (h : 0 ≤ x ∧ x < 256) : IntKind.i64.wrap x = x := by rw [IntKind.wrap_i64]; omega

theorem rightMask_c (id k n o w : Th Int) (hid : 0 ≤ id .o ∧ id .o < 256) (hk : 0 ≤ k .o ∧ k .o < 256) (hn : 0 ≤ n .o ∧ n .o < 256) (ho : 0 ≤ o .o ∧ o .o < 256) (hw : 0 ≤ w .o ∧ w .o < 256) :
    CallAt PT l18_RightMask [.int .u8 id, .int .u8 k, .int .u8 n, .int .u8 o, .int .u8 w] 9999 .nil Yes := by
  refine l18_RightMask.of rfl rfl ?_
  cbv
  refine ⟨fun _ => by decide, fun _ => by decide, fun _ => by decide, fun _ => by decide, ?_⟩
  obtain ⟨hk0, hk1⟩ := rest8 hk
  obtain ⟨hn0, hn1⟩ := rest8 hn
  obtain ⟨hw0, hw1⟩ := rest8 hw
  have hi := wrap_byte hid
  have hid1 : IntKind.i64.wrap (id .o) ≠ 1000 := by omega
  have hid2 : IntKind.i64.wrap (id .o) ≠ 2000 := by omega
  have hsame : ∀ g : Th Nat → AV, (∀ i, i < 5 → g (fun _ => i) = Ace.ch fun _ => (maskM (IntKind.i64.wrap (id .o)) ((IntKind.i64.wrap (k .o)).tmod 8) ((IntKind.i64.wrap (n .o)).tmod 8) ((IntKind.i64.wrap (o .o)).tmod 8)).acl.getD i Ace.z) →
      Same (.agg (.cons (.int .i64 fun _ => 0) (.cons (.int .i64 fun _ => 1000) (.cons (.int .i64 fun _ => 1000) (.cons (.int .i64 fun _ => 0) (.cons (.int .i64 fun _ => 0) (.cons (.sl 3 (fun _ => 5) g) (.cons .nsl (.cons .nsl (.cons (.int .i64 fun _ => 0) (.cons (.int .u64 fun _ => 0) (.cons (.int .u64 fun _ => 0) (.cons .ff (.cons (.int .i64 fun _ => 0) (.cons (.int .i64 fun _ => 0) .nil)))))))))))))))
        (Meta.av fun _ => maskM (IntKind.i64.wrap (id .o)) ((IntKind.i64.wrap (k .o)).tmod 8) ((IntKind.i64.wrap (n .o)).tmod 8) ((IntKind.i64.wrap (o .o)).tmod 8)) := by
    intro g hg
    exact .agg (.cons (.refl _) (.cons (.refl _) (.cons (.refl _) (.cons (.refl _) (.cons (.refl _) (.cons (.sl rfl hg) (.cons (.nsl rfl) (.cons (.nsl rfl) (.cons (.refl _) (.cons (.refl _) (.cons (.refl _) (.cons (.ff rfl) (.cons (.refl _) (.cons (.refl _) .nil))))))))))))))
  have five : ∀ g g' : Nat → AV, g 0 = g' 0 → g 1 = g' 1 → g 2 = g' 2 → g 3 = g' 3 → g 4 = g' 4 → ∀ i, i < 5 → g i = g' i := by
    intro g g' h0 h1 h2 h3 h4 i hi
    match i, hi with
    | 0, _ => exact h0
    | 1, _ => exact h1
    | 2, _ => exact h2
    | 3, _ => exact h3
    | 4, _ => exact h4
  have hs : short (maskM (IntKind.i64.wrap (id .o)) ((IntKind.i64.wrap (k .o)).tmod 8) ((IntKind.i64.wrap (n .o)).tmod 8) ((IntKind.i64.wrap (o .o)).tmod 8)).acl := by show 5 < _; decide
  refine CallAt.args (.cons (hsame _ (five _ _ rfl rfl rfl rfl rfl)) (.cons (cred_same _ _ _) (.cons (.refl _) .nil))) ?_
  refine Can_c _ _ _ hs short_nil fun b1 hb1 => ?_
  have hb1 := hb1.trans (mask_who hid1 hw0 hw1)
  cbv
  refine ⟨fun h1 => ?_, fun h1 => ?_⟩
  · refine CallAt.args (.cons (hsame _ (five _ _ rfl rfl rfl rfl rfl)) (.cons (cred_same _ _ _) (.cons (.refl _) .nil))) ?_
    refine Can_c _ _ _ hs short_nil fun b2 hb2 => ?_
    have hb2 := hb2.trans (mask_one hid2 hn0 hn1 hw0 hw1)
    cbv
    refine ⟨fun h2 => ?_, fun h2 => ?_⟩
    · refine CallAt.args (.cons (hsame _ (five _ _ rfl rfl rfl rfl rfl)) (.cons (cred_same _ _ _) (.cons (.refl _) .nil))) ?_
      refine Can_c _ _ _ hs short_nil fun b3 hb3 => ?_
      have hb3 := hb3.trans (mask_none hid2 hw0 hw1)
      cbv
      refine ⟨fun h3 => ?_, fun h3 => ?_⟩
      · refine CallAt.args (.cons (hsame _ (five _ _ rfl rfl rfl rfl rfl)) (.cons (cred_same _ _ _) (.cons (.refl _) .nil))) ?_
        refine Can_c _ _ _ hs short_nil fun b4 hb4 => ?_
        have hb4 := hb4.trans (mask_owner hw0 hw1)
        cbv
        refine ⟨fun h4 => ?_, fun h4 => ?_⟩
        · refine awake_c fun b5 hb5 => ?_
          cbv
          exact ⟨b5, rfl, hb5⟩
        · have h4 : (b4 .o == decide ((IntKind.i64.wrap (w .o)).tmod 8 = 0)) = false := h4
          rw [hb4] at h4; simp at h4
      · have h3 : (b3 .o == decide (band ((IntKind.i64.wrap (o .o)).tmod 8) ((IntKind.i64.wrap (w .o)).tmod 8) = (IntKind.i64.wrap (w .o)).tmod 8)) = false := h3
        rw [hb3] at h3; simp at h3
    · have h2 : (b2 .o == decide (band ((IntKind.i64.wrap (n .o)).tmod 8) ((IntKind.i64.wrap (w .o)).tmod 8) = (IntKind.i64.wrap (w .o)).tmod 8)) = false := h2
      rw [hb2] at h2; simp at h2
  · have h1 : (b1 .o == decide (band (band ((IntKind.i64.wrap (k .o)).tmod 8) ((IntKind.i64.wrap (n .o)).tmod 8)) ((IntKind.i64.wrap (w .o)).tmod 8) = (IntKind.i64.wrap (w .o)).tmod 8)) = false := h1
    rw [hb1] at h1; simp at h1

end Go.Proofs.Yteeikiekofopnaa
