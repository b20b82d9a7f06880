/- Texts laid together: Lwa, Lwp, Lwq, St1, Fsk, Fd1, Fd6, Lwd, Lwe. -/
import Derived.Test.YtkklflpfklbbcaaDoorHd5
/- Of laws about a file system: who walks; that the law is awake. -/
namespace Go.Proofs.YtkklflpfklbbcaaDoor
open Go Go.Proofs.YtkklflpfklbbcaaDoor.Sx F
set_option linter.unusedVariables false
set_option linter.unusedSimpArgs false
theorem walk_of {f : FS} {c : Cred} (ok : FsOk f) (up : UpF f) (good : ∀ n ∈ f.nodes, Good (ofS n.mt)) (ino : ∀ n ∈ f.nodes, ∀ d ∈ n.kids, 0 ≤ d.ino) (grp : short c.groups) : Walk f c :=
  ⟨ok, up, fun w n hn => (can9_law (good n hn) (of9_eq _) c w).symm, ino, grp⟩
theorem ok_new (room : Int) : FsOk (newS room) := by
  refine ⟨by show 0 < 1; decide, by show 1 ≤ 1000; decide, fun n hn => ?_, fun n hn => ?_, by show 0 ≤ 1000; decide⟩
  · obtain rfl : n = rootS := by simpa [newS] using hn
    exact ⟨by show 0 ≤ 1000; decide, fun d hd => by simp [rootS] at hd⟩
  · obtain rfl : n = rootS := by simpa [newS] using hn
    show 0 ≤ 1000
    decide
theorem walk_new (room : Int) {c : Cred} (hc : short c.groups) : Walk (newS room) c := by
  refine walk_of (ok_new room) (fun n hn => ?_) (fun n hn => ?_) (fun n hn d hd => ?_) hc
  · obtain rfl : n = rootS := by simpa [newS] using hn
    exact .nil
  · obtain rfl : n = rootS := by simpa [newS] using hn
    exact good_mode _
  · obtain rfl : n = rootS := by simpa [newS] using hn
    simp [rootS] at hd
def dirN : Ino := { Ino.z with kind := 6 }
theorem ino_same (k mo u g ma mi : Th Int) (da ta : Th (List UInt8)) : Same (.agg (.cons (.int .i64 k) (.cons (.int .i64 mo) (.cons (.int .i64 u) (.cons (.int .i64 g) (.cons (.int .i64 fun _ => 0) (.cons (.int .i64 fun _ => 0) (.cons .nsl (.cons .nsl (.cons .nsl (.cons (.int .i64 fun _ => 0) (.cons (.int .u64 fun _ => 0) (.cons (.int .u64 fun _ => 0) (.cons .ff (.cons (.int .i64 fun _ => 0) (.cons (.int .i64 fun _ => 0) (.cons (.str da) (.cons (.str ta) (.cons (.int .i64 ma) (.cons (.int .i64 mi) (.cons .nsl .nil))))))))))))))))))))) (Ino.av fun _ => ⟨k .o, { metaZ with mode := mo .o, uid := u .o, gid := g .o }, da .o, ta .o, ma .o, mi .o, []⟩) :=
  .agg (.cons (.refl _) (.cons (.refl _) (.cons (.refl _) (.cons (.refl _) (.cons (.refl _) (.cons (.refl _) (.cons (.nsl rfl) (.cons (.nsl rfl) (.cons (.nsl rfl) (.cons (.refl _) (.cons (.refl _) (.cons (.refl _) (.cons (.ff rfl) (.cons (.refl _) (.cons (.refl _) (.cons (.refl _) (.cons (.refl _) (.cons (.refl _) (.cons (.refl _) (.cons (.nsl rfl) .nil))))))))))))))))))))
/-- A truth that is known. -/
theorem tru {b : Bool} {A B : Prop} (hb : b = true) (h : A) : (b = true → A) ∧ (b = false → B) := ⟨fun _ => h, fun q => absurd (hb.symm.trans q) (by decide)⟩
theorem fls {b : Bool} {A B : Prop} (hb : b = false) (h : B) : (b = true → A) ∧ (b = false → B) := ⟨fun q => absurd (hb.symm.trans q) (by decide), fun _ => h⟩
theorem flsF {b : Bool} {A B : Prop} (hb : b = false) (h : A) : (b = false → A) ∧ (b = true → B) := ⟨fun _ => h, fun q => absurd (hb.symm.trans q) (by decide)⟩
theorem root_look : lookS (newS 10) rootC [] = (0, 0) := by decide +kernel
theorem root_make : (chgS (newS 10) (!decide ([97] = ([] : List UInt8)) && mayMk dirN && isPath [97]) (mkD rootC [97] dirN)).2 = 0 ∧ (chgS (newS 10) (!decide ([97] = ([] : List UInt8)) && mayMk dirN && isPath [97]) (mkD rootC [97] dirN)).1.nodes.length = 2 := by decide +kernel
theorem short_root : short rootC.groups := by show 0 ≤ _; decide
theorem awake19_c {d : Nat} {K : ARes → BL → Prop} (hr : ∀ b : Th Bool, b .o = true → K (.ret (.bool b)) .nil) : CallAt PT l19_awake [] d .nil K := by
  refine CallAt.res ?_
  refine l19_awake.of rfl rfl ?_
  cbv
  refine newP_c (fun _ => 10) fun f hf => ?_
  have hf : f .o = newS 10 := hf
  cbv
  refine rootc_c ?_
  cbv
  refine findP_c f (fun _ => rootC) (fun _ => []) (by rw [hf]; exact walk_new _ short_root) (Nat.zero_le _) fun n e h1 => ?_
  have h1 : lookS (f .o) rootC [] = (n .o, e .o) := h1
  rw [hf, root_look] at h1
  have hn : n .o = 0 := (congrArg Prod.fst h1).symm
  have he : e .o = 0 := (congrArg Prod.snd h1).symm
  cbv
  refine rootc_c ?_
  cbv
  refine CallAt.args (as' := [FS.av f, Cred.av fun _ => rootC, .str fun _ => [97], Ino.av fun _ => dirN]) (.cons (.refl _) (.cons (.refl _) (.cons (.refl _) (.cons ?_ .nil)))) ?_
  · exact ino_same (fun _ => 6) (fun _ => 0) (fun _ => 0) (fun _ => 0) (fun _ => 0) (fun _ => 0) (fun _ => []) (fun _ => [])
  refine make_c f (fun _ => rootC) (fun _ => [97]) (fun _ => dirN) (by rw [hf]; exact walk_new _ short_root) (by show 1 ≤ 100000; decide) (by show 0 ≤ 1000000; decide) (by rw [hf]; decide) fun g x h2 => ?_
  have h2 : chgS (f .o) (!decide ([97] = ([] : List UInt8)) && mayMk dirN && isPath [97]) (mkD rootC [97] dirN) = (g .o, x .o) := h2
  rw [hf] at h2
  have h3 := root_make
  rw [h2] at h3
  have hx : x .o = 0 := h3.1
  have hg : (g .o).nodes.length = 2 := h3.2
  cbv
  refine tru (decide_eq_true hn) ?_
  cbv
  refine err19_c _ ?_
  cbv
  refine err19_c _ ?_
  cbv
  refine tru (decide_eq_true ?_) ?_
  · show IntKind.i64.wrap (e .o + x .o) = 0
    rw [he, hx]; decide
  cbv
  refine tru (decide_eq_true ?_) ?_
  · show zi (f .o).nodes.length = 1
    rw [hf]; rfl
  cbv
  refine tru (decide_eq_true ?_) ?_
  · show zi (g .o).nodes.length = 2
    rw [hg]; rfl
  cbv
  refine ⟨_, .ret (.refl _), (hr _ ?_)⟩
  show decide ((f .o).room = 10) = true
  rw [hf]; rfl
end Go.Proofs.YtkklflpfklbbcaaDoor
/- The law FsPaths, in plain. -/
namespace Go.Proofs.YtkklflpfklbbcaaDoor
open Go Go.Proofs.YtkklflpfklbbcaaDoor.Sx F
set_option linter.unusedVariables false
set_option linter.unusedSimpArgs false
theorem root_can (m : Meta) {w : Int} (h0 : 0 ≤ w) (h1 : w ≤ 7) : Can9 m rootC w = true := by
  have h2 : ¬ band rootC.powers 2 = 0 := by decide +kernel
  unfold Can9
  rw [if_neg (by omega), if_pos h2]
theorem root_write {m : Meta} (h : m.flags = 0) : writeS m rootC = true := by
  unfold writeS
  rw [root_can m (by decide) (by decide), h]
  decide +kernel
theorem makeS_ok {f : FS} {c : Cred} {p : List UInt8} {n : Ino} {l : List (List UInt8)} {k : Nat} (hp : partsS p = some l) (hl : l ≠ []) (hm : mayMk n = true) (ha : askE f = 0) (hd : downS (askS f) c l.dropLast 0 = ((k : Int), 0)) (hk : (f.nodes.getD k Ino.z).kind = 6)
    (hw : writeS (f.nodes.getD k Ino.z).mt c = true) (hs : kidS (f.nodes.getD k Ino.z).kids (l.getD (l.length - 1) []) = -1) (hdv : ¬ (n.kind = 4 ∨ n.kind = 5)) (hfr : ¬ (64 ≤ freeS f.nodes ∨ f.room < (n.data.length : Int))) :
    makeS f c p n = ({ askS f with nodes := ((f.nodes ++ if freeS f.nodes = f.nodes.length then [Ino.z] else []).set (freeS f.nodes) (madeS c n)).set k { f.nodes.getD k Ino.z with kids := putD ⟨l.getD (l.length - 1) [], (freeS f.nodes : Int)⟩ (f.nodes.getD k Ino.z).kids }, room := f.room - (n.data.length : Int) }, 0) := by
  unfold makeS
  rw [hp]
  show (if l = [] then (f, 1) else if mayMk n = false then (f, 1) else make1 f c l n) = _
  rw [if_neg hl, if_neg (by rw [hm]; decide)]
  unfold make1
  rw [if_neg (by rw [ha]; decide), hd, if_neg (fun q => q rfl)]
  show make2 (askS f) c (l.getD (l.length - 1) []) n k = _
  have e : (askS f).nodes = f.nodes := rfl
  unfold make2
  rw [e, if_neg (by rw [hk]; decide), if_neg (by rw [hw]; decide), hs, if_neg (by decide), if_neg (fun q => hdv q.1)]
  exact if_neg hfr
def dirI (n : Int) : Ino := ⟨6, { metaZ with mode := n }, [], [], 0, 0, []⟩
def filI : Ino := { Ino.z with kind := 1 }
def symI : Ino := ⟨3, metaZ, [], [100], 0, 0, []⟩
def FP1 (n : Int) : FS := ⟨[{ rootS with kids := [⟨[100], 1⟩] }, dirI n], 10, 1, []⟩
def FP2 (n : Int) : FS := ⟨[{ rootS with kids := [⟨[100], 1⟩] }, { dirI n with kids := [⟨[97], 2⟩] }, filI], 10, 2, []⟩
def FP3 (n : Int) : FS := ⟨[{ rootS with kids := [⟨[100], 1⟩, ⟨[115], 3⟩] }, { dirI n with kids := [⟨[97], 2⟩] }, filI, { symI with mt := { metaZ with mode := 511 } }], 10, 3, []⟩
theorem fp1 {n : Int} (h0 : 0 ≤ n) (h1 : n < 512) : makeS (newS 10) rootC [100] (dirI n) = (FP1 n, 0) := by
  refine (makeS_ok (k := 0) (l := [[100]]) (by decide +kernel) (by decide) ?_ (by decide) rfl rfl (root_write rfl) rfl (by show ¬ ((6 : Int) = 4 ∨ (6 : Int) = 5); decide) (by show ¬ (64 ≤ 1 ∨ (10 : Int) < 0); decide)).trans rfl
  have h2 : n ≤ 4095 := by omega
  have h3 : ¬ n < 0 := by omega
  have h4 : ¬ 4095 < n := by omega
  have hb : bodyS 6 [] [] 0 0 = true := by decide +kernel
  simp [mayMk, dirI, metaZ, h3, h4, hb]
theorem fp2 (n : Int) : makeS (FP1 n) rootC [100, 47, 97] filI = (FP2 n, 0) := by
  refine (makeS_ok (k := 1) (l := [[100], [97]]) (by decide +kernel) (by decide) (by decide +kernel) (if_neg (by show ¬ _ ∈ ([] : List Int); simp)) ?_ rfl (root_write rfl) rfl (by show ¬ ((1 : Int) = 4 ∨ (1 : Int) = 5); decide) (by show ¬ (64 ≤ 2 ∨ (10 : Int) < 0); decide)).trans rfl
  show downS (askS (FP1 n)) rootC [[100]] 0 = _
  unfold downS
  rw [if_neg (by show ¬ (6 : Int) ≠ 6; decide), root_can _ (by decide) (by decide), if_neg (by decide)]
  rfl
theorem fp3 (n : Int) : makeS (FP2 n) rootC [115] symI = (FP3 n, 0) := by
  refine (makeS_ok (k := 0) (l := [[115]]) (by decide +kernel) (by decide) (by decide +kernel) (if_neg (by show ¬ _ ∈ ([] : List Int); simp)) rfl rfl (root_write rfl) rfl (by show ¬ ((3 : Int) = 4 ∨ (3 : Int) = 5); decide) (by show ¬ (64 ≤ 3 ∨ (10 : Int) < 0); decide)).trans rfl
theorem down_cons {f : FS} {c : Cred} {s : List UInt8} {r : List (List UInt8)} {k : Nat} (hk : (f.nodes.getD k Ino.z).kind = 6) (hc : Can9 (f.nodes.getD k Ino.z).mt c 1 = true) {m : Nat} (hs : kidS (f.nodes.getD k Ino.z).kids s = (m : Int)) : downS f c (s :: r) k = downS f c r m := by
  unfold downS
  rw [if_neg (by rw [hk]; decide), hc, if_neg (by decide), hs, if_neg (by omega)]
  rw [show ((m : Int)).toNat = m from rfl]
  cases r <;> rfl
theorem down_kind {f : FS} {c : Cred} {s : List UInt8} {r : List (List UInt8)} {k : Nat} (hk : (f.nodes.getD k Ino.z).kind ≠ 6) : downS f c (s :: r) k = (0, 10) := by
  unfold downS; rw [if_pos hk]
theorem down_den {f : FS} {c : Cred} {s : List UInt8} {r : List (List UInt8)} {k : Nat} (hk : (f.nodes.getD k Ino.z).kind = 6) (hc : Can9 (f.nodes.getD k Ino.z).mt c 1 = false) : downS f c (s :: r) k = (0, 7) := by
  unfold downS; rw [if_neg (by rw [hk]; decide), if_pos hc]
theorem down_none {f : FS} {c : Cred} {s : List UInt8} {r : List (List UInt8)} {k : Nat} (hk : (f.nodes.getD k Ino.z).kind = 6) (hc : Can9 (f.nodes.getD k Ino.z).mt c 1 = true) (hs : kidS (f.nodes.getD k Ino.z).kids s < 0) : downS f c (s :: r) k = (0, 2) := by
  unfold downS; rw [if_neg (by rw [hk]; decide), hc, if_neg (by decide), if_pos hs]
theorem look_some {f : FS} {c : Cred} {p : List UInt8} {l : List (List UInt8)} (h : partsS p = some l) : lookS f c p = downS f c l 0 := by unfold lookS; rw [h]
theorem root_xF (c : Cred) : Can9 rootS.mt c 1 = true := by
  have h1 : permR (of9 rootS.mt) 1 = 7 := by decide +kernel
  have h6 : permR (of9 rootS.mt) 6 = 5 := by decide +kernel
  have hm : mask9 (of9 rootS.mt) = 7 := by decide +kernel
  have hl : of9 rootS.mt = [⟨1, 0, 7⟩, ⟨3, 0, 5⟩, ⟨6, 0, 5⟩] := by kernel_rfl
  have e7 : band 7 1 = 1 := by decide +kernel
  have e5 : band 5 1 = 1 := by decide +kernel
  have e57 : band (band 5 7) 1 = 1 := by decide +kernel
  unfold Can9
  rw [h1, h6, hm, hl]
  simp [hasS, user9, grp9, e7, e5, e57]
theorem lp1 (n : Int) : lookS (FP3 n) rootC [100, 47, 97] = (2, 0) := by
  rw [look_some (l := [[100], [97]]) (by decide +kernel), down_cons (m := 1) rfl (root_can _ (by decide) (by decide)) rfl, down_cons (m := 2) rfl (root_can _ (by decide) (by decide)) rfl]
  rfl
theorem lp2 (n : Int) : lookS (FP3 n) rootC [115, 47, 97] = (0, 10) := by
  rw [look_some (l := [[115], [97]]) (by decide +kernel), down_cons (m := 3) rfl (root_can _ (by decide) (by decide)) rfl]
  exact down_kind (by show (3 : Int) ≠ 6; decide)
theorem lp3 (n : Int) : lookS (FP3 n) rootC [100, 47, 98] = (0, 2) := by
  rw [look_some (l := [[100], [98]]) (by decide +kernel), down_cons (m := 1) rfl (root_can _ (by decide) (by decide)) rfl]
  exact down_none rfl (root_can _ (by decide) (by decide)) (by show kidS [⟨[97], 2⟩] [98] < 0; decide)
theorem lp4 (n : Int) : lookS (FP3 n) rootC [100, 47, 47, 97] = (0, 1) := by
  have h : partsS [100, 47, 47, 97] = none := by decide +kernel
  unfold lookS; rw [h]
theorem fin8x64 {p : Int → Prop} (h : ∀ a : Fin 8, ∀ b : Fin 64, p ((a.1 * 64 + b.1 : Nat) : Int)) {n : Int} (h0 : 0 ≤ n) (h1 : n < 512) : p n := by
  have := h ⟨n.toNat / 64, by omega⟩ ⟨n.toNat % 64, by omega⟩
  rwa [show ((n.toNat / 64 * 64 + n.toNat % 64 : Nat) : Int) = n by omega] at this
theorem dir_can {n : Int} (h0 : 0 ≤ n) (h1 : n < 512) {u : Int} (hu : 1 ≤ u) : Can9 (dirI n).mt ⟨u, 1, [], 0⟩ 1 = !decide (band n 1 = 0) := by
  have h2 := fin8x64 (p := fun n => hasS 1 (band n 7) = !decide (band n 1 = 0)) (by decide +kernel) h0 h1
  have hu0 : ¬ (0 : Int) = u := by omega
  have h3 : band 0 2 = 0 := by decide +kernel
  rw [← h2]
  have hl : ∃ a b, of9 (dirI n).mt = [⟨1, 0, a⟩, ⟨3, 0, b⟩, ⟨6, 0, band n 7⟩] := ⟨_, _, rfl⟩
  obtain ⟨a, b, hl⟩ := hl
  unfold Can9
  rw [hl]
  simp [dirI, metaZ, h3, hu0, user9, grp9, inS, permR, permS]
theorem lp5 {n : Int} (h0 : 0 ≤ n) (h1 : n < 512) {u : Int} (hu : 1 ≤ u) : lookS (FP3 n) ⟨u, 1, [], 0⟩ [100, 47, 97] = if band n 1 = 0 then (0, 7) else (2, 0) := by
  have hc := dir_can h0 h1 hu
  rw [look_some (l := [[100], [97]]) (by decide +kernel), down_cons (f := FP3 n) (k := 0) (c := ⟨u, 1, [], 0⟩) (m := 1) rfl (root_xF ⟨u, 1, [], 0⟩) rfl]
  by_cases q : band n 1 = 0
  · rw [if_pos q]
    rw [q] at hc
    exact down_den rfl hc
  · rw [if_neg q]
    rw [decide_eq_false q] at hc
    rw [down_cons (f := FP3 n) (k := 1) (c := ⟨u, 1, [], 0⟩) (m := 2) rfl hc rfl]
    rfl
theorem lp6 {n : Int} (h0 : 0 ≤ n) (h1 : n < 512) {u : Int} (hu : 1 ≤ u) : lookS (FP3 n) ⟨u, 1, [], 0⟩ [100, 47, 97, 47, 120] = if band n 1 = 0 then (0, 7) else (0, 10) := by
  have hc := dir_can h0 h1 hu
  rw [look_some (l := [[100], [97], [120]]) (by decide +kernel), down_cons (f := FP3 n) (k := 0) (c := ⟨u, 1, [], 0⟩) (m := 1) rfl (root_xF ⟨u, 1, [], 0⟩) rfl]
  by_cases q : band n 1 = 0
  · rw [if_pos q]
    rw [q] at hc
    exact down_den rfl hc
  · rw [if_neg q]
    rw [decide_eq_false q] at hc
    rw [down_cons (f := FP3 n) (k := 1) (c := ⟨u, 1, [], 0⟩) (m := 2) rfl hc rfl]
    exact down_kind (by show (1 : Int) ≠ 6; decide)
theorem walk_l {f : FS} {c : Cred} (hc : short c.groups) (h0 : 0 < f.nodes.length) (h1 : f.nodes.length ≤ 1000) (hf : f.faults = []) (h : ∀ n ∈ f.nodes, n.kids.length ≤ 1000 ∧ (∀ d ∈ n.kids, 0 ≤ d.ino ∧ d.ino < f.nodes.length) ∧ n.kids.Pairwise ltD ∧ n.mt.acl = []) : Walk f c := by
  refine walk_of ⟨h0, h1, fun n hn => ⟨(h n hn).1, fun d hd => ((h n hn).2.1 d hd).2⟩, fun n hn => by rw [(h n hn).2.2.2]; decide, by rw [hf]; decide⟩ (fun n hn => (h n hn).2.2.1) (fun n hn => ?_) (fun n hn d hd => ((h n hn).2.1 d hd).1) hc
  have e := (h n hn).2.2.2
  unfold ofS
  rw [if_neg (by rw [e]; decide)]
  exact good_mode _
theorem walk_fp3 (n : Int) {c : Cred} (hc : short c.groups) : Walk (FP3 n) c := by
  refine walk_l hc (by show 0 < 4; decide) (by show 4 ≤ 1000; decide) rfl fun x hx => ?_
  have hx : x = { rootS with kids := [⟨[100], 1⟩, ⟨[115], 3⟩] } ∨ x = { dirI n with kids := [⟨[97], 2⟩] } ∨ x = filI ∨ x = { symI with mt := { metaZ with mode := 511 } } := by simpa [FP3] using hx
  rcases hx with rfl | rfl | rfl | rfl
  · exact ⟨by show 2 ≤ 1000; decide, (by decide : ∀ d ∈ [(⟨[100], 1⟩ : Dent), ⟨[115], 3⟩], 0 ≤ d.ino ∧ d.ino < 4), .cons (fun a ha => by obtain rfl := List.mem_singleton.1 ha; show strLt [100] [115] = true; decide +kernel) (List.pairwise_singleton _ _), rfl⟩
  · exact ⟨by show 1 ≤ 1000; decide, (by decide : ∀ d ∈ [(⟨[97], 2⟩ : Dent)], 0 ≤ d.ino ∧ d.ino < 4), List.pairwise_singleton _ _, rfl⟩
  · exact ⟨by show 0 ≤ 1000; decide, (fun d (hd : d ∈ ([] : List Dent)) => absurd hd List.not_mem_nil), List.Pairwise.nil, rfl⟩
  · exact ⟨by show 0 ≤ 1000; decide, (fun d (hd : d ∈ ([] : List Dent)) => absurd hd List.not_mem_nil), List.Pairwise.nil, rfl⟩
theorem ok_fp1 (n : Int) : FsOk (FP1 n) := (walk_l (c := rootC) short_root (by show 0 < 2; decide) (by show 2 ≤ 1000; decide) rfl fun x hx => by
  have hx : x = { rootS with kids := [⟨[100], 1⟩] } ∨ x = dirI n := by simpa [FP1] using hx
  rcases hx with rfl | rfl
  · exact ⟨by show 1 ≤ 1000; decide, (by decide : ∀ d ∈ [(⟨[100], 1⟩ : Dent)], 0 ≤ d.ino ∧ d.ino < 2), List.pairwise_singleton _ _, rfl⟩
  · exact ⟨by show 0 ≤ 1000; decide, (fun d (hd : d ∈ ([] : List Dent)) => absurd hd List.not_mem_nil), List.Pairwise.nil, rfl⟩).ok
theorem ok_fp2 (n : Int) : FsOk (FP2 n) := (walk_l (c := rootC) short_root (by show 0 < 3; decide) (by show 3 ≤ 1000; decide) rfl fun x hx => by
  have hx : x = { rootS with kids := [⟨[100], 1⟩] } ∨ x = { dirI n with kids := [⟨[97], 2⟩] } ∨ x = filI := by simpa [FP2] using hx
  rcases hx with rfl | rfl | rfl
  · exact ⟨by show 1 ≤ 1000; decide, (by decide : ∀ d ∈ [(⟨[100], 1⟩ : Dent)], 0 ≤ d.ino ∧ d.ino < 3), List.pairwise_singleton _ _, rfl⟩
  · exact ⟨by show 1 ≤ 1000; decide, (by decide : ∀ d ∈ [(⟨[97], 2⟩ : Dent)], 0 ≤ d.ino ∧ d.ino < 3), List.pairwise_singleton _ _, rfl⟩
  · exact ⟨by show 0 ≤ 1000; decide, (fun d (hd : d ∈ ([] : List Dent)) => absurd hd List.not_mem_nil), List.Pairwise.nil, rfl⟩).ok
end Go.Proofs.YtkklflpfklbbcaaDoor
/- The law FsPaths, walked: it answers true whatever the numbers. -/
namespace Go.Proofs.YtkklflpfklbbcaaDoor
open Go Go.Proofs.YtkklflpfklbbcaaDoor.Sx F
set_option linter.unusedVariables false
set_option linter.unusedSimpArgs false
theorem fsPaths_c (mode uid : Th Int) (hm : 0 ≤ mode .o ∧ mode .o < 65536) (hg : 0 ≤ uid .o ∧ uid .o < 256) : CallAt PT l19_FsPaths [.int .u16 mode, .int .u8 uid] 9999 .nil Yes := by
  have wi : ∀ {x : Int}, -9223372036854775808 ≤ x ∧ x ≤ 9223372036854775807 → IntKind.i64.wrap x = x := fun h => by rw [IntKind.wrap_i64]; omega
  have hG : 1 ≤ (IntKind.i64.wrap (1 + IntKind.i64.wrap (uid .o))) := by
    rw [wrap_byte hg, wi (by omega)]; omega
  have hn : 0 ≤ ((IntKind.i64.wrap (mode .o)).tmod 512) ∧ ((IntKind.i64.wrap (mode .o)).tmod 512) < 512 := by
    rw [wi (by omega)]
    exact ⟨Int.tmod_nonneg _ hm.1, Int.tmod_lt_of_pos _ (by decide)⟩
  refine l19_FsPaths.of rfl rfl ?_
  cbv
  refine ⟨fun _ => by decide, ?_⟩
  refine new18_c (fun _ => 10) fun f hf => ?_
  have hf : f .o = newS 10 := hf
  cbv
  refine rootc_c ?_
  cbv
  refine plain_c (fun _ => ((IntKind.i64.wrap (mode .o)).tmod 512)) (fun _ => 0) (fun _ => 0) fun m hm1 => ?_
  have hm1 : m .o = (dirI ((IntKind.i64.wrap (mode .o)).tmod 512)).mt := hm1
  cbv
  refine CallAt.args (as' := [FS.av f, Cred.av fun _ => rootC, .str fun _ => [100], Ino.av fun _ => dirI ((IntKind.i64.wrap (mode .o)).tmod 512)]) (.cons (.refl _) (.cons (.refl _) (.cons (.refl _) (.cons (by rw [show (fun _ : O1 => dirI ((IntKind.i64.wrap (mode .o)).tmod 512)) = fun _ => (⟨6, m .o, [], [], 0, 0, []⟩ : Ino) from funext fun _ => by rw [hm1]; rfl]; exact .agg (.cons (.refl _) (.cons (.refl _) (.cons (.refl _) (.cons (.refl _) (.cons (.refl _) (.cons (.refl _) (.cons (.refl _) (.cons (.refl _) (.cons (.refl _) (.cons (.refl _) (.cons (.refl _) (.cons (.refl _) (.cons (.refl _) (.cons (.refl _) (.cons (.refl _) (.cons (.refl _) (.cons (.refl _) (.cons (.refl _) (.cons (.refl _) (.cons (.nsl rfl) .nil))))))))))))))))))))) .nil)))) ?_
  refine make18_c f (fun _ => rootC) (fun _ => [100]) (fun _ => dirI ((IntKind.i64.wrap (mode .o)).tmod 512)) (by rw [hf]; exact ok_new 10) short_root (by show 1 ≤ 100000; decide) (by show 0 ≤ 100000; decide) (by show 0 ≤ 100000; decide) (by rw [hf]; decide) fun f1 ef1 qf1 => ?_
  have qf1 := (congrArg (fun f => makeS f rootC [100] (dirI ((IntKind.i64.wrap (mode .o)).tmod 512))) hf).symm.trans qf1
  rw [fp1 hn.1 hn.2] at qf1
  have hf1 : f1 .o = FP1 ((IntKind.i64.wrap (mode .o)).tmod 512) := (congrArg Prod.fst qf1).symm
  cbv
  refine rootc_c ?_
  cbv
  refine CallAt.args (as' := [FS.av f1, Cred.av fun _ => rootC, .str fun _ => [100, 47, 97], Ino.av fun _ => filI]) (.cons (.refl _) (.cons (.refl _) (.cons (.refl _) (.cons (ino_same (fun _ => 1) (fun _ => 0) (fun _ => 0) (fun _ => 0) (fun _ => 0) (fun _ => 0) (fun _ => []) (fun _ => [])) .nil)))) ?_
  refine make18_c f1 (fun _ => rootC) (fun _ => [100, 47, 97]) (fun _ => filI) (by rw [hf1]; exact ok_fp1 _) short_root (by show 3 ≤ 100000; decide) (by show 0 ≤ 100000; decide) (by show 0 ≤ 100000; decide) (by rw [hf1]; show -1000000 ≤ (10 : Int) ∧ (10 : Int) ≤ 1000000; decide) fun f2 ef2 qf2 => ?_
  have qf2 := (congrArg (fun f => makeS f rootC [100, 47, 97] filI) hf1).symm.trans qf2
  rw [fp2] at qf2
  have hf2 : f2 .o = FP2 ((IntKind.i64.wrap (mode .o)).tmod 512) := (congrArg Prod.fst qf2).symm
  cbv
  refine rootc_c ?_
  cbv
  refine CallAt.args (as' := [FS.av f2, Cred.av fun _ => rootC, .str fun _ => [115], Ino.av fun _ => symI]) (.cons (.refl _) (.cons (.refl _) (.cons (.refl _) (.cons (ino_same (fun _ => 3) (fun _ => 0) (fun _ => 0) (fun _ => 0) (fun _ => 0) (fun _ => 0) (fun _ => []) (fun _ => [100])) .nil)))) ?_
  refine make18_c f2 (fun _ => rootC) (fun _ => [115]) (fun _ => symI) (by rw [hf2]; exact ok_fp2 _) short_root (by show 1 ≤ 100000; decide) (by show 1 ≤ 100000; decide) (by show 0 ≤ 100000; decide) (by rw [hf2]; show -1000000 ≤ (10 : Int) ∧ (10 : Int) ≤ 1000000; decide) fun f3 ef3 qf3 => ?_
  have qf3 := (congrArg (fun f => makeS f rootC [115] symI) hf2).symm.trans qf3
  rw [fp3] at qf3
  have hf3 : f3 .o = FP3 ((IntKind.i64.wrap (mode .o)).tmod 512) := (congrArg Prod.fst qf3).symm
  cbv
  have wk : ∀ c : Cred, short c.groups → Walk (f3 .o) c := fun c hc => by rw [hf3]; exact walk_fp3 _ hc
  refine rootc_c ?_
  cbv
  refine findP_c f3 (fun _ => rootC) (fun _ => [100, 47, 97]) (wk _ short_root) (by show 3 ≤ 100000; decide) fun n1 e1 q1 => ?_
  have q1 := (congrArg (fun f => lookS f rootC [100, 47, 97]) hf3).symm.trans q1
  have q1 := (lp1 _).symm.trans q1
  cbv
  refine rootc_c ?_
  cbv
  refine findP_c f3 (fun _ => rootC) (fun _ => [115, 47, 97]) (wk _ short_root) (by show 3 ≤ 100000; decide) fun n2 e2 q2 => ?_
  have q2 := (congrArg (fun f => lookS f rootC [115, 47, 97]) hf3).symm.trans q2
  have q2 := (lp2 _).symm.trans q2
  cbv
  refine rootc_c ?_
  cbv
  refine findP_c f3 (fun _ => rootC) (fun _ => [100, 47, 98]) (wk _ short_root) (by show 3 ≤ 100000; decide) fun n3 e3 q3 => ?_
  have q3 := (congrArg (fun f => lookS f rootC [100, 47, 98]) hf3).symm.trans q3
  have q3 := (lp3 _).symm.trans q3
  cbv
  refine rootc_c ?_
  cbv
  refine findP_c f3 (fun _ => rootC) (fun _ => [100, 47, 47, 97]) (wk _ short_root) (by show 4 ≤ 100000; decide) fun n4 e4 q4 => ?_
  have q4 := (congrArg (fun f => lookS f rootC [100, 47, 47, 97]) hf3).symm.trans q4
  have q4 := (lp4 _).symm.trans q4
  cbv
  refine CallAt.args (as' := [FS.av f3, Cred.av fun _ => ⟨(IntKind.i64.wrap (1 + IntKind.i64.wrap (uid .o))), 1, [], 0⟩, .str fun _ => [100, 47, 97]]) (.cons (.refl _) (.cons (cred_same (fun _ => (IntKind.i64.wrap (1 + IntKind.i64.wrap (uid .o)))) (fun _ => 1) (fun _ => 0)) (.cons (.refl _) .nil))) ?_
  refine findP_c f3 (fun _ => ⟨(IntKind.i64.wrap (1 + IntKind.i64.wrap (uid .o))), 1, [], 0⟩) (fun _ => [100, 47, 97]) (wk _ short_nil) (by show 3 ≤ 100000; decide) fun n5 e5 q5 => ?_
  have q5 := (congrArg (fun f => lookS f ⟨(IntKind.i64.wrap (1 + IntKind.i64.wrap (uid .o))), 1, [], 0⟩ [100, 47, 97]) hf3).symm.trans q5
  have q5 := (lp5 hn.1 hn.2 hG).symm.trans q5
  cbv
  refine CallAt.args (as' := [FS.av f3, Cred.av fun _ => ⟨(IntKind.i64.wrap (1 + IntKind.i64.wrap (uid .o))), 1, [], 0⟩, .str fun _ => [100, 47, 97, 47, 120]]) (.cons (.refl _) (.cons (cred_same (fun _ => (IntKind.i64.wrap (1 + IntKind.i64.wrap (uid .o)))) (fun _ => 1) (fun _ => 0)) (.cons (.refl _) .nil))) ?_
  refine findP_c f3 (fun _ => ⟨(IntKind.i64.wrap (1 + IntKind.i64.wrap (uid .o))), 1, [], 0⟩) (fun _ => [100, 47, 97, 47, 120]) (wk _ short_nil) (by show 5 ≤ 100000; decide) fun n6 e6 q6 => ?_
  have q6 := (congrArg (fun f => lookS f ⟨(IntKind.i64.wrap (1 + IntKind.i64.wrap (uid .o))), 1, [], 0⟩ [100, 47, 97, 47, 120]) hf3).symm.trans q6
  have q6 := (lp6 hn.1 hn.2 hG).symm.trans q6
  cbv
  have xn1 : n1 .o = 2 := (congrArg Prod.fst q1).symm
  have xe1 : e1 .o = 0 := (congrArg Prod.snd q1).symm
  have xn2 : n2 .o = 0 := (congrArg Prod.fst q2).symm
  have xe2 : e2 .o = 10 := (congrArg Prod.snd q2).symm
  have xn3 : n3 .o = 0 := (congrArg Prod.fst q3).symm
  have xe3 : e3 .o = 2 := (congrArg Prod.snd q3).symm
  have xn4 : n4 .o = 0 := (congrArg Prod.fst q4).symm
  have xe4 : e4 .o = 1 := (congrArg Prod.snd q4).symm
  refine err19_c _ ?_
  cbv
  refine flsF (by show (!decide (e1 .o = 0)) = false; rw [xe1]; rfl) ?_
  cbv
  refine flsF (by show (!decide (n1 .o = 2)) = false; rw [xn1]; rfl) ?_
  cbv
  refine err19_c _ ?_
  cbv
  refine flsF (by show (!decide (e2 .o = 10)) = false; rw [xe2]; rfl) ?_
  cbv
  refine err19_c _ ?_
  cbv
  refine flsF (by show (!decide (e3 .o = 2)) = false; rw [xe3]; rfl) ?_
  cbv
  refine err19_c _ ?_
  cbv
  refine fls (by show (!decide (e4 .o = 1)) = false; rw [xe4]; rfl) ?_
  cbv
  refine ⟨fun hb => ?_, fun hb => ?_⟩
  · have hb : band ((IntKind.i64.wrap (mode .o)).tmod 512) 1 = 0 := of_decide_eq_true hb
    rw [if_pos hb] at q5 q6
    cbv
    refine err19_c _ ?_
    cbv
    refine tru (decide_eq_true ((congrArg Prod.snd q5).symm : e5 .o = 7)) ?_
    cbv
    refine tru (decide_eq_true ((congrArg Prod.fst q5).symm : n5 .o = 0)) ?_
    cbv
    refine err19_c _ ?_
    cbv
    refine tru (decide_eq_true ((congrArg Prod.snd q6).symm : e6 .o = 7)) ?_
    cbv
    refine awake19_c fun b5 hb5 => ?_
    cbv
    exact ⟨b5, rfl, hb5⟩
  · have hb : ¬ band ((IntKind.i64.wrap (mode .o)).tmod 512) 1 = 0 := of_decide_eq_false hb
    rw [if_neg hb] at q5 q6
    cbv
    refine err19_c _ ?_
    cbv
    refine tru (decide_eq_true ((congrArg Prod.snd q5).symm : e5 .o = 0)) ?_
    cbv
    refine tru (decide_eq_true ((congrArg Prod.fst q5).symm : n5 .o = 2)) ?_
    cbv
    refine err19_c _ ?_
    cbv
    refine tru (decide_eq_true ((congrArg Prod.snd q6).symm : e6 .o = 10)) ?_
    cbv
    refine awake19_c fun b5 hb5 => ?_
    cbv
    exact ⟨b5, rfl, hb5⟩
end Go.Proofs.YtkklflpfklbbcaaDoor
/- The program's file system: closures that change a node: its time, its capabilities, its flags. -/
namespace Go.Proofs.YtkklflpfklbbcaaDoor
open Go Go.Proofs.YtkklflpfklbbcaaDoor.Sx F
set_option linter.unusedVariables false
set_option linter.unusedSimpArgs false
/-- A node at a path is looked at, and changed. -/
def upD (c : Cred) (p : List UInt8) (chk : Ino → Int) (upd : Ino → Ino) (f : FS) : Int ⊕ FS :=
  if (lookS f c p).2 ≠ 0 then .inl (lookS f c p).2 else
  if chk (f.nodes.getD (lookS f c p).1.toNat Ino.z) ≠ 0 then .inl (chk (f.nodes.getD (lookS f c p).1.toNat Ino.z)) else
  .inr { f with nodes := f.nodes.set (lookS f c p).1.toNat (upd (f.nodes.getD (lookS f c p).1.toNat Ino.z)) }
end Go.Proofs.YtkklflpfklbbcaaDoor
/- A file system, by the document: a node that is to be changed. -/
namespace Go.Proofs.YtkklflpfklbbcaaDoor
open Go Go.Proofs.YtkklflpfklbbcaaDoor.Sx F
set_option linter.unusedVariables false
set_option linter.unusedSimpArgs false
/-- Begun, and nothing came of it. -/
def setE (f : Th FS) (e : Th Int) : AV := .agg (.cons (inos fun _ => (f .o).nodes) (.cons (.int .i64 fun _ => (f .o).room) (.cons (.int .i64 fun _ => (f .o).op) (.cons (ints fun _ => (f .o).faults) (.cons (.int .i64 fun _ => 0)
  (.cons (.int .i64 fun _ => 0) (.cons (.int .i64 fun _ => 0) (.cons (.int .i64 fun _ => 0) (.cons (.int .i64 fun _ => 0) (.cons (.int .i64 fun _ => 0) (.cons (.int .i64 fun _ => 0) (.cons .nsl (.cons .nsl (.cons .nsl (.cons (.int .i64 fun _ => 0) (.cons (.int .u64 fun _ => 0) (.cons (.int .u64 fun _ => 0) (.cons .ff (.cons (.int .i64 fun _ => 0) (.cons (.int .i64 fun _ => 0) (.cons (.str fun _ => []) (.cons (.str fun _ => []) (.cons (.int .i64 fun _ => 0) (.cons (.int .i64 fun _ => 0) (.cons .nsl (.cons (.int .i64 e) .nil))))))))))))))))))))))))))
/-- Begun, with a node. -/
def setAv (f : Th FS) (k : Th Int) (n : Th Ino) : AV := .agg (.cons (inos fun _ => (f .o).nodes) (.cons (.int .i64 fun _ => (f .o).room) (.cons (.int .i64 fun _ => (f .o).op) (.cons (ints fun _ => (f .o).faults) (.cons (.int .i64 k) ((Ino.ch n).app (.cons (.int .i64 fun _ => 0) .nil)))))))
def begS (f : FS) (c : Cred) (p : List UInt8) (may : Bool) : (FS × Int) ⊕ Nat := match partsS p with
  | none => .inl (f, 1)
  | some l => if may = false then .inl (f, 1) else if askE f ≠ 0 then .inl (askS f, askE f) else
    if (downS (askS f) c l 0).2 ≠ 0 then .inl (askS f, (downS (askS f) c l 0).2) else .inr (downS (askS f) c l 0).1.toNat
theorem begun_c (f : Th FS) (c : Th Cred) (p : Th (List UInt8)) (may : Th Bool) (hf : FsOk (f .o)) (hc : short (c .o).groups) (hp : (p .o).length ≤ 100000) {d : Nat} {K : ARes → BL → Prop}
    (h1 : ∀ (g : Th FS) (e : Th Int), begS (f .o) (c .o) (p .o) (may .o) = .inl (g .o, e .o) → e .o ≠ 0 → K (.ret (setE g e)) .nil)
    (h2 : ∀ k : Nat, begS (f .o) (c .o) (p .o) (may .o) = .inr k → k < (f .o).nodes.length → K (.ret (setAv (fun _ => askS (f .o)) (fun _ => zi k) fun _ => (f .o).nodes.getD k Ino.z)) .nil) : CallAt PT r18_begun [FS.av f, Cred.av c, .str p, .bool may] d .nil K := by
  generalize hV : begS (f .o) (c .o) (p .o) (may .o) = V at h1 h2
  unfold begS at hV
  refine r18_begun.of rfl rfl ?_
  cbv
  refine parts18_c p hp (fun l hl => ?_) (fun hl => ?_)
  rotate_left
  · rw [hl] at hV
    cbv
    exact h1 f (fun _ => 1) hV.symm (by decide)
  rw [hl] at hV
  have hV : (if may .o = false then .inl (f .o, 1) else if askE (f .o) ≠ 0 then .inl (askS (f .o), askE (f .o)) else
    if (downS (askS (f .o)) (c .o) (l .o) 0).2 ≠ 0 then .inl (askS (f .o), (downS (askS (f .o)) (c .o) (l .o) 0).2) else .inr (downS (askS (f .o)) (c .o) (l .o) 0).1.toNat) = V := hV
  have hl64 := parts_len hl
  cbv
  refine br_nbool (fun q1 => ?_) (fun q1 => ?_)
  · rw [if_pos q1] at hV
    cbv
    exact h1 f (fun _ => 1) hV.symm (by decide)
  rw [if_neg (by rw [q1]; simp)] at hV
  cbv
  refine asked_c f hf fun e0 he0 => ?_
  rw [← he0] at hV
  cbv
  refine br_ndec (fun q2 => ?_) (fun q2 => ?_)
  · have q2 : ¬ e0 .o = 0 := q2
    rw [if_pos q2] at hV
    cbv
    exact h1 (fun _ => askS (f .o)) e0 hV.symm q2
  have q2 : e0 .o = 0 := q2
  rw [if_neg (by simpa using q2)] at hV
  cbv
  refine down18_c (fun _ => askS (f .o)) c l hf.ask hc (by omega) fun a e1 ha => ?_
  have ha : downS (askS (f .o)) (c .o) (l .o) 0 = (a .o, e1 .o) := ha
  rw [ha] at hV
  cbv
  refine br_ndec (fun q3 => ?_) (fun q3 => ?_)
  · have q3 : ¬ e1 .o = 0 := q3
    have hV : (if ¬ e1 .o = 0 then (.inl (askS (f .o), e1 .o) : (FS × Int) ⊕ Nat) else .inr (a .o).toNat) = V := hV
    rw [if_pos q3] at hV
    cbv
    exact h1 (fun _ => askS (f .o)) e1 hV.symm q3
  have q3 : e1 .o = 0 := q3
  have hV : (if ¬ e1 .o = 0 then (.inl (askS (f .o), e1 .o) : (FS × Int) ⊕ Nat) else .inr (a .o).toNat) = V := hV
  rw [if_neg (by simpa using q3)] at hV
  rw [q3] at ha
  obtain ⟨ha0, ha1⟩ := down_lt hf.ask _ 0 hf.ne _ ha
  obtain ⟨k, hk⟩ : ∃ k : Nat, a .o = zi k := ⟨(a .o).toNat, by unfold zi; omega⟩
  obtain rfl : a = fun _ => zi k := funext fun | .o => hk
  have hkz := zi_toNat k
  have ha1 : (zi k).toNat < (f .o).nodes.length := ha1
  have hV : (.inr (zi k).toNat : (FS × Int) ⊕ Nat) = V := hV
  rw [hkz] at ha1 hV
  cbv
  refine safe ⟨zi_nonneg _, zi_lt.2 ha1⟩ ?_
  simp only [hkz]
  exact h2 k hV.symm ha1
def endS (f : FS) (k : Nat) (n0 : Ino) (kind allowed : Bool) (n : Ino) : FS × Int := if kind = false then (f, 10) else if allowed = false ∨ shutS n0.mt = true then (f, 7) else (withS f k n, 0)
theorem ended_c (f : Th FS) (k : Nat) (n0 : Th Ino) (kind allowed : Th Bool) (n : Th Ino) (hf : FsOk (f .o)) (hk : k < (f .o).nodes.length) {d : Nat} {K : ARes → BL → Prop}
    (hr : ∀ (g : Th FS) (e : Th Int), endS (f .o) k (n0 .o) (kind .o) (allowed .o) (n .o) = (g .o, e .o) → K (.ret (nextAv g e)) .nil) : CallAt PT r18_ended [setAv f (fun _ => zi k) n0, .bool kind, .bool allowed, Ino.av n] d .nil K := by
  have hkz := zi_toNat k
  unfold endS at hr
  refine r18_ended.of rfl rfl ?_
  cbv
  refine br_nbool (fun q1 => ?_) (fun q1 => ?_)
  · rw [if_pos q1] at hr
    cbv
    refine refused_c f (fun _ => 10) ?_
    cbv
    exact hr f (fun _ => 10) rfl
  rw [if_neg (by rw [q1]; simp)] at hr
  cbv
  refine ⟨fun q2 => ?_, fun q2 => ?_⟩
  rotate_left
  · have q2 : allowed .o = false := by have q2 : (!allowed .o) = true := q2; simpa using q2
    rw [if_pos (.inl q2)] at hr
    cbv
    refine refused_c f (fun _ => 7) ?_
    cbv
    exact hr f (fun _ => 7) rfl
  have q2 : allowed .o = true := by have q2 : (!allowed .o) = false := q2; simpa using q2
  cbv
  refine shut18_c (fun _ => (n0 .o).mt) fun b hb => ?_
  have hb : b .o = shutS (n0 .o).mt := hb
  cbv
  refine br_bool (fun q3 => ?_) (fun q3 => ?_)
  · rw [if_pos (.inr (by rw [← hb]; exact q3))] at hr
    cbv
    refine refused_c f (fun _ => 7) ?_
    cbv
    exact hr f (fun _ => 7) rfl
  rw [if_neg (fun q => q.elim (fun w => by rw [q2] at w; cases w) (fun w => by rw [← hb, q3] at w; cases w))] at hr
  cbv
  refine with18_c f (fun _ => zi k) n hf ⟨zi_nonneg _, by show (zi k).toNat < _; rw [hkz]; exact hk⟩ ?_
  cbv
  simp only [hkz]
  exact hr (fun _ => withS (f .o) k (n .o)) (fun _ => 0) rfl
end Go.Proofs.YtkklflpfklbbcaaDoor
/- A file system, by the document: a node's time, capabilities, flags, owner. -/
namespace Go.Proofs.YtkklflpfklbbcaaDoor
open Go Go.Proofs.YtkklflpfklbbcaaDoor.Sx F
set_option linter.unusedVariables false
set_option linter.unusedSimpArgs false
def own9 (m : Meta) (c : Cred) : Bool := decide (m.uid = c.uid) || !decide (band c.powers 4 = 0)
def has9 (c : Cred) (p : Int) : Bool := !decide (band c.powers p = 0)
theorem beg_inl {f g : FS} {c : Cred} {p : List UInt8} {may : Bool} {e : Int} {chk : Ino → Int} {upd : Ino → Ino} (h : begS f c p may = .inl (g, e)) : chgS f (may && isPath p) (upD c p chk upd) = (g, e) := by
  unfold begS at h
  split at h
  · rename_i hp
    cases h
    exact chg_may (by unfold isPath; rw [hp]; simp)
  · rename_i l hp
    have hi : isPath p = true := by unfold isPath; rw [hp]; rfl
    split at h
    · rename_i hm; cases h; exact chg_may (by rw [hm]; rfl)
    · rename_i hm
      have hm : (may && isPath p) = true := by rw [hi]; simpa using hm
      split at h
      · rename_i he
        cases h
        unfold chgS
        rw [if_neg (by rw [hm]; simp), if_pos he]
      · rename_i he
        split at h
        · rename_i hd
          cases h
          refine chg_err hm (by simpa using he) ?_
          unfold upD lookS
          rw [hp]
          dsimp only
          rw [if_pos hd]
        · cases h
theorem beg_inr {f : FS} {c : Cred} {p : List UInt8} {may : Bool} {k : Nat} {chk : Ino → Int} {upd : Ino → Ino} (h : begS f c p may = .inr k) :
    chgS f (may && isPath p) (upD c p chk upd) = if chk (f.nodes.getD k Ino.z) ≠ 0 then (askS f, chk (f.nodes.getD k Ino.z)) else ({ askS f with nodes := f.nodes.set k (upd (f.nodes.getD k Ino.z)) }, 0) := by
  unfold begS at h
  split at h
  · cases h
  · rename_i l hp
    have hi : isPath p = true := by unfold isPath; rw [hp]; rfl
    split at h
    · cases h
    · rename_i hm
      have hm : (may && isPath p) = true := by rw [hi]; simpa using hm
      split at h
      · cases h
      · rename_i he
        split at h
        · cases h
        · rename_i hd
          have hk : (downS (askS f) c l 0).1.toNat = k := Sum.inr.inj h
          have hu : upD c p chk upd (askS f) = if chk (f.nodes.getD k Ino.z) ≠ 0 then .inl (chk (f.nodes.getD k Ino.z)) else .inr { askS f with nodes := f.nodes.set k (upd (f.nodes.getD k Ino.z)) } := by
            unfold upD lookS
            rw [hp]
            dsimp only
            rw [if_neg hd, hk]
            rfl
          split
          · rename_i hc
            exact chg_err hm (by simpa using he) (by rw [hu, if_pos hc])
          · rename_i hc
            exact chg_ok hm (by simpa using he) (by rw [hu, if_neg hc])
/-- Is it of a kind, allowed, not shut? -/
def chkE (kd al : Ino → Bool) (n : Ino) : Int := if kd n = false then 10 else if al n = false ∨ shutS n.mt = true then 7 else 0
theorem end_chg {f g : FS} {c : Cred} {p : List UInt8} {may : Bool} {k : Nat} {e : Int} {kd al : Ino → Bool} {upd : Ino → Ino} (h : begS f c p may = .inr k)
    (he : endS (askS f) k (f.nodes.getD k Ino.z) (kd (f.nodes.getD k Ino.z)) (al (f.nodes.getD k Ino.z)) (upd (f.nodes.getD k Ino.z)) = (g, e)) : chgS f (may && isPath p) (upD c p (chkE kd al) upd) = (g, e) := by
  rw [beg_inr h, ← he]
  unfold endS chkE
  by_cases q : kd (f.nodes.getD k Ino.z) = false
  · rw [if_pos q, if_pos q, if_pos (by decide)]
  · rw [if_neg q, if_neg q]
    by_cases q2 : al (f.nodes.getD k Ino.z) = false ∨ shutS (f.nodes.getD k Ino.z).mt = true
    · rw [if_pos q2, if_pos q2, if_pos (by decide)]
    · rw [if_neg q2, if_neg q2, if_neg (by simp)]
      rfl
/-- What ends a call by the document. -/
theorem hasD_c (c : Th Cred) (p : Th Int) {d : Nat} {K : ARes → BL → Prop} (hr : ∀ b : Th Bool, b .o = has9 (c .o) (p .o) → K (.ret (.bool b)) .nil) : CallAt PT r18_has [Cred.av c, .int .i64 p] d .nil K := has9_c c p hr
end Go.Proofs.YtkklflpfklbbcaaDoor
/- A file system, by the document: a node's mode. -/
namespace Go.Proofs.YtkklflpfklbbcaaDoor
open Go Go.Proofs.YtkklflpfklbbcaaDoor.Sx F
set_option linter.unusedVariables false
set_option linter.unusedSimpArgs false
theorem beg_may {f : FS} {c : Cred} {p : List UInt8} {may : Bool} {k : Nat} (h : begS f c p may = .inr k) : may = true := by
  unfold begS at h
  split at h
  · cases h
  · split at h
    · cases h
    · rename_i hm; simpa using hm
def cm9 (c : Cred) (mode : Int) (n : Ino) : Int := if (decide (n.kind = 1) && !inS c n.mt.gid && !has9 c 4) = true then abits .andNot .i64 mode 1024 else mode
def turn9 (mask : Bool) (mode : Int) (a : Ace) : Ace :=
  if a.tag = 1 then { a with perm := band (mode.fdiv (2 ^ min (Int.toNat 6) IntKind.i64.bits)) 7 } else
  if a.tag = 5 ∨ (a.tag = 3 ∧ mask = false) then { a with perm := band (mode.fdiv (2 ^ min (Int.toNat 3) IntKind.i64.bits)) 7 } else
  if a.tag = 6 then { a with perm := band mode 7 } else a
def updCm9 (c : Cred) (mode : Int) (n : Ino) : Ino := { n with mt := { n.mt with mode := cm9 c mode n, acl := n.mt.acl.map (turn9 (decide (0 ≤ permR n.mt.acl 5)) mode) } }
theorem map_take_succ {l : List Ace} {f : Ace → Ace} {k : Nat} (h : k < l.length) : (l.take (k + 1)).map f = (l.take k).map f ++ [f (l.getD k Ace.z)] := by
  rw [List.take_succ_eq_append_getElem h, List.map_append, List.getD_eq_getElem?_getD, List.getElem?_eq_getElem h]
  rfl
set_option maxHeartbeats 8000000 in
theorem chmod18_c (f : Th FS) (c : Th Cred) (p : Th (List UInt8)) (mode : Th Int) (hf : FsOk (f .o)) (hc : short (c .o).groups) (hp : (p .o).length ≤ 100000) {d : Nat} {K : ARes → BL → Prop}
    (hr : ∀ (g : Th FS) (e : Th Int), chgS (f .o) ((decide (0 ≤ mode .o) && decide (mode .o ≤ 4095)) && isPath (p .o)) (upD (c .o) (p .o) (chkE (fun n => !decide (n.kind = 3)) (fun n => own9 n.mt (c .o))) (updCm9 (c .o) (mode .o))) = (g .o, e .o) → K (.ret (nextAv g e)) .nil) :
    CallAt PT r18_Chmod [FS.av f, Cred.av c, .str p, .int .i64 mode] d .nil K := by
  refine CallAt.res ?_
  refine r18_Chmod.of rfl rfl ?_
  cbv
  refine ⟨fun m0 => ?_, fun m0 => ?_⟩
  rotate_left
  · have m0 : decide (0 ≤ mode .o) = false := m0
    cbv
    rw [m0] at hr
    refine CallAt.args (.cons (Same.refl _) (.cons (Same.refl _) (.cons (Same.refl _) (.cons (Same.ff rfl) .nil)))) (begun_c f c p (fun _ => false) hf hc hp (fun g e q1 q2 => ?_) (fun k q1 q2 => by cases beg_may q1))
    cbv
    refine br_ndec (fun _ => ?_) (fun h => (q2 h).elim)
    cbv
    refine refused_c g e ?_
    cbv
    exact ⟨_, .ret (.refl _), hr g e (beg_inl q1)⟩
  have m0 : decide (0 ≤ mode .o) = true := m0
  cbv
  rw [m0, Bool.true_and] at hr
  refine begun_c f c p (fun _ => decide (mode .o ≤ 4095)) hf hc hp (fun g e q1 q2 => ?_) (fun k0 q1 q2 => ?_)
  · cbv
    refine br_ndec (fun _ => ?_) (fun h => (q2 h).elim)
    cbv
    refine refused_c g e ?_
    cbv
    exact ⟨_, .ret (.refl _), hr g e (beg_inl q1)⟩
  have q3 : k0 < (askS (f .o)).nodes.length := q2
  have hacl := hf.acl _ (node_mem q2)
  have hend : ∀ {g : FS} {e : Int}, endS (askS (f .o)) k0 ((f .o).nodes.getD k0 Ino.z) (!decide (((f .o).nodes.getD k0 Ino.z).kind = 3)) (own9 ((f .o).nodes.getD k0 Ino.z).mt (c .o)) (updCm9 (c .o) (mode .o) ((f .o).nodes.getD k0 Ino.z)) = (g, e) → chgS (f .o) (decide (mode .o ≤ 4095) && isPath (p .o)) (upD (c .o) (p .o) (chkE (fun n => !decide (n.kind = 3)) (fun n => own9 n.mt (c .o))) (updCm9 (c .o) (mode .o))) = (g, e) := fun h => end_chg (kd := fun n => !decide (n.kind = 3)) (al := fun n => own9 n.mt (c .o)) q1 h
  generalize (f .o).nodes.getD k0 Ino.z = n at hend hacl ⊢
  cbv
  refine br_ndec (fun h => (h rfl).elim) (fun _ => ?_)
  cbv
  refine ⟨fun v1 => ?_, fun v1 => ?_⟩
  rotate_left
  · have v1 : decide (n.kind = 1) = false := v1
    have hcm : cm9 (c .o) (mode .o) n = mode .o := by unfold cm9; rw [v1]; rfl
    have hupd : updCm9 (c .o) (mode .o) n = { n with mt := { n.mt with mode := mode .o, acl := n.mt.acl.map (turn9 (decide (0 ≤ permR n.mt.acl 5)) (mode .o)) } } := by unfold updCm9; rw [hcm]
    cbv
    refine perm9_c (fun _ => n.mt.acl) (fun _ => 5) (by show short n.mt.acl; unfold short; omega) fun pm hpm => ?_
    have hpm : pm .o = permR n.mt.acl 5 := hpm
    rw [← hpm] at hupd
    obtain ⟨mk, hmk⟩ : ∃ mk : Th Bool, mk = fun _ => decide (0 ≤ pm .o) := ⟨_, rfl⟩
    have hmk0 : mk .o = decide (0 ≤ pm .o) := by rw [hmk]
    cbv
    refine nil_tmp 12 9000 3 (fun _ => .nil) rfl rfl ?_
    refine loop_at (X := Nat) 1000 [3, 5, 8, 9, 10, 11, 12] [5, 8, 9, 10] (fun _ k => .cons 13 (.int .i64 fun _ => zi k) .nil) (fun _ k => .cons 9000 (rowB 3 Ace.ch Ace.z fun _ => (n.mt.acl.take k).map (turn9 (decide (0 ≤ pm .o)) (mode .o))) .nil) (fun k => k ≤ n.mt.acl.length) (fun k => n.mt.acl.length - k) 0 ?_ (Nat.zero_le _) ?_
    · cbv
      (repeat' (first | exact True.intro | exact Same.refl _ | exact SameB.refl _ | exact ⟨rfl⟩ | exact Same.int rfl | exact Same.str rfl | exact Same.bool rfl | (refine Same.int ?_; simp only [List.length_append, List.length_cons, List.length_nil, zi]; omega) | (refine SameB.row' rfl fun i hi => ?_; first | rfl | exact absurd hi (Nat.not_lt_zero _)) | refine And.intro ?_ ?_ | refine SameB.cells ?_ | exact SameC.nil | refine SameC.cons ?_ ?_ | exact Same.nsl rfl | exact Same.tt rfl | exact Same.ff rfl))
    · intro k hk
      have hk : k ≤ n.mt.acl.length := hk
      have hkz := zi_toNat k
      have succ := zi_succ (k := k) (by omega)
      cbv
      refine br_zlt (fun r1 => ?_) (fun r1 => ?_)
      · have r1 : k < n.mt.acl.length := r1
        have hsucc := map_take_succ (f := turn9 (decide (0 ≤ pm .o)) (mode .o)) r1
        cbv
        refine safe ⟨zi_nonneg _, zi_lt.2 r1⟩ ?_
        simp only [hkz]
        refine br_dec (fun s1 => ?_) (fun s1 => ?_)
        · have s1 : (n.mt.acl.getD k Ace.z).tag = 1 := s1
          have ht : turn9 (decide (0 ≤ pm .o)) (mode .o) (n.mt.acl.getD k Ace.z) = { n.mt.acl.getD k Ace.z with perm := band ((mode .o).fdiv (2 ^ min (Int.toNat 6) IntKind.i64.bits)) 7 } := by unfold turn9; rw [if_pos s1]
          cbv
          refine safe (by decide) ?_
          cbv
          refine app_one Ace.ch Ace.z ((n.mt.acl.take k).map (turn9 (decide (0 ≤ pm .o)) (mode .o))) ({ n.mt.acl.getD k Ace.z with perm := band ((mode .o).fdiv (2 ^ min (Int.toNat 6) IntKind.i64.bits)) 7 }) rfl (fun i hi => rfl) rfl rfl (by rw [List.length_map, List.length_take]; omega) ?_
          rw [← ht, ← hsucc]
          cbv
          refine ⟨k + 1, r1, by omega, ?_⟩
          cbv
          rw [succ]
          (repeat' (first | exact True.intro | exact Same.refl _ | exact SameB.refl _ | exact ⟨rfl⟩ | exact Same.int rfl | exact Same.str rfl | exact Same.bool rfl | (refine Same.int ?_; simp only [List.length_append, List.length_cons, List.length_nil, zi]; omega) | (refine SameB.row' rfl fun i hi => ?_; first | rfl | exact absurd hi (Nat.not_lt_zero _)) | refine And.intro ?_ ?_ | refine SameB.cells ?_ | exact SameC.nil | refine SameC.cons ?_ ?_ | exact Same.nsl rfl | exact Same.tt rfl | exact Same.ff rfl))
        have s1 : ¬ (n.mt.acl.getD k Ace.z).tag = 1 := s1
        cbv
        refine br_dec (fun s2 => ?_) (fun s2 => ?_)
        · have s2 : (n.mt.acl.getD k Ace.z).tag = 5 := s2
          have ht : turn9 (decide (0 ≤ pm .o)) (mode .o) (n.mt.acl.getD k Ace.z) = { n.mt.acl.getD k Ace.z with perm := band ((mode .o).fdiv (2 ^ min (Int.toNat 3) IntKind.i64.bits)) 7 } := by unfold turn9; rw [if_neg s1, if_pos (.inl s2)]
          cbv
          refine safe (by decide) ?_
          cbv
          refine app_one Ace.ch Ace.z ((n.mt.acl.take k).map (turn9 (decide (0 ≤ pm .o)) (mode .o))) ({ n.mt.acl.getD k Ace.z with perm := band ((mode .o).fdiv (2 ^ min (Int.toNat 3) IntKind.i64.bits)) 7 }) rfl (fun i hi => rfl) rfl rfl (by rw [List.length_map, List.length_take]; omega) ?_
          rw [← ht, ← hsucc]
          cbv
          refine ⟨k + 1, r1, by omega, ?_⟩
          cbv
          rw [succ]
          (repeat' (first | exact True.intro | exact Same.refl _ | exact SameB.refl _ | exact ⟨rfl⟩ | exact Same.int rfl | exact Same.str rfl | exact Same.bool rfl | (refine Same.int ?_; simp only [List.length_append, List.length_cons, List.length_nil, zi]; omega) | (refine SameB.row' rfl fun i hi => ?_; first | rfl | exact absurd hi (Nat.not_lt_zero _)) | refine And.intro ?_ ?_ | refine SameB.cells ?_ | exact SameC.nil | refine SameC.cons ?_ ?_ | exact Same.nsl rfl | exact Same.tt rfl | exact Same.ff rfl))
        have s2 : ¬ (n.mt.acl.getD k Ace.z).tag = 5 := s2
        cbv
        refine ⟨fun s3 => ?_, fun s3 => ?_⟩
        · have s3 : (n.mt.acl.getD k Ace.z).tag = 3 := of_decide_eq_true s3
          cbv
          refine br_nbool (fun s4 => ?_) (fun s4 => ?_)
          · have s4 : (decide (0 ≤ pm .o)) = false := s4
            have ht : turn9 (decide (0 ≤ pm .o)) (mode .o) (n.mt.acl.getD k Ace.z) = { n.mt.acl.getD k Ace.z with perm := band ((mode .o).fdiv (2 ^ min (Int.toNat 3) IntKind.i64.bits)) 7 } := by unfold turn9; rw [if_neg s1, if_pos (.inr ⟨s3, s4⟩)]
            cbv
            refine safe (by decide) ?_
            cbv
            refine app_one Ace.ch Ace.z ((n.mt.acl.take k).map (turn9 (decide (0 ≤ pm .o)) (mode .o))) ({ n.mt.acl.getD k Ace.z with perm := band ((mode .o).fdiv (2 ^ min (Int.toNat 3) IntKind.i64.bits)) 7 }) rfl (fun i hi => rfl) rfl rfl (by rw [List.length_map, List.length_take]; omega) ?_
            rw [← ht, ← hsucc]
            cbv
            refine ⟨k + 1, r1, by omega, ?_⟩
            cbv
            rw [succ]
            (repeat' (first | exact True.intro | exact Same.refl _ | exact SameB.refl _ | exact ⟨rfl⟩ | exact Same.int rfl | exact Same.str rfl | exact Same.bool rfl | (refine Same.int ?_; simp only [List.length_append, List.length_cons, List.length_nil, zi]; omega) | (refine SameB.row' rfl fun i hi => ?_; first | rfl | exact absurd hi (Nat.not_lt_zero _)) | refine And.intro ?_ ?_ | refine SameB.cells ?_ | exact SameC.nil | refine SameC.cons ?_ ?_ | exact Same.nsl rfl | exact Same.tt rfl | exact Same.ff rfl))
          · have s4 : (decide (0 ≤ pm .o)) = true := s4
            have s5 : ¬ (n.mt.acl.getD k Ace.z).tag = 6 := fun q => by rw [s3] at q; cases q
            cbv
            refine br_not (decide_eq_false s5) ?_
            have ht : turn9 (decide (0 ≤ pm .o)) (mode .o) (n.mt.acl.getD k Ace.z) = n.mt.acl.getD k Ace.z := by unfold turn9; rw [if_neg s1, if_neg (fun q => q.elim s2 fun q => by rw [s4] at q; cases q.2), if_neg s5]
            cbv
            refine app_one Ace.ch Ace.z ((n.mt.acl.take k).map (turn9 (decide (0 ≤ pm .o)) (mode .o))) (n.mt.acl.getD k Ace.z) rfl (fun i hi => rfl) rfl rfl (by rw [List.length_map, List.length_take]; omega) ?_
            rw [← ht, ← hsucc]
            cbv
            refine ⟨k + 1, r1, by omega, ?_⟩
            cbv
            rw [succ]
            (repeat' (first | exact True.intro | exact Same.refl _ | exact SameB.refl _ | exact ⟨rfl⟩ | exact Same.int rfl | exact Same.str rfl | exact Same.bool rfl | (refine Same.int ?_; simp only [List.length_append, List.length_cons, List.length_nil, zi]; omega) | (refine SameB.row' rfl fun i hi => ?_; first | rfl | exact absurd hi (Nat.not_lt_zero _)) | refine And.intro ?_ ?_ | refine SameB.cells ?_ | exact SameC.nil | refine SameC.cons ?_ ?_ | exact Same.nsl rfl | exact Same.tt rfl | exact Same.ff rfl))
        · have s3 : ¬ (n.mt.acl.getD k Ace.z).tag = 3 := of_decide_eq_false s3
          cbv
          refine br_dec (fun s5 => ?_) (fun s5 => ?_)
          · have s5 : (n.mt.acl.getD k Ace.z).tag = 6 := s5
            have ht : turn9 (decide (0 ≤ pm .o)) (mode .o) (n.mt.acl.getD k Ace.z) = { n.mt.acl.getD k Ace.z with perm := band (mode .o) 7 } := by unfold turn9; rw [if_neg s1, if_neg (fun q => q.elim s2 fun q => s3 q.1), if_pos s5]
            cbv
            refine app_one Ace.ch Ace.z ((n.mt.acl.take k).map (turn9 (decide (0 ≤ pm .o)) (mode .o))) ({ n.mt.acl.getD k Ace.z with perm := band (mode .o) 7 }) rfl (fun i hi => rfl) rfl rfl (by rw [List.length_map, List.length_take]; omega) ?_
            rw [← ht, ← hsucc]
            cbv
            refine ⟨k + 1, r1, by omega, ?_⟩
            cbv
            rw [succ]
            (repeat' (first | exact True.intro | exact Same.refl _ | exact SameB.refl _ | exact ⟨rfl⟩ | exact Same.int rfl | exact Same.str rfl | exact Same.bool rfl | (refine Same.int ?_; simp only [List.length_append, List.length_cons, List.length_nil, zi]; omega) | (refine SameB.row' rfl fun i hi => ?_; first | rfl | exact absurd hi (Nat.not_lt_zero _)) | refine And.intro ?_ ?_ | refine SameB.cells ?_ | exact SameC.nil | refine SameC.cons ?_ ?_ | exact Same.nsl rfl | exact Same.tt rfl | exact Same.ff rfl))
          · have s5 : ¬ (n.mt.acl.getD k Ace.z).tag = 6 := s5
            have ht : turn9 (decide (0 ≤ pm .o)) (mode .o) (n.mt.acl.getD k Ace.z) = n.mt.acl.getD k Ace.z := by unfold turn9; rw [if_neg s1, if_neg (fun q => q.elim s2 fun q => s3 q.1), if_neg s5]
            cbv
            refine app_one Ace.ch Ace.z ((n.mt.acl.take k).map (turn9 (decide (0 ≤ pm .o)) (mode .o))) (n.mt.acl.getD k Ace.z) rfl (fun i hi => rfl) rfl rfl (by rw [List.length_map, List.length_take]; omega) ?_
            rw [← ht, ← hsucc]
            cbv
            refine ⟨k + 1, r1, by omega, ?_⟩
            cbv
            rw [succ]
            (repeat' (first | exact True.intro | exact Same.refl _ | exact SameB.refl _ | exact ⟨rfl⟩ | exact Same.int rfl | exact Same.str rfl | exact Same.bool rfl | (refine Same.int ?_; simp only [List.length_append, List.length_cons, List.length_nil, zi]; omega) | (refine SameB.row' rfl fun i hi => ?_; first | rfl | exact absurd hi (Nat.not_lt_zero _)) | refine And.intro ?_ ?_ | refine SameB.cells ?_ | exact SameC.nil | refine SameC.cons ?_ ?_ | exact Same.nsl rfl | exact Same.tt rfl | exact Same.ff rfl))
      · obtain rfl : k = n.mt.acl.length := Nat.le_antisymm hk r1
        rw [List.take_length]
        cbv
        refine owner9_c (fun _ => { n.mt with mode := mode .o, acl := n.mt.acl.map (turn9 (decide (0 ≤ pm .o)) (mode .o)) }) c fun b2 hb2 => ?_
        have hb2 : b2 .o = own9 n.mt (c .o) := hb2
        cbv
        refine ended_c (fun _ => askS (f .o)) k0 (fun _ => n) (fun _ => !decide (n.kind = 3)) b2 (fun _ => { n with mt := { n.mt with mode := mode .o, acl := n.mt.acl.map (turn9 (decide (0 ≤ pm .o)) (mode .o)) } }) hf.ask q3 fun g e h => ?_
        have h : endS (askS (f .o)) k0 n (!decide (n.kind = 3)) (b2 .o) { n with mt := { n.mt with mode := mode .o, acl := n.mt.acl.map (turn9 (decide (0 ≤ pm .o)) (mode .o)) } } = (g .o, e .o) := h
        rw [hb2] at h
        cbv
        exact ⟨_, .ret (.refl _), hr g e (hend (by rw [hupd]; exact h))⟩
  have v1 : decide (n.kind = 1) = true := v1
  cbv
  refine in9_c c (fun _ => n.mt.gid) hc fun b3 hb3 => ?_
  have hb3 : b3 .o = inS (c .o) n.mt.gid := hb3
  cbv
  refine ⟨fun v2 => ?_, fun v2 => ?_⟩
  rotate_left
  · have v2 : (!b3 .o) = false := v2
    have hcm : cm9 (c .o) (mode .o) n = mode .o := by unfold cm9; rw [v1, ← hb3, v2]; rfl
    have hupd : updCm9 (c .o) (mode .o) n = { n with mt := { n.mt with mode := mode .o, acl := n.mt.acl.map (turn9 (decide (0 ≤ permR n.mt.acl 5)) (mode .o)) } } := by unfold updCm9; rw [hcm]
    cbv
    refine perm9_c (fun _ => n.mt.acl) (fun _ => 5) (by show short n.mt.acl; unfold short; omega) fun pm hpm => ?_
    have hpm : pm .o = permR n.mt.acl 5 := hpm
    rw [← hpm] at hupd
    obtain ⟨mk, hmk⟩ : ∃ mk : Th Bool, mk = fun _ => decide (0 ≤ pm .o) := ⟨_, rfl⟩
    have hmk0 : mk .o = decide (0 ≤ pm .o) := by rw [hmk]
    cbv
    refine nil_tmp 12 9000 3 (fun _ => .nil) rfl rfl ?_
    refine loop_at (X := Nat) 1000 [3, 5, 8, 9, 10, 11, 12] [5, 8, 9, 10] (fun _ k => .cons 13 (.int .i64 fun _ => zi k) .nil) (fun _ k => .cons 9000 (rowB 3 Ace.ch Ace.z fun _ => (n.mt.acl.take k).map (turn9 (decide (0 ≤ pm .o)) (mode .o))) .nil) (fun k => k ≤ n.mt.acl.length) (fun k => n.mt.acl.length - k) 0 ?_ (Nat.zero_le _) ?_
    · cbv
      (repeat' (first | exact True.intro | exact Same.refl _ | exact SameB.refl _ | exact ⟨rfl⟩ | exact Same.int rfl | exact Same.str rfl | exact Same.bool rfl | (refine Same.int ?_; simp only [List.length_append, List.length_cons, List.length_nil, zi]; omega) | (refine SameB.row' rfl fun i hi => ?_; first | rfl | exact absurd hi (Nat.not_lt_zero _)) | refine And.intro ?_ ?_ | refine SameB.cells ?_ | exact SameC.nil | refine SameC.cons ?_ ?_ | exact Same.nsl rfl | exact Same.tt rfl | exact Same.ff rfl))
    · intro k hk
      have hk : k ≤ n.mt.acl.length := hk
      have hkz := zi_toNat k
      have succ := zi_succ (k := k) (by omega)
      cbv
      refine br_zlt (fun r1 => ?_) (fun r1 => ?_)
      · have r1 : k < n.mt.acl.length := r1
        have hsucc := map_take_succ (f := turn9 (decide (0 ≤ pm .o)) (mode .o)) r1
        cbv
        refine safe ⟨zi_nonneg _, zi_lt.2 r1⟩ ?_
        simp only [hkz]
        refine br_dec (fun s1 => ?_) (fun s1 => ?_)
        · have s1 : (n.mt.acl.getD k Ace.z).tag = 1 := s1
          have ht : turn9 (decide (0 ≤ pm .o)) (mode .o) (n.mt.acl.getD k Ace.z) = { n.mt.acl.getD k Ace.z with perm := band ((mode .o).fdiv (2 ^ min (Int.toNat 6) IntKind.i64.bits)) 7 } := by unfold turn9; rw [if_pos s1]
          cbv
          refine safe (by decide) ?_
          cbv
          refine app_one Ace.ch Ace.z ((n.mt.acl.take k).map (turn9 (decide (0 ≤ pm .o)) (mode .o))) ({ n.mt.acl.getD k Ace.z with perm := band ((mode .o).fdiv (2 ^ min (Int.toNat 6) IntKind.i64.bits)) 7 }) rfl (fun i hi => rfl) rfl rfl (by rw [List.length_map, List.length_take]; omega) ?_
          rw [← ht, ← hsucc]
          cbv
          refine ⟨k + 1, r1, by omega, ?_⟩
          cbv
          rw [succ]
          (repeat' (first | exact True.intro | exact Same.refl _ | exact SameB.refl _ | exact ⟨rfl⟩ | exact Same.int rfl | exact Same.str rfl | exact Same.bool rfl | (refine Same.int ?_; simp only [List.length_append, List.length_cons, List.length_nil, zi]; omega) | (refine SameB.row' rfl fun i hi => ?_; first | rfl | exact absurd hi (Nat.not_lt_zero _)) | refine And.intro ?_ ?_ | refine SameB.cells ?_ | exact SameC.nil | refine SameC.cons ?_ ?_ | exact Same.nsl rfl | exact Same.tt rfl | exact Same.ff rfl))
        have s1 : ¬ (n.mt.acl.getD k Ace.z).tag = 1 := s1
        cbv
        refine br_dec (fun s2 => ?_) (fun s2 => ?_)
        · have s2 : (n.mt.acl.getD k Ace.z).tag = 5 := s2
          have ht : turn9 (decide (0 ≤ pm .o)) (mode .o) (n.mt.acl.getD k Ace.z) = { n.mt.acl.getD k Ace.z with perm := band ((mode .o).fdiv (2 ^ min (Int.toNat 3) IntKind.i64.bits)) 7 } := by unfold turn9; rw [if_neg s1, if_pos (.inl s2)]
          cbv
          refine safe (by decide) ?_
          cbv
          refine app_one Ace.ch Ace.z ((n.mt.acl.take k).map (turn9 (decide (0 ≤ pm .o)) (mode .o))) ({ n.mt.acl.getD k Ace.z with perm := band ((mode .o).fdiv (2 ^ min (Int.toNat 3) IntKind.i64.bits)) 7 }) rfl (fun i hi => rfl) rfl rfl (by rw [List.length_map, List.length_take]; omega) ?_
          rw [← ht, ← hsucc]
          cbv
          refine ⟨k + 1, r1, by omega, ?_⟩
          cbv
          rw [succ]
          (repeat' (first | exact True.intro | exact Same.refl _ | exact SameB.refl _ | exact ⟨rfl⟩ | exact Same.int rfl | exact Same.str rfl | exact Same.bool rfl | (refine Same.int ?_; simp only [List.length_append, List.length_cons, List.length_nil, zi]; omega) | (refine SameB.row' rfl fun i hi => ?_; first | rfl | exact absurd hi (Nat.not_lt_zero _)) | refine And.intro ?_ ?_ | refine SameB.cells ?_ | exact SameC.nil | refine SameC.cons ?_ ?_ | exact Same.nsl rfl | exact Same.tt rfl | exact Same.ff rfl))
        have s2 : ¬ (n.mt.acl.getD k Ace.z).tag = 5 := s2
        cbv
        refine ⟨fun s3 => ?_, fun s3 => ?_⟩
        · have s3 : (n.mt.acl.getD k Ace.z).tag = 3 := of_decide_eq_true s3
          cbv
          refine br_nbool (fun s4 => ?_) (fun s4 => ?_)
          · have s4 : (decide (0 ≤ pm .o)) = false := s4
            have ht : turn9 (decide (0 ≤ pm .o)) (mode .o) (n.mt.acl.getD k Ace.z) = { n.mt.acl.getD k Ace.z with perm := band ((mode .o).fdiv (2 ^ min (Int.toNat 3) IntKind.i64.bits)) 7 } := by unfold turn9; rw [if_neg s1, if_pos (.inr ⟨s3, s4⟩)]
            cbv
            refine safe (by decide) ?_
            cbv
            refine app_one Ace.ch Ace.z ((n.mt.acl.take k).map (turn9 (decide (0 ≤ pm .o)) (mode .o))) ({ n.mt.acl.getD k Ace.z with perm := band ((mode .o).fdiv (2 ^ min (Int.toNat 3) IntKind.i64.bits)) 7 }) rfl (fun i hi => rfl) rfl rfl (by rw [List.length_map, List.length_take]; omega) ?_
            rw [← ht, ← hsucc]
            cbv
            refine ⟨k + 1, r1, by omega, ?_⟩
            cbv
            rw [succ]
            (repeat' (first | exact True.intro | exact Same.refl _ | exact SameB.refl _ | exact ⟨rfl⟩ | exact Same.int rfl | exact Same.str rfl | exact Same.bool rfl | (refine Same.int ?_; simp only [List.length_append, List.length_cons, List.length_nil, zi]; omega) | (refine SameB.row' rfl fun i hi => ?_; first | rfl | exact absurd hi (Nat.not_lt_zero _)) | refine And.intro ?_ ?_ | refine SameB.cells ?_ | exact SameC.nil | refine SameC.cons ?_ ?_ | exact Same.nsl rfl | exact Same.tt rfl | exact Same.ff rfl))
          · have s4 : (decide (0 ≤ pm .o)) = true := s4
            have s5 : ¬ (n.mt.acl.getD k Ace.z).tag = 6 := fun q => by rw [s3] at q; cases q
            cbv
            refine br_not (decide_eq_false s5) ?_
            have ht : turn9 (decide (0 ≤ pm .o)) (mode .o) (n.mt.acl.getD k Ace.z) = n.mt.acl.getD k Ace.z := by unfold turn9; rw [if_neg s1, if_neg (fun q => q.elim s2 fun q => by rw [s4] at q; cases q.2), if_neg s5]
            cbv
            refine app_one Ace.ch Ace.z ((n.mt.acl.take k).map (turn9 (decide (0 ≤ pm .o)) (mode .o))) (n.mt.acl.getD k Ace.z) rfl (fun i hi => rfl) rfl rfl (by rw [List.length_map, List.length_take]; omega) ?_
            rw [← ht, ← hsucc]
            cbv
            refine ⟨k + 1, r1, by omega, ?_⟩
            cbv
            rw [succ]
            (repeat' (first | exact True.intro | exact Same.refl _ | exact SameB.refl _ | exact ⟨rfl⟩ | exact Same.int rfl | exact Same.str rfl | exact Same.bool rfl | (refine Same.int ?_; simp only [List.length_append, List.length_cons, List.length_nil, zi]; omega) | (refine SameB.row' rfl fun i hi => ?_; first | rfl | exact absurd hi (Nat.not_lt_zero _)) | refine And.intro ?_ ?_ | refine SameB.cells ?_ | exact SameC.nil | refine SameC.cons ?_ ?_ | exact Same.nsl rfl | exact Same.tt rfl | exact Same.ff rfl))
        · have s3 : ¬ (n.mt.acl.getD k Ace.z).tag = 3 := of_decide_eq_false s3
          cbv
          refine br_dec (fun s5 => ?_) (fun s5 => ?_)
          · have s5 : (n.mt.acl.getD k Ace.z).tag = 6 := s5
            have ht : turn9 (decide (0 ≤ pm .o)) (mode .o) (n.mt.acl.getD k Ace.z) = { n.mt.acl.getD k Ace.z with perm := band (mode .o) 7 } := by unfold turn9; rw [if_neg s1, if_neg (fun q => q.elim s2 fun q => s3 q.1), if_pos s5]
            cbv
            refine app_one Ace.ch Ace.z ((n.mt.acl.take k).map (turn9 (decide (0 ≤ pm .o)) (mode .o))) ({ n.mt.acl.getD k Ace.z with perm := band (mode .o) 7 }) rfl (fun i hi => rfl) rfl rfl (by rw [List.length_map, List.length_take]; omega) ?_
            rw [← ht, ← hsucc]
            cbv
            refine ⟨k + 1, r1, by omega, ?_⟩
            cbv
            rw [succ]
            (repeat' (first | exact True.intro | exact Same.refl _ | exact SameB.refl _ | exact ⟨rfl⟩ | exact Same.int rfl | exact Same.str rfl | exact Same.bool rfl | (refine Same.int ?_; simp only [List.length_append, List.length_cons, List.length_nil, zi]; omega) | (refine SameB.row' rfl fun i hi => ?_; first | rfl | exact absurd hi (Nat.not_lt_zero _)) | refine And.intro ?_ ?_ | refine SameB.cells ?_ | exact SameC.nil | refine SameC.cons ?_ ?_ | exact Same.nsl rfl | exact Same.tt rfl | exact Same.ff rfl))
          · have s5 : ¬ (n.mt.acl.getD k Ace.z).tag = 6 := s5
            have ht : turn9 (decide (0 ≤ pm .o)) (mode .o) (n.mt.acl.getD k Ace.z) = n.mt.acl.getD k Ace.z := by unfold turn9; rw [if_neg s1, if_neg (fun q => q.elim s2 fun q => s3 q.1), if_neg s5]
            cbv
            refine app_one Ace.ch Ace.z ((n.mt.acl.take k).map (turn9 (decide (0 ≤ pm .o)) (mode .o))) (n.mt.acl.getD k Ace.z) rfl (fun i hi => rfl) rfl rfl (by rw [List.length_map, List.length_take]; omega) ?_
            rw [← ht, ← hsucc]
            cbv
            refine ⟨k + 1, r1, by omega, ?_⟩
            cbv
            rw [succ]
            (repeat' (first | exact True.intro | exact Same.refl _ | exact SameB.refl _ | exact ⟨rfl⟩ | exact Same.int rfl | exact Same.str rfl | exact Same.bool rfl | (refine Same.int ?_; simp only [List.length_append, List.length_cons, List.length_nil, zi]; omega) | (refine SameB.row' rfl fun i hi => ?_; first | rfl | exact absurd hi (Nat.not_lt_zero _)) | refine And.intro ?_ ?_ | refine SameB.cells ?_ | exact SameC.nil | refine SameC.cons ?_ ?_ | exact Same.nsl rfl | exact Same.tt rfl | exact Same.ff rfl))
      · obtain rfl : k = n.mt.acl.length := Nat.le_antisymm hk r1
        rw [List.take_length]
        cbv
        refine owner9_c (fun _ => { n.mt with mode := mode .o, acl := n.mt.acl.map (turn9 (decide (0 ≤ pm .o)) (mode .o)) }) c fun b2 hb2 => ?_
        have hb2 : b2 .o = own9 n.mt (c .o) := hb2
        cbv
        refine ended_c (fun _ => askS (f .o)) k0 (fun _ => n) (fun _ => !decide (n.kind = 3)) b2 (fun _ => { n with mt := { n.mt with mode := mode .o, acl := n.mt.acl.map (turn9 (decide (0 ≤ pm .o)) (mode .o)) } }) hf.ask q3 fun g e h => ?_
        have h : endS (askS (f .o)) k0 n (!decide (n.kind = 3)) (b2 .o) { n with mt := { n.mt with mode := mode .o, acl := n.mt.acl.map (turn9 (decide (0 ≤ pm .o)) (mode .o)) } } = (g .o, e .o) := h
        rw [hb2] at h
        cbv
        exact ⟨_, .ret (.refl _), hr g e (hend (by rw [hupd]; exact h))⟩
  have v2 : (!b3 .o) = true := v2
  cbv
  refine hasD_c c (fun _ => 4) fun b4 hb4 => ?_
  have hb4 : b4 .o = has9 (c .o) 4 := hb4
  cbv
  refine br_nbool (fun v3 => ?_) (fun v3 => ?_)
  · have v3 : b4 .o = false := v3
    have hcm : cm9 (c .o) (mode .o) n = abits .andNot .i64 (mode .o) 1024 := by unfold cm9; rw [v1, ← hb3, v2, ← hb4, v3]; rfl
    have hupd : updCm9 (c .o) (mode .o) n = { n with mt := { n.mt with mode := abits .andNot .i64 (mode .o) 1024, acl := n.mt.acl.map (turn9 (decide (0 ≤ permR n.mt.acl 5)) (mode .o)) } } := by unfold updCm9; rw [hcm]
    cbv
    refine perm9_c (fun _ => n.mt.acl) (fun _ => 5) (by show short n.mt.acl; unfold short; omega) fun pm hpm => ?_
    have hpm : pm .o = permR n.mt.acl 5 := hpm
    rw [← hpm] at hupd
    obtain ⟨mk, hmk⟩ : ∃ mk : Th Bool, mk = fun _ => decide (0 ≤ pm .o) := ⟨_, rfl⟩
    have hmk0 : mk .o = decide (0 ≤ pm .o) := by rw [hmk]
    cbv
    refine nil_tmp 12 9000 3 (fun _ => .nil) rfl rfl ?_
    refine loop_at (X := Nat) 1000 [3, 5, 8, 9, 10, 11, 12] [5, 8, 9, 10] (fun _ k => .cons 13 (.int .i64 fun _ => zi k) .nil) (fun _ k => .cons 9000 (rowB 3 Ace.ch Ace.z fun _ => (n.mt.acl.take k).map (turn9 (decide (0 ≤ pm .o)) (mode .o))) .nil) (fun k => k ≤ n.mt.acl.length) (fun k => n.mt.acl.length - k) 0 ?_ (Nat.zero_le _) ?_
    · cbv
      (repeat' (first | exact True.intro | exact Same.refl _ | exact SameB.refl _ | exact ⟨rfl⟩ | exact Same.int rfl | exact Same.str rfl | exact Same.bool rfl | (refine Same.int ?_; simp only [List.length_append, List.length_cons, List.length_nil, zi]; omega) | (refine SameB.row' rfl fun i hi => ?_; first | rfl | exact absurd hi (Nat.not_lt_zero _)) | refine And.intro ?_ ?_ | refine SameB.cells ?_ | exact SameC.nil | refine SameC.cons ?_ ?_ | exact Same.nsl rfl | exact Same.tt rfl | exact Same.ff rfl))
    · intro k hk
      have hk : k ≤ n.mt.acl.length := hk
      have hkz := zi_toNat k
      have succ := zi_succ (k := k) (by omega)
      cbv
      refine br_zlt (fun r1 => ?_) (fun r1 => ?_)
      · have r1 : k < n.mt.acl.length := r1
        have hsucc := map_take_succ (f := turn9 (decide (0 ≤ pm .o)) (mode .o)) r1
        cbv
        refine safe ⟨zi_nonneg _, zi_lt.2 r1⟩ ?_
        simp only [hkz]
        refine br_dec (fun s1 => ?_) (fun s1 => ?_)
        · have s1 : (n.mt.acl.getD k Ace.z).tag = 1 := s1
          have ht : turn9 (decide (0 ≤ pm .o)) (mode .o) (n.mt.acl.getD k Ace.z) = { n.mt.acl.getD k Ace.z with perm := band ((mode .o).fdiv (2 ^ min (Int.toNat 6) IntKind.i64.bits)) 7 } := by unfold turn9; rw [if_pos s1]
          cbv
          refine safe (by decide) ?_
          cbv
          refine app_one Ace.ch Ace.z ((n.mt.acl.take k).map (turn9 (decide (0 ≤ pm .o)) (mode .o))) ({ n.mt.acl.getD k Ace.z with perm := band ((mode .o).fdiv (2 ^ min (Int.toNat 6) IntKind.i64.bits)) 7 }) rfl (fun i hi => rfl) rfl rfl (by rw [List.length_map, List.length_take]; omega) ?_
          rw [← ht, ← hsucc]
          cbv
          refine ⟨k + 1, r1, by omega, ?_⟩
          cbv
          rw [succ]
          (repeat' (first | exact True.intro | exact Same.refl _ | exact SameB.refl _ | exact ⟨rfl⟩ | exact Same.int rfl | exact Same.str rfl | exact Same.bool rfl | (refine Same.int ?_; simp only [List.length_append, List.length_cons, List.length_nil, zi]; omega) | (refine SameB.row' rfl fun i hi => ?_; first | rfl | exact absurd hi (Nat.not_lt_zero _)) | refine And.intro ?_ ?_ | refine SameB.cells ?_ | exact SameC.nil | refine SameC.cons ?_ ?_ | exact Same.nsl rfl | exact Same.tt rfl | exact Same.ff rfl))
        have s1 : ¬ (n.mt.acl.getD k Ace.z).tag = 1 := s1
        cbv
        refine br_dec (fun s2 => ?_) (fun s2 => ?_)
        · have s2 : (n.mt.acl.getD k Ace.z).tag = 5 := s2
          have ht : turn9 (decide (0 ≤ pm .o)) (mode .o) (n.mt.acl.getD k Ace.z) = { n.mt.acl.getD k Ace.z with perm := band ((mode .o).fdiv (2 ^ min (Int.toNat 3) IntKind.i64.bits)) 7 } := by unfold turn9; rw [if_neg s1, if_pos (.inl s2)]
          cbv
          refine safe (by decide) ?_
          cbv
          refine app_one Ace.ch Ace.z ((n.mt.acl.take k).map (turn9 (decide (0 ≤ pm .o)) (mode .o))) ({ n.mt.acl.getD k Ace.z with perm := band ((mode .o).fdiv (2 ^ min (Int.toNat 3) IntKind.i64.bits)) 7 }) rfl (fun i hi => rfl) rfl rfl (by rw [List.length_map, List.length_take]; omega) ?_
          rw [← ht, ← hsucc]
          cbv
          refine ⟨k + 1, r1, by omega, ?_⟩
          cbv
          rw [succ]
          (repeat' (first | exact True.intro | exact Same.refl _ | exact SameB.refl _ | exact ⟨rfl⟩ | exact Same.int rfl | exact Same.str rfl | exact Same.bool rfl | (refine Same.int ?_; simp only [List.length_append, List.length_cons, List.length_nil, zi]; omega) | (refine SameB.row' rfl fun i hi => ?_; first | rfl | exact absurd hi (Nat.not_lt_zero _)) | refine And.intro ?_ ?_ | refine SameB.cells ?_ | exact SameC.nil | refine SameC.cons ?_ ?_ | exact Same.nsl rfl | exact Same.tt rfl | exact Same.ff rfl))
        have s2 : ¬ (n.mt.acl.getD k Ace.z).tag = 5 := s2
        cbv
        refine ⟨fun s3 => ?_, fun s3 => ?_⟩
        · have s3 : (n.mt.acl.getD k Ace.z).tag = 3 := of_decide_eq_true s3
          cbv
          refine br_nbool (fun s4 => ?_) (fun s4 => ?_)
          · have s4 : (decide (0 ≤ pm .o)) = false := s4
            have ht : turn9 (decide (0 ≤ pm .o)) (mode .o) (n.mt.acl.getD k Ace.z) = { n.mt.acl.getD k Ace.z with perm := band ((mode .o).fdiv (2 ^ min (Int.toNat 3) IntKind.i64.bits)) 7 } := by unfold turn9; rw [if_neg s1, if_pos (.inr ⟨s3, s4⟩)]
            cbv
            refine safe (by decide) ?_
            cbv
            refine app_one Ace.ch Ace.z ((n.mt.acl.take k).map (turn9 (decide (0 ≤ pm .o)) (mode .o))) ({ n.mt.acl.getD k Ace.z with perm := band ((mode .o).fdiv (2 ^ min (Int.toNat 3) IntKind.i64.bits)) 7 }) rfl (fun i hi => rfl) rfl rfl (by rw [List.length_map, List.length_take]; omega) ?_
            rw [← ht, ← hsucc]
            cbv
            refine ⟨k + 1, r1, by omega, ?_⟩
            cbv
            rw [succ]
            (repeat' (first | exact True.intro | exact Same.refl _ | exact SameB.refl _ | exact ⟨rfl⟩ | exact Same.int rfl | exact Same.str rfl | exact Same.bool rfl | (refine Same.int ?_; simp only [List.length_append, List.length_cons, List.length_nil, zi]; omega) | (refine SameB.row' rfl fun i hi => ?_; first | rfl | exact absurd hi (Nat.not_lt_zero _)) | refine And.intro ?_ ?_ | refine SameB.cells ?_ | exact SameC.nil | refine SameC.cons ?_ ?_ | exact Same.nsl rfl | exact Same.tt rfl | exact Same.ff rfl))
          · have s4 : (decide (0 ≤ pm .o)) = true := s4
            have s5 : ¬ (n.mt.acl.getD k Ace.z).tag = 6 := fun q => by rw [s3] at q; cases q
            cbv
            refine br_not (decide_eq_false s5) ?_
            have ht : turn9 (decide (0 ≤ pm .o)) (mode .o) (n.mt.acl.getD k Ace.z) = n.mt.acl.getD k Ace.z := by unfold turn9; rw [if_neg s1, if_neg (fun q => q.elim s2 fun q => by rw [s4] at q; cases q.2), if_neg s5]
            cbv
            refine app_one Ace.ch Ace.z ((n.mt.acl.take k).map (turn9 (decide (0 ≤ pm .o)) (mode .o))) (n.mt.acl.getD k Ace.z) rfl (fun i hi => rfl) rfl rfl (by rw [List.length_map, List.length_take]; omega) ?_
            rw [← ht, ← hsucc]
            cbv
            refine ⟨k + 1, r1, by omega, ?_⟩
            cbv
            rw [succ]
            (repeat' (first | exact True.intro | exact Same.refl _ | exact SameB.refl _ | exact ⟨rfl⟩ | exact Same.int rfl | exact Same.str rfl | exact Same.bool rfl | (refine Same.int ?_; simp only [List.length_append, List.length_cons, List.length_nil, zi]; omega) | (refine SameB.row' rfl fun i hi => ?_; first | rfl | exact absurd hi (Nat.not_lt_zero _)) | refine And.intro ?_ ?_ | refine SameB.cells ?_ | exact SameC.nil | refine SameC.cons ?_ ?_ | exact Same.nsl rfl | exact Same.tt rfl | exact Same.ff rfl))
        · have s3 : ¬ (n.mt.acl.getD k Ace.z).tag = 3 := of_decide_eq_false s3
          cbv
          refine br_dec (fun s5 => ?_) (fun s5 => ?_)
          · have s5 : (n.mt.acl.getD k Ace.z).tag = 6 := s5
            have ht : turn9 (decide (0 ≤ pm .o)) (mode .o) (n.mt.acl.getD k Ace.z) = { n.mt.acl.getD k Ace.z with perm := band (mode .o) 7 } := by unfold turn9; rw [if_neg s1, if_neg (fun q => q.elim s2 fun q => s3 q.1), if_pos s5]
            cbv
            refine app_one Ace.ch Ace.z ((n.mt.acl.take k).map (turn9 (decide (0 ≤ pm .o)) (mode .o))) ({ n.mt.acl.getD k Ace.z with perm := band (mode .o) 7 }) rfl (fun i hi => rfl) rfl rfl (by rw [List.length_map, List.length_take]; omega) ?_
            rw [← ht, ← hsucc]
            cbv
            refine ⟨k + 1, r1, by omega, ?_⟩
            cbv
            rw [succ]
            (repeat' (first | exact True.intro | exact Same.refl _ | exact SameB.refl _ | exact ⟨rfl⟩ | exact Same.int rfl | exact Same.str rfl | exact Same.bool rfl | (refine Same.int ?_; simp only [List.length_append, List.length_cons, List.length_nil, zi]; omega) | (refine SameB.row' rfl fun i hi => ?_; first | rfl | exact absurd hi (Nat.not_lt_zero _)) | refine And.intro ?_ ?_ | refine SameB.cells ?_ | exact SameC.nil | refine SameC.cons ?_ ?_ | exact Same.nsl rfl | exact Same.tt rfl | exact Same.ff rfl))
          · have s5 : ¬ (n.mt.acl.getD k Ace.z).tag = 6 := s5
            have ht : turn9 (decide (0 ≤ pm .o)) (mode .o) (n.mt.acl.getD k Ace.z) = n.mt.acl.getD k Ace.z := by unfold turn9; rw [if_neg s1, if_neg (fun q => q.elim s2 fun q => s3 q.1), if_neg s5]
            cbv
            refine app_one Ace.ch Ace.z ((n.mt.acl.take k).map (turn9 (decide (0 ≤ pm .o)) (mode .o))) (n.mt.acl.getD k Ace.z) rfl (fun i hi => rfl) rfl rfl (by rw [List.length_map, List.length_take]; omega) ?_
            rw [← ht, ← hsucc]
            cbv
            refine ⟨k + 1, r1, by omega, ?_⟩
            cbv
            rw [succ]
            (repeat' (first | exact True.intro | exact Same.refl _ | exact SameB.refl _ | exact ⟨rfl⟩ | exact Same.int rfl | exact Same.str rfl | exact Same.bool rfl | (refine Same.int ?_; simp only [List.length_append, List.length_cons, List.length_nil, zi]; omega) | (refine SameB.row' rfl fun i hi => ?_; first | rfl | exact absurd hi (Nat.not_lt_zero _)) | refine And.intro ?_ ?_ | refine SameB.cells ?_ | exact SameC.nil | refine SameC.cons ?_ ?_ | exact Same.nsl rfl | exact Same.tt rfl | exact Same.ff rfl))
      · obtain rfl : k = n.mt.acl.length := Nat.le_antisymm hk r1
        rw [List.take_length]
        cbv
        refine owner9_c (fun _ => { n.mt with mode := abits .andNot .i64 (mode .o) 1024, acl := n.mt.acl.map (turn9 (decide (0 ≤ pm .o)) (mode .o)) }) c fun b2 hb2 => ?_
        have hb2 : b2 .o = own9 n.mt (c .o) := hb2
        cbv
        refine ended_c (fun _ => askS (f .o)) k0 (fun _ => n) (fun _ => !decide (n.kind = 3)) b2 (fun _ => { n with mt := { n.mt with mode := abits .andNot .i64 (mode .o) 1024, acl := n.mt.acl.map (turn9 (decide (0 ≤ pm .o)) (mode .o)) } }) hf.ask q3 fun g e h => ?_
        have h : endS (askS (f .o)) k0 n (!decide (n.kind = 3)) (b2 .o) { n with mt := { n.mt with mode := abits .andNot .i64 (mode .o) 1024, acl := n.mt.acl.map (turn9 (decide (0 ≤ pm .o)) (mode .o)) } } = (g .o, e .o) := h
        rw [hb2] at h
        cbv
        exact ⟨_, .ret (.refl _), hr g e (hend (by rw [hupd]; exact h))⟩
  · have v3 : b4 .o = true := v3
    have hcm : cm9 (c .o) (mode .o) n = mode .o := by unfold cm9; rw [v1, ← hb3, v2, ← hb4, v3]; rfl
    have hupd : updCm9 (c .o) (mode .o) n = { n with mt := { n.mt with mode := mode .o, acl := n.mt.acl.map (turn9 (decide (0 ≤ permR n.mt.acl 5)) (mode .o)) } } := by unfold updCm9; rw [hcm]
    cbv
    refine perm9_c (fun _ => n.mt.acl) (fun _ => 5) (by show short n.mt.acl; unfold short; omega) fun pm hpm => ?_
    have hpm : pm .o = permR n.mt.acl 5 := hpm
    rw [← hpm] at hupd
    obtain ⟨mk, hmk⟩ : ∃ mk : Th Bool, mk = fun _ => decide (0 ≤ pm .o) := ⟨_, rfl⟩
    have hmk0 : mk .o = decide (0 ≤ pm .o) := by rw [hmk]
    cbv
    refine nil_tmp 12 9000 3 (fun _ => .nil) rfl rfl ?_
    refine loop_at (X := Nat) 1000 [3, 5, 8, 9, 10, 11, 12] [5, 8, 9, 10] (fun _ k => .cons 13 (.int .i64 fun _ => zi k) .nil) (fun _ k => .cons 9000 (rowB 3 Ace.ch Ace.z fun _ => (n.mt.acl.take k).map (turn9 (decide (0 ≤ pm .o)) (mode .o))) .nil) (fun k => k ≤ n.mt.acl.length) (fun k => n.mt.acl.length - k) 0 ?_ (Nat.zero_le _) ?_
    · cbv
      (repeat' (first | exact True.intro | exact Same.refl _ | exact SameB.refl _ | exact ⟨rfl⟩ | exact Same.int rfl | exact Same.str rfl | exact Same.bool rfl | (refine Same.int ?_; simp only [List.length_append, List.length_cons, List.length_nil, zi]; omega) | (refine SameB.row' rfl fun i hi => ?_; first | rfl | exact absurd hi (Nat.not_lt_zero _)) | refine And.intro ?_ ?_ | refine SameB.cells ?_ | exact SameC.nil | refine SameC.cons ?_ ?_ | exact Same.nsl rfl | exact Same.tt rfl | exact Same.ff rfl))
    · intro k hk
      have hk : k ≤ n.mt.acl.length := hk
      have hkz := zi_toNat k
      have succ := zi_succ (k := k) (by omega)
      cbv
      refine br_zlt (fun r1 => ?_) (fun r1 => ?_)
      · have r1 : k < n.mt.acl.length := r1
        have hsucc := map_take_succ (f := turn9 (decide (0 ≤ pm .o)) (mode .o)) r1
        cbv
        refine safe ⟨zi_nonneg _, zi_lt.2 r1⟩ ?_
        simp only [hkz]
        refine br_dec (fun s1 => ?_) (fun s1 => ?_)
        · have s1 : (n.mt.acl.getD k Ace.z).tag = 1 := s1
          have ht : turn9 (decide (0 ≤ pm .o)) (mode .o) (n.mt.acl.getD k Ace.z) = { n.mt.acl.getD k Ace.z with perm := band ((mode .o).fdiv (2 ^ min (Int.toNat 6) IntKind.i64.bits)) 7 } := by unfold turn9; rw [if_pos s1]
          cbv
          refine safe (by decide) ?_
          cbv
          refine app_one Ace.ch Ace.z ((n.mt.acl.take k).map (turn9 (decide (0 ≤ pm .o)) (mode .o))) ({ n.mt.acl.getD k Ace.z with perm := band ((mode .o).fdiv (2 ^ min (Int.toNat 6) IntKind.i64.bits)) 7 }) rfl (fun i hi => rfl) rfl rfl (by rw [List.length_map, List.length_take]; omega) ?_
          rw [← ht, ← hsucc]
          cbv
          refine ⟨k + 1, r1, by omega, ?_⟩
          cbv
          rw [succ]
          (repeat' (first | exact True.intro | exact Same.refl _ | exact SameB.refl _ | exact ⟨rfl⟩ | exact Same.int rfl | exact Same.str rfl | exact Same.bool rfl | (refine Same.int ?_; simp only [List.length_append, List.length_cons, List.length_nil, zi]; omega) | (refine SameB.row' rfl fun i hi => ?_; first | rfl | exact absurd hi (Nat.not_lt_zero _)) | refine And.intro ?_ ?_ | refine SameB.cells ?_ | exact SameC.nil | refine SameC.cons ?_ ?_ | exact Same.nsl rfl | exact Same.tt rfl | exact Same.ff rfl))
        have s1 : ¬ (n.mt.acl.getD k Ace.z).tag = 1 := s1
        cbv
        refine br_dec (fun s2 => ?_) (fun s2 => ?_)
        · have s2 : (n.mt.acl.getD k Ace.z).tag = 5 := s2
          have ht : turn9 (decide (0 ≤ pm .o)) (mode .o) (n.mt.acl.getD k Ace.z) = { n.mt.acl.getD k Ace.z with perm := band ((mode .o).fdiv (2 ^ min (Int.toNat 3) IntKind.i64.bits)) 7 } := by unfold turn9; rw [if_neg s1, if_pos (.inl s2)]
          cbv
          refine safe (by decide) ?_
          cbv
          refine app_one Ace.ch Ace.z ((n.mt.acl.take k).map (turn9 (decide (0 ≤ pm .o)) (mode .o))) ({ n.mt.acl.getD k Ace.z with perm := band ((mode .o).fdiv (2 ^ min (Int.toNat 3) IntKind.i64.bits)) 7 }) rfl (fun i hi => rfl) rfl rfl (by rw [List.length_map, List.length_take]; omega) ?_
          rw [← ht, ← hsucc]
          cbv
          refine ⟨k + 1, r1, by omega, ?_⟩
          cbv
          rw [succ]
          (repeat' (first | exact True.intro | exact Same.refl _ | exact SameB.refl _ | exact ⟨rfl⟩ | exact Same.int rfl | exact Same.str rfl | exact Same.bool rfl | (refine Same.int ?_; simp only [List.length_append, List.length_cons, List.length_nil, zi]; omega) | (refine SameB.row' rfl fun i hi => ?_; first | rfl | exact absurd hi (Nat.not_lt_zero _)) | refine And.intro ?_ ?_ | refine SameB.cells ?_ | exact SameC.nil | refine SameC.cons ?_ ?_ | exact Same.nsl rfl | exact Same.tt rfl | exact Same.ff rfl))
        have s2 : ¬ (n.mt.acl.getD k Ace.z).tag = 5 := s2
        cbv
        refine ⟨fun s3 => ?_, fun s3 => ?_⟩
        · have s3 : (n.mt.acl.getD k Ace.z).tag = 3 := of_decide_eq_true s3
          cbv
          refine br_nbool (fun s4 => ?_) (fun s4 => ?_)
          · have s4 : (decide (0 ≤ pm .o)) = false := s4
            have ht : turn9 (decide (0 ≤ pm .o)) (mode .o) (n.mt.acl.getD k Ace.z) = { n.mt.acl.getD k Ace.z with perm := band ((mode .o).fdiv (2 ^ min (Int.toNat 3) IntKind.i64.bits)) 7 } := by unfold turn9; rw [if_neg s1, if_pos (.inr ⟨s3, s4⟩)]
            cbv
            refine safe (by decide) ?_
            cbv
            refine app_one Ace.ch Ace.z ((n.mt.acl.take k).map (turn9 (decide (0 ≤ pm .o)) (mode .o))) ({ n.mt.acl.getD k Ace.z with perm := band ((mode .o).fdiv (2 ^ min (Int.toNat 3) IntKind.i64.bits)) 7 }) rfl (fun i hi => rfl) rfl rfl (by rw [List.length_map, List.length_take]; omega) ?_
            rw [← ht, ← hsucc]
            cbv
            refine ⟨k + 1, r1, by omega, ?_⟩
            cbv
            rw [succ]
            (repeat' (first | exact True.intro | exact Same.refl _ | exact SameB.refl _ | exact ⟨rfl⟩ | exact Same.int rfl | exact Same.str rfl | exact Same.bool rfl | (refine Same.int ?_; simp only [List.length_append, List.length_cons, List.length_nil, zi]; omega) | (refine SameB.row' rfl fun i hi => ?_; first | rfl | exact absurd hi (Nat.not_lt_zero _)) | refine And.intro ?_ ?_ | refine SameB.cells ?_ | exact SameC.nil | refine SameC.cons ?_ ?_ | exact Same.nsl rfl | exact Same.tt rfl | exact Same.ff rfl))
          · have s4 : (decide (0 ≤ pm .o)) = true := s4
            have s5 : ¬ (n.mt.acl.getD k Ace.z).tag = 6 := fun q => by rw [s3] at q; cases q
            cbv
            refine br_not (decide_eq_false s5) ?_
            have ht : turn9 (decide (0 ≤ pm .o)) (mode .o) (n.mt.acl.getD k Ace.z) = n.mt.acl.getD k Ace.z := by unfold turn9; rw [if_neg s1, if_neg (fun q => q.elim s2 fun q => by rw [s4] at q; cases q.2), if_neg s5]
            cbv
            refine app_one Ace.ch Ace.z ((n.mt.acl.take k).map (turn9 (decide (0 ≤ pm .o)) (mode .o))) (n.mt.acl.getD k Ace.z) rfl (fun i hi => rfl) rfl rfl (by rw [List.length_map, List.length_take]; omega) ?_
            rw [← ht, ← hsucc]
            cbv
            refine ⟨k + 1, r1, by omega, ?_⟩
            cbv
            rw [succ]
            (repeat' (first | exact True.intro | exact Same.refl _ | exact SameB.refl _ | exact ⟨rfl⟩ | exact Same.int rfl | exact Same.str rfl | exact Same.bool rfl | (refine Same.int ?_; simp only [List.length_append, List.length_cons, List.length_nil, zi]; omega) | (refine SameB.row' rfl fun i hi => ?_; first | rfl | exact absurd hi (Nat.not_lt_zero _)) | refine And.intro ?_ ?_ | refine SameB.cells ?_ | exact SameC.nil | refine SameC.cons ?_ ?_ | exact Same.nsl rfl | exact Same.tt rfl | exact Same.ff rfl))
        · have s3 : ¬ (n.mt.acl.getD k Ace.z).tag = 3 := of_decide_eq_false s3
          cbv
          refine br_dec (fun s5 => ?_) (fun s5 => ?_)
          · have s5 : (n.mt.acl.getD k Ace.z).tag = 6 := s5
            have ht : turn9 (decide (0 ≤ pm .o)) (mode .o) (n.mt.acl.getD k Ace.z) = { n.mt.acl.getD k Ace.z with perm := band (mode .o) 7 } := by unfold turn9; rw [if_neg s1, if_neg (fun q => q.elim s2 fun q => s3 q.1), if_pos s5]
            cbv
            refine app_one Ace.ch Ace.z ((n.mt.acl.take k).map (turn9 (decide (0 ≤ pm .o)) (mode .o))) ({ n.mt.acl.getD k Ace.z with perm := band (mode .o) 7 }) rfl (fun i hi => rfl) rfl rfl (by rw [List.length_map, List.length_take]; omega) ?_
            rw [← ht, ← hsucc]
            cbv
            refine ⟨k + 1, r1, by omega, ?_⟩
            cbv
            rw [succ]
            (repeat' (first | exact True.intro | exact Same.refl _ | exact SameB.refl _ | exact ⟨rfl⟩ | exact Same.int rfl | exact Same.str rfl | exact Same.bool rfl | (refine Same.int ?_; simp only [List.length_append, List.length_cons, List.length_nil, zi]; omega) | (refine SameB.row' rfl fun i hi => ?_; first | rfl | exact absurd hi (Nat.not_lt_zero _)) | refine And.intro ?_ ?_ | refine SameB.cells ?_ | exact SameC.nil | refine SameC.cons ?_ ?_ | exact Same.nsl rfl | exact Same.tt rfl | exact Same.ff rfl))
          · have s5 : ¬ (n.mt.acl.getD k Ace.z).tag = 6 := s5
            have ht : turn9 (decide (0 ≤ pm .o)) (mode .o) (n.mt.acl.getD k Ace.z) = n.mt.acl.getD k Ace.z := by unfold turn9; rw [if_neg s1, if_neg (fun q => q.elim s2 fun q => s3 q.1), if_neg s5]
            cbv
            refine app_one Ace.ch Ace.z ((n.mt.acl.take k).map (turn9 (decide (0 ≤ pm .o)) (mode .o))) (n.mt.acl.getD k Ace.z) rfl (fun i hi => rfl) rfl rfl (by rw [List.length_map, List.length_take]; omega) ?_
            rw [← ht, ← hsucc]
            cbv
            refine ⟨k + 1, r1, by omega, ?_⟩
            cbv
            rw [succ]
            (repeat' (first | exact True.intro | exact Same.refl _ | exact SameB.refl _ | exact ⟨rfl⟩ | exact Same.int rfl | exact Same.str rfl | exact Same.bool rfl | (refine Same.int ?_; simp only [List.length_append, List.length_cons, List.length_nil, zi]; omega) | (refine SameB.row' rfl fun i hi => ?_; first | rfl | exact absurd hi (Nat.not_lt_zero _)) | refine And.intro ?_ ?_ | refine SameB.cells ?_ | exact SameC.nil | refine SameC.cons ?_ ?_ | exact Same.nsl rfl | exact Same.tt rfl | exact Same.ff rfl))
      · obtain rfl : k = n.mt.acl.length := Nat.le_antisymm hk r1
        rw [List.take_length]
        cbv
        refine owner9_c (fun _ => { n.mt with mode := mode .o, acl := n.mt.acl.map (turn9 (decide (0 ≤ pm .o)) (mode .o)) }) c fun b2 hb2 => ?_
        have hb2 : b2 .o = own9 n.mt (c .o) := hb2
        cbv
        refine ended_c (fun _ => askS (f .o)) k0 (fun _ => n) (fun _ => !decide (n.kind = 3)) b2 (fun _ => { n with mt := { n.mt with mode := mode .o, acl := n.mt.acl.map (turn9 (decide (0 ≤ pm .o)) (mode .o)) } }) hf.ask q3 fun g e h => ?_
        have h : endS (askS (f .o)) k0 n (!decide (n.kind = 3)) (b2 .o) { n with mt := { n.mt with mode := mode .o, acl := n.mt.acl.map (turn9 (decide (0 ≤ pm .o)) (mode .o)) } } = (g .o, e .o) := h
        rw [hb2] at h
        cbv
        exact ⟨_, .ret (.refl _), hr g e (hend (by rw [hupd]; exact h))⟩
end Go.Proofs.YtkklflpfklbbcaaDoor
/- The law FsDevices, in plain. -/
namespace Go.Proofs.YtkklflpfklbbcaaDoor
open Go Go.Proofs.YtkklflpfklbbcaaDoor.Sx F
set_option linter.unusedVariables false
set_option linter.unusedSimpArgs false
theorem truF {b : Bool} {A B : Prop} (hb : b = true) (h : B) : (b = false → A) ∧ (b = true → B) := ⟨fun q => absurd (hb.symm.trans q) (by decide), fun _ => h⟩
def nodD (k : Int) : Ino := ⟨k, metaZ, [], if k = 3 then [120] else [], 0, 0, []⟩
def whoD (b : Bool) : Cred := ⟨5, 5, [], if b then 16 else 0⟩
def rtD : Ino := { rootS with mt := { metaZ with mode := 511 } }
def FD0 : FS := ⟨[rtD], 10, 1, []⟩
def FD1 : FS := ⟨[rtD], 10, 2, []⟩
def madeD (k : Int) : Ino := ⟨k, { metaZ with mode := if k = 3 then 511 else 0, uid := 5, gid := 5 }, [], if k = 3 then [120] else [], 0, 0, []⟩
def FD2 (k : Int) : FS := ⟨[{ rtD with kids := [⟨[110], 1⟩] }, madeD k], 10, 2, []⟩
theorem dev_chmod : chgS (newS 10) ((decide ((0 : Int) ≤ 511) && decide ((511 : Int) ≤ 4095)) && isPath []) (upD rootC [] (chkE (fun n => !decide (n.kind = 3)) (fun n => own9 n.mt rootC)) (updCm9 rootC 511)) = (FD0, 0) := by kernel_rfl
def mayD (k : Int) : Bool := !decide ([110] = ([] : List UInt8)) && mayMk (nodD k) && isPath [110]
theorem dev_bad : ∀ k : Int, k = 4 ∨ k = 5 → chgS FD0 (mayD k) (mkD (whoD false) [110] (nodD k)) = (FD1, 7)
  | _, .inl rfl => by kernel_rfl
  | _, .inr rfl => by kernel_rfl
theorem dev_ok4 : chgS FD0 (mayD 4) (mkD (whoD true) [110] (nodD 4)) = (FD2 4, 0) := by kernel_rfl
theorem dev_ok5 : chgS FD0 (mayD 5) (mkD (whoD true) [110] (nodD 5)) = (FD2 5, 0) := by kernel_rfl
theorem dev_ok7 (b : Bool) : chgS FD0 (mayD 7) (mkD (whoD b) [110] (nodD 7)) = (FD2 7, 0) := by cases b <;> kernel_rfl
theorem dev_ok1 (b : Bool) : chgS FD0 (mayD 1) (mkD (whoD b) [110] (nodD 1)) = (FD2 1, 0) := by cases b <;> kernel_rfl
theorem dev_ok6 (b : Bool) : chgS FD0 (mayD 6) (mkD (whoD b) [110] (nodD 6)) = (FD2 6, 0) := by cases b <;> kernel_rfl
theorem dev_ok3 (b : Bool) : chgS FD0 (mayD 3) (mkD (whoD b) [110] (nodD 3)) = (FD2 3, 0) := by cases b <;> kernel_rfl
theorem dev_two : ∀ k ∈ [(4 : Int), 5, 7, 1, 6, 3], ∀ b, (chgS (FD2 k) (mayD k) (mkD (whoD b) [110] (nodD k))).2 = 3 := by decide +kernel
theorem walk_d0 {c : Cred} (hc : short c.groups) : Walk FD0 c := walk_l hc (by decide) (by decide) rfl fun x hx => by
  obtain rfl : x = rtD := by simpa [FD0] using hx
  exact ⟨by show 0 ≤ 1000; decide, (fun d (hd : d ∈ ([] : List Dent)) => absurd hd List.not_mem_nil), List.Pairwise.nil, rfl⟩
theorem walk_d2 (k : Int) {c : Cred} (hc : short c.groups) : Walk (FD2 k) c := walk_l hc (by show 0 < 2; decide) (by show 2 ≤ 1000; decide) rfl fun x hx => by
  have hx : x = { rtD with kids := [⟨[110], 1⟩] } ∨ x = madeD k := by simpa [FD2] using hx
  rcases hx with rfl | rfl
  · exact ⟨by show 1 ≤ 1000; decide, (by decide : ∀ d ∈ [(⟨[110], 1⟩ : Dent)], 0 ≤ d.ino ∧ d.ino < 2), List.pairwise_singleton _ _, rfl⟩
  · exact ⟨by show 0 ≤ 1000; decide, (fun d (hd : d ∈ ([] : List Dent)) => absurd hd List.not_mem_nil), List.Pairwise.nil, rfl⟩
end Go.Proofs.YtkklflpfklbbcaaDoor
/- The law FsDevices, walked: it answers true whatever the numbers. -/
namespace Go.Proofs.YtkklflpfklbbcaaDoor
open Go Go.Proofs.YtkklflpfklbbcaaDoor.Sx F
set_option linter.unusedVariables false
set_option linter.unusedSimpArgs false
attribute [local cbv_opaque] Int.tmod
theorem fsDevices_c (kind : Th Int) (power : Th Bool) (hk : 0 ≤ kind .o ∧ kind .o < 256) : CallAt PT l19_FsDevices [.int .u8 kind, .bool power] 9999 .nil Yes := by
  have h6 : 0 ≤ (kind .o).tmod 6 ∧ (kind .o).tmod 6 < 6 := ⟨Int.tmod_nonneg _ hk.1, Int.tmod_lt_of_pos _ (by decide)⟩
  obtain ⟨r, hr, hr6⟩ : ∃ r : Nat, (kind .o).tmod 6 = Int.ofNat r ∧ r < 6 := ⟨((kind .o).tmod 6).toNat, by rw [Int.ofNat_eq_natCast]; omega, by omega⟩
  refine l19_FsDevices.of rfl rfl ?_
  cbv
  refine ⟨fun _ => by decide, fun _ => h6, fun _ => (by show ((kind .o).tmod 6).toNat < 6; omega), ?_⟩
  rw [hr]
  match r, hr6 with
  | 0, _ =>
    cbv
    refine fls (by decide) ?_
    cbv
    refine new18_c (fun _ => 10) fun f hf => ?_
    have hf : f .o = newS 10 := hf
    cbv
    refine rootc_c ?_
    cbv
    refine chmod18_c f (fun _ => rootC) (fun _ => []) (fun _ => 511) (by rw [hf]; exact ok_new 10) short_root (by show 0 ≤ 100000; decide) fun f1 e1 h1 => ?_
    have h1 := (congrArg (fun f => chgS f ((decide ((0 : Int) ≤ 511) && decide ((511 : Int) ≤ 4095)) && isPath []) (upD rootC [] (chkE (fun n => !decide (n.kind = 3)) (fun n => own9 n.mt rootC)) (updCm9 rootC 511))) hf).symm.trans h1
    rw [dev_chmod] at h1
    have hf1 : f1 .o = FD0 := (congrArg Prod.fst h1).symm
    cbv
    refine ⟨fun hp => ?_, fun hp => ?_⟩
    · have hp : power .o = true := hp
      cbv
      refine CallAt.args (as' := [FS.av f1, Cred.av fun _ => whoD true, .str fun _ => [110], Ino.av fun _ => nodD 4]) (.cons (.refl _) (.cons (cred_same (fun _ => 5) (fun _ => 5) (fun _ => 16)) (.cons (.refl _) (.cons (ino_same (fun _ => 4) (fun _ => 0) (fun _ => 0) (fun _ => 0) (fun _ => 0) (fun _ => 0) (fun _ => []) (fun _ => [])) .nil)))) ?_
      refine make_c f1 (fun _ => whoD true) (fun _ => [110]) (fun _ => nodD 4) (by rw [hf1]; exact walk_d0 short_nil) (by show 1 ≤ 100000; decide) (by show 0 ≤ 1000000; decide) (by rw [hf1]; show -1000000 ≤ (10 : Int) ∧ (10 : Int) ≤ 1000000000; decide) fun f2 ef2 qf2 => ?_
      have qf2 := (congrArg (fun f => chgS f (mayD 4) (mkD (whoD true) [110] (nodD 4))) hf1).symm.trans qf2
      cbv
      rw [dev_ok4] at qf2
      have hf2 : f2 .o = FD2 4 := (congrArg Prod.fst qf2).symm
      have ee2 : ef2 .o = 0 := (congrArg Prod.snd qf2).symm
      refine fls (by show (!power .o) = false; rw [hp]; rfl) ?_
      cbv
      refine CallAt.args (as' := [FS.av f2, Cred.av fun _ => whoD true, .str fun _ => [110], Ino.av fun _ => nodD 4]) (.cons (.refl _) (.cons (cred_same (fun _ => 5) (fun _ => 5) (fun _ => 16)) (.cons (.refl _) (.cons (ino_same (fun _ => 4) (fun _ => 0) (fun _ => 0) (fun _ => 0) (fun _ => 0) (fun _ => 0) (fun _ => []) (fun _ => [])) .nil)))) ?_
      refine make_c f2 (fun _ => whoD true) (fun _ => [110]) (fun _ => nodD 4) (by rw [hf2]; exact walk_d2 4 short_nil) (by show 1 ≤ 100000; decide) (by show 0 ≤ 1000000; decide) (by rw [hf2]; show -1000000 ≤ (10 : Int) ∧ (10 : Int) ≤ 1000000000; decide) fun f3 ef3 qf3 => ?_
      have qf3 := (congrArg (fun f => chgS f (mayD 4) (mkD (whoD true) [110] (nodD 4))) hf2).symm.trans qf3
      cbv
      have ee3 : ef3 .o = 3 := (congrArg Prod.snd qf3).symm.trans (dev_two 4 (by decide) true)
      refine err19_c _ ?_
      cbv
      refine tru (decide_eq_true ee2) ?_
      cbv
      refine tru (decide_eq_true (by show zi (f2 .o).nodes.length = 2; rw [hf2]; rfl)) ?_
      cbv
      refine safe ⟨by decide, by rw [hf2]; show (1 : Int) < 2; decide⟩ ?_
      refine tru (decide_eq_true (by show ((f2 .o).nodes.getD 1 Ino.z).mt.uid = 5; rw [hf2]; rfl)) ?_
      cbv
      refine err19_c _ ?_
      cbv
      refine tru (decide_eq_true ee3) ?_
      cbv
      refine awake19_c fun b5 hb5 => ?_
      cbv
      exact ⟨b5, rfl, hb5⟩
    · have hp : power .o = false := hp
      cbv
      refine CallAt.args (as' := [FS.av f1, Cred.av fun _ => whoD false, .str fun _ => [110], Ino.av fun _ => nodD 4]) (.cons (.refl _) (.cons (cred_same (fun _ => 5) (fun _ => 5) (fun _ => 0)) (.cons (.refl _) (.cons (ino_same (fun _ => 4) (fun _ => 0) (fun _ => 0) (fun _ => 0) (fun _ => 0) (fun _ => 0) (fun _ => []) (fun _ => [])) .nil)))) ?_
      refine make_c f1 (fun _ => whoD false) (fun _ => [110]) (fun _ => nodD 4) (by rw [hf1]; exact walk_d0 short_nil) (by show 1 ≤ 100000; decide) (by show 0 ≤ 1000000; decide) (by rw [hf1]; show -1000000 ≤ (10 : Int) ∧ (10 : Int) ≤ 1000000000; decide) fun f2 ef2 qf2 => ?_
      have qf2 := (congrArg (fun f => chgS f (mayD 4) (mkD (whoD false) [110] (nodD 4))) hf1).symm.trans qf2
      cbv
      rw [dev_bad 4 (.inl rfl)] at qf2
      have hf2 : f2 .o = FD1 := (congrArg Prod.fst qf2).symm
      have ee2 : ef2 .o = 7 := (congrArg Prod.snd qf2).symm
      refine tru (by show (!power .o) = true; rw [hp]; rfl) ?_
      cbv
      refine truF (by decide) ?_
      cbv
      refine err19_c _ ?_
      cbv
      refine tru (decide_eq_true ee2) ?_
      cbv
      refine tru (decide_eq_true (by show zi (f2 .o).nodes.length = 1; rw [hf2]; rfl)) ?_
      cbv
      refine awake19_c fun b5 hb5 => ?_
      cbv
      exact ⟨b5, rfl, hb5⟩
  | 1, _ =>
    cbv
    refine fls (by decide) ?_
    cbv
    refine new18_c (fun _ => 10) fun f hf => ?_
    have hf : f .o = newS 10 := hf
    cbv
    refine rootc_c ?_
    cbv
    refine chmod18_c f (fun _ => rootC) (fun _ => []) (fun _ => 511) (by rw [hf]; exact ok_new 10) short_root (by show 0 ≤ 100000; decide) fun f1 e1 h1 => ?_
    have h1 := (congrArg (fun f => chgS f ((decide ((0 : Int) ≤ 511) && decide ((511 : Int) ≤ 4095)) && isPath []) (upD rootC [] (chkE (fun n => !decide (n.kind = 3)) (fun n => own9 n.mt rootC)) (updCm9 rootC 511))) hf).symm.trans h1
    rw [dev_chmod] at h1
    have hf1 : f1 .o = FD0 := (congrArg Prod.fst h1).symm
    cbv
    refine ⟨fun hp => ?_, fun hp => ?_⟩
    · have hp : power .o = true := hp
      cbv
      refine CallAt.args (as' := [FS.av f1, Cred.av fun _ => whoD true, .str fun _ => [110], Ino.av fun _ => nodD 5]) (.cons (.refl _) (.cons (cred_same (fun _ => 5) (fun _ => 5) (fun _ => 16)) (.cons (.refl _) (.cons (ino_same (fun _ => 5) (fun _ => 0) (fun _ => 0) (fun _ => 0) (fun _ => 0) (fun _ => 0) (fun _ => []) (fun _ => [])) .nil)))) ?_
      refine make_c f1 (fun _ => whoD true) (fun _ => [110]) (fun _ => nodD 5) (by rw [hf1]; exact walk_d0 short_nil) (by show 1 ≤ 100000; decide) (by show 0 ≤ 1000000; decide) (by rw [hf1]; show -1000000 ≤ (10 : Int) ∧ (10 : Int) ≤ 1000000000; decide) fun f2 ef2 qf2 => ?_
      have qf2 := (congrArg (fun f => chgS f (mayD 5) (mkD (whoD true) [110] (nodD 5))) hf1).symm.trans qf2
      cbv
      rw [dev_ok5] at qf2
      have hf2 : f2 .o = FD2 5 := (congrArg Prod.fst qf2).symm
      have ee2 : ef2 .o = 0 := (congrArg Prod.snd qf2).symm
      refine fls (by show (!power .o) = false; rw [hp]; rfl) ?_
      cbv
      refine CallAt.args (as' := [FS.av f2, Cred.av fun _ => whoD true, .str fun _ => [110], Ino.av fun _ => nodD 5]) (.cons (.refl _) (.cons (cred_same (fun _ => 5) (fun _ => 5) (fun _ => 16)) (.cons (.refl _) (.cons (ino_same (fun _ => 5) (fun _ => 0) (fun _ => 0) (fun _ => 0) (fun _ => 0) (fun _ => 0) (fun _ => []) (fun _ => [])) .nil)))) ?_
      refine make_c f2 (fun _ => whoD true) (fun _ => [110]) (fun _ => nodD 5) (by rw [hf2]; exact walk_d2 5 short_nil) (by show 1 ≤ 100000; decide) (by show 0 ≤ 1000000; decide) (by rw [hf2]; show -1000000 ≤ (10 : Int) ∧ (10 : Int) ≤ 1000000000; decide) fun f3 ef3 qf3 => ?_
      have qf3 := (congrArg (fun f => chgS f (mayD 5) (mkD (whoD true) [110] (nodD 5))) hf2).symm.trans qf3
      cbv
      have ee3 : ef3 .o = 3 := (congrArg Prod.snd qf3).symm.trans (dev_two 5 (by decide) true)
      refine err19_c _ ?_
      cbv
      refine tru (decide_eq_true ee2) ?_
      cbv
      refine tru (decide_eq_true (by show zi (f2 .o).nodes.length = 2; rw [hf2]; rfl)) ?_
      cbv
      refine safe ⟨by decide, by rw [hf2]; show (1 : Int) < 2; decide⟩ ?_
      refine tru (decide_eq_true (by show ((f2 .o).nodes.getD 1 Ino.z).mt.uid = 5; rw [hf2]; rfl)) ?_
      cbv
      refine err19_c _ ?_
      cbv
      refine tru (decide_eq_true ee3) ?_
      cbv
      refine awake19_c fun b5 hb5 => ?_
      cbv
      exact ⟨b5, rfl, hb5⟩
    · have hp : power .o = false := hp
      cbv
      refine CallAt.args (as' := [FS.av f1, Cred.av fun _ => whoD false, .str fun _ => [110], Ino.av fun _ => nodD 5]) (.cons (.refl _) (.cons (cred_same (fun _ => 5) (fun _ => 5) (fun _ => 0)) (.cons (.refl _) (.cons (ino_same (fun _ => 5) (fun _ => 0) (fun _ => 0) (fun _ => 0) (fun _ => 0) (fun _ => 0) (fun _ => []) (fun _ => [])) .nil)))) ?_
      refine make_c f1 (fun _ => whoD false) (fun _ => [110]) (fun _ => nodD 5) (by rw [hf1]; exact walk_d0 short_nil) (by show 1 ≤ 100000; decide) (by show 0 ≤ 1000000; decide) (by rw [hf1]; show -1000000 ≤ (10 : Int) ∧ (10 : Int) ≤ 1000000000; decide) fun f2 ef2 qf2 => ?_
      have qf2 := (congrArg (fun f => chgS f (mayD 5) (mkD (whoD false) [110] (nodD 5))) hf1).symm.trans qf2
      cbv
      rw [dev_bad 5 (.inr rfl)] at qf2
      have hf2 : f2 .o = FD1 := (congrArg Prod.fst qf2).symm
      have ee2 : ef2 .o = 7 := (congrArg Prod.snd qf2).symm
      refine tru (by show (!power .o) = true; rw [hp]; rfl) ?_
      cbv
      refine flsF (by decide) ?_
      cbv
      refine tru (by decide) ?_
      cbv
      refine err19_c _ ?_
      cbv
      refine tru (decide_eq_true ee2) ?_
      cbv
      refine tru (decide_eq_true (by show zi (f2 .o).nodes.length = 1; rw [hf2]; rfl)) ?_
      cbv
      refine awake19_c fun b5 hb5 => ?_
      cbv
      exact ⟨b5, rfl, hb5⟩
  | 2, _ =>
    cbv
    refine fls (by decide) ?_
    cbv
    refine new18_c (fun _ => 10) fun f hf => ?_
    have hf : f .o = newS 10 := hf
    cbv
    refine rootc_c ?_
    cbv
    refine chmod18_c f (fun _ => rootC) (fun _ => []) (fun _ => 511) (by rw [hf]; exact ok_new 10) short_root (by show 0 ≤ 100000; decide) fun f1 e1 h1 => ?_
    have h1 := (congrArg (fun f => chgS f ((decide ((0 : Int) ≤ 511) && decide ((511 : Int) ≤ 4095)) && isPath []) (upD rootC [] (chkE (fun n => !decide (n.kind = 3)) (fun n => own9 n.mt rootC)) (updCm9 rootC 511))) hf).symm.trans h1
    rw [dev_chmod] at h1
    have hf1 : f1 .o = FD0 := (congrArg Prod.fst h1).symm
    cbv
    refine ⟨fun hp => ?_, fun hp => ?_⟩
    · have hp : power .o = true := hp
      cbv
      refine CallAt.args (as' := [FS.av f1, Cred.av fun _ => whoD true, .str fun _ => [110], Ino.av fun _ => nodD 7]) (.cons (.refl _) (.cons (cred_same (fun _ => 5) (fun _ => 5) (fun _ => 16)) (.cons (.refl _) (.cons (ino_same (fun _ => 7) (fun _ => 0) (fun _ => 0) (fun _ => 0) (fun _ => 0) (fun _ => 0) (fun _ => []) (fun _ => [])) .nil)))) ?_
      refine make_c f1 (fun _ => whoD true) (fun _ => [110]) (fun _ => nodD 7) (by rw [hf1]; exact walk_d0 short_nil) (by show 1 ≤ 100000; decide) (by show 0 ≤ 1000000; decide) (by rw [hf1]; show -1000000 ≤ (10 : Int) ∧ (10 : Int) ≤ 1000000000; decide) fun f2 ef2 qf2 => ?_
      have qf2 := (congrArg (fun f => chgS f (mayD 7) (mkD (whoD true) [110] (nodD 7))) hf1).symm.trans qf2
      cbv
      rw [dev_ok7 true] at qf2
      have hf2 : f2 .o = FD2 7 := (congrArg Prod.fst qf2).symm
      have ee2 : ef2 .o = 0 := (congrArg Prod.snd qf2).symm
      refine fls (by show (!power .o) = false; rw [hp]; rfl) ?_
      cbv
      refine CallAt.args (as' := [FS.av f2, Cred.av fun _ => whoD true, .str fun _ => [110], Ino.av fun _ => nodD 7]) (.cons (.refl _) (.cons (cred_same (fun _ => 5) (fun _ => 5) (fun _ => 16)) (.cons (.refl _) (.cons (ino_same (fun _ => 7) (fun _ => 0) (fun _ => 0) (fun _ => 0) (fun _ => 0) (fun _ => 0) (fun _ => []) (fun _ => [])) .nil)))) ?_
      refine make_c f2 (fun _ => whoD true) (fun _ => [110]) (fun _ => nodD 7) (by rw [hf2]; exact walk_d2 7 short_nil) (by show 1 ≤ 100000; decide) (by show 0 ≤ 1000000; decide) (by rw [hf2]; show -1000000 ≤ (10 : Int) ∧ (10 : Int) ≤ 1000000000; decide) fun f3 ef3 qf3 => ?_
      have qf3 := (congrArg (fun f => chgS f (mayD 7) (mkD (whoD true) [110] (nodD 7))) hf2).symm.trans qf3
      cbv
      have ee3 : ef3 .o = 3 := (congrArg Prod.snd qf3).symm.trans (dev_two 7 (by decide) true)
      refine err19_c _ ?_
      cbv
      refine tru (decide_eq_true ee2) ?_
      cbv
      refine tru (decide_eq_true (by show zi (f2 .o).nodes.length = 2; rw [hf2]; rfl)) ?_
      cbv
      refine safe ⟨by decide, by rw [hf2]; show (1 : Int) < 2; decide⟩ ?_
      refine tru (decide_eq_true (by show ((f2 .o).nodes.getD 1 Ino.z).mt.uid = 5; rw [hf2]; rfl)) ?_
      cbv
      refine err19_c _ ?_
      cbv
      refine tru (decide_eq_true ee3) ?_
      cbv
      refine awake19_c fun b5 hb5 => ?_
      cbv
      exact ⟨b5, rfl, hb5⟩
    · have hp : power .o = false := hp
      cbv
      refine CallAt.args (as' := [FS.av f1, Cred.av fun _ => whoD false, .str fun _ => [110], Ino.av fun _ => nodD 7]) (.cons (.refl _) (.cons (cred_same (fun _ => 5) (fun _ => 5) (fun _ => 0)) (.cons (.refl _) (.cons (ino_same (fun _ => 7) (fun _ => 0) (fun _ => 0) (fun _ => 0) (fun _ => 0) (fun _ => 0) (fun _ => []) (fun _ => [])) .nil)))) ?_
      refine make_c f1 (fun _ => whoD false) (fun _ => [110]) (fun _ => nodD 7) (by rw [hf1]; exact walk_d0 short_nil) (by show 1 ≤ 100000; decide) (by show 0 ≤ 1000000; decide) (by rw [hf1]; show -1000000 ≤ (10 : Int) ∧ (10 : Int) ≤ 1000000000; decide) fun f2 ef2 qf2 => ?_
      have qf2 := (congrArg (fun f => chgS f (mayD 7) (mkD (whoD false) [110] (nodD 7))) hf1).symm.trans qf2
      cbv
      rw [dev_ok7 false] at qf2
      have hf2 : f2 .o = FD2 7 := (congrArg Prod.fst qf2).symm
      have ee2 : ef2 .o = 0 := (congrArg Prod.snd qf2).symm
      refine tru (by show (!power .o) = true; rw [hp]; rfl) ?_
      cbv
      refine flsF (by decide) ?_
      cbv
      refine fls (by decide) ?_
      cbv
      refine CallAt.args (as' := [FS.av f2, Cred.av fun _ => whoD false, .str fun _ => [110], Ino.av fun _ => nodD 7]) (.cons (.refl _) (.cons (cred_same (fun _ => 5) (fun _ => 5) (fun _ => 0)) (.cons (.refl _) (.cons (ino_same (fun _ => 7) (fun _ => 0) (fun _ => 0) (fun _ => 0) (fun _ => 0) (fun _ => 0) (fun _ => []) (fun _ => [])) .nil)))) ?_
      refine make_c f2 (fun _ => whoD false) (fun _ => [110]) (fun _ => nodD 7) (by rw [hf2]; exact walk_d2 7 short_nil) (by show 1 ≤ 100000; decide) (by show 0 ≤ 1000000; decide) (by rw [hf2]; show -1000000 ≤ (10 : Int) ∧ (10 : Int) ≤ 1000000000; decide) fun f3 ef3 qf3 => ?_
      have qf3 := (congrArg (fun f => chgS f (mayD 7) (mkD (whoD false) [110] (nodD 7))) hf2).symm.trans qf3
      cbv
      have ee3 : ef3 .o = 3 := (congrArg Prod.snd qf3).symm.trans (dev_two 7 (by decide) false)
      refine err19_c _ ?_
      cbv
      refine tru (decide_eq_true ee2) ?_
      cbv
      refine tru (decide_eq_true (by show zi (f2 .o).nodes.length = 2; rw [hf2]; rfl)) ?_
      cbv
      refine safe ⟨by decide, by rw [hf2]; show (1 : Int) < 2; decide⟩ ?_
      refine tru (decide_eq_true (by show ((f2 .o).nodes.getD 1 Ino.z).mt.uid = 5; rw [hf2]; rfl)) ?_
      cbv
      refine err19_c _ ?_
      cbv
      refine tru (decide_eq_true ee3) ?_
      cbv
      refine awake19_c fun b5 hb5 => ?_
      cbv
      exact ⟨b5, rfl, hb5⟩
  | 3, _ =>
    cbv
    refine fls (by decide) ?_
    cbv
    refine new18_c (fun _ => 10) fun f hf => ?_
    have hf : f .o = newS 10 := hf
    cbv
    refine rootc_c ?_
    cbv
    refine chmod18_c f (fun _ => rootC) (fun _ => []) (fun _ => 511) (by rw [hf]; exact ok_new 10) short_root (by show 0 ≤ 100000; decide) fun f1 e1 h1 => ?_
    have h1 := (congrArg (fun f => chgS f ((decide ((0 : Int) ≤ 511) && decide ((511 : Int) ≤ 4095)) && isPath []) (upD rootC [] (chkE (fun n => !decide (n.kind = 3)) (fun n => own9 n.mt rootC)) (updCm9 rootC 511))) hf).symm.trans h1
    rw [dev_chmod] at h1
    have hf1 : f1 .o = FD0 := (congrArg Prod.fst h1).symm
    cbv
    refine ⟨fun hp => ?_, fun hp => ?_⟩
    · have hp : power .o = true := hp
      cbv
      refine CallAt.args (as' := [FS.av f1, Cred.av fun _ => whoD true, .str fun _ => [110], Ino.av fun _ => nodD 1]) (.cons (.refl _) (.cons (cred_same (fun _ => 5) (fun _ => 5) (fun _ => 16)) (.cons (.refl _) (.cons (ino_same (fun _ => 1) (fun _ => 0) (fun _ => 0) (fun _ => 0) (fun _ => 0) (fun _ => 0) (fun _ => []) (fun _ => [])) .nil)))) ?_
      refine make_c f1 (fun _ => whoD true) (fun _ => [110]) (fun _ => nodD 1) (by rw [hf1]; exact walk_d0 short_nil) (by show 1 ≤ 100000; decide) (by show 0 ≤ 1000000; decide) (by rw [hf1]; show -1000000 ≤ (10 : Int) ∧ (10 : Int) ≤ 1000000000; decide) fun f2 ef2 qf2 => ?_
      have qf2 := (congrArg (fun f => chgS f (mayD 1) (mkD (whoD true) [110] (nodD 1))) hf1).symm.trans qf2
      cbv
      rw [dev_ok1 true] at qf2
      have hf2 : f2 .o = FD2 1 := (congrArg Prod.fst qf2).symm
      have ee2 : ef2 .o = 0 := (congrArg Prod.snd qf2).symm
      refine fls (by show (!power .o) = false; rw [hp]; rfl) ?_
      cbv
      refine CallAt.args (as' := [FS.av f2, Cred.av fun _ => whoD true, .str fun _ => [110], Ino.av fun _ => nodD 1]) (.cons (.refl _) (.cons (cred_same (fun _ => 5) (fun _ => 5) (fun _ => 16)) (.cons (.refl _) (.cons (ino_same (fun _ => 1) (fun _ => 0) (fun _ => 0) (fun _ => 0) (fun _ => 0) (fun _ => 0) (fun _ => []) (fun _ => [])) .nil)))) ?_
      refine make_c f2 (fun _ => whoD true) (fun _ => [110]) (fun _ => nodD 1) (by rw [hf2]; exact walk_d2 1 short_nil) (by show 1 ≤ 100000; decide) (by show 0 ≤ 1000000; decide) (by rw [hf2]; show -1000000 ≤ (10 : Int) ∧ (10 : Int) ≤ 1000000000; decide) fun f3 ef3 qf3 => ?_
      have qf3 := (congrArg (fun f => chgS f (mayD 1) (mkD (whoD true) [110] (nodD 1))) hf2).symm.trans qf3
      cbv
      have ee3 : ef3 .o = 3 := (congrArg Prod.snd qf3).symm.trans (dev_two 1 (by decide) true)
      refine err19_c _ ?_
      cbv
      refine tru (decide_eq_true ee2) ?_
      cbv
      refine tru (decide_eq_true (by show zi (f2 .o).nodes.length = 2; rw [hf2]; rfl)) ?_
      cbv
      refine safe ⟨by decide, by rw [hf2]; show (1 : Int) < 2; decide⟩ ?_
      refine tru (decide_eq_true (by show ((f2 .o).nodes.getD 1 Ino.z).mt.uid = 5; rw [hf2]; rfl)) ?_
      cbv
      refine err19_c _ ?_
      cbv
      refine tru (decide_eq_true ee3) ?_
      cbv
      refine awake19_c fun b5 hb5 => ?_
      cbv
      exact ⟨b5, rfl, hb5⟩
    · have hp : power .o = false := hp
      cbv
      refine CallAt.args (as' := [FS.av f1, Cred.av fun _ => whoD false, .str fun _ => [110], Ino.av fun _ => nodD 1]) (.cons (.refl _) (.cons (cred_same (fun _ => 5) (fun _ => 5) (fun _ => 0)) (.cons (.refl _) (.cons (ino_same (fun _ => 1) (fun _ => 0) (fun _ => 0) (fun _ => 0) (fun _ => 0) (fun _ => 0) (fun _ => []) (fun _ => [])) .nil)))) ?_
      refine make_c f1 (fun _ => whoD false) (fun _ => [110]) (fun _ => nodD 1) (by rw [hf1]; exact walk_d0 short_nil) (by show 1 ≤ 100000; decide) (by show 0 ≤ 1000000; decide) (by rw [hf1]; show -1000000 ≤ (10 : Int) ∧ (10 : Int) ≤ 1000000000; decide) fun f2 ef2 qf2 => ?_
      have qf2 := (congrArg (fun f => chgS f (mayD 1) (mkD (whoD false) [110] (nodD 1))) hf1).symm.trans qf2
      cbv
      rw [dev_ok1 false] at qf2
      have hf2 : f2 .o = FD2 1 := (congrArg Prod.fst qf2).symm
      have ee2 : ef2 .o = 0 := (congrArg Prod.snd qf2).symm
      refine tru (by show (!power .o) = true; rw [hp]; rfl) ?_
      cbv
      refine flsF (by decide) ?_
      cbv
      refine fls (by decide) ?_
      cbv
      refine CallAt.args (as' := [FS.av f2, Cred.av fun _ => whoD false, .str fun _ => [110], Ino.av fun _ => nodD 1]) (.cons (.refl _) (.cons (cred_same (fun _ => 5) (fun _ => 5) (fun _ => 0)) (.cons (.refl _) (.cons (ino_same (fun _ => 1) (fun _ => 0) (fun _ => 0) (fun _ => 0) (fun _ => 0) (fun _ => 0) (fun _ => []) (fun _ => [])) .nil)))) ?_
      refine make_c f2 (fun _ => whoD false) (fun _ => [110]) (fun _ => nodD 1) (by rw [hf2]; exact walk_d2 1 short_nil) (by show 1 ≤ 100000; decide) (by show 0 ≤ 1000000; decide) (by rw [hf2]; show -1000000 ≤ (10 : Int) ∧ (10 : Int) ≤ 1000000000; decide) fun f3 ef3 qf3 => ?_
      have qf3 := (congrArg (fun f => chgS f (mayD 1) (mkD (whoD false) [110] (nodD 1))) hf2).symm.trans qf3
      cbv
      have ee3 : ef3 .o = 3 := (congrArg Prod.snd qf3).symm.trans (dev_two 1 (by decide) false)
      refine err19_c _ ?_
      cbv
      refine tru (decide_eq_true ee2) ?_
      cbv
      refine tru (decide_eq_true (by show zi (f2 .o).nodes.length = 2; rw [hf2]; rfl)) ?_
      cbv
      refine safe ⟨by decide, by rw [hf2]; show (1 : Int) < 2; decide⟩ ?_
      refine tru (decide_eq_true (by show ((f2 .o).nodes.getD 1 Ino.z).mt.uid = 5; rw [hf2]; rfl)) ?_
      cbv
      refine err19_c _ ?_
      cbv
      refine tru (decide_eq_true ee3) ?_
      cbv
      refine awake19_c fun b5 hb5 => ?_
      cbv
      exact ⟨b5, rfl, hb5⟩
  | 4, _ =>
    cbv
    refine fls (by decide) ?_
    cbv
    refine new18_c (fun _ => 10) fun f hf => ?_
    have hf : f .o = newS 10 := hf
    cbv
    refine rootc_c ?_
    cbv
    refine chmod18_c f (fun _ => rootC) (fun _ => []) (fun _ => 511) (by rw [hf]; exact ok_new 10) short_root (by show 0 ≤ 100000; decide) fun f1 e1 h1 => ?_
    have h1 := (congrArg (fun f => chgS f ((decide ((0 : Int) ≤ 511) && decide ((511 : Int) ≤ 4095)) && isPath []) (upD rootC [] (chkE (fun n => !decide (n.kind = 3)) (fun n => own9 n.mt rootC)) (updCm9 rootC 511))) hf).symm.trans h1
    rw [dev_chmod] at h1
    have hf1 : f1 .o = FD0 := (congrArg Prod.fst h1).symm
    cbv
    refine ⟨fun hp => ?_, fun hp => ?_⟩
    · have hp : power .o = true := hp
      cbv
      refine CallAt.args (as' := [FS.av f1, Cred.av fun _ => whoD true, .str fun _ => [110], Ino.av fun _ => nodD 6]) (.cons (.refl _) (.cons (cred_same (fun _ => 5) (fun _ => 5) (fun _ => 16)) (.cons (.refl _) (.cons (ino_same (fun _ => 6) (fun _ => 0) (fun _ => 0) (fun _ => 0) (fun _ => 0) (fun _ => 0) (fun _ => []) (fun _ => [])) .nil)))) ?_
      refine make_c f1 (fun _ => whoD true) (fun _ => [110]) (fun _ => nodD 6) (by rw [hf1]; exact walk_d0 short_nil) (by show 1 ≤ 100000; decide) (by show 0 ≤ 1000000; decide) (by rw [hf1]; show -1000000 ≤ (10 : Int) ∧ (10 : Int) ≤ 1000000000; decide) fun f2 ef2 qf2 => ?_
      have qf2 := (congrArg (fun f => chgS f (mayD 6) (mkD (whoD true) [110] (nodD 6))) hf1).symm.trans qf2
      cbv
      rw [dev_ok6 true] at qf2
      have hf2 : f2 .o = FD2 6 := (congrArg Prod.fst qf2).symm
      have ee2 : ef2 .o = 0 := (congrArg Prod.snd qf2).symm
      refine fls (by show (!power .o) = false; rw [hp]; rfl) ?_
      cbv
      refine CallAt.args (as' := [FS.av f2, Cred.av fun _ => whoD true, .str fun _ => [110], Ino.av fun _ => nodD 6]) (.cons (.refl _) (.cons (cred_same (fun _ => 5) (fun _ => 5) (fun _ => 16)) (.cons (.refl _) (.cons (ino_same (fun _ => 6) (fun _ => 0) (fun _ => 0) (fun _ => 0) (fun _ => 0) (fun _ => 0) (fun _ => []) (fun _ => [])) .nil)))) ?_
      refine make_c f2 (fun _ => whoD true) (fun _ => [110]) (fun _ => nodD 6) (by rw [hf2]; exact walk_d2 6 short_nil) (by show 1 ≤ 100000; decide) (by show 0 ≤ 1000000; decide) (by rw [hf2]; show -1000000 ≤ (10 : Int) ∧ (10 : Int) ≤ 1000000000; decide) fun f3 ef3 qf3 => ?_
      have qf3 := (congrArg (fun f => chgS f (mayD 6) (mkD (whoD true) [110] (nodD 6))) hf2).symm.trans qf3
      cbv
      have ee3 : ef3 .o = 3 := (congrArg Prod.snd qf3).symm.trans (dev_two 6 (by decide) true)
      refine err19_c _ ?_
      cbv
      refine tru (decide_eq_true ee2) ?_
      cbv
      refine tru (decide_eq_true (by show zi (f2 .o).nodes.length = 2; rw [hf2]; rfl)) ?_
      cbv
      refine safe ⟨by decide, by rw [hf2]; show (1 : Int) < 2; decide⟩ ?_
      refine tru (decide_eq_true (by show ((f2 .o).nodes.getD 1 Ino.z).mt.uid = 5; rw [hf2]; rfl)) ?_
      cbv
      refine err19_c _ ?_
      cbv
      refine tru (decide_eq_true ee3) ?_
      cbv
      refine awake19_c fun b5 hb5 => ?_
      cbv
      exact ⟨b5, rfl, hb5⟩
    · have hp : power .o = false := hp
      cbv
      refine CallAt.args (as' := [FS.av f1, Cred.av fun _ => whoD false, .str fun _ => [110], Ino.av fun _ => nodD 6]) (.cons (.refl _) (.cons (cred_same (fun _ => 5) (fun _ => 5) (fun _ => 0)) (.cons (.refl _) (.cons (ino_same (fun _ => 6) (fun _ => 0) (fun _ => 0) (fun _ => 0) (fun _ => 0) (fun _ => 0) (fun _ => []) (fun _ => [])) .nil)))) ?_
      refine make_c f1 (fun _ => whoD false) (fun _ => [110]) (fun _ => nodD 6) (by rw [hf1]; exact walk_d0 short_nil) (by show 1 ≤ 100000; decide) (by show 0 ≤ 1000000; decide) (by rw [hf1]; show -1000000 ≤ (10 : Int) ∧ (10 : Int) ≤ 1000000000; decide) fun f2 ef2 qf2 => ?_
      have qf2 := (congrArg (fun f => chgS f (mayD 6) (mkD (whoD false) [110] (nodD 6))) hf1).symm.trans qf2
      cbv
      rw [dev_ok6 false] at qf2
      have hf2 : f2 .o = FD2 6 := (congrArg Prod.fst qf2).symm
      have ee2 : ef2 .o = 0 := (congrArg Prod.snd qf2).symm
      refine tru (by show (!power .o) = true; rw [hp]; rfl) ?_
      cbv
      refine flsF (by decide) ?_
      cbv
      refine fls (by decide) ?_
      cbv
      refine CallAt.args (as' := [FS.av f2, Cred.av fun _ => whoD false, .str fun _ => [110], Ino.av fun _ => nodD 6]) (.cons (.refl _) (.cons (cred_same (fun _ => 5) (fun _ => 5) (fun _ => 0)) (.cons (.refl _) (.cons (ino_same (fun _ => 6) (fun _ => 0) (fun _ => 0) (fun _ => 0) (fun _ => 0) (fun _ => 0) (fun _ => []) (fun _ => [])) .nil)))) ?_
      refine make_c f2 (fun _ => whoD false) (fun _ => [110]) (fun _ => nodD 6) (by rw [hf2]; exact walk_d2 6 short_nil) (by show 1 ≤ 100000; decide) (by show 0 ≤ 1000000; decide) (by rw [hf2]; show -1000000 ≤ (10 : Int) ∧ (10 : Int) ≤ 1000000000; decide) fun f3 ef3 qf3 => ?_
      have qf3 := (congrArg (fun f => chgS f (mayD 6) (mkD (whoD false) [110] (nodD 6))) hf2).symm.trans qf3
      cbv
      have ee3 : ef3 .o = 3 := (congrArg Prod.snd qf3).symm.trans (dev_two 6 (by decide) false)
      refine err19_c _ ?_
      cbv
      refine tru (decide_eq_true ee2) ?_
      cbv
      refine tru (decide_eq_true (by show zi (f2 .o).nodes.length = 2; rw [hf2]; rfl)) ?_
      cbv
      refine safe ⟨by decide, by rw [hf2]; show (1 : Int) < 2; decide⟩ ?_
      refine tru (decide_eq_true (by show ((f2 .o).nodes.getD 1 Ino.z).mt.uid = 5; rw [hf2]; rfl)) ?_
      cbv
      refine err19_c _ ?_
      cbv
      refine tru (decide_eq_true ee3) ?_
      cbv
      refine awake19_c fun b5 hb5 => ?_
      cbv
      exact ⟨b5, rfl, hb5⟩
  | 5, _ =>
    cbv
    refine tru (by decide) ?_
    cbv
    refine new18_c (fun _ => 10) fun f hf => ?_
    have hf : f .o = newS 10 := hf
    cbv
    refine rootc_c ?_
    cbv
    refine chmod18_c f (fun _ => rootC) (fun _ => []) (fun _ => 511) (by rw [hf]; exact ok_new 10) short_root (by show 0 ≤ 100000; decide) fun f1 e1 h1 => ?_
    have h1 := (congrArg (fun f => chgS f ((decide ((0 : Int) ≤ 511) && decide ((511 : Int) ≤ 4095)) && isPath []) (upD rootC [] (chkE (fun n => !decide (n.kind = 3)) (fun n => own9 n.mt rootC)) (updCm9 rootC 511))) hf).symm.trans h1
    rw [dev_chmod] at h1
    have hf1 : f1 .o = FD0 := (congrArg Prod.fst h1).symm
    cbv
    refine ⟨fun hp => ?_, fun hp => ?_⟩
    · have hp : power .o = true := hp
      cbv
      refine CallAt.args (as' := [FS.av f1, Cred.av fun _ => whoD true, .str fun _ => [110], Ino.av fun _ => nodD 3]) (.cons (.refl _) (.cons (cred_same (fun _ => 5) (fun _ => 5) (fun _ => 16)) (.cons (.refl _) (.cons (ino_same (fun _ => 3) (fun _ => 0) (fun _ => 0) (fun _ => 0) (fun _ => 0) (fun _ => 0) (fun _ => []) (fun _ => [120])) .nil)))) ?_
      refine make_c f1 (fun _ => whoD true) (fun _ => [110]) (fun _ => nodD 3) (by rw [hf1]; exact walk_d0 short_nil) (by show 1 ≤ 100000; decide) (by show 0 ≤ 1000000; decide) (by rw [hf1]; show -1000000 ≤ (10 : Int) ∧ (10 : Int) ≤ 1000000000; decide) fun f2 ef2 qf2 => ?_
      have qf2 := (congrArg (fun f => chgS f (mayD 3) (mkD (whoD true) [110] (nodD 3))) hf1).symm.trans qf2
      cbv
      rw [dev_ok3 true] at qf2
      have hf2 : f2 .o = FD2 3 := (congrArg Prod.fst qf2).symm
      have ee2 : ef2 .o = 0 := (congrArg Prod.snd qf2).symm
      refine fls (by show (!power .o) = false; rw [hp]; rfl) ?_
      cbv
      refine CallAt.args (as' := [FS.av f2, Cred.av fun _ => whoD true, .str fun _ => [110], Ino.av fun _ => nodD 3]) (.cons (.refl _) (.cons (cred_same (fun _ => 5) (fun _ => 5) (fun _ => 16)) (.cons (.refl _) (.cons (ino_same (fun _ => 3) (fun _ => 0) (fun _ => 0) (fun _ => 0) (fun _ => 0) (fun _ => 0) (fun _ => []) (fun _ => [120])) .nil)))) ?_
      refine make_c f2 (fun _ => whoD true) (fun _ => [110]) (fun _ => nodD 3) (by rw [hf2]; exact walk_d2 3 short_nil) (by show 1 ≤ 100000; decide) (by show 0 ≤ 1000000; decide) (by rw [hf2]; show -1000000 ≤ (10 : Int) ∧ (10 : Int) ≤ 1000000000; decide) fun f3 ef3 qf3 => ?_
      have qf3 := (congrArg (fun f => chgS f (mayD 3) (mkD (whoD true) [110] (nodD 3))) hf2).symm.trans qf3
      cbv
      have ee3 : ef3 .o = 3 := (congrArg Prod.snd qf3).symm.trans (dev_two 3 (by decide) true)
      refine err19_c _ ?_
      cbv
      refine tru (decide_eq_true ee2) ?_
      cbv
      refine tru (decide_eq_true (by show zi (f2 .o).nodes.length = 2; rw [hf2]; rfl)) ?_
      cbv
      refine safe ⟨by decide, by rw [hf2]; show (1 : Int) < 2; decide⟩ ?_
      refine tru (decide_eq_true (by show ((f2 .o).nodes.getD 1 Ino.z).mt.uid = 5; rw [hf2]; rfl)) ?_
      cbv
      refine err19_c _ ?_
      cbv
      refine tru (decide_eq_true ee3) ?_
      cbv
      refine awake19_c fun b5 hb5 => ?_
      cbv
      exact ⟨b5, rfl, hb5⟩
    · have hp : power .o = false := hp
      cbv
      refine CallAt.args (as' := [FS.av f1, Cred.av fun _ => whoD false, .str fun _ => [110], Ino.av fun _ => nodD 3]) (.cons (.refl _) (.cons (cred_same (fun _ => 5) (fun _ => 5) (fun _ => 0)) (.cons (.refl _) (.cons (ino_same (fun _ => 3) (fun _ => 0) (fun _ => 0) (fun _ => 0) (fun _ => 0) (fun _ => 0) (fun _ => []) (fun _ => [120])) .nil)))) ?_
      refine make_c f1 (fun _ => whoD false) (fun _ => [110]) (fun _ => nodD 3) (by rw [hf1]; exact walk_d0 short_nil) (by show 1 ≤ 100000; decide) (by show 0 ≤ 1000000; decide) (by rw [hf1]; show -1000000 ≤ (10 : Int) ∧ (10 : Int) ≤ 1000000000; decide) fun f2 ef2 qf2 => ?_
      have qf2 := (congrArg (fun f => chgS f (mayD 3) (mkD (whoD false) [110] (nodD 3))) hf1).symm.trans qf2
      cbv
      rw [dev_ok3 false] at qf2
      have hf2 : f2 .o = FD2 3 := (congrArg Prod.fst qf2).symm
      have ee2 : ef2 .o = 0 := (congrArg Prod.snd qf2).symm
      refine tru (by show (!power .o) = true; rw [hp]; rfl) ?_
      cbv
      refine flsF (by decide) ?_
      cbv
      refine fls (by decide) ?_
      cbv
      refine CallAt.args (as' := [FS.av f2, Cred.av fun _ => whoD false, .str fun _ => [110], Ino.av fun _ => nodD 3]) (.cons (.refl _) (.cons (cred_same (fun _ => 5) (fun _ => 5) (fun _ => 0)) (.cons (.refl _) (.cons (ino_same (fun _ => 3) (fun _ => 0) (fun _ => 0) (fun _ => 0) (fun _ => 0) (fun _ => 0) (fun _ => []) (fun _ => [120])) .nil)))) ?_
      refine make_c f2 (fun _ => whoD false) (fun _ => [110]) (fun _ => nodD 3) (by rw [hf2]; exact walk_d2 3 short_nil) (by show 1 ≤ 100000; decide) (by show 0 ≤ 1000000; decide) (by rw [hf2]; show -1000000 ≤ (10 : Int) ∧ (10 : Int) ≤ 1000000000; decide) fun f3 ef3 qf3 => ?_
      have qf3 := (congrArg (fun f => chgS f (mayD 3) (mkD (whoD false) [110] (nodD 3))) hf2).symm.trans qf3
      cbv
      have ee3 : ef3 .o = 3 := (congrArg Prod.snd qf3).symm.trans (dev_two 3 (by decide) false)
      refine err19_c _ ?_
      cbv
      refine tru (decide_eq_true ee2) ?_
      cbv
      refine tru (decide_eq_true (by show zi (f2 .o).nodes.length = 2; rw [hf2]; rfl)) ?_
      cbv
      refine safe ⟨by decide, by rw [hf2]; show (1 : Int) < 2; decide⟩ ?_
      refine tru (decide_eq_true (by show ((f2 .o).nodes.getD 1 Ino.z).mt.uid = 5; rw [hf2]; rfl)) ?_
      cbv
      refine err19_c _ ?_
      cbv
      refine tru (decide_eq_true ee3) ?_
      cbv
      refine awake19_c fun b5 hb5 => ?_
      cbv
      exact ⟨b5, rfl, hb5⟩
end Go.Proofs.YtkklflpfklbbcaaDoor
