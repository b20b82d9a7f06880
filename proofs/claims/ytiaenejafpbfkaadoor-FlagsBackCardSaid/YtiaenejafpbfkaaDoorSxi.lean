/- A symbolic executor for the model's code: every operation does as the model does, the second part. -/
import Derived.Test.YtiaenejafpbfkaaDoorSxh
namespace Go.Proofs.YtiaenejafpbfkaaDoor.Sx
open Go
set_option linter.unusedSimpArgs false
set_option linter.unusedVariables false

section
variable {N : Nat} {E0 : Env} {B0 : BL} {E : Env} {s : St} {a : Act} {P : Program} {v : AV}

theorem abinE_locs {e : Bool} {fit : Fit} {x y : AV} (hg : (abinE e fit x y).gives v) (z : Nat) : ¬ v.locs z := by
  have hN : ∀ {r : Option Bool}, (abinN e r).gives v → ¬ v.locs z := by
    intro r h
    unfold abinN at h
    split at h
    · rename_i r'
      rw [gives_ok] at h
      subst h
      cases r' <;> cases e <;> exact fun h => h
    · exact (gives_bad.1 h).elim
  have hA : ∀ {r : Option (Th Bool)}, (aeq e r).gives v → ¬ v.locs z := by
    intro r h
    obtain ⟨b, _, rfl⟩ := aeq_gives h
    exact fun h => h
  cases fit <;> simp only [abinE] at hg
  · exact (gives_bad.1 hg).elim
  · unfold abinB at hg
    split at hg
    · exact hA hg
    · exact (gives_bad.1 hg).elim
  · unfold abinA at hg
    split at hg
    · exact hA hg
    · exact (gives_bad.1 hg).elim
  · exact hN hg
  · exact hN hg

theorem abin_locs {op : BinOp} {fit : Fit} {x y : AV} (hg : (abin op fit x y).gives v) (z : Nat) : ¬ v.locs z := by
  unfold abin at hg
  split at hg
  · split at hg
    · unfold ashift at hg
      split at hg <;> simp only [gives_cond, gives_bad] at hg <;> (obtain ⟨rfl, _⟩ := hg; exact fun h => h)
    · split at hg
      · cases op <;> simp only [abinI, gives_ok, gives_cond, gives_bad] at hg <;> first | (obtain ⟨rfl, _⟩ := hg; exact fun h => h) | (subst hg; exact fun h => h)
      · exact (gives_bad.1 hg).elim
  · cases op <;> simp only [abinS, gives_ok, gives_cond, gives_bad] at hg <;> first | (obtain ⟨rfl, _⟩ := hg; exact fun h => h) | (subst hg; exact fun h => h)
  · split at hg
    · exact (gives_bad.1 hg).elim
    · exact abinE_locs hg z

theorem apick_locs {c x y : AV} (hg : (apick c x y).gives v) (z : Nat) (hz : v.locs z) : x.locs z ∨ y.locs z := by
  unfold apick at hg
  split at hg
  · rw [gives_ok] at hg; subst hg; exact .inl hz
  · rw [gives_ok] at hg; subst hg; exact .inr hz
  · unfold merge at hg
    split at hg
    · split at hg
      · rw [gives_ok] at hg; subst hg; exact hz.elim
      · exact (gives_bad.1 hg).elim
    · rw [gives_ok] at hg; subst hg; exact hz.elim
    · split at hg
      · rw [gives_ok] at hg; subst hg; exact hz.elim
      · exact (gives_bad.1 hg).elim
  · exact (gives_bad.1 hg).elim

theorem qev_locs (h : Rel N E0 B0 E s a) {op : Op} {ro : RO} (hr : rOp P op = some ro) (hg : (qev s ro).gives v) (z : Nat) (hz : v.locs z) : s.b.liveAt z := by
  unfold rOp at hr
  split at hr
  · obtain ⟨y, hy, rfl⟩ := opt_map hr
    simp only [qev, gives_ok] at hg
    subst hg
    exact opd_locs h hy hz
  · obtain ⟨y, hy, rfl⟩ := opt_map hr
    simp only [qev, gives_ok] at hg
    subst hg
    exact opd_locs h hy hz
  · split at hr
    · rename_i c' x' y' hc hx hy
      cases hr
      rcases apick_locs hg z hz with h1 | h1
      · exact opd_locs h hx h1
      · exact opd_locs h hy h1
    · cases hr
  · split at hr
    · cases hr
      exact (abin_locs hg z hz).elim
    · cases hr
  · obtain ⟨y, hy, rfl⟩ := opt_map hr
    simp only [qev] at hg
    unfold aun at hg
    split at hg <;> first | (rw [gives_ok] at hg; subst hg; exact hz.elim) | exact (gives_bad.1 hg).elim
  · split at hr
    · rename_i d inf x' hu hi hx
      cases hr
      split at hg
      · exact aload_locs h (fun c v hf => takeA_locs hf) (fun y hy => opd_locs h hx hy) hg hz
      · exact aload_locs h (fun c v hf => first_locs hf) (fun y hy => opd_locs h hx hy) hg hz
    · cases hr
  · split at hr
    · rename_i fs x' hu hx
      split at hr
      · split at hr
        · split at hr
          · cases hr
          · cases hr
            simp only [qev] at hg
            unfold afld at hg
            split at hg
            · rename_i he; rw [gives_ok] at hg; subst hg; exact opd_locs h hx (by rw [he]; exact hz)
            · rename_i c he; rw [gives_ok] at hg; subst hg; exact opd_locs h hx (by rw [he]; exact (drop_locs _ c z hz : c.locs z))
            · rename_i he; rw [gives_ok] at hg; subst hg; exact opd_locs h hx (by rw [he]; exact hz)
            · exact (gives_bad.1 hg).elim
        · cases hr
      · cases hr
    · cases hr
  · split at hr
    · rename_i fs x' hu hx
      split at hr
      · split at hr
        · cases hr
          split at hg
          · simp only [qev] at hg
            unfold afield at hg
            split at hg
            · rename_i c he; rw [okO_gives] at hg; exact opd_locs h hx (by rw [he]; exact (drop_locs _ c z (takeA_locs hg z hz) : c.locs z))
            · exact (gives_bad.1 hg).elim
          · simp only [qev] at hg
            unfold afield at hg
            split at hg
            · rename_i c he; rw [okO_gives] at hg; exact opd_locs h hx (by rw [he]; exact (drop_locs _ c z (first_locs hg z hz) : c.locs z))
            · exact (gives_bad.1 hg).elim
        · cases hr
      · cases hr
    · cases hr
  · split at hr
    · rename_i e x' i' hu hx hi
      split at hr
      · cases hr
        simp only [qev] at hg
        have hR := opd_sound h.si hx
        unfold aidx at hg
        split at hg
        · rename_i sz n g k j he1 he2
          split at hg
          · obtain ⟨rfl, h0, h1⟩ := gives_cond.1 hg
            simp only [zi] at h1
            rw [he1] at hR
            obtain ⟨_, _, _, _, h3⟩ := hR
            exact ((AV.still_locs _).1 (h3 (j .o).toNat (by omega)).1.1.1 z hz).elim
          · exact (gives_bad.1 hg).elim
        · rename_i d k j he1 he2
          split at hg
          · split at hg
            · obtain ⟨rfl, h0, h1⟩ := gives_cond.1 hg
              exact opd_locs h hx (by rw [he1]; exact hz)
            · exact (gives_bad.1 hg).elim
          · exact (gives_bad.1 hg).elim
        · rename_i d sz1 lo k j he1 he2
          split at hg
          · split at hg
            · obtain ⟨rfl, h0, h1⟩ := gives_cond.1 hg
              exact opd_locs h hx (by rw [he1]; exact hz)
            · exact (gives_bad.1 hg).elim
          · exact (gives_bad.1 hg).elim
        · exact (gives_bad.1 hg).elim
      · cases hr
    · rename_i len e x' i' hu hx hi
      split at hr
      · cases hr
        simp only [qev] at hg
        unfold aidxA at hg
        split at hg
        · rename_i d k j he1 he2
          split at hg
          · split at hg
            · obtain ⟨rfl, _⟩ := gives_cond.1 hg
              exact opd_locs h hx (by rw [he1]; exact hz)
            · exact (gives_bad.1 hg).elim
          · exact (gives_bad.1 hg).elim
        · rename_i d sz' i' off k j he1 he2
          split at hg
          · obtain ⟨rfl, _⟩ := gives_cond.1 hg
            exact opd_locs h hx (by rw [he1]; exact hz)
          · exact (gives_bad.1 hg).elim
        · exact (gives_bad.1 hg).elim
      · cases hr
    · cases hr
  · split at hr
    · cases hr
      simp only [qev] at hg
      unfold aidxS at hg
      split at hg
      · obtain ⟨rfl, _⟩ := gives_cond.1 hg; exact hz.elim
      · exact (gives_bad.1 hg).elim
    · cases hr
  · split at hr
    · cases hr
      simp only [qev] at hg
      unfold asliceS at hg
      split at hg
      · split at hg
        · obtain ⟨rfl, _⟩ := gives_cond.1 hg; exact hz.elim
        · exact (gives_bad.1 hg).elim
      · exact (gives_bad.1 hg).elim
    · rename_i e x' lo' hi' hu hx hl hh
      split at hr
      · cases hr
        simp only [qev] at hg
        unfold aslice at hg
        split at hg
        · split at hg
          · obtain ⟨rfl, _⟩ := gives_cond.1 hg; exact hz.elim
          · exact (gives_bad.1 hg).elim
        · rename_i d he
          split at hg
          · split at hg
            · obtain ⟨rfl, _⟩ := gives_cond.1 hg; exact opd_locs h hx (by rw [he]; exact hz)
            · exact (gives_bad.1 hg).elim
          · exact (gives_bad.1 hg).elim
        · exact (gives_bad.1 hg).elim
      · cases hr
    · cases hr
  · split at hr
    · rename_i p q hp hq
      cases hr
      simp only [qev, gives_ok] at hg
      subst hg
      rcases hz with hz | hz
      · exact opds_locs h _ _ hp hz
      · exact opds_locs h _ _ hq hz
    · cases hr
  · split at hr
    · cases hr
    · rename_i x' _ hx
      cases hr
      simp only [qev, gives_ok] at hg
      subst hg
      exact opd_locs h hx hz
    · cases hr
  · split at hr
    · cases hr
    · rename_i x' _ _ hx
      split at hr
      · split at hr
        · rename_i z' hcz
          cases hr
          simp only [qev] at hg
          have hs : ∀ y, ¬ z'.locs y := (AV.still_locs _).1 (cval_sound (E := E) hcz).2
          unfold aassert at hg
          split at hg
          · rename_i he
            split at hg
            · rw [gives_ok] at hg; subst hg
              rcases hz with hz | hz | hz
              · exact opd_locs h hx (by rw [he]; exact hz)
              · exact hz.elim
              · exact hz.elim
            · rw [gives_ok] at hg; subst hg
              rcases hz with hz | hz | hz
              · exact (hs z hz).elim
              · exact hz.elim
              · exact hz.elim
          · rw [gives_ok] at hg; subst hg
            rcases hz with hz | hz | hz
            · exact (hs z hz).elim
            · exact hz.elim
            · exact hz.elim
          · exact (gives_bad.1 hg).elim
        · cases hr
      · cases hr
    · cases hr
  · obtain ⟨y, hy, rfl⟩ := opt_map hr
    simp only [qev] at hg
    unfold aext at hg
    split at hg
    · rename_i c he
      rw [okO_gives] at hg
      exact opd_locs h hy (by rw [he]; exact nth_locs _ c v hg z hz)
    · exact (gives_bad.1 hg).elim
  · split at hr
    · cases hr
      simp only [qev] at hg
      unfold aconv at hg
      split at hg
      · rw [gives_ok] at hg; subst hg; exact hz.elim
      · exact (gives_bad.1 hg).elim
    · split at hr
      · cases hr
        simp only [qev] at hg
        unfold ab2s at hg
        split at hg
        · rw [gives_ok] at hg; subst hg; exact hz.elim
        · obtain ⟨rfl, _⟩ := gives_cond.1 hg; exact hz.elim
        · split at hg
          · obtain ⟨rfl, _⟩ := gives_cond.1 hg; exact hz.elim
          · exact (gives_bad.1 hg).elim
        · exact (gives_bad.1 hg).elim
      · cases hr
    · cases hr
  · split at hr
    · split at hr
      · cases hr
        simp only [qev] at hg
        unfold alenS at hg
        split at hg
        · rw [gives_ok] at hg; subst hg; exact hz.elim
        · exact (gives_bad.1 hg).elim
      · cases hr
        simp only [qev] at hg
        unfold alen at hg
        split at hg
        · rw [gives_ok] at hg; subst hg; exact hz.elim
        · rw [gives_ok] at hg; subst hg; exact hz.elim
        · split at hg
          · rw [gives_ok] at hg; subst hg; exact hz.elim
          · exact (gives_bad.1 hg).elim
        · split at hg
          · rw [gives_ok] at hg; subst hg; exact hz.elim
          · exact (gives_bad.1 hg).elim
        · exact (gives_bad.1 hg).elim
      · cases hr
    · cases hr
  · obtain ⟨y, hy, rfl⟩ := opt_map hr
    simp only [qev] at hg
    split at hg
    · exact (gives_bad.1 hg).elim
    · rename_i x r hxr
      rw [okO_gives] at hg
      exact opds_locs h _ _ hy (by rw [hxr]; exact .inl (amms_locs r x v hg hz))
  · obtain ⟨y, hy, rfl⟩ := opt_map hr
    simp only [qev] at hg
    split at hg
    · exact (gives_bad.1 hg).elim
    · rename_i x r hxr
      rw [okO_gives] at hg
      exact opds_locs h _ _ hy (by rw [hxr]; exact .inl (amms_locs r x v hg hz))
  · obtain ⟨y, hy, rfl⟩ := opt_map hr
    simp only [qev] at hg
    unfold achk at hg
    split at hg
    · rename_i he; rw [gives_ok] at hg; subst hg; exact opd_locs h hy (by rw [he]; exact hz)
    · rename_i he; rw [gives_ok] at hg; subst hg; exact opd_locs h hy (by rw [he]; exact hz)
    · rename_i he; rw [gives_ok] at hg; subst hg; exact opd_locs h hy (by rw [he]; exact hz)
    · exact (gives_bad.1 hg).elim
  · cases hr

/-! ### all operations -/
def rCells (v : Value) : Option AV := match cval v with | some x => x.cells | none => none

def rBuild (z : Value) (place : Nat → Option (Nat × Nat)) (ps : Array (Nat × Operand)) : Option RO := match rCells z, rParts place ps.toList with
  | some c, some qs => some (.build c qs)
  | _, _ => none

/-- An operation, resolved. -/
def rOpX (P : Program) (o : Op) : Option RO :=
  match o with
  | .alloc t => match P.underlying t, P.info? t with
    | some (.array n e), some i => match i.zero, P.info? e with
      | some z, some ie => match rCells z with
        | some c => if c.len = n * ie.size ∧ n ≤ 2 ^ 24 then some (.allocR ie.size n c) else none
        | none => none
      | _, _ => none
    | _, some i => match i.zero with
      | some z => match rCells z with | some c => some (.alloc c) | none => none
      | none => none
    | _, none => none
  | .box _ x => (rOpd x).map .box
  | .build t ps => match P.info? t, P.underlying t with
    | some it, some (.array _ e) => match it.zero, P.info? e with
      | some z, some ie => rBuild z (fun i => some (i * ie.size, ie.size)) ps
      | _, _ => none
    | some it, some (.struct fields) => match it.zero, fields.toList.mapM (fun f => (P.info? f.type).map fun i => (f.offset, i.size)) with
      | some z, some places => rBuild z (places.toArray[·]?) ps
      | _, _ => none
    | _, _ => none
  | .buildSlice t n ps => match P.underlying t with
    | some (.slice e) => match P.info? e with
      | some i => match i.zero with
        | some z => match rCells z, rParts (fun j => some (j * i.size, i.size)) ps.toList with
          | some c, some qs => if (n * i.size ≤ 2 ^ 24 ∧ z.cells.size = i.size) ∧ ((n = 0 ∧ ps.size = 0) ∨ n * i.size ≠ 0) then some (.bslice i.size c n qs) else none
          | _, _ => none
        | none => none
      | none => none
    | _ => none
  | .store t x y => match P.info? t, rOpd x, rOpd y with
    | some i, some x, some y => some (.store i.size x y)
    | _, _, _ => none
  | .call { callee := .builtin .append, args := args, argTypes := ts } => match args.toList, ts.toList with
    | [x, y], [t, t'] => if t = t' then match P.underlying t with
      | some (.slice e) => match P.info? e with
        | some i => match i.zero, rOpd x, rOpd y with
          | some z, some x, some y => if z.cells.size = i.size ∧ 0 < i.bytes then some (.append i.size i.bytes x y) else none
          | _, _, _ => none
        | none => none
      | _ => none else none
    | _, _ => none
  | .call { callee := .builtin .clear, args := args, argTypes := ts } => match args.toList, ts.toList with
    | [x], [t] => match P.underlying t with
      | some (.slice e) => match P.info? e with
        | some i => match i.zero, rOpd x with
          | some z, some x => match rCells z with
            | some c => if z.cells.size = i.size ∧ i.size ≠ 0 ∧ c.stillB = true ∧ c.scals = true then some (.clr i.size c x) else none
            | none => none
          | _, _ => none
        | none => none
      | _ => none
    | _, _ => none
  | .call { callee := .value (.func f), args := args, argTypes := _ } => if callable P f = true then (rOpds args.toList).map (.call f) else none
  | .call { callee := .value (.tmp t), args := args, argTypes := _ } => (rOpds args.toList).map (.callv (.tmp t))
  | .panic x => (rOpd x).map .panic
  | .defer { callee := .value x, args := args, argTypes := _ } => match rOpd x, rOpds args.toList with
    | some x, some q => some (.defer x q)
    | _, _ => none
  | .makeSlice t l c => match P.underlying t with
    | some (.slice e) => match P.info? e with
      | some i => match i.zero with
        | some z => match rCells z, rOpd l, rOpd c with
          | some cz, some l, some c => if z.cells.size = i.size ∧ (cz.stillB = true ∧ cz.scals = true) ∧ i.size ≠ 0 then some (.mks i.size i.bytes cz l c) else none
          | _, _, _ => none
        | none => none
      | none => none
    | _ => none
  | .binOp op t x y yt => match isEql op, P.underlying t, y with
    | some e, some (.slice _), .const (.slice none 0 0) => (rOpd x).map (.isNil e)
    | _, _, _ => rOp P (.binOp op t x y yt)
  | .convert src dst x => match P.underlying src, P.underlying dst with
    | some .string, some (.slice e) => if isU8 P e = true then (rOpd x).map .s2b else none
    | some (.slice _), some (.slice e) => if isU8 P e = true ∧ src = dst then (rOpd x).map .s2s else none
    | _, _ => rOp P (.convert src dst x)
  | o => rOp P o

theorem rep_sound (E : Env) {c : AV} {z : List Value} (h : ListC E c z) : ∀ n, ListC E (rep c n) (List.replicate n z).flatten
  | 0 => by simpa [rep] using listC_nil.2 rfl
  | n + 1 => by simpa [rep, List.replicate_succ] using listC_app h (rep_sound E h n)
theorem rep_locs {c : AV} {y : Nat} : ∀ n, (rep c n).locs y → c.locs y
  | 0, h => h.elim
  | n + 1, h => (app_locs h).elim id (rep_locs n)

theorem range_zero (z : Array Value) (n : Nat) (hz : z.size ≠ 0) : ((Array.range (n * z.size)).map (z[· % z.size]!)).toList = (List.replicate n z.toList).flatten := by
  apply List.ext_getElem?
  intro i
  rw [Array.toList_map, List.getElem?_map, Array.toList_range]
  rcases Nat.lt_or_ge i (n * z.size) with h | h
  · rw [List.getElem?_range h]
    simp only [Option.map_some]
    have hlt : i % z.size < z.size := Nat.mod_lt _ (by omega)
    induction n generalizing i with
    | zero => omega
    | succ n ih =>
      rw [List.replicate_succ, List.flatten_cons, List.getElem?_append]
      simp only [Array.length_toList]
      by_cases hi : i < z.size
      · rw [if_pos hi, Nat.mod_eq_of_lt hi, Array.getElem?_toList, getElem!_pos z i hi, Array.getElem?_eq_getElem hi]
      · rw [if_neg hi]
        have h2 : i - z.size < n * z.size := by rw [Nat.succ_mul] at h; omega
        rw [← ih (i - z.size) h2 (Nat.mod_lt _ (by omega))]
        congr 2
        rw [Nat.mod_eq_sub_mod (by omega)]
  · rw [List.getElem?_eq_none (by simpa using h), List.getElem?_eq_none]
    · rfl
    · simp [List.length_flatten]; omega

end

end Go.Proofs.YtiaenejafpbfkaaDoor.Sx
