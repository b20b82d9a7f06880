/- A symbolic executor for the model's code: laws that walks lean on. -/
import Derived.Test.YteeikiekofopnaaSxo
namespace Go.Proofs.Yteeikiekofopnaa.Sx
open Go
set_option linter.unusedSimpArgs false
set_option linter.unusedVariables false

theorem zi_def (n : Nat) : zi n = (n : Int) := rfl
theorem zi_lt {a b : Nat} : zi a < zi b ↔ a < b := by unfold zi; omega
theorem zi_le {a b : Nat} : zi a ≤ zi b ↔ a ≤ b := by unfold zi; omega
theorem zi_inj {a b : Nat} : zi a = zi b ↔ a = b := by unfold zi; omega
theorem zi_toNat (n : Nat) : (zi n).toNat = n := by unfold zi; omega
theorem zi_nonneg (n : Nat) : 0 ≤ zi n := by unfold zi; omega
theorem zi_zero : zi 0 = 0 := rfl
theorem zi_succ {k : Nat} (h : k < 9223372036854775807) : IntKind.i64.wrap (zi k + 1) = zi (k + 1) := by
  rw [IntKind.wrap_i64]; unfold zi; omega

/-- Values, each the same. -/
inductive SameL : List AV → List AV → Prop
  | nil : SameL [] []
  | cons {x y : AV} {l m : List AV} (h : Same x y) (k : SameL l m) : SameL (x :: l) (y :: m)
theorem SameL.chain {l m : List AV} (h : SameL l m) : SameC (Sx.chain l) (Sx.chain m) := by
  induction h with
  | nil => exact .nil
  | cons h _ ih => exact .cons h ih
/-- Other arguments, of which more is known. -/
theorem CallAt.args {P : Th Program} {f : Nat} {as as' : List AV} {d : Nat} {B : BL} {K : ARes → BL → Prop} (hs : SameL as as') (h : CallAt P f as' d B K) : CallAt P f as d B K :=
  ⟨h.can, fun E vs h1 h2 h3 h4 => h.run E vs h1 (hs.chain.rp _ _ h2) (fun x hx => h3 x (hs.chain.locs x hx)) h4⟩

/-- r' says no more than r. -/
inductive SameR : ARes → ARes → Prop
  | ret {x y : AV} (h : Same x y) : SameR (.ret x) (.ret y)
  | pan {x y : AV} (h : Same x y) : SameR (.pan x) (.pan y)
/-- A result told otherwise. -/
theorem CallAt.res {P : Th Program} {f : Nat} {as : List AV} {d : Nat} {B : BL} {K : ARes → BL → Prop} (h : CallAt P f as d B fun r B' => ∃ r', SameR r r' ∧ K r' B') : CallAt P f as d B K := by
  refine ⟨h.can, fun E vs h1 h2 h3 h4 => (h.run E vs h1 h2 h3 h4).mono ?_⟩
  rintro e w' ⟨E', r, B', a, ⟨r', hs, hK⟩, hend, hi, hp, hl⟩
  refine ⟨E', r', B', a, hK, ?_, hi, hp, ?_⟩
  · cases hs with
    | ret hs => cases e with
      | returned x => exact hs.rp _ _ hend
      | _ => exact hend.elim
    | pan hs => cases e with
      | panicked ch => obtain ⟨x, h7, h8⟩ := hend; exact ⟨x, h7, hs.rp _ _ h8⟩
      | _ => exact hend.elim
  · intro x hx
    cases hs with
    | ret hs => exact hl x (hs.locs x hx)
    | pan hs => exact hl x (hs.locs x hx)

/-- A call that is handed no place: what the caller has stays. -/
theorem CallAt.frame {P : Th Program} {f : Nat} {as : List AV} {d : Nat} {B : BL} {K : ARes → BL → Prop} (hin : inPs [] (chain as) = true) (has : rens [] as = as)
    (h : ∀ K' : ARes → BL → Prop, (∀ r, r.stillB = true → K r B → K' r .nil) → CallAt P f as d .nil K') : CallAt P f as d B K := by
  refine CallAt.use [] as rfl hin rfl has.symm ?_
  exact h _ fun r hr hK => ⟨hr, rfl, hK⟩

/-- A call that is handed some places: the others of the caller's stay. -/
theorem CallAt.frameP {P : Th Program} {f : Nat} {as : List AV} {d : Nat} {B : BL} {K : ARes → BL → Prop} (ps : List (Nat × Nat)) (as0 : List AV) (hok : okPs B ps [] [] = true) (hin : inPs ps (chain as0) = true) (hdn : lk ps d = none)
    (has : as = rens ps as0)
    (h : ∀ K' : ARes → BL → Prop, (∀ r B', r.stillB = true → stillPs B' ps = true → K r (backB ps B B') → K' r B') → CallAt P f as0 d (calleeB ps B) K') : CallAt P f as d B K := by
  refine CallAt.use ps as0 hok hin hdn has ?_
  exact h _ fun r B' hr hs hK => ⟨hr, hs, hK⟩

end Go.Proofs.Yteeikiekofopnaa.Sx
