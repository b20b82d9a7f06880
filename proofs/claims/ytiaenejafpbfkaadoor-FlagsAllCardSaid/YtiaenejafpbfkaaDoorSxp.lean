/- A symbolic executor for the model's code: laws that walks lean on. -/
import Derived.Test.YtiaenejafpbfkaaDoorSxo
namespace Go.Proofs.YtiaenejafpbfkaaDoor.Sx
open Go
set_option linter.unusedSimpArgs false
set_option linter.unusedVariables false

theorem zi_def (n : Nat) : zi n = (n : Int) := rfl
theorem zi_lt {a b : Nat} : zi a < zi b ↔ a < b := by unfold zi; omega
theorem zi_le {a b : Nat} : zi a ≤ zi b ↔ a ≤ b := by unfold zi; omega
theorem zi_inj {a b : Nat} : zi a = zi b ↔ a = b := by unfold zi; omega
theorem zi_toNat (n : Nat) : (zi n).toNat = n := by unfold zi; omega
theorem zi_nonneg (n : Nat) : 0 ≤ zi n := by unfold zi; omega
theorem zi_zero : zi 0 = 0 := rfl
theorem zi_succ {k : Nat} (h : k < 9223372036854775807) : IntKind.i64.wrap (zi k + 1) = zi (k + 1) := by
  rw [IntKind.wrap_i64]; unfold zi; omega

/-- Values, each the same. -/
inductive SameL : List AV → List AV → Prop
  | nil : SameL [] []
  | cons {x y : AV} {l m : List AV} (h : Same x y) (k : SameL l m) : SameL (x :: l) (y :: m)
theorem SameL.chain {l m : List AV} (h : SameL l m) : SameC (Sx.chain l) (Sx.chain m) := by
  induction h with
  | nil => exact .nil
  | cons h _ ih => exact .cons h ih
/-- Other arguments, of which more is known. -/
theorem CallAt.args {P : Th Program} {f : Nat} {as as' : List AV} {d : Nat} {B : BL} {K : ARes → BL → Prop} (hs : SameL as as') (h : CallAt P f as' d B K) : CallAt P f as d B K :=
  ⟨h.can, fun E vs h1 h2 h3 h4 => h.run E vs h1 (hs.chain.rp _ _ h2) (fun x hx => h3 x (hs.chain.locs x hx)) h4⟩

/-- r' says no more than r. -/
inductive SameR : ARes → ARes → Prop
  | ret {x y : AV} (h : Same x y) : SameR (.ret x) (.ret y)
  | pan {x y : AV} (h : Same x y) : SameR (.pan x) (.pan y)
/-- A result told otherwise. -/
theorem CallAt.res {P : Th Program} {f : Nat} {as : List AV} {d : Nat} {B : BL} {K : ARes → BL → Prop} (h : CallAt P f as d B fun r B' => ∃ r', SameR r r' ∧ K r' B') : CallAt P f as d B K := by
  refine ⟨h.can, fun E vs h1 h2 h3 h4 => (h.run E vs h1 h2 h3 h4).mono ?_⟩
  rintro e w' ⟨E', r, B', a, ⟨r', hs, hK⟩, hend, hi, hp, hl⟩
  refine ⟨E', r', B', a, hK, ?_, hi, hp, ?_⟩
  · cases hs with
    | ret hs => cases e with
      | returned x => exact hs.rp _ _ hend
      | _ => exact hend.elim
    | pan hs => cases e with
      | panicked ch => obtain ⟨x, h7, h8⟩ := hend; exact ⟨x, h7, hs.rp _ _ h8⟩
      | _ => exact hend.elim
  · intro x hx
    cases hs with
    | ret hs => exact hl x (hs.locs x hx)
    | pan hs => exact hl x (hs.locs x hx)

/-- A call that is handed places, under the names that its contract has for them. -/
theorem CallAt.frameP {P : Th Program} {f : Nat} {as : List AV} {d : Nat} {B : BL} {K : ARes → BL → Prop} (ps : List (Nat × Nat)) (as0 : List AV) (hok : okPs B ps d = true) (has : rens (swap ps) as = as0)
    (h : ∀ K' : ARes → BL → Prop, (∀ r B', K (r.ren ps) (backB ps d B') → K' r B') → CallAt P f as0 d (calleeB ps B) K') : CallAt P f as d B K := by
  refine CallAt.use ps as0 hok has ?_
  exact h _ fun r B' hK => hK

/-! ### short words for printed code -/
namespace R
def t (n : Nat) : Opd := .tmp n
def i (n : Int) : Opd := .val (.int .i64 fun _ => n)
def u (n : Int) : Opd := .val (.int .u8 fun _ => n)
def tt : Opd := .val .tt
def ff : Opd := .val .ff
def q (d : Nat) (o : RO) : ROp := ⟨some d, o, none⟩
def e (o : RO) : ROp := ⟨none, o, none⟩
def g (d : Nat) (o : RO) (k : Nat) (b : Bool) : ROp := ⟨some d, o, some (k, b)⟩
def f (o : ROp) : DOp := ⟨o, true, []⟩
def s (o : ROp) (us : List Nat) : DOp := ⟨o, false, us⟩
def z (n : Int) : AV := .int .i64 fun _ => n
end R

end Go.Proofs.YtiaenejafpbfkaaDoor.Sx
