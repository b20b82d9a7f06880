/- The law PlanOrder, walked: in which order attributes are tried. -/
import Derived.Test.YtgjlkcdnlndlnaaAttrs
namespace Go.Proofs.Ytgjlkcdnlndlnaa
open Go Go.Proofs.Ytgjlkcdnlndlnaa.Sx F
set_option linter.unusedVariables false
set_option linter.unusedSimpArgs false

def consB (b : Bool) (x : Int) (l : List Int) : List Int := match b with | true => x :: l | false => l
def mkA (b10 b3 b4 b5 b6 b7 b9 : Bool) : List Int := consB b10 10 (2 :: consB b3 3 (consB b4 4 (consB b5 5 (consB b6 6 (consB b7 7 (8 :: consB b9 9 []))))))
theorem filter_consB (p : Int → Bool) (x : Int) (l : List Int) : (x :: l).filter p = consB (p x) x (l.filter p) := by
  cases h : p x <;> simp [consB, h]
theorem filter_mkA (p : Int → Bool) (h2 : p 2 = true) (h8 : p 8 = true) : attrsAll.filter p = mkA (p 10) (p 3) (p 4) (p 5) (p 6) (p 7) (p 9) := by
  unfold attrsAll mkA
  simp only [filter_consB, h2, h8]
  rfl
def orderB (L : List Int) (d f : Bool) : Bool :=
  decide (2 ≤ L.length) && (decide (L.getD 0 0 = 10) == d) && (List.range L.length).all (fun i => i == 0 || L.getD i 0 == 10 || L.getD (i - 1) 0 == 10 || decide (L.getD (i - 1) 0 < L.getD i 0)) &&
  L.contains 2 && L.contains 8 && (decide (L.getD (L.length - 1) 0 = 9) == f)
theorem order_all : ∀ b10 b3 b4 b5 b6 b7 b9 : Bool, orderB (mkA b10 b3 b4 b5 b6 b7 b9) b10 b9 = true := by decide +kernel
structure OrderOk (e : Entry) (L : List Int) : Prop where
  len : 2 ≤ L.length
  first : decide (L.getD 0 0 = 10) = decide (e.kind = 6)
  rise : ∀ i, 0 < i → i < L.length → L.getD i 0 ≠ 10 → L.getD (i - 1) 0 ≠ 10 → L.getD (i - 1) 0 < L.getD i 0
  owner : (2 : Int) ∈ L
  times : (8 : Int) ∈ L
  last : decide (L.getD (L.length - 1) 0 = 9) = !decide (e.mt.flags = 0)
  short : L.length ≤ 9
theorem order_ok (e : Entry) : OrderOk e (attrsAll.filter (hasA e)) := by
  have h := order_all (hasA e 10) (hasA e 3) (hasA e 4) (hasA e 5) (hasA e 6) (hasA e 7) (hasA e 9)
  rw [← filter_mkA (hasA e) rfl rfl] at h
  have hs : (attrsAll.filter (hasA e)).length ≤ 9 := List.length_filter_le _ _
  generalize attrsAll.filter (hasA e) = L at h hs
  unfold orderB at h
  simp only [Bool.and_eq_true, decide_eq_true_eq, beq_iff_eq, List.all_eq_true, List.mem_range, List.contains_iff_mem, Bool.or_eq_true] at h
  obtain ⟨⟨⟨⟨⟨h1, h2⟩, h3⟩, h4⟩, h5⟩, h6⟩ := h
  refine ⟨h1, h2, fun i hi hl ha hb => ?_, h4, h5, h6, hs⟩
  rcases h3 i hl with ((h | h) | h) | h
  · omega
  · exact absurd h ha
  · exact absurd h hb
  · exact h

def seenB (x : Int) (L : List Int) (i : Nat) : Bool := decide (x ∈ L.take i)
theorem seen_succ (x : Int) (L : List Int) (i : Nat) (h : i < L.length) : seenB x L (i + 1) = (seenB x L i || decide (L.getD i 0 = x)) := by
  unfold seenB
  rw [List.take_add_one, List.getD_eq_getElem?_getD, List.getElem?_eq_getElem h]
  simp only [Option.toList_some, Option.getD_some, List.mem_append, List.mem_singleton]
  by_cases h1 : x ∈ L.take i <;> by_cases h2 : x = L[i] <;> simp [h1, h2, eq_comm]

end Go.Proofs.Ytgjlkcdnlndlnaa
