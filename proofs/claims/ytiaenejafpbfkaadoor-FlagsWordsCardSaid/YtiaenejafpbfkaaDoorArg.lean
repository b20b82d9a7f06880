/- Arguments of the program's own kinds, opened: what is kept of a file, who asks. -/
import Derived.Test.YtiaenejafpbfkaaDoorOpn
import Derived.Test.YtiaenejafpbfkaaDoorDat
import Derived.Test.YtiaenejafpbfkaaDoorByt
import Derived.WideShapes
namespace Go.Proofs.YtiaenejafpbfkaaDoor
open Go Go.Proofs.YtiaenejafpbfkaaDoor.Sx
set_option linter.unusedVariables false

def isStructB (P : Program) (t : TypeId) : Bool := match P.underlying t with | some (.struct _) => true | _ => false
theorem okStruct {P : Program} {w : World} {r : Reach} {base : Nat} {t : TypeId} {v : Value} (hs : isStructB P t = true) (h : Value.okWide P w r base t v) : ∃ cs, v = .agg cs := by
  unfold isStructB at hs
  split at hs
  · rename_i fs hu
    obtain ⟨cs, h1, _⟩ := Go.WideShapes.okWide_struct hu h
    exact ⟨cs, h1⟩
  · cases hs
theorem agg_one {E : Env} {c : AV} {a : Array Value} (h : ListC E c a.toList) : Rp E (.agg c) (.agg a) := ⟨a.toList, by simp, h⟩
theorem th_eta {α : Type} (x : Th α) : (fun _ => x .o) = x := funext fun | .o => rfl
theorem rows_eq {α : Type} {ch : Th α → AV} {z : α} {g : Nat → AV} : ∀ m : Nat, (∀ j, j < m → ∃ a : α, g j = ch fun _ => a) → ∃ l : List α, l.length = m ∧ ∀ j, j < m → g j = ch fun _ => l.getD j z
  | 0, _ => ⟨[], rfl, fun j hj => absurd hj (Nat.not_lt_zero _)⟩
  | m + 1, h => by
    obtain ⟨l, h1, h2⟩ := rows_eq (z := z) m fun j hj => h j (by omega)
    obtain ⟨a, ha⟩ := h m (by omega)
    refine ⟨l ++ [a], by simp [h1], fun j hj => ?_⟩
    by_cases q : j < m
    · rw [h2 j q]
      congr 1
      funext _
      simp only [List.getD_eq_getElem?_getD]
      rw [List.getElem?_append_left (by omega)]
    · obtain rfl : j = m := by omega
      rw [ha]
      congr 1
      funext _
      simp [List.getD_eq_getElem?_getD, h1]
def aceC : CS := .i .i64 (.i .i64 (.i .i64 .nil))
def xatC : CS := .s (.s .nil)
def metaC : CS := .i .i64 (.i .i64 (.i .i64 (.i .i64 (.i .i64 (.sl aceC (.sl aceC (.sl xatC (.i .i64 (.i .u64 (.i .u64 (.b (.i .i64 (.i .i64 .nil)))))))))))))
def credC : CS := .i .i64 (.i .i64 (.sl (.i .i64 .nil) (.i .i64 .nil)))
theorem ace_of {c : AV} (h : Shape aceC c) : ∃ a : Ace, c = Ace.ch fun _ => a := by
  obtain ⟨x, _, rfl, _, y, _, rfl, _, z, _, rfl, _, rfl⟩ := h
  refine ⟨⟨x .o, y .o, z .o⟩, ?_⟩
  show _ = AV.cons (.int .i64 fun _ => x .o) (.cons (.int .i64 fun _ => y .o) (.cons (.int .i64 fun _ => z .o) .nil))
  rw [th_eta, th_eta, th_eta]
theorem xat_of {c : AV} (h : Shape xatC c) : ∃ a : Xattr, c = Xattr.ch fun _ => a := by
  obtain ⟨x, _, rfl, _, y, _, rfl, _, rfl⟩ := h
  refine ⟨⟨x .o, y .o⟩, ?_⟩
  show _ = AV.cons (.str fun _ => x .o) (.cons (.str fun _ => y .o) .nil)
  rw [th_eta, th_eta]
theorem aces_of {n : Th Nat} {g : Th Nat → AV} (h : ∀ j, j < n .o → Shape aceC (g fun _ => j)) : ∃ l : List Ace, l.length = n .o ∧ Same (.sl 3 n g) (aces fun _ => l) := by
  obtain ⟨l, h1, h2⟩ := rows_eq (ch := Ace.ch) (z := Ace.z) (g := fun j => g fun _ => j) (n .o) fun j hj => ace_of (h j hj)
  exact ⟨l, h1, Same.sl h1.symm fun j hj => h2 j hj⟩
theorem xats_of {n : Th Nat} {g : Th Nat → AV} (h : ∀ j, j < n .o → Shape xatC (g fun _ => j)) : ∃ l : List Xattr, l.length = n .o ∧ Same (.sl 2 n g) (xattrs fun _ => l) := by
  obtain ⟨l, h1, h2⟩ := rows_eq (ch := Xattr.ch) (z := Xattr.z) (g := fun j => g fun _ => j) (n .o) fun j hj => xat_of (h j hj)
  exact ⟨l, h1, Same.sl h1.symm fun j hj => h2 j hj⟩
theorem ints_of {n : Th Nat} {g : Th Nat → AV} (h : ∀ j, j < n .o → Shape (.i .i64 .nil) (g fun _ => j)) : ∃ l : List Int, l.length = n .o ∧ Same (.sl 1 n g) (ints fun _ => l) := by
  obtain ⟨l, h1, h2⟩ := rows_eq (ch := fun a : Th Int => .cons (.int .i64 a) .nil) (z := 0) (g := fun j => g fun _ => j) (n .o) fun j hj => by
    obtain ⟨x, _, hx, _, rfl⟩ := h j hj
    exact ⟨x .o, by rw [hx]⟩
  exact ⟨l, h1, Same.sl h1.symm fun j hj => h2 j hj⟩
theorem arg_meta {c : AV} (h : Shape metaC c) : ∃ m : Meta, short m.acl ∧ SameC c (Meta.ch fun _ => m) := by
  obtain ⟨x1, _, rfl, _, x2, _, rfl, _, x3, _, rfl, _, x4, _, rfl, _, x5, _, rfl, _, n1, g1, _, rfl, s1, e1, n2, g2, _, rfl, s2, e2, n3, g3, _, rfl, s3, e3, x6, _, rfl, _, x7, _, rfl, _, x8, _, rfl, _, x9, _, rfl, x10, _, rfl, _, x11, _, rfl, _, rfl⟩ := h
  obtain ⟨l1, a1, b1⟩ := aces_of e1
  obtain ⟨l2, a2, b2⟩ := aces_of e2
  obtain ⟨l3, a3, b3⟩ := xats_of e3
  exact ⟨⟨x1 .o, x2 .o, x3 .o, x4 .o, x5 .o, l1, l2, l3, ⟨x6 .o, x7 .o, x8 .o, x9 .o, x10 .o⟩, x11 .o⟩, by show l1.length ≤ _; omega,
    .cons (.int rfl) (.cons (.int rfl) (.cons (.int rfl) (.cons (.int rfl) (.cons (.int rfl) (.cons b1 (.cons b2 (.cons b3 (.cons (.int rfl) (.cons (.int rfl) (.cons (.int rfl) (.cons (.bool rfl) (.cons (.int rfl) (.cons (.int rfl) .nil)))))))))))))⟩
theorem arg_cred {c : AV} (h : Shape credC c) : ∃ m : Cred, short m.groups ∧ SameC c (Cred.ch fun _ => m) := by
  obtain ⟨x1, _, rfl, _, x2, _, rfl, _, n1, g1, _, rfl, s1, e1, x3, _, rfl, _, rfl⟩ := h
  obtain ⟨l1, a1, b1⟩ := ints_of e1
  exact ⟨⟨x1 .o, x2 .o, l1, x3 .o⟩, by show l1.length ≤ _; omega, .cons (.int rfl) (.cons (.int rfl) (.cons b1 (.cons (.int rfl) .nil)))⟩
def entryC : CS := .s (.i .i64 (.i .i64 (.i .i64 (.i .i64 (.i .i64 (.i .i64 (.sl aceC (.sl aceC (.sl xatC (.i .i64 (.i .u64 (.i .u64 (.b (.i .i64 (.i .i64 (.s (.s (.i .i64 (.i .i64 .nil)))))))))))))))))))
theorem arg_entry {c : AV} (h : Shape entryC c) : ∃ m : Entry, short m.mt.acl ∧ SameC c (Entry.ch fun _ => m) := by
  obtain ⟨y1, _, rfl, _, y2, _, rfl, _, x1, _, rfl, _, x2, _, rfl, _, x3, _, rfl, _, x4, _, rfl, _, x5, _, rfl, _, n1, g1, _, rfl, s1, e1, n2, g2, _, rfl, s2, e2, n3, g3, _, rfl, s3, e3, x6, _, rfl, _, x7, _, rfl, _, x8, _, rfl, _, x9, _, rfl, x10, _, rfl, _, x11, _, rfl, _, y3, _, rfl, _, y4, _, rfl, _, y5, _, rfl, _, y6, _, rfl, _, rfl⟩ := h
  obtain ⟨l1, a1, b1⟩ := aces_of e1
  obtain ⟨l2, a2, b2⟩ := aces_of e2
  obtain ⟨l3, a3, b3⟩ := xats_of e3
  exact ⟨⟨y1 .o, y2 .o, ⟨x1 .o, x2 .o, x3 .o, x4 .o, x5 .o, l1, l2, l3, ⟨x6 .o, x7 .o, x8 .o, x9 .o, x10 .o⟩, x11 .o⟩, y3 .o, y4 .o, y5 .o, y6 .o⟩, by show l1.length ≤ _; omega,
    .cons (.str rfl) (.cons (.int rfl) (.cons (.int rfl) (.cons (.int rfl) (.cons (.int rfl) (.cons (.int rfl) (.cons (.int rfl) (.cons b1 (.cons b2 (.cons b3 (.cons (.int rfl) (.cons (.int rfl) (.cons (.int rfl) (.cons (.bool rfl) (.cons (.int rfl) (.cons (.int rfl) (.cons (.str rfl) (.cons (.str rfl) (.cons (.int rfl) (.cons (.int rfl) .nil)))))))))))))))))))⟩
end Go.Proofs.YtiaenejafpbfkaaDoor
