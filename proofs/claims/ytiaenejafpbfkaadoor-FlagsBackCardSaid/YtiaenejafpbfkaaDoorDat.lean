/- The program's data, as the executor tells of it. -/
import Derived.Test.YtiaenejafpbfkaaDoorSxz
namespace Go.Proofs.YtiaenejafpbfkaaDoor
open Go Go.Proofs.YtiaenejafpbfkaaDoor.Sx

/-- A part of an access list. -/
structure Ace where
  tag : Int
  id : Int
  perm : Int
def Ace.z : Ace := ⟨0, 0, 0⟩
def Ace.ch (a : Th Ace) : AV := .cons (.int .i64 fun _ => (a .o).tag) (.cons (.int .i64 fun _ => (a .o).id) (.cons (.int .i64 fun _ => (a .o).perm) .nil))
def Ace.av (a : Th Ace) : AV := .agg (Ace.ch a)
def aces (l : Th (List Ace)) : AV := .sl 3 (fun _ => (l .o).length) fun i => Ace.ch fun _ => (l .o).getD (i .o) Ace.z
def ints (l : Th (List Int)) : AV := .sl 1 (fun _ => (l .o).length) fun i => .cons (.int .i64 fun _ => (l .o).getD (i .o) 0) .nil
/-- A name with a value. -/
structure Xattr where
  name : List UInt8
  value : List UInt8
def Xattr.z : Xattr := ⟨[], []⟩
def Xattr.ch (a : Th Xattr) : AV := .cons (.str fun _ => (a .o).name) (.cons (.str fun _ => (a .o).value) .nil)
def Xattr.av (a : Th Xattr) : AV := .agg (Xattr.ch a)
def xattrs (l : Th (List Xattr)) : AV := .sl 2 (fun _ => (l .o).length) fun i => Xattr.ch fun _ => (l .o).getD (i .o) Xattr.z
structure Caps where
  ver : Int
  perm : Int
  inh : Int
  eff : Bool
  root : Int
structure Meta where
  mode : Int
  uid : Int
  gid : Int
  sec : Int
  nano : Int
  acl : List Ace
  dflt : List Ace
  xs : List Xattr
  caps : Caps
  flags : Int
def Meta.ch (m : Th Meta) : AV :=
  .cons (.int .i64 fun _ => (m .o).mode) (.cons (.int .i64 fun _ => (m .o).uid) (.cons (.int .i64 fun _ => (m .o).gid) (.cons (.int .i64 fun _ => (m .o).sec) (.cons (.int .i64 fun _ => (m .o).nano)
  (.cons (aces fun _ => (m .o).acl) (.cons (aces fun _ => (m .o).dflt) (.cons (xattrs fun _ => (m .o).xs)
  (.cons (.int .i64 fun _ => (m .o).caps.ver) (.cons (.int .u64 fun _ => (m .o).caps.perm) (.cons (.int .u64 fun _ => (m .o).caps.inh) (.cons (.bool fun _ => (m .o).caps.eff) (.cons (.int .i64 fun _ => (m .o).caps.root)
  (.cons (.int .i64 fun _ => (m .o).flags) .nil)))))))))))))
def Meta.av (m : Th Meta) : AV := .agg (Meta.ch m)
structure Cred where
  uid : Int
  gid : Int
  groups : List Int
  powers : Int
def Cred.ch (c : Th Cred) : AV := .cons (.int .i64 fun _ => (c .o).uid) (.cons (.int .i64 fun _ => (c .o).gid) (.cons (ints fun _ => (c .o).groups) (.cons (.int .i64 fun _ => (c .o).powers) .nil)))
def Cred.av (c : Th Cred) : AV := .agg (Cred.ch c)

/-- Short enough for a count that is a number of 64 bits. -/
def short {α : Type} (l : List α) : Prop := l.length ≤ 140737488355328
structure Meta.Ok (m : Meta) : Prop where
  acl : short m.acl
  dflt : short m.dflt
  xs : short m.xs

/-! ### where something stands first -/
def ixP {α : Type} (p : α → Bool) : List α → Int
  | [] => -1
  | y :: r => if p y = true then 0 else if ixP p r < 0 then -1 else ixP p r + 1
theorem ixP_at {α : Type} (p : α → Bool) (z : α) : ∀ (l : List α) (k : Nat), k < l.length → (∀ j, j < k → p (l.getD j z) = false) → p (l.getD k z) = true → ixP p l = zi k
  | [], k, hk, _, _ => by simp at hk
  | y :: r, 0, _, _, h => by simp at h; simp [ixP, h, zi]
  | y :: r, k + 1, hk, hj, h => by
    have h0 := hj 0 (by omega)
    have := ixP_at p z r k (by simpa using hk) (fun j hj' => by simpa using hj (j + 1) (by omega)) (by simpa using h)
    simp at h0
    simp only [ixP, h0, this, Bool.false_eq_true, if_false]
    unfold zi
    rw [if_neg (by omega)]
    omega
theorem ixP_no {α : Type} (p : α → Bool) (z : α) : ∀ (l : List α), (∀ j, j < l.length → p (l.getD j z) = false) → ixP p l = -1
  | [], _ => rfl
  | y :: r, h => by
    have h0 := h 0 (by simp)
    have := ixP_no p z r fun j hj => by simpa using h (j + 1) (by simpa using hj)
    simp at h0
    simp [ixP, h0, this]

end Go.Proofs.YtiaenejafpbfkaaDoor
