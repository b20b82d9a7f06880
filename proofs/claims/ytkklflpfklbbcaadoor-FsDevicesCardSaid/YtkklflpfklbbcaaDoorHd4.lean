/- Texts laid together: Dat, Row, Opn, Rc, Right, Byt, RightA, Made, Mk, Mkx, Mkm, Modes, Acl, Less, Ref, Split, Strs, Nam. -/
import Derived.ChangeSlices
import Derived.SizedLaws
import Derived.Deep.Slices
import Derived.Test.YtkklflpfklbbcaaDoorProg
import Derived.KernelRfl
import Derived.Lib.Bytealg
import Derived.WalkKit
import Derived.WalkLawsBesides
import Derived.Lib.Strings
import Derived.Lib.Slices
import Derived.Lib.Walk
import Derived.Test.YtkklflpfklbbcaaDoorHd3
/- The program's data, as the executor tells of it. -/
namespace Go.Proofs.YtkklflpfklbbcaaDoor
open Go Go.Proofs.YtkklflpfklbbcaaDoor.Sx
/-- A part of an access list. -/
structure Ace where
  tag : Int
  id : Int
  perm : Int
def Ace.z : Ace := ⟨0, 0, 0⟩
def Ace.ch (a : Th Ace) : AV := .cons (.int .i64 fun _ => (a .o).tag) (.cons (.int .i64 fun _ => (a .o).id) (.cons (.int .i64 fun _ => (a .o).perm) .nil))
def Ace.av (a : Th Ace) : AV := .agg (Ace.ch a)
def aces (l : Th (List Ace)) : AV := .sl 3 (fun _ => (l .o).length) fun i => Ace.ch fun _ => (l .o).getD (i .o) Ace.z
def ints (l : Th (List Int)) : AV := .sl 1 (fun _ => (l .o).length) fun i => .cons (.int .i64 fun _ => (l .o).getD (i .o) 0) .nil
/-- A name with a value. -/
structure Xattr where
  name : List UInt8
  value : List UInt8
def Xattr.z : Xattr := ⟨[], []⟩
def Xattr.ch (a : Th Xattr) : AV := .cons (.str fun _ => (a .o).name) (.cons (.str fun _ => (a .o).value) .nil)
def Xattr.av (a : Th Xattr) : AV := .agg (Xattr.ch a)
def xattrs (l : Th (List Xattr)) : AV := .sl 2 (fun _ => (l .o).length) fun i => Xattr.ch fun _ => (l .o).getD (i .o) Xattr.z
structure Caps where
  ver : Int
  perm : Int
  inh : Int
  eff : Bool
  root : Int
structure Meta where
  mode : Int
  uid : Int
  gid : Int
  sec : Int
  nano : Int
  acl : List Ace
  dflt : List Ace
  xs : List Xattr
  caps : Caps
  flags : Int
def Meta.ch (m : Th Meta) : AV :=
  .cons (.int .i64 fun _ => (m .o).mode) (.cons (.int .i64 fun _ => (m .o).uid) (.cons (.int .i64 fun _ => (m .o).gid) (.cons (.int .i64 fun _ => (m .o).sec) (.cons (.int .i64 fun _ => (m .o).nano)
  (.cons (aces fun _ => (m .o).acl) (.cons (aces fun _ => (m .o).dflt) (.cons (xattrs fun _ => (m .o).xs)
  (.cons (.int .i64 fun _ => (m .o).caps.ver) (.cons (.int .u64 fun _ => (m .o).caps.perm) (.cons (.int .u64 fun _ => (m .o).caps.inh) (.cons (.bool fun _ => (m .o).caps.eff) (.cons (.int .i64 fun _ => (m .o).caps.root)
  (.cons (.int .i64 fun _ => (m .o).flags) .nil)))))))))))))
def Meta.av (m : Th Meta) : AV := .agg (Meta.ch m)
structure Cred where
  uid : Int
  gid : Int
  groups : List Int
  powers : Int
def Cred.ch (c : Th Cred) : AV := .cons (.int .i64 fun _ => (c .o).uid) (.cons (.int .i64 fun _ => (c .o).gid) (.cons (ints fun _ => (c .o).groups) (.cons (.int .i64 fun _ => (c .o).powers) .nil)))
def Cred.av (c : Th Cred) : AV := .agg (Cred.ch c)
/-- Short enough for a count that is a number of 64 bits. -/
def short {α : Type} (l : List α) : Prop := l.length ≤ 140737488355328
def ixP {α : Type} (p : α → Bool) : List α → Int
  | [] => -1
  | y :: r => if p y = true then 0 else if ixP p r < 0 then -1 else ixP p r + 1
theorem ixP_at {α : Type} (p : α → Bool) (z : α) : ∀ (l : List α) (k : Nat), k < l.length → (∀ j, j < k → p (l.getD j z) = false) → p (l.getD k z) = true → ixP p l = zi k
  | [], k, hk, _, _ => by simp at hk
  | y :: r, 0, _, _, h => by simp at h; simp [ixP, h, zi]
  | y :: r, k + 1, hk, hj, h => by
    have h0 := hj 0 (by omega)
    have := ixP_at p z r k (by simpa using hk) (fun j hj' => by simpa using hj (j + 1) (by omega)) (by simpa using h)
    simp at h0
    simp only [ixP, h0, this, Bool.false_eq_true, if_false]
    unfold zi
    rw [if_neg (by omega)]
    omega
theorem ixP_no {α : Type} (p : α → Bool) (z : α) : ∀ (l : List α), (∀ j, j < l.length → p (l.getD j z) = false) → ixP p l = -1
  | [], _ => rfl
  | y :: r, h => by
    have h0 := h 0 (by simp)
    have := ixP_no p z r fun j hj => by simpa using h (j + 1) (by simpa using hj)
    simp at h0
    simp [ixP, h0, this]
end Go.Proofs.YtkklflpfklbbcaaDoor
/- From a law's contract to what its row asks: it answers true, and nothing that was there has turned. -/
namespace Go.Proofs.YtkklflpfklbbcaaDoor
open Go Go.Proofs.YtkklflpfklbbcaaDoor.Sx Go.RowKit
/-- What a law is to come to. -/
def Yes (r : ARes) (_ : BL) : Prop := ∃ b : Th Bool, r = .ret (.bool b) ∧ b .o = true
theorem law_of {P : Th Program} {f : Nat} {asL0 : List AV} {w : World} {vs : List Value} (I : Nat → Nat → Prop) (hI : ∀ b o, I b o → b < w.heap.size) (hv : ListC ⟨fun _ => 0, fun _ => undef, I, w⟩ (chain asL0) vs) (hs : (chain asL0).still)
    (h : CallAt P f asL0 9999 .nil Yes) : Calls (P .o) f vs.toArray w fun e w' => e = .returned (.bool true) ∧ Below w.heap.size w w' := by
  have hdead : ∀ x, ¬ BL.nil.liveAt x := fun x hx => by simp [BL.liveAt, BL.get, Blk.live] at hx
  refine (h.run ⟨fun _ => 0, fun _ => undef, I, w⟩ vs ⟨fun d => trivial, fun d d' hd => (hdead d (solid_live hd)).elim, fun d hd => (hdead d (solid_live hd)).elim, hI, fun d x hx => hx.elim⟩ hv (fun x hx => ((AV.still_locs _).1 hs x hx).elim) (hdead _)).mono ?_
  rintro e w' ⟨E', r, B', rfl, ⟨b, rfl, hb⟩, hend, hinv, hpost, hl⟩
  cases e with
  | returned x =>
    have hx : x = .bool (b .o) := hend
    rw [hx, hb]
    exact ⟨rfl, hpost.os, hpost.tape, hpost.output, hpost.size, fun k hk => hpost.old k hk fun x hx => (hdead x (solid_live hx)).elim⟩
  | _ => exact hend.elim
theorem wf_u8 {n : Int} (h : (Lit.int .u8 n).wf = true) : 0 ≤ n ∧ n < 256 := by
  have : IntKind.u8.min ≤ n ∧ n ≤ IntKind.u8.max := by simpa [Lit.wf] using h
  have h1 : IntKind.u8.min = 0 := by decide
  have h2 : IntKind.u8.max = 255 := by decide
  omega
theorem wf_u16 {n : Int} (h : (Lit.int .u16 n).wf = true) : 0 ≤ n ∧ n < 65536 := by
  have : IntKind.u16.min ≤ n ∧ n ≤ IntKind.u16.max := by simpa [Lit.wf] using h
  have h1 : IntKind.u16.min = 0 := by decide
  have h2 : IntKind.u16.max = 65535 := by decide
  omega
end Go.Proofs.YtkklflpfklbbcaaDoor
/- What a caller hands in, of any plain type, as the executor tells of it. -/
namespace Go.Proofs.YtkklflpfklbbcaaDoor
open Go Go.Proofs.YtkklflpfklbbcaaDoor.Sx Go.RowKit
set_option linter.unusedVariables false
set_option linter.unusedSimpArgs false
section
variable {H : Type} {enc : TypeId × Value → H} {P : Program} {w : World}
end
end Go.Proofs.YtkklflpfklbbcaaDoor
/- The program's functions, resolved (printed by a tool). -/
namespace Go.Proofs.YtkklflpfklbbcaaDoor
open Go Go.Proofs.YtkklflpfklbbcaaDoor.Sx
namespace F
noncomputable def PT : Th Program := fun _ => Tryd.prog
abbrev l19_FsPaths : Nat := 3
def l19_FsPaths.rc : RC :=
  (.seq (.reg [R.q 4 (.mov R.ff)])
  (.seq (.reg [R.q 20 (.mov (R.t 0)),
    R.q 21 (.conv .i64 (R.t 20)),
    R.q 22 (.bin .rem .no (R.t 21) (R.i 512)),
    R.q 5 (.mov (R.t 22))])
  (.seq (.reg [R.q 23 (.call 5 [(R.i 10)]),
    R.q 6 (.alloc (.cons .nsl (.cons (R.z 0) (.cons (R.z 0) (.cons .nsl .nil))))),
    R.e (.store 4 (R.t 6) (R.t 23))])
  (.seq (.regd [R.f (R.q 24 (.loadA 4 (R.t 6))),
    R.f (R.q 26 (.mov (R.t 5))),
    R.s (R.q 25 (.call 7 [])) [0, 1],
    R.s (R.q 27 (.call 8 [(R.t 26), (R.i 0), (R.i 0)])) [0],
    R.f (R.q 28 (.build (.cons (R.z 0) (.cons (R.z 0) (.cons (R.z 0) (.cons (R.z 0) (.cons (R.z 0) (.cons (R.z 0) (.cons .nsl (.cons .nsl (.cons .nsl (.cons (R.z 0) (.cons (.int .u64 fun _ => 0) (.cons (.int .u64 fun _ => 0) (.cons .ff (.cons (R.z 0) (.cons (R.z 0) (.cons (.str fun _ => []) (.cons (.str fun _ => []) (.cons (R.z 0) (.cons (R.z 0) (.cons .nsl .nil)))))))))))))))))))) [(0, 1, (R.i 6)), (1, 14, (R.t 27))])),
    R.s (R.q 29 (.call 6 [(R.t 24), (R.t 25), (.val (.str fun _ => [100])), (R.t 28)])) [],
    R.f (R.q 30 (.fieldA 0 4 (R.t 29))),
    R.s (R.e (.store 4 (R.t 6) (R.t 30))) []])
  (.seq (.regd [R.f (R.q 31 (.loadA 4 (R.t 6))),
    R.f (R.q 33 (.build (.cons (R.z 0) (.cons (R.z 0) (.cons (R.z 0) (.cons (R.z 0) (.cons (R.z 0) (.cons (R.z 0) (.cons .nsl (.cons .nsl (.cons .nsl (.cons (R.z 0) (.cons (.int .u64 fun _ => 0) (.cons (.int .u64 fun _ => 0) (.cons .ff (.cons (R.z 0) (.cons (R.z 0) (.cons (.str fun _ => []) (.cons (.str fun _ => []) (.cons (R.z 0) (.cons (R.z 0) (.cons .nsl .nil)))))))))))))))))))) [(0, 1, (R.i 1))])),
    R.s (R.q 32 (.call 7 [])) [0, 1],
    R.s (R.q 34 (.call 6 [(R.t 31), (R.t 32), (.val (.str fun _ => [100, 47, 97])), (R.t 33)])) [],
    R.f (R.q 35 (.fieldA 0 4 (R.t 34))),
    R.s (R.e (.store 4 (R.t 6) (R.t 35))) []])
  (.seq (.regd [R.f (R.q 36 (.loadA 4 (R.t 6))),
    R.f (R.q 38 (.build (.cons (R.z 0) (.cons (R.z 0) (.cons (R.z 0) (.cons (R.z 0) (.cons (R.z 0) (.cons (R.z 0) (.cons .nsl (.cons .nsl (.cons .nsl (.cons (R.z 0) (.cons (.int .u64 fun _ => 0) (.cons (.int .u64 fun _ => 0) (.cons .ff (.cons (R.z 0) (.cons (R.z 0) (.cons (.str fun _ => []) (.cons (.str fun _ => []) (.cons (R.z 0) (.cons (R.z 0) (.cons .nsl .nil)))))))))))))))))))) [(0, 1, (R.i 3)), (16, 1, (.val (.str fun _ => [100])))])),
    R.s (R.q 37 (.call 7 [])) [0, 1],
    R.s (R.q 39 (.call 6 [(R.t 36), (R.t 37), (.val (.str fun _ => [115])), (R.t 38)])) [],
    R.f (R.q 40 (.fieldA 0 4 (R.t 39))),
    R.s (R.e (.store 4 (R.t 6) (R.t 40))) []])
  (.seq (.reg [R.q 41 (.mov (R.t 1)),
    R.q 42 (.conv .i64 (R.t 41)),
    R.q 43 (.bin .add .no (R.i 1) (R.t 42)),
    R.q 44 (.build (.cons (R.z 0) (.cons (R.z 0) (.cons .nsl (.cons (R.z 0) .nil)))) [(0, 1, (R.t 43)), (1, 1, (R.i 1))]),
    R.q 7 (.alloc (.cons (R.z 0) (.cons (R.z 0) (.cons .nsl (.cons (R.z 0) .nil))))),
    R.e (.store 4 (R.t 7) (R.t 44))])
  (.seq (.regd [R.f (R.q 46 (.loadA 4 (R.t 6))),
    R.s (R.q 47 (.call 7 [])) [0],
    R.s (R.q 48 (.call 9 [(R.t 46), (R.t 47), (.val (.str fun _ => [100, 47, 97]))])) [],
    R.f (R.q 45 (.mov (R.t 48))),
    R.f (R.q 49 (.ext 0 (R.t 45))),
    R.f (R.q 50 (.ext 1 (R.t 45))),
    R.s (R.q 8 (.mov (R.t 49))) [5],
    R.s (R.q 9 (.mov (R.t 50))) []])
  (.seq (.regd [R.f (R.q 52 (.loadA 4 (R.t 6))),
    R.s (R.q 53 (.call 7 [])) [0],
    R.s (R.q 54 (.call 9 [(R.t 52), (R.t 53), (.val (.str fun _ => [115, 47, 97]))])) [],
    R.f (R.q 51 (.mov (R.t 54))),
    R.f (R.q 55 (.ext 0 (R.t 51))),
    R.f (R.q 56 (.ext 1 (R.t 51))),
    R.s (R.q 10 (.mov (R.t 55))) [5],
    R.s (R.q 11 (.mov (R.t 56))) []])
  (.seq (.regd [R.f (R.q 58 (.loadA 4 (R.t 6))),
    R.s (R.q 59 (.call 7 [])) [0],
    R.s (R.q 60 (.call 9 [(R.t 58), (R.t 59), (.val (.str fun _ => [100, 47, 98]))])) [],
    R.f (R.q 57 (.mov (R.t 60))),
    R.f (R.q 61 (.ext 0 (R.t 57))),
    R.f (R.q 62 (.ext 1 (R.t 57))),
    R.s (R.q 12 (.mov (R.t 61))) [5],
    R.s (R.q 13 (.mov (R.t 62))) []])
  (.seq (.regd [R.f (R.q 64 (.loadA 4 (R.t 6))),
    R.s (R.q 65 (.call 7 [])) [0],
    R.s (R.q 66 (.call 9 [(R.t 64), (R.t 65), (.val (.str fun _ => [100, 47, 47, 97]))])) [],
    R.f (R.q 63 (.mov (R.t 66))),
    R.f (R.q 67 (.ext 0 (R.t 63))),
    R.f (R.q 68 (.ext 1 (R.t 63))),
    R.s (R.q 14 (.mov (R.t 67))) [5],
    R.s (R.q 15 (.mov (R.t 68))) []])
  (.seq (.reg [R.q 70 (.loadA 4 (R.t 6)),
    R.q 71 (.loadA 4 (R.t 7)),
    R.q 72 (.call 9 [(R.t 70), (R.t 71), (.val (.str fun _ => [100, 47, 97]))]),
    R.q 69 (.mov (R.t 72)),
    R.q 73 (.ext 0 (R.t 69)),
    R.q 74 (.ext 1 (R.t 69)),
    R.q 16 (.mov (R.t 73)),
    R.q 17 (.mov (R.t 74))])
  (.seq (.reg [R.q 76 (.loadA 4 (R.t 6)),
    R.q 77 (.loadA 4 (R.t 7)),
    R.q 78 (.call 9 [(R.t 76), (R.t 77), (.val (.str fun _ => [100, 47, 97, 47, 120]))]),
    R.q 75 (.mov (R.t 78)),
    R.q 79 (.ext 0 (R.t 75)),
    R.q 80 (.ext 1 (R.t 75)),
    R.q 18 (.mov (R.t 79)),
    R.q 19 (.mov (R.t 80))])
  (.seq (.seq (.reg [R.q 81 (.mov (R.t 9)),
    R.q 82 (.call 10 [(R.t 81)]),
    R.q 83 (.bin .neq .no (R.t 82) (R.i 0)),
    R.q 84 (.mov (R.t 83)),
    R.g 85 (.mov (R.t 8)) 84 false,
    R.g 86 (.bin .neq .no (R.t 85) (R.i 2)) 84 false,
    R.q 87 (.pick (R.t 84) R.tt (R.t 86)),
    R.q 88 (.mov (R.t 87)),
    R.g 89 (.mov (R.t 11)) 88 false,
    R.g 90 (.call 10 [(R.t 89)]) 88 false,
    R.g 91 (.bin .neq .no (R.t 90) (R.i 10)) 88 false,
    R.q 92 (.pick (R.t 88) R.tt (R.t 91)),
    R.q 93 (.mov (R.t 92)),
    R.g 94 (.mov (R.t 13)) 93 false,
    R.g 95 (.call 10 [(R.t 94)]) 93 false,
    R.g 96 (.bin .neq .no (R.t 95) (R.i 2)) 93 false,
    R.q 97 (.pick (R.t 93) R.tt (R.t 96)),
    R.q 98 (.mov (R.t 97)),
    R.g 99 (.mov (R.t 15)) 98 false,
    R.g 100 (.call 10 [(R.t 99)]) 98 false,
    R.g 101 (.bin .neq .no (R.t 100) (R.i 1)) 98 false,
    R.q 102 (.pick (R.t 98) R.tt (R.t 101))])
  (.cond (R.t 102)
    (.seq (.reg [R.q 4 (.mov R.ff)])
    .ret)
    .skip))
  (.seq (.seq (.reg [R.q 103 (.mov (R.t 5)),
    R.q 104 (.bin .and .no (R.t 103) (R.i 1)),
    R.q 105 (.bin .eql .no (R.t 104) (R.i 0))])
  (.cond (R.t 105)
    (.seq (.reg [R.q 106 (.mov (R.t 17)),
      R.q 107 (.call 10 [(R.t 106)]),
      R.q 108 (.bin .eql .no (R.t 107) (R.i 7)),
      R.q 109 (.mov (R.t 108)),
      R.g 110 (.mov (R.t 16)) 109 true,
      R.g 111 (.bin .eql .no (R.t 110) (R.i 0)) 109 true,
      R.q 112 (.pick (R.t 109) (R.t 111) R.ff),
      R.q 113 (.mov (R.t 112)),
      R.g 114 (.mov (R.t 19)) 113 true,
      R.g 115 (.call 10 [(R.t 114)]) 113 true,
      R.g 116 (.bin .eql .no (R.t 115) (R.i 7)) 113 true,
      R.q 117 (.pick (R.t 113) (R.t 116) R.ff),
      R.q 118 (.mov (R.t 117)),
      R.g 119 (.call 11 []) 118 true,
      R.q 120 (.pick (R.t 118) (R.t 119) R.ff),
      R.q 4 (.mov (R.t 120))])
    .ret)
    .skip))
  (.seq (.reg [R.q 121 (.mov (R.t 17)),
    R.q 122 (.call 10 [(R.t 121)]),
    R.q 123 (.bin .eql .no (R.t 122) (R.i 0)),
    R.q 124 (.mov (R.t 123)),
    R.g 125 (.mov (R.t 16)) 124 true,
    R.g 126 (.bin .eql .no (R.t 125) (R.i 2)) 124 true,
    R.q 127 (.pick (R.t 124) (R.t 126) R.ff),
    R.q 128 (.mov (R.t 127)),
    R.g 129 (.mov (R.t 19)) 128 true,
    R.g 130 (.call 10 [(R.t 129)]) 128 true,
    R.g 131 (.bin .eql .no (R.t 130) (R.i 10)) 128 true,
    R.q 132 (.pick (R.t 128) (R.t 131) R.ff),
    R.q 133 (.mov (R.t 132)),
    R.g 134 (.call 11 []) 133 true,
    R.q 135 (.pick (R.t 133) (R.t 134) R.ff),
    R.q 4 (.mov (R.t 135))])
  .ret))))))))))))))))
def l19_FsPaths.rs : List RRes := [.tmp 4]
theorem l19_FsPaths.of {xs : List AV} {d : Nat} {B : BL} {K : ARes → BL → Prop} (hn : xs.length = 2) (hB : onlyOuter B = true) (h : awp ⟨PT, 136, exitX l19_FsPaths.rs K⟩ 10000 [.code l19_FsPaths.rc] ⟨params 0 xs, B, .nil⟩) : CallAt PT l19_FsPaths xs d B K :=
  call_of_awp 10000 Tryd.func3 rfl (by kernel_rfl) (by kernel_rfl) (by kernel_rfl) (by rw [hn]; decide) hB h
abbrev l19_FsDevices : Nat := 4
def l19_FsDevices.rc : RC :=
  (.seq (.reg [R.q 4 (.mov R.ff)])
  (.seq (.reg [R.q 13 (.bslice 1 (.cons (R.z 0) .nil) 6 [(0, 1, (R.i 4)), (1, 1, (R.i 5)), (2, 1, (R.i 7)), (3, 1, (R.i 1)), (4, 1, (R.i 6)), (5, 1, (R.i 3))]),
    R.q 14 (.mov (R.t 0)),
    R.q 15 (.bin .rem .no (R.t 14) (R.u 6)),
    R.q 16 (.idx 1 (R.t 13) (R.t 15)),
    R.q 17 (.load1 (R.t 16)),
    R.q 5 (.mov (R.t 17))])
  (.seq (.reg [R.q 18 (.mov (R.t 5)),
    R.q 19 (.build (.cons (R.z 0) (.cons (R.z 0) (.cons (R.z 0) (.cons (R.z 0) (.cons (R.z 0) (.cons (R.z 0) (.cons .nsl (.cons .nsl (.cons .nsl (.cons (R.z 0) (.cons (.int .u64 fun _ => 0) (.cons (.int .u64 fun _ => 0) (.cons .ff (.cons (R.z 0) (.cons (R.z 0) (.cons (.str fun _ => []) (.cons (.str fun _ => []) (.cons (R.z 0) (.cons (R.z 0) (.cons .nsl .nil)))))))))))))))))))) [(0, 1, (R.t 18))]),
    R.q 6 (.alloc (.cons (R.z 0) (.cons (R.z 0) (.cons (R.z 0) (.cons (R.z 0) (.cons (R.z 0) (.cons (R.z 0) (.cons .nsl (.cons .nsl (.cons .nsl (.cons (R.z 0) (.cons (.int .u64 fun _ => 0) (.cons (.int .u64 fun _ => 0) (.cons .ff (.cons (R.z 0) (.cons (R.z 0) (.cons (.str fun _ => []) (.cons (.str fun _ => []) (.cons (R.z 0) (.cons (R.z 0) (.cons .nsl .nil))))))))))))))))))))),
    R.e (.store 20 (R.t 6) (R.t 19))])
  (.seq (.seq (.reg [R.q 20 (.mov (R.t 5)),
    R.q 21 (.bin .eql .no (R.t 20) (R.i 3))])
  (.cond (R.t 21)
    (.reg [R.q 22 (.fld 16 (R.t 6)),
      R.e (.store 1 (R.t 22) (.val (.str fun _ => [120])))])
    .skip))
  (.seq (.reg [R.q 23 (.call 5 [(R.i 10)]),
    R.q 7 (.alloc (.cons .nsl (.cons (R.z 0) (.cons (R.z 0) (.cons .nsl .nil))))),
    R.e (.store 4 (R.t 7) (R.t 23))])
  (.seq (.regd [R.f (R.q 24 (.loadA 4 (R.t 7))),
    R.s (R.q 25 (.call 7 [])) [0],
    R.s (R.q 26 (.call 12 [(R.t 24), (R.t 25), (.val (.str fun _ => [])), (R.i 511)])) [],
    R.f (R.q 27 (.fieldA 0 4 (R.t 26))),
    R.s (R.e (.store 4 (R.t 7) (R.t 27))) []])
  (.seq (.reg [R.q 28 (.build (.cons (R.z 0) (.cons (R.z 0) (.cons .nsl (.cons (R.z 0) .nil)))) [(0, 1, (R.i 5)), (1, 1, (R.i 5))]),
    R.q 8 (.alloc (.cons (R.z 0) (.cons (R.z 0) (.cons .nsl (.cons (R.z 0) .nil))))),
    R.e (.store 4 (R.t 8) (R.t 28))])
  (.seq (.seq (.reg [R.q 29 (.mov (R.t 1))])
  (.cond (R.t 29)
    (.reg [R.q 30 (.fld 3 (R.t 8)),
      R.e (.store 1 (R.t 30) (R.i 16))])
    .skip))
  (.seq (.reg [R.q 32 (.loadA 4 (R.t 7)),
    R.q 33 (.loadA 4 (R.t 8)),
    R.q 34 (.loadA 20 (R.t 6)),
    R.q 35 (.call 13 [(R.t 32), (R.t 33), (.val (.str fun _ => [110])), (R.t 34)]),
    R.q 31 (.mov (R.t 35)),
    R.q 36 (.ext 0 (R.t 31)),
    R.q 37 (.ext 1 (R.t 31)),
    R.q 9 (.alloc (.cons .nsl (.cons (R.z 0) (.cons (R.z 0) (.cons .nsl .nil))))),
    R.e (.store 4 (R.t 9) (R.t 36)),
    R.q 10 (.mov (R.t 37))])
  (.seq (.seq (.reg [R.q 38 (.mov (R.t 1)),
    R.q 39 (.un .not (R.t 38)),
    R.q 40 (.mov (R.t 39)),
    R.g 41 (.mov (R.t 5)) 40 true,
    R.g 42 (.bin .eql .no (R.t 41) (R.i 4)) 40 true,
    R.g 43 (.mov (R.t 42)) 40 true,
    R.g 44 (.mov (R.t 5)) 43 false,
    R.g 45 (.bin .eql .no (R.t 44) (R.i 5)) 43 false,
    R.g 46 (.pick (R.t 43) R.tt (R.t 45)) 40 true,
    R.q 47 (.pick (R.t 40) (R.t 46) R.ff)])
  (.cond (R.t 47)
    (.seq (.reg [R.q 48 (.mov (R.t 10)),
      R.q 49 (.call 10 [(R.t 48)]),
      R.q 50 (.bin .eql .no (R.t 49) (R.i 7)),
      R.q 51 (.mov (R.t 50)),
      R.g 52 (.fld 0 (R.t 9)) 51 true,
      R.g 53 (.load1 (R.t 52)) 51 true,
      R.g 54 (.len (R.t 53)) 51 true,
      R.g 55 (.bin .eql .no (R.t 54) (R.i 1)) 51 true,
      R.q 56 (.pick (R.t 51) (R.t 55) R.ff),
      R.q 57 (.mov (R.t 56)),
      R.g 58 (.call 11 []) 57 true,
      R.q 59 (.pick (R.t 57) (R.t 58) R.ff),
      R.q 4 (.mov (R.t 59))])
    .ret)
    .skip))
  (.seq (.reg [R.q 61 (.loadA 4 (R.t 9)),
    R.q 62 (.loadA 4 (R.t 8)),
    R.q 63 (.loadA 20 (R.t 6)),
    R.q 64 (.call 13 [(R.t 61), (R.t 62), (.val (.str fun _ => [110])), (R.t 63)]),
    R.q 60 (.mov (R.t 64)),
    R.q 65 (.ext 0 (R.t 60)),
    R.q 66 (.ext 1 (R.t 60)),
    R.q 11 (.alloc (.cons .nsl (.cons (R.z 0) (.cons (R.z 0) (.cons .nsl .nil))))),
    R.e (.store 4 (R.t 11) (R.t 65)),
    R.q 12 (.mov (R.t 66))])
  (.seq (.reg [R.q 67 (.mov (R.t 10)),
    R.q 68 (.call 10 [(R.t 67)]),
    R.q 69 (.bin .eql .no (R.t 68) (R.i 0)),
    R.q 70 (.mov (R.t 69)),
    R.g 71 (.fld 0 (R.t 9)) 70 true,
    R.g 72 (.load1 (R.t 71)) 70 true,
    R.g 73 (.len (R.t 72)) 70 true,
    R.g 74 (.bin .eql .no (R.t 73) (R.i 2)) 70 true,
    R.q 75 (.pick (R.t 70) (R.t 74) R.ff),
    R.q 76 (.mov (R.t 75)),
    R.g 77 (.fld 0 (R.t 9)) 76 true,
    R.g 78 (.load1 (R.t 77)) 76 true,
    R.g 79 (.idx 20 (R.t 78) (R.i 1)) 76 true,
    R.g 80 (.fld 1 (R.t 79)) 76 true,
    R.g 81 (.fld 1 (R.t 80)) 76 true,
    R.g 82 (.load1 (R.t 81)) 76 true,
    R.g 83 (.bin .eql .no (R.t 82) (R.i 5)) 76 true,
    R.q 84 (.pick (R.t 76) (R.t 83) R.ff),
    R.q 85 (.mov (R.t 84)),
    R.g 86 (.mov (R.t 12)) 85 true,
    R.g 87 (.call 10 [(R.t 86)]) 85 true,
    R.g 88 (.bin .eql .no (R.t 87) (R.i 3)) 85 true,
    R.q 89 (.pick (R.t 85) (R.t 88) R.ff),
    R.q 90 (.mov (R.t 89)),
    R.g 91 (.call 11 []) 90 true,
    R.q 92 (.pick (R.t 90) (R.t 91) R.ff),
    R.q 4 (.mov (R.t 92))])
  .ret))))))))))))
def l19_FsDevices.rs : List RRes := [.tmp 4]
theorem l19_FsDevices.of {xs : List AV} {d : Nat} {B : BL} {K : ARes → BL → Prop} (hn : xs.length = 2) (hB : onlyOuter B = true) (h : awp ⟨PT, 93, exitX l19_FsDevices.rs K⟩ 10000 [.code l19_FsDevices.rc] ⟨params 0 xs, B, .nil⟩) : CallAt PT l19_FsDevices xs d B K :=
  call_of_awp 10000 Tryd.func4 rfl (by kernel_rfl) (by kernel_rfl) (by kernel_rfl) (by rw [hn]; decide) hB h
abbrev r18_New : Nat := 5
def r18_New.rc : RC :=
  (.seq (.reg [R.q 2 (.alloc (.cons .nsl (.cons (R.z 0) (.cons (R.z 0) (.cons .nsl .nil)))))])
  (.seq (.reg [R.q 3 (.call 8 [(R.i 493), (R.i 0), (R.i 0)]),
    R.q 4 (.build (.cons (R.z 0) (.cons (R.z 0) (.cons (R.z 0) (.cons (R.z 0) (.cons (R.z 0) (.cons (R.z 0) (.cons .nsl (.cons .nsl (.cons .nsl (.cons (R.z 0) (.cons (.int .u64 fun _ => 0) (.cons (.int .u64 fun _ => 0) (.cons .ff (.cons (R.z 0) (.cons (R.z 0) (.cons (.str fun _ => []) (.cons (.str fun _ => []) (.cons (R.z 0) (.cons (R.z 0) (.cons .nsl .nil)))))))))))))))))))) [(0, 1, (R.i 6)), (1, 14, (R.t 3))]),
    R.q 5 (.bslice 20 (.cons (R.z 0) (.cons (R.z 0) (.cons (R.z 0) (.cons (R.z 0) (.cons (R.z 0) (.cons (R.z 0) (.cons .nsl (.cons .nsl (.cons .nsl (.cons (R.z 0) (.cons (.int .u64 fun _ => 0) (.cons (.int .u64 fun _ => 0) (.cons .ff (.cons (R.z 0) (.cons (R.z 0) (.cons (.str fun _ => []) (.cons (.str fun _ => []) (.cons (R.z 0) (.cons (R.z 0) (.cons .nsl .nil)))))))))))))))))))) 1 [(0, 20, (R.t 4))]),
    R.q 6 (.mov (R.t 0)),
    R.q 7 (.mm true [(R.i 0), (R.t 6)]),
    R.q 8 (.build (.cons .nsl (.cons (R.z 0) (.cons (R.z 0) (.cons .nsl .nil)))) [(0, 1, (R.t 5)), (1, 1, (R.t 7))]),
    R.e (.store 4 (R.t 2) (R.t 8))])
  .ret))
def r18_New.rs : List RRes := [.cellA 2 4]
theorem r18_New.of {xs : List AV} {d : Nat} {B : BL} {K : ARes → BL → Prop} (hn : xs.length = 1) (hB : onlyOuter B = true) (h : awp ⟨PT, 9, exitX r18_New.rs K⟩ 10000 [.code r18_New.rc] ⟨params 0 xs, B, .nil⟩) : CallAt PT r18_New xs d B K :=
  call_of_awp 10000 Tryd.func5 rfl (by kernel_rfl) (by kernel_rfl) (by kernel_rfl) (by rw [hn]; decide) hB h
abbrev r18_Make : Nat := 6
def r18_Make.rc : RC :=
  (.seq (.reg [R.q 4 (.box (R.t 0)),
    R.q 5 (.box (R.t 1)),
    R.q 7 (.box (R.t 3)),
    R.q 8 (.alloc (.cons .nsl (.cons (R.z 0) (.cons (R.z 0) (.cons .nsl (.cons (R.z 0) .nil))))))])
  (.seq (.reg [R.q 16 (.mov (R.t 2)),
    R.q 17 (.call 14 [(R.t 16)]),
    R.q 9 (.alloc (.cons .nsl (.cons .ff .nil))),
    R.e (.store 2 (R.t 9) (R.t 17))])
  (.seq (.seq (.reg [R.q 18 (.fld 1 (R.t 9)),
    R.q 19 (.load1 (R.t 18)),
    R.q 20 (.un .not (R.t 19)),
    R.q 21 (.mov (R.t 20)),
    R.g 22 (.fld 0 (R.t 9)) 21 false,
    R.g 23 (.load1 (R.t 22)) 21 false,
    R.g 24 (.len (R.t 23)) 21 false,
    R.g 25 (.bin .eql .no (R.t 24) (R.i 0)) 21 false,
    R.q 26 (.pick (R.t 21) R.tt (R.t 25)),
    R.q 27 (.mov (R.t 26)),
    R.g 28 (.fld 0 (R.t 7)) 27 false,
    R.g 29 (.load1 (R.t 28)) 27 false,
    R.g 30 (.bin .eql .no (R.t 29) (R.i 2)) 27 false,
    R.q 31 (.pick (R.t 27) R.tt (R.t 30)),
    R.q 32 (.mov (R.t 31)),
    R.g 33 (.fld 0 (R.t 7)) 32 false,
    R.g 34 (.load1 (R.t 33)) 32 false,
    R.g 35 (.bin .lss .no (R.t 34) (R.i 1)) 32 false,
    R.q 36 (.pick (R.t 32) R.tt (R.t 35)),
    R.q 37 (.mov (R.t 36)),
    R.g 38 (.fld 0 (R.t 7)) 37 false,
    R.g 39 (.load1 (R.t 38)) 37 false,
    R.g 40 (.bin .gtr .no (R.t 39) (R.i 7)) 37 false,
    R.q 41 (.pick (R.t 37) R.tt (R.t 40)),
    R.q 42 (.mov (R.t 41)),
    R.g 43 (.fld 1 (R.t 7)) 42 false,
    R.g 44 (.fld 0 (R.t 43)) 42 false,
    R.g 45 (.load1 (R.t 44)) 42 false,
    R.g 46 (.bin .lss .no (R.t 45) (R.i 0)) 42 false,
    R.q 47 (.pick (R.t 42) R.tt (R.t 46)),
    R.q 48 (.mov (R.t 47)),
    R.g 49 (.fld 1 (R.t 7)) 48 false,
    R.g 50 (.fld 0 (R.t 49)) 48 false,
    R.g 51 (.load1 (R.t 50)) 48 false,
    R.g 52 (.bin .gtr .no (R.t 51) (R.i 4095)) 48 false,
    R.q 53 (.pick (R.t 48) R.tt (R.t 52)),
    R.q 54 (.mov (R.t 53)),
    R.g 55 (.fld 0 (R.t 7)) 54 false,
    R.g 56 (.load1 (R.t 55)) 54 false,
    R.g 57 (.fld 15 (R.t 7)) 54 false,
    R.g 58 (.load1 (R.t 57)) 54 false,
    R.g 59 (.fld 16 (R.t 7)) 54 false,
    R.g 60 (.load1 (R.t 59)) 54 false,
    R.g 61 (.fld 17 (R.t 7)) 54 false,
    R.g 62 (.load1 (R.t 61)) 54 false,
    R.g 63 (.fld 18 (R.t 7)) 54 false,
    R.g 64 (.load1 (R.t 63)) 54 false,
    R.g 65 (.call 15 [(R.t 56), (R.t 58), (R.t 60), (R.t 62), (R.t 64)]) 54 false,
    R.g 66 (.un .not (R.t 65)) 54 false,
    R.q 67 (.pick (R.t 54) R.tt (R.t 66))])
  (.cond (R.t 67)
    (.seq (.reg [R.q 68 (.loadA 4 (R.t 4)),
      R.q 69 (.call 16 [(R.t 68), (R.i 1)]),
      R.e (.store 5 (R.t 8) (R.t 69))])
    .ret)
    .skip))
  (.seq (.reg [R.q 70 (.loadA 4 (R.t 4)),
    R.q 71 (.call 17 [(R.t 70)]),
    R.q 10 (.alloc (.cons .nsl (.cons (R.z 0) (.cons (R.z 0) (.cons .nsl (.cons (R.z 0) .nil)))))),
    R.e (.store 5 (R.t 10) (R.t 71))])
  (.seq (.seq (.reg [R.q 72 (.fld 4 (R.t 10)),
    R.q 73 (.load1 (R.t 72)),
    R.q 74 (.bin .neq .no (R.t 73) (R.i 0))])
  (.cond (R.t 74)
    (.seq (.reg [R.q 75 (.loadA 5 (R.t 10)),
      R.e (.store 5 (R.t 8) (R.t 75))])
    .ret)
    .skip))
  (.seq (.reg [R.q 76 (.fld 0 (R.t 10)),
    R.q 77 (.loadA 4 (R.t 76)),
    R.e (.store 4 (R.t 4) (R.t 77))])
  (.seq (.reg [R.q 78 (.fld 0 (R.t 9)),
    R.q 79 (.load1 (R.t 78)),
    R.q 80 (.fld 0 (R.t 9)),
    R.q 81 (.load1 (R.t 80)),
    R.q 82 (.len (R.t 81)),
    R.q 83 (.bin .sub .no (R.t 82) (R.i 1)),
    R.q 84 (.idx 1 (R.t 79) (R.t 83)),
    R.q 85 (.load1 (R.t 84)),
    R.q 11 (.mov (R.t 85))])
  (.seq (.regd [R.f (R.q 86 (.loadA 4 (R.t 4))),
    R.f (R.q 87 (.loadA 4 (R.t 5))),
    R.f (R.q 88 (.fld 0 (R.t 9))),
    R.f (R.q 89 (.load1 (R.t 88))),
    R.f (R.q 90 (.fld 0 (R.t 9))),
    R.f (R.q 91 (.load1 (R.t 90))),
    R.f (R.q 92 (.len (R.t 91))),
    R.f (R.q 93 (.bin .sub .no (R.t 92) (R.i 1))),
    R.f (R.q 94 (.slice 1 (R.t 89) none (some (R.t 93)))),
    R.f (R.q 12 (.alloc (.cons (R.z 0) (.cons (R.z 0) .nil)))),
    R.s (R.q 95 (.call 18 [(R.t 86), (R.t 87), (R.t 94)])) [9],
    R.s (R.e (.store 2 (R.t 12) (R.t 95))) []])
  (.seq (.seq (.reg [R.q 96 (.fld 1 (R.t 12)),
    R.q 97 (.load1 (R.t 96)),
    R.q 98 (.bin .neq .no (R.t 97) (R.i 0))])
  (.cond (R.t 98)
    (.seq (.reg [R.q 99 (.loadA 4 (R.t 4)),
      R.q 100 (.fld 1 (R.t 12)),
      R.q 101 (.load1 (R.t 100)),
      R.q 102 (.call 16 [(R.t 99), (R.t 101)]),
      R.e (.store 5 (R.t 8) (R.t 102))])
    .ret)
    .skip))
  (.seq (.reg [R.q 103 (.fld 0 (R.t 4)),
    R.q 104 (.load1 (R.t 103)),
    R.q 105 (.fld 0 (R.t 12)),
    R.q 106 (.load1 (R.t 105)),
    R.q 107 (.idx 20 (R.t 104) (R.t 106)),
    R.q 108 (.loadA 20 (R.t 107)),
    R.q 13 (.alloc (.cons (R.z 0) (.cons (R.z 0) (.cons (R.z 0) (.cons (R.z 0) (.cons (R.z 0) (.cons (R.z 0) (.cons .nsl (.cons .nsl (.cons .nsl (.cons (R.z 0) (.cons (.int .u64 fun _ => 0) (.cons (.int .u64 fun _ => 0) (.cons .ff (.cons (R.z 0) (.cons (R.z 0) (.cons (.str fun _ => []) (.cons (.str fun _ => []) (.cons (R.z 0) (.cons (R.z 0) (.cons .nsl .nil))))))))))))))))))))),
    R.e (.store 20 (R.t 13) (R.t 108))])
  (.seq (.seq (.reg [R.q 109 (.fld 0 (R.t 13)),
    R.q 110 (.load1 (R.t 109)),
    R.q 111 (.bin .neq .no (R.t 110) (R.i 6))])
  (.cond (R.t 111)
    (.seq (.reg [R.q 112 (.loadA 4 (R.t 4)),
      R.q 113 (.call 16 [(R.t 112), (R.i 10)]),
      R.e (.store 5 (R.t 8) (R.t 113))])
    .ret)
    .skip))
  (.seq (.seq (.reg [R.q 114 (.fld 1 (R.t 13)),
    R.q 115 (.loadA 14 (R.t 114)),
    R.q 116 (.loadA 4 (R.t 5)),
    R.q 117 (.call 19 [(R.t 115), (R.t 116)]),
    R.q 118 (.un .not (R.t 117))])
  (.cond (R.t 118)
    (.seq (.reg [R.q 119 (.loadA 4 (R.t 4)),
      R.q 120 (.call 16 [(R.t 119), (R.i 7)]),
      R.e (.store 5 (R.t 8) (R.t 120))])
    .ret)
    .skip))
  (.seq (.seq (.reg [R.q 121 (.loadA 20 (R.t 13)),
    R.q 122 (.mov (R.t 11)),
    R.q 123 (.call 20 [(R.t 121), (R.t 122)]),
    R.q 124 (.bin .geq .no (R.t 123) (R.i 0))])
  (.cond (R.t 124)
    (.seq (.reg [R.q 125 (.loadA 4 (R.t 4)),
      R.q 126 (.call 16 [(R.t 125), (R.i 3)]),
      R.e (.store 5 (R.t 8) (R.t 126))])
    .ret)
    .skip))
  (.seq (.seq (.reg [R.q 127 (.fld 0 (R.t 7)),
    R.q 128 (.load1 (R.t 127)),
    R.q 129 (.bin .eql .no (R.t 128) (R.i 4)),
    R.q 130 (.mov (R.t 129)),
    R.g 131 (.fld 0 (R.t 7)) 130 false,
    R.g 132 (.load1 (R.t 131)) 130 false,
    R.g 133 (.bin .eql .no (R.t 132) (R.i 5)) 130 false,
    R.q 134 (.pick (R.t 130) R.tt (R.t 133)),
    R.q 135 (.mov (R.t 134)),
    R.g 136 (.loadA 4 (R.t 5)) 135 true,
    R.g 137 (.call 21 [(R.t 136), (R.i 16)]) 135 true,
    R.g 138 (.un .not (R.t 137)) 135 true,
    R.q 139 (.pick (R.t 135) (R.t 138) R.ff)])
  (.cond (R.t 139)
    (.seq (.reg [R.q 140 (.loadA 4 (R.t 4)),
      R.q 141 (.call 16 [(R.t 140), (R.i 7)]),
      R.e (.store 5 (R.t 8) (R.t 141))])
    .ret)
    .skip))
  (.seq (.reg [R.q 14 (.mov (R.i 0))])
  (.seq (.block 0 (.loop
     (.seq (.seq (.reg [R.q 142 (.mov (R.t 14)),
       R.q 143 (.fld 0 (R.t 4)),
       R.q 144 (.load1 (R.t 143)),
       R.q 145 (.len (R.t 144)),
       R.q 146 (.bin .lss .no (R.t 142) (R.t 145)),
       R.q 147 (.mov (R.t 146)),
       R.g 148 (.fld 0 (R.t 4)) 147 true,
       R.g 149 (.load1 (R.t 148)) 147 true,
       R.g 150 (.mov (R.t 14)) 147 true,
       R.g 151 (.idx 20 (R.t 149) (R.t 150)) 147 true,
       R.g 152 (.fld 0 (R.t 151)) 147 true,
       R.g 153 (.load1 (R.t 152)) 147 true,
       R.g 154 (.bin .neq .no (R.t 153) (R.i 0)) 147 true,
       R.q 155 (.pick (R.t 147) (R.t 154) R.ff)])
     (.cond (R.t 155)
       .skip
       (.exit 0)))
     (.block 1 (.reg [R.q 156 (.mov (R.t 14)),
        R.q 157 (.bin .add .no (R.t 156) (R.i 1)),
        R.q 14 (.mov (R.t 157))])))))
  (.seq (.seq (.reg [R.q 158 (.mov (R.t 14)),
    R.q 159 (.bin .geq .no (R.t 158) (R.i 64)),
    R.q 160 (.mov (R.t 159)),
    R.g 161 (.fld 15 (R.t 7)) 160 false,
    R.g 162 (.load1 (R.t 161)) 160 false,
    R.g 163 (.lenS (R.t 162)) 160 false,
    R.g 164 (.fld 1 (R.t 4)) 160 false,
    R.g 165 (.load1 (R.t 164)) 160 false,
    R.g 166 (.bin .gtr .no (R.t 163) (R.t 165)) 160 false,
    R.q 167 (.pick (R.t 160) R.tt (R.t 166))])
  (.cond (R.t 167)
    (.seq (.reg [R.q 168 (.loadA 4 (R.t 4)),
      R.q 169 (.call 16 [(R.t 168), (R.i 9)]),
      R.e (.store 5 (R.t 8) (R.t 169))])
    .ret)
    .skip))
  (.seq (.regd [R.f (R.q 170 (.fld 0 (R.t 7))),
    R.f (R.q 171 (.load1 (R.t 170))),
    R.f (R.q 172 (.fld 1 (R.t 7))),
    R.f (R.q 173 (.fld 0 (R.t 172))),
    R.f (R.q 174 (.load1 (R.t 173))),
    R.f (R.q 175 (.fld 0 (R.t 5))),
    R.f (R.q 176 (.load1 (R.t 175))),
    R.f (R.q 177 (.fld 1 (R.t 5))),
    R.f (R.q 178 (.load1 (R.t 177))),
    R.f (R.q 180 (.fld 15 (R.t 7))),
    R.f (R.q 181 (.load1 (R.t 180))),
    R.f (R.q 182 (.fld 16 (R.t 7))),
    R.f (R.q 183 (.load1 (R.t 182))),
    R.f (R.q 184 (.fld 17 (R.t 7))),
    R.f (R.q 185 (.load1 (R.t 184))),
    R.f (R.q 186 (.fld 18 (R.t 7))),
    R.f (R.q 187 (.load1 (R.t 186))),
    R.f (R.q 15 (.alloc (.cons (R.z 0) (.cons (R.z 0) (.cons (R.z 0) (.cons (R.z 0) (.cons (R.z 0) (.cons (R.z 0) (.cons .nsl (.cons .nsl (.cons .nsl (.cons (R.z 0) (.cons (.int .u64 fun _ => 0) (.cons (.int .u64 fun _ => 0) (.cons .ff (.cons (R.z 0) (.cons (R.z 0) (.cons (.str fun _ => []) (.cons (.str fun _ => []) (.cons (R.z 0) (.cons (R.z 0) (.cons .nsl .nil)))))))))))))))))))))),
    R.s (R.q 179 (.call 8 [(R.t 174), (R.t 176), (R.t 178)])) [0, 1, 9, 10, 11, 12, 13, 14, 15, 16, 17],
    R.f (R.q 188 (.build (.cons (R.z 0) (.cons (R.z 0) (.cons (R.z 0) (.cons (R.z 0) (.cons (R.z 0) (.cons (R.z 0) (.cons .nsl (.cons .nsl (.cons .nsl (.cons (R.z 0) (.cons (.int .u64 fun _ => 0) (.cons (.int .u64 fun _ => 0) (.cons .ff (.cons (R.z 0) (.cons (R.z 0) (.cons (.str fun _ => []) (.cons (.str fun _ => []) (.cons (R.z 0) (.cons (R.z 0) (.cons .nsl .nil)))))))))))))))))))) [(0, 1, (R.t 171)), (1, 14, (R.t 179)), (15, 1, (R.t 181)), (16, 1, (R.t 183)), (17, 1, (R.t 185)), (18, 1, (R.t 187))])),
    R.s (R.e (.store 20 (R.t 15) (R.t 188))) []])
  (.seq (.seq (.reg [R.q 189 (.fld 0 (R.t 7)),
    R.q 190 (.load1 (R.t 189)),
    R.q 191 (.bin .eql .no (R.t 190) (R.i 3))])
  (.cond (R.t 191)
    (.reg [R.q 192 (.fld 1 (R.t 15)),
      R.q 193 (.fld 0 (R.t 192)),
      R.e (.store 1 (R.t 193) (R.i 511))])
    .skip))
  (.seq (.reg [R.q 194 (.bslice 20 (.cons (R.z 0) (.cons (R.z 0) (.cons (R.z 0) (.cons (R.z 0) (.cons (R.z 0) (.cons (R.z 0) (.cons .nsl (.cons .nsl (.cons .nsl (.cons (R.z 0) (.cons (.int .u64 fun _ => 0) (.cons (.int .u64 fun _ => 0) (.cons .ff (.cons (R.z 0) (.cons (R.z 0) (.cons (.str fun _ => []) (.cons (.str fun _ => []) (.cons (R.z 0) (.cons (R.z 0) (.cons .nsl .nil)))))))))))))))))))) 0 []),
    R.q 195 (.fld 0 (R.t 4)),
    R.q 196 (.load1 (R.t 195)),
    R.q 197 (.append 20 240 (R.t 194) (R.t 196)),
    R.q 198 (.fld 0 (R.t 4)),
    R.e (.store 1 (R.t 198) (R.t 197))])
  (.seq (.seq (.reg [R.q 199 (.mov (R.t 14)),
    R.q 200 (.fld 0 (R.t 4)),
    R.q 201 (.load1 (R.t 200)),
    R.q 202 (.len (R.t 201)),
    R.q 203 (.bin .eql .no (R.t 199) (R.t 202))])
  (.cond (R.t 203)
    (.reg [R.q 204 (.fld 0 (R.t 4)),
      R.q 205 (.load1 (R.t 204)),
      R.q 206 (.loadA 20 (R.t 15)),
      R.q 207 (.bslice 20 (.cons (R.z 0) (.cons (R.z 0) (.cons (R.z 0) (.cons (R.z 0) (.cons (R.z 0) (.cons (R.z 0) (.cons .nsl (.cons .nsl (.cons .nsl (.cons (R.z 0) (.cons (.int .u64 fun _ => 0) (.cons (.int .u64 fun _ => 0) (.cons .ff (.cons (R.z 0) (.cons (R.z 0) (.cons (.str fun _ => []) (.cons (.str fun _ => []) (.cons (R.z 0) (.cons (R.z 0) (.cons .nsl .nil)))))))))))))))))))) 1 [(0, 20, (R.t 206))]),
      R.q 208 (.append 20 240 (R.t 205) (R.t 207)),
      R.q 209 (.fld 0 (R.t 4)),
      R.e (.store 1 (R.t 209) (R.t 208))])
    (.reg [R.q 210 (.fld 0 (R.t 4)),
      R.q 211 (.load1 (R.t 210)),
      R.q 212 (.mov (R.t 14)),
      R.q 213 (.loadA 20 (R.t 15)),
      R.q 214 (.idx 20 (R.t 211) (R.t 212)),
      R.e (.store 20 (R.t 214) (R.t 213))])))
  (.seq (.regd [R.f (R.q 215 (.fld 0 (R.t 4))),
    R.f (R.q 216 (.load1 (R.t 215))),
    R.f (R.q 217 (.fld 0 (R.t 12))),
    R.f (R.q 218 (.load1 (R.t 217))),
    R.f (R.q 219 (.loadA 20 (R.t 13))),
    R.f (R.q 220 (.mov (R.t 11))),
    R.f (R.q 221 (.mov (R.t 14))),
    R.s (R.q 222 (.call 22 [(R.t 219), (R.t 220), (R.t 221)])) [0, 1, 2, 3],
    R.f (R.q 223 (.idx 20 (R.t 216) (R.t 218))),
    R.s (R.e (.store 20 (R.t 223) (R.t 222))) []])
  (.seq (.reg [R.q 224 (.fld 1 (R.t 4)),
    R.q 225 (.load1 (R.t 224)),
    R.q 226 (.fld 15 (R.t 7)),
    R.q 227 (.load1 (R.t 226)),
    R.q 228 (.lenS (R.t 227)),
    R.q 229 (.bin .sub .no (R.t 225) (R.t 228)),
    R.q 230 (.fld 1 (R.t 4)),
    R.e (.store 1 (R.t 230) (R.t 229))])
  (.seq (.reg [R.q 231 (.loadA 4 (R.t 4)),
    R.q 232 (.build (.cons .nsl (.cons (R.z 0) (.cons (R.z 0) (.cons .nsl (.cons (R.z 0) .nil))))) [(0, 4, (R.t 231))]),
    R.e (.store 5 (R.t 8) (R.t 232))])
  .ret))))))))))))))))))))))))
def r18_Make.rs : List RRes := [.cellA 8 5]
theorem r18_Make.of {xs : List AV} {d : Nat} {B : BL} {K : ARes → BL → Prop} (hn : xs.length = 4) (hB : onlyOuter B = true) (h : awp ⟨PT, 233, exitX r18_Make.rs K⟩ 10000 [.code r18_Make.rc] ⟨params 0 xs, B, .nil⟩) : CallAt PT r18_Make xs d B K :=
  call_of_awp 10000 Tryd.func6 rfl (by kernel_rfl) (by kernel_rfl) (by kernel_rfl) (by rw [hn]; decide) hB h
abbrev l19_Root : Nat := 7
def l19_Root.rc : RC :=
  (.seq (.reg [R.q 0 (.alloc (.cons (R.z 0) (.cons (R.z 0) (.cons .nsl (.cons (R.z 0) .nil)))))])
  (.seq (.reg [R.q 1 (.build (.cons (R.z 0) (.cons (R.z 0) (.cons .nsl (.cons (R.z 0) .nil)))) [(3, 1, (R.i 127))]),
    R.e (.store 4 (R.t 0) (R.t 1))])
  .ret))
def l19_Root.rs : List RRes := [.cellA 0 4]
theorem l19_Root.of {xs : List AV} {d : Nat} {B : BL} {K : ARes → BL → Prop} (hn : xs.length = 0) (hB : onlyOuter B = true) (h : awp ⟨PT, 2, exitX l19_Root.rs K⟩ 10000 [.code l19_Root.rc] ⟨params 0 xs, B, .nil⟩) : CallAt PT l19_Root xs d B K :=
  call_of_awp 10000 Tryd.func7 rfl (by kernel_rfl) (by kernel_rfl) (by kernel_rfl) (by rw [hn]; decide) hB h
abbrev r9_Plain : Nat := 8
def r9_Plain.rc : RC :=
  (.seq (.reg [R.q 6 (.alloc (.cons (R.z 0) (.cons (R.z 0) (.cons (R.z 0) (.cons (R.z 0) (.cons (R.z 0) (.cons .nsl (.cons .nsl (.cons .nsl (.cons (R.z 0) (.cons (.int .u64 fun _ => 0) (.cons (.int .u64 fun _ => 0) (.cons .ff (.cons (R.z 0) (.cons (R.z 0) .nil)))))))))))))))])
  (.seq (.reg [R.q 7 (.mov (R.t 0)),
    R.q 8 (.mov (R.t 1)),
    R.q 9 (.mov (R.t 2)),
    R.q 10 (.build (.cons (R.z 0) (.cons (R.z 0) (.cons (R.z 0) (.cons (R.z 0) (.cons (R.z 0) (.cons .nsl (.cons .nsl (.cons .nsl (.cons (R.z 0) (.cons (.int .u64 fun _ => 0) (.cons (.int .u64 fun _ => 0) (.cons .ff (.cons (R.z 0) (.cons (R.z 0) .nil)))))))))))))) [(0, 1, (R.t 7)), (1, 1, (R.t 8)), (2, 1, (R.t 9))]),
    R.e (.store 14 (R.t 6) (R.t 10))])
  .ret))
def r9_Plain.rs : List RRes := [.cellA 6 14]
theorem r9_Plain.of {xs : List AV} {d : Nat} {B : BL} {K : ARes → BL → Prop} (hn : xs.length = 3) (hB : onlyOuter B = true) (h : awp ⟨PT, 11, exitX r9_Plain.rs K⟩ 10000 [.code r9_Plain.rc] ⟨params 0 xs, B, .nil⟩) : CallAt PT r9_Plain xs d B K :=
  call_of_awp 10000 Tryd.func8 rfl (by kernel_rfl) (by kernel_rfl) (by kernel_rfl) (by rw [hn]; decide) hB h
abbrev fs_Find : Nat := 9
def fs_Find.rc : RC :=
  (.seq (.reg [R.q 3 (.box (R.t 0)),
    R.q 4 (.box (R.t 1)),
    R.q 5 (.box (R.t 2)),
    R.q 6 (.mov (R.i 0)),
    R.q 7 (.mov (R.i 0))])
  (.seq (.reg [R.q 8 (.alloc (.cons (R.z 0) .nil)),
    R.e (.store 1 (R.t 8) (R.i 0))])
  (.seq (.reg [R.q 10 (.mkfn (.func 24) [] [(R.t 3), (R.t 4), (R.t 5), (R.t 8)]),
    R.q 11 (.call 23 [(R.t 10)]),
    R.q 9 (.mov (R.t 11))])
  (.seq (.seq (.reg [R.q 12 (.mov (R.t 9)),
    R.q 13 (.bin .neq .no (R.t 12) (R.i 0))])
  (.cond (R.t 13)
    (.seq (.reg [R.q 14 (.mov (R.t 9)),
      R.q 6 (.mov (R.i 0)),
      R.q 7 (.mov (R.t 14))])
    .ret)
    .skip))
  (.seq (.reg [R.q 15 (.load1 (R.t 8)),
    R.q 6 (.mov (R.t 15)),
    R.q 7 (.mov (R.i 0))])
  .ret)))))
def fs_Find.rs : List RRes := [.tmp 6, .tmp 7]
theorem fs_Find.of {xs : List AV} {d : Nat} {B : BL} {K : ARes → BL → Prop} (hn : xs.length = 3) (hB : onlyOuter B = true) (h : awp ⟨PT, 16, exitX fs_Find.rs K⟩ 10000 [.code fs_Find.rc] ⟨params 0 xs, B, .nil⟩) : CallAt PT fs_Find xs d B K :=
  call_of_awp 10000 Tryd.func9 rfl (by kernel_rfl) (by kernel_rfl) (by kernel_rfl) (by rw [hn]; decide) hB h
abbrev l1_Err : Nat := 10
def l1_Err.rc : RC :=
  (.seq (.reg [R.q 2 (.mov (R.i 0))])
  (.seq (.reg [R.q 3 (.mov (R.t 0)),
    R.q 2 (.mov (R.t 3))])
  .ret))
def l1_Err.rs : List RRes := [.tmp 2]
theorem l1_Err.of {xs : List AV} {d : Nat} {B : BL} {K : ARes → BL → Prop} (hn : xs.length = 1) (hB : onlyOuter B = true) (h : awp ⟨PT, 4, exitX l1_Err.rs K⟩ 10000 [.code l1_Err.rc] ⟨params 0 xs, B, .nil⟩) : CallAt PT l1_Err xs d B K :=
  call_of_awp 10000 Tryd.func10 rfl (by kernel_rfl) (by kernel_rfl) (by kernel_rfl) (by rw [hn]; decide) hB h
abbrev l19_awake : Nat := 11
def l19_awake.rc : RC :=
  (.seq (.reg [R.q 0 (.mov R.ff)])
  (.seq (.reg [R.q 6 (.call 26 [(R.i 10)]),
    R.q 1 (.alloc (.cons .nsl (.cons (R.z 0) (.cons (R.z 0) (.cons .nsl .nil))))),
    R.e (.store 4 (R.t 1) (R.t 6))])
  (.seq (.regd [R.f (R.q 8 (.loadA 4 (R.t 1))),
    R.s (R.q 9 (.call 7 [])) [0],
    R.s (R.q 10 (.call 9 [(R.t 8), (R.t 9), (.val (.str fun _ => []))])) [],
    R.f (R.q 7 (.mov (R.t 10))),
    R.f (R.q 11 (.ext 0 (R.t 7))),
    R.f (R.q 12 (.ext 1 (R.t 7))),
    R.s (R.q 2 (.mov (R.t 11))) [5],
    R.s (R.q 3 (.mov (R.t 12))) []])
  (.seq (.regd [R.f (R.q 14 (.loadA 4 (R.t 1))),
    R.f (R.q 16 (.build (.cons (R.z 0) (.cons (R.z 0) (.cons (R.z 0) (.cons (R.z 0) (.cons (R.z 0) (.cons (R.z 0) (.cons .nsl (.cons .nsl (.cons .nsl (.cons (R.z 0) (.cons (.int .u64 fun _ => 0) (.cons (.int .u64 fun _ => 0) (.cons .ff (.cons (R.z 0) (.cons (R.z 0) (.cons (.str fun _ => []) (.cons (.str fun _ => []) (.cons (R.z 0) (.cons (R.z 0) (.cons .nsl .nil)))))))))))))))))))) [(0, 1, (R.i 6))])),
    R.f (R.q 4 (.alloc (.cons .nsl (.cons (R.z 0) (.cons (R.z 0) (.cons .nsl .nil)))))),
    R.s (R.q 15 (.call 7 [])) [0, 1, 2],
    R.s (R.q 17 (.call 13 [(R.t 14), (R.t 15), (.val (.str fun _ => [97])), (R.t 16)])) [2],
    R.f (R.q 13 (.mov (R.t 17))),
    R.f (R.q 18 (.ext 0 (R.t 13))),
    R.f (R.q 19 (.ext 1 (R.t 13))),
    R.s (R.e (.store 4 (R.t 4) (R.t 18))) [7],
    R.s (R.q 5 (.mov (R.t 19))) []])
  (.seq (.reg [R.q 20 (.mov (R.t 2)),
    R.q 21 (.bin .eql .no (R.t 20) (R.i 0)),
    R.q 22 (.mov (R.t 21)),
    R.g 23 (.mov (R.t 3)) 22 true,
    R.g 24 (.call 10 [(R.t 23)]) 22 true,
    R.g 25 (.mov (R.t 5)) 22 true,
    R.g 26 (.call 10 [(R.t 25)]) 22 true,
    R.g 27 (.bin .add .no (R.t 24) (R.t 26)) 22 true,
    R.g 28 (.bin .eql .no (R.t 27) (R.i 0)) 22 true,
    R.q 29 (.pick (R.t 22) (R.t 28) R.ff),
    R.q 30 (.mov (R.t 29)),
    R.g 31 (.fld 0 (R.t 1)) 30 true,
    R.g 32 (.load1 (R.t 31)) 30 true,
    R.g 33 (.len (R.t 32)) 30 true,
    R.g 34 (.bin .eql .no (R.t 33) (R.i 1)) 30 true,
    R.q 35 (.pick (R.t 30) (R.t 34) R.ff),
    R.q 36 (.mov (R.t 35)),
    R.g 37 (.fld 0 (R.t 4)) 36 true,
    R.g 38 (.load1 (R.t 37)) 36 true,
    R.g 39 (.len (R.t 38)) 36 true,
    R.g 40 (.bin .eql .no (R.t 39) (R.i 2)) 36 true,
    R.q 41 (.pick (R.t 36) (R.t 40) R.ff),
    R.q 42 (.mov (R.t 41)),
    R.g 43 (.fld 1 (R.t 1)) 42 true,
    R.g 44 (.load1 (R.t 43)) 42 true,
    R.g 45 (.bin .eql .no (R.t 44) (R.i 10)) 42 true,
    R.q 46 (.pick (R.t 42) (R.t 45) R.ff),
    R.q 0 (.mov (R.t 46))])
  .ret)))))
def l19_awake.rs : List RRes := [.tmp 0]
theorem l19_awake.of {xs : List AV} {d : Nat} {B : BL} {K : ARes → BL → Prop} (hn : xs.length = 0) (hB : onlyOuter B = true) (h : awp ⟨PT, 47, exitX l19_awake.rs K⟩ 10000 [.code l19_awake.rc] ⟨params 0 xs, B, .nil⟩) : CallAt PT l19_awake xs d B K :=
  call_of_awp 10000 Tryd.func11 rfl (by kernel_rfl) (by kernel_rfl) (by kernel_rfl) (by rw [hn]; decide) hB h
abbrev r18_Chmod : Nat := 12
def r18_Chmod.rc : RC :=
  (.seq (.reg [R.q 4 (.box (R.t 0)),
    R.q 5 (.box (R.t 1)),
    R.q 8 (.alloc (.cons .nsl (.cons (R.z 0) (.cons (R.z 0) (.cons .nsl (.cons (R.z 0) .nil))))))])
  (.seq (.reg [R.q 15 (.loadA 4 (R.t 4)),
    R.q 16 (.loadA 4 (R.t 5)),
    R.q 17 (.mov (R.t 2)),
    R.q 18 (.mov (R.t 3)),
    R.q 19 (.bin .geq .no (R.t 18) (R.i 0)),
    R.q 20 (.mov (R.t 19)),
    R.g 21 (.mov (R.t 3)) 20 true,
    R.g 22 (.bin .leq .no (R.t 21) (R.i 4095)) 20 true,
    R.q 23 (.pick (R.t 20) (R.t 22) R.ff),
    R.q 24 (.call 27 [(R.t 15), (R.t 16), (R.t 17), (R.t 23)]),
    R.q 9 (.alloc (.cons .nsl (.cons (R.z 0) (.cons (R.z 0) (.cons .nsl (.cons (R.z 0) (.cons (R.z 0) (.cons (R.z 0) (.cons (R.z 0) (.cons (R.z 0) (.cons (R.z 0) (.cons (R.z 0) (.cons .nsl (.cons .nsl (.cons .nsl (.cons (R.z 0) (.cons (.int .u64 fun _ => 0) (.cons (.int .u64 fun _ => 0) (.cons .ff (.cons (R.z 0) (.cons (R.z 0) (.cons (.str fun _ => []) (.cons (.str fun _ => []) (.cons (R.z 0) (.cons (R.z 0) (.cons .nsl (.cons (R.z 0) .nil))))))))))))))))))))))))))),
    R.e (.store 26 (R.t 9) (R.t 24))])
  (.seq (.seq (.reg [R.q 25 (.fld 25 (R.t 9)),
    R.q 26 (.load1 (R.t 25)),
    R.q 27 (.bin .neq .no (R.t 26) (R.i 0))])
  (.cond (R.t 27)
    (.seq (.reg [R.q 28 (.fld 0 (R.t 9)),
      R.q 29 (.loadA 4 (R.t 28)),
      R.q 30 (.fld 25 (R.t 9)),
      R.q 31 (.load1 (R.t 30)),
      R.q 32 (.call 16 [(R.t 29), (R.t 31)]),
      R.e (.store 5 (R.t 8) (R.t 32))])
    .ret)
    .skip))
  (.seq (.reg [R.q 33 (.fld 5 (R.t 9)),
    R.q 34 (.loadA 20 (R.t 33)),
    R.q 10 (.alloc (.cons (R.z 0) (.cons (R.z 0) (.cons (R.z 0) (.cons (R.z 0) (.cons (R.z 0) (.cons (R.z 0) (.cons .nsl (.cons .nsl (.cons .nsl (.cons (R.z 0) (.cons (.int .u64 fun _ => 0) (.cons (.int .u64 fun _ => 0) (.cons .ff (.cons (R.z 0) (.cons (R.z 0) (.cons (.str fun _ => []) (.cons (.str fun _ => []) (.cons (R.z 0) (.cons (R.z 0) (.cons .nsl .nil))))))))))))))))))))),
    R.e (.store 20 (R.t 10) (R.t 34))])
  (.seq (.reg [R.q 35 (.mov (R.t 3)),
    R.q 36 (.fld 1 (R.t 10)),
    R.q 37 (.fld 0 (R.t 36)),
    R.e (.store 1 (R.t 37) (R.t 35))])
  (.seq (.seq (.reg [R.q 38 (.fld 0 (R.t 10)),
    R.q 39 (.load1 (R.t 38)),
    R.q 40 (.bin .eql .no (R.t 39) (R.i 1)),
    R.q 41 (.mov (R.t 40)),
    R.g 42 (.loadA 4 (R.t 5)) 41 true,
    R.g 43 (.fld 1 (R.t 10)) 41 true,
    R.g 44 (.fld 2 (R.t 43)) 41 true,
    R.g 45 (.load1 (R.t 44)) 41 true,
    R.g 46 (.call 28 [(R.t 42), (R.t 45)]) 41 true,
    R.g 47 (.un .not (R.t 46)) 41 true,
    R.q 48 (.pick (R.t 41) (R.t 47) R.ff),
    R.q 49 (.mov (R.t 48)),
    R.g 50 (.loadA 4 (R.t 5)) 49 true,
    R.g 51 (.call 21 [(R.t 50), (R.i 4)]) 49 true,
    R.g 52 (.un .not (R.t 51)) 49 true,
    R.q 53 (.pick (R.t 49) (R.t 52) R.ff)])
  (.cond (R.t 53)
    (.reg [R.q 54 (.mov (R.t 3)),
      R.q 55 (.bin .andNot .no (R.t 54) (R.i 1024)),
      R.q 56 (.fld 1 (R.t 10)),
      R.q 57 (.fld 0 (R.t 56)),
      R.e (.store 1 (R.t 57) (R.t 55))])
    .skip))
  (.seq (.reg [R.q 58 (.fld 1 (R.t 10)),
    R.q 59 (.fld 5 (R.t 58)),
    R.q 60 (.load1 (R.t 59)),
    R.q 61 (.call 29 [(R.t 60), (R.i 5)]),
    R.q 62 (.bin .geq .no (R.t 61) (R.i 0)),
    R.q 11 (.mov (R.t 62))])
  (.seq (.reg [R.q 12 (.mov (.val .nsl))])
  (.seq (.seq (.reg [R.q 13 (.mov (R.i 0))])
  (.block 0 (.loop
     (.seq (.seq (.reg [R.q 63 (.mov (R.t 13)),
       R.q 64 (.fld 1 (R.t 10)),
       R.q 65 (.fld 5 (R.t 64)),
       R.q 66 (.load1 (R.t 65)),
       R.q 67 (.len (R.t 66)),
       R.q 68 (.bin .lss .no (R.t 63) (R.t 67))])
     (.cond (R.t 68)
       .skip
       (.exit 0)))
     (.seq (.block 1 (.seq (.reg [R.q 71 (.fld 1 (R.t 10)),
        R.q 72 (.fld 5 (R.t 71)),
        R.q 73 (.load1 (R.t 72)),
        R.q 74 (.mov (R.t 13)),
        R.q 75 (.idx 3 (R.t 73) (R.t 74)),
        R.q 76 (.loadA 3 (R.t 75)),
        R.q 14 (.alloc (.cons (R.z 0) (.cons (R.z 0) (.cons (R.z 0) .nil)))),
        R.e (.store 3 (R.t 14) (R.t 76))])
      (.seq (.block 2 (.seq (.reg [R.q 78 (.fld 0 (R.t 14)),
         R.q 79 (.load1 (R.t 78)),
         R.q 80 (.bin .eql .no (R.t 79) (R.i 1)),
         R.q 77 (.mov (R.t 80))])
       (.cond (R.t 77)
         (.reg [R.q 81 (.mov (R.t 3)),
           R.q 82 (.bin .shr .no (R.t 81) (.val (.int .u64 fun _ => 6))),
           R.q 83 (.bin .and .no (R.t 82) (R.i 7)),
           R.q 84 (.fld 2 (R.t 14)),
           R.e (.store 1 (R.t 84) (R.t 83))])
         (.seq (.seq (.reg [R.q 86 (.fld 0 (R.t 14)),
           R.q 87 (.load1 (R.t 86)),
           R.q 88 (.bin .eql .no (R.t 87) (R.i 5)),
           R.q 85 (.mov (R.t 88))])
         (.cond (R.t 85)
           .skip
           (.reg [R.q 89 (.fld 0 (R.t 14)),
             R.q 90 (.load1 (R.t 89)),
             R.q 91 (.bin .eql .no (R.t 90) (R.i 3)),
             R.q 92 (.mov (R.t 91)),
             R.g 93 (.mov (R.t 11)) 92 true,
             R.g 94 (.un .not (R.t 93)) 92 true,
             R.q 95 (.pick (R.t 92) (R.t 94) R.ff),
             R.q 85 (.mov (R.t 95))])))
         (.cond (R.t 85)
           (.reg [R.q 96 (.mov (R.t 3)),
             R.q 97 (.bin .shr .no (R.t 96) (.val (.int .u64 fun _ => 3))),
             R.q 98 (.bin .and .no (R.t 97) (R.i 7)),
             R.q 99 (.fld 2 (R.t 14)),
             R.e (.store 1 (R.t 99) (R.t 98))])
           (.seq (.reg [R.q 101 (.fld 0 (R.t 14)),
             R.q 102 (.load1 (R.t 101)),
             R.q 103 (.bin .eql .no (R.t 102) (R.i 6)),
             R.q 100 (.mov (R.t 103))])
           (.cond (R.t 100)
             (.reg [R.q 104 (.mov (R.t 3)),
               R.q 105 (.bin .and .no (R.t 104) (R.i 7)),
               R.q 106 (.fld 2 (R.t 14)),
               R.e (.store 1 (R.t 106) (R.t 105))])
             .skip)))))))
      (.reg [R.q 107 (.mov (R.t 12)),
        R.q 108 (.loadA 3 (R.t 14)),
        R.q 109 (.bslice 3 (.cons (R.z 0) (.cons (R.z 0) (.cons (R.z 0) .nil))) 1 [(0, 3, (R.t 108))]),
        R.q 110 (.append 3 24 (R.t 107) (R.t 109)),
        R.q 12 (.mov (R.t 110))]))))
     (.reg [R.q 69 (.mov (R.t 13)),
       R.q 70 (.bin .add .no (R.t 69) (R.i 1)),
       R.q 13 (.mov (R.t 70))]))))))
  (.seq (.reg [R.q 111 (.mov (R.t 12)),
    R.q 112 (.fld 1 (R.t 10)),
    R.q 113 (.fld 5 (R.t 112)),
    R.e (.store 1 (R.t 113) (R.t 111))])
  (.seq (.regd [R.f (R.q 114 (.loadA 26 (R.t 9))),
    R.f (R.q 115 (.fld 0 (R.t 10))),
    R.f (R.q 116 (.load1 (R.t 115))),
    R.f (R.q 117 (.bin .neq .no (R.t 116) (R.i 3))),
    R.f (R.q 118 (.fld 1 (R.t 10))),
    R.f (R.q 119 (.loadA 14 (R.t 118))),
    R.f (R.q 120 (.loadA 4 (R.t 5))),
    R.f (R.q 122 (.loadA 20 (R.t 10))),
    R.s (R.q 121 (.call 31 [(R.t 119), (R.t 120)])) [0, 1, 2, 3, 7],
    R.s (R.q 123 (.call 30 [(R.t 114), (R.t 117), (R.t 121), (R.t 122)])) [],
    R.s (R.e (.store 5 (R.t 8) (R.t 123))) []])
  .ret)))))))))))
def r18_Chmod.rs : List RRes := [.cellA 8 5]
theorem r18_Chmod.of {xs : List AV} {d : Nat} {B : BL} {K : ARes → BL → Prop} (hn : xs.length = 4) (hB : onlyOuter B = true) (h : awp ⟨PT, 124, exitX r18_Chmod.rs K⟩ 10000 [.code r18_Chmod.rc] ⟨params 0 xs, B, .nil⟩) : CallAt PT r18_Chmod xs d B K :=
  call_of_awp 10000 Tryd.func12 rfl (by kernel_rfl) (by kernel_rfl) (by kernel_rfl) (by rw [hn]; decide) hB h
abbrev fs_Make : Nat := 13
def fs_Make.rc : RC :=
  (.seq (.reg [R.q 4 (.box (R.t 0)),
    R.q 5 (.box (R.t 1)),
    R.q 6 (.box (R.t 2)),
    R.q 7 (.box (R.t 3)),
    R.q 8 (.alloc (.cons .nsl (.cons (R.z 0) (.cons (R.z 0) (.cons .nsl .nil))))),
    R.q 9 (.mov (R.i 0))])
  (.seq (.regd [R.f (R.q 10 (.loadA 4 (R.t 4))),
    R.f (R.q 11 (.loadA 4 (R.t 5))),
    R.f (R.q 12 (.load1 (R.t 6))),
    R.f (R.q 13 (.bin .neq .no (R.t 12) (.val (.str fun _ => [])))),
    R.f (R.q 14 (.mov (R.t 13))),
    R.f (R.g 15 (.loadA 20 (R.t 7)) 14 true),
    R.f (R.q 18 (.mkfn (.func 34) [] [(R.t 6), (R.t 7), (R.t 5)])),
    R.f (R.q 19 (.load1 (R.t 6))),
    R.f (R.q 20 (.bslice 1 (.cons (.str fun _ => []) .nil) 1 [(0, 1, (R.t 19))])),
    R.s (R.g 16 (.call 33 [(R.t 15)]) 14 true) [0, 1, 6, 7, 8],
    R.f (R.q 17 (.pick (R.t 14) (R.t 16) R.ff)),
    R.s (R.q 21 (.call 32 [(R.t 10), (R.t 11), (R.t 17), (R.t 18), (R.t 20)])) [],
    R.f (R.q 22 (.ext 0 (R.t 21))),
    R.f (R.q 23 (.ext 1 (R.t 21))),
    R.s (R.e (.store 4 (R.t 8) (R.t 22))) [],
    R.s (R.q 9 (.mov (R.t 23))) []])
  .ret))
def fs_Make.rs : List RRes := [.cellA 8 4, .tmp 9]
theorem fs_Make.of {xs : List AV} {d : Nat} {B : BL} {K : ARes → BL → Prop} (hn : xs.length = 4) (hB : onlyOuter B = true) (h : awp ⟨PT, 24, exitX fs_Make.rs K⟩ 10000 [.code fs_Make.rc] ⟨params 0 xs, B, .nil⟩) : CallAt PT fs_Make xs d B K :=
  call_of_awp 10000 Tryd.func13 rfl (by kernel_rfl) (by kernel_rfl) (by kernel_rfl) (by rw [hn]; decide) hB h
abbrev r18_Parts : Nat := 14
def r18_Parts.rc : RC :=
  (.seq (.reg [R.q 2 (.alloc (.cons .nsl (.cons .ff .nil)))])
  (.seq (.seq (.reg [R.q 3 (.mov (R.t 0)),
    R.q 4 (.bin .eql .no (R.t 3) (.val (.str fun _ => [])))])
  (.cond (R.t 4)
    (.seq (.reg [R.q 5 (.build (.cons .nsl (.cons .ff .nil)) [(1, 1, R.tt)]),
      R.e (.store 2 (R.t 2) (R.t 5))])
    .ret)
    .skip))
  (.seq (.seq (.reg [R.q 6 (.mov (R.t 0)),
    R.q 7 (.call 42 [(R.t 6)]),
    R.q 8 (.un .not (R.t 7))])
  (.cond (R.t 8)
    (.seq (.reg [R.q 9 (.build (.cons .nsl (.cons .ff .nil)) []),
      R.e (.store 2 (R.t 2) (R.t 9))])
    .ret)
    .skip))
  (.seq (.reg [R.q 10 (.mov (R.t 0)),
    R.q 11 (.call 43 [(R.t 10)]),
    R.q 12 (.build (.cons .nsl (.cons .ff .nil)) [(0, 1, (R.t 11)), (1, 1, R.tt)]),
    R.e (.store 2 (R.t 2) (R.t 12))])
  .ret))))
def r18_Parts.rs : List RRes := [.cellA 2 2]
theorem r18_Parts.of {xs : List AV} {d : Nat} {B : BL} {K : ARes → BL → Prop} (hn : xs.length = 1) (hB : onlyOuter B = true) (h : awp ⟨PT, 13, exitX r18_Parts.rs K⟩ 10000 [.code r18_Parts.rc] ⟨params 0 xs, B, .nil⟩) : CallAt PT r18_Parts xs d B K :=
  call_of_awp 10000 Tryd.func14 rfl (by kernel_rfl) (by kernel_rfl) (by kernel_rfl) (by rw [hn]; decide) hB h
abbrev r15_MayBody : Nat := 15
def r15_MayBody.rc : RC :=
  (.seq (.reg [R.q 10 (.mov R.ff)])
  (.seq (.seq (.reg [R.q 12 (.mov (R.t 1)),
    R.q 13 (.lenS (R.t 12)),
    R.q 14 (.bin .gtr .no (R.t 13) (R.i 65536)),
    R.q 15 (.mov (R.t 14)),
    R.g 16 (.mov (R.t 0)) 15 false,
    R.g 17 (.bin .neq .no (R.t 16) (R.i 1)) 15 false,
    R.g 18 (.mov (R.t 17)) 15 false,
    R.g 19 (.mov (R.t 1)) 18 true,
    R.g 20 (.bin .neq .no (R.t 19) (.val (.str fun _ => []))) 18 true,
    R.g 21 (.pick (R.t 18) (R.t 20) R.ff) 15 false,
    R.q 22 (.pick (R.t 15) R.tt (R.t 21)),
    R.q 23 (.mov (R.t 22)),
    R.g 24 (.mov (R.t 3)) 23 false,
    R.g 25 (.bin .lss .no (R.t 24) (R.i 0)) 23 false,
    R.q 26 (.pick (R.t 23) R.tt (R.t 25)),
    R.q 27 (.mov (R.t 26)),
    R.g 28 (.mov (R.t 3)) 27 false,
    R.g 29 (.bin .gtr .no (R.t 28) (R.i 2097151)) 27 false,
    R.q 30 (.pick (R.t 27) R.tt (R.t 29)),
    R.q 31 (.mov (R.t 30)),
    R.g 32 (.mov (R.t 4)) 31 false,
    R.g 33 (.bin .lss .no (R.t 32) (R.i 0)) 31 false,
    R.q 34 (.pick (R.t 31) R.tt (R.t 33)),
    R.q 35 (.mov (R.t 34)),
    R.g 36 (.mov (R.t 4)) 35 false,
    R.g 37 (.bin .gtr .no (R.t 36) (R.i 2097151)) 35 false,
    R.q 38 (.pick (R.t 35) R.tt (R.t 37)),
    R.q 39 (.mov (R.t 38)),
    R.g 40 (.mov (R.t 0)) 39 false,
    R.g 41 (.call 44 [(R.t 40)]) 39 false,
    R.g 42 (.un .not (R.t 41)) 39 false,
    R.g 43 (.mov (R.t 42)) 39 false,
    R.g 44 (.mov (R.t 3)) 43 true,
    R.g 45 (.mov (R.t 4)) 43 true,
    R.g 46 (.bin .add .no (R.t 44) (R.t 45)) 43 true,
    R.g 47 (.bin .neq .no (R.t 46) (R.i 0)) 43 true,
    R.g 48 (.pick (R.t 43) (R.t 47) R.ff) 39 false,
    R.q 49 (.pick (R.t 39) R.tt (R.t 48))])
  (.cond (R.t 49)
    (.seq (.reg [R.q 10 (.mov R.ff)])
    .ret)
    .skip))
  (.seq (.seq (.reg [R.q 50 (.mov (R.t 0))])
  (.block 0 (.seq (.reg [R.q 52 (.bin .eql .no (R.t 50) (R.i 2)),
     R.q 51 (.mov (R.t 52))])
   (.cond (R.t 51)
     (.seq (.reg [R.q 53 (.mov (R.t 2)),
       R.q 54 (.call 42 [(R.t 53)]),
       R.q 10 (.mov (R.t 54))])
     .ret)
     (.seq (.reg [R.q 56 (.bin .eql .no (R.t 50) (R.i 3)),
       R.q 55 (.mov (R.t 56))])
     (.cond (R.t 55)
       (.seq (.seq (.reg [R.q 57 (.mov (R.t 2)),
         R.q 58 (.lenS (R.t 57)),
         R.q 59 (.bin .eql .no (R.t 58) (R.i 0)),
         R.q 60 (.mov (R.t 59)),
         R.g 61 (.mov (R.t 2)) 60 false,
         R.g 62 (.lenS (R.t 61)) 60 false,
         R.g 63 (.bin .gtr .no (R.t 62) (R.i 4096)) 60 false,
         R.q 64 (.pick (R.t 60) R.tt (R.t 63))])
       (.cond (R.t 64)
         (.seq (.reg [R.q 10 (.mov R.ff)])
         .ret)
         .skip))
       (.seq (.seq (.reg [R.q 11 (.mov (R.i 0))])
       (.block 1 (.loop
          (.seq (.seq (.reg [R.q 65 (.mov (R.t 11)),
            R.q 66 (.mov (R.t 2)),
            R.q 67 (.lenS (R.t 66)),
            R.q 68 (.bin .lss .no (R.t 65) (R.t 67))])
          (.cond (R.t 68)
            .skip
            (.exit 1)))
          (.seq (.block 2 (.seq (.reg [R.q 71 (.mov (R.t 2)),
             R.q 72 (.mov (R.t 11)),
             R.q 73 (.idxS (R.t 71) (R.t 72)),
             R.q 74 (.bin .eql .no (R.t 73) (R.u 0))])
           (.cond (R.t 74)
             (.seq (.reg [R.q 10 (.mov R.ff)])
             .ret)
             .skip)))
          (.reg [R.q 69 (.mov (R.t 11)),
            R.q 70 (.bin .add .no (R.t 69) (R.i 1)),
            R.q 11 (.mov (R.t 70))]))))))
       (.seq (.reg [R.q 10 (.mov R.tt)])
       .ret)))
       .skip))))))
  (.seq (.reg [R.q 75 (.mov (R.t 2)),
    R.q 76 (.bin .eql .no (R.t 75) (.val (.str fun _ => []))),
    R.q 10 (.mov (R.t 76))])
  .ret))))
def r15_MayBody.rs : List RRes := [.tmp 10]
theorem r15_MayBody.of {xs : List AV} {d : Nat} {B : BL} {K : ARes → BL → Prop} (hn : xs.length = 5) (hB : onlyOuter B = true) (h : awp ⟨PT, 77, exitX r15_MayBody.rs K⟩ 10000 [.code r15_MayBody.rc] ⟨params 0 xs, B, .nil⟩) : CallAt PT r15_MayBody xs d B K :=
  call_of_awp 10000 Tryd.func15 rfl (by kernel_rfl) (by kernel_rfl) (by kernel_rfl) (by rw [hn]; decide) hB h
abbrev r18_refused : Nat := 16
def r18_refused.rc : RC :=
  (.seq (.reg [R.q 2 (.box (R.t 0)),
    R.q 4 (.alloc (.cons .nsl (.cons (R.z 0) (.cons (R.z 0) (.cons .nsl (.cons (R.z 0) .nil))))))])
  (.seq (.reg [R.q 5 (.loadA 4 (R.t 2)),
    R.q 6 (.mov (R.t 1)),
    R.q 7 (.build (.cons .nsl (.cons (R.z 0) (.cons (R.z 0) (.cons .nsl (.cons (R.z 0) .nil))))) [(0, 4, (R.t 5)), (4, 1, (R.t 6))]),
    R.e (.store 5 (R.t 4) (R.t 7))])
  .ret))
def r18_refused.rs : List RRes := [.cellA 4 5]
theorem r18_refused.of {xs : List AV} {d : Nat} {B : BL} {K : ARes → BL → Prop} (hn : xs.length = 2) (hB : onlyOuter B = true) (h : awp ⟨PT, 8, exitX r18_refused.rs K⟩ 10000 [.code r18_refused.rc] ⟨params 0 xs, B, .nil⟩) : CallAt PT r18_refused xs d B K :=
  call_of_awp 10000 Tryd.func16 rfl (by kernel_rfl) (by kernel_rfl) (by kernel_rfl) (by rw [hn]; decide) hB h
abbrev r18_asked : Nat := 17
def r18_asked.rc : RC :=
  (.seq (.reg [R.q 1 (.box (R.t 0)),
    R.q 2 (.alloc (.cons .nsl (.cons (R.z 0) (.cons (R.z 0) (.cons .nsl (.cons (R.z 0) .nil))))))])
  (.seq (.reg [R.q 4 (.fld 2 (R.t 1)),
    R.q 5 (.load1 (R.t 4)),
    R.q 6 (.bin .add .no (R.t 5) (R.i 1)),
    R.q 7 (.fld 2 (R.t 1)),
    R.e (.store 1 (R.t 7) (R.t 6))])
  (.seq (.seq (.reg [R.q 3 (.mov (R.i 0))])
  (.block 0 (.loop
     (.seq (.seq (.reg [R.q 8 (.mov (R.t 3)),
       R.q 9 (.fld 3 (R.t 1)),
       R.q 10 (.load1 (R.t 9)),
       R.q 11 (.len (R.t 10)),
       R.q 12 (.bin .lss .no (R.t 8) (R.t 11))])
     (.cond (R.t 12)
       .skip
       (.exit 0)))
     (.seq (.block 1 (.seq (.regd [R.f (R.q 15 (.fld 3 (R.t 1))),
        R.f (R.q 16 (.load1 (R.t 15))),
        R.f (R.q 17 (.mov (R.t 3))),
        R.f (R.q 18 (.idx 1 (R.t 16) (R.t 17))),
        R.f (R.q 19 (.load1 (R.t 18))),
        R.f (R.q 20 (.fld 2 (R.t 1))),
        R.f (R.q 21 (.load1 (R.t 20))),
        R.f (R.q 22 (.bin .eql .no (R.t 19) (R.t 21)))])
      (.cond (R.t 22)
        (.seq (.reg [R.q 23 (.loadA 4 (R.t 1)),
          R.q 24 (.build (.cons .nsl (.cons (R.z 0) (.cons (R.z 0) (.cons .nsl (.cons (R.z 0) .nil))))) [(0, 4, (R.t 23)), (4, 1, (R.i 8))]),
          R.e (.store 5 (R.t 2) (R.t 24))])
        .ret)
        .skip)))
     (.reg [R.q 13 (.mov (R.t 3)),
       R.q 14 (.bin .add .no (R.t 13) (R.i 1)),
       R.q 3 (.mov (R.t 14))]))))))
  (.seq (.reg [R.q 25 (.loadA 4 (R.t 1)),
    R.q 26 (.build (.cons .nsl (.cons (R.z 0) (.cons (R.z 0) (.cons .nsl (.cons (R.z 0) .nil))))) [(0, 4, (R.t 25))]),
    R.e (.store 5 (R.t 2) (R.t 26))])
  .ret))))
def r18_asked.rs : List RRes := [.cellA 2 5]
theorem r18_asked.of {xs : List AV} {d : Nat} {B : BL} {K : ARes → BL → Prop} (hn : xs.length = 1) (hB : onlyOuter B = true) (h : awp ⟨PT, 27, exitX r18_asked.rs K⟩ 10000 [.code r18_asked.rc] ⟨params 0 xs, B, .nil⟩) : CallAt PT r18_asked xs d B K :=
  call_of_awp 10000 Tryd.func17 rfl (by kernel_rfl) (by kernel_rfl) (by kernel_rfl) (by rw [hn]; decide) hB h
abbrev r18_down : Nat := 18
def r18_down.rc : RC :=
  (.seq (.reg [R.q 3 (.box (R.t 0)),
    R.q 4 (.box (R.t 1)),
    R.q 6 (.alloc (.cons (R.z 0) (.cons (R.z 0) .nil)))])
  (.seq (.reg [R.q 7 (.mov (R.i 0))])
  (.seq (.seq (.reg [R.q 8 (.mov (R.i 0))])
  (.block 0 (.loop
     (.seq (.seq (.reg [R.q 10 (.mov (R.t 8)),
       R.q 11 (.mov (R.t 2)),
       R.q 12 (.len (R.t 11)),
       R.q 13 (.bin .lss .no (R.t 10) (R.t 12))])
     (.cond (R.t 13)
       .skip
       (.exit 0)))
     (.seq (.block 1 (.seq (.reg [R.q 16 (.fld 0 (R.t 3)),
        R.q 17 (.load1 (R.t 16)),
        R.q 18 (.mov (R.t 7)),
        R.q 19 (.idx 20 (R.t 17) (R.t 18)),
        R.q 20 (.loadA 20 (R.t 19)),
        R.q 9 (.alloc (.cons (R.z 0) (.cons (R.z 0) (.cons (R.z 0) (.cons (R.z 0) (.cons (R.z 0) (.cons (R.z 0) (.cons .nsl (.cons .nsl (.cons .nsl (.cons (R.z 0) (.cons (.int .u64 fun _ => 0) (.cons (.int .u64 fun _ => 0) (.cons .ff (.cons (R.z 0) (.cons (R.z 0) (.cons (.str fun _ => []) (.cons (.str fun _ => []) (.cons (R.z 0) (.cons (R.z 0) (.cons .nsl .nil))))))))))))))))))))),
        R.e (.store 20 (R.t 9) (R.t 20))])
      (.seq (.seq (.reg [R.q 21 (.fld 0 (R.t 9)),
        R.q 22 (.load1 (R.t 21)),
        R.q 23 (.bin .neq .no (R.t 22) (R.i 6))])
      (.cond (R.t 23)
        (.seq (.reg [R.q 24 (.build (.cons (R.z 0) (.cons (R.z 0) .nil)) [(1, 1, (R.i 10))]),
          R.e (.store 2 (R.t 6) (R.t 24))])
        .ret)
        .skip))
      (.seq (.seq (.reg [R.q 25 (.fld 1 (R.t 9)),
        R.q 26 (.loadA 14 (R.t 25)),
        R.q 27 (.loadA 4 (R.t 4)),
        R.q 28 (.call 45 [(R.t 26), (R.t 27), (R.i 1)]),
        R.q 29 (.un .not (R.t 28))])
      (.cond (R.t 29)
        (.seq (.reg [R.q 30 (.build (.cons (R.z 0) (.cons (R.z 0) .nil)) [(1, 1, (R.i 7))]),
          R.e (.store 2 (R.t 6) (R.t 30))])
        .ret)
        .skip))
      (.seq (.regd [R.f (R.q 31 (.loadA 20 (R.t 9))),
        R.f (R.q 32 (.mov (R.t 2))),
        R.f (R.q 33 (.mov (R.t 8))),
        R.f (R.q 34 (.idx 1 (R.t 32) (R.t 33))),
        R.f (R.q 35 (.load1 (R.t 34))),
        R.s (R.q 36 (.call 20 [(R.t 31), (R.t 35)])) [],
        R.s (R.q 7 (.mov (R.t 36))) []])
      (.seq (.reg [R.q 37 (.mov (R.t 7)),
        R.q 38 (.bin .lss .no (R.t 37) (R.i 0))])
      (.cond (R.t 38)
        (.seq (.reg [R.q 39 (.build (.cons (R.z 0) (.cons (R.z 0) .nil)) [(1, 1, (R.i 2))]),
          R.e (.store 2 (R.t 6) (R.t 39))])
        .ret)
        .skip)))))))
     (.reg [R.q 14 (.mov (R.t 8)),
       R.q 15 (.bin .add .no (R.t 14) (R.i 1)),
       R.q 8 (.mov (R.t 15))]))))))
  (.seq (.reg [R.q 40 (.mov (R.t 7)),
    R.q 41 (.build (.cons (R.z 0) (.cons (R.z 0) .nil)) [(0, 1, (R.t 40))]),
    R.e (.store 2 (R.t 6) (R.t 41))])
  .ret))))
def r18_down.rs : List RRes := [.cellA 6 2]
theorem r18_down.of {xs : List AV} {d : Nat} {B : BL} {K : ARes → BL → Prop} (hn : xs.length = 3) (hB : onlyOuter B = true) (h : awp ⟨PT, 42, exitX r18_down.rs K⟩ 10000 [.code r18_down.rc] ⟨params 0 xs, B, .nil⟩) : CallAt PT r18_down xs d B K :=
  call_of_awp 10000 Tryd.func18 rfl (by kernel_rfl) (by kernel_rfl) (by kernel_rfl) (by rw [hn]; decide) hB h
abbrev r18_write : Nat := 19
def r18_write.rc : RC :=
  (.seq (.reg [R.q 2 (.box (R.t 0)),
    R.q 3 (.box (R.t 1)),
    R.q 4 (.mov R.ff)])
  (.seq (.reg [R.q 5 (.loadA 14 (R.t 2)),
    R.q 6 (.loadA 4 (R.t 3)),
    R.q 7 (.call 45 [(R.t 5), (R.t 6), (R.i 3)]),
    R.q 8 (.mov (R.t 7)),
    R.g 9 (.fld 13 (R.t 2)) 8 true,
    R.g 10 (.load1 (R.t 9)) 8 true,
    R.g 11 (.bin .and .no (R.t 10) (R.i 1)) 8 true,
    R.g 12 (.bin .eql .no (R.t 11) (R.i 0)) 8 true,
    R.q 13 (.pick (R.t 8) (R.t 12) R.ff),
    R.q 4 (.mov (R.t 13))])
  .ret))
def r18_write.rs : List RRes := [.tmp 4]
theorem r18_write.of {xs : List AV} {d : Nat} {B : BL} {K : ARes → BL → Prop} (hn : xs.length = 2) (hB : onlyOuter B = true) (h : awp ⟨PT, 14, exitX r18_write.rs K⟩ 10000 [.code r18_write.rc] ⟨params 0 xs, B, .nil⟩) : CallAt PT r18_write xs d B K :=
  call_of_awp 10000 Tryd.func19 rfl (by kernel_rfl) (by kernel_rfl) (by kernel_rfl) (by rw [hn]; decide) hB h
abbrev r18_kid : Nat := 20
def r18_kid.rc : RC :=
  (.seq (.reg [R.q 2 (.box (R.t 0)),
    R.q 4 (.mov (R.i 0))])
  (.seq (.seq (.reg [R.q 5 (.mov (R.i 0))])
  (.block 0 (.loop
     (.seq (.seq (.reg [R.q 6 (.mov (R.t 5)),
       R.q 7 (.fld 19 (R.t 2)),
       R.q 8 (.load1 (R.t 7)),
       R.q 9 (.len (R.t 8)),
       R.q 10 (.bin .lss .no (R.t 6) (R.t 9))])
     (.cond (R.t 10)
       .skip
       (.exit 0)))
     (.seq (.block 1 (.seq (.reg [R.q 13 (.fld 19 (R.t 2)),
        R.q 14 (.load1 (R.t 13)),
        R.q 15 (.mov (R.t 5)),
        R.q 16 (.idx 2 (R.t 14) (R.t 15)),
        R.q 17 (.fld 0 (R.t 16)),
        R.q 18 (.load1 (R.t 17)),
        R.q 19 (.mov (R.t 1)),
        R.q 20 (.bin .eql .no (R.t 18) (R.t 19))])
      (.cond (R.t 20)
        (.seq (.reg [R.q 21 (.fld 19 (R.t 2)),
          R.q 22 (.load1 (R.t 21)),
          R.q 23 (.mov (R.t 5)),
          R.q 24 (.idx 2 (R.t 22) (R.t 23)),
          R.q 25 (.fld 1 (R.t 24)),
          R.q 26 (.load1 (R.t 25)),
          R.q 4 (.mov (R.t 26))])
        .ret)
        .skip)))
     (.reg [R.q 11 (.mov (R.t 5)),
       R.q 12 (.bin .add .no (R.t 11) (R.i 1)),
       R.q 5 (.mov (R.t 12))]))))))
  (.seq (.reg [R.q 4 (.mov (R.i (-1)))])
  .ret)))
def r18_kid.rs : List RRes := [.tmp 4]
theorem r18_kid.of {xs : List AV} {d : Nat} {B : BL} {K : ARes → BL → Prop} (hn : xs.length = 2) (hB : onlyOuter B = true) (h : awp ⟨PT, 27, exitX r18_kid.rs K⟩ 10000 [.code r18_kid.rc] ⟨params 0 xs, B, .nil⟩) : CallAt PT r18_kid xs d B K :=
  call_of_awp 10000 Tryd.func20 rfl (by kernel_rfl) (by kernel_rfl) (by kernel_rfl) (by rw [hn]; decide) hB h
abbrev r18_has : Nat := 21
def r18_has.rc : RC :=
  (.seq (.reg [R.q 2 (.box (R.t 0)),
    R.q 4 (.mov R.ff)])
  (.seq (.reg [R.q 5 (.fld 3 (R.t 2)),
    R.q 6 (.load1 (R.t 5)),
    R.q 7 (.mov (R.t 1)),
    R.q 8 (.bin .and .no (R.t 6) (R.t 7)),
    R.q 9 (.bin .neq .no (R.t 8) (R.i 0)),
    R.q 4 (.mov (R.t 9))])
  .ret))
def r18_has.rs : List RRes := [.tmp 4]
theorem r18_has.of {xs : List AV} {d : Nat} {B : BL} {K : ARes → BL → Prop} (hn : xs.length = 2) (hB : onlyOuter B = true) (h : awp ⟨PT, 10, exitX r18_has.rs K⟩ 10000 [.code r18_has.rc] ⟨params 0 xs, B, .nil⟩) : CallAt PT r18_has xs d B K :=
  call_of_awp 10000 Tryd.func21 rfl (by kernel_rfl) (by kernel_rfl) (by kernel_rfl) (by rw [hn]; decide) hB h
abbrev r18_put : Nat := 22
def r18_put.rc : RC :=
  (.seq (.reg [R.q 3 (.box (R.t 0)),
    R.q 6 (.alloc (.cons (R.z 0) (.cons (R.z 0) (.cons (R.z 0) (.cons (R.z 0) (.cons (R.z 0) (.cons (R.z 0) (.cons .nsl (.cons .nsl (.cons .nsl (.cons (R.z 0) (.cons (.int .u64 fun _ => 0) (.cons (.int .u64 fun _ => 0) (.cons .ff (.cons (R.z 0) (.cons (R.z 0) (.cons (.str fun _ => []) (.cons (.str fun _ => []) (.cons (R.z 0) (.cons (R.z 0) (.cons .nsl .nil)))))))))))))))))))))])
  (.seq (.reg [R.q 7 (.mov (.val .nsl))])
  (.seq (.reg [R.q 8 (.mov (R.i 0))])
  (.seq (.block 0 (.loop
     (.seq (.seq (.reg [R.q 9 (.mov (R.t 8)),
       R.q 10 (.fld 19 (R.t 3)),
       R.q 11 (.load1 (R.t 10)),
       R.q 12 (.len (R.t 11)),
       R.q 13 (.bin .lss .no (R.t 9) (R.t 12)),
       R.q 14 (.mov (R.t 13)),
       R.g 15 (.fld 19 (R.t 3)) 14 true,
       R.g 16 (.load1 (R.t 15)) 14 true,
       R.g 17 (.mov (R.t 8)) 14 true,
       R.g 18 (.idx 2 (R.t 16) (R.t 17)) 14 true,
       R.g 19 (.fld 0 (R.t 18)) 14 true,
       R.g 20 (.load1 (R.t 19)) 14 true,
       R.g 21 (.mov (R.t 1)) 14 true,
       R.g 22 (.bin .lss .no (R.t 20) (R.t 21)) 14 true,
       R.q 23 (.pick (R.t 14) (R.t 22) R.ff)])
     (.cond (R.t 23)
       .skip
       (.exit 0)))
     (.block 1 (.seq (.reg [R.q 24 (.mov (R.t 7)),
        R.q 25 (.fld 19 (R.t 3)),
        R.q 26 (.load1 (R.t 25)),
        R.q 27 (.mov (R.t 8)),
        R.q 28 (.idx 2 (R.t 26) (R.t 27)),
        R.q 29 (.loadA 2 (R.t 28)),
        R.q 30 (.bslice 2 (.cons (.str fun _ => []) (.cons (R.z 0) .nil)) 1 [(0, 2, (R.t 29))]),
        R.q 31 (.append 2 24 (R.t 24) (R.t 30)),
        R.q 7 (.mov (R.t 31))])
      (.reg [R.q 32 (.mov (R.t 8)),
        R.q 33 (.bin .add .no (R.t 32) (R.i 1)),
        R.q 8 (.mov (R.t 33))]))))))
  (.seq (.reg [R.q 34 (.mov (R.t 7)),
    R.q 35 (.mov (R.t 1)),
    R.q 36 (.mov (R.t 2)),
    R.q 37 (.build (.cons (.str fun _ => []) (.cons (R.z 0) .nil)) [(0, 1, (R.t 35)), (1, 1, (R.t 36))]),
    R.q 38 (.bslice 2 (.cons (.str fun _ => []) (.cons (R.z 0) .nil)) 1 [(0, 2, (R.t 37))]),
    R.q 39 (.append 2 24 (R.t 34) (R.t 38)),
    R.q 7 (.mov (R.t 39))])
  (.seq (.reg [R.q 40 (.mov (R.t 7)),
    R.q 41 (.fld 19 (R.t 3)),
    R.q 42 (.load1 (R.t 41)),
    R.q 43 (.mov (R.t 8)),
    R.q 44 (.slice 2 (R.t 42) (some (R.t 43)) none),
    R.q 45 (.append 2 24 (R.t 40) (R.t 44)),
    R.q 46 (.fld 19 (R.t 3)),
    R.e (.store 1 (R.t 46) (R.t 45))])
  (.seq (.reg [R.q 47 (.loadA 20 (R.t 3)),
    R.e (.store 20 (R.t 6) (R.t 47))])
  .ret)))))))
def r18_put.rs : List RRes := [.cellA 6 20]
theorem r18_put.of {xs : List AV} {d : Nat} {B : BL} {K : ARes → BL → Prop} (hn : xs.length = 3) (hB : onlyOuter B = true) (h : awp ⟨PT, 48, exitX r18_put.rs K⟩ 10000 [.code r18_put.rc] ⟨params 0 xs, B, .nil⟩) : CallAt PT r18_put xs d B K :=
  call_of_awp 10000 Tryd.func22 rfl (by kernel_rfl) (by kernel_rfl) (by kernel_rfl) (by rw [hn]; decide) hB h
abbrev fs_caught : Nat := 23
def fs_caught.rc : RC :=
  (.seq (.reg [R.q 2 (.alloc (.cons (R.z 0) .nil))])
  (.seq (.reg [R.q 3 (.mkfn (.func 46) [] [(R.t 2)]),
    R.e (.defer (R.t 3) [])])
  (.seq (.reg [R.q 4 (.mov (R.t 0)),
    R.q 5 (.callv (R.t 4) [])])
  (.seq (.reg [R.e (.store 1 (R.t 2) (R.i 0))])
  .ret))))
def fs_caught.rs : List RRes := [.cell1 2]
theorem fs_caught.of {xs : List AV} {d : Nat} {B : BL} {K : ARes → BL → Prop} (hn : xs.length = 1) (hB : onlyOuter B = true) (h : awp ⟨PT, 6, exitD PT fs_caught.rs K⟩ 10000 [.code fs_caught.rc] ⟨params 0 xs, B, .nil⟩) : CallAt PT fs_caught xs d B K :=
  call_of_awp_d 10000 Tryd.func23 rfl (by kernel_rfl) (by kernel_rfl) (by kernel_rfl) (by rw [hn]; decide) hB h
abbrev fs_Find_1 : Nat := 24
def fs_Find_1.rc : RC :=
  (.reg [R.q 4 (.loadA 4 (R.t 0)),
    R.q 5 (.loadA 4 (R.t 1)),
    R.q 6 (.build (.cons .nsl (.cons (R.z 0) (.cons (R.z 0) (.cons .nsl (.cons (R.z 0) (.cons (R.z 0) (.cons .nsl (.cons (R.z 0) .nil)))))))) [(0, 4, (R.t 4)), (4, 4, (R.t 5))]),
    R.q 7 (.box (R.t 6)),
    R.q 8 (.load1 (R.t 2)),
    R.q 9 (.peek 25 [(R.t 7), (R.t 8)]),
    R.e (.store 1 (R.t 3) (R.t 9))])
def fs_Find_1.rs : List RRes := []
theorem fs_Find_1.of {xs : List AV} {d : Nat} {B : BL} {K : ARes → BL → Prop} (hn : xs.length = 4) (hB : onlyOuter B = true) (h : awp ⟨PT, 10, exitX fs_Find_1.rs K⟩ 10000 [.code fs_Find_1.rc] ⟨params 0 xs, B, .nil⟩) : CallAt PT fs_Find_1 xs d B K :=
  call_of_awp 10000 Tryd.func24 rfl (by kernel_rfl) (by kernel_rfl) (by kernel_rfl) (by rw [hn]; decide) hB h
abbrev fs_call_path : Nat := 25
def fs_call_path.rc : RC :=
  (.seq (.reg [R.q 4 (.mov (R.i 0))])
  (.seq (.reg [R.q 8 (.mov (R.t 1)),
    R.q 9 (.call 47 [(R.t 8)]),
    R.q 7 (.mov (R.t 9)),
    R.q 10 (.ext 0 (R.t 7)),
    R.q 11 (.ext 1 (R.t 7)),
    R.q 5 (.mov (R.t 10)),
    R.q 6 (.mov (R.t 11))])
  (.seq (.reg [R.q 12 (.mov (R.t 6)),
    R.q 13 (.call 36 [(R.t 12), (R.i 1)])])
  (.seq (.reg [R.q 14 (.mov (R.t 0)),
    R.q 15 (.mov (R.t 5)),
    R.q 16 (.peek 48 [(R.t 14), (R.t 15)]),
    R.q 4 (.mov (R.t 16))])
  .ret))))
def fs_call_path.rs : List RRes := [.tmp 4]
theorem fs_call_path.of {xs : List AV} {d : Nat} {B : BL} {K : ARes → BL → Prop} (hn : xs.length = 2) (hB : onlyOuter B = true) (h : awp ⟨PT, 17, exitX fs_call_path.rs K⟩ 10000 [.code fs_call_path.rc] ⟨params 0 xs, B, .nil⟩) : CallAt PT fs_call_path xs d B K :=
  call_of_awp 10000 Tryd.func25 rfl (by kernel_rfl) (by kernel_rfl) (by kernel_rfl) (by rw [hn]; decide) hB h
abbrev fs_New : Nat := 26
def fs_New.rc : RC :=
  (.seq (.reg [R.q 2 (.alloc (.cons .nsl (.cons (R.z 0) (.cons (R.z 0) (.cons .nsl .nil)))))])
  (.seq (.reg [R.q 3 (.build (.cons (R.z 0) (.cons (R.z 0) (.cons (R.z 0) (.cons (R.z 0) (.cons (R.z 0) (.cons .nsl (.cons .nsl (.cons .nsl (.cons (R.z 0) (.cons (.int .u64 fun _ => 0) (.cons (.int .u64 fun _ => 0) (.cons .ff (.cons (R.z 0) (.cons (R.z 0) .nil)))))))))))))) [(0, 1, (R.i 493))]),
    R.q 4 (.build (.cons (R.z 0) (.cons (R.z 0) (.cons (R.z 0) (.cons (R.z 0) (.cons (R.z 0) (.cons (R.z 0) (.cons .nsl (.cons .nsl (.cons .nsl (.cons (R.z 0) (.cons (.int .u64 fun _ => 0) (.cons (.int .u64 fun _ => 0) (.cons .ff (.cons (R.z 0) (.cons (R.z 0) (.cons (.str fun _ => []) (.cons (.str fun _ => []) (.cons (R.z 0) (.cons (R.z 0) (.cons .nsl .nil)))))))))))))))))))) [(0, 1, (R.i 6)), (1, 14, (R.t 3))]),
    R.q 5 (.bslice 20 (.cons (R.z 0) (.cons (R.z 0) (.cons (R.z 0) (.cons (R.z 0) (.cons (R.z 0) (.cons (R.z 0) (.cons .nsl (.cons .nsl (.cons .nsl (.cons (R.z 0) (.cons (.int .u64 fun _ => 0) (.cons (.int .u64 fun _ => 0) (.cons .ff (.cons (R.z 0) (.cons (R.z 0) (.cons (.str fun _ => []) (.cons (.str fun _ => []) (.cons (R.z 0) (.cons (R.z 0) (.cons .nsl .nil)))))))))))))))))))) 1 [(0, 20, (R.t 4))]),
    R.q 6 (.mov (R.t 0)),
    R.q 7 (.mm true [(R.i 0), (R.t 6)]),
    R.q 8 (.build (.cons .nsl (.cons (R.z 0) (.cons (R.z 0) (.cons .nsl .nil)))) [(0, 1, (R.t 5)), (1, 1, (R.t 7))]),
    R.e (.store 4 (R.t 2) (R.t 8))])
  .ret))
def fs_New.rs : List RRes := [.cellA 2 4]
theorem fs_New.of {xs : List AV} {d : Nat} {B : BL} {K : ARes → BL → Prop} (hn : xs.length = 1) (hB : onlyOuter B = true) (h : awp ⟨PT, 9, exitX fs_New.rs K⟩ 10000 [.code fs_New.rc] ⟨params 0 xs, B, .nil⟩) : CallAt PT fs_New xs d B K :=
  call_of_awp 10000 Tryd.func26 rfl (by kernel_rfl) (by kernel_rfl) (by kernel_rfl) (by rw [hn]; decide) hB h
abbrev r18_begun : Nat := 27
def r18_begun.rc : RC :=
  (.seq (.reg [R.q 4 (.box (R.t 0)),
    R.q 5 (.box (R.t 1)),
    R.q 8 (.alloc (.cons .nsl (.cons (R.z 0) (.cons (R.z 0) (.cons .nsl (.cons (R.z 0) (.cons (R.z 0) (.cons (R.z 0) (.cons (R.z 0) (.cons (R.z 0) (.cons (R.z 0) (.cons (R.z 0) (.cons .nsl (.cons .nsl (.cons .nsl (.cons (R.z 0) (.cons (.int .u64 fun _ => 0) (.cons (.int .u64 fun _ => 0) (.cons .ff (.cons (R.z 0) (.cons (R.z 0) (.cons (.str fun _ => []) (.cons (.str fun _ => []) (.cons (R.z 0) (.cons (R.z 0) (.cons .nsl (.cons (R.z 0) .nil)))))))))))))))))))))))))))])
  (.seq (.reg [R.q 12 (.mov (R.t 2)),
    R.q 13 (.call 14 [(R.t 12)]),
    R.q 9 (.alloc (.cons .nsl (.cons .ff .nil))),
    R.e (.store 2 (R.t 9) (R.t 13))])
  (.seq (.seq (.reg [R.q 14 (.fld 1 (R.t 9)),
    R.q 15 (.load1 (R.t 14)),
    R.q 16 (.un .not (R.t 15)),
    R.q 17 (.mov (R.t 16)),
    R.g 18 (.mov (R.t 3)) 17 false,
    R.g 19 (.un .not (R.t 18)) 17 false,
    R.q 20 (.pick (R.t 17) R.tt (R.t 19))])
  (.cond (R.t 20)
    (.seq (.reg [R.q 21 (.loadA 4 (R.t 4)),
      R.q 22 (.build (.cons .nsl (.cons (R.z 0) (.cons (R.z 0) (.cons .nsl (.cons (R.z 0) (.cons (R.z 0) (.cons (R.z 0) (.cons (R.z 0) (.cons (R.z 0) (.cons (R.z 0) (.cons (R.z 0) (.cons .nsl (.cons .nsl (.cons .nsl (.cons (R.z 0) (.cons (.int .u64 fun _ => 0) (.cons (.int .u64 fun _ => 0) (.cons .ff (.cons (R.z 0) (.cons (R.z 0) (.cons (.str fun _ => []) (.cons (.str fun _ => []) (.cons (R.z 0) (.cons (R.z 0) (.cons .nsl (.cons (R.z 0) .nil)))))))))))))))))))))))))) [(0, 4, (R.t 21)), (25, 1, (R.i 1))]),
      R.e (.store 26 (R.t 8) (R.t 22))])
    .ret)
    .skip))
  (.seq (.reg [R.q 23 (.loadA 4 (R.t 4)),
    R.q 24 (.call 17 [(R.t 23)]),
    R.q 10 (.alloc (.cons .nsl (.cons (R.z 0) (.cons (R.z 0) (.cons .nsl (.cons (R.z 0) .nil)))))),
    R.e (.store 5 (R.t 10) (R.t 24))])
  (.seq (.seq (.reg [R.q 25 (.fld 4 (R.t 10)),
    R.q 26 (.load1 (R.t 25)),
    R.q 27 (.bin .neq .no (R.t 26) (R.i 0))])
  (.cond (R.t 27)
    (.seq (.reg [R.q 28 (.fld 0 (R.t 10)),
      R.q 29 (.loadA 4 (R.t 28)),
      R.q 30 (.fld 4 (R.t 10)),
      R.q 31 (.load1 (R.t 30)),
      R.q 32 (.build (.cons .nsl (.cons (R.z 0) (.cons (R.z 0) (.cons .nsl (.cons (R.z 0) (.cons (R.z 0) (.cons (R.z 0) (.cons (R.z 0) (.cons (R.z 0) (.cons (R.z 0) (.cons (R.z 0) (.cons .nsl (.cons .nsl (.cons .nsl (.cons (R.z 0) (.cons (.int .u64 fun _ => 0) (.cons (.int .u64 fun _ => 0) (.cons .ff (.cons (R.z 0) (.cons (R.z 0) (.cons (.str fun _ => []) (.cons (.str fun _ => []) (.cons (R.z 0) (.cons (R.z 0) (.cons .nsl (.cons (R.z 0) .nil)))))))))))))))))))))))))) [(0, 4, (R.t 29)), (25, 1, (R.t 31))]),
      R.e (.store 26 (R.t 8) (R.t 32))])
    .ret)
    .skip))
  (.seq (.reg [R.q 33 (.fld 0 (R.t 10)),
    R.q 34 (.loadA 4 (R.t 33)),
    R.q 35 (.loadA 4 (R.t 5)),
    R.q 36 (.fld 0 (R.t 9)),
    R.q 37 (.load1 (R.t 36)),
    R.q 38 (.call 18 [(R.t 34), (R.t 35), (R.t 37)]),
    R.q 11 (.alloc (.cons (R.z 0) (.cons (R.z 0) .nil))),
    R.e (.store 2 (R.t 11) (R.t 38))])
  (.seq (.seq (.reg [R.q 39 (.fld 1 (R.t 11)),
    R.q 40 (.load1 (R.t 39)),
    R.q 41 (.bin .neq .no (R.t 40) (R.i 0))])
  (.cond (R.t 41)
    (.seq (.reg [R.q 42 (.fld 0 (R.t 10)),
      R.q 43 (.loadA 4 (R.t 42)),
      R.q 44 (.fld 1 (R.t 11)),
      R.q 45 (.load1 (R.t 44)),
      R.q 46 (.build (.cons .nsl (.cons (R.z 0) (.cons (R.z 0) (.cons .nsl (.cons (R.z 0) (.cons (R.z 0) (.cons (R.z 0) (.cons (R.z 0) (.cons (R.z 0) (.cons (R.z 0) (.cons (R.z 0) (.cons .nsl (.cons .nsl (.cons .nsl (.cons (R.z 0) (.cons (.int .u64 fun _ => 0) (.cons (.int .u64 fun _ => 0) (.cons .ff (.cons (R.z 0) (.cons (R.z 0) (.cons (.str fun _ => []) (.cons (.str fun _ => []) (.cons (R.z 0) (.cons (R.z 0) (.cons .nsl (.cons (R.z 0) .nil)))))))))))))))))))))))))) [(0, 4, (R.t 43)), (25, 1, (R.t 45))]),
      R.e (.store 26 (R.t 8) (R.t 46))])
    .ret)
    .skip))
  (.seq (.regd [R.f (R.q 47 (.fld 0 (R.t 10))),
    R.f (R.q 48 (.loadA 4 (R.t 47))),
    R.f (R.q 49 (.fld 0 (R.t 11))),
    R.f (R.q 50 (.load1 (R.t 49))),
    R.f (R.q 51 (.fld 0 (R.t 10))),
    R.f (R.q 52 (.fld 0 (R.t 51))),
    R.f (R.q 53 (.load1 (R.t 52))),
    R.f (R.q 54 (.fld 0 (R.t 11))),
    R.f (R.q 55 (.load1 (R.t 54))),
    R.f (R.q 56 (.idx 20 (R.t 53) (R.t 55))),
    R.f (R.q 57 (.loadA 20 (R.t 56))),
    R.f (R.q 58 (.build (.cons .nsl (.cons (R.z 0) (.cons (R.z 0) (.cons .nsl (.cons (R.z 0) (.cons (R.z 0) (.cons (R.z 0) (.cons (R.z 0) (.cons (R.z 0) (.cons (R.z 0) (.cons (R.z 0) (.cons .nsl (.cons .nsl (.cons .nsl (.cons (R.z 0) (.cons (.int .u64 fun _ => 0) (.cons (.int .u64 fun _ => 0) (.cons .ff (.cons (R.z 0) (.cons (R.z 0) (.cons (.str fun _ => []) (.cons (.str fun _ => []) (.cons (R.z 0) (.cons (R.z 0) (.cons .nsl (.cons (R.z 0) .nil)))))))))))))))))))))))))) [(0, 4, (R.t 48)), (4, 1, (R.t 50)), (5, 20, (R.t 57))])),
    R.s (R.e (.store 26 (R.t 8) (R.t 58))) []])
  .ret))))))))
def r18_begun.rs : List RRes := [.cellA 8 26]
theorem r18_begun.of {xs : List AV} {d : Nat} {B : BL} {K : ARes → BL → Prop} (hn : xs.length = 4) (hB : onlyOuter B = true) (h : awp ⟨PT, 59, exitX r18_begun.rs K⟩ 10000 [.code r18_begun.rc] ⟨params 0 xs, B, .nil⟩) : CallAt PT r18_begun xs d B K :=
  call_of_awp 10000 Tryd.func27 rfl (by kernel_rfl) (by kernel_rfl) (by kernel_rfl) (by rw [hn]; decide) hB h
abbrev r18_In : Nat := 28
def r18_In.rc : RC :=
  (.seq (.reg [R.q 2 (.box (R.t 0)),
    R.q 4 (.mov R.ff)])
  (.seq (.reg [R.q 7 (.fld 1 (R.t 2)),
    R.q 8 (.load1 (R.t 7)),
    R.q 9 (.mov (R.t 1)),
    R.q 10 (.bin .eql .no (R.t 8) (R.t 9)),
    R.q 5 (.mov (R.t 10))])
  (.seq (.seq (.reg [R.q 6 (.mov (R.i 0))])
  (.block 0 (.loop
     (.seq (.seq (.reg [R.q 11 (.mov (R.t 6)),
       R.q 12 (.fld 2 (R.t 2)),
       R.q 13 (.load1 (R.t 12)),
       R.q 14 (.len (R.t 13)),
       R.q 15 (.bin .lss .no (R.t 11) (R.t 14))])
     (.cond (R.t 15)
       .skip
       (.exit 0)))
     (.seq (.block 1 (.reg [R.q 18 (.mov (R.t 5)),
        R.q 19 (.mov (R.t 18)),
        R.g 20 (.fld 2 (R.t 2)) 19 false,
        R.g 21 (.load1 (R.t 20)) 19 false,
        R.g 22 (.mov (R.t 6)) 19 false,
        R.g 23 (.idx 1 (R.t 21) (R.t 22)) 19 false,
        R.g 24 (.load1 (R.t 23)) 19 false,
        R.g 25 (.mov (R.t 1)) 19 false,
        R.g 26 (.bin .eql .no (R.t 24) (R.t 25)) 19 false,
        R.q 27 (.pick (R.t 19) R.tt (R.t 26)),
        R.q 5 (.mov (R.t 27))]))
     (.reg [R.q 16 (.mov (R.t 6)),
       R.q 17 (.bin .add .no (R.t 16) (R.i 1)),
       R.q 6 (.mov (R.t 17))]))))))
  (.seq (.reg [R.q 28 (.mov (R.t 5)),
    R.q 4 (.mov (R.t 28))])
  .ret))))
def r18_In.rs : List RRes := [.tmp 4]
theorem r18_In.of {xs : List AV} {d : Nat} {B : BL} {K : ARes → BL → Prop} (hn : xs.length = 2) (hB : onlyOuter B = true) (h : awp ⟨PT, 29, exitX r18_In.rs K⟩ 10000 [.code r18_In.rc] ⟨params 0 xs, B, .nil⟩) : CallAt PT r18_In xs d B K :=
  call_of_awp 10000 Tryd.func28 rfl (by kernel_rfl) (by kernel_rfl) (by kernel_rfl) (by rw [hn]; decide) hB h
abbrev r9_Perm : Nat := 29
def r9_Perm.rc : RC :=
  (.seq (.reg [R.q 4 (.mov (R.i 0))])
  (.seq (.seq (.reg [R.q 5 (.mov (R.i 0))])
  (.block 0 (.loop
     (.seq (.seq (.reg [R.q 6 (.mov (R.t 5)),
       R.q 7 (.mov (R.t 0)),
       R.q 8 (.len (R.t 7)),
       R.q 9 (.bin .lss .no (R.t 6) (R.t 8))])
     (.cond (R.t 9)
       .skip
       (.exit 0)))
     (.seq (.block 1 (.seq (.reg [R.q 12 (.mov (R.t 0)),
        R.q 13 (.mov (R.t 5)),
        R.q 14 (.idx 3 (R.t 12) (R.t 13)),
        R.q 15 (.fld 0 (R.t 14)),
        R.q 16 (.load1 (R.t 15)),
        R.q 17 (.mov (R.t 1)),
        R.q 18 (.bin .eql .no (R.t 16) (R.t 17))])
      (.cond (R.t 18)
        (.seq (.reg [R.q 19 (.mov (R.t 0)),
          R.q 20 (.mov (R.t 5)),
          R.q 21 (.idx 3 (R.t 19) (R.t 20)),
          R.q 22 (.fld 2 (R.t 21)),
          R.q 23 (.load1 (R.t 22)),
          R.q 4 (.mov (R.t 23))])
        .ret)
        .skip)))
     (.reg [R.q 10 (.mov (R.t 5)),
       R.q 11 (.bin .add .no (R.t 10) (R.i 1)),
       R.q 5 (.mov (R.t 11))]))))))
  (.seq (.reg [R.q 4 (.mov (R.i (-1)))])
  .ret)))
def r9_Perm.rs : List RRes := [.tmp 4]
theorem r9_Perm.of {xs : List AV} {d : Nat} {B : BL} {K : ARes → BL → Prop} (hn : xs.length = 2) (hB : onlyOuter B = true) (h : awp ⟨PT, 24, exitX r9_Perm.rs K⟩ 10000 [.code r9_Perm.rc] ⟨params 0 xs, B, .nil⟩) : CallAt PT r9_Perm xs d B K :=
  call_of_awp 10000 Tryd.func29 rfl (by kernel_rfl) (by kernel_rfl) (by kernel_rfl) (by rw [hn]; decide) hB h
abbrev r18_ended : Nat := 30
def r18_ended.rc : RC :=
  (.seq (.reg [R.q 4 (.box (R.t 0)),
    R.q 7 (.box (R.t 3)),
    R.q 8 (.alloc (.cons .nsl (.cons (R.z 0) (.cons (R.z 0) (.cons .nsl (.cons (R.z 0) .nil))))))])
  (.seq (.seq (.reg [R.q 9 (.mov (R.t 1)),
    R.q 10 (.un .not (R.t 9))])
  (.cond (R.t 10)
    (.seq (.reg [R.q 11 (.fld 0 (R.t 4)),
      R.q 12 (.loadA 4 (R.t 11)),
      R.q 13 (.call 16 [(R.t 12), (R.i 10)]),
      R.e (.store 5 (R.t 8) (R.t 13))])
    .ret)
    .skip))
  (.seq (.seq (.reg [R.q 14 (.mov (R.t 2)),
    R.q 15 (.un .not (R.t 14)),
    R.q 16 (.mov (R.t 15)),
    R.g 17 (.fld 5 (R.t 4)) 16 false,
    R.g 18 (.fld 1 (R.t 17)) 16 false,
    R.g 19 (.loadA 14 (R.t 18)) 16 false,
    R.g 20 (.call 49 [(R.t 19)]) 16 false,
    R.q 21 (.pick (R.t 16) R.tt (R.t 20))])
  (.cond (R.t 21)
    (.seq (.reg [R.q 22 (.fld 0 (R.t 4)),
      R.q 23 (.loadA 4 (R.t 22)),
      R.q 24 (.call 16 [(R.t 23), (R.i 7)]),
      R.e (.store 5 (R.t 8) (R.t 24))])
    .ret)
    .skip))
  (.seq (.reg [R.q 25 (.fld 0 (R.t 4)),
    R.q 26 (.loadA 4 (R.t 25)),
    R.q 27 (.fld 4 (R.t 4)),
    R.q 28 (.load1 (R.t 27)),
    R.q 29 (.loadA 20 (R.t 7)),
    R.q 30 (.call 50 [(R.t 26), (R.t 28), (R.t 29)]),
    R.q 31 (.build (.cons .nsl (.cons (R.z 0) (.cons (R.z 0) (.cons .nsl (.cons (R.z 0) .nil))))) [(0, 4, (R.t 30))]),
    R.e (.store 5 (R.t 8) (R.t 31))])
  .ret))))
def r18_ended.rs : List RRes := [.cellA 8 5]
theorem r18_ended.of {xs : List AV} {d : Nat} {B : BL} {K : ARes → BL → Prop} (hn : xs.length = 4) (hB : onlyOuter B = true) (h : awp ⟨PT, 32, exitX r18_ended.rs K⟩ 10000 [.code r18_ended.rc] ⟨params 0 xs, B, .nil⟩) : CallAt PT r18_ended xs d B K :=
  call_of_awp 10000 Tryd.func30 rfl (by kernel_rfl) (by kernel_rfl) (by kernel_rfl) (by rw [hn]; decide) hB h
abbrev r18_Owner : Nat := 31
def r18_Owner.rc : RC :=
  (.seq (.reg [R.q 2 (.box (R.t 0)),
    R.q 3 (.box (R.t 1)),
    R.q 4 (.mov R.ff)])
  (.seq (.reg [R.q 5 (.fld 1 (R.t 2)),
    R.q 6 (.load1 (R.t 5)),
    R.q 7 (.fld 0 (R.t 3)),
    R.q 8 (.load1 (R.t 7)),
    R.q 9 (.bin .eql .no (R.t 6) (R.t 8)),
    R.q 10 (.mov (R.t 9)),
    R.g 11 (.loadA 4 (R.t 3)) 10 false,
    R.g 12 (.call 21 [(R.t 11), (R.i 4)]) 10 false,
    R.q 13 (.pick (R.t 10) R.tt (R.t 12)),
    R.q 4 (.mov (R.t 13))])
  .ret))
def r18_Owner.rs : List RRes := [.tmp 4]
theorem r18_Owner.of {xs : List AV} {d : Nat} {B : BL} {K : ARes → BL → Prop} (hn : xs.length = 2) (hB : onlyOuter B = true) (h : awp ⟨PT, 14, exitX r18_Owner.rs K⟩ 10000 [.code r18_Owner.rc] ⟨params 0 xs, B, .nil⟩) : CallAt PT r18_Owner xs d B K :=
  call_of_awp 10000 Tryd.func31 rfl (by kernel_rfl) (by kernel_rfl) (by kernel_rfl) (by rw [hn]; decide) hB h
abbrev fs_change : Nat := 32
def fs_change.rc : RC :=
  (.seq (.reg [R.q 5 (.box (R.t 0)),
    R.q 6 (.box (R.t 1)),
    R.q 8 (.box (R.t 3)),
    R.q 10 (.alloc (.cons .nsl (.cons (R.z 0) (.cons (R.z 0) (.cons .nsl .nil))))),
    R.q 11 (.mov (R.i 0))])
  (.seq (.seq (.reg [R.q 18 (.mov (R.t 4)),
    R.q 19 (.len (R.t 18)),
    R.q 20 (.mov (R.i 0))])
  (.block 0 (.loop
     (.seq (.reg [R.q 21 (.bin .lss .no (R.t 20) (R.t 19))])
     (.seq (.cond (R.t 21)
       .skip
       (.exit 0))
     (.seq (.block 1 (.seq (.reg [R.q 22 (.idx 1 (R.t 18) (R.t 20)),
        R.q 23 (.load1 (R.t 22)),
        R.q 13 (.mov (R.t 23))])
      (.seq (.reg [R.q 25 (.mov (R.t 13)),
        R.q 26 (.call 47 [(R.t 25)]),
        R.q 24 (.mov (R.t 26)),
        R.q 27 (.ext 0 (R.t 24)),
        R.q 28 (.ext 1 (R.t 24)),
        R.q 14 (.mov (R.t 27)),
        R.q 15 (.mov (R.t 28))])
      (.reg [R.q 29 (.mov (R.t 2)),
        R.q 30 (.mov (R.t 29)),
        R.g 31 (.mov (R.t 15)) 30 true,
        R.q 32 (.pick (R.t 30) (R.t 31) R.ff),
        R.q 2 (.mov (R.t 32))]))))
     (.reg [R.q 33 (.bin .add .no (R.t 20) (R.i 1)),
       R.q 20 (.mov (R.t 33))])))))))
  (.seq (.seq (.reg [R.q 34 (.mov (R.t 2)),
    R.q 35 (.un .not (R.t 34))])
  (.cond (R.t 35)
    (.seq (.reg [R.q 36 (.loadA 4 (R.t 5)),
      R.e (.store 4 (R.t 10) (R.t 36)),
      R.q 11 (.mov (R.i 1))])
    .ret)
    .skip))
  (.seq (.reg [R.q 37 (.fld 2 (R.t 5)),
    R.q 38 (.load1 (R.t 37)),
    R.q 39 (.bin .add .no (R.t 38) (R.i 1)),
    R.q 40 (.fld 2 (R.t 5)),
    R.e (.store 1 (R.t 40) (R.t 39))])
  (.seq (.seq (.reg [R.q 41 (.fld 3 (R.t 5)),
    R.q 42 (.load1 (R.t 41)),
    R.q 43 (.fld 2 (R.t 5)),
    R.q 44 (.load1 (R.t 43)),
    R.q 45 (.call 51 [(R.t 42), (R.t 44)])])
  (.cond (R.t 45)
    (.seq (.reg [R.q 46 (.loadA 4 (R.t 5)),
      R.e (.store 4 (R.t 10) (R.t 46)),
      R.q 11 (.mov (R.i 8))])
    .ret)
    .skip))
  (.seq (.reg [R.q 47 (.loadA 4 (R.t 5)),
    R.q 48 (.loadA 4 (R.t 6)),
    R.q 49 (.build (.cons .nsl (.cons (R.z 0) (.cons (R.z 0) (.cons .nsl (.cons (R.z 0) (.cons (R.z 0) (.cons .nsl (.cons (R.z 0) .nil)))))))) [(0, 4, (R.t 47)), (4, 4, (R.t 48))]),
    R.q 50 (.box (R.t 49)),
    R.q 16 (.alloc (.cons .nptr .nil)),
    R.e (.store 1 (R.t 16) (R.t 50))])
  (.seq (.regd [R.f (R.q 51 (.load1 (R.t 16))),
    R.f (R.q 52 (.fld 0 (R.t 5))),
    R.f (R.q 53 (.load1 (R.t 52))),
    R.s (R.q 54 (.call 52 [(R.t 53)])) [0],
    R.f (R.q 55 (.chk (R.t 51))),
    R.f (R.q 56 (.fld 0 (R.t 55))),
    R.f (R.q 57 (.fld 0 (R.t 56))),
    R.s (R.e (.store 1 (R.t 57) (R.t 54))) []])
  (.seq (.seq (.reg [R.q 58 (.mkfn (.func 53) [] [(R.t 8), (R.t 16)]),
    R.q 59 (.call 23 [(R.t 58)]),
    R.q 17 (.mov (R.t 59))])
  (.seq (.reg [R.q 60 (.mov (R.t 17)),
    R.q 61 (.bin .neq .no (R.t 60) (R.i 0))])
  (.cond (R.t 61)
    (.seq (.reg [R.q 62 (.loadA 4 (R.t 5)),
      R.q 63 (.mov (R.t 17)),
      R.e (.store 4 (R.t 10) (R.t 62)),
      R.q 11 (.mov (R.t 63))])
    .ret)
    .skip)))
  (.seq (.reg [R.q 64 (.load1 (R.t 16)),
    R.q 65 (.chk (R.t 64)),
    R.q 66 (.fld 0 (R.t 65)),
    R.q 67 (.loadA 4 (R.t 66)),
    R.e (.store 4 (R.t 10) (R.t 67)),
    R.q 11 (.mov (R.i 0))])
  .ret)))))))))
def fs_change.rs : List RRes := [.cellA 10 4, .tmp 11]
theorem fs_change.of {xs : List AV} {d : Nat} {B : BL} {K : ARes → BL → Prop} (hn : xs.length = 5) (hB : onlyOuter B = true) (h : awp ⟨PT, 68, exitX fs_change.rs K⟩ 10000 [.code fs_change.rc] ⟨params 0 xs, B, .nil⟩) : CallAt PT fs_change xs d B K :=
  call_of_awp 10000 Tryd.func32 rfl (by kernel_rfl) (by kernel_rfl) (by kernel_rfl) (by rw [hn]; decide) hB h
abbrev fs_mayMake : Nat := 33
def fs_mayMake.rc : RC :=
  (.seq (.mark (.reg [R.q 1 (.box (R.t 0)),
    R.q 2 (.mov R.ff)]))
  (.seq (.mark (.reg [R.q 4 (.fld 0 (R.t 1)),
    R.q 5 (.load1 (R.t 4)),
    R.q 6 (.bin .eql .no (R.t 5) (R.i 1)),
    R.q 7 (.mov (R.t 6)),
    R.g 8 (.fld 0 (R.t 1)) 7 false,
    R.g 9 (.load1 (R.t 8)) 7 false,
    R.g 10 (.bin .geq .no (R.t 9) (R.i 3)) 7 false,
    R.g 11 (.mov (R.t 10)) 7 false,
    R.g 12 (.fld 0 (R.t 1)) 11 true,
    R.g 13 (.load1 (R.t 12)) 11 true,
    R.g 14 (.bin .leq .no (R.t 13) (R.i 7)) 11 true,
    R.g 15 (.pick (R.t 11) (R.t 14) R.ff) 7 false,
    R.q 16 (.pick (R.t 7) R.tt (R.t 15)),
    R.q 3 (.mov (R.t 16))]))
  (.seq (.mark (.reg [R.q 17 (.mov (R.t 3)),
    R.q 18 (.mov (R.t 17)),
    R.g 19 (.fld 1 (R.t 1)) 18 true,
    R.g 20 (.fld 0 (R.t 19)) 18 true,
    R.g 21 (.load1 (R.t 20)) 18 true,
    R.g 22 (.bin .geq .no (R.t 21) (R.i 0)) 18 true,
    R.q 23 (.pick (R.t 18) (R.t 22) R.ff),
    R.q 24 (.mov (R.t 23)),
    R.g 25 (.fld 1 (R.t 1)) 24 true,
    R.g 26 (.fld 0 (R.t 25)) 24 true,
    R.g 27 (.load1 (R.t 26)) 24 true,
    R.g 28 (.bin .leq .no (R.t 27) (R.i 4095)) 24 true,
    R.q 29 (.pick (R.t 24) (R.t 28) R.ff),
    R.q 30 (.mov (R.t 29)),
    R.g 31 (.loadA 20 (R.t 1)) 30 true,
    R.g 32 (.call 54 [(R.t 31)]) 30 true,
    R.q 33 (.pick (R.t 30) (R.t 32) R.ff),
    R.q 2 (.mov (R.t 33))]))
  .ret)))
def fs_mayMake.rs : List RRes := [.tmp 2]
theorem fs_mayMake.of {xs : List AV} {d : Nat} {B : BL} {K : ARes → BL → Prop} (hn : xs.length = 1) (hB : onlyOuter B = true) (h : awp ⟨PT, 34, exitX fs_mayMake.rs K⟩ 10000 [.code fs_mayMake.rc] ⟨params 0 xs, B, .nil⟩) : CallAt PT fs_mayMake xs d B K :=
  call_of_awp 10000 Tryd.func33 rfl (by kernel_rfl) (by kernel_rfl) (by kernel_rfl) (by rw [hn]; decide) hB h
abbrev fs_Make_1 : Nat := 34
def fs_Make_1.rc : RC :=
  (.seq (.reg [R.q 12 (.mov (R.t 0)),
    R.q 13 (.load1 (R.t 1)),
    R.q 14 (.peek 35 [(R.t 12), (R.t 13)]),
    R.q 11 (.mov (R.t 14)),
    R.q 15 (.ext 0 (R.t 11)),
    R.q 16 (.ext 1 (R.t 11)),
    R.q 5 (.mov (R.t 15)),
    R.q 6 (.mov (R.t 16))])
  (.seq (.reg [R.q 17 (.mov (R.t 0)),
    R.q 18 (.chk (R.t 17)),
    R.q 19 (.fld 0 (R.t 18)),
    R.q 20 (.fld 0 (R.t 19)),
    R.q 21 (.load1 (R.t 20)),
    R.q 22 (.mov (R.t 5)),
    R.q 23 (.idx 20 (R.t 21) (R.t 22)),
    R.q 24 (.fld 0 (R.t 23)),
    R.q 25 (.load1 (R.t 24)),
    R.q 26 (.bin .eql .no (R.t 25) (R.i 6)),
    R.q 27 (.call 36 [(R.t 26), (R.i 10)])])
  (.seq (.reg [R.q 28 (.mov (R.t 0)),
    R.q 29 (.mov (R.t 5)),
    R.q 30 (.peek 37 [(R.t 28), (R.t 29)]),
    R.q 31 (.call 36 [(R.t 30), (R.i 7)])])
  (.seq (.reg [R.q 33 (.mov (R.t 0)),
    R.q 34 (.mov (R.t 5)),
    R.q 35 (.mov (R.t 6)),
    R.q 36 (.peek 38 [(R.t 33), (R.t 34), (R.t 35)]),
    R.q 32 (.mov (R.t 36)),
    R.q 37 (.ext 0 (R.t 32)),
    R.q 38 (.ext 1 (R.t 32)),
    R.q 7 (.mov (R.t 37)),
    R.q 8 (.mov (R.t 38))])
  (.seq (.reg [R.q 39 (.mov (R.t 8)),
    R.q 40 (.un .not (R.t 39)),
    R.q 41 (.call 36 [(R.t 40), (R.i 3)])])
  (.seq (.reg [R.q 42 (.fld 0 (R.t 2)),
    R.q 43 (.load1 (R.t 42)),
    R.q 44 (.bin .neq .no (R.t 43) (R.i 4)),
    R.q 45 (.mov (R.t 44)),
    R.g 46 (.fld 0 (R.t 2)) 45 true,
    R.g 47 (.load1 (R.t 46)) 45 true,
    R.g 48 (.bin .neq .no (R.t 47) (R.i 5)) 45 true,
    R.q 49 (.pick (R.t 45) (R.t 48) R.ff),
    R.q 50 (.mov (R.t 49)),
    R.g 51 (.mov (R.t 0)) 50 false,
    R.g 52 (.peek 39 [(R.t 51), (R.i 16)]) 50 false,
    R.q 53 (.pick (R.t 50) R.tt (R.t 52)),
    R.q 54 (.call 36 [(R.t 53), (R.i 7)])])
  (.seq (.reg [R.q 55 (.mov (R.t 0)),
    R.q 56 (.fld 15 (R.t 2)),
    R.q 57 (.load1 (R.t 56)),
    R.q 58 (.lenS (R.t 57)),
    R.q 59 (.call 40 [(R.t 55), (R.t 58)]),
    R.q 9 (.mov (R.t 59))])
  (.seq (.reg [R.q 60 (.fld 1 (R.t 2)),
    R.q 61 (.fld 0 (R.t 60)),
    R.q 62 (.load1 (R.t 61)),
    R.q 10 (.mov (R.t 62))])
  (.seq (.seq (.reg [R.q 63 (.fld 0 (R.t 2)),
    R.q 64 (.load1 (R.t 63)),
    R.q 65 (.bin .eql .no (R.t 64) (R.i 3))])
  (.cond (R.t 65)
    (.reg [R.q 10 (.mov (R.i 511))])
    .skip))
  (.seq (.regd [R.f (R.q 66 (.mov (R.t 0))),
    R.f (R.q 67 (.chk (R.t 66))),
    R.f (R.q 68 (.fld 0 (R.t 67))),
    R.f (R.q 69 (.fld 0 (R.t 68))),
    R.f (R.q 70 (.load1 (R.t 69))),
    R.f (R.q 71 (.mov (R.t 9))),
    R.f (R.q 72 (.fld 0 (R.t 2))),
    R.f (R.q 73 (.load1 (R.t 72))),
    R.f (R.q 74 (.mov (R.t 10))),
    R.f (R.q 75 (.fld 0 (R.t 3))),
    R.f (R.q 76 (.load1 (R.t 75))),
    R.f (R.q 77 (.fld 1 (R.t 3))),
    R.f (R.q 78 (.load1 (R.t 77))),
    R.f (R.q 79 (.build (.cons (R.z 0) (.cons (R.z 0) (.cons (R.z 0) (.cons (R.z 0) (.cons (R.z 0) (.cons .nsl (.cons .nsl (.cons .nsl (.cons (R.z 0) (.cons (.int .u64 fun _ => 0) (.cons (.int .u64 fun _ => 0) (.cons .ff (.cons (R.z 0) (.cons (R.z 0) .nil)))))))))))))) [(0, 1, (R.t 74)), (1, 1, (R.t 76)), (2, 1, (R.t 78))])),
    R.f (R.q 80 (.fld 15 (R.t 2))),
    R.f (R.q 81 (.load1 (R.t 80))),
    R.f (R.q 82 (.fld 16 (R.t 2))),
    R.f (R.q 83 (.load1 (R.t 82))),
    R.f (R.q 84 (.fld 17 (R.t 2))),
    R.f (R.q 85 (.load1 (R.t 84))),
    R.f (R.q 86 (.fld 18 (R.t 2))),
    R.f (R.q 87 (.load1 (R.t 86))),
    R.f (R.q 88 (.build (.cons (R.z 0) (.cons (R.z 0) (.cons (R.z 0) (.cons (R.z 0) (.cons (R.z 0) (.cons (R.z 0) (.cons .nsl (.cons .nsl (.cons .nsl (.cons (R.z 0) (.cons (.int .u64 fun _ => 0) (.cons (.int .u64 fun _ => 0) (.cons .ff (.cons (R.z 0) (.cons (R.z 0) (.cons (.str fun _ => []) (.cons (.str fun _ => []) (.cons (R.z 0) (.cons (R.z 0) (.cons .nsl .nil)))))))))))))))))))) [(0, 1, (R.t 73)), (1, 14, (R.t 79)), (15, 1, (R.t 81)), (16, 1, (R.t 83)), (17, 1, (R.t 85)), (18, 1, (R.t 87))])),
    R.f (R.q 89 (.idx 20 (R.t 70) (R.t 71))),
    R.s (R.e (.store 20 (R.t 89) (R.t 88))) []])
  (.seq (.regd [R.f (R.q 90 (.mov (R.t 0))),
    R.f (R.q 91 (.chk (R.t 90))),
    R.f (R.q 92 (.fld 0 (R.t 91))),
    R.f (R.q 93 (.fld 1 (R.t 92))),
    R.f (R.q 94 (.load1 (R.t 93))),
    R.f (R.q 95 (.fld 15 (R.t 2))),
    R.f (R.q 96 (.load1 (R.t 95))),
    R.f (R.q 97 (.lenS (R.t 96))),
    R.f (R.q 98 (.bin .sub .no (R.t 94) (R.t 97))),
    R.f (R.q 99 (.chk (R.t 90))),
    R.f (R.q 100 (.fld 0 (R.t 99))),
    R.f (R.q 101 (.fld 1 (R.t 100))),
    R.s (R.e (.store 1 (R.t 101) (R.t 98))) []])
  (.reg [R.q 102 (.mov (R.t 0)),
    R.q 103 (.mov (R.t 5)),
    R.q 104 (.mov (R.t 6)),
    R.q 105 (.mov (R.t 9)),
    R.q 106 (.call 41 [(R.t 102), (R.t 103), (R.t 104), (R.t 105)])]))))))))))))
def fs_Make_1.rs : List RRes := []
theorem fs_Make_1.of {xs : List AV} {d : Nat} {B : BL} {K : ARes → BL → Prop} (hn : xs.length = 4) (hB : onlyOuter B = true) (h : awp ⟨PT, 107, exitX fs_Make_1.rs K⟩ 10000 [.code fs_Make_1.rc] ⟨params 0 xs, B, .nil⟩) : CallAt PT fs_Make_1 xs d B K :=
  call_of_awp 10000 Tryd.func34 rfl (by kernel_rfl) (by kernel_rfl) (by kernel_rfl) (by rw [hn]; decide) hB h
abbrev fs_call_above : Nat := 35
def fs_call_above.rc : RC :=
  (.seq (.reg [R.q 4 (.mov (R.i 0)),
    R.q 5 (.mov (.val (.str fun _ => [])))])
  (.seq (.reg [R.q 10 (.mov (R.t 1)),
    R.q 11 (.call 47 [(R.t 10)]),
    R.q 9 (.mov (R.t 11)),
    R.q 12 (.ext 0 (R.t 9)),
    R.q 13 (.ext 1 (R.t 9)),
    R.q 6 (.mov (R.t 12)),
    R.q 7 (.mov (R.t 13))])
  (.seq (.reg [R.q 14 (.mov (R.t 6)),
    R.q 15 (.len (R.t 14)),
    R.q 16 (.bin .sub .no (R.t 15) (R.i 1)),
    R.q 8 (.mov (R.t 16))])
  (.seq (.regd [R.f (R.q 17 (.mov (R.t 0))),
    R.f (R.q 18 (.mov (R.t 6))),
    R.f (R.q 19 (.mov (R.t 8))),
    R.f (R.q 20 (.slice 1 (R.t 18) none (some (R.t 19)))),
    R.f (R.q 22 (.mov (R.t 6))),
    R.f (R.q 23 (.mov (R.t 8))),
    R.f (R.q 24 (.idx 1 (R.t 22) (R.t 23))),
    R.f (R.q 25 (.load1 (R.t 24))),
    R.s (R.q 21 (.peek 48 [(R.t 17), (R.t 20)])) [4, 5, 6, 7],
    R.s (R.q 4 (.mov (R.t 21))) [4, 5, 6, 7],
    R.s (R.q 5 (.mov (R.t 25))) []])
  .ret))))
def fs_call_above.rs : List RRes := [.tmp 4, .tmp 5]
theorem fs_call_above.of {xs : List AV} {d : Nat} {B : BL} {K : ARes → BL → Prop} (hn : xs.length = 2) (hB : onlyOuter B = true) (h : awp ⟨PT, 26, exitX fs_call_above.rs K⟩ 10000 [.code fs_call_above.rc] ⟨params 0 xs, B, .nil⟩) : CallAt PT fs_call_above xs d B K :=
  call_of_awp 10000 Tryd.func35 rfl (by kernel_rfl) (by kernel_rfl) (by kernel_rfl) (by rw [hn]; decide) hB h
abbrev fs_must : Nat := 36
def fs_must.rc : RC :=
  (.seq (.reg [R.q 4 (.mov (R.t 0)),
    R.q 5 (.un .not (R.t 4))])
  (.cond (R.t 5)
    (.reg [R.q 6 (.mov (R.t 1)),
      R.q 7 (.build (.cons (R.z 0) .nil) [(0, 1, (R.t 6))]),
      R.q 8 (.mkif 101 (R.t 7)),
      R.e (.panic (R.t 8))])
    .skip))
def fs_must.rs : List RRes := []
theorem fs_must.of {xs : List AV} {d : Nat} {B : BL} {K : ARes → BL → Prop} (hn : xs.length = 2) (hB : onlyOuter B = true) (h : awp ⟨PT, 9, exitX fs_must.rs K⟩ 10000 [.code fs_must.rc] ⟨params 0 xs, B, .nil⟩) : CallAt PT fs_must xs d B K :=
  call_of_awp 10000 Tryd.func36 rfl (by kernel_rfl) (by kernel_rfl) (by kernel_rfl) (by rw [hn]; decide) hB h
abbrev fs_call_mayWrite : Nat := 37
def fs_call_mayWrite.rc : RC :=
  (.seq (.reg [R.q 4 (.mov R.ff)])
  (.seq (.reg [R.q 5 (.mov (R.t 0)),
    R.q 6 (.mov (R.t 1)),
    R.q 7 (.peek 55 [(R.t 5), (R.t 6), (R.i 3)]),
    R.q 8 (.mov (R.t 7)),
    R.g 9 (.mov (R.t 0)) 8 true,
    R.g 10 (.chk (R.t 9)) 8 true,
    R.g 11 (.fld 0 (R.t 10)) 8 true,
    R.g 12 (.fld 0 (R.t 11)) 8 true,
    R.g 13 (.load1 (R.t 12)) 8 true,
    R.g 14 (.mov (R.t 1)) 8 true,
    R.g 15 (.idx 20 (R.t 13) (R.t 14)) 8 true,
    R.g 16 (.fld 1 (R.t 15)) 8 true,
    R.g 17 (.fld 13 (R.t 16)) 8 true,
    R.g 18 (.load1 (R.t 17)) 8 true,
    R.g 19 (.bin .and .no (R.t 18) (R.i 1)) 8 true,
    R.g 20 (.bin .eql .no (R.t 19) (R.i 0)) 8 true,
    R.q 21 (.pick (R.t 8) (R.t 20) R.ff),
    R.q 4 (.mov (R.t 21))])
  .ret))
def fs_call_mayWrite.rs : List RRes := [.tmp 4]
theorem fs_call_mayWrite.of {xs : List AV} {d : Nat} {B : BL} {K : ARes → BL → Prop} (hn : xs.length = 2) (hB : onlyOuter B = true) (h : awp ⟨PT, 22, exitX fs_call_mayWrite.rs K⟩ 10000 [.code fs_call_mayWrite.rc] ⟨params 0 xs, B, .nil⟩) : CallAt PT fs_call_mayWrite xs d B K :=
  call_of_awp 10000 Tryd.func37 rfl (by kernel_rfl) (by kernel_rfl) (by kernel_rfl) (by rw [hn]; decide) hB h
abbrev fs_call_kid : Nat := 38
def fs_call_kid.rc : RC :=
  (.seq (.reg [R.q 6 (.mov (R.i 0)),
    R.q 7 (.mov R.ff)])
  (.seq (.reg [R.q 8 (.mov (R.t 0)),
    R.q 9 (.chk (R.t 8)),
    R.q 10 (.fld 0 (R.t 9)),
    R.q 11 (.fld 0 (R.t 10)),
    R.q 12 (.load1 (R.t 11)),
    R.q 13 (.mov (R.t 1)),
    R.q 14 (.idx 20 (R.t 12) (R.t 13)),
    R.q 15 (.fld 19 (R.t 14)),
    R.q 16 (.load1 (R.t 15)),
    R.q 17 (.mov (R.t 2)),
    R.q 18 (.call 56 [(R.t 16), (R.t 17), (.val (.fn (.func 57) .nil .nil))]),
    R.q 19 (.ext 0 (R.t 18)),
    R.q 20 (.ext 1 (R.t 18)),
    R.q 6 (.mov (R.t 19)),
    R.q 7 (.mov (R.t 20))])
  .ret))
def fs_call_kid.rs : List RRes := [.tmp 6, .tmp 7]
theorem fs_call_kid.of {xs : List AV} {d : Nat} {B : BL} {K : ARes → BL → Prop} (hn : xs.length = 3) (hB : onlyOuter B = true) (h : awp ⟨PT, 21, exitX fs_call_kid.rs K⟩ 10000 [.code fs_call_kid.rc] ⟨params 0 xs, B, .nil⟩) : CallAt PT fs_call_kid xs d B K :=
  call_of_awp 10000 Tryd.func38 rfl (by kernel_rfl) (by kernel_rfl) (by kernel_rfl) (by rw [hn]; decide) hB h
abbrev fs_call_power : Nat := 39
def fs_call_power.rc : RC :=
  (.seq (.reg [R.q 4 (.mov R.ff)])
  (.seq (.reg [R.q 5 (.mov (R.t 0)),
    R.q 6 (.chk (R.t 5)),
    R.q 7 (.fld 4 (R.t 6)),
    R.q 8 (.fld 3 (R.t 7)),
    R.q 9 (.load1 (R.t 8)),
    R.q 10 (.mov (R.t 1)),
    R.q 11 (.bin .and .no (R.t 9) (R.t 10)),
    R.q 12 (.bin .gtr .no (R.t 11) (R.i 0)),
    R.q 4 (.mov (R.t 12))])
  .ret))
def fs_call_power.rs : List RRes := [.tmp 4]
theorem fs_call_power.of {xs : List AV} {d : Nat} {B : BL} {K : ARes → BL → Prop} (hn : xs.length = 2) (hB : onlyOuter B = true) (h : awp ⟨PT, 13, exitX fs_call_power.rs K⟩ 10000 [.code fs_call_power.rc] ⟨params 0 xs, B, .nil⟩) : CallAt PT fs_call_power xs d B K :=
  call_of_awp 10000 Tryd.func39 rfl (by kernel_rfl) (by kernel_rfl) (by kernel_rfl) (by rw [hn]; decide) hB h
abbrev fs_call_free : Nat := 40
def fs_call_free.rc : RC :=
  (.seq (.reg [R.q 4 (.mov (R.i 0))])
  (.seq (.reg [R.q 5 (.mov (R.i 0))])
  (.seq (.reg [R.q 6 (.mov (R.i (-1)))])
  (.seq (.seq (.reg [R.q 9 (.mov (R.t 0)),
    R.q 10 (.chk (R.t 9)),
    R.q 11 (.fld 0 (R.t 10)),
    R.q 12 (.fld 0 (R.t 11)),
    R.q 13 (.load1 (R.t 12)),
    R.q 14 (.len (R.t 13)),
    R.q 15 (.mov (R.i 0))])
  (.block 0 (.loop
     (.seq (.reg [R.q 16 (.bin .lss .no (R.t 15) (R.t 14))])
     (.seq (.cond (R.t 16)
       .skip
       (.exit 0))
     (.seq (.block 1 (.seq (.reg [R.q 17 (.mov (R.t 15)),
        R.q 18 (.idx 20 (R.t 13) (R.t 15)),
        R.q 19 (.loadA 20 (R.t 18)),
        R.q 8 (.alloc (.cons (R.z 0) (.cons (R.z 0) (.cons (R.z 0) (.cons (R.z 0) (.cons (R.z 0) (.cons (R.z 0) (.cons .nsl (.cons .nsl (.cons .nsl (.cons (R.z 0) (.cons (.int .u64 fun _ => 0) (.cons (.int .u64 fun _ => 0) (.cons .ff (.cons (R.z 0) (.cons (R.z 0) (.cons (.str fun _ => []) (.cons (.str fun _ => []) (.cons (R.z 0) (.cons (R.z 0) (.cons .nsl .nil))))))))))))))))))))),
        R.q 7 (.mov (R.t 17)),
        R.e (.store 20 (R.t 8) (R.t 19))])
      (.block 2 (.seq (.reg [R.q 21 (.fld 0 (R.t 8)),
         R.q 22 (.load1 (R.t 21)),
         R.q 23 (.bin .neq .no (R.t 22) (R.i 0)),
         R.q 20 (.mov (R.t 23))])
       (.cond (R.t 20)
         (.reg [R.q 24 (.mov (R.t 5)),
           R.q 25 (.bin .add .no (R.t 24) (R.i 1)),
           R.q 5 (.mov (R.t 25))])
         (.seq (.reg [R.q 27 (.mov (R.t 6)),
           R.q 28 (.bin .lss .no (R.t 27) (R.i 0)),
           R.q 26 (.mov (R.t 28))])
         (.cond (R.t 26)
           (.reg [R.q 29 (.mov (R.t 7)),
             R.q 6 (.mov (R.t 29))])
           .skip)))))))
     (.reg [R.q 30 (.bin .add .no (R.t 15) (R.i 1)),
       R.q 15 (.mov (R.t 30))])))))))
  (.seq (.reg [R.q 31 (.mov (R.t 5)),
    R.q 32 (.bin .lss .no (R.t 31) (R.i 64)),
    R.q 33 (.mov (R.t 32)),
    R.g 34 (.mov (R.t 1)) 33 true,
    R.g 35 (.mov (R.t 0)) 33 true,
    R.g 36 (.chk (R.t 35)) 33 true,
    R.g 37 (.fld 0 (R.t 36)) 33 true,
    R.g 38 (.fld 1 (R.t 37)) 33 true,
    R.g 39 (.load1 (R.t 38)) 33 true,
    R.g 40 (.bin .leq .no (R.t 34) (R.t 39)) 33 true,
    R.q 41 (.pick (R.t 33) (R.t 40) R.ff),
    R.q 42 (.call 36 [(R.t 41), (R.i 9)])])
  (.seq (.seq (.reg [R.q 43 (.mov (R.t 6)),
    R.q 44 (.bin .lss .no (R.t 43) (R.i 0))])
  (.cond (R.t 44)
    (.seq (.reg [R.q 45 (.mov (R.t 0)),
      R.q 46 (.chk (R.t 45)),
      R.q 47 (.fld 0 (R.t 46)),
      R.q 48 (.fld 0 (R.t 47)),
      R.q 49 (.load1 (R.t 48)),
      R.q 50 (.len (R.t 49)),
      R.q 6 (.mov (R.t 50))])
    (.reg [R.q 51 (.mov (R.t 0)),
      R.q 52 (.mov (R.t 0)),
      R.q 53 (.chk (R.t 52)),
      R.q 54 (.fld 0 (R.t 53)),
      R.q 55 (.fld 0 (R.t 54)),
      R.q 56 (.load1 (R.t 55)),
      R.q 57 (.build (.cons (R.z 0) (.cons (R.z 0) (.cons (R.z 0) (.cons (R.z 0) (.cons (R.z 0) (.cons (R.z 0) (.cons .nsl (.cons .nsl (.cons .nsl (.cons (R.z 0) (.cons (.int .u64 fun _ => 0) (.cons (.int .u64 fun _ => 0) (.cons .ff (.cons (R.z 0) (.cons (R.z 0) (.cons (.str fun _ => []) (.cons (.str fun _ => []) (.cons (R.z 0) (.cons (R.z 0) (.cons .nsl .nil)))))))))))))))))))) []),
      R.q 58 (.bslice 20 (.cons (R.z 0) (.cons (R.z 0) (.cons (R.z 0) (.cons (R.z 0) (.cons (R.z 0) (.cons (R.z 0) (.cons .nsl (.cons .nsl (.cons .nsl (.cons (R.z 0) (.cons (.int .u64 fun _ => 0) (.cons (.int .u64 fun _ => 0) (.cons .ff (.cons (R.z 0) (.cons (R.z 0) (.cons (.str fun _ => []) (.cons (.str fun _ => []) (.cons (R.z 0) (.cons (R.z 0) (.cons .nsl .nil)))))))))))))))))))) 1 [(0, 20, (R.t 57))]),
      R.q 59 (.append 20 240 (R.t 56) (R.t 58)),
      R.q 60 (.chk (R.t 51)),
      R.q 61 (.fld 0 (R.t 60)),
      R.q 62 (.fld 0 (R.t 61)),
      R.e (.store 1 (R.t 62) (R.t 59))]))
    .skip))
  (.seq (.reg [R.q 63 (.mov (R.t 6)),
    R.q 4 (.mov (R.t 63))])
  .ret)))))))
def fs_call_free.rs : List RRes := [.tmp 4]
theorem fs_call_free.of {xs : List AV} {d : Nat} {B : BL} {K : ARes → BL → Prop} (hn : xs.length = 2) (hB : onlyOuter B = true) (h : awp ⟨PT, 64, exitX fs_call_free.rs K⟩ 10000 [.code fs_call_free.rc] ⟨params 0 xs, B, .nil⟩) : CallAt PT fs_call_free xs d B K :=
  call_of_awp 10000 Tryd.func40 rfl (by kernel_rfl) (by kernel_rfl) (by kernel_rfl) (by rw [hn]; decide) hB h
abbrev fs_call_name : Nat := 41
def fs_call_name.rc : RC :=
  (.seq (.reg [R.q 12 (.mov (R.t 0)),
    R.q 13 (.mov (R.t 1)),
    R.q 14 (.mov (R.t 2)),
    R.q 15 (.peek 38 [(R.t 12), (R.t 13), (R.t 14)]),
    R.q 11 (.mov (R.t 15)),
    R.q 16 (.ext 0 (R.t 11)),
    R.q 17 (.ext 1 (R.t 11)),
    R.q 8 (.mov (R.t 16)),
    R.q 9 (.mov (R.t 17))])
  (.seq (.reg [R.q 18 (.mov (R.t 9)),
    R.q 19 (.un .not (R.t 18)),
    R.q 20 (.call 36 [(R.t 19), (R.i 3)])])
  (.seq (.reg [R.q 21 (.mov (R.t 0)),
    R.q 22 (.mov (R.t 1)),
    R.q 23 (.call 59 [(R.t 21), (R.t 22)]),
    R.q 10 (.mov (R.t 23))])
  (.mark (.reg [R.q 24 (.mov (R.t 10)),
    R.q 25 (.mov (R.t 10)),
    R.q 26 (.chk (R.t 25)),
    R.q 27 (.load1 (R.t 26)),
    R.q 28 (.mov (R.t 8)),
    R.q 29 (.mov (R.t 2)),
    R.q 30 (.mov (R.t 3)),
    R.q 31 (.build (.cons (.str fun _ => []) (.cons (R.z 0) .nil)) [(0, 1, (R.t 29)), (1, 1, (R.t 30))]),
    R.q 32 (.bslice 2 (.cons (.str fun _ => []) (.cons (R.z 0) .nil)) 1 [(0, 2, (R.t 31))]),
    R.q 33 (.call 60 [(R.t 27), (R.t 28), (R.t 32)]),
    R.q 34 (.chk (R.t 24)),
    R.e (.store 1 (R.t 34) (R.t 33))])))))
def fs_call_name.rs : List RRes := []
theorem fs_call_name.of {xs : List AV} {d : Nat} {B : BL} {K : ARes → BL → Prop} (hn : xs.length = 4) (hB : onlyOuter B = true) (h : awp ⟨PT, 35, exitX fs_call_name.rs K⟩ 10000 [.code fs_call_name.rc] ⟨params 0 xs, B, .nil⟩) : CallAt PT fs_call_name xs d B K :=
  call_of_awp 10000 Tryd.func41 rfl (by kernel_rfl) (by kernel_rfl) (by kernel_rfl) (by rw [hn]; decide) hB h
abbrev r15_Path : Nat := 42
def r15_Path.rc : RC :=
  (.seq (.reg [R.q 2 (.mov R.ff)])
  (.seq (.seq (.reg [R.q 5 (.mov (R.t 0)),
    R.q 6 (.lenS (R.t 5)),
    R.q 7 (.bin .eql .no (R.t 6) (R.i 0)),
    R.q 8 (.mov (R.t 7)),
    R.g 9 (.mov (R.t 0)) 8 false,
    R.g 10 (.lenS (R.t 9)) 8 false,
    R.g 11 (.bin .gtr .no (R.t 10) (R.i 4096)) 8 false,
    R.q 12 (.pick (R.t 8) R.tt (R.t 11))])
  (.cond (R.t 12)
    (.seq (.reg [R.q 2 (.mov R.ff)])
    .ret)
    .skip))
  (.seq (.reg [R.q 13 (.mov (R.t 0)),
    R.q 14 (.call 61 [(R.t 13)]),
    R.q 3 (.mov (R.t 14))])
  (.seq (.seq (.reg [R.q 4 (.mov (R.i 0))])
  (.block 0 (.loop
     (.seq (.seq (.reg [R.q 15 (.mov (R.t 4)),
       R.q 16 (.mov (R.t 3)),
       R.q 17 (.len (R.t 16)),
       R.q 18 (.bin .lss .no (R.t 15) (R.t 17))])
     (.cond (R.t 18)
       .skip
       (.exit 0)))
     (.seq (.block 1 (.seq (.reg [R.q 21 (.mov (R.t 3)),
        R.q 22 (.mov (R.t 4)),
        R.q 23 (.idx 1 (R.t 21) (R.t 22)),
        R.q 24 (.load1 (R.t 23)),
        R.q 25 (.call 62 [(R.t 24)]),
        R.q 26 (.un .not (R.t 25))])
      (.cond (R.t 26)
        (.seq (.reg [R.q 2 (.mov R.ff)])
        .ret)
        .skip)))
     (.reg [R.q 19 (.mov (R.t 4)),
       R.q 20 (.bin .add .no (R.t 19) (R.i 1)),
       R.q 4 (.mov (R.t 20))]))))))
  (.seq (.reg [R.q 27 (.mov (R.t 3)),
    R.q 28 (.len (R.t 27)),
    R.q 29 (.bin .leq .no (R.t 28) (R.i 64)),
    R.q 2 (.mov (R.t 29))])
  .ret)))))
def r15_Path.rs : List RRes := [.tmp 2]
theorem r15_Path.of {xs : List AV} {d : Nat} {B : BL} {K : ARes → BL → Prop} (hn : xs.length = 1) (hB : onlyOuter B = true) (h : awp ⟨PT, 30, exitX r15_Path.rs K⟩ 10000 [.code r15_Path.rc] ⟨params 0 xs, B, .nil⟩) : CallAt PT r15_Path xs d B K :=
  call_of_awp 10000 Tryd.func42 rfl (by kernel_rfl) (by kernel_rfl) (by kernel_rfl) (by rw [hn]; decide) hB h
abbrev r15_Names : Nat := 43
def r15_Names.rc : RC :=
  (.seq (.reg [R.q 2 (.mov (.val .nsl))])
  (.seq (.reg [R.q 3 (.mov (R.t 0)),
    R.q 4 (.call 61 [(R.t 3)]),
    R.q 2 (.mov (R.t 4))])
  .ret))
def r15_Names.rs : List RRes := [.tmp 2]
theorem r15_Names.of {xs : List AV} {d : Nat} {B : BL} {K : ARes → BL → Prop} (hn : xs.length = 1) (hB : onlyOuter B = true) (h : awp ⟨PT, 5, exitX r15_Names.rs K⟩ 10000 [.code r15_Names.rc] ⟨params 0 xs, B, .nil⟩) : CallAt PT r15_Names xs d B K :=
  call_of_awp 10000 Tryd.func43 rfl (by kernel_rfl) (by kernel_rfl) (by kernel_rfl) (by rw [hn]; decide) hB h
abbrev r15_device : Nat := 44
def r15_device.rc : RC :=
  (.seq (.reg [R.q 2 (.mov R.ff)])
  (.seq (.reg [R.q 3 (.mov (R.t 0)),
    R.q 4 (.bin .eql .no (R.t 3) (R.i 4)),
    R.q 5 (.mov (R.t 4)),
    R.g 6 (.mov (R.t 0)) 5 false,
    R.g 7 (.bin .eql .no (R.t 6) (R.i 5)) 5 false,
    R.q 8 (.pick (R.t 5) R.tt (R.t 7)),
    R.q 2 (.mov (R.t 8))])
  .ret))
def r15_device.rs : List RRes := [.tmp 2]
theorem r15_device.of {xs : List AV} {d : Nat} {B : BL} {K : ARes → BL → Prop} (hn : xs.length = 1) (hB : onlyOuter B = true) (h : awp ⟨PT, 9, exitX r15_device.rs K⟩ 10000 [.code r15_device.rc] ⟨params 0 xs, B, .nil⟩) : CallAt PT r15_device xs d B K :=
  call_of_awp 10000 Tryd.func44 rfl (by kernel_rfl) (by kernel_rfl) (by kernel_rfl) (by rw [hn]; decide) hB h
abbrev r18_Can : Nat := 45
def r18_Can.rc : RC :=
  (.seq (.reg [R.q 3 (.box (R.t 0)),
    R.q 4 (.box (R.t 1)),
    R.q 6 (.mov R.ff)])
  (.seq (.seq (.reg [R.q 12 (.mov (R.t 2)),
    R.q 13 (.bin .lss .no (R.t 12) (R.i 0)),
    R.q 14 (.mov (R.t 13)),
    R.g 15 (.mov (R.t 2)) 14 false,
    R.g 16 (.bin .gtr .no (R.t 15) (R.i 7)) 14 false,
    R.q 17 (.pick (R.t 14) R.tt (R.t 16))])
  (.cond (R.t 17)
    (.seq (.reg [R.q 6 (.mov R.ff)])
    .ret)
    .skip))
  (.seq (.seq (.reg [R.q 18 (.loadA 4 (R.t 4)),
    R.q 19 (.call 21 [(R.t 18), (R.i 2)])])
  (.cond (R.t 19)
    (.seq (.reg [R.q 6 (.mov R.tt)])
    .ret)
    .skip))
  (.seq (.reg [R.q 20 (.loadA 14 (R.t 3)),
    R.q 21 (.call 63 [(R.t 20)]),
    R.q 7 (.mov (R.t 21))])
  (.seq (.seq (.reg [R.q 22 (.fld 1 (R.t 3)),
    R.q 23 (.load1 (R.t 22)),
    R.q 24 (.fld 0 (R.t 4)),
    R.q 25 (.load1 (R.t 24)),
    R.q 26 (.bin .eql .no (R.t 23) (R.t 25))])
  (.cond (R.t 26)
    (.seq (.reg [R.q 27 (.mov (R.t 7)),
      R.q 28 (.call 29 [(R.t 27), (R.i 1)]),
      R.q 29 (.mov (R.t 2)),
      R.q 30 (.bin .and .no (R.t 28) (R.t 29)),
      R.q 31 (.mov (R.t 2)),
      R.q 32 (.bin .eql .no (R.t 30) (R.t 31)),
      R.q 6 (.mov (R.t 32))])
    .ret)
    .skip))
  (.seq (.reg [R.q 33 (.mov (R.t 7)),
    R.q 34 (.call 29 [(R.t 33), (R.i 5)]),
    R.q 8 (.mov (R.t 34))])
  (.seq (.seq (.reg [R.q 35 (.mov (R.t 8)),
    R.q 36 (.bin .lss .no (R.t 35) (R.i 0))])
  (.cond (R.t 36)
    (.reg [R.q 8 (.mov (R.i 7))])
    .skip))
  (.seq (.seq (.reg [R.q 9 (.mov (R.i 0))])
  (.block 0 (.loop
     (.seq (.seq (.reg [R.q 37 (.mov (R.t 9)),
       R.q 38 (.mov (R.t 7)),
       R.q 39 (.len (R.t 38)),
       R.q 40 (.bin .lss .no (R.t 37) (R.t 39))])
     (.cond (R.t 40)
       .skip
       (.exit 0)))
     (.seq (.block 1 (.seq (.regd [R.f (R.q 43 (.mov (R.t 7))),
        R.f (R.q 44 (.mov (R.t 9))),
        R.f (R.q 45 (.idx 3 (R.t 43) (R.t 44))),
        R.f (R.q 46 (.fld 0 (R.t 45))),
        R.f (R.q 47 (.load1 (R.t 46))),
        R.f (R.q 48 (.bin .eql .no (R.t 47) (R.i 2))),
        R.f (R.q 49 (.mov (R.t 48))),
        R.f (R.g 50 (.mov (R.t 7)) 49 true),
        R.f (R.g 51 (.mov (R.t 9)) 49 true),
        R.f (R.g 52 (.idx 3 (R.t 50) (R.t 51)) 49 true),
        R.f (R.g 53 (.fld 1 (R.t 52)) 49 true),
        R.f (R.g 54 (.load1 (R.t 53)) 49 true),
        R.f (R.g 55 (.fld 0 (R.t 4)) 49 true),
        R.f (R.g 56 (.load1 (R.t 55)) 49 true),
        R.f (R.g 57 (.bin .eql .no (R.t 54) (R.t 56)) 49 true),
        R.f (R.q 58 (.pick (R.t 49) (R.t 57) R.ff))])
      (.cond (R.t 58)
        (.seq (.reg [R.q 59 (.mov (R.t 7)),
          R.q 60 (.mov (R.t 9)),
          R.q 61 (.idx 3 (R.t 59) (R.t 60)),
          R.q 62 (.fld 2 (R.t 61)),
          R.q 63 (.load1 (R.t 62)),
          R.q 64 (.mov (R.t 8)),
          R.q 65 (.bin .and .no (R.t 63) (R.t 64)),
          R.q 66 (.mov (R.t 2)),
          R.q 67 (.bin .and .no (R.t 65) (R.t 66)),
          R.q 68 (.mov (R.t 2)),
          R.q 69 (.bin .eql .no (R.t 67) (R.t 68)),
          R.q 6 (.mov (R.t 69))])
        .ret)
        .skip)))
     (.reg [R.q 41 (.mov (R.t 9)),
       R.q 42 (.bin .add .no (R.t 41) (R.i 1)),
       R.q 9 (.mov (R.t 42))]))))))
  (.seq (.reg [R.q 10 (.mov R.ff)])
  (.seq (.seq (.reg [R.q 11 (.mov (R.i 0))])
  (.block 2 (.loop
     (.seq (.seq (.reg [R.q 70 (.mov (R.t 11)),
       R.q 71 (.mov (R.t 7)),
       R.q 72 (.len (R.t 71)),
       R.q 73 (.bin .lss .no (R.t 70) (R.t 72))])
     (.cond (R.t 73)
       .skip
       (.exit 2)))
     (.seq (.block 3 (.seq (.regd [R.f (R.q 76 (.mov (R.t 7))),
        R.f (R.q 77 (.mov (R.t 11))),
        R.f (R.q 78 (.idx 3 (R.t 76) (R.t 77))),
        R.f (R.q 79 (.fld 0 (R.t 78))),
        R.f (R.q 80 (.load1 (R.t 79))),
        R.f (R.q 81 (.bin .eql .no (R.t 80) (R.i 3))),
        R.f (R.q 82 (.mov (R.t 81))),
        R.f (R.g 83 (.loadA 4 (R.t 4)) 82 true),
        R.f (R.g 84 (.fld 2 (R.t 3)) 82 true),
        R.f (R.g 85 (.load1 (R.t 84)) 82 true),
        R.s (R.g 86 (.call 28 [(R.t 83), (R.t 85)]) 82 true) [],
        R.f (R.q 87 (.pick (R.t 82) (R.t 86) R.ff)),
        R.f (R.q 88 (.mov (R.t 87))),
        R.f (R.g 89 (.mov (R.t 7)) 88 false),
        R.f (R.g 90 (.mov (R.t 11)) 88 false),
        R.f (R.g 91 (.idx 3 (R.t 89) (R.t 90)) 88 false),
        R.f (R.g 92 (.fld 0 (R.t 91)) 88 false),
        R.f (R.g 93 (.load1 (R.t 92)) 88 false),
        R.f (R.g 94 (.bin .eql .no (R.t 93) (R.i 4)) 88 false),
        R.f (R.g 95 (.mov (R.t 94)) 88 false),
        R.f (R.g 96 (.loadA 4 (R.t 4)) 95 true),
        R.f (R.g 97 (.mov (R.t 7)) 95 true),
        R.f (R.g 98 (.mov (R.t 11)) 95 true),
        R.f (R.g 99 (.idx 3 (R.t 97) (R.t 98)) 95 true),
        R.f (R.g 100 (.fld 1 (R.t 99)) 95 true),
        R.f (R.g 101 (.load1 (R.t 100)) 95 true),
        R.s (R.g 102 (.call 28 [(R.t 96), (R.t 101)]) 95 true) [],
        R.f (R.g 103 (.pick (R.t 95) (R.t 102) R.ff) 88 false),
        R.f (R.q 104 (.pick (R.t 88) R.tt (R.t 103)))])
      (.cond (R.t 104)
        (.seq (.seq (.reg [R.q 105 (.mov (R.t 7)),
          R.q 106 (.mov (R.t 11)),
          R.q 107 (.idx 3 (R.t 105) (R.t 106)),
          R.q 108 (.fld 2 (R.t 107)),
          R.q 109 (.load1 (R.t 108)),
          R.q 110 (.mov (R.t 8)),
          R.q 111 (.bin .and .no (R.t 109) (R.t 110)),
          R.q 112 (.mov (R.t 2)),
          R.q 113 (.bin .and .no (R.t 111) (R.t 112)),
          R.q 114 (.mov (R.t 2)),
          R.q 115 (.bin .eql .no (R.t 113) (R.t 114))])
        (.cond (R.t 115)
          (.seq (.reg [R.q 6 (.mov R.tt)])
          .ret)
          .skip))
        (.reg [R.q 10 (.mov R.tt)]))
        .skip)))
     (.reg [R.q 74 (.mov (R.t 11)),
       R.q 75 (.bin .add .no (R.t 74) (R.i 1)),
       R.q 11 (.mov (R.t 75))]))))))
  (.seq (.reg [R.q 116 (.mov (R.t 10)),
    R.q 117 (.un .not (R.t 116)),
    R.q 118 (.mov (R.t 117)),
    R.g 119 (.mov (R.t 7)) 118 true,
    R.g 120 (.call 29 [(R.t 119), (R.i 6)]) 118 true,
    R.g 121 (.mov (R.t 2)) 118 true,
    R.g 122 (.bin .and .no (R.t 120) (R.t 121)) 118 true,
    R.g 123 (.mov (R.t 2)) 118 true,
    R.g 124 (.bin .eql .no (R.t 122) (R.t 123)) 118 true,
    R.q 125 (.pick (R.t 118) (R.t 124) R.ff),
    R.q 6 (.mov (R.t 125))])
  .ret)))))))))))
def r18_Can.rs : List RRes := [.tmp 6]
theorem r18_Can.of {xs : List AV} {d : Nat} {B : BL} {K : ARes → BL → Prop} (hn : xs.length = 3) (hB : onlyOuter B = true) (h : awp ⟨PT, 126, exitX r18_Can.rs K⟩ 10000 [.code r18_Can.rc] ⟨params 0 xs, B, .nil⟩) : CallAt PT r18_Can xs d B K :=
  call_of_awp 10000 Tryd.func45 rfl (by kernel_rfl) (by kernel_rfl) (by kernel_rfl) (by rw [hn]; decide) hB h
abbrev fs_caught_1 : Nat := 46
def fs_caught_1.rc : RC :=
  (.seq (.reg [R.q 5 (.mov (R.t 1)),
    R.q 6 (.bin .neq (.ifc true) (R.t 5) (.val .nif))])
  (.cond (R.t 6)
    (.seq (.reg [R.q 8 (.mov (R.t 1)),
      R.q 9 (.assert 101 (.agg (.cons (R.z 0) .nil)) (R.t 8)),
      R.q 7 (.mov (R.t 9)),
      R.q 10 (.ext 0 (R.t 7)),
      R.q 11 (.ext 1 (R.t 7)),
      R.q 2 (.alloc (.cons (R.z 0) .nil)),
      R.e (.store 1 (R.t 2) (R.t 10)),
      R.q 3 (.mov (R.t 11))])
    (.seq (.seq (.reg [R.q 12 (.mov (R.t 3)),
      R.q 13 (.un .not (R.t 12))])
    (.cond (R.t 13)
      (.reg [R.q 14 (.mov (R.t 1)),
        R.e (.panic (R.t 14))])
      .skip))
    (.reg [R.q 15 (.fld 0 (R.t 2)),
      R.q 16 (.load1 (R.t 15)),
      R.e (.store 1 (R.t 0) (R.t 16))])))
    .skip))
def fs_caught_1.rs : List RRes := []
theorem fs_caught_1.of {pn : Bool} {pv : AV} {xs : List AV} {B : BL} {K : BL → Prop} (hn : xs.length = 1) (hB : onlyOuter B = true) (hpv : pn = false → pv = .nif) (h : awp ⟨PT, 17, exitC K⟩ 10000 [.code fs_caught_1.rc] ⟨.cons 1 pv (.cons 4 pv (params 0 xs)), B, .nil⟩) : DefAt PT fs_caught_1 pn (pv :: xs) B K :=
  def_of_awp 10000 Tryd.func46 rfl (by kernel_rfl) (by kernel_rfl) rfl (by rw [hn]; decide) (by decide) (by decide) hB hpv h
abbrev fs_Parts : Nat := 47
def fs_Parts.rc : RC :=
  (.seq (.reg [R.q 2 (.mov (.val .nsl)),
    R.q 3 (.mov R.ff)])
  (.seq (.block 0 (.seq (.reg [R.q 5 (.mov (R.t 0)),
     R.q 6 (.bin .eql .no (R.t 5) (.val (.str fun _ => []))),
     R.q 4 (.mov (R.t 6))])
   (.cond (R.t 4)
     (.seq (.reg [R.q 2 (.mov (.val .nsl)),
       R.q 3 (.mov R.tt)])
     .ret)
     (.seq (.reg [R.q 8 (.mov (R.t 0)),
       R.q 9 (.call 64 [(R.t 8)]),
       R.q 10 (.un .not (R.t 9)),
       R.q 7 (.mov (R.t 10))])
     (.cond (R.t 7)
       (.seq (.reg [R.q 2 (.mov (.val .nsl)),
         R.q 3 (.mov R.ff)])
       .ret)
       .skip)))))
  (.seq (.reg [R.q 11 (.mov (R.t 0)),
    R.q 12 (.call 65 [(R.t 11), (.val (.str fun _ => [47]))]),
    R.q 2 (.mov (R.t 12)),
    R.q 3 (.mov R.tt)])
  .ret)))
def fs_Parts.rs : List RRes := [.tmp 2, .tmp 3]
theorem fs_Parts.of {xs : List AV} {d : Nat} {B : BL} {K : ARes → BL → Prop} (hn : xs.length = 1) (hB : onlyOuter B = true) (h : awp ⟨PT, 13, exitX fs_Parts.rs K⟩ 10000 [.code fs_Parts.rc] ⟨params 0 xs, B, .nil⟩) : CallAt PT fs_Parts xs d B K :=
  call_of_awp 10000 Tryd.func47 rfl (by kernel_rfl) (by kernel_rfl) (by kernel_rfl) (by rw [hn]; decide) hB h
abbrev fs_call_find : Nat := 48
def fs_call_find.rc : RC :=
  (.seq (.reg [R.q 4 (.mov (R.i 0))])
  (.seq (.reg [R.q 5 (.mov (R.i 0))])
  (.seq (.seq (.reg [R.q 10 (.mov (R.t 1)),
    R.q 11 (.len (R.t 10)),
    R.q 12 (.mov (R.i 0))])
  (.block 0 (.loop
     (.seq (.reg [R.q 13 (.bin .lss .no (R.t 12) (R.t 11))])
     (.seq (.cond (R.t 13)
       .skip
       (.exit 0))
     (.seq (.block 1 (.seq (.reg [R.q 14 (.idx 1 (R.t 10) (R.t 12)),
        R.q 15 (.load1 (R.t 14)),
        R.q 7 (.mov (R.t 15))])
      (.seq (.reg [R.q 16 (.mov (R.t 0)),
        R.q 17 (.chk (R.t 16)),
        R.q 18 (.fld 0 (R.t 17)),
        R.q 19 (.fld 0 (R.t 18)),
        R.q 20 (.load1 (R.t 19)),
        R.q 21 (.mov (R.t 5)),
        R.q 22 (.idx 20 (R.t 20) (R.t 21)),
        R.q 23 (.fld 0 (R.t 22)),
        R.q 24 (.load1 (R.t 23)),
        R.q 25 (.bin .eql .no (R.t 24) (R.i 6)),
        R.q 26 (.call 36 [(R.t 25), (R.i 10)])])
      (.seq (.reg [R.q 27 (.mov (R.t 0)),
        R.q 28 (.mov (R.t 5)),
        R.q 29 (.peek 55 [(R.t 27), (R.t 28), (R.i 1)]),
        R.q 30 (.call 36 [(R.t 29), (R.i 7)])])
      (.seq (.reg [R.q 32 (.mov (R.t 0)),
        R.q 33 (.mov (R.t 5)),
        R.q 34 (.mov (R.t 7)),
        R.q 35 (.peek 38 [(R.t 32), (R.t 33), (R.t 34)]),
        R.q 31 (.mov (R.t 35)),
        R.q 36 (.ext 0 (R.t 31)),
        R.q 37 (.ext 1 (R.t 31)),
        R.q 8 (.mov (R.t 36)),
        R.q 9 (.mov (R.t 37))])
      (.seq (.reg [R.q 38 (.mov (R.t 9)),
        R.q 39 (.call 36 [(R.t 38), (R.i 2)])])
      (.reg [R.q 40 (.mov (R.t 0)),
        R.q 41 (.chk (R.t 40)),
        R.q 42 (.fld 0 (R.t 41)),
        R.q 43 (.fld 0 (R.t 42)),
        R.q 44 (.load1 (R.t 43)),
        R.q 45 (.mov (R.t 5)),
        R.q 46 (.idx 20 (R.t 44) (R.t 45)),
        R.q 47 (.fld 19 (R.t 46)),
        R.q 48 (.load1 (R.t 47)),
        R.q 49 (.mov (R.t 8)),
        R.q 50 (.idx 2 (R.t 48) (R.t 49)),
        R.q 51 (.fld 1 (R.t 50)),
        R.q 52 (.load1 (R.t 51)),
        R.q 5 (.mov (R.t 52))])))))))
     (.reg [R.q 53 (.bin .add .no (R.t 12) (R.i 1)),
       R.q 12 (.mov (R.t 53))])))))))
  (.seq (.reg [R.q 54 (.mov (R.t 5)),
    R.q 4 (.mov (R.t 54))])
  .ret))))
def fs_call_find.rs : List RRes := [.tmp 4]
theorem fs_call_find.of {xs : List AV} {d : Nat} {B : BL} {K : ARes → BL → Prop} (hn : xs.length = 2) (hB : onlyOuter B = true) (h : awp ⟨PT, 55, exitX fs_call_find.rs K⟩ 10000 [.code fs_call_find.rc] ⟨params 0 xs, B, .nil⟩) : CallAt PT fs_call_find xs d B K :=
  call_of_awp 10000 Tryd.func48 rfl (by kernel_rfl) (by kernel_rfl) (by kernel_rfl) (by rw [hn]; decide) hB h
abbrev r18_shut : Nat := 49
def r18_shut.rc : RC :=
  (.seq (.reg [R.q 1 (.box (R.t 0)),
    R.q 2 (.mov R.ff)])
  (.seq (.reg [R.q 3 (.fld 13 (R.t 1)),
    R.q 4 (.load1 (R.t 3)),
    R.q 5 (.bin .and .no (R.t 4) (R.i 3)),
    R.q 6 (.bin .neq .no (R.t 5) (R.i 0)),
    R.q 2 (.mov (R.t 6))])
  .ret))
def r18_shut.rs : List RRes := [.tmp 2]
theorem r18_shut.of {xs : List AV} {d : Nat} {B : BL} {K : ARes → BL → Prop} (hn : xs.length = 1) (hB : onlyOuter B = true) (h : awp ⟨PT, 7, exitX r18_shut.rs K⟩ 10000 [.code r18_shut.rc] ⟨params 0 xs, B, .nil⟩) : CallAt PT r18_shut xs d B K :=
  call_of_awp 10000 Tryd.func49 rfl (by kernel_rfl) (by kernel_rfl) (by kernel_rfl) (by rw [hn]; decide) hB h
abbrev r18_with : Nat := 50
def r18_with.rc : RC :=
  (.seq (.reg [R.q 3 (.box (R.t 0)),
    R.q 5 (.box (R.t 2)),
    R.q 6 (.alloc (.cons .nsl (.cons (R.z 0) (.cons (R.z 0) (.cons .nsl .nil)))))])
  (.seq (.reg [R.q 7 (.bslice 20 (.cons (R.z 0) (.cons (R.z 0) (.cons (R.z 0) (.cons (R.z 0) (.cons (R.z 0) (.cons (R.z 0) (.cons .nsl (.cons .nsl (.cons .nsl (.cons (R.z 0) (.cons (.int .u64 fun _ => 0) (.cons (.int .u64 fun _ => 0) (.cons .ff (.cons (R.z 0) (.cons (R.z 0) (.cons (.str fun _ => []) (.cons (.str fun _ => []) (.cons (R.z 0) (.cons (R.z 0) (.cons .nsl .nil)))))))))))))))))))) 0 []),
    R.q 8 (.fld 0 (R.t 3)),
    R.q 9 (.load1 (R.t 8)),
    R.q 10 (.append 20 240 (R.t 7) (R.t 9)),
    R.q 11 (.fld 0 (R.t 3)),
    R.e (.store 1 (R.t 11) (R.t 10))])
  (.seq (.reg [R.q 12 (.fld 0 (R.t 3)),
    R.q 13 (.load1 (R.t 12)),
    R.q 14 (.mov (R.t 1)),
    R.q 15 (.loadA 20 (R.t 5)),
    R.q 16 (.idx 20 (R.t 13) (R.t 14)),
    R.e (.store 20 (R.t 16) (R.t 15))])
  (.seq (.reg [R.q 17 (.loadA 4 (R.t 3)),
    R.e (.store 4 (R.t 6) (R.t 17))])
  .ret))))
def r18_with.rs : List RRes := [.cellA 6 4]
theorem r18_with.of {xs : List AV} {d : Nat} {B : BL} {K : ARes → BL → Prop} (hn : xs.length = 3) (hB : onlyOuter B = true) (h : awp ⟨PT, 18, exitX r18_with.rs K⟩ 10000 [.code r18_with.rc] ⟨params 0 xs, B, .nil⟩) : CallAt PT r18_with xs d B K :=
  call_of_awp 10000 Tryd.func50 rfl (by kernel_rfl) (by kernel_rfl) (by kernel_rfl) (by rw [hn]; decide) hB h
abbrev slices_Contains_int_int : Nat := 51
def slices_Contains_int_int.rc : RC :=
  (.seq (.reg [R.q 4 (.mov R.ff)])
  (.seq (.reg [R.q 5 (.mov (R.t 0)),
    R.q 6 (.mov (R.t 1)),
    R.q 7 (.call 66 [(R.t 5), (R.t 6)]),
    R.q 8 (.bin .geq .no (R.t 7) (R.i 0)),
    R.q 4 (.mov (R.t 8))])
  .ret))
def slices_Contains_int_int.rs : List RRes := [.tmp 4]
theorem slices_Contains_int_int.of {xs : List AV} {d : Nat} {B : BL} {K : ARes → BL → Prop} (hn : xs.length = 2) (hB : onlyOuter B = true) (h : awp ⟨PT, 9, exitX slices_Contains_int_int.rs K⟩ 10000 [.code slices_Contains_int_int.rc] ⟨params 0 xs, B, .nil⟩) : CallAt PT slices_Contains_int_int xs d B K :=
  call_of_awp 10000 Tryd.func51 rfl (by kernel_rfl) (by kernel_rfl) (by kernel_rfl) (by rw [hn]; decide) hB h
abbrev slices_Clone_api_Inode_api_Inode : Nat := 52
def slices_Clone_api_Inode_api_Inode.rc : RC :=
  (.seq (.reg [R.q 2 (.mov (.val .nsl))])
  (.seq (.seq (.reg [R.q 3 (.mov (R.t 0)),
    R.q 4 (.isNil true (R.t 3))])
  (.cond (R.t 4)
    (.seq (.reg [R.q 2 (.mov (.val .nsl))])
    .ret)
    .skip))
  (.seq (.reg [R.q 5 (.bslice 20 (.cons (R.z 0) (.cons (R.z 0) (.cons (R.z 0) (.cons (R.z 0) (.cons (R.z 0) (.cons (R.z 0) (.cons .nsl (.cons .nsl (.cons .nsl (.cons (R.z 0) (.cons (.int .u64 fun _ => 0) (.cons (.int .u64 fun _ => 0) (.cons .ff (.cons (R.z 0) (.cons (R.z 0) (.cons (.str fun _ => []) (.cons (.str fun _ => []) (.cons (R.z 0) (.cons (R.z 0) (.cons .nsl .nil)))))))))))))))))))) 0 []),
    R.q 6 (.mov (R.t 0)),
    R.q 7 (.append 20 240 (R.t 5) (R.t 6)),
    R.q 2 (.mov (R.t 7))])
  .ret)))
def slices_Clone_api_Inode_api_Inode.rs : List RRes := [.tmp 2]
theorem slices_Clone_api_Inode_api_Inode.of {xs : List AV} {d : Nat} {B : BL} {K : ARes → BL → Prop} (hn : xs.length = 1) (hB : onlyOuter B = true) (h : awp ⟨PT, 8, exitX slices_Clone_api_Inode_api_Inode.rs K⟩ 10000 [.code slices_Clone_api_Inode_api_Inode.rc] ⟨params 0 xs, B, .nil⟩) : CallAt PT slices_Clone_api_Inode_api_Inode xs d B K :=
  call_of_awp 10000 Tryd.func52 rfl (by kernel_rfl) (by kernel_rfl) (by kernel_rfl) (by rw [hn]; decide) hB h
abbrev fs_change_1 : Nat := 53
def fs_change_1.rc : RC :=
  (.reg [R.q 2 (.load1 (R.t 0)),
    R.q 3 (.load1 (R.t 1)),
    R.q 4 (.callv (R.t 2) [(R.t 3)])])
def fs_change_1.rs : List RRes := []
theorem fs_change_1.of {xs : List AV} {d : Nat} {B : BL} {K : ARes → BL → Prop} (hn : xs.length = 2) (hB : onlyOuter B = true) (h : awp ⟨PT, 5, exitX fs_change_1.rs K⟩ 10000 [.code fs_change_1.rc] ⟨params 0 xs, B, .nil⟩) : CallAt PT fs_change_1 xs d B K :=
  call_of_awp 10000 Tryd.func53 rfl (by kernel_rfl) (by kernel_rfl) (by kernel_rfl) (by rw [hn]; decide) hB h
abbrev fs_mayParts : Nat := 54
def fs_mayParts.rc : RC :=
  (.seq (.mark (.reg [R.q 1 (.box (R.t 0)),
    R.q 2 (.mov R.ff)]))
  (.seq (.mark (.reg [R.q 7 (.fld 0 (R.t 1)),
    R.q 8 (.load1 (R.t 7)),
    R.q 9 (.bin .eql .no (R.t 8) (R.i 4)),
    R.q 10 (.mov (R.t 9)),
    R.g 11 (.fld 0 (R.t 1)) 10 false,
    R.g 12 (.load1 (R.t 11)) 10 false,
    R.g 13 (.bin .eql .no (R.t 12) (R.i 5)) 10 false,
    R.q 14 (.pick (R.t 10) R.tt (R.t 13)),
    R.q 3 (.mov (R.t 14))]))
  (.seq (.mark (.reg [R.q 15 (.fld 17 (R.t 1)),
    R.q 16 (.load1 (R.t 15)),
    R.q 17 (.fld 18 (R.t 1)),
    R.q 18 (.load1 (R.t 17)),
    R.q 19 (.mm false [(R.t 16), (R.t 18)]),
    R.q 20 (.bin .geq .no (R.t 19) (R.i 0)),
    R.q 21 (.mov (R.t 20)),
    R.g 22 (.fld 17 (R.t 1)) 21 true,
    R.g 23 (.load1 (R.t 22)) 21 true,
    R.g 24 (.fld 18 (R.t 1)) 21 true,
    R.g 25 (.load1 (R.t 24)) 21 true,
    R.g 26 (.mm true [(R.t 23), (R.t 25)]) 21 true,
    R.g 27 (.bin .leq .no (R.t 26) (R.i 2097151)) 21 true,
    R.q 28 (.pick (R.t 21) (R.t 27) R.ff),
    R.q 29 (.mov (R.t 28)),
    R.g 30 (.mov (R.t 3)) 29 true,
    R.g 31 (.mov (R.t 30)) 29 true,
    R.g 32 (.fld 17 (R.t 1)) 31 false,
    R.g 33 (.load1 (R.t 32)) 31 false,
    R.g 34 (.bin .eql .no (R.t 33) (R.i 0)) 31 false,
    R.g 35 (.mov (R.t 34)) 31 false,
    R.g 36 (.fld 18 (R.t 1)) 35 true,
    R.g 37 (.load1 (R.t 36)) 35 true,
    R.g 38 (.bin .eql .no (R.t 37) (R.i 0)) 35 true,
    R.g 39 (.pick (R.t 35) (R.t 38) R.ff) 31 false,
    R.g 40 (.pick (R.t 31) R.tt (R.t 39)) 29 true,
    R.q 41 (.pick (R.t 29) (R.t 40) R.ff),
    R.q 4 (.mov (R.t 41))]))
  (.seq (.mark (.reg [R.q 42 (.fld 15 (R.t 1)),
    R.q 43 (.load1 (R.t 42)),
    R.q 44 (.bin .eql .no (R.t 43) (.val (.str fun _ => []))),
    R.q 45 (.mov (R.t 44)),
    R.g 46 (.fld 0 (R.t 1)) 45 false,
    R.g 47 (.load1 (R.t 46)) 45 false,
    R.g 48 (.bin .eql .no (R.t 47) (R.i 1)) 45 false,
    R.g 49 (.mov (R.t 48)) 45 false,
    R.g 50 (.fld 15 (R.t 1)) 49 true,
    R.g 51 (.load1 (R.t 50)) 49 true,
    R.g 52 (.lenS (R.t 51)) 49 true,
    R.g 53 (.bin .leq .no (R.t 52) (R.i 65536)) 49 true,
    R.g 54 (.pick (R.t 49) (R.t 53) R.ff) 45 false,
    R.q 55 (.pick (R.t 45) R.tt (R.t 54)),
    R.q 5 (.mov (R.t 55))]))
  (.seq (.mark (.reg [R.q 56 (.fld 16 (R.t 1)),
    R.q 57 (.load1 (R.t 56)),
    R.q 58 (.bin .eql .no (R.t 57) (.val (.str fun _ => []))),
    R.q 6 (.mov (R.t 58))]))
  (.seq (.seq (.mark (.reg [R.q 59 (.fld 0 (R.t 1)),
    R.q 60 (.load1 (R.t 59)),
    R.q 61 (.bin .eql .no (R.t 60) (R.i 3))]))
  (.cond (R.t 61)
    (.mark (.reg [R.q 62 (.fld 16 (R.t 1)),
      R.q 63 (.load1 (R.t 62)),
      R.q 64 (.bin .neq .no (R.t 63) (.val (.str fun _ => []))),
      R.q 65 (.mov (R.t 64)),
      R.g 66 (.fld 16 (R.t 1)) 65 true,
      R.g 67 (.load1 (R.t 66)) 65 true,
      R.g 68 (.lenS (R.t 67)) 65 true,
      R.g 69 (.bin .leq .no (R.t 68) (R.i 4096)) 65 true,
      R.q 70 (.pick (R.t 65) (R.t 69) R.ff),
      R.q 71 (.mov (R.t 70)),
      R.g 72 (.fld 16 (R.t 1)) 71 true,
      R.g 73 (.load1 (R.t 72)) 71 true,
      R.g 74 (.call 67 [(R.t 73), (.val (.str fun _ => [0]))]) 71 true,
      R.g 75 (.un .not (R.t 74)) 71 true,
      R.q 76 (.pick (R.t 71) (R.t 75) R.ff),
      R.q 6 (.mov (R.t 76))]))
    .skip))
  (.seq (.mark (.reg [R.q 77 (.mov (R.t 4)),
    R.q 78 (.mov (R.t 77)),
    R.g 79 (.mov (R.t 5)) 78 true,
    R.q 80 (.pick (R.t 78) (R.t 79) R.ff),
    R.q 81 (.mov (R.t 80)),
    R.g 82 (.mov (R.t 6)) 81 true,
    R.q 83 (.pick (R.t 81) (R.t 82) R.ff),
    R.q 2 (.mov (R.t 83))]))
  .ret)))))))
def fs_mayParts.rs : List RRes := [.tmp 2]
theorem fs_mayParts.of {xs : List AV} {d : Nat} {B : BL} {K : ARes → BL → Prop} (hn : xs.length = 1) (hB : onlyOuter B = true) (h : awp ⟨PT, 84, exitX fs_mayParts.rs K⟩ 10000 [.code fs_mayParts.rc] ⟨params 0 xs, B, .nil⟩) : CallAt PT fs_mayParts xs d B K :=
  call_of_awp 10000 Tryd.func54 rfl (by kernel_rfl) (by kernel_rfl) (by kernel_rfl) (by rw [hn]; decide) hB h
abbrev fs_call_can : Nat := 55
def fs_call_can.rc : RC :=
  (.seq (.reg [R.q 6 (.mov R.ff)])
  (.seq (.regd [R.f (R.q 7 (.mov (R.t 0))),
    R.f (R.q 8 (.chk (R.t 7))),
    R.f (R.q 9 (.fld 0 (R.t 8))),
    R.f (R.q 10 (.fld 0 (R.t 9))),
    R.f (R.q 11 (.load1 (R.t 10))),
    R.f (R.q 12 (.mov (R.t 1))),
    R.f (R.q 13 (.idx 20 (R.t 11) (R.t 12))),
    R.f (R.q 14 (.fld 1 (R.t 13))),
    R.f (R.q 15 (.loadA 14 (R.t 14))),
    R.f (R.q 16 (.mov (R.t 0))),
    R.f (R.q 17 (.chk (R.t 16))),
    R.f (R.q 18 (.fld 4 (R.t 17))),
    R.f (R.q 19 (.loadA 4 (R.t 18))),
    R.f (R.q 20 (.mov (R.t 2))),
    R.s (R.q 21 (.call 68 [(R.t 15), (R.t 19), (R.t 20)])) [],
    R.s (R.q 6 (.mov (R.t 21))) []])
  .ret))
def fs_call_can.rs : List RRes := [.tmp 6]
theorem fs_call_can.of {xs : List AV} {d : Nat} {B : BL} {K : ARes → BL → Prop} (hn : xs.length = 3) (hB : onlyOuter B = true) (h : awp ⟨PT, 22, exitX fs_call_can.rs K⟩ 10000 [.code fs_call_can.rc] ⟨params 0 xs, B, .nil⟩) : CallAt PT fs_call_can xs d B K :=
  call_of_awp 10000 Tryd.func55 rfl (by kernel_rfl) (by kernel_rfl) (by kernel_rfl) (by rw [hn]; decide) hB h
abbrev slices_BinarySearchFunc_api_Dirent_api_Dirent_string : Nat := 56
def slices_BinarySearchFunc_api_Dirent_api_Dirent_string.rc : RC :=
  (.seq (.reg [R.q 6 (.mov (R.i 0)),
    R.q 7 (.mov R.ff)])
  (.seq (.reg [R.q 12 (.mov (R.t 0)),
    R.q 13 (.len (R.t 12)),
    R.q 8 (.mov (R.t 13))])
  (.seq (.reg [R.q 14 (.mov (R.t 8)),
    R.q 9 (.mov (R.i 0)),
    R.q 10 (.mov (R.t 14))])
  (.seq (.block 0 (.loop
     (.seq (.seq (.reg [R.q 15 (.mov (R.t 9)),
       R.q 16 (.mov (R.t 10)),
       R.q 17 (.bin .lss .no (R.t 15) (R.t 16))])
     (.cond (R.t 17)
       .skip
       (.exit 0)))
     (.block 1 (.seq (.reg [R.q 18 (.mov (R.t 9)),
        R.q 19 (.mov (R.t 10)),
        R.q 20 (.bin .add .no (R.t 18) (R.t 19)),
        R.q 21 (.conv .u64 (R.t 20)),
        R.q 22 (.bin .shr .no (R.t 21) (.val (.int .u64 fun _ => 1))),
        R.q 23 (.conv .i64 (R.t 22)),
        R.q 11 (.mov (R.t 23))])
      (.seq (.reg [R.q 24 (.mov (R.t 2)),
        R.q 25 (.mov (R.t 0)),
        R.q 26 (.mov (R.t 11)),
        R.q 27 (.idx 2 (R.t 25) (R.t 26)),
        R.q 28 (.loadA 2 (R.t 27)),
        R.q 29 (.mov (R.t 1)),
        R.q 30 (.callv (R.t 24) [(R.t 28), (R.t 29)]),
        R.q 31 (.bin .lss .no (R.t 30) (R.i 0))])
      (.cond (R.t 31)
        (.reg [R.q 32 (.mov (R.t 11)),
          R.q 33 (.bin .add .no (R.t 32) (R.i 1)),
          R.q 9 (.mov (R.t 33))])
        (.reg [R.q 34 (.mov (R.t 11)),
          R.q 10 (.mov (R.t 34))]))))))))
  (.seq (.reg [R.q 35 (.mov (R.t 9)),
    R.q 36 (.mov (R.t 9)),
    R.q 37 (.mov (R.t 8)),
    R.q 38 (.bin .lss .no (R.t 36) (R.t 37)),
    R.q 39 (.mov (R.t 38)),
    R.g 40 (.mov (R.t 2)) 39 true,
    R.g 41 (.mov (R.t 0)) 39 true,
    R.g 42 (.mov (R.t 9)) 39 true,
    R.g 43 (.idx 2 (R.t 41) (R.t 42)) 39 true,
    R.g 44 (.loadA 2 (R.t 43)) 39 true,
    R.g 45 (.mov (R.t 1)) 39 true,
    R.g 46 (.callv (R.t 40) [(R.t 44), (R.t 45)]) 39 true,
    R.g 47 (.bin .eql .no (R.t 46) (R.i 0)) 39 true,
    R.q 48 (.pick (R.t 39) (R.t 47) R.ff),
    R.q 6 (.mov (R.t 35)),
    R.q 7 (.mov (R.t 48))])
  .ret)))))
def slices_BinarySearchFunc_api_Dirent_api_Dirent_string.rs : List RRes := [.tmp 6, .tmp 7]
theorem slices_BinarySearchFunc_api_Dirent_api_Dirent_string.of {xs : List AV} {d : Nat} {B : BL} {K : ARes → BL → Prop} (hn : xs.length = 3) (hB : onlyOuter B = true) (h : awp ⟨PT, 49, exitX slices_BinarySearchFunc_api_Dirent_api_Dirent_string.rs K⟩ 10000 [.code slices_BinarySearchFunc_api_Dirent_api_Dirent_string.rc] ⟨params 0 xs, B, .nil⟩) : CallAt PT slices_BinarySearchFunc_api_Dirent_api_Dirent_string xs d B K :=
  call_of_awp 10000 Tryd.func56 rfl (by kernel_rfl) (by kernel_rfl) (by kernel_rfl) (by rw [hn]; decide) hB h
abbrev fs_call_kid_1 : Nat := 57
def fs_call_kid_1.rc : RC :=
  (.seq (.reg [R.q 2 (.box (R.t 0)),
    R.q 4 (.mov (R.i 0))])
  (.seq (.reg [R.q 5 (.fld 0 (R.t 2)),
    R.q 6 (.load1 (R.t 5)),
    R.q 7 (.mov (R.t 1)),
    R.q 8 (.call 58 [(R.t 6), (R.t 7)]),
    R.q 4 (.mov (R.t 8))])
  .ret))
def fs_call_kid_1.rs : List RRes := [.tmp 4]
theorem fs_call_kid_1.of {xs : List AV} {d : Nat} {B : BL} {K : ARes → BL → Prop} (hn : xs.length = 2) (hB : onlyOuter B = true) (h : awp ⟨PT, 9, exitX fs_call_kid_1.rs K⟩ 10000 [.code fs_call_kid_1.rc] ⟨params 0 xs, B, .nil⟩) : CallAt PT fs_call_kid_1 xs d B K :=
  call_of_awp 10000 Tryd.func57 rfl (by kernel_rfl) (by kernel_rfl) (by kernel_rfl) (by rw [hn]; decide) hB h
abbrev strings_Compare : Nat := 58
def strings_Compare.rc : RC :=
  (.seq (.reg [R.q 4 (.mov (R.i 0))])
  (.seq (.reg [R.q 5 (.mov (R.t 0)),
    R.q 6 (.mov (R.t 1)),
    R.q 7 (.call 69 [(R.t 5), (R.t 6)]),
    R.q 4 (.mov (R.t 7))])
  .ret))
def strings_Compare.rs : List RRes := [.tmp 4]
theorem strings_Compare.of {xs : List AV} {d : Nat} {B : BL} {K : ARes → BL → Prop} (hn : xs.length = 2) (hB : onlyOuter B = true) (h : awp ⟨PT, 8, exitX strings_Compare.rs K⟩ 10000 [.code strings_Compare.rc] ⟨params 0 xs, B, .nil⟩) : CallAt PT strings_Compare xs d B K :=
  call_of_awp 10000 Tryd.func58 rfl (by kernel_rfl) (by kernel_rfl) (by kernel_rfl) (by rw [hn]; decide) hB h
abbrev r15_names : Nat := 61
def r15_names.rc : RC :=
  (.seq (.reg [R.q 2 (.mov (.val .nsl))])
  (.seq (.reg [R.q 3 (.mov (.val .nsl))])
  (.seq (.reg [R.q 4 (.mov (R.i 0))])
  (.seq (.seq (.reg [R.q 5 (.mov (R.i 0))])
  (.block 0 (.loop
     (.seq (.seq (.reg [R.q 6 (.mov (R.t 5)),
       R.q 7 (.mov (R.t 0)),
       R.q 8 (.lenS (R.t 7)),
       R.q 9 (.bin .leq .no (R.t 6) (R.t 8))])
     (.cond (R.t 9)
       .skip
       (.exit 0)))
     (.seq (.block 1 (.seq (.reg [R.q 12 (.mov (R.t 5)),
        R.q 13 (.mov (R.t 0)),
        R.q 14 (.lenS (R.t 13)),
        R.q 15 (.bin .eql .no (R.t 12) (R.t 14)),
        R.q 16 (.mov (R.t 15)),
        R.g 17 (.mov (R.t 0)) 16 false,
        R.g 18 (.mov (R.t 5)) 16 false,
        R.g 19 (.idxS (R.t 17) (R.t 18)) 16 false,
        R.g 20 (.bin .eql .no (R.t 19) (R.u 47)) 16 false,
        R.q 21 (.pick (R.t 16) R.tt (R.t 20))])
      (.cond (R.t 21)
        (.seq (.reg [R.q 22 (.mov (R.t 3)),
          R.q 23 (.mov (R.t 0)),
          R.q 24 (.mov (R.t 4)),
          R.q 25 (.mov (R.t 5)),
          R.q 26 (.sliceS (R.t 23) (some (R.t 24)) (some (R.t 25))),
          R.q 27 (.bslice 1 (.cons (.str fun _ => []) .nil) 1 [(0, 1, (R.t 26))]),
          R.q 28 (.append 1 16 (R.t 22) (R.t 27)),
          R.q 3 (.mov (R.t 28))])
        (.reg [R.q 29 (.mov (R.t 5)),
          R.q 30 (.bin .add .no (R.t 29) (R.i 1)),
          R.q 4 (.mov (R.t 30))]))
        .skip)))
     (.reg [R.q 10 (.mov (R.t 5)),
       R.q 11 (.bin .add .no (R.t 10) (R.i 1)),
       R.q 5 (.mov (R.t 11))]))))))
  (.seq (.reg [R.q 31 (.mov (R.t 3)),
    R.q 2 (.mov (R.t 31))])
  .ret)))))
def r15_names.rs : List RRes := [.tmp 2]
theorem r15_names.of {xs : List AV} {d : Nat} {B : BL} {K : ARes → BL → Prop} (hn : xs.length = 1) (hB : onlyOuter B = true) (h : awp ⟨PT, 32, exitX r15_names.rs K⟩ 10000 [.code r15_names.rc] ⟨params 0 xs, B, .nil⟩) : CallAt PT r15_names xs d B K :=
  call_of_awp 10000 Tryd.func61 rfl (by kernel_rfl) (by kernel_rfl) (by kernel_rfl) (by rw [hn]; decide) hB h
abbrev r15_MayName : Nat := 62
def r15_MayName.rc : RC :=
  (.seq (.reg [R.q 2 (.mov R.ff)])
  (.seq (.seq (.reg [R.q 4 (.mov (R.t 0)),
    R.q 5 (.lenS (R.t 4)),
    R.q 6 (.bin .eql .no (R.t 5) (R.i 0)),
    R.q 7 (.mov (R.t 6)),
    R.g 8 (.mov (R.t 0)) 7 false,
    R.g 9 (.lenS (R.t 8)) 7 false,
    R.g 10 (.bin .gtr .no (R.t 9) (R.i 255)) 7 false,
    R.q 11 (.pick (R.t 7) R.tt (R.t 10)),
    R.q 12 (.mov (R.t 11)),
    R.g 13 (.mov (R.t 0)) 12 false,
    R.g 14 (.bin .eql .no (R.t 13) (.val (.str fun _ => [46]))) 12 false,
    R.q 15 (.pick (R.t 12) R.tt (R.t 14)),
    R.q 16 (.mov (R.t 15)),
    R.g 17 (.mov (R.t 0)) 16 false,
    R.g 18 (.bin .eql .no (R.t 17) (.val (.str fun _ => [46, 46]))) 16 false,
    R.q 19 (.pick (R.t 16) R.tt (R.t 18))])
  (.cond (R.t 19)
    (.seq (.reg [R.q 2 (.mov R.ff)])
    .ret)
    .skip))
  (.seq (.seq (.reg [R.q 3 (.mov (R.i 0))])
  (.block 0 (.loop
     (.seq (.seq (.reg [R.q 20 (.mov (R.t 3)),
       R.q 21 (.mov (R.t 0)),
       R.q 22 (.lenS (R.t 21)),
       R.q 23 (.bin .lss .no (R.t 20) (R.t 22))])
     (.cond (R.t 23)
       .skip
       (.exit 0)))
     (.seq (.block 1 (.seq (.reg [R.q 26 (.mov (R.t 0)),
        R.q 27 (.mov (R.t 3)),
        R.q 28 (.idxS (R.t 26) (R.t 27)),
        R.q 29 (.bin .eql .no (R.t 28) (R.u 0)),
        R.q 30 (.mov (R.t 29)),
        R.g 31 (.mov (R.t 0)) 30 false,
        R.g 32 (.mov (R.t 3)) 30 false,
        R.g 33 (.idxS (R.t 31) (R.t 32)) 30 false,
        R.g 34 (.bin .eql .no (R.t 33) (R.u 47)) 30 false,
        R.q 35 (.pick (R.t 30) R.tt (R.t 34))])
      (.cond (R.t 35)
        (.seq (.reg [R.q 2 (.mov R.ff)])
        .ret)
        .skip)))
     (.reg [R.q 24 (.mov (R.t 3)),
       R.q 25 (.bin .add .no (R.t 24) (R.i 1)),
       R.q 3 (.mov (R.t 25))]))))))
  (.seq (.reg [R.q 2 (.mov R.tt)])
  .ret))))
def r15_MayName.rs : List RRes := [.tmp 2]
theorem r15_MayName.of {xs : List AV} {d : Nat} {B : BL} {K : ARes → BL → Prop} (hn : xs.length = 1) (hB : onlyOuter B = true) (h : awp ⟨PT, 36, exitX r15_MayName.rs K⟩ 10000 [.code r15_MayName.rc] ⟨params 0 xs, B, .nil⟩) : CallAt PT r15_MayName xs d B K :=
  call_of_awp 10000 Tryd.func62 rfl (by kernel_rfl) (by kernel_rfl) (by kernel_rfl) (by rw [hn]; decide) hB h
abbrev r18_list : Nat := 63
def r18_list.rc : RC :=
  (.seq (.reg [R.q 1 (.box (R.t 0)),
    R.q 2 (.mov (.val .nsl))])
  (.seq (.seq (.reg [R.q 3 (.fld 5 (R.t 1)),
    R.q 4 (.load1 (R.t 3)),
    R.q 5 (.len (R.t 4)),
    R.q 6 (.bin .gtr .no (R.t 5) (R.i 0))])
  (.cond (R.t 6)
    (.seq (.reg [R.q 7 (.fld 5 (R.t 1)),
      R.q 8 (.load1 (R.t 7)),
      R.q 2 (.mov (R.t 8))])
    .ret)
    .skip))
  (.seq (.reg [R.q 9 (.fld 0 (R.t 1)),
    R.q 10 (.load1 (R.t 9)),
    R.q 11 (.call 73 [(R.t 10)]),
    R.q 2 (.mov (R.t 11))])
  .ret)))
def r18_list.rs : List RRes := [.tmp 2]
theorem r18_list.of {xs : List AV} {d : Nat} {B : BL} {K : ARes → BL → Prop} (hn : xs.length = 1) (hB : onlyOuter B = true) (h : awp ⟨PT, 12, exitX r18_list.rs K⟩ 10000 [.code r18_list.rc] ⟨params 0 xs, B, .nil⟩) : CallAt PT r18_list xs d B K :=
  call_of_awp 10000 Tryd.func63 rfl (by kernel_rfl) (by kernel_rfl) (by kernel_rfl) (by rw [hn]; decide) hB h
abbrev entry_Path : Nat := 64
def entry_Path.rc : RC :=
  (.seq (.reg [R.q 2 (.mov R.ff)])
  (.seq (.reg [R.q 6 (.mov (R.t 0)),
    R.q 7 (.call 65 [(R.t 6), (.val (.str fun _ => [47]))]),
    R.q 3 (.mov (R.t 7))])
  (.seq (.seq (.reg [R.q 8 (.mov (R.t 3)),
    R.q 9 (.len (R.t 8)),
    R.q 10 (.mov (R.i 0))])
  (.block 0 (.loop
     (.seq (.reg [R.q 11 (.bin .lss .no (R.t 10) (R.t 9))])
     (.seq (.cond (R.t 11)
       .skip
       (.exit 0))
     (.seq (.block 1 (.seq (.reg [R.q 12 (.idx 1 (R.t 8) (R.t 10)),
        R.q 13 (.load1 (R.t 12)),
        R.q 5 (.mov (R.t 13))])
      (.seq (.reg [R.q 14 (.mov (R.t 5)),
        R.q 15 (.call 74 [(R.t 14)]),
        R.q 16 (.un .not (R.t 15))])
      (.cond (R.t 16)
        (.seq (.reg [R.q 2 (.mov R.ff)])
        .ret)
        .skip))))
     (.reg [R.q 17 (.bin .add .no (R.t 10) (R.i 1)),
       R.q 10 (.mov (R.t 17))])))))))
  (.seq (.reg [R.q 18 (.mov (R.t 0)),
    R.q 19 (.lenS (R.t 18)),
    R.q 20 (.bin .leq .no (R.t 19) (R.i 4096)),
    R.q 21 (.mov (R.t 20)),
    R.g 22 (.mov (R.t 3)) 21 true,
    R.g 23 (.len (R.t 22)) 21 true,
    R.g 24 (.bin .leq .no (R.t 23) (R.i 64)) 21 true,
    R.q 25 (.pick (R.t 21) (R.t 24) R.ff),
    R.q 26 (.mov (R.t 25)),
    R.g 27 (.mov (R.t 0)) 26 true,
    R.g 28 (.call 67 [(R.t 27), (.val (.str fun _ => [0]))]) 26 true,
    R.g 29 (.un .not (R.t 28)) 26 true,
    R.q 30 (.pick (R.t 26) (R.t 29) R.ff),
    R.q 2 (.mov (R.t 30))])
  .ret))))
def entry_Path.rs : List RRes := [.tmp 2]
theorem entry_Path.of {xs : List AV} {d : Nat} {B : BL} {K : ARes → BL → Prop} (hn : xs.length = 1) (hB : onlyOuter B = true) (h : awp ⟨PT, 31, exitX entry_Path.rs K⟩ 10000 [.code entry_Path.rc] ⟨params 0 xs, B, .nil⟩) : CallAt PT entry_Path xs d B K :=
  call_of_awp 10000 Tryd.func64 rfl (by kernel_rfl) (by kernel_rfl) (by kernel_rfl) (by rw [hn]; decide) hB h
abbrev strings_Split : Nat := 65
def strings_Split.rc : RC :=
  (.seq (.reg [R.q 4 (.mov (.val .nsl))])
  (.seq (.reg [R.q 5 (.mov (R.t 0)),
    R.q 6 (.mov (R.t 1)),
    R.q 7 (.call 75 [(R.t 5), (R.t 6), (R.i 0), (R.i (-1))]),
    R.q 4 (.mov (R.t 7))])
  .ret))
def strings_Split.rs : List RRes := [.tmp 4]
theorem strings_Split.of {xs : List AV} {d : Nat} {B : BL} {K : ARes → BL → Prop} (hn : xs.length = 2) (hB : onlyOuter B = true) (h : awp ⟨PT, 8, exitX strings_Split.rs K⟩ 10000 [.code strings_Split.rc] ⟨params 0 xs, B, .nil⟩) : CallAt PT strings_Split xs d B K :=
  call_of_awp 10000 Tryd.func65 rfl (by kernel_rfl) (by kernel_rfl) (by kernel_rfl) (by rw [hn]; decide) hB h
abbrev slices_Index_int_int : Nat := 66
def slices_Index_int_int.rc : RC :=
  (.seq (.reg [R.q 4 (.mov (R.i 0))])
  (.seq (.seq (.reg [R.q 6 (.mov (R.t 0)),
    R.q 7 (.len (R.t 6)),
    R.q 8 (.mov (R.i 0))])
  (.block 0 (.loop
     (.seq (.reg [R.q 9 (.bin .lss .no (R.t 8) (R.t 7))])
     (.seq (.cond (R.t 9)
       .skip
       (.exit 0))
     (.seq (.block 1 (.seq (.reg [R.q 10 (.mov (R.t 8)),
        R.q 5 (.mov (R.t 10))])
      (.seq (.reg [R.q 11 (.mov (R.t 1)),
        R.q 12 (.mov (R.t 0)),
        R.q 13 (.mov (R.t 5)),
        R.q 14 (.idx 1 (R.t 12) (R.t 13)),
        R.q 15 (.load1 (R.t 14)),
        R.q 16 (.bin .eql .no (R.t 11) (R.t 15))])
      (.cond (R.t 16)
        (.seq (.reg [R.q 17 (.mov (R.t 5)),
          R.q 4 (.mov (R.t 17))])
        .ret)
        .skip))))
     (.reg [R.q 18 (.bin .add .no (R.t 8) (R.i 1)),
       R.q 8 (.mov (R.t 18))])))))))
  (.seq (.reg [R.q 4 (.mov (R.i (-1)))])
  .ret)))
def slices_Index_int_int.rs : List RRes := [.tmp 4]
theorem slices_Index_int_int.of {xs : List AV} {d : Nat} {B : BL} {K : ARes → BL → Prop} (hn : xs.length = 2) (hB : onlyOuter B = true) (h : awp ⟨PT, 19, exitX slices_Index_int_int.rs K⟩ 10000 [.code slices_Index_int_int.rc] ⟨params 0 xs, B, .nil⟩) : CallAt PT slices_Index_int_int xs d B K :=
  call_of_awp 10000 Tryd.func66 rfl (by kernel_rfl) (by kernel_rfl) (by kernel_rfl) (by rw [hn]; decide) hB h
abbrev strings_Contains : Nat := 67
def strings_Contains.rc : RC :=
  (.seq (.reg [R.q 4 (.mov R.ff)])
  (.seq (.reg [R.q 5 (.mov (R.t 0)),
    R.q 6 (.mov (R.t 1)),
    R.q 7 (.call 76 [(R.t 5), (R.t 6)]),
    R.q 8 (.bin .geq .no (R.t 7) (R.i 0)),
    R.q 4 (.mov (R.t 8))])
  .ret))
def strings_Contains.rs : List RRes := [.tmp 4]
theorem strings_Contains.of {xs : List AV} {d : Nat} {B : BL} {K : ARes → BL → Prop} (hn : xs.length = 2) (hB : onlyOuter B = true) (h : awp ⟨PT, 9, exitX strings_Contains.rs K⟩ 10000 [.code strings_Contains.rc] ⟨params 0 xs, B, .nil⟩) : CallAt PT strings_Contains xs d B K :=
  call_of_awp 10000 Tryd.func67 rfl (by kernel_rfl) (by kernel_rfl) (by kernel_rfl) (by rw [hn]; decide) hB h
abbrev right_Can : Nat := 68
def right_Can.rc : RC :=
  (.seq (.reg [R.q 3 (.box (R.t 0)),
    R.q 4 (.box (R.t 1)),
    R.q 5 (.box (R.t 2)),
    R.q 6 (.mov R.ff)])
  (.seq (.seq (.reg [R.q 7 (.load1 (R.t 5)),
    R.q 8 (.bin .lss .no (R.t 7) (R.i 0)),
    R.q 9 (.mov (R.t 8)),
    R.g 10 (.load1 (R.t 5)) 9 false,
    R.g 11 (.bin .gtr .no (R.t 10) (R.i 7)) 9 false,
    R.q 12 (.pick (R.t 9) R.tt (R.t 11))])
  (.cond (R.t 12)
    (.seq (.reg [R.q 6 (.mov R.ff)])
    .ret)
    .skip))
  (.seq (.reg [R.q 13 (.fld 3 (R.t 4)),
    R.q 14 (.load1 (R.t 13)),
    R.q 15 (.bin .and .no (R.t 14) (R.i 2)),
    R.q 16 (.bin .gtr .no (R.t 15) (R.i 0)),
    R.q 17 (.mov (R.t 16)),
    R.g 18 (.mkfn (.func 78) [] [(R.t 3), (R.t 4), (R.t 5)]) 17 false,
    R.g 19 (.call 77 [(R.t 18)]) 17 false,
    R.q 20 (.pick (R.t 17) R.tt (R.t 19)),
    R.q 6 (.mov (R.t 20))])
  .ret)))
def right_Can.rs : List RRes := [.tmp 6]
theorem right_Can.of {xs : List AV} {d : Nat} {B : BL} {K : ARes → BL → Prop} (hn : xs.length = 3) (hB : onlyOuter B = true) (h : awp ⟨PT, 21, exitX right_Can.rs K⟩ 10000 [.code right_Can.rc] ⟨params 0 xs, B, .nil⟩) : CallAt PT right_Can xs d B K :=
  call_of_awp 10000 Tryd.func68 rfl (by kernel_rfl) (by kernel_rfl) (by kernel_rfl) (by rw [hn]; decide) hB h
abbrev slices_Clone_api_Dirent_api_Dirent : Nat := 70
def slices_Clone_api_Dirent_api_Dirent.rc : RC :=
  (.seq (.reg [R.q 2 (.mov (.val .nsl))])
  (.seq (.seq (.reg [R.q 3 (.mov (R.t 0)),
    R.q 4 (.isNil true (R.t 3))])
  (.cond (R.t 4)
    (.seq (.reg [R.q 2 (.mov (.val .nsl))])
    .ret)
    .skip))
  (.seq (.reg [R.q 5 (.bslice 2 (.cons (.str fun _ => []) (.cons (R.z 0) .nil)) 0 []),
    R.q 6 (.mov (R.t 0)),
    R.q 7 (.append 2 24 (R.t 5) (R.t 6)),
    R.q 2 (.mov (R.t 7))])
  .ret)))
def slices_Clone_api_Dirent_api_Dirent.rs : List RRes := [.tmp 2]
theorem slices_Clone_api_Dirent_api_Dirent.of {xs : List AV} {d : Nat} {B : BL} {K : ARes → BL → Prop} (hn : xs.length = 1) (hB : onlyOuter B = true) (h : awp ⟨PT, 8, exitX slices_Clone_api_Dirent_api_Dirent.rs K⟩ 10000 [.code slices_Clone_api_Dirent_api_Dirent.rc] ⟨params 0 xs, B, .nil⟩) : CallAt PT slices_Clone_api_Dirent_api_Dirent xs d B K :=
  call_of_awp 10000 Tryd.func70 rfl (by kernel_rfl) (by kernel_rfl) (by kernel_rfl) (by rw [hn]; decide) hB h
abbrev r9_FromMode : Nat := 73
def r9_FromMode.rc : RC :=
  (.seq (.reg [R.q 2 (.mov (.val .nsl))])
  (.seq (.reg [R.q 3 (.mov (R.t 0)),
    R.q 4 (.bin .shr .no (R.t 3) (.val (.int .u64 fun _ => 6))),
    R.q 5 (.bin .and .no (R.t 4) (R.i 7)),
    R.q 6 (.build (.cons (R.z 0) (.cons (R.z 0) (.cons (R.z 0) .nil))) [(0, 1, (R.i 1)), (2, 1, (R.t 5))]),
    R.q 7 (.mov (R.t 0)),
    R.q 8 (.bin .shr .no (R.t 7) (.val (.int .u64 fun _ => 3))),
    R.q 9 (.bin .and .no (R.t 8) (R.i 7)),
    R.q 10 (.build (.cons (R.z 0) (.cons (R.z 0) (.cons (R.z 0) .nil))) [(0, 1, (R.i 3)), (2, 1, (R.t 9))]),
    R.q 11 (.mov (R.t 0)),
    R.q 12 (.bin .and .no (R.t 11) (R.i 7)),
    R.q 13 (.build (.cons (R.z 0) (.cons (R.z 0) (.cons (R.z 0) .nil))) [(0, 1, (R.i 6)), (2, 1, (R.t 12))]),
    R.q 14 (.bslice 3 (.cons (R.z 0) (.cons (R.z 0) (.cons (R.z 0) .nil))) 3 [(0, 3, (R.t 6)), (3, 3, (R.t 10)), (6, 3, (R.t 13))]),
    R.q 2 (.mov (R.t 14))])
  .ret))
def r9_FromMode.rs : List RRes := [.tmp 2]
theorem r9_FromMode.of {xs : List AV} {d : Nat} {B : BL} {K : ARes → BL → Prop} (hn : xs.length = 1) (hB : onlyOuter B = true) (h : awp ⟨PT, 15, exitX r9_FromMode.rs K⟩ 10000 [.code r9_FromMode.rc] ⟨params 0 xs, B, .nil⟩) : CallAt PT r9_FromMode xs d B K :=
  call_of_awp 10000 Tryd.func73 rfl (by kernel_rfl) (by kernel_rfl) (by kernel_rfl) (by rw [hn]; decide) hB h
abbrev entry_name : Nat := 74
def entry_name.rc : RC :=
  (.seq (.reg [R.q 2 (.mov R.ff)])
  (.seq (.reg [R.q 3 (.mov (R.t 0)),
    R.q 4 (.bin .neq .no (R.t 3) (.val (.str fun _ => []))),
    R.q 5 (.mov (R.t 4)),
    R.g 6 (.mov (R.t 0)) 5 true,
    R.g 7 (.lenS (R.t 6)) 5 true,
    R.g 8 (.bin .leq .no (R.t 7) (R.i 255)) 5 true,
    R.q 9 (.pick (R.t 5) (R.t 8) R.ff),
    R.q 10 (.mov (R.t 9)),
    R.g 11 (.mov (R.t 0)) 10 true,
    R.g 12 (.bin .neq .no (R.t 11) (.val (.str fun _ => [46]))) 10 true,
    R.q 13 (.pick (R.t 10) (R.t 12) R.ff),
    R.q 14 (.mov (R.t 13)),
    R.g 15 (.mov (R.t 0)) 14 true,
    R.g 16 (.bin .neq .no (R.t 15) (.val (.str fun _ => [46, 46]))) 14 true,
    R.q 17 (.pick (R.t 14) (R.t 16) R.ff),
    R.q 2 (.mov (R.t 17))])
  .ret))
def entry_name.rs : List RRes := [.tmp 2]
theorem entry_name.of {xs : List AV} {d : Nat} {B : BL} {K : ARes → BL → Prop} (hn : xs.length = 1) (hB : onlyOuter B = true) (h : awp ⟨PT, 18, exitX entry_name.rs K⟩ 10000 [.code entry_name.rc] ⟨params 0 xs, B, .nil⟩) : CallAt PT entry_name xs d B K :=
  call_of_awp 10000 Tryd.func74 rfl (by kernel_rfl) (by kernel_rfl) (by kernel_rfl) (by rw [hn]; decide) hB h
abbrev strings_genSplit : Nat := 75
def strings_genSplit.rc : RC :=
  (.seq (.reg [R.q 8 (.mov (.val .nsl))])
  (.seq (.seq (.reg [R.q 12 (.mov (R.t 3)),
    R.q 13 (.bin .eql .no (R.t 12) (R.i 0))])
  (.cond (R.t 13)
    (.seq (.reg [R.q 8 (.mov (.val .nsl))])
    .ret)
    .skip))
  (.seq (.seq (.reg [R.q 14 (.mov (R.t 1)),
    R.q 15 (.bin .eql .no (R.t 14) (.val (.str fun _ => [])))])
  (.cond (R.t 15)
    (.seq (.reg [R.q 16 (.mov (R.t 0)),
      R.q 17 (.mov (R.t 3)),
      R.q 18 (.call 82 [(R.t 16), (R.t 17)]),
      R.q 8 (.mov (R.t 18))])
    .ret)
    .skip))
  (.seq (.seq (.reg [R.q 19 (.mov (R.t 3)),
    R.q 20 (.bin .lss .no (R.t 19) (R.i 0))])
  (.cond (R.t 20)
    (.reg [R.q 21 (.mov (R.t 0)),
      R.q 22 (.mov (R.t 1)),
      R.q 23 (.call 83 [(R.t 21), (R.t 22)]),
      R.q 24 (.bin .add .no (R.t 23) (R.i 1)),
      R.q 3 (.mov (R.t 24))])
    .skip))
  (.seq (.reg [R.q 25 (.mov (R.t 3)),
    R.q 26 (.mov (R.t 0)),
    R.q 27 (.lenS (R.t 26)),
    R.q 28 (.bin .add .no (R.t 27) (R.i 1)),
    R.q 29 (.mm false [(R.t 25), (R.t 28)]),
    R.q 3 (.mov (R.t 29))])
  (.seq (.reg [R.q 30 (.mov (R.t 3)),
    R.q 31 (.mks 1 16 (.cons (.str fun _ => []) .nil) (R.t 30) (R.t 30)),
    R.q 9 (.mov (R.t 31))])
  (.seq (.reg [R.q 32 (.mov (R.t 3)),
    R.q 33 (.bin .sub .no (R.t 32) (R.i 1)),
    R.q 3 (.mov (R.t 33))])
  (.seq (.reg [R.q 10 (.mov (R.i 0))])
  (.seq (.block 0 (.loop
     (.seq (.seq (.reg [R.q 34 (.mov (R.t 10)),
       R.q 35 (.mov (R.t 3)),
       R.q 36 (.bin .lss .no (R.t 34) (R.t 35))])
     (.cond (R.t 36)
       .skip
       (.exit 0)))
     (.block 1 (.seq (.reg [R.q 37 (.mov (R.t 0)),
        R.q 38 (.mov (R.t 1)),
        R.q 39 (.call 76 [(R.t 37), (R.t 38)]),
        R.q 11 (.mov (R.t 39))])
      (.seq (.seq (.reg [R.q 40 (.mov (R.t 11)),
        R.q 41 (.bin .lss .no (R.t 40) (R.i 0))])
      (.cond (R.t 41)
        (.exit 0)
        .skip))
      (.seq (.reg [R.q 42 (.mov (R.t 9)),
        R.q 43 (.mov (R.t 10)),
        R.q 44 (.mov (R.t 0)),
        R.q 45 (.mov (R.t 11)),
        R.q 46 (.mov (R.t 2)),
        R.q 47 (.bin .add .no (R.t 45) (R.t 46)),
        R.q 48 (.sliceS (R.t 44) none (some (R.t 47))),
        R.q 49 (.idx 1 (R.t 42) (R.t 43)),
        R.e (.store 1 (R.t 49) (R.t 48))])
      (.seq (.reg [R.q 50 (.mov (R.t 0)),
        R.q 51 (.mov (R.t 11)),
        R.q 52 (.mov (R.t 1)),
        R.q 53 (.lenS (R.t 52)),
        R.q 54 (.bin .add .no (R.t 51) (R.t 53)),
        R.q 55 (.sliceS (R.t 50) (some (R.t 54)) none),
        R.q 0 (.mov (R.t 55))])
      (.reg [R.q 56 (.mov (R.t 10)),
        R.q 57 (.bin .add .no (R.t 56) (R.i 1)),
        R.q 10 (.mov (R.t 57))])))))))))
  (.seq (.reg [R.q 58 (.mov (R.t 9)),
    R.q 59 (.mov (R.t 10)),
    R.q 60 (.mov (R.t 0)),
    R.q 61 (.idx 1 (R.t 58) (R.t 59)),
    R.e (.store 1 (R.t 61) (R.t 60))])
  (.seq (.reg [R.q 62 (.mov (R.t 9)),
    R.q 63 (.mov (R.t 10)),
    R.q 64 (.bin .add .no (R.t 63) (R.i 1)),
    R.q 65 (.slice 1 (R.t 62) none (some (R.t 64))),
    R.q 8 (.mov (R.t 65))])
  .ret)))))))))))
def strings_genSplit.rs : List RRes := [.tmp 8]
theorem strings_genSplit.of {xs : List AV} {d : Nat} {B : BL} {K : ARes → BL → Prop} (hn : xs.length = 4) (hB : onlyOuter B = true) (h : awp ⟨PT, 66, exitX strings_genSplit.rs K⟩ 10000 [.code strings_genSplit.rc] ⟨params 0 xs, B, .nil⟩) : CallAt PT strings_genSplit xs d B K :=
  call_of_awp 10000 Tryd.func75 rfl (by kernel_rfl) (by kernel_rfl) (by kernel_rfl) (by rw [hn]; decide) hB h
abbrev strings_Index : Nat := 76
def strings_Index.rc : RC :=
  (.seq (.reg [R.q 4 (.mov (R.i 0))])
  (.seq (.reg [R.q 5 (.mov (R.t 0)),
    R.q 6 (.mov (R.t 1)),
    R.q 7 (.call 84 [(R.t 5), (R.t 6)]),
    R.q 4 (.mov (R.t 7))])
  .ret))
def strings_Index.rs : List RRes := [.tmp 4]
theorem strings_Index.of {xs : List AV} {d : Nat} {B : BL} {K : ARes → BL → Prop} (hn : xs.length = 2) (hB : onlyOuter B = true) (h : awp ⟨PT, 8, exitX strings_Index.rs K⟩ 10000 [.code strings_Index.rc] ⟨params 0 xs, B, .nil⟩) : CallAt PT strings_Index xs d B K :=
  call_of_awp 10000 Tryd.func76 rfl (by kernel_rfl) (by kernel_rfl) (by kernel_rfl) (by rw [hn]; decide) hB h
abbrev right_look_bool : Nat := 77
def right_look_bool.rc : RC :=
  (.seq (.reg [R.q 2 (.alloc (.cons .ff .nil))])
  (.seq (.reg [R.q 3 (.mkfn (.func 85) [] [(R.t 2)]),
    R.e (.defer (R.t 3) [])])
  (.seq (.reg [R.q 4 (.mov (R.t 0)),
    R.q 5 (.callv (R.t 4) []),
    R.e (.store 1 (R.t 2) (R.t 5))])
  .ret)))
def right_look_bool.rs : List RRes := [.cell1 2]
theorem right_look_bool.of {xs : List AV} {d : Nat} {B : BL} {K : ARes → BL → Prop} (hn : xs.length = 1) (hB : onlyOuter B = true) (h : awp ⟨PT, 6, exitD PT right_look_bool.rs K⟩ 10000 [.code right_look_bool.rc] ⟨params 0 xs, B, .nil⟩) : CallAt PT right_look_bool xs d B K :=
  call_of_awp_d 10000 Tryd.func77 rfl (by kernel_rfl) (by kernel_rfl) (by kernel_rfl) (by rw [hn]; decide) hB h
abbrev right_Can_1 : Nat := 78
def right_Can_1.rc : RC :=
  (.seq (.reg [R.q 3 (.mov R.ff)])
  (.seq (.reg [R.q 4 (.loadA 14 (R.t 0)),
    R.q 5 (.loadA 4 (R.t 1)),
    R.q 6 (.load1 (R.t 2)),
    R.q 7 (.call 79 [(R.t 4), (R.t 5), (R.t 6)]),
    R.q 3 (.mov (R.t 7))])
  .ret))
def right_Can_1.rs : List RRes := [.tmp 3]
theorem right_Can_1.of {xs : List AV} {d : Nat} {B : BL} {K : ARes → BL → Prop} (hn : xs.length = 3) (hB : onlyOuter B = true) (h : awp ⟨PT, 8, exitX right_Can_1.rs K⟩ 10000 [.code right_Can_1.rc] ⟨params 0 xs, B, .nil⟩) : CallAt PT right_Can_1 xs d B K :=
  call_of_awp 10000 Tryd.func78 rfl (by kernel_rfl) (by kernel_rfl) (by kernel_rfl) (by rw [hn]; decide) hB h
abbrev right_can : Nat := 79
def right_can.rc : RC :=
  (.seq (.reg [R.q 3 (.box (R.t 0)),
    R.q 4 (.box (R.t 1)),
    R.q 5 (.box (R.t 2)),
    R.q 6 (.mov R.ff)])
  (.seq (.reg [R.q 14 (.loadA 14 (R.t 3)),
    R.q 15 (.call 86 [(R.t 14)]),
    R.q 7 (.mov (R.t 15))])
  (.seq (.reg [R.q 16 (.mkfn (.func 87) [] [(R.t 5)]),
    R.q 8 (.mov (R.t 16))])
  (.seq (.seq (.reg [R.q 17 (.fld 1 (R.t 3)),
    R.q 18 (.load1 (R.t 17)),
    R.q 19 (.fld 0 (R.t 4)),
    R.q 20 (.load1 (R.t 19)),
    R.q 21 (.bin .eql .no (R.t 18) (R.t 20))])
  (.cond (R.t 21)
    (.seq (.reg [R.q 22 (.mov (R.t 8)),
      R.q 23 (.mov (R.t 7)),
      R.q 24 (.call 88 [(R.t 23), (R.i 1)]),
      R.q 25 (.callv (R.t 22) [(R.t 24)]),
      R.q 6 (.mov (R.t 25))])
    .ret)
    .skip))
  (.seq (.reg [R.q 26 (.mov (R.t 7)),
    R.q 27 (.call 89 [(R.t 26)]),
    R.q 9 (.mov (R.t 27))])
  (.seq (.reg [R.q 10 (.mov R.ff),
    R.q 11 (.mov R.ff)])
  (.seq (.seq (.reg [R.q 28 (.mov (R.t 7)),
    R.q 29 (.len (R.t 28)),
    R.q 30 (.mov (R.i 0))])
  (.block 0 (.loop
     (.seq (.reg [R.q 31 (.bin .lss .no (R.t 30) (R.t 29))])
     (.seq (.cond (R.t 31)
       .skip
       (.exit 0))
     (.seq (.block 1 (.seq (.reg [R.q 32 (.idx 3 (R.t 28) (R.t 30)),
        R.q 33 (.loadA 3 (R.t 32)),
        R.q 13 (.alloc (.cons (R.z 0) (.cons (R.z 0) (.cons (R.z 0) .nil)))),
        R.e (.store 3 (R.t 13) (R.t 33))])
      (.block 2 (.seq (.reg [R.q 35 (.fld 0 (R.t 13)),
         R.q 36 (.load1 (R.t 35)),
         R.q 37 (.bin .eql .no (R.t 36) (R.i 2)),
         R.q 38 (.mov (R.t 37)),
         R.g 39 (.fld 1 (R.t 13)) 38 true,
         R.g 40 (.load1 (R.t 39)) 38 true,
         R.g 41 (.fld 0 (R.t 4)) 38 true,
         R.g 42 (.load1 (R.t 41)) 38 true,
         R.g 43 (.bin .eql .no (R.t 40) (R.t 42)) 38 true,
         R.q 44 (.pick (R.t 38) (R.t 43) R.ff),
         R.q 34 (.mov (R.t 44))])
       (.cond (R.t 34)
         (.seq (.reg [R.q 45 (.mov (R.t 8)),
           R.q 46 (.fld 2 (R.t 13)),
           R.q 47 (.load1 (R.t 46)),
           R.q 48 (.mov (R.t 9)),
           R.q 49 (.bin .and .no (R.t 47) (R.t 48)),
           R.q 50 (.callv (R.t 45) [(R.t 49)]),
           R.q 6 (.mov (R.t 50))])
         .ret)
         (.seq (.reg [R.q 52 (.fld 0 (R.t 13)),
           R.q 53 (.load1 (R.t 52)),
           R.q 54 (.bin .eql .no (R.t 53) (R.i 3)),
           R.q 55 (.mov (R.t 54)),
           R.g 56 (.loadA 4 (R.t 4)) 55 true,
           R.g 57 (.fld 2 (R.t 3)) 55 true,
           R.g 58 (.load1 (R.t 57)) 55 true,
           R.g 59 (.call 90 [(R.t 56), (R.t 58)]) 55 true,
           R.q 60 (.pick (R.t 55) (R.t 59) R.ff),
           R.q 61 (.mov (R.t 60)),
           R.g 62 (.fld 0 (R.t 13)) 61 false,
           R.g 63 (.load1 (R.t 62)) 61 false,
           R.g 64 (.bin .eql .no (R.t 63) (R.i 4)) 61 false,
           R.g 65 (.mov (R.t 64)) 61 false,
           R.g 66 (.loadA 4 (R.t 4)) 65 true,
           R.g 67 (.fld 1 (R.t 13)) 65 true,
           R.g 68 (.load1 (R.t 67)) 65 true,
           R.g 69 (.call 90 [(R.t 66), (R.t 68)]) 65 true,
           R.g 70 (.pick (R.t 65) (R.t 69) R.ff) 61 false,
           R.q 71 (.pick (R.t 61) R.tt (R.t 70)),
           R.q 51 (.mov (R.t 71))])
         (.cond (R.t 51)
           (.reg [R.q 72 (.mov (R.t 11)),
             R.q 73 (.mov (R.t 72)),
             R.g 74 (.mov (R.t 8)) 73 false,
             R.g 75 (.fld 2 (R.t 13)) 73 false,
             R.g 76 (.load1 (R.t 75)) 73 false,
             R.g 77 (.mov (R.t 9)) 73 false,
             R.g 78 (.bin .and .no (R.t 76) (R.t 77)) 73 false,
             R.g 79 (.callv (R.t 74) [(R.t 78)]) 73 false,
             R.q 80 (.pick (R.t 73) R.tt (R.t 79)),
             R.q 10 (.mov R.tt),
             R.q 11 (.mov (R.t 80))])
           .skip)))))))
     (.reg [R.q 81 (.bin .add .no (R.t 30) (R.i 1)),
       R.q 30 (.mov (R.t 81))])))))))
  (.seq (.seq (.reg [R.q 82 (.mov (R.t 10))])
  (.cond (R.t 82)
    (.seq (.reg [R.q 83 (.mov (R.t 11)),
      R.q 6 (.mov (R.t 83))])
    .ret)
    .skip))
  (.seq (.reg [R.q 84 (.mov (R.t 8)),
    R.q 85 (.mov (R.t 7)),
    R.q 86 (.call 88 [(R.t 85), (R.i 6)]),
    R.q 87 (.callv (R.t 84) [(R.t 86)]),
    R.q 6 (.mov (R.t 87))])
  .ret)))))))))
def right_can.rs : List RRes := [.tmp 6]
theorem right_can.of {xs : List AV} {d : Nat} {B : BL} {K : ARes → BL → Prop} (hn : xs.length = 3) (hB : onlyOuter B = true) (h : awp ⟨PT, 88, exitX right_can.rs K⟩ 10000 [.code right_can.rc] ⟨params 0 xs, B, .nil⟩) : CallAt PT right_can xs d B K :=
  call_of_awp 10000 Tryd.func79 rfl (by kernel_rfl) (by kernel_rfl) (by kernel_rfl) (by rw [hn]; decide) hB h
abbrev right_look_bool_1 : Nat := 85
def right_look_bool_1.rc : RC :=
  (.seq (.reg [R.q 6 (.mov (R.t 1)),
    R.q 7 (.bin .neq (.ifc true) (R.t 6) (.val .nif))])
  (.cond (R.t 7)
    (.seq (.seq (.reg [R.q 9 (.mov (R.t 1)),
      R.q 10 (.assert 130 (.agg (.cons (R.z 0) .nil)) (R.t 9)),
      R.q 8 (.mov (R.t 10)),
      R.q 11 (.ext 0 (R.t 8)),
      R.q 12 (.ext 1 (R.t 8)),
      R.q 2 (.alloc (.cons (R.z 0) .nil)),
      R.e (.store 1 (R.t 2) (R.t 11)),
      R.q 3 (.mov (R.t 12))])
    (.seq (.reg [R.q 13 (.mov (R.t 3)),
      R.q 14 (.un .not (R.t 13))])
    (.cond (R.t 14)
      (.reg [R.q 15 (.mov (R.t 1)),
        R.e (.panic (R.t 15))])
      .skip)))
    (.seq (.reg [R.q 4 (.mov R.ff)])
    (.reg [R.q 16 (.mov (R.t 4)),
      R.e (.store 1 (R.t 0) (R.t 16))])))
    .skip))
def right_look_bool_1.rs : List RRes := []
theorem right_look_bool_1.of {pn : Bool} {pv : AV} {xs : List AV} {B : BL} {K : BL → Prop} (hn : xs.length = 1) (hB : onlyOuter B = true) (hpv : pn = false → pv = .nif) (h : awp ⟨PT, 17, exitC K⟩ 10000 [.code right_look_bool_1.rc] ⟨.cons 1 pv (.cons 5 pv (params 0 xs)), B, .nil⟩) : DefAt PT right_look_bool_1 pn (pv :: xs) B K :=
  def_of_awp 10000 Tryd.func85 rfl (by kernel_rfl) (by kernel_rfl) rfl (by rw [hn]; decide) (by decide) (by decide) hB hpv h
abbrev right_of : Nat := 86
def right_of.rc : RC :=
  (.seq (.reg [R.q 1 (.box (R.t 0)),
    R.q 2 (.mov (.val .nsl))])
  (.seq (.seq (.reg [R.q 3 (.fld 5 (R.t 1)),
    R.q 4 (.load1 (R.t 3)),
    R.q 5 (.len (R.t 4)),
    R.q 6 (.bin .gtr .no (R.t 5) (R.i 0))])
  (.cond (R.t 6)
    (.seq (.reg [R.q 7 (.fld 5 (R.t 1)),
      R.q 8 (.load1 (R.t 7)),
      R.q 2 (.mov (R.t 8))])
    .ret)
    .skip))
  (.seq (.reg [R.q 9 (.fld 0 (R.t 1)),
    R.q 10 (.load1 (R.t 9)),
    R.q 11 (.call 99 [(R.t 10)]),
    R.q 2 (.mov (R.t 11))])
  .ret)))
def right_of.rs : List RRes := [.tmp 2]
theorem right_of.of {xs : List AV} {d : Nat} {B : BL} {K : ARes → BL → Prop} (hn : xs.length = 1) (hB : onlyOuter B = true) (h : awp ⟨PT, 12, exitX right_of.rs K⟩ 10000 [.code right_of.rc] ⟨params 0 xs, B, .nil⟩) : CallAt PT right_of xs d B K :=
  call_of_awp 10000 Tryd.func86 rfl (by kernel_rfl) (by kernel_rfl) (by kernel_rfl) (by rw [hn]; decide) hB h
abbrev right_can_1 : Nat := 87
def right_can_1.rc : RC :=
  (.seq (.reg [R.q 3 (.mov R.ff)])
  (.seq (.reg [R.q 4 (.mov (R.t 0)),
    R.q 5 (.load1 (R.t 1)),
    R.q 6 (.bin .and .no (R.t 4) (R.t 5)),
    R.q 7 (.load1 (R.t 1)),
    R.q 8 (.bin .eql .no (R.t 6) (R.t 7)),
    R.q 3 (.mov (R.t 8))])
  .ret))
def right_can_1.rs : List RRes := [.tmp 3]
theorem right_can_1.of {xs : List AV} {d : Nat} {B : BL} {K : ARes → BL → Prop} (hn : xs.length = 2) (hB : onlyOuter B = true) (h : awp ⟨PT, 9, exitX right_can_1.rs K⟩ 10000 [.code right_can_1.rc] ⟨params 0 xs, B, .nil⟩) : CallAt PT right_can_1 xs d B K :=
  call_of_awp 10000 Tryd.func87 rfl (by kernel_rfl) (by kernel_rfl) (by kernel_rfl) (by rw [hn]; decide) hB h
abbrev right_list_perm : Nat := 88
def right_list_perm.rc : RC :=
  (.seq (.reg [R.q 3 (.box (R.t 1)),
    R.q 4 (.mov (R.i 0))])
  (.seq (.reg [R.q 6 (.mov (R.t 0)),
    R.q 7 (.mkfn (.func 101) [] [(R.t 3)]),
    R.q 8 (.call 100 [(R.t 6), (R.t 7)]),
    R.q 5 (.mov (R.t 8))])
  (.seq (.seq (.reg [R.q 9 (.mov (R.t 5)),
    R.q 10 (.bin .lss .no (R.t 9) (R.i 0))])
  (.cond (R.t 10)
    (.reg [R.q 11 (.load1 (R.t 3)),
      R.q 12 (.build (.cons (R.z 0) .nil) [(0, 1, (R.t 11))]),
      R.q 13 (.mkif 130 (R.t 12)),
      R.e (.panic (R.t 13))])
    .skip))
  (.seq (.reg [R.q 14 (.mov (R.t 0)),
    R.q 15 (.mov (R.t 5)),
    R.q 16 (.idx 3 (R.t 14) (R.t 15)),
    R.q 17 (.fld 2 (R.t 16)),
    R.q 18 (.load1 (R.t 17)),
    R.q 4 (.mov (R.t 18))])
  .ret))))
def right_list_perm.rs : List RRes := [.tmp 4]
theorem right_list_perm.of {xs : List AV} {d : Nat} {B : BL} {K : ARes → BL → Prop} (hn : xs.length = 2) (hB : onlyOuter B = true) (h : awp ⟨PT, 19, exitX right_list_perm.rs K⟩ 10000 [.code right_list_perm.rc] ⟨params 0 xs, B, .nil⟩) : CallAt PT right_list_perm xs d B K :=
  call_of_awp 10000 Tryd.func88 rfl (by kernel_rfl) (by kernel_rfl) (by kernel_rfl) (by rw [hn]; decide) hB h
abbrev right_list_mask : Nat := 89
def right_list_mask.rc : RC :=
  (.seq (.reg [R.q 2 (.mov (R.i 0))])
  (.seq (.seq (.reg [R.q 3 (.mov (R.t 0)),
    R.q 4 (.call 102 [(R.t 3), (.val (.fn (.func 103) .nil .nil))])])
  (.cond (R.t 4)
    (.seq (.reg [R.q 5 (.mov (R.t 0)),
      R.q 6 (.call 88 [(R.t 5), (R.i 5)]),
      R.q 2 (.mov (R.t 6))])
    .ret)
    .skip))
  (.seq (.reg [R.q 2 (.mov (R.i 7))])
  .ret)))
def right_list_mask.rs : List RRes := [.tmp 2]
theorem right_list_mask.of {xs : List AV} {d : Nat} {B : BL} {K : ARes → BL → Prop} (hn : xs.length = 1) (hB : onlyOuter B = true) (h : awp ⟨PT, 7, exitX right_list_mask.rs K⟩ 10000 [.code right_list_mask.rc] ⟨params 0 xs, B, .nil⟩) : CallAt PT right_list_mask xs d B K :=
  call_of_awp 10000 Tryd.func89 rfl (by kernel_rfl) (by kernel_rfl) (by kernel_rfl) (by rw [hn]; decide) hB h
abbrev right_In : Nat := 90
def right_In.rc : RC :=
  (.seq (.reg [R.q 2 (.box (R.t 0)),
    R.q 4 (.mov R.ff)])
  (.seq (.reg [R.q 5 (.fld 1 (R.t 2)),
    R.q 6 (.load1 (R.t 5)),
    R.q 7 (.mov (R.t 1)),
    R.q 8 (.bin .eql .no (R.t 6) (R.t 7)),
    R.q 9 (.mov (R.t 8)),
    R.g 10 (.fld 2 (R.t 2)) 9 false,
    R.g 11 (.load1 (R.t 10)) 9 false,
    R.g 12 (.mov (R.t 1)) 9 false,
    R.g 13 (.call 51 [(R.t 11), (R.t 12)]) 9 false,
    R.q 14 (.pick (R.t 9) R.tt (R.t 13)),
    R.q 4 (.mov (R.t 14))])
  .ret))
def right_In.rs : List RRes := [.tmp 4]
theorem right_In.of {xs : List AV} {d : Nat} {B : BL} {K : ARes → BL → Prop} (hn : xs.length = 2) (hB : onlyOuter B = true) (h : awp ⟨PT, 15, exitX right_In.rs K⟩ 10000 [.code right_In.rc] ⟨params 0 xs, B, .nil⟩) : CallAt PT right_In xs d B K :=
  call_of_awp 10000 Tryd.func90 rfl (by kernel_rfl) (by kernel_rfl) (by kernel_rfl) (by rw [hn]; decide) hB h
abbrev acl_From : Nat := 99
def acl_From.rc : RC :=
  (.seq (.reg [R.q 2 (.mov (.val .nsl))])
  (.seq (.reg [R.q 3 (.mov (R.t 0)),
    R.q 4 (.bin .and .no (R.t 3) (R.i 511)),
    R.q 0 (.mov (R.t 4))])
  (.seq (.reg [R.q 5 (.mov (R.t 0)),
    R.q 6 (.bin .shr .no (R.t 5) (.val (.int .u64 fun _ => 6))),
    R.q 7 (.build (.cons (R.z 0) (.cons (R.z 0) (.cons (R.z 0) .nil))) [(0, 1, (R.i 1)), (2, 1, (R.t 6))]),
    R.q 8 (.mov (R.t 0)),
    R.q 9 (.bin .shr .no (R.t 8) (.val (.int .u64 fun _ => 3))),
    R.q 10 (.bin .and .no (R.t 9) (R.i 7)),
    R.q 11 (.build (.cons (R.z 0) (.cons (R.z 0) (.cons (R.z 0) .nil))) [(0, 1, (R.i 3)), (2, 1, (R.t 10))]),
    R.q 12 (.mov (R.t 0)),
    R.q 13 (.bin .and .no (R.t 12) (R.i 7)),
    R.q 14 (.build (.cons (R.z 0) (.cons (R.z 0) (.cons (R.z 0) .nil))) [(0, 1, (R.i 6)), (2, 1, (R.t 13))]),
    R.q 15 (.bslice 3 (.cons (R.z 0) (.cons (R.z 0) (.cons (R.z 0) .nil))) 3 [(0, 3, (R.t 7)), (3, 3, (R.t 11)), (6, 3, (R.t 14))]),
    R.q 2 (.mov (R.t 15))])
  .ret)))
def acl_From.rs : List RRes := [.tmp 2]
theorem acl_From.of {xs : List AV} {d : Nat} {B : BL} {K : ARes → BL → Prop} (hn : xs.length = 1) (hB : onlyOuter B = true) (h : awp ⟨PT, 16, exitX acl_From.rs K⟩ 10000 [.code acl_From.rc] ⟨params 0 xs, B, .nil⟩) : CallAt PT acl_From xs d B K :=
  call_of_awp 10000 Tryd.func99 rfl (by kernel_rfl) (by kernel_rfl) (by kernel_rfl) (by rw [hn]; decide) hB h
abbrev slices_IndexFunc_right_list_api_Ace : Nat := 100
def slices_IndexFunc_right_list_api_Ace.rc : RC :=
  (.seq (.reg [R.q 4 (.mov (R.i 0))])
  (.seq (.seq (.reg [R.q 6 (.mov (R.t 0)),
    R.q 7 (.len (R.t 6)),
    R.q 8 (.mov (R.i 0))])
  (.block 0 (.loop
     (.seq (.reg [R.q 9 (.bin .lss .no (R.t 8) (R.t 7))])
     (.seq (.cond (R.t 9)
       .skip
       (.exit 0))
     (.seq (.block 1 (.seq (.reg [R.q 10 (.mov (R.t 8)),
        R.q 5 (.mov (R.t 10))])
      (.seq (.reg [R.q 11 (.mov (R.t 1)),
        R.q 12 (.mov (R.t 0)),
        R.q 13 (.mov (R.t 5)),
        R.q 14 (.idx 3 (R.t 12) (R.t 13)),
        R.q 15 (.loadA 3 (R.t 14)),
        R.q 16 (.callv (R.t 11) [(R.t 15)])])
      (.cond (R.t 16)
        (.seq (.reg [R.q 17 (.mov (R.t 5)),
          R.q 4 (.mov (R.t 17))])
        .ret)
        .skip))))
     (.reg [R.q 18 (.bin .add .no (R.t 8) (R.i 1)),
       R.q 8 (.mov (R.t 18))])))))))
  (.seq (.reg [R.q 4 (.mov (R.i (-1)))])
  .ret)))
def slices_IndexFunc_right_list_api_Ace.rs : List RRes := [.tmp 4]
theorem slices_IndexFunc_right_list_api_Ace.of {xs : List AV} {d : Nat} {B : BL} {K : ARes → BL → Prop} (hn : xs.length = 2) (hB : onlyOuter B = true) (h : awp ⟨PT, 19, exitX slices_IndexFunc_right_list_api_Ace.rs K⟩ 10000 [.code slices_IndexFunc_right_list_api_Ace.rc] ⟨params 0 xs, B, .nil⟩) : CallAt PT slices_IndexFunc_right_list_api_Ace xs d B K :=
  call_of_awp 10000 Tryd.func100 rfl (by kernel_rfl) (by kernel_rfl) (by kernel_rfl) (by rw [hn]; decide) hB h
abbrev right_list_perm_1 : Nat := 101
def right_list_perm_1.rc : RC :=
  (.seq (.reg [R.q 2 (.box (R.t 0)),
    R.q 3 (.mov R.ff)])
  (.seq (.reg [R.q 4 (.fld 0 (R.t 2)),
    R.q 5 (.load1 (R.t 4)),
    R.q 6 (.load1 (R.t 1)),
    R.q 7 (.bin .eql .no (R.t 5) (R.t 6)),
    R.q 3 (.mov (R.t 7))])
  .ret))
def right_list_perm_1.rs : List RRes := [.tmp 3]
theorem right_list_perm_1.of {xs : List AV} {d : Nat} {B : BL} {K : ARes → BL → Prop} (hn : xs.length = 2) (hB : onlyOuter B = true) (h : awp ⟨PT, 8, exitX right_list_perm_1.rs K⟩ 10000 [.code right_list_perm_1.rc] ⟨params 0 xs, B, .nil⟩) : CallAt PT right_list_perm_1 xs d B K :=
  call_of_awp 10000 Tryd.func101 rfl (by kernel_rfl) (by kernel_rfl) (by kernel_rfl) (by rw [hn]; decide) hB h
abbrev slices_ContainsFunc_right_list_api_Ace : Nat := 102
def slices_ContainsFunc_right_list_api_Ace.rc : RC :=
  (.seq (.reg [R.q 4 (.mov R.ff)])
  (.seq (.reg [R.q 5 (.mov (R.t 0)),
    R.q 6 (.mov (R.t 1)),
    R.q 7 (.call 100 [(R.t 5), (R.t 6)]),
    R.q 8 (.bin .geq .no (R.t 7) (R.i 0)),
    R.q 4 (.mov (R.t 8))])
  .ret))
def slices_ContainsFunc_right_list_api_Ace.rs : List RRes := [.tmp 4]
theorem slices_ContainsFunc_right_list_api_Ace.of {xs : List AV} {d : Nat} {B : BL} {K : ARes → BL → Prop} (hn : xs.length = 2) (hB : onlyOuter B = true) (h : awp ⟨PT, 9, exitX slices_ContainsFunc_right_list_api_Ace.rs K⟩ 10000 [.code slices_ContainsFunc_right_list_api_Ace.rc] ⟨params 0 xs, B, .nil⟩) : CallAt PT slices_ContainsFunc_right_list_api_Ace xs d B K :=
  call_of_awp 10000 Tryd.func102 rfl (by kernel_rfl) (by kernel_rfl) (by kernel_rfl) (by rw [hn]; decide) hB h
abbrev right_list_mask_1 : Nat := 103
def right_list_mask_1.rc : RC :=
  (.seq (.reg [R.q 1 (.box (R.t 0)),
    R.q 2 (.mov R.ff)])
  (.seq (.reg [R.q 3 (.fld 0 (R.t 1)),
    R.q 4 (.load1 (R.t 3)),
    R.q 5 (.bin .eql .no (R.t 4) (R.i 5)),
    R.q 2 (.mov (R.t 5))])
  .ret))
def right_list_mask_1.rs : List RRes := [.tmp 2]
theorem right_list_mask_1.of {xs : List AV} {d : Nat} {B : BL} {K : ARes → BL → Prop} (hn : xs.length = 1) (hB : onlyOuter B = true) (h : awp ⟨PT, 6, exitX right_list_mask_1.rs K⟩ 10000 [.code right_list_mask_1.rc] ⟨params 0 xs, B, .nil⟩) : CallAt PT right_list_mask_1 xs d B K :=
  call_of_awp 10000 Tryd.func103 rfl (by kernel_rfl) (by kernel_rfl) (by kernel_rfl) (by rw [hn]; decide) hB h
end F
end Go.Proofs.YtkklflpfklbbcaaDoor
/- The package right, walked: what each function answers. -/
namespace Go.Proofs.YtkklflpfklbbcaaDoor
open Go Go.Proofs.YtkklflpfklbbcaaDoor.Sx F
def band (a b : Int) : Int := abits .and .i64 a b
def permS (l : List Ace) (t : Int) : Option Int := (l.find? fun a => decide (a.tag = t)).map (·.perm)
def maskS (l : List Ace) : Option Int := if 0 ≤ ixP (fun a : Ace => decide (a.tag = 5)) l then permS l 5 else some 7
def fromMode (m : Int) : List Ace := [⟨1, 0, (band m 511).fdiv (2 ^ 6)⟩, ⟨3, 0, band ((band m 511).fdiv (2 ^ 3)) 7⟩, ⟨6, 0, band (band m 511) 7⟩]
def ofS (m : Meta) : List Ace := if 0 < m.acl.length then m.acl else fromMode m.mode
def inS (c : Cred) (g : Int) : Bool := decide (c.gid = g) || decide (g ∈ c.groups)
theorem ixP_find {α : Type} (p : α → Bool) (z : α) (l : List α) : (ixP p l < 0 ∧ l.find? p = none) ∨ (∃ k, ixP p l = zi k ∧ k < l.length ∧ l.find? p = some (l.getD k z)) := by
  induction l with
  | nil => exact .inl ⟨by simp [ixP], rfl⟩
  | cons y r ih =>
    by_cases h : p y = true
    · exact .inr ⟨0, by simp [ixP, h, zi], by simp, by simp [h]⟩
    · rcases ih with ⟨h1, h2⟩ | ⟨k, h1, h2, h3⟩
      · exact .inl ⟨by simp [ixP, h, h1], by simp [h, h2]⟩
      · refine .inr ⟨k + 1, ?_, by simpa using h2, by simp [h, h3]⟩
        simp only [ixP, h, h1, Bool.false_eq_true, if_false]
        unfold zi
        rw [if_neg (by omega)]
        omega
theorem mask1_c (a : Th Ace) {d : Nat} {K : ARes → BL → Prop} (hr : ∀ b : Th Bool, b .o = decide ((a .o).tag = 5) → K (.ret (.bool b)) .nil) : CallAt PT right_list_mask_1 [Ace.av a] d .nil K := by
  refine right_list_mask_1.of rfl rfl ?_
  cbv
  exact (hr _ rfl)
theorem perm1_c (a : Th Ace) (t : Th Int) {d : Nat} {K : ARes → BL → Prop}
    (hr : ∀ b : Th Bool, b .o = decide ((a .o).tag = t .o) → K (.ret (.bool b)) (.cons 10000 (.cells (.cons (.int .i64 t) .nil)) .nil)) : CallAt PT right_list_perm_1 [Ace.av a, .ptr 10000 0] d (.cons 10000 (.cells (.cons (.int .i64 t) .nil)) .nil) K := by
  refine right_list_perm_1.of rfl rfl ?_
  cbv
  exact hr _ rfl
theorem index_mask_c (l : Th (List Ace)) (hl : short (l .o)) {d : Nat} {K : ARes → BL → Prop} (hr : ∀ n : Th Int, n .o = ixP (fun a : Ace => decide (a.tag = 5)) (l .o) → K (.ret (.int .i64 n)) .nil) :
    CallAt PT slices_IndexFunc_right_list_api_Ace [aces l, .fn (.func right_list_mask_1) .nil .nil] d .nil K := by
  refine slices_IndexFunc_right_list_api_Ace.of rfl rfl ?_
  cbv
  refine loop_rule (X := Nat) 1000 [0, 1, 7] [] (fun k => .cons 8 (.int .i64 fun _ => zi k) .nil) (fun _ => .nil) (fun k => k ≤ (l .o).length ∧ ∀ j, j < k → decide (((l .o).getD j Ace.z).tag = 5) = false) (fun k => (l .o).length - k) 0 ?_ ⟨Nat.zero_le _, fun j hj => by omega⟩ ?_
  · cbv
    exact ⟨⟨.refl _, .refl _, .refl _, .int rfl, trivial⟩, ⟨rfl⟩⟩
  · intro k hk
    cbv
    refine ⟨fun h1 => ?_, fun h1 => ?_⟩
    · have h1 : k < (l .o).length := zi_lt.1 (of_decide_eq_true h1)
      cbv
      refine ⟨fun _ => ⟨zi_nonneg _, zi_lt.2 h1⟩, ?_⟩
      refine mask1_c (fun _ => (l .o).getD (zi k).toNat Ace.z) fun b hb => ?_
      rw [zi_toNat] at hb
      cbv
      refine ⟨fun h2 => ?_, fun h2 => ?_⟩
      · cbv
        exact (hr _ (ixP_at _ Ace.z _ k h1 hk.2 (hb.symm.trans h2)).symm)
      · cbv
        refine ⟨k + 1, ⟨h1, ?_⟩, by omega, ?_⟩
        · intro j hj
          by_cases he : j = k
          · subst he; exact hb.symm.trans h2
          · exact hk.2 j (by omega)
        · cbv
          exact ⟨⟨.refl _, .refl _, .refl _, .int (zi_succ (by unfold short at hl; omega)), trivial⟩, ⟨rfl⟩⟩
    · have h1 : ¬ k < (l .o).length := fun q => of_decide_eq_false h1 (zi_lt.2 q)
      cbv
      exact (hr _ (ixP_no _ Ace.z _ fun j hj => hk.2 j (by omega)).symm)
theorem index_perm_c (l : Th (List Ace)) (t : Th Int) (hl : short (l .o)) {d : Nat} {K : ARes → BL → Prop} (hr : ∀ n : Th Int, n .o = ixP (fun a : Ace => decide (a.tag = t .o)) (l .o) → K (.ret (.int .i64 n)) (.cons 10000 (.cells (.cons (.int .i64 t) .nil)) .nil)) :
    CallAt PT slices_IndexFunc_right_list_api_Ace [aces l, .fn (.func right_list_perm_1) .nil (.cons (.ptr 10000 0) .nil)] d (.cons 10000 (.cells (.cons (.int .i64 t) .nil)) .nil) K := by
  refine slices_IndexFunc_right_list_api_Ace.of rfl rfl ?_
  cbv
  refine loop_rule (X := Nat) 1000 [0, 1, 7] [10000] (fun k => .cons 8 (.int .i64 fun _ => zi k) .nil) (fun _ => .nil) (fun k => k ≤ (l .o).length ∧ ∀ j, j < k → decide (((l .o).getD j Ace.z).tag = t .o) = false) (fun k => (l .o).length - k) 0 ?_ ⟨Nat.zero_le _, fun j hj => by omega⟩ ?_
  · cbv
    exact ⟨⟨.refl _, .refl _, .refl _, .int rfl, trivial⟩, ⟨.refl _, trivial⟩, ⟨rfl⟩⟩
  · intro k hk
    cbv
    refine ⟨fun h1 => ?_, fun h1 => ?_⟩
    · have h1 : k < (l .o).length := zi_lt.1 (of_decide_eq_true h1)
      cbv
      refine ⟨fun _ => ⟨zi_nonneg _, zi_lt.2 h1⟩, ?_⟩
      refine perm1_c (fun _ => (l .o).getD (zi k).toNat Ace.z) t fun b hb => ?_
      rw [zi_toNat] at hb
      cbv
      refine ⟨fun h2 => ?_, fun h2 => ?_⟩
      · cbv
        exact hr _ (ixP_at _ Ace.z _ k h1 hk.2 (hb.symm.trans h2)).symm
      · cbv
        refine ⟨k + 1, ⟨h1, ?_⟩, by omega, ?_⟩
        · intro j hj
          by_cases he : j = k
          · subst he; exact hb.symm.trans h2
          · exact hk.2 j (by omega)
        · cbv
          exact ⟨⟨.refl _, .refl _, .refl _, .int (zi_succ (by unfold short at hl; omega)), trivial⟩, ⟨.refl _, trivial⟩, ⟨rfl⟩⟩
    · have h1 : ¬ k < (l .o).length := fun q => of_decide_eq_false h1 (zi_lt.2 q)
      cbv
      exact hr _ (ixP_no _ Ace.z _ fun j hj => hk.2 j (by omega)).symm
theorem contains_mask_c (l : Th (List Ace)) (hl : short (l .o)) {d : Nat} {K : ARes → BL → Prop} (hr : ∀ b : Th Bool, b .o = decide (0 ≤ ixP (fun a : Ace => decide (a.tag = 5)) (l .o)) → K (.ret (.bool b)) .nil) :
    CallAt PT slices_ContainsFunc_right_list_api_Ace [aces l, .fn (.func right_list_mask_1) .nil .nil] d .nil K := by
  refine slices_ContainsFunc_right_list_api_Ace.of rfl rfl ?_
  cbv
  refine index_mask_c l hl fun n hn => ?_
  cbv
  exact (hr _ (by show decide (0 ≤ n .o) = _; rw [hn]))
/-- What is raised where a part lacks. -/
def lacks (t : Th Int) : AV := .ifc 130 (.agg (.cons (.int .i64 t) .nil))
theorem perm_c (l : Th (List Ace)) (t : Th Int) (hl : short (l .o)) {d : Nat} {K : ARes → BL → Prop} (hr : ∀ n : Th Int, permS (l .o) (t .o) = some (n .o) → K (.ret (.int .i64 n)) .nil) (hp : permS (l .o) (t .o) = none → K (.pan (lacks t)) .nil) :
    CallAt PT right_list_perm [aces l, .int .i64 t] d .nil K := by
  refine right_list_perm.of rfl rfl ?_
  cbv
  refine CallAt.frameP [(10000, 3)] [aces l, .fn (.func right_list_perm_1) .nil (.cons (.ptr 10000 0) .nil)] (by kernel_rfl) rfl fun K1 hK1 => ?_
  cbv
  refine index_perm_c l t hl fun n hn => hK1 _ _ ?_
  cbv
  have hfind := ixP_find (fun a : Ace => decide (a.tag = t .o)) Ace.z (l .o)
  refine ⟨fun h1 => ?_, fun h1 => ?_⟩
  · have h1 : n .o < 0 := of_decide_eq_true h1
    cbv
    refine (hp ?_)
    rcases hfind with ⟨_, h2⟩ | ⟨k, h2, _, _⟩
    · unfold permS; rw [h2]; rfl
    · rw [hn, h2] at h1; have := zi_nonneg k; omega
  · have h1 : ¬ n .o < 0 := of_decide_eq_false h1
    rcases hfind with ⟨h2, _⟩ | ⟨k, h2, h3, h4⟩
    · exact (h1 (hn ▸ h2)).elim
    · rw [h2] at hn
      cbv
      refine ⟨fun _ => by rw [hn]; exact ⟨zi_nonneg _, zi_lt.2 h3⟩, ?_⟩
      refine (hr _ ?_)
      show _ = some ((l .o).getD (n .o).toNat Ace.z).perm
      rw [hn, zi_toNat]
      unfold permS
      rw [h4]
      rfl
theorem mask_c (l : Th (List Ace)) (hl : short (l .o)) {d : Nat} {K : ARes → BL → Prop} (hr : ∀ n : Th Int, maskS (l .o) = some (n .o) → K (.ret (.int .i64 n)) .nil) (hp : ∀ t, maskS (l .o) = none → K (.pan (lacks t)) .nil) :
    CallAt PT right_list_mask [aces l] d .nil K := by
  refine right_list_mask.of rfl rfl ?_
  cbv
  refine contains_mask_c l hl fun b hb => ?_
  cbv
  refine ⟨fun h1 => ?_, fun h1 => ?_⟩
  · have hm : maskS (l .o) = permS (l .o) 5 := by unfold maskS; rw [if_pos (of_decide_eq_true (hb.symm.trans h1))]
    cbv
    refine perm_c l (fun _ => 5) hl (fun n hn => ?_) fun hn => ?_
    · cbv
      exact (hr _ (hm.trans hn))
    · cbv
      exact (hp _ (hm.trans hn))
  · have hm : maskS (l .o) = some 7 := by unfold maskS; rw [if_neg (of_decide_eq_false (hb.symm.trans h1))]
    cbv
    exact (hr _ hm)
theorem from_c (m : Th Int) {d : Nat} {K : ARes → BL → Prop} (hr : ∀ l : Th (List Ace), l .o = fromMode (m .o) → K (.ret (aces l)) .nil) : CallAt PT acl_From [.int .i64 m] d .nil K := by
  refine CallAt.res ?_
  refine acl_From.of rfl rfl ?_
  cbv
  refine ⟨fun _ => by decide, fun _ => by decide, ?_⟩
  refine ⟨_, .ret (.sl ?_ ?_), (hr (fun _ => fromMode (m .o)) rfl)⟩
  · rfl
  · intro i hi
    have hi : i < 3 := hi
    match i, hi with
    | 0, _ => rfl
    | 1, _ => rfl
    | 2, _ => rfl
theorem of_c (m : Th Meta) {d : Nat} {K : ARes → BL → Prop} (hr : ∀ l : Th (List Ace), l .o = ofS (m .o) → K (.ret (aces l)) .nil) : CallAt PT right_of [Meta.av m] d .nil K := by
  refine right_of.of rfl rfl ?_
  cbv
  refine ⟨fun h1 => ?_, fun h1 => ?_⟩
  · have h1 : 0 < ((m .o).acl).length := zi_lt.1 (of_decide_eq_true h1)
    cbv
    refine (hr (fun _ => (m .o).acl) ?_)
    unfold ofS; rw [if_pos h1]
  · have h1 : ¬ 0 < ((m .o).acl).length := fun q => of_decide_eq_false h1 (zi_lt.2 q)
    cbv
    refine from_c (fun _ => (m .o).mode) fun l hl => ?_
    cbv
    refine (hr l ?_)
    unfold ofS; rw [if_neg h1, hl]
theorem index_int_c (l : Th (List Int)) (x : Th Int) (hl : short (l .o)) {d : Nat} {K : ARes → BL → Prop} (hr : ∀ n : Th Int, n .o = ixP (fun a => decide (x .o = a)) (l .o) → K (.ret (.int .i64 n)) .nil) : CallAt PT slices_Index_int_int [ints l, .int .i64 x] d .nil K := by
  refine slices_Index_int_int.of rfl rfl ?_
  cbv
  refine loop_rule (X := Nat) 1000 [0, 1, 7] [] (fun k => .cons 8 (.int .i64 fun _ => zi k) .nil) (fun _ => .nil) (fun k => k ≤ (l .o).length ∧ ∀ j, j < k → decide (x .o = (l .o).getD j 0) = false) (fun k => (l .o).length - k) 0 ?_ ⟨Nat.zero_le _, fun j hj => by omega⟩ ?_
  · cbv
    exact ⟨⟨.refl _, .refl _, .refl _, .int rfl, trivial⟩, ⟨rfl⟩⟩
  · intro k hk
    cbv
    refine ⟨fun h1 => ?_, fun h1 => ?_⟩
    · have h1 : k < (l .o).length := zi_lt.1 (of_decide_eq_true h1)
      cbv
      refine ⟨fun _ => ⟨zi_nonneg _, zi_lt.2 h1⟩, fun h2 => ?_, fun h2 => ?_⟩
      · cbv
        have h2 : decide (x .o = (l .o).getD (zi k).toNat 0) = true := h2
        rw [zi_toNat] at h2
        exact (hr _ (ixP_at _ 0 _ k h1 hk.2 h2).symm)
      · cbv
        have h2 : decide (x .o = (l .o).getD (zi k).toNat 0) = false := h2
        rw [zi_toNat] at h2
        refine ⟨k + 1, ⟨h1, ?_⟩, by omega, ?_⟩
        · intro j hj
          by_cases he : j = k
          · subst he; exact h2
          · exact hk.2 j (by omega)
        · cbv
          exact ⟨⟨.refl _, .refl _, .refl _, .int (zi_succ (by unfold short at hl; omega)), trivial⟩, ⟨rfl⟩⟩
    · have h1 : ¬ k < (l .o).length := fun q => of_decide_eq_false h1 (zi_lt.2 q)
      cbv
      exact (hr _ (ixP_no _ 0 _ fun j hj => hk.2 j (by omega)).symm)
theorem contains_int_c (l : Th (List Int)) (x : Th Int) (hl : short (l .o)) {d : Nat} {K : ARes → BL → Prop} (hr : ∀ b : Th Bool, b .o = decide (x .o ∈ l .o) → K (.ret (.bool b)) .nil) : CallAt PT slices_Contains_int_int [ints l, .int .i64 x] d .nil K := by
  refine slices_Contains_int_int.of rfl rfl ?_
  cbv
  refine index_int_c l x hl fun n hn => ?_
  cbv
  refine (hr _ ?_)
  show decide (0 ≤ n .o) = _
  rw [hn]
  rcases ixP_find (fun a => decide (x .o = a)) 0 (l .o) with ⟨h1, h2⟩ | ⟨k, h1, h2, h3⟩
  · rw [decide_eq_decide]
    refine ⟨fun h => by omega, fun h => ?_⟩
    have := List.find?_eq_none.1 h2 _ h
    simp at this
  · rw [h1, decide_eq_decide]
    refine ⟨fun _ => ?_, fun _ => zi_nonneg k⟩
    have h4 := List.find?_some h3
    have h5 := List.mem_of_find?_eq_some h3
    rw [← of_decide_eq_true h4] at h5
    exact h5
theorem in_c (c : Th Cred) (g : Th Int) (hl : short (c .o).groups) {d : Nat} {K : ARes → BL → Prop} (hr : ∀ b : Th Bool, b .o = inS (c .o) (g .o) → K (.ret (.bool b)) .nil) : CallAt PT right_In [Cred.av c, .int .i64 g] d .nil K := by
  refine CallAt.res ?_
  refine right_In.of rfl rfl ?_
  cbv
  refine ⟨fun h1 => ?_, fun h1 => ?_⟩
  · refine contains_int_c (fun _ => (c .o).groups) g hl fun b hb => ?_
    cbv
    refine ⟨_, .ret (.refl _), (hr b ?_)⟩
    unfold inS
    rw [hb, show decide ((c .o).gid = g .o) = false from h1]
    rfl
  · cbv
    refine ⟨_, .ret (.tt rfl), (hr (fun _ => true) ?_)⟩
    unfold inS
    rw [show decide ((c .o).gid = g .o) = true from h1]
    rfl
def hasS (w p : Int) : Bool := decide (band p w = w)
theorem has_c (p w : Th Int) {d : Nat} {K : ARes → BL → Prop}
    (hr : ∀ b : Th Bool, b .o = hasS (w .o) (p .o) → K (.ret (.bool b)) (.cons 10000 (.cells (.cons (.int .i64 w) .nil)) .nil)) : CallAt PT right_can_1 [.int .i64 p, .ptr 10000 0] d (.cons 10000 (.cells (.cons (.int .i64 w) .nil)) .nil) K := by
  refine right_can_1.of rfl rfl ?_
  cbv
  exact hr _ rfl
/-- What the parts for named ones, and the group, say: a user's own part ends it. -/
def goS (m : Meta) (c : Cred) (w mask : Int) : List Ace → Bool → Bool → Bool ⊕ (Bool × Bool)
  | [], me, any => .inr (me, any)
  | a :: r, me, any =>
    if a.tag = 2 ∧ a.id = c.uid then .inl (hasS w (band a.perm mask))
    else if (a.tag = 3 ∧ inS c m.gid = true) ∨ (a.tag = 4 ∧ inS c a.id = true) then goS m c w mask r true (any || hasS w (band a.perm mask))
    else goS m c w mask r me any
def canS (m : Meta) (c : Cred) (w : Int) : Option Bool :=
  if m.uid = c.uid then (permS (ofS m) 1).map (hasS w)
  else (maskS (ofS m)).bind fun mask => match goS m c w mask (ofS m) false false with
    | .inl b => some b
    | .inr (true, any) => some any
    | .inr (false, _) => (permS (ofS m) 6).map (hasS w)
theorem ofS_short {m : Meta} (h : short m.acl) : short (ofS m) := by
  unfold ofS
  split
  · exact h
  · show 3 ≤ _; decide
theorem drop_cons {α : Type} (l : List α) (z : α) (k : Nat) (h : k < l.length) : l.drop k = l.getD k z :: l.drop (k + 1) := by
  rw [List.drop_eq_getElem_cons h, List.getD_eq_getElem?_getD, List.getElem?_eq_getElem h]
  rfl
theorem can_c (m : Th Meta) (c : Th Cred) (w : Th Int) (hm : short (m .o).acl) (hc : short (c .o).groups) {d : Nat} {K : ARes → BL → Prop} (hr : ∀ b : Th Bool, canS (m .o) (c .o) (w .o) = some (b .o) → K (.ret (.bool b)) .nil)
    (hp : ∀ t, canS (m .o) (c .o) (w .o) = none → K (.pan (lacks t)) .nil) : CallAt PT right_can [Meta.av m, Cred.av c, .int .i64 w] d .nil K := by
  refine right_can.of rfl rfl ?_
  cbv
  refine of_c m fun l hl => ?_
  have hls : short (l .o) := by rw [hl]; exact ofS_short hm
  cbv
  refine ⟨fun h1 => ?_, fun h1 => ?_⟩
  · have h1 : (m .o).uid = (c .o).uid := of_decide_eq_true h1
    have hcan : canS (m .o) (c .o) (w .o) = (permS (l .o) 1).map (hasS (w .o)) := by unfold canS; rw [if_pos h1, hl]
    cbv
    refine perm_c l (fun _ => 1) hls (fun n hn => ?_) fun hn => ?_
    · cbv
      refine CallAt.frameP [(10000, 5)] [.int .i64 n, .ptr 10000 0] (by kernel_rfl) rfl fun K1 hK1 => ?_
      cbv
      refine has_c n w fun b hb => hK1 _ _ ?_
      cbv
      refine (hr _ ?_)
      rw [hcan, hn, hb]; rfl
    · cbv
      refine (hp _ ?_)
      rw [hcan, hn]; rfl
  · have h1 : ¬ (m .o).uid = (c .o).uid := of_decide_eq_false h1
    cbv
    refine mask_c l hls (fun mk hmk => ?_) fun t ht => ?_
    · have hcan : canS (m .o) (c .o) (w .o) = match goS (m .o) (c .o) (w .o) (mk .o) (l .o) false false with
          | .inl b => some b
          | .inr (true, any) => some any
          | .inr (false, _) => (permS (l .o) 6).map (hasS (w .o)) := by unfold canS; rw [if_neg h1, ← hl, hmk]; rfl
      cbv
      refine loop_rule (X := Nat × Bool × Bool) 1000 [3, 4, 5, 7, 8, 9, 28, 29] [3, 4, 5] (fun x => .cons 30 (.int .i64 fun _ => zi x.1) (.cons 10 (.bool fun _ => x.2.1) (.cons 11 (.bool fun _ => x.2.2) .nil))) (fun _ => .nil)
        (fun x => x.1 ≤ (l .o).length ∧ goS (m .o) (c .o) (w .o) (mk .o) (l .o) false false = goS (m .o) (c .o) (w .o) (mk .o) ((l .o).drop x.1) x.2.1 x.2.2) (fun x => (l .o).length - x.1) (0, false, false) ?_ ⟨Nat.zero_le _, rfl⟩ ?_
      · cbv
        exact ⟨⟨.refl _, .refl _, .refl _, .refl _, .refl _, .refl _, .refl _, .refl _, .int rfl, .ff rfl, .ff rfl, trivial⟩, ⟨.refl _, .refl _, .refl _, trivial⟩, ⟨rfl⟩⟩
      · rintro ⟨k, me, any⟩ ⟨hk, hgo⟩
        change k ≤ (l .o).length at hk
        change _ = goS (m .o) (c .o) (w .o) (mk .o) ((l .o).drop k) me any at hgo
        cbv
        refine ⟨fun h2 => ?_, fun h2 => ?_⟩
        · have h2 : k < (l .o).length := zi_lt.1 (of_decide_eq_true h2)
          rw [drop_cons _ Ace.z _ h2] at hgo
          cbv
          refine ⟨fun _ => ⟨zi_nonneg _, zi_lt.2 h2⟩, ?_⟩
          generalize hx : (l O1.o).getD ((fun x => (zi (k, me, any).fst).toNat) O1.o) Ace.z = a
          have hx : (l .o).getD k Ace.z = a := by rw [← hx]; show _ = (l .o).getD (zi k).toNat Ace.z; rw [zi_toNat]
          rw [hx] at hgo
          have next : ∀ me' any', goS (m .o) (c .o) (w .o) (mk .o) (a :: (l .o).drop (k + 1)) me any = goS (m .o) (c .o) (w .o) (mk .o) ((l .o).drop (k + 1)) me' any' →
              k + 1 ≤ (l .o).length ∧ goS (m .o) (c .o) (w .o) (mk .o) (l .o) false false = goS (m .o) (c .o) (w .o) (mk .o) ((l .o).drop (k + 1)) me' any' := fun me' any' he => ⟨h2, hgo.trans he⟩
          have less : (l .o).length - (k + 1) < (l .o).length - k := by omega
          have succ := zi_succ (k := k) (by unfold short at hls; omega)
          refine ⟨fun h3 => ?_, fun h3 => ?_⟩
          · have h3 : a.tag = 2 := of_decide_eq_true h3
            cbv
            refine ⟨fun h4 => ?_, fun h4 => ?_⟩
            · have h4 : a.id = (c .o).uid := of_decide_eq_true h4
              have hg : goS (m .o) (c .o) (w .o) (mk .o) (a :: (l .o).drop (k + 1)) me any = .inl (hasS (w .o) (band a.perm (mk .o))) := by simp [goS, h3, h4]
              rw [hg] at hgo
              rw [hgo] at hcan
              cbv
              refine CallAt.frameP [(10000, 5)] [.int .i64 fun _ => band a.perm (mk .o), .ptr 10000 0] (by kernel_rfl) rfl fun K1 hK1 => ?_
              cbv
              refine has_c _ w fun b hb => hK1 _ _ ?_
              cbv
              refine (hr _ ?_)
              rw [hcan, hb]
            · have h4 : ¬ a.id = (c .o).uid := of_decide_eq_false h4
              have hg := next me any (by simp [goS, h3, h4])
              cbv
              refine ⟨fun h5 => ?_, fun h5 => ?_⟩
              · have h5 : a.tag = 3 := of_decide_eq_true h5
                omega
              · cbv
                refine ⟨fun h5 => ?_, fun h5 => ?_⟩
                · have h5 : a.tag = 4 := of_decide_eq_true h5
                  omega
                · cbv
                  refine ⟨(k + 1, me, any), hg, less, ?_⟩
                  cbv
                  exact ⟨⟨.refl _, .refl _, .refl _, .refl _, .refl _, .refl _, .refl _, .refl _, .int succ, .bool rfl, .bool rfl, trivial⟩, ⟨.refl _, .refl _, .refl _, trivial⟩, ⟨rfl⟩⟩
          · have h3 : ¬ a.tag = 2 := of_decide_eq_false h3
            cbv
            refine ⟨fun h5 => ?_, fun h5 => ?_⟩
            · have h5 : a.tag = 3 := of_decide_eq_true h5
              refine in_c c (fun _ => (m .o).gid) hc fun b hb => ?_
              cbv
              refine ⟨fun h6 => ?_, fun h6 => ?_⟩
              · have h6 : inS (c .o) (m .o).gid = false := hb.symm.trans h6
                cbv
                refine ⟨fun h7 => ?_, fun h7 => ?_⟩
                · have h7 : a.tag = 4 := of_decide_eq_true h7
                  omega
                · have hg := next me any (by simp [goS, h5, h6])
                  cbv
                  refine ⟨(k + 1, me, any), hg, less, ?_⟩
                  cbv
                  exact ⟨⟨.refl _, .refl _, .refl _, .refl _, .refl _, .refl _, .refl _, .refl _, .int succ, .bool rfl, .bool rfl, trivial⟩, ⟨.refl _, .refl _, .refl _, trivial⟩, ⟨rfl⟩⟩
              · have h6 : inS (c .o) (m .o).gid = true := hb.symm.trans h6
                have hg := next true (any || hasS (w .o) (band a.perm (mk .o))) (by simp [goS, h5, h6])
                cbv
                refine ⟨fun h7 => ?_, fun h7 => ?_⟩
                · have h7 : any = false := h7
                  cbv
                  refine CallAt.frameP [(10000, 5)] [.int .i64 fun _ => band a.perm (mk .o), .ptr 10000 0] (by kernel_rfl) rfl fun K1 hK1 => ?_
                  cbv
                  refine has_c _ w fun b' hb' => hK1 _ _ ?_
                  rw [h7] at hg
                  cbv
                  refine ⟨(k + 1, true, _), hg, less, ?_⟩
                  cbv
                  exact ⟨⟨.refl _, .refl _, .refl _, .refl _, .refl _, .refl _, .refl _, .refl _, .int succ, .tt rfl, .bool hb', trivial⟩, ⟨.refl _, .refl _, .refl _, trivial⟩, ⟨rfl⟩⟩
                · have h7 : any = true := h7
                  rw [h7] at hg
                  cbv
                  refine ⟨(k + 1, true, _), hg, less, ?_⟩
                  cbv
                  exact ⟨⟨.refl _, .refl _, .refl _, .refl _, .refl _, .refl _, .refl _, .refl _, .int succ, .tt rfl, .tt rfl, trivial⟩, ⟨.refl _, .refl _, .refl _, trivial⟩, ⟨rfl⟩⟩
            · have h5 : ¬ a.tag = 3 := of_decide_eq_false h5
              cbv
              refine ⟨fun h6 => ?_, fun h6 => ?_⟩
              · have h6 : a.tag = 4 := of_decide_eq_true h6
                refine in_c c (fun _ => a.id) hc fun b hb => ?_
                cbv
                refine ⟨fun h7 => ?_, fun h7 => ?_⟩
                · have h7 : inS (c .o) a.id = true := hb.symm.trans h7
                  have hg := next true (any || hasS (w .o) (band a.perm (mk .o))) (by simp [goS, h6, h7])
                  cbv
                  refine ⟨fun h8 => ?_, fun h8 => ?_⟩
                  · have h8 : any = false := h8
                    cbv
                    refine CallAt.frameP [(10000, 5)] [.int .i64 fun _ => band a.perm (mk .o), .ptr 10000 0] (by kernel_rfl) rfl fun K1 hK1 => ?_
                    cbv
                    refine has_c _ w fun b' hb' => hK1 _ _ ?_
                    rw [h8] at hg
                    cbv
                    refine ⟨(k + 1, true, _), hg, less, ?_⟩
                    cbv
                    exact ⟨⟨.refl _, .refl _, .refl _, .refl _, .refl _, .refl _, .refl _, .refl _, .int succ, .tt rfl, .bool hb', trivial⟩, ⟨.refl _, .refl _, .refl _, trivial⟩, ⟨rfl⟩⟩
                  · have h8 : any = true := h8
                    rw [h8] at hg
                    cbv
                    refine ⟨(k + 1, true, _), hg, less, ?_⟩
                    cbv
                    exact ⟨⟨.refl _, .refl _, .refl _, .refl _, .refl _, .refl _, .refl _, .refl _, .int succ, .tt rfl, .tt rfl, trivial⟩, ⟨.refl _, .refl _, .refl _, trivial⟩, ⟨rfl⟩⟩
                · have h7 : inS (c .o) a.id = false := hb.symm.trans h7
                  have hg := next me any (by simp [goS, h6, h7])
                  cbv
                  refine ⟨(k + 1, me, any), hg, less, ?_⟩
                  cbv
                  exact ⟨⟨.refl _, .refl _, .refl _, .refl _, .refl _, .refl _, .refl _, .refl _, .int succ, .bool rfl, .bool rfl, trivial⟩, ⟨.refl _, .refl _, .refl _, trivial⟩, ⟨rfl⟩⟩
              · have h6 : ¬ a.tag = 4 := of_decide_eq_false h6
                have hg := next me any (by simp [goS, h3, h5, h6])
                cbv
                refine ⟨(k + 1, me, any), hg, less, ?_⟩
                cbv
                exact ⟨⟨.refl _, .refl _, .refl _, .refl _, .refl _, .refl _, .refl _, .refl _, .int succ, .bool rfl, .bool rfl, trivial⟩, ⟨.refl _, .refl _, .refl _, trivial⟩, ⟨rfl⟩⟩
        · have h2 : ¬ k < (l .o).length := fun q => of_decide_eq_false h2 (zi_lt.2 q)
          rw [List.drop_eq_nil_of_le (by omega)] at hgo
          rw [hgo] at hcan
          cbv
          refine ⟨fun h3 => ?_, fun h3 => ?_⟩
          · have h3 : me = true := h3
            rw [h3] at hcan
            cbv
            exact (hr _ hcan)
          · have h3 : me = false := h3
            rw [h3] at hcan
            cbv
            refine perm_c l (fun _ => 6) hls (fun n hn => ?_) fun hn => ?_
            · cbv
              refine CallAt.frameP [(10000, 5)] [.int .i64 n, .ptr 10000 0] (by kernel_rfl) rfl fun K1 hK1 => ?_
              cbv
              refine has_c n w fun b hb => hK1 _ _ ?_
              cbv
              refine (hr _ ?_)
              rw [hcan, hb]
              show Option.map _ (permS (l .o) 6) = _
              rw [show permS (l .o) 6 = some (n .o) from hn]; rfl
            · cbv
              refine (hp _ ?_)
              rw [hcan]
              show Option.map _ (permS (l .o) 6) = _
              rw [show permS (l .o) 6 = none from hn]; rfl
    · cbv
      refine (hp _ ?_)
      unfold canS
      rw [if_neg h1, ← hl, ht]; rfl
/-- What the walk knows beside: the meta data, who asks, the right wanted. -/
def boxes (m : Th Meta) (c : Th Cred) (w : Th Int) : BL := .cons 10000 (.cells (Meta.ch m)) (.cons 10001 (.cells (Cred.ch c)) (.cons 10002 (.cells (.cons (.int .i64 w) .nil)) .nil))
theorem can1_c (m : Th Meta) (c : Th Cred) (w : Th Int) (hm : short (m .o).acl) (hc : short (c .o).groups) {d : Nat} {K : ARes → BL → Prop} (hr : ∀ b : Th Bool, canS (m .o) (c .o) (w .o) = some (b .o) → K (.ret (.bool b)) (boxes m c w))
    (hp : ∀ t, canS (m .o) (c .o) (w .o) = none → K (.pan (lacks t)) (boxes m c w)) : CallAt PT right_Can_1 [.ptr 10000 0, .ptr 10001 0, .ptr 10002 0] d (boxes m c w) K := by
  refine right_Can_1.of rfl rfl ?_
  cbv
  refine can_c m c w hm hc (fun b hb => ?_) fun t ht => ?_
  · cbv
    exact hr _ hb
  · cbv
    exact hp _ ht
theorem lookd_none_c (b : Th Bool) {K : BL → Prop} (h : K (.cons 10000 (.cells (.cons (.bool b) .nil)) .nil)) : DefAt PT right_look_bool_1 false [.nif, .ptr 10000 0] (.cons 10000 (.cells (.cons (.bool b) .nil)) .nil) K := by
  refine right_look_bool_1.of rfl rfl (fun _ => rfl) ?_
  cbv
  exact h
theorem lookd_some_c (t : Th Int) {K : BL → Prop} (h : K (.cons 10000 (.cells (.cons .ff .nil)) .nil)) : DefAt PT right_look_bool_1 true [lacks t, .ptr 10000 0] (.cons 10000 (.cells (.cons .ff .nil)) .nil) K := by
  refine right_look_bool_1.of rfl rfl (fun h => by cases h) ?_
  cbv
  exact h
theorem look_can_c (m : Th Meta) (c : Th Cred) (w : Th Int) (hm : short (m .o).acl) (hc : short (c .o).groups) {d : Nat} {K : ARes → BL → Prop} (hr : ∀ b : Th Bool, b .o = (canS (m .o) (c .o) (w .o)).getD false → K (.ret (.bool b)) (boxes m c w)) :
    CallAt PT right_look_bool [.fn (.func right_Can_1) .nil (.cons (.ptr 10000 0) (.cons (.ptr 10001 0) (.cons (.ptr 10002 0) .nil)))] d (boxes m c w) K := by
  refine CallAt.res ?_
  refine right_look_bool.of rfl rfl ?_
  cbv
  refine CallAt.frameP [(10000, 10000), (10001, 10001), (10002, 10002)] [.ptr 10000 0, .ptr 10001 0, .ptr 10002 0] (by kernel_rfl) rfl fun K1 hK1 => ?_
  cbv
  refine can1_c m c w hm hc (fun b hb => hK1 _ _ ?_) fun t ht => hK1 _ _ ?_
  · cbv
    refine DefAt.use [(10000, 2)] [.nif, .ptr 10000 0] (by kernel_rfl) rfl (lookd_none_c b ?_)
    cbv
    refine ⟨_, .ret (.refl _), hr b ?_⟩
    rw [hb]; rfl
  · cbv
    refine DefAt.use [(10000, 2)] [lacks t, .ptr 10000 0] (by kernel_rfl) rfl (lookd_some_c t ?_)
    cbv
    refine ⟨_, .ret (.ff rfl), hr (fun _ => false) ?_⟩
    rw [ht]; rfl
/-- Who asks, by powers or by a list. -/
def CanS (m : Meta) (c : Cred) (w : Int) : Bool := !(decide (w < 0) || decide (7 < w)) && (decide (0 < band c.powers 2) || (canS m c w).getD false)
theorem Can_c (m : Th Meta) (c : Th Cred) (w : Th Int) (hm : short (m .o).acl) (hc : short (c .o).groups) {d : Nat} {K : ARes → BL → Prop} (hr : ∀ b : Th Bool, b .o = CanS (m .o) (c .o) (w .o) → K (.ret (.bool b)) .nil) :
    CallAt PT right_Can [Meta.av m, Cred.av c, .int .i64 w] d .nil K := by
  refine CallAt.res ?_
  refine right_Can.of rfl rfl ?_
  cbv
  have fin := hr
  refine ⟨fun h1 => ?_, fun h1 => ?_⟩
  · have h1 : ¬ w .o < 0 := of_decide_eq_false h1
    cbv
    refine ⟨fun h2 => ?_, fun h2 => ?_⟩
    · have h2 : 7 < w .o := of_decide_eq_true h2
      cbv
      exact ⟨_, .ret (.ff rfl), fin (fun _ => false) (by simp [CanS, h2])⟩
    · have h2 : ¬ 7 < w .o := of_decide_eq_false h2
      cbv
      refine ⟨fun h3 => ?_, fun h3 => ?_⟩
      · have h3 : ¬ 0 < band (c .o).powers 2 := of_decide_eq_false h3
        refine CallAt.frameP [(10000, 3), (10001, 4), (10002, 5)] [.fn (.func right_Can_1) .nil (.cons (.ptr 10000 0) (.cons (.ptr 10001 0) (.cons (.ptr 10002 0) .nil)))] (by kernel_rfl) rfl fun K1 hK1 => ?_
        cbv
        refine look_can_c m c w hm hc fun b hb => hK1 _ _ ?_
        cbv
        exact ⟨_, .ret (.refl _), fin b (by rw [hb]; simp [CanS, h1, h2, h3])⟩
      · have h3 : 0 < band (c .o).powers 2 := of_decide_eq_true h3
        cbv
        exact ⟨_, .ret (.tt rfl), fin (fun _ => true) (by simp [CanS, h1, h2, h3])⟩
  · have h1 : w .o < 0 := of_decide_eq_true h1
    cbv
    exact ⟨_, .ret (.ff rfl), fin (fun _ => false) (by simp [CanS, h1])⟩
end Go.Proofs.YtkklflpfklbbcaaDoor
/- Bytes as numbers; entries: data. -/
namespace Go.Proofs.YtkklflpfklbbcaaDoor
open Go Go.Proofs.YtkklflpfklbbcaaDoor.Sx
set_option linter.unusedVariables false
set_option linter.unusedSimpArgs false
theorem wrap_byte {x : Int} (h : 0 ≤ x ∧ x < 256) : IntKind.i64.wrap x = x := by rw [IntKind.wrap_i64]; omega
/-- Behind a row of nothing. -/
theorem app_rows0 {α : Type} {bytes : Nat} {n m : Th Nat} {g gy : Th Nat → AV} {K : Th Nat → (Th Nat → AV) → Prop} (ch : Th α → AV) (z : α) (ys : List α) (hn : n .o = 0)
    (hm : m .o = ys.length) (hy : ∀ i, i < ys.length → gy (fun _ => i) = ch fun _ => ys.getD i z) (hroom : ys.length * bytes ≤ 140737488355328)
    (h : K (fun _ => ys.length) fun i => ch fun _ => ys.getD (i .o) z) : AppAt bytes n m g gy K :=
  app_rows ch z [] ys hn (fun i hi => absurd hi (Nat.not_lt_zero _)) hm hy (by simpa using hroom) h
def strCh (s : Th (List UInt8)) : AV := .cons (.str s) .nil
def strs (l : Th (List (List UInt8))) : AV := .sl 1 (fun _ => (l .o).length) fun i => strCh fun _ => (l .o).getD (i .o) []
end Go.Proofs.YtkklflpfklbbcaaDoor
/- The document's example of the layer right, and what the laws of rights share. -/
namespace Go.Proofs.YtkklflpfklbbcaaDoor
open Go Go.Proofs.YtkklflpfklbbcaaDoor.Sx F
def metaZ : Meta := ⟨0, 0, 0, 0, 0, [], [], [], ⟨0, 0, 0, false, 0⟩, 0⟩
theorem plain_c (mo u g : Th Int) {d : Nat} {K : ARes → BL → Prop} (hr : ∀ m : Th Meta, m .o = { metaZ with mode := mo .o, uid := u .o, gid := g .o } → K (.ret (Meta.av m)) .nil) : CallAt PT r9_Plain [.int .i64 mo, .int .i64 u, .int .i64 g] d .nil K := by
  refine CallAt.res ?_
  refine r9_Plain.of rfl rfl ?_
  cbv
  refine ⟨_, .ret (.agg ?_), (hr (fun _ => { metaZ with mode := mo .o, uid := u .o, gid := g .o }) rfl)⟩
  exact .cons (.refl _) (.cons (.refl _) (.cons (.refl _) (.cons (.refl _) (.cons (.refl _) (.cons (.nsl rfl) (.cons (.nsl rfl) (.cons (.nsl rfl) (.cons (.refl _) (.cons (.refl _) (.cons (.refl _) (.cons (.ff rfl) (.cons (.refl _) (.cons (.refl _) .nil)))))))))))))
/-- Who asks, in no further group. -/
theorem cred_same (u g p : Th Int) : Same (.agg (.cons (.int .i64 u) (.cons (.int .i64 g) (.cons .nsl (.cons (.int .i64 p) .nil))))) (Cred.av fun _ => ⟨u .o, g .o, [], p .o⟩) :=
  .agg (.cons (.refl _) (.cons (.refl _) (.cons (.nsl rfl) (.cons (.refl _) .nil))))
theorem short_nil {α : Type} : short ([] : List α) := by show 0 ≤ _; decide
theorem band_le {x y : Int} (h0 : 0 ≤ y) (h1 : y < 4611686018427387904) : 0 ≤ band x y ∧ band x y ≤ y := by
  have hy : (BitVec.ofInt 64 y).toNat = y.toNat := by
    rw [BitVec.toNat_ofInt]
    omega
  have hle : (BitVec.ofInt 64 x &&& BitVec.ofInt 64 y).toNat ≤ y.toNat := by
    rw [BitVec.toNat_and, hy]
    exact Nat.and_le_right
  have he : band x y = IntKind.i64.wrap ((BitVec.ofInt 64 x &&& BitVec.ofInt 64 y).toNat : Int) := rfl
  rw [he, IntKind.wrap_i64]
  omega
end Go.Proofs.YtkklflpfklbbcaaDoor
/- Who asks, by numbers. -/
namespace Go.Proofs.YtkklflpfklbbcaaDoor
open Go Go.Proofs.YtkklflpfklbbcaaDoor.Sx F
end Go.Proofs.YtkklflpfklbbcaaDoor
/- What the laws make by numbers: access lists. -/
namespace Go.Proofs.YtkklflpfklbbcaaDoor
open Go Go.Proofs.YtkklflpfklbbcaaDoor.Sx F
set_option linter.unusedVariables false
set_option linter.unusedSimpArgs false
def pairs (ns : List Int) : Nat := min 6 (ns.length / 2)
end Go.Proofs.YtkklflpfklbbcaaDoor
/- What the laws make by numbers: names with values. -/
namespace Go.Proofs.YtkklflpfklbbcaaDoor
open Go Go.Proofs.YtkklflpfklbbcaaDoor.Sx F
set_option linter.unusedVariables false
set_option linter.unusedSimpArgs false
theorem lt_irr : ∀ a : List UInt8, strLt a a = false
  | [] => rfl
  | x :: r => by
    have := lt_irr r
    unfold strLt at *
    simp [Op.bytesLess, this]
theorem lt_trans' : ∀ {a b c : List UInt8}, strLt a b = true → strLt b c = true → strLt a c = true
  | _, _, [], _, h => by unfold strLt at h; simp [Op.bytesLess] at h
  | _, [], _ :: _, h, _ => by unfold strLt at h; simp [Op.bytesLess] at h
  | [], _ :: _, _ :: _, _, _ => rfl
  | x :: a, y :: b, z :: c, h, k => by
    have ih := @lt_trans' a b c
    unfold strLt at *
    simp only [Op.bytesLess, Bool.or_eq_true, Bool.and_eq_true, decide_eq_true_eq, beq_iff_eq] at *
    rcases h with h | ⟨rfl, h⟩
    · rcases k with k | ⟨rfl, k⟩
      · exact .inl (UInt8.lt_trans h k)
      · exact .inl h
    · rcases k with k | ⟨rfl, k⟩
      · exact .inl k
      · exact .inr ⟨rfl, ih h k⟩
end Go.Proofs.YtkklflpfklbbcaaDoor
/- What the laws make by numbers: what is kept of a file. -/
namespace Go.Proofs.YtkklflpfklbbcaaDoor
open Go Go.Proofs.YtkklflpfklbbcaaDoor.Sx F
set_option linter.unusedVariables false
set_option linter.unusedSimpArgs false
theorem ff_bool : Same .ff (.bool fun _ => false) := Same.ff rfl
end Go.Proofs.YtkklflpfklbbcaaDoor
/- The law RightModes, walked: it answers true whatever the numbers. -/
namespace Go.Proofs.YtkklflpfklbbcaaDoor
open Go Go.Proofs.YtkklflpfklbbcaaDoor.Sx F
set_option linter.unusedVariables false
set_option linter.unusedSimpArgs false
theorem band_7 (x : Int) : 0 ≤ band x 7 ∧ band x 7 < 8 := by
  have := band_le (x := x) (y := 7) (by decide) (by decide)
  omega
end Go.Proofs.YtkklflpfklbbcaaDoor
/- Who can what: the law of lists, in plain Lean. -/
namespace Go.Proofs.YtkklflpfklbbcaaDoor
open Go Go.Proofs.YtkklflpfklbbcaaDoor.Sx F
set_option linter.unusedVariables false
set_option linter.unusedSimpArgs false
structure Good (l : List Ace) : Prop where
  perm : ∀ a ∈ l, 0 ≤ a.perm ∧ a.perm < 8
  own : ∃ a ∈ l, a.tag = 1
  grp : ∃ a ∈ l, a.tag = 3
  oth : ∃ a ∈ l, a.tag = 6
theorem good_mode (m : Int) : Good (fromMode m) := by
  have h := band_le (x := m) (y := 511) (by decide) (by decide)
  refine ⟨fun a ha => ?_, ⟨_, .head _, rfl⟩, ⟨_, .tail _ (.head _), rfl⟩, ⟨_, .tail _ (.tail _ (.head _)), rfl⟩⟩
  simp only [fromMode, List.mem_cons, List.not_mem_nil, or_false] at ha
  rcases ha with rfl | rfl | rfl
  · show 0 ≤ (band m 511).fdiv 64 ∧ (band m 511).fdiv 64 < 8
    rw [Int.fdiv_eq_ediv_of_nonneg _ (by decide)]
    omega
  · exact band_7 _
  · exact band_7 _
theorem perm_some {l : List Ace} (h : Good l) {t : Int} (ht : ∃ a ∈ l, a.tag = t) : ∃ p, permS l t = some p ∧ 0 ≤ p ∧ p < 8 := by
  obtain ⟨a, ha, hat⟩ := ht
  unfold permS
  cases hf : l.find? fun a => decide (a.tag = t) with
  | none => exact absurd (List.find?_eq_none.1 hf a ha) (by simp [hat])
  | some b => exact ⟨b.perm, rfl, h.perm b (List.mem_of_find?_eq_some hf)⟩
theorem mask_some {l : List Ace} (h : Good l) : ∃ p, maskS l = some p ∧ 0 ≤ p ∧ p < 8 := by
  unfold maskS
  split
  · rename_i hx
    rcases ixP_find (fun a : Ace => decide (a.tag = 5)) Ace.z l with ⟨h1, _⟩ | ⟨k, _, _, h3⟩
    · omega
    · refine perm_some h ⟨_, List.mem_of_find?_eq_some h3, by simpa using List.find?_some h3⟩
  · exact ⟨7, rfl, by decide, by decide⟩
/-- What the list says of who asks: a right of the one named, or those of the groups. -/
def goP (m : Meta) (c : Cred) (mask : Int) : List Ace → Int ⊕ List Int
  | [] => .inr []
  | a :: r =>
    if a.tag = 2 ∧ a.id = c.uid then .inl (band a.perm mask)
    else if (a.tag = 3 ∧ inS c m.gid = true) ∨ (a.tag = 4 ∧ inS c a.id = true) then
      match goP m c mask r with
      | .inl p => .inl p
      | .inr P => .inr (band a.perm mask :: P)
    else goP m c mask r
theorem goS_goP (m : Meta) (c : Cred) (w mask : Int) : ∀ (l : List Ace) (me any : Bool), goS m c w mask l me any = match goP m c mask l with
    | .inl p => .inl (hasS w p)
    | .inr P => .inr (me || !P.isEmpty, any || P.any (hasS w))
  | [], me, any => by simp [goS, goP]
  | a :: r, me, any => by
    unfold goS goP
    split
    · rfl
    · split
      · rw [goS_goP m c w mask r]
        split <;> simp_all [Bool.or_assoc]
      · exact goS_goP m c w mask r me any
/-- The rights of which one must do. -/
def repS (m : Meta) (c : Cred) : List Int :=
  if m.uid = c.uid then [(permS (ofS m) 1).getD 0] else
  match goP m c ((maskS (ofS m)).getD 0) (ofS m) with
  | .inl p => [p]
  | .inr [] => [(permS (ofS m) 6).getD 0]
  | .inr (p :: P) => p :: P
theorem canS_rep {m : Meta} {c : Cred} (h : Good (ofS m)) (w : Int) : canS m c w = some ((repS m c).any (hasS w)) := by
  obtain ⟨p1, h1, _⟩ := perm_some h h.own
  obtain ⟨p6, h6, _⟩ := perm_some h h.oth
  obtain ⟨k, hk, _⟩ := mask_some h
  unfold canS repS
  rw [h1, h6, hk]
  split
  · simp
  · rw [Option.bind_some, goS_goP]
    simp only [Option.getD_some]
    cases goP m c k (ofS m) with
    | inl p => simp
    | inr P => cases P <;> simp
end Go.Proofs.YtkklflpfklbbcaaDoor
/- right.Less, walked, and what it answers. -/
namespace Go.Proofs.YtkklflpfklbbcaaDoor
open Go Go.Proofs.YtkklflpfklbbcaaDoor.Sx F
set_option linter.unusedVariables false
set_option linter.unusedSimpArgs false
/-- What a right may, another may. -/
def sub (x y : Int) : Prop := ∀ w, 0 ≤ w → w < 8 → hasS w x = true → hasS w y = true
end Go.Proofs.YtkklflpfklbbcaaDoor
/- The document's answers on rights, walked. -/
namespace Go.Proofs.YtkklflpfklbbcaaDoor
open Go Go.Proofs.YtkklflpfklbbcaaDoor.Sx F
set_option linter.unusedVariables false
set_option linter.unusedSimpArgs false
def permR (l : List Ace) (t : Int) : Int := (permS l t).getD (-1)
theorem permS_cons (a : Ace) (r : List Ace) (t : Int) : permS (a :: r) t = if a.tag = t then some a.perm else permS r t := by
  unfold permS
  by_cases h : a.tag = t <;> simp [h]
theorem perm9_c (l : Th (List Ace)) (t : Th Int) (hl : short (l .o)) {d : Nat} {K : ARes → BL → Prop} (hr : ∀ n : Th Int, n .o = permR (l .o) (t .o) → K (.ret (.int .i64 n)) .nil) : CallAt PT r9_Perm [aces l, .int .i64 t] d .nil K := by
  refine r9_Perm.of rfl rfl ?_
  cbv
  refine loop_rule (X := Nat) 1000 [0, 1] [] (fun k => .cons 5 (.int .i64 fun _ => zi k) .nil) (fun _ => .nil) (fun k => k ≤ (l .o).length ∧ permS (l .o) (t .o) = permS ((l .o).drop k) (t .o)) (fun k => (l .o).length - k) 0 ?_ ⟨Nat.zero_le _, rfl⟩ ?_
  · cbv
    (repeat' (first | exact True.intro | exact Same.refl _ | exact SameB.refl _ | exact ⟨rfl⟩ | exact Same.int rfl | exact Same.str rfl | exact Same.bool rfl | (refine Same.int ?_; simp only [List.length_append, List.length_cons, List.length_nil, zi]; omega) | (refine SameB.row' rfl fun i hi => ?_; first | rfl | exact absurd hi (Nat.not_lt_zero _)) | refine And.intro ?_ ?_ | refine SameB.cells ?_ | exact SameC.nil | refine SameC.cons ?_ ?_ | exact Same.nsl rfl | exact Same.tt rfl | exact Same.ff rfl))
  · rintro k ⟨hk, hp⟩
    have succ := zi_succ (k := k) (by unfold short at hl; omega)
    cbv
    ((try refine br_rev ?_); (first | refine br_dec (fun h1 => ?_) (fun h1 => ?_) | refine br_ndec (fun h1 => ?_) (fun h1 => ?_) | refine br_nbool (fun h1 => ?_) (fun h1 => ?_) | refine br_bool (fun h1 => ?_) (fun h1 => ?_)); all_goals (try dsimp only at h1); all_goals (try with_reducible replace h1 := zi_lt.1 h1); all_goals (try with_reducible replace h1 := not_zlt h1)) <;> cbv
    · rw [drop_cons _ Ace.z _ h1, permS_cons] at hp
      refine safe ⟨zi_nonneg _, zi_lt.2 h1⟩ ?_
      have hz := zi_toNat k
      ((try refine br_rev ?_); (first | refine br_dec (fun h2 => ?_) (fun h2 => ?_) | refine br_ndec (fun h2 => ?_) (fun h2 => ?_) | refine br_nbool (fun h2 => ?_) (fun h2 => ?_) | refine br_bool (fun h2 => ?_) (fun h2 => ?_)); all_goals (try dsimp only at h2); all_goals (try with_reducible replace h2 := zi_lt.1 h2); all_goals (try with_reducible replace h2 := not_zlt h2)) <;> cbv
      · rw [hz] at h2
        refine safe ⟨zi_nonneg _, zi_lt.2 h1⟩ ?_
        exact hr _ (by unfold permR; rw [hp, if_pos h2]; show ((l .o).getD (zi k).toNat Ace.z).perm = _; rw [hz]; rfl)
      · rw [hz] at h2
        rw [if_neg h2] at hp
        refine ⟨k + 1, ⟨h1, hp⟩, by omega, ?_⟩
        cbv
        (repeat' (first | exact True.intro | exact Same.refl _ | exact SameB.refl _ | exact ⟨rfl⟩ | exact Same.int rfl | exact Same.str rfl | exact Same.bool rfl | (refine Same.int ?_; simp only [List.length_append, List.length_cons, List.length_nil, zi]; omega) | (refine SameB.row' rfl fun i hi => ?_; first | rfl | exact absurd hi (Nat.not_lt_zero _)) | refine And.intro ?_ ?_ | refine SameB.cells ?_ | exact SameC.nil | refine SameC.cons ?_ ?_ | exact Same.nsl rfl | exact Same.tt rfl | exact Same.ff rfl))
        all_goals exact Same.int succ
    · rw [List.drop_eq_nil_of_le (by omega)] at hp
      exact hr (fun _ => -1) (by unfold permR; rw [hp]; rfl)
theorem in9_c (c : Th Cred) (g : Th Int) (hl : short (c .o).groups) {d : Nat} {K : ARes → BL → Prop} (hr : ∀ b : Th Bool, b .o = inS (c .o) (g .o) → K (.ret (.bool b)) .nil) : CallAt PT r18_In [Cred.av c, .int .i64 g] d .nil K := by
  refine r18_In.of rfl rfl ?_
  cbv
  refine loop_rule (X := Nat × Bool) 1000 [1, 2] [2] (fun x => .cons 5 (.bool fun _ => x.2) (.cons 6 (.int .i64 fun _ => zi x.1) .nil)) (fun _ => .nil) (fun x => x.1 ≤ (c .o).groups.length ∧ x.2 = (decide ((c .o).gid = g .o) || decide (g .o ∈ (c .o).groups.take x.1))) (fun x => (c .o).groups.length - x.1) (0, decide ((c .o).gid = g .o)) ?_ ⟨Nat.zero_le _, by simp⟩ ?_
  · cbv
    (repeat' (first | exact True.intro | exact Same.refl _ | exact SameB.refl _ | exact ⟨rfl⟩ | exact Same.int rfl | exact Same.str rfl | exact Same.bool rfl | (refine Same.int ?_; simp only [List.length_append, List.length_cons, List.length_nil, zi]; omega) | (refine SameB.row' rfl fun i hi => ?_; first | rfl | exact absurd hi (Nat.not_lt_zero _)) | refine And.intro ?_ ?_ | refine SameB.cells ?_ | exact SameC.nil | refine SameC.cons ?_ ?_ | exact Same.nsl rfl | exact Same.tt rfl | exact Same.ff rfl))
  · rintro ⟨k, b⟩ ⟨hk, hb⟩
    dsimp only at hk hb
    have succ := zi_succ (k := k) (by unfold short at hl; omega)
    have hz := zi_toNat k
    cbv
    ((try refine br_rev ?_); (first | refine br_dec (fun h1 => ?_) (fun h1 => ?_) | refine br_ndec (fun h1 => ?_) (fun h1 => ?_) | refine br_nbool (fun h1 => ?_) (fun h1 => ?_) | refine br_bool (fun h1 => ?_) (fun h1 => ?_)); all_goals (try dsimp only at h1); all_goals (try with_reducible replace h1 := zi_lt.1 h1); all_goals (try with_reducible replace h1 := not_zlt h1)) <;> cbv
    · have hstep : (decide ((c .o).gid = g .o) || decide (g .o ∈ (c .o).groups.take (k + 1))) = (b || decide ((c .o).groups.getD k 0 = g .o)) := by
        rw [hb, List.take_add_one, List.getD_eq_getElem?_getD, List.getElem?_eq_getElem h1]
        simp only [List.mem_append, Option.toList_some, List.mem_singleton, Option.getD_some, Bool.or_assoc, Bool.decide_or]
        congr 2
        exact decide_eq_decide.2 eq_comm
      refine br_rev (br_bool (fun h2 => ?_) (fun h2 => ?_))
      · replace h2 : b = true := h2
        cbv
        refine ⟨(k + 1, true), ⟨h1, by show true = _; rw [hstep, h2]; rfl⟩, by show _ - (k + 1) < _ - k; omega, ?_⟩
        cbv
        (repeat' (first | exact True.intro | exact Same.refl _ | exact SameB.refl _ | exact ⟨rfl⟩ | exact Same.int rfl | exact Same.str rfl | exact Same.bool rfl | (refine Same.int ?_; simp only [List.length_append, List.length_cons, List.length_nil, zi]; omega) | (refine SameB.row' rfl fun i hi => ?_; first | rfl | exact absurd hi (Nat.not_lt_zero _)) | refine And.intro ?_ ?_ | refine SameB.cells ?_ | exact SameC.nil | refine SameC.cons ?_ ?_ | exact Same.nsl rfl | exact Same.tt rfl | exact Same.ff rfl))
        all_goals first | exact Same.int succ | exact Same.tt rfl
      · replace h2 : b = false := h2
        cbv
        refine safe ⟨zi_nonneg _, zi_lt.2 h1⟩ ?_
        refine ⟨(k + 1, decide ((c .o).groups.getD k 0 = g .o)), ⟨h1, by show decide _ = _; rw [hstep, h2]; rfl⟩, by show _ - (k + 1) < _ - k; omega, ?_⟩
        cbv
        (repeat' (first | exact True.intro | exact Same.refl _ | exact SameB.refl _ | exact ⟨rfl⟩ | exact Same.int rfl | exact Same.str rfl | exact Same.bool rfl | (refine Same.int ?_; simp only [List.length_append, List.length_cons, List.length_nil, zi]; omega) | (refine SameB.row' rfl fun i hi => ?_; first | rfl | exact absurd hi (Nat.not_lt_zero _)) | refine And.intro ?_ ?_ | refine SameB.cells ?_ | exact SameC.nil | refine SameC.cons ?_ ?_ | exact Same.nsl rfl | exact Same.tt rfl | exact Same.ff rfl))
        all_goals first | exact Same.int succ | exact Same.bool (by show decide ((c .o).groups.getD (zi k).toNat 0 = g .o) = decide ((c .o).groups.getD k 0 = g .o); rw [hz])
    · exact hr _ (by show b = _; rw [hb, List.take_of_length_le (by omega)]; rfl)
theorem has9_c (c : Th Cred) (p : Th Int) {d : Nat} {K : ARes → BL → Prop} (hr : ∀ b : Th Bool, b .o = !decide (band (c .o).powers (p .o) = 0) → K (.ret (.bool b)) .nil) : CallAt PT r18_has [Cred.av c, .int .i64 p] d .nil K := by
  refine r18_has.of rfl rfl ?_
  cbv
  exact hr _ rfl
theorem owner9_c (m : Th Meta) (c : Th Cred) {d : Nat} {K : ARes → BL → Prop} (hr : ∀ b : Th Bool, b .o = (decide ((m .o).uid = (c .o).uid) || !decide (band (c .o).powers 4 = 0)) → K (.ret (.bool b)) .nil) : CallAt PT r18_Owner [Meta.av m, Cred.av c] d .nil K := by
  refine CallAt.res ?_
  refine r18_Owner.of rfl rfl ?_
  cbv
  ((try refine br_rev ?_); (first | refine br_dec (fun h1 => ?_) (fun h1 => ?_) | refine br_ndec (fun h1 => ?_) (fun h1 => ?_) | refine br_nbool (fun h1 => ?_) (fun h1 => ?_) | refine br_bool (fun h1 => ?_) (fun h1 => ?_)); all_goals (try dsimp only at h1); all_goals (try with_reducible replace h1 := zi_lt.1 h1); all_goals (try with_reducible replace h1 := not_zlt h1))
  · cbv
    exact ⟨_, .ret (.tt rfl), hr (fun _ => true) (by simp [h1])⟩
  · cbv
    refine has9_c c (fun _ => 4) fun b hb => ?_
    cbv
    exact ⟨_, .ret (.refl _), hr _ (by rw [hb]; simp [h1])⟩
def mode9 (m : Int) : List Ace := [⟨1, 0, band (m.fdiv (2 ^ 6)) 7⟩, ⟨3, 0, band (m.fdiv (2 ^ 3)) 7⟩, ⟨6, 0, band m 7⟩]
theorem from9_c (m : Th Int) {d : Nat} {K : ARes → BL → Prop} (hr : ∀ l : Th (List Ace), l .o = mode9 (m .o) → K (.ret (aces l)) .nil) : CallAt PT r9_FromMode [.int .i64 m] d .nil K := by
  refine CallAt.res ?_
  refine r9_FromMode.of rfl rfl ?_
  cbv
  refine ⟨fun _ => by decide, fun _ => by decide, ?_⟩
  refine ⟨_, .ret (.sl ?_ ?_), (hr (fun _ => mode9 (m .o)) rfl)⟩
  · rfl
  · intro i hi
    have hi : i < 3 := hi
    match i, hi with
    | 0, _ => rfl
    | 1, _ => rfl
    | 2, _ => rfl
def of9 (m : Meta) : List Ace := if 0 < m.acl.length then m.acl else mode9 m.mode
theorem list9_c (m : Th Meta) {d : Nat} {K : ARes → BL → Prop} (hr : ∀ l : Th (List Ace), l .o = of9 (m .o) → K (.ret (aces l)) .nil) : CallAt PT r18_list [Meta.av m] d .nil K := by
  refine r18_list.of rfl rfl ?_
  cbv
  refine ⟨fun h1 => ?_, fun h1 => ?_⟩
  · have h1 : 0 < ((m .o).acl).length := zi_lt.1 (of_decide_eq_true h1)
    cbv
    refine (hr (fun _ => (m .o).acl) ?_)
    unfold of9; rw [if_pos h1]
  · have h1 : ¬ 0 < ((m .o).acl).length := fun q => of_decide_eq_false h1 (zi_lt.2 q)
    cbv
    refine from9_c (fun _ => (m .o).mode) fun l hl => ?_
    cbv
    refine (hr l ?_)
    unfold of9; rw [if_neg h1, hl]
def user9 (c : Cred) : List Ace → Option Int
  | [] => none
  | a :: r => if a.tag = 2 ∧ a.id = c.uid then some a.perm else user9 c r
def grp9 (m : Meta) (c : Cred) (w mask : Int) (fin : Bool) : List Ace → Bool → Bool
  | [], s => !s && fin
  | a :: r, s =>
    if (a.tag = 3 ∧ inS c m.gid = true) ∨ (a.tag = 4 ∧ inS c a.id = true) then
      if hasS w (band a.perm mask) = true then true else grp9 m c w mask fin r true
    else grp9 m c w mask fin r s
def mask9 (l : List Ace) : Int := if permR l 5 < 0 then 7 else permR l 5
def Can9 (m : Meta) (c : Cred) (w : Int) : Bool :=
  if w < 0 ∨ 7 < w then false else if ¬ band c.powers 2 = 0 then true
  else if m.uid = c.uid then hasS w (permR (of9 m) 1)
  else match user9 c (of9 m) with
    | some p => hasS w (band p (mask9 (of9 m)))
    | none => grp9 m c w (mask9 (of9 m)) (hasS w (permR (of9 m) 6)) (of9 m) false
theorem of9_short {m : Meta} (h : short m.acl) : short (of9 m) := by
  unfold of9
  split
  · exact h
  · show 3 ≤ _; decide
theorem Can9_c (m : Th Meta) (c : Th Cred) (w : Th Int) (hm : short (m .o).acl) (hc : short (c .o).groups) {d : Nat} {K : ARes → BL → Prop} (hr : ∀ b : Th Bool, b .o = Can9 (m .o) (c .o) (w .o) → K (.ret (.bool b)) .nil) :
    CallAt PT r18_Can [Meta.av m, Cred.av c, .int .i64 w] d .nil K := by
  refine CallAt.res ?_
  refine r18_Can.of rfl rfl ?_
  cbv
  refine br_rev (br_dec (fun h1 => ?_) (fun h1 => ?_))
  · cbv
    exact ⟨_, .ret (.ff rfl), hr (fun _ => false) (by unfold Can9; rw [if_pos (.inl h1)])⟩
  cbv
  refine br_dec (fun h2 => ?_) (fun h2 => ?_)
  · cbv
    exact ⟨_, .ret (.ff rfl), hr (fun _ => false) (by unfold Can9; rw [if_pos (.inr h2)])⟩
  have hw : ¬ (w .o < 0 ∨ 7 < w .o) := fun q => q.elim h1 h2
  cbv
  refine has9_c c (fun _ => 2) fun b1 hb1 => ?_
  cbv
  refine br_bool (fun h3 => ?_) (fun h3 => ?_)
  · cbv
    exact ⟨_, .ret (.tt rfl), hr (fun _ => true) (by unfold Can9; rw [if_neg hw, if_pos (by rw [hb1] at h3; simpa using h3)])⟩
  have hp : band (c .o).powers 2 = 0 := by
    have h3 : b1 .o = false := h3
    rw [hb1] at h3
    simpa using h3
  cbv
  refine list9_c m fun l hl => ?_
  have hls : short (l .o) := by rw [hl]; exact of9_short hm
  cbv
  refine br_dec (fun h4 => ?_) (fun h4 => ?_)
  · cbv
    refine perm9_c l (fun _ => 1) hls fun n hn => ?_
    cbv
    exact ⟨_, .ret (.refl _), hr _ (by unfold Can9; rw [if_neg hw, if_neg (by simpa using hp), if_pos h4, ← hl, ← hn]; rfl)⟩
  cbv
  refine perm9_c l (fun _ => 5) hls fun n hn => ?_
  cbv
  have key : ∀ (mk : Th Int), mk .o = mask9 (l .o) → Can9 (m .o) (c .o) (w .o) = match user9 (c .o) (l .o) with
    | some p => hasS (w .o) (band p (mk .o))
    | none => grp9 (m .o) (c .o) (w .o) (mk .o) (hasS (w .o) (permR (l .o) 6)) (l .o) false := by
    intro mk hmk
    unfold Can9
    rw [if_neg hw, if_neg (by simpa using hp), if_neg h4, ← hl, hmk]
  refine br_dec (fun h5 => ?_) (fun h5 => ?_)
  · skip
    have hcan := key (fun _ => 7 : Th Int) (by unfold mask9; rw [← hn, if_pos h5])
    cbv
    refine loop_rule (X := Nat) 1000 [2, 3, 4, 7, 8] [3, 4] (fun k => .cons 9 (.int .i64 fun _ => zi k) .nil) (fun _ => .nil) (fun k => k ≤ (l .o).length ∧ user9 (c .o) (l .o) = user9 (c .o) ((l .o).drop k)) (fun k => (l .o).length - k) 0 ?_ ⟨Nat.zero_le _, rfl⟩ ?_
    · cbv
      (repeat' (first | exact True.intro | exact Same.refl _ | exact SameB.refl _ | exact ⟨rfl⟩ | exact Same.int rfl | exact Same.str rfl | exact Same.bool rfl | (refine Same.int ?_; simp only [List.length_append, List.length_cons, List.length_nil, zi]; omega) | (refine SameB.row' rfl fun i hi => ?_; first | rfl | exact absurd hi (Nat.not_lt_zero _)) | refine And.intro ?_ ?_ | refine SameB.cells ?_ | exact SameC.nil | refine SameC.cons ?_ ?_ | exact Same.nsl rfl | exact Same.tt rfl | exact Same.ff rfl))
    · rintro k ⟨hk, hu⟩
      have succ := zi_succ (k := k) (by unfold short at hls; omega)
      have hz := zi_toNat k
      cbv
      ((try refine br_rev ?_); (first | refine br_dec (fun h6 => ?_) (fun h6 => ?_) | refine br_ndec (fun h6 => ?_) (fun h6 => ?_) | refine br_nbool (fun h6 => ?_) (fun h6 => ?_) | refine br_bool (fun h6 => ?_) (fun h6 => ?_)); all_goals (try dsimp only at h6); all_goals (try with_reducible replace h6 := zi_lt.1 h6); all_goals (try with_reducible replace h6 := not_zlt h6)) <;> cbv
      · rw [drop_cons _ Ace.z _ h6, user9] at hu
        have hi : (0 : Int) ≤ zi k ∧ zi k < zi (l .o).length := ⟨zi_nonneg _, zi_lt.2 h6⟩
        refine safe hi ?_
        ((try refine br_rev ?_); (first | refine br_dec (fun h7 => ?_) (fun h7 => ?_) | refine br_ndec (fun h7 => ?_) (fun h7 => ?_) | refine br_nbool (fun h7 => ?_) (fun h7 => ?_) | refine br_bool (fun h7 => ?_) (fun h7 => ?_)); all_goals (try dsimp only at h7); all_goals (try with_reducible replace h7 := zi_lt.1 h7); all_goals (try with_reducible replace h7 := not_zlt h7))
        · rw [hz] at h7
          cbv
          refine safe hi ?_
          ((try refine br_rev ?_); (first | refine br_dec (fun h8 => ?_) (fun h8 => ?_) | refine br_ndec (fun h8 => ?_) (fun h8 => ?_) | refine br_nbool (fun h8 => ?_) (fun h8 => ?_) | refine br_bool (fun h8 => ?_) (fun h8 => ?_)); all_goals (try dsimp only at h8); all_goals (try with_reducible replace h8 := zi_lt.1 h8); all_goals (try with_reducible replace h8 := not_zlt h8))
          · rw [hz] at h8
            rw [if_pos ⟨h7, h8⟩] at hu
            rw [hu] at hcan
            cbv
            refine safe hi ?_
            exact ⟨_, .ret (.refl _), hr _ (by rw [hcan]; show hasS (w .o) (band ((l .o).getD (zi k).toNat Ace.z).perm ((fun _ => 7 : Th Int) .o)) = _; rw [hz])⟩
          · rw [hz] at h8
            rw [if_neg (fun q => h8 q.2)] at hu
            cbv
            refine ⟨k + 1, ⟨h6, hu⟩, by omega, ?_⟩
            cbv
            (repeat' (first | exact True.intro | exact Same.refl _ | exact SameB.refl _ | exact ⟨rfl⟩ | exact Same.int rfl | exact Same.str rfl | exact Same.bool rfl | (refine Same.int ?_; simp only [List.length_append, List.length_cons, List.length_nil, zi]; omega) | (refine SameB.row' rfl fun i hi => ?_; first | rfl | exact absurd hi (Nat.not_lt_zero _)) | refine And.intro ?_ ?_ | refine SameB.cells ?_ | exact SameC.nil | refine SameC.cons ?_ ?_ | exact Same.nsl rfl | exact Same.tt rfl | exact Same.ff rfl))
            all_goals exact Same.int succ
        · rw [hz] at h7
          rw [if_neg (fun q => h7 q.1)] at hu
          cbv
          refine ⟨k + 1, ⟨h6, hu⟩, by omega, ?_⟩
          cbv
          (repeat' (first | exact True.intro | exact Same.refl _ | exact SameB.refl _ | exact ⟨rfl⟩ | exact Same.int rfl | exact Same.str rfl | exact Same.bool rfl | (refine Same.int ?_; simp only [List.length_append, List.length_cons, List.length_nil, zi]; omega) | (refine SameB.row' rfl fun i hi => ?_; first | rfl | exact absurd hi (Nat.not_lt_zero _)) | refine And.intro ?_ ?_ | refine SameB.cells ?_ | exact SameC.nil | refine SameC.cons ?_ ?_ | exact Same.nsl rfl | exact Same.tt rfl | exact Same.ff rfl))
          all_goals exact Same.int succ
      · rw [List.drop_eq_nil_of_le (by omega)] at hu
        rw [hu] at hcan
        clear hk succ hz h6 hu
        dsimp only [user9] at hcan
        refine loop_rule (X := Nat × Bool) 1000 [2, 3, 4, 7, 8] [3, 4] (fun x => .cons 10 (.bool fun _ => x.2) (.cons 11 (.int .i64 fun _ => zi x.1) .nil)) (fun _ => .nil)
          (fun x => x.1 ≤ (l .o).length ∧ grp9 (m .o) (c .o) (w .o) ((fun _ => 7 : Th Int) .o) (hasS (w .o) (permR (l .o) 6)) (l .o) false = grp9 (m .o) (c .o) (w .o) ((fun _ => 7 : Th Int) .o) (hasS (w .o) (permR (l .o) 6)) ((l .o).drop x.1) x.2) (fun x => (l .o).length - x.1) (0, false) ?_ ⟨Nat.zero_le _, rfl⟩ ?_
        · cbv
          (repeat' (first | exact True.intro | exact Same.refl _ | exact SameB.refl _ | exact ⟨rfl⟩ | exact Same.int rfl | exact Same.str rfl | exact Same.bool rfl | (refine Same.int ?_; simp only [List.length_append, List.length_cons, List.length_nil, zi]; omega) | (refine SameB.row' rfl fun i hi => ?_; first | rfl | exact absurd hi (Nat.not_lt_zero _)) | refine And.intro ?_ ?_ | refine SameB.cells ?_ | exact SameC.nil | refine SameC.cons ?_ ?_ | exact Same.nsl rfl | exact Same.tt rfl | exact Same.ff rfl))
          all_goals exact ff_bool
        · rintro ⟨k, s⟩ ⟨hk, hgr⟩
          dsimp only at hk hgr
          have succ := zi_succ (k := k) (by unfold short at hls; omega)
          cbv
          ((try refine br_rev ?_); (first | refine br_dec (fun h6 => ?_) (fun h6 => ?_) | refine br_ndec (fun h6 => ?_) (fun h6 => ?_) | refine br_nbool (fun h6 => ?_) (fun h6 => ?_) | refine br_bool (fun h6 => ?_) (fun h6 => ?_)); all_goals (try dsimp only at h6); all_goals (try with_reducible replace h6 := zi_lt.1 h6); all_goals (try with_reducible replace h6 := not_zlt h6)) <;> cbv
          · rw [drop_cons _ Ace.z _ h6, grp9] at hgr
            have hi : (0 : Int) ≤ zi k ∧ zi k < zi (l .o).length := ⟨zi_nonneg _, zi_lt.2 h6⟩
            have next : ∀ s', grp9 (m .o) (c .o) (w .o) ((fun _ => 7 : Th Int) .o) (hasS (w .o) (permR (l .o) 6)) (l .o) false = grp9 (m .o) (c .o) (w .o) ((fun _ => 7 : Th Int) .o) (hasS (w .o) (permR (l .o) 6)) ((l .o).drop (k + 1)) s' → k + 1 ≤ (l .o).length ∧ grp9 (m .o) (c .o) (w .o) ((fun _ => 7 : Th Int) .o) (hasS (w .o) (permR (l .o) 6)) (l .o) false = grp9 (m .o) (c .o) (w .o) ((fun _ => 7 : Th Int) .o) (hasS (w .o) (permR (l .o) 6)) ((l .o).drop (k + 1)) s' := fun s' q => ⟨h6, q⟩
            have less : (l .o).length - (k + 1) < (l .o).length - k := by omega
            refine safe hi ?_
            ((try refine br_rev ?_); (first | refine br_dec (fun h7 => ?_) (fun h7 => ?_) | refine br_ndec (fun h7 => ?_) (fun h7 => ?_) | refine br_nbool (fun h7 => ?_) (fun h7 => ?_) | refine br_bool (fun h7 => ?_) (fun h7 => ?_)); all_goals (try dsimp only at h7); all_goals (try with_reducible replace h7 := zi_lt.1 h7); all_goals (try with_reducible replace h7 := not_zlt h7))
            · replace h7 : ((l .o).getD k Ace.z).tag = 3 := by simpa only [zi_toNat] using h7
              cbv
              refine in9_c c (fun _ => (m .o).gid) hc fun b2 hb2 => ?_
              cbv
              ((try refine br_rev ?_); (first | refine br_dec (fun h8 => ?_) (fun h8 => ?_) | refine br_ndec (fun h8 => ?_) (fun h8 => ?_) | refine br_nbool (fun h8 => ?_) (fun h8 => ?_) | refine br_bool (fun h8 => ?_) (fun h8 => ?_)); all_goals (try dsimp only at h8); all_goals (try with_reducible replace h8 := zi_lt.1 h8); all_goals (try with_reducible replace h8 := not_zlt h8))
              · rw [if_pos (.inl ⟨h7, hb2.symm.trans h8⟩)] at hgr
                cbv
                refine safe hi ?_
                ((try refine br_rev ?_); (first | refine br_dec (fun hA => ?_) (fun hA => ?_) | refine br_ndec (fun hA => ?_) (fun hA => ?_) | refine br_nbool (fun hA => ?_) (fun hA => ?_) | refine br_bool (fun hA => ?_) (fun hA => ?_)); all_goals (try dsimp only at hA); all_goals (try with_reducible replace hA := zi_lt.1 hA); all_goals (try with_reducible replace hA := not_zlt hA))
                · have hA' : hasS (w .o) (band ((l .o).getD k Ace.z).perm ((fun _ => 7 : Th Int) .o)) = true := decide_eq_true (by simpa only [zi_toNat, band] using hA)
                  rw [if_pos hA'] at hgr
                  cbv
                  exact ⟨_, .ret (.tt rfl), hr (fun _ => true) (by rw [hcan]; exact hgr.symm)⟩
                · have hA' : ¬ hasS (w .o) (band ((l .o).getD k Ace.z).perm ((fun _ => 7 : Th Int) .o)) = true := fun q => hA (by simpa only [zi_toNat, band] using of_decide_eq_true q)
                  rw [if_neg hA'] at hgr
                  cbv
                  refine ⟨(k + 1, true), next true hgr, less, ?_⟩
                  cbv
                  (repeat' (first | exact True.intro | exact Same.refl _ | exact SameB.refl _ | exact ⟨rfl⟩ | exact Same.int rfl | exact Same.str rfl | exact Same.bool rfl | (refine Same.int ?_; simp only [List.length_append, List.length_cons, List.length_nil, zi]; omega) | (refine SameB.row' rfl fun i hi => ?_; first | rfl | exact absurd hi (Nat.not_lt_zero _)) | refine And.intro ?_ ?_ | refine SameB.cells ?_ | exact SameC.nil | refine SameC.cons ?_ ?_ | exact Same.nsl rfl | exact Same.tt rfl | exact Same.ff rfl))
                  all_goals first | exact Same.int succ | exact Same.tt rfl
              · have h8' : ¬ ((((l .o).getD k Ace.z).tag = 3 ∧ inS (c .o) (m .o).gid = true) ∨ (((l .o).getD k Ace.z).tag = 4 ∧ inS (c .o) ((l .o).getD k Ace.z).id = true)) := by
                  have h8 : inS (c .o) (m .o).gid = false := hb2.symm.trans h8
                  rintro (q | q)
                  · rw [h8] at q; simp at q
                  · omega
                rw [if_neg h8'] at hgr
                cbv
                refine safe hi ?_
                ((try refine br_rev ?_); (first | refine br_dec (fun h9 => ?_) (fun h9 => ?_) | refine br_ndec (fun h9 => ?_) (fun h9 => ?_) | refine br_nbool (fun h9 => ?_) (fun h9 => ?_) | refine br_bool (fun h9 => ?_) (fun h9 => ?_)); all_goals (try dsimp only at h9); all_goals (try with_reducible replace h9 := zi_lt.1 h9); all_goals (try with_reducible replace h9 := not_zlt h9))
                · replace h9 : ((l .o).getD k Ace.z).tag = 4 := by simpa only [zi_toNat] using h9
                  omega
                cbv
                refine ⟨(k + 1, s), next s hgr, less, ?_⟩
                cbv
                (repeat' (first | exact True.intro | exact Same.refl _ | exact SameB.refl _ | exact ⟨rfl⟩ | exact Same.int rfl | exact Same.str rfl | exact Same.bool rfl | (refine Same.int ?_; simp only [List.length_append, List.length_cons, List.length_nil, zi]; omega) | (refine SameB.row' rfl fun i hi => ?_; first | rfl | exact absurd hi (Nat.not_lt_zero _)) | refine And.intro ?_ ?_ | refine SameB.cells ?_ | exact SameC.nil | refine SameC.cons ?_ ?_ | exact Same.nsl rfl | exact Same.tt rfl | exact Same.ff rfl))
                all_goals exact Same.int succ
            · replace h7 : ¬ ((l .o).getD k Ace.z).tag = 3 := by simpa only [zi_toNat] using h7
              cbv
              refine safe hi ?_
              ((try refine br_rev ?_); (first | refine br_dec (fun h9 => ?_) (fun h9 => ?_) | refine br_ndec (fun h9 => ?_) (fun h9 => ?_) | refine br_nbool (fun h9 => ?_) (fun h9 => ?_) | refine br_bool (fun h9 => ?_) (fun h9 => ?_)); all_goals (try dsimp only at h9); all_goals (try with_reducible replace h9 := zi_lt.1 h9); all_goals (try with_reducible replace h9 := not_zlt h9))
              · replace h9 : ((l .o).getD k Ace.z).tag = 4 := by simpa only [zi_toNat] using h9
                cbv
                refine safe hi ?_
                refine in9_c c (fun _ => ((l .o).getD (zi k).toNat Ace.z).id) hc fun b2 hb2 => ?_
                have hb2 : b2 .o = inS (c .o) ((l .o).getD k Ace.z).id := by rw [hb2]; show inS (c .o) ((l .o).getD (zi k).toNat Ace.z).id = _; rw [zi_toNat]
                cbv
                ((try refine br_rev ?_); (first | refine br_dec (fun h8 => ?_) (fun h8 => ?_) | refine br_ndec (fun h8 => ?_) (fun h8 => ?_) | refine br_nbool (fun h8 => ?_) (fun h8 => ?_) | refine br_bool (fun h8 => ?_) (fun h8 => ?_)); all_goals (try dsimp only at h8); all_goals (try with_reducible replace h8 := zi_lt.1 h8); all_goals (try with_reducible replace h8 := not_zlt h8))
                · rw [if_pos (.inr ⟨h9, hb2.symm.trans h8⟩)] at hgr
                  cbv
                  refine safe hi ?_
                  ((try refine br_rev ?_); (first | refine br_dec (fun hA => ?_) (fun hA => ?_) | refine br_ndec (fun hA => ?_) (fun hA => ?_) | refine br_nbool (fun hA => ?_) (fun hA => ?_) | refine br_bool (fun hA => ?_) (fun hA => ?_)); all_goals (try dsimp only at hA); all_goals (try with_reducible replace hA := zi_lt.1 hA); all_goals (try with_reducible replace hA := not_zlt hA))
                  · have hA' : hasS (w .o) (band ((l .o).getD k Ace.z).perm ((fun _ => 7 : Th Int) .o)) = true := decide_eq_true (by simpa only [zi_toNat, band] using hA)
                    rw [if_pos hA'] at hgr
                    cbv
                    exact ⟨_, .ret (.tt rfl), hr (fun _ => true) (by rw [hcan]; exact hgr.symm)⟩
                  · have hA' : ¬ hasS (w .o) (band ((l .o).getD k Ace.z).perm ((fun _ => 7 : Th Int) .o)) = true := fun q => hA (by simpa only [zi_toNat, band] using of_decide_eq_true q)
                    rw [if_neg hA'] at hgr
                    cbv
                    refine ⟨(k + 1, true), next true hgr, less, ?_⟩
                    cbv
                    (repeat' (first | exact True.intro | exact Same.refl _ | exact SameB.refl _ | exact ⟨rfl⟩ | exact Same.int rfl | exact Same.str rfl | exact Same.bool rfl | (refine Same.int ?_; simp only [List.length_append, List.length_cons, List.length_nil, zi]; omega) | (refine SameB.row' rfl fun i hi => ?_; first | rfl | exact absurd hi (Nat.not_lt_zero _)) | refine And.intro ?_ ?_ | refine SameB.cells ?_ | exact SameC.nil | refine SameC.cons ?_ ?_ | exact Same.nsl rfl | exact Same.tt rfl | exact Same.ff rfl))
                    all_goals first | exact Same.int succ | exact Same.tt rfl
                · have h8' : ¬ ((((l .o).getD k Ace.z).tag = 3 ∧ inS (c .o) (m .o).gid = true) ∨ (((l .o).getD k Ace.z).tag = 4 ∧ inS (c .o) ((l .o).getD k Ace.z).id = true)) := by
                    have h8 : inS (c .o) ((l .o).getD k Ace.z).id = false := hb2.symm.trans h8
                    rintro (q | q)
                    · omega
                    · rw [h8] at q; simp at q
                  rw [if_neg h8'] at hgr
                  cbv
                  refine ⟨(k + 1, s), next s hgr, less, ?_⟩
                  cbv
                  (repeat' (first | exact True.intro | exact Same.refl _ | exact SameB.refl _ | exact ⟨rfl⟩ | exact Same.int rfl | exact Same.str rfl | exact Same.bool rfl | (refine Same.int ?_; simp only [List.length_append, List.length_cons, List.length_nil, zi]; omega) | (refine SameB.row' rfl fun i hi => ?_; first | rfl | exact absurd hi (Nat.not_lt_zero _)) | refine And.intro ?_ ?_ | refine SameB.cells ?_ | exact SameC.nil | refine SameC.cons ?_ ?_ | exact Same.nsl rfl | exact Same.tt rfl | exact Same.ff rfl))
                  all_goals exact Same.int succ
              · replace h9 : ¬ ((l .o).getD k Ace.z).tag = 4 := by simpa only [zi_toNat] using h9
                rw [if_neg (fun q => q.elim (fun q => h7 q.1) fun q => h9 q.1)] at hgr
                cbv
                refine ⟨(k + 1, s), next s hgr, less, ?_⟩
                cbv
                (repeat' (first | exact True.intro | exact Same.refl _ | exact SameB.refl _ | exact ⟨rfl⟩ | exact Same.int rfl | exact Same.str rfl | exact Same.bool rfl | (refine Same.int ?_; simp only [List.length_append, List.length_cons, List.length_nil, zi]; omega) | (refine SameB.row' rfl fun i hi => ?_; first | rfl | exact absurd hi (Nat.not_lt_zero _)) | refine And.intro ?_ ?_ | refine SameB.cells ?_ | exact SameC.nil | refine SameC.cons ?_ ?_ | exact Same.nsl rfl | exact Same.tt rfl | exact Same.ff rfl))
                all_goals exact Same.int succ
          · rw [List.drop_eq_nil_of_le (by omega), grp9] at hgr
            refine br_nbool (fun h7 => ?_) (fun h7 => ?_)
            · replace h7 : s = false := h7
              cbv
              refine perm9_c l (fun _ => 6) hls fun q hq => ?_
              cbv
              exact ⟨_, .ret (.refl _), hr _ (by rw [hcan, hgr, h7, ← hq]; rfl)⟩
            · replace h7 : s = true := h7
              cbv
              exact ⟨_, .ret (.ff rfl), hr (fun _ => false) (by rw [hcan, hgr, h7]; rfl)⟩
  · skip
    have hcan := key n (by unfold mask9; rw [← hn, if_neg h5])
    cbv
    refine loop_rule (X := Nat) 1000 [2, 3, 4, 7, 8] [3, 4] (fun k => .cons 9 (.int .i64 fun _ => zi k) .nil) (fun _ => .nil) (fun k => k ≤ (l .o).length ∧ user9 (c .o) (l .o) = user9 (c .o) ((l .o).drop k)) (fun k => (l .o).length - k) 0 ?_ ⟨Nat.zero_le _, rfl⟩ ?_
    · cbv
      (repeat' (first | exact True.intro | exact Same.refl _ | exact SameB.refl _ | exact ⟨rfl⟩ | exact Same.int rfl | exact Same.str rfl | exact Same.bool rfl | (refine Same.int ?_; simp only [List.length_append, List.length_cons, List.length_nil, zi]; omega) | (refine SameB.row' rfl fun i hi => ?_; first | rfl | exact absurd hi (Nat.not_lt_zero _)) | refine And.intro ?_ ?_ | refine SameB.cells ?_ | exact SameC.nil | refine SameC.cons ?_ ?_ | exact Same.nsl rfl | exact Same.tt rfl | exact Same.ff rfl))
    · rintro k ⟨hk, hu⟩
      have succ := zi_succ (k := k) (by unfold short at hls; omega)
      have hz := zi_toNat k
      cbv
      ((try refine br_rev ?_); (first | refine br_dec (fun h6 => ?_) (fun h6 => ?_) | refine br_ndec (fun h6 => ?_) (fun h6 => ?_) | refine br_nbool (fun h6 => ?_) (fun h6 => ?_) | refine br_bool (fun h6 => ?_) (fun h6 => ?_)); all_goals (try dsimp only at h6); all_goals (try with_reducible replace h6 := zi_lt.1 h6); all_goals (try with_reducible replace h6 := not_zlt h6)) <;> cbv
      · rw [drop_cons _ Ace.z _ h6, user9] at hu
        have hi : (0 : Int) ≤ zi k ∧ zi k < zi (l .o).length := ⟨zi_nonneg _, zi_lt.2 h6⟩
        refine safe hi ?_
        ((try refine br_rev ?_); (first | refine br_dec (fun h7 => ?_) (fun h7 => ?_) | refine br_ndec (fun h7 => ?_) (fun h7 => ?_) | refine br_nbool (fun h7 => ?_) (fun h7 => ?_) | refine br_bool (fun h7 => ?_) (fun h7 => ?_)); all_goals (try dsimp only at h7); all_goals (try with_reducible replace h7 := zi_lt.1 h7); all_goals (try with_reducible replace h7 := not_zlt h7))
        · rw [hz] at h7
          cbv
          refine safe hi ?_
          ((try refine br_rev ?_); (first | refine br_dec (fun h8 => ?_) (fun h8 => ?_) | refine br_ndec (fun h8 => ?_) (fun h8 => ?_) | refine br_nbool (fun h8 => ?_) (fun h8 => ?_) | refine br_bool (fun h8 => ?_) (fun h8 => ?_)); all_goals (try dsimp only at h8); all_goals (try with_reducible replace h8 := zi_lt.1 h8); all_goals (try with_reducible replace h8 := not_zlt h8))
          · rw [hz] at h8
            rw [if_pos ⟨h7, h8⟩] at hu
            rw [hu] at hcan
            cbv
            refine safe hi ?_
            exact ⟨_, .ret (.refl _), hr _ (by rw [hcan]; show hasS (w .o) (band ((l .o).getD (zi k).toNat Ace.z).perm (n .o)) = _; rw [hz])⟩
          · rw [hz] at h8
            rw [if_neg (fun q => h8 q.2)] at hu
            cbv
            refine ⟨k + 1, ⟨h6, hu⟩, by omega, ?_⟩
            cbv
            (repeat' (first | exact True.intro | exact Same.refl _ | exact SameB.refl _ | exact ⟨rfl⟩ | exact Same.int rfl | exact Same.str rfl | exact Same.bool rfl | (refine Same.int ?_; simp only [List.length_append, List.length_cons, List.length_nil, zi]; omega) | (refine SameB.row' rfl fun i hi => ?_; first | rfl | exact absurd hi (Nat.not_lt_zero _)) | refine And.intro ?_ ?_ | refine SameB.cells ?_ | exact SameC.nil | refine SameC.cons ?_ ?_ | exact Same.nsl rfl | exact Same.tt rfl | exact Same.ff rfl))
            all_goals exact Same.int succ
        · rw [hz] at h7
          rw [if_neg (fun q => h7 q.1)] at hu
          cbv
          refine ⟨k + 1, ⟨h6, hu⟩, by omega, ?_⟩
          cbv
          (repeat' (first | exact True.intro | exact Same.refl _ | exact SameB.refl _ | exact ⟨rfl⟩ | exact Same.int rfl | exact Same.str rfl | exact Same.bool rfl | (refine Same.int ?_; simp only [List.length_append, List.length_cons, List.length_nil, zi]; omega) | (refine SameB.row' rfl fun i hi => ?_; first | rfl | exact absurd hi (Nat.not_lt_zero _)) | refine And.intro ?_ ?_ | refine SameB.cells ?_ | exact SameC.nil | refine SameC.cons ?_ ?_ | exact Same.nsl rfl | exact Same.tt rfl | exact Same.ff rfl))
          all_goals exact Same.int succ
      · rw [List.drop_eq_nil_of_le (by omega)] at hu
        rw [hu] at hcan
        clear hk succ hz h6 hu
        dsimp only [user9] at hcan
        refine loop_rule (X := Nat × Bool) 1000 [2, 3, 4, 7, 8] [3, 4] (fun x => .cons 10 (.bool fun _ => x.2) (.cons 11 (.int .i64 fun _ => zi x.1) .nil)) (fun _ => .nil)
          (fun x => x.1 ≤ (l .o).length ∧ grp9 (m .o) (c .o) (w .o) (n .o) (hasS (w .o) (permR (l .o) 6)) (l .o) false = grp9 (m .o) (c .o) (w .o) (n .o) (hasS (w .o) (permR (l .o) 6)) ((l .o).drop x.1) x.2) (fun x => (l .o).length - x.1) (0, false) ?_ ⟨Nat.zero_le _, rfl⟩ ?_
        · cbv
          (repeat' (first | exact True.intro | exact Same.refl _ | exact SameB.refl _ | exact ⟨rfl⟩ | exact Same.int rfl | exact Same.str rfl | exact Same.bool rfl | (refine Same.int ?_; simp only [List.length_append, List.length_cons, List.length_nil, zi]; omega) | (refine SameB.row' rfl fun i hi => ?_; first | rfl | exact absurd hi (Nat.not_lt_zero _)) | refine And.intro ?_ ?_ | refine SameB.cells ?_ | exact SameC.nil | refine SameC.cons ?_ ?_ | exact Same.nsl rfl | exact Same.tt rfl | exact Same.ff rfl))
          all_goals exact ff_bool
        · rintro ⟨k, s⟩ ⟨hk, hgr⟩
          dsimp only at hk hgr
          have succ := zi_succ (k := k) (by unfold short at hls; omega)
          cbv
          ((try refine br_rev ?_); (first | refine br_dec (fun h6 => ?_) (fun h6 => ?_) | refine br_ndec (fun h6 => ?_) (fun h6 => ?_) | refine br_nbool (fun h6 => ?_) (fun h6 => ?_) | refine br_bool (fun h6 => ?_) (fun h6 => ?_)); all_goals (try dsimp only at h6); all_goals (try with_reducible replace h6 := zi_lt.1 h6); all_goals (try with_reducible replace h6 := not_zlt h6)) <;> cbv
          · rw [drop_cons _ Ace.z _ h6, grp9] at hgr
            have hi : (0 : Int) ≤ zi k ∧ zi k < zi (l .o).length := ⟨zi_nonneg _, zi_lt.2 h6⟩
            have next : ∀ s', grp9 (m .o) (c .o) (w .o) (n .o) (hasS (w .o) (permR (l .o) 6)) (l .o) false = grp9 (m .o) (c .o) (w .o) (n .o) (hasS (w .o) (permR (l .o) 6)) ((l .o).drop (k + 1)) s' → k + 1 ≤ (l .o).length ∧ grp9 (m .o) (c .o) (w .o) (n .o) (hasS (w .o) (permR (l .o) 6)) (l .o) false = grp9 (m .o) (c .o) (w .o) (n .o) (hasS (w .o) (permR (l .o) 6)) ((l .o).drop (k + 1)) s' := fun s' q => ⟨h6, q⟩
            have less : (l .o).length - (k + 1) < (l .o).length - k := by omega
            refine safe hi ?_
            ((try refine br_rev ?_); (first | refine br_dec (fun h7 => ?_) (fun h7 => ?_) | refine br_ndec (fun h7 => ?_) (fun h7 => ?_) | refine br_nbool (fun h7 => ?_) (fun h7 => ?_) | refine br_bool (fun h7 => ?_) (fun h7 => ?_)); all_goals (try dsimp only at h7); all_goals (try with_reducible replace h7 := zi_lt.1 h7); all_goals (try with_reducible replace h7 := not_zlt h7))
            · replace h7 : ((l .o).getD k Ace.z).tag = 3 := by simpa only [zi_toNat] using h7
              cbv
              refine in9_c c (fun _ => (m .o).gid) hc fun b2 hb2 => ?_
              cbv
              ((try refine br_rev ?_); (first | refine br_dec (fun h8 => ?_) (fun h8 => ?_) | refine br_ndec (fun h8 => ?_) (fun h8 => ?_) | refine br_nbool (fun h8 => ?_) (fun h8 => ?_) | refine br_bool (fun h8 => ?_) (fun h8 => ?_)); all_goals (try dsimp only at h8); all_goals (try with_reducible replace h8 := zi_lt.1 h8); all_goals (try with_reducible replace h8 := not_zlt h8))
              · rw [if_pos (.inl ⟨h7, hb2.symm.trans h8⟩)] at hgr
                cbv
                refine safe hi ?_
                ((try refine br_rev ?_); (first | refine br_dec (fun hA => ?_) (fun hA => ?_) | refine br_ndec (fun hA => ?_) (fun hA => ?_) | refine br_nbool (fun hA => ?_) (fun hA => ?_) | refine br_bool (fun hA => ?_) (fun hA => ?_)); all_goals (try dsimp only at hA); all_goals (try with_reducible replace hA := zi_lt.1 hA); all_goals (try with_reducible replace hA := not_zlt hA))
                · have hA' : hasS (w .o) (band ((l .o).getD k Ace.z).perm (n .o)) = true := decide_eq_true (by simpa only [zi_toNat, band] using hA)
                  rw [if_pos hA'] at hgr
                  cbv
                  exact ⟨_, .ret (.tt rfl), hr (fun _ => true) (by rw [hcan]; exact hgr.symm)⟩
                · have hA' : ¬ hasS (w .o) (band ((l .o).getD k Ace.z).perm (n .o)) = true := fun q => hA (by simpa only [zi_toNat, band] using of_decide_eq_true q)
                  rw [if_neg hA'] at hgr
                  cbv
                  refine ⟨(k + 1, true), next true hgr, less, ?_⟩
                  cbv
                  (repeat' (first | exact True.intro | exact Same.refl _ | exact SameB.refl _ | exact ⟨rfl⟩ | exact Same.int rfl | exact Same.str rfl | exact Same.bool rfl | (refine Same.int ?_; simp only [List.length_append, List.length_cons, List.length_nil, zi]; omega) | (refine SameB.row' rfl fun i hi => ?_; first | rfl | exact absurd hi (Nat.not_lt_zero _)) | refine And.intro ?_ ?_ | refine SameB.cells ?_ | exact SameC.nil | refine SameC.cons ?_ ?_ | exact Same.nsl rfl | exact Same.tt rfl | exact Same.ff rfl))
                  all_goals first | exact Same.int succ | exact Same.tt rfl
              · have h8' : ¬ ((((l .o).getD k Ace.z).tag = 3 ∧ inS (c .o) (m .o).gid = true) ∨ (((l .o).getD k Ace.z).tag = 4 ∧ inS (c .o) ((l .o).getD k Ace.z).id = true)) := by
                  have h8 : inS (c .o) (m .o).gid = false := hb2.symm.trans h8
                  rintro (q | q)
                  · rw [h8] at q; simp at q
                  · omega
                rw [if_neg h8'] at hgr
                cbv
                refine safe hi ?_
                ((try refine br_rev ?_); (first | refine br_dec (fun h9 => ?_) (fun h9 => ?_) | refine br_ndec (fun h9 => ?_) (fun h9 => ?_) | refine br_nbool (fun h9 => ?_) (fun h9 => ?_) | refine br_bool (fun h9 => ?_) (fun h9 => ?_)); all_goals (try dsimp only at h9); all_goals (try with_reducible replace h9 := zi_lt.1 h9); all_goals (try with_reducible replace h9 := not_zlt h9))
                · replace h9 : ((l .o).getD k Ace.z).tag = 4 := by simpa only [zi_toNat] using h9
                  omega
                cbv
                refine ⟨(k + 1, s), next s hgr, less, ?_⟩
                cbv
                (repeat' (first | exact True.intro | exact Same.refl _ | exact SameB.refl _ | exact ⟨rfl⟩ | exact Same.int rfl | exact Same.str rfl | exact Same.bool rfl | (refine Same.int ?_; simp only [List.length_append, List.length_cons, List.length_nil, zi]; omega) | (refine SameB.row' rfl fun i hi => ?_; first | rfl | exact absurd hi (Nat.not_lt_zero _)) | refine And.intro ?_ ?_ | refine SameB.cells ?_ | exact SameC.nil | refine SameC.cons ?_ ?_ | exact Same.nsl rfl | exact Same.tt rfl | exact Same.ff rfl))
                all_goals exact Same.int succ
            · replace h7 : ¬ ((l .o).getD k Ace.z).tag = 3 := by simpa only [zi_toNat] using h7
              cbv
              refine safe hi ?_
              ((try refine br_rev ?_); (first | refine br_dec (fun h9 => ?_) (fun h9 => ?_) | refine br_ndec (fun h9 => ?_) (fun h9 => ?_) | refine br_nbool (fun h9 => ?_) (fun h9 => ?_) | refine br_bool (fun h9 => ?_) (fun h9 => ?_)); all_goals (try dsimp only at h9); all_goals (try with_reducible replace h9 := zi_lt.1 h9); all_goals (try with_reducible replace h9 := not_zlt h9))
              · replace h9 : ((l .o).getD k Ace.z).tag = 4 := by simpa only [zi_toNat] using h9
                cbv
                refine safe hi ?_
                refine in9_c c (fun _ => ((l .o).getD (zi k).toNat Ace.z).id) hc fun b2 hb2 => ?_
                have hb2 : b2 .o = inS (c .o) ((l .o).getD k Ace.z).id := by rw [hb2]; show inS (c .o) ((l .o).getD (zi k).toNat Ace.z).id = _; rw [zi_toNat]
                cbv
                ((try refine br_rev ?_); (first | refine br_dec (fun h8 => ?_) (fun h8 => ?_) | refine br_ndec (fun h8 => ?_) (fun h8 => ?_) | refine br_nbool (fun h8 => ?_) (fun h8 => ?_) | refine br_bool (fun h8 => ?_) (fun h8 => ?_)); all_goals (try dsimp only at h8); all_goals (try with_reducible replace h8 := zi_lt.1 h8); all_goals (try with_reducible replace h8 := not_zlt h8))
                · rw [if_pos (.inr ⟨h9, hb2.symm.trans h8⟩)] at hgr
                  cbv
                  refine safe hi ?_
                  ((try refine br_rev ?_); (first | refine br_dec (fun hA => ?_) (fun hA => ?_) | refine br_ndec (fun hA => ?_) (fun hA => ?_) | refine br_nbool (fun hA => ?_) (fun hA => ?_) | refine br_bool (fun hA => ?_) (fun hA => ?_)); all_goals (try dsimp only at hA); all_goals (try with_reducible replace hA := zi_lt.1 hA); all_goals (try with_reducible replace hA := not_zlt hA))
                  · have hA' : hasS (w .o) (band ((l .o).getD k Ace.z).perm (n .o)) = true := decide_eq_true (by simpa only [zi_toNat, band] using hA)
                    rw [if_pos hA'] at hgr
                    cbv
                    exact ⟨_, .ret (.tt rfl), hr (fun _ => true) (by rw [hcan]; exact hgr.symm)⟩
                  · have hA' : ¬ hasS (w .o) (band ((l .o).getD k Ace.z).perm (n .o)) = true := fun q => hA (by simpa only [zi_toNat, band] using of_decide_eq_true q)
                    rw [if_neg hA'] at hgr
                    cbv
                    refine ⟨(k + 1, true), next true hgr, less, ?_⟩
                    cbv
                    (repeat' (first | exact True.intro | exact Same.refl _ | exact SameB.refl _ | exact ⟨rfl⟩ | exact Same.int rfl | exact Same.str rfl | exact Same.bool rfl | (refine Same.int ?_; simp only [List.length_append, List.length_cons, List.length_nil, zi]; omega) | (refine SameB.row' rfl fun i hi => ?_; first | rfl | exact absurd hi (Nat.not_lt_zero _)) | refine And.intro ?_ ?_ | refine SameB.cells ?_ | exact SameC.nil | refine SameC.cons ?_ ?_ | exact Same.nsl rfl | exact Same.tt rfl | exact Same.ff rfl))
                    all_goals first | exact Same.int succ | exact Same.tt rfl
                · have h8' : ¬ ((((l .o).getD k Ace.z).tag = 3 ∧ inS (c .o) (m .o).gid = true) ∨ (((l .o).getD k Ace.z).tag = 4 ∧ inS (c .o) ((l .o).getD k Ace.z).id = true)) := by
                    have h8 : inS (c .o) ((l .o).getD k Ace.z).id = false := hb2.symm.trans h8
                    rintro (q | q)
                    · omega
                    · rw [h8] at q; simp at q
                  rw [if_neg h8'] at hgr
                  cbv
                  refine ⟨(k + 1, s), next s hgr, less, ?_⟩
                  cbv
                  (repeat' (first | exact True.intro | exact Same.refl _ | exact SameB.refl _ | exact ⟨rfl⟩ | exact Same.int rfl | exact Same.str rfl | exact Same.bool rfl | (refine Same.int ?_; simp only [List.length_append, List.length_cons, List.length_nil, zi]; omega) | (refine SameB.row' rfl fun i hi => ?_; first | rfl | exact absurd hi (Nat.not_lt_zero _)) | refine And.intro ?_ ?_ | refine SameB.cells ?_ | exact SameC.nil | refine SameC.cons ?_ ?_ | exact Same.nsl rfl | exact Same.tt rfl | exact Same.ff rfl))
                  all_goals exact Same.int succ
              · replace h9 : ¬ ((l .o).getD k Ace.z).tag = 4 := by simpa only [zi_toNat] using h9
                rw [if_neg (fun q => q.elim (fun q => h7 q.1) fun q => h9 q.1)] at hgr
                cbv
                refine ⟨(k + 1, s), next s hgr, less, ?_⟩
                cbv
                (repeat' (first | exact True.intro | exact Same.refl _ | exact SameB.refl _ | exact ⟨rfl⟩ | exact Same.int rfl | exact Same.str rfl | exact Same.bool rfl | (refine Same.int ?_; simp only [List.length_append, List.length_cons, List.length_nil, zi]; omega) | (refine SameB.row' rfl fun i hi => ?_; first | rfl | exact absurd hi (Nat.not_lt_zero _)) | refine And.intro ?_ ?_ | refine SameB.cells ?_ | exact SameC.nil | refine SameC.cons ?_ ?_ | exact Same.nsl rfl | exact Same.tt rfl | exact Same.ff rfl))
                all_goals exact Same.int succ
          · rw [List.drop_eq_nil_of_le (by omega), grp9] at hgr
            refine br_nbool (fun h7 => ?_) (fun h7 => ?_)
            · replace h7 : s = false := h7
              cbv
              refine perm9_c l (fun _ => 6) hls fun q hq => ?_
              cbv
              exact ⟨_, .ret (.refl _), hr _ (by rw [hcan, hgr, h7, ← hq]; rfl)⟩
            · replace h7 : s = true := h7
              cbv
              exact ⟨_, .ret (.ff rfl), hr (fun _ => false) (by rw [hcan, hgr, h7]; rfl)⟩
end Go.Proofs.YtkklflpfklbbcaaDoor
/- The pieces of a text between bytes: plain. -/
namespace Go.Proofs.YtkklflpfklbbcaaDoor
open Go Go.Proofs.YtkklflpfklbbcaaDoor.Sx
set_option linter.unusedVariables false
set_option linter.unusedSimpArgs false
/-- The pieces of a text between the bytes c. -/
def splitC (c : UInt8) : List UInt8 → List (List UInt8)
  | [] => [[]]
  | x :: r => if x = c then [] :: splitC c r else match splitC c r with
    | [] => [[x]]
    | h :: t => (x :: h) :: t
theorem splitC_len (c : UInt8) (s : List UInt8) : (splitC c s).length = s.count c + 1 := by
  induction s with
  | nil => rfl
  | cons x r ih =>
    unfold splitC
    by_cases h : x = c
    · rw [if_pos h, List.length_cons, ih, h, List.count_cons_self]
    · rw [if_neg h, List.count_cons_of_ne h]
      cases hs : splitC c r with
      | nil => rw [hs] at ih; simp at ih
      | cons a t => rw [hs] at ih; simpa using ih
theorem splitC_no {c : UInt8} : ∀ {s : List UInt8}, c ∉ s → splitC c s = [s]
  | [], _ => rfl
  | x :: r, h => by
    unfold splitC
    rw [if_neg (fun e => h (by simp [e])), splitC_no (fun q => h (by simp [q]))]
theorem splitC_at {c : UInt8} : ∀ (a b : List UInt8), c ∉ a → splitC c (a ++ c :: b) = a :: splitC c b
  | [], b, _ => by
    show splitC c (c :: b) = _
    rw [splitC, if_pos rfl]
  | x :: r, b, h => by
    show splitC c (x :: (r ++ c :: b)) = _
    rw [splitC, if_neg (fun e => h (by simp [e])), splitC_at r b (fun q => h (by simp [q]))]
theorem mem_split {c : UInt8} : ∀ {s : List UInt8} {p : List UInt8} {x : UInt8}, p ∈ splitC c s → x ∈ p → x ∈ s ∧ x ≠ c
  | [], p, x, hp, hx => by
    have : p = [] := by simpa [splitC] using hp
    subst this
    cases hx
  | y :: r, p, x, hp, hx => by
    unfold splitC at hp
    by_cases h : y = c
    · rw [if_pos h] at hp
      rcases List.mem_cons.1 hp with rfl | hp
      · cases hx
      · have := mem_split hp hx
        exact ⟨by simp [this.1], this.2⟩
    · rw [if_neg h] at hp
      cases hs : splitC c r with
      | nil => have := splitC_len c r; rw [hs] at this; simp at this
      | cons a t =>
        rw [hs] at hp
        rcases List.mem_cons.1 hp with rfl | hp
        · rcases List.mem_cons.1 hx with rfl | hx
          · exact ⟨by simp, h⟩
          · have := mem_split (c := c) (s := r) (p := a) (x := x) (by rw [hs]; simp) hx
            exact ⟨by simp [this.1], this.2⟩
        · have := mem_split (c := c) (s := r) (p := p) (x := x) (by rw [hs]; simp [hp]) hx
          exact ⟨by simp [this.1], this.2⟩
theorem split_mem {c : UInt8} : ∀ {s : List UInt8} {x : UInt8}, x ∈ s → x ≠ c → ∃ p ∈ splitC c s, x ∈ p
  | [], x, hx, _ => by cases hx
  | y :: r, x, hx, hc => by
    unfold splitC
    by_cases h : y = c
    · rw [if_pos h]
      rcases List.mem_cons.1 hx with rfl | hx
      · exact absurd h hc
      · obtain ⟨p, hp, hxp⟩ := split_mem hx hc
        exact ⟨p, by simp [hp], hxp⟩
    · rw [if_neg h]
      cases hs : splitC c r with
      | nil => have := splitC_len c r; rw [hs] at this; simp at this
      | cons a t =>
        rcases List.mem_cons.1 hx with rfl | hx
        · exact ⟨x :: a, by simp, by simp⟩
        · obtain ⟨p, hp, hxp⟩ := split_mem hx hc
          rw [hs] at hp
          rcases List.mem_cons.1 hp with rfl | hp
          · exact ⟨y :: p, by simp, by simp [hxp]⟩
          · exact ⟨p, by simp [hp], hxp⟩
theorem index_none {s : List UInt8} {c : UInt8} (h : Lib.indexByte s c < 0) : c ∉ s := by
  induction s with
  | nil => simp
  | cons b l ih =>
    have hg := Lib.indexByte_ge l c
    unfold Lib.indexByte at h
    by_cases e : b = c
    · rw [if_pos (by simpa using e)] at h; omega
    · rw [if_neg (by simpa using e)] at h
      split at h
      · rename_i h2
        have h2 : Lib.indexByte l c = -1 := by simpa using h2
        have := ih (by omega)
        simp only [List.mem_cons, not_or]
        exact ⟨fun q => e q.symm, this⟩
      · omega
theorem index_at {s : List UInt8} {c : UInt8} (h : ¬ Lib.indexByte s c < 0) : ∃ m : Nat, Lib.indexByte s c = (m : Int) ∧ m < s.length ∧ s = s.take m ++ c :: s.drop (m + 1) ∧ c ∉ s.take m := by
  induction s with
  | nil => exact absurd (by show (-1 : Int) < 0; decide) h
  | cons b l ih =>
    have hg := Lib.indexByte_ge l c
    unfold Lib.indexByte at h ⊢
    by_cases e : b = c
    · rw [if_pos (by simpa using e)]
      exact ⟨0, rfl, by simp, by simp [e], by simp⟩
    · rw [if_neg (by simpa using e)] at h ⊢
      split at h
      · omega
      · rename_i h2
        rw [if_neg h2]
        have h2 : Lib.indexByte l c ≠ -1 := by simpa using h2
        obtain ⟨m, h3, h4, h5, h6⟩ := ih (by omega)
        refine ⟨m + 1, by rw [h3]; simp, by simp; omega, ?_, ?_⟩
        · simp only [List.take_succ_cons, List.drop_succ_cons, List.cons_append]
          rw [← h5]
        · simp only [List.take_succ_cons, List.mem_cons, not_or]
          exact ⟨fun q => e q.symm, h6⟩
def nameB (x : List UInt8) : Bool := decide (x ≠ []) && decide (x.length ≤ 255) && decide (x ≠ [46]) && decide (x ≠ [46, 46])
def pathS (s : List UInt8) : Bool := (splitC 47 s).all nameB && decide (s.length ≤ 4096) && decide ((splitC 47 s).length ≤ 64) && !decide ((0 : UInt8) ∈ s)
def name15 (x : List UInt8) : Bool := nameB x && !decide ((0 : UInt8) ∈ x) && !decide ((47 : UInt8) ∈ x)
def path15 (s : List UInt8) : Bool := decide (s ≠ []) && decide (s.length ≤ 4096) && (splitC 47 s).all name15 && decide ((splitC 47 s).length ≤ 64)
theorem path15_eq (s : List UInt8) : path15 s = pathS s := by
  rw [Bool.eq_iff_iff]
  unfold path15 pathS
  simp only [Bool.and_eq_true, decide_eq_true_eq, List.all_eq_true, Bool.not_eq_true', decide_eq_false_iff_not]
  constructor
  · rintro ⟨⟨⟨h1, h2⟩, h3⟩, h4⟩
    refine ⟨⟨⟨fun x hx => ?_, h2⟩, h4⟩, fun h0 => ?_⟩
    · have := h3 x hx
      unfold name15 at this
      simp only [Bool.and_eq_true] at this
      exact this.1.1
    · obtain ⟨p, hp, hx⟩ := split_mem (c := 47) h0 (by decide)
      have := h3 p hp
      unfold name15 at this
      simp only [Bool.and_eq_true, Bool.not_eq_true', decide_eq_false_iff_not] at this
      exact this.1.2 hx
  · rintro ⟨⟨⟨h1, h2⟩, h3⟩, h4⟩
    refine ⟨⟨⟨fun e => ?_, h2⟩, fun x hx => ?_⟩, h3⟩
    · subst e
      have := h1 [] (by simp [splitC])
      simp [nameB] at this
    · unfold name15
      simp only [Bool.and_eq_true, Bool.not_eq_true', decide_eq_false_iff_not]
      exact ⟨⟨h1 x hx, fun q => h4 (mem_split hx q).1⟩, fun q => (mem_split hx q).2 rfl⟩
end Go.Proofs.YtkklflpfklbbcaaDoor
/- Functions of package strings at a separator of one byte: walked by the kit's laws. -/
namespace Go.Proofs.YtkklflpfklbbcaaDoor
open Go Go.RowKit
set_option linter.unusedVariables false
set_option linter.unusedSimpArgs false
set_option maxHeartbeats 1000000 in
set_option maxRecDepth 100000 in
theorem indexByte_calls (s : ByteArray) (c : Int) (w : World) :
    Calls Tryd.prog 95 #[.string s, .int .u8 c] w fun e w' => e = .returned (.int .i64 (Lib.indexByte s.data.toList c.toNat.toUInt8)) ∧ w' = w := by
  go_enter Tryd.func95, Tryd.ntmps95
  go_wp2
  rw [run_callFunc_extern Tryd.func105 (by kernel_rfl) (by kernel_rfl) (by kernel_rfl) (e := Extern.BytealgIndexByte.indexByte) (by kernel_rfl), Lib.run_indexByteString]
  simp only [Result.andThen]
  rw [Oper.upon_value]
  go_wp2
  go_ret
  exact ⟨rfl, rfl⟩
set_option maxHeartbeats 2000000 in
set_option maxRecDepth 100000 in
theorem index1_calls (s : ByteArray) (c : UInt8) (w : World) :
    Calls Tryd.prog 84 #[.string s, .string ⟨#[c]⟩] w fun e w' => e = .returned (.int .i64 (Lib.indexByte s.data.toList c)) ∧ w' = w := by
  go_enter Tryd.func84, Tryd.ntmps84
  go_wp2_with (go_at_call 95; refine (indexByte_calls _ _ _).mono ?_; rintro e w' ⟨rfl, rfl⟩)
  · have h : ([c] == s.toList) = true := by assumption
    go_ret
    refine ⟨?_, rfl⟩
    have e : s.data.toList = [c] := by rw [← Lib.toList_data]; exact (beq_iff_eq.1 h).symm
    rw [e]
    simp [Lib.indexByte]
  · go_ret
    exact ⟨rfl, rfl⟩
set_option maxHeartbeats 1000000 in
set_option maxRecDepth 100000 in
theorem count1_calls (s : ByteArray) (c : UInt8) (w : World) :
    Calls Tryd.prog 83 #[.string s, .string ⟨#[c]⟩] w fun e w' => e = .returned (.int .i64 (Lib.countByte s.data.toList c)) ∧ w' = w := by
  go_enter Tryd.func83, Tryd.ntmps83
  go_wp2
  rw [run_callFunc_extern Tryd.func94 (by kernel_rfl) (by kernel_rfl) (by kernel_rfl) (e := Extern.BytealgCount.count) (by kernel_rfl), Lib.run_countString]
  simp only [Result.andThen]
  rw [Oper.upon_value]
  go_wp2
  go_ret
  exact ⟨rfl, rfl⟩
open Go.Proofs.YtkklflpfklbbcaaDoor.Sx F
/-- A call of two strings that hands back what names nothing. -/
theorem two_strs {f : Nat} (hf : callable (PT .o) f = true) (s : Th (List UInt8)) (p : List UInt8) (r : ARes) (hr : r.flat = true) (post : Ending → Prop)
    (h : ∀ w, Calls (PT .o) f #[.string ⟨(s .o).toArray⟩, .string ⟨p.toArray⟩] w fun e w' => post e ∧ w' = w) (hp : ∀ (E : Env) e, post e → Sx.Ends E r e) {d : Nat} {K : ARes → BL → Prop} (hK : K r .nil) :
    CallAt PT f [.str s, .str fun _ => p] d .nil K := by
  refine CallAt.of_below hf fun E vs hb hv => ?_
  obtain ⟨v1, r1, rfl, h1, v2, r2, rfl, h2, rfl⟩ : ∃ v1 r1, vs = v1 :: r1 ∧ Rp E (.str s) v1 ∧ ∃ v2 r2, r1 = v2 :: r2 ∧ Rp E (.str fun _ => p) v2 ∧ r2 = [] := hv
  obtain rfl : v1 = .string ⟨(s .o).toArray⟩ := h1
  obtain rfl : v2 = .string ⟨p.toArray⟩ := h2
  refine (h E.w).mono ?_
  rintro e w' ⟨he, rfl⟩
  exact ⟨r, hr, hp E e he, hK, Below.refl _ _⟩
theorem index1_c (s : Th (List UInt8)) (c : UInt8) {d : Nat} {K : ARes → BL → Prop} (hr : ∀ n : Th Int, n .o = Lib.indexByte (s .o) c → K (.ret (.int .i64 n)) .nil) : CallAt PT 84 [.str s, .str fun _ => [c]] d .nil K :=
  two_strs (by kernel_rfl) s [c] (.ret (.int .i64 fun _ => Lib.indexByte (s .o) c)) rfl (fun e => e = .returned (.int .i64 (Lib.indexByte (s .o) c))) (fun w => index1_calls _ c w) (fun E e he => by subst he; rfl) (hr _ rfl)
theorem count1_c (s : Th (List UInt8)) (c : UInt8) {d : Nat} {K : ARes → BL → Prop} (hr : ∀ n : Th Int, n .o = zi ((s .o).count c) → K (.ret (.int .i64 n)) .nil) : CallAt PT 83 [.str s, .str fun _ => [c]] d .nil K :=
  two_strs (by kernel_rfl) s [c] (.ret (.int .i64 fun _ => zi ((s .o).count c))) rfl (fun e => e = .returned (.int .i64 (zi ((s .o).count c)))) (fun w => count1_calls _ c w) (fun E e he => by subst he; rfl) (hr _ rfl)
theorem strIndex1_c (s : Th (List UInt8)) (c : UInt8) {d : Nat} {K : ARes → BL → Prop} (hr : ∀ n : Th Int, n .o = Lib.indexByte (s .o) c → K (.ret (.int .i64 n)) .nil) : CallAt PT strings_Index [.str s, .str fun _ => [c]] d .nil K := by
  refine strings_Index.of rfl rfl ?_
  cbv
  refine index1_c s c fun n hn => ?_
  cbv
  exact hr _ hn
theorem index_neg {l : List UInt8} {c : UInt8} : 0 ≤ Lib.indexByte l c ↔ c ∈ l := by
  induction l with
  | nil => simp [Lib.indexByte]
  | cons b l ih =>
    have hg := Lib.indexByte_ge l c
    unfold Lib.indexByte
    by_cases h : b = c
    · simp [h]
    · have h' : (b == c) = false := by simpa using h
      rw [h']
      simp only [Bool.false_eq_true, if_false, List.mem_cons]
      split
      · rename_i h2
        have h2 : Lib.indexByte l c = -1 := by simpa using h2
        constructor
        · intro q; omega
        · rintro (q | q)
          · exact absurd q.symm h
          · have := ih.2 q; omega
      · rename_i h2
        have h2 : Lib.indexByte l c ≠ -1 := by simpa using h2
        constructor
        · intro q; exact .inr (ih.1 (by omega))
        · intro _; omega
theorem contains1_c (s : Th (List UInt8)) (c : UInt8) {d : Nat} {K : ARes → BL → Prop} (hr : ∀ b : Th Bool, b .o = decide (c ∈ s .o) → K (.ret (.bool b)) .nil) : CallAt PT strings_Contains [.str s, .str fun _ => [c]] d .nil K := by
  refine strings_Contains.of rfl rfl ?_
  cbv
  refine strIndex1_c s c fun n hn => ?_
  cbv
  exact hr _ (by show decide (0 ≤ n .o) = _; rw [hn, decide_eq_decide]; exact index_neg)
end Go.Proofs.YtkklflpfklbbcaaDoor
/- What the laws make by numbers: names, paths. -/
namespace Go.Proofs.YtkklflpfklbbcaaDoor
open Go Go.Proofs.YtkklflpfklbbcaaDoor.Sx F
set_option linter.unusedVariables false
set_option linter.unusedSimpArgs false
end Go.Proofs.YtkklflpfklbbcaaDoor
