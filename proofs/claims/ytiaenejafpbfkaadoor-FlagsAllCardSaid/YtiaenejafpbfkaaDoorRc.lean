/- The program's functions, resolved (printed by a tool). -/
import Derived.Test.YtiaenejafpbfkaaDoorSxp
import Derived.Test.YtiaenejafpbfkaaDoorProg
import Derived.KernelRfl
namespace Go.Proofs.YtiaenejafpbfkaaDoor
open Go Go.Proofs.YtiaenejafpbfkaaDoor.Sx
namespace F
noncomputable def PT : Th Program := fun _ => Tryd.prog

/-! gripsack/gripsacklaw22.SafeDeep -/
abbrev l22_SafeDeep : Nat := 3
def l22_SafeDeep.rc : RC :=
  (.seq (.reg [R.q 4 (.mov R.ff)])
  (.seq (.reg [R.q 10 (.mov (R.t 0)),
    R.q 11 (.call 11 [(R.t 10)]),
    R.q 12 (.mov (R.t 1)),
    R.q 13 (.call 12 [(R.t 12)]),
    R.q 5 (.mov (R.t 11)),
    R.q 6 (.mov (R.t 13))])
  (.seq (.reg [R.q 14 (.mov (R.t 5)),
    R.q 15 (.mov (R.t 6)),
    R.q 16 (.call 13 [(R.t 14), (R.t 15)]),
    R.q 7 (.mov (R.t 16))])
  (.seq (.reg [R.q 8 (.mov (.val (.str fun _ => [])))])
  (.seq (.seq (.reg [R.q 9 (.mov (R.i 0))])
  (.block 0 (.loop
     (.seq (.seq (.reg [R.q 17 (.mov (R.t 9)),
       R.q 18 (.bin .lss .no (R.t 17) (R.i 30))])
     (.cond (R.t 18)
       .skip
       (.exit 0)))
     (.seq (.block 1 (.reg [R.q 21 (.mov (R.t 8)),
        R.q 22 (.bin .add .no (R.t 21) (.val (.str fun _ => [46, 46, 47]))),
        R.q 8 (.mov (R.t 22))]))
     (.reg [R.q 19 (.mov (R.t 9)),
       R.q 20 (.bin .add .no (R.t 19) (R.i 1)),
       R.q 9 (.mov (R.t 20))]))))))
  (.seq (.seq (.reg [R.q 23 (.mov (R.t 7)),
    R.q 24 (.mov (R.t 23)),
    R.g 25 (.mov (R.t 5)) 24 true,
    R.g 26 (.bin .add .no (.val (.str fun _ => [116, 111, 112, 47])) (R.t 25)) 24 true,
    R.g 27 (.mov (R.t 6)) 24 true,
    R.g 28 (.call 13 [(R.t 26), (R.t 27)]) 24 true,
    R.g 29 (.un .not (R.t 28)) 24 true,
    R.g 30 (.mov (R.t 29)) 24 true,
    R.g 31 (.mov (R.t 5)) 30 false,
    R.g 32 (.mov (R.t 6)) 30 false,
    R.g 33 (.bin .add .no (R.t 32) (.val (.str fun _ => [47, 110, 97, 109, 101]))) 30 false,
    R.g 34 (.call 13 [(R.t 31), (R.t 33)]) 30 false,
    R.g 35 (.un .not (R.t 34)) 30 false,
    R.g 36 (.pick (R.t 30) R.tt (R.t 35)) 24 true,
    R.g 37 (.mov (R.t 36)) 24 true,
    R.g 38 (.mov (R.t 5)) 37 false,
    R.g 39 (.mov (R.t 6)) 37 false,
    R.g 40 (.bin .add .no (.val (.str fun _ => [46, 47])) (R.t 39)) 37 false,
    R.g 41 (.call 13 [(R.t 38), (R.t 40)]) 37 false,
    R.g 42 (.un .not (R.t 41)) 37 false,
    R.g 43 (.pick (R.t 37) R.tt (R.t 42)) 24 true,
    R.q 44 (.pick (R.t 24) (R.t 43) R.ff)])
  (.cond (R.t 44)
    (.seq (.reg [R.q 4 (.mov R.ff)])
    .ret)
    .skip))
  (.seq (.reg [R.q 45 (.mov (R.t 5)),
    R.q 46 (.mov (R.t 8)),
    R.q 47 (.mov (R.t 6)),
    R.q 48 (.bin .add .no (R.t 46) (R.t 47)),
    R.q 49 (.call 13 [(R.t 45), (R.t 48)]),
    R.q 50 (.un .not (R.t 49)),
    R.q 51 (.mov (R.t 50)),
    R.g 52 (.mov (R.t 5)) 51 true,
    R.g 53 (.mov (R.t 6)) 51 true,
    R.g 54 (.bin .add .no (.val (.str fun _ => [47])) (R.t 53)) 51 true,
    R.g 55 (.call 13 [(R.t 52), (R.t 54)]) 51 true,
    R.g 56 (.un .not (R.t 55)) 51 true,
    R.q 57 (.pick (R.t 51) (R.t 56) R.ff),
    R.q 58 (.mov (R.t 57)),
    R.g 59 (.mov (R.t 5)) 58 true,
    R.g 60 (.call 13 [(R.t 59), (.val (.str fun _ => []))]) 58 true,
    R.g 61 (.un .not (R.t 60)) 58 true,
    R.q 62 (.pick (R.t 58) (R.t 61) R.ff),
    R.q 63 (.mov (R.t 62)),
    R.g 64 (.mov (R.t 5)) 63 true,
    R.g 65 (.bin .add .no (.val (.str fun _ => [46, 46, 47])) (R.t 64)) 63 true,
    R.g 66 (.call 13 [(R.t 65), (.val (.str fun _ => [97]))]) 63 true,
    R.g 67 (.un .not (R.t 66)) 63 true,
    R.q 68 (.pick (R.t 63) (R.t 67) R.ff),
    R.q 69 (.mov (R.t 68)),
    R.g 70 (.mov (R.t 5)) 69 true,
    R.g 71 (.mov (R.t 6)) 69 true,
    R.g 72 (.bin .add .no (R.t 71) (.val (.str fun _ => [0]))) 69 true,
    R.g 73 (.call 13 [(R.t 70), (R.t 72)]) 69 true,
    R.g 74 (.un .not (R.t 73)) 69 true,
    R.q 75 (.pick (R.t 69) (R.t 74) R.ff),
    R.q 76 (.mov (R.t 75)),
    R.g 77 (.call 14 []) 76 true,
    R.q 78 (.pick (R.t 76) (R.t 77) R.ff),
    R.q 4 (.mov (R.t 78))])
  .ret)))))))
def l22_SafeDeep.rs : List RRes := [.tmp 4]
theorem l22_SafeDeep.of {xs : List AV} {d : Nat} {B : BL} {K : ARes → BL → Prop} (hn : xs.length = 2) (hB : onlyOuter B = true) (h : awp ⟨PT, 79, exitX l22_SafeDeep.rs K⟩ 10000 [.code l22_SafeDeep.rc] ⟨params 0 xs, B, .nil⟩) : CallAt PT l22_SafeDeep xs d B K :=
  call_of_awp 10000 Tryd.func3 rfl (by kernel_rfl) (by kernel_rfl) (by kernel_rfl) (by rw [hn]; decide) hB h

/-! gripsack/gripsacklaw22.SafeKnown -/
abbrev l22_SafeKnown : Nat := 4
def l22_SafeKnown.rc : RC :=
  (.seq (.reg [R.q 2 (.mov R.ff)])
  (.seq (.reg [R.q 6 (.build (.cons (.str fun _ => []) (.cons (.str fun _ => []) .nil)) [(0, 1, (.val (.str fun _ => [97]))), (1, 1, (.val (.str fun _ => [98])))]),
    R.q 7 (.build (.cons (.str fun _ => []) (.cons (.str fun _ => []) .nil)) [(0, 1, (.val (.str fun _ => [97, 47, 98]))), (1, 1, (.val (.str fun _ => [46, 46])))]),
    R.q 8 (.build (.cons (.str fun _ => []) (.cons (.str fun _ => []) .nil)) [(0, 1, (.val (.str fun _ => [97, 47, 98, 47, 99]))), (1, 1, (.val (.str fun _ => [46, 46, 47, 46, 46, 47, 120])))]),
    R.q 9 (.build (.cons (.str fun _ => []) (.cons (.str fun _ => []) .nil)) [(0, 1, (.val (.str fun _ => [97]))), (1, 1, (.val (.str fun _ => [46])))]),
    R.q 10 (.build (.cons (.str fun _ => []) (.cons (.str fun _ => []) .nil)) [(0, 1, (.val (.str fun _ => [97, 47, 98]))), (1, 1, (.val (.str fun _ => [46, 46, 47, 97, 47, 46, 46, 47, 99])))]),
    R.q 11 (.build (.cons (.str fun _ => []) (.cons (.str fun _ => []) .nil)) [(0, 1, (.val (.str fun _ => [97]))), (1, 1, (.val (.str fun _ => [98, 47, 46, 46, 47, 99])))]),
    R.q 12 (.build (.cons (.str fun _ => []) (.cons (.str fun _ => []) .nil)) [(0, 1, (.val (.str fun _ => [97]))), (1, 1, (.val (.str fun _ => [46, 46, 46, 46])))]),
    R.q 13 (.build (.cons (.str fun _ => []) (.cons (.str fun _ => []) .nil)) [(0, 1, (.val (.str fun _ => [97, 47, 98]))), (1, 1, (.val (.str fun _ => [120, 47, 47, 121])))]),
    R.q 14 (.build (.cons (.str fun _ => []) (.cons (.str fun _ => []) .nil)) [(0, 1, (.val (.str fun _ => [97]))), (1, 1, (.val (.str fun _ => [98, 47, 46, 46])))]),
    R.q 15 (.bslice 2 (.cons (.str fun _ => []) (.cons (.str fun _ => []) .nil)) 9 [(0, 2, (R.t 6)), (2, 2, (R.t 7)), (4, 2, (R.t 8)), (6, 2, (R.t 9)), (8, 2, (R.t 10)), (10, 2, (R.t 11)), (12, 2, (R.t 12)), (14, 2, (R.t 13)), (16, 2, (R.t 14))]),
    R.q 3 (.mov (R.t 15))])
  (.seq (.reg [R.q 16 (.build (.cons (.str fun _ => []) (.cons (.str fun _ => []) .nil)) [(0, 1, (.val (.str fun _ => [97]))), (1, 1, (.val (.str fun _ => [46, 46])))]),
    R.q 17 (.build (.cons (.str fun _ => []) (.cons (.str fun _ => []) .nil)) [(0, 1, (.val (.str fun _ => [97, 47, 98]))), (1, 1, (.val (.str fun _ => [46, 46, 47, 46, 46])))]),
    R.q 18 (.build (.cons (.str fun _ => []) (.cons (.str fun _ => []) .nil)) [(0, 1, (.val (.str fun _ => [97, 47, 98]))), (1, 1, (.val (.str fun _ => [46, 46, 47, 46, 46, 47, 97, 47, 98])))]),
    R.q 19 (.build (.cons (.str fun _ => []) (.cons (.str fun _ => []) .nil)) [(0, 1, (.val (.str fun _ => [97]))), (1, 1, (.val (.str fun _ => [47])))]),
    R.q 20 (.build (.cons (.str fun _ => []) (.cons (.str fun _ => []) .nil)) [(0, 1, (.val (.str fun _ => [97]))), (1, 1, (.val (.str fun _ => [98, 47, 46, 46, 47, 46, 46, 47, 99])))]),
    R.q 21 (.build (.cons (.str fun _ => []) (.cons (.str fun _ => []) .nil)) [(0, 1, (.val (.str fun _ => [97]))), (1, 1, (.val (.str fun _ => [])))]),
    R.q 22 (.build (.cons (.str fun _ => []) (.cons (.str fun _ => []) .nil)) [(0, 1, (.val (.str fun _ => [47, 97]))), (1, 1, (.val (.str fun _ => [98])))]),
    R.q 23 (.build (.cons (.str fun _ => []) (.cons (.str fun _ => []) .nil)) [(0, 1, (.val (.str fun _ => [97, 47]))), (1, 1, (.val (.str fun _ => [98])))]),
    R.q 24 (.build (.cons (.str fun _ => []) (.cons (.str fun _ => []) .nil)) [(0, 1, (.val (.str fun _ => [97, 47, 98]))), (1, 1, (.val (.str fun _ => [46, 47, 46, 46, 47, 46, 46, 47, 99])))]),
    R.q 25 (.bslice 2 (.cons (.str fun _ => []) (.cons (.str fun _ => []) .nil)) 9 [(0, 2, (R.t 16)), (2, 2, (R.t 17)), (4, 2, (R.t 18)), (6, 2, (R.t 19)), (8, 2, (R.t 20)), (10, 2, (R.t 21)), (12, 2, (R.t 22)), (14, 2, (R.t 23)), (16, 2, (R.t 24))]),
    R.q 4 (.mov (R.t 25))])
  (.seq (.reg [R.q 26 (.mov (R.t 0)),
    R.q 27 (.conv .i64 (R.t 26)),
    R.q 28 (.mov (R.t 3)),
    R.q 29 (.len (R.t 28)),
    R.q 30 (.bin .rem .no (R.t 27) (R.t 29)),
    R.q 5 (.mov (R.t 30))])
  (.seq (.mark (.regd [R.f (R.q 31 (.mov (R.t 3))),
    R.f (R.q 32 (.mov (R.t 5))),
    R.f (R.q 33 (.idx 2 (R.t 31) (R.t 32))),
    R.f (R.q 34 (.idxA 1 2 (R.t 33) (R.i 0))),
    R.f (R.q 35 (.load1 (R.t 34))),
    R.f (R.q 36 (.mov (R.t 3))),
    R.f (R.q 37 (.mov (R.t 5))),
    R.f (R.q 38 (.idx 2 (R.t 36) (R.t 37))),
    R.f (R.q 39 (.idxA 1 2 (R.t 38) (R.i 1))),
    R.f (R.q 40 (.load1 (R.t 39))),
    R.s (R.q 41 (.call 13 [(R.t 35), (R.t 40)])) [],
    R.f (R.q 42 (.mov (R.t 41))),
    R.f (R.g 43 (.mov (R.t 4)) 42 true),
    R.f (R.g 44 (.mov (R.t 5)) 42 true),
    R.f (R.g 45 (.idx 2 (R.t 43) (R.t 44)) 42 true),
    R.f (R.g 46 (.idxA 1 2 (R.t 45) (R.i 0)) 42 true),
    R.f (R.g 47 (.load1 (R.t 46)) 42 true),
    R.f (R.g 48 (.mov (R.t 4)) 42 true),
    R.f (R.g 49 (.mov (R.t 5)) 42 true),
    R.f (R.g 50 (.idx 2 (R.t 48) (R.t 49)) 42 true),
    R.f (R.g 51 (.idxA 1 2 (R.t 50) (R.i 1)) 42 true),
    R.f (R.g 52 (.load1 (R.t 51)) 42 true),
    R.s (R.g 53 (.call 13 [(R.t 47), (R.t 52)]) 42 true) [],
    R.f (R.g 54 (.un .not (R.t 53)) 42 true),
    R.f (R.q 55 (.pick (R.t 42) (R.t 54) R.ff)),
    R.f (R.q 56 (.mov (R.t 55))),
    R.s (R.g 57 (.call 14 []) 56 true) [],
    R.f (R.q 58 (.pick (R.t 56) (R.t 57) R.ff)),
    R.s (R.q 2 (.mov (R.t 58))) []]))
  .ret)))))
def l22_SafeKnown.rs : List RRes := [.tmp 2]
theorem l22_SafeKnown.of {xs : List AV} {d : Nat} {B : BL} {K : ARes → BL → Prop} (hn : xs.length = 1) (hB : onlyOuter B = true) (h : awp ⟨PT, 59, exitX l22_SafeKnown.rs K⟩ 10000 [.code l22_SafeKnown.rc] ⟨params 0 xs, B, .nil⟩) : CallAt PT l22_SafeKnown xs d B K :=
  call_of_awp 10000 Tryd.func4 rfl (by kernel_rfl) (by kernel_rfl) (by kernel_rfl) (by rw [hn]; decide) hB h

/-! gripsack/gripsacklaw22.SafeAll -/
abbrev l22_SafeAll : Nat := 5
def l22_SafeAll.rc : RC :=
  (.seq (.reg [R.q 5 (.box (R.t 2)),
    R.q 6 (.mov R.ff)])
  (.seq (.seq (.reg [R.q 7 (.mov (R.t 0)),
    R.q 8 (.lenS (R.t 7)),
    R.q 9 (.bin .gtr .no (R.t 8) (R.i 5000)),
    R.q 10 (.mov (R.t 9)),
    R.g 11 (.mov (R.t 1)) 10 false,
    R.g 12 (.lenS (R.t 11)) 10 false,
    R.g 13 (.bin .gtr .no (R.t 12) (R.i 5000)) 10 false,
    R.q 14 (.pick (R.t 10) R.tt (R.t 13)),
    R.q 15 (.mov (R.t 14)),
    R.g 16 (.loadA 20 (R.t 5)) 15 false,
    R.g 17 (.call 15 [(R.t 16)]) 15 false,
    R.q 18 (.pick (R.t 15) R.tt (R.t 17))])
  (.cond (R.t 18)
    (.seq (.reg [R.q 19 (.call 14 []),
      R.q 6 (.mov (R.t 19))])
    .ret)
    .skip))
  (.seq (.regd [R.f (R.q 20 (.mov (R.t 0))),
    R.f (R.q 22 (.mov (R.t 0))),
    R.s (R.q 21 (.call 16 [(R.t 20)])) [1],
    R.s (R.q 23 (.call 17 [(R.t 22)])) [],
    R.f (R.q 24 (.bin .eql .bool (R.t 21) (R.t 23))),
    R.f (R.q 25 (.mov (R.t 24))),
    R.f (R.g 26 (.mov (R.t 0)) 25 true),
    R.f (R.g 27 (.mov (R.t 1)) 25 true),
    R.f (R.g 29 (.mov (R.t 0)) 25 true),
    R.f (R.g 30 (.mov (R.t 1)) 25 true),
    R.s (R.g 28 (.call 13 [(R.t 26), (R.t 27)]) 25 true) [8, 9],
    R.s (R.g 31 (.call 18 [(R.t 29), (R.t 30)]) 25 true) [],
    R.f (R.g 32 (.bin .eql .bool (R.t 28) (R.t 31)) 25 true),
    R.f (R.q 33 (.pick (R.t 25) (R.t 32) R.ff)),
    R.f (R.q 34 (.mov (R.t 33))),
    R.f (R.g 35 (.loadA 20 (R.t 5)) 34 true),
    R.f (R.g 37 (.loadA 20 (R.t 5)) 34 true),
    R.s (R.g 36 (.call 19 [(R.t 35)]) 34 true) [16],
    R.s (R.g 38 (.call 20 [(R.t 37)]) 34 true) [],
    R.f (R.g 39 (.bin .eql .bool (R.t 36) (R.t 38)) 34 true),
    R.f (R.q 40 (.pick (R.t 34) (R.t 39) R.ff)),
    R.f (R.q 41 (.mov (R.t 40))),
    R.s (R.g 42 (.call 14 []) 41 true) [],
    R.f (R.q 43 (.pick (R.t 41) (R.t 42) R.ff)),
    R.s (R.q 6 (.mov (R.t 43))) []])
  .ret)))
def l22_SafeAll.rs : List RRes := [.tmp 6]
theorem l22_SafeAll.of {xs : List AV} {d : Nat} {B : BL} {K : ARes → BL → Prop} (hn : xs.length = 3) (hB : onlyOuter B = true) (h : awp ⟨PT, 44, exitX l22_SafeAll.rs K⟩ 10000 [.code l22_SafeAll.rc] ⟨params 0 xs, B, .nil⟩) : CallAt PT l22_SafeAll xs d B K :=
  call_of_awp 10000 Tryd.func5 rfl (by kernel_rfl) (by kernel_rfl) (by kernel_rfl) (by rw [hn]; decide) hB h

/-! gripsack/gripsacklaw22.SafeMade -/
abbrev l22_SafeMade : Nat := 6
def l22_SafeMade.rc : RC :=
  (.seq (.reg [R.q 4 (.mov R.ff)])
  (.seq (.reg [R.q 7 (.mov (R.t 0)),
    R.q 8 (.call 11 [(R.t 7)]),
    R.q 9 (.mov (R.t 1)),
    R.q 10 (.call 12 [(R.t 9)]),
    R.q 5 (.mov (R.t 8)),
    R.q 6 (.mov (R.t 10))])
  (.seq (.reg [R.q 11 (.mov (R.t 5)),
    R.q 12 (.mov (R.t 6)),
    R.q 13 (.call 13 [(R.t 11), (R.t 12)]),
    R.q 14 (.mov (R.t 5)),
    R.q 15 (.mov (R.t 6)),
    R.q 16 (.call 18 [(R.t 14), (R.t 15)]),
    R.q 17 (.bin .eql .bool (R.t 13) (R.t 16)),
    R.q 18 (.mov (R.t 17)),
    R.g 19 (.mov (R.t 5)) 18 true,
    R.g 20 (.mov (R.t 6)) 18 true,
    R.g 21 (.build (.cons (.str fun _ => []) (.cons (R.z 0) (.cons (R.z 0) (.cons (R.z 0) (.cons (R.z 0) (.cons (R.z 0) (.cons (R.z 0) (.cons .nsl (.cons .nsl (.cons .nsl (.cons (R.z 0) (.cons (.int .u64 fun _ => 0) (.cons (.int .u64 fun _ => 0) (.cons .ff (.cons (R.z 0) (.cons (R.z 0) (.cons (.str fun _ => []) (.cons (.str fun _ => []) (.cons (R.z 0) (.cons (R.z 0) .nil)))))))))))))))))))) [(0, 1, (R.t 19)), (1, 1, (R.i 3)), (17, 1, (R.t 20))]) 18 true,
    R.g 22 (.call 19 [(R.t 21)]) 18 true,
    R.g 23 (.mov (R.t 5)) 18 true,
    R.g 24 (.mov (R.t 6)) 18 true,
    R.g 25 (.call 18 [(R.t 23), (R.t 24)]) 18 true,
    R.g 26 (.bin .eql .bool (R.t 22) (R.t 25)) 18 true,
    R.q 27 (.pick (R.t 18) (R.t 26) R.ff),
    R.q 28 (.mov (R.t 27)),
    R.g 29 (.call 14 []) 28 true,
    R.q 30 (.pick (R.t 28) (R.t 29) R.ff),
    R.q 4 (.mov (R.t 30))])
  .ret)))
def l22_SafeMade.rs : List RRes := [.tmp 4]
theorem l22_SafeMade.of {xs : List AV} {d : Nat} {B : BL} {K : ARes → BL → Prop} (hn : xs.length = 2) (hB : onlyOuter B = true) (h : awp ⟨PT, 31, exitX l22_SafeMade.rs K⟩ 10000 [.code l22_SafeMade.rc] ⟨params 0 xs, B, .nil⟩) : CallAt PT l22_SafeMade xs d B K :=
  call_of_awp 10000 Tryd.func6 rfl (by kernel_rfl) (by kernel_rfl) (by kernel_rfl) (by rw [hn]; decide) hB h

/-! gripsack/gripsacklaw22.SafeEntries -/
abbrev l22_SafeEntries : Nat := 7
def l22_SafeEntries.rc : RC :=
  (.seq (.reg [R.q 4 (.mov R.ff)])
  (.seq (.reg [R.q 7 (.mov (R.t 0)),
    R.q 8 (.call 11 [(R.t 7)]),
    R.q 5 (.mov (R.t 8))])
  (.seq (.reg [R.q 9 (.bslice 1 (.cons (R.z 0) .nil) 4 [(0, 1, (R.i 1)), (1, 1, (R.i 6)), (2, 1, (R.i 7)), (3, 1, (R.i 4))]),
    R.q 10 (.mov (R.t 1)),
    R.q 11 (.bin .rem .no (R.t 10) (R.u 4)),
    R.q 12 (.idx 1 (R.t 9) (R.t 11)),
    R.q 13 (.load1 (R.t 12)),
    R.q 6 (.mov (R.t 13))])
  (.seq (.reg [R.q 14 (.mov (R.t 5)),
    R.q 15 (.mov (R.t 6)),
    R.q 16 (.build (.cons (.str fun _ => []) (.cons (R.z 0) (.cons (R.z 0) (.cons (R.z 0) (.cons (R.z 0) (.cons (R.z 0) (.cons (R.z 0) (.cons .nsl (.cons .nsl (.cons .nsl (.cons (R.z 0) (.cons (.int .u64 fun _ => 0) (.cons (.int .u64 fun _ => 0) (.cons .ff (.cons (R.z 0) (.cons (R.z 0) (.cons (.str fun _ => []) (.cons (.str fun _ => []) (.cons (R.z 0) (.cons (R.z 0) .nil)))))))))))))))))))) [(0, 1, (R.t 14)), (1, 1, (R.t 15))]),
    R.q 17 (.call 19 [(R.t 16)]),
    R.q 18 (.mov (R.t 17)),
    R.g 19 (.mov (R.t 5)) 18 true,
    R.g 20 (.bin .add .no (.val (.str fun _ => [47])) (R.t 19)) 18 true,
    R.g 21 (.mov (R.t 6)) 18 true,
    R.g 22 (.build (.cons (.str fun _ => []) (.cons (R.z 0) (.cons (R.z 0) (.cons (R.z 0) (.cons (R.z 0) (.cons (R.z 0) (.cons (R.z 0) (.cons .nsl (.cons .nsl (.cons .nsl (.cons (R.z 0) (.cons (.int .u64 fun _ => 0) (.cons (.int .u64 fun _ => 0) (.cons .ff (.cons (R.z 0) (.cons (R.z 0) (.cons (.str fun _ => []) (.cons (.str fun _ => []) (.cons (R.z 0) (.cons (R.z 0) .nil)))))))))))))))))))) [(0, 1, (R.t 20)), (1, 1, (R.t 21))]) 18 true,
    R.g 23 (.call 19 [(R.t 22)]) 18 true,
    R.g 24 (.un .not (R.t 23)) 18 true,
    R.q 25 (.pick (R.t 18) (R.t 24) R.ff),
    R.q 26 (.mov (R.t 25)),
    R.g 27 (.mov (R.t 5)) 26 true,
    R.g 28 (.bin .add .no (R.t 27) (.val (.str fun _ => [47, 46, 46]))) 26 true,
    R.g 29 (.mov (R.t 6)) 26 true,
    R.g 30 (.build (.cons (.str fun _ => []) (.cons (R.z 0) (.cons (R.z 0) (.cons (R.z 0) (.cons (R.z 0) (.cons (R.z 0) (.cons (R.z 0) (.cons .nsl (.cons .nsl (.cons .nsl (.cons (R.z 0) (.cons (.int .u64 fun _ => 0) (.cons (.int .u64 fun _ => 0) (.cons .ff (.cons (R.z 0) (.cons (R.z 0) (.cons (.str fun _ => []) (.cons (.str fun _ => []) (.cons (R.z 0) (.cons (R.z 0) .nil)))))))))))))))))))) [(0, 1, (R.t 28)), (1, 1, (R.t 29))]) 26 true,
    R.g 31 (.call 19 [(R.t 30)]) 26 true,
    R.g 32 (.un .not (R.t 31)) 26 true,
    R.q 33 (.pick (R.t 26) (R.t 32) R.ff),
    R.q 34 (.mov (R.t 33)),
    R.g 35 (.mov (R.t 5)) 34 true,
    R.g 36 (.mov (R.t 5)) 34 true,
    R.g 37 (.build (.cons (.str fun _ => []) (.cons (R.z 0) (.cons (R.z 0) (.cons (R.z 0) (.cons (R.z 0) (.cons (R.z 0) (.cons (R.z 0) (.cons .nsl (.cons .nsl (.cons .nsl (.cons (R.z 0) (.cons (.int .u64 fun _ => 0) (.cons (.int .u64 fun _ => 0) (.cons .ff (.cons (R.z 0) (.cons (R.z 0) (.cons (.str fun _ => []) (.cons (.str fun _ => []) (.cons (R.z 0) (.cons (R.z 0) .nil)))))))))))))))))))) [(0, 1, (R.t 35)), (1, 1, (R.i 2)), (17, 1, (R.t 36))]) 34 true,
    R.g 38 (.call 19 [(R.t 37)]) 34 true,
    R.g 39 (.un .not (R.t 38)) 34 true,
    R.q 40 (.pick (R.t 34) (R.t 39) R.ff),
    R.q 41 (.mov (R.t 40)),
    R.g 42 (.mov (R.t 5)) 41 true,
    R.g 43 (.bin .add .no (R.t 42) (.val (.str fun _ => [47, 120]))) 41 true,
    R.g 44 (.mov (R.t 5)) 41 true,
    R.g 45 (.build (.cons (.str fun _ => []) (.cons (R.z 0) (.cons (R.z 0) (.cons (R.z 0) (.cons (R.z 0) (.cons (R.z 0) (.cons (R.z 0) (.cons .nsl (.cons .nsl (.cons .nsl (.cons (R.z 0) (.cons (.int .u64 fun _ => 0) (.cons (.int .u64 fun _ => 0) (.cons .ff (.cons (R.z 0) (.cons (R.z 0) (.cons (.str fun _ => []) (.cons (.str fun _ => []) (.cons (R.z 0) (.cons (R.z 0) .nil)))))))))))))))))))) [(0, 1, (R.t 43)), (1, 1, (R.i 2)), (17, 1, (R.t 44))]) 41 true,
    R.g 46 (.call 19 [(R.t 45)]) 41 true,
    R.q 47 (.pick (R.t 41) (R.t 46) R.ff),
    R.q 48 (.mov (R.t 47)),
    R.g 49 (.mov (R.t 5)) 48 true,
    R.g 50 (.mov (R.t 5)) 48 true,
    R.g 51 (.bin .add .no (.val (.str fun _ => [46, 46, 47])) (R.t 50)) 48 true,
    R.g 52 (.build (.cons (.str fun _ => []) (.cons (R.z 0) (.cons (R.z 0) (.cons (R.z 0) (.cons (R.z 0) (.cons (R.z 0) (.cons (R.z 0) (.cons .nsl (.cons .nsl (.cons .nsl (.cons (R.z 0) (.cons (.int .u64 fun _ => 0) (.cons (.int .u64 fun _ => 0) (.cons .ff (.cons (R.z 0) (.cons (R.z 0) (.cons (.str fun _ => []) (.cons (.str fun _ => []) (.cons (R.z 0) (.cons (R.z 0) .nil)))))))))))))))))))) [(0, 1, (R.t 49)), (1, 1, (R.i 2)), (17, 1, (R.t 51))]) 48 true,
    R.g 53 (.call 19 [(R.t 52)]) 48 true,
    R.g 54 (.un .not (R.t 53)) 48 true,
    R.q 55 (.pick (R.t 48) (R.t 54) R.ff),
    R.q 56 (.mov (R.t 55)),
    R.g 57 (.call 14 []) 56 true,
    R.q 58 (.pick (R.t 56) (R.t 57) R.ff),
    R.q 4 (.mov (R.t 58))])
  .ret))))
def l22_SafeEntries.rs : List RRes := [.tmp 4]
theorem l22_SafeEntries.of {xs : List AV} {d : Nat} {B : BL} {K : ARes → BL → Prop} (hn : xs.length = 2) (hB : onlyOuter B = true) (h : awp ⟨PT, 59, exitX l22_SafeEntries.rs K⟩ 10000 [.code l22_SafeEntries.rc] ⟨params 0 xs, B, .nil⟩) : CallAt PT l22_SafeEntries xs d B K :=
  call_of_awp 10000 Tryd.func7 rfl (by kernel_rfl) (by kernel_rfl) (by kernel_rfl) (by rw [hn]; decide) hB h

/-! gripsack/gripsacklaw15.Path -/
abbrev l15_Path : Nat := 11
def l15_Path.rc : RC :=
  (.seq (.reg [R.q 2 (.mov (.val (.str fun _ => [])))])
  (.seq (.reg [R.q 3 (.mov (.val (.str fun _ => [112])))])
  (.seq (.seq (.reg [R.q 4 (.mov (R.i 0))])
  (.block 0 (.loop
     (.seq (.seq (.reg [R.q 5 (.mov (R.t 4)),
       R.q 6 (.mov (R.t 0)),
       R.q 7 (.len (R.t 6)),
       R.q 8 (.bin .lss .no (R.t 5) (R.t 7)),
       R.q 9 (.mov (R.t 8)),
       R.g 10 (.mov (R.t 4)) 9 true,
       R.g 11 (.bin .lss .no (R.t 10) (R.i 8)) 9 true,
       R.q 12 (.pick (R.t 9) (R.t 11) R.ff)])
     (.cond (R.t 12)
       .skip
       (.exit 0)))
     (.seq (.block 1 (.reg [R.q 15 (.mov (R.t 3)),
        R.q 16 (.bin .add .no (R.t 15) (.val (.str fun _ => [47]))),
        R.q 17 (.mov (R.t 0)),
        R.q 18 (.mov (R.t 4)),
        R.q 19 (.idx 1 (R.t 17) (R.t 18)),
        R.q 20 (.load1 (R.t 19)),
        R.q 21 (.call 28 [(R.t 20)]),
        R.q 22 (.bin .add .no (R.t 16) (R.t 21)),
        R.q 3 (.mov (R.t 22))]))
     (.reg [R.q 13 (.mov (R.t 4)),
       R.q 14 (.bin .add .no (R.t 13) (R.i 1)),
       R.q 4 (.mov (R.t 14))]))))))
  (.seq (.reg [R.q 23 (.mov (R.t 3)),
    R.q 2 (.mov (R.t 23))])
  .ret))))
def l15_Path.rs : List RRes := [.tmp 2]
theorem l15_Path.of {xs : List AV} {d : Nat} {B : BL} {K : ARes → BL → Prop} (hn : xs.length = 1) (hB : onlyOuter B = true) (h : awp ⟨PT, 24, exitX l15_Path.rs K⟩ 10000 [.code l15_Path.rc] ⟨params 0 xs, B, .nil⟩) : CallAt PT l15_Path xs d B K :=
  call_of_awp 10000 Tryd.func11 rfl (by kernel_rfl) (by kernel_rfl) (by kernel_rfl) (by rw [hn]; decide) hB h

/-! gripsack/gripsacklaw22.Target -/
abbrev l22_Target : Nat := 12
def l22_Target.rc : RC :=
  (.seq (.reg [R.q 2 (.mov (.val (.str fun _ => [])))])
  (.seq (.reg [R.q 3 (.mov (.val (.str fun _ => [])))])
  (.seq (.seq (.reg [R.q 4 (.mov (R.i 0))])
  (.block 0 (.loop
     (.seq (.seq (.reg [R.q 5 (.mov (R.t 4)),
       R.q 6 (.mov (R.t 0)),
       R.q 7 (.len (R.t 6)),
       R.q 8 (.bin .lss .no (R.t 5) (R.t 7)),
       R.q 9 (.mov (R.t 8)),
       R.g 10 (.mov (R.t 4)) 9 true,
       R.g 11 (.bin .lss .no (R.t 10) (R.i 12)) 9 true,
       R.q 12 (.pick (R.t 9) (R.t 11) R.ff)])
     (.cond (R.t 12)
       .skip
       (.exit 0)))
     (.seq (.block 1 (.seq (.seq (.reg [R.q 15 (.mov (R.t 4)),
        R.q 16 (.bin .gtr .no (R.t 15) (R.i 0))])
      (.cond (R.t 16)
        (.reg [R.q 17 (.mov (R.t 3)),
          R.q 18 (.bin .add .no (R.t 17) (.val (.str fun _ => [47]))),
          R.q 3 (.mov (R.t 18))])
        .skip))
      (.reg [R.q 19 (.mov (R.t 3)),
        R.q 20 (.bslice 1 (.cons (.str fun _ => []) .nil) 8 [(0, 1, (.val (.str fun _ => [46, 46]))), (1, 1, (.val (.str fun _ => [97]))), (2, 1, (.val (.str fun _ => [46]))), (3, 1, (.val (.str fun _ => []))), (4, 1, (.val (.str fun _ => [98]))), (5, 1, (.val (.str fun _ => [46, 46]))), (6, 1, (.val (.str fun _ => [99]))), (7, 1, (.val (.str fun _ => [46, 46, 46])))]),
        R.q 21 (.mov (R.t 0)),
        R.q 22 (.mov (R.t 4)),
        R.q 23 (.idx 1 (R.t 21) (R.t 22)),
        R.q 24 (.load1 (R.t 23)),
        R.q 25 (.bin .rem .no (R.t 24) (R.u 8)),
        R.q 26 (.idx 1 (R.t 20) (R.t 25)),
        R.q 27 (.load1 (R.t 26)),
        R.q 28 (.bin .add .no (R.t 19) (R.t 27)),
        R.q 3 (.mov (R.t 28))])))
     (.reg [R.q 13 (.mov (R.t 4)),
       R.q 14 (.bin .add .no (R.t 13) (R.i 1)),
       R.q 4 (.mov (R.t 14))]))))))
  (.seq (.reg [R.q 29 (.mov (R.t 3)),
    R.q 2 (.mov (R.t 29))])
  .ret))))
def l22_Target.rs : List RRes := [.tmp 2]
theorem l22_Target.of {xs : List AV} {d : Nat} {B : BL} {K : ARes → BL → Prop} (hn : xs.length = 1) (hB : onlyOuter B = true) (h : awp ⟨PT, 30, exitX l22_Target.rs K⟩ 10000 [.code l22_Target.rc] ⟨params 0 xs, B, .nil⟩) : CallAt PT l22_Target xs d B K :=
  call_of_awp 10000 Tryd.func12 rfl (by kernel_rfl) (by kernel_rfl) (by kernel_rfl) (by rw [hn]; decide) hB h

/-! gripsack/safe.Inside -/
abbrev safe_Inside : Nat := 13
def safe_Inside.rc : RC :=
  (.seq (.reg [R.q 4 (.alloc (.cons .ff .nil))])
  (.seq (.reg [R.q 5 (.mkfn (.func 29) [] [(R.t 4)]),
    R.e (.defer (R.t 5) [])])
  (.seq (.seq (.reg [R.q 6 (.mov (R.t 0)),
    R.q 7 (.call 16 [(R.t 6)]),
    R.q 8 (.un .not (R.t 7)),
    R.q 9 (.mov (R.t 8)),
    R.g 10 (.mov (R.t 1)) 9 false,
    R.g 11 (.bin .eql .no (R.t 10) (.val (.str fun _ => []))) 9 false,
    R.q 12 (.pick (R.t 9) R.tt (R.t 11)),
    R.q 13 (.mov (R.t 12)),
    R.g 14 (.mov (R.t 1)) 13 false,
    R.g 15 (.idxS (R.t 14) (R.i 0)) 13 false,
    R.g 16 (.bin .eql .no (R.t 15) (R.u 47)) 13 false,
    R.q 17 (.pick (R.t 13) R.tt (R.t 16)),
    R.q 18 (.mov (R.t 17)),
    R.g 19 (.mov (R.t 1)) 18 false,
    R.g 20 (.call 30 [(R.t 19), (.val (.str fun _ => [0]))]) 18 false,
    R.q 21 (.pick (R.t 18) R.tt (R.t 20))])
  (.cond (R.t 21)
    (.seq (.reg [R.e (.store 1 (R.t 4) R.ff)])
    .ret)
    .skip))
  (.seq (.reg [R.q 22 (.mov (R.t 1)),
    R.q 23 (.mov (R.t 0)),
    R.q 24 (.call 32 [(R.t 23), (.val (.str fun _ => [47]))]),
    R.q 25 (.call 31 [(R.t 22), (R.t 24)])])
  (.seq (.reg [R.e (.store 1 (R.t 4) R.tt)])
  .ret)))))
def safe_Inside.rs : List RRes := [.cell1 4]
theorem safe_Inside.of {xs : List AV} {d : Nat} {B : BL} {K : ARes → BL → Prop} (hn : xs.length = 2) (hB : onlyOuter B = true) (h : awp ⟨PT, 26, exitD PT safe_Inside.rs K⟩ 10000 [.code safe_Inside.rc] ⟨params 0 xs, B, .nil⟩) : CallAt PT safe_Inside xs d B K :=
  call_of_awp_d 10000 Tryd.func13 rfl (by kernel_rfl) (by kernel_rfl) (by kernel_rfl) (by rw [hn]; decide) hB h

/-! gripsack/gripsacklaw22.awake -/
abbrev l22_awake : Nat := 14
def l22_awake.rc : RC :=
  (.seq (.reg [R.q 0 (.mov R.ff)])
  (.seq (.reg [R.q 1 (.call 13 [(.val (.str fun _ => [97, 47, 98])), (.val (.str fun _ => [46, 46, 47, 99]))]),
    R.q 2 (.mov (R.t 1)),
    R.g 3 (.call 13 [(.val (.str fun _ => [97])), (.val (.str fun _ => [46, 46, 47, 99]))]) 2 true,
    R.g 4 (.un .not (R.t 3)) 2 true,
    R.q 5 (.pick (R.t 2) (R.t 4) R.ff),
    R.q 6 (.mov (R.t 5)),
    R.g 7 (.call 16 [(.val (.str fun _ => [97]))]) 6 true,
    R.q 8 (.pick (R.t 6) (R.t 7) R.ff),
    R.q 0 (.mov (R.t 8))])
  .ret))
def l22_awake.rs : List RRes := [.tmp 0]
theorem l22_awake.of {xs : List AV} {d : Nat} {B : BL} {K : ARes → BL → Prop} (hn : xs.length = 0) (hB : onlyOuter B = true) (h : awp ⟨PT, 9, exitX l22_awake.rs K⟩ 10000 [.code l22_awake.rc] ⟨params 0 xs, B, .nil⟩) : CallAt PT l22_awake xs d B K :=
  call_of_awp 10000 Tryd.func14 rfl (by kernel_rfl) (by kernel_rfl) (by kernel_rfl) (by rw [hn]; decide) hB h

/-! gripsack/gripsacklaw15.Heavy -/
abbrev l15_Heavy : Nat := 15
def l15_Heavy.rc : RC :=
  (.seq (.reg [R.q 1 (.box (R.t 0)),
    R.q 2 (.mov R.ff)])
  (.seq (.reg [R.q 3 (.fld 0 (R.t 1)),
    R.q 4 (.load1 (R.t 3)),
    R.q 5 (.lenS (R.t 4)),
    R.q 6 (.bin .gtr .no (R.t 5) (R.i 5000)),
    R.q 7 (.mov (R.t 6)),
    R.g 8 (.fld 16 (R.t 1)) 7 false,
    R.g 9 (.load1 (R.t 8)) 7 false,
    R.g 10 (.lenS (R.t 9)) 7 false,
    R.g 11 (.bin .gtr .no (R.t 10) (R.i 70000)) 7 false,
    R.q 12 (.pick (R.t 7) R.tt (R.t 11)),
    R.q 13 (.mov (R.t 12)),
    R.g 14 (.fld 17 (R.t 1)) 13 false,
    R.g 15 (.load1 (R.t 14)) 13 false,
    R.g 16 (.lenS (R.t 15)) 13 false,
    R.g 17 (.bin .gtr .no (R.t 16) (R.i 5000)) 13 false,
    R.q 18 (.pick (R.t 13) R.tt (R.t 17)),
    R.q 19 (.mov (R.t 18)),
    R.g 20 (.fld 2 (R.t 1)) 19 false,
    R.g 21 (.loadA 14 (R.t 20)) 19 false,
    R.g 22 (.call 33 [(R.t 21)]) 19 false,
    R.q 23 (.pick (R.t 19) R.tt (R.t 22)),
    R.q 2 (.mov (R.t 23))])
  .ret))
def l15_Heavy.rs : List RRes := [.tmp 2]
theorem l15_Heavy.of {xs : List AV} {d : Nat} {B : BL} {K : ARes → BL → Prop} (hn : xs.length = 1) (hB : onlyOuter B = true) (h : awp ⟨PT, 24, exitX l15_Heavy.rs K⟩ 10000 [.code l15_Heavy.rc] ⟨params 0 xs, B, .nil⟩) : CallAt PT l15_Heavy xs d B K :=
  call_of_awp 10000 Tryd.func15 rfl (by kernel_rfl) (by kernel_rfl) (by kernel_rfl) (by rw [hn]; decide) hB h

/-! gripsack/safe.Path -/
abbrev safe_Path : Nat := 16
def safe_Path.rc : RC :=
  (.seq (.reg [R.q 2 (.mov R.ff)])
  (.seq (.reg [R.q 3 (.mov (R.t 0)),
    R.q 4 (.call 34 [(R.t 3)]),
    R.q 2 (.mov (R.t 4))])
  .ret))
def safe_Path.rs : List RRes := [.tmp 2]
theorem safe_Path.of {xs : List AV} {d : Nat} {B : BL} {K : ARes → BL → Prop} (hn : xs.length = 1) (hB : onlyOuter B = true) (h : awp ⟨PT, 5, exitX safe_Path.rs K⟩ 10000 [.code safe_Path.rc] ⟨params 0 xs, B, .nil⟩) : CallAt PT safe_Path xs d B K :=
  call_of_awp 10000 Tryd.func16 rfl (by kernel_rfl) (by kernel_rfl) (by kernel_rfl) (by rw [hn]; decide) hB h

/-! gripsack/gripsackref15.Path -/
abbrev r15_Path : Nat := 17
def r15_Path.rc : RC :=
  (.seq (.reg [R.q 2 (.mov R.ff)])
  (.seq (.seq (.reg [R.q 5 (.mov (R.t 0)),
    R.q 6 (.lenS (R.t 5)),
    R.q 7 (.bin .eql .no (R.t 6) (R.i 0)),
    R.q 8 (.mov (R.t 7)),
    R.g 9 (.mov (R.t 0)) 8 false,
    R.g 10 (.lenS (R.t 9)) 8 false,
    R.g 11 (.bin .gtr .no (R.t 10) (R.i 4096)) 8 false,
    R.q 12 (.pick (R.t 8) R.tt (R.t 11))])
  (.cond (R.t 12)
    (.seq (.reg [R.q 2 (.mov R.ff)])
    .ret)
    .skip))
  (.seq (.reg [R.q 13 (.mov (R.t 0)),
    R.q 14 (.call 35 [(R.t 13)]),
    R.q 3 (.mov (R.t 14))])
  (.seq (.seq (.reg [R.q 4 (.mov (R.i 0))])
  (.block 0 (.loop
     (.seq (.seq (.reg [R.q 15 (.mov (R.t 4)),
       R.q 16 (.mov (R.t 3)),
       R.q 17 (.len (R.t 16)),
       R.q 18 (.bin .lss .no (R.t 15) (R.t 17))])
     (.cond (R.t 18)
       .skip
       (.exit 0)))
     (.seq (.block 1 (.seq (.reg [R.q 21 (.mov (R.t 3)),
        R.q 22 (.mov (R.t 4)),
        R.q 23 (.idx 1 (R.t 21) (R.t 22)),
        R.q 24 (.load1 (R.t 23)),
        R.q 25 (.call 36 [(R.t 24)]),
        R.q 26 (.un .not (R.t 25))])
      (.cond (R.t 26)
        (.seq (.reg [R.q 2 (.mov R.ff)])
        .ret)
        .skip)))
     (.reg [R.q 19 (.mov (R.t 4)),
       R.q 20 (.bin .add .no (R.t 19) (R.i 1)),
       R.q 4 (.mov (R.t 20))]))))))
  (.seq (.reg [R.q 27 (.mov (R.t 3)),
    R.q 28 (.len (R.t 27)),
    R.q 29 (.bin .leq .no (R.t 28) (R.i 64)),
    R.q 2 (.mov (R.t 29))])
  .ret)))))
def r15_Path.rs : List RRes := [.tmp 2]
theorem r15_Path.of {xs : List AV} {d : Nat} {B : BL} {K : ARes → BL → Prop} (hn : xs.length = 1) (hB : onlyOuter B = true) (h : awp ⟨PT, 30, exitX r15_Path.rs K⟩ 10000 [.code r15_Path.rc] ⟨params 0 xs, B, .nil⟩) : CallAt PT r15_Path xs d B K :=
  call_of_awp 10000 Tryd.func17 rfl (by kernel_rfl) (by kernel_rfl) (by kernel_rfl) (by rw [hn]; decide) hB h

/-! gripsack/gripsackref21.Inside -/
abbrev r21_Inside : Nat := 18
def r21_Inside.rc : RC :=
  (.seq (.reg [R.q 4 (.mov R.ff)])
  (.seq (.seq (.reg [R.q 9 (.mov (R.t 0)),
    R.q 10 (.call 17 [(R.t 9)]),
    R.q 11 (.un .not (R.t 10)),
    R.q 12 (.mov (R.t 11)),
    R.g 13 (.mov (R.t 1)) 12 false,
    R.g 14 (.bin .eql .no (R.t 13) (.val (.str fun _ => []))) 12 false,
    R.q 15 (.pick (R.t 12) R.tt (R.t 14)),
    R.q 16 (.mov (R.t 15)),
    R.g 17 (.mov (R.t 1)) 16 false,
    R.g 18 (.idxS (R.t 17) (R.i 0)) 16 false,
    R.g 19 (.bin .eql .no (R.t 18) (R.u 47)) 16 false,
    R.q 20 (.pick (R.t 16) R.tt (R.t 19))])
  (.cond (R.t 20)
    (.seq (.reg [R.q 4 (.mov R.ff)])
    .ret)
    .skip))
  (.seq (.seq (.reg [R.q 5 (.mov (R.i 0))])
  (.block 0 (.loop
     (.seq (.seq (.reg [R.q 21 (.mov (R.t 5)),
       R.q 22 (.mov (R.t 1)),
       R.q 23 (.lenS (R.t 22)),
       R.q 24 (.bin .lss .no (R.t 21) (R.t 23))])
     (.cond (R.t 24)
       .skip
       (.exit 0)))
     (.seq (.block 1 (.seq (.reg [R.q 27 (.mov (R.t 1)),
        R.q 28 (.mov (R.t 5)),
        R.q 29 (.idxS (R.t 27) (R.t 28)),
        R.q 30 (.bin .eql .no (R.t 29) (R.u 0))])
      (.cond (R.t 30)
        (.seq (.reg [R.q 4 (.mov R.ff)])
        .ret)
        .skip)))
     (.reg [R.q 25 (.mov (R.t 5)),
       R.q 26 (.bin .add .no (R.t 25) (R.i 1)),
       R.q 5 (.mov (R.t 26))]))))))
  (.seq (.reg [R.q 31 (.mov (R.t 0)),
    R.q 32 (.call 37 [(R.t 31)]),
    R.q 33 (.len (R.t 32)),
    R.q 34 (.bin .sub .no (R.t 33) (R.i 1)),
    R.q 6 (.mov (R.t 34))])
  (.seq (.reg [R.q 35 (.mov (R.t 1)),
    R.q 36 (.call 37 [(R.t 35)]),
    R.q 7 (.mov (R.t 36))])
  (.seq (.seq (.reg [R.q 8 (.mov (R.i 0))])
  (.block 2 (.loop
     (.seq (.seq (.reg [R.q 37 (.mov (R.t 8)),
       R.q 38 (.mov (R.t 7)),
       R.q 39 (.len (R.t 38)),
       R.q 40 (.bin .lss .no (R.t 37) (R.t 39))])
     (.cond (R.t 40)
       .skip
       (.exit 2)))
     (.seq (.block 3 (.seq (.seq (.reg [R.q 43 (.mov (R.t 7)),
        R.q 44 (.mov (R.t 8)),
        R.q 45 (.idx 1 (R.t 43) (R.t 44)),
        R.q 46 (.load1 (R.t 45))])
      (.block 4 (.seq (.reg [R.q 50 (.bin .eql .no (R.t 46) (.val (.str fun _ => [46, 46]))),
         R.q 49 (.mov (R.t 50))])
       (.cond (R.t 49)
         (.reg [R.q 51 (.mov (R.t 6)),
           R.q 52 (.bin .sub .no (R.t 51) (R.i 1)),
           R.q 6 (.mov (R.t 52))])
         (.seq (.seq (.reg [R.q 54 (.bin .eql .no (R.t 46) (.val (.str fun _ => [46]))),
           R.q 53 (.mov (R.t 54))])
         (.cond (R.t 53)
           .skip
           (.reg [R.q 55 (.bin .eql .no (R.t 46) (.val (.str fun _ => []))),
             R.q 53 (.mov (R.t 55))])))
         (.cond (R.t 53)
           .skip
           (.reg [R.q 47 (.mov (R.t 6)),
             R.q 48 (.bin .add .no (R.t 47) (R.i 1)),
             R.q 6 (.mov (R.t 48))])))))))
      (.seq (.reg [R.q 56 (.mov (R.t 6)),
        R.q 57 (.bin .lss .no (R.t 56) (R.i 0))])
      (.cond (R.t 57)
        (.seq (.reg [R.q 4 (.mov R.ff)])
        .ret)
        .skip))))
     (.reg [R.q 41 (.mov (R.t 8)),
       R.q 42 (.bin .add .no (R.t 41) (R.i 1)),
       R.q 8 (.mov (R.t 42))]))))))
  (.seq (.reg [R.q 4 (.mov R.tt)])
  .ret)))))))
def r21_Inside.rs : List RRes := [.tmp 4]
theorem r21_Inside.of {xs : List AV} {d : Nat} {B : BL} {K : ARes → BL → Prop} (hn : xs.length = 2) (hB : onlyOuter B = true) (h : awp ⟨PT, 58, exitX r21_Inside.rs K⟩ 10000 [.code r21_Inside.rc] ⟨params 0 xs, B, .nil⟩) : CallAt PT r21_Inside xs d B K :=
  call_of_awp 10000 Tryd.func18 rfl (by kernel_rfl) (by kernel_rfl) (by kernel_rfl) (by rw [hn]; decide) hB h

/-! gripsack/safe.Entry -/
abbrev safe_Entry : Nat := 19
def safe_Entry.rc : RC :=
  (.seq (.reg [R.q 1 (.box (R.t 0)),
    R.q 2 (.mov R.ff)])
  (.seq (.seq (.reg [R.q 3 (.fld 1 (R.t 1)),
    R.q 4 (.load1 (R.t 3))])
  (.block 0 (.seq (.reg [R.q 6 (.bin .eql .no (R.t 4) (R.i 2)),
     R.q 5 (.mov (R.t 6))])
   (.cond (R.t 5)
     (.seq (.reg [R.q 7 (.fld 0 (R.t 1)),
       R.q 8 (.load1 (R.t 7)),
       R.q 9 (.call 16 [(R.t 8)]),
       R.q 10 (.mov (R.t 9)),
       R.g 11 (.fld 17 (R.t 1)) 10 true,
       R.g 12 (.load1 (R.t 11)) 10 true,
       R.g 13 (.call 16 [(R.t 12)]) 10 true,
       R.q 14 (.pick (R.t 10) (R.t 13) R.ff),
       R.q 15 (.mov (R.t 14)),
       R.g 16 (.fld 17 (R.t 1)) 15 true,
       R.g 17 (.load1 (R.t 16)) 15 true,
       R.g 18 (.fld 0 (R.t 1)) 15 true,
       R.g 19 (.load1 (R.t 18)) 15 true,
       R.g 20 (.bin .neq .no (R.t 17) (R.t 19)) 15 true,
       R.q 21 (.pick (R.t 15) (R.t 20) R.ff),
       R.q 2 (.mov (R.t 21))])
     .ret)
     (.seq (.reg [R.q 23 (.bin .eql .no (R.t 4) (R.i 3)),
       R.q 22 (.mov (R.t 23))])
     (.cond (R.t 22)
       (.seq (.reg [R.q 24 (.fld 0 (R.t 1)),
         R.q 25 (.load1 (R.t 24)),
         R.q 26 (.fld 17 (R.t 1)),
         R.q 27 (.load1 (R.t 26)),
         R.q 28 (.call 13 [(R.t 25), (R.t 27)]),
         R.q 2 (.mov (R.t 28))])
       .ret)
       .skip))))))
  (.seq (.reg [R.q 29 (.fld 0 (R.t 1)),
    R.q 30 (.load1 (R.t 29)),
    R.q 31 (.call 16 [(R.t 30)]),
    R.q 2 (.mov (R.t 31))])
  .ret)))
def safe_Entry.rs : List RRes := [.tmp 2]
theorem safe_Entry.of {xs : List AV} {d : Nat} {B : BL} {K : ARes → BL → Prop} (hn : xs.length = 1) (hB : onlyOuter B = true) (h : awp ⟨PT, 32, exitX safe_Entry.rs K⟩ 10000 [.code safe_Entry.rc] ⟨params 0 xs, B, .nil⟩) : CallAt PT safe_Entry xs d B K :=
  call_of_awp 10000 Tryd.func19 rfl (by kernel_rfl) (by kernel_rfl) (by kernel_rfl) (by rw [hn]; decide) hB h

/-! gripsack/gripsackref21.Safe -/
abbrev r21_Safe : Nat := 20
def r21_Safe.rc : RC :=
  (.seq (.reg [R.q 1 (.box (R.t 0)),
    R.q 2 (.mov R.ff)])
  (.seq (.seq (.reg [R.q 3 (.fld 0 (R.t 1)),
    R.q 4 (.load1 (R.t 3)),
    R.q 5 (.call 17 [(R.t 4)]),
    R.q 6 (.un .not (R.t 5))])
  (.cond (R.t 6)
    (.seq (.reg [R.q 2 (.mov R.ff)])
    .ret)
    .skip))
  (.seq (.seq (.reg [R.q 7 (.fld 1 (R.t 1)),
    R.q 8 (.load1 (R.t 7))])
  (.block 0 (.seq (.reg [R.q 10 (.bin .eql .no (R.t 8) (R.i 2)),
     R.q 9 (.mov (R.t 10))])
   (.cond (R.t 9)
     (.seq (.reg [R.q 11 (.fld 17 (R.t 1)),
       R.q 12 (.load1 (R.t 11)),
       R.q 13 (.call 17 [(R.t 12)]),
       R.q 14 (.mov (R.t 13)),
       R.g 15 (.fld 17 (R.t 1)) 14 true,
       R.g 16 (.load1 (R.t 15)) 14 true,
       R.g 17 (.fld 0 (R.t 1)) 14 true,
       R.g 18 (.load1 (R.t 17)) 14 true,
       R.g 19 (.bin .neq .no (R.t 16) (R.t 18)) 14 true,
       R.q 20 (.pick (R.t 14) (R.t 19) R.ff),
       R.q 2 (.mov (R.t 20))])
     .ret)
     (.seq (.reg [R.q 22 (.bin .eql .no (R.t 8) (R.i 3)),
       R.q 21 (.mov (R.t 22))])
     (.cond (R.t 21)
       (.seq (.reg [R.q 23 (.fld 0 (R.t 1)),
         R.q 24 (.load1 (R.t 23)),
         R.q 25 (.fld 17 (R.t 1)),
         R.q 26 (.load1 (R.t 25)),
         R.q 27 (.call 18 [(R.t 24), (R.t 26)]),
         R.q 2 (.mov (R.t 27))])
       .ret)
       .skip))))))
  (.seq (.reg [R.q 2 (.mov R.tt)])
  .ret))))
def r21_Safe.rs : List RRes := [.tmp 2]
theorem r21_Safe.of {xs : List AV} {d : Nat} {B : BL} {K : ARes → BL → Prop} (hn : xs.length = 1) (hB : onlyOuter B = true) (h : awp ⟨PT, 28, exitX r21_Safe.rs K⟩ 10000 [.code r21_Safe.rc] ⟨params 0 xs, B, .nil⟩) : CallAt PT r21_Safe xs d B K :=
  call_of_awp 10000 Tryd.func20 rfl (by kernel_rfl) (by kernel_rfl) (by kernel_rfl) (by rw [hn]; decide) hB h

/-! gripsack/gripsacklaw15.name -/
abbrev l15_name : Nat := 28
def l15_name.rc : RC :=
  (.seq (.reg [R.q 2 (.mov (.val (.str fun _ => [])))])
  (.seq (.reg [R.q 6 (.bslice 1 (.cons (.str fun _ => []) .nil) 8 [(0, 1, (.val (.str fun _ => [97]))), (1, 1, (.val (.str fun _ => [98]))), (2, 1, (.val (.str fun _ => [100, 105, 114]))), (3, 1, (.val (.str fun _ => [120, 32, 121]))), (4, 1, (.val (.str fun _ => [255]))), (5, 1, (.val (.str fun _ => [108, 111, 110, 103]))), (6, 1, (.val (.str fun _ => [195, 164]))), (7, 1, (.val (.str fun _ => [99])))]),
    R.q 3 (.mov (R.t 6))])
  (.seq (.reg [R.q 7 (.mov (R.t 3)),
    R.q 8 (.mov (R.t 0)),
    R.q 9 (.bin .rem .no (R.t 8) (R.u 8)),
    R.q 10 (.idx 1 (R.t 7) (R.t 9)),
    R.q 11 (.load1 (R.t 10)),
    R.q 4 (.mov (R.t 11))])
  (.seq (.seq (.reg [R.q 12 (.mov (R.t 0)),
    R.q 13 (.bin .geq .no (R.t 12) (R.u 200))])
  (.cond (R.t 13)
    (.seq (.reg [R.q 5 (.mov (R.i 0))])
    (.block 0 (.loop
       (.seq (.seq (.reg [R.q 14 (.mov (R.t 5)),
         R.q 15 (.mov (R.t 0)),
         R.q 16 (.conv .i64 (R.t 15)),
         R.q 17 (.bin .sub .no (R.t 16) (R.i 190)),
         R.q 18 (.bin .lss .no (R.t 14) (R.t 17))])
       (.cond (R.t 18)
         .skip
         (.exit 0)))
       (.seq (.block 1 (.reg [R.q 21 (.mov (R.t 4)),
          R.q 22 (.bin .add .no (R.t 21) (.val (.str fun _ => [122]))),
          R.q 4 (.mov (R.t 22))]))
       (.reg [R.q 19 (.mov (R.t 5)),
         R.q 20 (.bin .add .no (R.t 19) (R.i 1)),
         R.q 5 (.mov (R.t 20))]))))))
    .skip))
  (.seq (.reg [R.q 23 (.mov (R.t 4)),
    R.q 2 (.mov (R.t 23))])
  .ret)))))
def l15_name.rs : List RRes := [.tmp 2]
theorem l15_name.of {xs : List AV} {d : Nat} {B : BL} {K : ARes → BL → Prop} (hn : xs.length = 1) (hB : onlyOuter B = true) (h : awp ⟨PT, 24, exitX l15_name.rs K⟩ 10000 [.code l15_name.rc] ⟨params 0 xs, B, .nil⟩) : CallAt PT l15_name xs d B K :=
  call_of_awp 10000 Tryd.func28 rfl (by kernel_rfl) (by kernel_rfl) (by kernel_rfl) (by rw [hn]; decide) hB h

/-! gripsack/safe.Inside$1 -/
abbrev safe_Inside_1 : Nat := 29
def safe_Inside_1.rc : RC :=
  (.seq (.reg [R.q 5 (.mov (R.t 1)),
    R.q 6 (.bin .neq (.ifc true) (R.t 5) (.val .nif))])
  (.cond (R.t 6)
    (.seq (.seq (.reg [R.q 8 (.mov (R.t 1)),
      R.q 9 (.assert 56 (.agg (.cons (R.z 0) .nil)) (R.t 8)),
      R.q 7 (.mov (R.t 9)),
      R.q 10 (.ext 0 (R.t 7)),
      R.q 11 (.ext 1 (R.t 7)),
      R.q 2 (.alloc (.cons (R.z 0) .nil)),
      R.e (.store 1 (R.t 2) (R.t 10)),
      R.q 3 (.mov (R.t 11))])
    (.seq (.reg [R.q 12 (.mov (R.t 3)),
      R.q 13 (.un .not (R.t 12))])
    (.cond (R.t 13)
      (.reg [R.q 14 (.mov (R.t 1)),
        R.e (.panic (R.t 14))])
      .skip)))
    (.reg [R.e (.store 1 (R.t 0) R.ff)]))
    .skip))
def safe_Inside_1.rs : List RRes := []
theorem safe_Inside_1.of {pn : Bool} {pv : AV} {xs : List AV} {B : BL} {K : BL → Prop} (hn : xs.length = 1) (hB : onlyOuter B = true) (hpv : pn = false → pv = .nif) (h : awp ⟨PT, 15, exitC K⟩ 10000 [.code safe_Inside_1.rc] ⟨.cons 1 pv (.cons 4 pv (params 0 xs)), B, .nil⟩) : DefAt PT safe_Inside_1 pn (pv :: xs) B K :=
  def_of_awp 10000 Tryd.func29 rfl (by kernel_rfl) (by kernel_rfl) rfl (by rw [hn]; decide) (by decide) (by decide) hB hpv h

/-! strings.Contains -/
abbrev strings_Contains : Nat := 30
def strings_Contains.rc : RC :=
  (.seq (.reg [R.q 4 (.mov R.ff)])
  (.seq (.reg [R.q 5 (.mov (R.t 0)),
    R.q 6 (.mov (R.t 1)),
    R.q 7 (.call 43 [(R.t 5), (R.t 6)]),
    R.q 8 (.bin .geq .no (R.t 7) (R.i 0)),
    R.q 4 (.mov (R.t 8))])
  .ret))
def strings_Contains.rs : List RRes := [.tmp 4]
theorem strings_Contains.of {xs : List AV} {d : Nat} {B : BL} {K : ARes → BL → Prop} (hn : xs.length = 2) (hB : onlyOuter B = true) (h : awp ⟨PT, 9, exitX strings_Contains.rs K⟩ 10000 [.code strings_Contains.rc] ⟨params 0 xs, B, .nil⟩) : CallAt PT strings_Contains xs d B K :=
  call_of_awp 10000 Tryd.func30 rfl (by kernel_rfl) (by kernel_rfl) (by kernel_rfl) (by rw [hn]; decide) hB h

/-! gripsack/safe.gone -/
abbrev safe_gone : Nat := 31
def safe_gone.rc : RC :=
  (.seq (.reg [R.q 6 (.mov (R.t 0)),
    R.q 7 (.call 39 [(R.t 6), (.val (.str fun _ => [47]))]),
    R.q 8 (.len (R.t 7)),
    R.q 9 (.mov (R.i 0))])
  (.block 0 (.loop
     (.seq (.reg [R.q 10 (.bin .lss .no (R.t 9) (R.t 8))])
     (.seq (.cond (R.t 10)
       .skip
       (.exit 0))
     (.seq (.block 1 (.seq (.reg [R.q 11 (.mov (R.t 9)),
        R.q 12 (.idx 1 (R.t 7) (R.t 9)),
        R.q 13 (.load1 (R.t 12)),
        R.q 4 (.mov (R.t 11)),
        R.q 5 (.mov (R.t 13))])
      (.seq (.seq (.reg [R.q 14 (.mov (R.t 5))])
      (.block 2 (.seq (.reg [R.q 18 (.bin .eql .no (R.t 14) (.val (.str fun _ => [46, 46]))),
         R.q 17 (.mov (R.t 18))])
       (.cond (R.t 17)
         (.reg [R.q 19 (.mov (R.t 1)),
           R.q 20 (.bin .sub .no (R.t 19) (R.i 1)),
           R.q 1 (.mov (R.t 20))])
         (.seq (.seq (.reg [R.q 22 (.bin .eql .no (R.t 14) (.val (.str fun _ => [46]))),
           R.q 21 (.mov (R.t 22))])
         (.cond (R.t 21)
           .skip
           (.reg [R.q 23 (.bin .eql .no (R.t 14) (.val (.str fun _ => []))),
             R.q 21 (.mov (R.t 23))])))
         (.cond (R.t 21)
           .skip
           (.reg [R.q 15 (.mov (R.t 1)),
             R.q 16 (.bin .add .no (R.t 15) (R.i 1)),
             R.q 1 (.mov (R.t 16))])))))))
      (.seq (.reg [R.q 24 (.mov (R.t 1)),
        R.q 25 (.bin .lss .no (R.t 24) (R.i 0))])
      (.cond (R.t 25)
        (.reg [R.q 26 (.mov (R.t 4)),
          R.q 27 (.build (.cons (R.z 0) .nil) [(0, 1, (R.t 26))]),
          R.q 28 (.mkif 56 (R.t 27)),
          R.e (.panic (R.t 28))])
        .skip)))))
     (.reg [R.q 29 (.bin .add .no (R.t 9) (R.i 1)),
       R.q 9 (.mov (R.t 29))])))))))
def safe_gone.rs : List RRes := []
theorem safe_gone.of {xs : List AV} {d : Nat} {B : BL} {K : ARes → BL → Prop} (hn : xs.length = 2) (hB : onlyOuter B = true) (h : awp ⟨PT, 30, exitX safe_gone.rs K⟩ 10000 [.code safe_gone.rc] ⟨params 0 xs, B, .nil⟩) : CallAt PT safe_gone xs d B K :=
  call_of_awp 10000 Tryd.func31 rfl (by kernel_rfl) (by kernel_rfl) (by kernel_rfl) (by rw [hn]; decide) hB h

/-! gripsack/gripsacklaw14.Heavy -/
abbrev l14_Heavy : Nat := 33
def l14_Heavy.rc : RC :=
  (.seq (.reg [R.q 1 (.box (R.t 0)),
    R.q 2 (.mov R.ff)])
  (.seq (.reg [R.q 3 (.fld 5 (R.t 1)),
    R.q 4 (.load1 (R.t 3)),
    R.q 5 (.len (R.t 4)),
    R.q 6 (.bin .gtr .no (R.t 5) (R.i 60)),
    R.q 7 (.mov (R.t 6)),
    R.g 8 (.fld 6 (R.t 1)) 7 false,
    R.g 9 (.load1 (R.t 8)) 7 false,
    R.g 10 (.len (R.t 9)) 7 false,
    R.g 11 (.bin .gtr .no (R.t 10) (R.i 60)) 7 false,
    R.q 12 (.pick (R.t 7) R.tt (R.t 11)),
    R.q 13 (.mov (R.t 12)),
    R.g 14 (.fld 7 (R.t 1)) 13 false,
    R.g 15 (.load1 (R.t 14)) 13 false,
    R.g 16 (.call 46 [(R.t 15)]) 13 false,
    R.g 17 (.un .not (R.t 16)) 13 false,
    R.q 18 (.pick (R.t 13) R.tt (R.t 17)),
    R.q 2 (.mov (R.t 18))])
  .ret))
def l14_Heavy.rs : List RRes := [.tmp 2]
theorem l14_Heavy.of {xs : List AV} {d : Nat} {B : BL} {K : ARes → BL → Prop} (hn : xs.length = 1) (hB : onlyOuter B = true) (h : awp ⟨PT, 19, exitX l14_Heavy.rs K⟩ 10000 [.code l14_Heavy.rc] ⟨params 0 xs, B, .nil⟩) : CallAt PT l14_Heavy xs d B K :=
  call_of_awp 10000 Tryd.func33 rfl (by kernel_rfl) (by kernel_rfl) (by kernel_rfl) (by rw [hn]; decide) hB h

/-! gripsack/entry.Path -/
abbrev entry_Path : Nat := 34
def entry_Path.rc : RC :=
  (.seq (.reg [R.q 2 (.mov R.ff)])
  (.seq (.reg [R.q 6 (.mov (R.t 0)),
    R.q 7 (.call 39 [(R.t 6), (.val (.str fun _ => [47]))]),
    R.q 3 (.mov (R.t 7))])
  (.seq (.seq (.reg [R.q 8 (.mov (R.t 3)),
    R.q 9 (.len (R.t 8)),
    R.q 10 (.mov (R.i 0))])
  (.block 0 (.loop
     (.seq (.reg [R.q 11 (.bin .lss .no (R.t 10) (R.t 9))])
     (.seq (.cond (R.t 11)
       .skip
       (.exit 0))
     (.seq (.block 1 (.seq (.reg [R.q 12 (.idx 1 (R.t 8) (R.t 10)),
        R.q 13 (.load1 (R.t 12)),
        R.q 5 (.mov (R.t 13))])
      (.seq (.reg [R.q 14 (.mov (R.t 5)),
        R.q 15 (.call 47 [(R.t 14)]),
        R.q 16 (.un .not (R.t 15))])
      (.cond (R.t 16)
        (.seq (.reg [R.q 2 (.mov R.ff)])
        .ret)
        .skip))))
     (.reg [R.q 17 (.bin .add .no (R.t 10) (R.i 1)),
       R.q 10 (.mov (R.t 17))])))))))
  (.seq (.reg [R.q 18 (.mov (R.t 0)),
    R.q 19 (.lenS (R.t 18)),
    R.q 20 (.bin .leq .no (R.t 19) (R.i 4096)),
    R.q 21 (.mov (R.t 20)),
    R.g 22 (.mov (R.t 3)) 21 true,
    R.g 23 (.len (R.t 22)) 21 true,
    R.g 24 (.bin .leq .no (R.t 23) (R.i 64)) 21 true,
    R.q 25 (.pick (R.t 21) (R.t 24) R.ff),
    R.q 26 (.mov (R.t 25)),
    R.g 27 (.mov (R.t 0)) 26 true,
    R.g 28 (.call 30 [(R.t 27), (.val (.str fun _ => [0]))]) 26 true,
    R.g 29 (.un .not (R.t 28)) 26 true,
    R.q 30 (.pick (R.t 26) (R.t 29) R.ff),
    R.q 2 (.mov (R.t 30))])
  .ret))))
def entry_Path.rs : List RRes := [.tmp 2]
theorem entry_Path.of {xs : List AV} {d : Nat} {B : BL} {K : ARes → BL → Prop} (hn : xs.length = 1) (hB : onlyOuter B = true) (h : awp ⟨PT, 31, exitX entry_Path.rs K⟩ 10000 [.code entry_Path.rc] ⟨params 0 xs, B, .nil⟩) : CallAt PT entry_Path xs d B K :=
  call_of_awp 10000 Tryd.func34 rfl (by kernel_rfl) (by kernel_rfl) (by kernel_rfl) (by rw [hn]; decide) hB h

/-! gripsack/gripsackref15.names -/
abbrev r15_names : Nat := 35
def r15_names.rc : RC :=
  (.seq (.reg [R.q 2 (.mov (.val .nsl))])
  (.seq (.reg [R.q 3 (.mov (.val .nsl))])
  (.seq (.reg [R.q 4 (.mov (R.i 0))])
  (.seq (.seq (.reg [R.q 5 (.mov (R.i 0))])
  (.block 0 (.loop
     (.seq (.seq (.reg [R.q 6 (.mov (R.t 5)),
       R.q 7 (.mov (R.t 0)),
       R.q 8 (.lenS (R.t 7)),
       R.q 9 (.bin .leq .no (R.t 6) (R.t 8))])
     (.cond (R.t 9)
       .skip
       (.exit 0)))
     (.seq (.block 1 (.seq (.reg [R.q 12 (.mov (R.t 5)),
        R.q 13 (.mov (R.t 0)),
        R.q 14 (.lenS (R.t 13)),
        R.q 15 (.bin .eql .no (R.t 12) (R.t 14)),
        R.q 16 (.mov (R.t 15)),
        R.g 17 (.mov (R.t 0)) 16 false,
        R.g 18 (.mov (R.t 5)) 16 false,
        R.g 19 (.idxS (R.t 17) (R.t 18)) 16 false,
        R.g 20 (.bin .eql .no (R.t 19) (R.u 47)) 16 false,
        R.q 21 (.pick (R.t 16) R.tt (R.t 20))])
      (.cond (R.t 21)
        (.seq (.reg [R.q 22 (.mov (R.t 3)),
          R.q 23 (.mov (R.t 0)),
          R.q 24 (.mov (R.t 4)),
          R.q 25 (.mov (R.t 5)),
          R.q 26 (.sliceS (R.t 23) (some (R.t 24)) (some (R.t 25))),
          R.q 27 (.bslice 1 (.cons (.str fun _ => []) .nil) 1 [(0, 1, (R.t 26))]),
          R.q 28 (.append 1 16 (R.t 22) (R.t 27)),
          R.q 3 (.mov (R.t 28))])
        (.reg [R.q 29 (.mov (R.t 5)),
          R.q 30 (.bin .add .no (R.t 29) (R.i 1)),
          R.q 4 (.mov (R.t 30))]))
        .skip)))
     (.reg [R.q 10 (.mov (R.t 5)),
       R.q 11 (.bin .add .no (R.t 10) (R.i 1)),
       R.q 5 (.mov (R.t 11))]))))))
  (.seq (.reg [R.q 31 (.mov (R.t 3)),
    R.q 2 (.mov (R.t 31))])
  .ret)))))
def r15_names.rs : List RRes := [.tmp 2]
theorem r15_names.of {xs : List AV} {d : Nat} {B : BL} {K : ARes → BL → Prop} (hn : xs.length = 1) (hB : onlyOuter B = true) (h : awp ⟨PT, 32, exitX r15_names.rs K⟩ 10000 [.code r15_names.rc] ⟨params 0 xs, B, .nil⟩) : CallAt PT r15_names xs d B K :=
  call_of_awp 10000 Tryd.func35 rfl (by kernel_rfl) (by kernel_rfl) (by kernel_rfl) (by rw [hn]; decide) hB h

/-! gripsack/gripsackref15.MayName -/
abbrev r15_MayName : Nat := 36
def r15_MayName.rc : RC :=
  (.seq (.reg [R.q 2 (.mov R.ff)])
  (.seq (.seq (.reg [R.q 4 (.mov (R.t 0)),
    R.q 5 (.lenS (R.t 4)),
    R.q 6 (.bin .eql .no (R.t 5) (R.i 0)),
    R.q 7 (.mov (R.t 6)),
    R.g 8 (.mov (R.t 0)) 7 false,
    R.g 9 (.lenS (R.t 8)) 7 false,
    R.g 10 (.bin .gtr .no (R.t 9) (R.i 255)) 7 false,
    R.q 11 (.pick (R.t 7) R.tt (R.t 10)),
    R.q 12 (.mov (R.t 11)),
    R.g 13 (.mov (R.t 0)) 12 false,
    R.g 14 (.bin .eql .no (R.t 13) (.val (.str fun _ => [46]))) 12 false,
    R.q 15 (.pick (R.t 12) R.tt (R.t 14)),
    R.q 16 (.mov (R.t 15)),
    R.g 17 (.mov (R.t 0)) 16 false,
    R.g 18 (.bin .eql .no (R.t 17) (.val (.str fun _ => [46, 46]))) 16 false,
    R.q 19 (.pick (R.t 16) R.tt (R.t 18))])
  (.cond (R.t 19)
    (.seq (.reg [R.q 2 (.mov R.ff)])
    .ret)
    .skip))
  (.seq (.seq (.reg [R.q 3 (.mov (R.i 0))])
  (.block 0 (.loop
     (.seq (.seq (.reg [R.q 20 (.mov (R.t 3)),
       R.q 21 (.mov (R.t 0)),
       R.q 22 (.lenS (R.t 21)),
       R.q 23 (.bin .lss .no (R.t 20) (R.t 22))])
     (.cond (R.t 23)
       .skip
       (.exit 0)))
     (.seq (.block 1 (.seq (.reg [R.q 26 (.mov (R.t 0)),
        R.q 27 (.mov (R.t 3)),
        R.q 28 (.idxS (R.t 26) (R.t 27)),
        R.q 29 (.bin .eql .no (R.t 28) (R.u 0)),
        R.q 30 (.mov (R.t 29)),
        R.g 31 (.mov (R.t 0)) 30 false,
        R.g 32 (.mov (R.t 3)) 30 false,
        R.g 33 (.idxS (R.t 31) (R.t 32)) 30 false,
        R.g 34 (.bin .eql .no (R.t 33) (R.u 47)) 30 false,
        R.q 35 (.pick (R.t 30) R.tt (R.t 34))])
      (.cond (R.t 35)
        (.seq (.reg [R.q 2 (.mov R.ff)])
        .ret)
        .skip)))
     (.reg [R.q 24 (.mov (R.t 3)),
       R.q 25 (.bin .add .no (R.t 24) (R.i 1)),
       R.q 3 (.mov (R.t 25))]))))))
  (.seq (.reg [R.q 2 (.mov R.tt)])
  .ret))))
def r15_MayName.rs : List RRes := [.tmp 2]
theorem r15_MayName.of {xs : List AV} {d : Nat} {B : BL} {K : ARes → BL → Prop} (hn : xs.length = 1) (hB : onlyOuter B = true) (h : awp ⟨PT, 36, exitX r15_MayName.rs K⟩ 10000 [.code r15_MayName.rc] ⟨params 0 xs, B, .nil⟩) : CallAt PT r15_MayName xs d B K :=
  call_of_awp 10000 Tryd.func36 rfl (by kernel_rfl) (by kernel_rfl) (by kernel_rfl) (by rw [hn]; decide) hB h

/-! gripsack/gripsackref15.Names -/
abbrev r15_Names : Nat := 37
def r15_Names.rc : RC :=
  (.seq (.reg [R.q 2 (.mov (.val .nsl))])
  (.seq (.reg [R.q 3 (.mov (R.t 0)),
    R.q 4 (.call 35 [(R.t 3)]),
    R.q 2 (.mov (R.t 4))])
  .ret))
def r15_Names.rs : List RRes := [.tmp 2]
theorem r15_Names.of {xs : List AV} {d : Nat} {B : BL} {K : ARes → BL → Prop} (hn : xs.length = 1) (hB : onlyOuter B = true) (h : awp ⟨PT, 5, exitX r15_Names.rs K⟩ 10000 [.code r15_Names.rc] ⟨params 0 xs, B, .nil⟩) : CallAt PT r15_Names xs d B K :=
  call_of_awp 10000 Tryd.func37 rfl (by kernel_rfl) (by kernel_rfl) (by kernel_rfl) (by rw [hn]; decide) hB h

/-! strings.Split -/
abbrev strings_Split : Nat := 39
def strings_Split.rc : RC :=
  (.seq (.reg [R.q 4 (.mov (.val .nsl))])
  (.seq (.reg [R.q 5 (.mov (R.t 0)),
    R.q 6 (.mov (R.t 1)),
    R.q 7 (.call 48 [(R.t 5), (R.t 6), (R.i 0), (R.i (-1))]),
    R.q 4 (.mov (R.t 7))])
  .ret))
def strings_Split.rs : List RRes := [.tmp 4]
theorem strings_Split.of {xs : List AV} {d : Nat} {B : BL} {K : ARes → BL → Prop} (hn : xs.length = 2) (hB : onlyOuter B = true) (h : awp ⟨PT, 8, exitX strings_Split.rs K⟩ 10000 [.code strings_Split.rc] ⟨params 0 xs, B, .nil⟩) : CallAt PT strings_Split xs d B K :=
  call_of_awp 10000 Tryd.func39 rfl (by kernel_rfl) (by kernel_rfl) (by kernel_rfl) (by rw [hn]; decide) hB h

/-! strings.Index -/
abbrev strings_Index : Nat := 43
def strings_Index.rc : RC :=
  (.seq (.reg [R.q 4 (.mov (R.i 0))])
  (.seq (.reg [R.q 5 (.mov (R.t 0)),
    R.q 6 (.mov (R.t 1)),
    R.q 7 (.call 52 [(R.t 5), (R.t 6)]),
    R.q 4 (.mov (R.t 7))])
  .ret))
def strings_Index.rs : List RRes := [.tmp 4]
theorem strings_Index.of {xs : List AV} {d : Nat} {B : BL} {K : ARes → BL → Prop} (hn : xs.length = 2) (hB : onlyOuter B = true) (h : awp ⟨PT, 8, exitX strings_Index.rs K⟩ 10000 [.code strings_Index.rc] ⟨params 0 xs, B, .nil⟩) : CallAt PT strings_Index xs d B K :=
  call_of_awp 10000 Tryd.func43 rfl (by kernel_rfl) (by kernel_rfl) (by kernel_rfl) (by rw [hn]; decide) hB h

/-! gripsack/gripsacklaw13.Few -/
abbrev l13_Few : Nat := 46
def l13_Few.rc : RC :=
  (.seq (.reg [R.q 2 (.mov R.ff)])
  (.seq (.seq (.reg [R.q 3 (.mov (R.i 0))])
  (.block 0 (.loop
     (.seq (.seq (.reg [R.q 4 (.mov (R.t 3)),
       R.q 5 (.mov (R.t 0)),
       R.q 6 (.len (R.t 5)),
       R.q 7 (.bin .lss .no (R.t 4) (R.t 6)),
       R.q 8 (.mov (R.t 7)),
       R.g 9 (.mov (R.t 3)) 8 true,
       R.g 10 (.bin .lss .no (R.t 9) (R.i 40)) 8 true,
       R.q 11 (.pick (R.t 8) (R.t 10) R.ff)])
     (.cond (R.t 11)
       .skip
       (.exit 0)))
     (.seq (.block 1 (.seq (.reg [R.q 14 (.mov (R.t 0)),
        R.q 15 (.mov (R.t 3)),
        R.q 16 (.idx 2 (R.t 14) (R.t 15)),
        R.q 17 (.fld 0 (R.t 16)),
        R.q 18 (.load1 (R.t 17)),
        R.q 19 (.lenS (R.t 18)),
        R.q 20 (.bin .gtr .no (R.t 19) (R.i 400)),
        R.q 21 (.mov (R.t 20)),
        R.g 22 (.mov (R.t 0)) 21 false,
        R.g 23 (.mov (R.t 3)) 21 false,
        R.g 24 (.idx 2 (R.t 22) (R.t 23)) 21 false,
        R.g 25 (.fld 1 (R.t 24)) 21 false,
        R.g 26 (.load1 (R.t 25)) 21 false,
        R.g 27 (.lenS (R.t 26)) 21 false,
        R.g 28 (.bin .gtr .no (R.t 27) (R.i 5000)) 21 false,
        R.q 29 (.pick (R.t 21) R.tt (R.t 28))])
      (.cond (R.t 29)
        (.seq (.reg [R.q 2 (.mov R.ff)])
        .ret)
        .skip)))
     (.reg [R.q 12 (.mov (R.t 3)),
       R.q 13 (.bin .add .no (R.t 12) (R.i 1)),
       R.q 3 (.mov (R.t 13))]))))))
  (.seq (.reg [R.q 30 (.mov (R.t 0)),
    R.q 31 (.len (R.t 30)),
    R.q 32 (.bin .leq .no (R.t 31) (R.i 40)),
    R.q 2 (.mov (R.t 32))])
  .ret)))
def l13_Few.rs : List RRes := [.tmp 2]
theorem l13_Few.of {xs : List AV} {d : Nat} {B : BL} {K : ARes → BL → Prop} (hn : xs.length = 1) (hB : onlyOuter B = true) (h : awp ⟨PT, 33, exitX l13_Few.rs K⟩ 10000 [.code l13_Few.rc] ⟨params 0 xs, B, .nil⟩) : CallAt PT l13_Few xs d B K :=
  call_of_awp 10000 Tryd.func46 rfl (by kernel_rfl) (by kernel_rfl) (by kernel_rfl) (by rw [hn]; decide) hB h

/-! gripsack/entry.name -/
abbrev entry_name : Nat := 47
def entry_name.rc : RC :=
  (.seq (.reg [R.q 2 (.mov R.ff)])
  (.seq (.reg [R.q 3 (.mov (R.t 0)),
    R.q 4 (.bin .neq .no (R.t 3) (.val (.str fun _ => []))),
    R.q 5 (.mov (R.t 4)),
    R.g 6 (.mov (R.t 0)) 5 true,
    R.g 7 (.lenS (R.t 6)) 5 true,
    R.g 8 (.bin .leq .no (R.t 7) (R.i 255)) 5 true,
    R.q 9 (.pick (R.t 5) (R.t 8) R.ff),
    R.q 10 (.mov (R.t 9)),
    R.g 11 (.mov (R.t 0)) 10 true,
    R.g 12 (.bin .neq .no (R.t 11) (.val (.str fun _ => [46]))) 10 true,
    R.q 13 (.pick (R.t 10) (R.t 12) R.ff),
    R.q 14 (.mov (R.t 13)),
    R.g 15 (.mov (R.t 0)) 14 true,
    R.g 16 (.bin .neq .no (R.t 15) (.val (.str fun _ => [46, 46]))) 14 true,
    R.q 17 (.pick (R.t 14) (R.t 16) R.ff),
    R.q 2 (.mov (R.t 17))])
  .ret))
def entry_name.rs : List RRes := [.tmp 2]
theorem entry_name.of {xs : List AV} {d : Nat} {B : BL} {K : ARes → BL → Prop} (hn : xs.length = 1) (hB : onlyOuter B = true) (h : awp ⟨PT, 18, exitX entry_name.rs K⟩ 10000 [.code entry_name.rc] ⟨params 0 xs, B, .nil⟩) : CallAt PT entry_name xs d B K :=
  call_of_awp 10000 Tryd.func47 rfl (by kernel_rfl) (by kernel_rfl) (by kernel_rfl) (by rw [hn]; decide) hB h

/-! strings.genSplit -/
abbrev strings_genSplit : Nat := 48
def strings_genSplit.rc : RC :=
  (.seq (.reg [R.q 8 (.mov (.val .nsl))])
  (.seq (.seq (.reg [R.q 12 (.mov (R.t 3)),
    R.q 13 (.bin .eql .no (R.t 12) (R.i 0))])
  (.cond (R.t 13)
    (.seq (.reg [R.q 8 (.mov (.val .nsl))])
    .ret)
    .skip))
  (.seq (.seq (.reg [R.q 14 (.mov (R.t 1)),
    R.q 15 (.bin .eql .no (R.t 14) (.val (.str fun _ => [])))])
  (.cond (R.t 15)
    (.seq (.reg [R.q 16 (.mov (R.t 0)),
      R.q 17 (.mov (R.t 3)),
      R.q 18 (.call 53 [(R.t 16), (R.t 17)]),
      R.q 8 (.mov (R.t 18))])
    .ret)
    .skip))
  (.seq (.seq (.reg [R.q 19 (.mov (R.t 3)),
    R.q 20 (.bin .lss .no (R.t 19) (R.i 0))])
  (.cond (R.t 20)
    (.reg [R.q 21 (.mov (R.t 0)),
      R.q 22 (.mov (R.t 1)),
      R.q 23 (.call 32 [(R.t 21), (R.t 22)]),
      R.q 24 (.bin .add .no (R.t 23) (R.i 1)),
      R.q 3 (.mov (R.t 24))])
    .skip))
  (.seq (.reg [R.q 25 (.mov (R.t 3)),
    R.q 26 (.mov (R.t 0)),
    R.q 27 (.lenS (R.t 26)),
    R.q 28 (.bin .add .no (R.t 27) (R.i 1)),
    R.q 29 (.mm false [(R.t 25), (R.t 28)]),
    R.q 3 (.mov (R.t 29))])
  (.seq (.reg [R.q 30 (.mov (R.t 3)),
    R.q 31 (.mks 1 16 (.cons (.str fun _ => []) .nil) (R.t 30) (R.t 30)),
    R.q 9 (.mov (R.t 31))])
  (.seq (.reg [R.q 32 (.mov (R.t 3)),
    R.q 33 (.bin .sub .no (R.t 32) (R.i 1)),
    R.q 3 (.mov (R.t 33))])
  (.seq (.reg [R.q 10 (.mov (R.i 0))])
  (.seq (.block 0 (.loop
     (.seq (.seq (.reg [R.q 34 (.mov (R.t 10)),
       R.q 35 (.mov (R.t 3)),
       R.q 36 (.bin .lss .no (R.t 34) (R.t 35))])
     (.cond (R.t 36)
       .skip
       (.exit 0)))
     (.block 1 (.seq (.reg [R.q 37 (.mov (R.t 0)),
        R.q 38 (.mov (R.t 1)),
        R.q 39 (.call 43 [(R.t 37), (R.t 38)]),
        R.q 11 (.mov (R.t 39))])
      (.seq (.seq (.reg [R.q 40 (.mov (R.t 11)),
        R.q 41 (.bin .lss .no (R.t 40) (R.i 0))])
      (.cond (R.t 41)
        (.exit 0)
        .skip))
      (.seq (.reg [R.q 42 (.mov (R.t 9)),
        R.q 43 (.mov (R.t 10)),
        R.q 44 (.mov (R.t 0)),
        R.q 45 (.mov (R.t 11)),
        R.q 46 (.mov (R.t 2)),
        R.q 47 (.bin .add .no (R.t 45) (R.t 46)),
        R.q 48 (.sliceS (R.t 44) none (some (R.t 47))),
        R.q 49 (.idx 1 (R.t 42) (R.t 43)),
        R.e (.store 1 (R.t 49) (R.t 48))])
      (.seq (.reg [R.q 50 (.mov (R.t 0)),
        R.q 51 (.mov (R.t 11)),
        R.q 52 (.mov (R.t 1)),
        R.q 53 (.lenS (R.t 52)),
        R.q 54 (.bin .add .no (R.t 51) (R.t 53)),
        R.q 55 (.sliceS (R.t 50) (some (R.t 54)) none),
        R.q 0 (.mov (R.t 55))])
      (.reg [R.q 56 (.mov (R.t 10)),
        R.q 57 (.bin .add .no (R.t 56) (R.i 1)),
        R.q 10 (.mov (R.t 57))])))))))))
  (.seq (.reg [R.q 58 (.mov (R.t 9)),
    R.q 59 (.mov (R.t 10)),
    R.q 60 (.mov (R.t 0)),
    R.q 61 (.idx 1 (R.t 58) (R.t 59)),
    R.e (.store 1 (R.t 61) (R.t 60))])
  (.seq (.reg [R.q 62 (.mov (R.t 9)),
    R.q 63 (.mov (R.t 10)),
    R.q 64 (.bin .add .no (R.t 63) (R.i 1)),
    R.q 65 (.slice 1 (R.t 62) none (some (R.t 64))),
    R.q 8 (.mov (R.t 65))])
  .ret)))))))))))
def strings_genSplit.rs : List RRes := [.tmp 8]
theorem strings_genSplit.of {xs : List AV} {d : Nat} {B : BL} {K : ARes → BL → Prop} (hn : xs.length = 4) (hB : onlyOuter B = true) (h : awp ⟨PT, 66, exitX strings_genSplit.rs K⟩ 10000 [.code strings_genSplit.rc] ⟨params 0 xs, B, .nil⟩) : CallAt PT strings_genSplit xs d B K :=
  call_of_awp 10000 Tryd.func48 rfl (by kernel_rfl) (by kernel_rfl) (by kernel_rfl) (by rw [hn]; decide) hB h

/-! strings.explode -/
abbrev strings_explode : Nat := 53
def strings_explode.rc : RC :=
  (.seq (.reg [R.q 4 (.mov (.val .nsl))])
  (.seq (.reg [R.q 10 (.mov (R.t 0)),
    R.q 11 (.call 44 [(R.t 10)]),
    R.q 5 (.mov (R.t 11))])
  (.seq (.seq (.reg [R.q 12 (.mov (R.t 1)),
    R.q 13 (.bin .lss .no (R.t 12) (R.i 0)),
    R.q 14 (.mov (R.t 13)),
    R.g 15 (.mov (R.t 1)) 14 false,
    R.g 16 (.mov (R.t 5)) 14 false,
    R.g 17 (.bin .gtr .no (R.t 15) (R.t 16)) 14 false,
    R.q 18 (.pick (R.t 14) R.tt (R.t 17))])
  (.cond (R.t 18)
    (.reg [R.q 19 (.mov (R.t 5)),
      R.q 1 (.mov (R.t 19))])
    .skip))
  (.seq (.reg [R.q 20 (.mov (R.t 1)),
    R.q 21 (.mks 1 16 (.cons (.str fun _ => []) .nil) (R.t 20) (R.t 20)),
    R.q 6 (.mov (R.t 21))])
  (.seq (.seq (.reg [R.q 7 (.mov (R.i 0))])
  (.block 0 (.loop
     (.seq (.seq (.reg [R.q 22 (.mov (R.t 7)),
       R.q 23 (.mov (R.t 1)),
       R.q 24 (.bin .sub .no (R.t 23) (R.i 1)),
       R.q 25 (.bin .lss .no (R.t 22) (R.t 24))])
     (.cond (R.t 25)
       .skip
       (.exit 0)))
     (.seq (.block 1 (.seq (.reg [R.q 29 (.mov (R.t 0)),
        R.q 30 (.call 60 [(R.t 29)]),
        R.q 28 (.mov (R.t 30)),
        R.q 31 (.ext 0 (R.t 28)),
        R.q 32 (.ext 1 (R.t 28)),
        R.q 8 (.mov (R.t 31)),
        R.q 9 (.mov (R.t 32))])
      (.seq (.reg [R.q 33 (.mov (R.t 6)),
        R.q 34 (.mov (R.t 7)),
        R.q 35 (.mov (R.t 0)),
        R.q 36 (.mov (R.t 9)),
        R.q 37 (.sliceS (R.t 35) none (some (R.t 36))),
        R.q 38 (.idx 1 (R.t 33) (R.t 34)),
        R.e (.store 1 (R.t 38) (R.t 37))])
      (.reg [R.q 39 (.mov (R.t 0)),
        R.q 40 (.mov (R.t 9)),
        R.q 41 (.sliceS (R.t 39) (some (R.t 40)) none),
        R.q 0 (.mov (R.t 41))]))))
     (.reg [R.q 26 (.mov (R.t 7)),
       R.q 27 (.bin .add .no (R.t 26) (R.i 1)),
       R.q 7 (.mov (R.t 27))]))))))
  (.seq (.seq (.reg [R.q 42 (.mov (R.t 1)),
    R.q 43 (.bin .gtr .no (R.t 42) (R.i 0))])
  (.cond (R.t 43)
    (.reg [R.q 44 (.mov (R.t 6)),
      R.q 45 (.mov (R.t 1)),
      R.q 46 (.bin .sub .no (R.t 45) (R.i 1)),
      R.q 47 (.mov (R.t 0)),
      R.q 48 (.idx 1 (R.t 44) (R.t 46)),
      R.e (.store 1 (R.t 48) (R.t 47))])
    .skip))
  (.seq (.reg [R.q 49 (.mov (R.t 6)),
    R.q 4 (.mov (R.t 49))])
  .ret)))))))
def strings_explode.rs : List RRes := [.tmp 4]
theorem strings_explode.of {xs : List AV} {d : Nat} {B : BL} {K : ARes → BL → Prop} (hn : xs.length = 2) (hB : onlyOuter B = true) (h : awp ⟨PT, 50, exitX strings_explode.rs K⟩ 10000 [.code strings_explode.rc] ⟨params 0 xs, B, .nil⟩) : CallAt PT strings_explode xs d B K :=
  call_of_awp 10000 Tryd.func53 rfl (by kernel_rfl) (by kernel_rfl) (by kernel_rfl) (by rw [hn]; decide) hB h

/-! unicode/utf8.DecodeRuneInString -/
abbrev unicode_utf8_DecodeRuneInString : Nat := 60
def unicode_utf8_DecodeRuneInString.rc : RC :=
  (.seq (.reg [R.q 2 (.mov (.val (.int .i32 fun _ => 0))),
    R.q 3 (.mov (R.i 0))])
  (.seq (.seq (.reg [R.q 4 (.mov (R.t 0)),
    R.q 5 (.bin .neq .no (R.t 4) (.val (.str fun _ => []))),
    R.q 6 (.mov (R.t 5)),
    R.g 7 (.mov (R.t 0)) 6 true,
    R.g 8 (.idxS (R.t 7) (R.i 0)) 6 true,
    R.g 9 (.bin .lss .no (R.t 8) (R.u 128)) 6 true,
    R.q 10 (.pick (R.t 6) (R.t 9) R.ff)])
  (.cond (R.t 10)
    (.seq (.reg [R.q 11 (.mov (R.t 0)),
      R.q 12 (.idxS (R.t 11) (R.i 0)),
      R.q 13 (.conv .i32 (R.t 12)),
      R.q 2 (.mov (R.t 13)),
      R.q 3 (.mov (R.i 1))])
    .ret)
    (.reg [R.q 15 (.mov (R.t 0)),
      R.q 16 (.call 65 [(R.t 15)]),
      R.q 14 (.mov (R.t 16)),
      R.q 17 (.ext 0 (R.t 14)),
      R.q 18 (.ext 1 (R.t 14)),
      R.q 2 (.mov (R.t 17)),
      R.q 3 (.mov (R.t 18))])))
  .ret))
def unicode_utf8_DecodeRuneInString.rs : List RRes := [.tmp 2, .tmp 3]
theorem unicode_utf8_DecodeRuneInString.of {xs : List AV} {d : Nat} {B : BL} {K : ARes → BL → Prop} (hn : xs.length = 1) (hB : onlyOuter B = true) (h : awp ⟨PT, 19, exitX unicode_utf8_DecodeRuneInString.rs K⟩ 10000 [.code unicode_utf8_DecodeRuneInString.rc] ⟨params 0 xs, B, .nil⟩) : CallAt PT unicode_utf8_DecodeRuneInString xs d B K :=
  call_of_awp 10000 Tryd.func60 rfl (by kernel_rfl) (by kernel_rfl) (by kernel_rfl) (by rw [hn]; decide) hB h

end F
end Go.Proofs.YtiaenejafpbfkaaDoor
