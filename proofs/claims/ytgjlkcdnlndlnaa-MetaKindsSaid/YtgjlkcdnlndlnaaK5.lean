/- Texts laid together: RcM, Fm, Right, RightA, Made, Mk, Mkx, Mkm, Modes, Acl, Less, Ref, MeA, Ref2, RightMade, May, MeB, MeC. -/
import Derived.Test.YtgjlkcdnlndlnaaK4
/- More of the program's functions, resolved (printed by a tool). -/
namespace Go.Proofs.Ytgjlkcdnlndlnaa
open Go Go.Proofs.Ytgjlkcdnlndlnaa.Sx
namespace F
/-! gripsack/gripsacklaw14.MetaKinds -/
abbrev l14_MetaKinds : Nat := 9
def l14_MetaKinds.rc : RC :=
  (.seq (.reg [R.q 6 (.mov R.ff)])
  (.seq (.reg [R.q 16 (.bslice 1 (.cons (R.z 0) .nil) 6 [(0, 1, (R.i 1)), (1, 1, (R.i 3)), (2, 1, (R.i 4)), (3, 1, (R.i 5)), (4, 1, (R.i 6)), (5, 1, (R.i 7))]),
    R.q 17 (.mov (R.t 0)),
    R.q 18 (.bin .rem .no (R.t 17) (R.u 6)),
    R.q 19 (.idx 1 (R.t 16) (R.t 18)),
    R.q 20 (.load1 (R.t 19)),
    R.q 7 (.mov (R.t 20))])
  (.seq (.reg [R.q 21 (.mov (R.t 2)),
    R.q 22 (.conv .i64 (R.t 21)),
    R.q 23 (.bin .rem .no (R.t 22) (R.i 4096)),
    R.q 8 (.mov (R.t 23))])
  (.seq (.reg [R.q 24 (.mov (R.t 8)),
    R.q 25 (.call 35 [(R.t 24), (R.i 1), (R.i 2)]),
    R.q 9 (.alloc (.cons (R.z 0) (.cons (R.z 0) (.cons (R.z 0) (.cons (R.z 0) (.cons (R.z 0) (.cons .nsl (.cons .nsl (.cons .nsl (.cons (R.z 0) (.cons (.int .u64 fun _ => 0) (.cons (.int .u64 fun _ => 0) (.cons .ff (.cons (R.z 0) (.cons (R.z 0) .nil))))))))))))))),
    R.e (.store 14 (R.t 9) (R.t 25))])
  (.seq (.reg [R.q 26 (.mov (R.t 7)),
    R.q 27 (.bin .eql .no (R.t 26) (R.i 3)),
    R.q 10 (.mov (R.t 27))])
  (.seq (.regd [R.f (R.q 28 (.loadA 14 (R.t 9))),
    R.f (R.q 29 (.loadA 14 (R.t 9))),
    R.f (R.q 30 (.loadA 14 (R.t 9))),
    R.f (R.q 31 (.loadA 14 (R.t 9))),
    R.f (R.q 11 (.alloc (.cons (R.z 0) (.cons (R.z 0) (.cons (R.z 0) (.cons (R.z 0) (.cons (R.z 0) (.cons .nsl (.cons .nsl (.cons .nsl (.cons (R.z 0) (.cons (.int .u64 fun _ => 0) (.cons (.int .u64 fun _ => 0) (.cons .ff (.cons (R.z 0) (.cons (R.z 0) .nil)))))))))))))))),
    R.f (R.q 12 (.alloc (.cons (R.z 0) (.cons (R.z 0) (.cons (R.z 0) (.cons (R.z 0) (.cons (R.z 0) (.cons .nsl (.cons .nsl (.cons .nsl (.cons (R.z 0) (.cons (.int .u64 fun _ => 0) (.cons (.int .u64 fun _ => 0) (.cons .ff (.cons (R.z 0) (.cons (R.z 0) .nil)))))))))))))))),
    R.f (R.q 13 (.alloc (.cons (R.z 0) (.cons (R.z 0) (.cons (R.z 0) (.cons (R.z 0) (.cons (R.z 0) (.cons .nsl (.cons .nsl (.cons .nsl (.cons (R.z 0) (.cons (.int .u64 fun _ => 0) (.cons (.int .u64 fun _ => 0) (.cons .ff (.cons (R.z 0) (.cons (R.z 0) .nil)))))))))))))))),
    R.f (R.q 14 (.alloc (.cons (R.z 0) (.cons (R.z 0) (.cons (R.z 0) (.cons (R.z 0) (.cons (R.z 0) (.cons .nsl (.cons .nsl (.cons .nsl (.cons (R.z 0) (.cons (.int .u64 fun _ => 0) (.cons (.int .u64 fun _ => 0) (.cons .ff (.cons (R.z 0) (.cons (R.z 0) .nil)))))))))))))))),
    R.s (R.e (.store 14 (R.t 11) (R.t 28))) [1, 2, 3],
    R.s (R.e (.store 14 (R.t 12) (R.t 29))) [2, 3],
    R.s (R.e (.store 14 (R.t 13) (R.t 30))) [3],
    R.s (R.e (.store 14 (R.t 14) (R.t 31))) []])
  (.seq (.reg [R.q 32 (.mov (R.t 1)),
    R.q 33 (.call 38 [(R.t 32), (R.i 7)]),
    R.q 34 (.fld 6 (R.t 11)),
    R.e (.store 1 (R.t 34) (R.t 33))])
  (.seq (.reg [R.q 35 (.build (.cons (R.z 0) (.cons (.int .u64 fun _ => 0) (.cons (.int .u64 fun _ => 0) (.cons .ff (.cons (R.z 0) .nil))))) [(0, 1, (R.i 2))]),
    R.q 36 (.fld 8 (R.t 12)),
    R.e (.store 5 (R.t 36) (R.t 35))])
  (.seq (.reg [R.q 37 (.mov (R.t 1)),
    R.q 38 (.mov (R.t 8)),
    R.q 39 (.bin .and .no (R.t 38) (R.i 511)),
    R.q 40 (.call 38 [(R.t 37), (R.t 39)]),
    R.q 41 (.fld 5 (R.t 13)),
    R.e (.store 1 (R.t 41) (R.t 40))])
  (.seq (.reg [R.q 42 (.fld 13 (R.t 14)),
    R.e (.store 1 (R.t 42) (R.i 1))])
  (.seq (.reg [R.q 43 (.mov (R.t 10)),
    R.q 44 (.un .not (R.t 43)),
    R.q 45 (.mov (R.t 44)),
    R.g 46 (.mov (R.t 8)) 45 false,
    R.g 47 (.bin .eql .no (R.t 46) (R.i 511)) 45 false,
    R.q 48 (.pick (R.t 45) R.tt (R.t 47)),
    R.q 15 (.mov (R.t 48))])
  (.seq (.reg [R.q 49 (.loadA 14 (R.t 9)),
    R.q 50 (.mov (R.t 7)),
    R.q 51 (.call 39 [(R.t 49), (R.t 50)]),
    R.q 52 (.mov (R.t 15)),
    R.q 53 (.bin .eql .bool (R.t 51) (R.t 52)),
    R.q 54 (.mov (R.t 53)),
    R.g 55 (.loadA 14 (R.t 11)) 54 true,
    R.g 56 (.mov (R.t 7)) 54 true,
    R.g 57 (.call 39 [(R.t 55), (R.t 56)]) 54 true,
    R.g 58 (.mov (R.t 7)) 54 true,
    R.g 59 (.bin .eql .no (R.t 58) (R.i 6)) 54 true,
    R.g 60 (.bin .eql .bool (R.t 57) (R.t 59)) 54 true,
    R.q 61 (.pick (R.t 54) (R.t 60) R.ff),
    R.q 62 (.mov (R.t 61)),
    R.g 63 (.loadA 14 (R.t 12)) 62 true,
    R.g 64 (.mov (R.t 7)) 62 true,
    R.g 65 (.call 39 [(R.t 63), (R.t 64)]) 62 true,
    R.g 66 (.mov (R.t 7)) 62 true,
    R.g 67 (.bin .eql .no (R.t 66) (R.i 1)) 62 true,
    R.g 68 (.bin .eql .bool (R.t 65) (R.t 67)) 62 true,
    R.q 69 (.pick (R.t 62) (R.t 68) R.ff),
    R.q 70 (.mov (R.t 69)),
    R.g 71 (.loadA 14 (R.t 13)) 70 true,
    R.g 72 (.mov (R.t 7)) 70 true,
    R.g 73 (.call 39 [(R.t 71), (R.t 72)]) 70 true,
    R.g 74 (.mov (R.t 10)) 70 true,
    R.g 75 (.un .not (R.t 74)) 70 true,
    R.g 76 (.bin .eql .bool (R.t 73) (R.t 75)) 70 true,
    R.q 77 (.pick (R.t 70) (R.t 76) R.ff),
    R.q 78 (.mov (R.t 77)),
    R.g 79 (.loadA 14 (R.t 14)) 78 true,
    R.g 80 (.mov (R.t 7)) 78 true,
    R.g 81 (.call 39 [(R.t 79), (R.t 80)]) 78 true,
    R.g 82 (.mov (R.t 10)) 78 true,
    R.g 83 (.un .not (R.t 82)) 78 true,
    R.g 84 (.bin .eql .bool (R.t 81) (R.t 83)) 78 true,
    R.q 85 (.pick (R.t 78) (R.t 84) R.ff),
    R.q 86 (.mov (R.t 85)),
    R.g 87 (.call 40 []) 86 true,
    R.q 88 (.pick (R.t 86) (R.t 87) R.ff),
    R.q 6 (.mov (R.t 88))])
  .ret))))))))))))
def l14_MetaKinds.rs : List RRes := [.tmp 6]
theorem l14_MetaKinds.of {xs : List AV} {d : Nat} {B : BL} {K : ARes → BL → Prop} (hn : xs.length = 3) (hB : onlyOuter B = true) (h : awp ⟨PT, 89, exitX l14_MetaKinds.rs K⟩ 10000 [.code l14_MetaKinds.rc] ⟨params 0 xs, B, .nil⟩) : CallAt PT l14_MetaKinds xs d B K :=
  call_of_awp 10000 Try.func9 rfl (by kernel_rfl) (by kernel_rfl) (by kernel_rfl) (by rw [hn]; decide) hB h

/-! gripsack/gripsacklaw14.MetaAll -/
abbrev l14_MetaAll : Nat := 10
def l14_MetaAll.rc : RC :=
  (.seq (.reg [R.q 6 (.box (R.t 0)),
    R.q 7 (.box (R.t 1)),
    R.q 12 (.mov R.ff)])
  (.seq (.seq (.reg [R.q 13 (.loadA 14 (R.t 6)),
    R.q 14 (.call 41 [(R.t 13)]),
    R.q 15 (.mov (R.t 14)),
    R.g 16 (.loadA 14 (R.t 7)) 15 false,
    R.g 17 (.call 41 [(R.t 16)]) 15 false,
    R.q 18 (.pick (R.t 15) R.tt (R.t 17))])
  (.cond (R.t 18)
    (.seq (.reg [R.q 19 (.call 40 []),
      R.q 12 (.mov (R.t 19))])
    .ret)
    .skip))
  (.seq (.regd [R.f (R.q 20 (.loadA 14 (R.t 6))),
    R.f (R.q 21 (.mov (R.t 2))),
    R.f (R.q 23 (.loadA 14 (R.t 6))),
    R.f (R.q 24 (.mov (R.t 2))),
    R.s (R.q 22 (.call 39 [(R.t 20), (R.t 21)])) [2, 3],
    R.s (R.q 25 (.call 36 [(R.t 23), (R.t 24)])) [],
    R.f (R.q 26 (.bin .eql .bool (R.t 22) (R.t 25))),
    R.f (R.q 27 (.mov (R.t 26))),
    R.f (R.g 28 (.loadA 14 (R.t 6)) 27 true),
    R.f (R.g 29 (.loadA 14 (R.t 7)) 27 true),
    R.f (R.g 31 (.loadA 14 (R.t 6)) 27 true),
    R.f (R.g 32 (.loadA 14 (R.t 7)) 27 true),
    R.s (R.g 30 (.call 42 [(R.t 28), (R.t 29)]) 27 true) [10, 11],
    R.s (R.g 33 (.call 30 [(R.t 31), (R.t 32)]) 27 true) [],
    R.f (R.g 34 (.bin .eql .bool (R.t 30) (R.t 33)) 27 true),
    R.f (R.q 35 (.pick (R.t 27) (R.t 34) R.ff)),
    R.f (R.q 36 (.mov (R.t 35))),
    R.f (R.g 37 (.loadA 14 (R.t 6)) 36 true),
    R.f (R.g 38 (.loadA 14 (R.t 6)) 36 true),
    R.s (R.g 39 (.call 42 [(R.t 37), (R.t 38)]) 36 true) [],
    R.f (R.q 40 (.pick (R.t 36) (R.t 39) R.ff)),
    R.f (R.q 41 (.mov (R.t 40))),
    R.f (R.g 42 (.mov (R.t 3)) 41 true),
    R.f (R.g 43 (.mov (R.t 4)) 41 true),
    R.f (R.g 44 (.mov (R.t 5)) 41 true),
    R.f (R.g 46 (.mov (R.t 3)) 41 true),
    R.f (R.g 47 (.mov (R.t 4)) 41 true),
    R.f (R.g 48 (.mov (R.t 5)) 41 true),
    R.s (R.g 45 (.call 43 [(R.t 42), (R.t 43), (R.t 44)]) 41 true) [25, 26, 27],
    R.s (R.g 49 (.call 35 [(R.t 46), (R.t 47), (R.t 48)]) 41 true) [],
    R.s (R.g 50 (.call 42 [(R.t 45), (R.t 49)]) 41 true) [],
    R.f (R.q 51 (.pick (R.t 41) (R.t 50) R.ff)),
    R.f (R.q 52 (.mov (R.t 51))),
    R.s (R.g 53 (.call 40 []) 52 true) [],
    R.f (R.q 54 (.pick (R.t 52) (R.t 53) R.ff)),
    R.s (R.q 12 (.mov (R.t 54))) []])
  .ret)))
def l14_MetaAll.rs : List RRes := [.tmp 12]
theorem l14_MetaAll.of {xs : List AV} {d : Nat} {B : BL} {K : ARes → BL → Prop} (hn : xs.length = 6) (hB : onlyOuter B = true) (h : awp ⟨PT, 55, exitX l14_MetaAll.rs K⟩ 10000 [.code l14_MetaAll.rc] ⟨params 0 xs, B, .nil⟩) : CallAt PT l14_MetaAll xs d B K :=
  call_of_awp 10000 Try.func10 rfl (by kernel_rfl) (by kernel_rfl) (by kernel_rfl) (by rw [hn]; decide) hB h

/-! gripsack/gripsacklaw14.MetaMade -/
abbrev l14_MetaMade : Nat := 11
def l14_MetaMade.rc : RC :=
  (.seq (.reg [R.q 6 (.mov R.ff)])
  (.seq (.reg [R.q 10 (.bslice 1 (.cons (R.z 0) .nil) 6 [(0, 1, (R.i 1)), (1, 1, (R.i 3)), (2, 1, (R.i 4)), (3, 1, (R.i 5)), (4, 1, (R.i 6)), (5, 1, (R.i 7))]),
    R.q 11 (.mov (R.t 1)),
    R.q 12 (.bin .rem .no (R.t 11) (R.u 6)),
    R.q 13 (.idx 1 (R.t 10) (R.t 12)),
    R.q 14 (.load1 (R.t 13)),
    R.q 7 (.mov (R.t 14))])
  (.seq (.reg [R.q 15 (.mov (R.t 0)),
    R.q 16 (.mov (R.t 7)),
    R.q 17 (.call 37 [(R.t 15), (R.t 16)]),
    R.q 8 (.alloc (.cons (R.z 0) (.cons (R.z 0) (.cons (R.z 0) (.cons (R.z 0) (.cons (R.z 0) (.cons .nsl (.cons .nsl (.cons .nsl (.cons (R.z 0) (.cons (.int .u64 fun _ => 0) (.cons (.int .u64 fun _ => 0) (.cons .ff (.cons (R.z 0) (.cons (R.z 0) .nil))))))))))))))),
    R.e (.store 14 (R.t 8) (R.t 17))])
  (.seq (.reg [R.q 18 (.mov (R.t 0)),
    R.q 19 (.mov (R.t 7)),
    R.q 20 (.call 37 [(R.t 18), (R.t 19)]),
    R.q 9 (.alloc (.cons (R.z 0) (.cons (R.z 0) (.cons (R.z 0) (.cons (R.z 0) (.cons (R.z 0) (.cons .nsl (.cons .nsl (.cons .nsl (.cons (R.z 0) (.cons (.int .u64 fun _ => 0) (.cons (.int .u64 fun _ => 0) (.cons .ff (.cons (R.z 0) (.cons (R.z 0) .nil))))))))))))))),
    R.e (.store 14 (R.t 9) (R.t 20))])
  (.seq (.seq (.reg [R.q 21 (.loadA 14 (R.t 8)),
    R.q 22 (.mov (R.t 7)),
    R.q 23 (.call 39 [(R.t 21), (R.t 22)]),
    R.q 24 (.un .not (R.t 23)),
    R.q 25 (.mov (R.t 24)),
    R.g 26 (.loadA 14 (R.t 8)) 25 false,
    R.g 27 (.loadA 14 (R.t 9)) 25 false,
    R.g 28 (.call 42 [(R.t 26), (R.t 27)]) 25 false,
    R.g 29 (.un .not (R.t 28)) 25 false,
    R.q 30 (.pick (R.t 25) R.tt (R.t 29)),
    R.q 31 (.mov (R.t 30)),
    R.g 32 (.loadA 14 (R.t 8)) 31 false,
    R.g 33 (.call 39 [(R.t 32), (R.i 2)]) 31 false,
    R.q 34 (.pick (R.t 31) R.tt (R.t 33)),
    R.q 35 (.mov (R.t 34)),
    R.g 36 (.loadA 14 (R.t 8)) 35 false,
    R.g 37 (.call 39 [(R.t 36), (R.i 0)]) 35 false,
    R.q 38 (.pick (R.t 35) R.tt (R.t 37)),
    R.q 39 (.mov (R.t 38)),
    R.g 40 (.loadA 14 (R.t 8)) 39 false,
    R.g 41 (.call 39 [(R.t 40), (R.i 8)]) 39 false,
    R.q 42 (.pick (R.t 39) R.tt (R.t 41))])
  (.cond (R.t 42)
    (.seq (.reg [R.q 6 (.mov R.ff)])
    .ret)
    .skip))
  (.seq (.seq (.reg [R.q 43 (.mov (R.t 2)),
    R.q 44 (.bin .rem .no (R.t 43) (R.u 8))])
  (.block 0 (.seq (.reg [R.q 48 (.bin .eql .no (R.t 44) (R.u 0)),
     R.q 47 (.mov (R.t 48))])
   (.cond (R.t 47)
     (.reg [R.q 49 (.fld 0 (R.t 9)),
       R.e (.store 1 (R.t 49) (R.i 4096))])
     (.seq (.reg [R.q 51 (.bin .eql .no (R.t 44) (R.u 1)),
       R.q 50 (.mov (R.t 51))])
     (.cond (R.t 50)
       (.reg [R.q 52 (.fld 1 (R.t 9)),
         R.e (.store 1 (R.t 52) (R.i (-1)))])
       (.seq (.reg [R.q 54 (.bin .eql .no (R.t 44) (R.u 2)),
         R.q 53 (.mov (R.t 54))])
       (.cond (R.t 53)
         (.reg [R.q 55 (.fld 2 (R.t 9)),
           R.e (.store 1 (R.t 55) (R.i 2147483648))])
         (.seq (.reg [R.q 57 (.bin .eql .no (R.t 44) (R.u 3)),
           R.q 56 (.mov (R.t 57))])
         (.cond (R.t 56)
           (.reg [R.q 58 (.fld 3 (R.t 9)),
             R.q 59 (.fld 1 (R.t 58)),
             R.e (.store 1 (R.t 59) (R.i 1000000000))])
           (.seq (.reg [R.q 61 (.bin .eql .no (R.t 44) (R.u 4)),
             R.q 60 (.mov (R.t 61))])
           (.cond (R.t 60)
             (.reg [R.q 62 (.fld 13 (R.t 9)),
               R.e (.store 1 (R.t 62) (R.i 16))])
             (.seq (.reg [R.q 64 (.bin .eql .no (R.t 44) (R.u 5)),
               R.q 63 (.mov (R.t 64))])
             (.cond (R.t 63)
               (.reg [R.q 65 (.build (.cons (.str fun _ => []) (.cons (.str fun _ => []) .nil)) [(0, 1, (.val (.str fun _ => [98])))]),
                 R.q 66 (.build (.cons (.str fun _ => []) (.cons (.str fun _ => []) .nil)) [(0, 1, (.val (.str fun _ => [97])))]),
                 R.q 67 (.bslice 2 (.cons (.str fun _ => []) (.cons (.str fun _ => []) .nil)) 2 [(0, 2, (R.t 65)), (2, 2, (R.t 66))]),
                 R.q 68 (.fld 7 (R.t 9)),
                 R.e (.store 1 (R.t 68) (R.t 67))])
               (.seq (.reg [R.q 70 (.bin .eql .no (R.t 44) (R.u 6)),
                 R.q 69 (.mov (R.t 70))])
               (.cond (R.t 69)
                 (.reg [R.q 71 (.fld 0 (R.t 9)),
                   R.q 72 (.load1 (R.t 71)),
                   R.q 73 (.bin .and .no (R.t 72) (R.i 511)),
                   R.q 74 (.bin .xor .no (R.t 73) (R.i 1)),
                   R.q 75 (.call 38 [(.val .nsl), (R.t 74)]),
                   R.q 76 (.fld 5 (R.t 9)),
                   R.e (.store 1 (R.t 76) (R.t 75))])
                 (.reg [R.q 45 (.fld 8 (R.t 9)),
                   R.q 46 (.fld 0 (R.t 45)),
                   R.e (.store 1 (R.t 46) (R.i 5))])))))))))))))))))
  (.seq (.reg [R.q 77 (.loadA 14 (R.t 9)),
    R.q 78 (.mov (R.t 7)),
    R.q 79 (.call 39 [(R.t 77), (R.t 78)]),
    R.q 80 (.un .not (R.t 79)),
    R.q 81 (.mov (R.t 80)),
    R.g 82 (.loadA 14 (R.t 8)) 81 true,
    R.g 83 (.loadA 14 (R.t 9)) 81 true,
    R.g 84 (.call 42 [(R.t 82), (R.t 83)]) 81 true,
    R.g 85 (.un .not (R.t 84)) 81 true,
    R.q 86 (.pick (R.t 81) (R.t 85) R.ff),
    R.q 87 (.mov (R.t 86)),
    R.g 88 (.call 40 []) 87 true,
    R.q 89 (.pick (R.t 87) (R.t 88) R.ff),
    R.q 6 (.mov (R.t 89))])
  .ret)))))))
def l14_MetaMade.rs : List RRes := [.tmp 6]
theorem l14_MetaMade.of {xs : List AV} {d : Nat} {B : BL} {K : ARes → BL → Prop} (hn : xs.length = 3) (hB : onlyOuter B = true) (h : awp ⟨PT, 90, exitX l14_MetaMade.rs K⟩ 10000 [.code l14_MetaMade.rc] ⟨params 0 xs, B, .nil⟩) : CallAt PT l14_MetaMade xs d B K :=
  call_of_awp 10000 Try.func11 rfl (by kernel_rfl) (by kernel_rfl) (by kernel_rfl) (by rw [hn]; decide) hB h

/-! gripsack/gripsacklaw14.MetaLists -/
abbrev l14_MetaLists : Nat := 12
def l14_MetaLists.rc : RC :=
  (.seq (.reg [R.q 6 (.mov R.ff)])
  (.seq (.reg [R.q 9 (.mov (R.t 1)),
    R.q 10 (.conv .i64 (R.t 9)),
    R.q 11 (.bin .rem .no (R.t 10) (R.i 4096)),
    R.q 12 (.call 35 [(R.t 11), (R.i 0), (R.i 0)]),
    R.q 7 (.alloc (.cons (R.z 0) (.cons (R.z 0) (.cons (R.z 0) (.cons (R.z 0) (.cons (R.z 0) (.cons .nsl (.cons .nsl (.cons .nsl (.cons (R.z 0) (.cons (.int .u64 fun _ => 0) (.cons (.int .u64 fun _ => 0) (.cons .ff (.cons (R.z 0) (.cons (R.z 0) .nil))))))))))))))),
    R.e (.store 14 (R.t 7) (R.t 12))])
  (.seq (.reg [R.q 13 (.mov (R.t 0)),
    R.q 14 (.mov (R.t 2)),
    R.q 15 (.conv .i64 (R.t 14)),
    R.q 16 (.bin .rem .no (R.t 15) (R.i 512)),
    R.q 17 (.call 38 [(R.t 13), (R.t 16)]),
    R.q 18 (.fld 5 (R.t 7)),
    R.e (.store 1 (R.t 18) (R.t 17))])
  (.seq (.reg [R.q 19 (.loadA 14 (R.t 7)),
    R.q 8 (.alloc (.cons (R.z 0) (.cons (R.z 0) (.cons (R.z 0) (.cons (R.z 0) (.cons (R.z 0) (.cons .nsl (.cons .nsl (.cons .nsl (.cons (R.z 0) (.cons (.int .u64 fun _ => 0) (.cons (.int .u64 fun _ => 0) (.cons .ff (.cons (R.z 0) (.cons (R.z 0) .nil))))))))))))))),
    R.e (.store 14 (R.t 8) (R.t 19))])
  (.seq (.reg [R.q 20 (.fld 5 (R.t 8)),
    R.e (.store 1 (R.t 20) (.val .nsl))])
  (.seq (.reg [R.q 21 (.loadA 14 (R.t 7)),
    R.q 22 (.call 39 [(R.t 21), (R.i 1)]),
    R.q 23 (.mov (R.t 1)),
    R.q 24 (.conv .i64 (R.t 23)),
    R.q 25 (.bin .rem .no (R.t 24) (R.i 512)),
    R.q 26 (.mov (R.t 2)),
    R.q 27 (.conv .i64 (R.t 26)),
    R.q 28 (.bin .rem .no (R.t 27) (R.i 512)),
    R.q 29 (.bin .eql .no (R.t 25) (R.t 28)),
    R.q 30 (.bin .eql .bool (R.t 22) (R.t 29)),
    R.q 31 (.mov (R.t 30)),
    R.g 32 (.loadA 14 (R.t 8)) 31 true,
    R.g 33 (.call 39 [(R.t 32), (R.i 1)]) 31 true,
    R.q 34 (.pick (R.t 31) (R.t 33) R.ff),
    R.q 35 (.mov (R.t 34)),
    R.g 36 (.loadA 14 (R.t 7)) 35 true,
    R.g 37 (.loadA 14 (R.t 8)) 35 true,
    R.g 38 (.call 42 [(R.t 36), (R.t 37)]) 35 true,
    R.g 39 (.un .not (R.t 38)) 35 true,
    R.q 40 (.pick (R.t 35) (R.t 39) R.ff),
    R.q 41 (.mov (R.t 40)),
    R.g 42 (.call 40 []) 41 true,
    R.q 43 (.pick (R.t 41) (R.t 42) R.ff),
    R.q 6 (.mov (R.t 43))])
  .ret))))))
def l14_MetaLists.rs : List RRes := [.tmp 6]
theorem l14_MetaLists.of {xs : List AV} {d : Nat} {B : BL} {K : ARes → BL → Prop} (hn : xs.length = 3) (hB : onlyOuter B = true) (h : awp ⟨PT, 44, exitX l14_MetaLists.rs K⟩ 10000 [.code l14_MetaLists.rc] ⟨params 0 xs, B, .nil⟩) : CallAt PT l14_MetaLists xs d B K :=
  call_of_awp 10000 Try.func12 rfl (by kernel_rfl) (by kernel_rfl) (by kernel_rfl) (by rw [hn]; decide) hB h

/-! gripsack/meta.May -/
abbrev meta_May : Nat := 39
def meta_May.rc : RC :=
  (.seq (.reg [R.q 2 (.box (R.t 0)),
    R.q 4 (.alloc (.cons .ff .nil))])
  (.seq (.reg [R.q 5 (.mkfn (.func 74) [] [(R.t 4)]),
    R.e (.defer (R.t 5) [])])
  (.seq (.reg [R.q 6 (.loadA 14 (R.t 2)),
    R.q 7 (.mov (R.t 1)),
    R.q 8 (.call 75 [(R.t 6), (R.t 7)])])
  (.seq (.reg [R.e (.store 1 (R.t 4) R.tt)])
  .ret))))
def meta_May.rs : List RRes := [.cell1 4]
theorem meta_May.of {xs : List AV} {d : Nat} {B : BL} {K : ARes → BL → Prop} (hn : xs.length = 2) (hB : onlyOuter B = true) (h : awp ⟨PT, 9, exitD PT meta_May.rs K⟩ 10000 [.code meta_May.rc] ⟨params 0 xs, B, .nil⟩) : CallAt PT meta_May xs d B K :=
  call_of_awp_d 10000 Try.func39 rfl (by kernel_rfl) (by kernel_rfl) (by kernel_rfl) (by rw [hn]; decide) hB h

/-! gripsack/gripsacklaw14.awake -/
abbrev l14_awake : Nat := 40
def l14_awake.rc : RC :=
  (.seq (.reg [R.q 0 (.mov R.ff)])
  (.seq (.reg [R.q 1 (.call 43 [(R.i 420), (R.i 0), (R.i 0)]),
    R.q 2 (.call 39 [(R.t 1), (R.i 1)]),
    R.q 3 (.mov (R.t 2)),
    R.g 4 (.build (.cons (R.z 0) (.cons (R.z 0) (.cons (R.z 0) (.cons (R.z 0) (.cons (R.z 0) (.cons .nsl (.cons .nsl (.cons .nsl (.cons (R.z 0) (.cons (.int .u64 fun _ => 0) (.cons (.int .u64 fun _ => 0) (.cons .ff (.cons (R.z 0) (.cons (R.z 0) .nil)))))))))))))) []) 3 true,
    R.g 5 (.call 39 [(R.t 4), (R.i 2)]) 3 true,
    R.g 6 (.un .not (R.t 5)) 3 true,
    R.q 7 (.pick (R.t 3) (R.t 6) R.ff),
    R.q 0 (.mov (R.t 7))])
  .ret))
def l14_awake.rs : List RRes := [.tmp 0]
theorem l14_awake.of {xs : List AV} {d : Nat} {B : BL} {K : ARes → BL → Prop} (hn : xs.length = 0) (hB : onlyOuter B = true) (h : awp ⟨PT, 8, exitX l14_awake.rs K⟩ 10000 [.code l14_awake.rc] ⟨params 0 xs, B, .nil⟩) : CallAt PT l14_awake xs d B K :=
  call_of_awp 10000 Try.func40 rfl (by kernel_rfl) (by kernel_rfl) (by kernel_rfl) (by rw [hn]; decide) hB h

/-! gripsack/meta.Same -/
abbrev meta_Same : Nat := 42
def meta_Same.rc : RC :=
  (.seq (.reg [R.q 2 (.box (R.t 0)),
    R.q 3 (.box (R.t 1)),
    R.q 4 (.mov R.ff)])
  (.seq (.reg [R.q 6 (.fld 5 (R.t 2)),
    R.q 7 (.load1 (R.t 6)),
    R.q 8 (.fld 5 (R.t 3)),
    R.q 9 (.load1 (R.t 8)),
    R.q 10 (.call 77 [(R.t 7), (R.t 9)]),
    R.q 11 (.mov (R.t 10)),
    R.g 12 (.fld 6 (R.t 2)) 11 true,
    R.g 13 (.load1 (R.t 12)) 11 true,
    R.g 14 (.fld 6 (R.t 3)) 11 true,
    R.g 15 (.load1 (R.t 14)) 11 true,
    R.g 16 (.call 77 [(R.t 13), (R.t 15)]) 11 true,
    R.q 17 (.pick (R.t 11) (R.t 16) R.ff),
    R.q 18 (.mov (R.t 17)),
    R.g 19 (.fld 7 (R.t 2)) 18 true,
    R.g 20 (.load1 (R.t 19)) 18 true,
    R.g 21 (.fld 7 (R.t 3)) 18 true,
    R.g 22 (.load1 (R.t 21)) 18 true,
    R.g 23 (.call 78 [(R.t 20), (R.t 22)]) 18 true,
    R.q 24 (.pick (R.t 18) (R.t 23) R.ff),
    R.q 5 (.mov (R.t 24))])
  (.seq (.reg [R.q 25 (.mov (R.t 5)),
    R.q 26 (.mov (R.t 25)),
    R.g 27 (.fld 0 (R.t 2)) 26 true,
    R.g 28 (.load1 (R.t 27)) 26 true,
    R.g 29 (.fld 0 (R.t 3)) 26 true,
    R.g 30 (.load1 (R.t 29)) 26 true,
    R.g 31 (.bin .eql .no (R.t 28) (R.t 30)) 26 true,
    R.q 32 (.pick (R.t 26) (R.t 31) R.ff),
    R.q 33 (.mov (R.t 32)),
    R.g 34 (.fld 1 (R.t 2)) 33 true,
    R.g 35 (.load1 (R.t 34)) 33 true,
    R.g 36 (.fld 1 (R.t 3)) 33 true,
    R.g 37 (.load1 (R.t 36)) 33 true,
    R.g 38 (.bin .eql .no (R.t 35) (R.t 37)) 33 true,
    R.q 39 (.pick (R.t 33) (R.t 38) R.ff),
    R.q 40 (.mov (R.t 39)),
    R.g 41 (.fld 2 (R.t 2)) 40 true,
    R.g 42 (.load1 (R.t 41)) 40 true,
    R.g 43 (.fld 2 (R.t 3)) 40 true,
    R.g 44 (.load1 (R.t 43)) 40 true,
    R.g 45 (.bin .eql .no (R.t 42) (R.t 44)) 40 true,
    R.q 46 (.pick (R.t 40) (R.t 45) R.ff),
    R.q 47 (.mov (R.t 46)),
    R.g 48 (.fld 3 (R.t 2)) 47 true,
    R.g 49 (.loadA 2 (R.t 48)) 47 true,
    R.g 50 (.fld 3 (R.t 3)) 47 true,
    R.g 51 (.loadA 2 (R.t 50)) 47 true,
    R.g 52 (.bin .eql (.agg [.i .i64, .i .i64]) (R.t 49) (R.t 51)) 47 true,
    R.q 53 (.pick (R.t 47) (R.t 52) R.ff),
    R.q 54 (.mov (R.t 53)),
    R.g 55 (.fld 8 (R.t 2)) 54 true,
    R.g 56 (.loadA 5 (R.t 55)) 54 true,
    R.g 57 (.fld 8 (R.t 3)) 54 true,
    R.g 58 (.loadA 5 (R.t 57)) 54 true,
    R.g 59 (.bin .eql (.agg [.i .i64, .i .u64, .i .u64, .b, .i .i64]) (R.t 56) (R.t 58)) 54 true,
    R.q 60 (.pick (R.t 54) (R.t 59) R.ff),
    R.q 61 (.mov (R.t 60)),
    R.g 62 (.fld 13 (R.t 2)) 61 true,
    R.g 63 (.load1 (R.t 62)) 61 true,
    R.g 64 (.fld 13 (R.t 3)) 61 true,
    R.g 65 (.load1 (R.t 64)) 61 true,
    R.g 66 (.bin .eql .no (R.t 63) (R.t 65)) 61 true,
    R.q 67 (.pick (R.t 61) (R.t 66) R.ff),
    R.q 4 (.mov (R.t 67))])
  .ret)))
def meta_Same.rs : List RRes := [.tmp 4]
theorem meta_Same.of {xs : List AV} {d : Nat} {B : BL} {K : ARes → BL → Prop} (hn : xs.length = 2) (hB : onlyOuter B = true) (h : awp ⟨PT, 68, exitX meta_Same.rs K⟩ 10000 [.code meta_Same.rc] ⟨params 0 xs, B, .nil⟩) : CallAt PT meta_Same xs d B K :=
  call_of_awp 10000 Try.func42 rfl (by kernel_rfl) (by kernel_rfl) (by kernel_rfl) (by rw [hn]; decide) hB h

/-! gripsack/meta.Plain -/
abbrev meta_Plain : Nat := 43
def meta_Plain.rc : RC :=
  (.seq (.reg [R.q 6 (.alloc (.cons (R.z 0) (.cons (R.z 0) (.cons (R.z 0) (.cons (R.z 0) (.cons (R.z 0) (.cons .nsl (.cons .nsl (.cons .nsl (.cons (R.z 0) (.cons (.int .u64 fun _ => 0) (.cons (.int .u64 fun _ => 0) (.cons .ff (.cons (R.z 0) (.cons (R.z 0) .nil)))))))))))))))])
  (.seq (.reg [R.q 7 (.mov (R.t 0)),
    R.q 8 (.mov (R.t 1)),
    R.q 9 (.mov (R.t 2)),
    R.q 10 (.build (.cons (R.z 0) (.cons (R.z 0) (.cons (R.z 0) (.cons (R.z 0) (.cons (R.z 0) (.cons .nsl (.cons .nsl (.cons .nsl (.cons (R.z 0) (.cons (.int .u64 fun _ => 0) (.cons (.int .u64 fun _ => 0) (.cons .ff (.cons (R.z 0) (.cons (R.z 0) .nil)))))))))))))) [(0, 1, (R.t 7)), (1, 1, (R.t 8)), (2, 1, (R.t 9))]),
    R.e (.store 14 (R.t 6) (R.t 10))])
  .ret))
def meta_Plain.rs : List RRes := [.cellA 6 14]
theorem meta_Plain.of {xs : List AV} {d : Nat} {B : BL} {K : ARes → BL → Prop} (hn : xs.length = 3) (hB : onlyOuter B = true) (h : awp ⟨PT, 11, exitX meta_Plain.rs K⟩ 10000 [.code meta_Plain.rc] ⟨params 0 xs, B, .nil⟩) : CallAt PT meta_Plain xs d B K :=
  call_of_awp 10000 Try.func43 rfl (by kernel_rfl) (by kernel_rfl) (by kernel_rfl) (by rw [hn]; decide) hB h

/-! gripsack/meta.May$1 -/
abbrev meta_May_1 : Nat := 74
def meta_May_1.rc : RC :=
  (.seq (.reg [R.q 5 (.mov (R.t 1)),
    R.q 6 (.bin .neq (.ifc true) (R.t 5) (.val .nif))])
  (.cond (R.t 6)
    (.seq (.seq (.reg [R.q 8 (.mov (R.t 1)),
      R.q 9 (.assert 110 (.agg (.cons (.str fun _ => []) .nil)) (R.t 8)),
      R.q 7 (.mov (R.t 9)),
      R.q 10 (.ext 0 (R.t 7)),
      R.q 11 (.ext 1 (R.t 7)),
      R.q 2 (.alloc (.cons (.str fun _ => []) .nil)),
      R.e (.store 1 (R.t 2) (R.t 10)),
      R.q 3 (.mov (R.t 11))])
    (.seq (.reg [R.q 12 (.mov (R.t 3)),
      R.q 13 (.un .not (R.t 12))])
    (.cond (R.t 13)
      (.reg [R.q 14 (.mov (R.t 1)),
        R.e (.panic (R.t 14))])
      .skip)))
    (.reg [R.e (.store 1 (R.t 0) R.ff)]))
    .skip))
def meta_May_1.rs : List RRes := []
theorem meta_May_1.of {pn : Bool} {pv : AV} {xs : List AV} {B : BL} {K : BL → Prop} (hn : xs.length = 1) (hB : onlyOuter B = true) (hpv : pn = false → pv = .nif) (h : awp ⟨PT, 15, exitC K⟩ 10000 [.code meta_May_1.rc] ⟨.cons 1 pv (.cons 4 pv (params 0 xs)), B, .nil⟩) : DefAt PT meta_May_1 pn (pv :: xs) B K :=
  def_of_awp 10000 Try.func74 rfl (by kernel_rfl) (by kernel_rfl) rfl (by rw [hn]; decide) (by decide) (by decide) hB hpv h

/-! gripsack/meta.look -/
abbrev meta_look : Nat := 75
def meta_look.rc : RC :=
  (.seq (.reg [R.q 2 (.box (R.t 0))])
  (.seq (.reg [R.q 4 (.mov (R.t 1)),
    R.q 5 (.bin .eql .no (R.t 4) (R.i 1)),
    R.q 6 (.mov (R.t 5)),
    R.g 7 (.mov (R.t 1)) 6 false,
    R.g 8 (.bin .geq .no (R.t 7) (R.i 3)) 6 false,
    R.g 9 (.mov (R.t 8)) 6 false,
    R.g 10 (.mov (R.t 1)) 9 true,
    R.g 11 (.bin .leq .no (R.t 10) (R.i 7)) 9 true,
    R.g 12 (.pick (R.t 9) (R.t 11) R.ff) 6 false,
    R.q 13 (.pick (R.t 6) R.tt (R.t 12)),
    R.q 14 (.call 109 [(R.t 13), (.val (.str fun _ => [107, 105, 110, 100]))])])
  (.seq (.reg [R.q 15 (.fld 0 (R.t 2)),
    R.q 16 (.load1 (R.t 15)),
    R.q 17 (.bin .geq .no (R.t 16) (R.i 0)),
    R.q 18 (.mov (R.t 17)),
    R.g 19 (.fld 0 (R.t 2)) 18 true,
    R.g 20 (.load1 (R.t 19)) 18 true,
    R.g 21 (.bin .leq .no (R.t 20) (R.i 4095)) 18 true,
    R.q 22 (.pick (R.t 18) (R.t 21) R.ff),
    R.q 23 (.call 109 [(R.t 22), (.val (.str fun _ => [109, 111, 100, 101]))])])
  (.seq (.reg [R.q 24 (.fld 1 (R.t 2)),
    R.q 25 (.load1 (R.t 24)),
    R.q 26 (.bin .geq .no (R.t 25) (R.i 0)),
    R.q 27 (.mov (R.t 26)),
    R.g 28 (.fld 1 (R.t 2)) 27 true,
    R.g 29 (.load1 (R.t 28)) 27 true,
    R.g 30 (.bin .leq .no (R.t 29) (R.i 2147483647)) 27 true,
    R.q 31 (.pick (R.t 27) (R.t 30) R.ff),
    R.q 32 (.mov (R.t 31)),
    R.g 33 (.fld 2 (R.t 2)) 32 true,
    R.g 34 (.load1 (R.t 33)) 32 true,
    R.g 35 (.bin .geq .no (R.t 34) (R.i 0)) 32 true,
    R.q 36 (.pick (R.t 32) (R.t 35) R.ff),
    R.q 37 (.mov (R.t 36)),
    R.g 38 (.fld 2 (R.t 2)) 37 true,
    R.g 39 (.load1 (R.t 38)) 37 true,
    R.g 40 (.bin .leq .no (R.t 39) (R.i 2147483647)) 37 true,
    R.q 41 (.pick (R.t 37) (R.t 40) R.ff),
    R.q 42 (.call 109 [(R.t 41), (.val (.str fun _ => [111, 119, 110, 101, 114]))])])
  (.seq (.reg [R.q 43 (.fld 3 (R.t 2)),
    R.q 44 (.loadA 2 (R.t 43)),
    R.q 45 (.call 110 [(R.t 44)]),
    R.q 46 (.mov (R.t 45)),
    R.g 47 (.fld 13 (R.t 2)) 46 true,
    R.g 48 (.load1 (R.t 47)) 46 true,
    R.g 49 (.call 111 [(R.t 48)]) 46 true,
    R.q 50 (.pick (R.t 46) (R.t 49) R.ff),
    R.q 51 (.mov (R.t 50)),
    R.g 52 (.fld 7 (R.t 2)) 51 true,
    R.g 53 (.load1 (R.t 52)) 51 true,
    R.g 54 (.call 112 [(R.t 53)]) 51 true,
    R.q 55 (.pick (R.t 51) (R.t 54) R.ff),
    R.q 56 (.call 109 [(R.t 55), (.val (.str fun _ => [116, 105, 109, 101, 115, 44, 32, 102, 108, 97, 103, 115, 44, 32, 110, 97, 109, 101, 115]))])])
  (.seq (.regd [R.f (R.q 57 (.fld 5 (R.t 2))),
    R.f (R.q 58 (.load1 (R.t 57))),
    R.f (R.q 59 (.len (R.t 58))),
    R.f (R.q 60 (.bin .eql .no (R.t 59) (R.i 0))),
    R.f (R.q 61 (.mov (R.t 60))),
    R.f (R.g 62 (.fld 5 (R.t 2)) 61 false),
    R.f (R.g 63 (.load1 (R.t 62)) 61 false),
    R.s (R.g 64 (.call 113 [(R.t 63)]) 61 false) [],
    R.f (R.g 65 (.mov (R.t 64)) 61 false),
    R.f (R.g 66 (.fld 5 (R.t 2)) 65 true),
    R.f (R.g 67 (.load1 (R.t 66)) 65 true),
    R.f (R.g 69 (.fld 0 (R.t 2)) 65 true),
    R.f (R.g 70 (.load1 (R.t 69)) 65 true),
    R.f (R.g 71 (.bin .and .no (R.t 70) (R.i 511)) 65 true),
    R.s (R.g 68 (.call 114 [(R.t 67)]) 65 true) [11, 12, 13],
    R.f (R.g 72 (.bin .eql .no (R.t 68) (R.t 71)) 65 true),
    R.f (R.g 73 (.pick (R.t 65) (R.t 72) R.ff) 61 false),
    R.f (R.q 74 (.pick (R.t 61) R.tt (R.t 73))),
    R.s (R.q 75 (.call 109 [(R.t 74), (.val (.str fun _ => [108, 105, 115, 116]))])) []])
  (.seq (.reg [R.q 76 (.fld 6 (R.t 2)),
    R.q 77 (.load1 (R.t 76)),
    R.q 78 (.len (R.t 77)),
    R.q 79 (.bin .eql .no (R.t 78) (R.i 0)),
    R.q 80 (.mov (R.t 79)),
    R.g 81 (.mov (R.t 1)) 80 false,
    R.g 82 (.bin .eql .no (R.t 81) (R.i 6)) 80 false,
    R.g 83 (.mov (R.t 82)) 80 false,
    R.g 84 (.fld 6 (R.t 2)) 83 true,
    R.g 85 (.load1 (R.t 84)) 83 true,
    R.g 86 (.call 113 [(R.t 85)]) 83 true,
    R.g 87 (.pick (R.t 83) (R.t 86) R.ff) 80 false,
    R.q 88 (.pick (R.t 80) R.tt (R.t 87)),
    R.q 89 (.call 109 [(R.t 88), (.val (.str fun _ => [100, 101, 102, 97, 117, 108, 116]))])])
  (.seq (.reg [R.q 90 (.fld 8 (R.t 2)),
    R.q 91 (.loadA 5 (R.t 90)),
    R.q 92 (.call 115 [(R.t 91)]),
    R.q 93 (.mov (R.t 92)),
    R.g 94 (.mov (R.t 1)) 93 true,
    R.g 95 (.bin .eql .no (R.t 94) (R.i 1)) 93 true,
    R.g 96 (.mov (R.t 95)) 93 true,
    R.g 97 (.fld 8 (R.t 2)) 96 false,
    R.g 98 (.loadA 5 (R.t 97)) 96 false,
    R.g 99 (.build (.cons (R.z 0) (.cons (.int .u64 fun _ => 0) (.cons (.int .u64 fun _ => 0) (.cons .ff (.cons (R.z 0) .nil))))) []) 96 false,
    R.g 100 (.bin .eql (.agg [.i .i64, .i .u64, .i .u64, .b, .i .i64]) (R.t 98) (R.t 99)) 96 false,
    R.g 101 (.pick (R.t 96) R.tt (R.t 100)) 93 true,
    R.q 102 (.pick (R.t 93) (R.t 101) R.ff),
    R.q 103 (.call 109 [(R.t 102), (.val (.str fun _ => [99, 97, 112, 115]))])])
  (.reg [R.q 104 (.mov (R.t 1)),
    R.q 105 (.bin .neq .no (R.t 104) (R.i 3)),
    R.q 106 (.mov (R.t 105)),
    R.g 107 (.fld 0 (R.t 2)) 106 false,
    R.g 108 (.load1 (R.t 107)) 106 false,
    R.g 109 (.bin .eql .no (R.t 108) (R.i 511)) 106 false,
    R.g 110 (.mov (R.t 109)) 106 false,
    R.g 111 (.fld 5 (R.t 2)) 110 true,
    R.g 112 (.load1 (R.t 111)) 110 true,
    R.g 113 (.len (R.t 112)) 110 true,
    R.g 114 (.bin .eql .no (R.t 113) (R.i 0)) 110 true,
    R.g 115 (.pick (R.t 110) (R.t 114) R.ff) 106 false,
    R.g 116 (.mov (R.t 115)) 106 false,
    R.g 117 (.fld 13 (R.t 2)) 116 true,
    R.g 118 (.load1 (R.t 117)) 116 true,
    R.g 119 (.bin .eql .no (R.t 118) (R.i 0)) 116 true,
    R.g 120 (.pick (R.t 116) (R.t 119) R.ff) 106 false,
    R.q 121 (.pick (R.t 106) R.tt (R.t 120)),
    R.q 122 (.call 109 [(R.t 121), (.val (.str fun _ => [108, 105, 110, 107]))])])))))))))
def meta_look.rs : List RRes := []
theorem meta_look.of {xs : List AV} {d : Nat} {B : BL} {K : ARes → BL → Prop} (hn : xs.length = 2) (hB : onlyOuter B = true) (h : awp ⟨PT, 123, exitX meta_look.rs K⟩ 10000 [.code meta_look.rc] ⟨params 0 xs, B, .nil⟩) : CallAt PT meta_look xs d B K :=
  call_of_awp 10000 Try.func75 rfl (by kernel_rfl) (by kernel_rfl) (by kernel_rfl) (by rw [hn]; decide) hB h

/-! gripsack/acl.Same -/
abbrev acl_Same : Nat := 77
def acl_Same.rc : RC :=
  (.seq (.reg [R.q 4 (.mov R.ff)])
  (.seq (.reg [R.q 5 (.mov (R.t 0)),
    R.q 6 (.mov (R.t 1)),
    R.q 7 (.call 116 [(R.t 5), (R.t 6)]),
    R.q 4 (.mov (R.t 7))])
  .ret))
def acl_Same.rs : List RRes := [.tmp 4]
theorem acl_Same.of {xs : List AV} {d : Nat} {B : BL} {K : ARes → BL → Prop} (hn : xs.length = 2) (hB : onlyOuter B = true) (h : awp ⟨PT, 8, exitX acl_Same.rs K⟩ 10000 [.code acl_Same.rc] ⟨params 0 xs, B, .nil⟩) : CallAt PT acl_Same xs d B K :=
  call_of_awp 10000 Try.func77 rfl (by kernel_rfl) (by kernel_rfl) (by kernel_rfl) (by rw [hn]; decide) hB h

/-! gripsack/xattr.Same -/
abbrev xattr_Same : Nat := 78
def xattr_Same.rc : RC :=
  (.seq (.reg [R.q 4 (.mov R.ff)])
  (.seq (.reg [R.q 5 (.mov (R.t 0)),
    R.q 6 (.mov (R.t 1)),
    R.q 7 (.call 117 [(R.t 5), (R.t 6)]),
    R.q 4 (.mov (R.t 7))])
  .ret))
def xattr_Same.rs : List RRes := [.tmp 4]
theorem xattr_Same.of {xs : List AV} {d : Nat} {B : BL} {K : ARes → BL → Prop} (hn : xs.length = 2) (hB : onlyOuter B = true) (h : awp ⟨PT, 8, exitX xattr_Same.rs K⟩ 10000 [.code xattr_Same.rc] ⟨params 0 xs, B, .nil⟩) : CallAt PT xattr_Same xs d B K :=
  call_of_awp 10000 Try.func78 rfl (by kernel_rfl) (by kernel_rfl) (by kernel_rfl) (by rw [hn]; decide) hB h

/-! gripsack/meta.must -/
abbrev meta_must : Nat := 109
def meta_must.rc : RC :=
  (.seq (.reg [R.q 4 (.mov (R.t 0)),
    R.q 5 (.un .not (R.t 4))])
  (.cond (R.t 5)
    (.reg [R.q 6 (.mov (R.t 1)),
      R.q 7 (.build (.cons (.str fun _ => []) .nil) [(0, 1, (R.t 6))]),
      R.q 8 (.mkif 110 (R.t 7)),
      R.e (.panic (R.t 8))])
    .skip))
def meta_must.rs : List RRes := []
theorem meta_must.of {xs : List AV} {d : Nat} {B : BL} {K : ARes → BL → Prop} (hn : xs.length = 2) (hB : onlyOuter B = true) (h : awp ⟨PT, 9, exitX meta_must.rs K⟩ 10000 [.code meta_must.rc] ⟨params 0 xs, B, .nil⟩) : CallAt PT meta_must xs d B K :=
  call_of_awp 10000 Try.func109 rfl (by kernel_rfl) (by kernel_rfl) (by kernel_rfl) (by rw [hn]; decide) hB h

/-! gripsack/stamp.May -/
abbrev stamp_May : Nat := 110
def stamp_May.rc : RC :=
  (.seq (.reg [R.q 1 (.box (R.t 0)),
    R.q 2 (.mov R.ff)])
  (.seq (.reg [R.q 3 (.fld 0 (R.t 1)),
    R.q 4 (.load1 (R.t 3)),
    R.q 5 (.bin .geq .no (R.t 4) (R.i (-1099511627776))),
    R.q 6 (.mov (R.t 5)),
    R.g 7 (.fld 0 (R.t 1)) 6 true,
    R.g 8 (.load1 (R.t 7)) 6 true,
    R.g 9 (.bin .leq .no (R.t 8) (R.i 1099511627776)) 6 true,
    R.q 10 (.pick (R.t 6) (R.t 9) R.ff),
    R.q 11 (.mov (R.t 10)),
    R.g 12 (.fld 1 (R.t 1)) 11 true,
    R.g 13 (.load1 (R.t 12)) 11 true,
    R.g 14 (.bin .geq .no (R.t 13) (R.i 0)) 11 true,
    R.q 15 (.pick (R.t 11) (R.t 14) R.ff),
    R.q 16 (.mov (R.t 15)),
    R.g 17 (.fld 1 (R.t 1)) 16 true,
    R.g 18 (.load1 (R.t 17)) 16 true,
    R.g 19 (.bin .lss .no (R.t 18) (R.i 1000000000)) 16 true,
    R.q 20 (.pick (R.t 16) (R.t 19) R.ff),
    R.q 2 (.mov (R.t 20))])
  .ret))
def stamp_May.rs : List RRes := [.tmp 2]
theorem stamp_May.of {xs : List AV} {d : Nat} {B : BL} {K : ARes → BL → Prop} (hn : xs.length = 1) (hB : onlyOuter B = true) (h : awp ⟨PT, 21, exitX stamp_May.rs K⟩ 10000 [.code stamp_May.rc] ⟨params 0 xs, B, .nil⟩) : CallAt PT stamp_May xs d B K :=
  call_of_awp 10000 Try.func110 rfl (by kernel_rfl) (by kernel_rfl) (by kernel_rfl) (by rw [hn]; decide) hB h

/-! gripsack/flags.May -/
abbrev flags_May : Nat := 111
def flags_May.rc : RC :=
  (.seq (.reg [R.q 2 (.mov R.ff)])
  (.seq (.reg [R.q 3 (.mov (R.t 0)),
    R.q 4 (.bin .geq .no (R.t 3) (R.i 0)),
    R.q 5 (.mov (R.t 4)),
    R.g 6 (.mov (R.t 0)) 5 true,
    R.g 7 (.call 129 []) 5 true,
    R.g 8 (.len (R.t 7)) 5 true,
    R.g 9 (.bin .shl .no (R.i 1) (R.t 8)) 5 true,
    R.g 10 (.bin .lss .no (R.t 6) (R.t 9)) 5 true,
    R.q 11 (.pick (R.t 5) (R.t 10) R.ff),
    R.q 2 (.mov (R.t 11))])
  .ret))
def flags_May.rs : List RRes := [.tmp 2]
theorem flags_May.of {xs : List AV} {d : Nat} {B : BL} {K : ARes → BL → Prop} (hn : xs.length = 1) (hB : onlyOuter B = true) (h : awp ⟨PT, 12, exitX flags_May.rs K⟩ 10000 [.code flags_May.rc] ⟨params 0 xs, B, .nil⟩) : CallAt PT flags_May xs d B K :=
  call_of_awp 10000 Try.func111 rfl (by kernel_rfl) (by kernel_rfl) (by kernel_rfl) (by rw [hn]; decide) hB h

/-! gripsack/xattr.May -/
abbrev xattr_May : Nat := 112
def xattr_May.rc : RC :=
  (.seq (.reg [R.q 2 (.mov R.ff)])
  (.seq (.seq (.reg [R.q 5 (.mov (R.t 0)),
    R.q 6 (.len (R.t 5)),
    R.q 7 (.mov (R.i 0))])
  (.block 0 (.loop
     (.seq (.reg [R.q 8 (.bin .lss .no (R.t 7) (R.t 6))])
     (.seq (.cond (R.t 8)
       .skip
       (.exit 0))
     (.seq (.block 1 (.seq (.reg [R.q 9 (.mov (R.t 7)),
        R.q 10 (.idx 2 (R.t 5) (R.t 7)),
        R.q 11 (.loadA 2 (R.t 10)),
        R.q 4 (.alloc (.cons (.str fun _ => []) (.cons (.str fun _ => []) .nil))),
        R.q 3 (.mov (R.t 9)),
        R.e (.store 2 (R.t 4) (R.t 11))])
      (.seq (.regd [R.f (R.q 12 (.loadA 2 (R.t 4))),
        R.s (R.q 13 (.call 130 [(R.t 12)])) [],
        R.f (R.q 14 (.un .not (R.t 13))),
        R.f (R.q 15 (.mov (R.t 14))),
        R.f (R.g 16 (.mov (R.t 3)) 15 false),
        R.f (R.g 17 (.bin .gtr .no (R.t 16) (R.i 0)) 15 false),
        R.f (R.g 18 (.mov (R.t 17)) 15 false),
        R.f (R.g 19 (.fld 0 (R.t 4)) 18 true),
        R.f (R.g 20 (.load1 (R.t 19)) 18 true),
        R.f (R.g 21 (.mov (R.t 0)) 18 true),
        R.f (R.g 22 (.mov (R.t 3)) 18 true),
        R.f (R.g 23 (.bin .sub .no (R.t 22) (R.i 1)) 18 true),
        R.f (R.g 24 (.idx 2 (R.t 21) (R.t 23)) 18 true),
        R.f (R.g 25 (.fld 0 (R.t 24)) 18 true),
        R.f (R.g 26 (.load1 (R.t 25)) 18 true),
        R.f (R.g 27 (.bin .leq .no (R.t 20) (R.t 26)) 18 true),
        R.f (R.g 28 (.pick (R.t 18) (R.t 27) R.ff) 15 false),
        R.f (R.q 29 (.pick (R.t 15) R.tt (R.t 28)))])
      (.cond (R.t 29)
        (.seq (.reg [R.q 2 (.mov R.ff)])
        .ret)
        .skip))))
     (.reg [R.q 30 (.bin .add .no (R.t 7) (R.i 1)),
       R.q 7 (.mov (R.t 30))])))))))
  (.seq (.reg [R.q 31 (.mov (R.t 0)),
    R.q 32 (.len (R.t 31)),
    R.q 33 (.bin .leq .no (R.t 32) (R.i 32)),
    R.q 2 (.mov (R.t 33))])
  .ret)))
def xattr_May.rs : List RRes := [.tmp 2]
theorem xattr_May.of {xs : List AV} {d : Nat} {B : BL} {K : ARes → BL → Prop} (hn : xs.length = 1) (hB : onlyOuter B = true) (h : awp ⟨PT, 34, exitX xattr_May.rs K⟩ 10000 [.code xattr_May.rc] ⟨params 0 xs, B, .nil⟩) : CallAt PT xattr_May xs d B K :=
  call_of_awp 10000 Try.func112 rfl (by kernel_rfl) (by kernel_rfl) (by kernel_rfl) (by rw [hn]; decide) hB h

/-! gripsack/acl.May -/
abbrev acl_May : Nat := 113
def acl_May.rc : RC :=
  (.seq (.reg [R.q 2 (.mov R.ff)])
  (.seq (.reg [R.q 3 (.allocR 1 7 (.cons (R.z 0) (.cons (R.z 0) (.cons (R.z 0) (.cons (R.z 0) (.cons (R.z 0) (.cons (R.z 0) (.cons (R.z 0) .nil))))))))])
  (.seq (.reg [R.q 8 (.build (.cons (R.z 0) (.cons (R.z 0) (.cons (R.z 0) .nil))) []),
    R.q 4 (.alloc (.cons (R.z 0) (.cons (R.z 0) (.cons (R.z 0) .nil)))),
    R.e (.store 3 (R.t 4) (R.t 8))])
  (.seq (.seq (.reg [R.q 9 (.mov (R.t 0)),
    R.q 10 (.len (R.t 9)),
    R.q 11 (.mov (R.i 0))])
  (.block 0 (.loop
     (.seq (.reg [R.q 12 (.bin .lss .no (R.t 11) (R.t 10))])
     (.seq (.cond (R.t 12)
       .skip
       (.exit 0))
     (.seq (.block 1 (.seq (.reg [R.q 13 (.idx 3 (R.t 9) (R.t 11)),
        R.q 14 (.loadA 3 (R.t 13)),
        R.q 6 (.alloc (.cons (R.z 0) (.cons (R.z 0) (.cons (R.z 0) .nil)))),
        R.e (.store 3 (R.t 6) (R.t 14))])
      (.seq (.seq (.reg [R.q 15 (.fld 0 (R.t 6)),
        R.q 16 (.load1 (R.t 15)),
        R.q 17 (.bin .lss .no (R.t 16) (R.i 1)),
        R.q 18 (.mov (R.t 17)),
        R.g 19 (.fld 0 (R.t 6)) 18 false,
        R.g 20 (.load1 (R.t 19)) 18 false,
        R.g 21 (.bin .gtr .no (R.t 20) (R.i 6)) 18 false,
        R.q 22 (.pick (R.t 18) R.tt (R.t 21)),
        R.q 23 (.mov (R.t 22)),
        R.g 24 (.loadA 3 (R.t 6)) 23 false,
        R.g 25 (.call 131 [(R.t 24)]) 23 false,
        R.g 26 (.un .not (R.t 25)) 23 false,
        R.q 27 (.pick (R.t 23) R.tt (R.t 26)),
        R.q 28 (.mov (R.t 27)),
        R.g 29 (.fld 0 (R.t 6)) 28 false,
        R.g 30 (.load1 (R.t 29)) 28 false,
        R.g 31 (.fld 0 (R.t 4)) 28 false,
        R.g 32 (.load1 (R.t 31)) 28 false,
        R.g 33 (.bin .lss .no (R.t 30) (R.t 32)) 28 false,
        R.q 34 (.pick (R.t 28) R.tt (R.t 33)),
        R.q 35 (.mov (R.t 34)),
        R.g 36 (.fld 0 (R.t 6)) 35 false,
        R.g 37 (.load1 (R.t 36)) 35 false,
        R.g 38 (.fld 0 (R.t 4)) 35 false,
        R.g 39 (.load1 (R.t 38)) 35 false,
        R.g 40 (.bin .eql .no (R.t 37) (R.t 39)) 35 false,
        R.g 41 (.mov (R.t 40)) 35 false,
        R.g 42 (.fld 1 (R.t 6)) 41 true,
        R.g 43 (.load1 (R.t 42)) 41 true,
        R.g 44 (.fld 1 (R.t 4)) 41 true,
        R.g 45 (.load1 (R.t 44)) 41 true,
        R.g 46 (.bin .leq .no (R.t 43) (R.t 45)) 41 true,
        R.g 47 (.pick (R.t 41) (R.t 46) R.ff) 35 false,
        R.q 48 (.pick (R.t 35) R.tt (R.t 47))])
      (.cond (R.t 48)
        (.seq (.reg [R.q 2 (.mov R.ff)])
        .ret)
        .skip))
      (.seq (.reg [R.q 49 (.fld 0 (R.t 6)),
        R.q 50 (.load1 (R.t 49)),
        R.q 51 (.idxA 1 7 (R.t 3) (R.t 50)),
        R.q 52 (.load1 (R.t 51)),
        R.q 53 (.bin .add .no (R.t 52) (R.i 1)),
        R.q 54 (.idxA 1 7 (R.t 3) (R.t 50)),
        R.e (.store 1 (R.t 54) (R.t 53))])
      (.reg [R.q 55 (.loadA 3 (R.t 6)),
        R.e (.store 3 (R.t 4) (R.t 55))])))))
     (.reg [R.q 56 (.bin .add .no (R.t 11) (R.i 1)),
       R.q 11 (.mov (R.t 56))])))))))
  (.seq (.reg [R.q 57 (.idxA 1 7 (R.t 3) (R.i 2)),
    R.q 58 (.load1 (R.t 57)),
    R.q 59 (.idxA 1 7 (R.t 3) (R.i 4)),
    R.q 60 (.load1 (R.t 59)),
    R.q 61 (.bin .add .no (R.t 58) (R.t 60)),
    R.q 62 (.mm false [(R.i 1), (R.t 61)]),
    R.q 7 (.mov (R.t 62))])
  (.seq (.reg [R.q 63 (.idxA 1 7 (R.t 3) (R.i 1)),
    R.q 64 (.load1 (R.t 63)),
    R.q 65 (.bin .eql .no (R.t 64) (R.i 1)),
    R.q 66 (.mov (R.t 65)),
    R.g 67 (.idxA 1 7 (R.t 3) (R.i 3)) 66 true,
    R.g 68 (.load1 (R.t 67)) 66 true,
    R.g 69 (.bin .eql .no (R.t 68) (R.i 1)) 66 true,
    R.q 70 (.pick (R.t 66) (R.t 69) R.ff),
    R.q 71 (.mov (R.t 70)),
    R.g 72 (.idxA 1 7 (R.t 3) (R.i 6)) 71 true,
    R.g 73 (.load1 (R.t 72)) 71 true,
    R.g 74 (.bin .eql .no (R.t 73) (R.i 1)) 71 true,
    R.q 75 (.pick (R.t 71) (R.t 74) R.ff),
    R.q 76 (.mov (R.t 75)),
    R.g 77 (.idxA 1 7 (R.t 3) (R.i 5)) 76 true,
    R.g 78 (.load1 (R.t 77)) 76 true,
    R.g 79 (.mov (R.t 7)) 76 true,
    R.g 80 (.bin .eql .no (R.t 78) (R.t 79)) 76 true,
    R.q 81 (.pick (R.t 76) (R.t 80) R.ff),
    R.q 82 (.mov (R.t 81)),
    R.g 83 (.mov (R.t 0)) 82 true,
    R.g 84 (.len (R.t 83)) 82 true,
    R.g 85 (.bin .leq .no (R.t 84) (R.i 32)) 82 true,
    R.q 86 (.pick (R.t 82) (R.t 85) R.ff),
    R.q 2 (.mov (R.t 86))])
  .ret))))))
def acl_May.rs : List RRes := [.tmp 2]
theorem acl_May.of {xs : List AV} {d : Nat} {B : BL} {K : ARes → BL → Prop} (hn : xs.length = 1) (hB : onlyOuter B = true) (h : awp ⟨PT, 87, exitX acl_May.rs K⟩ 10000 [.code acl_May.rc] ⟨params 0 xs, B, .nil⟩) : CallAt PT acl_May xs d B K :=
  call_of_awp 10000 Try.func113 rfl (by kernel_rfl) (by kernel_rfl) (by kernel_rfl) (by rw [hn]; decide) hB h

/-! gripsack/acl.Mode -/
abbrev acl_Mode : Nat := 114
def acl_Mode.rc : RC :=
  (.seq (.reg [R.q 2 (.mov (R.i 0))])
  (.seq (.reg [R.q 4 (.mov (R.t 0)),
    R.q 5 (.call 132 [(R.t 4), (R.i 5)]),
    R.q 3 (.mov (R.t 5))])
  (.seq (.seq (.reg [R.q 6 (.mov (R.t 3)),
    R.q 7 (.bin .lss .no (R.t 6) (R.i 0))])
  (.cond (R.t 7)
    (.reg [R.q 8 (.mov (R.t 0)),
      R.q 9 (.call 132 [(R.t 8), (R.i 3)]),
      R.q 3 (.mov (R.t 9))])
    .skip))
  (.seq (.reg [R.q 10 (.mov (R.t 0)),
    R.q 11 (.call 132 [(R.t 10), (R.i 1)]),
    R.q 12 (.bin .shl .no (R.t 11) (.val (.int .u64 fun _ => 6))),
    R.q 13 (.mov (R.t 3)),
    R.q 14 (.bin .shl .no (R.t 13) (.val (.int .u64 fun _ => 3))),
    R.q 15 (.bin .or .no (R.t 12) (R.t 14)),
    R.q 16 (.mov (R.t 0)),
    R.q 17 (.call 132 [(R.t 16), (R.i 6)]),
    R.q 18 (.bin .or .no (R.t 15) (R.t 17)),
    R.q 2 (.mov (R.t 18))])
  .ret))))
def acl_Mode.rs : List RRes := [.tmp 2]
theorem acl_Mode.of {xs : List AV} {d : Nat} {B : BL} {K : ARes → BL → Prop} (hn : xs.length = 1) (hB : onlyOuter B = true) (h : awp ⟨PT, 19, exitX acl_Mode.rs K⟩ 10000 [.code acl_Mode.rc] ⟨params 0 xs, B, .nil⟩) : CallAt PT acl_Mode xs d B K :=
  call_of_awp 10000 Try.func114 rfl (by kernel_rfl) (by kernel_rfl) (by kernel_rfl) (by rw [hn]; decide) hB h

/-! gripsack/caps.May -/
abbrev caps_May : Nat := 115
def caps_May.rc : RC :=
  (.seq (.reg [R.q 1 (.box (R.t 0)),
    R.q 2 (.mov R.ff)])
  (.seq (.seq (.reg [R.q 3 (.fld 0 (R.t 1)),
    R.q 4 (.load1 (R.t 3))])
  (.block 0 (.seq (.reg [R.q 6 (.bin .eql .no (R.t 4) (R.i 0)),
     R.q 5 (.mov (R.t 6))])
   (.cond (R.t 5)
     (.seq (.reg [R.q 7 (.loadA 5 (R.t 1)),
       R.q 8 (.build (.cons (R.z 0) (.cons (.int .u64 fun _ => 0) (.cons (.int .u64 fun _ => 0) (.cons .ff (.cons (R.z 0) .nil))))) []),
       R.q 9 (.bin .eql (.agg [.i .i64, .i .u64, .i .u64, .b, .i .i64]) (R.t 7) (R.t 8)),
       R.q 2 (.mov (R.t 9))])
     .ret)
     (.seq (.reg [R.q 11 (.bin .eql .no (R.t 4) (R.i 2)),
       R.q 10 (.mov (R.t 11))])
     (.cond (R.t 10)
       (.seq (.reg [R.q 12 (.fld 4 (R.t 1)),
         R.q 13 (.load1 (R.t 12)),
         R.q 14 (.bin .eql .no (R.t 13) (R.i 0)),
         R.q 2 (.mov (R.t 14))])
       .ret)
       (.seq (.reg [R.q 16 (.bin .eql .no (R.t 4) (R.i 3)),
         R.q 15 (.mov (R.t 16))])
       (.cond (R.t 15)
         (.seq (.reg [R.q 17 (.fld 4 (R.t 1)),
           R.q 18 (.load1 (R.t 17)),
           R.q 19 (.bin .geq .no (R.t 18) (R.i 0)),
           R.q 20 (.mov (R.t 19)),
           R.g 21 (.fld 4 (R.t 1)) 20 true,
           R.g 22 (.load1 (R.t 21)) 20 true,
           R.g 23 (.bin .leq .no (R.t 22) (R.i 2147483647)) 20 true,
           R.q 24 (.pick (R.t 20) (R.t 23) R.ff),
           R.q 2 (.mov (R.t 24))])
         .ret)
         .skip))))))))
  (.seq (.reg [R.q 2 (.mov R.ff)])
  .ret)))
def caps_May.rs : List RRes := [.tmp 2]
theorem caps_May.of {xs : List AV} {d : Nat} {B : BL} {K : ARes → BL → Prop} (hn : xs.length = 1) (hB : onlyOuter B = true) (h : awp ⟨PT, 25, exitX caps_May.rs K⟩ 10000 [.code caps_May.rc] ⟨params 0 xs, B, .nil⟩) : CallAt PT caps_May xs d B K :=
  call_of_awp 10000 Try.func115 rfl (by kernel_rfl) (by kernel_rfl) (by kernel_rfl) (by rw [hn]; decide) hB h

/-! slices.Equal[[]gripsack/api.Ace,gripsack/api.Ace] -/
abbrev slices_Equal_api_Ace_api_Ace : Nat := 116
def slices_Equal_api_Ace_api_Ace.rc : RC :=
  (.seq (.reg [R.q 4 (.mov R.ff)])
  (.seq (.seq (.reg [R.q 6 (.mov (R.t 0)),
    R.q 7 (.len (R.t 6)),
    R.q 8 (.mov (R.t 1)),
    R.q 9 (.len (R.t 8)),
    R.q 10 (.bin .neq .no (R.t 7) (R.t 9))])
  (.cond (R.t 10)
    (.seq (.reg [R.q 4 (.mov R.ff)])
    .ret)
    .skip))
  (.seq (.seq (.reg [R.q 11 (.mov (R.t 0)),
    R.q 12 (.len (R.t 11)),
    R.q 13 (.mov (R.i 0))])
  (.block 0 (.loop
     (.seq (.reg [R.q 14 (.bin .lss .no (R.t 13) (R.t 12))])
     (.seq (.cond (R.t 14)
       .skip
       (.exit 0))
     (.seq (.block 1 (.seq (.reg [R.q 15 (.mov (R.t 13)),
        R.q 5 (.mov (R.t 15))])
      (.seq (.regd [R.f (R.q 16 (.mov (R.t 0))),
        R.f (R.q 17 (.mov (R.t 5))),
        R.f (R.q 18 (.idx 3 (R.t 16) (R.t 17))),
        R.f (R.q 19 (.loadA 3 (R.t 18))),
        R.f (R.q 20 (.mov (R.t 1))),
        R.f (R.q 21 (.mov (R.t 5))),
        R.f (R.q 22 (.idx 3 (R.t 20) (R.t 21))),
        R.f (R.q 23 (.loadA 3 (R.t 22))),
        R.f (R.q 24 (.bin .neq (.agg [.i .i64, .i .i64, .i .i64]) (R.t 19) (R.t 23)))])
      (.cond (R.t 24)
        (.seq (.reg [R.q 4 (.mov R.ff)])
        .ret)
        .skip))))
     (.reg [R.q 25 (.bin .add .no (R.t 13) (R.i 1)),
       R.q 13 (.mov (R.t 25))])))))))
  (.seq (.reg [R.q 4 (.mov R.tt)])
  .ret))))
def slices_Equal_api_Ace_api_Ace.rs : List RRes := [.tmp 4]
theorem slices_Equal_api_Ace_api_Ace.of {xs : List AV} {d : Nat} {B : BL} {K : ARes → BL → Prop} (hn : xs.length = 2) (hB : onlyOuter B = true) (h : awp ⟨PT, 26, exitX slices_Equal_api_Ace_api_Ace.rs K⟩ 10000 [.code slices_Equal_api_Ace_api_Ace.rc] ⟨params 0 xs, B, .nil⟩) : CallAt PT slices_Equal_api_Ace_api_Ace xs d B K :=
  call_of_awp 10000 Try.func116 rfl (by kernel_rfl) (by kernel_rfl) (by kernel_rfl) (by rw [hn]; decide) hB h

/-! slices.Equal[[]gripsack/api.Xattr,gripsack/api.Xattr] -/
abbrev slices_Equal_api_Xattr_api_Xattr : Nat := 117
def slices_Equal_api_Xattr_api_Xattr.rc : RC :=
  (.seq (.reg [R.q 4 (.mov R.ff)])
  (.seq (.seq (.reg [R.q 6 (.mov (R.t 0)),
    R.q 7 (.len (R.t 6)),
    R.q 8 (.mov (R.t 1)),
    R.q 9 (.len (R.t 8)),
    R.q 10 (.bin .neq .no (R.t 7) (R.t 9))])
  (.cond (R.t 10)
    (.seq (.reg [R.q 4 (.mov R.ff)])
    .ret)
    .skip))
  (.seq (.seq (.reg [R.q 11 (.mov (R.t 0)),
    R.q 12 (.len (R.t 11)),
    R.q 13 (.mov (R.i 0))])
  (.block 0 (.loop
     (.seq (.reg [R.q 14 (.bin .lss .no (R.t 13) (R.t 12))])
     (.seq (.cond (R.t 14)
       .skip
       (.exit 0))
     (.seq (.block 1 (.seq (.reg [R.q 15 (.mov (R.t 13)),
        R.q 5 (.mov (R.t 15))])
      (.seq (.regd [R.f (R.q 16 (.mov (R.t 0))),
        R.f (R.q 17 (.mov (R.t 5))),
        R.f (R.q 18 (.idx 2 (R.t 16) (R.t 17))),
        R.f (R.q 19 (.loadA 2 (R.t 18))),
        R.f (R.q 20 (.mov (R.t 1))),
        R.f (R.q 21 (.mov (R.t 5))),
        R.f (R.q 22 (.idx 2 (R.t 20) (R.t 21))),
        R.f (R.q 23 (.loadA 2 (R.t 22))),
        R.f (R.q 24 (.bin .neq (.agg [.s, .s]) (R.t 19) (R.t 23)))])
      (.cond (R.t 24)
        (.seq (.reg [R.q 4 (.mov R.ff)])
        .ret)
        .skip))))
     (.reg [R.q 25 (.bin .add .no (R.t 13) (R.i 1)),
       R.q 13 (.mov (R.t 25))])))))))
  (.seq (.reg [R.q 4 (.mov R.tt)])
  .ret))))
def slices_Equal_api_Xattr_api_Xattr.rs : List RRes := [.tmp 4]
theorem slices_Equal_api_Xattr_api_Xattr.of {xs : List AV} {d : Nat} {B : BL} {K : ARes → BL → Prop} (hn : xs.length = 2) (hB : onlyOuter B = true) (h : awp ⟨PT, 26, exitX slices_Equal_api_Xattr_api_Xattr.rs K⟩ 10000 [.code slices_Equal_api_Xattr_api_Xattr.rc] ⟨params 0 xs, B, .nil⟩) : CallAt PT slices_Equal_api_Xattr_api_Xattr xs d B K :=
  call_of_awp 10000 Try.func117 rfl (by kernel_rfl) (by kernel_rfl) (by kernel_rfl) (by rw [hn]; decide) hB h

/-! gripsack/flags.names -/
abbrev flags_names : Nat := 129
def flags_names.rc : RC :=
  (.seq (.reg [R.q 0 (.mov (.val .nsl))])
  (.seq (.reg [R.q 1 (.bslice 1 (.cons (.str fun _ => []) .nil) 4 [(0, 1, (.val (.str fun _ => [117, 99, 104, 103]))), (1, 1, (.val (.str fun _ => [117, 97, 112, 112, 110, 100]))), (2, 1, (.val (.str fun _ => [110, 111, 100, 117, 109, 112]))), (3, 1, (.val (.str fun _ => [111, 112, 97, 113, 117, 101])))]),
    R.q 0 (.mov (R.t 1))])
  .ret))
def flags_names.rs : List RRes := [.tmp 0]
theorem flags_names.of {xs : List AV} {d : Nat} {B : BL} {K : ARes → BL → Prop} (hn : xs.length = 0) (hB : onlyOuter B = true) (h : awp ⟨PT, 2, exitX flags_names.rs K⟩ 10000 [.code flags_names.rc] ⟨params 0 xs, B, .nil⟩) : CallAt PT flags_names xs d B K :=
  call_of_awp 10000 Try.func129 rfl (by kernel_rfl) (by kernel_rfl) (by kernel_rfl) (by rw [hn]; decide) hB h

/-! gripsack/xattr.may -/
abbrev xattr_may : Nat := 130
def xattr_may.rc : RC :=
  (.seq (.reg [R.q 1 (.box (R.t 0)),
    R.q 2 (.mov R.ff)])
  (.seq (.reg [R.q 3 (.fld 0 (R.t 1)),
    R.q 4 (.load1 (R.t 3)),
    R.q 5 (.bin .neq .no (R.t 4) (.val (.str fun _ => []))),
    R.q 6 (.mov (R.t 5)),
    R.g 7 (.fld 0 (R.t 1)) 6 true,
    R.g 8 (.load1 (R.t 7)) 6 true,
    R.g 9 (.call 135 [(R.t 8)]) 6 true,
    R.g 10 (.lenS (R.t 9)) 6 true,
    R.g 11 (.bin .leq .no (R.t 10) (R.i 238)) 6 true,
    R.q 12 (.pick (R.t 6) (R.t 11) R.ff),
    R.q 13 (.mov (R.t 12)),
    R.g 14 (.fld 0 (R.t 1)) 13 true,
    R.g 15 (.load1 (R.t 14)) 13 true,
    R.g 16 (.call 136 [(R.t 15), (.val (.str fun _ => [0]))]) 13 true,
    R.g 17 (.un .not (R.t 16)) 13 true,
    R.q 18 (.pick (R.t 13) (R.t 17) R.ff),
    R.q 19 (.mov (R.t 18)),
    R.g 20 (.fld 1 (R.t 1)) 19 true,
    R.g 21 (.load1 (R.t 20)) 19 true,
    R.g 22 (.lenS (R.t 21)) 19 true,
    R.g 23 (.bin .leq .no (R.t 22) (R.i 4096)) 19 true,
    R.q 24 (.pick (R.t 19) (R.t 23) R.ff),
    R.q 2 (.mov (R.t 24))])
  .ret))
def xattr_may.rs : List RRes := [.tmp 2]
theorem xattr_may.of {xs : List AV} {d : Nat} {B : BL} {K : ARes → BL → Prop} (hn : xs.length = 1) (hB : onlyOuter B = true) (h : awp ⟨PT, 25, exitX xattr_may.rs K⟩ 10000 [.code xattr_may.rc] ⟨params 0 xs, B, .nil⟩) : CallAt PT xattr_may xs d B K :=
  call_of_awp 10000 Try.func130 rfl (by kernel_rfl) (by kernel_rfl) (by kernel_rfl) (by rw [hn]; decide) hB h

/-! gripsack/acl.mayAce -/
abbrev acl_mayAce : Nat := 131
def acl_mayAce.rc : RC :=
  (.seq (.reg [R.q 1 (.box (R.t 0)),
    R.q 2 (.mov R.ff)])
  (.seq (.reg [R.q 3 (.fld 2 (R.t 1)),
    R.q 4 (.load1 (R.t 3)),
    R.q 5 (.bin .geq .no (R.t 4) (R.i 0)),
    R.q 6 (.mov (R.t 5)),
    R.g 7 (.fld 2 (R.t 1)) 6 true,
    R.g 8 (.load1 (R.t 7)) 6 true,
    R.g 9 (.bin .leq .no (R.t 8) (R.i 7)) 6 true,
    R.q 10 (.pick (R.t 6) (R.t 9) R.ff),
    R.q 11 (.mov (R.t 10)),
    R.g 12 (.fld 1 (R.t 1)) 11 true,
    R.g 13 (.load1 (R.t 12)) 11 true,
    R.g 14 (.bin .geq .no (R.t 13) (R.i 0)) 11 true,
    R.q 15 (.pick (R.t 11) (R.t 14) R.ff),
    R.q 16 (.mov (R.t 15)),
    R.g 17 (.fld 1 (R.t 1)) 16 true,
    R.g 18 (.load1 (R.t 17)) 16 true,
    R.g 19 (.bin .leq .no (R.t 18) (R.i 2147483647)) 16 true,
    R.q 20 (.pick (R.t 16) (R.t 19) R.ff),
    R.q 21 (.mov (R.t 20)),
    R.g 22 (.fld 1 (R.t 1)) 21 true,
    R.g 23 (.load1 (R.t 22)) 21 true,
    R.g 24 (.bin .eql .no (R.t 23) (R.i 0)) 21 true,
    R.g 25 (.mov (R.t 24)) 21 true,
    R.g 26 (.fld 0 (R.t 1)) 25 false,
    R.g 27 (.load1 (R.t 26)) 25 false,
    R.g 28 (.call 137 [(R.t 27)]) 25 false,
    R.g 29 (.pick (R.t 25) R.tt (R.t 28)) 21 true,
    R.q 30 (.pick (R.t 21) (R.t 29) R.ff),
    R.q 2 (.mov (R.t 30))])
  .ret))
def acl_mayAce.rs : List RRes := [.tmp 2]
theorem acl_mayAce.of {xs : List AV} {d : Nat} {B : BL} {K : ARes → BL → Prop} (hn : xs.length = 1) (hB : onlyOuter B = true) (h : awp ⟨PT, 31, exitX acl_mayAce.rs K⟩ 10000 [.code acl_mayAce.rc] ⟨params 0 xs, B, .nil⟩) : CallAt PT acl_mayAce xs d B K :=
  call_of_awp 10000 Try.func131 rfl (by kernel_rfl) (by kernel_rfl) (by kernel_rfl) (by rw [hn]; decide) hB h

/-! gripsack/acl.perm -/
abbrev acl_perm : Nat := 132
def acl_perm.rc : RC :=
  (.seq (.reg [R.q 3 (.box (R.t 1)),
    R.q 4 (.mov (R.i 0))])
  (.seq (.reg [R.q 6 (.mov (R.t 0)),
    R.q 7 (.mkfn (.func 139) [] [(R.t 3)]),
    R.q 8 (.call 138 [(R.t 6), (R.t 7)]),
    R.q 5 (.mov (R.t 8))])
  (.seq (.seq (.reg [R.q 9 (.mov (R.t 5)),
    R.q 10 (.bin .lss .no (R.t 9) (R.i 0))])
  (.cond (R.t 10)
    (.seq (.reg [R.q 4 (.mov (R.i (-1)))])
    .ret)
    .skip))
  (.seq (.reg [R.q 11 (.mov (R.t 0)),
    R.q 12 (.mov (R.t 5)),
    R.q 13 (.idx 3 (R.t 11) (R.t 12)),
    R.q 14 (.fld 2 (R.t 13)),
    R.q 15 (.load1 (R.t 14)),
    R.q 4 (.mov (R.t 15))])
  .ret))))
def acl_perm.rs : List RRes := [.tmp 4]
theorem acl_perm.of {xs : List AV} {d : Nat} {B : BL} {K : ARes → BL → Prop} (hn : xs.length = 2) (hB : onlyOuter B = true) (h : awp ⟨PT, 16, exitX acl_perm.rs K⟩ 10000 [.code acl_perm.rc] ⟨params 0 xs, B, .nil⟩) : CallAt PT acl_perm xs d B K :=
  call_of_awp 10000 Try.func132 rfl (by kernel_rfl) (by kernel_rfl) (by kernel_rfl) (by rw [hn]; decide) hB h

/-! gripsack/escape.Put -/
abbrev escape_Put : Nat := 135
def escape_Put.rc : RC :=
  (.seq (.reg [R.q 2 (.mov (.val (.str fun _ => [])))])
  (.seq (.reg [R.q 3 (.alloc (.cons .nptr (.cons .nsl .nil)))])
  (.seq (.seq (.reg [R.q 6 (.mov (R.t 0)),
    R.q 7 (.s2b (R.t 6)),
    R.q 8 (.len (R.t 7)),
    R.q 9 (.mov (R.i 0))])
  (.block 0 (.loop
     (.seq (.reg [R.q 10 (.bin .lss .no (R.t 9) (R.t 8))])
     (.seq (.cond (R.t 10)
       .skip
       (.exit 0))
     (.seq (.block 1 (.seq (.reg [R.q 11 (.idx 1 (R.t 7) (R.t 9)),
        R.q 12 (.load1 (R.t 11)),
        R.q 5 (.mov (R.t 12))])
      (.seq (.reg [R.q 13 (.mov (R.t 5)),
        R.q 14 (.call 140 [(R.t 13)])])
      (.cond (R.t 14)
        (.reg [R.q 15 (.mov (R.t 5)),
          R.q 16 (.call 141 [(R.t 3), (R.t 15)])])
        (.regd [R.f (R.q 17 (.mov (R.t 5))),
          R.f (R.q 18 (.bin .shr .no (R.t 17) (.val (.int .u64 fun _ => 4)))),
          R.f (R.q 19 (.idxS (.val (.str fun _ => [48, 49, 50, 51, 52, 53, 54, 55, 56, 57, 65, 66, 67, 68, 69, 70])) (R.t 18))),
          R.f (R.q 20 (.mov (R.t 5))),
          R.f (R.q 21 (.bin .and .no (R.t 20) (R.u 15))),
          R.f (R.q 22 (.idxS (.val (.str fun _ => [48, 49, 50, 51, 52, 53, 54, 55, 56, 57, 65, 66, 67, 68, 69, 70])) (R.t 21))),
          R.f (R.q 23 (.bslice 1 (.cons (.int .u8 fun _ => 0) .nil) 3 [(0, 1, (R.u 37)), (1, 1, (R.t 19)), (2, 1, (R.t 22))])),
          R.s (R.q 24 (.call 142 [(R.t 3), (R.t 23)])) []])))))
     (.reg [R.q 25 (.bin .add .no (R.t 9) (R.i 1)),
       R.q 9 (.mov (R.t 25))])))))))
  (.seq (.reg [R.q 26 (.call 143 [(R.t 3)]),
    R.q 2 (.mov (R.t 26))])
  .ret))))
def escape_Put.rs : List RRes := [.tmp 2]
theorem escape_Put.of {xs : List AV} {d : Nat} {B : BL} {K : ARes → BL → Prop} (hn : xs.length = 1) (hB : onlyOuter B = true) (h : awp ⟨PT, 27, exitX escape_Put.rs K⟩ 10000 [.code escape_Put.rc] ⟨params 0 xs, B, .nil⟩) : CallAt PT escape_Put xs d B K :=
  call_of_awp 10000 Try.func135 rfl (by kernel_rfl) (by kernel_rfl) (by kernel_rfl) (by rw [hn]; decide) hB h

/-! strings.Contains -/
abbrev strings_Contains : Nat := 136
def strings_Contains.rc : RC :=
  (.seq (.reg [R.q 4 (.mov R.ff)])
  (.seq (.reg [R.q 5 (.mov (R.t 0)),
    R.q 6 (.mov (R.t 1)),
    R.q 7 (.call 144 [(R.t 5), (R.t 6)]),
    R.q 8 (.bin .geq .no (R.t 7) (R.i 0)),
    R.q 4 (.mov (R.t 8))])
  .ret))
def strings_Contains.rs : List RRes := [.tmp 4]
theorem strings_Contains.of {xs : List AV} {d : Nat} {B : BL} {K : ARes → BL → Prop} (hn : xs.length = 2) (hB : onlyOuter B = true) (h : awp ⟨PT, 9, exitX strings_Contains.rs K⟩ 10000 [.code strings_Contains.rc] ⟨params 0 xs, B, .nil⟩) : CallAt PT strings_Contains xs d B K :=
  call_of_awp 10000 Try.func136 rfl (by kernel_rfl) (by kernel_rfl) (by kernel_rfl) (by rw [hn]; decide) hB h

/-! gripsack/acl.named -/
abbrev acl_named : Nat := 137
def acl_named.rc : RC :=
  (.seq (.reg [R.q 2 (.mov R.ff)])
  (.seq (.reg [R.q 3 (.mov (R.t 0)),
    R.q 4 (.bin .eql .no (R.t 3) (R.i 2)),
    R.q 5 (.mov (R.t 4)),
    R.g 6 (.mov (R.t 0)) 5 false,
    R.g 7 (.bin .eql .no (R.t 6) (R.i 4)) 5 false,
    R.q 8 (.pick (R.t 5) R.tt (R.t 7)),
    R.q 2 (.mov (R.t 8))])
  .ret))
def acl_named.rs : List RRes := [.tmp 2]
theorem acl_named.of {xs : List AV} {d : Nat} {B : BL} {K : ARes → BL → Prop} (hn : xs.length = 1) (hB : onlyOuter B = true) (h : awp ⟨PT, 9, exitX acl_named.rs K⟩ 10000 [.code acl_named.rc] ⟨params 0 xs, B, .nil⟩) : CallAt PT acl_named xs d B K :=
  call_of_awp 10000 Try.func137 rfl (by kernel_rfl) (by kernel_rfl) (by kernel_rfl) (by rw [hn]; decide) hB h

/-! slices.IndexFunc[[]gripsack/api.Ace,gripsack/api.Ace] -/
abbrev slices_IndexFunc_api_Ace_api_Ace : Nat := 138
def slices_IndexFunc_api_Ace_api_Ace.rc : RC :=
  (.seq (.reg [R.q 4 (.mov (R.i 0))])
  (.seq (.seq (.reg [R.q 6 (.mov (R.t 0)),
    R.q 7 (.len (R.t 6)),
    R.q 8 (.mov (R.i 0))])
  (.block 0 (.loop
     (.seq (.reg [R.q 9 (.bin .lss .no (R.t 8) (R.t 7))])
     (.seq (.cond (R.t 9)
       .skip
       (.exit 0))
     (.seq (.block 1 (.seq (.reg [R.q 10 (.mov (R.t 8)),
        R.q 5 (.mov (R.t 10))])
      (.seq (.reg [R.q 11 (.mov (R.t 1)),
        R.q 12 (.mov (R.t 0)),
        R.q 13 (.mov (R.t 5)),
        R.q 14 (.idx 3 (R.t 12) (R.t 13)),
        R.q 15 (.loadA 3 (R.t 14)),
        R.q 16 (.callv (R.t 11) [(R.t 15)])])
      (.cond (R.t 16)
        (.seq (.reg [R.q 17 (.mov (R.t 5)),
          R.q 4 (.mov (R.t 17))])
        .ret)
        .skip))))
     (.reg [R.q 18 (.bin .add .no (R.t 8) (R.i 1)),
       R.q 8 (.mov (R.t 18))])))))))
  (.seq (.reg [R.q 4 (.mov (R.i (-1)))])
  .ret)))
def slices_IndexFunc_api_Ace_api_Ace.rs : List RRes := [.tmp 4]
theorem slices_IndexFunc_api_Ace_api_Ace.of {xs : List AV} {d : Nat} {B : BL} {K : ARes → BL → Prop} (hn : xs.length = 2) (hB : onlyOuter B = true) (h : awp ⟨PT, 19, exitX slices_IndexFunc_api_Ace_api_Ace.rs K⟩ 10000 [.code slices_IndexFunc_api_Ace_api_Ace.rc] ⟨params 0 xs, B, .nil⟩) : CallAt PT slices_IndexFunc_api_Ace_api_Ace xs d B K :=
  call_of_awp 10000 Try.func138 rfl (by kernel_rfl) (by kernel_rfl) (by kernel_rfl) (by rw [hn]; decide) hB h

/-! gripsack/acl.perm$1 -/
abbrev acl_perm_1 : Nat := 139
def acl_perm_1.rc : RC :=
  (.seq (.reg [R.q 2 (.box (R.t 0)),
    R.q 3 (.mov R.ff)])
  (.seq (.reg [R.q 4 (.fld 0 (R.t 2)),
    R.q 5 (.load1 (R.t 4)),
    R.q 6 (.load1 (R.t 1)),
    R.q 7 (.bin .eql .no (R.t 5) (R.t 6)),
    R.q 3 (.mov (R.t 7))])
  .ret))
def acl_perm_1.rs : List RRes := [.tmp 3]
theorem acl_perm_1.of {xs : List AV} {d : Nat} {B : BL} {K : ARes → BL → Prop} (hn : xs.length = 2) (hB : onlyOuter B = true) (h : awp ⟨PT, 8, exitX acl_perm_1.rs K⟩ 10000 [.code acl_perm_1.rc] ⟨params 0 xs, B, .nil⟩) : CallAt PT acl_perm_1 xs d B K :=
  call_of_awp 10000 Try.func139 rfl (by kernel_rfl) (by kernel_rfl) (by kernel_rfl) (by rw [hn]; decide) hB h

/-! gripsack/escape.plain -/
abbrev escape_plain : Nat := 140
def escape_plain.rc : RC :=
  (.seq (.reg [R.q 2 (.mov R.ff)])
  (.seq (.reg [R.q 3 (.mov (R.t 0)),
    R.q 4 (.bin .geq .no (R.t 3) (R.u 33)),
    R.q 5 (.mov (R.t 4)),
    R.g 6 (.mov (R.t 0)) 5 true,
    R.g 7 (.bin .leq .no (R.t 6) (R.u 126)) 5 true,
    R.q 8 (.pick (R.t 5) (R.t 7) R.ff),
    R.q 9 (.mov (R.t 8)),
    R.g 10 (.mov (R.t 0)) 9 true,
    R.g 11 (.bin .neq .no (R.t 10) (R.u 37)) 9 true,
    R.q 12 (.pick (R.t 9) (R.t 11) R.ff),
    R.q 13 (.mov (R.t 12)),
    R.g 14 (.mov (R.t 0)) 13 true,
    R.g 15 (.bin .neq .no (R.t 14) (R.u 61)) 13 true,
    R.q 16 (.pick (R.t 13) (R.t 15) R.ff),
    R.q 2 (.mov (R.t 16))])
  .ret))
def escape_plain.rs : List RRes := [.tmp 2]
theorem escape_plain.of {xs : List AV} {d : Nat} {B : BL} {K : ARes → BL → Prop} (hn : xs.length = 1) (hB : onlyOuter B = true) (h : awp ⟨PT, 17, exitX escape_plain.rs K⟩ 10000 [.code escape_plain.rc] ⟨params 0 xs, B, .nil⟩) : CallAt PT escape_plain xs d B K :=
  call_of_awp 10000 Try.func140 rfl (by kernel_rfl) (by kernel_rfl) (by kernel_rfl) (by rw [hn]; decide) hB h

/-! (*strings.Builder).WriteByte -/
abbrev strings_Builder_WriteByte : Nat := 141
def strings_Builder_WriteByte.rc : RC :=
  (.seq (.reg [R.q 4 (.mov (.val .nif))])
  (.seq (.reg [R.q 5 (.mov (R.t 0)),
    R.q 6 (.call 145 [(R.t 5)])])
  (.seq (.reg [R.q 7 (.mov (R.t 0)),
    R.q 8 (.mov (R.t 0)),
    R.q 9 (.chk (R.t 8)),
    R.q 10 (.fld 1 (R.t 9)),
    R.q 11 (.load1 (R.t 10)),
    R.q 12 (.mov (R.t 1)),
    R.q 13 (.bslice 1 (.cons (.int .u8 fun _ => 0) .nil) 1 [(0, 1, (R.t 12))]),
    R.q 14 (.append 1 1 (R.t 11) (R.t 13)),
    R.q 15 (.chk (R.t 7)),
    R.q 16 (.fld 1 (R.t 15)),
    R.e (.store 1 (R.t 16) (R.t 14))])
  (.seq (.reg [R.q 4 (.mov (.val .nif))])
  .ret))))
def strings_Builder_WriteByte.rs : List RRes := [.tmp 4]
theorem strings_Builder_WriteByte.of {xs : List AV} {d : Nat} {B : BL} {K : ARes → BL → Prop} (hn : xs.length = 2) (hB : onlyOuter B = true) (h : awp ⟨PT, 17, exitX strings_Builder_WriteByte.rs K⟩ 10000 [.code strings_Builder_WriteByte.rc] ⟨params 0 xs, B, .nil⟩) : CallAt PT strings_Builder_WriteByte xs d B K :=
  call_of_awp 10000 Try.func141 rfl (by kernel_rfl) (by kernel_rfl) (by kernel_rfl) (by rw [hn]; decide) hB h

/-! (*strings.Builder).Write -/
abbrev strings_Builder_Write : Nat := 142
def strings_Builder_Write.rc : RC :=
  (.seq (.reg [R.q 4 (.mov (R.i 0)),
    R.q 5 (.mov (.val .nif))])
  (.seq (.reg [R.q 6 (.mov (R.t 0)),
    R.q 7 (.call 145 [(R.t 6)])])
  (.seq (.reg [R.q 8 (.mov (R.t 0)),
    R.q 9 (.mov (R.t 0)),
    R.q 10 (.chk (R.t 9)),
    R.q 11 (.fld 1 (R.t 10)),
    R.q 12 (.load1 (R.t 11)),
    R.q 13 (.mov (R.t 1)),
    R.q 14 (.append 1 1 (R.t 12) (R.t 13)),
    R.q 15 (.chk (R.t 8)),
    R.q 16 (.fld 1 (R.t 15)),
    R.e (.store 1 (R.t 16) (R.t 14))])
  (.seq (.reg [R.q 17 (.mov (R.t 1)),
    R.q 18 (.len (R.t 17)),
    R.q 4 (.mov (R.t 18)),
    R.q 5 (.mov (.val .nif))])
  .ret))))
def strings_Builder_Write.rs : List RRes := [.tmp 4, .tmp 5]
theorem strings_Builder_Write.of {xs : List AV} {d : Nat} {B : BL} {K : ARes → BL → Prop} (hn : xs.length = 2) (hB : onlyOuter B = true) (h : awp ⟨PT, 19, exitX strings_Builder_Write.rs K⟩ 10000 [.code strings_Builder_Write.rc] ⟨params 0 xs, B, .nil⟩) : CallAt PT strings_Builder_Write xs d B K :=
  call_of_awp 10000 Try.func142 rfl (by kernel_rfl) (by kernel_rfl) (by kernel_rfl) (by rw [hn]; decide) hB h

/-! strings.Index -/
abbrev strings_Index : Nat := 144
def strings_Index.rc : RC :=
  (.seq (.reg [R.q 4 (.mov (R.i 0))])
  (.seq (.reg [R.q 5 (.mov (R.t 0)),
    R.q 6 (.mov (R.t 1)),
    R.q 7 (.call 146 [(R.t 5), (R.t 6)]),
    R.q 4 (.mov (R.t 7))])
  .ret))
def strings_Index.rs : List RRes := [.tmp 4]
theorem strings_Index.of {xs : List AV} {d : Nat} {B : BL} {K : ARes → BL → Prop} (hn : xs.length = 2) (hB : onlyOuter B = true) (h : awp ⟨PT, 8, exitX strings_Index.rs K⟩ 10000 [.code strings_Index.rc] ⟨params 0 xs, B, .nil⟩) : CallAt PT strings_Index xs d B K :=
  call_of_awp 10000 Try.func144 rfl (by kernel_rfl) (by kernel_rfl) (by kernel_rfl) (by rw [hn]; decide) hB h

end F
end Go.Proofs.Ytgjlkcdnlndlnaa
/- Which flags may be: walked. -/
namespace Go.Proofs.Ytgjlkcdnlndlnaa
open Go Go.Proofs.Ytgjlkcdnlndlnaa.Sx F
set_option linter.unusedVariables false
set_option linter.unusedSimpArgs false

def wordsF : List (List UInt8) := [[117, 99, 104, 103], [117, 97, 112, 112, 110, 100], [110, 111, 100, 117, 109, 112], [111, 112, 97, 113, 117, 101]]
theorem fnames_c {d : Nat} {K : ARes → BL → Prop} (hr : K (.ret (strs fun _ => wordsF)) .nil) : CallAt PT flags_names [] d .nil K := by
  refine CallAt.res ?_
  refine flags_names.of rfl rfl ?_
  cbv
  refine ⟨_, .ret (y := strs fun _ => wordsF) (.sl rfl fun i hi => ?_), hr⟩
  have hi : i < 4 := hi
  match i, hi with
  | 0, _ => rfl
  | 1, _ => rfl
  | 2, _ => rfl
  | 3, _ => rfl
def mayF (n : Int) : Bool := decide (0 ≤ n) && decide (n < 16)
theorem fmay_c (n : Th Int) {d : Nat} {K : ARes → BL → Prop} (hr : ∀ b : Th Bool, b .o = mayF (n .o) → K (.ret (.bool b)) .nil) : CallAt PT flags_May [.int .i64 n] d .nil K := by
  refine CallAt.res ?_
  refine flags_May.of rfl rfl ?_
  cbv
  refine ⟨fun hc => ?_, fun hc => ?_⟩
  · cbv
    refine fnames_c ?_
    cbv
    refine ⟨fun _ => (by decide : (0 : Int) ≤ zi wordsF.length), ?_⟩
    refine ⟨_, .ret (Same.refl _), hr _ ?_⟩
    have e : IntKind.i64.wrap (1 * 2 ^ min (zi wordsF.length).toNat IntKind.i64.bits) = 16 := by decide
    have h0 : decide (0 ≤ n .o) = true := hc
    show decide (n .o < IntKind.i64.wrap (1 * 2 ^ min (zi wordsF.length).toNat IntKind.i64.bits)) = _
    rw [e, mayF, h0]
    rfl
  · cbv
    have h0 : decide (0 ≤ n .o) = false := hc
    refine ⟨_, .ret (.ff rfl), hr (fun _ => false) ?_⟩
    show false = _
    rw [mayF, h0]
    rfl
theorem mayflags9_c (n : Th Int) {d : Nat} {K : ARes → BL → Prop} (hr : ∀ b : Th Bool, b .o = mayF (n .o) → K (.ret (.bool b)) .nil) : CallAt PT r9_MayFlags [.int .i64 n] d .nil K := by
  refine CallAt.res ?_
  refine r9_MayFlags.of rfl rfl ?_
  cbv
  refine ⟨fun hc => ?_, fun hc => ?_⟩
  · cbv
    have h0 : decide (0 ≤ n .o) = true := hc
    refine ⟨_, .ret (Same.refl _), hr _ ?_⟩
    show decide (n .o ≤ 15) = _
    rw [mayF, h0, Bool.true_and]
    exact decide_eq_decide.2 ⟨fun h => by omega, fun h => by omega⟩
  · cbv
    have h0 : decide (0 ≤ n .o) = false := hc
    refine ⟨_, .ret (.ff rfl), hr (fun _ => false) ?_⟩
    show false = _
    rw [mayF, h0]
    rfl
end Go.Proofs.Ytgjlkcdnlndlnaa
/- The package right, walked: what each function answers. -/
namespace Go.Proofs.Ytgjlkcdnlndlnaa
open Go Go.Proofs.Ytgjlkcdnlndlnaa.Sx F

def band (a b : Int) : Int := abits .and .i64 a b
def permS (l : List Ace) (t : Int) : Option Int := (l.find? fun a => decide (a.tag = t)).map (·.perm)
def maskS (l : List Ace) : Option Int := if 0 ≤ ixP (fun a : Ace => decide (a.tag = 5)) l then permS l 5 else some 7
def fromMode (m : Int) : List Ace := [⟨1, 0, (band m 511).fdiv (2 ^ 6)⟩, ⟨3, 0, band ((band m 511).fdiv (2 ^ 3)) 7⟩, ⟨6, 0, band (band m 511) 7⟩]
def ofS (m : Meta) : List Ace := if 0 < m.acl.length then m.acl else fromMode m.mode
def inS (c : Cred) (g : Int) : Bool := decide (c.gid = g) || decide (g ∈ c.groups)

theorem ixP_find {α : Type} (p : α → Bool) (z : α) (l : List α) : (ixP p l < 0 ∧ l.find? p = none) ∨ (∃ k, ixP p l = zi k ∧ k < l.length ∧ l.find? p = some (l.getD k z)) := by
  induction l with
  | nil => exact .inl ⟨by simp [ixP], rfl⟩
  | cons y r ih =>
    by_cases h : p y = true
    · exact .inr ⟨0, by simp [ixP, h, zi], by simp, by simp [h]⟩
    · rcases ih with ⟨h1, h2⟩ | ⟨k, h1, h2, h3⟩
      · exact .inl ⟨by simp [ixP, h, h1], by simp [h, h2]⟩
      · refine .inr ⟨k + 1, ?_, by simpa using h2, by simp [h, h3]⟩
        simp only [ixP, h, h1, Bool.false_eq_true, if_false]
        unfold zi
        rw [if_neg (by omega)]
        omega

/-! ### the functions -/
theorem mask1_c (a : Th Ace) {d : Nat} {K : ARes → BL → Prop} (hr : ∀ b : Th Bool, b .o = decide ((a .o).tag = 5) → K (.ret (.bool b)) .nil) : CallAt PT right_list_mask_1 [Ace.av a] d .nil K := by
  refine right_list_mask_1.of rfl rfl ?_
  cbv
  exact (hr _ rfl)

theorem perm1_c (a : Th Ace) (t : Th Int) {d : Nat} {K : ARes → BL → Prop}
    (hr : ∀ b : Th Bool, b .o = decide ((a .o).tag = t .o) → K (.ret (.bool b)) (.cons 10000 (.cells (.cons (.int .i64 t) .nil)) .nil)) : CallAt PT right_list_perm_1 [Ace.av a, .ptr 10000 0] d (.cons 10000 (.cells (.cons (.int .i64 t) .nil)) .nil) K := by
  refine right_list_perm_1.of rfl rfl ?_
  cbv
  exact hr _ rfl

theorem index_mask_c (l : Th (List Ace)) (hl : short (l .o)) {d : Nat} {K : ARes → BL → Prop} (hr : ∀ n : Th Int, n .o = ixP (fun a : Ace => decide (a.tag = 5)) (l .o) → K (.ret (.int .i64 n)) .nil) :
    CallAt PT slices_IndexFunc_right_list_api_Ace [aces l, .fn (.func right_list_mask_1) .nil .nil] d .nil K := by
  refine slices_IndexFunc_right_list_api_Ace.of rfl rfl ?_
  cbv
  refine loop_rule (X := Nat) 1000 [0, 1, 7] [] (fun k => .cons 8 (.int .i64 fun _ => zi k) .nil) (fun _ => .nil) (fun k => k ≤ (l .o).length ∧ ∀ j, j < k → decide (((l .o).getD j Ace.z).tag = 5) = false) (fun k => (l .o).length - k) 0 ?_ ⟨Nat.zero_le _, fun j hj => by omega⟩ ?_
  · cbv
    exact ⟨⟨.refl _, .refl _, .refl _, .int rfl, trivial⟩, ⟨rfl⟩⟩
  · intro k hk
    cbv
    refine ⟨fun h1 => ?_, fun h1 => ?_⟩
    · have h1 : k < (l .o).length := zi_lt.1 (of_decide_eq_true h1)
      cbv
      refine ⟨fun _ => ⟨zi_nonneg _, zi_lt.2 h1⟩, ?_⟩
      refine mask1_c (fun _ => (l .o).getD (zi k).toNat Ace.z) fun b hb => ?_
      rw [zi_toNat] at hb
      cbv
      refine ⟨fun h2 => ?_, fun h2 => ?_⟩
      · cbv
        exact (hr _ (ixP_at _ Ace.z _ k h1 hk.2 (hb.symm.trans h2)).symm)
      · cbv
        refine ⟨k + 1, ⟨h1, ?_⟩, by omega, ?_⟩
        · intro j hj
          by_cases he : j = k
          · subst he; exact hb.symm.trans h2
          · exact hk.2 j (by omega)
        · cbv
          exact ⟨⟨.refl _, .refl _, .refl _, .int (zi_succ (by unfold short at hl; omega)), trivial⟩, ⟨rfl⟩⟩
    · have h1 : ¬ k < (l .o).length := fun q => of_decide_eq_false h1 (zi_lt.2 q)
      cbv
      exact (hr _ (ixP_no _ Ace.z _ fun j hj => hk.2 j (by omega)).symm)

theorem index_perm_c (l : Th (List Ace)) (t : Th Int) (hl : short (l .o)) {d : Nat} {K : ARes → BL → Prop} (hr : ∀ n : Th Int, n .o = ixP (fun a : Ace => decide (a.tag = t .o)) (l .o) → K (.ret (.int .i64 n)) (.cons 10000 (.cells (.cons (.int .i64 t) .nil)) .nil)) :
    CallAt PT slices_IndexFunc_right_list_api_Ace [aces l, .fn (.func right_list_perm_1) .nil (.cons (.ptr 10000 0) .nil)] d (.cons 10000 (.cells (.cons (.int .i64 t) .nil)) .nil) K := by
  refine slices_IndexFunc_right_list_api_Ace.of rfl rfl ?_
  cbv
  refine loop_rule (X := Nat) 1000 [0, 1, 7] [10000] (fun k => .cons 8 (.int .i64 fun _ => zi k) .nil) (fun _ => .nil) (fun k => k ≤ (l .o).length ∧ ∀ j, j < k → decide (((l .o).getD j Ace.z).tag = t .o) = false) (fun k => (l .o).length - k) 0 ?_ ⟨Nat.zero_le _, fun j hj => by omega⟩ ?_
  · cbv
    exact ⟨⟨.refl _, .refl _, .refl _, .int rfl, trivial⟩, ⟨.refl _, trivial⟩, ⟨rfl⟩⟩
  · intro k hk
    cbv
    refine ⟨fun h1 => ?_, fun h1 => ?_⟩
    · have h1 : k < (l .o).length := zi_lt.1 (of_decide_eq_true h1)
      cbv
      refine ⟨fun _ => ⟨zi_nonneg _, zi_lt.2 h1⟩, ?_⟩
      refine perm1_c (fun _ => (l .o).getD (zi k).toNat Ace.z) t fun b hb => ?_
      rw [zi_toNat] at hb
      cbv
      refine ⟨fun h2 => ?_, fun h2 => ?_⟩
      · cbv
        exact hr _ (ixP_at _ Ace.z _ k h1 hk.2 (hb.symm.trans h2)).symm
      · cbv
        refine ⟨k + 1, ⟨h1, ?_⟩, by omega, ?_⟩
        · intro j hj
          by_cases he : j = k
          · subst he; exact hb.symm.trans h2
          · exact hk.2 j (by omega)
        · cbv
          exact ⟨⟨.refl _, .refl _, .refl _, .int (zi_succ (by unfold short at hl; omega)), trivial⟩, ⟨.refl _, trivial⟩, ⟨rfl⟩⟩
    · have h1 : ¬ k < (l .o).length := fun q => of_decide_eq_false h1 (zi_lt.2 q)
      cbv
      exact hr _ (ixP_no _ Ace.z _ fun j hj => hk.2 j (by omega)).symm

theorem contains_mask_c (l : Th (List Ace)) (hl : short (l .o)) {d : Nat} {K : ARes → BL → Prop} (hr : ∀ b : Th Bool, b .o = decide (0 ≤ ixP (fun a : Ace => decide (a.tag = 5)) (l .o)) → K (.ret (.bool b)) .nil) :
    CallAt PT slices_ContainsFunc_right_list_api_Ace [aces l, .fn (.func right_list_mask_1) .nil .nil] d .nil K := by
  refine slices_ContainsFunc_right_list_api_Ace.of rfl rfl ?_
  cbv
  refine index_mask_c l hl fun n hn => ?_
  cbv
  exact (hr _ (by show decide (0 ≤ n .o) = _; rw [hn]))

/-- What is raised where a part lacks. -/
def lacks (t : Th Int) : AV := .ifc 138 (.agg (.cons (.int .i64 t) .nil))

theorem perm_c (l : Th (List Ace)) (t : Th Int) (hl : short (l .o)) {d : Nat} {K : ARes → BL → Prop} (hr : ∀ n : Th Int, permS (l .o) (t .o) = some (n .o) → K (.ret (.int .i64 n)) .nil) (hp : permS (l .o) (t .o) = none → K (.pan (lacks t)) .nil) :
    CallAt PT right_list_perm [aces l, .int .i64 t] d .nil K := by
  refine right_list_perm.of rfl rfl ?_
  cbv
  refine CallAt.frameP [(10000, 3)] [aces l, .fn (.func right_list_perm_1) .nil (.cons (.ptr 10000 0) .nil)] (by kernel_rfl) rfl fun K1 hK1 => ?_
  cbv
  refine index_perm_c l t hl fun n hn => hK1 _ _ ?_
  cbv
  have hfind := ixP_find (fun a : Ace => decide (a.tag = t .o)) Ace.z (l .o)
  refine ⟨fun h1 => ?_, fun h1 => ?_⟩
  · have h1 : n .o < 0 := of_decide_eq_true h1
    cbv
    refine (hp ?_)
    rcases hfind with ⟨_, h2⟩ | ⟨k, h2, _, _⟩
    · unfold permS; rw [h2]; rfl
    · rw [hn, h2] at h1; have := zi_nonneg k; omega
  · have h1 : ¬ n .o < 0 := of_decide_eq_false h1
    rcases hfind with ⟨h2, _⟩ | ⟨k, h2, h3, h4⟩
    · exact (h1 (hn ▸ h2)).elim
    · rw [h2] at hn
      cbv
      refine ⟨fun _ => by rw [hn]; exact ⟨zi_nonneg _, zi_lt.2 h3⟩, ?_⟩
      refine (hr _ ?_)
      show _ = some ((l .o).getD (n .o).toNat Ace.z).perm
      rw [hn, zi_toNat]
      unfold permS
      rw [h4]
      rfl

theorem mask_c (l : Th (List Ace)) (hl : short (l .o)) {d : Nat} {K : ARes → BL → Prop} (hr : ∀ n : Th Int, maskS (l .o) = some (n .o) → K (.ret (.int .i64 n)) .nil) (hp : ∀ t, maskS (l .o) = none → K (.pan (lacks t)) .nil) :
    CallAt PT right_list_mask [aces l] d .nil K := by
  refine right_list_mask.of rfl rfl ?_
  cbv
  refine contains_mask_c l hl fun b hb => ?_
  cbv
  refine ⟨fun h1 => ?_, fun h1 => ?_⟩
  · have hm : maskS (l .o) = permS (l .o) 5 := by unfold maskS; rw [if_pos (of_decide_eq_true (hb.symm.trans h1))]
    cbv
    refine perm_c l (fun _ => 5) hl (fun n hn => ?_) fun hn => ?_
    · cbv
      exact (hr _ (hm.trans hn))
    · cbv
      exact (hp _ (hm.trans hn))
  · have hm : maskS (l .o) = some 7 := by unfold maskS; rw [if_neg (of_decide_eq_false (hb.symm.trans h1))]
    cbv
    exact (hr _ hm)

theorem from_c (m : Th Int) {d : Nat} {K : ARes → BL → Prop} (hr : ∀ l : Th (List Ace), l .o = fromMode (m .o) → K (.ret (aces l)) .nil) : CallAt PT acl_From [.int .i64 m] d .nil K := by
  refine CallAt.res ?_
  refine acl_From.of rfl rfl ?_
  cbv
  refine ⟨fun _ => by decide, fun _ => by decide, ?_⟩
  refine ⟨_, .ret (.sl ?_ ?_), (hr (fun _ => fromMode (m .o)) rfl)⟩
  · rfl
  · intro i hi
    have hi : i < 3 := hi
    match i, hi with
    | 0, _ => rfl
    | 1, _ => rfl
    | 2, _ => rfl

theorem of_c (m : Th Meta) {d : Nat} {K : ARes → BL → Prop} (hr : ∀ l : Th (List Ace), l .o = ofS (m .o) → K (.ret (aces l)) .nil) : CallAt PT right_of [Meta.av m] d .nil K := by
  refine right_of.of rfl rfl ?_
  cbv
  refine ⟨fun h1 => ?_, fun h1 => ?_⟩
  · have h1 : 0 < ((m .o).acl).length := zi_lt.1 (of_decide_eq_true h1)
    cbv
    refine (hr (fun _ => (m .o).acl) ?_)
    unfold ofS; rw [if_pos h1]
  · have h1 : ¬ 0 < ((m .o).acl).length := fun q => of_decide_eq_false h1 (zi_lt.2 q)
    cbv
    refine from_c (fun _ => (m .o).mode) fun l hl => ?_
    cbv
    refine (hr l ?_)
    unfold ofS; rw [if_neg h1, hl]

theorem index_int_c (l : Th (List Int)) (x : Th Int) (hl : short (l .o)) {d : Nat} {K : ARes → BL → Prop} (hr : ∀ n : Th Int, n .o = ixP (fun a => decide (x .o = a)) (l .o) → K (.ret (.int .i64 n)) .nil) : CallAt PT slices_Index_int_int [ints l, .int .i64 x] d .nil K := by
  refine slices_Index_int_int.of rfl rfl ?_
  cbv
  refine loop_rule (X := Nat) 1000 [0, 1, 7] [] (fun k => .cons 8 (.int .i64 fun _ => zi k) .nil) (fun _ => .nil) (fun k => k ≤ (l .o).length ∧ ∀ j, j < k → decide (x .o = (l .o).getD j 0) = false) (fun k => (l .o).length - k) 0 ?_ ⟨Nat.zero_le _, fun j hj => by omega⟩ ?_
  · cbv
    exact ⟨⟨.refl _, .refl _, .refl _, .int rfl, trivial⟩, ⟨rfl⟩⟩
  · intro k hk
    cbv
    refine ⟨fun h1 => ?_, fun h1 => ?_⟩
    · have h1 : k < (l .o).length := zi_lt.1 (of_decide_eq_true h1)
      cbv
      refine ⟨fun _ => ⟨zi_nonneg _, zi_lt.2 h1⟩, fun h2 => ?_, fun h2 => ?_⟩
      · cbv
        have h2 : decide (x .o = (l .o).getD (zi k).toNat 0) = true := h2
        rw [zi_toNat] at h2
        exact (hr _ (ixP_at _ 0 _ k h1 hk.2 h2).symm)
      · cbv
        have h2 : decide (x .o = (l .o).getD (zi k).toNat 0) = false := h2
        rw [zi_toNat] at h2
        refine ⟨k + 1, ⟨h1, ?_⟩, by omega, ?_⟩
        · intro j hj
          by_cases he : j = k
          · subst he; exact h2
          · exact hk.2 j (by omega)
        · cbv
          exact ⟨⟨.refl _, .refl _, .refl _, .int (zi_succ (by unfold short at hl; omega)), trivial⟩, ⟨rfl⟩⟩
    · have h1 : ¬ k < (l .o).length := fun q => of_decide_eq_false h1 (zi_lt.2 q)
      cbv
      exact (hr _ (ixP_no _ 0 _ fun j hj => hk.2 j (by omega)).symm)

theorem contains_int_c (l : Th (List Int)) (x : Th Int) (hl : short (l .o)) {d : Nat} {K : ARes → BL → Prop} (hr : ∀ b : Th Bool, b .o = decide (x .o ∈ l .o) → K (.ret (.bool b)) .nil) : CallAt PT slices_Contains_int_int [ints l, .int .i64 x] d .nil K := by
  refine slices_Contains_int_int.of rfl rfl ?_
  cbv
  refine index_int_c l x hl fun n hn => ?_
  cbv
  refine (hr _ ?_)
  show decide (0 ≤ n .o) = _
  rw [hn]
  rcases ixP_find (fun a => decide (x .o = a)) 0 (l .o) with ⟨h1, h2⟩ | ⟨k, h1, h2, h3⟩
  · rw [decide_eq_decide]
    refine ⟨fun h => by omega, fun h => ?_⟩
    have := List.find?_eq_none.1 h2 _ h
    simp at this
  · rw [h1, decide_eq_decide]
    refine ⟨fun _ => ?_, fun _ => zi_nonneg k⟩
    have h4 := List.find?_some h3
    have h5 := List.mem_of_find?_eq_some h3
    rw [← of_decide_eq_true h4] at h5
    exact h5

theorem in_c (c : Th Cred) (g : Th Int) (hl : short (c .o).groups) {d : Nat} {K : ARes → BL → Prop} (hr : ∀ b : Th Bool, b .o = inS (c .o) (g .o) → K (.ret (.bool b)) .nil) : CallAt PT right_In [Cred.av c, .int .i64 g] d .nil K := by
  refine CallAt.res ?_
  refine right_In.of rfl rfl ?_
  cbv
  refine ⟨fun h1 => ?_, fun h1 => ?_⟩
  · refine contains_int_c (fun _ => (c .o).groups) g hl fun b hb => ?_
    cbv
    refine ⟨_, .ret (.refl _), (hr b ?_)⟩
    unfold inS
    rw [hb, show decide ((c .o).gid = g .o) = false from h1]
    rfl
  · cbv
    refine ⟨_, .ret (.tt rfl), (hr (fun _ => true) ?_)⟩
    unfold inS
    rw [show decide ((c .o).gid = g .o) = true from h1]
    rfl

/-! ### who can what -/
def hasS (w p : Int) : Bool := decide (band p w = w)
/-- What the parts for named ones, and the group, say: a user's own part ends it. -/
def goS (m : Meta) (c : Cred) (w mask : Int) : List Ace → Bool → Bool → Bool ⊕ (Bool × Bool)
  | [], me, any => .inr (me, any)
  | a :: r, me, any =>
    if a.tag = 2 ∧ a.id = c.uid then .inl (hasS w (band a.perm mask))
    else if (a.tag = 3 ∧ inS c m.gid = true) ∨ (a.tag = 4 ∧ inS c a.id = true) then goS m c w mask r true (any || hasS w (band a.perm mask))
    else goS m c w mask r me any
def canS (m : Meta) (c : Cred) (w : Int) : Option Bool :=
  if m.uid = c.uid then (permS (ofS m) 1).map (hasS w)
  else (maskS (ofS m)).bind fun mask => match goS m c w mask (ofS m) false false with
    | .inl b => some b
    | .inr (true, any) => some any
    | .inr (false, _) => (permS (ofS m) 6).map (hasS w)

theorem ofS_short {m : Meta} (h : short m.acl) : short (ofS m) := by
  unfold ofS
  split
  · exact h
  · show 3 ≤ _; decide

theorem drop_cons {α : Type} (l : List α) (z : α) (k : Nat) (h : k < l.length) : l.drop k = l.getD k z :: l.drop (k + 1) := by
  rw [List.drop_eq_getElem_cons h, List.getD_eq_getElem?_getD, List.getElem?_eq_getElem h]
  rfl

/-! ### the look that may end early -/
/-- What the walk knows beside: the meta data, who asks, the right wanted. -/
def boxes (m : Th Meta) (c : Th Cred) (w : Th Int) : BL := .cons 10000 (.cells (Meta.ch m)) (.cons 10001 (.cells (Cred.ch c)) (.cons 10002 (.cells (.cons (.int .i64 w) .nil)) .nil))

/-- Who asks, by powers or by a list. -/
def CanS (m : Meta) (c : Cred) (w : Int) : Bool := !(decide (w < 0) || decide (7 < w)) && (decide (0 < band c.powers 2) || (canS m c w).getD false)
end Go.Proofs.Ytgjlkcdnlndlnaa
/- The document's example of the layer right, and what the laws of rights share. -/
namespace Go.Proofs.Ytgjlkcdnlndlnaa
open Go Go.Proofs.Ytgjlkcdnlndlnaa.Sx F

def metaZ : Meta := ⟨0, 0, 0, 0, 0, [], [], [], ⟨0, 0, 0, false, 0⟩, 0⟩
theorem plain_c (mo u g : Th Int) {d : Nat} {K : ARes → BL → Prop} (hr : ∀ m : Th Meta, m .o = { metaZ with mode := mo .o, uid := u .o, gid := g .o } → K (.ret (Meta.av m)) .nil) : CallAt PT r9_Plain [.int .i64 mo, .int .i64 u, .int .i64 g] d .nil K := by
  refine CallAt.res ?_
  refine r9_Plain.of rfl rfl ?_
  cbv
  refine ⟨_, .ret (.agg ?_), (hr (fun _ => { metaZ with mode := mo .o, uid := u .o, gid := g .o }) rfl)⟩
  exact .cons (.refl _) (.cons (.refl _) (.cons (.refl _) (.cons (.refl _) (.cons (.refl _) (.cons (.nsl rfl) (.cons (.nsl rfl) (.cons (.nsl rfl) (.cons (.refl _) (.cons (.refl _) (.cons (.refl _) (.cons (.ff rfl) (.cons (.refl _) (.cons (.refl _) .nil)))))))))))))

def credZ : Cred := ⟨0, 0, [], 0⟩
/-- Who asks, in no further group. -/
theorem cred_same (u g p : Th Int) : Same (.agg (.cons (.int .i64 u) (.cons (.int .i64 g) (.cons .nsl (.cons (.int .i64 p) .nil))))) (Cred.av fun _ => ⟨u .o, g .o, [], p .o⟩) :=
  .agg (.cons (.refl _) (.cons (.refl _) (.cons (.nsl rfl) (.cons (.refl _) .nil))))
theorem short_nil {α : Type} : short ([] : List α) := by show 0 ≤ _; decide

/-! ### bits -/
theorem band_le {x y : Int} (h0 : 0 ≤ y) (h1 : y < 4611686018427387904) : 0 ≤ band x y ∧ band x y ≤ y := by
  have hy : (BitVec.ofInt 64 y).toNat = y.toNat := by
    rw [BitVec.toNat_ofInt]
    omega
  have hle : (BitVec.ofInt 64 x &&& BitVec.ofInt 64 y).toNat ≤ y.toNat := by
    rw [BitVec.toNat_and, hy]
    exact Nat.and_le_right
  have he : band x y = IntKind.i64.wrap ((BitVec.ofInt 64 x &&& BitVec.ofInt 64 y).toNat : Int) := rfl
  rw [he, IntKind.wrap_i64]
  omega
theorem band02 : band 0 2 = 0 := by decide +kernel
theorem fin8 {p : Int → Prop} (h : ∀ n : Fin 8, p (n.1 : Int)) {n : Int} (h0 : 0 ≤ n) (h1 : n < 8) : p n := by
  have := h ⟨n.toNat, by omega⟩
  rwa [show ((⟨n.toNat, by omega⟩ : Fin 8).1 : Int) = n from Int.toNat_of_nonneg h0] at this
theorem band7 {n : Int} (h0 : 0 ≤ n) (h1 : n < 8) : band 7 n = n := fin8 (p := fun n => band 7 n = n) (by decide +kernel) h0 h1
theorem band0 {n : Int} (h0 : 0 ≤ n) (h1 : n < 8) : band 0 n = 0 := fin8 (p := fun n => band 0 n = 0) (by decide +kernel) h0 h1

/-- A byte's rest by eight. -/
theorem rest8 {x : Int} (h : 0 ≤ x ∧ x < 256) : 0 ≤ (IntKind.i64.wrap x).tmod 8 ∧ (IntKind.i64.wrap x).tmod 8 < 8 := by
  have : IntKind.i64.wrap x = x := by rw [IntKind.wrap_i64]; omega
  rw [this]
  exact ⟨Int.tmod_nonneg _ h.1, Int.tmod_lt_of_pos _ (by decide)⟩


end Go.Proofs.Ytgjlkcdnlndlnaa
/- Who asks, by numbers. -/
namespace Go.Proofs.Ytgjlkcdnlndlnaa
open Go Go.Proofs.Ytgjlkcdnlndlnaa.Sx F

/-- Who asks, as they are made by numbers. -/
structure CredOk (c : Cred) : Prop where
  uid : 0 ≤ c.uid ∧ c.uid < 8
  gid : 0 ≤ c.gid ∧ c.gid < 8
  gs : ∀ x ∈ c.groups, 0 ≤ x ∧ x < 16
  len : c.groups.length ≤ 4
  pw : c.powers = 0
theorem cred_c (l : Th (List Int)) (hl : isBytes (l .o)) (hs : (l .o).length ≤ 140737488355328) {d : Nat} {K : ARes → BL → Prop} (hr : ∀ c : Th Cred, CredOk (c .o) → K (.ret (Cred.av c)) .nil) : CallAt PT l18_Cred [byteI l] d .nil K := by
  refine CallAt.res ?_
  refine l18_Cred.of rfl rfl ?_
  have r8 : ∀ k, 0 ≤ (IntKind.i64.wrap ((l .o).getD k 0)).tmod 8 ∧ (IntKind.i64.wrap ((l .o).getD k 0)).tmod 8 < 8 := fun k => rest_of (byte_at hl) (by decide)
  have r16 : ∀ k, 0 ≤ (IntKind.i64.wrap ((l .o).getD k 0)).tmod 16 ∧ (IntKind.i64.wrap ((l .o).getD k 0)).tmod 16 < 16 := fun k => rest_of (byte_at hl) (by decide)
  have z8 : (0 : Int) ≤ 0 ∧ (0 : Int) < 8 := by decide
  cbv
  ((try refine br_rev ?_); (first | refine br_dec (fun h1 => ?_) (fun h1 => ?_) | refine br_ndec (fun h1 => ?_) (fun h1 => ?_) | refine br_nbool (fun h1 => ?_) (fun h1 => ?_) | refine br_bool (fun h1 => ?_) (fun h1 => ?_)); all_goals (try dsimp only at h1); all_goals (try with_reducible replace h1 := zi_lt.1 h1); all_goals (try with_reducible replace h1 := not_zlt h1)) <;> (cbv; repeat (refine safe (by first | decide | (simp only [zi] at *; omega) | assumption | (dsimp only; omega) | (dsimp only at *; simp only [List.length_append, List.length_cons, List.length_nil, zi] at *; omega)) ?_; cbv))
  all_goals ((try refine br_rev ?_); (first | refine br_dec (fun h2 => ?_) (fun h2 => ?_) | refine br_ndec (fun h2 => ?_) (fun h2 => ?_) | refine br_nbool (fun h2 => ?_) (fun h2 => ?_) | refine br_bool (fun h2 => ?_) (fun h2 => ?_)); all_goals (try dsimp only at h2); all_goals (try with_reducible replace h2 := zi_lt.1 h2); all_goals (try with_reducible replace h2 := not_zlt h2))
  all_goals (cbv; repeat (refine safe (by first | decide | (simp only [zi] at *; omega) | assumption | (dsimp only; omega) | (dsimp only at *; simp only [List.length_append, List.length_cons, List.length_nil, zi] at *; omega)) ?_; cbv))
  all_goals try (exfalso; simp only [zi] at h1 h2; omega)
  all_goals
    refine nil_cell 3 2 9000 1 (fun _ => .nil) rfl rfl rfl ?_
    refine loop_at (X := List Int) 1000 [0, 2, 3] [2] (fun _ gs => .cons 4 (.int .i64 fun _ => zi (2 + gs.length)) .nil) (fun s gs => .cons 3 (.cells ((s.b.get 3).cs.put 2 (.row 9000))) (.cons 9000 (rowB 1 intCh 0 fun _ => gs) .nil)) (fun gs => gs.length ≤ 4 ∧ ∀ x ∈ gs, 0 ≤ x ∧ x < 16) (fun gs => 4 - gs.length) [] ?_ ⟨by simp, by simp⟩ ?_
  all_goals first | (cbv; (repeat' (first | exact True.intro | exact Same.refl _ | exact SameB.refl _ | exact ⟨rfl⟩ | exact Same.int rfl | exact Same.str rfl | exact Same.bool rfl | (refine Same.int ?_; simp only [List.length_append, List.length_cons, List.length_nil, zi]; omega) | (refine SameB.row' rfl fun i hi => ?_; first | rfl | exact absurd hi (Nat.not_lt_zero _)) | refine And.intro ?_ ?_ | refine SameB.cells ?_ | exact SameC.nil | refine SameC.cons ?_ ?_ | exact Same.nsl rfl | exact Same.tt rfl | exact Same.ff rfl)); done) | skip
  all_goals
    rintro gs ⟨hg1, hg2⟩
    cbv
    ((try refine br_rev ?_); (first | refine br_dec (fun h3 => ?_) (fun h3 => ?_) | refine br_ndec (fun h3 => ?_) (fun h3 => ?_) | refine br_nbool (fun h3 => ?_) (fun h3 => ?_) | refine br_bool (fun h3 => ?_) (fun h3 => ?_)); all_goals (try dsimp only at h3); all_goals (try with_reducible replace h3 := zi_lt.1 h3); all_goals (try with_reducible replace h3 := not_zlt h3))
  all_goals (cbv; repeat (refine safe (by first | decide | (simp only [zi] at *; omega) | assumption | (dsimp only; omega) | (dsimp only at *; simp only [List.length_append, List.length_cons, List.length_nil, zi] at *; omega)) ?_; cbv))
  all_goals try (((try refine br_rev ?_); (first | refine br_dec (fun h4 => ?_) (fun h4 => ?_) | refine br_ndec (fun h4 => ?_) (fun h4 => ?_) | refine br_nbool (fun h4 => ?_) (fun h4 => ?_) | refine br_bool (fun h4 => ?_) (fun h4 => ?_)); all_goals (try dsimp only at h4); all_goals (try with_reducible replace h4 := zi_lt.1 h4); all_goals (try with_reducible replace h4 := not_zlt h4)); (cbv; repeat (refine safe (by first | decide | (simp only [zi] at *; omega) | assumption | (dsimp only; omega) | (dsimp only at *; simp only [List.length_append, List.length_cons, List.length_nil, zi] at *; omega)) ?_; cbv)))
  all_goals try (exact ⟨_, .ret (y := Cred.av fun _ => ⟨_, _, gs, 0⟩) (by (repeat' (first | exact Same.refl _ | exact SameC.nil | refine SameC.cons ?_ ?_ | refine Same.agg ?_ | refine Same.tup ?_ | exact Same.nsl rfl | exact Same.tt rfl | exact Same.ff rfl | exact Same.int rfl | exact Same.str rfl | exact Same.bool rfl | refine Same.sl rfl ?_))), hr _ ⟨by first | exact r8 _ | exact z8, by first | exact r8 _ | exact z8, hg2, hg1, rfl⟩⟩)
  all_goals
    refine app_one intCh 0 gs ((IntKind.i64.wrap ((l .o).getD (2 + gs.length) 0)).tmod 16) rfl (fun i hi => rfl) rfl rfl (by omega) ?_
    cbv
    refine ⟨gs ++ [(IntKind.i64.wrap ((l .o).getD (2 + gs.length) 0)).tmod 16], ⟨by simp only [List.length_append, List.length_cons, List.length_nil]; simp only [zi] at *; omega, fun x hx => ?_⟩, by simp only [List.length_append, List.length_cons, List.length_nil]; simp only [zi] at *; omega, ?_⟩
    · rcases List.mem_append.1 hx with hx | hx
      · exact hg2 x hx
      · rw [List.mem_singleton.1 hx]; exact r16 _
    · rw [zi_succ (by omega)]
      cbv
      (repeat' (first | exact True.intro | exact Same.refl _ | exact SameB.refl _ | exact ⟨rfl⟩ | exact Same.int rfl | exact Same.str rfl | exact Same.bool rfl | (refine Same.int ?_; simp only [List.length_append, List.length_cons, List.length_nil, zi]; omega) | (refine SameB.row' rfl fun i hi => ?_; first | rfl | exact absurd hi (Nat.not_lt_zero _)) | refine And.intro ?_ ?_ | refine SameB.cells ?_ | exact SameC.nil | refine SameC.cons ?_ ?_ | exact Same.nsl rfl | exact Same.tt rfl | exact Same.ff rfl))
end Go.Proofs.Ytgjlkcdnlndlnaa
/- What the laws make by numbers: access lists. -/
namespace Go.Proofs.Ytgjlkcdnlndlnaa
open Go Go.Proofs.Ytgjlkcdnlndlnaa.Sx F
set_option linter.unusedVariables false
set_option linter.unusedSimpArgs false

/-- In order, each Id once. -/
def addS (a : Ace) : List Ace → List Ace
  | [] => [a]
  | x :: r => if x.id < a.id then x :: addS a r else if x.id = a.id then a :: r else a :: x :: r
theorem addS_at (a : Ace) : ∀ (l : List Ace) (k : Nat), k ≤ l.length → (∀ j, j < k → (l.getD j Ace.z).id < a.id) → (k < l.length → ¬ (l.getD k Ace.z).id < a.id) →
    addS a l = l.take k ++ a :: (if k < l.length ∧ (l.getD k Ace.z).id = a.id then l.drop (k + 1) else l.drop k)
  | [], k, hk, _, _ => by simp at hk; subst hk; simp [addS]
  | x :: r, 0, _, _, h => by
    have h := h (by simp)
    simp at h
    simp [addS]
    by_cases he : x.id = a.id <;> simp [he]
    intro q; omega
  | x :: r, k + 1, hk, hj, h => by
    have h0 := hj 0 (by omega)
    have := addS_at a r k (by simpa using hk) (fun j hj' => by simpa using hj (j + 1) (by omega)) (fun q => by simpa using h (by simpa using q))
    simp at h0
    simp [addS, h0, this]
theorem addS_len (a : Ace) : ∀ l : List Ace, (addS a l).length ≤ l.length + 1
  | [] => by simp [addS]
  | x :: r => by
    have := addS_len a r
    unfold addS
    split
    · simp; omega
    · split <;> simp

theorem add_c (l : Th (List Ace)) (a : Th Ace) (hl : (l .o).length ≤ 1000) {d : Nat} {K : ARes → BL → Prop} (hr : ∀ r : Th (List Ace), r .o = addS (a .o) (l .o) → K (.ret (aces r)) .nil) : CallAt PT l9_add [aces l, Ace.av a] d .nil K := by
  refine l9_add.of rfl rfl ?_
  cbv
  refine loop_rule (X := Nat) 1000 [0, 3] [3] (fun k => .cons 5 (.int .i64 fun _ => zi k) .nil) (fun _ => .nil) (fun k => k ≤ (l .o).length ∧ ∀ j, j < k → ((l .o).getD j Ace.z).id < (a .o).id) (fun k => (l .o).length - k) 0 ?_ ⟨Nat.zero_le _, fun j hj => by omega⟩ ?_
  · cbv
    (repeat' (first | exact True.intro | exact Same.refl _ | exact SameB.refl _ | exact ⟨rfl⟩ | exact Same.int rfl | exact Same.str rfl | exact Same.bool rfl | (refine Same.int ?_; simp only [List.length_append, List.length_cons, List.length_nil, zi]; omega) | (refine SameB.row' rfl fun i hi => ?_; first | rfl | exact absurd hi (Nat.not_lt_zero _)) | refine And.intro ?_ ?_ | refine SameB.cells ?_ | exact SameC.nil | refine SameC.cons ?_ ?_ | exact Same.nsl rfl | exact Same.tt rfl | exact Same.ff rfl))
  · intro k hk
    obtain ⟨hk, hj⟩ := hk
    have fin : (k < (l .o).length → ¬ ((l .o).getD k Ace.z).id < (a .o).id) → addS (a .o) (l .o) = (l .o).take k ++ (a .o) :: (if k < (l .o).length ∧ ((l .o).getD k Ace.z).id = (a .o).id then (l .o).drop (k + 1) else (l .o).drop k) := addS_at _ _ k hk hj
    cbv
    ((try refine br_rev ?_); (first | refine br_dec (fun h1 => ?_) (fun h1 => ?_) | refine br_ndec (fun h1 => ?_) (fun h1 => ?_) | refine br_nbool (fun h1 => ?_) (fun h1 => ?_) | refine br_bool (fun h1 => ?_) (fun h1 => ?_)); all_goals (try dsimp only at h1); all_goals (try with_reducible replace h1 := zi_lt.1 h1); all_goals (try with_reducible replace h1 := not_zlt h1)) <;> cbv
    focus (refine safe ⟨zi_nonneg _, zi_lt.2 (by omega)⟩ ?_; cbv; ((try refine br_rev ?_); (first | refine br_dec (fun h2 => ?_) (fun h2 => ?_) | refine br_ndec (fun h2 => ?_) (fun h2 => ?_) | refine br_nbool (fun h2 => ?_) (fun h2 => ?_) | refine br_bool (fun h2 => ?_) (fun h2 => ?_)); all_goals (try dsimp only at h2); all_goals (try with_reducible replace h2 := zi_lt.1 h2); all_goals (try with_reducible replace h2 := not_zlt h2)) <;> cbv)
    · refine ⟨k + 1, ⟨h1, fun j hj' => ?_⟩, by omega, ?_⟩
      · by_cases he : j = k
        · subst he; exact h2
        · exact hj j (by omega)
      · cbv
        rw [zi_succ (by omega)]
        (repeat' (first | exact True.intro | exact Same.refl _ | exact SameB.refl _ | exact ⟨rfl⟩ | exact Same.int rfl | exact Same.str rfl | exact Same.bool rfl | (refine Same.int ?_; simp only [List.length_append, List.length_cons, List.length_nil, zi]; omega) | (refine SameB.row' rfl fun i hi => ?_; first | rfl | exact absurd hi (Nat.not_lt_zero _)) | refine And.intro ?_ ?_ | refine SameB.cells ?_ | exact SameC.nil | refine SameC.cons ?_ ?_ | exact Same.nsl rfl | exact Same.tt rfl | exact Same.ff rfl))
    focus (replace fin := fin fun _ => h2)
    rotate_left
    focus (replace fin := fin fun q => by omega)
    all_goals
      refine safe ⟨zi_nonneg _, zi_le.2 hk, Int.le_refl _⟩ ?_
      refine app_rows0 Ace.ch Ace.z ((l .o).drop k) rfl (by simp [zi]) (fun i hi => by simp only [getD_drop]; rfl) (by simp only [List.length_drop]; omega) ?_
      cbv
      ((try refine br_rev ?_); (first | refine br_dec (fun h3 => ?_) (fun h3 => ?_) | refine br_ndec (fun h3 => ?_) (fun h3 => ?_) | refine br_nbool (fun h3 => ?_) (fun h3 => ?_) | refine br_bool (fun h3 => ?_) (fun h3 => ?_)); all_goals (try dsimp only at h3); all_goals (try with_reducible replace h3 := zi_lt.1 h3); all_goals (try with_reducible replace h3 := not_zlt h3))
    all_goals cbv
    all_goals try (have h3' : 0 < ((l .o).drop k).length := zi_lt.1 h3; refine safe ⟨Int.le_refl _, h3⟩ ?_; refine safe h3' ?_; cbv; ((try refine br_rev ?_); (first | refine br_dec (fun h4 => ?_) (fun h4 => ?_) | refine br_ndec (fun h4 => ?_) (fun h4 => ?_) | refine br_nbool (fun h4 => ?_) (fun h4 => ?_) | refine br_bool (fun h4 => ?_) (fun h4 => ?_)); all_goals (try dsimp only at h4); all_goals (try with_reducible replace h4 := zi_lt.1 h4); all_goals (try with_reducible replace h4 := not_zlt h4)))
    all_goals cbv
    all_goals have htk : ((l .o).take k).length = k := by rw [List.length_take]; omega
    all_goals try refine safe ⟨by decide, zi_le.2 h3', Int.le_refl _⟩ ?_
    all_goals
      refine safe ⟨Int.le_refl _, zi_nonneg _, zi_le.2 hk⟩ ?_
      refine app_rows0 Ace.ch Ace.z ((l .o).take k) rfl (by rw [htk]; simp [zi]) (fun i hi => by rw [htk] at hi; simp only [getD_take _ _ _ _ hi]; exact congrArg (fun j => Ace.ch fun _ => (l .o).getD j Ace.z) (by simp)) (by rw [htk]; omega) ?_
      cbv
      refine app_one Ace.ch Ace.z _ (a .o) rfl (fun i hi => rfl) rfl rfl (by rw [htk]; omega) ?_
      cbv
    all_goals first
      | (refine app_rows Ace.ch Ace.z ((l .o).take k ++ [a .o]) ((l .o).drop k) rfl (fun i hi => rfl) rfl (fun i hi => rfl) (by rw [List.length_append, htk, List.length_drop]; simp only [List.length_cons, List.length_nil]; omega) ?_
         cbv
         exact hr (fun _ => (l .o).take k ++ [a .o] ++ (l .o).drop k) (by
           rw [fin, if_neg (by
             rintro ⟨q1, q2⟩
             first
             | exact h4 (by simpa [getD_drop] using q2)
             | exact h3 ((zi_lt (a := 0)).2 (by rw [List.length_drop]; omega)))]
           simp)
         done)
      | (refine app_rows Ace.ch Ace.z ((l .o).take k ++ [a .o]) ((l .o).drop (k + 1)) rfl (fun i hi => rfl) (by simp [zi]; omega) (fun i hi => by simp only [getD_drop]; exact congrArg (fun j => Ace.ch fun _ => (l .o).getD j Ace.z) (by simp [Nat.add_assoc])) (by simp only [List.length_append, htk, List.length_drop, List.length_cons, List.length_nil]; omega) ?_
         cbv
         exact hr (fun _ => (l .o).take k ++ [a .o] ++ (l .o).drop (k + 1)) (by
           rw [fin, if_pos ⟨by rw [List.length_drop] at h3'; omega, by simpa [getD_drop] using h4⟩]
           simp)
         done)
theorem add_c' (l : Th (List Ace)) (a : Th Ace) (hl : (l .o).length ≤ 1000) {d : Nat} {K : ARes → BL → Prop} (hr : K (.ret (aces fun _ => addS (a .o) (l .o))) .nil) : CallAt PT l9_add [aces l, Ace.av a] d .nil K :=
  add_c l a hl fun r hr' => by
    have : r = fun _ => addS (a .o) (l .o) := funext fun | .o => hr'
    subst this
    exact hr
/-- Users and groups out of the first k pairs. -/
def accS (ns : List Int) : Nat → List Ace × List Ace
  | 0 => ([], [])
  | k + 1 =>
    if (ns.getD (2 * k) 0).tmod 2 = 0 then (addS ⟨2, (ns.getD (2 * k) 0).tdiv 2, (ns.getD (2 * k + 1) 0).tmod 8⟩ (accS ns k).1, (accS ns k).2)
    else ((accS ns k).1, addS ⟨4, (ns.getD (2 * k) 0).tdiv 2, (ns.getD (2 * k + 1) 0).tmod 8⟩ (accS ns k).2)
theorem accS_len (ns : List Int) : ∀ k, (accS ns k).1.length ≤ k ∧ (accS ns k).2.length ≤ k
  | 0 => by simp [accS]
  | k + 1 => by
    have := accS_len ns k
    unfold accS
    split
    · have := addS_len ⟨2, (ns.getD (2 * k) 0).tdiv 2, (ns.getD (2 * k + 1) 0).tmod 8⟩ (accS ns k).1
      dsimp only; omega
    · have := addS_len ⟨4, (ns.getD (2 * k) 0).tdiv 2, (ns.getD (2 * k + 1) 0).tmod 8⟩ (accS ns k).2
      dsimp only; omega
def pairs (ns : List Int) : Nat := min 6 (ns.length / 2)
def bxor (a b : Int) : Int := abits .xor .i64 a b
def l9S (ns : List Int) (m : Int) : List Ace :=
  let u := (accS ns (pairs ns)).1
  let g := (accS ns (pairs ns)).2
  if u.length + g.length = 0 then [⟨1, 0, band (m.fdiv (2 ^ 6)) 7⟩] ++ u ++ [⟨3, 0, band (m.fdiv (2 ^ 3)) 7⟩, ⟨6, 0, band m 7⟩]
  else [⟨1, 0, band (m.fdiv (2 ^ 6)) 7⟩] ++ u ++ [⟨3, 0, bxor (band (m.fdiv (2 ^ 3)) 7) ((ns.getD 0 0).tmod 8)⟩] ++ g ++ [⟨5, 0, band (m.fdiv (2 ^ 3)) 7⟩, ⟨6, 0, band m 7⟩]

theorem l9_c (ns : Th (List Int)) (m : Th Int) (hns : isBytes (ns .o)) (hs : short (ns .o)) {d : Nat} {K : ARes → BL → Prop} (hr : ∀ r : Th (List Ace), r .o = l9S (ns .o) (m .o) → K (.ret (aces r)) .nil) : CallAt PT l9_Make [byteI ns, .int .i64 m] d .nil K := by
  refine l9_Make.of rfl rfl ?_
  (cbv; repeat (refine safe (by first | decide | (simp only [zi] at *; omega) | assumption | (dsimp only; omega) | (dsimp only at *; simp only [List.length_append, List.length_cons, List.length_nil, zi] at *; omega)) ?_; cbv))
  refine loop_rule (X := Nat) 1000 [0, 5, 6, 7] [] (fun k => .cons 8 (aces fun _ => (accS (ns .o) k).1) (.cons 9 (aces fun _ => (accS (ns .o) k).2) (.cons 10 (.int .i64 fun _ => zi (2 * k)) .nil))) (fun _ => .nil) (fun k => k ≤ pairs (ns .o)) (fun k => 6 - k) 0 ?_ (Nat.zero_le _) ?_
  · cbv
    (repeat' (first | exact True.intro | exact Same.refl _ | exact SameB.refl _ | exact ⟨rfl⟩ | exact Same.int rfl | exact Same.str rfl | exact Same.bool rfl | (refine Same.int ?_; simp only [List.length_append, List.length_cons, List.length_nil, zi]; omega) | (refine SameB.row' rfl fun i hi => ?_; first | rfl | exact absurd hi (Nat.not_lt_zero _)) | refine And.intro ?_ ?_ | refine SameB.cells ?_ | exact SameC.nil | refine SameC.cons ?_ ?_ | exact Same.nsl rfl | exact Same.tt rfl | exact Same.ff rfl))
    all_goals exact Same.nsl rfl
  · intro k hk
    have hp : pairs (ns .o) = min 6 ((ns .o).length / 2) := rfl
    have hl := accS_len (ns .o) k
    unfold short at hs
    have hsucc : IntKind.i64.wrap (zi (2 * k) + 1) = zi (2 * k + 1) := zi_succ (by omega)
    cbv
    rw [hsucc]
    ((try refine br_rev ?_); (first | refine br_dec (fun h1 => ?_) (fun h1 => ?_) | refine br_ndec (fun h1 => ?_) (fun h1 => ?_) | refine br_nbool (fun h1 => ?_) (fun h1 => ?_) | refine br_bool (fun h1 => ?_) (fun h1 => ?_)); all_goals (try dsimp only at h1); all_goals (try with_reducible replace h1 := zi_lt.1 h1); all_goals (try with_reducible replace h1 := not_zlt h1)) <;> cbv
    all_goals try (((try refine br_rev ?_); (first | refine br_dec (fun h2 => ?_) (fun h2 => ?_) | refine br_ndec (fun h2 => ?_) (fun h2 => ?_) | refine br_nbool (fun h2 => ?_) (fun h2 => ?_) | refine br_bool (fun h2 => ?_) (fun h2 => ?_)); all_goals (try dsimp only at h2); all_goals (try with_reducible replace h2 := zi_lt.1 h2); all_goals (try with_reducible replace h2 := not_zlt h2)); replace h2 : 2 * k < 12 := h2; rotate_left; replace h2 : 12 ≤ 2 * k := h2; rotate_left)
    all_goals cbv
    focus
      refine safe ⟨zi_nonneg _, zi_lt.2 (by omega)⟩ ?_
      refine safe (by decide) ?_
      refine safe (by rw [hsucc]; exact ⟨zi_nonneg _, zi_lt.2 h1⟩) ?_
      refine safe (by decide) ?_
      refine safe ⟨zi_nonneg _, zi_lt.2 (by omega)⟩ ?_
      refine safe (by decide) ?_
      rw [hsucc]
      have hb : ∀ j, IntKind.i64.wrap ((ns .o).getD j 0) = (ns .o).getD j 0 := fun j => wrap_byte (byte_at hns)
      have hq : ∀ j, IntKind.i64.wrap (((ns .o).getD j 0).tdiv 2) = ((ns .o).getD j 0).tdiv 2 := fun j => wrap_byte (by
        have := byte_at hns (k := j)
        rw [Int.tdiv_eq_ediv_of_nonneg this.1]
        omega)
      ((try refine br_rev ?_); (first | refine br_dec (fun h3 => ?_) (fun h3 => ?_) | refine br_ndec (fun h3 => ?_) (fun h3 => ?_) | refine br_nbool (fun h3 => ?_) (fun h3 => ?_) | refine br_bool (fun h3 => ?_) (fun h3 => ?_)); all_goals (try dsimp only at h3); all_goals (try with_reducible replace h3 := zi_lt.1 h3); all_goals (try with_reducible replace h3 := not_zlt h3)) <;> cbv
      · rw [zi_toNat] at h3
        refine add_c' (fun _ => (accS (ns .o) k).1) (fun _ => ⟨2, IntKind.i64.wrap ((IntKind.i64.wrap ((ns .o).getD (zi (2 * k)).toNat 0)).tdiv 2), (IntKind.i64.wrap ((ns .o).getD (zi (2 * k + 1)).toNat 0)).tmod 8⟩) (by omega) ?_
        cbv
        have e : accS (ns .o) (k + 1) = (addS ⟨2, ((ns .o).getD (2 * k) 0).tdiv 2, ((ns .o).getD (2 * k + 1) 0).tmod 8⟩ (accS (ns .o) k).1, (accS (ns .o) k).2) := by
          rw [accS, if_pos h3]
        refine ⟨k + 1, by omega, by omega, ?_⟩
        cbv
        rw [e]
        dsimp only
        rw [zi_toNat, zi_toNat, hb, hb, hq]
        (repeat' (first | exact True.intro | exact Same.refl _ | exact SameB.refl _ | exact ⟨rfl⟩ | exact Same.int rfl | exact Same.str rfl | exact Same.bool rfl | (refine Same.int ?_; simp only [List.length_append, List.length_cons, List.length_nil, zi]; omega) | (refine SameB.row' rfl fun i hi => ?_; first | rfl | exact absurd hi (Nat.not_lt_zero _)) | refine And.intro ?_ ?_ | refine SameB.cells ?_ | exact SameC.nil | refine SameC.cons ?_ ?_ | exact Same.nsl rfl | exact Same.tt rfl | exact Same.ff rfl))
        exact Same.int (by rw [IntKind.wrap_i64]; unfold zi; omega)
      · rw [zi_toNat] at h3
        refine add_c' (fun _ => (accS (ns .o) k).2) (fun _ => ⟨4, IntKind.i64.wrap ((IntKind.i64.wrap ((ns .o).getD (zi (2 * k)).toNat 0)).tdiv 2), (IntKind.i64.wrap ((ns .o).getD (zi (2 * k + 1)).toNat 0)).tmod 8⟩) (by omega) ?_
        cbv
        have e : accS (ns .o) (k + 1) = ((accS (ns .o) k).1, addS ⟨4, ((ns .o).getD (2 * k) 0).tdiv 2, ((ns .o).getD (2 * k + 1) 0).tmod 8⟩ (accS (ns .o) k).2) := by
          rw [accS, if_neg h3]
        refine ⟨k + 1, by omega, by omega, ?_⟩
        cbv
        rw [e]
        dsimp only
        rw [zi_toNat, zi_toNat, hb, hb, hq]
        (repeat' (first | exact True.intro | exact Same.refl _ | exact SameB.refl _ | exact ⟨rfl⟩ | exact Same.int rfl | exact Same.str rfl | exact Same.bool rfl | (refine Same.int ?_; simp only [List.length_append, List.length_cons, List.length_nil, zi]; omega) | (refine SameB.row' rfl fun i hi => ?_; first | rfl | exact absurd hi (Nat.not_lt_zero _)) | refine And.intro ?_ ?_ | refine SameB.cells ?_ | exact SameC.nil | refine SameC.cons ?_ ?_ | exact Same.nsl rfl | exact Same.tt rfl | exact Same.ff rfl))
        exact Same.int (by rw [IntKind.wrap_i64]; unfold zi; omega)
    all_goals
      have hk6 : k = pairs (ns .o) := by omega
      refine app_rows Ace.ch Ace.z [⟨1, 0, band ((m .o).fdiv (2 ^ 6)) 7⟩] (accS (ns .o) k).1 rfl (fun i hi => by
        have : i = 0 := by simpa using hi
        subst this
        rfl) rfl (fun i hi => rfl) (by simp only [List.length_cons, List.length_nil]; omega) ?_
      cbv
      have hsum : IntKind.i64.wrap (zi (accS (ns .o) k).1.length + zi (accS (ns .o) k).2.length) = zi ((accS (ns .o) k).1.length + (accS (ns .o) k).2.length) := by rw [IntKind.wrap_i64]; unfold zi; omega
      rw [hsum]
      ((try refine br_rev ?_); (first | refine br_dec (fun h3 => ?_) (fun h3 => ?_) | refine br_ndec (fun h3 => ?_) (fun h3 => ?_) | refine br_nbool (fun h3 => ?_) (fun h3 => ?_) | refine br_bool (fun h3 => ?_) (fun h3 => ?_)); all_goals (try dsimp only at h3); all_goals (try with_reducible replace h3 := zi_lt.1 h3); all_goals (try with_reducible replace h3 := not_zlt h3)) <;> cbv
    all_goals first
      | (refine app_rows Ace.ch Ace.z ([⟨1, 0, band ((m .o).fdiv (2 ^ 6)) 7⟩] ++ (accS (ns .o) k).1) [⟨3, 0, band ((m .o).fdiv (2 ^ 3)) 7⟩, ⟨6, 0, band (m .o) 7⟩] rfl (fun i hi => rfl) rfl (fun i hi => by
           have hi : i < 2 := hi
           match i, hi with
           | 0, _ => rfl
           | 1, _ => rfl) (by simp only [List.length_append, List.length_cons, List.length_nil]; omega) ?_
         cbv
         exact hr (fun _ => _) (by
           have h3' : (accS (ns .o) (pairs (ns .o))).1.length + (accS (ns .o) (pairs (ns .o))).2.length = 0 := by rw [← hk6]; exact zi_inj.1 h3
           unfold l9S
           dsimp only
           rw [if_pos h3', ← hk6])
         done)
      | (have h3' : ¬ (accS (ns .o) (pairs (ns .o))).1.length + (accS (ns .o) (pairs (ns .o))).2.length = 0 := by rw [← hk6]; exact fun q => h3 (zi_inj.2 q)
         have hpos : 0 < (ns .o).length := by
           rw [← hk6] at h3'
           omega
         refine safe ⟨Int.le_refl _, (zi_lt (a := 0)).2 hpos⟩ ?_
         refine safe (by decide) ?_
         rw [wrap_byte (byte_at hns (k := (0 : Int).toNat))]
         refine app_one Ace.ch Ace.z ([⟨1, 0, band ((m .o).fdiv (2 ^ 6)) 7⟩] ++ (accS (ns .o) k).1) ⟨3, 0, bxor (band ((m .o).fdiv (2 ^ 3)) 7) (((ns .o).getD 0 0).tmod 8)⟩ rfl (fun i hi => rfl) rfl rfl (by simp only [List.length_append, List.length_cons, List.length_nil]; omega) ?_
         cbv
         refine app_rows Ace.ch Ace.z _ (accS (ns .o) k).2 rfl (fun i hi => rfl) rfl (fun i hi => rfl) (by simp only [List.length_append, List.length_cons, List.length_nil]; omega) ?_
         cbv
         refine app_rows Ace.ch Ace.z _ [⟨5, 0, band ((m .o).fdiv (2 ^ 3)) 7⟩, ⟨6, 0, band (m .o) 7⟩] rfl (fun i hi => rfl) rfl (fun i hi => by
           have hi : i < 2 := hi
           match i, hi with
           | 0, _ => rfl
           | 1, _ => rfl) (by simp only [List.length_append, List.length_cons, List.length_nil]; omega) ?_
         cbv
         exact hr (fun _ => _) (by
           unfold l9S
           dsimp only
           rw [if_neg h3', ← hk6])
         done)
end Go.Proofs.Ytgjlkcdnlndlnaa
/- What the laws make by numbers: names with values. -/
namespace Go.Proofs.Ytgjlkcdnlndlnaa
open Go Go.Proofs.Ytgjlkcdnlndlnaa.Sx F
set_option linter.unusedVariables false
set_option linter.unusedSimpArgs false

/-! ### the order of texts -/
theorem lt_irr : ∀ a : List UInt8, strLt a a = false
  | [] => rfl
  | x :: r => by
    have := lt_irr r
    unfold strLt at *
    simp [Op.bytesLess, this]
theorem lt_trans' : ∀ {a b c : List UInt8}, strLt a b = true → strLt b c = true → strLt a c = true
  | _, _, [], _, h => by unfold strLt at h; simp [Op.bytesLess] at h
  | _, [], _ :: _, h, _ => by unfold strLt at h; simp [Op.bytesLess] at h
  | [], _ :: _, _ :: _, _, _ => rfl
  | x :: a, y :: b, z :: c, h, k => by
    have ih := @lt_trans' a b c
    unfold strLt at *
    simp only [Op.bytesLess, Bool.or_eq_true, Bool.and_eq_true, decide_eq_true_eq, beq_iff_eq] at *
    rcases h with h | ⟨rfl, h⟩
    · rcases k with k | ⟨rfl, k⟩
      · exact .inl (UInt8.lt_trans h k)
      · exact .inl h
    · rcases k with k | ⟨rfl, k⟩
      · exact .inl k
      · exact .inr ⟨rfl, ih h k⟩
theorem lt_tri : ∀ {a b : List UInt8}, strLt a b = false → a ≠ b → strLt b a = true
  | [], [], _, h => (h rfl).elim
  | [], _ :: _, h, _ => by unfold strLt at h; simp [Op.bytesLess] at h
  | _ :: _, [], _, _ => rfl
  | x :: a, y :: b, h, k => by
    have ih := @lt_tri a b
    unfold strLt at *
    simp only [Op.bytesLess, Bool.or_eq_true, Bool.and_eq_true, decide_eq_true_eq, beq_iff_eq, Bool.or_eq_false_iff, decide_eq_false_iff_not] at *
    rcases Nat.lt_trichotomy x.toNat y.toNat with q | q | q
    · exact (h.1 (UInt8.lt_iff_toNat_lt.2 q)).elim
    · obtain rfl : x = y := UInt8.toNat_inj.1 q
      simp only [beq_self_eq_true, Bool.true_and] at h
      exact .inr ⟨rfl, ih h.2 fun e => k (by rw [e])⟩
    · exact .inl (UInt8.lt_iff_toNat_lt.2 q)
def ltX (x y : Xattr) : Prop := strLt x.name y.name = true
/-- In order, each name once. -/
def addX (a : Xattr) : List Xattr → List Xattr
  | [] => [a]
  | x :: r => if strLt x.name a.name = true then x :: addX a r else if x.name = a.name then a :: r else a :: x :: r
theorem addX_at (a : Xattr) : ∀ (l : List Xattr) (k : Nat), k ≤ l.length → (∀ j, j < k → strLt (l.getD j Xattr.z).name a.name = true) → (k < l.length → ¬ strLt (l.getD k Xattr.z).name a.name = true) →
    addX a l = l.take k ++ a :: (if k < l.length ∧ (l.getD k Xattr.z).name = a.name then l.drop (k + 1) else l.drop k)
  | [], k, hk, _, _ => by simp at hk; subst hk; simp [addX]
  | x :: r, 0, _, _, h => by
    have h := h (by simp)
    simp at h
    simp [addX]
    by_cases he : x.name = a.name
    · simp [he, lt_irr]
    · simp [h, he]
  | x :: r, k + 1, hk, hj, h => by
    have h0 := hj 0 (by omega)
    have := addX_at a r k (by simpa using hk) (fun j hj' => by simpa using hj (j + 1) (by omega)) (fun q => by simpa using h (by simpa using q))
    simp at h0
    simp [addX, h0, this]
theorem addX_mem {a x : Xattr} : ∀ {l : List Xattr}, x ∈ addX a l → x = a ∨ x ∈ l
  | [], h => by simp [addX] at h; exact .inl h
  | y :: r, h => by
    unfold addX at h
    split at h
    · rcases List.mem_cons.1 h with h | h
      · exact .inr (by simp [h])
      · rcases addX_mem h with h | h
        · exact .inl h
        · exact .inr (by simp [h])
    · split at h
      · rcases List.mem_cons.1 h with h | h
        · exact .inl h
        · exact .inr (by simp [h])
      · rcases List.mem_cons.1 h with h | h
        · exact .inl h
        · exact .inr h
theorem addX_up (a : Xattr) : ∀ l : List Xattr, l.Pairwise ltX → (addX a l).Pairwise ltX
  | [], _ => by simp [addX]
  | x :: r, h => by
    obtain ⟨h1, h2⟩ := List.pairwise_cons.1 h
    unfold addX
    split
    · rename_i hlt
      refine List.pairwise_cons.2 ⟨fun y hy => ?_, addX_up a r h2⟩
      rcases addX_mem hy with rfl | hy
      · exact hlt
      · exact h1 y hy
    · rename_i hlt
      split
      · rename_i he
        exact List.pairwise_cons.2 ⟨fun y hy => by unfold ltX; rw [← he]; exact h1 y hy, h2⟩
      · rename_i hne
        have ha : ltX a x := lt_tri (by simpa using hlt) hne
        refine List.pairwise_cons.2 ⟨fun y hy => ?_, h⟩
        rcases List.mem_cons.1 hy with rfl | hy
        · exact ha
        · exact lt_trans' ha (h1 y hy)
theorem addX_len (a : Xattr) : ∀ l : List Xattr, (addX a l).length ≤ l.length + 1
  | [] => by simp [addX]
  | x :: r => by
    have := addX_len a r
    unfold addX
    split
    · simp; omega
    · split <;> simp
theorem addxs_c (l : Th (List Xattr)) (a : Th Xattr) (hl : (l .o).length ≤ 1000) {d : Nat} {K : ARes → BL → Prop} (hr : ∀ r : Th (List Xattr), r .o = addX (a .o) (l .o) → K (.ret (xattrs r)) .nil) : CallAt PT l13_add [xattrs l, Xattr.av a] d .nil K := by
  refine l13_add.of rfl rfl ?_
  cbv
  refine loop_rule (X := Nat) 1000 [0, 3] [3] (fun k => .cons 5 (.int .i64 fun _ => zi k) .nil) (fun _ => .nil) (fun k => k ≤ (l .o).length ∧ ∀ j, j < k → strLt ((l .o).getD j Xattr.z).name (a .o).name = true) (fun k => (l .o).length - k) 0 ?_ ⟨Nat.zero_le _, fun j hj => by omega⟩ ?_
  · cbv
    (repeat' (first | exact True.intro | exact Same.refl _ | exact SameB.refl _ | exact ⟨rfl⟩ | exact Same.int rfl | exact Same.str rfl | exact Same.bool rfl | (refine Same.int ?_; simp only [List.length_append, List.length_cons, List.length_nil, zi]; omega) | (refine SameB.row' rfl fun i hi => ?_; first | rfl | exact absurd hi (Nat.not_lt_zero _)) | refine And.intro ?_ ?_ | refine SameB.cells ?_ | exact SameC.nil | refine SameC.cons ?_ ?_ | exact Same.nsl rfl | exact Same.tt rfl | exact Same.ff rfl))
  · intro k hk
    obtain ⟨hk, hj⟩ := hk
    have fin : (k < (l .o).length → ¬ strLt ((l .o).getD k Xattr.z).name (a .o).name = true) → addX (a .o) (l .o) = (l .o).take k ++ (a .o) :: (if k < (l .o).length ∧ ((l .o).getD k Xattr.z).name = (a .o).name then (l .o).drop (k + 1) else (l .o).drop k) := addX_at _ _ k hk hj
    have hz := zi_toNat k
    cbv
    ((try refine br_rev ?_); (first | refine br_dec (fun h1 => ?_) (fun h1 => ?_) | refine br_ndec (fun h1 => ?_) (fun h1 => ?_) | refine br_nbool (fun h1 => ?_) (fun h1 => ?_) | refine br_bool (fun h1 => ?_) (fun h1 => ?_)); all_goals (try dsimp only at h1); all_goals (try with_reducible replace h1 := zi_lt.1 h1); all_goals (try with_reducible replace h1 := not_zlt h1)) <;> cbv
    focus (refine safe ⟨zi_nonneg _, zi_lt.2 (by omega)⟩ ?_; cbv; ((try refine br_rev ?_); (first | refine br_dec (fun h2 => ?_) (fun h2 => ?_) | refine br_ndec (fun h2 => ?_) (fun h2 => ?_) | refine br_nbool (fun h2 => ?_) (fun h2 => ?_) | refine br_bool (fun h2 => ?_) (fun h2 => ?_)); all_goals (try dsimp only at h2); all_goals (try with_reducible replace h2 := zi_lt.1 h2); all_goals (try with_reducible replace h2 := not_zlt h2)) <;> cbv)
    · rw [hz] at h2
      refine ⟨k + 1, ⟨h1, fun j hj' => ?_⟩, by omega, ?_⟩
      · by_cases he : j = k
        · subst he; exact h2
        · exact hj j (by omega)
      · cbv
        rw [zi_succ (by omega)]
        (repeat' (first | exact True.intro | exact Same.refl _ | exact SameB.refl _ | exact ⟨rfl⟩ | exact Same.int rfl | exact Same.str rfl | exact Same.bool rfl | (refine Same.int ?_; simp only [List.length_append, List.length_cons, List.length_nil, zi]; omega) | (refine SameB.row' rfl fun i hi => ?_; first | rfl | exact absurd hi (Nat.not_lt_zero _)) | refine And.intro ?_ ?_ | refine SameB.cells ?_ | exact SameC.nil | refine SameC.cons ?_ ?_ | exact Same.nsl rfl | exact Same.tt rfl | exact Same.ff rfl))
    focus (rw [hz] at h2; replace fin := fin fun _ => by rw [h2]; decide)
    rotate_left
    focus (replace fin := fin fun q => by omega)
    all_goals
      refine safe ⟨zi_nonneg _, zi_le.2 hk, Int.le_refl _⟩ ?_
      refine app_rows0 Xattr.ch Xattr.z ((l .o).drop k) rfl (by simp [zi]) (fun i hi => by simp only [getD_drop]; rfl) (by simp only [List.length_drop]; omega) ?_
      cbv
      ((try refine br_rev ?_); (first | refine br_dec (fun h3 => ?_) (fun h3 => ?_) | refine br_ndec (fun h3 => ?_) (fun h3 => ?_) | refine br_nbool (fun h3 => ?_) (fun h3 => ?_) | refine br_bool (fun h3 => ?_) (fun h3 => ?_)); all_goals (try dsimp only at h3); all_goals (try with_reducible replace h3 := zi_lt.1 h3); all_goals (try with_reducible replace h3 := not_zlt h3))
    all_goals cbv
    all_goals try (have h3' : 0 < ((l .o).drop k).length := zi_lt.1 h3; refine safe ⟨Int.le_refl _, h3⟩ ?_; refine safe h3' ?_; cbv; ((try refine br_rev ?_); (first | refine br_dec (fun h4 => ?_) (fun h4 => ?_) | refine br_ndec (fun h4 => ?_) (fun h4 => ?_) | refine br_nbool (fun h4 => ?_) (fun h4 => ?_) | refine br_bool (fun h4 => ?_) (fun h4 => ?_)); all_goals (try dsimp only at h4); all_goals (try with_reducible replace h4 := zi_lt.1 h4); all_goals (try with_reducible replace h4 := not_zlt h4)))
    all_goals cbv
    all_goals have htk : ((l .o).take k).length = k := by rw [List.length_take]; omega
    all_goals try refine safe ⟨by decide, zi_le.2 h3', Int.le_refl _⟩ ?_
    all_goals
      refine safe ⟨Int.le_refl _, zi_nonneg _, zi_le.2 hk⟩ ?_
      refine app_rows0 Xattr.ch Xattr.z ((l .o).take k) rfl (by rw [htk]; simp [zi]) (fun i hi => by rw [htk] at hi; simp only [getD_take _ _ _ _ hi]; exact congrArg (fun j => Xattr.ch fun _ => (l .o).getD j Xattr.z) (by simp)) (by rw [htk]; omega) ?_
      cbv
      refine app_one Xattr.ch Xattr.z _ (a .o) rfl (fun i hi => rfl) rfl rfl (by rw [htk]; omega) ?_
      cbv
    all_goals first
      | (refine app_rows Xattr.ch Xattr.z ((l .o).take k ++ [a .o]) ((l .o).drop k) rfl (fun i hi => rfl) rfl (fun i hi => rfl) (by rw [List.length_append, htk, List.length_drop]; simp only [List.length_cons, List.length_nil]; omega) ?_
         cbv
         exact hr (fun _ => (l .o).take k ++ [a .o] ++ (l .o).drop k) (by
           rw [fin, if_neg (by
             rintro ⟨q1, q2⟩
             first
             | exact h4 (by simpa [getD_drop] using q2)
             | exact h3 ((zi_lt (a := 0)).2 (by rw [List.length_drop]; omega)))]
           simp)
         done)
      | (refine app_rows Xattr.ch Xattr.z ((l .o).take k ++ [a .o]) ((l .o).drop (k + 1)) rfl (fun i hi => rfl) (by simp [zi]; omega) (fun i hi => by simp only [getD_drop]; exact congrArg (fun j => Xattr.ch fun _ => (l .o).getD j Xattr.z) (by simp [Nat.add_assoc])) (by simp only [List.length_append, htk, List.length_drop, List.length_cons, List.length_nil]; omega) ?_
         cbv
         exact hr (fun _ => (l .o).take k ++ [a .o] ++ (l .o).drop (k + 1)) (by
           rw [fin, if_pos ⟨by rw [List.length_drop] at h3'; omega, by simpa [getD_drop] using h4⟩]
           simp)
         done)
def byteCh (a : Th Int) : AV := .cons (.int .u8 a) .nil
theorem getD_all {α : Type} {p : α → Prop} {z : α} (hz : p z) : ∀ (l : List α) (n : Nat), (∀ x ∈ l, p x) → p (l.getD n z)
  | [], _, _ => by simpa using hz
  | x :: r, 0, h => by simpa using h x (by simp)
  | x :: r, n + 1, h => by simpa using getD_all hz r n fun y hy => h y (by simp [hy])
theorem bytesN_len (n : Nat) (g : Th Nat → AV) : (bytesN n g).length = n := by simp [bytesN]

/-- Of few bytes, none of which is nought. -/
def MadeX (x : Xattr) : Prop := x.name.length ≤ 11 ∧ x.name ≠ [] ∧ ¬ (0 : UInt8) ∈ x.name ∧ x.value.length ≤ 19
structure MadeXs (l : List Xattr) : Prop where
  made : ∀ x ∈ l, MadeX x
  up : l.Pairwise ltX
  len : l.length ≤ 6
theorem MadeXs.add {l : List Xattr} {x : Xattr} (h : MadeXs l) (hx : MadeX x) (hl : l.length < 6) : MadeXs (addX x l) :=
  ⟨fun y hy => by rcases addX_mem hy with rfl | hy; exact hx; exact h.made y hy, addX_up x l h.up, by have := addX_len x l; omega⟩
theorem MadeXs.nil : MadeXs [] := ⟨fun x hx => (by cases hx), List.Pairwise.nil, by decide⟩
theorem two_bytes {g : Th Nat → AV} (q : (0 : UInt8) ∈ bytesN 2 g) (a b : Int) (h0 : byteAt (g fun _ => 0) = a) (h1 : byteAt (g fun _ => 1) = b) (ha : 0 < a ∧ a < 256) (hb : 0 < b ∧ b < 256) : False := by
  have q : (0 : UInt8) ∈ [UInt8.ofNat (byteAt (g fun _ => 0)).toNat, UInt8.ofNat (byteAt (g fun _ => 1)).toNat] := q
  rw [h0, h1] at q
  have no : ∀ x : Int, 0 < x ∧ x < 256 → (0 : UInt8) ≠ UInt8.ofNat x.toNat := fun x hx e => by
    have e := congrArg UInt8.toNat e
    rw [UInt8.toNat_ofNat'] at e
    have e : 0 = x.toNat % 256 := e
    omega
  rcases List.mem_cons.1 q with q | q
  · exact no a ha q
  · rcases List.mem_cons.1 q with q | q
    · exact no b hb q
    · cases q
theorem byteA {x : Int} (hx : 0 ≤ x ∧ x < 256) : 0 < IntKind.u8.wrap (97 + (IntKind.u8.wrap (x.tdiv 5)).tmod 20) ∧ IntKind.u8.wrap (97 + (IntKind.u8.wrap (x.tdiv 5)).tmod 20) < 256 := by
  simp only [IntKind.wrap_u8]
  rw [Int.tdiv_eq_ediv_of_nonneg hx.1, Int.tmod_eq_emod_of_nonneg (by omega)]
  omega
theorem byteB {x : Int} (hx : 0 ≤ x ∧ x < 256) : 0 < IntKind.u8.wrap (1 + x.tmod 255) ∧ IntKind.u8.wrap (1 + x.tmod 255) < 256 := by
  simp only [IntKind.wrap_u8]
  rw [Int.tmod_eq_emod_of_nonneg hx.1]
  omega
theorem l13s_c (ns : Th (List Int)) (hns : isBytes (ns .o)) (hs : short (ns .o)) {d : Nat} {K : ARes → BL → Prop} (hr : ∀ r : Th (List Xattr), MadeXs (r .o) → K (.ret (xattrs r)) .nil) : CallAt PT l13_Make [byteI ns] d .nil K := by
  refine l13_Make.of rfl rfl ?_
  (cbv; repeat (refine safe (by first | decide | (simp only [zi] at *; omega) | assumption | (dsimp only; omega) | (dsimp only at *; simp only [List.length_append, List.length_cons, List.length_nil, zi] at *; omega)) ?_; cbv))
  refine loop_rule (X := Nat × List Xattr) 1000 [0] [] (fun x => .cons 3 (xattrs fun _ => x.2) (.cons 4 (.int .i64 fun _ => zi (2 * x.1)) .nil)) (fun _ => .nil) (fun x => MadeXs x.2 ∧ 2 * x.1 ≤ (ns .o).length) (fun x => (ns .o).length - 2 * x.1) (0, []) ?_ ⟨MadeXs.nil, by simp⟩ ?_
  · cbv
    (repeat' (first | exact True.intro | exact Same.refl _ | exact SameB.refl _ | exact ⟨rfl⟩ | exact Same.int rfl | exact Same.str rfl | exact Same.bool rfl | (refine Same.int ?_; simp only [List.length_append, List.length_cons, List.length_nil, zi]; omega) | (refine SameB.row' rfl fun i hi => ?_; first | rfl | exact absurd hi (Nat.not_lt_zero _)) | refine And.intro ?_ ?_ | refine SameB.cells ?_ | exact SameC.nil | refine SameC.cons ?_ ?_ | exact Same.nsl rfl | exact Same.tt rfl | exact Same.ff rfl))
    all_goals exact Same.nsl rfl
  · rintro ⟨k, l⟩ ⟨hk, hk2⟩
    unfold short at hs
    have hsucc : IntKind.i64.wrap (zi (2 * k) + 1) = zi (2 * k + 1) := zi_succ (by omega)
    cbv
    rw [hsucc]
    ((try refine br_rev ?_); (first | refine br_dec (fun h1 => ?_) (fun h1 => ?_) | refine br_ndec (fun h1 => ?_) (fun h1 => ?_) | refine br_nbool (fun h1 => ?_) (fun h1 => ?_) | refine br_bool (fun h1 => ?_) (fun h1 => ?_)); all_goals (try dsimp only at h1); all_goals (try with_reducible replace h1 := zi_lt.1 h1); all_goals (try with_reducible replace h1 := not_zlt h1)) <;> cbv
    all_goals try (((try refine br_rev ?_); (first | refine br_dec (fun h2 => ?_) (fun h2 => ?_) | refine br_ndec (fun h2 => ?_) (fun h2 => ?_) | refine br_nbool (fun h2 => ?_) (fun h2 => ?_) | refine br_bool (fun h2 => ?_) (fun h2 => ?_)); all_goals (try dsimp only at h2); all_goals (try with_reducible replace h2 := zi_lt.1 h2); all_goals (try with_reducible replace h2 := not_zlt h2)); replace h2 : l.length < 6 := h2; rotate_left; replace h2 : 6 ≤ l.length := h2; rotate_left)
    all_goals cbv
    rotate_left
    all_goals try exact hr (fun _ => l) hk
    have b1 := rest_of (byte_at hns (k := 2 * k + 1)) (m := 20) (by decide)
    refine safe ⟨zi_nonneg _, zi_lt.2 (by show 2 * k < _; omega)⟩ ?_
    refine safe (by decide) ?_
    refine safe ⟨Int.tmod_nonneg _ (byte_at hns).1, Int.tmod_lt_of_pos _ (by decide)⟩ ?_
    refine safe (by
      have h0 : 0 ≤ ((ns .o).getD (zi (2 * k)).toNat 0).tmod 5 := Int.tmod_nonneg _ (byte_at hns).1
      have h5 : ((ns .o).getD (zi (2 * k)).toNat 0).tmod 5 < 5 := Int.tmod_lt_of_pos _ (by decide)
      show (((ns .o).getD (zi (2 * k)).toNat 0).tmod 5).toNat < 5
      omega) ?_
    refine safe ⟨zi_nonneg _, zi_lt.2 (by show 2 * k < _; omega)⟩ ?_
    refine safe (by decide) ?_
    refine safe (by decide) ?_
    refine safe (by show 0 ≤ IntKind.i64.wrap (zi (2 * k) + 1) ∧ IntKind.i64.wrap (zi (2 * k) + 1) < _; rw [hsucc]; exact ⟨zi_nonneg _, zi_lt.2 h1⟩) ?_
    refine safe (by decide) ?_
    refine safe (fun i hi => ⟨_, rfl⟩) ?_
    refine safe (by
      dsimp only
      rw [bytesN_len]
      refine Nat.le_trans (Nat.add_le_add_right (getD_all (p := fun t : Th (List UInt8) => (t .o).length ≤ 9) (by decide) _ _ (by simp)) 2) (by decide)) ?_
    refine safe (by show 0 ≤ IntKind.i64.wrap (zi (2 * k) + 1) ∧ IntKind.i64.wrap (zi (2 * k) + 1) < _; rw [hsucc]; exact ⟨zi_nonneg _, zi_lt.2 h1⟩) ?_
    refine safe (by decide) ?_
    dsimp only
    rw [hsucc, zi_toNat]
    generalize hv : (IntKind.i64.wrap ((ns .o).getD (2 * k + 1) 0)).tmod 20 = v at b1
    refine safe ⟨b1.1, Int.le_refl _, by show 1 * v ≤ _; omega, by omega⟩ ?_
    refine loop_at (X := Nat × List Int) 1000 [0, 3, 4, 5, 6] [] (fun _ x => .cons 7 (.int .i64 fun _ => zi x.1) .nil) (fun _ x => .cons 52 (rowB 1 byteCh 0 fun _ => x.2) .nil) (fun x => x.1 ≤ v.toNat ∧ x.2.length = v.toNat) (fun x => v.toNat - x.1) (0, List.replicate v.toNat 0) ?_ ⟨by simp, by simp⟩ ?_
    · cbv
      (repeat' (first | exact True.intro | exact Same.refl _ | exact SameB.refl _ | exact ⟨rfl⟩ | exact Same.int rfl | exact Same.str rfl | exact Same.bool rfl | (refine Same.int ?_; simp only [List.length_append, List.length_cons, List.length_nil, zi]; omega) | (refine SameB.row' rfl fun i hi => ?_; first | rfl | exact absurd hi (Nat.not_lt_zero _)) | refine And.intro ?_ ?_ | refine SameB.cells ?_ | exact SameC.nil | refine SameC.cons ?_ ?_ | exact Same.nsl rfl | exact Same.tt rfl | exact Same.ff rfl))
      all_goals
        refine SameB.row' (by simp) fun i hi => ?_
        show byteCh (fun _ => 0) = byteCh fun _ => (List.replicate v.toNat 0).getD i 0
        congr 1
        funext _
        rw [List.getD_eq_getElem?_getD, List.getElem?_replicate]
        split <;> rfl
    · rintro ⟨j, bs⟩ ⟨hj, hbs⟩
      dsimp only at hj hbs
      cbv
      ((try refine br_rev ?_); (first | refine br_dec (fun h3 => ?_) (fun h3 => ?_) | refine br_ndec (fun h3 => ?_) (fun h3 => ?_) | refine br_nbool (fun h3 => ?_) (fun h3 => ?_) | refine br_bool (fun h3 => ?_) (fun h3 => ?_)); all_goals (try dsimp only at h3); all_goals (try with_reducible replace h3 := zi_lt.1 h3); all_goals (try with_reducible replace h3 := not_zlt h3)) <;> cbv
      · refine safe ⟨zi_nonneg _, zi_lt.2 (by omega)⟩ ?_
        refine safe ⟨zi_nonneg _, zi_lt.2 h3⟩ ?_
        refine put_rows byteCh 0 bs (IntKind.u8.wrap ((ns .o).getD (zi (2 * k)).toNat 0 * IntKind.u8.wrap (IntKind.i64.wrap (zi j + 1)))) rfl (fun i hi => rfl) (by show (zi j).toNat < _; rw [zi_toNat]; exact h3) rfl ?_
        cbv
        refine ⟨(j + 1, bs.set (zi j).toNat (IntKind.u8.wrap ((ns .o).getD (zi (2 * k)).toNat 0 * IntKind.u8.wrap (IntKind.i64.wrap (zi j + 1))))), ⟨by show j + 1 ≤ _; omega, by rw [List.length_set]; exact hbs⟩, by show _ - (j + 1) < _ - j; omega, ?_⟩
        have hsj : IntKind.i64.wrap (zi j + 1) = zi (j + 1) := zi_succ (by omega)
        cbv
        (repeat' (first | exact True.intro | exact Same.refl _ | exact SameB.refl _ | exact ⟨rfl⟩ | exact Same.int rfl | exact Same.str rfl | exact Same.bool rfl | (refine Same.int ?_; simp only [List.length_append, List.length_cons, List.length_nil, zi]; omega) | (refine SameB.row' rfl fun i hi => ?_; first | rfl | exact absurd hi (Nat.not_lt_zero _)) | refine And.intro ?_ ?_ | refine SameB.cells ?_ | exact SameC.nil | refine SameC.cons ?_ ?_ | exact Same.nsl rfl | exact Same.tt rfl | exact Same.ff rfl))
        · exact Same.int hsj
        · exact SameB.row' (by show bs.length = (bs.set _ _).length; rw [List.length_set]) fun i hi => rfl
      · refine safe (fun i hi => ⟨_, rfl⟩) ?_
        refine addxs_c (fun _ => l) (fun _ => ⟨_, _⟩) (by show l.length ≤ 1000; omega) fun r hr' => ?_
        replace hr' : r .o = addX ⟨_, _⟩ l := hr'
        have hmade : MadeXs (r .o) := by
          rw [hr']
          refine hk.add ⟨?_, ?_, ?_, ?_⟩ h2
          · show (_ ++ bytesN 2 _).length ≤ 11
            rw [List.length_append, bytesN_len]
            exact Nat.le_trans (Nat.add_le_add_right (getD_all (p := fun t : Th (List UInt8) => (t .o).length ≤ 9) (by decide) _ _ (by simp)) 2) (by decide)
          · intro e
            have e := congrArg List.length e
            revert e
            show (_ ++ bytesN 2 _).length = 0 → False
            rw [List.length_append, bytesN_len]
            omega
          · show ¬ (0 : UInt8) ∈ _ ++ bytesN 2 _
            rw [List.mem_append]
            rintro (q | q)
            · exact getD_all (p := fun t : Th (List UInt8) => ¬ (0 : UInt8) ∈ t .o) (by decide) _ _ (by simp) q
            · exact two_bytes q _ _ rfl rfl (byteA (byte_at hns)) (byteB (byte_at hns))
          · show (List.map _ (List.range bs.length)).length ≤ 19
            rw [List.length_map, List.length_range]
            omega
        cbv
        refine ⟨(k + 1, r .o), ⟨hmade, by show 2 * (k + 1) ≤ _; omega⟩, by show _ - 2 * (k + 1) < _ - 2 * k; omega, ?_⟩
        cbv
        (repeat' (first | exact True.intro | exact Same.refl _ | exact SameB.refl _ | exact ⟨rfl⟩ | exact Same.int rfl | exact Same.str rfl | exact Same.bool rfl | (refine Same.int ?_; simp only [List.length_append, List.length_cons, List.length_nil, zi]; omega) | (refine SameB.row' rfl fun i hi => ?_; first | rfl | exact absurd hi (Nat.not_lt_zero _)) | refine And.intro ?_ ?_ | refine SameB.cells ?_ | exact SameC.nil | refine SameC.cons ?_ ?_ | exact Same.nsl rfl | exact Same.tt rfl | exact Same.ff rfl))
        exact Same.int (by show IntKind.i64.wrap (zi (2 * k) + 2) = zi (2 * (k + 1)); rw [IntKind.wrap_i64]; unfold zi; omega)
theorem l13_c (ns : Th (List Int)) (hns : isBytes (ns .o)) (hs : short (ns .o)) {d : Nat} {K : ARes → BL → Prop} (hr : ∀ r : Th (List Xattr), (r .o).length ≤ 6 → K (.ret (xattrs r)) .nil) : CallAt PT l13_Make [byteI ns] d .nil K :=
  l13s_c ns hns hs fun r h => hr r h.len
/-- The rights of a file, by numbers. -/
structure CapsMade (c : Caps) : Prop where
  ver : c.ver = 2 ∨ c.ver = 3
  root2 : c.ver = 2 → c.root = 0
  root3 : 0 ≤ c.root ∧ c.root < 2147483648
theorem l11_c (p i : Th Int) (w : Th Int) (ro : Th Int) (hw : 0 ≤ w .o ∧ w .o < 256) (hro : 0 ≤ ro .o ∧ ro .o < 4294967296) {d : Nat} {K : ARes → BL → Prop} (hr : ∀ c : Th Caps, CapsMade (c .o) → K (.ret (.agg (.cons (.int .i64 fun _ => (c .o).ver) (.cons (.int .u64 fun _ => (c .o).perm) (.cons (.int .u64 fun _ => (c .o).inh) (.cons (.bool fun _ => (c .o).eff) (.cons (.int .i64 fun _ => (c .o).root) .nil))))))) .nil) :
    CallAt PT l11_Make [.int .u64 p, .int .u64 i, .int .u8 w, .int .u32 ro] d .nil K := by
  refine l11_Make.of rfl rfl ?_
  have hm := rest_of hw (m := 2) (by decide)
  have hv : IntKind.i64.wrap (2 + (IntKind.i64.wrap (w .o)).tmod 2) = 2 ∨ IntKind.i64.wrap (2 + (IntKind.i64.wrap (w .o)).tmod 2) = 3 := by
    rw [IntKind.wrap_i64 (2 + _)]
    omega
  (cbv; repeat (refine safe (by first | decide | (simp only [zi] at *; omega) | assumption | (dsimp only; omega) | (dsimp only at *; simp only [List.length_append, List.length_cons, List.length_nil, zi] at *; omega)) ?_; cbv))
  ((try refine br_rev ?_); (first | refine br_dec (fun h1 => ?_) (fun h1 => ?_) | refine br_ndec (fun h1 => ?_) (fun h1 => ?_) | refine br_nbool (fun h1 => ?_) (fun h1 => ?_) | refine br_bool (fun h1 => ?_) (fun h1 => ?_)); all_goals (try dsimp only at h1); all_goals (try with_reducible replace h1 := zi_lt.1 h1); all_goals (try with_reducible replace h1 := not_zlt h1)) <;> cbv
  · refine safe (by decide) ?_
    refine hr (fun _ => ⟨IntKind.i64.wrap (2 + (IntKind.i64.wrap (w .o)).tmod 2), p .o, i .o, decide (128 ≤ w .o), (IntKind.i64.wrap (ro .o)).fdiv (2 ^ min (Int.toNat 1) IntKind.i64.bits)⟩) ⟨hv, fun q => absurd (q.symm.trans h1) (by decide), ?_⟩
    show 0 ≤ (IntKind.i64.wrap (ro .o)).fdiv 2 ∧ (IntKind.i64.wrap (ro .o)).fdiv 2 < 2147483648
    rw [show IntKind.i64.wrap (ro .o) = ro .o by rw [IntKind.wrap_i64]; omega, Int.fdiv_eq_ediv_of_nonneg _ (by decide)]
    omega
  · exact hr (fun _ => ⟨IntKind.i64.wrap (2 + (IntKind.i64.wrap (w .o)).tmod 2), p .o, i .o, decide (128 ≤ w .o), 0⟩) ⟨hv, fun _ => rfl, Int.le_refl 0, by show (0 : Int) < 2147483648; decide⟩
end Go.Proofs.Ytgjlkcdnlndlnaa
/- What the laws make by numbers: what is kept of a file. -/
namespace Go.Proofs.Ytgjlkcdnlndlnaa
open Go Go.Proofs.Ytgjlkcdnlndlnaa.Sx F
set_option linter.unusedVariables false
set_option linter.unusedSimpArgs false

/-- Number j, of those read so far. -/
def kAt (ns : List Int) (i j : Nat) : Int := if j < i then ns.getD j 0 else 0
theorem kAt_byte {ns : List Int} (h : isBytes ns) (i j : Nat) : 0 ≤ kAt ns i j ∧ kAt ns i j < 256 := by
  unfold kAt; split
  · exact byte_at h
  · decide
/-- What l14.Make makes. -/
structure MadeM (ns : List Int) (m : Meta) : Prop where
  mode : 0 ≤ m.mode ∧ m.mode < 4096
  uid : 0 ≤ m.uid ∧ m.uid < 6
  gid : 0 ≤ m.gid ∧ m.gid < 6
  acl : m.acl = [] ∨ ∃ ns', isBytes ns' ∧ m.acl = l9S ns' (band m.mode 511)
  xs : MadeXs m.xs

/-- What depends on the kind. -/
structure MadeK (k : Int) (m : Meta) : Prop where
  flags : 0 ≤ m.flags ∧ m.flags < 16
  dflt : m.dflt = [] ∨ (k = 6 ∧ ∃ ns' n, isBytes ns' ∧ (0 ≤ n ∧ n < 256) ∧ m.dflt = l9S ns' n)
  caps : m.caps = ⟨0, 0, 0, false, 0⟩ ∨ (k = 1 ∧ CapsMade m.caps)
  sym : k = 3 → m.mode = 511 ∧ m.acl = [] ∧ m.flags = 0
  sec : -50000 ≤ m.sec ∧ m.sec ≤ 205000
  nano : m.nano = 0 ∨ m.nano = 500000000
theorem bytes_drop {l : List Int} (h : isBytes l) (k : Nat) : isBytes (l.drop k) := fun x hx => h x (List.drop_subset _ _ hx)
theorem short_drop {l : List Int} (h : short l) (k : Nat) : short (l.drop k) := by unfold short at *; rw [List.length_drop]; omega
/-- The row from number c on. -/
def fromI (l : Th (List Int)) (c : Th Int) : AV := .sl 1 (fun _ => (zi (l .o).length - c .o).toNat) fun i => .cons (.int .u8 fun _ => (l .o).getD ((c .o).toNat + i .o) 0) .nil
theorem from_same (l : Th (List Int)) (c : Th Int) (hc : 0 ≤ c .o) : Same (fromI l c) (byteI fun _ => (l .o).drop (c .o).toNat) := by
  refine Same.sl ?_ fun i hi => ?_
  · show (zi (l .o).length - c .o).toNat = ((l .o).drop (c .o).toNat).length
    rw [List.length_drop]; unfold zi; omega
  · show (AV.cons (.int .u8 fun _ => (l .o).getD ((c .o).toNat + i) 0) .nil) = AV.cons (.int .u8 fun _ => ((l .o).drop (c .o).toNat).getD i 0) .nil
    rw [getD_drop]
theorem l13_from (l : Th (List Int)) (c : Th Int) (hc : 0 ≤ c .o) (hns : isBytes (l .o)) (hs : short (l .o)) {d : Nat} {K : ARes → BL → Prop} (hr : ∀ r : Th (List Xattr), MadeXs (r .o) → K (.ret (xattrs r)) .nil) : CallAt PT l13_Make [fromI l c] d .nil K :=
  CallAt.args (.cons (from_same l c hc) .nil) (l13s_c _ (bytes_drop hns _) (short_drop hs _) hr)
theorem l9_from (l : Th (List Int)) (c : Th Int) (m : Th Int) (hc : 0 ≤ c .o) (hns : isBytes (l .o)) (hs : short (l .o)) {d : Nat} {K : ARes → BL → Prop} (hr : ∀ r : Th (List Ace), r .o = l9S ((l .o).drop (c .o).toNat) (m .o) → K (.ret (aces r)) .nil) : CallAt PT l9_Make [fromI l c, .int .i64 m] d .nil K :=
  CallAt.args (.cons (from_same l c hc) (.cons (.refl _) .nil)) (l9_c _ m (bytes_drop hns _) (short_drop hs _) hr)

/-- A Meta told by its parts. -/
theorem meta_ret {K : ARes → BL → Prop} {mode uid gid sec nano ver perm inh root flags : Th Int} {eff : Th Bool} {A D X E : AV} (acl dflt : Th (List Ace)) (xs : Th (List Xattr))
    (hA : Same A (aces acl)) (hD : Same D (aces dflt)) (hX : Same X (xattrs xs)) (hE : Same E (.bool eff))
    (h : K (.ret (Meta.av fun _ => ⟨mode .o, uid .o, gid .o, sec .o, nano .o, acl .o, dflt .o, xs .o, ⟨ver .o, perm .o, inh .o, eff .o, root .o⟩, flags .o⟩)) .nil) :
    ∃ r', SameR (.ret (.agg (.cons (.int .i64 mode) (.cons (.int .i64 uid) (.cons (.int .i64 gid) (.cons (.int .i64 sec) (.cons (.int .i64 nano) (.cons A (.cons D (.cons X
      (.cons (.int .i64 ver) (.cons (.int .u64 perm) (.cons (.int .u64 inh) (.cons E (.cons (.int .i64 root) (.cons (.int .i64 flags) .nil)))))))))))))))) r' ∧ K r' .nil :=
  ⟨_, .ret (y := Meta.av fun _ => ⟨mode .o, uid .o, gid .o, sec .o, nano .o, acl .o, dflt .o, xs .o, ⟨ver .o, perm .o, inh .o, eff .o, root .o⟩, flags .o⟩)
    (.agg (.cons (.int rfl) (.cons (.int rfl) (.cons (.int rfl) (.cons (.int rfl) (.cons (.int rfl) (.cons hA (.cons hD (.cons hX (.cons (.int rfl) (.cons (.int rfl) (.cons (.int rfl) (.cons hE (.cons (.int rfl) (.cons (.int rfl) .nil))))))))))))))), h⟩

theorem wrap_u32 (x : Int) : 0 ≤ IntKind.u32.wrap x ∧ IntKind.u32.wrap x < 4294967296 := by
  rw [IntKind.wrap_u32]; omega
theorem nsl_aces : Same .nsl (aces fun _ => []) := Same.nsl rfl
theorem nsl_xattrs : Same .nsl (xattrs fun _ => []) := Same.nsl rfl
theorem ff_bool : Same .ff (.bool fun _ => false) := Same.ff rfl

theorem l14k_c (ns : Th (List Int)) (kind : Th Int) (hns : isBytes (ns .o)) (hs : short (ns .o)) {d : Nat} {K : ARes → BL → Prop} (hr : ∀ m : Th Meta, MadeM (ns .o) (m .o) → MadeK (kind .o) (m .o) → K (.ret (Meta.av m)) .nil) : CallAt PT l14_Make [byteI ns, .int .i64 kind] d .nil K := by
  refine CallAt.res ?_
  refine l14_Make.of rfl rfl ?_
  (cbv; repeat (refine safe (by first | decide | (simp only [zi] at *; omega) | assumption | (dsimp only; omega) | (dsimp only at *; simp only [List.length_append, List.length_cons, List.length_nil, zi] at *; omega)) ?_; cbv))
  refine loop_at (X := Nat) 1000 [0, 1, 4, 5] [4] (fun _ i => .cons 6 (.int .i64 fun _ => zi i) .nil) (fun _ i => .cons 8 (.row 1 (fun _ => 12) fun j => intCh fun _ => kAt (ns .o) i (j .o)) .nil) (fun i => i ≤ 12 ∧ i ≤ (ns .o).length) (fun i => 12 - i) 0 ?_ ⟨by simp, by simp⟩ ?_
  · cbv
    (repeat' (first | exact True.intro | exact Same.refl _ | exact SameB.refl _ | exact ⟨rfl⟩ | exact Same.int rfl | exact Same.str rfl | exact Same.bool rfl | (refine Same.int ?_; simp only [List.length_append, List.length_cons, List.length_nil, zi]; omega) | (refine SameB.row' rfl fun i hi => ?_; first | rfl | exact absurd hi (Nat.not_lt_zero _)) | refine And.intro ?_ ?_ | refine SameB.cells ?_ | exact SameC.nil | refine SameC.cons ?_ ?_ | exact Same.nsl rfl | exact Same.tt rfl | exact Same.ff rfl))
  · rintro i ⟨hi, hil⟩
    cbv
    ((try refine br_rev ?_); (first | refine br_dec (fun h1 => ?_) (fun h1 => ?_) | refine br_ndec (fun h1 => ?_) (fun h1 => ?_) | refine br_nbool (fun h1 => ?_) (fun h1 => ?_) | refine br_bool (fun h1 => ?_) (fun h1 => ?_)); all_goals (try dsimp only at h1); all_goals (try with_reducible replace h1 := zi_lt.1 h1); all_goals (try with_reducible replace h1 := not_zlt h1))
    focus replace h1 : i < 12 := h1
    rotate_left
    focus replace h1 : 12 ≤ i := h1
    rotate_left
    all_goals cbv
    all_goals try ((try refine br_rev ?_); (first | refine br_dec (fun h2 => ?_) (fun h2 => ?_) | refine br_ndec (fun h2 => ?_) (fun h2 => ?_) | refine br_nbool (fun h2 => ?_) (fun h2 => ?_) | refine br_bool (fun h2 => ?_) (fun h2 => ?_)); all_goals (try dsimp only at h2); all_goals (try with_reducible replace h2 := zi_lt.1 h2); all_goals (try with_reducible replace h2 := not_zlt h2))
    all_goals cbv
    focus
      refine safe ⟨zi_nonneg _, zi_lt.2 h2⟩ ?_
      refine safe ⟨zi_nonneg _, zi_lt.2 h1⟩ ?_
      refine ⟨by show (zi i).toNat < 12; rw [zi_toNat]; exact h1, fun j => intCh fun _ => kAt (ns .o) (i + 1) (j .o), _, rfl, fun j hj hne => Fits.of_eq ?_, Fits.of_eq ?_, ?_⟩
      · show (intCh fun _ => kAt (ns .o) i j) = intCh fun _ => kAt (ns .o) (i + 1) j
        replace hne : j ≠ (zi i).toNat := hne
        rw [zi_toNat] at hne
        unfold kAt
        by_cases q : j < i
        · simp only [if_pos q, if_pos (show j < i + 1 by omega)]
        · simp only [if_neg q, if_neg (show ¬ j < i + 1 by omega)]
      · show (intCh fun _ => IntKind.i64.wrap ((ns .o).getD (zi i).toNat 0)) = intCh fun _ => kAt (ns .o) (i + 1) (zi i).toNat
        rw [zi_toNat, wrap_byte (byte_at hns), kAt, if_pos (by omega)]
      · cbv
        refine ⟨i + 1, ⟨by omega, by omega⟩, by omega, ?_⟩
        cbv
        rw [zi_succ (by omega)]
        (repeat' (first | exact True.intro | exact Same.refl _ | exact SameB.refl _ | exact ⟨rfl⟩ | exact Same.int rfl | exact Same.str rfl | exact Same.bool rfl | (refine Same.int ?_; simp only [List.length_append, List.length_cons, List.length_nil, zi]; omega) | (refine SameB.row' rfl fun i hi => ?_; first | rfl | exact absurd hi (Nat.not_lt_zero _)) | refine And.intro ?_ ?_ | refine SameB.cells ?_ | exact SameC.nil | refine SameC.cons ?_ ?_ | exact Same.nsl rfl | exact Same.tt rfl | exact Same.ff rfl))
    all_goals
      have kb := fun j => kAt_byte hns i j
      have hk0 : ∀ j, (ns .o).length ≤ j → kAt (ns .o) i j = 0 := by
        intro j hj
        unfold kAt
        split
        · rw [List.getD_eq_getElem?_getD, List.getElem?_eq_none hj]; rfl
        · rfl
      (repeat (refine safe (by first | decide | (simp only [zi] at *; omega) | assumption | (dsimp only; omega) | (dsimp only at *; simp only [List.length_append, List.length_cons, List.length_nil, zi] at *; omega)) ?_))
      ((try refine br_rev ?_); (first | refine br_dec (fun h3 => ?_) (fun h3 => ?_) | refine br_ndec (fun h3 => ?_) (fun h3 => ?_) | refine br_nbool (fun h3 => ?_) (fun h3 => ?_) | refine br_bool (fun h3 => ?_) (fun h3 => ?_)); all_goals (try dsimp only at h3); all_goals (try with_reducible replace h3 := zi_lt.1 h3); all_goals (try with_reducible replace h3 := not_zlt h3))
    all_goals cbv
    all_goals try (refine safe ⟨by decide, Int.le_of_lt h3, Int.le_refl _⟩ ?_; refine l13_from ns (fun _ => 12) (by show (0 : Int) ≤ 12; decide) hns hs fun xs hxs => ?_; cbv)
    all_goals
      have hmode : 0 ≤ IntKind.i64.wrap (IntKind.i64.wrap (kAt (ns .o) i 0 * 16) + (kAt (ns .o) i 1).tmod 16) ∧ IntKind.i64.wrap (IntKind.i64.wrap (kAt (ns .o) i 0 * 16) + (kAt (ns .o) i 1).tmod 16) < 4096 := by
        have q1 := Int.tmod_nonneg 16 (kb 1).1
        have q2 : (kAt (ns .o) i 1).tmod 16 < 16 := Int.tmod_lt_of_pos _ (by decide)
        have q0 := kb 0
        have e1 : IntKind.i64.wrap (kAt (ns .o) i 0 * 16) = kAt (ns .o) i 0 * 16 := by rw [IntKind.wrap_i64]; omega
        rw [e1, IntKind.wrap_i64]
        omega
      have huid : ∀ j, 0 ≤ (kAt (ns .o) i j).tmod 6 ∧ (kAt (ns .o) i j).tmod 6 < 6 := fun j => ⟨Int.tmod_nonneg _ (kb j).1, Int.tmod_lt_of_pos _ (by decide)⟩
      have hsec : -50000 ≤ IntKind.i64.wrap (IntKind.i64.wrap (kAt (ns .o) i 4 * 1000) - 50000) ∧ IntKind.i64.wrap (IntKind.i64.wrap (kAt (ns .o) i 4 * 1000) - 50000) ≤ 205000 := by
        have q0 := kb 4
        have e1 : IntKind.i64.wrap (kAt (ns .o) i 4 * 1000) = kAt (ns .o) i 4 * 1000 := by rw [IntKind.wrap_i64]; omega
        have e2 : IntKind.i64.wrap (kAt (ns .o) i 4 * 1000 - 50000) = kAt (ns .o) i 4 * 1000 - 50000 := by rw [IntKind.wrap_i64]; omega
        rw [e1, e2]
        omega
      have hnano : IntKind.i64.wrap ((kAt (ns .o) i 5).tmod 2 * 500000000) = 0 ∨ IntKind.i64.wrap ((kAt (ns .o) i 5).tmod 2 * 500000000) = 500000000 := by
        have q1 := Int.tmod_nonneg 2 (kb 5).1
        have q2 : (kAt (ns .o) i 5).tmod 2 < 2 := Int.tmod_lt_of_pos _ (by decide)
        have e2 : IntKind.i64.wrap ((kAt (ns .o) i 5).tmod 2 * 500000000) = (kAt (ns .o) i 5).tmod 2 * 500000000 := by rw [IntKind.wrap_i64]; omega
        rw [e2]
        omega
      have hfl : 0 ≤ (kAt (ns .o) i 6).tmod 16 ∧ (kAt (ns .o) i 6).tmod 16 < 16 := ⟨Int.tmod_nonneg _ (kb 6).1, Int.tmod_lt_of_pos _ (by decide)⟩
      ((try refine br_rev ?_); (first | refine br_dec (fun h4 => ?_) (fun h4 => ?_) | refine br_ndec (fun h4 => ?_) (fun h4 => ?_) | refine br_nbool (fun h4 => ?_) (fun h4 => ?_) | refine br_bool (fun h4 => ?_) (fun h4 => ?_)); all_goals (try dsimp only at h4); all_goals (try with_reducible replace h4 := zi_lt.1 h4); all_goals (try with_reducible replace h4 := not_zlt h4))
    all_goals cbv
    all_goals try (first
      | exact meta_ret (eff := fun _ => false) (fun _ => []) (fun _ => []) (fun _ => []) (Same.nsl rfl) (Same.nsl rfl) (Same.nsl rfl) (Same.ff rfl) (hr _ ⟨by show (0 : Int) ≤ 511 ∧ (511 : Int) < 4096; decide, huid 2, huid 3, .inl rfl, MadeXs.nil⟩ ⟨by show (0 : Int) ≤ 0 ∧ (0 : Int) < 16; decide, .inl rfl, .inl rfl, fun _ => ⟨rfl, rfl, rfl⟩, hsec, hnano⟩)
      | exact meta_ret (eff := fun _ => false) (fun _ => []) (fun _ => []) xs (Same.nsl rfl) (Same.nsl rfl) (Same.refl _) (Same.ff rfl) (hr _ ⟨by show (0 : Int) ≤ 511 ∧ (511 : Int) < 4096; decide, huid 2, huid 3, .inl rfl, hxs⟩ ⟨by show (0 : Int) ≤ 0 ∧ (0 : Int) < 16; decide, .inl rfl, .inl rfl, fun _ => ⟨rfl, rfl, rfl⟩, hsec, hnano⟩))
    all_goals (repeat (refine safe (by first | decide | (simp only [zi] at *; omega) | assumption | (dsimp only; omega) | (dsimp only at *; simp only [List.length_append, List.length_cons, List.length_nil, zi] at *; omega)) ?_))
    all_goals ((try refine br_rev ?_); (first | refine br_dec (fun h5 => ?_) (fun h5 => ?_) | refine br_ndec (fun h5 => ?_) (fun h5 => ?_) | refine br_nbool (fun h5 => ?_) (fun h5 => ?_) | refine br_bool (fun h5 => ?_) (fun h5 => ?_)); all_goals (try dsimp only at h5); all_goals (try with_reducible replace h5 := zi_lt.1 h5); all_goals (try with_reducible replace h5 := not_zlt h5))
    all_goals cbv
    all_goals try (
      have h8 : 8 ≤ (ns .o).length := by
        refine Nat.le_of_not_lt fun q => ?_
        have := hk0 7 (by omega)
        replace h5 : (kAt (ns .o) i 7).tmod 2 = 1 := h5
        rw [this] at h5
        exact absurd h5 (by decide)
      refine safe ⟨by decide, (zi_le (a := 8)).2 h8, Int.le_refl _⟩ ?_
      refine l9_from ns (fun _ => 8) _ (by show (0 : Int) ≤ 8; decide) hns hs fun acl hacl => ?_
      cbv)
    all_goals ((try refine br_rev ?_); (first | refine br_dec (fun h6 => ?_) (fun h6 => ?_) | refine br_ndec (fun h6 => ?_) (fun h6 => ?_) | refine br_nbool (fun h6 => ?_) (fun h6 => ?_) | refine br_bool (fun h6 => ?_) (fun h6 => ?_)); all_goals (try dsimp only at h6); all_goals (try with_reducible replace h6 := zi_lt.1 h6); all_goals (try with_reducible replace h6 := not_zlt h6))
    all_goals cbv
    all_goals try (refine safe (by decide) ?_; (repeat (refine safe (by first | decide | (simp only [zi] at *; omega) | assumption | (dsimp only; omega) | (dsimp only at *; simp only [List.length_append, List.length_cons, List.length_nil, zi] at *; omega)) ?_)); ((try refine br_rev ?_); (first | refine br_dec (fun h7 => ?_) (fun h7 => ?_) | refine br_ndec (fun h7 => ?_) (fun h7 => ?_) | refine br_nbool (fun h7 => ?_) (fun h7 => ?_) | refine br_bool (fun h7 => ?_) (fun h7 => ?_)); all_goals (try dsimp only at h7); all_goals (try with_reducible replace h7 := zi_lt.1 h7); all_goals (try with_reducible replace h7 := not_zlt h7)); all_goals cbv)
    all_goals try (
      refine safe (by refine ⟨?_, ?_, Int.le_refl _⟩ <;> (have := zi_nonneg (ns .o).length; (try dsimp only); split <;> omega)) ?_
      (repeat (refine safe (by first | decide | (simp only [zi] at *; omega) | assumption | (dsimp only; omega) | (dsimp only at *; simp only [List.length_append, List.length_cons, List.length_nil, zi] at *; omega)) ?_))
      refine l9_from ns (fun _ => if 9 < zi (ns .o).length then 9 else zi (ns .o).length) _ (by have := zi_nonneg (ns .o).length; (try dsimp only); split <;> omega) hns hs fun df hdf => ?_
      cbv)
    all_goals ((try refine br_rev ?_); (first | refine br_dec (fun h9 => ?_) (fun h9 => ?_) | refine br_ndec (fun h9 => ?_) (fun h9 => ?_) | refine br_nbool (fun h9 => ?_) (fun h9 => ?_) | refine br_bool (fun h9 => ?_) (fun h9 => ?_)); all_goals (try dsimp only at h9); all_goals (try with_reducible replace h9 := zi_lt.1 h9); all_goals (try with_reducible replace h9 := not_zlt h9))
    all_goals try (exfalso; omega)
    all_goals cbv
    all_goals try (repeat (refine safe (by first | decide | (simp only [zi] at *; omega) | assumption | (dsimp only; omega) | (dsimp only at *; simp only [List.length_append, List.length_cons, List.length_nil, zi] at *; omega)) ?_))
    all_goals try ((try refine br_rev ?_); (first | refine br_dec (fun h10 => ?_) (fun h10 => ?_) | refine br_ndec (fun h10 => ?_) (fun h10 => ?_) | refine br_nbool (fun h10 => ?_) (fun h10 => ?_) | refine br_bool (fun h10 => ?_) (fun h10 => ?_)); all_goals (try dsimp only at h10); all_goals (try with_reducible replace h10 := zi_lt.1 h10); all_goals (try with_reducible replace h10 := not_zlt h10))
    all_goals cbv
    all_goals try ((try refine br_rev ?_); (first | refine br_dec (fun h11 => ?_) (fun h11 => ?_) | refine br_ndec (fun h11 => ?_) (fun h11 => ?_) | refine br_nbool (fun h11 => ?_) (fun h11 => ?_) | refine br_bool (fun h11 => ?_) (fun h11 => ?_)); all_goals (try dsimp only at h11); all_goals (try with_reducible replace h11 := zi_lt.1 h11); all_goals (try with_reducible replace h11 := not_zlt h11))
    all_goals cbv
    all_goals try (
      (repeat (refine safe (by first | decide | (simp only [zi] at *; omega) | assumption | (dsimp only; omega) | (dsimp only at *; simp only [List.length_append, List.length_cons, List.length_nil, zi] at *; omega)) ?_))
      refine l11_c _ _ (fun _ => (ns .o).getD 10 0) _ (byte_at hns) (wrap_u32 _) fun caps hcaps => ?_
      cbv)
    all_goals (
      apply meta_ret
      focus first | exact nsl_aces | exact Same.refl _
      focus first | exact nsl_aces | exact Same.refl _
      focus first | exact nsl_xattrs | exact Same.refl _
      focus first | exact ff_bool | exact Same.refl _
      exact hr _ ⟨hmode, huid 2, huid 3, by first | exact .inl rfl | exact .inr ⟨_, bytes_drop hns _, hacl⟩, by first | exact MadeXs.nil | exact hxs⟩ ⟨hfl, by first | exact .inl rfl | exact .inr ⟨h6, _, _, bytes_drop hns _, kb 9, hdf⟩, by first | exact .inl rfl | exact .inr ⟨h9, hcaps⟩, fun q => absurd q h4, hsec, hnano⟩)
theorem l14_c (ns : Th (List Int)) (kind : Th Int) (hns : isBytes (ns .o)) (hs : short (ns .o)) {d : Nat} {K : ARes → BL → Prop} (hr : ∀ m : Th Meta, MadeM (ns .o) (m .o) → K (.ret (Meta.av m)) .nil) : CallAt PT l14_Make [byteI ns, .int .i64 kind] d .nil K :=
  l14k_c ns kind hns hs fun m h _ => hr m h
end Go.Proofs.Ytgjlkcdnlndlnaa
/- The law RightModes, walked: it answers true whatever the numbers. -/
namespace Go.Proofs.Ytgjlkcdnlndlnaa
open Go Go.Proofs.Ytgjlkcdnlndlnaa.Sx F
set_option linter.unusedVariables false
set_option linter.unusedSimpArgs false

theorem band_511 {n : Int} (h0 : 0 ≤ n) (h1 : n < 512) : band n 511 = n := by
  have : ∀ k : Fin 512, band (k.1 : Int) 511 = (k.1 : Int) := by decide +kernel
  have := this ⟨n.toNat, by omega⟩
  rwa [show ((⟨n.toNat, by omega⟩ : Fin 512).1 : Int) = n from Int.toNat_of_nonneg h0] at this
theorem band_7 (x : Int) : 0 ≤ band x 7 ∧ band x 7 < 8 := by
  have := band_le (x := x) (y := 7) (by decide) (by decide)
  omega
theorem band_77 (x : Int) : band (band x 7) 7 = band x 7 := fin8 (p := fun n => band n 7 = n) (by decide +kernel) (band_7 x).1 (band_7 x).2

/-- What one of no powers can without lists. -/
theorem can_plain (n u g : Int) (c : Cred) (hc : c.powers = 0) {w : Int} (hw0 : 0 ≤ w) (hw1 : w < 8) : CanS { metaZ with mode := n, uid := u, gid := g } c w =
    hasS w (if u = c.uid then (band n 511).fdiv (2 ^ 6) else if inS c g = true then band ((band n 511).fdiv (2 ^ 3)) 7 else band (band n 511) 7) := by
  have h1 : ¬ w < 0 := by omega
  have h2 : ¬ 7 < w := by omega
  have h3 : band c.powers 2 = 0 := by rw [hc]; decide +kernel
  by_cases hu : u = c.uid
  · simp [CanS, canS, metaZ, ofS, fromMode, permS, h1, h2, h3, hu]
  · by_cases hg : inS c g = true
    · simp [CanS, canS, metaZ, ofS, fromMode, permS, maskS, goS, ixP, h1, h2, h3, hu, hg, band_77]
    · simp [CanS, canS, metaZ, ofS, fromMode, permS, maskS, goS, ixP, h1, h2, h3, hu, hg]

end Go.Proofs.Ytgjlkcdnlndlnaa
/- Who can what: the law of lists, in plain Lean. -/
namespace Go.Proofs.Ytgjlkcdnlndlnaa
open Go Go.Proofs.Ytgjlkcdnlndlnaa.Sx F
set_option linter.unusedVariables false
set_option linter.unusedSimpArgs false

structure Good (l : List Ace) : Prop where
  perm : ∀ a ∈ l, 0 ≤ a.perm ∧ a.perm < 8
  own : ∃ a ∈ l, a.tag = 1
  grp : ∃ a ∈ l, a.tag = 3
  oth : ∃ a ∈ l, a.tag = 6

theorem mem_addS {a x : Ace} : ∀ {l : List Ace}, x ∈ addS a l → x = a ∨ x ∈ l
  | [], h => by simp [addS] at h; exact .inl h
  | y :: r, h => by
    unfold addS at h
    split at h
    · rcases List.mem_cons.1 h with h | h
      · exact .inr (by simp [h])
      · rcases mem_addS h with h | h
        · exact .inl h
        · exact .inr (by simp [h])
    · split at h
      · rcases List.mem_cons.1 h with h | h
        · exact .inl h
        · exact .inr (by simp [h])
      · rcases List.mem_cons.1 h with h | h
        · exact .inl h
        · exact .inr h
theorem accS_perm {ns : List Int} (hns : isBytes ns) : ∀ k, (∀ a ∈ (accS ns k).1, (0 ≤ a.perm ∧ a.perm < 8) ∧ a.tag = 2) ∧ ∀ a ∈ (accS ns k).2, (0 ≤ a.perm ∧ a.perm < 8) ∧ a.tag = 4
  | 0 => by simp [accS]
  | k + 1 => by
    obtain ⟨h1, h2⟩ := accS_perm hns k
    have hp : 0 ≤ (ns.getD (2 * k + 1) 0).tmod 8 ∧ (ns.getD (2 * k + 1) 0).tmod 8 < 8 := ⟨Int.tmod_nonneg _ (byte_at hns).1, Int.tmod_lt_of_pos _ (by decide)⟩
    unfold accS
    split
    · refine ⟨fun a ha => ?_, h2⟩
      rcases mem_addS ha with rfl | ha
      · exact ⟨hp, rfl⟩
      · exact h1 a ha
    · refine ⟨h1, fun a ha => ?_⟩
      rcases mem_addS ha with rfl | ha
      · exact ⟨hp, rfl⟩
      · exact h2 a ha
theorem bxor_8 {a b : Int} (ha : 0 ≤ a ∧ a < 8) (hb : 0 ≤ b ∧ b < 8) : 0 ≤ bxor a b ∧ bxor a b < 8 := by
  have : ∀ x y : Fin 8, 0 ≤ bxor (x.1 : Int) (y.1 : Int) ∧ bxor (x.1 : Int) (y.1 : Int) < 8 := by decide +kernel
  have := this ⟨a.toNat, by omega⟩ ⟨b.toNat, by omega⟩
  rwa [show ((⟨a.toNat, by omega⟩ : Fin 8).1 : Int) = a from Int.toNat_of_nonneg ha.1, show ((⟨b.toNat, by omega⟩ : Fin 8).1 : Int) = b from Int.toNat_of_nonneg hb.1] at this
theorem good_l9 {ns : List Int} (hns : isBytes ns) (m : Int) : Good (l9S ns m) := by
  obtain ⟨h1, h2⟩ := accS_perm hns (pairs ns)
  have hp : 0 ≤ (ns.getD 0 0).tmod 8 ∧ (ns.getD 0 0).tmod 8 < 8 := ⟨Int.tmod_nonneg _ (byte_at hns).1, Int.tmod_lt_of_pos _ (by decide)⟩
  unfold l9S
  dsimp only
  split
  · refine ⟨fun a ha => ?_, ⟨⟨1, 0, band (m.fdiv (2 ^ 6)) 7⟩, by simp, rfl⟩, ⟨⟨3, 0, band (m.fdiv (2 ^ 3)) 7⟩, by simp, rfl⟩, ⟨⟨6, 0, band m 7⟩, by simp, rfl⟩⟩
    simp only [List.mem_append, List.mem_cons, List.not_mem_nil, or_false] at ha
    rcases ha with (rfl | ha) | rfl | rfl
    · exact band_7 _
    · exact (h1 a ha).1
    · exact band_7 _
    · exact band_7 _
  · refine ⟨fun a ha => ?_, ⟨⟨1, 0, band (m.fdiv (2 ^ 6)) 7⟩, by simp, rfl⟩, ⟨⟨3, 0, bxor (band (m.fdiv (2 ^ 3)) 7) ((ns.getD 0 0).tmod 8)⟩, by simp, rfl⟩, ⟨⟨6, 0, band m 7⟩, by simp, rfl⟩⟩
    simp only [List.mem_append, List.mem_cons, List.not_mem_nil, or_false] at ha
    rcases ha with (((rfl | ha) | rfl) | ha) | rfl | rfl
    · exact band_7 _
    · exact (h1 a ha).1
    · exact bxor_8 (band_7 _) hp
    · exact (h2 a ha).1
    · exact band_7 _
    · exact band_7 _
theorem good_mode (m : Int) : Good (fromMode m) := by
  have h := band_le (x := m) (y := 511) (by decide) (by decide)
  refine ⟨fun a ha => ?_, ⟨_, .head _, rfl⟩, ⟨_, .tail _ (.head _), rfl⟩, ⟨_, .tail _ (.tail _ (.head _)), rfl⟩⟩
  simp only [fromMode, List.mem_cons, List.not_mem_nil, or_false] at ha
  rcases ha with rfl | rfl | rfl
  · show 0 ≤ (band m 511).fdiv 64 ∧ (band m 511).fdiv 64 < 8
    rw [Int.fdiv_eq_ediv_of_nonneg _ (by decide)]
    omega
  · exact band_7 _
  · exact band_7 _
theorem l9_len (ns : List Int) (m : Int) : (l9S ns m).length ≤ 17 := by
  have h := accS_len ns (pairs ns)
  have hp : pairs ns ≤ 6 := Nat.min_le_left _ _
  unfold l9S
  dsimp only
  split <;> simp only [List.length_append, List.length_cons, List.length_nil] <;> omega
theorem MadeM.good {ns : List Int} {m : Meta} (h : MadeM ns m) : Good (ofS m) := by
  unfold ofS
  split
  · rename_i hl
    rcases h.acl with h | ⟨ns', h1, h2⟩
    · rw [h] at hl; simp at hl
    · rw [h2]; exact good_l9 h1 _
  · exact good_mode _
theorem MadeM.len {ns : List Int} {m : Meta} (h : MadeM ns m) : m.acl.length ≤ 17 := by
  rcases h.acl with h | ⟨ns', h1, h2⟩
  · rw [h]; simp
  · rw [h2]; exact l9_len _ _
theorem MadeM.short {ns : List Int} {m : Meta} (h : MadeM ns m) : _root_.Go.Proofs.Ytgjlkcdnlndlnaa.short m.acl := Nat.le_trans h.len (by decide)

theorem perm_some {l : List Ace} (h : Good l) {t : Int} (ht : ∃ a ∈ l, a.tag = t) : ∃ p, permS l t = some p ∧ 0 ≤ p ∧ p < 8 := by
  obtain ⟨a, ha, hat⟩ := ht
  unfold permS
  cases hf : l.find? fun a => decide (a.tag = t) with
  | none => exact absurd (List.find?_eq_none.1 hf a ha) (by simp [hat])
  | some b => exact ⟨b.perm, rfl, h.perm b (List.mem_of_find?_eq_some hf)⟩
theorem mask_some {l : List Ace} (h : Good l) : ∃ p, maskS l = some p ∧ 0 ≤ p ∧ p < 8 := by
  unfold maskS
  split
  · rename_i hx
    rcases ixP_find (fun a : Ace => decide (a.tag = 5)) Ace.z l with ⟨h1, _⟩ | ⟨k, _, _, h3⟩
    · omega
    · refine perm_some h ⟨_, List.mem_of_find?_eq_some h3, by simpa using List.find?_some h3⟩
  · exact ⟨7, rfl, by decide, by decide⟩

/-- What the list says of who asks: a right of the one named, or those of the groups. -/
def goP (m : Meta) (c : Cred) (mask : Int) : List Ace → Int ⊕ List Int
  | [] => .inr []
  | a :: r =>
    if a.tag = 2 ∧ a.id = c.uid then .inl (band a.perm mask)
    else if (a.tag = 3 ∧ inS c m.gid = true) ∨ (a.tag = 4 ∧ inS c a.id = true) then
      match goP m c mask r with
      | .inl p => .inl p
      | .inr P => .inr (band a.perm mask :: P)
    else goP m c mask r
theorem goS_goP (m : Meta) (c : Cred) (w mask : Int) : ∀ (l : List Ace) (me any : Bool), goS m c w mask l me any = match goP m c mask l with
    | .inl p => .inl (hasS w p)
    | .inr P => .inr (me || !P.isEmpty, any || P.any (hasS w))
  | [], me, any => by simp [goS, goP]
  | a :: r, me, any => by
    unfold goS goP
    split
    · rfl
    · split
      · rw [goS_goP m c w mask r]
        split <;> simp_all [Bool.or_assoc]
      · exact goS_goP m c w mask r me any
/-- The rights of which one must do. -/
def repS (m : Meta) (c : Cred) : List Int :=
  if m.uid = c.uid then [(permS (ofS m) 1).getD 0] else
  match goP m c ((maskS (ofS m)).getD 0) (ofS m) with
  | .inl p => [p]
  | .inr [] => [(permS (ofS m) 6).getD 0]
  | .inr (p :: P) => p :: P
theorem canS_rep {m : Meta} {c : Cred} (h : Good (ofS m)) (w : Int) : canS m c w = some ((repS m c).any (hasS w)) := by
  obtain ⟨p1, h1, _⟩ := perm_some h h.own
  obtain ⟨p6, h6, _⟩ := perm_some h h.oth
  obtain ⟨k, hk, _⟩ := mask_some h
  unfold canS repS
  rw [h1, h6, hk]
  split
  · simp
  · rw [Option.bind_some, goS_goP]
    simp only [Option.getD_some]
    cases goP m c k (ofS m) with
    | inl p => simp
    | inr P => cases P <;> simp
def okP : Int ⊕ List Int → Prop
  | .inl p => 0 ≤ p ∧ p < 8
  | .inr P => ∀ p ∈ P, 0 ≤ p ∧ p < 8
theorem goP_perm {m : Meta} {c : Cred} {mask : Int} (h0 : 0 ≤ mask) (h1 : mask < 8) : ∀ l : List Ace, okP (goP m c mask l)
  | [] => by simp [goP, okP]
  | a :: r => by
    have ih := goP_perm (m := m) (c := c) h0 h1 r
    have hb := band_le (x := a.perm) (y := mask) h0 (by omega)
    unfold goP
    by_cases q1 : a.tag = 2 ∧ a.id = c.uid
    · rw [if_pos q1]
      show 0 ≤ band a.perm mask ∧ band a.perm mask < 8
      omega
    · rw [if_neg q1]
      by_cases q2 : (a.tag = 3 ∧ inS c m.gid = true) ∨ (a.tag = 4 ∧ inS c a.id = true)
      · rw [if_pos q2]
        cases hg : goP m c mask r with
        | inl p => rw [hg] at ih; exact ih
        | inr P =>
          rw [hg] at ih
          intro p hp
          rcases List.mem_cons.1 hp with rfl | hp
          · omega
          · exact ih p hp
      · rw [if_neg q2]
        exact ih
theorem repS_good {m : Meta} {c : Cred} (h : Good (ofS m)) : repS m c ≠ [] ∧ ∀ p ∈ repS m c, 0 ≤ p ∧ p < 8 := by
  obtain ⟨p1, h1, q1⟩ := perm_some h h.own
  obtain ⟨p6, h6, q6⟩ := perm_some h h.oth
  obtain ⟨k, hk, qk⟩ := mask_some h
  have hg := goP_perm (m := m) (c := c) qk.1 qk.2 (ofS m)
  unfold repS
  rw [h1, h6, hk]
  split
  · simpa using q1
  · simp only [Option.getD_some]
    cases hG : goP m c k (ofS m) with
    | inl p => rw [hG] at hg; simpa using (show 0 ≤ p ∧ p < 8 from hg)
    | inr P =>
      rw [hG] at hg
      cases P with
      | nil => simpa using q6
      | cons p P => exact ⟨by simp, hg⟩
theorem CanS_rep {m : Meta} {c : Cred} (h : Good (ofS m)) {w : Int} (h0 : 0 ≤ w) (h1 : w < 8) : CanS m c w = (decide (0 < band c.powers 2) || (repS m c).any (hasS w)) := by
  unfold CanS
  rw [canS_rep h]
  simp [show ¬ w < 0 by omega, show ¬ 7 < w by omega]

/-! ### bits of three -/
theorem fin88 {p : Int → Int → Prop} (h : ∀ n k : Fin 8, p (n.1 : Int) (k.1 : Int)) {n k : Int} (hn : 0 ≤ n ∧ n < 8) (hk : 0 ≤ k ∧ k < 8) : p n k :=
  fin8 (p := fun n => ∀ k, 0 ≤ k ∧ k < 8 → p n k) (fun n k hk => fin8 (p := p n.1) (fun k => h n k) hk.1 hk.2) hn.1 hn.2 k hk
def bor (a b : Int) : Int := abits .or .i64 a b
theorem bor_8 {a b : Int} (ha : 0 ≤ a ∧ a < 8) (hb : 0 ≤ b ∧ b < 8) : 0 ≤ bor a b ∧ bor a b < 8 :=
  fin88 (p := fun a b => 0 ≤ bor a b ∧ bor a b < 8) (by decide +kernel) ha hb
theorem has_or {a b p : Int} (ha : 0 ≤ a ∧ a < 8) (hb : 0 ≤ b ∧ b < 8) (hp : 0 ≤ p ∧ p < 8) : hasS (bor a b) p = true → hasS a p = true ∧ hasS b p = true :=
  fin88 (p := fun a b => hasS (bor a b) p = true → hasS a p = true ∧ hasS b p = true) (fun a b => fin8 (p := fun p => hasS (bor a.1 b.1) p = true → hasS a.1 p = true ∧ hasS b.1 p = true) (by
    have : ∀ a b p : Fin 8, hasS (bor (a.1 : Int) (b.1 : Int)) (p.1 : Int) = true → hasS (a.1 : Int) (p.1 : Int) = true ∧ hasS (b.1 : Int) (p.1 : Int) = true := by decide +kernel
    exact this a b) hp.1 hp.2) ha hb
theorem has_0 {p : Int} (hp : 0 ≤ p ∧ p < 8) : hasS 0 p = true := fin8 (p := fun p => hasS 0 p = true) (by decide +kernel) hp.1 hp.2
end Go.Proofs.Ytgjlkcdnlndlnaa
/- right.Less, walked, and what it answers. -/
namespace Go.Proofs.Ytgjlkcdnlndlnaa
open Go Go.Proofs.Ytgjlkcdnlndlnaa.Sx F
set_option linter.unusedVariables false
set_option linter.unusedSimpArgs false

def lessG (mask : Int) : List Ace → Int → Int → Int × Int
  | [], g, o => (g, o)
  | a :: r, g, o =>
    if a.tag = 2 then lessG mask r (band g (band a.perm mask)) (band o (band a.perm mask))
    else if a.tag = 4 then lessG mask r g (band o (band a.perm mask))
    else lessG mask r g o
def lessN (p g o : Int) : Int := bor (bor (IntKind.i64.wrap (p * 2 ^ 6)) (IntKind.i64.wrap (g * 2 ^ 3))) o
def lessO (l : List Ace) : Option Int :=
  (maskS l).bind fun mask => (permS l 3).bind fun g => (permS l 6).bind fun o => (permS l 1).map fun p =>
    lessN p (lessG mask l (band g mask) o).1 (lessG mask l (band g mask) o).2
def box1 (m : Th Meta) : BL := .cons 10000 (.cells (Meta.ch m)) .nil

theorem less1_c (m : Th Meta) (hm : short (m .o).acl) {d : Nat} {K : ARes → BL → Prop} (hr : ∀ n : Th Int, lessO (ofS (m .o)) = some (n .o) → K (.ret (.int .i64 n)) (box1 m))
    (hp : ∀ t, lessO (ofS (m .o)) = none → K (.pan (lacks t)) (box1 m)) : CallAt PT right_Less_1 [.ptr 10000 0] d (box1 m) K := by
  refine right_Less_1.of rfl rfl ?_
  cbv
  refine of_c m fun l hl => ?_
  have hls : short (l .o) := by rw [hl]; exact ofS_short hm
  rw [← hl] at hr hp
  cbv
  refine mask_c l hls (fun mk hmk => ?_) fun t ht => ?_
  rotate_left
  · cbv
    exact hp _ (by unfold lessO; rw [ht]; rfl)
  cbv
  refine perm_c l (fun _ => 3) hls (fun g hg => ?_) fun hg => ?_
  rotate_left
  · cbv
    exact hp _ (by unfold lessO; rw [hmk, show permS (l .o) 3 = none from hg]; rfl)
  have hg : permS (l .o) 3 = some (g .o) := hg
  cbv
  refine perm_c l (fun _ => 6) hls (fun o ho => ?_) fun ho => ?_
  rotate_left
  · cbv
    exact hp _ (by unfold lessO; rw [hmk, hg, show permS (l .o) 6 = none from ho]; rfl)
  have ho : permS (l .o) 6 = some (o .o) := ho
  cbv
  refine loop_rule (X := Nat × Int × Int) 1000 [0, 2, 3, 18, 19] [10000] (fun x => .cons 20 (.int .i64 fun _ => zi x.1) (.cons 4 (.int .i64 fun _ => x.2.1) (.cons 5 (.int .i64 fun _ => x.2.2) .nil))) (fun _ => .nil)
    (fun x => x.1 ≤ (l .o).length ∧ lessG (mk .o) (l .o) (band (g .o) (mk .o)) (o .o) = lessG (mk .o) ((l .o).drop x.1) x.2.1 x.2.2) (fun x => (l .o).length - x.1) (0, band (g .o) (mk .o), o .o) ?_ ⟨Nat.zero_le _, rfl⟩ ?_
  · cbv
    (repeat' (first | exact True.intro | exact Same.refl _ | exact SameB.refl _ | exact ⟨rfl⟩ | exact Same.int rfl | exact Same.str rfl | exact Same.bool rfl | (refine Same.int ?_; simp only [List.length_append, List.length_cons, List.length_nil, zi]; omega) | (refine SameB.row' rfl fun i hi => ?_; first | rfl | exact absurd hi (Nat.not_lt_zero _)) | refine And.intro ?_ ?_ | refine SameB.cells ?_ | exact SameC.nil | refine SameC.cons ?_ ?_ | exact Same.nsl rfl | exact Same.tt rfl | exact Same.ff rfl))
  · rintro ⟨k, gg, oo⟩ ⟨hk, hgo⟩
    dsimp only at hk hgo
    have succ := zi_succ (k := k) (by unfold short at hls; omega)
    cbv
    ((try refine br_rev ?_); (first | refine br_dec (fun h2 => ?_) (fun h2 => ?_) | refine br_ndec (fun h2 => ?_) (fun h2 => ?_) | refine br_nbool (fun h2 => ?_) (fun h2 => ?_) | refine br_bool (fun h2 => ?_) (fun h2 => ?_)); all_goals (try dsimp only at h2); all_goals (try with_reducible replace h2 := zi_lt.1 h2); all_goals (try with_reducible replace h2 := not_zlt h2)) <;> cbv
    · rw [drop_cons _ Ace.z _ h2] at hgo
      refine safe ⟨zi_nonneg _, zi_lt.2 h2⟩ ?_
      generalize hx : (l O1.o).getD ((fun x => (zi (k, gg, oo).fst).toNat) O1.o) Ace.z = a
      have hx : (l .o).getD k Ace.z = a := by rw [← hx]; show _ = (l .o).getD (zi k).toNat Ace.z; rw [zi_toNat]
      rw [hx] at hgo
      ((try refine br_rev ?_); (first | refine br_dec (fun h3 => ?_) (fun h3 => ?_) | refine br_ndec (fun h3 => ?_) (fun h3 => ?_) | refine br_nbool (fun h3 => ?_) (fun h3 => ?_) | refine br_bool (fun h3 => ?_) (fun h3 => ?_)); all_goals (try dsimp only at h3); all_goals (try with_reducible replace h3 := zi_lt.1 h3); all_goals (try with_reducible replace h3 := not_zlt h3)) <;> cbv
      · refine ⟨(k + 1, band gg (band a.perm (mk .o)), band oo (band a.perm (mk .o))), ⟨by show k + 1 ≤ _; omega, by show _ = lessG _ _ (band gg (band a.perm (mk .o))) (band oo (band a.perm (mk .o))); rw [hgo, lessG, if_pos h3]⟩, by show _ - (k + 1) < _ - k; omega, ?_⟩
        cbv
        (repeat' (first | exact True.intro | exact Same.refl _ | exact SameB.refl _ | exact ⟨rfl⟩ | exact Same.int rfl | exact Same.str rfl | exact Same.bool rfl | (refine Same.int ?_; simp only [List.length_append, List.length_cons, List.length_nil, zi]; omega) | (refine SameB.row' rfl fun i hi => ?_; first | rfl | exact absurd hi (Nat.not_lt_zero _)) | refine And.intro ?_ ?_ | refine SameB.cells ?_ | exact SameC.nil | refine SameC.cons ?_ ?_ | exact Same.nsl rfl | exact Same.tt rfl | exact Same.ff rfl))
        all_goals exact Same.int succ
      · ((try refine br_rev ?_); (first | refine br_dec (fun h4 => ?_) (fun h4 => ?_) | refine br_ndec (fun h4 => ?_) (fun h4 => ?_) | refine br_nbool (fun h4 => ?_) (fun h4 => ?_) | refine br_bool (fun h4 => ?_) (fun h4 => ?_)); all_goals (try dsimp only at h4); all_goals (try with_reducible replace h4 := zi_lt.1 h4); all_goals (try with_reducible replace h4 := not_zlt h4)) <;> cbv
        · refine ⟨(k + 1, gg, band oo (band a.perm (mk .o))), ⟨by show k + 1 ≤ _; omega, by show _ = lessG _ _ gg (band oo (band a.perm (mk .o))); rw [hgo, lessG, if_neg h3, if_pos h4]⟩, by show _ - (k + 1) < _ - k; omega, ?_⟩
          cbv
          (repeat' (first | exact True.intro | exact Same.refl _ | exact SameB.refl _ | exact ⟨rfl⟩ | exact Same.int rfl | exact Same.str rfl | exact Same.bool rfl | (refine Same.int ?_; simp only [List.length_append, List.length_cons, List.length_nil, zi]; omega) | (refine SameB.row' rfl fun i hi => ?_; first | rfl | exact absurd hi (Nat.not_lt_zero _)) | refine And.intro ?_ ?_ | refine SameB.cells ?_ | exact SameC.nil | refine SameC.cons ?_ ?_ | exact Same.nsl rfl | exact Same.tt rfl | exact Same.ff rfl))
          all_goals exact Same.int succ
        · refine ⟨(k + 1, gg, oo), ⟨by show k + 1 ≤ _; omega, by show _ = lessG _ _ gg oo; rw [hgo, lessG, if_neg h3, if_neg h4]⟩, by show _ - (k + 1) < _ - k; omega, ?_⟩
          cbv
          (repeat' (first | exact True.intro | exact Same.refl _ | exact SameB.refl _ | exact ⟨rfl⟩ | exact Same.int rfl | exact Same.str rfl | exact Same.bool rfl | (refine Same.int ?_; simp only [List.length_append, List.length_cons, List.length_nil, zi]; omega) | (refine SameB.row' rfl fun i hi => ?_; first | rfl | exact absurd hi (Nat.not_lt_zero _)) | refine And.intro ?_ ?_ | refine SameB.cells ?_ | exact SameC.nil | refine SameC.cons ?_ ?_ | exact Same.nsl rfl | exact Same.tt rfl | exact Same.ff rfl))
          all_goals exact Same.int succ
    · rw [List.drop_eq_nil_of_le (by omega)] at hgo
      refine perm_c l (fun _ => 1) hls (fun p hp1 => ?_) fun hp1 => ?_
      · have hp1 : permS (l .o) 1 = some (p .o) := hp1
        (cbv; repeat (refine safe (by first | decide | (simp only [zi] at *; omega) | assumption | (dsimp only; omega) | (dsimp only at *; simp only [List.length_append, List.length_cons, List.length_nil, zi] at *; omega)) ?_; cbv))
        exact hr _ (by unfold lessO; rw [hmk, hg, ho, hp1]; show some _ = _; rw [hgo]; rfl)
      · cbv
        exact hp _ (by unfold lessO; rw [hmk, hg, ho, show permS (l .o) 1 = none from hp1]; rfl)

theorem lookid_none_c (b : Th Int) {K : BL → Prop} (h : K (.cons 10000 (.cells (.cons (.int .i64 b) .nil)) .nil)) : DefAt PT right_look_int_1 false [.nif, .ptr 10000 0] (.cons 10000 (.cells (.cons (.int .i64 b) .nil)) .nil) K := by
  refine right_look_int_1.of rfl rfl (fun _ => rfl) ?_
  cbv
  exact h
theorem lookid_some_c (t : Th Int) {K : BL → Prop} (h : K (.cons 10000 (.cells (.cons (.int .i64 fun _ => 0) .nil)) .nil)) : DefAt PT right_look_int_1 true [lacks t, .ptr 10000 0] (.cons 10000 (.cells (.cons (.int .i64 fun _ => 0) .nil)) .nil) K := by
  refine right_look_int_1.of rfl rfl (fun h => by cases h) ?_
  cbv
  exact h
theorem look_less_c (m : Th Meta) (hm : short (m .o).acl) {d : Nat} {K : ARes → BL → Prop} (hr : ∀ n : Th Int, n .o = (lessO (ofS (m .o))).getD 0 → K (.ret (.int .i64 n)) (box1 m)) :
    CallAt PT right_look_int [.fn (.func right_Less_1) .nil (.cons (.ptr 10000 0) .nil)] d (box1 m) K := by
  refine CallAt.res ?_
  refine right_look_int.of rfl rfl ?_
  cbv
  refine CallAt.frameP [(10000, 10000)] [.ptr 10000 0] (by kernel_rfl) rfl fun K1 hK1 => ?_
  cbv
  refine less1_c m hm (fun b hb => hK1 _ _ ?_) fun t ht => hK1 _ _ ?_
  · cbv
    refine DefAt.use [(10000, 2)] [.nif, .ptr 10000 0] (by kernel_rfl) rfl (lookid_none_c b ?_)
    cbv
    refine ⟨_, .ret (.refl _), hr b ?_⟩
    rw [hb]; rfl
  · cbv
    refine DefAt.use [(10000, 2)] [lacks t, .ptr 10000 0] (by kernel_rfl) rfl (lookid_some_c t ?_)
    cbv
    refine ⟨_, .ret (.refl _), hr (fun _ => 0) ?_⟩
    rw [ht]; rfl
def LessS (m : Meta) : Int := (lessO (ofS m)).getD 0
theorem Less_c (m : Th Meta) (hm : short (m .o).acl) {d : Nat} {K : ARes → BL → Prop} (hr : ∀ n : Th Int, n .o = LessS (m .o) → K (.ret (.int .i64 n)) .nil) :
    CallAt PT right_Less [Meta.av m] d .nil K := by
  refine right_Less.of rfl rfl ?_
  cbv
  refine CallAt.frameP [(10000, 1)] [.fn (.func right_Less_1) .nil (.cons (.ptr 10000 0) .nil)] (by kernel_rfl) rfl fun K1 hK1 => ?_
  cbv
  refine look_less_c m hm fun n hn => hK1 _ _ ?_
  cbv
  exact hr n hn

/-! ### what it answers of good lists -/
theorem fin888 {p : Int → Int → Int → Prop} (h : ∀ n k j : Fin 8, p (n.1 : Int) (k.1 : Int) (j.1 : Int)) {n k j : Int} (hn : 0 ≤ n ∧ n < 8) (hk : 0 ≤ k ∧ k < 8) (hj : 0 ≤ j ∧ j < 8) : p n k j :=
  fin88 (p := fun n k => ∀ j, 0 ≤ j ∧ j < 8 → p n k j) (fun n k j hj => fin8 (p := p n.1 k.1) (fun j => h n k j) hj.1 hj.2) hn hk j hj
/-- What a right may, another may. -/
def sub (x y : Int) : Prop := ∀ w, 0 ≤ w → w < 8 → hasS w x = true → hasS w y = true
theorem sub_refl (x : Int) : sub x x := fun _ _ _ h => h
theorem sub_trans {x y z : Int} (h1 : sub x y) (h2 : sub y z) : sub x z := fun w a b h => h2 w a b (h1 w a b h)
theorem band_8 {a b : Int} (ha : 0 ≤ a ∧ a < 8) (hb : 0 ≤ b ∧ b < 8) : 0 ≤ band a b ∧ band a b < 8 := fin88 (p := fun a b => 0 ≤ band a b ∧ band a b < 8) (by decide +kernel) ha hb
theorem sub_l {a b : Int} (ha : 0 ≤ a ∧ a < 8) (hb : 0 ≤ b ∧ b < 8) : sub (band a b) a := fun w h0 h1 =>
  fin888 (p := fun a b w => hasS w (band a b) = true → hasS w a = true) (by decide +kernel) ha hb ⟨h0, h1⟩
theorem sub_r {a b : Int} (ha : 0 ≤ a ∧ a < 8) (hb : 0 ≤ b ∧ b < 8) : sub (band a b) b := fun w h0 h1 =>
  fin888 (p := fun a b w => hasS w (band a b) = true → hasS w b = true) (by decide +kernel) ha hb ⟨h0, h1⟩
structure LessOk (mask : Int) (l : List Ace) (g o : Int) (x : Int × Int) : Prop where
  r1 : 0 ≤ x.1 ∧ x.1 < 8
  r2 : 0 ≤ x.2 ∧ x.2 < 8
  g : sub x.1 g
  o : sub x.2 o
  u : ∀ a ∈ l, a.tag = 2 → sub x.1 (band a.perm mask) ∧ sub x.2 (band a.perm mask)
  n : ∀ a ∈ l, a.tag = 4 → sub x.2 (band a.perm mask)
theorem lessG_ok {mask : Int} (hm : 0 ≤ mask ∧ mask < 8) : ∀ (l : List Ace) (g o : Int), (∀ a ∈ l, 0 ≤ a.perm ∧ a.perm < 8) → 0 ≤ g ∧ g < 8 → 0 ≤ o ∧ o < 8 → LessOk mask l g o (lessG mask l g o)
  | [], g, o, _, hg, ho => ⟨hg, ho, sub_refl _, sub_refl _, by simp, by simp⟩
  | a :: r, g, o, hl, hg, ho => by
    have ha := hl a (by simp)
    have hr := fun x hx => hl x (List.mem_cons_of_mem a hx)
    have hb := band_8 ha hm
    unfold lessG
    by_cases h2 : a.tag = 2
    · rw [if_pos h2]
      have ih := lessG_ok hm r _ _ hr (band_8 hg hb) (band_8 ho hb)
      refine ⟨ih.r1, ih.r2, sub_trans ih.g (sub_l hg hb), sub_trans ih.o (sub_l ho hb), fun x hx ht => ?_, fun x hx ht => ?_⟩
      · rcases List.mem_cons.1 hx with rfl | hx
        · exact ⟨sub_trans ih.g (sub_r hg hb), sub_trans ih.o (sub_r ho hb)⟩
        · exact ih.u x hx ht
      · rcases List.mem_cons.1 hx with rfl | hx
        · omega
        · exact ih.n x hx ht
    · rw [if_neg h2]
      by_cases h4 : a.tag = 4
      · rw [if_pos h4]
        have ih := lessG_ok hm r _ _ hr hg (band_8 ho hb)
        refine ⟨ih.r1, ih.r2, ih.g, sub_trans ih.o (sub_l ho hb), fun x hx ht => ?_, fun x hx ht => ?_⟩
        · rcases List.mem_cons.1 hx with rfl | hx
          · exact absurd ht h2
          · exact ih.u x hx ht
        · rcases List.mem_cons.1 hx with rfl | hx
          · exact sub_trans ih.o (sub_r ho hb)
          · exact ih.n x hx ht
      · rw [if_neg h4]
        have ih := lessG_ok hm r _ _ hr hg ho
        refine ⟨ih.r1, ih.r2, ih.g, ih.o, fun x hx ht => ?_, fun x hx ht => ?_⟩
        · rcases List.mem_cons.1 hx with rfl | hx
          · exact absurd ht h2
          · exact ih.u x hx ht
        · rcases List.mem_cons.1 hx with rfl | hx
          · exact absurd ht h4
          · exact ih.n x hx ht
theorem lessN_eq {p g o : Int} (hp : 0 ≤ p ∧ p < 8) (hg : 0 ≤ g ∧ g < 8) (ho : 0 ≤ o ∧ o < 8) : lessN p g o = 64 * p + 8 * g + o :=
  fin888 (p := fun p g o => lessN p g o = 64 * p + 8 * g + o) (by decide +kernel) hp hg ho
theorem fin512 {p : Int → Prop} (h : ∀ n : Fin 512, p (n.1 : Int)) {n : Int} (h0 : 0 ≤ n) (h1 : n < 512) : p n := by
  have := h ⟨n.toNat, by omega⟩
  rwa [show ((⟨n.toNat, by omega⟩ : Fin 512).1 : Int) = n from Int.toNat_of_nonneg h0] at this
theorem goP_inl {m : Meta} {c : Cred} {mask p : Int} : ∀ {l : List Ace}, goP m c mask l = .inl p → ∃ a ∈ l, a.tag = 2 ∧ p = band a.perm mask
  | [], h => by simp [goP] at h
  | a :: r, h => by
    unfold goP at h
    by_cases q1 : a.tag = 2 ∧ a.id = c.uid
    · rw [if_pos q1] at h
      exact ⟨a, by simp, q1.1, by injection h with h; exact h.symm⟩
    · rw [if_neg q1] at h
      have ih : goP m c mask r = .inl p → ∃ b ∈ a :: r, b.tag = 2 ∧ p = band b.perm mask := fun q => by
        obtain ⟨b, hb, hh⟩ := goP_inl q
        exact ⟨b, by simp [hb], hh⟩
      split at h
      · cases hg : goP m c mask r with
        | inl q => rw [hg] at h; exact ih (by rw [hg]; exact h)
        | inr Q => rw [hg] at h; cases h
      · exact ih h
theorem goP_mem {m : Meta} {c : Cred} {mask : Int} : ∀ {l : List Ace} {P : List Int}, goP m c mask l = .inr P →
    (∀ a ∈ l, (a.tag = 3 ∧ inS c m.gid = true) ∨ (a.tag = 4 ∧ inS c a.id = true) → band a.perm mask ∈ P) ∧ (inS c m.gid = false → ∀ p ∈ P, ∃ a ∈ l, a.tag = 4 ∧ p = band a.perm mask)
  | [], P, h => by
    simp [goP] at h
    subst h
    simp
  | a :: r, P, h => by
    unfold goP at h
    by_cases q1 : a.tag = 2 ∧ a.id = c.uid
    · rw [if_pos q1] at h; cases h
    · rw [if_neg q1] at h
      by_cases q2 : (a.tag = 3 ∧ inS c m.gid = true) ∨ (a.tag = 4 ∧ inS c a.id = true)
      · rw [if_pos q2] at h
        cases hg : goP m c mask r with
        | inl q => rw [hg] at h; cases h
        | inr Q =>
          rw [hg] at h
          injection h with h
          subst h
          obtain ⟨i1, i2⟩ := goP_mem hg
          refine ⟨fun b hb hq => ?_, fun hi p hp => ?_⟩
          · rcases List.mem_cons.1 hb with rfl | hb
            · simp
            · simp [i1 b hb hq]
          · rcases List.mem_cons.1 hp with rfl | hp
            · rcases q2 with q2 | q2
              · rw [hi] at q2; simp at q2
              · exact ⟨a, by simp, q2.1, rfl⟩
            · obtain ⟨b, hb, hh⟩ := i2 hi p hp
              exact ⟨b, by simp [hb], hh⟩
      · rw [if_neg q2] at h
        obtain ⟨i1, i2⟩ := goP_mem h
        refine ⟨fun b hb hq => ?_, fun hi p hp => ?_⟩
        · rcases List.mem_cons.1 hb with rfl | hb
          · exact absurd hq q2
          · exact i1 b hb hq
        · obtain ⟨b, hb, hh⟩ := i2 hi p hp
          exact ⟨b, by simp [hb], hh⟩
theorem perm_mem {l : List Ace} {t p : Int} (h : permS l t = some p) : ∃ a ∈ l, a.tag = t ∧ p = a.perm := by
  unfold permS at h
  cases hf : l.find? fun a => decide (a.tag = t) with
  | none => rw [hf] at h; cases h
  | some b =>
    rw [hf] at h
    injection h with h
    exact ⟨b, List.mem_of_find?_eq_some hf, by simpa using List.find?_some hf, h.symm⟩
/-- The mode that gives nobody more. -/
theorem less_law {m : Meta} (h : Good (ofS m)) : (0 ≤ LessS m ∧ LessS m < 512) ∧
    (∀ (c : Cred) (w : Int), 0 ≤ w → w < 8 → ¬ 0 < band c.powers 2 → CanS { m with acl := [], mode := LessS m } c w = true → CanS m c w = true) := by
  obtain ⟨p1, h1, q1⟩ := perm_some h h.own
  obtain ⟨p3, h3, q3⟩ := perm_some h h.grp
  obtain ⟨p6, h6, q6⟩ := perm_some h h.oth
  obtain ⟨k, hk, qk⟩ := mask_some h
  have hx := lessG_ok qk (ofS m) (band p3 k) p6 h.perm (band_8 q3 qk) q6
  have he : LessS m = 64 * p1 + 8 * (lessG k (ofS m) (band p3 k) p6).1 + (lessG k (ofS m) (band p3 k) p6).2 := by
    unfold LessS lessO
    rw [hk, h3, h6, h1]
    exact lessN_eq q1 hx.r1 hx.r2
  generalize lessG k (ofS m) (band p3 k) p6 = x at hx he
  obtain ⟨x1, x2⟩ := x
  have r1 := hx.r1
  have r2 := hx.r2
  dsimp only at he r1 r2
  refine ⟨by omega, fun c w h0 w1 hp hcan => ?_⟩
  have hgn : Good (ofS { m with acl := [], mode := LessS m }) := good_mode _
  rw [CanS_rep hgn h0 w1] at hcan
  rw [CanS_rep h h0 w1]
  simp only [hp, decide_false, Bool.false_or] at hcan ⊢
  have e1 : (band (LessS m) 511).fdiv (2 ^ 6) = p1 := by
    rw [band_511 (by omega) (by omega), show ((2 : Int) ^ 6) = 64 from rfl, Int.fdiv_eq_ediv_of_nonneg _ (by decide)]
    omega
  have e2 : band ((band (LessS m) 511).fdiv (2 ^ 3)) 7 = x1 := by
    have : ∀ n : Int, 0 ≤ n → n < 512 → band (n.fdiv (2 ^ 3)) 7 = n / 8 % 8 := fun n h0 h1 => fin512 (p := fun n => band (n.fdiv (2 ^ 3)) 7 = n / 8 % 8) (by decide +kernel) h0 h1
    rw [band_511 (by omega) (by omega), this _ (by omega) (by omega)]
    omega
  have e3 : band (band (LessS m) 511) 7 = x2 := by
    have : ∀ n : Int, 0 ≤ n → n < 512 → band n 7 = n % 8 := fun n h0 h1 => fin512 (p := fun n => band n 7 = n % 8) (by decide +kernel) h0 h1
    rw [band_511 (by omega) (by omega), this _ (by omega) (by omega)]
    omega
  have hof : ofS { m with acl := [], mode := LessS m } = [⟨1, 0, p1⟩, ⟨3, 0, x1⟩, ⟨6, 0, x2⟩] := by
    unfold ofS
    simp only [List.length_nil, Nat.lt_irrefl, if_false]
    unfold fromMode
    rw [e1, e2, e3]
  have hb7 : band x1 7 = x1 := fin8 (p := fun n => band n 7 = n) (by decide +kernel) r1.1 r1.2
  obtain ⟨v, hv, hvw⟩ := List.any_eq_true.1 hcan
  unfold repS at hv ⊢
  rw [hof] at hv
  rw [hk, h1, h6]
  dsimp only at hv
  by_cases hu : m.uid = c.uid
  · rw [if_pos hu] at hv ⊢
    simp [permS] at hv
    subst hv
    simpa using hvw
  · rw [if_neg hu] at hv ⊢
    simp only [Option.getD_some]
    -- whatever the mode gives, each of the rights that count gives
    by_cases hi : inS c m.gid = true
    · have hv : v = x1 := by
        simpa [goP, maskS, ixP, permS, hi, hb7] using hv
      subst hv
      cases hG : goP m c k (ofS m) with
      | inl p =>
        obtain ⟨a, ha, ht, rfl⟩ := goP_inl hG
        simpa using (hx.u a ha ht).1 w h0 w1 hvw
      | inr P =>
        obtain ⟨i1, _⟩ := goP_mem hG
        obtain ⟨a, ha, ht, rfl⟩ := perm_mem h3
        have hm := i1 a ha (.inl ⟨ht, hi⟩)
        cases P with
        | nil => simp at hm
        | cons p P => exact List.any_eq_true.2 ⟨_, hm, hx.g w h0 w1 hvw⟩
    · have hi : inS c m.gid = false := by simpa using hi
      have hv : v = x2 := by
        simpa [goP, maskS, ixP, permS, hi] using hv
      subst hv
      cases hG : goP m c k (ofS m) with
      | inl p =>
        obtain ⟨a, ha, ht, rfl⟩ := goP_inl hG
        simpa using (hx.u a ha ht).2 w h0 w1 hvw
      | inr P =>
        obtain ⟨_, i2⟩ := goP_mem hG
        cases P with
        | nil => simpa using hx.o w h0 w1 hvw
        | cons p P =>
          obtain ⟨a, ha, ht, he⟩ := i2 hi p (by simp)
          exact List.any_eq_true.2 ⟨p, by simp, by rw [he]; exact hx.n a ha ht w h0 w1 hvw⟩
theorem less_mode {m : Meta} (h : m.acl = []) : LessS m = band m.mode 511 := by
  have hb := band_le (x := m.mode) (y := 511) (by decide) (by decide)
  unfold LessS ofS
  rw [h]
  simp only [List.length_nil, Nat.lt_irrefl, if_false]
  unfold fromMode
  generalize band m.mode 511 = b at hb
  exact fin512 (p := fun b => (lessO [⟨1, 0, b.fdiv (2 ^ 6)⟩, ⟨3, 0, band (b.fdiv (2 ^ 3)) 7⟩, ⟨6, 0, band b 7⟩]).getD 0 = b) (by decide +kernel) (by omega) (by omega)
end Go.Proofs.Ytgjlkcdnlndlnaa
/- The document's answers on rights, walked. -/
namespace Go.Proofs.Ytgjlkcdnlndlnaa
open Go Go.Proofs.Ytgjlkcdnlndlnaa.Sx F
set_option linter.unusedVariables false
set_option linter.unusedSimpArgs false

def permR (l : List Ace) (t : Int) : Int := (permS l t).getD (-1)
theorem permS_cons (a : Ace) (r : List Ace) (t : Int) : permS (a :: r) t = if a.tag = t then some a.perm else permS r t := by
  unfold permS
  by_cases h : a.tag = t <;> simp [h]
theorem perm9_c (l : Th (List Ace)) (t : Th Int) (hl : short (l .o)) {d : Nat} {K : ARes → BL → Prop} (hr : ∀ n : Th Int, n .o = permR (l .o) (t .o) → K (.ret (.int .i64 n)) .nil) : CallAt PT r9_Perm [aces l, .int .i64 t] d .nil K := by
  refine r9_Perm.of rfl rfl ?_
  cbv
  refine loop_rule (X := Nat) 1000 [0, 1] [] (fun k => .cons 5 (.int .i64 fun _ => zi k) .nil) (fun _ => .nil) (fun k => k ≤ (l .o).length ∧ permS (l .o) (t .o) = permS ((l .o).drop k) (t .o)) (fun k => (l .o).length - k) 0 ?_ ⟨Nat.zero_le _, rfl⟩ ?_
  · cbv
    (repeat' (first | exact True.intro | exact Same.refl _ | exact SameB.refl _ | exact ⟨rfl⟩ | exact Same.int rfl | exact Same.str rfl | exact Same.bool rfl | (refine Same.int ?_; simp only [List.length_append, List.length_cons, List.length_nil, zi]; omega) | (refine SameB.row' rfl fun i hi => ?_; first | rfl | exact absurd hi (Nat.not_lt_zero _)) | refine And.intro ?_ ?_ | refine SameB.cells ?_ | exact SameC.nil | refine SameC.cons ?_ ?_ | exact Same.nsl rfl | exact Same.tt rfl | exact Same.ff rfl))
  · rintro k ⟨hk, hp⟩
    have succ := zi_succ (k := k) (by unfold short at hl; omega)
    cbv
    ((try refine br_rev ?_); (first | refine br_dec (fun h1 => ?_) (fun h1 => ?_) | refine br_ndec (fun h1 => ?_) (fun h1 => ?_) | refine br_nbool (fun h1 => ?_) (fun h1 => ?_) | refine br_bool (fun h1 => ?_) (fun h1 => ?_)); all_goals (try dsimp only at h1); all_goals (try with_reducible replace h1 := zi_lt.1 h1); all_goals (try with_reducible replace h1 := not_zlt h1)) <;> cbv
    · rw [drop_cons _ Ace.z _ h1, permS_cons] at hp
      refine safe ⟨zi_nonneg _, zi_lt.2 h1⟩ ?_
      have hz := zi_toNat k
      ((try refine br_rev ?_); (first | refine br_dec (fun h2 => ?_) (fun h2 => ?_) | refine br_ndec (fun h2 => ?_) (fun h2 => ?_) | refine br_nbool (fun h2 => ?_) (fun h2 => ?_) | refine br_bool (fun h2 => ?_) (fun h2 => ?_)); all_goals (try dsimp only at h2); all_goals (try with_reducible replace h2 := zi_lt.1 h2); all_goals (try with_reducible replace h2 := not_zlt h2)) <;> cbv
      · rw [hz] at h2
        refine safe ⟨zi_nonneg _, zi_lt.2 h1⟩ ?_
        exact hr _ (by unfold permR; rw [hp, if_pos h2]; show ((l .o).getD (zi k).toNat Ace.z).perm = _; rw [hz]; rfl)
      · rw [hz] at h2
        rw [if_neg h2] at hp
        refine ⟨k + 1, ⟨h1, hp⟩, by omega, ?_⟩
        cbv
        (repeat' (first | exact True.intro | exact Same.refl _ | exact SameB.refl _ | exact ⟨rfl⟩ | exact Same.int rfl | exact Same.str rfl | exact Same.bool rfl | (refine Same.int ?_; simp only [List.length_append, List.length_cons, List.length_nil, zi]; omega) | (refine SameB.row' rfl fun i hi => ?_; first | rfl | exact absurd hi (Nat.not_lt_zero _)) | refine And.intro ?_ ?_ | refine SameB.cells ?_ | exact SameC.nil | refine SameC.cons ?_ ?_ | exact Same.nsl rfl | exact Same.tt rfl | exact Same.ff rfl))
        all_goals exact Same.int succ
    · rw [List.drop_eq_nil_of_le (by omega)] at hp
      exact hr (fun _ => -1) (by unfold permR; rw [hp]; rfl)
theorem in9_c (c : Th Cred) (g : Th Int) (hl : short (c .o).groups) {d : Nat} {K : ARes → BL → Prop} (hr : ∀ b : Th Bool, b .o = inS (c .o) (g .o) → K (.ret (.bool b)) .nil) : CallAt PT r18_In [Cred.av c, .int .i64 g] d .nil K := by
  refine r18_In.of rfl rfl ?_
  cbv
  refine loop_rule (X := Nat × Bool) 1000 [1, 2] [2] (fun x => .cons 5 (.bool fun _ => x.2) (.cons 6 (.int .i64 fun _ => zi x.1) .nil)) (fun _ => .nil) (fun x => x.1 ≤ (c .o).groups.length ∧ x.2 = (decide ((c .o).gid = g .o) || decide (g .o ∈ (c .o).groups.take x.1))) (fun x => (c .o).groups.length - x.1) (0, decide ((c .o).gid = g .o)) ?_ ⟨Nat.zero_le _, by simp⟩ ?_
  · cbv
    (repeat' (first | exact True.intro | exact Same.refl _ | exact SameB.refl _ | exact ⟨rfl⟩ | exact Same.int rfl | exact Same.str rfl | exact Same.bool rfl | (refine Same.int ?_; simp only [List.length_append, List.length_cons, List.length_nil, zi]; omega) | (refine SameB.row' rfl fun i hi => ?_; first | rfl | exact absurd hi (Nat.not_lt_zero _)) | refine And.intro ?_ ?_ | refine SameB.cells ?_ | exact SameC.nil | refine SameC.cons ?_ ?_ | exact Same.nsl rfl | exact Same.tt rfl | exact Same.ff rfl))
  · rintro ⟨k, b⟩ ⟨hk, hb⟩
    dsimp only at hk hb
    have succ := zi_succ (k := k) (by unfold short at hl; omega)
    have hz := zi_toNat k
    cbv
    ((try refine br_rev ?_); (first | refine br_dec (fun h1 => ?_) (fun h1 => ?_) | refine br_ndec (fun h1 => ?_) (fun h1 => ?_) | refine br_nbool (fun h1 => ?_) (fun h1 => ?_) | refine br_bool (fun h1 => ?_) (fun h1 => ?_)); all_goals (try dsimp only at h1); all_goals (try with_reducible replace h1 := zi_lt.1 h1); all_goals (try with_reducible replace h1 := not_zlt h1)) <;> cbv
    · have hstep : (decide ((c .o).gid = g .o) || decide (g .o ∈ (c .o).groups.take (k + 1))) = (b || decide ((c .o).groups.getD k 0 = g .o)) := by
        rw [hb, List.take_add_one, List.getD_eq_getElem?_getD, List.getElem?_eq_getElem h1]
        simp only [List.mem_append, Option.toList_some, List.mem_singleton, Option.getD_some, Bool.or_assoc, Bool.decide_or]
        congr 2
        exact decide_eq_decide.2 eq_comm
      refine br_rev (br_bool (fun h2 => ?_) (fun h2 => ?_))
      · replace h2 : b = true := h2
        cbv
        refine ⟨(k + 1, true), ⟨h1, by show true = _; rw [hstep, h2]; rfl⟩, by show _ - (k + 1) < _ - k; omega, ?_⟩
        cbv
        (repeat' (first | exact True.intro | exact Same.refl _ | exact SameB.refl _ | exact ⟨rfl⟩ | exact Same.int rfl | exact Same.str rfl | exact Same.bool rfl | (refine Same.int ?_; simp only [List.length_append, List.length_cons, List.length_nil, zi]; omega) | (refine SameB.row' rfl fun i hi => ?_; first | rfl | exact absurd hi (Nat.not_lt_zero _)) | refine And.intro ?_ ?_ | refine SameB.cells ?_ | exact SameC.nil | refine SameC.cons ?_ ?_ | exact Same.nsl rfl | exact Same.tt rfl | exact Same.ff rfl))
        all_goals first | exact Same.int succ | exact Same.tt rfl
      · replace h2 : b = false := h2
        cbv
        refine safe ⟨zi_nonneg _, zi_lt.2 h1⟩ ?_
        refine ⟨(k + 1, decide ((c .o).groups.getD k 0 = g .o)), ⟨h1, by show decide _ = _; rw [hstep, h2]; rfl⟩, by show _ - (k + 1) < _ - k; omega, ?_⟩
        cbv
        (repeat' (first | exact True.intro | exact Same.refl _ | exact SameB.refl _ | exact ⟨rfl⟩ | exact Same.int rfl | exact Same.str rfl | exact Same.bool rfl | (refine Same.int ?_; simp only [List.length_append, List.length_cons, List.length_nil, zi]; omega) | (refine SameB.row' rfl fun i hi => ?_; first | rfl | exact absurd hi (Nat.not_lt_zero _)) | refine And.intro ?_ ?_ | refine SameB.cells ?_ | exact SameC.nil | refine SameC.cons ?_ ?_ | exact Same.nsl rfl | exact Same.tt rfl | exact Same.ff rfl))
        all_goals first | exact Same.int succ | exact Same.bool (by show decide ((c .o).groups.getD (zi k).toNat 0 = g .o) = decide ((c .o).groups.getD k 0 = g .o); rw [hz])
    · exact hr _ (by show b = _; rw [hb, List.take_of_length_le (by omega)]; rfl)
def mode9 (m : Int) : List Ace := [⟨1, 0, band (m.fdiv (2 ^ 6)) 7⟩, ⟨3, 0, band (m.fdiv (2 ^ 3)) 7⟩, ⟨6, 0, band m 7⟩]
def of9 (m : Meta) : List Ace := if 0 < m.acl.length then m.acl else mode9 m.mode
def user9 (c : Cred) : List Ace → Option Int
  | [] => none
  | a :: r => if a.tag = 2 ∧ a.id = c.uid then some a.perm else user9 c r
def grp9 (m : Meta) (c : Cred) (w mask : Int) (fin : Bool) : List Ace → Bool → Bool
  | [], s => !s && fin
  | a :: r, s =>
    if (a.tag = 3 ∧ inS c m.gid = true) ∨ (a.tag = 4 ∧ inS c a.id = true) then
      if hasS w (band a.perm mask) = true then true else grp9 m c w mask fin r true
    else grp9 m c w mask fin r s
def mask9 (l : List Ace) : Int := if permR l 5 < 0 then 7 else permR l 5
def Can9 (m : Meta) (c : Cred) (w : Int) : Bool :=
  if w < 0 ∨ 7 < w then false else if ¬ band c.powers 2 = 0 then true
  else if m.uid = c.uid then hasS w (permR (of9 m) 1)
  else match user9 c (of9 m) with
    | some p => hasS w (band p (mask9 (of9 m)))
    | none => grp9 m c w (mask9 (of9 m)) (hasS w (permR (of9 m) 6)) (of9 m) false
theorem of9_short {m : Meta} (h : short m.acl) : short (of9 m) := by
  unfold of9
  split
  · exact h
  · show 3 ≤ _; decide

end Go.Proofs.Ytgjlkcdnlndlnaa
/- What may be said of a node: its parts, walked. -/
namespace Go.Proofs.Ytgjlkcdnlndlnaa
open Go Go.Proofs.Ytgjlkcdnlndlnaa.Sx F
set_option linter.unusedVariables false
set_option linter.unusedSimpArgs false

def StampOk (s n : Int) : Prop := -1099511627776 ≤ s ∧ s ≤ 1099511627776 ∧ 0 ≤ n ∧ n < 1000000000
def stampAv (s n : Th Int) : AV := .agg (.cons (.int .i64 s) (.cons (.int .i64 n) .nil))
theorem stamp_c (s n : Th Int) {d : Nat} {K : ARes → BL → Prop} (hr : ∀ b : Th Bool, (b .o = true ↔ StampOk (s .o) (n .o)) → K (.ret (.bool b)) .nil) : CallAt PT stamp_May [stampAv s n] d .nil K := by
  refine CallAt.res ?_
  refine stamp_May.of rfl rfl ?_
  cbv
  (repeat' (first | (refine br_dec (fun h => ?_) (fun h => ?_) <;> cbv) | (refine br_rev (br_dec (fun h => ?_) (fun h => ?_)) <;> cbv) | (refine br_ndec (fun h => ?_) (fun h => ?_) <;> cbv) | (refine br_rev (br_ndec (fun h => ?_) (fun h => ?_)) <;> cbv)))
  all_goals (first | exact ⟨_, .ret (.tt rfl), hr (fun _ => true) (by (try dsimp only at *); (try simp only [decide_eq_true_eq, true_iff, false_iff, Bool.false_eq_true, StampOk]); omega)⟩ | exact ⟨_, .ret (.ff rfl), hr (fun _ => false) (by (try dsimp only at *); (try simp only [decide_eq_true_eq, true_iff, false_iff, Bool.false_eq_true, StampOk]); omega)⟩ | exact ⟨_, .ret (.refl _), hr _ (by (try dsimp only at *); (try simp only [decide_eq_true_eq, true_iff, false_iff, Bool.false_eq_true, StampOk]); omega)⟩)
theorem stamp1_c (s n : Th Int) {d : Nat} {K : ARes → BL → Prop} (hr : ∀ b : Th Bool, (b .o = true ↔ StampOk (s .o) (n .o)) → K (.ret (.bool b)) .nil) : CallAt PT r1_MayStamp [stampAv s n] d .nil K := by
  refine CallAt.res ?_
  refine r1_MayStamp.of rfl rfl ?_
  cbv
  (repeat' (first | (refine br_dec (fun h => ?_) (fun h => ?_) <;> cbv) | (refine br_rev (br_dec (fun h => ?_) (fun h => ?_)) <;> cbv) | (refine br_ndec (fun h => ?_) (fun h => ?_) <;> cbv) | (refine br_rev (br_ndec (fun h => ?_) (fun h => ?_)) <;> cbv)))
  all_goals (first | exact ⟨_, .ret (.tt rfl), hr (fun _ => true) (by (try dsimp only at *); (try simp only [decide_eq_true_eq, true_iff, false_iff, Bool.false_eq_true, StampOk]); omega)⟩ | exact ⟨_, .ret (.ff rfl), hr (fun _ => false) (by (try dsimp only at *); (try simp only [decide_eq_true_eq, true_iff, false_iff, Bool.false_eq_true, StampOk]); omega)⟩ | exact ⟨_, .ret (.refl _), hr _ (by (try dsimp only at *); (try simp only [decide_eq_true_eq, true_iff, false_iff, Bool.false_eq_true, StampOk]); omega)⟩)
def IdOk (n : Int) : Prop := 0 ≤ n ∧ n ≤ 2147483647
theorem id9_c (n : Th Int) {d : Nat} {K : ARes → BL → Prop} (hr : ∀ b : Th Bool, (b .o = true ↔ IdOk (n .o)) → K (.ret (.bool b)) .nil) : CallAt PT r9_id [.int .i64 n] d .nil K := by
  refine CallAt.res ?_
  refine r9_id.of rfl rfl ?_
  cbv
  (repeat' (first | (refine br_dec (fun h => ?_) (fun h => ?_) <;> cbv) | (refine br_rev (br_dec (fun h => ?_) (fun h => ?_)) <;> cbv) | (refine br_ndec (fun h => ?_) (fun h => ?_) <;> cbv) | (refine br_rev (br_ndec (fun h => ?_) (fun h => ?_)) <;> cbv)))
  all_goals (first | exact ⟨_, .ret (.tt rfl), hr (fun _ => true) (by (try dsimp only at *); (try simp only [decide_eq_true_eq, true_iff, false_iff, Bool.false_eq_true, IdOk]); omega)⟩ | exact ⟨_, .ret (.ff rfl), hr (fun _ => false) (by (try dsimp only at *); (try simp only [decide_eq_true_eq, true_iff, false_iff, Bool.false_eq_true, IdOk]); omega)⟩ | exact ⟨_, .ret (.refl _), hr _ (by (try dsimp only at *); (try simp only [decide_eq_true_eq, true_iff, false_iff, Bool.false_eq_true, IdOk]); omega)⟩)
def Caps.zero : Caps := ⟨0, 0, 0, false, 0⟩
def CapsOk (c : Caps) : Prop := c = Caps.zero ∨ (c.ver = 2 ∧ c.root = 0) ∨ (c.ver = 3 ∧ 0 ≤ c.root ∧ c.root ≤ 2147483647)
def Caps.ch (c : Th Caps) : AV := .cons (.int .i64 fun _ => (c .o).ver) (.cons (.int .u64 fun _ => (c .o).perm) (.cons (.int .u64 fun _ => (c .o).inh) (.cons (.bool fun _ => (c .o).eff) (.cons (.int .i64 fun _ => (c .o).root) .nil))))
def Caps.av (c : Th Caps) : AV := .agg (Caps.ch c)
theorem Caps.zero_iff (c : Caps) : (decide (c.ver = 0) && (decide (c.perm = 0) && (decide (c.inh = 0) && ((c.eff == false) && (decide (c.root = 0) && true))))) = true ↔ c = Caps.zero := by
  obtain ⟨a, b, d, e, f⟩ := c
  unfold Caps.zero
  simp
theorem caps_c (c : Th Caps) {d : Nat} {K : ARes → BL → Prop} (hr : ∀ b : Th Bool, (b .o = true ↔ CapsOk (c .o)) → K (.ret (.bool b)) .nil) : CallAt PT caps_May [Caps.av c] d .nil K := by
  refine CallAt.res ?_
  refine caps_May.of rfl rfl ?_
  cbv
  refine br_dec (fun h1 => ?_) (fun h1 => ?_)
  · have h1 : (c .o).ver = 0 := h1
    cbv
    refine ⟨_, .ret (.refl _), hr _ ((Caps.zero_iff _).trans ⟨.inl, fun q => ?_⟩)⟩
    rcases q with q | q | q
    · exact q
    · omega
    · omega
  have h1 : ¬ (c .o).ver = 0 := h1
  have hz : c .o ≠ Caps.zero := fun q => h1 (by rw [q]; rfl)
  cbv
  refine br_dec (fun h2 => ?_) (fun h2 => ?_)
  · have h2 : (c .o).ver = 2 := h2
    cbv
    exact ⟨_, .ret (.refl _), hr _ ⟨fun q => .inr (.inl ⟨h2, of_decide_eq_true q⟩), fun q => decide_eq_true (by rcases q with q | q | q; exact absurd q hz; exact q.2; show (c .o).root = 0; omega)⟩⟩
  have h2 : ¬ (c .o).ver = 2 := h2
  cbv
  refine br_dec (fun h3 => ?_) (fun h3 => ?_)
  · have h3 : (c .o).ver = 3 := h3
    cbv
    have hc : CapsOk (c .o) ↔ 0 ≤ (c .o).root ∧ (c .o).root ≤ 2147483647 := ⟨fun q => by rcases q with q | q | q; exact absurd q hz; omega; exact q.2, fun q => .inr (.inr ⟨h3, q⟩)⟩
    rw [hc] at hr
    (repeat' (first | (refine br_dec (fun h => ?_) (fun h => ?_) <;> cbv) | (refine br_rev (br_dec (fun h => ?_) (fun h => ?_)) <;> cbv) | (refine br_ndec (fun h => ?_) (fun h => ?_) <;> cbv) | (refine br_rev (br_ndec (fun h => ?_) (fun h => ?_)) <;> cbv)))
    all_goals (first | exact ⟨_, .ret (.tt rfl), hr (fun _ => true) (by (try dsimp only at *); (try simp only [decide_eq_true_eq, true_iff, false_iff, Bool.false_eq_true, and_self]); omega)⟩ | exact ⟨_, .ret (.ff rfl), hr (fun _ => false) (by (try dsimp only at *); (try simp only [decide_eq_true_eq, true_iff, false_iff, Bool.false_eq_true, and_self]); omega)⟩ | exact ⟨_, .ret (.refl _), hr _ (by (try dsimp only at *); (try simp only [decide_eq_true_eq, true_iff, false_iff, Bool.false_eq_true, and_self]); omega)⟩)
  have h3 : ¬ (c .o).ver = 3 := h3
  cbv
  exact ⟨_, .ret (.ff rfl), hr (fun _ => false) ⟨fun q => (by cases q), fun q => (by rcases q with q | q | q <;> first | exact absurd q hz | omega)⟩⟩
theorem caps9_c (c : Th Caps) {d : Nat} {K : ARes → BL → Prop} (hr : ∀ b : Th Bool, (b .o = true ↔ CapsOk (c .o)) → K (.ret (.bool b)) .nil) : CallAt PT r9_MayCaps [Caps.av c] d .nil K := by
  refine CallAt.res ?_
  refine r9_MayCaps.of rfl rfl ?_
  cbv
  refine br_dec (fun h1 => ?_) (fun h1 => ?_)
  · have h1 : (c .o).ver = 0 := h1
    cbv
    refine ⟨_, .ret (.refl _), hr _ ((Caps.zero_iff _).trans ⟨.inl, fun q => ?_⟩)⟩
    rcases q with q | q | q
    · exact q
    · omega
    · omega
  have h1 : ¬ (c .o).ver = 0 := h1
  have hz : c .o ≠ Caps.zero := fun q => h1 (by rw [q]; rfl)
  cbv
  refine br_dec (fun h2 => ?_) (fun h2 => ?_)
  · have h2 : (c .o).ver = 2 := h2
    cbv
    exact ⟨_, .ret (.refl _), hr _ ⟨fun q => .inr (.inl ⟨h2, of_decide_eq_true q⟩), fun q => decide_eq_true (by rcases q with q | q | q; exact absurd q hz; exact q.2; show (c .o).root = 0; omega)⟩⟩
  have h2 : ¬ (c .o).ver = 2 := h2
  cbv
  refine br_dec (fun h3 => ?_) (fun h3 => ?_)
  · have h3 : (c .o).ver = 3 := h3
    cbv
    have hc : CapsOk (c .o) ↔ 0 ≤ (c .o).root ∧ (c .o).root ≤ 2147483647 := ⟨fun q => by rcases q with q | q | q; exact absurd q hz; omega; exact q.2, fun q => .inr (.inr ⟨h3, q⟩)⟩
    rw [hc] at hr
    (repeat' (first | (refine br_dec (fun h => ?_) (fun h => ?_) <;> cbv) | (refine br_rev (br_dec (fun h => ?_) (fun h => ?_)) <;> cbv) | (refine br_ndec (fun h => ?_) (fun h => ?_) <;> cbv) | (refine br_rev (br_ndec (fun h => ?_) (fun h => ?_)) <;> cbv)))
    all_goals (first | exact ⟨_, .ret (.tt rfl), hr (fun _ => true) (by (try dsimp only at *); (try simp only [decide_eq_true_eq, true_iff, false_iff, Bool.false_eq_true, and_self]); omega)⟩ | exact ⟨_, .ret (.ff rfl), hr (fun _ => false) (by (try dsimp only at *); (try simp only [decide_eq_true_eq, true_iff, false_iff, Bool.false_eq_true, and_self]); omega)⟩ | exact ⟨_, .ret (.refl _), hr _ (by (try dsimp only at *); (try simp only [decide_eq_true_eq, true_iff, false_iff, Bool.false_eq_true, and_self]); omega)⟩)
  have h3 : ¬ (c .o).ver = 3 := h3
  cbv
  exact ⟨_, .ret (.ff rfl), hr (fun _ => false) ⟨fun q => (by cases q), fun q => (by rcases q with q | q | q <;> first | exact absurd q hz | omega)⟩⟩
end Go.Proofs.Ytgjlkcdnlndlnaa
/- The document's mode that gives nobody more, walked; and that it is the program's. -/
namespace Go.Proofs.Ytgjlkcdnlndlnaa
open Go Go.Proofs.Ytgjlkcdnlndlnaa.Sx F
set_option linter.unusedVariables false
set_option linter.unusedSimpArgs false

def less9G (mask : Int) : List Ace → Int → Int → Int × Int
  | [], g, o => (g, o)
  | a :: r, g, o =>
    if a.tag = 2 then less9G mask r (band g a.perm) (band (band o a.perm) mask)
    else if a.tag = 4 then less9G mask r g (band (band o a.perm) mask)
    else less9G mask r g o
def less9N (p g o : Int) : Int := IntKind.i64.wrap (IntKind.i64.wrap (IntKind.i64.wrap (p * 64) + IntKind.i64.wrap (g * 8)) + o)
def less9O (l : List Ace) (mask : Int) : Int := less9N (permR l 1) (less9G mask l (band (permR l 3) mask) (permR l 6)).1 (less9G mask l (band (permR l 3) mask) (permR l 6)).2
def Less9 (m : Meta) : Int := if m.acl.length = 0 then band m.mode 511 else less9O m.acl (mask9 m.acl)
theorem Less9_c (m : Th Meta) (hm : short (m .o).acl) {d : Nat} {K : ARes → BL → Prop} (hr : ∀ n : Th Int, n .o = Less9 (m .o) → K (.ret (.int .i64 n)) .nil) : CallAt PT r18_Less [Meta.av m] d .nil K := by
  refine r18_Less.of rfl rfl ?_
  cbv
  refine br_dec (fun h0 => ?_) (fun h0 => ?_)
  · have h0 : (m .o).acl.length = 0 := zi_inj.1 h0
    cbv
    exact hr _ (by unfold Less9; rw [if_pos h0]; rfl)
  have h0 : ¬ (m .o).acl.length = 0 := fun q => h0 (zi_inj.2 q)
  cbv
  refine perm9_c (fun _ => (m .o).acl) (fun _ => 5) hm fun n hn => ?_
  cbv
  refine br_dec (fun h5 => ?_) (fun h5 => ?_)
  · skip
    have hmk : mask9 (m .o).acl = (7 : Int) := (by unfold mask9; rw [if_pos (show permR (m .o).acl 5 < 0 by rw [← hn]; exact h5)])
    cbv
    refine perm9_c (fun _ => (m .o).acl) (fun _ => 3) hm fun g hg => ?_
    cbv
    refine perm9_c (fun _ => (m .o).acl) (fun _ => 6) hm fun o ho => ?_
    cbv
    refine loop_rule (X := Nat × Int × Int) 1000 [1, 3] [1] (fun x => .cons 4 (.int .i64 fun _ => x.2.1) (.cons 5 (.int .i64 fun _ => x.2.2) (.cons 6 (.int .i64 fun _ => zi x.1) .nil))) (fun _ => .nil)
      (fun x => x.1 ≤ (m .o).acl.length ∧ less9G ((7 : Int)) (m .o).acl (band (g .o) ((7 : Int))) (o .o) = less9G ((7 : Int)) ((m .o).acl.drop x.1) x.2.1 x.2.2) (fun x => (m .o).acl.length - x.1) (0, band (g .o) ((7 : Int)), o .o) ?_ ⟨Nat.zero_le _, rfl⟩ ?_
    · cbv
      (repeat' (first | exact True.intro | exact Same.refl _ | exact SameB.refl _ | exact ⟨rfl⟩ | exact Same.int rfl | exact Same.str rfl | exact Same.bool rfl | (refine Same.int ?_; simp only [List.length_append, List.length_cons, List.length_nil, zi]; omega) | (refine SameB.row' rfl fun i hi => ?_; first | rfl | exact absurd hi (Nat.not_lt_zero _)) | refine And.intro ?_ ?_ | refine SameB.cells ?_ | exact SameC.nil | refine SameC.cons ?_ ?_ | exact Same.nsl rfl | exact Same.tt rfl | exact Same.ff rfl))
    · rintro ⟨k, gg, oo⟩ ⟨hk, hgo⟩
      dsimp only at hk hgo
      have succ := zi_succ (k := k) (by unfold short at hm; omega)
      cbv
      ((try refine br_rev ?_); (first | refine br_dec (fun h2 => ?_) (fun h2 => ?_) | refine br_ndec (fun h2 => ?_) (fun h2 => ?_) | refine br_nbool (fun h2 => ?_) (fun h2 => ?_) | refine br_bool (fun h2 => ?_) (fun h2 => ?_)); all_goals (try dsimp only at h2); all_goals (try with_reducible replace h2 := zi_lt.1 h2); all_goals (try with_reducible replace h2 := not_zlt h2)) <;> cbv
      · rw [drop_cons _ Ace.z _ h2, less9G] at hgo
        have hi : (0 : Int) ≤ zi k ∧ zi k < zi (m .o).acl.length := ⟨zi_nonneg _, zi_lt.2 h2⟩
        refine safe hi ?_
        ((try refine br_rev ?_); (first | refine br_dec (fun h3 => ?_) (fun h3 => ?_) | refine br_ndec (fun h3 => ?_) (fun h3 => ?_) | refine br_nbool (fun h3 => ?_) (fun h3 => ?_) | refine br_bool (fun h3 => ?_) (fun h3 => ?_)); all_goals (try dsimp only at h3); all_goals (try with_reducible replace h3 := zi_lt.1 h3); all_goals (try with_reducible replace h3 := not_zlt h3))
        · replace h3 : ((m .o).acl.getD k Ace.z).tag = 2 := by simpa only [zi_toNat] using h3
          rw [if_pos h3] at hgo
          cbv
          refine safe hi ?_
          refine safe hi ?_
          refine safe hi ?_
          ((try refine br_rev ?_); (first | refine br_dec (fun h4 => ?_) (fun h4 => ?_) | refine br_ndec (fun h4 => ?_) (fun h4 => ?_) | refine br_nbool (fun h4 => ?_) (fun h4 => ?_) | refine br_bool (fun h4 => ?_) (fun h4 => ?_)); all_goals (try dsimp only at h4); all_goals (try with_reducible replace h4 := zi_lt.1 h4); all_goals (try with_reducible replace h4 := not_zlt h4))
          · replace h4 : ((m .o).acl.getD k Ace.z).tag = 4 := by simpa only [zi_toNat] using h4
            omega
          cbv
          refine ⟨(k + 1, band gg ((m .o).acl.getD k Ace.z).perm, band (band oo ((m .o).acl.getD k Ace.z).perm) ((7 : Int))), ⟨h2, hgo⟩, by show _ - (k + 1) < _ - k; omega, ?_⟩
          cbv
          (repeat' (first | exact True.intro | exact Same.refl _ | exact SameB.refl _ | exact ⟨rfl⟩ | exact Same.int rfl | exact Same.str rfl | exact Same.bool rfl | (refine Same.int ?_; simp only [List.length_append, List.length_cons, List.length_nil, zi]; omega) | (refine SameB.row' rfl fun i hi => ?_; first | rfl | exact absurd hi (Nat.not_lt_zero _)) | refine And.intro ?_ ?_ | refine SameB.cells ?_ | exact SameC.nil | refine SameC.cons ?_ ?_ | exact Same.nsl rfl | exact Same.tt rfl | exact Same.ff rfl))
          all_goals first | exact Same.int succ | exact Same.int (by simp only [zi_toNat, band])
        · replace h3 : ¬ ((m .o).acl.getD k Ace.z).tag = 2 := by simpa only [zi_toNat] using h3
          rw [if_neg h3] at hgo
          cbv
          refine safe hi ?_
          ((try refine br_rev ?_); (first | refine br_dec (fun h4 => ?_) (fun h4 => ?_) | refine br_ndec (fun h4 => ?_) (fun h4 => ?_) | refine br_nbool (fun h4 => ?_) (fun h4 => ?_) | refine br_bool (fun h4 => ?_) (fun h4 => ?_)); all_goals (try dsimp only at h4); all_goals (try with_reducible replace h4 := zi_lt.1 h4); all_goals (try with_reducible replace h4 := not_zlt h4))
          · replace h4 : ((m .o).acl.getD k Ace.z).tag = 4 := by simpa only [zi_toNat] using h4
            rw [if_pos h4] at hgo
            cbv
            refine safe hi ?_
            refine ⟨(k + 1, gg, band (band oo ((m .o).acl.getD k Ace.z).perm) ((7 : Int))), ⟨h2, hgo⟩, by show _ - (k + 1) < _ - k; omega, ?_⟩
            cbv
            (repeat' (first | exact True.intro | exact Same.refl _ | exact SameB.refl _ | exact ⟨rfl⟩ | exact Same.int rfl | exact Same.str rfl | exact Same.bool rfl | (refine Same.int ?_; simp only [List.length_append, List.length_cons, List.length_nil, zi]; omega) | (refine SameB.row' rfl fun i hi => ?_; first | rfl | exact absurd hi (Nat.not_lt_zero _)) | refine And.intro ?_ ?_ | refine SameB.cells ?_ | exact SameC.nil | refine SameC.cons ?_ ?_ | exact Same.nsl rfl | exact Same.tt rfl | exact Same.ff rfl))
            all_goals first | exact Same.int succ | exact Same.int (by simp only [zi_toNat, band])
          · replace h4 : ¬ ((m .o).acl.getD k Ace.z).tag = 4 := by simpa only [zi_toNat] using h4
            rw [if_neg h4] at hgo
            cbv
            refine ⟨(k + 1, gg, oo), ⟨h2, hgo⟩, by show _ - (k + 1) < _ - k; omega, ?_⟩
            cbv
            (repeat' (first | exact True.intro | exact Same.refl _ | exact SameB.refl _ | exact ⟨rfl⟩ | exact Same.int rfl | exact Same.str rfl | exact Same.bool rfl | (refine Same.int ?_; simp only [List.length_append, List.length_cons, List.length_nil, zi]; omega) | (refine SameB.row' rfl fun i hi => ?_; first | rfl | exact absurd hi (Nat.not_lt_zero _)) | refine And.intro ?_ ?_ | refine SameB.cells ?_ | exact SameC.nil | refine SameC.cons ?_ ?_ | exact Same.nsl rfl | exact Same.tt rfl | exact Same.ff rfl))
            all_goals exact Same.int succ
      · rw [List.drop_eq_nil_of_le (by omega), less9G] at hgo
        refine perm9_c (fun _ => (m .o).acl) (fun _ => 1) hm fun p hp => ?_
        cbv
        exact hr _ (by unfold Less9; rw [if_neg h0, hmk]; unfold less9O; rw [show permR (m .o).acl 3 = g .o from hg.symm, show permR (m .o).acl 6 = o .o from ho.symm, show permR (m .o).acl 1 = p .o from hp.symm, hgo]; rfl)
  · skip
    have hmk : mask9 (m .o).acl = n .o := (by unfold mask9; rw [if_neg (show ¬ permR (m .o).acl 5 < 0 by rw [← hn]; exact h5)]; exact hn.symm)
    cbv
    refine perm9_c (fun _ => (m .o).acl) (fun _ => 3) hm fun g hg => ?_
    cbv
    refine perm9_c (fun _ => (m .o).acl) (fun _ => 6) hm fun o ho => ?_
    cbv
    refine loop_rule (X := Nat × Int × Int) 1000 [1, 3] [1] (fun x => .cons 4 (.int .i64 fun _ => x.2.1) (.cons 5 (.int .i64 fun _ => x.2.2) (.cons 6 (.int .i64 fun _ => zi x.1) .nil))) (fun _ => .nil)
      (fun x => x.1 ≤ (m .o).acl.length ∧ less9G (n .o) (m .o).acl (band (g .o) (n .o)) (o .o) = less9G (n .o) ((m .o).acl.drop x.1) x.2.1 x.2.2) (fun x => (m .o).acl.length - x.1) (0, band (g .o) (n .o), o .o) ?_ ⟨Nat.zero_le _, rfl⟩ ?_
    · cbv
      (repeat' (first | exact True.intro | exact Same.refl _ | exact SameB.refl _ | exact ⟨rfl⟩ | exact Same.int rfl | exact Same.str rfl | exact Same.bool rfl | (refine Same.int ?_; simp only [List.length_append, List.length_cons, List.length_nil, zi]; omega) | (refine SameB.row' rfl fun i hi => ?_; first | rfl | exact absurd hi (Nat.not_lt_zero _)) | refine And.intro ?_ ?_ | refine SameB.cells ?_ | exact SameC.nil | refine SameC.cons ?_ ?_ | exact Same.nsl rfl | exact Same.tt rfl | exact Same.ff rfl))
    · rintro ⟨k, gg, oo⟩ ⟨hk, hgo⟩
      dsimp only at hk hgo
      have succ := zi_succ (k := k) (by unfold short at hm; omega)
      cbv
      ((try refine br_rev ?_); (first | refine br_dec (fun h2 => ?_) (fun h2 => ?_) | refine br_ndec (fun h2 => ?_) (fun h2 => ?_) | refine br_nbool (fun h2 => ?_) (fun h2 => ?_) | refine br_bool (fun h2 => ?_) (fun h2 => ?_)); all_goals (try dsimp only at h2); all_goals (try with_reducible replace h2 := zi_lt.1 h2); all_goals (try with_reducible replace h2 := not_zlt h2)) <;> cbv
      · rw [drop_cons _ Ace.z _ h2, less9G] at hgo
        have hi : (0 : Int) ≤ zi k ∧ zi k < zi (m .o).acl.length := ⟨zi_nonneg _, zi_lt.2 h2⟩
        refine safe hi ?_
        ((try refine br_rev ?_); (first | refine br_dec (fun h3 => ?_) (fun h3 => ?_) | refine br_ndec (fun h3 => ?_) (fun h3 => ?_) | refine br_nbool (fun h3 => ?_) (fun h3 => ?_) | refine br_bool (fun h3 => ?_) (fun h3 => ?_)); all_goals (try dsimp only at h3); all_goals (try with_reducible replace h3 := zi_lt.1 h3); all_goals (try with_reducible replace h3 := not_zlt h3))
        · replace h3 : ((m .o).acl.getD k Ace.z).tag = 2 := by simpa only [zi_toNat] using h3
          rw [if_pos h3] at hgo
          cbv
          refine safe hi ?_
          refine safe hi ?_
          refine safe hi ?_
          ((try refine br_rev ?_); (first | refine br_dec (fun h4 => ?_) (fun h4 => ?_) | refine br_ndec (fun h4 => ?_) (fun h4 => ?_) | refine br_nbool (fun h4 => ?_) (fun h4 => ?_) | refine br_bool (fun h4 => ?_) (fun h4 => ?_)); all_goals (try dsimp only at h4); all_goals (try with_reducible replace h4 := zi_lt.1 h4); all_goals (try with_reducible replace h4 := not_zlt h4))
          · replace h4 : ((m .o).acl.getD k Ace.z).tag = 4 := by simpa only [zi_toNat] using h4
            omega
          cbv
          refine ⟨(k + 1, band gg ((m .o).acl.getD k Ace.z).perm, band (band oo ((m .o).acl.getD k Ace.z).perm) (n .o)), ⟨h2, hgo⟩, by show _ - (k + 1) < _ - k; omega, ?_⟩
          cbv
          (repeat' (first | exact True.intro | exact Same.refl _ | exact SameB.refl _ | exact ⟨rfl⟩ | exact Same.int rfl | exact Same.str rfl | exact Same.bool rfl | (refine Same.int ?_; simp only [List.length_append, List.length_cons, List.length_nil, zi]; omega) | (refine SameB.row' rfl fun i hi => ?_; first | rfl | exact absurd hi (Nat.not_lt_zero _)) | refine And.intro ?_ ?_ | refine SameB.cells ?_ | exact SameC.nil | refine SameC.cons ?_ ?_ | exact Same.nsl rfl | exact Same.tt rfl | exact Same.ff rfl))
          all_goals first | exact Same.int succ | exact Same.int (by simp only [zi_toNat, band])
        · replace h3 : ¬ ((m .o).acl.getD k Ace.z).tag = 2 := by simpa only [zi_toNat] using h3
          rw [if_neg h3] at hgo
          cbv
          refine safe hi ?_
          ((try refine br_rev ?_); (first | refine br_dec (fun h4 => ?_) (fun h4 => ?_) | refine br_ndec (fun h4 => ?_) (fun h4 => ?_) | refine br_nbool (fun h4 => ?_) (fun h4 => ?_) | refine br_bool (fun h4 => ?_) (fun h4 => ?_)); all_goals (try dsimp only at h4); all_goals (try with_reducible replace h4 := zi_lt.1 h4); all_goals (try with_reducible replace h4 := not_zlt h4))
          · replace h4 : ((m .o).acl.getD k Ace.z).tag = 4 := by simpa only [zi_toNat] using h4
            rw [if_pos h4] at hgo
            cbv
            refine safe hi ?_
            refine ⟨(k + 1, gg, band (band oo ((m .o).acl.getD k Ace.z).perm) (n .o)), ⟨h2, hgo⟩, by show _ - (k + 1) < _ - k; omega, ?_⟩
            cbv
            (repeat' (first | exact True.intro | exact Same.refl _ | exact SameB.refl _ | exact ⟨rfl⟩ | exact Same.int rfl | exact Same.str rfl | exact Same.bool rfl | (refine Same.int ?_; simp only [List.length_append, List.length_cons, List.length_nil, zi]; omega) | (refine SameB.row' rfl fun i hi => ?_; first | rfl | exact absurd hi (Nat.not_lt_zero _)) | refine And.intro ?_ ?_ | refine SameB.cells ?_ | exact SameC.nil | refine SameC.cons ?_ ?_ | exact Same.nsl rfl | exact Same.tt rfl | exact Same.ff rfl))
            all_goals first | exact Same.int succ | exact Same.int (by simp only [zi_toNat, band])
          · replace h4 : ¬ ((m .o).acl.getD k Ace.z).tag = 4 := by simpa only [zi_toNat] using h4
            rw [if_neg h4] at hgo
            cbv
            refine ⟨(k + 1, gg, oo), ⟨h2, hgo⟩, by show _ - (k + 1) < _ - k; omega, ?_⟩
            cbv
            (repeat' (first | exact True.intro | exact Same.refl _ | exact SameB.refl _ | exact ⟨rfl⟩ | exact Same.int rfl | exact Same.str rfl | exact Same.bool rfl | (refine Same.int ?_; simp only [List.length_append, List.length_cons, List.length_nil, zi]; omega) | (refine SameB.row' rfl fun i hi => ?_; first | rfl | exact absurd hi (Nat.not_lt_zero _)) | refine And.intro ?_ ?_ | refine SameB.cells ?_ | exact SameC.nil | refine SameC.cons ?_ ?_ | exact Same.nsl rfl | exact Same.tt rfl | exact Same.ff rfl))
            all_goals exact Same.int succ
      · rw [List.drop_eq_nil_of_le (by omega), less9G] at hgo
        refine perm9_c (fun _ => (m .o).acl) (fun _ => 1) hm fun p hp => ?_
        cbv
        exact hr _ (by unfold Less9; rw [if_neg h0, hmk]; unfold less9O; rw [show permR (m .o).acl 3 = g .o from hg.symm, show permR (m .o).acl 6 = o .o from ho.symm, show permR (m .o).acl 1 = p .o from hp.symm, hgo]; rfl)
end Go.Proofs.Ytgjlkcdnlndlnaa
/- The law RightMade, walked: the program's rights are the document's, of what is made by numbers. -/
namespace Go.Proofs.Ytgjlkcdnlndlnaa
open Go Go.Proofs.Ytgjlkcdnlndlnaa.Sx F
set_option linter.unusedVariables false
set_option linter.unusedSimpArgs false

/-! ### who can -/
def grpL (m : Meta) (c : Cred) (mask : Int) : List Ace → List Int
  | [] => []
  | a :: r => if (a.tag = 3 ∧ inS c m.gid = true) ∨ (a.tag = 4 ∧ inS c a.id = true) then band a.perm mask :: grpL m c mask r else grpL m c mask r
theorem goP_user (m : Meta) (c : Cred) (mask : Int) : ∀ l : List Ace, goP m c mask l = match user9 c l with
    | some p => .inl (band p mask)
    | none => .inr (grpL m c mask l)
  | [] => rfl
  | a :: r => by
    have ih := goP_user m c mask r
    unfold goP user9 grpL
    by_cases q1 : a.tag = 2 ∧ a.id = c.uid
    · rw [if_pos q1, if_pos q1]
    · rw [if_neg q1, if_neg q1]
      by_cases q2 : (a.tag = 3 ∧ inS c m.gid = true) ∨ (a.tag = 4 ∧ inS c a.id = true)
      · rw [if_pos q2, if_pos q2, ih]
        cases user9 c r <;> rfl
      · rw [if_neg q2, if_neg q2, ih]
theorem grp9_any (m : Meta) (c : Cred) (w mask : Int) (fin : Bool) : ∀ (l : List Ace) (s : Bool), grp9 m c w mask fin l s = ((grpL m c mask l).any (hasS w) || (!(s || !(grpL m c mask l).isEmpty) && fin))
  | [], s => by simp [grp9, grpL]
  | a :: r, s => by
    unfold grp9 grpL
    split
    · rw [List.any_cons]
      by_cases q : hasS w (band a.perm mask) = true
      · rw [if_pos q, q]; simp
      · rw [if_neg q, grp9_any]
        simp [q]
    · exact grp9_any m c w mask fin r s
theorem mask9_eq {l : List Ace} (h : Good l) : maskS l = some (mask9 l) := by
  unfold maskS mask9 permR
  rcases ixP_find (fun a : Ace => decide (a.tag = 5)) Ace.z l with ⟨h1, h2⟩ | ⟨k, h1, h2, h3⟩
  · rw [if_neg (by omega)]
    have : permS l 5 = none := by unfold permS; rw [h2]; rfl
    rw [this]
    rfl
  · have := zi_nonneg k
    rw [if_pos (by omega)]
    obtain ⟨p, hp, q⟩ := perm_some h (t := 5) ⟨_, List.mem_of_find?_eq_some h3, by simpa using List.find?_some h3⟩
    rw [hp]
    simp only [Option.getD_some]
    rw [if_neg (by omega)]
theorem band_pos (x y : Int) (h0 : 0 ≤ y) (h1 : y < 4611686018427387904) : decide (0 < band x y) = !decide (band x y = 0) := by
  have := (band_le (x := x) h0 h1).1
  by_cases q : band x y = 0
  · simp [q]
  · have : 0 < band x y := by omega
    simp [q, this]
theorem can9_law {m : Meta} (h : Good (ofS m)) (he : of9 m = ofS m) (c : Cred) (w : Int) : Can9 m c w = CanS m c w := by
  have hpos := band_pos c.powers 2 (by decide) (by decide)
  unfold Can9 CanS
  rw [hpos, canS_rep h, he]
  by_cases hw : w < 0 ∨ 7 < w
  · rw [if_pos hw]
    rcases hw with q | q <;> simp [q]
  · rw [if_neg hw]
    have w1 : ¬ w < 0 := fun q => hw (.inl q)
    have w2 : ¬ 7 < w := fun q => hw (.inr q)
    by_cases hp : band c.powers 2 = 0
    · rw [if_neg (by simpa using hp)]
      simp only [w1, w2, hp, decide_false, decide_true, Bool.or_false, Bool.not_false, Bool.true_and, Bool.not_true, Bool.false_or, Option.getD_some]
      obtain ⟨p1, e1, _⟩ := perm_some h h.own
      obtain ⟨p6, e6, _⟩ := perm_some h h.oth
      unfold repS
      rw [mask9_eq h, e1, e6]
      unfold permR
      rw [e1, e6]
      simp only [Option.getD_some]
      by_cases hu : m.uid = c.uid
      · rw [if_pos hu, if_pos hu]; simp
      · rw [if_neg hu, if_neg hu, goP_user]
        cases user9 c (ofS m) with
        | some p => simp
        | none =>
          simp only
          rw [grp9_any]
          cases grpL m c (mask9 (ofS m)) (ofS m) with
          | nil => simp
          | cons p P => simp
    · rw [if_pos hp]
      simp [w1, w2, hp]

/-! ### the mode that gives nobody more -/
theorem less9G_eq {mask : Int} (hm : 0 ≤ mask ∧ mask < 8) : ∀ (l : List Ace) (g o : Int), (∀ a ∈ l, 0 ≤ a.perm ∧ a.perm < 8) → (0 ≤ g ∧ g < 8) → band g mask = g → (0 ≤ o ∧ o < 8) → less9G mask l g o = lessG mask l g o
  | [], _, _, _, _, _, _ => rfl
  | a :: r, g, o, hl, hg, hgm, ho => by
    have ha := hl a (by simp)
    have hr := fun x hx => hl x (List.mem_cons_of_mem a hx)
    have e1 : band g (band a.perm mask) = band g a.perm := fin888 (p := fun g p k => band g k = g → band g (band p k) = band g p) (by decide +kernel) hg ha hm hgm
    have e2 : band o (band a.perm mask) = band (band o a.perm) mask := fin888 (p := fun o p k => band o (band p k) = band (band o p) k) (by decide +kernel) ho ha hm
    have e3 : band (band g a.perm) mask = band g a.perm := fin888 (p := fun g p k => band g k = g → band (band g p) k = band g p) (by decide +kernel) hg ha hm hgm
    unfold less9G lessG
    rw [e1, e2]
    split
    · exact less9G_eq hm r _ _ hr (band_8 hg ha) e3 (band_8 (band_8 ho ha) hm)
    · split
      · exact less9G_eq hm r _ _ hr hg hgm (band_8 (band_8 ho ha) hm)
      · exact less9G_eq hm r _ _ hr hg hgm ho
theorem less9_law {m : Meta} (h : Good (ofS m)) : Less9 m = LessS m := by
  unfold Less9
  by_cases h0 : m.acl.length = 0
  · rw [if_pos h0, less_mode (List.eq_nil_of_length_eq_zero h0)]
  · rw [if_neg h0]
    have ho : ofS m = m.acl := by unfold ofS; rw [if_pos (by omega)]
    rw [ho] at h
    unfold LessS lessO less9O
    rw [ho]
    obtain ⟨p1, e1, q1⟩ := perm_some h h.own
    obtain ⟨p3, e3, q3⟩ := perm_some h h.grp
    obtain ⟨p6, e6, q6⟩ := perm_some h h.oth
    obtain ⟨k, ek, qk⟩ := mask_some h
    have hk : mask9 m.acl = k := by have := mask9_eq h; rw [ek] at this; injection this with this; exact this.symm
    unfold permR
    rw [ek, e1, e3, e6, hk]
    simp only [Option.getD_some, Option.bind_some, Option.map_some]
    have hkk : band (band p3 k) k = band p3 k := fin88 (p := fun p k => band (band p k) k = band p k) (by decide +kernel) q3 qk
    rw [less9G_eq qk m.acl _ _ h.perm (band_8 q3 qk) hkk q6]
    have hx := lessG_ok qk m.acl (band p3 k) p6 h.perm (band_8 q3 qk) q6
    rw [lessN_eq q1 hx.r1 hx.r2]
    have r1 := hx.r1
    have r2 := hx.r2
    generalize lessG k m.acl (band p3 k) p6 = x at r1 r2
    unfold less9N
    rw [IntKind.wrap_i64, IntKind.wrap_i64, IntKind.wrap_i64, IntKind.wrap_i64]
    omega
theorem mode_eq {n : Int} (h0 : 0 ≤ n) (h1 : n < 4096) : mode9 n = fromMode n := by
  have key : ∀ a b : Fin 64, band ((64 * (a.1 : Int) + (b.1 : Int)).fdiv (2 ^ 6)) 7 = (band (64 * (a.1 : Int) + (b.1 : Int)) 511).fdiv (2 ^ 6) ∧ band ((64 * (a.1 : Int) + (b.1 : Int)).fdiv (2 ^ 3)) 7 = band ((band (64 * (a.1 : Int) + (b.1 : Int)) 511).fdiv (2 ^ 3)) 7 ∧ band (64 * (a.1 : Int) + (b.1 : Int)) 7 = band (band (64 * (a.1 : Int) + (b.1 : Int)) 511) 7 := by decide +kernel
  have := key ⟨(n / 64).toNat, by omega⟩ ⟨(n % 64).toNat, by omega⟩
  rw [show (64 * ((⟨(n / 64).toNat, by omega⟩ : Fin 64).1 : Int) + ((⟨(n % 64).toNat, by omega⟩ : Fin 64).1 : Int)) = n by simp only []; omega] at this
  unfold mode9 fromMode
  rw [this.1, this.2.1, this.2.2]
theorem MadeM.nine {ns : List Int} {m : Meta} (h : MadeM ns m) : of9 m = ofS m := by
  unfold of9 ofS
  rw [mode_eq h.mode.1 h.mode.2]

end Go.Proofs.Ytgjlkcdnlndlnaa
/- Which lists may be: r9.MayAcl walked, as far as the rights want it. -/
namespace Go.Proofs.Ytgjlkcdnlndlnaa
open Go Go.Proofs.Ytgjlkcdnlndlnaa.Sx F
set_option linter.unusedVariables false
set_option linter.unusedSimpArgs false

theorem band_mod9 (x : Int) : band x 511 = x % 512 := by
  have he : band x 511 = IntKind.i64.wrap ((BitVec.ofInt 64 x &&& BitVec.ofInt 64 511).toNat : Int) := rfl
  rw [he, BitVec.toNat_and, show (BitVec.ofInt 64 511).toNat = 2 ^ 9 - 1 from rfl, Nat.and_two_pow_sub_one_eq_mod, BitVec.toNat_ofInt, IntKind.wrap_i64]
  omega
theorem band_mod3 (x : Int) : band x 7 = x % 8 := by
  have he : band x 7 = IntKind.i64.wrap ((BitVec.ofInt 64 x &&& BitVec.ofInt 64 7).toNat : Int) := rfl
  rw [he, BitVec.toNat_and, show (BitVec.ofInt 64 7).toNat = 2 ^ 3 - 1 from rfl, Nat.and_two_pow_sub_one_eq_mod, BitVec.toNat_ofInt, IntKind.wrap_i64]
  omega
theorem mode_eq' (n : Int) : mode9 n = fromMode n := by
  unfold mode9 fromMode
  simp only [band_mod9, band_mod3]
  rw [show ((2 : Int) ^ 6) = 64 from rfl, show ((2 : Int) ^ 3) = 8 from rfl]
  rw [Int.fdiv_eq_ediv_of_nonneg _ (by decide), Int.fdiv_eq_ediv_of_nonneg _ (by decide), Int.fdiv_eq_ediv_of_nonneg _ (by decide), Int.fdiv_eq_ediv_of_nonneg _ (by decide)]
  rw [show n / 64 % 8 = n % 512 / 64 by omega, show n / 8 % 8 = n % 512 / 8 % 8 by omega, show n % 8 = n % 512 % 8 by omega]

theorem named_c (a : Th Ace) {d : Nat} {K : ARes → BL → Prop} (hr : ∀ b : Th Bool, K (.ret (.bool b)) .nil) : CallAt PT r9_named [Ace.av a] d .nil K := by
  refine CallAt.res ?_
  refine r9_named.of rfl rfl ?_
  cbv
  ((try refine br_rev ?_); (first | refine br_dec (fun h1 => ?_) (fun h1 => ?_) | refine br_ndec (fun h1 => ?_) (fun h1 => ?_) | refine br_nbool (fun h1 => ?_) (fun h1 => ?_) | refine br_bool (fun h1 => ?_) (fun h1 => ?_)); all_goals (try dsimp only at h1); all_goals (try with_reducible replace h1 := zi_lt.1 h1); all_goals (try with_reducible replace h1 := not_zlt h1)) <;> cbv
  · exact ⟨_, .ret (.tt rfl), hr (fun _ => true)⟩
  · exact ⟨_, .ret (.refl _), hr _⟩

theorem may_c (l : Th (List Ace)) (hl : short (l .o)) {d : Nat} {K : ARes → BL → Prop} (hr : ∀ b : Th Bool, (b .o = true → Good (l .o)) → K (.ret (.bool b)) .nil) : CallAt PT r9_MayAcl [aces l] d .nil K := by
  refine CallAt.res ?_
  have hr' : ∀ b : Th Bool, (b .o = true → Good (l .o)) → ∃ r', SameR (.ret (.bool b)) r' ∧ K r' .nil := fun b h => ⟨_, .ret (.refl _), hr b h⟩
  have hf : ∃ r', SameR (.ret .ff) r' ∧ K r' .nil := ⟨_, .ret (.ff rfl), hr (fun _ => false) (fun q => by cases q)⟩
  refine r9_MayAcl.of rfl rfl ?_
  cbv
  ((try refine br_rev ?_); (first | refine br_dec (fun h1 => ?_) (fun h1 => ?_) | refine br_ndec (fun h1 => ?_) (fun h1 => ?_) | refine br_nbool (fun h1 => ?_) (fun h1 => ?_) | refine br_bool (fun h1 => ?_) (fun h1 => ?_)); all_goals (try dsimp only at h1); all_goals (try with_reducible replace h1 := zi_lt.1 h1); all_goals (try with_reducible replace h1 := not_zlt h1))
  all_goals try (cbv; exact hf)
  cbv
  ((try refine br_rev ?_); (first | refine br_dec (fun h2 => ?_) (fun h2 => ?_) | refine br_ndec (fun h2 => ?_) (fun h2 => ?_) | refine br_nbool (fun h2 => ?_) (fun h2 => ?_) | refine br_bool (fun h2 => ?_) (fun h2 => ?_)); all_goals (try dsimp only at h2); all_goals (try with_reducible replace h2 := zi_lt.1 h2); all_goals (try with_reducible replace h2 := not_zlt h2))
  all_goals try (cbv; exact hf)
  (cbv; repeat (refine safe (by first | decide | (simp only [zi] at *; omega) | assumption | (dsimp only; omega) | (dsimp only at *; simp only [List.length_append, List.length_cons, List.length_nil, zi] at *; omega)) ?_; cbv))
  refine loop_at (X := Nat × List Int) 1000 [0, 3] [] (fun _ x => .cons 4 (.int .i64 fun _ => zi x.1) .nil) (fun _ x => .cons 14 (rowB 1 intCh 0 fun _ => x.2) .nil)
    (fun x => x.1 ≤ (l .o).length ∧ x.2.length = 7 ∧ (∀ j, j < x.1 → 0 ≤ ((l .o).getD j Ace.z).perm ∧ ((l .o).getD j Ace.z).perm < 8) ∧ ∀ t : Nat, x.2.getD t 0 ≠ 0 → ∃ j, j < x.1 ∧ ((l .o).getD j Ace.z).tag = (t : Int)) (fun x => (l .o).length - x.1) (0, List.replicate 7 0) ?_ ⟨Nat.zero_le _, by simp, fun j hj => absurd hj (Nat.not_lt_zero _), fun t ht => absurd (by rw [List.getD_eq_getElem?_getD, List.getElem?_replicate]; split <;> rfl) ht⟩ ?_
  · cbv
    (repeat' (first | exact True.intro | exact Same.refl _ | exact SameB.refl _ | exact ⟨rfl⟩ | exact Same.int rfl | exact Same.str rfl | exact Same.bool rfl | (refine Same.int ?_; simp only [List.length_append, List.length_cons, List.length_nil, zi]; omega) | (refine SameB.row' rfl fun i hi => ?_; first | rfl | exact absurd hi (Nat.not_lt_zero _)) | refine And.intro ?_ ?_ | refine SameB.cells ?_ | exact SameC.nil | refine SameC.cons ?_ ?_ | exact Same.nsl rfl | exact Same.tt rfl | exact Same.ff rfl))
    all_goals
      refine SameB.row' (by simp) fun i hi => ?_
      show intCh (fun _ => 0) = intCh fun _ => (List.replicate 7 0).getD i 0
      congr 1
      funext _
      rw [List.getD_eq_getElem?_getD, List.getElem?_replicate]
      split <;> rfl
  · rintro ⟨k, ls⟩ ⟨hk, hls, hperm, hcnt⟩
    dsimp only at hk hls hperm hcnt
    cbv
    ((try refine br_rev ?_); (first | refine br_dec (fun h3 => ?_) (fun h3 => ?_) | refine br_ndec (fun h3 => ?_) (fun h3 => ?_) | refine br_nbool (fun h3 => ?_) (fun h3 => ?_) | refine br_bool (fun h3 => ?_) (fun h3 => ?_)); all_goals (try dsimp only at h3); all_goals (try with_reducible replace h3 := zi_lt.1 h3); all_goals (try with_reducible replace h3 := not_zlt h3))
    · have h3 : k < (l .o).length := h3
      cbv
      refine safe ⟨zi_nonneg _, zi_lt.2 h3⟩ ?_
      ((try refine br_rev ?_); (first | refine br_dec (fun h4 => ?_) (fun h4 => ?_) | refine br_ndec (fun h4 => ?_) (fun h4 => ?_) | refine br_nbool (fun h4 => ?_) (fun h4 => ?_) | refine br_bool (fun h4 => ?_) (fun h4 => ?_)); all_goals (try dsimp only at h4); all_goals (try with_reducible replace h4 := zi_lt.1 h4); all_goals (try with_reducible replace h4 := not_zlt h4))
      all_goals try (cbv; exact hf)
      cbv
      ((try refine br_rev ?_); (first | refine br_dec (fun h5 => ?_) (fun h5 => ?_) | refine br_ndec (fun h5 => ?_) (fun h5 => ?_) | refine br_nbool (fun h5 => ?_) (fun h5 => ?_) | refine br_bool (fun h5 => ?_) (fun h5 => ?_)); all_goals (try dsimp only at h5); all_goals (try with_reducible replace h5 := zi_lt.1 h5); all_goals (try with_reducible replace h5 := not_zlt h5))
      all_goals try (cbv; exact hf)
      cbv
      ((try refine br_rev ?_); (first | refine br_dec (fun h6 => ?_) (fun h6 => ?_) | refine br_ndec (fun h6 => ?_) (fun h6 => ?_) | refine br_nbool (fun h6 => ?_) (fun h6 => ?_) | refine br_bool (fun h6 => ?_) (fun h6 => ?_)); all_goals (try dsimp only at h6); all_goals (try with_reducible replace h6 := zi_lt.1 h6); all_goals (try with_reducible replace h6 := not_zlt h6))
      all_goals try (cbv; exact hf)
      cbv
      ((try refine br_rev ?_); (first | refine br_dec (fun h7 => ?_) (fun h7 => ?_) | refine br_ndec (fun h7 => ?_) (fun h7 => ?_) | refine br_nbool (fun h7 => ?_) (fun h7 => ?_) | refine br_bool (fun h7 => ?_) (fun h7 => ?_)); all_goals (try dsimp only at h7); all_goals (try with_reducible replace h7 := zi_lt.1 h7); all_goals (try with_reducible replace h7 := not_zlt h7))
      all_goals try (cbv; exact hf)
      cbv
      ((try refine br_rev ?_); (first | refine br_dec (fun h8 => ?_) (fun h8 => ?_) | refine br_ndec (fun h8 => ?_) (fun h8 => ?_) | refine br_nbool (fun h8 => ?_) (fun h8 => ?_) | refine br_bool (fun h8 => ?_) (fun h8 => ?_)); all_goals (try dsimp only at h8); all_goals (try with_reducible replace h8 := zi_lt.1 h8); all_goals (try with_reducible replace h8 := not_zlt h8))
      all_goals try (cbv; exact hf)
      cbv
      ((try refine br_rev ?_); (first | refine br_dec (fun h9 => ?_) (fun h9 => ?_) | refine br_ndec (fun h9 => ?_) (fun h9 => ?_) | refine br_nbool (fun h9 => ?_) (fun h9 => ?_) | refine br_bool (fun h9 => ?_) (fun h9 => ?_)); all_goals (try dsimp only at h9); all_goals (try with_reducible replace h9 := zi_lt.1 h9); all_goals (try with_reducible replace h9 := not_zlt h9))
      all_goals try (cbv; exact hf)
      cbv
      have hz := zi_toNat k
      have next : ∀ v : Int, k + 1 ≤ (l .o).length ∧ (ls.set ((l .o).getD (zi k).toNat Ace.z).tag.toNat v).length = 7 ∧ (∀ j, j < k + 1 → 0 ≤ ((l .o).getD j Ace.z).perm ∧ ((l .o).getD j Ace.z).perm < 8) ∧
          ∀ t : Nat, (ls.set ((l .o).getD (zi k).toNat Ace.z).tag.toNat v).getD t 0 ≠ 0 → ∃ j, j < k + 1 ∧ ((l .o).getD j Ace.z).tag = (t : Int) := by
        intro v
        rw [hz] at h4 h6 h7 ⊢
        refine ⟨h3, by rw [List.length_set]; exact hls, fun j hj => ?_, fun t ht => ?_⟩
        · by_cases q : j = k
          · subst q; omega
          · exact hperm j (by omega)
        · by_cases q : t = ((l .o).getD k Ace.z).tag.toNat
          · exact ⟨k, by omega, by omega⟩
          · rw [List.getD_eq_getElem?_getD, List.getElem?_set_ne (Ne.symm q), ← List.getD_eq_getElem?_getD] at ht
            obtain ⟨j, hj, hjt⟩ := hcnt t ht
            exact ⟨j, by omega, hjt⟩
      have hT : 0 ≤ ((l .o).getD (zi k).toNat Ace.z).tag ∧ ((l .o).getD (zi k).toNat Ace.z).tag < zi ls.length := by
        rw [hls]
        have : zi 7 = 7 := rfl
        omega
      have hTn : ((l .o).getD (zi k).toNat Ace.z).tag.toNat < ls.length := by rw [hls]; omega
      have succ := zi_succ (k := k) (by unfold short at hl; omega)
      refine named_c (fun _ => (l .o).getD (zi k).toNat Ace.z) fun nb => ?_
      cbv
      refine br_nbool (fun ha => ?_) (fun ha => ?_)
      all_goals cbv
      focus
        ((try refine br_rev ?_); (first | refine br_dec (fun hb => ?_) (fun hb => ?_) | refine br_ndec (fun hb => ?_) (fun hb => ?_) | refine br_nbool (fun hb => ?_) (fun hb => ?_) | refine br_bool (fun hb => ?_) (fun hb => ?_)); all_goals (try dsimp only at hb); all_goals (try with_reducible replace hb := zi_lt.1 hb); all_goals (try with_reducible replace hb := not_zlt hb))
        all_goals cbv
        all_goals try exact hf
      rotate_left
      all_goals ((try refine br_rev ?_); (first | refine br_dec (fun hd => ?_) (fun hd => ?_) | refine br_ndec (fun hd => ?_) (fun hd => ?_) | refine br_nbool (fun hd => ?_) (fun hd => ?_) | refine br_bool (fun hd => ?_) (fun hd => ?_)); all_goals (try dsimp only at hd); all_goals (try with_reducible replace hd := zi_lt.1 hd); all_goals (try with_reducible replace hd := not_zlt hd))
      all_goals cbv
      all_goals have hzl := zi_lt.2 h3
      all_goals try (
        have hi1 : 0 ≤ IntKind.i64.wrap (zi k - 1) ∧ IntKind.i64.wrap (zi k - 1) < zi (l .o).length := by rw [IntKind.wrap_i64]; omega
        refine safe hi1 ?_
        ((try refine br_rev ?_); (first | refine br_dec (fun he => ?_) (fun he => ?_) | refine br_ndec (fun he => ?_) (fun he => ?_) | refine br_nbool (fun he => ?_) (fun he => ?_) | refine br_bool (fun he => ?_) (fun he => ?_)); all_goals (try dsimp only at he); all_goals (try with_reducible replace he := zi_lt.1 he); all_goals (try with_reducible replace he := not_zlt he))
        focus (cbv; exact hf)
        cbv
        refine safe hi1 ?_
        ((try refine br_rev ?_); (first | refine br_dec (fun hg => ?_) (fun hg => ?_) | refine br_ndec (fun hg => ?_) (fun hg => ?_) | refine br_nbool (fun hg => ?_) (fun hg => ?_) | refine br_bool (fun hg => ?_) (fun hg => ?_)); all_goals (try dsimp only at hg); all_goals (try with_reducible replace hg := zi_lt.1 hg); all_goals (try with_reducible replace hg := not_zlt hg))
        focus
          cbv
          refine named_c (fun _ => (l .o).getD (zi k).toNat Ace.z) fun nb2 => ?_
          cbv
          refine br_rev (br_nbool (fun hh => ?_) (fun hh => ?_))
          rotate_left
          focus
            cbv
            refine safe hi1 ?_
            ((try refine br_rev ?_); (first | refine br_dec (fun hj => ?_) (fun hj => ?_) | refine br_ndec (fun hj => ?_) (fun hj => ?_) | refine br_nbool (fun hj => ?_) (fun hj => ?_) | refine br_bool (fun hj => ?_) (fun hj => ?_)); all_goals (try dsimp only at hj); all_goals (try with_reducible replace hj := zi_lt.1 hj); all_goals (try with_reducible replace hj := not_zlt hj))
            focus (cbv; exact hf)
            cbv
          rotate_left
          focus (cbv; exact hf)
        rotate_left
        focus cbv)
      all_goals
        refine safe hT ?_
        refine safe hTn ?_
        refine safe hT ?_
        refine put_rows intCh 0 ls (IntKind.i64.wrap (ls.getD ((l .o).getD (zi k).toNat Ace.z).tag.toNat 0 + 1)) rfl (fun i hi => rfl) hTn rfl ?_
        cbv
        refine ⟨(k + 1, ls.set ((l .o).getD (zi k).toNat Ace.z).tag.toNat (IntKind.i64.wrap (ls.getD ((l .o).getD (zi k).toNat Ace.z).tag.toNat 0 + 1))), next _, by show _ - (k + 1) < _ - k; omega, ?_⟩
        cbv
        (repeat' (first | exact True.intro | exact Same.refl _ | exact SameB.refl _ | exact ⟨rfl⟩ | exact Same.int rfl | exact Same.str rfl | exact Same.bool rfl | (refine Same.int ?_; simp only [List.length_append, List.length_cons, List.length_nil, zi]; omega) | (refine SameB.row' rfl fun i hi => ?_; first | rfl | exact absurd hi (Nat.not_lt_zero _)) | refine And.intro ?_ ?_ | refine SameB.cells ?_ | exact SameC.nil | refine SameC.cons ?_ ?_ | exact Same.nsl rfl | exact Same.tt rfl | exact Same.ff rfl))
        all_goals first | exact Same.int succ | exact SameB.row' (by show ls.length = (ls.set _ _).length; rw [List.length_set]) fun i hi => rfl
    · have h3 : (l .o).length ≤ k := h3
      have one : ∀ t : Nat, ls.getD t 0 = 1 → ∃ a ∈ (l .o), a.tag = (t : Int) := by
        intro t ht
        obtain ⟨j, hj, hjt⟩ := hcnt t (by rw [ht]; decide)
        have hjl : j < (l .o).length := by omega
        refine ⟨(l .o).getD j Ace.z, ?_, hjt⟩
        rw [List.getD_eq_getElem?_getD, List.getElem?_eq_getElem hjl]
        exact List.getElem_mem hjl
      have all : ∀ a ∈ (l .o), 0 ≤ a.perm ∧ a.perm < 8 := by
        intro a ha
        obtain ⟨j, hj, rfl⟩ := List.getElem_of_mem ha
        have := hperm j (by omega)
        rwa [List.getD_eq_getElem?_getD, List.getElem?_eq_getElem hj] at this
      cbv
      refine safe (by show (0 : Int) ≤ 1 ∧ (1 : Int) < zi ls.length; rw [hls]; decide) ?_
      refine safe (by show 1 < ls.length; omega) ?_
      ((try refine br_rev ?_); (first | refine br_dec (fun ha => ?_) (fun ha => ?_) | refine br_ndec (fun ha => ?_) (fun ha => ?_) | refine br_nbool (fun ha => ?_) (fun ha => ?_) | refine br_bool (fun ha => ?_) (fun ha => ?_)); all_goals (try dsimp only at ha); all_goals (try with_reducible replace ha := zi_lt.1 ha); all_goals (try with_reducible replace ha := not_zlt ha))
      rotate_left
      focus (cbv; exact hf)
      cbv
      refine safe (by show (0 : Int) ≤ 3 ∧ (3 : Int) < zi ls.length; rw [hls]; decide) ?_
      refine safe (by show 3 < ls.length; omega) ?_
      ((try refine br_rev ?_); (first | refine br_dec (fun hb => ?_) (fun hb => ?_) | refine br_ndec (fun hb => ?_) (fun hb => ?_) | refine br_nbool (fun hb => ?_) (fun hb => ?_) | refine br_bool (fun hb => ?_) (fun hb => ?_)); all_goals (try dsimp only at hb); all_goals (try with_reducible replace hb := zi_lt.1 hb); all_goals (try with_reducible replace hb := not_zlt hb))
      rotate_left
      focus (cbv; exact hf)
      cbv
      refine safe (by show (0 : Int) ≤ 6 ∧ (6 : Int) < zi ls.length; rw [hls]; decide) ?_
      refine safe (by show 6 < ls.length; omega) ?_
      ((try refine br_rev ?_); (first | refine br_dec (fun hd => ?_) (fun hd => ?_) | refine br_ndec (fun hd => ?_) (fun hd => ?_) | refine br_nbool (fun hd => ?_) (fun hd => ?_) | refine br_bool (fun hd => ?_) (fun hd => ?_)); all_goals (try dsimp only at hd); all_goals (try with_reducible replace hd := zi_lt.1 hd); all_goals (try with_reducible replace hd := not_zlt hd))
      rotate_left
      focus (cbv; exact hf)
      have good : Good (l .o) := ⟨all, one 1 ha, one 3 hb, one 6 hd⟩
      cbv
      refine safe (by show (0 : Int) ≤ 5 ∧ (5 : Int) < zi ls.length; rw [hls]; decide) ?_
      refine safe (by show 5 < ls.length; omega) ?_
      refine safe (by show (0 : Int) ≤ 2 ∧ (2 : Int) < zi ls.length; rw [hls]; decide) ?_
      refine safe (by show 2 < ls.length; omega) ?_
      refine safe (by show (0 : Int) ≤ 4 ∧ (4 : Int) < zi ls.length; rw [hls]; decide) ?_
      refine safe (by show 4 < ls.length; omega) ?_
      exact hr' _ fun _ => good

theorem of9_eq (m : Meta) : of9 m = ofS m := by
  unfold of9 ofS
  rw [mode_eq']

end Go.Proofs.Ytgjlkcdnlndlnaa
/- Which access lists may be: walked, exact. -/
namespace Go.Proofs.Ytgjlkcdnlndlnaa
open Go Go.Proofs.Ytgjlkcdnlndlnaa.Sx F
set_option linter.unusedVariables false
set_option linter.unusedSimpArgs false

/-! ### the law -/
def namedT (t : Int) : Prop := t = 2 ∨ t = 4
def AceOk (a : Ace) : Prop := 0 ≤ a.perm ∧ a.perm ≤ 7 ∧ 0 ≤ a.id ∧ a.id ≤ 2147483647 ∧ (a.id = 0 ∨ a.tag = 2 ∨ a.tag = 4)
def aft (a b : Ace) : Prop := a.tag < b.tag ∨ a.tag = b.tag ∧ a.id < b.id
def cntN (l : List Ace) (k t : Nat) : Nat := (l.take k).countP fun a => decide (a.tag = (t : Int))
structure AclTo (l : List Ace) (k : Nat) : Prop where
  tag : ∀ j, j < k → 1 ≤ (l.getD j Ace.z).tag ∧ (l.getD j Ace.z).tag ≤ 6
  ok : ∀ j, j < k → AceOk (l.getD j Ace.z)
  up : ∀ j, j + 1 < k → aft (l.getD j Ace.z) (l.getD (j + 1) Ace.z)
structure AclOk (l : List Ace) : Prop where
  to : AclTo l l.length
  own : cntN l l.length 1 = 1
  grp : cntN l l.length 3 = 1
  oth : cntN l l.length 6 = 1
  msk : cntN l l.length 5 = min 1 (cntN l l.length 2 + cntN l l.length 4)
  len : l.length ≤ 32
theorem take_succ_getD {α : Type} (l : List α) (z : α) (k : Nat) (h : k < l.length) : l.take (k + 1) = l.take k ++ [l.getD k z] := by
  rw [List.take_succ_eq_append_getElem h, List.getD_eq_getElem?_getD, List.getElem?_eq_getElem h]; rfl
theorem cntN_succ (l : List Ace) (k t : Nat) (h : k < l.length) : cntN l (k + 1) t = cntN l k t + if (l.getD k Ace.z).tag = (t : Int) then 1 else 0 := by
  unfold cntN
  rw [take_succ_getD l Ace.z k h, List.countP_append, List.countP_cons, List.countP_nil]
  by_cases q : (l.getD k Ace.z).tag = (t : Int) <;> simp only [q, decide_true, decide_false, if_true, if_false, Nat.zero_add, Bool.false_eq_true]
theorem cntN_le (l : List Ace) (k t : Nat) : cntN l k t ≤ k := Nat.le_trans List.countP_le_length (List.length_take_le _ _)
theorem cntN_zero (l : List Ace) (t : Nat) : cntN l 0 t = 0 := rfl
/-- Unnamed parts stand once at most. -/
theorem cntN_once {l : List Ace} {k t : Nat} (h : AclTo l k) (hk : k ≤ l.length) (ht : t ≠ 2 ∧ t ≠ 4) : cntN l k t ≤ 1 ∧ (cntN l k t = 1 → 0 < k → (l.getD (k - 1) Ace.z).tag ≥ (t : Int)) ∧ ∀ j, j < k → (l.getD j Ace.z).tag ≤ (l.getD (k - 1) Ace.z).tag := by
  induction k with
  | zero => exact ⟨by rw [cntN_zero]; omega, fun h => by rw [cntN_zero] at h; omega, fun j hj => by omega⟩
  | succ k ih =>
    obtain ⟨i1, i2, i3⟩ := ih ⟨fun j hj => h.tag j (by omega), fun j hj => h.ok j (by omega), fun j hj => h.up j (by omega)⟩ (by omega)
    have hok := h.ok k (by omega)
    rw [cntN_succ l k t (by omega)]
    have hup : 0 < k → aft (l.getD (k - 1) Ace.z) (l.getD k Ace.z) := fun q => by have := h.up (k - 1) (by omega); rwa [show k - 1 + 1 = k by omega] at this
    have hle : 0 < k → (l.getD (k - 1) Ace.z).tag ≤ (l.getD k Ace.z).tag := fun q => by rcases hup q with q | q <;> omega
    simp only [Nat.add_sub_cancel]
    refine ⟨?_, ?_, fun j hj => ?_⟩
    · split
      · rename_i q
        by_cases hk0 : 0 < k
        · have : cntN l k t ≠ 1 := fun e => by
            have h1 := i2 e hk0
            have h2 := hup hk0
            have h3 := h.ok (k - 1) (by omega)
            unfold AceOk at h3 hok
            rcases h2 with h2 | h2
            · omega
            · omega
          omega
        · have : cntN l k t ≤ k := cntN_le _ _ _
          omega
      · omega
    · intro e _
      split at e
      · omega
      · rename_i q
        by_cases hk0 : 0 < k
        · have := i2 (by omega) hk0
          have := hle hk0
          omega
        · have := cntN_le l k t
          omega
    · rcases Nat.lt_or_ge j k with q | q
      · have := i3 j q
        have := hle (by omega)
        omega
      · obtain rfl : j = k := by omega
        exact Int.le_refl _
theorem AclOk.good {l : List Ace} (h : AclOk l) : Good l := by
  have one : ∀ t : Nat, cntN l l.length t = 1 → ∃ a ∈ l, a.tag = (t : Int) := by
    intro t ht
    unfold cntN at ht
    rw [List.take_length] at ht
    obtain ⟨a, ha, hat⟩ := List.countP_pos_iff.1 (by rw [ht]; exact Nat.one_pos)
    exact ⟨a, ha, by simpa using hat⟩
  refine ⟨fun a ha => ?_, one 1 h.own, one 3 h.grp, one 6 h.oth⟩
  obtain ⟨j, hj, rfl⟩ := List.getElem_of_mem ha
  have := h.to.ok j hj
  unfold AceOk at this
  rw [List.getD_eq_getElem?_getD, List.getElem?_eq_getElem hj] at this
  exact ⟨this.1, by have := this.2.1; simp only [Option.getD_some] at this; omega⟩

/-! ### the walks -/
def cntL (l : List Ace) (k : Nat) : List Int := (List.range 7).map fun t => (cntN l k t : Int)
theorem cntL_len (l : List Ace) (k : Nat) : (cntL l k).length = 7 := by simp [cntL]
theorem cntL_at (l : List Ace) (k : Nat) {t : Nat} (h : t < 7) : (cntL l k).getD t 0 = (cntN l k t : Int) := by
  unfold cntL
  rw [List.getD_eq_getElem?_getD, List.getElem?_map, List.getElem?_range h]; rfl
theorem cntL_succ (l : List Ace) (k : Nat) (hk : k < l.length) {t : Nat} (ht : t < 7) (he : (l.getD k Ace.z).tag = (t : Int)) : (cntL l k).set t ((cntN l k t : Int) + 1) = cntL l (k + 1) := by
  apply List.ext_getElem?
  intro i
  rw [List.getElem?_set]
  unfold cntL
  rw [List.getElem?_map, List.getElem?_map, List.length_map, List.length_range]
  by_cases hi : i < 7
  · rw [List.getElem?_range hi]
    simp only [Option.map_some]
    rw [cntN_succ l k i hk, he]
    by_cases q : t = i
    · subst q; simp [ht]
    · rw [if_neg q, if_neg (by omega)]; simp
  · rw [List.getElem?_eq_none (by simp; omega)]
    simp only [Option.map_none]
    rw [if_neg (by omega)]
theorem aclnamed_c (t : Th Int) {d : Nat} {K : ARes → BL → Prop} (hr : ∀ b : Th Bool, (b .o = true ↔ namedT (t .o)) → K (.ret (.bool b)) .nil) : CallAt PT acl_named [.int .i64 t] d .nil K := by
  refine CallAt.res ?_
  refine acl_named.of rfl rfl ?_
  cbv
  (repeat' (first | (refine br_dec (fun h => ?_) (fun h => ?_) <;> cbv) | (refine br_rev (br_dec (fun h => ?_) (fun h => ?_)) <;> cbv) | (refine br_ndec (fun h => ?_) (fun h => ?_) <;> cbv) | (refine br_rev (br_ndec (fun h => ?_) (fun h => ?_)) <;> cbv)))
  all_goals (first | exact ⟨_, .ret (.tt rfl), hr (fun _ => true) (by (try dsimp only at *); (try simp only [decide_eq_true_eq, true_iff, false_iff, Bool.false_eq_true, namedT]); omega)⟩ | exact ⟨_, .ret (.ff rfl), hr (fun _ => false) (by (try dsimp only at *); (try simp only [decide_eq_true_eq, true_iff, false_iff, Bool.false_eq_true, namedT]); omega)⟩ | exact ⟨_, .ret (.refl _), hr _ (by (try dsimp only at *); (try simp only [decide_eq_true_eq, true_iff, false_iff, Bool.false_eq_true, namedT]); omega)⟩)
theorem named9_c (a : Th Ace) {d : Nat} {K : ARes → BL → Prop} (hr : ∀ b : Th Bool, (b .o = true ↔ namedT (a .o).tag) → K (.ret (.bool b)) .nil) : CallAt PT r9_named [Ace.av a] d .nil K := by
  refine CallAt.res ?_
  refine r9_named.of rfl rfl ?_
  cbv
  (repeat' (first | (refine br_dec (fun h => ?_) (fun h => ?_) <;> cbv) | (refine br_rev (br_dec (fun h => ?_) (fun h => ?_)) <;> cbv) | (refine br_ndec (fun h => ?_) (fun h => ?_) <;> cbv) | (refine br_rev (br_ndec (fun h => ?_) (fun h => ?_)) <;> cbv)))
  all_goals (first | exact ⟨_, .ret (.tt rfl), hr (fun _ => true) (by (try dsimp only at *); (try simp only [decide_eq_true_eq, true_iff, false_iff, Bool.false_eq_true, namedT]); omega)⟩ | exact ⟨_, .ret (.ff rfl), hr (fun _ => false) (by (try dsimp only at *); (try simp only [decide_eq_true_eq, true_iff, false_iff, Bool.false_eq_true, namedT]); omega)⟩ | exact ⟨_, .ret (.refl _), hr _ (by (try dsimp only at *); (try simp only [decide_eq_true_eq, true_iff, false_iff, Bool.false_eq_true, namedT]); omega)⟩)
theorem mayace_c (a : Th Ace) {d : Nat} {K : ARes → BL → Prop} (hr : ∀ b : Th Bool, (b .o = true ↔ AceOk (a .o)) → K (.ret (.bool b)) .nil) : CallAt PT acl_mayAce [Ace.av a] d .nil K := by
  refine CallAt.res ?_
  refine acl_mayAce.of rfl rfl ?_
  cbv
  (repeat' (first | (refine br_dec (fun h => ?_) (fun h => ?_) <;> cbv) | (refine br_rev (br_dec (fun h => ?_) (fun h => ?_)) <;> cbv) | (refine br_ndec (fun h => ?_) (fun h => ?_) <;> cbv) | (refine br_rev (br_ndec (fun h => ?_) (fun h => ?_)) <;> cbv)))
  all_goals try (first | exact ⟨_, .ret (.tt rfl), hr (fun _ => true) (by (try dsimp only at *); (try simp only [decide_eq_true_eq, true_iff, false_iff, Bool.false_eq_true, AceOk]); omega)⟩ | exact ⟨_, .ret (.ff rfl), hr (fun _ => false) (by (try dsimp only at *); (try simp only [decide_eq_true_eq, true_iff, false_iff, Bool.false_eq_true, AceOk]); omega)⟩ | exact ⟨_, .ret (.refl _), hr _ (by (try dsimp only at *); (try simp only [decide_eq_true_eq, true_iff, false_iff, Bool.false_eq_true, AceOk]); omega)⟩)
  refine aclnamed_c (fun _ => (a .o).tag) fun b hb => ?_
  cbv
  refine ⟨_, .ret (.refl _), hr _ ?_⟩
  show b .o = true ↔ _
  rw [hb]
  (try dsimp only at *)
  simp only [AceOk, namedT]
  omega
end Go.Proofs.Ytgjlkcdnlndlnaa
/- Which access lists may be: the loops walked, exact. -/
namespace Go.Proofs.Ytgjlkcdnlndlnaa
open Go Go.Proofs.Ytgjlkcdnlndlnaa.Sx F
set_option linter.unusedVariables false
set_option linter.unusedSimpArgs false

def lastA (l : List Ace) (k : Nat) : Ace := if k = 0 then Ace.z else l.getD (k - 1) Ace.z
theorem aclTo_succ {l : List Ace} {k : Nat} (h : AclTo l k) (h1 : 1 ≤ (l.getD k Ace.z).tag ∧ (l.getD k Ace.z).tag ≤ 6) (h2 : AceOk (l.getD k Ace.z)) (h3 : k = 0 ∨ aft (lastA l k) (l.getD k Ace.z)) : AclTo l (k + 1) := by
  refine ⟨fun j hj => ?_, fun j hj => ?_, fun j hj => ?_⟩
  · rcases Nat.lt_or_ge j k with q | q
    · exact h.tag j q
    · obtain rfl : j = k := by omega
      exact h1
  · rcases Nat.lt_or_ge j k with q | q
    · exact h.ok j q
    · obtain rfl : j = k := by omega
      exact h2
  · rcases Nat.lt_or_ge (j + 1) k with q | q
    · exact h.up j q
    · obtain rfl : k = j + 1 := by omega
      rcases h3 with h3 | h3
      · omega
      · unfold lastA at h3
        rw [if_neg (by omega)] at h3
        exact h3
theorem aclTo_aft {l : List Ace} {k : Nat} (h : AclTo l l.length) (hk : k < l.length) : aft (lastA l k) (l.getD k Ace.z) := by
  unfold lastA
  split
  · exact .inl (by have := (h.tag k hk).1; show (0 : Int) < _; omega)
  · have := h.up (k - 1) (by omega)
    rwa [show k - 1 + 1 = k by omega] at this
theorem min_wrap (n m : Nat) (hn : n ≤ 140737488355328) (hm : m ≤ 140737488355328) : (if IntKind.i64.wrap ((n : Int) + (m : Int)) < 1 then IntKind.i64.wrap ((n : Int) + (m : Int)) else 1) = ((min 1 (n + m) : Nat) : Int) := by
  have e : IntKind.i64.wrap ((n : Int) + (m : Int)) = (n : Int) + (m : Int) := by rw [IntKind.wrap_i64]; omega
  rw [e]
  split <;> omega
theorem aclmay_c (l : Th (List Ace)) (hl : short (l .o)) {d : Nat} {K : ARes → BL → Prop} (hr : ∀ b : Th Bool, (b .o = true ↔ AclOk (l .o)) → K (.ret (.bool b)) .nil) : CallAt PT acl_May [aces l] d .nil K := by
  refine CallAt.res ?_
  have hf : ¬ AclOk (l .o) → ∃ r', SameR (.ret .ff) r' ∧ K r' .nil := fun h => ⟨_, .ret (.ff rfl), hr (fun _ => false) ⟨fun q => (by cases q), fun q => (h q).elim⟩⟩
  refine acl_May.of rfl rfl ?_
  cbv
  refine loop_at (X := Nat) 1000 [0, 3, 4, 9, 10] [] (fun _ k => .cons 11 (.int .i64 fun _ => zi k) .nil) (fun _ k => .cons 3 (rowB 1 intCh 0 fun _ => cntL (l .o) k) (.cons 4 (.cells (Ace.ch fun _ => lastA (l .o) k)) .nil))
    (fun k => k ≤ (l .o).length ∧ AclTo (l .o) k) (fun k => (l .o).length - k) 0 ?_ ⟨Nat.zero_le _, ⟨fun j hj => by omega, fun j hj => by omega, fun j hj => by omega⟩⟩ ?_
  · cbv
    (repeat' (first | exact True.intro | exact Same.refl _ | exact SameB.refl _ | exact ⟨rfl⟩ | exact Same.int rfl | exact Same.str rfl | exact Same.bool rfl | (refine Same.int ?_; simp only [List.length_append, List.length_cons, List.length_nil, zi]; omega) | (refine SameB.row' rfl fun i hi => ?_; first | rfl | exact absurd hi (Nat.not_lt_zero _)) | refine And.intro ?_ ?_ | refine SameB.cells ?_ | exact SameC.nil | refine SameC.cons ?_ ?_ | exact Same.nsl rfl | exact Same.tt rfl | exact Same.ff rfl))
    all_goals
      refine SameB.row' rfl fun i hi => ?_
      have hi : i < 7 := hi
      match i, hi with
      | 0, _ | 1, _ | 2, _ | 3, _ | 4, _ | 5, _ | 6, _ => rfl
  · rintro k ⟨hk, hto⟩
    have hz := zi_toNat k
    have hcl := cntL_len (l .o) k
    cbv
    ((try refine br_rev ?_); (first | refine br_dec (fun h3 => ?_) (fun h3 => ?_) | refine br_ndec (fun h3 => ?_) (fun h3 => ?_) | refine br_nbool (fun h3 => ?_) (fun h3 => ?_) | refine br_bool (fun h3 => ?_) (fun h3 => ?_)); all_goals (try dsimp only at h3); all_goals (try with_reducible replace h3 := zi_lt.1 h3); all_goals (try with_reducible replace h3 := not_zlt h3))
    · have h3 : k < (l .o).length := h3
      cbv
      refine safe ⟨zi_nonneg _, zi_lt.2 h3⟩ ?_
      rw [hz]
      refine br_rev (br_dec (fun h4 => ?_) (fun h4 => ?_))
      · cbv
        exact hf fun q => by have := (q.to.tag k h3).1; have h4 : ((l .o).getD k Ace.z).tag < 1 := h4; omega
      have h4 : ¬ ((l .o).getD k Ace.z).tag < 1 := h4
      cbv
      refine br_rev (br_dec (fun h5 => ?_) (fun h5 => ?_))
      · cbv
        exact hf fun q => by have := (q.to.tag k h3).2; have h5 : 6 < ((l .o).getD k Ace.z).tag := h5; omega
      have h5 : ¬ 6 < ((l .o).getD k Ace.z).tag := h5
      cbv
      refine mayace_c (fun _ => (l .o).getD k Ace.z) fun b hb => ?_
      cbv
      refine br_rev (br_nbool (fun h6 => ?_) (fun h6 => ?_))
      · cbv
        exact hf fun q => by have := hb.2 (q.to.ok k h3); rw [this] at h6; cases h6
      have hok := hb.1 h6
      cbv
      refine br_rev (br_dec (fun h7 => ?_) (fun h7 => ?_))
      · have h7 : ((l .o).getD k Ace.z).tag < (lastA (l .o) k).tag := h7
        cbv
        exact hf fun q => by rcases aclTo_aft q.to h3 with q | q <;> omega
      have h7 : ¬ ((l .o).getD k Ace.z).tag < (lastA (l .o) k).tag := h7
      cbv
      have next : aft (lastA (l .o) k) ((l .o).getD k Ace.z) → AclTo (l .o) (k + 1) := fun q => aclTo_succ hto ⟨by omega, by omega⟩ hok (.inr q)
      have hT : 0 ≤ ((l .o).getD k Ace.z).tag ∧ ((l .o).getD k Ace.z).tag < zi (cntL (l .o) k).length ∧ ((l .o).getD k Ace.z).tag < zi 7 := by
        rw [hcl]
        have : zi 7 = 7 := rfl
        omega
      have hTn : ((l .o).getD k Ace.z).tag.toNat < (cntL (l .o) k).length := by rw [hcl]; omega
      have htt : ((l .o).getD k Ace.z).tag = ((((l .o).getD k Ace.z).tag.toNat : Nat) : Int) := by omega
      have hcn := cntN_le (l .o) k ((l .o).getD k Ace.z).tag.toNat
      have hset : (cntL (l .o) k).set ((l .o).getD k Ace.z).tag.toNat (IntKind.i64.wrap ((cntL (l .o) k).getD ((l .o).getD k Ace.z).tag.toNat 0 + 1)) = cntL (l .o) (k + 1) := by
        rw [cntL_at _ _ (by omega), show IntKind.i64.wrap ((cntN (l .o) k ((l .o).getD k Ace.z).tag.toNat : Int) + 1) = (cntN (l .o) k ((l .o).getD k Ace.z).tag.toNat : Int) + 1 by rw [IntKind.wrap_i64]; unfold short at hl; omega]
        exact cntL_succ _ _ h3 (by omega) htt
      have hlast : lastA (l .o) (k + 1) = (l .o).getD k Ace.z := by unfold lastA; rw [if_neg (by omega)]; rfl
      have succ := zi_succ (k := k) (by unfold short at hl; omega)
      refine br_dec (fun h8 => ?_) (fun h8 => ?_)
      · have h8 : ((l .o).getD k Ace.z).tag = (lastA (l .o) k).tag := h8
        cbv
        refine br_dec (fun h9 => ?_) (fun h9 => ?_)
        · have h9 : ((l .o).getD k Ace.z).id ≤ (lastA (l .o) k).id := h9
          cbv
          exact hf fun q => by rcases aclTo_aft q.to h3 with q | q <;> omega
        have h9 : ¬ ((l .o).getD k Ace.z).id ≤ (lastA (l .o) k).id := h9
        replace next := next (.inr ⟨h8.symm, by omega⟩)
        cbv
        refine safe hT ?_
        refine safe hTn ?_
        refine safe hT ?_
        refine put_rows intCh 0 (cntL (l .o) k) (IntKind.i64.wrap ((cntL (l .o) k).getD ((l .o).getD k Ace.z).tag.toNat 0 + 1)) rfl (fun i hi => rfl) hTn rfl ?_
        cbv
        rw [hset]
        refine ⟨k + 1, ⟨h3, next⟩, by omega, ?_⟩
        cbv
        rw [hlast]
        (repeat' (first | exact True.intro | exact Same.refl _ | exact SameB.refl _ | exact ⟨rfl⟩ | exact Same.int rfl | exact Same.str rfl | exact Same.bool rfl | (refine Same.int ?_; simp only [List.length_append, List.length_cons, List.length_nil, zi]; omega) | (refine SameB.row' rfl fun i hi => ?_; first | rfl | exact absurd hi (Nat.not_lt_zero _)) | refine And.intro ?_ ?_ | refine SameB.cells ?_ | exact SameC.nil | refine SameC.cons ?_ ?_ | exact Same.nsl rfl | exact Same.tt rfl | exact Same.ff rfl))
        all_goals first | exact Same.int succ | exact SameB.row' (by simp [cntL]) fun i hi => rfl
      · have h8 : ¬ ((l .o).getD k Ace.z).tag = (lastA (l .o) k).tag := h8
        replace next := next (.inl (by omega))
        cbv
        refine safe hT ?_
        refine safe hTn ?_
        refine safe hT ?_
        refine put_rows intCh 0 (cntL (l .o) k) (IntKind.i64.wrap ((cntL (l .o) k).getD ((l .o).getD k Ace.z).tag.toNat 0 + 1)) rfl (fun i hi => rfl) hTn rfl ?_
        cbv
        rw [hset]
        refine ⟨k + 1, ⟨h3, next⟩, by omega, ?_⟩
        cbv
        rw [hlast]
        (repeat' (first | exact True.intro | exact Same.refl _ | exact SameB.refl _ | exact ⟨rfl⟩ | exact Same.int rfl | exact Same.str rfl | exact Same.bool rfl | (refine Same.int ?_; simp only [List.length_append, List.length_cons, List.length_nil, zi]; omega) | (refine SameB.row' rfl fun i hi => ?_; first | rfl | exact absurd hi (Nat.not_lt_zero _)) | refine And.intro ?_ ?_ | refine SameB.cells ?_ | exact SameC.nil | refine SameC.cons ?_ ?_ | exact Same.nsl rfl | exact Same.tt rfl | exact Same.ff rfl))
        all_goals first | exact Same.int succ | exact SameB.row' (by simp [cntL]) fun i hi => rfl
    · obtain rfl : k = (l .o).length := by have h3 : (l .o).length ≤ k := h3; omega
      have cn : ∀ t : Nat, t < 7 → 0 ≤ (t : Int) ∧ (t : Int) < zi (cntL (l .o) (l .o).length).length ∧ (t : Int) < zi 7 := fun t ht => by rw [hcl]; unfold zi; omega
      have cm : ∀ t : Nat, t < 7 → t < (cntL (l .o) (l .o).length).length := fun t ht => by rw [hcl]; exact ht
      have cv : ∀ t : Nat, t < 7 → (cntL (l .o) (l .o).length).getD t 0 = (cntN (l .o) (l .o).length t : Int) := fun t ht => cntL_at _ _ ht
      have hc2 := cntN_le (l .o) (l .o).length 2
      have hc4 := cntN_le (l .o) (l .o).length 4
      unfold short at hl
      cbv
      refine safe (cn 2 (by decide)) ?_
      refine safe (cm 2 (by decide)) ?_
      refine safe (cn 4 (by decide)) ?_
      refine safe (cm 4 (by decide)) ?_
      refine safe (cn 1 (by decide)) ?_
      refine safe (cm 1 (by decide)) ?_
      refine br_dec (fun a1 => ?_) (fun a1 => ?_)
      rotate_left
      · cbv
        exact hf fun q => a1 (by show (cntL (l .o) (l .o).length).getD 1 0 = 1; rw [cv 1 (by decide), q.own]; rfl)
      cbv
      refine safe (cn 3 (by decide)) ?_
      refine safe (cm 3 (by decide)) ?_
      refine br_dec (fun a3 => ?_) (fun a3 => ?_)
      rotate_left
      · cbv
        exact hf fun q => a3 (by show (cntL (l .o) (l .o).length).getD 3 0 = 1; rw [cv 3 (by decide), q.grp]; rfl)
      cbv
      refine safe (cn 6 (by decide)) ?_
      refine safe (cm 6 (by decide)) ?_
      refine br_dec (fun a6 => ?_) (fun a6 => ?_)
      rotate_left
      · cbv
        exact hf fun q => a6 (by show (cntL (l .o) (l .o).length).getD 6 0 = 1; rw [cv 6 (by decide), q.oth]; rfl)
      cbv
      refine safe (cn 5 (by decide)) ?_
      refine safe (cm 5 (by decide)) ?_
      have hmin : (if IntKind.i64.wrap ((cntL (l .o) (l .o).length).getD 2 0 + (cntL (l .o) (l .o).length).getD 4 0) < 1 then IntKind.i64.wrap ((cntL (l .o) (l .o).length).getD 2 0 + (cntL (l .o) (l .o).length).getD 4 0) else 1) = ((min 1 (cntN (l .o) (l .o).length 2 + cntN (l .o) (l .o).length 4) : Nat) : Int) := by
        rw [cv 2 (by decide), cv 4 (by decide)]
        exact min_wrap _ _ (by omega) (by omega)
      refine br_dec (fun a5 => ?_) (fun a5 => ?_)
      rotate_left
      · cbv
        exact hf fun q => a5 (by
          show (cntL (l .o) (l .o).length).getD 5 0 = (if IntKind.i64.wrap ((cntL (l .o) (l .o).length).getD 2 0 + (cntL (l .o) (l .o).length).getD 4 0) < 1 then IntKind.i64.wrap ((cntL (l .o) (l .o).length).getD 2 0 + (cntL (l .o) (l .o).length).getD 4 0) else 1); rw [hmin, cv 5 (by decide), q.msk])
      have a5 : (cntL (l .o) (l .o).length).getD 5 0 = (if IntKind.i64.wrap ((cntL (l .o) (l .o).length).getD 2 0 + (cntL (l .o) (l .o).length).getD 4 0) < 1 then IntKind.i64.wrap ((cntL (l .o) (l .o).length).getD 2 0 + (cntL (l .o) (l .o).length).getD 4 0) else 1) := a5
      have a1 : (cntL (l .o) (l .o).length).getD 1 0 = 1 := a1
      have a3 : (cntL (l .o) (l .o).length).getD 3 0 = 1 := a3
      have a6 : (cntL (l .o) (l .o).length).getD 6 0 = 1 := a6
      rw [hmin, cv 5 (by decide)] at a5
      rw [cv 1 (by decide)] at a1
      rw [cv 3 (by decide)] at a3
      rw [cv 6 (by decide)] at a6
      have b1 : cntN (l .o) (l .o).length 1 = 1 := Int.ofNat.inj a1
      have b3 : cntN (l .o) (l .o).length 3 = 1 := Int.ofNat.inj a3
      have b6 : cntN (l .o) (l .o).length 6 = 1 := Int.ofNat.inj a6
      have b5 : cntN (l .o) (l .o).length 5 = min 1 (cntN (l .o) (l .o).length 2 + cntN (l .o) (l .o).length 4) := Int.ofNat.inj a5
      cbv
      refine ⟨_, .ret (.refl _), hr _ ⟨fun q => ⟨hto, b1, b3, b6, b5, ?_⟩, fun q => decide_eq_true ?_⟩⟩
      · have q : zi (l .o).length ≤ 32 := of_decide_eq_true q
        unfold zi at q
        omega
      · show zi (l .o).length ≤ 32
        have := q.len
        unfold zi
        omega
end Go.Proofs.Ytgjlkcdnlndlnaa
