/- Texts laid together: Rc, RcP. -/
import Derived.Test.YtgjlkcdnlndlnaaProg
import Derived.KernelRfl
import Derived.Test.YtgjlkcdnlndlnaaK3
/- The program's functions, resolved (printed by a tool). -/
namespace Go.Proofs.Ytgjlkcdnlndlnaa
open Go Go.Proofs.Ytgjlkcdnlndlnaa.Sx
namespace F
noncomputable def PT : Th Program := fun _ => Try.prog

/-! gripsack/gripsacklaw25.DegradeMade -/
abbrev l25_DegradeMade : Nat := 5
def l25_DegradeMade.rc : RC :=
  (.seq (.reg [R.q 10 (.mov R.ff)])
  (.seq (.reg [R.q 17 (.bslice 1 (.cons (R.z 0) .nil) 6 [(0, 1, (R.i 1)), (1, 1, (R.i 3)), (2, 1, (R.i 4)), (3, 1, (R.i 5)), (4, 1, (R.i 6)), (5, 1, (R.i 7))]),
    R.q 18 (.mov (R.t 0)),
    R.q 19 (.bin .rem .no (R.t 18) (R.u 6)),
    R.q 20 (.idx 1 (R.t 17) (R.t 19)),
    R.q 21 (.load1 (R.t 20)),
    R.q 22 (.mov (R.t 1)),
    R.q 23 (.call 33 [(R.t 21), (.val (.str fun _ => [112])), (R.t 22)]),
    R.q 11 (.alloc (.cons (.str fun _ => []) (.cons (R.z 0) (.cons (R.z 0) (.cons (R.z 0) (.cons (R.z 0) (.cons (R.z 0) (.cons (R.z 0) (.cons .nsl (.cons .nsl (.cons .nsl (.cons (R.z 0) (.cons (.int .u64 fun _ => 0) (.cons (.int .u64 fun _ => 0) (.cons .ff (.cons (R.z 0) (.cons (R.z 0) (.cons (.str fun _ => []) (.cons (.str fun _ => []) (.cons (R.z 0) (.cons (R.z 0) .nil))))))))))))))))))))),
    R.e (.store 20 (R.t 11) (R.t 23))])
  (.seq (.reg [R.q 24 (.mov (R.t 2)),
    R.q 25 (.call 34 [(R.t 24)]),
    R.q 12 (.alloc (.cons (R.z 0) (.cons (R.z 0) (.cons .nsl (.cons (R.z 0) .nil))))),
    R.e (.store 4 (R.t 12) (R.t 25))])
  (.seq (.reg [R.q 26 (.mov (R.t 3)),
    R.q 27 (.conv .i64 (R.t 26)),
    R.q 28 (.bin .rem .no (R.t 27) (R.i 128)),
    R.q 29 (.fld 3 (R.t 12)),
    R.e (.store 1 (R.t 29) (R.t 28))])
  (.seq (.reg [R.q 30 (.build (.cons (.str fun _ => []) (.cons (R.z 0) (.cons (R.z 0) .nil))) [(0, 1, (.val (.str fun _ => [112]))), (1, 1, (R.i 1)), (2, 1, (R.i 1))]),
    R.q 31 (.bslice 3 (.cons (.str fun _ => []) (.cons (R.z 0) (.cons (R.z 0) .nil))) 1 [(0, 3, (R.t 30))]),
    R.q 13 (.mov (R.t 31))])
  (.seq (.reg [R.q 32 (.loadA 20 (R.t 11)),
    R.q 33 (.call 25 [(R.t 32)]),
    R.q 14 (.mov (R.t 33))])
  (.seq (.seq (.reg [R.q 15 (.mov (R.i 0))])
  (.block 0 (.loop
     (.seq (.seq (.reg [R.q 34 (.mov (R.t 15)),
       R.q 35 (.mov (R.t 14)),
       R.q 36 (.len (R.t 35)),
       R.q 37 (.bin .lss .no (R.t 34) (R.t 36))])
     (.cond (R.t 37)
       .skip
       (.exit 0)))
     (.seq (.block 1 (.seq (.reg [R.q 40 (.mov (R.t 14)),
        R.q 41 (.mov (R.t 15)),
        R.q 42 (.idx 1 (R.t 40) (R.t 41)),
        R.q 43 (.load1 (R.t 42)),
        R.q 44 (.build (.cons (.str fun _ => []) (.cons (R.z 0) (.cons (R.z 0) .nil))) [(0, 1, (.val (.str fun _ => [112]))), (1, 1, (R.t 43)), (2, 1, (R.i 1))]),
        R.q 16 (.alloc (.cons (.str fun _ => []) (.cons (R.z 0) (.cons (R.z 0) .nil)))),
        R.e (.store 3 (R.t 16) (R.t 44))])
      (.seq (.seq (.reg [R.q 45 (.mov (R.t 15)),
        R.q 46 (.mov (R.t 4)),
        R.q 47 (.len (R.t 46)),
        R.q 48 (.bin .lss .no (R.t 45) (R.t 47))])
      (.cond (R.t 48)
        (.reg [R.q 49 (.mov (R.t 4)),
          R.q 50 (.mov (R.t 15)),
          R.q 51 (.idx 1 (R.t 49) (R.t 50)),
          R.q 52 (.load1 (R.t 51)),
          R.q 53 (.conv .i64 (R.t 52)),
          R.q 54 (.bin .rem .no (R.t 53) (R.i 3)),
          R.q 55 (.bin .add .no (R.i 1) (R.t 54)),
          R.q 56 (.fld 2 (R.t 16)),
          R.e (.store 1 (R.t 56) (R.t 55))])
        .skip))
      (.reg [R.q 57 (.mov (R.t 13)),
        R.q 58 (.loadA 3 (R.t 16)),
        R.q 59 (.bslice 3 (.cons (.str fun _ => []) (.cons (R.z 0) (.cons (R.z 0) .nil))) 1 [(0, 3, (R.t 58))]),
        R.q 60 (.append 3 32 (R.t 57) (R.t 59)),
        R.q 13 (.mov (R.t 60))]))))
     (.reg [R.q 38 (.mov (R.t 15)),
       R.q 39 (.bin .add .no (R.t 38) (R.i 1)),
       R.q 15 (.mov (R.t 39))]))))))
  (.seq (.mark (.regd [R.f (R.q 61 (.loadA 20 (R.t 11))),
    R.f (R.q 62 (.loadA 4 (R.t 12))),
    R.f (R.q 63 (.mov (R.t 13))),
    R.f (R.q 65 (.loadA 20 (R.t 11))),
    R.f (R.q 66 (.loadA 4 (R.t 12))),
    R.f (R.q 67 (.mov (R.t 13))),
    R.s (R.q 64 (.call 31 [(R.t 61), (R.t 62), (R.t 63)])) [3, 4, 5],
    R.s (R.q 68 (.call 32 [(R.t 65), (R.t 66), (R.t 67)])) [],
    R.s (R.q 69 (.call 30 [(R.t 64), (R.t 68)])) [],
    R.f (R.q 70 (.mov (R.t 69))),
    R.s (R.g 71 (.call 29 []) 70 true) [],
    R.f (R.q 72 (.pick (R.t 70) (R.t 71) R.ff)),
    R.s (R.q 10 (.mov (R.t 72))) []]))
  .ret))))))))
def l25_DegradeMade.rs : List RRes := [.tmp 10]
theorem l25_DegradeMade.of {xs : List AV} {d : Nat} {B : BL} {K : ARes → BL → Prop} (hn : xs.length = 5) (hB : onlyOuter B = true) (h : awp ⟨PT, 73, exitX l25_DegradeMade.rs K⟩ 10000 [.code l25_DegradeMade.rc] ⟨params 0 xs, B, .nil⟩) : CallAt PT l25_DegradeMade xs d B K :=
  call_of_awp 10000 Try.func5 rfl (by kernel_rfl) (by kernel_rfl) (by kernel_rfl) (by rw [hn]; decide) hB h

/-! gripsack/gripsacklaw25.DegradeFull -/
abbrev l25_DegradeFull : Nat := 6
def l25_DegradeFull.rc : RC :=
  (.seq (.reg [R.q 8 (.mov R.ff)])
  (.seq (.reg [R.q 17 (.bslice 1 (.cons (R.z 0) .nil) 6 [(0, 1, (R.i 1)), (1, 1, (R.i 3)), (2, 1, (R.i 4)), (3, 1, (R.i 5)), (4, 1, (R.i 6)), (5, 1, (R.i 7))]),
    R.q 18 (.mov (R.t 0)),
    R.q 19 (.bin .rem .no (R.t 18) (R.u 6)),
    R.q 20 (.idx 1 (R.t 17) (R.t 19)),
    R.q 21 (.load1 (R.t 20)),
    R.q 9 (.mov (R.t 21))])
  (.seq (.reg [R.q 22 (.mov (R.t 9)),
    R.q 23 (.mov (R.t 1)),
    R.q 24 (.call 33 [(R.t 22), (.val (.str fun _ => [112])), (R.t 23)]),
    R.q 10 (.alloc (.cons (.str fun _ => []) (.cons (R.z 0) (.cons (R.z 0) (.cons (R.z 0) (.cons (R.z 0) (.cons (R.z 0) (.cons (R.z 0) (.cons .nsl (.cons .nsl (.cons .nsl (.cons (R.z 0) (.cons (.int .u64 fun _ => 0) (.cons (.int .u64 fun _ => 0) (.cons .ff (.cons (R.z 0) (.cons (R.z 0) (.cons (.str fun _ => []) (.cons (.str fun _ => []) (.cons (R.z 0) (.cons (R.z 0) .nil))))))))))))))))))))),
    R.e (.store 20 (R.t 10) (R.t 24))])
  (.seq (.reg [R.q 25 (.mov (R.t 2)),
    R.q 26 (.call 34 [(R.t 25)]),
    R.q 11 (.alloc (.cons (R.z 0) (.cons (R.z 0) (.cons .nsl (.cons (R.z 0) .nil))))),
    R.e (.store 4 (R.t 11) (R.t 26))])
  (.seq (.reg [R.q 27 (.mov (R.t 3)),
    R.q 28 (.conv .i64 (R.t 27)),
    R.q 29 (.bin .rem .no (R.t 28) (R.i 128)),
    R.q 30 (.bin .or .no (R.t 29) (R.i 4)),
    R.q 31 (.fld 3 (R.t 11)),
    R.e (.store 1 (R.t 31) (R.t 30))])
  (.seq (.reg [R.q 32 (.build (.cons (.str fun _ => []) (.cons (R.z 0) (.cons (R.z 0) .nil))) [(0, 1, (.val (.str fun _ => [112]))), (1, 1, (R.i 1)), (2, 1, (R.i 1))]),
    R.q 33 (.bslice 3 (.cons (.str fun _ => []) (.cons (R.z 0) (.cons (R.z 0) .nil))) 1 [(0, 3, (R.t 32))]),
    R.q 12 (.mov (R.t 33))])
  (.seq (.reg [R.q 34 (.build (.cons (.str fun _ => []) (.cons (R.z 0) (.cons (R.z 0) .nil))) [(0, 1, (.val (.str fun _ => [112]))), (1, 1, (R.i 1)), (2, 1, (R.i 1))]),
    R.q 35 (.bslice 3 (.cons (.str fun _ => []) (.cons (R.z 0) (.cons (R.z 0) .nil))) 1 [(0, 3, (R.t 34))]),
    R.q 13 (.mov (R.t 35))])
  (.seq (.reg [R.q 36 (.loadA 20 (R.t 10)),
    R.q 37 (.call 25 [(R.t 36)]),
    R.q 14 (.mov (R.t 37))])
  (.seq (.seq (.reg [R.q 15 (.mov (R.i 0))])
  (.block 0 (.loop
     (.seq (.seq (.reg [R.q 38 (.mov (R.t 15)),
       R.q 39 (.mov (R.t 14)),
       R.q 40 (.len (R.t 39)),
       R.q 41 (.bin .lss .no (R.t 38) (R.t 40))])
     (.cond (R.t 41)
       .skip
       (.exit 0)))
     (.seq (.block 1 (.seq (.reg [R.q 44 (.mov (R.t 12)),
        R.q 45 (.mov (R.t 14)),
        R.q 46 (.mov (R.t 15)),
        R.q 47 (.idx 1 (R.t 45) (R.t 46)),
        R.q 48 (.load1 (R.t 47)),
        R.q 49 (.build (.cons (.str fun _ => []) (.cons (R.z 0) (.cons (R.z 0) .nil))) [(0, 1, (.val (.str fun _ => [112]))), (1, 1, (R.t 48)), (2, 1, (R.i 1))]),
        R.q 50 (.bslice 3 (.cons (.str fun _ => []) (.cons (R.z 0) (.cons (R.z 0) .nil))) 1 [(0, 3, (R.t 49))]),
        R.q 51 (.append 3 32 (R.t 44) (R.t 50)),
        R.q 12 (.mov (R.t 51))])
      (.reg [R.q 52 (.mov (R.t 13)),
        R.q 53 (.mov (R.t 14)),
        R.q 54 (.mov (R.t 15)),
        R.q 55 (.idx 1 (R.t 53) (R.t 54)),
        R.q 56 (.load1 (R.t 55)),
        R.q 57 (.build (.cons (.str fun _ => []) (.cons (R.z 0) (.cons (R.z 0) .nil))) [(0, 1, (.val (.str fun _ => [112]))), (1, 1, (R.t 56)), (2, 1, (R.i 3))]),
        R.q 58 (.bslice 3 (.cons (.str fun _ => []) (.cons (R.z 0) (.cons (R.z 0) .nil))) 1 [(0, 3, (R.t 57))]),
        R.q 59 (.append 3 32 (R.t 52) (R.t 58)),
        R.q 13 (.mov (R.t 59))])))
     (.reg [R.q 42 (.mov (R.t 15)),
       R.q 43 (.bin .add .no (R.t 42) (R.i 1)),
       R.q 15 (.mov (R.t 43))]))))))
  (.seq (.reg [R.q 60 (.loadA 20 (R.t 10)),
    R.q 61 (.loadA 4 (R.t 11)),
    R.q 62 (.mov (R.t 13)),
    R.q 63 (.call 31 [(R.t 60), (R.t 61), (R.t 62)]),
    R.q 16 (.alloc (.cons (R.z 0) (.cons (R.z 0) (.cons (R.z 0) (.cons (R.z 0) (.cons (R.z 0) (.cons .nsl (.cons .nsl (.cons .nsl (.cons (R.z 0) (.cons (.int .u64 fun _ => 0) (.cons (.int .u64 fun _ => 0) (.cons .ff (.cons (R.z 0) (.cons (R.z 0) .nil))))))))))))))),
    R.e (.store 14 (R.t 16) (R.t 63))])
  (.seq (.mark (.regd [R.f (R.q 64 (.loadA 20 (R.t 10))),
    R.f (R.q 65 (.loadA 4 (R.t 11))),
    R.f (R.q 66 (.mov (R.t 12))),
    R.f (R.q 68 (.fld 2 (R.t 10))),
    R.f (R.q 69 (.loadA 14 (R.t 68))),
    R.s (R.q 67 (.call 31 [(R.t 64), (R.t 65), (R.t 66)])) [3, 4],
    R.s (R.q 70 (.call 30 [(R.t 67), (R.t 69)])) [],
    R.f (R.q 71 (.mov (R.t 70))),
    R.f (R.g 72 (.loadA 14 (R.t 16)) 71 true),
    R.f (R.g 73 (.mov (R.t 9)) 71 true),
    R.f (R.g 75 (.fld 0 (R.t 11)) 71 true),
    R.f (R.g 76 (.load1 (R.t 75)) 71 true),
    R.f (R.g 77 (.fld 1 (R.t 11)) 71 true),
    R.f (R.g 78 (.load1 (R.t 77)) 71 true),
    R.s (R.g 74 (.call 16 [(R.t 73)]) 71 true) [8, 10, 11, 12, 13],
    R.s (R.g 79 (.call 35 [(R.t 74), (R.t 76), (R.t 78)]) 71 true) [8],
    R.s (R.g 80 (.call 30 [(R.t 72), (R.t 79)]) 71 true) [],
    R.f (R.q 81 (.pick (R.t 71) (R.t 80) R.ff)),
    R.f (R.q 82 (.mov (R.t 81))),
    R.f (R.g 83 (.mov (R.t 1)) 82 true),
    R.f (R.g 84 (.mov (R.t 9)) 82 true),
    R.f (R.g 86 (.mov (R.t 9)) 82 true),
    R.s (R.g 85 (.call 37 [(R.t 83), (R.t 84)]) 82 true) [21],
    R.s (R.g 87 (.call 36 [(R.t 85), (R.t 86)]) 82 true) [],
    R.f (R.q 88 (.pick (R.t 82) (R.t 87) R.ff)),
    R.f (R.q 89 (.mov (R.t 88))),
    R.s (R.g 90 (.call 29 []) 89 true) [],
    R.f (R.q 91 (.pick (R.t 89) (R.t 90) R.ff)),
    R.s (R.q 8 (.mov (R.t 91))) []]))
  .ret)))))))))))
def l25_DegradeFull.rs : List RRes := [.tmp 8]
theorem l25_DegradeFull.of {xs : List AV} {d : Nat} {B : BL} {K : ARes → BL → Prop} (hn : xs.length = 4) (hB : onlyOuter B = true) (h : awp ⟨PT, 92, exitX l25_DegradeFull.rs K⟩ 10000 [.code l25_DegradeFull.rc] ⟨params 0 xs, B, .nil⟩) : CallAt PT l25_DegradeFull xs d B K :=
  call_of_awp 10000 Try.func6 rfl (by kernel_rfl) (by kernel_rfl) (by kernel_rfl) (by rw [hn]; decide) hB h

/-! gripsack/gripsacklaw25.DegradeLast -/
abbrev l25_DegradeLast : Nat := 7
def l25_DegradeLast.rc : RC :=
  (.seq (.reg [R.q 4 (.mov R.ff)])
  (.seq (.reg [R.q 5 (.mov (.val .nsl))])
  (.seq (.reg [R.q 6 (.mov (R.i 0))])
  (.seq (.seq (.reg [R.q 7 (.mov (R.i 0))])
  (.block 0 (.loop
     (.seq (.seq (.reg [R.q 12 (.mov (R.t 7)),
       R.q 13 (.mov (R.t 0)),
       R.q 14 (.len (R.t 13)),
       R.q 15 (.bin .lss .no (R.t 12) (R.t 14)),
       R.q 16 (.mov (R.t 15)),
       R.g 17 (.mov (R.t 7)) 16 true,
       R.g 18 (.bin .lss .no (R.t 17) (R.i 40)) 16 true,
       R.q 19 (.pick (R.t 16) (R.t 18) R.ff)])
     (.cond (R.t 19)
       .skip
       (.exit 0)))
     (.seq (.block 1 (.seq (.regd [R.f (R.q 22 (.bslice 1 (.cons (.str fun _ => []) .nil) 3 [(0, 1, (.val (.str fun _ => [112]))), (1, 1, (.val (.str fun _ => [113]))), (2, 1, (.val (.str fun _ => [112, 47, 113])))])),
        R.f (R.q 23 (.mov (R.t 0))),
        R.f (R.q 24 (.mov (R.t 7))),
        R.f (R.q 25 (.idx 1 (R.t 23) (R.t 24))),
        R.f (R.q 26 (.load1 (R.t 25))),
        R.f (R.q 27 (.bin .rem .no (R.t 26) (R.u 3))),
        R.f (R.q 28 (.idx 1 (R.t 22) (R.t 27))),
        R.f (R.q 29 (.load1 (R.t 28))),
        R.f (R.q 30 (.mov (R.t 0))),
        R.f (R.q 31 (.mov (R.t 7))),
        R.f (R.q 32 (.idx 1 (R.t 30) (R.t 31))),
        R.f (R.q 33 (.load1 (R.t 32))),
        R.f (R.q 34 (.conv .i64 (R.t 33))),
        R.f (R.q 35 (.bin .quo .no (R.t 34) (R.i 3))),
        R.f (R.q 36 (.bin .rem .no (R.t 35) (R.i 4))),
        R.f (R.q 37 (.bin .add .no (R.i 1) (R.t 36))),
        R.f (R.q 38 (.mov (R.t 0))),
        R.f (R.q 39 (.mov (R.t 7))),
        R.f (R.q 40 (.idx 1 (R.t 38) (R.t 39))),
        R.f (R.q 41 (.load1 (R.t 40))),
        R.f (R.q 42 (.conv .i64 (R.t 41))),
        R.f (R.q 43 (.bin .quo .no (R.t 42) (R.i 12))),
        R.f (R.q 44 (.bin .rem .no (R.t 43) (R.i 4))),
        R.f (R.q 45 (.bin .add .no (R.i 1) (R.t 44))),
        R.f (R.q 46 (.build (.cons (.str fun _ => []) (.cons (R.z 0) (.cons (R.z 0) .nil))) [(0, 1, (R.t 29)), (1, 1, (R.t 37)), (2, 1, (R.t 45))])),
        R.f (R.q 8 (.alloc (.cons (.str fun _ => []) (.cons (R.z 0) (.cons (R.z 0) .nil))))),
        R.s (R.e (.store 3 (R.t 8) (R.t 46))) []])
      (.seq (.reg [R.q 47 (.mov (R.t 5)),
        R.q 48 (.loadA 3 (R.t 8)),
        R.q 49 (.bslice 3 (.cons (.str fun _ => []) (.cons (R.z 0) (.cons (R.z 0) .nil))) 1 [(0, 3, (R.t 48))]),
        R.q 50 (.append 3 32 (R.t 47) (R.t 49)),
        R.q 5 (.mov (R.t 50))])
      (.seq (.reg [R.q 51 (.fld 0 (R.t 8)),
        R.q 52 (.load1 (R.t 51)),
        R.q 53 (.bin .eql .no (R.t 52) (.val (.str fun _ => [112]))),
        R.q 54 (.mov (R.t 53)),
        R.g 55 (.fld 1 (R.t 8)) 54 true,
        R.g 56 (.load1 (R.t 55)) 54 true,
        R.g 57 (.bin .eql .no (R.t 56) (R.i 2)) 54 true,
        R.q 58 (.pick (R.t 54) (R.t 57) R.ff)])
      (.cond (R.t 58)
        (.reg [R.q 59 (.fld 2 (R.t 8)),
          R.q 60 (.load1 (R.t 59)),
          R.q 6 (.mov (R.t 60))])
        .skip)))))
     (.reg [R.q 20 (.mov (R.t 7)),
       R.q 21 (.bin .add .no (R.t 20) (R.i 1)),
       R.q 7 (.mov (R.t 21))]))))))
  (.seq (.reg [R.q 61 (.bslice 3 (.cons (.str fun _ => []) (.cons (R.z 0) (.cons (R.z 0) .nil))) 0 []),
    R.q 62 (.mov (R.t 5)),
    R.q 63 (.append 3 32 (R.t 61) (R.t 62)),
    R.q 64 (.build (.cons (.str fun _ => []) (.cons (R.z 0) (.cons (R.z 0) .nil))) [(0, 1, (.val (.str fun _ => [113]))), (1, 1, (R.i 2)), (2, 1, (R.i 4))]),
    R.q 65 (.build (.cons (.str fun _ => []) (.cons (R.z 0) (.cons (R.z 0) .nil))) [(0, 1, (.val (.str fun _ => [112]))), (1, 1, (R.i 9)), (2, 1, (R.i 4))]),
    R.q 66 (.bslice 3 (.cons (.str fun _ => []) (.cons (R.z 0) (.cons (R.z 0) .nil))) 2 [(0, 3, (R.t 64)), (3, 3, (R.t 65))]),
    R.q 67 (.append 3 32 (R.t 63) (R.t 66)),
    R.q 9 (.mov (R.t 67))])
  (.seq (.reg [R.q 68 (.mov (R.t 1)),
    R.q 69 (.conv .i64 (R.t 68)),
    R.q 70 (.bin .rem .no (R.t 69) (R.i 4)),
    R.q 71 (.bin .add .no (R.i 1) (R.t 70)),
    R.q 10 (.mov (R.t 71))])
  (.seq (.reg [R.q 72 (.bslice 3 (.cons (.str fun _ => []) (.cons (R.z 0) (.cons (R.z 0) .nil))) 0 []),
    R.q 73 (.mov (R.t 5)),
    R.q 74 (.append 3 32 (R.t 72) (R.t 73)),
    R.q 75 (.mov (R.t 10)),
    R.q 76 (.build (.cons (.str fun _ => []) (.cons (R.z 0) (.cons (R.z 0) .nil))) [(0, 1, (.val (.str fun _ => [112]))), (1, 1, (R.i 2)), (2, 1, (R.t 75))]),
    R.q 77 (.bslice 3 (.cons (.str fun _ => []) (.cons (R.z 0) (.cons (R.z 0) .nil))) 1 [(0, 3, (R.t 76))]),
    R.q 78 (.append 3 32 (R.t 74) (R.t 77)),
    R.q 11 (.mov (R.t 78))])
  (.seq (.reg [R.q 79 (.mov (R.t 5)),
    R.q 80 (.call 27 [(R.t 79), (.val (.str fun _ => [112])), (R.i 2)]),
    R.q 81 (.mov (R.t 6)),
    R.q 82 (.bin .eql .no (R.t 80) (R.t 81)),
    R.q 83 (.mov (R.t 82)),
    R.g 84 (.mov (R.t 9)) 83 true,
    R.g 85 (.call 27 [(R.t 84), (.val (.str fun _ => [112])), (R.i 2)]) 83 true,
    R.g 86 (.mov (R.t 6)) 83 true,
    R.g 87 (.bin .eql .no (R.t 85) (R.t 86)) 83 true,
    R.q 88 (.pick (R.t 83) (R.t 87) R.ff),
    R.q 89 (.mov (R.t 88)),
    R.g 90 (.mov (R.t 11)) 89 true,
    R.g 91 (.call 27 [(R.t 90), (.val (.str fun _ => [112])), (R.i 2)]) 89 true,
    R.g 92 (.mov (R.t 10)) 89 true,
    R.g 93 (.bin .eql .no (R.t 91) (R.t 92)) 89 true,
    R.q 94 (.pick (R.t 89) (R.t 93) R.ff),
    R.q 95 (.mov (R.t 94)),
    R.g 96 (.mov (R.t 5)) 95 true,
    R.g 97 (.call 27 [(R.t 96), (.val (.str fun _ => [110, 111, 110, 101])), (R.i 2)]) 95 true,
    R.g 98 (.bin .eql .no (R.t 97) (R.i 0)) 95 true,
    R.q 99 (.pick (R.t 95) (R.t 98) R.ff),
    R.q 100 (.mov (R.t 99)),
    R.g 101 (.call 29 []) 100 true,
    R.q 102 (.pick (R.t 100) (R.t 101) R.ff),
    R.q 4 (.mov (R.t 102))])
  .ret))))))))
def l25_DegradeLast.rs : List RRes := [.tmp 4]
theorem l25_DegradeLast.of {xs : List AV} {d : Nat} {B : BL} {K : ARes → BL → Prop} (hn : xs.length = 2) (hB : onlyOuter B = true) (h : awp ⟨PT, 103, exitX l25_DegradeLast.rs K⟩ 10000 [.code l25_DegradeLast.rc] ⟨params 0 xs, B, .nil⟩) : CallAt PT l25_DegradeLast xs d B K :=
  call_of_awp 10000 Try.func7 rfl (by kernel_rfl) (by kernel_rfl) (by kernel_rfl) (by rw [hn]; decide) hB h

/-! gripsack/gripsacklaw25.DegradeParts -/
abbrev l25_DegradeParts : Nat := 8
def l25_DegradeParts.rc : RC :=
  (.seq (.reg [R.q 4 (.mov R.ff)])
  (.seq (.reg [R.q 18 (.mov (R.t 0)),
    R.q 19 (.call 33 [(R.i 1), (.val (.str fun _ => [112])), (R.t 18)]),
    R.q 5 (.alloc (.cons (.str fun _ => []) (.cons (R.z 0) (.cons (R.z 0) (.cons (R.z 0) (.cons (R.z 0) (.cons (R.z 0) (.cons (R.z 0) (.cons .nsl (.cons .nsl (.cons .nsl (.cons (R.z 0) (.cons (.int .u64 fun _ => 0) (.cons (.int .u64 fun _ => 0) (.cons .ff (.cons (R.z 0) (.cons (R.z 0) (.cons (.str fun _ => []) (.cons (.str fun _ => []) (.cons (R.z 0) (.cons (R.z 0) .nil))))))))))))))))))))),
    R.e (.store 20 (R.t 5) (R.t 19))])
  (.seq (.reg [R.q 20 (.mov (R.t 1)),
    R.q 21 (.conv .i64 (R.t 20)),
    R.q 22 (.bin .add .no (R.i 50) (R.t 21)),
    R.q 23 (.build (.cons (R.z 0) (.cons (R.z 0) (.cons .nsl (.cons (R.z 0) .nil)))) [(0, 1, (R.t 22)), (1, 1, (R.i 50)), (3, 1, (R.i 4))]),
    R.q 6 (.alloc (.cons (R.z 0) (.cons (R.z 0) (.cons .nsl (.cons (R.z 0) .nil))))),
    R.e (.store 4 (R.t 6) (R.t 23))])
  (.seq (.reg [R.q 24 (.build (.cons (.str fun _ => []) (.cons (R.z 0) (.cons (R.z 0) .nil))) [(0, 1, (.val (.str fun _ => [112]))), (1, 1, (R.i 1)), (2, 1, (R.i 1))]),
    R.q 25 (.bslice 3 (.cons (.str fun _ => []) (.cons (R.z 0) (.cons (R.z 0) .nil))) 1 [(0, 3, (R.t 24))]),
    R.q 7 (.mov (R.t 25))])
  (.seq (.reg [R.q 26 (.loadA 20 (R.t 5)),
    R.q 27 (.loadA 4 (R.t 6)),
    R.q 28 (.mov (R.t 7)),
    R.q 29 (.call 31 [(R.t 26), (R.t 27), (R.t 28)]),
    R.q 8 (.alloc (.cons (R.z 0) (.cons (R.z 0) (.cons (R.z 0) (.cons (R.z 0) (.cons (R.z 0) (.cons .nsl (.cons .nsl (.cons .nsl (.cons (R.z 0) (.cons (.int .u64 fun _ => 0) (.cons (.int .u64 fun _ => 0) (.cons .ff (.cons (R.z 0) (.cons (R.z 0) .nil))))))))))))))),
    R.e (.store 14 (R.t 8) (R.t 29))])
  (.seq (.regd [R.f (R.q 30 (.loadA 20 (R.t 5))),
    R.f (R.q 31 (.loadA 4 (R.t 6))),
    R.f (R.q 32 (.mov (R.t 7))),
    R.f (R.q 33 (.build (.cons (.str fun _ => []) (.cons (R.z 0) (.cons (R.z 0) .nil))) [(0, 1, (.val (.str fun _ => [112]))), (1, 1, (R.i 8)), (2, 1, (R.i 1))])),
    R.f (R.q 34 (.bslice 3 (.cons (.str fun _ => []) (.cons (R.z 0) (.cons (R.z 0) .nil))) 1 [(0, 3, (R.t 33))])),
    R.f (R.q 9 (.alloc (.cons (R.z 0) (.cons (R.z 0) (.cons (R.z 0) (.cons (R.z 0) (.cons (R.z 0) (.cons .nsl (.cons .nsl (.cons .nsl (.cons (R.z 0) (.cons (.int .u64 fun _ => 0) (.cons (.int .u64 fun _ => 0) (.cons .ff (.cons (R.z 0) (.cons (R.z 0) .nil)))))))))))))))),
    R.s (R.q 35 (.append 3 32 (R.t 32) (R.t 34))) [0, 1, 5],
    R.s (R.q 36 (.call 31 [(R.t 30), (R.t 31), (R.t 35)])) [5],
    R.s (R.e (.store 14 (R.t 9) (R.t 36))) []])
  (.seq (.regd [R.f (R.q 37 (.loadA 20 (R.t 5))),
    R.f (R.q 38 (.loadA 4 (R.t 6))),
    R.f (R.q 39 (.bslice 3 (.cons (.str fun _ => []) (.cons (R.z 0) (.cons (R.z 0) .nil))) 0 [])),
    R.f (R.q 40 (.mov (R.t 7))),
    R.f (R.q 42 (.build (.cons (.str fun _ => []) (.cons (R.z 0) (.cons (R.z 0) .nil))) [(0, 1, (.val (.str fun _ => [112]))), (1, 1, (R.i 2)), (2, 1, (R.i 1))])),
    R.f (R.q 43 (.bslice 3 (.cons (.str fun _ => []) (.cons (R.z 0) (.cons (R.z 0) .nil))) 1 [(0, 3, (R.t 42))])),
    R.f (R.q 10 (.alloc (.cons (R.z 0) (.cons (R.z 0) (.cons (R.z 0) (.cons (R.z 0) (.cons (R.z 0) (.cons .nsl (.cons .nsl (.cons .nsl (.cons (R.z 0) (.cons (.int .u64 fun _ => 0) (.cons (.int .u64 fun _ => 0) (.cons .ff (.cons (R.z 0) (.cons (R.z 0) .nil)))))))))))))))),
    R.s (R.q 41 (.append 3 32 (R.t 39) (R.t 40))) [0, 1, 4, 5, 6],
    R.s (R.q 44 (.append 3 32 (R.t 41) (R.t 43))) [0, 1, 6],
    R.s (R.q 45 (.call 31 [(R.t 37), (R.t 38), (R.t 44)])) [6],
    R.s (R.e (.store 14 (R.t 10) (R.t 45))) []])
  (.seq (.regd [R.f (R.q 46 (.loadA 20 (R.t 5))),
    R.f (R.q 47 (.loadA 4 (R.t 6))),
    R.f (R.q 48 (.bslice 3 (.cons (.str fun _ => []) (.cons (R.z 0) (.cons (R.z 0) .nil))) 0 [])),
    R.f (R.q 49 (.mov (R.t 7))),
    R.f (R.q 51 (.build (.cons (.str fun _ => []) (.cons (R.z 0) (.cons (R.z 0) .nil))) [(0, 1, (.val (.str fun _ => [112]))), (1, 1, (R.i 7)), (2, 1, (R.i 1))])),
    R.f (R.q 52 (.bslice 3 (.cons (.str fun _ => []) (.cons (R.z 0) (.cons (R.z 0) .nil))) 1 [(0, 3, (R.t 51))])),
    R.f (R.q 11 (.alloc (.cons (R.z 0) (.cons (R.z 0) (.cons (R.z 0) (.cons (R.z 0) (.cons (R.z 0) (.cons .nsl (.cons .nsl (.cons .nsl (.cons (R.z 0) (.cons (.int .u64 fun _ => 0) (.cons (.int .u64 fun _ => 0) (.cons .ff (.cons (R.z 0) (.cons (R.z 0) .nil)))))))))))))))),
    R.s (R.q 50 (.append 3 32 (R.t 48) (R.t 49))) [0, 1, 4, 5, 6],
    R.s (R.q 53 (.append 3 32 (R.t 50) (R.t 52))) [0, 1, 6],
    R.s (R.q 54 (.call 31 [(R.t 46), (R.t 47), (R.t 53)])) [6],
    R.s (R.e (.store 14 (R.t 11) (R.t 54))) []])
  (.seq (.regd [R.f (R.q 55 (.loadA 20 (R.t 5))),
    R.f (R.q 56 (.loadA 4 (R.t 6))),
    R.f (R.q 57 (.bslice 3 (.cons (.str fun _ => []) (.cons (R.z 0) (.cons (R.z 0) .nil))) 0 [])),
    R.f (R.q 58 (.mov (R.t 7))),
    R.f (R.q 60 (.build (.cons (.str fun _ => []) (.cons (R.z 0) (.cons (R.z 0) .nil))) [(0, 1, (.val (.str fun _ => [112]))), (1, 1, (R.i 3)), (2, 1, (R.i 2))])),
    R.f (R.q 61 (.bslice 3 (.cons (.str fun _ => []) (.cons (R.z 0) (.cons (R.z 0) .nil))) 1 [(0, 3, (R.t 60))])),
    R.f (R.q 12 (.alloc (.cons (R.z 0) (.cons (R.z 0) (.cons (R.z 0) (.cons (R.z 0) (.cons (R.z 0) (.cons .nsl (.cons .nsl (.cons .nsl (.cons (R.z 0) (.cons (.int .u64 fun _ => 0) (.cons (.int .u64 fun _ => 0) (.cons .ff (.cons (R.z 0) (.cons (R.z 0) .nil)))))))))))))))),
    R.s (R.q 59 (.append 3 32 (R.t 57) (R.t 58))) [0, 1, 4, 5, 6],
    R.s (R.q 62 (.append 3 32 (R.t 59) (R.t 61))) [0, 1, 6],
    R.s (R.q 63 (.call 31 [(R.t 55), (R.t 56), (R.t 62)])) [6],
    R.s (R.e (.store 14 (R.t 12) (R.t 63))) []])
  (.seq (.reg [R.q 64 (.fld 0 (R.t 6)),
    R.q 65 (.load1 (R.t 64)),
    R.q 66 (.call 35 [(R.i 0), (R.t 65), (R.i 50)]),
    R.q 13 (.alloc (.cons (R.z 0) (.cons (R.z 0) (.cons (R.z 0) (.cons (R.z 0) (.cons (R.z 0) (.cons .nsl (.cons .nsl (.cons .nsl (.cons (R.z 0) (.cons (.int .u64 fun _ => 0) (.cons (.int .u64 fun _ => 0) (.cons .ff (.cons (R.z 0) (.cons (R.z 0) .nil))))))))))))))),
    R.e (.store 14 (R.t 13) (R.t 66))])
  (.seq (.seq (.reg [R.q 67 (.loadA 14 (R.t 8)),
    R.q 68 (.loadA 14 (R.t 13)),
    R.q 69 (.call 30 [(R.t 67), (R.t 68)]),
    R.q 70 (.un .not (R.t 69))])
  (.cond (R.t 70)
    (.seq (.reg [R.q 4 (.mov R.ff)])
    .ret)
    .skip))
  (.seq (.regd [R.f (R.q 71 (.loadA 14 (R.t 13))),
    R.f (R.q 72 (.loadA 14 (R.t 13))),
    R.f (R.q 73 (.loadA 14 (R.t 13))),
    R.f (R.q 74 (.loadA 14 (R.t 13))),
    R.f (R.q 14 (.alloc (.cons (R.z 0) (.cons (R.z 0) (.cons (R.z 0) (.cons (R.z 0) (.cons (R.z 0) (.cons .nsl (.cons .nsl (.cons .nsl (.cons (R.z 0) (.cons (.int .u64 fun _ => 0) (.cons (.int .u64 fun _ => 0) (.cons .ff (.cons (R.z 0) (.cons (R.z 0) .nil)))))))))))))))),
    R.f (R.q 15 (.alloc (.cons (R.z 0) (.cons (R.z 0) (.cons (R.z 0) (.cons (R.z 0) (.cons (R.z 0) (.cons .nsl (.cons .nsl (.cons .nsl (.cons (R.z 0) (.cons (.int .u64 fun _ => 0) (.cons (.int .u64 fun _ => 0) (.cons .ff (.cons (R.z 0) (.cons (R.z 0) .nil)))))))))))))))),
    R.f (R.q 16 (.alloc (.cons (R.z 0) (.cons (R.z 0) (.cons (R.z 0) (.cons (R.z 0) (.cons (R.z 0) (.cons .nsl (.cons .nsl (.cons .nsl (.cons (R.z 0) (.cons (.int .u64 fun _ => 0) (.cons (.int .u64 fun _ => 0) (.cons .ff (.cons (R.z 0) (.cons (R.z 0) .nil)))))))))))))))),
    R.f (R.q 17 (.alloc (.cons (R.z 0) (.cons (R.z 0) (.cons (R.z 0) (.cons (R.z 0) (.cons (R.z 0) (.cons .nsl (.cons .nsl (.cons .nsl (.cons (R.z 0) (.cons (.int .u64 fun _ => 0) (.cons (.int .u64 fun _ => 0) (.cons .ff (.cons (R.z 0) (.cons (R.z 0) .nil)))))))))))))))),
    R.s (R.e (.store 14 (R.t 14) (R.t 71))) [1, 2, 3],
    R.s (R.e (.store 14 (R.t 15) (R.t 72))) [2, 3],
    R.s (R.e (.store 14 (R.t 16) (R.t 73))) [3],
    R.s (R.e (.store 14 (R.t 17) (R.t 74))) []])
  (.seq (.reg [R.q 75 (.fld 2 (R.t 5)),
    R.q 76 (.fld 3 (R.t 75)),
    R.q 77 (.loadA 2 (R.t 76)),
    R.q 78 (.fld 3 (R.t 14)),
    R.e (.store 2 (R.t 78) (R.t 77))])
  (.seq (.reg [R.q 79 (.fld 2 (R.t 5)),
    R.q 80 (.fld 1 (R.t 79)),
    R.q 81 (.load1 (R.t 80)),
    R.q 82 (.fld 1 (R.t 15)),
    R.e (.store 1 (R.t 82) (R.t 81))])
  (.seq (.reg [R.q 83 (.fld 2 (R.t 5)),
    R.q 84 (.fld 2 (R.t 83)),
    R.q 85 (.load1 (R.t 84)),
    R.q 86 (.fld 2 (R.t 15)),
    R.e (.store 1 (R.t 86) (R.t 85))])
  (.seq (.reg [R.q 87 (.fld 2 (R.t 5)),
    R.q 88 (.fld 8 (R.t 87)),
    R.q 89 (.loadA 5 (R.t 88)),
    R.q 90 (.fld 8 (R.t 16)),
    R.e (.store 5 (R.t 90) (R.t 89))])
  (.seq (.reg [R.q 91 (.fld 2 (R.t 5)),
    R.q 92 (.fld 0 (R.t 91)),
    R.q 93 (.load1 (R.t 92)),
    R.q 94 (.bin .and .no (R.t 93) (R.i 448)),
    R.q 95 (.fld 0 (R.t 17)),
    R.e (.store 1 (R.t 95) (R.t 94))])
  (.seq (.reg [R.q 96 (.loadA 14 (R.t 9)),
    R.q 97 (.loadA 14 (R.t 14)),
    R.q 98 (.call 30 [(R.t 96), (R.t 97)]),
    R.q 99 (.mov (R.t 98)),
    R.g 100 (.loadA 14 (R.t 10)) 99 true,
    R.g 101 (.loadA 14 (R.t 15)) 99 true,
    R.g 102 (.call 30 [(R.t 100), (R.t 101)]) 99 true,
    R.q 103 (.pick (R.t 99) (R.t 102) R.ff),
    R.q 104 (.mov (R.t 103)),
    R.g 105 (.loadA 14 (R.t 11)) 104 true,
    R.g 106 (.loadA 14 (R.t 16)) 104 true,
    R.g 107 (.call 30 [(R.t 105), (R.t 106)]) 104 true,
    R.q 108 (.pick (R.t 104) (R.t 107) R.ff),
    R.q 109 (.mov (R.t 108)),
    R.g 110 (.loadA 14 (R.t 12)) 109 true,
    R.g 111 (.loadA 14 (R.t 17)) 109 true,
    R.g 112 (.call 30 [(R.t 110), (R.t 111)]) 109 true,
    R.q 113 (.pick (R.t 109) (R.t 112) R.ff),
    R.q 114 (.mov (R.t 113)),
    R.g 115 (.call 29 []) 114 true,
    R.q 116 (.pick (R.t 114) (R.t 115) R.ff),
    R.q 4 (.mov (R.t 116))])
  .ret))))))))))))))))))
def l25_DegradeParts.rs : List RRes := [.tmp 4]
theorem l25_DegradeParts.of {xs : List AV} {d : Nat} {B : BL} {K : ARes → BL → Prop} (hn : xs.length = 2) (hB : onlyOuter B = true) (h : awp ⟨PT, 117, exitX l25_DegradeParts.rs K⟩ 10000 [.code l25_DegradeParts.rc] ⟨params 0 xs, B, .nil⟩) : CallAt PT l25_DegradeParts xs d B K :=
  call_of_awp 10000 Try.func8 rfl (by kernel_rfl) (by kernel_rfl) (by kernel_rfl) (by rw [hn]; decide) hB h

/-! gripsack/plan.Stage -/
abbrev plan_Stage : Nat := 15
def plan_Stage.rc : RC :=
  (.seq (.reg [R.q 2 (.mov (R.i 0))])
  (.seq (.seq (.reg [R.q 3 (.mov (R.t 0))])
  (.block 0 (.seq (.reg [R.q 5 (.bin .eql .no (R.t 3) (R.i 6)),
     R.q 4 (.mov (R.t 5))])
   (.cond (R.t 4)
     (.seq (.reg [R.q 2 (.mov (R.i 448))])
     .ret)
     (.seq (.reg [R.q 7 (.bin .eql .no (R.t 3) (R.i 3)),
       R.q 6 (.mov (R.t 7))])
     (.cond (R.t 6)
       (.seq (.reg [R.q 2 (.mov (R.i 511))])
       .ret)
       .skip))))))
  (.seq (.reg [R.q 2 (.mov (R.i 0))])
  .ret)))
def plan_Stage.rs : List RRes := [.tmp 2]
theorem plan_Stage.of {xs : List AV} {d : Nat} {B : BL} {K : ARes → BL → Prop} (hn : xs.length = 1) (hB : onlyOuter B = true) (h : awp ⟨PT, 8, exitX plan_Stage.rs K⟩ 10000 [.code plan_Stage.rc] ⟨params 0 xs, B, .nil⟩) : CallAt PT plan_Stage xs d B K :=
  call_of_awp 10000 Try.func15 rfl (by kernel_rfl) (by kernel_rfl) (by kernel_rfl) (by rw [hn]; decide) hB h

/-! gripsack/gripsackref21.Stage -/
abbrev r21_Stage : Nat := 16
def r21_Stage.rc : RC :=
  (.seq (.reg [R.q 2 (.mov (R.i 0))])
  (.seq (.seq (.reg [R.q 3 (.mov (R.t 0))])
  (.block 0 (.seq (.reg [R.q 5 (.bin .eql .no (R.t 3) (R.i 6)),
     R.q 4 (.mov (R.t 5))])
   (.cond (R.t 4)
     (.seq (.reg [R.q 2 (.mov (R.i 448))])
     .ret)
     (.seq (.reg [R.q 7 (.bin .eql .no (R.t 3) (R.i 3)),
       R.q 6 (.mov (R.t 7))])
     (.cond (R.t 6)
       (.seq (.reg [R.q 2 (.mov (R.i 511))])
       .ret)
       .skip))))))
  (.seq (.reg [R.q 2 (.mov (R.i 0))])
  .ret)))
def r21_Stage.rs : List RRes := [.tmp 2]
theorem r21_Stage.of {xs : List AV} {d : Nat} {B : BL} {K : ARes → BL → Prop} (hn : xs.length = 1) (hB : onlyOuter B = true) (h : awp ⟨PT, 8, exitX r21_Stage.rs K⟩ 10000 [.code r21_Stage.rc] ⟨params 0 xs, B, .nil⟩) : CallAt PT r21_Stage xs d B K :=
  call_of_awp 10000 Try.func16 rfl (by kernel_rfl) (by kernel_rfl) (by kernel_rfl) (by rw [hn]; decide) hB h

/-! gripsack/plan.Mode -/
abbrev plan_Mode : Nat := 18
def plan_Mode.rc : RC :=
  (.seq (.reg [R.q 2 (.box (R.t 0)),
    R.q 4 (.mov (R.i 0)),
    R.q 5 (.mov R.ff)])
  (.seq (.seq (.reg [R.q 6 (.mov (R.t 1)),
    R.q 7 (.un .not (R.t 6))])
  (.cond (R.t 7)
    (.seq (.reg [R.q 8 (.fld 0 (R.t 2)),
      R.q 9 (.load1 (R.t 8)),
      R.q 10 (.bin .and .no (R.t 9) (R.i 448)),
      R.q 4 (.mov (R.t 10)),
      R.q 5 (.mov R.ff)])
    .ret)
    .skip))
  (.seq (.regd [R.f (R.q 11 (.fld 0 (R.t 2))),
    R.f (R.q 12 (.load1 (R.t 11))),
    R.f (R.q 13 (.bin .andNot .no (R.t 12) (R.i 511))),
    R.f (R.q 14 (.loadA 14 (R.t 2))),
    R.s (R.q 15 (.call 49 [(R.t 14)])) [0, 1, 2],
    R.f (R.q 16 (.bin .or .no (R.t 13) (R.t 15))),
    R.s (R.q 4 (.mov (R.t 16))) [],
    R.s (R.q 5 (.mov R.tt)) []])
  .ret)))
def plan_Mode.rs : List RRes := [.tmp 4, .tmp 5]
theorem plan_Mode.of {xs : List AV} {d : Nat} {B : BL} {K : ARes → BL → Prop} (hn : xs.length = 2) (hB : onlyOuter B = true) (h : awp ⟨PT, 17, exitX plan_Mode.rs K⟩ 10000 [.code plan_Mode.rc] ⟨params 0 xs, B, .nil⟩) : CallAt PT plan_Mode xs d B K :=
  call_of_awp 10000 Try.func18 rfl (by kernel_rfl) (by kernel_rfl) (by kernel_rfl) (by rw [hn]; decide) hB h

/-! gripsack/gripsackref21.Mode -/
abbrev r21_Mode : Nat := 19
def r21_Mode.rc : RC :=
  (.seq (.reg [R.q 2 (.box (R.t 0)),
    R.q 4 (.mov (R.i 0)),
    R.q 5 (.mov R.ff)])
  (.seq (.seq (.reg [R.q 6 (.mov (R.t 1))])
  (.cond (R.t 6)
    (.seq (.regd [R.f (R.q 7 (.fld 0 (R.t 2))),
      R.f (R.q 8 (.load1 (R.t 7))),
      R.f (R.q 9 (.bin .andNot .no (R.t 8) (R.i 511))),
      R.f (R.q 10 (.loadA 14 (R.t 2))),
      R.s (R.q 11 (.call 50 [(R.t 10)])) [0, 1, 2],
      R.f (R.q 12 (.bin .or .no (R.t 9) (R.t 11))),
      R.s (R.q 4 (.mov (R.t 12))) [],
      R.s (R.q 5 (.mov R.tt)) []])
    .ret)
    .skip))
  (.seq (.reg [R.q 13 (.fld 0 (R.t 2)),
    R.q 14 (.load1 (R.t 13)),
    R.q 15 (.bin .and .no (R.t 14) (R.i 448)),
    R.q 4 (.mov (R.t 15)),
    R.q 5 (.mov R.ff)])
  .ret)))
def r21_Mode.rs : List RRes := [.tmp 4, .tmp 5]
theorem r21_Mode.of {xs : List AV} {d : Nat} {B : BL} {K : ARes → BL → Prop} (hn : xs.length = 2) (hB : onlyOuter B = true) (h : awp ⟨PT, 16, exitX r21_Mode.rs K⟩ 10000 [.code r21_Mode.rc] ⟨params 0 xs, B, .nil⟩) : CallAt PT r21_Mode xs d B K :=
  call_of_awp 10000 Try.func19 rfl (by kernel_rfl) (by kernel_rfl) (by kernel_rfl) (by rw [hn]; decide) hB h

/-! gripsack/gripsackref9.SameXattrs -/
abbrev r9_SameXattrs : Nat := 20
def r9_SameXattrs.rc : RC :=
  (.seq (.reg [R.q 4 (.mov R.ff)])
  (.seq (.seq (.reg [R.q 6 (.mov (R.t 0)),
    R.q 7 (.len (R.t 6)),
    R.q 8 (.mov (R.t 1)),
    R.q 9 (.len (R.t 8)),
    R.q 10 (.bin .neq .no (R.t 7) (R.t 9))])
  (.cond (R.t 10)
    (.seq (.reg [R.q 4 (.mov R.ff)])
    .ret)
    .skip))
  (.seq (.seq (.reg [R.q 5 (.mov (R.i 0))])
  (.block 0 (.loop
     (.seq (.seq (.reg [R.q 11 (.mov (R.t 5)),
       R.q 12 (.mov (R.t 0)),
       R.q 13 (.len (R.t 12)),
       R.q 14 (.bin .lss .no (R.t 11) (R.t 13))])
     (.cond (R.t 14)
       .skip
       (.exit 0)))
     (.seq (.block 1 (.seq (.regd [R.f (R.q 17 (.mov (R.t 0))),
        R.f (R.q 18 (.mov (R.t 5))),
        R.f (R.q 19 (.idx 2 (R.t 17) (R.t 18))),
        R.f (R.q 20 (.loadA 2 (R.t 19))),
        R.f (R.q 21 (.mov (R.t 1))),
        R.f (R.q 22 (.mov (R.t 5))),
        R.f (R.q 23 (.idx 2 (R.t 21) (R.t 22))),
        R.f (R.q 24 (.loadA 2 (R.t 23))),
        R.f (R.q 25 (.bin .neq (.agg [.s, .s]) (R.t 20) (R.t 24)))])
      (.cond (R.t 25)
        (.seq (.reg [R.q 4 (.mov R.ff)])
        .ret)
        .skip)))
     (.reg [R.q 15 (.mov (R.t 5)),
       R.q 16 (.bin .add .no (R.t 15) (R.i 1)),
       R.q 5 (.mov (R.t 16))]))))))
  (.seq (.reg [R.q 4 (.mov R.tt)])
  .ret))))
def r9_SameXattrs.rs : List RRes := [.tmp 4]
theorem r9_SameXattrs.of {xs : List AV} {d : Nat} {B : BL} {K : ARes → BL → Prop} (hn : xs.length = 2) (hB : onlyOuter B = true) (h : awp ⟨PT, 26, exitX r9_SameXattrs.rs K⟩ 10000 [.code r9_SameXattrs.rc] ⟨params 0 xs, B, .nil⟩) : CallAt PT r9_SameXattrs xs d B K :=
  call_of_awp 10000 Try.func20 rfl (by kernel_rfl) (by kernel_rfl) (by kernel_rfl) (by rw [hn]; decide) hB h

/-! gripsack/plan.Fewer -/
abbrev plan_Fewer : Nat := 21
def plan_Fewer.rc : RC :=
  (.seq (.reg [R.q 2 (.mov (.val .nsl))])
  (.seq (.reg [R.q 3 (.mov (.val .nsl))])
  (.seq (.seq (.reg [R.q 6 (.mov (R.t 0)),
    R.q 7 (.len (R.t 6)),
    R.q 8 (.mov (R.i 0))])
  (.block 0 (.loop
     (.seq (.reg [R.q 9 (.bin .lss .no (R.t 8) (R.t 7))])
     (.seq (.cond (R.t 9)
       .skip
       (.exit 0))
     (.seq (.block 1 (.seq (.reg [R.q 10 (.idx 2 (R.t 6) (R.t 8)),
        R.q 11 (.loadA 2 (R.t 10)),
        R.q 5 (.alloc (.cons (.str fun _ => []) (.cons (.str fun _ => []) .nil))),
        R.e (.store 2 (R.t 5) (R.t 11))])
      (.seq (.reg [R.q 12 (.fld 0 (R.t 5)),
        R.q 13 (.load1 (R.t 12)),
        R.q 14 (.call 51 [(R.t 13), (.val (.str fun _ => [116, 114, 117, 115, 116, 101, 100, 46]))]),
        R.q 15 (.un .not (R.t 14)),
        R.q 16 (.mov (R.t 15)),
        R.g 17 (.fld 0 (R.t 5)) 16 true,
        R.g 18 (.load1 (R.t 17)) 16 true,
        R.g 19 (.call 51 [(R.t 18), (.val (.str fun _ => [115, 101, 99, 117, 114, 105, 116, 121, 46]))]) 16 true,
        R.g 20 (.un .not (R.t 19)) 16 true,
        R.q 21 (.pick (R.t 16) (R.t 20) R.ff)])
      (.cond (R.t 21)
        (.reg [R.q 22 (.mov (R.t 3)),
          R.q 23 (.loadA 2 (R.t 5)),
          R.q 24 (.bslice 2 (.cons (.str fun _ => []) (.cons (.str fun _ => []) .nil)) 1 [(0, 2, (R.t 23))]),
          R.q 25 (.append 2 32 (R.t 22) (R.t 24)),
          R.q 3 (.mov (R.t 25))])
        .skip))))
     (.reg [R.q 26 (.bin .add .no (R.t 8) (R.i 1)),
       R.q 8 (.mov (R.t 26))])))))))
  (.seq (.reg [R.q 27 (.mov (R.t 3)),
    R.q 2 (.mov (R.t 27))])
  .ret))))
def plan_Fewer.rs : List RRes := [.tmp 2]
theorem plan_Fewer.of {xs : List AV} {d : Nat} {B : BL} {K : ARes → BL → Prop} (hn : xs.length = 1) (hB : onlyOuter B = true) (h : awp ⟨PT, 28, exitX plan_Fewer.rs K⟩ 10000 [.code plan_Fewer.rc] ⟨params 0 xs, B, .nil⟩) : CallAt PT plan_Fewer xs d B K :=
  call_of_awp 10000 Try.func21 rfl (by kernel_rfl) (by kernel_rfl) (by kernel_rfl) (by rw [hn]; decide) hB h

/-! gripsack/gripsackref21.Fewer -/
abbrev r21_Fewer : Nat := 22
def r21_Fewer.rc : RC :=
  (.seq (.reg [R.q 2 (.mov (.val .nsl))])
  (.seq (.reg [R.q 3 (.mov (.val .nsl))])
  (.seq (.seq (.reg [R.q 4 (.mov (R.i 0))])
  (.block 0 (.loop
     (.seq (.seq (.reg [R.q 5 (.mov (R.t 4)),
       R.q 6 (.mov (R.t 0)),
       R.q 7 (.len (R.t 6)),
       R.q 8 (.bin .lss .no (R.t 5) (R.t 7))])
     (.cond (R.t 8)
       .skip
       (.exit 0)))
     (.seq (.block 1 (.seq (.reg [R.q 11 (.mov (R.t 0)),
        R.q 12 (.mov (R.t 4)),
        R.q 13 (.idx 2 (R.t 11) (R.t 12)),
        R.q 14 (.fld 0 (R.t 13)),
        R.q 15 (.load1 (R.t 14)),
        R.q 16 (.call 52 [(R.t 15)]),
        R.q 17 (.un .not (R.t 16))])
      (.cond (R.t 17)
        (.reg [R.q 18 (.mov (R.t 3)),
          R.q 19 (.mov (R.t 0)),
          R.q 20 (.mov (R.t 4)),
          R.q 21 (.idx 2 (R.t 19) (R.t 20)),
          R.q 22 (.loadA 2 (R.t 21)),
          R.q 23 (.bslice 2 (.cons (.str fun _ => []) (.cons (.str fun _ => []) .nil)) 1 [(0, 2, (R.t 22))]),
          R.q 24 (.append 2 32 (R.t 18) (R.t 23)),
          R.q 3 (.mov (R.t 24))])
        .skip)))
     (.reg [R.q 9 (.mov (R.t 4)),
       R.q 10 (.bin .add .no (R.t 9) (R.i 1)),
       R.q 4 (.mov (R.t 10))]))))))
  (.seq (.reg [R.q 25 (.mov (R.t 3)),
    R.q 2 (.mov (R.t 25))])
  .ret))))
def r21_Fewer.rs : List RRes := [.tmp 2]
theorem r21_Fewer.of {xs : List AV} {d : Nat} {B : BL} {K : ARes → BL → Prop} (hn : xs.length = 1) (hB : onlyOuter B = true) (h : awp ⟨PT, 26, exitX r21_Fewer.rs K⟩ 10000 [.code r21_Fewer.rc] ⟨params 0 xs, B, .nil⟩) : CallAt PT r21_Fewer xs d B K :=
  call_of_awp 10000 Try.func22 rfl (by kernel_rfl) (by kernel_rfl) (by kernel_rfl) (by rw [hn]; decide) hB h

/-! gripsack/gripsackref21.Attrs -/
abbrev r21_Attrs : Nat := 25
def r21_Attrs.rc : RC :=
  (.seq (.reg [R.q 1 (.box (R.t 0)),
    R.q 2 (.mov (.val .nsl))])
  (.seq (.mark (.seq (.reg [R.q 4 (.fld 1 (R.t 1)),
    R.q 5 (.load1 (R.t 4)),
    R.q 6 (.bin .eql .no (R.t 5) (R.i 2))])
  (.cond (R.t 6)
    (.seq (.reg [R.q 2 (.mov (.val .nsl))])
    .ret)
    .skip)))
  (.seq (.reg [R.q 3 (.mov (.val .nsl))])
  (.seq (.mark (.seq (.reg [R.q 7 (.fld 1 (R.t 1)),
    R.q 8 (.load1 (R.t 7)),
    R.q 9 (.bin .eql .no (R.t 8) (R.i 6))])
  (.cond (R.t 9)
    (.reg [R.q 10 (.mov (R.t 3)),
      R.q 11 (.bslice 1 (.cons (R.z 0) .nil) 1 [(0, 1, (R.i 10))]),
      R.q 12 (.append 1 8 (R.t 10) (R.t 11)),
      R.q 3 (.mov (R.t 12))])
    .skip)))
  (.seq (.reg [R.q 13 (.mov (R.t 3)),
    R.q 14 (.bslice 1 (.cons (R.z 0) .nil) 1 [(0, 1, (R.i 2))]),
    R.q 15 (.append 1 8 (R.t 13) (R.t 14)),
    R.q 3 (.mov (R.t 15))])
  (.seq (.mark (.seq (.reg [R.q 16 (.fld 1 (R.t 1)),
    R.q 17 (.load1 (R.t 16)),
    R.q 18 (.bin .neq .no (R.t 17) (R.i 3))])
  (.cond (R.t 18)
    (.reg [R.q 19 (.mov (R.t 3)),
      R.q 20 (.bslice 1 (.cons (R.z 0) .nil) 1 [(0, 1, (R.i 3))]),
      R.q 21 (.append 1 8 (R.t 19) (R.t 20)),
      R.q 3 (.mov (R.t 21))])
    .skip)))
  (.seq (.mark (.seq (.reg [R.q 22 (.fld 2 (R.t 1)),
    R.q 23 (.fld 5 (R.t 22)),
    R.q 24 (.load1 (R.t 23)),
    R.q 25 (.len (R.t 24)),
    R.q 26 (.bin .gtr .no (R.t 25) (R.i 0))])
  (.cond (R.t 26)
    (.reg [R.q 27 (.mov (R.t 3)),
      R.q 28 (.bslice 1 (.cons (R.z 0) .nil) 1 [(0, 1, (R.i 4))]),
      R.q 29 (.append 1 8 (R.t 27) (R.t 28)),
      R.q 3 (.mov (R.t 29))])
    .skip)))
  (.seq (.mark (.seq (.reg [R.q 30 (.fld 2 (R.t 1)),
    R.q 31 (.fld 6 (R.t 30)),
    R.q 32 (.load1 (R.t 31)),
    R.q 33 (.len (R.t 32)),
    R.q 34 (.bin .gtr .no (R.t 33) (R.i 0))])
  (.cond (R.t 34)
    (.reg [R.q 35 (.mov (R.t 3)),
      R.q 36 (.bslice 1 (.cons (R.z 0) .nil) 1 [(0, 1, (R.i 5))]),
      R.q 37 (.append 1 8 (R.t 35) (R.t 36)),
      R.q 3 (.mov (R.t 37))])
    .skip)))
  (.seq (.mark (.seq (.reg [R.q 38 (.fld 2 (R.t 1)),
    R.q 39 (.fld 7 (R.t 38)),
    R.q 40 (.load1 (R.t 39)),
    R.q 41 (.len (R.t 40)),
    R.q 42 (.bin .gtr .no (R.t 41) (R.i 0))])
  (.cond (R.t 42)
    (.reg [R.q 43 (.mov (R.t 3)),
      R.q 44 (.bslice 1 (.cons (R.z 0) .nil) 1 [(0, 1, (R.i 6))]),
      R.q 45 (.append 1 8 (R.t 43) (R.t 44)),
      R.q 3 (.mov (R.t 45))])
    .skip)))
  (.seq (.mark (.seq (.reg [R.q 46 (.fld 2 (R.t 1)),
    R.q 47 (.fld 8 (R.t 46)),
    R.q 48 (.fld 0 (R.t 47)),
    R.q 49 (.load1 (R.t 48)),
    R.q 50 (.bin .neq .no (R.t 49) (R.i 0))])
  (.cond (R.t 50)
    (.reg [R.q 51 (.mov (R.t 3)),
      R.q 52 (.bslice 1 (.cons (R.z 0) .nil) 1 [(0, 1, (R.i 7))]),
      R.q 53 (.append 1 8 (R.t 51) (R.t 52)),
      R.q 3 (.mov (R.t 53))])
    .skip)))
  (.seq (.reg [R.q 54 (.mov (R.t 3)),
    R.q 55 (.bslice 1 (.cons (R.z 0) .nil) 1 [(0, 1, (R.i 8))]),
    R.q 56 (.append 1 8 (R.t 54) (R.t 55)),
    R.q 3 (.mov (R.t 56))])
  (.seq (.mark (.seq (.reg [R.q 57 (.fld 2 (R.t 1)),
    R.q 58 (.fld 13 (R.t 57)),
    R.q 59 (.load1 (R.t 58)),
    R.q 60 (.bin .neq .no (R.t 59) (R.i 0))])
  (.cond (R.t 60)
    (.reg [R.q 61 (.mov (R.t 3)),
      R.q 62 (.bslice 1 (.cons (R.z 0) .nil) 1 [(0, 1, (R.i 9))]),
      R.q 63 (.append 1 8 (R.t 61) (R.t 62)),
      R.q 3 (.mov (R.t 63))])
    .skip)))
  (.seq (.reg [R.q 64 (.mov (R.t 3)),
    R.q 2 (.mov (R.t 64))])
  .ret)))))))))))))
def r21_Attrs.rs : List RRes := [.tmp 2]
theorem r21_Attrs.of {xs : List AV} {d : Nat} {B : BL} {K : ARes → BL → Prop} (hn : xs.length = 1) (hB : onlyOuter B = true) (h : awp ⟨PT, 65, exitX r21_Attrs.rs K⟩ 10000 [.code r21_Attrs.rc] ⟨params 0 xs, B, .nil⟩) : CallAt PT r21_Attrs xs d B K :=
  call_of_awp 10000 Try.func25 rfl (by kernel_rfl) (by kernel_rfl) (by kernel_rfl) (by rw [hn]; decide) hB h

/-! gripsack/gripsackref21.Result -/
abbrev r21_Result : Nat := 28
def r21_Result.rc : RC :=
  (.seq (.reg [R.q 6 (.mov (R.i 0))])
  (.seq (.seq (.reg [R.q 8 (.mov (R.t 0)),
    R.q 9 (.len (R.t 8)),
    R.q 10 (.bin .sub .no (R.t 9) (R.i 1)),
    R.q 7 (.mov (R.t 10))])
  (.block 0 (.loop
     (.seq (.seq (.reg [R.q 11 (.mov (R.t 7)),
       R.q 12 (.bin .geq .no (R.t 11) (R.i 0))])
     (.cond (R.t 12)
       .skip
       (.exit 0)))
     (.seq (.block 1 (.seq (.reg [R.q 15 (.mov (R.t 0)),
        R.q 16 (.mov (R.t 7)),
        R.q 17 (.idx 3 (R.t 15) (R.t 16)),
        R.q 18 (.fld 0 (R.t 17)),
        R.q 19 (.load1 (R.t 18)),
        R.q 20 (.mov (R.t 1)),
        R.q 21 (.bin .eql .no (R.t 19) (R.t 20)),
        R.q 22 (.mov (R.t 21)),
        R.g 23 (.mov (R.t 0)) 22 true,
        R.g 24 (.mov (R.t 7)) 22 true,
        R.g 25 (.idx 3 (R.t 23) (R.t 24)) 22 true,
        R.g 26 (.fld 1 (R.t 25)) 22 true,
        R.g 27 (.load1 (R.t 26)) 22 true,
        R.g 28 (.mov (R.t 2)) 22 true,
        R.g 29 (.bin .eql .no (R.t 27) (R.t 28)) 22 true,
        R.q 30 (.pick (R.t 22) (R.t 29) R.ff)])
      (.cond (R.t 30)
        (.seq (.reg [R.q 31 (.mov (R.t 0)),
          R.q 32 (.mov (R.t 7)),
          R.q 33 (.idx 3 (R.t 31) (R.t 32)),
          R.q 34 (.fld 2 (R.t 33)),
          R.q 35 (.load1 (R.t 34)),
          R.q 6 (.mov (R.t 35))])
        .ret)
        .skip)))
     (.reg [R.q 13 (.mov (R.t 7)),
       R.q 14 (.bin .sub .no (R.t 13) (R.i 1)),
       R.q 7 (.mov (R.t 14))]))))))
  (.seq (.reg [R.q 6 (.mov (R.i 0))])
  .ret)))
def r21_Result.rs : List RRes := [.tmp 6]
theorem r21_Result.of {xs : List AV} {d : Nat} {B : BL} {K : ARes → BL → Prop} (hn : xs.length = 3) (hB : onlyOuter B = true) (h : awp ⟨PT, 36, exitX r21_Result.rs K⟩ 10000 [.code r21_Result.rc] ⟨params 0 xs, B, .nil⟩) : CallAt PT r21_Result xs d B K :=
  call_of_awp 10000 Try.func28 rfl (by kernel_rfl) (by kernel_rfl) (by kernel_rfl) (by rw [hn]; decide) hB h

/-! gripsack/gripsacklaw25.awake -/
abbrev l25_awake : Nat := 29
def l25_awake.rc : RC :=
  (.seq (.reg [R.q 0 (.mov R.ff)])
  (.seq (.reg [R.q 3 (.build (.cons (.str fun _ => []) (.cons (R.z 0) (.cons (R.z 0) .nil))) [(0, 1, (.val (.str fun _ => [97]))), (1, 1, (R.i 1)), (2, 1, (R.i 1))]),
    R.q 4 (.build (.cons (.str fun _ => []) (.cons (R.z 0) (.cons (R.z 0) .nil))) [(0, 1, (.val (.str fun _ => [97]))), (1, 1, (R.i 8)), (2, 1, (R.i 1))]),
    R.q 5 (.bslice 3 (.cons (.str fun _ => []) (.cons (R.z 0) (.cons (R.z 0) .nil))) 2 [(0, 3, (R.t 3)), (3, 3, (R.t 4))]),
    R.q 1 (.mov (R.t 5))])
  (.seq (.reg [R.q 6 (.build (.cons (R.z 0) (.cons (R.z 0) .nil)) [(0, 1, (R.i 7))]),
    R.q 7 (.build (.cons (R.z 0) (.cons (R.z 0) (.cons (R.z 0) (.cons (R.z 0) (.cons (R.z 0) (.cons .nsl (.cons .nsl (.cons .nsl (.cons (R.z 0) (.cons (.int .u64 fun _ => 0) (.cons (.int .u64 fun _ => 0) (.cons .ff (.cons (R.z 0) (.cons (R.z 0) .nil)))))))))))))) [(3, 2, (R.t 6))]),
    R.q 8 (.build (.cons (.str fun _ => []) (.cons (R.z 0) (.cons (R.z 0) (.cons (R.z 0) (.cons (R.z 0) (.cons (R.z 0) (.cons (R.z 0) (.cons .nsl (.cons .nsl (.cons .nsl (.cons (R.z 0) (.cons (.int .u64 fun _ => 0) (.cons (.int .u64 fun _ => 0) (.cons .ff (.cons (R.z 0) (.cons (R.z 0) (.cons (.str fun _ => []) (.cons (.str fun _ => []) (.cons (R.z 0) (.cons (R.z 0) .nil)))))))))))))))))))) [(0, 1, (.val (.str fun _ => [97]))), (1, 1, (R.i 1)), (2, 14, (R.t 7))]),
    R.q 2 (.alloc (.cons (.str fun _ => []) (.cons (R.z 0) (.cons (R.z 0) (.cons (R.z 0) (.cons (R.z 0) (.cons (R.z 0) (.cons (R.z 0) (.cons .nsl (.cons .nsl (.cons .nsl (.cons (R.z 0) (.cons (.int .u64 fun _ => 0) (.cons (.int .u64 fun _ => 0) (.cons .ff (.cons (R.z 0) (.cons (R.z 0) (.cons (.str fun _ => []) (.cons (.str fun _ => []) (.cons (R.z 0) (.cons (R.z 0) .nil))))))))))))))))))))),
    R.e (.store 20 (R.t 2) (R.t 8))])
  (.seq (.reg [R.q 9 (.call 27 [(.val .nsl), (.val (.str fun _ => [97])), (R.i 1)]),
    R.q 10 (.bin .eql .no (R.t 9) (R.i 0)),
    R.q 11 (.mov (R.t 10)),
    R.g 12 (.mov (R.t 1)) 11 true,
    R.g 13 (.call 27 [(R.t 12), (.val (.str fun _ => [97])), (R.i 8)]) 11 true,
    R.g 14 (.bin .eql .no (R.t 13) (R.i 1)) 11 true,
    R.q 15 (.pick (R.t 11) (R.t 14) R.ff),
    R.q 16 (.mov (R.t 15)),
    R.g 17 (.loadA 20 (R.t 2)) 16 true,
    R.g 18 (.build (.cons (R.z 0) (.cons (R.z 0) (.cons .nsl (.cons (R.z 0) .nil)))) []) 16 true,
    R.g 19 (.mov (R.t 1)) 16 true,
    R.g 20 (.call 31 [(R.t 17), (R.t 18), (R.t 19)]) 16 true,
    R.g 21 (.fieldA 3 2 (R.t 20)) 16 true,
    R.g 22 (.field1 0 (R.t 21)) 16 true,
    R.g 23 (.bin .eql .no (R.t 22) (R.i 7)) 16 true,
    R.q 24 (.pick (R.t 16) (R.t 23) R.ff),
    R.q 0 (.mov (R.t 24))])
  .ret))))
def l25_awake.rs : List RRes := [.tmp 0]
theorem l25_awake.of {xs : List AV} {d : Nat} {B : BL} {K : ARes → BL → Prop} (hn : xs.length = 0) (hB : onlyOuter B = true) (h : awp ⟨PT, 25, exitX l25_awake.rs K⟩ 10000 [.code l25_awake.rc] ⟨params 0 xs, B, .nil⟩) : CallAt PT l25_awake xs d B K :=
  call_of_awp 10000 Try.func29 rfl (by kernel_rfl) (by kernel_rfl) (by kernel_rfl) (by rw [hn]; decide) hB h

/-! gripsack/gripsackref9.SameMeta -/
abbrev r9_SameMeta : Nat := 30
def r9_SameMeta.rc : RC :=
  (.seq (.reg [R.q 2 (.box (R.t 0)),
    R.q 3 (.box (R.t 1)),
    R.q 4 (.mov R.ff)])
  (.seq (.reg [R.q 5 (.fld 0 (R.t 2)),
    R.q 6 (.load1 (R.t 5)),
    R.q 7 (.fld 0 (R.t 3)),
    R.q 8 (.load1 (R.t 7)),
    R.q 9 (.bin .eql .no (R.t 6) (R.t 8)),
    R.q 10 (.mov (R.t 9)),
    R.g 11 (.fld 1 (R.t 2)) 10 true,
    R.g 12 (.load1 (R.t 11)) 10 true,
    R.g 13 (.fld 1 (R.t 3)) 10 true,
    R.g 14 (.load1 (R.t 13)) 10 true,
    R.g 15 (.bin .eql .no (R.t 12) (R.t 14)) 10 true,
    R.q 16 (.pick (R.t 10) (R.t 15) R.ff),
    R.q 17 (.mov (R.t 16)),
    R.g 18 (.fld 2 (R.t 2)) 17 true,
    R.g 19 (.load1 (R.t 18)) 17 true,
    R.g 20 (.fld 2 (R.t 3)) 17 true,
    R.g 21 (.load1 (R.t 20)) 17 true,
    R.g 22 (.bin .eql .no (R.t 19) (R.t 21)) 17 true,
    R.q 23 (.pick (R.t 17) (R.t 22) R.ff),
    R.q 24 (.mov (R.t 23)),
    R.g 25 (.fld 3 (R.t 2)) 24 true,
    R.g 26 (.loadA 2 (R.t 25)) 24 true,
    R.g 27 (.fld 3 (R.t 3)) 24 true,
    R.g 28 (.loadA 2 (R.t 27)) 24 true,
    R.g 29 (.bin .eql (.agg [.i .i64, .i .i64]) (R.t 26) (R.t 28)) 24 true,
    R.q 30 (.pick (R.t 24) (R.t 29) R.ff),
    R.q 31 (.mov (R.t 30)),
    R.g 32 (.fld 5 (R.t 2)) 31 true,
    R.g 33 (.load1 (R.t 32)) 31 true,
    R.g 34 (.fld 5 (R.t 3)) 31 true,
    R.g 35 (.load1 (R.t 34)) 31 true,
    R.g 36 (.call 57 [(R.t 33), (R.t 35)]) 31 true,
    R.q 37 (.pick (R.t 31) (R.t 36) R.ff),
    R.q 38 (.mov (R.t 37)),
    R.g 39 (.fld 6 (R.t 2)) 38 true,
    R.g 40 (.load1 (R.t 39)) 38 true,
    R.g 41 (.fld 6 (R.t 3)) 38 true,
    R.g 42 (.load1 (R.t 41)) 38 true,
    R.g 43 (.call 57 [(R.t 40), (R.t 42)]) 38 true,
    R.q 44 (.pick (R.t 38) (R.t 43) R.ff),
    R.q 45 (.mov (R.t 44)),
    R.g 46 (.fld 7 (R.t 2)) 45 true,
    R.g 47 (.load1 (R.t 46)) 45 true,
    R.g 48 (.fld 7 (R.t 3)) 45 true,
    R.g 49 (.load1 (R.t 48)) 45 true,
    R.g 50 (.call 20 [(R.t 47), (R.t 49)]) 45 true,
    R.q 51 (.pick (R.t 45) (R.t 50) R.ff),
    R.q 52 (.mov (R.t 51)),
    R.g 53 (.fld 8 (R.t 2)) 52 true,
    R.g 54 (.loadA 5 (R.t 53)) 52 true,
    R.g 55 (.fld 8 (R.t 3)) 52 true,
    R.g 56 (.loadA 5 (R.t 55)) 52 true,
    R.g 57 (.bin .eql (.agg [.i .i64, .i .u64, .i .u64, .b, .i .i64]) (R.t 54) (R.t 56)) 52 true,
    R.q 58 (.pick (R.t 52) (R.t 57) R.ff),
    R.q 59 (.mov (R.t 58)),
    R.g 60 (.fld 13 (R.t 2)) 59 true,
    R.g 61 (.load1 (R.t 60)) 59 true,
    R.g 62 (.fld 13 (R.t 3)) 59 true,
    R.g 63 (.load1 (R.t 62)) 59 true,
    R.g 64 (.bin .eql .no (R.t 61) (R.t 63)) 59 true,
    R.q 65 (.pick (R.t 59) (R.t 64) R.ff),
    R.q 4 (.mov (R.t 65))])
  .ret))
def r9_SameMeta.rs : List RRes := [.tmp 4]
theorem r9_SameMeta.of {xs : List AV} {d : Nat} {B : BL} {K : ARes → BL → Prop} (hn : xs.length = 2) (hB : onlyOuter B = true) (h : awp ⟨PT, 66, exitX r9_SameMeta.rs K⟩ 10000 [.code r9_SameMeta.rc] ⟨params 0 xs, B, .nil⟩) : CallAt PT r9_SameMeta xs d B K :=
  call_of_awp 10000 Try.func30 rfl (by kernel_rfl) (by kernel_rfl) (by kernel_rfl) (by rw [hn]; decide) hB h

/-! gripsack/degrade.Meta -/
abbrev degrade_Meta : Nat := 31
def degrade_Meta.rc : RC :=
  (.seq (.reg [R.q 3 (.box (R.t 0)),
    R.q 4 (.box (R.t 1)),
    R.q 6 (.alloc (.cons (R.z 0) (.cons (R.z 0) (.cons (R.z 0) (.cons (R.z 0) (.cons (R.z 0) (.cons .nsl (.cons .nsl (.cons .nsl (.cons (R.z 0) (.cons (.int .u64 fun _ => 0) (.cons (.int .u64 fun _ => 0) (.cons .ff (.cons (R.z 0) (.cons (R.z 0) .nil)))))))))))))))])
  (.seq (.reg [R.q 10 (.loadA 20 (R.t 3)),
    R.q 11 (.loadA 4 (R.t 4)),
    R.q 12 (.mov (R.t 2)),
    R.q 13 (.build (.cons (.str fun _ => []) (.cons (R.z 0) (.cons (R.z 0) (.cons (R.z 0) (.cons (R.z 0) (.cons (R.z 0) (.cons (R.z 0) (.cons .nsl (.cons .nsl (.cons .nsl (.cons (R.z 0) (.cons (.int .u64 fun _ => 0) (.cons (.int .u64 fun _ => 0) (.cons .ff (.cons (R.z 0) (.cons (R.z 0) (.cons (.str fun _ => []) (.cons (.str fun _ => []) (.cons (R.z 0) (.cons (R.z 0) (.cons (R.z 0) (.cons (R.z 0) (.cons .nsl (.cons (R.z 0) (.cons .nsl .nil))))))))))))))))))))))))) [(0, 20, (R.t 10)), (20, 4, (R.t 11)), (24, 1, (R.t 12))]),
    R.q 7 (.alloc (.cons (.str fun _ => []) (.cons (R.z 0) (.cons (R.z 0) (.cons (R.z 0) (.cons (R.z 0) (.cons (R.z 0) (.cons (R.z 0) (.cons .nsl (.cons .nsl (.cons .nsl (.cons (R.z 0) (.cons (.int .u64 fun _ => 0) (.cons (.int .u64 fun _ => 0) (.cons .ff (.cons (R.z 0) (.cons (R.z 0) (.cons (.str fun _ => []) (.cons (.str fun _ => []) (.cons (R.z 0) (.cons (R.z 0) (.cons (R.z 0) (.cons (R.z 0) (.cons .nsl (.cons (R.z 0) (.cons .nsl .nil)))))))))))))))))))))))))),
    R.e (.store 25 (R.t 7) (R.t 13))])
  (.seq (.reg [R.q 14 (.fld 2 (R.t 3)),
    R.q 15 (.loadA 14 (R.t 14)),
    R.q 8 (.alloc (.cons (R.z 0) (.cons (R.z 0) (.cons (R.z 0) (.cons (R.z 0) (.cons (R.z 0) (.cons .nsl (.cons .nsl (.cons .nsl (.cons (R.z 0) (.cons (.int .u64 fun _ => 0) (.cons (.int .u64 fun _ => 0) (.cons .ff (.cons (R.z 0) (.cons (R.z 0) .nil))))))))))))))),
    R.e (.store 14 (R.t 8) (R.t 15))])
  (.seq (.regd [R.f (R.q 16 (.loadA 25 (R.t 7))),
    R.f (R.q 18 (.fld 0 (R.t 4))),
    R.f (R.q 19 (.load1 (R.t 18))),
    R.f (R.q 20 (.fld 1 (R.t 4))),
    R.f (R.q 21 (.load1 (R.t 20))),
    R.f (R.q 9 (.alloc (.cons (R.z 0) (.cons (R.z 0) (.cons (R.z 0) (.cons (R.z 0) (.cons (R.z 0) (.cons .nsl (.cons .nsl (.cons .nsl (.cons (R.z 0) (.cons (.int .u64 fun _ => 0) (.cons (.int .u64 fun _ => 0) (.cons .ff (.cons (R.z 0) (.cons (R.z 0) .nil)))))))))))))))),
    R.s (R.q 17 (.call 58 [(R.t 16)])) [1, 2, 3, 4, 5],
    R.f (R.q 22 (.build (.cons (R.z 0) (.cons (R.z 0) (.cons (R.z 0) (.cons (R.z 0) (.cons (R.z 0) (.cons .nsl (.cons .nsl (.cons .nsl (.cons (R.z 0) (.cons (.int .u64 fun _ => 0) (.cons (.int .u64 fun _ => 0) (.cons .ff (.cons (R.z 0) (.cons (R.z 0) .nil)))))))))))))) [(0, 1, (R.t 17)), (1, 1, (R.t 19)), (2, 1, (R.t 21))])),
    R.s (R.e (.store 14 (R.t 9) (R.t 22))) []])
  (.seq (.mark (.seq (.reg [R.q 23 (.loadA 25 (R.t 7)),
    R.q 24 (.call 59 [(R.t 23), (R.i 2), (R.i 1)])])
  (.cond (R.t 24)
    (.regd [R.f (R.q 25 (.fld 1 (R.t 8))),
      R.f (R.q 26 (.load1 (R.t 25))),
      R.f (R.q 27 (.fld 2 (R.t 8))),
      R.f (R.q 28 (.load1 (R.t 27))),
      R.f (R.q 29 (.fld 1 (R.t 9))),
      R.s (R.e (.store 1 (R.t 29) (R.t 26))) [2, 3],
      R.f (R.q 30 (.fld 2 (R.t 9))),
      R.s (R.e (.store 1 (R.t 30) (R.t 28))) []])
    .skip)))
  (.seq (.mark (.seq (.reg [R.q 31 (.loadA 25 (R.t 7)),
    R.q 32 (.call 59 [(R.t 31), (R.i 4), (R.i 1)])])
  (.cond (R.t 32)
    (.reg [R.q 33 (.fld 5 (R.t 8)),
      R.q 34 (.load1 (R.t 33)),
      R.q 35 (.call 60 [(R.t 34)]),
      R.q 36 (.fld 5 (R.t 9)),
      R.e (.store 1 (R.t 36) (R.t 35))])
    .skip)))
  (.seq (.mark (.seq (.reg [R.q 37 (.loadA 25 (R.t 7)),
    R.q 38 (.call 59 [(R.t 37), (R.i 5), (R.i 1)])])
  (.cond (R.t 38)
    (.reg [R.q 39 (.fld 6 (R.t 8)),
      R.q 40 (.load1 (R.t 39)),
      R.q 41 (.call 60 [(R.t 40)]),
      R.q 42 (.fld 6 (R.t 9)),
      R.e (.store 1 (R.t 42) (R.t 41))])
    .skip)))
  (.seq (.mark (.block 0 (.seq (.reg [R.q 44 (.loadA 25 (R.t 7)),
     R.q 45 (.call 59 [(R.t 44), (R.i 6), (R.i 1)]),
     R.q 43 (.mov (R.t 45))])
   (.cond (R.t 43)
     (.reg [R.q 46 (.fld 7 (R.t 8)),
       R.q 47 (.load1 (R.t 46)),
       R.q 48 (.call 61 [(R.t 47)]),
       R.q 49 (.fld 7 (R.t 9)),
       R.e (.store 1 (R.t 49) (R.t 48))])
     (.seq (.reg [R.q 51 (.loadA 25 (R.t 7)),
       R.q 52 (.call 59 [(R.t 51), (R.i 6), (R.i 2)]),
       R.q 50 (.mov (R.t 52))])
     (.cond (R.t 50)
       (.reg [R.q 53 (.fld 7 (R.t 8)),
         R.q 54 (.load1 (R.t 53)),
         R.q 55 (.call 21 [(R.t 54)]),
         R.q 56 (.fld 7 (R.t 9)),
         R.e (.store 1 (R.t 56) (R.t 55))])
       .skip))))))
  (.seq (.mark (.seq (.reg [R.q 57 (.loadA 25 (R.t 7)),
    R.q 58 (.call 59 [(R.t 57), (R.i 7), (R.i 1)])])
  (.cond (R.t 58)
    (.reg [R.q 59 (.fld 8 (R.t 8)),
      R.q 60 (.loadA 5 (R.t 59)),
      R.q 61 (.fld 8 (R.t 9)),
      R.e (.store 5 (R.t 61) (R.t 60))])
    .skip)))
  (.seq (.mark (.seq (.reg [R.q 62 (.loadA 25 (R.t 7)),
    R.q 63 (.call 59 [(R.t 62), (R.i 8), (R.i 1)])])
  (.cond (R.t 63)
    (.reg [R.q 64 (.fld 3 (R.t 8)),
      R.q 65 (.loadA 2 (R.t 64)),
      R.q 66 (.fld 3 (R.t 9)),
      R.e (.store 2 (R.t 66) (R.t 65))])
    .skip)))
  (.seq (.mark (.block 1 (.seq (.reg [R.q 68 (.loadA 25 (R.t 7)),
     R.q 69 (.call 59 [(R.t 68), (R.i 9), (R.i 1)]),
     R.q 67 (.mov (R.t 69))])
   (.cond (R.t 67)
     (.reg [R.q 70 (.fld 13 (R.t 8)),
       R.q 71 (.load1 (R.t 70)),
       R.q 72 (.fld 13 (R.t 9)),
       R.e (.store 1 (R.t 72) (R.t 71))])
     (.seq (.reg [R.q 74 (.loadA 25 (R.t 7)),
       R.q 75 (.call 59 [(R.t 74), (R.i 9), (R.i 2)]),
       R.q 73 (.mov (R.t 75))])
     (.cond (R.t 73)
       (.reg [R.q 76 (.fld 13 (R.t 8)),
         R.q 77 (.load1 (R.t 76)),
         R.q 78 (.bin .and .no (R.t 77) (R.i 12)),
         R.q 79 (.fld 13 (R.t 9)),
         R.e (.store 1 (R.t 79) (R.t 78))])
       .skip))))))
  (.seq (.reg [R.q 80 (.loadA 14 (R.t 9)),
    R.e (.store 14 (R.t 6) (R.t 80))])
  .ret))))))))))))
def degrade_Meta.rs : List RRes := [.cellA 6 14]
theorem degrade_Meta.of {xs : List AV} {d : Nat} {B : BL} {K : ARes → BL → Prop} (hn : xs.length = 3) (hB : onlyOuter B = true) (h : awp ⟨PT, 81, exitX degrade_Meta.rs K⟩ 10000 [.code degrade_Meta.rc] ⟨params 0 xs, B, .nil⟩) : CallAt PT degrade_Meta xs d B K :=
  call_of_awp 10000 Try.func31 rfl (by kernel_rfl) (by kernel_rfl) (by kernel_rfl) (by rw [hn]; decide) hB h

/-! gripsack/gripsackref21.Degraded -/
abbrev r21_Degraded : Nat := 32
def r21_Degraded.rc : RC :=
  (.seq (.reg [R.q 3 (.box (R.t 0)),
    R.q 4 (.box (R.t 1)),
    R.q 6 (.alloc (.cons (R.z 0) (.cons (R.z 0) (.cons (R.z 0) (.cons (R.z 0) (.cons (R.z 0) (.cons .nsl (.cons .nsl (.cons .nsl (.cons (R.z 0) (.cons (.int .u64 fun _ => 0) (.cons (.int .u64 fun _ => 0) (.cons .ff (.cons (R.z 0) (.cons (R.z 0) .nil)))))))))))))))])
  (.seq (.reg [R.q 8 (.fld 0 (R.t 4)),
    R.q 9 (.load1 (R.t 8)),
    R.q 10 (.fld 1 (R.t 4)),
    R.q 11 (.load1 (R.t 10)),
    R.q 12 (.build (.cons (R.z 0) (.cons (R.z 0) (.cons (R.z 0) (.cons (R.z 0) (.cons (R.z 0) (.cons .nsl (.cons .nsl (.cons .nsl (.cons (R.z 0) (.cons (.int .u64 fun _ => 0) (.cons (.int .u64 fun _ => 0) (.cons .ff (.cons (R.z 0) (.cons (R.z 0) .nil)))))))))))))) [(1, 1, (R.t 9)), (2, 1, (R.t 11))]),
    R.q 7 (.alloc (.cons (R.z 0) (.cons (R.z 0) (.cons (R.z 0) (.cons (R.z 0) (.cons (R.z 0) (.cons .nsl (.cons .nsl (.cons .nsl (.cons (R.z 0) (.cons (.int .u64 fun _ => 0) (.cons (.int .u64 fun _ => 0) (.cons .ff (.cons (R.z 0) (.cons (R.z 0) .nil))))))))))))))),
    R.e (.store 14 (R.t 7) (R.t 12))])
  (.seq (.mark (.seq (.reg [R.q 13 (.mov (R.t 2)),
    R.q 14 (.fld 0 (R.t 3)),
    R.q 15 (.load1 (R.t 14)),
    R.q 16 (.call 28 [(R.t 13), (R.t 15), (R.i 2)]),
    R.q 17 (.bin .eql .no (R.t 16) (R.i 1))])
  (.cond (R.t 17)
    (.seq (.reg [R.q 18 (.fld 2 (R.t 3)),
      R.q 19 (.fld 1 (R.t 18)),
      R.q 20 (.load1 (R.t 19)),
      R.q 21 (.fld 1 (R.t 7)),
      R.e (.store 1 (R.t 21) (R.t 20))])
    (.reg [R.q 22 (.fld 2 (R.t 3)),
      R.q 23 (.fld 2 (R.t 22)),
      R.q 24 (.load1 (R.t 23)),
      R.q 25 (.fld 2 (R.t 7)),
      R.e (.store 1 (R.t 25) (R.t 24))]))
    .skip)))
  (.seq (.mark (.seq (.reg [R.q 26 (.mov (R.t 2)),
    R.q 27 (.fld 0 (R.t 3)),
    R.q 28 (.load1 (R.t 27)),
    R.q 29 (.call 28 [(R.t 26), (R.t 28), (R.i 3)])])
  (.block 0 (.seq (.reg [R.q 41 (.bin .eql .no (R.t 29) (R.i 1)),
     R.q 40 (.mov (R.t 41))])
   (.cond (R.t 40)
     (.seq (.reg [R.q 43 (.fld 2 (R.t 3)),
       R.q 44 (.loadA 14 (R.t 43)),
       R.q 45 (.call 19 [(R.t 44), R.tt]),
       R.q 42 (.mov (R.t 45)),
       R.q 46 (.ext 0 (R.t 42)),
       R.q 47 (.ext 1 (R.t 42)),
       R.q 48 (.fld 0 (R.t 7)),
       R.e (.store 1 (R.t 48) (R.t 46))])
     (.seq (.seq (.reg [R.q 49 (.mov (R.t 2)),
       R.q 50 (.fld 0 (R.t 3)),
       R.q 51 (.load1 (R.t 50)),
       R.q 52 (.call 28 [(R.t 49), (R.t 51), (R.i 4)]),
       R.q 53 (.bin .eql .no (R.t 52) (R.i 1))])
     (.cond (R.t 53)
       (.reg [R.q 54 (.fld 2 (R.t 3)),
         R.q 55 (.fld 0 (R.t 54)),
         R.q 56 (.load1 (R.t 55)),
         R.q 57 (.fld 0 (R.t 7)),
         R.e (.store 1 (R.t 57) (R.t 56))])
       .skip))
     (.seq (.reg [R.q 58 (.fld 1 (R.t 3)),
       R.q 59 (.load1 (R.t 58)),
       R.q 60 (.bin .eql .no (R.t 59) (R.i 1)),
       R.q 61 (.mov (R.t 60)),
       R.g 62 (.loadA 4 (R.t 4)) 61 true,
       R.g 63 (.fld 2 (R.t 3)) 61 true,
       R.g 64 (.fld 2 (R.t 63)) 61 true,
       R.g 65 (.load1 (R.t 64)) 61 true,
       R.g 66 (.call 62 [(R.t 62), (R.t 65)]) 61 true,
       R.g 67 (.un .not (R.t 66)) 61 true,
       R.q 68 (.pick (R.t 61) (R.t 67) R.ff),
       R.q 69 (.mov (R.t 68)),
       R.g 70 (.fld 3 (R.t 4)) 69 true,
       R.g 71 (.load1 (R.t 70)) 69 true,
       R.g 72 (.bin .and .no (R.t 71) (R.i 4)) 69 true,
       R.g 73 (.bin .eql .no (R.t 72) (R.i 0)) 69 true,
       R.q 74 (.pick (R.t 69) (R.t 73) R.ff)])
     (.cond (R.t 74)
       (.reg [R.q 75 (.fld 0 (R.t 7)),
         R.q 76 (.load1 (R.t 75)),
         R.q 77 (.bin .andNot .no (R.t 76) (R.i 1024)),
         R.q 78 (.fld 0 (R.t 7)),
         R.e (.store 1 (R.t 78) (R.t 77))])
       .skip))))
     (.seq (.reg [R.q 80 (.bin .eql .no (R.t 29) (R.i 2)),
       R.q 79 (.mov (R.t 80))])
     (.cond (R.t 79)
       (.reg [R.q 82 (.fld 2 (R.t 3)),
         R.q 83 (.loadA 14 (R.t 82)),
         R.q 84 (.call 19 [(R.t 83), R.ff]),
         R.q 81 (.mov (R.t 84)),
         R.q 85 (.ext 0 (R.t 81)),
         R.q 86 (.ext 1 (R.t 81)),
         R.q 87 (.fld 0 (R.t 7)),
         R.e (.store 1 (R.t 87) (R.t 85))])
       (.seq (.reg [R.q 30 (.fld 1 (R.t 3)),
         R.q 31 (.load1 (R.t 30)),
         R.q 32 (.call 16 [(R.t 31)]),
         R.q 33 (.fld 0 (R.t 7)),
         R.e (.store 1 (R.t 33) (R.t 32))])
       (.seq (.reg [R.q 34 (.mov (R.t 2)),
         R.q 35 (.fld 0 (R.t 3)),
         R.q 36 (.load1 (R.t 35)),
         R.q 37 (.call 28 [(R.t 34), (R.t 36), (R.i 10)]),
         R.q 38 (.bin .eql .no (R.t 37) (R.i 1))])
       (.cond (R.t 38)
         (.reg [R.q 39 (.fld 0 (R.t 7)),
           R.e (.store 1 (R.t 39) (R.i 0))])
         .skip))))))))))
  (.seq (.mark (.seq (.reg [R.q 88 (.fld 1 (R.t 3)),
    R.q 89 (.load1 (R.t 88)),
    R.q 90 (.bin .eql .no (R.t 89) (R.i 3))])
  (.cond (R.t 90)
    (.reg [R.q 91 (.fld 0 (R.t 7)),
      R.e (.store 1 (R.t 91) (R.i 511))])
    .skip)))
  (.seq (.mark (.seq (.reg [R.q 92 (.mov (R.t 2)),
    R.q 93 (.fld 0 (R.t 3)),
    R.q 94 (.load1 (R.t 93)),
    R.q 95 (.call 28 [(R.t 92), (R.t 94), (R.i 4)]),
    R.q 96 (.bin .eql .no (R.t 95) (R.i 1))])
  (.cond (R.t 96)
    (.reg [R.q 97 (.fld 2 (R.t 3)),
      R.q 98 (.fld 5 (R.t 97)),
      R.q 99 (.load1 (R.t 98)),
      R.q 100 (.fld 5 (R.t 7)),
      R.e (.store 1 (R.t 100) (R.t 99))])
    .skip)))
  (.seq (.mark (.seq (.reg [R.q 101 (.mov (R.t 2)),
    R.q 102 (.fld 0 (R.t 3)),
    R.q 103 (.load1 (R.t 102)),
    R.q 104 (.call 28 [(R.t 101), (R.t 103), (R.i 5)]),
    R.q 105 (.bin .eql .no (R.t 104) (R.i 1))])
  (.cond (R.t 105)
    (.reg [R.q 106 (.fld 2 (R.t 3)),
      R.q 107 (.fld 6 (R.t 106)),
      R.q 108 (.load1 (R.t 107)),
      R.q 109 (.fld 6 (R.t 7)),
      R.e (.store 1 (R.t 109) (R.t 108))])
    .skip)))
  (.seq (.mark (.seq (.reg [R.q 110 (.mov (R.t 2)),
    R.q 111 (.fld 0 (R.t 3)),
    R.q 112 (.load1 (R.t 111)),
    R.q 113 (.call 28 [(R.t 110), (R.t 112), (R.i 6)])])
  (.block 1 (.seq (.reg [R.q 115 (.bin .eql .no (R.t 113) (R.i 1)),
     R.q 114 (.mov (R.t 115))])
   (.cond (R.t 114)
     (.reg [R.q 116 (.fld 2 (R.t 3)),
       R.q 117 (.fld 7 (R.t 116)),
       R.q 118 (.load1 (R.t 117)),
       R.q 119 (.fld 7 (R.t 7)),
       R.e (.store 1 (R.t 119) (R.t 118))])
     (.seq (.reg [R.q 121 (.bin .eql .no (R.t 113) (R.i 2)),
       R.q 120 (.mov (R.t 121))])
     (.cond (R.t 120)
       (.reg [R.q 122 (.fld 2 (R.t 3)),
         R.q 123 (.fld 7 (R.t 122)),
         R.q 124 (.load1 (R.t 123)),
         R.q 125 (.call 22 [(R.t 124)]),
         R.q 126 (.fld 7 (R.t 7)),
         R.e (.store 1 (R.t 126) (R.t 125))])
       .skip)))))))
  (.seq (.mark (.seq (.reg [R.q 127 (.mov (R.t 2)),
    R.q 128 (.fld 0 (R.t 3)),
    R.q 129 (.load1 (R.t 128)),
    R.q 130 (.call 28 [(R.t 127), (R.t 129), (R.i 7)]),
    R.q 131 (.bin .eql .no (R.t 130) (R.i 1))])
  (.cond (R.t 131)
    (.reg [R.q 132 (.fld 2 (R.t 3)),
      R.q 133 (.fld 8 (R.t 132)),
      R.q 134 (.loadA 5 (R.t 133)),
      R.q 135 (.fld 8 (R.t 7)),
      R.e (.store 5 (R.t 135) (R.t 134))])
    .skip)))
  (.seq (.mark (.seq (.reg [R.q 136 (.mov (R.t 2)),
    R.q 137 (.fld 0 (R.t 3)),
    R.q 138 (.load1 (R.t 137)),
    R.q 139 (.call 28 [(R.t 136), (R.t 138), (R.i 8)]),
    R.q 140 (.bin .eql .no (R.t 139) (R.i 1))])
  (.cond (R.t 140)
    (.reg [R.q 141 (.fld 2 (R.t 3)),
      R.q 142 (.fld 3 (R.t 141)),
      R.q 143 (.loadA 2 (R.t 142)),
      R.q 144 (.fld 3 (R.t 7)),
      R.e (.store 2 (R.t 144) (R.t 143))])
    .skip)))
  (.seq (.mark (.seq (.reg [R.q 145 (.mov (R.t 2)),
    R.q 146 (.fld 0 (R.t 3)),
    R.q 147 (.load1 (R.t 146)),
    R.q 148 (.call 28 [(R.t 145), (R.t 147), (R.i 9)])])
  (.block 2 (.seq (.reg [R.q 150 (.bin .eql .no (R.t 148) (R.i 1)),
     R.q 149 (.mov (R.t 150))])
   (.cond (R.t 149)
     (.reg [R.q 151 (.fld 2 (R.t 3)),
       R.q 152 (.fld 13 (R.t 151)),
       R.q 153 (.load1 (R.t 152)),
       R.q 154 (.fld 13 (R.t 7)),
       R.e (.store 1 (R.t 154) (R.t 153))])
     (.seq (.reg [R.q 156 (.bin .eql .no (R.t 148) (R.i 2)),
       R.q 155 (.mov (R.t 156))])
     (.cond (R.t 155)
       (.reg [R.q 157 (.fld 2 (R.t 3)),
         R.q 158 (.fld 13 (R.t 157)),
         R.q 159 (.load1 (R.t 158)),
         R.q 160 (.bin .andNot .no (R.t 159) (R.i 3)),
         R.q 161 (.fld 13 (R.t 7)),
         R.e (.store 1 (R.t 161) (R.t 160))])
       .skip)))))))
  (.seq (.reg [R.q 162 (.loadA 14 (R.t 7)),
    R.e (.store 14 (R.t 6) (R.t 162))])
  .ret))))))))))))
def r21_Degraded.rs : List RRes := [.cellA 6 14]
theorem r21_Degraded.of {xs : List AV} {d : Nat} {B : BL} {K : ARes → BL → Prop} (hn : xs.length = 3) (hB : onlyOuter B = true) (h : awp ⟨PT, 163, exitX r21_Degraded.rs K⟩ 10000 [.code r21_Degraded.rc] ⟨params 0 xs, B, .nil⟩) : CallAt PT r21_Degraded xs d B K :=
  call_of_awp 10000 Try.func32 rfl (by kernel_rfl) (by kernel_rfl) (by kernel_rfl) (by rw [hn]; decide) hB h

/-! gripsack/gripsacklaw15.Make -/
abbrev l15_Make : Nat := 33
def l15_Make.rc : RC :=
  (.seq (.reg [R.q 6 (.alloc (.cons (.str fun _ => []) (.cons (R.z 0) (.cons (R.z 0) (.cons (R.z 0) (.cons (R.z 0) (.cons (R.z 0) (.cons (R.z 0) (.cons .nsl (.cons .nsl (.cons .nsl (.cons (R.z 0) (.cons (.int .u64 fun _ => 0) (.cons (.int .u64 fun _ => 0) (.cons .ff (.cons (R.z 0) (.cons (R.z 0) (.cons (.str fun _ => []) (.cons (.str fun _ => []) (.cons (R.z 0) (.cons (R.z 0) .nil)))))))))))))))))))))])
  (.seq (.reg [R.q 9 (.mov (R.t 1)),
    R.q 10 (.mov (R.t 0)),
    R.q 11 (.build (.cons (.str fun _ => []) (.cons (R.z 0) (.cons (R.z 0) (.cons (R.z 0) (.cons (R.z 0) (.cons (R.z 0) (.cons (R.z 0) (.cons .nsl (.cons .nsl (.cons .nsl (.cons (R.z 0) (.cons (.int .u64 fun _ => 0) (.cons (.int .u64 fun _ => 0) (.cons .ff (.cons (R.z 0) (.cons (R.z 0) (.cons (.str fun _ => []) (.cons (.str fun _ => []) (.cons (R.z 0) (.cons (R.z 0) .nil)))))))))))))))))))) [(0, 1, (R.t 9)), (1, 1, (R.t 10))]),
    R.q 7 (.alloc (.cons (.str fun _ => []) (.cons (R.z 0) (.cons (R.z 0) (.cons (R.z 0) (.cons (R.z 0) (.cons (R.z 0) (.cons (R.z 0) (.cons .nsl (.cons .nsl (.cons .nsl (.cons (R.z 0) (.cons (.int .u64 fun _ => 0) (.cons (.int .u64 fun _ => 0) (.cons .ff (.cons (R.z 0) (.cons (R.z 0) (.cons (.str fun _ => []) (.cons (.str fun _ => []) (.cons (R.z 0) (.cons (R.z 0) .nil))))))))))))))))))))),
    R.e (.store 20 (R.t 7) (R.t 11))])
  (.seq (.reg [R.q 8 (.mov (R.i 0))])
  (.seq (.seq (.reg [R.q 12 (.mov (R.t 2)),
    R.q 13 (.len (R.t 12)),
    R.q 14 (.bin .gtr .no (R.t 13) (R.i 0))])
  (.cond (R.t 14)
    (.reg [R.q 15 (.mov (R.t 2)),
      R.q 16 (.idx 1 (R.t 15) (R.i 0)),
      R.q 17 (.load1 (R.t 16)),
      R.q 18 (.conv .i64 (R.t 17)),
      R.q 8 (.mov (R.t 18))])
    .skip))
  (.seq (.seq (.reg [R.q 19 (.mov (R.t 0)),
    R.q 20 (.bin .eql .no (R.t 19) (R.i 2))])
  (.cond (R.t 20)
    (.seq (.reg [R.q 21 (.mov (R.t 2)),
      R.q 22 (.mov (R.t 2)),
      R.q 23 (.len (R.t 22)),
      R.q 24 (.mm false [(R.t 23), (R.i 4)]),
      R.q 25 (.slice 1 (R.t 21) none (some (R.t 24))),
      R.q 26 (.call 63 [(R.t 25)]),
      R.q 27 (.fld 17 (R.t 7)),
      R.e (.store 1 (R.t 27) (R.t 26))])
    (.seq (.reg [R.q 28 (.loadA 20 (R.t 7)),
      R.e (.store 20 (R.t 6) (R.t 28))])
    .ret))
    .skip))
  (.seq (.reg [R.q 29 (.mov (R.t 2)),
    R.q 30 (.mov (R.t 0)),
    R.q 31 (.call 37 [(R.t 29), (R.t 30)]),
    R.q 32 (.fld 2 (R.t 7)),
    R.e (.store 14 (R.t 32) (R.t 31))])
  (.seq (.seq (.reg [R.q 33 (.mov (R.t 0))])
  (.block 0 (.seq (.reg [R.q 35 (.bin .eql .no (R.t 33) (R.i 1)),
     R.q 34 (.mov (R.t 35))])
   (.cond (R.t 34)
     (.reg [R.q 36 (.mov (R.t 8)),
       R.q 37 (.bin .mul .no (R.t 36) (R.i 3)),
       R.q 38 (.mks 1 1 (.cons (.int .u8 fun _ => 0) .nil) (R.t 37) (R.t 37)),
       R.q 39 (.b2s (R.t 38)),
       R.q 40 (.bin .add .no (R.t 39) (.val (.str fun _ => [101, 110, 100]))),
       R.q 41 (.fld 16 (R.t 7)),
       R.e (.store 1 (R.t 41) (R.t 40))])
     (.seq (.reg [R.q 43 (.bin .eql .no (R.t 33) (R.i 3)),
       R.q 42 (.mov (R.t 43))])
     (.cond (R.t 42)
       (.reg [R.q 44 (.mov (R.t 2)),
         R.q 45 (.mov (R.t 2)),
         R.q 46 (.len (R.t 45)),
         R.q 47 (.mm false [(R.t 46), (R.i 6)]),
         R.q 48 (.slice 1 (R.t 44) none (some (R.t 47))),
         R.q 49 (.call 63 [(R.t 48)]),
         R.q 50 (.bin .add .no (.val (.str fun _ => [46, 46, 47])) (R.t 49)),
         R.q 51 (.fld 17 (R.t 7)),
         R.e (.store 1 (R.t 51) (R.t 50))])
       (.seq (.seq (.reg [R.q 53 (.bin .eql .no (R.t 33) (R.i 4)),
         R.q 52 (.mov (R.t 53))])
       (.cond (R.t 52)
         .skip
         (.reg [R.q 54 (.bin .eql .no (R.t 33) (R.i 5)),
           R.q 52 (.mov (R.t 54))])))
       (.cond (R.t 52)
         (.seq (.reg [R.q 55 (.mov (R.t 8)),
           R.q 56 (.fld 18 (R.t 7)),
           R.e (.store 1 (R.t 56) (R.t 55))])
         (.reg [R.q 57 (.mov (R.t 8)),
           R.q 58 (.bin .mul .no (R.t 57) (R.i 200)),
           R.q 59 (.fld 19 (R.t 7)),
           R.e (.store 1 (R.t 59) (R.t 58))]))
         .skip))))))))
  (.seq (.reg [R.q 60 (.loadA 20 (R.t 7)),
    R.e (.store 20 (R.t 6) (R.t 60))])
  .ret))))))))
def l15_Make.rs : List RRes := [.cellA 6 20]
theorem l15_Make.of {xs : List AV} {d : Nat} {B : BL} {K : ARes → BL → Prop} (hn : xs.length = 3) (hB : onlyOuter B = true) (h : awp ⟨PT, 61, exitX l15_Make.rs K⟩ 10000 [.code l15_Make.rc] ⟨params 0 xs, B, .nil⟩) : CallAt PT l15_Make xs d B K :=
  call_of_awp 10000 Try.func33 rfl (by kernel_rfl) (by kernel_rfl) (by kernel_rfl) (by rw [hn]; decide) hB h

/-! gripsack/gripsacklaw18.Cred -/
abbrev l18_Cred : Nat := 34
def l18_Cred.rc : RC :=
  (.seq (.reg [R.q 2 (.alloc (.cons (R.z 0) (.cons (R.z 0) (.cons .nsl (.cons (R.z 0) .nil)))))])
  (.seq (.reg [R.q 5 (.build (.cons (R.z 0) (.cons (R.z 0) (.cons .nsl (.cons (R.z 0) .nil)))) []),
    R.q 3 (.alloc (.cons (R.z 0) (.cons (R.z 0) (.cons .nsl (.cons (R.z 0) .nil))))),
    R.e (.store 4 (R.t 3) (R.t 5))])
  (.seq (.seq (.reg [R.q 6 (.mov (R.t 0)),
    R.q 7 (.len (R.t 6)),
    R.q 8 (.bin .gtr .no (R.t 7) (R.i 0))])
  (.cond (R.t 8)
    (.reg [R.q 9 (.mov (R.t 0)),
      R.q 10 (.idx 1 (R.t 9) (R.i 0)),
      R.q 11 (.load1 (R.t 10)),
      R.q 12 (.conv .i64 (R.t 11)),
      R.q 13 (.bin .rem .no (R.t 12) (R.i 8)),
      R.q 14 (.fld 0 (R.t 3)),
      R.e (.store 1 (R.t 14) (R.t 13))])
    .skip))
  (.seq (.seq (.reg [R.q 15 (.mov (R.t 0)),
    R.q 16 (.len (R.t 15)),
    R.q 17 (.bin .gtr .no (R.t 16) (R.i 1))])
  (.cond (R.t 17)
    (.reg [R.q 18 (.mov (R.t 0)),
      R.q 19 (.idx 1 (R.t 18) (R.i 1)),
      R.q 20 (.load1 (R.t 19)),
      R.q 21 (.conv .i64 (R.t 20)),
      R.q 22 (.bin .rem .no (R.t 21) (R.i 8)),
      R.q 23 (.fld 1 (R.t 3)),
      R.e (.store 1 (R.t 23) (R.t 22))])
    .skip))
  (.seq (.seq (.reg [R.q 4 (.mov (R.i 2))])
  (.block 0 (.loop
     (.seq (.seq (.reg [R.q 24 (.mov (R.t 4)),
       R.q 25 (.mov (R.t 0)),
       R.q 26 (.len (R.t 25)),
       R.q 27 (.bin .lss .no (R.t 24) (R.t 26)),
       R.q 28 (.mov (R.t 27)),
       R.g 29 (.mov (R.t 4)) 28 true,
       R.g 30 (.bin .lss .no (R.t 29) (R.i 6)) 28 true,
       R.q 31 (.pick (R.t 28) (R.t 30) R.ff)])
     (.cond (R.t 31)
       .skip
       (.exit 0)))
     (.seq (.block 1 (.regd [R.f (R.q 34 (.fld 2 (R.t 3))),
        R.f (R.q 35 (.load1 (R.t 34))),
        R.f (R.q 36 (.mov (R.t 0))),
        R.f (R.q 37 (.mov (R.t 4))),
        R.f (R.q 38 (.idx 1 (R.t 36) (R.t 37))),
        R.f (R.q 39 (.load1 (R.t 38))),
        R.f (R.q 40 (.conv .i64 (R.t 39))),
        R.f (R.q 41 (.bin .rem .no (R.t 40) (R.i 16))),
        R.f (R.q 42 (.bslice 1 (.cons (R.z 0) .nil) 1 [(0, 1, (R.t 41))])),
        R.s (R.q 43 (.append 1 8 (R.t 35) (R.t 42))) [],
        R.f (R.q 44 (.fld 2 (R.t 3))),
        R.s (R.e (.store 1 (R.t 44) (R.t 43))) []]))
     (.reg [R.q 32 (.mov (R.t 4)),
       R.q 33 (.bin .add .no (R.t 32) (R.i 1)),
       R.q 4 (.mov (R.t 33))]))))))
  (.seq (.reg [R.q 45 (.loadA 4 (R.t 3)),
    R.e (.store 4 (R.t 2) (R.t 45))])
  .ret))))))
def l18_Cred.rs : List RRes := [.cellA 2 4]
theorem l18_Cred.of {xs : List AV} {d : Nat} {B : BL} {K : ARes → BL → Prop} (hn : xs.length = 1) (hB : onlyOuter B = true) (h : awp ⟨PT, 46, exitX l18_Cred.rs K⟩ 10000 [.code l18_Cred.rc] ⟨params 0 xs, B, .nil⟩) : CallAt PT l18_Cred xs d B K :=
  call_of_awp 10000 Try.func34 rfl (by kernel_rfl) (by kernel_rfl) (by kernel_rfl) (by rw [hn]; decide) hB h

/-! gripsack/gripsackref9.Plain -/
abbrev r9_Plain : Nat := 35
def r9_Plain.rc : RC :=
  (.seq (.reg [R.q 6 (.alloc (.cons (R.z 0) (.cons (R.z 0) (.cons (R.z 0) (.cons (R.z 0) (.cons (R.z 0) (.cons .nsl (.cons .nsl (.cons .nsl (.cons (R.z 0) (.cons (.int .u64 fun _ => 0) (.cons (.int .u64 fun _ => 0) (.cons .ff (.cons (R.z 0) (.cons (R.z 0) .nil)))))))))))))))])
  (.seq (.reg [R.q 7 (.mov (R.t 0)),
    R.q 8 (.mov (R.t 1)),
    R.q 9 (.mov (R.t 2)),
    R.q 10 (.build (.cons (R.z 0) (.cons (R.z 0) (.cons (R.z 0) (.cons (R.z 0) (.cons (R.z 0) (.cons .nsl (.cons .nsl (.cons .nsl (.cons (R.z 0) (.cons (.int .u64 fun _ => 0) (.cons (.int .u64 fun _ => 0) (.cons .ff (.cons (R.z 0) (.cons (R.z 0) .nil)))))))))))))) [(0, 1, (R.t 7)), (1, 1, (R.t 8)), (2, 1, (R.t 9))]),
    R.e (.store 14 (R.t 6) (R.t 10))])
  .ret))
def r9_Plain.rs : List RRes := [.cellA 6 14]
theorem r9_Plain.of {xs : List AV} {d : Nat} {B : BL} {K : ARes → BL → Prop} (hn : xs.length = 3) (hB : onlyOuter B = true) (h : awp ⟨PT, 11, exitX r9_Plain.rs K⟩ 10000 [.code r9_Plain.rc] ⟨params 0 xs, B, .nil⟩) : CallAt PT r9_Plain xs d B K :=
  call_of_awp 10000 Try.func35 rfl (by kernel_rfl) (by kernel_rfl) (by kernel_rfl) (by rw [hn]; decide) hB h

/-! gripsack/gripsackref9.MayMeta -/
abbrev r9_MayMeta : Nat := 36
def r9_MayMeta.rc : RC :=
  (.seq (.reg [R.q 2 (.box (R.t 0)),
    R.q 4 (.mov R.ff)])
  (.seq (.seq (.reg [R.q 5 (.mov (R.t 1)),
    R.q 6 (.bin .neq .no (R.t 5) (R.i 1)),
    R.q 7 (.mov (R.t 6)),
    R.g 8 (.mov (R.t 1)) 7 true,
    R.g 9 (.bin .lss .no (R.t 8) (R.i 3)) 7 true,
    R.g 10 (.mov (R.t 9)) 7 true,
    R.g 11 (.mov (R.t 1)) 10 false,
    R.g 12 (.bin .gtr .no (R.t 11) (R.i 7)) 10 false,
    R.g 13 (.pick (R.t 10) R.tt (R.t 12)) 7 true,
    R.q 14 (.pick (R.t 7) (R.t 13) R.ff)])
  (.cond (R.t 14)
    (.seq (.reg [R.q 4 (.mov R.ff)])
    .ret)
    .skip))
  (.seq (.seq (.reg [R.q 15 (.fld 0 (R.t 2)),
    R.q 16 (.load1 (R.t 15)),
    R.q 17 (.bin .lss .no (R.t 16) (R.i 0)),
    R.q 18 (.mov (R.t 17)),
    R.g 19 (.fld 0 (R.t 2)) 18 false,
    R.g 20 (.load1 (R.t 19)) 18 false,
    R.g 21 (.bin .gtr .no (R.t 20) (R.i 4095)) 18 false,
    R.q 22 (.pick (R.t 18) R.tt (R.t 21)),
    R.q 23 (.mov (R.t 22)),
    R.g 24 (.fld 1 (R.t 2)) 23 false,
    R.g 25 (.load1 (R.t 24)) 23 false,
    R.g 26 (.call 64 [(R.t 25)]) 23 false,
    R.g 27 (.un .not (R.t 26)) 23 false,
    R.q 28 (.pick (R.t 23) R.tt (R.t 27)),
    R.q 29 (.mov (R.t 28)),
    R.g 30 (.fld 2 (R.t 2)) 29 false,
    R.g 31 (.load1 (R.t 30)) 29 false,
    R.g 32 (.call 64 [(R.t 31)]) 29 false,
    R.g 33 (.un .not (R.t 32)) 29 false,
    R.q 34 (.pick (R.t 29) R.tt (R.t 33)),
    R.q 35 (.mov (R.t 34)),
    R.g 36 (.fld 3 (R.t 2)) 35 false,
    R.g 37 (.loadA 2 (R.t 36)) 35 false,
    R.g 38 (.call 65 [(R.t 37)]) 35 false,
    R.g 39 (.un .not (R.t 38)) 35 false,
    R.q 40 (.pick (R.t 35) R.tt (R.t 39)),
    R.q 41 (.mov (R.t 40)),
    R.g 42 (.fld 13 (R.t 2)) 41 false,
    R.g 43 (.load1 (R.t 42)) 41 false,
    R.g 44 (.call 66 [(R.t 43)]) 41 false,
    R.g 45 (.un .not (R.t 44)) 41 false,
    R.q 46 (.pick (R.t 41) R.tt (R.t 45)),
    R.q 47 (.mov (R.t 46)),
    R.g 48 (.fld 7 (R.t 2)) 47 false,
    R.g 49 (.load1 (R.t 48)) 47 false,
    R.g 50 (.call 67 [(R.t 49)]) 47 false,
    R.g 51 (.un .not (R.t 50)) 47 false,
    R.q 52 (.pick (R.t 47) R.tt (R.t 51))])
  (.cond (R.t 52)
    (.seq (.reg [R.q 4 (.mov R.ff)])
    .ret)
    .skip))
  (.seq (.seq (.regd [R.f (R.q 53 (.fld 5 (R.t 2))),
    R.f (R.q 54 (.load1 (R.t 53))),
    R.f (R.q 55 (.len (R.t 54))),
    R.f (R.q 56 (.bin .gtr .no (R.t 55) (R.i 0))),
    R.f (R.q 57 (.mov (R.t 56))),
    R.f (R.g 58 (.fld 5 (R.t 2)) 57 true),
    R.f (R.g 59 (.load1 (R.t 58)) 57 true),
    R.s (R.g 60 (.call 68 [(R.t 59)]) 57 true) [],
    R.f (R.g 61 (.un .not (R.t 60)) 57 true),
    R.f (R.g 62 (.mov (R.t 61)) 57 true),
    R.f (R.g 63 (.fld 5 (R.t 2)) 62 false),
    R.f (R.g 64 (.load1 (R.t 63)) 62 false),
    R.f (R.g 66 (.fld 0 (R.t 2)) 62 false),
    R.f (R.g 67 (.load1 (R.t 66)) 62 false),
    R.f (R.g 68 (.bin .and .no (R.t 67) (R.i 511)) 62 false),
    R.s (R.g 65 (.call 69 [(R.t 64)]) 62 false) [12, 13, 14],
    R.f (R.g 69 (.bin .neq .no (R.t 65) (R.t 68)) 62 false),
    R.f (R.g 70 (.pick (R.t 62) R.tt (R.t 69)) 57 true),
    R.f (R.q 71 (.pick (R.t 57) (R.t 70) R.ff))])
  (.cond (R.t 71)
    (.seq (.reg [R.q 4 (.mov R.ff)])
    .ret)
    .skip))
  (.seq (.seq (.reg [R.q 72 (.fld 6 (R.t 2)),
    R.q 73 (.load1 (R.t 72)),
    R.q 74 (.len (R.t 73)),
    R.q 75 (.bin .gtr .no (R.t 74) (R.i 0)),
    R.q 76 (.mov (R.t 75)),
    R.g 77 (.mov (R.t 1)) 76 true,
    R.g 78 (.bin .neq .no (R.t 77) (R.i 6)) 76 true,
    R.g 79 (.mov (R.t 78)) 76 true,
    R.g 80 (.fld 6 (R.t 2)) 79 false,
    R.g 81 (.load1 (R.t 80)) 79 false,
    R.g 82 (.call 68 [(R.t 81)]) 79 false,
    R.g 83 (.un .not (R.t 82)) 79 false,
    R.g 84 (.pick (R.t 79) R.tt (R.t 83)) 76 true,
    R.q 85 (.pick (R.t 76) (R.t 84) R.ff)])
  (.cond (R.t 85)
    (.seq (.reg [R.q 4 (.mov R.ff)])
    .ret)
    .skip))
  (.seq (.seq (.reg [R.q 86 (.fld 8 (R.t 2)),
    R.q 87 (.loadA 5 (R.t 86)),
    R.q 88 (.call 70 [(R.t 87)]),
    R.q 89 (.un .not (R.t 88)),
    R.q 90 (.mov (R.t 89)),
    R.g 91 (.fld 8 (R.t 2)) 90 false,
    R.g 92 (.fld 0 (R.t 91)) 90 false,
    R.g 93 (.load1 (R.t 92)) 90 false,
    R.g 94 (.bin .neq .no (R.t 93) (R.i 0)) 90 false,
    R.g 95 (.mov (R.t 94)) 90 false,
    R.g 96 (.mov (R.t 1)) 95 true,
    R.g 97 (.bin .neq .no (R.t 96) (R.i 1)) 95 true,
    R.g 98 (.pick (R.t 95) (R.t 97) R.ff) 90 false,
    R.q 99 (.pick (R.t 90) R.tt (R.t 98))])
  (.cond (R.t 99)
    (.seq (.reg [R.q 4 (.mov R.ff)])
    .ret)
    .skip))
  (.seq (.reg [R.q 100 (.mov (R.t 1)),
    R.q 101 (.bin .neq .no (R.t 100) (R.i 3)),
    R.q 102 (.mov (R.t 101)),
    R.g 103 (.fld 0 (R.t 2)) 102 false,
    R.g 104 (.load1 (R.t 103)) 102 false,
    R.g 105 (.bin .eql .no (R.t 104) (R.i 511)) 102 false,
    R.g 106 (.mov (R.t 105)) 102 false,
    R.g 107 (.fld 5 (R.t 2)) 106 true,
    R.g 108 (.load1 (R.t 107)) 106 true,
    R.g 109 (.len (R.t 108)) 106 true,
    R.g 110 (.bin .eql .no (R.t 109) (R.i 0)) 106 true,
    R.g 111 (.pick (R.t 106) (R.t 110) R.ff) 102 false,
    R.g 112 (.mov (R.t 111)) 102 false,
    R.g 113 (.fld 13 (R.t 2)) 112 true,
    R.g 114 (.load1 (R.t 113)) 112 true,
    R.g 115 (.bin .eql .no (R.t 114) (R.i 0)) 112 true,
    R.g 116 (.pick (R.t 112) (R.t 115) R.ff) 102 false,
    R.q 117 (.pick (R.t 102) R.tt (R.t 116)),
    R.q 4 (.mov (R.t 117))])
  .ret)))))))
def r9_MayMeta.rs : List RRes := [.tmp 4]
theorem r9_MayMeta.of {xs : List AV} {d : Nat} {B : BL} {K : ARes → BL → Prop} (hn : xs.length = 2) (hB : onlyOuter B = true) (h : awp ⟨PT, 118, exitX r9_MayMeta.rs K⟩ 10000 [.code r9_MayMeta.rc] ⟨params 0 xs, B, .nil⟩) : CallAt PT r9_MayMeta xs d B K :=
  call_of_awp 10000 Try.func36 rfl (by kernel_rfl) (by kernel_rfl) (by kernel_rfl) (by rw [hn]; decide) hB h

/-! gripsack/gripsacklaw14.Make -/
abbrev l14_Make : Nat := 37
def l14_Make.rc : RC :=
  (.seq (.reg [R.q 4 (.alloc (.cons (R.z 0) (.cons (R.z 0) (.cons (R.z 0) (.cons (R.z 0) (.cons (R.z 0) (.cons .nsl (.cons .nsl (.cons .nsl (.cons (R.z 0) (.cons (.int .u64 fun _ => 0) (.cons (.int .u64 fun _ => 0) (.cons .ff (.cons (R.z 0) (.cons (R.z 0) .nil)))))))))))))))])
  (.seq (.reg [R.q 8 (.mks 1 8 (.cons (R.z 0) .nil) (R.i 12) (R.i 12)),
    R.q 5 (.mov (R.t 8))])
  (.seq (.seq (.reg [R.q 6 (.mov (R.i 0))])
  (.block 0 (.loop
     (.seq (.seq (.reg [R.q 9 (.mov (R.t 6)),
       R.q 10 (.bin .lss .no (R.t 9) (R.i 12)),
       R.q 11 (.mov (R.t 10)),
       R.g 12 (.mov (R.t 6)) 11 true,
       R.g 13 (.mov (R.t 0)) 11 true,
       R.g 14 (.len (R.t 13)) 11 true,
       R.g 15 (.bin .lss .no (R.t 12) (R.t 14)) 11 true,
       R.q 16 (.pick (R.t 11) (R.t 15) R.ff)])
     (.cond (R.t 16)
       .skip
       (.exit 0)))
     (.seq (.block 1 (.reg [R.q 19 (.mov (R.t 5)),
        R.q 20 (.mov (R.t 6)),
        R.q 21 (.mov (R.t 0)),
        R.q 22 (.mov (R.t 6)),
        R.q 23 (.idx 1 (R.t 21) (R.t 22)),
        R.q 24 (.load1 (R.t 23)),
        R.q 25 (.conv .i64 (R.t 24)),
        R.q 26 (.idx 1 (R.t 19) (R.t 20)),
        R.e (.store 1 (R.t 26) (R.t 25))]))
     (.reg [R.q 17 (.mov (R.t 6)),
       R.q 18 (.bin .add .no (R.t 17) (R.i 1)),
       R.q 6 (.mov (R.t 18))]))))))
  (.seq (.regd [R.f (R.q 27 (.mov (R.t 5))),
    R.f (R.q 28 (.idx 1 (R.t 27) (R.i 0))),
    R.f (R.q 29 (.load1 (R.t 28))),
    R.f (R.q 30 (.bin .mul .no (R.t 29) (R.i 16))),
    R.f (R.q 31 (.mov (R.t 5))),
    R.f (R.q 32 (.idx 1 (R.t 31) (R.i 1))),
    R.f (R.q 33 (.load1 (R.t 32))),
    R.f (R.q 34 (.bin .rem .no (R.t 33) (R.i 16))),
    R.f (R.q 35 (.bin .add .no (R.t 30) (R.t 34))),
    R.f (R.q 36 (.mov (R.t 5))),
    R.f (R.q 37 (.idx 1 (R.t 36) (R.i 2))),
    R.f (R.q 38 (.load1 (R.t 37))),
    R.f (R.q 39 (.bin .rem .no (R.t 38) (R.i 6))),
    R.f (R.q 40 (.mov (R.t 5))),
    R.f (R.q 41 (.idx 1 (R.t 40) (R.i 3))),
    R.f (R.q 42 (.load1 (R.t 41))),
    R.f (R.q 43 (.bin .rem .no (R.t 42) (R.i 6))),
    R.f (R.q 44 (.mov (R.t 5))),
    R.f (R.q 45 (.idx 1 (R.t 44) (R.i 4))),
    R.f (R.q 46 (.load1 (R.t 45))),
    R.f (R.q 47 (.bin .mul .no (R.t 46) (R.i 1000))),
    R.f (R.q 48 (.bin .sub .no (R.t 47) (R.i 50000))),
    R.f (R.q 49 (.mov (R.t 5))),
    R.f (R.q 50 (.idx 1 (R.t 49) (R.i 5))),
    R.f (R.q 51 (.load1 (R.t 50))),
    R.f (R.q 52 (.bin .rem .no (R.t 51) (R.i 2))),
    R.f (R.q 53 (.bin .mul .no (R.t 52) (R.i 500000000))),
    R.f (R.q 54 (.build (.cons (R.z 0) (.cons (R.z 0) .nil)) [(0, 1, (R.t 48)), (1, 1, (R.t 53))])),
    R.f (R.q 55 (.build (.cons (R.z 0) (.cons (R.z 0) (.cons (R.z 0) (.cons (R.z 0) (.cons (R.z 0) (.cons .nsl (.cons .nsl (.cons .nsl (.cons (R.z 0) (.cons (.int .u64 fun _ => 0) (.cons (.int .u64 fun _ => 0) (.cons .ff (.cons (R.z 0) (.cons (R.z 0) .nil)))))))))))))) [(0, 1, (R.t 35)), (1, 1, (R.t 39)), (2, 1, (R.t 43)), (3, 2, (R.t 54))])),
    R.f (R.q 7 (.alloc (.cons (R.z 0) (.cons (R.z 0) (.cons (R.z 0) (.cons (R.z 0) (.cons (R.z 0) (.cons .nsl (.cons .nsl (.cons .nsl (.cons (R.z 0) (.cons (.int .u64 fun _ => 0) (.cons (.int .u64 fun _ => 0) (.cons .ff (.cons (R.z 0) (.cons (R.z 0) .nil)))))))))))))))),
    R.s (R.e (.store 14 (R.t 7) (R.t 55))) []])
  (.seq (.seq (.reg [R.q 56 (.mov (R.t 0)),
    R.q 57 (.len (R.t 56)),
    R.q 58 (.bin .gtr .no (R.t 57) (R.i 12))])
  (.cond (R.t 58)
    (.reg [R.q 59 (.mov (R.t 0)),
      R.q 60 (.slice 1 (R.t 59) (some (R.i 12)) none),
      R.q 61 (.call 71 [(R.t 60)]),
      R.q 62 (.fld 7 (R.t 7)),
      R.e (.store 1 (R.t 62) (R.t 61))])
    .skip))
  (.seq (.seq (.reg [R.q 63 (.mov (R.t 1)),
    R.q 64 (.bin .eql .no (R.t 63) (R.i 3))])
  (.cond (R.t 64)
    (.seq (.reg [R.q 65 (.fld 0 (R.t 7)),
      R.e (.store 1 (R.t 65) (R.i 511))])
    (.seq (.reg [R.q 66 (.loadA 14 (R.t 7)),
      R.e (.store 14 (R.t 4) (R.t 66))])
    .ret))
    .skip))
  (.seq (.reg [R.q 67 (.mov (R.t 5)),
    R.q 68 (.idx 1 (R.t 67) (R.i 6)),
    R.q 69 (.load1 (R.t 68)),
    R.q 70 (.bin .rem .no (R.t 69) (R.i 16)),
    R.q 71 (.fld 13 (R.t 7)),
    R.e (.store 1 (R.t 71) (R.t 70))])
  (.seq (.seq (.reg [R.q 72 (.mov (R.t 5)),
    R.q 73 (.idx 1 (R.t 72) (R.i 7)),
    R.q 74 (.load1 (R.t 73)),
    R.q 75 (.bin .rem .no (R.t 74) (R.i 2)),
    R.q 76 (.bin .eql .no (R.t 75) (R.i 1))])
  (.cond (R.t 76)
    (.regd [R.f (R.q 77 (.mov (R.t 0))),
      R.f (R.q 78 (.slice 1 (R.t 77) (some (R.i 8)) none)),
      R.f (R.q 79 (.fld 0 (R.t 7))),
      R.f (R.q 80 (.load1 (R.t 79))),
      R.f (R.q 81 (.bin .and .no (R.t 80) (R.i 511))),
      R.s (R.q 82 (.call 38 [(R.t 78), (R.t 81)])) [],
      R.f (R.q 83 (.fld 5 (R.t 7))),
      R.s (R.e (.store 1 (R.t 83) (R.t 82))) []])
    .skip))
  (.seq (.seq (.reg [R.q 84 (.mov (R.t 1)),
    R.q 85 (.bin .eql .no (R.t 84) (R.i 6)),
    R.q 86 (.mov (R.t 85)),
    R.g 87 (.mov (R.t 5)) 86 true,
    R.g 88 (.idx 1 (R.t 87) (R.i 7)) 86 true,
    R.g 89 (.load1 (R.t 88)) 86 true,
    R.g 90 (.bin .rem .no (R.t 89) (R.i 4)) 86 true,
    R.g 91 (.bin .geq .no (R.t 90) (R.i 2)) 86 true,
    R.q 92 (.pick (R.t 86) (R.t 91) R.ff)])
  (.cond (R.t 92)
    (.regd [R.f (R.q 93 (.mov (R.t 0))),
      R.f (R.q 94 (.mov (R.t 0))),
      R.f (R.q 95 (.len (R.t 94))),
      R.f (R.q 96 (.mm false [(R.t 95), (R.i 9)])),
      R.f (R.q 97 (.slice 1 (R.t 93) (some (R.t 96)) none)),
      R.f (R.q 98 (.mov (R.t 5))),
      R.f (R.q 99 (.idx 1 (R.t 98) (R.i 9))),
      R.f (R.q 100 (.load1 (R.t 99))),
      R.s (R.q 101 (.call 38 [(R.t 97), (R.t 100)])) [],
      R.f (R.q 102 (.fld 6 (R.t 7))),
      R.s (R.e (.store 1 (R.t 102) (R.t 101))) []])
    .skip))
  (.seq (.seq (.reg [R.q 103 (.mov (R.t 1)),
    R.q 104 (.bin .eql .no (R.t 103) (R.i 1)),
    R.q 105 (.mov (R.t 104)),
    R.g 106 (.mov (R.t 5)) 105 true,
    R.g 107 (.idx 1 (R.t 106) (R.i 10)) 105 true,
    R.g 108 (.load1 (R.t 107)) 105 true,
    R.g 109 (.bin .rem .no (R.t 108) (R.i 3)) 105 true,
    R.g 110 (.bin .eql .no (R.t 109) (R.i 0)) 105 true,
    R.q 111 (.pick (R.t 105) (R.t 110) R.ff),
    R.q 112 (.mov (R.t 111)),
    R.g 113 (.mov (R.t 0)) 112 true,
    R.g 114 (.len (R.t 113)) 112 true,
    R.g 115 (.bin .gtr .no (R.t 114) (R.i 10)) 112 true,
    R.q 116 (.pick (R.t 112) (R.t 115) R.ff)])
  (.cond (R.t 116)
    (.regd [R.f (R.q 117 (.mov (R.t 5))),
      R.f (R.q 118 (.idx 1 (R.t 117) (R.i 8))),
      R.f (R.q 119 (.load1 (R.t 118))),
      R.f (R.q 120 (.conv .u64 (R.t 119))),
      R.f (R.q 121 (.mov (R.t 5))),
      R.f (R.q 122 (.idx 1 (R.t 121) (R.i 9))),
      R.f (R.q 123 (.load1 (R.t 122))),
      R.f (R.q 124 (.conv .u64 (R.t 123))),
      R.f (R.q 125 (.bin .shl .no (R.t 124) (.val (.int .u64 fun _ => 40)))),
      R.f (R.q 126 (.mov (R.t 0))),
      R.f (R.q 127 (.idx 1 (R.t 126) (R.i 10))),
      R.f (R.q 128 (.load1 (R.t 127))),
      R.f (R.q 129 (.mov (R.t 5))),
      R.f (R.q 130 (.idx 1 (R.t 129) (R.i 11))),
      R.f (R.q 131 (.load1 (R.t 130))),
      R.f (R.q 132 (.conv .u32 (R.t 131))),
      R.s (R.q 133 (.call 72 [(R.t 120), (R.t 125), (R.t 128), (R.t 132)])) [],
      R.f (R.q 134 (.fld 8 (R.t 7))),
      R.s (R.e (.store 5 (R.t 134) (R.t 133))) []])
    .skip))
  (.seq (.reg [R.q 135 (.loadA 14 (R.t 7)),
    R.e (.store 14 (R.t 4) (R.t 135))])
  .ret)))))))))))
def l14_Make.rs : List RRes := [.cellA 4 14]
theorem l14_Make.of {xs : List AV} {d : Nat} {B : BL} {K : ARes → BL → Prop} (hn : xs.length = 2) (hB : onlyOuter B = true) (h : awp ⟨PT, 136, exitX l14_Make.rs K⟩ 10000 [.code l14_Make.rc] ⟨params 0 xs, B, .nil⟩) : CallAt PT l14_Make xs d B K :=
  call_of_awp 10000 Try.func37 rfl (by kernel_rfl) (by kernel_rfl) (by kernel_rfl) (by rw [hn]; decide) hB h

/-! gripsack/gripsacklaw9.Make -/
abbrev l9_Make : Nat := 38
def l9_Make.rc : RC :=
  (.seq (.reg [R.q 4 (.mov (.val .nsl))])
  (.seq (.reg [R.q 14 (.mov (R.t 1)),
    R.q 15 (.bin .shr .no (R.t 14) (.val (.int .u64 fun _ => 6))),
    R.q 16 (.bin .and .no (R.t 15) (R.i 7)),
    R.q 17 (.mov (R.t 1)),
    R.q 18 (.bin .shr .no (R.t 17) (.val (.int .u64 fun _ => 3))),
    R.q 19 (.bin .and .no (R.t 18) (R.i 7)),
    R.q 20 (.mov (R.t 1)),
    R.q 21 (.bin .and .no (R.t 20) (R.i 7)),
    R.q 5 (.mov (R.t 16)),
    R.q 6 (.mov (R.t 19)),
    R.q 7 (.mov (R.t 21))])
  (.seq (.reg [R.q 8 (.mov (.val .nsl)),
    R.q 9 (.mov (.val .nsl))])
  (.seq (.seq (.reg [R.q 10 (.mov (R.i 0))])
  (.block 0 (.loop
     (.seq (.seq (.reg [R.q 22 (.mov (R.t 10)),
       R.q 23 (.bin .add .no (R.t 22) (R.i 1)),
       R.q 24 (.mov (R.t 0)),
       R.q 25 (.len (R.t 24)),
       R.q 26 (.bin .lss .no (R.t 23) (R.t 25)),
       R.q 27 (.mov (R.t 26)),
       R.g 28 (.mov (R.t 10)) 27 true,
       R.g 29 (.bin .lss .no (R.t 28) (R.i 12)) 27 true,
       R.q 30 (.pick (R.t 27) (R.t 29) R.ff)])
     (.cond (R.t 30)
       .skip
       (.exit 0)))
     (.seq (.block 1 (.seq (.regd [R.f (R.q 33 (.mov (R.t 0))),
        R.f (R.q 34 (.mov (R.t 10))),
        R.f (R.q 35 (.idx 1 (R.t 33) (R.t 34))),
        R.f (R.q 36 (.load1 (R.t 35))),
        R.f (R.q 37 (.conv .i64 (R.t 36))),
        R.f (R.q 38 (.bin .quo .no (R.t 37) (R.i 2))),
        R.f (R.q 39 (.mov (R.t 0))),
        R.f (R.q 40 (.mov (R.t 10))),
        R.f (R.q 41 (.bin .add .no (R.t 40) (R.i 1))),
        R.f (R.q 42 (.idx 1 (R.t 39) (R.t 41))),
        R.f (R.q 43 (.load1 (R.t 42))),
        R.f (R.q 44 (.conv .i64 (R.t 43))),
        R.f (R.q 45 (.bin .rem .no (R.t 44) (R.i 8))),
        R.s (R.q 11 (.mov (R.t 38))) [6, 7, 8, 9, 10, 11, 12],
        R.s (R.q 12 (.mov (R.t 45))) []])
      (.seq (.reg [R.q 46 (.mov (R.t 0)),
        R.q 47 (.mov (R.t 10)),
        R.q 48 (.idx 1 (R.t 46) (R.t 47)),
        R.q 49 (.load1 (R.t 48)),
        R.q 50 (.bin .rem .no (R.t 49) (R.u 2)),
        R.q 51 (.bin .eql .no (R.t 50) (R.u 0))])
      (.cond (R.t 51)
        (.reg [R.q 52 (.mov (R.t 8)),
          R.q 53 (.mov (R.t 11)),
          R.q 54 (.mov (R.t 12)),
          R.q 55 (.build (.cons (R.z 0) (.cons (R.z 0) (.cons (R.z 0) .nil))) [(0, 1, (R.i 2)), (1, 1, (R.t 53)), (2, 1, (R.t 54))]),
          R.q 56 (.call 73 [(R.t 52), (R.t 55)]),
          R.q 8 (.mov (R.t 56))])
        (.reg [R.q 57 (.mov (R.t 9)),
          R.q 58 (.mov (R.t 11)),
          R.q 59 (.mov (R.t 12)),
          R.q 60 (.build (.cons (R.z 0) (.cons (R.z 0) (.cons (R.z 0) .nil))) [(0, 1, (R.i 4)), (1, 1, (R.t 58)), (2, 1, (R.t 59))]),
          R.q 61 (.call 73 [(R.t 57), (R.t 60)]),
          R.q 9 (.mov (R.t 61))])))))
     (.reg [R.q 31 (.mov (R.t 10)),
       R.q 32 (.bin .add .no (R.t 31) (R.i 2)),
       R.q 10 (.mov (R.t 32))]))))))
  (.seq (.reg [R.q 62 (.mov (R.t 5)),
    R.q 63 (.build (.cons (R.z 0) (.cons (R.z 0) (.cons (R.z 0) .nil))) [(0, 1, (R.i 1)), (2, 1, (R.t 62))]),
    R.q 64 (.bslice 3 (.cons (R.z 0) (.cons (R.z 0) (.cons (R.z 0) .nil))) 1 [(0, 3, (R.t 63))]),
    R.q 65 (.mov (R.t 8)),
    R.q 66 (.append 3 24 (R.t 64) (R.t 65)),
    R.q 13 (.mov (R.t 66))])
  (.seq (.seq (.reg [R.q 67 (.mov (R.t 8)),
    R.q 68 (.len (R.t 67)),
    R.q 69 (.mov (R.t 9)),
    R.q 70 (.len (R.t 69)),
    R.q 71 (.bin .add .no (R.t 68) (R.t 70)),
    R.q 72 (.bin .eql .no (R.t 71) (R.i 0))])
  (.cond (R.t 72)
    (.seq (.reg [R.q 73 (.mov (R.t 13)),
      R.q 74 (.mov (R.t 6)),
      R.q 75 (.build (.cons (R.z 0) (.cons (R.z 0) (.cons (R.z 0) .nil))) [(0, 1, (R.i 3)), (2, 1, (R.t 74))]),
      R.q 76 (.mov (R.t 7)),
      R.q 77 (.build (.cons (R.z 0) (.cons (R.z 0) (.cons (R.z 0) .nil))) [(0, 1, (R.i 6)), (2, 1, (R.t 76))]),
      R.q 78 (.bslice 3 (.cons (R.z 0) (.cons (R.z 0) (.cons (R.z 0) .nil))) 2 [(0, 3, (R.t 75)), (3, 3, (R.t 77))]),
      R.q 79 (.append 3 24 (R.t 73) (R.t 78)),
      R.q 4 (.mov (R.t 79))])
    .ret)
    .skip))
  (.seq (.reg [R.q 80 (.mov (R.t 13)),
    R.q 81 (.mov (R.t 6)),
    R.q 82 (.mov (R.t 0)),
    R.q 83 (.idx 1 (R.t 82) (R.i 0)),
    R.q 84 (.load1 (R.t 83)),
    R.q 85 (.conv .i64 (R.t 84)),
    R.q 86 (.bin .rem .no (R.t 85) (R.i 8)),
    R.q 87 (.bin .xor .no (R.t 81) (R.t 86)),
    R.q 88 (.build (.cons (R.z 0) (.cons (R.z 0) (.cons (R.z 0) .nil))) [(0, 1, (R.i 3)), (2, 1, (R.t 87))]),
    R.q 89 (.bslice 3 (.cons (R.z 0) (.cons (R.z 0) (.cons (R.z 0) .nil))) 1 [(0, 3, (R.t 88))]),
    R.q 90 (.append 3 24 (R.t 80) (R.t 89)),
    R.q 91 (.mov (R.t 9)),
    R.q 92 (.append 3 24 (R.t 90) (R.t 91)),
    R.q 13 (.mov (R.t 92))])
  (.seq (.reg [R.q 93 (.mov (R.t 13)),
    R.q 94 (.mov (R.t 6)),
    R.q 95 (.build (.cons (R.z 0) (.cons (R.z 0) (.cons (R.z 0) .nil))) [(0, 1, (R.i 5)), (2, 1, (R.t 94))]),
    R.q 96 (.mov (R.t 7)),
    R.q 97 (.build (.cons (R.z 0) (.cons (R.z 0) (.cons (R.z 0) .nil))) [(0, 1, (R.i 6)), (2, 1, (R.t 96))]),
    R.q 98 (.bslice 3 (.cons (R.z 0) (.cons (R.z 0) (.cons (R.z 0) .nil))) 2 [(0, 3, (R.t 95)), (3, 3, (R.t 97))]),
    R.q 99 (.append 3 24 (R.t 93) (R.t 98)),
    R.q 4 (.mov (R.t 99))])
  .ret))))))))
def l9_Make.rs : List RRes := [.tmp 4]
theorem l9_Make.of {xs : List AV} {d : Nat} {B : BL} {K : ARes → BL → Prop} (hn : xs.length = 2) (hB : onlyOuter B = true) (h : awp ⟨PT, 100, exitX l9_Make.rs K⟩ 10000 [.code l9_Make.rc] ⟨params 0 xs, B, .nil⟩) : CallAt PT l9_Make xs d B K :=
  call_of_awp 10000 Try.func38 rfl (by kernel_rfl) (by kernel_rfl) (by kernel_rfl) (by rw [hn]; decide) hB h

/-! gripsack/right.Less -/
abbrev right_Less : Nat := 49
def right_Less.rc : RC :=
  (.seq (.reg [R.q 1 (.box (R.t 0)),
    R.q 2 (.mov (R.i 0))])
  (.seq (.reg [R.q 3 (.mkfn (.func 95) [] [(R.t 1)]),
    R.q 4 (.call 94 [(R.t 3)]),
    R.q 2 (.mov (R.t 4))])
  .ret))
def right_Less.rs : List RRes := [.tmp 2]
theorem right_Less.of {xs : List AV} {d : Nat} {B : BL} {K : ARes → BL → Prop} (hn : xs.length = 1) (hB : onlyOuter B = true) (h : awp ⟨PT, 5, exitX right_Less.rs K⟩ 10000 [.code right_Less.rc] ⟨params 0 xs, B, .nil⟩) : CallAt PT right_Less xs d B K :=
  call_of_awp 10000 Try.func49 rfl (by kernel_rfl) (by kernel_rfl) (by kernel_rfl) (by rw [hn]; decide) hB h

/-! gripsack/gripsackref18.Less -/
abbrev r18_Less : Nat := 50
def r18_Less.rc : RC :=
  (.seq (.reg [R.q 1 (.box (R.t 0)),
    R.q 2 (.mov (R.i 0))])
  (.seq (.seq (.reg [R.q 7 (.fld 5 (R.t 1)),
    R.q 8 (.load1 (R.t 7)),
    R.q 9 (.len (R.t 8)),
    R.q 10 (.bin .eql .no (R.t 9) (R.i 0))])
  (.cond (R.t 10)
    (.seq (.reg [R.q 11 (.fld 0 (R.t 1)),
      R.q 12 (.load1 (R.t 11)),
      R.q 13 (.bin .and .no (R.t 12) (R.i 511)),
      R.q 2 (.mov (R.t 13))])
    .ret)
    .skip))
  (.seq (.reg [R.q 14 (.fld 5 (R.t 1)),
    R.q 15 (.load1 (R.t 14)),
    R.q 16 (.call 99 [(R.t 15), (R.i 5)]),
    R.q 3 (.mov (R.t 16))])
  (.seq (.seq (.reg [R.q 17 (.mov (R.t 3)),
    R.q 18 (.bin .lss .no (R.t 17) (R.i 0))])
  (.cond (R.t 18)
    (.reg [R.q 3 (.mov (R.i 7))])
    .skip))
  (.seq (.regd [R.f (R.q 19 (.fld 5 (R.t 1))),
    R.f (R.q 20 (.load1 (R.t 19))),
    R.f (R.q 22 (.mov (R.t 3))),
    R.f (R.q 24 (.fld 5 (R.t 1))),
    R.f (R.q 25 (.load1 (R.t 24))),
    R.s (R.q 21 (.call 99 [(R.t 20), (R.i 3)])) [2, 3, 4],
    R.f (R.q 23 (.bin .and .no (R.t 21) (R.t 22))),
    R.s (R.q 26 (.call 99 [(R.t 25), (R.i 6)])) [2, 6],
    R.s (R.q 4 (.mov (R.t 23))) [],
    R.s (R.q 5 (.mov (R.t 26))) []])
  (.seq (.seq (.reg [R.q 6 (.mov (R.i 0))])
  (.block 0 (.loop
     (.seq (.seq (.reg [R.q 27 (.mov (R.t 6)),
       R.q 28 (.fld 5 (R.t 1)),
       R.q 29 (.load1 (R.t 28)),
       R.q 30 (.len (R.t 29)),
       R.q 31 (.bin .lss .no (R.t 27) (R.t 30))])
     (.cond (R.t 31)
       .skip
       (.exit 0)))
     (.seq (.block 1 (.seq (.seq (.reg [R.q 34 (.fld 5 (R.t 1)),
        R.q 35 (.load1 (R.t 34)),
        R.q 36 (.mov (R.t 6)),
        R.q 37 (.idx 3 (R.t 35) (R.t 36)),
        R.q 38 (.fld 0 (R.t 37)),
        R.q 39 (.load1 (R.t 38)),
        R.q 40 (.bin .eql .no (R.t 39) (R.i 2))])
      (.cond (R.t 40)
        (.seq (.reg [R.q 41 (.mov (R.t 4)),
          R.q 42 (.fld 5 (R.t 1)),
          R.q 43 (.load1 (R.t 42)),
          R.q 44 (.mov (R.t 6)),
          R.q 45 (.idx 3 (R.t 43) (R.t 44)),
          R.q 46 (.fld 2 (R.t 45)),
          R.q 47 (.load1 (R.t 46)),
          R.q 48 (.bin .and .no (R.t 41) (R.t 47)),
          R.q 4 (.mov (R.t 48))])
        (.reg [R.q 49 (.mov (R.t 5)),
          R.q 50 (.fld 5 (R.t 1)),
          R.q 51 (.load1 (R.t 50)),
          R.q 52 (.mov (R.t 6)),
          R.q 53 (.idx 3 (R.t 51) (R.t 52)),
          R.q 54 (.fld 2 (R.t 53)),
          R.q 55 (.load1 (R.t 54)),
          R.q 56 (.bin .and .no (R.t 49) (R.t 55)),
          R.q 57 (.mov (R.t 3)),
          R.q 58 (.bin .and .no (R.t 56) (R.t 57)),
          R.q 5 (.mov (R.t 58))]))
        .skip))
      (.seq (.reg [R.q 59 (.fld 5 (R.t 1)),
        R.q 60 (.load1 (R.t 59)),
        R.q 61 (.mov (R.t 6)),
        R.q 62 (.idx 3 (R.t 60) (R.t 61)),
        R.q 63 (.fld 0 (R.t 62)),
        R.q 64 (.load1 (R.t 63)),
        R.q 65 (.bin .eql .no (R.t 64) (R.i 4))])
      (.cond (R.t 65)
        (.reg [R.q 66 (.mov (R.t 5)),
          R.q 67 (.fld 5 (R.t 1)),
          R.q 68 (.load1 (R.t 67)),
          R.q 69 (.mov (R.t 6)),
          R.q 70 (.idx 3 (R.t 68) (R.t 69)),
          R.q 71 (.fld 2 (R.t 70)),
          R.q 72 (.load1 (R.t 71)),
          R.q 73 (.bin .and .no (R.t 66) (R.t 72)),
          R.q 74 (.mov (R.t 3)),
          R.q 75 (.bin .and .no (R.t 73) (R.t 74)),
          R.q 5 (.mov (R.t 75))])
        .skip))))
     (.reg [R.q 32 (.mov (R.t 6)),
       R.q 33 (.bin .add .no (R.t 32) (R.i 1)),
       R.q 6 (.mov (R.t 33))]))))))
  (.seq (.reg [R.q 76 (.fld 5 (R.t 1)),
    R.q 77 (.load1 (R.t 76)),
    R.q 78 (.call 99 [(R.t 77), (R.i 1)]),
    R.q 79 (.bin .mul .no (R.t 78) (R.i 64)),
    R.q 80 (.mov (R.t 4)),
    R.q 81 (.bin .mul .no (R.t 80) (R.i 8)),
    R.q 82 (.bin .add .no (R.t 79) (R.t 81)),
    R.q 83 (.mov (R.t 5)),
    R.q 84 (.bin .add .no (R.t 82) (R.t 83)),
    R.q 2 (.mov (R.t 84))])
  .ret)))))))
def r18_Less.rs : List RRes := [.tmp 2]
theorem r18_Less.of {xs : List AV} {d : Nat} {B : BL} {K : ARes → BL → Prop} (hn : xs.length = 1) (hB : onlyOuter B = true) (h : awp ⟨PT, 85, exitX r18_Less.rs K⟩ 10000 [.code r18_Less.rc] ⟨params 0 xs, B, .nil⟩) : CallAt PT r18_Less xs d B K :=
  call_of_awp 10000 Try.func50 rfl (by kernel_rfl) (by kernel_rfl) (by kernel_rfl) (by rw [hn]; decide) hB h

/-! strings.HasPrefix -/
abbrev strings_HasPrefix : Nat := 51
def strings_HasPrefix.rc : RC :=
  (.seq (.reg [R.q 4 (.mov R.ff)])
  (.seq (.reg [R.q 5 (.mov (R.t 0)),
    R.q 6 (.mov (R.t 1)),
    R.q 7 (.call 100 [(R.t 5), (R.t 6)]),
    R.q 4 (.mov (R.t 7))])
  .ret))
def strings_HasPrefix.rs : List RRes := [.tmp 4]
theorem strings_HasPrefix.of {xs : List AV} {d : Nat} {B : BL} {K : ARes → BL → Prop} (hn : xs.length = 2) (hB : onlyOuter B = true) (h : awp ⟨PT, 8, exitX strings_HasPrefix.rs K⟩ 10000 [.code strings_HasPrefix.rc] ⟨params 0 xs, B, .nil⟩) : CallAt PT strings_HasPrefix xs d B K :=
  call_of_awp 10000 Try.func51 rfl (by kernel_rfl) (by kernel_rfl) (by kernel_rfl) (by rw [hn]; decide) hB h

/-! gripsack/gripsackref18.Strict -/
abbrev r18_Strict : Nat := 52
def r18_Strict.rc : RC :=
  (.seq (.reg [R.q 2 (.mov R.ff)])
  (.seq (.reg [R.q 3 (.mov (R.t 0)),
    R.q 4 (.lenS (R.t 3)),
    R.q 5 (.bin .geq .no (R.t 4) (R.i 8)),
    R.q 6 (.mov (R.t 5)),
    R.g 7 (.mov (R.t 0)) 6 true,
    R.g 8 (.sliceS (R.t 7) none (some (R.i 8))) 6 true,
    R.g 9 (.bin .eql .no (R.t 8) (.val (.str fun _ => [116, 114, 117, 115, 116, 101, 100, 46]))) 6 true,
    R.q 10 (.pick (R.t 6) (R.t 9) R.ff),
    R.q 11 (.mov (R.t 10)),
    R.g 12 (.mov (R.t 0)) 11 false,
    R.g 13 (.lenS (R.t 12)) 11 false,
    R.g 14 (.bin .geq .no (R.t 13) (R.i 9)) 11 false,
    R.g 15 (.mov (R.t 14)) 11 false,
    R.g 16 (.mov (R.t 0)) 15 true,
    R.g 17 (.sliceS (R.t 16) none (some (R.i 9))) 15 true,
    R.g 18 (.bin .eql .no (R.t 17) (.val (.str fun _ => [115, 101, 99, 117, 114, 105, 116, 121, 46]))) 15 true,
    R.g 19 (.pick (R.t 15) (R.t 18) R.ff) 11 false,
    R.q 20 (.pick (R.t 11) R.tt (R.t 19)),
    R.q 2 (.mov (R.t 20))])
  .ret))
def r18_Strict.rs : List RRes := [.tmp 2]
theorem r18_Strict.of {xs : List AV} {d : Nat} {B : BL} {K : ARes → BL → Prop} (hn : xs.length = 1) (hB : onlyOuter B = true) (h : awp ⟨PT, 21, exitX r18_Strict.rs K⟩ 10000 [.code r18_Strict.rc] ⟨params 0 xs, B, .nil⟩) : CallAt PT r18_Strict xs d B K :=
  call_of_awp 10000 Try.func52 rfl (by kernel_rfl) (by kernel_rfl) (by kernel_rfl) (by rw [hn]; decide) hB h

/-! gripsack/gripsackref9.SameAcl -/
abbrev r9_SameAcl : Nat := 57
def r9_SameAcl.rc : RC :=
  (.seq (.reg [R.q 4 (.mov R.ff)])
  (.seq (.seq (.reg [R.q 6 (.mov (R.t 0)),
    R.q 7 (.len (R.t 6)),
    R.q 8 (.mov (R.t 1)),
    R.q 9 (.len (R.t 8)),
    R.q 10 (.bin .neq .no (R.t 7) (R.t 9))])
  (.cond (R.t 10)
    (.seq (.reg [R.q 4 (.mov R.ff)])
    .ret)
    .skip))
  (.seq (.seq (.reg [R.q 5 (.mov (R.i 0))])
  (.block 0 (.loop
     (.seq (.seq (.reg [R.q 11 (.mov (R.t 5)),
       R.q 12 (.mov (R.t 0)),
       R.q 13 (.len (R.t 12)),
       R.q 14 (.bin .lss .no (R.t 11) (R.t 13))])
     (.cond (R.t 14)
       .skip
       (.exit 0)))
     (.seq (.block 1 (.seq (.regd [R.f (R.q 17 (.mov (R.t 0))),
        R.f (R.q 18 (.mov (R.t 5))),
        R.f (R.q 19 (.idx 3 (R.t 17) (R.t 18))),
        R.f (R.q 20 (.loadA 3 (R.t 19))),
        R.f (R.q 21 (.mov (R.t 1))),
        R.f (R.q 22 (.mov (R.t 5))),
        R.f (R.q 23 (.idx 3 (R.t 21) (R.t 22))),
        R.f (R.q 24 (.loadA 3 (R.t 23))),
        R.f (R.q 25 (.bin .neq (.agg [.i .i64, .i .i64, .i .i64]) (R.t 20) (R.t 24)))])
      (.cond (R.t 25)
        (.seq (.reg [R.q 4 (.mov R.ff)])
        .ret)
        .skip)))
     (.reg [R.q 15 (.mov (R.t 5)),
       R.q 16 (.bin .add .no (R.t 15) (R.i 1)),
       R.q 5 (.mov (R.t 16))]))))))
  (.seq (.reg [R.q 4 (.mov R.tt)])
  .ret))))
def r9_SameAcl.rs : List RRes := [.tmp 4]
theorem r9_SameAcl.of {xs : List AV} {d : Nat} {B : BL} {K : ARes → BL → Prop} (hn : xs.length = 2) (hB : onlyOuter B = true) (h : awp ⟨PT, 26, exitX r9_SameAcl.rs K⟩ 10000 [.code r9_SameAcl.rc] ⟨params 0 xs, B, .nil⟩) : CallAt PT r9_SameAcl xs d B K :=
  call_of_awp 10000 Try.func57 rfl (by kernel_rfl) (by kernel_rfl) (by kernel_rfl) (by rw [hn]; decide) hB h

/-! (gripsack/degrade.teller).mode -/
abbrev degrade_teller_mode : Nat := 58
def degrade_teller_mode.rc : RC :=
  (.seq (.reg [R.q 1 (.box (R.t 0)),
    R.q 2 (.mov (R.i 0))])
  (.seq (.reg [R.q 8 (.fld 0 (R.t 1)),
    R.q 9 (.fld 2 (R.t 8)),
    R.q 10 (.loadA 14 (R.t 9)),
    R.q 3 (.alloc (.cons (R.z 0) (.cons (R.z 0) (.cons (R.z 0) (.cons (R.z 0) (.cons (R.z 0) (.cons .nsl (.cons .nsl (.cons .nsl (.cons (R.z 0) (.cons (.int .u64 fun _ => 0) (.cons (.int .u64 fun _ => 0) (.cons .ff (.cons (R.z 0) (.cons (R.z 0) .nil))))))))))))))),
    R.e (.store 14 (R.t 3) (R.t 10))])
  (.seq (.block 0 (.seq (.reg [R.q 12 (.fld 0 (R.t 1)),
     R.q 13 (.fld 1 (R.t 12)),
     R.q 14 (.load1 (R.t 13)),
     R.q 15 (.bin .eql .no (R.t 14) (R.i 3)),
     R.q 11 (.mov (R.t 15))])
   (.cond (R.t 11)
     (.seq (.reg [R.q 2 (.mov (R.i 511))])
     .ret)
     (.seq (.reg [R.q 17 (.loadA 25 (R.t 1)),
       R.q 18 (.call 59 [(R.t 17), (R.i 3), (R.i 2)]),
       R.q 16 (.mov (R.t 18))])
     (.cond (R.t 16)
       (.seq (.reg [R.q 20 (.loadA 14 (R.t 3)),
         R.q 21 (.call 18 [(R.t 20), R.ff]),
         R.q 19 (.mov (R.t 21)),
         R.q 22 (.ext 0 (R.t 19)),
         R.q 23 (.ext 1 (R.t 19)),
         R.q 4 (.mov (R.t 22)),
         R.q 5 (.mov (R.t 23))])
       (.seq (.reg [R.q 24 (.mov (R.t 4)),
         R.q 2 (.mov (R.t 24))])
       .ret))
       (.seq (.reg [R.q 26 (.loadA 25 (R.t 1)),
         R.q 27 (.call 59 [(R.t 26), (R.i 3), (R.i 1)]),
         R.q 28 (.un .not (R.t 27)),
         R.q 25 (.mov (R.t 28))])
       (.cond (R.t 25)
         (.seq (.seq (.reg [R.q 29 (.loadA 25 (R.t 1)),
           R.q 30 (.call 59 [(R.t 29), (R.i 10), (R.i 1)])])
         (.cond (R.t 30)
           (.seq (.reg [R.q 2 (.mov (R.i 0))])
           .ret)
           .skip))
         (.seq (.reg [R.q 31 (.fld 0 (R.t 1)),
           R.q 32 (.fld 1 (R.t 31)),
           R.q 33 (.load1 (R.t 32)),
           R.q 34 (.call 15 [(R.t 33)]),
           R.q 2 (.mov (R.t 34))])
         .ret))
         .skip)))))))
  (.seq (.reg [R.q 36 (.loadA 14 (R.t 3)),
    R.q 37 (.call 18 [(R.t 36), R.tt]),
    R.q 35 (.mov (R.t 37)),
    R.q 38 (.ext 0 (R.t 35)),
    R.q 39 (.ext 1 (R.t 35)),
    R.q 6 (.mov (R.t 38)),
    R.q 7 (.mov (R.t 39))])
  (.seq (.seq (.reg [R.q 40 (.loadA 25 (R.t 1)),
    R.q 41 (.call 59 [(R.t 40), (R.i 4), (R.i 1)])])
  (.cond (R.t 41)
    (.reg [R.q 42 (.fld 0 (R.t 3)),
      R.q 43 (.load1 (R.t 42)),
      R.q 6 (.mov (R.t 43))])
    .skip))
  (.seq (.seq (.reg [R.q 44 (.fld 0 (R.t 1)),
    R.q 45 (.fld 1 (R.t 44)),
    R.q 46 (.load1 (R.t 45)),
    R.q 47 (.bin .eql .no (R.t 46) (R.i 1)),
    R.q 48 (.mov (R.t 47)),
    R.g 49 (.fld 20 (R.t 1)) 48 true,
    R.g 50 (.loadA 4 (R.t 49)) 48 true,
    R.g 51 (.fld 2 (R.t 3)) 48 true,
    R.g 52 (.load1 (R.t 51)) 48 true,
    R.g 53 (.call 103 [(R.t 50), (R.t 52)]) 48 true,
    R.g 54 (.un .not (R.t 53)) 48 true,
    R.q 55 (.pick (R.t 48) (R.t 54) R.ff),
    R.q 56 (.mov (R.t 55)),
    R.g 57 (.fld 20 (R.t 1)) 56 true,
    R.g 58 (.fld 3 (R.t 57)) 56 true,
    R.g 59 (.load1 (R.t 58)) 56 true,
    R.g 60 (.bin .and .no (R.t 59) (R.i 4)) 56 true,
    R.g 61 (.bin .eql .no (R.t 60) (R.i 0)) 56 true,
    R.q 62 (.pick (R.t 56) (R.t 61) R.ff)])
  (.cond (R.t 62)
    (.reg [R.q 63 (.mov (R.t 6)),
      R.q 64 (.bin .andNot .no (R.t 63) (R.i 1024)),
      R.q 6 (.mov (R.t 64))])
    .skip))
  (.seq (.reg [R.q 65 (.mov (R.t 6)),
    R.q 2 (.mov (R.t 65))])
  .ret)))))))
def degrade_teller_mode.rs : List RRes := [.tmp 2]
theorem degrade_teller_mode.of {xs : List AV} {d : Nat} {B : BL} {K : ARes → BL → Prop} (hn : xs.length = 1) (hB : onlyOuter B = true) (h : awp ⟨PT, 66, exitX degrade_teller_mode.rs K⟩ 10000 [.code degrade_teller_mode.rc] ⟨params 0 xs, B, .nil⟩) : CallAt PT degrade_teller_mode xs d B K :=
  call_of_awp 10000 Try.func58 rfl (by kernel_rfl) (by kernel_rfl) (by kernel_rfl) (by rw [hn]; decide) hB h

/-! (gripsack/degrade.teller).is -/
abbrev degrade_teller_is : Nat := 59
def degrade_teller_is.rc : RC :=
  (.seq (.reg [R.q 3 (.box (R.t 0)),
    R.q 6 (.mov R.ff)])
  (.seq (.reg [R.q 7 (.fld 24 (R.t 3)),
    R.q 8 (.load1 (R.t 7)),
    R.q 9 (.fld 0 (R.t 3)),
    R.q 10 (.fld 0 (R.t 9)),
    R.q 11 (.load1 (R.t 10)),
    R.q 12 (.mov (R.t 1)),
    R.q 13 (.call 27 [(R.t 8), (R.t 11), (R.t 12)]),
    R.q 14 (.mov (R.t 2)),
    R.q 15 (.bin .eql .no (R.t 13) (R.t 14)),
    R.q 6 (.mov (R.t 15))])
  .ret))
def degrade_teller_is.rs : List RRes := [.tmp 6]
theorem degrade_teller_is.of {xs : List AV} {d : Nat} {B : BL} {K : ARes → BL → Prop} (hn : xs.length = 3) (hB : onlyOuter B = true) (h : awp ⟨PT, 16, exitX degrade_teller_is.rs K⟩ 10000 [.code degrade_teller_is.rc] ⟨params 0 xs, B, .nil⟩) : CallAt PT degrade_teller_is xs d B K :=
  call_of_awp 10000 Try.func59 rfl (by kernel_rfl) (by kernel_rfl) (by kernel_rfl) (by rw [hn]; decide) hB h

/-! slices.Clone[[]gripsack/api.Ace,gripsack/api.Ace] -/
abbrev slices_Clone_api_Ace_api_Ace : Nat := 60
def slices_Clone_api_Ace_api_Ace.rc : RC :=
  (.seq (.reg [R.q 2 (.mov (.val .nsl))])
  (.seq (.seq (.reg [R.q 3 (.mov (R.t 0)),
    R.q 4 (.isNil true (R.t 3))])
  (.cond (R.t 4)
    (.seq (.reg [R.q 2 (.mov (.val .nsl))])
    .ret)
    .skip))
  (.seq (.reg [R.q 5 (.bslice 3 (.cons (R.z 0) (.cons (R.z 0) (.cons (R.z 0) .nil))) 0 []),
    R.q 6 (.mov (R.t 0)),
    R.q 7 (.append 3 24 (R.t 5) (R.t 6)),
    R.q 2 (.mov (R.t 7))])
  .ret)))
def slices_Clone_api_Ace_api_Ace.rs : List RRes := [.tmp 2]
theorem slices_Clone_api_Ace_api_Ace.of {xs : List AV} {d : Nat} {B : BL} {K : ARes → BL → Prop} (hn : xs.length = 1) (hB : onlyOuter B = true) (h : awp ⟨PT, 8, exitX slices_Clone_api_Ace_api_Ace.rs K⟩ 10000 [.code slices_Clone_api_Ace_api_Ace.rc] ⟨params 0 xs, B, .nil⟩) : CallAt PT slices_Clone_api_Ace_api_Ace xs d B K :=
  call_of_awp 10000 Try.func60 rfl (by kernel_rfl) (by kernel_rfl) (by kernel_rfl) (by rw [hn]; decide) hB h

/-! slices.Clone[[]gripsack/api.Xattr,gripsack/api.Xattr] -/
abbrev slices_Clone_api_Xattr_api_Xattr : Nat := 61
def slices_Clone_api_Xattr_api_Xattr.rc : RC :=
  (.seq (.reg [R.q 2 (.mov (.val .nsl))])
  (.seq (.seq (.reg [R.q 3 (.mov (R.t 0)),
    R.q 4 (.isNil true (R.t 3))])
  (.cond (R.t 4)
    (.seq (.reg [R.q 2 (.mov (.val .nsl))])
    .ret)
    .skip))
  (.seq (.reg [R.q 5 (.bslice 2 (.cons (.str fun _ => []) (.cons (.str fun _ => []) .nil)) 0 []),
    R.q 6 (.mov (R.t 0)),
    R.q 7 (.append 2 32 (R.t 5) (R.t 6)),
    R.q 2 (.mov (R.t 7))])
  .ret)))
def slices_Clone_api_Xattr_api_Xattr.rs : List RRes := [.tmp 2]
theorem slices_Clone_api_Xattr_api_Xattr.of {xs : List AV} {d : Nat} {B : BL} {K : ARes → BL → Prop} (hn : xs.length = 1) (hB : onlyOuter B = true) (h : awp ⟨PT, 8, exitX slices_Clone_api_Xattr_api_Xattr.rs K⟩ 10000 [.code slices_Clone_api_Xattr_api_Xattr.rc] ⟨params 0 xs, B, .nil⟩) : CallAt PT slices_Clone_api_Xattr_api_Xattr xs d B K :=
  call_of_awp 10000 Try.func61 rfl (by kernel_rfl) (by kernel_rfl) (by kernel_rfl) (by rw [hn]; decide) hB h

/-! gripsack/gripsackref18.In -/
abbrev r18_In : Nat := 62
def r18_In.rc : RC :=
  (.seq (.reg [R.q 2 (.box (R.t 0)),
    R.q 4 (.mov R.ff)])
  (.seq (.reg [R.q 7 (.fld 1 (R.t 2)),
    R.q 8 (.load1 (R.t 7)),
    R.q 9 (.mov (R.t 1)),
    R.q 10 (.bin .eql .no (R.t 8) (R.t 9)),
    R.q 5 (.mov (R.t 10))])
  (.seq (.seq (.reg [R.q 6 (.mov (R.i 0))])
  (.block 0 (.loop
     (.seq (.seq (.reg [R.q 11 (.mov (R.t 6)),
       R.q 12 (.fld 2 (R.t 2)),
       R.q 13 (.load1 (R.t 12)),
       R.q 14 (.len (R.t 13)),
       R.q 15 (.bin .lss .no (R.t 11) (R.t 14))])
     (.cond (R.t 15)
       .skip
       (.exit 0)))
     (.seq (.block 1 (.reg [R.q 18 (.mov (R.t 5)),
        R.q 19 (.mov (R.t 18)),
        R.g 20 (.fld 2 (R.t 2)) 19 false,
        R.g 21 (.load1 (R.t 20)) 19 false,
        R.g 22 (.mov (R.t 6)) 19 false,
        R.g 23 (.idx 1 (R.t 21) (R.t 22)) 19 false,
        R.g 24 (.load1 (R.t 23)) 19 false,
        R.g 25 (.mov (R.t 1)) 19 false,
        R.g 26 (.bin .eql .no (R.t 24) (R.t 25)) 19 false,
        R.q 27 (.pick (R.t 19) R.tt (R.t 26)),
        R.q 5 (.mov (R.t 27))]))
     (.reg [R.q 16 (.mov (R.t 6)),
       R.q 17 (.bin .add .no (R.t 16) (R.i 1)),
       R.q 6 (.mov (R.t 17))]))))))
  (.seq (.reg [R.q 28 (.mov (R.t 5)),
    R.q 4 (.mov (R.t 28))])
  .ret))))
def r18_In.rs : List RRes := [.tmp 4]
theorem r18_In.of {xs : List AV} {d : Nat} {B : BL} {K : ARes → BL → Prop} (hn : xs.length = 2) (hB : onlyOuter B = true) (h : awp ⟨PT, 29, exitX r18_In.rs K⟩ 10000 [.code r18_In.rc] ⟨params 0 xs, B, .nil⟩) : CallAt PT r18_In xs d B K :=
  call_of_awp 10000 Try.func62 rfl (by kernel_rfl) (by kernel_rfl) (by kernel_rfl) (by rw [hn]; decide) hB h

/-! gripsack/gripsacklaw15.Path -/
abbrev l15_Path : Nat := 63
def l15_Path.rc : RC :=
  (.seq (.reg [R.q 2 (.mov (.val (.str fun _ => [])))])
  (.seq (.reg [R.q 3 (.mov (.val (.str fun _ => [112])))])
  (.seq (.seq (.reg [R.q 4 (.mov (R.i 0))])
  (.block 0 (.loop
     (.seq (.seq (.reg [R.q 5 (.mov (R.t 4)),
       R.q 6 (.mov (R.t 0)),
       R.q 7 (.len (R.t 6)),
       R.q 8 (.bin .lss .no (R.t 5) (R.t 7)),
       R.q 9 (.mov (R.t 8)),
       R.g 10 (.mov (R.t 4)) 9 true,
       R.g 11 (.bin .lss .no (R.t 10) (R.i 8)) 9 true,
       R.q 12 (.pick (R.t 9) (R.t 11) R.ff)])
     (.cond (R.t 12)
       .skip
       (.exit 0)))
     (.seq (.block 1 (.reg [R.q 15 (.mov (R.t 3)),
        R.q 16 (.bin .add .no (R.t 15) (.val (.str fun _ => [47]))),
        R.q 17 (.mov (R.t 0)),
        R.q 18 (.mov (R.t 4)),
        R.q 19 (.idx 1 (R.t 17) (R.t 18)),
        R.q 20 (.load1 (R.t 19)),
        R.q 21 (.call 104 [(R.t 20)]),
        R.q 22 (.bin .add .no (R.t 16) (R.t 21)),
        R.q 3 (.mov (R.t 22))]))
     (.reg [R.q 13 (.mov (R.t 4)),
       R.q 14 (.bin .add .no (R.t 13) (R.i 1)),
       R.q 4 (.mov (R.t 14))]))))))
  (.seq (.reg [R.q 23 (.mov (R.t 3)),
    R.q 2 (.mov (R.t 23))])
  .ret))))
def l15_Path.rs : List RRes := [.tmp 2]
theorem l15_Path.of {xs : List AV} {d : Nat} {B : BL} {K : ARes → BL → Prop} (hn : xs.length = 1) (hB : onlyOuter B = true) (h : awp ⟨PT, 24, exitX l15_Path.rs K⟩ 10000 [.code l15_Path.rc] ⟨params 0 xs, B, .nil⟩) : CallAt PT l15_Path xs d B K :=
  call_of_awp 10000 Try.func63 rfl (by kernel_rfl) (by kernel_rfl) (by kernel_rfl) (by rw [hn]; decide) hB h

/-! gripsack/gripsackref9.id -/
abbrev r9_id : Nat := 64
def r9_id.rc : RC :=
  (.seq (.reg [R.q 2 (.mov R.ff)])
  (.seq (.reg [R.q 3 (.mov (R.t 0)),
    R.q 4 (.bin .geq .no (R.t 3) (R.i 0)),
    R.q 5 (.mov (R.t 4)),
    R.g 6 (.mov (R.t 0)) 5 true,
    R.g 7 (.bin .leq .no (R.t 6) (R.i 2147483647)) 5 true,
    R.q 8 (.pick (R.t 5) (R.t 7) R.ff),
    R.q 2 (.mov (R.t 8))])
  .ret))
def r9_id.rs : List RRes := [.tmp 2]
theorem r9_id.of {xs : List AV} {d : Nat} {B : BL} {K : ARes → BL → Prop} (hn : xs.length = 1) (hB : onlyOuter B = true) (h : awp ⟨PT, 9, exitX r9_id.rs K⟩ 10000 [.code r9_id.rc] ⟨params 0 xs, B, .nil⟩) : CallAt PT r9_id xs d B K :=
  call_of_awp 10000 Try.func64 rfl (by kernel_rfl) (by kernel_rfl) (by kernel_rfl) (by rw [hn]; decide) hB h

/-! gripsack/gripsackref1.MayStamp -/
abbrev r1_MayStamp : Nat := 65
def r1_MayStamp.rc : RC :=
  (.seq (.reg [R.q 1 (.box (R.t 0)),
    R.q 2 (.mov R.ff)])
  (.seq (.reg [R.q 3 (.fld 0 (R.t 1)),
    R.q 4 (.load1 (R.t 3)),
    R.q 5 (.bin .geq .no (R.t 4) (R.i (-1099511627776))),
    R.q 6 (.mov (R.t 5)),
    R.g 7 (.fld 0 (R.t 1)) 6 true,
    R.g 8 (.load1 (R.t 7)) 6 true,
    R.g 9 (.bin .leq .no (R.t 8) (R.i 1099511627776)) 6 true,
    R.q 10 (.pick (R.t 6) (R.t 9) R.ff),
    R.q 11 (.mov (R.t 10)),
    R.g 12 (.fld 1 (R.t 1)) 11 true,
    R.g 13 (.load1 (R.t 12)) 11 true,
    R.g 14 (.bin .geq .no (R.t 13) (R.i 0)) 11 true,
    R.q 15 (.pick (R.t 11) (R.t 14) R.ff),
    R.q 16 (.mov (R.t 15)),
    R.g 17 (.fld 1 (R.t 1)) 16 true,
    R.g 18 (.load1 (R.t 17)) 16 true,
    R.g 19 (.bin .leq .no (R.t 18) (R.i 999999999)) 16 true,
    R.q 20 (.pick (R.t 16) (R.t 19) R.ff),
    R.q 2 (.mov (R.t 20))])
  .ret))
def r1_MayStamp.rs : List RRes := [.tmp 2]
theorem r1_MayStamp.of {xs : List AV} {d : Nat} {B : BL} {K : ARes → BL → Prop} (hn : xs.length = 1) (hB : onlyOuter B = true) (h : awp ⟨PT, 21, exitX r1_MayStamp.rs K⟩ 10000 [.code r1_MayStamp.rc] ⟨params 0 xs, B, .nil⟩) : CallAt PT r1_MayStamp xs d B K :=
  call_of_awp 10000 Try.func65 rfl (by kernel_rfl) (by kernel_rfl) (by kernel_rfl) (by rw [hn]; decide) hB h

/-! gripsack/gripsackref9.MayFlags -/
abbrev r9_MayFlags : Nat := 66
def r9_MayFlags.rc : RC :=
  (.seq (.reg [R.q 2 (.mov R.ff)])
  (.seq (.reg [R.q 3 (.mov (R.t 0)),
    R.q 4 (.bin .geq .no (R.t 3) (R.i 0)),
    R.q 5 (.mov (R.t 4)),
    R.g 6 (.mov (R.t 0)) 5 true,
    R.g 7 (.bin .leq .no (R.t 6) (R.i 15)) 5 true,
    R.q 8 (.pick (R.t 5) (R.t 7) R.ff),
    R.q 2 (.mov (R.t 8))])
  .ret))
def r9_MayFlags.rs : List RRes := [.tmp 2]
theorem r9_MayFlags.of {xs : List AV} {d : Nat} {B : BL} {K : ARes → BL → Prop} (hn : xs.length = 1) (hB : onlyOuter B = true) (h : awp ⟨PT, 9, exitX r9_MayFlags.rs K⟩ 10000 [.code r9_MayFlags.rc] ⟨params 0 xs, B, .nil⟩) : CallAt PT r9_MayFlags xs d B K :=
  call_of_awp 10000 Try.func66 rfl (by kernel_rfl) (by kernel_rfl) (by kernel_rfl) (by rw [hn]; decide) hB h

/-! gripsack/gripsackref9.MayXattrs -/
abbrev r9_MayXattrs : Nat := 67
def r9_MayXattrs.rc : RC :=
  (.seq (.reg [R.q 2 (.mov R.ff)])
  (.seq (.seq (.reg [R.q 3 (.mov (R.i 0))])
  (.block 0 (.loop
     (.seq (.seq (.reg [R.q 5 (.mov (R.t 3)),
       R.q 6 (.mov (R.t 0)),
       R.q 7 (.len (R.t 6)),
       R.q 8 (.bin .lss .no (R.t 5) (R.t 7))])
     (.cond (R.t 8)
       .skip
       (.exit 0)))
     (.seq (.block 1 (.seq (.reg [R.q 11 (.mov (R.t 0)),
        R.q 12 (.mov (R.t 3)),
        R.q 13 (.idx 2 (R.t 11) (R.t 12)),
        R.q 14 (.fld 0 (R.t 13)),
        R.q 15 (.load1 (R.t 14)),
        R.q 4 (.mov (R.t 15))])
      (.seq (.reg [R.q 16 (.mov (R.t 4)),
        R.q 17 (.lenS (R.t 16)),
        R.q 18 (.bin .eql .no (R.t 17) (R.i 0)),
        R.q 19 (.mov (R.t 18)),
        R.g 20 (.mov (R.t 4)) 19 false,
        R.g 21 (.lenS (R.t 20)) 19 false,
        R.g 22 (.bin .gtr .no (R.t 21) (R.i 238)) 19 false,
        R.q 23 (.pick (R.t 19) R.tt (R.t 22)),
        R.q 24 (.mov (R.t 23)),
        R.g 25 (.mov (R.t 4)) 24 false,
        R.g 26 (.call 105 [(R.t 25), (.val (.str fun _ => [0]))]) 24 false,
        R.q 27 (.pick (R.t 24) R.tt (R.t 26)),
        R.q 28 (.mov (R.t 27)),
        R.g 29 (.mov (R.t 4)) 28 false,
        R.g 30 (.call 106 [(R.t 29)]) 28 false,
        R.g 31 (.lenS (R.t 30)) 28 false,
        R.g 32 (.bin .gtr .no (R.t 31) (R.i 238)) 28 false,
        R.q 33 (.pick (R.t 28) R.tt (R.t 32)),
        R.q 34 (.mov (R.t 33)),
        R.g 35 (.mov (R.t 0)) 34 false,
        R.g 36 (.mov (R.t 3)) 34 false,
        R.g 37 (.idx 2 (R.t 35) (R.t 36)) 34 false,
        R.g 38 (.fld 1 (R.t 37)) 34 false,
        R.g 39 (.load1 (R.t 38)) 34 false,
        R.g 40 (.lenS (R.t 39)) 34 false,
        R.g 41 (.bin .gtr .no (R.t 40) (R.i 4096)) 34 false,
        R.q 42 (.pick (R.t 34) R.tt (R.t 41)),
        R.q 43 (.mov (R.t 42)),
        R.g 44 (.mov (R.t 3)) 43 false,
        R.g 45 (.bin .gtr .no (R.t 44) (R.i 0)) 43 false,
        R.g 46 (.mov (R.t 45)) 43 false,
        R.g 47 (.mov (R.t 4)) 46 true,
        R.g 48 (.mov (R.t 0)) 46 true,
        R.g 49 (.mov (R.t 3)) 46 true,
        R.g 50 (.bin .sub .no (R.t 49) (R.i 1)) 46 true,
        R.g 51 (.idx 2 (R.t 48) (R.t 50)) 46 true,
        R.g 52 (.fld 0 (R.t 51)) 46 true,
        R.g 53 (.load1 (R.t 52)) 46 true,
        R.g 54 (.bin .leq .no (R.t 47) (R.t 53)) 46 true,
        R.g 55 (.pick (R.t 46) (R.t 54) R.ff) 43 false,
        R.q 56 (.pick (R.t 43) R.tt (R.t 55))])
      (.cond (R.t 56)
        (.seq (.reg [R.q 2 (.mov R.ff)])
        .ret)
        .skip))))
     (.reg [R.q 9 (.mov (R.t 3)),
       R.q 10 (.bin .add .no (R.t 9) (R.i 1)),
       R.q 3 (.mov (R.t 10))]))))))
  (.seq (.reg [R.q 57 (.mov (R.t 0)),
    R.q 58 (.len (R.t 57)),
    R.q 59 (.bin .leq .no (R.t 58) (R.i 32)),
    R.q 2 (.mov (R.t 59))])
  .ret)))
def r9_MayXattrs.rs : List RRes := [.tmp 2]
theorem r9_MayXattrs.of {xs : List AV} {d : Nat} {B : BL} {K : ARes → BL → Prop} (hn : xs.length = 1) (hB : onlyOuter B = true) (h : awp ⟨PT, 60, exitX r9_MayXattrs.rs K⟩ 10000 [.code r9_MayXattrs.rc] ⟨params 0 xs, B, .nil⟩) : CallAt PT r9_MayXattrs xs d B K :=
  call_of_awp 10000 Try.func67 rfl (by kernel_rfl) (by kernel_rfl) (by kernel_rfl) (by rw [hn]; decide) hB h

/-! gripsack/gripsackref9.MayAcl -/
abbrev r9_MayAcl : Nat := 68
def r9_MayAcl.rc : RC :=
  (.seq (.reg [R.q 2 (.mov R.ff)])
  (.seq (.seq (.reg [R.q 6 (.mov (R.t 0)),
    R.q 7 (.len (R.t 6)),
    R.q 8 (.bin .lss .no (R.t 7) (R.i 3)),
    R.q 9 (.mov (R.t 8)),
    R.g 10 (.mov (R.t 0)) 9 false,
    R.g 11 (.len (R.t 10)) 9 false,
    R.g 12 (.bin .gtr .no (R.t 11) (R.i 32)) 9 false,
    R.q 13 (.pick (R.t 9) R.tt (R.t 12))])
  (.cond (R.t 13)
    (.seq (.reg [R.q 2 (.mov R.ff)])
    .ret)
    .skip))
  (.seq (.reg [R.q 14 (.mks 1 8 (.cons (R.z 0) .nil) (R.i 7) (R.i 7)),
    R.q 3 (.mov (R.t 14))])
  (.seq (.seq (.reg [R.q 4 (.mov (R.i 0))])
  (.block 0 (.loop
     (.seq (.seq (.reg [R.q 15 (.mov (R.t 4)),
       R.q 16 (.mov (R.t 0)),
       R.q 17 (.len (R.t 16)),
       R.q 18 (.bin .lss .no (R.t 15) (R.t 17))])
     (.cond (R.t 18)
       .skip
       (.exit 0)))
     (.seq (.block 1 (.seq (.reg [R.q 21 (.mov (R.t 0)),
        R.q 22 (.mov (R.t 4)),
        R.q 23 (.idx 3 (R.t 21) (R.t 22)),
        R.q 24 (.loadA 3 (R.t 23)),
        R.q 5 (.alloc (.cons (R.z 0) (.cons (R.z 0) (.cons (R.z 0) .nil)))),
        R.e (.store 3 (R.t 5) (R.t 24))])
      (.seq (.seq (.reg [R.q 25 (.fld 0 (R.t 5)),
        R.q 26 (.load1 (R.t 25)),
        R.q 27 (.bin .lss .no (R.t 26) (R.i 1)),
        R.q 28 (.mov (R.t 27)),
        R.g 29 (.fld 0 (R.t 5)) 28 false,
        R.g 30 (.load1 (R.t 29)) 28 false,
        R.g 31 (.bin .gtr .no (R.t 30) (R.i 6)) 28 false,
        R.q 32 (.pick (R.t 28) R.tt (R.t 31)),
        R.q 33 (.mov (R.t 32)),
        R.g 34 (.fld 2 (R.t 5)) 33 false,
        R.g 35 (.load1 (R.t 34)) 33 false,
        R.g 36 (.bin .lss .no (R.t 35) (R.i 0)) 33 false,
        R.q 37 (.pick (R.t 33) R.tt (R.t 36)),
        R.q 38 (.mov (R.t 37)),
        R.g 39 (.fld 2 (R.t 5)) 38 false,
        R.g 40 (.load1 (R.t 39)) 38 false,
        R.g 41 (.bin .gtr .no (R.t 40) (R.i 7)) 38 false,
        R.q 42 (.pick (R.t 38) R.tt (R.t 41)),
        R.q 43 (.mov (R.t 42)),
        R.g 44 (.fld 1 (R.t 5)) 43 false,
        R.g 45 (.load1 (R.t 44)) 43 false,
        R.g 46 (.bin .lss .no (R.t 45) (R.i 0)) 43 false,
        R.q 47 (.pick (R.t 43) R.tt (R.t 46)),
        R.q 48 (.mov (R.t 47)),
        R.g 49 (.fld 1 (R.t 5)) 48 false,
        R.g 50 (.load1 (R.t 49)) 48 false,
        R.g 51 (.bin .gtr .no (R.t 50) (R.i 2147483647)) 48 false,
        R.q 52 (.pick (R.t 48) R.tt (R.t 51)),
        R.q 53 (.mov (R.t 52)),
        R.g 54 (.loadA 3 (R.t 5)) 53 false,
        R.g 55 (.call 107 [(R.t 54)]) 53 false,
        R.g 56 (.un .not (R.t 55)) 53 false,
        R.g 57 (.mov (R.t 56)) 53 false,
        R.g 58 (.fld 1 (R.t 5)) 57 true,
        R.g 59 (.load1 (R.t 58)) 57 true,
        R.g 60 (.bin .neq .no (R.t 59) (R.i 0)) 57 true,
        R.g 61 (.pick (R.t 57) (R.t 60) R.ff) 53 false,
        R.q 62 (.pick (R.t 53) R.tt (R.t 61))])
      (.cond (R.t 62)
        (.seq (.reg [R.q 2 (.mov R.ff)])
        .ret)
        .skip))
      (.seq (.seq (.regd [R.f (R.q 63 (.mov (R.t 4))),
        R.f (R.q 64 (.bin .gtr .no (R.t 63) (R.i 0))),
        R.f (R.q 65 (.mov (R.t 64))),
        R.f (R.g 66 (.fld 0 (R.t 5)) 65 true),
        R.f (R.g 67 (.load1 (R.t 66)) 65 true),
        R.f (R.g 68 (.mov (R.t 0)) 65 true),
        R.f (R.g 69 (.mov (R.t 4)) 65 true),
        R.f (R.g 70 (.bin .sub .no (R.t 69) (R.i 1)) 65 true),
        R.f (R.g 71 (.idx 3 (R.t 68) (R.t 70)) 65 true),
        R.f (R.g 72 (.fld 0 (R.t 71)) 65 true),
        R.f (R.g 73 (.load1 (R.t 72)) 65 true),
        R.f (R.g 74 (.bin .lss .no (R.t 67) (R.t 73)) 65 true),
        R.f (R.g 75 (.mov (R.t 74)) 65 true),
        R.f (R.g 76 (.fld 0 (R.t 5)) 75 false),
        R.f (R.g 77 (.load1 (R.t 76)) 75 false),
        R.f (R.g 78 (.mov (R.t 0)) 75 false),
        R.f (R.g 79 (.mov (R.t 4)) 75 false),
        R.f (R.g 80 (.bin .sub .no (R.t 79) (R.i 1)) 75 false),
        R.f (R.g 81 (.idx 3 (R.t 78) (R.t 80)) 75 false),
        R.f (R.g 82 (.fld 0 (R.t 81)) 75 false),
        R.f (R.g 83 (.load1 (R.t 82)) 75 false),
        R.f (R.g 84 (.bin .eql .no (R.t 77) (R.t 83)) 75 false),
        R.f (R.g 85 (.mov (R.t 84)) 75 false),
        R.f (R.g 86 (.loadA 3 (R.t 5)) 85 true),
        R.s (R.g 87 (.call 107 [(R.t 86)]) 85 true) [],
        R.f (R.g 88 (.un .not (R.t 87)) 85 true),
        R.f (R.g 89 (.mov (R.t 88)) 85 true),
        R.f (R.g 90 (.fld 1 (R.t 5)) 89 false),
        R.f (R.g 91 (.load1 (R.t 90)) 89 false),
        R.f (R.g 92 (.mov (R.t 0)) 89 false),
        R.f (R.g 93 (.mov (R.t 4)) 89 false),
        R.f (R.g 94 (.bin .sub .no (R.t 93) (R.i 1)) 89 false),
        R.f (R.g 95 (.idx 3 (R.t 92) (R.t 94)) 89 false),
        R.f (R.g 96 (.fld 1 (R.t 95)) 89 false),
        R.f (R.g 97 (.load1 (R.t 96)) 89 false),
        R.f (R.g 98 (.bin .leq .no (R.t 91) (R.t 97)) 89 false),
        R.f (R.g 99 (.pick (R.t 89) R.tt (R.t 98)) 85 true),
        R.f (R.g 100 (.pick (R.t 85) (R.t 99) R.ff) 75 false),
        R.f (R.g 101 (.pick (R.t 75) R.tt (R.t 100)) 65 true),
        R.f (R.q 102 (.pick (R.t 65) (R.t 101) R.ff))])
      (.cond (R.t 102)
        (.seq (.reg [R.q 2 (.mov R.ff)])
        .ret)
        .skip))
      (.reg [R.q 103 (.mov (R.t 3)),
        R.q 104 (.fld 0 (R.t 5)),
        R.q 105 (.load1 (R.t 104)),
        R.q 106 (.idx 1 (R.t 103) (R.t 105)),
        R.q 107 (.load1 (R.t 106)),
        R.q 108 (.bin .add .no (R.t 107) (R.i 1)),
        R.q 109 (.idx 1 (R.t 103) (R.t 105)),
        R.e (.store 1 (R.t 109) (R.t 108))])))))
     (.reg [R.q 19 (.mov (R.t 4)),
       R.q 20 (.bin .add .no (R.t 19) (R.i 1)),
       R.q 4 (.mov (R.t 20))]))))))
  (.seq (.regd [R.f (R.q 110 (.mov (R.t 3))),
    R.f (R.q 111 (.idx 1 (R.t 110) (R.i 1))),
    R.f (R.q 112 (.load1 (R.t 111))),
    R.f (R.q 113 (.bin .eql .no (R.t 112) (R.i 1))),
    R.f (R.q 114 (.mov (R.t 113))),
    R.f (R.g 115 (.mov (R.t 3)) 114 true),
    R.f (R.g 116 (.idx 1 (R.t 115) (R.i 3)) 114 true),
    R.f (R.g 117 (.load1 (R.t 116)) 114 true),
    R.f (R.g 118 (.bin .eql .no (R.t 117) (R.i 1)) 114 true),
    R.f (R.q 119 (.pick (R.t 114) (R.t 118) R.ff)),
    R.f (R.q 120 (.mov (R.t 119))),
    R.f (R.g 121 (.mov (R.t 3)) 120 true),
    R.f (R.g 122 (.idx 1 (R.t 121) (R.i 6)) 120 true),
    R.f (R.g 123 (.load1 (R.t 122)) 120 true),
    R.f (R.g 124 (.bin .eql .no (R.t 123) (R.i 1)) 120 true),
    R.f (R.q 125 (.pick (R.t 120) (R.t 124) R.ff)),
    R.f (R.q 126 (.mov (R.t 125))),
    R.f (R.g 127 (.mov (R.t 3)) 126 true),
    R.f (R.g 128 (.idx 1 (R.t 127) (R.i 5)) 126 true),
    R.f (R.g 129 (.load1 (R.t 128)) 126 true),
    R.f (R.g 130 (.bin .eql .no (R.t 129) (R.i 1)) 126 true),
    R.f (R.g 131 (.mov (R.t 3)) 126 true),
    R.f (R.g 132 (.idx 1 (R.t 131) (R.i 2)) 126 true),
    R.f (R.g 133 (.load1 (R.t 132)) 126 true),
    R.f (R.g 134 (.mov (R.t 3)) 126 true),
    R.f (R.g 135 (.idx 1 (R.t 134) (R.i 4)) 126 true),
    R.f (R.g 136 (.load1 (R.t 135)) 126 true),
    R.f (R.g 137 (.bin .add .no (R.t 133) (R.t 136)) 126 true),
    R.f (R.g 138 (.bin .gtr .no (R.t 137) (R.i 0)) 126 true),
    R.f (R.g 139 (.bin .eql .bool (R.t 130) (R.t 138)) 126 true),
    R.f (R.q 140 (.pick (R.t 126) (R.t 139) R.ff)),
    R.s (R.q 2 (.mov (R.t 140))) []])
  .ret)))))
def r9_MayAcl.rs : List RRes := [.tmp 2]
theorem r9_MayAcl.of {xs : List AV} {d : Nat} {B : BL} {K : ARes → BL → Prop} (hn : xs.length = 1) (hB : onlyOuter B = true) (h : awp ⟨PT, 141, exitX r9_MayAcl.rs K⟩ 10000 [.code r9_MayAcl.rc] ⟨params 0 xs, B, .nil⟩) : CallAt PT r9_MayAcl xs d B K :=
  call_of_awp 10000 Try.func68 rfl (by kernel_rfl) (by kernel_rfl) (by kernel_rfl) (by rw [hn]; decide) hB h

/-! gripsack/gripsackref9.ModeAcl -/
abbrev r9_ModeAcl : Nat := 69
def r9_ModeAcl.rc : RC :=
  (.seq (.reg [R.q 2 (.mov (R.i 0))])
  (.seq (.reg [R.q 4 (.mov (R.t 0)),
    R.q 5 (.call 99 [(R.t 4), (R.i 5)]),
    R.q 3 (.mov (R.t 5))])
  (.seq (.seq (.reg [R.q 6 (.mov (R.t 3)),
    R.q 7 (.bin .lss .no (R.t 6) (R.i 0))])
  (.cond (R.t 7)
    (.reg [R.q 8 (.mov (R.t 0)),
      R.q 9 (.call 99 [(R.t 8), (R.i 3)]),
      R.q 3 (.mov (R.t 9))])
    .skip))
  (.seq (.reg [R.q 10 (.mov (R.t 0)),
    R.q 11 (.call 99 [(R.t 10), (R.i 1)]),
    R.q 12 (.bin .mul .no (R.t 11) (R.i 64)),
    R.q 13 (.mov (R.t 3)),
    R.q 14 (.bin .mul .no (R.t 13) (R.i 8)),
    R.q 15 (.bin .add .no (R.t 12) (R.t 14)),
    R.q 16 (.mov (R.t 0)),
    R.q 17 (.call 99 [(R.t 16), (R.i 6)]),
    R.q 18 (.bin .add .no (R.t 15) (R.t 17)),
    R.q 2 (.mov (R.t 18))])
  .ret))))
def r9_ModeAcl.rs : List RRes := [.tmp 2]
theorem r9_ModeAcl.of {xs : List AV} {d : Nat} {B : BL} {K : ARes → BL → Prop} (hn : xs.length = 1) (hB : onlyOuter B = true) (h : awp ⟨PT, 19, exitX r9_ModeAcl.rs K⟩ 10000 [.code r9_ModeAcl.rc] ⟨params 0 xs, B, .nil⟩) : CallAt PT r9_ModeAcl xs d B K :=
  call_of_awp 10000 Try.func69 rfl (by kernel_rfl) (by kernel_rfl) (by kernel_rfl) (by rw [hn]; decide) hB h

/-! gripsack/gripsackref9.MayCaps -/
abbrev r9_MayCaps : Nat := 70
def r9_MayCaps.rc : RC :=
  (.seq (.reg [R.q 1 (.box (R.t 0)),
    R.q 2 (.mov R.ff)])
  (.seq (.seq (.reg [R.q 3 (.fld 0 (R.t 1)),
    R.q 4 (.load1 (R.t 3))])
  (.block 0 (.seq (.reg [R.q 6 (.bin .eql .no (R.t 4) (R.i 0)),
     R.q 5 (.mov (R.t 6))])
   (.cond (R.t 5)
     (.seq (.reg [R.q 7 (.loadA 5 (R.t 1)),
       R.q 8 (.build (.cons (R.z 0) (.cons (.int .u64 fun _ => 0) (.cons (.int .u64 fun _ => 0) (.cons .ff (.cons (R.z 0) .nil))))) []),
       R.q 9 (.bin .eql (.agg [.i .i64, .i .u64, .i .u64, .b, .i .i64]) (R.t 7) (R.t 8)),
       R.q 2 (.mov (R.t 9))])
     .ret)
     (.seq (.reg [R.q 11 (.bin .eql .no (R.t 4) (R.i 2)),
       R.q 10 (.mov (R.t 11))])
     (.cond (R.t 10)
       (.seq (.reg [R.q 12 (.fld 4 (R.t 1)),
         R.q 13 (.load1 (R.t 12)),
         R.q 14 (.bin .eql .no (R.t 13) (R.i 0)),
         R.q 2 (.mov (R.t 14))])
       .ret)
       (.seq (.reg [R.q 16 (.bin .eql .no (R.t 4) (R.i 3)),
         R.q 15 (.mov (R.t 16))])
       (.cond (R.t 15)
         (.seq (.reg [R.q 17 (.fld 4 (R.t 1)),
           R.q 18 (.load1 (R.t 17)),
           R.q 19 (.bin .geq .no (R.t 18) (R.i 0)),
           R.q 20 (.mov (R.t 19)),
           R.g 21 (.fld 4 (R.t 1)) 20 true,
           R.g 22 (.load1 (R.t 21)) 20 true,
           R.g 23 (.bin .leq .no (R.t 22) (R.i 2147483647)) 20 true,
           R.q 24 (.pick (R.t 20) (R.t 23) R.ff),
           R.q 2 (.mov (R.t 24))])
         .ret)
         .skip))))))))
  (.seq (.reg [R.q 2 (.mov R.ff)])
  .ret)))
def r9_MayCaps.rs : List RRes := [.tmp 2]
theorem r9_MayCaps.of {xs : List AV} {d : Nat} {B : BL} {K : ARes → BL → Prop} (hn : xs.length = 1) (hB : onlyOuter B = true) (h : awp ⟨PT, 25, exitX r9_MayCaps.rs K⟩ 10000 [.code r9_MayCaps.rc] ⟨params 0 xs, B, .nil⟩) : CallAt PT r9_MayCaps xs d B K :=
  call_of_awp 10000 Try.func70 rfl (by kernel_rfl) (by kernel_rfl) (by kernel_rfl) (by rw [hn]; decide) hB h

/-! gripsack/gripsacklaw13.Make -/
abbrev l13_Make : Nat := 71
def l13_Make.rc : RC :=
  (.seq (.reg [R.q 2 (.mov (.val .nsl))])
  (.seq (.reg [R.q 3 (.mov (.val .nsl))])
  (.seq (.seq (.reg [R.q 4 (.mov (R.i 0))])
  (.block 0 (.loop
     (.seq (.seq (.reg [R.q 8 (.mov (R.t 4)),
       R.q 9 (.bin .add .no (R.t 8) (R.i 1)),
       R.q 10 (.mov (R.t 0)),
       R.q 11 (.len (R.t 10)),
       R.q 12 (.bin .lss .no (R.t 9) (R.t 11)),
       R.q 13 (.mov (R.t 12)),
       R.g 14 (.mov (R.t 3)) 13 true,
       R.g 15 (.len (R.t 14)) 13 true,
       R.g 16 (.bin .lss .no (R.t 15) (R.i 6)) 13 true,
       R.q 17 (.pick (R.t 13) (R.t 16) R.ff)])
     (.cond (R.t 17)
       .skip
       (.exit 0)))
     (.seq (.block 1 (.seq (.regd [R.f (R.q 20 (.bslice 1 (.cons (.str fun _ => []) .nil) 5 [(0, 1, (.val (.str fun _ => [117, 115, 101, 114, 46]))), (1, 1, (.val (.str fun _ => [116, 114, 117, 115, 116, 101, 100, 46]))), (2, 1, (.val (.str fun _ => [115, 101, 99, 117, 114, 105, 116, 121, 46]))), (3, 1, (.val (.str fun _ => [120, 61]))), (4, 1, (.val (.str fun _ => [255])))])),
        R.f (R.q 21 (.mov (R.t 0))),
        R.f (R.q 22 (.mov (R.t 4))),
        R.f (R.q 23 (.idx 1 (R.t 21) (R.t 22))),
        R.f (R.q 24 (.load1 (R.t 23))),
        R.f (R.q 25 (.bin .rem .no (R.t 24) (R.u 5))),
        R.f (R.q 26 (.idx 1 (R.t 20) (R.t 25))),
        R.f (R.q 27 (.load1 (R.t 26))),
        R.f (R.q 28 (.mov (R.t 0))),
        R.f (R.q 29 (.mov (R.t 4))),
        R.f (R.q 30 (.idx 1 (R.t 28) (R.t 29))),
        R.f (R.q 31 (.load1 (R.t 30))),
        R.f (R.q 32 (.bin .quo .no (R.t 31) (R.u 5))),
        R.f (R.q 33 (.bin .rem .no (R.t 32) (R.u 20))),
        R.f (R.q 34 (.bin .add .no (R.u 97) (R.t 33))),
        R.f (R.q 35 (.mov (R.t 0))),
        R.f (R.q 36 (.mov (R.t 4))),
        R.f (R.q 37 (.bin .add .no (R.t 36) (R.i 1))),
        R.f (R.q 38 (.idx 1 (R.t 35) (R.t 37))),
        R.f (R.q 39 (.load1 (R.t 38))),
        R.f (R.q 40 (.bin .rem .no (R.t 39) (R.u 255))),
        R.f (R.q 41 (.bin .add .no (R.u 1) (R.t 40))),
        R.f (R.q 42 (.bslice 1 (.cons (.int .u8 fun _ => 0) .nil) 2 [(0, 1, (R.t 34)), (1, 1, (R.t 41))])),
        R.f (R.q 43 (.b2s (R.t 42))),
        R.f (R.q 44 (.bin .add .no (R.t 27) (R.t 43))),
        R.s (R.q 5 (.mov (R.t 44))) []])
      (.seq (.reg [R.q 45 (.mov (R.t 0)),
        R.q 46 (.mov (R.t 4)),
        R.q 47 (.bin .add .no (R.t 46) (R.i 1)),
        R.q 48 (.idx 1 (R.t 45) (R.t 47)),
        R.q 49 (.load1 (R.t 48)),
        R.q 50 (.conv .i64 (R.t 49)),
        R.q 51 (.bin .rem .no (R.t 50) (R.i 20)),
        R.q 52 (.mks 1 1 (.cons (.int .u8 fun _ => 0) .nil) (R.t 51) (R.t 51)),
        R.q 6 (.mov (R.t 52))])
      (.seq (.seq (.reg [R.q 7 (.mov (R.i 0))])
      (.block 2 (.loop
         (.seq (.seq (.reg [R.q 53 (.mov (R.t 7)),
           R.q 54 (.mov (R.t 6)),
           R.q 55 (.len (R.t 54)),
           R.q 56 (.bin .lss .no (R.t 53) (R.t 55))])
         (.cond (R.t 56)
           .skip
           (.exit 2)))
         (.seq (.block 3 (.reg [R.q 59 (.mov (R.t 6)),
            R.q 60 (.mov (R.t 7)),
            R.q 61 (.mov (R.t 0)),
            R.q 62 (.mov (R.t 4)),
            R.q 63 (.idx 1 (R.t 61) (R.t 62)),
            R.q 64 (.load1 (R.t 63)),
            R.q 65 (.mov (R.t 7)),
            R.q 66 (.bin .add .no (R.t 65) (R.i 1)),
            R.q 67 (.conv .u8 (R.t 66)),
            R.q 68 (.bin .mul .no (R.t 64) (R.t 67)),
            R.q 69 (.idx 1 (R.t 59) (R.t 60)),
            R.e (.store 1 (R.t 69) (R.t 68))]))
         (.reg [R.q 57 (.mov (R.t 7)),
           R.q 58 (.bin .add .no (R.t 57) (R.i 1)),
           R.q 7 (.mov (R.t 58))]))))))
      (.reg [R.q 70 (.mov (R.t 3)),
        R.q 71 (.mov (R.t 5)),
        R.q 72 (.mov (R.t 6)),
        R.q 73 (.b2s (R.t 72)),
        R.q 74 (.build (.cons (.str fun _ => []) (.cons (.str fun _ => []) .nil)) [(0, 1, (R.t 71)), (1, 1, (R.t 73))]),
        R.q 75 (.call 108 [(R.t 70), (R.t 74)]),
        R.q 3 (.mov (R.t 75))])))))
     (.reg [R.q 18 (.mov (R.t 4)),
       R.q 19 (.bin .add .no (R.t 18) (R.i 2)),
       R.q 4 (.mov (R.t 19))]))))))
  (.seq (.reg [R.q 76 (.mov (R.t 3)),
    R.q 2 (.mov (R.t 76))])
  .ret))))
def l13_Make.rs : List RRes := [.tmp 2]
theorem l13_Make.of {xs : List AV} {d : Nat} {B : BL} {K : ARes → BL → Prop} (hn : xs.length = 1) (hB : onlyOuter B = true) (h : awp ⟨PT, 77, exitX l13_Make.rs K⟩ 10000 [.code l13_Make.rc] ⟨params 0 xs, B, .nil⟩) : CallAt PT l13_Make xs d B K :=
  call_of_awp 10000 Try.func71 rfl (by kernel_rfl) (by kernel_rfl) (by kernel_rfl) (by rw [hn]; decide) hB h

/-! gripsack/gripsacklaw11.Make -/
abbrev l11_Make : Nat := 72
def l11_Make.rc : RC :=
  (.seq (.reg [R.q 8 (.alloc (.cons (R.z 0) (.cons (.int .u64 fun _ => 0) (.cons (.int .u64 fun _ => 0) (.cons .ff (.cons (R.z 0) .nil))))))])
  (.seq (.reg [R.q 10 (.mov (R.t 2)),
    R.q 11 (.conv .i64 (R.t 10)),
    R.q 12 (.bin .rem .no (R.t 11) (R.i 2)),
    R.q 13 (.bin .add .no (R.i 2) (R.t 12)),
    R.q 14 (.mov (R.t 0)),
    R.q 15 (.mov (R.t 1)),
    R.q 16 (.mov (R.t 2)),
    R.q 17 (.bin .geq .no (R.t 16) (R.u 128)),
    R.q 18 (.build (.cons (R.z 0) (.cons (.int .u64 fun _ => 0) (.cons (.int .u64 fun _ => 0) (.cons .ff (.cons (R.z 0) .nil))))) [(0, 1, (R.t 13)), (1, 1, (R.t 14)), (2, 1, (R.t 15)), (3, 1, (R.t 17))]),
    R.q 9 (.alloc (.cons (R.z 0) (.cons (.int .u64 fun _ => 0) (.cons (.int .u64 fun _ => 0) (.cons .ff (.cons (R.z 0) .nil)))))),
    R.e (.store 5 (R.t 9) (R.t 18))])
  (.seq (.seq (.reg [R.q 19 (.fld 0 (R.t 9)),
    R.q 20 (.load1 (R.t 19)),
    R.q 21 (.bin .eql .no (R.t 20) (R.i 3))])
  (.cond (R.t 21)
    (.reg [R.q 22 (.mov (R.t 3)),
      R.q 23 (.conv .i64 (R.t 22)),
      R.q 24 (.bin .shr .no (R.t 23) (.val (.int .u64 fun _ => 1))),
      R.q 25 (.fld 4 (R.t 9)),
      R.e (.store 1 (R.t 25) (R.t 24))])
    .skip))
  (.seq (.reg [R.q 26 (.loadA 5 (R.t 9)),
    R.e (.store 5 (R.t 8) (R.t 26))])
  .ret))))
def l11_Make.rs : List RRes := [.cellA 8 5]
theorem l11_Make.of {xs : List AV} {d : Nat} {B : BL} {K : ARes → BL → Prop} (hn : xs.length = 4) (hB : onlyOuter B = true) (h : awp ⟨PT, 27, exitX l11_Make.rs K⟩ 10000 [.code l11_Make.rc] ⟨params 0 xs, B, .nil⟩) : CallAt PT l11_Make xs d B K :=
  call_of_awp 10000 Try.func72 rfl (by kernel_rfl) (by kernel_rfl) (by kernel_rfl) (by rw [hn]; decide) hB h

/-! gripsack/gripsacklaw9.add -/
abbrev l9_add : Nat := 73
def l9_add.rc : RC :=
  (.seq (.reg [R.q 3 (.box (R.t 1)),
    R.q 4 (.mov (.val .nsl))])
  (.seq (.reg [R.q 5 (.mov (R.i 0))])
  (.seq (.block 0 (.loop
     (.seq (.seq (.regd [R.f (R.q 7 (.mov (R.t 5))),
       R.f (R.q 8 (.mov (R.t 0))),
       R.f (R.q 9 (.len (R.t 8))),
       R.f (R.q 10 (.bin .lss .no (R.t 7) (R.t 9))),
       R.f (R.q 11 (.mov (R.t 10))),
       R.f (R.g 12 (.mov (R.t 0)) 11 true),
       R.f (R.g 13 (.mov (R.t 5)) 11 true),
       R.f (R.g 14 (.idx 3 (R.t 12) (R.t 13)) 11 true),
       R.f (R.g 15 (.fld 1 (R.t 14)) 11 true),
       R.f (R.g 16 (.load1 (R.t 15)) 11 true),
       R.f (R.g 17 (.fld 1 (R.t 3)) 11 true),
       R.f (R.g 18 (.load1 (R.t 17)) 11 true),
       R.f (R.g 19 (.bin .lss .no (R.t 16) (R.t 18)) 11 true),
       R.f (R.q 20 (.pick (R.t 11) (R.t 19) R.ff))])
     (.cond (R.t 20)
       .skip
       (.exit 0)))
     (.block 1 (.reg [R.q 21 (.mov (R.t 5)),
        R.q 22 (.bin .add .no (R.t 21) (R.i 1)),
        R.q 5 (.mov (R.t 22))])))))
  (.seq (.reg [R.q 23 (.bslice 3 (.cons (R.z 0) (.cons (R.z 0) (.cons (R.z 0) .nil))) 0 []),
    R.q 24 (.mov (R.t 0)),
    R.q 25 (.mov (R.t 5)),
    R.q 26 (.slice 3 (R.t 24) (some (R.t 25)) none),
    R.q 27 (.append 3 24 (R.t 23) (R.t 26)),
    R.q 6 (.mov (R.t 27))])
  (.seq (.seq (.regd [R.f (R.q 28 (.mov (R.t 6))),
    R.f (R.q 29 (.len (R.t 28))),
    R.f (R.q 30 (.bin .gtr .no (R.t 29) (R.i 0))),
    R.f (R.q 31 (.mov (R.t 30))),
    R.f (R.g 32 (.mov (R.t 6)) 31 true),
    R.f (R.g 33 (.idx 3 (R.t 32) (R.i 0)) 31 true),
    R.f (R.g 34 (.fld 1 (R.t 33)) 31 true),
    R.f (R.g 35 (.load1 (R.t 34)) 31 true),
    R.f (R.g 36 (.fld 1 (R.t 3)) 31 true),
    R.f (R.g 37 (.load1 (R.t 36)) 31 true),
    R.f (R.g 38 (.bin .eql .no (R.t 35) (R.t 37)) 31 true),
    R.f (R.q 39 (.pick (R.t 31) (R.t 38) R.ff))])
  (.cond (R.t 39)
    (.reg [R.q 40 (.mov (R.t 6)),
      R.q 41 (.slice 3 (R.t 40) (some (R.i 1)) none),
      R.q 6 (.mov (R.t 41))])
    .skip))
  (.seq (.regd [R.f (R.q 42 (.bslice 3 (.cons (R.z 0) (.cons (R.z 0) (.cons (R.z 0) .nil))) 0 [])),
    R.f (R.q 43 (.mov (R.t 0))),
    R.f (R.q 44 (.mov (R.t 5))),
    R.f (R.q 45 (.slice 3 (R.t 43) none (some (R.t 44)))),
    R.f (R.q 47 (.loadA 3 (R.t 3))),
    R.f (R.q 48 (.bslice 3 (.cons (R.z 0) (.cons (R.z 0) (.cons (R.z 0) .nil))) 1 [(0, 3, (R.t 47))])),
    R.f (R.q 50 (.mov (R.t 6))),
    R.s (R.q 46 (.append 3 24 (R.t 42) (R.t 45))) [4, 5, 6],
    R.s (R.q 49 (.append 3 24 (R.t 46) (R.t 48))) [6],
    R.s (R.q 51 (.append 3 24 (R.t 49) (R.t 50))) [],
    R.s (R.q 4 (.mov (R.t 51))) []])
  .ret))))))
def l9_add.rs : List RRes := [.tmp 4]
theorem l9_add.of {xs : List AV} {d : Nat} {B : BL} {K : ARes → BL → Prop} (hn : xs.length = 2) (hB : onlyOuter B = true) (h : awp ⟨PT, 52, exitX l9_add.rs K⟩ 10000 [.code l9_add.rc] ⟨params 0 xs, B, .nil⟩) : CallAt PT l9_add xs d B K :=
  call_of_awp 10000 Try.func73 rfl (by kernel_rfl) (by kernel_rfl) (by kernel_rfl) (by rw [hn]; decide) hB h

/-! gripsack/right.look[int] -/
abbrev right_look_int : Nat := 94
def right_look_int.rc : RC :=
  (.seq (.reg [R.q 2 (.alloc (.cons (R.z 0) .nil))])
  (.seq (.reg [R.q 3 (.mkfn (.func 122) [] [(R.t 2)]),
    R.e (.defer (R.t 3) [])])
  (.seq (.reg [R.q 4 (.mov (R.t 0)),
    R.q 5 (.callv (R.t 4) []),
    R.e (.store 1 (R.t 2) (R.t 5))])
  .ret)))
def right_look_int.rs : List RRes := [.cell1 2]
theorem right_look_int.of {xs : List AV} {d : Nat} {B : BL} {K : ARes → BL → Prop} (hn : xs.length = 1) (hB : onlyOuter B = true) (h : awp ⟨PT, 6, exitD PT right_look_int.rs K⟩ 10000 [.code right_look_int.rc] ⟨params 0 xs, B, .nil⟩) : CallAt PT right_look_int xs d B K :=
  call_of_awp_d 10000 Try.func94 rfl (by kernel_rfl) (by kernel_rfl) (by kernel_rfl) (by rw [hn]; decide) hB h

/-! gripsack/right.Less$1 -/
abbrev right_Less_1 : Nat := 95
def right_Less_1.rc : RC :=
  (.seq (.reg [R.q 1 (.mov (R.i 0))])
  (.seq (.reg [R.q 8 (.loadA 14 (R.t 0)),
    R.q 9 (.call 96 [(R.t 8)]),
    R.q 2 (.mov (R.t 9))])
  (.seq (.reg [R.q 10 (.mov (R.t 2)),
    R.q 11 (.call 97 [(R.t 10)]),
    R.q 3 (.mov (R.t 11))])
  (.seq (.reg [R.q 12 (.mov (R.t 2)),
    R.q 13 (.call 98 [(R.t 12), (R.i 3)]),
    R.q 14 (.mov (R.t 3)),
    R.q 15 (.bin .and .no (R.t 13) (R.t 14)),
    R.q 16 (.mov (R.t 2)),
    R.q 17 (.call 98 [(R.t 16), (R.i 6)]),
    R.q 4 (.mov (R.t 15)),
    R.q 5 (.mov (R.t 17))])
  (.seq (.seq (.reg [R.q 18 (.mov (R.t 2)),
    R.q 19 (.len (R.t 18)),
    R.q 20 (.mov (R.i 0))])
  (.block 0 (.loop
     (.seq (.reg [R.q 21 (.bin .lss .no (R.t 20) (R.t 19))])
     (.seq (.cond (R.t 21)
       .skip
       (.exit 0))
     (.seq (.block 1 (.seq (.reg [R.q 22 (.idx 3 (R.t 18) (R.t 20)),
        R.q 23 (.loadA 3 (R.t 22)),
        R.q 7 (.alloc (.cons (R.z 0) (.cons (R.z 0) (.cons (R.z 0) .nil)))),
        R.e (.store 3 (R.t 7) (R.t 23))])
      (.seq (.reg [R.q 24 (.fld 0 (R.t 7)),
        R.q 25 (.load1 (R.t 24))])
      (.block 2 (.seq (.reg [R.q 27 (.bin .eql .no (R.t 25) (R.i 2)),
         R.q 26 (.mov (R.t 27))])
       (.cond (R.t 26)
         (.seq (.reg [R.q 28 (.mov (R.t 4)),
           R.q 29 (.fld 2 (R.t 7)),
           R.q 30 (.load1 (R.t 29)),
           R.q 31 (.mov (R.t 3)),
           R.q 32 (.bin .and .no (R.t 30) (R.t 31)),
           R.q 33 (.bin .and .no (R.t 28) (R.t 32)),
           R.q 4 (.mov (R.t 33))])
         (.reg [R.q 34 (.mov (R.t 5)),
           R.q 35 (.fld 2 (R.t 7)),
           R.q 36 (.load1 (R.t 35)),
           R.q 37 (.mov (R.t 3)),
           R.q 38 (.bin .and .no (R.t 36) (R.t 37)),
           R.q 39 (.bin .and .no (R.t 34) (R.t 38)),
           R.q 5 (.mov (R.t 39))]))
         (.seq (.reg [R.q 41 (.bin .eql .no (R.t 25) (R.i 4)),
           R.q 40 (.mov (R.t 41))])
         (.cond (R.t 40)
           (.reg [R.q 42 (.mov (R.t 5)),
             R.q 43 (.fld 2 (R.t 7)),
             R.q 44 (.load1 (R.t 43)),
             R.q 45 (.mov (R.t 3)),
             R.q 46 (.bin .and .no (R.t 44) (R.t 45)),
             R.q 47 (.bin .and .no (R.t 42) (R.t 46)),
             R.q 5 (.mov (R.t 47))])
           .skip))))))))
     (.reg [R.q 48 (.bin .add .no (R.t 20) (R.i 1)),
       R.q 20 (.mov (R.t 48))])))))))
  (.seq (.reg [R.q 49 (.mov (R.t 2)),
    R.q 50 (.call 98 [(R.t 49), (R.i 1)]),
    R.q 51 (.bin .shl .no (R.t 50) (.val (.int .u64 fun _ => 6))),
    R.q 52 (.mov (R.t 4)),
    R.q 53 (.bin .shl .no (R.t 52) (.val (.int .u64 fun _ => 3))),
    R.q 54 (.bin .or .no (R.t 51) (R.t 53)),
    R.q 55 (.mov (R.t 5)),
    R.q 56 (.bin .or .no (R.t 54) (R.t 55)),
    R.q 1 (.mov (R.t 56))])
  .ret))))))
def right_Less_1.rs : List RRes := [.tmp 1]
theorem right_Less_1.of {xs : List AV} {d : Nat} {B : BL} {K : ARes → BL → Prop} (hn : xs.length = 1) (hB : onlyOuter B = true) (h : awp ⟨PT, 57, exitX right_Less_1.rs K⟩ 10000 [.code right_Less_1.rc] ⟨params 0 xs, B, .nil⟩) : CallAt PT right_Less_1 xs d B K :=
  call_of_awp 10000 Try.func95 rfl (by kernel_rfl) (by kernel_rfl) (by kernel_rfl) (by rw [hn]; decide) hB h

/-! gripsack/right.of -/
abbrev right_of : Nat := 96
def right_of.rc : RC :=
  (.seq (.reg [R.q 1 (.box (R.t 0)),
    R.q 2 (.mov (.val .nsl))])
  (.seq (.seq (.reg [R.q 3 (.fld 5 (R.t 1)),
    R.q 4 (.load1 (R.t 3)),
    R.q 5 (.len (R.t 4)),
    R.q 6 (.bin .gtr .no (R.t 5) (R.i 0))])
  (.cond (R.t 6)
    (.seq (.reg [R.q 7 (.fld 5 (R.t 1)),
      R.q 8 (.load1 (R.t 7)),
      R.q 2 (.mov (R.t 8))])
    .ret)
    .skip))
  (.seq (.reg [R.q 9 (.fld 0 (R.t 1)),
    R.q 10 (.load1 (R.t 9)),
    R.q 11 (.call 123 [(R.t 10)]),
    R.q 2 (.mov (R.t 11))])
  .ret)))
def right_of.rs : List RRes := [.tmp 2]
theorem right_of.of {xs : List AV} {d : Nat} {B : BL} {K : ARes → BL → Prop} (hn : xs.length = 1) (hB : onlyOuter B = true) (h : awp ⟨PT, 12, exitX right_of.rs K⟩ 10000 [.code right_of.rc] ⟨params 0 xs, B, .nil⟩) : CallAt PT right_of xs d B K :=
  call_of_awp 10000 Try.func96 rfl (by kernel_rfl) (by kernel_rfl) (by kernel_rfl) (by rw [hn]; decide) hB h

/-! (gripsack/right.list).mask -/
abbrev right_list_mask : Nat := 97
def right_list_mask.rc : RC :=
  (.seq (.reg [R.q 2 (.mov (R.i 0))])
  (.seq (.seq (.reg [R.q 3 (.mov (R.t 0)),
    R.q 4 (.call 124 [(R.t 3), (.val (.fn (.func 125) .nil .nil))])])
  (.cond (R.t 4)
    (.seq (.reg [R.q 5 (.mov (R.t 0)),
      R.q 6 (.call 98 [(R.t 5), (R.i 5)]),
      R.q 2 (.mov (R.t 6))])
    .ret)
    .skip))
  (.seq (.reg [R.q 2 (.mov (R.i 7))])
  .ret)))
def right_list_mask.rs : List RRes := [.tmp 2]
theorem right_list_mask.of {xs : List AV} {d : Nat} {B : BL} {K : ARes → BL → Prop} (hn : xs.length = 1) (hB : onlyOuter B = true) (h : awp ⟨PT, 7, exitX right_list_mask.rs K⟩ 10000 [.code right_list_mask.rc] ⟨params 0 xs, B, .nil⟩) : CallAt PT right_list_mask xs d B K :=
  call_of_awp 10000 Try.func97 rfl (by kernel_rfl) (by kernel_rfl) (by kernel_rfl) (by rw [hn]; decide) hB h

/-! (gripsack/right.list).perm -/
abbrev right_list_perm : Nat := 98
def right_list_perm.rc : RC :=
  (.seq (.reg [R.q 3 (.box (R.t 1)),
    R.q 4 (.mov (R.i 0))])
  (.seq (.reg [R.q 6 (.mov (R.t 0)),
    R.q 7 (.mkfn (.func 127) [] [(R.t 3)]),
    R.q 8 (.call 126 [(R.t 6), (R.t 7)]),
    R.q 5 (.mov (R.t 8))])
  (.seq (.seq (.reg [R.q 9 (.mov (R.t 5)),
    R.q 10 (.bin .lss .no (R.t 9) (R.i 0))])
  (.cond (R.t 10)
    (.reg [R.q 11 (.load1 (R.t 3)),
      R.q 12 (.build (.cons (R.z 0) .nil) [(0, 1, (R.t 11))]),
      R.q 13 (.mkif 138 (R.t 12)),
      R.e (.panic (R.t 13))])
    .skip))
  (.seq (.reg [R.q 14 (.mov (R.t 0)),
    R.q 15 (.mov (R.t 5)),
    R.q 16 (.idx 3 (R.t 14) (R.t 15)),
    R.q 17 (.fld 2 (R.t 16)),
    R.q 18 (.load1 (R.t 17)),
    R.q 4 (.mov (R.t 18))])
  .ret))))
def right_list_perm.rs : List RRes := [.tmp 4]
theorem right_list_perm.of {xs : List AV} {d : Nat} {B : BL} {K : ARes → BL → Prop} (hn : xs.length = 2) (hB : onlyOuter B = true) (h : awp ⟨PT, 19, exitX right_list_perm.rs K⟩ 10000 [.code right_list_perm.rc] ⟨params 0 xs, B, .nil⟩) : CallAt PT right_list_perm xs d B K :=
  call_of_awp 10000 Try.func98 rfl (by kernel_rfl) (by kernel_rfl) (by kernel_rfl) (by rw [hn]; decide) hB h

/-! gripsack/gripsackref9.Perm -/
abbrev r9_Perm : Nat := 99
def r9_Perm.rc : RC :=
  (.seq (.reg [R.q 4 (.mov (R.i 0))])
  (.seq (.seq (.reg [R.q 5 (.mov (R.i 0))])
  (.block 0 (.loop
     (.seq (.seq (.reg [R.q 6 (.mov (R.t 5)),
       R.q 7 (.mov (R.t 0)),
       R.q 8 (.len (R.t 7)),
       R.q 9 (.bin .lss .no (R.t 6) (R.t 8))])
     (.cond (R.t 9)
       .skip
       (.exit 0)))
     (.seq (.block 1 (.seq (.reg [R.q 12 (.mov (R.t 0)),
        R.q 13 (.mov (R.t 5)),
        R.q 14 (.idx 3 (R.t 12) (R.t 13)),
        R.q 15 (.fld 0 (R.t 14)),
        R.q 16 (.load1 (R.t 15)),
        R.q 17 (.mov (R.t 1)),
        R.q 18 (.bin .eql .no (R.t 16) (R.t 17))])
      (.cond (R.t 18)
        (.seq (.reg [R.q 19 (.mov (R.t 0)),
          R.q 20 (.mov (R.t 5)),
          R.q 21 (.idx 3 (R.t 19) (R.t 20)),
          R.q 22 (.fld 2 (R.t 21)),
          R.q 23 (.load1 (R.t 22)),
          R.q 4 (.mov (R.t 23))])
        .ret)
        .skip)))
     (.reg [R.q 10 (.mov (R.t 5)),
       R.q 11 (.bin .add .no (R.t 10) (R.i 1)),
       R.q 5 (.mov (R.t 11))]))))))
  (.seq (.reg [R.q 4 (.mov (R.i (-1)))])
  .ret)))
def r9_Perm.rs : List RRes := [.tmp 4]
theorem r9_Perm.of {xs : List AV} {d : Nat} {B : BL} {K : ARes → BL → Prop} (hn : xs.length = 2) (hB : onlyOuter B = true) (h : awp ⟨PT, 24, exitX r9_Perm.rs K⟩ 10000 [.code r9_Perm.rc] ⟨params 0 xs, B, .nil⟩) : CallAt PT r9_Perm xs d B K :=
  call_of_awp 10000 Try.func99 rfl (by kernel_rfl) (by kernel_rfl) (by kernel_rfl) (by rw [hn]; decide) hB h

/-! internal/stringslite.HasPrefix -/
abbrev internal_stringslite_HasPrefix : Nat := 100
def internal_stringslite_HasPrefix.rc : RC :=
  (.seq (.reg [R.q 4 (.mov R.ff)])
  (.seq (.reg [R.q 5 (.mov (R.t 0)),
    R.q 6 (.lenS (R.t 5)),
    R.q 7 (.mov (R.t 1)),
    R.q 8 (.lenS (R.t 7)),
    R.q 9 (.bin .geq .no (R.t 6) (R.t 8)),
    R.q 10 (.mov (R.t 9)),
    R.g 11 (.mov (R.t 0)) 10 true,
    R.g 12 (.mov (R.t 1)) 10 true,
    R.g 13 (.lenS (R.t 12)) 10 true,
    R.g 14 (.sliceS (R.t 11) none (some (R.t 13))) 10 true,
    R.g 15 (.mov (R.t 1)) 10 true,
    R.g 16 (.bin .eql .no (R.t 14) (R.t 15)) 10 true,
    R.q 17 (.pick (R.t 10) (R.t 16) R.ff),
    R.q 4 (.mov (R.t 17))])
  .ret))
def internal_stringslite_HasPrefix.rs : List RRes := [.tmp 4]
theorem internal_stringslite_HasPrefix.of {xs : List AV} {d : Nat} {B : BL} {K : ARes → BL → Prop} (hn : xs.length = 2) (hB : onlyOuter B = true) (h : awp ⟨PT, 18, exitX internal_stringslite_HasPrefix.rs K⟩ 10000 [.code internal_stringslite_HasPrefix.rc] ⟨params 0 xs, B, .nil⟩) : CallAt PT internal_stringslite_HasPrefix xs d B K :=
  call_of_awp 10000 Try.func100 rfl (by kernel_rfl) (by kernel_rfl) (by kernel_rfl) (by rw [hn]; decide) hB h

/-! gripsack/right.In -/
abbrev right_In : Nat := 103
def right_In.rc : RC :=
  (.seq (.reg [R.q 2 (.box (R.t 0)),
    R.q 4 (.mov R.ff)])
  (.seq (.reg [R.q 5 (.fld 1 (R.t 2)),
    R.q 6 (.load1 (R.t 5)),
    R.q 7 (.mov (R.t 1)),
    R.q 8 (.bin .eql .no (R.t 6) (R.t 7)),
    R.q 9 (.mov (R.t 8)),
    R.g 10 (.fld 2 (R.t 2)) 9 false,
    R.g 11 (.load1 (R.t 10)) 9 false,
    R.g 12 (.mov (R.t 1)) 9 false,
    R.g 13 (.call 128 [(R.t 11), (R.t 12)]) 9 false,
    R.q 14 (.pick (R.t 9) R.tt (R.t 13)),
    R.q 4 (.mov (R.t 14))])
  .ret))
def right_In.rs : List RRes := [.tmp 4]
theorem right_In.of {xs : List AV} {d : Nat} {B : BL} {K : ARes → BL → Prop} (hn : xs.length = 2) (hB : onlyOuter B = true) (h : awp ⟨PT, 15, exitX right_In.rs K⟩ 10000 [.code right_In.rc] ⟨params 0 xs, B, .nil⟩) : CallAt PT right_In xs d B K :=
  call_of_awp 10000 Try.func103 rfl (by kernel_rfl) (by kernel_rfl) (by kernel_rfl) (by rw [hn]; decide) hB h

/-! gripsack/gripsacklaw15.name -/
abbrev l15_name : Nat := 104
def l15_name.rc : RC :=
  (.seq (.reg [R.q 2 (.mov (.val (.str fun _ => [])))])
  (.seq (.reg [R.q 6 (.bslice 1 (.cons (.str fun _ => []) .nil) 8 [(0, 1, (.val (.str fun _ => [97]))), (1, 1, (.val (.str fun _ => [98]))), (2, 1, (.val (.str fun _ => [100, 105, 114]))), (3, 1, (.val (.str fun _ => [120, 32, 121]))), (4, 1, (.val (.str fun _ => [255]))), (5, 1, (.val (.str fun _ => [108, 111, 110, 103]))), (6, 1, (.val (.str fun _ => [195, 164]))), (7, 1, (.val (.str fun _ => [99])))]),
    R.q 3 (.mov (R.t 6))])
  (.seq (.reg [R.q 7 (.mov (R.t 3)),
    R.q 8 (.mov (R.t 0)),
    R.q 9 (.bin .rem .no (R.t 8) (R.u 8)),
    R.q 10 (.idx 1 (R.t 7) (R.t 9)),
    R.q 11 (.load1 (R.t 10)),
    R.q 4 (.mov (R.t 11))])
  (.seq (.seq (.reg [R.q 12 (.mov (R.t 0)),
    R.q 13 (.bin .geq .no (R.t 12) (R.u 200))])
  (.cond (R.t 13)
    (.seq (.reg [R.q 5 (.mov (R.i 0))])
    (.block 0 (.loop
       (.seq (.seq (.reg [R.q 14 (.mov (R.t 5)),
         R.q 15 (.mov (R.t 0)),
         R.q 16 (.conv .i64 (R.t 15)),
         R.q 17 (.bin .sub .no (R.t 16) (R.i 190)),
         R.q 18 (.bin .lss .no (R.t 14) (R.t 17))])
       (.cond (R.t 18)
         .skip
         (.exit 0)))
       (.seq (.block 1 (.reg [R.q 21 (.mov (R.t 4)),
          R.q 22 (.bin .add .no (R.t 21) (.val (.str fun _ => [122]))),
          R.q 4 (.mov (R.t 22))]))
       (.reg [R.q 19 (.mov (R.t 5)),
         R.q 20 (.bin .add .no (R.t 19) (R.i 1)),
         R.q 5 (.mov (R.t 20))]))))))
    .skip))
  (.seq (.reg [R.q 23 (.mov (R.t 4)),
    R.q 2 (.mov (R.t 23))])
  .ret)))))
def l15_name.rs : List RRes := [.tmp 2]
theorem l15_name.of {xs : List AV} {d : Nat} {B : BL} {K : ARes → BL → Prop} (hn : xs.length = 1) (hB : onlyOuter B = true) (h : awp ⟨PT, 24, exitX l15_name.rs K⟩ 10000 [.code l15_name.rc] ⟨params 0 xs, B, .nil⟩) : CallAt PT l15_name xs d B K :=
  call_of_awp 10000 Try.func104 rfl (by kernel_rfl) (by kernel_rfl) (by kernel_rfl) (by rw [hn]; decide) hB h

/-! gripsack/gripsackref9.hasAny -/
abbrev r9_hasAny : Nat := 105
def r9_hasAny.rc : RC :=
  (.seq (.reg [R.q 4 (.mov R.ff)])
  (.seq (.seq (.reg [R.q 5 (.mov (R.i 0))])
  (.block 0 (.loop
     (.seq (.seq (.reg [R.q 7 (.mov (R.t 5)),
       R.q 8 (.mov (R.t 0)),
       R.q 9 (.lenS (R.t 8)),
       R.q 10 (.bin .lss .no (R.t 7) (R.t 9))])
     (.cond (R.t 10)
       .skip
       (.exit 0)))
     (.seq (.block 1 (.seq (.reg [R.q 6 (.mov (R.i 0))])
      (.block 2 (.loop
         (.seq (.seq (.reg [R.q 13 (.mov (R.t 6)),
           R.q 14 (.mov (R.t 1)),
           R.q 15 (.lenS (R.t 14)),
           R.q 16 (.bin .lss .no (R.t 13) (R.t 15))])
         (.cond (R.t 16)
           .skip
           (.exit 2)))
         (.seq (.block 3 (.seq (.regd [R.f (R.q 19 (.mov (R.t 0))),
            R.f (R.q 20 (.mov (R.t 5))),
            R.f (R.q 21 (.idxS (R.t 19) (R.t 20))),
            R.f (R.q 22 (.mov (R.t 1))),
            R.f (R.q 23 (.mov (R.t 6))),
            R.f (R.q 24 (.idxS (R.t 22) (R.t 23))),
            R.f (R.q 25 (.bin .eql .no (R.t 21) (R.t 24)))])
          (.cond (R.t 25)
            (.seq (.reg [R.q 4 (.mov R.tt)])
            .ret)
            .skip)))
         (.reg [R.q 17 (.mov (R.t 6)),
           R.q 18 (.bin .add .no (R.t 17) (R.i 1)),
           R.q 6 (.mov (R.t 18))])))))))
     (.reg [R.q 11 (.mov (R.t 5)),
       R.q 12 (.bin .add .no (R.t 11) (R.i 1)),
       R.q 5 (.mov (R.t 12))]))))))
  (.seq (.reg [R.q 4 (.mov R.ff)])
  .ret)))
def r9_hasAny.rs : List RRes := [.tmp 4]
theorem r9_hasAny.of {xs : List AV} {d : Nat} {B : BL} {K : ARes → BL → Prop} (hn : xs.length = 2) (hB : onlyOuter B = true) (h : awp ⟨PT, 26, exitX r9_hasAny.rs K⟩ 10000 [.code r9_hasAny.rc] ⟨params 0 xs, B, .nil⟩) : CallAt PT r9_hasAny xs d B K :=
  call_of_awp 10000 Try.func105 rfl (by kernel_rfl) (by kernel_rfl) (by kernel_rfl) (by rw [hn]; decide) hB h

/-! gripsack/gripsackref1.Escape -/
abbrev r1_Escape : Nat := 106
def r1_Escape.rc : RC :=
  (.seq (.reg [R.q 2 (.mov (.val (.str fun _ => [])))])
  (.seq (.reg [R.q 3 (.mov (.val .nsl))])
  (.seq (.reg [R.q 4 (.mov (.val (.str fun _ => [48, 49, 50, 51, 52, 53, 54, 55, 56, 57, 65, 66, 67, 68, 69, 70])))])
  (.seq (.seq (.reg [R.q 5 (.mov (R.i 0))])
  (.block 0 (.loop
     (.seq (.seq (.reg [R.q 6 (.mov (R.t 5)),
       R.q 7 (.mov (R.t 0)),
       R.q 8 (.lenS (R.t 7)),
       R.q 9 (.bin .lss .no (R.t 6) (R.t 8))])
     (.cond (R.t 9)
       .skip
       (.exit 0)))
     (.seq (.block 1 (.seq (.reg [R.q 12 (.mov (R.t 0)),
        R.q 13 (.mov (R.t 5)),
        R.q 14 (.idxS (R.t 12) (R.t 13)),
        R.q 15 (.bin .lss .no (R.t 14) (R.u 33)),
        R.q 16 (.mov (R.t 15)),
        R.g 17 (.mov (R.t 0)) 16 false,
        R.g 18 (.mov (R.t 5)) 16 false,
        R.g 19 (.idxS (R.t 17) (R.t 18)) 16 false,
        R.g 20 (.bin .gtr .no (R.t 19) (R.u 126)) 16 false,
        R.q 21 (.pick (R.t 16) R.tt (R.t 20)),
        R.q 22 (.mov (R.t 21)),
        R.g 23 (.mov (R.t 0)) 22 false,
        R.g 24 (.mov (R.t 5)) 22 false,
        R.g 25 (.idxS (R.t 23) (R.t 24)) 22 false,
        R.g 26 (.bin .eql .no (R.t 25) (R.u 37)) 22 false,
        R.q 27 (.pick (R.t 22) R.tt (R.t 26)),
        R.q 28 (.mov (R.t 27)),
        R.g 29 (.mov (R.t 0)) 28 false,
        R.g 30 (.mov (R.t 5)) 28 false,
        R.g 31 (.idxS (R.t 29) (R.t 30)) 28 false,
        R.g 32 (.bin .eql .no (R.t 31) (R.u 61)) 28 false,
        R.q 33 (.pick (R.t 28) R.tt (R.t 32))])
      (.cond (R.t 33)
        (.regd [R.f (R.q 34 (.mov (R.t 3))),
          R.f (R.q 35 (.mov (R.t 4))),
          R.f (R.q 36 (.mov (R.t 0))),
          R.f (R.q 37 (.mov (R.t 5))),
          R.f (R.q 38 (.idxS (R.t 36) (R.t 37))),
          R.f (R.q 39 (.bin .shr .no (R.t 38) (.val (.int .u64 fun _ => 4)))),
          R.f (R.q 40 (.idxS (R.t 35) (R.t 39))),
          R.f (R.q 41 (.mov (R.t 4))),
          R.f (R.q 42 (.mov (R.t 0))),
          R.f (R.q 43 (.mov (R.t 5))),
          R.f (R.q 44 (.idxS (R.t 42) (R.t 43))),
          R.f (R.q 45 (.bin .and .no (R.t 44) (R.u 15))),
          R.f (R.q 46 (.idxS (R.t 41) (R.t 45))),
          R.f (R.q 47 (.bslice 1 (.cons (.int .u8 fun _ => 0) .nil) 3 [(0, 1, (R.u 37)), (1, 1, (R.t 40)), (2, 1, (R.t 46))])),
          R.s (R.q 48 (.append 1 1 (R.t 34) (R.t 47))) [],
          R.s (R.q 3 (.mov (R.t 48))) []])
        (.reg [R.q 49 (.mov (R.t 3)),
          R.q 50 (.mov (R.t 0)),
          R.q 51 (.mov (R.t 5)),
          R.q 52 (.idxS (R.t 50) (R.t 51)),
          R.q 53 (.bslice 1 (.cons (.int .u8 fun _ => 0) .nil) 1 [(0, 1, (R.t 52))]),
          R.q 54 (.append 1 1 (R.t 49) (R.t 53)),
          R.q 3 (.mov (R.t 54))]))))
     (.reg [R.q 10 (.mov (R.t 5)),
       R.q 11 (.bin .add .no (R.t 10) (R.i 1)),
       R.q 5 (.mov (R.t 11))]))))))
  (.seq (.reg [R.q 55 (.mov (R.t 3)),
    R.q 56 (.b2s (R.t 55)),
    R.q 2 (.mov (R.t 56))])
  .ret)))))
def r1_Escape.rs : List RRes := [.tmp 2]
theorem r1_Escape.of {xs : List AV} {d : Nat} {B : BL} {K : ARes → BL → Prop} (hn : xs.length = 1) (hB : onlyOuter B = true) (h : awp ⟨PT, 57, exitX r1_Escape.rs K⟩ 10000 [.code r1_Escape.rc] ⟨params 0 xs, B, .nil⟩) : CallAt PT r1_Escape xs d B K :=
  call_of_awp 10000 Try.func106 rfl (by kernel_rfl) (by kernel_rfl) (by kernel_rfl) (by rw [hn]; decide) hB h

/-! gripsack/gripsackref9.named -/
abbrev r9_named : Nat := 107
def r9_named.rc : RC :=
  (.seq (.reg [R.q 1 (.box (R.t 0)),
    R.q 2 (.mov R.ff)])
  (.seq (.reg [R.q 3 (.fld 0 (R.t 1)),
    R.q 4 (.load1 (R.t 3)),
    R.q 5 (.bin .eql .no (R.t 4) (R.i 2)),
    R.q 6 (.mov (R.t 5)),
    R.g 7 (.fld 0 (R.t 1)) 6 false,
    R.g 8 (.load1 (R.t 7)) 6 false,
    R.g 9 (.bin .eql .no (R.t 8) (R.i 4)) 6 false,
    R.q 10 (.pick (R.t 6) R.tt (R.t 9)),
    R.q 2 (.mov (R.t 10))])
  .ret))
def r9_named.rs : List RRes := [.tmp 2]
theorem r9_named.of {xs : List AV} {d : Nat} {B : BL} {K : ARes → BL → Prop} (hn : xs.length = 1) (hB : onlyOuter B = true) (h : awp ⟨PT, 11, exitX r9_named.rs K⟩ 10000 [.code r9_named.rc] ⟨params 0 xs, B, .nil⟩) : CallAt PT r9_named xs d B K :=
  call_of_awp 10000 Try.func107 rfl (by kernel_rfl) (by kernel_rfl) (by kernel_rfl) (by rw [hn]; decide) hB h

/-! gripsack/gripsacklaw13.add -/
abbrev l13_add : Nat := 108
def l13_add.rc : RC :=
  (.seq (.reg [R.q 3 (.box (R.t 1)),
    R.q 4 (.mov (.val .nsl))])
  (.seq (.reg [R.q 5 (.mov (R.i 0))])
  (.seq (.block 0 (.loop
     (.seq (.seq (.regd [R.f (R.q 7 (.mov (R.t 5))),
       R.f (R.q 8 (.mov (R.t 0))),
       R.f (R.q 9 (.len (R.t 8))),
       R.f (R.q 10 (.bin .lss .no (R.t 7) (R.t 9))),
       R.f (R.q 11 (.mov (R.t 10))),
       R.f (R.g 12 (.mov (R.t 0)) 11 true),
       R.f (R.g 13 (.mov (R.t 5)) 11 true),
       R.f (R.g 14 (.idx 2 (R.t 12) (R.t 13)) 11 true),
       R.f (R.g 15 (.fld 0 (R.t 14)) 11 true),
       R.f (R.g 16 (.load1 (R.t 15)) 11 true),
       R.f (R.g 17 (.fld 0 (R.t 3)) 11 true),
       R.f (R.g 18 (.load1 (R.t 17)) 11 true),
       R.f (R.g 19 (.bin .lss .no (R.t 16) (R.t 18)) 11 true),
       R.f (R.q 20 (.pick (R.t 11) (R.t 19) R.ff))])
     (.cond (R.t 20)
       .skip
       (.exit 0)))
     (.block 1 (.reg [R.q 21 (.mov (R.t 5)),
        R.q 22 (.bin .add .no (R.t 21) (R.i 1)),
        R.q 5 (.mov (R.t 22))])))))
  (.seq (.reg [R.q 23 (.bslice 2 (.cons (.str fun _ => []) (.cons (.str fun _ => []) .nil)) 0 []),
    R.q 24 (.mov (R.t 0)),
    R.q 25 (.mov (R.t 5)),
    R.q 26 (.slice 2 (R.t 24) (some (R.t 25)) none),
    R.q 27 (.append 2 32 (R.t 23) (R.t 26)),
    R.q 6 (.mov (R.t 27))])
  (.seq (.seq (.regd [R.f (R.q 28 (.mov (R.t 6))),
    R.f (R.q 29 (.len (R.t 28))),
    R.f (R.q 30 (.bin .gtr .no (R.t 29) (R.i 0))),
    R.f (R.q 31 (.mov (R.t 30))),
    R.f (R.g 32 (.mov (R.t 6)) 31 true),
    R.f (R.g 33 (.idx 2 (R.t 32) (R.i 0)) 31 true),
    R.f (R.g 34 (.fld 0 (R.t 33)) 31 true),
    R.f (R.g 35 (.load1 (R.t 34)) 31 true),
    R.f (R.g 36 (.fld 0 (R.t 3)) 31 true),
    R.f (R.g 37 (.load1 (R.t 36)) 31 true),
    R.f (R.g 38 (.bin .eql .no (R.t 35) (R.t 37)) 31 true),
    R.f (R.q 39 (.pick (R.t 31) (R.t 38) R.ff))])
  (.cond (R.t 39)
    (.reg [R.q 40 (.mov (R.t 6)),
      R.q 41 (.slice 2 (R.t 40) (some (R.i 1)) none),
      R.q 6 (.mov (R.t 41))])
    .skip))
  (.seq (.regd [R.f (R.q 42 (.bslice 2 (.cons (.str fun _ => []) (.cons (.str fun _ => []) .nil)) 0 [])),
    R.f (R.q 43 (.mov (R.t 0))),
    R.f (R.q 44 (.mov (R.t 5))),
    R.f (R.q 45 (.slice 2 (R.t 43) none (some (R.t 44)))),
    R.f (R.q 47 (.loadA 2 (R.t 3))),
    R.f (R.q 48 (.bslice 2 (.cons (.str fun _ => []) (.cons (.str fun _ => []) .nil)) 1 [(0, 2, (R.t 47))])),
    R.f (R.q 50 (.mov (R.t 6))),
    R.s (R.q 46 (.append 2 32 (R.t 42) (R.t 45))) [4, 5, 6],
    R.s (R.q 49 (.append 2 32 (R.t 46) (R.t 48))) [6],
    R.s (R.q 51 (.append 2 32 (R.t 49) (R.t 50))) [],
    R.s (R.q 4 (.mov (R.t 51))) []])
  .ret))))))
def l13_add.rs : List RRes := [.tmp 4]
theorem l13_add.of {xs : List AV} {d : Nat} {B : BL} {K : ARes → BL → Prop} (hn : xs.length = 2) (hB : onlyOuter B = true) (h : awp ⟨PT, 52, exitX l13_add.rs K⟩ 10000 [.code l13_add.rc] ⟨params 0 xs, B, .nil⟩) : CallAt PT l13_add xs d B K :=
  call_of_awp 10000 Try.func108 rfl (by kernel_rfl) (by kernel_rfl) (by kernel_rfl) (by rw [hn]; decide) hB h

/-! gripsack/right.look[int]$1 -/
abbrev right_look_int_1 : Nat := 122
def right_look_int_1.rc : RC :=
  (.seq (.reg [R.q 6 (.mov (R.t 1)),
    R.q 7 (.bin .neq (.ifc true) (R.t 6) (.val .nif))])
  (.cond (R.t 7)
    (.seq (.seq (.reg [R.q 9 (.mov (R.t 1)),
      R.q 10 (.assert 138 (.agg (.cons (R.z 0) .nil)) (R.t 9)),
      R.q 8 (.mov (R.t 10)),
      R.q 11 (.ext 0 (R.t 8)),
      R.q 12 (.ext 1 (R.t 8)),
      R.q 2 (.alloc (.cons (R.z 0) .nil)),
      R.e (.store 1 (R.t 2) (R.t 11)),
      R.q 3 (.mov (R.t 12))])
    (.seq (.reg [R.q 13 (.mov (R.t 3)),
      R.q 14 (.un .not (R.t 13))])
    (.cond (R.t 14)
      (.reg [R.q 15 (.mov (R.t 1)),
        R.e (.panic (R.t 15))])
      .skip)))
    (.seq (.reg [R.q 4 (.mov (R.i 0))])
    (.reg [R.q 16 (.mov (R.t 4)),
      R.e (.store 1 (R.t 0) (R.t 16))])))
    .skip))
def right_look_int_1.rs : List RRes := []
theorem right_look_int_1.of {pn : Bool} {pv : AV} {xs : List AV} {B : BL} {K : BL → Prop} (hn : xs.length = 1) (hB : onlyOuter B = true) (hpv : pn = false → pv = .nif) (h : awp ⟨PT, 17, exitC K⟩ 10000 [.code right_look_int_1.rc] ⟨.cons 1 pv (.cons 5 pv (params 0 xs)), B, .nil⟩) : DefAt PT right_look_int_1 pn (pv :: xs) B K :=
  def_of_awp 10000 Try.func122 rfl (by kernel_rfl) (by kernel_rfl) rfl (by rw [hn]; decide) (by decide) (by decide) hB hpv h

/-! gripsack/acl.From -/
abbrev acl_From : Nat := 123
def acl_From.rc : RC :=
  (.seq (.reg [R.q 2 (.mov (.val .nsl))])
  (.seq (.reg [R.q 3 (.mov (R.t 0)),
    R.q 4 (.bin .and .no (R.t 3) (R.i 511)),
    R.q 0 (.mov (R.t 4))])
  (.seq (.reg [R.q 5 (.mov (R.t 0)),
    R.q 6 (.bin .shr .no (R.t 5) (.val (.int .u64 fun _ => 6))),
    R.q 7 (.build (.cons (R.z 0) (.cons (R.z 0) (.cons (R.z 0) .nil))) [(0, 1, (R.i 1)), (2, 1, (R.t 6))]),
    R.q 8 (.mov (R.t 0)),
    R.q 9 (.bin .shr .no (R.t 8) (.val (.int .u64 fun _ => 3))),
    R.q 10 (.bin .and .no (R.t 9) (R.i 7)),
    R.q 11 (.build (.cons (R.z 0) (.cons (R.z 0) (.cons (R.z 0) .nil))) [(0, 1, (R.i 3)), (2, 1, (R.t 10))]),
    R.q 12 (.mov (R.t 0)),
    R.q 13 (.bin .and .no (R.t 12) (R.i 7)),
    R.q 14 (.build (.cons (R.z 0) (.cons (R.z 0) (.cons (R.z 0) .nil))) [(0, 1, (R.i 6)), (2, 1, (R.t 13))]),
    R.q 15 (.bslice 3 (.cons (R.z 0) (.cons (R.z 0) (.cons (R.z 0) .nil))) 3 [(0, 3, (R.t 7)), (3, 3, (R.t 11)), (6, 3, (R.t 14))]),
    R.q 2 (.mov (R.t 15))])
  .ret)))
def acl_From.rs : List RRes := [.tmp 2]
theorem acl_From.of {xs : List AV} {d : Nat} {B : BL} {K : ARes → BL → Prop} (hn : xs.length = 1) (hB : onlyOuter B = true) (h : awp ⟨PT, 16, exitX acl_From.rs K⟩ 10000 [.code acl_From.rc] ⟨params 0 xs, B, .nil⟩) : CallAt PT acl_From xs d B K :=
  call_of_awp 10000 Try.func123 rfl (by kernel_rfl) (by kernel_rfl) (by kernel_rfl) (by rw [hn]; decide) hB h

/-! slices.ContainsFunc[gripsack/right.list,gripsack/api.Ace] -/
abbrev slices_ContainsFunc_right_list_api_Ace : Nat := 124
def slices_ContainsFunc_right_list_api_Ace.rc : RC :=
  (.seq (.reg [R.q 4 (.mov R.ff)])
  (.seq (.reg [R.q 5 (.mov (R.t 0)),
    R.q 6 (.mov (R.t 1)),
    R.q 7 (.call 126 [(R.t 5), (R.t 6)]),
    R.q 8 (.bin .geq .no (R.t 7) (R.i 0)),
    R.q 4 (.mov (R.t 8))])
  .ret))
def slices_ContainsFunc_right_list_api_Ace.rs : List RRes := [.tmp 4]
theorem slices_ContainsFunc_right_list_api_Ace.of {xs : List AV} {d : Nat} {B : BL} {K : ARes → BL → Prop} (hn : xs.length = 2) (hB : onlyOuter B = true) (h : awp ⟨PT, 9, exitX slices_ContainsFunc_right_list_api_Ace.rs K⟩ 10000 [.code slices_ContainsFunc_right_list_api_Ace.rc] ⟨params 0 xs, B, .nil⟩) : CallAt PT slices_ContainsFunc_right_list_api_Ace xs d B K :=
  call_of_awp 10000 Try.func124 rfl (by kernel_rfl) (by kernel_rfl) (by kernel_rfl) (by rw [hn]; decide) hB h

/-! (gripsack/right.list).mask$1 -/
abbrev right_list_mask_1 : Nat := 125
def right_list_mask_1.rc : RC :=
  (.seq (.reg [R.q 1 (.box (R.t 0)),
    R.q 2 (.mov R.ff)])
  (.seq (.reg [R.q 3 (.fld 0 (R.t 1)),
    R.q 4 (.load1 (R.t 3)),
    R.q 5 (.bin .eql .no (R.t 4) (R.i 5)),
    R.q 2 (.mov (R.t 5))])
  .ret))
def right_list_mask_1.rs : List RRes := [.tmp 2]
theorem right_list_mask_1.of {xs : List AV} {d : Nat} {B : BL} {K : ARes → BL → Prop} (hn : xs.length = 1) (hB : onlyOuter B = true) (h : awp ⟨PT, 6, exitX right_list_mask_1.rs K⟩ 10000 [.code right_list_mask_1.rc] ⟨params 0 xs, B, .nil⟩) : CallAt PT right_list_mask_1 xs d B K :=
  call_of_awp 10000 Try.func125 rfl (by kernel_rfl) (by kernel_rfl) (by kernel_rfl) (by rw [hn]; decide) hB h

/-! slices.IndexFunc[gripsack/right.list,gripsack/api.Ace] -/
abbrev slices_IndexFunc_right_list_api_Ace : Nat := 126
def slices_IndexFunc_right_list_api_Ace.rc : RC :=
  (.seq (.reg [R.q 4 (.mov (R.i 0))])
  (.seq (.seq (.reg [R.q 6 (.mov (R.t 0)),
    R.q 7 (.len (R.t 6)),
    R.q 8 (.mov (R.i 0))])
  (.block 0 (.loop
     (.seq (.reg [R.q 9 (.bin .lss .no (R.t 8) (R.t 7))])
     (.seq (.cond (R.t 9)
       .skip
       (.exit 0))
     (.seq (.block 1 (.seq (.reg [R.q 10 (.mov (R.t 8)),
        R.q 5 (.mov (R.t 10))])
      (.seq (.reg [R.q 11 (.mov (R.t 1)),
        R.q 12 (.mov (R.t 0)),
        R.q 13 (.mov (R.t 5)),
        R.q 14 (.idx 3 (R.t 12) (R.t 13)),
        R.q 15 (.loadA 3 (R.t 14)),
        R.q 16 (.callv (R.t 11) [(R.t 15)])])
      (.cond (R.t 16)
        (.seq (.reg [R.q 17 (.mov (R.t 5)),
          R.q 4 (.mov (R.t 17))])
        .ret)
        .skip))))
     (.reg [R.q 18 (.bin .add .no (R.t 8) (R.i 1)),
       R.q 8 (.mov (R.t 18))])))))))
  (.seq (.reg [R.q 4 (.mov (R.i (-1)))])
  .ret)))
def slices_IndexFunc_right_list_api_Ace.rs : List RRes := [.tmp 4]
theorem slices_IndexFunc_right_list_api_Ace.of {xs : List AV} {d : Nat} {B : BL} {K : ARes → BL → Prop} (hn : xs.length = 2) (hB : onlyOuter B = true) (h : awp ⟨PT, 19, exitX slices_IndexFunc_right_list_api_Ace.rs K⟩ 10000 [.code slices_IndexFunc_right_list_api_Ace.rc] ⟨params 0 xs, B, .nil⟩) : CallAt PT slices_IndexFunc_right_list_api_Ace xs d B K :=
  call_of_awp 10000 Try.func126 rfl (by kernel_rfl) (by kernel_rfl) (by kernel_rfl) (by rw [hn]; decide) hB h

/-! (gripsack/right.list).perm$1 -/
abbrev right_list_perm_1 : Nat := 127
def right_list_perm_1.rc : RC :=
  (.seq (.reg [R.q 2 (.box (R.t 0)),
    R.q 3 (.mov R.ff)])
  (.seq (.reg [R.q 4 (.fld 0 (R.t 2)),
    R.q 5 (.load1 (R.t 4)),
    R.q 6 (.load1 (R.t 1)),
    R.q 7 (.bin .eql .no (R.t 5) (R.t 6)),
    R.q 3 (.mov (R.t 7))])
  .ret))
def right_list_perm_1.rs : List RRes := [.tmp 3]
theorem right_list_perm_1.of {xs : List AV} {d : Nat} {B : BL} {K : ARes → BL → Prop} (hn : xs.length = 2) (hB : onlyOuter B = true) (h : awp ⟨PT, 8, exitX right_list_perm_1.rs K⟩ 10000 [.code right_list_perm_1.rc] ⟨params 0 xs, B, .nil⟩) : CallAt PT right_list_perm_1 xs d B K :=
  call_of_awp 10000 Try.func127 rfl (by kernel_rfl) (by kernel_rfl) (by kernel_rfl) (by rw [hn]; decide) hB h

/-! slices.Contains[[]int,int] -/
abbrev slices_Contains_int_int : Nat := 128
def slices_Contains_int_int.rc : RC :=
  (.seq (.reg [R.q 4 (.mov R.ff)])
  (.seq (.reg [R.q 5 (.mov (R.t 0)),
    R.q 6 (.mov (R.t 1)),
    R.q 7 (.call 134 [(R.t 5), (R.t 6)]),
    R.q 8 (.bin .geq .no (R.t 7) (R.i 0)),
    R.q 4 (.mov (R.t 8))])
  .ret))
def slices_Contains_int_int.rs : List RRes := [.tmp 4]
theorem slices_Contains_int_int.of {xs : List AV} {d : Nat} {B : BL} {K : ARes → BL → Prop} (hn : xs.length = 2) (hB : onlyOuter B = true) (h : awp ⟨PT, 9, exitX slices_Contains_int_int.rs K⟩ 10000 [.code slices_Contains_int_int.rc] ⟨params 0 xs, B, .nil⟩) : CallAt PT slices_Contains_int_int xs d B K :=
  call_of_awp 10000 Try.func128 rfl (by kernel_rfl) (by kernel_rfl) (by kernel_rfl) (by rw [hn]; decide) hB h

/-! slices.Index[[]int,int] -/
abbrev slices_Index_int_int : Nat := 134
def slices_Index_int_int.rc : RC :=
  (.seq (.reg [R.q 4 (.mov (R.i 0))])
  (.seq (.seq (.reg [R.q 6 (.mov (R.t 0)),
    R.q 7 (.len (R.t 6)),
    R.q 8 (.mov (R.i 0))])
  (.block 0 (.loop
     (.seq (.reg [R.q 9 (.bin .lss .no (R.t 8) (R.t 7))])
     (.seq (.cond (R.t 9)
       .skip
       (.exit 0))
     (.seq (.block 1 (.seq (.reg [R.q 10 (.mov (R.t 8)),
        R.q 5 (.mov (R.t 10))])
      (.seq (.reg [R.q 11 (.mov (R.t 1)),
        R.q 12 (.mov (R.t 0)),
        R.q 13 (.mov (R.t 5)),
        R.q 14 (.idx 1 (R.t 12) (R.t 13)),
        R.q 15 (.load1 (R.t 14)),
        R.q 16 (.bin .eql .no (R.t 11) (R.t 15))])
      (.cond (R.t 16)
        (.seq (.reg [R.q 17 (.mov (R.t 5)),
          R.q 4 (.mov (R.t 17))])
        .ret)
        .skip))))
     (.reg [R.q 18 (.bin .add .no (R.t 8) (R.i 1)),
       R.q 8 (.mov (R.t 18))])))))))
  (.seq (.reg [R.q 4 (.mov (R.i (-1)))])
  .ret)))
def slices_Index_int_int.rs : List RRes := [.tmp 4]
theorem slices_Index_int_int.of {xs : List AV} {d : Nat} {B : BL} {K : ARes → BL → Prop} (hn : xs.length = 2) (hB : onlyOuter B = true) (h : awp ⟨PT, 19, exitX slices_Index_int_int.rs K⟩ 10000 [.code slices_Index_int_int.rc] ⟨params 0 xs, B, .nil⟩) : CallAt PT slices_Index_int_int xs d B K :=
  call_of_awp 10000 Try.func134 rfl (by kernel_rfl) (by kernel_rfl) (by kernel_rfl) (by rw [hn]; decide) hB h

end F
end Go.Proofs.Ytgjlkcdnlndlnaa
/- More of the program's functions, resolved (printed by a tool). -/
namespace Go.Proofs.Ytgjlkcdnlndlnaa
open Go Go.Proofs.Ytgjlkcdnlndlnaa.Sx
namespace F
/-! gripsack/gripsacklaw23.PlanAll -/
abbrev l23_PlanAll : Nat := 3
def l23_PlanAll.rc : RC :=
  (.seq (.reg [R.q 3 (.box (R.t 0)),
    R.q 6 (.mov R.ff)])
  (.seq (.seq (.reg [R.q 11 (.loadA 20 (R.t 3)),
    R.q 12 (.call 13 [(R.t 11)]),
    R.q 13 (.mov (R.t 12)),
    R.g 14 (.loadA 20 (R.t 3)) 13 false,
    R.g 15 (.call 14 [(R.t 14)]) 13 false,
    R.g 16 (.un .not (R.t 15)) 13 false,
    R.q 17 (.pick (R.t 13) R.tt (R.t 16))])
  (.cond (R.t 17)
    (.seq (.reg [R.q 18 (.mov (R.t 1)),
      R.q 19 (.call 15 [(R.t 18)]),
      R.q 20 (.mov (R.t 1)),
      R.q 21 (.call 16 [(R.t 20)]),
      R.q 22 (.bin .eql .no (R.t 19) (R.t 21)),
      R.q 23 (.mov (R.t 22)),
      R.g 24 (.call 17 []) 23 true,
      R.q 25 (.pick (R.t 23) (R.t 24) R.ff),
      R.q 6 (.mov (R.t 25))])
    .ret)
    .skip))
  (.seq (.reg [R.q 27 (.fld 2 (R.t 3)),
    R.q 28 (.loadA 14 (R.t 27)),
    R.q 29 (.mov (R.t 2)),
    R.q 30 (.call 18 [(R.t 28), (R.t 29)]),
    R.q 26 (.mov (R.t 30)),
    R.q 31 (.ext 0 (R.t 26)),
    R.q 32 (.ext 1 (R.t 26)),
    R.q 7 (.mov (R.t 31)),
    R.q 8 (.mov (R.t 32))])
  (.seq (.reg [R.q 34 (.fld 2 (R.t 3)),
    R.q 35 (.loadA 14 (R.t 34)),
    R.q 36 (.mov (R.t 2)),
    R.q 37 (.call 19 [(R.t 35), (R.t 36)]),
    R.q 33 (.mov (R.t 37)),
    R.q 38 (.ext 0 (R.t 33)),
    R.q 39 (.ext 1 (R.t 33)),
    R.q 9 (.mov (R.t 38)),
    R.q 10 (.mov (R.t 39))])
  (.seq (.regd [R.f (R.q 40 (.mov (R.t 7))),
    R.f (R.q 41 (.mov (R.t 9))),
    R.f (R.q 42 (.bin .eql .no (R.t 40) (R.t 41))),
    R.f (R.q 43 (.mov (R.t 42))),
    R.f (R.g 44 (.mov (R.t 8)) 43 true),
    R.f (R.g 45 (.mov (R.t 10)) 43 true),
    R.f (R.g 46 (.bin .eql .bool (R.t 44) (R.t 45)) 43 true),
    R.f (R.q 47 (.pick (R.t 43) (R.t 46) R.ff)),
    R.f (R.q 48 (.mov (R.t 47))),
    R.f (R.g 49 (.fld 2 (R.t 3)) 48 true),
    R.f (R.g 50 (.fld 7 (R.t 49)) 48 true),
    R.f (R.g 51 (.load1 (R.t 50)) 48 true),
    R.f (R.g 53 (.fld 2 (R.t 3)) 48 true),
    R.f (R.g 54 (.fld 7 (R.t 53)) 48 true),
    R.f (R.g 55 (.load1 (R.t 54)) 48 true),
    R.s (R.g 52 (.call 21 [(R.t 51)]) 48 true) [12, 13, 14],
    R.s (R.g 56 (.call 22 [(R.t 55)]) 48 true) [],
    R.s (R.g 57 (.call 20 [(R.t 52), (R.t 56)]) 48 true) [],
    R.f (R.q 58 (.pick (R.t 48) (R.t 57) R.ff)),
    R.f (R.q 59 (.mov (R.t 58))),
    R.f (R.g 60 (.loadA 20 (R.t 3)) 59 true),
    R.f (R.g 62 (.loadA 20 (R.t 3)) 59 true),
    R.s (R.g 61 (.call 24 [(R.t 60)]) 59 true) [21],
    R.s (R.g 63 (.call 25 [(R.t 62)]) 59 true) [],
    R.s (R.g 64 (.call 23 [(R.t 61), (R.t 63)]) 59 true) [],
    R.f (R.q 65 (.pick (R.t 59) (R.t 64) R.ff)),
    R.f (R.q 66 (.mov (R.t 65))),
    R.s (R.g 67 (.call 17 []) 66 true) [],
    R.f (R.q 68 (.pick (R.t 66) (R.t 67) R.ff)),
    R.s (R.q 6 (.mov (R.t 68))) []])
  .ret)))))
def l23_PlanAll.rs : List RRes := [.tmp 6]
theorem l23_PlanAll.of {xs : List AV} {d : Nat} {B : BL} {K : ARes → BL → Prop} (hn : xs.length = 3) (hB : onlyOuter B = true) (h : awp ⟨PT, 69, exitX l23_PlanAll.rs K⟩ 10000 [.code l23_PlanAll.rc] ⟨params 0 xs, B, .nil⟩) : CallAt PT l23_PlanAll xs d B K :=
  call_of_awp 10000 Try.func3 rfl (by kernel_rfl) (by kernel_rfl) (by kernel_rfl) (by rw [hn]; decide) hB h

/-! gripsack/gripsacklaw25.DegradeAll -/
abbrev l25_DegradeAll : Nat := 4
def l25_DegradeAll.rc : RC :=
  (.seq (.reg [R.q 5 (.box (R.t 0)),
    R.q 6 (.box (R.t 1)),
    R.q 10 (.mov R.ff)])
  (.seq (.seq (.reg [R.q 11 (.loadA 20 (R.t 5)),
    R.q 12 (.call 13 [(R.t 11)]),
    R.q 13 (.mov (R.t 12)),
    R.g 14 (.loadA 20 (R.t 5)) 13 false,
    R.g 15 (.call 14 [(R.t 14)]) 13 false,
    R.g 16 (.un .not (R.t 15)) 13 false,
    R.q 17 (.pick (R.t 13) R.tt (R.t 16)),
    R.q 18 (.mov (R.t 17)),
    R.g 19 (.fld 1 (R.t 5)) 18 false,
    R.g 20 (.load1 (R.t 19)) 18 false,
    R.g 21 (.bin .eql .no (R.t 20) (R.i 2)) 18 false,
    R.q 22 (.pick (R.t 18) R.tt (R.t 21)),
    R.q 23 (.mov (R.t 22)),
    R.g 24 (.mov (R.t 2)) 23 false,
    R.g 25 (.len (R.t 24)) 23 false,
    R.g 26 (.bin .gtr .no (R.t 25) (R.i 200)) 23 false,
    R.q 27 (.pick (R.t 23) R.tt (R.t 26)),
    R.q 28 (.mov (R.t 27)),
    R.g 29 (.fld 2 (R.t 6)) 28 false,
    R.g 30 (.load1 (R.t 29)) 28 false,
    R.g 31 (.len (R.t 30)) 28 false,
    R.g 32 (.bin .gtr .no (R.t 31) (R.i 32)) 28 false,
    R.q 33 (.pick (R.t 28) R.tt (R.t 32)),
    R.q 34 (.mov (R.t 33)),
    R.g 35 (.loadA 4 (R.t 6)) 34 false,
    R.g 36 (.call 26 [(R.t 35)]) 34 false,
    R.g 37 (.un .not (R.t 36)) 34 false,
    R.q 38 (.pick (R.t 34) R.tt (R.t 37))])
  (.cond (R.t 38)
    (.seq (.reg [R.q 39 (.mov (R.t 2)),
      R.q 40 (.mov (R.t 3)),
      R.q 41 (.mov (R.t 4)),
      R.q 42 (.call 27 [(R.t 39), (R.t 40), (R.t 41)]),
      R.q 43 (.mov (R.t 2)),
      R.q 44 (.mov (R.t 3)),
      R.q 45 (.mov (R.t 4)),
      R.q 46 (.call 28 [(R.t 43), (R.t 44), (R.t 45)]),
      R.q 47 (.bin .eql .no (R.t 42) (R.t 46)),
      R.q 48 (.mov (R.t 47)),
      R.g 49 (.call 29 []) 48 true,
      R.q 50 (.pick (R.t 48) (R.t 49) R.ff),
      R.q 10 (.mov (R.t 50))])
    .ret)
    .skip))
  (.seq (.seq (.reg [R.q 51 (.mov (R.t 2)),
    R.q 52 (.mov (R.t 3)),
    R.q 53 (.mov (R.t 4)),
    R.q 54 (.call 27 [(R.t 51), (R.t 52), (R.t 53)]),
    R.q 55 (.mov (R.t 2)),
    R.q 56 (.mov (R.t 3)),
    R.q 57 (.mov (R.t 4)),
    R.q 58 (.call 28 [(R.t 55), (R.t 56), (R.t 57)]),
    R.q 59 (.bin .neq .no (R.t 54) (R.t 58))])
  (.cond (R.t 59)
    (.seq (.reg [R.q 10 (.mov R.ff)])
    .ret)
    .skip))
  (.seq (.regd [R.f (R.q 60 (.loadA 20 (R.t 5))),
    R.f (R.q 61 (.loadA 4 (R.t 6))),
    R.f (R.q 62 (.mov (R.t 2))),
    R.f (R.q 64 (.loadA 20 (R.t 5))),
    R.f (R.q 65 (.loadA 4 (R.t 6))),
    R.f (R.q 66 (.mov (R.t 2))),
    R.s (R.q 63 (.call 31 [(R.t 60), (R.t 61), (R.t 62)])) [3, 4, 5],
    R.s (R.q 67 (.call 32 [(R.t 64), (R.t 65), (R.t 66)])) [],
    R.s (R.q 68 (.call 30 [(R.t 63), (R.t 67)])) [],
    R.f (R.q 69 (.mov (R.t 68))),
    R.s (R.g 70 (.call 29 []) 69 true) [],
    R.f (R.q 71 (.pick (R.t 69) (R.t 70) R.ff)),
    R.s (R.q 10 (.mov (R.t 71))) []])
  .ret))))
def l25_DegradeAll.rs : List RRes := [.tmp 10]
theorem l25_DegradeAll.of {xs : List AV} {d : Nat} {B : BL} {K : ARes → BL → Prop} (hn : xs.length = 5) (hB : onlyOuter B = true) (h : awp ⟨PT, 72, exitX l25_DegradeAll.rs K⟩ 10000 [.code l25_DegradeAll.rc] ⟨params 0 xs, B, .nil⟩) : CallAt PT l25_DegradeAll xs d B K :=
  call_of_awp 10000 Try.func4 rfl (by kernel_rfl) (by kernel_rfl) (by kernel_rfl) (by rw [hn]; decide) hB h

/-! gripsack/gripsacklaw15.Heavy -/
abbrev l15_Heavy : Nat := 13
def l15_Heavy.rc : RC :=
  (.seq (.reg [R.q 1 (.box (R.t 0)),
    R.q 2 (.mov R.ff)])
  (.seq (.reg [R.q 3 (.fld 0 (R.t 1)),
    R.q 4 (.load1 (R.t 3)),
    R.q 5 (.lenS (R.t 4)),
    R.q 6 (.bin .gtr .no (R.t 5) (R.i 5000)),
    R.q 7 (.mov (R.t 6)),
    R.g 8 (.fld 16 (R.t 1)) 7 false,
    R.g 9 (.load1 (R.t 8)) 7 false,
    R.g 10 (.lenS (R.t 9)) 7 false,
    R.g 11 (.bin .gtr .no (R.t 10) (R.i 70000)) 7 false,
    R.q 12 (.pick (R.t 7) R.tt (R.t 11)),
    R.q 13 (.mov (R.t 12)),
    R.g 14 (.fld 17 (R.t 1)) 13 false,
    R.g 15 (.load1 (R.t 14)) 13 false,
    R.g 16 (.lenS (R.t 15)) 13 false,
    R.g 17 (.bin .gtr .no (R.t 16) (R.i 5000)) 13 false,
    R.q 18 (.pick (R.t 13) R.tt (R.t 17)),
    R.q 19 (.mov (R.t 18)),
    R.g 20 (.fld 2 (R.t 1)) 19 false,
    R.g 21 (.loadA 14 (R.t 20)) 19 false,
    R.g 22 (.call 41 [(R.t 21)]) 19 false,
    R.q 23 (.pick (R.t 19) R.tt (R.t 22)),
    R.q 2 (.mov (R.t 23))])
  .ret))
def l15_Heavy.rs : List RRes := [.tmp 2]
theorem l15_Heavy.of {xs : List AV} {d : Nat} {B : BL} {K : ARes → BL → Prop} (hn : xs.length = 1) (hB : onlyOuter B = true) (h : awp ⟨PT, 24, exitX l15_Heavy.rs K⟩ 10000 [.code l15_Heavy.rc] ⟨params 0 xs, B, .nil⟩) : CallAt PT l15_Heavy xs d B K :=
  call_of_awp 10000 Try.func13 rfl (by kernel_rfl) (by kernel_rfl) (by kernel_rfl) (by rw [hn]; decide) hB h

/-! gripsack/gripsackref15.May -/
abbrev r15_May : Nat := 14
def r15_May.rc : RC :=
  (.seq (.reg [R.q 1 (.box (R.t 0)),
    R.q 2 (.mov R.ff)])
  (.seq (.seq (.reg [R.q 6 (.fld 0 (R.t 1)),
    R.q 7 (.load1 (R.t 6)),
    R.q 8 (.call 44 [(R.t 7)]),
    R.q 9 (.un .not (R.t 8)),
    R.q 10 (.mov (R.t 9)),
    R.g 11 (.fld 1 (R.t 1)) 10 false,
    R.g 12 (.load1 (R.t 11)) 10 false,
    R.g 13 (.bin .lss .no (R.t 12) (R.i 1)) 10 false,
    R.q 14 (.pick (R.t 10) R.tt (R.t 13)),
    R.q 15 (.mov (R.t 14)),
    R.g 16 (.fld 1 (R.t 1)) 15 false,
    R.g 17 (.load1 (R.t 16)) 15 false,
    R.g 18 (.bin .gtr .no (R.t 17) (R.i 7)) 15 false,
    R.q 19 (.pick (R.t 15) R.tt (R.t 18)),
    R.q 20 (.mov (R.t 19)),
    R.g 21 (.fld 1 (R.t 1)) 20 false,
    R.g 22 (.load1 (R.t 21)) 20 false,
    R.g 23 (.fld 16 (R.t 1)) 20 false,
    R.g 24 (.load1 (R.t 23)) 20 false,
    R.g 25 (.fld 17 (R.t 1)) 20 false,
    R.g 26 (.load1 (R.t 25)) 20 false,
    R.g 27 (.fld 18 (R.t 1)) 20 false,
    R.g 28 (.load1 (R.t 27)) 20 false,
    R.g 29 (.fld 19 (R.t 1)) 20 false,
    R.g 30 (.load1 (R.t 29)) 20 false,
    R.g 31 (.call 45 [(R.t 22), (R.t 24), (R.t 26), (R.t 28), (R.t 30)]) 20 false,
    R.g 32 (.un .not (R.t 31)) 20 false,
    R.q 33 (.pick (R.t 20) R.tt (R.t 32))])
  (.cond (R.t 33)
    (.seq (.reg [R.q 2 (.mov R.ff)])
    .ret)
    .skip))
  (.seq (.seq (.reg [R.q 34 (.fld 1 (R.t 1)),
    R.q 35 (.load1 (R.t 34)),
    R.q 36 (.bin .eql .no (R.t 35) (R.i 2))])
  (.cond (R.t 36)
    (.seq (.reg [R.q 37 (.fld 2 (R.t 1)),
      R.q 38 (.loadA 14 (R.t 37)),
      R.q 39 (.build (.cons (R.z 0) (.cons (R.z 0) (.cons (R.z 0) (.cons (R.z 0) (.cons (R.z 0) (.cons .nsl (.cons .nsl (.cons .nsl (.cons (R.z 0) (.cons (.int .u64 fun _ => 0) (.cons (.int .u64 fun _ => 0) (.cons .ff (.cons (R.z 0) (.cons (R.z 0) .nil)))))))))))))) []),
      R.q 40 (.call 30 [(R.t 38), (R.t 39)]),
      R.q 41 (.un .not (R.t 40))])
    (.cond (R.t 41)
      (.seq (.reg [R.q 2 (.mov R.ff)])
      .ret)
      .skip))
    (.seq (.reg [R.q 42 (.fld 2 (R.t 1)),
      R.q 43 (.loadA 14 (R.t 42)),
      R.q 44 (.fld 1 (R.t 1)),
      R.q 45 (.load1 (R.t 44)),
      R.q 46 (.call 36 [(R.t 43), (R.t 45)]),
      R.q 47 (.un .not (R.t 46))])
    (.cond (R.t 47)
      (.seq (.reg [R.q 2 (.mov R.ff)])
      .ret)
      .skip))))
  (.seq (.reg [R.q 48 (.loadA 20 (R.t 1)),
    R.q 49 (.call 46 [(R.t 48)]),
    R.q 3 (.mov (R.t 49))])
  (.seq (.reg [R.q 4 (.mov (R.i 0))])
  (.seq (.seq (.reg [R.q 5 (.mov (R.i 0))])
  (.block 0 (.loop
     (.seq (.seq (.reg [R.q 50 (.mov (R.t 5)),
       R.q 51 (.mov (R.t 3)),
       R.q 52 (.len (R.t 51)),
       R.q 53 (.bin .lss .no (R.t 50) (R.t 52))])
     (.cond (R.t 53)
       .skip
       (.exit 0)))
     (.seq (.block 1 (.seq (.seq (.reg [R.q 56 (.mov (R.t 3)),
        R.q 57 (.mov (R.t 5)),
        R.q 58 (.idx 2 (R.t 56) (R.t 57)),
        R.q 59 (.loadA 2 (R.t 58)),
        R.q 60 (.call 47 [(R.t 59)]),
        R.q 61 (.un .not (R.t 60))])
      (.cond (R.t 61)
        (.seq (.reg [R.q 2 (.mov R.ff)])
        .ret)
        .skip))
      (.reg [R.q 62 (.mov (R.t 4)),
        R.q 63 (.mov (R.t 3)),
        R.q 64 (.mov (R.t 5)),
        R.q 65 (.idx 2 (R.t 63) (R.t 64)),
        R.q 66 (.loadA 2 (R.t 65)),
        R.q 67 (.call 48 [(R.t 66)]),
        R.q 68 (.lenS (R.t 67)),
        R.q 69 (.bin .add .no (R.t 62) (R.t 68)),
        R.q 4 (.mov (R.t 69))])))
     (.reg [R.q 54 (.mov (R.t 5)),
       R.q 55 (.bin .add .no (R.t 54) (R.i 1)),
       R.q 5 (.mov (R.t 55))]))))))
  (.seq (.reg [R.q 70 (.mov (R.t 4)),
    R.q 71 (.bin .leq .no (R.t 70) (R.i 65536)),
    R.q 2 (.mov (R.t 71))])
  .ret)))))))
def r15_May.rs : List RRes := [.tmp 2]
theorem r15_May.of {xs : List AV} {d : Nat} {B : BL} {K : ARes → BL → Prop} (hn : xs.length = 1) (hB : onlyOuter B = true) (h : awp ⟨PT, 72, exitX r15_May.rs K⟩ 10000 [.code r15_May.rc] ⟨params 0 xs, B, .nil⟩) : CallAt PT r15_May xs d B K :=
  call_of_awp 10000 Try.func14 rfl (by kernel_rfl) (by kernel_rfl) (by kernel_rfl) (by rw [hn]; decide) hB h

/-! gripsack/gripsacklaw23.awake -/
abbrev l23_awake : Nat := 17
def l23_awake.rc : RC :=
  (.seq (.reg [R.q 0 (.mov R.ff)])
  (.seq (.reg [R.q 4 (.call 35 [(R.i 2541), (R.i 0), (R.i 0)]),
    R.q 5 (.call 18 [(R.t 4), R.ff]),
    R.q 3 (.mov (R.t 5)),
    R.q 6 (.ext 0 (R.t 3)),
    R.q 7 (.ext 1 (R.t 3)),
    R.q 1 (.mov (R.t 6)),
    R.q 2 (.mov (R.t 7))])
  (.seq (.reg [R.q 8 (.call 15 [(R.i 1)]),
    R.q 9 (.bin .eql .no (R.t 8) (R.i 0)),
    R.q 10 (.mov (R.t 9)),
    R.g 11 (.call 15 [(R.i 6)]) 10 true,
    R.g 12 (.bin .eql .no (R.t 11) (R.i 448)) 10 true,
    R.q 13 (.pick (R.t 10) (R.t 12) R.ff),
    R.q 14 (.mov (R.t 13)),
    R.g 15 (.mov (R.t 1)) 14 true,
    R.g 16 (.bin .eql .no (R.t 15) (R.i 448)) 14 true,
    R.q 17 (.pick (R.t 14) (R.t 16) R.ff),
    R.q 18 (.mov (R.t 17)),
    R.g 19 (.mov (R.t 2)) 18 true,
    R.g 20 (.un .not (R.t 19)) 18 true,
    R.q 21 (.pick (R.t 18) (R.t 20) R.ff),
    R.q 0 (.mov (R.t 21))])
  .ret)))
def l23_awake.rs : List RRes := [.tmp 0]
theorem l23_awake.of {xs : List AV} {d : Nat} {B : BL} {K : ARes → BL → Prop} (hn : xs.length = 0) (hB : onlyOuter B = true) (h : awp ⟨PT, 22, exitX l23_awake.rs K⟩ 10000 [.code l23_awake.rc] ⟨params 0 xs, B, .nil⟩) : CallAt PT l23_awake xs d B K :=
  call_of_awp 10000 Try.func17 rfl (by kernel_rfl) (by kernel_rfl) (by kernel_rfl) (by rw [hn]; decide) hB h

/-! gripsack/gripsacklaw23.ints -/
abbrev l23_ints : Nat := 23
def l23_ints.rc : RC :=
  (.seq (.reg [R.q 4 (.mov R.ff)])
  (.seq (.seq (.reg [R.q 6 (.mov (R.t 0)),
    R.q 7 (.len (R.t 6)),
    R.q 8 (.mov (R.t 1)),
    R.q 9 (.len (R.t 8)),
    R.q 10 (.bin .neq .no (R.t 7) (R.t 9))])
  (.cond (R.t 10)
    (.seq (.reg [R.q 4 (.mov R.ff)])
    .ret)
    .skip))
  (.seq (.seq (.reg [R.q 5 (.mov (R.i 0))])
  (.block 0 (.loop
     (.seq (.seq (.reg [R.q 11 (.mov (R.t 5)),
       R.q 12 (.mov (R.t 0)),
       R.q 13 (.len (R.t 12)),
       R.q 14 (.bin .lss .no (R.t 11) (R.t 13))])
     (.cond (R.t 14)
       .skip
       (.exit 0)))
     (.seq (.block 1 (.seq (.regd [R.f (R.q 17 (.mov (R.t 0))),
        R.f (R.q 18 (.mov (R.t 5))),
        R.f (R.q 19 (.idx 1 (R.t 17) (R.t 18))),
        R.f (R.q 20 (.load1 (R.t 19))),
        R.f (R.q 21 (.mov (R.t 1))),
        R.f (R.q 22 (.mov (R.t 5))),
        R.f (R.q 23 (.idx 1 (R.t 21) (R.t 22))),
        R.f (R.q 24 (.load1 (R.t 23))),
        R.f (R.q 25 (.bin .neq .no (R.t 20) (R.t 24)))])
      (.cond (R.t 25)
        (.seq (.reg [R.q 4 (.mov R.ff)])
        .ret)
        .skip)))
     (.reg [R.q 15 (.mov (R.t 5)),
       R.q 16 (.bin .add .no (R.t 15) (R.i 1)),
       R.q 5 (.mov (R.t 16))]))))))
  (.seq (.reg [R.q 4 (.mov R.tt)])
  .ret))))
def l23_ints.rs : List RRes := [.tmp 4]
theorem l23_ints.of {xs : List AV} {d : Nat} {B : BL} {K : ARes → BL → Prop} (hn : xs.length = 2) (hB : onlyOuter B = true) (h : awp ⟨PT, 26, exitX l23_ints.rs K⟩ 10000 [.code l23_ints.rc] ⟨params 0 xs, B, .nil⟩) : CallAt PT l23_ints xs d B K :=
  call_of_awp 10000 Try.func23 rfl (by kernel_rfl) (by kernel_rfl) (by kernel_rfl) (by rw [hn]; decide) hB h

/-! gripsack/plan.Attrs -/
abbrev plan_Attrs : Nat := 24
def plan_Attrs.rc : RC :=
  (.seq (.reg [R.q 1 (.box (R.t 0)),
    R.q 2 (.mov (.val .nsl))])
  (.seq (.seq (.reg [R.q 4 (.fld 1 (R.t 1)),
    R.q 5 (.load1 (R.t 4)),
    R.q 6 (.bin .eql .no (R.t 5) (R.i 2))])
  (.cond (R.t 6)
    (.seq (.reg [R.q 2 (.mov (.val .nsl))])
    .ret)
    .skip))
  (.seq (.reg [R.q 7 (.bslice 1 (.cons (R.z 0) .nil) 9 [(0, 1, (R.i 10)), (1, 1, (R.i 2)), (2, 1, (R.i 3)), (3, 1, (R.i 4)), (4, 1, (R.i 5)), (5, 1, (R.i 6)), (6, 1, (R.i 7)), (7, 1, (R.i 8)), (8, 1, (R.i 9))]),
    R.q 3 (.mov (R.t 7))])
  (.seq (.mark (.reg [R.q 8 (.mov (R.t 3)),
    R.q 9 (.mkfn (.func 54) [] [(R.t 1)]),
    R.q 10 (.call 53 [(R.t 8), (R.t 9)]),
    R.q 2 (.mov (R.t 10))]))
  .ret))))
def plan_Attrs.rs : List RRes := [.tmp 2]
theorem plan_Attrs.of {xs : List AV} {d : Nat} {B : BL} {K : ARes → BL → Prop} (hn : xs.length = 1) (hB : onlyOuter B = true) (h : awp ⟨PT, 11, exitX plan_Attrs.rs K⟩ 10000 [.code plan_Attrs.rc] ⟨params 0 xs, B, .nil⟩) : CallAt PT plan_Attrs xs d B K :=
  call_of_awp 10000 Try.func24 rfl (by kernel_rfl) (by kernel_rfl) (by kernel_rfl) (by rw [hn]; decide) hB h

/-! gripsack/gripsackref18.MayCred -/
abbrev r18_MayCred : Nat := 26
def r18_MayCred.rc : RC :=
  (.seq (.reg [R.q 1 (.box (R.t 0)),
    R.q 2 (.mov R.ff)])
  (.seq (.seq (.reg [R.q 3 (.mov (R.i 0))])
  (.block 0 (.loop
     (.seq (.seq (.reg [R.q 4 (.mov (R.t 3)),
       R.q 5 (.fld 2 (R.t 1)),
       R.q 6 (.load1 (R.t 5)),
       R.q 7 (.len (R.t 6)),
       R.q 8 (.bin .lss .no (R.t 4) (R.t 7))])
     (.cond (R.t 8)
       .skip
       (.exit 0)))
     (.seq (.block 1 (.seq (.reg [R.q 11 (.fld 2 (R.t 1)),
        R.q 12 (.load1 (R.t 11)),
        R.q 13 (.mov (R.t 3)),
        R.q 14 (.idx 1 (R.t 12) (R.t 13)),
        R.q 15 (.load1 (R.t 14)),
        R.q 16 (.bin .lss .no (R.t 15) (R.i 0)),
        R.q 17 (.mov (R.t 16)),
        R.g 18 (.fld 2 (R.t 1)) 17 false,
        R.g 19 (.load1 (R.t 18)) 17 false,
        R.g 20 (.mov (R.t 3)) 17 false,
        R.g 21 (.idx 1 (R.t 19) (R.t 20)) 17 false,
        R.g 22 (.load1 (R.t 21)) 17 false,
        R.g 23 (.bin .gtr .no (R.t 22) (R.i 2147483647)) 17 false,
        R.q 24 (.pick (R.t 17) R.tt (R.t 23))])
      (.cond (R.t 24)
        (.seq (.reg [R.q 2 (.mov R.ff)])
        .ret)
        .skip)))
     (.reg [R.q 9 (.mov (R.t 3)),
       R.q 10 (.bin .add .no (R.t 9) (R.i 1)),
       R.q 3 (.mov (R.t 10))]))))))
  (.seq (.reg [R.q 25 (.fld 0 (R.t 1)),
    R.q 26 (.load1 (R.t 25)),
    R.q 27 (.bin .geq .no (R.t 26) (R.i 0)),
    R.q 28 (.mov (R.t 27)),
    R.g 29 (.fld 0 (R.t 1)) 28 true,
    R.g 30 (.load1 (R.t 29)) 28 true,
    R.g 31 (.bin .leq .no (R.t 30) (R.i 2147483647)) 28 true,
    R.q 32 (.pick (R.t 28) (R.t 31) R.ff),
    R.q 33 (.mov (R.t 32)),
    R.g 34 (.fld 1 (R.t 1)) 33 true,
    R.g 35 (.load1 (R.t 34)) 33 true,
    R.g 36 (.bin .geq .no (R.t 35) (R.i 0)) 33 true,
    R.q 37 (.pick (R.t 33) (R.t 36) R.ff),
    R.q 38 (.mov (R.t 37)),
    R.g 39 (.fld 1 (R.t 1)) 38 true,
    R.g 40 (.load1 (R.t 39)) 38 true,
    R.g 41 (.bin .leq .no (R.t 40) (R.i 2147483647)) 38 true,
    R.q 42 (.pick (R.t 38) (R.t 41) R.ff),
    R.q 43 (.mov (R.t 42)),
    R.g 44 (.fld 2 (R.t 1)) 43 true,
    R.g 45 (.load1 (R.t 44)) 43 true,
    R.g 46 (.len (R.t 45)) 43 true,
    R.g 47 (.bin .leq .no (R.t 46) (R.i 32)) 43 true,
    R.q 48 (.pick (R.t 43) (R.t 47) R.ff),
    R.q 49 (.mov (R.t 48)),
    R.g 50 (.fld 3 (R.t 1)) 49 true,
    R.g 51 (.load1 (R.t 50)) 49 true,
    R.g 52 (.bin .geq .no (R.t 51) (R.i 0)) 49 true,
    R.q 53 (.pick (R.t 49) (R.t 52) R.ff),
    R.q 54 (.mov (R.t 53)),
    R.g 55 (.fld 3 (R.t 1)) 54 true,
    R.g 56 (.load1 (R.t 55)) 54 true,
    R.g 57 (.bin .leq .no (R.t 56) (R.i 127)) 54 true,
    R.q 58 (.pick (R.t 54) (R.t 57) R.ff),
    R.q 2 (.mov (R.t 58))])
  .ret)))
def r18_MayCred.rs : List RRes := [.tmp 2]
theorem r18_MayCred.of {xs : List AV} {d : Nat} {B : BL} {K : ARes → BL → Prop} (hn : xs.length = 1) (hB : onlyOuter B = true) (h : awp ⟨PT, 59, exitX r18_MayCred.rs K⟩ 10000 [.code r18_MayCred.rc] ⟨params 0 xs, B, .nil⟩) : CallAt PT r18_MayCred xs d B K :=
  call_of_awp 10000 Try.func26 rfl (by kernel_rfl) (by kernel_rfl) (by kernel_rfl) (by rw [hn]; decide) hB h

/-! gripsack/gripsacklaw14.Heavy -/
abbrev l14_Heavy : Nat := 41
def l14_Heavy.rc : RC :=
  (.seq (.reg [R.q 1 (.box (R.t 0)),
    R.q 2 (.mov R.ff)])
  (.seq (.reg [R.q 3 (.fld 5 (R.t 1)),
    R.q 4 (.load1 (R.t 3)),
    R.q 5 (.len (R.t 4)),
    R.q 6 (.bin .gtr .no (R.t 5) (R.i 60)),
    R.q 7 (.mov (R.t 6)),
    R.g 8 (.fld 6 (R.t 1)) 7 false,
    R.g 9 (.load1 (R.t 8)) 7 false,
    R.g 10 (.len (R.t 9)) 7 false,
    R.g 11 (.bin .gtr .no (R.t 10) (R.i 60)) 7 false,
    R.q 12 (.pick (R.t 7) R.tt (R.t 11)),
    R.q 13 (.mov (R.t 12)),
    R.g 14 (.fld 7 (R.t 1)) 13 false,
    R.g 15 (.load1 (R.t 14)) 13 false,
    R.g 16 (.call 76 [(R.t 15)]) 13 false,
    R.g 17 (.un .not (R.t 16)) 13 false,
    R.q 18 (.pick (R.t 13) R.tt (R.t 17)),
    R.q 2 (.mov (R.t 18))])
  .ret))
def l14_Heavy.rs : List RRes := [.tmp 2]
theorem l14_Heavy.of {xs : List AV} {d : Nat} {B : BL} {K : ARes → BL → Prop} (hn : xs.length = 1) (hB : onlyOuter B = true) (h : awp ⟨PT, 19, exitX l14_Heavy.rs K⟩ 10000 [.code l14_Heavy.rc] ⟨params 0 xs, B, .nil⟩) : CallAt PT l14_Heavy xs d B K :=
  call_of_awp 10000 Try.func41 rfl (by kernel_rfl) (by kernel_rfl) (by kernel_rfl) (by rw [hn]; decide) hB h

/-! gripsack/gripsackref15.Path -/
abbrev r15_Path : Nat := 44
def r15_Path.rc : RC :=
  (.seq (.reg [R.q 2 (.mov R.ff)])
  (.seq (.seq (.reg [R.q 5 (.mov (R.t 0)),
    R.q 6 (.lenS (R.t 5)),
    R.q 7 (.bin .eql .no (R.t 6) (R.i 0)),
    R.q 8 (.mov (R.t 7)),
    R.g 9 (.mov (R.t 0)) 8 false,
    R.g 10 (.lenS (R.t 9)) 8 false,
    R.g 11 (.bin .gtr .no (R.t 10) (R.i 4096)) 8 false,
    R.q 12 (.pick (R.t 8) R.tt (R.t 11))])
  (.cond (R.t 12)
    (.seq (.reg [R.q 2 (.mov R.ff)])
    .ret)
    .skip))
  (.seq (.reg [R.q 13 (.mov (R.t 0)),
    R.q 14 (.call 79 [(R.t 13)]),
    R.q 3 (.mov (R.t 14))])
  (.seq (.seq (.reg [R.q 4 (.mov (R.i 0))])
  (.block 0 (.loop
     (.seq (.seq (.reg [R.q 15 (.mov (R.t 4)),
       R.q 16 (.mov (R.t 3)),
       R.q 17 (.len (R.t 16)),
       R.q 18 (.bin .lss .no (R.t 15) (R.t 17))])
     (.cond (R.t 18)
       .skip
       (.exit 0)))
     (.seq (.block 1 (.seq (.reg [R.q 21 (.mov (R.t 3)),
        R.q 22 (.mov (R.t 4)),
        R.q 23 (.idx 1 (R.t 21) (R.t 22)),
        R.q 24 (.load1 (R.t 23)),
        R.q 25 (.call 80 [(R.t 24)]),
        R.q 26 (.un .not (R.t 25))])
      (.cond (R.t 26)
        (.seq (.reg [R.q 2 (.mov R.ff)])
        .ret)
        .skip)))
     (.reg [R.q 19 (.mov (R.t 4)),
       R.q 20 (.bin .add .no (R.t 19) (R.i 1)),
       R.q 4 (.mov (R.t 20))]))))))
  (.seq (.reg [R.q 27 (.mov (R.t 3)),
    R.q 28 (.len (R.t 27)),
    R.q 29 (.bin .leq .no (R.t 28) (R.i 64)),
    R.q 2 (.mov (R.t 29))])
  .ret)))))
def r15_Path.rs : List RRes := [.tmp 2]
theorem r15_Path.of {xs : List AV} {d : Nat} {B : BL} {K : ARes → BL → Prop} (hn : xs.length = 1) (hB : onlyOuter B = true) (h : awp ⟨PT, 30, exitX r15_Path.rs K⟩ 10000 [.code r15_Path.rc] ⟨params 0 xs, B, .nil⟩) : CallAt PT r15_Path xs d B K :=
  call_of_awp 10000 Try.func44 rfl (by kernel_rfl) (by kernel_rfl) (by kernel_rfl) (by rw [hn]; decide) hB h

/-! gripsack/gripsackref15.MayBody -/
abbrev r15_MayBody : Nat := 45
def r15_MayBody.rc : RC :=
  (.seq (.reg [R.q 10 (.mov R.ff)])
  (.seq (.seq (.reg [R.q 12 (.mov (R.t 1)),
    R.q 13 (.lenS (R.t 12)),
    R.q 14 (.bin .gtr .no (R.t 13) (R.i 65536)),
    R.q 15 (.mov (R.t 14)),
    R.g 16 (.mov (R.t 0)) 15 false,
    R.g 17 (.bin .neq .no (R.t 16) (R.i 1)) 15 false,
    R.g 18 (.mov (R.t 17)) 15 false,
    R.g 19 (.mov (R.t 1)) 18 true,
    R.g 20 (.bin .neq .no (R.t 19) (.val (.str fun _ => []))) 18 true,
    R.g 21 (.pick (R.t 18) (R.t 20) R.ff) 15 false,
    R.q 22 (.pick (R.t 15) R.tt (R.t 21)),
    R.q 23 (.mov (R.t 22)),
    R.g 24 (.mov (R.t 3)) 23 false,
    R.g 25 (.bin .lss .no (R.t 24) (R.i 0)) 23 false,
    R.q 26 (.pick (R.t 23) R.tt (R.t 25)),
    R.q 27 (.mov (R.t 26)),
    R.g 28 (.mov (R.t 3)) 27 false,
    R.g 29 (.bin .gtr .no (R.t 28) (R.i 2097151)) 27 false,
    R.q 30 (.pick (R.t 27) R.tt (R.t 29)),
    R.q 31 (.mov (R.t 30)),
    R.g 32 (.mov (R.t 4)) 31 false,
    R.g 33 (.bin .lss .no (R.t 32) (R.i 0)) 31 false,
    R.q 34 (.pick (R.t 31) R.tt (R.t 33)),
    R.q 35 (.mov (R.t 34)),
    R.g 36 (.mov (R.t 4)) 35 false,
    R.g 37 (.bin .gtr .no (R.t 36) (R.i 2097151)) 35 false,
    R.q 38 (.pick (R.t 35) R.tt (R.t 37)),
    R.q 39 (.mov (R.t 38)),
    R.g 40 (.mov (R.t 0)) 39 false,
    R.g 41 (.call 81 [(R.t 40)]) 39 false,
    R.g 42 (.un .not (R.t 41)) 39 false,
    R.g 43 (.mov (R.t 42)) 39 false,
    R.g 44 (.mov (R.t 3)) 43 true,
    R.g 45 (.mov (R.t 4)) 43 true,
    R.g 46 (.bin .add .no (R.t 44) (R.t 45)) 43 true,
    R.g 47 (.bin .neq .no (R.t 46) (R.i 0)) 43 true,
    R.g 48 (.pick (R.t 43) (R.t 47) R.ff) 39 false,
    R.q 49 (.pick (R.t 39) R.tt (R.t 48))])
  (.cond (R.t 49)
    (.seq (.reg [R.q 10 (.mov R.ff)])
    .ret)
    .skip))
  (.seq (.seq (.reg [R.q 50 (.mov (R.t 0))])
  (.block 0 (.seq (.reg [R.q 52 (.bin .eql .no (R.t 50) (R.i 2)),
     R.q 51 (.mov (R.t 52))])
   (.cond (R.t 51)
     (.seq (.reg [R.q 53 (.mov (R.t 2)),
       R.q 54 (.call 44 [(R.t 53)]),
       R.q 10 (.mov (R.t 54))])
     .ret)
     (.seq (.reg [R.q 56 (.bin .eql .no (R.t 50) (R.i 3)),
       R.q 55 (.mov (R.t 56))])
     (.cond (R.t 55)
       (.seq (.seq (.reg [R.q 57 (.mov (R.t 2)),
         R.q 58 (.lenS (R.t 57)),
         R.q 59 (.bin .eql .no (R.t 58) (R.i 0)),
         R.q 60 (.mov (R.t 59)),
         R.g 61 (.mov (R.t 2)) 60 false,
         R.g 62 (.lenS (R.t 61)) 60 false,
         R.g 63 (.bin .gtr .no (R.t 62) (R.i 4096)) 60 false,
         R.q 64 (.pick (R.t 60) R.tt (R.t 63))])
       (.cond (R.t 64)
         (.seq (.reg [R.q 10 (.mov R.ff)])
         .ret)
         .skip))
       (.seq (.seq (.reg [R.q 11 (.mov (R.i 0))])
       (.block 1 (.loop
          (.seq (.seq (.reg [R.q 65 (.mov (R.t 11)),
            R.q 66 (.mov (R.t 2)),
            R.q 67 (.lenS (R.t 66)),
            R.q 68 (.bin .lss .no (R.t 65) (R.t 67))])
          (.cond (R.t 68)
            .skip
            (.exit 1)))
          (.seq (.block 2 (.seq (.reg [R.q 71 (.mov (R.t 2)),
             R.q 72 (.mov (R.t 11)),
             R.q 73 (.idxS (R.t 71) (R.t 72)),
             R.q 74 (.bin .eql .no (R.t 73) (R.u 0))])
           (.cond (R.t 74)
             (.seq (.reg [R.q 10 (.mov R.ff)])
             .ret)
             .skip)))
          (.reg [R.q 69 (.mov (R.t 11)),
            R.q 70 (.bin .add .no (R.t 69) (R.i 1)),
            R.q 11 (.mov (R.t 70))]))))))
       (.seq (.reg [R.q 10 (.mov R.tt)])
       .ret)))
       .skip))))))
  (.seq (.reg [R.q 75 (.mov (R.t 2)),
    R.q 76 (.bin .eql .no (R.t 75) (.val (.str fun _ => []))),
    R.q 10 (.mov (R.t 76))])
  .ret))))
def r15_MayBody.rs : List RRes := [.tmp 10]
theorem r15_MayBody.of {xs : List AV} {d : Nat} {B : BL} {K : ARes → BL → Prop} (hn : xs.length = 5) (hB : onlyOuter B = true) (h : awp ⟨PT, 77, exitX r15_MayBody.rs K⟩ 10000 [.code r15_MayBody.rc] ⟨params 0 xs, B, .nil⟩) : CallAt PT r15_MayBody xs d B K :=
  call_of_awp 10000 Try.func45 rfl (by kernel_rfl) (by kernel_rfl) (by kernel_rfl) (by rw [hn]; decide) hB h

/-! gripsack/gripsackref15.Recs -/
abbrev r15_Recs : Nat := 46
def r15_Recs.rc : RC :=
  (.seq (.reg [R.q 1 (.box (R.t 0)),
    R.q 2 (.mov (.val .nsl))])
  (.seq (.reg [R.q 3 (.mov (.val .nsl))])
  (.seq (.regd [R.f (R.q 7 (.fld 0 (R.t 1))),
    R.f (R.q 8 (.load1 (R.t 7))),
    R.f (R.q 12 (.fld 17 (R.t 1))),
    R.f (R.q 13 (.load1 (R.t 12))),
    R.f (R.q 14 (.lenS (R.t 13))),
    R.f (R.q 15 (.bin .gtr .no (R.t 14) (R.i 100))),
    R.s (R.q 9 (.call 82 [(R.t 8)])) [2, 3, 4, 5],
    R.f (R.q 10 (.field1 2 (R.t 9))),
    R.f (R.q 11 (.un .not (R.t 10))),
    R.s (R.q 4 (.mov (R.t 11))) [2, 3, 4, 5],
    R.s (R.q 5 (.mov (R.t 15))) []])
  (.seq (.seq (.reg [R.q 16 (.mov (R.t 4)),
    R.q 17 (.mov (R.t 16)),
    R.g 18 (.fld 0 (R.t 1)) 17 true,
    R.g 19 (.load1 (R.t 18)) 17 true,
    R.g 20 (.call 83 [(R.t 19)]) 17 true,
    R.g 21 (.un .not (R.t 20)) 17 true,
    R.q 22 (.pick (R.t 17) (R.t 21) R.ff),
    R.q 23 (.mov (R.t 22)),
    R.g 24 (.mov (R.t 5)) 23 false,
    R.g 25 (.mov (R.t 24)) 23 false,
    R.g 26 (.fld 17 (R.t 1)) 25 true,
    R.g 27 (.load1 (R.t 26)) 25 true,
    R.g 28 (.call 83 [(R.t 27)]) 25 true,
    R.g 29 (.un .not (R.t 28)) 25 true,
    R.g 30 (.pick (R.t 25) (R.t 29) R.ff) 23 false,
    R.q 31 (.pick (R.t 23) R.tt (R.t 30))])
  (.cond (R.t 31)
    (.reg [R.q 32 (.mov (R.t 3)),
      R.q 33 (.build (.cons (.str fun _ => []) (.cons (.str fun _ => []) .nil)) [(0, 1, (.val (.str fun _ => [104, 100, 114, 99, 104, 97, 114, 115, 101, 116]))), (1, 1, (.val (.str fun _ => [66, 73, 78, 65, 82, 89])))]),
      R.q 34 (.bslice 2 (.cons (.str fun _ => []) (.cons (.str fun _ => []) .nil)) 1 [(0, 2, (R.t 33))]),
      R.q 35 (.append 2 32 (R.t 32) (R.t 34)),
      R.q 3 (.mov (R.t 35))])
    .skip))
  (.seq (.seq (.reg [R.q 36 (.mov (R.t 4))])
  (.cond (R.t 36)
    (.reg [R.q 37 (.mov (R.t 3)),
      R.q 38 (.fld 0 (R.t 1)),
      R.q 39 (.load1 (R.t 38)),
      R.q 40 (.build (.cons (.str fun _ => []) (.cons (.str fun _ => []) .nil)) [(0, 1, (.val (.str fun _ => [112, 97, 116, 104]))), (1, 1, (R.t 39))]),
      R.q 41 (.bslice 2 (.cons (.str fun _ => []) (.cons (.str fun _ => []) .nil)) 1 [(0, 2, (R.t 40))]),
      R.q 42 (.append 2 32 (R.t 37) (R.t 41)),
      R.q 3 (.mov (R.t 42))])
    .skip))
  (.seq (.seq (.reg [R.q 43 (.mov (R.t 5))])
  (.cond (R.t 43)
    (.reg [R.q 44 (.mov (R.t 3)),
      R.q 45 (.fld 17 (R.t 1)),
      R.q 46 (.load1 (R.t 45)),
      R.q 47 (.build (.cons (.str fun _ => []) (.cons (.str fun _ => []) .nil)) [(0, 1, (.val (.str fun _ => [108, 105, 110, 107, 112, 97, 116, 104]))), (1, 1, (R.t 46))]),
      R.q 48 (.bslice 2 (.cons (.str fun _ => []) (.cons (.str fun _ => []) .nil)) 1 [(0, 2, (R.t 47))]),
      R.q 49 (.append 2 32 (R.t 44) (R.t 48)),
      R.q 3 (.mov (R.t 49))])
    .skip))
  (.seq (.reg [R.q 50 (.fld 2 (R.t 1)),
    R.q 51 (.loadA 14 (R.t 50)),
    R.q 6 (.alloc (.cons (R.z 0) (.cons (R.z 0) (.cons (R.z 0) (.cons (R.z 0) (.cons (R.z 0) (.cons .nsl (.cons .nsl (.cons .nsl (.cons (R.z 0) (.cons (.int .u64 fun _ => 0) (.cons (.int .u64 fun _ => 0) (.cons .ff (.cons (R.z 0) (.cons (R.z 0) .nil))))))))))))))),
    R.e (.store 14 (R.t 6) (R.t 51))])
  (.seq (.seq (.reg [R.q 52 (.fld 1 (R.t 6)),
    R.q 53 (.load1 (R.t 52)),
    R.q 54 (.bin .gtr .no (R.t 53) (R.i 2097151))])
  (.cond (R.t 54)
    (.reg [R.q 55 (.mov (R.t 3)),
      R.q 56 (.fld 1 (R.t 6)),
      R.q 57 (.load1 (R.t 56)),
      R.q 58 (.call 84 [(R.t 57)]),
      R.q 59 (.build (.cons (.str fun _ => []) (.cons (.str fun _ => []) .nil)) [(0, 1, (.val (.str fun _ => [117, 105, 100]))), (1, 1, (R.t 58))]),
      R.q 60 (.bslice 2 (.cons (.str fun _ => []) (.cons (.str fun _ => []) .nil)) 1 [(0, 2, (R.t 59))]),
      R.q 61 (.append 2 32 (R.t 55) (R.t 60)),
      R.q 3 (.mov (R.t 61))])
    .skip))
  (.seq (.seq (.reg [R.q 62 (.fld 2 (R.t 6)),
    R.q 63 (.load1 (R.t 62)),
    R.q 64 (.bin .gtr .no (R.t 63) (R.i 2097151))])
  (.cond (R.t 64)
    (.reg [R.q 65 (.mov (R.t 3)),
      R.q 66 (.fld 2 (R.t 6)),
      R.q 67 (.load1 (R.t 66)),
      R.q 68 (.call 84 [(R.t 67)]),
      R.q 69 (.build (.cons (.str fun _ => []) (.cons (.str fun _ => []) .nil)) [(0, 1, (.val (.str fun _ => [103, 105, 100]))), (1, 1, (R.t 68))]),
      R.q 70 (.bslice 2 (.cons (.str fun _ => []) (.cons (.str fun _ => []) .nil)) 1 [(0, 2, (R.t 69))]),
      R.q 71 (.append 2 32 (R.t 65) (R.t 70)),
      R.q 3 (.mov (R.t 71))])
    .skip))
  (.seq (.seq (.reg [R.q 72 (.fld 3 (R.t 6)),
    R.q 73 (.loadA 2 (R.t 72)),
    R.q 74 (.call 85 [(R.t 73)])])
  (.cond (R.t 74)
    (.reg [R.q 75 (.mov (R.t 3)),
      R.q 76 (.fld 3 (R.t 6)),
      R.q 77 (.loadA 2 (R.t 76)),
      R.q 78 (.call 86 [(R.t 77)]),
      R.q 79 (.build (.cons (.str fun _ => []) (.cons (.str fun _ => []) .nil)) [(0, 1, (.val (.str fun _ => [109, 116, 105, 109, 101]))), (1, 1, (R.t 78))]),
      R.q 80 (.bslice 2 (.cons (.str fun _ => []) (.cons (.str fun _ => []) .nil)) 1 [(0, 2, (R.t 79))]),
      R.q 81 (.append 2 32 (R.t 75) (R.t 80)),
      R.q 3 (.mov (R.t 81))])
    .skip))
  (.seq (.seq (.reg [R.q 82 (.fld 5 (R.t 6)),
    R.q 83 (.load1 (R.t 82)),
    R.q 84 (.len (R.t 83)),
    R.q 85 (.bin .gtr .no (R.t 84) (R.i 0))])
  (.cond (R.t 85)
    (.reg [R.q 86 (.mov (R.t 3)),
      R.q 87 (.fld 5 (R.t 6)),
      R.q 88 (.load1 (R.t 87)),
      R.q 89 (.call 87 [(R.t 88)]),
      R.q 90 (.build (.cons (.str fun _ => []) (.cons (.str fun _ => []) .nil)) [(0, 1, (.val (.str fun _ => [83, 67, 72, 73, 76, 89, 46, 97, 99, 108, 46, 97, 99, 99, 101, 115, 115]))), (1, 1, (R.t 89))]),
      R.q 91 (.bslice 2 (.cons (.str fun _ => []) (.cons (.str fun _ => []) .nil)) 1 [(0, 2, (R.t 90))]),
      R.q 92 (.append 2 32 (R.t 86) (R.t 91)),
      R.q 3 (.mov (R.t 92))])
    .skip))
  (.seq (.seq (.reg [R.q 93 (.fld 6 (R.t 6)),
    R.q 94 (.load1 (R.t 93)),
    R.q 95 (.len (R.t 94)),
    R.q 96 (.bin .gtr .no (R.t 95) (R.i 0))])
  (.cond (R.t 96)
    (.reg [R.q 97 (.mov (R.t 3)),
      R.q 98 (.fld 6 (R.t 6)),
      R.q 99 (.load1 (R.t 98)),
      R.q 100 (.call 87 [(R.t 99)]),
      R.q 101 (.build (.cons (.str fun _ => []) (.cons (.str fun _ => []) .nil)) [(0, 1, (.val (.str fun _ => [83, 67, 72, 73, 76, 89, 46, 97, 99, 108, 46, 100, 101, 102, 97, 117, 108, 116]))), (1, 1, (R.t 100))]),
      R.q 102 (.bslice 2 (.cons (.str fun _ => []) (.cons (.str fun _ => []) .nil)) 1 [(0, 2, (R.t 101))]),
      R.q 103 (.append 2 32 (R.t 97) (R.t 102)),
      R.q 3 (.mov (R.t 103))])
    .skip))
  (.seq (.seq (.reg [R.q 104 (.fld 13 (R.t 6)),
    R.q 105 (.load1 (R.t 104)),
    R.q 106 (.bin .neq .no (R.t 105) (R.i 0))])
  (.cond (R.t 106)
    (.reg [R.q 107 (.mov (R.t 3)),
      R.q 108 (.fld 13 (R.t 6)),
      R.q 109 (.load1 (R.t 108)),
      R.q 110 (.call 88 [(R.t 109)]),
      R.q 111 (.build (.cons (.str fun _ => []) (.cons (.str fun _ => []) .nil)) [(0, 1, (.val (.str fun _ => [83, 67, 72, 73, 76, 89, 46, 102, 102, 108, 97, 103, 115]))), (1, 1, (R.t 110))]),
      R.q 112 (.bslice 2 (.cons (.str fun _ => []) (.cons (.str fun _ => []) .nil)) 1 [(0, 2, (R.t 111))]),
      R.q 113 (.append 2 32 (R.t 107) (R.t 112)),
      R.q 3 (.mov (R.t 113))])
    .skip))
  (.seq (.seq (.reg [R.q 114 (.fld 8 (R.t 6)),
    R.q 115 (.fld 0 (R.t 114)),
    R.q 116 (.load1 (R.t 115)),
    R.q 117 (.bin .neq .no (R.t 116) (R.i 0))])
  (.cond (R.t 117)
    (.reg [R.q 118 (.mov (R.t 3)),
      R.q 119 (.fld 8 (R.t 6)),
      R.q 120 (.loadA 5 (R.t 119)),
      R.q 121 (.call 90 [(R.t 120)]),
      R.q 122 (.call 89 [(R.t 121)]),
      R.q 123 (.build (.cons (.str fun _ => []) (.cons (.str fun _ => []) .nil)) [(0, 1, (.val (.str fun _ => [71, 82, 73, 80, 83, 65, 67, 75, 46, 99, 97, 112, 115]))), (1, 1, (R.t 122))]),
      R.q 124 (.bslice 2 (.cons (.str fun _ => []) (.cons (.str fun _ => []) .nil)) 1 [(0, 2, (R.t 123))]),
      R.q 125 (.append 2 32 (R.t 118) (R.t 124)),
      R.q 3 (.mov (R.t 125))])
    .skip))
  (.seq (.reg [R.q 126 (.mov (R.t 3)),
    R.q 127 (.fld 7 (R.t 6)),
    R.q 128 (.load1 (R.t 127)),
    R.q 129 (.call 91 [(R.t 128)]),
    R.q 130 (.append 2 32 (R.t 126) (R.t 129)),
    R.q 2 (.mov (R.t 130))])
  .ret)))))))))))))))
def r15_Recs.rs : List RRes := [.tmp 2]
theorem r15_Recs.of {xs : List AV} {d : Nat} {B : BL} {K : ARes → BL → Prop} (hn : xs.length = 1) (hB : onlyOuter B = true) (h : awp ⟨PT, 131, exitX r15_Recs.rs K⟩ 10000 [.code r15_Recs.rc] ⟨params 0 xs, B, .nil⟩) : CallAt PT r15_Recs xs d B K :=
  call_of_awp 10000 Try.func46 rfl (by kernel_rfl) (by kernel_rfl) (by kernel_rfl) (by rw [hn]; decide) hB h

/-! gripsack/gripsackref1.MayRec -/
abbrev r1_MayRec : Nat := 47
def r1_MayRec.rc : RC :=
  (.seq (.reg [R.q 1 (.box (R.t 0)),
    R.q 2 (.mov R.ff)])
  (.seq (.reg [R.q 3 (.fld 0 (R.t 1)),
    R.q 4 (.load1 (R.t 3)),
    R.q 5 (.lenS (R.t 4)),
    R.q 6 (.bin .gtr .no (R.t 5) (R.i 0)),
    R.q 7 (.mov (R.t 6)),
    R.g 8 (.fld 0 (R.t 1)) 7 true,
    R.g 9 (.load1 (R.t 8)) 7 true,
    R.g 10 (.lenS (R.t 9)) 7 true,
    R.g 11 (.bin .leq .no (R.t 10) (R.i 255)) 7 true,
    R.q 12 (.pick (R.t 7) (R.t 11) R.ff),
    R.q 13 (.mov (R.t 12)),
    R.g 14 (.fld 0 (R.t 1)) 13 true,
    R.g 15 (.load1 (R.t 14)) 13 true,
    R.g 16 (.call 92 [(R.t 15), (R.u 0)]) 13 true,
    R.g 17 (.un .not (R.t 16)) 13 true,
    R.q 18 (.pick (R.t 13) (R.t 17) R.ff),
    R.q 19 (.mov (R.t 18)),
    R.g 20 (.fld 0 (R.t 1)) 19 true,
    R.g 21 (.load1 (R.t 20)) 19 true,
    R.g 22 (.call 92 [(R.t 21), (R.u 61)]) 19 true,
    R.g 23 (.un .not (R.t 22)) 19 true,
    R.q 24 (.pick (R.t 19) (R.t 23) R.ff),
    R.q 25 (.mov (R.t 24)),
    R.g 26 (.fld 1 (R.t 1)) 25 true,
    R.g 27 (.load1 (R.t 26)) 25 true,
    R.g 28 (.lenS (R.t 27)) 25 true,
    R.g 29 (.bin .leq .no (R.t 28) (R.i 65536)) 25 true,
    R.q 30 (.pick (R.t 25) (R.t 29) R.ff),
    R.q 31 (.mov (R.t 30)),
    R.g 32 (.loadA 2 (R.t 1)) 31 true,
    R.g 33 (.call 93 [(R.t 32)]) 31 true,
    R.g 34 (.lenS (R.t 33)) 31 true,
    R.g 35 (.bin .leq .no (R.t 34) (R.i 65536)) 31 true,
    R.q 36 (.pick (R.t 31) (R.t 35) R.ff),
    R.q 2 (.mov (R.t 36))])
  .ret))
def r1_MayRec.rs : List RRes := [.tmp 2]
theorem r1_MayRec.of {xs : List AV} {d : Nat} {B : BL} {K : ARes → BL → Prop} (hn : xs.length = 1) (hB : onlyOuter B = true) (h : awp ⟨PT, 37, exitX r1_MayRec.rs K⟩ 10000 [.code r1_MayRec.rc] ⟨params 0 xs, B, .nil⟩) : CallAt PT r1_MayRec xs d B K :=
  call_of_awp 10000 Try.func47 rfl (by kernel_rfl) (by kernel_rfl) (by kernel_rfl) (by rw [hn]; decide) hB h

/-! gripsack/gripsackref1.PutRec -/
abbrev r1_PutRec : Nat := 48
def r1_PutRec.rc : RC :=
  (.seq (.reg [R.q 1 (.box (R.t 0)),
    R.q 2 (.mov (.val (.str fun _ => [])))])
  (.seq (.seq (.reg [R.q 3 (.loadA 2 (R.t 1)),
    R.q 4 (.call 47 [(R.t 3)]),
    R.q 5 (.un .not (R.t 4))])
  (.cond (R.t 5)
    (.seq (.reg [R.q 2 (.mov (.val (.str fun _ => [])))])
    .ret)
    .skip))
  (.seq (.reg [R.q 6 (.loadA 2 (R.t 1)),
    R.q 7 (.call 93 [(R.t 6)]),
    R.q 2 (.mov (R.t 7))])
  .ret)))
def r1_PutRec.rs : List RRes := [.tmp 2]
theorem r1_PutRec.of {xs : List AV} {d : Nat} {B : BL} {K : ARes → BL → Prop} (hn : xs.length = 1) (hB : onlyOuter B = true) (h : awp ⟨PT, 8, exitX r1_PutRec.rs K⟩ 10000 [.code r1_PutRec.rc] ⟨params 0 xs, B, .nil⟩) : CallAt PT r1_PutRec xs d B K :=
  call_of_awp 10000 Try.func48 rfl (by kernel_rfl) (by kernel_rfl) (by kernel_rfl) (by rw [hn]; decide) hB h

/-! slices.DeleteFunc[[]int,int] -/
abbrev slices_DeleteFunc_int_int : Nat := 53
def slices_DeleteFunc_int_int.rc : RC :=
  (.seq (.reg [R.q 4 (.mov (.val .nsl))])
  (.seq (.reg [R.q 8 (.mov (R.t 0)),
    R.q 9 (.mov (R.t 1)),
    R.q 10 (.peek 101 [(R.t 8), (R.t 9)]),
    R.q 5 (.mov (R.t 10))])
  (.seq (.seq (.reg [R.q 11 (.mov (R.t 5)),
    R.q 12 (.bin .eql .no (R.t 11) (R.i (-1)))])
  (.cond (R.t 12)
    (.seq (.reg [R.q 13 (.mov (R.t 0)),
      R.q 4 (.mov (R.t 13))])
    .ret)
    .skip))
  (.seq (.seq (.reg [R.q 14 (.mov (R.t 5)),
    R.q 15 (.bin .add .no (R.t 14) (R.i 1)),
    R.q 6 (.mov (R.t 15))])
  (.block 0 (.loop
     (.seq (.seq (.reg [R.q 16 (.mov (R.t 6)),
       R.q 17 (.mov (R.t 0)),
       R.q 18 (.len (R.t 17)),
       R.q 19 (.bin .lss .no (R.t 16) (R.t 18))])
     (.cond (R.t 19)
       .skip
       (.exit 0)))
     (.seq (.block 1 (.seq (.reg [R.q 22 (.mov (R.t 0)),
        R.q 23 (.mov (R.t 6)),
        R.q 24 (.idx 1 (R.t 22) (R.t 23)),
        R.q 25 (.load1 (R.t 24)),
        R.q 7 (.mov (R.t 25))])
      (.seq (.reg [R.q 26 (.mov (R.t 1)),
        R.q 27 (.mov (R.t 7)),
        R.q 28 (.callv (R.t 26) [(R.t 27)]),
        R.q 29 (.un .not (R.t 28))])
      (.cond (R.t 29)
        (.seq (.reg [R.q 30 (.mov (R.t 0)),
          R.q 31 (.mov (R.t 5)),
          R.q 32 (.mov (R.t 7)),
          R.q 33 (.idx 1 (R.t 30) (R.t 31)),
          R.e (.store 1 (R.t 33) (R.t 32))])
        (.reg [R.q 34 (.mov (R.t 5)),
          R.q 35 (.bin .add .no (R.t 34) (R.i 1)),
          R.q 5 (.mov (R.t 35))]))
        .skip))))
     (.reg [R.q 20 (.mov (R.t 6)),
       R.q 21 (.bin .add .no (R.t 20) (R.i 1)),
       R.q 6 (.mov (R.t 21))]))))))
  (.seq (.reg [R.q 36 (.mov (R.t 0)),
    R.q 37 (.mov (R.t 5)),
    R.q 38 (.slice 1 (R.t 36) (some (R.t 37)) none),
    R.e (.clr 1 (.cons (R.z 0) .nil) (R.t 38))])
  (.seq (.reg [R.q 39 (.mov (R.t 0)),
    R.q 40 (.mov (R.t 5)),
    R.q 41 (.slice 1 (R.t 39) none (some (R.t 40))),
    R.q 4 (.mov (R.t 41))])
  .ret))))))
def slices_DeleteFunc_int_int.rs : List RRes := [.tmp 4]
theorem slices_DeleteFunc_int_int.of {xs : List AV} {d : Nat} {B : BL} {K : ARes → BL → Prop} (hn : xs.length = 2) (hB : onlyOuter B = true) (h : awp ⟨PT, 42, exitX slices_DeleteFunc_int_int.rs K⟩ 10000 [.code slices_DeleteFunc_int_int.rc] ⟨params 0 xs, B, .nil⟩) : CallAt PT slices_DeleteFunc_int_int xs d B K :=
  call_of_awp 10000 Try.func53 rfl (by kernel_rfl) (by kernel_rfl) (by kernel_rfl) (by rw [hn]; decide) hB h

/-! gripsack/plan.Attrs$1 -/
abbrev plan_Attrs_1 : Nat := 54
def plan_Attrs_1.rc : RC :=
  (.seq (.reg [R.q 3 (.mov R.ff)])
  (.seq (.reg [R.q 4 (.loadA 20 (R.t 1)),
    R.q 5 (.mov (R.t 0)),
    R.q 6 (.call 55 [(R.t 4), (R.t 5)]),
    R.q 7 (.un .not (R.t 6)),
    R.q 3 (.mov (R.t 7))])
  .ret))
def plan_Attrs_1.rs : List RRes := [.tmp 3]
theorem plan_Attrs_1.of {xs : List AV} {d : Nat} {B : BL} {K : ARes → BL → Prop} (hn : xs.length = 2) (hB : onlyOuter B = true) (h : awp ⟨PT, 8, exitX plan_Attrs_1.rs K⟩ 10000 [.code plan_Attrs_1.rc] ⟨params 0 xs, B, .nil⟩) : CallAt PT plan_Attrs_1 xs d B K :=
  call_of_awp 10000 Try.func54 rfl (by kernel_rfl) (by kernel_rfl) (by kernel_rfl) (by rw [hn]; decide) hB h

/-! gripsack/plan.has -/
abbrev plan_has : Nat := 55
def plan_has.rc : RC :=
  (.seq (.reg [R.q 2 (.box (R.t 0)),
    R.q 4 (.mov R.ff)])
  (.seq (.reg [R.q 6 (.fld 2 (R.t 2)),
    R.q 7 (.loadA 14 (R.t 6)),
    R.q 5 (.alloc (.cons (R.z 0) (.cons (R.z 0) (.cons (R.z 0) (.cons (R.z 0) (.cons (R.z 0) (.cons .nsl (.cons .nsl (.cons .nsl (.cons (R.z 0) (.cons (.int .u64 fun _ => 0) (.cons (.int .u64 fun _ => 0) (.cons .ff (.cons (R.z 0) (.cons (R.z 0) .nil))))))))))))))),
    R.e (.store 14 (R.t 5) (R.t 7))])
  (.seq (.seq (.reg [R.q 8 (.mov (R.t 1))])
  (.block 0 (.seq (.reg [R.q 10 (.bin .eql .no (R.t 8) (R.i 10)),
     R.q 9 (.mov (R.t 10))])
   (.cond (R.t 9)
     (.seq (.reg [R.q 11 (.fld 1 (R.t 2)),
       R.q 12 (.load1 (R.t 11)),
       R.q 13 (.bin .eql .no (R.t 12) (R.i 6)),
       R.q 4 (.mov (R.t 13))])
     .ret)
     (.seq (.reg [R.q 15 (.bin .eql .no (R.t 8) (R.i 3)),
       R.q 14 (.mov (R.t 15))])
     (.cond (R.t 14)
       (.seq (.reg [R.q 16 (.fld 1 (R.t 2)),
         R.q 17 (.load1 (R.t 16)),
         R.q 18 (.bin .neq .no (R.t 17) (R.i 3)),
         R.q 4 (.mov (R.t 18))])
       .ret)
       (.seq (.reg [R.q 20 (.bin .eql .no (R.t 8) (R.i 4)),
         R.q 19 (.mov (R.t 20))])
       (.cond (R.t 19)
         (.seq (.reg [R.q 21 (.fld 5 (R.t 5)),
           R.q 22 (.load1 (R.t 21)),
           R.q 23 (.len (R.t 22)),
           R.q 24 (.bin .gtr .no (R.t 23) (R.i 0)),
           R.q 4 (.mov (R.t 24))])
         .ret)
         (.seq (.reg [R.q 26 (.bin .eql .no (R.t 8) (R.i 5)),
           R.q 25 (.mov (R.t 26))])
         (.cond (R.t 25)
           (.seq (.reg [R.q 27 (.fld 6 (R.t 5)),
             R.q 28 (.load1 (R.t 27)),
             R.q 29 (.len (R.t 28)),
             R.q 30 (.bin .gtr .no (R.t 29) (R.i 0)),
             R.q 4 (.mov (R.t 30))])
           .ret)
           (.seq (.reg [R.q 32 (.bin .eql .no (R.t 8) (R.i 6)),
             R.q 31 (.mov (R.t 32))])
           (.cond (R.t 31)
             (.seq (.reg [R.q 33 (.fld 7 (R.t 5)),
               R.q 34 (.load1 (R.t 33)),
               R.q 35 (.len (R.t 34)),
               R.q 36 (.bin .gtr .no (R.t 35) (R.i 0)),
               R.q 4 (.mov (R.t 36))])
             .ret)
             (.seq (.reg [R.q 38 (.bin .eql .no (R.t 8) (R.i 7)),
               R.q 37 (.mov (R.t 38))])
             (.cond (R.t 37)
               (.seq (.reg [R.q 39 (.fld 8 (R.t 5)),
                 R.q 40 (.fld 0 (R.t 39)),
                 R.q 41 (.load1 (R.t 40)),
                 R.q 42 (.bin .neq .no (R.t 41) (R.i 0)),
                 R.q 4 (.mov (R.t 42))])
               .ret)
               (.seq (.reg [R.q 44 (.bin .eql .no (R.t 8) (R.i 9)),
                 R.q 43 (.mov (R.t 44))])
               (.cond (R.t 43)
                 (.seq (.reg [R.q 45 (.fld 13 (R.t 5)),
                   R.q 46 (.load1 (R.t 45)),
                   R.q 47 (.bin .neq .no (R.t 46) (R.i 0)),
                   R.q 4 (.mov (R.t 47))])
                 .ret)
                 .skip))))))))))))))))
  (.seq (.reg [R.q 4 (.mov R.tt)])
  .ret))))
def plan_has.rs : List RRes := [.tmp 4]
theorem plan_has.of {xs : List AV} {d : Nat} {B : BL} {K : ARes → BL → Prop} (hn : xs.length = 2) (hB : onlyOuter B = true) (h : awp ⟨PT, 48, exitX plan_has.rs K⟩ 10000 [.code plan_has.rc] ⟨params 0 xs, B, .nil⟩) : CallAt PT plan_has xs d B K :=
  call_of_awp 10000 Try.func55 rfl (by kernel_rfl) (by kernel_rfl) (by kernel_rfl) (by rw [hn]; decide) hB h

/-! gripsack/gripsacklaw13.Few -/
abbrev l13_Few : Nat := 76
def l13_Few.rc : RC :=
  (.seq (.reg [R.q 2 (.mov R.ff)])
  (.seq (.seq (.reg [R.q 3 (.mov (R.i 0))])
  (.block 0 (.loop
     (.seq (.seq (.reg [R.q 4 (.mov (R.t 3)),
       R.q 5 (.mov (R.t 0)),
       R.q 6 (.len (R.t 5)),
       R.q 7 (.bin .lss .no (R.t 4) (R.t 6)),
       R.q 8 (.mov (R.t 7)),
       R.g 9 (.mov (R.t 3)) 8 true,
       R.g 10 (.bin .lss .no (R.t 9) (R.i 40)) 8 true,
       R.q 11 (.pick (R.t 8) (R.t 10) R.ff)])
     (.cond (R.t 11)
       .skip
       (.exit 0)))
     (.seq (.block 1 (.seq (.reg [R.q 14 (.mov (R.t 0)),
        R.q 15 (.mov (R.t 3)),
        R.q 16 (.idx 2 (R.t 14) (R.t 15)),
        R.q 17 (.fld 0 (R.t 16)),
        R.q 18 (.load1 (R.t 17)),
        R.q 19 (.lenS (R.t 18)),
        R.q 20 (.bin .gtr .no (R.t 19) (R.i 400)),
        R.q 21 (.mov (R.t 20)),
        R.g 22 (.mov (R.t 0)) 21 false,
        R.g 23 (.mov (R.t 3)) 21 false,
        R.g 24 (.idx 2 (R.t 22) (R.t 23)) 21 false,
        R.g 25 (.fld 1 (R.t 24)) 21 false,
        R.g 26 (.load1 (R.t 25)) 21 false,
        R.g 27 (.lenS (R.t 26)) 21 false,
        R.g 28 (.bin .gtr .no (R.t 27) (R.i 5000)) 21 false,
        R.q 29 (.pick (R.t 21) R.tt (R.t 28))])
      (.cond (R.t 29)
        (.seq (.reg [R.q 2 (.mov R.ff)])
        .ret)
        .skip)))
     (.reg [R.q 12 (.mov (R.t 3)),
       R.q 13 (.bin .add .no (R.t 12) (R.i 1)),
       R.q 3 (.mov (R.t 13))]))))))
  (.seq (.reg [R.q 30 (.mov (R.t 0)),
    R.q 31 (.len (R.t 30)),
    R.q 32 (.bin .leq .no (R.t 31) (R.i 40)),
    R.q 2 (.mov (R.t 32))])
  .ret)))
def l13_Few.rs : List RRes := [.tmp 2]
theorem l13_Few.of {xs : List AV} {d : Nat} {B : BL} {K : ARes → BL → Prop} (hn : xs.length = 1) (hB : onlyOuter B = true) (h : awp ⟨PT, 33, exitX l13_Few.rs K⟩ 10000 [.code l13_Few.rc] ⟨params 0 xs, B, .nil⟩) : CallAt PT l13_Few xs d B K :=
  call_of_awp 10000 Try.func76 rfl (by kernel_rfl) (by kernel_rfl) (by kernel_rfl) (by rw [hn]; decide) hB h

/-! gripsack/gripsackref15.names -/
abbrev r15_names : Nat := 79
def r15_names.rc : RC :=
  (.seq (.reg [R.q 2 (.mov (.val .nsl))])
  (.seq (.reg [R.q 3 (.mov (.val .nsl))])
  (.seq (.reg [R.q 4 (.mov (R.i 0))])
  (.seq (.seq (.reg [R.q 5 (.mov (R.i 0))])
  (.block 0 (.loop
     (.seq (.seq (.reg [R.q 6 (.mov (R.t 5)),
       R.q 7 (.mov (R.t 0)),
       R.q 8 (.lenS (R.t 7)),
       R.q 9 (.bin .leq .no (R.t 6) (R.t 8))])
     (.cond (R.t 9)
       .skip
       (.exit 0)))
     (.seq (.block 1 (.seq (.reg [R.q 12 (.mov (R.t 5)),
        R.q 13 (.mov (R.t 0)),
        R.q 14 (.lenS (R.t 13)),
        R.q 15 (.bin .eql .no (R.t 12) (R.t 14)),
        R.q 16 (.mov (R.t 15)),
        R.g 17 (.mov (R.t 0)) 16 false,
        R.g 18 (.mov (R.t 5)) 16 false,
        R.g 19 (.idxS (R.t 17) (R.t 18)) 16 false,
        R.g 20 (.bin .eql .no (R.t 19) (R.u 47)) 16 false,
        R.q 21 (.pick (R.t 16) R.tt (R.t 20))])
      (.cond (R.t 21)
        (.seq (.reg [R.q 22 (.mov (R.t 3)),
          R.q 23 (.mov (R.t 0)),
          R.q 24 (.mov (R.t 4)),
          R.q 25 (.mov (R.t 5)),
          R.q 26 (.sliceS (R.t 23) (some (R.t 24)) (some (R.t 25))),
          R.q 27 (.bslice 1 (.cons (.str fun _ => []) .nil) 1 [(0, 1, (R.t 26))]),
          R.q 28 (.append 1 16 (R.t 22) (R.t 27)),
          R.q 3 (.mov (R.t 28))])
        (.reg [R.q 29 (.mov (R.t 5)),
          R.q 30 (.bin .add .no (R.t 29) (R.i 1)),
          R.q 4 (.mov (R.t 30))]))
        .skip)))
     (.reg [R.q 10 (.mov (R.t 5)),
       R.q 11 (.bin .add .no (R.t 10) (R.i 1)),
       R.q 5 (.mov (R.t 11))]))))))
  (.seq (.reg [R.q 31 (.mov (R.t 3)),
    R.q 2 (.mov (R.t 31))])
  .ret)))))
def r15_names.rs : List RRes := [.tmp 2]
theorem r15_names.of {xs : List AV} {d : Nat} {B : BL} {K : ARes → BL → Prop} (hn : xs.length = 1) (hB : onlyOuter B = true) (h : awp ⟨PT, 32, exitX r15_names.rs K⟩ 10000 [.code r15_names.rc] ⟨params 0 xs, B, .nil⟩) : CallAt PT r15_names xs d B K :=
  call_of_awp 10000 Try.func79 rfl (by kernel_rfl) (by kernel_rfl) (by kernel_rfl) (by rw [hn]; decide) hB h

/-! gripsack/gripsackref15.MayName -/
abbrev r15_MayName : Nat := 80
def r15_MayName.rc : RC :=
  (.seq (.reg [R.q 2 (.mov R.ff)])
  (.seq (.seq (.reg [R.q 4 (.mov (R.t 0)),
    R.q 5 (.lenS (R.t 4)),
    R.q 6 (.bin .eql .no (R.t 5) (R.i 0)),
    R.q 7 (.mov (R.t 6)),
    R.g 8 (.mov (R.t 0)) 7 false,
    R.g 9 (.lenS (R.t 8)) 7 false,
    R.g 10 (.bin .gtr .no (R.t 9) (R.i 255)) 7 false,
    R.q 11 (.pick (R.t 7) R.tt (R.t 10)),
    R.q 12 (.mov (R.t 11)),
    R.g 13 (.mov (R.t 0)) 12 false,
    R.g 14 (.bin .eql .no (R.t 13) (.val (.str fun _ => [46]))) 12 false,
    R.q 15 (.pick (R.t 12) R.tt (R.t 14)),
    R.q 16 (.mov (R.t 15)),
    R.g 17 (.mov (R.t 0)) 16 false,
    R.g 18 (.bin .eql .no (R.t 17) (.val (.str fun _ => [46, 46]))) 16 false,
    R.q 19 (.pick (R.t 16) R.tt (R.t 18))])
  (.cond (R.t 19)
    (.seq (.reg [R.q 2 (.mov R.ff)])
    .ret)
    .skip))
  (.seq (.seq (.reg [R.q 3 (.mov (R.i 0))])
  (.block 0 (.loop
     (.seq (.seq (.reg [R.q 20 (.mov (R.t 3)),
       R.q 21 (.mov (R.t 0)),
       R.q 22 (.lenS (R.t 21)),
       R.q 23 (.bin .lss .no (R.t 20) (R.t 22))])
     (.cond (R.t 23)
       .skip
       (.exit 0)))
     (.seq (.block 1 (.seq (.reg [R.q 26 (.mov (R.t 0)),
        R.q 27 (.mov (R.t 3)),
        R.q 28 (.idxS (R.t 26) (R.t 27)),
        R.q 29 (.bin .eql .no (R.t 28) (R.u 0)),
        R.q 30 (.mov (R.t 29)),
        R.g 31 (.mov (R.t 0)) 30 false,
        R.g 32 (.mov (R.t 3)) 30 false,
        R.g 33 (.idxS (R.t 31) (R.t 32)) 30 false,
        R.g 34 (.bin .eql .no (R.t 33) (R.u 47)) 30 false,
        R.q 35 (.pick (R.t 30) R.tt (R.t 34))])
      (.cond (R.t 35)
        (.seq (.reg [R.q 2 (.mov R.ff)])
        .ret)
        .skip)))
     (.reg [R.q 24 (.mov (R.t 3)),
       R.q 25 (.bin .add .no (R.t 24) (R.i 1)),
       R.q 3 (.mov (R.t 25))]))))))
  (.seq (.reg [R.q 2 (.mov R.tt)])
  .ret))))
def r15_MayName.rs : List RRes := [.tmp 2]
theorem r15_MayName.of {xs : List AV} {d : Nat} {B : BL} {K : ARes → BL → Prop} (hn : xs.length = 1) (hB : onlyOuter B = true) (h : awp ⟨PT, 36, exitX r15_MayName.rs K⟩ 10000 [.code r15_MayName.rc] ⟨params 0 xs, B, .nil⟩) : CallAt PT r15_MayName xs d B K :=
  call_of_awp 10000 Try.func80 rfl (by kernel_rfl) (by kernel_rfl) (by kernel_rfl) (by rw [hn]; decide) hB h

/-! gripsack/gripsackref15.device -/
abbrev r15_device : Nat := 81
def r15_device.rc : RC :=
  (.seq (.reg [R.q 2 (.mov R.ff)])
  (.seq (.reg [R.q 3 (.mov (R.t 0)),
    R.q 4 (.bin .eql .no (R.t 3) (R.i 4)),
    R.q 5 (.mov (R.t 4)),
    R.g 6 (.mov (R.t 0)) 5 false,
    R.g 7 (.bin .eql .no (R.t 6) (R.i 5)) 5 false,
    R.q 8 (.pick (R.t 5) R.tt (R.t 7)),
    R.q 2 (.mov (R.t 8))])
  .ret))
def r15_device.rs : List RRes := [.tmp 2]
theorem r15_device.of {xs : List AV} {d : Nat} {B : BL} {K : ARes → BL → Prop} (hn : xs.length = 1) (hB : onlyOuter B = true) (h : awp ⟨PT, 9, exitX r15_device.rs K⟩ 10000 [.code r15_device.rc] ⟨params 0 xs, B, .nil⟩) : CallAt PT r15_device xs d B K :=
  call_of_awp 10000 Try.func81 rfl (by kernel_rfl) (by kernel_rfl) (by kernel_rfl) (by rw [hn]; decide) hB h

/-! gripsack/gripsackref1.Split -/
abbrev r1_Split : Nat := 82
def r1_Split.rc : RC :=
  (.seq (.reg [R.q 2 (.alloc (.cons (.str fun _ => []) (.cons (.str fun _ => []) (.cons .ff .nil))))])
  (.seq (.seq (.reg [R.q 4 (.mov (R.t 0)),
    R.q 5 (.lenS (R.t 4)),
    R.q 6 (.bin .leq .no (R.t 5) (R.i 100))])
  (.cond (R.t 6)
    (.seq (.reg [R.q 7 (.mov (R.t 0)),
      R.q 8 (.build (.cons (.str fun _ => []) (.cons (.str fun _ => []) (.cons .ff .nil))) [(1, 1, (R.t 7)), (2, 1, R.tt)]),
      R.e (.store 3 (R.t 2) (R.t 8))])
    .ret)
    .skip))
  (.seq (.seq (.reg [R.q 3 (.mov (R.i 0))])
  (.block 0 (.loop
     (.seq (.seq (.reg [R.q 9 (.mov (R.t 3)),
       R.q 10 (.bin .add .no (R.t 9) (R.i 1)),
       R.q 11 (.mov (R.t 0)),
       R.q 12 (.lenS (R.t 11)),
       R.q 13 (.bin .lss .no (R.t 10) (R.t 12))])
     (.cond (R.t 13)
       .skip
       (.exit 0)))
     (.seq (.block 1 (.seq (.reg [R.q 16 (.mov (R.t 0)),
        R.q 17 (.mov (R.t 3)),
        R.q 18 (.idxS (R.t 16) (R.t 17)),
        R.q 19 (.bin .eql .no (R.t 18) (R.u 47)),
        R.q 20 (.mov (R.t 19)),
        R.g 21 (.mov (R.t 0)) 20 true,
        R.g 22 (.lenS (R.t 21)) 20 true,
        R.g 23 (.mov (R.t 3)) 20 true,
        R.g 24 (.bin .sub .no (R.t 22) (R.t 23)) 20 true,
        R.g 25 (.bin .sub .no (R.t 24) (R.i 1)) 20 true,
        R.g 26 (.bin .leq .no (R.t 25) (R.i 100)) 20 true,
        R.q 27 (.pick (R.t 20) (R.t 26) R.ff)])
      (.cond (R.t 27)
        (.seq (.seq (.reg [R.q 28 (.mov (R.t 3)),
          R.q 29 (.bin .eql .no (R.t 28) (R.i 0)),
          R.q 30 (.mov (R.t 29)),
          R.g 31 (.mov (R.t 3)) 30 false,
          R.g 32 (.bin .gtr .no (R.t 31) (R.i 155)) 30 false,
          R.q 33 (.pick (R.t 30) R.tt (R.t 32))])
        (.cond (R.t 33)
          (.seq (.reg [R.q 34 (.build (.cons (.str fun _ => []) (.cons (.str fun _ => []) (.cons .ff .nil))) []),
            R.e (.store 3 (R.t 2) (R.t 34))])
          .ret)
          .skip))
        (.seq (.regd [R.f (R.q 35 (.mov (R.t 0))),
          R.f (R.q 36 (.mov (R.t 3))),
          R.f (R.q 37 (.sliceS (R.t 35) none (some (R.t 36)))),
          R.f (R.q 38 (.mov (R.t 0))),
          R.f (R.q 39 (.mov (R.t 3))),
          R.f (R.q 40 (.bin .add .no (R.t 39) (R.i 1))),
          R.f (R.q 41 (.sliceS (R.t 38) (some (R.t 40)) none)),
          R.f (R.q 42 (.build (.cons (.str fun _ => []) (.cons (.str fun _ => []) (.cons .ff .nil))) [(0, 1, (R.t 37)), (1, 1, (R.t 41)), (2, 1, R.tt)])),
          R.s (R.e (.store 3 (R.t 2) (R.t 42))) []])
        .ret))
        .skip)))
     (.reg [R.q 14 (.mov (R.t 3)),
       R.q 15 (.bin .add .no (R.t 14) (R.i 1)),
       R.q 3 (.mov (R.t 15))]))))))
  (.seq (.reg [R.q 43 (.build (.cons (.str fun _ => []) (.cons (.str fun _ => []) (.cons .ff .nil))) []),
    R.e (.store 3 (R.t 2) (R.t 43))])
  .ret))))
def r1_Split.rs : List RRes := [.cellA 2 3]
theorem r1_Split.of {xs : List AV} {d : Nat} {B : BL} {K : ARes → BL → Prop} (hn : xs.length = 1) (hB : onlyOuter B = true) (h : awp ⟨PT, 44, exitX r1_Split.rs K⟩ 10000 [.code r1_Split.rc] ⟨params 0 xs, B, .nil⟩) : CallAt PT r1_Split xs d B K :=
  call_of_awp 10000 Try.func82 rfl (by kernel_rfl) (by kernel_rfl) (by kernel_rfl) (by rw [hn]; decide) hB h

/-! gripsack/gripsackref1.Valid -/
abbrev r1_Valid : Nat := 83
def r1_Valid.rc : RC :=
  (.seq (.reg [R.q 2 (.mov R.ff)])
  (.seq (.reg [R.q 3 (.mov (R.t 0)),
    R.q 4 (.call 118 [(R.t 3)]),
    R.q 5 (.bin .lss .no (R.t 4) (R.i 0)),
    R.q 2 (.mov (R.t 5))])
  .ret))
def r1_Valid.rs : List RRes := [.tmp 2]
theorem r1_Valid.of {xs : List AV} {d : Nat} {B : BL} {K : ARes → BL → Prop} (hn : xs.length = 1) (hB : onlyOuter B = true) (h : awp ⟨PT, 6, exitX r1_Valid.rs K⟩ 10000 [.code r1_Valid.rc] ⟨params 0 xs, B, .nil⟩) : CallAt PT r1_Valid xs d B K :=
  call_of_awp 10000 Try.func83 rfl (by kernel_rfl) (by kernel_rfl) (by kernel_rfl) (by rw [hn]; decide) hB h

/-! gripsack/gripsackref1.Digits -/
abbrev r1_Digits : Nat := 84
def r1_Digits.rc : RC :=
  (.seq (.reg [R.q 2 (.mov (.val (.str fun _ => [])))])
  (.seq (.reg [R.q 3 (.mov (.val (.str fun _ => [])))])
  (.seq (.block 0 (.loop
     (.seq (.seq (.reg [R.q 4 (.mov (R.t 0)),
       R.q 5 (.bin .geq .no (R.t 4) (R.i 10))])
     (.cond (R.t 5)
       .skip
       (.exit 0)))
     (.block 1 (.seq (.reg [R.q 6 (.mov (R.t 0)),
        R.q 7 (.bin .rem .no (R.t 6) (R.i 10)),
        R.q 8 (.bin .add .no (R.i 48) (R.t 7)),
        R.q 9 (.conv .u8 (R.t 8)),
        R.q 10 (.bslice 1 (.cons (.int .u8 fun _ => 0) .nil) 1 [(0, 1, (R.t 9))]),
        R.q 11 (.b2s (R.t 10)),
        R.q 12 (.mov (R.t 3)),
        R.q 13 (.bin .add .no (R.t 11) (R.t 12)),
        R.q 3 (.mov (R.t 13))])
      (.reg [R.q 14 (.mov (R.t 0)),
        R.q 15 (.bin .quo .no (R.t 14) (R.i 10)),
        R.q 0 (.mov (R.t 15))]))))))
  (.seq (.reg [R.q 16 (.mov (R.t 0)),
    R.q 17 (.bin .add .no (R.i 48) (R.t 16)),
    R.q 18 (.conv .u8 (R.t 17)),
    R.q 19 (.bslice 1 (.cons (.int .u8 fun _ => 0) .nil) 1 [(0, 1, (R.t 18))]),
    R.q 20 (.b2s (R.t 19)),
    R.q 21 (.mov (R.t 3)),
    R.q 22 (.bin .add .no (R.t 20) (R.t 21)),
    R.q 2 (.mov (R.t 22))])
  .ret))))
def r1_Digits.rs : List RRes := [.tmp 2]
theorem r1_Digits.of {xs : List AV} {d : Nat} {B : BL} {K : ARes → BL → Prop} (hn : xs.length = 1) (hB : onlyOuter B = true) (h : awp ⟨PT, 23, exitX r1_Digits.rs K⟩ 10000 [.code r1_Digits.rc] ⟨params 0 xs, B, .nil⟩) : CallAt PT r1_Digits xs d B K :=
  call_of_awp 10000 Try.func84 rfl (by kernel_rfl) (by kernel_rfl) (by kernel_rfl) (by rw [hn]; decide) hB h

/-! gripsack/gripsackref15.long -/
abbrev r15_long : Nat := 85
def r15_long.rc : RC :=
  (.seq (.reg [R.q 1 (.box (R.t 0)),
    R.q 2 (.mov R.ff)])
  (.seq (.reg [R.q 3 (.fld 1 (R.t 1)),
    R.q 4 (.load1 (R.t 3)),
    R.q 5 (.bin .neq .no (R.t 4) (R.i 0)),
    R.q 6 (.mov (R.t 5)),
    R.g 7 (.fld 0 (R.t 1)) 6 false,
    R.g 8 (.load1 (R.t 7)) 6 false,
    R.g 9 (.bin .lss .no (R.t 8) (R.i 0)) 6 false,
    R.q 10 (.pick (R.t 6) R.tt (R.t 9)),
    R.q 11 (.mov (R.t 10)),
    R.g 12 (.fld 0 (R.t 1)) 11 false,
    R.g 13 (.load1 (R.t 12)) 11 false,
    R.g 14 (.bin .geq .no (R.t 13) (R.i 8589934592)) 11 false,
    R.q 15 (.pick (R.t 11) R.tt (R.t 14)),
    R.q 2 (.mov (R.t 15))])
  .ret))
def r15_long.rs : List RRes := [.tmp 2]
theorem r15_long.of {xs : List AV} {d : Nat} {B : BL} {K : ARes → BL → Prop} (hn : xs.length = 1) (hB : onlyOuter B = true) (h : awp ⟨PT, 16, exitX r15_long.rs K⟩ 10000 [.code r15_long.rc] ⟨params 0 xs, B, .nil⟩) : CallAt PT r15_long xs d B K :=
  call_of_awp 10000 Try.func85 rfl (by kernel_rfl) (by kernel_rfl) (by kernel_rfl) (by rw [hn]; decide) hB h

/-! gripsack/gripsackref1.TextStamp -/
abbrev r1_TextStamp : Nat := 86
def r1_TextStamp.rc : RC :=
  (.seq (.reg [R.q 1 (.box (R.t 0)),
    R.q 2 (.mov (.val (.str fun _ => [])))])
  (.seq (.regd [R.f (R.q 8 (.fld 0 (R.t 1))),
    R.f (R.q 9 (.load1 (R.t 8))),
    R.f (R.q 10 (.fld 1 (R.t 1))),
    R.f (R.q 11 (.load1 (R.t 10))),
    R.s (R.q 3 (.mov (.val (.str fun _ => [])))) [0, 1, 2, 3],
    R.s (R.q 4 (.mov (R.t 9))) [2, 3],
    R.s (R.q 5 (.mov (R.t 11))) []])
  (.seq (.seq (.reg [R.q 12 (.mov (R.t 4)),
    R.q 13 (.bin .lss .no (R.t 12) (R.i 0))])
  (.cond (R.t 13)
    (.seq (.reg [R.q 3 (.mov (.val (.str fun _ => [45])))])
    (.seq (.reg [R.q 14 (.mov (R.t 4)),
      R.q 15 (.un .neg (R.t 14)),
      R.q 4 (.mov (R.t 15))])
    (.seq (.reg [R.q 16 (.mov (R.t 5)),
      R.q 17 (.bin .gtr .no (R.t 16) (R.i 0))])
    (.cond (R.t 17)
      (.seq (.reg [R.q 18 (.mov (R.t 4)),
        R.q 19 (.bin .sub .no (R.t 18) (R.i 1)),
        R.q 4 (.mov (R.t 19))])
      (.reg [R.q 20 (.mov (R.t 5)),
        R.q 21 (.bin .sub .no (R.i 1000000000) (R.t 20)),
        R.q 5 (.mov (R.t 21))]))
      .skip))))
    .skip))
  (.seq (.reg [R.q 22 (.mov (R.t 3)),
    R.q 23 (.mov (R.t 4)),
    R.q 24 (.call 84 [(R.t 23)]),
    R.q 25 (.bin .add .no (R.t 22) (R.t 24)),
    R.q 6 (.mov (R.t 25))])
  (.seq (.seq (.reg [R.q 26 (.mov (R.t 5)),
    R.q 27 (.bin .eql .no (R.t 26) (R.i 0))])
  (.cond (R.t 27)
    (.seq (.reg [R.q 28 (.mov (R.t 6)),
      R.q 2 (.mov (R.t 28))])
    .ret)
    .skip))
  (.seq (.reg [R.q 29 (.mov (R.t 5)),
    R.q 30 (.bin .add .no (R.i 1000000000) (R.t 29)),
    R.q 31 (.call 84 [(R.t 30)]),
    R.q 32 (.sliceS (R.t 31) (some (R.i 1)) none),
    R.q 7 (.mov (R.t 32))])
  (.seq (.block 0 (.loop
     (.seq (.seq (.reg [R.q 33 (.mov (R.t 7)),
       R.q 34 (.mov (R.t 7)),
       R.q 35 (.lenS (R.t 34)),
       R.q 36 (.bin .sub .no (R.t 35) (R.i 1)),
       R.q 37 (.idxS (R.t 33) (R.t 36)),
       R.q 38 (.bin .eql .no (R.t 37) (R.u 48))])
     (.cond (R.t 38)
       .skip
       (.exit 0)))
     (.block 1 (.reg [R.q 39 (.mov (R.t 7)),
        R.q 40 (.mov (R.t 7)),
        R.q 41 (.lenS (R.t 40)),
        R.q 42 (.bin .sub .no (R.t 41) (R.i 1)),
        R.q 43 (.sliceS (R.t 39) none (some (R.t 42))),
        R.q 7 (.mov (R.t 43))])))))
  (.seq (.reg [R.q 44 (.mov (R.t 6)),
    R.q 45 (.bin .add .no (R.t 44) (.val (.str fun _ => [46]))),
    R.q 46 (.mov (R.t 7)),
    R.q 47 (.bin .add .no (R.t 45) (R.t 46)),
    R.q 2 (.mov (R.t 47))])
  .ret))))))))
def r1_TextStamp.rs : List RRes := [.tmp 2]
theorem r1_TextStamp.of {xs : List AV} {d : Nat} {B : BL} {K : ARes → BL → Prop} (hn : xs.length = 1) (hB : onlyOuter B = true) (h : awp ⟨PT, 48, exitX r1_TextStamp.rs K⟩ 10000 [.code r1_TextStamp.rc] ⟨params 0 xs, B, .nil⟩) : CallAt PT r1_TextStamp xs d B K :=
  call_of_awp 10000 Try.func86 rfl (by kernel_rfl) (by kernel_rfl) (by kernel_rfl) (by rw [hn]; decide) hB h

/-! gripsack/gripsackref9.TextAcl -/
abbrev r9_TextAcl : Nat := 87
def r9_TextAcl.rc : RC :=
  (.seq (.reg [R.q 2 (.mov (.val (.str fun _ => [])))])
  (.seq (.reg [R.q 3 (.mov (.val (.str fun _ => [])))])
  (.seq (.seq (.reg [R.q 4 (.mov (R.i 0))])
  (.block 0 (.loop
     (.seq (.seq (.reg [R.q 6 (.mov (R.t 4)),
       R.q 7 (.mov (R.t 0)),
       R.q 8 (.len (R.t 7)),
       R.q 9 (.bin .lss .no (R.t 6) (R.t 8))])
     (.cond (R.t 9)
       .skip
       (.exit 0)))
     (.seq (.block 1 (.seq (.reg [R.q 12 (.mov (R.t 0)),
        R.q 13 (.mov (R.t 4)),
        R.q 14 (.idx 3 (R.t 12) (R.t 13)),
        R.q 15 (.loadA 3 (R.t 14)),
        R.q 5 (.alloc (.cons (R.z 0) (.cons (R.z 0) (.cons (R.z 0) .nil)))),
        R.e (.store 3 (R.t 5) (R.t 15))])
      (.seq (.seq (.reg [R.q 16 (.mov (R.t 4)),
        R.q 17 (.bin .gtr .no (R.t 16) (R.i 0))])
      (.cond (R.t 17)
        (.reg [R.q 18 (.mov (R.t 3)),
          R.q 19 (.bin .add .no (R.t 18) (.val (.str fun _ => [44]))),
          R.q 3 (.mov (R.t 19))])
        .skip))
      (.seq (.reg [R.q 20 (.mov (R.t 3)),
        R.q 21 (.bslice 1 (.cons (.str fun _ => []) .nil) 7 [(0, 1, (.val (.str fun _ => []))), (1, 1, (.val (.str fun _ => [117]))), (2, 1, (.val (.str fun _ => [117]))), (3, 1, (.val (.str fun _ => [103]))), (4, 1, (.val (.str fun _ => [103]))), (5, 1, (.val (.str fun _ => [109]))), (6, 1, (.val (.str fun _ => [111])))]),
        R.q 22 (.fld 0 (R.t 5)),
        R.q 23 (.load1 (R.t 22)),
        R.q 24 (.idx 1 (R.t 21) (R.t 23)),
        R.q 25 (.load1 (R.t 24)),
        R.q 26 (.bin .add .no (R.t 20) (R.t 25)),
        R.q 27 (.bin .add .no (R.t 26) (.val (.str fun _ => [58]))),
        R.q 3 (.mov (R.t 27))])
      (.seq (.seq (.reg [R.q 28 (.loadA 3 (R.t 5)),
        R.q 29 (.call 107 [(R.t 28)])])
      (.cond (R.t 29)
        (.reg [R.q 30 (.mov (R.t 3)),
          R.q 31 (.fld 1 (R.t 5)),
          R.q 32 (.load1 (R.t 31)),
          R.q 33 (.call 84 [(R.t 32)]),
          R.q 34 (.bin .add .no (R.t 30) (R.t 33)),
          R.q 3 (.mov (R.t 34))])
        .skip))
      (.reg [R.q 35 (.mov (R.t 3)),
        R.q 36 (.bin .add .no (R.t 35) (.val (.str fun _ => [58]))),
        R.q 37 (.fld 2 (R.t 5)),
        R.q 38 (.load1 (R.t 37)),
        R.q 39 (.call 119 [(R.t 38)]),
        R.q 40 (.bin .add .no (R.t 36) (R.t 39)),
        R.q 3 (.mov (R.t 40))]))))))
     (.reg [R.q 10 (.mov (R.t 4)),
       R.q 11 (.bin .add .no (R.t 10) (R.i 1)),
       R.q 4 (.mov (R.t 11))]))))))
  (.seq (.reg [R.q 41 (.mov (R.t 3)),
    R.q 2 (.mov (R.t 41))])
  .ret))))
def r9_TextAcl.rs : List RRes := [.tmp 2]
theorem r9_TextAcl.of {xs : List AV} {d : Nat} {B : BL} {K : ARes → BL → Prop} (hn : xs.length = 1) (hB : onlyOuter B = true) (h : awp ⟨PT, 42, exitX r9_TextAcl.rs K⟩ 10000 [.code r9_TextAcl.rc] ⟨params 0 xs, B, .nil⟩) : CallAt PT r9_TextAcl xs d B K :=
  call_of_awp 10000 Try.func87 rfl (by kernel_rfl) (by kernel_rfl) (by kernel_rfl) (by rw [hn]; decide) hB h

/-! gripsack/gripsackref9.TextFlags -/
abbrev r9_TextFlags : Nat := 88
def r9_TextFlags.rc : RC :=
  (.seq (.reg [R.q 2 (.mov (.val (.str fun _ => [])))])
  (.seq (.seq (.reg [R.q 6 (.mov (R.t 0)),
    R.q 7 (.call 66 [(R.t 6)]),
    R.q 8 (.un .not (R.t 7))])
  (.cond (R.t 8)
    (.seq (.reg [R.q 2 (.mov (.val (.str fun _ => [])))])
    .ret)
    .skip))
  (.seq (.reg [R.q 3 (.mov (.val (.str fun _ => [])))])
  (.seq (.reg [R.q 9 (.bslice 1 (.cons (.str fun _ => []) .nil) 4 [(0, 1, (.val (.str fun _ => [117, 99, 104, 103]))), (1, 1, (.val (.str fun _ => [117, 97, 112, 112, 110, 100]))), (2, 1, (.val (.str fun _ => [110, 111, 100, 117, 109, 112]))), (3, 1, (.val (.str fun _ => [111, 112, 97, 113, 117, 101])))]),
    R.q 4 (.mov (R.t 9))])
  (.seq (.seq (.reg [R.q 5 (.mov (R.i 0))])
  (.block 0 (.loop
     (.seq (.seq (.reg [R.q 10 (.mov (R.t 5)),
       R.q 11 (.bin .lss .no (R.t 10) (R.i 4))])
     (.cond (R.t 11)
       .skip
       (.exit 0)))
     (.seq (.block 1 (.seq (.reg [R.q 14 (.mov (R.t 0)),
        R.q 15 (.mov (R.t 5)),
        R.q 16 (.bin .shr .no (R.t 14) (R.t 15)),
        R.q 17 (.bin .and .no (R.t 16) (R.i 1)),
        R.q 18 (.bin .eql .no (R.t 17) (R.i 1))])
      (.cond (R.t 18)
        (.seq (.seq (.reg [R.q 19 (.mov (R.t 3)),
          R.q 20 (.bin .neq .no (R.t 19) (.val (.str fun _ => [])))])
        (.cond (R.t 20)
          (.reg [R.q 21 (.mov (R.t 3)),
            R.q 22 (.bin .add .no (R.t 21) (.val (.str fun _ => [44]))),
            R.q 3 (.mov (R.t 22))])
          .skip))
        (.reg [R.q 23 (.mov (R.t 3)),
          R.q 24 (.mov (R.t 4)),
          R.q 25 (.mov (R.t 5)),
          R.q 26 (.idx 1 (R.t 24) (R.t 25)),
          R.q 27 (.load1 (R.t 26)),
          R.q 28 (.bin .add .no (R.t 23) (R.t 27)),
          R.q 3 (.mov (R.t 28))]))
        .skip)))
     (.reg [R.q 12 (.mov (R.t 5)),
       R.q 13 (.bin .add .no (R.t 12) (R.i 1)),
       R.q 5 (.mov (R.t 13))]))))))
  (.seq (.reg [R.q 29 (.mov (R.t 3)),
    R.q 2 (.mov (R.t 29))])
  .ret))))))
def r9_TextFlags.rs : List RRes := [.tmp 2]
theorem r9_TextFlags.of {xs : List AV} {d : Nat} {B : BL} {K : ARes → BL → Prop} (hn : xs.length = 1) (hB : onlyOuter B = true) (h : awp ⟨PT, 30, exitX r9_TextFlags.rs K⟩ 10000 [.code r9_TextFlags.rc] ⟨params 0 xs, B, .nil⟩) : CallAt PT r9_TextFlags xs d B K :=
  call_of_awp 10000 Try.func88 rfl (by kernel_rfl) (by kernel_rfl) (by kernel_rfl) (by rw [hn]; decide) hB h

/-! gripsack/gripsackref1.Sixty -/
abbrev r1_Sixty : Nat := 89
def r1_Sixty.rc : RC :=
  (.seq (.reg [R.q 2 (.mov (.val (.str fun _ => [])))])
  (.seq (.reg [R.q 10 (.call 120 []),
    R.q 3 (.mov (R.t 10))])
  (.seq (.reg [R.q 4 (.mov (.val .nsl))])
  (.seq (.seq (.reg [R.q 5 (.mov (R.i 0))])
  (.block 0 (.loop
     (.seq (.seq (.reg [R.q 11 (.mov (R.t 5)),
       R.q 12 (.mov (R.t 0)),
       R.q 13 (.lenS (R.t 12)),
       R.q 14 (.bin .lss .no (R.t 11) (R.t 13))])
     (.cond (R.t 14)
       .skip
       (.exit 0)))
     (.seq (.block 1 (.seq (.reg [R.q 17 (.mov (R.t 0)),
        R.q 18 (.lenS (R.t 17)),
        R.q 19 (.mov (R.t 5)),
        R.q 20 (.bin .sub .no (R.t 18) (R.t 19)),
        R.q 21 (.mm false [(R.i 3), (R.t 20)]),
        R.q 6 (.mov (R.i 0)),
        R.q 7 (.mov (R.t 21))])
      (.seq (.seq (.reg [R.q 8 (.mov (R.i 0))])
      (.block 2 (.loop
         (.seq (.seq (.reg [R.q 22 (.mov (R.t 8)),
           R.q 23 (.bin .lss .no (R.t 22) (R.i 3))])
         (.cond (R.t 23)
           .skip
           (.exit 2)))
         (.seq (.block 3 (.seq (.reg [R.q 26 (.mov (R.t 6)),
            R.q 27 (.bin .shl .no (R.t 26) (.val (.int .u64 fun _ => 8))),
            R.q 6 (.mov (R.t 27))])
          (.seq (.reg [R.q 28 (.mov (R.t 8)),
            R.q 29 (.mov (R.t 7)),
            R.q 30 (.bin .lss .no (R.t 28) (R.t 29))])
          (.cond (R.t 30)
            (.reg [R.q 31 (.mov (R.t 6)),
              R.q 32 (.mov (R.t 0)),
              R.q 33 (.mov (R.t 5)),
              R.q 34 (.mov (R.t 8)),
              R.q 35 (.bin .add .no (R.t 33) (R.t 34)),
              R.q 36 (.idxS (R.t 32) (R.t 35)),
              R.q 37 (.conv .i64 (R.t 36)),
              R.q 38 (.bin .or .no (R.t 31) (R.t 37)),
              R.q 6 (.mov (R.t 38))])
            .skip))))
         (.reg [R.q 24 (.mov (R.t 8)),
           R.q 25 (.bin .add .no (R.t 24) (R.i 1)),
           R.q 8 (.mov (R.t 25))]))))))
      (.seq (.reg [R.q 9 (.mov (R.i 0))])
      (.block 4 (.loop
         (.seq (.seq (.reg [R.q 39 (.mov (R.t 9)),
           R.q 40 (.bin .lss .no (R.t 39) (R.i 4))])
         (.cond (R.t 40)
           .skip
           (.exit 4)))
         (.seq (.block 5 (.seq (.reg [R.q 43 (.mov (R.t 9)),
            R.q 44 (.mov (R.t 7)),
            R.q 45 (.bin .leq .no (R.t 43) (R.t 44))])
          (.cond (R.t 45)
            (.reg [R.q 46 (.mov (R.t 4)),
              R.q 47 (.mov (R.t 3)),
              R.q 48 (.mov (R.t 6)),
              R.q 49 (.mov (R.t 9)),
              R.q 50 (.bin .mul .no (R.i 6) (R.t 49)),
              R.q 51 (.bin .sub .no (R.i 18) (R.t 50)),
              R.q 52 (.bin .shr .no (R.t 48) (R.t 51)),
              R.q 53 (.bin .and .no (R.t 52) (R.i 63)),
              R.q 54 (.idxS (R.t 47) (R.t 53)),
              R.q 55 (.bslice 1 (.cons (.int .u8 fun _ => 0) .nil) 1 [(0, 1, (R.t 54))]),
              R.q 56 (.append 1 1 (R.t 46) (R.t 55)),
              R.q 4 (.mov (R.t 56))])
            (.reg [R.q 57 (.mov (R.t 4)),
              R.q 58 (.bslice 1 (.cons (.int .u8 fun _ => 0) .nil) 1 [(0, 1, (R.u 61))]),
              R.q 59 (.append 1 1 (R.t 57) (R.t 58)),
              R.q 4 (.mov (R.t 59))]))))
         (.reg [R.q 41 (.mov (R.t 9)),
           R.q 42 (.bin .add .no (R.t 41) (R.i 1)),
           R.q 9 (.mov (R.t 42))])))))))))
     (.reg [R.q 15 (.mov (R.t 5)),
       R.q 16 (.bin .add .no (R.t 15) (R.i 3)),
       R.q 5 (.mov (R.t 16))]))))))
  (.seq (.reg [R.q 60 (.mov (R.t 4)),
    R.q 61 (.b2s (R.t 60)),
    R.q 2 (.mov (R.t 61))])
  .ret)))))
def r1_Sixty.rs : List RRes := [.tmp 2]
theorem r1_Sixty.of {xs : List AV} {d : Nat} {B : BL} {K : ARes → BL → Prop} (hn : xs.length = 1) (hB : onlyOuter B = true) (h : awp ⟨PT, 62, exitX r1_Sixty.rs K⟩ 10000 [.code r1_Sixty.rc] ⟨params 0 xs, B, .nil⟩) : CallAt PT r1_Sixty xs d B K :=
  call_of_awp 10000 Try.func89 rfl (by kernel_rfl) (by kernel_rfl) (by kernel_rfl) (by rw [hn]; decide) hB h

/-! gripsack/gripsackref9.PutCaps -/
abbrev r9_PutCaps : Nat := 90
def r9_PutCaps.rc : RC :=
  (.seq (.reg [R.q 1 (.box (R.t 0)),
    R.q 2 (.mov (.val (.str fun _ => [])))])
  (.seq (.seq (.reg [R.q 5 (.loadA 5 (R.t 1)),
    R.q 6 (.call 70 [(R.t 5)]),
    R.q 7 (.un .not (R.t 6)),
    R.q 8 (.mov (R.t 7)),
    R.g 9 (.fld 0 (R.t 1)) 8 false,
    R.g 10 (.load1 (R.t 9)) 8 false,
    R.g 11 (.bin .eql .no (R.t 10) (R.i 0)) 8 false,
    R.q 12 (.pick (R.t 8) R.tt (R.t 11))])
  (.cond (R.t 12)
    (.seq (.reg [R.q 2 (.mov (.val (.str fun _ => [])))])
    .ret)
    .skip))
  (.seq (.reg [R.q 13 (.fld 0 (R.t 1)),
    R.q 14 (.load1 (R.t 13)),
    R.q 15 (.conv .u64 (R.t 14)),
    R.q 16 (.bin .shl .no (R.t 15) (.val (.int .u64 fun _ => 24))),
    R.q 3 (.mov (R.t 16))])
  (.seq (.seq (.reg [R.q 17 (.fld 3 (R.t 1)),
    R.q 18 (.load1 (R.t 17))])
  (.cond (R.t 18)
    (.reg [R.q 19 (.mov (R.t 3)),
      R.q 20 (.bin .add .no (R.t 19) (.val (.int .u64 fun _ => 1))),
      R.q 3 (.mov (R.t 20))])
    .skip))
  (.seq (.regd [R.f (R.q 21 (.mov (R.t 3))),
    R.f (R.q 23 (.fld 1 (R.t 1))),
    R.f (R.q 24 (.load1 (R.t 23))),
    R.f (R.q 27 (.fld 2 (R.t 1))),
    R.f (R.q 28 (.load1 (R.t 27))),
    R.f (R.q 31 (.fld 1 (R.t 1))),
    R.f (R.q 32 (.load1 (R.t 31))),
    R.f (R.q 33 (.bin .shr .no (R.t 32) (.val (.int .u64 fun _ => 32)))),
    R.f (R.q 36 (.fld 2 (R.t 1))),
    R.f (R.q 37 (.load1 (R.t 36))),
    R.f (R.q 38 (.bin .shr .no (R.t 37) (.val (.int .u64 fun _ => 32)))),
    R.s (R.q 22 (.call 121 [(R.t 21)])) [1, 2, 3, 4, 5, 6, 7, 8, 9, 10],
    R.s (R.q 25 (.call 121 [(R.t 24)])) [3, 4, 5, 6, 7, 8, 9, 10],
    R.f (R.q 26 (.bin .add .no (R.t 22) (R.t 25))),
    R.s (R.q 29 (.call 121 [(R.t 28)])) [5, 6, 7, 8, 9, 10, 13],
    R.f (R.q 30 (.bin .add .no (R.t 26) (R.t 29))),
    R.s (R.q 34 (.call 121 [(R.t 33)])) [8, 9, 10, 13, 15],
    R.f (R.q 35 (.bin .add .no (R.t 30) (R.t 34))),
    R.s (R.q 39 (.call 121 [(R.t 38)])) [13, 15, 17],
    R.f (R.q 40 (.bin .add .no (R.t 35) (R.t 39))),
    R.s (R.q 4 (.mov (R.t 40))) []])
  (.seq (.seq (.reg [R.q 41 (.fld 0 (R.t 1)),
    R.q 42 (.load1 (R.t 41)),
    R.q 43 (.bin .eql .no (R.t 42) (R.i 3))])
  (.cond (R.t 43)
    (.reg [R.q 44 (.mov (R.t 4)),
      R.q 45 (.fld 4 (R.t 1)),
      R.q 46 (.load1 (R.t 45)),
      R.q 47 (.conv .u64 (R.t 46)),
      R.q 48 (.call 121 [(R.t 47)]),
      R.q 49 (.bin .add .no (R.t 44) (R.t 48)),
      R.q 4 (.mov (R.t 49))])
    .skip))
  (.seq (.reg [R.q 50 (.mov (R.t 4)),
    R.q 2 (.mov (R.t 50))])
  .ret)))))))
def r9_PutCaps.rs : List RRes := [.tmp 2]
theorem r9_PutCaps.of {xs : List AV} {d : Nat} {B : BL} {K : ARes → BL → Prop} (hn : xs.length = 1) (hB : onlyOuter B = true) (h : awp ⟨PT, 51, exitX r9_PutCaps.rs K⟩ 10000 [.code r9_PutCaps.rc] ⟨params 0 xs, B, .nil⟩) : CallAt PT r9_PutCaps xs d B K :=
  call_of_awp 10000 Try.func90 rfl (by kernel_rfl) (by kernel_rfl) (by kernel_rfl) (by rw [hn]; decide) hB h

/-! gripsack/gripsackref9.RecsXattrs -/
abbrev r9_RecsXattrs : Nat := 91
def r9_RecsXattrs.rc : RC :=
  (.seq (.reg [R.q 2 (.mov (.val .nsl))])
  (.seq (.seq (.reg [R.q 5 (.mov (R.t 0)),
    R.q 6 (.call 67 [(R.t 5)]),
    R.q 7 (.un .not (R.t 6))])
  (.cond (R.t 7)
    (.seq (.reg [R.q 2 (.mov (.val .nsl))])
    .ret)
    .skip))
  (.seq (.reg [R.q 3 (.mov (.val .nsl))])
  (.seq (.seq (.reg [R.q 4 (.mov (R.i 0))])
  (.block 0 (.loop
     (.seq (.seq (.reg [R.q 8 (.mov (R.t 4)),
       R.q 9 (.mov (R.t 0)),
       R.q 10 (.len (R.t 9)),
       R.q 11 (.bin .lss .no (R.t 8) (R.t 10))])
     (.cond (R.t 11)
       .skip
       (.exit 0)))
     (.seq (.block 1 (.seq (.seq (.reg [R.q 14 (.mov (R.t 0)),
        R.q 15 (.mov (R.t 4)),
        R.q 16 (.idx 2 (R.t 14) (R.t 15)),
        R.q 17 (.fld 0 (R.t 16)),
        R.q 18 (.load1 (R.t 17)),
        R.q 19 (.call 105 [(R.t 18), (.val (.str fun _ => [61]))]),
        R.q 20 (.un .not (R.t 19))])
      (.cond (R.t 20)
        (.regd [R.f (R.q 21 (.mov (R.t 3))),
          R.f (R.q 22 (.mov (R.t 0))),
          R.f (R.q 23 (.mov (R.t 4))),
          R.f (R.q 24 (.idx 2 (R.t 22) (R.t 23))),
          R.f (R.q 25 (.fld 0 (R.t 24))),
          R.f (R.q 26 (.load1 (R.t 25))),
          R.f (R.q 27 (.bin .add .no (.val (.str fun _ => [83, 67, 72, 73, 76, 89, 46, 120, 97, 116, 116, 114, 46])) (R.t 26))),
          R.f (R.q 28 (.mov (R.t 0))),
          R.f (R.q 29 (.mov (R.t 4))),
          R.f (R.q 30 (.idx 2 (R.t 28) (R.t 29))),
          R.f (R.q 31 (.fld 1 (R.t 30))),
          R.f (R.q 32 (.load1 (R.t 31))),
          R.f (R.q 33 (.build (.cons (.str fun _ => []) (.cons (.str fun _ => []) .nil)) [(0, 1, (R.t 27)), (1, 1, (R.t 32))])),
          R.f (R.q 34 (.bslice 2 (.cons (.str fun _ => []) (.cons (.str fun _ => []) .nil)) 1 [(0, 2, (R.t 33))])),
          R.s (R.q 35 (.append 2 32 (R.t 21) (R.t 34))) [],
          R.s (R.q 3 (.mov (R.t 35))) []])
        .skip))
      (.regd [R.f (R.q 36 (.mov (R.t 3))),
        R.f (R.q 37 (.mov (R.t 0))),
        R.f (R.q 38 (.mov (R.t 4))),
        R.f (R.q 39 (.idx 2 (R.t 37) (R.t 38))),
        R.f (R.q 40 (.fld 0 (R.t 39))),
        R.f (R.q 41 (.load1 (R.t 40))),
        R.f (R.q 44 (.mov (R.t 0))),
        R.f (R.q 45 (.mov (R.t 4))),
        R.f (R.q 46 (.idx 2 (R.t 44) (R.t 45))),
        R.f (R.q 47 (.fld 1 (R.t 46))),
        R.f (R.q 48 (.load1 (R.t 47))),
        R.s (R.q 42 (.call 106 [(R.t 41)])) [0, 6, 7, 8, 9, 10],
        R.f (R.q 43 (.bin .add .no (.val (.str fun _ => [76, 73, 66, 65, 82, 67, 72, 73, 86, 69, 46, 120, 97, 116, 116, 114, 46])) (R.t 42))),
        R.s (R.q 49 (.call 89 [(R.t 48)])) [0, 12],
        R.f (R.q 50 (.build (.cons (.str fun _ => []) (.cons (.str fun _ => []) .nil)) [(0, 1, (R.t 43)), (1, 1, (R.t 49))])),
        R.f (R.q 51 (.bslice 2 (.cons (.str fun _ => []) (.cons (.str fun _ => []) .nil)) 1 [(0, 2, (R.t 50))])),
        R.s (R.q 52 (.append 2 32 (R.t 36) (R.t 51))) [],
        R.s (R.q 3 (.mov (R.t 52))) []])))
     (.reg [R.q 12 (.mov (R.t 4)),
       R.q 13 (.bin .add .no (R.t 12) (R.i 1)),
       R.q 4 (.mov (R.t 13))]))))))
  (.seq (.reg [R.q 53 (.mov (R.t 3)),
    R.q 2 (.mov (R.t 53))])
  .ret)))))
def r9_RecsXattrs.rs : List RRes := [.tmp 2]
theorem r9_RecsXattrs.of {xs : List AV} {d : Nat} {B : BL} {K : ARes → BL → Prop} (hn : xs.length = 1) (hB : onlyOuter B = true) (h : awp ⟨PT, 54, exitX r9_RecsXattrs.rs K⟩ 10000 [.code r9_RecsXattrs.rc] ⟨params 0 xs, B, .nil⟩) : CallAt PT r9_RecsXattrs xs d B K :=
  call_of_awp 10000 Try.func91 rfl (by kernel_rfl) (by kernel_rfl) (by kernel_rfl) (by rw [hn]; decide) hB h

/-! gripsack/gripsackref1.has -/
abbrev r1_has : Nat := 92
def r1_has.rc : RC :=
  (.seq (.reg [R.q 4 (.mov R.ff)])
  (.seq (.seq (.reg [R.q 5 (.mov (R.i 0))])
  (.block 0 (.loop
     (.seq (.seq (.reg [R.q 6 (.mov (R.t 5)),
       R.q 7 (.mov (R.t 0)),
       R.q 8 (.lenS (R.t 7)),
       R.q 9 (.bin .lss .no (R.t 6) (R.t 8))])
     (.cond (R.t 9)
       .skip
       (.exit 0)))
     (.seq (.block 1 (.seq (.reg [R.q 12 (.mov (R.t 0)),
        R.q 13 (.mov (R.t 5)),
        R.q 14 (.idxS (R.t 12) (R.t 13)),
        R.q 15 (.mov (R.t 1)),
        R.q 16 (.bin .eql .no (R.t 14) (R.t 15))])
      (.cond (R.t 16)
        (.seq (.reg [R.q 4 (.mov R.tt)])
        .ret)
        .skip)))
     (.reg [R.q 10 (.mov (R.t 5)),
       R.q 11 (.bin .add .no (R.t 10) (R.i 1)),
       R.q 5 (.mov (R.t 11))]))))))
  (.seq (.reg [R.q 4 (.mov R.ff)])
  .ret)))
def r1_has.rs : List RRes := [.tmp 4]
theorem r1_has.of {xs : List AV} {d : Nat} {B : BL} {K : ARes → BL → Prop} (hn : xs.length = 2) (hB : onlyOuter B = true) (h : awp ⟨PT, 17, exitX r1_has.rs K⟩ 10000 [.code r1_has.rc] ⟨params 0 xs, B, .nil⟩) : CallAt PT r1_has xs d B K :=
  call_of_awp 10000 Try.func92 rfl (by kernel_rfl) (by kernel_rfl) (by kernel_rfl) (by rw [hn]; decide) hB h

/-! gripsack/gripsackref1.record -/
abbrev r1_record : Nat := 93
def r1_record.rc : RC :=
  (.seq (.reg [R.q 1 (.box (R.t 0)),
    R.q 2 (.mov (.val (.str fun _ => [])))])
  (.seq (.reg [R.q 5 (.fld 0 (R.t 1)),
    R.q 6 (.load1 (R.t 5)),
    R.q 7 (.bin .add .no (.val (.str fun _ => [32])) (R.t 6)),
    R.q 8 (.bin .add .no (R.t 7) (.val (.str fun _ => [61]))),
    R.q 9 (.fld 1 (R.t 1)),
    R.q 10 (.load1 (R.t 9)),
    R.q 11 (.bin .add .no (R.t 8) (R.t 10)),
    R.q 12 (.bin .add .no (R.t 11) (.val (.str fun _ => [10]))),
    R.q 3 (.mov (R.t 12))])
  (.seq (.reg [R.q 13 (.mov (R.t 3)),
    R.q 14 (.lenS (R.t 13)),
    R.q 15 (.bin .add .no (R.t 14) (R.i 1)),
    R.q 4 (.mov (R.t 15))])
  (.seq (.block 0 (.loop
     (.seq (.seq (.reg [R.q 16 (.mov (R.t 4)),
       R.q 17 (.mov (R.t 3)),
       R.q 18 (.lenS (R.t 17)),
       R.q 19 (.mov (R.t 4)),
       R.q 20 (.call 84 [(R.t 19)]),
       R.q 21 (.lenS (R.t 20)),
       R.q 22 (.bin .add .no (R.t 18) (R.t 21)),
       R.q 23 (.bin .neq .no (R.t 16) (R.t 22))])
     (.cond (R.t 23)
       .skip
       (.exit 0)))
     (.block 1 (.reg [R.q 24 (.mov (R.t 4)),
        R.q 25 (.bin .add .no (R.t 24) (R.i 1)),
        R.q 4 (.mov (R.t 25))])))))
  (.seq (.reg [R.q 26 (.mov (R.t 4)),
    R.q 27 (.call 84 [(R.t 26)]),
    R.q 28 (.mov (R.t 3)),
    R.q 29 (.bin .add .no (R.t 27) (R.t 28)),
    R.q 2 (.mov (R.t 29))])
  .ret)))))
def r1_record.rs : List RRes := [.tmp 2]
theorem r1_record.of {xs : List AV} {d : Nat} {B : BL} {K : ARes → BL → Prop} (hn : xs.length = 1) (hB : onlyOuter B = true) (h : awp ⟨PT, 30, exitX r1_record.rs K⟩ 10000 [.code r1_record.rc] ⟨params 0 xs, B, .nil⟩) : CallAt PT r1_record xs d B K :=
  call_of_awp 10000 Try.func93 rfl (by kernel_rfl) (by kernel_rfl) (by kernel_rfl) (by rw [hn]; decide) hB h

/-! slices.IndexFunc[[]int,int] -/
abbrev slices_IndexFunc_int_int : Nat := 101
def slices_IndexFunc_int_int.rc : RC :=
  (.seq (.reg [R.q 4 (.mov (R.i 0))])
  (.seq (.seq (.reg [R.q 6 (.mov (R.t 0)),
    R.q 7 (.len (R.t 6)),
    R.q 8 (.mov (R.i 0))])
  (.block 0 (.loop
     (.seq (.reg [R.q 9 (.bin .lss .no (R.t 8) (R.t 7))])
     (.seq (.cond (R.t 9)
       .skip
       (.exit 0))
     (.seq (.block 1 (.seq (.reg [R.q 10 (.mov (R.t 8)),
        R.q 5 (.mov (R.t 10))])
      (.seq (.reg [R.q 11 (.mov (R.t 1)),
        R.q 12 (.mov (R.t 0)),
        R.q 13 (.mov (R.t 5)),
        R.q 14 (.idx 1 (R.t 12) (R.t 13)),
        R.q 15 (.load1 (R.t 14)),
        R.q 16 (.callv (R.t 11) [(R.t 15)])])
      (.cond (R.t 16)
        (.seq (.reg [R.q 17 (.mov (R.t 5)),
          R.q 4 (.mov (R.t 17))])
        .ret)
        .skip))))
     (.reg [R.q 18 (.bin .add .no (R.t 8) (R.i 1)),
       R.q 8 (.mov (R.t 18))])))))))
  (.seq (.reg [R.q 4 (.mov (R.i (-1)))])
  .ret)))
def slices_IndexFunc_int_int.rs : List RRes := [.tmp 4]
theorem slices_IndexFunc_int_int.of {xs : List AV} {d : Nat} {B : BL} {K : ARes → BL → Prop} (hn : xs.length = 2) (hB : onlyOuter B = true) (h : awp ⟨PT, 19, exitX slices_IndexFunc_int_int.rs K⟩ 10000 [.code slices_IndexFunc_int_int.rc] ⟨params 0 xs, B, .nil⟩) : CallAt PT slices_IndexFunc_int_int xs d B K :=
  call_of_awp 10000 Try.func101 rfl (by kernel_rfl) (by kernel_rfl) (by kernel_rfl) (by rw [hn]; decide) hB h

/-! gripsack/gripsackref1.Bad -/
abbrev r1_Bad : Nat := 118
def r1_Bad.rc : RC :=
  (.seq (.reg [R.q 2 (.mov (R.i 0))])
  (.seq (.seq (.reg [R.q 3 (.mov (R.i 0))])
  (.block 0 (.loop
     (.seq (.seq (.reg [R.q 5 (.mov (R.t 3)),
       R.q 6 (.mov (R.t 0)),
       R.q 7 (.lenS (R.t 6)),
       R.q 8 (.bin .lss .no (R.t 5) (R.t 7))])
     (.cond (R.t 8)
       .skip
       (.exit 0)))
     (.block 1 (.seq (.reg [R.q 9 (.mov (R.t 0)),
        R.q 10 (.mov (R.t 3)),
        R.q 11 (.sliceS (R.t 9) (some (R.t 10)) none),
        R.q 12 (.call 133 [(R.t 11)]),
        R.q 4 (.mov (R.t 12))])
      (.seq (.seq (.reg [R.q 13 (.mov (R.t 4)),
        R.q 14 (.bin .eql .no (R.t 13) (R.i 0))])
      (.cond (R.t 14)
        (.seq (.reg [R.q 15 (.mov (R.t 3)),
          R.q 2 (.mov (R.t 15))])
        .ret)
        .skip))
      (.reg [R.q 16 (.mov (R.t 3)),
        R.q 17 (.mov (R.t 4)),
        R.q 18 (.bin .add .no (R.t 16) (R.t 17)),
        R.q 3 (.mov (R.t 18))]))))))))
  (.seq (.reg [R.q 2 (.mov (R.i (-1)))])
  .ret)))
def r1_Bad.rs : List RRes := [.tmp 2]
theorem r1_Bad.of {xs : List AV} {d : Nat} {B : BL} {K : ARes → BL → Prop} (hn : xs.length = 1) (hB : onlyOuter B = true) (h : awp ⟨PT, 19, exitX r1_Bad.rs K⟩ 10000 [.code r1_Bad.rc] ⟨params 0 xs, B, .nil⟩) : CallAt PT r1_Bad xs d B K :=
  call_of_awp 10000 Try.func118 rfl (by kernel_rfl) (by kernel_rfl) (by kernel_rfl) (by rw [hn]; decide) hB h

/-! gripsack/gripsackref9.rwx -/
abbrev r9_rwx : Nat := 119
def r9_rwx.rc : RC :=
  (.seq (.reg [R.q 2 (.mov (.val (.str fun _ => [])))])
  (.seq (.reg [R.q 4 (.bslice 1 (.cons (.int .u8 fun _ => 0) .nil) 3 [(0, 1, (R.u 45)), (1, 1, (R.u 45)), (2, 1, (R.u 45))]),
    R.q 5 (.s2s (R.t 4)),
    R.q 3 (.mov (R.t 5))])
  (.seq (.seq (.reg [R.q 6 (.mov (R.t 0)),
    R.q 7 (.bin .and .no (R.t 6) (R.i 4)),
    R.q 8 (.bin .neq .no (R.t 7) (R.i 0))])
  (.cond (R.t 8)
    (.reg [R.q 9 (.mov (R.t 3)),
      R.q 10 (.idx 1 (R.t 9) (R.i 0)),
      R.e (.store 1 (R.t 10) (R.u 114))])
    .skip))
  (.seq (.seq (.reg [R.q 11 (.mov (R.t 0)),
    R.q 12 (.bin .and .no (R.t 11) (R.i 2)),
    R.q 13 (.bin .neq .no (R.t 12) (R.i 0))])
  (.cond (R.t 13)
    (.reg [R.q 14 (.mov (R.t 3)),
      R.q 15 (.idx 1 (R.t 14) (R.i 1)),
      R.e (.store 1 (R.t 15) (R.u 119))])
    .skip))
  (.seq (.seq (.reg [R.q 16 (.mov (R.t 0)),
    R.q 17 (.bin .and .no (R.t 16) (R.i 1)),
    R.q 18 (.bin .neq .no (R.t 17) (R.i 0))])
  (.cond (R.t 18)
    (.reg [R.q 19 (.mov (R.t 3)),
      R.q 20 (.idx 1 (R.t 19) (R.i 2)),
      R.e (.store 1 (R.t 20) (R.u 120))])
    .skip))
  (.seq (.reg [R.q 21 (.mov (R.t 3)),
    R.q 22 (.b2s (R.t 21)),
    R.q 2 (.mov (R.t 22))])
  .ret))))))
def r9_rwx.rs : List RRes := [.tmp 2]
theorem r9_rwx.of {xs : List AV} {d : Nat} {B : BL} {K : ARes → BL → Prop} (hn : xs.length = 1) (hB : onlyOuter B = true) (h : awp ⟨PT, 23, exitX r9_rwx.rs K⟩ 10000 [.code r9_rwx.rc] ⟨params 0 xs, B, .nil⟩) : CallAt PT r9_rwx xs d B K :=
  call_of_awp 10000 Try.func119 rfl (by kernel_rfl) (by kernel_rfl) (by kernel_rfl) (by rw [hn]; decide) hB h

/-! gripsack/gripsackref1.letters -/
abbrev r1_letters : Nat := 120
def r1_letters.rc : RC :=
  (.seq (.reg [R.q 0 (.mov (.val (.str fun _ => [])))])
  (.seq (.reg [R.q 0 (.mov (.val (.str fun _ => [65, 66, 67, 68, 69, 70, 71, 72, 73, 74, 75, 76, 77, 78, 79, 80, 81, 82, 83, 84, 85, 86, 87, 88, 89, 90, 97, 98, 99, 100, 101, 102, 103, 104, 105, 106, 107, 108, 109, 110, 111, 112, 113, 114, 115, 116, 117, 118, 119, 120, 121, 122, 48, 49, 50, 51, 52, 53, 54, 55, 56, 57, 43, 47])))])
  .ret))
def r1_letters.rs : List RRes := [.tmp 0]
theorem r1_letters.of {xs : List AV} {d : Nat} {B : BL} {K : ARes → BL → Prop} (hn : xs.length = 0) (hB : onlyOuter B = true) (h : awp ⟨PT, 1, exitX r1_letters.rs K⟩ 10000 [.code r1_letters.rc] ⟨params 0 xs, B, .nil⟩) : CallAt PT r1_letters xs d B K :=
  call_of_awp 10000 Try.func120 rfl (by kernel_rfl) (by kernel_rfl) (by kernel_rfl) (by rw [hn]; decide) hB h

/-! gripsack/gripsackref9.four -/
abbrev r9_four : Nat := 121
def r9_four.rc : RC :=
  (.seq (.reg [R.q 2 (.mov (.val (.str fun _ => [])))])
  (.seq (.reg [R.q 3 (.mov (R.t 0)),
    R.q 4 (.conv .u8 (R.t 3)),
    R.q 5 (.mov (R.t 0)),
    R.q 6 (.bin .shr .no (R.t 5) (.val (.int .u64 fun _ => 8))),
    R.q 7 (.conv .u8 (R.t 6)),
    R.q 8 (.mov (R.t 0)),
    R.q 9 (.bin .shr .no (R.t 8) (.val (.int .u64 fun _ => 16))),
    R.q 10 (.conv .u8 (R.t 9)),
    R.q 11 (.mov (R.t 0)),
    R.q 12 (.bin .shr .no (R.t 11) (.val (.int .u64 fun _ => 24))),
    R.q 13 (.conv .u8 (R.t 12)),
    R.q 14 (.bslice 1 (.cons (.int .u8 fun _ => 0) .nil) 4 [(0, 1, (R.t 4)), (1, 1, (R.t 7)), (2, 1, (R.t 10)), (3, 1, (R.t 13))]),
    R.q 15 (.b2s (R.t 14)),
    R.q 2 (.mov (R.t 15))])
  .ret))
def r9_four.rs : List RRes := [.tmp 2]
theorem r9_four.of {xs : List AV} {d : Nat} {B : BL} {K : ARes → BL → Prop} (hn : xs.length = 1) (hB : onlyOuter B = true) (h : awp ⟨PT, 16, exitX r9_four.rs K⟩ 10000 [.code r9_four.rc] ⟨params 0 xs, B, .nil⟩) : CallAt PT r9_four xs d B K :=
  call_of_awp 10000 Try.func121 rfl (by kernel_rfl) (by kernel_rfl) (by kernel_rfl) (by rw [hn]; decide) hB h

/-! gripsack/gripsackref1.sign -/
abbrev r1_sign : Nat := 133
def r1_sign.rc : RC :=
  (.seq (.reg [R.q 2 (.mov (R.i 0))])
  (.seq (.reg [R.q 8 (.mov (R.t 0)),
    R.q 9 (.idxS (R.t 8) (R.i 0)),
    R.q 3 (.mov (R.t 9))])
  (.seq (.seq (.reg [R.q 10 (.mov (R.t 3)),
    R.q 11 (.bin .lss .no (R.t 10) (R.u 128))])
  (.cond (R.t 11)
    (.seq (.reg [R.q 2 (.mov (R.i 1))])
    .ret)
    .skip))
  (.seq (.reg [R.q 4 (.mov (R.i 0)),
    R.q 5 (.mov (R.i 0)),
    R.q 6 (.mov (R.i 0))])
  (.seq (.block 0 (.seq (.reg [R.q 13 (.mov (R.t 3)),
     R.q 14 (.bin .shr .no (R.t 13) (.val (.int .u64 fun _ => 5))),
     R.q 15 (.bin .eql .no (R.t 14) (R.u 6)),
     R.q 12 (.mov (R.t 15))])
   (.cond (R.t 12)
     (.seq (.reg [R.q 4 (.mov (R.i 2))])
     (.seq (.reg [R.q 16 (.mov (R.t 3)),
       R.q 17 (.bin .and .no (R.t 16) (R.u 31)),
       R.q 18 (.conv .i64 (R.t 17)),
       R.q 5 (.mov (R.t 18))])
     (.reg [R.q 6 (.mov (R.i 128))])))
     (.seq (.reg [R.q 20 (.mov (R.t 3)),
       R.q 21 (.bin .shr .no (R.t 20) (.val (.int .u64 fun _ => 4))),
       R.q 22 (.bin .eql .no (R.t 21) (R.u 14)),
       R.q 19 (.mov (R.t 22))])
     (.cond (R.t 19)
       (.seq (.reg [R.q 4 (.mov (R.i 3))])
       (.seq (.reg [R.q 23 (.mov (R.t 3)),
         R.q 24 (.bin .and .no (R.t 23) (R.u 15)),
         R.q 25 (.conv .i64 (R.t 24)),
         R.q 5 (.mov (R.t 25))])
       (.reg [R.q 6 (.mov (R.i 2048))])))
       (.seq (.reg [R.q 27 (.mov (R.t 3)),
         R.q 28 (.bin .shr .no (R.t 27) (.val (.int .u64 fun _ => 3))),
         R.q 29 (.bin .eql .no (R.t 28) (R.u 30)),
         R.q 26 (.mov (R.t 29))])
       (.cond (R.t 26)
         (.seq (.reg [R.q 4 (.mov (R.i 4))])
         (.seq (.reg [R.q 30 (.mov (R.t 3)),
           R.q 31 (.bin .and .no (R.t 30) (R.u 7)),
           R.q 32 (.conv .i64 (R.t 31)),
           R.q 5 (.mov (R.t 32))])
         (.reg [R.q 6 (.mov (R.i 65536))])))
         (.seq (.reg [R.q 2 (.mov (R.i 0))])
         .ret))))))))
  (.seq (.seq (.reg [R.q 7 (.mov (R.i 1))])
  (.block 1 (.loop
     (.seq (.seq (.reg [R.q 33 (.mov (R.t 7)),
       R.q 34 (.mov (R.t 4)),
       R.q 35 (.bin .lss .no (R.t 33) (R.t 34))])
     (.cond (R.t 35)
       .skip
       (.exit 1)))
     (.seq (.block 2 (.seq (.seq (.reg [R.q 38 (.mov (R.t 7)),
        R.q 39 (.mov (R.t 0)),
        R.q 40 (.lenS (R.t 39)),
        R.q 41 (.bin .geq .no (R.t 38) (R.t 40)),
        R.q 42 (.mov (R.t 41)),
        R.g 43 (.mov (R.t 0)) 42 false,
        R.g 44 (.mov (R.t 7)) 42 false,
        R.g 45 (.idxS (R.t 43) (R.t 44)) 42 false,
        R.g 46 (.bin .shr .no (R.t 45) (.val (.int .u64 fun _ => 6))) 42 false,
        R.g 47 (.bin .neq .no (R.t 46) (R.u 2)) 42 false,
        R.q 48 (.pick (R.t 42) R.tt (R.t 47))])
      (.cond (R.t 48)
        (.seq (.reg [R.q 2 (.mov (R.i 0))])
        .ret)
        .skip))
      (.reg [R.q 49 (.mov (R.t 5)),
        R.q 50 (.bin .shl .no (R.t 49) (.val (.int .u64 fun _ => 6))),
        R.q 51 (.mov (R.t 0)),
        R.q 52 (.mov (R.t 7)),
        R.q 53 (.idxS (R.t 51) (R.t 52)),
        R.q 54 (.bin .and .no (R.t 53) (R.u 63)),
        R.q 55 (.conv .i64 (R.t 54)),
        R.q 56 (.bin .or .no (R.t 50) (R.t 55)),
        R.q 5 (.mov (R.t 56))])))
     (.reg [R.q 36 (.mov (R.t 7)),
       R.q 37 (.bin .add .no (R.t 36) (R.i 1)),
       R.q 7 (.mov (R.t 37))]))))))
  (.seq (.seq (.reg [R.q 57 (.mov (R.t 5)),
    R.q 58 (.mov (R.t 6)),
    R.q 59 (.bin .lss .no (R.t 57) (R.t 58)),
    R.q 60 (.mov (R.t 59)),
    R.g 61 (.mov (R.t 5)) 60 false,
    R.g 62 (.bin .gtr .no (R.t 61) (R.i 1114111)) 60 false,
    R.q 63 (.pick (R.t 60) R.tt (R.t 62)),
    R.q 64 (.mov (R.t 63)),
    R.g 65 (.mov (R.t 5)) 64 false,
    R.g 66 (.bin .geq .no (R.t 65) (R.i 55296)) 64 false,
    R.g 67 (.mov (R.t 66)) 64 false,
    R.g 68 (.mov (R.t 5)) 67 true,
    R.g 69 (.bin .leq .no (R.t 68) (R.i 57343)) 67 true,
    R.g 70 (.pick (R.t 67) (R.t 69) R.ff) 64 false,
    R.q 71 (.pick (R.t 64) R.tt (R.t 70))])
  (.cond (R.t 71)
    (.seq (.reg [R.q 2 (.mov (R.i 0))])
    .ret)
    .skip))
  (.seq (.reg [R.q 72 (.mov (R.t 4)),
    R.q 2 (.mov (R.t 72))])
  .ret))))))))
def r1_sign.rs : List RRes := [.tmp 2]
theorem r1_sign.of {xs : List AV} {d : Nat} {B : BL} {K : ARes → BL → Prop} (hn : xs.length = 1) (hB : onlyOuter B = true) (h : awp ⟨PT, 73, exitX r1_sign.rs K⟩ 10000 [.code r1_sign.rc] ⟨params 0 xs, B, .nil⟩) : CallAt PT r1_sign xs d B K :=
  call_of_awp 10000 Try.func133 rfl (by kernel_rfl) (by kernel_rfl) (by kernel_rfl) (by rw [hn]; decide) hB h

end F
end Go.Proofs.Ytgjlkcdnlndlnaa
