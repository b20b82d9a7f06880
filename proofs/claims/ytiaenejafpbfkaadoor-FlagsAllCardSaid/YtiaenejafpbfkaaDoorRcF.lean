/- More of the program's functions, resolved (printed by a tool). -/
import Derived.Test.YtiaenejafpbfkaaDoorRc
namespace Go.Proofs.YtiaenejafpbfkaaDoor
open Go Go.Proofs.YtiaenejafpbfkaaDoor.Sx
namespace F
/-! gripsack/gripsacklaw12.FlagsAll -/
abbrev l12_FlagsAll : Nat := 8
def l12_FlagsAll.rc : RC :=
  (.seq (.reg [R.q 4 (.mov R.ff)])
  (.seq (.seq (.reg [R.q 8 (.mov (R.t 1)),
    R.q 9 (.lenS (R.t 8)),
    R.q 10 (.bin .gtr .no (R.t 9) (R.i 100))])
  (.cond (R.t 10)
    (.seq (.reg [R.q 11 (.call 21 []),
      R.q 4 (.mov (R.t 11))])
    .ret)
    .skip))
  (.seq (.reg [R.q 13 (.mov (R.t 1)),
    R.q 14 (.call 22 [(R.t 13)]),
    R.q 12 (.mov (R.t 14)),
    R.q 15 (.ext 0 (R.t 12)),
    R.q 16 (.ext 1 (R.t 12)),
    R.q 5 (.mov (R.t 15)),
    R.q 6 (.mov (R.t 16))])
  (.seq (.reg [R.q 17 (.mov (R.t 1)),
    R.q 18 (.call 23 [(R.t 17)]),
    R.q 7 (.mov (R.t 18))])
  (.seq (.reg [R.q 19 (.mov (R.t 0)),
    R.q 20 (.call 24 [(R.t 19)]),
    R.q 21 (.mov (R.t 0)),
    R.q 22 (.call 25 [(R.t 21)]),
    R.q 23 (.bin .eql .bool (R.t 20) (R.t 22)),
    R.q 24 (.mov (R.t 23)),
    R.g 25 (.mov (R.t 0)) 24 true,
    R.g 26 (.call 26 [(R.t 25)]) 24 true,
    R.g 27 (.mov (R.t 0)) 24 true,
    R.g 28 (.call 27 [(R.t 27)]) 24 true,
    R.g 29 (.bin .eql .no (R.t 26) (R.t 28)) 24 true,
    R.q 30 (.pick (R.t 24) (R.t 29) R.ff),
    R.q 31 (.mov (R.t 30)),
    R.g 32 (.mov (R.t 6)) 31 true,
    R.g 33 (.mov (R.t 7)) 31 true,
    R.g 34 (.bin .geq .no (R.t 33) (R.i 0)) 31 true,
    R.g 35 (.bin .eql .bool (R.t 32) (R.t 34)) 31 true,
    R.q 36 (.pick (R.t 31) (R.t 35) R.ff),
    R.q 37 (.mov (R.t 36)),
    R.g 38 (.mov (R.t 5)) 37 true,
    R.g 39 (.mov (R.t 7)) 37 true,
    R.g 40 (.mm true [(R.t 39), (R.i 0)]) 37 true,
    R.g 41 (.bin .eql .no (R.t 38) (R.t 40)) 37 true,
    R.q 42 (.pick (R.t 37) (R.t 41) R.ff),
    R.q 43 (.mov (R.t 42)),
    R.g 44 (.call 21 []) 43 true,
    R.q 45 (.pick (R.t 43) (R.t 44) R.ff),
    R.q 4 (.mov (R.t 45))])
  .ret)))))
def l12_FlagsAll.rs : List RRes := [.tmp 4]
theorem l12_FlagsAll.of {xs : List AV} {d : Nat} {B : BL} {K : ARes → BL → Prop} (hn : xs.length = 2) (hB : onlyOuter B = true) (h : awp ⟨PT, 46, exitX l12_FlagsAll.rs K⟩ 10000 [.code l12_FlagsAll.rc] ⟨params 0 xs, B, .nil⟩) : CallAt PT l12_FlagsAll xs d B K :=
  call_of_awp 10000 Tryd.func8 rfl (by kernel_rfl) (by kernel_rfl) (by kernel_rfl) (by rw [hn]; decide) hB h

/-! gripsack/gripsacklaw12.FlagsBack -/
abbrev l12_FlagsBack : Nat := 9
def l12_FlagsBack.rc : RC :=
  (.seq (.reg [R.q 4 (.mov R.ff)])
  (.seq (.reg [R.q 18 (.mov (R.t 0)),
    R.q 19 (.conv .i64 (R.t 18)),
    R.q 20 (.bin .rem .no (R.t 19) (R.i 16)),
    R.q 21 (.mov (R.t 1)),
    R.q 22 (.conv .i64 (R.t 21)),
    R.q 23 (.bin .rem .no (R.t 22) (R.i 16)),
    R.q 5 (.mov (R.t 20)),
    R.q 6 (.mov (R.t 23))])
  (.seq (.reg [R.q 24 (.mov (R.t 5)),
    R.q 25 (.call 26 [(R.t 24)]),
    R.q 7 (.mov (R.t 25))])
  (.seq (.reg [R.q 27 (.mov (R.t 7)),
    R.q 28 (.call 22 [(R.t 27)]),
    R.q 26 (.mov (R.t 28)),
    R.q 29 (.ext 0 (R.t 26)),
    R.q 30 (.ext 1 (R.t 26)),
    R.q 8 (.mov (R.t 29)),
    R.q 9 (.mov (R.t 30))])
  (.seq (.reg [R.q 32 (.call 22 [(.val (.str fun _ => [110, 111, 100, 117, 109, 112, 44, 117, 99, 104, 103]))]),
    R.q 31 (.mov (R.t 32)),
    R.q 33 (.ext 0 (R.t 31)),
    R.q 34 (.ext 1 (R.t 31)),
    R.q 10 (.mov (R.t 33)),
    R.q 11 (.mov (R.t 34))])
  (.seq (.reg [R.q 36 (.call 22 [(.val (.str fun _ => [117, 99, 104, 103, 44, 117, 99, 104, 103]))]),
    R.q 35 (.mov (R.t 36)),
    R.q 37 (.ext 0 (R.t 35)),
    R.q 38 (.ext 1 (R.t 35)),
    R.q 12 (.mov (R.t 37)),
    R.q 13 (.mov (R.t 38))])
  (.seq (.reg [R.q 40 (.mov (R.t 7)),
    R.q 41 (.bin .add .no (R.t 40) (.val (.str fun _ => [44]))),
    R.q 42 (.call 22 [(R.t 41)]),
    R.q 39 (.mov (R.t 42)),
    R.q 43 (.ext 0 (R.t 39)),
    R.q 44 (.ext 1 (R.t 39)),
    R.q 14 (.mov (R.t 43)),
    R.q 15 (.mov (R.t 44))])
  (.seq (.reg [R.q 46 (.call 22 [(.val (.str fun _ => [85, 67, 72, 71]))]),
    R.q 45 (.mov (R.t 46)),
    R.q 47 (.ext 0 (R.t 45)),
    R.q 48 (.ext 1 (R.t 45)),
    R.q 16 (.mov (R.t 47)),
    R.q 17 (.mov (R.t 48))])
  (.seq (.reg [R.q 49 (.mov (R.t 9)),
    R.q 50 (.mov (R.t 49)),
    R.g 51 (.mov (R.t 8)) 50 true,
    R.g 52 (.mov (R.t 5)) 50 true,
    R.g 53 (.bin .eql .no (R.t 51) (R.t 52)) 50 true,
    R.q 54 (.pick (R.t 50) (R.t 53) R.ff),
    R.q 55 (.mov (R.t 54)),
    R.g 56 (.mov (R.t 6)) 55 true,
    R.g 57 (.call 26 [(R.t 56)]) 55 true,
    R.g 58 (.mov (R.t 7)) 55 true,
    R.g 59 (.bin .eql .no (R.t 57) (R.t 58)) 55 true,
    R.g 60 (.mov (R.t 6)) 55 true,
    R.g 61 (.mov (R.t 5)) 55 true,
    R.g 62 (.bin .eql .no (R.t 60) (R.t 61)) 55 true,
    R.g 63 (.bin .eql .bool (R.t 59) (R.t 62)) 55 true,
    R.q 64 (.pick (R.t 55) (R.t 63) R.ff),
    R.q 65 (.mov (R.t 64)),
    R.g 66 (.mov (R.t 11)) 65 true,
    R.g 67 (.un .not (R.t 66)) 65 true,
    R.q 68 (.pick (R.t 65) (R.t 67) R.ff),
    R.q 69 (.mov (R.t 68)),
    R.g 70 (.mov (R.t 13)) 69 true,
    R.g 71 (.un .not (R.t 70)) 69 true,
    R.q 72 (.pick (R.t 69) (R.t 71) R.ff),
    R.q 73 (.mov (R.t 72)),
    R.g 74 (.mov (R.t 15)) 73 true,
    R.g 75 (.un .not (R.t 74)) 73 true,
    R.q 76 (.pick (R.t 73) (R.t 75) R.ff),
    R.q 77 (.mov (R.t 76)),
    R.g 78 (.mov (R.t 17)) 77 true,
    R.g 79 (.un .not (R.t 78)) 77 true,
    R.q 80 (.pick (R.t 77) (R.t 79) R.ff),
    R.q 81 (.mov (R.t 80)),
    R.g 82 (.mov (R.t 5)) 81 true,
    R.g 83 (.bin .add .no (R.t 82) (R.i 16)) 81 true,
    R.g 84 (.call 24 [(R.t 83)]) 81 true,
    R.g 85 (.un .not (R.t 84)) 81 true,
    R.q 86 (.pick (R.t 81) (R.t 85) R.ff),
    R.q 87 (.mov (R.t 86)),
    R.g 88 (.mov (R.t 5)) 87 true,
    R.g 89 (.bin .sub .no (R.i (-1)) (R.t 88)) 87 true,
    R.g 90 (.call 24 [(R.t 89)]) 87 true,
    R.g 91 (.un .not (R.t 90)) 87 true,
    R.q 92 (.pick (R.t 87) (R.t 91) R.ff),
    R.q 93 (.mov (R.t 92)),
    R.g 94 (.call 21 []) 93 true,
    R.q 95 (.pick (R.t 93) (R.t 94) R.ff),
    R.q 4 (.mov (R.t 95))])
  .ret)))))))))
def l12_FlagsBack.rs : List RRes := [.tmp 4]
theorem l12_FlagsBack.of {xs : List AV} {d : Nat} {B : BL} {K : ARes → BL → Prop} (hn : xs.length = 2) (hB : onlyOuter B = true) (h : awp ⟨PT, 96, exitX l12_FlagsBack.rs K⟩ 10000 [.code l12_FlagsBack.rc] ⟨params 0 xs, B, .nil⟩) : CallAt PT l12_FlagsBack xs d B K :=
  call_of_awp 10000 Tryd.func9 rfl (by kernel_rfl) (by kernel_rfl) (by kernel_rfl) (by rw [hn]; decide) hB h

/-! gripsack/gripsacklaw12.FlagsWords -/
abbrev l12_FlagsWords : Nat := 10
def l12_FlagsWords.rc : RC :=
  (.seq (.reg [R.q 2 (.mov R.ff)])
  (.seq (.reg [R.q 9 (.bslice 1 (.cons (.str fun _ => []) .nil) 4 [(0, 1, (.val (.str fun _ => [117, 99, 104, 103]))), (1, 1, (.val (.str fun _ => [117, 97, 112, 112, 110, 100]))), (2, 1, (.val (.str fun _ => [110, 111, 100, 117, 109, 112]))), (3, 1, (.val (.str fun _ => [111, 112, 97, 113, 117, 101])))]),
    R.q 3 (.mov (R.t 9))])
  (.seq (.reg [R.q 10 (.mov (R.t 0)),
    R.q 11 (.conv .i64 (R.t 10)),
    R.q 12 (.bin .rem .no (R.t 11) (R.i 16)),
    R.q 4 (.mov (R.t 12))])
  (.seq (.reg [R.q 5 (.mov (.val (.str fun _ => [])))])
  (.seq (.seq (.reg [R.q 6 (.mov (R.i 0))])
  (.block 0 (.loop
     (.seq (.seq (.reg [R.q 13 (.mov (R.t 6)),
       R.q 14 (.bin .lss .no (R.t 13) (R.i 4))])
     (.cond (R.t 14)
       .skip
       (.exit 0)))
     (.seq (.block 1 (.seq (.reg [R.q 17 (.mov (R.t 4)),
        R.q 18 (.mov (R.t 6)),
        R.q 19 (.bin .shr .no (R.t 17) (R.t 18)),
        R.q 20 (.bin .and .no (R.t 19) (R.i 1)),
        R.q 21 (.bin .eql .no (R.t 20) (R.i 1))])
      (.cond (R.t 21)
        (.seq (.seq (.reg [R.q 22 (.mov (R.t 5)),
          R.q 23 (.bin .neq .no (R.t 22) (.val (.str fun _ => [])))])
        (.cond (R.t 23)
          (.reg [R.q 24 (.mov (R.t 5)),
            R.q 25 (.bin .add .no (R.t 24) (.val (.str fun _ => [44]))),
            R.q 5 (.mov (R.t 25))])
          .skip))
        (.reg [R.q 26 (.mov (R.t 5)),
          R.q 27 (.mov (R.t 3)),
          R.q 28 (.mov (R.t 6)),
          R.q 29 (.idx 1 (R.t 27) (R.t 28)),
          R.q 30 (.load1 (R.t 29)),
          R.q 31 (.bin .add .no (R.t 26) (R.t 30)),
          R.q 5 (.mov (R.t 31))]))
        .skip)))
     (.reg [R.q 15 (.mov (R.t 6)),
       R.q 16 (.bin .add .no (R.t 15) (R.i 1)),
       R.q 6 (.mov (R.t 16))]))))))
  (.seq (.reg [R.q 33 (.mov (R.t 5)),
    R.q 34 (.call 22 [(R.t 33)]),
    R.q 32 (.mov (R.t 34)),
    R.q 35 (.ext 0 (R.t 32)),
    R.q 36 (.ext 1 (R.t 32)),
    R.q 7 (.mov (R.t 35)),
    R.q 8 (.mov (R.t 36))])
  (.seq (.reg [R.q 37 (.mov (R.t 4)),
    R.q 38 (.call 26 [(R.t 37)]),
    R.q 39 (.mov (R.t 5)),
    R.q 40 (.bin .eql .no (R.t 38) (R.t 39)),
    R.q 41 (.mov (R.t 40)),
    R.g 42 (.mov (R.t 8)) 41 true,
    R.q 43 (.pick (R.t 41) (R.t 42) R.ff),
    R.q 44 (.mov (R.t 43)),
    R.g 45 (.mov (R.t 7)) 44 true,
    R.g 46 (.mov (R.t 4)) 44 true,
    R.g 47 (.bin .eql .no (R.t 45) (R.t 46)) 44 true,
    R.q 48 (.pick (R.t 44) (R.t 47) R.ff),
    R.q 49 (.mov (R.t 48)),
    R.g 50 (.mov (R.t 4)) 49 true,
    R.g 51 (.call 24 [(R.t 50)]) 49 true,
    R.q 52 (.pick (R.t 49) (R.t 51) R.ff),
    R.q 53 (.mov (R.t 52)),
    R.g 54 (.mov (R.t 4)) 53 true,
    R.g 55 (.bin .add .no (R.t 54) (R.i 16)) 53 true,
    R.g 56 (.call 26 [(R.t 55)]) 53 true,
    R.g 57 (.bin .eql .no (R.t 56) (.val (.str fun _ => []))) 53 true,
    R.q 58 (.pick (R.t 53) (R.t 57) R.ff),
    R.q 59 (.mov (R.t 58)),
    R.g 60 (.call 21 []) 59 true,
    R.q 61 (.pick (R.t 59) (R.t 60) R.ff),
    R.q 2 (.mov (R.t 61))])
  .ret)))))))
def l12_FlagsWords.rs : List RRes := [.tmp 2]
theorem l12_FlagsWords.of {xs : List AV} {d : Nat} {B : BL} {K : ARes → BL → Prop} (hn : xs.length = 1) (hB : onlyOuter B = true) (h : awp ⟨PT, 62, exitX l12_FlagsWords.rs K⟩ 10000 [.code l12_FlagsWords.rc] ⟨params 0 xs, B, .nil⟩) : CallAt PT l12_FlagsWords xs d B K :=
  call_of_awp 10000 Tryd.func10 rfl (by kernel_rfl) (by kernel_rfl) (by kernel_rfl) (by rw [hn]; decide) hB h

/-! gripsack/gripsacklaw12.awake -/
abbrev l12_awake : Nat := 21
def l12_awake.rc : RC :=
  (.seq (.reg [R.q 0 (.mov R.ff)])
  (.seq (.reg [R.q 4 (.call 22 [(.val (.str fun _ => [117, 99, 104, 103, 44, 110, 111, 100, 117, 109, 112]))]),
    R.q 3 (.mov (R.t 4)),
    R.q 5 (.ext 0 (R.t 3)),
    R.q 6 (.ext 1 (R.t 3)),
    R.q 1 (.mov (R.t 5)),
    R.q 2 (.mov (R.t 6))])
  (.seq (.reg [R.q 7 (.call 26 [(R.i 5)]),
    R.q 8 (.bin .eql .no (R.t 7) (.val (.str fun _ => [117, 99, 104, 103, 44, 110, 111, 100, 117, 109, 112]))),
    R.q 9 (.mov (R.t 8)),
    R.g 10 (.mov (R.t 2)) 9 true,
    R.q 11 (.pick (R.t 9) (R.t 10) R.ff),
    R.q 12 (.mov (R.t 11)),
    R.g 13 (.mov (R.t 1)) 12 true,
    R.g 14 (.bin .eql .no (R.t 13) (R.i 5)) 12 true,
    R.q 15 (.pick (R.t 12) (R.t 14) R.ff),
    R.q 0 (.mov (R.t 15))])
  .ret)))
def l12_awake.rs : List RRes := [.tmp 0]
theorem l12_awake.of {xs : List AV} {d : Nat} {B : BL} {K : ARes → BL → Prop} (hn : xs.length = 0) (hB : onlyOuter B = true) (h : awp ⟨PT, 16, exitX l12_awake.rs K⟩ 10000 [.code l12_awake.rc] ⟨params 0 xs, B, .nil⟩) : CallAt PT l12_awake xs d B K :=
  call_of_awp 10000 Tryd.func21 rfl (by kernel_rfl) (by kernel_rfl) (by kernel_rfl) (by rw [hn]; decide) hB h

/-! gripsack/flags.Parse -/
abbrev flags_Parse : Nat := 22
def flags_Parse.rc : RC :=
  (.seq (.reg [R.q 2 (.alloc (.cons (R.z 0) .nil)),
    R.q 3 (.alloc (.cons .ff .nil))])
  (.seq (.reg [R.q 7 (.mkfn (.func 38) [] [(R.t 2), (R.t 3)]),
    R.e (.defer (R.t 7) [])])
  (.seq (.seq (.reg [R.q 8 (.mov (R.t 0)),
    R.q 9 (.bin .eql .no (R.t 8) (.val (.str fun _ => [])))])
  (.cond (R.t 9)
    (.seq (.reg [R.e (.store 1 (R.t 2) (R.i 0)),
      R.e (.store 1 (R.t 3) R.tt)])
    .ret)
    .skip))
  (.seq (.seq (.reg [R.q 10 (.mov (R.t 0)),
    R.q 11 (.call 39 [(R.t 10), (.val (.str fun _ => [44]))]),
    R.q 12 (.len (R.t 11)),
    R.q 13 (.mov (R.i 0))])
  (.block 0 (.loop
     (.seq (.reg [R.q 14 (.bin .lss .no (R.t 13) (R.t 12))])
     (.seq (.cond (R.t 14)
       .skip
       (.exit 0))
     (.seq (.block 1 (.seq (.reg [R.q 15 (.idx 1 (R.t 11) (R.t 13)),
        R.q 16 (.load1 (R.t 15)),
        R.q 5 (.mov (R.t 16))])
      (.seq (.reg [R.q 17 (.call 41 []),
        R.q 18 (.mov (R.t 5)),
        R.q 19 (.call 40 [(R.t 17), (R.t 18)]),
        R.q 6 (.mov (R.t 19))])
      (.seq (.seq (.reg [R.q 20 (.mov (R.t 6)),
        R.q 21 (.bin .lss .no (R.t 20) (R.i 0))])
      (.cond (R.t 21)
        (.reg [R.q 22 (.mov (R.t 5)),
          R.q 23 (.build (.cons (.str fun _ => []) .nil) [(0, 1, (R.t 22))]),
          R.q 24 (.mkif 63 (R.t 23)),
          R.e (.panic (R.t 24))])
        .skip))
      (.regd [R.f (R.q 25 (.load1 (R.t 2))),
        R.f (R.q 26 (.mov (R.t 6))),
        R.f (R.q 27 (.bin .shl .no (R.i 1) (R.t 26))),
        R.f (R.q 28 (.bin .or .no (R.t 25) (R.t 27))),
        R.s (R.e (.store 1 (R.t 2) (R.t 28))) []])))))
     (.reg [R.q 29 (.bin .add .no (R.t 13) (R.i 1)),
       R.q 13 (.mov (R.t 29))])))))))
  (.seq (.seq (.reg [R.q 30 (.load1 (R.t 2)),
    R.q 31 (.call 26 [(R.t 30)]),
    R.q 32 (.mov (R.t 0)),
    R.q 33 (.bin .neq .no (R.t 31) (R.t 32))])
  (.cond (R.t 33)
    (.seq (.reg [R.e (.store 1 (R.t 2) (R.i 0)),
      R.e (.store 1 (R.t 3) R.ff)])
    .ret)
    .skip))
  (.seq (.reg [R.q 34 (.load1 (R.t 2)),
    R.e (.store 1 (R.t 2) (R.t 34)),
    R.e (.store 1 (R.t 3) R.tt)])
  .ret))))))
def flags_Parse.rs : List RRes := [.cell1 2, .cell1 3]
theorem flags_Parse.of {xs : List AV} {d : Nat} {B : BL} {K : ARes → BL → Prop} (hn : xs.length = 1) (hB : onlyOuter B = true) (h : awp ⟨PT, 35, exitD PT flags_Parse.rs K⟩ 10000 [.code flags_Parse.rc] ⟨params 0 xs, B, .nil⟩) : CallAt PT flags_Parse xs d B K :=
  call_of_awp_d 10000 Tryd.func22 rfl (by kernel_rfl) (by kernel_rfl) (by kernel_rfl) (by rw [hn]; decide) hB h

/-! gripsack/gripsackref9.ParseFlags -/
abbrev r9_ParseFlags : Nat := 23
def r9_ParseFlags.rc : RC :=
  (.seq (.reg [R.q 2 (.mov (R.i 0))])
  (.seq (.seq (.reg [R.q 3 (.mov (R.i 0))])
  (.block 0 (.loop
     (.seq (.seq (.reg [R.q 4 (.mov (R.t 3)),
       R.q 5 (.bin .lss .no (R.t 4) (R.i 16))])
     (.cond (R.t 5)
       .skip
       (.exit 0)))
     (.seq (.block 1 (.seq (.reg [R.q 8 (.mov (R.t 3)),
        R.q 9 (.call 27 [(R.t 8)]),
        R.q 10 (.mov (R.t 0)),
        R.q 11 (.bin .eql .no (R.t 9) (R.t 10))])
      (.cond (R.t 11)
        (.seq (.reg [R.q 12 (.mov (R.t 3)),
          R.q 2 (.mov (R.t 12))])
        .ret)
        .skip)))
     (.reg [R.q 6 (.mov (R.t 3)),
       R.q 7 (.bin .add .no (R.t 6) (R.i 1)),
       R.q 3 (.mov (R.t 7))]))))))
  (.seq (.reg [R.q 2 (.mov (R.i (-1)))])
  .ret)))
def r9_ParseFlags.rs : List RRes := [.tmp 2]
theorem r9_ParseFlags.of {xs : List AV} {d : Nat} {B : BL} {K : ARes → BL → Prop} (hn : xs.length = 1) (hB : onlyOuter B = true) (h : awp ⟨PT, 13, exitX r9_ParseFlags.rs K⟩ 10000 [.code r9_ParseFlags.rc] ⟨params 0 xs, B, .nil⟩) : CallAt PT r9_ParseFlags xs d B K :=
  call_of_awp 10000 Tryd.func23 rfl (by kernel_rfl) (by kernel_rfl) (by kernel_rfl) (by rw [hn]; decide) hB h

/-! gripsack/flags.May -/
abbrev flags_May : Nat := 24
def flags_May.rc : RC :=
  (.seq (.reg [R.q 2 (.mov R.ff)])
  (.seq (.reg [R.q 3 (.mov (R.t 0)),
    R.q 4 (.bin .geq .no (R.t 3) (R.i 0)),
    R.q 5 (.mov (R.t 4)),
    R.g 6 (.mov (R.t 0)) 5 true,
    R.g 7 (.call 41 []) 5 true,
    R.g 8 (.len (R.t 7)) 5 true,
    R.g 9 (.bin .shl .no (R.i 1) (R.t 8)) 5 true,
    R.g 10 (.bin .lss .no (R.t 6) (R.t 9)) 5 true,
    R.q 11 (.pick (R.t 5) (R.t 10) R.ff),
    R.q 2 (.mov (R.t 11))])
  .ret))
def flags_May.rs : List RRes := [.tmp 2]
theorem flags_May.of {xs : List AV} {d : Nat} {B : BL} {K : ARes → BL → Prop} (hn : xs.length = 1) (hB : onlyOuter B = true) (h : awp ⟨PT, 12, exitX flags_May.rs K⟩ 10000 [.code flags_May.rc] ⟨params 0 xs, B, .nil⟩) : CallAt PT flags_May xs d B K :=
  call_of_awp 10000 Tryd.func24 rfl (by kernel_rfl) (by kernel_rfl) (by kernel_rfl) (by rw [hn]; decide) hB h

/-! gripsack/gripsackref9.MayFlags -/
abbrev r9_MayFlags : Nat := 25
def r9_MayFlags.rc : RC :=
  (.seq (.reg [R.q 2 (.mov R.ff)])
  (.seq (.reg [R.q 3 (.mov (R.t 0)),
    R.q 4 (.bin .geq .no (R.t 3) (R.i 0)),
    R.q 5 (.mov (R.t 4)),
    R.g 6 (.mov (R.t 0)) 5 true,
    R.g 7 (.bin .leq .no (R.t 6) (R.i 15)) 5 true,
    R.q 8 (.pick (R.t 5) (R.t 7) R.ff),
    R.q 2 (.mov (R.t 8))])
  .ret))
def r9_MayFlags.rs : List RRes := [.tmp 2]
theorem r9_MayFlags.of {xs : List AV} {d : Nat} {B : BL} {K : ARes → BL → Prop} (hn : xs.length = 1) (hB : onlyOuter B = true) (h : awp ⟨PT, 9, exitX r9_MayFlags.rs K⟩ 10000 [.code r9_MayFlags.rc] ⟨params 0 xs, B, .nil⟩) : CallAt PT r9_MayFlags xs d B K :=
  call_of_awp 10000 Tryd.func25 rfl (by kernel_rfl) (by kernel_rfl) (by kernel_rfl) (by rw [hn]; decide) hB h

/-! gripsack/flags.Text -/
abbrev flags_Text : Nat := 26
def flags_Text.rc : RC :=
  (.seq (.reg [R.q 2 (.mov (.val (.str fun _ => [])))])
  (.seq (.seq (.reg [R.q 6 (.mov (R.t 0)),
    R.q 7 (.call 24 [(R.t 6)]),
    R.q 8 (.un .not (R.t 7))])
  (.cond (R.t 8)
    (.seq (.reg [R.q 2 (.mov (.val (.str fun _ => [])))])
    .ret)
    .skip))
  (.seq (.reg [R.q 3 (.mov (.val .nsl))])
  (.seq (.seq (.reg [R.q 9 (.call 41 []),
    R.q 10 (.len (R.t 9)),
    R.q 11 (.mov (R.i 0))])
  (.block 0 (.loop
     (.seq (.reg [R.q 12 (.bin .lss .no (R.t 11) (R.t 10))])
     (.seq (.cond (R.t 12)
       .skip
       (.exit 0))
     (.seq (.block 1 (.seq (.reg [R.q 13 (.mov (R.t 11)),
        R.q 14 (.idx 1 (R.t 9) (R.t 11)),
        R.q 15 (.load1 (R.t 14)),
        R.q 4 (.mov (R.t 13)),
        R.q 5 (.mov (R.t 15))])
      (.seq (.reg [R.q 16 (.mov (R.t 0)),
        R.q 17 (.mov (R.t 4)),
        R.q 18 (.bin .shr .no (R.t 16) (R.t 17)),
        R.q 19 (.bin .and .no (R.t 18) (R.i 1)),
        R.q 20 (.bin .gtr .no (R.t 19) (R.i 0))])
      (.cond (R.t 20)
        (.reg [R.q 21 (.mov (R.t 3)),
          R.q 22 (.mov (R.t 5)),
          R.q 23 (.bslice 1 (.cons (.str fun _ => []) .nil) 1 [(0, 1, (R.t 22))]),
          R.q 24 (.append 1 16 (R.t 21) (R.t 23)),
          R.q 3 (.mov (R.t 24))])
        .skip))))
     (.reg [R.q 25 (.bin .add .no (R.t 11) (R.i 1)),
       R.q 11 (.mov (R.t 25))])))))))
  (.seq (.reg [R.q 26 (.mov (R.t 3)),
    R.q 27 (.call 42 [(R.t 26), (.val (.str fun _ => [44]))]),
    R.q 2 (.mov (R.t 27))])
  .ret)))))
def flags_Text.rs : List RRes := [.tmp 2]
theorem flags_Text.of {xs : List AV} {d : Nat} {B : BL} {K : ARes → BL → Prop} (hn : xs.length = 1) (hB : onlyOuter B = true) (h : awp ⟨PT, 28, exitX flags_Text.rs K⟩ 10000 [.code flags_Text.rc] ⟨params 0 xs, B, .nil⟩) : CallAt PT flags_Text xs d B K :=
  call_of_awp 10000 Tryd.func26 rfl (by kernel_rfl) (by kernel_rfl) (by kernel_rfl) (by rw [hn]; decide) hB h

/-! gripsack/gripsackref9.TextFlags -/
abbrev r9_TextFlags : Nat := 27
def r9_TextFlags.rc : RC :=
  (.seq (.reg [R.q 2 (.mov (.val (.str fun _ => [])))])
  (.seq (.seq (.reg [R.q 6 (.mov (R.t 0)),
    R.q 7 (.call 25 [(R.t 6)]),
    R.q 8 (.un .not (R.t 7))])
  (.cond (R.t 8)
    (.seq (.reg [R.q 2 (.mov (.val (.str fun _ => [])))])
    .ret)
    .skip))
  (.seq (.reg [R.q 3 (.mov (.val (.str fun _ => [])))])
  (.seq (.reg [R.q 9 (.bslice 1 (.cons (.str fun _ => []) .nil) 4 [(0, 1, (.val (.str fun _ => [117, 99, 104, 103]))), (1, 1, (.val (.str fun _ => [117, 97, 112, 112, 110, 100]))), (2, 1, (.val (.str fun _ => [110, 111, 100, 117, 109, 112]))), (3, 1, (.val (.str fun _ => [111, 112, 97, 113, 117, 101])))]),
    R.q 4 (.mov (R.t 9))])
  (.seq (.seq (.reg [R.q 5 (.mov (R.i 0))])
  (.block 0 (.loop
     (.seq (.seq (.reg [R.q 10 (.mov (R.t 5)),
       R.q 11 (.bin .lss .no (R.t 10) (R.i 4))])
     (.cond (R.t 11)
       .skip
       (.exit 0)))
     (.seq (.block 1 (.seq (.reg [R.q 14 (.mov (R.t 0)),
        R.q 15 (.mov (R.t 5)),
        R.q 16 (.bin .shr .no (R.t 14) (R.t 15)),
        R.q 17 (.bin .and .no (R.t 16) (R.i 1)),
        R.q 18 (.bin .eql .no (R.t 17) (R.i 1))])
      (.cond (R.t 18)
        (.seq (.seq (.reg [R.q 19 (.mov (R.t 3)),
          R.q 20 (.bin .neq .no (R.t 19) (.val (.str fun _ => [])))])
        (.cond (R.t 20)
          (.reg [R.q 21 (.mov (R.t 3)),
            R.q 22 (.bin .add .no (R.t 21) (.val (.str fun _ => [44]))),
            R.q 3 (.mov (R.t 22))])
          .skip))
        (.reg [R.q 23 (.mov (R.t 3)),
          R.q 24 (.mov (R.t 4)),
          R.q 25 (.mov (R.t 5)),
          R.q 26 (.idx 1 (R.t 24) (R.t 25)),
          R.q 27 (.load1 (R.t 26)),
          R.q 28 (.bin .add .no (R.t 23) (R.t 27)),
          R.q 3 (.mov (R.t 28))]))
        .skip)))
     (.reg [R.q 12 (.mov (R.t 5)),
       R.q 13 (.bin .add .no (R.t 12) (R.i 1)),
       R.q 5 (.mov (R.t 13))]))))))
  (.seq (.reg [R.q 29 (.mov (R.t 3)),
    R.q 2 (.mov (R.t 29))])
  .ret))))))
def r9_TextFlags.rs : List RRes := [.tmp 2]
theorem r9_TextFlags.of {xs : List AV} {d : Nat} {B : BL} {K : ARes → BL → Prop} (hn : xs.length = 1) (hB : onlyOuter B = true) (h : awp ⟨PT, 30, exitX r9_TextFlags.rs K⟩ 10000 [.code r9_TextFlags.rc] ⟨params 0 xs, B, .nil⟩) : CallAt PT r9_TextFlags xs d B K :=
  call_of_awp 10000 Tryd.func27 rfl (by kernel_rfl) (by kernel_rfl) (by kernel_rfl) (by rw [hn]; decide) hB h

/-! gripsack/flags.Parse$1 -/
abbrev flags_Parse_1 : Nat := 38
def flags_Parse_1.rc : RC :=
  (.seq (.reg [R.q 6 (.mov (R.t 2)),
    R.q 7 (.bin .neq (.ifc true) (R.t 6) (.val .nif))])
  (.cond (R.t 7)
    (.seq (.seq (.reg [R.q 9 (.mov (R.t 2)),
      R.q 10 (.assert 63 (.agg (.cons (.str fun _ => []) .nil)) (R.t 9)),
      R.q 8 (.mov (R.t 10)),
      R.q 11 (.ext 0 (R.t 8)),
      R.q 12 (.ext 1 (R.t 8)),
      R.q 3 (.alloc (.cons (.str fun _ => []) .nil)),
      R.e (.store 1 (R.t 3) (R.t 11)),
      R.q 4 (.mov (R.t 12))])
    (.seq (.reg [R.q 13 (.mov (R.t 4)),
      R.q 14 (.un .not (R.t 13))])
    (.cond (R.t 14)
      (.reg [R.q 15 (.mov (R.t 2)),
        R.e (.panic (R.t 15))])
      .skip)))
    (.reg [R.e (.store 1 (R.t 0) (R.i 0)),
      R.e (.store 1 (R.t 1) R.ff)]))
    .skip))
def flags_Parse_1.rs : List RRes := []
theorem flags_Parse_1.of {pn : Bool} {pv : AV} {xs : List AV} {B : BL} {K : BL → Prop} (hn : xs.length = 2) (hB : onlyOuter B = true) (hpv : pn = false → pv = .nif) (h : awp ⟨PT, 16, exitC K⟩ 10000 [.code flags_Parse_1.rc] ⟨.cons 2 pv (.cons 5 pv (params 0 xs)), B, .nil⟩) : DefAt PT flags_Parse_1 pn (pv :: xs) B K :=
  def_of_awp 10000 Tryd.func38 rfl (by kernel_rfl) (by kernel_rfl) rfl (by rw [hn]; decide) (by decide) (by decide) hB hpv h

/-! slices.Index[[]string,string] -/
abbrev slices_Index_string_string : Nat := 40
def slices_Index_string_string.rc : RC :=
  (.seq (.reg [R.q 4 (.mov (R.i 0))])
  (.seq (.seq (.reg [R.q 6 (.mov (R.t 0)),
    R.q 7 (.len (R.t 6)),
    R.q 8 (.mov (R.i 0))])
  (.block 0 (.loop
     (.seq (.reg [R.q 9 (.bin .lss .no (R.t 8) (R.t 7))])
     (.seq (.cond (R.t 9)
       .skip
       (.exit 0))
     (.seq (.block 1 (.seq (.reg [R.q 10 (.mov (R.t 8)),
        R.q 5 (.mov (R.t 10))])
      (.seq (.reg [R.q 11 (.mov (R.t 1)),
        R.q 12 (.mov (R.t 0)),
        R.q 13 (.mov (R.t 5)),
        R.q 14 (.idx 1 (R.t 12) (R.t 13)),
        R.q 15 (.load1 (R.t 14)),
        R.q 16 (.bin .eql .no (R.t 11) (R.t 15))])
      (.cond (R.t 16)
        (.seq (.reg [R.q 17 (.mov (R.t 5)),
          R.q 4 (.mov (R.t 17))])
        .ret)
        .skip))))
     (.reg [R.q 18 (.bin .add .no (R.t 8) (R.i 1)),
       R.q 8 (.mov (R.t 18))])))))))
  (.seq (.reg [R.q 4 (.mov (R.i (-1)))])
  .ret)))
def slices_Index_string_string.rs : List RRes := [.tmp 4]
theorem slices_Index_string_string.of {xs : List AV} {d : Nat} {B : BL} {K : ARes → BL → Prop} (hn : xs.length = 2) (hB : onlyOuter B = true) (h : awp ⟨PT, 19, exitX slices_Index_string_string.rs K⟩ 10000 [.code slices_Index_string_string.rc] ⟨params 0 xs, B, .nil⟩) : CallAt PT slices_Index_string_string xs d B K :=
  call_of_awp 10000 Tryd.func40 rfl (by kernel_rfl) (by kernel_rfl) (by kernel_rfl) (by rw [hn]; decide) hB h

/-! gripsack/flags.names -/
abbrev flags_names : Nat := 41
def flags_names.rc : RC :=
  (.seq (.reg [R.q 0 (.mov (.val .nsl))])
  (.seq (.reg [R.q 1 (.bslice 1 (.cons (.str fun _ => []) .nil) 4 [(0, 1, (.val (.str fun _ => [117, 99, 104, 103]))), (1, 1, (.val (.str fun _ => [117, 97, 112, 112, 110, 100]))), (2, 1, (.val (.str fun _ => [110, 111, 100, 117, 109, 112]))), (3, 1, (.val (.str fun _ => [111, 112, 97, 113, 117, 101])))]),
    R.q 0 (.mov (R.t 1))])
  .ret))
def flags_names.rs : List RRes := [.tmp 0]
theorem flags_names.of {xs : List AV} {d : Nat} {B : BL} {K : ARes → BL → Prop} (hn : xs.length = 0) (hB : onlyOuter B = true) (h : awp ⟨PT, 2, exitX flags_names.rs K⟩ 10000 [.code flags_names.rc] ⟨params 0 xs, B, .nil⟩) : CallAt PT flags_names xs d B K :=
  call_of_awp 10000 Tryd.func41 rfl (by kernel_rfl) (by kernel_rfl) (by kernel_rfl) (by rw [hn]; decide) hB h

/-! strings.Join -/
abbrev strings_Join : Nat := 42
def strings_Join.rc : RC :=
  (.seq (.reg [R.q 4 (.mov (.val (.str fun _ => [])))])
  (.seq (.seq (.reg [R.q 11 (.mov (R.t 0)),
    R.q 12 (.len (R.t 11))])
  (.block 0 (.seq (.reg [R.q 14 (.bin .eql .no (R.t 12) (R.i 0)),
     R.q 13 (.mov (R.t 14))])
   (.cond (R.t 13)
     (.seq (.reg [R.q 4 (.mov (.val (.str fun _ => [])))])
     .ret)
     (.seq (.reg [R.q 16 (.bin .eql .no (R.t 12) (R.i 1)),
       R.q 15 (.mov (R.t 16))])
     (.cond (R.t 15)
       (.seq (.reg [R.q 17 (.mov (R.t 0)),
         R.q 18 (.idx 1 (R.t 17) (R.i 0)),
         R.q 19 (.load1 (R.t 18)),
         R.q 4 (.mov (R.t 19))])
       .ret)
       .skip))))))
  (.seq (.reg [R.q 5 (.mov (R.i 0))])
  (.seq (.seq (.reg [R.q 20 (.mov (R.t 1)),
    R.q 21 (.lenS (R.t 20)),
    R.q 22 (.bin .gtr .no (R.t 21) (R.i 0))])
  (.cond (R.t 22)
    (.seq (.seq (.reg [R.q 23 (.mov (R.t 1)),
      R.q 24 (.lenS (R.t 23)),
      R.q 25 (.mov (R.t 0)),
      R.q 26 (.len (R.t 25)),
      R.q 27 (.bin .sub .no (R.t 26) (R.i 1)),
      R.q 28 (.bin .quo .no (R.i 9223372036854775807) (R.t 27)),
      R.q 29 (.bin .geq .no (R.t 24) (R.t 28))])
    (.cond (R.t 29)
      (.reg [R.q 30 (.mkif 9 (.val (.str fun _ => [115, 116, 114, 105, 110, 103, 115, 58, 32, 74, 111, 105, 110, 32, 111, 117, 116, 112, 117, 116, 32, 108, 101, 110, 103, 116, 104, 32, 111, 118, 101, 114, 102, 108, 111, 119]))),
        R.e (.panic (R.t 30))])
      .skip))
    (.reg [R.q 31 (.mov (R.t 5)),
      R.q 32 (.mov (R.t 1)),
      R.q 33 (.lenS (R.t 32)),
      R.q 34 (.mov (R.t 0)),
      R.q 35 (.len (R.t 34)),
      R.q 36 (.bin .sub .no (R.t 35) (R.i 1)),
      R.q 37 (.bin .mul .no (R.t 33) (R.t 36)),
      R.q 38 (.bin .add .no (R.t 31) (R.t 37)),
      R.q 5 (.mov (R.t 38))]))
    .skip))
  (.seq (.seq (.reg [R.q 39 (.mov (R.t 0)),
    R.q 40 (.len (R.t 39)),
    R.q 41 (.mov (R.i 0))])
  (.block 1 (.loop
     (.seq (.reg [R.q 42 (.bin .lss .no (R.t 41) (R.t 40))])
     (.seq (.cond (R.t 42)
       .skip
       (.exit 1))
     (.seq (.block 2 (.seq (.reg [R.q 43 (.idx 1 (R.t 39) (R.t 41)),
        R.q 44 (.load1 (R.t 43)),
        R.q 7 (.mov (R.t 44))])
      (.seq (.seq (.reg [R.q 45 (.mov (R.t 7)),
        R.q 46 (.lenS (R.t 45)),
        R.q 47 (.mov (R.t 5)),
        R.q 48 (.bin .sub .no (R.i 9223372036854775807) (R.t 47)),
        R.q 49 (.bin .gtr .no (R.t 46) (R.t 48))])
      (.cond (R.t 49)
        (.reg [R.q 50 (.mkif 9 (.val (.str fun _ => [115, 116, 114, 105, 110, 103, 115, 58, 32, 74, 111, 105, 110, 32, 111, 117, 116, 112, 117, 116, 32, 108, 101, 110, 103, 116, 104, 32, 111, 118, 101, 114, 102, 108, 111, 119]))),
          R.e (.panic (R.t 50))])
        .skip))
      (.reg [R.q 51 (.mov (R.t 5)),
        R.q 52 (.mov (R.t 7)),
        R.q 53 (.lenS (R.t 52)),
        R.q 54 (.bin .add .no (R.t 51) (R.t 53)),
        R.q 5 (.mov (R.t 54))]))))
     (.reg [R.q 55 (.bin .add .no (R.t 41) (R.i 1)),
       R.q 41 (.mov (R.t 55))])))))))
  (.seq (.reg [R.q 8 (.alloc (.cons .nptr (.cons .nsl .nil)))])
  (.seq (.reg [R.q 56 (.mov (R.t 5)),
    R.q 57 (.call 49 [(R.t 8), (R.t 56)])])
  (.seq (.reg [R.q 58 (.mov (R.t 0)),
    R.q 59 (.idx 1 (R.t 58) (R.i 0)),
    R.q 60 (.load1 (R.t 59)),
    R.q 61 (.call 50 [(R.t 8), (R.t 60)])])
  (.seq (.seq (.reg [R.q 62 (.mov (R.t 0)),
    R.q 63 (.slice 1 (R.t 62) (some (R.i 1)) none),
    R.q 64 (.len (R.t 63)),
    R.q 65 (.mov (R.i 0))])
  (.block 3 (.loop
     (.seq (.reg [R.q 66 (.bin .lss .no (R.t 65) (R.t 64))])
     (.seq (.cond (R.t 66)
       .skip
       (.exit 3))
     (.seq (.block 4 (.seq (.reg [R.q 67 (.idx 1 (R.t 63) (R.t 65)),
        R.q 68 (.load1 (R.t 67)),
        R.q 10 (.mov (R.t 68))])
      (.seq (.reg [R.q 69 (.mov (R.t 1)),
        R.q 70 (.call 50 [(R.t 8), (R.t 69)])])
      (.reg [R.q 71 (.mov (R.t 10)),
        R.q 72 (.call 50 [(R.t 8), (R.t 71)])]))))
     (.reg [R.q 73 (.bin .add .no (R.t 65) (R.i 1)),
       R.q 65 (.mov (R.t 73))])))))))
  (.seq (.reg [R.q 74 (.call 51 [(R.t 8)]),
    R.q 4 (.mov (R.t 74))])
  .ret))))))))))
def strings_Join.rs : List RRes := [.tmp 4]
theorem strings_Join.of {xs : List AV} {d : Nat} {B : BL} {K : ARes → BL → Prop} (hn : xs.length = 2) (hB : onlyOuter B = true) (h : awp ⟨PT, 75, exitX strings_Join.rs K⟩ 10000 [.code strings_Join.rc] ⟨params 0 xs, B, .nil⟩) : CallAt PT strings_Join xs d B K :=
  call_of_awp 10000 Tryd.func42 rfl (by kernel_rfl) (by kernel_rfl) (by kernel_rfl) (by rw [hn]; decide) hB h

end F
end Go.Proofs.YtiaenejafpbfkaaDoor
