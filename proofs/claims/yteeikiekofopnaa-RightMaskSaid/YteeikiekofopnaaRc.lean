/- The program's functions, resolved (printed by a tool). -/
import Derived.Test.YteeikiekofopnaaSxo
import Derived.Test.YteeikiekofopnaaProg
import Derived.KernelRfl
namespace Go.Proofs.Yteeikiekofopnaa
open Go Go.Proofs.Yteeikiekofopnaa.Sx
namespace F
noncomputable def PT : Th Program := fun _ => Try.prog

/-! gripsack/gripsacklaw18.RightMask -/
abbrev l18_RightMask : Nat := 5
def l18_RightMask.rc : RC :=
  (.seq (.reg [⟨some 10, .mov (.val .ff), none⟩])
  (.seq (.reg [⟨some 19, .mov (.tmp 1), none⟩,
    ⟨some 20, .conv .i64 (.tmp 19), none⟩,
    ⟨some 21, .bin .rem .no (.tmp 20) (.val (.int .i64 fun _ => 8)), none⟩,
    ⟨some 22, .mov (.tmp 2), none⟩,
    ⟨some 23, .conv .i64 (.tmp 22), none⟩,
    ⟨some 24, .bin .rem .no (.tmp 23) (.val (.int .i64 fun _ => 8)), none⟩,
    ⟨some 25, .mov (.tmp 3), none⟩,
    ⟨some 26, .conv .i64 (.tmp 25), none⟩,
    ⟨some 27, .bin .rem .no (.tmp 26) (.val (.int .i64 fun _ => 8)), none⟩,
    ⟨some 28, .mov (.tmp 4), none⟩,
    ⟨some 29, .conv .i64 (.tmp 28), none⟩,
    ⟨some 30, .bin .rem .no (.tmp 29) (.val (.int .i64 fun _ => 8)), none⟩,
    ⟨some 11, .mov (.tmp 21), none⟩,
    ⟨some 12, .mov (.tmp 24), none⟩,
    ⟨some 13, .mov (.tmp 27), none⟩,
    ⟨some 14, .mov (.tmp 30), none⟩])
  (.seq (.reg [⟨some 31, .build (.cons (.int .i64 fun _ => 0) (.cons (.int .i64 fun _ => 0) (.cons (.int .i64 fun _ => 0) .nil))) [(0, 1, (.val (.int .i64 fun _ => 1)))], none⟩,
    ⟨some 32, .mov (.tmp 0), none⟩,
    ⟨some 33, .conv .i64 (.tmp 32), none⟩,
    ⟨some 34, .mov (.tmp 11), none⟩,
    ⟨some 35, .build (.cons (.int .i64 fun _ => 0) (.cons (.int .i64 fun _ => 0) (.cons (.int .i64 fun _ => 0) .nil))) [(0, 1, (.val (.int .i64 fun _ => 2))), (1, 1, (.tmp 33)), (2, 1, (.tmp 34))], none⟩,
    ⟨some 36, .build (.cons (.int .i64 fun _ => 0) (.cons (.int .i64 fun _ => 0) (.cons (.int .i64 fun _ => 0) .nil))) [(0, 1, (.val (.int .i64 fun _ => 3))), (2, 1, (.val (.int .i64 fun _ => 7)))], none⟩,
    ⟨some 37, .mov (.tmp 12), none⟩,
    ⟨some 38, .build (.cons (.int .i64 fun _ => 0) (.cons (.int .i64 fun _ => 0) (.cons (.int .i64 fun _ => 0) .nil))) [(0, 1, (.val (.int .i64 fun _ => 5))), (2, 1, (.tmp 37))], none⟩,
    ⟨some 39, .mov (.tmp 13), none⟩,
    ⟨some 40, .build (.cons (.int .i64 fun _ => 0) (.cons (.int .i64 fun _ => 0) (.cons (.int .i64 fun _ => 0) .nil))) [(0, 1, (.val (.int .i64 fun _ => 6))), (2, 1, (.tmp 39))], none⟩,
    ⟨some 41, .bslice 3 (.cons (.int .i64 fun _ => 0) (.cons (.int .i64 fun _ => 0) (.cons (.int .i64 fun _ => 0) .nil))) 5 [(0, 3, (.tmp 31)), (3, 3, (.tmp 35)), (6, 3, (.tmp 36)), (9, 3, (.tmp 38)), (12, 3, (.tmp 40))], none⟩,
    ⟨some 42, .build (.cons (.int .i64 fun _ => 0) (.cons (.int .i64 fun _ => 0) (.cons (.int .i64 fun _ => 0) (.cons (.int .i64 fun _ => 0) (.cons (.int .i64 fun _ => 0) (.cons .nsl (.cons .nsl (.cons .nsl (.cons (.int .i64 fun _ => 0) (.cons (.int .u64 fun _ => 0) (.cons (.int .u64 fun _ => 0) (.cons .ff (.cons (.int .i64 fun _ => 0) (.cons (.int .i64 fun _ => 0) .nil)))))))))))))) [(1, 1, (.val (.int .i64 fun _ => 1000))), (2, 1, (.val (.int .i64 fun _ => 1000))), (5, 1, (.tmp 41))], none⟩,
    ⟨some 15, .alloc (.cons (.int .i64 fun _ => 0) (.cons (.int .i64 fun _ => 0) (.cons (.int .i64 fun _ => 0) (.cons (.int .i64 fun _ => 0) (.cons (.int .i64 fun _ => 0) (.cons .nsl (.cons .nsl (.cons .nsl (.cons (.int .i64 fun _ => 0) (.cons (.int .u64 fun _ => 0) (.cons (.int .u64 fun _ => 0) (.cons .ff (.cons (.int .i64 fun _ => 0) (.cons (.int .i64 fun _ => 0) .nil)))))))))))))), none⟩,
    ⟨none, .store 14 (.tmp 15) (.tmp 42), none⟩])
  (.seq (.reg [⟨some 43, .mov (.tmp 0), none⟩,
    ⟨some 44, .conv .i64 (.tmp 43), none⟩,
    ⟨some 45, .build (.cons (.int .i64 fun _ => 0) (.cons (.int .i64 fun _ => 0) (.cons .nsl (.cons (.int .i64 fun _ => 0) .nil)))) [(0, 1, (.tmp 44)), (1, 1, (.val (.int .i64 fun _ => 1000)))], none⟩,
    ⟨some 16, .alloc (.cons (.int .i64 fun _ => 0) (.cons (.int .i64 fun _ => 0) (.cons .nsl (.cons (.int .i64 fun _ => 0) .nil)))), none⟩,
    ⟨none, .store 4 (.tmp 16) (.tmp 45), none⟩])
  (.seq (.reg [⟨some 46, .build (.cons (.int .i64 fun _ => 0) (.cons (.int .i64 fun _ => 0) (.cons .nsl (.cons (.int .i64 fun _ => 0) .nil)))) [(0, 1, (.val (.int .i64 fun _ => 2000))), (1, 1, (.val (.int .i64 fun _ => 1000)))], none⟩,
    ⟨some 17, .alloc (.cons (.int .i64 fun _ => 0) (.cons (.int .i64 fun _ => 0) (.cons .nsl (.cons (.int .i64 fun _ => 0) .nil)))), none⟩,
    ⟨none, .store 4 (.tmp 17) (.tmp 46), none⟩])
  (.seq (.reg [⟨some 47, .build (.cons (.int .i64 fun _ => 0) (.cons (.int .i64 fun _ => 0) (.cons .nsl (.cons (.int .i64 fun _ => 0) .nil)))) [(0, 1, (.val (.int .i64 fun _ => 2000))), (1, 1, (.val (.int .i64 fun _ => 2000)))], none⟩,
    ⟨some 18, .alloc (.cons (.int .i64 fun _ => 0) (.cons (.int .i64 fun _ => 0) (.cons .nsl (.cons (.int .i64 fun _ => 0) .nil)))), none⟩,
    ⟨none, .store 4 (.tmp 18) (.tmp 47), none⟩])
  (.seq (.reg [⟨some 48, .loadA 14 (.tmp 15), none⟩,
    ⟨some 49, .loadA 4 (.tmp 16), none⟩,
    ⟨some 50, .mov (.tmp 14), none⟩,
    ⟨some 51, .call 21 [(.tmp 48), (.tmp 49), (.tmp 50)], none⟩,
    ⟨some 52, .mov (.tmp 11), none⟩,
    ⟨some 53, .mov (.tmp 12), none⟩,
    ⟨some 54, .bin .and .no (.tmp 52) (.tmp 53), none⟩,
    ⟨some 55, .mov (.tmp 14), none⟩,
    ⟨some 56, .bin .and .no (.tmp 54) (.tmp 55), none⟩,
    ⟨some 57, .mov (.tmp 14), none⟩,
    ⟨some 58, .bin .eql .no (.tmp 56) (.tmp 57), none⟩,
    ⟨some 59, .bin .eql .bool (.tmp 51) (.tmp 58), none⟩,
    ⟨some 60, .mov (.tmp 59), none⟩,
    ⟨some 61, .loadA 14 (.tmp 15), some (60, true)⟩,
    ⟨some 62, .loadA 4 (.tmp 17), some (60, true)⟩,
    ⟨some 63, .mov (.tmp 14), some (60, true)⟩,
    ⟨some 64, .call 21 [(.tmp 61), (.tmp 62), (.tmp 63)], some (60, true)⟩,
    ⟨some 65, .mov (.tmp 12), some (60, true)⟩,
    ⟨some 66, .mov (.tmp 14), some (60, true)⟩,
    ⟨some 67, .bin .and .no (.tmp 65) (.tmp 66), some (60, true)⟩,
    ⟨some 68, .mov (.tmp 14), some (60, true)⟩,
    ⟨some 69, .bin .eql .no (.tmp 67) (.tmp 68), some (60, true)⟩,
    ⟨some 70, .bin .eql .bool (.tmp 64) (.tmp 69), some (60, true)⟩,
    ⟨some 71, .pick (.tmp 60) (.tmp 70) (.val .ff), none⟩,
    ⟨some 72, .mov (.tmp 71), none⟩,
    ⟨some 73, .loadA 14 (.tmp 15), some (72, true)⟩,
    ⟨some 74, .loadA 4 (.tmp 18), some (72, true)⟩,
    ⟨some 75, .mov (.tmp 14), some (72, true)⟩,
    ⟨some 76, .call 21 [(.tmp 73), (.tmp 74), (.tmp 75)], some (72, true)⟩,
    ⟨some 77, .mov (.tmp 13), some (72, true)⟩,
    ⟨some 78, .mov (.tmp 14), some (72, true)⟩,
    ⟨some 79, .bin .and .no (.tmp 77) (.tmp 78), some (72, true)⟩,
    ⟨some 80, .mov (.tmp 14), some (72, true)⟩,
    ⟨some 81, .bin .eql .no (.tmp 79) (.tmp 80), some (72, true)⟩,
    ⟨some 82, .bin .eql .bool (.tmp 76) (.tmp 81), some (72, true)⟩,
    ⟨some 83, .pick (.tmp 72) (.tmp 82) (.val .ff), none⟩,
    ⟨some 84, .mov (.tmp 83), none⟩,
    ⟨some 85, .loadA 14 (.tmp 15), some (84, true)⟩,
    ⟨some 86, .build (.cons (.int .i64 fun _ => 0) (.cons (.int .i64 fun _ => 0) (.cons .nsl (.cons (.int .i64 fun _ => 0) .nil)))) [(0, 1, (.val (.int .i64 fun _ => 1000)))], some (84, true)⟩,
    ⟨some 87, .mov (.tmp 14), some (84, true)⟩,
    ⟨some 88, .call 21 [(.tmp 85), (.tmp 86), (.tmp 87)], some (84, true)⟩,
    ⟨some 89, .mov (.tmp 14), some (84, true)⟩,
    ⟨some 90, .bin .eql .no (.tmp 89) (.val (.int .i64 fun _ => 0)), some (84, true)⟩,
    ⟨some 91, .bin .eql .bool (.tmp 88) (.tmp 90), some (84, true)⟩,
    ⟨some 92, .pick (.tmp 84) (.tmp 91) (.val .ff), none⟩,
    ⟨some 93, .mov (.tmp 92), none⟩,
    ⟨some 94, .call 22 [], some (93, true)⟩,
    ⟨some 95, .pick (.tmp 93) (.tmp 94) (.val .ff), none⟩,
    ⟨some 10, .mov (.tmp 95), none⟩])
  .ret)))))))
def l18_RightMask.rs : List RRes := [.tmp 10]
theorem l18_RightMask.of {xs : List AV} {d : Nat} {B : BL} {K : ARes → BL → Prop} (hn : xs.length = 5) (hB : onlyOuter B = true) (h : awp ⟨PT, 96, exitX l18_RightMask.rs K⟩ 10000 [.code l18_RightMask.rc] ⟨params 0 xs, B, .nil⟩) : CallAt PT l18_RightMask xs d B K :=
  call_of_awp 10000 Try.func5 rfl (by kernel_rfl) (by kernel_rfl) (by kernel_rfl) (by rw [hn]; decide) hB h

/-! gripsack/gripsackref9.Plain -/
abbrev r9_Plain : Nat := 18
def r9_Plain.rc : RC :=
  (.seq (.reg [⟨some 6, .alloc (.cons (.int .i64 fun _ => 0) (.cons (.int .i64 fun _ => 0) (.cons (.int .i64 fun _ => 0) (.cons (.int .i64 fun _ => 0) (.cons (.int .i64 fun _ => 0) (.cons .nsl (.cons .nsl (.cons .nsl (.cons (.int .i64 fun _ => 0) (.cons (.int .u64 fun _ => 0) (.cons (.int .u64 fun _ => 0) (.cons .ff (.cons (.int .i64 fun _ => 0) (.cons (.int .i64 fun _ => 0) .nil)))))))))))))), none⟩])
  (.seq (.reg [⟨some 7, .mov (.tmp 0), none⟩,
    ⟨some 8, .mov (.tmp 1), none⟩,
    ⟨some 9, .mov (.tmp 2), none⟩,
    ⟨some 10, .build (.cons (.int .i64 fun _ => 0) (.cons (.int .i64 fun _ => 0) (.cons (.int .i64 fun _ => 0) (.cons (.int .i64 fun _ => 0) (.cons (.int .i64 fun _ => 0) (.cons .nsl (.cons .nsl (.cons .nsl (.cons (.int .i64 fun _ => 0) (.cons (.int .u64 fun _ => 0) (.cons (.int .u64 fun _ => 0) (.cons .ff (.cons (.int .i64 fun _ => 0) (.cons (.int .i64 fun _ => 0) .nil)))))))))))))) [(0, 1, (.tmp 7)), (1, 1, (.tmp 8)), (2, 1, (.tmp 9))], none⟩,
    ⟨none, .store 14 (.tmp 6) (.tmp 10), none⟩])
  .ret))
def r9_Plain.rs : List RRes := [.cellA 6 14]
theorem r9_Plain.of {xs : List AV} {d : Nat} {B : BL} {K : ARes → BL → Prop} (hn : xs.length = 3) (hB : onlyOuter B = true) (h : awp ⟨PT, 11, exitX r9_Plain.rs K⟩ 10000 [.code r9_Plain.rc] ⟨params 0 xs, B, .nil⟩) : CallAt PT r9_Plain xs d B K :=
  call_of_awp 10000 Try.func18 rfl (by kernel_rfl) (by kernel_rfl) (by kernel_rfl) (by rw [hn]; decide) hB h

/-! gripsack/right.Can -/
abbrev right_Can : Nat := 21
def right_Can.rc : RC :=
  (.seq (.reg [⟨some 3, .box (.tmp 0), none⟩,
    ⟨some 4, .box (.tmp 1), none⟩,
    ⟨some 5, .box (.tmp 2), none⟩,
    ⟨some 6, .mov (.val .ff), none⟩])
  (.seq (.seq (.reg [⟨some 7, .load1 (.tmp 5), none⟩,
    ⟨some 8, .bin .lss .no (.tmp 7) (.val (.int .i64 fun _ => 0)), none⟩,
    ⟨some 9, .mov (.tmp 8), none⟩,
    ⟨some 10, .load1 (.tmp 5), some (9, false)⟩,
    ⟨some 11, .bin .gtr .no (.tmp 10) (.val (.int .i64 fun _ => 7)), some (9, false)⟩,
    ⟨some 12, .pick (.tmp 9) (.val .tt) (.tmp 11), none⟩])
  (.cond (.tmp 12)
    (.seq (.reg [⟨some 6, .mov (.val .ff), none⟩])
    .ret)
    .skip))
  (.seq (.reg [⟨some 13, .fld 3 (.tmp 4), none⟩,
    ⟨some 14, .load1 (.tmp 13), none⟩,
    ⟨some 15, .bin .and .no (.tmp 14) (.val (.int .i64 fun _ => 2)), none⟩,
    ⟨some 16, .bin .gtr .no (.tmp 15) (.val (.int .i64 fun _ => 0)), none⟩,
    ⟨some 17, .mov (.tmp 16), none⟩,
    ⟨some 18, .mkfn (.func 49) [] [(.tmp 3), (.tmp 4), (.tmp 5)], some (17, false)⟩,
    ⟨some 19, .call 48 [(.tmp 18)], some (17, false)⟩,
    ⟨some 20, .pick (.tmp 17) (.val .tt) (.tmp 19), none⟩,
    ⟨some 6, .mov (.tmp 20), none⟩])
  .ret)))
def right_Can.rs : List RRes := [.tmp 6]
theorem right_Can.of {xs : List AV} {d : Nat} {B : BL} {K : ARes → BL → Prop} (hn : xs.length = 3) (hB : onlyOuter B = true) (h : awp ⟨PT, 21, exitX right_Can.rs K⟩ 10000 [.code right_Can.rc] ⟨params 0 xs, B, .nil⟩) : CallAt PT right_Can xs d B K :=
  call_of_awp 10000 Try.func21 rfl (by kernel_rfl) (by kernel_rfl) (by kernel_rfl) (by rw [hn]; decide) hB h

/-! gripsack/gripsacklaw18.awake -/
abbrev l18_awake : Nat := 22
def l18_awake.rc : RC :=
  (.seq (.reg [⟨some 0, .mov (.val .ff), none⟩])
  (.seq (.reg [⟨some 2, .call 18 [(.val (.int .i64 fun _ => 256)), (.val (.int .i64 fun _ => 5)), (.val (.int .i64 fun _ => 5))], none⟩,
    ⟨some 1, .alloc (.cons (.int .i64 fun _ => 0) (.cons (.int .i64 fun _ => 0) (.cons (.int .i64 fun _ => 0) (.cons (.int .i64 fun _ => 0) (.cons (.int .i64 fun _ => 0) (.cons .nsl (.cons .nsl (.cons .nsl (.cons (.int .i64 fun _ => 0) (.cons (.int .u64 fun _ => 0) (.cons (.int .u64 fun _ => 0) (.cons .ff (.cons (.int .i64 fun _ => 0) (.cons (.int .i64 fun _ => 0) .nil)))))))))))))), none⟩,
    ⟨none, .store 14 (.tmp 1) (.tmp 2), none⟩])
  (.seq (.reg [⟨some 3, .loadA 14 (.tmp 1), none⟩,
    ⟨some 4, .build (.cons (.int .i64 fun _ => 0) (.cons (.int .i64 fun _ => 0) (.cons .nsl (.cons (.int .i64 fun _ => 0) .nil)))) [(0, 1, (.val (.int .i64 fun _ => 5)))], none⟩,
    ⟨some 5, .call 21 [(.tmp 3), (.tmp 4), (.val (.int .i64 fun _ => 4))], none⟩,
    ⟨some 6, .mov (.tmp 5), none⟩,
    ⟨some 7, .loadA 14 (.tmp 1), some (6, true)⟩,
    ⟨some 8, .build (.cons (.int .i64 fun _ => 0) (.cons (.int .i64 fun _ => 0) (.cons .nsl (.cons (.int .i64 fun _ => 0) .nil)))) [(0, 1, (.val (.int .i64 fun _ => 5)))], some (6, true)⟩,
    ⟨some 9, .call 21 [(.tmp 7), (.tmp 8), (.val (.int .i64 fun _ => 2))], some (6, true)⟩,
    ⟨some 10, .un .not (.tmp 9), some (6, true)⟩,
    ⟨some 11, .pick (.tmp 6) (.tmp 10) (.val .ff), none⟩,
    ⟨some 12, .mov (.tmp 11), none⟩,
    ⟨some 13, .loadA 14 (.tmp 1), some (12, true)⟩,
    ⟨some 14, .build (.cons (.int .i64 fun _ => 0) (.cons (.int .i64 fun _ => 0) (.cons .nsl (.cons (.int .i64 fun _ => 0) .nil)))) [(0, 1, (.val (.int .i64 fun _ => 6)))], some (12, true)⟩,
    ⟨some 15, .call 21 [(.tmp 13), (.tmp 14), (.val (.int .i64 fun _ => 4))], some (12, true)⟩,
    ⟨some 16, .un .not (.tmp 15), some (12, true)⟩,
    ⟨some 17, .pick (.tmp 12) (.tmp 16) (.val .ff), none⟩,
    ⟨some 0, .mov (.tmp 17), none⟩])
  .ret)))
def l18_awake.rs : List RRes := [.tmp 0]
theorem l18_awake.of {xs : List AV} {d : Nat} {B : BL} {K : ARes → BL → Prop} (hn : xs.length = 0) (hB : onlyOuter B = true) (h : awp ⟨PT, 18, exitX l18_awake.rs K⟩ 10000 [.code l18_awake.rc] ⟨params 0 xs, B, .nil⟩) : CallAt PT l18_awake xs d B K :=
  call_of_awp 10000 Try.func22 rfl (by kernel_rfl) (by kernel_rfl) (by kernel_rfl) (by rw [hn]; decide) hB h

/-! gripsack/right.In -/
abbrev right_In : Nat := 23
def right_In.rc : RC :=
  (.seq (.reg [⟨some 2, .box (.tmp 0), none⟩,
    ⟨some 4, .mov (.val .ff), none⟩])
  (.seq (.reg [⟨some 5, .fld 1 (.tmp 2), none⟩,
    ⟨some 6, .load1 (.tmp 5), none⟩,
    ⟨some 7, .mov (.tmp 1), none⟩,
    ⟨some 8, .bin .eql .no (.tmp 6) (.tmp 7), none⟩,
    ⟨some 9, .mov (.tmp 8), none⟩,
    ⟨some 10, .fld 2 (.tmp 2), some (9, false)⟩,
    ⟨some 11, .load1 (.tmp 10), some (9, false)⟩,
    ⟨some 12, .mov (.tmp 1), some (9, false)⟩,
    ⟨some 13, .call 51 [(.tmp 11), (.tmp 12)], some (9, false)⟩,
    ⟨some 14, .pick (.tmp 9) (.val .tt) (.tmp 13), none⟩,
    ⟨some 4, .mov (.tmp 14), none⟩])
  .ret))
def right_In.rs : List RRes := [.tmp 4]
theorem right_In.of {xs : List AV} {d : Nat} {B : BL} {K : ARes → BL → Prop} (hn : xs.length = 2) (hB : onlyOuter B = true) (h : awp ⟨PT, 15, exitX right_In.rs K⟩ 10000 [.code right_In.rc] ⟨params 0 xs, B, .nil⟩) : CallAt PT right_In xs d B K :=
  call_of_awp 10000 Try.func23 rfl (by kernel_rfl) (by kernel_rfl) (by kernel_rfl) (by rw [hn]; decide) hB h

/-! gripsack/right.look[bool] -/
abbrev right_look_bool : Nat := 48
def right_look_bool.rc : RC :=
  (.seq (.reg [⟨some 2, .alloc (.cons .ff .nil), none⟩])
  (.seq (.reg [⟨some 3, .mkfn (.func 75) [] [(.tmp 2)], none⟩,
    ⟨none, .defer (.tmp 3) [], none⟩])
  (.seq (.reg [⟨some 4, .mov (.tmp 0), none⟩,
    ⟨some 5, .callv (.tmp 4) [], none⟩,
    ⟨none, .store 1 (.tmp 2) (.tmp 5), none⟩])
  .ret)))
def right_look_bool.rs : List RRes := [.cell1 2]
theorem right_look_bool.of {xs : List AV} {d : Nat} {B : BL} {K : ARes → BL → Prop} (hn : xs.length = 1) (hB : onlyOuter B = true) (h : awp ⟨PT, 6, exitD PT right_look_bool.rs K⟩ 10000 [.code right_look_bool.rc] ⟨params 0 xs, B, .nil⟩) : CallAt PT right_look_bool xs d B K :=
  call_of_awp_d 10000 Try.func48 rfl (by kernel_rfl) (by kernel_rfl) (by kernel_rfl) (by rw [hn]; decide) hB h

/-! gripsack/right.Can$1 -/
abbrev right_Can_1 : Nat := 49
def right_Can_1.rc : RC :=
  (.seq (.reg [⟨some 3, .mov (.val .ff), none⟩])
  (.seq (.reg [⟨some 4, .loadA 14 (.tmp 0), none⟩,
    ⟨some 5, .loadA 4 (.tmp 1), none⟩,
    ⟨some 6, .load1 (.tmp 2), none⟩,
    ⟨some 7, .call 50 [(.tmp 4), (.tmp 5), (.tmp 6)], none⟩,
    ⟨some 3, .mov (.tmp 7), none⟩])
  .ret))
def right_Can_1.rs : List RRes := [.tmp 3]
theorem right_Can_1.of {xs : List AV} {d : Nat} {B : BL} {K : ARes → BL → Prop} (hn : xs.length = 3) (hB : onlyOuter B = true) (h : awp ⟨PT, 8, exitX right_Can_1.rs K⟩ 10000 [.code right_Can_1.rc] ⟨params 0 xs, B, .nil⟩) : CallAt PT right_Can_1 xs d B K :=
  call_of_awp 10000 Try.func49 rfl (by kernel_rfl) (by kernel_rfl) (by kernel_rfl) (by rw [hn]; decide) hB h

/-! gripsack/right.can -/
abbrev right_can : Nat := 50
def right_can.rc : RC :=
  (.seq (.reg [⟨some 3, .box (.tmp 0), none⟩,
    ⟨some 4, .box (.tmp 1), none⟩,
    ⟨some 5, .box (.tmp 2), none⟩,
    ⟨some 6, .mov (.val .ff), none⟩])
  (.seq (.reg [⟨some 14, .loadA 14 (.tmp 3), none⟩,
    ⟨some 15, .call 56 [(.tmp 14)], none⟩,
    ⟨some 7, .mov (.tmp 15), none⟩])
  (.seq (.reg [⟨some 16, .mkfn (.func 76) [] [(.tmp 5)], none⟩,
    ⟨some 8, .mov (.tmp 16), none⟩])
  (.seq (.seq (.reg [⟨some 17, .fld 1 (.tmp 3), none⟩,
    ⟨some 18, .load1 (.tmp 17), none⟩,
    ⟨some 19, .fld 0 (.tmp 4), none⟩,
    ⟨some 20, .load1 (.tmp 19), none⟩,
    ⟨some 21, .bin .eql .no (.tmp 18) (.tmp 20), none⟩])
  (.cond (.tmp 21)
    (.seq (.reg [⟨some 22, .mov (.tmp 8), none⟩,
      ⟨some 23, .mov (.tmp 7), none⟩,
      ⟨some 24, .call 58 [(.tmp 23), (.val (.int .i64 fun _ => 1))], none⟩,
      ⟨some 25, .callv (.tmp 22) [(.tmp 24)], none⟩,
      ⟨some 6, .mov (.tmp 25), none⟩])
    .ret)
    .skip))
  (.seq (.reg [⟨some 26, .mov (.tmp 7), none⟩,
    ⟨some 27, .call 57 [(.tmp 26)], none⟩,
    ⟨some 9, .mov (.tmp 27), none⟩])
  (.seq (.reg [⟨some 10, .mov (.val .ff), none⟩,
    ⟨some 11, .mov (.val .ff), none⟩])
  (.seq (.seq (.reg [⟨some 28, .mov (.tmp 7), none⟩,
    ⟨some 29, .len (.tmp 28), none⟩,
    ⟨some 30, .mov (.val (.int .i64 fun _ => 0)), none⟩])
  (.block 0 (.loop
     (.seq (.reg [⟨some 31, .bin .lss .no (.tmp 30) (.tmp 29), none⟩])
     (.seq (.cond (.tmp 31)
       .skip
       (.exit 0))
     (.seq (.block 1 (.seq (.reg [⟨some 32, .idx 3 (.tmp 28) (.tmp 30), none⟩,
        ⟨some 33, .loadA 3 (.tmp 32), none⟩,
        ⟨some 13, .alloc (.cons (.int .i64 fun _ => 0) (.cons (.int .i64 fun _ => 0) (.cons (.int .i64 fun _ => 0) .nil))), none⟩,
        ⟨none, .store 3 (.tmp 13) (.tmp 33), none⟩])
      (.block 2 (.seq (.reg [⟨some 35, .fld 0 (.tmp 13), none⟩,
         ⟨some 36, .load1 (.tmp 35), none⟩,
         ⟨some 37, .bin .eql .no (.tmp 36) (.val (.int .i64 fun _ => 2)), none⟩,
         ⟨some 38, .mov (.tmp 37), none⟩,
         ⟨some 39, .fld 1 (.tmp 13), some (38, true)⟩,
         ⟨some 40, .load1 (.tmp 39), some (38, true)⟩,
         ⟨some 41, .fld 0 (.tmp 4), some (38, true)⟩,
         ⟨some 42, .load1 (.tmp 41), some (38, true)⟩,
         ⟨some 43, .bin .eql .no (.tmp 40) (.tmp 42), some (38, true)⟩,
         ⟨some 44, .pick (.tmp 38) (.tmp 43) (.val .ff), none⟩,
         ⟨some 34, .mov (.tmp 44), none⟩])
       (.cond (.tmp 34)
         (.seq (.reg [⟨some 45, .mov (.tmp 8), none⟩,
           ⟨some 46, .fld 2 (.tmp 13), none⟩,
           ⟨some 47, .load1 (.tmp 46), none⟩,
           ⟨some 48, .mov (.tmp 9), none⟩,
           ⟨some 49, .bin .and .no (.tmp 47) (.tmp 48), none⟩,
           ⟨some 50, .callv (.tmp 45) [(.tmp 49)], none⟩,
           ⟨some 6, .mov (.tmp 50), none⟩])
         .ret)
         (.seq (.reg [⟨some 52, .fld 0 (.tmp 13), none⟩,
           ⟨some 53, .load1 (.tmp 52), none⟩,
           ⟨some 54, .bin .eql .no (.tmp 53) (.val (.int .i64 fun _ => 3)), none⟩,
           ⟨some 55, .mov (.tmp 54), none⟩,
           ⟨some 56, .loadA 4 (.tmp 4), some (55, true)⟩,
           ⟨some 57, .fld 2 (.tmp 3), some (55, true)⟩,
           ⟨some 58, .load1 (.tmp 57), some (55, true)⟩,
           ⟨some 59, .call 23 [(.tmp 56), (.tmp 58)], some (55, true)⟩,
           ⟨some 60, .pick (.tmp 55) (.tmp 59) (.val .ff), none⟩,
           ⟨some 61, .mov (.tmp 60), none⟩,
           ⟨some 62, .fld 0 (.tmp 13), some (61, false)⟩,
           ⟨some 63, .load1 (.tmp 62), some (61, false)⟩,
           ⟨some 64, .bin .eql .no (.tmp 63) (.val (.int .i64 fun _ => 4)), some (61, false)⟩,
           ⟨some 65, .mov (.tmp 64), some (61, false)⟩,
           ⟨some 66, .loadA 4 (.tmp 4), some (65, true)⟩,
           ⟨some 67, .fld 1 (.tmp 13), some (65, true)⟩,
           ⟨some 68, .load1 (.tmp 67), some (65, true)⟩,
           ⟨some 69, .call 23 [(.tmp 66), (.tmp 68)], some (65, true)⟩,
           ⟨some 70, .pick (.tmp 65) (.tmp 69) (.val .ff), some (61, false)⟩,
           ⟨some 71, .pick (.tmp 61) (.val .tt) (.tmp 70), none⟩,
           ⟨some 51, .mov (.tmp 71), none⟩])
         (.cond (.tmp 51)
           (.reg [⟨some 72, .mov (.tmp 11), none⟩,
             ⟨some 73, .mov (.tmp 72), none⟩,
             ⟨some 74, .mov (.tmp 8), some (73, false)⟩,
             ⟨some 75, .fld 2 (.tmp 13), some (73, false)⟩,
             ⟨some 76, .load1 (.tmp 75), some (73, false)⟩,
             ⟨some 77, .mov (.tmp 9), some (73, false)⟩,
             ⟨some 78, .bin .and .no (.tmp 76) (.tmp 77), some (73, false)⟩,
             ⟨some 79, .callv (.tmp 74) [(.tmp 78)], some (73, false)⟩,
             ⟨some 80, .pick (.tmp 73) (.val .tt) (.tmp 79), none⟩,
             ⟨some 10, .mov (.val .tt), none⟩,
             ⟨some 11, .mov (.tmp 80), none⟩])
           .skip)))))))
     (.reg [⟨some 81, .bin .add .no (.tmp 30) (.val (.int .i64 fun _ => 1)), none⟩,
       ⟨some 30, .mov (.tmp 81), none⟩])))))))
  (.seq (.seq (.reg [⟨some 82, .mov (.tmp 10), none⟩])
  (.cond (.tmp 82)
    (.seq (.reg [⟨some 83, .mov (.tmp 11), none⟩,
      ⟨some 6, .mov (.tmp 83), none⟩])
    .ret)
    .skip))
  (.seq (.reg [⟨some 84, .mov (.tmp 8), none⟩,
    ⟨some 85, .mov (.tmp 7), none⟩,
    ⟨some 86, .call 58 [(.tmp 85), (.val (.int .i64 fun _ => 6))], none⟩,
    ⟨some 87, .callv (.tmp 84) [(.tmp 86)], none⟩,
    ⟨some 6, .mov (.tmp 87), none⟩])
  .ret)))))))))
def right_can.rs : List RRes := [.tmp 6]
theorem right_can.of {xs : List AV} {d : Nat} {B : BL} {K : ARes → BL → Prop} (hn : xs.length = 3) (hB : onlyOuter B = true) (h : awp ⟨PT, 88, exitX right_can.rs K⟩ 10000 [.code right_can.rc] ⟨params 0 xs, B, .nil⟩) : CallAt PT right_can xs d B K :=
  call_of_awp 10000 Try.func50 rfl (by kernel_rfl) (by kernel_rfl) (by kernel_rfl) (by rw [hn]; decide) hB h

/-! slices.Contains[[]int,int] -/
abbrev slices_Contains_int_int : Nat := 51
def slices_Contains_int_int.rc : RC :=
  (.seq (.reg [⟨some 4, .mov (.val .ff), none⟩])
  (.seq (.reg [⟨some 5, .mov (.tmp 0), none⟩,
    ⟨some 6, .mov (.tmp 1), none⟩,
    ⟨some 7, .call 77 [(.tmp 5), (.tmp 6)], none⟩,
    ⟨some 8, .bin .geq .no (.tmp 7) (.val (.int .i64 fun _ => 0)), none⟩,
    ⟨some 4, .mov (.tmp 8), none⟩])
  .ret))
def slices_Contains_int_int.rs : List RRes := [.tmp 4]
theorem slices_Contains_int_int.of {xs : List AV} {d : Nat} {B : BL} {K : ARes → BL → Prop} (hn : xs.length = 2) (hB : onlyOuter B = true) (h : awp ⟨PT, 9, exitX slices_Contains_int_int.rs K⟩ 10000 [.code slices_Contains_int_int.rc] ⟨params 0 xs, B, .nil⟩) : CallAt PT slices_Contains_int_int xs d B K :=
  call_of_awp 10000 Try.func51 rfl (by kernel_rfl) (by kernel_rfl) (by kernel_rfl) (by rw [hn]; decide) hB h

/-! gripsack/right.of -/
abbrev right_of : Nat := 56
def right_of.rc : RC :=
  (.seq (.reg [⟨some 1, .box (.tmp 0), none⟩,
    ⟨some 2, .mov (.val .nsl), none⟩])
  (.seq (.seq (.reg [⟨some 3, .fld 5 (.tmp 1), none⟩,
    ⟨some 4, .load1 (.tmp 3), none⟩,
    ⟨some 5, .len (.tmp 4), none⟩,
    ⟨some 6, .bin .gtr .no (.tmp 5) (.val (.int .i64 fun _ => 0)), none⟩])
  (.cond (.tmp 6)
    (.seq (.reg [⟨some 7, .fld 5 (.tmp 1), none⟩,
      ⟨some 8, .load1 (.tmp 7), none⟩,
      ⟨some 2, .mov (.tmp 8), none⟩])
    .ret)
    .skip))
  (.seq (.reg [⟨some 9, .fld 0 (.tmp 1), none⟩,
    ⟨some 10, .load1 (.tmp 9), none⟩,
    ⟨some 11, .call 80 [(.tmp 10)], none⟩,
    ⟨some 2, .mov (.tmp 11), none⟩])
  .ret)))
def right_of.rs : List RRes := [.tmp 2]
theorem right_of.of {xs : List AV} {d : Nat} {B : BL} {K : ARes → BL → Prop} (hn : xs.length = 1) (hB : onlyOuter B = true) (h : awp ⟨PT, 12, exitX right_of.rs K⟩ 10000 [.code right_of.rc] ⟨params 0 xs, B, .nil⟩) : CallAt PT right_of xs d B K :=
  call_of_awp 10000 Try.func56 rfl (by kernel_rfl) (by kernel_rfl) (by kernel_rfl) (by rw [hn]; decide) hB h

/-! (gripsack/right.list).mask -/
abbrev right_list_mask : Nat := 57
def right_list_mask.rc : RC :=
  (.seq (.reg [⟨some 2, .mov (.val (.int .i64 fun _ => 0)), none⟩])
  (.seq (.seq (.reg [⟨some 3, .mov (.tmp 0), none⟩,
    ⟨some 4, .call 81 [(.tmp 3), (.val (.fn (.func 82) .nil .nil))], none⟩])
  (.cond (.tmp 4)
    (.seq (.reg [⟨some 5, .mov (.tmp 0), none⟩,
      ⟨some 6, .call 58 [(.tmp 5), (.val (.int .i64 fun _ => 5))], none⟩,
      ⟨some 2, .mov (.tmp 6), none⟩])
    .ret)
    .skip))
  (.seq (.reg [⟨some 2, .mov (.val (.int .i64 fun _ => 7)), none⟩])
  .ret)))
def right_list_mask.rs : List RRes := [.tmp 2]
theorem right_list_mask.of {xs : List AV} {d : Nat} {B : BL} {K : ARes → BL → Prop} (hn : xs.length = 1) (hB : onlyOuter B = true) (h : awp ⟨PT, 7, exitX right_list_mask.rs K⟩ 10000 [.code right_list_mask.rc] ⟨params 0 xs, B, .nil⟩) : CallAt PT right_list_mask xs d B K :=
  call_of_awp 10000 Try.func57 rfl (by kernel_rfl) (by kernel_rfl) (by kernel_rfl) (by rw [hn]; decide) hB h

/-! (gripsack/right.list).perm -/
abbrev right_list_perm : Nat := 58
def right_list_perm.rc : RC :=
  (.seq (.reg [⟨some 3, .box (.tmp 1), none⟩,
    ⟨some 4, .mov (.val (.int .i64 fun _ => 0)), none⟩])
  (.seq (.reg [⟨some 6, .mov (.tmp 0), none⟩,
    ⟨some 7, .mkfn (.func 84) [] [(.tmp 3)], none⟩,
    ⟨some 8, .call 83 [(.tmp 6), (.tmp 7)], none⟩,
    ⟨some 5, .mov (.tmp 8), none⟩])
  (.seq (.seq (.reg [⟨some 9, .mov (.tmp 5), none⟩,
    ⟨some 10, .bin .lss .no (.tmp 9) (.val (.int .i64 fun _ => 0)), none⟩])
  (.cond (.tmp 10)
    (.reg [⟨some 11, .load1 (.tmp 3), none⟩,
      ⟨some 12, .build (.cons (.int .i64 fun _ => 0) .nil) [(0, 1, (.tmp 11))], none⟩,
      ⟨some 13, .mkif 103 (.tmp 12), none⟩,
      ⟨none, .panic (.tmp 13), none⟩])
    .skip))
  (.seq (.reg [⟨some 14, .mov (.tmp 0), none⟩,
    ⟨some 15, .mov (.tmp 5), none⟩,
    ⟨some 16, .idx 3 (.tmp 14) (.tmp 15), none⟩,
    ⟨some 17, .fld 2 (.tmp 16), none⟩,
    ⟨some 18, .load1 (.tmp 17), none⟩,
    ⟨some 4, .mov (.tmp 18), none⟩])
  .ret))))
def right_list_perm.rs : List RRes := [.tmp 4]
theorem right_list_perm.of {xs : List AV} {d : Nat} {B : BL} {K : ARes → BL → Prop} (hn : xs.length = 2) (hB : onlyOuter B = true) (h : awp ⟨PT, 19, exitX right_list_perm.rs K⟩ 10000 [.code right_list_perm.rc] ⟨params 0 xs, B, .nil⟩) : CallAt PT right_list_perm xs d B K :=
  call_of_awp 10000 Try.func58 rfl (by kernel_rfl) (by kernel_rfl) (by kernel_rfl) (by rw [hn]; decide) hB h

/-! gripsack/right.look[bool]$1 -/
abbrev right_look_bool_1 : Nat := 75
def right_look_bool_1.rc : RC :=
  (.seq (.reg [⟨some 6, .mov (.tmp 1), none⟩,
    ⟨some 7, .bin .neq (.ifc true) (.tmp 6) (.val .nif), none⟩])
  (.cond (.tmp 7)
    (.seq (.seq (.reg [⟨some 9, .mov (.tmp 1), none⟩,
      ⟨some 10, .assert 103 (.agg (.cons (.int .i64 fun _ => 0) .nil)) (.tmp 9), none⟩,
      ⟨some 8, .mov (.tmp 10), none⟩,
      ⟨some 11, .ext 0 (.tmp 8), none⟩,
      ⟨some 12, .ext 1 (.tmp 8), none⟩,
      ⟨some 2, .alloc (.cons (.int .i64 fun _ => 0) .nil), none⟩,
      ⟨none, .store 1 (.tmp 2) (.tmp 11), none⟩,
      ⟨some 3, .mov (.tmp 12), none⟩])
    (.seq (.reg [⟨some 13, .mov (.tmp 3), none⟩,
      ⟨some 14, .un .not (.tmp 13), none⟩])
    (.cond (.tmp 14)
      (.reg [⟨some 15, .mov (.tmp 1), none⟩,
        ⟨none, .panic (.tmp 15), none⟩])
      .skip)))
    (.seq (.reg [⟨some 4, .mov (.val .ff), none⟩])
    (.reg [⟨some 16, .mov (.tmp 4), none⟩,
      ⟨none, .store 1 (.tmp 0) (.tmp 16), none⟩])))
    .skip))
def right_look_bool_1.rs : List RRes := []
theorem right_look_bool_1.of {pn : Bool} {pv : AV} {xs : List AV} {B : BL} {K : BL → Prop} (hn : xs.length = 1) (hB : onlyOuter B = true) (hpv : pn = false → pv = .nif) (h : awp ⟨PT, 17, exitC K⟩ 10000 [.code right_look_bool_1.rc] ⟨.cons 1 pv (.cons 5 pv (params 0 xs)), B, .nil⟩) : DefAt PT right_look_bool_1 pn (pv :: xs) B K :=
  def_of_awp 10000 Try.func75 rfl (by kernel_rfl) (by kernel_rfl) rfl (by rw [hn]; decide) (by decide) (by decide) hB hpv h

/-! gripsack/right.can$1 -/
abbrev right_can_1 : Nat := 76
def right_can_1.rc : RC :=
  (.seq (.reg [⟨some 3, .mov (.val .ff), none⟩])
  (.seq (.reg [⟨some 4, .mov (.tmp 0), none⟩,
    ⟨some 5, .load1 (.tmp 1), none⟩,
    ⟨some 6, .bin .and .no (.tmp 4) (.tmp 5), none⟩,
    ⟨some 7, .load1 (.tmp 1), none⟩,
    ⟨some 8, .bin .eql .no (.tmp 6) (.tmp 7), none⟩,
    ⟨some 3, .mov (.tmp 8), none⟩])
  .ret))
def right_can_1.rs : List RRes := [.tmp 3]
theorem right_can_1.of {xs : List AV} {d : Nat} {B : BL} {K : ARes → BL → Prop} (hn : xs.length = 2) (hB : onlyOuter B = true) (h : awp ⟨PT, 9, exitX right_can_1.rs K⟩ 10000 [.code right_can_1.rc] ⟨params 0 xs, B, .nil⟩) : CallAt PT right_can_1 xs d B K :=
  call_of_awp 10000 Try.func76 rfl (by kernel_rfl) (by kernel_rfl) (by kernel_rfl) (by rw [hn]; decide) hB h

/-! slices.Index[[]int,int] -/
abbrev slices_Index_int_int : Nat := 77
def slices_Index_int_int.rc : RC :=
  (.seq (.reg [⟨some 4, .mov (.val (.int .i64 fun _ => 0)), none⟩])
  (.seq (.seq (.reg [⟨some 6, .mov (.tmp 0), none⟩,
    ⟨some 7, .len (.tmp 6), none⟩,
    ⟨some 8, .mov (.val (.int .i64 fun _ => 0)), none⟩])
  (.block 0 (.loop
     (.seq (.reg [⟨some 9, .bin .lss .no (.tmp 8) (.tmp 7), none⟩])
     (.seq (.cond (.tmp 9)
       .skip
       (.exit 0))
     (.seq (.block 1 (.seq (.reg [⟨some 10, .mov (.tmp 8), none⟩,
        ⟨some 5, .mov (.tmp 10), none⟩])
      (.seq (.reg [⟨some 11, .mov (.tmp 1), none⟩,
        ⟨some 12, .mov (.tmp 0), none⟩,
        ⟨some 13, .mov (.tmp 5), none⟩,
        ⟨some 14, .idx 1 (.tmp 12) (.tmp 13), none⟩,
        ⟨some 15, .load1 (.tmp 14), none⟩,
        ⟨some 16, .bin .eql .no (.tmp 11) (.tmp 15), none⟩])
      (.cond (.tmp 16)
        (.seq (.reg [⟨some 17, .mov (.tmp 5), none⟩,
          ⟨some 4, .mov (.tmp 17), none⟩])
        .ret)
        .skip))))
     (.reg [⟨some 18, .bin .add .no (.tmp 8) (.val (.int .i64 fun _ => 1)), none⟩,
       ⟨some 8, .mov (.tmp 18), none⟩])))))))
  (.seq (.reg [⟨some 4, .mov (.val (.int .i64 fun _ => (-1))), none⟩])
  .ret)))
def slices_Index_int_int.rs : List RRes := [.tmp 4]
theorem slices_Index_int_int.of {xs : List AV} {d : Nat} {B : BL} {K : ARes → BL → Prop} (hn : xs.length = 2) (hB : onlyOuter B = true) (h : awp ⟨PT, 19, exitX slices_Index_int_int.rs K⟩ 10000 [.code slices_Index_int_int.rc] ⟨params 0 xs, B, .nil⟩) : CallAt PT slices_Index_int_int xs d B K :=
  call_of_awp 10000 Try.func77 rfl (by kernel_rfl) (by kernel_rfl) (by kernel_rfl) (by rw [hn]; decide) hB h

/-! gripsack/acl.From -/
abbrev acl_From : Nat := 80
def acl_From.rc : RC :=
  (.seq (.reg [⟨some 2, .mov (.val .nsl), none⟩])
  (.seq (.reg [⟨some 3, .mov (.tmp 0), none⟩,
    ⟨some 4, .bin .and .no (.tmp 3) (.val (.int .i64 fun _ => 511)), none⟩,
    ⟨some 0, .mov (.tmp 4), none⟩])
  (.seq (.reg [⟨some 5, .mov (.tmp 0), none⟩,
    ⟨some 6, .bin .shr .no (.tmp 5) (.val (.int .u64 fun _ => 6)), none⟩,
    ⟨some 7, .build (.cons (.int .i64 fun _ => 0) (.cons (.int .i64 fun _ => 0) (.cons (.int .i64 fun _ => 0) .nil))) [(0, 1, (.val (.int .i64 fun _ => 1))), (2, 1, (.tmp 6))], none⟩,
    ⟨some 8, .mov (.tmp 0), none⟩,
    ⟨some 9, .bin .shr .no (.tmp 8) (.val (.int .u64 fun _ => 3)), none⟩,
    ⟨some 10, .bin .and .no (.tmp 9) (.val (.int .i64 fun _ => 7)), none⟩,
    ⟨some 11, .build (.cons (.int .i64 fun _ => 0) (.cons (.int .i64 fun _ => 0) (.cons (.int .i64 fun _ => 0) .nil))) [(0, 1, (.val (.int .i64 fun _ => 3))), (2, 1, (.tmp 10))], none⟩,
    ⟨some 12, .mov (.tmp 0), none⟩,
    ⟨some 13, .bin .and .no (.tmp 12) (.val (.int .i64 fun _ => 7)), none⟩,
    ⟨some 14, .build (.cons (.int .i64 fun _ => 0) (.cons (.int .i64 fun _ => 0) (.cons (.int .i64 fun _ => 0) .nil))) [(0, 1, (.val (.int .i64 fun _ => 6))), (2, 1, (.tmp 13))], none⟩,
    ⟨some 15, .bslice 3 (.cons (.int .i64 fun _ => 0) (.cons (.int .i64 fun _ => 0) (.cons (.int .i64 fun _ => 0) .nil))) 3 [(0, 3, (.tmp 7)), (3, 3, (.tmp 11)), (6, 3, (.tmp 14))], none⟩,
    ⟨some 2, .mov (.tmp 15), none⟩])
  .ret)))
def acl_From.rs : List RRes := [.tmp 2]
theorem acl_From.of {xs : List AV} {d : Nat} {B : BL} {K : ARes → BL → Prop} (hn : xs.length = 1) (hB : onlyOuter B = true) (h : awp ⟨PT, 16, exitX acl_From.rs K⟩ 10000 [.code acl_From.rc] ⟨params 0 xs, B, .nil⟩) : CallAt PT acl_From xs d B K :=
  call_of_awp 10000 Try.func80 rfl (by kernel_rfl) (by kernel_rfl) (by kernel_rfl) (by rw [hn]; decide) hB h

/-! slices.ContainsFunc[gripsack/right.list,gripsack/api.Ace] -/
abbrev slices_ContainsFunc_right_list_api_Ace : Nat := 81
def slices_ContainsFunc_right_list_api_Ace.rc : RC :=
  (.seq (.reg [⟨some 4, .mov (.val .ff), none⟩])
  (.seq (.reg [⟨some 5, .mov (.tmp 0), none⟩,
    ⟨some 6, .mov (.tmp 1), none⟩,
    ⟨some 7, .call 83 [(.tmp 5), (.tmp 6)], none⟩,
    ⟨some 8, .bin .geq .no (.tmp 7) (.val (.int .i64 fun _ => 0)), none⟩,
    ⟨some 4, .mov (.tmp 8), none⟩])
  .ret))
def slices_ContainsFunc_right_list_api_Ace.rs : List RRes := [.tmp 4]
theorem slices_ContainsFunc_right_list_api_Ace.of {xs : List AV} {d : Nat} {B : BL} {K : ARes → BL → Prop} (hn : xs.length = 2) (hB : onlyOuter B = true) (h : awp ⟨PT, 9, exitX slices_ContainsFunc_right_list_api_Ace.rs K⟩ 10000 [.code slices_ContainsFunc_right_list_api_Ace.rc] ⟨params 0 xs, B, .nil⟩) : CallAt PT slices_ContainsFunc_right_list_api_Ace xs d B K :=
  call_of_awp 10000 Try.func81 rfl (by kernel_rfl) (by kernel_rfl) (by kernel_rfl) (by rw [hn]; decide) hB h

/-! (gripsack/right.list).mask$1 -/
abbrev right_list_mask_1 : Nat := 82
def right_list_mask_1.rc : RC :=
  (.seq (.reg [⟨some 1, .box (.tmp 0), none⟩,
    ⟨some 2, .mov (.val .ff), none⟩])
  (.seq (.reg [⟨some 3, .fld 0 (.tmp 1), none⟩,
    ⟨some 4, .load1 (.tmp 3), none⟩,
    ⟨some 5, .bin .eql .no (.tmp 4) (.val (.int .i64 fun _ => 5)), none⟩,
    ⟨some 2, .mov (.tmp 5), none⟩])
  .ret))
def right_list_mask_1.rs : List RRes := [.tmp 2]
theorem right_list_mask_1.of {xs : List AV} {d : Nat} {B : BL} {K : ARes → BL → Prop} (hn : xs.length = 1) (hB : onlyOuter B = true) (h : awp ⟨PT, 6, exitX right_list_mask_1.rs K⟩ 10000 [.code right_list_mask_1.rc] ⟨params 0 xs, B, .nil⟩) : CallAt PT right_list_mask_1 xs d B K :=
  call_of_awp 10000 Try.func82 rfl (by kernel_rfl) (by kernel_rfl) (by kernel_rfl) (by rw [hn]; decide) hB h

/-! slices.IndexFunc[gripsack/right.list,gripsack/api.Ace] -/
abbrev slices_IndexFunc_right_list_api_Ace : Nat := 83
def slices_IndexFunc_right_list_api_Ace.rc : RC :=
  (.seq (.reg [⟨some 4, .mov (.val (.int .i64 fun _ => 0)), none⟩])
  (.seq (.seq (.reg [⟨some 6, .mov (.tmp 0), none⟩,
    ⟨some 7, .len (.tmp 6), none⟩,
    ⟨some 8, .mov (.val (.int .i64 fun _ => 0)), none⟩])
  (.block 0 (.loop
     (.seq (.reg [⟨some 9, .bin .lss .no (.tmp 8) (.tmp 7), none⟩])
     (.seq (.cond (.tmp 9)
       .skip
       (.exit 0))
     (.seq (.block 1 (.seq (.reg [⟨some 10, .mov (.tmp 8), none⟩,
        ⟨some 5, .mov (.tmp 10), none⟩])
      (.seq (.reg [⟨some 11, .mov (.tmp 1), none⟩,
        ⟨some 12, .mov (.tmp 0), none⟩,
        ⟨some 13, .mov (.tmp 5), none⟩,
        ⟨some 14, .idx 3 (.tmp 12) (.tmp 13), none⟩,
        ⟨some 15, .loadA 3 (.tmp 14), none⟩,
        ⟨some 16, .callv (.tmp 11) [(.tmp 15)], none⟩])
      (.cond (.tmp 16)
        (.seq (.reg [⟨some 17, .mov (.tmp 5), none⟩,
          ⟨some 4, .mov (.tmp 17), none⟩])
        .ret)
        .skip))))
     (.reg [⟨some 18, .bin .add .no (.tmp 8) (.val (.int .i64 fun _ => 1)), none⟩,
       ⟨some 8, .mov (.tmp 18), none⟩])))))))
  (.seq (.reg [⟨some 4, .mov (.val (.int .i64 fun _ => (-1))), none⟩])
  .ret)))
def slices_IndexFunc_right_list_api_Ace.rs : List RRes := [.tmp 4]
theorem slices_IndexFunc_right_list_api_Ace.of {xs : List AV} {d : Nat} {B : BL} {K : ARes → BL → Prop} (hn : xs.length = 2) (hB : onlyOuter B = true) (h : awp ⟨PT, 19, exitX slices_IndexFunc_right_list_api_Ace.rs K⟩ 10000 [.code slices_IndexFunc_right_list_api_Ace.rc] ⟨params 0 xs, B, .nil⟩) : CallAt PT slices_IndexFunc_right_list_api_Ace xs d B K :=
  call_of_awp 10000 Try.func83 rfl (by kernel_rfl) (by kernel_rfl) (by kernel_rfl) (by rw [hn]; decide) hB h

/-! (gripsack/right.list).perm$1 -/
abbrev right_list_perm_1 : Nat := 84
def right_list_perm_1.rc : RC :=
  (.seq (.reg [⟨some 2, .box (.tmp 0), none⟩,
    ⟨some 3, .mov (.val .ff), none⟩])
  (.seq (.reg [⟨some 4, .fld 0 (.tmp 2), none⟩,
    ⟨some 5, .load1 (.tmp 4), none⟩,
    ⟨some 6, .load1 (.tmp 1), none⟩,
    ⟨some 7, .bin .eql .no (.tmp 5) (.tmp 6), none⟩,
    ⟨some 3, .mov (.tmp 7), none⟩])
  .ret))
def right_list_perm_1.rs : List RRes := [.tmp 3]
theorem right_list_perm_1.of {xs : List AV} {d : Nat} {B : BL} {K : ARes → BL → Prop} (hn : xs.length = 2) (hB : onlyOuter B = true) (h : awp ⟨PT, 8, exitX right_list_perm_1.rs K⟩ 10000 [.code right_list_perm_1.rc] ⟨params 0 xs, B, .nil⟩) : CallAt PT right_list_perm_1 xs d B K :=
  call_of_awp 10000 Try.func84 rfl (by kernel_rfl) (by kernel_rfl) (by kernel_rfl) (by rw [hn]; decide) hB h

end F
end Go.Proofs.Yteeikiekofopnaa
