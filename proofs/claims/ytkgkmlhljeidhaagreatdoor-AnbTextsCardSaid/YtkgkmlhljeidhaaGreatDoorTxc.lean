/- Part of a proof: the small language, and functions of the program on it. -/
import Derived.Test.YtkgkmlhljeidhaaGreatDoorTxb
import Derived.Test.YtkgkmlhljeidhaaGreatDoorChecked
set_option linter.unusedSimpArgs false
set_option linter.unusedVariables false
set_option maxRecDepth 100000
namespace Go.Proofs.YtkgkmlhljeidhaaGreatDoor
open Go.Ev
def mvF (d s : Nat) : Step := ⟨some d, none, .mv (.t s) false⟩
def mvT (d s : Nat) : Step := ⟨some d, none, .mv (.t s) true⟩
def c_Z16 : Ev.Fn := ⟨79, [.tmp 4], false, false, (.seq (.ops 0 [⟨some 4, none, .mv (.c (.bool false)) false⟩]) (.seq (.seq (.ops 1 [⟨some 11, none, .call 9 []⟩, ⟨some 12, none, .un .not (.t 11)⟩]) (.cond (.t 12) (.seq (.ops 2 [⟨some 4, none, .mv (.c (.bool false)) false⟩]) .ret) .skip)) (.seq (.seq (.ops 3 [mvF 13 0, ⟨some 14, none, .bin .lss .no (.t 13) (.c (.int .i64 (-1099511627776)))⟩, mvF 15 14, ⟨some 16, (some (15, false)), .mv (.t 0) false⟩, ⟨some 17, (some (15, false)), .bin .gtr .no (.t 16) (.c (.int .i64 1099511627776))⟩, ⟨some 18, none, .pick (.t 15) (.c (.bool true)) (.t 17)⟩, mvF 19 18, ⟨some 20, (some (19, false)), .mv (.t 1) false⟩, ⟨some 21, (some (19, false)), .bin .lss .no (.t 20) (.c (.int .i64 (-1099511627776)))⟩, ⟨some 22, none, .pick (.t 19) (.c (.bool true)) (.t 21)⟩, mvF 23 22, ⟨some 24, (some (23, false)), .mv (.t 1) false⟩, ⟨some 25, (some (23, false)), .bin .gtr .no (.t 24) (.c (.int .i64 1099511627776))⟩, ⟨some 26, none, .pick (.t 23) (.c (.bool true)) (.t 25)⟩]) (.cond (.t 26) (.seq (.ops 4 [⟨some 4, none, .mv (.c (.bool true)) false⟩]) .ret) .skip)) (.seq (.ops 5 [mvF 27 0, mvF 28 1, ⟨some 29, none, .call 21 [(.t 27), (.t 28)]⟩, mvF 5 29]) (.seq (.seq (.ops 6 [mvF 30 5, mvF 31 0, mvF 32 1, ⟨some 33, none, .call 22 [(.t 31), (.t 32)]⟩, ⟨some 34, none, .bin .neq .no (.t 30) (.t 33)⟩]) (.cond (.t 34) (.seq (.ops 7 [⟨some 4, none, .mv (.c (.bool false)) false⟩]) .ret) .skip)) (.seq (.ops 8 [mvF 35 5, ⟨some 36, none, .conv .strBytes (.t 35)⟩, ⟨some 37, none, .call 14 [.t 36]⟩, mvT 6 37]) (.seq (.ops 9 [mvF 39 6, ⟨some 40, none, .call 13 [.t 39]⟩, mvF 38 40, ⟨some 41, none, .extr (.t 38) 0⟩, ⟨some 42, none, .extr (.t 38) 1⟩, ⟨some 43, none, .extr (.t 38) 2⟩, ⟨some 44, none, .extr (.t 38) 3⟩, mvF 7 41, mvF 8 42, mvF 9 43, mvF 10 44]) (.seq (.seq (.ops 10 [mvF 45 0, mvF 46 0, ⟨some 47, none, .un .neg (.t 46)⟩, ⟨some 48, none, .mm true [(.t 45), (.t 47)]⟩, ⟨some 49, none, .bin .gtr .no (.t 48) (.c (.int .i64 2147483647))⟩, mvF 50 49, ⟨some 51, (some (50, false)), .mv (.t 1) false⟩, ⟨some 52, (some (50, false)), .mv (.t 1) false⟩, ⟨some 53, (some (50, false)), .un .neg (.t 52)⟩, ⟨some 54, (some (50, false)), .mm true [(.t 51), (.t 53)]⟩, ⟨some 55, (some (50, false)), .bin .gtr .no (.t 54) (.c (.int .i64 2147483647))⟩, ⟨some 56, none, .pick (.t 50) (.c (.bool true)) (.t 55)⟩]) (.cond (.t 56) (.seq (.ops 11 [mvF 57 10, ⟨some 58, none, .call 18 [.t 57]⟩, ⟨some 59, none, .bin .eql .no (.t 58) (.c (.int .i64 3))⟩, mvF 4 59]) .ret) .skip)) (.seq (.ops 12 [mvF 60 10, ⟨some 61, none, .bin .eql .ifc (.t 60) (.c .nili)⟩, mvF 62 61, ⟨some 63, (some (62, true)), .mv (.t 7) false⟩, ⟨some 64, (some (62, true)), .mv (.t 0) false⟩, ⟨some 65, (some (62, true)), .bin .eql .no (.t 63) (.t 64)⟩, ⟨some 66, none, .pick (.t 62) (.t 65) (.c (.bool false))⟩, mvF 67 66, ⟨some 68, (some (67, true)), .mv (.t 8) false⟩, ⟨some 69, (some (67, true)), .mv (.t 1) false⟩, ⟨some 70, (some (67, true)), .bin .eql .no (.t 68) (.t 69)⟩, ⟨some 71, none, .pick (.t 67) (.t 70) (.c (.bool false))⟩, mvF 72 71, ⟨some 73, (some (72, true)), .mv (.t 9) false⟩, ⟨some 74, (some (72, true)), .mv (.t 6) true⟩, ⟨some 75, (some (72, true)), .len (.t 74)⟩, ⟨some 76, (some (72, true)), .bin .sub .no (.t 75) (.c (.int .i64 1))⟩, ⟨some 77, (some (72, true)), .bin .eql .no (.t 73) (.t 76)⟩, ⟨some 78, none, .pick (.t 72) (.t 77) (.c (.bool false))⟩, mvF 4 78]) .ret)))))))))⟩
theorem ok_c_Z16 : chkFn Tryz.prog 8 c_Z16 = true := chkFn_of Tryz.func8 (by kernel_rfl)
def s_Z16 (M : Mach) (a0 a1 : V) (σ : Objs) : Ro :=
 bd (M.call 9 [] σ) fun p0 =>
 bd (pu (evUn .not p0.1.ng)) fun x1 =>
  br x1.ng (
 bd (oK false (.bool false)) (nK σ.length p0.2)) (
 bd (pu (eB .lss .no a0.ng.ng (.int .i64 (-1099511627776)))) fun x2 =>
 bd (gdv x2.ng false (some a0.ng)) fun x3 =>
 bd (gdv x2.ng false (pu (eB .gtr .no x3.ng (.int .i64 1099511627776)))) fun x4 =>
 bd (pu (pV x2.ng.ng (.bool true) x4.ng)) fun x5 =>
 bd (gdv x5.ng false (some a1.ng)) fun x6 =>
 bd (gdv x5.ng false (pu (eB .lss .no x6.ng (.int .i64 (-1099511627776))))) fun x7 =>
 bd (pu (pV x5.ng.ng (.bool true) x7.ng)) fun x8 =>
 bd (gdv x8.ng false (some a1.ng)) fun x9 =>
 bd (gdv x8.ng false (pu (eB .gtr .no x9.ng (.int .i64 1099511627776)))) fun x10 =>
 bd (pu (pV x8.ng.ng (.bool true) x10.ng)) fun x11 =>
  br x11.ng (
 bd (oK false (.bool true)) (nK σ.length p0.2)) (
 bd (M.call 21 [a0.ng.ng, a1.ng.ng] p0.2) fun p12 =>
 bd (M.call 22 [a0.ng.ng, a1.ng.ng] p12.2) fun p13 =>
 bd (pu (eB .neq .no p12.1.ng.ng.ng p13.1.ng)) fun x14 =>
  br x14.ng (
 bd (oK false (.bool false)) (nK σ.length p13.2)) (
 bd (eC p13.2 .strBytes p12.1.ng.ng.ng) fun x15 =>
 bd (M.call 14 [x15.ng] p13.2) fun p16 =>
 bd (M.call 13 [p16.1.ng.ng] p16.2) fun p17 =>
 bd (pu (eX 0 p17.1.ng.ng)) fun x18 =>
 bd (pu (eX 1 p17.1.ng.ng)) fun x19 =>
 bd (pu (eX 2 p17.1.ng.ng)) fun x20 =>
 bd (pu (eX 3 p17.1.ng.ng)) fun x21 =>
 bd (pu (evUn .neg a0.ng.ng)) fun x22 =>
 bd (pu (mmV true [a0.ng.ng, x22.ng])) fun x23 =>
 bd (pu (eB .gtr .no x23.ng (.int .i64 2147483647))) fun x24 =>
 bd (gdv x24.ng false (some a1.ng)) fun x25 =>
 bd (gdv x24.ng false (some a1.ng)) fun x26 =>
 bd (gdv x24.ng false (pu (evUn .neg x26.ng))) fun x27 =>
 bd (gdv x24.ng false (pu (mmV true [x25.ng, x27.ng]))) fun x28 =>
 bd (gdv x24.ng false (pu (eB .gtr .no x28.ng (.int .i64 2147483647)))) fun x29 =>
 bd (pu (pV x24.ng.ng (.bool true) x29.ng)) fun x30 =>
  br x30.ng (
 bd (M.call 18 [x21.ng.ng.ng] p17.2) fun p31 =>
 bd (pu (eB .eql .no p31.1.ng (.int .i64 3))) fun x32 =>
 bd (oK false x32.ng) (nK σ.length p31.2)) (
 bd (pu (eB .eql .ifc x21.ng.ng.ng .nili)) fun x33 =>
 bd (gdv x33.ng true (some x18.ng.ng)) fun x34 =>
 bd (gdv x33.ng true (some a0.ng)) fun x35 =>
 bd (gdv x33.ng true (pu (eB .eql .no x34.ng x35.ng))) fun x36 =>
 bd (pu (pV x33.ng.ng x36.ng (.bool false))) fun x37 =>
 bd (gdv x37.ng true (some x19.ng.ng)) fun x38 =>
 bd (gdv x37.ng true (some a1.ng)) fun x39 =>
 bd (gdv x37.ng true (pu (eB .eql .no x38.ng x39.ng))) fun x40 =>
 bd (pu (pV x37.ng.ng x40.ng (.bool false))) fun x41 =>
 bd (gdv x41.ng true (some x20.ng.ng)) fun x42 =>
  gd x41.ng true (
 bd (gdv x41.ng true (pu (evLen p16.1.ng))) fun x43 =>
 bd (gdv x41.ng true (pu (eB .sub .no x43.ng (.int .i64 1)))) fun x44 =>
 bd (gdv x41.ng true (pu (eB .eql .no x42.ng x44.ng))) fun x45 =>
 bd (pu (pV x41.ng.ng x45.ng (.bool false))) fun x46 =>
 bd (oK false x46.ng) (nK σ.length p17.2)) (
 bd (gdv x41.ng true (pu (evLen .undef))) fun x47 =>
 bd (gdv x41.ng true (pu (eB .sub .no x47.ng (.int .i64 1)))) fun x48 =>
 bd (gdv x41.ng true (pu (eB .eql .no x42.ng x48.ng))) fun x49 =>
 bd (pu (pV x41.ng.ng x49.ng (.bool false))) fun x50 =>
 bd (oK false x50.ng) (nK σ.length p17.2))))))
theorem k_Z16 (M : Mach) (a0 a1 : V) (σ : Objs) : fnK M c_Z16 [a0, a1] σ = s_Z16 M a0 a1 σ := by kernel_rfl
def c_Z17 : Ev.Fn := ⟨41, [.tmp 0], false, false, (.seq (.ops 0 [⟨some 0, none, .mv (.c (.bool false)) false⟩]) (.seq (.ops 1 [⟨some 6, none, .buildG false 1 6 (.int .u8 0) [(0, (.c (.int .u8 50))), (1, (.c (.int .u8 110))), (2, (.c (.int .u8 32))), (3, (.c (.int .u8 43))), (4, (.c (.int .u8 32))), (5, (.c (.int .u8 49)))]⟩, ⟨some 7, none, .mark (.t 6)⟩, ⟨some 8, none, .call 14 [.t 7]⟩, ⟨some 9, none, .call 13 [.t 8]⟩, mvF 5 9, ⟨some 10, none, .extr (.t 5) 0⟩, ⟨some 11, none, .extr (.t 5) 1⟩, ⟨some 12, none, .extr (.t 5) 2⟩, ⟨some 13, none, .extr (.t 5) 3⟩, mvF 1 10, mvF 2 11, mvF 3 12, mvF 4 13]) (.seq (.ops 2 [mvF 14 4, ⟨some 15, none, .bin .eql .ifc (.t 14) (.c .nili)⟩, mvF 16 15, ⟨some 17, (some (16, true)), .mv (.t 1) false⟩, ⟨some 18, (some (16, true)), .bin .eql .no (.t 17) (.c (.int .i64 2))⟩, ⟨some 19, none, .pick (.t 16) (.t 18) (.c (.bool false))⟩, mvF 20 19, ⟨some 21, (some (20, true)), .mv (.t 2) false⟩, ⟨some 22, (some (20, true)), .bin .eql .no (.t 21) (.c (.int .i64 1))⟩, ⟨some 23, none, .pick (.t 20) (.t 22) (.c (.bool false))⟩, mvF 24 23, ⟨some 25, (some (24, true)), .mv (.t 3) false⟩, ⟨some 26, (some (24, true)), .bin .eql .no (.t 25) (.c (.int .i64 5))⟩, ⟨some 27, none, .pick (.t 24) (.t 26) (.c (.bool false))⟩, mvF 28 27, ⟨some 29, (some (28, true)), .call 10 [(.c (.int .i64 (-1))), (.c (.int .i64 3)), (.c (.int .i64 1))]⟩, ⟨some 30, none, .pick (.t 28) (.t 29) (.c (.bool false))⟩, mvF 31 30, ⟨some 32, (some (31, true)), .call 10 [(.c (.int .i64 (-1))), (.c (.int .i64 3)), (.c (.int .i64 2))]⟩, ⟨some 33, none, .pick (.t 31) (.t 32) (.c (.bool false))⟩, mvF 34 33, ⟨some 35, (some (34, true)), .call 10 [(.c (.int .i64 (-1))), (.c (.int .i64 3)), (.c (.int .i64 3))]⟩, ⟨some 36, none, .pick (.t 34) (.t 35) (.c (.bool false))⟩, mvF 37 36, ⟨some 38, (some (37, true)), .call 10 [(.c (.int .i64 (-1))), (.c (.int .i64 3)), (.c (.int .i64 4))]⟩, ⟨some 39, (some (37, true)), .un .not (.t 38)⟩, ⟨some 40, none, .pick (.t 37) (.t 39) (.c (.bool false))⟩, mvF 0 40]) .ret)))⟩
theorem ok_c_Z17 : chkFn Tryz.prog 9 c_Z17 = true := chkFn_of Tryz.func9 (by kernel_rfl)
def s_Z17 (M : Mach) (σ : Objs) : Ro :=
 bd (buildGV false 1 6 (.int .u8 0) [(0, (.int .u8 50)), (1, (.int .u8 110)), (2, (.int .u8 32)), (3, (.int .u8 43)), (4, (.int .u8 32)), (5, (.int .u8 49))]) fun x0 =>
 bd (markV x0) fun x1 =>
 bd (M.call 14 [x1.ng] σ) fun p2 =>
 bd (M.call 13 [p2.1.ng] p2.2) fun p3 =>
 bd (pu (eX 0 p3.1.ng.ng)) fun x4 =>
 bd (pu (eX 1 p3.1.ng.ng)) fun x5 =>
 bd (pu (eX 2 p3.1.ng.ng)) fun x6 =>
 bd (pu (eX 3 p3.1.ng.ng)) fun x7 =>
 bd (pu (eB .eql .ifc x7.ng.ng.ng .nili)) fun x8 =>
 bd (gdv x8.ng true (some x4.ng.ng)) fun x9 =>
 bd (gdv x8.ng true (pu (eB .eql .no x9.ng (.int .i64 2)))) fun x10 =>
 bd (pu (pV x8.ng.ng x10.ng (.bool false))) fun x11 =>
 bd (gdv x11.ng true (some x5.ng.ng)) fun x12 =>
 bd (gdv x11.ng true (pu (eB .eql .no x12.ng (.int .i64 1)))) fun x13 =>
 bd (pu (pV x11.ng.ng x13.ng (.bool false))) fun x14 =>
 bd (gdv x14.ng true (some x6.ng.ng)) fun x15 =>
 bd (gdv x14.ng true (pu (eB .eql .no x15.ng (.int .i64 5)))) fun x16 =>
 bd (pu (pV x14.ng.ng x16.ng (.bool false))) fun x17 =>
 bd (gdp x17.ng true (M.call 10 [(.int .i64 (-1)), (.int .i64 3), (.int .i64 1)] p3.2) p3.2) fun p18 =>
 bd (pu (pV x17.ng.ng p18.1.ng (.bool false))) fun x19 =>
 bd (gdp x19.ng true (M.call 10 [(.int .i64 (-1)), (.int .i64 3), (.int .i64 2)] p18.2) p18.2) fun p20 =>
 bd (pu (pV x19.ng.ng p20.1.ng (.bool false))) fun x21 =>
 bd (gdp x21.ng true (M.call 10 [(.int .i64 (-1)), (.int .i64 3), (.int .i64 3)] p20.2) p20.2) fun p22 =>
 bd (pu (pV x21.ng.ng p22.1.ng (.bool false))) fun x23 =>
 bd (gdp x23.ng true (M.call 10 [(.int .i64 (-1)), (.int .i64 3), (.int .i64 4)] p22.2) p22.2) fun p24 =>
 bd (gdv x23.ng true (pu (evUn .not p24.1.ng))) fun x25 =>
 bd (pu (pV x23.ng.ng x25.ng (.bool false))) fun x26 =>
 bd (oK false x26.ng) (nK σ.length p24.2)
theorem k_Z17 (M : Mach) (σ : Objs) : fnK M c_Z17 [] σ = s_Z17 M σ := by kernel_rfl
def c_Z9 : Ev.Fn := ⟨37, [.tmp 6], false, false, (.seq (.ops 0 [⟨some 6, none, .mv (.c (.bool false)) false⟩]) (.seq (.seq (.ops 1 [mvF 7 2, ⟨some 8, none, .bin .lss .no (.t 7) (.c (.int .i64 1))⟩]) (.cond (.t 8) (.seq (.ops 2 [⟨some 6, none, .mv (.c (.bool false)) false⟩]) .ret) .skip)) (.seq (.seq (.ops 3 [mvF 9 0, ⟨some 10, none, .bin .eql .no (.t 9) (.c (.int .i64 0))⟩, mvF 11 10, ⟨some 12, (some (11, false)), .mv (.t 2) false⟩, ⟨some 13, (some (11, false)), .mv (.t 1) false⟩, ⟨some 14, (some (11, false)), .bin .eql .no (.t 12) (.t 13)⟩, ⟨some 15, none, .pick (.t 11) (.c (.bool true)) (.t 14)⟩]) (.cond (.t 15) (.seq (.ops 4 [mvF 16 2, mvF 17 1, ⟨some 18, none, .bin .eql .no (.t 16) (.t 17)⟩, mvF 6 18]) .ret) .skip)) (.seq (.seq (.ops 5 [mvF 19 2, mvF 20 1, ⟨some 21, none, .bin .gtr .no (.t 19) (.t 20)⟩, mvF 22 0, ⟨some 23, none, .bin .gtr .no (.t 22) (.c (.int .i64 0))⟩, ⟨some 24, none, .bin .neq .bool (.t 21) (.t 23)⟩]) (.cond (.t 24) (.seq (.ops 6 [⟨some 6, none, .mv (.c (.bool false)) false⟩]) .ret) .skip)) (.seq (.ops 7 [mvF 25 2, ⟨some 26, none, .conv (.toInt .u64) (.t 25)⟩, mvF 27 1, ⟨some 28, none, .conv (.toInt .u64) (.t 27)⟩, ⟨some 29, none, .bin .sub .no (.t 26) (.t 28)⟩, mvF 30 0, ⟨some 31, none, .call 23 [.t 30]⟩, ⟨some 32, none, .bin .mul .no (.t 29) (.t 31)⟩, mvF 33 0, ⟨some 34, none, .call 24 [.t 33]⟩, ⟨some 35, none, .bin .rem .no (.t 32) (.t 34)⟩, ⟨some 36, none, .bin .eql .no (.t 35) (.c (.int .u64 0))⟩, mvF 6 36]) .ret)))))⟩
theorem ok_c_Z9 : chkFn Tryz.prog 10 c_Z9 = true := chkFn_of Tryz.func10 (by kernel_rfl)
def s_Z9 (M : Mach) (a0 a1 a2 : V) (σ : Objs) : Ro :=
 bd (pu (eB .lss .no a2.ng.ng (.int .i64 1))) fun x0 =>
  br x0.ng (
 bd (oK false (.bool false)) (nK σ.length σ)) (
 bd (pu (eB .eql .no a0.ng.ng (.int .i64 0))) fun x1 =>
 bd (gdv x1.ng false (some a2.ng)) fun x2 =>
 bd (gdv x1.ng false (some a1.ng)) fun x3 =>
 bd (gdv x1.ng false (pu (eB .eql .no x2.ng x3.ng))) fun x4 =>
 bd (pu (pV x1.ng.ng (.bool true) x4.ng)) fun x5 =>
  br x5.ng (
 bd (pu (eB .eql .no a2.ng.ng a1.ng.ng)) fun x6 =>
 bd (oK false x6.ng) (nK σ.length σ)) (
 bd (pu (eB .gtr .no a2.ng.ng a1.ng.ng)) fun x7 =>
 bd (pu (eB .gtr .no a0.ng.ng (.int .i64 0))) fun x8 =>
 bd (pu (eB .neq .bool x7.ng x8.ng)) fun x9 =>
  br x9.ng (
 bd (oK false (.bool false)) (nK σ.length σ)) (
 bd (pu (eC σ (.toInt .u64) a2.ng.ng)) fun x10 =>
 bd (pu (eC σ (.toInt .u64) a1.ng.ng)) fun x11 =>
 bd (pu (eB .sub .no x10.ng x11.ng)) fun x12 =>
 bd (M.call 23 [a0.ng.ng] σ) fun p13 =>
 bd (pu (eB .mul .no x12.ng p13.1.ng)) fun x14 =>
 bd (M.call 24 [a0.ng.ng] p13.2) fun p15 =>
 bd (pu (eB .rem .no x14.ng p15.1.ng)) fun x16 =>
 bd (pu (eB .eql .no x16.ng (.int .u64 0))) fun x17 =>
 bd (oK false x17.ng) (nK σ.length p15.2))))
theorem k_Z9 (M : Mach) (a0 a1 a2 : V) (σ : Objs) : fnK M c_Z9 [a0, a1, a2] σ = s_Z9 M a0 a1 a2 σ := by kernel_rfl
def c_Z1u : Ev.Fn := ⟨7, [.tmp 2], false, false, (.seq (.ops 0 [⟨some 2, none, .mv (.c .nils) false⟩]) (.seq (.ops 1 [mvT 3 0, ⟨some 4, none, .call 32 [.t 3]⟩, ⟨some 5, none, .call 31 [.t 4]⟩, ⟨some 6, none, .call 30 [.t 5]⟩, mvT 2 6]) .ret))⟩
theorem ok_c_Z1u : chkFn Tryz.prog 14 c_Z1u = true := chkFn_of Tryz.func14 (by kernel_rfl)
def s_Z1u (M : Mach) (a0 : V) (σ : Objs) : Ro :=
 bd (M.call 32 [a0.ng] σ) fun p0 =>
 bd (M.call 31 [p0.1.ng] p0.2) fun p1 =>
 bd (M.call 30 [p1.1.ng] p1.2) fun p2 =>
 bd (oK false p2.1) (nK σ.length p2.2)
theorem k_Z1u (M : Mach) (a0 : V) (σ : Objs) : fnK M c_Z1u [a0] σ = s_Z1u M a0 σ := by kernel_rfl
def c_Za : Ev.Fn := ⟨58, [.tmp 2, .tmp 3, .tmp 4, .tmp 5], false, false, (.seq (.ops 0 [⟨some 2, none, .mv (.c (.int .i64 0)) false⟩, ⟨some 3, none, .mv (.c (.int .i64 0)) false⟩, ⟨some 4, none, .mv (.c (.int .i64 0)) false⟩, ⟨some 5, none, .mv (.c .nili) false⟩]) (.seq (.ops 1 [mvT 9 0, ⟨some 10, none, .build [.nils, (.int .i64 0), .nili] [(0, 1, (.t 9))]⟩, ⟨some 11, none, .box (.t 10)⟩, mvF 6 11]) (.seq (.ops 2 [mvF 12 6, mvF 13 6, ⟨some 14, none, .call 25 [(.t 13), (.c (.int .i64 0))]⟩, ⟨some 15, none, .nilc (.t 12)⟩, ⟨some 16, none, .faddr 1 (.t 15)⟩, ⟨none, none, .store 1 (.t 16) (.t 14) false⟩]) (.seq (.ops 3 [mvF 18 6, ⟨some 19, none, .call 26 [.t 18]⟩, mvF 17 19, ⟨some 20, none, .extr (.t 17) 0⟩, ⟨some 21, none, .extr (.t 17) 1⟩, ⟨some 22, none, .extr (.t 17) 2⟩, mvF 2 20, mvF 3 21, mvF 7 22]) (.seq (.seq (.ops 4 [mvF 23 7, ⟨some 24, none, .un .not (.t 23)⟩]) (.cond (.t 24) (.seq (.ops 5 [⟨some 8, none, .mv (.c (.str [])) false⟩]) (.seq (.ops 6 [mvF 26 6, ⟨some 27, none, .call 27 [.t 26]⟩, mvF 25 27, ⟨some 28, none, .extr (.t 25) 0⟩, ⟨some 29, none, .extr (.t 25) 1⟩, ⟨some 30, none, .extr (.t 25) 2⟩, mvF 2 28, mvF 8 29, mvF 7 30]) (.seq (.ops 7 [mvF 31 7]) (.cond (.t 31) (.ops 8 [mvF 33 6, mvF 34 8, ⟨some 35, none, .call 28 [(.t 33), (.t 34)]⟩, mvF 32 35, ⟨some 36, none, .extr (.t 32) 0⟩, ⟨some 37, none, .extr (.t 32) 1⟩, mvF 3 36, mvF 7 37]) .skip)))) .skip)) (.seq (.block 0 (.seq (.ops 9 [mvF 39 7, ⟨some 40, none, .un .not (.t 39)⟩, mvF 38 40]) (.cond (.t 38) (.seq (.ops 10 [⟨some 41, none, .call 29 [(.c (.int .i64 10)), (.c (.int .i64 0))]⟩, ⟨some 2, none, .mv (.c (.int .i64 0)) false⟩, ⟨some 3, none, .mv (.c (.int .i64 0)) false⟩, ⟨some 4, none, .mv (.c (.int .i64 0)) false⟩, mvF 5 41]) .ret) (.seq (.ops 11 [mvF 43 6, ⟨some 44, none, .nilc (.t 43)⟩, ⟨some 45, none, .faddr 2 (.t 44)⟩, ⟨some 46, none, .load false 1 (.t 45)⟩, ⟨some 47, none, .bin .neq .ifc (.t 46) (.c .nili)⟩, mvF 42 47]) (.cond (.t 42) (.seq (.drw 12 [⟨mvF 48 6, 0, []⟩, ⟨⟨some 49, none, .nilc (.t 48)⟩, 1, []⟩, ⟨⟨some 50, none, .faddr 2 (.t 49)⟩, 2, []⟩, ⟨⟨some 51, none, .load false 1 (.t 50)⟩, 3, []⟩, ⟨⟨some 2, none, .mv (.c (.int .i64 0)) false⟩, 4, []⟩, ⟨⟨some 3, none, .mv (.c (.int .i64 0)) false⟩, 5, []⟩, ⟨⟨some 4, none, .mv (.c (.int .i64 0)) false⟩, 6, []⟩, ⟨mvF 5 51, 7, []⟩]) .ret) .skip))))) (.seq (.drw 13 [⟨mvF 52 2, 0, []⟩, ⟨mvF 53 3, 1, []⟩, ⟨mvF 54 6, 2, []⟩, ⟨⟨some 55, none, .nilc (.t 54)⟩, 3, []⟩, ⟨⟨some 56, none, .faddr 1 (.t 55)⟩, 4, []⟩, ⟨⟨some 57, none, .load false 1 (.t 56)⟩, 5, []⟩, ⟨mvF 2 52, 6, []⟩, ⟨mvF 3 53, 7, []⟩, ⟨mvF 4 57, 8, []⟩, ⟨⟨some 5, none, .mv (.c .nili) false⟩, 9, []⟩]) .ret)))))))⟩
theorem ok_c_Za : chkFn Tryz.prog 13 c_Za = true := chkFn_of Tryz.func13 (by kernel_rfl)
def j_Za_0 (M : Mach) (n0 : Nat) (z2 z3 z6 z7 : V) (σ : Objs) : Ro :=
 bd (pu (evUn .not z7.ng.ng)) fun x10 =>
  br x10.ng.ng (
 bd (M.call 29 [(.int .i64 10), (.int .i64 0)] σ) fun p11 =>
  nK n0 p11.2 (.tup [(.int .i64 0), (.int .i64 0), (.int .i64 0), p11.1.ng.ng])) (
 bd (pu (evNilc z6.ng.ng)) fun x12 =>
 bd (pu (eF 2 x12.ng)) fun x13 =>
 bd (pu (eL σ false 1 x13.ng)) fun x14 =>
 bd (pu (eB .neq .ifc x14.ng .nili)) fun x15 =>
  br x15.ng.ng (
 bd (pu (evNilc z6.ng.ng)) fun x16 =>
 bd (pu (eF 2 x16.ng)) fun x17 =>
 bd (pu (eL σ false 1 x17.ng)) fun x18 =>
  nK n0 σ (.tup [(.int .i64 0), (.int .i64 0), (.int .i64 0), x18.ng.ng])) (
 bd (pu (evNilc z6.ng.ng)) fun x19 =>
 bd (pu (eF 1 x19.ng)) fun x20 =>
 bd (pu (eL σ false 1 x20.ng)) fun x21 =>
  nK n0 σ (.tup [z2.ng.ng.ng, z3.ng.ng.ng, x21.ng.ng, .nili])))
def s_Za (M : Mach) (a0 : V) (σ : Objs) : Ro :=
 bd (pu (buildV [.nils, (.int .i64 0), .nili] [(0, 1, a0.ng)])) fun x0 =>
 bd (boxV σ x0.ng) fun p1 =>
 bd (M.call 25 [p1.1.ng.ng.ng, (.int .i64 0)] p1.2) fun p2 =>
 bd (pu (evNilc p1.1.ng.ng.ng)) fun x3 =>
 bd (pu (eF 1 x3.ng)) fun x4 =>
 bd (stV p2.2 1 x4.ng p2.1.ng p2.1.ng) fun p5 =>
 bd (M.call 26 [p1.1.ng.ng.ng] p5.2) fun p6 =>
 bd (pu (eX 0 p6.1.ng.ng)) fun x7 =>
 bd (pu (eX 1 p6.1.ng.ng)) fun x8 =>
 bd (pu (eX 2 p6.1.ng.ng)) fun x9 =>
 bd (pu (evUn .not x9.ng.ng.ng)) fun x22 =>
  br x22.ng (
 bd (M.call 27 [p1.1.ng.ng.ng] p6.2) fun p23 =>
 bd (pu (eX 0 p23.1.ng.ng)) fun x24 =>
 bd (pu (eX 1 p23.1.ng.ng)) fun x25 =>
 bd (pu (eX 2 p23.1.ng.ng)) fun x26 =>
  br x26.ng.ng.ng (
 bd (M.call 28 [p1.1.ng.ng.ng, x25.ng.ng.ng] p23.2) fun p27 =>
 bd (pu (eX 0 p27.1.ng.ng)) fun x28 =>
 bd (pu (eX 1 p27.1.ng.ng)) fun x29 =>
  j_Za_0 M σ.length x24.ng x28.ng p1.1.ng x29.ng p27.2) (
  j_Za_0 M σ.length x24.ng x8.ng p1.1.ng x26.ng p23.2)) (
  j_Za_0 M σ.length x7.ng x8.ng p1.1.ng x9.ng p6.2)
theorem k_Za (M : Mach) (a0 : V) (σ : Objs) : fnK M c_Za [a0] σ = s_Za M a0 σ := by kernel_rfl
def c_Zc : Ev.Fn := ⟨53, [.tmp 2, .tmp 3], false, false, (.seq (.ops 0 [⟨some 2, none, .mv (.c (.int .i64 0)) false⟩, ⟨some 3, none, .mv (.c .nili) false⟩]) (.seq (.ops 1 [mvF 9 0, ⟨some 10, none, .call 33 [(.t 9), (.c (.str [43, 45]))]⟩, mvF 4 10]) (.seq (.seq (.ops 2 [mvF 11 4, ⟨some 12, none, .bin .eql .no (.t 11) (.c (.str []))⟩, mvF 13 12, ⟨some 14, (some (13, false)), .mv (.t 0) false⟩, ⟨some 15, (some (13, false)), .lenS (.t 14)⟩, ⟨some 16, (some (13, false)), .mv (.t 4) false⟩, ⟨some 17, (some (13, false)), .lenS (.t 16)⟩, ⟨some 18, (some (13, false)), .bin .sub .no (.t 15) (.t 17)⟩, ⟨some 19, (some (13, false)), .bin .gtr .no (.t 18) (.c (.int .i64 1))⟩, ⟨some 20, none, .pick (.t 13) (.c (.bool true)) (.t 19)⟩]) (.cond (.t 20) (.seq (.ops 3 [⟨some 21, none, .call 29 [(.c (.int .i64 10)), (.c (.int .i64 0))]⟩, ⟨some 2, none, .mv (.c (.int .i64 0)) false⟩, mvF 3 21]) .ret) .skip)) (.seq (.ops 4 [⟨some 5, none, .mv (.c (.int .i64 0)) false⟩, ⟨some 6, none, .mv (.c (.bool false)) false⟩]) (.seq (.seq (.ops 5 [mvF 22 4, ⟨some 23, none, .conv .strBytes (.t 22)⟩, ⟨some 24, none, .len (.t 23)⟩, ⟨some 25, none, .mv (.c (.int .i64 0)) false⟩]) (.block 0 (.loop [0, 5, 6, 23, 24, 25] [0, 2, 3, 5, 6] (.seq (.ops 6 [⟨some 26, none, .bin .lss .no (.t 25) (.t 24)⟩]) (.seq (.cond (.t 26) .skip (.exit 0)) (.seq (.block 1 (.seq (.ops 7 [⟨some 27, none, .iaddr 1 (.t 23) (.t 25)⟩, ⟨some 28, none, .load false 1 (.t 27)⟩, mvF 8 28]) (.seq (.seq (.ops 8 [mvF 29 8, ⟨some 30, none, .conv (.toInt .i64) (.t 29)⟩, ⟨some 31, none, .call 34 [.t 30]⟩, ⟨some 32, none, .un .not (.t 31)⟩]) (.cond (.t 32) (.seq (.ops 9 [⟨some 33, none, .call 29 [(.c (.int .i64 10)), (.c (.int .i64 0))]⟩, ⟨some 2, none, .mv (.c (.int .i64 0)) false⟩, mvF 3 33]) .ret) .skip)) (.seq (.ops 10 [mvF 34 5, ⟨some 35, none, .bin .mul .no (.t 34) (.c (.int .i64 10))⟩, mvF 36 8, ⟨some 37, none, .bin .sub .no (.t 36) (.c (.int .u8 48))⟩, ⟨some 38, none, .conv (.toInt .i64) (.t 37)⟩, ⟨some 39, none, .bin .add .no (.t 35) (.t 38)⟩, mvF 5 39]) (.seq (.ops 11 [mvF 40 5, ⟨some 41, none, .bin .gtr .no (.t 40) (.c (.int .i64 2147483647))⟩]) (.cond (.t 41) (.ops 12 [⟨some 5, none, .mv (.c (.int .i64 2147483647)) false⟩, ⟨some 6, none, .mv (.c (.bool true)) false⟩]) .skip)))))) (.ops 13 [⟨some 42, none, .bin .add .no (.t 25) (.c (.int .i64 1))⟩, mvF 25 42]))))))) (.seq (.block 2 (.seq (.ops 14 [mvF 44 6, mvF 43 44]) (.cond (.t 43) (.seq (.ops 15 [⟨some 45, none, .call 29 [(.c (.int .i64 3)), (.c (.int .i64 0))]⟩, ⟨some 2, none, .mv (.c (.int .i64 0)) false⟩, mvF 3 45]) .ret) (.seq (.ops 16 [mvF 47 0, ⟨some 48, none, .idx (.t 47) (.c (.int .i64 0))⟩, ⟨some 49, none, .bin .eql .no (.t 48) (.c (.int .u8 45))⟩, mvF 46 49]) (.cond (.t 46) (.ops 17 [mvF 50 5, ⟨some 51, none, .un .neg (.t 50)⟩, mvF 5 51]) .skip))))) (.seq (.ops 18 [mvF 52 5, mvF 2 52, ⟨some 3, none, .mv (.c .nili) false⟩]) .ret)))))))⟩
theorem ok_c_Zc : chkFn Tryz.prog 15 c_Zc = true := chkFn_of Tryz.func15 (by kernel_rfl)
def j_Zc_0 (M : Mach) (n0 : Nat) (n1 : Nat) (r1 : Rk) (z0 z5 z6 z23 z24 z25 : V) (σ : Objs) : Ro :=
 bd (pu (eB .add .no z25.ng (.int .i64 1))) fun x13 =>
 bd (fz n1 σ fzD z0) fun y14 =>
 bd (fz n1 σ fzD z5) fun y15 =>
 bd (fz n1 σ fzD z6) fun y16 =>
 bd (fz n1 σ fzD z23) fun y17 =>
 bd (fz n1 σ fzD z24) fun y18 =>
 bd (fz n1 σ fzD x13.ng) fun y19 =>
 bd (cuO n1 σ) fun s20 => r1 [y14, y15, y16, y17, y18, y19] s20
def j_Zc_1 (M : Mach) (n0 : Nat) (z5 : V) (σ : Objs) : Ro :=
  nK n0 σ (.tup [z5.ng.ng.ng, .nili])
def b_Zc_0 (M : Mach) (n0 : Nat) (n1 : Nat) (r1 : Rk) (z0 z5 z6 z23 z24 z25 : V) (σ : Objs) : Ro :=
 bd (pu (eB .lss .no z25.ng z24.ng)) fun x12 =>
  br x12.ng (
 bd (pu (eI 1 z25.ng z23.ng)) fun x21 =>
 bd (pu (eL σ false 1 x21.ng)) fun x22 =>
 bd (pu (eC σ (.toInt .i64) x22.ng.ng.ng)) fun x23 =>
 bd (M.call 34 [x23.ng] σ) fun p24 =>
 bd (pu (evUn .not p24.1.ng)) fun x25 =>
  br x25.ng (
 bd (M.call 29 [(.int .i64 10), (.int .i64 0)] p24.2) fun p26 =>
 bd (fz n1 p26.2 fzD z0) fun y27 =>
 bd (fz n1 p26.2 fzD (.int .i64 0)) fun y28 =>
 bd (fz n1 p26.2 fzD p26.1.ng) fun y29 =>
 bd (fz n1 p26.2 fzD z5) fun y30 =>
 bd (fz n1 p26.2 fzD z6) fun y31 =>
 bd (cuO n1 p26.2) fun s32 =>
  nK n0 s32 (.tup [y28.ng, y29.ng])) (
 bd (pu (eB .mul .no z5.ng.ng (.int .i64 10))) fun x33 =>
 bd (pu (eB .sub .no x22.ng.ng.ng (.int .u8 48))) fun x34 =>
 bd (pu (eC p24.2 (.toInt .i64) x34.ng)) fun x35 =>
 bd (pu (eB .add .no x33.ng x35.ng)) fun x36 =>
 bd (pu (eB .gtr .no x36.ng.ng.ng (.int .i64 2147483647))) fun x37 =>
  br x37.ng (
  j_Zc_0 M n0 n1 r1 z0 (.int .i64 2147483647) (.bool true) z23 z24 z25 p24.2) (
  j_Zc_0 M n0 n1 r1 z0 x36.ng z6 z23 z24 z25 p24.2))) (
 bd (fz n1 σ fzD z0) fun y38 =>
 bd (fz n1 σ fzD .any) fun y39 =>
 bd (fz n1 σ fzD .any) fun y40 =>
 bd (fz n1 σ fzD z5) fun y41 =>
 bd (fz n1 σ fzD z6) fun y42 =>
 bd (cuO n1 σ) fun s43 =>
  br y42.ng.ng.ng (
 bd (M.call 29 [(.int .i64 3), (.int .i64 0)] s43) fun p44 =>
  nK n0 p44.2 (.tup [(.int .i64 0), p44.1.ng.ng])) (
 bd (pu (evIdx (.int .i64 0) y38.ng.ng)) fun x45 =>
 bd (pu (eB .eql .no x45.ng (.int .u8 45))) fun x46 =>
  br x46.ng.ng (
 bd (pu (evUn .neg y41.ng.ng)) fun x47 =>
  j_Zc_1 M n0 x47.ng s43) (
  j_Zc_1 M n0 y41 s43)))
def l_Zc_0 (M : Mach) (n0 : Nat) (n1 : Nat) : Rk := M.fx fun rec vs σ => b_Zc_0 M n0 n1 rec (vs.getD 0 .undef) (vs.getD 1 .undef) (vs.getD 2 .undef) (vs.getD 3 .undef) (vs.getD 4 .undef) (vs.getD 5 .undef) σ
def s_Zc (M : Mach) (a0 : V) (σ : Objs) : Ro :=
 bd (M.call 33 [a0.ng.ng, (.str [43, 45])] σ) fun p0 =>
 bd (pu (eB .eql .no p0.1.ng.ng.ng (.str []))) fun x1 =>
 bd (gdv x1.ng false (some a0.ng)) fun x2 =>
 bd (gdv x1.ng false (pu (evLenS x2.ng))) fun x3 =>
 bd (gdv x1.ng false (some p0.1.ng.ng)) fun x4 =>
 bd (gdv x1.ng false (pu (evLenS x4.ng))) fun x5 =>
 bd (gdv x1.ng false (pu (eB .sub .no x3.ng x5.ng))) fun x6 =>
 bd (gdv x1.ng false (pu (eB .gtr .no x6.ng (.int .i64 1)))) fun x7 =>
 bd (pu (pV x1.ng.ng (.bool true) x7.ng)) fun x8 =>
  br x8.ng (
 bd (M.call 29 [(.int .i64 10), (.int .i64 0)] p0.2) fun p9 =>
  nK σ.length p9.2 (.tup [(.int .i64 0), p9.1.ng.ng])) (
 bd (eC p0.2 .strBytes p0.1.ng.ng.ng) fun x10 =>
 bd (pu (evLen x10.ng)) fun x11 =>
 bd (fz p0.2.length p0.2 fzD a0) fun y48 =>
 bd (fz p0.2.length p0.2 fzD (.int .i64 0)) fun y49 =>
 bd (fz p0.2.length p0.2 fzD (.bool false)) fun y50 =>
 bd (fz p0.2.length p0.2 fzD x10) fun y51 =>
 bd (fz p0.2.length p0.2 fzD x11) fun y52 =>
 bd (fz p0.2.length p0.2 fzD (.int .i64 0)) fun y53 =>
  l_Zc_0 M σ.length p0.2.length [y48, y49, y50, y51, y52, y53] p0.2)
theorem k_Zc (M : Mach) (a0 : V) (σ : Objs) : fnK M c_Zc [a0] σ = s_Zc M a0 σ := by kernel_rfl
def c_Zb : Ev.Fn := ⟨29, [.tmp 4], false, false, (.seq (.ops 0 [⟨some 4, none, .mv (.c (.str [])) false⟩]) (.seq (.ops 1 [⟨some 5, none, .mv (.c (.str [])) false⟩]) (.seq (.seq (.ops 2 [mvF 6 0]) (.block 0 (.seq (.ops 4 [⟨some 11, none, .bin .eql .no (.t 6) (.c (.int .i64 0))⟩, mvF 10 11]) (.cond (.t 10) (.seq (.ops 5 [mvF 12 1, ⟨some 13, none, .call 39 [.t 12]⟩, mvF 4 13]) .ret) (.seq (.ops 6 [⟨some 15, none, .bin .eql .no (.t 6) (.c (.int .i64 1))⟩, mvF 14 15]) (.cond (.t 14) (.ops 7 [⟨some 5, none, .mv (.c (.str [110])) false⟩]) (.seq (.ops 8 [⟨some 17, none, .bin .eql .no (.t 6) (.c (.int .i64 (-1)))⟩, mvF 16 17]) (.cond (.t 16) (.ops 9 [⟨some 5, none, .mv (.c (.str [45, 110])) false⟩]) (.ops 3 [mvF 7 0, ⟨some 8, none, .call 39 [.t 7]⟩, ⟨some 9, none, .bin .add .no (.t 8) (.c (.str [110]))⟩, mvF 5 9]))))))))) (.seq (.seq (.ops 10 [mvF 18 1, ⟨some 19, none, .bin .gtr .no (.t 18) (.c (.int .i64 0))⟩]) (.cond (.t 19) (.ops 11 [mvF 20 5, ⟨some 21, none, .bin .add .no (.t 20) (.c (.str [43]))⟩, mvF 5 21]) .skip)) (.seq (.seq (.ops 12 [mvF 22 1, ⟨some 23, none, .bin .neq .no (.t 22) (.c (.int .i64 0))⟩]) (.cond (.t 23) (.ops 13 [mvF 24 5, mvF 25 1, ⟨some 26, none, .call 39 [.t 25]⟩, ⟨some 27, none, .bin .add .no (.t 24) (.t 26)⟩, mvF 5 27]) .skip)) (.seq (.ops 14 [mvF 28 5, mvF 4 28]) .ret))))))⟩
theorem ok_c_Zb : chkFn Tryz.prog 21 c_Zb = true := chkFn_of Tryz.func21 (by kernel_rfl)
def j_Zb_2 (M : Mach) (n0 : Nat) (z5 : V) (σ : Objs) : Ro :=
 bd (oK false z5.ng.ng) (nK n0 σ)
def j_Zb_1 (M : Mach) (n0 : Nat) (z1 z5 : V) (σ : Objs) : Ro :=
 bd (pu (eB .neq .no z1.ng.ng (.int .i64 0))) fun x0 =>
  br x0.ng (
 bd (M.call 39 [z1.ng.ng] σ) fun p1 =>
 bd (pu (eB .add .no z5.ng.ng p1.1.ng)) fun x2 =>
  j_Zb_2 M n0 x2.ng p1.2) (
  j_Zb_2 M n0 z5 σ)
def j_Zb_0 (M : Mach) (n0 : Nat) (z1 z5 : V) (σ : Objs) : Ro :=
 bd (pu (eB .gtr .no z1.ng.ng (.int .i64 0))) fun x3 =>
  br x3.ng (
 bd (pu (eB .add .no z5.ng.ng (.str [43]))) fun x4 =>
  j_Zb_1 M n0 z1 x4.ng σ) (
  j_Zb_1 M n0 z1 z5 σ)
def s_Zb (M : Mach) (a0 a1 : V) (σ : Objs) : Ro :=
 bd (pu (eB .eql .no a0.ng.ng (.int .i64 0))) fun x5 =>
  br x5.ng.ng (
 bd (M.call 39 [a1.ng.ng] σ) fun p6 =>
 bd (oK false p6.1.ng) (nK σ.length p6.2)) (
 bd (pu (eB .eql .no a0.ng.ng (.int .i64 1))) fun x7 =>
  br x7.ng.ng (
  j_Zb_0 M σ.length a1 (.str [110]) σ) (
 bd (pu (eB .eql .no a0.ng.ng (.int .i64 (-1)))) fun x8 =>
  br x8.ng.ng (
  j_Zb_0 M σ.length a1 (.str [45, 110]) σ) (
 bd (M.call 39 [a0.ng.ng] σ) fun p9 =>
 bd (pu (eB .add .no p9.1.ng (.str [110]))) fun x10 =>
  j_Zb_0 M σ.length a1 x10.ng p9.2)))
theorem k_Zb (M : Mach) (a0 a1 : V) (σ : Objs) : fnK M c_Zb [a0, a1] σ = s_Zb M a0 a1 σ := by kernel_rfl
def c_Z2c : Ev.Fn := ⟨31, [.tmp 4], false, false, (.seq (.ops 0 [⟨some 4, none, .mv (.c (.str [])) false⟩]) (.seq (.seq (.ops 1 [mvF 6 0, ⟨some 7, none, .bin .eql .no (.t 6) (.c (.int .i64 0))⟩]) (.cond (.t 7) (.seq (.ops 2 [mvF 8 1, ⟨some 9, none, .call 40 [.t 8]⟩, mvF 4 9]) .ret) .skip)) (.seq (.ops 3 [mvF 10 0, ⟨some 11, none, .call 40 [.t 10]⟩, ⟨some 12, none, .bin .add .no (.t 11) (.c (.str [110]))⟩, mvF 5 12]) (.seq (.seq (.ops 4 [mvF 13 0, ⟨some 14, none, .bin .eql .no (.t 13) (.c (.int .i64 1))⟩]) (.cond (.t 14) (.ops 5 [⟨some 5, none, .mv (.c (.str [110])) false⟩]) .skip)) (.seq (.seq (.ops 6 [mvF 15 0, ⟨some 16, none, .bin .eql .no (.t 15) (.c (.int .i64 (-1)))⟩]) (.cond (.t 16) (.ops 7 [⟨some 5, none, .mv (.c (.str [45, 110])) false⟩]) .skip)) (.seq (.seq (.ops 8 [mvF 17 1, ⟨some 18, none, .bin .gtr .no (.t 17) (.c (.int .i64 0))⟩]) (.cond (.t 18) (.seq (.ops 9 [mvF 19 5, ⟨some 20, none, .bin .add .no (.t 19) (.c (.str [43]))⟩, mvF 21 1, ⟨some 22, none, .call 40 [.t 21]⟩, ⟨some 23, none, .bin .add .no (.t 20) (.t 22)⟩, mvF 4 23]) .ret) .skip)) (.seq (.seq (.ops 10 [mvF 24 1, ⟨some 25, none, .bin .lss .no (.t 24) (.c (.int .i64 0))⟩]) (.cond (.t 25) (.seq (.ops 11 [mvF 26 5, mvF 27 1, ⟨some 28, none, .call 40 [.t 27]⟩, ⟨some 29, none, .bin .add .no (.t 26) (.t 28)⟩, mvF 4 29]) .ret) .skip)) (.seq (.ops 12 [mvF 30 5, mvF 4 30]) .ret))))))))⟩
theorem ok_c_Z2c : chkFn Tryz.prog 22 c_Z2c = true := chkFn_of Tryz.func22 (by kernel_rfl)
def j_Z2c_1 (M : Mach) (n0 : Nat) (z1 z5 : V) (σ : Objs) : Ro :=
 bd (pu (eB .gtr .no z1.ng.ng (.int .i64 0))) fun x4 =>
  br x4.ng (
 bd (pu (eB .add .no z5.ng.ng (.str [43]))) fun x5 =>
 bd (M.call 40 [z1.ng.ng] σ) fun p6 =>
 bd (pu (eB .add .no x5.ng p6.1.ng)) fun x7 =>
 bd (oK false x7.ng) (nK n0 p6.2)) (
 bd (pu (eB .lss .no z1.ng.ng (.int .i64 0))) fun x8 =>
  br x8.ng (
 bd (M.call 40 [z1.ng.ng] σ) fun p9 =>
 bd (pu (eB .add .no z5.ng.ng p9.1.ng)) fun x10 =>
 bd (oK false x10.ng) (nK n0 p9.2)) (
 bd (oK false z5.ng.ng) (nK n0 σ)))
def j_Z2c_0 (M : Mach) (n0 : Nat) (z0 z1 z5 : V) (σ : Objs) : Ro :=
 bd (pu (eB .eql .no z0.ng.ng (.int .i64 (-1)))) fun x11 =>
  br x11.ng (
  j_Z2c_1 M n0 z1 (.str [45, 110]) σ) (
  j_Z2c_1 M n0 z1 z5 σ)
def s_Z2c (M : Mach) (a0 a1 : V) (σ : Objs) : Ro :=
 bd (pu (eB .eql .no a0.ng.ng (.int .i64 0))) fun x0 =>
  br x0.ng (
 bd (M.call 40 [a1.ng.ng] σ) fun p1 =>
 bd (oK false p1.1.ng) (nK σ.length p1.2)) (
 bd (M.call 40 [a0.ng.ng] σ) fun p2 =>
 bd (pu (eB .add .no p2.1.ng (.str [110]))) fun x3 =>
 bd (pu (eB .eql .no a0.ng.ng (.int .i64 1))) fun x12 =>
  br x12.ng (
  j_Z2c_0 M σ.length a0 a1 (.str [110]) p2.2) (
  j_Z2c_0 M σ.length a0 a1 x3.ng p2.2))
theorem k_Z2c (M : Mach) (a0 a1 : V) (σ : Objs) : fnK M c_Z2c [a0, a1] σ = s_Z2c M a0 a1 σ := by kernel_rfl
def c_Zd : Ev.Fn := ⟨5, [.tmp 2], false, false, (.seq (.ops 0 [⟨some 2, none, .mv (.c (.int .u64 0)) false⟩]) (.seq (.seq (.ops 1 [mvF 3 0, ⟨some 4, none, .bin .lss .no (.t 3) (.c (.int .i64 0))⟩]) (.cond (.t 4) (.seq (.ops 2 [⟨some 2, none, .mv (.c (.int .u64 18446744073709551615)) false⟩]) .ret) .skip)) (.seq (.ops 3 [⟨some 2, none, .mv (.c (.int .u64 1)) false⟩]) .ret)))⟩
theorem ok_c_Zd : chkFn Tryz.prog 23 c_Zd = true := chkFn_of Tryz.func23 (by kernel_rfl)
def s_Zd (M : Mach) (a0 : V) (σ : Objs) : Ro :=
 bd (pu (eB .lss .no a0.ng.ng (.int .i64 0))) fun x0 =>
  br x0.ng (
 bd (oK false (.int .u64 18446744073709551615)) (nK σ.length σ)) (
 bd (oK false (.int .u64 1)) (nK σ.length σ))
theorem k_Zd (M : Mach) (a0 : V) (σ : Objs) : fnK M c_Zd [a0] σ = s_Zd M a0 σ := by kernel_rfl
def c_Ze : Ev.Fn := ⟨8, [.tmp 2], false, false, (.seq (.ops 0 [⟨some 2, none, .mv (.c (.int .u64 0)) false⟩]) (.seq (.ops 1 [mvF 3 0, ⟨some 4, none, .conv (.toInt .u64) (.t 3)⟩, mvF 5 0, ⟨some 6, none, .call 23 [.t 5]⟩, ⟨some 7, none, .bin .mul .no (.t 4) (.t 6)⟩, mvF 2 7]) .ret))⟩
theorem ok_c_Ze : chkFn Tryz.prog 24 c_Ze = true := chkFn_of Tryz.func24 (by kernel_rfl)
def s_Ze (M : Mach) (a0 : V) (σ : Objs) : Ro :=
 bd (pu (eC σ (.toInt .u64) a0.ng.ng)) fun x0 =>
 bd (M.call 23 [a0.ng.ng] σ) fun p1 =>
 bd (pu (eB .mul .no x0.ng p1.1.ng)) fun x2 =>
 bd (oK false x2.ng) (nK σ.length p1.2)
theorem k_Ze (M : Mach) (a0 : V) (σ : Objs) : fnK M c_Ze [a0] σ = s_Ze M a0 σ := by kernel_rfl
def c_Z18 : Ev.Fn := ⟨32, [.tmp 2], false, false, (.seq (.ops 0 [⟨some 2, none, .mv (.c .nils) false⟩]) (.seq (.ops 1 [⟨some 7, none, .buildSl false 1 0 .any [] false⟩, mvT 3 7, ⟨some 4, none, .mv (.c (.int .i64 0)) false⟩]) (.seq (.block 0 (.loop [0, 3, 4] [2, 3] (.seq (.seq (.ops 2 [mvF 8 4, mvF 9 0, ⟨some 10, none, .len (.t 9)⟩, ⟨some 11, none, .bin .lss .no (.t 8) (.t 10)⟩]) (.cond (.t 11) .skip (.exit 0))) (.block 1 (.seq (.ops 3 [mvF 13 0, mvF 14 4, ⟨some 15, none, .call 52 [(.t 13), (.t 14)]⟩, mvF 12 15, ⟨some 16, none, .extr (.t 12) 0⟩, ⟨some 17, none, .extr (.t 12) 1⟩, mvF 5 16, mvF 6 17]) (.seq (.seq (.ops 4 [mvF 18 4, ⟨some 19, none, .bin .gtr .no (.t 18) (.c (.int .i64 0))⟩, mvF 20 19, ⟨some 21, (some (20, false)), .mv (.t 5) false⟩, ⟨some 22, (some (20, false)), .bin .neq .no (.t 21) (.c (.int .i64 65279))⟩, ⟨some 23, none, .pick (.t 20) (.c (.bool true)) (.t 22)⟩]) (.cond (.t 23) (.ops 5 [mvT 24 3, mvF 25 5, ⟨some 26, none, .buildSl false 1 1 (.int .i64 0) [(0, (.t 25))] false⟩, ⟨some 27, none, .app false false 1 8 (.t 24) (.t 26) true⟩, mvT 3 27]) .skip)) (.ops 6 [mvF 28 4, mvF 29 6, ⟨some 30, none, .bin .add .no (.t 28) (.t 29)⟩, mvF 4 30]))))))) (.seq (.ops 7 [mvT 31 3, mvT 2 31]) .ret))))⟩
theorem ok_c_Z18 : chkFn Tryz.prog 32 c_Z18 = true := chkFn_of Tryz.func32 (by kernel_rfl)
def j_Z18_0 (M : Mach) (n0 : Nat) (n1 : Nat) (r1 : Rk) (z0 z3 z4 z6 : V) (σ : Objs) : Ro :=
 bd (pu (eB .add .no z4.ng.ng z6.ng.ng)) fun x6 =>
 bd (fz n1 σ fzD z0) fun y7 =>
 bd (fz n1 σ fzD z3) fun y8 =>
 bd (fz n1 σ fzD x6.ng) fun y9 =>
 bd (cuO n1 σ) fun s10 => r1 [y7, y8, y9] s10
def b_Z18_0 (M : Mach) (n0 : Nat) (n1 : Nat) (r1 : Rk) (z0 z3 z4 : V) (σ : Objs) : Ro :=
 bd (pu (evLen z0.ng.ng)) fun x1 =>
 bd (pu (eB .lss .no z4.ng.ng x1.ng)) fun x2 =>
  br x2.ng (
 bd (M.call 52 [z0.ng.ng, z4.ng.ng] σ) fun p3 =>
 bd (pu (eX 0 p3.1.ng.ng)) fun x4 =>
 bd (pu (eX 1 p3.1.ng.ng)) fun x5 =>
 bd (pu (eB .gtr .no z4.ng.ng (.int .i64 0))) fun x11 =>
 bd (gdv x11.ng false (some x4.ng.ng)) fun x12 =>
 bd (gdv x11.ng false (pu (eB .neq .no x12.ng (.int .i64 65279)))) fun x13 =>
 bd (pu (pV x11.ng.ng (.bool true) x13.ng)) fun x14 =>
  br x14.ng (
 bd (buildFV false 1 1 (.int .i64 0) [(0, x4.ng.ng.ng)]) fun x15 =>
 bd (appV false false 1 8 p3.2 z3 x15.ng) fun x16 =>
  j_Z18_0 M n0 n1 r1 z0 x16 z4 x5.ng p3.2) (
  j_Z18_0 M n0 n1 r1 z0 z3 z4 x5.ng p3.2)) (
 bd (fz n1 σ fzD .any) fun y17 =>
 bd (fz n1 σ fzD z3) fun y18 =>
 bd (cuO n1 σ) fun s19 =>
 bd (oK false y18) (nK n0 s19))
def l_Z18_0 (M : Mach) (n0 : Nat) (n1 : Nat) : Rk := M.fx fun rec vs σ => b_Z18_0 M n0 n1 rec (vs.getD 0 .undef) (vs.getD 1 .undef) (vs.getD 2 .undef) σ
def s_Z18 (M : Mach) (a0 : V) (σ : Objs) : Ro :=
 bd (buildFV false 1 0 .any []) fun x0 =>
 bd (fz σ.length σ fzD a0) fun y20 =>
 bd (fz σ.length σ fzD x0) fun y21 =>
 bd (fz σ.length σ fzD (.int .i64 0)) fun y22 =>
  l_Z18_0 M σ.length σ.length [y20, y21, y22] σ
theorem k_Z18 (M : Mach) (a0 : V) (σ : Objs) : fnK M c_Z18 [a0] σ = s_Z18 M a0 σ := by kernel_rfl
def c_Z1a : Ev.Fn := ⟨52, [.tmp 2], false, false, (.seq (.ops 0 [⟨some 2, none, .mv (.c .nils) false⟩]) (.seq (.ops 1 [⟨some 6, none, .buildSl false 1 0 .any [] false⟩, mvT 3 6]) (.seq (.seq (.ops 2 [⟨some 4, none, .mv (.c (.int .i64 0)) false⟩]) (.block 0 (.loop [0, 3, 4] [2, 3] (.seq (.seq (.ops 3 [mvF 7 4, mvF 8 0, ⟨some 9, none, .len (.t 8)⟩, ⟨some 10, none, .bin .lss .no (.t 7) (.t 9)⟩]) (.cond (.t 10) .skip (.exit 0))) (.seq (.block 1 (.seq (.ops 5 [mvF 13 0, mvF 14 4, ⟨some 15, none, .iaddr 1 (.t 13) (.t 14)⟩, ⟨some 16, none, .load false 1 (.t 15)⟩, mvF 5 16]) (.seq (.seq (.ops 6 [mvF 17 5, ⟨some 18, none, .bin .eql .no (.t 17) (.c (.int .i64 13))⟩, mvF 19 18, ⟨some 20, (some (19, true)), .mv (.t 4) false⟩, ⟨some 21, (some (19, true)), .bin .add .no (.t 20) (.c (.int .i64 1))⟩, ⟨some 22, (some (19, true)), .mv (.t 0) false⟩, ⟨some 23, (some (19, true)), .len (.t 22)⟩, ⟨some 24, (some (19, true)), .bin .lss .no (.t 21) (.t 23)⟩, ⟨some 25, none, .pick (.t 19) (.t 24) (.c (.bool false))⟩, mvF 26 25, ⟨some 27, (some (26, true)), .mv (.t 0) false⟩, ⟨some 28, (some (26, true)), .mv (.t 4) false⟩, ⟨some 29, (some (26, true)), .bin .add .no (.t 28) (.c (.int .i64 1))⟩, ⟨some 30, (some (26, true)), .iaddr 1 (.t 27) (.t 29)⟩, ⟨some 31, (some (26, true)), .load false 1 (.t 30)⟩, ⟨some 32, (some (26, true)), .bin .eql .no (.t 31) (.c (.int .i64 10))⟩, ⟨some 33, none, .pick (.t 26) (.t 32) (.c (.bool false))⟩]) (.cond (.t 33) (.exit 1) .skip)) (.seq (.seq (.ops 7 [mvF 34 5, ⟨some 35, none, .bin .eql .no (.t 34) (.c (.int .i64 13))⟩, mvF 36 35, ⟨some 37, (some (36, false)), .mv (.t 5) false⟩, ⟨some 38, (some (36, false)), .bin .eql .no (.t 37) (.c (.int .i64 12))⟩, ⟨some 39, none, .pick (.t 36) (.c (.bool true)) (.t 38)⟩]) (.cond (.t 39) (.ops 8 [⟨some 5, none, .mv (.c (.int .i64 10)) false⟩]) .skip)) (.seq (.seq (.ops 9 [mvF 40 5, ⟨some 41, none, .bin .eql .no (.t 40) (.c (.int .i64 0))⟩, mvF 42 41, ⟨some 43, (some (42, false)), .mv (.t 5) false⟩, ⟨some 44, (some (42, false)), .call 51 [.t 43]⟩, ⟨some 45, (some (42, false)), .un .not (.t 44)⟩, ⟨some 46, none, .pick (.t 42) (.c (.bool true)) (.t 45)⟩]) (.cond (.t 46) (.ops 10 [⟨some 5, none, .mv (.c (.int .i64 65533)) false⟩]) .skip)) (.ops 11 [mvT 47 3, mvF 48 5, ⟨some 49, none, .buildSl false 1 1 (.int .i64 0) [(0, (.t 48))] false⟩, ⟨some 50, none, .app false false 1 8 (.t 47) (.t 49) true⟩, mvT 3 50])))))) (.ops 4 [mvF 11 4, ⟨some 12, none, .bin .add .no (.t 11) (.c (.int .i64 1))⟩, mvF 4 12])))))) (.seq (.ops 12 [mvT 51 3, mvT 2 51]) .ret))))⟩
theorem ok_c_Z1a : chkFn Tryz.prog 31 c_Z1a = true := chkFn_of Tryz.func31 (by kernel_rfl)
def j_Z1a_0 (M : Mach) (n0 : Nat) (n1 : Nat) (r1 : Rk) (z0 z3 z4 : V) (σ : Objs) : Ro :=
 bd (pu (eB .add .no z4.ng.ng (.int .i64 1))) fun x3 =>
 bd (fz n1 σ fzD z0) fun y4 =>
 bd (fz n1 σ fzD z3) fun y5 =>
 bd (fz n1 σ fzD x3.ng) fun y6 =>
 bd (cuO n1 σ) fun s7 => r1 [y4, y5, y6] s7
def j_Z1a_2 (M : Mach) (n0 : Nat) (n1 : Nat) (r1 : Rk) (z0 z3 z4 z5 : V) (σ : Objs) : Ro :=
 bd (buildFV false 1 1 (.int .i64 0) [(0, z5.ng.ng)]) fun x24 =>
 bd (appV false false 1 8 σ z3 x24.ng) fun x25 =>
  j_Z1a_0 M n0 n1 r1 z0 x25 z4 σ
def j_Z1a_1 (M : Mach) (n0 : Nat) (n1 : Nat) (r1 : Rk) (z0 z3 z4 z5 : V) (σ : Objs) : Ro :=
 bd (pu (eB .eql .no z5.ng.ng (.int .i64 0))) fun x26 =>
 bd (gdv x26.ng false (some z5.ng)) fun x27 =>
 bd (gdp x26.ng false (M.call 51 [x27.ng] σ) σ) fun p28 =>
 bd (gdv x26.ng false (pu (evUn .not p28.1.ng))) fun x29 =>
 bd (pu (pV x26.ng.ng (.bool true) x29.ng)) fun x30 =>
  br x30.ng (
  j_Z1a_2 M n0 n1 r1 z0 z3 z4 (.int .i64 65533) p28.2) (
  j_Z1a_2 M n0 n1 r1 z0 z3 z4 z5 p28.2)
def b_Z1a_0 (M : Mach) (n0 : Nat) (n1 : Nat) (r1 : Rk) (z0 z3 z4 : V) (σ : Objs) : Ro :=
 bd (pu (evLen z0.ng.ng)) fun x1 =>
 bd (pu (eB .lss .no z4.ng.ng x1.ng)) fun x2 =>
  br x2.ng (
 bd (pu (eI 1 z4.ng.ng z0.ng.ng)) fun x8 =>
 bd (pu (eL σ false 1 x8.ng)) fun x9 =>
 bd (pu (eB .eql .no x9.ng.ng.ng (.int .i64 13))) fun x10 =>
 bd (gdv x10.ng true (some z4.ng)) fun x11 =>
 bd (gdv x10.ng true (pu (eB .add .no x11.ng (.int .i64 1)))) fun x12 =>
 bd (gdv x10.ng true (some z0.ng)) fun x13 =>
 bd (gdv x10.ng true (pu (evLen x13.ng))) fun x14 =>
 bd (gdv x10.ng true (pu (eB .lss .no x12.ng x14.ng))) fun x15 =>
 bd (pu (pV x10.ng.ng x15.ng (.bool false))) fun x16 =>
 bd (gdv x16.ng true (some z0.ng)) fun x17 =>
 bd (gdv x16.ng true (some z4.ng)) fun x18 =>
 bd (gdv x16.ng true (pu (eB .add .no x18.ng (.int .i64 1)))) fun x19 =>
 bd (gdv x16.ng true (pu (eI 1 x19.ng x17.ng))) fun x20 =>
 bd (gdv x16.ng true (pu (eL σ false 1 x20.ng))) fun x21 =>
 bd (gdv x16.ng true (pu (eB .eql .no x21.ng (.int .i64 10)))) fun x22 =>
 bd (pu (pV x16.ng.ng x22.ng (.bool false))) fun x23 =>
  br x23.ng (
  j_Z1a_0 M n0 n1 r1 z0 z3 z4 σ) (
 bd (pu (eB .eql .no x9.ng.ng.ng (.int .i64 13))) fun x31 =>
 bd (gdv x31.ng false (some x9.ng.ng)) fun x32 =>
 bd (gdv x31.ng false (pu (eB .eql .no x32.ng (.int .i64 12)))) fun x33 =>
 bd (pu (pV x31.ng.ng (.bool true) x33.ng)) fun x34 =>
  br x34.ng (
  j_Z1a_1 M n0 n1 r1 z0 z3 z4 (.int .i64 10) σ) (
  j_Z1a_1 M n0 n1 r1 z0 z3 z4 x9.ng σ))) (
 bd (fz n1 σ fzD .any) fun y35 =>
 bd (fz n1 σ fzD z3) fun y36 =>
 bd (cuO n1 σ) fun s37 =>
 bd (oK false y36) (nK n0 s37))
def l_Z1a_0 (M : Mach) (n0 : Nat) (n1 : Nat) : Rk := M.fx fun rec vs σ => b_Z1a_0 M n0 n1 rec (vs.getD 0 .undef) (vs.getD 1 .undef) (vs.getD 2 .undef) σ
def s_Z1a (M : Mach) (a0 : V) (σ : Objs) : Ro :=
 bd (buildFV false 1 0 .any []) fun x0 =>
 bd (fz σ.length σ fzD a0) fun y38 =>
 bd (fz σ.length σ fzD x0) fun y39 =>
 bd (fz σ.length σ fzD (.int .i64 0)) fun y40 =>
  l_Z1a_0 M σ.length σ.length [y38, y39, y40] σ
theorem k_Z1a (M : Mach) (a0 : V) (σ : Objs) : fnK M c_Z1a [a0] σ = s_Z1a M a0 σ := by kernel_rfl
def c_Z1q : Ev.Fn := ⟨20, [.tmp 2], false, false, (.seq (.ops 0 [⟨some 2, none, .mv (.c .nils) false⟩]) (.seq (.ops 1 [⟨some 6, none, .buildSl true 6 0 (.agg []) [] false⟩, mvT 3 6, ⟨some 4, none, .mv (.c (.int .i64 0)) false⟩]) (.block 0 (.loop [0, 3, 4] [2] (.block 1 (.seq (.ops 2 [mvF 7 0, mvF 8 4, ⟨some 9, none, .call 50 [(.t 7), (.t 8)]⟩, ⟨some 5, none, .alloc [(.int .i64 0), (.int .i64 0), (.int .i64 0), (.str []), (.str []), (.bool false)]⟩, ⟨none, none, .store 6 (.t 5) (.t 9) false⟩]) (.seq (.ops 3 [mvT 10 3, ⟨some 11, none, .load true 6 (.t 5)⟩, ⟨some 12, none, .buildSl true 6 1 (.agg [(.int .i64 0), (.int .i64 0), (.int .i64 0), (.str []), (.str []), (.bool false)]) [(0, (.t 11))] false⟩, ⟨some 13, none, .app false true 6 64 (.t 10) (.t 12) true⟩, mvT 3 13]) (.seq (.seq (.ops 4 [⟨some 14, none, .faddr 0 (.t 5)⟩, ⟨some 15, none, .load false 1 (.t 14)⟩, ⟨some 16, none, .bin .eql .no (.t 15) (.c (.int .i64 0))⟩]) (.cond (.t 16) (.seq (.ops 5 [mvT 17 3, mvT 2 17]) .ret) .skip)) (.ops 6 [⟨some 18, none, .faddr 2 (.t 5)⟩, ⟨some 19, none, .load false 1 (.t 18)⟩, mvF 4 19])))))))))⟩
theorem ok_c_Z1q : chkFn Tryz.prog 30 c_Z1q = true := chkFn_of Tryz.func30 (by kernel_rfl)
def b_Z1q_0 (M : Mach) (n0 : Nat) (n1 : Nat) (r1 : Rk) (z0 z3 z4 : V) (σ : Objs) : Ro :=
 bd (M.call 50 [z0.ng.ng, z4.ng.ng] σ) fun p1 =>
  let s2 : Objs := p1.2 ++ [.cells [(.int .i64 0), (.int .i64 0), (.int .i64 0), (.str []), (.str []), (.bool false)]]
 bd (stV s2 6 (.ptr p1.2.length 0) p1.1.ng p1.1.ng) fun p3 =>
 bd (pu (eL p3.2 true 6 (.ptr p1.2.length 0))) fun x4 =>
 bd (buildFV true 6 1 (.agg [(.int .i64 0), (.int .i64 0), (.int .i64 0), (.str []), (.str []), (.bool false)]) [(0, x4.ng)]) fun x5 =>
 bd (appV false true 6 64 p3.2 z3 x5.ng) fun x6 =>
 bd (pu (eF 0 (.ptr p1.2.length 0))) fun x7 =>
 bd (pu (eL p3.2 false 1 x7.ng)) fun x8 =>
 bd (pu (eB .eql .no x8.ng (.int .i64 0))) fun x9 =>
  br x9.ng (
 bd (fz n1 p3.2 fzD x6) fun y10 =>
 bd (cuO n1 p3.2) fun s11 =>
 bd (oK false y10) (nK n0 s11)) (
 bd (pu (eF 2 (.ptr p1.2.length 0))) fun x12 =>
 bd (pu (eL p3.2 false 1 x12.ng)) fun x13 =>
 bd (fz n1 p3.2 fzD z0) fun y14 =>
 bd (fz n1 p3.2 fzD x6) fun y15 =>
 bd (fz n1 p3.2 fzD x13.ng) fun y16 =>
 bd (cuO n1 p3.2) fun s17 => r1 [y14, y15, y16] s17)
def l_Z1q_0 (M : Mach) (n0 : Nat) (n1 : Nat) : Rk := M.fx fun rec vs σ => b_Z1q_0 M n0 n1 rec (vs.getD 0 .undef) (vs.getD 1 .undef) (vs.getD 2 .undef) σ
def s_Z1q (M : Mach) (a0 : V) (σ : Objs) : Ro :=
 bd (buildFV true 6 0 (.agg []) []) fun x0 =>
 bd (fz σ.length σ fzD a0) fun y18 =>
 bd (fz σ.length σ fzD x0) fun y19 =>
 bd (fz σ.length σ fzD (.int .i64 0)) fun y20 =>
  l_Z1q_0 M σ.length σ.length [y18, y19, y20] σ
theorem k_Z1q (M : Mach) (a0 : V) (σ : Objs) : fnK M c_Z1q [a0] σ = s_Z1q M a0 σ := by kernel_rfl
def c_Z5 : Ev.Fn := ⟨13, [.tmp 4], false, false, (.seq (.ops 0 [⟨some 4, none, .mv (.c (.int .i64 0)) false⟩]) (.seq (.block 0 (.loop [0, 1] [1, 4] (.seq (.seq (.ops 1 [mvF 5 0, mvF 6 1, ⟨some 7, none, .call 41 [(.t 5), (.t 6)]⟩, ⟨some 8, none, .field false 0 1 (.t 7)⟩, ⟨some 9, none, .bin .eql .no (.t 8) (.c (.int .i64 13))⟩]) (.cond (.t 9) .skip (.exit 0))) (.block 1 (.ops 2 [mvF 10 1, ⟨some 11, none, .bin .add .no (.t 10) (.c (.int .i64 1))⟩, mvF 1 11]))))) (.seq (.ops 3 [mvF 12 1, mvF 4 12]) .ret)))⟩
theorem ok_c_Z5 : chkFn Tryz.prog 25 c_Z5 = true := chkFn_of Tryz.func25 (by kernel_rfl)
def b_Z5_0 (M : Mach) (n0 : Nat) (n1 : Nat) (r1 : Rk) (z0 z1 : V) (σ : Objs) : Ro :=
 bd (M.call 41 [z0.ng.ng, z1.ng.ng] σ) fun p0 =>
 bd (pu (evField false 0 1 p0.1.ng)) fun x1 =>
 bd (pu (eB .eql .no x1.ng (.int .i64 13))) fun x2 =>
  br x2.ng (
 bd (pu (eB .add .no z1.ng.ng (.int .i64 1))) fun x3 =>
 bd (fz n1 p0.2 fzD z0) fun y4 =>
 bd (fz n1 p0.2 fzD x3.ng) fun y5 =>
 bd (cuO n1 p0.2) fun s6 => r1 [y4, y5] s6) (
 bd (fz n1 p0.2 fzD z1) fun y7 =>
 bd (fz n1 p0.2 fzD .any) fun y8 =>
 bd (cuO n1 p0.2) fun s9 =>
 bd (oK false y7.ng.ng) (nK n0 s9))
def l_Z5_0 (M : Mach) (n0 : Nat) (n1 : Nat) : Rk := M.fx fun rec vs σ => b_Z5_0 M n0 n1 rec (vs.getD 0 .undef) (vs.getD 1 .undef) σ
def s_Z5 (M : Mach) (a0 a1 : V) (σ : Objs) : Ro :=
 bd (fz σ.length σ fzD a0) fun y10 =>
 bd (fz σ.length σ fzD a1) fun y11 =>
  l_Z5_0 M σ.length σ.length [y10, y11] σ
theorem k_Z5 (M : Mach) (a0 a1 : V) (σ : Objs) : fnK M c_Z5 [a0, a1] σ = s_Z5 M a0 a1 σ := by kernel_rfl
def c_Z1 : Ev.Fn := ⟨51, [.tmp 2, .tmp 3, .tmp 4], false, false, (.seq (.ops 0 [⟨some 2, none, .mv (.c (.int .i64 0)) false⟩, ⟨some 3, none, .mv (.c (.int .i64 0)) false⟩, ⟨some 4, none, .mv (.c (.bool false)) false⟩]) (.seq (.ops 1 [mvF 6 0, mvF 7 0, ⟨some 8, none, .nilc (.t 7)⟩, ⟨some 9, none, .faddr 1 (.t 8)⟩, ⟨some 10, none, .load false 1 (.t 9)⟩, ⟨some 11, none, .call 41 [(.t 6), (.t 10)]⟩, ⟨some 5, none, .alloc [(.int .i64 0), (.int .i64 0), (.int .i64 0), (.str []), (.str []), (.bool false)]⟩, ⟨none, none, .store 6 (.t 5) (.t 11) false⟩]) (.seq (.block 0 (.seq (.ops 3 [⟨some 13, none, .faddr 0 (.t 5)⟩, ⟨some 14, none, .load false 1 (.t 13)⟩, ⟨some 15, none, .bin .eql .no (.t 14) (.c (.int .i64 1))⟩, mvF 16 15, ⟨some 17, (some (16, true)), .faddr 3 (.t 5)⟩, ⟨some 18, (some (16, true)), .load false 1 (.t 17)⟩, ⟨some 19, (some (16, true)), .call 42 [(.t 18), (.c (.str [101, 118, 101, 110]))]⟩, ⟨some 20, none, .pick (.t 16) (.t 19) (.c (.bool false))⟩, mvF 12 20]) (.cond (.t 12) (.ops 4 [⟨some 2, none, .mv (.c (.int .i64 2)) false⟩]) (.seq (.ops 5 [⟨some 22, none, .faddr 0 (.t 5)⟩, ⟨some 23, none, .load false 1 (.t 22)⟩, ⟨some 24, none, .bin .eql .no (.t 23) (.c (.int .i64 1))⟩, mvF 25 24, ⟨some 26, (some (25, true)), .faddr 3 (.t 5)⟩, ⟨some 27, (some (25, true)), .load false 1 (.t 26)⟩, ⟨some 28, (some (25, true)), .call 42 [(.t 27), (.c (.str [111, 100, 100]))]⟩, ⟨some 29, none, .pick (.t 25) (.t 28) (.c (.bool false))⟩, mvF 21 29]) (.cond (.t 21) (.ops 6 [⟨some 2, none, .mv (.c (.int .i64 2)) false⟩, ⟨some 3, none, .mv (.c (.int .i64 1)) false⟩]) (.seq (.ops 7 [⟨some 31, none, .faddr 0 (.t 5)⟩, ⟨some 32, none, .load false 1 (.t 31)⟩, ⟨some 33, none, .bin .eql .no (.t 32) (.c (.int .i64 10))⟩, mvF 34 33, ⟨some 35, (some (34, true)), .faddr 5 (.t 5)⟩, ⟨some 36, (some (34, true)), .load false 1 (.t 35)⟩, ⟨some 37, none, .pick (.t 34) (.t 36) (.c (.bool false))⟩, mvF 30 37]) (.cond (.t 30) (.ops 8 [mvF 38 0, ⟨some 39, none, .faddr 4 (.t 5)⟩, ⟨some 40, none, .load false 1 (.t 39)⟩, ⟨some 41, none, .call 43 [(.t 38), (.t 40)]⟩, mvF 3 41]) (.seq (.ops 2 [⟨some 2, none, .mv (.c (.int .i64 0)) false⟩, ⟨some 3, none, .mv (.c (.int .i64 0)) false⟩, ⟨some 4, none, .mv (.c (.bool false)) false⟩]) .ret)))))))) (.seq (.ops 9 [mvF 42 0, ⟨some 43, none, .nilc (.t 42)⟩, ⟨some 44, none, .faddr 1 (.t 43)⟩, ⟨some 45, none, .load false 1 (.t 44)⟩, ⟨some 46, none, .bin .add .no (.t 45) (.c (.int .i64 1))⟩, ⟨some 47, none, .nilc (.t 42)⟩, ⟨some 48, none, .faddr 1 (.t 47)⟩, ⟨none, none, .store 1 (.t 48) (.t 46) false⟩]) (.seq (.ops 10 [mvF 49 2, mvF 50 3, mvF 2 49, mvF 3 50, ⟨some 4, none, .mv (.c (.bool true)) false⟩]) .ret)))))⟩
theorem ok_c_Z1 : chkFn Tryz.prog 26 c_Z1 = true := chkFn_of Tryz.func26 (by kernel_rfl)
def j_Z1_0 (M : Mach) (n0 : Nat) (z0 z2 z3 : V) (σ : Objs) : Ro :=
 bd (pu (evNilc z0.ng.ng)) fun x6 =>
 bd (pu (eF 1 x6.ng)) fun x7 =>
 bd (pu (eL σ false 1 x7.ng)) fun x8 =>
 bd (pu (eB .add .no x8.ng (.int .i64 1))) fun x9 =>
 bd (pu (evNilc z0.ng.ng)) fun x10 =>
 bd (pu (eF 1 x10.ng)) fun x11 =>
 bd (stV σ 1 x11.ng x9.ng x9.ng) fun p12 =>
  nK n0 p12.2 (.tup [z2.ng.ng.ng, z3.ng.ng.ng, (.bool true)])
def s_Z1 (M : Mach) (a0 : V) (σ : Objs) : Ro :=
 bd (pu (evNilc a0.ng.ng)) fun x0 =>
 bd (pu (eF 1 x0.ng)) fun x1 =>
 bd (pu (eL σ false 1 x1.ng)) fun x2 =>
 bd (M.call 41 [a0.ng.ng, x2.ng] σ) fun p3 =>
  let s4 : Objs := p3.2 ++ [.cells [(.int .i64 0), (.int .i64 0), (.int .i64 0), (.str []), (.str []), (.bool false)]]
 bd (stV s4 6 (.ptr p3.2.length 0) p3.1.ng p3.1.ng) fun p5 =>
 bd (pu (eF 0 (.ptr p3.2.length 0))) fun x13 =>
 bd (pu (eL p5.2 false 1 x13.ng)) fun x14 =>
 bd (pu (eB .eql .no x14.ng (.int .i64 1))) fun x15 =>
 bd (gdv x15.ng true (pu (eF 3 (.ptr p3.2.length 0)))) fun x16 =>
 bd (gdv x15.ng true (pu (eL p5.2 false 1 x16.ng))) fun x17 =>
 bd (gdp x15.ng true (M.call 42 [x17.ng, (.str [101, 118, 101, 110])] p5.2) p5.2) fun p18 =>
 bd (pu (pV x15.ng.ng p18.1.ng (.bool false))) fun x19 =>
  br x19.ng.ng (
  j_Z1_0 M σ.length a0 (.int .i64 2) (.int .i64 0) p18.2) (
 bd (pu (eF 0 (.ptr p3.2.length 0))) fun x20 =>
 bd (pu (eL p18.2 false 1 x20.ng)) fun x21 =>
 bd (pu (eB .eql .no x21.ng (.int .i64 1))) fun x22 =>
 bd (gdv x22.ng true (pu (eF 3 (.ptr p3.2.length 0)))) fun x23 =>
 bd (gdv x22.ng true (pu (eL p18.2 false 1 x23.ng))) fun x24 =>
 bd (gdp x22.ng true (M.call 42 [x24.ng, (.str [111, 100, 100])] p18.2) p18.2) fun p25 =>
 bd (pu (pV x22.ng.ng p25.1.ng (.bool false))) fun x26 =>
  br x26.ng.ng (
  j_Z1_0 M σ.length a0 (.int .i64 2) (.int .i64 1) p25.2) (
 bd (pu (eF 0 (.ptr p3.2.length 0))) fun x27 =>
 bd (pu (eL p25.2 false 1 x27.ng)) fun x28 =>
 bd (pu (eB .eql .no x28.ng (.int .i64 10))) fun x29 =>
 bd (gdv x29.ng true (pu (eF 5 (.ptr p3.2.length 0)))) fun x30 =>
 bd (gdv x29.ng true (pu (eL p25.2 false 1 x30.ng))) fun x31 =>
 bd (pu (pV x29.ng.ng x31.ng (.bool false))) fun x32 =>
  br x32.ng.ng (
 bd (pu (eF 4 (.ptr p3.2.length 0))) fun x33 =>
 bd (pu (eL p25.2 false 1 x33.ng)) fun x34 =>
 bd (M.call 43 [a0.ng.ng, x34.ng] p25.2) fun p35 =>
  j_Z1_0 M σ.length a0 (.int .i64 0) p35.1.ng p35.2) (
  nK σ.length p25.2 (.tup [(.int .i64 0), (.int .i64 0), (.bool false)]))))
theorem k_Z1 (M : Mach) (a0 : V) (σ : Objs) : fnK M c_Z1 [a0] σ = s_Z1 M a0 σ := by kernel_rfl
def c_Z2 : Ev.Fn := ⟨106, [.tmp 2, .tmp 3, .tmp 4], false, false, (.seq (.ops 0 [⟨some 2, none, .mv (.c (.int .i64 0)) false⟩, ⟨some 3, none, .mv (.c (.str [])) false⟩, ⟨some 4, none, .mv (.c (.bool false)) false⟩]) (.seq (.ops 1 [mvF 7 0, mvF 8 0, ⟨some 9, none, .nilc (.t 8)⟩, ⟨some 10, none, .faddr 1 (.t 9)⟩, ⟨some 11, none, .load false 1 (.t 10)⟩, ⟨some 12, none, .call 41 [(.t 7), (.t 11)]⟩, ⟨some 5, none, .alloc [(.int .i64 0), (.int .i64 0), (.int .i64 0), (.str []), (.str []), (.bool false)]⟩, ⟨none, none, .store 6 (.t 5) (.t 12) false⟩]) (.seq (.ops 2 [⟨some 13, none, .faddr 3 (.t 5)⟩, ⟨some 14, none, .load false 1 (.t 13)⟩, ⟨some 15, none, .call 44 [.t 14]⟩, mvF 6 15]) (.seq (.block 0 (.seq (.ops 3 [⟨some 17, none, .faddr 0 (.t 5)⟩, ⟨some 18, none, .load false 1 (.t 17)⟩, ⟨some 19, none, .bin .eql .no (.t 18) (.c (.int .i64 9))⟩, mvF 20 19, ⟨some 21, (some (20, true)), .faddr 3 (.t 5)⟩, ⟨some 22, (some (20, true)), .load false 1 (.t 21)⟩, ⟨some 23, (some (20, true)), .bin .eql .no (.t 22) (.c (.str [43]))⟩, ⟨some 24, none, .pick (.t 20) (.t 23) (.c (.bool false))⟩, mvF 25 24, ⟨some 26, (some (25, true)), .mv (.t 0) false⟩, ⟨some 27, (some (25, true)), .mv (.t 0) false⟩, ⟨some 28, (some (25, true)), .nilc (.t 27)⟩, ⟨some 29, (some (25, true)), .faddr 1 (.t 28)⟩, ⟨some 30, (some (25, true)), .load false 1 (.t 29)⟩, ⟨some 31, (some (25, true)), .bin .add .no (.t 30) (.c (.int .i64 1))⟩, ⟨some 32, (some (25, true)), .call 41 [(.t 26), (.t 31)]⟩, ⟨some 33, (some (25, true)), .field false 0 1 (.t 32)⟩, ⟨some 34, (some (25, true)), .bin .eql .no (.t 33) (.c (.int .i64 1))⟩, ⟨some 35, none, .pick (.t 25) (.t 34) (.c (.bool false))⟩, mvF 16 35]) (.cond (.t 16) (.seq (.ops 4 [mvF 36 0, ⟨some 37, none, .nilc (.t 36)⟩, ⟨some 38, none, .faddr 1 (.t 37)⟩, ⟨some 39, none, .load false 1 (.t 38)⟩, ⟨some 40, none, .bin .add .no (.t 39) (.c (.int .i64 1))⟩, ⟨some 41, none, .nilc (.t 36)⟩, ⟨some 42, none, .faddr 1 (.t 41)⟩, ⟨none, none, .store 1 (.t 42) (.t 40) false⟩]) (.seq (.ops 5 [mvF 43 0, mvF 44 0, ⟨some 45, none, .nilc (.t 44)⟩, ⟨some 46, none, .faddr 1 (.t 45)⟩, ⟨some 47, none, .load false 1 (.t 46)⟩, ⟨some 48, none, .call 41 [(.t 43), (.t 47)]⟩, ⟨some 49, none, .field false 3 1 (.t 48)⟩, ⟨some 50, none, .call 44 [.t 49]⟩, mvF 6 50]) (.seq (.ops 6 [mvF 52 6, ⟨some 53, none, .call 45 [(.t 52), (.c (.str [110]))]⟩, mvF 51 53, ⟨some 54, none, .extr (.t 51) 0⟩, ⟨some 55, none, .extr (.t 51) 1⟩, mvF 3 54, mvF 4 55]) (.ops 7 [⟨some 2, none, .mv (.c (.int .i64 1)) false⟩])))) (.seq (.ops 8 [⟨some 57, none, .faddr 0 (.t 5)⟩, ⟨some 58, none, .load false 1 (.t 57)⟩, ⟨some 59, none, .bin .eql .no (.t 58) (.c (.int .i64 1))⟩, mvF 60 59, ⟨some 61, (some (60, true)), .mv (.t 6) false⟩, ⟨some 62, (some (60, true)), .call 46 [(.t 61), (.c (.str [45]))]⟩, ⟨some 63, none, .pick (.t 60) (.t 62) (.c (.bool false))⟩, mvF 56 63]) (.cond (.t 56) (.seq (.ops 9 [mvF 65 6, ⟨some 66, none, .call 45 [(.t 65), (.c (.str [45, 110]))]⟩, mvF 64 66, ⟨some 67, none, .extr (.t 64) 0⟩, ⟨some 68, none, .extr (.t 64) 1⟩, mvF 3 67, mvF 4 68]) (.ops 10 [⟨some 2, none, .mv (.c (.int .i64 (-1))) false⟩])) (.seq (.ops 11 [⟨some 70, none, .faddr 0 (.t 5)⟩, ⟨some 71, none, .load false 1 (.t 70)⟩, ⟨some 72, none, .bin .eql .no (.t 71) (.c (.int .i64 1))⟩, mvF 69 72]) (.cond (.t 69) (.seq (.ops 12 [mvF 74 6, ⟨some 75, none, .call 45 [(.t 74), (.c (.str [110]))]⟩, mvF 73 75, ⟨some 76, none, .extr (.t 73) 0⟩, ⟨some 77, none, .extr (.t 73) 1⟩, mvF 3 76, mvF 4 77]) (.ops 13 [⟨some 2, none, .mv (.c (.int .i64 1)) false⟩])) (.seq (.ops 14 [⟨some 79, none, .faddr 0 (.t 5)⟩, ⟨some 80, none, .load false 1 (.t 79)⟩, ⟨some 81, none, .bin .eql .no (.t 80) (.c (.int .i64 12))⟩, mvF 82 81, ⟨some 83, (some (82, true)), .faddr 5 (.t 5)⟩, ⟨some 84, (some (82, true)), .load false 1 (.t 83)⟩, ⟨some 85, none, .pick (.t 82) (.t 84) (.c (.bool false))⟩, mvF 78 85]) (.cond (.t 78) (.seq (.ops 15 [mvF 87 6, ⟨some 88, none, .call 45 [(.t 87), (.c (.str [110]))]⟩, mvF 86 88, ⟨some 89, none, .extr (.t 86) 0⟩, ⟨some 90, none, .extr (.t 86) 1⟩, mvF 3 89, mvF 4 90]) (.seq (.ops 16 [mvF 91 4]) (.cond (.t 91) (.ops 17 [mvF 92 0, ⟨some 93, none, .faddr 4 (.t 5)⟩, ⟨some 94, none, .load false 1 (.t 93)⟩, ⟨some 95, none, .call 43 [(.t 92), (.t 94)]⟩, mvF 2 95]) .skip))) .skip))))))))) (.seq (.ops 18 [mvF 96 0, ⟨some 97, none, .nilc (.t 96)⟩, ⟨some 98, none, .faddr 1 (.t 97)⟩, ⟨some 99, none, .load false 1 (.t 98)⟩, ⟨some 100, none, .bin .add .no (.t 99) (.c (.int .i64 1))⟩, ⟨some 101, none, .nilc (.t 96)⟩, ⟨some 102, none, .faddr 1 (.t 101)⟩, ⟨none, none, .store 1 (.t 102) (.t 100) false⟩]) (.seq (.ops 19 [mvF 103 2, mvF 104 3, mvF 105 4, mvF 2 103, mvF 3 104, mvF 4 105]) .ret))))))⟩
theorem ok_c_Z2 : chkFn Tryz.prog 27 c_Z2 = true := chkFn_of Tryz.func27 (by kernel_rfl)
def j_Z2_0 (M : Mach) (n0 : Nat) (z0 z2 z3 z4 : V) (σ : Objs) : Ro :=
 bd (pu (evNilc z0.ng.ng)) fun x9 =>
 bd (pu (eF 1 x9.ng)) fun x10 =>
 bd (pu (eL σ false 1 x10.ng)) fun x11 =>
 bd (pu (eB .add .no x11.ng (.int .i64 1))) fun x12 =>
 bd (pu (evNilc z0.ng.ng)) fun x13 =>
 bd (pu (eF 1 x13.ng)) fun x14 =>
 bd (stV σ 1 x14.ng x12.ng x12.ng) fun p15 =>
  nK n0 p15.2 (.tup [z2.ng.ng.ng, z3.ng.ng.ng, z4.ng.ng.ng])
def s_Z2 (M : Mach) (a0 : V) (σ : Objs) : Ro :=
 bd (pu (evNilc a0.ng.ng)) fun x0 =>
 bd (pu (eF 1 x0.ng)) fun x1 =>
 bd (pu (eL σ false 1 x1.ng)) fun x2 =>
 bd (M.call 41 [a0.ng.ng, x2.ng] σ) fun p3 =>
  let s4 : Objs := p3.2 ++ [.cells [(.int .i64 0), (.int .i64 0), (.int .i64 0), (.str []), (.str []), (.bool false)]]
 bd (stV s4 6 (.ptr p3.2.length 0) p3.1.ng p3.1.ng) fun p5 =>
 bd (pu (eF 3 (.ptr p3.2.length 0))) fun x6 =>
 bd (pu (eL p5.2 false 1 x6.ng)) fun x7 =>
 bd (M.call 44 [x7.ng] p5.2) fun p8 =>
 bd (pu (eF 0 (.ptr p3.2.length 0))) fun x16 =>
 bd (pu (eL p8.2 false 1 x16.ng)) fun x17 =>
 bd (pu (eB .eql .no x17.ng (.int .i64 9))) fun x18 =>
 bd (gdv x18.ng true (pu (eF 3 (.ptr p3.2.length 0)))) fun x19 =>
 bd (gdv x18.ng true (pu (eL p8.2 false 1 x19.ng))) fun x20 =>
 bd (gdv x18.ng true (pu (eB .eql .no x20.ng (.str [43])))) fun x21 =>
 bd (pu (pV x18.ng.ng x21.ng (.bool false))) fun x22 =>
 bd (gdv x22.ng true (some a0.ng)) fun x23 =>
 bd (gdv x22.ng true (some a0.ng)) fun x24 =>
 bd (gdv x22.ng true (pu (evNilc x24.ng))) fun x25 =>
 bd (gdv x22.ng true (pu (eF 1 x25.ng))) fun x26 =>
 bd (gdv x22.ng true (pu (eL p8.2 false 1 x26.ng))) fun x27 =>
 bd (gdv x22.ng true (pu (eB .add .no x27.ng (.int .i64 1)))) fun x28 =>
 bd (gdp x22.ng true (M.call 41 [x23.ng, x28.ng] p8.2) p8.2) fun p29 =>
 bd (gdv x22.ng true (pu (evField false 0 1 p29.1.ng))) fun x30 =>
 bd (gdv x22.ng true (pu (eB .eql .no x30.ng (.int .i64 1)))) fun x31 =>
 bd (pu (pV x22.ng.ng x31.ng (.bool false))) fun x32 =>
  br x32.ng.ng (
 bd (pu (evNilc a0.ng.ng)) fun x33 =>
 bd (pu (eF 1 x33.ng)) fun x34 =>
 bd (pu (eL p29.2 false 1 x34.ng)) fun x35 =>
 bd (pu (eB .add .no x35.ng (.int .i64 1))) fun x36 =>
 bd (pu (evNilc a0.ng.ng)) fun x37 =>
 bd (pu (eF 1 x37.ng)) fun x38 =>
 bd (stV p29.2 1 x38.ng x36.ng x36.ng) fun p39 =>
 bd (pu (evNilc a0.ng.ng)) fun x40 =>
 bd (pu (eF 1 x40.ng)) fun x41 =>
 bd (pu (eL p39.2 false 1 x41.ng)) fun x42 =>
 bd (M.call 41 [a0.ng.ng, x42.ng] p39.2) fun p43 =>
 bd (pu (evField false 3 1 p43.1.ng)) fun x44 =>
 bd (M.call 44 [x44.ng] p43.2) fun p45 =>
 bd (M.call 45 [p45.1.ng.ng.ng, (.str [110])] p45.2) fun p46 =>
 bd (pu (eX 0 p46.1.ng.ng)) fun x47 =>
 bd (pu (eX 1 p46.1.ng.ng)) fun x48 =>
  j_Z2_0 M σ.length a0 (.int .i64 1) x47.ng x48.ng p46.2) (
 bd (pu (eF 0 (.ptr p3.2.length 0))) fun x49 =>
 bd (pu (eL p29.2 false 1 x49.ng)) fun x50 =>
 bd (pu (eB .eql .no x50.ng (.int .i64 1))) fun x51 =>
 bd (gdv x51.ng true (some p8.1.ng.ng)) fun x52 =>
 bd (gdp x51.ng true (M.call 46 [x52.ng, (.str [45])] p29.2) p29.2) fun p53 =>
 bd (pu (pV x51.ng.ng p53.1.ng (.bool false))) fun x54 =>
  br x54.ng.ng (
 bd (M.call 45 [p8.1.ng.ng.ng, (.str [45, 110])] p53.2) fun p55 =>
 bd (pu (eX 0 p55.1.ng.ng)) fun x56 =>
 bd (pu (eX 1 p55.1.ng.ng)) fun x57 =>
  j_Z2_0 M σ.length a0 (.int .i64 (-1)) x56.ng x57.ng p55.2) (
 bd (pu (eF 0 (.ptr p3.2.length 0))) fun x58 =>
 bd (pu (eL p53.2 false 1 x58.ng)) fun x59 =>
 bd (pu (eB .eql .no x59.ng (.int .i64 1))) fun x60 =>
  br x60.ng.ng (
 bd (M.call 45 [p8.1.ng.ng.ng, (.str [110])] p53.2) fun p61 =>
 bd (pu (eX 0 p61.1.ng.ng)) fun x62 =>
 bd (pu (eX 1 p61.1.ng.ng)) fun x63 =>
  j_Z2_0 M σ.length a0 (.int .i64 1) x62.ng x63.ng p61.2) (
 bd (pu (eF 0 (.ptr p3.2.length 0))) fun x64 =>
 bd (pu (eL p53.2 false 1 x64.ng)) fun x65 =>
 bd (pu (eB .eql .no x65.ng (.int .i64 12))) fun x66 =>
 bd (gdv x66.ng true (pu (eF 5 (.ptr p3.2.length 0)))) fun x67 =>
 bd (gdv x66.ng true (pu (eL p53.2 false 1 x67.ng))) fun x68 =>
 bd (pu (pV x66.ng.ng x68.ng (.bool false))) fun x69 =>
  br x69.ng.ng (
 bd (M.call 45 [p8.1.ng.ng.ng, (.str [110])] p53.2) fun p70 =>
 bd (pu (eX 0 p70.1.ng.ng)) fun x71 =>
 bd (pu (eX 1 p70.1.ng.ng)) fun x72 =>
  br x72.ng.ng.ng (
 bd (pu (eF 4 (.ptr p3.2.length 0))) fun x73 =>
 bd (pu (eL p70.2 false 1 x73.ng)) fun x74 =>
 bd (M.call 43 [a0.ng.ng, x74.ng] p70.2) fun p75 =>
  j_Z2_0 M σ.length a0 p75.1.ng x71.ng x72.ng p75.2) (
  j_Z2_0 M σ.length a0 (.int .i64 0) x71.ng x72.ng p70.2)) (
  j_Z2_0 M σ.length a0 (.int .i64 0) (.str []) (.bool false) p53.2))))
theorem k_Z2 (M : Mach) (a0 : V) (σ : Objs) : fnK M c_Z2 [a0] σ = s_Z2 M a0 σ := by kernel_rfl
def c_Z0 : Ev.Fn := ⟨63, [.tmp 4, .tmp 5], false, false, (.seq (.ops 0 [⟨some 4, none, .mv (.c (.int .i64 0)) false⟩, ⟨some 5, none, .mv (.c (.bool false)) false⟩]) (.seq (.block 0 (.seq (.block 3 (.seq (.block 2 (.seq (.block 1 (.seq (.seq (.seq (.ops 1 [mvF 10 1, ⟨some 11, none, .bin .eql .no (.t 10) (.c (.str []))⟩, mvF 9 11]) (.cond (.t 9) (.exit 1) .skip)) (.seq (.seq (.ops 2 [mvF 13 1, ⟨some 14, none, .bin .eql .no (.t 13) (.c (.str [45]))⟩, mvF 12 14]) (.cond (.t 12) (.exit 2) .skip)) (.seq (.ops 3 [mvF 16 1, ⟨some 17, none, .idx (.t 16) (.c (.int .i64 0))⟩, ⟨some 18, none, .bin .eql .no (.t 17) (.c (.int .u8 45))⟩, mvF 19 18, ⟨some 20, (some (19, true)), .mv (.t 1) false⟩, ⟨some 21, (some (19, true)), .idx (.t 20) (.c (.int .i64 1))⟩, ⟨some 22, (some (19, true)), .conv (.toInt .i64) (.t 21)⟩, ⟨some 23, (some (19, true)), .call 34 [.t 22]⟩, ⟨some 24, none, .pick (.t 19) (.t 23) (.c (.bool false))⟩, mvF 15 24]) (.cond (.t 15) (.exit 3) .skip)))) (.exit 0))) (.seq (.seq (.ops 4 [mvF 25 0, ⟨some 26, none, .call 47 [.t 25]⟩, mvF 4 26, ⟨some 5, none, .mv (.c (.bool true)) false⟩]) .ret) (.exit 0)))) (.seq (.ops 5 [mvF 27 0, mvF 28 0, ⟨some 29, none, .nilc (.t 28)⟩, ⟨some 30, none, .faddr 1 (.t 29)⟩, ⟨some 31, none, .load false 1 (.t 30)⟩, ⟨some 32, none, .call 25 [(.t 27), (.t 31)]⟩, mvF 6 32]) (.seq (.seq (.ops 6 [mvF 33 0, mvF 34 6, ⟨some 35, none, .call 48 [(.t 33), (.t 34), (.c (.bool false))]⟩, ⟨some 36, none, .un .not (.t 35)⟩]) (.cond (.t 36) (.seq (.ops 7 [⟨some 4, none, .mv (.c (.int .i64 0)) false⟩, ⟨some 5, none, .mv (.c (.bool false)) false⟩]) .ret) .skip)) (.seq (.ops 8 [mvF 37 0, mvF 38 6, ⟨some 39, none, .bin .add .no (.t 38) (.c (.int .i64 1))⟩, ⟨some 40, none, .nilc (.t 37)⟩, ⟨some 41, none, .faddr 1 (.t 40)⟩, ⟨none, none, .store 1 (.t 41) (.t 39) false⟩]) (.ops 9 [mvF 42 1, mvF 43 0, mvF 44 6, ⟨some 45, none, .call 41 [(.t 43), (.t 44)]⟩, ⟨some 46, none, .field false 4 1 (.t 45)⟩, ⟨some 47, none, .bin .add .no (.t 42) (.t 46)⟩, mvF 1 47])))))) (.seq (.seq (.seq (.ops 10 [mvF 49 1, ⟨some 50, none, .call 15 [.t 49]⟩, mvF 48 50, ⟨some 51, none, .extr (.t 48) 0⟩, ⟨some 52, none, .extr (.t 48) 1⟩, mvF 7 51, mvF 8 52]) (.seq (.ops 11 [mvF 53 8, ⟨some 54, none, .bin .neq .ifc (.t 53) (.c .nili)⟩, mvF 55 54, ⟨some 56, (some (55, true)), .mv (.t 8) false⟩, ⟨some 57, (some (55, true)), .call 49 [.t 56]⟩, ⟨some 58, (some (55, true)), .un .not (.t 57)⟩, ⟨some 59, none, .pick (.t 55) (.t 58) (.c (.bool false))⟩]) (.cond (.t 59) (.seq (.ops 12 [⟨some 4, none, .mv (.c (.int .i64 0)) false⟩, ⟨some 5, none, .mv (.c (.bool false)) false⟩]) .ret) .skip))) (.seq (.ops 13 [mvF 60 0, mvF 61 1, ⟨some 62, none, .call 43 [(.t 60), (.t 61)]⟩, mvF 4 62, ⟨some 5, none, .mv (.c (.bool true)) false⟩]) .ret)) (.exit 0)))) (.seq (.ops 14 [⟨some 4, none, .mv (.c (.int .i64 0)) false⟩, ⟨some 5, none, .mv (.c (.bool false)) false⟩]) .ret)))⟩
theorem ok_c_Z0 : chkFn Tryz.prog 28 c_Z0 = true := chkFn_of Tryz.func28 (by kernel_rfl)
def j_Z0_0 (M : Mach) (n0 : Nat) (z0 z1 : V) (σ : Objs) : Ro :=
 bd (M.call 15 [z1.ng.ng] σ) fun p0 =>
 bd (pu (eX 0 p0.1.ng.ng)) fun x1 =>
 bd (pu (eX 1 p0.1.ng.ng)) fun x2 =>
 bd (pu (eB .neq .ifc x2.ng.ng.ng .nili)) fun x3 =>
 bd (gdv x3.ng true (some x2.ng.ng)) fun x4 =>
 bd (gdp x3.ng true (M.call 49 [x4.ng] p0.2) p0.2) fun p5 =>
 bd (gdv x3.ng true (pu (evUn .not p5.1.ng))) fun x6 =>
 bd (pu (pV x3.ng.ng x6.ng (.bool false))) fun x7 =>
  br x7.ng (
  nK n0 p5.2 (.tup [(.int .i64 0), (.bool false)])) (
 bd (M.call 43 [z0.ng.ng, z1.ng.ng] p5.2) fun p8 =>
  nK n0 p8.2 (.tup [p8.1.ng.ng, (.bool true)]))
def s_Z0 (M : Mach) (a0 a1 : V) (σ : Objs) : Ro :=
 bd (pu (eB .eql .no a1.ng.ng (.str []))) fun x9 =>
  br x9.ng.ng (
 bd (M.call 47 [a0.ng.ng] σ) fun p10 =>
  nK σ.length p10.2 (.tup [p10.1.ng.ng, (.bool true)])) (
 bd (pu (eB .eql .no a1.ng.ng (.str [45]))) fun x11 =>
  br x11.ng.ng (
 bd (pu (evNilc a0.ng.ng)) fun x12 =>
 bd (pu (eF 1 x12.ng)) fun x13 =>
 bd (pu (eL σ false 1 x13.ng)) fun x14 =>
 bd (M.call 25 [a0.ng.ng, x14.ng] σ) fun p15 =>
 bd (M.call 48 [a0.ng.ng, p15.1.ng.ng.ng, (.bool false)] p15.2) fun p16 =>
 bd (pu (evUn .not p16.1.ng)) fun x17 =>
  br x17.ng (
  nK σ.length p16.2 (.tup [(.int .i64 0), (.bool false)])) (
 bd (pu (eB .add .no p15.1.ng.ng.ng (.int .i64 1))) fun x18 =>
 bd (pu (evNilc a0.ng.ng)) fun x19 =>
 bd (pu (eF 1 x19.ng)) fun x20 =>
 bd (stV p16.2 1 x20.ng x18.ng x18.ng) fun p21 =>
 bd (M.call 41 [a0.ng.ng, p15.1.ng.ng.ng] p21.2) fun p22 =>
 bd (pu (evField false 4 1 p22.1.ng)) fun x23 =>
 bd (pu (eB .add .no a1.ng.ng x23.ng)) fun x24 =>
  j_Z0_0 M σ.length a0 x24.ng p22.2)) (
 bd (pu (evIdx (.int .i64 0) a1.ng.ng)) fun x25 =>
 bd (pu (eB .eql .no x25.ng (.int .u8 45))) fun x26 =>
 bd (gdv x26.ng true (some a1.ng)) fun x27 =>
 bd (gdv x26.ng true (pu (evIdx (.int .i64 1) x27.ng))) fun x28 =>
 bd (gdv x26.ng true (pu (eC σ (.toInt .i64) x28.ng))) fun x29 =>
 bd (gdp x26.ng true (M.call 34 [x29.ng] σ) σ) fun p30 =>
 bd (pu (pV x26.ng.ng p30.1.ng (.bool false))) fun x31 =>
  br x31.ng.ng (
  j_Z0_0 M σ.length a0 a1 p30.2) (
  nK σ.length p30.2 (.tup [(.int .i64 0), (.bool false)]))))
theorem k_Z0 (M : Mach) (a0 a1 : V) (σ : Objs) : fnK M c_Z0 [a0, a1] σ = s_Z0 M a0 a1 σ := by kernel_rfl
def c_Zg : Ev.Fn := ⟨10, [.tmp 4], false, false, (.seq (.ops 0 [⟨some 4, none, .mv (.c .nili) false⟩]) (.seq (.ops 1 [mvF 5 0, mvF 6 1, ⟨some 7, none, .build [(.int .i64 0), (.int .i64 0), .nili] [(0, 1, (.t 5)), (1, 1, (.t 6))]⟩, ⟨some 8, none, .box (.t 7)⟩, ⟨some 9, none, .mkif 73 (.t 8)⟩, mvF 4 9]) .ret))⟩
theorem ok_c_Zg : chkFn Tryz.prog 29 c_Zg = true := chkFn_of Tryz.func29 (by kernel_rfl)
def s_Zg (M : Mach) (a0 a1 : V) (σ : Objs) : Ro :=
 bd (pu (buildV [(.int .i64 0), (.int .i64 0), .nili] [(0, 1, a0.ng.ng), (1, 1, a1.ng.ng)])) fun x0 =>
 bd (boxV σ x0.ng) fun p1 =>
 bd (oK false (.ifc 73 p1.1.ng)) (nK σ.length p1.2)
theorem k_Zg (M : Mach) (a0 a1 : V) (σ : Objs) : fnK M c_Zg [a0, a1] σ = s_Zg M a0 a1 σ := by kernel_rfl
def c_Zz : Ev.Fn := ⟨37, [.tmp 4], false, false, (.seq (.ops 0 [⟨some 4, none, .mv (.c (.str [])) false⟩]) (.seq (.seq (.ops 1 [mvF 7 0, ⟨some 8, none, .bin .eql .no (.t 7) (.c (.str []))⟩, mvF 9 8, ⟨some 10, (some (9, false)), .mv (.t 1) false⟩, ⟨some 11, (some (9, false)), .bin .eql .no (.t 10) (.c (.str []))⟩, ⟨some 12, none, .pick (.t 9) (.c (.bool true)) (.t 11)⟩]) (.cond (.t 12) (.seq (.ops 2 [mvF 13 0, mvF 4 13]) .ret) .skip)) (.seq (.seq (.ops 3 [mvF 14 1, ⟨some 15, none, .lenS (.t 14)⟩, ⟨some 16, none, .bin .eql .no (.t 15) (.c (.int .i64 1))⟩, mvF 17 16, ⟨some 18, (some (17, true)), .mv (.t 1) false⟩, ⟨some 19, (some (17, true)), .idx (.t 18) (.c (.int .i64 0))⟩, ⟨some 20, (some (17, true)), .bin .lss .no (.t 19) (.c (.int .u8 128))⟩, ⟨some 21, none, .pick (.t 17) (.t 20) (.c (.bool false))⟩]) (.cond (.t 21) (.seq (.ops 4 [mvF 22 0, mvF 23 1, ⟨some 24, none, .idx (.t 23) (.c (.int .i64 0))⟩, ⟨some 25, none, .call 53 [(.t 22), (.t 24)]⟩, mvF 4 25]) .ret) .skip)) (.seq (.seq (.ops 5 [mvF 27 1, ⟨some 28, none, .call 54 [.t 27]⟩, mvF 26 28, ⟨some 29, none, .extr (.t 26) 0⟩, ⟨some 30, none, .extr (.t 26) 1⟩, ⟨some 5, none, .alloc [(.bool false), (.bool false), (.bool false), (.bool false), (.bool false), (.bool false), (.bool false), (.bool false), (.bool false), (.bool false), (.bool false), (.bool false), (.bool false), (.bool false), (.bool false), (.bool false), (.bool false), (.bool false), (.bool false), (.bool false), (.bool false), (.bool false), (.bool false), (.bool false), (.bool false), (.bool false), (.bool false), (.bool false), (.bool false), (.bool false), (.bool false), (.bool false), (.bool false), (.bool false), (.bool false), (.bool false), (.bool false), (.bool false), (.bool false), (.bool false), (.bool false), (.bool false), (.bool false), (.bool false), (.bool false), (.bool false), (.bool false), (.bool false), (.bool false), (.bool false), (.bool false), (.bool false), (.bool false), (.bool false), (.bool false), (.bool false), (.bool false), (.bool false), (.bool false), (.bool false), (.bool false), (.bool false), (.bool false), (.bool false), (.bool false), (.bool false), (.bool false), (.bool false), (.bool false), (.bool false), (.bool false), (.bool false), (.bool false), (.bool false), (.bool false), (.bool false), (.bool false), (.bool false), (.bool false), (.bool false), (.bool false), (.bool false), (.bool false), (.bool false), (.bool false), (.bool false), (.bool false), (.bool false), (.bool false), (.bool false), (.bool false), (.bool false), (.bool false), (.bool false), (.bool false), (.bool false), (.bool false), (.bool false), (.bool false), (.bool false), (.bool false), (.bool false), (.bool false), (.bool false), (.bool false), (.bool false), (.bool false), (.bool false), (.bool false), (.bool false), (.bool false), (.bool false), (.bool false), (.bool false), (.bool false), (.bool false), (.bool false), (.bool false), (.bool false), (.bool false), (.bool false), (.bool false), (.bool false), (.bool false), (.bool false), (.bool false), (.bool false), (.bool false), (.bool false), (.bool false), (.bool false), (.bool false), (.bool false), (.bool false), (.bool false), (.bool false), (.bool false), (.bool false), (.bool false), (.bool false), (.bool false), (.bool false), (.bool false), (.bool false), (.bool false), (.bool false), (.bool false), (.bool false), (.bool false), (.bool false), (.bool false), (.bool false), (.bool false), (.bool false), (.bool false), (.bool false), (.bool false), (.bool false), (.bool false), (.bool false), (.bool false), (.bool false), (.bool false), (.bool false), (.bool false), (.bool false), (.bool false), (.bool false), (.bool false), (.bool false), (.bool false), (.bool false), (.bool false), (.bool false), (.bool false), (.bool false), (.bool false), (.bool false), (.bool false), (.bool false), (.bool false), (.bool false), (.bool false), (.bool false), (.bool false), (.bool false), (.bool false), (.bool false), (.bool false), (.bool false), (.bool false), (.bool false), (.bool false), (.bool false), (.bool false), (.bool false), (.bool false), (.bool false), (.bool false), (.bool false), (.bool false), (.bool false), (.bool false), (.bool false), (.bool false), (.bool false), (.bool false), (.bool false), (.bool false), (.bool false), (.bool false), (.bool false), (.bool false), (.bool false), (.bool false), (.bool false), (.bool false), (.bool false), (.bool false), (.bool false), (.bool false), (.bool false), (.bool false), (.bool false), (.bool false), (.bool false), (.bool false), (.bool false), (.bool false), (.bool false), (.bool false), (.bool false), (.bool false), (.bool false), (.bool false), (.bool false), (.bool false), (.bool false), (.bool false), (.bool false), (.bool false), (.bool false), (.bool false), (.bool false), (.bool false), (.bool false), (.bool false), (.bool false), (.bool false), (.bool false), (.bool false), (.bool false), (.bool false), (.bool false), (.bool false), (.bool false)]⟩, ⟨none, none, .store 256 (.t 5) (.t 29) false⟩, mvF 6 30]) (.seq (.ops 6 [mvF 31 6]) (.cond (.t 31) (.seq (.ops 7 [mvF 32 0, ⟨some 33, none, .call 55 [(.t 32), (.t 5)]⟩, mvF 4 33]) .ret) .skip))) (.seq (.ops 8 [mvF 34 0, mvF 35 1, ⟨some 36, none, .call 56 [(.t 34), (.t 35)]⟩, mvF 4 36]) .ret)))))⟩
theorem ok_c_Zz : chkFn Tryz.prog 33 c_Zz = true := chkFn_of Tryz.func33 (by kernel_rfl)
def s_Zz (M : Mach) (a0 a1 : V) (σ : Objs) : Ro :=
 bd (pu (eB .eql .no a0.ng.ng (.str []))) fun x0 =>
 bd (gdv x0.ng false (some a1.ng)) fun x1 =>
 bd (gdv x0.ng false (pu (eB .eql .no x1.ng (.str [])))) fun x2 =>
 bd (pu (pV x0.ng.ng (.bool true) x2.ng)) fun x3 =>
  br x3.ng (
 bd (oK false a0.ng.ng) (nK σ.length σ)) (
 bd (pu (evLenS a1.ng.ng)) fun x4 =>
 bd (pu (eB .eql .no x4.ng (.int .i64 1))) fun x5 =>
 bd (gdv x5.ng true (some a1.ng)) fun x6 =>
 bd (gdv x5.ng true (pu (evIdx (.int .i64 0) x6.ng))) fun x7 =>
 bd (gdv x5.ng true (pu (eB .lss .no x7.ng (.int .u8 128)))) fun x8 =>
 bd (pu (pV x5.ng.ng x8.ng (.bool false))) fun x9 =>
  br x9.ng (
 bd (pu (evIdx (.int .i64 0) a1.ng.ng)) fun x10 =>
 bd (M.call 53 [a0.ng.ng, x10.ng] σ) fun p11 =>
 bd (oK false p11.1.ng) (nK σ.length p11.2)) (
 bd (M.call 54 [a1.ng.ng] σ) fun p12 =>
 bd (pu (eX 0 p12.1.ng.ng)) fun x13 =>
 bd (pu (eX 1 p12.1.ng.ng)) fun x14 =>
  let s15 : Objs := p12.2 ++ [.cells [(.bool false), (.bool false), (.bool false), (.bool false), (.bool false), (.bool false), (.bool false), (.bool false), (.bool false), (.bool false), (.bool false), (.bool false), (.bool false), (.bool false), (.bool false), (.bool false), (.bool false), (.bool false), (.bool false), (.bool false), (.bool false), (.bool false), (.bool false), (.bool false), (.bool false), (.bool false), (.bool false), (.bool false), (.bool false), (.bool false), (.bool false), (.bool false), (.bool false), (.bool false), (.bool false), (.bool false), (.bool false), (.bool false), (.bool false), (.bool false), (.bool false), (.bool false), (.bool false), (.bool false), (.bool false), (.bool false), (.bool false), (.bool false), (.bool false), (.bool false), (.bool false), (.bool false), (.bool false), (.bool false), (.bool false), (.bool false), (.bool false), (.bool false), (.bool false), (.bool false), (.bool false), (.bool false), (.bool false), (.bool false), (.bool false), (.bool false), (.bool false), (.bool false), (.bool false), (.bool false), (.bool false), (.bool false), (.bool false), (.bool false), (.bool false), (.bool false), (.bool false), (.bool false), (.bool false), (.bool false), (.bool false), (.bool false), (.bool false), (.bool false), (.bool false), (.bool false), (.bool false), (.bool false), (.bool false), (.bool false), (.bool false), (.bool false), (.bool false), (.bool false), (.bool false), (.bool false), (.bool false), (.bool false), (.bool false), (.bool false), (.bool false), (.bool false), (.bool false), (.bool false), (.bool false), (.bool false), (.bool false), (.bool false), (.bool false), (.bool false), (.bool false), (.bool false), (.bool false), (.bool false), (.bool false), (.bool false), (.bool false), (.bool false), (.bool false), (.bool false), (.bool false), (.bool false), (.bool false), (.bool false), (.bool false), (.bool false), (.bool false), (.bool false), (.bool false), (.bool false), (.bool false), (.bool false), (.bool false), (.bool false), (.bool false), (.bool false), (.bool false), (.bool false), (.bool false), (.bool false), (.bool false), (.bool false), (.bool false), (.bool false), (.bool false), (.bool false), (.bool false), (.bool false), (.bool false), (.bool false), (.bool false), (.bool false), (.bool false), (.bool false), (.bool false), (.bool false), (.bool false), (.bool false), (.bool false), (.bool false), (.bool false), (.bool false), (.bool false), (.bool false), (.bool false), (.bool false), (.bool false), (.bool false), (.bool false), (.bool false), (.bool false), (.bool false), (.bool false), (.bool false), (.bool false), (.bool false), (.bool false), (.bool false), (.bool false), (.bool false), (.bool false), (.bool false), (.bool false), (.bool false), (.bool false), (.bool false), (.bool false), (.bool false), (.bool false), (.bool false), (.bool false), (.bool false), (.bool false), (.bool false), (.bool false), (.bool false), (.bool false), (.bool false), (.bool false), (.bool false), (.bool false), (.bool false), (.bool false), (.bool false), (.bool false), (.bool false), (.bool false), (.bool false), (.bool false), (.bool false), (.bool false), (.bool false), (.bool false), (.bool false), (.bool false), (.bool false), (.bool false), (.bool false), (.bool false), (.bool false), (.bool false), (.bool false), (.bool false), (.bool false), (.bool false), (.bool false), (.bool false), (.bool false), (.bool false), (.bool false), (.bool false), (.bool false), (.bool false), (.bool false), (.bool false), (.bool false), (.bool false), (.bool false), (.bool false), (.bool false), (.bool false), (.bool false), (.bool false), (.bool false), (.bool false), (.bool false), (.bool false), (.bool false), (.bool false), (.bool false), (.bool false), (.bool false), (.bool false), (.bool false), (.bool false), (.bool false)]]
 bd (stV s15 256 (.ptr p12.2.length 0) x13.ng x13.ng) fun p16 =>
  br x14.ng.ng.ng (
 bd (M.call 55 [a0.ng.ng, (.ptr p12.2.length 0)] p16.2) fun p17 =>
 bd (oK false p17.1.ng) (nK σ.length p17.2)) (
 bd (M.call 56 [a0.ng.ng, a1.ng.ng] p16.2) fun p18 =>
 bd (oK false p18.1.ng) (nK σ.length p18.2))))
theorem k_Zz (M : Mach) (a0 a1 : V) (σ : Objs) : fnK M c_Zz [a0, a1] σ = s_Zz M a0 a1 σ := by kernel_rfl
def c_Zh : Ev.Fn := ⟨9, [.tmp 2], false, false, (.seq (.ops 0 [⟨some 2, none, .mv (.c (.bool false)) false⟩]) (.seq (.ops 1 [mvF 3 0, ⟨some 4, none, .bin .geq .no (.t 3) (.c (.int .i64 48))⟩, mvF 5 4, ⟨some 6, (some (5, true)), .mv (.t 0) false⟩, ⟨some 7, (some (5, true)), .bin .leq .no (.t 6) (.c (.int .i64 57))⟩, ⟨some 8, none, .pick (.t 5) (.t 7) (.c (.bool false))⟩, mvF 2 8]) .ret))⟩
theorem ok_c_Zh : chkFn Tryz.prog 34 c_Zh = true := chkFn_of Tryz.func34 (by kernel_rfl)
def s_Zh (M : Mach) (a0 : V) (σ : Objs) : Ro :=
 bd (pu (eB .geq .no a0.ng.ng (.int .i64 48))) fun x0 =>
 bd (gdv x0.ng true (some a0.ng)) fun x1 =>
 bd (gdv x0.ng true (pu (eB .leq .no x1.ng (.int .i64 57)))) fun x2 =>
 bd (pu (pV x0.ng.ng x2.ng (.bool false))) fun x3 =>
 bd (oK false x3.ng) (nK σ.length σ)
theorem k_Zh (M : Mach) (a0 : V) (σ : Objs) : fnK M c_Zh [a0] σ = s_Zh M a0 σ := by kernel_rfl
def c_Z1i : Ev.Fn := ⟨9, [.tmp 2], false, false, (.seq (.ops 0 [⟨some 2, none, .mv (.c (.bool false)) false⟩]) (.seq (.ops 1 [mvF 3 0, ⟨some 4, none, .bin .geq .no (.t 3) (.c (.int .i64 48))⟩, mvF 5 4, ⟨some 6, (some (5, true)), .mv (.t 0) false⟩, ⟨some 7, (some (5, true)), .bin .leq .no (.t 6) (.c (.int .i64 57))⟩, ⟨some 8, none, .pick (.t 5) (.t 7) (.c (.bool false))⟩, mvF 2 8]) .ret))⟩
theorem ok_c_Z1i : chkFn Tryz.prog 38 c_Z1i = true := chkFn_of Tryz.func38 (by kernel_rfl)
def s_Z1i (M : Mach) (a0 : V) (σ : Objs) : Ro :=
 bd (pu (eB .geq .no a0.ng.ng (.int .i64 48))) fun x0 =>
 bd (gdv x0.ng true (some a0.ng)) fun x1 =>
 bd (gdv x0.ng true (pu (eB .leq .no x1.ng (.int .i64 57)))) fun x2 =>
 bd (pu (pV x0.ng.ng x2.ng (.bool false))) fun x3 =>
 bd (oK false x3.ng) (nK σ.length σ)
theorem k_Z1i (M : Mach) (a0 : V) (σ : Objs) : fnK M c_Z1i [a0] σ = s_Z1i M a0 σ := by kernel_rfl
def c_Zv : Ev.Fn := ⟨5, [.tmp 2], false, false, (.seq (.ops 0 [⟨some 2, none, .mv (.c (.str [])) false⟩]) (.seq (.ops 1 [mvF 3 0, ⟨some 4, none, .call 68 [.t 3]⟩, mvF 2 4]) .ret))⟩
theorem ok_c_Zv : chkFn Tryz.prog 39 c_Zv = true := chkFn_of Tryz.func39 (by kernel_rfl)
def s_Zv (M : Mach) (a0 : V) (σ : Objs) : Ro :=
 bd (M.call 68 [a0.ng.ng] σ) fun p0 =>
 bd (oK false p0.1.ng) (nK σ.length p0.2)
theorem k_Zv (M : Mach) (a0 : V) (σ : Objs) : fnK M c_Zv [a0] σ = s_Zv M a0 σ := by kernel_rfl
def c_Z2d : Ev.Fn := ⟨11, [.tmp 2], false, false, (.seq (.ops 0 [⟨some 2, none, .mv (.c (.str [])) false⟩]) (.seq (.seq (.ops 1 [mvF 3 0, ⟨some 4, none, .bin .lss .no (.t 3) (.c (.int .i64 0))⟩]) (.cond (.t 4) (.seq (.ops 2 [mvF 5 0, ⟨some 6, none, .un .neg (.t 5)⟩, ⟨some 7, none, .call 69 [(.t 6), (.c (.int .i64 10))]⟩, ⟨some 8, none, .bin .add .no (.c (.str [45])) (.t 7)⟩, mvF 2 8]) .ret) .skip)) (.seq (.ops 3 [mvF 9 0, ⟨some 10, none, .call 69 [(.t 9), (.c (.int .i64 10))]⟩, mvF 2 10]) .ret)))⟩
theorem ok_c_Z2d : chkFn Tryz.prog 40 c_Z2d = true := chkFn_of Tryz.func40 (by kernel_rfl)
def s_Z2d (M : Mach) (a0 : V) (σ : Objs) : Ro :=
 bd (pu (eB .lss .no a0.ng.ng (.int .i64 0))) fun x0 =>
  br x0.ng (
 bd (pu (evUn .neg a0.ng.ng)) fun x1 =>
 bd (M.call 69 [x1.ng, (.int .i64 10)] σ) fun p2 =>
 bd (pu (eB .add .no (.str [45]) p2.1.ng)) fun x3 =>
 bd (oK false x3.ng) (nK σ.length p2.2)) (
 bd (M.call 69 [a0.ng.ng, (.int .i64 10)] σ) fun p4 =>
 bd (oK false p4.1.ng) (nK σ.length p4.2))
theorem k_Z2d (M : Mach) (a0 : V) (σ : Objs) : fnK M c_Z2d [a0] σ = s_Z2d M a0 σ := by kernel_rfl
def c_Z19 : Ev.Fn := ⟨55, [.tmp 4, .tmp 5], false, false, (.seq (.ops 0 [⟨some 4, none, .mv (.c (.int .i64 0)) false⟩, ⟨some 5, none, .mv (.c (.int .i64 0)) false⟩]) (.seq (.seq (.ops 1 [⟨some 6, none, .mv (.c (.int .i64 1)) false⟩]) (.block 0 (.loop [0, 1, 6] [0, 1, 4, 5] (.seq (.seq (.ops 2 [mvF 8 6, ⟨some 9, none, .bin .leq .no (.t 8) (.c (.int .i64 4))⟩, mvF 10 9, ⟨some 11, (some (10, true)), .mv (.t 1) false⟩, ⟨some 12, (some (10, true)), .mv (.t 6) false⟩, ⟨some 13, (some (10, true)), .bin .add .no (.t 11) (.t 12)⟩, ⟨some 14, (some (10, true)), .mv (.t 0) false⟩, ⟨some 15, (some (10, true)), .len (.t 14)⟩, ⟨some 16, (some (10, true)), .bin .leq .no (.t 13) (.t 15)⟩, ⟨some 17, none, .pick (.t 10) (.t 16) (.c (.bool false))⟩]) (.cond (.t 17) .skip (.exit 0))) (.seq (.block 1 (.seq (.ops 4 [mvF 20 0, mvF 21 1, mvF 22 1, mvF 23 6, ⟨some 24, none, .bin .add .no (.t 22) (.t 23)⟩, ⟨some 25, none, .cut 1 (.t 20) (some (.t 21)) (some (.t 24)) none⟩, ⟨some 26, none, .call 86 [.t 25]⟩]) (.cond (.t 26) (.seq (.ops 5 [mvT 27 0, mvF 28 1, mvF 29 1, mvF 30 6, ⟨some 31, none, .bin .add .no (.t 29) (.t 30)⟩, ⟨some 32, none, .cut 1 (.t 27) (some (.t 28)) (some (.t 31)) none⟩, ⟨some 33, none, .call 87 [.t 32]⟩, mvF 34 6, mvF 4 33, mvF 5 34]) .ret) .skip))) (.ops 3 [mvF 18 6, ⟨some 19, none, .bin .add .no (.t 18) (.c (.int .i64 1))⟩, mvF 6 19])))))) (.seq (.seq (.ops 6 [⟨some 7, none, .mv (.c (.int .i64 3)) false⟩]) (.block 2 (.loop [0, 1, 7] [4, 5] (.seq (.seq (.ops 7 [mvF 35 7, ⟨some 36, none, .bin .gtr .no (.t 35) (.c (.int .i64 1))⟩]) (.cond (.t 36) .skip (.exit 2))) (.seq (.block 3 (.seq (.ops 9 [mvF 39 1, mvF 40 7, ⟨some 41, none, .bin .add .no (.t 39) (.t 40)⟩, mvF 42 0, ⟨some 43, none, .len (.t 42)⟩, ⟨some 44, none, .bin .leq .no (.t 41) (.t 43)⟩, mvF 45 44, ⟨some 46, (some (45, true)), .mv (.t 0) false⟩, ⟨some 47, (some (45, true)), .mv (.t 1) false⟩, ⟨some 48, (some (45, true)), .mv (.t 1) false⟩, ⟨some 49, (some (45, true)), .mv (.t 7) false⟩, ⟨some 50, (some (45, true)), .bin .add .no (.t 48) (.t 49)⟩, ⟨some 51, (some (45, true)), .cut 1 (.t 46) (some (.t 47)) (some (.t 50)) none⟩, ⟨some 52, (some (45, true)), .call 88 [.t 51]⟩, ⟨some 53, none, .pick (.t 45) (.t 52) (.c (.bool false))⟩]) (.cond (.t 53) (.seq (.ops 10 [mvF 54 7, ⟨some 4, none, .mv (.c (.int .i64 65533)) false⟩, mvF 5 54]) .ret) .skip))) (.ops 8 [mvF 37 7, ⟨some 38, none, .bin .sub .no (.t 37) (.c (.int .i64 1))⟩, mvF 7 38])))))) (.seq (.ops 11 [⟨some 4, none, .mv (.c (.int .i64 65533)) false⟩, ⟨some 5, none, .mv (.c (.int .i64 1)) false⟩]) .ret))))⟩
theorem ok_c_Z19 : chkFn Tryz.prog 52 c_Z19 = true := chkFn_of Tryz.func52 (by kernel_rfl)
def b_Z19_1 (M : Mach) (n0 : Nat) (n1 : Nat) (r1 : Rk) (z0 z1 z7 : V) (σ : Objs) : Ro :=
 bd (pu (eB .gtr .no z7.ng.ng (.int .i64 1))) fun x29 =>
  br x29.ng (
 bd (pu (eB .add .no z1.ng.ng z7.ng.ng)) fun x30 =>
 bd (pu (evLen z0.ng.ng)) fun x31 =>
 bd (pu (eB .leq .no x30.ng x31.ng)) fun x32 =>
 bd (gdv x32.ng true (some z0.ng)) fun x33 =>
 bd (gdv x32.ng true (some z1.ng)) fun x34 =>
 bd (gdv x32.ng true (some z1.ng)) fun x35 =>
 bd (gdv x32.ng true (some z7.ng)) fun x36 =>
 bd (gdv x32.ng true (pu (eB .add .no x35.ng x36.ng))) fun x37 =>
 bd (gdv x32.ng true (pu (evCut 1 x33.ng (some x34.ng) (some x37.ng) none))) fun x38 =>
 bd (gdp x32.ng true (M.call 88 [x38.ng] σ) σ) fun p39 =>
 bd (pu (pV x32.ng.ng p39.1.ng (.bool false))) fun x40 =>
  br x40.ng (
 bd (fz n1 p39.2 fzD (.int .i64 65533)) fun y41 =>
 bd (fz n1 p39.2 fzD z7.ng.ng) fun y42 =>
 bd (cuO n1 p39.2) fun s43 =>
  nK n0 s43 (.tup [y41.ng, y42.ng])) (
 bd (pu (eB .sub .no z7.ng.ng (.int .i64 1))) fun x44 =>
 bd (fz n1 p39.2 fzD z0) fun y45 =>
 bd (fz n1 p39.2 fzD z1) fun y46 =>
 bd (fz n1 p39.2 fzD x44.ng) fun y47 =>
 bd (cuO n1 p39.2) fun s48 => r1 [y45, y46, y47] s48)) (
 bd (fz n1 σ fzD .any) fun y49 =>
 bd (fz n1 σ fzD .any) fun y50 =>
 bd (cuO n1 σ) fun s51 =>
  nK n0 s51 (.tup [(.int .i64 65533), (.int .i64 1)]))
def l_Z19_1 (M : Mach) (n0 : Nat) (n1 : Nat) : Rk := M.fx fun rec vs σ => b_Z19_1 M n0 n1 rec (vs.getD 0 .undef) (vs.getD 1 .undef) (vs.getD 2 .undef) σ
def b_Z19_0 (M : Mach) (n0 : Nat) (n1 : Nat) (r1 : Rk) (z0 z1 z6 : V) (σ : Objs) : Ro :=
 bd (pu (eB .leq .no z6.ng.ng (.int .i64 4))) fun x0 =>
 bd (gdv x0.ng true (some z1.ng)) fun x1 =>
 bd (gdv x0.ng true (some z6.ng)) fun x2 =>
 bd (gdv x0.ng true (pu (eB .add .no x1.ng x2.ng))) fun x3 =>
 bd (gdv x0.ng true (some z0.ng)) fun x4 =>
 bd (gdv x0.ng true (pu (evLen x4.ng))) fun x5 =>
 bd (gdv x0.ng true (pu (eB .leq .no x3.ng x5.ng))) fun x6 =>
 bd (pu (pV x0.ng.ng x6.ng (.bool false))) fun x7 =>
  br x7.ng (
 bd (pu (eB .add .no z1.ng.ng z6.ng.ng)) fun x8 =>
 bd (pu (evCut 1 z0.ng.ng (some z1.ng.ng) (some x8.ng) none)) fun x9 =>
 bd (M.call 86 [x9.ng] σ) fun p10 =>
  br p10.1.ng (
 bd (pu (eB .add .no z1.ng.ng z6.ng.ng)) fun x11 =>
 bd (pu (evCut 1 z0.ng (some z1.ng.ng) (some x11.ng) none)) fun x12 =>
 bd (M.call 87 [x12.ng] p10.2) fun p13 =>
 bd (fz n1 p13.2 fzD z0.ng) fun y14 =>
 bd (fz n1 p13.2 fzD z1) fun y15 =>
 bd (fz n1 p13.2 fzD p13.1.ng) fun y16 =>
 bd (fz n1 p13.2 fzD z6.ng.ng) fun y17 =>
 bd (cuO n1 p13.2) fun s18 =>
  nK n0 s18 (.tup [y16.ng, y17.ng])) (
 bd (pu (eB .add .no z6.ng.ng (.int .i64 1))) fun x19 =>
 bd (fz n1 p10.2 fzD z0) fun y20 =>
 bd (fz n1 p10.2 fzD z1) fun y21 =>
 bd (fz n1 p10.2 fzD x19.ng) fun y22 =>
 bd (cuO n1 p10.2) fun s23 => r1 [y20, y21, y22] s23)) (
 bd (fz n1 σ fzD z0) fun y24 =>
 bd (fz n1 σ fzD z1) fun y25 =>
 bd (fz n1 σ fzD .any) fun y26 =>
 bd (fz n1 σ fzD .any) fun y27 =>
 bd (cuO n1 σ) fun s28 =>
 bd (fz s28.length s28 fzD y24) fun y52 =>
 bd (fz s28.length s28 fzD y25) fun y53 =>
 bd (fz s28.length s28 fzD (.int .i64 3)) fun y54 =>
  l_Z19_1 M n0 s28.length [y52, y53, y54] s28)
def l_Z19_0 (M : Mach) (n0 : Nat) (n1 : Nat) : Rk := M.fx fun rec vs σ => b_Z19_0 M n0 n1 rec (vs.getD 0 .undef) (vs.getD 1 .undef) (vs.getD 2 .undef) σ
def s_Z19 (M : Mach) (a0 a1 : V) (σ : Objs) : Ro :=
 bd (fz σ.length σ fzD a0) fun y55 =>
 bd (fz σ.length σ fzD a1) fun y56 =>
 bd (fz σ.length σ fzD (.int .i64 1)) fun y57 =>
  l_Z19_0 M σ.length σ.length [y55, y56, y57] σ
theorem k_Z19 (M : Mach) (a0 a1 : V) (σ : Objs) : fnK M c_Z19 [a0, a1] σ = s_Z19 M a0 a1 σ := by kernel_rfl
def c_Z1c : Ev.Fn := ⟨17, [.tmp 2], false, false, (.seq (.ops 0 [⟨some 2, none, .mv (.c (.bool false)) false⟩]) (.seq (.ops 1 [mvF 3 0, ⟨some 4, none, .bin .geq .no (.t 3) (.c (.int .i64 0))⟩, mvF 5 4, ⟨some 6, (some (5, true)), .mv (.t 0) false⟩, ⟨some 7, (some (5, true)), .bin .lss .no (.t 6) (.c (.int .i64 1114112))⟩, ⟨some 8, none, .pick (.t 5) (.t 7) (.c (.bool false))⟩, mvF 9 8, ⟨some 10, (some (9, true)), .mv (.t 0) false⟩, ⟨some 11, (some (9, true)), .bin .lss .no (.t 10) (.c (.int .i64 55296))⟩, ⟨some 12, (some (9, true)), .mv (.t 11) false⟩, ⟨some 13, (some (12, false)), .mv (.t 0) false⟩, ⟨some 14, (some (12, false)), .bin .gtr .no (.t 13) (.c (.int .i64 57343))⟩, ⟨some 15, (some (9, true)), .pick (.t 12) (.c (.bool true)) (.t 14)⟩, ⟨some 16, none, .pick (.t 9) (.t 15) (.c (.bool false))⟩, mvF 2 16]) .ret))⟩
theorem ok_c_Z1c : chkFn Tryz.prog 51 c_Z1c = true := chkFn_of Tryz.func51 (by kernel_rfl)
def s_Z1c (M : Mach) (a0 : V) (σ : Objs) : Ro :=
 bd (pu (eB .geq .no a0.ng.ng (.int .i64 0))) fun x0 =>
 bd (gdv x0.ng true (some a0.ng)) fun x1 =>
 bd (gdv x0.ng true (pu (eB .lss .no x1.ng (.int .i64 1114112)))) fun x2 =>
 bd (pu (pV x0.ng.ng x2.ng (.bool false))) fun x3 =>
 bd (gdv x3.ng true (some a0.ng)) fun x4 =>
 bd (gdv x3.ng true (pu (eB .lss .no x4.ng (.int .i64 55296)))) fun x5 =>
 bd (gdv x3.ng true (some x5.ng)) fun x6 =>
 bd (gdv x6 false (some a0.ng)) fun x7 =>
 bd (gdv x6 false (pu (eB .gtr .no x7.ng (.int .i64 57343)))) fun x8 =>
 bd (gdv x3.ng true (pu (pV x6.ng (.bool true) x8.ng))) fun x9 =>
 bd (pu (pV x3.ng.ng x9.ng (.bool false))) fun x10 =>
 bd (oK false x10.ng) (nK σ.length σ)
theorem k_Z1c (M : Mach) (a0 : V) (σ : Objs) : fnK M c_Z1c [a0] σ = s_Z1c M a0 σ := by kernel_rfl
def c_Z1t : Ev.Fn := ⟨192, [.cell 4 true 6], false, false, (.seq (.ops 0 [⟨some 4, none, .alloc [(.int .i64 0), (.int .i64 0), (.int .i64 0), (.str []), (.str []), (.bool false)]⟩]) (.seq (.seq (.ops 1 [mvF 15 1, ⟨some 16, none, .bin .lss .no (.t 15) (.c (.int .i64 0))⟩]) (.cond (.t 16) (.ops 2 [⟨some 1, none, .mv (.c (.int .i64 0)) false⟩]) .skip)) (.seq (.seq (.ops 3 [mvF 17 1, mvF 18 0, ⟨some 19, none, .len (.t 18)⟩, ⟨some 20, none, .bin .gtr .no (.t 17) (.t 19)⟩]) (.cond (.t 20) (.ops 4 [mvF 21 0, ⟨some 22, none, .len (.t 21)⟩, mvF 1 22]) .skip)) (.seq (.ops 5 [mvF 23 0, mvF 24 1, ⟨some 25, none, .call 73 [(.t 23), (.t 24)]⟩, mvF 5 25]) (.seq (.seq (.ops 6 [mvF 26 5, mvF 27 0, ⟨some 28, none, .len (.t 27)⟩, ⟨some 29, none, .bin .geq .no (.t 26) (.t 28)⟩]) (.cond (.t 29) (.seq (.ops 7 [mvF 30 0, ⟨some 31, none, .len (.t 30)⟩, mvT 32 0, ⟨some 33, none, .len (.t 32)⟩, ⟨some 34, none, .build [(.int .i64 0), (.int .i64 0), (.int .i64 0), (.str []), (.str []), (.bool false)] [(0, 1, (.c (.int .i64 0))), (1, 1, (.t 31)), (2, 1, (.t 33))]⟩, ⟨none, none, .store 6 (.t 4) (.t 34) false⟩]) .ret) .skip)) (.seq (.ops 8 [mvF 35 0, mvF 36 5, ⟨some 37, none, .iaddr 1 (.t 35) (.t 36)⟩, ⟨some 38, none, .load false 1 (.t 37)⟩, mvF 6 38]) (.seq (.seq (.ops 9 [mvF 39 6, ⟨some 40, none, .call 74 [.t 39]⟩]) (.cond (.t 40) (.seq (.ops 10 [mvF 41 5, mvF 7 41]) (.seq (.block 0 (.loop [0, 4, 5, 7] [4, 5, 7] (.seq (.seq (.ops 11 [mvF 42 0, mvF 43 7, ⟨some 44, none, .call 75 [(.t 42), (.t 43)]⟩]) (.cond (.t 44) .skip (.exit 0))) (.block 1 (.ops 12 [mvF 45 7, ⟨some 46, none, .bin .add .no (.t 45) (.c (.int .i64 1))⟩, mvF 7 46]))))) (.seq (.ops 13 [mvF 47 5, mvF 48 7, ⟨some 49, none, .build [(.int .i64 0), (.int .i64 0), (.int .i64 0), (.str []), (.str []), (.bool false)] [(0, 1, (.c (.int .i64 13))), (1, 1, (.t 47)), (2, 1, (.t 48))]⟩, ⟨none, none, .store 6 (.t 4) (.t 49) false⟩]) .ret))) .skip)) (.seq (.seq (.ops 14 [mvF 50 6, ⟨some 51, none, .bin .eql .no (.t 50) (.c (.int .i64 34))⟩, mvF 52 51, ⟨some 53, (some (52, false)), .mv (.t 6) false⟩, ⟨some 54, (some (52, false)), .bin .eql .no (.t 53) (.c (.int .i64 39))⟩, ⟨some 55, none, .pick (.t 52) (.c (.bool true)) (.t 54)⟩]) (.cond (.t 55) (.seq (.ops 15 [mvT 56 0, mvF 57 5, ⟨some 58, none, .call 76 [(.t 56), (.t 57)]⟩, ⟨none, none, .store 6 (.t 4) (.t 58) false⟩]) .ret) .skip)) (.seq (.seq (.ops 16 [mvF 59 0, mvF 60 5, ⟨some 61, none, .call 77 [(.t 59), (.t 60)]⟩]) (.cond (.t 61) (.seq (.ops 17 [mvT 62 0, mvF 63 5, ⟨some 64, none, .call 78 [(.t 62), (.t 63)]⟩, ⟨none, none, .store 6 (.t 4) (.t 64) false⟩]) .ret) .skip)) (.seq (.seq (.ops 18 [mvF 65 6, ⟨some 66, none, .bin .eql .no (.t 65) (.c (.int .i64 45))⟩, mvF 67 66, ⟨some 68, (some (67, true)), .mv (.t 0) false⟩, ⟨some 69, (some (67, true)), .mv (.t 5) false⟩, ⟨some 70, (some (67, true)), .bin .add .no (.t 69) (.c (.int .i64 1))⟩, ⟨some 71, (some (67, true)), .call 79 [(.t 68), (.t 70), (.c (.int .i64 45))]⟩, ⟨some 72, none, .pick (.t 67) (.t 71) (.c (.bool false))⟩, mvF 73 72, ⟨some 74, (some (73, true)), .mv (.t 0) false⟩, ⟨some 75, (some (73, true)), .mv (.t 5) false⟩, ⟨some 76, (some (73, true)), .bin .add .no (.t 75) (.c (.int .i64 2))⟩, ⟨some 77, (some (73, true)), .call 79 [(.t 74), (.t 76), (.c (.int .i64 62))]⟩, ⟨some 78, none, .pick (.t 73) (.t 77) (.c (.bool false))⟩]) (.cond (.t 78) (.seq (.ops 19 [mvF 79 5, mvF 80 5, ⟨some 81, none, .bin .add .no (.t 80) (.c (.int .i64 3))⟩, ⟨some 82, none, .build [(.int .i64 0), (.int .i64 0), (.int .i64 0), (.str []), (.str []), (.bool false)] [(0, 1, (.c (.int .i64 15))), (1, 1, (.t 79)), (2, 1, (.t 81))]⟩, ⟨none, none, .store 6 (.t 4) (.t 82) false⟩]) .ret) .skip)) (.seq (.seq (.ops 20 [mvF 83 0, mvF 84 5, ⟨some 85, none, .call 80 [(.t 83), (.t 84)]⟩]) (.cond (.t 85) (.seq (.ops 21 [mvT 86 0, mvF 87 5, ⟨some 88, none, .call 81 [(.t 86), (.t 87)]⟩, ⟨none, none, .store 6 (.t 4) (.t 88) false⟩]) .ret) .skip)) (.seq (.seq (.ops 22 [mvF 89 6, ⟨some 90, none, .bin .eql .no (.t 89) (.c (.int .i64 60))⟩, mvF 91 90, ⟨some 92, (some (91, true)), .mv (.t 0) false⟩, ⟨some 93, (some (91, true)), .mv (.t 5) false⟩, ⟨some 94, (some (91, true)), .bin .add .no (.t 93) (.c (.int .i64 1))⟩, ⟨some 95, (some (91, true)), .call 79 [(.t 92), (.t 94), (.c (.int .i64 33))]⟩, ⟨some 96, none, .pick (.t 91) (.t 95) (.c (.bool false))⟩, mvF 97 96, ⟨some 98, (some (97, true)), .mv (.t 0) false⟩, ⟨some 99, (some (97, true)), .mv (.t 5) false⟩, ⟨some 100, (some (97, true)), .bin .add .no (.t 99) (.c (.int .i64 2))⟩, ⟨some 101, (some (97, true)), .call 79 [(.t 98), (.t 100), (.c (.int .i64 45))]⟩, ⟨some 102, none, .pick (.t 97) (.t 101) (.c (.bool false))⟩, mvF 103 102, ⟨some 104, (some (103, true)), .mv (.t 0) false⟩, ⟨some 105, (some (103, true)), .mv (.t 5) false⟩, ⟨some 106, (some (103, true)), .bin .add .no (.t 105) (.c (.int .i64 3))⟩, ⟨some 107, (some (103, true)), .call 79 [(.t 104), (.t 106), (.c (.int .i64 45))]⟩, ⟨some 108, none, .pick (.t 103) (.t 107) (.c (.bool false))⟩]) (.cond (.t 108) (.seq (.ops 23 [mvF 109 5, mvF 110 5, ⟨some 111, none, .bin .add .no (.t 110) (.c (.int .i64 4))⟩, ⟨some 112, none, .build [(.int .i64 0), (.int .i64 0), (.int .i64 0), (.str []), (.str []), (.bool false)] [(0, 1, (.c (.int .i64 14))), (1, 1, (.t 109)), (2, 1, (.t 111))]⟩, ⟨none, none, .store 6 (.t 4) (.t 112) false⟩]) .ret) .skip)) (.seq (.seq (.ops 24 [mvF 113 6, ⟨some 114, none, .bin .eql .no (.t 113) (.c (.int .i64 64))⟩, mvF 115 114, ⟨some 116, (some (115, true)), .mv (.t 0) false⟩, ⟨some 117, (some (115, true)), .mv (.t 5) false⟩, ⟨some 118, (some (115, true)), .bin .add .no (.t 117) (.c (.int .i64 1))⟩, ⟨some 119, (some (115, true)), .call 80 [(.t 116), (.t 118)]⟩, ⟨some 120, none, .pick (.t 115) (.t 119) (.c (.bool false))⟩]) (.cond (.t 120) (.seq (.ops 25 [mvT 122 0, mvF 123 5, ⟨some 124, none, .bin .add .no (.t 123) (.c (.int .i64 1))⟩, ⟨some 125, none, .call 82 [(.t 122), (.t 124)]⟩, mvF 121 125, ⟨some 126, none, .extr (.t 121) 0⟩, ⟨some 127, none, .extr (.t 121) 1⟩, mvF 8 126, mvF 9 127]) (.seq (.ops 26 [mvF 128 5, mvF 129 9, mvF 130 8, ⟨some 131, none, .build [(.int .i64 0), (.int .i64 0), (.int .i64 0), (.str []), (.str []), (.bool false)] [(0, 1, (.c (.int .i64 3))), (1, 1, (.t 128)), (2, 1, (.t 129)), (3, 1, (.t 130))]⟩, ⟨none, none, .store 6 (.t 4) (.t 131) false⟩]) .ret)) .skip)) (.seq (.seq (.ops 27 [mvF 132 6, ⟨some 133, none, .bin .eql .no (.t 132) (.c (.int .i64 35))⟩, mvF 134 133, ⟨some 135, (some (134, true)), .mv (.t 0) false⟩, ⟨some 136, (some (134, true)), .mv (.t 5) false⟩, ⟨some 137, (some (134, true)), .bin .add .no (.t 136) (.c (.int .i64 1))⟩, ⟨some 138, (some (134, true)), .call 83 [(.t 135), (.t 137)]⟩, ⟨some 139, (some (134, true)), .mv (.t 138) false⟩, ⟨some 140, (some (139, false)), .mv (.t 0) false⟩, ⟨some 141, (some (139, false)), .mv (.t 5) false⟩, ⟨some 142, (some (139, false)), .bin .add .no (.t 141) (.c (.int .i64 1))⟩, ⟨some 143, (some (139, false)), .call 84 [(.t 140), (.t 142)]⟩, ⟨some 144, (some (134, true)), .pick (.t 139) (.c (.bool true)) (.t 143)⟩, ⟨some 145, none, .pick (.t 134) (.t 144) (.c (.bool false))⟩]) (.cond (.t 145) (.seq (.ops 28 [mvF 147 0, mvF 148 5, ⟨some 149, none, .bin .add .no (.t 148) (.c (.int .i64 1))⟩, ⟨some 150, none, .call 82 [(.t 147), (.t 149)]⟩, mvF 146 150, ⟨some 151, none, .extr (.t 146) 0⟩, ⟨some 152, none, .extr (.t 146) 1⟩, mvF 10 151, mvF 11 152]) (.seq (.ops 29 [mvF 153 5, mvF 154 11, mvF 155 10, mvT 156 0, mvF 157 5, ⟨some 158, none, .bin .add .no (.t 157) (.c (.int .i64 1))⟩, ⟨some 159, none, .call 80 [(.t 156), (.t 158)]⟩, ⟨some 160, none, .build [(.int .i64 0), (.int .i64 0), (.int .i64 0), (.str []), (.str []), (.bool false)] [(0, 1, (.c (.int .i64 4))), (1, 1, (.t 153)), (2, 1, (.t 154)), (3, 1, (.t 155)), (5, 1, (.t 159))]⟩, ⟨none, none, .store 6 (.t 4) (.t 160) false⟩]) .ret)) .skip)) (.seq (.ops 30 [⟨some 161, none, .buildSl false 1 9 (.int .i64 0) [(0, (.c (.int .i64 21))), (1, (.c (.int .i64 22))), (2, (.c (.int .i64 19))), (3, (.c (.int .i64 20))), (4, (.c (.int .i64 23))), (5, (.c (.int .i64 24))), (6, (.c (.int .i64 18))), (7, (.c (.int .i64 16))), (8, (.c (.int .i64 17)))] false⟩, ⟨some 12, none, .mv (.c (.str [40, 41, 91, 93, 123, 125, 44, 58, 59])) false⟩, mvT 13 161]) (.seq (.seq (.ops 31 [⟨some 14, none, .mv (.c (.int .i64 0)) false⟩]) (.block 2 (.loop [0, 4, 5, 6, 12, 13, 14] [0, 4, 5] (.seq (.seq (.ops 32 [mvF 162 14, mvF 163 12, ⟨some 164, none, .lenS (.t 163)⟩, ⟨some 165, none, .bin .lss .no (.t 162) (.t 164)⟩]) (.cond (.t 165) .skip (.exit 2))) (.seq (.block 3 (.seq (.ops 34 [mvF 168 12, mvF 169 14, ⟨some 170, none, .idx (.t 168) (.t 169)⟩, ⟨some 171, none, .conv (.toInt .i64) (.t 170)⟩, mvF 172 6, ⟨some 173, none, .bin .eql .no (.t 171) (.t 172)⟩]) (.cond (.t 173) (.seq (.ops 35 [mvT 174 13, mvF 175 14, ⟨some 176, none, .iaddr 1 (.t 174) (.t 175)⟩, ⟨some 177, none, .load false 1 (.t 176)⟩, mvF 178 5, mvF 179 5, ⟨some 180, none, .bin .add .no (.t 179) (.c (.int .i64 1))⟩, ⟨some 181, none, .build [(.int .i64 0), (.int .i64 0), (.int .i64 0), (.str []), (.str []), (.bool false)] [(0, 1, (.t 177)), (1, 1, (.t 178)), (2, 1, (.t 180))]⟩, ⟨none, none, .store 6 (.t 4) (.t 181) false⟩]) .ret) .skip))) (.ops 33 [mvF 166 14, ⟨some 167, none, .bin .add .no (.t 166) (.c (.int .i64 1))⟩, mvF 14 167])))))) (.seq (.ops 36 [mvF 182 5, mvF 183 5, ⟨some 184, none, .bin .add .no (.t 183) (.c (.int .i64 1))⟩, mvT 185 0, mvF 186 5, mvF 187 5, ⟨some 188, none, .bin .add .no (.t 187) (.c (.int .i64 1))⟩, ⟨some 189, none, .cut 1 (.t 185) (some (.t 186)) (some (.t 188)) none⟩, ⟨some 190, none, .call 85 [.t 189]⟩, ⟨some 191, none, .build [(.int .i64 0), (.int .i64 0), (.int .i64 0), (.str []), (.str []), (.bool false)] [(0, 1, (.c (.int .i64 9))), (1, 1, (.t 182)), (2, 1, (.t 184)), (3, 1, (.t 190))]⟩, ⟨none, none, .store 6 (.t 4) (.t 191) false⟩]) .ret)))))))))))))))))⟩
theorem ok_c_Z1t : chkFn Tryz.prog 50 c_Z1t = true := chkFn_of Tryz.func50 (by kernel_rfl)
def b_Z1t_0 (M : Mach) (n0 : Nat) (n1 : Nat) (r1 : Rk) (z0 z4 z5 z7 : V) (σ : Objs) : Ro :=
 bd (M.call 75 [z0.ng.ng, z7.ng.ng] σ) fun p12 =>
  br p12.1.ng (
 bd (pu (eB .add .no z7.ng.ng (.int .i64 1))) fun x13 =>
 bd (fz n1 p12.2 fzD z0) fun y14 =>
 bd (fz n1 p12.2 fzD z4) fun y15 =>
 bd (fz n1 p12.2 fzD z5) fun y16 =>
 bd (fz n1 p12.2 fzD x13.ng) fun y17 =>
 bd (cuO n1 p12.2) fun s18 => r1 [y14, y15, y16, y17] s18) (
 bd (fz n1 p12.2 fzD z4) fun y19 =>
 bd (fz n1 p12.2 fzD z5) fun y20 =>
 bd (fz n1 p12.2 fzD z7) fun y21 =>
 bd (cuO n1 p12.2) fun s22 =>
 bd (pu (buildV [(.int .i64 0), (.int .i64 0), (.int .i64 0), (.str []), (.str []), (.bool false)] [(0, 1, (.int .i64 13)), (1, 1, y20.ng.ng), (2, 1, y21.ng.ng)])) fun x23 =>
 bd (stV s22 6 y19.ng x23.ng x23.ng) fun p24 =>
 bd (resC p24.2 true 6 y19) fun x25 =>
 bd (oK false x25) (nK n0 p24.2))
def l_Z1t_0 (M : Mach) (n0 : Nat) (n1 : Nat) : Rk := M.fx fun rec vs σ => b_Z1t_0 M n0 n1 rec (vs.getD 0 .undef) (vs.getD 1 .undef) (vs.getD 2 .undef) (vs.getD 3 .undef) σ
def b_Z1t_1 (M : Mach) (n0 : Nat) (n1 : Nat) (r1 : Rk) (z0 z4 z5 z6 z12 z13 z14 : V) (σ : Objs) : Ro :=
 bd (pu (evLenS z12.ng.ng)) fun x115 =>
 bd (pu (eB .lss .no z14.ng.ng x115.ng)) fun x116 =>
  br x116.ng (
 bd (pu (evIdx z14.ng.ng z12.ng.ng)) fun x117 =>
 bd (pu (eC σ (.toInt .i64) x117.ng)) fun x118 =>
 bd (pu (eB .eql .no x118.ng z6.ng.ng)) fun x119 =>
  br x119.ng (
 bd (pu (eI 1 z14.ng.ng z13.ng)) fun x120 =>
 bd (pu (eL σ false 1 x120.ng)) fun x121 =>
 bd (pu (eB .add .no z5.ng.ng (.int .i64 1))) fun x122 =>
 bd (pu (buildV [(.int .i64 0), (.int .i64 0), (.int .i64 0), (.str []), (.str []), (.bool false)] [(0, 1, x121.ng), (1, 1, z5.ng.ng), (2, 1, x122.ng)])) fun x123 =>
 bd (stV σ 6 z4.ng x123.ng x123.ng) fun p124 =>
 bd (fz n1 p124.2 fzD z0) fun y125 =>
 bd (fz n1 p124.2 fzD z4) fun y126 =>
 bd (fz n1 p124.2 fzD z5) fun y127 =>
 bd (cuO n1 p124.2) fun s128 =>
 bd (resC s128 true 6 y126) fun x129 =>
 bd (oK false x129) (nK n0 s128)) (
 bd (pu (eB .add .no z14.ng.ng (.int .i64 1))) fun x130 =>
 bd (fz n1 σ fzD z0) fun y131 =>
 bd (fz n1 σ fzD z4) fun y132 =>
 bd (fz n1 σ fzD z5) fun y133 =>
 bd (fz n1 σ fzD z6) fun y134 =>
 bd (fz n1 σ fzD z12) fun y135 =>
 bd (fz n1 σ fzD z13) fun y136 =>
 bd (fz n1 σ fzD x130.ng) fun y137 =>
 bd (cuO n1 σ) fun s138 => r1 [y131, y132, y133, y134, y135, y136, y137] s138)) (
 bd (fz n1 σ fzD z0) fun y139 =>
 bd (fz n1 σ fzD z4) fun y140 =>
 bd (fz n1 σ fzD z5) fun y141 =>
 bd (cuO n1 σ) fun s142 =>
 bd (pu (eB .add .no y141.ng.ng (.int .i64 1))) fun x143 =>
 bd (pu (eB .add .no y141.ng.ng (.int .i64 1))) fun x144 =>
 bd (pu (evCut 1 y139.ng (some y141.ng.ng) (some x144.ng) none)) fun x145 =>
 bd (M.call 85 [x145.ng] s142) fun p146 =>
 bd (pu (buildV [(.int .i64 0), (.int .i64 0), (.int .i64 0), (.str []), (.str []), (.bool false)] [(0, 1, (.int .i64 9)), (1, 1, y141.ng.ng), (2, 1, x143.ng), (3, 1, p146.1.ng)])) fun x147 =>
 bd (stV p146.2 6 y140.ng x147.ng x147.ng) fun p148 =>
 bd (resC p148.2 true 6 y140) fun x149 =>
 bd (oK false x149) (nK n0 p148.2))
def l_Z1t_1 (M : Mach) (n0 : Nat) (n1 : Nat) : Rk := M.fx fun rec vs σ => b_Z1t_1 M n0 n1 rec (vs.getD 0 .undef) (vs.getD 1 .undef) (vs.getD 2 .undef) (vs.getD 3 .undef) (vs.getD 4 .undef) (vs.getD 5 .undef) (vs.getD 6 .undef) σ
def j_Z1t_1 (M : Mach) (n0 : Nat) (z0 z1 z4 : V) (σ : Objs) : Ro :=
 bd (M.call 73 [z0.ng.ng, z1.ng.ng] σ) fun p1 =>
 bd (pu (evLen z0.ng.ng)) fun x2 =>
 bd (pu (eB .geq .no p1.1.ng.ng.ng x2.ng)) fun x3 =>
  br x3.ng (
 bd (pu (evLen z0.ng.ng)) fun x4 =>
 bd (pu (evLen z0.ng)) fun x5 =>
 bd (pu (buildV [(.int .i64 0), (.int .i64 0), (.int .i64 0), (.str []), (.str []), (.bool false)] [(0, 1, (.int .i64 0)), (1, 1, x4.ng), (2, 1, x5.ng)])) fun x6 =>
 bd (stV p1.2 6 z4.ng x6.ng x6.ng) fun p7 =>
 bd (resC p7.2 true 6 z4) fun x8 =>
 bd (oK false x8) (nK n0 p7.2)) (
 bd (pu (eI 1 p1.1.ng.ng.ng z0.ng.ng)) fun x9 =>
 bd (pu (eL p1.2 false 1 x9.ng)) fun x10 =>
 bd (M.call 74 [x10.ng.ng.ng] p1.2) fun p11 =>
  br p11.1.ng (
 bd (fz p11.2.length p11.2 fzD z0) fun y26 =>
 bd (fz p11.2.length p11.2 fzD z4) fun y27 =>
 bd (fz p11.2.length p11.2 fzD p1.1.ng) fun y28 =>
 bd (fz p11.2.length p11.2 fzD p1.1.ng.ng.ng) fun y29 =>
  l_Z1t_0 M n0 p11.2.length [y26, y27, y28, y29] p11.2) (
 bd (pu (eB .eql .no x10.ng.ng.ng (.int .i64 34))) fun x30 =>
 bd (gdv x30.ng false (some x10.ng.ng)) fun x31 =>
 bd (gdv x30.ng false (pu (eB .eql .no x31.ng (.int .i64 39)))) fun x32 =>
 bd (pu (pV x30.ng.ng (.bool true) x32.ng)) fun x33 =>
  br x33.ng (
 bd (M.call 76 [z0.ng, p1.1.ng.ng.ng] p11.2) fun p34 =>
 bd (stV p34.2 6 z4.ng p34.1.ng p34.1.ng) fun p35 =>
 bd (resC p35.2 true 6 z4) fun x36 =>
 bd (oK false x36) (nK n0 p35.2)) (
 bd (M.call 77 [z0.ng.ng, p1.1.ng.ng.ng] p11.2) fun p37 =>
  br p37.1.ng (
 bd (M.call 78 [z0.ng, p1.1.ng.ng.ng] p37.2) fun p38 =>
 bd (stV p38.2 6 z4.ng p38.1.ng p38.1.ng) fun p39 =>
 bd (resC p39.2 true 6 z4) fun x40 =>
 bd (oK false x40) (nK n0 p39.2)) (
 bd (pu (eB .eql .no x10.ng.ng.ng (.int .i64 45))) fun x41 =>
 bd (gdv x41.ng true (some z0.ng)) fun x42 =>
 bd (gdv x41.ng true (some p1.1.ng.ng)) fun x43 =>
 bd (gdv x41.ng true (pu (eB .add .no x43.ng (.int .i64 1)))) fun x44 =>
 bd (gdp x41.ng true (M.call 79 [x42.ng, x44.ng, (.int .i64 45)] p37.2) p37.2) fun p45 =>
 bd (pu (pV x41.ng.ng p45.1.ng (.bool false))) fun x46 =>
 bd (gdv x46.ng true (some z0.ng)) fun x47 =>
 bd (gdv x46.ng true (some p1.1.ng.ng)) fun x48 =>
 bd (gdv x46.ng true (pu (eB .add .no x48.ng (.int .i64 2)))) fun x49 =>
 bd (gdp x46.ng true (M.call 79 [x47.ng, x49.ng, (.int .i64 62)] p45.2) p45.2) fun p50 =>
 bd (pu (pV x46.ng.ng p50.1.ng (.bool false))) fun x51 =>
  br x51.ng (
 bd (pu (eB .add .no p1.1.ng.ng.ng (.int .i64 3))) fun x52 =>
 bd (pu (buildV [(.int .i64 0), (.int .i64 0), (.int .i64 0), (.str []), (.str []), (.bool false)] [(0, 1, (.int .i64 15)), (1, 1, p1.1.ng.ng.ng), (2, 1, x52.ng)])) fun x53 =>
 bd (stV p50.2 6 z4.ng x53.ng x53.ng) fun p54 =>
 bd (resC p54.2 true 6 z4) fun x55 =>
 bd (oK false x55) (nK n0 p54.2)) (
 bd (M.call 80 [z0.ng.ng, p1.1.ng.ng.ng] p50.2) fun p56 =>
  br p56.1.ng (
 bd (M.call 81 [z0.ng, p1.1.ng.ng.ng] p56.2) fun p57 =>
 bd (stV p57.2 6 z4.ng p57.1.ng p57.1.ng) fun p58 =>
 bd (resC p58.2 true 6 z4) fun x59 =>
 bd (oK false x59) (nK n0 p58.2)) (
 bd (pu (eB .eql .no x10.ng.ng.ng (.int .i64 60))) fun x60 =>
 bd (gdv x60.ng true (some z0.ng)) fun x61 =>
 bd (gdv x60.ng true (some p1.1.ng.ng)) fun x62 =>
 bd (gdv x60.ng true (pu (eB .add .no x62.ng (.int .i64 1)))) fun x63 =>
 bd (gdp x60.ng true (M.call 79 [x61.ng, x63.ng, (.int .i64 33)] p56.2) p56.2) fun p64 =>
 bd (pu (pV x60.ng.ng p64.1.ng (.bool false))) fun x65 =>
 bd (gdv x65.ng true (some z0.ng)) fun x66 =>
 bd (gdv x65.ng true (some p1.1.ng.ng)) fun x67 =>
 bd (gdv x65.ng true (pu (eB .add .no x67.ng (.int .i64 2)))) fun x68 =>
 bd (gdp x65.ng true (M.call 79 [x66.ng, x68.ng, (.int .i64 45)] p64.2) p64.2) fun p69 =>
 bd (pu (pV x65.ng.ng p69.1.ng (.bool false))) fun x70 =>
 bd (gdv x70.ng true (some z0.ng)) fun x71 =>
 bd (gdv x70.ng true (some p1.1.ng.ng)) fun x72 =>
 bd (gdv x70.ng true (pu (eB .add .no x72.ng (.int .i64 3)))) fun x73 =>
 bd (gdp x70.ng true (M.call 79 [x71.ng, x73.ng, (.int .i64 45)] p69.2) p69.2) fun p74 =>
 bd (pu (pV x70.ng.ng p74.1.ng (.bool false))) fun x75 =>
  br x75.ng (
 bd (pu (eB .add .no p1.1.ng.ng.ng (.int .i64 4))) fun x76 =>
 bd (pu (buildV [(.int .i64 0), (.int .i64 0), (.int .i64 0), (.str []), (.str []), (.bool false)] [(0, 1, (.int .i64 14)), (1, 1, p1.1.ng.ng.ng), (2, 1, x76.ng)])) fun x77 =>
 bd (stV p74.2 6 z4.ng x77.ng x77.ng) fun p78 =>
 bd (resC p78.2 true 6 z4) fun x79 =>
 bd (oK false x79) (nK n0 p78.2)) (
 bd (pu (eB .eql .no x10.ng.ng.ng (.int .i64 64))) fun x80 =>
 bd (gdv x80.ng true (some z0.ng)) fun x81 =>
 bd (gdv x80.ng true (some p1.1.ng.ng)) fun x82 =>
 bd (gdv x80.ng true (pu (eB .add .no x82.ng (.int .i64 1)))) fun x83 =>
 bd (gdp x80.ng true (M.call 80 [x81.ng, x83.ng] p74.2) p74.2) fun p84 =>
 bd (pu (pV x80.ng.ng p84.1.ng (.bool false))) fun x85 =>
  br x85.ng (
 bd (pu (eB .add .no p1.1.ng.ng.ng (.int .i64 1))) fun x86 =>
 bd (M.call 82 [z0.ng, x86.ng] p84.2) fun p87 =>
 bd (pu (eX 0 p87.1.ng.ng)) fun x88 =>
 bd (pu (eX 1 p87.1.ng.ng)) fun x89 =>
 bd (pu (buildV [(.int .i64 0), (.int .i64 0), (.int .i64 0), (.str []), (.str []), (.bool false)] [(0, 1, (.int .i64 3)), (1, 1, p1.1.ng.ng.ng), (2, 1, x89.ng.ng.ng), (3, 1, x88.ng.ng.ng)])) fun x90 =>
 bd (stV p87.2 6 z4.ng x90.ng x90.ng) fun p91 =>
 bd (resC p91.2 true 6 z4) fun x92 =>
 bd (oK false x92) (nK n0 p91.2)) (
 bd (pu (eB .eql .no x10.ng.ng.ng (.int .i64 35))) fun x93 =>
 bd (gdv x93.ng true (some z0.ng)) fun x94 =>
 bd (gdv x93.ng true (some p1.1.ng.ng)) fun x95 =>
 bd (gdv x93.ng true (pu (eB .add .no x95.ng (.int .i64 1)))) fun x96 =>
 bd (gdp x93.ng true (M.call 83 [x94.ng, x96.ng] p84.2) p84.2) fun p97 =>
 bd (gdv x93.ng true (some p97.1.ng)) fun x98 =>
 bd (gdv x98 false (some z0.ng)) fun x99 =>
 bd (gdv x98 false (some p1.1.ng.ng)) fun x100 =>
 bd (gdv x98 false (pu (eB .add .no x100.ng (.int .i64 1)))) fun x101 =>
 bd (gdp x98 false (M.call 84 [x99.ng, x101.ng] p97.2) p97.2) fun p102 =>
 bd (gdv x93.ng true (pu (pV x98.ng (.bool true) p102.1.ng))) fun x103 =>
 bd (pu (pV x93.ng.ng x103.ng (.bool false))) fun x104 =>
  br x104.ng (
 bd (pu (eB .add .no p1.1.ng.ng.ng (.int .i64 1))) fun x105 =>
 bd (M.call 82 [z0.ng.ng, x105.ng] p102.2) fun p106 =>
 bd (pu (eX 0 p106.1.ng.ng)) fun x107 =>
 bd (pu (eX 1 p106.1.ng.ng)) fun x108 =>
 bd (pu (eB .add .no p1.1.ng.ng.ng (.int .i64 1))) fun x109 =>
 bd (M.call 80 [z0.ng, x109.ng] p106.2) fun p110 =>
 bd (pu (buildV [(.int .i64 0), (.int .i64 0), (.int .i64 0), (.str []), (.str []), (.bool false)] [(0, 1, (.int .i64 4)), (1, 1, p1.1.ng.ng.ng), (2, 1, x108.ng.ng.ng), (3, 1, x107.ng.ng.ng), (5, 1, p110.1.ng)])) fun x111 =>
 bd (stV p110.2 6 z4.ng x111.ng x111.ng) fun p112 =>
 bd (resC p112.2 true 6 z4) fun x113 =>
 bd (oK false x113) (nK n0 p112.2)) (
 bd (buildFV false 1 9 (.int .i64 0) [(0, (.int .i64 21)), (1, (.int .i64 22)), (2, (.int .i64 19)), (3, (.int .i64 20)), (4, (.int .i64 23)), (5, (.int .i64 24)), (6, (.int .i64 18)), (7, (.int .i64 16)), (8, (.int .i64 17))]) fun x114 =>
 bd (fz p102.2.length p102.2 fzD z0) fun y150 =>
 bd (fz p102.2.length p102.2 fzD z4) fun y151 =>
 bd (fz p102.2.length p102.2 fzD p1.1.ng) fun y152 =>
 bd (fz p102.2.length p102.2 fzD x10.ng) fun y153 =>
 bd (fz p102.2.length p102.2 fzD (.str [40, 41, 91, 93, 123, 125, 44, 58, 59])) fun y154 =>
 bd (fz p102.2.length p102.2 fzD x114) fun y155 =>
 bd (fz p102.2.length p102.2 fzD (.int .i64 0)) fun y156 =>
  l_Z1t_1 M n0 p102.2.length [y150, y151, y152, y153, y154, y155, y156] p102.2)))))))))
def j_Z1t_0 (M : Mach) (n0 : Nat) (z0 z1 z4 : V) (σ : Objs) : Ro :=
 bd (pu (evLen z0.ng.ng)) fun x157 =>
 bd (pu (eB .gtr .no z1.ng.ng x157.ng)) fun x158 =>
  br x158.ng (
 bd (pu (evLen z0.ng.ng)) fun x159 =>
  j_Z1t_1 M n0 z0 x159.ng z4 σ) (
  j_Z1t_1 M n0 z0 z1 z4 σ)
def s_Z1t (M : Mach) (a0 a1 : V) (σ : Objs) : Ro :=
  let s0 : Objs := σ ++ [.cells [(.int .i64 0), (.int .i64 0), (.int .i64 0), (.str []), (.str []), (.bool false)]]
 bd (pu (eB .lss .no a1.ng.ng (.int .i64 0))) fun x160 =>
  br x160.ng (
  j_Z1t_0 M σ.length a0 (.int .i64 0) (.ptr σ.length 0) s0) (
  j_Z1t_0 M σ.length a0 a1 (.ptr σ.length 0) s0)
theorem k_Z1t (M : Mach) (a0 a1 : V) (σ : Objs) : fnK M c_Z1t [a0, a1] σ = s_Z1t M a0 a1 σ := by kernel_rfl
def c_Z3 : Ev.Fn := ⟨20, [.cell 4 true 6], false, false, (.seq (.ops 0 [⟨some 4, none, .alloc [(.int .i64 0), (.int .i64 0), (.int .i64 0), (.str []), (.str []), (.bool false)]⟩]) (.seq (.seq (.ops 1 [mvF 5 1, mvF 6 0, ⟨some 7, none, .nilc (.t 6)⟩, ⟨some 8, none, .faddr 0 (.t 7)⟩, ⟨some 9, none, .load false 1 (.t 8)⟩, ⟨some 10, none, .len (.t 9)⟩, ⟨some 11, none, .bin .geq .no (.t 5) (.t 10)⟩]) (.cond (.t 11) (.seq (.ops 2 [⟨some 12, none, .build [(.int .i64 0), (.int .i64 0), (.int .i64 0), (.str []), (.str []), (.bool false)] []⟩, ⟨none, none, .store 6 (.t 4) (.t 12) false⟩]) .ret) .skip)) (.seq (.ops 3 [mvF 13 0, ⟨some 14, none, .nilc (.t 13)⟩, ⟨some 15, none, .faddr 0 (.t 14)⟩, ⟨some 16, none, .load false 1 (.t 15)⟩, mvF 17 1, ⟨some 18, none, .iaddr 6 (.t 16) (.t 17)⟩, ⟨some 19, none, .load true 6 (.t 18)⟩, ⟨none, none, .store 6 (.t 4) (.t 19) false⟩]) .ret)))⟩
theorem ok_c_Z3 : chkFn Tryz.prog 41 c_Z3 = true := chkFn_of Tryz.func41 (by kernel_rfl)
def s_Z3 (M : Mach) (a0 a1 : V) (σ : Objs) : Ro :=
  let s0 : Objs := σ ++ [.cells [(.int .i64 0), (.int .i64 0), (.int .i64 0), (.str []), (.str []), (.bool false)]]
 bd (pu (evNilc a0.ng.ng)) fun x1 =>
 bd (pu (eF 0 x1.ng)) fun x2 =>
 bd (pu (eL s0 false 1 x2.ng)) fun x3 =>
 bd (pu (evLen x3.ng)) fun x4 =>
 bd (pu (eB .geq .no a1.ng.ng x4.ng)) fun x5 =>
  br x5.ng (
 bd (pu (buildV [(.int .i64 0), (.int .i64 0), (.int .i64 0), (.str []), (.str []), (.bool false)] [])) fun x6 =>
 bd (stV s0 6 (.ptr σ.length 0) x6.ng x6.ng) fun p7 =>
 bd (resC p7.2 true 6 (.ptr σ.length 0)) fun x8 =>
 bd (oK false x8) (nK σ.length p7.2)) (
 bd (pu (evNilc a0.ng.ng)) fun x9 =>
 bd (pu (eF 0 x9.ng)) fun x10 =>
 bd (pu (eL s0 false 1 x10.ng)) fun x11 =>
 bd (pu (eI 6 a1.ng.ng x11.ng)) fun x12 =>
 bd (pu (eL s0 true 6 x12.ng)) fun x13 =>
 bd (stV s0 6 (.ptr σ.length 0) x13.ng x13.ng) fun p14 =>
 bd (resC p14.2 true 6 (.ptr σ.length 0)) fun x15 =>
 bd (oK false x15) (nK σ.length p14.2))
theorem k_Z3 (M : Mach) (a0 a1 : V) (σ : Objs) : fnK M c_Z3 [a0, a1] σ = s_Z3 M a0 a1 σ := by kernel_rfl
def c_Zj : Ev.Fn := ⟨10, [.tmp 4], false, false, (.seq (.ops 0 [⟨some 4, none, .mv (.c (.bool false)) false⟩]) (.seq (.ops 1 [mvF 5 0, ⟨some 6, none, .call 44 [.t 5]⟩, mvF 7 1, ⟨some 8, none, .call 44 [.t 7]⟩, ⟨some 9, none, .bin .eql .no (.t 6) (.t 8)⟩, mvF 4 9]) .ret))⟩
theorem ok_c_Zj : chkFn Tryz.prog 42 c_Zj = true := chkFn_of Tryz.func42 (by kernel_rfl)
def s_Zj (M : Mach) (a0 a1 : V) (σ : Objs) : Ro :=
 bd (M.call 44 [a0.ng.ng] σ) fun p0 =>
 bd (M.call 44 [a1.ng.ng] p0.2) fun p1 =>
 bd (pu (eB .eql .no p0.1.ng p1.1.ng)) fun x2 =>
 bd (oK false x2.ng) (nK σ.length p1.2)
theorem k_Zj (M : Mach) (a0 a1 : V) (σ : Objs) : fnK M c_Zj [a0, a1] σ = s_Zj M a0 a1 σ := by kernel_rfl
def c_Z7 : Ev.Fn := ⟨26, [.tmp 4], false, false, (.seq (.ops 0 [⟨some 4, none, .mv (.c (.int .i64 0)) false⟩]) (.seq (.ops 1 [mvF 8 1, ⟨some 9, none, .call 15 [.t 8]⟩, mvF 7 9, ⟨some 10, none, .extr (.t 7) 0⟩, ⟨some 11, none, .extr (.t 7) 1⟩, mvF 5 10, mvF 6 11]) (.seq (.seq (.ops 2 [mvF 12 6, ⟨some 13, none, .bin .neq .ifc (.t 12) (.c .nili)⟩, mvF 14 13, ⟨some 15, (some (14, true)), .mv (.t 0) false⟩, ⟨some 16, (some (14, true)), .nilc (.t 15)⟩, ⟨some 17, (some (14, true)), .faddr 2 (.t 16)⟩, ⟨some 18, (some (14, true)), .load false 1 (.t 17)⟩, ⟨some 19, (some (14, true)), .bin .eql .ifc (.t 18) (.c .nili)⟩, ⟨some 20, none, .pick (.t 14) (.t 19) (.c (.bool false))⟩]) (.cond (.t 20) (.ops 3 [mvF 21 0, mvF 22 6, ⟨some 23, none, .nilc (.t 21)⟩, ⟨some 24, none, .faddr 2 (.t 23)⟩, ⟨none, none, .store 1 (.t 24) (.t 22) false⟩]) .skip)) (.seq (.ops 4 [mvF 25 5, mvF 4 25]) .ret))))⟩
theorem ok_c_Z7 : chkFn Tryz.prog 43 c_Z7 = true := chkFn_of Tryz.func43 (by kernel_rfl)
def j_Z7_0 (M : Mach) (n0 : Nat) (z5 : V) (σ : Objs) : Ro :=
 bd (oK false z5.ng.ng) (nK n0 σ)
def s_Z7 (M : Mach) (a0 a1 : V) (σ : Objs) : Ro :=
 bd (M.call 15 [a1.ng.ng] σ) fun p0 =>
 bd (pu (eX 0 p0.1.ng.ng)) fun x1 =>
 bd (pu (eX 1 p0.1.ng.ng)) fun x2 =>
 bd (pu (eB .neq .ifc x2.ng.ng.ng .nili)) fun x3 =>
 bd (gdv x3.ng true (some a0.ng)) fun x4 =>
 bd (gdv x3.ng true (pu (evNilc x4.ng))) fun x5 =>
 bd (gdv x3.ng true (pu (eF 2 x5.ng))) fun x6 =>
 bd (gdv x3.ng true (pu (eL p0.2 false 1 x6.ng))) fun x7 =>
 bd (gdv x3.ng true (pu (eB .eql .ifc x7.ng .nili))) fun x8 =>
 bd (pu (pV x3.ng.ng x8.ng (.bool false))) fun x9 =>
  br x9.ng (
 bd (pu (evNilc a0.ng.ng)) fun x10 =>
 bd (pu (eF 2 x10.ng)) fun x11 =>
 bd (stV p0.2 1 x11.ng x2.ng.ng.ng x2.ng.ng.ng) fun p12 =>
  j_Z7_0 M σ.length x1.ng p12.2) (
  j_Z7_0 M σ.length x1.ng p0.2)
theorem k_Z7 (M : Mach) (a0 a1 : V) (σ : Objs) : fnK M c_Z7 [a0, a1] σ = s_Z7 M a0 a1 σ := by kernel_rfl
def c_Zi : Ev.Fn := ⟨25, [.tmp 2], false, false, (.seq (.ops 0 [⟨some 2, none, .mv (.c (.str [])) false⟩]) (.seq (.ops 1 [mvF 6 0, ⟨some 7, none, .bytesH (.t 6)⟩, mvT 3 7]) (.seq (.seq (.ops 2 [mvF 8 3, ⟨some 9, none, .len (.t 8)⟩, ⟨some 10, none, .mv (.c (.int .i64 0)) false⟩]) (.block 0 (.loop [3, 8, 9, 10] [2, 3] (.seq (.ops 3 [⟨some 11, none, .bin .lss .no (.t 10) (.t 9)⟩]) (.seq (.cond (.t 11) .skip (.exit 0)) (.seq (.block 1 (.seq (.ops 4 [mvF 12 10, ⟨some 13, none, .iaddr 1 (.t 8) (.t 10)⟩, ⟨some 14, none, .load false 1 (.t 13)⟩, mvF 4 12, mvF 5 14]) (.ops 5 [mvF 15 3, mvF 16 4, mvF 17 5, ⟨some 18, none, .conv (.toInt .i64) (.t 17)⟩, ⟨some 19, none, .call 70 [.t 18]⟩, ⟨some 20, none, .conv (.toInt .u8) (.t 19)⟩, ⟨some 21, none, .iaddr 1 (.t 15) (.t 16)⟩, ⟨none, none, .store 1 (.t 21) (.t 20) false⟩]))) (.ops 6 [⟨some 22, none, .bin .add .no (.t 10) (.c (.int .i64 1))⟩, mvF 10 22]))))))) (.seq (.ops 7 [mvT 23 3, ⟨some 24, none, .conv .bytesStr (.t 23)⟩, mvF 2 24]) .ret))))⟩
theorem ok_c_Zi : chkFn Tryz.prog 44 c_Zi = true := chkFn_of Tryz.func44 (by kernel_rfl)
def b_Zi_0 (M : Mach) (n0 : Nat) (n1 : Nat) (r1 : Rk) (z3 z8 z9 z10 : V) (σ : Objs) : Ro :=
 bd (pu (eB .lss .no z10.ng z9.ng)) fun x2 =>
  br x2.ng (
 bd (pu (eI 1 z10.ng z8.ng)) fun x3 =>
 bd (pu (eL σ false 1 x3.ng)) fun x4 =>
 bd (pu (eC σ (.toInt .i64) x4.ng.ng.ng)) fun x5 =>
 bd (M.call 70 [x5.ng] σ) fun p6 =>
 bd (pu (eC p6.2 (.toInt .u8) p6.1.ng)) fun x7 =>
 bd (pu (eI 1 z10.ng.ng.ng.ng z3.ng.ng)) fun x8 =>
 bd (stV p6.2 1 x8.ng x7.ng x7.ng) fun p9 =>
 bd (pu (eB .add .no z10.ng (.int .i64 1))) fun x10 =>
 bd (fz n1 p9.2 fzD z3) fun y11 =>
 bd (fz n1 p9.2 fzD z8) fun y12 =>
 bd (fz n1 p9.2 fzD z9) fun y13 =>
 bd (fz n1 p9.2 fzD x10.ng) fun y14 =>
 bd (cuO n1 p9.2) fun s15 => r1 [y11, y12, y13, y14] s15) (
 bd (fz n1 σ fzD .any) fun y16 =>
 bd (fz n1 σ fzD z3) fun y17 =>
 bd (cuO n1 σ) fun s18 =>
 bd (pu (eC s18 .bytesStr y17.ng)) fun x19 =>
 bd (oK false x19.ng) (nK n0 s18))
def l_Zi_0 (M : Mach) (n0 : Nat) (n1 : Nat) : Rk := M.fx fun rec vs σ => b_Zi_0 M n0 n1 rec (vs.getD 0 .undef) (vs.getD 1 .undef) (vs.getD 2 .undef) (vs.getD 3 .undef) σ
def s_Zi (M : Mach) (a0 : V) (σ : Objs) : Ro :=
 bd (bytesHV σ a0.ng.ng) fun p0 =>
 bd (pu (evLen p0.1.ng.ng)) fun x1 =>
 bd (fz p0.2.length p0.2 fzD p0.1) fun y20 =>
 bd (fz p0.2.length p0.2 fzD p0.1.ng) fun y21 =>
 bd (fz p0.2.length p0.2 fzD x1) fun y22 =>
 bd (fz p0.2.length p0.2 fzD (.int .i64 0)) fun y23 =>
  l_Zi_0 M σ.length p0.2.length [y20, y21, y22, y23] p0.2
theorem k_Zi (M : Mach) (a0 : V) (σ : Objs) : fnK M c_Zi [a0] σ = s_Zi M a0 σ := by kernel_rfl
def c_Zx : Ev.Fn := ⟨11, [.tmp 4, .tmp 5], false, false, (.seq (.ops 0 [⟨some 4, none, .mv (.c (.str [])) false⟩, ⟨some 5, none, .mv (.c (.bool false)) false⟩]) (.seq (.ops 1 [mvF 6 0, mvF 7 1, ⟨some 8, none, .call 71 [(.t 6), (.t 7)]⟩, ⟨some 9, none, .extr (.t 8) 0⟩, ⟨some 10, none, .extr (.t 8) 1⟩, mvF 4 9, mvF 5 10]) .ret))⟩
theorem ok_c_Zx : chkFn Tryz.prog 45 c_Zx = true := chkFn_of Tryz.func45 (by kernel_rfl)
def s_Zx (M : Mach) (a0 a1 : V) (σ : Objs) : Ro :=
 bd (M.call 71 [a0.ng.ng, a1.ng.ng] σ) fun p0 =>
 bd (pu (eX 0 p0.1.ng)) fun x1 =>
 bd (pu (eX 1 p0.1.ng)) fun x2 =>
  nK σ.length p0.2 (.tup [x1.ng.ng, x2.ng.ng])
theorem k_Zx (M : Mach) (a0 a1 : V) (σ : Objs) : fnK M c_Zx [a0, a1] σ = s_Zx M a0 a1 σ := by kernel_rfl
def c_Zy : Ev.Fn := ⟨8, [.tmp 4], false, false, (.seq (.ops 0 [⟨some 4, none, .mv (.c (.bool false)) false⟩]) (.seq (.ops 1 [mvF 5 0, mvF 6 1, ⟨some 7, none, .call 72 [(.t 5), (.t 6)]⟩, mvF 4 7]) .ret))⟩
theorem ok_c_Zy : chkFn Tryz.prog 46 c_Zy = true := chkFn_of Tryz.func46 (by kernel_rfl)
def s_Zy (M : Mach) (a0 a1 : V) (σ : Objs) : Ro :=
 bd (M.call 72 [a0.ng.ng, a1.ng.ng] σ) fun p0 =>
 bd (oK false p0.1.ng) (nK σ.length p0.2)
theorem k_Zy (M : Mach) (a0 a1 : V) (σ : Objs) : fnK M c_Zy [a0, a1] σ = s_Zy M a0 a1 σ := by kernel_rfl
def c_Z6 : Ev.Fn := ⟨63, [.tmp 2], false, false, (.seq (.ops 0 [⟨some 2, none, .mv (.c (.int .i64 0)) false⟩]) (.seq (.ops 1 [mvF 5 0, mvF 6 0, ⟨some 7, none, .nilc (.t 6)⟩, ⟨some 8, none, .faddr 1 (.t 7)⟩, ⟨some 9, none, .load false 1 (.t 8)⟩, ⟨some 10, none, .call 25 [(.t 5), (.t 9)]⟩, mvF 3 10]) (.seq (.seq (.ops 2 [mvF 11 0, mvF 12 3, ⟨some 13, none, .call 48 [(.t 11), (.t 12), (.c (.bool true))]⟩]) (.cond (.t 13) (.seq (.ops 3 [mvF 14 0, mvF 15 3, ⟨some 16, none, .bin .add .no (.t 15) (.c (.int .i64 1))⟩, ⟨some 17, none, .nilc (.t 14)⟩, ⟨some 18, none, .faddr 1 (.t 17)⟩, ⟨none, none, .store 1 (.t 18) (.t 16) false⟩]) (.seq (.ops 4 [mvF 19 0, mvF 20 0, mvF 21 3, ⟨some 22, none, .call 41 [(.t 20), (.t 21)]⟩, ⟨some 23, none, .field false 4 1 (.t 22)⟩, ⟨some 24, none, .call 43 [(.t 19), (.t 23)]⟩, mvF 2 24]) .ret)) .skip)) (.seq (.ops 5 [mvF 25 0, mvF 26 3, ⟨some 27, none, .call 41 [(.t 25), (.t 26)]⟩, ⟨some 4, none, .alloc [(.int .i64 0), (.int .i64 0), (.int .i64 0), (.str []), (.str []), (.bool false)]⟩, ⟨none, none, .store 6 (.t 4) (.t 27) false⟩]) (.seq (.seq (.ops 6 [⟨some 28, none, .faddr 0 (.t 4)⟩, ⟨some 29, none, .load false 1 (.t 28)⟩, ⟨some 30, none, .bin .neq .no (.t 29) (.c (.int .i64 9))⟩, mvF 31 30, ⟨some 32, (some (31, false)), .faddr 3 (.t 4)⟩, ⟨some 33, (some (31, false)), .load false 1 (.t 32)⟩, ⟨some 34, (some (31, false)), .bin .neq .no (.t 33) (.c (.str [43]))⟩, ⟨some 35, (some (31, false)), .mv (.t 34) false⟩, ⟨some 36, (some (35, true)), .faddr 3 (.t 4)⟩, ⟨some 37, (some (35, true)), .load false 1 (.t 36)⟩, ⟨some 38, (some (35, true)), .bin .neq .no (.t 37) (.c (.str [45]))⟩, ⟨some 39, (some (31, false)), .pick (.t 35) (.t 38) (.c (.bool false))⟩, ⟨some 40, none, .pick (.t 31) (.c (.bool true)) (.t 39)⟩]) (.cond (.t 40) (.seq (.ops 7 [⟨some 2, none, .mv (.c (.int .i64 0)) false⟩]) .ret) .skip)) (.seq (.seq (.ops 8 [mvF 41 0, mvF 42 3, ⟨some 43, none, .bin .add .no (.t 42) (.c (.int .i64 1))⟩, ⟨some 44, none, .call 25 [(.t 41), (.t 43)]⟩, mvF 3 44]) (.seq (.ops 9 [mvF 45 0, mvF 46 3, ⟨some 47, none, .call 48 [(.t 45), (.t 46), (.c (.bool false))]⟩, ⟨some 48, none, .un .not (.t 47)⟩]) (.cond (.t 48) (.seq (.ops 10 [⟨some 2, none, .mv (.c (.int .i64 0)) false⟩]) .ret) .skip))) (.seq (.ops 11 [mvF 49 0, mvF 50 3, ⟨some 51, none, .bin .add .no (.t 50) (.c (.int .i64 1))⟩, ⟨some 52, none, .nilc (.t 49)⟩, ⟨some 53, none, .faddr 1 (.t 52)⟩, ⟨none, none, .store 1 (.t 53) (.t 51) false⟩]) (.seq (.drw 12 [⟨mvF 54 0, 0, []⟩, ⟨⟨some 55, none, .faddr 3 (.t 4)⟩, 1, []⟩, ⟨⟨some 56, none, .load false 1 (.t 55)⟩, 2, []⟩, ⟨mvF 57 0, 3, []⟩, ⟨mvF 58 3, 4, []⟩, ⟨⟨some 59, none, .call 41 [(.t 57), (.t 58)]⟩, 5, [2]⟩, ⟨⟨some 60, none, .field false 4 1 (.t 59)⟩, 6, []⟩, ⟨⟨some 61, none, .bin .add .no (.t 56) (.t 60)⟩, 7, []⟩, ⟨⟨some 62, none, .call 43 [(.t 54), (.t 61)]⟩, 8, []⟩, ⟨mvF 2 62, 9, []⟩]) .ret))))))))⟩
theorem ok_c_Z6 : chkFn Tryz.prog 47 c_Z6 = true := chkFn_of Tryz.func47 (by kernel_rfl)
def s_Z6 (M : Mach) (a0 : V) (σ : Objs) : Ro :=
 bd (pu (evNilc a0.ng.ng)) fun x0 =>
 bd (pu (eF 1 x0.ng)) fun x1 =>
 bd (pu (eL σ false 1 x1.ng)) fun x2 =>
 bd (M.call 25 [a0.ng.ng, x2.ng] σ) fun p3 =>
 bd (M.call 48 [a0.ng.ng, p3.1.ng.ng.ng, (.bool true)] p3.2) fun p4 =>
  br p4.1.ng (
 bd (pu (eB .add .no p3.1.ng.ng.ng (.int .i64 1))) fun x5 =>
 bd (pu (evNilc a0.ng.ng)) fun x6 =>
 bd (pu (eF 1 x6.ng)) fun x7 =>
 bd (stV p4.2 1 x7.ng x5.ng x5.ng) fun p8 =>
 bd (M.call 41 [a0.ng.ng, p3.1.ng.ng.ng] p8.2) fun p9 =>
 bd (pu (evField false 4 1 p9.1.ng)) fun x10 =>
 bd (M.call 43 [a0.ng.ng, x10.ng] p9.2) fun p11 =>
 bd (oK false p11.1.ng) (nK σ.length p11.2)) (
 bd (M.call 41 [a0.ng.ng, p3.1.ng.ng.ng] p4.2) fun p12 =>
  let s13 : Objs := p12.2 ++ [.cells [(.int .i64 0), (.int .i64 0), (.int .i64 0), (.str []), (.str []), (.bool false)]]
 bd (stV s13 6 (.ptr p12.2.length 0) p12.1.ng p12.1.ng) fun p14 =>
 bd (pu (eF 0 (.ptr p12.2.length 0))) fun x15 =>
 bd (pu (eL p14.2 false 1 x15.ng)) fun x16 =>
 bd (pu (eB .neq .no x16.ng (.int .i64 9))) fun x17 =>
 bd (gdv x17.ng false (pu (eF 3 (.ptr p12.2.length 0)))) fun x18 =>
 bd (gdv x17.ng false (pu (eL p14.2 false 1 x18.ng))) fun x19 =>
 bd (gdv x17.ng false (pu (eB .neq .no x19.ng (.str [43])))) fun x20 =>
 bd (gdv x17.ng false (some x20.ng)) fun x21 =>
 bd (gdv x21 true (pu (eF 3 (.ptr p12.2.length 0)))) fun x22 =>
 bd (gdv x21 true (pu (eL p14.2 false 1 x22.ng))) fun x23 =>
 bd (gdv x21 true (pu (eB .neq .no x23.ng (.str [45])))) fun x24 =>
 bd (gdv x17.ng false (pu (pV x21.ng x24.ng (.bool false)))) fun x25 =>
 bd (pu (pV x17.ng.ng (.bool true) x25.ng)) fun x26 =>
  br x26.ng (
 bd (oK false (.int .i64 0)) (nK σ.length p14.2)) (
 bd (pu (eB .add .no p3.1.ng.ng.ng (.int .i64 1))) fun x27 =>
 bd (M.call 25 [a0.ng.ng, x27.ng] p14.2) fun p28 =>
 bd (M.call 48 [a0.ng.ng, p28.1.ng.ng.ng, (.bool false)] p28.2) fun p29 =>
 bd (pu (evUn .not p29.1.ng)) fun x30 =>
  br x30.ng (
 bd (oK false (.int .i64 0)) (nK σ.length p29.2)) (
 bd (pu (eB .add .no p28.1.ng.ng.ng (.int .i64 1))) fun x31 =>
 bd (pu (evNilc a0.ng.ng)) fun x32 =>
 bd (pu (eF 1 x32.ng)) fun x33 =>
 bd (stV p29.2 1 x33.ng x31.ng x31.ng) fun p34 =>
 bd (pu (eF 3 (.ptr p12.2.length 0))) fun x35 =>
 bd (pu (eL p34.2 false 1 x35.ng)) fun x36 =>
 bd (lockS [rdLoad false 1 x35.ng] p34.2) fun s37 =>
 bd (M.call 41 [a0.ng.ng, p28.1.ng.ng.ng] s37) fun p39 =>
 bd (openS [rdLoad false 1 x35.ng] p34.2 p39.2) fun s38 =>
 bd (pu (evField false 4 1 p39.1.ng)) fun x40 =>
 bd (pu (eB .add .no x36.ng x40.ng)) fun x41 =>
 bd (M.call 43 [a0.ng.ng, x41.ng] s38) fun p42 =>
 bd (oK false p42.1.ng) (nK σ.length p42.2))))
theorem k_Z6 (M : Mach) (a0 : V) (σ : Objs) : fnK M c_Z6 [a0] σ = s_Z6 M a0 σ := by kernel_rfl
def c_Z4 : Ev.Fn := ⟨36, [.tmp 6], false, false, (.seq (.ops 0 [⟨some 6, none, .mv (.c (.bool false)) false⟩]) (.seq (.ops 1 [mvF 8 0, mvF 9 1, ⟨some 10, none, .call 41 [(.t 8), (.t 9)]⟩, ⟨some 7, none, .alloc [(.int .i64 0), (.int .i64 0), (.int .i64 0), (.str []), (.str []), (.bool false)]⟩, ⟨none, none, .store 6 (.t 7) (.t 10) false⟩]) (.seq (.seq (.ops 2 [⟨some 11, none, .faddr 0 (.t 7)⟩, ⟨some 12, none, .load false 1 (.t 11)⟩, ⟨some 13, none, .bin .neq .no (.t 12) (.c (.int .i64 10))⟩, mvF 14 13, ⟨some 15, (some (14, false)), .faddr 5 (.t 7)⟩, ⟨some 16, (some (14, false)), .load false 1 (.t 15)⟩, ⟨some 17, (some (14, false)), .un .not (.t 16)⟩, ⟨some 18, none, .pick (.t 14) (.c (.bool true)) (.t 17)⟩, mvF 19 18, ⟨some 20, (some (19, false)), .faddr 4 (.t 7)⟩, ⟨some 21, (some (19, false)), .load false 1 (.t 20)⟩, ⟨some 22, (some (19, false)), .bin .eql .no (.t 21) (.c (.str []))⟩, ⟨some 23, none, .pick (.t 19) (.c (.bool true)) (.t 22)⟩]) (.cond (.t 23) (.seq (.ops 3 [⟨some 6, none, .mv (.c (.bool false)) false⟩]) .ret) .skip)) (.seq (.ops 4 [mvF 24 2, ⟨some 25, none, .faddr 4 (.t 7)⟩, ⟨some 26, none, .load false 1 (.t 25)⟩, ⟨some 27, none, .idx (.t 26) (.c (.int .i64 0))⟩, ⟨some 28, none, .bin .eql .no (.t 27) (.c (.int .u8 43))⟩, mvF 29 28, ⟨some 30, (some (29, false)), .faddr 4 (.t 7)⟩, ⟨some 31, (some (29, false)), .load false 1 (.t 30)⟩, ⟨some 32, (some (29, false)), .idx (.t 31) (.c (.int .i64 0))⟩, ⟨some 33, (some (29, false)), .bin .eql .no (.t 32) (.c (.int .u8 45))⟩, ⟨some 34, none, .pick (.t 29) (.c (.bool true)) (.t 33)⟩, ⟨some 35, none, .bin .eql .bool (.t 24) (.t 34)⟩, mvF 6 35]) .ret))))⟩
theorem ok_c_Z4 : chkFn Tryz.prog 48 c_Z4 = true := chkFn_of Tryz.func48 (by kernel_rfl)
def s_Z4 (M : Mach) (a0 a1 a2 : V) (σ : Objs) : Ro :=
 bd (M.call 41 [a0.ng.ng, a1.ng.ng] σ) fun p0 =>
  let s1 : Objs := p0.2 ++ [.cells [(.int .i64 0), (.int .i64 0), (.int .i64 0), (.str []), (.str []), (.bool false)]]
 bd (stV s1 6 (.ptr p0.2.length 0) p0.1.ng p0.1.ng) fun p2 =>
 bd (pu (eF 0 (.ptr p0.2.length 0))) fun x3 =>
 bd (pu (eL p2.2 false 1 x3.ng)) fun x4 =>
 bd (pu (eB .neq .no x4.ng (.int .i64 10))) fun x5 =>
 bd (gdv x5.ng false (pu (eF 5 (.ptr p0.2.length 0)))) fun x6 =>
 bd (gdv x5.ng false (pu (eL p2.2 false 1 x6.ng))) fun x7 =>
 bd (gdv x5.ng false (pu (evUn .not x7.ng))) fun x8 =>
 bd (pu (pV x5.ng.ng (.bool true) x8.ng)) fun x9 =>
 bd (gdv x9.ng false (pu (eF 4 (.ptr p0.2.length 0)))) fun x10 =>
 bd (gdv x9.ng false (pu (eL p2.2 false 1 x10.ng))) fun x11 =>
 bd (gdv x9.ng false (pu (eB .eql .no x11.ng (.str [])))) fun x12 =>
 bd (pu (pV x9.ng.ng (.bool true) x12.ng)) fun x13 =>
  br x13.ng (
 bd (oK false (.bool false)) (nK σ.length p2.2)) (
 bd (pu (eF 4 (.ptr p0.2.length 0))) fun x14 =>
 bd (pu (eL p2.2 false 1 x14.ng)) fun x15 =>
 bd (pu (evIdx (.int .i64 0) x15.ng)) fun x16 =>
 bd (pu (eB .eql .no x16.ng (.int .u8 43))) fun x17 =>
 bd (gdv x17.ng false (pu (eF 4 (.ptr p0.2.length 0)))) fun x18 =>
 bd (gdv x17.ng false (pu (eL p2.2 false 1 x18.ng))) fun x19 =>
 bd (gdv x17.ng false (pu (evIdx (.int .i64 0) x19.ng))) fun x20 =>
 bd (gdv x17.ng false (pu (eB .eql .no x20.ng (.int .u8 45)))) fun x21 =>
 bd (pu (pV x17.ng.ng (.bool true) x21.ng)) fun x22 =>
 bd (pu (eB .eql .bool a2.ng.ng x22.ng)) fun x23 =>
 bd (oK false x23.ng) (nK σ.length p2.2))
theorem k_Z4 (M : Mach) (a0 a1 a2 : V) (σ : Objs) : fnK M c_Z4 [a0, a1, a2] σ = s_Z4 M a0 a1 a2 σ := by kernel_rfl
def c_Zf : Ev.Fn := ⟨6, [.tmp 2], false, false, (.seq (.ops 0 [⟨some 2, none, .mv (.c (.bool false)) false⟩]) (.seq (.ops 1 [mvF 3 0, ⟨some 4, none, .mkif 38 (.c (.int .i64 3))⟩, ⟨some 5, none, .call 35 [(.t 3), (.t 4)]⟩, mvF 2 5]) .ret))⟩
theorem ok_c_Zf : chkFn Tryz.prog 49 c_Zf = true := chkFn_of Tryz.func49 (by kernel_rfl)
def s_Zf (M : Mach) (a0 : V) (σ : Objs) : Ro :=
 bd (M.call 35 [a0.ng.ng, (.ifc 38 (.int .i64 3))] σ) fun p0 =>
 bd (oK false p0.1.ng) (nK σ.length p0.2)
theorem k_Zf (M : Mach) (a0 : V) (σ : Objs) : fnK M c_Zf [a0] σ = s_Zf M a0 σ := by kernel_rfl
def c_Z12 : Ev.Fn := ⟨17, [.tmp 4], false, false, (.seq (.ops 0 [⟨some 4, none, .mv (.c (.str [])) false⟩]) (.seq (.block 0 (.loop [0, 1] [0, 4] (.seq (.seq (.ops 1 [mvF 5 0, ⟨some 6, none, .lenS (.t 5)⟩, ⟨some 7, none, .bin .gtr .no (.t 6) (.c (.int .i64 0))⟩, mvF 8 7, ⟨some 9, (some (8, true)), .mv (.t 0) false⟩, ⟨some 10, (some (8, true)), .idx (.t 9) (.c (.int .i64 0))⟩, ⟨some 11, (some (8, true)), .mv (.t 1) false⟩, ⟨some 12, (some (8, true)), .bin .eql .no (.t 10) (.t 11)⟩, ⟨some 13, none, .pick (.t 8) (.t 12) (.c (.bool false))⟩]) (.cond (.t 13) .skip (.exit 0))) (.block 1 (.ops 2 [mvF 14 0, ⟨some 15, none, .cutS (.t 14) (some (.c (.int .i64 1))) none⟩, mvF 0 15]))))) (.seq (.ops 3 [mvF 16 0, mvF 4 16]) .ret)))⟩
theorem ok_c_Z12 : chkFn Tryz.prog 53 c_Z12 = true := chkFn_of Tryz.func53 (by kernel_rfl)
def b_Z12_0 (M : Mach) (n0 : Nat) (n1 : Nat) (r1 : Rk) (z0 z1 : V) (σ : Objs) : Ro :=
 bd (pu (evLenS z0.ng.ng)) fun x0 =>
 bd (pu (eB .gtr .no x0.ng (.int .i64 0))) fun x1 =>
 bd (gdv x1.ng true (some z0.ng)) fun x2 =>
 bd (gdv x1.ng true (pu (evIdx (.int .i64 0) x2.ng))) fun x3 =>
 bd (gdv x1.ng true (some z1.ng)) fun x4 =>
 bd (gdv x1.ng true (pu (eB .eql .no x3.ng x4.ng))) fun x5 =>
 bd (pu (pV x1.ng.ng x5.ng (.bool false))) fun x6 =>
  br x6.ng (
 bd (pu (evCutS z0.ng.ng (some (.int .i64 1)) none)) fun x7 =>
 bd (fz n1 σ fzD x7.ng) fun y8 =>
 bd (fz n1 σ fzD z1) fun y9 =>
 bd (cuO n1 σ) fun s10 => r1 [y8, y9] s10) (
 bd (fz n1 σ fzD z0) fun y11 =>
 bd (fz n1 σ fzD .any) fun y12 =>
 bd (cuO n1 σ) fun s13 =>
 bd (oK false y11.ng.ng) (nK n0 s13))
def l_Z12_0 (M : Mach) (n0 : Nat) (n1 : Nat) : Rk := M.fx fun rec vs σ => b_Z12_0 M n0 n1 rec (vs.getD 0 .undef) (vs.getD 1 .undef) σ
def s_Z12 (M : Mach) (a0 a1 : V) (σ : Objs) : Ro :=
 bd (fz σ.length σ fzD a0) fun y14 =>
 bd (fz σ.length σ fzD a1) fun y15 =>
  l_Z12_0 M σ.length σ.length [y14, y15] σ
theorem k_Z12 (M : Mach) (a0 a1 : V) (σ : Objs) : fnK M c_Z12 [a0, a1] σ = s_Z12 M a0 a1 σ := by kernel_rfl
def c_Z10 : Ev.Fn := ⟨21, [.cell 2 true 256, .tmp 3], false, false, (.seq (.ops 0 [⟨some 2, none, .alloc [(.bool false), (.bool false), (.bool false), (.bool false), (.bool false), (.bool false), (.bool false), (.bool false), (.bool false), (.bool false), (.bool false), (.bool false), (.bool false), (.bool false), (.bool false), (.bool false), (.bool false), (.bool false), (.bool false), (.bool false), (.bool false), (.bool false), (.bool false), (.bool false), (.bool false), (.bool false), (.bool false), (.bool false), (.bool false), (.bool false), (.bool false), (.bool false), (.bool false), (.bool false), (.bool false), (.bool false), (.bool false), (.bool false), (.bool false), (.bool false), (.bool false), (.bool false), (.bool false), (.bool false), (.bool false), (.bool false), (.bool false), (.bool false), (.bool false), (.bool false), (.bool false), (.bool false), (.bool false), (.bool false), (.bool false), (.bool false), (.bool false), (.bool false), (.bool false), (.bool false), (.bool false), (.bool false), (.bool false), (.bool false), (.bool false), (.bool false), (.bool false), (.bool false), (.bool false), (.bool false), (.bool false), (.bool false), (.bool false), (.bool false), (.bool false), (.bool false), (.bool false), (.bool false), (.bool false), (.bool false), (.bool false), (.bool false), (.bool false), (.bool false), (.bool false), (.bool false), (.bool false), (.bool false), (.bool false), (.bool false), (.bool false), (.bool false), (.bool false), (.bool false), (.bool false), (.bool false), (.bool false), (.bool false), (.bool false), (.bool false), (.bool false), (.bool false), (.bool false), (.bool false), (.bool false), (.bool false), (.bool false), (.bool false), (.bool false), (.bool false), (.bool false), (.bool false), (.bool false), (.bool false), (.bool false), (.bool false), (.bool false), (.bool false), (.bool false), (.bool false), (.bool false), (.bool false), (.bool false), (.bool false), (.bool false), (.bool false), (.bool false), (.bool false), (.bool false), (.bool false), (.bool false), (.bool false), (.bool false), (.bool false), (.bool false), (.bool false), (.bool false), (.bool false), (.bool false), (.bool false), (.bool false), (.bool false), (.bool false), (.bool false), (.bool false), (.bool false), (.bool false), (.bool false), (.bool false), (.bool false), (.bool false), (.bool false), (.bool false), (.bool false), (.bool false), (.bool false), (.bool false), (.bool false), (.bool false), (.bool false), (.bool false), (.bool false), (.bool false), (.bool false), (.bool false), (.bool false), (.bool false), (.bool false), (.bool false), (.bool false), (.bool false), (.bool false), (.bool false), (.bool false), (.bool false), (.bool false), (.bool false), (.bool false), (.bool false), (.bool false), (.bool false), (.bool false), (.bool false), (.bool false), (.bool false), (.bool false), (.bool false), (.bool false), (.bool false), (.bool false), (.bool false), (.bool false), (.bool false), (.bool false), (.bool false), (.bool false), (.bool false), (.bool false), (.bool false), (.bool false), (.bool false), (.bool false), (.bool false), (.bool false), (.bool false), (.bool false), (.bool false), (.bool false), (.bool false), (.bool false), (.bool false), (.bool false), (.bool false), (.bool false), (.bool false), (.bool false), (.bool false), (.bool false), (.bool false), (.bool false), (.bool false), (.bool false), (.bool false), (.bool false), (.bool false), (.bool false), (.bool false), (.bool false), (.bool false), (.bool false), (.bool false), (.bool false), (.bool false), (.bool false), (.bool false), (.bool false), (.bool false), (.bool false), (.bool false), (.bool false), (.bool false), (.bool false), (.bool false), (.bool false), (.bool false), (.bool false), (.bool false), (.bool false), (.bool false), (.bool false), (.bool false), (.bool false), (.bool false), (.bool false), (.bool false), (.bool false)]⟩, ⟨some 3, none, .mv (.c (.bool false)) false⟩]) (.seq (.seq (.ops 1 [⟨some 4, none, .mv (.c (.int .i64 0)) false⟩]) (.block 0 (.loop [0, 2, 4] [2, 3] (.seq (.seq (.ops 2 [mvF 6 4, mvF 7 0, ⟨some 8, none, .lenS (.t 7)⟩, ⟨some 9, none, .bin .lss .no (.t 6) (.t 8)⟩]) (.cond (.t 9) .skip (.exit 0))) (.seq (.block 1 (.seq (.ops 4 [mvF 12 0, mvF 13 4, ⟨some 14, none, .idx (.t 12) (.t 13)⟩, mvF 5 14]) (.seq (.seq (.ops 5 [mvF 15 5, ⟨some 16, none, .bin .geq .no (.t 15) (.c (.int .u8 128))⟩]) (.cond (.t 16) (.seq (.ops 6 [⟨some 17, none, .load true 256 (.t 2)⟩, ⟨none, none, .store 256 (.t 2) (.t 17) false⟩, ⟨some 3, none, .mv (.c (.bool false)) false⟩]) .ret) .skip)) (.ops 7 [mvF 18 5, ⟨some 19, none, .iaddrA 256 1 (.t 2) (.t 18)⟩, ⟨none, none, .store 1 (.t 19) (.c (.bool true)) false⟩])))) (.ops 3 [mvF 10 4, ⟨some 11, none, .bin .add .no (.t 10) (.c (.int .i64 1))⟩, mvF 4 11])))))) (.seq (.ops 8 [⟨some 20, none, .load true 256 (.t 2)⟩, ⟨none, none, .store 256 (.t 2) (.t 20) false⟩, ⟨some 3, none, .mv (.c (.bool true)) false⟩]) .ret)))⟩
theorem ok_c_Z10 : chkFn Tryz.prog 54 c_Z10 = true := chkFn_of Tryz.func54 (by kernel_rfl)
def b_Z10_0 (M : Mach) (n0 : Nat) (n1 : Nat) (r1 : Rk) (z0 z2 z4 : V) (σ : Objs) : Ro :=
 bd (pu (evLenS z0.ng.ng)) fun x1 =>
 bd (pu (eB .lss .no z4.ng.ng x1.ng)) fun x2 =>
  br x2.ng (
 bd (pu (evIdx z4.ng.ng z0.ng.ng)) fun x3 =>
 bd (pu (eB .geq .no x3.ng.ng.ng (.int .u8 128))) fun x4 =>
  br x4.ng (
 bd (pu (eL σ true 256 z2.ng)) fun x5 =>
 bd (stV σ 256 z2.ng x5.ng x5.ng) fun p6 =>
 bd (fz n1 p6.2 fzD z2) fun y7 =>
 bd (fz n1 p6.2 fzD (.bool false)) fun y8 =>
 bd (cuO n1 p6.2) fun s9 =>
 bd (resC s9 true 256 y7) fun x10 =>
  nK n0 s9 (.tup [x10.ng, y8.ng])) (
 bd (pu (evIaddrA 256 1 x3.ng.ng.ng z2.ng)) fun x11 =>
 bd (stV σ 1 x11.ng (.bool true) (.bool true)) fun p12 =>
 bd (pu (eB .add .no z4.ng.ng (.int .i64 1))) fun x13 =>
 bd (fz n1 p12.2 fzD z0) fun y14 =>
 bd (fz n1 p12.2 fzD z2) fun y15 =>
 bd (fz n1 p12.2 fzD x13.ng) fun y16 =>
 bd (cuO n1 p12.2) fun s17 => r1 [y14, y15, y16] s17)) (
 bd (fz n1 σ fzD z2) fun y18 =>
 bd (fz n1 σ fzD .any) fun y19 =>
 bd (cuO n1 σ) fun s20 =>
 bd (pu (eL s20 true 256 y18.ng)) fun x21 =>
 bd (stV s20 256 y18.ng x21.ng x21.ng) fun p22 =>
 bd (resC p22.2 true 256 y18) fun x23 =>
  nK n0 p22.2 (.tup [x23.ng, (.bool true)]))
def l_Z10_0 (M : Mach) (n0 : Nat) (n1 : Nat) : Rk := M.fx fun rec vs σ => b_Z10_0 M n0 n1 rec (vs.getD 0 .undef) (vs.getD 1 .undef) (vs.getD 2 .undef) σ
def s_Z10 (M : Mach) (a0 : V) (σ : Objs) : Ro :=
  let s0 : Objs := σ ++ [.cells [(.bool false), (.bool false), (.bool false), (.bool false), (.bool false), (.bool false), (.bool false), (.bool false), (.bool false), (.bool false), (.bool false), (.bool false), (.bool false), (.bool false), (.bool false), (.bool false), (.bool false), (.bool false), (.bool false), (.bool false), (.bool false), (.bool false), (.bool false), (.bool false), (.bool false), (.bool false), (.bool false), (.bool false), (.bool false), (.bool false), (.bool false), (.bool false), (.bool false), (.bool false), (.bool false), (.bool false), (.bool false), (.bool false), (.bool false), (.bool false), (.bool false), (.bool false), (.bool false), (.bool false), (.bool false), (.bool false), (.bool false), (.bool false), (.bool false), (.bool false), (.bool false), (.bool false), (.bool false), (.bool false), (.bool false), (.bool false), (.bool false), (.bool false), (.bool false), (.bool false), (.bool false), (.bool false), (.bool false), (.bool false), (.bool false), (.bool false), (.bool false), (.bool false), (.bool false), (.bool false), (.bool false), (.bool false), (.bool false), (.bool false), (.bool false), (.bool false), (.bool false), (.bool false), (.bool false), (.bool false), (.bool false), (.bool false), (.bool false), (.bool false), (.bool false), (.bool false), (.bool false), (.bool false), (.bool false), (.bool false), (.bool false), (.bool false), (.bool false), (.bool false), (.bool false), (.bool false), (.bool false), (.bool false), (.bool false), (.bool false), (.bool false), (.bool false), (.bool false), (.bool false), (.bool false), (.bool false), (.bool false), (.bool false), (.bool false), (.bool false), (.bool false), (.bool false), (.bool false), (.bool false), (.bool false), (.bool false), (.bool false), (.bool false), (.bool false), (.bool false), (.bool false), (.bool false), (.bool false), (.bool false), (.bool false), (.bool false), (.bool false), (.bool false), (.bool false), (.bool false), (.bool false), (.bool false), (.bool false), (.bool false), (.bool false), (.bool false), (.bool false), (.bool false), (.bool false), (.bool false), (.bool false), (.bool false), (.bool false), (.bool false), (.bool false), (.bool false), (.bool false), (.bool false), (.bool false), (.bool false), (.bool false), (.bool false), (.bool false), (.bool false), (.bool false), (.bool false), (.bool false), (.bool false), (.bool false), (.bool false), (.bool false), (.bool false), (.bool false), (.bool false), (.bool false), (.bool false), (.bool false), (.bool false), (.bool false), (.bool false), (.bool false), (.bool false), (.bool false), (.bool false), (.bool false), (.bool false), (.bool false), (.bool false), (.bool false), (.bool false), (.bool false), (.bool false), (.bool false), (.bool false), (.bool false), (.bool false), (.bool false), (.bool false), (.bool false), (.bool false), (.bool false), (.bool false), (.bool false), (.bool false), (.bool false), (.bool false), (.bool false), (.bool false), (.bool false), (.bool false), (.bool false), (.bool false), (.bool false), (.bool false), (.bool false), (.bool false), (.bool false), (.bool false), (.bool false), (.bool false), (.bool false), (.bool false), (.bool false), (.bool false), (.bool false), (.bool false), (.bool false), (.bool false), (.bool false), (.bool false), (.bool false), (.bool false), (.bool false), (.bool false), (.bool false), (.bool false), (.bool false), (.bool false), (.bool false), (.bool false), (.bool false), (.bool false), (.bool false), (.bool false), (.bool false), (.bool false), (.bool false), (.bool false), (.bool false), (.bool false), (.bool false), (.bool false), (.bool false), (.bool false), (.bool false), (.bool false), (.bool false), (.bool false), (.bool false), (.bool false), (.bool false), (.bool false), (.bool false), (.bool false), (.bool false), (.bool false)]]
 bd (fz s0.length s0 fzD a0) fun y24 =>
 bd (fz s0.length s0 fzD (.ptr σ.length 0)) fun y25 =>
 bd (fz s0.length s0 fzD (.int .i64 0)) fun y26 =>
  l_Z10_0 M σ.length s0.length [y24, y25, y26] s0
theorem k_Z10 (M : Mach) (a0 : V) (σ : Objs) : fnK M c_Z10 [a0] σ = s_Z10 M a0 σ := by kernel_rfl
end Go.Proofs.YtkgkmlhljeidhaaGreatDoor
