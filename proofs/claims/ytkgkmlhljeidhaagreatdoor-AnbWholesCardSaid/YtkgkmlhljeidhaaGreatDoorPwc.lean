/- Part of a proof: the small language, and functions of the program on it. -/
import Derived.Test.YtkgkmlhljeidhaaGreatDoorPwb
import Derived.Test.YtkgkmlhljeidhaaGreatDoorChecked
set_option linter.unusedSimpArgs false
set_option linter.unusedVariables false
set_option maxRecDepth 100000
namespace Go.Proofs.YtkgkmlhljeidhaaGreatDoor
open Go.Ev
def c_wattlelaw04_AnbHas : Ev.Fn := ⟨36, [.tmp 6], false, false, (.seq (.ops 0 [⟨(some 6), none, .mv (.c (.bool false)) false⟩]) (.seq (.seq (.ops 1 [⟨(some 7), none, .call 9 []⟩, ⟨(some 8), none, .un .not (.t 7)⟩]) (.cond (.t 8) (.seq (.ops 2 [⟨(some 6), none, .mv (.c (.bool false)) false⟩]) .ret) .skip)) (.seq (.seq (.ops 3 [⟨(some 9), none, .mv (.t 0) false⟩, ⟨(some 10), none, .bin .lss .no (.t 9) (.c (.int .i64 (-1099511627776)))⟩, ⟨(some 11), none, .mv (.t 10) false⟩, ⟨(some 12), (some (11, false)), .mv (.t 0) false⟩, ⟨(some 13), (some (11, false)), .bin .gtr .no (.t 12) (.c (.int .i64 1099511627776))⟩, ⟨(some 14), none, .pick (.t 11) (.c (.bool true)) (.t 13)⟩, ⟨(some 15), none, .mv (.t 14) false⟩, ⟨(some 16), (some (15, false)), .mv (.t 1) false⟩, ⟨(some 17), (some (15, false)), .bin .lss .no (.t 16) (.c (.int .i64 (-1099511627776)))⟩, ⟨(some 18), none, .pick (.t 15) (.c (.bool true)) (.t 17)⟩, ⟨(some 19), none, .mv (.t 18) false⟩, ⟨(some 20), (some (19, false)), .mv (.t 1) false⟩, ⟨(some 21), (some (19, false)), .bin .gtr .no (.t 20) (.c (.int .i64 1099511627776))⟩, ⟨(some 22), none, .pick (.t 19) (.c (.bool true)) (.t 21)⟩, ⟨(some 23), none, .mv (.t 22) false⟩, ⟨(some 24), (some (23, false)), .mv (.t 2) false⟩, ⟨(some 25), (some (23, false)), .bin .gtr .no (.t 24) (.c (.int .i64 1099511627776))⟩, ⟨(some 26), none, .pick (.t 23) (.c (.bool true)) (.t 25)⟩]) (.cond (.t 26) (.seq (.ops 4 [⟨(some 6), none, .mv (.c (.bool true)) false⟩]) .ret) .skip)) (.seq (.ops 5 [⟨(some 27), none, .mv (.t 0) false⟩, ⟨(some 28), none, .mv (.t 1) false⟩, ⟨(some 29), none, .mv (.t 2) false⟩, ⟨(some 30), none, .call 10 [(.t 27), (.t 28), (.t 29)]⟩, ⟨(some 31), none, .mv (.t 0) false⟩, ⟨(some 32), none, .mv (.t 1) false⟩, ⟨(some 33), none, .mv (.t 2) false⟩, ⟨(some 34), none, .call 11 [(.t 31), (.t 32), (.t 33)]⟩, ⟨(some 35), none, .bin .eql .bool (.t 30) (.t 34)⟩, ⟨(some 6), none, .mv (.t 35) false⟩]) .ret))))⟩
theorem ok_c_wattlelaw04_AnbHas : chkFn Tryz.prog 3 c_wattlelaw04_AnbHas = true := chkFn_of Tryz.func3 (by kernel_rfl)
def s_wattlelaw04_AnbHas (M : Mach) (a0 a1 a2 : V) (σ : Objs) : Ro :=
  bd (M.call 9 [] σ) fun p0 =>
  bd (pu (evUn .not p0.1.nogr)) fun x1 =>
  br x1.nogr (
  bd (oneK false (.bool false)) (endK σ.length p0.2)) (
  bd (pu (evBin .lss .no a0.nogr.nogr (.int .i64 (-1099511627776)))) fun x2 =>
  bd (gdv x2.nogr false (some a0.nogr)) fun x3 =>
  bd (gdv x2.nogr false (pu (evBin .gtr .no x3.nogr (.int .i64 1099511627776)))) fun x4 =>
  bd (pu (pickV x2.nogr.nogr (.bool true) x4.nogr)) fun x5 =>
  bd (gdv x5.nogr false (some a1.nogr)) fun x6 =>
  bd (gdv x5.nogr false (pu (evBin .lss .no x6.nogr (.int .i64 (-1099511627776))))) fun x7 =>
  bd (pu (pickV x5.nogr.nogr (.bool true) x7.nogr)) fun x8 =>
  bd (gdv x8.nogr false (some a1.nogr)) fun x9 =>
  bd (gdv x8.nogr false (pu (evBin .gtr .no x9.nogr (.int .i64 1099511627776)))) fun x10 =>
  bd (pu (pickV x8.nogr.nogr (.bool true) x10.nogr)) fun x11 =>
  bd (gdv x11.nogr false (some a2.nogr)) fun x12 =>
  bd (gdv x11.nogr false (pu (evBin .gtr .no x12.nogr (.int .i64 1099511627776)))) fun x13 =>
  bd (pu (pickV x11.nogr.nogr (.bool true) x13.nogr)) fun x14 =>
  br x14.nogr (
  bd (oneK false (.bool true)) (endK σ.length p0.2)) (
  bd (M.call 10 [a0.nogr.nogr, a1.nogr.nogr, a2.nogr.nogr] p0.2) fun p15 =>
  bd (M.call 11 [a0.nogr.nogr, a1.nogr.nogr, a2.nogr.nogr] p15.2) fun p16 =>
  bd (pu (evBin .eql .bool p15.1.nogr p16.1.nogr)) fun x17 =>
  bd (oneK false x17.nogr) (endK σ.length p16.2)))
theorem k_wattlelaw04_AnbHas (M : Mach) (a0 a1 a2 : V) (σ : Objs) : fnK M c_wattlelaw04_AnbHas [a0, a1, a2] σ = s_wattlelaw04_AnbHas M a0 a1 a2 σ := by kernel_rfl
def c_wattlelaw04_AnbCases : Ev.Fn := ⟨105, [.tmp 8], false, false, (.seq (.ops 0 [⟨(some 8), none, .mv (.c (.bool false)) false⟩]) (.seq (.seq (.ops 1 [⟨(some 22), none, .call 9 []⟩, ⟨(some 23), none, .un .not (.t 22)⟩]) (.cond (.t 23) (.seq (.ops 2 [⟨(some 8), none, .mv (.c (.bool false)) false⟩]) .ret) .skip)) (.seq (.ops 3 [⟨(some 24), none, .mv (.t 1) false⟩, ⟨(some 25), none, .conv (.toInt .i64) (.t 24)⟩, ⟨(some 9), none, .mv (.c (.str [43])) false⟩, ⟨(some 10), none, .mv (.t 25) false⟩]) (.seq (.seq (.ops 4 [⟨(some 26), none, .mv (.t 2) false⟩]) (.cond (.t 26) (.ops 5 [⟨(some 27), none, .mv (.t 1) false⟩, ⟨(some 28), none, .conv (.toInt .i64) (.t 27)⟩, ⟨(some 29), none, .un .neg (.t 28)⟩, ⟨(some 9), none, .mv (.c (.str [45])) false⟩, ⟨(some 10), none, .mv (.t 29) false⟩]) .skip)) (.seq (.ops 6 [⟨(some 30), none, .mv (.t 3) false⟩, ⟨(some 31), none, .bin .and .no (.t 30) (.c (.int .u8 7))⟩, ⟨(some 32), none, .cutS (.c (.str [32, 9, 10, 32, 9, 10, 32])) none (some (.t 31))⟩, ⟨(some 11), none, .mv (.t 32) false⟩]) (.seq (.ops 7 [⟨(some 33), none, .mv (.t 0) false⟩, ⟨(some 34), none, .conv (.toInt .i64) (.t 33)⟩, ⟨(some 35), none, .call 12 [(.t 34)]⟩, ⟨(some 36), none, .bin .add .no (.t 35) (.c (.str [78]))⟩, ⟨(some 37), none, .mv (.t 11) false⟩, ⟨(some 38), none, .bin .add .no (.t 36) (.t 37)⟩, ⟨(some 39), none, .mv (.t 9) false⟩, ⟨(some 40), none, .bin .add .no (.t 38) (.t 39)⟩, ⟨(some 41), none, .mv (.t 11) false⟩, ⟨(some 42), none, .bin .add .no (.t 40) (.t 41)⟩, ⟨(some 43), none, .mv (.t 1) false⟩, ⟨(some 44), none, .conv (.toInt .i64) (.t 43)⟩, ⟨(some 45), none, .call 12 [(.t 44)]⟩, ⟨(some 46), none, .bin .add .no (.t 42) (.t 45)⟩, ⟨(some 12), none, .mv (.t 46) false⟩]) (.seq (.ops 8 [⟨(some 48), none, .mv (.t 12) false⟩, ⟨(some 49), none, .conv .strBytes (.t 48)⟩, ⟨(some 50), none, .call 14 [(.t 49)]⟩, ⟨(some 51), none, .call 13 [(.t 50)]⟩, ⟨(some 47), none, .mv (.t 51) false⟩, ⟨(some 52), none, .extr (.t 47) 0⟩, ⟨(some 53), none, .extr (.t 47) 1⟩, ⟨(some 54), none, .extr (.t 47) 2⟩, ⟨(some 55), none, .extr (.t 47) 3⟩, ⟨(some 13), none, .mv (.t 52) false⟩, ⟨(some 14), none, .mv (.t 53) false⟩, ⟨(some 15), none, .mv (.t 54) false⟩, ⟨(some 16), none, .mv (.t 55) false⟩]) (.seq (.ops 9 [⟨(some 56), none, .mv (.t 11) false⟩, ⟨(some 57), none, .mv (.t 0) false⟩, ⟨(some 58), none, .conv (.toInt .i64) (.t 57)⟩, ⟨(some 59), none, .call 12 [(.t 58)]⟩, ⟨(some 60), none, .bin .add .no (.t 56) (.t 59)⟩, ⟨(some 61), none, .bin .add .no (.t 60) (.c (.str [110]))⟩, ⟨(some 62), none, .mv (.t 9) false⟩, ⟨(some 63), none, .bin .add .no (.t 61) (.t 62)⟩, ⟨(some 64), none, .mv (.t 1) false⟩, ⟨(some 65), none, .conv (.toInt .i64) (.t 64)⟩, ⟨(some 66), none, .call 12 [(.t 65)]⟩, ⟨(some 67), none, .bin .add .no (.t 63) (.t 66)⟩, ⟨(some 17), none, .mv (.t 67) false⟩]) (.seq (.ops 10 [⟨(some 69), none, .mv (.t 17) false⟩, ⟨(some 70), none, .conv .strBytes (.t 69)⟩, ⟨(some 71), none, .call 14 [(.t 70)]⟩, ⟨(some 72), none, .call 13 [(.t 71)]⟩, ⟨(some 68), none, .mv (.t 72) false⟩, ⟨(some 73), none, .extr (.t 68) 0⟩, ⟨(some 74), none, .extr (.t 68) 1⟩, ⟨(some 75), none, .extr (.t 68) 2⟩, ⟨(some 76), none, .extr (.t 68) 3⟩, ⟨(some 18), none, .mv (.t 73) false⟩, ⟨(some 19), none, .mv (.t 74) false⟩, ⟨(some 20), none, .mv (.t 75) false⟩, ⟨(some 21), none, .mv (.t 76) false⟩]) (.seq (.ops 11 [⟨(some 77), none, .mv (.t 16) false⟩, ⟨(some 78), none, .bin .eql .ifc (.t 77) (.c .nili)⟩, ⟨(some 79), none, .mv (.t 78) false⟩, ⟨(some 80), (some (79, true)), .mv (.t 21) false⟩, ⟨(some 81), (some (79, true)), .bin .eql .ifc (.t 80) (.c .nili)⟩, ⟨(some 82), none, .pick (.t 79) (.t 81) (.c (.bool false))⟩, ⟨(some 83), none, .mv (.t 82) false⟩, ⟨(some 84), (some (83, true)), .mv (.t 13) false⟩, ⟨(some 85), (some (83, true)), .mv (.t 0) false⟩, ⟨(some 86), (some (83, true)), .conv (.toInt .i64) (.t 85)⟩, ⟨(some 87), (some (83, true)), .bin .eql .no (.t 84) (.t 86)⟩, ⟨(some 88), none, .pick (.t 83) (.t 87) (.c (.bool false))⟩, ⟨(some 89), none, .mv (.t 88) false⟩, ⟨(some 90), (some (89, true)), .mv (.t 18) false⟩, ⟨(some 91), (some (89, true)), .mv (.t 0) false⟩, ⟨(some 92), (some (89, true)), .conv (.toInt .i64) (.t 91)⟩, ⟨(some 93), (some (89, true)), .bin .eql .no (.t 90) (.t 92)⟩, ⟨(some 94), none, .pick (.t 89) (.t 93) (.c (.bool false))⟩, ⟨(some 95), none, .mv (.t 94) false⟩, ⟨(some 96), (some (95, true)), .mv (.t 14) false⟩, ⟨(some 97), (some (95, true)), .mv (.t 10) false⟩, ⟨(some 98), (some (95, true)), .bin .eql .no (.t 96) (.t 97)⟩, ⟨(some 99), none, .pick (.t 95) (.t 98) (.c (.bool false))⟩, ⟨(some 100), none, .mv (.t 99) false⟩, ⟨(some 101), (some (100, true)), .mv (.t 19) false⟩, ⟨(some 102), (some (100, true)), .mv (.t 10) false⟩, ⟨(some 103), (some (100, true)), .bin .eql .no (.t 101) (.t 102)⟩, ⟨(some 104), none, .pick (.t 100) (.t 103) (.c (.bool false))⟩, ⟨(some 8), none, .mv (.t 104) false⟩]) .ret))))))))))⟩
theorem ok_c_wattlelaw04_AnbCases : chkFn Tryz.prog 4 c_wattlelaw04_AnbCases = true := chkFn_of Tryz.func4 (by kernel_rfl)
def j_wattlelaw04_AnbCases_0 (M : Mach) (n0 : Nat) (z0 z1 z3 z9 z10 : V) (σ : Objs) : Ro :=
  bd (pu (evBin .and .no z3.nogr.nogr (.int .u8 7))) fun x3 =>
  bd (pu (evCutS (.str [32, 9, 10, 32, 9, 10, 32]) none (some x3.nogr))) fun x4 =>
  bd (pu (evConv σ (.toInt .i64) z0.nogr.nogr)) fun x5 =>
  bd (M.call 12 [x5.nogr] σ) fun p6 =>
  bd (pu (evBin .add .no p6.1.nogr (.str [78]))) fun x7 =>
  bd (pu (evBin .add .no x7.nogr x4.nogr.nogr.nogr)) fun x8 =>
  bd (pu (evBin .add .no x8.nogr z9.nogr.nogr)) fun x9 =>
  bd (pu (evBin .add .no x9.nogr x4.nogr.nogr.nogr)) fun x10 =>
  bd (pu (evConv p6.2 (.toInt .i64) z1.nogr.nogr)) fun x11 =>
  bd (M.call 12 [x11.nogr] p6.2) fun p12 =>
  bd (pu (evBin .add .no x10.nogr p12.1.nogr)) fun x13 =>
  bd (evConv p12.2 .strBytes x13.nogr.nogr.nogr) fun x14 =>
  bd (M.call 14 [x14.nogr] p12.2) fun p15 =>
  bd (M.call 13 [p15.1.nogr] p15.2) fun p16 =>
  bd (pu (evExtr 0 p16.1.nogr.nogr)) fun x17 =>
  bd (pu (evExtr 1 p16.1.nogr.nogr)) fun x18 =>
  bd (pu (evExtr 2 p16.1.nogr.nogr)) fun x19 =>
  bd (pu (evExtr 3 p16.1.nogr.nogr)) fun x20 =>
  bd (pu (evConv p16.2 (.toInt .i64) z0.nogr.nogr)) fun x21 =>
  bd (M.call 12 [x21.nogr] p16.2) fun p22 =>
  bd (pu (evBin .add .no x4.nogr.nogr.nogr p22.1.nogr)) fun x23 =>
  bd (pu (evBin .add .no x23.nogr (.str [110]))) fun x24 =>
  bd (pu (evBin .add .no x24.nogr z9.nogr.nogr)) fun x25 =>
  bd (pu (evConv p22.2 (.toInt .i64) z1.nogr.nogr)) fun x26 =>
  bd (M.call 12 [x26.nogr] p22.2) fun p27 =>
  bd (pu (evBin .add .no x25.nogr p27.1.nogr)) fun x28 =>
  bd (evConv p27.2 .strBytes x28.nogr.nogr.nogr) fun x29 =>
  bd (M.call 14 [x29.nogr] p27.2) fun p30 =>
  bd (M.call 13 [p30.1.nogr] p30.2) fun p31 =>
  bd (pu (evExtr 0 p31.1.nogr.nogr)) fun x32 =>
  bd (pu (evExtr 1 p31.1.nogr.nogr)) fun x33 =>
  bd (pu (evExtr 2 p31.1.nogr.nogr)) fun x34 =>
  bd (pu (evExtr 3 p31.1.nogr.nogr)) fun x35 =>
  bd (pu (evBin .eql .ifc x20.nogr.nogr.nogr .nili)) fun x36 =>
  bd (gdv x36.nogr true (some x35.nogr.nogr)) fun x37 =>
  bd (gdv x36.nogr true (pu (evBin .eql .ifc x37.nogr .nili))) fun x38 =>
  bd (pu (pickV x36.nogr.nogr x38.nogr (.bool false))) fun x39 =>
  bd (gdv x39.nogr true (some x17.nogr.nogr)) fun x40 =>
  bd (gdv x39.nogr true (some z0.nogr)) fun x41 =>
  bd (gdv x39.nogr true (pu (evConv p31.2 (.toInt .i64) x41.nogr))) fun x42 =>
  bd (gdv x39.nogr true (pu (evBin .eql .no x40.nogr x42.nogr))) fun x43 =>
  bd (pu (pickV x39.nogr.nogr x43.nogr (.bool false))) fun x44 =>
  bd (gdv x44.nogr true (some x32.nogr.nogr)) fun x45 =>
  bd (gdv x44.nogr true (some z0.nogr)) fun x46 =>
  bd (gdv x44.nogr true (pu (evConv p31.2 (.toInt .i64) x46.nogr))) fun x47 =>
  bd (gdv x44.nogr true (pu (evBin .eql .no x45.nogr x47.nogr))) fun x48 =>
  bd (pu (pickV x44.nogr.nogr x48.nogr (.bool false))) fun x49 =>
  bd (gdv x49.nogr true (some x18.nogr.nogr)) fun x50 =>
  bd (gdv x49.nogr true (some z10.nogr)) fun x51 =>
  bd (gdv x49.nogr true (pu (evBin .eql .no x50.nogr x51.nogr))) fun x52 =>
  bd (pu (pickV x49.nogr.nogr x52.nogr (.bool false))) fun x53 =>
  bd (gdv x53.nogr true (some x33.nogr.nogr)) fun x54 =>
  bd (gdv x53.nogr true (some z10.nogr)) fun x55 =>
  bd (gdv x53.nogr true (pu (evBin .eql .no x54.nogr x55.nogr))) fun x56 =>
  bd (pu (pickV x53.nogr.nogr x56.nogr (.bool false))) fun x57 =>
  bd (oneK false x57.nogr) (endK n0 p31.2)
def s_wattlelaw04_AnbCases (M : Mach) (a0 a1 a2 a3 : V) (σ : Objs) : Ro :=
  bd (M.call 9 [] σ) fun p0 =>
  bd (pu (evUn .not p0.1.nogr)) fun x1 =>
  br x1.nogr (
  bd (oneK false (.bool false)) (endK σ.length p0.2)) (
  bd (pu (evConv p0.2 (.toInt .i64) a1.nogr.nogr)) fun x2 =>
  br a2.nogr.nogr (
  bd (pu (evConv p0.2 (.toInt .i64) a1.nogr.nogr)) fun x58 =>
  bd (pu (evUn .neg x58.nogr)) fun x59 =>
  j_wattlelaw04_AnbCases_0 M σ.length a0 a1 a3 (.str [45]) x59.nogr p0.2) (
  j_wattlelaw04_AnbCases_0 M σ.length a0 a1 a3 (.str [43]) x2.nogr p0.2))
theorem k_wattlelaw04_AnbCases (M : Mach) (a0 a1 a2 a3 : V) (σ : Objs) : fnK M c_wattlelaw04_AnbCases [a0, a1, a2, a3] σ = s_wattlelaw04_AnbCases M a0 a1 a2 a3 σ := by kernel_rfl
def c_wattlelaw04_AnbWhole : Ev.Fn := ⟨79, [.tmp 4], false, false, (.seq (.ops 0 [⟨(some 4), none, .mv (.c (.bool false)) false⟩]) (.seq (.seq (.ops 1 [⟨(some 12), none, .call 9 []⟩, ⟨(some 13), none, .un .not (.t 12)⟩]) (.cond (.t 13) (.seq (.ops 2 [⟨(some 4), none, .mv (.c (.bool false)) false⟩]) .ret) .skip)) (.seq (.ops 3 [⟨(some 14), none, .mv (.t 0) false⟩, ⟨(some 15), none, .conv (.toInt .i64) (.t 14)⟩, ⟨(some 16), none, .call 12 [(.t 15)]⟩, ⟨(some 5), none, .mv (.t 16) false⟩]) (.seq (.ops 4 [⟨(some 18), none, .mv (.t 5) false⟩, ⟨(some 19), none, .call 15 [(.t 18)]⟩, ⟨(some 17), none, .mv (.t 19) false⟩, ⟨(some 20), none, .extr (.t 17) 0⟩, ⟨(some 21), none, .extr (.t 17) 1⟩, ⟨(some 6), none, .mv (.t 20) false⟩, ⟨(some 7), none, .mv (.t 21) false⟩]) (.seq (.ops 5 [⟨(some 23), none, .mv (.t 5) false⟩, ⟨(some 24), none, .bin .add .no (.c (.str [43])) (.t 23)⟩, ⟨(some 25), none, .call 15 [(.t 24)]⟩, ⟨(some 22), none, .mv (.t 25) false⟩, ⟨(some 26), none, .extr (.t 22) 0⟩, ⟨(some 27), none, .extr (.t 22) 1⟩, ⟨(some 8), none, .mv (.t 26) false⟩, ⟨(some 9), none, .mv (.t 27) false⟩]) (.seq (.ops 6 [⟨(some 29), none, .mv (.t 1) false⟩, ⟨(some 30), none, .bin .and .no (.t 29) (.c (.int .u8 3))⟩, ⟨(some 31), none, .bin .add .no (.c (.int .u8 1)) (.t 30)⟩, ⟨(some 32), none, .cutS (.c (.str [45, 48, 48, 48])) none (some (.t 31))⟩, ⟨(some 33), none, .mv (.t 5) false⟩, ⟨(some 34), none, .bin .add .no (.t 32) (.t 33)⟩, ⟨(some 35), none, .call 15 [(.t 34)]⟩, ⟨(some 28), none, .mv (.t 35) false⟩, ⟨(some 36), none, .extr (.t 28) 0⟩, ⟨(some 37), none, .extr (.t 28) 1⟩, ⟨(some 10), none, .mv (.t 36) false⟩, ⟨(some 11), none, .mv (.t 37) false⟩]) (.seq (.seq (.ops 7 [⟨(some 38), none, .mv (.t 0) false⟩, ⟨(some 39), none, .bin .gtr .no (.t 38) (.c (.int .u32 2147483647))⟩]) (.cond (.t 39) (.seq (.ops 8 [⟨(some 40), none, .mv (.t 7) false⟩, ⟨(some 41), none, .call 16 [(.t 40), (.c (.int .i64 3))]⟩, ⟨(some 42), none, .mv (.t 41) false⟩, ⟨(some 43), (some (42, true)), .mv (.t 9) false⟩, ⟨(some 44), (some (42, true)), .call 16 [(.t 43), (.c (.int .i64 3))]⟩, ⟨(some 45), none, .pick (.t 42) (.t 44) (.c (.bool false))⟩, ⟨(some 46), none, .mv (.t 45) false⟩, ⟨(some 47), (some (46, true)), .mv (.t 11) false⟩, ⟨(some 48), (some (46, true)), .call 16 [(.t 47), (.c (.int .i64 3))]⟩, ⟨(some 49), none, .pick (.t 46) (.t 48) (.c (.bool false))⟩, ⟨(some 4), none, .mv (.t 49) false⟩]) .ret) .skip)) (.seq (.ops 9 [⟨(some 50), none, .mv (.t 7) false⟩, ⟨(some 51), none, .bin .eql .ifc (.t 50) (.c .nili)⟩, ⟨(some 52), none, .mv (.t 51) false⟩, ⟨(some 53), (some (52, true)), .mv (.t 9) false⟩, ⟨(some 54), (some (52, true)), .bin .eql .ifc (.t 53) (.c .nili)⟩, ⟨(some 55), none, .pick (.t 52) (.t 54) (.c (.bool false))⟩, ⟨(some 56), none, .mv (.t 55) false⟩, ⟨(some 57), (some (56, true)), .mv (.t 11) false⟩, ⟨(some 58), (some (56, true)), .bin .eql .ifc (.t 57) (.c .nili)⟩, ⟨(some 59), none, .pick (.t 56) (.t 58) (.c (.bool false))⟩, ⟨(some 60), none, .mv (.t 59) false⟩, ⟨(some 61), (some (60, true)), .mv (.t 6) false⟩, ⟨(some 62), (some (60, true)), .mv (.t 0) false⟩, ⟨(some 63), (some (60, true)), .conv (.toInt .i64) (.t 62)⟩, ⟨(some 64), (some (60, true)), .bin .eql .no (.t 61) (.t 63)⟩, ⟨(some 65), none, .pick (.t 60) (.t 64) (.c (.bool false))⟩, ⟨(some 66), none, .mv (.t 65) false⟩, ⟨(some 67), (some (66, true)), .mv (.t 8) false⟩, ⟨(some 68), (some (66, true)), .mv (.t 0) false⟩, ⟨(some 69), (some (66, true)), .conv (.toInt .i64) (.t 68)⟩, ⟨(some 70), (some (66, true)), .bin .eql .no (.t 67) (.t 69)⟩, ⟨(some 71), none, .pick (.t 66) (.t 70) (.c (.bool false))⟩, ⟨(some 72), none, .mv (.t 71) false⟩, ⟨(some 73), (some (72, true)), .mv (.t 10) false⟩, ⟨(some 74), (some (72, true)), .mv (.t 0) false⟩, ⟨(some 75), (some (72, true)), .conv (.toInt .i64) (.t 74)⟩, ⟨(some 76), (some (72, true)), .un .neg (.t 75)⟩, ⟨(some 77), (some (72, true)), .bin .eql .no (.t 73) (.t 76)⟩, ⟨(some 78), none, .pick (.t 72) (.t 77) (.c (.bool false))⟩, ⟨(some 4), none, .mv (.t 78) false⟩]) .ret))))))))⟩
theorem ok_c_wattlelaw04_AnbWhole : chkFn Tryz.prog 5 c_wattlelaw04_AnbWhole = true := chkFn_of Tryz.func5 (by kernel_rfl)
def s_wattlelaw04_AnbWhole (M : Mach) (a0 a1 : V) (σ : Objs) : Ro :=
  bd (M.call 9 [] σ) fun p0 =>
  bd (pu (evUn .not p0.1.nogr)) fun x1 =>
  br x1.nogr (
  bd (oneK false (.bool false)) (endK σ.length p0.2)) (
  bd (pu (evConv p0.2 (.toInt .i64) a0.nogr.nogr)) fun x2 =>
  bd (M.call 12 [x2.nogr] p0.2) fun p3 =>
  bd (M.call 15 [p3.1.nogr.nogr.nogr] p3.2) fun p4 =>
  bd (pu (evExtr 0 p4.1.nogr.nogr)) fun x5 =>
  bd (pu (evExtr 1 p4.1.nogr.nogr)) fun x6 =>
  bd (pu (evBin .add .no (.str [43]) p3.1.nogr.nogr.nogr)) fun x7 =>
  bd (M.call 15 [x7.nogr] p4.2) fun p8 =>
  bd (pu (evExtr 0 p8.1.nogr.nogr)) fun x9 =>
  bd (pu (evExtr 1 p8.1.nogr.nogr)) fun x10 =>
  bd (pu (evBin .and .no a1.nogr.nogr (.int .u8 3))) fun x11 =>
  bd (pu (evBin .add .no (.int .u8 1) x11.nogr)) fun x12 =>
  bd (pu (evCutS (.str [45, 48, 48, 48]) none (some x12.nogr))) fun x13 =>
  bd (pu (evBin .add .no x13.nogr p3.1.nogr.nogr.nogr)) fun x14 =>
  bd (M.call 15 [x14.nogr] p8.2) fun p15 =>
  bd (pu (evExtr 0 p15.1.nogr.nogr)) fun x16 =>
  bd (pu (evExtr 1 p15.1.nogr.nogr)) fun x17 =>
  bd (pu (evBin .gtr .no a0.nogr.nogr (.int .u32 2147483647))) fun x18 =>
  br x18.nogr (
  bd (M.call 16 [x6.nogr.nogr.nogr, (.int .i64 3)] p15.2) fun p19 =>
  bd (gdv p19.1.nogr true (some x10.nogr.nogr)) fun x20 =>
  bd (gdp p19.1.nogr true (M.call 16 [x20.nogr, (.int .i64 3)] p19.2) p19.2) fun p21 =>
  bd (pu (pickV p19.1.nogr.nogr p21.1.nogr (.bool false))) fun x22 =>
  bd (gdv x22.nogr true (some x17.nogr.nogr)) fun x23 =>
  bd (gdp x22.nogr true (M.call 16 [x23.nogr, (.int .i64 3)] p21.2) p21.2) fun p24 =>
  bd (pu (pickV x22.nogr.nogr p24.1.nogr (.bool false))) fun x25 =>
  bd (oneK false x25.nogr) (endK σ.length p24.2)) (
  bd (pu (evBin .eql .ifc x6.nogr.nogr.nogr .nili)) fun x26 =>
  bd (gdv x26.nogr true (some x10.nogr.nogr)) fun x27 =>
  bd (gdv x26.nogr true (pu (evBin .eql .ifc x27.nogr .nili))) fun x28 =>
  bd (pu (pickV x26.nogr.nogr x28.nogr (.bool false))) fun x29 =>
  bd (gdv x29.nogr true (some x17.nogr.nogr)) fun x30 =>
  bd (gdv x29.nogr true (pu (evBin .eql .ifc x30.nogr .nili))) fun x31 =>
  bd (pu (pickV x29.nogr.nogr x31.nogr (.bool false))) fun x32 =>
  bd (gdv x32.nogr true (some x5.nogr.nogr)) fun x33 =>
  bd (gdv x32.nogr true (some a0.nogr)) fun x34 =>
  bd (gdv x32.nogr true (pu (evConv p15.2 (.toInt .i64) x34.nogr))) fun x35 =>
  bd (gdv x32.nogr true (pu (evBin .eql .no x33.nogr x35.nogr))) fun x36 =>
  bd (pu (pickV x32.nogr.nogr x36.nogr (.bool false))) fun x37 =>
  bd (gdv x37.nogr true (some x9.nogr.nogr)) fun x38 =>
  bd (gdv x37.nogr true (some a0.nogr)) fun x39 =>
  bd (gdv x37.nogr true (pu (evConv p15.2 (.toInt .i64) x39.nogr))) fun x40 =>
  bd (gdv x37.nogr true (pu (evBin .eql .no x38.nogr x40.nogr))) fun x41 =>
  bd (pu (pickV x37.nogr.nogr x41.nogr (.bool false))) fun x42 =>
  bd (gdv x42.nogr true (some x16.nogr.nogr)) fun x43 =>
  bd (gdv x42.nogr true (some a0.nogr)) fun x44 =>
  bd (gdv x42.nogr true (pu (evConv p15.2 (.toInt .i64) x44.nogr))) fun x45 =>
  bd (gdv x42.nogr true (pu (evUn .neg x45.nogr))) fun x46 =>
  bd (gdv x42.nogr true (pu (evBin .eql .no x43.nogr x46.nogr))) fun x47 =>
  bd (pu (pickV x42.nogr.nogr x47.nogr (.bool false))) fun x48 =>
  bd (oneK false x48.nogr) (endK σ.length p15.2)))
theorem k_wattlelaw04_AnbWhole (M : Mach) (a0 a1 : V) (σ : Objs) : fnK M c_wattlelaw04_AnbWhole [a0, a1] σ = s_wattlelaw04_AnbWhole M a0 a1 σ := by kernel_rfl
def c_wattlelaw04_AnbReads : Ev.Fn := ⟨61, [.tmp 2], false, false, (.seq (.ops 0 [⟨(some 2), none, .mv (.c (.bool false)) false⟩]) (.seq (.seq (.ops 1 [⟨(some 12), none, .call 9 []⟩, ⟨(some 13), none, .un .not (.t 12)⟩]) (.cond (.t 13) (.seq (.ops 2 [⟨(some 2), none, .mv (.c (.bool false)) false⟩]) .ret) .skip)) (.seq (.seq (.ops 3 [⟨(some 14), none, .mv (.t 0) false⟩, ⟨(some 15), none, .len (.t 14)⟩, ⟨(some 16), none, .bin .gtr .no (.t 15) (.c (.int .i64 500))⟩]) (.cond (.t 16) (.seq (.ops 4 [⟨(some 2), none, .mv (.c (.bool true)) false⟩]) .ret) .skip)) (.seq (.ops 5 [⟨(some 17), none, .mv (.t 0) true⟩, ⟨(some 18), none, .call 14 [(.t 17)]⟩, ⟨(some 3), none, .mv (.t 18) true⟩]) (.seq (.ops 6 [⟨(some 20), none, .mv (.t 3) false⟩, ⟨(some 21), none, .call 13 [(.t 20)]⟩, ⟨(some 19), none, .mv (.t 21) false⟩, ⟨(some 22), none, .extr (.t 19) 0⟩, ⟨(some 23), none, .extr (.t 19) 1⟩, ⟨(some 24), none, .extr (.t 19) 2⟩, ⟨(some 25), none, .extr (.t 19) 3⟩, ⟨(some 4), none, .mv (.t 22) false⟩, ⟨(some 5), none, .mv (.t 23) false⟩, ⟨(some 6), none, .mv (.t 24) false⟩, ⟨(some 7), none, .mv (.t 25) false⟩]) (.seq (.ops 7 [⟨(some 27), none, .mv (.t 3) true⟩, ⟨(some 28), none, .call 17 [(.t 27)]⟩, ⟨(some 26), none, .mv (.t 28) false⟩, ⟨(some 29), none, .extr (.t 26) 0⟩, ⟨(some 30), none, .extr (.t 26) 1⟩, ⟨(some 31), none, .extr (.t 26) 2⟩, ⟨(some 32), none, .extr (.t 26) 3⟩, ⟨(some 8), none, .mv (.t 29) false⟩, ⟨(some 9), none, .mv (.t 30) false⟩, ⟨(some 10), none, .mv (.t 31) false⟩, ⟨(some 11), none, .mv (.t 32) false⟩]) (.seq (.ops 8 [⟨(some 33), none, .mv (.t 4) false⟩, ⟨(some 34), none, .mv (.t 8) false⟩, ⟨(some 35), none, .bin .eql .no (.t 33) (.t 34)⟩, ⟨(some 36), none, .mv (.t 35) false⟩, ⟨(some 37), (some (36, true)), .mv (.t 5) false⟩, ⟨(some 38), (some (36, true)), .mv (.t 9) false⟩, ⟨(some 39), (some (36, true)), .bin .eql .no (.t 37) (.t 38)⟩, ⟨(some 40), none, .pick (.t 36) (.t 39) (.c (.bool false))⟩, ⟨(some 41), none, .mv (.t 40) false⟩, ⟨(some 42), (some (41, true)), .mv (.t 6) false⟩, ⟨(some 43), (some (41, true)), .mv (.t 10) false⟩, ⟨(some 44), (some (41, true)), .bin .eql .no (.t 42) (.t 43)⟩, ⟨(some 45), none, .pick (.t 41) (.t 44) (.c (.bool false))⟩, ⟨(some 46), none, .mv (.t 45) false⟩, ⟨(some 47), (some (46, true)), .mv (.t 7) false⟩, ⟨(some 48), (some (46, true)), .call 18 [(.t 47)]⟩, ⟨(some 49), (some (46, true)), .mv (.t 11) false⟩, ⟨(some 50), (some (46, true)), .bin .eql .no (.t 48) (.t 49)⟩, ⟨(some 51), none, .pick (.t 46) (.t 50) (.c (.bool false))⟩, ⟨(some 52), none, .mv (.t 51) false⟩, ⟨(some 53), (some (52, true)), .mv (.t 7) false⟩, ⟨(some 54), (some (52, true)), .bin .eql .ifc (.t 53) (.c .nili)⟩, ⟨(some 55), (some (52, true)), .mv (.t 54) false⟩, ⟨(some 56), (some (55, false)), .mv (.t 7) false⟩, ⟨(some 57), (some (55, false)), .call 19 [(.t 56)]⟩, ⟨(some 58), (some (55, false)), .bin .eql .no (.t 57) (.c (.int .i64 0))⟩, ⟨(some 59), (some (52, true)), .pick (.t 55) (.c (.bool true)) (.t 58)⟩, ⟨(some 60), none, .pick (.t 52) (.t 59) (.c (.bool false))⟩, ⟨(some 2), none, .mv (.t 60) false⟩]) .ret)))))))⟩
theorem ok_c_wattlelaw04_AnbReads : chkFn Tryz.prog 6 c_wattlelaw04_AnbReads = true := chkFn_of Tryz.func6 (by kernel_rfl)
def s_wattlelaw04_AnbReads (M : Mach) (a0 : V) (σ : Objs) : Ro :=
  bd (M.call 9 [] σ) fun p0 =>
  bd (pu (evUn .not p0.1.nogr)) fun x1 =>
  br x1.nogr (
  bd (oneK false (.bool false)) (endK σ.length p0.2)) (
  bd (pu (evLen a0.nogr.nogr)) fun x2 =>
  bd (pu (evBin .gtr .no x2.nogr (.int .i64 500))) fun x3 =>
  br x3.nogr (
  bd (oneK false (.bool true)) (endK σ.length p0.2)) (
  bd (M.call 14 [a0.nogr] p0.2) fun p4 =>
  bd (M.call 13 [p4.1.nogr.nogr] p4.2) fun p5 =>
  bd (pu (evExtr 0 p5.1.nogr.nogr)) fun x6 =>
  bd (pu (evExtr 1 p5.1.nogr.nogr)) fun x7 =>
  bd (pu (evExtr 2 p5.1.nogr.nogr)) fun x8 =>
  bd (pu (evExtr 3 p5.1.nogr.nogr)) fun x9 =>
  bd (M.call 17 [p4.1.nogr] p5.2) fun p10 =>
  bd (pu (evExtr 0 p10.1.nogr.nogr)) fun x11 =>
  bd (pu (evExtr 1 p10.1.nogr.nogr)) fun x12 =>
  bd (pu (evExtr 2 p10.1.nogr.nogr)) fun x13 =>
  bd (pu (evExtr 3 p10.1.nogr.nogr)) fun x14 =>
  bd (pu (evBin .eql .no x6.nogr.nogr.nogr x11.nogr.nogr.nogr)) fun x15 =>
  bd (gdv x15.nogr true (some x7.nogr.nogr)) fun x16 =>
  bd (gdv x15.nogr true (some x12.nogr.nogr)) fun x17 =>
  bd (gdv x15.nogr true (pu (evBin .eql .no x16.nogr x17.nogr))) fun x18 =>
  bd (pu (pickV x15.nogr.nogr x18.nogr (.bool false))) fun x19 =>
  bd (gdv x19.nogr true (some x8.nogr.nogr)) fun x20 =>
  bd (gdv x19.nogr true (some x13.nogr.nogr)) fun x21 =>
  bd (gdv x19.nogr true (pu (evBin .eql .no x20.nogr x21.nogr))) fun x22 =>
  bd (pu (pickV x19.nogr.nogr x22.nogr (.bool false))) fun x23 =>
  bd (gdv x23.nogr true (some x9.nogr.nogr)) fun x24 =>
  bd (gdp x23.nogr true (M.call 18 [x24.nogr] p10.2) p10.2) fun p25 =>
  bd (gdv x23.nogr true (some x14.nogr.nogr)) fun x26 =>
  bd (gdv x23.nogr true (pu (evBin .eql .no p25.1.nogr x26.nogr))) fun x27 =>
  bd (pu (pickV x23.nogr.nogr x27.nogr (.bool false))) fun x28 =>
  bd (gdv x28.nogr true (some x9.nogr.nogr)) fun x29 =>
  bd (gdv x28.nogr true (pu (evBin .eql .ifc x29.nogr .nili))) fun x30 =>
  bd (gdv x28.nogr true (some x30.nogr)) fun x31 =>
  bd (gdv x31 false (some x9.nogr.nogr)) fun x32 =>
  bd (gdp x31 false (M.call 19 [x32.nogr] p25.2) p25.2) fun p33 =>
  bd (gdv x31 false (pu (evBin .eql .no p33.1.nogr (.int .i64 0)))) fun x34 =>
  bd (gdv x28.nogr true (pu (pickV x31.nogr (.bool true) x34.nogr))) fun x35 =>
  bd (pu (pickV x28.nogr.nogr x35.nogr (.bool false))) fun x36 =>
  bd (oneK false x36.nogr) (endK σ.length p33.2)))
theorem k_wattlelaw04_AnbReads (M : Mach) (a0 : V) (σ : Objs) : fnK M c_wattlelaw04_AnbReads [a0] σ = s_wattlelaw04_AnbReads M a0 σ := by kernel_rfl
def c_wattlelaw04_AnbWholes : Ev.Fn := ⟨40, [.tmp 2], false, false, (.seq (.ops 0 [⟨(some 2), none, .mv (.c (.bool false)) false⟩]) (.seq (.seq (.ops 1 [⟨(some 7), none, .call 9 []⟩, ⟨(some 8), none, .un .not (.t 7)⟩]) (.cond (.t 8) (.seq (.ops 2 [⟨(some 2), none, .mv (.c (.bool false)) false⟩]) .ret) .skip)) (.seq (.seq (.ops 3 [⟨(some 9), none, .mv (.t 0) false⟩, ⟨(some 10), none, .lenS (.t 9)⟩, ⟨(some 11), none, .bin .gtr .no (.t 10) (.c (.int .i64 500))⟩]) (.cond (.t 11) (.seq (.ops 4 [⟨(some 2), none, .mv (.c (.bool true)) false⟩]) .ret) .skip)) (.seq (.ops 5 [⟨(some 13), none, .mv (.t 0) false⟩, ⟨(some 14), none, .call 15 [(.t 13)]⟩, ⟨(some 12), none, .mv (.t 14) false⟩, ⟨(some 15), none, .extr (.t 12) 0⟩, ⟨(some 16), none, .extr (.t 12) 1⟩, ⟨(some 3), none, .mv (.t 15) false⟩, ⟨(some 4), none, .mv (.t 16) false⟩]) (.seq (.ops 6 [⟨(some 18), none, .mv (.t 0) false⟩, ⟨(some 19), none, .call 20 [(.t 18)]⟩, ⟨(some 17), none, .mv (.t 19) false⟩, ⟨(some 20), none, .extr (.t 17) 0⟩, ⟨(some 21), none, .extr (.t 17) 1⟩, ⟨(some 5), none, .mv (.t 20) false⟩, ⟨(some 6), none, .mv (.t 21) false⟩]) (.seq (.ops 7 [⟨(some 22), none, .mv (.t 3) false⟩, ⟨(some 23), none, .mv (.t 5) false⟩, ⟨(some 24), none, .bin .eql .no (.t 22) (.t 23)⟩, ⟨(some 25), none, .mv (.t 24) false⟩, ⟨(some 26), (some (25, true)), .mv (.t 4) false⟩, ⟨(some 27), (some (25, true)), .call 18 [(.t 26)]⟩, ⟨(some 28), (some (25, true)), .mv (.t 6) false⟩, ⟨(some 29), (some (25, true)), .bin .eql .no (.t 27) (.t 28)⟩, ⟨(some 30), none, .pick (.t 25) (.t 29) (.c (.bool false))⟩, ⟨(some 31), none, .mv (.t 30) false⟩, ⟨(some 32), (some (31, true)), .mv (.t 4) false⟩, ⟨(some 33), (some (31, true)), .bin .eql .ifc (.t 32) (.c .nili)⟩, ⟨(some 34), (some (31, true)), .mv (.t 33) false⟩, ⟨(some 35), (some (34, false)), .mv (.t 4) false⟩, ⟨(some 36), (some (34, false)), .call 19 [(.t 35)]⟩, ⟨(some 37), (some (34, false)), .bin .eql .no (.t 36) (.c (.int .i64 0))⟩, ⟨(some 38), (some (31, true)), .pick (.t 34) (.c (.bool true)) (.t 37)⟩, ⟨(some 39), none, .pick (.t 31) (.t 38) (.c (.bool false))⟩, ⟨(some 2), none, .mv (.t 39) false⟩]) .ret))))))⟩
theorem ok_c_wattlelaw04_AnbWholes : chkFn Tryz.prog 7 c_wattlelaw04_AnbWholes = true := chkFn_of Tryz.func7 (by kernel_rfl)
def s_wattlelaw04_AnbWholes (M : Mach) (a0 : V) (σ : Objs) : Ro :=
  bd (M.call 9 [] σ) fun p0 =>
  bd (pu (evUn .not p0.1.nogr)) fun x1 =>
  br x1.nogr (
  bd (oneK false (.bool false)) (endK σ.length p0.2)) (
  bd (pu (evLenS a0.nogr.nogr)) fun x2 =>
  bd (pu (evBin .gtr .no x2.nogr (.int .i64 500))) fun x3 =>
  br x3.nogr (
  bd (oneK false (.bool true)) (endK σ.length p0.2)) (
  bd (M.call 15 [a0.nogr.nogr] p0.2) fun p4 =>
  bd (pu (evExtr 0 p4.1.nogr.nogr)) fun x5 =>
  bd (pu (evExtr 1 p4.1.nogr.nogr)) fun x6 =>
  bd (M.call 20 [a0.nogr.nogr] p4.2) fun p7 =>
  bd (pu (evExtr 0 p7.1.nogr.nogr)) fun x8 =>
  bd (pu (evExtr 1 p7.1.nogr.nogr)) fun x9 =>
  bd (pu (evBin .eql .no x5.nogr.nogr.nogr x8.nogr.nogr.nogr)) fun x10 =>
  bd (gdv x10.nogr true (some x6.nogr.nogr)) fun x11 =>
  bd (gdp x10.nogr true (M.call 18 [x11.nogr] p7.2) p7.2) fun p12 =>
  bd (gdv x10.nogr true (some x9.nogr.nogr)) fun x13 =>
  bd (gdv x10.nogr true (pu (evBin .eql .no p12.1.nogr x13.nogr))) fun x14 =>
  bd (pu (pickV x10.nogr.nogr x14.nogr (.bool false))) fun x15 =>
  bd (gdv x15.nogr true (some x6.nogr.nogr)) fun x16 =>
  bd (gdv x15.nogr true (pu (evBin .eql .ifc x16.nogr .nili))) fun x17 =>
  bd (gdv x15.nogr true (some x17.nogr)) fun x18 =>
  bd (gdv x18 false (some x6.nogr.nogr)) fun x19 =>
  bd (gdp x18 false (M.call 19 [x19.nogr] p12.2) p12.2) fun p20 =>
  bd (gdv x18 false (pu (evBin .eql .no p20.1.nogr (.int .i64 0)))) fun x21 =>
  bd (gdv x15.nogr true (pu (pickV x18.nogr (.bool true) x21.nogr))) fun x22 =>
  bd (pu (pickV x15.nogr.nogr x22.nogr (.bool false))) fun x23 =>
  bd (oneK false x23.nogr) (endK σ.length p20.2)))
theorem k_wattlelaw04_AnbWholes (M : Mach) (a0 : V) (σ : Objs) : fnK M c_wattlelaw04_AnbWholes [a0] σ = s_wattlelaw04_AnbWholes M a0 σ := by kernel_rfl
def c_wattlelaw04_AnbTexts : Ev.Fn := ⟨79, [.tmp 4], false, false, (.seq (.ops 0 [⟨(some 4), none, .mv (.c (.bool false)) false⟩]) (.seq (.seq (.ops 1 [⟨(some 11), none, .call 9 []⟩, ⟨(some 12), none, .un .not (.t 11)⟩]) (.cond (.t 12) (.seq (.ops 2 [⟨(some 4), none, .mv (.c (.bool false)) false⟩]) .ret) .skip)) (.seq (.seq (.ops 3 [⟨(some 13), none, .mv (.t 0) false⟩, ⟨(some 14), none, .bin .lss .no (.t 13) (.c (.int .i64 (-1099511627776)))⟩, ⟨(some 15), none, .mv (.t 14) false⟩, ⟨(some 16), (some (15, false)), .mv (.t 0) false⟩, ⟨(some 17), (some (15, false)), .bin .gtr .no (.t 16) (.c (.int .i64 1099511627776))⟩, ⟨(some 18), none, .pick (.t 15) (.c (.bool true)) (.t 17)⟩, ⟨(some 19), none, .mv (.t 18) false⟩, ⟨(some 20), (some (19, false)), .mv (.t 1) false⟩, ⟨(some 21), (some (19, false)), .bin .lss .no (.t 20) (.c (.int .i64 (-1099511627776)))⟩, ⟨(some 22), none, .pick (.t 19) (.c (.bool true)) (.t 21)⟩, ⟨(some 23), none, .mv (.t 22) false⟩, ⟨(some 24), (some (23, false)), .mv (.t 1) false⟩, ⟨(some 25), (some (23, false)), .bin .gtr .no (.t 24) (.c (.int .i64 1099511627776))⟩, ⟨(some 26), none, .pick (.t 23) (.c (.bool true)) (.t 25)⟩]) (.cond (.t 26) (.seq (.ops 4 [⟨(some 4), none, .mv (.c (.bool true)) false⟩]) .ret) .skip)) (.seq (.ops 5 [⟨(some 27), none, .mv (.t 0) false⟩, ⟨(some 28), none, .mv (.t 1) false⟩, ⟨(some 29), none, .call 21 [(.t 27), (.t 28)]⟩, ⟨(some 5), none, .mv (.t 29) false⟩]) (.seq (.seq (.ops 6 [⟨(some 30), none, .mv (.t 5) false⟩, ⟨(some 31), none, .mv (.t 0) false⟩, ⟨(some 32), none, .mv (.t 1) false⟩, ⟨(some 33), none, .call 22 [(.t 31), (.t 32)]⟩, ⟨(some 34), none, .bin .neq .no (.t 30) (.t 33)⟩]) (.cond (.t 34) (.seq (.ops 7 [⟨(some 4), none, .mv (.c (.bool false)) false⟩]) .ret) .skip)) (.seq (.ops 8 [⟨(some 35), none, .mv (.t 5) false⟩, ⟨(some 36), none, .conv .strBytes (.t 35)⟩, ⟨(some 37), none, .call 14 [(.t 36)]⟩, ⟨(some 6), none, .mv (.t 37) true⟩]) (.seq (.ops 9 [⟨(some 39), none, .mv (.t 6) false⟩, ⟨(some 40), none, .call 13 [(.t 39)]⟩, ⟨(some 38), none, .mv (.t 40) false⟩, ⟨(some 41), none, .extr (.t 38) 0⟩, ⟨(some 42), none, .extr (.t 38) 1⟩, ⟨(some 43), none, .extr (.t 38) 2⟩, ⟨(some 44), none, .extr (.t 38) 3⟩, ⟨(some 7), none, .mv (.t 41) false⟩, ⟨(some 8), none, .mv (.t 42) false⟩, ⟨(some 9), none, .mv (.t 43) false⟩, ⟨(some 10), none, .mv (.t 44) false⟩]) (.seq (.seq (.ops 10 [⟨(some 45), none, .mv (.t 0) false⟩, ⟨(some 46), none, .mv (.t 0) false⟩, ⟨(some 47), none, .un .neg (.t 46)⟩, ⟨(some 48), none, .mm true [(.t 45), (.t 47)]⟩, ⟨(some 49), none, .bin .gtr .no (.t 48) (.c (.int .i64 2147483647))⟩, ⟨(some 50), none, .mv (.t 49) false⟩, ⟨(some 51), (some (50, false)), .mv (.t 1) false⟩, ⟨(some 52), (some (50, false)), .mv (.t 1) false⟩, ⟨(some 53), (some (50, false)), .un .neg (.t 52)⟩, ⟨(some 54), (some (50, false)), .mm true [(.t 51), (.t 53)]⟩, ⟨(some 55), (some (50, false)), .bin .gtr .no (.t 54) (.c (.int .i64 2147483647))⟩, ⟨(some 56), none, .pick (.t 50) (.c (.bool true)) (.t 55)⟩]) (.cond (.t 56) (.seq (.ops 11 [⟨(some 57), none, .mv (.t 10) false⟩, ⟨(some 58), none, .call 18 [(.t 57)]⟩, ⟨(some 59), none, .bin .eql .no (.t 58) (.c (.int .i64 3))⟩, ⟨(some 4), none, .mv (.t 59) false⟩]) .ret) .skip)) (.seq (.ops 12 [⟨(some 60), none, .mv (.t 10) false⟩, ⟨(some 61), none, .bin .eql .ifc (.t 60) (.c .nili)⟩, ⟨(some 62), none, .mv (.t 61) false⟩, ⟨(some 63), (some (62, true)), .mv (.t 7) false⟩, ⟨(some 64), (some (62, true)), .mv (.t 0) false⟩, ⟨(some 65), (some (62, true)), .bin .eql .no (.t 63) (.t 64)⟩, ⟨(some 66), none, .pick (.t 62) (.t 65) (.c (.bool false))⟩, ⟨(some 67), none, .mv (.t 66) false⟩, ⟨(some 68), (some (67, true)), .mv (.t 8) false⟩, ⟨(some 69), (some (67, true)), .mv (.t 1) false⟩, ⟨(some 70), (some (67, true)), .bin .eql .no (.t 68) (.t 69)⟩, ⟨(some 71), none, .pick (.t 67) (.t 70) (.c (.bool false))⟩, ⟨(some 72), none, .mv (.t 71) false⟩, ⟨(some 73), (some (72, true)), .mv (.t 9) false⟩, ⟨(some 74), (some (72, true)), .mv (.t 6) true⟩, ⟨(some 75), (some (72, true)), .len (.t 74)⟩, ⟨(some 76), (some (72, true)), .bin .sub .no (.t 75) (.c (.int .i64 1))⟩, ⟨(some 77), (some (72, true)), .bin .eql .no (.t 73) (.t 76)⟩, ⟨(some 78), none, .pick (.t 72) (.t 77) (.c (.bool false))⟩, ⟨(some 4), none, .mv (.t 78) false⟩]) .ret)))))))))⟩
theorem ok_c_wattlelaw04_AnbTexts : chkFn Tryz.prog 8 c_wattlelaw04_AnbTexts = true := chkFn_of Tryz.func8 (by kernel_rfl)
def s_wattlelaw04_AnbTexts (M : Mach) (a0 a1 : V) (σ : Objs) : Ro :=
  bd (M.call 9 [] σ) fun p0 =>
  bd (pu (evUn .not p0.1.nogr)) fun x1 =>
  br x1.nogr (
  bd (oneK false (.bool false)) (endK σ.length p0.2)) (
  bd (pu (evBin .lss .no a0.nogr.nogr (.int .i64 (-1099511627776)))) fun x2 =>
  bd (gdv x2.nogr false (some a0.nogr)) fun x3 =>
  bd (gdv x2.nogr false (pu (evBin .gtr .no x3.nogr (.int .i64 1099511627776)))) fun x4 =>
  bd (pu (pickV x2.nogr.nogr (.bool true) x4.nogr)) fun x5 =>
  bd (gdv x5.nogr false (some a1.nogr)) fun x6 =>
  bd (gdv x5.nogr false (pu (evBin .lss .no x6.nogr (.int .i64 (-1099511627776))))) fun x7 =>
  bd (pu (pickV x5.nogr.nogr (.bool true) x7.nogr)) fun x8 =>
  bd (gdv x8.nogr false (some a1.nogr)) fun x9 =>
  bd (gdv x8.nogr false (pu (evBin .gtr .no x9.nogr (.int .i64 1099511627776)))) fun x10 =>
  bd (pu (pickV x8.nogr.nogr (.bool true) x10.nogr)) fun x11 =>
  br x11.nogr (
  bd (oneK false (.bool true)) (endK σ.length p0.2)) (
  bd (M.call 21 [a0.nogr.nogr, a1.nogr.nogr] p0.2) fun p12 =>
  bd (M.call 22 [a0.nogr.nogr, a1.nogr.nogr] p12.2) fun p13 =>
  bd (pu (evBin .neq .no p12.1.nogr.nogr.nogr p13.1.nogr)) fun x14 =>
  br x14.nogr (
  bd (oneK false (.bool false)) (endK σ.length p13.2)) (
  bd (evConv p13.2 .strBytes p12.1.nogr.nogr.nogr) fun x15 =>
  bd (M.call 14 [x15.nogr] p13.2) fun p16 =>
  bd (M.call 13 [p16.1.nogr.nogr] p16.2) fun p17 =>
  bd (pu (evExtr 0 p17.1.nogr.nogr)) fun x18 =>
  bd (pu (evExtr 1 p17.1.nogr.nogr)) fun x19 =>
  bd (pu (evExtr 2 p17.1.nogr.nogr)) fun x20 =>
  bd (pu (evExtr 3 p17.1.nogr.nogr)) fun x21 =>
  bd (pu (evUn .neg a0.nogr.nogr)) fun x22 =>
  bd (pu (mmV true [a0.nogr.nogr, x22.nogr])) fun x23 =>
  bd (pu (evBin .gtr .no x23.nogr (.int .i64 2147483647))) fun x24 =>
  bd (gdv x24.nogr false (some a1.nogr)) fun x25 =>
  bd (gdv x24.nogr false (some a1.nogr)) fun x26 =>
  bd (gdv x24.nogr false (pu (evUn .neg x26.nogr))) fun x27 =>
  bd (gdv x24.nogr false (pu (mmV true [x25.nogr, x27.nogr]))) fun x28 =>
  bd (gdv x24.nogr false (pu (evBin .gtr .no x28.nogr (.int .i64 2147483647)))) fun x29 =>
  bd (pu (pickV x24.nogr.nogr (.bool true) x29.nogr)) fun x30 =>
  br x30.nogr (
  bd (M.call 18 [x21.nogr.nogr.nogr] p17.2) fun p31 =>
  bd (pu (evBin .eql .no p31.1.nogr (.int .i64 3))) fun x32 =>
  bd (oneK false x32.nogr) (endK σ.length p31.2)) (
  bd (pu (evBin .eql .ifc x21.nogr.nogr.nogr .nili)) fun x33 =>
  bd (gdv x33.nogr true (some x18.nogr.nogr)) fun x34 =>
  bd (gdv x33.nogr true (some a0.nogr)) fun x35 =>
  bd (gdv x33.nogr true (pu (evBin .eql .no x34.nogr x35.nogr))) fun x36 =>
  bd (pu (pickV x33.nogr.nogr x36.nogr (.bool false))) fun x37 =>
  bd (gdv x37.nogr true (some x19.nogr.nogr)) fun x38 =>
  bd (gdv x37.nogr true (some a1.nogr)) fun x39 =>
  bd (gdv x37.nogr true (pu (evBin .eql .no x38.nogr x39.nogr))) fun x40 =>
  bd (pu (pickV x37.nogr.nogr x40.nogr (.bool false))) fun x41 =>
  bd (gdv x41.nogr true (some x20.nogr.nogr)) fun x42 =>
  gd x41.nogr true (
  bd (gdv x41.nogr true (pu (evLen p16.1.nogr))) fun x43 =>
  bd (gdv x41.nogr true (pu (evBin .sub .no x43.nogr (.int .i64 1)))) fun x44 =>
  bd (gdv x41.nogr true (pu (evBin .eql .no x42.nogr x44.nogr))) fun x45 =>
  bd (pu (pickV x41.nogr.nogr x45.nogr (.bool false))) fun x46 =>
  bd (oneK false x46.nogr) (endK σ.length p17.2)) (
  bd (gdv x41.nogr true (pu (evLen .undef))) fun x47 =>
  bd (gdv x41.nogr true (pu (evBin .sub .no x47.nogr (.int .i64 1)))) fun x48 =>
  bd (gdv x41.nogr true (pu (evBin .eql .no x42.nogr x48.nogr))) fun x49 =>
  bd (pu (pickV x41.nogr.nogr x49.nogr (.bool false))) fun x50 =>
  bd (oneK false x50.nogr) (endK σ.length p17.2))))))
theorem k_wattlelaw04_AnbTexts (M : Mach) (a0 a1 : V) (σ : Objs) : fnK M c_wattlelaw04_AnbTexts [a0, a1] σ = s_wattlelaw04_AnbTexts M a0 a1 σ := by kernel_rfl
def c_wattlelaw04_speaks : Ev.Fn := ⟨41, [.tmp 0], false, false, (.seq (.ops 0 [⟨(some 0), none, .mv (.c (.bool false)) false⟩]) (.seq (.ops 1 [⟨(some 6), none, .buildG false 1 6 (.int .u8 0) [(0, (.c (.int .u8 50))), (1, (.c (.int .u8 110))), (2, (.c (.int .u8 32))), (3, (.c (.int .u8 43))), (4, (.c (.int .u8 32))), (5, (.c (.int .u8 49)))]⟩, ⟨(some 7), none, .mark (.t 6)⟩, ⟨(some 8), none, .call 14 [(.t 7)]⟩, ⟨(some 9), none, .call 13 [(.t 8)]⟩, ⟨(some 5), none, .mv (.t 9) false⟩, ⟨(some 10), none, .extr (.t 5) 0⟩, ⟨(some 11), none, .extr (.t 5) 1⟩, ⟨(some 12), none, .extr (.t 5) 2⟩, ⟨(some 13), none, .extr (.t 5) 3⟩, ⟨(some 1), none, .mv (.t 10) false⟩, ⟨(some 2), none, .mv (.t 11) false⟩, ⟨(some 3), none, .mv (.t 12) false⟩, ⟨(some 4), none, .mv (.t 13) false⟩]) (.seq (.ops 2 [⟨(some 14), none, .mv (.t 4) false⟩, ⟨(some 15), none, .bin .eql .ifc (.t 14) (.c .nili)⟩, ⟨(some 16), none, .mv (.t 15) false⟩, ⟨(some 17), (some (16, true)), .mv (.t 1) false⟩, ⟨(some 18), (some (16, true)), .bin .eql .no (.t 17) (.c (.int .i64 2))⟩, ⟨(some 19), none, .pick (.t 16) (.t 18) (.c (.bool false))⟩, ⟨(some 20), none, .mv (.t 19) false⟩, ⟨(some 21), (some (20, true)), .mv (.t 2) false⟩, ⟨(some 22), (some (20, true)), .bin .eql .no (.t 21) (.c (.int .i64 1))⟩, ⟨(some 23), none, .pick (.t 20) (.t 22) (.c (.bool false))⟩, ⟨(some 24), none, .mv (.t 23) false⟩, ⟨(some 25), (some (24, true)), .mv (.t 3) false⟩, ⟨(some 26), (some (24, true)), .bin .eql .no (.t 25) (.c (.int .i64 5))⟩, ⟨(some 27), none, .pick (.t 24) (.t 26) (.c (.bool false))⟩, ⟨(some 28), none, .mv (.t 27) false⟩, ⟨(some 29), (some (28, true)), .call 10 [(.c (.int .i64 (-1))), (.c (.int .i64 3)), (.c (.int .i64 1))]⟩, ⟨(some 30), none, .pick (.t 28) (.t 29) (.c (.bool false))⟩, ⟨(some 31), none, .mv (.t 30) false⟩, ⟨(some 32), (some (31, true)), .call 10 [(.c (.int .i64 (-1))), (.c (.int .i64 3)), (.c (.int .i64 2))]⟩, ⟨(some 33), none, .pick (.t 31) (.t 32) (.c (.bool false))⟩, ⟨(some 34), none, .mv (.t 33) false⟩, ⟨(some 35), (some (34, true)), .call 10 [(.c (.int .i64 (-1))), (.c (.int .i64 3)), (.c (.int .i64 3))]⟩, ⟨(some 36), none, .pick (.t 34) (.t 35) (.c (.bool false))⟩, ⟨(some 37), none, .mv (.t 36) false⟩, ⟨(some 38), (some (37, true)), .call 10 [(.c (.int .i64 (-1))), (.c (.int .i64 3)), (.c (.int .i64 4))]⟩, ⟨(some 39), (some (37, true)), .un .not (.t 38)⟩, ⟨(some 40), none, .pick (.t 37) (.t 39) (.c (.bool false))⟩, ⟨(some 0), none, .mv (.t 40) false⟩]) .ret)))⟩
theorem ok_c_wattlelaw04_speaks : chkFn Tryz.prog 9 c_wattlelaw04_speaks = true := chkFn_of Tryz.func9 (by kernel_rfl)
def s_wattlelaw04_speaks (M : Mach) (σ : Objs) : Ro :=
  bd (buildGV false 1 6 (.int .u8 0) [(0, (.int .u8 50)), (1, (.int .u8 110)), (2, (.int .u8 32)), (3, (.int .u8 43)), (4, (.int .u8 32)), (5, (.int .u8 49))]) fun x0 =>
  bd (markV x0) fun x1 =>
  bd (M.call 14 [x1.nogr] σ) fun p2 =>
  bd (M.call 13 [p2.1.nogr] p2.2) fun p3 =>
  bd (pu (evExtr 0 p3.1.nogr.nogr)) fun x4 =>
  bd (pu (evExtr 1 p3.1.nogr.nogr)) fun x5 =>
  bd (pu (evExtr 2 p3.1.nogr.nogr)) fun x6 =>
  bd (pu (evExtr 3 p3.1.nogr.nogr)) fun x7 =>
  bd (pu (evBin .eql .ifc x7.nogr.nogr.nogr .nili)) fun x8 =>
  bd (gdv x8.nogr true (some x4.nogr.nogr)) fun x9 =>
  bd (gdv x8.nogr true (pu (evBin .eql .no x9.nogr (.int .i64 2)))) fun x10 =>
  bd (pu (pickV x8.nogr.nogr x10.nogr (.bool false))) fun x11 =>
  bd (gdv x11.nogr true (some x5.nogr.nogr)) fun x12 =>
  bd (gdv x11.nogr true (pu (evBin .eql .no x12.nogr (.int .i64 1)))) fun x13 =>
  bd (pu (pickV x11.nogr.nogr x13.nogr (.bool false))) fun x14 =>
  bd (gdv x14.nogr true (some x6.nogr.nogr)) fun x15 =>
  bd (gdv x14.nogr true (pu (evBin .eql .no x15.nogr (.int .i64 5)))) fun x16 =>
  bd (pu (pickV x14.nogr.nogr x16.nogr (.bool false))) fun x17 =>
  bd (gdp x17.nogr true (M.call 10 [(.int .i64 (-1)), (.int .i64 3), (.int .i64 1)] p3.2) p3.2) fun p18 =>
  bd (pu (pickV x17.nogr.nogr p18.1.nogr (.bool false))) fun x19 =>
  bd (gdp x19.nogr true (M.call 10 [(.int .i64 (-1)), (.int .i64 3), (.int .i64 2)] p18.2) p18.2) fun p20 =>
  bd (pu (pickV x19.nogr.nogr p20.1.nogr (.bool false))) fun x21 =>
  bd (gdp x21.nogr true (M.call 10 [(.int .i64 (-1)), (.int .i64 3), (.int .i64 3)] p20.2) p20.2) fun p22 =>
  bd (pu (pickV x21.nogr.nogr p22.1.nogr (.bool false))) fun x23 =>
  bd (gdp x23.nogr true (M.call 10 [(.int .i64 (-1)), (.int .i64 3), (.int .i64 4)] p22.2) p22.2) fun p24 =>
  bd (gdv x23.nogr true (pu (evUn .not p24.1.nogr))) fun x25 =>
  bd (pu (pickV x23.nogr.nogr x25.nogr (.bool false))) fun x26 =>
  bd (oneK false x26.nogr) (endK σ.length p24.2)
theorem k_wattlelaw04_speaks (M : Mach) (σ : Objs) : fnK M c_wattlelaw04_speaks [] σ = s_wattlelaw04_speaks M σ := by kernel_rfl
def c_anb_Has : Ev.Fn := ⟨37, [.tmp 6], false, false, (.seq (.ops 0 [⟨(some 6), none, .mv (.c (.bool false)) false⟩]) (.seq (.seq (.ops 1 [⟨(some 7), none, .mv (.t 2) false⟩, ⟨(some 8), none, .bin .lss .no (.t 7) (.c (.int .i64 1))⟩]) (.cond (.t 8) (.seq (.ops 2 [⟨(some 6), none, .mv (.c (.bool false)) false⟩]) .ret) .skip)) (.seq (.seq (.ops 3 [⟨(some 9), none, .mv (.t 0) false⟩, ⟨(some 10), none, .bin .eql .no (.t 9) (.c (.int .i64 0))⟩, ⟨(some 11), none, .mv (.t 10) false⟩, ⟨(some 12), (some (11, false)), .mv (.t 2) false⟩, ⟨(some 13), (some (11, false)), .mv (.t 1) false⟩, ⟨(some 14), (some (11, false)), .bin .eql .no (.t 12) (.t 13)⟩, ⟨(some 15), none, .pick (.t 11) (.c (.bool true)) (.t 14)⟩]) (.cond (.t 15) (.seq (.ops 4 [⟨(some 16), none, .mv (.t 2) false⟩, ⟨(some 17), none, .mv (.t 1) false⟩, ⟨(some 18), none, .bin .eql .no (.t 16) (.t 17)⟩, ⟨(some 6), none, .mv (.t 18) false⟩]) .ret) .skip)) (.seq (.seq (.ops 5 [⟨(some 19), none, .mv (.t 2) false⟩, ⟨(some 20), none, .mv (.t 1) false⟩, ⟨(some 21), none, .bin .gtr .no (.t 19) (.t 20)⟩, ⟨(some 22), none, .mv (.t 0) false⟩, ⟨(some 23), none, .bin .gtr .no (.t 22) (.c (.int .i64 0))⟩, ⟨(some 24), none, .bin .neq .bool (.t 21) (.t 23)⟩]) (.cond (.t 24) (.seq (.ops 6 [⟨(some 6), none, .mv (.c (.bool false)) false⟩]) .ret) .skip)) (.seq (.ops 7 [⟨(some 25), none, .mv (.t 2) false⟩, ⟨(some 26), none, .conv (.toInt .u64) (.t 25)⟩, ⟨(some 27), none, .mv (.t 1) false⟩, ⟨(some 28), none, .conv (.toInt .u64) (.t 27)⟩, ⟨(some 29), none, .bin .sub .no (.t 26) (.t 28)⟩, ⟨(some 30), none, .mv (.t 0) false⟩, ⟨(some 31), none, .call 23 [(.t 30)]⟩, ⟨(some 32), none, .bin .mul .no (.t 29) (.t 31)⟩, ⟨(some 33), none, .mv (.t 0) false⟩, ⟨(some 34), none, .call 24 [(.t 33)]⟩, ⟨(some 35), none, .bin .rem .no (.t 32) (.t 34)⟩, ⟨(some 36), none, .bin .eql .no (.t 35) (.c (.int .u64 0))⟩, ⟨(some 6), none, .mv (.t 36) false⟩]) .ret)))))⟩
theorem ok_c_anb_Has : chkFn Tryz.prog 10 c_anb_Has = true := chkFn_of Tryz.func10 (by kernel_rfl)
def s_anb_Has (M : Mach) (a0 a1 a2 : V) (σ : Objs) : Ro :=
  bd (pu (evBin .lss .no a2.nogr.nogr (.int .i64 1))) fun x0 =>
  br x0.nogr (
  bd (oneK false (.bool false)) (endK σ.length σ)) (
  bd (pu (evBin .eql .no a0.nogr.nogr (.int .i64 0))) fun x1 =>
  bd (gdv x1.nogr false (some a2.nogr)) fun x2 =>
  bd (gdv x1.nogr false (some a1.nogr)) fun x3 =>
  bd (gdv x1.nogr false (pu (evBin .eql .no x2.nogr x3.nogr))) fun x4 =>
  bd (pu (pickV x1.nogr.nogr (.bool true) x4.nogr)) fun x5 =>
  br x5.nogr (
  bd (pu (evBin .eql .no a2.nogr.nogr a1.nogr.nogr)) fun x6 =>
  bd (oneK false x6.nogr) (endK σ.length σ)) (
  bd (pu (evBin .gtr .no a2.nogr.nogr a1.nogr.nogr)) fun x7 =>
  bd (pu (evBin .gtr .no a0.nogr.nogr (.int .i64 0))) fun x8 =>
  bd (pu (evBin .neq .bool x7.nogr x8.nogr)) fun x9 =>
  br x9.nogr (
  bd (oneK false (.bool false)) (endK σ.length σ)) (
  bd (pu (evConv σ (.toInt .u64) a2.nogr.nogr)) fun x10 =>
  bd (pu (evConv σ (.toInt .u64) a1.nogr.nogr)) fun x11 =>
  bd (pu (evBin .sub .no x10.nogr x11.nogr)) fun x12 =>
  bd (M.call 23 [a0.nogr.nogr] σ) fun p13 =>
  bd (pu (evBin .mul .no x12.nogr p13.1.nogr)) fun x14 =>
  bd (M.call 24 [a0.nogr.nogr] p13.2) fun p15 =>
  bd (pu (evBin .rem .no x14.nogr p15.1.nogr)) fun x16 =>
  bd (pu (evBin .eql .no x16.nogr (.int .u64 0))) fun x17 =>
  bd (oneK false x17.nogr) (endK σ.length p15.2))))
theorem k_anb_Has (M : Mach) (a0 a1 a2 : V) (σ : Objs) : fnK M c_anb_Has [a0, a1, a2] σ = s_anb_Has M a0 a1 a2 σ := by kernel_rfl
def c_wattleref04_Has : Ev.Fn := ⟨28, [.tmp 6], false, false, (.seq (.ops 0 [⟨(some 6), none, .mv (.c (.bool false)) false⟩]) (.seq (.seq (.ops 1 [⟨(some 7), none, .mv (.t 2) false⟩, ⟨(some 8), none, .bin .lss .no (.t 7) (.c (.int .i64 1))⟩]) (.cond (.t 8) (.seq (.ops 2 [⟨(some 6), none, .mv (.c (.bool false)) false⟩]) .ret) .skip)) (.seq (.seq (.ops 3 [⟨(some 9), none, .mv (.t 0) false⟩, ⟨(some 10), none, .bin .eql .no (.t 9) (.c (.int .i64 0))⟩]) (.cond (.t 10) (.seq (.ops 4 [⟨(some 11), none, .mv (.t 2) false⟩, ⟨(some 12), none, .mv (.t 1) false⟩, ⟨(some 13), none, .bin .eql .no (.t 11) (.t 12)⟩, ⟨(some 6), none, .mv (.t 13) false⟩]) .ret) .skip)) (.seq (.ops 5 [⟨(some 14), none, .mv (.t 2) false⟩, ⟨(some 15), none, .mv (.t 1) false⟩, ⟨(some 16), none, .bin .sub .no (.t 14) (.t 15)⟩, ⟨(some 17), none, .mv (.t 0) false⟩, ⟨(some 18), none, .bin .rem .no (.t 16) (.t 17)⟩, ⟨(some 19), none, .bin .eql .no (.t 18) (.c (.int .i64 0))⟩, ⟨(some 20), none, .mv (.t 19) false⟩, ⟨(some 21), (some (20, true)), .mv (.t 2) false⟩, ⟨(some 22), (some (20, true)), .mv (.t 1) false⟩, ⟨(some 23), (some (20, true)), .bin .sub .no (.t 21) (.t 22)⟩, ⟨(some 24), (some (20, true)), .mv (.t 0) false⟩, ⟨(some 25), (some (20, true)), .bin .quo .no (.t 23) (.t 24)⟩, ⟨(some 26), (some (20, true)), .bin .geq .no (.t 25) (.c (.int .i64 0))⟩, ⟨(some 27), none, .pick (.t 20) (.t 26) (.c (.bool false))⟩, ⟨(some 6), none, .mv (.t 27) false⟩]) .ret))))⟩
theorem ok_c_wattleref04_Has : chkFn Tryz.prog 11 c_wattleref04_Has = true := chkFn_of Tryz.func11 (by kernel_rfl)
def s_wattleref04_Has (M : Mach) (a0 a1 a2 : V) (σ : Objs) : Ro :=
  bd (pu (evBin .lss .no a2.nogr.nogr (.int .i64 1))) fun x0 =>
  br x0.nogr (
  bd (oneK false (.bool false)) (endK σ.length σ)) (
  bd (pu (evBin .eql .no a0.nogr.nogr (.int .i64 0))) fun x1 =>
  br x1.nogr (
  bd (pu (evBin .eql .no a2.nogr.nogr a1.nogr.nogr)) fun x2 =>
  bd (oneK false x2.nogr) (endK σ.length σ)) (
  bd (pu (evBin .sub .no a2.nogr.nogr a1.nogr.nogr)) fun x3 =>
  bd (pu (evBin .rem .no x3.nogr a0.nogr.nogr)) fun x4 =>
  bd (pu (evBin .eql .no x4.nogr (.int .i64 0))) fun x5 =>
  bd (gdv x5.nogr true (some a2.nogr)) fun x6 =>
  bd (gdv x5.nogr true (some a1.nogr)) fun x7 =>
  bd (gdv x5.nogr true (pu (evBin .sub .no x6.nogr x7.nogr))) fun x8 =>
  bd (gdv x5.nogr true (some a0.nogr)) fun x9 =>
  bd (gdv x5.nogr true (pu (evBin .quo .no x8.nogr x9.nogr))) fun x10 =>
  bd (gdv x5.nogr true (pu (evBin .geq .no x10.nogr (.int .i64 0)))) fun x11 =>
  bd (pu (pickV x5.nogr.nogr x11.nogr (.bool false))) fun x12 =>
  bd (oneK false x12.nogr) (endK σ.length σ)))
theorem k_wattleref04_Has (M : Mach) (a0 a1 a2 : V) (σ : Objs) : fnK M c_wattleref04_Has [a0, a1, a2] σ = s_wattleref04_Has M a0 a1 a2 σ := by kernel_rfl
def c_wattlelaw04_digits : Ev.Fn := ⟨17, [.tmp 2], false, false, (.seq (.ops 0 [⟨(some 2), none, .mv (.c (.str [])) false⟩]) (.seq (.ops 1 [⟨(some 3), none, .mv (.c (.str [])) false⟩]) (.block 0 (.loop [0, 3] [2] (.block 1 (.seq (.ops 2 [⟨(some 4), none, .mv (.t 0) false⟩, ⟨(some 5), none, .bin .rem .no (.t 4) (.c (.int .i64 10))⟩, ⟨(some 6), none, .bin .add .no (.c (.int .i64 48)) (.t 5)⟩, ⟨(some 7), none, .conv (.toInt .u8) (.t 6)⟩, ⟨(some 8), none, .buildSl false 1 1 (.int .u8 0) [(0, (.t 7))] false⟩, ⟨(some 9), none, .conv .bytesStr (.t 8)⟩, ⟨(some 10), none, .mv (.t 3) false⟩, ⟨(some 11), none, .bin .add .no (.t 9) (.t 10)⟩, ⟨(some 3), none, .mv (.t 11) false⟩]) (.seq (.ops 3 [⟨(some 12), none, .mv (.t 0) false⟩, ⟨(some 13), none, .bin .quo .no (.t 12) (.c (.int .i64 10))⟩, ⟨(some 0), none, .mv (.t 13) false⟩]) (.seq (.ops 4 [⟨(some 14), none, .mv (.t 0) false⟩, ⟨(some 15), none, .bin .eql .no (.t 14) (.c (.int .i64 0))⟩]) (.cond (.t 15) (.seq (.ops 5 [⟨(some 16), none, .mv (.t 3) false⟩, ⟨(some 2), none, .mv (.t 16) false⟩]) .ret) .skip)))))))))⟩
theorem ok_c_wattlelaw04_digits : chkFn Tryz.prog 12 c_wattlelaw04_digits = true := chkFn_of Tryz.func12 (by kernel_rfl)
def b_wattlelaw04_digits_0 (M : Mach) (n0 : Nat) (n1 : Nat) (r1 : Rk) (z0 z3 : V) (σ : Objs) : Ro :=
  bd (pu (evBin .rem .no z0.nogr.nogr (.int .i64 10))) fun x0 =>
  bd (pu (evBin .add .no (.int .i64 48) x0.nogr)) fun x1 =>
  bd (pu (evConv σ (.toInt .u8) x1.nogr)) fun x2 =>
  bd (buildFV false 1 1 (.int .u8 0) [(0, x2.nogr)]) fun x3 =>
  bd (pu (evConv σ .bytesStr x3.nogr)) fun x4 =>
  bd (pu (evBin .add .no x4.nogr z3.nogr.nogr)) fun x5 =>
  bd (pu (evBin .quo .no z0.nogr.nogr (.int .i64 10))) fun x6 =>
  bd (pu (evBin .eql .no x6.nogr.nogr.nogr (.int .i64 0))) fun x7 =>
  br x7.nogr (
  bd (fz n1 σ fzDepth x5.nogr.nogr.nogr) fun y8 =>
  bd (cutObjs n1 σ) fun s9 =>
  bd (oneK false y8) (endK n0 s9)) (
  bd (fz n1 σ fzDepth x6.nogr) fun y10 =>
  bd (fz n1 σ fzDepth x5.nogr) fun y11 =>
  bd (cutObjs n1 σ) fun s12 => r1 [y10, y11] s12)
def l_wattlelaw04_digits_0 (M : Mach) (n0 : Nat) (n1 : Nat) : Rk := M.fx fun rec vs σ => b_wattlelaw04_digits_0 M n0 n1 rec (vs.getD 0 .undef) (vs.getD 1 .undef) σ
def s_wattlelaw04_digits (M : Mach) (a0 : V) (σ : Objs) : Ro :=
  bd (fz σ.length σ fzDepth a0) fun y13 =>
  bd (fz σ.length σ fzDepth (.str [])) fun y14 =>
  l_wattlelaw04_digits_0 M σ.length σ.length [y13, y14] σ
theorem k_wattlelaw04_digits (M : Mach) (a0 : V) (σ : Objs) : fnK M c_wattlelaw04_digits [a0] σ = s_wattlelaw04_digits M a0 σ := by kernel_rfl
def c_wattleref03_Read : Ev.Fn := ⟨7, [.tmp 2], false, false, (.seq (.ops 0 [⟨(some 2), none, .mv (.c .nils) false⟩]) (.seq (.ops 1 [⟨(some 3), none, .mv (.t 0) true⟩, ⟨(some 4), none, .call 32 [(.t 3)]⟩, ⟨(some 5), none, .call 31 [(.t 4)]⟩, ⟨(some 6), none, .call 30 [(.t 5)]⟩, ⟨(some 2), none, .mv (.t 6) true⟩]) .ret))⟩
theorem ok_c_wattleref03_Read : chkFn Tryz.prog 14 c_wattleref03_Read = true := chkFn_of Tryz.func14 (by kernel_rfl)
def s_wattleref03_Read (M : Mach) (a0 : V) (σ : Objs) : Ro :=
  bd (M.call 32 [a0.nogr] σ) fun p0 =>
  bd (M.call 31 [p0.1.nogr] p0.2) fun p1 =>
  bd (M.call 30 [p1.1.nogr] p1.2) fun p2 =>
  bd (oneK false p2.1) (endK σ.length p2.2)
theorem k_wattleref03_Read (M : Mach) (a0 : V) (σ : Objs) : fnK M c_wattleref03_Read [a0] σ = s_wattleref03_Read M a0 σ := by kernel_rfl
def c_anb_Parse : Ev.Fn := ⟨58, [.tmp 2, .tmp 3, .tmp 4, .tmp 5], false, false, (.seq (.ops 0 [⟨(some 2), none, .mv (.c (.int .i64 0)) false⟩, ⟨(some 3), none, .mv (.c (.int .i64 0)) false⟩, ⟨(some 4), none, .mv (.c (.int .i64 0)) false⟩, ⟨(some 5), none, .mv (.c .nili) false⟩]) (.seq (.ops 1 [⟨(some 9), none, .mv (.t 0) true⟩, ⟨(some 10), none, .build [.nils, (.int .i64 0), .nili] [(0, 1, (.t 9))]⟩, ⟨(some 11), none, .box (.t 10)⟩, ⟨(some 6), none, .mv (.t 11) false⟩]) (.seq (.ops 2 [⟨(some 12), none, .mv (.t 6) false⟩, ⟨(some 13), none, .mv (.t 6) false⟩, ⟨(some 14), none, .call 25 [(.t 13), (.c (.int .i64 0))]⟩, ⟨(some 15), none, .nilc (.t 12)⟩, ⟨(some 16), none, .faddr 1 (.t 15)⟩, ⟨none, none, .store 1 (.t 16) (.t 14) false⟩]) (.seq (.ops 3 [⟨(some 18), none, .mv (.t 6) false⟩, ⟨(some 19), none, .call 26 [(.t 18)]⟩, ⟨(some 17), none, .mv (.t 19) false⟩, ⟨(some 20), none, .extr (.t 17) 0⟩, ⟨(some 21), none, .extr (.t 17) 1⟩, ⟨(some 22), none, .extr (.t 17) 2⟩, ⟨(some 2), none, .mv (.t 20) false⟩, ⟨(some 3), none, .mv (.t 21) false⟩, ⟨(some 7), none, .mv (.t 22) false⟩]) (.seq (.seq (.ops 4 [⟨(some 23), none, .mv (.t 7) false⟩, ⟨(some 24), none, .un .not (.t 23)⟩]) (.cond (.t 24) (.seq (.ops 5 [⟨(some 8), none, .mv (.c (.str [])) false⟩]) (.seq (.ops 6 [⟨(some 26), none, .mv (.t 6) false⟩, ⟨(some 27), none, .call 27 [(.t 26)]⟩, ⟨(some 25), none, .mv (.t 27) false⟩, ⟨(some 28), none, .extr (.t 25) 0⟩, ⟨(some 29), none, .extr (.t 25) 1⟩, ⟨(some 30), none, .extr (.t 25) 2⟩, ⟨(some 2), none, .mv (.t 28) false⟩, ⟨(some 8), none, .mv (.t 29) false⟩, ⟨(some 7), none, .mv (.t 30) false⟩]) (.seq (.ops 7 [⟨(some 31), none, .mv (.t 7) false⟩]) (.cond (.t 31) (.ops 8 [⟨(some 33), none, .mv (.t 6) false⟩, ⟨(some 34), none, .mv (.t 8) false⟩, ⟨(some 35), none, .call 28 [(.t 33), (.t 34)]⟩, ⟨(some 32), none, .mv (.t 35) false⟩, ⟨(some 36), none, .extr (.t 32) 0⟩, ⟨(some 37), none, .extr (.t 32) 1⟩, ⟨(some 3), none, .mv (.t 36) false⟩, ⟨(some 7), none, .mv (.t 37) false⟩]) .skip)))) .skip)) (.seq (.block 0 (.seq (.ops 9 [⟨(some 39), none, .mv (.t 7) false⟩, ⟨(some 40), none, .un .not (.t 39)⟩, ⟨(some 38), none, .mv (.t 40) false⟩]) (.cond (.t 38) (.seq (.ops 10 [⟨(some 41), none, .call 29 [(.c (.int .i64 10)), (.c (.int .i64 0))]⟩, ⟨(some 2), none, .mv (.c (.int .i64 0)) false⟩, ⟨(some 3), none, .mv (.c (.int .i64 0)) false⟩, ⟨(some 4), none, .mv (.c (.int .i64 0)) false⟩, ⟨(some 5), none, .mv (.t 41) false⟩]) .ret) (.seq (.ops 11 [⟨(some 43), none, .mv (.t 6) false⟩, ⟨(some 44), none, .nilc (.t 43)⟩, ⟨(some 45), none, .faddr 2 (.t 44)⟩, ⟨(some 46), none, .load false 1 (.t 45)⟩, ⟨(some 47), none, .bin .neq .ifc (.t 46) (.c .nili)⟩, ⟨(some 42), none, .mv (.t 47) false⟩]) (.cond (.t 42) (.seq (.drw 12 [⟨⟨(some 48), none, .mv (.t 6) false⟩, 0, []⟩, ⟨⟨(some 49), none, .nilc (.t 48)⟩, 1, []⟩, ⟨⟨(some 50), none, .faddr 2 (.t 49)⟩, 2, []⟩, ⟨⟨(some 51), none, .load false 1 (.t 50)⟩, 3, []⟩, ⟨⟨(some 2), none, .mv (.c (.int .i64 0)) false⟩, 4, []⟩, ⟨⟨(some 3), none, .mv (.c (.int .i64 0)) false⟩, 5, []⟩, ⟨⟨(some 4), none, .mv (.c (.int .i64 0)) false⟩, 6, []⟩, ⟨⟨(some 5), none, .mv (.t 51) false⟩, 7, []⟩]) .ret) .skip))))) (.seq (.drw 13 [⟨⟨(some 52), none, .mv (.t 2) false⟩, 0, []⟩, ⟨⟨(some 53), none, .mv (.t 3) false⟩, 1, []⟩, ⟨⟨(some 54), none, .mv (.t 6) false⟩, 2, []⟩, ⟨⟨(some 55), none, .nilc (.t 54)⟩, 3, []⟩, ⟨⟨(some 56), none, .faddr 1 (.t 55)⟩, 4, []⟩, ⟨⟨(some 57), none, .load false 1 (.t 56)⟩, 5, []⟩, ⟨⟨(some 2), none, .mv (.t 52) false⟩, 6, []⟩, ⟨⟨(some 3), none, .mv (.t 53) false⟩, 7, []⟩, ⟨⟨(some 4), none, .mv (.t 57) false⟩, 8, []⟩, ⟨⟨(some 5), none, .mv (.c .nili) false⟩, 9, []⟩]) .ret)))))))⟩
theorem ok_c_anb_Parse : chkFn Tryz.prog 13 c_anb_Parse = true := chkFn_of Tryz.func13 (by kernel_rfl)
def j_anb_Parse_0 (M : Mach) (n0 : Nat) (z2 z3 z6 z7 : V) (σ : Objs) : Ro :=
  bd (pu (evUn .not z7.nogr.nogr)) fun x10 =>
  br x10.nogr.nogr (
  bd (M.call 29 [(.int .i64 10), (.int .i64 0)] σ) fun p11 =>
  endK n0 p11.2 (.tup [(.int .i64 0), (.int .i64 0), (.int .i64 0), p11.1.nogr.nogr])) (
  bd (pu (evNilc z6.nogr.nogr)) fun x12 =>
  bd (pu (evFaddr 2 x12.nogr)) fun x13 =>
  bd (pu (evLoad σ false 1 x13.nogr)) fun x14 =>
  bd (pu (evBin .neq .ifc x14.nogr .nili)) fun x15 =>
  br x15.nogr.nogr (
  bd (pu (evNilc z6.nogr.nogr)) fun x16 =>
  bd (pu (evFaddr 2 x16.nogr)) fun x17 =>
  bd (pu (evLoad σ false 1 x17.nogr)) fun x18 =>
  endK n0 σ (.tup [(.int .i64 0), (.int .i64 0), (.int .i64 0), x18.nogr.nogr])) (
  bd (pu (evNilc z6.nogr.nogr)) fun x19 =>
  bd (pu (evFaddr 1 x19.nogr)) fun x20 =>
  bd (pu (evLoad σ false 1 x20.nogr)) fun x21 =>
  endK n0 σ (.tup [z2.nogr.nogr.nogr, z3.nogr.nogr.nogr, x21.nogr.nogr, .nili])))
def s_anb_Parse (M : Mach) (a0 : V) (σ : Objs) : Ro :=
  bd (pu (buildV [.nils, (.int .i64 0), .nili] [(0, 1, a0.nogr)])) fun x0 =>
  bd (boxV σ x0.nogr) fun p1 =>
  bd (M.call 25 [p1.1.nogr.nogr.nogr, (.int .i64 0)] p1.2) fun p2 =>
  bd (pu (evNilc p1.1.nogr.nogr.nogr)) fun x3 =>
  bd (pu (evFaddr 1 x3.nogr)) fun x4 =>
  bd (storeV p2.2 1 x4.nogr p2.1.nogr p2.1.nogr) fun p5 =>
  bd (M.call 26 [p1.1.nogr.nogr.nogr] p5.2) fun p6 =>
  bd (pu (evExtr 0 p6.1.nogr.nogr)) fun x7 =>
  bd (pu (evExtr 1 p6.1.nogr.nogr)) fun x8 =>
  bd (pu (evExtr 2 p6.1.nogr.nogr)) fun x9 =>
  bd (pu (evUn .not x9.nogr.nogr.nogr)) fun x22 =>
  br x22.nogr (
  bd (M.call 27 [p1.1.nogr.nogr.nogr] p6.2) fun p23 =>
  bd (pu (evExtr 0 p23.1.nogr.nogr)) fun x24 =>
  bd (pu (evExtr 1 p23.1.nogr.nogr)) fun x25 =>
  bd (pu (evExtr 2 p23.1.nogr.nogr)) fun x26 =>
  br x26.nogr.nogr.nogr (
  bd (M.call 28 [p1.1.nogr.nogr.nogr, x25.nogr.nogr.nogr] p23.2) fun p27 =>
  bd (pu (evExtr 0 p27.1.nogr.nogr)) fun x28 =>
  bd (pu (evExtr 1 p27.1.nogr.nogr)) fun x29 =>
  j_anb_Parse_0 M σ.length x24.nogr x28.nogr p1.1.nogr x29.nogr p27.2) (
  j_anb_Parse_0 M σ.length x24.nogr x8.nogr p1.1.nogr x26.nogr p23.2)) (
  j_anb_Parse_0 M σ.length x7.nogr x8.nogr p1.1.nogr x9.nogr p6.2)
theorem k_anb_Parse (M : Mach) (a0 : V) (σ : Objs) : fnK M c_anb_Parse [a0] σ = s_anb_Parse M a0 σ := by kernel_rfl
def c_anb_Whole : Ev.Fn := ⟨53, [.tmp 2, .tmp 3], false, false, (.seq (.ops 0 [⟨(some 2), none, .mv (.c (.int .i64 0)) false⟩, ⟨(some 3), none, .mv (.c .nili) false⟩]) (.seq (.ops 1 [⟨(some 9), none, .mv (.t 0) false⟩, ⟨(some 10), none, .call 33 [(.t 9), (.c (.str [43, 45]))]⟩, ⟨(some 4), none, .mv (.t 10) false⟩]) (.seq (.seq (.ops 2 [⟨(some 11), none, .mv (.t 4) false⟩, ⟨(some 12), none, .bin .eql .no (.t 11) (.c (.str []))⟩, ⟨(some 13), none, .mv (.t 12) false⟩, ⟨(some 14), (some (13, false)), .mv (.t 0) false⟩, ⟨(some 15), (some (13, false)), .lenS (.t 14)⟩, ⟨(some 16), (some (13, false)), .mv (.t 4) false⟩, ⟨(some 17), (some (13, false)), .lenS (.t 16)⟩, ⟨(some 18), (some (13, false)), .bin .sub .no (.t 15) (.t 17)⟩, ⟨(some 19), (some (13, false)), .bin .gtr .no (.t 18) (.c (.int .i64 1))⟩, ⟨(some 20), none, .pick (.t 13) (.c (.bool true)) (.t 19)⟩]) (.cond (.t 20) (.seq (.ops 3 [⟨(some 21), none, .call 29 [(.c (.int .i64 10)), (.c (.int .i64 0))]⟩, ⟨(some 2), none, .mv (.c (.int .i64 0)) false⟩, ⟨(some 3), none, .mv (.t 21) false⟩]) .ret) .skip)) (.seq (.ops 4 [⟨(some 5), none, .mv (.c (.int .i64 0)) false⟩, ⟨(some 6), none, .mv (.c (.bool false)) false⟩]) (.seq (.seq (.ops 5 [⟨(some 22), none, .mv (.t 4) false⟩, ⟨(some 23), none, .conv .strBytes (.t 22)⟩, ⟨(some 24), none, .len (.t 23)⟩, ⟨(some 25), none, .mv (.c (.int .i64 0)) false⟩]) (.block 0 (.loop [0, 5, 6, 23, 24, 25] [0, 2, 3, 5, 6] (.seq (.ops 6 [⟨(some 26), none, .bin .lss .no (.t 25) (.t 24)⟩]) (.seq (.cond (.t 26) .skip (.exit 0)) (.seq (.block 1 (.seq (.ops 7 [⟨(some 27), none, .iaddr 1 (.t 23) (.t 25)⟩, ⟨(some 28), none, .load false 1 (.t 27)⟩, ⟨(some 8), none, .mv (.t 28) false⟩]) (.seq (.seq (.ops 8 [⟨(some 29), none, .mv (.t 8) false⟩, ⟨(some 30), none, .conv (.toInt .i64) (.t 29)⟩, ⟨(some 31), none, .call 34 [(.t 30)]⟩, ⟨(some 32), none, .un .not (.t 31)⟩]) (.cond (.t 32) (.seq (.ops 9 [⟨(some 33), none, .call 29 [(.c (.int .i64 10)), (.c (.int .i64 0))]⟩, ⟨(some 2), none, .mv (.c (.int .i64 0)) false⟩, ⟨(some 3), none, .mv (.t 33) false⟩]) .ret) .skip)) (.seq (.ops 10 [⟨(some 34), none, .mv (.t 5) false⟩, ⟨(some 35), none, .bin .mul .no (.t 34) (.c (.int .i64 10))⟩, ⟨(some 36), none, .mv (.t 8) false⟩, ⟨(some 37), none, .bin .sub .no (.t 36) (.c (.int .u8 48))⟩, ⟨(some 38), none, .conv (.toInt .i64) (.t 37)⟩, ⟨(some 39), none, .bin .add .no (.t 35) (.t 38)⟩, ⟨(some 5), none, .mv (.t 39) false⟩]) (.seq (.ops 11 [⟨(some 40), none, .mv (.t 5) false⟩, ⟨(some 41), none, .bin .gtr .no (.t 40) (.c (.int .i64 2147483647))⟩]) (.cond (.t 41) (.ops 12 [⟨(some 5), none, .mv (.c (.int .i64 2147483647)) false⟩, ⟨(some 6), none, .mv (.c (.bool true)) false⟩]) .skip)))))) (.ops 13 [⟨(some 42), none, .bin .add .no (.t 25) (.c (.int .i64 1))⟩, ⟨(some 25), none, .mv (.t 42) false⟩]))))))) (.seq (.block 2 (.seq (.ops 14 [⟨(some 44), none, .mv (.t 6) false⟩, ⟨(some 43), none, .mv (.t 44) false⟩]) (.cond (.t 43) (.seq (.ops 15 [⟨(some 45), none, .call 29 [(.c (.int .i64 3)), (.c (.int .i64 0))]⟩, ⟨(some 2), none, .mv (.c (.int .i64 0)) false⟩, ⟨(some 3), none, .mv (.t 45) false⟩]) .ret) (.seq (.ops 16 [⟨(some 47), none, .mv (.t 0) false⟩, ⟨(some 48), none, .idx (.t 47) (.c (.int .i64 0))⟩, ⟨(some 49), none, .bin .eql .no (.t 48) (.c (.int .u8 45))⟩, ⟨(some 46), none, .mv (.t 49) false⟩]) (.cond (.t 46) (.ops 17 [⟨(some 50), none, .mv (.t 5) false⟩, ⟨(some 51), none, .un .neg (.t 50)⟩, ⟨(some 5), none, .mv (.t 51) false⟩]) .skip))))) (.seq (.ops 18 [⟨(some 52), none, .mv (.t 5) false⟩, ⟨(some 2), none, .mv (.t 52) false⟩, ⟨(some 3), none, .mv (.c .nili) false⟩]) .ret)))))))⟩
theorem ok_c_anb_Whole : chkFn Tryz.prog 15 c_anb_Whole = true := chkFn_of Tryz.func15 (by kernel_rfl)
def j_anb_Whole_0 (M : Mach) (n0 : Nat) (n1 : Nat) (r1 : Rk) (z0 z5 z6 z23 z24 z25 : V) (σ : Objs) : Ro :=
  bd (pu (evBin .add .no z25.nogr (.int .i64 1))) fun x13 =>
  bd (fz n1 σ fzDepth z0) fun y14 =>
  bd (fz n1 σ fzDepth z5) fun y15 =>
  bd (fz n1 σ fzDepth z6) fun y16 =>
  bd (fz n1 σ fzDepth z23) fun y17 =>
  bd (fz n1 σ fzDepth z24) fun y18 =>
  bd (fz n1 σ fzDepth x13.nogr) fun y19 =>
  bd (cutObjs n1 σ) fun s20 => r1 [y14, y15, y16, y17, y18, y19] s20
def j_anb_Whole_1 (M : Mach) (n0 : Nat) (z5 : V) (σ : Objs) : Ro :=
  endK n0 σ (.tup [z5.nogr.nogr.nogr, .nili])
def b_anb_Whole_0 (M : Mach) (n0 : Nat) (n1 : Nat) (r1 : Rk) (z0 z5 z6 z23 z24 z25 : V) (σ : Objs) : Ro :=
  bd (pu (evBin .lss .no z25.nogr z24.nogr)) fun x12 =>
  br x12.nogr (
  bd (pu (evIaddr 1 z25.nogr z23.nogr)) fun x21 =>
  bd (pu (evLoad σ false 1 x21.nogr)) fun x22 =>
  bd (pu (evConv σ (.toInt .i64) x22.nogr.nogr.nogr)) fun x23 =>
  bd (M.call 34 [x23.nogr] σ) fun p24 =>
  bd (pu (evUn .not p24.1.nogr)) fun x25 =>
  br x25.nogr (
  bd (M.call 29 [(.int .i64 10), (.int .i64 0)] p24.2) fun p26 =>
  bd (fz n1 p26.2 fzDepth z0) fun y27 =>
  bd (fz n1 p26.2 fzDepth (.int .i64 0)) fun y28 =>
  bd (fz n1 p26.2 fzDepth p26.1.nogr) fun y29 =>
  bd (fz n1 p26.2 fzDepth z5) fun y30 =>
  bd (fz n1 p26.2 fzDepth z6) fun y31 =>
  bd (cutObjs n1 p26.2) fun s32 =>
  endK n0 s32 (.tup [y28.nogr, y29.nogr])) (
  bd (pu (evBin .mul .no z5.nogr.nogr (.int .i64 10))) fun x33 =>
  bd (pu (evBin .sub .no x22.nogr.nogr.nogr (.int .u8 48))) fun x34 =>
  bd (pu (evConv p24.2 (.toInt .i64) x34.nogr)) fun x35 =>
  bd (pu (evBin .add .no x33.nogr x35.nogr)) fun x36 =>
  bd (pu (evBin .gtr .no x36.nogr.nogr.nogr (.int .i64 2147483647))) fun x37 =>
  br x37.nogr (
  j_anb_Whole_0 M n0 n1 r1 z0 (.int .i64 2147483647) (.bool true) z23 z24 z25 p24.2) (
  j_anb_Whole_0 M n0 n1 r1 z0 x36.nogr z6 z23 z24 z25 p24.2))) (
  bd (fz n1 σ fzDepth z0) fun y38 =>
  bd (fz n1 σ fzDepth .any) fun y39 =>
  bd (fz n1 σ fzDepth .any) fun y40 =>
  bd (fz n1 σ fzDepth z5) fun y41 =>
  bd (fz n1 σ fzDepth z6) fun y42 =>
  bd (cutObjs n1 σ) fun s43 =>
  br y42.nogr.nogr.nogr (
  bd (M.call 29 [(.int .i64 3), (.int .i64 0)] s43) fun p44 =>
  endK n0 p44.2 (.tup [(.int .i64 0), p44.1.nogr.nogr])) (
  bd (pu (evIdx (.int .i64 0) y38.nogr.nogr)) fun x45 =>
  bd (pu (evBin .eql .no x45.nogr (.int .u8 45))) fun x46 =>
  br x46.nogr.nogr (
  bd (pu (evUn .neg y41.nogr.nogr)) fun x47 =>
  j_anb_Whole_1 M n0 x47.nogr s43) (
  j_anb_Whole_1 M n0 y41 s43)))
def l_anb_Whole_0 (M : Mach) (n0 : Nat) (n1 : Nat) : Rk := M.fx fun rec vs σ => b_anb_Whole_0 M n0 n1 rec (vs.getD 0 .undef) (vs.getD 1 .undef) (vs.getD 2 .undef) (vs.getD 3 .undef) (vs.getD 4 .undef) (vs.getD 5 .undef) σ
def s_anb_Whole (M : Mach) (a0 : V) (σ : Objs) : Ro :=
  bd (M.call 33 [a0.nogr.nogr, (.str [43, 45])] σ) fun p0 =>
  bd (pu (evBin .eql .no p0.1.nogr.nogr.nogr (.str []))) fun x1 =>
  bd (gdv x1.nogr false (some a0.nogr)) fun x2 =>
  bd (gdv x1.nogr false (pu (evLenS x2.nogr))) fun x3 =>
  bd (gdv x1.nogr false (some p0.1.nogr.nogr)) fun x4 =>
  bd (gdv x1.nogr false (pu (evLenS x4.nogr))) fun x5 =>
  bd (gdv x1.nogr false (pu (evBin .sub .no x3.nogr x5.nogr))) fun x6 =>
  bd (gdv x1.nogr false (pu (evBin .gtr .no x6.nogr (.int .i64 1)))) fun x7 =>
  bd (pu (pickV x1.nogr.nogr (.bool true) x7.nogr)) fun x8 =>
  br x8.nogr (
  bd (M.call 29 [(.int .i64 10), (.int .i64 0)] p0.2) fun p9 =>
  endK σ.length p9.2 (.tup [(.int .i64 0), p9.1.nogr.nogr])) (
  bd (evConv p0.2 .strBytes p0.1.nogr.nogr.nogr) fun x10 =>
  bd (pu (evLen x10.nogr)) fun x11 =>
  bd (fz p0.2.length p0.2 fzDepth a0) fun y48 =>
  bd (fz p0.2.length p0.2 fzDepth (.int .i64 0)) fun y49 =>
  bd (fz p0.2.length p0.2 fzDepth (.bool false)) fun y50 =>
  bd (fz p0.2.length p0.2 fzDepth x10) fun y51 =>
  bd (fz p0.2.length p0.2 fzDepth x11) fun y52 =>
  bd (fz p0.2.length p0.2 fzDepth (.int .i64 0)) fun y53 =>
  l_anb_Whole_0 M σ.length p0.2.length [y48, y49, y50, y51, y52, y53] p0.2)
theorem k_anb_Whole (M : Mach) (a0 : V) (σ : Objs) : fnK M c_anb_Whole [a0] σ = s_anb_Whole M a0 σ := by kernel_rfl
def c_wattlelaw01_Has : Ev.Fn := ⟨13, [.tmp 4], false, false, (.seq (.ops 0 [⟨(some 4), none, .mv (.c (.bool false)) false⟩]) (.seq (.ops 1 [⟨(some 5), none, .mv (.t 0) false⟩, ⟨(some 6), none, .bin .neq .ifc (.t 5) (.c .nili)⟩, ⟨(some 7), none, .mv (.t 6) false⟩, ⟨(some 8), (some (7, true)), .mv (.t 0) false⟩, ⟨(some 9), (some (7, true)), .mv (.t 1) false⟩, ⟨(some 10), (some (7, true)), .mkif 38 (.t 9)⟩, ⟨(some 11), (some (7, true)), .call 35 [(.t 8), (.t 10)]⟩, ⟨(some 12), none, .pick (.t 7) (.t 11) (.c (.bool false))⟩, ⟨(some 4), none, .mv (.t 12) false⟩]) .ret))⟩
theorem ok_c_wattlelaw01_Has : chkFn Tryz.prog 16 c_wattlelaw01_Has = true := chkFn_of Tryz.func16 (by kernel_rfl)
def s_wattlelaw01_Has (M : Mach) (a0 a1 : V) (σ : Objs) : Ro :=
  bd (pu (evBin .neq .ifc a0.nogr.nogr .nili)) fun x0 =>
  bd (gdv x0.nogr true (some a0.nogr)) fun x1 =>
  bd (gdv x0.nogr true (some a1.nogr)) fun x2 =>
  bd (gdv x0.nogr true (some (.ifc 38 x2.nogr))) fun x3 =>
  bd (gdp x0.nogr true (M.call 35 [x1.nogr, x3.nogr] σ) σ) fun p4 =>
  bd (pu (pickV x0.nogr.nogr p4.1.nogr (.bool false))) fun x5 =>
  bd (oneK false x5.nogr) (endK σ.length p4.2)
theorem k_wattlelaw01_Has (M : Mach) (a0 a1 : V) (σ : Objs) : fnK M c_wattlelaw01_Has [a0, a1] σ = s_wattlelaw01_Has M a0 a1 σ := by kernel_rfl
def c_wattleref04_Parse : Ev.Fn := ⟨41, [.tmp 2, .tmp 3, .tmp 4, .tmp 5], false, false, (.seq (.ops 0 [⟨(some 2), none, .mv (.c (.int .i64 0)) false⟩, ⟨(some 3), none, .mv (.c (.int .i64 0)) false⟩, ⟨(some 4), none, .mv (.c (.int .i64 0)) false⟩, ⟨(some 5), none, .mv (.c (.int .i64 0)) false⟩]) (.seq (.ops 1 [⟨(some 13), none, .mv (.t 0) true⟩, ⟨(some 14), none, .call 36 [(.t 13)]⟩, ⟨(some 12), none, .mv (.t 14) false⟩, ⟨(some 15), none, .extr (.t 12) 0⟩, ⟨(some 16), none, .extr (.t 12) 1⟩, ⟨(some 6), none, .alloc [(.str []), (.str []), (.int .i64 0)]⟩, ⟨none, none, .store 3 (.t 6) (.t 15) false⟩, ⟨(some 7), none, .mv (.t 16) false⟩]) (.seq (.seq (.ops 2 [⟨(some 17), none, .mv (.t 7) false⟩, ⟨(some 18), none, .un .not (.t 17)⟩]) (.cond (.t 18) (.seq (.ops 3 [⟨(some 2), none, .mv (.c (.int .i64 0)) false⟩, ⟨(some 3), none, .mv (.c (.int .i64 0)) false⟩, ⟨(some 4), none, .mv (.c (.int .i64 0)) false⟩, ⟨(some 5), none, .mv (.c (.int .i64 10)) false⟩]) .ret) .skip)) (.seq (.ops 4 [⟨(some 20), none, .faddr 0 (.t 6)⟩, ⟨(some 21), none, .load false 1 (.t 20)⟩, ⟨(some 22), none, .call 20 [(.t 21)]⟩, ⟨(some 19), none, .mv (.t 22) false⟩, ⟨(some 23), none, .extr (.t 19) 0⟩, ⟨(some 24), none, .extr (.t 19) 1⟩, ⟨(some 8), none, .mv (.t 23) false⟩, ⟨(some 9), none, .mv (.t 24) false⟩]) (.seq (.ops 5 [⟨(some 26), none, .faddr 1 (.t 6)⟩, ⟨(some 27), none, .load false 1 (.t 26)⟩, ⟨(some 28), none, .call 20 [(.t 27)]⟩, ⟨(some 25), none, .mv (.t 28) false⟩, ⟨(some 29), none, .extr (.t 25) 0⟩, ⟨(some 30), none, .extr (.t 25) 1⟩, ⟨(some 10), none, .mv (.t 29) false⟩, ⟨(some 11), none, .mv (.t 30) false⟩]) (.seq (.seq (.ops 6 [⟨(some 31), none, .mv (.t 9) false⟩, ⟨(some 32), none, .bin .neq .no (.t 31) (.c (.int .i64 0))⟩, ⟨(some 33), none, .mv (.t 32) false⟩, ⟨(some 34), (some (33, false)), .mv (.t 11) false⟩, ⟨(some 35), (some (33, false)), .bin .neq .no (.t 34) (.c (.int .i64 0))⟩, ⟨(some 36), none, .pick (.t 33) (.c (.bool true)) (.t 35)⟩]) (.cond (.t 36) (.seq (.ops 7 [⟨(some 2), none, .mv (.c (.int .i64 0)) false⟩, ⟨(some 3), none, .mv (.c (.int .i64 0)) false⟩, ⟨(some 4), none, .mv (.c (.int .i64 0)) false⟩, ⟨(some 5), none, .mv (.c (.int .i64 3)) false⟩]) .ret) .skip)) (.seq (.drw 8 [⟨⟨(some 37), none, .mv (.t 8) false⟩, 0, []⟩, ⟨⟨(some 38), none, .mv (.t 10) false⟩, 1, []⟩, ⟨⟨(some 39), none, .faddr 2 (.t 6)⟩, 2, []⟩, ⟨⟨(some 40), none, .load false 1 (.t 39)⟩, 3, []⟩, ⟨⟨(some 2), none, .mv (.t 37) false⟩, 4, []⟩, ⟨⟨(some 3), none, .mv (.t 38) false⟩, 5, []⟩, ⟨⟨(some 4), none, .mv (.t 40) false⟩, 6, []⟩, ⟨⟨(some 5), none, .mv (.c (.int .i64 0)) false⟩, 7, []⟩]) .ret)))))))⟩
theorem ok_c_wattleref04_Parse : chkFn Tryz.prog 17 c_wattleref04_Parse = true := chkFn_of Tryz.func17 (by kernel_rfl)
def s_wattleref04_Parse (M : Mach) (a0 : V) (σ : Objs) : Ro :=
  bd (M.call 36 [a0.nogr] σ) fun p0 =>
  bd (pu (evExtr 0 p0.1.nogr.nogr)) fun x1 =>
  bd (pu (evExtr 1 p0.1.nogr.nogr)) fun x2 =>
  let s3 : Objs := p0.2 ++ [.cells [(.str []), (.str []), (.int .i64 0)]]
  bd (storeV s3 3 (.ptr p0.2.length 0) x1.nogr x1.nogr) fun p4 =>
  bd (pu (evUn .not x2.nogr.nogr.nogr)) fun x5 =>
  br x5.nogr (
  endK σ.length p4.2 (.tup [(.int .i64 0), (.int .i64 0), (.int .i64 0), (.int .i64 10)])) (
  bd (pu (evFaddr 0 (.ptr p0.2.length 0))) fun x6 =>
  bd (pu (evLoad p4.2 false 1 x6.nogr)) fun x7 =>
  bd (M.call 20 [x7.nogr] p4.2) fun p8 =>
  bd (pu (evExtr 0 p8.1.nogr.nogr)) fun x9 =>
  bd (pu (evExtr 1 p8.1.nogr.nogr)) fun x10 =>
  bd (pu (evFaddr 1 (.ptr p0.2.length 0))) fun x11 =>
  bd (pu (evLoad p8.2 false 1 x11.nogr)) fun x12 =>
  bd (M.call 20 [x12.nogr] p8.2) fun p13 =>
  bd (pu (evExtr 0 p13.1.nogr.nogr)) fun x14 =>
  bd (pu (evExtr 1 p13.1.nogr.nogr)) fun x15 =>
  bd (pu (evBin .neq .no x10.nogr.nogr.nogr (.int .i64 0))) fun x16 =>
  bd (gdv x16.nogr false (some x15.nogr.nogr)) fun x17 =>
  bd (gdv x16.nogr false (pu (evBin .neq .no x17.nogr (.int .i64 0)))) fun x18 =>
  bd (pu (pickV x16.nogr.nogr (.bool true) x18.nogr)) fun x19 =>
  br x19.nogr (
  endK σ.length p13.2 (.tup [(.int .i64 0), (.int .i64 0), (.int .i64 0), (.int .i64 3)])) (
  bd (pu (evFaddr 2 (.ptr p0.2.length 0))) fun x20 =>
  bd (pu (evLoad p13.2 false 1 x20.nogr)) fun x21 =>
  endK σ.length p13.2 (.tup [x9.nogr.nogr.nogr.nogr, x14.nogr.nogr.nogr.nogr, x21.nogr.nogr, (.int .i64 0)])))
theorem k_wattleref04_Parse (M : Mach) (a0 : V) (σ : Objs) : fnK M c_wattleref04_Parse [a0] σ = s_wattleref04_Parse M a0 σ := by kernel_rfl
def c_wattleref04_Whole : Ev.Fn := ⟨55, [.tmp 2, .tmp 3], false, false, (.seq (.ops 0 [⟨(some 2), none, .mv (.c (.int .i64 0)) false⟩, ⟨(some 3), none, .mv (.c (.int .i64 0)) false⟩]) (.seq (.ops 1 [⟨(some 4), none, .mv (.c (.int .i64 0)) false⟩]) (.seq (.seq (.ops 2 [⟨(some 7), none, .mv (.t 0) false⟩, ⟨(some 8), none, .lenS (.t 7)⟩, ⟨(some 9), none, .bin .gtr .no (.t 8) (.c (.int .i64 0))⟩, ⟨(some 10), none, .mv (.t 9) false⟩, ⟨(some 11), (some (10, true)), .mv (.t 0) false⟩, ⟨(some 12), (some (10, true)), .idx (.t 11) (.c (.int .i64 0))⟩, ⟨(some 13), (some (10, true)), .bin .eql .no (.t 12) (.c (.int .u8 43))⟩, ⟨(some 14), (some (10, true)), .mv (.t 13) false⟩, ⟨(some 15), (some (14, false)), .mv (.t 0) false⟩, ⟨(some 16), (some (14, false)), .idx (.t 15) (.c (.int .i64 0))⟩, ⟨(some 17), (some (14, false)), .bin .eql .no (.t 16) (.c (.int .u8 45))⟩, ⟨(some 18), (some (10, true)), .pick (.t 14) (.c (.bool true)) (.t 17)⟩, ⟨(some 19), none, .pick (.t 10) (.t 18) (.c (.bool false))⟩]) (.cond (.t 19) (.ops 3 [⟨(some 4), none, .mv (.c (.int .i64 1)) false⟩]) .skip)) (.seq (.seq (.ops 4 [⟨(some 20), none, .mv (.t 4) false⟩, ⟨(some 21), none, .mv (.t 0) false⟩, ⟨(some 22), none, .lenS (.t 21)⟩, ⟨(some 23), none, .bin .eql .no (.t 20) (.t 22)⟩]) (.cond (.t 23) (.seq (.ops 5 [⟨(some 2), none, .mv (.c (.int .i64 0)) false⟩, ⟨(some 3), none, .mv (.c (.int .i64 10)) false⟩]) .ret) .skip)) (.seq (.ops 6 [⟨(some 5), none, .mv (.c (.int .i64 0)) false⟩]) (.seq (.seq (.ops 7 [⟨(some 24), none, .mv (.t 4) false⟩, ⟨(some 6), none, .mv (.t 24) false⟩]) (.block 0 (.loop [0, 5, 6] [0, 2, 3, 5] (.seq (.seq (.ops 8 [⟨(some 25), none, .mv (.t 6) false⟩, ⟨(some 26), none, .mv (.t 0) false⟩, ⟨(some 27), none, .lenS (.t 26)⟩, ⟨(some 28), none, .bin .lss .no (.t 25) (.t 27)⟩]) (.cond (.t 28) .skip (.exit 0))) (.seq (.block 1 (.seq (.seq (.ops 10 [⟨(some 31), none, .mv (.t 0) false⟩, ⟨(some 32), none, .mv (.t 6) false⟩, ⟨(some 33), none, .idx (.t 31) (.t 32)⟩, ⟨(some 34), none, .conv (.toInt .i64) (.t 33)⟩, ⟨(some 35), none, .call 38 [(.t 34)]⟩, ⟨(some 36), none, .un .not (.t 35)⟩]) (.cond (.t 36) (.seq (.ops 11 [⟨(some 2), none, .mv (.c (.int .i64 0)) false⟩, ⟨(some 3), none, .mv (.c (.int .i64 10)) false⟩]) .ret) .skip)) (.seq (.ops 12 [⟨(some 37), none, .mv (.t 5) false⟩, ⟨(some 38), none, .bin .leq .no (.t 37) (.c (.int .i64 2147483647))⟩]) (.cond (.t 38) (.ops 13 [⟨(some 39), none, .mv (.t 5) false⟩, ⟨(some 40), none, .bin .mul .no (.c (.int .i64 10)) (.t 39)⟩, ⟨(some 41), none, .mv (.t 0) false⟩, ⟨(some 42), none, .mv (.t 6) false⟩, ⟨(some 43), none, .idx (.t 41) (.t 42)⟩, ⟨(some 44), none, .conv (.toInt .i64) (.t 43)⟩, ⟨(some 45), none, .bin .add .no (.t 40) (.t 44)⟩, ⟨(some 46), none, .bin .sub .no (.t 45) (.c (.int .i64 48))⟩, ⟨(some 5), none, .mv (.t 46) false⟩]) .skip)))) (.ops 9 [⟨(some 29), none, .mv (.t 6) false⟩, ⟨(some 30), none, .bin .add .no (.t 29) (.c (.int .i64 1))⟩, ⟨(some 6), none, .mv (.t 30) false⟩])))))) (.seq (.seq (.ops 14 [⟨(some 47), none, .mv (.t 5) false⟩, ⟨(some 48), none, .bin .gtr .no (.t 47) (.c (.int .i64 2147483647))⟩]) (.cond (.t 48) (.seq (.ops 15 [⟨(some 2), none, .mv (.c (.int .i64 0)) false⟩, ⟨(some 3), none, .mv (.c (.int .i64 3)) false⟩]) .ret) .skip)) (.seq (.seq (.ops 16 [⟨(some 49), none, .mv (.t 0) false⟩, ⟨(some 50), none, .idx (.t 49) (.c (.int .i64 0))⟩, ⟨(some 51), none, .bin .eql .no (.t 50) (.c (.int .u8 45))⟩]) (.cond (.t 51) (.ops 17 [⟨(some 52), none, .mv (.t 5) false⟩, ⟨(some 53), none, .un .neg (.t 52)⟩, ⟨(some 5), none, .mv (.t 53) false⟩]) .skip)) (.seq (.ops 18 [⟨(some 54), none, .mv (.t 5) false⟩, ⟨(some 2), none, .mv (.t 54) false⟩, ⟨(some 3), none, .mv (.c (.int .i64 0)) false⟩]) .ret)))))))))⟩
theorem ok_c_wattleref04_Whole : chkFn Tryz.prog 20 c_wattleref04_Whole = true := chkFn_of Tryz.func20 (by kernel_rfl)
def j_wattleref04_Whole_1 (M : Mach) (n0 : Nat) (n1 : Nat) (r1 : Rk) (z0 z5 z6 : V) (σ : Objs) : Ro :=
  bd (pu (evBin .add .no z6.nogr.nogr (.int .i64 1))) fun x4 =>
  bd (fz n1 σ fzDepth z0) fun y5 =>
  bd (fz n1 σ fzDepth z5) fun y6 =>
  bd (fz n1 σ fzDepth x4.nogr) fun y7 =>
  bd (cutObjs n1 σ) fun s8 => r1 [y5, y6, y7] s8
def j_wattleref04_Whole_2 (M : Mach) (n0 : Nat) (z5 : V) (σ : Objs) : Ro :=
  endK n0 σ (.tup [z5.nogr.nogr.nogr, (.int .i64 0)])
def b_wattleref04_Whole_0 (M : Mach) (n0 : Nat) (n1 : Nat) (r1 : Rk) (z0 z5 z6 : V) (σ : Objs) : Ro :=
  bd (pu (evLenS z0.nogr.nogr)) fun x2 =>
  bd (pu (evBin .lss .no z6.nogr.nogr x2.nogr)) fun x3 =>
  br x3.nogr (
  bd (pu (evIdx z6.nogr.nogr z0.nogr.nogr)) fun x9 =>
  bd (pu (evConv σ (.toInt .i64) x9.nogr)) fun x10 =>
  bd (M.call 38 [x10.nogr] σ) fun p11 =>
  bd (pu (evUn .not p11.1.nogr)) fun x12 =>
  br x12.nogr (
  bd (fz n1 p11.2 fzDepth z0) fun y13 =>
  bd (fz n1 p11.2 fzDepth (.int .i64 0)) fun y14 =>
  bd (fz n1 p11.2 fzDepth (.int .i64 10)) fun y15 =>
  bd (fz n1 p11.2 fzDepth z5) fun y16 =>
  bd (cutObjs n1 p11.2) fun s17 =>
  endK n0 s17 (.tup [y14.nogr, y15.nogr])) (
  bd (pu (evBin .leq .no z5.nogr.nogr (.int .i64 2147483647))) fun x18 =>
  br x18.nogr (
  bd (pu (evBin .mul .no (.int .i64 10) z5.nogr.nogr)) fun x19 =>
  bd (pu (evIdx z6.nogr.nogr z0.nogr.nogr)) fun x20 =>
  bd (pu (evConv p11.2 (.toInt .i64) x20.nogr)) fun x21 =>
  bd (pu (evBin .add .no x19.nogr x21.nogr)) fun x22 =>
  bd (pu (evBin .sub .no x22.nogr (.int .i64 48))) fun x23 =>
  j_wattleref04_Whole_1 M n0 n1 r1 z0 x23.nogr z6 p11.2) (
  j_wattleref04_Whole_1 M n0 n1 r1 z0 z5 z6 p11.2))) (
  bd (fz n1 σ fzDepth z0) fun y24 =>
  bd (fz n1 σ fzDepth .any) fun y25 =>
  bd (fz n1 σ fzDepth .any) fun y26 =>
  bd (fz n1 σ fzDepth z5) fun y27 =>
  bd (cutObjs n1 σ) fun s28 =>
  bd (pu (evBin .gtr .no y27.nogr.nogr (.int .i64 2147483647))) fun x29 =>
  br x29.nogr (
  endK n0 s28 (.tup [(.int .i64 0), (.int .i64 3)])) (
  bd (pu (evIdx (.int .i64 0) y24.nogr.nogr)) fun x30 =>
  bd (pu (evBin .eql .no x30.nogr (.int .u8 45))) fun x31 =>
  br x31.nogr (
  bd (pu (evUn .neg y27.nogr.nogr)) fun x32 =>
  j_wattleref04_Whole_2 M n0 x32.nogr s28) (
  j_wattleref04_Whole_2 M n0 y27 s28)))
def l_wattleref04_Whole_0 (M : Mach) (n0 : Nat) (n1 : Nat) : Rk := M.fx fun rec vs σ => b_wattleref04_Whole_0 M n0 n1 rec (vs.getD 0 .undef) (vs.getD 1 .undef) (vs.getD 2 .undef) σ
def j_wattleref04_Whole_0 (M : Mach) (n0 : Nat) (z0 z4 : V) (σ : Objs) : Ro :=
  bd (pu (evLenS z0.nogr.nogr)) fun x0 =>
  bd (pu (evBin .eql .no z4.nogr.nogr x0.nogr)) fun x1 =>
  br x1.nogr (
  endK n0 σ (.tup [(.int .i64 0), (.int .i64 10)])) (
  bd (fz σ.length σ fzDepth z0) fun y33 =>
  bd (fz σ.length σ fzDepth (.int .i64 0)) fun y34 =>
  bd (fz σ.length σ fzDepth z4.nogr.nogr) fun y35 =>
  l_wattleref04_Whole_0 M n0 σ.length [y33, y34, y35] σ)
def s_wattleref04_Whole (M : Mach) (a0 : V) (σ : Objs) : Ro :=
  bd (pu (evLenS a0.nogr.nogr)) fun x36 =>
  bd (pu (evBin .gtr .no x36.nogr (.int .i64 0))) fun x37 =>
  bd (gdv x37.nogr true (some a0.nogr)) fun x38 =>
  bd (gdv x37.nogr true (pu (evIdx (.int .i64 0) x38.nogr))) fun x39 =>
  bd (gdv x37.nogr true (pu (evBin .eql .no x39.nogr (.int .u8 43)))) fun x40 =>
  bd (gdv x37.nogr true (some x40.nogr)) fun x41 =>
  bd (gdv x41 false (some a0.nogr)) fun x42 =>
  bd (gdv x41 false (pu (evIdx (.int .i64 0) x42.nogr))) fun x43 =>
  bd (gdv x41 false (pu (evBin .eql .no x43.nogr (.int .u8 45)))) fun x44 =>
  bd (gdv x37.nogr true (pu (pickV x41.nogr (.bool true) x44.nogr))) fun x45 =>
  bd (pu (pickV x37.nogr.nogr x45.nogr (.bool false))) fun x46 =>
  br x46.nogr (
  j_wattleref04_Whole_0 M σ.length a0 (.int .i64 1) σ) (
  j_wattleref04_Whole_0 M σ.length a0 (.int .i64 0) σ)
theorem k_wattleref04_Whole (M : Mach) (a0 : V) (σ : Objs) : fnK M c_wattleref04_Whole [a0] σ = s_wattleref04_Whole M a0 σ := by kernel_rfl
def c_anb_Text : Ev.Fn := ⟨29, [.tmp 4], false, false, (.seq (.ops 0 [⟨(some 4), none, .mv (.c (.str [])) false⟩]) (.seq (.ops 1 [⟨(some 5), none, .mv (.c (.str [])) false⟩]) (.seq (.seq (.ops 2 [⟨(some 6), none, .mv (.t 0) false⟩]) (.block 0 (.seq (.ops 4 [⟨(some 11), none, .bin .eql .no (.t 6) (.c (.int .i64 0))⟩, ⟨(some 10), none, .mv (.t 11) false⟩]) (.cond (.t 10) (.seq (.ops 5 [⟨(some 12), none, .mv (.t 1) false⟩, ⟨(some 13), none, .call 39 [(.t 12)]⟩, ⟨(some 4), none, .mv (.t 13) false⟩]) .ret) (.seq (.ops 6 [⟨(some 15), none, .bin .eql .no (.t 6) (.c (.int .i64 1))⟩, ⟨(some 14), none, .mv (.t 15) false⟩]) (.cond (.t 14) (.ops 7 [⟨(some 5), none, .mv (.c (.str [110])) false⟩]) (.seq (.ops 8 [⟨(some 17), none, .bin .eql .no (.t 6) (.c (.int .i64 (-1)))⟩, ⟨(some 16), none, .mv (.t 17) false⟩]) (.cond (.t 16) (.ops 9 [⟨(some 5), none, .mv (.c (.str [45, 110])) false⟩]) (.ops 3 [⟨(some 7), none, .mv (.t 0) false⟩, ⟨(some 8), none, .call 39 [(.t 7)]⟩, ⟨(some 9), none, .bin .add .no (.t 8) (.c (.str [110]))⟩, ⟨(some 5), none, .mv (.t 9) false⟩]))))))))) (.seq (.seq (.ops 10 [⟨(some 18), none, .mv (.t 1) false⟩, ⟨(some 19), none, .bin .gtr .no (.t 18) (.c (.int .i64 0))⟩]) (.cond (.t 19) (.ops 11 [⟨(some 20), none, .mv (.t 5) false⟩, ⟨(some 21), none, .bin .add .no (.t 20) (.c (.str [43]))⟩, ⟨(some 5), none, .mv (.t 21) false⟩]) .skip)) (.seq (.seq (.ops 12 [⟨(some 22), none, .mv (.t 1) false⟩, ⟨(some 23), none, .bin .neq .no (.t 22) (.c (.int .i64 0))⟩]) (.cond (.t 23) (.ops 13 [⟨(some 24), none, .mv (.t 5) false⟩, ⟨(some 25), none, .mv (.t 1) false⟩, ⟨(some 26), none, .call 39 [(.t 25)]⟩, ⟨(some 27), none, .bin .add .no (.t 24) (.t 26)⟩, ⟨(some 5), none, .mv (.t 27) false⟩]) .skip)) (.seq (.ops 14 [⟨(some 28), none, .mv (.t 5) false⟩, ⟨(some 4), none, .mv (.t 28) false⟩]) .ret))))))⟩
theorem ok_c_anb_Text : chkFn Tryz.prog 21 c_anb_Text = true := chkFn_of Tryz.func21 (by kernel_rfl)
def j_anb_Text_2 (M : Mach) (n0 : Nat) (z5 : V) (σ : Objs) : Ro :=
  bd (oneK false z5.nogr.nogr) (endK n0 σ)
def j_anb_Text_1 (M : Mach) (n0 : Nat) (z1 z5 : V) (σ : Objs) : Ro :=
  bd (pu (evBin .neq .no z1.nogr.nogr (.int .i64 0))) fun x0 =>
  br x0.nogr (
  bd (M.call 39 [z1.nogr.nogr] σ) fun p1 =>
  bd (pu (evBin .add .no z5.nogr.nogr p1.1.nogr)) fun x2 =>
  j_anb_Text_2 M n0 x2.nogr p1.2) (
  j_anb_Text_2 M n0 z5 σ)
def j_anb_Text_0 (M : Mach) (n0 : Nat) (z1 z5 : V) (σ : Objs) : Ro :=
  bd (pu (evBin .gtr .no z1.nogr.nogr (.int .i64 0))) fun x3 =>
  br x3.nogr (
  bd (pu (evBin .add .no z5.nogr.nogr (.str [43]))) fun x4 =>
  j_anb_Text_1 M n0 z1 x4.nogr σ) (
  j_anb_Text_1 M n0 z1 z5 σ)
def s_anb_Text (M : Mach) (a0 a1 : V) (σ : Objs) : Ro :=
  bd (pu (evBin .eql .no a0.nogr.nogr (.int .i64 0))) fun x5 =>
  br x5.nogr.nogr (
  bd (M.call 39 [a1.nogr.nogr] σ) fun p6 =>
  bd (oneK false p6.1.nogr) (endK σ.length p6.2)) (
  bd (pu (evBin .eql .no a0.nogr.nogr (.int .i64 1))) fun x7 =>
  br x7.nogr.nogr (
  j_anb_Text_0 M σ.length a1 (.str [110]) σ) (
  bd (pu (evBin .eql .no a0.nogr.nogr (.int .i64 (-1)))) fun x8 =>
  br x8.nogr.nogr (
  j_anb_Text_0 M σ.length a1 (.str [45, 110]) σ) (
  bd (M.call 39 [a0.nogr.nogr] σ) fun p9 =>
  bd (pu (evBin .add .no p9.1.nogr (.str [110]))) fun x10 =>
  j_anb_Text_0 M σ.length a1 x10.nogr p9.2)))
theorem k_anb_Text (M : Mach) (a0 a1 : V) (σ : Objs) : fnK M c_anb_Text [a0, a1] σ = s_anb_Text M a0 a1 σ := by kernel_rfl
def c_wattleref04_Text : Ev.Fn := ⟨31, [.tmp 4], false, false, (.seq (.ops 0 [⟨(some 4), none, .mv (.c (.str [])) false⟩]) (.seq (.seq (.ops 1 [⟨(some 6), none, .mv (.t 0) false⟩, ⟨(some 7), none, .bin .eql .no (.t 6) (.c (.int .i64 0))⟩]) (.cond (.t 7) (.seq (.ops 2 [⟨(some 8), none, .mv (.t 1) false⟩, ⟨(some 9), none, .call 40 [(.t 8)]⟩, ⟨(some 4), none, .mv (.t 9) false⟩]) .ret) .skip)) (.seq (.ops 3 [⟨(some 10), none, .mv (.t 0) false⟩, ⟨(some 11), none, .call 40 [(.t 10)]⟩, ⟨(some 12), none, .bin .add .no (.t 11) (.c (.str [110]))⟩, ⟨(some 5), none, .mv (.t 12) false⟩]) (.seq (.seq (.ops 4 [⟨(some 13), none, .mv (.t 0) false⟩, ⟨(some 14), none, .bin .eql .no (.t 13) (.c (.int .i64 1))⟩]) (.cond (.t 14) (.ops 5 [⟨(some 5), none, .mv (.c (.str [110])) false⟩]) .skip)) (.seq (.seq (.ops 6 [⟨(some 15), none, .mv (.t 0) false⟩, ⟨(some 16), none, .bin .eql .no (.t 15) (.c (.int .i64 (-1)))⟩]) (.cond (.t 16) (.ops 7 [⟨(some 5), none, .mv (.c (.str [45, 110])) false⟩]) .skip)) (.seq (.seq (.ops 8 [⟨(some 17), none, .mv (.t 1) false⟩, ⟨(some 18), none, .bin .gtr .no (.t 17) (.c (.int .i64 0))⟩]) (.cond (.t 18) (.seq (.ops 9 [⟨(some 19), none, .mv (.t 5) false⟩, ⟨(some 20), none, .bin .add .no (.t 19) (.c (.str [43]))⟩, ⟨(some 21), none, .mv (.t 1) false⟩, ⟨(some 22), none, .call 40 [(.t 21)]⟩, ⟨(some 23), none, .bin .add .no (.t 20) (.t 22)⟩, ⟨(some 4), none, .mv (.t 23) false⟩]) .ret) .skip)) (.seq (.seq (.ops 10 [⟨(some 24), none, .mv (.t 1) false⟩, ⟨(some 25), none, .bin .lss .no (.t 24) (.c (.int .i64 0))⟩]) (.cond (.t 25) (.seq (.ops 11 [⟨(some 26), none, .mv (.t 5) false⟩, ⟨(some 27), none, .mv (.t 1) false⟩, ⟨(some 28), none, .call 40 [(.t 27)]⟩, ⟨(some 29), none, .bin .add .no (.t 26) (.t 28)⟩, ⟨(some 4), none, .mv (.t 29) false⟩]) .ret) .skip)) (.seq (.ops 12 [⟨(some 30), none, .mv (.t 5) false⟩, ⟨(some 4), none, .mv (.t 30) false⟩]) .ret))))))))⟩
theorem ok_c_wattleref04_Text : chkFn Tryz.prog 22 c_wattleref04_Text = true := chkFn_of Tryz.func22 (by kernel_rfl)
def j_wattleref04_Text_1 (M : Mach) (n0 : Nat) (z1 z5 : V) (σ : Objs) : Ro :=
  bd (pu (evBin .gtr .no z1.nogr.nogr (.int .i64 0))) fun x4 =>
  br x4.nogr (
  bd (pu (evBin .add .no z5.nogr.nogr (.str [43]))) fun x5 =>
  bd (M.call 40 [z1.nogr.nogr] σ) fun p6 =>
  bd (pu (evBin .add .no x5.nogr p6.1.nogr)) fun x7 =>
  bd (oneK false x7.nogr) (endK n0 p6.2)) (
  bd (pu (evBin .lss .no z1.nogr.nogr (.int .i64 0))) fun x8 =>
  br x8.nogr (
  bd (M.call 40 [z1.nogr.nogr] σ) fun p9 =>
  bd (pu (evBin .add .no z5.nogr.nogr p9.1.nogr)) fun x10 =>
  bd (oneK false x10.nogr) (endK n0 p9.2)) (
  bd (oneK false z5.nogr.nogr) (endK n0 σ)))
def j_wattleref04_Text_0 (M : Mach) (n0 : Nat) (z0 z1 z5 : V) (σ : Objs) : Ro :=
  bd (pu (evBin .eql .no z0.nogr.nogr (.int .i64 (-1)))) fun x11 =>
  br x11.nogr (
  j_wattleref04_Text_1 M n0 z1 (.str [45, 110]) σ) (
  j_wattleref04_Text_1 M n0 z1 z5 σ)
def s_wattleref04_Text (M : Mach) (a0 a1 : V) (σ : Objs) : Ro :=
  bd (pu (evBin .eql .no a0.nogr.nogr (.int .i64 0))) fun x0 =>
  br x0.nogr (
  bd (M.call 40 [a1.nogr.nogr] σ) fun p1 =>
  bd (oneK false p1.1.nogr) (endK σ.length p1.2)) (
  bd (M.call 40 [a0.nogr.nogr] σ) fun p2 =>
  bd (pu (evBin .add .no p2.1.nogr (.str [110]))) fun x3 =>
  bd (pu (evBin .eql .no a0.nogr.nogr (.int .i64 1))) fun x12 =>
  br x12.nogr (
  j_wattleref04_Text_0 M σ.length a0 a1 (.str [110]) p2.2) (
  j_wattleref04_Text_0 M σ.length a0 a1 x3.nogr p2.2))
theorem k_wattleref04_Text (M : Mach) (a0 a1 : V) (σ : Objs) : fnK M c_wattleref04_Text [a0, a1] σ = s_wattleref04_Text M a0 a1 σ := by kernel_rfl
def c_anb_direction : Ev.Fn := ⟨5, [.tmp 2], false, false, (.seq (.ops 0 [⟨(some 2), none, .mv (.c (.int .u64 0)) false⟩]) (.seq (.seq (.ops 1 [⟨(some 3), none, .mv (.t 0) false⟩, ⟨(some 4), none, .bin .lss .no (.t 3) (.c (.int .i64 0))⟩]) (.cond (.t 4) (.seq (.ops 2 [⟨(some 2), none, .mv (.c (.int .u64 18446744073709551615)) false⟩]) .ret) .skip)) (.seq (.ops 3 [⟨(some 2), none, .mv (.c (.int .u64 1)) false⟩]) .ret)))⟩
theorem ok_c_anb_direction : chkFn Tryz.prog 23 c_anb_direction = true := chkFn_of Tryz.func23 (by kernel_rfl)
def s_anb_direction (M : Mach) (a0 : V) (σ : Objs) : Ro :=
  bd (pu (evBin .lss .no a0.nogr.nogr (.int .i64 0))) fun x0 =>
  br x0.nogr (
  bd (oneK false (.int .u64 18446744073709551615)) (endK σ.length σ)) (
  bd (oneK false (.int .u64 1)) (endK σ.length σ))
theorem k_anb_direction (M : Mach) (a0 : V) (σ : Objs) : fnK M c_anb_direction [a0] σ = s_anb_direction M a0 σ := by kernel_rfl
def c_anb_magnitude : Ev.Fn := ⟨8, [.tmp 2], false, false, (.seq (.ops 0 [⟨(some 2), none, .mv (.c (.int .u64 0)) false⟩]) (.seq (.ops 1 [⟨(some 3), none, .mv (.t 0) false⟩, ⟨(some 4), none, .conv (.toInt .u64) (.t 3)⟩, ⟨(some 5), none, .mv (.t 0) false⟩, ⟨(some 6), none, .call 23 [(.t 5)]⟩, ⟨(some 7), none, .bin .mul .no (.t 4) (.t 6)⟩, ⟨(some 2), none, .mv (.t 7) false⟩]) .ret))⟩
theorem ok_c_anb_magnitude : chkFn Tryz.prog 24 c_anb_magnitude = true := chkFn_of Tryz.func24 (by kernel_rfl)
def s_anb_magnitude (M : Mach) (a0 : V) (σ : Objs) : Ro :=
  bd (pu (evConv σ (.toInt .u64) a0.nogr.nogr)) fun x0 =>
  bd (M.call 23 [a0.nogr.nogr] σ) fun p1 =>
  bd (pu (evBin .mul .no x0.nogr p1.1.nogr)) fun x2 =>
  bd (oneK false x2.nogr) (endK σ.length p1.2)
theorem k_anb_magnitude (M : Mach) (a0 : V) (σ : Objs) : fnK M c_anb_magnitude [a0] σ = s_anb_magnitude M a0 σ := by kernel_rfl
def c_wattleref01_Chars : Ev.Fn := ⟨32, [.tmp 2], false, false, (.seq (.ops 0 [⟨(some 2), none, .mv (.c .nils) false⟩]) (.seq (.ops 1 [⟨(some 7), none, .buildSl false 1 0 .any [] false⟩, ⟨(some 3), none, .mv (.t 7) true⟩, ⟨(some 4), none, .mv (.c (.int .i64 0)) false⟩]) (.seq (.block 0 (.loop [0, 3, 4] [2, 3] (.seq (.seq (.ops 2 [⟨(some 8), none, .mv (.t 4) false⟩, ⟨(some 9), none, .mv (.t 0) false⟩, ⟨(some 10), none, .len (.t 9)⟩, ⟨(some 11), none, .bin .lss .no (.t 8) (.t 10)⟩]) (.cond (.t 11) .skip (.exit 0))) (.block 1 (.seq (.ops 3 [⟨(some 13), none, .mv (.t 0) false⟩, ⟨(some 14), none, .mv (.t 4) false⟩, ⟨(some 15), none, .call 52 [(.t 13), (.t 14)]⟩, ⟨(some 12), none, .mv (.t 15) false⟩, ⟨(some 16), none, .extr (.t 12) 0⟩, ⟨(some 17), none, .extr (.t 12) 1⟩, ⟨(some 5), none, .mv (.t 16) false⟩, ⟨(some 6), none, .mv (.t 17) false⟩]) (.seq (.seq (.ops 4 [⟨(some 18), none, .mv (.t 4) false⟩, ⟨(some 19), none, .bin .gtr .no (.t 18) (.c (.int .i64 0))⟩, ⟨(some 20), none, .mv (.t 19) false⟩, ⟨(some 21), (some (20, false)), .mv (.t 5) false⟩, ⟨(some 22), (some (20, false)), .bin .neq .no (.t 21) (.c (.int .i64 65279))⟩, ⟨(some 23), none, .pick (.t 20) (.c (.bool true)) (.t 22)⟩]) (.cond (.t 23) (.ops 5 [⟨(some 24), none, .mv (.t 3) true⟩, ⟨(some 25), none, .mv (.t 5) false⟩, ⟨(some 26), none, .buildSl false 1 1 (.int .i64 0) [(0, (.t 25))] false⟩, ⟨(some 27), none, .app false false 1 8 (.t 24) (.t 26) true⟩, ⟨(some 3), none, .mv (.t 27) true⟩]) .skip)) (.ops 6 [⟨(some 28), none, .mv (.t 4) false⟩, ⟨(some 29), none, .mv (.t 6) false⟩, ⟨(some 30), none, .bin .add .no (.t 28) (.t 29)⟩, ⟨(some 4), none, .mv (.t 30) false⟩]))))))) (.seq (.ops 7 [⟨(some 31), none, .mv (.t 3) true⟩, ⟨(some 2), none, .mv (.t 31) true⟩]) .ret))))⟩
theorem ok_c_wattleref01_Chars : chkFn Tryz.prog 32 c_wattleref01_Chars = true := chkFn_of Tryz.func32 (by kernel_rfl)
def j_wattleref01_Chars_0 (M : Mach) (n0 : Nat) (n1 : Nat) (r1 : Rk) (z0 z3 z4 z6 : V) (σ : Objs) : Ro :=
  bd (pu (evBin .add .no z4.nogr.nogr z6.nogr.nogr)) fun x6 =>
  bd (fz n1 σ fzDepth z0) fun y7 =>
  bd (fz n1 σ fzDepth z3) fun y8 =>
  bd (fz n1 σ fzDepth x6.nogr) fun y9 =>
  bd (cutObjs n1 σ) fun s10 => r1 [y7, y8, y9] s10
def b_wattleref01_Chars_0 (M : Mach) (n0 : Nat) (n1 : Nat) (r1 : Rk) (z0 z3 z4 : V) (σ : Objs) : Ro :=
  bd (pu (evLen z0.nogr.nogr)) fun x1 =>
  bd (pu (evBin .lss .no z4.nogr.nogr x1.nogr)) fun x2 =>
  br x2.nogr (
  bd (M.call 52 [z0.nogr.nogr, z4.nogr.nogr] σ) fun p3 =>
  bd (pu (evExtr 0 p3.1.nogr.nogr)) fun x4 =>
  bd (pu (evExtr 1 p3.1.nogr.nogr)) fun x5 =>
  bd (pu (evBin .gtr .no z4.nogr.nogr (.int .i64 0))) fun x11 =>
  bd (gdv x11.nogr false (some x4.nogr.nogr)) fun x12 =>
  bd (gdv x11.nogr false (pu (evBin .neq .no x12.nogr (.int .i64 65279)))) fun x13 =>
  bd (pu (pickV x11.nogr.nogr (.bool true) x13.nogr)) fun x14 =>
  br x14.nogr (
  bd (buildFV false 1 1 (.int .i64 0) [(0, x4.nogr.nogr.nogr)]) fun x15 =>
  bd (appV false false 1 8 p3.2 z3 x15.nogr) fun x16 =>
  j_wattleref01_Chars_0 M n0 n1 r1 z0 x16 z4 x5.nogr p3.2) (
  j_wattleref01_Chars_0 M n0 n1 r1 z0 z3 z4 x5.nogr p3.2)) (
  bd (fz n1 σ fzDepth .any) fun y17 =>
  bd (fz n1 σ fzDepth z3) fun y18 =>
  bd (cutObjs n1 σ) fun s19 =>
  bd (oneK false y18) (endK n0 s19))
def l_wattleref01_Chars_0 (M : Mach) (n0 : Nat) (n1 : Nat) : Rk := M.fx fun rec vs σ => b_wattleref01_Chars_0 M n0 n1 rec (vs.getD 0 .undef) (vs.getD 1 .undef) (vs.getD 2 .undef) σ
def s_wattleref01_Chars (M : Mach) (a0 : V) (σ : Objs) : Ro :=
  bd (buildFV false 1 0 .any []) fun x0 =>
  bd (fz σ.length σ fzDepth a0) fun y20 =>
  bd (fz σ.length σ fzDepth x0) fun y21 =>
  bd (fz σ.length σ fzDepth (.int .i64 0)) fun y22 =>
  l_wattleref01_Chars_0 M σ.length σ.length [y20, y21, y22] σ
theorem k_wattleref01_Chars (M : Mach) (a0 : V) (σ : Objs) : fnK M c_wattleref01_Chars [a0] σ = s_wattleref01_Chars M a0 σ := by kernel_rfl
def c_wattleref01_Prepare : Ev.Fn := ⟨52, [.tmp 2], false, false, (.seq (.ops 0 [⟨(some 2), none, .mv (.c .nils) false⟩]) (.seq (.ops 1 [⟨(some 6), none, .buildSl false 1 0 .any [] false⟩, ⟨(some 3), none, .mv (.t 6) true⟩]) (.seq (.seq (.ops 2 [⟨(some 4), none, .mv (.c (.int .i64 0)) false⟩]) (.block 0 (.loop [0, 3, 4] [2, 3] (.seq (.seq (.ops 3 [⟨(some 7), none, .mv (.t 4) false⟩, ⟨(some 8), none, .mv (.t 0) false⟩, ⟨(some 9), none, .len (.t 8)⟩, ⟨(some 10), none, .bin .lss .no (.t 7) (.t 9)⟩]) (.cond (.t 10) .skip (.exit 0))) (.seq (.block 1 (.seq (.ops 5 [⟨(some 13), none, .mv (.t 0) false⟩, ⟨(some 14), none, .mv (.t 4) false⟩, ⟨(some 15), none, .iaddr 1 (.t 13) (.t 14)⟩, ⟨(some 16), none, .load false 1 (.t 15)⟩, ⟨(some 5), none, .mv (.t 16) false⟩]) (.seq (.seq (.ops 6 [⟨(some 17), none, .mv (.t 5) false⟩, ⟨(some 18), none, .bin .eql .no (.t 17) (.c (.int .i64 13))⟩, ⟨(some 19), none, .mv (.t 18) false⟩, ⟨(some 20), (some (19, true)), .mv (.t 4) false⟩, ⟨(some 21), (some (19, true)), .bin .add .no (.t 20) (.c (.int .i64 1))⟩, ⟨(some 22), (some (19, true)), .mv (.t 0) false⟩, ⟨(some 23), (some (19, true)), .len (.t 22)⟩, ⟨(some 24), (some (19, true)), .bin .lss .no (.t 21) (.t 23)⟩, ⟨(some 25), none, .pick (.t 19) (.t 24) (.c (.bool false))⟩, ⟨(some 26), none, .mv (.t 25) false⟩, ⟨(some 27), (some (26, true)), .mv (.t 0) false⟩, ⟨(some 28), (some (26, true)), .mv (.t 4) false⟩, ⟨(some 29), (some (26, true)), .bin .add .no (.t 28) (.c (.int .i64 1))⟩, ⟨(some 30), (some (26, true)), .iaddr 1 (.t 27) (.t 29)⟩, ⟨(some 31), (some (26, true)), .load false 1 (.t 30)⟩, ⟨(some 32), (some (26, true)), .bin .eql .no (.t 31) (.c (.int .i64 10))⟩, ⟨(some 33), none, .pick (.t 26) (.t 32) (.c (.bool false))⟩]) (.cond (.t 33) (.exit 1) .skip)) (.seq (.seq (.ops 7 [⟨(some 34), none, .mv (.t 5) false⟩, ⟨(some 35), none, .bin .eql .no (.t 34) (.c (.int .i64 13))⟩, ⟨(some 36), none, .mv (.t 35) false⟩, ⟨(some 37), (some (36, false)), .mv (.t 5) false⟩, ⟨(some 38), (some (36, false)), .bin .eql .no (.t 37) (.c (.int .i64 12))⟩, ⟨(some 39), none, .pick (.t 36) (.c (.bool true)) (.t 38)⟩]) (.cond (.t 39) (.ops 8 [⟨(some 5), none, .mv (.c (.int .i64 10)) false⟩]) .skip)) (.seq (.seq (.ops 9 [⟨(some 40), none, .mv (.t 5) false⟩, ⟨(some 41), none, .bin .eql .no (.t 40) (.c (.int .i64 0))⟩, ⟨(some 42), none, .mv (.t 41) false⟩, ⟨(some 43), (some (42, false)), .mv (.t 5) false⟩, ⟨(some 44), (some (42, false)), .call 51 [(.t 43)]⟩, ⟨(some 45), (some (42, false)), .un .not (.t 44)⟩, ⟨(some 46), none, .pick (.t 42) (.c (.bool true)) (.t 45)⟩]) (.cond (.t 46) (.ops 10 [⟨(some 5), none, .mv (.c (.int .i64 65533)) false⟩]) .skip)) (.ops 11 [⟨(some 47), none, .mv (.t 3) true⟩, ⟨(some 48), none, .mv (.t 5) false⟩, ⟨(some 49), none, .buildSl false 1 1 (.int .i64 0) [(0, (.t 48))] false⟩, ⟨(some 50), none, .app false false 1 8 (.t 47) (.t 49) true⟩, ⟨(some 3), none, .mv (.t 50) true⟩])))))) (.ops 4 [⟨(some 11), none, .mv (.t 4) false⟩, ⟨(some 12), none, .bin .add .no (.t 11) (.c (.int .i64 1))⟩, ⟨(some 4), none, .mv (.t 12) false⟩])))))) (.seq (.ops 12 [⟨(some 51), none, .mv (.t 3) true⟩, ⟨(some 2), none, .mv (.t 51) true⟩]) .ret))))⟩
theorem ok_c_wattleref01_Prepare : chkFn Tryz.prog 31 c_wattleref01_Prepare = true := chkFn_of Tryz.func31 (by kernel_rfl)
def j_wattleref01_Prepare_0 (M : Mach) (n0 : Nat) (n1 : Nat) (r1 : Rk) (z0 z3 z4 : V) (σ : Objs) : Ro :=
  bd (pu (evBin .add .no z4.nogr.nogr (.int .i64 1))) fun x3 =>
  bd (fz n1 σ fzDepth z0) fun y4 =>
  bd (fz n1 σ fzDepth z3) fun y5 =>
  bd (fz n1 σ fzDepth x3.nogr) fun y6 =>
  bd (cutObjs n1 σ) fun s7 => r1 [y4, y5, y6] s7
def j_wattleref01_Prepare_2 (M : Mach) (n0 : Nat) (n1 : Nat) (r1 : Rk) (z0 z3 z4 z5 : V) (σ : Objs) : Ro :=
  bd (buildFV false 1 1 (.int .i64 0) [(0, z5.nogr.nogr)]) fun x24 =>
  bd (appV false false 1 8 σ z3 x24.nogr) fun x25 =>
  j_wattleref01_Prepare_0 M n0 n1 r1 z0 x25 z4 σ
def j_wattleref01_Prepare_1 (M : Mach) (n0 : Nat) (n1 : Nat) (r1 : Rk) (z0 z3 z4 z5 : V) (σ : Objs) : Ro :=
  bd (pu (evBin .eql .no z5.nogr.nogr (.int .i64 0))) fun x26 =>
  bd (gdv x26.nogr false (some z5.nogr)) fun x27 =>
  bd (gdp x26.nogr false (M.call 51 [x27.nogr] σ) σ) fun p28 =>
  bd (gdv x26.nogr false (pu (evUn .not p28.1.nogr))) fun x29 =>
  bd (pu (pickV x26.nogr.nogr (.bool true) x29.nogr)) fun x30 =>
  br x30.nogr (
  j_wattleref01_Prepare_2 M n0 n1 r1 z0 z3 z4 (.int .i64 65533) p28.2) (
  j_wattleref01_Prepare_2 M n0 n1 r1 z0 z3 z4 z5 p28.2)
def b_wattleref01_Prepare_0 (M : Mach) (n0 : Nat) (n1 : Nat) (r1 : Rk) (z0 z3 z4 : V) (σ : Objs) : Ro :=
  bd (pu (evLen z0.nogr.nogr)) fun x1 =>
  bd (pu (evBin .lss .no z4.nogr.nogr x1.nogr)) fun x2 =>
  br x2.nogr (
  bd (pu (evIaddr 1 z4.nogr.nogr z0.nogr.nogr)) fun x8 =>
  bd (pu (evLoad σ false 1 x8.nogr)) fun x9 =>
  bd (pu (evBin .eql .no x9.nogr.nogr.nogr (.int .i64 13))) fun x10 =>
  bd (gdv x10.nogr true (some z4.nogr)) fun x11 =>
  bd (gdv x10.nogr true (pu (evBin .add .no x11.nogr (.int .i64 1)))) fun x12 =>
  bd (gdv x10.nogr true (some z0.nogr)) fun x13 =>
  bd (gdv x10.nogr true (pu (evLen x13.nogr))) fun x14 =>
  bd (gdv x10.nogr true (pu (evBin .lss .no x12.nogr x14.nogr))) fun x15 =>
  bd (pu (pickV x10.nogr.nogr x15.nogr (.bool false))) fun x16 =>
  bd (gdv x16.nogr true (some z0.nogr)) fun x17 =>
  bd (gdv x16.nogr true (some z4.nogr)) fun x18 =>
  bd (gdv x16.nogr true (pu (evBin .add .no x18.nogr (.int .i64 1)))) fun x19 =>
  bd (gdv x16.nogr true (pu (evIaddr 1 x19.nogr x17.nogr))) fun x20 =>
  bd (gdv x16.nogr true (pu (evLoad σ false 1 x20.nogr))) fun x21 =>
  bd (gdv x16.nogr true (pu (evBin .eql .no x21.nogr (.int .i64 10)))) fun x22 =>
  bd (pu (pickV x16.nogr.nogr x22.nogr (.bool false))) fun x23 =>
  br x23.nogr (
  j_wattleref01_Prepare_0 M n0 n1 r1 z0 z3 z4 σ) (
  bd (pu (evBin .eql .no x9.nogr.nogr.nogr (.int .i64 13))) fun x31 =>
  bd (gdv x31.nogr false (some x9.nogr.nogr)) fun x32 =>
  bd (gdv x31.nogr false (pu (evBin .eql .no x32.nogr (.int .i64 12)))) fun x33 =>
  bd (pu (pickV x31.nogr.nogr (.bool true) x33.nogr)) fun x34 =>
  br x34.nogr (
  j_wattleref01_Prepare_1 M n0 n1 r1 z0 z3 z4 (.int .i64 10) σ) (
  j_wattleref01_Prepare_1 M n0 n1 r1 z0 z3 z4 x9.nogr σ))) (
  bd (fz n1 σ fzDepth .any) fun y35 =>
  bd (fz n1 σ fzDepth z3) fun y36 =>
  bd (cutObjs n1 σ) fun s37 =>
  bd (oneK false y36) (endK n0 s37))
def l_wattleref01_Prepare_0 (M : Mach) (n0 : Nat) (n1 : Nat) : Rk := M.fx fun rec vs σ => b_wattleref01_Prepare_0 M n0 n1 rec (vs.getD 0 .undef) (vs.getD 1 .undef) (vs.getD 2 .undef) σ
def s_wattleref01_Prepare (M : Mach) (a0 : V) (σ : Objs) : Ro :=
  bd (buildFV false 1 0 .any []) fun x0 =>
  bd (fz σ.length σ fzDepth a0) fun y38 =>
  bd (fz σ.length σ fzDepth x0) fun y39 =>
  bd (fz σ.length σ fzDepth (.int .i64 0)) fun y40 =>
  l_wattleref01_Prepare_0 M σ.length σ.length [y38, y39, y40] σ
theorem k_wattleref01_Prepare (M : Mach) (a0 : V) (σ : Objs) : fnK M c_wattleref01_Prepare [a0] σ = s_wattleref01_Prepare M a0 σ := by kernel_rfl
def c_wattleref03_All : Ev.Fn := ⟨20, [.tmp 2], false, false, (.seq (.ops 0 [⟨(some 2), none, .mv (.c .nils) false⟩]) (.seq (.ops 1 [⟨(some 6), none, .buildSl true 6 0 (.agg []) [] false⟩, ⟨(some 3), none, .mv (.t 6) true⟩, ⟨(some 4), none, .mv (.c (.int .i64 0)) false⟩]) (.block 0 (.loop [0, 3, 4] [2] (.block 1 (.seq (.ops 2 [⟨(some 7), none, .mv (.t 0) false⟩, ⟨(some 8), none, .mv (.t 4) false⟩, ⟨(some 9), none, .call 50 [(.t 7), (.t 8)]⟩, ⟨(some 5), none, .alloc [(.int .i64 0), (.int .i64 0), (.int .i64 0), (.str []), (.str []), (.bool false)]⟩, ⟨none, none, .store 6 (.t 5) (.t 9) false⟩]) (.seq (.ops 3 [⟨(some 10), none, .mv (.t 3) true⟩, ⟨(some 11), none, .load true 6 (.t 5)⟩, ⟨(some 12), none, .buildSl true 6 1 (.agg [(.int .i64 0), (.int .i64 0), (.int .i64 0), (.str []), (.str []), (.bool false)]) [(0, (.t 11))] false⟩, ⟨(some 13), none, .app false true 6 64 (.t 10) (.t 12) true⟩, ⟨(some 3), none, .mv (.t 13) true⟩]) (.seq (.seq (.ops 4 [⟨(some 14), none, .faddr 0 (.t 5)⟩, ⟨(some 15), none, .load false 1 (.t 14)⟩, ⟨(some 16), none, .bin .eql .no (.t 15) (.c (.int .i64 0))⟩]) (.cond (.t 16) (.seq (.ops 5 [⟨(some 17), none, .mv (.t 3) true⟩, ⟨(some 2), none, .mv (.t 17) true⟩]) .ret) .skip)) (.ops 6 [⟨(some 18), none, .faddr 2 (.t 5)⟩, ⟨(some 19), none, .load false 1 (.t 18)⟩, ⟨(some 4), none, .mv (.t 19) false⟩])))))))))⟩
theorem ok_c_wattleref03_All : chkFn Tryz.prog 30 c_wattleref03_All = true := chkFn_of Tryz.func30 (by kernel_rfl)
def b_wattleref03_All_0 (M : Mach) (n0 : Nat) (n1 : Nat) (r1 : Rk) (z0 z3 z4 : V) (σ : Objs) : Ro :=
  bd (M.call 50 [z0.nogr.nogr, z4.nogr.nogr] σ) fun p1 =>
  let s2 : Objs := p1.2 ++ [.cells [(.int .i64 0), (.int .i64 0), (.int .i64 0), (.str []), (.str []), (.bool false)]]
  bd (storeV s2 6 (.ptr p1.2.length 0) p1.1.nogr p1.1.nogr) fun p3 =>
  bd (pu (evLoad p3.2 true 6 (.ptr p1.2.length 0))) fun x4 =>
  bd (buildFV true 6 1 (.agg [(.int .i64 0), (.int .i64 0), (.int .i64 0), (.str []), (.str []), (.bool false)]) [(0, x4.nogr)]) fun x5 =>
  bd (appV false true 6 64 p3.2 z3 x5.nogr) fun x6 =>
  bd (pu (evFaddr 0 (.ptr p1.2.length 0))) fun x7 =>
  bd (pu (evLoad p3.2 false 1 x7.nogr)) fun x8 =>
  bd (pu (evBin .eql .no x8.nogr (.int .i64 0))) fun x9 =>
  br x9.nogr (
  bd (fz n1 p3.2 fzDepth x6) fun y10 =>
  bd (cutObjs n1 p3.2) fun s11 =>
  bd (oneK false y10) (endK n0 s11)) (
  bd (pu (evFaddr 2 (.ptr p1.2.length 0))) fun x12 =>
  bd (pu (evLoad p3.2 false 1 x12.nogr)) fun x13 =>
  bd (fz n1 p3.2 fzDepth z0) fun y14 =>
  bd (fz n1 p3.2 fzDepth x6) fun y15 =>
  bd (fz n1 p3.2 fzDepth x13.nogr) fun y16 =>
  bd (cutObjs n1 p3.2) fun s17 => r1 [y14, y15, y16] s17)
def l_wattleref03_All_0 (M : Mach) (n0 : Nat) (n1 : Nat) : Rk := M.fx fun rec vs σ => b_wattleref03_All_0 M n0 n1 rec (vs.getD 0 .undef) (vs.getD 1 .undef) (vs.getD 2 .undef) σ
def s_wattleref03_All (M : Mach) (a0 : V) (σ : Objs) : Ro :=
  bd (buildFV true 6 0 (.agg []) []) fun x0 =>
  bd (fz σ.length σ fzDepth a0) fun y18 =>
  bd (fz σ.length σ fzDepth x0) fun y19 =>
  bd (fz σ.length σ fzDepth (.int .i64 0)) fun y20 =>
  l_wattleref03_All_0 M σ.length σ.length [y18, y19, y20] σ
theorem k_wattleref03_All (M : Mach) (a0 : V) (σ : Objs) : fnK M c_wattleref03_All [a0] σ = s_wattleref03_All M a0 σ := by kernel_rfl
def c___anb_reader__skip : Ev.Fn := ⟨13, [.tmp 4], false, false, (.seq (.ops 0 [⟨(some 4), none, .mv (.c (.int .i64 0)) false⟩]) (.seq (.block 0 (.loop [0, 1] [1, 4] (.seq (.seq (.ops 1 [⟨(some 5), none, .mv (.t 0) false⟩, ⟨(some 6), none, .mv (.t 1) false⟩, ⟨(some 7), none, .call 41 [(.t 5), (.t 6)]⟩, ⟨(some 8), none, .field false 0 1 (.t 7)⟩, ⟨(some 9), none, .bin .eql .no (.t 8) (.c (.int .i64 13))⟩]) (.cond (.t 9) .skip (.exit 0))) (.block 1 (.ops 2 [⟨(some 10), none, .mv (.t 1) false⟩, ⟨(some 11), none, .bin .add .no (.t 10) (.c (.int .i64 1))⟩, ⟨(some 1), none, .mv (.t 11) false⟩]))))) (.seq (.ops 3 [⟨(some 12), none, .mv (.t 1) false⟩, ⟨(some 4), none, .mv (.t 12) false⟩]) .ret)))⟩
theorem ok_c___anb_reader__skip : chkFn Tryz.prog 25 c___anb_reader__skip = true := chkFn_of Tryz.func25 (by kernel_rfl)
def b___anb_reader__skip_0 (M : Mach) (n0 : Nat) (n1 : Nat) (r1 : Rk) (z0 z1 : V) (σ : Objs) : Ro :=
  bd (M.call 41 [z0.nogr.nogr, z1.nogr.nogr] σ) fun p0 =>
  bd (pu (evField false 0 1 p0.1.nogr)) fun x1 =>
  bd (pu (evBin .eql .no x1.nogr (.int .i64 13))) fun x2 =>
  br x2.nogr (
  bd (pu (evBin .add .no z1.nogr.nogr (.int .i64 1))) fun x3 =>
  bd (fz n1 p0.2 fzDepth z0) fun y4 =>
  bd (fz n1 p0.2 fzDepth x3.nogr) fun y5 =>
  bd (cutObjs n1 p0.2) fun s6 => r1 [y4, y5] s6) (
  bd (fz n1 p0.2 fzDepth z1) fun y7 =>
  bd (fz n1 p0.2 fzDepth .any) fun y8 =>
  bd (cutObjs n1 p0.2) fun s9 =>
  bd (oneK false y7.nogr.nogr) (endK n0 s9))
def l___anb_reader__skip_0 (M : Mach) (n0 : Nat) (n1 : Nat) : Rk := M.fx fun rec vs σ => b___anb_reader__skip_0 M n0 n1 rec (vs.getD 0 .undef) (vs.getD 1 .undef) σ
def s___anb_reader__skip (M : Mach) (a0 a1 : V) (σ : Objs) : Ro :=
  bd (fz σ.length σ fzDepth a0) fun y10 =>
  bd (fz σ.length σ fzDepth a1) fun y11 =>
  l___anb_reader__skip_0 M σ.length σ.length [y10, y11] σ
theorem k___anb_reader__skip (M : Mach) (a0 a1 : V) (σ : Objs) : fnK M c___anb_reader__skip [a0, a1] σ = s___anb_reader__skip M a0 a1 σ := by kernel_rfl
def c___anb_reader__fixed : Ev.Fn := ⟨51, [.tmp 2, .tmp 3, .tmp 4], false, false, (.seq (.ops 0 [⟨(some 2), none, .mv (.c (.int .i64 0)) false⟩, ⟨(some 3), none, .mv (.c (.int .i64 0)) false⟩, ⟨(some 4), none, .mv (.c (.bool false)) false⟩]) (.seq (.ops 1 [⟨(some 6), none, .mv (.t 0) false⟩, ⟨(some 7), none, .mv (.t 0) false⟩, ⟨(some 8), none, .nilc (.t 7)⟩, ⟨(some 9), none, .faddr 1 (.t 8)⟩, ⟨(some 10), none, .load false 1 (.t 9)⟩, ⟨(some 11), none, .call 41 [(.t 6), (.t 10)]⟩, ⟨(some 5), none, .alloc [(.int .i64 0), (.int .i64 0), (.int .i64 0), (.str []), (.str []), (.bool false)]⟩, ⟨none, none, .store 6 (.t 5) (.t 11) false⟩]) (.seq (.block 0 (.seq (.ops 3 [⟨(some 13), none, .faddr 0 (.t 5)⟩, ⟨(some 14), none, .load false 1 (.t 13)⟩, ⟨(some 15), none, .bin .eql .no (.t 14) (.c (.int .i64 1))⟩, ⟨(some 16), none, .mv (.t 15) false⟩, ⟨(some 17), (some (16, true)), .faddr 3 (.t 5)⟩, ⟨(some 18), (some (16, true)), .load false 1 (.t 17)⟩, ⟨(some 19), (some (16, true)), .call 42 [(.t 18), (.c (.str [101, 118, 101, 110]))]⟩, ⟨(some 20), none, .pick (.t 16) (.t 19) (.c (.bool false))⟩, ⟨(some 12), none, .mv (.t 20) false⟩]) (.cond (.t 12) (.ops 4 [⟨(some 2), none, .mv (.c (.int .i64 2)) false⟩]) (.seq (.ops 5 [⟨(some 22), none, .faddr 0 (.t 5)⟩, ⟨(some 23), none, .load false 1 (.t 22)⟩, ⟨(some 24), none, .bin .eql .no (.t 23) (.c (.int .i64 1))⟩, ⟨(some 25), none, .mv (.t 24) false⟩, ⟨(some 26), (some (25, true)), .faddr 3 (.t 5)⟩, ⟨(some 27), (some (25, true)), .load false 1 (.t 26)⟩, ⟨(some 28), (some (25, true)), .call 42 [(.t 27), (.c (.str [111, 100, 100]))]⟩, ⟨(some 29), none, .pick (.t 25) (.t 28) (.c (.bool false))⟩, ⟨(some 21), none, .mv (.t 29) false⟩]) (.cond (.t 21) (.ops 6 [⟨(some 2), none, .mv (.c (.int .i64 2)) false⟩, ⟨(some 3), none, .mv (.c (.int .i64 1)) false⟩]) (.seq (.ops 7 [⟨(some 31), none, .faddr 0 (.t 5)⟩, ⟨(some 32), none, .load false 1 (.t 31)⟩, ⟨(some 33), none, .bin .eql .no (.t 32) (.c (.int .i64 10))⟩, ⟨(some 34), none, .mv (.t 33) false⟩, ⟨(some 35), (some (34, true)), .faddr 5 (.t 5)⟩, ⟨(some 36), (some (34, true)), .load false 1 (.t 35)⟩, ⟨(some 37), none, .pick (.t 34) (.t 36) (.c (.bool false))⟩, ⟨(some 30), none, .mv (.t 37) false⟩]) (.cond (.t 30) (.ops 8 [⟨(some 38), none, .mv (.t 0) false⟩, ⟨(some 39), none, .faddr 4 (.t 5)⟩, ⟨(some 40), none, .load false 1 (.t 39)⟩, ⟨(some 41), none, .call 43 [(.t 38), (.t 40)]⟩, ⟨(some 3), none, .mv (.t 41) false⟩]) (.seq (.ops 2 [⟨(some 2), none, .mv (.c (.int .i64 0)) false⟩, ⟨(some 3), none, .mv (.c (.int .i64 0)) false⟩, ⟨(some 4), none, .mv (.c (.bool false)) false⟩]) .ret)))))))) (.seq (.ops 9 [⟨(some 42), none, .mv (.t 0) false⟩, ⟨(some 43), none, .nilc (.t 42)⟩, ⟨(some 44), none, .faddr 1 (.t 43)⟩, ⟨(some 45), none, .load false 1 (.t 44)⟩, ⟨(some 46), none, .bin .add .no (.t 45) (.c (.int .i64 1))⟩, ⟨(some 47), none, .nilc (.t 42)⟩, ⟨(some 48), none, .faddr 1 (.t 47)⟩, ⟨none, none, .store 1 (.t 48) (.t 46) false⟩]) (.seq (.ops 10 [⟨(some 49), none, .mv (.t 2) false⟩, ⟨(some 50), none, .mv (.t 3) false⟩, ⟨(some 2), none, .mv (.t 49) false⟩, ⟨(some 3), none, .mv (.t 50) false⟩, ⟨(some 4), none, .mv (.c (.bool true)) false⟩]) .ret)))))⟩
theorem ok_c___anb_reader__fixed : chkFn Tryz.prog 26 c___anb_reader__fixed = true := chkFn_of Tryz.func26 (by kernel_rfl)
def j___anb_reader__fixed_0 (M : Mach) (n0 : Nat) (z0 z2 z3 : V) (σ : Objs) : Ro :=
  bd (pu (evNilc z0.nogr.nogr)) fun x6 =>
  bd (pu (evFaddr 1 x6.nogr)) fun x7 =>
  bd (pu (evLoad σ false 1 x7.nogr)) fun x8 =>
  bd (pu (evBin .add .no x8.nogr (.int .i64 1))) fun x9 =>
  bd (pu (evNilc z0.nogr.nogr)) fun x10 =>
  bd (pu (evFaddr 1 x10.nogr)) fun x11 =>
  bd (storeV σ 1 x11.nogr x9.nogr x9.nogr) fun p12 =>
  endK n0 p12.2 (.tup [z2.nogr.nogr.nogr, z3.nogr.nogr.nogr, (.bool true)])
def s___anb_reader__fixed (M : Mach) (a0 : V) (σ : Objs) : Ro :=
  bd (pu (evNilc a0.nogr.nogr)) fun x0 =>
  bd (pu (evFaddr 1 x0.nogr)) fun x1 =>
  bd (pu (evLoad σ false 1 x1.nogr)) fun x2 =>
  bd (M.call 41 [a0.nogr.nogr, x2.nogr] σ) fun p3 =>
  let s4 : Objs := p3.2 ++ [.cells [(.int .i64 0), (.int .i64 0), (.int .i64 0), (.str []), (.str []), (.bool false)]]
  bd (storeV s4 6 (.ptr p3.2.length 0) p3.1.nogr p3.1.nogr) fun p5 =>
  bd (pu (evFaddr 0 (.ptr p3.2.length 0))) fun x13 =>
  bd (pu (evLoad p5.2 false 1 x13.nogr)) fun x14 =>
  bd (pu (evBin .eql .no x14.nogr (.int .i64 1))) fun x15 =>
  bd (gdv x15.nogr true (pu (evFaddr 3 (.ptr p3.2.length 0)))) fun x16 =>
  bd (gdv x15.nogr true (pu (evLoad p5.2 false 1 x16.nogr))) fun x17 =>
  bd (gdp x15.nogr true (M.call 42 [x17.nogr, (.str [101, 118, 101, 110])] p5.2) p5.2) fun p18 =>
  bd (pu (pickV x15.nogr.nogr p18.1.nogr (.bool false))) fun x19 =>
  br x19.nogr.nogr (
  j___anb_reader__fixed_0 M σ.length a0 (.int .i64 2) (.int .i64 0) p18.2) (
  bd (pu (evFaddr 0 (.ptr p3.2.length 0))) fun x20 =>
  bd (pu (evLoad p18.2 false 1 x20.nogr)) fun x21 =>
  bd (pu (evBin .eql .no x21.nogr (.int .i64 1))) fun x22 =>
  bd (gdv x22.nogr true (pu (evFaddr 3 (.ptr p3.2.length 0)))) fun x23 =>
  bd (gdv x22.nogr true (pu (evLoad p18.2 false 1 x23.nogr))) fun x24 =>
  bd (gdp x22.nogr true (M.call 42 [x24.nogr, (.str [111, 100, 100])] p18.2) p18.2) fun p25 =>
  bd (pu (pickV x22.nogr.nogr p25.1.nogr (.bool false))) fun x26 =>
  br x26.nogr.nogr (
  j___anb_reader__fixed_0 M σ.length a0 (.int .i64 2) (.int .i64 1) p25.2) (
  bd (pu (evFaddr 0 (.ptr p3.2.length 0))) fun x27 =>
  bd (pu (evLoad p25.2 false 1 x27.nogr)) fun x28 =>
  bd (pu (evBin .eql .no x28.nogr (.int .i64 10))) fun x29 =>
  bd (gdv x29.nogr true (pu (evFaddr 5 (.ptr p3.2.length 0)))) fun x30 =>
  bd (gdv x29.nogr true (pu (evLoad p25.2 false 1 x30.nogr))) fun x31 =>
  bd (pu (pickV x29.nogr.nogr x31.nogr (.bool false))) fun x32 =>
  br x32.nogr.nogr (
  bd (pu (evFaddr 4 (.ptr p3.2.length 0))) fun x33 =>
  bd (pu (evLoad p25.2 false 1 x33.nogr)) fun x34 =>
  bd (M.call 43 [a0.nogr.nogr, x34.nogr] p25.2) fun p35 =>
  j___anb_reader__fixed_0 M σ.length a0 (.int .i64 0) p35.1.nogr p35.2) (
  endK σ.length p25.2 (.tup [(.int .i64 0), (.int .i64 0), (.bool false)]))))
theorem k___anb_reader__fixed (M : Mach) (a0 : V) (σ : Objs) : fnK M c___anb_reader__fixed [a0] σ = s___anb_reader__fixed M a0 σ := by kernel_rfl
def c___anb_reader__head : Ev.Fn := ⟨106, [.tmp 2, .tmp 3, .tmp 4], false, false, (.seq (.ops 0 [⟨(some 2), none, .mv (.c (.int .i64 0)) false⟩, ⟨(some 3), none, .mv (.c (.str [])) false⟩, ⟨(some 4), none, .mv (.c (.bool false)) false⟩]) (.seq (.ops 1 [⟨(some 7), none, .mv (.t 0) false⟩, ⟨(some 8), none, .mv (.t 0) false⟩, ⟨(some 9), none, .nilc (.t 8)⟩, ⟨(some 10), none, .faddr 1 (.t 9)⟩, ⟨(some 11), none, .load false 1 (.t 10)⟩, ⟨(some 12), none, .call 41 [(.t 7), (.t 11)]⟩, ⟨(some 5), none, .alloc [(.int .i64 0), (.int .i64 0), (.int .i64 0), (.str []), (.str []), (.bool false)]⟩, ⟨none, none, .store 6 (.t 5) (.t 12) false⟩]) (.seq (.ops 2 [⟨(some 13), none, .faddr 3 (.t 5)⟩, ⟨(some 14), none, .load false 1 (.t 13)⟩, ⟨(some 15), none, .call 44 [(.t 14)]⟩, ⟨(some 6), none, .mv (.t 15) false⟩]) (.seq (.block 0 (.seq (.ops 3 [⟨(some 17), none, .faddr 0 (.t 5)⟩, ⟨(some 18), none, .load false 1 (.t 17)⟩, ⟨(some 19), none, .bin .eql .no (.t 18) (.c (.int .i64 9))⟩, ⟨(some 20), none, .mv (.t 19) false⟩, ⟨(some 21), (some (20, true)), .faddr 3 (.t 5)⟩, ⟨(some 22), (some (20, true)), .load false 1 (.t 21)⟩, ⟨(some 23), (some (20, true)), .bin .eql .no (.t 22) (.c (.str [43]))⟩, ⟨(some 24), none, .pick (.t 20) (.t 23) (.c (.bool false))⟩, ⟨(some 25), none, .mv (.t 24) false⟩, ⟨(some 26), (some (25, true)), .mv (.t 0) false⟩, ⟨(some 27), (some (25, true)), .mv (.t 0) false⟩, ⟨(some 28), (some (25, true)), .nilc (.t 27)⟩, ⟨(some 29), (some (25, true)), .faddr 1 (.t 28)⟩, ⟨(some 30), (some (25, true)), .load false 1 (.t 29)⟩, ⟨(some 31), (some (25, true)), .bin .add .no (.t 30) (.c (.int .i64 1))⟩, ⟨(some 32), (some (25, true)), .call 41 [(.t 26), (.t 31)]⟩, ⟨(some 33), (some (25, true)), .field false 0 1 (.t 32)⟩, ⟨(some 34), (some (25, true)), .bin .eql .no (.t 33) (.c (.int .i64 1))⟩, ⟨(some 35), none, .pick (.t 25) (.t 34) (.c (.bool false))⟩, ⟨(some 16), none, .mv (.t 35) false⟩]) (.cond (.t 16) (.seq (.ops 4 [⟨(some 36), none, .mv (.t 0) false⟩, ⟨(some 37), none, .nilc (.t 36)⟩, ⟨(some 38), none, .faddr 1 (.t 37)⟩, ⟨(some 39), none, .load false 1 (.t 38)⟩, ⟨(some 40), none, .bin .add .no (.t 39) (.c (.int .i64 1))⟩, ⟨(some 41), none, .nilc (.t 36)⟩, ⟨(some 42), none, .faddr 1 (.t 41)⟩, ⟨none, none, .store 1 (.t 42) (.t 40) false⟩]) (.seq (.ops 5 [⟨(some 43), none, .mv (.t 0) false⟩, ⟨(some 44), none, .mv (.t 0) false⟩, ⟨(some 45), none, .nilc (.t 44)⟩, ⟨(some 46), none, .faddr 1 (.t 45)⟩, ⟨(some 47), none, .load false 1 (.t 46)⟩, ⟨(some 48), none, .call 41 [(.t 43), (.t 47)]⟩, ⟨(some 49), none, .field false 3 1 (.t 48)⟩, ⟨(some 50), none, .call 44 [(.t 49)]⟩, ⟨(some 6), none, .mv (.t 50) false⟩]) (.seq (.ops 6 [⟨(some 52), none, .mv (.t 6) false⟩, ⟨(some 53), none, .call 45 [(.t 52), (.c (.str [110]))]⟩, ⟨(some 51), none, .mv (.t 53) false⟩, ⟨(some 54), none, .extr (.t 51) 0⟩, ⟨(some 55), none, .extr (.t 51) 1⟩, ⟨(some 3), none, .mv (.t 54) false⟩, ⟨(some 4), none, .mv (.t 55) false⟩]) (.ops 7 [⟨(some 2), none, .mv (.c (.int .i64 1)) false⟩])))) (.seq (.ops 8 [⟨(some 57), none, .faddr 0 (.t 5)⟩, ⟨(some 58), none, .load false 1 (.t 57)⟩, ⟨(some 59), none, .bin .eql .no (.t 58) (.c (.int .i64 1))⟩, ⟨(some 60), none, .mv (.t 59) false⟩, ⟨(some 61), (some (60, true)), .mv (.t 6) false⟩, ⟨(some 62), (some (60, true)), .call 46 [(.t 61), (.c (.str [45]))]⟩, ⟨(some 63), none, .pick (.t 60) (.t 62) (.c (.bool false))⟩, ⟨(some 56), none, .mv (.t 63) false⟩]) (.cond (.t 56) (.seq (.ops 9 [⟨(some 65), none, .mv (.t 6) false⟩, ⟨(some 66), none, .call 45 [(.t 65), (.c (.str [45, 110]))]⟩, ⟨(some 64), none, .mv (.t 66) false⟩, ⟨(some 67), none, .extr (.t 64) 0⟩, ⟨(some 68), none, .extr (.t 64) 1⟩, ⟨(some 3), none, .mv (.t 67) false⟩, ⟨(some 4), none, .mv (.t 68) false⟩]) (.ops 10 [⟨(some 2), none, .mv (.c (.int .i64 (-1))) false⟩])) (.seq (.ops 11 [⟨(some 70), none, .faddr 0 (.t 5)⟩, ⟨(some 71), none, .load false 1 (.t 70)⟩, ⟨(some 72), none, .bin .eql .no (.t 71) (.c (.int .i64 1))⟩, ⟨(some 69), none, .mv (.t 72) false⟩]) (.cond (.t 69) (.seq (.ops 12 [⟨(some 74), none, .mv (.t 6) false⟩, ⟨(some 75), none, .call 45 [(.t 74), (.c (.str [110]))]⟩, ⟨(some 73), none, .mv (.t 75) false⟩, ⟨(some 76), none, .extr (.t 73) 0⟩, ⟨(some 77), none, .extr (.t 73) 1⟩, ⟨(some 3), none, .mv (.t 76) false⟩, ⟨(some 4), none, .mv (.t 77) false⟩]) (.ops 13 [⟨(some 2), none, .mv (.c (.int .i64 1)) false⟩])) (.seq (.ops 14 [⟨(some 79), none, .faddr 0 (.t 5)⟩, ⟨(some 80), none, .load false 1 (.t 79)⟩, ⟨(some 81), none, .bin .eql .no (.t 80) (.c (.int .i64 12))⟩, ⟨(some 82), none, .mv (.t 81) false⟩, ⟨(some 83), (some (82, true)), .faddr 5 (.t 5)⟩, ⟨(some 84), (some (82, true)), .load false 1 (.t 83)⟩, ⟨(some 85), none, .pick (.t 82) (.t 84) (.c (.bool false))⟩, ⟨(some 78), none, .mv (.t 85) false⟩]) (.cond (.t 78) (.seq (.ops 15 [⟨(some 87), none, .mv (.t 6) false⟩, ⟨(some 88), none, .call 45 [(.t 87), (.c (.str [110]))]⟩, ⟨(some 86), none, .mv (.t 88) false⟩, ⟨(some 89), none, .extr (.t 86) 0⟩, ⟨(some 90), none, .extr (.t 86) 1⟩, ⟨(some 3), none, .mv (.t 89) false⟩, ⟨(some 4), none, .mv (.t 90) false⟩]) (.seq (.ops 16 [⟨(some 91), none, .mv (.t 4) false⟩]) (.cond (.t 91) (.ops 17 [⟨(some 92), none, .mv (.t 0) false⟩, ⟨(some 93), none, .faddr 4 (.t 5)⟩, ⟨(some 94), none, .load false 1 (.t 93)⟩, ⟨(some 95), none, .call 43 [(.t 92), (.t 94)]⟩, ⟨(some 2), none, .mv (.t 95) false⟩]) .skip))) .skip))))))))) (.seq (.ops 18 [⟨(some 96), none, .mv (.t 0) false⟩, ⟨(some 97), none, .nilc (.t 96)⟩, ⟨(some 98), none, .faddr 1 (.t 97)⟩, ⟨(some 99), none, .load false 1 (.t 98)⟩, ⟨(some 100), none, .bin .add .no (.t 99) (.c (.int .i64 1))⟩, ⟨(some 101), none, .nilc (.t 96)⟩, ⟨(some 102), none, .faddr 1 (.t 101)⟩, ⟨none, none, .store 1 (.t 102) (.t 100) false⟩]) (.seq (.ops 19 [⟨(some 103), none, .mv (.t 2) false⟩, ⟨(some 104), none, .mv (.t 3) false⟩, ⟨(some 105), none, .mv (.t 4) false⟩, ⟨(some 2), none, .mv (.t 103) false⟩, ⟨(some 3), none, .mv (.t 104) false⟩, ⟨(some 4), none, .mv (.t 105) false⟩]) .ret))))))⟩
theorem ok_c___anb_reader__head : chkFn Tryz.prog 27 c___anb_reader__head = true := chkFn_of Tryz.func27 (by kernel_rfl)
def j___anb_reader__head_0 (M : Mach) (n0 : Nat) (z0 z2 z3 z4 : V) (σ : Objs) : Ro :=
  bd (pu (evNilc z0.nogr.nogr)) fun x9 =>
  bd (pu (evFaddr 1 x9.nogr)) fun x10 =>
  bd (pu (evLoad σ false 1 x10.nogr)) fun x11 =>
  bd (pu (evBin .add .no x11.nogr (.int .i64 1))) fun x12 =>
  bd (pu (evNilc z0.nogr.nogr)) fun x13 =>
  bd (pu (evFaddr 1 x13.nogr)) fun x14 =>
  bd (storeV σ 1 x14.nogr x12.nogr x12.nogr) fun p15 =>
  endK n0 p15.2 (.tup [z2.nogr.nogr.nogr, z3.nogr.nogr.nogr, z4.nogr.nogr.nogr])
def s___anb_reader__head (M : Mach) (a0 : V) (σ : Objs) : Ro :=
  bd (pu (evNilc a0.nogr.nogr)) fun x0 =>
  bd (pu (evFaddr 1 x0.nogr)) fun x1 =>
  bd (pu (evLoad σ false 1 x1.nogr)) fun x2 =>
  bd (M.call 41 [a0.nogr.nogr, x2.nogr] σ) fun p3 =>
  let s4 : Objs := p3.2 ++ [.cells [(.int .i64 0), (.int .i64 0), (.int .i64 0), (.str []), (.str []), (.bool false)]]
  bd (storeV s4 6 (.ptr p3.2.length 0) p3.1.nogr p3.1.nogr) fun p5 =>
  bd (pu (evFaddr 3 (.ptr p3.2.length 0))) fun x6 =>
  bd (pu (evLoad p5.2 false 1 x6.nogr)) fun x7 =>
  bd (M.call 44 [x7.nogr] p5.2) fun p8 =>
  bd (pu (evFaddr 0 (.ptr p3.2.length 0))) fun x16 =>
  bd (pu (evLoad p8.2 false 1 x16.nogr)) fun x17 =>
  bd (pu (evBin .eql .no x17.nogr (.int .i64 9))) fun x18 =>
  bd (gdv x18.nogr true (pu (evFaddr 3 (.ptr p3.2.length 0)))) fun x19 =>
  bd (gdv x18.nogr true (pu (evLoad p8.2 false 1 x19.nogr))) fun x20 =>
  bd (gdv x18.nogr true (pu (evBin .eql .no x20.nogr (.str [43])))) fun x21 =>
  bd (pu (pickV x18.nogr.nogr x21.nogr (.bool false))) fun x22 =>
  bd (gdv x22.nogr true (some a0.nogr)) fun x23 =>
  bd (gdv x22.nogr true (some a0.nogr)) fun x24 =>
  bd (gdv x22.nogr true (pu (evNilc x24.nogr))) fun x25 =>
  bd (gdv x22.nogr true (pu (evFaddr 1 x25.nogr))) fun x26 =>
  bd (gdv x22.nogr true (pu (evLoad p8.2 false 1 x26.nogr))) fun x27 =>
  bd (gdv x22.nogr true (pu (evBin .add .no x27.nogr (.int .i64 1)))) fun x28 =>
  bd (gdp x22.nogr true (M.call 41 [x23.nogr, x28.nogr] p8.2) p8.2) fun p29 =>
  bd (gdv x22.nogr true (pu (evField false 0 1 p29.1.nogr))) fun x30 =>
  bd (gdv x22.nogr true (pu (evBin .eql .no x30.nogr (.int .i64 1)))) fun x31 =>
  bd (pu (pickV x22.nogr.nogr x31.nogr (.bool false))) fun x32 =>
  br x32.nogr.nogr (
  bd (pu (evNilc a0.nogr.nogr)) fun x33 =>
  bd (pu (evFaddr 1 x33.nogr)) fun x34 =>
  bd (pu (evLoad p29.2 false 1 x34.nogr)) fun x35 =>
  bd (pu (evBin .add .no x35.nogr (.int .i64 1))) fun x36 =>
  bd (pu (evNilc a0.nogr.nogr)) fun x37 =>
  bd (pu (evFaddr 1 x37.nogr)) fun x38 =>
  bd (storeV p29.2 1 x38.nogr x36.nogr x36.nogr) fun p39 =>
  bd (pu (evNilc a0.nogr.nogr)) fun x40 =>
  bd (pu (evFaddr 1 x40.nogr)) fun x41 =>
  bd (pu (evLoad p39.2 false 1 x41.nogr)) fun x42 =>
  bd (M.call 41 [a0.nogr.nogr, x42.nogr] p39.2) fun p43 =>
  bd (pu (evField false 3 1 p43.1.nogr)) fun x44 =>
  bd (M.call 44 [x44.nogr] p43.2) fun p45 =>
  bd (M.call 45 [p45.1.nogr.nogr.nogr, (.str [110])] p45.2) fun p46 =>
  bd (pu (evExtr 0 p46.1.nogr.nogr)) fun x47 =>
  bd (pu (evExtr 1 p46.1.nogr.nogr)) fun x48 =>
  j___anb_reader__head_0 M σ.length a0 (.int .i64 1) x47.nogr x48.nogr p46.2) (
  bd (pu (evFaddr 0 (.ptr p3.2.length 0))) fun x49 =>
  bd (pu (evLoad p29.2 false 1 x49.nogr)) fun x50 =>
  bd (pu (evBin .eql .no x50.nogr (.int .i64 1))) fun x51 =>
  bd (gdv x51.nogr true (some p8.1.nogr.nogr)) fun x52 =>
  bd (gdp x51.nogr true (M.call 46 [x52.nogr, (.str [45])] p29.2) p29.2) fun p53 =>
  bd (pu (pickV x51.nogr.nogr p53.1.nogr (.bool false))) fun x54 =>
  br x54.nogr.nogr (
  bd (M.call 45 [p8.1.nogr.nogr.nogr, (.str [45, 110])] p53.2) fun p55 =>
  bd (pu (evExtr 0 p55.1.nogr.nogr)) fun x56 =>
  bd (pu (evExtr 1 p55.1.nogr.nogr)) fun x57 =>
  j___anb_reader__head_0 M σ.length a0 (.int .i64 (-1)) x56.nogr x57.nogr p55.2) (
  bd (pu (evFaddr 0 (.ptr p3.2.length 0))) fun x58 =>
  bd (pu (evLoad p53.2 false 1 x58.nogr)) fun x59 =>
  bd (pu (evBin .eql .no x59.nogr (.int .i64 1))) fun x60 =>
  br x60.nogr.nogr (
  bd (M.call 45 [p8.1.nogr.nogr.nogr, (.str [110])] p53.2) fun p61 =>
  bd (pu (evExtr 0 p61.1.nogr.nogr)) fun x62 =>
  bd (pu (evExtr 1 p61.1.nogr.nogr)) fun x63 =>
  j___anb_reader__head_0 M σ.length a0 (.int .i64 1) x62.nogr x63.nogr p61.2) (
  bd (pu (evFaddr 0 (.ptr p3.2.length 0))) fun x64 =>
  bd (pu (evLoad p53.2 false 1 x64.nogr)) fun x65 =>
  bd (pu (evBin .eql .no x65.nogr (.int .i64 12))) fun x66 =>
  bd (gdv x66.nogr true (pu (evFaddr 5 (.ptr p3.2.length 0)))) fun x67 =>
  bd (gdv x66.nogr true (pu (evLoad p53.2 false 1 x67.nogr))) fun x68 =>
  bd (pu (pickV x66.nogr.nogr x68.nogr (.bool false))) fun x69 =>
  br x69.nogr.nogr (
  bd (M.call 45 [p8.1.nogr.nogr.nogr, (.str [110])] p53.2) fun p70 =>
  bd (pu (evExtr 0 p70.1.nogr.nogr)) fun x71 =>
  bd (pu (evExtr 1 p70.1.nogr.nogr)) fun x72 =>
  br x72.nogr.nogr.nogr (
  bd (pu (evFaddr 4 (.ptr p3.2.length 0))) fun x73 =>
  bd (pu (evLoad p70.2 false 1 x73.nogr)) fun x74 =>
  bd (M.call 43 [a0.nogr.nogr, x74.nogr] p70.2) fun p75 =>
  j___anb_reader__head_0 M σ.length a0 p75.1.nogr x71.nogr x72.nogr p75.2) (
  j___anb_reader__head_0 M σ.length a0 (.int .i64 0) x71.nogr x72.nogr p70.2)) (
  j___anb_reader__head_0 M σ.length a0 (.int .i64 0) (.str []) (.bool false) p53.2))))
theorem k___anb_reader__head (M : Mach) (a0 : V) (σ : Objs) : fnK M c___anb_reader__head [a0] σ = s___anb_reader__head M a0 σ := by kernel_rfl
def c___anb_reader__behind : Ev.Fn := ⟨63, [.tmp 4, .tmp 5], false, false, (.seq (.ops 0 [⟨(some 4), none, .mv (.c (.int .i64 0)) false⟩, ⟨(some 5), none, .mv (.c (.bool false)) false⟩]) (.seq (.block 0 (.seq (.block 3 (.seq (.block 2 (.seq (.block 1 (.seq (.seq (.seq (.ops 1 [⟨(some 10), none, .mv (.t 1) false⟩, ⟨(some 11), none, .bin .eql .no (.t 10) (.c (.str []))⟩, ⟨(some 9), none, .mv (.t 11) false⟩]) (.cond (.t 9) (.exit 1) .skip)) (.seq (.seq (.ops 2 [⟨(some 13), none, .mv (.t 1) false⟩, ⟨(some 14), none, .bin .eql .no (.t 13) (.c (.str [45]))⟩, ⟨(some 12), none, .mv (.t 14) false⟩]) (.cond (.t 12) (.exit 2) .skip)) (.seq (.ops 3 [⟨(some 16), none, .mv (.t 1) false⟩, ⟨(some 17), none, .idx (.t 16) (.c (.int .i64 0))⟩, ⟨(some 18), none, .bin .eql .no (.t 17) (.c (.int .u8 45))⟩, ⟨(some 19), none, .mv (.t 18) false⟩, ⟨(some 20), (some (19, true)), .mv (.t 1) false⟩, ⟨(some 21), (some (19, true)), .idx (.t 20) (.c (.int .i64 1))⟩, ⟨(some 22), (some (19, true)), .conv (.toInt .i64) (.t 21)⟩, ⟨(some 23), (some (19, true)), .call 34 [(.t 22)]⟩, ⟨(some 24), none, .pick (.t 19) (.t 23) (.c (.bool false))⟩, ⟨(some 15), none, .mv (.t 24) false⟩]) (.cond (.t 15) (.exit 3) .skip)))) (.exit 0))) (.seq (.seq (.ops 4 [⟨(some 25), none, .mv (.t 0) false⟩, ⟨(some 26), none, .call 47 [(.t 25)]⟩, ⟨(some 4), none, .mv (.t 26) false⟩, ⟨(some 5), none, .mv (.c (.bool true)) false⟩]) .ret) (.exit 0)))) (.seq (.ops 5 [⟨(some 27), none, .mv (.t 0) false⟩, ⟨(some 28), none, .mv (.t 0) false⟩, ⟨(some 29), none, .nilc (.t 28)⟩, ⟨(some 30), none, .faddr 1 (.t 29)⟩, ⟨(some 31), none, .load false 1 (.t 30)⟩, ⟨(some 32), none, .call 25 [(.t 27), (.t 31)]⟩, ⟨(some 6), none, .mv (.t 32) false⟩]) (.seq (.seq (.ops 6 [⟨(some 33), none, .mv (.t 0) false⟩, ⟨(some 34), none, .mv (.t 6) false⟩, ⟨(some 35), none, .call 48 [(.t 33), (.t 34), (.c (.bool false))]⟩, ⟨(some 36), none, .un .not (.t 35)⟩]) (.cond (.t 36) (.seq (.ops 7 [⟨(some 4), none, .mv (.c (.int .i64 0)) false⟩, ⟨(some 5), none, .mv (.c (.bool false)) false⟩]) .ret) .skip)) (.seq (.ops 8 [⟨(some 37), none, .mv (.t 0) false⟩, ⟨(some 38), none, .mv (.t 6) false⟩, ⟨(some 39), none, .bin .add .no (.t 38) (.c (.int .i64 1))⟩, ⟨(some 40), none, .nilc (.t 37)⟩, ⟨(some 41), none, .faddr 1 (.t 40)⟩, ⟨none, none, .store 1 (.t 41) (.t 39) false⟩]) (.ops 9 [⟨(some 42), none, .mv (.t 1) false⟩, ⟨(some 43), none, .mv (.t 0) false⟩, ⟨(some 44), none, .mv (.t 6) false⟩, ⟨(some 45), none, .call 41 [(.t 43), (.t 44)]⟩, ⟨(some 46), none, .field false 4 1 (.t 45)⟩, ⟨(some 47), none, .bin .add .no (.t 42) (.t 46)⟩, ⟨(some 1), none, .mv (.t 47) false⟩])))))) (.seq (.seq (.seq (.ops 10 [⟨(some 49), none, .mv (.t 1) false⟩, ⟨(some 50), none, .call 15 [(.t 49)]⟩, ⟨(some 48), none, .mv (.t 50) false⟩, ⟨(some 51), none, .extr (.t 48) 0⟩, ⟨(some 52), none, .extr (.t 48) 1⟩, ⟨(some 7), none, .mv (.t 51) false⟩, ⟨(some 8), none, .mv (.t 52) false⟩]) (.seq (.ops 11 [⟨(some 53), none, .mv (.t 8) false⟩, ⟨(some 54), none, .bin .neq .ifc (.t 53) (.c .nili)⟩, ⟨(some 55), none, .mv (.t 54) false⟩, ⟨(some 56), (some (55, true)), .mv (.t 8) false⟩, ⟨(some 57), (some (55, true)), .call 49 [(.t 56)]⟩, ⟨(some 58), (some (55, true)), .un .not (.t 57)⟩, ⟨(some 59), none, .pick (.t 55) (.t 58) (.c (.bool false))⟩]) (.cond (.t 59) (.seq (.ops 12 [⟨(some 4), none, .mv (.c (.int .i64 0)) false⟩, ⟨(some 5), none, .mv (.c (.bool false)) false⟩]) .ret) .skip))) (.seq (.ops 13 [⟨(some 60), none, .mv (.t 0) false⟩, ⟨(some 61), none, .mv (.t 1) false⟩, ⟨(some 62), none, .call 43 [(.t 60), (.t 61)]⟩, ⟨(some 4), none, .mv (.t 62) false⟩, ⟨(some 5), none, .mv (.c (.bool true)) false⟩]) .ret)) (.exit 0)))) (.seq (.ops 14 [⟨(some 4), none, .mv (.c (.int .i64 0)) false⟩, ⟨(some 5), none, .mv (.c (.bool false)) false⟩]) .ret)))⟩
theorem ok_c___anb_reader__behind : chkFn Tryz.prog 28 c___anb_reader__behind = true := chkFn_of Tryz.func28 (by kernel_rfl)
def j___anb_reader__behind_0 (M : Mach) (n0 : Nat) (z0 z1 : V) (σ : Objs) : Ro :=
  bd (M.call 15 [z1.nogr.nogr] σ) fun p0 =>
  bd (pu (evExtr 0 p0.1.nogr.nogr)) fun x1 =>
  bd (pu (evExtr 1 p0.1.nogr.nogr)) fun x2 =>
  bd (pu (evBin .neq .ifc x2.nogr.nogr.nogr .nili)) fun x3 =>
  bd (gdv x3.nogr true (some x2.nogr.nogr)) fun x4 =>
  bd (gdp x3.nogr true (M.call 49 [x4.nogr] p0.2) p0.2) fun p5 =>
  bd (gdv x3.nogr true (pu (evUn .not p5.1.nogr))) fun x6 =>
  bd (pu (pickV x3.nogr.nogr x6.nogr (.bool false))) fun x7 =>
  br x7.nogr (
  endK n0 p5.2 (.tup [(.int .i64 0), (.bool false)])) (
  bd (M.call 43 [z0.nogr.nogr, z1.nogr.nogr] p5.2) fun p8 =>
  endK n0 p8.2 (.tup [p8.1.nogr.nogr, (.bool true)]))
def s___anb_reader__behind (M : Mach) (a0 a1 : V) (σ : Objs) : Ro :=
  bd (pu (evBin .eql .no a1.nogr.nogr (.str []))) fun x9 =>
  br x9.nogr.nogr (
  bd (M.call 47 [a0.nogr.nogr] σ) fun p10 =>
  endK σ.length p10.2 (.tup [p10.1.nogr.nogr, (.bool true)])) (
  bd (pu (evBin .eql .no a1.nogr.nogr (.str [45]))) fun x11 =>
  br x11.nogr.nogr (
  bd (pu (evNilc a0.nogr.nogr)) fun x12 =>
  bd (pu (evFaddr 1 x12.nogr)) fun x13 =>
  bd (pu (evLoad σ false 1 x13.nogr)) fun x14 =>
  bd (M.call 25 [a0.nogr.nogr, x14.nogr] σ) fun p15 =>
  bd (M.call 48 [a0.nogr.nogr, p15.1.nogr.nogr.nogr, (.bool false)] p15.2) fun p16 =>
  bd (pu (evUn .not p16.1.nogr)) fun x17 =>
  br x17.nogr (
  endK σ.length p16.2 (.tup [(.int .i64 0), (.bool false)])) (
  bd (pu (evBin .add .no p15.1.nogr.nogr.nogr (.int .i64 1))) fun x18 =>
  bd (pu (evNilc a0.nogr.nogr)) fun x19 =>
  bd (pu (evFaddr 1 x19.nogr)) fun x20 =>
  bd (storeV p16.2 1 x20.nogr x18.nogr x18.nogr) fun p21 =>
  bd (M.call 41 [a0.nogr.nogr, p15.1.nogr.nogr.nogr] p21.2) fun p22 =>
  bd (pu (evField false 4 1 p22.1.nogr)) fun x23 =>
  bd (pu (evBin .add .no a1.nogr.nogr x23.nogr)) fun x24 =>
  j___anb_reader__behind_0 M σ.length a0 x24.nogr p22.2)) (
  bd (pu (evIdx (.int .i64 0) a1.nogr.nogr)) fun x25 =>
  bd (pu (evBin .eql .no x25.nogr (.int .u8 45))) fun x26 =>
  bd (gdv x26.nogr true (some a1.nogr)) fun x27 =>
  bd (gdv x26.nogr true (pu (evIdx (.int .i64 1) x27.nogr))) fun x28 =>
  bd (gdv x26.nogr true (pu (evConv σ (.toInt .i64) x28.nogr))) fun x29 =>
  bd (gdp x26.nogr true (M.call 34 [x29.nogr] σ) σ) fun p30 =>
  bd (pu (pickV x26.nogr.nogr p30.1.nogr (.bool false))) fun x31 =>
  br x31.nogr.nogr (
  j___anb_reader__behind_0 M σ.length a0 a1 p30.2) (
  endK σ.length p30.2 (.tup [(.int .i64 0), (.bool false)]))))
theorem k___anb_reader__behind (M : Mach) (a0 a1 : V) (σ : Objs) : fnK M c___anb_reader__behind [a0, a1] σ = s___anb_reader__behind M a0 a1 σ := by kernel_rfl
def c_api_Fail : Ev.Fn := ⟨10, [.tmp 4], false, false, (.seq (.ops 0 [⟨(some 4), none, .mv (.c .nili) false⟩]) (.seq (.ops 1 [⟨(some 5), none, .mv (.t 0) false⟩, ⟨(some 6), none, .mv (.t 1) false⟩, ⟨(some 7), none, .build [(.int .i64 0), (.int .i64 0), .nili] [(0, 1, (.t 5)), (1, 1, (.t 6))]⟩, ⟨(some 8), none, .box (.t 7)⟩, ⟨(some 9), none, .mkif 73 (.t 8)⟩, ⟨(some 4), none, .mv (.t 9) false⟩]) .ret))⟩
theorem ok_c_api_Fail : chkFn Tryz.prog 29 c_api_Fail = true := chkFn_of Tryz.func29 (by kernel_rfl)
def s_api_Fail (M : Mach) (a0 a1 : V) (σ : Objs) : Ro :=
  bd (pu (buildV [(.int .i64 0), (.int .i64 0), .nili] [(0, 1, a0.nogr.nogr), (1, 1, a1.nogr.nogr)])) fun x0 =>
  bd (boxV σ x0.nogr) fun p1 =>
  bd (oneK false (.ifc 73 p1.1.nogr)) (endK σ.length p1.2)
theorem k_api_Fail (M : Mach) (a0 a1 : V) (σ : Objs) : fnK M c_api_Fail [a0, a1] σ = s_api_Fail M a0 a1 σ := by kernel_rfl
def c_strings_TrimLeft : Ev.Fn := ⟨37, [.tmp 4], false, false, (.seq (.ops 0 [⟨(some 4), none, .mv (.c (.str [])) false⟩]) (.seq (.seq (.ops 1 [⟨(some 7), none, .mv (.t 0) false⟩, ⟨(some 8), none, .bin .eql .no (.t 7) (.c (.str []))⟩, ⟨(some 9), none, .mv (.t 8) false⟩, ⟨(some 10), (some (9, false)), .mv (.t 1) false⟩, ⟨(some 11), (some (9, false)), .bin .eql .no (.t 10) (.c (.str []))⟩, ⟨(some 12), none, .pick (.t 9) (.c (.bool true)) (.t 11)⟩]) (.cond (.t 12) (.seq (.ops 2 [⟨(some 13), none, .mv (.t 0) false⟩, ⟨(some 4), none, .mv (.t 13) false⟩]) .ret) .skip)) (.seq (.seq (.ops 3 [⟨(some 14), none, .mv (.t 1) false⟩, ⟨(some 15), none, .lenS (.t 14)⟩, ⟨(some 16), none, .bin .eql .no (.t 15) (.c (.int .i64 1))⟩, ⟨(some 17), none, .mv (.t 16) false⟩, ⟨(some 18), (some (17, true)), .mv (.t 1) false⟩, ⟨(some 19), (some (17, true)), .idx (.t 18) (.c (.int .i64 0))⟩, ⟨(some 20), (some (17, true)), .bin .lss .no (.t 19) (.c (.int .u8 128))⟩, ⟨(some 21), none, .pick (.t 17) (.t 20) (.c (.bool false))⟩]) (.cond (.t 21) (.seq (.ops 4 [⟨(some 22), none, .mv (.t 0) false⟩, ⟨(some 23), none, .mv (.t 1) false⟩, ⟨(some 24), none, .idx (.t 23) (.c (.int .i64 0))⟩, ⟨(some 25), none, .call 53 [(.t 22), (.t 24)]⟩, ⟨(some 4), none, .mv (.t 25) false⟩]) .ret) .skip)) (.seq (.seq (.ops 5 [⟨(some 27), none, .mv (.t 1) false⟩, ⟨(some 28), none, .call 54 [(.t 27)]⟩, ⟨(some 26), none, .mv (.t 28) false⟩, ⟨(some 29), none, .extr (.t 26) 0⟩, ⟨(some 30), none, .extr (.t 26) 1⟩, ⟨(some 5), none, .alloc [(.bool false), (.bool false), (.bool false), (.bool false), (.bool false), (.bool false), (.bool false), (.bool false), (.bool false), (.bool false), (.bool false), (.bool false), (.bool false), (.bool false), (.bool false), (.bool false), (.bool false), (.bool false), (.bool false), (.bool false), (.bool false), (.bool false), (.bool false), (.bool false), (.bool false), (.bool false), (.bool false), (.bool false), (.bool false), (.bool false), (.bool false), (.bool false), (.bool false), (.bool false), (.bool false), (.bool false), (.bool false), (.bool false), (.bool false), (.bool false), (.bool false), (.bool false), (.bool false), (.bool false), (.bool false), (.bool false), (.bool false), (.bool false), (.bool false), (.bool false), (.bool false), (.bool false), (.bool false), (.bool false), (.bool false), (.bool false), (.bool false), (.bool false), (.bool false), (.bool false), (.bool false), (.bool false), (.bool false), (.bool false), (.bool false), (.bool false), (.bool false), (.bool false), (.bool false), (.bool false), (.bool false), (.bool false), (.bool false), (.bool false), (.bool false), (.bool false), (.bool false), (.bool false), (.bool false), (.bool false), (.bool false), (.bool false), (.bool false), (.bool false), (.bool false), (.bool false), (.bool false), (.bool false), (.bool false), (.bool false), (.bool false), (.bool false), (.bool false), (.bool false), (.bool false), (.bool false), (.bool false), (.bool false), (.bool false), (.bool false), (.bool false), (.bool false), (.bool false), (.bool false), (.bool false), (.bool false), (.bool false), (.bool false), (.bool false), (.bool false), (.bool false), (.bool false), (.bool false), (.bool false), (.bool false), (.bool false), (.bool false), (.bool false), (.bool false), (.bool false), (.bool false), (.bool false), (.bool false), (.bool false), (.bool false), (.bool false), (.bool false), (.bool false), (.bool false), (.bool false), (.bool false), (.bool false), (.bool false), (.bool false), (.bool false), (.bool false), (.bool false), (.bool false), (.bool false), (.bool false), (.bool false), (.bool false), (.bool false), (.bool false), (.bool false), (.bool false), (.bool false), (.bool false), (.bool false), (.bool false), (.bool false), (.bool false), (.bool false), (.bool false), (.bool false), (.bool false), (.bool false), (.bool false), (.bool false), (.bool false), (.bool false), (.bool false), (.bool false), (.bool false), (.bool false), (.bool false), (.bool false), (.bool false), (.bool false), (.bool false), (.bool false), (.bool false), (.bool false), (.bool false), (.bool false), (.bool false), (.bool false), (.bool false), (.bool false), (.bool false), (.bool false), (.bool false), (.bool false), (.bool false), (.bool false), (.bool false), (.bool false), (.bool false), (.bool false), (.bool false), (.bool false), (.bool false), (.bool false), (.bool false), (.bool false), (.bool false), (.bool false), (.bool false), (.bool false), (.bool false), (.bool false), (.bool false), (.bool false), (.bool false), (.bool false), (.bool false), (.bool false), (.bool false), (.bool false), (.bool false), (.bool false), (.bool false), (.bool false), (.bool false), (.bool false), (.bool false), (.bool false), (.bool false), (.bool false), (.bool false), (.bool false), (.bool false), (.bool false), (.bool false), (.bool false), (.bool false), (.bool false), (.bool false), (.bool false), (.bool false), (.bool false), (.bool false), (.bool false), (.bool false), (.bool false), (.bool false), (.bool false), (.bool false), (.bool false), (.bool false), (.bool false), (.bool false), (.bool false), (.bool false), (.bool false), (.bool false), (.bool false), (.bool false), (.bool false), (.bool false), (.bool false), (.bool false), (.bool false), (.bool false), (.bool false), (.bool false)]⟩, ⟨none, none, .store 256 (.t 5) (.t 29) false⟩, ⟨(some 6), none, .mv (.t 30) false⟩]) (.seq (.ops 6 [⟨(some 31), none, .mv (.t 6) false⟩]) (.cond (.t 31) (.seq (.ops 7 [⟨(some 32), none, .mv (.t 0) false⟩, ⟨(some 33), none, .call 55 [(.t 32), (.t 5)]⟩, ⟨(some 4), none, .mv (.t 33) false⟩]) .ret) .skip))) (.seq (.ops 8 [⟨(some 34), none, .mv (.t 0) false⟩, ⟨(some 35), none, .mv (.t 1) false⟩, ⟨(some 36), none, .call 56 [(.t 34), (.t 35)]⟩, ⟨(some 4), none, .mv (.t 36) false⟩]) .ret)))))⟩
theorem ok_c_strings_TrimLeft : chkFn Tryz.prog 33 c_strings_TrimLeft = true := chkFn_of Tryz.func33 (by kernel_rfl)
def s_strings_TrimLeft (M : Mach) (a0 a1 : V) (σ : Objs) : Ro :=
  bd (pu (evBin .eql .no a0.nogr.nogr (.str []))) fun x0 =>
  bd (gdv x0.nogr false (some a1.nogr)) fun x1 =>
  bd (gdv x0.nogr false (pu (evBin .eql .no x1.nogr (.str [])))) fun x2 =>
  bd (pu (pickV x0.nogr.nogr (.bool true) x2.nogr)) fun x3 =>
  br x3.nogr (
  bd (oneK false a0.nogr.nogr) (endK σ.length σ)) (
  bd (pu (evLenS a1.nogr.nogr)) fun x4 =>
  bd (pu (evBin .eql .no x4.nogr (.int .i64 1))) fun x5 =>
  bd (gdv x5.nogr true (some a1.nogr)) fun x6 =>
  bd (gdv x5.nogr true (pu (evIdx (.int .i64 0) x6.nogr))) fun x7 =>
  bd (gdv x5.nogr true (pu (evBin .lss .no x7.nogr (.int .u8 128)))) fun x8 =>
  bd (pu (pickV x5.nogr.nogr x8.nogr (.bool false))) fun x9 =>
  br x9.nogr (
  bd (pu (evIdx (.int .i64 0) a1.nogr.nogr)) fun x10 =>
  bd (M.call 53 [a0.nogr.nogr, x10.nogr] σ) fun p11 =>
  bd (oneK false p11.1.nogr) (endK σ.length p11.2)) (
  bd (M.call 54 [a1.nogr.nogr] σ) fun p12 =>
  bd (pu (evExtr 0 p12.1.nogr.nogr)) fun x13 =>
  bd (pu (evExtr 1 p12.1.nogr.nogr)) fun x14 =>
  let s15 : Objs := p12.2 ++ [.cells [(.bool false), (.bool false), (.bool false), (.bool false), (.bool false), (.bool false), (.bool false), (.bool false), (.bool false), (.bool false), (.bool false), (.bool false), (.bool false), (.bool false), (.bool false), (.bool false), (.bool false), (.bool false), (.bool false), (.bool false), (.bool false), (.bool false), (.bool false), (.bool false), (.bool false), (.bool false), (.bool false), (.bool false), (.bool false), (.bool false), (.bool false), (.bool false), (.bool false), (.bool false), (.bool false), (.bool false), (.bool false), (.bool false), (.bool false), (.bool false), (.bool false), (.bool false), (.bool false), (.bool false), (.bool false), (.bool false), (.bool false), (.bool false), (.bool false), (.bool false), (.bool false), (.bool false), (.bool false), (.bool false), (.bool false), (.bool false), (.bool false), (.bool false), (.bool false), (.bool false), (.bool false), (.bool false), (.bool false), (.bool false), (.bool false), (.bool false), (.bool false), (.bool false), (.bool false), (.bool false), (.bool false), (.bool false), (.bool false), (.bool false), (.bool false), (.bool false), (.bool false), (.bool false), (.bool false), (.bool false), (.bool false), (.bool false), (.bool false), (.bool false), (.bool false), (.bool false), (.bool false), (.bool false), (.bool false), (.bool false), (.bool false), (.bool false), (.bool false), (.bool false), (.bool false), (.bool false), (.bool false), (.bool false), (.bool false), (.bool false), (.bool false), (.bool false), (.bool false), (.bool false), (.bool false), (.bool false), (.bool false), (.bool false), (.bool false), (.bool false), (.bool false), (.bool false), (.bool false), (.bool false), (.bool false), (.bool false), (.bool false), (.bool false), (.bool false), (.bool false), (.bool false), (.bool false), (.bool false), (.bool false), (.bool false), (.bool false), (.bool false), (.bool false), (.bool false), (.bool false), (.bool false), (.bool false), (.bool false), (.bool false), (.bool false), (.bool false), (.bool false), (.bool false), (.bool false), (.bool false), (.bool false), (.bool false), (.bool false), (.bool false), (.bool false), (.bool false), (.bool false), (.bool false), (.bool false), (.bool false), (.bool false), (.bool false), (.bool false), (.bool false), (.bool false), (.bool false), (.bool false), (.bool false), (.bool false), (.bool false), (.bool false), (.bool false), (.bool false), (.bool false), (.bool false), (.bool false), (.bool false), (.bool false), (.bool false), (.bool false), (.bool false), (.bool false), (.bool false), (.bool false), (.bool false), (.bool false), (.bool false), (.bool false), (.bool false), (.bool false), (.bool false), (.bool false), (.bool false), (.bool false), (.bool false), (.bool false), (.bool false), (.bool false), (.bool false), (.bool false), (.bool false), (.bool false), (.bool false), (.bool false), (.bool false), (.bool false), (.bool false), (.bool false), (.bool false), (.bool false), (.bool false), (.bool false), (.bool false), (.bool false), (.bool false), (.bool false), (.bool false), (.bool false), (.bool false), (.bool false), (.bool false), (.bool false), (.bool false), (.bool false), (.bool false), (.bool false), (.bool false), (.bool false), (.bool false), (.bool false), (.bool false), (.bool false), (.bool false), (.bool false), (.bool false), (.bool false), (.bool false), (.bool false), (.bool false), (.bool false), (.bool false), (.bool false), (.bool false), (.bool false), (.bool false), (.bool false), (.bool false), (.bool false), (.bool false), (.bool false), (.bool false), (.bool false), (.bool false), (.bool false), (.bool false), (.bool false), (.bool false), (.bool false), (.bool false), (.bool false), (.bool false), (.bool false), (.bool false), (.bool false), (.bool false), (.bool false)]]
  bd (storeV s15 256 (.ptr p12.2.length 0) x13.nogr x13.nogr) fun p16 =>
  br x14.nogr.nogr.nogr (
  bd (M.call 55 [a0.nogr.nogr, (.ptr p12.2.length 0)] p16.2) fun p17 =>
  bd (oneK false p17.1.nogr) (endK σ.length p17.2)) (
  bd (M.call 56 [a0.nogr.nogr, a1.nogr.nogr] p16.2) fun p18 =>
  bd (oneK false p18.1.nogr) (endK σ.length p18.2))))
theorem k_strings_TrimLeft (M : Mach) (a0 a1 : V) (σ : Objs) : fnK M c_strings_TrimLeft [a0, a1] σ = s_strings_TrimLeft M a0 a1 σ := by kernel_rfl
def c_chars_Digit : Ev.Fn := ⟨9, [.tmp 2], false, false, (.seq (.ops 0 [⟨(some 2), none, .mv (.c (.bool false)) false⟩]) (.seq (.ops 1 [⟨(some 3), none, .mv (.t 0) false⟩, ⟨(some 4), none, .bin .geq .no (.t 3) (.c (.int .i64 48))⟩, ⟨(some 5), none, .mv (.t 4) false⟩, ⟨(some 6), (some (5, true)), .mv (.t 0) false⟩, ⟨(some 7), (some (5, true)), .bin .leq .no (.t 6) (.c (.int .i64 57))⟩, ⟨(some 8), none, .pick (.t 5) (.t 7) (.c (.bool false))⟩, ⟨(some 2), none, .mv (.t 8) false⟩]) .ret))⟩
theorem ok_c_chars_Digit : chkFn Tryz.prog 34 c_chars_Digit = true := chkFn_of Tryz.func34 (by kernel_rfl)
def s_chars_Digit (M : Mach) (a0 : V) (σ : Objs) : Ro :=
  bd (pu (evBin .geq .no a0.nogr.nogr (.int .i64 48))) fun x0 =>
  bd (gdv x0.nogr true (some a0.nogr)) fun x1 =>
  bd (gdv x0.nogr true (pu (evBin .leq .no x1.nogr (.int .i64 57)))) fun x2 =>
  bd (pu (pickV x0.nogr.nogr x2.nogr (.bool false))) fun x3 =>
  bd (oneK false x3.nogr) (endK σ.length σ)
theorem k_chars_Digit (M : Mach) (a0 : V) (σ : Objs) : fnK M c_chars_Digit [a0] σ = s_chars_Digit M a0 σ := by kernel_rfl
def c_wattleref04_Find : Ev.Fn := ⟨186, [.cell 2 true 3, .tmp 3], false, false, (.seq (.ops 0 [⟨(some 2), none, .alloc [(.str []), (.str []), (.int .i64 0)]⟩, ⟨(some 3), none, .mv (.c (.bool false)) false⟩]) (.seq (.ops 1 [⟨(some 11), none, .mv (.t 0) false⟩, ⟨(some 12), none, .call 59 [(.t 11), (.c (.int .i64 0))]⟩, ⟨(some 4), none, .mv (.t 12) false⟩]) (.seq (.seq (.ops 2 [⟨(some 13), none, .mv (.t 4) false⟩, ⟨(some 14), none, .mv (.t 0) false⟩, ⟨(some 15), none, .len (.t 14)⟩, ⟨(some 16), none, .bin .geq .no (.t 13) (.t 15)⟩]) (.cond (.t 16) (.seq (.ops 3 [⟨(some 17), none, .build [(.str []), (.str []), (.int .i64 0)] []⟩, ⟨none, none, .store 3 (.t 2) (.t 17) false⟩, ⟨(some 3), none, .mv (.c (.bool false)) false⟩]) .ret) .skip)) (.seq (.ops 4 [⟨(some 18), none, .mv (.t 0) false⟩, ⟨(some 19), none, .mv (.t 4) false⟩, ⟨(some 20), none, .iaddr 6 (.t 18) (.t 19)⟩, ⟨(some 21), none, .load true 6 (.t 20)⟩, ⟨(some 5), none, .alloc [(.int .i64 0), (.int .i64 0), (.int .i64 0), (.str []), (.str []), (.bool false)]⟩, ⟨none, none, .store 6 (.t 5) (.t 21) false⟩]) (.seq (.seq (.ops 5 [⟨(some 22), none, .faddr 0 (.t 5)⟩, ⟨(some 23), none, .load false 1 (.t 22)⟩, ⟨(some 24), none, .bin .eql .no (.t 23) (.c (.int .i64 1))⟩, ⟨(some 25), none, .mv (.t 24) false⟩, ⟨(some 26), (some (25, true)), .faddr 3 (.t 5)⟩, ⟨(some 27), (some (25, true)), .load false 1 (.t 26)⟩, ⟨(some 28), (some (25, true)), .call 60 [(.t 27)]⟩, ⟨(some 29), (some (25, true)), .bin .eql .no (.t 28) (.c (.str [101, 118, 101, 110]))⟩, ⟨(some 30), none, .pick (.t 25) (.t 29) (.c (.bool false))⟩]) (.cond (.t 30) (.seq (.ops 6 [⟨(some 31), none, .mv (.t 4) false⟩, ⟨(some 32), none, .bin .add .no (.t 31) (.c (.int .i64 1))⟩, ⟨(some 33), none, .build [(.str []), (.str []), (.int .i64 0)] [(0, 1, (.c (.str [50]))), (1, 1, (.c (.str [48]))), (2, 1, (.t 32))]⟩, ⟨none, none, .store 3 (.t 2) (.t 33) false⟩, ⟨(some 3), none, .mv (.c (.bool true)) false⟩]) .ret) .skip)) (.seq (.seq (.ops 7 [⟨(some 34), none, .faddr 0 (.t 5)⟩, ⟨(some 35), none, .load false 1 (.t 34)⟩, ⟨(some 36), none, .bin .eql .no (.t 35) (.c (.int .i64 1))⟩, ⟨(some 37), none, .mv (.t 36) false⟩, ⟨(some 38), (some (37, true)), .faddr 3 (.t 5)⟩, ⟨(some 39), (some (37, true)), .load false 1 (.t 38)⟩, ⟨(some 40), (some (37, true)), .call 60 [(.t 39)]⟩, ⟨(some 41), (some (37, true)), .bin .eql .no (.t 40) (.c (.str [111, 100, 100]))⟩, ⟨(some 42), none, .pick (.t 37) (.t 41) (.c (.bool false))⟩]) (.cond (.t 42) (.seq (.ops 8 [⟨(some 43), none, .mv (.t 4) false⟩, ⟨(some 44), none, .bin .add .no (.t 43) (.c (.int .i64 1))⟩, ⟨(some 45), none, .build [(.str []), (.str []), (.int .i64 0)] [(0, 1, (.c (.str [50]))), (1, 1, (.c (.str [49]))), (2, 1, (.t 44))]⟩, ⟨none, none, .store 3 (.t 2) (.t 45) false⟩, ⟨(some 3), none, .mv (.c (.bool true)) false⟩]) .ret) .skip)) (.seq (.seq (.ops 9 [⟨(some 46), none, .faddr 0 (.t 5)⟩, ⟨(some 47), none, .load false 1 (.t 46)⟩, ⟨(some 48), none, .bin .eql .no (.t 47) (.c (.int .i64 10))⟩, ⟨(some 49), none, .mv (.t 48) false⟩, ⟨(some 50), (some (49, true)), .faddr 5 (.t 5)⟩, ⟨(some 51), (some (49, true)), .load false 1 (.t 50)⟩, ⟨(some 52), none, .pick (.t 49) (.t 51) (.c (.bool false))⟩]) (.cond (.t 52) (.seq (.ops 10 [⟨(some 53), none, .faddr 4 (.t 5)⟩, ⟨(some 54), none, .load false 1 (.t 53)⟩, ⟨(some 55), none, .mv (.t 4) false⟩, ⟨(some 56), none, .bin .add .no (.t 55) (.c (.int .i64 1))⟩, ⟨(some 57), none, .build [(.str []), (.str []), (.int .i64 0)] [(0, 1, (.c (.str [48]))), (1, 1, (.t 54)), (2, 1, (.t 56))]⟩, ⟨none, none, .store 3 (.t 2) (.t 57) false⟩, ⟨(some 3), none, .mv (.c (.bool true)) false⟩]) .ret) .skip)) (.seq (.ops 11 [⟨(some 59), none, .mv (.t 0) false⟩, ⟨(some 60), none, .mv (.t 4) false⟩, ⟨(some 61), none, .call 61 [(.t 59), (.t 60)]⟩, ⟨(some 58), none, .mv (.t 61) false⟩, ⟨(some 62), none, .extr (.t 58) 0⟩, ⟨(some 63), none, .extr (.t 58) 1⟩, ⟨(some 64), none, .extr (.t 58) 2⟩, ⟨(some 6), none, .mv (.t 62) false⟩, ⟨(some 7), none, .mv (.t 63) false⟩, ⟨(some 8), none, .mv (.t 64) false⟩]) (.seq (.seq (.ops 12 [⟨(some 65), none, .mv (.t 8) false⟩, ⟨(some 66), none, .bin .lss .no (.t 65) (.c (.int .i64 0))⟩]) (.cond (.t 66) (.seq (.ops 13 [⟨(some 67), none, .build [(.str []), (.str []), (.int .i64 0)] []⟩, ⟨none, none, .store 3 (.t 2) (.t 67) false⟩, ⟨(some 3), none, .mv (.c (.bool false)) false⟩]) .ret) .skip)) (.seq (.ops 14 [⟨(some 68), none, .mv (.t 0) false⟩, ⟨(some 69), none, .mv (.t 8) false⟩, ⟨(some 70), none, .call 59 [(.t 68), (.t 69)]⟩, ⟨(some 9), none, .mv (.t 70) false⟩]) (.seq (.seq (.ops 15 [⟨(some 71), none, .mv (.t 7) false⟩, ⟨(some 72), none, .bin .eql .no (.t 71) (.c (.str []))⟩, ⟨(some 73), none, .mv (.t 72) false⟩, ⟨(some 74), (some (73, true)), .mv (.t 0) false⟩, ⟨(some 75), (some (73, true)), .mv (.t 9) false⟩, ⟨(some 76), (some (73, true)), .call 62 [(.t 74), (.t 75), (.c (.bool true))]⟩, ⟨(some 77), none, .pick (.t 73) (.t 76) (.c (.bool false))⟩]) (.cond (.t 77) (.seq (.ops 16 [⟨(some 78), none, .mv (.t 6) false⟩, ⟨(some 79), none, .mv (.t 0) true⟩, ⟨(some 80), none, .mv (.t 9) false⟩, ⟨(some 81), none, .iaddr 6 (.t 79) (.t 80)⟩, ⟨(some 82), none, .faddr 4 (.t 81)⟩, ⟨(some 83), none, .load false 1 (.t 82)⟩, ⟨(some 84), none, .mv (.t 9) false⟩, ⟨(some 85), none, .bin .add .no (.t 84) (.c (.int .i64 1))⟩, ⟨(some 86), none, .build [(.str []), (.str []), (.int .i64 0)] [(0, 1, (.t 78)), (1, 1, (.t 83)), (2, 1, (.t 85))]⟩, ⟨none, none, .store 3 (.t 2) (.t 86) false⟩, ⟨(some 3), none, .mv (.c (.bool true)) false⟩]) .ret) .skip)) (.seq (.seq (.ops 17 [⟨(some 87), none, .mv (.t 7) false⟩, ⟨(some 88), none, .bin .eql .no (.t 87) (.c (.str []))⟩, ⟨(some 89), none, .mv (.t 88) false⟩, ⟨(some 90), (some (89, true)), .mv (.t 9) false⟩, ⟨(some 91), (some (89, true)), .mv (.t 0) false⟩, ⟨(some 92), (some (89, true)), .len (.t 91)⟩, ⟨(some 93), (some (89, true)), .bin .lss .no (.t 90) (.t 92)⟩, ⟨(some 94), none, .pick (.t 89) (.t 93) (.c (.bool false))⟩, ⟨(some 95), none, .mv (.t 94) false⟩, ⟨(some 96), (some (95, true)), .mv (.t 0) false⟩, ⟨(some 97), (some (95, true)), .mv (.t 9) false⟩, ⟨(some 98), (some (95, true)), .iaddr 6 (.t 96) (.t 97)⟩, ⟨(some 99), (some (95, true)), .faddr 0 (.t 98)⟩, ⟨(some 100), (some (95, true)), .load false 1 (.t 99)⟩, ⟨(some 101), (some (95, true)), .bin .eql .no (.t 100) (.c (.int .i64 9))⟩, ⟨(some 102), none, .pick (.t 95) (.t 101) (.c (.bool false))⟩, ⟨(some 103), none, .mv (.t 102) false⟩, ⟨(some 104), (some (103, true)), .mv (.t 0) false⟩, ⟨(some 105), (some (103, true)), .mv (.t 9) false⟩, ⟨(some 106), (some (103, true)), .iaddr 6 (.t 104) (.t 105)⟩, ⟨(some 107), (some (103, true)), .faddr 3 (.t 106)⟩, ⟨(some 108), (some (103, true)), .load false 1 (.t 107)⟩, ⟨(some 109), (some (103, true)), .bin .eql .no (.t 108) (.c (.str [43]))⟩, ⟨(some 110), (some (103, true)), .mv (.t 109) false⟩, ⟨(some 111), (some (110, false)), .mv (.t 0) false⟩, ⟨(some 112), (some (110, false)), .mv (.t 9) false⟩, ⟨(some 113), (some (110, false)), .iaddr 6 (.t 111) (.t 112)⟩, ⟨(some 114), (some (110, false)), .faddr 3 (.t 113)⟩, ⟨(some 115), (some (110, false)), .load false 1 (.t 114)⟩, ⟨(some 116), (some (110, false)), .bin .eql .no (.t 115) (.c (.str [45]))⟩, ⟨(some 117), (some (103, true)), .pick (.t 110) (.c (.bool true)) (.t 116)⟩, ⟨(some 118), none, .pick (.t 103) (.t 117) (.c (.bool false))⟩, ⟨(some 119), none, .mv (.t 118) false⟩, ⟨(some 120), (some (119, true)), .mv (.t 0) false⟩, ⟨(some 121), (some (119, true)), .mv (.t 0) false⟩, ⟨(some 122), (some (119, true)), .mv (.t 9) false⟩, ⟨(some 123), (some (119, true)), .bin .add .no (.t 122) (.c (.int .i64 1))⟩, ⟨(some 124), (some (119, true)), .call 59 [(.t 121), (.t 123)]⟩, ⟨(some 125), (some (119, true)), .call 62 [(.t 120), (.t 124), (.c (.bool false))]⟩, ⟨(some 126), none, .pick (.t 119) (.t 125) (.c (.bool false))⟩]) (.cond (.t 126) (.seq (.ops 18 [⟨(some 127), none, .mv (.t 0) false⟩, ⟨(some 128), none, .mv (.t 9) false⟩, ⟨(some 129), none, .bin .add .no (.t 128) (.c (.int .i64 1))⟩, ⟨(some 130), none, .call 59 [(.t 127), (.t 129)]⟩, ⟨(some 10), none, .mv (.t 130) false⟩]) (.seq (.drw 19 [⟨⟨(some 131), none, .mv (.t 6) false⟩, 0, []⟩, ⟨⟨(some 132), none, .mv (.t 0) false⟩, 1, []⟩, ⟨⟨(some 133), none, .mv (.t 9) false⟩, 2, []⟩, ⟨⟨(some 134), none, .iaddr 6 (.t 132) (.t 133)⟩, 3, []⟩, ⟨⟨(some 135), none, .faddr 3 (.t 134)⟩, 4, []⟩, ⟨⟨(some 136), none, .load false 1 (.t 135)⟩, 5, []⟩, ⟨⟨(some 137), none, .mv (.t 0) false⟩, 6, []⟩, ⟨⟨(some 138), none, .mv (.t 10) false⟩, 7, []⟩, ⟨⟨(some 139), none, .iaddr 6 (.t 137) (.t 138)⟩, 8, []⟩, ⟨⟨(some 140), none, .faddr 4 (.t 139)⟩, 9, []⟩, ⟨⟨(some 141), none, .load false 1 (.t 140)⟩, 10, []⟩, ⟨⟨(some 142), none, .bin .add .no (.t 136) (.t 141)⟩, 11, []⟩, ⟨⟨(some 143), none, .mv (.t 10) false⟩, 12, []⟩, ⟨⟨(some 144), none, .bin .add .no (.t 143) (.c (.int .i64 1))⟩, 13, []⟩, ⟨⟨(some 145), none, .build [(.str []), (.str []), (.int .i64 0)] [(0, 1, (.t 131)), (1, 1, (.t 142)), (2, 1, (.t 144))]⟩, 14, []⟩, ⟨⟨none, none, .store 3 (.t 2) (.t 145) false⟩, 15, []⟩, ⟨⟨(some 3), none, .mv (.c (.bool true)) false⟩, 16, []⟩]) .ret)) .skip)) (.seq (.seq (.ops 20 [⟨(some 146), none, .mv (.t 7) false⟩, ⟨(some 147), none, .bin .eql .no (.t 146) (.c (.str []))⟩]) (.cond (.t 147) (.seq (.ops 21 [⟨(some 148), none, .mv (.t 6) false⟩, ⟨(some 149), none, .mv (.t 8) false⟩, ⟨(some 150), none, .build [(.str []), (.str []), (.int .i64 0)] [(0, 1, (.t 148)), (1, 1, (.c (.str [48]))), (2, 1, (.t 149))]⟩, ⟨none, none, .store 3 (.t 2) (.t 150) false⟩, ⟨(some 3), none, .mv (.c (.bool true)) false⟩]) .ret) .skip)) (.seq (.seq (.ops 22 [⟨(some 151), none, .mv (.t 7) false⟩, ⟨(some 152), none, .bin .eql .no (.t 151) (.c (.str [45]))⟩, ⟨(some 153), none, .mv (.t 152) false⟩, ⟨(some 154), (some (153, true)), .mv (.t 0) false⟩, ⟨(some 155), (some (153, true)), .mv (.t 9) false⟩, ⟨(some 156), (some (153, true)), .call 62 [(.t 154), (.t 155), (.c (.bool false))]⟩, ⟨(some 157), none, .pick (.t 153) (.t 156) (.c (.bool false))⟩]) (.cond (.t 157) (.seq (.ops 23 [⟨(some 158), none, .mv (.t 6) false⟩, ⟨(some 159), none, .mv (.t 0) true⟩, ⟨(some 160), none, .mv (.t 9) false⟩, ⟨(some 161), none, .iaddr 6 (.t 159) (.t 160)⟩, ⟨(some 162), none, .faddr 4 (.t 161)⟩, ⟨(some 163), none, .load false 1 (.t 162)⟩, ⟨(some 164), none, .bin .add .no (.c (.str [45])) (.t 163)⟩, ⟨(some 165), none, .mv (.t 9) false⟩, ⟨(some 166), none, .bin .add .no (.t 165) (.c (.int .i64 1))⟩, ⟨(some 167), none, .build [(.str []), (.str []), (.int .i64 0)] [(0, 1, (.t 158)), (1, 1, (.t 164)), (2, 1, (.t 166))]⟩, ⟨none, none, .store 3 (.t 2) (.t 167) false⟩, ⟨(some 3), none, .mv (.c (.bool true)) false⟩]) .ret) .skip)) (.seq (.seq (.ops 24 [⟨(some 168), none, .mv (.t 7) false⟩, ⟨(some 169), none, .lenS (.t 168)⟩, ⟨(some 170), none, .bin .gtr .no (.t 169) (.c (.int .i64 1))⟩, ⟨(some 171), none, .mv (.t 170) false⟩, ⟨(some 172), (some (171, true)), .mv (.t 7) false⟩, ⟨(some 173), (some (171, true)), .idx (.t 172) (.c (.int .i64 0))⟩, ⟨(some 174), (some (171, true)), .bin .eql .no (.t 173) (.c (.int .u8 45))⟩, ⟨(some 175), none, .pick (.t 171) (.t 174) (.c (.bool false))⟩, ⟨(some 176), none, .mv (.t 175) false⟩, ⟨(some 177), (some (176, true)), .mv (.t 7) false⟩, ⟨(some 178), (some (176, true)), .cutS (.t 177) (some (.c (.int .i64 1))) none⟩, ⟨(some 179), (some (176, true)), .call 63 [(.t 178)]⟩, ⟨(some 180), none, .pick (.t 176) (.t 179) (.c (.bool false))⟩]) (.cond (.t 180) (.seq (.ops 25 [⟨(some 181), none, .mv (.t 6) false⟩, ⟨(some 182), none, .mv (.t 7) false⟩, ⟨(some 183), none, .mv (.t 8) false⟩, ⟨(some 184), none, .build [(.str []), (.str []), (.int .i64 0)] [(0, 1, (.t 181)), (1, 1, (.t 182)), (2, 1, (.t 183))]⟩, ⟨none, none, .store 3 (.t 2) (.t 184) false⟩, ⟨(some 3), none, .mv (.c (.bool true)) false⟩]) .ret) .skip)) (.seq (.ops 26 [⟨(some 185), none, .build [(.str []), (.str []), (.int .i64 0)] []⟩, ⟨none, none, .store 3 (.t 2) (.t 185) false⟩, ⟨(some 3), none, .mv (.c (.bool false)) false⟩]) .ret))))))))))))))))⟩
theorem ok_c_wattleref04_Find : chkFn Tryz.prog 36 c_wattleref04_Find = true := chkFn_of Tryz.func36 (by kernel_rfl)
def s_wattleref04_Find (M : Mach) (a0 : V) (σ : Objs) : Ro :=
  let s0 : Objs := σ ++ [.cells [(.str []), (.str []), (.int .i64 0)]]
  bd (M.call 59 [a0.nogr.nogr, (.int .i64 0)] s0) fun p1 =>
  bd (pu (evLen a0.nogr.nogr)) fun x2 =>
  bd (pu (evBin .geq .no p1.1.nogr.nogr.nogr x2.nogr)) fun x3 =>
  br x3.nogr (
  bd (pu (buildV [(.str []), (.str []), (.int .i64 0)] [])) fun x4 =>
  bd (storeV p1.2 3 (.ptr σ.length 0) x4.nogr x4.nogr) fun p5 =>
  bd (resC p5.2 true 3 (.ptr σ.length 0)) fun x6 =>
  endK σ.length p5.2 (.tup [x6.nogr, (.bool false)])) (
  bd (pu (evIaddr 6 p1.1.nogr.nogr.nogr a0.nogr.nogr)) fun x7 =>
  bd (pu (evLoad p1.2 true 6 x7.nogr)) fun x8 =>
  let s9 : Objs := p1.2 ++ [.cells [(.int .i64 0), (.int .i64 0), (.int .i64 0), (.str []), (.str []), (.bool false)]]
  bd (storeV s9 6 (.ptr p1.2.length 0) x8.nogr x8.nogr) fun p10 =>
  bd (pu (evFaddr 0 (.ptr p1.2.length 0))) fun x11 =>
  bd (pu (evLoad p10.2 false 1 x11.nogr)) fun x12 =>
  bd (pu (evBin .eql .no x12.nogr (.int .i64 1))) fun x13 =>
  bd (gdv x13.nogr true (pu (evFaddr 3 (.ptr p1.2.length 0)))) fun x14 =>
  bd (gdv x13.nogr true (pu (evLoad p10.2 false 1 x14.nogr))) fun x15 =>
  bd (gdp x13.nogr true (M.call 60 [x15.nogr] p10.2) p10.2) fun p16 =>
  bd (gdv x13.nogr true (pu (evBin .eql .no p16.1.nogr (.str [101, 118, 101, 110])))) fun x17 =>
  bd (pu (pickV x13.nogr.nogr x17.nogr (.bool false))) fun x18 =>
  br x18.nogr (
  bd (pu (evBin .add .no p1.1.nogr.nogr.nogr (.int .i64 1))) fun x19 =>
  bd (pu (buildV [(.str []), (.str []), (.int .i64 0)] [(0, 1, (.str [50])), (1, 1, (.str [48])), (2, 1, x19.nogr)])) fun x20 =>
  bd (storeV p16.2 3 (.ptr σ.length 0) x20.nogr x20.nogr) fun p21 =>
  bd (resC p21.2 true 3 (.ptr σ.length 0)) fun x22 =>
  endK σ.length p21.2 (.tup [x22.nogr, (.bool true)])) (
  bd (pu (evFaddr 0 (.ptr p1.2.length 0))) fun x23 =>
  bd (pu (evLoad p16.2 false 1 x23.nogr)) fun x24 =>
  bd (pu (evBin .eql .no x24.nogr (.int .i64 1))) fun x25 =>
  bd (gdv x25.nogr true (pu (evFaddr 3 (.ptr p1.2.length 0)))) fun x26 =>
  bd (gdv x25.nogr true (pu (evLoad p16.2 false 1 x26.nogr))) fun x27 =>
  bd (gdp x25.nogr true (M.call 60 [x27.nogr] p16.2) p16.2) fun p28 =>
  bd (gdv x25.nogr true (pu (evBin .eql .no p28.1.nogr (.str [111, 100, 100])))) fun x29 =>
  bd (pu (pickV x25.nogr.nogr x29.nogr (.bool false))) fun x30 =>
  br x30.nogr (
  bd (pu (evBin .add .no p1.1.nogr.nogr.nogr (.int .i64 1))) fun x31 =>
  bd (pu (buildV [(.str []), (.str []), (.int .i64 0)] [(0, 1, (.str [50])), (1, 1, (.str [49])), (2, 1, x31.nogr)])) fun x32 =>
  bd (storeV p28.2 3 (.ptr σ.length 0) x32.nogr x32.nogr) fun p33 =>
  bd (resC p33.2 true 3 (.ptr σ.length 0)) fun x34 =>
  endK σ.length p33.2 (.tup [x34.nogr, (.bool true)])) (
  bd (pu (evFaddr 0 (.ptr p1.2.length 0))) fun x35 =>
  bd (pu (evLoad p28.2 false 1 x35.nogr)) fun x36 =>
  bd (pu (evBin .eql .no x36.nogr (.int .i64 10))) fun x37 =>
  bd (gdv x37.nogr true (pu (evFaddr 5 (.ptr p1.2.length 0)))) fun x38 =>
  bd (gdv x37.nogr true (pu (evLoad p28.2 false 1 x38.nogr))) fun x39 =>
  bd (pu (pickV x37.nogr.nogr x39.nogr (.bool false))) fun x40 =>
  br x40.nogr (
  bd (pu (evFaddr 4 (.ptr p1.2.length 0))) fun x41 =>
  bd (pu (evLoad p28.2 false 1 x41.nogr)) fun x42 =>
  bd (pu (evBin .add .no p1.1.nogr.nogr.nogr (.int .i64 1))) fun x43 =>
  bd (pu (buildV [(.str []), (.str []), (.int .i64 0)] [(0, 1, (.str [48])), (1, 1, x42.nogr), (2, 1, x43.nogr)])) fun x44 =>
  bd (storeV p28.2 3 (.ptr σ.length 0) x44.nogr x44.nogr) fun p45 =>
  bd (resC p45.2 true 3 (.ptr σ.length 0)) fun x46 =>
  endK σ.length p45.2 (.tup [x46.nogr, (.bool true)])) (
  bd (M.call 61 [a0.nogr.nogr, p1.1.nogr.nogr.nogr] p28.2) fun p47 =>
  bd (pu (evExtr 0 p47.1.nogr.nogr)) fun x48 =>
  bd (pu (evExtr 1 p47.1.nogr.nogr)) fun x49 =>
  bd (pu (evExtr 2 p47.1.nogr.nogr)) fun x50 =>
  bd (pu (evBin .lss .no x50.nogr.nogr.nogr (.int .i64 0))) fun x51 =>
  br x51.nogr (
  bd (pu (buildV [(.str []), (.str []), (.int .i64 0)] [])) fun x52 =>
  bd (storeV p47.2 3 (.ptr σ.length 0) x52.nogr x52.nogr) fun p53 =>
  bd (resC p53.2 true 3 (.ptr σ.length 0)) fun x54 =>
  endK σ.length p53.2 (.tup [x54.nogr, (.bool false)])) (
  bd (M.call 59 [a0.nogr.nogr, x50.nogr.nogr.nogr] p47.2) fun p55 =>
  bd (pu (evBin .eql .no x49.nogr.nogr.nogr (.str []))) fun x56 =>
  bd (gdv x56.nogr true (some a0.nogr)) fun x57 =>
  bd (gdv x56.nogr true (some p55.1.nogr.nogr)) fun x58 =>
  bd (gdp x56.nogr true (M.call 62 [x57.nogr, x58.nogr, (.bool true)] p55.2) p55.2) fun p59 =>
  bd (pu (pickV x56.nogr.nogr p59.1.nogr (.bool false))) fun x60 =>
  br x60.nogr (
  bd (pu (evIaddr 6 p55.1.nogr.nogr.nogr a0.nogr)) fun x61 =>
  bd (pu (evFaddr 4 x61.nogr)) fun x62 =>
  bd (pu (evLoad p59.2 false 1 x62.nogr)) fun x63 =>
  bd (pu (evBin .add .no p55.1.nogr.nogr.nogr (.int .i64 1))) fun x64 =>
  bd (pu (buildV [(.str []), (.str []), (.int .i64 0)] [(0, 1, x48.nogr.nogr.nogr), (1, 1, x63.nogr), (2, 1, x64.nogr)])) fun x65 =>
  bd (storeV p59.2 3 (.ptr σ.length 0) x65.nogr x65.nogr) fun p66 =>
  bd (resC p66.2 true 3 (.ptr σ.length 0)) fun x67 =>
  endK σ.length p66.2 (.tup [x67.nogr, (.bool true)])) (
  bd (pu (evBin .eql .no x49.nogr.nogr.nogr (.str []))) fun x68 =>
  bd (gdv x68.nogr true (some p55.1.nogr.nogr)) fun x69 =>
  bd (gdv x68.nogr true (some a0.nogr)) fun x70 =>
  bd (gdv x68.nogr true (pu (evLen x70.nogr))) fun x71 =>
  bd (gdv x68.nogr true (pu (evBin .lss .no x69.nogr x71.nogr))) fun x72 =>
  bd (pu (pickV x68.nogr.nogr x72.nogr (.bool false))) fun x73 =>
  bd (gdv x73.nogr true (some a0.nogr)) fun x74 =>
  bd (gdv x73.nogr true (some p55.1.nogr.nogr)) fun x75 =>
  bd (gdv x73.nogr true (pu (evIaddr 6 x75.nogr x74.nogr))) fun x76 =>
  bd (gdv x73.nogr true (pu (evFaddr 0 x76.nogr))) fun x77 =>
  bd (gdv x73.nogr true (pu (evLoad p59.2 false 1 x77.nogr))) fun x78 =>
  bd (gdv x73.nogr true (pu (evBin .eql .no x78.nogr (.int .i64 9)))) fun x79 =>
  bd (pu (pickV x73.nogr.nogr x79.nogr (.bool false))) fun x80 =>
  bd (gdv x80.nogr true (some a0.nogr)) fun x81 =>
  bd (gdv x80.nogr true (some p55.1.nogr.nogr)) fun x82 =>
  bd (gdv x80.nogr true (pu (evIaddr 6 x82.nogr x81.nogr))) fun x83 =>
  bd (gdv x80.nogr true (pu (evFaddr 3 x83.nogr))) fun x84 =>
  bd (gdv x80.nogr true (pu (evLoad p59.2 false 1 x84.nogr))) fun x85 =>
  bd (gdv x80.nogr true (pu (evBin .eql .no x85.nogr (.str [43])))) fun x86 =>
  bd (gdv x80.nogr true (some x86.nogr)) fun x87 =>
  bd (gdv x87 false (some a0.nogr)) fun x88 =>
  bd (gdv x87 false (some p55.1.nogr.nogr)) fun x89 =>
  bd (gdv x87 false (pu (evIaddr 6 x89.nogr x88.nogr))) fun x90 =>
  bd (gdv x87 false (pu (evFaddr 3 x90.nogr))) fun x91 =>
  bd (gdv x87 false (pu (evLoad p59.2 false 1 x91.nogr))) fun x92 =>
  bd (gdv x87 false (pu (evBin .eql .no x92.nogr (.str [45])))) fun x93 =>
  bd (gdv x80.nogr true (pu (pickV x87.nogr (.bool true) x93.nogr))) fun x94 =>
  bd (pu (pickV x80.nogr.nogr x94.nogr (.bool false))) fun x95 =>
  bd (gdv x95.nogr true (some a0.nogr)) fun x96 =>
  bd (gdv x95.nogr true (some a0.nogr)) fun x97 =>
  bd (gdv x95.nogr true (some p55.1.nogr.nogr)) fun x98 =>
  bd (gdv x95.nogr true (pu (evBin .add .no x98.nogr (.int .i64 1)))) fun x99 =>
  bd (gdp x95.nogr true (M.call 59 [x97.nogr, x99.nogr] p59.2) p59.2) fun p100 =>
  bd (gdp x95.nogr true (M.call 62 [x96.nogr, p100.1.nogr, (.bool false)] p100.2) p100.2) fun p101 =>
  bd (pu (pickV x95.nogr.nogr p101.1.nogr (.bool false))) fun x102 =>
  br x102.nogr (
  bd (pu (evBin .add .no p55.1.nogr.nogr.nogr (.int .i64 1))) fun x103 =>
  bd (M.call 59 [a0.nogr.nogr, x103.nogr] p101.2) fun p104 =>
  bd (pu (evIaddr 6 p55.1.nogr.nogr.nogr a0.nogr.nogr)) fun x105 =>
  bd (pu (evFaddr 3 x105.nogr)) fun x106 =>
  bd (pu (evLoad p104.2 false 1 x106.nogr)) fun x107 =>
  bd (pu (evIaddr 6 p104.1.nogr.nogr.nogr a0.nogr.nogr)) fun x108 =>
  bd (pu (evFaddr 4 x108.nogr)) fun x109 =>
  bd (pu (evLoad p104.2 false 1 x109.nogr)) fun x110 =>
  bd (pu (evBin .add .no x107.nogr x110.nogr)) fun x111 =>
  bd (pu (evBin .add .no p104.1.nogr.nogr.nogr (.int .i64 1))) fun x112 =>
  bd (pu (buildV [(.str []), (.str []), (.int .i64 0)] [(0, 1, x48.nogr.nogr.nogr), (1, 1, x111.nogr), (2, 1, x112.nogr)])) fun x113 =>
  bd (storeV p104.2 3 (.ptr σ.length 0) x113.nogr x113.nogr) fun p114 =>
  bd (resC p114.2 true 3 (.ptr σ.length 0)) fun x115 =>
  endK σ.length p114.2 (.tup [x115.nogr, (.bool true)])) (
  bd (pu (evBin .eql .no x49.nogr.nogr.nogr (.str []))) fun x116 =>
  br x116.nogr (
  bd (pu (buildV [(.str []), (.str []), (.int .i64 0)] [(0, 1, x48.nogr.nogr.nogr), (1, 1, (.str [48])), (2, 1, x50.nogr.nogr.nogr)])) fun x117 =>
  bd (storeV p101.2 3 (.ptr σ.length 0) x117.nogr x117.nogr) fun p118 =>
  bd (resC p118.2 true 3 (.ptr σ.length 0)) fun x119 =>
  endK σ.length p118.2 (.tup [x119.nogr, (.bool true)])) (
  bd (pu (evBin .eql .no x49.nogr.nogr.nogr (.str [45]))) fun x120 =>
  bd (gdv x120.nogr true (some a0.nogr)) fun x121 =>
  bd (gdv x120.nogr true (some p55.1.nogr.nogr)) fun x122 =>
  bd (gdp x120.nogr true (M.call 62 [x121.nogr, x122.nogr, (.bool false)] p101.2) p101.2) fun p123 =>
  bd (pu (pickV x120.nogr.nogr p123.1.nogr (.bool false))) fun x124 =>
  br x124.nogr (
  bd (pu (evIaddr 6 p55.1.nogr.nogr.nogr a0.nogr)) fun x125 =>
  bd (pu (evFaddr 4 x125.nogr)) fun x126 =>
  bd (pu (evLoad p123.2 false 1 x126.nogr)) fun x127 =>
  bd (pu (evBin .add .no (.str [45]) x127.nogr)) fun x128 =>
  bd (pu (evBin .add .no p55.1.nogr.nogr.nogr (.int .i64 1))) fun x129 =>
  bd (pu (buildV [(.str []), (.str []), (.int .i64 0)] [(0, 1, x48.nogr.nogr.nogr), (1, 1, x128.nogr), (2, 1, x129.nogr)])) fun x130 =>
  bd (storeV p123.2 3 (.ptr σ.length 0) x130.nogr x130.nogr) fun p131 =>
  bd (resC p131.2 true 3 (.ptr σ.length 0)) fun x132 =>
  endK σ.length p131.2 (.tup [x132.nogr, (.bool true)])) (
  bd (pu (evLenS x49.nogr.nogr.nogr)) fun x133 =>
  bd (pu (evBin .gtr .no x133.nogr (.int .i64 1))) fun x134 =>
  bd (gdv x134.nogr true (some x49.nogr.nogr)) fun x135 =>
  bd (gdv x134.nogr true (pu (evIdx (.int .i64 0) x135.nogr))) fun x136 =>
  bd (gdv x134.nogr true (pu (evBin .eql .no x136.nogr (.int .u8 45)))) fun x137 =>
  bd (pu (pickV x134.nogr.nogr x137.nogr (.bool false))) fun x138 =>
  bd (gdv x138.nogr true (some x49.nogr.nogr)) fun x139 =>
  bd (gdv x138.nogr true (pu (evCutS x139.nogr (some (.int .i64 1)) none))) fun x140 =>
  bd (gdp x138.nogr true (M.call 63 [x140.nogr] p123.2) p123.2) fun p141 =>
  bd (pu (pickV x138.nogr.nogr p141.1.nogr (.bool false))) fun x142 =>
  br x142.nogr (
  bd (pu (buildV [(.str []), (.str []), (.int .i64 0)] [(0, 1, x48.nogr.nogr.nogr), (1, 1, x49.nogr.nogr.nogr), (2, 1, x50.nogr.nogr.nogr)])) fun x143 =>
  bd (storeV p141.2 3 (.ptr σ.length 0) x143.nogr x143.nogr) fun p144 =>
  bd (resC p144.2 true 3 (.ptr σ.length 0)) fun x145 =>
  endK σ.length p144.2 (.tup [x145.nogr, (.bool true)])) (
  bd (pu (buildV [(.str []), (.str []), (.int .i64 0)] [])) fun x146 =>
  bd (storeV p141.2 3 (.ptr σ.length 0) x146.nogr x146.nogr) fun p147 =>
  bd (resC p147.2 true 3 (.ptr σ.length 0)) fun x148 =>
  endK σ.length p147.2 (.tup [x148.nogr, (.bool false)])))))))))))
theorem k_wattleref04_Find (M : Mach) (a0 : V) (σ : Objs) : fnK M c_wattleref04_Find [a0] σ = s_wattleref04_Find M a0 σ := by kernel_rfl
def c_wattleref02_Digit : Ev.Fn := ⟨9, [.tmp 2], false, false, (.seq (.ops 0 [⟨(some 2), none, .mv (.c (.bool false)) false⟩]) (.seq (.ops 1 [⟨(some 3), none, .mv (.t 0) false⟩, ⟨(some 4), none, .bin .geq .no (.t 3) (.c (.int .i64 48))⟩, ⟨(some 5), none, .mv (.t 4) false⟩, ⟨(some 6), (some (5, true)), .mv (.t 0) false⟩, ⟨(some 7), (some (5, true)), .bin .leq .no (.t 6) (.c (.int .i64 57))⟩, ⟨(some 8), none, .pick (.t 5) (.t 7) (.c (.bool false))⟩, ⟨(some 2), none, .mv (.t 8) false⟩]) .ret))⟩
theorem ok_c_wattleref02_Digit : chkFn Tryz.prog 38 c_wattleref02_Digit = true := chkFn_of Tryz.func38 (by kernel_rfl)
def s_wattleref02_Digit (M : Mach) (a0 : V) (σ : Objs) : Ro :=
  bd (pu (evBin .geq .no a0.nogr.nogr (.int .i64 48))) fun x0 =>
  bd (gdv x0.nogr true (some a0.nogr)) fun x1 =>
  bd (gdv x0.nogr true (pu (evBin .leq .no x1.nogr (.int .i64 57)))) fun x2 =>
  bd (pu (pickV x0.nogr.nogr x2.nogr (.bool false))) fun x3 =>
  bd (oneK false x3.nogr) (endK σ.length σ)
theorem k_wattleref02_Digit (M : Mach) (a0 : V) (σ : Objs) : fnK M c_wattleref02_Digit [a0] σ = s_wattleref02_Digit M a0 σ := by kernel_rfl
def c_strconv_Itoa : Ev.Fn := ⟨5, [.tmp 2], false, false, (.seq (.ops 0 [⟨(some 2), none, .mv (.c (.str [])) false⟩]) (.seq (.ops 1 [⟨(some 3), none, .mv (.t 0) false⟩, ⟨(some 4), none, .call 68 [(.t 3)]⟩, ⟨(some 2), none, .mv (.t 4) false⟩]) .ret))⟩
theorem ok_c_strconv_Itoa : chkFn Tryz.prog 39 c_strconv_Itoa = true := chkFn_of Tryz.func39 (by kernel_rfl)
def s_strconv_Itoa (M : Mach) (a0 : V) (σ : Objs) : Ro :=
  bd (M.call 68 [a0.nogr.nogr] σ) fun p0 =>
  bd (oneK false p0.1.nogr) (endK σ.length p0.2)
theorem k_strconv_Itoa (M : Mach) (a0 : V) (σ : Objs) : fnK M c_strconv_Itoa [a0] σ = s_strconv_Itoa M a0 σ := by kernel_rfl
def c_wattleref04_signed : Ev.Fn := ⟨11, [.tmp 2], false, false, (.seq (.ops 0 [⟨(some 2), none, .mv (.c (.str [])) false⟩]) (.seq (.seq (.ops 1 [⟨(some 3), none, .mv (.t 0) false⟩, ⟨(some 4), none, .bin .lss .no (.t 3) (.c (.int .i64 0))⟩]) (.cond (.t 4) (.seq (.ops 2 [⟨(some 5), none, .mv (.t 0) false⟩, ⟨(some 6), none, .un .neg (.t 5)⟩, ⟨(some 7), none, .call 69 [(.t 6), (.c (.int .i64 10))]⟩, ⟨(some 8), none, .bin .add .no (.c (.str [45])) (.t 7)⟩, ⟨(some 2), none, .mv (.t 8) false⟩]) .ret) .skip)) (.seq (.ops 3 [⟨(some 9), none, .mv (.t 0) false⟩, ⟨(some 10), none, .call 69 [(.t 9), (.c (.int .i64 10))]⟩, ⟨(some 2), none, .mv (.t 10) false⟩]) .ret)))⟩
theorem ok_c_wattleref04_signed : chkFn Tryz.prog 40 c_wattleref04_signed = true := chkFn_of Tryz.func40 (by kernel_rfl)
def s_wattleref04_signed (M : Mach) (a0 : V) (σ : Objs) : Ro :=
  bd (pu (evBin .lss .no a0.nogr.nogr (.int .i64 0))) fun x0 =>
  br x0.nogr (
  bd (pu (evUn .neg a0.nogr.nogr)) fun x1 =>
  bd (M.call 69 [x1.nogr, (.int .i64 10)] σ) fun p2 =>
  bd (pu (evBin .add .no (.str [45]) p2.1.nogr)) fun x3 =>
  bd (oneK false x3.nogr) (endK σ.length p2.2)) (
  bd (M.call 69 [a0.nogr.nogr, (.int .i64 10)] σ) fun p4 =>
  bd (oneK false p4.1.nogr) (endK σ.length p4.2))
theorem k_wattleref04_signed (M : Mach) (a0 : V) (σ : Objs) : fnK M c_wattleref04_signed [a0] σ = s_wattleref04_signed M a0 σ := by kernel_rfl
def c_wattleref01_First : Ev.Fn := ⟨55, [.tmp 4, .tmp 5], false, false, (.seq (.ops 0 [⟨(some 4), none, .mv (.c (.int .i64 0)) false⟩, ⟨(some 5), none, .mv (.c (.int .i64 0)) false⟩]) (.seq (.seq (.ops 1 [⟨(some 6), none, .mv (.c (.int .i64 1)) false⟩]) (.block 0 (.loop [0, 1, 6] [0, 1, 4, 5] (.seq (.seq (.ops 2 [⟨(some 8), none, .mv (.t 6) false⟩, ⟨(some 9), none, .bin .leq .no (.t 8) (.c (.int .i64 4))⟩, ⟨(some 10), none, .mv (.t 9) false⟩, ⟨(some 11), (some (10, true)), .mv (.t 1) false⟩, ⟨(some 12), (some (10, true)), .mv (.t 6) false⟩, ⟨(some 13), (some (10, true)), .bin .add .no (.t 11) (.t 12)⟩, ⟨(some 14), (some (10, true)), .mv (.t 0) false⟩, ⟨(some 15), (some (10, true)), .len (.t 14)⟩, ⟨(some 16), (some (10, true)), .bin .leq .no (.t 13) (.t 15)⟩, ⟨(some 17), none, .pick (.t 10) (.t 16) (.c (.bool false))⟩]) (.cond (.t 17) .skip (.exit 0))) (.seq (.block 1 (.seq (.ops 4 [⟨(some 20), none, .mv (.t 0) false⟩, ⟨(some 21), none, .mv (.t 1) false⟩, ⟨(some 22), none, .mv (.t 1) false⟩, ⟨(some 23), none, .mv (.t 6) false⟩, ⟨(some 24), none, .bin .add .no (.t 22) (.t 23)⟩, ⟨(some 25), none, .cut 1 (.t 20) (some (.t 21)) (some (.t 24)) none⟩, ⟨(some 26), none, .call 86 [(.t 25)]⟩]) (.cond (.t 26) (.seq (.ops 5 [⟨(some 27), none, .mv (.t 0) true⟩, ⟨(some 28), none, .mv (.t 1) false⟩, ⟨(some 29), none, .mv (.t 1) false⟩, ⟨(some 30), none, .mv (.t 6) false⟩, ⟨(some 31), none, .bin .add .no (.t 29) (.t 30)⟩, ⟨(some 32), none, .cut 1 (.t 27) (some (.t 28)) (some (.t 31)) none⟩, ⟨(some 33), none, .call 87 [(.t 32)]⟩, ⟨(some 34), none, .mv (.t 6) false⟩, ⟨(some 4), none, .mv (.t 33) false⟩, ⟨(some 5), none, .mv (.t 34) false⟩]) .ret) .skip))) (.ops 3 [⟨(some 18), none, .mv (.t 6) false⟩, ⟨(some 19), none, .bin .add .no (.t 18) (.c (.int .i64 1))⟩, ⟨(some 6), none, .mv (.t 19) false⟩])))))) (.seq (.seq (.ops 6 [⟨(some 7), none, .mv (.c (.int .i64 3)) false⟩]) (.block 2 (.loop [0, 1, 7] [4, 5] (.seq (.seq (.ops 7 [⟨(some 35), none, .mv (.t 7) false⟩, ⟨(some 36), none, .bin .gtr .no (.t 35) (.c (.int .i64 1))⟩]) (.cond (.t 36) .skip (.exit 2))) (.seq (.block 3 (.seq (.ops 9 [⟨(some 39), none, .mv (.t 1) false⟩, ⟨(some 40), none, .mv (.t 7) false⟩, ⟨(some 41), none, .bin .add .no (.t 39) (.t 40)⟩, ⟨(some 42), none, .mv (.t 0) false⟩, ⟨(some 43), none, .len (.t 42)⟩, ⟨(some 44), none, .bin .leq .no (.t 41) (.t 43)⟩, ⟨(some 45), none, .mv (.t 44) false⟩, ⟨(some 46), (some (45, true)), .mv (.t 0) false⟩, ⟨(some 47), (some (45, true)), .mv (.t 1) false⟩, ⟨(some 48), (some (45, true)), .mv (.t 1) false⟩, ⟨(some 49), (some (45, true)), .mv (.t 7) false⟩, ⟨(some 50), (some (45, true)), .bin .add .no (.t 48) (.t 49)⟩, ⟨(some 51), (some (45, true)), .cut 1 (.t 46) (some (.t 47)) (some (.t 50)) none⟩, ⟨(some 52), (some (45, true)), .call 88 [(.t 51)]⟩, ⟨(some 53), none, .pick (.t 45) (.t 52) (.c (.bool false))⟩]) (.cond (.t 53) (.seq (.ops 10 [⟨(some 54), none, .mv (.t 7) false⟩, ⟨(some 4), none, .mv (.c (.int .i64 65533)) false⟩, ⟨(some 5), none, .mv (.t 54) false⟩]) .ret) .skip))) (.ops 8 [⟨(some 37), none, .mv (.t 7) false⟩, ⟨(some 38), none, .bin .sub .no (.t 37) (.c (.int .i64 1))⟩, ⟨(some 7), none, .mv (.t 38) false⟩])))))) (.seq (.ops 11 [⟨(some 4), none, .mv (.c (.int .i64 65533)) false⟩, ⟨(some 5), none, .mv (.c (.int .i64 1)) false⟩]) .ret))))⟩
theorem ok_c_wattleref01_First : chkFn Tryz.prog 52 c_wattleref01_First = true := chkFn_of Tryz.func52 (by kernel_rfl)
def b_wattleref01_First_1 (M : Mach) (n0 : Nat) (n1 : Nat) (r1 : Rk) (z0 z1 z7 : V) (σ : Objs) : Ro :=
  bd (pu (evBin .gtr .no z7.nogr.nogr (.int .i64 1))) fun x29 =>
  br x29.nogr (
  bd (pu (evBin .add .no z1.nogr.nogr z7.nogr.nogr)) fun x30 =>
  bd (pu (evLen z0.nogr.nogr)) fun x31 =>
  bd (pu (evBin .leq .no x30.nogr x31.nogr)) fun x32 =>
  bd (gdv x32.nogr true (some z0.nogr)) fun x33 =>
  bd (gdv x32.nogr true (some z1.nogr)) fun x34 =>
  bd (gdv x32.nogr true (some z1.nogr)) fun x35 =>
  bd (gdv x32.nogr true (some z7.nogr)) fun x36 =>
  bd (gdv x32.nogr true (pu (evBin .add .no x35.nogr x36.nogr))) fun x37 =>
  bd (gdv x32.nogr true (pu (evCut 1 x33.nogr (some x34.nogr) (some x37.nogr) none))) fun x38 =>
  bd (gdp x32.nogr true (M.call 88 [x38.nogr] σ) σ) fun p39 =>
  bd (pu (pickV x32.nogr.nogr p39.1.nogr (.bool false))) fun x40 =>
  br x40.nogr (
  bd (fz n1 p39.2 fzDepth (.int .i64 65533)) fun y41 =>
  bd (fz n1 p39.2 fzDepth z7.nogr.nogr) fun y42 =>
  bd (cutObjs n1 p39.2) fun s43 =>
  endK n0 s43 (.tup [y41.nogr, y42.nogr])) (
  bd (pu (evBin .sub .no z7.nogr.nogr (.int .i64 1))) fun x44 =>
  bd (fz n1 p39.2 fzDepth z0) fun y45 =>
  bd (fz n1 p39.2 fzDepth z1) fun y46 =>
  bd (fz n1 p39.2 fzDepth x44.nogr) fun y47 =>
  bd (cutObjs n1 p39.2) fun s48 => r1 [y45, y46, y47] s48)) (
  bd (fz n1 σ fzDepth .any) fun y49 =>
  bd (fz n1 σ fzDepth .any) fun y50 =>
  bd (cutObjs n1 σ) fun s51 =>
  endK n0 s51 (.tup [(.int .i64 65533), (.int .i64 1)]))
def l_wattleref01_First_1 (M : Mach) (n0 : Nat) (n1 : Nat) : Rk := M.fx fun rec vs σ => b_wattleref01_First_1 M n0 n1 rec (vs.getD 0 .undef) (vs.getD 1 .undef) (vs.getD 2 .undef) σ
def b_wattleref01_First_0 (M : Mach) (n0 : Nat) (n1 : Nat) (r1 : Rk) (z0 z1 z6 : V) (σ : Objs) : Ro :=
  bd (pu (evBin .leq .no z6.nogr.nogr (.int .i64 4))) fun x0 =>
  bd (gdv x0.nogr true (some z1.nogr)) fun x1 =>
  bd (gdv x0.nogr true (some z6.nogr)) fun x2 =>
  bd (gdv x0.nogr true (pu (evBin .add .no x1.nogr x2.nogr))) fun x3 =>
  bd (gdv x0.nogr true (some z0.nogr)) fun x4 =>
  bd (gdv x0.nogr true (pu (evLen x4.nogr))) fun x5 =>
  bd (gdv x0.nogr true (pu (evBin .leq .no x3.nogr x5.nogr))) fun x6 =>
  bd (pu (pickV x0.nogr.nogr x6.nogr (.bool false))) fun x7 =>
  br x7.nogr (
  bd (pu (evBin .add .no z1.nogr.nogr z6.nogr.nogr)) fun x8 =>
  bd (pu (evCut 1 z0.nogr.nogr (some z1.nogr.nogr) (some x8.nogr) none)) fun x9 =>
  bd (M.call 86 [x9.nogr] σ) fun p10 =>
  br p10.1.nogr (
  bd (pu (evBin .add .no z1.nogr.nogr z6.nogr.nogr)) fun x11 =>
  bd (pu (evCut 1 z0.nogr (some z1.nogr.nogr) (some x11.nogr) none)) fun x12 =>
  bd (M.call 87 [x12.nogr] p10.2) fun p13 =>
  bd (fz n1 p13.2 fzDepth z0.nogr) fun y14 =>
  bd (fz n1 p13.2 fzDepth z1) fun y15 =>
  bd (fz n1 p13.2 fzDepth p13.1.nogr) fun y16 =>
  bd (fz n1 p13.2 fzDepth z6.nogr.nogr) fun y17 =>
  bd (cutObjs n1 p13.2) fun s18 =>
  endK n0 s18 (.tup [y16.nogr, y17.nogr])) (
  bd (pu (evBin .add .no z6.nogr.nogr (.int .i64 1))) fun x19 =>
  bd (fz n1 p10.2 fzDepth z0) fun y20 =>
  bd (fz n1 p10.2 fzDepth z1) fun y21 =>
  bd (fz n1 p10.2 fzDepth x19.nogr) fun y22 =>
  bd (cutObjs n1 p10.2) fun s23 => r1 [y20, y21, y22] s23)) (
  bd (fz n1 σ fzDepth z0) fun y24 =>
  bd (fz n1 σ fzDepth z1) fun y25 =>
  bd (fz n1 σ fzDepth .any) fun y26 =>
  bd (fz n1 σ fzDepth .any) fun y27 =>
  bd (cutObjs n1 σ) fun s28 =>
  bd (fz s28.length s28 fzDepth y24) fun y52 =>
  bd (fz s28.length s28 fzDepth y25) fun y53 =>
  bd (fz s28.length s28 fzDepth (.int .i64 3)) fun y54 =>
  l_wattleref01_First_1 M n0 s28.length [y52, y53, y54] s28)
def l_wattleref01_First_0 (M : Mach) (n0 : Nat) (n1 : Nat) : Rk := M.fx fun rec vs σ => b_wattleref01_First_0 M n0 n1 rec (vs.getD 0 .undef) (vs.getD 1 .undef) (vs.getD 2 .undef) σ
def s_wattleref01_First (M : Mach) (a0 a1 : V) (σ : Objs) : Ro :=
  bd (fz σ.length σ fzDepth a0) fun y55 =>
  bd (fz σ.length σ fzDepth a1) fun y56 =>
  bd (fz σ.length σ fzDepth (.int .i64 1)) fun y57 =>
  l_wattleref01_First_0 M σ.length σ.length [y55, y56, y57] σ
theorem k_wattleref01_First (M : Mach) (a0 a1 : V) (σ : Objs) : fnK M c_wattleref01_First [a0, a1] σ = s_wattleref01_First M a0 a1 σ := by kernel_rfl
def c_wattleref01_Right : Ev.Fn := ⟨17, [.tmp 2], false, false, (.seq (.ops 0 [⟨(some 2), none, .mv (.c (.bool false)) false⟩]) (.seq (.ops 1 [⟨(some 3), none, .mv (.t 0) false⟩, ⟨(some 4), none, .bin .geq .no (.t 3) (.c (.int .i64 0))⟩, ⟨(some 5), none, .mv (.t 4) false⟩, ⟨(some 6), (some (5, true)), .mv (.t 0) false⟩, ⟨(some 7), (some (5, true)), .bin .lss .no (.t 6) (.c (.int .i64 1114112))⟩, ⟨(some 8), none, .pick (.t 5) (.t 7) (.c (.bool false))⟩, ⟨(some 9), none, .mv (.t 8) false⟩, ⟨(some 10), (some (9, true)), .mv (.t 0) false⟩, ⟨(some 11), (some (9, true)), .bin .lss .no (.t 10) (.c (.int .i64 55296))⟩, ⟨(some 12), (some (9, true)), .mv (.t 11) false⟩, ⟨(some 13), (some (12, false)), .mv (.t 0) false⟩, ⟨(some 14), (some (12, false)), .bin .gtr .no (.t 13) (.c (.int .i64 57343))⟩, ⟨(some 15), (some (9, true)), .pick (.t 12) (.c (.bool true)) (.t 14)⟩, ⟨(some 16), none, .pick (.t 9) (.t 15) (.c (.bool false))⟩, ⟨(some 2), none, .mv (.t 16) false⟩]) .ret))⟩
theorem ok_c_wattleref01_Right : chkFn Tryz.prog 51 c_wattleref01_Right = true := chkFn_of Tryz.func51 (by kernel_rfl)
def s_wattleref01_Right (M : Mach) (a0 : V) (σ : Objs) : Ro :=
  bd (pu (evBin .geq .no a0.nogr.nogr (.int .i64 0))) fun x0 =>
  bd (gdv x0.nogr true (some a0.nogr)) fun x1 =>
  bd (gdv x0.nogr true (pu (evBin .lss .no x1.nogr (.int .i64 1114112)))) fun x2 =>
  bd (pu (pickV x0.nogr.nogr x2.nogr (.bool false))) fun x3 =>
  bd (gdv x3.nogr true (some a0.nogr)) fun x4 =>
  bd (gdv x3.nogr true (pu (evBin .lss .no x4.nogr (.int .i64 55296)))) fun x5 =>
  bd (gdv x3.nogr true (some x5.nogr)) fun x6 =>
  bd (gdv x6 false (some a0.nogr)) fun x7 =>
  bd (gdv x6 false (pu (evBin .gtr .no x7.nogr (.int .i64 57343)))) fun x8 =>
  bd (gdv x3.nogr true (pu (pickV x6.nogr (.bool true) x8.nogr))) fun x9 =>
  bd (pu (pickV x3.nogr.nogr x9.nogr (.bool false))) fun x10 =>
  bd (oneK false x10.nogr) (endK σ.length σ)
theorem k_wattleref01_Right (M : Mach) (a0 : V) (σ : Objs) : fnK M c_wattleref01_Right [a0] σ = s_wattleref01_Right M a0 σ := by kernel_rfl
def c_wattleref03_Next : Ev.Fn := ⟨192, [.cell 4 true 6], false, false, (.seq (.ops 0 [⟨(some 4), none, .alloc [(.int .i64 0), (.int .i64 0), (.int .i64 0), (.str []), (.str []), (.bool false)]⟩]) (.seq (.seq (.ops 1 [⟨(some 15), none, .mv (.t 1) false⟩, ⟨(some 16), none, .bin .lss .no (.t 15) (.c (.int .i64 0))⟩]) (.cond (.t 16) (.ops 2 [⟨(some 1), none, .mv (.c (.int .i64 0)) false⟩]) .skip)) (.seq (.seq (.ops 3 [⟨(some 17), none, .mv (.t 1) false⟩, ⟨(some 18), none, .mv (.t 0) false⟩, ⟨(some 19), none, .len (.t 18)⟩, ⟨(some 20), none, .bin .gtr .no (.t 17) (.t 19)⟩]) (.cond (.t 20) (.ops 4 [⟨(some 21), none, .mv (.t 0) false⟩, ⟨(some 22), none, .len (.t 21)⟩, ⟨(some 1), none, .mv (.t 22) false⟩]) .skip)) (.seq (.ops 5 [⟨(some 23), none, .mv (.t 0) false⟩, ⟨(some 24), none, .mv (.t 1) false⟩, ⟨(some 25), none, .call 73 [(.t 23), (.t 24)]⟩, ⟨(some 5), none, .mv (.t 25) false⟩]) (.seq (.seq (.ops 6 [⟨(some 26), none, .mv (.t 5) false⟩, ⟨(some 27), none, .mv (.t 0) false⟩, ⟨(some 28), none, .len (.t 27)⟩, ⟨(some 29), none, .bin .geq .no (.t 26) (.t 28)⟩]) (.cond (.t 29) (.seq (.ops 7 [⟨(some 30), none, .mv (.t 0) false⟩, ⟨(some 31), none, .len (.t 30)⟩, ⟨(some 32), none, .mv (.t 0) true⟩, ⟨(some 33), none, .len (.t 32)⟩, ⟨(some 34), none, .build [(.int .i64 0), (.int .i64 0), (.int .i64 0), (.str []), (.str []), (.bool false)] [(0, 1, (.c (.int .i64 0))), (1, 1, (.t 31)), (2, 1, (.t 33))]⟩, ⟨none, none, .store 6 (.t 4) (.t 34) false⟩]) .ret) .skip)) (.seq (.ops 8 [⟨(some 35), none, .mv (.t 0) false⟩, ⟨(some 36), none, .mv (.t 5) false⟩, ⟨(some 37), none, .iaddr 1 (.t 35) (.t 36)⟩, ⟨(some 38), none, .load false 1 (.t 37)⟩, ⟨(some 6), none, .mv (.t 38) false⟩]) (.seq (.seq (.ops 9 [⟨(some 39), none, .mv (.t 6) false⟩, ⟨(some 40), none, .call 74 [(.t 39)]⟩]) (.cond (.t 40) (.seq (.ops 10 [⟨(some 41), none, .mv (.t 5) false⟩, ⟨(some 7), none, .mv (.t 41) false⟩]) (.seq (.block 0 (.loop [0, 4, 5, 7] [4, 5, 7] (.seq (.seq (.ops 11 [⟨(some 42), none, .mv (.t 0) false⟩, ⟨(some 43), none, .mv (.t 7) false⟩, ⟨(some 44), none, .call 75 [(.t 42), (.t 43)]⟩]) (.cond (.t 44) .skip (.exit 0))) (.block 1 (.ops 12 [⟨(some 45), none, .mv (.t 7) false⟩, ⟨(some 46), none, .bin .add .no (.t 45) (.c (.int .i64 1))⟩, ⟨(some 7), none, .mv (.t 46) false⟩]))))) (.seq (.ops 13 [⟨(some 47), none, .mv (.t 5) false⟩, ⟨(some 48), none, .mv (.t 7) false⟩, ⟨(some 49), none, .build [(.int .i64 0), (.int .i64 0), (.int .i64 0), (.str []), (.str []), (.bool false)] [(0, 1, (.c (.int .i64 13))), (1, 1, (.t 47)), (2, 1, (.t 48))]⟩, ⟨none, none, .store 6 (.t 4) (.t 49) false⟩]) .ret))) .skip)) (.seq (.seq (.ops 14 [⟨(some 50), none, .mv (.t 6) false⟩, ⟨(some 51), none, .bin .eql .no (.t 50) (.c (.int .i64 34))⟩, ⟨(some 52), none, .mv (.t 51) false⟩, ⟨(some 53), (some (52, false)), .mv (.t 6) false⟩, ⟨(some 54), (some (52, false)), .bin .eql .no (.t 53) (.c (.int .i64 39))⟩, ⟨(some 55), none, .pick (.t 52) (.c (.bool true)) (.t 54)⟩]) (.cond (.t 55) (.seq (.ops 15 [⟨(some 56), none, .mv (.t 0) true⟩, ⟨(some 57), none, .mv (.t 5) false⟩, ⟨(some 58), none, .call 76 [(.t 56), (.t 57)]⟩, ⟨none, none, .store 6 (.t 4) (.t 58) false⟩]) .ret) .skip)) (.seq (.seq (.ops 16 [⟨(some 59), none, .mv (.t 0) false⟩, ⟨(some 60), none, .mv (.t 5) false⟩, ⟨(some 61), none, .call 77 [(.t 59), (.t 60)]⟩]) (.cond (.t 61) (.seq (.ops 17 [⟨(some 62), none, .mv (.t 0) true⟩, ⟨(some 63), none, .mv (.t 5) false⟩, ⟨(some 64), none, .call 78 [(.t 62), (.t 63)]⟩, ⟨none, none, .store 6 (.t 4) (.t 64) false⟩]) .ret) .skip)) (.seq (.seq (.ops 18 [⟨(some 65), none, .mv (.t 6) false⟩, ⟨(some 66), none, .bin .eql .no (.t 65) (.c (.int .i64 45))⟩, ⟨(some 67), none, .mv (.t 66) false⟩, ⟨(some 68), (some (67, true)), .mv (.t 0) false⟩, ⟨(some 69), (some (67, true)), .mv (.t 5) false⟩, ⟨(some 70), (some (67, true)), .bin .add .no (.t 69) (.c (.int .i64 1))⟩, ⟨(some 71), (some (67, true)), .call 79 [(.t 68), (.t 70), (.c (.int .i64 45))]⟩, ⟨(some 72), none, .pick (.t 67) (.t 71) (.c (.bool false))⟩, ⟨(some 73), none, .mv (.t 72) false⟩, ⟨(some 74), (some (73, true)), .mv (.t 0) false⟩, ⟨(some 75), (some (73, true)), .mv (.t 5) false⟩, ⟨(some 76), (some (73, true)), .bin .add .no (.t 75) (.c (.int .i64 2))⟩, ⟨(some 77), (some (73, true)), .call 79 [(.t 74), (.t 76), (.c (.int .i64 62))]⟩, ⟨(some 78), none, .pick (.t 73) (.t 77) (.c (.bool false))⟩]) (.cond (.t 78) (.seq (.ops 19 [⟨(some 79), none, .mv (.t 5) false⟩, ⟨(some 80), none, .mv (.t 5) false⟩, ⟨(some 81), none, .bin .add .no (.t 80) (.c (.int .i64 3))⟩, ⟨(some 82), none, .build [(.int .i64 0), (.int .i64 0), (.int .i64 0), (.str []), (.str []), (.bool false)] [(0, 1, (.c (.int .i64 15))), (1, 1, (.t 79)), (2, 1, (.t 81))]⟩, ⟨none, none, .store 6 (.t 4) (.t 82) false⟩]) .ret) .skip)) (.seq (.seq (.ops 20 [⟨(some 83), none, .mv (.t 0) false⟩, ⟨(some 84), none, .mv (.t 5) false⟩, ⟨(some 85), none, .call 80 [(.t 83), (.t 84)]⟩]) (.cond (.t 85) (.seq (.ops 21 [⟨(some 86), none, .mv (.t 0) true⟩, ⟨(some 87), none, .mv (.t 5) false⟩, ⟨(some 88), none, .call 81 [(.t 86), (.t 87)]⟩, ⟨none, none, .store 6 (.t 4) (.t 88) false⟩]) .ret) .skip)) (.seq (.seq (.ops 22 [⟨(some 89), none, .mv (.t 6) false⟩, ⟨(some 90), none, .bin .eql .no (.t 89) (.c (.int .i64 60))⟩, ⟨(some 91), none, .mv (.t 90) false⟩, ⟨(some 92), (some (91, true)), .mv (.t 0) false⟩, ⟨(some 93), (some (91, true)), .mv (.t 5) false⟩, ⟨(some 94), (some (91, true)), .bin .add .no (.t 93) (.c (.int .i64 1))⟩, ⟨(some 95), (some (91, true)), .call 79 [(.t 92), (.t 94), (.c (.int .i64 33))]⟩, ⟨(some 96), none, .pick (.t 91) (.t 95) (.c (.bool false))⟩, ⟨(some 97), none, .mv (.t 96) false⟩, ⟨(some 98), (some (97, true)), .mv (.t 0) false⟩, ⟨(some 99), (some (97, true)), .mv (.t 5) false⟩, ⟨(some 100), (some (97, true)), .bin .add .no (.t 99) (.c (.int .i64 2))⟩, ⟨(some 101), (some (97, true)), .call 79 [(.t 98), (.t 100), (.c (.int .i64 45))]⟩, ⟨(some 102), none, .pick (.t 97) (.t 101) (.c (.bool false))⟩, ⟨(some 103), none, .mv (.t 102) false⟩, ⟨(some 104), (some (103, true)), .mv (.t 0) false⟩, ⟨(some 105), (some (103, true)), .mv (.t 5) false⟩, ⟨(some 106), (some (103, true)), .bin .add .no (.t 105) (.c (.int .i64 3))⟩, ⟨(some 107), (some (103, true)), .call 79 [(.t 104), (.t 106), (.c (.int .i64 45))]⟩, ⟨(some 108), none, .pick (.t 103) (.t 107) (.c (.bool false))⟩]) (.cond (.t 108) (.seq (.ops 23 [⟨(some 109), none, .mv (.t 5) false⟩, ⟨(some 110), none, .mv (.t 5) false⟩, ⟨(some 111), none, .bin .add .no (.t 110) (.c (.int .i64 4))⟩, ⟨(some 112), none, .build [(.int .i64 0), (.int .i64 0), (.int .i64 0), (.str []), (.str []), (.bool false)] [(0, 1, (.c (.int .i64 14))), (1, 1, (.t 109)), (2, 1, (.t 111))]⟩, ⟨none, none, .store 6 (.t 4) (.t 112) false⟩]) .ret) .skip)) (.seq (.seq (.ops 24 [⟨(some 113), none, .mv (.t 6) false⟩, ⟨(some 114), none, .bin .eql .no (.t 113) (.c (.int .i64 64))⟩, ⟨(some 115), none, .mv (.t 114) false⟩, ⟨(some 116), (some (115, true)), .mv (.t 0) false⟩, ⟨(some 117), (some (115, true)), .mv (.t 5) false⟩, ⟨(some 118), (some (115, true)), .bin .add .no (.t 117) (.c (.int .i64 1))⟩, ⟨(some 119), (some (115, true)), .call 80 [(.t 116), (.t 118)]⟩, ⟨(some 120), none, .pick (.t 115) (.t 119) (.c (.bool false))⟩]) (.cond (.t 120) (.seq (.ops 25 [⟨(some 122), none, .mv (.t 0) true⟩, ⟨(some 123), none, .mv (.t 5) false⟩, ⟨(some 124), none, .bin .add .no (.t 123) (.c (.int .i64 1))⟩, ⟨(some 125), none, .call 82 [(.t 122), (.t 124)]⟩, ⟨(some 121), none, .mv (.t 125) false⟩, ⟨(some 126), none, .extr (.t 121) 0⟩, ⟨(some 127), none, .extr (.t 121) 1⟩, ⟨(some 8), none, .mv (.t 126) false⟩, ⟨(some 9), none, .mv (.t 127) false⟩]) (.seq (.ops 26 [⟨(some 128), none, .mv (.t 5) false⟩, ⟨(some 129), none, .mv (.t 9) false⟩, ⟨(some 130), none, .mv (.t 8) false⟩, ⟨(some 131), none, .build [(.int .i64 0), (.int .i64 0), (.int .i64 0), (.str []), (.str []), (.bool false)] [(0, 1, (.c (.int .i64 3))), (1, 1, (.t 128)), (2, 1, (.t 129)), (3, 1, (.t 130))]⟩, ⟨none, none, .store 6 (.t 4) (.t 131) false⟩]) .ret)) .skip)) (.seq (.seq (.ops 27 [⟨(some 132), none, .mv (.t 6) false⟩, ⟨(some 133), none, .bin .eql .no (.t 132) (.c (.int .i64 35))⟩, ⟨(some 134), none, .mv (.t 133) false⟩, ⟨(some 135), (some (134, true)), .mv (.t 0) false⟩, ⟨(some 136), (some (134, true)), .mv (.t 5) false⟩, ⟨(some 137), (some (134, true)), .bin .add .no (.t 136) (.c (.int .i64 1))⟩, ⟨(some 138), (some (134, true)), .call 83 [(.t 135), (.t 137)]⟩, ⟨(some 139), (some (134, true)), .mv (.t 138) false⟩, ⟨(some 140), (some (139, false)), .mv (.t 0) false⟩, ⟨(some 141), (some (139, false)), .mv (.t 5) false⟩, ⟨(some 142), (some (139, false)), .bin .add .no (.t 141) (.c (.int .i64 1))⟩, ⟨(some 143), (some (139, false)), .call 84 [(.t 140), (.t 142)]⟩, ⟨(some 144), (some (134, true)), .pick (.t 139) (.c (.bool true)) (.t 143)⟩, ⟨(some 145), none, .pick (.t 134) (.t 144) (.c (.bool false))⟩]) (.cond (.t 145) (.seq (.ops 28 [⟨(some 147), none, .mv (.t 0) false⟩, ⟨(some 148), none, .mv (.t 5) false⟩, ⟨(some 149), none, .bin .add .no (.t 148) (.c (.int .i64 1))⟩, ⟨(some 150), none, .call 82 [(.t 147), (.t 149)]⟩, ⟨(some 146), none, .mv (.t 150) false⟩, ⟨(some 151), none, .extr (.t 146) 0⟩, ⟨(some 152), none, .extr (.t 146) 1⟩, ⟨(some 10), none, .mv (.t 151) false⟩, ⟨(some 11), none, .mv (.t 152) false⟩]) (.seq (.ops 29 [⟨(some 153), none, .mv (.t 5) false⟩, ⟨(some 154), none, .mv (.t 11) false⟩, ⟨(some 155), none, .mv (.t 10) false⟩, ⟨(some 156), none, .mv (.t 0) true⟩, ⟨(some 157), none, .mv (.t 5) false⟩, ⟨(some 158), none, .bin .add .no (.t 157) (.c (.int .i64 1))⟩, ⟨(some 159), none, .call 80 [(.t 156), (.t 158)]⟩, ⟨(some 160), none, .build [(.int .i64 0), (.int .i64 0), (.int .i64 0), (.str []), (.str []), (.bool false)] [(0, 1, (.c (.int .i64 4))), (1, 1, (.t 153)), (2, 1, (.t 154)), (3, 1, (.t 155)), (5, 1, (.t 159))]⟩, ⟨none, none, .store 6 (.t 4) (.t 160) false⟩]) .ret)) .skip)) (.seq (.ops 30 [⟨(some 161), none, .buildSl false 1 9 (.int .i64 0) [(0, (.c (.int .i64 21))), (1, (.c (.int .i64 22))), (2, (.c (.int .i64 19))), (3, (.c (.int .i64 20))), (4, (.c (.int .i64 23))), (5, (.c (.int .i64 24))), (6, (.c (.int .i64 18))), (7, (.c (.int .i64 16))), (8, (.c (.int .i64 17)))] false⟩, ⟨(some 12), none, .mv (.c (.str [40, 41, 91, 93, 123, 125, 44, 58, 59])) false⟩, ⟨(some 13), none, .mv (.t 161) true⟩]) (.seq (.seq (.ops 31 [⟨(some 14), none, .mv (.c (.int .i64 0)) false⟩]) (.block 2 (.loop [0, 4, 5, 6, 12, 13, 14] [0, 4, 5] (.seq (.seq (.ops 32 [⟨(some 162), none, .mv (.t 14) false⟩, ⟨(some 163), none, .mv (.t 12) false⟩, ⟨(some 164), none, .lenS (.t 163)⟩, ⟨(some 165), none, .bin .lss .no (.t 162) (.t 164)⟩]) (.cond (.t 165) .skip (.exit 2))) (.seq (.block 3 (.seq (.ops 34 [⟨(some 168), none, .mv (.t 12) false⟩, ⟨(some 169), none, .mv (.t 14) false⟩, ⟨(some 170), none, .idx (.t 168) (.t 169)⟩, ⟨(some 171), none, .conv (.toInt .i64) (.t 170)⟩, ⟨(some 172), none, .mv (.t 6) false⟩, ⟨(some 173), none, .bin .eql .no (.t 171) (.t 172)⟩]) (.cond (.t 173) (.seq (.ops 35 [⟨(some 174), none, .mv (.t 13) true⟩, ⟨(some 175), none, .mv (.t 14) false⟩, ⟨(some 176), none, .iaddr 1 (.t 174) (.t 175)⟩, ⟨(some 177), none, .load false 1 (.t 176)⟩, ⟨(some 178), none, .mv (.t 5) false⟩, ⟨(some 179), none, .mv (.t 5) false⟩, ⟨(some 180), none, .bin .add .no (.t 179) (.c (.int .i64 1))⟩, ⟨(some 181), none, .build [(.int .i64 0), (.int .i64 0), (.int .i64 0), (.str []), (.str []), (.bool false)] [(0, 1, (.t 177)), (1, 1, (.t 178)), (2, 1, (.t 180))]⟩, ⟨none, none, .store 6 (.t 4) (.t 181) false⟩]) .ret) .skip))) (.ops 33 [⟨(some 166), none, .mv (.t 14) false⟩, ⟨(some 167), none, .bin .add .no (.t 166) (.c (.int .i64 1))⟩, ⟨(some 14), none, .mv (.t 167) false⟩])))))) (.seq (.ops 36 [⟨(some 182), none, .mv (.t 5) false⟩, ⟨(some 183), none, .mv (.t 5) false⟩, ⟨(some 184), none, .bin .add .no (.t 183) (.c (.int .i64 1))⟩, ⟨(some 185), none, .mv (.t 0) true⟩, ⟨(some 186), none, .mv (.t 5) false⟩, ⟨(some 187), none, .mv (.t 5) false⟩, ⟨(some 188), none, .bin .add .no (.t 187) (.c (.int .i64 1))⟩, ⟨(some 189), none, .cut 1 (.t 185) (some (.t 186)) (some (.t 188)) none⟩, ⟨(some 190), none, .call 85 [(.t 189)]⟩, ⟨(some 191), none, .build [(.int .i64 0), (.int .i64 0), (.int .i64 0), (.str []), (.str []), (.bool false)] [(0, 1, (.c (.int .i64 9))), (1, 1, (.t 182)), (2, 1, (.t 184)), (3, 1, (.t 190))]⟩, ⟨none, none, .store 6 (.t 4) (.t 191) false⟩]) .ret)))))))))))))))))⟩
theorem ok_c_wattleref03_Next : chkFn Tryz.prog 50 c_wattleref03_Next = true := chkFn_of Tryz.func50 (by kernel_rfl)
def b_wattleref03_Next_0 (M : Mach) (n0 : Nat) (n1 : Nat) (r1 : Rk) (z0 z4 z5 z7 : V) (σ : Objs) : Ro :=
  bd (M.call 75 [z0.nogr.nogr, z7.nogr.nogr] σ) fun p12 =>
  br p12.1.nogr (
  bd (pu (evBin .add .no z7.nogr.nogr (.int .i64 1))) fun x13 =>
  bd (fz n1 p12.2 fzDepth z0) fun y14 =>
  bd (fz n1 p12.2 fzDepth z4) fun y15 =>
  bd (fz n1 p12.2 fzDepth z5) fun y16 =>
  bd (fz n1 p12.2 fzDepth x13.nogr) fun y17 =>
  bd (cutObjs n1 p12.2) fun s18 => r1 [y14, y15, y16, y17] s18) (
  bd (fz n1 p12.2 fzDepth z4) fun y19 =>
  bd (fz n1 p12.2 fzDepth z5) fun y20 =>
  bd (fz n1 p12.2 fzDepth z7) fun y21 =>
  bd (cutObjs n1 p12.2) fun s22 =>
  bd (pu (buildV [(.int .i64 0), (.int .i64 0), (.int .i64 0), (.str []), (.str []), (.bool false)] [(0, 1, (.int .i64 13)), (1, 1, y20.nogr.nogr), (2, 1, y21.nogr.nogr)])) fun x23 =>
  bd (storeV s22 6 y19.nogr x23.nogr x23.nogr) fun p24 =>
  bd (resC p24.2 true 6 y19) fun x25 =>
  bd (oneK false x25) (endK n0 p24.2))
def l_wattleref03_Next_0 (M : Mach) (n0 : Nat) (n1 : Nat) : Rk := M.fx fun rec vs σ => b_wattleref03_Next_0 M n0 n1 rec (vs.getD 0 .undef) (vs.getD 1 .undef) (vs.getD 2 .undef) (vs.getD 3 .undef) σ
def b_wattleref03_Next_1 (M : Mach) (n0 : Nat) (n1 : Nat) (r1 : Rk) (z0 z4 z5 z6 z12 z13 z14 : V) (σ : Objs) : Ro :=
  bd (pu (evLenS z12.nogr.nogr)) fun x115 =>
  bd (pu (evBin .lss .no z14.nogr.nogr x115.nogr)) fun x116 =>
  br x116.nogr (
  bd (pu (evIdx z14.nogr.nogr z12.nogr.nogr)) fun x117 =>
  bd (pu (evConv σ (.toInt .i64) x117.nogr)) fun x118 =>
  bd (pu (evBin .eql .no x118.nogr z6.nogr.nogr)) fun x119 =>
  br x119.nogr (
  bd (pu (evIaddr 1 z14.nogr.nogr z13.nogr)) fun x120 =>
  bd (pu (evLoad σ false 1 x120.nogr)) fun x121 =>
  bd (pu (evBin .add .no z5.nogr.nogr (.int .i64 1))) fun x122 =>
  bd (pu (buildV [(.int .i64 0), (.int .i64 0), (.int .i64 0), (.str []), (.str []), (.bool false)] [(0, 1, x121.nogr), (1, 1, z5.nogr.nogr), (2, 1, x122.nogr)])) fun x123 =>
  bd (storeV σ 6 z4.nogr x123.nogr x123.nogr) fun p124 =>
  bd (fz n1 p124.2 fzDepth z0) fun y125 =>
  bd (fz n1 p124.2 fzDepth z4) fun y126 =>
  bd (fz n1 p124.2 fzDepth z5) fun y127 =>
  bd (cutObjs n1 p124.2) fun s128 =>
  bd (resC s128 true 6 y126) fun x129 =>
  bd (oneK false x129) (endK n0 s128)) (
  bd (pu (evBin .add .no z14.nogr.nogr (.int .i64 1))) fun x130 =>
  bd (fz n1 σ fzDepth z0) fun y131 =>
  bd (fz n1 σ fzDepth z4) fun y132 =>
  bd (fz n1 σ fzDepth z5) fun y133 =>
  bd (fz n1 σ fzDepth z6) fun y134 =>
  bd (fz n1 σ fzDepth z12) fun y135 =>
  bd (fz n1 σ fzDepth z13) fun y136 =>
  bd (fz n1 σ fzDepth x130.nogr) fun y137 =>
  bd (cutObjs n1 σ) fun s138 => r1 [y131, y132, y133, y134, y135, y136, y137] s138)) (
  bd (fz n1 σ fzDepth z0) fun y139 =>
  bd (fz n1 σ fzDepth z4) fun y140 =>
  bd (fz n1 σ fzDepth z5) fun y141 =>
  bd (cutObjs n1 σ) fun s142 =>
  bd (pu (evBin .add .no y141.nogr.nogr (.int .i64 1))) fun x143 =>
  bd (pu (evBin .add .no y141.nogr.nogr (.int .i64 1))) fun x144 =>
  bd (pu (evCut 1 y139.nogr (some y141.nogr.nogr) (some x144.nogr) none)) fun x145 =>
  bd (M.call 85 [x145.nogr] s142) fun p146 =>
  bd (pu (buildV [(.int .i64 0), (.int .i64 0), (.int .i64 0), (.str []), (.str []), (.bool false)] [(0, 1, (.int .i64 9)), (1, 1, y141.nogr.nogr), (2, 1, x143.nogr), (3, 1, p146.1.nogr)])) fun x147 =>
  bd (storeV p146.2 6 y140.nogr x147.nogr x147.nogr) fun p148 =>
  bd (resC p148.2 true 6 y140) fun x149 =>
  bd (oneK false x149) (endK n0 p148.2))
def l_wattleref03_Next_1 (M : Mach) (n0 : Nat) (n1 : Nat) : Rk := M.fx fun rec vs σ => b_wattleref03_Next_1 M n0 n1 rec (vs.getD 0 .undef) (vs.getD 1 .undef) (vs.getD 2 .undef) (vs.getD 3 .undef) (vs.getD 4 .undef) (vs.getD 5 .undef) (vs.getD 6 .undef) σ
def j_wattleref03_Next_1 (M : Mach) (n0 : Nat) (z0 z1 z4 : V) (σ : Objs) : Ro :=
  bd (M.call 73 [z0.nogr.nogr, z1.nogr.nogr] σ) fun p1 =>
  bd (pu (evLen z0.nogr.nogr)) fun x2 =>
  bd (pu (evBin .geq .no p1.1.nogr.nogr.nogr x2.nogr)) fun x3 =>
  br x3.nogr (
  bd (pu (evLen z0.nogr.nogr)) fun x4 =>
  bd (pu (evLen z0.nogr)) fun x5 =>
  bd (pu (buildV [(.int .i64 0), (.int .i64 0), (.int .i64 0), (.str []), (.str []), (.bool false)] [(0, 1, (.int .i64 0)), (1, 1, x4.nogr), (2, 1, x5.nogr)])) fun x6 =>
  bd (storeV p1.2 6 z4.nogr x6.nogr x6.nogr) fun p7 =>
  bd (resC p7.2 true 6 z4) fun x8 =>
  bd (oneK false x8) (endK n0 p7.2)) (
  bd (pu (evIaddr 1 p1.1.nogr.nogr.nogr z0.nogr.nogr)) fun x9 =>
  bd (pu (evLoad p1.2 false 1 x9.nogr)) fun x10 =>
  bd (M.call 74 [x10.nogr.nogr.nogr] p1.2) fun p11 =>
  br p11.1.nogr (
  bd (fz p11.2.length p11.2 fzDepth z0) fun y26 =>
  bd (fz p11.2.length p11.2 fzDepth z4) fun y27 =>
  bd (fz p11.2.length p11.2 fzDepth p1.1.nogr) fun y28 =>
  bd (fz p11.2.length p11.2 fzDepth p1.1.nogr.nogr.nogr) fun y29 =>
  l_wattleref03_Next_0 M n0 p11.2.length [y26, y27, y28, y29] p11.2) (
  bd (pu (evBin .eql .no x10.nogr.nogr.nogr (.int .i64 34))) fun x30 =>
  bd (gdv x30.nogr false (some x10.nogr.nogr)) fun x31 =>
  bd (gdv x30.nogr false (pu (evBin .eql .no x31.nogr (.int .i64 39)))) fun x32 =>
  bd (pu (pickV x30.nogr.nogr (.bool true) x32.nogr)) fun x33 =>
  br x33.nogr (
  bd (M.call 76 [z0.nogr, p1.1.nogr.nogr.nogr] p11.2) fun p34 =>
  bd (storeV p34.2 6 z4.nogr p34.1.nogr p34.1.nogr) fun p35 =>
  bd (resC p35.2 true 6 z4) fun x36 =>
  bd (oneK false x36) (endK n0 p35.2)) (
  bd (M.call 77 [z0.nogr.nogr, p1.1.nogr.nogr.nogr] p11.2) fun p37 =>
  br p37.1.nogr (
  bd (M.call 78 [z0.nogr, p1.1.nogr.nogr.nogr] p37.2) fun p38 =>
  bd (storeV p38.2 6 z4.nogr p38.1.nogr p38.1.nogr) fun p39 =>
  bd (resC p39.2 true 6 z4) fun x40 =>
  bd (oneK false x40) (endK n0 p39.2)) (
  bd (pu (evBin .eql .no x10.nogr.nogr.nogr (.int .i64 45))) fun x41 =>
  bd (gdv x41.nogr true (some z0.nogr)) fun x42 =>
  bd (gdv x41.nogr true (some p1.1.nogr.nogr)) fun x43 =>
  bd (gdv x41.nogr true (pu (evBin .add .no x43.nogr (.int .i64 1)))) fun x44 =>
  bd (gdp x41.nogr true (M.call 79 [x42.nogr, x44.nogr, (.int .i64 45)] p37.2) p37.2) fun p45 =>
  bd (pu (pickV x41.nogr.nogr p45.1.nogr (.bool false))) fun x46 =>
  bd (gdv x46.nogr true (some z0.nogr)) fun x47 =>
  bd (gdv x46.nogr true (some p1.1.nogr.nogr)) fun x48 =>
  bd (gdv x46.nogr true (pu (evBin .add .no x48.nogr (.int .i64 2)))) fun x49 =>
  bd (gdp x46.nogr true (M.call 79 [x47.nogr, x49.nogr, (.int .i64 62)] p45.2) p45.2) fun p50 =>
  bd (pu (pickV x46.nogr.nogr p50.1.nogr (.bool false))) fun x51 =>
  br x51.nogr (
  bd (pu (evBin .add .no p1.1.nogr.nogr.nogr (.int .i64 3))) fun x52 =>
  bd (pu (buildV [(.int .i64 0), (.int .i64 0), (.int .i64 0), (.str []), (.str []), (.bool false)] [(0, 1, (.int .i64 15)), (1, 1, p1.1.nogr.nogr.nogr), (2, 1, x52.nogr)])) fun x53 =>
  bd (storeV p50.2 6 z4.nogr x53.nogr x53.nogr) fun p54 =>
  bd (resC p54.2 true 6 z4) fun x55 =>
  bd (oneK false x55) (endK n0 p54.2)) (
  bd (M.call 80 [z0.nogr.nogr, p1.1.nogr.nogr.nogr] p50.2) fun p56 =>
  br p56.1.nogr (
  bd (M.call 81 [z0.nogr, p1.1.nogr.nogr.nogr] p56.2) fun p57 =>
  bd (storeV p57.2 6 z4.nogr p57.1.nogr p57.1.nogr) fun p58 =>
  bd (resC p58.2 true 6 z4) fun x59 =>
  bd (oneK false x59) (endK n0 p58.2)) (
  bd (pu (evBin .eql .no x10.nogr.nogr.nogr (.int .i64 60))) fun x60 =>
  bd (gdv x60.nogr true (some z0.nogr)) fun x61 =>
  bd (gdv x60.nogr true (some p1.1.nogr.nogr)) fun x62 =>
  bd (gdv x60.nogr true (pu (evBin .add .no x62.nogr (.int .i64 1)))) fun x63 =>
  bd (gdp x60.nogr true (M.call 79 [x61.nogr, x63.nogr, (.int .i64 33)] p56.2) p56.2) fun p64 =>
  bd (pu (pickV x60.nogr.nogr p64.1.nogr (.bool false))) fun x65 =>
  bd (gdv x65.nogr true (some z0.nogr)) fun x66 =>
  bd (gdv x65.nogr true (some p1.1.nogr.nogr)) fun x67 =>
  bd (gdv x65.nogr true (pu (evBin .add .no x67.nogr (.int .i64 2)))) fun x68 =>
  bd (gdp x65.nogr true (M.call 79 [x66.nogr, x68.nogr, (.int .i64 45)] p64.2) p64.2) fun p69 =>
  bd (pu (pickV x65.nogr.nogr p69.1.nogr (.bool false))) fun x70 =>
  bd (gdv x70.nogr true (some z0.nogr)) fun x71 =>
  bd (gdv x70.nogr true (some p1.1.nogr.nogr)) fun x72 =>
  bd (gdv x70.nogr true (pu (evBin .add .no x72.nogr (.int .i64 3)))) fun x73 =>
  bd (gdp x70.nogr true (M.call 79 [x71.nogr, x73.nogr, (.int .i64 45)] p69.2) p69.2) fun p74 =>
  bd (pu (pickV x70.nogr.nogr p74.1.nogr (.bool false))) fun x75 =>
  br x75.nogr (
  bd (pu (evBin .add .no p1.1.nogr.nogr.nogr (.int .i64 4))) fun x76 =>
  bd (pu (buildV [(.int .i64 0), (.int .i64 0), (.int .i64 0), (.str []), (.str []), (.bool false)] [(0, 1, (.int .i64 14)), (1, 1, p1.1.nogr.nogr.nogr), (2, 1, x76.nogr)])) fun x77 =>
  bd (storeV p74.2 6 z4.nogr x77.nogr x77.nogr) fun p78 =>
  bd (resC p78.2 true 6 z4) fun x79 =>
  bd (oneK false x79) (endK n0 p78.2)) (
  bd (pu (evBin .eql .no x10.nogr.nogr.nogr (.int .i64 64))) fun x80 =>
  bd (gdv x80.nogr true (some z0.nogr)) fun x81 =>
  bd (gdv x80.nogr true (some p1.1.nogr.nogr)) fun x82 =>
  bd (gdv x80.nogr true (pu (evBin .add .no x82.nogr (.int .i64 1)))) fun x83 =>
  bd (gdp x80.nogr true (M.call 80 [x81.nogr, x83.nogr] p74.2) p74.2) fun p84 =>
  bd (pu (pickV x80.nogr.nogr p84.1.nogr (.bool false))) fun x85 =>
  br x85.nogr (
  bd (pu (evBin .add .no p1.1.nogr.nogr.nogr (.int .i64 1))) fun x86 =>
  bd (M.call 82 [z0.nogr, x86.nogr] p84.2) fun p87 =>
  bd (pu (evExtr 0 p87.1.nogr.nogr)) fun x88 =>
  bd (pu (evExtr 1 p87.1.nogr.nogr)) fun x89 =>
  bd (pu (buildV [(.int .i64 0), (.int .i64 0), (.int .i64 0), (.str []), (.str []), (.bool false)] [(0, 1, (.int .i64 3)), (1, 1, p1.1.nogr.nogr.nogr), (2, 1, x89.nogr.nogr.nogr), (3, 1, x88.nogr.nogr.nogr)])) fun x90 =>
  bd (storeV p87.2 6 z4.nogr x90.nogr x90.nogr) fun p91 =>
  bd (resC p91.2 true 6 z4) fun x92 =>
  bd (oneK false x92) (endK n0 p91.2)) (
  bd (pu (evBin .eql .no x10.nogr.nogr.nogr (.int .i64 35))) fun x93 =>
  bd (gdv x93.nogr true (some z0.nogr)) fun x94 =>
  bd (gdv x93.nogr true (some p1.1.nogr.nogr)) fun x95 =>
  bd (gdv x93.nogr true (pu (evBin .add .no x95.nogr (.int .i64 1)))) fun x96 =>
  bd (gdp x93.nogr true (M.call 83 [x94.nogr, x96.nogr] p84.2) p84.2) fun p97 =>
  bd (gdv x93.nogr true (some p97.1.nogr)) fun x98 =>
  bd (gdv x98 false (some z0.nogr)) fun x99 =>
  bd (gdv x98 false (some p1.1.nogr.nogr)) fun x100 =>
  bd (gdv x98 false (pu (evBin .add .no x100.nogr (.int .i64 1)))) fun x101 =>
  bd (gdp x98 false (M.call 84 [x99.nogr, x101.nogr] p97.2) p97.2) fun p102 =>
  bd (gdv x93.nogr true (pu (pickV x98.nogr (.bool true) p102.1.nogr))) fun x103 =>
  bd (pu (pickV x93.nogr.nogr x103.nogr (.bool false))) fun x104 =>
  br x104.nogr (
  bd (pu (evBin .add .no p1.1.nogr.nogr.nogr (.int .i64 1))) fun x105 =>
  bd (M.call 82 [z0.nogr.nogr, x105.nogr] p102.2) fun p106 =>
  bd (pu (evExtr 0 p106.1.nogr.nogr)) fun x107 =>
  bd (pu (evExtr 1 p106.1.nogr.nogr)) fun x108 =>
  bd (pu (evBin .add .no p1.1.nogr.nogr.nogr (.int .i64 1))) fun x109 =>
  bd (M.call 80 [z0.nogr, x109.nogr] p106.2) fun p110 =>
  bd (pu (buildV [(.int .i64 0), (.int .i64 0), (.int .i64 0), (.str []), (.str []), (.bool false)] [(0, 1, (.int .i64 4)), (1, 1, p1.1.nogr.nogr.nogr), (2, 1, x108.nogr.nogr.nogr), (3, 1, x107.nogr.nogr.nogr), (5, 1, p110.1.nogr)])) fun x111 =>
  bd (storeV p110.2 6 z4.nogr x111.nogr x111.nogr) fun p112 =>
  bd (resC p112.2 true 6 z4) fun x113 =>
  bd (oneK false x113) (endK n0 p112.2)) (
  bd (buildFV false 1 9 (.int .i64 0) [(0, (.int .i64 21)), (1, (.int .i64 22)), (2, (.int .i64 19)), (3, (.int .i64 20)), (4, (.int .i64 23)), (5, (.int .i64 24)), (6, (.int .i64 18)), (7, (.int .i64 16)), (8, (.int .i64 17))]) fun x114 =>
  bd (fz p102.2.length p102.2 fzDepth z0) fun y150 =>
  bd (fz p102.2.length p102.2 fzDepth z4) fun y151 =>
  bd (fz p102.2.length p102.2 fzDepth p1.1.nogr) fun y152 =>
  bd (fz p102.2.length p102.2 fzDepth x10.nogr) fun y153 =>
  bd (fz p102.2.length p102.2 fzDepth (.str [40, 41, 91, 93, 123, 125, 44, 58, 59])) fun y154 =>
  bd (fz p102.2.length p102.2 fzDepth x114) fun y155 =>
  bd (fz p102.2.length p102.2 fzDepth (.int .i64 0)) fun y156 =>
  l_wattleref03_Next_1 M n0 p102.2.length [y150, y151, y152, y153, y154, y155, y156] p102.2)))))))))
def j_wattleref03_Next_0 (M : Mach) (n0 : Nat) (z0 z1 z4 : V) (σ : Objs) : Ro :=
  bd (pu (evLen z0.nogr.nogr)) fun x157 =>
  bd (pu (evBin .gtr .no z1.nogr.nogr x157.nogr)) fun x158 =>
  br x158.nogr (
  bd (pu (evLen z0.nogr.nogr)) fun x159 =>
  j_wattleref03_Next_1 M n0 z0 x159.nogr z4 σ) (
  j_wattleref03_Next_1 M n0 z0 z1 z4 σ)
def s_wattleref03_Next (M : Mach) (a0 a1 : V) (σ : Objs) : Ro :=
  let s0 : Objs := σ ++ [.cells [(.int .i64 0), (.int .i64 0), (.int .i64 0), (.str []), (.str []), (.bool false)]]
  bd (pu (evBin .lss .no a1.nogr.nogr (.int .i64 0))) fun x160 =>
  br x160.nogr (
  j_wattleref03_Next_0 M σ.length a0 (.int .i64 0) (.ptr σ.length 0) s0) (
  j_wattleref03_Next_0 M σ.length a0 a1 (.ptr σ.length 0) s0)
theorem k_wattleref03_Next (M : Mach) (a0 a1 : V) (σ : Objs) : fnK M c_wattleref03_Next [a0, a1] σ = s_wattleref03_Next M a0 a1 σ := by kernel_rfl
def c___anb_reader__look : Ev.Fn := ⟨20, [.cell 4 true 6], false, false, (.seq (.ops 0 [⟨(some 4), none, .alloc [(.int .i64 0), (.int .i64 0), (.int .i64 0), (.str []), (.str []), (.bool false)]⟩]) (.seq (.seq (.ops 1 [⟨(some 5), none, .mv (.t 1) false⟩, ⟨(some 6), none, .mv (.t 0) false⟩, ⟨(some 7), none, .nilc (.t 6)⟩, ⟨(some 8), none, .faddr 0 (.t 7)⟩, ⟨(some 9), none, .load false 1 (.t 8)⟩, ⟨(some 10), none, .len (.t 9)⟩, ⟨(some 11), none, .bin .geq .no (.t 5) (.t 10)⟩]) (.cond (.t 11) (.seq (.ops 2 [⟨(some 12), none, .build [(.int .i64 0), (.int .i64 0), (.int .i64 0), (.str []), (.str []), (.bool false)] []⟩, ⟨none, none, .store 6 (.t 4) (.t 12) false⟩]) .ret) .skip)) (.seq (.ops 3 [⟨(some 13), none, .mv (.t 0) false⟩, ⟨(some 14), none, .nilc (.t 13)⟩, ⟨(some 15), none, .faddr 0 (.t 14)⟩, ⟨(some 16), none, .load false 1 (.t 15)⟩, ⟨(some 17), none, .mv (.t 1) false⟩, ⟨(some 18), none, .iaddr 6 (.t 16) (.t 17)⟩, ⟨(some 19), none, .load true 6 (.t 18)⟩, ⟨none, none, .store 6 (.t 4) (.t 19) false⟩]) .ret)))⟩
theorem ok_c___anb_reader__look : chkFn Tryz.prog 41 c___anb_reader__look = true := chkFn_of Tryz.func41 (by kernel_rfl)
def s___anb_reader__look (M : Mach) (a0 a1 : V) (σ : Objs) : Ro :=
  let s0 : Objs := σ ++ [.cells [(.int .i64 0), (.int .i64 0), (.int .i64 0), (.str []), (.str []), (.bool false)]]
  bd (pu (evNilc a0.nogr.nogr)) fun x1 =>
  bd (pu (evFaddr 0 x1.nogr)) fun x2 =>
  bd (pu (evLoad s0 false 1 x2.nogr)) fun x3 =>
  bd (pu (evLen x3.nogr)) fun x4 =>
  bd (pu (evBin .geq .no a1.nogr.nogr x4.nogr)) fun x5 =>
  br x5.nogr (
  bd (pu (buildV [(.int .i64 0), (.int .i64 0), (.int .i64 0), (.str []), (.str []), (.bool false)] [])) fun x6 =>
  bd (storeV s0 6 (.ptr σ.length 0) x6.nogr x6.nogr) fun p7 =>
  bd (resC p7.2 true 6 (.ptr σ.length 0)) fun x8 =>
  bd (oneK false x8) (endK σ.length p7.2)) (
  bd (pu (evNilc a0.nogr.nogr)) fun x9 =>
  bd (pu (evFaddr 0 x9.nogr)) fun x10 =>
  bd (pu (evLoad s0 false 1 x10.nogr)) fun x11 =>
  bd (pu (evIaddr 6 a1.nogr.nogr x11.nogr)) fun x12 =>
  bd (pu (evLoad s0 true 6 x12.nogr)) fun x13 =>
  bd (storeV s0 6 (.ptr σ.length 0) x13.nogr x13.nogr) fun p14 =>
  bd (resC p14.2 true 6 (.ptr σ.length 0)) fun x15 =>
  bd (oneK false x15) (endK σ.length p14.2))
theorem k___anb_reader__look (M : Mach) (a0 a1 : V) (σ : Objs) : fnK M c___anb_reader__look [a0, a1] σ = s___anb_reader__look M a0 a1 σ := by kernel_rfl
def c_chars_Same : Ev.Fn := ⟨10, [.tmp 4], false, false, (.seq (.ops 0 [⟨(some 4), none, .mv (.c (.bool false)) false⟩]) (.seq (.ops 1 [⟨(some 5), none, .mv (.t 0) false⟩, ⟨(some 6), none, .call 44 [(.t 5)]⟩, ⟨(some 7), none, .mv (.t 1) false⟩, ⟨(some 8), none, .call 44 [(.t 7)]⟩, ⟨(some 9), none, .bin .eql .no (.t 6) (.t 8)⟩, ⟨(some 4), none, .mv (.t 9) false⟩]) .ret))⟩
theorem ok_c_chars_Same : chkFn Tryz.prog 42 c_chars_Same = true := chkFn_of Tryz.func42 (by kernel_rfl)
def s_chars_Same (M : Mach) (a0 a1 : V) (σ : Objs) : Ro :=
  bd (M.call 44 [a0.nogr.nogr] σ) fun p0 =>
  bd (M.call 44 [a1.nogr.nogr] p0.2) fun p1 =>
  bd (pu (evBin .eql .no p0.1.nogr p1.1.nogr)) fun x2 =>
  bd (oneK false x2.nogr) (endK σ.length p1.2)
theorem k_chars_Same (M : Mach) (a0 a1 : V) (σ : Objs) : fnK M c_chars_Same [a0, a1] σ = s_chars_Same M a0 a1 σ := by kernel_rfl
def c___anb_reader__whole : Ev.Fn := ⟨26, [.tmp 4], false, false, (.seq (.ops 0 [⟨(some 4), none, .mv (.c (.int .i64 0)) false⟩]) (.seq (.ops 1 [⟨(some 8), none, .mv (.t 1) false⟩, ⟨(some 9), none, .call 15 [(.t 8)]⟩, ⟨(some 7), none, .mv (.t 9) false⟩, ⟨(some 10), none, .extr (.t 7) 0⟩, ⟨(some 11), none, .extr (.t 7) 1⟩, ⟨(some 5), none, .mv (.t 10) false⟩, ⟨(some 6), none, .mv (.t 11) false⟩]) (.seq (.seq (.ops 2 [⟨(some 12), none, .mv (.t 6) false⟩, ⟨(some 13), none, .bin .neq .ifc (.t 12) (.c .nili)⟩, ⟨(some 14), none, .mv (.t 13) false⟩, ⟨(some 15), (some (14, true)), .mv (.t 0) false⟩, ⟨(some 16), (some (14, true)), .nilc (.t 15)⟩, ⟨(some 17), (some (14, true)), .faddr 2 (.t 16)⟩, ⟨(some 18), (some (14, true)), .load false 1 (.t 17)⟩, ⟨(some 19), (some (14, true)), .bin .eql .ifc (.t 18) (.c .nili)⟩, ⟨(some 20), none, .pick (.t 14) (.t 19) (.c (.bool false))⟩]) (.cond (.t 20) (.ops 3 [⟨(some 21), none, .mv (.t 0) false⟩, ⟨(some 22), none, .mv (.t 6) false⟩, ⟨(some 23), none, .nilc (.t 21)⟩, ⟨(some 24), none, .faddr 2 (.t 23)⟩, ⟨none, none, .store 1 (.t 24) (.t 22) false⟩]) .skip)) (.seq (.ops 4 [⟨(some 25), none, .mv (.t 5) false⟩, ⟨(some 4), none, .mv (.t 25) false⟩]) .ret))))⟩
theorem ok_c___anb_reader__whole : chkFn Tryz.prog 43 c___anb_reader__whole = true := chkFn_of Tryz.func43 (by kernel_rfl)
def j___anb_reader__whole_0 (M : Mach) (n0 : Nat) (z5 : V) (σ : Objs) : Ro :=
  bd (oneK false z5.nogr.nogr) (endK n0 σ)
def s___anb_reader__whole (M : Mach) (a0 a1 : V) (σ : Objs) : Ro :=
  bd (M.call 15 [a1.nogr.nogr] σ) fun p0 =>
  bd (pu (evExtr 0 p0.1.nogr.nogr)) fun x1 =>
  bd (pu (evExtr 1 p0.1.nogr.nogr)) fun x2 =>
  bd (pu (evBin .neq .ifc x2.nogr.nogr.nogr .nili)) fun x3 =>
  bd (gdv x3.nogr true (some a0.nogr)) fun x4 =>
  bd (gdv x3.nogr true (pu (evNilc x4.nogr))) fun x5 =>
  bd (gdv x3.nogr true (pu (evFaddr 2 x5.nogr))) fun x6 =>
  bd (gdv x3.nogr true (pu (evLoad p0.2 false 1 x6.nogr))) fun x7 =>
  bd (gdv x3.nogr true (pu (evBin .eql .ifc x7.nogr .nili))) fun x8 =>
  bd (pu (pickV x3.nogr.nogr x8.nogr (.bool false))) fun x9 =>
  br x9.nogr (
  bd (pu (evNilc a0.nogr.nogr)) fun x10 =>
  bd (pu (evFaddr 2 x10.nogr)) fun x11 =>
  bd (storeV p0.2 1 x11.nogr x2.nogr.nogr.nogr x2.nogr.nogr.nogr) fun p12 =>
  j___anb_reader__whole_0 M σ.length x1.nogr p12.2) (
  j___anb_reader__whole_0 M σ.length x1.nogr p0.2)
theorem k___anb_reader__whole (M : Mach) (a0 a1 : V) (σ : Objs) : fnK M c___anb_reader__whole [a0, a1] σ = s___anb_reader__whole M a0 a1 σ := by kernel_rfl
def c_chars_Lower : Ev.Fn := ⟨25, [.tmp 2], false, false, (.seq (.ops 0 [⟨(some 2), none, .mv (.c (.str [])) false⟩]) (.seq (.ops 1 [⟨(some 6), none, .mv (.t 0) false⟩, ⟨(some 7), none, .bytesH (.t 6)⟩, ⟨(some 3), none, .mv (.t 7) true⟩]) (.seq (.seq (.ops 2 [⟨(some 8), none, .mv (.t 3) false⟩, ⟨(some 9), none, .len (.t 8)⟩, ⟨(some 10), none, .mv (.c (.int .i64 0)) false⟩]) (.block 0 (.loop [3, 8, 9, 10] [2, 3] (.seq (.ops 3 [⟨(some 11), none, .bin .lss .no (.t 10) (.t 9)⟩]) (.seq (.cond (.t 11) .skip (.exit 0)) (.seq (.block 1 (.seq (.ops 4 [⟨(some 12), none, .mv (.t 10) false⟩, ⟨(some 13), none, .iaddr 1 (.t 8) (.t 10)⟩, ⟨(some 14), none, .load false 1 (.t 13)⟩, ⟨(some 4), none, .mv (.t 12) false⟩, ⟨(some 5), none, .mv (.t 14) false⟩]) (.ops 5 [⟨(some 15), none, .mv (.t 3) false⟩, ⟨(some 16), none, .mv (.t 4) false⟩, ⟨(some 17), none, .mv (.t 5) false⟩, ⟨(some 18), none, .conv (.toInt .i64) (.t 17)⟩, ⟨(some 19), none, .call 70 [(.t 18)]⟩, ⟨(some 20), none, .conv (.toInt .u8) (.t 19)⟩, ⟨(some 21), none, .iaddr 1 (.t 15) (.t 16)⟩, ⟨none, none, .store 1 (.t 21) (.t 20) false⟩]))) (.ops 6 [⟨(some 22), none, .bin .add .no (.t 10) (.c (.int .i64 1))⟩, ⟨(some 10), none, .mv (.t 22) false⟩]))))))) (.seq (.ops 7 [⟨(some 23), none, .mv (.t 3) true⟩, ⟨(some 24), none, .conv .bytesStr (.t 23)⟩, ⟨(some 2), none, .mv (.t 24) false⟩]) .ret))))⟩
theorem ok_c_chars_Lower : chkFn Tryz.prog 44 c_chars_Lower = true := chkFn_of Tryz.func44 (by kernel_rfl)
def b_chars_Lower_0 (M : Mach) (n0 : Nat) (n1 : Nat) (r1 : Rk) (z3 z8 z9 z10 : V) (σ : Objs) : Ro :=
  bd (pu (evBin .lss .no z10.nogr z9.nogr)) fun x2 =>
  br x2.nogr (
  bd (pu (evIaddr 1 z10.nogr z8.nogr)) fun x3 =>
  bd (pu (evLoad σ false 1 x3.nogr)) fun x4 =>
  bd (pu (evConv σ (.toInt .i64) x4.nogr.nogr.nogr)) fun x5 =>
  bd (M.call 70 [x5.nogr] σ) fun p6 =>
  bd (pu (evConv p6.2 (.toInt .u8) p6.1.nogr)) fun x7 =>
  bd (pu (evIaddr 1 z10.nogr.nogr.nogr.nogr z3.nogr.nogr)) fun x8 =>
  bd (storeV p6.2 1 x8.nogr x7.nogr x7.nogr) fun p9 =>
  bd (pu (evBin .add .no z10.nogr (.int .i64 1))) fun x10 =>
  bd (fz n1 p9.2 fzDepth z3) fun y11 =>
  bd (fz n1 p9.2 fzDepth z8) fun y12 =>
  bd (fz n1 p9.2 fzDepth z9) fun y13 =>
  bd (fz n1 p9.2 fzDepth x10.nogr) fun y14 =>
  bd (cutObjs n1 p9.2) fun s15 => r1 [y11, y12, y13, y14] s15) (
  bd (fz n1 σ fzDepth .any) fun y16 =>
  bd (fz n1 σ fzDepth z3) fun y17 =>
  bd (cutObjs n1 σ) fun s18 =>
  bd (pu (evConv s18 .bytesStr y17.nogr)) fun x19 =>
  bd (oneK false x19.nogr) (endK n0 s18))
def l_chars_Lower_0 (M : Mach) (n0 : Nat) (n1 : Nat) : Rk := M.fx fun rec vs σ => b_chars_Lower_0 M n0 n1 rec (vs.getD 0 .undef) (vs.getD 1 .undef) (vs.getD 2 .undef) (vs.getD 3 .undef) σ
def s_chars_Lower (M : Mach) (a0 : V) (σ : Objs) : Ro :=
  bd (bytesHV σ a0.nogr.nogr) fun p0 =>
  bd (pu (evLen p0.1.nogr.nogr)) fun x1 =>
  bd (fz p0.2.length p0.2 fzDepth p0.1) fun y20 =>
  bd (fz p0.2.length p0.2 fzDepth p0.1.nogr) fun y21 =>
  bd (fz p0.2.length p0.2 fzDepth x1) fun y22 =>
  bd (fz p0.2.length p0.2 fzDepth (.int .i64 0)) fun y23 =>
  l_chars_Lower_0 M σ.length p0.2.length [y20, y21, y22, y23] p0.2
theorem k_chars_Lower (M : Mach) (a0 : V) (σ : Objs) : fnK M c_chars_Lower [a0] σ = s_chars_Lower M a0 σ := by kernel_rfl
def c_strings_CutPrefix : Ev.Fn := ⟨11, [.tmp 4, .tmp 5], false, false, (.seq (.ops 0 [⟨(some 4), none, .mv (.c (.str [])) false⟩, ⟨(some 5), none, .mv (.c (.bool false)) false⟩]) (.seq (.ops 1 [⟨(some 6), none, .mv (.t 0) false⟩, ⟨(some 7), none, .mv (.t 1) false⟩, ⟨(some 8), none, .call 71 [(.t 6), (.t 7)]⟩, ⟨(some 9), none, .extr (.t 8) 0⟩, ⟨(some 10), none, .extr (.t 8) 1⟩, ⟨(some 4), none, .mv (.t 9) false⟩, ⟨(some 5), none, .mv (.t 10) false⟩]) .ret))⟩
theorem ok_c_strings_CutPrefix : chkFn Tryz.prog 45 c_strings_CutPrefix = true := chkFn_of Tryz.func45 (by kernel_rfl)
def s_strings_CutPrefix (M : Mach) (a0 a1 : V) (σ : Objs) : Ro :=
  bd (M.call 71 [a0.nogr.nogr, a1.nogr.nogr] σ) fun p0 =>
  bd (pu (evExtr 0 p0.1.nogr)) fun x1 =>
  bd (pu (evExtr 1 p0.1.nogr)) fun x2 =>
  endK σ.length p0.2 (.tup [x1.nogr.nogr, x2.nogr.nogr])
theorem k_strings_CutPrefix (M : Mach) (a0 a1 : V) (σ : Objs) : fnK M c_strings_CutPrefix [a0, a1] σ = s_strings_CutPrefix M a0 a1 σ := by kernel_rfl
def c_strings_HasPrefix : Ev.Fn := ⟨8, [.tmp 4], false, false, (.seq (.ops 0 [⟨(some 4), none, .mv (.c (.bool false)) false⟩]) (.seq (.ops 1 [⟨(some 5), none, .mv (.t 0) false⟩, ⟨(some 6), none, .mv (.t 1) false⟩, ⟨(some 7), none, .call 72 [(.t 5), (.t 6)]⟩, ⟨(some 4), none, .mv (.t 7) false⟩]) .ret))⟩
theorem ok_c_strings_HasPrefix : chkFn Tryz.prog 46 c_strings_HasPrefix = true := chkFn_of Tryz.func46 (by kernel_rfl)
def s_strings_HasPrefix (M : Mach) (a0 a1 : V) (σ : Objs) : Ro :=
  bd (M.call 72 [a0.nogr.nogr, a1.nogr.nogr] σ) fun p0 =>
  bd (oneK false p0.1.nogr) (endK σ.length p0.2)
theorem k_strings_HasPrefix (M : Mach) (a0 a1 : V) (σ : Objs) : fnK M c_strings_HasPrefix [a0, a1] σ = s_strings_HasPrefix M a0 a1 σ := by kernel_rfl
def c___anb_reader__tail : Ev.Fn := ⟨63, [.tmp 2], false, false, (.seq (.ops 0 [⟨(some 2), none, .mv (.c (.int .i64 0)) false⟩]) (.seq (.ops 1 [⟨(some 5), none, .mv (.t 0) false⟩, ⟨(some 6), none, .mv (.t 0) false⟩, ⟨(some 7), none, .nilc (.t 6)⟩, ⟨(some 8), none, .faddr 1 (.t 7)⟩, ⟨(some 9), none, .load false 1 (.t 8)⟩, ⟨(some 10), none, .call 25 [(.t 5), (.t 9)]⟩, ⟨(some 3), none, .mv (.t 10) false⟩]) (.seq (.seq (.ops 2 [⟨(some 11), none, .mv (.t 0) false⟩, ⟨(some 12), none, .mv (.t 3) false⟩, ⟨(some 13), none, .call 48 [(.t 11), (.t 12), (.c (.bool true))]⟩]) (.cond (.t 13) (.seq (.ops 3 [⟨(some 14), none, .mv (.t 0) false⟩, ⟨(some 15), none, .mv (.t 3) false⟩, ⟨(some 16), none, .bin .add .no (.t 15) (.c (.int .i64 1))⟩, ⟨(some 17), none, .nilc (.t 14)⟩, ⟨(some 18), none, .faddr 1 (.t 17)⟩, ⟨none, none, .store 1 (.t 18) (.t 16) false⟩]) (.seq (.ops 4 [⟨(some 19), none, .mv (.t 0) false⟩, ⟨(some 20), none, .mv (.t 0) false⟩, ⟨(some 21), none, .mv (.t 3) false⟩, ⟨(some 22), none, .call 41 [(.t 20), (.t 21)]⟩, ⟨(some 23), none, .field false 4 1 (.t 22)⟩, ⟨(some 24), none, .call 43 [(.t 19), (.t 23)]⟩, ⟨(some 2), none, .mv (.t 24) false⟩]) .ret)) .skip)) (.seq (.ops 5 [⟨(some 25), none, .mv (.t 0) false⟩, ⟨(some 26), none, .mv (.t 3) false⟩, ⟨(some 27), none, .call 41 [(.t 25), (.t 26)]⟩, ⟨(some 4), none, .alloc [(.int .i64 0), (.int .i64 0), (.int .i64 0), (.str []), (.str []), (.bool false)]⟩, ⟨none, none, .store 6 (.t 4) (.t 27) false⟩]) (.seq (.seq (.ops 6 [⟨(some 28), none, .faddr 0 (.t 4)⟩, ⟨(some 29), none, .load false 1 (.t 28)⟩, ⟨(some 30), none, .bin .neq .no (.t 29) (.c (.int .i64 9))⟩, ⟨(some 31), none, .mv (.t 30) false⟩, ⟨(some 32), (some (31, false)), .faddr 3 (.t 4)⟩, ⟨(some 33), (some (31, false)), .load false 1 (.t 32)⟩, ⟨(some 34), (some (31, false)), .bin .neq .no (.t 33) (.c (.str [43]))⟩, ⟨(some 35), (some (31, false)), .mv (.t 34) false⟩, ⟨(some 36), (some (35, true)), .faddr 3 (.t 4)⟩, ⟨(some 37), (some (35, true)), .load false 1 (.t 36)⟩, ⟨(some 38), (some (35, true)), .bin .neq .no (.t 37) (.c (.str [45]))⟩, ⟨(some 39), (some (31, false)), .pick (.t 35) (.t 38) (.c (.bool false))⟩, ⟨(some 40), none, .pick (.t 31) (.c (.bool true)) (.t 39)⟩]) (.cond (.t 40) (.seq (.ops 7 [⟨(some 2), none, .mv (.c (.int .i64 0)) false⟩]) .ret) .skip)) (.seq (.seq (.ops 8 [⟨(some 41), none, .mv (.t 0) false⟩, ⟨(some 42), none, .mv (.t 3) false⟩, ⟨(some 43), none, .bin .add .no (.t 42) (.c (.int .i64 1))⟩, ⟨(some 44), none, .call 25 [(.t 41), (.t 43)]⟩, ⟨(some 3), none, .mv (.t 44) false⟩]) (.seq (.ops 9 [⟨(some 45), none, .mv (.t 0) false⟩, ⟨(some 46), none, .mv (.t 3) false⟩, ⟨(some 47), none, .call 48 [(.t 45), (.t 46), (.c (.bool false))]⟩, ⟨(some 48), none, .un .not (.t 47)⟩]) (.cond (.t 48) (.seq (.ops 10 [⟨(some 2), none, .mv (.c (.int .i64 0)) false⟩]) .ret) .skip))) (.seq (.ops 11 [⟨(some 49), none, .mv (.t 0) false⟩, ⟨(some 50), none, .mv (.t 3) false⟩, ⟨(some 51), none, .bin .add .no (.t 50) (.c (.int .i64 1))⟩, ⟨(some 52), none, .nilc (.t 49)⟩, ⟨(some 53), none, .faddr 1 (.t 52)⟩, ⟨none, none, .store 1 (.t 53) (.t 51) false⟩]) (.seq (.drw 12 [⟨⟨(some 54), none, .mv (.t 0) false⟩, 0, []⟩, ⟨⟨(some 55), none, .faddr 3 (.t 4)⟩, 1, []⟩, ⟨⟨(some 56), none, .load false 1 (.t 55)⟩, 2, []⟩, ⟨⟨(some 57), none, .mv (.t 0) false⟩, 3, []⟩, ⟨⟨(some 58), none, .mv (.t 3) false⟩, 4, []⟩, ⟨⟨(some 59), none, .call 41 [(.t 57), (.t 58)]⟩, 5, [2]⟩, ⟨⟨(some 60), none, .field false 4 1 (.t 59)⟩, 6, []⟩, ⟨⟨(some 61), none, .bin .add .no (.t 56) (.t 60)⟩, 7, []⟩, ⟨⟨(some 62), none, .call 43 [(.t 54), (.t 61)]⟩, 8, []⟩, ⟨⟨(some 2), none, .mv (.t 62) false⟩, 9, []⟩]) .ret))))))))⟩
theorem ok_c___anb_reader__tail : chkFn Tryz.prog 47 c___anb_reader__tail = true := chkFn_of Tryz.func47 (by kernel_rfl)
def s___anb_reader__tail (M : Mach) (a0 : V) (σ : Objs) : Ro :=
  bd (pu (evNilc a0.nogr.nogr)) fun x0 =>
  bd (pu (evFaddr 1 x0.nogr)) fun x1 =>
  bd (pu (evLoad σ false 1 x1.nogr)) fun x2 =>
  bd (M.call 25 [a0.nogr.nogr, x2.nogr] σ) fun p3 =>
  bd (M.call 48 [a0.nogr.nogr, p3.1.nogr.nogr.nogr, (.bool true)] p3.2) fun p4 =>
  br p4.1.nogr (
  bd (pu (evBin .add .no p3.1.nogr.nogr.nogr (.int .i64 1))) fun x5 =>
  bd (pu (evNilc a0.nogr.nogr)) fun x6 =>
  bd (pu (evFaddr 1 x6.nogr)) fun x7 =>
  bd (storeV p4.2 1 x7.nogr x5.nogr x5.nogr) fun p8 =>
  bd (M.call 41 [a0.nogr.nogr, p3.1.nogr.nogr.nogr] p8.2) fun p9 =>
  bd (pu (evField false 4 1 p9.1.nogr)) fun x10 =>
  bd (M.call 43 [a0.nogr.nogr, x10.nogr] p9.2) fun p11 =>
  bd (oneK false p11.1.nogr) (endK σ.length p11.2)) (
  bd (M.call 41 [a0.nogr.nogr, p3.1.nogr.nogr.nogr] p4.2) fun p12 =>
  let s13 : Objs := p12.2 ++ [.cells [(.int .i64 0), (.int .i64 0), (.int .i64 0), (.str []), (.str []), (.bool false)]]
  bd (storeV s13 6 (.ptr p12.2.length 0) p12.1.nogr p12.1.nogr) fun p14 =>
  bd (pu (evFaddr 0 (.ptr p12.2.length 0))) fun x15 =>
  bd (pu (evLoad p14.2 false 1 x15.nogr)) fun x16 =>
  bd (pu (evBin .neq .no x16.nogr (.int .i64 9))) fun x17 =>
  bd (gdv x17.nogr false (pu (evFaddr 3 (.ptr p12.2.length 0)))) fun x18 =>
  bd (gdv x17.nogr false (pu (evLoad p14.2 false 1 x18.nogr))) fun x19 =>
  bd (gdv x17.nogr false (pu (evBin .neq .no x19.nogr (.str [43])))) fun x20 =>
  bd (gdv x17.nogr false (some x20.nogr)) fun x21 =>
  bd (gdv x21 true (pu (evFaddr 3 (.ptr p12.2.length 0)))) fun x22 =>
  bd (gdv x21 true (pu (evLoad p14.2 false 1 x22.nogr))) fun x23 =>
  bd (gdv x21 true (pu (evBin .neq .no x23.nogr (.str [45])))) fun x24 =>
  bd (gdv x17.nogr false (pu (pickV x21.nogr x24.nogr (.bool false)))) fun x25 =>
  bd (pu (pickV x17.nogr.nogr (.bool true) x25.nogr)) fun x26 =>
  br x26.nogr (
  bd (oneK false (.int .i64 0)) (endK σ.length p14.2)) (
  bd (pu (evBin .add .no p3.1.nogr.nogr.nogr (.int .i64 1))) fun x27 =>
  bd (M.call 25 [a0.nogr.nogr, x27.nogr] p14.2) fun p28 =>
  bd (M.call 48 [a0.nogr.nogr, p28.1.nogr.nogr.nogr, (.bool false)] p28.2) fun p29 =>
  bd (pu (evUn .not p29.1.nogr)) fun x30 =>
  br x30.nogr (
  bd (oneK false (.int .i64 0)) (endK σ.length p29.2)) (
  bd (pu (evBin .add .no p28.1.nogr.nogr.nogr (.int .i64 1))) fun x31 =>
  bd (pu (evNilc a0.nogr.nogr)) fun x32 =>
  bd (pu (evFaddr 1 x32.nogr)) fun x33 =>
  bd (storeV p29.2 1 x33.nogr x31.nogr x31.nogr) fun p34 =>
  bd (pu (evFaddr 3 (.ptr p12.2.length 0))) fun x35 =>
  bd (pu (evLoad p34.2 false 1 x35.nogr)) fun x36 =>
  bd (lockS [rdLoad false 1 x35.nogr] p34.2) fun s37 =>
  bd (M.call 41 [a0.nogr.nogr, p28.1.nogr.nogr.nogr] s37) fun p39 =>
  bd (openS [rdLoad false 1 x35.nogr] p34.2 p39.2) fun s38 =>
  bd (pu (evField false 4 1 p39.1.nogr)) fun x40 =>
  bd (pu (evBin .add .no x36.nogr x40.nogr)) fun x41 =>
  bd (M.call 43 [a0.nogr.nogr, x41.nogr] s38) fun p42 =>
  bd (oneK false p42.1.nogr) (endK σ.length p42.2))))
theorem k___anb_reader__tail (M : Mach) (a0 : V) (σ : Objs) : fnK M c___anb_reader__tail [a0] σ = s___anb_reader__tail M a0 σ := by kernel_rfl
def c___anb_reader__number : Ev.Fn := ⟨36, [.tmp 6], false, false, (.seq (.ops 0 [⟨(some 6), none, .mv (.c (.bool false)) false⟩]) (.seq (.ops 1 [⟨(some 8), none, .mv (.t 0) false⟩, ⟨(some 9), none, .mv (.t 1) false⟩, ⟨(some 10), none, .call 41 [(.t 8), (.t 9)]⟩, ⟨(some 7), none, .alloc [(.int .i64 0), (.int .i64 0), (.int .i64 0), (.str []), (.str []), (.bool false)]⟩, ⟨none, none, .store 6 (.t 7) (.t 10) false⟩]) (.seq (.seq (.ops 2 [⟨(some 11), none, .faddr 0 (.t 7)⟩, ⟨(some 12), none, .load false 1 (.t 11)⟩, ⟨(some 13), none, .bin .neq .no (.t 12) (.c (.int .i64 10))⟩, ⟨(some 14), none, .mv (.t 13) false⟩, ⟨(some 15), (some (14, false)), .faddr 5 (.t 7)⟩, ⟨(some 16), (some (14, false)), .load false 1 (.t 15)⟩, ⟨(some 17), (some (14, false)), .un .not (.t 16)⟩, ⟨(some 18), none, .pick (.t 14) (.c (.bool true)) (.t 17)⟩, ⟨(some 19), none, .mv (.t 18) false⟩, ⟨(some 20), (some (19, false)), .faddr 4 (.t 7)⟩, ⟨(some 21), (some (19, false)), .load false 1 (.t 20)⟩, ⟨(some 22), (some (19, false)), .bin .eql .no (.t 21) (.c (.str []))⟩, ⟨(some 23), none, .pick (.t 19) (.c (.bool true)) (.t 22)⟩]) (.cond (.t 23) (.seq (.ops 3 [⟨(some 6), none, .mv (.c (.bool false)) false⟩]) .ret) .skip)) (.seq (.ops 4 [⟨(some 24), none, .mv (.t 2) false⟩, ⟨(some 25), none, .faddr 4 (.t 7)⟩, ⟨(some 26), none, .load false 1 (.t 25)⟩, ⟨(some 27), none, .idx (.t 26) (.c (.int .i64 0))⟩, ⟨(some 28), none, .bin .eql .no (.t 27) (.c (.int .u8 43))⟩, ⟨(some 29), none, .mv (.t 28) false⟩, ⟨(some 30), (some (29, false)), .faddr 4 (.t 7)⟩, ⟨(some 31), (some (29, false)), .load false 1 (.t 30)⟩, ⟨(some 32), (some (29, false)), .idx (.t 31) (.c (.int .i64 0))⟩, ⟨(some 33), (some (29, false)), .bin .eql .no (.t 32) (.c (.int .u8 45))⟩, ⟨(some 34), none, .pick (.t 29) (.c (.bool true)) (.t 33)⟩, ⟨(some 35), none, .bin .eql .bool (.t 24) (.t 34)⟩, ⟨(some 6), none, .mv (.t 35) false⟩]) .ret))))⟩
theorem ok_c___anb_reader__number : chkFn Tryz.prog 48 c___anb_reader__number = true := chkFn_of Tryz.func48 (by kernel_rfl)
def s___anb_reader__number (M : Mach) (a0 a1 a2 : V) (σ : Objs) : Ro :=
  bd (M.call 41 [a0.nogr.nogr, a1.nogr.nogr] σ) fun p0 =>
  let s1 : Objs := p0.2 ++ [.cells [(.int .i64 0), (.int .i64 0), (.int .i64 0), (.str []), (.str []), (.bool false)]]
  bd (storeV s1 6 (.ptr p0.2.length 0) p0.1.nogr p0.1.nogr) fun p2 =>
  bd (pu (evFaddr 0 (.ptr p0.2.length 0))) fun x3 =>
  bd (pu (evLoad p2.2 false 1 x3.nogr)) fun x4 =>
  bd (pu (evBin .neq .no x4.nogr (.int .i64 10))) fun x5 =>
  bd (gdv x5.nogr false (pu (evFaddr 5 (.ptr p0.2.length 0)))) fun x6 =>
  bd (gdv x5.nogr false (pu (evLoad p2.2 false 1 x6.nogr))) fun x7 =>
  bd (gdv x5.nogr false (pu (evUn .not x7.nogr))) fun x8 =>
  bd (pu (pickV x5.nogr.nogr (.bool true) x8.nogr)) fun x9 =>
  bd (gdv x9.nogr false (pu (evFaddr 4 (.ptr p0.2.length 0)))) fun x10 =>
  bd (gdv x9.nogr false (pu (evLoad p2.2 false 1 x10.nogr))) fun x11 =>
  bd (gdv x9.nogr false (pu (evBin .eql .no x11.nogr (.str [])))) fun x12 =>
  bd (pu (pickV x9.nogr.nogr (.bool true) x12.nogr)) fun x13 =>
  br x13.nogr (
  bd (oneK false (.bool false)) (endK σ.length p2.2)) (
  bd (pu (evFaddr 4 (.ptr p0.2.length 0))) fun x14 =>
  bd (pu (evLoad p2.2 false 1 x14.nogr)) fun x15 =>
  bd (pu (evIdx (.int .i64 0) x15.nogr)) fun x16 =>
  bd (pu (evBin .eql .no x16.nogr (.int .u8 43))) fun x17 =>
  bd (gdv x17.nogr false (pu (evFaddr 4 (.ptr p0.2.length 0)))) fun x18 =>
  bd (gdv x17.nogr false (pu (evLoad p2.2 false 1 x18.nogr))) fun x19 =>
  bd (gdv x17.nogr false (pu (evIdx (.int .i64 0) x19.nogr))) fun x20 =>
  bd (gdv x17.nogr false (pu (evBin .eql .no x20.nogr (.int .u8 45)))) fun x21 =>
  bd (pu (pickV x17.nogr.nogr (.bool true) x21.nogr)) fun x22 =>
  bd (pu (evBin .eql .bool a2.nogr.nogr x22.nogr)) fun x23 =>
  bd (oneK false x23.nogr) (endK σ.length p2.2))
theorem k___anb_reader__number (M : Mach) (a0 a1 a2 : V) (σ : Objs) : fnK M c___anb_reader__number [a0, a1, a2] σ = s___anb_reader__number M a0 a1 a2 σ := by kernel_rfl
def c_anb_over : Ev.Fn := ⟨6, [.tmp 2], false, false, (.seq (.ops 0 [⟨(some 2), none, .mv (.c (.bool false)) false⟩]) (.seq (.ops 1 [⟨(some 3), none, .mv (.t 0) false⟩, ⟨(some 4), none, .mkif 38 (.c (.int .i64 3))⟩, ⟨(some 5), none, .call 35 [(.t 3), (.t 4)]⟩, ⟨(some 2), none, .mv (.t 5) false⟩]) .ret))⟩
theorem ok_c_anb_over : chkFn Tryz.prog 49 c_anb_over = true := chkFn_of Tryz.func49 (by kernel_rfl)
def s_anb_over (M : Mach) (a0 : V) (σ : Objs) : Ro :=
  bd (M.call 35 [a0.nogr.nogr, (.ifc 38 (.int .i64 3))] σ) fun p0 =>
  bd (oneK false p0.1.nogr) (endK σ.length p0.2)
theorem k_anb_over (M : Mach) (a0 : V) (σ : Objs) : fnK M c_anb_over [a0] σ = s_anb_over M a0 σ := by kernel_rfl
def c_strings_trimLeftByte : Ev.Fn := ⟨17, [.tmp 4], false, false, (.seq (.ops 0 [⟨(some 4), none, .mv (.c (.str [])) false⟩]) (.seq (.block 0 (.loop [0, 1] [0, 4] (.seq (.seq (.ops 1 [⟨(some 5), none, .mv (.t 0) false⟩, ⟨(some 6), none, .lenS (.t 5)⟩, ⟨(some 7), none, .bin .gtr .no (.t 6) (.c (.int .i64 0))⟩, ⟨(some 8), none, .mv (.t 7) false⟩, ⟨(some 9), (some (8, true)), .mv (.t 0) false⟩, ⟨(some 10), (some (8, true)), .idx (.t 9) (.c (.int .i64 0))⟩, ⟨(some 11), (some (8, true)), .mv (.t 1) false⟩, ⟨(some 12), (some (8, true)), .bin .eql .no (.t 10) (.t 11)⟩, ⟨(some 13), none, .pick (.t 8) (.t 12) (.c (.bool false))⟩]) (.cond (.t 13) .skip (.exit 0))) (.block 1 (.ops 2 [⟨(some 14), none, .mv (.t 0) false⟩, ⟨(some 15), none, .cutS (.t 14) (some (.c (.int .i64 1))) none⟩, ⟨(some 0), none, .mv (.t 15) false⟩]))))) (.seq (.ops 3 [⟨(some 16), none, .mv (.t 0) false⟩, ⟨(some 4), none, .mv (.t 16) false⟩]) .ret)))⟩
theorem ok_c_strings_trimLeftByte : chkFn Tryz.prog 53 c_strings_trimLeftByte = true := chkFn_of Tryz.func53 (by kernel_rfl)
def b_strings_trimLeftByte_0 (M : Mach) (n0 : Nat) (n1 : Nat) (r1 : Rk) (z0 z1 : V) (σ : Objs) : Ro :=
  bd (pu (evLenS z0.nogr.nogr)) fun x0 =>
  bd (pu (evBin .gtr .no x0.nogr (.int .i64 0))) fun x1 =>
  bd (gdv x1.nogr true (some z0.nogr)) fun x2 =>
  bd (gdv x1.nogr true (pu (evIdx (.int .i64 0) x2.nogr))) fun x3 =>
  bd (gdv x1.nogr true (some z1.nogr)) fun x4 =>
  bd (gdv x1.nogr true (pu (evBin .eql .no x3.nogr x4.nogr))) fun x5 =>
  bd (pu (pickV x1.nogr.nogr x5.nogr (.bool false))) fun x6 =>
  br x6.nogr (
  bd (pu (evCutS z0.nogr.nogr (some (.int .i64 1)) none)) fun x7 =>
  bd (fz n1 σ fzDepth x7.nogr) fun y8 =>
  bd (fz n1 σ fzDepth z1) fun y9 =>
  bd (cutObjs n1 σ) fun s10 => r1 [y8, y9] s10) (
  bd (fz n1 σ fzDepth z0) fun y11 =>
  bd (fz n1 σ fzDepth .any) fun y12 =>
  bd (cutObjs n1 σ) fun s13 =>
  bd (oneK false y11.nogr.nogr) (endK n0 s13))
def l_strings_trimLeftByte_0 (M : Mach) (n0 : Nat) (n1 : Nat) : Rk := M.fx fun rec vs σ => b_strings_trimLeftByte_0 M n0 n1 rec (vs.getD 0 .undef) (vs.getD 1 .undef) σ
def s_strings_trimLeftByte (M : Mach) (a0 a1 : V) (σ : Objs) : Ro :=
  bd (fz σ.length σ fzDepth a0) fun y14 =>
  bd (fz σ.length σ fzDepth a1) fun y15 =>
  l_strings_trimLeftByte_0 M σ.length σ.length [y14, y15] σ
theorem k_strings_trimLeftByte (M : Mach) (a0 a1 : V) (σ : Objs) : fnK M c_strings_trimLeftByte [a0, a1] σ = s_strings_trimLeftByte M a0 a1 σ := by kernel_rfl
def c_strings_makeASCIISet : Ev.Fn := ⟨21, [.cell 2 true 256, .tmp 3], false, false, (.seq (.ops 0 [⟨(some 2), none, .alloc [(.bool false), (.bool false), (.bool false), (.bool false), (.bool false), (.bool false), (.bool false), (.bool false), (.bool false), (.bool false), (.bool false), (.bool false), (.bool false), (.bool false), (.bool false), (.bool false), (.bool false), (.bool false), (.bool false), (.bool false), (.bool false), (.bool false), (.bool false), (.bool false), (.bool false), (.bool false), (.bool false), (.bool false), (.bool false), (.bool false), (.bool false), (.bool false), (.bool false), (.bool false), (.bool false), (.bool false), (.bool false), (.bool false), (.bool false), (.bool false), (.bool false), (.bool false), (.bool false), (.bool false), (.bool false), (.bool false), (.bool false), (.bool false), (.bool false), (.bool false), (.bool false), (.bool false), (.bool false), (.bool false), (.bool false), (.bool false), (.bool false), (.bool false), (.bool false), (.bool false), (.bool false), (.bool false), (.bool false), (.bool false), (.bool false), (.bool false), (.bool false), (.bool false), (.bool false), (.bool false), (.bool false), (.bool false), (.bool false), (.bool false), (.bool false), (.bool false), (.bool false), (.bool false), (.bool false), (.bool false), (.bool false), (.bool false), (.bool false), (.bool false), (.bool false), (.bool false), (.bool false), (.bool false), (.bool false), (.bool false), (.bool false), (.bool false), (.bool false), (.bool false), (.bool false), (.bool false), (.bool false), (.bool false), (.bool false), (.bool false), (.bool false), (.bool false), (.bool false), (.bool false), (.bool false), (.bool false), (.bool false), (.bool false), (.bool false), (.bool false), (.bool false), (.bool false), (.bool false), (.bool false), (.bool false), (.bool false), (.bool false), (.bool false), (.bool false), (.bool false), (.bool false), (.bool false), (.bool false), (.bool false), (.bool false), (.bool false), (.bool false), (.bool false), (.bool false), (.bool false), (.bool false), (.bool false), (.bool false), (.bool false), (.bool false), (.bool false), (.bool false), (.bool false), (.bool false), (.bool false), (.bool false), (.bool false), (.bool false), (.bool false), (.bool false), (.bool false), (.bool false), (.bool false), (.bool false), (.bool false), (.bool false), (.bool false), (.bool false), (.bool false), (.bool false), (.bool false), (.bool false), (.bool false), (.bool false), (.bool false), (.bool false), (.bool false), (.bool false), (.bool false), (.bool false), (.bool false), (.bool false), (.bool false), (.bool false), (.bool false), (.bool false), (.bool false), (.bool false), (.bool false), (.bool false), (.bool false), (.bool false), (.bool false), (.bool false), (.bool false), (.bool false), (.bool false), (.bool false), (.bool false), (.bool false), (.bool false), (.bool false), (.bool false), (.bool false), (.bool false), (.bool false), (.bool false), (.bool false), (.bool false), (.bool false), (.bool false), (.bool false), (.bool false), (.bool false), (.bool false), (.bool false), (.bool false), (.bool false), (.bool false), (.bool false), (.bool false), (.bool false), (.bool false), (.bool false), (.bool false), (.bool false), (.bool false), (.bool false), (.bool false), (.bool false), (.bool false), (.bool false), (.bool false), (.bool false), (.bool false), (.bool false), (.bool false), (.bool false), (.bool false), (.bool false), (.bool false), (.bool false), (.bool false), (.bool false), (.bool false), (.bool false), (.bool false), (.bool false), (.bool false), (.bool false), (.bool false), (.bool false), (.bool false), (.bool false), (.bool false), (.bool false), (.bool false), (.bool false), (.bool false), (.bool false), (.bool false), (.bool false), (.bool false), (.bool false), (.bool false), (.bool false), (.bool false), (.bool false), (.bool false), (.bool false), (.bool false)]⟩, ⟨(some 3), none, .mv (.c (.bool false)) false⟩]) (.seq (.seq (.ops 1 [⟨(some 4), none, .mv (.c (.int .i64 0)) false⟩]) (.block 0 (.loop [0, 2, 4] [2, 3] (.seq (.seq (.ops 2 [⟨(some 6), none, .mv (.t 4) false⟩, ⟨(some 7), none, .mv (.t 0) false⟩, ⟨(some 8), none, .lenS (.t 7)⟩, ⟨(some 9), none, .bin .lss .no (.t 6) (.t 8)⟩]) (.cond (.t 9) .skip (.exit 0))) (.seq (.block 1 (.seq (.ops 4 [⟨(some 12), none, .mv (.t 0) false⟩, ⟨(some 13), none, .mv (.t 4) false⟩, ⟨(some 14), none, .idx (.t 12) (.t 13)⟩, ⟨(some 5), none, .mv (.t 14) false⟩]) (.seq (.seq (.ops 5 [⟨(some 15), none, .mv (.t 5) false⟩, ⟨(some 16), none, .bin .geq .no (.t 15) (.c (.int .u8 128))⟩]) (.cond (.t 16) (.seq (.ops 6 [⟨(some 17), none, .load true 256 (.t 2)⟩, ⟨none, none, .store 256 (.t 2) (.t 17) false⟩, ⟨(some 3), none, .mv (.c (.bool false)) false⟩]) .ret) .skip)) (.ops 7 [⟨(some 18), none, .mv (.t 5) false⟩, ⟨(some 19), none, .iaddrA 256 1 (.t 2) (.t 18)⟩, ⟨none, none, .store 1 (.t 19) (.c (.bool true)) false⟩])))) (.ops 3 [⟨(some 10), none, .mv (.t 4) false⟩, ⟨(some 11), none, .bin .add .no (.t 10) (.c (.int .i64 1))⟩, ⟨(some 4), none, .mv (.t 11) false⟩])))))) (.seq (.ops 8 [⟨(some 20), none, .load true 256 (.t 2)⟩, ⟨none, none, .store 256 (.t 2) (.t 20) false⟩, ⟨(some 3), none, .mv (.c (.bool true)) false⟩]) .ret)))⟩
theorem ok_c_strings_makeASCIISet : chkFn Tryz.prog 54 c_strings_makeASCIISet = true := chkFn_of Tryz.func54 (by kernel_rfl)
def b_strings_makeASCIISet_0 (M : Mach) (n0 : Nat) (n1 : Nat) (r1 : Rk) (z0 z2 z4 : V) (σ : Objs) : Ro :=
  bd (pu (evLenS z0.nogr.nogr)) fun x1 =>
  bd (pu (evBin .lss .no z4.nogr.nogr x1.nogr)) fun x2 =>
  br x2.nogr (
  bd (pu (evIdx z4.nogr.nogr z0.nogr.nogr)) fun x3 =>
  bd (pu (evBin .geq .no x3.nogr.nogr.nogr (.int .u8 128))) fun x4 =>
  br x4.nogr (
  bd (pu (evLoad σ true 256 z2.nogr)) fun x5 =>
  bd (storeV σ 256 z2.nogr x5.nogr x5.nogr) fun p6 =>
  bd (fz n1 p6.2 fzDepth z2) fun y7 =>
  bd (fz n1 p6.2 fzDepth (.bool false)) fun y8 =>
  bd (cutObjs n1 p6.2) fun s9 =>
  bd (resC s9 true 256 y7) fun x10 =>
  endK n0 s9 (.tup [x10.nogr, y8.nogr])) (
  bd (pu (evIaddrA 256 1 x3.nogr.nogr.nogr z2.nogr)) fun x11 =>
  bd (storeV σ 1 x11.nogr (.bool true) (.bool true)) fun p12 =>
  bd (pu (evBin .add .no z4.nogr.nogr (.int .i64 1))) fun x13 =>
  bd (fz n1 p12.2 fzDepth z0) fun y14 =>
  bd (fz n1 p12.2 fzDepth z2) fun y15 =>
  bd (fz n1 p12.2 fzDepth x13.nogr) fun y16 =>
  bd (cutObjs n1 p12.2) fun s17 => r1 [y14, y15, y16] s17)) (
  bd (fz n1 σ fzDepth z2) fun y18 =>
  bd (fz n1 σ fzDepth .any) fun y19 =>
  bd (cutObjs n1 σ) fun s20 =>
  bd (pu (evLoad s20 true 256 y18.nogr)) fun x21 =>
  bd (storeV s20 256 y18.nogr x21.nogr x21.nogr) fun p22 =>
  bd (resC p22.2 true 256 y18) fun x23 =>
  endK n0 p22.2 (.tup [x23.nogr, (.bool true)]))
def l_strings_makeASCIISet_0 (M : Mach) (n0 : Nat) (n1 : Nat) : Rk := M.fx fun rec vs σ => b_strings_makeASCIISet_0 M n0 n1 rec (vs.getD 0 .undef) (vs.getD 1 .undef) (vs.getD 2 .undef) σ
def s_strings_makeASCIISet (M : Mach) (a0 : V) (σ : Objs) : Ro :=
  let s0 : Objs := σ ++ [.cells [(.bool false), (.bool false), (.bool false), (.bool false), (.bool false), (.bool false), (.bool false), (.bool false), (.bool false), (.bool false), (.bool false), (.bool false), (.bool false), (.bool false), (.bool false), (.bool false), (.bool false), (.bool false), (.bool false), (.bool false), (.bool false), (.bool false), (.bool false), (.bool false), (.bool false), (.bool false), (.bool false), (.bool false), (.bool false), (.bool false), (.bool false), (.bool false), (.bool false), (.bool false), (.bool false), (.bool false), (.bool false), (.bool false), (.bool false), (.bool false), (.bool false), (.bool false), (.bool false), (.bool false), (.bool false), (.bool false), (.bool false), (.bool false), (.bool false), (.bool false), (.bool false), (.bool false), (.bool false), (.bool false), (.bool false), (.bool false), (.bool false), (.bool false), (.bool false), (.bool false), (.bool false), (.bool false), (.bool false), (.bool false), (.bool false), (.bool false), (.bool false), (.bool false), (.bool false), (.bool false), (.bool false), (.bool false), (.bool false), (.bool false), (.bool false), (.bool false), (.bool false), (.bool false), (.bool false), (.bool false), (.bool false), (.bool false), (.bool false), (.bool false), (.bool false), (.bool false), (.bool false), (.bool false), (.bool false), (.bool false), (.bool false), (.bool false), (.bool false), (.bool false), (.bool false), (.bool false), (.bool false), (.bool false), (.bool false), (.bool false), (.bool false), (.bool false), (.bool false), (.bool false), (.bool false), (.bool false), (.bool false), (.bool false), (.bool false), (.bool false), (.bool false), (.bool false), (.bool false), (.bool false), (.bool false), (.bool false), (.bool false), (.bool false), (.bool false), (.bool false), (.bool false), (.bool false), (.bool false), (.bool false), (.bool false), (.bool false), (.bool false), (.bool false), (.bool false), (.bool false), (.bool false), (.bool false), (.bool false), (.bool false), (.bool false), (.bool false), (.bool false), (.bool false), (.bool false), (.bool false), (.bool false), (.bool false), (.bool false), (.bool false), (.bool false), (.bool false), (.bool false), (.bool false), (.bool false), (.bool false), (.bool false), (.bool false), (.bool false), (.bool false), (.bool false), (.bool false), (.bool false), (.bool false), (.bool false), (.bool false), (.bool false), (.bool false), (.bool false), (.bool false), (.bool false), (.bool false), (.bool false), (.bool false), (.bool false), (.bool false), (.bool false), (.bool false), (.bool false), (.bool false), (.bool false), (.bool false), (.bool false), (.bool false), (.bool false), (.bool false), (.bool false), (.bool false), (.bool false), (.bool false), (.bool false), (.bool false), (.bool false), (.bool false), (.bool false), (.bool false), (.bool false), (.bool false), (.bool false), (.bool false), (.bool false), (.bool false), (.bool false), (.bool false), (.bool false), (.bool false), (.bool false), (.bool false), (.bool false), (.bool false), (.bool false), (.bool false), (.bool false), (.bool false), (.bool false), (.bool false), (.bool false), (.bool false), (.bool false), (.bool false), (.bool false), (.bool false), (.bool false), (.bool false), (.bool false), (.bool false), (.bool false), (.bool false), (.bool false), (.bool false), (.bool false), (.bool false), (.bool false), (.bool false), (.bool false), (.bool false), (.bool false), (.bool false), (.bool false), (.bool false), (.bool false), (.bool false), (.bool false), (.bool false), (.bool false), (.bool false), (.bool false), (.bool false), (.bool false), (.bool false), (.bool false), (.bool false), (.bool false), (.bool false), (.bool false), (.bool false), (.bool false), (.bool false), (.bool false), (.bool false), (.bool false), (.bool false)]]
  bd (fz s0.length s0 fzDepth a0) fun y24 =>
  bd (fz s0.length s0 fzDepth (.ptr σ.length 0)) fun y25 =>
  bd (fz s0.length s0 fzDepth (.int .i64 0)) fun y26 =>
  l_strings_makeASCIISet_0 M σ.length s0.length [y24, y25, y26] s0
theorem k_strings_makeASCIISet (M : Mach) (a0 : V) (σ : Objs) : fnK M c_strings_makeASCIISet [a0] σ = s_strings_makeASCIISet M a0 σ := by kernel_rfl
end Go.Proofs.YtkgkmlhljeidhaaGreatDoor
