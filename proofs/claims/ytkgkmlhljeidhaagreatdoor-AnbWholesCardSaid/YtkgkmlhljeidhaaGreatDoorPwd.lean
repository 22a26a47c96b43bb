/- Part of a proof: the small language, and functions of the program on it. -/
import Derived.Test.YtkgkmlhljeidhaaGreatDoorPwc
import Derived.Test.YtkgkmlhljeidhaaGreatDoorChecked
import Derived.Test.YtkgkmlhljeidhaaGreatDoorRows
import Derived.WalkKit
import Derived.WalkSpells
import Derived.WalkLawsBesides
import Derived.Deep.QuietTactic
import Derived.BigQuiet
import Derived.Lib.Hide
import Derived.Deep.RegionHeld3
import Derived.Deep.AppendLies
import Derived.Deep.RegionLaw
import Derived.Deep.DrawnRows
import Derived.Deep.DeepFit
import Derived.RegionTactic
import Derived.LaidEql
import Derived.Stop.Asserts
import Derived.RowKitTokens
import Derived.Elder7
set_option linter.unusedSimpArgs false
set_option linter.unusedVariables false
set_option maxRecDepth 100000
namespace Go.Proofs.YtkgkmlhljeidhaaGreatDoor
open Go.Ev
def c_strings_trimLeftASCII : Ev.Fn := ⟨16, [.tmp 4], false, false, (.seq (.ops 0 [⟨(some 4), none, .mv (.c (.str [])) false⟩]) (.seq (.block 0 (.loop [0, 1] [0, 4] (.seq (.seq (.ops 1 [⟨(some 5), none, .mv (.t 0) false⟩, ⟨(some 6), none, .lenS (.t 5)⟩, ⟨(some 7), none, .bin .gtr .no (.t 6) (.c (.int .i64 0))⟩]) (.cond (.t 7) .skip (.exit 0))) (.block 1 (.seq (.seq (.ops 2 [⟨(some 8), none, .mv (.t 1) false⟩, ⟨(some 9), none, .mv (.t 0) false⟩, ⟨(some 10), none, .idx (.t 9) (.c (.int .i64 0))⟩, ⟨(some 11), none, .call 89 [(.t 8), (.t 10)]⟩, ⟨(some 12), none, .un .not (.t 11)⟩]) (.cond (.t 12) (.exit 0) .skip)) (.ops 3 [⟨(some 13), none, .mv (.t 0) false⟩, ⟨(some 14), none, .cutS (.t 13) (some (.c (.int .i64 1))) none⟩, ⟨(some 0), none, .mv (.t 14) false⟩])))))) (.seq (.ops 4 [⟨(some 15), none, .mv (.t 0) false⟩, ⟨(some 4), none, .mv (.t 15) false⟩]) .ret)))⟩
theorem ok_c_strings_trimLeftASCII : chkFn Tryz.prog 55 c_strings_trimLeftASCII = true := chkFn_of Tryz.func55 (by kernel_rfl)
def j_strings_trimLeftASCII_0 (M : Mach) (n0 : Nat) (z0 : V) (σ : Objs) : Ro :=
  bd (oneK false z0.nogr.nogr) (endK n0 σ)
def j_strings_trimLeftASCII_1 (M : Mach) (n0 : Nat) (n1 : Nat) (r1 : Rk) (z0 z4 : V) (σ : Objs) : Ro :=
  bd (fz n1 σ fzDepth z0) fun y0 =>
  bd (fz n1 σ fzDepth z4) fun y1 =>
  bd (cutObjs n1 σ) fun s2 =>
  j_strings_trimLeftASCII_0 M n0 y0 s2
def b_strings_trimLeftASCII_0 (M : Mach) (n0 : Nat) (n1 : Nat) (r1 : Rk) (z0 z1 : V) (σ : Objs) : Ro :=
  bd (pu (evLenS z0.nogr.nogr)) fun x3 =>
  bd (pu (evBin .gtr .no x3.nogr (.int .i64 0))) fun x4 =>
  br x4.nogr (
  bd (pu (evIdx (.int .i64 0) z0.nogr.nogr)) fun x5 =>
  bd (M.call 89 [z1.nogr.nogr, x5.nogr] σ) fun p6 =>
  bd (pu (evUn .not p6.1.nogr)) fun x7 =>
  br x7.nogr (
  j_strings_trimLeftASCII_1 M n0 n1 r1 z0 .any p6.2) (
  bd (pu (evCutS z0.nogr.nogr (some (.int .i64 1)) none)) fun x8 =>
  bd (fz n1 p6.2 fzDepth x8.nogr) fun y9 =>
  bd (fz n1 p6.2 fzDepth z1) fun y10 =>
  bd (cutObjs n1 p6.2) fun s11 => r1 [y9, y10] s11)) (
  j_strings_trimLeftASCII_1 M n0 n1 r1 z0 .any σ)
def l_strings_trimLeftASCII_0 (M : Mach) (n0 : Nat) (n1 : Nat) : Rk := M.fx fun rec vs σ => b_strings_trimLeftASCII_0 M n0 n1 rec (vs.getD 0 .undef) (vs.getD 1 .undef) σ
def s_strings_trimLeftASCII (M : Mach) (a0 a1 : V) (σ : Objs) : Ro :=
  bd (fz σ.length σ fzDepth a0) fun y12 =>
  bd (fz σ.length σ fzDepth a1) fun y13 =>
  l_strings_trimLeftASCII_0 M σ.length σ.length [y12, y13] σ
theorem k_strings_trimLeftASCII (M : Mach) (a0 a1 : V) (σ : Objs) : fnK M c_strings_trimLeftASCII [a0, a1] σ = s_strings_trimLeftASCII M a0 a1 σ := by kernel_rfl
def c_strings_trimLeftUnicode : Ev.Fn := ⟨23, [.tmp 4], false, false, (.seq (.ops 0 [⟨(some 4), none, .mv (.c (.str [])) false⟩]) (.seq (.block 0 (.loop [0, 1] [0, 4] (.seq (.seq (.ops 1 [⟨(some 7), none, .mv (.t 0) false⟩, ⟨(some 8), none, .lenS (.t 7)⟩, ⟨(some 9), none, .bin .gtr .no (.t 8) (.c (.int .i64 0))⟩]) (.cond (.t 9) .skip (.exit 0))) (.block 1 (.seq (.ops 2 [⟨(some 11), none, .mv (.t 0) false⟩, ⟨(some 12), none, .call 90 [(.t 11)]⟩, ⟨(some 10), none, .mv (.t 12) false⟩, ⟨(some 13), none, .extr (.t 10) 0⟩, ⟨(some 14), none, .extr (.t 10) 1⟩, ⟨(some 5), none, .mv (.t 13) false⟩, ⟨(some 6), none, .mv (.t 14) false⟩]) (.seq (.seq (.ops 3 [⟨(some 15), none, .mv (.t 1) false⟩, ⟨(some 16), none, .mv (.t 5) false⟩, ⟨(some 17), none, .call 91 [(.t 15), (.t 16)]⟩, ⟨(some 18), none, .un .not (.t 17)⟩]) (.cond (.t 18) (.exit 0) .skip)) (.ops 4 [⟨(some 19), none, .mv (.t 0) false⟩, ⟨(some 20), none, .mv (.t 6) false⟩, ⟨(some 21), none, .cutS (.t 19) (some (.t 20)) none⟩, ⟨(some 0), none, .mv (.t 21) false⟩]))))))) (.seq (.ops 5 [⟨(some 22), none, .mv (.t 0) false⟩, ⟨(some 4), none, .mv (.t 22) false⟩]) .ret)))⟩
theorem ok_c_strings_trimLeftUnicode : chkFn Tryz.prog 56 c_strings_trimLeftUnicode = true := chkFn_of Tryz.func56 (by kernel_rfl)
def j_strings_trimLeftUnicode_0 (M : Mach) (n0 : Nat) (z0 : V) (σ : Objs) : Ro :=
  bd (oneK false z0.nogr.nogr) (endK n0 σ)
def j_strings_trimLeftUnicode_1 (M : Mach) (n0 : Nat) (n1 : Nat) (r1 : Rk) (z0 z4 : V) (σ : Objs) : Ro :=
  bd (fz n1 σ fzDepth z0) fun y0 =>
  bd (fz n1 σ fzDepth z4) fun y1 =>
  bd (cutObjs n1 σ) fun s2 =>
  j_strings_trimLeftUnicode_0 M n0 y0 s2
def b_strings_trimLeftUnicode_0 (M : Mach) (n0 : Nat) (n1 : Nat) (r1 : Rk) (z0 z1 : V) (σ : Objs) : Ro :=
  bd (pu (evLenS z0.nogr.nogr)) fun x3 =>
  bd (pu (evBin .gtr .no x3.nogr (.int .i64 0))) fun x4 =>
  br x4.nogr (
  bd (M.call 90 [z0.nogr.nogr] σ) fun p5 =>
  bd (pu (evExtr 0 p5.1.nogr.nogr)) fun x6 =>
  bd (pu (evExtr 1 p5.1.nogr.nogr)) fun x7 =>
  bd (M.call 91 [z1.nogr.nogr, x6.nogr.nogr.nogr] p5.2) fun p8 =>
  bd (pu (evUn .not p8.1.nogr)) fun x9 =>
  br x9.nogr (
  j_strings_trimLeftUnicode_1 M n0 n1 r1 z0 .any p8.2) (
  bd (pu (evCutS z0.nogr.nogr (some x7.nogr.nogr.nogr) none)) fun x10 =>
  bd (fz n1 p8.2 fzDepth x10.nogr) fun y11 =>
  bd (fz n1 p8.2 fzDepth z1) fun y12 =>
  bd (cutObjs n1 p8.2) fun s13 => r1 [y11, y12] s13)) (
  j_strings_trimLeftUnicode_1 M n0 n1 r1 z0 .any σ)
def l_strings_trimLeftUnicode_0 (M : Mach) (n0 : Nat) (n1 : Nat) : Rk := M.fx fun rec vs σ => b_strings_trimLeftUnicode_0 M n0 n1 rec (vs.getD 0 .undef) (vs.getD 1 .undef) σ
def s_strings_trimLeftUnicode (M : Mach) (a0 a1 : V) (σ : Objs) : Ro :=
  bd (fz σ.length σ fzDepth a0) fun y14 =>
  bd (fz σ.length σ fzDepth a1) fun y15 =>
  l_strings_trimLeftUnicode_0 M σ.length σ.length [y14, y15] σ
theorem k_strings_trimLeftUnicode (M : Mach) (a0 a1 : V) (σ : Objs) : fnK M c_strings_trimLeftUnicode [a0, a1] σ = s_strings_trimLeftUnicode M a0 a1 σ := by kernel_rfl
def c_wattleref04_skip : Ev.Fn := ⟨20, [.tmp 4], false, false, (.seq (.ops 0 [⟨(some 4), none, .mv (.c (.int .i64 0)) false⟩]) (.seq (.block 0 (.loop [0, 1] [1, 4] (.seq (.seq (.ops 1 [⟨(some 5), none, .mv (.t 1) false⟩, ⟨(some 6), none, .mv (.t 0) false⟩, ⟨(some 7), none, .len (.t 6)⟩, ⟨(some 8), none, .bin .lss .no (.t 5) (.t 7)⟩, ⟨(some 9), none, .mv (.t 8) false⟩, ⟨(some 10), (some (9, true)), .mv (.t 0) false⟩, ⟨(some 11), (some (9, true)), .mv (.t 1) false⟩, ⟨(some 12), (some (9, true)), .iaddr 6 (.t 10) (.t 11)⟩, ⟨(some 13), (some (9, true)), .faddr 0 (.t 12)⟩, ⟨(some 14), (some (9, true)), .load false 1 (.t 13)⟩, ⟨(some 15), (some (9, true)), .bin .eql .no (.t 14) (.c (.int .i64 13))⟩, ⟨(some 16), none, .pick (.t 9) (.t 15) (.c (.bool false))⟩]) (.cond (.t 16) .skip (.exit 0))) (.block 1 (.ops 2 [⟨(some 17), none, .mv (.t 1) false⟩, ⟨(some 18), none, .bin .add .no (.t 17) (.c (.int .i64 1))⟩, ⟨(some 1), none, .mv (.t 18) false⟩]))))) (.seq (.ops 3 [⟨(some 19), none, .mv (.t 1) false⟩, ⟨(some 4), none, .mv (.t 19) false⟩]) .ret)))⟩
theorem ok_c_wattleref04_skip : chkFn Tryz.prog 59 c_wattleref04_skip = true := chkFn_of Tryz.func59 (by kernel_rfl)
def b_wattleref04_skip_0 (M : Mach) (n0 : Nat) (n1 : Nat) (r1 : Rk) (z0 z1 : V) (σ : Objs) : Ro :=
  bd (pu (evLen z0.nogr.nogr)) fun x0 =>
  bd (pu (evBin .lss .no z1.nogr.nogr x0.nogr)) fun x1 =>
  bd (gdv x1.nogr true (some z0.nogr)) fun x2 =>
  bd (gdv x1.nogr true (some z1.nogr)) fun x3 =>
  bd (gdv x1.nogr true (pu (evIaddr 6 x3.nogr x2.nogr))) fun x4 =>
  bd (gdv x1.nogr true (pu (evFaddr 0 x4.nogr))) fun x5 =>
  bd (gdv x1.nogr true (pu (evLoad σ false 1 x5.nogr))) fun x6 =>
  bd (gdv x1.nogr true (pu (evBin .eql .no x6.nogr (.int .i64 13)))) fun x7 =>
  bd (pu (pickV x1.nogr.nogr x7.nogr (.bool false))) fun x8 =>
  br x8.nogr (
  bd (pu (evBin .add .no z1.nogr.nogr (.int .i64 1))) fun x9 =>
  bd (fz n1 σ fzDepth z0) fun y10 =>
  bd (fz n1 σ fzDepth x9.nogr) fun y11 =>
  bd (cutObjs n1 σ) fun s12 => r1 [y10, y11] s12) (
  bd (fz n1 σ fzDepth z1) fun y13 =>
  bd (fz n1 σ fzDepth .any) fun y14 =>
  bd (cutObjs n1 σ) fun s15 =>
  bd (oneK false y13.nogr.nogr) (endK n0 s15))
def l_wattleref04_skip_0 (M : Mach) (n0 : Nat) (n1 : Nat) : Rk := M.fx fun rec vs σ => b_wattleref04_skip_0 M n0 n1 rec (vs.getD 0 .undef) (vs.getD 1 .undef) σ
def s_wattleref04_skip (M : Mach) (a0 a1 : V) (σ : Objs) : Ro :=
  bd (fz σ.length σ fzDepth a0) fun y16 =>
  bd (fz σ.length σ fzDepth a1) fun y17 =>
  l_wattleref04_skip_0 M σ.length σ.length [y16, y17] σ
theorem k_wattleref04_skip (M : Mach) (a0 a1 : V) (σ : Objs) : fnK M c_wattleref04_skip [a0, a1] σ = s_wattleref04_skip M a0 a1 σ := by kernel_rfl
def c_wattleref02_Lower : Ev.Fn := ⟨23, [.tmp 2], false, false, (.seq (.ops 0 [⟨(some 2), none, .mv (.c (.str [])) false⟩]) (.seq (.ops 1 [⟨(some 5), none, .buildSl false 1 0 .any [] false⟩, ⟨(some 3), none, .mv (.t 5) true⟩]) (.seq (.seq (.ops 2 [⟨(some 4), none, .mv (.c (.int .i64 0)) false⟩]) (.block 0 (.loop [0, 3, 4] [2, 3] (.seq (.seq (.ops 3 [⟨(some 6), none, .mv (.t 4) false⟩, ⟨(some 7), none, .mv (.t 0) false⟩, ⟨(some 8), none, .lenS (.t 7)⟩, ⟨(some 9), none, .bin .lss .no (.t 6) (.t 8)⟩]) (.cond (.t 9) .skip (.exit 0))) (.seq (.block 1 (.ops 5 [⟨(some 12), none, .mv (.t 3) true⟩, ⟨(some 13), none, .mv (.t 0) false⟩, ⟨(some 14), none, .mv (.t 4) false⟩, ⟨(some 15), none, .idx (.t 13) (.t 14)⟩, ⟨(some 16), none, .conv (.toInt .i64) (.t 15)⟩, ⟨(some 17), none, .call 92 [(.t 16)]⟩, ⟨(some 18), none, .conv (.toInt .u8) (.t 17)⟩, ⟨(some 19), none, .buildSl false 1 1 (.int .u8 0) [(0, (.t 18))] false⟩, ⟨(some 20), none, .app false false 1 1 (.t 12) (.t 19) true⟩, ⟨(some 3), none, .mv (.t 20) true⟩])) (.ops 4 [⟨(some 10), none, .mv (.t 4) false⟩, ⟨(some 11), none, .bin .add .no (.t 10) (.c (.int .i64 1))⟩, ⟨(some 4), none, .mv (.t 11) false⟩])))))) (.seq (.ops 6 [⟨(some 21), none, .mv (.t 3) true⟩, ⟨(some 22), none, .conv .bytesStr (.t 21)⟩, ⟨(some 2), none, .mv (.t 22) false⟩]) .ret))))⟩
theorem ok_c_wattleref02_Lower : chkFn Tryz.prog 60 c_wattleref02_Lower = true := chkFn_of Tryz.func60 (by kernel_rfl)
def b_wattleref02_Lower_0 (M : Mach) (n0 : Nat) (n1 : Nat) (r1 : Rk) (z0 z3 z4 : V) (σ : Objs) : Ro :=
  bd (pu (evLenS z0.nogr.nogr)) fun x1 =>
  bd (pu (evBin .lss .no z4.nogr.nogr x1.nogr)) fun x2 =>
  br x2.nogr (
  bd (pu (evIdx z4.nogr.nogr z0.nogr.nogr)) fun x3 =>
  bd (pu (evConv σ (.toInt .i64) x3.nogr)) fun x4 =>
  bd (M.call 92 [x4.nogr] σ) fun p5 =>
  bd (pu (evConv p5.2 (.toInt .u8) p5.1.nogr)) fun x6 =>
  bd (buildFV false 1 1 (.int .u8 0) [(0, x6.nogr)]) fun x7 =>
  bd (appV false false 1 1 p5.2 z3 x7.nogr) fun x8 =>
  bd (pu (evBin .add .no z4.nogr.nogr (.int .i64 1))) fun x9 =>
  bd (fz n1 p5.2 fzDepth z0) fun y10 =>
  bd (fz n1 p5.2 fzDepth x8) fun y11 =>
  bd (fz n1 p5.2 fzDepth x9.nogr) fun y12 =>
  bd (cutObjs n1 p5.2) fun s13 => r1 [y10, y11, y12] s13) (
  bd (fz n1 σ fzDepth .any) fun y14 =>
  bd (fz n1 σ fzDepth z3) fun y15 =>
  bd (cutObjs n1 σ) fun s16 =>
  bd (pu (evConv s16 .bytesStr y15.nogr)) fun x17 =>
  bd (oneK false x17.nogr) (endK n0 s16))
def l_wattleref02_Lower_0 (M : Mach) (n0 : Nat) (n1 : Nat) : Rk := M.fx fun rec vs σ => b_wattleref02_Lower_0 M n0 n1 rec (vs.getD 0 .undef) (vs.getD 1 .undef) (vs.getD 2 .undef) σ
def s_wattleref02_Lower (M : Mach) (a0 : V) (σ : Objs) : Ro :=
  bd (buildFV false 1 0 .any []) fun x0 =>
  bd (fz σ.length σ fzDepth a0) fun y18 =>
  bd (fz σ.length σ fzDepth x0) fun y19 =>
  bd (fz σ.length σ fzDepth (.int .i64 0)) fun y20 =>
  l_wattleref02_Lower_0 M σ.length σ.length [y18, y19, y20] σ
theorem k_wattleref02_Lower (M : Mach) (a0 : V) (σ : Objs) : fnK M c_wattleref02_Lower [a0] σ = s_wattleref02_Lower M a0 σ := by kernel_rfl
def c_wattleref04_heads : Ev.Fn := ⟨91, [.tmp 4, .tmp 5, .tmp 6], false, false, (.seq (.ops 0 [⟨(some 4), none, .mv (.c (.str [])) false⟩, ⟨(some 5), none, .mv (.c (.str [])) false⟩, ⟨(some 6), none, .mv (.c (.int .i64 0)) false⟩]) (.seq (.seq (.ops 1 [⟨(some 11), none, .mv (.t 1) false⟩, ⟨(some 12), none, .mv (.t 0) false⟩, ⟨(some 13), none, .len (.t 12)⟩, ⟨(some 14), none, .bin .geq .no (.t 11) (.t 13)⟩]) (.cond (.t 14) (.seq (.ops 2 [⟨(some 4), none, .mv (.c (.str [])) false⟩, ⟨(some 5), none, .mv (.c (.str [])) false⟩, ⟨(some 6), none, .mv (.c (.int .i64 (-1))) false⟩]) .ret) .skip)) (.seq (.ops 3 [⟨(some 15), none, .mv (.t 0) false⟩, ⟨(some 16), none, .mv (.t 1) false⟩, ⟨(some 17), none, .iaddr 6 (.t 15) (.t 16)⟩, ⟨(some 18), none, .load true 6 (.t 17)⟩, ⟨(some 7), none, .alloc [(.int .i64 0), (.int .i64 0), (.int .i64 0), (.str []), (.str []), (.bool false)]⟩, ⟨none, none, .store 6 (.t 7) (.t 18) false⟩]) (.seq (.ops 4 [⟨(some 19), none, .faddr 3 (.t 7)⟩, ⟨(some 20), none, .load false 1 (.t 19)⟩, ⟨(some 21), none, .call 60 [(.t 20)]⟩, ⟨(some 22), none, .mv (.t 1) false⟩, ⟨(some 23), none, .bin .add .no (.t 22) (.c (.int .i64 1))⟩, ⟨(some 8), none, .mv (.c (.str [49])) false⟩, ⟨(some 9), none, .mv (.t 21) false⟩, ⟨(some 10), none, .mv (.t 23) false⟩]) (.seq (.seq (.ops 5 [⟨(some 24), none, .faddr 0 (.t 7)⟩, ⟨(some 25), none, .load false 1 (.t 24)⟩, ⟨(some 26), none, .bin .eql .no (.t 25) (.c (.int .i64 9))⟩, ⟨(some 27), none, .mv (.t 26) false⟩, ⟨(some 28), (some (27, true)), .faddr 3 (.t 7)⟩, ⟨(some 29), (some (27, true)), .load false 1 (.t 28)⟩, ⟨(some 30), (some (27, true)), .bin .eql .no (.t 29) (.c (.str [43]))⟩, ⟨(some 31), none, .pick (.t 27) (.t 30) (.c (.bool false))⟩, ⟨(some 32), none, .mv (.t 31) false⟩, ⟨(some 33), (some (32, true)), .mv (.t 1) false⟩, ⟨(some 34), (some (32, true)), .bin .add .no (.t 33) (.c (.int .i64 1))⟩, ⟨(some 35), (some (32, true)), .mv (.t 0) false⟩, ⟨(some 36), (some (32, true)), .len (.t 35)⟩, ⟨(some 37), (some (32, true)), .bin .lss .no (.t 34) (.t 36)⟩, ⟨(some 38), none, .pick (.t 32) (.t 37) (.c (.bool false))⟩, ⟨(some 39), none, .mv (.t 38) false⟩, ⟨(some 40), (some (39, true)), .mv (.t 0) false⟩, ⟨(some 41), (some (39, true)), .mv (.t 1) false⟩, ⟨(some 42), (some (39, true)), .bin .add .no (.t 41) (.c (.int .i64 1))⟩, ⟨(some 43), (some (39, true)), .iaddr 6 (.t 40) (.t 42)⟩, ⟨(some 44), (some (39, true)), .faddr 0 (.t 43)⟩, ⟨(some 45), (some (39, true)), .load false 1 (.t 44)⟩, ⟨(some 46), (some (39, true)), .bin .eql .no (.t 45) (.c (.int .i64 1))⟩, ⟨(some 47), none, .pick (.t 39) (.t 46) (.c (.bool false))⟩]) (.cond (.t 47) (.seq (.ops 6 [⟨(some 48), none, .mv (.t 0) true⟩, ⟨(some 49), none, .mv (.t 1) false⟩, ⟨(some 50), none, .bin .add .no (.t 49) (.c (.int .i64 1))⟩, ⟨(some 51), none, .iaddr 6 (.t 48) (.t 50)⟩, ⟨(some 52), none, .faddr 3 (.t 51)⟩, ⟨(some 53), none, .load false 1 (.t 52)⟩, ⟨(some 54), none, .call 60 [(.t 53)]⟩, ⟨(some 9), none, .mv (.t 54) false⟩]) (.ops 7 [⟨(some 55), none, .mv (.t 1) false⟩, ⟨(some 56), none, .bin .add .no (.t 55) (.c (.int .i64 2))⟩, ⟨(some 10), none, .mv (.t 56) false⟩])) (.seq (.ops 8 [⟨(some 57), none, .faddr 0 (.t 7)⟩, ⟨(some 58), none, .load false 1 (.t 57)⟩, ⟨(some 59), none, .bin .eql .no (.t 58) (.c (.int .i64 12))⟩, ⟨(some 60), none, .mv (.t 59) false⟩, ⟨(some 61), (some (60, true)), .faddr 5 (.t 7)⟩, ⟨(some 62), (some (60, true)), .load false 1 (.t 61)⟩, ⟨(some 63), none, .pick (.t 60) (.t 62) (.c (.bool false))⟩]) (.cond (.t 63) (.ops 9 [⟨(some 64), none, .faddr 4 (.t 7)⟩, ⟨(some 65), none, .load false 1 (.t 64)⟩, ⟨(some 8), none, .mv (.t 65) false⟩]) (.seq (.ops 10 [⟨(some 66), none, .faddr 0 (.t 7)⟩, ⟨(some 67), none, .load false 1 (.t 66)⟩, ⟨(some 68), none, .bin .neq .no (.t 67) (.c (.int .i64 1))⟩]) (.cond (.t 68) (.seq (.ops 11 [⟨(some 4), none, .mv (.c (.str [])) false⟩, ⟨(some 5), none, .mv (.c (.str [])) false⟩, ⟨(some 6), none, .mv (.c (.int .i64 (-1))) false⟩]) .ret) (.seq (.ops 12 [⟨(some 69), none, .mv (.t 9) false⟩, ⟨(some 70), none, .lenS (.t 69)⟩, ⟨(some 71), none, .bin .gtr .no (.t 70) (.c (.int .i64 0))⟩, ⟨(some 72), none, .mv (.t 71) false⟩, ⟨(some 73), (some (72, true)), .mv (.t 9) false⟩, ⟨(some 74), (some (72, true)), .idx (.t 73) (.c (.int .i64 0))⟩, ⟨(some 75), (some (72, true)), .bin .eql .no (.t 74) (.c (.int .u8 45))⟩, ⟨(some 76), none, .pick (.t 72) (.t 75) (.c (.bool false))⟩]) (.cond (.t 76) (.seq (.ops 13 [⟨(some 8), none, .mv (.c (.str [45, 49])) false⟩]) (.ops 14 [⟨(some 77), none, .mv (.t 9) false⟩, ⟨(some 78), none, .cutS (.t 77) (some (.c (.int .i64 1))) none⟩, ⟨(some 9), none, .mv (.t 78) false⟩])) .skip)))))))) (.seq (.seq (.ops 15 [⟨(some 79), none, .mv (.t 9) false⟩, ⟨(some 80), none, .lenS (.t 79)⟩, ⟨(some 81), none, .bin .eql .no (.t 80) (.c (.int .i64 0))⟩, ⟨(some 82), none, .mv (.t 81) false⟩, ⟨(some 83), (some (82, false)), .mv (.t 9) false⟩, ⟨(some 84), (some (82, false)), .idx (.t 83) (.c (.int .i64 0))⟩, ⟨(some 85), (some (82, false)), .bin .neq .no (.t 84) (.c (.int .u8 110))⟩, ⟨(some 86), none, .pick (.t 82) (.c (.bool true)) (.t 85)⟩]) (.cond (.t 86) (.seq (.ops 16 [⟨(some 4), none, .mv (.c (.str [])) false⟩, ⟨(some 5), none, .mv (.c (.str [])) false⟩, ⟨(some 6), none, .mv (.c (.int .i64 (-1))) false⟩]) .ret) .skip)) (.seq (.drw 17 [⟨⟨(some 87), none, .mv (.t 8) false⟩, 0, []⟩, ⟨⟨(some 88), none, .mv (.t 9) false⟩, 1, []⟩, ⟨⟨(some 89), none, .cutS (.t 88) (some (.c (.int .i64 1))) none⟩, 2, []⟩, ⟨⟨(some 90), none, .mv (.t 10) false⟩, 3, []⟩, ⟨⟨(some 4), none, .mv (.t 87) false⟩, 4, []⟩, ⟨⟨(some 5), none, .mv (.t 89) false⟩, 5, []⟩, ⟨⟨(some 6), none, .mv (.t 90) false⟩, 6, []⟩]) .ret)))))))⟩
theorem ok_c_wattleref04_heads : chkFn Tryz.prog 61 c_wattleref04_heads = true := chkFn_of Tryz.func61 (by kernel_rfl)
def j_wattleref04_heads_0 (M : Mach) (n0 : Nat) (z8 z9 z10 : V) (σ : Objs) : Ro :=
  bd (pu (evLenS z9.nogr.nogr)) fun x10 =>
  bd (pu (evBin .eql .no x10.nogr (.int .i64 0))) fun x11 =>
  bd (gdv x11.nogr false (some z9.nogr)) fun x12 =>
  bd (gdv x11.nogr false (pu (evIdx (.int .i64 0) x12.nogr))) fun x13 =>
  bd (gdv x11.nogr false (pu (evBin .neq .no x13.nogr (.int .u8 110)))) fun x14 =>
  bd (pu (pickV x11.nogr.nogr (.bool true) x14.nogr)) fun x15 =>
  br x15.nogr (
  endK n0 σ (.tup [(.str []), (.str []), (.int .i64 (-1))])) (
  bd (pu (evCutS z9.nogr.nogr (some (.int .i64 1)) none)) fun x16 =>
  endK n0 σ (.tup [z8.nogr.nogr.nogr, x16.nogr.nogr, z10.nogr.nogr.nogr]))
def s_wattleref04_heads (M : Mach) (a0 a1 : V) (σ : Objs) : Ro :=
  bd (pu (evLen a0.nogr.nogr)) fun x0 =>
  bd (pu (evBin .geq .no a1.nogr.nogr x0.nogr)) fun x1 =>
  br x1.nogr (
  endK σ.length σ (.tup [(.str []), (.str []), (.int .i64 (-1))])) (
  bd (pu (evIaddr 6 a1.nogr.nogr a0.nogr.nogr)) fun x2 =>
  bd (pu (evLoad σ true 6 x2.nogr)) fun x3 =>
  let s4 : Objs := σ ++ [.cells [(.int .i64 0), (.int .i64 0), (.int .i64 0), (.str []), (.str []), (.bool false)]]
  bd (storeV s4 6 (.ptr σ.length 0) x3.nogr x3.nogr) fun p5 =>
  bd (pu (evFaddr 3 (.ptr σ.length 0))) fun x6 =>
  bd (pu (evLoad p5.2 false 1 x6.nogr)) fun x7 =>
  bd (M.call 60 [x7.nogr] p5.2) fun p8 =>
  bd (pu (evBin .add .no a1.nogr.nogr (.int .i64 1))) fun x9 =>
  bd (pu (evFaddr 0 (.ptr σ.length 0))) fun x17 =>
  bd (pu (evLoad p8.2 false 1 x17.nogr)) fun x18 =>
  bd (pu (evBin .eql .no x18.nogr (.int .i64 9))) fun x19 =>
  bd (gdv x19.nogr true (pu (evFaddr 3 (.ptr σ.length 0)))) fun x20 =>
  bd (gdv x19.nogr true (pu (evLoad p8.2 false 1 x20.nogr))) fun x21 =>
  bd (gdv x19.nogr true (pu (evBin .eql .no x21.nogr (.str [43])))) fun x22 =>
  bd (pu (pickV x19.nogr.nogr x22.nogr (.bool false))) fun x23 =>
  bd (gdv x23.nogr true (some a1.nogr)) fun x24 =>
  bd (gdv x23.nogr true (pu (evBin .add .no x24.nogr (.int .i64 1)))) fun x25 =>
  bd (gdv x23.nogr true (some a0.nogr)) fun x26 =>
  bd (gdv x23.nogr true (pu (evLen x26.nogr))) fun x27 =>
  bd (gdv x23.nogr true (pu (evBin .lss .no x25.nogr x27.nogr))) fun x28 =>
  bd (pu (pickV x23.nogr.nogr x28.nogr (.bool false))) fun x29 =>
  bd (gdv x29.nogr true (some a0.nogr)) fun x30 =>
  bd (gdv x29.nogr true (some a1.nogr)) fun x31 =>
  bd (gdv x29.nogr true (pu (evBin .add .no x31.nogr (.int .i64 1)))) fun x32 =>
  bd (gdv x29.nogr true (pu (evIaddr 6 x32.nogr x30.nogr))) fun x33 =>
  bd (gdv x29.nogr true (pu (evFaddr 0 x33.nogr))) fun x34 =>
  bd (gdv x29.nogr true (pu (evLoad p8.2 false 1 x34.nogr))) fun x35 =>
  bd (gdv x29.nogr true (pu (evBin .eql .no x35.nogr (.int .i64 1)))) fun x36 =>
  bd (pu (pickV x29.nogr.nogr x36.nogr (.bool false))) fun x37 =>
  br x37.nogr (
  bd (pu (evBin .add .no a1.nogr.nogr (.int .i64 1))) fun x38 =>
  bd (pu (evIaddr 6 x38.nogr a0.nogr)) fun x39 =>
  bd (pu (evFaddr 3 x39.nogr)) fun x40 =>
  bd (pu (evLoad p8.2 false 1 x40.nogr)) fun x41 =>
  bd (M.call 60 [x41.nogr] p8.2) fun p42 =>
  bd (pu (evBin .add .no a1.nogr.nogr (.int .i64 2))) fun x43 =>
  j_wattleref04_heads_0 M σ.length (.str [49]) p42.1.nogr x43.nogr p42.2) (
  bd (pu (evFaddr 0 (.ptr σ.length 0))) fun x44 =>
  bd (pu (evLoad p8.2 false 1 x44.nogr)) fun x45 =>
  bd (pu (evBin .eql .no x45.nogr (.int .i64 12))) fun x46 =>
  bd (gdv x46.nogr true (pu (evFaddr 5 (.ptr σ.length 0)))) fun x47 =>
  bd (gdv x46.nogr true (pu (evLoad p8.2 false 1 x47.nogr))) fun x48 =>
  bd (pu (pickV x46.nogr.nogr x48.nogr (.bool false))) fun x49 =>
  br x49.nogr (
  bd (pu (evFaddr 4 (.ptr σ.length 0))) fun x50 =>
  bd (pu (evLoad p8.2 false 1 x50.nogr)) fun x51 =>
  j_wattleref04_heads_0 M σ.length x51.nogr p8.1.nogr x9.nogr p8.2) (
  bd (pu (evFaddr 0 (.ptr σ.length 0))) fun x52 =>
  bd (pu (evLoad p8.2 false 1 x52.nogr)) fun x53 =>
  bd (pu (evBin .neq .no x53.nogr (.int .i64 1))) fun x54 =>
  br x54.nogr (
  endK σ.length p8.2 (.tup [(.str []), (.str []), (.int .i64 (-1))])) (
  bd (pu (evLenS p8.1.nogr.nogr.nogr)) fun x55 =>
  bd (pu (evBin .gtr .no x55.nogr (.int .i64 0))) fun x56 =>
  bd (gdv x56.nogr true (some p8.1.nogr.nogr)) fun x57 =>
  bd (gdv x56.nogr true (pu (evIdx (.int .i64 0) x57.nogr))) fun x58 =>
  bd (gdv x56.nogr true (pu (evBin .eql .no x58.nogr (.int .u8 45)))) fun x59 =>
  bd (pu (pickV x56.nogr.nogr x59.nogr (.bool false))) fun x60 =>
  br x60.nogr (
  bd (pu (evCutS p8.1.nogr.nogr.nogr (some (.int .i64 1)) none)) fun x61 =>
  j_wattleref04_heads_0 M σ.length (.str [45, 49]) x61.nogr x9.nogr p8.2) (
  j_wattleref04_heads_0 M σ.length (.str [49]) p8.1.nogr x9.nogr p8.2)))))
theorem k_wattleref04_heads (M : Mach) (a0 a1 : V) (σ : Objs) : fnK M c_wattleref04_heads [a0, a1] σ = s_wattleref04_heads M a0 a1 σ := by kernel_rfl
def c_wattleref04_number : Ev.Fn := ⟨55, [.tmp 6], false, false, (.seq (.ops 0 [⟨(some 6), none, .mv (.c (.bool false)) false⟩]) (.seq (.seq (.ops 1 [⟨(some 8), none, .mv (.t 1) false⟩, ⟨(some 9), none, .mv (.t 0) false⟩, ⟨(some 10), none, .len (.t 9)⟩, ⟨(some 11), none, .bin .geq .no (.t 8) (.t 10)⟩, ⟨(some 12), none, .mv (.t 11) false⟩, ⟨(some 13), (some (12, false)), .mv (.t 0) false⟩, ⟨(some 14), (some (12, false)), .mv (.t 1) false⟩, ⟨(some 15), (some (12, false)), .iaddr 6 (.t 13) (.t 14)⟩, ⟨(some 16), (some (12, false)), .faddr 0 (.t 15)⟩, ⟨(some 17), (some (12, false)), .load false 1 (.t 16)⟩, ⟨(some 18), (some (12, false)), .bin .neq .no (.t 17) (.c (.int .i64 10))⟩, ⟨(some 19), none, .pick (.t 12) (.c (.bool true)) (.t 18)⟩, ⟨(some 20), none, .mv (.t 19) false⟩, ⟨(some 21), (some (20, false)), .mv (.t 0) false⟩, ⟨(some 22), (some (20, false)), .mv (.t 1) false⟩, ⟨(some 23), (some (20, false)), .iaddr 6 (.t 21) (.t 22)⟩, ⟨(some 24), (some (20, false)), .faddr 5 (.t 23)⟩, ⟨(some 25), (some (20, false)), .load false 1 (.t 24)⟩, ⟨(some 26), (some (20, false)), .un .not (.t 25)⟩, ⟨(some 27), none, .pick (.t 20) (.c (.bool true)) (.t 26)⟩, ⟨(some 28), none, .mv (.t 27) false⟩, ⟨(some 29), (some (28, false)), .mv (.t 0) false⟩, ⟨(some 30), (some (28, false)), .mv (.t 1) false⟩, ⟨(some 31), (some (28, false)), .iaddr 6 (.t 29) (.t 30)⟩, ⟨(some 32), (some (28, false)), .faddr 4 (.t 31)⟩, ⟨(some 33), (some (28, false)), .load false 1 (.t 32)⟩, ⟨(some 34), (some (28, false)), .bin .eql .no (.t 33) (.c (.str []))⟩, ⟨(some 35), none, .pick (.t 28) (.c (.bool true)) (.t 34)⟩]) (.cond (.t 35) (.seq (.ops 2 [⟨(some 6), none, .mv (.c (.bool false)) false⟩]) .ret) .skip)) (.seq (.ops 3 [⟨(some 36), none, .mv (.t 0) false⟩, ⟨(some 37), none, .mv (.t 1) false⟩, ⟨(some 38), none, .iaddr 6 (.t 36) (.t 37)⟩, ⟨(some 39), none, .faddr 4 (.t 38)⟩, ⟨(some 40), none, .load false 1 (.t 39)⟩, ⟨(some 41), none, .idx (.t 40) (.c (.int .i64 0))⟩, ⟨(some 42), none, .bin .eql .no (.t 41) (.c (.int .u8 43))⟩, ⟨(some 43), none, .mv (.t 42) false⟩, ⟨(some 44), (some (43, false)), .mv (.t 0) true⟩, ⟨(some 45), (some (43, false)), .mv (.t 1) false⟩, ⟨(some 46), (some (43, false)), .iaddr 6 (.t 44) (.t 45)⟩, ⟨(some 47), (some (43, false)), .faddr 4 (.t 46)⟩, ⟨(some 48), (some (43, false)), .load false 1 (.t 47)⟩, ⟨(some 49), (some (43, false)), .idx (.t 48) (.c (.int .i64 0))⟩, ⟨(some 50), (some (43, false)), .bin .eql .no (.t 49) (.c (.int .u8 45))⟩, ⟨(some 51), none, .pick (.t 43) (.c (.bool true)) (.t 50)⟩, ⟨(some 7), none, .mv (.t 51) false⟩]) (.seq (.ops 4 [⟨(some 52), none, .mv (.t 7) false⟩, ⟨(some 53), none, .mv (.t 2) false⟩, ⟨(some 54), none, .bin .eql .bool (.t 52) (.t 53)⟩, ⟨(some 6), none, .mv (.t 54) false⟩]) .ret))))⟩
theorem ok_c_wattleref04_number : chkFn Tryz.prog 62 c_wattleref04_number = true := chkFn_of Tryz.func62 (by kernel_rfl)
def s_wattleref04_number (M : Mach) (a0 a1 a2 : V) (σ : Objs) : Ro :=
  bd (pu (evLen a0.nogr.nogr)) fun x0 =>
  bd (pu (evBin .geq .no a1.nogr.nogr x0.nogr)) fun x1 =>
  bd (gdv x1.nogr false (some a0.nogr)) fun x2 =>
  bd (gdv x1.nogr false (some a1.nogr)) fun x3 =>
  bd (gdv x1.nogr false (pu (evIaddr 6 x3.nogr x2.nogr))) fun x4 =>
  bd (gdv x1.nogr false (pu (evFaddr 0 x4.nogr))) fun x5 =>
  bd (gdv x1.nogr false (pu (evLoad σ false 1 x5.nogr))) fun x6 =>
  bd (gdv x1.nogr false (pu (evBin .neq .no x6.nogr (.int .i64 10)))) fun x7 =>
  bd (pu (pickV x1.nogr.nogr (.bool true) x7.nogr)) fun x8 =>
  bd (gdv x8.nogr false (some a0.nogr)) fun x9 =>
  bd (gdv x8.nogr false (some a1.nogr)) fun x10 =>
  bd (gdv x8.nogr false (pu (evIaddr 6 x10.nogr x9.nogr))) fun x11 =>
  bd (gdv x8.nogr false (pu (evFaddr 5 x11.nogr))) fun x12 =>
  bd (gdv x8.nogr false (pu (evLoad σ false 1 x12.nogr))) fun x13 =>
  bd (gdv x8.nogr false (pu (evUn .not x13.nogr))) fun x14 =>
  bd (pu (pickV x8.nogr.nogr (.bool true) x14.nogr)) fun x15 =>
  bd (gdv x15.nogr false (some a0.nogr)) fun x16 =>
  bd (gdv x15.nogr false (some a1.nogr)) fun x17 =>
  bd (gdv x15.nogr false (pu (evIaddr 6 x17.nogr x16.nogr))) fun x18 =>
  bd (gdv x15.nogr false (pu (evFaddr 4 x18.nogr))) fun x19 =>
  bd (gdv x15.nogr false (pu (evLoad σ false 1 x19.nogr))) fun x20 =>
  bd (gdv x15.nogr false (pu (evBin .eql .no x20.nogr (.str [])))) fun x21 =>
  bd (pu (pickV x15.nogr.nogr (.bool true) x21.nogr)) fun x22 =>
  br x22.nogr (
  bd (oneK false (.bool false)) (endK σ.length σ)) (
  bd (pu (evIaddr 6 a1.nogr.nogr a0.nogr.nogr)) fun x23 =>
  bd (pu (evFaddr 4 x23.nogr)) fun x24 =>
  bd (pu (evLoad σ false 1 x24.nogr)) fun x25 =>
  bd (pu (evIdx (.int .i64 0) x25.nogr)) fun x26 =>
  bd (pu (evBin .eql .no x26.nogr (.int .u8 43))) fun x27 =>
  gd x27.nogr false (
  bd (gdv x27.nogr false (some a1.nogr)) fun x28 =>
  bd (gdv x27.nogr false (pu (evIaddr 6 x28.nogr a0.nogr))) fun x29 =>
  bd (gdv x27.nogr false (pu (evFaddr 4 x29.nogr))) fun x30 =>
  bd (gdv x27.nogr false (pu (evLoad σ false 1 x30.nogr))) fun x31 =>
  bd (gdv x27.nogr false (pu (evIdx (.int .i64 0) x31.nogr))) fun x32 =>
  bd (gdv x27.nogr false (pu (evBin .eql .no x32.nogr (.int .u8 45)))) fun x33 =>
  bd (pu (pickV x27.nogr.nogr (.bool true) x33.nogr)) fun x34 =>
  bd (pu (evBin .eql .bool x34.nogr.nogr.nogr a2.nogr.nogr)) fun x35 =>
  bd (oneK false x35.nogr) (endK σ.length σ)) (
  bd (gdv x27.nogr false (some a1.nogr)) fun x36 =>
  bd (gdv x27.nogr false (pu (evIaddr 6 x36.nogr .undef))) fun x37 =>
  bd (gdv x27.nogr false (pu (evFaddr 4 x37.nogr))) fun x38 =>
  bd (gdv x27.nogr false (pu (evLoad σ false 1 x38.nogr))) fun x39 =>
  bd (gdv x27.nogr false (pu (evIdx (.int .i64 0) x39.nogr))) fun x40 =>
  bd (gdv x27.nogr false (pu (evBin .eql .no x40.nogr (.int .u8 45)))) fun x41 =>
  bd (pu (pickV x27.nogr.nogr (.bool true) x41.nogr)) fun x42 =>
  bd (pu (evBin .eql .bool x42.nogr.nogr.nogr a2.nogr.nogr)) fun x43 =>
  bd (oneK false x43.nogr) (endK σ.length σ)))
theorem k_wattleref04_number (M : Mach) (a0 a1 a2 : V) (σ : Objs) : fnK M c_wattleref04_number [a0, a1, a2] σ = s_wattleref04_number M a0 a1 a2 σ := by kernel_rfl
def c_wattleref04_digits : Ev.Fn := ⟨19, [.tmp 2], false, false, (.seq (.ops 0 [⟨(some 2), none, .mv (.c (.bool false)) false⟩]) (.seq (.seq (.ops 1 [⟨(some 3), none, .mv (.c (.int .i64 0)) false⟩]) (.block 0 (.loop [0, 3] [0, 2] (.seq (.seq (.ops 2 [⟨(some 4), none, .mv (.t 3) false⟩, ⟨(some 5), none, .mv (.t 0) false⟩, ⟨(some 6), none, .lenS (.t 5)⟩, ⟨(some 7), none, .bin .lss .no (.t 4) (.t 6)⟩]) (.cond (.t 7) .skip (.exit 0))) (.seq (.block 1 (.seq (.ops 4 [⟨(some 10), none, .mv (.t 0) false⟩, ⟨(some 11), none, .mv (.t 3) false⟩, ⟨(some 12), none, .idx (.t 10) (.t 11)⟩, ⟨(some 13), none, .conv (.toInt .i64) (.t 12)⟩, ⟨(some 14), none, .call 38 [(.t 13)]⟩, ⟨(some 15), none, .un .not (.t 14)⟩]) (.cond (.t 15) (.seq (.ops 5 [⟨(some 2), none, .mv (.c (.bool false)) false⟩]) .ret) .skip))) (.ops 3 [⟨(some 8), none, .mv (.t 3) false⟩, ⟨(some 9), none, .bin .add .no (.t 8) (.c (.int .i64 1))⟩, ⟨(some 3), none, .mv (.t 9) false⟩])))))) (.seq (.ops 6 [⟨(some 16), none, .mv (.t 0) false⟩, ⟨(some 17), none, .lenS (.t 16)⟩, ⟨(some 18), none, .bin .gtr .no (.t 17) (.c (.int .i64 0))⟩, ⟨(some 2), none, .mv (.t 18) false⟩]) .ret)))⟩
theorem ok_c_wattleref04_digits : chkFn Tryz.prog 63 c_wattleref04_digits = true := chkFn_of Tryz.func63 (by kernel_rfl)
def b_wattleref04_digits_0 (M : Mach) (n0 : Nat) (n1 : Nat) (r1 : Rk) (z0 z3 : V) (σ : Objs) : Ro :=
  bd (pu (evLenS z0.nogr.nogr)) fun x0 =>
  bd (pu (evBin .lss .no z3.nogr.nogr x0.nogr)) fun x1 =>
  br x1.nogr (
  bd (pu (evIdx z3.nogr.nogr z0.nogr.nogr)) fun x2 =>
  bd (pu (evConv σ (.toInt .i64) x2.nogr)) fun x3 =>
  bd (M.call 38 [x3.nogr] σ) fun p4 =>
  bd (pu (evUn .not p4.1.nogr)) fun x5 =>
  br x5.nogr (
  bd (fz n1 p4.2 fzDepth z0) fun y6 =>
  bd (fz n1 p4.2 fzDepth (.bool false)) fun y7 =>
  bd (cutObjs n1 p4.2) fun s8 =>
  bd (oneK false y7) (endK n0 s8)) (
  bd (pu (evBin .add .no z3.nogr.nogr (.int .i64 1))) fun x9 =>
  bd (fz n1 p4.2 fzDepth z0) fun y10 =>
  bd (fz n1 p4.2 fzDepth x9.nogr) fun y11 =>
  bd (cutObjs n1 p4.2) fun s12 => r1 [y10, y11] s12)) (
  bd (fz n1 σ fzDepth z0) fun y13 =>
  bd (fz n1 σ fzDepth .any) fun y14 =>
  bd (cutObjs n1 σ) fun s15 =>
  bd (pu (evLenS y13.nogr.nogr)) fun x16 =>
  bd (pu (evBin .gtr .no x16.nogr (.int .i64 0))) fun x17 =>
  bd (oneK false x17.nogr) (endK n0 s15))
def l_wattleref04_digits_0 (M : Mach) (n0 : Nat) (n1 : Nat) : Rk := M.fx fun rec vs σ => b_wattleref04_digits_0 M n0 n1 rec (vs.getD 0 .undef) (vs.getD 1 .undef) σ
def s_wattleref04_digits (M : Mach) (a0 : V) (σ : Objs) : Ro :=
  bd (fz σ.length σ fzDepth a0) fun y18 =>
  bd (fz σ.length σ fzDepth (.int .i64 0)) fun y19 =>
  l_wattleref04_digits_0 M σ.length σ.length [y18, y19] σ
theorem k_wattleref04_digits (M : Mach) (a0 : V) (σ : Objs) : fnK M c_wattleref04_digits [a0] σ = s_wattleref04_digits M a0 σ := by kernel_rfl
def c_internal_strconv_Itoa : Ev.Fn := ⟨5, [.tmp 2], false, false, (.seq (.ops 0 [⟨(some 2), none, .mv (.c (.str [])) false⟩]) (.seq (.ops 1 [⟨(some 3), none, .mv (.t 0) false⟩, ⟨(some 4), none, .call 95 [(.t 3), (.c (.int .i64 10))]⟩, ⟨(some 2), none, .mv (.t 4) false⟩]) .ret))⟩
theorem ok_c_internal_strconv_Itoa : chkFn Tryz.prog 68 c_internal_strconv_Itoa = true := chkFn_of Tryz.func68 (by kernel_rfl)
def s_internal_strconv_Itoa (M : Mach) (a0 : V) (σ : Objs) : Ro :=
  bd (M.call 95 [a0.nogr.nogr, (.int .i64 10)] σ) fun p0 =>
  bd (oneK false p0.1.nogr) (endK σ.length p0.2)
theorem k_internal_strconv_Itoa (M : Mach) (a0 : V) (σ : Objs) : fnK M c_internal_strconv_Itoa [a0] σ = s_internal_strconv_Itoa M a0 σ := by kernel_rfl
def c_wattleref02_Digits : Ev.Fn := ⟨24, [.tmp 4], false, false, (.seq (.ops 0 [⟨(some 4), none, .mv (.c (.str [])) false⟩]) (.seq (.ops 1 [⟨(some 5), none, .mv (.c (.str [48, 49, 50, 51, 52, 53, 54, 55, 56, 57, 97, 98, 99, 100, 101, 102])) false⟩, ⟨(some 6), none, .mv (.c (.str [])) false⟩]) (.block 0 (.loop [0, 1, 5, 6] [4] (.block 1 (.seq (.drw 2 [⟨⟨(some 7), none, .mv (.t 5) false⟩, 0, []⟩, ⟨⟨(some 8), none, .mv (.t 0) false⟩, 1, []⟩, ⟨⟨(some 9), none, .mv (.t 1) false⟩, 2, []⟩, ⟨⟨(some 10), none, .bin .rem .no (.t 8) (.t 9)⟩, 3, []⟩, ⟨⟨(some 11), none, .mv (.t 0) false⟩, 4, []⟩, ⟨⟨(some 12), none, .mv (.t 1) false⟩, 5, []⟩, ⟨⟨(some 13), none, .bin .rem .no (.t 11) (.t 12)⟩, 6, []⟩, ⟨⟨(some 14), none, .bin .add .no (.t 13) (.c (.int .i64 1))⟩, 7, []⟩, ⟨⟨(some 15), none, .cutS (.t 7) (some (.t 10)) (some (.t 14))⟩, 8, []⟩, ⟨⟨(some 16), none, .mv (.t 6) false⟩, 9, []⟩, ⟨⟨(some 17), none, .bin .add .no (.t 15) (.t 16)⟩, 10, []⟩, ⟨⟨(some 6), none, .mv (.t 17) false⟩, 11, []⟩]) (.seq (.ops 3 [⟨(some 18), none, .mv (.t 0) false⟩, ⟨(some 19), none, .mv (.t 1) false⟩, ⟨(some 20), none, .bin .quo .no (.t 18) (.t 19)⟩, ⟨(some 0), none, .mv (.t 20) false⟩]) (.seq (.ops 4 [⟨(some 21), none, .mv (.t 0) false⟩, ⟨(some 22), none, .bin .eql .no (.t 21) (.c (.int .i64 0))⟩]) (.cond (.t 22) (.seq (.ops 5 [⟨(some 23), none, .mv (.t 6) false⟩, ⟨(some 4), none, .mv (.t 23) false⟩]) .ret) .skip)))))))))⟩
theorem ok_c_wattleref02_Digits : chkFn Tryz.prog 69 c_wattleref02_Digits = true := chkFn_of Tryz.func69 (by kernel_rfl)
def b_wattleref02_Digits_0 (M : Mach) (n0 : Nat) (n1 : Nat) (r1 : Rk) (z0 z1 z5 z6 : V) (σ : Objs) : Ro :=
  bd (pu (evBin .rem .no z0.nogr.nogr z1.nogr.nogr)) fun x0 =>
  bd (pu (evBin .rem .no z0.nogr.nogr z1.nogr.nogr)) fun x1 =>
  bd (pu (evBin .add .no x1.nogr (.int .i64 1))) fun x2 =>
  bd (pu (evCutS z5.nogr.nogr (some x0.nogr) (some x2.nogr))) fun x3 =>
  bd (pu (evBin .add .no x3.nogr z6.nogr.nogr)) fun x4 =>
  bd (pu (evBin .quo .no z0.nogr.nogr z1.nogr.nogr)) fun x5 =>
  bd (pu (evBin .eql .no x5.nogr.nogr.nogr (.int .i64 0))) fun x6 =>
  br x6.nogr (
  bd (fz n1 σ fzDepth x4.nogr.nogr.nogr) fun y7 =>
  bd (cutObjs n1 σ) fun s8 =>
  bd (oneK false y7) (endK n0 s8)) (
  bd (fz n1 σ fzDepth x5.nogr) fun y9 =>
  bd (fz n1 σ fzDepth z1) fun y10 =>
  bd (fz n1 σ fzDepth z5) fun y11 =>
  bd (fz n1 σ fzDepth x4.nogr) fun y12 =>
  bd (cutObjs n1 σ) fun s13 => r1 [y9, y10, y11, y12] s13)
def l_wattleref02_Digits_0 (M : Mach) (n0 : Nat) (n1 : Nat) : Rk := M.fx fun rec vs σ => b_wattleref02_Digits_0 M n0 n1 rec (vs.getD 0 .undef) (vs.getD 1 .undef) (vs.getD 2 .undef) (vs.getD 3 .undef) σ
def s_wattleref02_Digits (M : Mach) (a0 a1 : V) (σ : Objs) : Ro :=
  bd (fz σ.length σ fzDepth a0) fun y14 =>
  bd (fz σ.length σ fzDepth a1) fun y15 =>
  bd (fz σ.length σ fzDepth (.str [48, 49, 50, 51, 52, 53, 54, 55, 56, 57, 97, 98, 99, 100, 101, 102])) fun y16 =>
  bd (fz σ.length σ fzDepth (.str [])) fun y17 =>
  l_wattleref02_Digits_0 M σ.length σ.length [y14, y15, y16, y17] σ
theorem k_wattleref02_Digits (M : Mach) (a0 a1 : V) (σ : Objs) : fnK M c_wattleref02_Digits [a0, a1] σ = s_wattleref02_Digits M a0 a1 σ := by kernel_rfl
def c_wattleref01_whole : Ev.Fn := ⟨16, [.tmp 2], false, false, (.seq (.ops 0 [⟨(some 2), none, .mv (.c (.bool false)) false⟩]) (.seq (.ops 1 [⟨(some 4), none, .mv (.t 0) false⟩, ⟨(some 5), none, .call 87 [(.t 4)]⟩, ⟨(some 3), none, .mv (.t 5) false⟩]) (.seq (.drw 2 [⟨⟨(some 6), none, .mv (.t 3) false⟩, 0, []⟩, ⟨⟨(some 7), none, .call 51 [(.t 6)]⟩, 1, []⟩, ⟨⟨(some 8), none, .mv (.t 7) false⟩, 2, []⟩, ⟨⟨(some 9), (some (8, true)), .mv (.t 3) false⟩, 3, []⟩, ⟨⟨(some 12), (some (8, true)), .mv (.t 0) true⟩, 6, []⟩, ⟨⟨(some 13), (some (8, true)), .conv .bytesStrN (.t 12)⟩, 7, []⟩, ⟨⟨(some 10), (some (8, true)), .call 103 [(.t 9)]⟩, 4, []⟩, ⟨⟨(some 11), (some (8, true)), .conv .bytesStrN (.t 10)⟩, 5, []⟩, ⟨⟨(some 14), (some (8, true)), .bin .eql .no (.t 11) (.t 13)⟩, 8, []⟩, ⟨⟨(some 15), none, .pick (.t 8) (.t 14) (.c (.bool false))⟩, 9, []⟩, ⟨⟨(some 2), none, .mv (.t 15) false⟩, 10, []⟩]) .ret)))⟩
theorem ok_c_wattleref01_whole : chkFn Tryz.prog 86 c_wattleref01_whole = true := chkFn_of Tryz.func86 (by kernel_rfl)
def s_wattleref01_whole (M : Mach) (a0 : V) (σ : Objs) : Ro :=
  bd (M.call 87 [a0.nogr.nogr] σ) fun p0 =>
  bd (M.call 51 [p0.1.nogr.nogr.nogr] p0.2) fun p1 =>
  bd (gdv p1.1.nogr true (some p0.1.nogr.nogr)) fun x2 =>
  gd p1.1.nogr true (
  bd (gdv p1.1.nogr true (pu (evConv p1.2 .bytesStrN a0.nogr))) fun x3 =>
  bd (gdp p1.1.nogr true (M.call 103 [x2.nogr] p1.2) p1.2) fun p4 =>
  bd (gdv p1.1.nogr true (pu (evConv p4.2 .bytesStrN p4.1.nogr))) fun x5 =>
  bd (gdv p1.1.nogr true (pu (evBin .eql .no x5.nogr x3.nogr))) fun x6 =>
  bd (pu (pickV p1.1.nogr.nogr x6.nogr (.bool false))) fun x7 =>
  bd (oneK false x7.nogr) (endK σ.length p4.2)) (
  bd (gdv p1.1.nogr true (pu (evConv p1.2 .bytesStrN .undef))) fun x8 =>
  bd (gdp p1.1.nogr true (M.call 103 [x2.nogr] p1.2) p1.2) fun p9 =>
  bd (gdv p1.1.nogr true (pu (evConv p9.2 .bytesStrN p9.1.nogr))) fun x10 =>
  bd (gdv p1.1.nogr true (pu (evBin .eql .no x10.nogr x8.nogr))) fun x11 =>
  bd (pu (pickV p1.1.nogr.nogr x11.nogr (.bool false))) fun x12 =>
  bd (oneK false x12.nogr) (endK σ.length p9.2))
theorem k_wattleref01_whole (M : Mach) (a0 : V) (σ : Objs) : fnK M c_wattleref01_whole [a0] σ = s_wattleref01_whole M a0 σ := by kernel_rfl
def c_wattleref01_told : Ev.Fn := ⟨33, [.tmp 2], false, false, (.seq (.ops 0 [⟨(some 2), none, .mv (.c (.int .i64 0)) false⟩]) (.seq (.ops 1 [⟨(some 6), none, .buildSl false 1 5 (.int .i64 0) [(0, (.c (.int .i64 0))), (1, (.c (.int .i64 0))), (2, (.c (.int .i64 192))), (3, (.c (.int .i64 224))), (4, (.c (.int .i64 240)))] false⟩, ⟨(some 3), none, .mv (.t 6) true⟩]) (.seq (.drw 2 [⟨⟨(some 7), none, .mv (.t 0) false⟩, 0, []⟩, ⟨⟨(some 8), none, .iaddr 1 (.t 7) (.c (.int .i64 0))⟩, 1, []⟩, ⟨⟨(some 9), none, .load false 1 (.t 8)⟩, 2, []⟩, ⟨⟨(some 10), none, .conv (.toInt .i64) (.t 9)⟩, 3, []⟩, ⟨⟨(some 11), none, .mv (.t 3) true⟩, 4, []⟩, ⟨⟨(some 12), none, .mv (.t 0) false⟩, 5, []⟩, ⟨⟨(some 13), none, .len (.t 12)⟩, 6, []⟩, ⟨⟨(some 14), none, .iaddr 1 (.t 11) (.t 13)⟩, 7, []⟩, ⟨⟨(some 15), none, .load false 1 (.t 14)⟩, 8, []⟩, ⟨⟨(some 16), none, .bin .sub .no (.t 10) (.t 15)⟩, 9, []⟩, ⟨⟨(some 4), none, .mv (.t 16) false⟩, 10, []⟩]) (.seq (.seq (.ops 3 [⟨(some 5), none, .mv (.c (.int .i64 1)) false⟩]) (.block 0 (.loop [0, 4, 5] [2, 4] (.seq (.seq (.ops 4 [⟨(some 17), none, .mv (.t 5) false⟩, ⟨(some 18), none, .mv (.t 0) false⟩, ⟨(some 19), none, .len (.t 18)⟩, ⟨(some 20), none, .bin .lss .no (.t 17) (.t 19)⟩]) (.cond (.t 20) .skip (.exit 0))) (.seq (.block 1 (.ops 6 [⟨(some 23), none, .mv (.t 4) false⟩, ⟨(some 24), none, .bin .mul .no (.c (.int .i64 64)) (.t 23)⟩, ⟨(some 25), none, .mv (.t 0) false⟩, ⟨(some 26), none, .mv (.t 5) false⟩, ⟨(some 27), none, .iaddr 1 (.t 25) (.t 26)⟩, ⟨(some 28), none, .load false 1 (.t 27)⟩, ⟨(some 29), none, .conv (.toInt .i64) (.t 28)⟩, ⟨(some 30), none, .bin .add .no (.t 24) (.t 29)⟩, ⟨(some 31), none, .bin .sub .no (.t 30) (.c (.int .i64 128))⟩, ⟨(some 4), none, .mv (.t 31) false⟩])) (.ops 5 [⟨(some 21), none, .mv (.t 5) false⟩, ⟨(some 22), none, .bin .add .no (.t 21) (.c (.int .i64 1))⟩, ⟨(some 5), none, .mv (.t 22) false⟩])))))) (.seq (.ops 7 [⟨(some 32), none, .mv (.t 4) false⟩, ⟨(some 2), none, .mv (.t 32) false⟩]) .ret)))))⟩
theorem ok_c_wattleref01_told : chkFn Tryz.prog 87 c_wattleref01_told = true := chkFn_of Tryz.func87 (by kernel_rfl)
def b_wattleref01_told_0 (M : Mach) (n0 : Nat) (n1 : Nat) (r1 : Rk) (z0 z4 z5 : V) (σ : Objs) : Ro :=
  bd (pu (evLen z0.nogr.nogr)) fun x8 =>
  bd (pu (evBin .lss .no z5.nogr.nogr x8.nogr)) fun x9 =>
  br x9.nogr (
  bd (pu (evBin .mul .no (.int .i64 64) z4.nogr.nogr)) fun x10 =>
  bd (pu (evIaddr 1 z5.nogr.nogr z0.nogr.nogr)) fun x11 =>
  bd (pu (evLoad σ false 1 x11.nogr)) fun x12 =>
  bd (pu (evConv σ (.toInt .i64) x12.nogr)) fun x13 =>
  bd (pu (evBin .add .no x10.nogr x13.nogr)) fun x14 =>
  bd (pu (evBin .sub .no x14.nogr (.int .i64 128))) fun x15 =>
  bd (pu (evBin .add .no z5.nogr.nogr (.int .i64 1))) fun x16 =>
  bd (fz n1 σ fzDepth z0) fun y17 =>
  bd (fz n1 σ fzDepth x15.nogr) fun y18 =>
  bd (fz n1 σ fzDepth x16.nogr) fun y19 =>
  bd (cutObjs n1 σ) fun s20 => r1 [y17, y18, y19] s20) (
  bd (fz n1 σ fzDepth .any) fun y21 =>
  bd (fz n1 σ fzDepth z4) fun y22 =>
  bd (cutObjs n1 σ) fun s23 =>
  bd (oneK false y22.nogr.nogr) (endK n0 s23))
def l_wattleref01_told_0 (M : Mach) (n0 : Nat) (n1 : Nat) : Rk := M.fx fun rec vs σ => b_wattleref01_told_0 M n0 n1 rec (vs.getD 0 .undef) (vs.getD 1 .undef) (vs.getD 2 .undef) σ
def s_wattleref01_told (M : Mach) (a0 : V) (σ : Objs) : Ro :=
  bd (buildFV false 1 5 (.int .i64 0) [(0, (.int .i64 0)), (1, (.int .i64 0)), (2, (.int .i64 192)), (3, (.int .i64 224)), (4, (.int .i64 240))]) fun x0 =>
  bd (pu (evIaddr 1 (.int .i64 0) a0.nogr.nogr)) fun x1 =>
  bd (pu (evLoad σ false 1 x1.nogr)) fun x2 =>
  bd (pu (evConv σ (.toInt .i64) x2.nogr)) fun x3 =>
  bd (pu (evLen a0.nogr.nogr)) fun x4 =>
  bd (pu (evIaddr 1 x4.nogr x0.nogr)) fun x5 =>
  bd (pu (evLoad σ false 1 x5.nogr)) fun x6 =>
  bd (pu (evBin .sub .no x3.nogr x6.nogr)) fun x7 =>
  bd (fz σ.length σ fzDepth a0) fun y24 =>
  bd (fz σ.length σ fzDepth x7.nogr) fun y25 =>
  bd (fz σ.length σ fzDepth (.int .i64 1)) fun y26 =>
  l_wattleref01_told_0 M σ.length σ.length [y24, y25, y26] σ
theorem k_wattleref01_told (M : Mach) (a0 : V) (σ : Objs) : fnK M c_wattleref01_told [a0] σ = s_wattleref01_told M a0 σ := by kernel_rfl
def c_wattleref01_begins : Ev.Fn := ⟨21, [.tmp 2], false, false, (.seq (.ops 0 [⟨(some 2), none, .mv (.c (.bool false)) false⟩]) (.seq (.seq (.ops 1 [⟨(some 4), none, .mv (.t 0) false⟩, ⟨(some 5), none, .len (.t 4)⟩, ⟨(some 6), none, .bin .add .no (.t 5) (.c (.int .i64 1))⟩, ⟨(some 3), none, .mv (.t 6) false⟩]) (.block 0 (.loop [0, 3] [2] (.seq (.seq (.ops 2 [⟨(some 7), none, .mv (.t 3) false⟩, ⟨(some 8), none, .bin .leq .no (.t 7) (.c (.int .i64 4))⟩]) (.cond (.t 8) .skip (.exit 0))) (.seq (.block 1 (.seq (.ops 4 [⟨(some 11), none, .mv (.t 0) false⟩, ⟨(some 12), none, .mv (.t 3) false⟩, ⟨(some 13), none, .call 104 [(.t 11), (.c (.int .u8 128)), (.t 12)]⟩, ⟨(some 14), none, .call 86 [(.t 13)]⟩, ⟨(some 15), none, .mv (.t 14) false⟩, ⟨(some 16), (some (15, false)), .mv (.t 0) false⟩, ⟨(some 17), (some (15, false)), .mv (.t 3) false⟩, ⟨(some 18), (some (15, false)), .call 104 [(.t 16), (.c (.int .u8 191)), (.t 17)]⟩, ⟨(some 19), (some (15, false)), .call 86 [(.t 18)]⟩, ⟨(some 20), none, .pick (.t 15) (.c (.bool true)) (.t 19)⟩]) (.cond (.t 20) (.seq (.ops 5 [⟨(some 2), none, .mv (.c (.bool true)) false⟩]) .ret) .skip))) (.ops 3 [⟨(some 9), none, .mv (.t 3) false⟩, ⟨(some 10), none, .bin .add .no (.t 9) (.c (.int .i64 1))⟩, ⟨(some 3), none, .mv (.t 10) false⟩])))))) (.seq (.ops 6 [⟨(some 2), none, .mv (.c (.bool false)) false⟩]) .ret)))⟩
theorem ok_c_wattleref01_begins : chkFn Tryz.prog 88 c_wattleref01_begins = true := chkFn_of Tryz.func88 (by kernel_rfl)
def b_wattleref01_begins_0 (M : Mach) (n0 : Nat) (n1 : Nat) (r1 : Rk) (z0 z3 : V) (σ : Objs) : Ro :=
  bd (pu (evBin .leq .no z3.nogr.nogr (.int .i64 4))) fun x2 =>
  br x2.nogr (
  bd (M.call 104 [z0.nogr.nogr, (.int .u8 128), z3.nogr.nogr] σ) fun p3 =>
  bd (M.call 86 [p3.1.nogr] p3.2) fun p4 =>
  bd (gdv p4.1.nogr false (some z0.nogr)) fun x5 =>
  bd (gdv p4.1.nogr false (some z3.nogr)) fun x6 =>
  bd (gdp p4.1.nogr false (M.call 104 [x5.nogr, (.int .u8 191), x6.nogr] p4.2) p4.2) fun p7 =>
  bd (gdp p4.1.nogr false (M.call 86 [p7.1.nogr] p7.2) p7.2) fun p8 =>
  bd (pu (pickV p4.1.nogr.nogr (.bool true) p8.1.nogr)) fun x9 =>
  br x9.nogr (
  bd (fz n1 p8.2 fzDepth (.bool true)) fun y10 =>
  bd (cutObjs n1 p8.2) fun s11 =>
  bd (oneK false y10) (endK n0 s11)) (
  bd (pu (evBin .add .no z3.nogr.nogr (.int .i64 1))) fun x12 =>
  bd (fz n1 p8.2 fzDepth z0) fun y13 =>
  bd (fz n1 p8.2 fzDepth x12.nogr) fun y14 =>
  bd (cutObjs n1 p8.2) fun s15 => r1 [y13, y14] s15)) (
  bd (fz n1 σ fzDepth .any) fun y16 =>
  bd (cutObjs n1 σ) fun s17 =>
  bd (oneK false (.bool false)) (endK n0 s17))
def l_wattleref01_begins_0 (M : Mach) (n0 : Nat) (n1 : Nat) : Rk := M.fx fun rec vs σ => b_wattleref01_begins_0 M n0 n1 rec (vs.getD 0 .undef) (vs.getD 1 .undef) σ
def s_wattleref01_begins (M : Mach) (a0 : V) (σ : Objs) : Ro :=
  bd (pu (evLen a0.nogr.nogr)) fun x0 =>
  bd (pu (evBin .add .no x0.nogr (.int .i64 1))) fun x1 =>
  bd (fz σ.length σ fzDepth a0) fun y18 =>
  bd (fz σ.length σ fzDepth x1.nogr) fun y19 =>
  l_wattleref01_begins_0 M σ.length σ.length [y18, y19] σ
theorem k_wattleref01_begins (M : Mach) (a0 : V) (σ : Objs) : fnK M c_wattleref01_begins [a0] σ = s_wattleref01_begins M a0 σ := by kernel_rfl
def c_wattleref03_behind : Ev.Fn := ⟨43, [.tmp 4], false, false, (.seq (.ops 0 [⟨(some 4), none, .mv (.c (.int .i64 0)) false⟩]) (.seq (.block 0 (.loop [0, 1] [1, 4] (.seq (.seq (.ops 1 [⟨(some 5), none, .mv (.t 0) false⟩, ⟨(some 6), none, .mv (.t 1) false⟩, ⟨(some 7), none, .call 79 [(.t 5), (.t 6), (.c (.int .i64 47))]⟩, ⟨(some 8), none, .mv (.t 7) false⟩, ⟨(some 9), (some (8, true)), .mv (.t 0) false⟩, ⟨(some 10), (some (8, true)), .mv (.t 1) false⟩, ⟨(some 11), (some (8, true)), .bin .add .no (.t 10) (.c (.int .i64 1))⟩, ⟨(some 12), (some (8, true)), .call 79 [(.t 9), (.t 11), (.c (.int .i64 42))]⟩, ⟨(some 13), none, .pick (.t 8) (.t 12) (.c (.bool false))⟩]) (.cond (.t 13) .skip (.exit 0))) (.block 1 (.seq (.ops 2 [⟨(some 14), none, .mv (.t 1) false⟩, ⟨(some 15), none, .bin .add .no (.t 14) (.c (.int .i64 2))⟩, ⟨(some 1), none, .mv (.t 15) false⟩]) (.seq (.block 2 (.loop [0, 1] [0, 1, 4] (.seq (.seq (.ops 3 [⟨(some 16), none, .mv (.t 1) false⟩, ⟨(some 17), none, .mv (.t 0) false⟩, ⟨(some 18), none, .len (.t 17)⟩, ⟨(some 19), none, .bin .lss .no (.t 16) (.t 18)⟩, ⟨(some 20), none, .mv (.t 19) false⟩, ⟨(some 21), (some (20, true)), .mv (.t 0) false⟩, ⟨(some 22), (some (20, true)), .mv (.t 1) false⟩, ⟨(some 23), (some (20, true)), .call 79 [(.t 21), (.t 22), (.c (.int .i64 42))]⟩, ⟨(some 24), (some (20, true)), .mv (.t 23) false⟩, ⟨(some 25), (some (24, true)), .mv (.t 0) false⟩, ⟨(some 26), (some (24, true)), .mv (.t 1) false⟩, ⟨(some 27), (some (24, true)), .bin .add .no (.t 26) (.c (.int .i64 1))⟩, ⟨(some 28), (some (24, true)), .call 79 [(.t 25), (.t 27), (.c (.int .i64 47))]⟩, ⟨(some 29), (some (20, true)), .pick (.t 24) (.t 28) (.c (.bool false))⟩, ⟨(some 30), (some (20, true)), .un .not (.t 29)⟩, ⟨(some 31), none, .pick (.t 20) (.t 30) (.c (.bool false))⟩]) (.cond (.t 31) .skip (.exit 2))) (.block 3 (.ops 4 [⟨(some 32), none, .mv (.t 1) false⟩, ⟨(some 33), none, .bin .add .no (.t 32) (.c (.int .i64 1))⟩, ⟨(some 1), none, .mv (.t 33) false⟩]))))) (.seq (.ops 5 [⟨(some 34), none, .mv (.t 1) false⟩, ⟨(some 35), none, .bin .add .no (.t 34) (.c (.int .i64 2))⟩, ⟨(some 1), none, .mv (.t 35) false⟩]) (.seq (.ops 6 [⟨(some 36), none, .mv (.t 1) false⟩, ⟨(some 37), none, .mv (.t 0) false⟩, ⟨(some 38), none, .len (.t 37)⟩, ⟨(some 39), none, .bin .gtr .no (.t 36) (.t 38)⟩]) (.cond (.t 39) (.ops 7 [⟨(some 40), none, .mv (.t 0) false⟩, ⟨(some 41), none, .len (.t 40)⟩, ⟨(some 1), none, .mv (.t 41) false⟩]) .skip))))))))) (.seq (.ops 8 [⟨(some 42), none, .mv (.t 1) false⟩, ⟨(some 4), none, .mv (.t 42) false⟩]) .ret)))⟩
theorem ok_c_wattleref03_behind : chkFn Tryz.prog 73 c_wattleref03_behind = true := chkFn_of Tryz.func73 (by kernel_rfl)
def j_wattleref03_behind_0 (M : Mach) (n0 : Nat) (n1 : Nat) (r1 : Rk) (z0 z1 : V) (σ : Objs) : Ro :=
  bd (fz n1 σ fzDepth z0) fun y0 =>
  bd (fz n1 σ fzDepth z1) fun y1 =>
  bd (cutObjs n1 σ) fun s2 => r1 [y0, y1] s2
def b_wattleref03_behind_1 (M : Mach) (n0 : Nat) (n1 : Nat) (r1 : Rk) (n2 : Nat) (r2 : Rk) (z0 z1 : V) (σ : Objs) : Ro :=
  bd (pu (evLen z0.nogr.nogr)) fun x10 =>
  bd (pu (evBin .lss .no z1.nogr.nogr x10.nogr)) fun x11 =>
  bd (gdv x11.nogr true (some z0.nogr)) fun x12 =>
  bd (gdv x11.nogr true (some z1.nogr)) fun x13 =>
  bd (gdp x11.nogr true (M.call 79 [x12.nogr, x13.nogr, (.int .i64 42)] σ) σ) fun p14 =>
  bd (gdv x11.nogr true (some p14.1.nogr)) fun x15 =>
  bd (gdv x15 true (some z0.nogr)) fun x16 =>
  bd (gdv x15 true (some z1.nogr)) fun x17 =>
  bd (gdv x15 true (pu (evBin .add .no x17.nogr (.int .i64 1)))) fun x18 =>
  bd (gdp x15 true (M.call 79 [x16.nogr, x18.nogr, (.int .i64 47)] p14.2) p14.2) fun p19 =>
  bd (gdv x11.nogr true (pu (pickV x15.nogr p19.1.nogr (.bool false)))) fun x20 =>
  bd (gdv x11.nogr true (pu (evUn .not x20.nogr))) fun x21 =>
  bd (pu (pickV x11.nogr.nogr x21.nogr (.bool false))) fun x22 =>
  br x22.nogr (
  bd (pu (evBin .add .no z1.nogr.nogr (.int .i64 1))) fun x23 =>
  bd (fz n2 p19.2 fzDepth z0) fun y24 =>
  bd (fz n2 p19.2 fzDepth x23.nogr) fun y25 =>
  bd (cutObjs n2 p19.2) fun s26 => r2 [y24, y25] s26) (
  bd (fz n2 p19.2 fzDepth z0) fun y27 =>
  bd (fz n2 p19.2 fzDepth z1) fun y28 =>
  bd (fz n2 p19.2 fzDepth .any) fun y29 =>
  bd (cutObjs n2 p19.2) fun s30 =>
  bd (pu (evBin .add .no y28.nogr.nogr (.int .i64 2))) fun x31 =>
  bd (pu (evLen y27.nogr.nogr)) fun x32 =>
  bd (pu (evBin .gtr .no x31.nogr.nogr.nogr x32.nogr)) fun x33 =>
  br x33.nogr (
  bd (pu (evLen y27.nogr.nogr)) fun x34 =>
  j_wattleref03_behind_0 M n0 n1 r1 y27 x34.nogr s30) (
  j_wattleref03_behind_0 M n0 n1 r1 y27 x31.nogr s30))
def l_wattleref03_behind_1 (M : Mach) (n0 : Nat) (n1 : Nat) (r1 : Rk) (n2 : Nat) : Rk := M.fx fun rec vs σ => b_wattleref03_behind_1 M n0 n1 r1 n2 rec (vs.getD 0 .undef) (vs.getD 1 .undef) σ
def b_wattleref03_behind_0 (M : Mach) (n0 : Nat) (n1 : Nat) (r1 : Rk) (z0 z1 : V) (σ : Objs) : Ro :=
  bd (M.call 79 [z0.nogr.nogr, z1.nogr.nogr, (.int .i64 47)] σ) fun p3 =>
  bd (gdv p3.1.nogr true (some z0.nogr)) fun x4 =>
  bd (gdv p3.1.nogr true (some z1.nogr)) fun x5 =>
  bd (gdv p3.1.nogr true (pu (evBin .add .no x5.nogr (.int .i64 1)))) fun x6 =>
  bd (gdp p3.1.nogr true (M.call 79 [x4.nogr, x6.nogr, (.int .i64 42)] p3.2) p3.2) fun p7 =>
  bd (pu (pickV p3.1.nogr.nogr p7.1.nogr (.bool false))) fun x8 =>
  br x8.nogr (
  bd (pu (evBin .add .no z1.nogr.nogr (.int .i64 2))) fun x9 =>
  bd (fz p7.2.length p7.2 fzDepth z0) fun y35 =>
  bd (fz p7.2.length p7.2 fzDepth x9.nogr) fun y36 =>
  l_wattleref03_behind_1 M n0 n1 r1 p7.2.length [y35, y36] p7.2) (
  bd (fz n1 p7.2 fzDepth z1) fun y37 =>
  bd (fz n1 p7.2 fzDepth .any) fun y38 =>
  bd (cutObjs n1 p7.2) fun s39 =>
  bd (oneK false y37.nogr.nogr) (endK n0 s39))
def l_wattleref03_behind_0 (M : Mach) (n0 : Nat) (n1 : Nat) : Rk := M.fx fun rec vs σ => b_wattleref03_behind_0 M n0 n1 rec (vs.getD 0 .undef) (vs.getD 1 .undef) σ
def s_wattleref03_behind (M : Mach) (a0 a1 : V) (σ : Objs) : Ro :=
  bd (fz σ.length σ fzDepth a0) fun y40 =>
  bd (fz σ.length σ fzDepth a1) fun y41 =>
  l_wattleref03_behind_0 M σ.length σ.length [y40, y41] σ
theorem k_wattleref03_behind (M : Mach) (a0 a1 : V) (σ : Objs) : fnK M c_wattleref03_behind [a0, a1] σ = s_wattleref03_behind M a0 a1 σ := by kernel_rfl
def c_wattleref02_Space : Ev.Fn := ⟨13, [.tmp 2], false, false, (.seq (.ops 0 [⟨(some 2), none, .mv (.c (.bool false)) false⟩]) (.seq (.ops 1 [⟨(some 3), none, .mv (.t 0) false⟩, ⟨(some 4), none, .bin .eql .no (.t 3) (.c (.int .i64 32))⟩, ⟨(some 5), none, .mv (.t 4) false⟩, ⟨(some 6), (some (5, false)), .mv (.t 0) false⟩, ⟨(some 7), (some (5, false)), .bin .eql .no (.t 6) (.c (.int .i64 9))⟩, ⟨(some 8), none, .pick (.t 5) (.c (.bool true)) (.t 7)⟩, ⟨(some 9), none, .mv (.t 8) false⟩, ⟨(some 10), (some (9, false)), .mv (.t 0) false⟩, ⟨(some 11), (some (9, false)), .bin .eql .no (.t 10) (.c (.int .i64 10))⟩, ⟨(some 12), none, .pick (.t 9) (.c (.bool true)) (.t 11)⟩, ⟨(some 2), none, .mv (.t 12) false⟩]) .ret))⟩
theorem ok_c_wattleref02_Space : chkFn Tryz.prog 74 c_wattleref02_Space = true := chkFn_of Tryz.func74 (by kernel_rfl)
def s_wattleref02_Space (M : Mach) (a0 : V) (σ : Objs) : Ro :=
  bd (pu (evBin .eql .no a0.nogr.nogr (.int .i64 32))) fun x0 =>
  bd (gdv x0.nogr false (some a0.nogr)) fun x1 =>
  bd (gdv x0.nogr false (pu (evBin .eql .no x1.nogr (.int .i64 9)))) fun x2 =>
  bd (pu (pickV x0.nogr.nogr (.bool true) x2.nogr)) fun x3 =>
  bd (gdv x3.nogr false (some a0.nogr)) fun x4 =>
  bd (gdv x3.nogr false (pu (evBin .eql .no x4.nogr (.int .i64 10)))) fun x5 =>
  bd (pu (pickV x3.nogr.nogr (.bool true) x5.nogr)) fun x6 =>
  bd (oneK false x6.nogr) (endK σ.length σ)
theorem k_wattleref02_Space (M : Mach) (a0 : V) (σ : Objs) : fnK M c_wattleref02_Space [a0] σ = s_wattleref02_Space M a0 σ := by kernel_rfl
def c_wattleref03_space : Ev.Fn := ⟨16, [.tmp 4], false, false, (.seq (.ops 0 [⟨(some 4), none, .mv (.c (.bool false)) false⟩]) (.seq (.ops 1 [⟨(some 5), none, .mv (.t 1) false⟩, ⟨(some 6), none, .mv (.t 0) false⟩, ⟨(some 7), none, .len (.t 6)⟩, ⟨(some 8), none, .bin .lss .no (.t 5) (.t 7)⟩, ⟨(some 9), none, .mv (.t 8) false⟩, ⟨(some 10), (some (9, true)), .mv (.t 0) true⟩, ⟨(some 11), (some (9, true)), .mv (.t 1) false⟩, ⟨(some 12), (some (9, true)), .iaddr 1 (.t 10) (.t 11)⟩, ⟨(some 13), (some (9, true)), .load false 1 (.t 12)⟩, ⟨(some 14), (some (9, true)), .call 74 [(.t 13)]⟩, ⟨(some 15), none, .pick (.t 9) (.t 14) (.c (.bool false))⟩, ⟨(some 4), none, .mv (.t 15) false⟩]) .ret))⟩
theorem ok_c_wattleref03_space : chkFn Tryz.prog 75 c_wattleref03_space = true := chkFn_of Tryz.func75 (by kernel_rfl)
def s_wattleref03_space (M : Mach) (a0 a1 : V) (σ : Objs) : Ro :=
  bd (pu (evLen a0.nogr.nogr)) fun x0 =>
  bd (pu (evBin .lss .no a1.nogr.nogr x0.nogr)) fun x1 =>
  gd x1.nogr true (
  bd (gdv x1.nogr true (some a1.nogr)) fun x2 =>
  bd (gdv x1.nogr true (pu (evIaddr 1 x2.nogr a0.nogr))) fun x3 =>
  bd (gdv x1.nogr true (pu (evLoad σ false 1 x3.nogr))) fun x4 =>
  bd (gdp x1.nogr true (M.call 74 [x4.nogr] σ) σ) fun p5 =>
  bd (pu (pickV x1.nogr.nogr p5.1.nogr (.bool false))) fun x6 =>
  bd (oneK false x6.nogr) (endK σ.length p5.2)) (
  bd (gdv x1.nogr true (some a1.nogr)) fun x7 =>
  bd (gdv x1.nogr true (pu (evIaddr 1 x7.nogr .undef))) fun x8 =>
  bd (gdv x1.nogr true (pu (evLoad σ false 1 x8.nogr))) fun x9 =>
  bd (gdp x1.nogr true (M.call 74 [x9.nogr] σ) σ) fun p10 =>
  bd (pu (pickV x1.nogr.nogr p10.1.nogr (.bool false))) fun x11 =>
  bd (oneK false x11.nogr) (endK σ.length p10.2))
theorem k_wattleref03_space (M : Mach) (a0 a1 : V) (σ : Objs) : fnK M c_wattleref03_space [a0, a1] σ = s_wattleref03_space M a0 a1 σ := by kernel_rfl
def c_wattleref03_quoted : Ev.Fn := ⟨93, [.cell 4 true 6], false, false, (.seq (.ops 0 [⟨(some 4), none, .alloc [(.int .i64 0), (.int .i64 0), (.int .i64 0), (.str []), (.str []), (.bool false)]⟩]) (.seq (.drw 1 [⟨⟨(some 11), none, .mv (.t 1) false⟩, 0, []⟩, ⟨⟨(some 12), none, .build [(.int .i64 0), (.int .i64 0), (.int .i64 0), (.str []), (.str []), (.bool false)] [(0, 1, (.c (.int .i64 5))), (1, 1, (.t 11))]⟩, 1, []⟩, ⟨⟨(some 13), none, .mv (.t 0) false⟩, 2, []⟩, ⟨⟨(some 14), none, .mv (.t 1) false⟩, 3, []⟩, ⟨⟨(some 15), none, .iaddr 1 (.t 13) (.t 14)⟩, 4, []⟩, ⟨⟨(some 16), none, .load false 1 (.t 15)⟩, 5, []⟩, ⟨⟨(some 17), none, .buildSl false 1 0 .any [] false⟩, 6, []⟩, ⟨⟨(some 18), none, .mv (.t 1) false⟩, 7, []⟩, ⟨⟨(some 19), none, .bin .add .no (.t 18) (.c (.int .i64 1))⟩, 8, []⟩, ⟨⟨(some 5), none, .alloc [(.int .i64 0), (.int .i64 0), (.int .i64 0), (.str []), (.str []), (.bool false)]⟩, 9, []⟩, ⟨⟨none, none, .store 6 (.t 5) (.t 12) false⟩, 10, [5]⟩, ⟨⟨(some 6), none, .mv (.t 16) false⟩, 11, []⟩, ⟨⟨(some 7), none, .mv (.t 17) true⟩, 12, []⟩, ⟨⟨(some 8), none, .mv (.t 19) false⟩, 13, []⟩]) (.seq (.block 0 (.loop [0, 1, 4, 5, 6, 7, 8] [0, 4, 5, 7, 8] (.seq (.seq (.ops 2 [⟨(some 20), none, .mv (.t 8) false⟩, ⟨(some 21), none, .mv (.t 0) false⟩, ⟨(some 22), none, .len (.t 21)⟩, ⟨(some 23), none, .bin .lss .no (.t 20) (.t 22)⟩, ⟨(some 24), none, .mv (.t 23) false⟩, ⟨(some 25), (some (24, true)), .mv (.t 0) false⟩, ⟨(some 26), (some (24, true)), .mv (.t 8) false⟩, ⟨(some 27), (some (24, true)), .iaddr 1 (.t 25) (.t 26)⟩, ⟨(some 28), (some (24, true)), .load false 1 (.t 27)⟩, ⟨(some 29), (some (24, true)), .mv (.t 6) false⟩, ⟨(some 30), (some (24, true)), .bin .neq .no (.t 28) (.t 29)⟩, ⟨(some 31), none, .pick (.t 24) (.t 30) (.c (.bool false))⟩]) (.cond (.t 31) .skip (.exit 0))) (.block 1 (.seq (.seq (.ops 3 [⟨(some 32), none, .mv (.t 0) false⟩, ⟨(some 33), none, .mv (.t 8) false⟩, ⟨(some 34), none, .iaddr 1 (.t 32) (.t 33)⟩, ⟨(some 35), none, .load false 1 (.t 34)⟩, ⟨(some 36), none, .bin .eql .no (.t 35) (.c (.int .i64 10))⟩]) (.cond (.t 36) (.seq (.ops 4 [⟨(some 37), none, .mv (.t 1) false⟩, ⟨(some 38), none, .mv (.t 8) false⟩, ⟨(some 39), none, .build [(.int .i64 0), (.int .i64 0), (.int .i64 0), (.str []), (.str []), (.bool false)] [(0, 1, (.c (.int .i64 6))), (1, 1, (.t 37)), (2, 1, (.t 38))]⟩, ⟨none, none, .store 6 (.t 4) (.t 39) false⟩]) .ret) .skip)) (.seq (.ops 5 [⟨(some 40), none, .mv (.t 0) false⟩, ⟨(some 41), none, .mv (.t 8) false⟩, ⟨(some 42), none, .iaddr 1 (.t 40) (.t 41)⟩, ⟨(some 43), none, .load false 1 (.t 42)⟩, ⟨(some 44), none, .bin .neq .no (.t 43) (.c (.int .i64 92))⟩]) (.cond (.t 44) (.seq (.ops 6 [⟨(some 45), none, .mv (.t 7) true⟩, ⟨(some 46), none, .mv (.t 0) false⟩, ⟨(some 47), none, .mv (.t 8) false⟩, ⟨(some 48), none, .iaddr 1 (.t 46) (.t 47)⟩, ⟨(some 49), none, .load false 1 (.t 48)⟩, ⟨(some 50), none, .buildSl false 1 1 (.int .i64 0) [(0, (.t 49))] false⟩, ⟨(some 51), none, .app false false 1 8 (.t 45) (.t 50) true⟩, ⟨(some 7), none, .mv (.t 51) true⟩]) (.ops 7 [⟨(some 52), none, .mv (.t 8) false⟩, ⟨(some 53), none, .bin .add .no (.t 52) (.c (.int .i64 1))⟩, ⟨(some 8), none, .mv (.t 53) false⟩])) (.seq (.ops 8 [⟨(some 54), none, .mv (.t 8) false⟩, ⟨(some 55), none, .bin .add .no (.t 54) (.c (.int .i64 1))⟩, ⟨(some 56), none, .mv (.t 0) false⟩, ⟨(some 57), none, .len (.t 56)⟩, ⟨(some 58), none, .bin .eql .no (.t 55) (.t 57)⟩]) (.cond (.t 58) (.ops 9 [⟨(some 59), none, .mv (.t 8) false⟩, ⟨(some 60), none, .bin .add .no (.t 59) (.c (.int .i64 1))⟩, ⟨(some 8), none, .mv (.t 60) false⟩]) (.seq (.ops 10 [⟨(some 61), none, .mv (.t 0) false⟩, ⟨(some 62), none, .mv (.t 8) false⟩, ⟨(some 63), none, .bin .add .no (.t 62) (.c (.int .i64 1))⟩, ⟨(some 64), none, .iaddr 1 (.t 61) (.t 63)⟩, ⟨(some 65), none, .load false 1 (.t 64)⟩, ⟨(some 66), none, .bin .eql .no (.t 65) (.c (.int .i64 10))⟩]) (.cond (.t 66) (.ops 11 [⟨(some 67), none, .mv (.t 8) false⟩, ⟨(some 68), none, .bin .add .no (.t 67) (.c (.int .i64 2))⟩, ⟨(some 8), none, .mv (.t 68) false⟩]) (.seq (.ops 12 [⟨(some 70), none, .mv (.t 0) false⟩, ⟨(some 71), none, .mv (.t 8) false⟩, ⟨(some 72), none, .call 96 [(.t 70), (.t 71)]⟩, ⟨(some 69), none, .mv (.t 72) false⟩, ⟨(some 73), none, .extr (.t 69) 0⟩, ⟨(some 74), none, .extr (.t 69) 1⟩, ⟨(some 9), none, .mv (.t 73) false⟩, ⟨(some 10), none, .mv (.t 74) false⟩]) (.seq (.ops 13 [⟨(some 75), none, .mv (.t 7) true⟩, ⟨(some 76), none, .mv (.t 9) false⟩, ⟨(some 77), none, .buildSl false 1 1 (.int .i64 0) [(0, (.t 76))] false⟩, ⟨(some 78), none, .app false false 1 8 (.t 75) (.t 77) true⟩, ⟨(some 7), none, .mv (.t 78) true⟩]) (.ops 14 [⟨(some 79), none, .mv (.t 10) false⟩, ⟨(some 8), none, .mv (.t 79) false⟩])))))))))))))) (.seq (.ops 15 [⟨(some 80), none, .mv (.t 7) true⟩, ⟨(some 81), none, .call 85 [(.t 80)]⟩, ⟨(some 82), none, .faddr 3 (.t 5)⟩, ⟨none, none, .store 1 (.t 82) (.t 81) false⟩]) (.seq (.ops 16 [⟨(some 83), none, .mv (.t 8) false⟩, ⟨(some 84), none, .faddr 2 (.t 5)⟩, ⟨none, none, .store 1 (.t 84) (.t 83) false⟩]) (.seq (.seq (.ops 17 [⟨(some 85), none, .mv (.t 8) false⟩, ⟨(some 86), none, .mv (.t 0) true⟩, ⟨(some 87), none, .len (.t 86)⟩, ⟨(some 88), none, .bin .lss .no (.t 85) (.t 87)⟩]) (.cond (.t 88) (.ops 18 [⟨(some 89), none, .mv (.t 8) false⟩, ⟨(some 90), none, .bin .add .no (.t 89) (.c (.int .i64 1))⟩, ⟨(some 91), none, .faddr 2 (.t 5)⟩, ⟨none, none, .store 1 (.t 91) (.t 90) false⟩]) .skip)) (.seq (.ops 19 [⟨(some 92), none, .load true 6 (.t 5)⟩, ⟨none, none, .store 6 (.t 4) (.t 92) false⟩]) .ret)))))))⟩
theorem ok_c_wattleref03_quoted : chkFn Tryz.prog 76 c_wattleref03_quoted = true := chkFn_of Tryz.func76 (by kernel_rfl)
def j_wattleref03_quoted_0 (M : Mach) (n0 : Nat) (n1 : Nat) (r1 : Rk) (z0 z1 z4 z5 z6 z7 z8 : V) (σ : Objs) : Ro :=
  bd (fz n1 σ fzDepth z0) fun y10 =>
  bd (fz n1 σ fzDepth z1) fun y11 =>
  bd (fz n1 σ fzDepth z4) fun y12 =>
  bd (fz n1 σ fzDepth z5) fun y13 =>
  bd (fz n1 σ fzDepth z6) fun y14 =>
  bd (fz n1 σ fzDepth z7) fun y15 =>
  bd (fz n1 σ fzDepth z8) fun y16 =>
  bd (cutObjs n1 σ) fun s17 => r1 [y10, y11, y12, y13, y14, y15, y16] s17
def j_wattleref03_quoted_1 (M : Mach) (n0 : Nat) (z4 z5 : V) (σ : Objs) : Ro :=
  bd (pu (evLoad σ true 6 z5.nogr)) fun x72 =>
  bd (storeV σ 6 z4.nogr x72.nogr x72.nogr) fun p73 =>
  bd (resC p73.2 true 6 z4) fun x74 =>
  bd (oneK false x74) (endK n0 p73.2)
def b_wattleref03_quoted_0 (M : Mach) (n0 : Nat) (n1 : Nat) (r1 : Rk) (z0 z1 z4 z5 z6 z7 z8 : V) (σ : Objs) : Ro :=
  bd (pu (evLen z0.nogr.nogr)) fun x18 =>
  bd (pu (evBin .lss .no z8.nogr.nogr x18.nogr)) fun x19 =>
  bd (gdv x19.nogr true (some z0.nogr)) fun x20 =>
  bd (gdv x19.nogr true (some z8.nogr)) fun x21 =>
  bd (gdv x19.nogr true (pu (evIaddr 1 x21.nogr x20.nogr))) fun x22 =>
  bd (gdv x19.nogr true (pu (evLoad σ false 1 x22.nogr))) fun x23 =>
  bd (gdv x19.nogr true (some z6.nogr)) fun x24 =>
  bd (gdv x19.nogr true (pu (evBin .neq .no x23.nogr x24.nogr))) fun x25 =>
  bd (pu (pickV x19.nogr.nogr x25.nogr (.bool false))) fun x26 =>
  br x26.nogr (
  bd (pu (evIaddr 1 z8.nogr.nogr z0.nogr.nogr)) fun x27 =>
  bd (pu (evLoad σ false 1 x27.nogr)) fun x28 =>
  bd (pu (evBin .eql .no x28.nogr (.int .i64 10))) fun x29 =>
  br x29.nogr (
  bd (pu (buildV [(.int .i64 0), (.int .i64 0), (.int .i64 0), (.str []), (.str []), (.bool false)] [(0, 1, (.int .i64 6)), (1, 1, z1.nogr.nogr), (2, 1, z8.nogr.nogr)])) fun x30 =>
  bd (storeV σ 6 z4.nogr x30.nogr x30.nogr) fun p31 =>
  bd (fz n1 p31.2 fzDepth z0) fun y32 =>
  bd (fz n1 p31.2 fzDepth z4) fun y33 =>
  bd (fz n1 p31.2 fzDepth z5) fun y34 =>
  bd (fz n1 p31.2 fzDepth z7) fun y35 =>
  bd (fz n1 p31.2 fzDepth z8) fun y36 =>
  bd (cutObjs n1 p31.2) fun s37 =>
  bd (resC s37 true 6 y33) fun x38 =>
  bd (oneK false x38) (endK n0 s37)) (
  bd (pu (evIaddr 1 z8.nogr.nogr z0.nogr.nogr)) fun x39 =>
  bd (pu (evLoad σ false 1 x39.nogr)) fun x40 =>
  bd (pu (evBin .neq .no x40.nogr (.int .i64 92))) fun x41 =>
  br x41.nogr (
  bd (pu (evIaddr 1 z8.nogr.nogr z0.nogr.nogr)) fun x42 =>
  bd (pu (evLoad σ false 1 x42.nogr)) fun x43 =>
  bd (buildFV false 1 1 (.int .i64 0) [(0, x43.nogr)]) fun x44 =>
  bd (appV false false 1 8 σ z7 x44.nogr) fun x45 =>
  bd (pu (evBin .add .no z8.nogr.nogr (.int .i64 1))) fun x46 =>
  j_wattleref03_quoted_0 M n0 n1 r1 z0 z1 z4 z5 z6 x45 x46.nogr σ) (
  bd (pu (evBin .add .no z8.nogr.nogr (.int .i64 1))) fun x47 =>
  bd (pu (evLen z0.nogr.nogr)) fun x48 =>
  bd (pu (evBin .eql .no x47.nogr x48.nogr)) fun x49 =>
  br x49.nogr (
  bd (pu (evBin .add .no z8.nogr.nogr (.int .i64 1))) fun x50 =>
  j_wattleref03_quoted_0 M n0 n1 r1 z0 z1 z4 z5 z6 z7 x50.nogr σ) (
  bd (pu (evBin .add .no z8.nogr.nogr (.int .i64 1))) fun x51 =>
  bd (pu (evIaddr 1 x51.nogr z0.nogr.nogr)) fun x52 =>
  bd (pu (evLoad σ false 1 x52.nogr)) fun x53 =>
  bd (pu (evBin .eql .no x53.nogr (.int .i64 10))) fun x54 =>
  br x54.nogr (
  bd (pu (evBin .add .no z8.nogr.nogr (.int .i64 2))) fun x55 =>
  j_wattleref03_quoted_0 M n0 n1 r1 z0 z1 z4 z5 z6 z7 x55.nogr σ) (
  bd (M.call 96 [z0.nogr.nogr, z8.nogr.nogr] σ) fun p56 =>
  bd (pu (evExtr 0 p56.1.nogr.nogr)) fun x57 =>
  bd (pu (evExtr 1 p56.1.nogr.nogr)) fun x58 =>
  bd (buildFV false 1 1 (.int .i64 0) [(0, x57.nogr.nogr.nogr)]) fun x59 =>
  bd (appV false false 1 8 p56.2 z7 x59.nogr) fun x60 =>
  j_wattleref03_quoted_0 M n0 n1 r1 z0 z1 z4 z5 z6 x60 x58.nogr.nogr.nogr p56.2))))) (
  bd (fz n1 σ fzDepth z0) fun y61 =>
  bd (fz n1 σ fzDepth z4) fun y62 =>
  bd (fz n1 σ fzDepth z5) fun y63 =>
  bd (fz n1 σ fzDepth z7) fun y64 =>
  bd (fz n1 σ fzDepth z8) fun y65 =>
  bd (cutObjs n1 σ) fun s66 =>
  bd (M.call 85 [y64.nogr] s66) fun p67 =>
  bd (pu (evFaddr 3 y63.nogr)) fun x68 =>
  bd (storeV p67.2 1 x68.nogr p67.1.nogr p67.1.nogr) fun p69 =>
  bd (pu (evFaddr 2 y63.nogr)) fun x70 =>
  bd (storeV p69.2 1 x70.nogr y65.nogr.nogr y65.nogr.nogr) fun p71 =>
  bd (pu (evLen y61.nogr)) fun x75 =>
  bd (pu (evBin .lss .no y65.nogr.nogr x75.nogr)) fun x76 =>
  br x76.nogr (
  bd (pu (evBin .add .no y65.nogr.nogr (.int .i64 1))) fun x77 =>
  bd (pu (evFaddr 2 y63.nogr)) fun x78 =>
  bd (storeV p71.2 1 x78.nogr x77.nogr x77.nogr) fun p79 =>
  j_wattleref03_quoted_1 M n0 y62 y63 p79.2) (
  j_wattleref03_quoted_1 M n0 y62 y63 p71.2))
def l_wattleref03_quoted_0 (M : Mach) (n0 : Nat) (n1 : Nat) : Rk := M.fx fun rec vs σ => b_wattleref03_quoted_0 M n0 n1 rec (vs.getD 0 .undef) (vs.getD 1 .undef) (vs.getD 2 .undef) (vs.getD 3 .undef) (vs.getD 4 .undef) (vs.getD 5 .undef) (vs.getD 6 .undef) σ
def s_wattleref03_quoted (M : Mach) (a0 a1 : V) (σ : Objs) : Ro :=
  let s0 : Objs := σ ++ [.cells [(.int .i64 0), (.int .i64 0), (.int .i64 0), (.str []), (.str []), (.bool false)]]
  bd (pu (buildV [(.int .i64 0), (.int .i64 0), (.int .i64 0), (.str []), (.str []), (.bool false)] [(0, 1, (.int .i64 5)), (1, 1, a1.nogr.nogr)])) fun x1 =>
  bd (pu (evIaddr 1 a1.nogr.nogr a0.nogr.nogr)) fun x2 =>
  bd (pu (evLoad s0 false 1 x2.nogr)) fun x3 =>
  bd (buildFV false 1 0 .any []) fun x4 =>
  bd (pu (evBin .add .no a1.nogr.nogr (.int .i64 1))) fun x5 =>
  let s6 : Objs := s0 ++ [.cells [(.int .i64 0), (.int .i64 0), (.int .i64 0), (.str []), (.str []), (.bool false)]]
  bd (lockS [rdLoad false 1 x2.nogr] s6) fun s7 =>
  bd (storeV s7 6 (.ptr s0.length 0) x1.nogr x1.nogr) fun p9 =>
  bd (openS [rdLoad false 1 x2.nogr] s6 p9.2) fun s8 =>
  bd (fz s8.length s8 fzDepth a0) fun y80 =>
  bd (fz s8.length s8 fzDepth a1) fun y81 =>
  bd (fz s8.length s8 fzDepth (.ptr σ.length 0)) fun y82 =>
  bd (fz s8.length s8 fzDepth (.ptr s0.length 0)) fun y83 =>
  bd (fz s8.length s8 fzDepth x3.nogr) fun y84 =>
  bd (fz s8.length s8 fzDepth x4) fun y85 =>
  bd (fz s8.length s8 fzDepth x5.nogr) fun y86 =>
  l_wattleref03_quoted_0 M σ.length s8.length [y80, y81, y82, y83, y84, y85, y86] s8
theorem k_wattleref03_quoted (M : Mach) (a0 a1 : V) (σ : Objs) : fnK M c_wattleref03_quoted [a0, a1] σ = s_wattleref03_quoted M a0 a1 σ := by kernel_rfl
def c_wattleref03_number : Ev.Fn := ⟨29, [.tmp 4], false, false, (.seq (.ops 0 [⟨(some 4), none, .mv (.c (.bool false)) false⟩]) (.seq (.seq (.ops 1 [⟨(some 5), none, .mv (.t 0) false⟩, ⟨(some 6), none, .mv (.t 1) false⟩, ⟨(some 7), none, .call 79 [(.t 5), (.t 6), (.c (.int .i64 43))]⟩, ⟨(some 8), none, .mv (.t 7) false⟩, ⟨(some 9), (some (8, false)), .mv (.t 0) false⟩, ⟨(some 10), (some (8, false)), .mv (.t 1) false⟩, ⟨(some 11), (some (8, false)), .call 79 [(.t 9), (.t 10), (.c (.int .i64 45))]⟩, ⟨(some 12), none, .pick (.t 8) (.c (.bool true)) (.t 11)⟩]) (.cond (.t 12) (.ops 2 [⟨(some 13), none, .mv (.t 1) false⟩, ⟨(some 14), none, .bin .add .no (.t 13) (.c (.int .i64 1))⟩, ⟨(some 1), none, .mv (.t 14) false⟩]) .skip)) (.seq (.ops 3 [⟨(some 15), none, .mv (.t 0) false⟩, ⟨(some 16), none, .mv (.t 1) false⟩, ⟨(some 17), none, .call 97 [(.t 15), (.t 16)]⟩, ⟨(some 18), none, .mv (.t 17) false⟩, ⟨(some 19), (some (18, false)), .mv (.t 0) false⟩, ⟨(some 20), (some (18, false)), .mv (.t 1) false⟩, ⟨(some 21), (some (18, false)), .call 79 [(.t 19), (.t 20), (.c (.int .i64 46))]⟩, ⟨(some 22), (some (18, false)), .mv (.t 21) false⟩, ⟨(some 23), (some (22, true)), .mv (.t 0) true⟩, ⟨(some 24), (some (22, true)), .mv (.t 1) false⟩, ⟨(some 25), (some (22, true)), .bin .add .no (.t 24) (.c (.int .i64 1))⟩, ⟨(some 26), (some (22, true)), .call 97 [(.t 23), (.t 25)]⟩, ⟨(some 27), (some (18, false)), .pick (.t 22) (.t 26) (.c (.bool false))⟩, ⟨(some 28), none, .pick (.t 18) (.c (.bool true)) (.t 27)⟩, ⟨(some 4), none, .mv (.t 28) false⟩]) .ret)))⟩
theorem ok_c_wattleref03_number : chkFn Tryz.prog 77 c_wattleref03_number = true := chkFn_of Tryz.func77 (by kernel_rfl)
def j_wattleref03_number_0 (M : Mach) (n0 : Nat) (z0 z1 : V) (σ : Objs) : Ro :=
  bd (M.call 97 [z0.nogr.nogr, z1.nogr.nogr] σ) fun p0 =>
  bd (gdv p0.1.nogr false (some z0.nogr)) fun x1 =>
  bd (gdv p0.1.nogr false (some z1.nogr)) fun x2 =>
  bd (gdp p0.1.nogr false (M.call 79 [x1.nogr, x2.nogr, (.int .i64 46)] p0.2) p0.2) fun p3 =>
  bd (gdv p0.1.nogr false (some p3.1.nogr)) fun x4 =>
  gd x4 true (
  bd (gdv x4 true (some z1.nogr)) fun x5 =>
  bd (gdv x4 true (pu (evBin .add .no x5.nogr (.int .i64 1)))) fun x6 =>
  bd (gdp x4 true (M.call 97 [z0.nogr, x6.nogr] p3.2) p3.2) fun p7 =>
  bd (gdv p0.1.nogr false (pu (pickV x4.nogr p7.1.nogr (.bool false)))) fun x8 =>
  bd (pu (pickV p0.1.nogr.nogr (.bool true) x8.nogr)) fun x9 =>
  bd (oneK false x9.nogr) (endK n0 p7.2)) (
  bd (gdv x4 true (some z1.nogr)) fun x10 =>
  bd (gdv x4 true (pu (evBin .add .no x10.nogr (.int .i64 1)))) fun x11 =>
  bd (gdp x4 true (M.call 97 [.undef, x11.nogr] p3.2) p3.2) fun p12 =>
  bd (gdv p0.1.nogr false (pu (pickV x4.nogr p12.1.nogr (.bool false)))) fun x13 =>
  bd (pu (pickV p0.1.nogr.nogr (.bool true) x13.nogr)) fun x14 =>
  bd (oneK false x14.nogr) (endK n0 p12.2))
def s_wattleref03_number (M : Mach) (a0 a1 : V) (σ : Objs) : Ro :=
  bd (M.call 79 [a0.nogr.nogr, a1.nogr.nogr, (.int .i64 43)] σ) fun p15 =>
  bd (gdv p15.1.nogr false (some a0.nogr)) fun x16 =>
  bd (gdv p15.1.nogr false (some a1.nogr)) fun x17 =>
  bd (gdp p15.1.nogr false (M.call 79 [x16.nogr, x17.nogr, (.int .i64 45)] p15.2) p15.2) fun p18 =>
  bd (pu (pickV p15.1.nogr.nogr (.bool true) p18.1.nogr)) fun x19 =>
  br x19.nogr (
  bd (pu (evBin .add .no a1.nogr.nogr (.int .i64 1))) fun x20 =>
  j_wattleref03_number_0 M σ.length a0 x20.nogr p18.2) (
  j_wattleref03_number_0 M σ.length a0 a1 p18.2)
theorem k_wattleref03_number (M : Mach) (a0 a1 : V) (σ : Objs) : fnK M c_wattleref03_number [a0, a1] σ = s_wattleref03_number M a0 a1 σ := by kernel_rfl
def c_wattleref03_numeric : Ev.Fn := ⟨43, [.cell 4 true 6], false, false, (.seq (.ops 0 [⟨(some 4), none, .alloc [(.int .i64 0), (.int .i64 0), (.int .i64 0), (.str []), (.str []), (.bool false)]⟩]) (.seq (.ops 1 [⟨(some 9), none, .mv (.t 0) false⟩, ⟨(some 10), none, .mv (.t 1) false⟩, ⟨(some 11), none, .call 98 [(.t 9), (.t 10)]⟩, ⟨(some 8), none, .mv (.t 11) false⟩, ⟨(some 12), none, .extr (.t 8) 0⟩, ⟨(some 13), none, .extr (.t 8) 1⟩, ⟨(some 5), none, .mv (.t 12) false⟩, ⟨(some 6), none, .mv (.t 13) false⟩]) (.seq (.ops 2 [⟨(some 14), none, .mv (.t 1) false⟩, ⟨(some 15), none, .mv (.t 5) false⟩, ⟨(some 16), none, .mv (.t 0) false⟩, ⟨(some 17), none, .mv (.t 1) false⟩, ⟨(some 18), none, .mv (.t 5) false⟩, ⟨(some 19), none, .cut 1 (.t 16) (some (.t 17)) (some (.t 18)) none⟩, ⟨(some 20), none, .call 85 [(.t 19)]⟩, ⟨(some 21), none, .mv (.t 6) false⟩, ⟨(some 22), none, .build [(.int .i64 0), (.int .i64 0), (.int .i64 0), (.str []), (.str []), (.bool false)] [(0, 1, (.c (.int .i64 10))), (1, 1, (.t 14)), (2, 1, (.t 15)), (4, 1, (.t 20)), (5, 1, (.t 21))]⟩, ⟨(some 7), none, .alloc [(.int .i64 0), (.int .i64 0), (.int .i64 0), (.str []), (.str []), (.bool false)]⟩, ⟨none, none, .store 6 (.t 7) (.t 22) false⟩]) (.seq (.seq (.ops 3 [⟨(some 23), none, .mv (.t 0) false⟩, ⟨(some 24), none, .mv (.t 5) false⟩, ⟨(some 25), none, .call 80 [(.t 23), (.t 24)]⟩]) (.cond (.t 25) (.seq (.ops 4 [⟨(some 26), none, .faddr 0 (.t 7)⟩, ⟨none, none, .store 1 (.t 26) (.c (.int .i64 12)) false⟩]) (.ops 5 [⟨(some 28), none, .mv (.t 0) true⟩, ⟨(some 29), none, .mv (.t 5) false⟩, ⟨(some 30), none, .call 82 [(.t 28), (.t 29)]⟩, ⟨(some 27), none, .mv (.t 30) false⟩, ⟨(some 31), none, .extr (.t 27) 0⟩, ⟨(some 32), none, .extr (.t 27) 1⟩, ⟨(some 33), none, .faddr 3 (.t 7)⟩, ⟨none, none, .store 1 (.t 33) (.t 31) false⟩, ⟨(some 34), none, .faddr 2 (.t 7)⟩, ⟨none, none, .store 1 (.t 34) (.t 32) false⟩])) (.seq (.ops 6 [⟨(some 35), none, .mv (.t 0) true⟩, ⟨(some 36), none, .mv (.t 5) false⟩, ⟨(some 37), none, .call 79 [(.t 35), (.t 36), (.c (.int .i64 37))]⟩]) (.cond (.t 37) (.seq (.ops 7 [⟨(some 38), none, .faddr 0 (.t 7)⟩, ⟨none, none, .store 1 (.t 38) (.c (.int .i64 11)) false⟩]) (.ops 8 [⟨(some 39), none, .mv (.t 5) false⟩, ⟨(some 40), none, .bin .add .no (.t 39) (.c (.int .i64 1))⟩, ⟨(some 41), none, .faddr 2 (.t 7)⟩, ⟨none, none, .store 1 (.t 41) (.t 40) false⟩])) .skip)))) (.seq (.ops 9 [⟨(some 42), none, .load true 6 (.t 7)⟩, ⟨none, none, .store 6 (.t 4) (.t 42) false⟩]) .ret)))))⟩
theorem ok_c_wattleref03_numeric : chkFn Tryz.prog 78 c_wattleref03_numeric = true := chkFn_of Tryz.func78 (by kernel_rfl)
def j_wattleref03_numeric_0 (M : Mach) (n0 : Nat) (z4 z7 : V) (σ : Objs) : Ro :=
  bd (pu (evLoad σ true 6 z7.nogr)) fun x9 =>
  bd (storeV σ 6 z4.nogr x9.nogr x9.nogr) fun p10 =>
  bd (resC p10.2 true 6 z4) fun x11 =>
  bd (oneK false x11) (endK n0 p10.2)
def s_wattleref03_numeric (M : Mach) (a0 a1 : V) (σ : Objs) : Ro :=
  let s0 : Objs := σ ++ [.cells [(.int .i64 0), (.int .i64 0), (.int .i64 0), (.str []), (.str []), (.bool false)]]
  bd (M.call 98 [a0.nogr.nogr, a1.nogr.nogr] s0) fun p1 =>
  bd (pu (evExtr 0 p1.1.nogr.nogr)) fun x2 =>
  bd (pu (evExtr 1 p1.1.nogr.nogr)) fun x3 =>
  bd (pu (evCut 1 a0.nogr.nogr (some a1.nogr.nogr) (some x2.nogr.nogr.nogr) none)) fun x4 =>
  bd (M.call 85 [x4.nogr] p1.2) fun p5 =>
  bd (pu (buildV [(.int .i64 0), (.int .i64 0), (.int .i64 0), (.str []), (.str []), (.bool false)] [(0, 1, (.int .i64 10)), (1, 1, a1.nogr.nogr), (2, 1, x2.nogr.nogr.nogr), (4, 1, p5.1.nogr), (5, 1, x3.nogr.nogr.nogr)])) fun x6 =>
  let s7 : Objs := p5.2 ++ [.cells [(.int .i64 0), (.int .i64 0), (.int .i64 0), (.str []), (.str []), (.bool false)]]
  bd (storeV s7 6 (.ptr p5.2.length 0) x6.nogr x6.nogr) fun p8 =>
  bd (M.call 80 [a0.nogr.nogr, x2.nogr.nogr.nogr] p8.2) fun p12 =>
  br p12.1.nogr (
  bd (pu (evFaddr 0 (.ptr p5.2.length 0))) fun x13 =>
  bd (storeV p12.2 1 x13.nogr (.int .i64 12) (.int .i64 12)) fun p14 =>
  bd (M.call 82 [a0.nogr, x2.nogr.nogr.nogr] p14.2) fun p15 =>
  bd (pu (evExtr 0 p15.1.nogr.nogr)) fun x16 =>
  bd (pu (evExtr 1 p15.1.nogr.nogr)) fun x17 =>
  bd (pu (evFaddr 3 (.ptr p5.2.length 0))) fun x18 =>
  bd (storeV p15.2 1 x18.nogr x16.nogr x16.nogr) fun p19 =>
  bd (pu (evFaddr 2 (.ptr p5.2.length 0))) fun x20 =>
  bd (storeV p19.2 1 x20.nogr x17.nogr x17.nogr) fun p21 =>
  j_wattleref03_numeric_0 M σ.length (.ptr σ.length 0) (.ptr p5.2.length 0) p21.2) (
  bd (M.call 79 [a0.nogr, x2.nogr.nogr.nogr, (.int .i64 37)] p12.2) fun p22 =>
  br p22.1.nogr (
  bd (pu (evFaddr 0 (.ptr p5.2.length 0))) fun x23 =>
  bd (storeV p22.2 1 x23.nogr (.int .i64 11) (.int .i64 11)) fun p24 =>
  bd (pu (evBin .add .no x2.nogr.nogr.nogr (.int .i64 1))) fun x25 =>
  bd (pu (evFaddr 2 (.ptr p5.2.length 0))) fun x26 =>
  bd (storeV p24.2 1 x26.nogr x25.nogr x25.nogr) fun p27 =>
  j_wattleref03_numeric_0 M σ.length (.ptr σ.length 0) (.ptr p5.2.length 0) p27.2) (
  j_wattleref03_numeric_0 M σ.length (.ptr σ.length 0) (.ptr p5.2.length 0) p22.2))
theorem k_wattleref03_numeric (M : Mach) (a0 a1 : V) (σ : Objs) : fnK M c_wattleref03_numeric [a0, a1] σ = s_wattleref03_numeric M a0 a1 σ := by kernel_rfl
def c_wattleref03_is : Ev.Fn := ⟨19, [.tmp 6], false, false, (.seq (.ops 0 [⟨(some 6), none, .mv (.c (.bool false)) false⟩]) (.seq (.ops 1 [⟨(some 7), none, .mv (.t 1) false⟩, ⟨(some 8), none, .mv (.t 0) false⟩, ⟨(some 9), none, .len (.t 8)⟩, ⟨(some 10), none, .bin .lss .no (.t 7) (.t 9)⟩, ⟨(some 11), none, .mv (.t 10) false⟩, ⟨(some 12), (some (11, true)), .mv (.t 0) true⟩, ⟨(some 13), (some (11, true)), .mv (.t 1) false⟩, ⟨(some 14), (some (11, true)), .iaddr 1 (.t 12) (.t 13)⟩, ⟨(some 15), (some (11, true)), .load false 1 (.t 14)⟩, ⟨(some 16), (some (11, true)), .mv (.t 2) false⟩, ⟨(some 17), (some (11, true)), .bin .eql .no (.t 15) (.t 16)⟩, ⟨(some 18), none, .pick (.t 11) (.t 17) (.c (.bool false))⟩, ⟨(some 6), none, .mv (.t 18) false⟩]) .ret))⟩
theorem ok_c_wattleref03_is : chkFn Tryz.prog 79 c_wattleref03_is = true := chkFn_of Tryz.func79 (by kernel_rfl)
def s_wattleref03_is (M : Mach) (a0 a1 a2 : V) (σ : Objs) : Ro :=
  bd (pu (evLen a0.nogr.nogr)) fun x0 =>
  bd (pu (evBin .lss .no a1.nogr.nogr x0.nogr)) fun x1 =>
  gd x1.nogr true (
  bd (gdv x1.nogr true (some a1.nogr)) fun x2 =>
  bd (gdv x1.nogr true (pu (evIaddr 1 x2.nogr a0.nogr))) fun x3 =>
  bd (gdv x1.nogr true (pu (evLoad σ false 1 x3.nogr))) fun x4 =>
  bd (gdv x1.nogr true (some a2.nogr)) fun x5 =>
  bd (gdv x1.nogr true (pu (evBin .eql .no x4.nogr x5.nogr))) fun x6 =>
  bd (pu (pickV x1.nogr.nogr x6.nogr (.bool false))) fun x7 =>
  bd (oneK false x7.nogr) (endK σ.length σ)) (
  bd (gdv x1.nogr true (some a1.nogr)) fun x8 =>
  bd (gdv x1.nogr true (pu (evIaddr 1 x8.nogr .undef))) fun x9 =>
  bd (gdv x1.nogr true (pu (evLoad σ false 1 x9.nogr))) fun x10 =>
  bd (gdv x1.nogr true (some a2.nogr)) fun x11 =>
  bd (gdv x1.nogr true (pu (evBin .eql .no x10.nogr x11.nogr))) fun x12 =>
  bd (pu (pickV x1.nogr.nogr x12.nogr (.bool false))) fun x13 =>
  bd (oneK false x13.nogr) (endK σ.length σ))
theorem k_wattleref03_is (M : Mach) (a0 a1 a2 : V) (σ : Objs) : fnK M c_wattleref03_is [a0, a1, a2] σ = s_wattleref03_is M a0 a1 a2 σ := by kernel_rfl
def c_wattleref03_Name : Ev.Fn := ⟨32, [.tmp 4], false, false, (.seq (.ops 0 [⟨(some 4), none, .mv (.c (.bool false)) false⟩]) (.seq (.seq (.ops 1 [⟨(some 5), none, .mv (.t 0) false⟩, ⟨(some 6), none, .mv (.t 1) false⟩, ⟨(some 7), none, .call 79 [(.t 5), (.t 6), (.c (.int .i64 45))]⟩]) (.cond (.t 7) (.seq (.ops 2 [⟨(some 8), none, .mv (.t 0) false⟩, ⟨(some 9), none, .mv (.t 1) false⟩, ⟨(some 10), none, .bin .add .no (.t 9) (.c (.int .i64 1))⟩, ⟨(some 11), none, .call 79 [(.t 8), (.t 10), (.c (.int .i64 45))]⟩, ⟨(some 12), none, .mv (.t 11) false⟩, ⟨(some 13), (some (12, false)), .mv (.t 0) false⟩, ⟨(some 14), (some (12, false)), .mv (.t 1) false⟩, ⟨(some 15), (some (12, false)), .bin .add .no (.t 14) (.c (.int .i64 1))⟩, ⟨(some 16), (some (12, false)), .call 99 [(.t 13), (.t 15)]⟩, ⟨(some 17), none, .pick (.t 12) (.c (.bool true)) (.t 16)⟩, ⟨(some 18), none, .mv (.t 17) false⟩, ⟨(some 19), (some (18, false)), .mv (.t 0) true⟩, ⟨(some 20), (some (18, false)), .mv (.t 1) false⟩, ⟨(some 21), (some (18, false)), .bin .add .no (.t 20) (.c (.int .i64 1))⟩, ⟨(some 22), (some (18, false)), .call 84 [(.t 19), (.t 21)]⟩, ⟨(some 23), none, .pick (.t 18) (.c (.bool true)) (.t 22)⟩, ⟨(some 4), none, .mv (.t 23) false⟩]) .ret) .skip)) (.seq (.ops 3 [⟨(some 24), none, .mv (.t 0) false⟩, ⟨(some 25), none, .mv (.t 1) false⟩, ⟨(some 26), none, .call 99 [(.t 24), (.t 25)]⟩, ⟨(some 27), none, .mv (.t 26) false⟩, ⟨(some 28), (some (27, false)), .mv (.t 0) true⟩, ⟨(some 29), (some (27, false)), .mv (.t 1) false⟩, ⟨(some 30), (some (27, false)), .call 84 [(.t 28), (.t 29)]⟩, ⟨(some 31), none, .pick (.t 27) (.c (.bool true)) (.t 30)⟩, ⟨(some 4), none, .mv (.t 31) false⟩]) .ret)))⟩
theorem ok_c_wattleref03_Name : chkFn Tryz.prog 80 c_wattleref03_Name = true := chkFn_of Tryz.func80 (by kernel_rfl)
def s_wattleref03_Name (M : Mach) (a0 a1 : V) (σ : Objs) : Ro :=
  bd (M.call 79 [a0.nogr.nogr, a1.nogr.nogr, (.int .i64 45)] σ) fun p0 =>
  br p0.1.nogr (
  bd (pu (evBin .add .no a1.nogr.nogr (.int .i64 1))) fun x1 =>
  bd (M.call 79 [a0.nogr.nogr, x1.nogr, (.int .i64 45)] p0.2) fun p2 =>
  bd (gdv p2.1.nogr false (some a0.nogr)) fun x3 =>
  bd (gdv p2.1.nogr false (some a1.nogr)) fun x4 =>
  bd (gdv p2.1.nogr false (pu (evBin .add .no x4.nogr (.int .i64 1)))) fun x5 =>
  bd (gdp p2.1.nogr false (M.call 99 [x3.nogr, x5.nogr] p2.2) p2.2) fun p6 =>
  bd (pu (pickV p2.1.nogr.nogr (.bool true) p6.1.nogr)) fun x7 =>
  gd x7.nogr false (
  bd (gdv x7.nogr false (some a1.nogr)) fun x8 =>
  bd (gdv x7.nogr false (pu (evBin .add .no x8.nogr (.int .i64 1)))) fun x9 =>
  bd (gdp x7.nogr false (M.call 84 [a0.nogr, x9.nogr] p6.2) p6.2) fun p10 =>
  bd (pu (pickV x7.nogr.nogr (.bool true) p10.1.nogr)) fun x11 =>
  bd (oneK false x11.nogr) (endK σ.length p10.2)) (
  bd (gdv x7.nogr false (some a1.nogr)) fun x12 =>
  bd (gdv x7.nogr false (pu (evBin .add .no x12.nogr (.int .i64 1)))) fun x13 =>
  bd (gdp x7.nogr false (M.call 84 [.undef, x13.nogr] p6.2) p6.2) fun p14 =>
  bd (pu (pickV x7.nogr.nogr (.bool true) p14.1.nogr)) fun x15 =>
  bd (oneK false x15.nogr) (endK σ.length p14.2))) (
  bd (M.call 99 [a0.nogr.nogr, a1.nogr.nogr] p0.2) fun p16 =>
  gd p16.1.nogr false (
  bd (gdv p16.1.nogr false (some a1.nogr)) fun x17 =>
  bd (gdp p16.1.nogr false (M.call 84 [a0.nogr, x17.nogr] p16.2) p16.2) fun p18 =>
  bd (pu (pickV p16.1.nogr.nogr (.bool true) p18.1.nogr)) fun x19 =>
  bd (oneK false x19.nogr) (endK σ.length p18.2)) (
  bd (gdv p16.1.nogr false (some a1.nogr)) fun x20 =>
  bd (gdp p16.1.nogr false (M.call 84 [.undef, x20.nogr] p16.2) p16.2) fun p21 =>
  bd (pu (pickV p16.1.nogr.nogr (.bool true) p21.1.nogr)) fun x22 =>
  bd (oneK false x22.nogr) (endK σ.length p21.2)))
theorem k_wattleref03_Name (M : Mach) (a0 a1 : V) (σ : Objs) : fnK M c_wattleref03_Name [a0, a1] σ = s_wattleref03_Name M a0 a1 σ := by kernel_rfl
def c_wattleref03_called : Ev.Fn := ⟨53, [.cell 4 true 6], false, false, (.seq (.ops 0 [⟨(some 4), none, .alloc [(.int .i64 0), (.int .i64 0), (.int .i64 0), (.str []), (.str []), (.bool false)]⟩]) (.seq (.ops 1 [⟨(some 9), none, .mv (.t 0) false⟩, ⟨(some 10), none, .mv (.t 1) false⟩, ⟨(some 11), none, .call 82 [(.t 9), (.t 10)]⟩, ⟨(some 8), none, .mv (.t 11) false⟩, ⟨(some 12), none, .extr (.t 8) 0⟩, ⟨(some 13), none, .extr (.t 8) 1⟩, ⟨(some 5), none, .mv (.t 12) false⟩, ⟨(some 6), none, .mv (.t 13) false⟩]) (.seq (.seq (.ops 2 [⟨(some 14), none, .mv (.t 0) false⟩, ⟨(some 15), none, .mv (.t 6) false⟩, ⟨(some 16), none, .call 79 [(.t 14), (.t 15), (.c (.int .i64 40))]⟩, ⟨(some 17), none, .un .not (.t 16)⟩]) (.cond (.t 17) (.seq (.ops 3 [⟨(some 18), none, .mv (.t 1) false⟩, ⟨(some 19), none, .mv (.t 6) false⟩, ⟨(some 20), none, .mv (.t 5) false⟩, ⟨(some 21), none, .build [(.int .i64 0), (.int .i64 0), (.int .i64 0), (.str []), (.str []), (.bool false)] [(0, 1, (.c (.int .i64 1))), (1, 1, (.t 18)), (2, 1, (.t 19)), (3, 1, (.t 20))]⟩, ⟨none, none, .store 6 (.t 4) (.t 21) false⟩]) .ret) .skip)) (.seq (.ops 4 [⟨(some 22), none, .mv (.t 6) false⟩, ⟨(some 23), none, .bin .add .no (.t 22) (.c (.int .i64 1))⟩, ⟨(some 7), none, .mv (.t 23) false⟩]) (.seq (.block 0 (.loop [0, 1, 4, 5, 6, 7] [0, 1, 4, 5, 6, 7] (.seq (.seq (.ops 5 [⟨(some 24), none, .mv (.t 0) false⟩, ⟨(some 25), none, .mv (.t 7) false⟩, ⟨(some 26), none, .call 75 [(.t 24), (.t 25)]⟩]) (.cond (.t 26) .skip (.exit 0))) (.block 1 (.ops 6 [⟨(some 27), none, .mv (.t 7) false⟩, ⟨(some 28), none, .bin .add .no (.t 27) (.c (.int .i64 1))⟩, ⟨(some 7), none, .mv (.t 28) false⟩]))))) (.seq (.seq (.ops 7 [⟨(some 29), none, .mv (.t 5) false⟩, ⟨(some 30), none, .call 60 [(.t 29)]⟩, ⟨(some 31), none, .bin .eql .no (.t 30) (.c (.str [117, 114, 108]))⟩, ⟨(some 32), none, .mv (.t 31) false⟩, ⟨(some 33), (some (32, true)), .mv (.t 0) false⟩, ⟨(some 34), (some (32, true)), .mv (.t 7) false⟩, ⟨(some 35), (some (32, true)), .call 79 [(.t 33), (.t 34), (.c (.int .i64 34))]⟩, ⟨(some 36), (some (32, true)), .un .not (.t 35)⟩, ⟨(some 37), none, .pick (.t 32) (.t 36) (.c (.bool false))⟩, ⟨(some 38), none, .mv (.t 37) false⟩, ⟨(some 39), (some (38, true)), .mv (.t 0) false⟩, ⟨(some 40), (some (38, true)), .mv (.t 7) false⟩, ⟨(some 41), (some (38, true)), .call 79 [(.t 39), (.t 40), (.c (.int .i64 39))]⟩, ⟨(some 42), (some (38, true)), .un .not (.t 41)⟩, ⟨(some 43), none, .pick (.t 38) (.t 42) (.c (.bool false))⟩]) (.cond (.t 43) (.seq (.ops 8 [⟨(some 44), none, .mv (.t 0) true⟩, ⟨(some 45), none, .mv (.t 1) false⟩, ⟨(some 46), none, .mv (.t 7) false⟩, ⟨(some 47), none, .call 100 [(.t 44), (.t 45), (.t 46)]⟩, ⟨none, none, .store 6 (.t 4) (.t 47) false⟩]) .ret) .skip)) (.seq (.ops 9 [⟨(some 48), none, .mv (.t 1) false⟩, ⟨(some 49), none, .mv (.t 6) false⟩, ⟨(some 50), none, .bin .add .no (.t 49) (.c (.int .i64 1))⟩, ⟨(some 51), none, .mv (.t 5) false⟩, ⟨(some 52), none, .build [(.int .i64 0), (.int .i64 0), (.int .i64 0), (.str []), (.str []), (.bool false)] [(0, 1, (.c (.int .i64 2))), (1, 1, (.t 48)), (2, 1, (.t 50)), (3, 1, (.t 51))]⟩, ⟨none, none, .store 6 (.t 4) (.t 52) false⟩]) .ret)))))))⟩
theorem ok_c_wattleref03_called : chkFn Tryz.prog 81 c_wattleref03_called = true := chkFn_of Tryz.func81 (by kernel_rfl)
def b_wattleref03_called_0 (M : Mach) (n0 : Nat) (n1 : Nat) (r1 : Rk) (z0 z1 z4 z5 z6 z7 : V) (σ : Objs) : Ro :=
  bd (M.call 75 [z0.nogr.nogr, z7.nogr.nogr] σ) fun p10 =>
  br p10.1.nogr (
  bd (pu (evBin .add .no z7.nogr.nogr (.int .i64 1))) fun x11 =>
  bd (fz n1 p10.2 fzDepth z0) fun y12 =>
  bd (fz n1 p10.2 fzDepth z1) fun y13 =>
  bd (fz n1 p10.2 fzDepth z4) fun y14 =>
  bd (fz n1 p10.2 fzDepth z5) fun y15 =>
  bd (fz n1 p10.2 fzDepth z6) fun y16 =>
  bd (fz n1 p10.2 fzDepth x11.nogr) fun y17 =>
  bd (cutObjs n1 p10.2) fun s18 => r1 [y12, y13, y14, y15, y16, y17] s18) (
  bd (fz n1 p10.2 fzDepth z0) fun y19 =>
  bd (fz n1 p10.2 fzDepth z1) fun y20 =>
  bd (fz n1 p10.2 fzDepth z4) fun y21 =>
  bd (fz n1 p10.2 fzDepth z5) fun y22 =>
  bd (fz n1 p10.2 fzDepth z6) fun y23 =>
  bd (fz n1 p10.2 fzDepth z7) fun y24 =>
  bd (cutObjs n1 p10.2) fun s25 =>
  bd (M.call 60 [y22.nogr.nogr] s25) fun p26 =>
  bd (pu (evBin .eql .no p26.1.nogr (.str [117, 114, 108]))) fun x27 =>
  bd (gdv x27.nogr true (some y19.nogr)) fun x28 =>
  bd (gdv x27.nogr true (some y24.nogr)) fun x29 =>
  bd (gdp x27.nogr true (M.call 79 [x28.nogr, x29.nogr, (.int .i64 34)] p26.2) p26.2) fun p30 =>
  bd (gdv x27.nogr true (pu (evUn .not p30.1.nogr))) fun x31 =>
  bd (pu (pickV x27.nogr.nogr x31.nogr (.bool false))) fun x32 =>
  bd (gdv x32.nogr true (some y19.nogr)) fun x33 =>
  bd (gdv x32.nogr true (some y24.nogr)) fun x34 =>
  bd (gdp x32.nogr true (M.call 79 [x33.nogr, x34.nogr, (.int .i64 39)] p30.2) p30.2) fun p35 =>
  bd (gdv x32.nogr true (pu (evUn .not p35.1.nogr))) fun x36 =>
  bd (pu (pickV x32.nogr.nogr x36.nogr (.bool false))) fun x37 =>
  br x37.nogr (
  bd (M.call 100 [y19.nogr, y20.nogr.nogr, y24.nogr.nogr] p35.2) fun p38 =>
  bd (storeV p38.2 6 y21.nogr p38.1.nogr p38.1.nogr) fun p39 =>
  bd (resC p39.2 true 6 y21) fun x40 =>
  bd (oneK false x40) (endK n0 p39.2)) (
  bd (pu (evBin .add .no y23.nogr.nogr (.int .i64 1))) fun x41 =>
  bd (pu (buildV [(.int .i64 0), (.int .i64 0), (.int .i64 0), (.str []), (.str []), (.bool false)] [(0, 1, (.int .i64 2)), (1, 1, y20.nogr.nogr), (2, 1, x41.nogr), (3, 1, y22.nogr.nogr)])) fun x42 =>
  bd (storeV p35.2 6 y21.nogr x42.nogr x42.nogr) fun p43 =>
  bd (resC p43.2 true 6 y21) fun x44 =>
  bd (oneK false x44) (endK n0 p43.2)))
def l_wattleref03_called_0 (M : Mach) (n0 : Nat) (n1 : Nat) : Rk := M.fx fun rec vs σ => b_wattleref03_called_0 M n0 n1 rec (vs.getD 0 .undef) (vs.getD 1 .undef) (vs.getD 2 .undef) (vs.getD 3 .undef) (vs.getD 4 .undef) (vs.getD 5 .undef) σ
def s_wattleref03_called (M : Mach) (a0 a1 : V) (σ : Objs) : Ro :=
  let s0 : Objs := σ ++ [.cells [(.int .i64 0), (.int .i64 0), (.int .i64 0), (.str []), (.str []), (.bool false)]]
  bd (M.call 82 [a0.nogr.nogr, a1.nogr.nogr] s0) fun p1 =>
  bd (pu (evExtr 0 p1.1.nogr.nogr)) fun x2 =>
  bd (pu (evExtr 1 p1.1.nogr.nogr)) fun x3 =>
  bd (M.call 79 [a0.nogr.nogr, x3.nogr.nogr.nogr, (.int .i64 40)] p1.2) fun p4 =>
  bd (pu (evUn .not p4.1.nogr)) fun x5 =>
  br x5.nogr (
  bd (pu (buildV [(.int .i64 0), (.int .i64 0), (.int .i64 0), (.str []), (.str []), (.bool false)] [(0, 1, (.int .i64 1)), (1, 1, a1.nogr.nogr), (2, 1, x3.nogr.nogr.nogr), (3, 1, x2.nogr.nogr.nogr)])) fun x6 =>
  bd (storeV p4.2 6 (.ptr σ.length 0) x6.nogr x6.nogr) fun p7 =>
  bd (resC p7.2 true 6 (.ptr σ.length 0)) fun x8 =>
  bd (oneK false x8) (endK σ.length p7.2)) (
  bd (pu (evBin .add .no x3.nogr.nogr.nogr (.int .i64 1))) fun x9 =>
  bd (fz p4.2.length p4.2 fzDepth a0) fun y45 =>
  bd (fz p4.2.length p4.2 fzDepth a1) fun y46 =>
  bd (fz p4.2.length p4.2 fzDepth (.ptr σ.length 0)) fun y47 =>
  bd (fz p4.2.length p4.2 fzDepth x2.nogr) fun y48 =>
  bd (fz p4.2.length p4.2 fzDepth x3.nogr) fun y49 =>
  bd (fz p4.2.length p4.2 fzDepth x9.nogr) fun y50 =>
  l_wattleref03_called_0 M σ.length p4.2.length [y45, y46, y47, y48, y49, y50] p4.2)
theorem k_wattleref03_called (M : Mach) (a0 a1 : V) (σ : Objs) : fnK M c_wattleref03_called [a0, a1] σ = s_wattleref03_called M a0 a1 σ := by kernel_rfl
def c_wattleref03_names : Ev.Fn := ⟨39, [.tmp 4, .tmp 5], false, false, (.seq (.ops 0 [⟨(some 4), none, .mv (.c (.str [])) false⟩, ⟨(some 5), none, .mv (.c (.int .i64 0)) false⟩]) (.seq (.ops 1 [⟨(some 9), none, .buildSl false 1 0 .any [] false⟩, ⟨(some 6), none, .mv (.t 9) true⟩]) (.block 0 (.loop [0, 1, 6] [4, 5] (.block 1 (.seq (.ops 2 [⟨(some 10), none, .mv (.t 0) false⟩, ⟨(some 11), none, .mv (.t 1) false⟩, ⟨(some 12), none, .call 83 [(.t 10), (.t 11)]⟩]) (.cond (.t 12) (.seq (.ops 3 [⟨(some 13), none, .mv (.t 6) true⟩, ⟨(some 14), none, .mv (.t 0) false⟩, ⟨(some 15), none, .mv (.t 1) false⟩, ⟨(some 16), none, .iaddr 1 (.t 14) (.t 15)⟩, ⟨(some 17), none, .load false 1 (.t 16)⟩, ⟨(some 18), none, .buildSl false 1 1 (.int .i64 0) [(0, (.t 17))] false⟩, ⟨(some 19), none, .app false false 1 8 (.t 13) (.t 18) true⟩, ⟨(some 6), none, .mv (.t 19) true⟩]) (.ops 4 [⟨(some 20), none, .mv (.t 1) false⟩, ⟨(some 21), none, .bin .add .no (.t 20) (.c (.int .i64 1))⟩, ⟨(some 1), none, .mv (.t 21) false⟩])) (.seq (.ops 5 [⟨(some 22), none, .mv (.t 0) false⟩, ⟨(some 23), none, .mv (.t 1) false⟩, ⟨(some 24), none, .call 84 [(.t 22), (.t 23)]⟩]) (.cond (.t 24) (.seq (.ops 6 [⟨(some 26), none, .mv (.t 0) false⟩, ⟨(some 27), none, .mv (.t 1) false⟩, ⟨(some 28), none, .call 96 [(.t 26), (.t 27)]⟩, ⟨(some 25), none, .mv (.t 28) false⟩, ⟨(some 29), none, .extr (.t 25) 0⟩, ⟨(some 30), none, .extr (.t 25) 1⟩, ⟨(some 7), none, .mv (.t 29) false⟩, ⟨(some 8), none, .mv (.t 30) false⟩]) (.seq (.ops 7 [⟨(some 31), none, .mv (.t 6) true⟩, ⟨(some 32), none, .mv (.t 7) false⟩, ⟨(some 33), none, .buildSl false 1 1 (.int .i64 0) [(0, (.t 32))] false⟩, ⟨(some 34), none, .app false false 1 8 (.t 31) (.t 33) true⟩, ⟨(some 6), none, .mv (.t 34) true⟩]) (.ops 8 [⟨(some 35), none, .mv (.t 8) false⟩, ⟨(some 1), none, .mv (.t 35) false⟩]))) (.seq (.ops 9 [⟨(some 36), none, .mv (.t 6) true⟩, ⟨(some 37), none, .call 85 [(.t 36)]⟩, ⟨(some 38), none, .mv (.t 1) false⟩, ⟨(some 4), none, .mv (.t 37) false⟩, ⟨(some 5), none, .mv (.t 38) false⟩]) .ret))))))))))⟩
theorem ok_c_wattleref03_names : chkFn Tryz.prog 82 c_wattleref03_names = true := chkFn_of Tryz.func82 (by kernel_rfl)
def j_wattleref03_names_0 (M : Mach) (n0 : Nat) (n1 : Nat) (r1 : Rk) (z0 z1 z6 : V) (σ : Objs) : Ro :=
  bd (fz n1 σ fzDepth z0) fun y1 =>
  bd (fz n1 σ fzDepth z1) fun y2 =>
  bd (fz n1 σ fzDepth z6) fun y3 =>
  bd (cutObjs n1 σ) fun s4 => r1 [y1, y2, y3] s4
def b_wattleref03_names_0 (M : Mach) (n0 : Nat) (n1 : Nat) (r1 : Rk) (z0 z1 z6 : V) (σ : Objs) : Ro :=
  bd (M.call 83 [z0.nogr.nogr, z1.nogr.nogr] σ) fun p5 =>
  br p5.1.nogr (
  bd (pu (evIaddr 1 z1.nogr.nogr z0.nogr.nogr)) fun x6 =>
  bd (pu (evLoad p5.2 false 1 x6.nogr)) fun x7 =>
  bd (buildFV false 1 1 (.int .i64 0) [(0, x7.nogr)]) fun x8 =>
  bd (appV false false 1 8 p5.2 z6 x8.nogr) fun x9 =>
  bd (pu (evBin .add .no z1.nogr.nogr (.int .i64 1))) fun x10 =>
  j_wattleref03_names_0 M n0 n1 r1 z0 x10.nogr x9 p5.2) (
  bd (M.call 84 [z0.nogr.nogr, z1.nogr.nogr] p5.2) fun p11 =>
  br p11.1.nogr (
  bd (M.call 96 [z0.nogr.nogr, z1.nogr.nogr] p11.2) fun p12 =>
  bd (pu (evExtr 0 p12.1.nogr.nogr)) fun x13 =>
  bd (pu (evExtr 1 p12.1.nogr.nogr)) fun x14 =>
  bd (buildFV false 1 1 (.int .i64 0) [(0, x13.nogr.nogr.nogr)]) fun x15 =>
  bd (appV false false 1 8 p12.2 z6 x15.nogr) fun x16 =>
  j_wattleref03_names_0 M n0 n1 r1 z0 x14.nogr.nogr.nogr x16 p12.2) (
  bd (M.call 85 [z6.nogr] p11.2) fun p17 =>
  bd (fz n1 p17.2 fzDepth p17.1.nogr) fun y18 =>
  bd (fz n1 p17.2 fzDepth z1.nogr.nogr) fun y19 =>
  bd (cutObjs n1 p17.2) fun s20 =>
  endK n0 s20 (.tup [y18.nogr, y19.nogr])))
def l_wattleref03_names_0 (M : Mach) (n0 : Nat) (n1 : Nat) : Rk := M.fx fun rec vs σ => b_wattleref03_names_0 M n0 n1 rec (vs.getD 0 .undef) (vs.getD 1 .undef) (vs.getD 2 .undef) σ
def s_wattleref03_names (M : Mach) (a0 a1 : V) (σ : Objs) : Ro :=
  bd (buildFV false 1 0 .any []) fun x0 =>
  bd (fz σ.length σ fzDepth a0) fun y21 =>
  bd (fz σ.length σ fzDepth a1) fun y22 =>
  bd (fz σ.length σ fzDepth x0) fun y23 =>
  l_wattleref03_names_0 M σ.length σ.length [y21, y22, y23] σ
theorem k_wattleref03_names (M : Mach) (a0 a1 : V) (σ : Objs) : fnK M c_wattleref03_names [a0, a1] σ = s_wattleref03_names M a0 a1 σ := by kernel_rfl
def c_wattleref03_inner : Ev.Fn := ⟨16, [.tmp 4], false, false, (.seq (.ops 0 [⟨(some 4), none, .mv (.c (.bool false)) false⟩]) (.seq (.ops 1 [⟨(some 5), none, .mv (.t 1) false⟩, ⟨(some 6), none, .mv (.t 0) false⟩, ⟨(some 7), none, .len (.t 6)⟩, ⟨(some 8), none, .bin .lss .no (.t 5) (.t 7)⟩, ⟨(some 9), none, .mv (.t 8) false⟩, ⟨(some 10), (some (9, true)), .mv (.t 0) true⟩, ⟨(some 11), (some (9, true)), .mv (.t 1) false⟩, ⟨(some 12), (some (9, true)), .iaddr 1 (.t 10) (.t 11)⟩, ⟨(some 13), (some (9, true)), .load false 1 (.t 12)⟩, ⟨(some 14), (some (9, true)), .call 101 [(.t 13)]⟩, ⟨(some 15), none, .pick (.t 9) (.t 14) (.c (.bool false))⟩, ⟨(some 4), none, .mv (.t 15) false⟩]) .ret))⟩
theorem ok_c_wattleref03_inner : chkFn Tryz.prog 83 c_wattleref03_inner = true := chkFn_of Tryz.func83 (by kernel_rfl)
def s_wattleref03_inner (M : Mach) (a0 a1 : V) (σ : Objs) : Ro :=
  bd (pu (evLen a0.nogr.nogr)) fun x0 =>
  bd (pu (evBin .lss .no a1.nogr.nogr x0.nogr)) fun x1 =>
  gd x1.nogr true (
  bd (gdv x1.nogr true (some a1.nogr)) fun x2 =>
  bd (gdv x1.nogr true (pu (evIaddr 1 x2.nogr a0.nogr))) fun x3 =>
  bd (gdv x1.nogr true (pu (evLoad σ false 1 x3.nogr))) fun x4 =>
  bd (gdp x1.nogr true (M.call 101 [x4.nogr] σ) σ) fun p5 =>
  bd (pu (pickV x1.nogr.nogr p5.1.nogr (.bool false))) fun x6 =>
  bd (oneK false x6.nogr) (endK σ.length p5.2)) (
  bd (gdv x1.nogr true (some a1.nogr)) fun x7 =>
  bd (gdv x1.nogr true (pu (evIaddr 1 x7.nogr .undef))) fun x8 =>
  bd (gdv x1.nogr true (pu (evLoad σ false 1 x8.nogr))) fun x9 =>
  bd (gdp x1.nogr true (M.call 101 [x9.nogr] σ) σ) fun p10 =>
  bd (pu (pickV x1.nogr.nogr p10.1.nogr (.bool false))) fun x11 =>
  bd (oneK false x11.nogr) (endK σ.length p10.2))
theorem k_wattleref03_inner (M : Mach) (a0 a1 : V) (σ : Objs) : fnK M c_wattleref03_inner [a0, a1] σ = s_wattleref03_inner M a0 a1 σ := by kernel_rfl
def c_wattleref03_Escape : Ev.Fn := ⟨15, [.tmp 4], false, false, (.seq (.ops 0 [⟨(some 4), none, .mv (.c (.bool false)) false⟩]) (.seq (.ops 1 [⟨(some 5), none, .mv (.t 0) false⟩, ⟨(some 6), none, .mv (.t 1) false⟩, ⟨(some 7), none, .call 79 [(.t 5), (.t 6), (.c (.int .i64 92))]⟩, ⟨(some 8), none, .mv (.t 7) false⟩, ⟨(some 9), (some (8, true)), .mv (.t 0) true⟩, ⟨(some 10), (some (8, true)), .mv (.t 1) false⟩, ⟨(some 11), (some (8, true)), .bin .add .no (.t 10) (.c (.int .i64 1))⟩, ⟨(some 12), (some (8, true)), .call 79 [(.t 9), (.t 11), (.c (.int .i64 10))]⟩, ⟨(some 13), (some (8, true)), .un .not (.t 12)⟩, ⟨(some 14), none, .pick (.t 8) (.t 13) (.c (.bool false))⟩, ⟨(some 4), none, .mv (.t 14) false⟩]) .ret))⟩
theorem ok_c_wattleref03_Escape : chkFn Tryz.prog 84 c_wattleref03_Escape = true := chkFn_of Tryz.func84 (by kernel_rfl)
def s_wattleref03_Escape (M : Mach) (a0 a1 : V) (σ : Objs) : Ro :=
  bd (M.call 79 [a0.nogr.nogr, a1.nogr.nogr, (.int .i64 92)] σ) fun p0 =>
  gd p0.1.nogr true (
  bd (gdv p0.1.nogr true (some a1.nogr)) fun x1 =>
  bd (gdv p0.1.nogr true (pu (evBin .add .no x1.nogr (.int .i64 1)))) fun x2 =>
  bd (gdp p0.1.nogr true (M.call 79 [a0.nogr, x2.nogr, (.int .i64 10)] p0.2) p0.2) fun p3 =>
  bd (gdv p0.1.nogr true (pu (evUn .not p3.1.nogr))) fun x4 =>
  bd (pu (pickV p0.1.nogr.nogr x4.nogr (.bool false))) fun x5 =>
  bd (oneK false x5.nogr) (endK σ.length p3.2)) (
  bd (gdv p0.1.nogr true (some a1.nogr)) fun x6 =>
  bd (gdv p0.1.nogr true (pu (evBin .add .no x6.nogr (.int .i64 1)))) fun x7 =>
  bd (gdp p0.1.nogr true (M.call 79 [.undef, x7.nogr, (.int .i64 10)] p0.2) p0.2) fun p8 =>
  bd (gdv p0.1.nogr true (pu (evUn .not p8.1.nogr))) fun x9 =>
  bd (pu (pickV p0.1.nogr.nogr x9.nogr (.bool false))) fun x10 =>
  bd (oneK false x10.nogr) (endK σ.length p8.2))
theorem k_wattleref03_Escape (M : Mach) (a0 a1 : V) (σ : Objs) : fnK M c_wattleref03_Escape [a0, a1] σ = s_wattleref03_Escape M a0 a1 σ := by kernel_rfl
def c_wattleref03_text : Ev.Fn := ⟨30, [.tmp 2], false, false, (.seq (.ops 0 [⟨(some 2), none, .mv (.c (.str [])) false⟩]) (.seq (.ops 1 [⟨(some 5), none, .buildSl false 1 0 .any [] false⟩, ⟨(some 3), none, .mv (.t 5) true⟩]) (.seq (.seq (.ops 2 [⟨(some 4), none, .mv (.c (.int .i64 0)) false⟩]) (.block 0 (.loop [0, 3, 4] [2, 3] (.seq (.seq (.ops 3 [⟨(some 6), none, .mv (.t 4) false⟩, ⟨(some 7), none, .mv (.t 0) false⟩, ⟨(some 8), none, .len (.t 7)⟩, ⟨(some 9), none, .bin .lss .no (.t 6) (.t 8)⟩]) (.cond (.t 9) .skip (.exit 0))) (.seq (.block 1 (.seq (.ops 5 [⟨(some 12), none, .mv (.t 0) false⟩, ⟨(some 13), none, .mv (.t 4) false⟩, ⟨(some 14), none, .iaddr 1 (.t 12) (.t 13)⟩, ⟨(some 15), none, .load false 1 (.t 14)⟩, ⟨(some 16), none, .bin .eql .no (.t 15) (.c (.int .i64 0))⟩]) (.cond (.t 16) (.ops 6 [⟨(some 17), none, .mv (.t 3) true⟩, ⟨(some 18), none, .buildSl false 1 1 (.int .i64 0) [(0, (.c (.int .i64 65533)))] false⟩, ⟨(some 19), none, .app false false 1 8 (.t 17) (.t 18) true⟩, ⟨(some 3), none, .mv (.t 19) true⟩]) (.ops 7 [⟨(some 20), none, .mv (.t 3) true⟩, ⟨(some 21), none, .mv (.t 0) false⟩, ⟨(some 22), none, .mv (.t 4) false⟩, ⟨(some 23), none, .iaddr 1 (.t 21) (.t 22)⟩, ⟨(some 24), none, .load false 1 (.t 23)⟩, ⟨(some 25), none, .buildSl false 1 1 (.int .i64 0) [(0, (.t 24))] false⟩, ⟨(some 26), none, .app false false 1 8 (.t 20) (.t 25) true⟩, ⟨(some 3), none, .mv (.t 26) true⟩])))) (.ops 4 [⟨(some 10), none, .mv (.t 4) false⟩, ⟨(some 11), none, .bin .add .no (.t 10) (.c (.int .i64 1))⟩, ⟨(some 4), none, .mv (.t 11) false⟩])))))) (.seq (.ops 8 [⟨(some 27), none, .mv (.t 3) true⟩, ⟨(some 28), none, .call 102 [(.t 27)]⟩, ⟨(some 29), none, .conv .bytesStr (.t 28)⟩, ⟨(some 2), none, .mv (.t 29) false⟩]) .ret))))⟩
theorem ok_c_wattleref03_text : chkFn Tryz.prog 85 c_wattleref03_text = true := chkFn_of Tryz.func85 (by kernel_rfl)
def j_wattleref03_text_0 (M : Mach) (n0 : Nat) (n1 : Nat) (r1 : Rk) (z0 z3 z4 : V) (σ : Objs) : Ro :=
  bd (pu (evBin .add .no z4.nogr.nogr (.int .i64 1))) fun x3 =>
  bd (fz n1 σ fzDepth z0) fun y4 =>
  bd (fz n1 σ fzDepth z3) fun y5 =>
  bd (fz n1 σ fzDepth x3.nogr) fun y6 =>
  bd (cutObjs n1 σ) fun s7 => r1 [y4, y5, y6] s7
def b_wattleref03_text_0 (M : Mach) (n0 : Nat) (n1 : Nat) (r1 : Rk) (z0 z3 z4 : V) (σ : Objs) : Ro :=
  bd (pu (evLen z0.nogr.nogr)) fun x1 =>
  bd (pu (evBin .lss .no z4.nogr.nogr x1.nogr)) fun x2 =>
  br x2.nogr (
  bd (pu (evIaddr 1 z4.nogr.nogr z0.nogr.nogr)) fun x8 =>
  bd (pu (evLoad σ false 1 x8.nogr)) fun x9 =>
  bd (pu (evBin .eql .no x9.nogr (.int .i64 0))) fun x10 =>
  br x10.nogr (
  bd (buildFV false 1 1 (.int .i64 0) [(0, (.int .i64 65533))]) fun x11 =>
  bd (appV false false 1 8 σ z3 x11.nogr) fun x12 =>
  j_wattleref03_text_0 M n0 n1 r1 z0 x12 z4 σ) (
  bd (pu (evIaddr 1 z4.nogr.nogr z0.nogr.nogr)) fun x13 =>
  bd (pu (evLoad σ false 1 x13.nogr)) fun x14 =>
  bd (buildFV false 1 1 (.int .i64 0) [(0, x14.nogr)]) fun x15 =>
  bd (appV false false 1 8 σ z3 x15.nogr) fun x16 =>
  j_wattleref03_text_0 M n0 n1 r1 z0 x16 z4 σ)) (
  bd (fz n1 σ fzDepth .any) fun y17 =>
  bd (fz n1 σ fzDepth z3) fun y18 =>
  bd (cutObjs n1 σ) fun s19 =>
  bd (M.call 102 [y18.nogr] s19) fun p20 =>
  bd (pu (evConv p20.2 .bytesStr p20.1.nogr)) fun x21 =>
  bd (oneK false x21.nogr) (endK n0 p20.2))
def l_wattleref03_text_0 (M : Mach) (n0 : Nat) (n1 : Nat) : Rk := M.fx fun rec vs σ => b_wattleref03_text_0 M n0 n1 rec (vs.getD 0 .undef) (vs.getD 1 .undef) (vs.getD 2 .undef) σ
def s_wattleref03_text (M : Mach) (a0 : V) (σ : Objs) : Ro :=
  bd (buildFV false 1 0 .any []) fun x0 =>
  bd (fz σ.length σ fzDepth a0) fun y22 =>
  bd (fz σ.length σ fzDepth x0) fun y23 =>
  bd (fz σ.length σ fzDepth (.int .i64 0)) fun y24 =>
  l_wattleref03_text_0 M σ.length σ.length [y22, y23, y24] σ
theorem k_wattleref03_text (M : Mach) (a0 : V) (σ : Objs) : fnK M c_wattleref03_text [a0] σ = s_wattleref03_text M a0 σ := by kernel_rfl
def c_chars_Small : Ev.Fn := ⟨13, [.tmp 2], false, false, (.seq (.ops 0 [⟨(some 2), none, .mv (.c (.int .i64 0)) false⟩]) (.seq (.seq (.ops 1 [⟨(some 3), none, .mv (.t 0) false⟩, ⟨(some 4), none, .bin .geq .no (.t 3) (.c (.int .i64 65))⟩, ⟨(some 5), none, .mv (.t 4) false⟩, ⟨(some 6), (some (5, true)), .mv (.t 0) false⟩, ⟨(some 7), (some (5, true)), .bin .leq .no (.t 6) (.c (.int .i64 90))⟩, ⟨(some 8), none, .pick (.t 5) (.t 7) (.c (.bool false))⟩]) (.cond (.t 8) (.seq (.ops 2 [⟨(some 9), none, .mv (.t 0) false⟩, ⟨(some 10), none, .bin .add .no (.t 9) (.c (.int .i64 97))⟩, ⟨(some 11), none, .bin .sub .no (.t 10) (.c (.int .i64 65))⟩, ⟨(some 2), none, .mv (.t 11) false⟩]) .ret) .skip)) (.seq (.ops 3 [⟨(some 12), none, .mv (.t 0) false⟩, ⟨(some 2), none, .mv (.t 12) false⟩]) .ret)))⟩
theorem ok_c_chars_Small : chkFn Tryz.prog 70 c_chars_Small = true := chkFn_of Tryz.func70 (by kernel_rfl)
def s_chars_Small (M : Mach) (a0 : V) (σ : Objs) : Ro :=
  bd (pu (evBin .geq .no a0.nogr.nogr (.int .i64 65))) fun x0 =>
  bd (gdv x0.nogr true (some a0.nogr)) fun x1 =>
  bd (gdv x0.nogr true (pu (evBin .leq .no x1.nogr (.int .i64 90)))) fun x2 =>
  bd (pu (pickV x0.nogr.nogr x2.nogr (.bool false))) fun x3 =>
  br x3.nogr (
  bd (pu (evBin .add .no a0.nogr.nogr (.int .i64 97))) fun x4 =>
  bd (pu (evBin .sub .no x4.nogr (.int .i64 65))) fun x5 =>
  bd (oneK false x5.nogr) (endK σ.length σ)) (
  bd (oneK false a0.nogr.nogr) (endK σ.length σ))
theorem k_chars_Small (M : Mach) (a0 : V) (σ : Objs) : fnK M c_chars_Small [a0] σ = s_chars_Small M a0 σ := by kernel_rfl
def c_internal_stringslite_CutPrefix : Ev.Fn := ⟨15, [.tmp 4, .tmp 5], false, false, (.seq (.ops 0 [⟨(some 4), none, .mv (.c (.str [])) false⟩, ⟨(some 5), none, .mv (.c (.bool false)) false⟩]) (.seq (.seq (.ops 1 [⟨(some 6), none, .mv (.t 0) false⟩, ⟨(some 7), none, .mv (.t 1) false⟩, ⟨(some 8), none, .call 72 [(.t 6), (.t 7)]⟩, ⟨(some 9), none, .un .not (.t 8)⟩]) (.cond (.t 9) (.seq (.ops 2 [⟨(some 10), none, .mv (.t 0) false⟩, ⟨(some 4), none, .mv (.t 10) false⟩, ⟨(some 5), none, .mv (.c (.bool false)) false⟩]) .ret) .skip)) (.seq (.ops 3 [⟨(some 11), none, .mv (.t 0) false⟩, ⟨(some 12), none, .mv (.t 1) false⟩, ⟨(some 13), none, .lenS (.t 12)⟩, ⟨(some 14), none, .cutS (.t 11) (some (.t 13)) none⟩, ⟨(some 4), none, .mv (.t 14) false⟩, ⟨(some 5), none, .mv (.c (.bool true)) false⟩]) .ret)))⟩
theorem ok_c_internal_stringslite_CutPrefix : chkFn Tryz.prog 71 c_internal_stringslite_CutPrefix = true := chkFn_of Tryz.func71 (by kernel_rfl)
def s_internal_stringslite_CutPrefix (M : Mach) (a0 a1 : V) (σ : Objs) : Ro :=
  bd (M.call 72 [a0.nogr.nogr, a1.nogr.nogr] σ) fun p0 =>
  bd (pu (evUn .not p0.1.nogr)) fun x1 =>
  br x1.nogr (
  endK σ.length p0.2 (.tup [a0.nogr.nogr.nogr, (.bool false)])) (
  bd (pu (evLenS a1.nogr.nogr)) fun x2 =>
  bd (pu (evCutS a0.nogr.nogr (some x2.nogr) none)) fun x3 =>
  endK σ.length p0.2 (.tup [x3.nogr.nogr, (.bool true)]))
theorem k_internal_stringslite_CutPrefix (M : Mach) (a0 a1 : V) (σ : Objs) : fnK M c_internal_stringslite_CutPrefix [a0, a1] σ = s_internal_stringslite_CutPrefix M a0 a1 σ := by kernel_rfl
def c_internal_stringslite_HasPrefix : Ev.Fn := ⟨18, [.tmp 4], false, false, (.seq (.ops 0 [⟨(some 4), none, .mv (.c (.bool false)) false⟩]) (.seq (.ops 1 [⟨(some 5), none, .mv (.t 0) false⟩, ⟨(some 6), none, .lenS (.t 5)⟩, ⟨(some 7), none, .mv (.t 1) false⟩, ⟨(some 8), none, .lenS (.t 7)⟩, ⟨(some 9), none, .bin .geq .no (.t 6) (.t 8)⟩, ⟨(some 10), none, .mv (.t 9) false⟩, ⟨(some 11), (some (10, true)), .mv (.t 0) false⟩, ⟨(some 12), (some (10, true)), .mv (.t 1) false⟩, ⟨(some 13), (some (10, true)), .lenS (.t 12)⟩, ⟨(some 14), (some (10, true)), .cutS (.t 11) none (some (.t 13))⟩, ⟨(some 15), (some (10, true)), .mv (.t 1) false⟩, ⟨(some 16), (some (10, true)), .bin .eql .no (.t 14) (.t 15)⟩, ⟨(some 17), none, .pick (.t 10) (.t 16) (.c (.bool false))⟩, ⟨(some 4), none, .mv (.t 17) false⟩]) .ret))⟩
theorem ok_c_internal_stringslite_HasPrefix : chkFn Tryz.prog 72 c_internal_stringslite_HasPrefix = true := chkFn_of Tryz.func72 (by kernel_rfl)
def s_internal_stringslite_HasPrefix (M : Mach) (a0 a1 : V) (σ : Objs) : Ro :=
  bd (pu (evLenS a0.nogr.nogr)) fun x0 =>
  bd (pu (evLenS a1.nogr.nogr)) fun x1 =>
  bd (pu (evBin .geq .no x0.nogr x1.nogr)) fun x2 =>
  bd (gdv x2.nogr true (some a0.nogr)) fun x3 =>
  bd (gdv x2.nogr true (some a1.nogr)) fun x4 =>
  bd (gdv x2.nogr true (pu (evLenS x4.nogr))) fun x5 =>
  bd (gdv x2.nogr true (pu (evCutS x3.nogr none (some x5.nogr)))) fun x6 =>
  bd (gdv x2.nogr true (some a1.nogr)) fun x7 =>
  bd (gdv x2.nogr true (pu (evBin .eql .no x6.nogr x7.nogr))) fun x8 =>
  bd (pu (pickV x2.nogr.nogr x8.nogr (.bool false))) fun x9 =>
  bd (oneK false x9.nogr) (endK σ.length σ)
theorem k_internal_stringslite_HasPrefix (M : Mach) (a0 a1 : V) (σ : Objs) : fnK M c_internal_stringslite_HasPrefix [a0, a1] σ = s_internal_stringslite_HasPrefix M a0 a1 σ := by kernel_rfl
def c___strings_asciiSet__contains : Ev.Fn := ⟨10, [.tmp 4], false, false, (.seq (.ops 0 [⟨(some 4), none, .mv (.c (.bool false)) false⟩]) (.seq (.ops 1 [⟨(some 5), none, .mv (.t 0) false⟩, ⟨(some 6), none, .mv (.t 1) false⟩, ⟨(some 7), none, .nilc (.t 5)⟩, ⟨(some 8), none, .iaddrA 256 1 (.t 7) (.t 6)⟩, ⟨(some 9), none, .load false 1 (.t 8)⟩, ⟨(some 4), none, .mv (.t 9) false⟩]) .ret))⟩
theorem ok_c___strings_asciiSet__contains : chkFn Tryz.prog 89 c___strings_asciiSet__contains = true := chkFn_of Tryz.func89 (by kernel_rfl)
def s___strings_asciiSet__contains (M : Mach) (a0 a1 : V) (σ : Objs) : Ro :=
  bd (pu (evNilc a0.nogr.nogr)) fun x0 =>
  bd (pu (evIaddrA 256 1 a1.nogr.nogr x0.nogr)) fun x1 =>
  bd (pu (evLoad σ false 1 x1.nogr)) fun x2 =>
  bd (oneK false x2.nogr) (endK σ.length σ)
theorem k___strings_asciiSet__contains (M : Mach) (a0 a1 : V) (σ : Objs) : fnK M c___strings_asciiSet__contains [a0, a1] σ = s___strings_asciiSet__contains M a0 a1 σ := by kernel_rfl
def c_unicode_utf8_DecodeRuneInString : Ev.Fn := ⟨19, [.tmp 2, .tmp 3], false, false, (.seq (.ops 0 [⟨(some 2), none, .mv (.c (.int .i32 0)) false⟩, ⟨(some 3), none, .mv (.c (.int .i64 0)) false⟩]) (.seq (.seq (.ops 1 [⟨(some 4), none, .mv (.t 0) false⟩, ⟨(some 5), none, .bin .neq .no (.t 4) (.c (.str []))⟩, ⟨(some 6), none, .mv (.t 5) false⟩, ⟨(some 7), (some (6, true)), .mv (.t 0) false⟩, ⟨(some 8), (some (6, true)), .idx (.t 7) (.c (.int .i64 0))⟩, ⟨(some 9), (some (6, true)), .bin .lss .no (.t 8) (.c (.int .u8 128))⟩, ⟨(some 10), none, .pick (.t 6) (.t 9) (.c (.bool false))⟩]) (.cond (.t 10) (.seq (.ops 2 [⟨(some 11), none, .mv (.t 0) false⟩, ⟨(some 12), none, .idx (.t 11) (.c (.int .i64 0))⟩, ⟨(some 13), none, .conv (.toInt .i32) (.t 12)⟩, ⟨(some 2), none, .mv (.t 13) false⟩, ⟨(some 3), none, .mv (.c (.int .i64 1)) false⟩]) .ret) (.ops 3 [⟨(some 15), none, .mv (.t 0) false⟩, ⟨(some 16), none, .call 105 [(.t 15)]⟩, ⟨(some 14), none, .mv (.t 16) false⟩, ⟨(some 17), none, .extr (.t 14) 0⟩, ⟨(some 18), none, .extr (.t 14) 1⟩, ⟨(some 2), none, .mv (.t 17) false⟩, ⟨(some 3), none, .mv (.t 18) false⟩]))) .ret))⟩
theorem ok_c_unicode_utf8_DecodeRuneInString : chkFn Tryz.prog 90 c_unicode_utf8_DecodeRuneInString = true := chkFn_of Tryz.func90 (by kernel_rfl)
def s_unicode_utf8_DecodeRuneInString (M : Mach) (a0 : V) (σ : Objs) : Ro :=
  bd (pu (evBin .neq .no a0.nogr.nogr (.str []))) fun x0 =>
  bd (gdv x0.nogr true (some a0.nogr)) fun x1 =>
  bd (gdv x0.nogr true (pu (evIdx (.int .i64 0) x1.nogr))) fun x2 =>
  bd (gdv x0.nogr true (pu (evBin .lss .no x2.nogr (.int .u8 128)))) fun x3 =>
  bd (pu (pickV x0.nogr.nogr x3.nogr (.bool false))) fun x4 =>
  br x4.nogr (
  bd (pu (evIdx (.int .i64 0) a0.nogr.nogr)) fun x5 =>
  bd (pu (evConv σ (.toInt .i32) x5.nogr)) fun x6 =>
  endK σ.length σ (.tup [x6.nogr.nogr, (.int .i64 1)])) (
  bd (M.call 105 [a0.nogr.nogr] σ) fun p7 =>
  bd (pu (evExtr 0 p7.1.nogr.nogr)) fun x8 =>
  bd (pu (evExtr 1 p7.1.nogr.nogr)) fun x9 =>
  endK σ.length p7.2 (.tup [x8.nogr.nogr, x9.nogr.nogr]))
theorem k_unicode_utf8_DecodeRuneInString (M : Mach) (a0 : V) (σ : Objs) : fnK M c_unicode_utf8_DecodeRuneInString [a0] σ = s_unicode_utf8_DecodeRuneInString M a0 σ := by kernel_rfl
def c_strings_ContainsRune : Ev.Fn := ⟨9, [.tmp 4], false, false, (.seq (.ops 0 [⟨(some 4), none, .mv (.c (.bool false)) false⟩]) (.seq (.ops 1 [⟨(some 5), none, .mv (.t 0) false⟩, ⟨(some 6), none, .mv (.t 1) false⟩, ⟨(some 7), none, .call 106 [(.t 5), (.t 6)]⟩, ⟨(some 8), none, .bin .geq .no (.t 7) (.c (.int .i64 0))⟩, ⟨(some 4), none, .mv (.t 8) false⟩]) .ret))⟩
theorem ok_c_strings_ContainsRune : chkFn Tryz.prog 91 c_strings_ContainsRune = true := chkFn_of Tryz.func91 (by kernel_rfl)
def s_strings_ContainsRune (M : Mach) (a0 a1 : V) (σ : Objs) : Ro :=
  bd (M.call 106 [a0.nogr.nogr, a1.nogr.nogr] σ) fun p0 =>
  bd (pu (evBin .geq .no p0.1.nogr (.int .i64 0))) fun x1 =>
  bd (oneK false x1.nogr) (endK σ.length p0.2)
theorem k_strings_ContainsRune (M : Mach) (a0 a1 : V) (σ : Objs) : fnK M c_strings_ContainsRune [a0, a1] σ = s_strings_ContainsRune M a0 a1 σ := by kernel_rfl
def c_wattleref02_Small : Ev.Fn := ⟨12, [.tmp 2], false, false, (.seq (.ops 0 [⟨(some 2), none, .mv (.c (.int .i64 0)) false⟩]) (.seq (.seq (.ops 1 [⟨(some 3), none, .mv (.t 0) false⟩, ⟨(some 4), none, .bin .geq .no (.t 3) (.c (.int .i64 65))⟩, ⟨(some 5), none, .mv (.t 4) false⟩, ⟨(some 6), (some (5, true)), .mv (.t 0) false⟩, ⟨(some 7), (some (5, true)), .bin .leq .no (.t 6) (.c (.int .i64 90))⟩, ⟨(some 8), none, .pick (.t 5) (.t 7) (.c (.bool false))⟩]) (.cond (.t 8) (.seq (.ops 2 [⟨(some 9), none, .mv (.t 0) false⟩, ⟨(some 10), none, .bin .add .no (.t 9) (.c (.int .i64 32))⟩, ⟨(some 2), none, .mv (.t 10) false⟩]) .ret) .skip)) (.seq (.ops 3 [⟨(some 11), none, .mv (.t 0) false⟩, ⟨(some 2), none, .mv (.t 11) false⟩]) .ret)))⟩
theorem ok_c_wattleref02_Small : chkFn Tryz.prog 92 c_wattleref02_Small = true := chkFn_of Tryz.func92 (by kernel_rfl)
def s_wattleref02_Small (M : Mach) (a0 : V) (σ : Objs) : Ro :=
  bd (pu (evBin .geq .no a0.nogr.nogr (.int .i64 65))) fun x0 =>
  bd (gdv x0.nogr true (some a0.nogr)) fun x1 =>
  bd (gdv x0.nogr true (pu (evBin .leq .no x1.nogr (.int .i64 90)))) fun x2 =>
  bd (pu (pickV x0.nogr.nogr x2.nogr (.bool false))) fun x3 =>
  br x3.nogr (
  bd (pu (evBin .add .no a0.nogr.nogr (.int .i64 32))) fun x4 =>
  bd (oneK false x4.nogr) (endK σ.length σ)) (
  bd (oneK false a0.nogr.nogr) (endK σ.length σ))
theorem k_wattleref02_Small (M : Mach) (a0 : V) (σ : Objs) : fnK M c_wattleref02_Small [a0] σ = s_wattleref02_Small M a0 σ := by kernel_rfl
def c_internal_strconv_FormatInt : Ev.Fn := ⟨54, [.tmp 4], false, false, (.seq (.ops 0 [⟨(some 4), none, .mv (.c (.str [])) false⟩]) (.seq (.seq (.ops 1 [⟨(some 10), none, .mv (.t 1) false⟩, ⟨(some 11), none, .bin .eql .no (.t 10) (.c (.int .i64 10))⟩]) (.cond (.t 11) (.seq (.seq (.ops 2 [⟨(some 12), none, .mv (.t 0) false⟩, ⟨(some 13), none, .bin .leq .no (.c (.int .i64 0)) (.t 12)⟩, ⟨(some 14), none, .mv (.t 13) false⟩, ⟨(some 15), (some (14, true)), .mv (.t 0) false⟩, ⟨(some 16), (some (14, true)), .bin .lss .no (.t 15) (.c (.int .i64 100))⟩, ⟨(some 17), none, .pick (.t 14) (.t 16) (.c (.bool false))⟩]) (.cond (.t 17) (.seq (.ops 3 [⟨(some 18), none, .mv (.t 0) false⟩, ⟨(some 19), none, .call 107 [(.t 18)]⟩, ⟨(some 4), none, .mv (.t 19) false⟩]) .ret) .skip)) (.seq (.ops 4 [⟨(some 5), none, .alloc [(.int .u8 0), (.int .u8 0), (.int .u8 0), (.int .u8 0), (.int .u8 0), (.int .u8 0), (.int .u8 0), (.int .u8 0), (.int .u8 0), (.int .u8 0), (.int .u8 0), (.int .u8 0), (.int .u8 0), (.int .u8 0), (.int .u8 0), (.int .u8 0), (.int .u8 0), (.int .u8 0), (.int .u8 0), (.int .u8 0), (.int .u8 0), (.int .u8 0), (.int .u8 0), (.int .u8 0)]⟩]) (.seq (.ops 5 [⟨(some 20), none, .mv (.t 0) false⟩, ⟨(some 21), none, .conv (.toInt .u64) (.t 20)⟩, ⟨(some 6), none, .mv (.t 21) false⟩]) (.seq (.seq (.ops 6 [⟨(some 22), none, .mv (.t 0) false⟩, ⟨(some 23), none, .bin .lss .no (.t 22) (.c (.int .i64 0))⟩]) (.cond (.t 23) (.ops 7 [⟨(some 24), none, .mv (.t 6) false⟩, ⟨(some 25), none, .un .neg (.t 24)⟩, ⟨(some 6), none, .mv (.t 25) false⟩]) .skip)) (.seq (.ops 8 [⟨(some 26), none, .mv (.t 6) false⟩, ⟨(some 27), none, .call 108 [(.t 26)]⟩, ⟨(some 7), none, .mv (.t 27) false⟩]) (.seq (.ops 9 [⟨(some 28), none, .mv (.t 7) false⟩, ⟨(some 29), none, .bin .add .no (.c (.int .i64 1)) (.t 28)⟩, ⟨(some 30), none, .cutA 24 1 false (.t 5) (some (.c (.int .i64 1))) (some (.t 29))⟩, ⟨(some 31), none, .mv (.t 6) false⟩, ⟨(some 32), none, .call 109 [(.t 30), (.t 31)]⟩]) (.seq (.seq (.ops 10 [⟨(some 33), none, .mv (.t 0) false⟩, ⟨(some 34), none, .bin .lss .no (.t 33) (.c (.int .i64 0))⟩]) (.cond (.t 34) (.seq (.ops 11 [⟨(some 35), none, .iaddrA 24 1 (.t 5) (.c (.int .i64 0))⟩, ⟨none, none, .store 1 (.t 35) (.c (.int .u8 45)) false⟩]) (.seq (.ops 12 [⟨(some 36), none, .mv (.t 7) false⟩, ⟨(some 37), none, .bin .add .no (.c (.int .i64 1)) (.t 36)⟩, ⟨(some 38), none, .cutA 24 1 false (.t 5) none (some (.t 37))⟩, ⟨(some 39), none, .conv .bytesStr (.t 38)⟩, ⟨(some 4), none, .mv (.t 39) false⟩]) .ret)) .skip)) (.seq (.ops 13 [⟨(some 40), none, .mv (.t 7) false⟩, ⟨(some 41), none, .bin .add .no (.c (.int .i64 1)) (.t 40)⟩, ⟨(some 42), none, .cutA 24 1 false (.t 5) (some (.c (.int .i64 1))) (some (.t 41))⟩, ⟨(some 43), none, .conv .bytesStr (.t 42)⟩, ⟨(some 4), none, .mv (.t 43) false⟩]) .ret)))))))) .skip)) (.seq (.ops 14 [⟨(some 45), none, .mv (.t 0) false⟩, ⟨(some 46), none, .conv (.toInt .u64) (.t 45)⟩, ⟨(some 47), none, .mv (.t 1) false⟩, ⟨(some 48), none, .mv (.t 0) false⟩, ⟨(some 49), none, .bin .lss .no (.t 48) (.c (.int .i64 0))⟩, ⟨(some 50), none, .call 110 [(.c .nils), (.t 46), (.t 47), (.t 49), (.c (.bool false))]⟩, ⟨(some 44), none, .mv (.t 50) false⟩, ⟨(some 51), none, .extr (.t 44) 0⟩, ⟨(some 52), none, .extr (.t 44) 1⟩, ⟨(some 8), none, .mv (.t 51) false⟩, ⟨(some 9), none, .mv (.t 52) false⟩]) (.seq (.ops 15 [⟨(some 53), none, .mv (.t 9) false⟩, ⟨(some 4), none, .mv (.t 53) false⟩]) .ret))))⟩
theorem ok_c_internal_strconv_FormatInt : chkFn Tryz.prog 95 c_internal_strconv_FormatInt = true := chkFn_of Tryz.func95 (by kernel_rfl)
def j_internal_strconv_FormatInt_0 (M : Mach) (n0 : Nat) (z0 z5 z6 : V) (σ : Objs) : Ro :=
  bd (M.call 108 [z6.nogr.nogr] σ) fun p8 =>
  bd (pu (evBin .add .no (.int .i64 1) p8.1.nogr.nogr.nogr)) fun x9 =>
  bd (pu (evCutA 24 1 false z5.nogr (some (.int .i64 1)) (some x9.nogr))) fun x10 =>
  bd (M.call 109 [x10.nogr, z6.nogr.nogr] p8.2) fun p11 =>
  bd (pu (evBin .lss .no z0.nogr.nogr (.int .i64 0))) fun x12 =>
  br x12.nogr (
  bd (pu (evIaddrA 24 1 (.int .i64 0) z5.nogr)) fun x13 =>
  bd (storeV p11.2 1 x13.nogr (.int .u8 45) (.int .u8 45)) fun p14 =>
  bd (pu (evBin .add .no (.int .i64 1) p8.1.nogr.nogr.nogr)) fun x15 =>
  bd (pu (evCutA 24 1 false z5.nogr none (some x15.nogr))) fun x16 =>
  bd (pu (evConv p14.2 .bytesStr x16.nogr)) fun x17 =>
  bd (oneK false x17.nogr) (endK n0 p14.2)) (
  bd (pu (evBin .add .no (.int .i64 1) p8.1.nogr.nogr.nogr)) fun x18 =>
  bd (pu (evCutA 24 1 false z5.nogr (some (.int .i64 1)) (some x18.nogr))) fun x19 =>
  bd (pu (evConv p11.2 .bytesStr x19.nogr)) fun x20 =>
  bd (oneK false x20.nogr) (endK n0 p11.2))
def s_internal_strconv_FormatInt (M : Mach) (a0 a1 : V) (σ : Objs) : Ro :=
  bd (pu (evBin .eql .no a1.nogr.nogr (.int .i64 10))) fun x0 =>
  br x0.nogr (
  bd (pu (evBin .leq .no (.int .i64 0) a0.nogr.nogr)) fun x1 =>
  bd (gdv x1.nogr true (some a0.nogr)) fun x2 =>
  bd (gdv x1.nogr true (pu (evBin .lss .no x2.nogr (.int .i64 100)))) fun x3 =>
  bd (pu (pickV x1.nogr.nogr x3.nogr (.bool false))) fun x4 =>
  br x4.nogr (
  bd (M.call 107 [a0.nogr.nogr] σ) fun p5 =>
  bd (oneK false p5.1.nogr) (endK σ.length p5.2)) (
  let s6 : Objs := σ ++ [.cells [(.int .u8 0), (.int .u8 0), (.int .u8 0), (.int .u8 0), (.int .u8 0), (.int .u8 0), (.int .u8 0), (.int .u8 0), (.int .u8 0), (.int .u8 0), (.int .u8 0), (.int .u8 0), (.int .u8 0), (.int .u8 0), (.int .u8 0), (.int .u8 0), (.int .u8 0), (.int .u8 0), (.int .u8 0), (.int .u8 0), (.int .u8 0), (.int .u8 0), (.int .u8 0), (.int .u8 0)]]
  bd (pu (evConv s6 (.toInt .u64) a0.nogr.nogr)) fun x7 =>
  bd (pu (evBin .lss .no a0.nogr.nogr (.int .i64 0))) fun x21 =>
  br x21.nogr (
  bd (pu (evUn .neg x7.nogr.nogr.nogr)) fun x22 =>
  j_internal_strconv_FormatInt_0 M σ.length a0 (.ptr σ.length 0) x22.nogr s6) (
  j_internal_strconv_FormatInt_0 M σ.length a0 (.ptr σ.length 0) x7.nogr s6))) (
  bd (pu (evConv σ (.toInt .u64) a0.nogr.nogr)) fun x23 =>
  bd (pu (evBin .lss .no a0.nogr.nogr (.int .i64 0))) fun x24 =>
  bd (M.call 110 [.nils, x23.nogr, a1.nogr.nogr, x24.nogr, (.bool false)] σ) fun p25 =>
  bd (pu (evExtr 0 p25.1.nogr.nogr)) fun x26 =>
  bd (pu (evExtr 1 p25.1.nogr.nogr)) fun x27 =>
  bd (oneK false x27.nogr.nogr.nogr) (endK σ.length p25.2))
theorem k_internal_strconv_FormatInt (M : Mach) (a0 a1 : V) (σ : Objs) : fnK M c_internal_strconv_FormatInt [a0, a1] σ = s_internal_strconv_FormatInt M a0 a1 σ := by kernel_rfl
def c_wattleref01_Put : Ev.Fn := ⟨54, [.tmp 2], false, false, (.seq (.ops 0 [⟨(some 2), none, .mv (.c .nils) false⟩]) (.seq (.seq (.ops 1 [⟨(some 3), none, .mv (.t 0) false⟩, ⟨(some 4), none, .bin .lss .no (.t 3) (.c (.int .i64 128))⟩]) (.cond (.t 4) (.seq (.ops 2 [⟨(some 5), none, .mv (.t 0) false⟩, ⟨(some 6), none, .conv (.toInt .u8) (.t 5)⟩, ⟨(some 7), none, .buildSl false 1 1 (.int .u8 0) [(0, (.t 6))] false⟩, ⟨(some 2), none, .mv (.t 7) true⟩]) .ret) .skip)) (.seq (.seq (.ops 3 [⟨(some 8), none, .mv (.t 0) false⟩, ⟨(some 9), none, .bin .lss .no (.t 8) (.c (.int .i64 2048))⟩]) (.cond (.t 9) (.seq (.ops 4 [⟨(some 10), none, .mv (.t 0) false⟩, ⟨(some 11), none, .bin .quo .no (.t 10) (.c (.int .i64 64))⟩, ⟨(some 12), none, .bin .add .no (.c (.int .i64 192)) (.t 11)⟩, ⟨(some 13), none, .conv (.toInt .u8) (.t 12)⟩, ⟨(some 14), none, .mv (.t 0) false⟩, ⟨(some 15), none, .bin .rem .no (.t 14) (.c (.int .i64 64))⟩, ⟨(some 16), none, .bin .add .no (.c (.int .i64 128)) (.t 15)⟩, ⟨(some 17), none, .conv (.toInt .u8) (.t 16)⟩, ⟨(some 18), none, .buildSl false 1 2 (.int .u8 0) [(0, (.t 13)), (1, (.t 17))] false⟩, ⟨(some 2), none, .mv (.t 18) true⟩]) .ret) .skip)) (.seq (.seq (.ops 5 [⟨(some 19), none, .mv (.t 0) false⟩, ⟨(some 20), none, .bin .lss .no (.t 19) (.c (.int .i64 65536))⟩]) (.cond (.t 20) (.seq (.ops 6 [⟨(some 21), none, .mv (.t 0) false⟩, ⟨(some 22), none, .bin .quo .no (.t 21) (.c (.int .i64 4096))⟩, ⟨(some 23), none, .bin .add .no (.c (.int .i64 224)) (.t 22)⟩, ⟨(some 24), none, .conv (.toInt .u8) (.t 23)⟩, ⟨(some 25), none, .mv (.t 0) false⟩, ⟨(some 26), none, .bin .quo .no (.t 25) (.c (.int .i64 64))⟩, ⟨(some 27), none, .bin .rem .no (.t 26) (.c (.int .i64 64))⟩, ⟨(some 28), none, .bin .add .no (.c (.int .i64 128)) (.t 27)⟩, ⟨(some 29), none, .conv (.toInt .u8) (.t 28)⟩, ⟨(some 30), none, .mv (.t 0) false⟩, ⟨(some 31), none, .bin .rem .no (.t 30) (.c (.int .i64 64))⟩, ⟨(some 32), none, .bin .add .no (.c (.int .i64 128)) (.t 31)⟩, ⟨(some 33), none, .conv (.toInt .u8) (.t 32)⟩, ⟨(some 34), none, .buildSl false 1 3 (.int .u8 0) [(0, (.t 24)), (1, (.t 29)), (2, (.t 33))] false⟩, ⟨(some 2), none, .mv (.t 34) true⟩]) .ret) .skip)) (.seq (.ops 7 [⟨(some 35), none, .mv (.t 0) false⟩, ⟨(some 36), none, .bin .quo .no (.t 35) (.c (.int .i64 262144))⟩, ⟨(some 37), none, .bin .add .no (.c (.int .i64 240)) (.t 36)⟩, ⟨(some 38), none, .conv (.toInt .u8) (.t 37)⟩, ⟨(some 39), none, .mv (.t 0) false⟩, ⟨(some 40), none, .bin .quo .no (.t 39) (.c (.int .i64 4096))⟩, ⟨(some 41), none, .bin .rem .no (.t 40) (.c (.int .i64 64))⟩, ⟨(some 42), none, .bin .add .no (.c (.int .i64 128)) (.t 41)⟩, ⟨(some 43), none, .conv (.toInt .u8) (.t 42)⟩, ⟨(some 44), none, .mv (.t 0) false⟩, ⟨(some 45), none, .bin .quo .no (.t 44) (.c (.int .i64 64))⟩, ⟨(some 46), none, .bin .rem .no (.t 45) (.c (.int .i64 64))⟩, ⟨(some 47), none, .bin .add .no (.c (.int .i64 128)) (.t 46)⟩, ⟨(some 48), none, .conv (.toInt .u8) (.t 47)⟩, ⟨(some 49), none, .mv (.t 0) false⟩, ⟨(some 50), none, .bin .rem .no (.t 49) (.c (.int .i64 64))⟩, ⟨(some 51), none, .bin .add .no (.c (.int .i64 128)) (.t 50)⟩, ⟨(some 52), none, .conv (.toInt .u8) (.t 51)⟩, ⟨(some 53), none, .buildSl false 1 4 (.int .u8 0) [(0, (.t 38)), (1, (.t 43)), (2, (.t 48)), (3, (.t 52))] false⟩, ⟨(some 2), none, .mv (.t 53) true⟩]) .ret)))))⟩
theorem ok_c_wattleref01_Put : chkFn Tryz.prog 103 c_wattleref01_Put = true := chkFn_of Tryz.func103 (by kernel_rfl)
def s_wattleref01_Put (M : Mach) (a0 : V) (σ : Objs) : Ro :=
  bd (pu (evBin .lss .no a0.nogr.nogr (.int .i64 128))) fun x0 =>
  br x0.nogr (
  bd (pu (evConv σ (.toInt .u8) a0.nogr.nogr)) fun x1 =>
  bd (buildFV false 1 1 (.int .u8 0) [(0, x1.nogr)]) fun x2 =>
  bd (oneK false x2) (endK σ.length σ)) (
  bd (pu (evBin .lss .no a0.nogr.nogr (.int .i64 2048))) fun x3 =>
  br x3.nogr (
  bd (pu (evBin .quo .no a0.nogr.nogr (.int .i64 64))) fun x4 =>
  bd (pu (evBin .add .no (.int .i64 192) x4.nogr)) fun x5 =>
  bd (pu (evConv σ (.toInt .u8) x5.nogr)) fun x6 =>
  bd (pu (evBin .rem .no a0.nogr.nogr (.int .i64 64))) fun x7 =>
  bd (pu (evBin .add .no (.int .i64 128) x7.nogr)) fun x8 =>
  bd (pu (evConv σ (.toInt .u8) x8.nogr)) fun x9 =>
  bd (buildFV false 1 2 (.int .u8 0) [(0, x6.nogr), (1, x9.nogr)]) fun x10 =>
  bd (oneK false x10) (endK σ.length σ)) (
  bd (pu (evBin .lss .no a0.nogr.nogr (.int .i64 65536))) fun x11 =>
  br x11.nogr (
  bd (pu (evBin .quo .no a0.nogr.nogr (.int .i64 4096))) fun x12 =>
  bd (pu (evBin .add .no (.int .i64 224) x12.nogr)) fun x13 =>
  bd (pu (evConv σ (.toInt .u8) x13.nogr)) fun x14 =>
  bd (pu (evBin .quo .no a0.nogr.nogr (.int .i64 64))) fun x15 =>
  bd (pu (evBin .rem .no x15.nogr (.int .i64 64))) fun x16 =>
  bd (pu (evBin .add .no (.int .i64 128) x16.nogr)) fun x17 =>
  bd (pu (evConv σ (.toInt .u8) x17.nogr)) fun x18 =>
  bd (pu (evBin .rem .no a0.nogr.nogr (.int .i64 64))) fun x19 =>
  bd (pu (evBin .add .no (.int .i64 128) x19.nogr)) fun x20 =>
  bd (pu (evConv σ (.toInt .u8) x20.nogr)) fun x21 =>
  bd (buildFV false 1 3 (.int .u8 0) [(0, x14.nogr), (1, x18.nogr), (2, x21.nogr)]) fun x22 =>
  bd (oneK false x22) (endK σ.length σ)) (
  bd (pu (evBin .quo .no a0.nogr.nogr (.int .i64 262144))) fun x23 =>
  bd (pu (evBin .add .no (.int .i64 240) x23.nogr)) fun x24 =>
  bd (pu (evConv σ (.toInt .u8) x24.nogr)) fun x25 =>
  bd (pu (evBin .quo .no a0.nogr.nogr (.int .i64 4096))) fun x26 =>
  bd (pu (evBin .rem .no x26.nogr (.int .i64 64))) fun x27 =>
  bd (pu (evBin .add .no (.int .i64 128) x27.nogr)) fun x28 =>
  bd (pu (evConv σ (.toInt .u8) x28.nogr)) fun x29 =>
  bd (pu (evBin .quo .no a0.nogr.nogr (.int .i64 64))) fun x30 =>
  bd (pu (evBin .rem .no x30.nogr (.int .i64 64))) fun x31 =>
  bd (pu (evBin .add .no (.int .i64 128) x31.nogr)) fun x32 =>
  bd (pu (evConv σ (.toInt .u8) x32.nogr)) fun x33 =>
  bd (pu (evBin .rem .no a0.nogr.nogr (.int .i64 64))) fun x34 =>
  bd (pu (evBin .add .no (.int .i64 128) x34.nogr)) fun x35 =>
  bd (pu (evConv σ (.toInt .u8) x35.nogr)) fun x36 =>
  bd (buildFV false 1 4 (.int .u8 0) [(0, x25.nogr), (1, x29.nogr), (2, x33.nogr), (3, x36.nogr)]) fun x37 =>
  bd (oneK false x37) (endK σ.length σ))))
theorem k_wattleref01_Put (M : Mach) (a0 : V) (σ : Objs) : fnK M c_wattleref01_Put [a0] σ = s_wattleref01_Put M a0 σ := by kernel_rfl
def c_wattleref01_filled : Ev.Fn := ⟨20, [.tmp 6], false, false, (.seq (.ops 0 [⟨(some 6), none, .mv (.c .nils) false⟩]) (.seq (.ops 1 [⟨(some 8), none, .buildSl false 1 0 .any [] false⟩, ⟨(some 9), none, .mv (.t 0) true⟩, ⟨(some 10), none, .app false false 1 1 (.t 8) (.t 9) true⟩, ⟨(some 7), none, .mv (.t 10) true⟩]) (.seq (.block 0 (.loop [1, 2, 7] [6, 7] (.seq (.seq (.ops 2 [⟨(some 11), none, .mv (.t 7) false⟩, ⟨(some 12), none, .len (.t 11)⟩, ⟨(some 13), none, .mv (.t 2) false⟩, ⟨(some 14), none, .bin .lss .no (.t 12) (.t 13)⟩]) (.cond (.t 14) .skip (.exit 0))) (.block 1 (.ops 3 [⟨(some 15), none, .mv (.t 7) true⟩, ⟨(some 16), none, .mv (.t 1) false⟩, ⟨(some 17), none, .buildSl false 1 1 (.int .u8 0) [(0, (.t 16))] false⟩, ⟨(some 18), none, .app false false 1 1 (.t 15) (.t 17) true⟩, ⟨(some 7), none, .mv (.t 18) true⟩]))))) (.seq (.ops 4 [⟨(some 19), none, .mv (.t 7) true⟩, ⟨(some 6), none, .mv (.t 19) true⟩]) .ret))))⟩
theorem ok_c_wattleref01_filled : chkFn Tryz.prog 104 c_wattleref01_filled = true := chkFn_of Tryz.func104 (by kernel_rfl)
def b_wattleref01_filled_0 (M : Mach) (n0 : Nat) (n1 : Nat) (r1 : Rk) (z1 z2 z7 : V) (σ : Objs) : Ro :=
  bd (pu (evLen z7.nogr.nogr)) fun x2 =>
  bd (pu (evBin .lss .no x2.nogr z2.nogr.nogr)) fun x3 =>
  br x3.nogr (
  bd (buildFV false 1 1 (.int .u8 0) [(0, z1.nogr.nogr)]) fun x4 =>
  bd (appV false false 1 1 σ z7 x4.nogr) fun x5 =>
  bd (fz n1 σ fzDepth z1) fun y6 =>
  bd (fz n1 σ fzDepth z2) fun y7 =>
  bd (fz n1 σ fzDepth x5) fun y8 =>
  bd (cutObjs n1 σ) fun s9 => r1 [y6, y7, y8] s9) (
  bd (fz n1 σ fzDepth .any) fun y10 =>
  bd (fz n1 σ fzDepth z7) fun y11 =>
  bd (cutObjs n1 σ) fun s12 =>
  bd (oneK false y11) (endK n0 s12))
def l_wattleref01_filled_0 (M : Mach) (n0 : Nat) (n1 : Nat) : Rk := M.fx fun rec vs σ => b_wattleref01_filled_0 M n0 n1 rec (vs.getD 0 .undef) (vs.getD 1 .undef) (vs.getD 2 .undef) σ
def s_wattleref01_filled (M : Mach) (a0 a1 a2 : V) (σ : Objs) : Ro :=
  bd (buildFV false 1 0 .any []) fun x0 =>
  bd (appV false false 1 1 σ x0 a0.nogr) fun x1 =>
  bd (fz σ.length σ fzDepth a1) fun y13 =>
  bd (fz σ.length σ fzDepth a2) fun y14 =>
  bd (fz σ.length σ fzDepth x1) fun y15 =>
  l_wattleref01_filled_0 M σ.length σ.length [y13, y14, y15] σ
theorem k_wattleref01_filled (M : Mach) (a0 a1 a2 : V) (σ : Objs) : fnK M c_wattleref01_filled [a0, a1, a2] σ = s_wattleref01_filled M a0 a1 a2 σ := by kernel_rfl
def c_wattleref03_Value : Ev.Fn := ⟨67, [.tmp 4, .tmp 5], false, false, (.seq (.ops 0 [⟨(some 4), none, .mv (.c (.int .i64 0)) false⟩, ⟨(some 5), none, .mv (.c (.int .i64 0)) false⟩]) (.seq (.ops 1 [⟨(some 8), none, .mv (.t 1) false⟩, ⟨(some 9), none, .bin .add .no (.t 8) (.c (.int .i64 1))⟩, ⟨(some 6), none, .mv (.t 9) false⟩, ⟨(some 7), none, .mv (.c (.int .i64 0)) false⟩]) (.seq (.seq (.ops 2 [⟨(some 10), none, .mv (.t 6) false⟩, ⟨(some 11), none, .mv (.t 0) false⟩, ⟨(some 12), none, .len (.t 11)⟩, ⟨(some 13), none, .bin .geq .no (.t 10) (.t 12)⟩]) (.cond (.t 13) (.seq (.ops 3 [⟨(some 14), none, .mv (.t 6) false⟩, ⟨(some 4), none, .mv (.c (.int .i64 65533)) false⟩, ⟨(some 5), none, .mv (.t 14) false⟩]) .ret) .skip)) (.seq (.block 0 (.loop [0, 1, 6, 7] [0, 1, 4, 5, 6, 7] (.seq (.seq (.ops 4 [⟨(some 15), none, .mv (.t 6) false⟩, ⟨(some 16), none, .mv (.t 0) false⟩, ⟨(some 17), none, .len (.t 16)⟩, ⟨(some 18), none, .bin .lss .no (.t 15) (.t 17)⟩, ⟨(some 19), none, .mv (.t 18) false⟩, ⟨(some 20), (some (19, true)), .mv (.t 6) false⟩, ⟨(some 21), (some (19, true)), .mv (.t 1) false⟩, ⟨(some 22), (some (19, true)), .bin .add .no (.t 21) (.c (.int .i64 7))⟩, ⟨(some 23), (some (19, true)), .bin .lss .no (.t 20) (.t 22)⟩, ⟨(some 24), none, .pick (.t 19) (.t 23) (.c (.bool false))⟩, ⟨(some 25), none, .mv (.t 24) false⟩, ⟨(some 26), (some (25, true)), .mv (.t 0) false⟩, ⟨(some 27), (some (25, true)), .mv (.t 6) false⟩, ⟨(some 28), (some (25, true)), .iaddr 1 (.t 26) (.t 27)⟩, ⟨(some 29), (some (25, true)), .load false 1 (.t 28)⟩, ⟨(some 30), (some (25, true)), .call 111 [(.t 29)]⟩, ⟨(some 31), (some (25, true)), .bin .geq .no (.t 30) (.c (.int .i64 0))⟩, ⟨(some 32), none, .pick (.t 25) (.t 31) (.c (.bool false))⟩]) (.cond (.t 32) .skip (.exit 0))) (.block 1 (.seq (.ops 5 [⟨(some 33), none, .mv (.t 7) false⟩, ⟨(some 34), none, .bin .mul .no (.c (.int .i64 16)) (.t 33)⟩, ⟨(some 35), none, .mv (.t 0) false⟩, ⟨(some 36), none, .mv (.t 6) false⟩, ⟨(some 37), none, .iaddr 1 (.t 35) (.t 36)⟩, ⟨(some 38), none, .load false 1 (.t 37)⟩, ⟨(some 39), none, .call 111 [(.t 38)]⟩, ⟨(some 40), none, .bin .add .no (.t 34) (.t 39)⟩, ⟨(some 7), none, .mv (.t 40) false⟩]) (.ops 6 [⟨(some 41), none, .mv (.t 6) false⟩, ⟨(some 42), none, .bin .add .no (.t 41) (.c (.int .i64 1))⟩, ⟨(some 6), none, .mv (.t 42) false⟩])))))) (.seq (.seq (.ops 7 [⟨(some 43), none, .mv (.t 6) false⟩, ⟨(some 44), none, .mv (.t 1) false⟩, ⟨(some 45), none, .bin .add .no (.t 44) (.c (.int .i64 1))⟩, ⟨(some 46), none, .bin .eql .no (.t 43) (.t 45)⟩]) (.cond (.t 46) (.seq (.ops 8 [⟨(some 47), none, .mv (.t 0) true⟩, ⟨(some 48), none, .mv (.t 6) false⟩, ⟨(some 49), none, .iaddr 1 (.t 47) (.t 48)⟩, ⟨(some 50), none, .load false 1 (.t 49)⟩, ⟨(some 51), none, .mv (.t 6) false⟩, ⟨(some 52), none, .bin .add .no (.t 51) (.c (.int .i64 1))⟩, ⟨(some 4), none, .mv (.t 50) false⟩, ⟨(some 5), none, .mv (.t 52) false⟩]) .ret) .skip)) (.seq (.seq (.ops 9 [⟨(some 53), none, .mv (.t 0) true⟩, ⟨(some 54), none, .mv (.t 6) false⟩, ⟨(some 55), none, .call 75 [(.t 53), (.t 54)]⟩]) (.cond (.t 55) (.ops 10 [⟨(some 56), none, .mv (.t 6) false⟩, ⟨(some 57), none, .bin .add .no (.t 56) (.c (.int .i64 1))⟩, ⟨(some 6), none, .mv (.t 57) false⟩]) .skip)) (.seq (.seq (.ops 11 [⟨(some 58), none, .mv (.t 7) false⟩, ⟨(some 59), none, .bin .eql .no (.t 58) (.c (.int .i64 0))⟩, ⟨(some 60), none, .mv (.t 59) false⟩, ⟨(some 61), (some (60, false)), .mv (.t 7) false⟩, ⟨(some 62), (some (60, false)), .call 51 [(.t 61)]⟩, ⟨(some 63), (some (60, false)), .un .not (.t 62)⟩, ⟨(some 64), none, .pick (.t 60) (.c (.bool true)) (.t 63)⟩]) (.cond (.t 64) (.ops 12 [⟨(some 7), none, .mv (.c (.int .i64 65533)) false⟩]) .skip)) (.seq (.ops 13 [⟨(some 65), none, .mv (.t 7) false⟩, ⟨(some 66), none, .mv (.t 6) false⟩, ⟨(some 4), none, .mv (.t 65) false⟩, ⟨(some 5), none, .mv (.t 66) false⟩]) .ret))))))))⟩
theorem ok_c_wattleref03_Value : chkFn Tryz.prog 96 c_wattleref03_Value = true := chkFn_of Tryz.func96 (by kernel_rfl)
def j_wattleref03_Value_1 (M : Mach) (n0 : Nat) (z6 z7 : V) (σ : Objs) : Ro :=
  endK n0 σ (.tup [z7.nogr.nogr.nogr, z6.nogr.nogr.nogr])
def j_wattleref03_Value_0 (M : Mach) (n0 : Nat) (z6 z7 : V) (σ : Objs) : Ro :=
  bd (pu (evBin .eql .no z7.nogr.nogr (.int .i64 0))) fun x40 =>
  bd (gdv x40.nogr false (some z7.nogr)) fun x41 =>
  bd (gdp x40.nogr false (M.call 51 [x41.nogr] σ) σ) fun p42 =>
  bd (gdv x40.nogr false (pu (evUn .not p42.1.nogr))) fun x43 =>
  bd (pu (pickV x40.nogr.nogr (.bool true) x43.nogr)) fun x44 =>
  br x44.nogr (
  j_wattleref03_Value_1 M n0 z6 (.int .i64 65533) p42.2) (
  j_wattleref03_Value_1 M n0 z6 z7 p42.2)
def b_wattleref03_Value_0 (M : Mach) (n0 : Nat) (n1 : Nat) (r1 : Rk) (z0 z1 z6 z7 : V) (σ : Objs) : Ro :=
  bd (pu (evLen z0.nogr.nogr)) fun x3 =>
  bd (pu (evBin .lss .no z6.nogr.nogr x3.nogr)) fun x4 =>
  bd (gdv x4.nogr true (some z6.nogr)) fun x5 =>
  bd (gdv x4.nogr true (some z1.nogr)) fun x6 =>
  bd (gdv x4.nogr true (pu (evBin .add .no x6.nogr (.int .i64 7)))) fun x7 =>
  bd (gdv x4.nogr true (pu (evBin .lss .no x5.nogr x7.nogr))) fun x8 =>
  bd (pu (pickV x4.nogr.nogr x8.nogr (.bool false))) fun x9 =>
  bd (gdv x9.nogr true (some z0.nogr)) fun x10 =>
  bd (gdv x9.nogr true (some z6.nogr)) fun x11 =>
  bd (gdv x9.nogr true (pu (evIaddr 1 x11.nogr x10.nogr))) fun x12 =>
  bd (gdv x9.nogr true (pu (evLoad σ false 1 x12.nogr))) fun x13 =>
  bd (gdp x9.nogr true (M.call 111 [x13.nogr] σ) σ) fun p14 =>
  bd (gdv x9.nogr true (pu (evBin .geq .no p14.1.nogr (.int .i64 0)))) fun x15 =>
  bd (pu (pickV x9.nogr.nogr x15.nogr (.bool false))) fun x16 =>
  br x16.nogr (
  bd (pu (evBin .mul .no (.int .i64 16) z7.nogr.nogr)) fun x17 =>
  bd (pu (evIaddr 1 z6.nogr.nogr z0.nogr.nogr)) fun x18 =>
  bd (pu (evLoad p14.2 false 1 x18.nogr)) fun x19 =>
  bd (M.call 111 [x19.nogr] p14.2) fun p20 =>
  bd (pu (evBin .add .no x17.nogr p20.1.nogr)) fun x21 =>
  bd (pu (evBin .add .no z6.nogr.nogr (.int .i64 1))) fun x22 =>
  bd (fz n1 p20.2 fzDepth z0) fun y23 =>
  bd (fz n1 p20.2 fzDepth z1) fun y24 =>
  bd (fz n1 p20.2 fzDepth x22.nogr) fun y25 =>
  bd (fz n1 p20.2 fzDepth x21.nogr) fun y26 =>
  bd (cutObjs n1 p20.2) fun s27 => r1 [y23, y24, y25, y26] s27) (
  bd (fz n1 p14.2 fzDepth z0) fun y28 =>
  bd (fz n1 p14.2 fzDepth z1) fun y29 =>
  bd (fz n1 p14.2 fzDepth .any) fun y30 =>
  bd (fz n1 p14.2 fzDepth .any) fun y31 =>
  bd (fz n1 p14.2 fzDepth z6) fun y32 =>
  bd (fz n1 p14.2 fzDepth z7) fun y33 =>
  bd (cutObjs n1 p14.2) fun s34 =>
  bd (pu (evBin .add .no y29.nogr.nogr (.int .i64 1))) fun x35 =>
  bd (pu (evBin .eql .no y32.nogr.nogr x35.nogr)) fun x36 =>
  br x36.nogr (
  bd (pu (evIaddr 1 y32.nogr.nogr y28.nogr)) fun x37 =>
  bd (pu (evLoad s34 false 1 x37.nogr)) fun x38 =>
  bd (pu (evBin .add .no y32.nogr.nogr (.int .i64 1))) fun x39 =>
  endK n0 s34 (.tup [x38.nogr.nogr, x39.nogr.nogr])) (
  bd (M.call 75 [y28.nogr, y32.nogr.nogr] s34) fun p45 =>
  br p45.1.nogr (
  bd (pu (evBin .add .no y32.nogr.nogr (.int .i64 1))) fun x46 =>
  j_wattleref03_Value_0 M n0 x46.nogr y33 p45.2) (
  j_wattleref03_Value_0 M n0 y32 y33 p45.2)))
def l_wattleref03_Value_0 (M : Mach) (n0 : Nat) (n1 : Nat) : Rk := M.fx fun rec vs σ => b_wattleref03_Value_0 M n0 n1 rec (vs.getD 0 .undef) (vs.getD 1 .undef) (vs.getD 2 .undef) (vs.getD 3 .undef) σ
def s_wattleref03_Value (M : Mach) (a0 a1 : V) (σ : Objs) : Ro :=
  bd (pu (evBin .add .no a1.nogr.nogr (.int .i64 1))) fun x0 =>
  bd (pu (evLen a0.nogr.nogr)) fun x1 =>
  bd (pu (evBin .geq .no x0.nogr.nogr.nogr x1.nogr)) fun x2 =>
  br x2.nogr (
  endK σ.length σ (.tup [(.int .i64 65533), x0.nogr.nogr.nogr.nogr])) (
  bd (fz σ.length σ fzDepth a0) fun y47 =>
  bd (fz σ.length σ fzDepth a1) fun y48 =>
  bd (fz σ.length σ fzDepth x0.nogr) fun y49 =>
  bd (fz σ.length σ fzDepth (.int .i64 0)) fun y50 =>
  l_wattleref03_Value_0 M σ.length σ.length [y47, y48, y49, y50] σ)
theorem k_wattleref03_Value (M : Mach) (a0 a1 : V) (σ : Objs) : fnK M c_wattleref03_Value [a0, a1] σ = s_wattleref03_Value M a0 a1 σ := by kernel_rfl
def c_wattleref03_digit : Ev.Fn := ⟨16, [.tmp 4], false, false, (.seq (.ops 0 [⟨(some 4), none, .mv (.c (.bool false)) false⟩]) (.seq (.ops 1 [⟨(some 5), none, .mv (.t 1) false⟩, ⟨(some 6), none, .mv (.t 0) false⟩, ⟨(some 7), none, .len (.t 6)⟩, ⟨(some 8), none, .bin .lss .no (.t 5) (.t 7)⟩, ⟨(some 9), none, .mv (.t 8) false⟩, ⟨(some 10), (some (9, true)), .mv (.t 0) true⟩, ⟨(some 11), (some (9, true)), .mv (.t 1) false⟩, ⟨(some 12), (some (9, true)), .iaddr 1 (.t 10) (.t 11)⟩, ⟨(some 13), (some (9, true)), .load false 1 (.t 12)⟩, ⟨(some 14), (some (9, true)), .call 38 [(.t 13)]⟩, ⟨(some 15), none, .pick (.t 9) (.t 14) (.c (.bool false))⟩, ⟨(some 4), none, .mv (.t 15) false⟩]) .ret))⟩
theorem ok_c_wattleref03_digit : chkFn Tryz.prog 97 c_wattleref03_digit = true := chkFn_of Tryz.func97 (by kernel_rfl)
def s_wattleref03_digit (M : Mach) (a0 a1 : V) (σ : Objs) : Ro :=
  bd (pu (evLen a0.nogr.nogr)) fun x0 =>
  bd (pu (evBin .lss .no a1.nogr.nogr x0.nogr)) fun x1 =>
  gd x1.nogr true (
  bd (gdv x1.nogr true (some a1.nogr)) fun x2 =>
  bd (gdv x1.nogr true (pu (evIaddr 1 x2.nogr a0.nogr))) fun x3 =>
  bd (gdv x1.nogr true (pu (evLoad σ false 1 x3.nogr))) fun x4 =>
  bd (gdp x1.nogr true (M.call 38 [x4.nogr] σ) σ) fun p5 =>
  bd (pu (pickV x1.nogr.nogr p5.1.nogr (.bool false))) fun x6 =>
  bd (oneK false x6.nogr) (endK σ.length p5.2)) (
  bd (gdv x1.nogr true (some a1.nogr)) fun x7 =>
  bd (gdv x1.nogr true (pu (evIaddr 1 x7.nogr .undef))) fun x8 =>
  bd (gdv x1.nogr true (pu (evLoad σ false 1 x8.nogr))) fun x9 =>
  bd (gdp x1.nogr true (M.call 38 [x9.nogr] σ) σ) fun p10 =>
  bd (pu (pickV x1.nogr.nogr p10.1.nogr (.bool false))) fun x11 =>
  bd (oneK false x11.nogr) (endK σ.length p10.2))
theorem k_wattleref03_digit (M : Mach) (a0 a1 : V) (σ : Objs) : fnK M c_wattleref03_digit [a0, a1] σ = s_wattleref03_digit M a0 a1 σ := by kernel_rfl
def c_wattleref03_digits : Ev.Fn := ⟨70, [.tmp 4, .tmp 5], false, false, (.seq (.ops 0 [⟨(some 4), none, .mv (.c (.int .i64 0)) false⟩, ⟨(some 5), none, .mv (.c (.bool false)) false⟩]) (.seq (.ops 1 [⟨(some 6), none, .mv (.c (.bool true)) false⟩]) (.seq (.seq (.ops 2 [⟨(some 8), none, .mv (.t 0) false⟩, ⟨(some 9), none, .mv (.t 1) false⟩, ⟨(some 10), none, .call 79 [(.t 8), (.t 9), (.c (.int .i64 43))]⟩, ⟨(some 11), none, .mv (.t 10) false⟩, ⟨(some 12), (some (11, false)), .mv (.t 0) false⟩, ⟨(some 13), (some (11, false)), .mv (.t 1) false⟩, ⟨(some 14), (some (11, false)), .call 79 [(.t 12), (.t 13), (.c (.int .i64 45))]⟩, ⟨(some 15), none, .pick (.t 11) (.c (.bool true)) (.t 14)⟩]) (.cond (.t 15) (.ops 3 [⟨(some 16), none, .mv (.t 1) false⟩, ⟨(some 17), none, .bin .add .no (.t 16) (.c (.int .i64 1))⟩, ⟨(some 1), none, .mv (.t 17) false⟩]) .skip)) (.seq (.block 0 (.loop [0, 1, 6] [0, 1, 4, 5, 6] (.seq (.seq (.ops 4 [⟨(some 18), none, .mv (.t 0) false⟩, ⟨(some 19), none, .mv (.t 1) false⟩, ⟨(some 20), none, .call 97 [(.t 18), (.t 19)]⟩]) (.cond (.t 20) .skip (.exit 0))) (.block 1 (.ops 5 [⟨(some 21), none, .mv (.t 1) false⟩, ⟨(some 22), none, .bin .add .no (.t 21) (.c (.int .i64 1))⟩, ⟨(some 1), none, .mv (.t 22) false⟩]))))) (.seq (.seq (.ops 6 [⟨(some 23), none, .mv (.t 0) false⟩, ⟨(some 24), none, .mv (.t 1) false⟩, ⟨(some 25), none, .call 79 [(.t 23), (.t 24), (.c (.int .i64 46))]⟩, ⟨(some 26), none, .mv (.t 25) false⟩, ⟨(some 27), (some (26, true)), .mv (.t 0) false⟩, ⟨(some 28), (some (26, true)), .mv (.t 1) false⟩, ⟨(some 29), (some (26, true)), .bin .add .no (.t 28) (.c (.int .i64 1))⟩, ⟨(some 30), (some (26, true)), .call 97 [(.t 27), (.t 29)]⟩, ⟨(some 31), none, .pick (.t 26) (.t 30) (.c (.bool false))⟩]) (.cond (.t 31) (.seq (.ops 7 [⟨(some 6), none, .mv (.c (.bool false)) false⟩]) (.seq (.ops 8 [⟨(some 32), none, .mv (.t 1) false⟩, ⟨(some 33), none, .bin .add .no (.t 32) (.c (.int .i64 1))⟩, ⟨(some 1), none, .mv (.t 33) false⟩]) (.block 2 (.loop [0, 1, 6] [0, 1, 4, 5, 6] (.seq (.seq (.ops 9 [⟨(some 34), none, .mv (.t 0) false⟩, ⟨(some 35), none, .mv (.t 1) false⟩, ⟨(some 36), none, .call 97 [(.t 34), (.t 35)]⟩]) (.cond (.t 36) .skip (.exit 2))) (.block 3 (.ops 10 [⟨(some 37), none, .mv (.t 1) false⟩, ⟨(some 38), none, .bin .add .no (.t 37) (.c (.int .i64 1))⟩, ⟨(some 1), none, .mv (.t 38) false⟩]))))))) .skip)) (.seq (.seq (.ops 11 [⟨(some 39), none, .mv (.t 0) false⟩, ⟨(some 40), none, .mv (.t 1) false⟩, ⟨(some 41), none, .call 79 [(.t 39), (.t 40), (.c (.int .i64 101))]⟩, ⟨(some 42), none, .mv (.t 41) false⟩, ⟨(some 43), (some (42, false)), .mv (.t 0) false⟩, ⟨(some 44), (some (42, false)), .mv (.t 1) false⟩, ⟨(some 45), (some (42, false)), .call 79 [(.t 43), (.t 44), (.c (.int .i64 69))]⟩, ⟨(some 46), none, .pick (.t 42) (.c (.bool true)) (.t 45)⟩]) (.cond (.t 46) (.seq (.ops 12 [⟨(some 47), none, .mv (.t 1) false⟩, ⟨(some 48), none, .bin .add .no (.t 47) (.c (.int .i64 1))⟩, ⟨(some 7), none, .mv (.t 48) false⟩]) (.seq (.seq (.ops 13 [⟨(some 49), none, .mv (.t 0) false⟩, ⟨(some 50), none, .mv (.t 7) false⟩, ⟨(some 51), none, .call 79 [(.t 49), (.t 50), (.c (.int .i64 43))]⟩, ⟨(some 52), none, .mv (.t 51) false⟩, ⟨(some 53), (some (52, false)), .mv (.t 0) false⟩, ⟨(some 54), (some (52, false)), .mv (.t 7) false⟩, ⟨(some 55), (some (52, false)), .call 79 [(.t 53), (.t 54), (.c (.int .i64 45))]⟩, ⟨(some 56), none, .pick (.t 52) (.c (.bool true)) (.t 55)⟩]) (.cond (.t 56) (.ops 14 [⟨(some 57), none, .mv (.t 7) false⟩, ⟨(some 58), none, .bin .add .no (.t 57) (.c (.int .i64 1))⟩, ⟨(some 7), none, .mv (.t 58) false⟩]) .skip)) (.seq (.ops 15 [⟨(some 59), none, .mv (.t 0) false⟩, ⟨(some 60), none, .mv (.t 7) false⟩, ⟨(some 61), none, .call 97 [(.t 59), (.t 60)]⟩]) (.cond (.t 61) (.seq (.ops 16 [⟨(some 6), none, .mv (.c (.bool false)) false⟩]) (.seq (.ops 17 [⟨(some 62), none, .mv (.t 7) false⟩, ⟨(some 1), none, .mv (.t 62) false⟩]) (.block 4 (.loop [0, 1, 6] [1, 4, 5, 6] (.seq (.seq (.ops 18 [⟨(some 63), none, .mv (.t 0) false⟩, ⟨(some 64), none, .mv (.t 1) false⟩, ⟨(some 65), none, .call 97 [(.t 63), (.t 64)]⟩]) (.cond (.t 65) .skip (.exit 4))) (.block 5 (.ops 19 [⟨(some 66), none, .mv (.t 1) false⟩, ⟨(some 67), none, .bin .add .no (.t 66) (.c (.int .i64 1))⟩, ⟨(some 1), none, .mv (.t 67) false⟩]))))))) .skip)))) .skip)) (.seq (.ops 20 [⟨(some 68), none, .mv (.t 1) false⟩, ⟨(some 69), none, .mv (.t 6) false⟩, ⟨(some 4), none, .mv (.t 68) false⟩, ⟨(some 5), none, .mv (.t 69) false⟩]) .ret)))))))⟩
theorem ok_c_wattleref03_digits : chkFn Tryz.prog 98 c_wattleref03_digits = true := chkFn_of Tryz.func98 (by kernel_rfl)
def j_wattleref03_digits_2 (M : Mach) (n0 : Nat) (z1 z6 : V) (σ : Objs) : Ro :=
  endK n0 σ (.tup [z1.nogr.nogr.nogr, z6.nogr.nogr.nogr])
def b_wattleref03_digits_1 (M : Mach) (n0 : Nat) (n1 : Nat) (r1 : Rk) (z0 z1 z6 : V) (σ : Objs) : Ro :=
  bd (M.call 97 [z0.nogr.nogr, z1.nogr.nogr] σ) fun p19 =>
  br p19.1.nogr (
  bd (pu (evBin .add .no z1.nogr.nogr (.int .i64 1))) fun x20 =>
  bd (fz n1 p19.2 fzDepth z0) fun y21 =>
  bd (fz n1 p19.2 fzDepth x20.nogr) fun y22 =>
  bd (fz n1 p19.2 fzDepth z6) fun y23 =>
  bd (cutObjs n1 p19.2) fun s24 => r1 [y21, y22, y23] s24) (
  bd (fz n1 p19.2 fzDepth z1) fun y25 =>
  bd (fz n1 p19.2 fzDepth .any) fun y26 =>
  bd (fz n1 p19.2 fzDepth .any) fun y27 =>
  bd (fz n1 p19.2 fzDepth z6) fun y28 =>
  bd (cutObjs n1 p19.2) fun s29 =>
  j_wattleref03_digits_2 M n0 y25 y28 s29)
def l_wattleref03_digits_1 (M : Mach) (n0 : Nat) (n1 : Nat) : Rk := M.fx fun rec vs σ => b_wattleref03_digits_1 M n0 n1 rec (vs.getD 0 .undef) (vs.getD 1 .undef) (vs.getD 2 .undef) σ
def j_wattleref03_digits_3 (M : Mach) (n0 : Nat) (z0 z1 z6 z7 : V) (σ : Objs) : Ro :=
  bd (M.call 97 [z0.nogr.nogr, z7.nogr.nogr] σ) fun p18 =>
  br p18.1.nogr (
  bd (fz p18.2.length p18.2 fzDepth z0) fun y30 =>
  bd (fz p18.2.length p18.2 fzDepth z7.nogr.nogr) fun y31 =>
  bd (fz p18.2.length p18.2 fzDepth (.bool false)) fun y32 =>
  l_wattleref03_digits_1 M n0 p18.2.length [y30, y31, y32] p18.2) (
  j_wattleref03_digits_2 M n0 z1 z6 p18.2)
def j_wattleref03_digits_1 (M : Mach) (n0 : Nat) (z0 z1 z6 : V) (σ : Objs) : Ro :=
  bd (M.call 79 [z0.nogr.nogr, z1.nogr.nogr, (.int .i64 101)] σ) fun p12 =>
  bd (gdv p12.1.nogr false (some z0.nogr)) fun x13 =>
  bd (gdv p12.1.nogr false (some z1.nogr)) fun x14 =>
  bd (gdp p12.1.nogr false (M.call 79 [x13.nogr, x14.nogr, (.int .i64 69)] p12.2) p12.2) fun p15 =>
  bd (pu (pickV p12.1.nogr.nogr (.bool true) p15.1.nogr)) fun x16 =>
  br x16.nogr (
  bd (pu (evBin .add .no z1.nogr.nogr (.int .i64 1))) fun x17 =>
  bd (M.call 79 [z0.nogr.nogr, x17.nogr.nogr.nogr, (.int .i64 43)] p15.2) fun p33 =>
  bd (gdv p33.1.nogr false (some z0.nogr)) fun x34 =>
  bd (gdv p33.1.nogr false (some x17.nogr.nogr)) fun x35 =>
  bd (gdp p33.1.nogr false (M.call 79 [x34.nogr, x35.nogr, (.int .i64 45)] p33.2) p33.2) fun p36 =>
  bd (pu (pickV p33.1.nogr.nogr (.bool true) p36.1.nogr)) fun x37 =>
  br x37.nogr (
  bd (pu (evBin .add .no x17.nogr.nogr.nogr (.int .i64 1))) fun x38 =>
  j_wattleref03_digits_3 M n0 z0 z1 z6 x38.nogr p36.2) (
  j_wattleref03_digits_3 M n0 z0 z1 z6 x17.nogr p36.2)) (
  j_wattleref03_digits_2 M n0 z1 z6 p15.2)
def b_wattleref03_digits_2 (M : Mach) (n0 : Nat) (n1 : Nat) (r1 : Rk) (z0 z1 z6 : V) (σ : Objs) : Ro :=
  bd (M.call 97 [z0.nogr.nogr, z1.nogr.nogr] σ) fun p46 =>
  br p46.1.nogr (
  bd (pu (evBin .add .no z1.nogr.nogr (.int .i64 1))) fun x47 =>
  bd (fz n1 p46.2 fzDepth z0) fun y48 =>
  bd (fz n1 p46.2 fzDepth x47.nogr) fun y49 =>
  bd (fz n1 p46.2 fzDepth z6) fun y50 =>
  bd (cutObjs n1 p46.2) fun s51 => r1 [y48, y49, y50] s51) (
  bd (fz n1 p46.2 fzDepth z0) fun y52 =>
  bd (fz n1 p46.2 fzDepth z1) fun y53 =>
  bd (fz n1 p46.2 fzDepth .any) fun y54 =>
  bd (fz n1 p46.2 fzDepth .any) fun y55 =>
  bd (fz n1 p46.2 fzDepth z6) fun y56 =>
  bd (cutObjs n1 p46.2) fun s57 =>
  j_wattleref03_digits_1 M n0 y52 y53 y56 s57)
def l_wattleref03_digits_2 (M : Mach) (n0 : Nat) (n1 : Nat) : Rk := M.fx fun rec vs σ => b_wattleref03_digits_2 M n0 n1 rec (vs.getD 0 .undef) (vs.getD 1 .undef) (vs.getD 2 .undef) σ
def b_wattleref03_digits_0 (M : Mach) (n0 : Nat) (n1 : Nat) (r1 : Rk) (z0 z1 z6 : V) (σ : Objs) : Ro :=
  bd (M.call 97 [z0.nogr.nogr, z1.nogr.nogr] σ) fun p0 =>
  br p0.1.nogr (
  bd (pu (evBin .add .no z1.nogr.nogr (.int .i64 1))) fun x1 =>
  bd (fz n1 p0.2 fzDepth z0) fun y2 =>
  bd (fz n1 p0.2 fzDepth x1.nogr) fun y3 =>
  bd (fz n1 p0.2 fzDepth z6) fun y4 =>
  bd (cutObjs n1 p0.2) fun s5 => r1 [y2, y3, y4] s5) (
  bd (fz n1 p0.2 fzDepth z0) fun y6 =>
  bd (fz n1 p0.2 fzDepth z1) fun y7 =>
  bd (fz n1 p0.2 fzDepth .any) fun y8 =>
  bd (fz n1 p0.2 fzDepth .any) fun y9 =>
  bd (fz n1 p0.2 fzDepth z6) fun y10 =>
  bd (cutObjs n1 p0.2) fun s11 =>
  bd (M.call 79 [y6.nogr.nogr, y7.nogr.nogr, (.int .i64 46)] s11) fun p39 =>
  bd (gdv p39.1.nogr true (some y6.nogr)) fun x40 =>
  bd (gdv p39.1.nogr true (some y7.nogr)) fun x41 =>
  bd (gdv p39.1.nogr true (pu (evBin .add .no x41.nogr (.int .i64 1)))) fun x42 =>
  bd (gdp p39.1.nogr true (M.call 97 [x40.nogr, x42.nogr] p39.2) p39.2) fun p43 =>
  bd (pu (pickV p39.1.nogr.nogr p43.1.nogr (.bool false))) fun x44 =>
  br x44.nogr (
  bd (pu (evBin .add .no y7.nogr.nogr (.int .i64 1))) fun x45 =>
  bd (fz p43.2.length p43.2 fzDepth y6) fun y58 =>
  bd (fz p43.2.length p43.2 fzDepth x45.nogr) fun y59 =>
  bd (fz p43.2.length p43.2 fzDepth (.bool false)) fun y60 =>
  l_wattleref03_digits_2 M n0 p43.2.length [y58, y59, y60] p43.2) (
  j_wattleref03_digits_1 M n0 y6 y7 y10 p43.2))
def l_wattleref03_digits_0 (M : Mach) (n0 : Nat) (n1 : Nat) : Rk := M.fx fun rec vs σ => b_wattleref03_digits_0 M n0 n1 rec (vs.getD 0 .undef) (vs.getD 1 .undef) (vs.getD 2 .undef) σ
def j_wattleref03_digits_0 (M : Mach) (n0 : Nat) (z0 z1 z6 : V) (σ : Objs) : Ro :=
  bd (fz σ.length σ fzDepth z0) fun y61 =>
  bd (fz σ.length σ fzDepth z1) fun y62 =>
  bd (fz σ.length σ fzDepth z6) fun y63 =>
  l_wattleref03_digits_0 M n0 σ.length [y61, y62, y63] σ
def s_wattleref03_digits (M : Mach) (a0 a1 : V) (σ : Objs) : Ro :=
  bd (M.call 79 [a0.nogr.nogr, a1.nogr.nogr, (.int .i64 43)] σ) fun p64 =>
  bd (gdv p64.1.nogr false (some a0.nogr)) fun x65 =>
  bd (gdv p64.1.nogr false (some a1.nogr)) fun x66 =>
  bd (gdp p64.1.nogr false (M.call 79 [x65.nogr, x66.nogr, (.int .i64 45)] p64.2) p64.2) fun p67 =>
  bd (pu (pickV p64.1.nogr.nogr (.bool true) p67.1.nogr)) fun x68 =>
  br x68.nogr (
  bd (pu (evBin .add .no a1.nogr.nogr (.int .i64 1))) fun x69 =>
  j_wattleref03_digits_0 M σ.length a0 x69.nogr (.bool true) p67.2) (
  j_wattleref03_digits_0 M σ.length a0 a1 (.bool true) p67.2)
theorem k_wattleref03_digits (M : Mach) (a0 a1 : V) (σ : Objs) : fnK M c_wattleref03_digits [a0, a1] σ = s_wattleref03_digits M a0 a1 σ := by kernel_rfl
def c_wattleref03_start : Ev.Fn := ⟨16, [.tmp 4], false, false, (.seq (.ops 0 [⟨(some 4), none, .mv (.c (.bool false)) false⟩]) (.seq (.ops 1 [⟨(some 5), none, .mv (.t 1) false⟩, ⟨(some 6), none, .mv (.t 0) false⟩, ⟨(some 7), none, .len (.t 6)⟩, ⟨(some 8), none, .bin .lss .no (.t 5) (.t 7)⟩, ⟨(some 9), none, .mv (.t 8) false⟩, ⟨(some 10), (some (9, true)), .mv (.t 0) true⟩, ⟨(some 11), (some (9, true)), .mv (.t 1) false⟩, ⟨(some 12), (some (9, true)), .iaddr 1 (.t 10) (.t 11)⟩, ⟨(some 13), (some (9, true)), .load false 1 (.t 12)⟩, ⟨(some 14), (some (9, true)), .call 112 [(.t 13)]⟩, ⟨(some 15), none, .pick (.t 9) (.t 14) (.c (.bool false))⟩, ⟨(some 4), none, .mv (.t 15) false⟩]) .ret))⟩
theorem ok_c_wattleref03_start : chkFn Tryz.prog 99 c_wattleref03_start = true := chkFn_of Tryz.func99 (by kernel_rfl)
def s_wattleref03_start (M : Mach) (a0 a1 : V) (σ : Objs) : Ro :=
  bd (pu (evLen a0.nogr.nogr)) fun x0 =>
  bd (pu (evBin .lss .no a1.nogr.nogr x0.nogr)) fun x1 =>
  gd x1.nogr true (
  bd (gdv x1.nogr true (some a1.nogr)) fun x2 =>
  bd (gdv x1.nogr true (pu (evIaddr 1 x2.nogr a0.nogr))) fun x3 =>
  bd (gdv x1.nogr true (pu (evLoad σ false 1 x3.nogr))) fun x4 =>
  bd (gdp x1.nogr true (M.call 112 [x4.nogr] σ) σ) fun p5 =>
  bd (pu (pickV x1.nogr.nogr p5.1.nogr (.bool false))) fun x6 =>
  bd (oneK false x6.nogr) (endK σ.length p5.2)) (
  bd (gdv x1.nogr true (some a1.nogr)) fun x7 =>
  bd (gdv x1.nogr true (pu (evIaddr 1 x7.nogr .undef))) fun x8 =>
  bd (gdv x1.nogr true (pu (evLoad σ false 1 x8.nogr))) fun x9 =>
  bd (gdp x1.nogr true (M.call 112 [x9.nogr] σ) σ) fun p10 =>
  bd (pu (pickV x1.nogr.nogr p10.1.nogr (.bool false))) fun x11 =>
  bd (oneK false x11.nogr) (endK σ.length p10.2))
theorem k_wattleref03_start (M : Mach) (a0 a1 : V) (σ : Objs) : fnK M c_wattleref03_start [a0, a1] σ = s_wattleref03_start M a0 a1 σ := by kernel_rfl
def c_wattleref03_url : Ev.Fn := ⟨98, [.cell 6 true 6], false, false, (.seq (.ops 0 [⟨(some 6), none, .alloc [(.int .i64 0), (.int .i64 0), (.int .i64 0), (.str []), (.str []), (.bool false)]⟩]) (.seq (.ops 1 [⟨(some 13), none, .buildSl false 1 0 .any [] false⟩, ⟨(some 14), none, .mv (.t 2) false⟩, ⟨(some 7), none, .mv (.t 13) true⟩, ⟨(some 8), none, .mv (.t 14) false⟩]) (.block 0 (.loop [0, 1, 6, 7, 8] [6] (.block 1 (.seq (.ops 2 [⟨(some 15), none, .mv (.t 8) false⟩, ⟨(some 9), none, .mv (.t 15) false⟩]) (.seq (.block 2 (.loop [0, 1, 6, 7, 8, 9] [0, 1, 6, 7, 8, 9] (.seq (.seq (.ops 3 [⟨(some 16), none, .mv (.t 0) false⟩, ⟨(some 17), none, .mv (.t 9) false⟩, ⟨(some 18), none, .call 75 [(.t 16), (.t 17)]⟩]) (.cond (.t 18) .skip (.exit 2))) (.block 3 (.ops 4 [⟨(some 19), none, .mv (.t 9) false⟩, ⟨(some 20), none, .bin .add .no (.t 19) (.c (.int .i64 1))⟩, ⟨(some 9), none, .mv (.t 20) false⟩]))))) (.seq (.seq (.ops 5 [⟨(some 21), none, .mv (.t 9) false⟩, ⟨(some 22), none, .mv (.t 0) false⟩, ⟨(some 23), none, .len (.t 22)⟩, ⟨(some 24), none, .bin .geq .no (.t 21) (.t 23)⟩]) (.cond (.t 24) (.seq (.ops 6 [⟨(some 25), none, .mv (.t 1) false⟩, ⟨(some 26), none, .mv (.t 0) true⟩, ⟨(some 27), none, .len (.t 26)⟩, ⟨(some 28), none, .mv (.t 7) true⟩, ⟨(some 29), none, .call 85 [(.t 28)]⟩, ⟨(some 30), none, .build [(.int .i64 0), (.int .i64 0), (.int .i64 0), (.str []), (.str []), (.bool false)] [(0, 1, (.c (.int .i64 7))), (1, 1, (.t 25)), (2, 1, (.t 27)), (3, 1, (.t 29))]⟩, ⟨none, none, .store 6 (.t 6) (.t 30) false⟩]) .ret) .skip)) (.seq (.seq (.ops 7 [⟨(some 31), none, .mv (.t 0) false⟩, ⟨(some 32), none, .mv (.t 9) false⟩, ⟨(some 33), none, .iaddr 1 (.t 31) (.t 32)⟩, ⟨(some 34), none, .load false 1 (.t 33)⟩, ⟨(some 35), none, .bin .eql .no (.t 34) (.c (.int .i64 41))⟩]) (.cond (.t 35) (.seq (.ops 8 [⟨(some 36), none, .mv (.t 1) false⟩, ⟨(some 37), none, .mv (.t 9) false⟩, ⟨(some 38), none, .bin .add .no (.t 37) (.c (.int .i64 1))⟩, ⟨(some 39), none, .mv (.t 7) true⟩, ⟨(some 40), none, .call 85 [(.t 39)]⟩, ⟨(some 41), none, .build [(.int .i64 0), (.int .i64 0), (.int .i64 0), (.str []), (.str []), (.bool false)] [(0, 1, (.c (.int .i64 7))), (1, 1, (.t 36)), (2, 1, (.t 38)), (3, 1, (.t 40))]⟩, ⟨none, none, .store 6 (.t 6) (.t 41) false⟩]) .ret) .skip)) (.seq (.ops 9 [⟨(some 42), none, .mv (.t 0) false⟩, ⟨(some 43), none, .mv (.t 9) false⟩, ⟨(some 44), none, .iaddr 1 (.t 42) (.t 43)⟩, ⟨(some 45), none, .load false 1 (.t 44)⟩, ⟨(some 10), none, .mv (.t 45) false⟩]) (.seq (.seq (.ops 10 [⟨(some 46), none, .mv (.t 9) false⟩, ⟨(some 47), none, .mv (.t 8) false⟩, ⟨(some 48), none, .bin .gtr .no (.t 46) (.t 47)⟩, ⟨(some 49), none, .mv (.t 48) false⟩, ⟨(some 50), (some (49, false)), .mv (.t 10) false⟩, ⟨(some 51), (some (49, false)), .bin .eql .no (.t 50) (.c (.int .i64 34))⟩, ⟨(some 52), none, .pick (.t 49) (.c (.bool true)) (.t 51)⟩, ⟨(some 53), none, .mv (.t 52) false⟩, ⟨(some 54), (some (53, false)), .mv (.t 10) false⟩, ⟨(some 55), (some (53, false)), .bin .eql .no (.t 54) (.c (.int .i64 39))⟩, ⟨(some 56), none, .pick (.t 53) (.c (.bool true)) (.t 55)⟩, ⟨(some 57), none, .mv (.t 56) false⟩, ⟨(some 58), (some (57, false)), .mv (.t 10) false⟩, ⟨(some 59), (some (57, false)), .bin .eql .no (.t 58) (.c (.int .i64 40))⟩, ⟨(some 60), none, .pick (.t 57) (.c (.bool true)) (.t 59)⟩, ⟨(some 61), none, .mv (.t 60) false⟩, ⟨(some 62), (some (61, false)), .mv (.t 10) false⟩, ⟨(some 63), (some (61, false)), .call 113 [(.t 62)]⟩, ⟨(some 64), none, .pick (.t 61) (.c (.bool true)) (.t 63)⟩, ⟨(some 65), none, .mv (.t 64) false⟩, ⟨(some 66), (some (65, false)), .mv (.t 10) false⟩, ⟨(some 67), (some (65, false)), .bin .eql .no (.t 66) (.c (.int .i64 92))⟩, ⟨(some 68), (some (65, false)), .mv (.t 67) false⟩, ⟨(some 69), (some (68, true)), .mv (.t 0) false⟩, ⟨(some 70), (some (68, true)), .mv (.t 9) false⟩, ⟨(some 71), (some (68, true)), .call 84 [(.t 69), (.t 70)]⟩, ⟨(some 72), (some (68, true)), .un .not (.t 71)⟩, ⟨(some 73), (some (65, false)), .pick (.t 68) (.t 72) (.c (.bool false))⟩, ⟨(some 74), none, .pick (.t 65) (.c (.bool true)) (.t 73)⟩]) (.cond (.t 74) (.seq (.ops 11 [⟨(some 75), none, .mv (.t 0) true⟩, ⟨(some 76), none, .mv (.t 1) false⟩, ⟨(some 77), none, .mv (.t 9) false⟩, ⟨(some 78), none, .call 114 [(.t 75), (.t 76), (.t 77)]⟩, ⟨none, none, .store 6 (.t 6) (.t 78) false⟩]) .ret) .skip)) (.seq (.ops 12 [⟨(some 79), none, .mv (.t 10) false⟩, ⟨(some 80), none, .bin .eql .no (.t 79) (.c (.int .i64 92))⟩]) (.cond (.t 80) (.seq (.ops 13 [⟨(some 82), none, .mv (.t 0) false⟩, ⟨(some 83), none, .mv (.t 9) false⟩, ⟨(some 84), none, .call 96 [(.t 82), (.t 83)]⟩, ⟨(some 81), none, .mv (.t 84) false⟩, ⟨(some 85), none, .extr (.t 81) 0⟩, ⟨(some 86), none, .extr (.t 81) 1⟩, ⟨(some 11), none, .mv (.t 85) false⟩, ⟨(some 12), none, .mv (.t 86) false⟩]) (.seq (.ops 14 [⟨(some 87), none, .mv (.t 7) true⟩, ⟨(some 88), none, .mv (.t 11) false⟩, ⟨(some 89), none, .buildSl false 1 1 (.int .i64 0) [(0, (.t 88))] false⟩, ⟨(some 90), none, .app false false 1 8 (.t 87) (.t 89) true⟩, ⟨(some 7), none, .mv (.t 90) true⟩]) (.ops 15 [⟨(some 91), none, .mv (.t 12) false⟩, ⟨(some 8), none, .mv (.t 91) false⟩]))) (.seq (.ops 16 [⟨(some 92), none, .mv (.t 7) true⟩, ⟨(some 93), none, .mv (.t 10) false⟩, ⟨(some 94), none, .buildSl false 1 1 (.int .i64 0) [(0, (.t 93))] false⟩, ⟨(some 95), none, .app false false 1 8 (.t 92) (.t 94) true⟩, ⟨(some 7), none, .mv (.t 95) true⟩]) (.ops 17 [⟨(some 96), none, .mv (.t 9) false⟩, ⟨(some 97), none, .bin .add .no (.t 96) (.c (.int .i64 1))⟩, ⟨(some 8), none, .mv (.t 97) false⟩])))))))))))))))⟩
theorem ok_c_wattleref03_url : chkFn Tryz.prog 100 c_wattleref03_url = true := chkFn_of Tryz.func100 (by kernel_rfl)
def j_wattleref03_url_0 (M : Mach) (n0 : Nat) (n1 : Nat) (r1 : Rk) (z0 z1 z6 z7 z8 : V) (σ : Objs) : Ro :=
  bd (fz n1 σ fzDepth z0) fun y2 =>
  bd (fz n1 σ fzDepth z1) fun y3 =>
  bd (fz n1 σ fzDepth z6) fun y4 =>
  bd (fz n1 σ fzDepth z7) fun y5 =>
  bd (fz n1 σ fzDepth z8) fun y6 =>
  bd (cutObjs n1 σ) fun s7 => r1 [y2, y3, y4, y5, y6] s7
def j_wattleref03_url_1 (M : Mach) (n0 : Nat) (n1 : Nat) (r1 : Rk) (z6 : V) (σ : Objs) : Ro :=
  bd (fz n1 σ fzDepth z6) fun y8 =>
  bd (cutObjs n1 σ) fun s9 =>
  bd (resC s9 true 6 y8) fun x10 =>
  bd (oneK false x10) (endK n0 s9)
def b_wattleref03_url_1 (M : Mach) (n0 : Nat) (n1 : Nat) (r1 : Rk) (n2 : Nat) (r2 : Rk) (z0 z1 z6 z7 z8 z9 : V) (σ : Objs) : Ro :=
  bd (M.call 75 [z0.nogr.nogr, z9.nogr.nogr] σ) fun p11 =>
  br p11.1.nogr (
  bd (pu (evBin .add .no z9.nogr.nogr (.int .i64 1))) fun x12 =>
  bd (fz n2 p11.2 fzDepth z0) fun y13 =>
  bd (fz n2 p11.2 fzDepth z1) fun y14 =>
  bd (fz n2 p11.2 fzDepth z6) fun y15 =>
  bd (fz n2 p11.2 fzDepth z7) fun y16 =>
  bd (fz n2 p11.2 fzDepth z8) fun y17 =>
  bd (fz n2 p11.2 fzDepth x12.nogr) fun y18 =>
  bd (cutObjs n2 p11.2) fun s19 => r2 [y13, y14, y15, y16, y17, y18] s19) (
  bd (fz n2 p11.2 fzDepth z0) fun y20 =>
  bd (fz n2 p11.2 fzDepth z1) fun y21 =>
  bd (fz n2 p11.2 fzDepth z6) fun y22 =>
  bd (fz n2 p11.2 fzDepth z7) fun y23 =>
  bd (fz n2 p11.2 fzDepth z8) fun y24 =>
  bd (fz n2 p11.2 fzDepth z9) fun y25 =>
  bd (cutObjs n2 p11.2) fun s26 =>
  bd (pu (evLen y20.nogr.nogr)) fun x27 =>
  bd (pu (evBin .geq .no y25.nogr.nogr x27.nogr)) fun x28 =>
  br x28.nogr (
  bd (pu (evLen y20.nogr)) fun x29 =>
  bd (M.call 85 [y23.nogr] s26) fun p30 =>
  bd (pu (buildV [(.int .i64 0), (.int .i64 0), (.int .i64 0), (.str []), (.str []), (.bool false)] [(0, 1, (.int .i64 7)), (1, 1, y21.nogr.nogr), (2, 1, x29.nogr), (3, 1, p30.1.nogr)])) fun x31 =>
  bd (storeV p30.2 6 y22.nogr x31.nogr x31.nogr) fun p32 =>
  j_wattleref03_url_1 M n0 n1 r1 y22 p32.2) (
  bd (pu (evIaddr 1 y25.nogr.nogr y20.nogr.nogr)) fun x33 =>
  bd (pu (evLoad s26 false 1 x33.nogr)) fun x34 =>
  bd (pu (evBin .eql .no x34.nogr (.int .i64 41))) fun x35 =>
  br x35.nogr (
  bd (pu (evBin .add .no y25.nogr.nogr (.int .i64 1))) fun x36 =>
  bd (M.call 85 [y23.nogr] s26) fun p37 =>
  bd (pu (buildV [(.int .i64 0), (.int .i64 0), (.int .i64 0), (.str []), (.str []), (.bool false)] [(0, 1, (.int .i64 7)), (1, 1, y21.nogr.nogr), (2, 1, x36.nogr), (3, 1, p37.1.nogr)])) fun x38 =>
  bd (storeV p37.2 6 y22.nogr x38.nogr x38.nogr) fun p39 =>
  j_wattleref03_url_1 M n0 n1 r1 y22 p39.2) (
  bd (pu (evIaddr 1 y25.nogr.nogr y20.nogr.nogr)) fun x40 =>
  bd (pu (evLoad s26 false 1 x40.nogr)) fun x41 =>
  bd (pu (evBin .gtr .no y25.nogr.nogr y24.nogr.nogr)) fun x42 =>
  bd (gdv x42.nogr false (some x41.nogr.nogr)) fun x43 =>
  bd (gdv x42.nogr false (pu (evBin .eql .no x43.nogr (.int .i64 34)))) fun x44 =>
  bd (pu (pickV x42.nogr.nogr (.bool true) x44.nogr)) fun x45 =>
  bd (gdv x45.nogr false (some x41.nogr.nogr)) fun x46 =>
  bd (gdv x45.nogr false (pu (evBin .eql .no x46.nogr (.int .i64 39)))) fun x47 =>
  bd (pu (pickV x45.nogr.nogr (.bool true) x47.nogr)) fun x48 =>
  bd (gdv x48.nogr false (some x41.nogr.nogr)) fun x49 =>
  bd (gdv x48.nogr false (pu (evBin .eql .no x49.nogr (.int .i64 40)))) fun x50 =>
  bd (pu (pickV x48.nogr.nogr (.bool true) x50.nogr)) fun x51 =>
  bd (gdv x51.nogr false (some x41.nogr.nogr)) fun x52 =>
  bd (gdp x51.nogr false (M.call 113 [x52.nogr] s26) s26) fun p53 =>
  bd (pu (pickV x51.nogr.nogr (.bool true) p53.1.nogr)) fun x54 =>
  bd (gdv x54.nogr false (some x41.nogr.nogr)) fun x55 =>
  bd (gdv x54.nogr false (pu (evBin .eql .no x55.nogr (.int .i64 92)))) fun x56 =>
  bd (gdv x54.nogr false (some x56.nogr)) fun x57 =>
  bd (gdv x57 true (some y20.nogr)) fun x58 =>
  bd (gdv x57 true (some y25.nogr)) fun x59 =>
  bd (gdp x57 true (M.call 84 [x58.nogr, x59.nogr] p53.2) p53.2) fun p60 =>
  bd (gdv x57 true (pu (evUn .not p60.1.nogr))) fun x61 =>
  bd (gdv x54.nogr false (pu (pickV x57.nogr x61.nogr (.bool false)))) fun x62 =>
  bd (pu (pickV x54.nogr.nogr (.bool true) x62.nogr)) fun x63 =>
  br x63.nogr (
  bd (M.call 114 [y20.nogr, y21.nogr.nogr, y25.nogr.nogr] p60.2) fun p64 =>
  bd (storeV p64.2 6 y22.nogr p64.1.nogr p64.1.nogr) fun p65 =>
  j_wattleref03_url_1 M n0 n1 r1 y22 p65.2) (
  bd (pu (evBin .eql .no x41.nogr.nogr.nogr (.int .i64 92))) fun x66 =>
  br x66.nogr (
  bd (M.call 96 [y20.nogr.nogr, y25.nogr.nogr] p60.2) fun p67 =>
  bd (pu (evExtr 0 p67.1.nogr.nogr)) fun x68 =>
  bd (pu (evExtr 1 p67.1.nogr.nogr)) fun x69 =>
  bd (buildFV false 1 1 (.int .i64 0) [(0, x68.nogr.nogr.nogr)]) fun x70 =>
  bd (appV false false 1 8 p67.2 y23 x70.nogr) fun x71 =>
  j_wattleref03_url_0 M n0 n1 r1 y20 y21 y22 x71 x69.nogr.nogr.nogr p67.2) (
  bd (buildFV false 1 1 (.int .i64 0) [(0, x41.nogr.nogr.nogr)]) fun x72 =>
  bd (appV false false 1 8 p60.2 y23 x72.nogr) fun x73 =>
  bd (pu (evBin .add .no y25.nogr.nogr (.int .i64 1))) fun x74 =>
  j_wattleref03_url_0 M n0 n1 r1 y20 y21 y22 x73 x74.nogr p60.2)))))
def l_wattleref03_url_1 (M : Mach) (n0 : Nat) (n1 : Nat) (r1 : Rk) (n2 : Nat) : Rk := M.fx fun rec vs σ => b_wattleref03_url_1 M n0 n1 r1 n2 rec (vs.getD 0 .undef) (vs.getD 1 .undef) (vs.getD 2 .undef) (vs.getD 3 .undef) (vs.getD 4 .undef) (vs.getD 5 .undef) σ
def b_wattleref03_url_0 (M : Mach) (n0 : Nat) (n1 : Nat) (r1 : Rk) (z0 z1 z6 z7 z8 : V) (σ : Objs) : Ro :=
  bd (fz σ.length σ fzDepth z0) fun y75 =>
  bd (fz σ.length σ fzDepth z1) fun y76 =>
  bd (fz σ.length σ fzDepth z6) fun y77 =>
  bd (fz σ.length σ fzDepth z7) fun y78 =>
  bd (fz σ.length σ fzDepth z8) fun y79 =>
  bd (fz σ.length σ fzDepth z8.nogr.nogr) fun y80 =>
  l_wattleref03_url_1 M n0 n1 r1 σ.length [y75, y76, y77, y78, y79, y80] σ
def l_wattleref03_url_0 (M : Mach) (n0 : Nat) (n1 : Nat) : Rk := M.fx fun rec vs σ => b_wattleref03_url_0 M n0 n1 rec (vs.getD 0 .undef) (vs.getD 1 .undef) (vs.getD 2 .undef) (vs.getD 3 .undef) (vs.getD 4 .undef) σ
def s_wattleref03_url (M : Mach) (a0 a1 a2 : V) (σ : Objs) : Ro :=
  let s0 : Objs := σ ++ [.cells [(.int .i64 0), (.int .i64 0), (.int .i64 0), (.str []), (.str []), (.bool false)]]
  bd (buildFV false 1 0 .any []) fun x1 =>
  bd (fz s0.length s0 fzDepth a0) fun y81 =>
  bd (fz s0.length s0 fzDepth a1) fun y82 =>
  bd (fz s0.length s0 fzDepth (.ptr σ.length 0)) fun y83 =>
  bd (fz s0.length s0 fzDepth x1) fun y84 =>
  bd (fz s0.length s0 fzDepth a2.nogr.nogr) fun y85 =>
  l_wattleref03_url_0 M σ.length s0.length [y81, y82, y83, y84, y85] s0
theorem k_wattleref03_url (M : Mach) (a0 a1 a2 : V) (σ : Objs) : fnK M c_wattleref03_url [a0, a1, a2] σ = s_wattleref03_url M a0 a1 a2 σ := by kernel_rfl
def c_wattleref02_Name : Ev.Fn := ⟨13, [.tmp 2], false, false, (.seq (.ops 0 [⟨(some 2), none, .mv (.c (.bool false)) false⟩]) (.seq (.ops 1 [⟨(some 3), none, .mv (.t 0) false⟩, ⟨(some 4), none, .call 112 [(.t 3)]⟩, ⟨(some 5), none, .mv (.t 4) false⟩, ⟨(some 6), (some (5, false)), .mv (.t 0) false⟩, ⟨(some 7), (some (5, false)), .call 38 [(.t 6)]⟩, ⟨(some 8), none, .pick (.t 5) (.c (.bool true)) (.t 7)⟩, ⟨(some 9), none, .mv (.t 8) false⟩, ⟨(some 10), (some (9, false)), .mv (.t 0) false⟩, ⟨(some 11), (some (9, false)), .bin .eql .no (.t 10) (.c (.int .i64 45))⟩, ⟨(some 12), none, .pick (.t 9) (.c (.bool true)) (.t 11)⟩, ⟨(some 2), none, .mv (.t 12) false⟩]) .ret))⟩
theorem ok_c_wattleref02_Name : chkFn Tryz.prog 101 c_wattleref02_Name = true := chkFn_of Tryz.func101 (by kernel_rfl)
def s_wattleref02_Name (M : Mach) (a0 : V) (σ : Objs) : Ro :=
  bd (M.call 112 [a0.nogr.nogr] σ) fun p0 =>
  bd (gdv p0.1.nogr false (some a0.nogr)) fun x1 =>
  bd (gdp p0.1.nogr false (M.call 38 [x1.nogr] p0.2) p0.2) fun p2 =>
  bd (pu (pickV p0.1.nogr.nogr (.bool true) p2.1.nogr)) fun x3 =>
  bd (gdv x3.nogr false (some a0.nogr)) fun x4 =>
  bd (gdv x3.nogr false (pu (evBin .eql .no x4.nogr (.int .i64 45)))) fun x5 =>
  bd (pu (pickV x3.nogr.nogr (.bool true) x5.nogr)) fun x6 =>
  bd (oneK false x6.nogr) (endK σ.length p2.2)
theorem k_wattleref02_Name (M : Mach) (a0 : V) (σ : Objs) : fnK M c_wattleref02_Name [a0] σ = s_wattleref02_Name M a0 σ := by kernel_rfl
def c_wattleref01_Text : Ev.Fn := ⟨28, [.tmp 2], false, false, (.seq (.ops 0 [⟨(some 2), none, .mv (.c .nils) false⟩]) (.seq (.ops 1 [⟨(some 5), none, .buildSl false 1 0 .any [] false⟩, ⟨(some 3), none, .mv (.t 5) true⟩]) (.seq (.seq (.ops 2 [⟨(some 4), none, .mv (.c (.int .i64 0)) false⟩]) (.block 0 (.loop [0, 3, 4] [2, 3] (.seq (.seq (.ops 3 [⟨(some 6), none, .mv (.t 4) false⟩, ⟨(some 7), none, .mv (.t 0) false⟩, ⟨(some 8), none, .len (.t 7)⟩, ⟨(some 9), none, .bin .lss .no (.t 6) (.t 8)⟩]) (.cond (.t 9) .skip (.exit 0))) (.seq (.block 1 (.seq (.ops 5 [⟨(some 12), none, .mv (.t 0) false⟩, ⟨(some 13), none, .mv (.t 4) false⟩, ⟨(some 14), none, .iaddr 1 (.t 12) (.t 13)⟩, ⟨(some 15), none, .load false 1 (.t 14)⟩, ⟨(some 16), none, .call 51 [(.t 15)]⟩]) (.cond (.t 16) (.ops 6 [⟨(some 17), none, .mv (.t 3) true⟩, ⟨(some 18), none, .mv (.t 0) false⟩, ⟨(some 19), none, .mv (.t 4) false⟩, ⟨(some 20), none, .iaddr 1 (.t 18) (.t 19)⟩, ⟨(some 21), none, .load false 1 (.t 20)⟩, ⟨(some 22), none, .call 103 [(.t 21)]⟩, ⟨(some 23), none, .app false false 1 1 (.t 17) (.t 22) true⟩, ⟨(some 3), none, .mv (.t 23) true⟩]) (.ops 7 [⟨(some 24), none, .mv (.t 3) true⟩, ⟨(some 25), none, .call 103 [(.c (.int .i64 65533))]⟩, ⟨(some 26), none, .app false false 1 1 (.t 24) (.t 25) true⟩, ⟨(some 3), none, .mv (.t 26) true⟩])))) (.ops 4 [⟨(some 10), none, .mv (.t 4) false⟩, ⟨(some 11), none, .bin .add .no (.t 10) (.c (.int .i64 1))⟩, ⟨(some 4), none, .mv (.t 11) false⟩])))))) (.seq (.ops 8 [⟨(some 27), none, .mv (.t 3) true⟩, ⟨(some 2), none, .mv (.t 27) true⟩]) .ret))))⟩
theorem ok_c_wattleref01_Text : chkFn Tryz.prog 102 c_wattleref01_Text = true := chkFn_of Tryz.func102 (by kernel_rfl)
def j_wattleref01_Text_0 (M : Mach) (n0 : Nat) (n1 : Nat) (r1 : Rk) (z0 z3 z4 : V) (σ : Objs) : Ro :=
  bd (pu (evBin .add .no z4.nogr.nogr (.int .i64 1))) fun x3 =>
  bd (fz n1 σ fzDepth z0) fun y4 =>
  bd (fz n1 σ fzDepth z3) fun y5 =>
  bd (fz n1 σ fzDepth x3.nogr) fun y6 =>
  bd (cutObjs n1 σ) fun s7 => r1 [y4, y5, y6] s7
def b_wattleref01_Text_0 (M : Mach) (n0 : Nat) (n1 : Nat) (r1 : Rk) (z0 z3 z4 : V) (σ : Objs) : Ro :=
  bd (pu (evLen z0.nogr.nogr)) fun x1 =>
  bd (pu (evBin .lss .no z4.nogr.nogr x1.nogr)) fun x2 =>
  br x2.nogr (
  bd (pu (evIaddr 1 z4.nogr.nogr z0.nogr.nogr)) fun x8 =>
  bd (pu (evLoad σ false 1 x8.nogr)) fun x9 =>
  bd (M.call 51 [x9.nogr] σ) fun p10 =>
  br p10.1.nogr (
  bd (pu (evIaddr 1 z4.nogr.nogr z0.nogr.nogr)) fun x11 =>
  bd (pu (evLoad p10.2 false 1 x11.nogr)) fun x12 =>
  bd (M.call 103 [x12.nogr] p10.2) fun p13 =>
  bd (appV false false 1 1 p13.2 z3 p13.1.nogr) fun x14 =>
  j_wattleref01_Text_0 M n0 n1 r1 z0 x14 z4 p13.2) (
  bd (M.call 103 [(.int .i64 65533)] p10.2) fun p15 =>
  bd (appV false false 1 1 p15.2 z3 p15.1.nogr) fun x16 =>
  j_wattleref01_Text_0 M n0 n1 r1 z0 x16 z4 p15.2)) (
  bd (fz n1 σ fzDepth .any) fun y17 =>
  bd (fz n1 σ fzDepth z3) fun y18 =>
  bd (cutObjs n1 σ) fun s19 =>
  bd (oneK false y18) (endK n0 s19))
def l_wattleref01_Text_0 (M : Mach) (n0 : Nat) (n1 : Nat) : Rk := M.fx fun rec vs σ => b_wattleref01_Text_0 M n0 n1 rec (vs.getD 0 .undef) (vs.getD 1 .undef) (vs.getD 2 .undef) σ
def s_wattleref01_Text (M : Mach) (a0 : V) (σ : Objs) : Ro :=
  bd (buildFV false 1 0 .any []) fun x0 =>
  bd (fz σ.length σ fzDepth a0) fun y20 =>
  bd (fz σ.length σ fzDepth x0) fun y21 =>
  bd (fz σ.length σ fzDepth (.int .i64 0)) fun y22 =>
  l_wattleref01_Text_0 M σ.length σ.length [y20, y21, y22] σ
theorem k_wattleref01_Text (M : Mach) (a0 : V) (σ : Objs) : fnK M c_wattleref01_Text [a0] σ = s_wattleref01_Text M a0 σ := by kernel_rfl
def c_unicode_utf8_decodeRuneInStringSlow : Ev.Fn := ⟨117, [.tmp 2, .tmp 3], false, false, (.seq (.ops 0 [⟨(some 2), none, .mv (.c (.int .i32 0)) false⟩, ⟨(some 3), none, .mv (.c (.int .i64 0)) false⟩]) (.seq (.ops 1 [⟨(some 13), none, .mv (.t 0) false⟩, ⟨(some 14), none, .lenS (.t 13)⟩, ⟨(some 4), none, .mv (.t 14) false⟩]) (.seq (.seq (.ops 2 [⟨(some 15), none, .mv (.t 4) false⟩, ⟨(some 16), none, .bin .lss .no (.t 15) (.c (.int .i64 1))⟩]) (.cond (.t 16) (.seq (.ops 3 [⟨(some 2), none, .mv (.c (.int .i32 65533)) false⟩, ⟨(some 3), none, .mv (.c (.int .i64 0)) false⟩]) .ret) .skip)) (.seq (.ops 4 [⟨(some 17), none, .mv (.t 0) false⟩, ⟨(some 18), none, .idx (.t 17) (.c (.int .i64 0))⟩, ⟨(some 5), none, .mv (.t 18) false⟩]) (.seq (.ops 5 [⟨(some 19), none, .mv (.t 5) false⟩, ⟨(some 20), none, .iaddrA 256 1 (.g 1) (.t 19)⟩, ⟨(some 21), none, .load false 1 (.t 20)⟩, ⟨(some 6), none, .mv (.t 21) false⟩]) (.seq (.seq (.ops 6 [⟨(some 22), none, .mv (.t 6) false⟩, ⟨(some 23), none, .bin .geq .no (.t 22) (.c (.int .u8 240))⟩]) (.cond (.t 23) (.seq (.ops 7 [⟨(some 24), none, .mv (.t 6) false⟩, ⟨(some 25), none, .conv (.toInt .i32) (.t 24)⟩, ⟨(some 26), none, .bin .shl .no (.t 25) (.c (.int .u64 31))⟩, ⟨(some 27), none, .bin .shr .no (.t 26) (.c (.int .u64 31))⟩, ⟨(some 7), none, .mv (.t 27) false⟩]) (.seq (.ops 8 [⟨(some 28), none, .mv (.t 0) false⟩, ⟨(some 29), none, .idx (.t 28) (.c (.int .i64 0))⟩, ⟨(some 30), none, .conv (.toInt .i32) (.t 29)⟩, ⟨(some 31), none, .mv (.t 7) false⟩, ⟨(some 32), none, .bin .andNot .no (.t 30) (.t 31)⟩, ⟨(some 33), none, .mv (.t 7) false⟩, ⟨(some 34), none, .bin .and .no (.c (.int .i32 65533)) (.t 33)⟩, ⟨(some 35), none, .bin .or .no (.t 32) (.t 34)⟩, ⟨(some 2), none, .mv (.t 35) false⟩, ⟨(some 3), none, .mv (.c (.int .i64 1)) false⟩]) .ret)) .skip)) (.seq (.ops 9 [⟨(some 36), none, .mv (.t 6) false⟩, ⟨(some 37), none, .bin .and .no (.t 36) (.c (.int .u8 7))⟩, ⟨(some 38), none, .conv (.toInt .i64) (.t 37)⟩, ⟨(some 8), none, .mv (.t 38) false⟩]) (.seq (.ops 10 [⟨(some 39), none, .mv (.t 6) false⟩, ⟨(some 40), none, .bin .shr .no (.t 39) (.c (.int .u64 4))⟩, ⟨(some 41), none, .iaddrA 16 2 (.g 2) (.t 40)⟩, ⟨(some 42), none, .load true 2 (.t 41)⟩, ⟨(some 9), none, .alloc [(.int .u8 0), (.int .u8 0)]⟩, ⟨none, none, .store 2 (.t 9) (.t 42) false⟩]) (.seq (.seq (.ops 11 [⟨(some 43), none, .mv (.t 4) false⟩, ⟨(some 44), none, .mv (.t 8) false⟩, ⟨(some 45), none, .bin .lss .no (.t 43) (.t 44)⟩]) (.cond (.t 45) (.seq (.ops 12 [⟨(some 2), none, .mv (.c (.int .i32 65533)) false⟩, ⟨(some 3), none, .mv (.c (.int .i64 1)) false⟩]) .ret) .skip)) (.seq (.ops 13 [⟨(some 46), none, .mv (.t 0) false⟩, ⟨(some 47), none, .idx (.t 46) (.c (.int .i64 1))⟩, ⟨(some 10), none, .mv (.t 47) false⟩]) (.seq (.seq (.ops 14 [⟨(some 48), none, .mv (.t 10) false⟩, ⟨(some 49), none, .faddr 0 (.t 9)⟩, ⟨(some 50), none, .load false 1 (.t 49)⟩, ⟨(some 51), none, .bin .lss .no (.t 48) (.t 50)⟩, ⟨(some 52), none, .mv (.t 51) false⟩, ⟨(some 53), (some (52, false)), .faddr 1 (.t 9)⟩, ⟨(some 54), (some (52, false)), .load false 1 (.t 53)⟩, ⟨(some 55), (some (52, false)), .mv (.t 10) false⟩, ⟨(some 56), (some (52, false)), .bin .lss .no (.t 54) (.t 55)⟩, ⟨(some 57), none, .pick (.t 52) (.c (.bool true)) (.t 56)⟩]) (.cond (.t 57) (.seq (.ops 15 [⟨(some 2), none, .mv (.c (.int .i32 65533)) false⟩, ⟨(some 3), none, .mv (.c (.int .i64 1)) false⟩]) .ret) .skip)) (.seq (.seq (.ops 16 [⟨(some 58), none, .mv (.t 8) false⟩, ⟨(some 59), none, .bin .leq .no (.t 58) (.c (.int .i64 2))⟩]) (.cond (.t 59) (.seq (.ops 17 [⟨(some 60), none, .mv (.t 5) false⟩, ⟨(some 61), none, .bin .and .no (.t 60) (.c (.int .u8 31))⟩, ⟨(some 62), none, .conv (.toInt .i32) (.t 61)⟩, ⟨(some 63), none, .bin .shl .no (.t 62) (.c (.int .u64 6))⟩, ⟨(some 64), none, .mv (.t 10) false⟩, ⟨(some 65), none, .bin .and .no (.t 64) (.c (.int .u8 63))⟩, ⟨(some 66), none, .conv (.toInt .i32) (.t 65)⟩, ⟨(some 67), none, .bin .or .no (.t 63) (.t 66)⟩, ⟨(some 2), none, .mv (.t 67) false⟩, ⟨(some 3), none, .mv (.c (.int .i64 2)) false⟩]) .ret) .skip)) (.seq (.ops 18 [⟨(some 68), none, .mv (.t 0) false⟩, ⟨(some 69), none, .idx (.t 68) (.c (.int .i64 2))⟩, ⟨(some 11), none, .mv (.t 69) false⟩]) (.seq (.seq (.ops 19 [⟨(some 70), none, .mv (.t 11) false⟩, ⟨(some 71), none, .bin .lss .no (.t 70) (.c (.int .u8 128))⟩, ⟨(some 72), none, .mv (.t 71) false⟩, ⟨(some 73), (some (72, false)), .mv (.t 11) false⟩, ⟨(some 74), (some (72, false)), .bin .lss .no (.c (.int .u8 191)) (.t 73)⟩, ⟨(some 75), none, .pick (.t 72) (.c (.bool true)) (.t 74)⟩]) (.cond (.t 75) (.seq (.ops 20 [⟨(some 2), none, .mv (.c (.int .i32 65533)) false⟩, ⟨(some 3), none, .mv (.c (.int .i64 1)) false⟩]) .ret) .skip)) (.seq (.seq (.ops 21 [⟨(some 76), none, .mv (.t 8) false⟩, ⟨(some 77), none, .bin .leq .no (.t 76) (.c (.int .i64 3))⟩]) (.cond (.t 77) (.seq (.ops 22 [⟨(some 78), none, .mv (.t 5) false⟩, ⟨(some 79), none, .bin .and .no (.t 78) (.c (.int .u8 15))⟩, ⟨(some 80), none, .conv (.toInt .i32) (.t 79)⟩, ⟨(some 81), none, .bin .shl .no (.t 80) (.c (.int .u64 12))⟩, ⟨(some 82), none, .mv (.t 10) false⟩, ⟨(some 83), none, .bin .and .no (.t 82) (.c (.int .u8 63))⟩, ⟨(some 84), none, .conv (.toInt .i32) (.t 83)⟩, ⟨(some 85), none, .bin .shl .no (.t 84) (.c (.int .u64 6))⟩, ⟨(some 86), none, .bin .or .no (.t 81) (.t 85)⟩, ⟨(some 87), none, .mv (.t 11) false⟩, ⟨(some 88), none, .bin .and .no (.t 87) (.c (.int .u8 63))⟩, ⟨(some 89), none, .conv (.toInt .i32) (.t 88)⟩, ⟨(some 90), none, .bin .or .no (.t 86) (.t 89)⟩, ⟨(some 2), none, .mv (.t 90) false⟩, ⟨(some 3), none, .mv (.c (.int .i64 3)) false⟩]) .ret) .skip)) (.seq (.ops 23 [⟨(some 91), none, .mv (.t 0) false⟩, ⟨(some 92), none, .idx (.t 91) (.c (.int .i64 3))⟩, ⟨(some 12), none, .mv (.t 92) false⟩]) (.seq (.seq (.ops 24 [⟨(some 93), none, .mv (.t 12) false⟩, ⟨(some 94), none, .bin .lss .no (.t 93) (.c (.int .u8 128))⟩, ⟨(some 95), none, .mv (.t 94) false⟩, ⟨(some 96), (some (95, false)), .mv (.t 12) false⟩, ⟨(some 97), (some (95, false)), .bin .lss .no (.c (.int .u8 191)) (.t 96)⟩, ⟨(some 98), none, .pick (.t 95) (.c (.bool true)) (.t 97)⟩]) (.cond (.t 98) (.seq (.ops 25 [⟨(some 2), none, .mv (.c (.int .i32 65533)) false⟩, ⟨(some 3), none, .mv (.c (.int .i64 1)) false⟩]) .ret) .skip)) (.seq (.ops 26 [⟨(some 99), none, .mv (.t 5) false⟩, ⟨(some 100), none, .bin .and .no (.t 99) (.c (.int .u8 7))⟩, ⟨(some 101), none, .conv (.toInt .i32) (.t 100)⟩, ⟨(some 102), none, .bin .shl .no (.t 101) (.c (.int .u64 18))⟩, ⟨(some 103), none, .mv (.t 10) false⟩, ⟨(some 104), none, .bin .and .no (.t 103) (.c (.int .u8 63))⟩, ⟨(some 105), none, .conv (.toInt .i32) (.t 104)⟩, ⟨(some 106), none, .bin .shl .no (.t 105) (.c (.int .u64 12))⟩, ⟨(some 107), none, .bin .or .no (.t 102) (.t 106)⟩, ⟨(some 108), none, .mv (.t 11) false⟩, ⟨(some 109), none, .bin .and .no (.t 108) (.c (.int .u8 63))⟩, ⟨(some 110), none, .conv (.toInt .i32) (.t 109)⟩, ⟨(some 111), none, .bin .shl .no (.t 110) (.c (.int .u64 6))⟩, ⟨(some 112), none, .bin .or .no (.t 107) (.t 111)⟩, ⟨(some 113), none, .mv (.t 12) false⟩, ⟨(some 114), none, .bin .and .no (.t 113) (.c (.int .u8 63))⟩, ⟨(some 115), none, .conv (.toInt .i32) (.t 114)⟩, ⟨(some 116), none, .bin .or .no (.t 112) (.t 115)⟩, ⟨(some 2), none, .mv (.t 116) false⟩, ⟨(some 3), none, .mv (.c (.int .i64 4)) false⟩]) .ret))))))))))))))))))⟩
theorem ok_c_unicode_utf8_decodeRuneInStringSlow : chkFn Tryz.prog 105 c_unicode_utf8_decodeRuneInStringSlow = true := chkFn_of Tryz.func105 (by kernel_rfl)
def s_unicode_utf8_decodeRuneInStringSlow (M : Mach) (a0 : V) (σ : Objs) : Ro :=
  bd (pu (evLenS a0.nogr.nogr)) fun x0 =>
  bd (pu (evBin .lss .no x0.nogr.nogr.nogr (.int .i64 1))) fun x1 =>
  br x1.nogr (
  endK σ.length σ (.tup [(.int .i32 65533), (.int .i64 0)])) (
  bd (pu (evIdx (.int .i64 0) a0.nogr.nogr)) fun x2 =>
  bd (pu (evIaddrA 256 1 x2.nogr.nogr.nogr (M.G.g 1).nogr)) fun x3 =>
  bd (pu (evLoad σ false 1 x3.nogr)) fun x4 =>
  bd (pu (evBin .geq .no x4.nogr.nogr.nogr (.int .u8 240))) fun x5 =>
  br x5.nogr (
  bd (pu (evConv σ (.toInt .i32) x4.nogr.nogr.nogr)) fun x6 =>
  bd (pu (evBin .shl .no x6.nogr (.int .u64 31))) fun x7 =>
  bd (pu (evBin .shr .no x7.nogr (.int .u64 31))) fun x8 =>
  bd (pu (evIdx (.int .i64 0) a0.nogr.nogr)) fun x9 =>
  bd (pu (evConv σ (.toInt .i32) x9.nogr)) fun x10 =>
  bd (pu (evBin .andNot .no x10.nogr x8.nogr.nogr.nogr)) fun x11 =>
  bd (pu (evBin .and .no (.int .i32 65533) x8.nogr.nogr.nogr)) fun x12 =>
  bd (pu (evBin .or .no x11.nogr x12.nogr)) fun x13 =>
  endK σ.length σ (.tup [x13.nogr.nogr, (.int .i64 1)])) (
  bd (pu (evBin .and .no x4.nogr.nogr.nogr (.int .u8 7))) fun x14 =>
  bd (pu (evConv σ (.toInt .i64) x14.nogr)) fun x15 =>
  bd (pu (evBin .shr .no x4.nogr.nogr.nogr (.int .u64 4))) fun x16 =>
  bd (pu (evIaddrA 16 2 x16.nogr (M.G.g 2).nogr)) fun x17 =>
  bd (pu (evLoad σ true 2 x17.nogr)) fun x18 =>
  let s19 : Objs := σ ++ [.cells [(.int .u8 0), (.int .u8 0)]]
  bd (storeV s19 2 (.ptr σ.length 0) x18.nogr x18.nogr) fun p20 =>
  bd (pu (evBin .lss .no x0.nogr.nogr.nogr x15.nogr.nogr.nogr)) fun x21 =>
  br x21.nogr (
  endK σ.length p20.2 (.tup [(.int .i32 65533), (.int .i64 1)])) (
  bd (pu (evIdx (.int .i64 1) a0.nogr.nogr)) fun x22 =>
  bd (pu (evFaddr 0 (.ptr σ.length 0))) fun x23 =>
  bd (pu (evLoad p20.2 false 1 x23.nogr)) fun x24 =>
  bd (pu (evBin .lss .no x22.nogr.nogr.nogr x24.nogr)) fun x25 =>
  bd (gdv x25.nogr false (pu (evFaddr 1 (.ptr σ.length 0)))) fun x26 =>
  bd (gdv x25.nogr false (pu (evLoad p20.2 false 1 x26.nogr))) fun x27 =>
  bd (gdv x25.nogr false (some x22.nogr.nogr)) fun x28 =>
  bd (gdv x25.nogr false (pu (evBin .lss .no x27.nogr x28.nogr))) fun x29 =>
  bd (pu (pickV x25.nogr.nogr (.bool true) x29.nogr)) fun x30 =>
  br x30.nogr (
  endK σ.length p20.2 (.tup [(.int .i32 65533), (.int .i64 1)])) (
  bd (pu (evBin .leq .no x15.nogr.nogr.nogr (.int .i64 2))) fun x31 =>
  br x31.nogr (
  bd (pu (evBin .and .no x2.nogr.nogr.nogr (.int .u8 31))) fun x32 =>
  bd (pu (evConv p20.2 (.toInt .i32) x32.nogr)) fun x33 =>
  bd (pu (evBin .shl .no x33.nogr (.int .u64 6))) fun x34 =>
  bd (pu (evBin .and .no x22.nogr.nogr.nogr (.int .u8 63))) fun x35 =>
  bd (pu (evConv p20.2 (.toInt .i32) x35.nogr)) fun x36 =>
  bd (pu (evBin .or .no x34.nogr x36.nogr)) fun x37 =>
  endK σ.length p20.2 (.tup [x37.nogr.nogr, (.int .i64 2)])) (
  bd (pu (evIdx (.int .i64 2) a0.nogr.nogr)) fun x38 =>
  bd (pu (evBin .lss .no x38.nogr.nogr.nogr (.int .u8 128))) fun x39 =>
  bd (gdv x39.nogr false (some x38.nogr.nogr)) fun x40 =>
  bd (gdv x39.nogr false (pu (evBin .lss .no (.int .u8 191) x40.nogr))) fun x41 =>
  bd (pu (pickV x39.nogr.nogr (.bool true) x41.nogr)) fun x42 =>
  br x42.nogr (
  endK σ.length p20.2 (.tup [(.int .i32 65533), (.int .i64 1)])) (
  bd (pu (evBin .leq .no x15.nogr.nogr.nogr (.int .i64 3))) fun x43 =>
  br x43.nogr (
  bd (pu (evBin .and .no x2.nogr.nogr.nogr (.int .u8 15))) fun x44 =>
  bd (pu (evConv p20.2 (.toInt .i32) x44.nogr)) fun x45 =>
  bd (pu (evBin .shl .no x45.nogr (.int .u64 12))) fun x46 =>
  bd (pu (evBin .and .no x22.nogr.nogr.nogr (.int .u8 63))) fun x47 =>
  bd (pu (evConv p20.2 (.toInt .i32) x47.nogr)) fun x48 =>
  bd (pu (evBin .shl .no x48.nogr (.int .u64 6))) fun x49 =>
  bd (pu (evBin .or .no x46.nogr x49.nogr)) fun x50 =>
  bd (pu (evBin .and .no x38.nogr.nogr.nogr (.int .u8 63))) fun x51 =>
  bd (pu (evConv p20.2 (.toInt .i32) x51.nogr)) fun x52 =>
  bd (pu (evBin .or .no x50.nogr x52.nogr)) fun x53 =>
  endK σ.length p20.2 (.tup [x53.nogr.nogr, (.int .i64 3)])) (
  bd (pu (evIdx (.int .i64 3) a0.nogr.nogr)) fun x54 =>
  bd (pu (evBin .lss .no x54.nogr.nogr.nogr (.int .u8 128))) fun x55 =>
  bd (gdv x55.nogr false (some x54.nogr.nogr)) fun x56 =>
  bd (gdv x55.nogr false (pu (evBin .lss .no (.int .u8 191) x56.nogr))) fun x57 =>
  bd (pu (pickV x55.nogr.nogr (.bool true) x57.nogr)) fun x58 =>
  br x58.nogr (
  endK σ.length p20.2 (.tup [(.int .i32 65533), (.int .i64 1)])) (
  bd (pu (evBin .and .no x2.nogr.nogr.nogr (.int .u8 7))) fun x59 =>
  bd (pu (evConv p20.2 (.toInt .i32) x59.nogr)) fun x60 =>
  bd (pu (evBin .shl .no x60.nogr (.int .u64 18))) fun x61 =>
  bd (pu (evBin .and .no x22.nogr.nogr.nogr (.int .u8 63))) fun x62 =>
  bd (pu (evConv p20.2 (.toInt .i32) x62.nogr)) fun x63 =>
  bd (pu (evBin .shl .no x63.nogr (.int .u64 12))) fun x64 =>
  bd (pu (evBin .or .no x61.nogr x64.nogr)) fun x65 =>
  bd (pu (evBin .and .no x38.nogr.nogr.nogr (.int .u8 63))) fun x66 =>
  bd (pu (evConv p20.2 (.toInt .i32) x66.nogr)) fun x67 =>
  bd (pu (evBin .shl .no x67.nogr (.int .u64 6))) fun x68 =>
  bd (pu (evBin .or .no x65.nogr x68.nogr)) fun x69 =>
  bd (pu (evBin .and .no x54.nogr.nogr.nogr (.int .u8 63))) fun x70 =>
  bd (pu (evConv p20.2 (.toInt .i32) x70.nogr)) fun x71 =>
  bd (pu (evBin .or .no x69.nogr x71.nogr)) fun x72 =>
  endK σ.length p20.2 (.tup [x72.nogr.nogr, (.int .i64 4)])))))))))
theorem k_unicode_utf8_decodeRuneInStringSlow (M : Mach) (a0 : V) (σ : Objs) : fnK M c_unicode_utf8_decodeRuneInStringSlow [a0] σ = s_unicode_utf8_decodeRuneInStringSlow M a0 σ := by kernel_rfl
def c_internal_strconv_small : Ev.Fn := ⟨15, [.tmp 2], true, false, (.seq (.ops 0 [⟨(some 2), none, .mv (.c (.str [])) false⟩]) (.seq (.seq (.ops 1 [⟨(some 3), none, .mv (.t 0) false⟩, ⟨(some 4), none, .bin .lss .no (.t 3) (.c (.int .i64 10))⟩]) (.cond (.t 4) (.seq (.ops 2 [⟨(some 5), none, .mv (.t 0) false⟩, ⟨(some 6), none, .mv (.t 0) false⟩, ⟨(some 7), none, .bin .add .no (.t 6) (.c (.int .i64 1))⟩, ⟨(some 8), none, .cutS (.c (.str [48, 49, 50, 51, 52, 53, 54, 55, 56, 57, 97, 98, 99, 100, 101, 102, 103, 104, 105, 106, 107, 108, 109, 110, 111, 112, 113, 114, 115, 116, 117, 118, 119, 120, 121, 122])) (some (.t 5)) (some (.t 7))⟩, ⟨(some 2), none, .mv (.t 8) false⟩]) .ret) .skip)) (.seq (.ops 3 [⟨(some 9), none, .mv (.t 0) false⟩, ⟨(some 10), none, .bin .mul .no (.t 9) (.c (.int .i64 2))⟩, ⟨(some 11), none, .mv (.t 0) false⟩, ⟨(some 12), none, .bin .mul .no (.t 11) (.c (.int .i64 2))⟩, ⟨(some 13), none, .bin .add .no (.t 12) (.c (.int .i64 2))⟩, ⟨(some 14), none, .cutS (.c (.str [48, 48, 48, 49, 48, 50, 48, 51, 48, 52, 48, 53, 48, 54, 48, 55, 48, 56, 48, 57, 49, 48, 49, 49, 49, 50, 49, 51, 49, 52, 49, 53, 49, 54, 49, 55, 49, 56, 49, 57, 50, 48, 50, 49, 50, 50, 50, 51, 50, 52, 50, 53, 50, 54, 50, 55, 50, 56, 50, 57, 51, 48, 51, 49, 51, 50, 51, 51, 51, 52, 51, 53, 51, 54, 51, 55, 51, 56, 51, 57, 52, 48, 52, 49, 52, 50, 52, 51, 52, 52, 52, 53, 52, 54, 52, 55, 52, 56, 52, 57, 53, 48, 53, 49, 53, 50, 53, 51, 53, 52, 53, 53, 53, 54, 53, 55, 53, 56, 53, 57, 54, 48, 54, 49, 54, 50, 54, 51, 54, 52, 54, 53, 54, 54, 54, 55, 54, 56, 54, 57, 55, 48, 55, 49, 55, 50, 55, 51, 55, 52, 55, 53, 55, 54, 55, 55, 55, 56, 55, 57, 56, 48, 56, 49, 56, 50, 56, 51, 56, 52, 56, 53, 56, 54, 56, 55, 56, 56, 56, 57, 57, 48, 57, 49, 57, 50, 57, 51, 57, 52, 57, 53, 57, 54, 57, 55, 57, 56, 57, 57])) (some (.t 10)) (some (.t 13))⟩, ⟨(some 2), none, .mv (.t 14) false⟩]) .ret)))⟩
theorem ok_c_internal_strconv_small : chkFn Tryz.prog 107 c_internal_strconv_small = true := chkFn_of Tryz.func107 (by kernel_rfl)
def s_internal_strconv_small (M : Mach) (a0 : V) (σ : Objs) : Ro :=
  bd (pu (evBin .lss .no a0.nogr.nogr (.int .i64 10))) fun x0 =>
  br x0.nogr (
  bd (pu (evBin .add .no a0.nogr.nogr (.int .i64 1))) fun x1 =>
  bd (pu (evCutS (.str [48, 49, 50, 51, 52, 53, 54, 55, 56, 57, 97, 98, 99, 100, 101, 102, 103, 104, 105, 106, 107, 108, 109, 110, 111, 112, 113, 114, 115, 116, 117, 118, 119, 120, 121, 122]) (some a0.nogr.nogr) (some x1.nogr))) fun x2 =>
  bd (oneK true x2.nogr) (endK σ.length σ)) (
  bd (pu (evBin .mul .no a0.nogr.nogr (.int .i64 2))) fun x3 =>
  bd (pu (evBin .mul .no a0.nogr.nogr (.int .i64 2))) fun x4 =>
  bd (pu (evBin .add .no x4.nogr (.int .i64 2))) fun x5 =>
  bd (pu (evCutS (.str [48, 48, 48, 49, 48, 50, 48, 51, 48, 52, 48, 53, 48, 54, 48, 55, 48, 56, 48, 57, 49, 48, 49, 49, 49, 50, 49, 51, 49, 52, 49, 53, 49, 54, 49, 55, 49, 56, 49, 57, 50, 48, 50, 49, 50, 50, 50, 51, 50, 52, 50, 53, 50, 54, 50, 55, 50, 56, 50, 57, 51, 48, 51, 49, 51, 50, 51, 51, 51, 52, 51, 53, 51, 54, 51, 55, 51, 56, 51, 57, 52, 48, 52, 49, 52, 50, 52, 51, 52, 52, 52, 53, 52, 54, 52, 55, 52, 56, 52, 57, 53, 48, 53, 49, 53, 50, 53, 51, 53, 52, 53, 53, 53, 54, 53, 55, 53, 56, 53, 57, 54, 48, 54, 49, 54, 50, 54, 51, 54, 52, 54, 53, 54, 54, 54, 55, 54, 56, 54, 57, 55, 48, 55, 49, 55, 50, 55, 51, 55, 52, 55, 53, 55, 54, 55, 55, 55, 56, 55, 57, 56, 48, 56, 49, 56, 50, 56, 51, 56, 52, 56, 53, 56, 54, 56, 55, 56, 56, 56, 57, 57, 48, 57, 49, 57, 50, 57, 51, 57, 52, 57, 53, 57, 54, 57, 55, 57, 56, 57, 57]) (some x3.nogr) (some x5.nogr))) fun x6 =>
  bd (oneK true x6.nogr) (endK σ.length σ))
theorem k_internal_strconv_small (M : Mach) (a0 : V) (σ : Objs) : fnK M c_internal_strconv_small [a0] σ = s_internal_strconv_small M a0 σ := by kernel_rfl
def c_internal_strconv_numDigits : Ev.Fn := ⟨15, [.tmp 2], false, false, (.seq (.ops 0 [⟨(some 2), none, .mv (.c (.int .i64 0)) false⟩]) (.seq (.ops 1 [⟨(some 4), none, .mv (.t 0) false⟩, ⟨(some 5), none, .call 120 [(.t 4)]⟩, ⟨(some 6), none, .call 119 [(.t 5)]⟩, ⟨(some 3), none, .mv (.t 6) false⟩]) (.seq (.ops 2 [⟨(some 7), none, .mv (.t 3) false⟩, ⟨(some 8), none, .mv (.t 0) false⟩, ⟨(some 9), none, .mv (.t 3) false⟩, ⟨(some 10), none, .iaddrA 20 1 (.g 3) (.t 9)⟩, ⟨(some 11), none, .load false 1 (.t 10)⟩, ⟨(some 12), none, .bin .geq .no (.t 8) (.t 11)⟩, ⟨(some 13), none, .call 121 [(.t 12)]⟩, ⟨(some 14), none, .bin .add .no (.t 7) (.t 13)⟩, ⟨(some 2), none, .mv (.t 14) false⟩]) .ret)))⟩
theorem ok_c_internal_strconv_numDigits : chkFn Tryz.prog 108 c_internal_strconv_numDigits = true := chkFn_of Tryz.func108 (by kernel_rfl)
def s_internal_strconv_numDigits (M : Mach) (a0 : V) (σ : Objs) : Ro :=
  bd (M.call 120 [a0.nogr.nogr] σ) fun p0 =>
  bd (M.call 119 [p0.1.nogr] p0.2) fun p1 =>
  bd (pu (evIaddrA 20 1 p1.1.nogr.nogr.nogr (M.G.g 3).nogr)) fun x2 =>
  bd (pu (evLoad p1.2 false 1 x2.nogr)) fun x3 =>
  bd (pu (evBin .geq .no a0.nogr.nogr x3.nogr)) fun x4 =>
  bd (M.call 121 [x4.nogr] p1.2) fun p5 =>
  bd (pu (evBin .add .no p1.1.nogr.nogr.nogr p5.1.nogr)) fun x6 =>
  bd (oneK false x6.nogr) (endK σ.length p5.2)
theorem k_internal_strconv_numDigits (M : Mach) (a0 : V) (σ : Objs) : fnK M c_internal_strconv_numDigits [a0] σ = s_internal_strconv_numDigits M a0 σ := by kernel_rfl
def c_internal_strconv_formatBase10 : Ev.Fn := ⟨167, [], true, false, (.seq (.ops 0 [⟨(some 17), none, .mv (.t 0) false⟩, ⟨(some 18), none, .len (.t 17)⟩, ⟨(some 4), none, .mv (.t 18) false⟩]) (.seq (.block 0 (.loop [0, 1, 4] [0, 1, 4] (.seq (.seq (.ops 1 [⟨(some 19), none, .mv (.t 4) false⟩, ⟨(some 20), none, .bin .geq .no (.t 19) (.c (.int .i64 8))⟩]) (.cond (.t 20) .skip (.exit 0))) (.block 1 (.seq (.ops 2 [⟨(some 21), none, .mv (.t 1) false⟩, ⟨(some 22), none, .bin .rem .no (.t 21) (.c (.int .u64 100000000))⟩, ⟨(some 23), none, .conv (.toInt .u32) (.t 22)⟩, ⟨(some 5), none, .mv (.t 23) false⟩]) (.seq (.ops 3 [⟨(some 24), none, .mv (.t 1) false⟩, ⟨(some 25), none, .bin .quo .no (.t 24) (.c (.int .u64 100000000))⟩, ⟨(some 1), none, .mv (.t 25) false⟩]) (.seq (.ops 4 [⟨(some 26), none, .mv (.t 5) false⟩, ⟨(some 27), none, .bin .quo .no (.t 26) (.c (.int .u32 10000))⟩, ⟨(some 28), none, .mv (.t 5) false⟩, ⟨(some 29), none, .bin .rem .no (.t 28) (.c (.int .u32 10000))⟩, ⟨(some 6), none, .mv (.t 27) false⟩, ⟨(some 7), none, .mv (.t 29) false⟩]) (.seq (.ops 5 [⟨(some 30), none, .mv (.t 7) false⟩, ⟨(some 31), none, .bin .quo .no (.t 30) (.c (.int .u32 100))⟩, ⟨(some 32), none, .bin .mul .no (.t 31) (.c (.int .u32 2))⟩, ⟨(some 33), none, .mv (.t 7) false⟩, ⟨(some 34), none, .bin .rem .no (.t 33) (.c (.int .u32 100))⟩, ⟨(some 35), none, .bin .mul .no (.t 34) (.c (.int .u32 2))⟩, ⟨(some 8), none, .mv (.t 32) false⟩, ⟨(some 9), none, .mv (.t 35) false⟩]) (.seq (.ops 6 [⟨(some 36), none, .mv (.t 6) false⟩, ⟨(some 37), none, .bin .quo .no (.t 36) (.c (.int .u32 100))⟩, ⟨(some 38), none, .bin .mul .no (.t 37) (.c (.int .u32 2))⟩, ⟨(some 39), none, .mv (.t 6) false⟩, ⟨(some 40), none, .bin .rem .no (.t 39) (.c (.int .u32 100))⟩, ⟨(some 41), none, .bin .mul .no (.t 40) (.c (.int .u32 2))⟩, ⟨(some 10), none, .mv (.t 38) false⟩, ⟨(some 11), none, .mv (.t 41) false⟩]) (.seq (.drw 7 [⟨⟨(some 42), none, .mv (.t 0) false⟩, 0, []⟩, ⟨⟨(some 43), none, .mv (.t 4) false⟩, 1, []⟩, ⟨⟨(some 44), none, .bin .sub .no (.t 43) (.c (.int .i64 1))⟩, 2, []⟩, ⟨⟨(some 45), none, .mv (.t 0) false⟩, 3, []⟩, ⟨⟨(some 46), none, .mv (.t 4) false⟩, 4, []⟩, ⟨⟨(some 47), none, .bin .sub .no (.t 46) (.c (.int .i64 2))⟩, 5, []⟩, ⟨⟨(some 48), none, .mv (.t 9) false⟩, 6, []⟩, ⟨⟨(some 49), none, .bin .add .no (.t 48) (.c (.int .u32 1))⟩, 7, []⟩, ⟨⟨(some 50), none, .idx (.c (.str [48, 48, 48, 49, 48, 50, 48, 51, 48, 52, 48, 53, 48, 54, 48, 55, 48, 56, 48, 57, 49, 48, 49, 49, 49, 50, 49, 51, 49, 52, 49, 53, 49, 54, 49, 55, 49, 56, 49, 57, 50, 48, 50, 49, 50, 50, 50, 51, 50, 52, 50, 53, 50, 54, 50, 55, 50, 56, 50, 57, 51, 48, 51, 49, 51, 50, 51, 51, 51, 52, 51, 53, 51, 54, 51, 55, 51, 56, 51, 57, 52, 48, 52, 49, 52, 50, 52, 51, 52, 52, 52, 53, 52, 54, 52, 55, 52, 56, 52, 57, 53, 48, 53, 49, 53, 50, 53, 51, 53, 52, 53, 53, 53, 54, 53, 55, 53, 56, 53, 57, 54, 48, 54, 49, 54, 50, 54, 51, 54, 52, 54, 53, 54, 54, 54, 55, 54, 56, 54, 57, 55, 48, 55, 49, 55, 50, 55, 51, 55, 52, 55, 53, 55, 54, 55, 55, 55, 56, 55, 57, 56, 48, 56, 49, 56, 50, 56, 51, 56, 52, 56, 53, 56, 54, 56, 55, 56, 56, 56, 57, 57, 48, 57, 49, 57, 50, 57, 51, 57, 52, 57, 53, 57, 54, 57, 55, 57, 56, 57, 57])) (.t 49)⟩, 8, []⟩, ⟨⟨(some 51), none, .mv (.t 9) false⟩, 9, []⟩, ⟨⟨(some 52), none, .idx (.c (.str [48, 48, 48, 49, 48, 50, 48, 51, 48, 52, 48, 53, 48, 54, 48, 55, 48, 56, 48, 57, 49, 48, 49, 49, 49, 50, 49, 51, 49, 52, 49, 53, 49, 54, 49, 55, 49, 56, 49, 57, 50, 48, 50, 49, 50, 50, 50, 51, 50, 52, 50, 53, 50, 54, 50, 55, 50, 56, 50, 57, 51, 48, 51, 49, 51, 50, 51, 51, 51, 52, 51, 53, 51, 54, 51, 55, 51, 56, 51, 57, 52, 48, 52, 49, 52, 50, 52, 51, 52, 52, 52, 53, 52, 54, 52, 55, 52, 56, 52, 57, 53, 48, 53, 49, 53, 50, 53, 51, 53, 52, 53, 53, 53, 54, 53, 55, 53, 56, 53, 57, 54, 48, 54, 49, 54, 50, 54, 51, 54, 52, 54, 53, 54, 54, 54, 55, 54, 56, 54, 57, 55, 48, 55, 49, 55, 50, 55, 51, 55, 52, 55, 53, 55, 54, 55, 55, 55, 56, 55, 57, 56, 48, 56, 49, 56, 50, 56, 51, 56, 52, 56, 53, 56, 54, 56, 55, 56, 56, 56, 57, 57, 48, 57, 49, 57, 50, 57, 51, 57, 52, 57, 53, 57, 54, 57, 55, 57, 56, 57, 57])) (.t 51)⟩, 10, []⟩, ⟨⟨(some 53), none, .iaddr 1 (.t 42) (.t 44)⟩, 11, []⟩, ⟨⟨none, none, .store 1 (.t 53) (.t 50) false⟩, 12, []⟩, ⟨⟨(some 54), none, .iaddr 1 (.t 45) (.t 47)⟩, 13, []⟩, ⟨⟨none, none, .store 1 (.t 54) (.t 52) false⟩, 14, []⟩]) (.seq (.drw 8 [⟨⟨(some 55), none, .mv (.t 0) false⟩, 0, []⟩, ⟨⟨(some 56), none, .mv (.t 4) false⟩, 1, []⟩, ⟨⟨(some 57), none, .bin .sub .no (.t 56) (.c (.int .i64 3))⟩, 2, []⟩, ⟨⟨(some 58), none, .mv (.t 0) false⟩, 3, []⟩, ⟨⟨(some 59), none, .mv (.t 4) false⟩, 4, []⟩, ⟨⟨(some 60), none, .bin .sub .no (.t 59) (.c (.int .i64 4))⟩, 5, []⟩, ⟨⟨(some 61), none, .mv (.t 8) false⟩, 6, []⟩, ⟨⟨(some 62), none, .bin .add .no (.t 61) (.c (.int .u32 1))⟩, 7, []⟩, ⟨⟨(some 63), none, .idx (.c (.str [48, 48, 48, 49, 48, 50, 48, 51, 48, 52, 48, 53, 48, 54, 48, 55, 48, 56, 48, 57, 49, 48, 49, 49, 49, 50, 49, 51, 49, 52, 49, 53, 49, 54, 49, 55, 49, 56, 49, 57, 50, 48, 50, 49, 50, 50, 50, 51, 50, 52, 50, 53, 50, 54, 50, 55, 50, 56, 50, 57, 51, 48, 51, 49, 51, 50, 51, 51, 51, 52, 51, 53, 51, 54, 51, 55, 51, 56, 51, 57, 52, 48, 52, 49, 52, 50, 52, 51, 52, 52, 52, 53, 52, 54, 52, 55, 52, 56, 52, 57, 53, 48, 53, 49, 53, 50, 53, 51, 53, 52, 53, 53, 53, 54, 53, 55, 53, 56, 53, 57, 54, 48, 54, 49, 54, 50, 54, 51, 54, 52, 54, 53, 54, 54, 54, 55, 54, 56, 54, 57, 55, 48, 55, 49, 55, 50, 55, 51, 55, 52, 55, 53, 55, 54, 55, 55, 55, 56, 55, 57, 56, 48, 56, 49, 56, 50, 56, 51, 56, 52, 56, 53, 56, 54, 56, 55, 56, 56, 56, 57, 57, 48, 57, 49, 57, 50, 57, 51, 57, 52, 57, 53, 57, 54, 57, 55, 57, 56, 57, 57])) (.t 62)⟩, 8, []⟩, ⟨⟨(some 64), none, .mv (.t 8) false⟩, 9, []⟩, ⟨⟨(some 65), none, .idx (.c (.str [48, 48, 48, 49, 48, 50, 48, 51, 48, 52, 48, 53, 48, 54, 48, 55, 48, 56, 48, 57, 49, 48, 49, 49, 49, 50, 49, 51, 49, 52, 49, 53, 49, 54, 49, 55, 49, 56, 49, 57, 50, 48, 50, 49, 50, 50, 50, 51, 50, 52, 50, 53, 50, 54, 50, 55, 50, 56, 50, 57, 51, 48, 51, 49, 51, 50, 51, 51, 51, 52, 51, 53, 51, 54, 51, 55, 51, 56, 51, 57, 52, 48, 52, 49, 52, 50, 52, 51, 52, 52, 52, 53, 52, 54, 52, 55, 52, 56, 52, 57, 53, 48, 53, 49, 53, 50, 53, 51, 53, 52, 53, 53, 53, 54, 53, 55, 53, 56, 53, 57, 54, 48, 54, 49, 54, 50, 54, 51, 54, 52, 54, 53, 54, 54, 54, 55, 54, 56, 54, 57, 55, 48, 55, 49, 55, 50, 55, 51, 55, 52, 55, 53, 55, 54, 55, 55, 55, 56, 55, 57, 56, 48, 56, 49, 56, 50, 56, 51, 56, 52, 56, 53, 56, 54, 56, 55, 56, 56, 56, 57, 57, 48, 57, 49, 57, 50, 57, 51, 57, 52, 57, 53, 57, 54, 57, 55, 57, 56, 57, 57])) (.t 64)⟩, 10, []⟩, ⟨⟨(some 66), none, .iaddr 1 (.t 55) (.t 57)⟩, 11, []⟩, ⟨⟨none, none, .store 1 (.t 66) (.t 63) false⟩, 12, []⟩, ⟨⟨(some 67), none, .iaddr 1 (.t 58) (.t 60)⟩, 13, []⟩, ⟨⟨none, none, .store 1 (.t 67) (.t 65) false⟩, 14, []⟩]) (.seq (.drw 9 [⟨⟨(some 68), none, .mv (.t 0) false⟩, 0, []⟩, ⟨⟨(some 69), none, .mv (.t 4) false⟩, 1, []⟩, ⟨⟨(some 70), none, .bin .sub .no (.t 69) (.c (.int .i64 5))⟩, 2, []⟩, ⟨⟨(some 71), none, .mv (.t 0) false⟩, 3, []⟩, ⟨⟨(some 72), none, .mv (.t 4) false⟩, 4, []⟩, ⟨⟨(some 73), none, .bin .sub .no (.t 72) (.c (.int .i64 6))⟩, 5, []⟩, ⟨⟨(some 74), none, .mv (.t 11) false⟩, 6, []⟩, ⟨⟨(some 75), none, .bin .add .no (.t 74) (.c (.int .u32 1))⟩, 7, []⟩, ⟨⟨(some 76), none, .idx (.c (.str [48, 48, 48, 49, 48, 50, 48, 51, 48, 52, 48, 53, 48, 54, 48, 55, 48, 56, 48, 57, 49, 48, 49, 49, 49, 50, 49, 51, 49, 52, 49, 53, 49, 54, 49, 55, 49, 56, 49, 57, 50, 48, 50, 49, 50, 50, 50, 51, 50, 52, 50, 53, 50, 54, 50, 55, 50, 56, 50, 57, 51, 48, 51, 49, 51, 50, 51, 51, 51, 52, 51, 53, 51, 54, 51, 55, 51, 56, 51, 57, 52, 48, 52, 49, 52, 50, 52, 51, 52, 52, 52, 53, 52, 54, 52, 55, 52, 56, 52, 57, 53, 48, 53, 49, 53, 50, 53, 51, 53, 52, 53, 53, 53, 54, 53, 55, 53, 56, 53, 57, 54, 48, 54, 49, 54, 50, 54, 51, 54, 52, 54, 53, 54, 54, 54, 55, 54, 56, 54, 57, 55, 48, 55, 49, 55, 50, 55, 51, 55, 52, 55, 53, 55, 54, 55, 55, 55, 56, 55, 57, 56, 48, 56, 49, 56, 50, 56, 51, 56, 52, 56, 53, 56, 54, 56, 55, 56, 56, 56, 57, 57, 48, 57, 49, 57, 50, 57, 51, 57, 52, 57, 53, 57, 54, 57, 55, 57, 56, 57, 57])) (.t 75)⟩, 8, []⟩, ⟨⟨(some 77), none, .mv (.t 11) false⟩, 9, []⟩, ⟨⟨(some 78), none, .idx (.c (.str [48, 48, 48, 49, 48, 50, 48, 51, 48, 52, 48, 53, 48, 54, 48, 55, 48, 56, 48, 57, 49, 48, 49, 49, 49, 50, 49, 51, 49, 52, 49, 53, 49, 54, 49, 55, 49, 56, 49, 57, 50, 48, 50, 49, 50, 50, 50, 51, 50, 52, 50, 53, 50, 54, 50, 55, 50, 56, 50, 57, 51, 48, 51, 49, 51, 50, 51, 51, 51, 52, 51, 53, 51, 54, 51, 55, 51, 56, 51, 57, 52, 48, 52, 49, 52, 50, 52, 51, 52, 52, 52, 53, 52, 54, 52, 55, 52, 56, 52, 57, 53, 48, 53, 49, 53, 50, 53, 51, 53, 52, 53, 53, 53, 54, 53, 55, 53, 56, 53, 57, 54, 48, 54, 49, 54, 50, 54, 51, 54, 52, 54, 53, 54, 54, 54, 55, 54, 56, 54, 57, 55, 48, 55, 49, 55, 50, 55, 51, 55, 52, 55, 53, 55, 54, 55, 55, 55, 56, 55, 57, 56, 48, 56, 49, 56, 50, 56, 51, 56, 52, 56, 53, 56, 54, 56, 55, 56, 56, 56, 57, 57, 48, 57, 49, 57, 50, 57, 51, 57, 52, 57, 53, 57, 54, 57, 55, 57, 56, 57, 57])) (.t 77)⟩, 10, []⟩, ⟨⟨(some 79), none, .iaddr 1 (.t 68) (.t 70)⟩, 11, []⟩, ⟨⟨none, none, .store 1 (.t 79) (.t 76) false⟩, 12, []⟩, ⟨⟨(some 80), none, .iaddr 1 (.t 71) (.t 73)⟩, 13, []⟩, ⟨⟨none, none, .store 1 (.t 80) (.t 78) false⟩, 14, []⟩]) (.seq (.drw 10 [⟨⟨(some 81), none, .mv (.t 0) false⟩, 0, []⟩, ⟨⟨(some 82), none, .mv (.t 4) false⟩, 1, []⟩, ⟨⟨(some 83), none, .bin .sub .no (.t 82) (.c (.int .i64 7))⟩, 2, []⟩, ⟨⟨(some 84), none, .mv (.t 0) false⟩, 3, []⟩, ⟨⟨(some 85), none, .mv (.t 4) false⟩, 4, []⟩, ⟨⟨(some 86), none, .bin .sub .no (.t 85) (.c (.int .i64 8))⟩, 5, []⟩, ⟨⟨(some 87), none, .mv (.t 10) false⟩, 6, []⟩, ⟨⟨(some 88), none, .bin .add .no (.t 87) (.c (.int .u32 1))⟩, 7, []⟩, ⟨⟨(some 89), none, .idx (.c (.str [48, 48, 48, 49, 48, 50, 48, 51, 48, 52, 48, 53, 48, 54, 48, 55, 48, 56, 48, 57, 49, 48, 49, 49, 49, 50, 49, 51, 49, 52, 49, 53, 49, 54, 49, 55, 49, 56, 49, 57, 50, 48, 50, 49, 50, 50, 50, 51, 50, 52, 50, 53, 50, 54, 50, 55, 50, 56, 50, 57, 51, 48, 51, 49, 51, 50, 51, 51, 51, 52, 51, 53, 51, 54, 51, 55, 51, 56, 51, 57, 52, 48, 52, 49, 52, 50, 52, 51, 52, 52, 52, 53, 52, 54, 52, 55, 52, 56, 52, 57, 53, 48, 53, 49, 53, 50, 53, 51, 53, 52, 53, 53, 53, 54, 53, 55, 53, 56, 53, 57, 54, 48, 54, 49, 54, 50, 54, 51, 54, 52, 54, 53, 54, 54, 54, 55, 54, 56, 54, 57, 55, 48, 55, 49, 55, 50, 55, 51, 55, 52, 55, 53, 55, 54, 55, 55, 55, 56, 55, 57, 56, 48, 56, 49, 56, 50, 56, 51, 56, 52, 56, 53, 56, 54, 56, 55, 56, 56, 56, 57, 57, 48, 57, 49, 57, 50, 57, 51, 57, 52, 57, 53, 57, 54, 57, 55, 57, 56, 57, 57])) (.t 88)⟩, 8, []⟩, ⟨⟨(some 90), none, .mv (.t 10) false⟩, 9, []⟩, ⟨⟨(some 91), none, .idx (.c (.str [48, 48, 48, 49, 48, 50, 48, 51, 48, 52, 48, 53, 48, 54, 48, 55, 48, 56, 48, 57, 49, 48, 49, 49, 49, 50, 49, 51, 49, 52, 49, 53, 49, 54, 49, 55, 49, 56, 49, 57, 50, 48, 50, 49, 50, 50, 50, 51, 50, 52, 50, 53, 50, 54, 50, 55, 50, 56, 50, 57, 51, 48, 51, 49, 51, 50, 51, 51, 51, 52, 51, 53, 51, 54, 51, 55, 51, 56, 51, 57, 52, 48, 52, 49, 52, 50, 52, 51, 52, 52, 52, 53, 52, 54, 52, 55, 52, 56, 52, 57, 53, 48, 53, 49, 53, 50, 53, 51, 53, 52, 53, 53, 53, 54, 53, 55, 53, 56, 53, 57, 54, 48, 54, 49, 54, 50, 54, 51, 54, 52, 54, 53, 54, 54, 54, 55, 54, 56, 54, 57, 55, 48, 55, 49, 55, 50, 55, 51, 55, 52, 55, 53, 55, 54, 55, 55, 55, 56, 55, 57, 56, 48, 56, 49, 56, 50, 56, 51, 56, 52, 56, 53, 56, 54, 56, 55, 56, 56, 56, 57, 57, 48, 57, 49, 57, 50, 57, 51, 57, 52, 57, 53, 57, 54, 57, 55, 57, 56, 57, 57])) (.t 90)⟩, 10, []⟩, ⟨⟨(some 92), none, .iaddr 1 (.t 81) (.t 83)⟩, 11, []⟩, ⟨⟨none, none, .store 1 (.t 92) (.t 89) false⟩, 12, []⟩, ⟨⟨(some 93), none, .iaddr 1 (.t 84) (.t 86)⟩, 13, []⟩, ⟨⟨none, none, .store 1 (.t 93) (.t 91) false⟩, 14, []⟩]) (.ops 11 [⟨(some 94), none, .mv (.t 4) false⟩, ⟨(some 95), none, .bin .sub .no (.t 94) (.c (.int .i64 8))⟩, ⟨(some 4), none, .mv (.t 95) false⟩])))))))))))))) (.seq (.ops 12 [⟨(some 96), none, .mv (.t 1) false⟩, ⟨(some 97), none, .conv (.toInt .u32) (.t 96)⟩, ⟨(some 12), none, .mv (.t 97) false⟩]) (.seq (.seq (.ops 13 [⟨(some 98), none, .mv (.t 4) false⟩, ⟨(some 99), none, .bin .geq .no (.t 98) (.c (.int .i64 4))⟩]) (.cond (.t 99) (.seq (.ops 14 [⟨(some 100), none, .mv (.t 12) false⟩, ⟨(some 101), none, .bin .rem .no (.t 100) (.c (.int .u32 10000))⟩, ⟨(some 13), none, .mv (.t 101) false⟩]) (.seq (.ops 15 [⟨(some 102), none, .mv (.t 12) false⟩, ⟨(some 103), none, .bin .quo .no (.t 102) (.c (.int .u32 10000))⟩, ⟨(some 12), none, .mv (.t 103) false⟩]) (.seq (.ops 16 [⟨(some 104), none, .mv (.t 13) false⟩, ⟨(some 105), none, .bin .quo .no (.t 104) (.c (.int .u32 100))⟩, ⟨(some 106), none, .bin .mul .no (.t 105) (.c (.int .u32 2))⟩, ⟨(some 107), none, .mv (.t 13) false⟩, ⟨(some 108), none, .bin .rem .no (.t 107) (.c (.int .u32 100))⟩, ⟨(some 109), none, .bin .mul .no (.t 108) (.c (.int .u32 2))⟩, ⟨(some 14), none, .mv (.t 106) false⟩, ⟨(some 15), none, .mv (.t 109) false⟩]) (.seq (.drw 17 [⟨⟨(some 110), none, .mv (.t 0) false⟩, 0, []⟩, ⟨⟨(some 111), none, .mv (.t 4) false⟩, 1, []⟩, ⟨⟨(some 112), none, .bin .sub .no (.t 111) (.c (.int .i64 1))⟩, 2, []⟩, ⟨⟨(some 113), none, .mv (.t 0) false⟩, 3, []⟩, ⟨⟨(some 114), none, .mv (.t 4) false⟩, 4, []⟩, ⟨⟨(some 115), none, .bin .sub .no (.t 114) (.c (.int .i64 2))⟩, 5, []⟩, ⟨⟨(some 116), none, .mv (.t 15) false⟩, 6, []⟩, ⟨⟨(some 117), none, .bin .add .no (.t 116) (.c (.int .u32 1))⟩, 7, []⟩, ⟨⟨(some 118), none, .idx (.c (.str [48, 48, 48, 49, 48, 50, 48, 51, 48, 52, 48, 53, 48, 54, 48, 55, 48, 56, 48, 57, 49, 48, 49, 49, 49, 50, 49, 51, 49, 52, 49, 53, 49, 54, 49, 55, 49, 56, 49, 57, 50, 48, 50, 49, 50, 50, 50, 51, 50, 52, 50, 53, 50, 54, 50, 55, 50, 56, 50, 57, 51, 48, 51, 49, 51, 50, 51, 51, 51, 52, 51, 53, 51, 54, 51, 55, 51, 56, 51, 57, 52, 48, 52, 49, 52, 50, 52, 51, 52, 52, 52, 53, 52, 54, 52, 55, 52, 56, 52, 57, 53, 48, 53, 49, 53, 50, 53, 51, 53, 52, 53, 53, 53, 54, 53, 55, 53, 56, 53, 57, 54, 48, 54, 49, 54, 50, 54, 51, 54, 52, 54, 53, 54, 54, 54, 55, 54, 56, 54, 57, 55, 48, 55, 49, 55, 50, 55, 51, 55, 52, 55, 53, 55, 54, 55, 55, 55, 56, 55, 57, 56, 48, 56, 49, 56, 50, 56, 51, 56, 52, 56, 53, 56, 54, 56, 55, 56, 56, 56, 57, 57, 48, 57, 49, 57, 50, 57, 51, 57, 52, 57, 53, 57, 54, 57, 55, 57, 56, 57, 57])) (.t 117)⟩, 8, []⟩, ⟨⟨(some 119), none, .mv (.t 15) false⟩, 9, []⟩, ⟨⟨(some 120), none, .idx (.c (.str [48, 48, 48, 49, 48, 50, 48, 51, 48, 52, 48, 53, 48, 54, 48, 55, 48, 56, 48, 57, 49, 48, 49, 49, 49, 50, 49, 51, 49, 52, 49, 53, 49, 54, 49, 55, 49, 56, 49, 57, 50, 48, 50, 49, 50, 50, 50, 51, 50, 52, 50, 53, 50, 54, 50, 55, 50, 56, 50, 57, 51, 48, 51, 49, 51, 50, 51, 51, 51, 52, 51, 53, 51, 54, 51, 55, 51, 56, 51, 57, 52, 48, 52, 49, 52, 50, 52, 51, 52, 52, 52, 53, 52, 54, 52, 55, 52, 56, 52, 57, 53, 48, 53, 49, 53, 50, 53, 51, 53, 52, 53, 53, 53, 54, 53, 55, 53, 56, 53, 57, 54, 48, 54, 49, 54, 50, 54, 51, 54, 52, 54, 53, 54, 54, 54, 55, 54, 56, 54, 57, 55, 48, 55, 49, 55, 50, 55, 51, 55, 52, 55, 53, 55, 54, 55, 55, 55, 56, 55, 57, 56, 48, 56, 49, 56, 50, 56, 51, 56, 52, 56, 53, 56, 54, 56, 55, 56, 56, 56, 57, 57, 48, 57, 49, 57, 50, 57, 51, 57, 52, 57, 53, 57, 54, 57, 55, 57, 56, 57, 57])) (.t 119)⟩, 10, []⟩, ⟨⟨(some 121), none, .iaddr 1 (.t 110) (.t 112)⟩, 11, []⟩, ⟨⟨none, none, .store 1 (.t 121) (.t 118) false⟩, 12, []⟩, ⟨⟨(some 122), none, .iaddr 1 (.t 113) (.t 115)⟩, 13, []⟩, ⟨⟨none, none, .store 1 (.t 122) (.t 120) false⟩, 14, []⟩]) (.seq (.drw 18 [⟨⟨(some 123), none, .mv (.t 0) false⟩, 0, []⟩, ⟨⟨(some 124), none, .mv (.t 4) false⟩, 1, []⟩, ⟨⟨(some 125), none, .bin .sub .no (.t 124) (.c (.int .i64 3))⟩, 2, []⟩, ⟨⟨(some 126), none, .mv (.t 0) false⟩, 3, []⟩, ⟨⟨(some 127), none, .mv (.t 4) false⟩, 4, []⟩, ⟨⟨(some 128), none, .bin .sub .no (.t 127) (.c (.int .i64 4))⟩, 5, []⟩, ⟨⟨(some 129), none, .mv (.t 14) false⟩, 6, []⟩, ⟨⟨(some 130), none, .bin .add .no (.t 129) (.c (.int .u32 1))⟩, 7, []⟩, ⟨⟨(some 131), none, .idx (.c (.str [48, 48, 48, 49, 48, 50, 48, 51, 48, 52, 48, 53, 48, 54, 48, 55, 48, 56, 48, 57, 49, 48, 49, 49, 49, 50, 49, 51, 49, 52, 49, 53, 49, 54, 49, 55, 49, 56, 49, 57, 50, 48, 50, 49, 50, 50, 50, 51, 50, 52, 50, 53, 50, 54, 50, 55, 50, 56, 50, 57, 51, 48, 51, 49, 51, 50, 51, 51, 51, 52, 51, 53, 51, 54, 51, 55, 51, 56, 51, 57, 52, 48, 52, 49, 52, 50, 52, 51, 52, 52, 52, 53, 52, 54, 52, 55, 52, 56, 52, 57, 53, 48, 53, 49, 53, 50, 53, 51, 53, 52, 53, 53, 53, 54, 53, 55, 53, 56, 53, 57, 54, 48, 54, 49, 54, 50, 54, 51, 54, 52, 54, 53, 54, 54, 54, 55, 54, 56, 54, 57, 55, 48, 55, 49, 55, 50, 55, 51, 55, 52, 55, 53, 55, 54, 55, 55, 55, 56, 55, 57, 56, 48, 56, 49, 56, 50, 56, 51, 56, 52, 56, 53, 56, 54, 56, 55, 56, 56, 56, 57, 57, 48, 57, 49, 57, 50, 57, 51, 57, 52, 57, 53, 57, 54, 57, 55, 57, 56, 57, 57])) (.t 130)⟩, 8, []⟩, ⟨⟨(some 132), none, .mv (.t 14) false⟩, 9, []⟩, ⟨⟨(some 133), none, .idx (.c (.str [48, 48, 48, 49, 48, 50, 48, 51, 48, 52, 48, 53, 48, 54, 48, 55, 48, 56, 48, 57, 49, 48, 49, 49, 49, 50, 49, 51, 49, 52, 49, 53, 49, 54, 49, 55, 49, 56, 49, 57, 50, 48, 50, 49, 50, 50, 50, 51, 50, 52, 50, 53, 50, 54, 50, 55, 50, 56, 50, 57, 51, 48, 51, 49, 51, 50, 51, 51, 51, 52, 51, 53, 51, 54, 51, 55, 51, 56, 51, 57, 52, 48, 52, 49, 52, 50, 52, 51, 52, 52, 52, 53, 52, 54, 52, 55, 52, 56, 52, 57, 53, 48, 53, 49, 53, 50, 53, 51, 53, 52, 53, 53, 53, 54, 53, 55, 53, 56, 53, 57, 54, 48, 54, 49, 54, 50, 54, 51, 54, 52, 54, 53, 54, 54, 54, 55, 54, 56, 54, 57, 55, 48, 55, 49, 55, 50, 55, 51, 55, 52, 55, 53, 55, 54, 55, 55, 55, 56, 55, 57, 56, 48, 56, 49, 56, 50, 56, 51, 56, 52, 56, 53, 56, 54, 56, 55, 56, 56, 56, 57, 57, 48, 57, 49, 57, 50, 57, 51, 57, 52, 57, 53, 57, 54, 57, 55, 57, 56, 57, 57])) (.t 132)⟩, 10, []⟩, ⟨⟨(some 134), none, .iaddr 1 (.t 123) (.t 125)⟩, 11, []⟩, ⟨⟨none, none, .store 1 (.t 134) (.t 131) false⟩, 12, []⟩, ⟨⟨(some 135), none, .iaddr 1 (.t 126) (.t 128)⟩, 13, []⟩, ⟨⟨none, none, .store 1 (.t 135) (.t 133) false⟩, 14, []⟩]) (.ops 19 [⟨(some 136), none, .mv (.t 4) false⟩, ⟨(some 137), none, .bin .sub .no (.t 136) (.c (.int .i64 4))⟩, ⟨(some 4), none, .mv (.t 137) false⟩])))))) .skip)) (.seq (.seq (.ops 20 [⟨(some 138), none, .mv (.t 4) false⟩, ⟨(some 139), none, .bin .geq .no (.t 138) (.c (.int .i64 2))⟩]) (.cond (.t 139) (.seq (.ops 21 [⟨(some 140), none, .mv (.t 12) false⟩, ⟨(some 141), none, .bin .rem .no (.t 140) (.c (.int .u32 100))⟩, ⟨(some 142), none, .bin .mul .no (.t 141) (.c (.int .u32 2))⟩, ⟨(some 16), none, .mv (.t 142) false⟩]) (.seq (.ops 22 [⟨(some 143), none, .mv (.t 12) false⟩, ⟨(some 144), none, .bin .quo .no (.t 143) (.c (.int .u32 100))⟩, ⟨(some 12), none, .mv (.t 144) false⟩]) (.seq (.drw 23 [⟨⟨(some 145), none, .mv (.t 0) false⟩, 0, []⟩, ⟨⟨(some 146), none, .mv (.t 4) false⟩, 1, []⟩, ⟨⟨(some 147), none, .bin .sub .no (.t 146) (.c (.int .i64 1))⟩, 2, []⟩, ⟨⟨(some 148), none, .mv (.t 0) false⟩, 3, []⟩, ⟨⟨(some 149), none, .mv (.t 4) false⟩, 4, []⟩, ⟨⟨(some 150), none, .bin .sub .no (.t 149) (.c (.int .i64 2))⟩, 5, []⟩, ⟨⟨(some 151), none, .mv (.t 16) false⟩, 6, []⟩, ⟨⟨(some 152), none, .bin .add .no (.t 151) (.c (.int .u32 1))⟩, 7, []⟩, ⟨⟨(some 153), none, .idx (.c (.str [48, 48, 48, 49, 48, 50, 48, 51, 48, 52, 48, 53, 48, 54, 48, 55, 48, 56, 48, 57, 49, 48, 49, 49, 49, 50, 49, 51, 49, 52, 49, 53, 49, 54, 49, 55, 49, 56, 49, 57, 50, 48, 50, 49, 50, 50, 50, 51, 50, 52, 50, 53, 50, 54, 50, 55, 50, 56, 50, 57, 51, 48, 51, 49, 51, 50, 51, 51, 51, 52, 51, 53, 51, 54, 51, 55, 51, 56, 51, 57, 52, 48, 52, 49, 52, 50, 52, 51, 52, 52, 52, 53, 52, 54, 52, 55, 52, 56, 52, 57, 53, 48, 53, 49, 53, 50, 53, 51, 53, 52, 53, 53, 53, 54, 53, 55, 53, 56, 53, 57, 54, 48, 54, 49, 54, 50, 54, 51, 54, 52, 54, 53, 54, 54, 54, 55, 54, 56, 54, 57, 55, 48, 55, 49, 55, 50, 55, 51, 55, 52, 55, 53, 55, 54, 55, 55, 55, 56, 55, 57, 56, 48, 56, 49, 56, 50, 56, 51, 56, 52, 56, 53, 56, 54, 56, 55, 56, 56, 56, 57, 57, 48, 57, 49, 57, 50, 57, 51, 57, 52, 57, 53, 57, 54, 57, 55, 57, 56, 57, 57])) (.t 152)⟩, 8, []⟩, ⟨⟨(some 154), none, .mv (.t 16) false⟩, 9, []⟩, ⟨⟨(some 155), none, .idx (.c (.str [48, 48, 48, 49, 48, 50, 48, 51, 48, 52, 48, 53, 48, 54, 48, 55, 48, 56, 48, 57, 49, 48, 49, 49, 49, 50, 49, 51, 49, 52, 49, 53, 49, 54, 49, 55, 49, 56, 49, 57, 50, 48, 50, 49, 50, 50, 50, 51, 50, 52, 50, 53, 50, 54, 50, 55, 50, 56, 50, 57, 51, 48, 51, 49, 51, 50, 51, 51, 51, 52, 51, 53, 51, 54, 51, 55, 51, 56, 51, 57, 52, 48, 52, 49, 52, 50, 52, 51, 52, 52, 52, 53, 52, 54, 52, 55, 52, 56, 52, 57, 53, 48, 53, 49, 53, 50, 53, 51, 53, 52, 53, 53, 53, 54, 53, 55, 53, 56, 53, 57, 54, 48, 54, 49, 54, 50, 54, 51, 54, 52, 54, 53, 54, 54, 54, 55, 54, 56, 54, 57, 55, 48, 55, 49, 55, 50, 55, 51, 55, 52, 55, 53, 55, 54, 55, 55, 55, 56, 55, 57, 56, 48, 56, 49, 56, 50, 56, 51, 56, 52, 56, 53, 56, 54, 56, 55, 56, 56, 56, 57, 57, 48, 57, 49, 57, 50, 57, 51, 57, 52, 57, 53, 57, 54, 57, 55, 57, 56, 57, 57])) (.t 154)⟩, 10, []⟩, ⟨⟨(some 156), none, .iaddr 1 (.t 145) (.t 147)⟩, 11, []⟩, ⟨⟨none, none, .store 1 (.t 156) (.t 153) false⟩, 12, []⟩, ⟨⟨(some 157), none, .iaddr 1 (.t 148) (.t 150)⟩, 13, []⟩, ⟨⟨none, none, .store 1 (.t 157) (.t 155) false⟩, 14, []⟩]) (.ops 24 [⟨(some 158), none, .mv (.t 4) false⟩, ⟨(some 159), none, .bin .sub .no (.t 158) (.c (.int .i64 2))⟩, ⟨(some 4), none, .mv (.t 159) false⟩])))) .skip)) (.seq (.ops 25 [⟨(some 160), none, .mv (.t 4) false⟩, ⟨(some 161), none, .bin .gtr .no (.t 160) (.c (.int .i64 0))⟩]) (.cond (.t 161) (.ops 26 [⟨(some 162), none, .mv (.t 0) true⟩, ⟨(some 163), none, .mv (.t 12) false⟩, ⟨(some 164), none, .bin .add .no (.c (.int .u32 48)) (.t 163)⟩, ⟨(some 165), none, .conv (.toInt .u8) (.t 164)⟩, ⟨(some 166), none, .iaddr 1 (.t 162) (.c (.int .i64 0))⟩, ⟨none, none, .store 1 (.t 166) (.t 165) false⟩]) .skip)))))))⟩
theorem ok_c_internal_strconv_formatBase10 : chkFn Tryz.prog 109 c_internal_strconv_formatBase10 = true := chkFn_of Tryz.func109 (by kernel_rfl)
def j_internal_strconv_formatBase10_1 (M : Mach) (n0 : Nat) (z0 z4 z12 : V) (σ : Objs) : Ro :=
  bd (pu (evBin .gtr .no z4.nogr.nogr (.int .i64 0))) fun x61 =>
  br x61.nogr (
  bd (pu (evBin .add .no (.int .u32 48) z12.nogr.nogr)) fun x62 =>
  bd (pu (evConv σ (.toInt .u8) x62.nogr)) fun x63 =>
  bd (pu (evIaddr 1 (.int .i64 0) z0.nogr)) fun x64 =>
  bd (storeV σ 1 x64.nogr x63.nogr x63.nogr) fun p65 =>
  endK n0 p65.2 (.tup [])) (
  endK n0 σ (.tup []))
def j_internal_strconv_formatBase10_0 (M : Mach) (n0 : Nat) (z0 z4 z12 : V) (σ : Objs) : Ro :=
  bd (pu (evBin .geq .no z4.nogr.nogr (.int .i64 2))) fun x66 =>
  br x66.nogr (
  bd (pu (evBin .rem .no z12.nogr.nogr (.int .u32 100))) fun x67 =>
  bd (pu (evBin .mul .no x67.nogr (.int .u32 2))) fun x68 =>
  bd (pu (evBin .quo .no z12.nogr.nogr (.int .u32 100))) fun x69 =>
  bd (pu (evBin .sub .no z4.nogr.nogr (.int .i64 1))) fun x70 =>
  bd (pu (evBin .sub .no z4.nogr.nogr (.int .i64 2))) fun x71 =>
  bd (pu (evBin .add .no x68.nogr.nogr.nogr (.int .u32 1))) fun x72 =>
  bd (pu (evIdx x72.nogr (.str [48, 48, 48, 49, 48, 50, 48, 51, 48, 52, 48, 53, 48, 54, 48, 55, 48, 56, 48, 57, 49, 48, 49, 49, 49, 50, 49, 51, 49, 52, 49, 53, 49, 54, 49, 55, 49, 56, 49, 57, 50, 48, 50, 49, 50, 50, 50, 51, 50, 52, 50, 53, 50, 54, 50, 55, 50, 56, 50, 57, 51, 48, 51, 49, 51, 50, 51, 51, 51, 52, 51, 53, 51, 54, 51, 55, 51, 56, 51, 57, 52, 48, 52, 49, 52, 50, 52, 51, 52, 52, 52, 53, 52, 54, 52, 55, 52, 56, 52, 57, 53, 48, 53, 49, 53, 50, 53, 51, 53, 52, 53, 53, 53, 54, 53, 55, 53, 56, 53, 57, 54, 48, 54, 49, 54, 50, 54, 51, 54, 52, 54, 53, 54, 54, 54, 55, 54, 56, 54, 57, 55, 48, 55, 49, 55, 50, 55, 51, 55, 52, 55, 53, 55, 54, 55, 55, 55, 56, 55, 57, 56, 48, 56, 49, 56, 50, 56, 51, 56, 52, 56, 53, 56, 54, 56, 55, 56, 56, 56, 57, 57, 48, 57, 49, 57, 50, 57, 51, 57, 52, 57, 53, 57, 54, 57, 55, 57, 56, 57, 57]))) fun x73 =>
  bd (pu (evIdx x68.nogr.nogr.nogr (.str [48, 48, 48, 49, 48, 50, 48, 51, 48, 52, 48, 53, 48, 54, 48, 55, 48, 56, 48, 57, 49, 48, 49, 49, 49, 50, 49, 51, 49, 52, 49, 53, 49, 54, 49, 55, 49, 56, 49, 57, 50, 48, 50, 49, 50, 50, 50, 51, 50, 52, 50, 53, 50, 54, 50, 55, 50, 56, 50, 57, 51, 48, 51, 49, 51, 50, 51, 51, 51, 52, 51, 53, 51, 54, 51, 55, 51, 56, 51, 57, 52, 48, 52, 49, 52, 50, 52, 51, 52, 52, 52, 53, 52, 54, 52, 55, 52, 56, 52, 57, 53, 48, 53, 49, 53, 50, 53, 51, 53, 52, 53, 53, 53, 54, 53, 55, 53, 56, 53, 57, 54, 48, 54, 49, 54, 50, 54, 51, 54, 52, 54, 53, 54, 54, 54, 55, 54, 56, 54, 57, 55, 48, 55, 49, 55, 50, 55, 51, 55, 52, 55, 53, 55, 54, 55, 55, 55, 56, 55, 57, 56, 48, 56, 49, 56, 50, 56, 51, 56, 52, 56, 53, 56, 54, 56, 55, 56, 56, 56, 57, 57, 48, 57, 49, 57, 50, 57, 51, 57, 52, 57, 53, 57, 54, 57, 55, 57, 56, 57, 57]))) fun x74 =>
  bd (pu (evIaddr 1 x70.nogr z0.nogr.nogr)) fun x75 =>
  bd (storeV σ 1 x75.nogr x73.nogr x73.nogr) fun p76 =>
  bd (pu (evIaddr 1 x71.nogr z0.nogr.nogr)) fun x77 =>
  bd (storeV p76.2 1 x77.nogr x74.nogr x74.nogr) fun p78 =>
  bd (pu (evBin .sub .no z4.nogr.nogr (.int .i64 2))) fun x79 =>
  j_internal_strconv_formatBase10_1 M n0 z0 x79.nogr x69.nogr p78.2) (
  j_internal_strconv_formatBase10_1 M n0 z0 z4 z12 σ)
def b_internal_strconv_formatBase10_0 (M : Mach) (n0 : Nat) (n1 : Nat) (r1 : Rk) (z0 z1 z4 : V) (σ : Objs) : Ro :=
  bd (pu (evBin .geq .no z4.nogr.nogr (.int .i64 8))) fun x1 =>
  br x1.nogr (
  bd (pu (evBin .rem .no z1.nogr.nogr (.int .u64 100000000))) fun x2 =>
  bd (pu (evConv σ (.toInt .u32) x2.nogr)) fun x3 =>
  bd (pu (evBin .quo .no z1.nogr.nogr (.int .u64 100000000))) fun x4 =>
  bd (pu (evBin .quo .no x3.nogr.nogr.nogr (.int .u32 10000))) fun x5 =>
  bd (pu (evBin .rem .no x3.nogr.nogr.nogr (.int .u32 10000))) fun x6 =>
  bd (pu (evBin .quo .no x6.nogr.nogr.nogr (.int .u32 100))) fun x7 =>
  bd (pu (evBin .mul .no x7.nogr (.int .u32 2))) fun x8 =>
  bd (pu (evBin .rem .no x6.nogr.nogr.nogr (.int .u32 100))) fun x9 =>
  bd (pu (evBin .mul .no x9.nogr (.int .u32 2))) fun x10 =>
  bd (pu (evBin .quo .no x5.nogr.nogr.nogr (.int .u32 100))) fun x11 =>
  bd (pu (evBin .mul .no x11.nogr (.int .u32 2))) fun x12 =>
  bd (pu (evBin .rem .no x5.nogr.nogr.nogr (.int .u32 100))) fun x13 =>
  bd (pu (evBin .mul .no x13.nogr (.int .u32 2))) fun x14 =>
  bd (pu (evBin .sub .no z4.nogr.nogr (.int .i64 1))) fun x15 =>
  bd (pu (evBin .sub .no z4.nogr.nogr (.int .i64 2))) fun x16 =>
  bd (pu (evBin .add .no x10.nogr.nogr.nogr (.int .u32 1))) fun x17 =>
  bd (pu (evIdx x17.nogr (.str [48, 48, 48, 49, 48, 50, 48, 51, 48, 52, 48, 53, 48, 54, 48, 55, 48, 56, 48, 57, 49, 48, 49, 49, 49, 50, 49, 51, 49, 52, 49, 53, 49, 54, 49, 55, 49, 56, 49, 57, 50, 48, 50, 49, 50, 50, 50, 51, 50, 52, 50, 53, 50, 54, 50, 55, 50, 56, 50, 57, 51, 48, 51, 49, 51, 50, 51, 51, 51, 52, 51, 53, 51, 54, 51, 55, 51, 56, 51, 57, 52, 48, 52, 49, 52, 50, 52, 51, 52, 52, 52, 53, 52, 54, 52, 55, 52, 56, 52, 57, 53, 48, 53, 49, 53, 50, 53, 51, 53, 52, 53, 53, 53, 54, 53, 55, 53, 56, 53, 57, 54, 48, 54, 49, 54, 50, 54, 51, 54, 52, 54, 53, 54, 54, 54, 55, 54, 56, 54, 57, 55, 48, 55, 49, 55, 50, 55, 51, 55, 52, 55, 53, 55, 54, 55, 55, 55, 56, 55, 57, 56, 48, 56, 49, 56, 50, 56, 51, 56, 52, 56, 53, 56, 54, 56, 55, 56, 56, 56, 57, 57, 48, 57, 49, 57, 50, 57, 51, 57, 52, 57, 53, 57, 54, 57, 55, 57, 56, 57, 57]))) fun x18 =>
  bd (pu (evIdx x10.nogr.nogr.nogr (.str [48, 48, 48, 49, 48, 50, 48, 51, 48, 52, 48, 53, 48, 54, 48, 55, 48, 56, 48, 57, 49, 48, 49, 49, 49, 50, 49, 51, 49, 52, 49, 53, 49, 54, 49, 55, 49, 56, 49, 57, 50, 48, 50, 49, 50, 50, 50, 51, 50, 52, 50, 53, 50, 54, 50, 55, 50, 56, 50, 57, 51, 48, 51, 49, 51, 50, 51, 51, 51, 52, 51, 53, 51, 54, 51, 55, 51, 56, 51, 57, 52, 48, 52, 49, 52, 50, 52, 51, 52, 52, 52, 53, 52, 54, 52, 55, 52, 56, 52, 57, 53, 48, 53, 49, 53, 50, 53, 51, 53, 52, 53, 53, 53, 54, 53, 55, 53, 56, 53, 57, 54, 48, 54, 49, 54, 50, 54, 51, 54, 52, 54, 53, 54, 54, 54, 55, 54, 56, 54, 57, 55, 48, 55, 49, 55, 50, 55, 51, 55, 52, 55, 53, 55, 54, 55, 55, 55, 56, 55, 57, 56, 48, 56, 49, 56, 50, 56, 51, 56, 52, 56, 53, 56, 54, 56, 55, 56, 56, 56, 57, 57, 48, 57, 49, 57, 50, 57, 51, 57, 52, 57, 53, 57, 54, 57, 55, 57, 56, 57, 57]))) fun x19 =>
  bd (pu (evIaddr 1 x15.nogr z0.nogr.nogr)) fun x20 =>
  bd (storeV σ 1 x20.nogr x18.nogr x18.nogr) fun p21 =>
  bd (pu (evIaddr 1 x16.nogr z0.nogr.nogr)) fun x22 =>
  bd (storeV p21.2 1 x22.nogr x19.nogr x19.nogr) fun p23 =>
  bd (pu (evBin .sub .no z4.nogr.nogr (.int .i64 3))) fun x24 =>
  bd (pu (evBin .sub .no z4.nogr.nogr (.int .i64 4))) fun x25 =>
  bd (pu (evBin .add .no x8.nogr.nogr.nogr (.int .u32 1))) fun x26 =>
  bd (pu (evIdx x26.nogr (.str [48, 48, 48, 49, 48, 50, 48, 51, 48, 52, 48, 53, 48, 54, 48, 55, 48, 56, 48, 57, 49, 48, 49, 49, 49, 50, 49, 51, 49, 52, 49, 53, 49, 54, 49, 55, 49, 56, 49, 57, 50, 48, 50, 49, 50, 50, 50, 51, 50, 52, 50, 53, 50, 54, 50, 55, 50, 56, 50, 57, 51, 48, 51, 49, 51, 50, 51, 51, 51, 52, 51, 53, 51, 54, 51, 55, 51, 56, 51, 57, 52, 48, 52, 49, 52, 50, 52, 51, 52, 52, 52, 53, 52, 54, 52, 55, 52, 56, 52, 57, 53, 48, 53, 49, 53, 50, 53, 51, 53, 52, 53, 53, 53, 54, 53, 55, 53, 56, 53, 57, 54, 48, 54, 49, 54, 50, 54, 51, 54, 52, 54, 53, 54, 54, 54, 55, 54, 56, 54, 57, 55, 48, 55, 49, 55, 50, 55, 51, 55, 52, 55, 53, 55, 54, 55, 55, 55, 56, 55, 57, 56, 48, 56, 49, 56, 50, 56, 51, 56, 52, 56, 53, 56, 54, 56, 55, 56, 56, 56, 57, 57, 48, 57, 49, 57, 50, 57, 51, 57, 52, 57, 53, 57, 54, 57, 55, 57, 56, 57, 57]))) fun x27 =>
  bd (pu (evIdx x8.nogr.nogr.nogr (.str [48, 48, 48, 49, 48, 50, 48, 51, 48, 52, 48, 53, 48, 54, 48, 55, 48, 56, 48, 57, 49, 48, 49, 49, 49, 50, 49, 51, 49, 52, 49, 53, 49, 54, 49, 55, 49, 56, 49, 57, 50, 48, 50, 49, 50, 50, 50, 51, 50, 52, 50, 53, 50, 54, 50, 55, 50, 56, 50, 57, 51, 48, 51, 49, 51, 50, 51, 51, 51, 52, 51, 53, 51, 54, 51, 55, 51, 56, 51, 57, 52, 48, 52, 49, 52, 50, 52, 51, 52, 52, 52, 53, 52, 54, 52, 55, 52, 56, 52, 57, 53, 48, 53, 49, 53, 50, 53, 51, 53, 52, 53, 53, 53, 54, 53, 55, 53, 56, 53, 57, 54, 48, 54, 49, 54, 50, 54, 51, 54, 52, 54, 53, 54, 54, 54, 55, 54, 56, 54, 57, 55, 48, 55, 49, 55, 50, 55, 51, 55, 52, 55, 53, 55, 54, 55, 55, 55, 56, 55, 57, 56, 48, 56, 49, 56, 50, 56, 51, 56, 52, 56, 53, 56, 54, 56, 55, 56, 56, 56, 57, 57, 48, 57, 49, 57, 50, 57, 51, 57, 52, 57, 53, 57, 54, 57, 55, 57, 56, 57, 57]))) fun x28 =>
  bd (pu (evIaddr 1 x24.nogr z0.nogr.nogr)) fun x29 =>
  bd (storeV p23.2 1 x29.nogr x27.nogr x27.nogr) fun p30 =>
  bd (pu (evIaddr 1 x25.nogr z0.nogr.nogr)) fun x31 =>
  bd (storeV p30.2 1 x31.nogr x28.nogr x28.nogr) fun p32 =>
  bd (pu (evBin .sub .no z4.nogr.nogr (.int .i64 5))) fun x33 =>
  bd (pu (evBin .sub .no z4.nogr.nogr (.int .i64 6))) fun x34 =>
  bd (pu (evBin .add .no x14.nogr.nogr.nogr (.int .u32 1))) fun x35 =>
  bd (pu (evIdx x35.nogr (.str [48, 48, 48, 49, 48, 50, 48, 51, 48, 52, 48, 53, 48, 54, 48, 55, 48, 56, 48, 57, 49, 48, 49, 49, 49, 50, 49, 51, 49, 52, 49, 53, 49, 54, 49, 55, 49, 56, 49, 57, 50, 48, 50, 49, 50, 50, 50, 51, 50, 52, 50, 53, 50, 54, 50, 55, 50, 56, 50, 57, 51, 48, 51, 49, 51, 50, 51, 51, 51, 52, 51, 53, 51, 54, 51, 55, 51, 56, 51, 57, 52, 48, 52, 49, 52, 50, 52, 51, 52, 52, 52, 53, 52, 54, 52, 55, 52, 56, 52, 57, 53, 48, 53, 49, 53, 50, 53, 51, 53, 52, 53, 53, 53, 54, 53, 55, 53, 56, 53, 57, 54, 48, 54, 49, 54, 50, 54, 51, 54, 52, 54, 53, 54, 54, 54, 55, 54, 56, 54, 57, 55, 48, 55, 49, 55, 50, 55, 51, 55, 52, 55, 53, 55, 54, 55, 55, 55, 56, 55, 57, 56, 48, 56, 49, 56, 50, 56, 51, 56, 52, 56, 53, 56, 54, 56, 55, 56, 56, 56, 57, 57, 48, 57, 49, 57, 50, 57, 51, 57, 52, 57, 53, 57, 54, 57, 55, 57, 56, 57, 57]))) fun x36 =>
  bd (pu (evIdx x14.nogr.nogr.nogr (.str [48, 48, 48, 49, 48, 50, 48, 51, 48, 52, 48, 53, 48, 54, 48, 55, 48, 56, 48, 57, 49, 48, 49, 49, 49, 50, 49, 51, 49, 52, 49, 53, 49, 54, 49, 55, 49, 56, 49, 57, 50, 48, 50, 49, 50, 50, 50, 51, 50, 52, 50, 53, 50, 54, 50, 55, 50, 56, 50, 57, 51, 48, 51, 49, 51, 50, 51, 51, 51, 52, 51, 53, 51, 54, 51, 55, 51, 56, 51, 57, 52, 48, 52, 49, 52, 50, 52, 51, 52, 52, 52, 53, 52, 54, 52, 55, 52, 56, 52, 57, 53, 48, 53, 49, 53, 50, 53, 51, 53, 52, 53, 53, 53, 54, 53, 55, 53, 56, 53, 57, 54, 48, 54, 49, 54, 50, 54, 51, 54, 52, 54, 53, 54, 54, 54, 55, 54, 56, 54, 57, 55, 48, 55, 49, 55, 50, 55, 51, 55, 52, 55, 53, 55, 54, 55, 55, 55, 56, 55, 57, 56, 48, 56, 49, 56, 50, 56, 51, 56, 52, 56, 53, 56, 54, 56, 55, 56, 56, 56, 57, 57, 48, 57, 49, 57, 50, 57, 51, 57, 52, 57, 53, 57, 54, 57, 55, 57, 56, 57, 57]))) fun x37 =>
  bd (pu (evIaddr 1 x33.nogr z0.nogr.nogr)) fun x38 =>
  bd (storeV p32.2 1 x38.nogr x36.nogr x36.nogr) fun p39 =>
  bd (pu (evIaddr 1 x34.nogr z0.nogr.nogr)) fun x40 =>
  bd (storeV p39.2 1 x40.nogr x37.nogr x37.nogr) fun p41 =>
  bd (pu (evBin .sub .no z4.nogr.nogr (.int .i64 7))) fun x42 =>
  bd (pu (evBin .sub .no z4.nogr.nogr (.int .i64 8))) fun x43 =>
  bd (pu (evBin .add .no x12.nogr.nogr.nogr (.int .u32 1))) fun x44 =>
  bd (pu (evIdx x44.nogr (.str [48, 48, 48, 49, 48, 50, 48, 51, 48, 52, 48, 53, 48, 54, 48, 55, 48, 56, 48, 57, 49, 48, 49, 49, 49, 50, 49, 51, 49, 52, 49, 53, 49, 54, 49, 55, 49, 56, 49, 57, 50, 48, 50, 49, 50, 50, 50, 51, 50, 52, 50, 53, 50, 54, 50, 55, 50, 56, 50, 57, 51, 48, 51, 49, 51, 50, 51, 51, 51, 52, 51, 53, 51, 54, 51, 55, 51, 56, 51, 57, 52, 48, 52, 49, 52, 50, 52, 51, 52, 52, 52, 53, 52, 54, 52, 55, 52, 56, 52, 57, 53, 48, 53, 49, 53, 50, 53, 51, 53, 52, 53, 53, 53, 54, 53, 55, 53, 56, 53, 57, 54, 48, 54, 49, 54, 50, 54, 51, 54, 52, 54, 53, 54, 54, 54, 55, 54, 56, 54, 57, 55, 48, 55, 49, 55, 50, 55, 51, 55, 52, 55, 53, 55, 54, 55, 55, 55, 56, 55, 57, 56, 48, 56, 49, 56, 50, 56, 51, 56, 52, 56, 53, 56, 54, 56, 55, 56, 56, 56, 57, 57, 48, 57, 49, 57, 50, 57, 51, 57, 52, 57, 53, 57, 54, 57, 55, 57, 56, 57, 57]))) fun x45 =>
  bd (pu (evIdx x12.nogr.nogr.nogr (.str [48, 48, 48, 49, 48, 50, 48, 51, 48, 52, 48, 53, 48, 54, 48, 55, 48, 56, 48, 57, 49, 48, 49, 49, 49, 50, 49, 51, 49, 52, 49, 53, 49, 54, 49, 55, 49, 56, 49, 57, 50, 48, 50, 49, 50, 50, 50, 51, 50, 52, 50, 53, 50, 54, 50, 55, 50, 56, 50, 57, 51, 48, 51, 49, 51, 50, 51, 51, 51, 52, 51, 53, 51, 54, 51, 55, 51, 56, 51, 57, 52, 48, 52, 49, 52, 50, 52, 51, 52, 52, 52, 53, 52, 54, 52, 55, 52, 56, 52, 57, 53, 48, 53, 49, 53, 50, 53, 51, 53, 52, 53, 53, 53, 54, 53, 55, 53, 56, 53, 57, 54, 48, 54, 49, 54, 50, 54, 51, 54, 52, 54, 53, 54, 54, 54, 55, 54, 56, 54, 57, 55, 48, 55, 49, 55, 50, 55, 51, 55, 52, 55, 53, 55, 54, 55, 55, 55, 56, 55, 57, 56, 48, 56, 49, 56, 50, 56, 51, 56, 52, 56, 53, 56, 54, 56, 55, 56, 56, 56, 57, 57, 48, 57, 49, 57, 50, 57, 51, 57, 52, 57, 53, 57, 54, 57, 55, 57, 56, 57, 57]))) fun x46 =>
  bd (pu (evIaddr 1 x42.nogr z0.nogr.nogr)) fun x47 =>
  bd (storeV p41.2 1 x47.nogr x45.nogr x45.nogr) fun p48 =>
  bd (pu (evIaddr 1 x43.nogr z0.nogr.nogr)) fun x49 =>
  bd (storeV p48.2 1 x49.nogr x46.nogr x46.nogr) fun p50 =>
  bd (pu (evBin .sub .no z4.nogr.nogr (.int .i64 8))) fun x51 =>
  bd (fz n1 p50.2 fzDepth z0) fun y52 =>
  bd (fz n1 p50.2 fzDepth x4.nogr) fun y53 =>
  bd (fz n1 p50.2 fzDepth x51.nogr) fun y54 =>
  bd (cutObjs n1 p50.2) fun s55 => r1 [y52, y53, y54] s55) (
  bd (fz n1 σ fzDepth z0) fun y56 =>
  bd (fz n1 σ fzDepth z1) fun y57 =>
  bd (fz n1 σ fzDepth z4) fun y58 =>
  bd (cutObjs n1 σ) fun s59 =>
  bd (pu (evConv s59 (.toInt .u32) y57.nogr.nogr)) fun x60 =>
  bd (pu (evBin .geq .no y58.nogr.nogr (.int .i64 4))) fun x80 =>
  br x80.nogr (
  bd (pu (evBin .rem .no x60.nogr.nogr.nogr (.int .u32 10000))) fun x81 =>
  bd (pu (evBin .quo .no x60.nogr.nogr.nogr (.int .u32 10000))) fun x82 =>
  bd (pu (evBin .quo .no x81.nogr.nogr.nogr (.int .u32 100))) fun x83 =>
  bd (pu (evBin .mul .no x83.nogr (.int .u32 2))) fun x84 =>
  bd (pu (evBin .rem .no x81.nogr.nogr.nogr (.int .u32 100))) fun x85 =>
  bd (pu (evBin .mul .no x85.nogr (.int .u32 2))) fun x86 =>
  bd (pu (evBin .sub .no y58.nogr.nogr (.int .i64 1))) fun x87 =>
  bd (pu (evBin .sub .no y58.nogr.nogr (.int .i64 2))) fun x88 =>
  bd (pu (evBin .add .no x86.nogr.nogr.nogr (.int .u32 1))) fun x89 =>
  bd (pu (evIdx x89.nogr (.str [48, 48, 48, 49, 48, 50, 48, 51, 48, 52, 48, 53, 48, 54, 48, 55, 48, 56, 48, 57, 49, 48, 49, 49, 49, 50, 49, 51, 49, 52, 49, 53, 49, 54, 49, 55, 49, 56, 49, 57, 50, 48, 50, 49, 50, 50, 50, 51, 50, 52, 50, 53, 50, 54, 50, 55, 50, 56, 50, 57, 51, 48, 51, 49, 51, 50, 51, 51, 51, 52, 51, 53, 51, 54, 51, 55, 51, 56, 51, 57, 52, 48, 52, 49, 52, 50, 52, 51, 52, 52, 52, 53, 52, 54, 52, 55, 52, 56, 52, 57, 53, 48, 53, 49, 53, 50, 53, 51, 53, 52, 53, 53, 53, 54, 53, 55, 53, 56, 53, 57, 54, 48, 54, 49, 54, 50, 54, 51, 54, 52, 54, 53, 54, 54, 54, 55, 54, 56, 54, 57, 55, 48, 55, 49, 55, 50, 55, 51, 55, 52, 55, 53, 55, 54, 55, 55, 55, 56, 55, 57, 56, 48, 56, 49, 56, 50, 56, 51, 56, 52, 56, 53, 56, 54, 56, 55, 56, 56, 56, 57, 57, 48, 57, 49, 57, 50, 57, 51, 57, 52, 57, 53, 57, 54, 57, 55, 57, 56, 57, 57]))) fun x90 =>
  bd (pu (evIdx x86.nogr.nogr.nogr (.str [48, 48, 48, 49, 48, 50, 48, 51, 48, 52, 48, 53, 48, 54, 48, 55, 48, 56, 48, 57, 49, 48, 49, 49, 49, 50, 49, 51, 49, 52, 49, 53, 49, 54, 49, 55, 49, 56, 49, 57, 50, 48, 50, 49, 50, 50, 50, 51, 50, 52, 50, 53, 50, 54, 50, 55, 50, 56, 50, 57, 51, 48, 51, 49, 51, 50, 51, 51, 51, 52, 51, 53, 51, 54, 51, 55, 51, 56, 51, 57, 52, 48, 52, 49, 52, 50, 52, 51, 52, 52, 52, 53, 52, 54, 52, 55, 52, 56, 52, 57, 53, 48, 53, 49, 53, 50, 53, 51, 53, 52, 53, 53, 53, 54, 53, 55, 53, 56, 53, 57, 54, 48, 54, 49, 54, 50, 54, 51, 54, 52, 54, 53, 54, 54, 54, 55, 54, 56, 54, 57, 55, 48, 55, 49, 55, 50, 55, 51, 55, 52, 55, 53, 55, 54, 55, 55, 55, 56, 55, 57, 56, 48, 56, 49, 56, 50, 56, 51, 56, 52, 56, 53, 56, 54, 56, 55, 56, 56, 56, 57, 57, 48, 57, 49, 57, 50, 57, 51, 57, 52, 57, 53, 57, 54, 57, 55, 57, 56, 57, 57]))) fun x91 =>
  bd (pu (evIaddr 1 x87.nogr y56.nogr.nogr)) fun x92 =>
  bd (storeV s59 1 x92.nogr x90.nogr x90.nogr) fun p93 =>
  bd (pu (evIaddr 1 x88.nogr y56.nogr.nogr)) fun x94 =>
  bd (storeV p93.2 1 x94.nogr x91.nogr x91.nogr) fun p95 =>
  bd (pu (evBin .sub .no y58.nogr.nogr (.int .i64 3))) fun x96 =>
  bd (pu (evBin .sub .no y58.nogr.nogr (.int .i64 4))) fun x97 =>
  bd (pu (evBin .add .no x84.nogr.nogr.nogr (.int .u32 1))) fun x98 =>
  bd (pu (evIdx x98.nogr (.str [48, 48, 48, 49, 48, 50, 48, 51, 48, 52, 48, 53, 48, 54, 48, 55, 48, 56, 48, 57, 49, 48, 49, 49, 49, 50, 49, 51, 49, 52, 49, 53, 49, 54, 49, 55, 49, 56, 49, 57, 50, 48, 50, 49, 50, 50, 50, 51, 50, 52, 50, 53, 50, 54, 50, 55, 50, 56, 50, 57, 51, 48, 51, 49, 51, 50, 51, 51, 51, 52, 51, 53, 51, 54, 51, 55, 51, 56, 51, 57, 52, 48, 52, 49, 52, 50, 52, 51, 52, 52, 52, 53, 52, 54, 52, 55, 52, 56, 52, 57, 53, 48, 53, 49, 53, 50, 53, 51, 53, 52, 53, 53, 53, 54, 53, 55, 53, 56, 53, 57, 54, 48, 54, 49, 54, 50, 54, 51, 54, 52, 54, 53, 54, 54, 54, 55, 54, 56, 54, 57, 55, 48, 55, 49, 55, 50, 55, 51, 55, 52, 55, 53, 55, 54, 55, 55, 55, 56, 55, 57, 56, 48, 56, 49, 56, 50, 56, 51, 56, 52, 56, 53, 56, 54, 56, 55, 56, 56, 56, 57, 57, 48, 57, 49, 57, 50, 57, 51, 57, 52, 57, 53, 57, 54, 57, 55, 57, 56, 57, 57]))) fun x99 =>
  bd (pu (evIdx x84.nogr.nogr.nogr (.str [48, 48, 48, 49, 48, 50, 48, 51, 48, 52, 48, 53, 48, 54, 48, 55, 48, 56, 48, 57, 49, 48, 49, 49, 49, 50, 49, 51, 49, 52, 49, 53, 49, 54, 49, 55, 49, 56, 49, 57, 50, 48, 50, 49, 50, 50, 50, 51, 50, 52, 50, 53, 50, 54, 50, 55, 50, 56, 50, 57, 51, 48, 51, 49, 51, 50, 51, 51, 51, 52, 51, 53, 51, 54, 51, 55, 51, 56, 51, 57, 52, 48, 52, 49, 52, 50, 52, 51, 52, 52, 52, 53, 52, 54, 52, 55, 52, 56, 52, 57, 53, 48, 53, 49, 53, 50, 53, 51, 53, 52, 53, 53, 53, 54, 53, 55, 53, 56, 53, 57, 54, 48, 54, 49, 54, 50, 54, 51, 54, 52, 54, 53, 54, 54, 54, 55, 54, 56, 54, 57, 55, 48, 55, 49, 55, 50, 55, 51, 55, 52, 55, 53, 55, 54, 55, 55, 55, 56, 55, 57, 56, 48, 56, 49, 56, 50, 56, 51, 56, 52, 56, 53, 56, 54, 56, 55, 56, 56, 56, 57, 57, 48, 57, 49, 57, 50, 57, 51, 57, 52, 57, 53, 57, 54, 57, 55, 57, 56, 57, 57]))) fun x100 =>
  bd (pu (evIaddr 1 x96.nogr y56.nogr.nogr)) fun x101 =>
  bd (storeV p95.2 1 x101.nogr x99.nogr x99.nogr) fun p102 =>
  bd (pu (evIaddr 1 x97.nogr y56.nogr.nogr)) fun x103 =>
  bd (storeV p102.2 1 x103.nogr x100.nogr x100.nogr) fun p104 =>
  bd (pu (evBin .sub .no y58.nogr.nogr (.int .i64 4))) fun x105 =>
  j_internal_strconv_formatBase10_0 M n0 y56 x105.nogr x82.nogr p104.2) (
  j_internal_strconv_formatBase10_0 M n0 y56 y58 x60.nogr s59))
def l_internal_strconv_formatBase10_0 (M : Mach) (n0 : Nat) (n1 : Nat) : Rk := M.fx fun rec vs σ => b_internal_strconv_formatBase10_0 M n0 n1 rec (vs.getD 0 .undef) (vs.getD 1 .undef) (vs.getD 2 .undef) σ
def s_internal_strconv_formatBase10 (M : Mach) (a0 a1 : V) (σ : Objs) : Ro :=
  bd (pu (evLen a0.nogr.nogr)) fun x0 =>
  bd (fz σ.length σ fzDepth a0) fun y106 =>
  bd (fz σ.length σ fzDepth a1) fun y107 =>
  bd (fz σ.length σ fzDepth x0.nogr) fun y108 =>
  l_internal_strconv_formatBase10_0 M σ.length σ.length [y106, y107, y108] σ
theorem k_internal_strconv_formatBase10 (M : Mach) (a0 a1 : V) (σ : Objs) : fnK M c_internal_strconv_formatBase10 [a0, a1] σ = s_internal_strconv_formatBase10 M a0 a1 σ := by kernel_rfl
def c_wattleref02_Hex : Ev.Fn := ⟨17, [.tmp 2], false, false, (.seq (.ops 0 [⟨(some 2), none, .mv (.c (.int .i64 0)) false⟩]) (.seq (.ops 1 [⟨(some 3), none, .mv (.c (.str [48, 49, 50, 51, 52, 53, 54, 55, 56, 57, 97, 98, 99, 100, 101, 102])) false⟩]) (.seq (.seq (.ops 2 [⟨(some 4), none, .mv (.c (.int .i64 0)) false⟩]) (.block 0 (.loop [0, 3, 4] [2] (.seq (.seq (.ops 3 [⟨(some 5), none, .mv (.t 4) false⟩, ⟨(some 6), none, .bin .lss .no (.t 5) (.c (.int .i64 16))⟩]) (.cond (.t 6) .skip (.exit 0))) (.seq (.block 1 (.seq (.drw 5 [⟨⟨(some 9), none, .mv (.t 3) false⟩, 0, []⟩, ⟨⟨(some 10), none, .mv (.t 4) false⟩, 1, []⟩, ⟨⟨(some 11), none, .idx (.t 9) (.t 10)⟩, 2, []⟩, ⟨⟨(some 12), none, .conv (.toInt .i64) (.t 11)⟩, 3, []⟩, ⟨⟨(some 13), none, .mv (.t 0) false⟩, 4, []⟩, ⟨⟨(some 14), none, .call 92 [(.t 13)]⟩, 5, []⟩, ⟨⟨(some 15), none, .bin .eql .no (.t 12) (.t 14)⟩, 6, []⟩]) (.cond (.t 15) (.seq (.ops 6 [⟨(some 16), none, .mv (.t 4) false⟩, ⟨(some 2), none, .mv (.t 16) false⟩]) .ret) .skip))) (.ops 4 [⟨(some 7), none, .mv (.t 4) false⟩, ⟨(some 8), none, .bin .add .no (.t 7) (.c (.int .i64 1))⟩, ⟨(some 4), none, .mv (.t 8) false⟩])))))) (.seq (.ops 7 [⟨(some 2), none, .mv (.c (.int .i64 (-1))) false⟩]) .ret))))⟩
theorem ok_c_wattleref02_Hex : chkFn Tryz.prog 111 c_wattleref02_Hex = true := chkFn_of Tryz.func111 (by kernel_rfl)
def b_wattleref02_Hex_0 (M : Mach) (n0 : Nat) (n1 : Nat) (r1 : Rk) (z0 z3 z4 : V) (σ : Objs) : Ro :=
  bd (pu (evBin .lss .no z4.nogr.nogr (.int .i64 16))) fun x0 =>
  br x0.nogr (
  bd (pu (evIdx z4.nogr.nogr z3.nogr.nogr)) fun x1 =>
  bd (pu (evConv σ (.toInt .i64) x1.nogr)) fun x2 =>
  bd (M.call 92 [z0.nogr.nogr] σ) fun p3 =>
  bd (pu (evBin .eql .no x2.nogr p3.1.nogr)) fun x4 =>
  br x4.nogr (
  bd (fz n1 p3.2 fzDepth z4.nogr.nogr) fun y5 =>
  bd (cutObjs n1 p3.2) fun s6 =>
  bd (oneK false y5) (endK n0 s6)) (
  bd (pu (evBin .add .no z4.nogr.nogr (.int .i64 1))) fun x7 =>
  bd (fz n1 p3.2 fzDepth z0) fun y8 =>
  bd (fz n1 p3.2 fzDepth z3) fun y9 =>
  bd (fz n1 p3.2 fzDepth x7.nogr) fun y10 =>
  bd (cutObjs n1 p3.2) fun s11 => r1 [y8, y9, y10] s11)) (
  bd (fz n1 σ fzDepth .any) fun y12 =>
  bd (cutObjs n1 σ) fun s13 =>
  bd (oneK false (.int .i64 (-1))) (endK n0 s13))
def l_wattleref02_Hex_0 (M : Mach) (n0 : Nat) (n1 : Nat) : Rk := M.fx fun rec vs σ => b_wattleref02_Hex_0 M n0 n1 rec (vs.getD 0 .undef) (vs.getD 1 .undef) (vs.getD 2 .undef) σ
def s_wattleref02_Hex (M : Mach) (a0 : V) (σ : Objs) : Ro :=
  bd (fz σ.length σ fzDepth a0) fun y14 =>
  bd (fz σ.length σ fzDepth (.str [48, 49, 50, 51, 52, 53, 54, 55, 56, 57, 97, 98, 99, 100, 101, 102])) fun y15 =>
  bd (fz σ.length σ fzDepth (.int .i64 0)) fun y16 =>
  l_wattleref02_Hex_0 M σ.length σ.length [y14, y15, y16] σ
theorem k_wattleref02_Hex (M : Mach) (a0 : V) (σ : Objs) : fnK M c_wattleref02_Hex [a0] σ = s_wattleref02_Hex M a0 σ := by kernel_rfl
def c_wattleref02_Start : Ev.Fn := ⟨20, [.tmp 2], false, false, (.seq (.ops 0 [⟨(some 2), none, .mv (.c (.bool false)) false⟩]) (.seq (.ops 1 [⟨(some 4), none, .mv (.t 0) false⟩, ⟨(some 5), none, .call 92 [(.t 4)]⟩, ⟨(some 3), none, .mv (.t 5) false⟩]) (.seq (.ops 2 [⟨(some 6), none, .mv (.t 3) false⟩, ⟨(some 7), none, .bin .geq .no (.t 6) (.c (.int .i64 97))⟩, ⟨(some 8), none, .mv (.t 7) false⟩, ⟨(some 9), (some (8, true)), .mv (.t 3) false⟩, ⟨(some 10), (some (8, true)), .bin .leq .no (.t 9) (.c (.int .i64 122))⟩, ⟨(some 11), none, .pick (.t 8) (.t 10) (.c (.bool false))⟩, ⟨(some 12), none, .mv (.t 11) false⟩, ⟨(some 13), (some (12, false)), .mv (.t 0) false⟩, ⟨(some 14), (some (12, false)), .bin .eql .no (.t 13) (.c (.int .i64 95))⟩, ⟨(some 15), none, .pick (.t 12) (.c (.bool true)) (.t 14)⟩, ⟨(some 16), none, .mv (.t 15) false⟩, ⟨(some 17), (some (16, false)), .mv (.t 0) false⟩, ⟨(some 18), (some (16, false)), .bin .geq .no (.t 17) (.c (.int .i64 128))⟩, ⟨(some 19), none, .pick (.t 16) (.c (.bool true)) (.t 18)⟩, ⟨(some 2), none, .mv (.t 19) false⟩]) .ret)))⟩
theorem ok_c_wattleref02_Start : chkFn Tryz.prog 112 c_wattleref02_Start = true := chkFn_of Tryz.func112 (by kernel_rfl)
def s_wattleref02_Start (M : Mach) (a0 : V) (σ : Objs) : Ro :=
  bd (M.call 92 [a0.nogr.nogr] σ) fun p0 =>
  bd (pu (evBin .geq .no p0.1.nogr.nogr.nogr (.int .i64 97))) fun x1 =>
  bd (gdv x1.nogr true (some p0.1.nogr.nogr)) fun x2 =>
  bd (gdv x1.nogr true (pu (evBin .leq .no x2.nogr (.int .i64 122)))) fun x3 =>
  bd (pu (pickV x1.nogr.nogr x3.nogr (.bool false))) fun x4 =>
  bd (gdv x4.nogr false (some a0.nogr)) fun x5 =>
  bd (gdv x4.nogr false (pu (evBin .eql .no x5.nogr (.int .i64 95)))) fun x6 =>
  bd (pu (pickV x4.nogr.nogr (.bool true) x6.nogr)) fun x7 =>
  bd (gdv x7.nogr false (some a0.nogr)) fun x8 =>
  bd (gdv x7.nogr false (pu (evBin .geq .no x8.nogr (.int .i64 128)))) fun x9 =>
  bd (pu (pickV x7.nogr.nogr (.bool true) x9.nogr)) fun x10 =>
  bd (oneK false x10.nogr) (endK σ.length p0.2)
theorem k_wattleref02_Start (M : Mach) (a0 : V) (σ : Objs) : fnK M c_wattleref02_Start [a0] σ = s_wattleref02_Start M a0 σ := by kernel_rfl
def c_wattleref03_hidden : Ev.Fn := ⟨21, [.tmp 2], false, false, (.seq (.ops 0 [⟨(some 2), none, .mv (.c (.bool false)) false⟩]) (.seq (.ops 1 [⟨(some 3), none, .mv (.t 0) false⟩, ⟨(some 4), none, .bin .leq .no (.t 3) (.c (.int .i64 8))⟩, ⟨(some 5), none, .mv (.t 4) false⟩, ⟨(some 6), (some (5, false)), .mv (.t 0) false⟩, ⟨(some 7), (some (5, false)), .bin .eql .no (.t 6) (.c (.int .i64 11))⟩, ⟨(some 8), none, .pick (.t 5) (.c (.bool true)) (.t 7)⟩, ⟨(some 9), none, .mv (.t 8) false⟩, ⟨(some 10), (some (9, false)), .mv (.t 0) false⟩, ⟨(some 11), (some (9, false)), .bin .geq .no (.t 10) (.c (.int .i64 14))⟩, ⟨(some 12), (some (9, false)), .mv (.t 11) false⟩, ⟨(some 13), (some (12, true)), .mv (.t 0) false⟩, ⟨(some 14), (some (12, true)), .bin .leq .no (.t 13) (.c (.int .i64 31))⟩, ⟨(some 15), (some (9, false)), .pick (.t 12) (.t 14) (.c (.bool false))⟩, ⟨(some 16), none, .pick (.t 9) (.c (.bool true)) (.t 15)⟩, ⟨(some 17), none, .mv (.t 16) false⟩, ⟨(some 18), (some (17, false)), .mv (.t 0) false⟩, ⟨(some 19), (some (17, false)), .bin .eql .no (.t 18) (.c (.int .i64 127))⟩, ⟨(some 20), none, .pick (.t 17) (.c (.bool true)) (.t 19)⟩, ⟨(some 2), none, .mv (.t 20) false⟩]) .ret))⟩
theorem ok_c_wattleref03_hidden : chkFn Tryz.prog 113 c_wattleref03_hidden = true := chkFn_of Tryz.func113 (by kernel_rfl)
def s_wattleref03_hidden (M : Mach) (a0 : V) (σ : Objs) : Ro :=
  bd (pu (evBin .leq .no a0.nogr.nogr (.int .i64 8))) fun x0 =>
  bd (gdv x0.nogr false (some a0.nogr)) fun x1 =>
  bd (gdv x0.nogr false (pu (evBin .eql .no x1.nogr (.int .i64 11)))) fun x2 =>
  bd (pu (pickV x0.nogr.nogr (.bool true) x2.nogr)) fun x3 =>
  bd (gdv x3.nogr false (some a0.nogr)) fun x4 =>
  bd (gdv x3.nogr false (pu (evBin .geq .no x4.nogr (.int .i64 14)))) fun x5 =>
  bd (gdv x3.nogr false (some x5.nogr)) fun x6 =>
  bd (gdv x6 true (some a0.nogr)) fun x7 =>
  bd (gdv x6 true (pu (evBin .leq .no x7.nogr (.int .i64 31)))) fun x8 =>
  bd (gdv x3.nogr false (pu (pickV x6.nogr x8.nogr (.bool false)))) fun x9 =>
  bd (pu (pickV x3.nogr.nogr (.bool true) x9.nogr)) fun x10 =>
  bd (gdv x10.nogr false (some a0.nogr)) fun x11 =>
  bd (gdv x10.nogr false (pu (evBin .eql .no x11.nogr (.int .i64 127)))) fun x12 =>
  bd (pu (pickV x10.nogr.nogr (.bool true) x12.nogr)) fun x13 =>
  bd (oneK false x13.nogr) (endK σ.length σ)
theorem k_wattleref03_hidden (M : Mach) (a0 : V) (σ : Objs) : fnK M c_wattleref03_hidden [a0] σ = s_wattleref03_hidden M a0 σ := by kernel_rfl
def c_wattleref03_rest : Ev.Fn := ⟨44, [.cell 6 true 6], false, false, (.seq (.ops 0 [⟨(some 6), none, .alloc [(.int .i64 0), (.int .i64 0), (.int .i64 0), (.str []), (.str []), (.bool false)]⟩]) (.seq (.block 0 (.loop [0, 1, 2, 6] [0, 1, 2, 6] (.seq (.seq (.ops 1 [⟨(some 7), none, .mv (.t 2) false⟩, ⟨(some 8), none, .mv (.t 0) false⟩, ⟨(some 9), none, .len (.t 8)⟩, ⟨(some 10), none, .bin .lss .no (.t 7) (.t 9)⟩, ⟨(some 11), none, .mv (.t 10) false⟩, ⟨(some 12), (some (11, true)), .mv (.t 0) false⟩, ⟨(some 13), (some (11, true)), .mv (.t 2) false⟩, ⟨(some 14), (some (11, true)), .iaddr 1 (.t 12) (.t 13)⟩, ⟨(some 15), (some (11, true)), .load false 1 (.t 14)⟩, ⟨(some 16), (some (11, true)), .bin .neq .no (.t 15) (.c (.int .i64 41))⟩, ⟨(some 17), none, .pick (.t 11) (.t 16) (.c (.bool false))⟩]) (.cond (.t 17) .skip (.exit 0))) (.block 1 (.seq (.ops 2 [⟨(some 18), none, .mv (.t 0) false⟩, ⟨(some 19), none, .mv (.t 2) false⟩, ⟨(some 20), none, .call 84 [(.t 18), (.t 19)]⟩]) (.cond (.t 20) (.ops 3 [⟨(some 22), none, .mv (.t 0) false⟩, ⟨(some 23), none, .mv (.t 2) false⟩, ⟨(some 24), none, .call 96 [(.t 22), (.t 23)]⟩, ⟨(some 21), none, .mv (.t 24) false⟩, ⟨(some 25), none, .extr (.t 21) 0⟩, ⟨(some 26), none, .extr (.t 21) 1⟩, ⟨(some 2), none, .mv (.t 26) false⟩]) (.ops 4 [⟨(some 27), none, .mv (.t 2) false⟩, ⟨(some 28), none, .bin .add .no (.t 27) (.c (.int .i64 1))⟩, ⟨(some 2), none, .mv (.t 28) false⟩]))))))) (.seq (.seq (.ops 5 [⟨(some 29), none, .mv (.t 2) false⟩, ⟨(some 30), none, .mv (.t 0) false⟩, ⟨(some 31), none, .len (.t 30)⟩, ⟨(some 32), none, .bin .lss .no (.t 29) (.t 31)⟩]) (.cond (.t 32) (.ops 6 [⟨(some 33), none, .mv (.t 2) false⟩, ⟨(some 34), none, .bin .add .no (.t 33) (.c (.int .i64 1))⟩, ⟨(some 2), none, .mv (.t 34) false⟩]) .skip)) (.seq (.seq (.ops 7 [⟨(some 35), none, .mv (.t 2) false⟩, ⟨(some 36), none, .mv (.t 0) false⟩, ⟨(some 37), none, .len (.t 36)⟩, ⟨(some 38), none, .bin .gtr .no (.t 35) (.t 37)⟩]) (.cond (.t 38) (.ops 8 [⟨(some 39), none, .mv (.t 0) true⟩, ⟨(some 40), none, .len (.t 39)⟩, ⟨(some 2), none, .mv (.t 40) false⟩]) .skip)) (.seq (.ops 9 [⟨(some 41), none, .mv (.t 1) false⟩, ⟨(some 42), none, .mv (.t 2) false⟩, ⟨(some 43), none, .build [(.int .i64 0), (.int .i64 0), (.int .i64 0), (.str []), (.str []), (.bool false)] [(0, 1, (.c (.int .i64 8))), (1, 1, (.t 41)), (2, 1, (.t 42))]⟩, ⟨none, none, .store 6 (.t 6) (.t 43) false⟩]) .ret)))))⟩
theorem ok_c_wattleref03_rest : chkFn Tryz.prog 114 c_wattleref03_rest = true := chkFn_of Tryz.func114 (by kernel_rfl)
def j_wattleref03_rest_0 (M : Mach) (n0 : Nat) (n1 : Nat) (r1 : Rk) (z0 z1 z2 z6 : V) (σ : Objs) : Ro :=
  bd (fz n1 σ fzDepth z0) fun y1 =>
  bd (fz n1 σ fzDepth z1) fun y2 =>
  bd (fz n1 σ fzDepth z2) fun y3 =>
  bd (fz n1 σ fzDepth z6) fun y4 =>
  bd (cutObjs n1 σ) fun s5 => r1 [y1, y2, y3, y4] s5
def j_wattleref03_rest_2 (M : Mach) (n0 : Nat) (z1 z2 z6 : V) (σ : Objs) : Ro :=
  bd (pu (buildV [(.int .i64 0), (.int .i64 0), (.int .i64 0), (.str []), (.str []), (.bool false)] [(0, 1, (.int .i64 8)), (1, 1, z1.nogr.nogr), (2, 1, z2.nogr.nogr)])) fun x24 =>
  bd (storeV σ 6 z6.nogr x24.nogr x24.nogr) fun p25 =>
  bd (resC p25.2 true 6 z6) fun x26 =>
  bd (oneK false x26) (endK n0 p25.2)
def j_wattleref03_rest_1 (M : Mach) (n0 : Nat) (z0 z1 z2 z6 : V) (σ : Objs) : Ro :=
  bd (pu (evLen z0.nogr.nogr)) fun x27 =>
  bd (pu (evBin .gtr .no z2.nogr.nogr x27.nogr)) fun x28 =>
  br x28.nogr (
  bd (pu (evLen z0.nogr)) fun x29 =>
  j_wattleref03_rest_2 M n0 z1 x29.nogr z6 σ) (
  j_wattleref03_rest_2 M n0 z1 z2 z6 σ)
def b_wattleref03_rest_0 (M : Mach) (n0 : Nat) (n1 : Nat) (r1 : Rk) (z0 z1 z2 z6 : V) (σ : Objs) : Ro :=
  bd (pu (evLen z0.nogr.nogr)) fun x6 =>
  bd (pu (evBin .lss .no z2.nogr.nogr x6.nogr)) fun x7 =>
  bd (gdv x7.nogr true (some z0.nogr)) fun x8 =>
  bd (gdv x7.nogr true (some z2.nogr)) fun x9 =>
  bd (gdv x7.nogr true (pu (evIaddr 1 x9.nogr x8.nogr))) fun x10 =>
  bd (gdv x7.nogr true (pu (evLoad σ false 1 x10.nogr))) fun x11 =>
  bd (gdv x7.nogr true (pu (evBin .neq .no x11.nogr (.int .i64 41)))) fun x12 =>
  bd (pu (pickV x7.nogr.nogr x12.nogr (.bool false))) fun x13 =>
  br x13.nogr (
  bd (M.call 84 [z0.nogr.nogr, z2.nogr.nogr] σ) fun p14 =>
  br p14.1.nogr (
  bd (M.call 96 [z0.nogr.nogr, z2.nogr.nogr] p14.2) fun p15 =>
  bd (pu (evExtr 0 p15.1.nogr.nogr)) fun x16 =>
  bd (pu (evExtr 1 p15.1.nogr.nogr)) fun x17 =>
  j_wattleref03_rest_0 M n0 n1 r1 z0 z1 x17.nogr z6 p15.2) (
  bd (pu (evBin .add .no z2.nogr.nogr (.int .i64 1))) fun x18 =>
  j_wattleref03_rest_0 M n0 n1 r1 z0 z1 x18.nogr z6 p14.2)) (
  bd (fz n1 σ fzDepth z0) fun y19 =>
  bd (fz n1 σ fzDepth z1) fun y20 =>
  bd (fz n1 σ fzDepth z2) fun y21 =>
  bd (fz n1 σ fzDepth z6) fun y22 =>
  bd (cutObjs n1 σ) fun s23 =>
  bd (pu (evLen y19.nogr.nogr)) fun x30 =>
  bd (pu (evBin .lss .no y21.nogr.nogr x30.nogr)) fun x31 =>
  br x31.nogr (
  bd (pu (evBin .add .no y21.nogr.nogr (.int .i64 1))) fun x32 =>
  j_wattleref03_rest_1 M n0 y19 y20 x32.nogr y22 s23) (
  j_wattleref03_rest_1 M n0 y19 y20 y21 y22 s23))
def l_wattleref03_rest_0 (M : Mach) (n0 : Nat) (n1 : Nat) : Rk := M.fx fun rec vs σ => b_wattleref03_rest_0 M n0 n1 rec (vs.getD 0 .undef) (vs.getD 1 .undef) (vs.getD 2 .undef) (vs.getD 3 .undef) σ
def s_wattleref03_rest (M : Mach) (a0 a1 a2 : V) (σ : Objs) : Ro :=
  let s0 : Objs := σ ++ [.cells [(.int .i64 0), (.int .i64 0), (.int .i64 0), (.str []), (.str []), (.bool false)]]
  bd (fz s0.length s0 fzDepth a0) fun y33 =>
  bd (fz s0.length s0 fzDepth a1) fun y34 =>
  bd (fz s0.length s0 fzDepth a2) fun y35 =>
  bd (fz s0.length s0 fzDepth (.ptr σ.length 0)) fun y36 =>
  l_wattleref03_rest_0 M σ.length s0.length [y33, y34, y35, y36] s0
theorem k_wattleref03_rest (M : Mach) (a0 a1 a2 : V) (σ : Objs) : fnK M c_wattleref03_rest [a0, a1, a2] σ = s_wattleref03_rest M a0 a1 a2 σ := by kernel_rfl
def c_math_bits_Len64 : Ev.Fn := ⟨25, [.tmp 2], false, false, (.seq (.ops 0 [⟨(some 2), none, .mv (.c (.int .i64 0)) false⟩]) (.seq (.seq (.ops 1 [⟨(some 3), none, .mv (.t 0) false⟩, ⟨(some 4), none, .bin .geq .no (.t 3) (.c (.int .u64 4294967296))⟩]) (.cond (.t 4) (.seq (.ops 2 [⟨(some 5), none, .mv (.t 0) false⟩, ⟨(some 6), none, .bin .shr .no (.t 5) (.c (.int .u64 32))⟩, ⟨(some 0), none, .mv (.t 6) false⟩]) (.ops 3 [⟨(some 2), none, .mv (.c (.int .i64 32)) false⟩])) .skip)) (.seq (.seq (.ops 4 [⟨(some 7), none, .mv (.t 0) false⟩, ⟨(some 8), none, .bin .geq .no (.t 7) (.c (.int .u64 65536))⟩]) (.cond (.t 8) (.seq (.ops 5 [⟨(some 9), none, .mv (.t 0) false⟩, ⟨(some 10), none, .bin .shr .no (.t 9) (.c (.int .u64 16))⟩, ⟨(some 0), none, .mv (.t 10) false⟩]) (.ops 6 [⟨(some 11), none, .mv (.t 2) false⟩, ⟨(some 12), none, .bin .add .no (.t 11) (.c (.int .i64 16))⟩, ⟨(some 2), none, .mv (.t 12) false⟩])) .skip)) (.seq (.seq (.ops 7 [⟨(some 13), none, .mv (.t 0) false⟩, ⟨(some 14), none, .bin .geq .no (.t 13) (.c (.int .u64 256))⟩]) (.cond (.t 14) (.seq (.ops 8 [⟨(some 15), none, .mv (.t 0) false⟩, ⟨(some 16), none, .bin .shr .no (.t 15) (.c (.int .u64 8))⟩, ⟨(some 0), none, .mv (.t 16) false⟩]) (.ops 9 [⟨(some 17), none, .mv (.t 2) false⟩, ⟨(some 18), none, .bin .add .no (.t 17) (.c (.int .i64 8))⟩, ⟨(some 2), none, .mv (.t 18) false⟩])) .skip)) (.seq (.ops 10 [⟨(some 19), none, .mv (.t 2) false⟩, ⟨(some 20), none, .mv (.t 0) false⟩, ⟨(some 21), none, .conv (.toInt .u8) (.t 20)⟩, ⟨(some 22), none, .idx (.c (.str [0, 1, 2, 2, 3, 3, 3, 3, 4, 4, 4, 4, 4, 4, 4, 4, 5, 5, 5, 5, 5, 5, 5, 5, 5, 5, 5, 5, 5, 5, 5, 5, 6, 6, 6, 6, 6, 6, 6, 6, 6, 6, 6, 6, 6, 6, 6, 6, 6, 6, 6, 6, 6, 6, 6, 6, 6, 6, 6, 6, 6, 6, 6, 6, 7, 7, 7, 7, 7, 7, 7, 7, 7, 7, 7, 7, 7, 7, 7, 7, 7, 7, 7, 7, 7, 7, 7, 7, 7, 7, 7, 7, 7, 7, 7, 7, 7, 7, 7, 7, 7, 7, 7, 7, 7, 7, 7, 7, 7, 7, 7, 7, 7, 7, 7, 7, 7, 7, 7, 7, 7, 7, 7, 7, 7, 7, 7, 7, 8, 8, 8, 8, 8, 8, 8, 8, 8, 8, 8, 8, 8, 8, 8, 8, 8, 8, 8, 8, 8, 8, 8, 8, 8, 8, 8, 8, 8, 8, 8, 8, 8, 8, 8, 8, 8, 8, 8, 8, 8, 8, 8, 8, 8, 8, 8, 8, 8, 8, 8, 8, 8, 8, 8, 8, 8, 8, 8, 8, 8, 8, 8, 8, 8, 8, 8, 8, 8, 8, 8, 8, 8, 8, 8, 8, 8, 8, 8, 8, 8, 8, 8, 8, 8, 8, 8, 8, 8, 8, 8, 8, 8, 8, 8, 8, 8, 8, 8, 8, 8, 8, 8, 8, 8, 8, 8, 8, 8, 8, 8, 8, 8, 8, 8, 8, 8, 8, 8, 8, 8, 8, 8, 8, 8, 8, 8, 8])) (.t 21)⟩, ⟨(some 23), none, .conv (.toInt .i64) (.t 22)⟩, ⟨(some 24), none, .bin .add .no (.t 19) (.t 23)⟩, ⟨(some 2), none, .mv (.t 24) false⟩]) .ret)))))⟩
theorem ok_c_math_bits_Len64 : chkFn Tryz.prog 120 c_math_bits_Len64 = true := chkFn_of Tryz.func120 (by kernel_rfl)
def j_math_bits_Len64_2 (M : Mach) (n0 : Nat) (z0 z2 : V) (σ : Objs) : Ro :=
  bd (pu (evConv σ (.toInt .u8) z0.nogr.nogr)) fun x0 =>
  bd (pu (evIdx x0.nogr (.str [0, 1, 2, 2, 3, 3, 3, 3, 4, 4, 4, 4, 4, 4, 4, 4, 5, 5, 5, 5, 5, 5, 5, 5, 5, 5, 5, 5, 5, 5, 5, 5, 6, 6, 6, 6, 6, 6, 6, 6, 6, 6, 6, 6, 6, 6, 6, 6, 6, 6, 6, 6, 6, 6, 6, 6, 6, 6, 6, 6, 6, 6, 6, 6, 7, 7, 7, 7, 7, 7, 7, 7, 7, 7, 7, 7, 7, 7, 7, 7, 7, 7, 7, 7, 7, 7, 7, 7, 7, 7, 7, 7, 7, 7, 7, 7, 7, 7, 7, 7, 7, 7, 7, 7, 7, 7, 7, 7, 7, 7, 7, 7, 7, 7, 7, 7, 7, 7, 7, 7, 7, 7, 7, 7, 7, 7, 7, 7, 8, 8, 8, 8, 8, 8, 8, 8, 8, 8, 8, 8, 8, 8, 8, 8, 8, 8, 8, 8, 8, 8, 8, 8, 8, 8, 8, 8, 8, 8, 8, 8, 8, 8, 8, 8, 8, 8, 8, 8, 8, 8, 8, 8, 8, 8, 8, 8, 8, 8, 8, 8, 8, 8, 8, 8, 8, 8, 8, 8, 8, 8, 8, 8, 8, 8, 8, 8, 8, 8, 8, 8, 8, 8, 8, 8, 8, 8, 8, 8, 8, 8, 8, 8, 8, 8, 8, 8, 8, 8, 8, 8, 8, 8, 8, 8, 8, 8, 8, 8, 8, 8, 8, 8, 8, 8, 8, 8, 8, 8, 8, 8, 8, 8, 8, 8, 8, 8, 8, 8, 8, 8, 8, 8, 8, 8, 8, 8]))) fun x1 =>
  bd (pu (evConv σ (.toInt .i64) x1.nogr)) fun x2 =>
  bd (pu (evBin .add .no z2.nogr.nogr x2.nogr)) fun x3 =>
  bd (oneK false x3.nogr) (endK n0 σ)
def j_math_bits_Len64_1 (M : Mach) (n0 : Nat) (z0 z2 : V) (σ : Objs) : Ro :=
  bd (pu (evBin .geq .no z0.nogr.nogr (.int .u64 256))) fun x4 =>
  br x4.nogr (
  bd (pu (evBin .shr .no z0.nogr.nogr (.int .u64 8))) fun x5 =>
  bd (pu (evBin .add .no z2.nogr.nogr (.int .i64 8))) fun x6 =>
  j_math_bits_Len64_2 M n0 x5.nogr x6.nogr σ) (
  j_math_bits_Len64_2 M n0 z0 z2 σ)
def j_math_bits_Len64_0 (M : Mach) (n0 : Nat) (z0 z2 : V) (σ : Objs) : Ro :=
  bd (pu (evBin .geq .no z0.nogr.nogr (.int .u64 65536))) fun x7 =>
  br x7.nogr (
  bd (pu (evBin .shr .no z0.nogr.nogr (.int .u64 16))) fun x8 =>
  bd (pu (evBin .add .no z2.nogr.nogr (.int .i64 16))) fun x9 =>
  j_math_bits_Len64_1 M n0 x8.nogr x9.nogr σ) (
  j_math_bits_Len64_1 M n0 z0 z2 σ)
def s_math_bits_Len64 (M : Mach) (a0 : V) (σ : Objs) : Ro :=
  bd (pu (evBin .geq .no a0.nogr.nogr (.int .u64 4294967296))) fun x10 =>
  br x10.nogr (
  bd (pu (evBin .shr .no a0.nogr.nogr (.int .u64 32))) fun x11 =>
  j_math_bits_Len64_0 M σ.length x11.nogr (.int .i64 32) σ) (
  j_math_bits_Len64_0 M σ.length a0 (.int .i64 0) σ)
theorem k_math_bits_Len64 (M : Mach) (a0 : V) (σ : Objs) : fnK M c_math_bits_Len64 [a0] σ = s_math_bits_Len64 M a0 σ := by kernel_rfl
end Go.Proofs.YtkgkmlhljeidhaaGreatDoor
set_option linter.unusedSimpArgs false
set_option linter.unusedVariables false
set_option maxRecDepth 100000
namespace Go.Proofs.YtkgkmlhljeidhaaGreatDoor
open Go.Ev
def c_internal_strconv_log10Pow2 : Ev.Fn := ⟨6, [.tmp 2], false, false, (.seq (.ops 0 [⟨(some 2), none, .mv (.c (.int .i64 0)) false⟩]) (.seq (.ops 1 [⟨(some 3), none, .mv (.t 0) false⟩, ⟨(some 4), none, .bin .mul .no (.t 3) (.c (.int .i64 78913))⟩, ⟨(some 5), none, .bin .shr .no (.t 4) (.c (.int .u64 18))⟩, ⟨(some 2), none, .mv (.t 5) false⟩]) .ret))⟩
theorem ok_c_internal_strconv_log10Pow2 : chkFn Tryz.prog 119 c_internal_strconv_log10Pow2 = true := chkFn_of Tryz.func119 (by kernel_rfl)
def s_internal_strconv_log10Pow2 (M : Mach) (a0 : V) (σ : Objs) : Ro :=
  bd (pu (evBin .mul .no a0.nogr.nogr (.int .i64 78913))) fun x0 =>
  bd (pu (evBin .shr .no x0.nogr (.int .u64 18))) fun x1 =>
  bd (oneK false x1.nogr) (endK σ.length σ)
theorem k_internal_strconv_log10Pow2 (M : Mach) (a0 : V) (σ : Objs) : fnK M c_internal_strconv_log10Pow2 [a0] σ = s_internal_strconv_log10Pow2 M a0 σ := by kernel_rfl
def c_internal_strconv_bool2_int_ : Ev.Fn := ⟨4, [.tmp 2], false, false, (.seq (.ops 0 [⟨(some 2), none, .mv (.c (.int .i64 0)) false⟩]) (.seq (.seq (.ops 1 [⟨(some 3), none, .mv (.t 0) false⟩]) (.cond (.t 3) (.seq (.ops 2 [⟨(some 2), none, .mv (.c (.int .i64 1)) false⟩]) .ret) .skip)) (.seq (.ops 3 [⟨(some 2), none, .mv (.c (.int .i64 0)) false⟩]) .ret)))⟩
theorem ok_c_internal_strconv_bool2_int_ : chkFn Tryz.prog 121 c_internal_strconv_bool2_int_ = true := chkFn_of Tryz.func121 (by kernel_rfl)
def s_internal_strconv_bool2_int_ (M : Mach) (a0 : V) (σ : Objs) : Ro :=
  br a0.nogr.nogr (
  bd (oneK false (.int .i64 1)) (endK σ.length σ)) (
  bd (oneK false (.int .i64 0)) (endK σ.length σ))
theorem k_internal_strconv_bool2_int_ (M : Mach) (a0 : V) (σ : Objs) : fnK M c_internal_strconv_bool2_int_ [a0] σ = s_internal_strconv_bool2_int_ M a0 σ := by kernel_rfl
end Go.Proofs.YtkgkmlhljeidhaaGreatDoor
set_option linter.unusedSimpArgs false
set_option linter.unusedVariables false
set_option maxRecDepth 100000
namespace Go.Proofs.YtkgkmlhljeidhaaGreatDoor
open Go.Ev
def listAnC : List (Nat × Ev.Fn) := [(3, c_wattlelaw04_AnbHas),
  (4, c_wattlelaw04_AnbCases),
  (5, c_wattlelaw04_AnbWhole),
  (6, c_wattlelaw04_AnbReads),
  (7, c_wattlelaw04_AnbWholes),
  (8, c_wattlelaw04_AnbTexts),
  (9, c_wattlelaw04_speaks),
  (10, c_anb_Has),
  (11, c_wattleref04_Has),
  (12, c_wattlelaw04_digits),
  (14, c_wattleref03_Read),
  (13, c_anb_Parse),
  (15, c_anb_Whole),
  (16, c_wattlelaw01_Has),
  (17, c_wattleref04_Parse),
  (20, c_wattleref04_Whole),
  (21, c_anb_Text),
  (22, c_wattleref04_Text),
  (23, c_anb_direction),
  (24, c_anb_magnitude),
  (32, c_wattleref01_Chars),
  (31, c_wattleref01_Prepare),
  (30, c_wattleref03_All),
  (25, c___anb_reader__skip),
  (26, c___anb_reader__fixed),
  (27, c___anb_reader__head),
  (28, c___anb_reader__behind),
  (29, c_api_Fail),
  (33, c_strings_TrimLeft),
  (34, c_chars_Digit),
  (36, c_wattleref04_Find),
  (38, c_wattleref02_Digit),
  (39, c_strconv_Itoa),
  (40, c_wattleref04_signed),
  (52, c_wattleref01_First),
  (51, c_wattleref01_Right),
  (50, c_wattleref03_Next),
  (41, c___anb_reader__look),
  (42, c_chars_Same),
  (43, c___anb_reader__whole),
  (44, c_chars_Lower),
  (45, c_strings_CutPrefix),
  (46, c_strings_HasPrefix),
  (47, c___anb_reader__tail),
  (48, c___anb_reader__number),
  (49, c_anb_over),
  (53, c_strings_trimLeftByte),
  (54, c_strings_makeASCIISet),
  (55, c_strings_trimLeftASCII),
  (56, c_strings_trimLeftUnicode),
  (59, c_wattleref04_skip),
  (60, c_wattleref02_Lower),
  (61, c_wattleref04_heads),
  (62, c_wattleref04_number),
  (63, c_wattleref04_digits),
  (68, c_internal_strconv_Itoa),
  (69, c_wattleref02_Digits),
  (86, c_wattleref01_whole),
  (87, c_wattleref01_told),
  (88, c_wattleref01_begins),
  (73, c_wattleref03_behind),
  (74, c_wattleref02_Space),
  (75, c_wattleref03_space),
  (76, c_wattleref03_quoted),
  (77, c_wattleref03_number),
  (78, c_wattleref03_numeric),
  (79, c_wattleref03_is),
  (80, c_wattleref03_Name),
  (81, c_wattleref03_called),
  (82, c_wattleref03_names),
  (83, c_wattleref03_inner),
  (84, c_wattleref03_Escape),
  (85, c_wattleref03_text),
  (70, c_chars_Small),
  (71, c_internal_stringslite_CutPrefix),
  (72, c_internal_stringslite_HasPrefix),
  (89, c___strings_asciiSet__contains),
  (90, c_unicode_utf8_DecodeRuneInString),
  (91, c_strings_ContainsRune),
  (92, c_wattleref02_Small),
  (95, c_internal_strconv_FormatInt),
  (103, c_wattleref01_Put),
  (104, c_wattleref01_filled),
  (96, c_wattleref03_Value),
  (97, c_wattleref03_digit),
  (98, c_wattleref03_digits),
  (99, c_wattleref03_start),
  (100, c_wattleref03_url),
  (101, c_wattleref02_Name),
  (102, c_wattleref01_Text),
  (105, c_unicode_utf8_decodeRuneInStringSlow),
  (107, c_internal_strconv_small),
  (108, c_internal_strconv_numDigits),
  (109, c_internal_strconv_formatBase10),
  (111, c_wattleref02_Hex),
  (112, c_wattleref02_Start),
  (113, c_wattleref03_hidden),
  (114, c_wattleref03_rest),
  (120, c_math_bits_Len64),
  (119, c_internal_strconv_log10Pow2),
  (121, c_internal_strconv_bool2_int_)]
def codeAnC (f : FuncId) : Option Ev.Fn := lookF listAnC f
theorem okAnC : ∀ f F, codeAnC f = some F → chkFn Tryz.prog f F = true := lookF_ok (l := listAnC) ⟨ok_c_wattlelaw04_AnbHas, ok_c_wattlelaw04_AnbCases, ok_c_wattlelaw04_AnbWhole, ok_c_wattlelaw04_AnbReads, ok_c_wattlelaw04_AnbWholes, ok_c_wattlelaw04_AnbTexts, ok_c_wattlelaw04_speaks, ok_c_anb_Has, ok_c_wattleref04_Has, ok_c_wattlelaw04_digits, ok_c_wattleref03_Read, ok_c_anb_Parse, ok_c_anb_Whole, ok_c_wattlelaw01_Has, ok_c_wattleref04_Parse, ok_c_wattleref04_Whole, ok_c_anb_Text, ok_c_wattleref04_Text, ok_c_anb_direction, ok_c_anb_magnitude, ok_c_wattleref01_Chars, ok_c_wattleref01_Prepare, ok_c_wattleref03_All, ok_c___anb_reader__skip, ok_c___anb_reader__fixed, ok_c___anb_reader__head, ok_c___anb_reader__behind, ok_c_api_Fail, ok_c_strings_TrimLeft, ok_c_chars_Digit, ok_c_wattleref04_Find, ok_c_wattleref02_Digit, ok_c_strconv_Itoa, ok_c_wattleref04_signed, ok_c_wattleref01_First, ok_c_wattleref01_Right, ok_c_wattleref03_Next, ok_c___anb_reader__look, ok_c_chars_Same, ok_c___anb_reader__whole, ok_c_chars_Lower, ok_c_strings_CutPrefix, ok_c_strings_HasPrefix, ok_c___anb_reader__tail, ok_c___anb_reader__number, ok_c_anb_over, ok_c_strings_trimLeftByte, ok_c_strings_makeASCIISet, ok_c_strings_trimLeftASCII, ok_c_strings_trimLeftUnicode, ok_c_wattleref04_skip, ok_c_wattleref02_Lower, ok_c_wattleref04_heads, ok_c_wattleref04_number, ok_c_wattleref04_digits, ok_c_internal_strconv_Itoa, ok_c_wattleref02_Digits, ok_c_wattleref01_whole, ok_c_wattleref01_told, ok_c_wattleref01_begins, ok_c_wattleref03_behind, ok_c_wattleref02_Space, ok_c_wattleref03_space, ok_c_wattleref03_quoted, ok_c_wattleref03_number, ok_c_wattleref03_numeric, ok_c_wattleref03_is, ok_c_wattleref03_Name, ok_c_wattleref03_called, ok_c_wattleref03_names, ok_c_wattleref03_inner, ok_c_wattleref03_Escape, ok_c_wattleref03_text, ok_c_chars_Small, ok_c_internal_stringslite_CutPrefix, ok_c_internal_stringslite_HasPrefix, ok_c___strings_asciiSet__contains, ok_c_unicode_utf8_DecodeRuneInString, ok_c_strings_ContainsRune, ok_c_wattleref02_Small, ok_c_internal_strconv_FormatInt, ok_c_wattleref01_Put, ok_c_wattleref01_filled, ok_c_wattleref03_Value, ok_c_wattleref03_digit, ok_c_wattleref03_digits, ok_c_wattleref03_start, ok_c_wattleref03_url, ok_c_wattleref02_Name, ok_c_wattleref01_Text, ok_c_unicode_utf8_decodeRuneInStringSlow, ok_c_internal_strconv_small, ok_c_internal_strconv_numDigits, ok_c_internal_strconv_formatBase10, ok_c_wattleref02_Hex, ok_c_wattleref02_Start, ok_c_wattleref03_hidden, ok_c_wattleref03_rest, ok_c_math_bits_Len64, ok_c_internal_strconv_log10Pow2, ok_c_internal_strconv_bool2_int_, trivial⟩
end Go.Proofs.YtkgkmlhljeidhaaGreatDoor
namespace Go.Proofs.YtkgkmlhljeidhaaGreatDoor
open Go.RowKit
def RowA {α : Type} (f : α → Value) (d : α) (base : Nat) (w : World) (a : Option Addr) (n c : Nat) (xs : List α) : Prop :=
  xs.length = n ∧ n ≤ c ∧ c ≤ maxLen ∧ (0 < n → ∃ b off, a = some ⟨b, off, none⟩ ∧ base ≤ b ∧ b < w.heap.size ∧ ∀ j, j < n → w.cell? ⟨b, off + j, none⟩ = some (f (xs.getD j d)))
section
variable {α : Type} {f : α → Value} {d : α} {base : Nat} {w w' : World} {a : Option Addr} {n c : Nat} {xs : List α} {v : Value}
theorem RowA.len (h : RowA f d base w a n c xs) : xs.length = n := h.1
theorem RowA.le_cap (h : RowA f d base w a n c xs) : n ≤ c := h.2.1
theorem RowA.le (h : RowA f d base w a n c xs) : n ≤ 9223372036854775807 := by
  have h1 := h.2.1; have h2 := h.2.2.1; simp only [maxLen] at h2; omega
theorem RowA.cap_le (h : RowA f d base w a n c xs) : c ≤ 9223372036854775807 := by
  have h2 := h.2.2.1; simp only [maxLen] at h2; omega
theorem RowA.at (h : RowA f d base w a n c xs) (hn : 0 < n) :
    ∃ b off, a = some ⟨b, off, none⟩ ∧ base ≤ b ∧ b < w.heap.size ∧ ∀ j, j < n → w.cell? ⟨b, off + j, none⟩ = some (f (xs.getD j d)) := h.2.2.2 hn
theorem RowA.mono {base' : Nat} (h : RowA f d base w a n c xs) (hb : base' ≤ base) : RowA f d base' w a n c xs := by
  obtain ⟨h1, h2, h3, h4⟩ := h
  refine ⟨h1, h2, h3, fun hn => ?_⟩
  obtain ⟨b, off, e, hbb, hlt, hc⟩ := h4 hn
  exact ⟨b, off, e, by omega, hlt, hc⟩
theorem RowA.keepB {B : Nat} (h : RowA f d base w a n c xs) (hb : Below B w w') (hB : w.heap.size ≤ B) : RowA f d base w' a n c xs := by
  obtain ⟨h1, h2, h3, h4⟩ := h
  refine ⟨h1, h2, h3, fun hn => ?_⟩
  obtain ⟨b, off, e, hbb, hlt, hc⟩ := h4 hn
  refine ⟨b, off, e, hbb, Nat.lt_of_lt_of_le hlt hb.size, fun j hj => ?_⟩
  rw [hb.cell (p := ⟨b, off + j, none⟩) (Nat.lt_of_lt_of_le hlt hB)]
  exact hc j hj
theorem RowA.keep (h : RowA f d base w a n c xs) (hb : Below w.heap.size w w') : RowA f d base w' a n c xs := h.keepB hb (Nat.le_refl _)
theorem RowA.drewN (h : RowA f d base w a n c xs) (k : Nat) : RowA f d base (w.drewN k) a n c xs := h.keep (below_drewN (Below.refl _ _) k)
theorem RowA.drew (h : RowA f d base w a n c xs) : RowA f d base w.drew a n c xs := h.keep (Below.refl _ _).drew
theorem RowA.setCell (h : RowA f d base w a n c xs) {p : Addr} (hp : p.block < base) (u : Value) : RowA f d base (w.setCell p u) a n c xs := by
  obtain ⟨h1, h2, h3, h4⟩ := h
  refine ⟨h1, h2, h3, fun hn => ?_⟩
  obtain ⟨b, off, e, hbb, hlt, hc⟩ := h4 hn
  refine ⟨b, off, e, hbb, by simpa [World.setCell] using hlt, fun j hj => ?_⟩
  rw [World.cell?_of_block (w := w) (Below.heap_setCell w p u b (by omega))]
  exact hc j hj
theorem RowA.nil (f : α → Value) (d : α) (base : Nat) (w : World) : RowA f d base w none 0 0 [] := ⟨rfl, Nat.le_refl _, by simp [maxLen], fun h => absurd h (Nat.lt_irrefl _)⟩
theorem RowA.take (h : RowA f d base w a n c xs) (m c' : Nat) (hm : m ≤ n) (hc : m ≤ c') (hc' : c' ≤ c) : RowA f d base w a m c' (xs.take m) := by
  obtain ⟨h1, h2, h3, h4⟩ := h
  refine ⟨by simp; omega, hc, Nat.le_trans hc' h3, fun hn => ?_⟩
  obtain ⟨b, off, e, hbb, hlt, hx⟩ := h4 (by omega)
  refine ⟨b, off, e, hbb, hlt, fun j hj => ?_⟩
  rw [hx j (by omega)]
  simp [List.getD_eq_getElem?_getD, hj]
theorem RowA.cellK (h : RowA f d base w a n c xs) (hb : Below w.heap.size w w') (hn : 0 < n) :
    ∃ b off, a = some ⟨b, off, none⟩ ∧ b < w.heap.size ∧ b < w'.heap.size ∧ ∀ j, j < n → w'.cell? ⟨b, off + j, none⟩ = some (f (xs.getD j d)) := by
  obtain ⟨b, off, e, _, hlt, hc⟩ := (h.keep hb).at hn
  obtain ⟨b', off', e', _, hlt', _⟩ := h.at hn
  rw [e] at e'; simp at e'
  exact ⟨b, off, e, by omega, hlt, hc⟩
end
def RowV {α : Type} (f : α → Value) (d : α) (base : Nat) (w : World) (v : Value) (xs : List α) : Prop := ∃ a n c, v = .slice a n c ∧ RowA f d base w a n c xs
theorem RowV.keep {α} {f : α → Value} {d base w w' v} {xs : List α} (h : RowV f d base w v xs) (hb : Below w.heap.size w w') : RowV f d base w' v xs :=
  let ⟨a, n, c, e, hr⟩ := h; ⟨a, n, c, e, hr.keep hb⟩
theorem RowV.mono {α} {f : α → Value} {d base base' w v} {xs : List α} (h : RowV f d base w v xs) (hb : base' ≤ base) : RowV f d base' w v xs :=
  let ⟨a, n, c, e, hr⟩ := h; ⟨a, n, c, e, hr.mono hb⟩
theorem RowV.setCell {α} {f : α → Value} {d base w v} {xs : List α} (h : RowV f d base w v xs) {p : Addr} (hp : p.block < base) (u : Value) : RowV f d base (w.setCell p u) v xs :=
  let ⟨a, n, c, e, hr⟩ := h; ⟨a, n, c, e, hr.setCell hp u⟩
theorem res_block {w w' : World} {o : Obj} (hb : Below (w.heap.size + 1) (w.alloc o) w') : w'.heap[w.heap.size]? = some o := by
  rw [hb.block _ (by omega)]; exact heap_alloc_new w o
theorem res_below {w w' : World} {o : Obj} (hb : Below (w.heap.size + 1) (w.alloc o) w') : Below w.heap.size w w' :=
  ((Below.refl _ _).alloc (Nat.le_refl _) o).trans (hb.mono (by omega))
theorem setCell_block {w : World} {b : Nat} {cs : Array Value} {e : TypeId} (h : w.heap[b]? = some (.cells cs e (0, 0))) (i : Nat) (v : Value) :
    (w.setCell ⟨b, i, none⟩ v).heap[b]? = some (.cells (cs.setIfInBounds i v) e (0, 0)) := by
  simp [World.setCell, Array.getElem?_modify, h]
theorem block_below {w w' : World} {B b : Nat} {o : Obj} (h : w.heap[b]? = some o) (hb : Below B w w') (hB : b < B) : w'.heap[b]? = some o := by
  rw [hb.block b hB]; exact h
theorem lt_of_block {w : World} {b : Nat} {o : Obj} (h : w.heap[b]? = some o) : b < w.heap.size := (Array.getElem?_eq_some_iff.1 h).1
theorem rowA_of_block {α : Type} {f : α → Value} {d : α} {base : Nat} {w : World} {b off n c : Nat} {cs : Array Value} {e : TypeId} {xs : List α} (h : w.heap[b]? = some (.cells cs e (0, 0))) (hl : xs.length = n) (hc : n ≤ c) (hm : c ≤ maxLen) (hb : base ≤ b)
    (hx : ∀ j, j < n → cs[off + j]? = some (f (xs.getD j d))) : RowA f d base w (some ⟨b, off, none⟩) n c xs :=
  ⟨hl, hc, hm, fun _ => ⟨b, off, rfl, hb, lt_of_block h, fun j hj => by rw [← hx j hj]; unfold World.cell?; simp [h]⟩⟩
theorem cell_of_block {w : World} {b : Nat} {cs : Array Value} {e : TypeId} (h : w.heap[b]? = some (.cells cs e (0, 0))) (i : Nat) : w.cell? ⟨b, i, none⟩ = cs[i]? := by
  unfold World.cell?; simp [h]
theorem free_of_block {w : World} {b : Nat} {cs : Array Value} {e : TypeId} (h : w.heap[b]? = some (.cells cs e (0, 0))) (i : Nat) : w.frozen? ⟨b, i, none⟩ = false := by
  unfold World.frozen?; simp [h]
theorem below_step {B : Nat} {W0 w1 w2 : World} (h : Below B W0 w1) (hB : B ≤ W0.heap.size) (h2 : Below w1.heap.size w1 w2) : Below B W0 w2 := h.trans (h2.mono (Nat.le_trans hB h.size))
theorem bcell {W w1 : World} (hb : Below W.heap.size W w1) : (∀ b o, b < W.heap.size → w1.cell? ⟨b, o, none⟩ = W.cell? ⟨b, o, none⟩) ∧ (∀ b o, b < W.heap.size → w1.frozen? ⟨b, o, none⟩ = W.frozen? ⟨b, o, none⟩) :=
  ⟨fun b o h => hb.cell (p := ⟨b, o, none⟩) h, fun b o h => hb.frozen (p := ⟨b, o, none⟩) h⟩
theorem w64_in (x : Int) (h1 : -9223372036854775808 ≤ x) (h2 : x ≤ 9223372036854775807) : IntKind.i64.wrap x = x := by
  have e : IntKind.i64.wrap x = (if 9223372036854775808 ≤ x % 18446744073709551616 then x % 18446744073709551616 - 18446744073709551616 else x % 18446744073709551616) := by simp [IntKind.wrap, IntKind.bits, IntKind.signed]
  rw [e]; split <;> omega
theorem ret_int {k : IntKind} {a b : Int} (h : a = b) : Ending.returned (.int k a) = .returned (.int k b) := by rw [h]
theorem ret_bool {a b : Bool} (h : a = b) : Ending.returned (.bool a) = .returned (.bool b) := by rw [h]
theorem ret_ii {k l : IntKind} {a b c d : Int} (h : a = b) (h' : c = d) : Ending.returned (.tuple #[.int k a, .int l c]) = .returned (.tuple #[.int k b, .int l d]) := by rw [h, h']
theorem ret_ib {k : IntKind} {a b : Int} {c d : Bool} (h : a = b) (h' : c = d) : Ending.returned (.tuple #[.int k a, .bool c]) = .returned (.tuple #[.int k b, .bool d]) := by rw [h, h']
def RetB (w : World) (x : Bool) (e : Ending) (w' : World) : Prop := e = .returned (.bool x) ∧ Below w.heap.size w w'
abbrev VB : Bool → Value := Value.bool
abbrev VI : Int → Value := Value.int .i64
theorem below_a1 (w : World) (o : Obj) : Below w.heap.size w (w.alloc o) := (Below.refl _ _).alloc (Nat.le_refl _) o
theorem addr_add (b off j : Nat) : (⟨b, off, none⟩ : Addr).add j = ⟨b, off + j, none⟩ := by
  unfold Addr.add; split <;> simp_all
theorem RowA.news {α} {f : α → Value} {d base w a n c} {xs : List α} (h : RowA f d base w (some a) n c xs) : ∀ j u, (xs.map f)[j]? = some u → w.cell? (a.add j) = some u := by
  intro j u hu
  have hl := h.len
  have hj : j < n := by
    rcases Nat.lt_or_ge j n with h | h
    · exact h
    · rw [List.getElem?_eq_none (by simp; omega)] at hu; cases hu
  obtain ⟨b, off, e, _, _, hc⟩ := h.at (by omega)
  simp only [Option.some.injEq] at e
  subst e
  rw [addr_add, hc j hj]
  rw [List.getElem?_map, List.getElem?_eq_getElem (by omega)] at hu
  simp only [Option.map_some, Option.some.injEq] at hu
  rw [← hu]
  simp [List.getD, show j < xs.length by omega]
theorem rowA_of_owns {α} {f : α → Value} {d : α} {w : World} {base e n : Nat} {v : Value} {xs : List α} (h : w.ownsRow base e 1 v n (xs.map f)) :
    ∃ a c, v = .slice a n c ∧ RowA f d base w a n c xs := by
  obtain ⟨h1, h2⟩ := h
  have hl : xs.length = n := by simpa using h1
  rcases h2 with ⟨rfl, rfl⟩ | ⟨g, cap, cur, rfl, hbg, hg, hnc, hcm, hcs, ht⟩
  · have : xs = [] := List.eq_nil_of_length_eq_zero hl
    subst this
    exact ⟨none, 0, rfl, RowA.nil f d base w⟩
  · refine ⟨_, _, rfl, hl, hnc, hcm, fun _ => ⟨g, 0, rfl, hbg, (Array.getElem?_eq_some_iff.1 hg).1, fun j hj => ?_⟩⟩
    have e2 : (xs.map f)[j]? = some (f (xs.getD j d)) := by
      rw [List.getElem?_map, List.getElem?_eq_getElem (by omega)]
      simp [List.getD, show j < xs.length by omega]
    rw [← ht, List.getElem?_take, if_pos (by omega)] at e2
    unfold World.cell?
    simp only [hg, Nat.zero_add]
    simpa using e2
theorem rowV_of_owns {α} {f : α → Value} {d : α} {w : World} {base e n : Nat} {v : Value} {xs : List α} (h : w.ownsRow base e 1 v n (xs.map f)) : RowV f d base w v xs :=
  let ⟨a, c, e, hr⟩ := rowA_of_owns h; ⟨a, n, c, e, hr⟩
theorem owns_built {w : World} {base e n : Nat} (cs : List Value) (hb : base ≤ w.heap.size) (hn : cs.length = n) (hm : n ≤ maxLen) :
    (w.alloc (.cells cs.toArray e)).ownsRow base e 1 (.slice (some ⟨w.heap.size, 0, none⟩) n n) n cs :=
  ⟨by omega, .inr ⟨w.heap.size, n, cs.toArray, rfl, hb, heap_alloc_new w _, Nat.le_refl _, hm, by simp [hn], by rw [← hn]; simp⟩⟩
theorem ownsRow_drew {w : World} {base e s n : Nat} {v : Value} {xs : List Value} (h : w.ownsRow base e s v n xs) : w.drew.ownsRow base e s v n xs := h
theorem info_parts' {P : Program} {e : TypeId} {z : Value} {s b : Nat} (h : (P.info? e).map (fun i => (i.zero, i.size, i.bytes)) = some (some z, s, b)) : ∃ i, P.info? e = some i ∧ i.zero = some z ∧ i.size = s ∧ i.bytes = b := by
  cases hi : P.info? e with
  | none => rw [hi] at h; simp at h
  | some i => rw [hi] at h; simp at h; exact ⟨i, rfl, h.1, h.2.1, h.2.2⟩
theorem step_append_own {P : Program} {ops : Array Oper} {o : Oper} {a : Act} {w : World} {K : Act → World → Prop} {Q : Exit → Act → World → Prop} {E : Prop}
    (hg : o.guard = none) (s x : Operand) (t : TypeId) (hop : o.op = Op.call { callee := Callee.builtin Builtin.append, args := #[s, x], argTypes := #[t, t] })
    (base : Nat) (e : TypeId) (i : TypeInfo) (z : Value) (size bytes : Nat) (ht : P.underlying t = some (.slice e)) (hi : P.info? e = some i) (hz : i.zero = some z)
    (hsize : i.size = size) (hby : i.bytes = bytes) (hzs : z.cells.size = size) (hsz : 0 < size)
    (v : Value) (n : Nat) (xs : List Value) (hs : a.eval s = v) (hown : w.ownsRow base e size v n xs)
    (ad : Addr) (m c : Nat) (news : List Value) (hx : a.eval x = .slice (some ad) m c) (hl : news.length = m * size) (hnews : ∀ j u, news[j]? = some u → w.cell? (ad.add j) = some u) (h1 : ∀ u ∈ news, u.oneCell' = true)
    (h63 : n + m ≤ maxLen) (hbytes : (n + m) * bytes ≤ 140737488355328) (hbase : base ≤ w.heap.size)
    (h : ∀ v' w', w'.ownsRow base e size v' (n + m) (xs ++ news) → w.grownBy w' v.ownBlock → K (a.put o.dst v') w') :
    if Region.wanted o (yielded ops a.tmps) = true then Oper.wp P o a w K Q else E := by
  have hw : Region.wanted o (yielded ops a.tmps) = true := by simp [Region.wanted, hg]
  rw [if_pos hw]
  exact wp_append_own w s x t hop base e i z size bytes ht hi hz hsize hby hzs hsz v n xs hs hown ad m c news hx hl hnews h1 h63 hbytes hbase fun v' w' a b _ => h v' w' a b
def RowG {α : Type} (g : α → List Value) (sz : Nat) (d : α) (w : World) (a : Option Addr) (n c : Nat) (xs : List α) : Prop :=
  xs.length = n ∧ n ≤ c ∧ c ≤ maxLen ∧ (0 < n → ∃ b off, a = some ⟨b, off, none⟩ ∧ b < w.heap.size ∧ ∀ j, j < n → ∀ i v, (g (xs.getD j d))[i]? = some v → w.cell? ⟨b, off + j * sz + i, none⟩ = some v)
theorem RowG.len {α} {g : α → List Value} {sz d w a n c} {xs : List α} (h : RowG g sz d w a n c xs) : xs.length = n := h.1
theorem RowG.le_cap {α} {g : α → List Value} {sz d w a n c} {xs : List α} (h : RowG g sz d w a n c xs) : n ≤ c := h.2.1
theorem RowG.le {α} {g : α → List Value} {sz d w a n c} {xs : List α} (h : RowG g sz d w a n c xs) : n ≤ 9223372036854775807 := by
  have h1 := h.2.1; have h2 := h.2.2.1; simp only [maxLen] at h2; omega
theorem RowG.keep {α} {g : α → List Value} {sz d w w' a n c} {xs : List α} (h : RowG g sz d w a n c xs) (hb : Below w.heap.size w w') : RowG g sz d w' a n c xs := by
  obtain ⟨h1, h2, h3, h4⟩ := h
  refine ⟨h1, h2, h3, fun hn => ?_⟩
  obtain ⟨b, off, e, hlt, hc⟩ := h4 hn
  refine ⟨b, off, e, Nat.lt_of_lt_of_le hlt hb.size, fun j hj i v hv => ?_⟩
  rw [hb.cell (p := ⟨b, off + j * sz + i, none⟩) hlt]
  exact hc j hj i v hv
theorem RowG.at {α} {g : α → List Value} {sz d w a n c} {xs : List α} (h : RowG g sz d w a n c xs) (hn : 0 < n) :
    ∃ b off, a = some ⟨b, off, none⟩ ∧ b < w.heap.size ∧ ∀ j, j < n → ∀ i v, (g (xs.getD j d))[i]? = some v → w.cell? ⟨b, off + j * sz + i, none⟩ = some v := h.2.2.2 hn
def gAB (x : Int × Int) : List Value := [.int .i64 x.1, .int .i64 x.2]
end Go.Proofs.YtkgkmlhljeidhaaGreatDoor
namespace Go.Proofs.YtkgkmlhljeidhaaGreatDoor
open Go.RowKit
theorem blk_keep {w w' : World} {b : Nat} {o : Obj} (h : w.heap[b]? = some o) (hb : Below w.heap.size w w') : w'.heap[b]? = some o := block_below h hb (lt_of_block h)
theorem tot_keep {w0 w w' : World} (h : Below w0.heap.size w0 w) (hb : Below w.heap.size w w') : Below w0.heap.size w0 w' := h.trans (hb.mono h.size)
theorem alloc_facts {w w' : World} {o : Obj} (h : w.alloc o = w') : Below w.heap.size w w' ∧ w'.heap[w.heap.size]? = some o ∧ w'.heap.size = w.heap.size + 1 := by
  subst h; exact ⟨below_a1 _ _, heap_alloc_new _ _, by simp⟩
theorem alloc2_facts {w w' : World} {o o' : Obj} (h : (w.alloc o).alloc o' = w') : Below w.heap.size w w' ∧ w'.heap[w.heap.size]? = some o ∧ w'.heap[w.heap.size + 1]? = some o' := by
  subst h
  refine ⟨(below_a1 _ _).trans ((below_a1 _ _).mono (by simp)), blk_keep (heap_alloc_new _ _) (below_a1 _ _), ?_⟩
  have := heap_alloc_new (w.alloc o) o'
  rwa [World.size_alloc] at this
theorem draw_facts {w w' : World} {n : Nat} (h : w.drewN n = w') : Below w.heap.size w w' := by
  subst h; exact below_drewN (Below.refl _ _) n
theorem draw1_facts {w w' : World} (h : w.drew = w') : Below w.heap.size w w' := by
  subst h; exact (Below.refl _ _).drew
theorem below_drew' {a b : World} (h : Below a.heap.size a b) : Below a.heap.size a b.drew := h.drew
theorem below_alloc' {a b : World} (o : Obj) (h : Below a.heap.size a b) : Below a.heap.size a (b.alloc o) := h.alloc h.size o
theorem below_setCell' {a b v : World} (i : Nat) (u : Value) (h : Below a.heap.size a b) (h2 : Below a.heap.size a v) : Below a.heap.size a (b.setCell ⟨v.heap.size, i, none⟩ u) := h.setCell h2.size u
theorem below_step' {a b c : World} (h : Below a.heap.size a b) (h2 : Below b.heap.size b c) : Below a.heap.size a c := tot_keep h h2
theorem var_facts {v w : World} {o : Obj} (h : Below (v.alloc o).heap.size (v.alloc o) w) : w.heap[v.heap.size]? = some o := blk_keep (heap_alloc_new _ _) h
theorem var_facts2 {v c w : World} {o : Obj} (hbc : Below c.heap.size c w) (h : Below (v.alloc o).heap.size (v.alloc o) c) : w.heap[v.heap.size]? = some o ∧ v.heap.size < c.heap.size := by
  refine ⟨blk_keep (var_facts h) hbc, ?_⟩
  have := h.size
  rw [World.size_alloc] at this
  omega
theorem arr_get0 {α} (a : α) (l : List α) : (a :: l).toArray[0]? = some a := by simp
theorem arr_get1 {α} (a b : α) (l : List α) : (a :: b :: l).toArray[1]? = some b := by simp
theorem arr_get2 {α} (a b c : α) (l : List α) : (a :: b :: c :: l).toArray[2]? = some c := by simp
theorem arr_get3 {α} (a b c d : α) (l : List α) : (a :: b :: c :: d :: l).toArray[3]? = some d := by simp
theorem arr_get4 {α} (a b c d e : α) (l : List α) : (a :: b :: c :: d :: e :: l).toArray[4]? = some e := by simp
theorem arr_get5 {α} (a b c d e f : α) (l : List α) : (a :: b :: c :: d :: e :: f :: l).toArray[5]? = some f := by simp
theorem arr_get6 {α} (a b c d e f g : α) (l : List α) : (a :: b :: c :: d :: e :: f :: g :: l).toArray[6]? = some g := by simp
theorem arr_get7 {α} (a b c d e f g h : α) (l : List α) : (a :: b :: c :: d :: e :: f :: g :: h :: l).toArray[7]? = some h := by simp
end Go.Proofs.YtkgkmlhljeidhaaGreatDoor
namespace Go.Proofs.YtkgkmlhljeidhaaGreatDoor
open Go.RowKit Go.Extern.Stop Go.Stop Go.Extern
theorem Tryz.isTypeOf (v : Value) (w : World) : (Extern.ReflectliteType.typeOf #[.iface 38 v]).run Tryz.prog w = .ok (.iface 128 (.agg #[.pointer (some ⟨7, 38, none⟩)])) w := by kernel_rfl
theorem Tryz.isComparable (w : World) : ((Extern.ReflectliteType.method fun t => do Extern.Rtype.noPackHeld "Comparable" t; (fun a => Value.bool a.comparable) <$> typeInfo t) #[.agg #[.pointer (some ⟨7, 38, none⟩)]]).run Tryz.prog w = .ok (.bool true) w := by kernel_rfl
theorem Tryz.isMethodComparable (v : Value) (w : World) : (Go.method 298 128 v "Comparable").run Tryz.prog w = .ok (154, v) w := by kernel_rfl
theorem Tryz.hasIsF (v : Value) (xT : TypeId) (w : World) : (Instr.typeAssert (.iface 73 v) xT 130 true).run Tryz.prog w = .ok (.tuple #[.iface 73 v, .bool true]) w := run_typeAssert_hasB Tryz.underlying130 (by kernel_rfl) v xT w
theorem Tryz.hasUnwrapF (v : Value) (xT : TypeId) (w : World) : (Instr.typeAssert (.iface 73 v) xT 132 true).run Tryz.prog w = .ok (.tuple #[.iface 73 v, .bool true]) w := run_typeAssert_hasB Tryz.underlying132 (by kernel_rfl) v xT w
theorem Tryz.methodIsF (v : Value) (w : World) : (Go.method 298 73 v "Is").run Tryz.prog w = .ok (147, v) w := by kernel_rfl
theorem Tryz.methodUnwrapF (v : Value) (w : World) : (Go.method 298 73 v "Unwrap").run Tryz.prog w = .ok (148, v) w := by kernel_rfl
theorem Tryz.assertErrno (n : Int) (w : World) : (Instr.typeAssert (.iface 38 (.int .i64 n)) 27 38 true).run Tryz.prog w = .ok (.tuple #[.int .i64 n, .bool true]) w := by kernel_rfl
set_option maxRecDepth 100000 in
theorem fault_Is (b o : Nat) (k j : Int) (w : World) (hb : w.cell? ⟨b, o, none⟩ = some (.int .i64 k)) :
    Calls Tryz.prog 147 #[.pointer (some ⟨b, o, none⟩), .iface 38 (.int .i64 j)] w fun e w' => e = .returned (.bool (j == k)) ∧ w' = w := by
  have hA := Tryz.assertErrno
  go_enter Tryz.func147, Tryz.ntmps147
  go_wp2
  go_ret
  exact ⟨rfl, rfl⟩
set_option maxRecDepth 100000 in
theorem fault_Unwrap (b o : Nat) (E : Value) (w : World) (hb : w.cell? ⟨b, o + 2, none⟩ = some E) :
    Calls Tryz.prog 148 #[.pointer (some ⟨b, o, none⟩)] w fun e w' => e = .returned E ∧ w' = w := by
  go_enter Tryz.func148, Tryz.ntmps148
  go_wp2
  go_ret
  exact ⟨rfl, rfl⟩
inductive FC (W : World) : Value → List Int → Prop
  | nil : FC W .nilIface []
  | cons (b o : Nat) (k : Int) (E : Value) (l : List Int) : W.cell? ⟨b, o, none⟩ = some (.int .i64 k) → W.cell? ⟨b, o + 2, none⟩ = some E → FC W E l → FC W (.iface 73 (.pointer (some ⟨b, o, none⟩))) (k :: l)
theorem FC.unique {W : World} {E : Value} {l l' : List Int} (h : FC W E l) (h' : FC W E l') : l = l' := by
  induction h generalizing l' with
  | nil => cases h'; rfl
  | cons b o k E1 l1 h1 h2 h3 ih =>
    cases h' with
    | cons _ _ k2 E2 l2 g1 g2 g3 =>
      rw [h1] at g1; rw [h2] at g2
      cases g1; cases g2
      rw [ih g3]
open Classical in
noncomputable def fcLen (W : World) (E : Value) : Nat := if h : ∃ l, FC W E l then h.choose.length else 0
theorem fcLen_eq {W : World} {E : Value} {l : List Int} (h : FC W E l) : fcLen W E = l.length := by
  unfold fcLen
  rw [dif_pos ⟨l, h⟩]
  rw [FC.unique (Exists.choose_spec ⟨l, h⟩) h]
set_option maxRecDepth 100000 in
theorem is_chain {W : World} (j : Int) (E : Value) (l : List Int) (hch : FC W E l) (hne : l ≠ []) :
    Calls Tryz.prog 58 #[E, .iface 38 (.int .i64 j), .bool true] W fun e w' => e = .returned (.bool (decide (j ∈ l))) ∧ w' = W := by
  have nE := Tryz.hasIsF
  have uE := Tryz.hasUnwrapF
  have mI := Tryz.methodIsF
  have mU := Tryz.methodUnwrapF
  go_enter Tryz.func58, Tryz.ntmps58
  go_wp2
  go_loopw [0] (fun E' wl => wl = W ∧ ∃ l', FC W E' l' ∧ l' ≠ [] ∧ decide (j ∈ l) = decide (j ∈ l')) (fun E' _ => fcLen W E')
  case atStart => exact ⟨rfl, l, hch, hne, rfl⟩
  case round =>
    obtain ⟨rfl, l', hc', hn', hiff⟩ := hrel
    cases hc' with
    | nil => exact absurd rfl hn'
    | cons b o k E1 l1 hk hi h1 =>
      have hty := run_eql_iface_types (P := Tryz.prog) 73 38 (.pointer (some ⟨b, o, none⟩)) (.int .i64 j) Tryz.underlying27 (by decide) wr
      have hA := Tryz.assertErrno
      have hlen := fcLen_eq h1
      have hlen0 := fcLen_eq (FC.cons b o k E1 l1 hk hi h1)
      have HC : Hid (FC wr E1 l1) := h1
      cases hjk : j == k
      · cases h1 with
        | nil =>
          clear HC
          go_wp2
          go_ret
          exact ⟨by simp [hiff]; simpa using hjk, rfl⟩
        | cons b1 o1 k1 E2 l2 g1 g2 g3 =>
          clear g1 g2 g3
          go_wp2
          go_roundw
          case rel => exact ⟨trivial, _, HC.out, by simp, by rw [hiff]; simp [show ¬ j = k by simpa using hjk]⟩
          case measure =>
            show fcLen wr (.iface 73 (.pointer (some ⟨b1, o1, none⟩))) < _
            rw [hlen, hlen0]; simp
      · go_wp2
        go_ret
        exact ⟨by rw [hiff]; simp [show j = k by simpa using hjk], rfl⟩
set_option maxRecDepth 100000 in
theorem is_nil (j : Int) (w : World) : Calls Tryz.prog 35 #[.nilIface, .iface 38 (.int .i64 j)] w fun e w' => e = .returned (.bool false) ∧ w' = w := by
  have hn := run_eql_iface_nil_left (P := Tryz.prog) w 38 (.int .i64 j) Tryz.underlying27
  go_enter Tryz.func35, Tryz.ntmps35
  go_wp2
  go_ret
  exact ⟨rfl, rfl⟩
set_option maxRecDepth 100000 in
theorem is_fault {w : World} (j : Int) (b o : Nat) (l : List Int) (hch : FC w (.iface 73 (.pointer (some ⟨b, o, none⟩))) l) : Calls Tryz.prog 35 #[.iface 73 (.pointer (some ⟨b, o, none⟩)), .iface 38 (.int .i64 j)] w fun e w' => e = .returned (.bool (decide (j ∈ l))) ∧ w' = w := by
  have hne : l ≠ [] := by cases hch; simp
  have h8 := @run_callFunc_extern Tryz.prog 57 _ Extern.ReflectliteType.typeOf Tryz.func57 (by kernel_rfl) (by kernel_rfl) (by kernel_rfl) (by kernel_rfl)
  have h32 := @run_callFunc_extern Tryz.prog 154 _ (Extern.ReflectliteType.method fun t => do Extern.Rtype.noPackHeld "Comparable" t; pure (.bool (← typeInfo t).comparable)) Tryz.func154 (by kernel_rfl) (by kernel_rfl) (by kernel_rfl) (by kernel_rfl)
  have tT := Tryz.isTypeOf
  have cT := Tryz.isComparable
  have mR := Tryz.isMethodComparable
  have hc := is_chain j _ l hch hne
  go_enter Tryz.func35, Tryz.ntmps35
  go_wp2_with fail
  refine hc.mono ?_
  rintro e w' ⟨rfl, rfl⟩
  go_wp2
  go_ret
  exact ⟨rfl, rfl⟩
end Go.Proofs.YtkgkmlhljeidhaaGreatDoor
