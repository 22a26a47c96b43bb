/- Part of a proof: the small language, and functions of the program on it. -/
import Derived.Test.YtkgkmlhljeidhaaGreatDoorTxc
import Derived.Test.YtkgkmlhljeidhaaGreatDoorChecked
import Derived.Test.YtkgkmlhljeidhaaGreatDoorRows
import Derived.WalkKit
import Derived.WalkSpells
import Derived.WalkLawsBesides
import Derived.Deep.QuietTactic
import Derived.BigQuiet
import Derived.Lib.Hide
import Derived.Deep.RegionHeld3
import Derived.Deep.AppendLies
import Derived.Deep.RegionLaw
import Derived.Deep.DrawnRows
import Derived.Deep.DeepFit
import Derived.RegionTactic
import Derived.LaidEql
import Derived.Stop.Asserts
import Derived.RowKitTokens
import Derived.Elder7
import Derived.Attr
set_option linter.unusedSimpArgs false
set_option linter.unusedVariables false
set_option maxRecDepth 100000
namespace Go.Proofs.YtkgkmlhljeidhaaGreatDoor
open Go.Ev
def c_Z11 : Ev.Fn := ⟨16, [.tmp 4], false, false, (.seq (.ops 0 [⟨some 4, none, .mv (.c (.str [])) false⟩]) (.seq (.block 0 (.loop [0, 1] [0, 4] (.seq (.seq (.ops 1 [mvF 5 0, ⟨some 6, none, .lenS (.t 5)⟩, ⟨some 7, none, .bin .gtr .no (.t 6) (.c (.int .i64 0))⟩]) (.cond (.t 7) .skip (.exit 0))) (.block 1 (.seq (.seq (.ops 2 [mvF 8 1, mvF 9 0, ⟨some 10, none, .idx (.t 9) (.c (.int .i64 0))⟩, ⟨some 11, none, .call 89 [(.t 8), (.t 10)]⟩, ⟨some 12, none, .un .not (.t 11)⟩]) (.cond (.t 12) (.exit 0) .skip)) (.ops 3 [mvF 13 0, ⟨some 14, none, .cutS (.t 13) (some (.c (.int .i64 1))) none⟩, mvF 0 14])))))) (.seq (.ops 4 [mvF 15 0, mvF 4 15]) .ret)))⟩
theorem ok_c_Z11 : chkFn Tryz.prog 55 c_Z11 = true := chkFn_of Tryz.func55 (by kernel_rfl)
def j_Z11_0 (M : Mach) (n0 : Nat) (z0 : V) (σ : Objs) : Ro :=
 bd (oK false z0.ng.ng) (nK n0 σ)
def j_Z11_1 (M : Mach) (n0 : Nat) (n1 : Nat) (r1 : Rk) (z0 z4 : V) (σ : Objs) : Ro :=
 bd (fz n1 σ fzD z0) fun y0 =>
 bd (fz n1 σ fzD z4) fun y1 =>
 bd (cuO n1 σ) fun s2 =>
  j_Z11_0 M n0 y0 s2
def b_Z11_0 (M : Mach) (n0 : Nat) (n1 : Nat) (r1 : Rk) (z0 z1 : V) (σ : Objs) : Ro :=
 bd (pu (evLenS z0.ng.ng)) fun x3 =>
 bd (pu (eB .gtr .no x3.ng (.int .i64 0))) fun x4 =>
  br x4.ng (
 bd (pu (evIdx (.int .i64 0) z0.ng.ng)) fun x5 =>
 bd (M.call 89 [z1.ng.ng, x5.ng] σ) fun p6 =>
 bd (pu (evUn .not p6.1.ng)) fun x7 =>
  br x7.ng (
  j_Z11_1 M n0 n1 r1 z0 .any p6.2) (
 bd (pu (evCutS z0.ng.ng (some (.int .i64 1)) none)) fun x8 =>
 bd (fz n1 p6.2 fzD x8.ng) fun y9 =>
 bd (fz n1 p6.2 fzD z1) fun y10 =>
 bd (cuO n1 p6.2) fun s11 => r1 [y9, y10] s11)) (
  j_Z11_1 M n0 n1 r1 z0 .any σ)
def l_Z11_0 (M : Mach) (n0 : Nat) (n1 : Nat) : Rk := M.fx fun rec vs σ => b_Z11_0 M n0 n1 rec (vs.getD 0 .undef) (vs.getD 1 .undef) σ
def s_Z11 (M : Mach) (a0 a1 : V) (σ : Objs) : Ro :=
 bd (fz σ.length σ fzD a0) fun y12 =>
 bd (fz σ.length σ fzD a1) fun y13 =>
  l_Z11_0 M σ.length σ.length [y12, y13] σ
theorem k_Z11 (M : Mach) (a0 a1 : V) (σ : Objs) : fnK M c_Z11 [a0, a1] σ = s_Z11 M a0 a1 σ := by kernel_rfl
def c_Z13 : Ev.Fn := ⟨23, [.tmp 4], false, false, (.seq (.ops 0 [⟨some 4, none, .mv (.c (.str [])) false⟩]) (.seq (.block 0 (.loop [0, 1] [0, 4] (.seq (.seq (.ops 1 [mvF 7 0, ⟨some 8, none, .lenS (.t 7)⟩, ⟨some 9, none, .bin .gtr .no (.t 8) (.c (.int .i64 0))⟩]) (.cond (.t 9) .skip (.exit 0))) (.block 1 (.seq (.ops 2 [mvF 11 0, ⟨some 12, none, .call 90 [.t 11]⟩, mvF 10 12, ⟨some 13, none, .extr (.t 10) 0⟩, ⟨some 14, none, .extr (.t 10) 1⟩, mvF 5 13, mvF 6 14]) (.seq (.seq (.ops 3 [mvF 15 1, mvF 16 5, ⟨some 17, none, .call 91 [(.t 15), (.t 16)]⟩, ⟨some 18, none, .un .not (.t 17)⟩]) (.cond (.t 18) (.exit 0) .skip)) (.ops 4 [mvF 19 0, mvF 20 6, ⟨some 21, none, .cutS (.t 19) (some (.t 20)) none⟩, mvF 0 21]))))))) (.seq (.ops 5 [mvF 22 0, mvF 4 22]) .ret)))⟩
theorem ok_c_Z13 : chkFn Tryz.prog 56 c_Z13 = true := chkFn_of Tryz.func56 (by kernel_rfl)
def j_Z13_0 (M : Mach) (n0 : Nat) (z0 : V) (σ : Objs) : Ro :=
 bd (oK false z0.ng.ng) (nK n0 σ)
def j_Z13_1 (M : Mach) (n0 : Nat) (n1 : Nat) (r1 : Rk) (z0 z4 : V) (σ : Objs) : Ro :=
 bd (fz n1 σ fzD z0) fun y0 =>
 bd (fz n1 σ fzD z4) fun y1 =>
 bd (cuO n1 σ) fun s2 =>
  j_Z13_0 M n0 y0 s2
def b_Z13_0 (M : Mach) (n0 : Nat) (n1 : Nat) (r1 : Rk) (z0 z1 : V) (σ : Objs) : Ro :=
 bd (pu (evLenS z0.ng.ng)) fun x3 =>
 bd (pu (eB .gtr .no x3.ng (.int .i64 0))) fun x4 =>
  br x4.ng (
 bd (M.call 90 [z0.ng.ng] σ) fun p5 =>
 bd (pu (eX 0 p5.1.ng.ng)) fun x6 =>
 bd (pu (eX 1 p5.1.ng.ng)) fun x7 =>
 bd (M.call 91 [z1.ng.ng, x6.ng.ng.ng] p5.2) fun p8 =>
 bd (pu (evUn .not p8.1.ng)) fun x9 =>
  br x9.ng (
  j_Z13_1 M n0 n1 r1 z0 .any p8.2) (
 bd (pu (evCutS z0.ng.ng (some x7.ng.ng.ng) none)) fun x10 =>
 bd (fz n1 p8.2 fzD x10.ng) fun y11 =>
 bd (fz n1 p8.2 fzD z1) fun y12 =>
 bd (cuO n1 p8.2) fun s13 => r1 [y11, y12] s13)) (
  j_Z13_1 M n0 n1 r1 z0 .any σ)
def l_Z13_0 (M : Mach) (n0 : Nat) (n1 : Nat) : Rk := M.fx fun rec vs σ => b_Z13_0 M n0 n1 rec (vs.getD 0 .undef) (vs.getD 1 .undef) σ
def s_Z13 (M : Mach) (a0 a1 : V) (σ : Objs) : Ro :=
 bd (fz σ.length σ fzD a0) fun y14 =>
 bd (fz σ.length σ fzD a1) fun y15 =>
  l_Z13_0 M σ.length σ.length [y14, y15] σ
theorem k_Z13 (M : Mach) (a0 a1 : V) (σ : Objs) : fnK M c_Z13 [a0, a1] σ = s_Z13 M a0 a1 σ := by kernel_rfl
def c_Z1l : Ev.Fn := ⟨23, [.tmp 2], false, false, (.seq (.ops 0 [⟨some 2, none, .mv (.c (.str [])) false⟩]) (.seq (.ops 1 [⟨some 5, none, .buildSl false 1 0 .any [] false⟩, mvT 3 5]) (.seq (.seq (.ops 2 [⟨some 4, none, .mv (.c (.int .i64 0)) false⟩]) (.block 0 (.loop [0, 3, 4] [2, 3] (.seq (.seq (.ops 3 [mvF 6 4, mvF 7 0, ⟨some 8, none, .lenS (.t 7)⟩, ⟨some 9, none, .bin .lss .no (.t 6) (.t 8)⟩]) (.cond (.t 9) .skip (.exit 0))) (.seq (.block 1 (.ops 5 [mvT 12 3, mvF 13 0, mvF 14 4, ⟨some 15, none, .idx (.t 13) (.t 14)⟩, ⟨some 16, none, .conv (.toInt .i64) (.t 15)⟩, ⟨some 17, none, .call 92 [.t 16]⟩, ⟨some 18, none, .conv (.toInt .u8) (.t 17)⟩, ⟨some 19, none, .buildSl false 1 1 (.int .u8 0) [(0, (.t 18))] false⟩, ⟨some 20, none, .app false false 1 1 (.t 12) (.t 19) true⟩, mvT 3 20])) (.ops 4 [mvF 10 4, ⟨some 11, none, .bin .add .no (.t 10) (.c (.int .i64 1))⟩, mvF 4 11])))))) (.seq (.ops 6 [mvT 21 3, ⟨some 22, none, .conv .bytesStr (.t 21)⟩, mvF 2 22]) .ret))))⟩
theorem ok_c_Z1l : chkFn Tryz.prog 60 c_Z1l = true := chkFn_of Tryz.func60 (by kernel_rfl)
def b_Z1l_0 (M : Mach) (n0 : Nat) (n1 : Nat) (r1 : Rk) (z0 z3 z4 : V) (σ : Objs) : Ro :=
 bd (pu (evLenS z0.ng.ng)) fun x1 =>
 bd (pu (eB .lss .no z4.ng.ng x1.ng)) fun x2 =>
  br x2.ng (
 bd (pu (evIdx z4.ng.ng z0.ng.ng)) fun x3 =>
 bd (pu (eC σ (.toInt .i64) x3.ng)) fun x4 =>
 bd (M.call 92 [x4.ng] σ) fun p5 =>
 bd (pu (eC p5.2 (.toInt .u8) p5.1.ng)) fun x6 =>
 bd (buildFV false 1 1 (.int .u8 0) [(0, x6.ng)]) fun x7 =>
 bd (appV false false 1 1 p5.2 z3 x7.ng) fun x8 =>
 bd (pu (eB .add .no z4.ng.ng (.int .i64 1))) fun x9 =>
 bd (fz n1 p5.2 fzD z0) fun y10 =>
 bd (fz n1 p5.2 fzD x8) fun y11 =>
 bd (fz n1 p5.2 fzD x9.ng) fun y12 =>
 bd (cuO n1 p5.2) fun s13 => r1 [y10, y11, y12] s13) (
 bd (fz n1 σ fzD .any) fun y14 =>
 bd (fz n1 σ fzD z3) fun y15 =>
 bd (cuO n1 σ) fun s16 =>
 bd (pu (eC s16 .bytesStr y15.ng)) fun x17 =>
 bd (oK false x17.ng) (nK n0 s16))
def l_Z1l_0 (M : Mach) (n0 : Nat) (n1 : Nat) : Rk := M.fx fun rec vs σ => b_Z1l_0 M n0 n1 rec (vs.getD 0 .undef) (vs.getD 1 .undef) (vs.getD 2 .undef) σ
def s_Z1l (M : Mach) (a0 : V) (σ : Objs) : Ro :=
 bd (buildFV false 1 0 .any []) fun x0 =>
 bd (fz σ.length σ fzD a0) fun y18 =>
 bd (fz σ.length σ fzD x0) fun y19 =>
 bd (fz σ.length σ fzD (.int .i64 0)) fun y20 =>
  l_Z1l_0 M σ.length σ.length [y18, y19, y20] σ
theorem k_Z1l (M : Mach) (a0 : V) (σ : Objs) : fnK M c_Z1l [a0] σ = s_Z1l M a0 σ := by kernel_rfl
def c_Zm : Ev.Fn := ⟨5, [.tmp 2], false, false, (.seq (.ops 0 [⟨some 2, none, .mv (.c (.str [])) false⟩]) (.seq (.ops 1 [mvF 3 0, ⟨some 4, none, .call 95 [(.t 3), (.c (.int .i64 10))]⟩, mvF 2 4]) .ret))⟩
theorem ok_c_Zm : chkFn Tryz.prog 68 c_Zm = true := chkFn_of Tryz.func68 (by kernel_rfl)
def s_Zm (M : Mach) (a0 : V) (σ : Objs) : Ro :=
 bd (M.call 95 [a0.ng.ng, (.int .i64 10)] σ) fun p0 =>
 bd (oK false p0.1.ng) (nK σ.length p0.2)
theorem k_Zm (M : Mach) (a0 : V) (σ : Objs) : fnK M c_Zm [a0] σ = s_Zm M a0 σ := by kernel_rfl
def c_Z1j : Ev.Fn := ⟨24, [.tmp 4], false, false, (.seq (.ops 0 [⟨some 4, none, .mv (.c (.str [])) false⟩]) (.seq (.ops 1 [⟨some 5, none, .mv (.c (.str [48, 49, 50, 51, 52, 53, 54, 55, 56, 57, 97, 98, 99, 100, 101, 102])) false⟩, ⟨some 6, none, .mv (.c (.str [])) false⟩]) (.block 0 (.loop [0, 1, 5, 6] [4] (.block 1 (.seq (.drw 2 [⟨mvF 7 5, 0, []⟩, ⟨mvF 8 0, 1, []⟩, ⟨mvF 9 1, 2, []⟩, ⟨⟨some 10, none, .bin .rem .no (.t 8) (.t 9)⟩, 3, []⟩, ⟨mvF 11 0, 4, []⟩, ⟨mvF 12 1, 5, []⟩, ⟨⟨some 13, none, .bin .rem .no (.t 11) (.t 12)⟩, 6, []⟩, ⟨⟨some 14, none, .bin .add .no (.t 13) (.c (.int .i64 1))⟩, 7, []⟩, ⟨⟨some 15, none, .cutS (.t 7) (some (.t 10)) (some (.t 14))⟩, 8, []⟩, ⟨mvF 16 6, 9, []⟩, ⟨⟨some 17, none, .bin .add .no (.t 15) (.t 16)⟩, 10, []⟩, ⟨mvF 6 17, 11, []⟩]) (.seq (.ops 3 [mvF 18 0, mvF 19 1, ⟨some 20, none, .bin .quo .no (.t 18) (.t 19)⟩, mvF 0 20]) (.seq (.ops 4 [mvF 21 0, ⟨some 22, none, .bin .eql .no (.t 21) (.c (.int .i64 0))⟩]) (.cond (.t 22) (.seq (.ops 5 [mvF 23 6, mvF 4 23]) .ret) .skip)))))))))⟩
theorem ok_c_Z1j : chkFn Tryz.prog 69 c_Z1j = true := chkFn_of Tryz.func69 (by kernel_rfl)
def b_Z1j_0 (M : Mach) (n0 : Nat) (n1 : Nat) (r1 : Rk) (z0 z1 z5 z6 : V) (σ : Objs) : Ro :=
 bd (pu (eB .rem .no z0.ng.ng z1.ng.ng)) fun x0 =>
 bd (pu (eB .rem .no z0.ng.ng z1.ng.ng)) fun x1 =>
 bd (pu (eB .add .no x1.ng (.int .i64 1))) fun x2 =>
 bd (pu (evCutS z5.ng.ng (some x0.ng) (some x2.ng))) fun x3 =>
 bd (pu (eB .add .no x3.ng z6.ng.ng)) fun x4 =>
 bd (pu (eB .quo .no z0.ng.ng z1.ng.ng)) fun x5 =>
 bd (pu (eB .eql .no x5.ng.ng.ng (.int .i64 0))) fun x6 =>
  br x6.ng (
 bd (fz n1 σ fzD x4.ng.ng.ng) fun y7 =>
 bd (cuO n1 σ) fun s8 =>
 bd (oK false y7) (nK n0 s8)) (
 bd (fz n1 σ fzD x5.ng) fun y9 =>
 bd (fz n1 σ fzD z1) fun y10 =>
 bd (fz n1 σ fzD z5) fun y11 =>
 bd (fz n1 σ fzD x4.ng) fun y12 =>
 bd (cuO n1 σ) fun s13 => r1 [y9, y10, y11, y12] s13)
def l_Z1j_0 (M : Mach) (n0 : Nat) (n1 : Nat) : Rk := M.fx fun rec vs σ => b_Z1j_0 M n0 n1 rec (vs.getD 0 .undef) (vs.getD 1 .undef) (vs.getD 2 .undef) (vs.getD 3 .undef) σ
def s_Z1j (M : Mach) (a0 a1 : V) (σ : Objs) : Ro :=
 bd (fz σ.length σ fzD a0) fun y14 =>
 bd (fz σ.length σ fzD a1) fun y15 =>
 bd (fz σ.length σ fzD (.str [48, 49, 50, 51, 52, 53, 54, 55, 56, 57, 97, 98, 99, 100, 101, 102])) fun y16 =>
 bd (fz σ.length σ fzD (.str [])) fun y17 =>
  l_Z1j_0 M σ.length σ.length [y14, y15, y16, y17] σ
theorem k_Z1j (M : Mach) (a0 a1 : V) (σ : Objs) : fnK M c_Z1j [a0, a1] σ = s_Z1j M a0 a1 σ := by kernel_rfl
def c_Z1h : Ev.Fn := ⟨16, [.tmp 2], false, false, (.seq (.ops 0 [⟨some 2, none, .mv (.c (.bool false)) false⟩]) (.seq (.ops 1 [mvF 4 0, ⟨some 5, none, .call 87 [.t 4]⟩, mvF 3 5]) (.seq (.drw 2 [⟨mvF 6 3, 0, []⟩, ⟨⟨some 7, none, .call 51 [.t 6]⟩, 1, []⟩, ⟨mvF 8 7, 2, []⟩, ⟨⟨some 9, (some (8, true)), .mv (.t 3) false⟩, 3, []⟩, ⟨⟨some 12, (some (8, true)), .mv (.t 0) true⟩, 6, []⟩, ⟨⟨some 13, (some (8, true)), .conv .bytesStrN (.t 12)⟩, 7, []⟩, ⟨⟨some 10, (some (8, true)), .call 103 [.t 9]⟩, 4, []⟩, ⟨⟨some 11, (some (8, true)), .conv .bytesStrN (.t 10)⟩, 5, []⟩, ⟨⟨some 14, (some (8, true)), .bin .eql .no (.t 11) (.t 13)⟩, 8, []⟩, ⟨⟨some 15, none, .pick (.t 8) (.t 14) (.c (.bool false))⟩, 9, []⟩, ⟨mvF 2 15, 10, []⟩]) .ret)))⟩
theorem ok_c_Z1h : chkFn Tryz.prog 86 c_Z1h = true := chkFn_of Tryz.func86 (by kernel_rfl)
def s_Z1h (M : Mach) (a0 : V) (σ : Objs) : Ro :=
 bd (M.call 87 [a0.ng.ng] σ) fun p0 =>
 bd (M.call 51 [p0.1.ng.ng.ng] p0.2) fun p1 =>
 bd (gdv p1.1.ng true (some p0.1.ng.ng)) fun x2 =>
  gd p1.1.ng true (
 bd (gdv p1.1.ng true (pu (eC p1.2 .bytesStrN a0.ng))) fun x3 =>
 bd (gdp p1.1.ng true (M.call 103 [x2.ng] p1.2) p1.2) fun p4 =>
 bd (gdv p1.1.ng true (pu (eC p4.2 .bytesStrN p4.1.ng))) fun x5 =>
 bd (gdv p1.1.ng true (pu (eB .eql .no x5.ng x3.ng))) fun x6 =>
 bd (pu (pV p1.1.ng.ng x6.ng (.bool false))) fun x7 =>
 bd (oK false x7.ng) (nK σ.length p4.2)) (
 bd (gdv p1.1.ng true (pu (eC p1.2 .bytesStrN .undef))) fun x8 =>
 bd (gdp p1.1.ng true (M.call 103 [x2.ng] p1.2) p1.2) fun p9 =>
 bd (gdv p1.1.ng true (pu (eC p9.2 .bytesStrN p9.1.ng))) fun x10 =>
 bd (gdv p1.1.ng true (pu (eB .eql .no x10.ng x8.ng))) fun x11 =>
 bd (pu (pV p1.1.ng.ng x11.ng (.bool false))) fun x12 =>
 bd (oK false x12.ng) (nK σ.length p9.2))
theorem k_Z1h (M : Mach) (a0 : V) (σ : Objs) : fnK M c_Z1h [a0] σ = s_Z1h M a0 σ := by kernel_rfl
def c_Z1g : Ev.Fn := ⟨33, [.tmp 2], false, false, (.seq (.ops 0 [⟨some 2, none, .mv (.c (.int .i64 0)) false⟩]) (.seq (.ops 1 [⟨some 6, none, .buildSl false 1 5 (.int .i64 0) [(0, (.c (.int .i64 0))), (1, (.c (.int .i64 0))), (2, (.c (.int .i64 192))), (3, (.c (.int .i64 224))), (4, (.c (.int .i64 240)))] false⟩, mvT 3 6]) (.seq (.drw 2 [⟨mvF 7 0, 0, []⟩, ⟨⟨some 8, none, .iaddr 1 (.t 7) (.c (.int .i64 0))⟩, 1, []⟩, ⟨⟨some 9, none, .load false 1 (.t 8)⟩, 2, []⟩, ⟨⟨some 10, none, .conv (.toInt .i64) (.t 9)⟩, 3, []⟩, ⟨mvT 11 3, 4, []⟩, ⟨mvF 12 0, 5, []⟩, ⟨⟨some 13, none, .len (.t 12)⟩, 6, []⟩, ⟨⟨some 14, none, .iaddr 1 (.t 11) (.t 13)⟩, 7, []⟩, ⟨⟨some 15, none, .load false 1 (.t 14)⟩, 8, []⟩, ⟨⟨some 16, none, .bin .sub .no (.t 10) (.t 15)⟩, 9, []⟩, ⟨mvF 4 16, 10, []⟩]) (.seq (.seq (.ops 3 [⟨some 5, none, .mv (.c (.int .i64 1)) false⟩]) (.block 0 (.loop [0, 4, 5] [2, 4] (.seq (.seq (.ops 4 [mvF 17 5, mvF 18 0, ⟨some 19, none, .len (.t 18)⟩, ⟨some 20, none, .bin .lss .no (.t 17) (.t 19)⟩]) (.cond (.t 20) .skip (.exit 0))) (.seq (.block 1 (.ops 6 [mvF 23 4, ⟨some 24, none, .bin .mul .no (.c (.int .i64 64)) (.t 23)⟩, mvF 25 0, mvF 26 5, ⟨some 27, none, .iaddr 1 (.t 25) (.t 26)⟩, ⟨some 28, none, .load false 1 (.t 27)⟩, ⟨some 29, none, .conv (.toInt .i64) (.t 28)⟩, ⟨some 30, none, .bin .add .no (.t 24) (.t 29)⟩, ⟨some 31, none, .bin .sub .no (.t 30) (.c (.int .i64 128))⟩, mvF 4 31])) (.ops 5 [mvF 21 5, ⟨some 22, none, .bin .add .no (.t 21) (.c (.int .i64 1))⟩, mvF 5 22])))))) (.seq (.ops 7 [mvF 32 4, mvF 2 32]) .ret)))))⟩
theorem ok_c_Z1g : chkFn Tryz.prog 87 c_Z1g = true := chkFn_of Tryz.func87 (by kernel_rfl)
def b_Z1g_0 (M : Mach) (n0 : Nat) (n1 : Nat) (r1 : Rk) (z0 z4 z5 : V) (σ : Objs) : Ro :=
 bd (pu (evLen z0.ng.ng)) fun x8 =>
 bd (pu (eB .lss .no z5.ng.ng x8.ng)) fun x9 =>
  br x9.ng (
 bd (pu (eB .mul .no (.int .i64 64) z4.ng.ng)) fun x10 =>
 bd (pu (eI 1 z5.ng.ng z0.ng.ng)) fun x11 =>
 bd (pu (eL σ false 1 x11.ng)) fun x12 =>
 bd (pu (eC σ (.toInt .i64) x12.ng)) fun x13 =>
 bd (pu (eB .add .no x10.ng x13.ng)) fun x14 =>
 bd (pu (eB .sub .no x14.ng (.int .i64 128))) fun x15 =>
 bd (pu (eB .add .no z5.ng.ng (.int .i64 1))) fun x16 =>
 bd (fz n1 σ fzD z0) fun y17 =>
 bd (fz n1 σ fzD x15.ng) fun y18 =>
 bd (fz n1 σ fzD x16.ng) fun y19 =>
 bd (cuO n1 σ) fun s20 => r1 [y17, y18, y19] s20) (
 bd (fz n1 σ fzD .any) fun y21 =>
 bd (fz n1 σ fzD z4) fun y22 =>
 bd (cuO n1 σ) fun s23 =>
 bd (oK false y22.ng.ng) (nK n0 s23))
def l_Z1g_0 (M : Mach) (n0 : Nat) (n1 : Nat) : Rk := M.fx fun rec vs σ => b_Z1g_0 M n0 n1 rec (vs.getD 0 .undef) (vs.getD 1 .undef) (vs.getD 2 .undef) σ
def s_Z1g (M : Mach) (a0 : V) (σ : Objs) : Ro :=
 bd (buildFV false 1 5 (.int .i64 0) [(0, (.int .i64 0)), (1, (.int .i64 0)), (2, (.int .i64 192)), (3, (.int .i64 224)), (4, (.int .i64 240))]) fun x0 =>
 bd (pu (eI 1 (.int .i64 0) a0.ng.ng)) fun x1 =>
 bd (pu (eL σ false 1 x1.ng)) fun x2 =>
 bd (pu (eC σ (.toInt .i64) x2.ng)) fun x3 =>
 bd (pu (evLen a0.ng.ng)) fun x4 =>
 bd (pu (eI 1 x4.ng x0.ng)) fun x5 =>
 bd (pu (eL σ false 1 x5.ng)) fun x6 =>
 bd (pu (eB .sub .no x3.ng x6.ng)) fun x7 =>
 bd (fz σ.length σ fzD a0) fun y24 =>
 bd (fz σ.length σ fzD x7.ng) fun y25 =>
 bd (fz σ.length σ fzD (.int .i64 1)) fun y26 =>
  l_Z1g_0 M σ.length σ.length [y24, y25, y26] σ
theorem k_Z1g (M : Mach) (a0 : V) (σ : Objs) : fnK M c_Z1g [a0] σ = s_Z1g M a0 σ := by kernel_rfl
def c_Z1e : Ev.Fn := ⟨21, [.tmp 2], false, false, (.seq (.ops 0 [⟨some 2, none, .mv (.c (.bool false)) false⟩]) (.seq (.seq (.ops 1 [mvF 4 0, ⟨some 5, none, .len (.t 4)⟩, ⟨some 6, none, .bin .add .no (.t 5) (.c (.int .i64 1))⟩, mvF 3 6]) (.block 0 (.loop [0, 3] [2] (.seq (.seq (.ops 2 [mvF 7 3, ⟨some 8, none, .bin .leq .no (.t 7) (.c (.int .i64 4))⟩]) (.cond (.t 8) .skip (.exit 0))) (.seq (.block 1 (.seq (.ops 4 [mvF 11 0, mvF 12 3, ⟨some 13, none, .call 104 [(.t 11), (.c (.int .u8 128)), (.t 12)]⟩, ⟨some 14, none, .call 86 [.t 13]⟩, mvF 15 14, ⟨some 16, (some (15, false)), .mv (.t 0) false⟩, ⟨some 17, (some (15, false)), .mv (.t 3) false⟩, ⟨some 18, (some (15, false)), .call 104 [(.t 16), (.c (.int .u8 191)), (.t 17)]⟩, ⟨some 19, (some (15, false)), .call 86 [.t 18]⟩, ⟨some 20, none, .pick (.t 15) (.c (.bool true)) (.t 19)⟩]) (.cond (.t 20) (.seq (.ops 5 [⟨some 2, none, .mv (.c (.bool true)) false⟩]) .ret) .skip))) (.ops 3 [mvF 9 3, ⟨some 10, none, .bin .add .no (.t 9) (.c (.int .i64 1))⟩, mvF 3 10])))))) (.seq (.ops 6 [⟨some 2, none, .mv (.c (.bool false)) false⟩]) .ret)))⟩
theorem ok_c_Z1e : chkFn Tryz.prog 88 c_Z1e = true := chkFn_of Tryz.func88 (by kernel_rfl)
def b_Z1e_0 (M : Mach) (n0 : Nat) (n1 : Nat) (r1 : Rk) (z0 z3 : V) (σ : Objs) : Ro :=
 bd (pu (eB .leq .no z3.ng.ng (.int .i64 4))) fun x2 =>
  br x2.ng (
 bd (M.call 104 [z0.ng.ng, (.int .u8 128), z3.ng.ng] σ) fun p3 =>
 bd (M.call 86 [p3.1.ng] p3.2) fun p4 =>
 bd (gdv p4.1.ng false (some z0.ng)) fun x5 =>
 bd (gdv p4.1.ng false (some z3.ng)) fun x6 =>
 bd (gdp p4.1.ng false (M.call 104 [x5.ng, (.int .u8 191), x6.ng] p4.2) p4.2) fun p7 =>
 bd (gdp p4.1.ng false (M.call 86 [p7.1.ng] p7.2) p7.2) fun p8 =>
 bd (pu (pV p4.1.ng.ng (.bool true) p8.1.ng)) fun x9 =>
  br x9.ng (
 bd (fz n1 p8.2 fzD (.bool true)) fun y10 =>
 bd (cuO n1 p8.2) fun s11 =>
 bd (oK false y10) (nK n0 s11)) (
 bd (pu (eB .add .no z3.ng.ng (.int .i64 1))) fun x12 =>
 bd (fz n1 p8.2 fzD z0) fun y13 =>
 bd (fz n1 p8.2 fzD x12.ng) fun y14 =>
 bd (cuO n1 p8.2) fun s15 => r1 [y13, y14] s15)) (
 bd (fz n1 σ fzD .any) fun y16 =>
 bd (cuO n1 σ) fun s17 =>
 bd (oK false (.bool false)) (nK n0 s17))
def l_Z1e_0 (M : Mach) (n0 : Nat) (n1 : Nat) : Rk := M.fx fun rec vs σ => b_Z1e_0 M n0 n1 rec (vs.getD 0 .undef) (vs.getD 1 .undef) σ
def s_Z1e (M : Mach) (a0 : V) (σ : Objs) : Ro :=
 bd (pu (evLen a0.ng.ng)) fun x0 =>
 bd (pu (eB .add .no x0.ng (.int .i64 1))) fun x1 =>
 bd (fz σ.length σ fzD a0) fun y18 =>
 bd (fz σ.length σ fzD x1.ng) fun y19 =>
  l_Z1e_0 M σ.length σ.length [y18, y19] σ
theorem k_Z1e (M : Mach) (a0 : V) (σ : Objs) : fnK M c_Z1e [a0] σ = s_Z1e M a0 σ := by kernel_rfl
def c_Z1w : Ev.Fn := ⟨43, [.tmp 4], false, false, (.seq (.ops 0 [⟨some 4, none, .mv (.c (.int .i64 0)) false⟩]) (.seq (.block 0 (.loop [0, 1] [1, 4] (.seq (.seq (.ops 1 [mvF 5 0, mvF 6 1, ⟨some 7, none, .call 79 [(.t 5), (.t 6), (.c (.int .i64 47))]⟩, mvF 8 7, ⟨some 9, (some (8, true)), .mv (.t 0) false⟩, ⟨some 10, (some (8, true)), .mv (.t 1) false⟩, ⟨some 11, (some (8, true)), .bin .add .no (.t 10) (.c (.int .i64 1))⟩, ⟨some 12, (some (8, true)), .call 79 [(.t 9), (.t 11), (.c (.int .i64 42))]⟩, ⟨some 13, none, .pick (.t 8) (.t 12) (.c (.bool false))⟩]) (.cond (.t 13) .skip (.exit 0))) (.block 1 (.seq (.ops 2 [mvF 14 1, ⟨some 15, none, .bin .add .no (.t 14) (.c (.int .i64 2))⟩, mvF 1 15]) (.seq (.block 2 (.loop [0, 1] [0, 1, 4] (.seq (.seq (.ops 3 [mvF 16 1, mvF 17 0, ⟨some 18, none, .len (.t 17)⟩, ⟨some 19, none, .bin .lss .no (.t 16) (.t 18)⟩, mvF 20 19, ⟨some 21, (some (20, true)), .mv (.t 0) false⟩, ⟨some 22, (some (20, true)), .mv (.t 1) false⟩, ⟨some 23, (some (20, true)), .call 79 [(.t 21), (.t 22), (.c (.int .i64 42))]⟩, ⟨some 24, (some (20, true)), .mv (.t 23) false⟩, ⟨some 25, (some (24, true)), .mv (.t 0) false⟩, ⟨some 26, (some (24, true)), .mv (.t 1) false⟩, ⟨some 27, (some (24, true)), .bin .add .no (.t 26) (.c (.int .i64 1))⟩, ⟨some 28, (some (24, true)), .call 79 [(.t 25), (.t 27), (.c (.int .i64 47))]⟩, ⟨some 29, (some (20, true)), .pick (.t 24) (.t 28) (.c (.bool false))⟩, ⟨some 30, (some (20, true)), .un .not (.t 29)⟩, ⟨some 31, none, .pick (.t 20) (.t 30) (.c (.bool false))⟩]) (.cond (.t 31) .skip (.exit 2))) (.block 3 (.ops 4 [mvF 32 1, ⟨some 33, none, .bin .add .no (.t 32) (.c (.int .i64 1))⟩, mvF 1 33]))))) (.seq (.ops 5 [mvF 34 1, ⟨some 35, none, .bin .add .no (.t 34) (.c (.int .i64 2))⟩, mvF 1 35]) (.seq (.ops 6 [mvF 36 1, mvF 37 0, ⟨some 38, none, .len (.t 37)⟩, ⟨some 39, none, .bin .gtr .no (.t 36) (.t 38)⟩]) (.cond (.t 39) (.ops 7 [mvF 40 0, ⟨some 41, none, .len (.t 40)⟩, mvF 1 41]) .skip))))))))) (.seq (.ops 8 [mvF 42 1, mvF 4 42]) .ret)))⟩
theorem ok_c_Z1w : chkFn Tryz.prog 73 c_Z1w = true := chkFn_of Tryz.func73 (by kernel_rfl)
def j_Z1w_0 (M : Mach) (n0 : Nat) (n1 : Nat) (r1 : Rk) (z0 z1 : V) (σ : Objs) : Ro :=
 bd (fz n1 σ fzD z0) fun y0 =>
 bd (fz n1 σ fzD z1) fun y1 =>
 bd (cuO n1 σ) fun s2 => r1 [y0, y1] s2
def b_Z1w_1 (M : Mach) (n0 : Nat) (n1 : Nat) (r1 : Rk) (n2 : Nat) (r2 : Rk) (z0 z1 : V) (σ : Objs) : Ro :=
 bd (pu (evLen z0.ng.ng)) fun x10 =>
 bd (pu (eB .lss .no z1.ng.ng x10.ng)) fun x11 =>
 bd (gdv x11.ng true (some z0.ng)) fun x12 =>
 bd (gdv x11.ng true (some z1.ng)) fun x13 =>
 bd (gdp x11.ng true (M.call 79 [x12.ng, x13.ng, (.int .i64 42)] σ) σ) fun p14 =>
 bd (gdv x11.ng true (some p14.1.ng)) fun x15 =>
 bd (gdv x15 true (some z0.ng)) fun x16 =>
 bd (gdv x15 true (some z1.ng)) fun x17 =>
 bd (gdv x15 true (pu (eB .add .no x17.ng (.int .i64 1)))) fun x18 =>
 bd (gdp x15 true (M.call 79 [x16.ng, x18.ng, (.int .i64 47)] p14.2) p14.2) fun p19 =>
 bd (gdv x11.ng true (pu (pV x15.ng p19.1.ng (.bool false)))) fun x20 =>
 bd (gdv x11.ng true (pu (evUn .not x20.ng))) fun x21 =>
 bd (pu (pV x11.ng.ng x21.ng (.bool false))) fun x22 =>
  br x22.ng (
 bd (pu (eB .add .no z1.ng.ng (.int .i64 1))) fun x23 =>
 bd (fz n2 p19.2 fzD z0) fun y24 =>
 bd (fz n2 p19.2 fzD x23.ng) fun y25 =>
 bd (cuO n2 p19.2) fun s26 => r2 [y24, y25] s26) (
 bd (fz n2 p19.2 fzD z0) fun y27 =>
 bd (fz n2 p19.2 fzD z1) fun y28 =>
 bd (fz n2 p19.2 fzD .any) fun y29 =>
 bd (cuO n2 p19.2) fun s30 =>
 bd (pu (eB .add .no y28.ng.ng (.int .i64 2))) fun x31 =>
 bd (pu (evLen y27.ng.ng)) fun x32 =>
 bd (pu (eB .gtr .no x31.ng.ng.ng x32.ng)) fun x33 =>
  br x33.ng (
 bd (pu (evLen y27.ng.ng)) fun x34 =>
  j_Z1w_0 M n0 n1 r1 y27 x34.ng s30) (
  j_Z1w_0 M n0 n1 r1 y27 x31.ng s30))
def l_Z1w_1 (M : Mach) (n0 : Nat) (n1 : Nat) (r1 : Rk) (n2 : Nat) : Rk := M.fx fun rec vs σ => b_Z1w_1 M n0 n1 r1 n2 rec (vs.getD 0 .undef) (vs.getD 1 .undef) σ
def b_Z1w_0 (M : Mach) (n0 : Nat) (n1 : Nat) (r1 : Rk) (z0 z1 : V) (σ : Objs) : Ro :=
 bd (M.call 79 [z0.ng.ng, z1.ng.ng, (.int .i64 47)] σ) fun p3 =>
 bd (gdv p3.1.ng true (some z0.ng)) fun x4 =>
 bd (gdv p3.1.ng true (some z1.ng)) fun x5 =>
 bd (gdv p3.1.ng true (pu (eB .add .no x5.ng (.int .i64 1)))) fun x6 =>
 bd (gdp p3.1.ng true (M.call 79 [x4.ng, x6.ng, (.int .i64 42)] p3.2) p3.2) fun p7 =>
 bd (pu (pV p3.1.ng.ng p7.1.ng (.bool false))) fun x8 =>
  br x8.ng (
 bd (pu (eB .add .no z1.ng.ng (.int .i64 2))) fun x9 =>
 bd (fz p7.2.length p7.2 fzD z0) fun y35 =>
 bd (fz p7.2.length p7.2 fzD x9.ng) fun y36 =>
  l_Z1w_1 M n0 n1 r1 p7.2.length [y35, y36] p7.2) (
 bd (fz n1 p7.2 fzD z1) fun y37 =>
 bd (fz n1 p7.2 fzD .any) fun y38 =>
 bd (cuO n1 p7.2) fun s39 =>
 bd (oK false y37.ng.ng) (nK n0 s39))
def l_Z1w_0 (M : Mach) (n0 : Nat) (n1 : Nat) : Rk := M.fx fun rec vs σ => b_Z1w_0 M n0 n1 rec (vs.getD 0 .undef) (vs.getD 1 .undef) σ
def s_Z1w (M : Mach) (a0 a1 : V) (σ : Objs) : Ro :=
 bd (fz σ.length σ fzD a0) fun y40 =>
 bd (fz σ.length σ fzD a1) fun y41 =>
  l_Z1w_0 M σ.length σ.length [y40, y41] σ
theorem k_Z1w (M : Mach) (a0 a1 : V) (σ : Objs) : fnK M c_Z1w [a0, a1] σ = s_Z1w M a0 a1 σ := by kernel_rfl
def c_Z1o : Ev.Fn := ⟨13, [.tmp 2], false, false, (.seq (.ops 0 [⟨some 2, none, .mv (.c (.bool false)) false⟩]) (.seq (.ops 1 [mvF 3 0, ⟨some 4, none, .bin .eql .no (.t 3) (.c (.int .i64 32))⟩, mvF 5 4, ⟨some 6, (some (5, false)), .mv (.t 0) false⟩, ⟨some 7, (some (5, false)), .bin .eql .no (.t 6) (.c (.int .i64 9))⟩, ⟨some 8, none, .pick (.t 5) (.c (.bool true)) (.t 7)⟩, mvF 9 8, ⟨some 10, (some (9, false)), .mv (.t 0) false⟩, ⟨some 11, (some (9, false)), .bin .eql .no (.t 10) (.c (.int .i64 10))⟩, ⟨some 12, none, .pick (.t 9) (.c (.bool true)) (.t 11)⟩, mvF 2 12]) .ret))⟩
theorem ok_c_Z1o : chkFn Tryz.prog 74 c_Z1o = true := chkFn_of Tryz.func74 (by kernel_rfl)
def s_Z1o (M : Mach) (a0 : V) (σ : Objs) : Ro :=
 bd (pu (eB .eql .no a0.ng.ng (.int .i64 32))) fun x0 =>
 bd (gdv x0.ng false (some a0.ng)) fun x1 =>
 bd (gdv x0.ng false (pu (eB .eql .no x1.ng (.int .i64 9)))) fun x2 =>
 bd (pu (pV x0.ng.ng (.bool true) x2.ng)) fun x3 =>
 bd (gdv x3.ng false (some a0.ng)) fun x4 =>
 bd (gdv x3.ng false (pu (eB .eql .no x4.ng (.int .i64 10)))) fun x5 =>
 bd (pu (pV x3.ng.ng (.bool true) x5.ng)) fun x6 =>
 bd (oK false x6.ng) (nK σ.length σ)
theorem k_Z1o (M : Mach) (a0 : V) (σ : Objs) : fnK M c_Z1o [a0] σ = s_Z1o M a0 σ := by kernel_rfl
def c_Z28 : Ev.Fn := ⟨16, [.tmp 4], false, false, (.seq (.ops 0 [⟨some 4, none, .mv (.c (.bool false)) false⟩]) (.seq (.ops 1 [mvF 5 1, mvF 6 0, ⟨some 7, none, .len (.t 6)⟩, ⟨some 8, none, .bin .lss .no (.t 5) (.t 7)⟩, mvF 9 8, ⟨some 10, (some (9, true)), .mv (.t 0) true⟩, ⟨some 11, (some (9, true)), .mv (.t 1) false⟩, ⟨some 12, (some (9, true)), .iaddr 1 (.t 10) (.t 11)⟩, ⟨some 13, (some (9, true)), .load false 1 (.t 12)⟩, ⟨some 14, (some (9, true)), .call 74 [.t 13]⟩, ⟨some 15, none, .pick (.t 9) (.t 14) (.c (.bool false))⟩, mvF 4 15]) .ret))⟩
theorem ok_c_Z28 : chkFn Tryz.prog 75 c_Z28 = true := chkFn_of Tryz.func75 (by kernel_rfl)
def s_Z28 (M : Mach) (a0 a1 : V) (σ : Objs) : Ro :=
 bd (pu (evLen a0.ng.ng)) fun x0 =>
 bd (pu (eB .lss .no a1.ng.ng x0.ng)) fun x1 =>
  gd x1.ng true (
 bd (gdv x1.ng true (some a1.ng)) fun x2 =>
 bd (gdv x1.ng true (pu (eI 1 x2.ng a0.ng))) fun x3 =>
 bd (gdv x1.ng true (pu (eL σ false 1 x3.ng))) fun x4 =>
 bd (gdp x1.ng true (M.call 74 [x4.ng] σ) σ) fun p5 =>
 bd (pu (pV x1.ng.ng p5.1.ng (.bool false))) fun x6 =>
 bd (oK false x6.ng) (nK σ.length p5.2)) (
 bd (gdv x1.ng true (some a1.ng)) fun x7 =>
 bd (gdv x1.ng true (pu (eI 1 x7.ng .undef))) fun x8 =>
 bd (gdv x1.ng true (pu (eL σ false 1 x8.ng))) fun x9 =>
 bd (gdp x1.ng true (M.call 74 [x9.ng] σ) σ) fun p10 =>
 bd (pu (pV x1.ng.ng p10.1.ng (.bool false))) fun x11 =>
 bd (oK false x11.ng) (nK σ.length p10.2))
theorem k_Z28 (M : Mach) (a0 a1 : V) (σ : Objs) : fnK M c_Z28 [a0, a1] σ = s_Z28 M a0 a1 σ := by kernel_rfl
def c_Z26 : Ev.Fn := ⟨93, [.cell 4 true 6], false, false, (.seq (.ops 0 [⟨some 4, none, .alloc [(.int .i64 0), (.int .i64 0), (.int .i64 0), (.str []), (.str []), (.bool false)]⟩]) (.seq (.drw 1 [⟨mvF 11 1, 0, []⟩, ⟨⟨some 12, none, .build [(.int .i64 0), (.int .i64 0), (.int .i64 0), (.str []), (.str []), (.bool false)] [(0, 1, (.c (.int .i64 5))), (1, 1, (.t 11))]⟩, 1, []⟩, ⟨mvF 13 0, 2, []⟩, ⟨mvF 14 1, 3, []⟩, ⟨⟨some 15, none, .iaddr 1 (.t 13) (.t 14)⟩, 4, []⟩, ⟨⟨some 16, none, .load false 1 (.t 15)⟩, 5, []⟩, ⟨⟨some 17, none, .buildSl false 1 0 .any [] false⟩, 6, []⟩, ⟨mvF 18 1, 7, []⟩, ⟨⟨some 19, none, .bin .add .no (.t 18) (.c (.int .i64 1))⟩, 8, []⟩, ⟨⟨some 5, none, .alloc [(.int .i64 0), (.int .i64 0), (.int .i64 0), (.str []), (.str []), (.bool false)]⟩, 9, []⟩, ⟨⟨none, none, .store 6 (.t 5) (.t 12) false⟩, 10, [5]⟩, ⟨mvF 6 16, 11, []⟩, ⟨mvT 7 17, 12, []⟩, ⟨mvF 8 19, 13, []⟩]) (.seq (.block 0 (.loop [0, 1, 4, 5, 6, 7, 8] [0, 4, 5, 7, 8] (.seq (.seq (.ops 2 [mvF 20 8, mvF 21 0, ⟨some 22, none, .len (.t 21)⟩, ⟨some 23, none, .bin .lss .no (.t 20) (.t 22)⟩, mvF 24 23, ⟨some 25, (some (24, true)), .mv (.t 0) false⟩, ⟨some 26, (some (24, true)), .mv (.t 8) false⟩, ⟨some 27, (some (24, true)), .iaddr 1 (.t 25) (.t 26)⟩, ⟨some 28, (some (24, true)), .load false 1 (.t 27)⟩, ⟨some 29, (some (24, true)), .mv (.t 6) false⟩, ⟨some 30, (some (24, true)), .bin .neq .no (.t 28) (.t 29)⟩, ⟨some 31, none, .pick (.t 24) (.t 30) (.c (.bool false))⟩]) (.cond (.t 31) .skip (.exit 0))) (.block 1 (.seq (.seq (.ops 3 [mvF 32 0, mvF 33 8, ⟨some 34, none, .iaddr 1 (.t 32) (.t 33)⟩, ⟨some 35, none, .load false 1 (.t 34)⟩, ⟨some 36, none, .bin .eql .no (.t 35) (.c (.int .i64 10))⟩]) (.cond (.t 36) (.seq (.ops 4 [mvF 37 1, mvF 38 8, ⟨some 39, none, .build [(.int .i64 0), (.int .i64 0), (.int .i64 0), (.str []), (.str []), (.bool false)] [(0, 1, (.c (.int .i64 6))), (1, 1, (.t 37)), (2, 1, (.t 38))]⟩, ⟨none, none, .store 6 (.t 4) (.t 39) false⟩]) .ret) .skip)) (.seq (.ops 5 [mvF 40 0, mvF 41 8, ⟨some 42, none, .iaddr 1 (.t 40) (.t 41)⟩, ⟨some 43, none, .load false 1 (.t 42)⟩, ⟨some 44, none, .bin .neq .no (.t 43) (.c (.int .i64 92))⟩]) (.cond (.t 44) (.seq (.ops 6 [mvT 45 7, mvF 46 0, mvF 47 8, ⟨some 48, none, .iaddr 1 (.t 46) (.t 47)⟩, ⟨some 49, none, .load false 1 (.t 48)⟩, ⟨some 50, none, .buildSl false 1 1 (.int .i64 0) [(0, (.t 49))] false⟩, ⟨some 51, none, .app false false 1 8 (.t 45) (.t 50) true⟩, mvT 7 51]) (.ops 7 [mvF 52 8, ⟨some 53, none, .bin .add .no (.t 52) (.c (.int .i64 1))⟩, mvF 8 53])) (.seq (.ops 8 [mvF 54 8, ⟨some 55, none, .bin .add .no (.t 54) (.c (.int .i64 1))⟩, mvF 56 0, ⟨some 57, none, .len (.t 56)⟩, ⟨some 58, none, .bin .eql .no (.t 55) (.t 57)⟩]) (.cond (.t 58) (.ops 9 [mvF 59 8, ⟨some 60, none, .bin .add .no (.t 59) (.c (.int .i64 1))⟩, mvF 8 60]) (.seq (.ops 10 [mvF 61 0, mvF 62 8, ⟨some 63, none, .bin .add .no (.t 62) (.c (.int .i64 1))⟩, ⟨some 64, none, .iaddr 1 (.t 61) (.t 63)⟩, ⟨some 65, none, .load false 1 (.t 64)⟩, ⟨some 66, none, .bin .eql .no (.t 65) (.c (.int .i64 10))⟩]) (.cond (.t 66) (.ops 11 [mvF 67 8, ⟨some 68, none, .bin .add .no (.t 67) (.c (.int .i64 2))⟩, mvF 8 68]) (.seq (.ops 12 [mvF 70 0, mvF 71 8, ⟨some 72, none, .call 96 [(.t 70), (.t 71)]⟩, mvF 69 72, ⟨some 73, none, .extr (.t 69) 0⟩, ⟨some 74, none, .extr (.t 69) 1⟩, mvF 9 73, mvF 10 74]) (.seq (.ops 13 [mvT 75 7, mvF 76 9, ⟨some 77, none, .buildSl false 1 1 (.int .i64 0) [(0, (.t 76))] false⟩, ⟨some 78, none, .app false false 1 8 (.t 75) (.t 77) true⟩, mvT 7 78]) (.ops 14 [mvF 79 10, mvF 8 79])))))))))))))) (.seq (.ops 15 [mvT 80 7, ⟨some 81, none, .call 85 [.t 80]⟩, ⟨some 82, none, .faddr 3 (.t 5)⟩, ⟨none, none, .store 1 (.t 82) (.t 81) false⟩]) (.seq (.ops 16 [mvF 83 8, ⟨some 84, none, .faddr 2 (.t 5)⟩, ⟨none, none, .store 1 (.t 84) (.t 83) false⟩]) (.seq (.seq (.ops 17 [mvF 85 8, mvT 86 0, ⟨some 87, none, .len (.t 86)⟩, ⟨some 88, none, .bin .lss .no (.t 85) (.t 87)⟩]) (.cond (.t 88) (.ops 18 [mvF 89 8, ⟨some 90, none, .bin .add .no (.t 89) (.c (.int .i64 1))⟩, ⟨some 91, none, .faddr 2 (.t 5)⟩, ⟨none, none, .store 1 (.t 91) (.t 90) false⟩]) .skip)) (.seq (.ops 19 [⟨some 92, none, .load true 6 (.t 5)⟩, ⟨none, none, .store 6 (.t 4) (.t 92) false⟩]) .ret)))))))⟩
theorem ok_c_Z26 : chkFn Tryz.prog 76 c_Z26 = true := chkFn_of Tryz.func76 (by kernel_rfl)
def j_Z26_0 (M : Mach) (n0 : Nat) (n1 : Nat) (r1 : Rk) (z0 z1 z4 z5 z6 z7 z8 : V) (σ : Objs) : Ro :=
 bd (fz n1 σ fzD z0) fun y10 =>
 bd (fz n1 σ fzD z1) fun y11 =>
 bd (fz n1 σ fzD z4) fun y12 =>
 bd (fz n1 σ fzD z5) fun y13 =>
 bd (fz n1 σ fzD z6) fun y14 =>
 bd (fz n1 σ fzD z7) fun y15 =>
 bd (fz n1 σ fzD z8) fun y16 =>
 bd (cuO n1 σ) fun s17 => r1 [y10, y11, y12, y13, y14, y15, y16] s17
def j_Z26_1 (M : Mach) (n0 : Nat) (z4 z5 : V) (σ : Objs) : Ro :=
 bd (pu (eL σ true 6 z5.ng)) fun x72 =>
 bd (stV σ 6 z4.ng x72.ng x72.ng) fun p73 =>
 bd (resC p73.2 true 6 z4) fun x74 =>
 bd (oK false x74) (nK n0 p73.2)
def b_Z26_0 (M : Mach) (n0 : Nat) (n1 : Nat) (r1 : Rk) (z0 z1 z4 z5 z6 z7 z8 : V) (σ : Objs) : Ro :=
 bd (pu (evLen z0.ng.ng)) fun x18 =>
 bd (pu (eB .lss .no z8.ng.ng x18.ng)) fun x19 =>
 bd (gdv x19.ng true (some z0.ng)) fun x20 =>
 bd (gdv x19.ng true (some z8.ng)) fun x21 =>
 bd (gdv x19.ng true (pu (eI 1 x21.ng x20.ng))) fun x22 =>
 bd (gdv x19.ng true (pu (eL σ false 1 x22.ng))) fun x23 =>
 bd (gdv x19.ng true (some z6.ng)) fun x24 =>
 bd (gdv x19.ng true (pu (eB .neq .no x23.ng x24.ng))) fun x25 =>
 bd (pu (pV x19.ng.ng x25.ng (.bool false))) fun x26 =>
  br x26.ng (
 bd (pu (eI 1 z8.ng.ng z0.ng.ng)) fun x27 =>
 bd (pu (eL σ false 1 x27.ng)) fun x28 =>
 bd (pu (eB .eql .no x28.ng (.int .i64 10))) fun x29 =>
  br x29.ng (
 bd (pu (buildV [(.int .i64 0), (.int .i64 0), (.int .i64 0), (.str []), (.str []), (.bool false)] [(0, 1, (.int .i64 6)), (1, 1, z1.ng.ng), (2, 1, z8.ng.ng)])) fun x30 =>
 bd (stV σ 6 z4.ng x30.ng x30.ng) fun p31 =>
 bd (fz n1 p31.2 fzD z0) fun y32 =>
 bd (fz n1 p31.2 fzD z4) fun y33 =>
 bd (fz n1 p31.2 fzD z5) fun y34 =>
 bd (fz n1 p31.2 fzD z7) fun y35 =>
 bd (fz n1 p31.2 fzD z8) fun y36 =>
 bd (cuO n1 p31.2) fun s37 =>
 bd (resC s37 true 6 y33) fun x38 =>
 bd (oK false x38) (nK n0 s37)) (
 bd (pu (eI 1 z8.ng.ng z0.ng.ng)) fun x39 =>
 bd (pu (eL σ false 1 x39.ng)) fun x40 =>
 bd (pu (eB .neq .no x40.ng (.int .i64 92))) fun x41 =>
  br x41.ng (
 bd (pu (eI 1 z8.ng.ng z0.ng.ng)) fun x42 =>
 bd (pu (eL σ false 1 x42.ng)) fun x43 =>
 bd (buildFV false 1 1 (.int .i64 0) [(0, x43.ng)]) fun x44 =>
 bd (appV false false 1 8 σ z7 x44.ng) fun x45 =>
 bd (pu (eB .add .no z8.ng.ng (.int .i64 1))) fun x46 =>
  j_Z26_0 M n0 n1 r1 z0 z1 z4 z5 z6 x45 x46.ng σ) (
 bd (pu (eB .add .no z8.ng.ng (.int .i64 1))) fun x47 =>
 bd (pu (evLen z0.ng.ng)) fun x48 =>
 bd (pu (eB .eql .no x47.ng x48.ng)) fun x49 =>
  br x49.ng (
 bd (pu (eB .add .no z8.ng.ng (.int .i64 1))) fun x50 =>
  j_Z26_0 M n0 n1 r1 z0 z1 z4 z5 z6 z7 x50.ng σ) (
 bd (pu (eB .add .no z8.ng.ng (.int .i64 1))) fun x51 =>
 bd (pu (eI 1 x51.ng z0.ng.ng)) fun x52 =>
 bd (pu (eL σ false 1 x52.ng)) fun x53 =>
 bd (pu (eB .eql .no x53.ng (.int .i64 10))) fun x54 =>
  br x54.ng (
 bd (pu (eB .add .no z8.ng.ng (.int .i64 2))) fun x55 =>
  j_Z26_0 M n0 n1 r1 z0 z1 z4 z5 z6 z7 x55.ng σ) (
 bd (M.call 96 [z0.ng.ng, z8.ng.ng] σ) fun p56 =>
 bd (pu (eX 0 p56.1.ng.ng)) fun x57 =>
 bd (pu (eX 1 p56.1.ng.ng)) fun x58 =>
 bd (buildFV false 1 1 (.int .i64 0) [(0, x57.ng.ng.ng)]) fun x59 =>
 bd (appV false false 1 8 p56.2 z7 x59.ng) fun x60 =>
  j_Z26_0 M n0 n1 r1 z0 z1 z4 z5 z6 x60 x58.ng.ng.ng p56.2))))) (
 bd (fz n1 σ fzD z0) fun y61 =>
 bd (fz n1 σ fzD z4) fun y62 =>
 bd (fz n1 σ fzD z5) fun y63 =>
 bd (fz n1 σ fzD z7) fun y64 =>
 bd (fz n1 σ fzD z8) fun y65 =>
 bd (cuO n1 σ) fun s66 =>
 bd (M.call 85 [y64.ng] s66) fun p67 =>
 bd (pu (eF 3 y63.ng)) fun x68 =>
 bd (stV p67.2 1 x68.ng p67.1.ng p67.1.ng) fun p69 =>
 bd (pu (eF 2 y63.ng)) fun x70 =>
 bd (stV p69.2 1 x70.ng y65.ng.ng y65.ng.ng) fun p71 =>
 bd (pu (evLen y61.ng)) fun x75 =>
 bd (pu (eB .lss .no y65.ng.ng x75.ng)) fun x76 =>
  br x76.ng (
 bd (pu (eB .add .no y65.ng.ng (.int .i64 1))) fun x77 =>
 bd (pu (eF 2 y63.ng)) fun x78 =>
 bd (stV p71.2 1 x78.ng x77.ng x77.ng) fun p79 =>
  j_Z26_1 M n0 y62 y63 p79.2) (
  j_Z26_1 M n0 y62 y63 p71.2))
def l_Z26_0 (M : Mach) (n0 : Nat) (n1 : Nat) : Rk := M.fx fun rec vs σ => b_Z26_0 M n0 n1 rec (vs.getD 0 .undef) (vs.getD 1 .undef) (vs.getD 2 .undef) (vs.getD 3 .undef) (vs.getD 4 .undef) (vs.getD 5 .undef) (vs.getD 6 .undef) σ
def s_Z26 (M : Mach) (a0 a1 : V) (σ : Objs) : Ro :=
  let s0 : Objs := σ ++ [.cells [(.int .i64 0), (.int .i64 0), (.int .i64 0), (.str []), (.str []), (.bool false)]]
 bd (pu (buildV [(.int .i64 0), (.int .i64 0), (.int .i64 0), (.str []), (.str []), (.bool false)] [(0, 1, (.int .i64 5)), (1, 1, a1.ng.ng)])) fun x1 =>
 bd (pu (eI 1 a1.ng.ng a0.ng.ng)) fun x2 =>
 bd (pu (eL s0 false 1 x2.ng)) fun x3 =>
 bd (buildFV false 1 0 .any []) fun x4 =>
 bd (pu (eB .add .no a1.ng.ng (.int .i64 1))) fun x5 =>
  let s6 : Objs := s0 ++ [.cells [(.int .i64 0), (.int .i64 0), (.int .i64 0), (.str []), (.str []), (.bool false)]]
 bd (lockS [rdLoad false 1 x2.ng] s6) fun s7 =>
 bd (stV s7 6 (.ptr s0.length 0) x1.ng x1.ng) fun p9 =>
 bd (openS [rdLoad false 1 x2.ng] s6 p9.2) fun s8 =>
 bd (fz s8.length s8 fzD a0) fun y80 =>
 bd (fz s8.length s8 fzD a1) fun y81 =>
 bd (fz s8.length s8 fzD (.ptr σ.length 0)) fun y82 =>
 bd (fz s8.length s8 fzD (.ptr s0.length 0)) fun y83 =>
 bd (fz s8.length s8 fzD x3.ng) fun y84 =>
 bd (fz s8.length s8 fzD x4) fun y85 =>
 bd (fz s8.length s8 fzD x5.ng) fun y86 =>
  l_Z26_0 M σ.length s8.length [y80, y81, y82, y83, y84, y85, y86] s8
theorem k_Z26 (M : Mach) (a0 a1 : V) (σ : Objs) : fnK M c_Z26 [a0, a1] σ = s_Z26 M a0 a1 σ := by kernel_rfl
def c_Z24 : Ev.Fn := ⟨29, [.tmp 4], false, false, (.seq (.ops 0 [⟨some 4, none, .mv (.c (.bool false)) false⟩]) (.seq (.seq (.ops 1 [mvF 5 0, mvF 6 1, ⟨some 7, none, .call 79 [(.t 5), (.t 6), (.c (.int .i64 43))]⟩, mvF 8 7, ⟨some 9, (some (8, false)), .mv (.t 0) false⟩, ⟨some 10, (some (8, false)), .mv (.t 1) false⟩, ⟨some 11, (some (8, false)), .call 79 [(.t 9), (.t 10), (.c (.int .i64 45))]⟩, ⟨some 12, none, .pick (.t 8) (.c (.bool true)) (.t 11)⟩]) (.cond (.t 12) (.ops 2 [mvF 13 1, ⟨some 14, none, .bin .add .no (.t 13) (.c (.int .i64 1))⟩, mvF 1 14]) .skip)) (.seq (.ops 3 [mvF 15 0, mvF 16 1, ⟨some 17, none, .call 97 [(.t 15), (.t 16)]⟩, mvF 18 17, ⟨some 19, (some (18, false)), .mv (.t 0) false⟩, ⟨some 20, (some (18, false)), .mv (.t 1) false⟩, ⟨some 21, (some (18, false)), .call 79 [(.t 19), (.t 20), (.c (.int .i64 46))]⟩, ⟨some 22, (some (18, false)), .mv (.t 21) false⟩, ⟨some 23, (some (22, true)), .mv (.t 0) true⟩, ⟨some 24, (some (22, true)), .mv (.t 1) false⟩, ⟨some 25, (some (22, true)), .bin .add .no (.t 24) (.c (.int .i64 1))⟩, ⟨some 26, (some (22, true)), .call 97 [(.t 23), (.t 25)]⟩, ⟨some 27, (some (18, false)), .pick (.t 22) (.t 26) (.c (.bool false))⟩, ⟨some 28, none, .pick (.t 18) (.c (.bool true)) (.t 27)⟩, mvF 4 28]) .ret)))⟩
theorem ok_c_Z24 : chkFn Tryz.prog 77 c_Z24 = true := chkFn_of Tryz.func77 (by kernel_rfl)
def j_Z24_0 (M : Mach) (n0 : Nat) (z0 z1 : V) (σ : Objs) : Ro :=
 bd (M.call 97 [z0.ng.ng, z1.ng.ng] σ) fun p0 =>
 bd (gdv p0.1.ng false (some z0.ng)) fun x1 =>
 bd (gdv p0.1.ng false (some z1.ng)) fun x2 =>
 bd (gdp p0.1.ng false (M.call 79 [x1.ng, x2.ng, (.int .i64 46)] p0.2) p0.2) fun p3 =>
 bd (gdv p0.1.ng false (some p3.1.ng)) fun x4 =>
  gd x4 true (
 bd (gdv x4 true (some z1.ng)) fun x5 =>
 bd (gdv x4 true (pu (eB .add .no x5.ng (.int .i64 1)))) fun x6 =>
 bd (gdp x4 true (M.call 97 [z0.ng, x6.ng] p3.2) p3.2) fun p7 =>
 bd (gdv p0.1.ng false (pu (pV x4.ng p7.1.ng (.bool false)))) fun x8 =>
 bd (pu (pV p0.1.ng.ng (.bool true) x8.ng)) fun x9 =>
 bd (oK false x9.ng) (nK n0 p7.2)) (
 bd (gdv x4 true (some z1.ng)) fun x10 =>
 bd (gdv x4 true (pu (eB .add .no x10.ng (.int .i64 1)))) fun x11 =>
 bd (gdp x4 true (M.call 97 [.undef, x11.ng] p3.2) p3.2) fun p12 =>
 bd (gdv p0.1.ng false (pu (pV x4.ng p12.1.ng (.bool false)))) fun x13 =>
 bd (pu (pV p0.1.ng.ng (.bool true) x13.ng)) fun x14 =>
 bd (oK false x14.ng) (nK n0 p12.2))
def s_Z24 (M : Mach) (a0 a1 : V) (σ : Objs) : Ro :=
 bd (M.call 79 [a0.ng.ng, a1.ng.ng, (.int .i64 43)] σ) fun p15 =>
 bd (gdv p15.1.ng false (some a0.ng)) fun x16 =>
 bd (gdv p15.1.ng false (some a1.ng)) fun x17 =>
 bd (gdp p15.1.ng false (M.call 79 [x16.ng, x17.ng, (.int .i64 45)] p15.2) p15.2) fun p18 =>
 bd (pu (pV p15.1.ng.ng (.bool true) p18.1.ng)) fun x19 =>
  br x19.ng (
 bd (pu (eB .add .no a1.ng.ng (.int .i64 1))) fun x20 =>
  j_Z24_0 M σ.length a0 x20.ng p18.2) (
  j_Z24_0 M σ.length a0 a1 p18.2)
theorem k_Z24 (M : Mach) (a0 a1 : V) (σ : Objs) : fnK M c_Z24 [a0, a1] σ = s_Z24 M a0 a1 σ := by kernel_rfl
def c_Z25 : Ev.Fn := ⟨43, [.cell 4 true 6], false, false, (.seq (.ops 0 [⟨some 4, none, .alloc [(.int .i64 0), (.int .i64 0), (.int .i64 0), (.str []), (.str []), (.bool false)]⟩]) (.seq (.ops 1 [mvF 9 0, mvF 10 1, ⟨some 11, none, .call 98 [(.t 9), (.t 10)]⟩, mvF 8 11, ⟨some 12, none, .extr (.t 8) 0⟩, ⟨some 13, none, .extr (.t 8) 1⟩, mvF 5 12, mvF 6 13]) (.seq (.ops 2 [mvF 14 1, mvF 15 5, mvF 16 0, mvF 17 1, mvF 18 5, ⟨some 19, none, .cut 1 (.t 16) (some (.t 17)) (some (.t 18)) none⟩, ⟨some 20, none, .call 85 [.t 19]⟩, mvF 21 6, ⟨some 22, none, .build [(.int .i64 0), (.int .i64 0), (.int .i64 0), (.str []), (.str []), (.bool false)] [(0, 1, (.c (.int .i64 10))), (1, 1, (.t 14)), (2, 1, (.t 15)), (4, 1, (.t 20)), (5, 1, (.t 21))]⟩, ⟨some 7, none, .alloc [(.int .i64 0), (.int .i64 0), (.int .i64 0), (.str []), (.str []), (.bool false)]⟩, ⟨none, none, .store 6 (.t 7) (.t 22) false⟩]) (.seq (.seq (.ops 3 [mvF 23 0, mvF 24 5, ⟨some 25, none, .call 80 [(.t 23), (.t 24)]⟩]) (.cond (.t 25) (.seq (.ops 4 [⟨some 26, none, .faddr 0 (.t 7)⟩, ⟨none, none, .store 1 (.t 26) (.c (.int .i64 12)) false⟩]) (.ops 5 [mvT 28 0, mvF 29 5, ⟨some 30, none, .call 82 [(.t 28), (.t 29)]⟩, mvF 27 30, ⟨some 31, none, .extr (.t 27) 0⟩, ⟨some 32, none, .extr (.t 27) 1⟩, ⟨some 33, none, .faddr 3 (.t 7)⟩, ⟨none, none, .store 1 (.t 33) (.t 31) false⟩, ⟨some 34, none, .faddr 2 (.t 7)⟩, ⟨none, none, .store 1 (.t 34) (.t 32) false⟩])) (.seq (.ops 6 [mvT 35 0, mvF 36 5, ⟨some 37, none, .call 79 [(.t 35), (.t 36), (.c (.int .i64 37))]⟩]) (.cond (.t 37) (.seq (.ops 7 [⟨some 38, none, .faddr 0 (.t 7)⟩, ⟨none, none, .store 1 (.t 38) (.c (.int .i64 11)) false⟩]) (.ops 8 [mvF 39 5, ⟨some 40, none, .bin .add .no (.t 39) (.c (.int .i64 1))⟩, ⟨some 41, none, .faddr 2 (.t 7)⟩, ⟨none, none, .store 1 (.t 41) (.t 40) false⟩])) .skip)))) (.seq (.ops 9 [⟨some 42, none, .load true 6 (.t 7)⟩, ⟨none, none, .store 6 (.t 4) (.t 42) false⟩]) .ret)))))⟩
theorem ok_c_Z25 : chkFn Tryz.prog 78 c_Z25 = true := chkFn_of Tryz.func78 (by kernel_rfl)
def j_Z25_0 (M : Mach) (n0 : Nat) (z4 z7 : V) (σ : Objs) : Ro :=
 bd (pu (eL σ true 6 z7.ng)) fun x9 =>
 bd (stV σ 6 z4.ng x9.ng x9.ng) fun p10 =>
 bd (resC p10.2 true 6 z4) fun x11 =>
 bd (oK false x11) (nK n0 p10.2)
def s_Z25 (M : Mach) (a0 a1 : V) (σ : Objs) : Ro :=
  let s0 : Objs := σ ++ [.cells [(.int .i64 0), (.int .i64 0), (.int .i64 0), (.str []), (.str []), (.bool false)]]
 bd (M.call 98 [a0.ng.ng, a1.ng.ng] s0) fun p1 =>
 bd (pu (eX 0 p1.1.ng.ng)) fun x2 =>
 bd (pu (eX 1 p1.1.ng.ng)) fun x3 =>
 bd (pu (evCut 1 a0.ng.ng (some a1.ng.ng) (some x2.ng.ng.ng) none)) fun x4 =>
 bd (M.call 85 [x4.ng] p1.2) fun p5 =>
 bd (pu (buildV [(.int .i64 0), (.int .i64 0), (.int .i64 0), (.str []), (.str []), (.bool false)] [(0, 1, (.int .i64 10)), (1, 1, a1.ng.ng), (2, 1, x2.ng.ng.ng), (4, 1, p5.1.ng), (5, 1, x3.ng.ng.ng)])) fun x6 =>
  let s7 : Objs := p5.2 ++ [.cells [(.int .i64 0), (.int .i64 0), (.int .i64 0), (.str []), (.str []), (.bool false)]]
 bd (stV s7 6 (.ptr p5.2.length 0) x6.ng x6.ng) fun p8 =>
 bd (M.call 80 [a0.ng.ng, x2.ng.ng.ng] p8.2) fun p12 =>
  br p12.1.ng (
 bd (pu (eF 0 (.ptr p5.2.length 0))) fun x13 =>
 bd (stV p12.2 1 x13.ng (.int .i64 12) (.int .i64 12)) fun p14 =>
 bd (M.call 82 [a0.ng, x2.ng.ng.ng] p14.2) fun p15 =>
 bd (pu (eX 0 p15.1.ng.ng)) fun x16 =>
 bd (pu (eX 1 p15.1.ng.ng)) fun x17 =>
 bd (pu (eF 3 (.ptr p5.2.length 0))) fun x18 =>
 bd (stV p15.2 1 x18.ng x16.ng x16.ng) fun p19 =>
 bd (pu (eF 2 (.ptr p5.2.length 0))) fun x20 =>
 bd (stV p19.2 1 x20.ng x17.ng x17.ng) fun p21 =>
  j_Z25_0 M σ.length (.ptr σ.length 0) (.ptr p5.2.length 0) p21.2) (
 bd (M.call 79 [a0.ng, x2.ng.ng.ng, (.int .i64 37)] p12.2) fun p22 =>
  br p22.1.ng (
 bd (pu (eF 0 (.ptr p5.2.length 0))) fun x23 =>
 bd (stV p22.2 1 x23.ng (.int .i64 11) (.int .i64 11)) fun p24 =>
 bd (pu (eB .add .no x2.ng.ng.ng (.int .i64 1))) fun x25 =>
 bd (pu (eF 2 (.ptr p5.2.length 0))) fun x26 =>
 bd (stV p24.2 1 x26.ng x25.ng x25.ng) fun p27 =>
  j_Z25_0 M σ.length (.ptr σ.length 0) (.ptr p5.2.length 0) p27.2) (
  j_Z25_0 M σ.length (.ptr σ.length 0) (.ptr p5.2.length 0) p22.2))
theorem k_Z25 (M : Mach) (a0 a1 : V) (σ : Objs) : fnK M c_Z25 [a0, a1] σ = s_Z25 M a0 a1 σ := by kernel_rfl
def c_Z22 : Ev.Fn := ⟨19, [.tmp 6], false, false, (.seq (.ops 0 [⟨some 6, none, .mv (.c (.bool false)) false⟩]) (.seq (.ops 1 [mvF 7 1, mvF 8 0, ⟨some 9, none, .len (.t 8)⟩, ⟨some 10, none, .bin .lss .no (.t 7) (.t 9)⟩, mvF 11 10, ⟨some 12, (some (11, true)), .mv (.t 0) true⟩, ⟨some 13, (some (11, true)), .mv (.t 1) false⟩, ⟨some 14, (some (11, true)), .iaddr 1 (.t 12) (.t 13)⟩, ⟨some 15, (some (11, true)), .load false 1 (.t 14)⟩, ⟨some 16, (some (11, true)), .mv (.t 2) false⟩, ⟨some 17, (some (11, true)), .bin .eql .no (.t 15) (.t 16)⟩, ⟨some 18, none, .pick (.t 11) (.t 17) (.c (.bool false))⟩, mvF 6 18]) .ret))⟩
theorem ok_c_Z22 : chkFn Tryz.prog 79 c_Z22 = true := chkFn_of Tryz.func79 (by kernel_rfl)
def s_Z22 (M : Mach) (a0 a1 a2 : V) (σ : Objs) : Ro :=
 bd (pu (evLen a0.ng.ng)) fun x0 =>
 bd (pu (eB .lss .no a1.ng.ng x0.ng)) fun x1 =>
  gd x1.ng true (
 bd (gdv x1.ng true (some a1.ng)) fun x2 =>
 bd (gdv x1.ng true (pu (eI 1 x2.ng a0.ng))) fun x3 =>
 bd (gdv x1.ng true (pu (eL σ false 1 x3.ng))) fun x4 =>
 bd (gdv x1.ng true (some a2.ng)) fun x5 =>
 bd (gdv x1.ng true (pu (eB .eql .no x4.ng x5.ng))) fun x6 =>
 bd (pu (pV x1.ng.ng x6.ng (.bool false))) fun x7 =>
 bd (oK false x7.ng) (nK σ.length σ)) (
 bd (gdv x1.ng true (some a1.ng)) fun x8 =>
 bd (gdv x1.ng true (pu (eI 1 x8.ng .undef))) fun x9 =>
 bd (gdv x1.ng true (pu (eL σ false 1 x9.ng))) fun x10 =>
 bd (gdv x1.ng true (some a2.ng)) fun x11 =>
 bd (gdv x1.ng true (pu (eB .eql .no x10.ng x11.ng))) fun x12 =>
 bd (pu (pV x1.ng.ng x12.ng (.bool false))) fun x13 =>
 bd (oK false x13.ng) (nK σ.length σ))
theorem k_Z22 (M : Mach) (a0 a1 a2 : V) (σ : Objs) : fnK M c_Z22 [a0, a1, a2] σ = s_Z22 M a0 a1 a2 σ := by kernel_rfl
def c_Z1s : Ev.Fn := ⟨32, [.tmp 4], false, false, (.seq (.ops 0 [⟨some 4, none, .mv (.c (.bool false)) false⟩]) (.seq (.seq (.ops 1 [mvF 5 0, mvF 6 1, ⟨some 7, none, .call 79 [(.t 5), (.t 6), (.c (.int .i64 45))]⟩]) (.cond (.t 7) (.seq (.ops 2 [mvF 8 0, mvF 9 1, ⟨some 10, none, .bin .add .no (.t 9) (.c (.int .i64 1))⟩, ⟨some 11, none, .call 79 [(.t 8), (.t 10), (.c (.int .i64 45))]⟩, mvF 12 11, ⟨some 13, (some (12, false)), .mv (.t 0) false⟩, ⟨some 14, (some (12, false)), .mv (.t 1) false⟩, ⟨some 15, (some (12, false)), .bin .add .no (.t 14) (.c (.int .i64 1))⟩, ⟨some 16, (some (12, false)), .call 99 [(.t 13), (.t 15)]⟩, ⟨some 17, none, .pick (.t 12) (.c (.bool true)) (.t 16)⟩, mvF 18 17, ⟨some 19, (some (18, false)), .mv (.t 0) true⟩, ⟨some 20, (some (18, false)), .mv (.t 1) false⟩, ⟨some 21, (some (18, false)), .bin .add .no (.t 20) (.c (.int .i64 1))⟩, ⟨some 22, (some (18, false)), .call 84 [(.t 19), (.t 21)]⟩, ⟨some 23, none, .pick (.t 18) (.c (.bool true)) (.t 22)⟩, mvF 4 23]) .ret) .skip)) (.seq (.ops 3 [mvF 24 0, mvF 25 1, ⟨some 26, none, .call 99 [(.t 24), (.t 25)]⟩, mvF 27 26, ⟨some 28, (some (27, false)), .mv (.t 0) true⟩, ⟨some 29, (some (27, false)), .mv (.t 1) false⟩, ⟨some 30, (some (27, false)), .call 84 [(.t 28), (.t 29)]⟩, ⟨some 31, none, .pick (.t 27) (.c (.bool true)) (.t 30)⟩, mvF 4 31]) .ret)))⟩
theorem ok_c_Z1s : chkFn Tryz.prog 80 c_Z1s = true := chkFn_of Tryz.func80 (by kernel_rfl)
def s_Z1s (M : Mach) (a0 a1 : V) (σ : Objs) : Ro :=
 bd (M.call 79 [a0.ng.ng, a1.ng.ng, (.int .i64 45)] σ) fun p0 =>
  br p0.1.ng (
 bd (pu (eB .add .no a1.ng.ng (.int .i64 1))) fun x1 =>
 bd (M.call 79 [a0.ng.ng, x1.ng, (.int .i64 45)] p0.2) fun p2 =>
 bd (gdv p2.1.ng false (some a0.ng)) fun x3 =>
 bd (gdv p2.1.ng false (some a1.ng)) fun x4 =>
 bd (gdv p2.1.ng false (pu (eB .add .no x4.ng (.int .i64 1)))) fun x5 =>
 bd (gdp p2.1.ng false (M.call 99 [x3.ng, x5.ng] p2.2) p2.2) fun p6 =>
 bd (pu (pV p2.1.ng.ng (.bool true) p6.1.ng)) fun x7 =>
  gd x7.ng false (
 bd (gdv x7.ng false (some a1.ng)) fun x8 =>
 bd (gdv x7.ng false (pu (eB .add .no x8.ng (.int .i64 1)))) fun x9 =>
 bd (gdp x7.ng false (M.call 84 [a0.ng, x9.ng] p6.2) p6.2) fun p10 =>
 bd (pu (pV x7.ng.ng (.bool true) p10.1.ng)) fun x11 =>
 bd (oK false x11.ng) (nK σ.length p10.2)) (
 bd (gdv x7.ng false (some a1.ng)) fun x12 =>
 bd (gdv x7.ng false (pu (eB .add .no x12.ng (.int .i64 1)))) fun x13 =>
 bd (gdp x7.ng false (M.call 84 [.undef, x13.ng] p6.2) p6.2) fun p14 =>
 bd (pu (pV x7.ng.ng (.bool true) p14.1.ng)) fun x15 =>
 bd (oK false x15.ng) (nK σ.length p14.2))) (
 bd (M.call 99 [a0.ng.ng, a1.ng.ng] p0.2) fun p16 =>
  gd p16.1.ng false (
 bd (gdv p16.1.ng false (some a1.ng)) fun x17 =>
 bd (gdp p16.1.ng false (M.call 84 [a0.ng, x17.ng] p16.2) p16.2) fun p18 =>
 bd (pu (pV p16.1.ng.ng (.bool true) p18.1.ng)) fun x19 =>
 bd (oK false x19.ng) (nK σ.length p18.2)) (
 bd (gdv p16.1.ng false (some a1.ng)) fun x20 =>
 bd (gdp p16.1.ng false (M.call 84 [.undef, x20.ng] p16.2) p16.2) fun p21 =>
 bd (pu (pV p16.1.ng.ng (.bool true) p21.1.ng)) fun x22 =>
 bd (oK false x22.ng) (nK σ.length p21.2)))
theorem k_Z1s (M : Mach) (a0 a1 : V) (σ : Objs) : fnK M c_Z1s [a0, a1] σ = s_Z1s M a0 a1 σ := by kernel_rfl
def c_Z1x : Ev.Fn := ⟨53, [.cell 4 true 6], false, false, (.seq (.ops 0 [⟨some 4, none, .alloc [(.int .i64 0), (.int .i64 0), (.int .i64 0), (.str []), (.str []), (.bool false)]⟩]) (.seq (.ops 1 [mvF 9 0, mvF 10 1, ⟨some 11, none, .call 82 [(.t 9), (.t 10)]⟩, mvF 8 11, ⟨some 12, none, .extr (.t 8) 0⟩, ⟨some 13, none, .extr (.t 8) 1⟩, mvF 5 12, mvF 6 13]) (.seq (.seq (.ops 2 [mvF 14 0, mvF 15 6, ⟨some 16, none, .call 79 [(.t 14), (.t 15), (.c (.int .i64 40))]⟩, ⟨some 17, none, .un .not (.t 16)⟩]) (.cond (.t 17) (.seq (.ops 3 [mvF 18 1, mvF 19 6, mvF 20 5, ⟨some 21, none, .build [(.int .i64 0), (.int .i64 0), (.int .i64 0), (.str []), (.str []), (.bool false)] [(0, 1, (.c (.int .i64 1))), (1, 1, (.t 18)), (2, 1, (.t 19)), (3, 1, (.t 20))]⟩, ⟨none, none, .store 6 (.t 4) (.t 21) false⟩]) .ret) .skip)) (.seq (.ops 4 [mvF 22 6, ⟨some 23, none, .bin .add .no (.t 22) (.c (.int .i64 1))⟩, mvF 7 23]) (.seq (.block 0 (.loop [0, 1, 4, 5, 6, 7] [0, 1, 4, 5, 6, 7] (.seq (.seq (.ops 5 [mvF 24 0, mvF 25 7, ⟨some 26, none, .call 75 [(.t 24), (.t 25)]⟩]) (.cond (.t 26) .skip (.exit 0))) (.block 1 (.ops 6 [mvF 27 7, ⟨some 28, none, .bin .add .no (.t 27) (.c (.int .i64 1))⟩, mvF 7 28]))))) (.seq (.seq (.ops 7 [mvF 29 5, ⟨some 30, none, .call 60 [.t 29]⟩, ⟨some 31, none, .bin .eql .no (.t 30) (.c (.str [117, 114, 108]))⟩, mvF 32 31, ⟨some 33, (some (32, true)), .mv (.t 0) false⟩, ⟨some 34, (some (32, true)), .mv (.t 7) false⟩, ⟨some 35, (some (32, true)), .call 79 [(.t 33), (.t 34), (.c (.int .i64 34))]⟩, ⟨some 36, (some (32, true)), .un .not (.t 35)⟩, ⟨some 37, none, .pick (.t 32) (.t 36) (.c (.bool false))⟩, mvF 38 37, ⟨some 39, (some (38, true)), .mv (.t 0) false⟩, ⟨some 40, (some (38, true)), .mv (.t 7) false⟩, ⟨some 41, (some (38, true)), .call 79 [(.t 39), (.t 40), (.c (.int .i64 39))]⟩, ⟨some 42, (some (38, true)), .un .not (.t 41)⟩, ⟨some 43, none, .pick (.t 38) (.t 42) (.c (.bool false))⟩]) (.cond (.t 43) (.seq (.ops 8 [mvT 44 0, mvF 45 1, mvF 46 7, ⟨some 47, none, .call 100 [(.t 44), (.t 45), (.t 46)]⟩, ⟨none, none, .store 6 (.t 4) (.t 47) false⟩]) .ret) .skip)) (.seq (.ops 9 [mvF 48 1, mvF 49 6, ⟨some 50, none, .bin .add .no (.t 49) (.c (.int .i64 1))⟩, mvF 51 5, ⟨some 52, none, .build [(.int .i64 0), (.int .i64 0), (.int .i64 0), (.str []), (.str []), (.bool false)] [(0, 1, (.c (.int .i64 2))), (1, 1, (.t 48)), (2, 1, (.t 50)), (3, 1, (.t 51))]⟩, ⟨none, none, .store 6 (.t 4) (.t 52) false⟩]) .ret)))))))⟩
theorem ok_c_Z1x : chkFn Tryz.prog 81 c_Z1x = true := chkFn_of Tryz.func81 (by kernel_rfl)
def b_Z1x_0 (M : Mach) (n0 : Nat) (n1 : Nat) (r1 : Rk) (z0 z1 z4 z5 z6 z7 : V) (σ : Objs) : Ro :=
 bd (M.call 75 [z0.ng.ng, z7.ng.ng] σ) fun p10 =>
  br p10.1.ng (
 bd (pu (eB .add .no z7.ng.ng (.int .i64 1))) fun x11 =>
 bd (fz n1 p10.2 fzD z0) fun y12 =>
 bd (fz n1 p10.2 fzD z1) fun y13 =>
 bd (fz n1 p10.2 fzD z4) fun y14 =>
 bd (fz n1 p10.2 fzD z5) fun y15 =>
 bd (fz n1 p10.2 fzD z6) fun y16 =>
 bd (fz n1 p10.2 fzD x11.ng) fun y17 =>
 bd (cuO n1 p10.2) fun s18 => r1 [y12, y13, y14, y15, y16, y17] s18) (
 bd (fz n1 p10.2 fzD z0) fun y19 =>
 bd (fz n1 p10.2 fzD z1) fun y20 =>
 bd (fz n1 p10.2 fzD z4) fun y21 =>
 bd (fz n1 p10.2 fzD z5) fun y22 =>
 bd (fz n1 p10.2 fzD z6) fun y23 =>
 bd (fz n1 p10.2 fzD z7) fun y24 =>
 bd (cuO n1 p10.2) fun s25 =>
 bd (M.call 60 [y22.ng.ng] s25) fun p26 =>
 bd (pu (eB .eql .no p26.1.ng (.str [117, 114, 108]))) fun x27 =>
 bd (gdv x27.ng true (some y19.ng)) fun x28 =>
 bd (gdv x27.ng true (some y24.ng)) fun x29 =>
 bd (gdp x27.ng true (M.call 79 [x28.ng, x29.ng, (.int .i64 34)] p26.2) p26.2) fun p30 =>
 bd (gdv x27.ng true (pu (evUn .not p30.1.ng))) fun x31 =>
 bd (pu (pV x27.ng.ng x31.ng (.bool false))) fun x32 =>
 bd (gdv x32.ng true (some y19.ng)) fun x33 =>
 bd (gdv x32.ng true (some y24.ng)) fun x34 =>
 bd (gdp x32.ng true (M.call 79 [x33.ng, x34.ng, (.int .i64 39)] p30.2) p30.2) fun p35 =>
 bd (gdv x32.ng true (pu (evUn .not p35.1.ng))) fun x36 =>
 bd (pu (pV x32.ng.ng x36.ng (.bool false))) fun x37 =>
  br x37.ng (
 bd (M.call 100 [y19.ng, y20.ng.ng, y24.ng.ng] p35.2) fun p38 =>
 bd (stV p38.2 6 y21.ng p38.1.ng p38.1.ng) fun p39 =>
 bd (resC p39.2 true 6 y21) fun x40 =>
 bd (oK false x40) (nK n0 p39.2)) (
 bd (pu (eB .add .no y23.ng.ng (.int .i64 1))) fun x41 =>
 bd (pu (buildV [(.int .i64 0), (.int .i64 0), (.int .i64 0), (.str []), (.str []), (.bool false)] [(0, 1, (.int .i64 2)), (1, 1, y20.ng.ng), (2, 1, x41.ng), (3, 1, y22.ng.ng)])) fun x42 =>
 bd (stV p35.2 6 y21.ng x42.ng x42.ng) fun p43 =>
 bd (resC p43.2 true 6 y21) fun x44 =>
 bd (oK false x44) (nK n0 p43.2)))
def l_Z1x_0 (M : Mach) (n0 : Nat) (n1 : Nat) : Rk := M.fx fun rec vs σ => b_Z1x_0 M n0 n1 rec (vs.getD 0 .undef) (vs.getD 1 .undef) (vs.getD 2 .undef) (vs.getD 3 .undef) (vs.getD 4 .undef) (vs.getD 5 .undef) σ
def s_Z1x (M : Mach) (a0 a1 : V) (σ : Objs) : Ro :=
  let s0 : Objs := σ ++ [.cells [(.int .i64 0), (.int .i64 0), (.int .i64 0), (.str []), (.str []), (.bool false)]]
 bd (M.call 82 [a0.ng.ng, a1.ng.ng] s0) fun p1 =>
 bd (pu (eX 0 p1.1.ng.ng)) fun x2 =>
 bd (pu (eX 1 p1.1.ng.ng)) fun x3 =>
 bd (M.call 79 [a0.ng.ng, x3.ng.ng.ng, (.int .i64 40)] p1.2) fun p4 =>
 bd (pu (evUn .not p4.1.ng)) fun x5 =>
  br x5.ng (
 bd (pu (buildV [(.int .i64 0), (.int .i64 0), (.int .i64 0), (.str []), (.str []), (.bool false)] [(0, 1, (.int .i64 1)), (1, 1, a1.ng.ng), (2, 1, x3.ng.ng.ng), (3, 1, x2.ng.ng.ng)])) fun x6 =>
 bd (stV p4.2 6 (.ptr σ.length 0) x6.ng x6.ng) fun p7 =>
 bd (resC p7.2 true 6 (.ptr σ.length 0)) fun x8 =>
 bd (oK false x8) (nK σ.length p7.2)) (
 bd (pu (eB .add .no x3.ng.ng.ng (.int .i64 1))) fun x9 =>
 bd (fz p4.2.length p4.2 fzD a0) fun y45 =>
 bd (fz p4.2.length p4.2 fzD a1) fun y46 =>
 bd (fz p4.2.length p4.2 fzD (.ptr σ.length 0)) fun y47 =>
 bd (fz p4.2.length p4.2 fzD x2.ng) fun y48 =>
 bd (fz p4.2.length p4.2 fzD x3.ng) fun y49 =>
 bd (fz p4.2.length p4.2 fzD x9.ng) fun y50 =>
  l_Z1x_0 M σ.length p4.2.length [y45, y46, y47, y48, y49, y50] p4.2)
theorem k_Z1x (M : Mach) (a0 a1 : V) (σ : Objs) : fnK M c_Z1x [a0, a1] σ = s_Z1x M a0 a1 σ := by kernel_rfl
def c_Z23 : Ev.Fn := ⟨39, [.tmp 4, .tmp 5], false, false, (.seq (.ops 0 [⟨some 4, none, .mv (.c (.str [])) false⟩, ⟨some 5, none, .mv (.c (.int .i64 0)) false⟩]) (.seq (.ops 1 [⟨some 9, none, .buildSl false 1 0 .any [] false⟩, mvT 6 9]) (.block 0 (.loop [0, 1, 6] [4, 5] (.block 1 (.seq (.ops 2 [mvF 10 0, mvF 11 1, ⟨some 12, none, .call 83 [(.t 10), (.t 11)]⟩]) (.cond (.t 12) (.seq (.ops 3 [mvT 13 6, mvF 14 0, mvF 15 1, ⟨some 16, none, .iaddr 1 (.t 14) (.t 15)⟩, ⟨some 17, none, .load false 1 (.t 16)⟩, ⟨some 18, none, .buildSl false 1 1 (.int .i64 0) [(0, (.t 17))] false⟩, ⟨some 19, none, .app false false 1 8 (.t 13) (.t 18) true⟩, mvT 6 19]) (.ops 4 [mvF 20 1, ⟨some 21, none, .bin .add .no (.t 20) (.c (.int .i64 1))⟩, mvF 1 21])) (.seq (.ops 5 [mvF 22 0, mvF 23 1, ⟨some 24, none, .call 84 [(.t 22), (.t 23)]⟩]) (.cond (.t 24) (.seq (.ops 6 [mvF 26 0, mvF 27 1, ⟨some 28, none, .call 96 [(.t 26), (.t 27)]⟩, mvF 25 28, ⟨some 29, none, .extr (.t 25) 0⟩, ⟨some 30, none, .extr (.t 25) 1⟩, mvF 7 29, mvF 8 30]) (.seq (.ops 7 [mvT 31 6, mvF 32 7, ⟨some 33, none, .buildSl false 1 1 (.int .i64 0) [(0, (.t 32))] false⟩, ⟨some 34, none, .app false false 1 8 (.t 31) (.t 33) true⟩, mvT 6 34]) (.ops 8 [mvF 35 8, mvF 1 35]))) (.seq (.ops 9 [mvT 36 6, ⟨some 37, none, .call 85 [.t 36]⟩, mvF 38 1, mvF 4 37, mvF 5 38]) .ret))))))))))⟩
theorem ok_c_Z23 : chkFn Tryz.prog 82 c_Z23 = true := chkFn_of Tryz.func82 (by kernel_rfl)
def j_Z23_0 (M : Mach) (n0 : Nat) (n1 : Nat) (r1 : Rk) (z0 z1 z6 : V) (σ : Objs) : Ro :=
 bd (fz n1 σ fzD z0) fun y1 =>
 bd (fz n1 σ fzD z1) fun y2 =>
 bd (fz n1 σ fzD z6) fun y3 =>
 bd (cuO n1 σ) fun s4 => r1 [y1, y2, y3] s4
def b_Z23_0 (M : Mach) (n0 : Nat) (n1 : Nat) (r1 : Rk) (z0 z1 z6 : V) (σ : Objs) : Ro :=
 bd (M.call 83 [z0.ng.ng, z1.ng.ng] σ) fun p5 =>
  br p5.1.ng (
 bd (pu (eI 1 z1.ng.ng z0.ng.ng)) fun x6 =>
 bd (pu (eL p5.2 false 1 x6.ng)) fun x7 =>
 bd (buildFV false 1 1 (.int .i64 0) [(0, x7.ng)]) fun x8 =>
 bd (appV false false 1 8 p5.2 z6 x8.ng) fun x9 =>
 bd (pu (eB .add .no z1.ng.ng (.int .i64 1))) fun x10 =>
  j_Z23_0 M n0 n1 r1 z0 x10.ng x9 p5.2) (
 bd (M.call 84 [z0.ng.ng, z1.ng.ng] p5.2) fun p11 =>
  br p11.1.ng (
 bd (M.call 96 [z0.ng.ng, z1.ng.ng] p11.2) fun p12 =>
 bd (pu (eX 0 p12.1.ng.ng)) fun x13 =>
 bd (pu (eX 1 p12.1.ng.ng)) fun x14 =>
 bd (buildFV false 1 1 (.int .i64 0) [(0, x13.ng.ng.ng)]) fun x15 =>
 bd (appV false false 1 8 p12.2 z6 x15.ng) fun x16 =>
  j_Z23_0 M n0 n1 r1 z0 x14.ng.ng.ng x16 p12.2) (
 bd (M.call 85 [z6.ng] p11.2) fun p17 =>
 bd (fz n1 p17.2 fzD p17.1.ng) fun y18 =>
 bd (fz n1 p17.2 fzD z1.ng.ng) fun y19 =>
 bd (cuO n1 p17.2) fun s20 =>
  nK n0 s20 (.tup [y18.ng, y19.ng])))
def l_Z23_0 (M : Mach) (n0 : Nat) (n1 : Nat) : Rk := M.fx fun rec vs σ => b_Z23_0 M n0 n1 rec (vs.getD 0 .undef) (vs.getD 1 .undef) (vs.getD 2 .undef) σ
def s_Z23 (M : Mach) (a0 a1 : V) (σ : Objs) : Ro :=
 bd (buildFV false 1 0 .any []) fun x0 =>
 bd (fz σ.length σ fzD a0) fun y21 =>
 bd (fz σ.length σ fzD a1) fun y22 =>
 bd (fz σ.length σ fzD x0) fun y23 =>
  l_Z23_0 M σ.length σ.length [y21, y22, y23] σ
theorem k_Z23 (M : Mach) (a0 a1 : V) (σ : Objs) : fnK M c_Z23 [a0, a1] σ = s_Z23 M a0 a1 σ := by kernel_rfl
def c_Z21 : Ev.Fn := ⟨16, [.tmp 4], false, false, (.seq (.ops 0 [⟨some 4, none, .mv (.c (.bool false)) false⟩]) (.seq (.ops 1 [mvF 5 1, mvF 6 0, ⟨some 7, none, .len (.t 6)⟩, ⟨some 8, none, .bin .lss .no (.t 5) (.t 7)⟩, mvF 9 8, ⟨some 10, (some (9, true)), .mv (.t 0) true⟩, ⟨some 11, (some (9, true)), .mv (.t 1) false⟩, ⟨some 12, (some (9, true)), .iaddr 1 (.t 10) (.t 11)⟩, ⟨some 13, (some (9, true)), .load false 1 (.t 12)⟩, ⟨some 14, (some (9, true)), .call 101 [.t 13]⟩, ⟨some 15, none, .pick (.t 9) (.t 14) (.c (.bool false))⟩, mvF 4 15]) .ret))⟩
theorem ok_c_Z21 : chkFn Tryz.prog 83 c_Z21 = true := chkFn_of Tryz.func83 (by kernel_rfl)
def s_Z21 (M : Mach) (a0 a1 : V) (σ : Objs) : Ro :=
 bd (pu (evLen a0.ng.ng)) fun x0 =>
 bd (pu (eB .lss .no a1.ng.ng x0.ng)) fun x1 =>
  gd x1.ng true (
 bd (gdv x1.ng true (some a1.ng)) fun x2 =>
 bd (gdv x1.ng true (pu (eI 1 x2.ng a0.ng))) fun x3 =>
 bd (gdv x1.ng true (pu (eL σ false 1 x3.ng))) fun x4 =>
 bd (gdp x1.ng true (M.call 101 [x4.ng] σ) σ) fun p5 =>
 bd (pu (pV x1.ng.ng p5.1.ng (.bool false))) fun x6 =>
 bd (oK false x6.ng) (nK σ.length p5.2)) (
 bd (gdv x1.ng true (some a1.ng)) fun x7 =>
 bd (gdv x1.ng true (pu (eI 1 x7.ng .undef))) fun x8 =>
 bd (gdv x1.ng true (pu (eL σ false 1 x8.ng))) fun x9 =>
 bd (gdp x1.ng true (M.call 101 [x9.ng] σ) σ) fun p10 =>
 bd (pu (pV x1.ng.ng p10.1.ng (.bool false))) fun x11 =>
 bd (oK false x11.ng) (nK σ.length p10.2))
theorem k_Z21 (M : Mach) (a0 a1 : V) (σ : Objs) : fnK M c_Z21 [a0, a1] σ = s_Z21 M a0 a1 σ := by kernel_rfl
def c_Z1r : Ev.Fn := ⟨15, [.tmp 4], false, false, (.seq (.ops 0 [⟨some 4, none, .mv (.c (.bool false)) false⟩]) (.seq (.ops 1 [mvF 5 0, mvF 6 1, ⟨some 7, none, .call 79 [(.t 5), (.t 6), (.c (.int .i64 92))]⟩, mvF 8 7, ⟨some 9, (some (8, true)), .mv (.t 0) true⟩, ⟨some 10, (some (8, true)), .mv (.t 1) false⟩, ⟨some 11, (some (8, true)), .bin .add .no (.t 10) (.c (.int .i64 1))⟩, ⟨some 12, (some (8, true)), .call 79 [(.t 9), (.t 11), (.c (.int .i64 10))]⟩, ⟨some 13, (some (8, true)), .un .not (.t 12)⟩, ⟨some 14, none, .pick (.t 8) (.t 13) (.c (.bool false))⟩, mvF 4 14]) .ret))⟩
theorem ok_c_Z1r : chkFn Tryz.prog 84 c_Z1r = true := chkFn_of Tryz.func84 (by kernel_rfl)
def s_Z1r (M : Mach) (a0 a1 : V) (σ : Objs) : Ro :=
 bd (M.call 79 [a0.ng.ng, a1.ng.ng, (.int .i64 92)] σ) fun p0 =>
  gd p0.1.ng true (
 bd (gdv p0.1.ng true (some a1.ng)) fun x1 =>
 bd (gdv p0.1.ng true (pu (eB .add .no x1.ng (.int .i64 1)))) fun x2 =>
 bd (gdp p0.1.ng true (M.call 79 [a0.ng, x2.ng, (.int .i64 10)] p0.2) p0.2) fun p3 =>
 bd (gdv p0.1.ng true (pu (evUn .not p3.1.ng))) fun x4 =>
 bd (pu (pV p0.1.ng.ng x4.ng (.bool false))) fun x5 =>
 bd (oK false x5.ng) (nK σ.length p3.2)) (
 bd (gdv p0.1.ng true (some a1.ng)) fun x6 =>
 bd (gdv p0.1.ng true (pu (eB .add .no x6.ng (.int .i64 1)))) fun x7 =>
 bd (gdp p0.1.ng true (M.call 79 [.undef, x7.ng, (.int .i64 10)] p0.2) p0.2) fun p8 =>
 bd (gdv p0.1.ng true (pu (evUn .not p8.1.ng))) fun x9 =>
 bd (pu (pV p0.1.ng.ng x9.ng (.bool false))) fun x10 =>
 bd (oK false x10.ng) (nK σ.length p8.2))
theorem k_Z1r (M : Mach) (a0 a1 : V) (σ : Objs) : fnK M c_Z1r [a0, a1] σ = s_Z1r M a0 a1 σ := by kernel_rfl
def c_Z2a : Ev.Fn := ⟨30, [.tmp 2], false, false, (.seq (.ops 0 [⟨some 2, none, .mv (.c (.str [])) false⟩]) (.seq (.ops 1 [⟨some 5, none, .buildSl false 1 0 .any [] false⟩, mvT 3 5]) (.seq (.seq (.ops 2 [⟨some 4, none, .mv (.c (.int .i64 0)) false⟩]) (.block 0 (.loop [0, 3, 4] [2, 3] (.seq (.seq (.ops 3 [mvF 6 4, mvF 7 0, ⟨some 8, none, .len (.t 7)⟩, ⟨some 9, none, .bin .lss .no (.t 6) (.t 8)⟩]) (.cond (.t 9) .skip (.exit 0))) (.seq (.block 1 (.seq (.ops 5 [mvF 12 0, mvF 13 4, ⟨some 14, none, .iaddr 1 (.t 12) (.t 13)⟩, ⟨some 15, none, .load false 1 (.t 14)⟩, ⟨some 16, none, .bin .eql .no (.t 15) (.c (.int .i64 0))⟩]) (.cond (.t 16) (.ops 6 [mvT 17 3, ⟨some 18, none, .buildSl false 1 1 (.int .i64 0) [(0, (.c (.int .i64 65533)))] false⟩, ⟨some 19, none, .app false false 1 8 (.t 17) (.t 18) true⟩, mvT 3 19]) (.ops 7 [mvT 20 3, mvF 21 0, mvF 22 4, ⟨some 23, none, .iaddr 1 (.t 21) (.t 22)⟩, ⟨some 24, none, .load false 1 (.t 23)⟩, ⟨some 25, none, .buildSl false 1 1 (.int .i64 0) [(0, (.t 24))] false⟩, ⟨some 26, none, .app false false 1 8 (.t 20) (.t 25) true⟩, mvT 3 26])))) (.ops 4 [mvF 10 4, ⟨some 11, none, .bin .add .no (.t 10) (.c (.int .i64 1))⟩, mvF 4 11])))))) (.seq (.ops 8 [mvT 27 3, ⟨some 28, none, .call 102 [.t 27]⟩, ⟨some 29, none, .conv .bytesStr (.t 28)⟩, mvF 2 29]) .ret))))⟩
theorem ok_c_Z2a : chkFn Tryz.prog 85 c_Z2a = true := chkFn_of Tryz.func85 (by kernel_rfl)
def j_Z2a_0 (M : Mach) (n0 : Nat) (n1 : Nat) (r1 : Rk) (z0 z3 z4 : V) (σ : Objs) : Ro :=
 bd (pu (eB .add .no z4.ng.ng (.int .i64 1))) fun x3 =>
 bd (fz n1 σ fzD z0) fun y4 =>
 bd (fz n1 σ fzD z3) fun y5 =>
 bd (fz n1 σ fzD x3.ng) fun y6 =>
 bd (cuO n1 σ) fun s7 => r1 [y4, y5, y6] s7
def b_Z2a_0 (M : Mach) (n0 : Nat) (n1 : Nat) (r1 : Rk) (z0 z3 z4 : V) (σ : Objs) : Ro :=
 bd (pu (evLen z0.ng.ng)) fun x1 =>
 bd (pu (eB .lss .no z4.ng.ng x1.ng)) fun x2 =>
  br x2.ng (
 bd (pu (eI 1 z4.ng.ng z0.ng.ng)) fun x8 =>
 bd (pu (eL σ false 1 x8.ng)) fun x9 =>
 bd (pu (eB .eql .no x9.ng (.int .i64 0))) fun x10 =>
  br x10.ng (
 bd (buildFV false 1 1 (.int .i64 0) [(0, (.int .i64 65533))]) fun x11 =>
 bd (appV false false 1 8 σ z3 x11.ng) fun x12 =>
  j_Z2a_0 M n0 n1 r1 z0 x12 z4 σ) (
 bd (pu (eI 1 z4.ng.ng z0.ng.ng)) fun x13 =>
 bd (pu (eL σ false 1 x13.ng)) fun x14 =>
 bd (buildFV false 1 1 (.int .i64 0) [(0, x14.ng)]) fun x15 =>
 bd (appV false false 1 8 σ z3 x15.ng) fun x16 =>
  j_Z2a_0 M n0 n1 r1 z0 x16 z4 σ)) (
 bd (fz n1 σ fzD .any) fun y17 =>
 bd (fz n1 σ fzD z3) fun y18 =>
 bd (cuO n1 σ) fun s19 =>
 bd (M.call 102 [y18.ng] s19) fun p20 =>
 bd (pu (eC p20.2 .bytesStr p20.1.ng)) fun x21 =>
 bd (oK false x21.ng) (nK n0 p20.2))
def l_Z2a_0 (M : Mach) (n0 : Nat) (n1 : Nat) : Rk := M.fx fun rec vs σ => b_Z2a_0 M n0 n1 rec (vs.getD 0 .undef) (vs.getD 1 .undef) (vs.getD 2 .undef) σ
def s_Z2a (M : Mach) (a0 : V) (σ : Objs) : Ro :=
 bd (buildFV false 1 0 .any []) fun x0 =>
 bd (fz σ.length σ fzD a0) fun y22 =>
 bd (fz σ.length σ fzD x0) fun y23 =>
 bd (fz σ.length σ fzD (.int .i64 0)) fun y24 =>
  l_Z2a_0 M σ.length σ.length [y22, y23, y24] σ
theorem k_Z2a (M : Mach) (a0 : V) (σ : Objs) : fnK M c_Z2a [a0] σ = s_Z2a M a0 σ := by kernel_rfl
def c_Zk : Ev.Fn := ⟨13, [.tmp 2], false, false, (.seq (.ops 0 [⟨some 2, none, .mv (.c (.int .i64 0)) false⟩]) (.seq (.seq (.ops 1 [mvF 3 0, ⟨some 4, none, .bin .geq .no (.t 3) (.c (.int .i64 65))⟩, mvF 5 4, ⟨some 6, (some (5, true)), .mv (.t 0) false⟩, ⟨some 7, (some (5, true)), .bin .leq .no (.t 6) (.c (.int .i64 90))⟩, ⟨some 8, none, .pick (.t 5) (.t 7) (.c (.bool false))⟩]) (.cond (.t 8) (.seq (.ops 2 [mvF 9 0, ⟨some 10, none, .bin .add .no (.t 9) (.c (.int .i64 97))⟩, ⟨some 11, none, .bin .sub .no (.t 10) (.c (.int .i64 65))⟩, mvF 2 11]) .ret) .skip)) (.seq (.ops 3 [mvF 12 0, mvF 2 12]) .ret)))⟩
theorem ok_c_Zk : chkFn Tryz.prog 70 c_Zk = true := chkFn_of Tryz.func70 (by kernel_rfl)
def s_Zk (M : Mach) (a0 : V) (σ : Objs) : Ro :=
 bd (pu (eB .geq .no a0.ng.ng (.int .i64 65))) fun x0 =>
 bd (gdv x0.ng true (some a0.ng)) fun x1 =>
 bd (gdv x0.ng true (pu (eB .leq .no x1.ng (.int .i64 90)))) fun x2 =>
 bd (pu (pV x0.ng.ng x2.ng (.bool false))) fun x3 =>
  br x3.ng (
 bd (pu (eB .add .no a0.ng.ng (.int .i64 97))) fun x4 =>
 bd (pu (eB .sub .no x4.ng (.int .i64 65))) fun x5 =>
 bd (oK false x5.ng) (nK σ.length σ)) (
 bd (oK false a0.ng.ng) (nK σ.length σ))
theorem k_Zk (M : Mach) (a0 : V) (σ : Objs) : fnK M c_Zk [a0] σ = s_Zk M a0 σ := by kernel_rfl
def c_Zs : Ev.Fn := ⟨15, [.tmp 4, .tmp 5], false, false, (.seq (.ops 0 [⟨some 4, none, .mv (.c (.str [])) false⟩, ⟨some 5, none, .mv (.c (.bool false)) false⟩]) (.seq (.seq (.ops 1 [mvF 6 0, mvF 7 1, ⟨some 8, none, .call 72 [(.t 6), (.t 7)]⟩, ⟨some 9, none, .un .not (.t 8)⟩]) (.cond (.t 9) (.seq (.ops 2 [mvF 10 0, mvF 4 10, ⟨some 5, none, .mv (.c (.bool false)) false⟩]) .ret) .skip)) (.seq (.ops 3 [mvF 11 0, mvF 12 1, ⟨some 13, none, .lenS (.t 12)⟩, ⟨some 14, none, .cutS (.t 11) (some (.t 13)) none⟩, mvF 4 14, ⟨some 5, none, .mv (.c (.bool true)) false⟩]) .ret)))⟩
theorem ok_c_Zs : chkFn Tryz.prog 71 c_Zs = true := chkFn_of Tryz.func71 (by kernel_rfl)
def s_Zs (M : Mach) (a0 a1 : V) (σ : Objs) : Ro :=
 bd (M.call 72 [a0.ng.ng, a1.ng.ng] σ) fun p0 =>
 bd (pu (evUn .not p0.1.ng)) fun x1 =>
  br x1.ng (
  nK σ.length p0.2 (.tup [a0.ng.ng.ng, (.bool false)])) (
 bd (pu (evLenS a1.ng.ng)) fun x2 =>
 bd (pu (evCutS a0.ng.ng (some x2.ng) none)) fun x3 =>
  nK σ.length p0.2 (.tup [x3.ng.ng, (.bool true)]))
theorem k_Zs (M : Mach) (a0 a1 : V) (σ : Objs) : fnK M c_Zs [a0, a1] σ = s_Zs M a0 a1 σ := by kernel_rfl
def c_Zt : Ev.Fn := ⟨18, [.tmp 4], false, false, (.seq (.ops 0 [⟨some 4, none, .mv (.c (.bool false)) false⟩]) (.seq (.ops 1 [mvF 5 0, ⟨some 6, none, .lenS (.t 5)⟩, mvF 7 1, ⟨some 8, none, .lenS (.t 7)⟩, ⟨some 9, none, .bin .geq .no (.t 6) (.t 8)⟩, mvF 10 9, ⟨some 11, (some (10, true)), .mv (.t 0) false⟩, ⟨some 12, (some (10, true)), .mv (.t 1) false⟩, ⟨some 13, (some (10, true)), .lenS (.t 12)⟩, ⟨some 14, (some (10, true)), .cutS (.t 11) none (some (.t 13))⟩, ⟨some 15, (some (10, true)), .mv (.t 1) false⟩, ⟨some 16, (some (10, true)), .bin .eql .no (.t 14) (.t 15)⟩, ⟨some 17, none, .pick (.t 10) (.t 16) (.c (.bool false))⟩, mvF 4 17]) .ret))⟩
theorem ok_c_Zt : chkFn Tryz.prog 72 c_Zt = true := chkFn_of Tryz.func72 (by kernel_rfl)
def s_Zt (M : Mach) (a0 a1 : V) (σ : Objs) : Ro :=
 bd (pu (evLenS a0.ng.ng)) fun x0 =>
 bd (pu (evLenS a1.ng.ng)) fun x1 =>
 bd (pu (eB .geq .no x0.ng x1.ng)) fun x2 =>
 bd (gdv x2.ng true (some a0.ng)) fun x3 =>
 bd (gdv x2.ng true (some a1.ng)) fun x4 =>
 bd (gdv x2.ng true (pu (evLenS x4.ng))) fun x5 =>
 bd (gdv x2.ng true (pu (evCutS x3.ng none (some x5.ng)))) fun x6 =>
 bd (gdv x2.ng true (some a1.ng)) fun x7 =>
 bd (gdv x2.ng true (pu (eB .eql .no x6.ng x7.ng))) fun x8 =>
 bd (pu (pV x2.ng.ng x8.ng (.bool false))) fun x9 =>
 bd (oK false x9.ng) (nK σ.length σ)
theorem k_Zt (M : Mach) (a0 a1 : V) (σ : Objs) : fnK M c_Zt [a0, a1] σ = s_Zt M a0 a1 σ := by kernel_rfl
def c_Z8 : Ev.Fn := ⟨10, [.tmp 4], false, false, (.seq (.ops 0 [⟨some 4, none, .mv (.c (.bool false)) false⟩]) (.seq (.ops 1 [mvF 5 0, mvF 6 1, ⟨some 7, none, .nilc (.t 5)⟩, ⟨some 8, none, .iaddrA 256 1 (.t 7) (.t 6)⟩, ⟨some 9, none, .load false 1 (.t 8)⟩, mvF 4 9]) .ret))⟩
theorem ok_c_Z8 : chkFn Tryz.prog 89 c_Z8 = true := chkFn_of Tryz.func89 (by kernel_rfl)
def s_Z8 (M : Mach) (a0 a1 : V) (σ : Objs) : Ro :=
 bd (pu (evNilc a0.ng.ng)) fun x0 =>
 bd (pu (evIaddrA 256 1 a1.ng.ng x0.ng)) fun x1 =>
 bd (pu (eL σ false 1 x1.ng)) fun x2 =>
 bd (oK false x2.ng) (nK σ.length σ)
theorem k_Z8 (M : Mach) (a0 a1 : V) (σ : Objs) : fnK M c_Z8 [a0, a1] σ = s_Z8 M a0 a1 σ := by kernel_rfl
def c_Z14 : Ev.Fn := ⟨19, [.tmp 2, .tmp 3], false, false, (.seq (.ops 0 [⟨some 2, none, .mv (.c (.int .i32 0)) false⟩, ⟨some 3, none, .mv (.c (.int .i64 0)) false⟩]) (.seq (.seq (.ops 1 [mvF 4 0, ⟨some 5, none, .bin .neq .no (.t 4) (.c (.str []))⟩, mvF 6 5, ⟨some 7, (some (6, true)), .mv (.t 0) false⟩, ⟨some 8, (some (6, true)), .idx (.t 7) (.c (.int .i64 0))⟩, ⟨some 9, (some (6, true)), .bin .lss .no (.t 8) (.c (.int .u8 128))⟩, ⟨some 10, none, .pick (.t 6) (.t 9) (.c (.bool false))⟩]) (.cond (.t 10) (.seq (.ops 2 [mvF 11 0, ⟨some 12, none, .idx (.t 11) (.c (.int .i64 0))⟩, ⟨some 13, none, .conv (.toInt .i32) (.t 12)⟩, mvF 2 13, ⟨some 3, none, .mv (.c (.int .i64 1)) false⟩]) .ret) (.ops 3 [mvF 15 0, ⟨some 16, none, .call 105 [.t 15]⟩, mvF 14 16, ⟨some 17, none, .extr (.t 14) 0⟩, ⟨some 18, none, .extr (.t 14) 1⟩, mvF 2 17, mvF 3 18]))) .ret))⟩
theorem ok_c_Z14 : chkFn Tryz.prog 90 c_Z14 = true := chkFn_of Tryz.func90 (by kernel_rfl)
def s_Z14 (M : Mach) (a0 : V) (σ : Objs) : Ro :=
 bd (pu (eB .neq .no a0.ng.ng (.str []))) fun x0 =>
 bd (gdv x0.ng true (some a0.ng)) fun x1 =>
 bd (gdv x0.ng true (pu (evIdx (.int .i64 0) x1.ng))) fun x2 =>
 bd (gdv x0.ng true (pu (eB .lss .no x2.ng (.int .u8 128)))) fun x3 =>
 bd (pu (pV x0.ng.ng x3.ng (.bool false))) fun x4 =>
  br x4.ng (
 bd (pu (evIdx (.int .i64 0) a0.ng.ng)) fun x5 =>
 bd (pu (eC σ (.toInt .i32) x5.ng)) fun x6 =>
  nK σ.length σ (.tup [x6.ng.ng, (.int .i64 1)])) (
 bd (M.call 105 [a0.ng.ng] σ) fun p7 =>
 bd (pu (eX 0 p7.1.ng.ng)) fun x8 =>
 bd (pu (eX 1 p7.1.ng.ng)) fun x9 =>
  nK σ.length p7.2 (.tup [x8.ng.ng, x9.ng.ng]))
theorem k_Z14 (M : Mach) (a0 : V) (σ : Objs) : fnK M c_Z14 [a0] σ = s_Z14 M a0 σ := by kernel_rfl
def c_Zw : Ev.Fn := ⟨9, [.tmp 4], false, false, (.seq (.ops 0 [⟨some 4, none, .mv (.c (.bool false)) false⟩]) (.seq (.ops 1 [mvF 5 0, mvF 6 1, ⟨some 7, none, .call 106 [(.t 5), (.t 6)]⟩, ⟨some 8, none, .bin .geq .no (.t 7) (.c (.int .i64 0))⟩, mvF 4 8]) .ret))⟩
theorem ok_c_Zw : chkFn Tryz.prog 91 c_Zw = true := chkFn_of Tryz.func91 (by kernel_rfl)
def s_Zw (M : Mach) (a0 a1 : V) (σ : Objs) : Ro :=
 bd (M.call 106 [a0.ng.ng, a1.ng.ng] σ) fun p0 =>
 bd (pu (eB .geq .no p0.1.ng (.int .i64 0))) fun x1 =>
 bd (oK false x1.ng) (nK σ.length p0.2)
theorem k_Zw (M : Mach) (a0 a1 : V) (σ : Objs) : fnK M c_Zw [a0, a1] σ = s_Zw M a0 a1 σ := by kernel_rfl
def c_Z1n : Ev.Fn := ⟨12, [.tmp 2], false, false, (.seq (.ops 0 [⟨some 2, none, .mv (.c (.int .i64 0)) false⟩]) (.seq (.seq (.ops 1 [mvF 3 0, ⟨some 4, none, .bin .geq .no (.t 3) (.c (.int .i64 65))⟩, mvF 5 4, ⟨some 6, (some (5, true)), .mv (.t 0) false⟩, ⟨some 7, (some (5, true)), .bin .leq .no (.t 6) (.c (.int .i64 90))⟩, ⟨some 8, none, .pick (.t 5) (.t 7) (.c (.bool false))⟩]) (.cond (.t 8) (.seq (.ops 2 [mvF 9 0, ⟨some 10, none, .bin .add .no (.t 9) (.c (.int .i64 32))⟩, mvF 2 10]) .ret) .skip)) (.seq (.ops 3 [mvF 11 0, mvF 2 11]) .ret)))⟩
theorem ok_c_Z1n : chkFn Tryz.prog 92 c_Z1n = true := chkFn_of Tryz.func92 (by kernel_rfl)
def s_Z1n (M : Mach) (a0 : V) (σ : Objs) : Ro :=
 bd (pu (eB .geq .no a0.ng.ng (.int .i64 65))) fun x0 =>
 bd (gdv x0.ng true (some a0.ng)) fun x1 =>
 bd (gdv x0.ng true (pu (eB .leq .no x1.ng (.int .i64 90)))) fun x2 =>
 bd (pu (pV x0.ng.ng x2.ng (.bool false))) fun x3 =>
  br x3.ng (
 bd (pu (eB .add .no a0.ng.ng (.int .i64 32))) fun x4 =>
 bd (oK false x4.ng) (nK σ.length σ)) (
 bd (oK false a0.ng.ng) (nK σ.length σ))
theorem k_Z1n (M : Mach) (a0 : V) (σ : Objs) : fnK M c_Z1n [a0] σ = s_Z1n M a0 σ := by kernel_rfl
def c_Zl : Ev.Fn := ⟨54, [.tmp 4], false, false, (.seq (.ops 0 [⟨some 4, none, .mv (.c (.str [])) false⟩]) (.seq (.seq (.ops 1 [mvF 10 1, ⟨some 11, none, .bin .eql .no (.t 10) (.c (.int .i64 10))⟩]) (.cond (.t 11) (.seq (.seq (.ops 2 [mvF 12 0, ⟨some 13, none, .bin .leq .no (.c (.int .i64 0)) (.t 12)⟩, mvF 14 13, ⟨some 15, (some (14, true)), .mv (.t 0) false⟩, ⟨some 16, (some (14, true)), .bin .lss .no (.t 15) (.c (.int .i64 100))⟩, ⟨some 17, none, .pick (.t 14) (.t 16) (.c (.bool false))⟩]) (.cond (.t 17) (.seq (.ops 3 [mvF 18 0, ⟨some 19, none, .call 107 [.t 18]⟩, mvF 4 19]) .ret) .skip)) (.seq (.ops 4 [⟨some 5, none, .alloc [(.int .u8 0), (.int .u8 0), (.int .u8 0), (.int .u8 0), (.int .u8 0), (.int .u8 0), (.int .u8 0), (.int .u8 0), (.int .u8 0), (.int .u8 0), (.int .u8 0), (.int .u8 0), (.int .u8 0), (.int .u8 0), (.int .u8 0), (.int .u8 0), (.int .u8 0), (.int .u8 0), (.int .u8 0), (.int .u8 0), (.int .u8 0), (.int .u8 0), (.int .u8 0), (.int .u8 0)]⟩]) (.seq (.ops 5 [mvF 20 0, ⟨some 21, none, .conv (.toInt .u64) (.t 20)⟩, mvF 6 21]) (.seq (.seq (.ops 6 [mvF 22 0, ⟨some 23, none, .bin .lss .no (.t 22) (.c (.int .i64 0))⟩]) (.cond (.t 23) (.ops 7 [mvF 24 6, ⟨some 25, none, .un .neg (.t 24)⟩, mvF 6 25]) .skip)) (.seq (.ops 8 [mvF 26 6, ⟨some 27, none, .call 108 [.t 26]⟩, mvF 7 27]) (.seq (.ops 9 [mvF 28 7, ⟨some 29, none, .bin .add .no (.c (.int .i64 1)) (.t 28)⟩, ⟨some 30, none, .cutA 24 1 false (.t 5) (some (.c (.int .i64 1))) (some (.t 29))⟩, mvF 31 6, ⟨some 32, none, .call 109 [(.t 30), (.t 31)]⟩]) (.seq (.seq (.ops 10 [mvF 33 0, ⟨some 34, none, .bin .lss .no (.t 33) (.c (.int .i64 0))⟩]) (.cond (.t 34) (.seq (.ops 11 [⟨some 35, none, .iaddrA 24 1 (.t 5) (.c (.int .i64 0))⟩, ⟨none, none, .store 1 (.t 35) (.c (.int .u8 45)) false⟩]) (.seq (.ops 12 [mvF 36 7, ⟨some 37, none, .bin .add .no (.c (.int .i64 1)) (.t 36)⟩, ⟨some 38, none, .cutA 24 1 false (.t 5) none (some (.t 37))⟩, ⟨some 39, none, .conv .bytesStr (.t 38)⟩, mvF 4 39]) .ret)) .skip)) (.seq (.ops 13 [mvF 40 7, ⟨some 41, none, .bin .add .no (.c (.int .i64 1)) (.t 40)⟩, ⟨some 42, none, .cutA 24 1 false (.t 5) (some (.c (.int .i64 1))) (some (.t 41))⟩, ⟨some 43, none, .conv .bytesStr (.t 42)⟩, mvF 4 43]) .ret)))))))) .skip)) (.seq (.ops 14 [mvF 45 0, ⟨some 46, none, .conv (.toInt .u64) (.t 45)⟩, mvF 47 1, mvF 48 0, ⟨some 49, none, .bin .lss .no (.t 48) (.c (.int .i64 0))⟩, ⟨some 50, none, .call 110 [(.c .nils), (.t 46), (.t 47), (.t 49), (.c (.bool false))]⟩, mvF 44 50, ⟨some 51, none, .extr (.t 44) 0⟩, ⟨some 52, none, .extr (.t 44) 1⟩, mvF 8 51, mvF 9 52]) (.seq (.ops 15 [mvF 53 9, mvF 4 53]) .ret))))⟩
theorem ok_c_Zl : chkFn Tryz.prog 95 c_Zl = true := chkFn_of Tryz.func95 (by kernel_rfl)
def j_Zl_0 (M : Mach) (n0 : Nat) (z0 z5 z6 : V) (σ : Objs) : Ro :=
 bd (M.call 108 [z6.ng.ng] σ) fun p8 =>
 bd (pu (eB .add .no (.int .i64 1) p8.1.ng.ng.ng)) fun x9 =>
 bd (pu (evCutA 24 1 false z5.ng (some (.int .i64 1)) (some x9.ng))) fun x10 =>
 bd (M.call 109 [x10.ng, z6.ng.ng] p8.2) fun p11 =>
 bd (pu (eB .lss .no z0.ng.ng (.int .i64 0))) fun x12 =>
  br x12.ng (
 bd (pu (evIaddrA 24 1 (.int .i64 0) z5.ng)) fun x13 =>
 bd (stV p11.2 1 x13.ng (.int .u8 45) (.int .u8 45)) fun p14 =>
 bd (pu (eB .add .no (.int .i64 1) p8.1.ng.ng.ng)) fun x15 =>
 bd (pu (evCutA 24 1 false z5.ng none (some x15.ng))) fun x16 =>
 bd (pu (eC p14.2 .bytesStr x16.ng)) fun x17 =>
 bd (oK false x17.ng) (nK n0 p14.2)) (
 bd (pu (eB .add .no (.int .i64 1) p8.1.ng.ng.ng)) fun x18 =>
 bd (pu (evCutA 24 1 false z5.ng (some (.int .i64 1)) (some x18.ng))) fun x19 =>
 bd (pu (eC p11.2 .bytesStr x19.ng)) fun x20 =>
 bd (oK false x20.ng) (nK n0 p11.2))
def s_Zl (M : Mach) (a0 a1 : V) (σ : Objs) : Ro :=
 bd (pu (eB .eql .no a1.ng.ng (.int .i64 10))) fun x0 =>
  br x0.ng (
 bd (pu (eB .leq .no (.int .i64 0) a0.ng.ng)) fun x1 =>
 bd (gdv x1.ng true (some a0.ng)) fun x2 =>
 bd (gdv x1.ng true (pu (eB .lss .no x2.ng (.int .i64 100)))) fun x3 =>
 bd (pu (pV x1.ng.ng x3.ng (.bool false))) fun x4 =>
  br x4.ng (
 bd (M.call 107 [a0.ng.ng] σ) fun p5 =>
 bd (oK false p5.1.ng) (nK σ.length p5.2)) (
  let s6 : Objs := σ ++ [.cells [(.int .u8 0), (.int .u8 0), (.int .u8 0), (.int .u8 0), (.int .u8 0), (.int .u8 0), (.int .u8 0), (.int .u8 0), (.int .u8 0), (.int .u8 0), (.int .u8 0), (.int .u8 0), (.int .u8 0), (.int .u8 0), (.int .u8 0), (.int .u8 0), (.int .u8 0), (.int .u8 0), (.int .u8 0), (.int .u8 0), (.int .u8 0), (.int .u8 0), (.int .u8 0), (.int .u8 0)]]
 bd (pu (eC s6 (.toInt .u64) a0.ng.ng)) fun x7 =>
 bd (pu (eB .lss .no a0.ng.ng (.int .i64 0))) fun x21 =>
  br x21.ng (
 bd (pu (evUn .neg x7.ng.ng.ng)) fun x22 =>
  j_Zl_0 M σ.length a0 (.ptr σ.length 0) x22.ng s6) (
  j_Zl_0 M σ.length a0 (.ptr σ.length 0) x7.ng s6))) (
 bd (pu (eC σ (.toInt .u64) a0.ng.ng)) fun x23 =>
 bd (pu (eB .lss .no a0.ng.ng (.int .i64 0))) fun x24 =>
 bd (M.call 110 [.nils, x23.ng, a1.ng.ng, x24.ng, (.bool false)] σ) fun p25 =>
 bd (pu (eX 0 p25.1.ng.ng)) fun x26 =>
 bd (pu (eX 1 p25.1.ng.ng)) fun x27 =>
 bd (oK false x27.ng.ng.ng) (nK σ.length p25.2))
theorem k_Zl (M : Mach) (a0 a1 : V) (σ : Objs) : fnK M c_Zl [a0, a1] σ = s_Zl M a0 a1 σ := by kernel_rfl
def c_Z1b : Ev.Fn := ⟨54, [.tmp 2], false, false, (.seq (.ops 0 [⟨some 2, none, .mv (.c .nils) false⟩]) (.seq (.seq (.ops 1 [mvF 3 0, ⟨some 4, none, .bin .lss .no (.t 3) (.c (.int .i64 128))⟩]) (.cond (.t 4) (.seq (.ops 2 [mvF 5 0, ⟨some 6, none, .conv (.toInt .u8) (.t 5)⟩, ⟨some 7, none, .buildSl false 1 1 (.int .u8 0) [(0, (.t 6))] false⟩, mvT 2 7]) .ret) .skip)) (.seq (.seq (.ops 3 [mvF 8 0, ⟨some 9, none, .bin .lss .no (.t 8) (.c (.int .i64 2048))⟩]) (.cond (.t 9) (.seq (.ops 4 [mvF 10 0, ⟨some 11, none, .bin .quo .no (.t 10) (.c (.int .i64 64))⟩, ⟨some 12, none, .bin .add .no (.c (.int .i64 192)) (.t 11)⟩, ⟨some 13, none, .conv (.toInt .u8) (.t 12)⟩, mvF 14 0, ⟨some 15, none, .bin .rem .no (.t 14) (.c (.int .i64 64))⟩, ⟨some 16, none, .bin .add .no (.c (.int .i64 128)) (.t 15)⟩, ⟨some 17, none, .conv (.toInt .u8) (.t 16)⟩, ⟨some 18, none, .buildSl false 1 2 (.int .u8 0) [(0, (.t 13)), (1, (.t 17))] false⟩, mvT 2 18]) .ret) .skip)) (.seq (.seq (.ops 5 [mvF 19 0, ⟨some 20, none, .bin .lss .no (.t 19) (.c (.int .i64 65536))⟩]) (.cond (.t 20) (.seq (.ops 6 [mvF 21 0, ⟨some 22, none, .bin .quo .no (.t 21) (.c (.int .i64 4096))⟩, ⟨some 23, none, .bin .add .no (.c (.int .i64 224)) (.t 22)⟩, ⟨some 24, none, .conv (.toInt .u8) (.t 23)⟩, mvF 25 0, ⟨some 26, none, .bin .quo .no (.t 25) (.c (.int .i64 64))⟩, ⟨some 27, none, .bin .rem .no (.t 26) (.c (.int .i64 64))⟩, ⟨some 28, none, .bin .add .no (.c (.int .i64 128)) (.t 27)⟩, ⟨some 29, none, .conv (.toInt .u8) (.t 28)⟩, mvF 30 0, ⟨some 31, none, .bin .rem .no (.t 30) (.c (.int .i64 64))⟩, ⟨some 32, none, .bin .add .no (.c (.int .i64 128)) (.t 31)⟩, ⟨some 33, none, .conv (.toInt .u8) (.t 32)⟩, ⟨some 34, none, .buildSl false 1 3 (.int .u8 0) [(0, (.t 24)), (1, (.t 29)), (2, (.t 33))] false⟩, mvT 2 34]) .ret) .skip)) (.seq (.ops 7 [mvF 35 0, ⟨some 36, none, .bin .quo .no (.t 35) (.c (.int .i64 262144))⟩, ⟨some 37, none, .bin .add .no (.c (.int .i64 240)) (.t 36)⟩, ⟨some 38, none, .conv (.toInt .u8) (.t 37)⟩, mvF 39 0, ⟨some 40, none, .bin .quo .no (.t 39) (.c (.int .i64 4096))⟩, ⟨some 41, none, .bin .rem .no (.t 40) (.c (.int .i64 64))⟩, ⟨some 42, none, .bin .add .no (.c (.int .i64 128)) (.t 41)⟩, ⟨some 43, none, .conv (.toInt .u8) (.t 42)⟩, mvF 44 0, ⟨some 45, none, .bin .quo .no (.t 44) (.c (.int .i64 64))⟩, ⟨some 46, none, .bin .rem .no (.t 45) (.c (.int .i64 64))⟩, ⟨some 47, none, .bin .add .no (.c (.int .i64 128)) (.t 46)⟩, ⟨some 48, none, .conv (.toInt .u8) (.t 47)⟩, mvF 49 0, ⟨some 50, none, .bin .rem .no (.t 49) (.c (.int .i64 64))⟩, ⟨some 51, none, .bin .add .no (.c (.int .i64 128)) (.t 50)⟩, ⟨some 52, none, .conv (.toInt .u8) (.t 51)⟩, ⟨some 53, none, .buildSl false 1 4 (.int .u8 0) [(0, (.t 38)), (1, (.t 43)), (2, (.t 48)), (3, (.t 52))] false⟩, mvT 2 53]) .ret)))))⟩
theorem ok_c_Z1b : chkFn Tryz.prog 103 c_Z1b = true := chkFn_of Tryz.func103 (by kernel_rfl)
def s_Z1b (M : Mach) (a0 : V) (σ : Objs) : Ro :=
 bd (pu (eB .lss .no a0.ng.ng (.int .i64 128))) fun x0 =>
  br x0.ng (
 bd (pu (eC σ (.toInt .u8) a0.ng.ng)) fun x1 =>
 bd (buildFV false 1 1 (.int .u8 0) [(0, x1.ng)]) fun x2 =>
 bd (oK false x2) (nK σ.length σ)) (
 bd (pu (eB .lss .no a0.ng.ng (.int .i64 2048))) fun x3 =>
  br x3.ng (
 bd (pu (eB .quo .no a0.ng.ng (.int .i64 64))) fun x4 =>
 bd (pu (eB .add .no (.int .i64 192) x4.ng)) fun x5 =>
 bd (pu (eC σ (.toInt .u8) x5.ng)) fun x6 =>
 bd (pu (eB .rem .no a0.ng.ng (.int .i64 64))) fun x7 =>
 bd (pu (eB .add .no (.int .i64 128) x7.ng)) fun x8 =>
 bd (pu (eC σ (.toInt .u8) x8.ng)) fun x9 =>
 bd (buildFV false 1 2 (.int .u8 0) [(0, x6.ng), (1, x9.ng)]) fun x10 =>
 bd (oK false x10) (nK σ.length σ)) (
 bd (pu (eB .lss .no a0.ng.ng (.int .i64 65536))) fun x11 =>
  br x11.ng (
 bd (pu (eB .quo .no a0.ng.ng (.int .i64 4096))) fun x12 =>
 bd (pu (eB .add .no (.int .i64 224) x12.ng)) fun x13 =>
 bd (pu (eC σ (.toInt .u8) x13.ng)) fun x14 =>
 bd (pu (eB .quo .no a0.ng.ng (.int .i64 64))) fun x15 =>
 bd (pu (eB .rem .no x15.ng (.int .i64 64))) fun x16 =>
 bd (pu (eB .add .no (.int .i64 128) x16.ng)) fun x17 =>
 bd (pu (eC σ (.toInt .u8) x17.ng)) fun x18 =>
 bd (pu (eB .rem .no a0.ng.ng (.int .i64 64))) fun x19 =>
 bd (pu (eB .add .no (.int .i64 128) x19.ng)) fun x20 =>
 bd (pu (eC σ (.toInt .u8) x20.ng)) fun x21 =>
 bd (buildFV false 1 3 (.int .u8 0) [(0, x14.ng), (1, x18.ng), (2, x21.ng)]) fun x22 =>
 bd (oK false x22) (nK σ.length σ)) (
 bd (pu (eB .quo .no a0.ng.ng (.int .i64 262144))) fun x23 =>
 bd (pu (eB .add .no (.int .i64 240) x23.ng)) fun x24 =>
 bd (pu (eC σ (.toInt .u8) x24.ng)) fun x25 =>
 bd (pu (eB .quo .no a0.ng.ng (.int .i64 4096))) fun x26 =>
 bd (pu (eB .rem .no x26.ng (.int .i64 64))) fun x27 =>
 bd (pu (eB .add .no (.int .i64 128) x27.ng)) fun x28 =>
 bd (pu (eC σ (.toInt .u8) x28.ng)) fun x29 =>
 bd (pu (eB .quo .no a0.ng.ng (.int .i64 64))) fun x30 =>
 bd (pu (eB .rem .no x30.ng (.int .i64 64))) fun x31 =>
 bd (pu (eB .add .no (.int .i64 128) x31.ng)) fun x32 =>
 bd (pu (eC σ (.toInt .u8) x32.ng)) fun x33 =>
 bd (pu (eB .rem .no a0.ng.ng (.int .i64 64))) fun x34 =>
 bd (pu (eB .add .no (.int .i64 128) x34.ng)) fun x35 =>
 bd (pu (eC σ (.toInt .u8) x35.ng)) fun x36 =>
 bd (buildFV false 1 4 (.int .u8 0) [(0, x25.ng), (1, x29.ng), (2, x33.ng), (3, x36.ng)]) fun x37 =>
 bd (oK false x37) (nK σ.length σ))))
theorem k_Z1b (M : Mach) (a0 : V) (σ : Objs) : fnK M c_Z1b [a0] σ = s_Z1b M a0 σ := by kernel_rfl
def c_Z1f : Ev.Fn := ⟨20, [.tmp 6], false, false, (.seq (.ops 0 [⟨some 6, none, .mv (.c .nils) false⟩]) (.seq (.ops 1 [⟨some 8, none, .buildSl false 1 0 .any [] false⟩, mvT 9 0, ⟨some 10, none, .app false false 1 1 (.t 8) (.t 9) true⟩, mvT 7 10]) (.seq (.block 0 (.loop [1, 2, 7] [6, 7] (.seq (.seq (.ops 2 [mvF 11 7, ⟨some 12, none, .len (.t 11)⟩, mvF 13 2, ⟨some 14, none, .bin .lss .no (.t 12) (.t 13)⟩]) (.cond (.t 14) .skip (.exit 0))) (.block 1 (.ops 3 [mvT 15 7, mvF 16 1, ⟨some 17, none, .buildSl false 1 1 (.int .u8 0) [(0, (.t 16))] false⟩, ⟨some 18, none, .app false false 1 1 (.t 15) (.t 17) true⟩, mvT 7 18]))))) (.seq (.ops 4 [mvT 19 7, mvT 6 19]) .ret))))⟩
theorem ok_c_Z1f : chkFn Tryz.prog 104 c_Z1f = true := chkFn_of Tryz.func104 (by kernel_rfl)
def b_Z1f_0 (M : Mach) (n0 : Nat) (n1 : Nat) (r1 : Rk) (z1 z2 z7 : V) (σ : Objs) : Ro :=
 bd (pu (evLen z7.ng.ng)) fun x2 =>
 bd (pu (eB .lss .no x2.ng z2.ng.ng)) fun x3 =>
  br x3.ng (
 bd (buildFV false 1 1 (.int .u8 0) [(0, z1.ng.ng)]) fun x4 =>
 bd (appV false false 1 1 σ z7 x4.ng) fun x5 =>
 bd (fz n1 σ fzD z1) fun y6 =>
 bd (fz n1 σ fzD z2) fun y7 =>
 bd (fz n1 σ fzD x5) fun y8 =>
 bd (cuO n1 σ) fun s9 => r1 [y6, y7, y8] s9) (
 bd (fz n1 σ fzD .any) fun y10 =>
 bd (fz n1 σ fzD z7) fun y11 =>
 bd (cuO n1 σ) fun s12 =>
 bd (oK false y11) (nK n0 s12))
def l_Z1f_0 (M : Mach) (n0 : Nat) (n1 : Nat) : Rk := M.fx fun rec vs σ => b_Z1f_0 M n0 n1 rec (vs.getD 0 .undef) (vs.getD 1 .undef) (vs.getD 2 .undef) σ
def s_Z1f (M : Mach) (a0 a1 a2 : V) (σ : Objs) : Ro :=
 bd (buildFV false 1 0 .any []) fun x0 =>
 bd (appV false false 1 1 σ x0 a0.ng) fun x1 =>
 bd (fz σ.length σ fzD a1) fun y13 =>
 bd (fz σ.length σ fzD a2) fun y14 =>
 bd (fz σ.length σ fzD x1) fun y15 =>
  l_Z1f_0 M σ.length σ.length [y13, y14, y15] σ
theorem k_Z1f (M : Mach) (a0 a1 a2 : V) (σ : Objs) : fnK M c_Z1f [a0, a1, a2] σ = s_Z1f M a0 a1 a2 σ := by kernel_rfl
def c_Z1v : Ev.Fn := ⟨67, [.tmp 4, .tmp 5], false, false, (.seq (.ops 0 [⟨some 4, none, .mv (.c (.int .i64 0)) false⟩, ⟨some 5, none, .mv (.c (.int .i64 0)) false⟩]) (.seq (.ops 1 [mvF 8 1, ⟨some 9, none, .bin .add .no (.t 8) (.c (.int .i64 1))⟩, mvF 6 9, ⟨some 7, none, .mv (.c (.int .i64 0)) false⟩]) (.seq (.seq (.ops 2 [mvF 10 6, mvF 11 0, ⟨some 12, none, .len (.t 11)⟩, ⟨some 13, none, .bin .geq .no (.t 10) (.t 12)⟩]) (.cond (.t 13) (.seq (.ops 3 [mvF 14 6, ⟨some 4, none, .mv (.c (.int .i64 65533)) false⟩, mvF 5 14]) .ret) .skip)) (.seq (.block 0 (.loop [0, 1, 6, 7] [0, 1, 4, 5, 6, 7] (.seq (.seq (.ops 4 [mvF 15 6, mvF 16 0, ⟨some 17, none, .len (.t 16)⟩, ⟨some 18, none, .bin .lss .no (.t 15) (.t 17)⟩, mvF 19 18, ⟨some 20, (some (19, true)), .mv (.t 6) false⟩, ⟨some 21, (some (19, true)), .mv (.t 1) false⟩, ⟨some 22, (some (19, true)), .bin .add .no (.t 21) (.c (.int .i64 7))⟩, ⟨some 23, (some (19, true)), .bin .lss .no (.t 20) (.t 22)⟩, ⟨some 24, none, .pick (.t 19) (.t 23) (.c (.bool false))⟩, mvF 25 24, ⟨some 26, (some (25, true)), .mv (.t 0) false⟩, ⟨some 27, (some (25, true)), .mv (.t 6) false⟩, ⟨some 28, (some (25, true)), .iaddr 1 (.t 26) (.t 27)⟩, ⟨some 29, (some (25, true)), .load false 1 (.t 28)⟩, ⟨some 30, (some (25, true)), .call 111 [.t 29]⟩, ⟨some 31, (some (25, true)), .bin .geq .no (.t 30) (.c (.int .i64 0))⟩, ⟨some 32, none, .pick (.t 25) (.t 31) (.c (.bool false))⟩]) (.cond (.t 32) .skip (.exit 0))) (.block 1 (.seq (.ops 5 [mvF 33 7, ⟨some 34, none, .bin .mul .no (.c (.int .i64 16)) (.t 33)⟩, mvF 35 0, mvF 36 6, ⟨some 37, none, .iaddr 1 (.t 35) (.t 36)⟩, ⟨some 38, none, .load false 1 (.t 37)⟩, ⟨some 39, none, .call 111 [.t 38]⟩, ⟨some 40, none, .bin .add .no (.t 34) (.t 39)⟩, mvF 7 40]) (.ops 6 [mvF 41 6, ⟨some 42, none, .bin .add .no (.t 41) (.c (.int .i64 1))⟩, mvF 6 42])))))) (.seq (.seq (.ops 7 [mvF 43 6, mvF 44 1, ⟨some 45, none, .bin .add .no (.t 44) (.c (.int .i64 1))⟩, ⟨some 46, none, .bin .eql .no (.t 43) (.t 45)⟩]) (.cond (.t 46) (.seq (.ops 8 [mvT 47 0, mvF 48 6, ⟨some 49, none, .iaddr 1 (.t 47) (.t 48)⟩, ⟨some 50, none, .load false 1 (.t 49)⟩, mvF 51 6, ⟨some 52, none, .bin .add .no (.t 51) (.c (.int .i64 1))⟩, mvF 4 50, mvF 5 52]) .ret) .skip)) (.seq (.seq (.ops 9 [mvT 53 0, mvF 54 6, ⟨some 55, none, .call 75 [(.t 53), (.t 54)]⟩]) (.cond (.t 55) (.ops 10 [mvF 56 6, ⟨some 57, none, .bin .add .no (.t 56) (.c (.int .i64 1))⟩, mvF 6 57]) .skip)) (.seq (.seq (.ops 11 [mvF 58 7, ⟨some 59, none, .bin .eql .no (.t 58) (.c (.int .i64 0))⟩, mvF 60 59, ⟨some 61, (some (60, false)), .mv (.t 7) false⟩, ⟨some 62, (some (60, false)), .call 51 [.t 61]⟩, ⟨some 63, (some (60, false)), .un .not (.t 62)⟩, ⟨some 64, none, .pick (.t 60) (.c (.bool true)) (.t 63)⟩]) (.cond (.t 64) (.ops 12 [⟨some 7, none, .mv (.c (.int .i64 65533)) false⟩]) .skip)) (.seq (.ops 13 [mvF 65 7, mvF 66 6, mvF 4 65, mvF 5 66]) .ret))))))))⟩
theorem ok_c_Z1v : chkFn Tryz.prog 96 c_Z1v = true := chkFn_of Tryz.func96 (by kernel_rfl)
def j_Z1v_1 (M : Mach) (n0 : Nat) (z6 z7 : V) (σ : Objs) : Ro :=
  nK n0 σ (.tup [z7.ng.ng.ng, z6.ng.ng.ng])
def j_Z1v_0 (M : Mach) (n0 : Nat) (z6 z7 : V) (σ : Objs) : Ro :=
 bd (pu (eB .eql .no z7.ng.ng (.int .i64 0))) fun x40 =>
 bd (gdv x40.ng false (some z7.ng)) fun x41 =>
 bd (gdp x40.ng false (M.call 51 [x41.ng] σ) σ) fun p42 =>
 bd (gdv x40.ng false (pu (evUn .not p42.1.ng))) fun x43 =>
 bd (pu (pV x40.ng.ng (.bool true) x43.ng)) fun x44 =>
  br x44.ng (
  j_Z1v_1 M n0 z6 (.int .i64 65533) p42.2) (
  j_Z1v_1 M n0 z6 z7 p42.2)
def b_Z1v_0 (M : Mach) (n0 : Nat) (n1 : Nat) (r1 : Rk) (z0 z1 z6 z7 : V) (σ : Objs) : Ro :=
 bd (pu (evLen z0.ng.ng)) fun x3 =>
 bd (pu (eB .lss .no z6.ng.ng x3.ng)) fun x4 =>
 bd (gdv x4.ng true (some z6.ng)) fun x5 =>
 bd (gdv x4.ng true (some z1.ng)) fun x6 =>
 bd (gdv x4.ng true (pu (eB .add .no x6.ng (.int .i64 7)))) fun x7 =>
 bd (gdv x4.ng true (pu (eB .lss .no x5.ng x7.ng))) fun x8 =>
 bd (pu (pV x4.ng.ng x8.ng (.bool false))) fun x9 =>
 bd (gdv x9.ng true (some z0.ng)) fun x10 =>
 bd (gdv x9.ng true (some z6.ng)) fun x11 =>
 bd (gdv x9.ng true (pu (eI 1 x11.ng x10.ng))) fun x12 =>
 bd (gdv x9.ng true (pu (eL σ false 1 x12.ng))) fun x13 =>
 bd (gdp x9.ng true (M.call 111 [x13.ng] σ) σ) fun p14 =>
 bd (gdv x9.ng true (pu (eB .geq .no p14.1.ng (.int .i64 0)))) fun x15 =>
 bd (pu (pV x9.ng.ng x15.ng (.bool false))) fun x16 =>
  br x16.ng (
 bd (pu (eB .mul .no (.int .i64 16) z7.ng.ng)) fun x17 =>
 bd (pu (eI 1 z6.ng.ng z0.ng.ng)) fun x18 =>
 bd (pu (eL p14.2 false 1 x18.ng)) fun x19 =>
 bd (M.call 111 [x19.ng] p14.2) fun p20 =>
 bd (pu (eB .add .no x17.ng p20.1.ng)) fun x21 =>
 bd (pu (eB .add .no z6.ng.ng (.int .i64 1))) fun x22 =>
 bd (fz n1 p20.2 fzD z0) fun y23 =>
 bd (fz n1 p20.2 fzD z1) fun y24 =>
 bd (fz n1 p20.2 fzD x22.ng) fun y25 =>
 bd (fz n1 p20.2 fzD x21.ng) fun y26 =>
 bd (cuO n1 p20.2) fun s27 => r1 [y23, y24, y25, y26] s27) (
 bd (fz n1 p14.2 fzD z0) fun y28 =>
 bd (fz n1 p14.2 fzD z1) fun y29 =>
 bd (fz n1 p14.2 fzD .any) fun y30 =>
 bd (fz n1 p14.2 fzD .any) fun y31 =>
 bd (fz n1 p14.2 fzD z6) fun y32 =>
 bd (fz n1 p14.2 fzD z7) fun y33 =>
 bd (cuO n1 p14.2) fun s34 =>
 bd (pu (eB .add .no y29.ng.ng (.int .i64 1))) fun x35 =>
 bd (pu (eB .eql .no y32.ng.ng x35.ng)) fun x36 =>
  br x36.ng (
 bd (pu (eI 1 y32.ng.ng y28.ng)) fun x37 =>
 bd (pu (eL s34 false 1 x37.ng)) fun x38 =>
 bd (pu (eB .add .no y32.ng.ng (.int .i64 1))) fun x39 =>
  nK n0 s34 (.tup [x38.ng.ng, x39.ng.ng])) (
 bd (M.call 75 [y28.ng, y32.ng.ng] s34) fun p45 =>
  br p45.1.ng (
 bd (pu (eB .add .no y32.ng.ng (.int .i64 1))) fun x46 =>
  j_Z1v_0 M n0 x46.ng y33 p45.2) (
  j_Z1v_0 M n0 y32 y33 p45.2)))
def l_Z1v_0 (M : Mach) (n0 : Nat) (n1 : Nat) : Rk := M.fx fun rec vs σ => b_Z1v_0 M n0 n1 rec (vs.getD 0 .undef) (vs.getD 1 .undef) (vs.getD 2 .undef) (vs.getD 3 .undef) σ
def s_Z1v (M : Mach) (a0 a1 : V) (σ : Objs) : Ro :=
 bd (pu (eB .add .no a1.ng.ng (.int .i64 1))) fun x0 =>
 bd (pu (evLen a0.ng.ng)) fun x1 =>
 bd (pu (eB .geq .no x0.ng.ng.ng x1.ng)) fun x2 =>
  br x2.ng (
  nK σ.length σ (.tup [(.int .i64 65533), x0.ng.ng.ng.ng])) (
 bd (fz σ.length σ fzD a0) fun y47 =>
 bd (fz σ.length σ fzD a1) fun y48 =>
 bd (fz σ.length σ fzD x0.ng) fun y49 =>
 bd (fz σ.length σ fzD (.int .i64 0)) fun y50 =>
  l_Z1v_0 M σ.length σ.length [y47, y48, y49, y50] σ)
theorem k_Z1v (M : Mach) (a0 a1 : V) (σ : Objs) : fnK M c_Z1v [a0, a1] σ = s_Z1v M a0 a1 σ := by kernel_rfl
def c_Z1y : Ev.Fn := ⟨16, [.tmp 4], false, false, (.seq (.ops 0 [⟨some 4, none, .mv (.c (.bool false)) false⟩]) (.seq (.ops 1 [mvF 5 1, mvF 6 0, ⟨some 7, none, .len (.t 6)⟩, ⟨some 8, none, .bin .lss .no (.t 5) (.t 7)⟩, mvF 9 8, ⟨some 10, (some (9, true)), .mv (.t 0) true⟩, ⟨some 11, (some (9, true)), .mv (.t 1) false⟩, ⟨some 12, (some (9, true)), .iaddr 1 (.t 10) (.t 11)⟩, ⟨some 13, (some (9, true)), .load false 1 (.t 12)⟩, ⟨some 14, (some (9, true)), .call 38 [.t 13]⟩, ⟨some 15, none, .pick (.t 9) (.t 14) (.c (.bool false))⟩, mvF 4 15]) .ret))⟩
theorem ok_c_Z1y : chkFn Tryz.prog 97 c_Z1y = true := chkFn_of Tryz.func97 (by kernel_rfl)
def s_Z1y (M : Mach) (a0 a1 : V) (σ : Objs) : Ro :=
 bd (pu (evLen a0.ng.ng)) fun x0 =>
 bd (pu (eB .lss .no a1.ng.ng x0.ng)) fun x1 =>
  gd x1.ng true (
 bd (gdv x1.ng true (some a1.ng)) fun x2 =>
 bd (gdv x1.ng true (pu (eI 1 x2.ng a0.ng))) fun x3 =>
 bd (gdv x1.ng true (pu (eL σ false 1 x3.ng))) fun x4 =>
 bd (gdp x1.ng true (M.call 38 [x4.ng] σ) σ) fun p5 =>
 bd (pu (pV x1.ng.ng p5.1.ng (.bool false))) fun x6 =>
 bd (oK false x6.ng) (nK σ.length p5.2)) (
 bd (gdv x1.ng true (some a1.ng)) fun x7 =>
 bd (gdv x1.ng true (pu (eI 1 x7.ng .undef))) fun x8 =>
 bd (gdv x1.ng true (pu (eL σ false 1 x8.ng))) fun x9 =>
 bd (gdp x1.ng true (M.call 38 [x9.ng] σ) σ) fun p10 =>
 bd (pu (pV x1.ng.ng p10.1.ng (.bool false))) fun x11 =>
 bd (oK false x11.ng) (nK σ.length p10.2))
theorem k_Z1y (M : Mach) (a0 a1 : V) (σ : Objs) : fnK M c_Z1y [a0, a1] σ = s_Z1y M a0 a1 σ := by kernel_rfl
def c_Z1z : Ev.Fn := ⟨70, [.tmp 4, .tmp 5], false, false, (.seq (.ops 0 [⟨some 4, none, .mv (.c (.int .i64 0)) false⟩, ⟨some 5, none, .mv (.c (.bool false)) false⟩]) (.seq (.ops 1 [⟨some 6, none, .mv (.c (.bool true)) false⟩]) (.seq (.seq (.ops 2 [mvF 8 0, mvF 9 1, ⟨some 10, none, .call 79 [(.t 8), (.t 9), (.c (.int .i64 43))]⟩, mvF 11 10, ⟨some 12, (some (11, false)), .mv (.t 0) false⟩, ⟨some 13, (some (11, false)), .mv (.t 1) false⟩, ⟨some 14, (some (11, false)), .call 79 [(.t 12), (.t 13), (.c (.int .i64 45))]⟩, ⟨some 15, none, .pick (.t 11) (.c (.bool true)) (.t 14)⟩]) (.cond (.t 15) (.ops 3 [mvF 16 1, ⟨some 17, none, .bin .add .no (.t 16) (.c (.int .i64 1))⟩, mvF 1 17]) .skip)) (.seq (.block 0 (.loop [0, 1, 6] [0, 1, 4, 5, 6] (.seq (.seq (.ops 4 [mvF 18 0, mvF 19 1, ⟨some 20, none, .call 97 [(.t 18), (.t 19)]⟩]) (.cond (.t 20) .skip (.exit 0))) (.block 1 (.ops 5 [mvF 21 1, ⟨some 22, none, .bin .add .no (.t 21) (.c (.int .i64 1))⟩, mvF 1 22]))))) (.seq (.seq (.ops 6 [mvF 23 0, mvF 24 1, ⟨some 25, none, .call 79 [(.t 23), (.t 24), (.c (.int .i64 46))]⟩, mvF 26 25, ⟨some 27, (some (26, true)), .mv (.t 0) false⟩, ⟨some 28, (some (26, true)), .mv (.t 1) false⟩, ⟨some 29, (some (26, true)), .bin .add .no (.t 28) (.c (.int .i64 1))⟩, ⟨some 30, (some (26, true)), .call 97 [(.t 27), (.t 29)]⟩, ⟨some 31, none, .pick (.t 26) (.t 30) (.c (.bool false))⟩]) (.cond (.t 31) (.seq (.ops 7 [⟨some 6, none, .mv (.c (.bool false)) false⟩]) (.seq (.ops 8 [mvF 32 1, ⟨some 33, none, .bin .add .no (.t 32) (.c (.int .i64 1))⟩, mvF 1 33]) (.block 2 (.loop [0, 1, 6] [0, 1, 4, 5, 6] (.seq (.seq (.ops 9 [mvF 34 0, mvF 35 1, ⟨some 36, none, .call 97 [(.t 34), (.t 35)]⟩]) (.cond (.t 36) .skip (.exit 2))) (.block 3 (.ops 10 [mvF 37 1, ⟨some 38, none, .bin .add .no (.t 37) (.c (.int .i64 1))⟩, mvF 1 38]))))))) .skip)) (.seq (.seq (.ops 11 [mvF 39 0, mvF 40 1, ⟨some 41, none, .call 79 [(.t 39), (.t 40), (.c (.int .i64 101))]⟩, mvF 42 41, ⟨some 43, (some (42, false)), .mv (.t 0) false⟩, ⟨some 44, (some (42, false)), .mv (.t 1) false⟩, ⟨some 45, (some (42, false)), .call 79 [(.t 43), (.t 44), (.c (.int .i64 69))]⟩, ⟨some 46, none, .pick (.t 42) (.c (.bool true)) (.t 45)⟩]) (.cond (.t 46) (.seq (.ops 12 [mvF 47 1, ⟨some 48, none, .bin .add .no (.t 47) (.c (.int .i64 1))⟩, mvF 7 48]) (.seq (.seq (.ops 13 [mvF 49 0, mvF 50 7, ⟨some 51, none, .call 79 [(.t 49), (.t 50), (.c (.int .i64 43))]⟩, mvF 52 51, ⟨some 53, (some (52, false)), .mv (.t 0) false⟩, ⟨some 54, (some (52, false)), .mv (.t 7) false⟩, ⟨some 55, (some (52, false)), .call 79 [(.t 53), (.t 54), (.c (.int .i64 45))]⟩, ⟨some 56, none, .pick (.t 52) (.c (.bool true)) (.t 55)⟩]) (.cond (.t 56) (.ops 14 [mvF 57 7, ⟨some 58, none, .bin .add .no (.t 57) (.c (.int .i64 1))⟩, mvF 7 58]) .skip)) (.seq (.ops 15 [mvF 59 0, mvF 60 7, ⟨some 61, none, .call 97 [(.t 59), (.t 60)]⟩]) (.cond (.t 61) (.seq (.ops 16 [⟨some 6, none, .mv (.c (.bool false)) false⟩]) (.seq (.ops 17 [mvF 62 7, mvF 1 62]) (.block 4 (.loop [0, 1, 6] [1, 4, 5, 6] (.seq (.seq (.ops 18 [mvF 63 0, mvF 64 1, ⟨some 65, none, .call 97 [(.t 63), (.t 64)]⟩]) (.cond (.t 65) .skip (.exit 4))) (.block 5 (.ops 19 [mvF 66 1, ⟨some 67, none, .bin .add .no (.t 66) (.c (.int .i64 1))⟩, mvF 1 67]))))))) .skip)))) .skip)) (.seq (.ops 20 [mvF 68 1, mvF 69 6, mvF 4 68, mvF 5 69]) .ret)))))))⟩
theorem ok_c_Z1z : chkFn Tryz.prog 98 c_Z1z = true := chkFn_of Tryz.func98 (by kernel_rfl)
def j_Z1z_2 (M : Mach) (n0 : Nat) (z1 z6 : V) (σ : Objs) : Ro :=
  nK n0 σ (.tup [z1.ng.ng.ng, z6.ng.ng.ng])
def b_Z1z_1 (M : Mach) (n0 : Nat) (n1 : Nat) (r1 : Rk) (z0 z1 z6 : V) (σ : Objs) : Ro :=
 bd (M.call 97 [z0.ng.ng, z1.ng.ng] σ) fun p19 =>
  br p19.1.ng (
 bd (pu (eB .add .no z1.ng.ng (.int .i64 1))) fun x20 =>
 bd (fz n1 p19.2 fzD z0) fun y21 =>
 bd (fz n1 p19.2 fzD x20.ng) fun y22 =>
 bd (fz n1 p19.2 fzD z6) fun y23 =>
 bd (cuO n1 p19.2) fun s24 => r1 [y21, y22, y23] s24) (
 bd (fz n1 p19.2 fzD z1) fun y25 =>
 bd (fz n1 p19.2 fzD .any) fun y26 =>
 bd (fz n1 p19.2 fzD .any) fun y27 =>
 bd (fz n1 p19.2 fzD z6) fun y28 =>
 bd (cuO n1 p19.2) fun s29 =>
  j_Z1z_2 M n0 y25 y28 s29)
def l_Z1z_1 (M : Mach) (n0 : Nat) (n1 : Nat) : Rk := M.fx fun rec vs σ => b_Z1z_1 M n0 n1 rec (vs.getD 0 .undef) (vs.getD 1 .undef) (vs.getD 2 .undef) σ
def j_Z1z_3 (M : Mach) (n0 : Nat) (z0 z1 z6 z7 : V) (σ : Objs) : Ro :=
 bd (M.call 97 [z0.ng.ng, z7.ng.ng] σ) fun p18 =>
  br p18.1.ng (
 bd (fz p18.2.length p18.2 fzD z0) fun y30 =>
 bd (fz p18.2.length p18.2 fzD z7.ng.ng) fun y31 =>
 bd (fz p18.2.length p18.2 fzD (.bool false)) fun y32 =>
  l_Z1z_1 M n0 p18.2.length [y30, y31, y32] p18.2) (
  j_Z1z_2 M n0 z1 z6 p18.2)
def j_Z1z_1 (M : Mach) (n0 : Nat) (z0 z1 z6 : V) (σ : Objs) : Ro :=
 bd (M.call 79 [z0.ng.ng, z1.ng.ng, (.int .i64 101)] σ) fun p12 =>
 bd (gdv p12.1.ng false (some z0.ng)) fun x13 =>
 bd (gdv p12.1.ng false (some z1.ng)) fun x14 =>
 bd (gdp p12.1.ng false (M.call 79 [x13.ng, x14.ng, (.int .i64 69)] p12.2) p12.2) fun p15 =>
 bd (pu (pV p12.1.ng.ng (.bool true) p15.1.ng)) fun x16 =>
  br x16.ng (
 bd (pu (eB .add .no z1.ng.ng (.int .i64 1))) fun x17 =>
 bd (M.call 79 [z0.ng.ng, x17.ng.ng.ng, (.int .i64 43)] p15.2) fun p33 =>
 bd (gdv p33.1.ng false (some z0.ng)) fun x34 =>
 bd (gdv p33.1.ng false (some x17.ng.ng)) fun x35 =>
 bd (gdp p33.1.ng false (M.call 79 [x34.ng, x35.ng, (.int .i64 45)] p33.2) p33.2) fun p36 =>
 bd (pu (pV p33.1.ng.ng (.bool true) p36.1.ng)) fun x37 =>
  br x37.ng (
 bd (pu (eB .add .no x17.ng.ng.ng (.int .i64 1))) fun x38 =>
  j_Z1z_3 M n0 z0 z1 z6 x38.ng p36.2) (
  j_Z1z_3 M n0 z0 z1 z6 x17.ng p36.2)) (
  j_Z1z_2 M n0 z1 z6 p15.2)
def b_Z1z_2 (M : Mach) (n0 : Nat) (n1 : Nat) (r1 : Rk) (z0 z1 z6 : V) (σ : Objs) : Ro :=
 bd (M.call 97 [z0.ng.ng, z1.ng.ng] σ) fun p46 =>
  br p46.1.ng (
 bd (pu (eB .add .no z1.ng.ng (.int .i64 1))) fun x47 =>
 bd (fz n1 p46.2 fzD z0) fun y48 =>
 bd (fz n1 p46.2 fzD x47.ng) fun y49 =>
 bd (fz n1 p46.2 fzD z6) fun y50 =>
 bd (cuO n1 p46.2) fun s51 => r1 [y48, y49, y50] s51) (
 bd (fz n1 p46.2 fzD z0) fun y52 =>
 bd (fz n1 p46.2 fzD z1) fun y53 =>
 bd (fz n1 p46.2 fzD .any) fun y54 =>
 bd (fz n1 p46.2 fzD .any) fun y55 =>
 bd (fz n1 p46.2 fzD z6) fun y56 =>
 bd (cuO n1 p46.2) fun s57 =>
  j_Z1z_1 M n0 y52 y53 y56 s57)
def l_Z1z_2 (M : Mach) (n0 : Nat) (n1 : Nat) : Rk := M.fx fun rec vs σ => b_Z1z_2 M n0 n1 rec (vs.getD 0 .undef) (vs.getD 1 .undef) (vs.getD 2 .undef) σ
def b_Z1z_0 (M : Mach) (n0 : Nat) (n1 : Nat) (r1 : Rk) (z0 z1 z6 : V) (σ : Objs) : Ro :=
 bd (M.call 97 [z0.ng.ng, z1.ng.ng] σ) fun p0 =>
  br p0.1.ng (
 bd (pu (eB .add .no z1.ng.ng (.int .i64 1))) fun x1 =>
 bd (fz n1 p0.2 fzD z0) fun y2 =>
 bd (fz n1 p0.2 fzD x1.ng) fun y3 =>
 bd (fz n1 p0.2 fzD z6) fun y4 =>
 bd (cuO n1 p0.2) fun s5 => r1 [y2, y3, y4] s5) (
 bd (fz n1 p0.2 fzD z0) fun y6 =>
 bd (fz n1 p0.2 fzD z1) fun y7 =>
 bd (fz n1 p0.2 fzD .any) fun y8 =>
 bd (fz n1 p0.2 fzD .any) fun y9 =>
 bd (fz n1 p0.2 fzD z6) fun y10 =>
 bd (cuO n1 p0.2) fun s11 =>
 bd (M.call 79 [y6.ng.ng, y7.ng.ng, (.int .i64 46)] s11) fun p39 =>
 bd (gdv p39.1.ng true (some y6.ng)) fun x40 =>
 bd (gdv p39.1.ng true (some y7.ng)) fun x41 =>
 bd (gdv p39.1.ng true (pu (eB .add .no x41.ng (.int .i64 1)))) fun x42 =>
 bd (gdp p39.1.ng true (M.call 97 [x40.ng, x42.ng] p39.2) p39.2) fun p43 =>
 bd (pu (pV p39.1.ng.ng p43.1.ng (.bool false))) fun x44 =>
  br x44.ng (
 bd (pu (eB .add .no y7.ng.ng (.int .i64 1))) fun x45 =>
 bd (fz p43.2.length p43.2 fzD y6) fun y58 =>
 bd (fz p43.2.length p43.2 fzD x45.ng) fun y59 =>
 bd (fz p43.2.length p43.2 fzD (.bool false)) fun y60 =>
  l_Z1z_2 M n0 p43.2.length [y58, y59, y60] p43.2) (
  j_Z1z_1 M n0 y6 y7 y10 p43.2))
def l_Z1z_0 (M : Mach) (n0 : Nat) (n1 : Nat) : Rk := M.fx fun rec vs σ => b_Z1z_0 M n0 n1 rec (vs.getD 0 .undef) (vs.getD 1 .undef) (vs.getD 2 .undef) σ
def j_Z1z_0 (M : Mach) (n0 : Nat) (z0 z1 z6 : V) (σ : Objs) : Ro :=
 bd (fz σ.length σ fzD z0) fun y61 =>
 bd (fz σ.length σ fzD z1) fun y62 =>
 bd (fz σ.length σ fzD z6) fun y63 =>
  l_Z1z_0 M n0 σ.length [y61, y62, y63] σ
def s_Z1z (M : Mach) (a0 a1 : V) (σ : Objs) : Ro :=
 bd (M.call 79 [a0.ng.ng, a1.ng.ng, (.int .i64 43)] σ) fun p64 =>
 bd (gdv p64.1.ng false (some a0.ng)) fun x65 =>
 bd (gdv p64.1.ng false (some a1.ng)) fun x66 =>
 bd (gdp p64.1.ng false (M.call 79 [x65.ng, x66.ng, (.int .i64 45)] p64.2) p64.2) fun p67 =>
 bd (pu (pV p64.1.ng.ng (.bool true) p67.1.ng)) fun x68 =>
  br x68.ng (
 bd (pu (eB .add .no a1.ng.ng (.int .i64 1))) fun x69 =>
  j_Z1z_0 M σ.length a0 x69.ng (.bool true) p67.2) (
  j_Z1z_0 M σ.length a0 a1 (.bool true) p67.2)
theorem k_Z1z (M : Mach) (a0 a1 : V) (σ : Objs) : fnK M c_Z1z [a0, a1] σ = s_Z1z M a0 a1 σ := by kernel_rfl
def c_Z29 : Ev.Fn := ⟨16, [.tmp 4], false, false, (.seq (.ops 0 [⟨some 4, none, .mv (.c (.bool false)) false⟩]) (.seq (.ops 1 [mvF 5 1, mvF 6 0, ⟨some 7, none, .len (.t 6)⟩, ⟨some 8, none, .bin .lss .no (.t 5) (.t 7)⟩, mvF 9 8, ⟨some 10, (some (9, true)), .mv (.t 0) true⟩, ⟨some 11, (some (9, true)), .mv (.t 1) false⟩, ⟨some 12, (some (9, true)), .iaddr 1 (.t 10) (.t 11)⟩, ⟨some 13, (some (9, true)), .load false 1 (.t 12)⟩, ⟨some 14, (some (9, true)), .call 112 [.t 13]⟩, ⟨some 15, none, .pick (.t 9) (.t 14) (.c (.bool false))⟩, mvF 4 15]) .ret))⟩
theorem ok_c_Z29 : chkFn Tryz.prog 99 c_Z29 = true := chkFn_of Tryz.func99 (by kernel_rfl)
def s_Z29 (M : Mach) (a0 a1 : V) (σ : Objs) : Ro :=
 bd (pu (evLen a0.ng.ng)) fun x0 =>
 bd (pu (eB .lss .no a1.ng.ng x0.ng)) fun x1 =>
  gd x1.ng true (
 bd (gdv x1.ng true (some a1.ng)) fun x2 =>
 bd (gdv x1.ng true (pu (eI 1 x2.ng a0.ng))) fun x3 =>
 bd (gdv x1.ng true (pu (eL σ false 1 x3.ng))) fun x4 =>
 bd (gdp x1.ng true (M.call 112 [x4.ng] σ) σ) fun p5 =>
 bd (pu (pV x1.ng.ng p5.1.ng (.bool false))) fun x6 =>
 bd (oK false x6.ng) (nK σ.length p5.2)) (
 bd (gdv x1.ng true (some a1.ng)) fun x7 =>
 bd (gdv x1.ng true (pu (eI 1 x7.ng .undef))) fun x8 =>
 bd (gdv x1.ng true (pu (eL σ false 1 x8.ng))) fun x9 =>
 bd (gdp x1.ng true (M.call 112 [x9.ng] σ) σ) fun p10 =>
 bd (pu (pV x1.ng.ng p10.1.ng (.bool false))) fun x11 =>
 bd (oK false x11.ng) (nK σ.length p10.2))
theorem k_Z29 (M : Mach) (a0 a1 : V) (σ : Objs) : fnK M c_Z29 [a0, a1] σ = s_Z29 M a0 a1 σ := by kernel_rfl
def c_Z2b : Ev.Fn := ⟨98, [.cell 6 true 6], false, false, (.seq (.ops 0 [⟨some 6, none, .alloc [(.int .i64 0), (.int .i64 0), (.int .i64 0), (.str []), (.str []), (.bool false)]⟩]) (.seq (.ops 1 [⟨some 13, none, .buildSl false 1 0 .any [] false⟩, mvF 14 2, mvT 7 13, mvF 8 14]) (.block 0 (.loop [0, 1, 6, 7, 8] [6] (.block 1 (.seq (.ops 2 [mvF 15 8, mvF 9 15]) (.seq (.block 2 (.loop [0, 1, 6, 7, 8, 9] [0, 1, 6, 7, 8, 9] (.seq (.seq (.ops 3 [mvF 16 0, mvF 17 9, ⟨some 18, none, .call 75 [(.t 16), (.t 17)]⟩]) (.cond (.t 18) .skip (.exit 2))) (.block 3 (.ops 4 [mvF 19 9, ⟨some 20, none, .bin .add .no (.t 19) (.c (.int .i64 1))⟩, mvF 9 20]))))) (.seq (.seq (.ops 5 [mvF 21 9, mvF 22 0, ⟨some 23, none, .len (.t 22)⟩, ⟨some 24, none, .bin .geq .no (.t 21) (.t 23)⟩]) (.cond (.t 24) (.seq (.ops 6 [mvF 25 1, mvT 26 0, ⟨some 27, none, .len (.t 26)⟩, mvT 28 7, ⟨some 29, none, .call 85 [.t 28]⟩, ⟨some 30, none, .build [(.int .i64 0), (.int .i64 0), (.int .i64 0), (.str []), (.str []), (.bool false)] [(0, 1, (.c (.int .i64 7))), (1, 1, (.t 25)), (2, 1, (.t 27)), (3, 1, (.t 29))]⟩, ⟨none, none, .store 6 (.t 6) (.t 30) false⟩]) .ret) .skip)) (.seq (.seq (.ops 7 [mvF 31 0, mvF 32 9, ⟨some 33, none, .iaddr 1 (.t 31) (.t 32)⟩, ⟨some 34, none, .load false 1 (.t 33)⟩, ⟨some 35, none, .bin .eql .no (.t 34) (.c (.int .i64 41))⟩]) (.cond (.t 35) (.seq (.ops 8 [mvF 36 1, mvF 37 9, ⟨some 38, none, .bin .add .no (.t 37) (.c (.int .i64 1))⟩, mvT 39 7, ⟨some 40, none, .call 85 [.t 39]⟩, ⟨some 41, none, .build [(.int .i64 0), (.int .i64 0), (.int .i64 0), (.str []), (.str []), (.bool false)] [(0, 1, (.c (.int .i64 7))), (1, 1, (.t 36)), (2, 1, (.t 38)), (3, 1, (.t 40))]⟩, ⟨none, none, .store 6 (.t 6) (.t 41) false⟩]) .ret) .skip)) (.seq (.ops 9 [mvF 42 0, mvF 43 9, ⟨some 44, none, .iaddr 1 (.t 42) (.t 43)⟩, ⟨some 45, none, .load false 1 (.t 44)⟩, mvF 10 45]) (.seq (.seq (.ops 10 [mvF 46 9, mvF 47 8, ⟨some 48, none, .bin .gtr .no (.t 46) (.t 47)⟩, mvF 49 48, ⟨some 50, (some (49, false)), .mv (.t 10) false⟩, ⟨some 51, (some (49, false)), .bin .eql .no (.t 50) (.c (.int .i64 34))⟩, ⟨some 52, none, .pick (.t 49) (.c (.bool true)) (.t 51)⟩, mvF 53 52, ⟨some 54, (some (53, false)), .mv (.t 10) false⟩, ⟨some 55, (some (53, false)), .bin .eql .no (.t 54) (.c (.int .i64 39))⟩, ⟨some 56, none, .pick (.t 53) (.c (.bool true)) (.t 55)⟩, mvF 57 56, ⟨some 58, (some (57, false)), .mv (.t 10) false⟩, ⟨some 59, (some (57, false)), .bin .eql .no (.t 58) (.c (.int .i64 40))⟩, ⟨some 60, none, .pick (.t 57) (.c (.bool true)) (.t 59)⟩, mvF 61 60, ⟨some 62, (some (61, false)), .mv (.t 10) false⟩, ⟨some 63, (some (61, false)), .call 113 [.t 62]⟩, ⟨some 64, none, .pick (.t 61) (.c (.bool true)) (.t 63)⟩, mvF 65 64, ⟨some 66, (some (65, false)), .mv (.t 10) false⟩, ⟨some 67, (some (65, false)), .bin .eql .no (.t 66) (.c (.int .i64 92))⟩, ⟨some 68, (some (65, false)), .mv (.t 67) false⟩, ⟨some 69, (some (68, true)), .mv (.t 0) false⟩, ⟨some 70, (some (68, true)), .mv (.t 9) false⟩, ⟨some 71, (some (68, true)), .call 84 [(.t 69), (.t 70)]⟩, ⟨some 72, (some (68, true)), .un .not (.t 71)⟩, ⟨some 73, (some (65, false)), .pick (.t 68) (.t 72) (.c (.bool false))⟩, ⟨some 74, none, .pick (.t 65) (.c (.bool true)) (.t 73)⟩]) (.cond (.t 74) (.seq (.ops 11 [mvT 75 0, mvF 76 1, mvF 77 9, ⟨some 78, none, .call 114 [(.t 75), (.t 76), (.t 77)]⟩, ⟨none, none, .store 6 (.t 6) (.t 78) false⟩]) .ret) .skip)) (.seq (.ops 12 [mvF 79 10, ⟨some 80, none, .bin .eql .no (.t 79) (.c (.int .i64 92))⟩]) (.cond (.t 80) (.seq (.ops 13 [mvF 82 0, mvF 83 9, ⟨some 84, none, .call 96 [(.t 82), (.t 83)]⟩, mvF 81 84, ⟨some 85, none, .extr (.t 81) 0⟩, ⟨some 86, none, .extr (.t 81) 1⟩, mvF 11 85, mvF 12 86]) (.seq (.ops 14 [mvT 87 7, mvF 88 11, ⟨some 89, none, .buildSl false 1 1 (.int .i64 0) [(0, (.t 88))] false⟩, ⟨some 90, none, .app false false 1 8 (.t 87) (.t 89) true⟩, mvT 7 90]) (.ops 15 [mvF 91 12, mvF 8 91]))) (.seq (.ops 16 [mvT 92 7, mvF 93 10, ⟨some 94, none, .buildSl false 1 1 (.int .i64 0) [(0, (.t 93))] false⟩, ⟨some 95, none, .app false false 1 8 (.t 92) (.t 94) true⟩, mvT 7 95]) (.ops 17 [mvF 96 9, ⟨some 97, none, .bin .add .no (.t 96) (.c (.int .i64 1))⟩, mvF 8 97])))))))))))))))⟩
theorem ok_c_Z2b : chkFn Tryz.prog 100 c_Z2b = true := chkFn_of Tryz.func100 (by kernel_rfl)
def j_Z2b_0 (M : Mach) (n0 : Nat) (n1 : Nat) (r1 : Rk) (z0 z1 z6 z7 z8 : V) (σ : Objs) : Ro :=
 bd (fz n1 σ fzD z0) fun y2 =>
 bd (fz n1 σ fzD z1) fun y3 =>
 bd (fz n1 σ fzD z6) fun y4 =>
 bd (fz n1 σ fzD z7) fun y5 =>
 bd (fz n1 σ fzD z8) fun y6 =>
 bd (cuO n1 σ) fun s7 => r1 [y2, y3, y4, y5, y6] s7
def j_Z2b_1 (M : Mach) (n0 : Nat) (n1 : Nat) (r1 : Rk) (z6 : V) (σ : Objs) : Ro :=
 bd (fz n1 σ fzD z6) fun y8 =>
 bd (cuO n1 σ) fun s9 =>
 bd (resC s9 true 6 y8) fun x10 =>
 bd (oK false x10) (nK n0 s9)
def b_Z2b_1 (M : Mach) (n0 : Nat) (n1 : Nat) (r1 : Rk) (n2 : Nat) (r2 : Rk) (z0 z1 z6 z7 z8 z9 : V) (σ : Objs) : Ro :=
 bd (M.call 75 [z0.ng.ng, z9.ng.ng] σ) fun p11 =>
  br p11.1.ng (
 bd (pu (eB .add .no z9.ng.ng (.int .i64 1))) fun x12 =>
 bd (fz n2 p11.2 fzD z0) fun y13 =>
 bd (fz n2 p11.2 fzD z1) fun y14 =>
 bd (fz n2 p11.2 fzD z6) fun y15 =>
 bd (fz n2 p11.2 fzD z7) fun y16 =>
 bd (fz n2 p11.2 fzD z8) fun y17 =>
 bd (fz n2 p11.2 fzD x12.ng) fun y18 =>
 bd (cuO n2 p11.2) fun s19 => r2 [y13, y14, y15, y16, y17, y18] s19) (
 bd (fz n2 p11.2 fzD z0) fun y20 =>
 bd (fz n2 p11.2 fzD z1) fun y21 =>
 bd (fz n2 p11.2 fzD z6) fun y22 =>
 bd (fz n2 p11.2 fzD z7) fun y23 =>
 bd (fz n2 p11.2 fzD z8) fun y24 =>
 bd (fz n2 p11.2 fzD z9) fun y25 =>
 bd (cuO n2 p11.2) fun s26 =>
 bd (pu (evLen y20.ng.ng)) fun x27 =>
 bd (pu (eB .geq .no y25.ng.ng x27.ng)) fun x28 =>
  br x28.ng (
 bd (pu (evLen y20.ng)) fun x29 =>
 bd (M.call 85 [y23.ng] s26) fun p30 =>
 bd (pu (buildV [(.int .i64 0), (.int .i64 0), (.int .i64 0), (.str []), (.str []), (.bool false)] [(0, 1, (.int .i64 7)), (1, 1, y21.ng.ng), (2, 1, x29.ng), (3, 1, p30.1.ng)])) fun x31 =>
 bd (stV p30.2 6 y22.ng x31.ng x31.ng) fun p32 =>
  j_Z2b_1 M n0 n1 r1 y22 p32.2) (
 bd (pu (eI 1 y25.ng.ng y20.ng.ng)) fun x33 =>
 bd (pu (eL s26 false 1 x33.ng)) fun x34 =>
 bd (pu (eB .eql .no x34.ng (.int .i64 41))) fun x35 =>
  br x35.ng (
 bd (pu (eB .add .no y25.ng.ng (.int .i64 1))) fun x36 =>
 bd (M.call 85 [y23.ng] s26) fun p37 =>
 bd (pu (buildV [(.int .i64 0), (.int .i64 0), (.int .i64 0), (.str []), (.str []), (.bool false)] [(0, 1, (.int .i64 7)), (1, 1, y21.ng.ng), (2, 1, x36.ng), (3, 1, p37.1.ng)])) fun x38 =>
 bd (stV p37.2 6 y22.ng x38.ng x38.ng) fun p39 =>
  j_Z2b_1 M n0 n1 r1 y22 p39.2) (
 bd (pu (eI 1 y25.ng.ng y20.ng.ng)) fun x40 =>
 bd (pu (eL s26 false 1 x40.ng)) fun x41 =>
 bd (pu (eB .gtr .no y25.ng.ng y24.ng.ng)) fun x42 =>
 bd (gdv x42.ng false (some x41.ng.ng)) fun x43 =>
 bd (gdv x42.ng false (pu (eB .eql .no x43.ng (.int .i64 34)))) fun x44 =>
 bd (pu (pV x42.ng.ng (.bool true) x44.ng)) fun x45 =>
 bd (gdv x45.ng false (some x41.ng.ng)) fun x46 =>
 bd (gdv x45.ng false (pu (eB .eql .no x46.ng (.int .i64 39)))) fun x47 =>
 bd (pu (pV x45.ng.ng (.bool true) x47.ng)) fun x48 =>
 bd (gdv x48.ng false (some x41.ng.ng)) fun x49 =>
 bd (gdv x48.ng false (pu (eB .eql .no x49.ng (.int .i64 40)))) fun x50 =>
 bd (pu (pV x48.ng.ng (.bool true) x50.ng)) fun x51 =>
 bd (gdv x51.ng false (some x41.ng.ng)) fun x52 =>
 bd (gdp x51.ng false (M.call 113 [x52.ng] s26) s26) fun p53 =>
 bd (pu (pV x51.ng.ng (.bool true) p53.1.ng)) fun x54 =>
 bd (gdv x54.ng false (some x41.ng.ng)) fun x55 =>
 bd (gdv x54.ng false (pu (eB .eql .no x55.ng (.int .i64 92)))) fun x56 =>
 bd (gdv x54.ng false (some x56.ng)) fun x57 =>
 bd (gdv x57 true (some y20.ng)) fun x58 =>
 bd (gdv x57 true (some y25.ng)) fun x59 =>
 bd (gdp x57 true (M.call 84 [x58.ng, x59.ng] p53.2) p53.2) fun p60 =>
 bd (gdv x57 true (pu (evUn .not p60.1.ng))) fun x61 =>
 bd (gdv x54.ng false (pu (pV x57.ng x61.ng (.bool false)))) fun x62 =>
 bd (pu (pV x54.ng.ng (.bool true) x62.ng)) fun x63 =>
  br x63.ng (
 bd (M.call 114 [y20.ng, y21.ng.ng, y25.ng.ng] p60.2) fun p64 =>
 bd (stV p64.2 6 y22.ng p64.1.ng p64.1.ng) fun p65 =>
  j_Z2b_1 M n0 n1 r1 y22 p65.2) (
 bd (pu (eB .eql .no x41.ng.ng.ng (.int .i64 92))) fun x66 =>
  br x66.ng (
 bd (M.call 96 [y20.ng.ng, y25.ng.ng] p60.2) fun p67 =>
 bd (pu (eX 0 p67.1.ng.ng)) fun x68 =>
 bd (pu (eX 1 p67.1.ng.ng)) fun x69 =>
 bd (buildFV false 1 1 (.int .i64 0) [(0, x68.ng.ng.ng)]) fun x70 =>
 bd (appV false false 1 8 p67.2 y23 x70.ng) fun x71 =>
  j_Z2b_0 M n0 n1 r1 y20 y21 y22 x71 x69.ng.ng.ng p67.2) (
 bd (buildFV false 1 1 (.int .i64 0) [(0, x41.ng.ng.ng)]) fun x72 =>
 bd (appV false false 1 8 p60.2 y23 x72.ng) fun x73 =>
 bd (pu (eB .add .no y25.ng.ng (.int .i64 1))) fun x74 =>
  j_Z2b_0 M n0 n1 r1 y20 y21 y22 x73 x74.ng p60.2)))))
def l_Z2b_1 (M : Mach) (n0 : Nat) (n1 : Nat) (r1 : Rk) (n2 : Nat) : Rk := M.fx fun rec vs σ => b_Z2b_1 M n0 n1 r1 n2 rec (vs.getD 0 .undef) (vs.getD 1 .undef) (vs.getD 2 .undef) (vs.getD 3 .undef) (vs.getD 4 .undef) (vs.getD 5 .undef) σ
def b_Z2b_0 (M : Mach) (n0 : Nat) (n1 : Nat) (r1 : Rk) (z0 z1 z6 z7 z8 : V) (σ : Objs) : Ro :=
 bd (fz σ.length σ fzD z0) fun y75 =>
 bd (fz σ.length σ fzD z1) fun y76 =>
 bd (fz σ.length σ fzD z6) fun y77 =>
 bd (fz σ.length σ fzD z7) fun y78 =>
 bd (fz σ.length σ fzD z8) fun y79 =>
 bd (fz σ.length σ fzD z8.ng.ng) fun y80 =>
  l_Z2b_1 M n0 n1 r1 σ.length [y75, y76, y77, y78, y79, y80] σ
def l_Z2b_0 (M : Mach) (n0 : Nat) (n1 : Nat) : Rk := M.fx fun rec vs σ => b_Z2b_0 M n0 n1 rec (vs.getD 0 .undef) (vs.getD 1 .undef) (vs.getD 2 .undef) (vs.getD 3 .undef) (vs.getD 4 .undef) σ
def s_Z2b (M : Mach) (a0 a1 a2 : V) (σ : Objs) : Ro :=
  let s0 : Objs := σ ++ [.cells [(.int .i64 0), (.int .i64 0), (.int .i64 0), (.str []), (.str []), (.bool false)]]
 bd (buildFV false 1 0 .any []) fun x1 =>
 bd (fz s0.length s0 fzD a0) fun y81 =>
 bd (fz s0.length s0 fzD a1) fun y82 =>
 bd (fz s0.length s0 fzD (.ptr σ.length 0)) fun y83 =>
 bd (fz s0.length s0 fzD x1) fun y84 =>
 bd (fz s0.length s0 fzD a2.ng.ng) fun y85 =>
  l_Z2b_0 M σ.length s0.length [y81, y82, y83, y84, y85] s0
theorem k_Z2b (M : Mach) (a0 a1 a2 : V) (σ : Objs) : fnK M c_Z2b [a0, a1, a2] σ = s_Z2b M a0 a1 a2 σ := by kernel_rfl
def c_Z1m : Ev.Fn := ⟨13, [.tmp 2], false, false, (.seq (.ops 0 [⟨some 2, none, .mv (.c (.bool false)) false⟩]) (.seq (.ops 1 [mvF 3 0, ⟨some 4, none, .call 112 [.t 3]⟩, mvF 5 4, ⟨some 6, (some (5, false)), .mv (.t 0) false⟩, ⟨some 7, (some (5, false)), .call 38 [.t 6]⟩, ⟨some 8, none, .pick (.t 5) (.c (.bool true)) (.t 7)⟩, mvF 9 8, ⟨some 10, (some (9, false)), .mv (.t 0) false⟩, ⟨some 11, (some (9, false)), .bin .eql .no (.t 10) (.c (.int .i64 45))⟩, ⟨some 12, none, .pick (.t 9) (.c (.bool true)) (.t 11)⟩, mvF 2 12]) .ret))⟩
theorem ok_c_Z1m : chkFn Tryz.prog 101 c_Z1m = true := chkFn_of Tryz.func101 (by kernel_rfl)
def s_Z1m (M : Mach) (a0 : V) (σ : Objs) : Ro :=
 bd (M.call 112 [a0.ng.ng] σ) fun p0 =>
 bd (gdv p0.1.ng false (some a0.ng)) fun x1 =>
 bd (gdp p0.1.ng false (M.call 38 [x1.ng] p0.2) p0.2) fun p2 =>
 bd (pu (pV p0.1.ng.ng (.bool true) p2.1.ng)) fun x3 =>
 bd (gdv x3.ng false (some a0.ng)) fun x4 =>
 bd (gdv x3.ng false (pu (eB .eql .no x4.ng (.int .i64 45)))) fun x5 =>
 bd (pu (pV x3.ng.ng (.bool true) x5.ng)) fun x6 =>
 bd (oK false x6.ng) (nK σ.length p2.2)
theorem k_Z1m (M : Mach) (a0 : V) (σ : Objs) : fnK M c_Z1m [a0] σ = s_Z1m M a0 σ := by kernel_rfl
def c_Z1d : Ev.Fn := ⟨28, [.tmp 2], false, false, (.seq (.ops 0 [⟨some 2, none, .mv (.c .nils) false⟩]) (.seq (.ops 1 [⟨some 5, none, .buildSl false 1 0 .any [] false⟩, mvT 3 5]) (.seq (.seq (.ops 2 [⟨some 4, none, .mv (.c (.int .i64 0)) false⟩]) (.block 0 (.loop [0, 3, 4] [2, 3] (.seq (.seq (.ops 3 [mvF 6 4, mvF 7 0, ⟨some 8, none, .len (.t 7)⟩, ⟨some 9, none, .bin .lss .no (.t 6) (.t 8)⟩]) (.cond (.t 9) .skip (.exit 0))) (.seq (.block 1 (.seq (.ops 5 [mvF 12 0, mvF 13 4, ⟨some 14, none, .iaddr 1 (.t 12) (.t 13)⟩, ⟨some 15, none, .load false 1 (.t 14)⟩, ⟨some 16, none, .call 51 [.t 15]⟩]) (.cond (.t 16) (.ops 6 [mvT 17 3, mvF 18 0, mvF 19 4, ⟨some 20, none, .iaddr 1 (.t 18) (.t 19)⟩, ⟨some 21, none, .load false 1 (.t 20)⟩, ⟨some 22, none, .call 103 [.t 21]⟩, ⟨some 23, none, .app false false 1 1 (.t 17) (.t 22) true⟩, mvT 3 23]) (.ops 7 [mvT 24 3, ⟨some 25, none, .call 103 [(.c (.int .i64 65533))]⟩, ⟨some 26, none, .app false false 1 1 (.t 24) (.t 25) true⟩, mvT 3 26])))) (.ops 4 [mvF 10 4, ⟨some 11, none, .bin .add .no (.t 10) (.c (.int .i64 1))⟩, mvF 4 11])))))) (.seq (.ops 8 [mvT 27 3, mvT 2 27]) .ret))))⟩
theorem ok_c_Z1d : chkFn Tryz.prog 102 c_Z1d = true := chkFn_of Tryz.func102 (by kernel_rfl)
def j_Z1d_0 (M : Mach) (n0 : Nat) (n1 : Nat) (r1 : Rk) (z0 z3 z4 : V) (σ : Objs) : Ro :=
 bd (pu (eB .add .no z4.ng.ng (.int .i64 1))) fun x3 =>
 bd (fz n1 σ fzD z0) fun y4 =>
 bd (fz n1 σ fzD z3) fun y5 =>
 bd (fz n1 σ fzD x3.ng) fun y6 =>
 bd (cuO n1 σ) fun s7 => r1 [y4, y5, y6] s7
def b_Z1d_0 (M : Mach) (n0 : Nat) (n1 : Nat) (r1 : Rk) (z0 z3 z4 : V) (σ : Objs) : Ro :=
 bd (pu (evLen z0.ng.ng)) fun x1 =>
 bd (pu (eB .lss .no z4.ng.ng x1.ng)) fun x2 =>
  br x2.ng (
 bd (pu (eI 1 z4.ng.ng z0.ng.ng)) fun x8 =>
 bd (pu (eL σ false 1 x8.ng)) fun x9 =>
 bd (M.call 51 [x9.ng] σ) fun p10 =>
  br p10.1.ng (
 bd (pu (eI 1 z4.ng.ng z0.ng.ng)) fun x11 =>
 bd (pu (eL p10.2 false 1 x11.ng)) fun x12 =>
 bd (M.call 103 [x12.ng] p10.2) fun p13 =>
 bd (appV false false 1 1 p13.2 z3 p13.1.ng) fun x14 =>
  j_Z1d_0 M n0 n1 r1 z0 x14 z4 p13.2) (
 bd (M.call 103 [(.int .i64 65533)] p10.2) fun p15 =>
 bd (appV false false 1 1 p15.2 z3 p15.1.ng) fun x16 =>
  j_Z1d_0 M n0 n1 r1 z0 x16 z4 p15.2)) (
 bd (fz n1 σ fzD .any) fun y17 =>
 bd (fz n1 σ fzD z3) fun y18 =>
 bd (cuO n1 σ) fun s19 =>
 bd (oK false y18) (nK n0 s19))
def l_Z1d_0 (M : Mach) (n0 : Nat) (n1 : Nat) : Rk := M.fx fun rec vs σ => b_Z1d_0 M n0 n1 rec (vs.getD 0 .undef) (vs.getD 1 .undef) (vs.getD 2 .undef) σ
def s_Z1d (M : Mach) (a0 : V) (σ : Objs) : Ro :=
 bd (buildFV false 1 0 .any []) fun x0 =>
 bd (fz σ.length σ fzD a0) fun y20 =>
 bd (fz σ.length σ fzD x0) fun y21 =>
 bd (fz σ.length σ fzD (.int .i64 0)) fun y22 =>
  l_Z1d_0 M σ.length σ.length [y20, y21, y22] σ
theorem k_Z1d (M : Mach) (a0 : V) (σ : Objs) : fnK M c_Z1d [a0] σ = s_Z1d M a0 σ := by kernel_rfl
def c_Z15 : Ev.Fn := ⟨117, [.tmp 2, .tmp 3], false, false, (.seq (.ops 0 [⟨some 2, none, .mv (.c (.int .i32 0)) false⟩, ⟨some 3, none, .mv (.c (.int .i64 0)) false⟩]) (.seq (.ops 1 [mvF 13 0, ⟨some 14, none, .lenS (.t 13)⟩, mvF 4 14]) (.seq (.seq (.ops 2 [mvF 15 4, ⟨some 16, none, .bin .lss .no (.t 15) (.c (.int .i64 1))⟩]) (.cond (.t 16) (.seq (.ops 3 [⟨some 2, none, .mv (.c (.int .i32 65533)) false⟩, ⟨some 3, none, .mv (.c (.int .i64 0)) false⟩]) .ret) .skip)) (.seq (.ops 4 [mvF 17 0, ⟨some 18, none, .idx (.t 17) (.c (.int .i64 0))⟩, mvF 5 18]) (.seq (.ops 5 [mvF 19 5, ⟨some 20, none, .iaddrA 256 1 (.g 1) (.t 19)⟩, ⟨some 21, none, .load false 1 (.t 20)⟩, mvF 6 21]) (.seq (.seq (.ops 6 [mvF 22 6, ⟨some 23, none, .bin .geq .no (.t 22) (.c (.int .u8 240))⟩]) (.cond (.t 23) (.seq (.ops 7 [mvF 24 6, ⟨some 25, none, .conv (.toInt .i32) (.t 24)⟩, ⟨some 26, none, .bin .shl .no (.t 25) (.c (.int .u64 31))⟩, ⟨some 27, none, .bin .shr .no (.t 26) (.c (.int .u64 31))⟩, mvF 7 27]) (.seq (.ops 8 [mvF 28 0, ⟨some 29, none, .idx (.t 28) (.c (.int .i64 0))⟩, ⟨some 30, none, .conv (.toInt .i32) (.t 29)⟩, mvF 31 7, ⟨some 32, none, .bin .andNot .no (.t 30) (.t 31)⟩, mvF 33 7, ⟨some 34, none, .bin .and .no (.c (.int .i32 65533)) (.t 33)⟩, ⟨some 35, none, .bin .or .no (.t 32) (.t 34)⟩, mvF 2 35, ⟨some 3, none, .mv (.c (.int .i64 1)) false⟩]) .ret)) .skip)) (.seq (.ops 9 [mvF 36 6, ⟨some 37, none, .bin .and .no (.t 36) (.c (.int .u8 7))⟩, ⟨some 38, none, .conv (.toInt .i64) (.t 37)⟩, mvF 8 38]) (.seq (.ops 10 [mvF 39 6, ⟨some 40, none, .bin .shr .no (.t 39) (.c (.int .u64 4))⟩, ⟨some 41, none, .iaddrA 16 2 (.g 2) (.t 40)⟩, ⟨some 42, none, .load true 2 (.t 41)⟩, ⟨some 9, none, .alloc [(.int .u8 0), (.int .u8 0)]⟩, ⟨none, none, .store 2 (.t 9) (.t 42) false⟩]) (.seq (.seq (.ops 11 [mvF 43 4, mvF 44 8, ⟨some 45, none, .bin .lss .no (.t 43) (.t 44)⟩]) (.cond (.t 45) (.seq (.ops 12 [⟨some 2, none, .mv (.c (.int .i32 65533)) false⟩, ⟨some 3, none, .mv (.c (.int .i64 1)) false⟩]) .ret) .skip)) (.seq (.ops 13 [mvF 46 0, ⟨some 47, none, .idx (.t 46) (.c (.int .i64 1))⟩, mvF 10 47]) (.seq (.seq (.ops 14 [mvF 48 10, ⟨some 49, none, .faddr 0 (.t 9)⟩, ⟨some 50, none, .load false 1 (.t 49)⟩, ⟨some 51, none, .bin .lss .no (.t 48) (.t 50)⟩, mvF 52 51, ⟨some 53, (some (52, false)), .faddr 1 (.t 9)⟩, ⟨some 54, (some (52, false)), .load false 1 (.t 53)⟩, ⟨some 55, (some (52, false)), .mv (.t 10) false⟩, ⟨some 56, (some (52, false)), .bin .lss .no (.t 54) (.t 55)⟩, ⟨some 57, none, .pick (.t 52) (.c (.bool true)) (.t 56)⟩]) (.cond (.t 57) (.seq (.ops 15 [⟨some 2, none, .mv (.c (.int .i32 65533)) false⟩, ⟨some 3, none, .mv (.c (.int .i64 1)) false⟩]) .ret) .skip)) (.seq (.seq (.ops 16 [mvF 58 8, ⟨some 59, none, .bin .leq .no (.t 58) (.c (.int .i64 2))⟩]) (.cond (.t 59) (.seq (.ops 17 [mvF 60 5, ⟨some 61, none, .bin .and .no (.t 60) (.c (.int .u8 31))⟩, ⟨some 62, none, .conv (.toInt .i32) (.t 61)⟩, ⟨some 63, none, .bin .shl .no (.t 62) (.c (.int .u64 6))⟩, mvF 64 10, ⟨some 65, none, .bin .and .no (.t 64) (.c (.int .u8 63))⟩, ⟨some 66, none, .conv (.toInt .i32) (.t 65)⟩, ⟨some 67, none, .bin .or .no (.t 63) (.t 66)⟩, mvF 2 67, ⟨some 3, none, .mv (.c (.int .i64 2)) false⟩]) .ret) .skip)) (.seq (.ops 18 [mvF 68 0, ⟨some 69, none, .idx (.t 68) (.c (.int .i64 2))⟩, mvF 11 69]) (.seq (.seq (.ops 19 [mvF 70 11, ⟨some 71, none, .bin .lss .no (.t 70) (.c (.int .u8 128))⟩, mvF 72 71, ⟨some 73, (some (72, false)), .mv (.t 11) false⟩, ⟨some 74, (some (72, false)), .bin .lss .no (.c (.int .u8 191)) (.t 73)⟩, ⟨some 75, none, .pick (.t 72) (.c (.bool true)) (.t 74)⟩]) (.cond (.t 75) (.seq (.ops 20 [⟨some 2, none, .mv (.c (.int .i32 65533)) false⟩, ⟨some 3, none, .mv (.c (.int .i64 1)) false⟩]) .ret) .skip)) (.seq (.seq (.ops 21 [mvF 76 8, ⟨some 77, none, .bin .leq .no (.t 76) (.c (.int .i64 3))⟩]) (.cond (.t 77) (.seq (.ops 22 [mvF 78 5, ⟨some 79, none, .bin .and .no (.t 78) (.c (.int .u8 15))⟩, ⟨some 80, none, .conv (.toInt .i32) (.t 79)⟩, ⟨some 81, none, .bin .shl .no (.t 80) (.c (.int .u64 12))⟩, mvF 82 10, ⟨some 83, none, .bin .and .no (.t 82) (.c (.int .u8 63))⟩, ⟨some 84, none, .conv (.toInt .i32) (.t 83)⟩, ⟨some 85, none, .bin .shl .no (.t 84) (.c (.int .u64 6))⟩, ⟨some 86, none, .bin .or .no (.t 81) (.t 85)⟩, mvF 87 11, ⟨some 88, none, .bin .and .no (.t 87) (.c (.int .u8 63))⟩, ⟨some 89, none, .conv (.toInt .i32) (.t 88)⟩, ⟨some 90, none, .bin .or .no (.t 86) (.t 89)⟩, mvF 2 90, ⟨some 3, none, .mv (.c (.int .i64 3)) false⟩]) .ret) .skip)) (.seq (.ops 23 [mvF 91 0, ⟨some 92, none, .idx (.t 91) (.c (.int .i64 3))⟩, mvF 12 92]) (.seq (.seq (.ops 24 [mvF 93 12, ⟨some 94, none, .bin .lss .no (.t 93) (.c (.int .u8 128))⟩, mvF 95 94, ⟨some 96, (some (95, false)), .mv (.t 12) false⟩, ⟨some 97, (some (95, false)), .bin .lss .no (.c (.int .u8 191)) (.t 96)⟩, ⟨some 98, none, .pick (.t 95) (.c (.bool true)) (.t 97)⟩]) (.cond (.t 98) (.seq (.ops 25 [⟨some 2, none, .mv (.c (.int .i32 65533)) false⟩, ⟨some 3, none, .mv (.c (.int .i64 1)) false⟩]) .ret) .skip)) (.seq (.ops 26 [mvF 99 5, ⟨some 100, none, .bin .and .no (.t 99) (.c (.int .u8 7))⟩, ⟨some 101, none, .conv (.toInt .i32) (.t 100)⟩, ⟨some 102, none, .bin .shl .no (.t 101) (.c (.int .u64 18))⟩, mvF 103 10, ⟨some 104, none, .bin .and .no (.t 103) (.c (.int .u8 63))⟩, ⟨some 105, none, .conv (.toInt .i32) (.t 104)⟩, ⟨some 106, none, .bin .shl .no (.t 105) (.c (.int .u64 12))⟩, ⟨some 107, none, .bin .or .no (.t 102) (.t 106)⟩, mvF 108 11, ⟨some 109, none, .bin .and .no (.t 108) (.c (.int .u8 63))⟩, ⟨some 110, none, .conv (.toInt .i32) (.t 109)⟩, ⟨some 111, none, .bin .shl .no (.t 110) (.c (.int .u64 6))⟩, ⟨some 112, none, .bin .or .no (.t 107) (.t 111)⟩, mvF 113 12, ⟨some 114, none, .bin .and .no (.t 113) (.c (.int .u8 63))⟩, ⟨some 115, none, .conv (.toInt .i32) (.t 114)⟩, ⟨some 116, none, .bin .or .no (.t 112) (.t 115)⟩, mvF 2 116, ⟨some 3, none, .mv (.c (.int .i64 4)) false⟩]) .ret))))))))))))))))))⟩
theorem ok_c_Z15 : chkFn Tryz.prog 105 c_Z15 = true := chkFn_of Tryz.func105 (by kernel_rfl)
def s_Z15 (M : Mach) (a0 : V) (σ : Objs) : Ro :=
 bd (pu (evLenS a0.ng.ng)) fun x0 =>
 bd (pu (eB .lss .no x0.ng.ng.ng (.int .i64 1))) fun x1 =>
  br x1.ng (
  nK σ.length σ (.tup [(.int .i32 65533), (.int .i64 0)])) (
 bd (pu (evIdx (.int .i64 0) a0.ng.ng)) fun x2 =>
 bd (pu (evIaddrA 256 1 x2.ng.ng.ng (M.G.g 1).ng)) fun x3 =>
 bd (pu (eL σ false 1 x3.ng)) fun x4 =>
 bd (pu (eB .geq .no x4.ng.ng.ng (.int .u8 240))) fun x5 =>
  br x5.ng (
 bd (pu (eC σ (.toInt .i32) x4.ng.ng.ng)) fun x6 =>
 bd (pu (eB .shl .no x6.ng (.int .u64 31))) fun x7 =>
 bd (pu (eB .shr .no x7.ng (.int .u64 31))) fun x8 =>
 bd (pu (evIdx (.int .i64 0) a0.ng.ng)) fun x9 =>
 bd (pu (eC σ (.toInt .i32) x9.ng)) fun x10 =>
 bd (pu (eB .andNot .no x10.ng x8.ng.ng.ng)) fun x11 =>
 bd (pu (eB .and .no (.int .i32 65533) x8.ng.ng.ng)) fun x12 =>
 bd (pu (eB .or .no x11.ng x12.ng)) fun x13 =>
  nK σ.length σ (.tup [x13.ng.ng, (.int .i64 1)])) (
 bd (pu (eB .and .no x4.ng.ng.ng (.int .u8 7))) fun x14 =>
 bd (pu (eC σ (.toInt .i64) x14.ng)) fun x15 =>
 bd (pu (eB .shr .no x4.ng.ng.ng (.int .u64 4))) fun x16 =>
 bd (pu (evIaddrA 16 2 x16.ng (M.G.g 2).ng)) fun x17 =>
 bd (pu (eL σ true 2 x17.ng)) fun x18 =>
  let s19 : Objs := σ ++ [.cells [(.int .u8 0), (.int .u8 0)]]
 bd (stV s19 2 (.ptr σ.length 0) x18.ng x18.ng) fun p20 =>
 bd (pu (eB .lss .no x0.ng.ng.ng x15.ng.ng.ng)) fun x21 =>
  br x21.ng (
  nK σ.length p20.2 (.tup [(.int .i32 65533), (.int .i64 1)])) (
 bd (pu (evIdx (.int .i64 1) a0.ng.ng)) fun x22 =>
 bd (pu (eF 0 (.ptr σ.length 0))) fun x23 =>
 bd (pu (eL p20.2 false 1 x23.ng)) fun x24 =>
 bd (pu (eB .lss .no x22.ng.ng.ng x24.ng)) fun x25 =>
 bd (gdv x25.ng false (pu (eF 1 (.ptr σ.length 0)))) fun x26 =>
 bd (gdv x25.ng false (pu (eL p20.2 false 1 x26.ng))) fun x27 =>
 bd (gdv x25.ng false (some x22.ng.ng)) fun x28 =>
 bd (gdv x25.ng false (pu (eB .lss .no x27.ng x28.ng))) fun x29 =>
 bd (pu (pV x25.ng.ng (.bool true) x29.ng)) fun x30 =>
  br x30.ng (
  nK σ.length p20.2 (.tup [(.int .i32 65533), (.int .i64 1)])) (
 bd (pu (eB .leq .no x15.ng.ng.ng (.int .i64 2))) fun x31 =>
  br x31.ng (
 bd (pu (eB .and .no x2.ng.ng.ng (.int .u8 31))) fun x32 =>
 bd (pu (eC p20.2 (.toInt .i32) x32.ng)) fun x33 =>
 bd (pu (eB .shl .no x33.ng (.int .u64 6))) fun x34 =>
 bd (pu (eB .and .no x22.ng.ng.ng (.int .u8 63))) fun x35 =>
 bd (pu (eC p20.2 (.toInt .i32) x35.ng)) fun x36 =>
 bd (pu (eB .or .no x34.ng x36.ng)) fun x37 =>
  nK σ.length p20.2 (.tup [x37.ng.ng, (.int .i64 2)])) (
 bd (pu (evIdx (.int .i64 2) a0.ng.ng)) fun x38 =>
 bd (pu (eB .lss .no x38.ng.ng.ng (.int .u8 128))) fun x39 =>
 bd (gdv x39.ng false (some x38.ng.ng)) fun x40 =>
 bd (gdv x39.ng false (pu (eB .lss .no (.int .u8 191) x40.ng))) fun x41 =>
 bd (pu (pV x39.ng.ng (.bool true) x41.ng)) fun x42 =>
  br x42.ng (
  nK σ.length p20.2 (.tup [(.int .i32 65533), (.int .i64 1)])) (
 bd (pu (eB .leq .no x15.ng.ng.ng (.int .i64 3))) fun x43 =>
  br x43.ng (
 bd (pu (eB .and .no x2.ng.ng.ng (.int .u8 15))) fun x44 =>
 bd (pu (eC p20.2 (.toInt .i32) x44.ng)) fun x45 =>
 bd (pu (eB .shl .no x45.ng (.int .u64 12))) fun x46 =>
 bd (pu (eB .and .no x22.ng.ng.ng (.int .u8 63))) fun x47 =>
 bd (pu (eC p20.2 (.toInt .i32) x47.ng)) fun x48 =>
 bd (pu (eB .shl .no x48.ng (.int .u64 6))) fun x49 =>
 bd (pu (eB .or .no x46.ng x49.ng)) fun x50 =>
 bd (pu (eB .and .no x38.ng.ng.ng (.int .u8 63))) fun x51 =>
 bd (pu (eC p20.2 (.toInt .i32) x51.ng)) fun x52 =>
 bd (pu (eB .or .no x50.ng x52.ng)) fun x53 =>
  nK σ.length p20.2 (.tup [x53.ng.ng, (.int .i64 3)])) (
 bd (pu (evIdx (.int .i64 3) a0.ng.ng)) fun x54 =>
 bd (pu (eB .lss .no x54.ng.ng.ng (.int .u8 128))) fun x55 =>
 bd (gdv x55.ng false (some x54.ng.ng)) fun x56 =>
 bd (gdv x55.ng false (pu (eB .lss .no (.int .u8 191) x56.ng))) fun x57 =>
 bd (pu (pV x55.ng.ng (.bool true) x57.ng)) fun x58 =>
  br x58.ng (
  nK σ.length p20.2 (.tup [(.int .i32 65533), (.int .i64 1)])) (
 bd (pu (eB .and .no x2.ng.ng.ng (.int .u8 7))) fun x59 =>
 bd (pu (eC p20.2 (.toInt .i32) x59.ng)) fun x60 =>
 bd (pu (eB .shl .no x60.ng (.int .u64 18))) fun x61 =>
 bd (pu (eB .and .no x22.ng.ng.ng (.int .u8 63))) fun x62 =>
 bd (pu (eC p20.2 (.toInt .i32) x62.ng)) fun x63 =>
 bd (pu (eB .shl .no x63.ng (.int .u64 12))) fun x64 =>
 bd (pu (eB .or .no x61.ng x64.ng)) fun x65 =>
 bd (pu (eB .and .no x38.ng.ng.ng (.int .u8 63))) fun x66 =>
 bd (pu (eC p20.2 (.toInt .i32) x66.ng)) fun x67 =>
 bd (pu (eB .shl .no x67.ng (.int .u64 6))) fun x68 =>
 bd (pu (eB .or .no x65.ng x68.ng)) fun x69 =>
 bd (pu (eB .and .no x54.ng.ng.ng (.int .u8 63))) fun x70 =>
 bd (pu (eC p20.2 (.toInt .i32) x70.ng)) fun x71 =>
 bd (pu (eB .or .no x69.ng x71.ng)) fun x72 =>
  nK σ.length p20.2 (.tup [x72.ng.ng, (.int .i64 4)])))))))))
theorem k_Z15 (M : Mach) (a0 : V) (σ : Objs) : fnK M c_Z15 [a0] σ = s_Z15 M a0 σ := by kernel_rfl
def c_Zr : Ev.Fn := ⟨15, [.tmp 2], true, false, (.seq (.ops 0 [⟨some 2, none, .mv (.c (.str [])) false⟩]) (.seq (.seq (.ops 1 [mvF 3 0, ⟨some 4, none, .bin .lss .no (.t 3) (.c (.int .i64 10))⟩]) (.cond (.t 4) (.seq (.ops 2 [mvF 5 0, mvF 6 0, ⟨some 7, none, .bin .add .no (.t 6) (.c (.int .i64 1))⟩, ⟨some 8, none, .cutS (.c (.str [48, 49, 50, 51, 52, 53, 54, 55, 56, 57, 97, 98, 99, 100, 101, 102, 103, 104, 105, 106, 107, 108, 109, 110, 111, 112, 113, 114, 115, 116, 117, 118, 119, 120, 121, 122])) (some (.t 5)) (some (.t 7))⟩, mvF 2 8]) .ret) .skip)) (.seq (.ops 3 [mvF 9 0, ⟨some 10, none, .bin .mul .no (.t 9) (.c (.int .i64 2))⟩, mvF 11 0, ⟨some 12, none, .bin .mul .no (.t 11) (.c (.int .i64 2))⟩, ⟨some 13, none, .bin .add .no (.t 12) (.c (.int .i64 2))⟩, ⟨some 14, none, .cutS (.c (.str [48, 48, 48, 49, 48, 50, 48, 51, 48, 52, 48, 53, 48, 54, 48, 55, 48, 56, 48, 57, 49, 48, 49, 49, 49, 50, 49, 51, 49, 52, 49, 53, 49, 54, 49, 55, 49, 56, 49, 57, 50, 48, 50, 49, 50, 50, 50, 51, 50, 52, 50, 53, 50, 54, 50, 55, 50, 56, 50, 57, 51, 48, 51, 49, 51, 50, 51, 51, 51, 52, 51, 53, 51, 54, 51, 55, 51, 56, 51, 57, 52, 48, 52, 49, 52, 50, 52, 51, 52, 52, 52, 53, 52, 54, 52, 55, 52, 56, 52, 57, 53, 48, 53, 49, 53, 50, 53, 51, 53, 52, 53, 53, 53, 54, 53, 55, 53, 56, 53, 57, 54, 48, 54, 49, 54, 50, 54, 51, 54, 52, 54, 53, 54, 54, 54, 55, 54, 56, 54, 57, 55, 48, 55, 49, 55, 50, 55, 51, 55, 52, 55, 53, 55, 54, 55, 55, 55, 56, 55, 57, 56, 48, 56, 49, 56, 50, 56, 51, 56, 52, 56, 53, 56, 54, 56, 55, 56, 56, 56, 57, 57, 48, 57, 49, 57, 50, 57, 51, 57, 52, 57, 53, 57, 54, 57, 55, 57, 56, 57, 57])) (some (.t 10)) (some (.t 13))⟩, mvF 2 14]) .ret)))⟩
theorem ok_c_Zr : chkFn Tryz.prog 107 c_Zr = true := chkFn_of Tryz.func107 (by kernel_rfl)
def s_Zr (M : Mach) (a0 : V) (σ : Objs) : Ro :=
 bd (pu (eB .lss .no a0.ng.ng (.int .i64 10))) fun x0 =>
  br x0.ng (
 bd (pu (eB .add .no a0.ng.ng (.int .i64 1))) fun x1 =>
 bd (pu (evCutS (.str [48, 49, 50, 51, 52, 53, 54, 55, 56, 57, 97, 98, 99, 100, 101, 102, 103, 104, 105, 106, 107, 108, 109, 110, 111, 112, 113, 114, 115, 116, 117, 118, 119, 120, 121, 122]) (some a0.ng.ng) (some x1.ng))) fun x2 =>
 bd (oK true x2.ng) (nK σ.length σ)) (
 bd (pu (eB .mul .no a0.ng.ng (.int .i64 2))) fun x3 =>
 bd (pu (eB .mul .no a0.ng.ng (.int .i64 2))) fun x4 =>
 bd (pu (eB .add .no x4.ng (.int .i64 2))) fun x5 =>
 bd (pu (evCutS (.str [48, 48, 48, 49, 48, 50, 48, 51, 48, 52, 48, 53, 48, 54, 48, 55, 48, 56, 48, 57, 49, 48, 49, 49, 49, 50, 49, 51, 49, 52, 49, 53, 49, 54, 49, 55, 49, 56, 49, 57, 50, 48, 50, 49, 50, 50, 50, 51, 50, 52, 50, 53, 50, 54, 50, 55, 50, 56, 50, 57, 51, 48, 51, 49, 51, 50, 51, 51, 51, 52, 51, 53, 51, 54, 51, 55, 51, 56, 51, 57, 52, 48, 52, 49, 52, 50, 52, 51, 52, 52, 52, 53, 52, 54, 52, 55, 52, 56, 52, 57, 53, 48, 53, 49, 53, 50, 53, 51, 53, 52, 53, 53, 53, 54, 53, 55, 53, 56, 53, 57, 54, 48, 54, 49, 54, 50, 54, 51, 54, 52, 54, 53, 54, 54, 54, 55, 54, 56, 54, 57, 55, 48, 55, 49, 55, 50, 55, 51, 55, 52, 55, 53, 55, 54, 55, 55, 55, 56, 55, 57, 56, 48, 56, 49, 56, 50, 56, 51, 56, 52, 56, 53, 56, 54, 56, 55, 56, 56, 56, 57, 57, 48, 57, 49, 57, 50, 57, 51, 57, 52, 57, 53, 57, 54, 57, 55, 57, 56, 57, 57]) (some x3.ng) (some x5.ng))) fun x6 =>
 bd (oK true x6.ng) (nK σ.length σ))
theorem k_Zr (M : Mach) (a0 : V) (σ : Objs) : fnK M c_Zr [a0] σ = s_Zr M a0 σ := by kernel_rfl
def c_Zq : Ev.Fn := ⟨15, [.tmp 2], false, false, (.seq (.ops 0 [⟨some 2, none, .mv (.c (.int .i64 0)) false⟩]) (.seq (.ops 1 [mvF 4 0, ⟨some 5, none, .call 120 [.t 4]⟩, ⟨some 6, none, .call 119 [.t 5]⟩, mvF 3 6]) (.seq (.ops 2 [mvF 7 3, mvF 8 0, mvF 9 3, ⟨some 10, none, .iaddrA 20 1 (.g 3) (.t 9)⟩, ⟨some 11, none, .load false 1 (.t 10)⟩, ⟨some 12, none, .bin .geq .no (.t 8) (.t 11)⟩, ⟨some 13, none, .call 121 [.t 12]⟩, ⟨some 14, none, .bin .add .no (.t 7) (.t 13)⟩, mvF 2 14]) .ret)))⟩
theorem ok_c_Zq : chkFn Tryz.prog 108 c_Zq = true := chkFn_of Tryz.func108 (by kernel_rfl)
def s_Zq (M : Mach) (a0 : V) (σ : Objs) : Ro :=
 bd (M.call 120 [a0.ng.ng] σ) fun p0 =>
 bd (M.call 119 [p0.1.ng] p0.2) fun p1 =>
 bd (pu (evIaddrA 20 1 p1.1.ng.ng.ng (M.G.g 3).ng)) fun x2 =>
 bd (pu (eL p1.2 false 1 x2.ng)) fun x3 =>
 bd (pu (eB .geq .no a0.ng.ng x3.ng)) fun x4 =>
 bd (M.call 121 [x4.ng] p1.2) fun p5 =>
 bd (pu (eB .add .no p1.1.ng.ng.ng p5.1.ng)) fun x6 =>
 bd (oK false x6.ng) (nK σ.length p5.2)
theorem k_Zq (M : Mach) (a0 : V) (σ : Objs) : fnK M c_Zq [a0] σ = s_Zq M a0 σ := by kernel_rfl
def c_Zo : Ev.Fn := ⟨167, [], true, false, (.seq (.ops 0 [mvF 17 0, ⟨some 18, none, .len (.t 17)⟩, mvF 4 18]) (.seq (.block 0 (.loop [0, 1, 4] [0, 1, 4] (.seq (.seq (.ops 1 [mvF 19 4, ⟨some 20, none, .bin .geq .no (.t 19) (.c (.int .i64 8))⟩]) (.cond (.t 20) .skip (.exit 0))) (.block 1 (.seq (.ops 2 [mvF 21 1, ⟨some 22, none, .bin .rem .no (.t 21) (.c (.int .u64 100000000))⟩, ⟨some 23, none, .conv (.toInt .u32) (.t 22)⟩, mvF 5 23]) (.seq (.ops 3 [mvF 24 1, ⟨some 25, none, .bin .quo .no (.t 24) (.c (.int .u64 100000000))⟩, mvF 1 25]) (.seq (.ops 4 [mvF 26 5, ⟨some 27, none, .bin .quo .no (.t 26) (.c (.int .u32 10000))⟩, mvF 28 5, ⟨some 29, none, .bin .rem .no (.t 28) (.c (.int .u32 10000))⟩, mvF 6 27, mvF 7 29]) (.seq (.ops 5 [mvF 30 7, ⟨some 31, none, .bin .quo .no (.t 30) (.c (.int .u32 100))⟩, ⟨some 32, none, .bin .mul .no (.t 31) (.c (.int .u32 2))⟩, mvF 33 7, ⟨some 34, none, .bin .rem .no (.t 33) (.c (.int .u32 100))⟩, ⟨some 35, none, .bin .mul .no (.t 34) (.c (.int .u32 2))⟩, mvF 8 32, mvF 9 35]) (.seq (.ops 6 [mvF 36 6, ⟨some 37, none, .bin .quo .no (.t 36) (.c (.int .u32 100))⟩, ⟨some 38, none, .bin .mul .no (.t 37) (.c (.int .u32 2))⟩, mvF 39 6, ⟨some 40, none, .bin .rem .no (.t 39) (.c (.int .u32 100))⟩, ⟨some 41, none, .bin .mul .no (.t 40) (.c (.int .u32 2))⟩, mvF 10 38, mvF 11 41]) (.seq (.drw 7 [⟨mvF 42 0, 0, []⟩, ⟨mvF 43 4, 1, []⟩, ⟨⟨some 44, none, .bin .sub .no (.t 43) (.c (.int .i64 1))⟩, 2, []⟩, ⟨mvF 45 0, 3, []⟩, ⟨mvF 46 4, 4, []⟩, ⟨⟨some 47, none, .bin .sub .no (.t 46) (.c (.int .i64 2))⟩, 5, []⟩, ⟨mvF 48 9, 6, []⟩, ⟨⟨some 49, none, .bin .add .no (.t 48) (.c (.int .u32 1))⟩, 7, []⟩, ⟨⟨some 50, none, .idx (.c (.str [48, 48, 48, 49, 48, 50, 48, 51, 48, 52, 48, 53, 48, 54, 48, 55, 48, 56, 48, 57, 49, 48, 49, 49, 49, 50, 49, 51, 49, 52, 49, 53, 49, 54, 49, 55, 49, 56, 49, 57, 50, 48, 50, 49, 50, 50, 50, 51, 50, 52, 50, 53, 50, 54, 50, 55, 50, 56, 50, 57, 51, 48, 51, 49, 51, 50, 51, 51, 51, 52, 51, 53, 51, 54, 51, 55, 51, 56, 51, 57, 52, 48, 52, 49, 52, 50, 52, 51, 52, 52, 52, 53, 52, 54, 52, 55, 52, 56, 52, 57, 53, 48, 53, 49, 53, 50, 53, 51, 53, 52, 53, 53, 53, 54, 53, 55, 53, 56, 53, 57, 54, 48, 54, 49, 54, 50, 54, 51, 54, 52, 54, 53, 54, 54, 54, 55, 54, 56, 54, 57, 55, 48, 55, 49, 55, 50, 55, 51, 55, 52, 55, 53, 55, 54, 55, 55, 55, 56, 55, 57, 56, 48, 56, 49, 56, 50, 56, 51, 56, 52, 56, 53, 56, 54, 56, 55, 56, 56, 56, 57, 57, 48, 57, 49, 57, 50, 57, 51, 57, 52, 57, 53, 57, 54, 57, 55, 57, 56, 57, 57])) (.t 49)⟩, 8, []⟩, ⟨mvF 51 9, 9, []⟩, ⟨⟨some 52, none, .idx (.c (.str [48, 48, 48, 49, 48, 50, 48, 51, 48, 52, 48, 53, 48, 54, 48, 55, 48, 56, 48, 57, 49, 48, 49, 49, 49, 50, 49, 51, 49, 52, 49, 53, 49, 54, 49, 55, 49, 56, 49, 57, 50, 48, 50, 49, 50, 50, 50, 51, 50, 52, 50, 53, 50, 54, 50, 55, 50, 56, 50, 57, 51, 48, 51, 49, 51, 50, 51, 51, 51, 52, 51, 53, 51, 54, 51, 55, 51, 56, 51, 57, 52, 48, 52, 49, 52, 50, 52, 51, 52, 52, 52, 53, 52, 54, 52, 55, 52, 56, 52, 57, 53, 48, 53, 49, 53, 50, 53, 51, 53, 52, 53, 53, 53, 54, 53, 55, 53, 56, 53, 57, 54, 48, 54, 49, 54, 50, 54, 51, 54, 52, 54, 53, 54, 54, 54, 55, 54, 56, 54, 57, 55, 48, 55, 49, 55, 50, 55, 51, 55, 52, 55, 53, 55, 54, 55, 55, 55, 56, 55, 57, 56, 48, 56, 49, 56, 50, 56, 51, 56, 52, 56, 53, 56, 54, 56, 55, 56, 56, 56, 57, 57, 48, 57, 49, 57, 50, 57, 51, 57, 52, 57, 53, 57, 54, 57, 55, 57, 56, 57, 57])) (.t 51)⟩, 10, []⟩, ⟨⟨some 53, none, .iaddr 1 (.t 42) (.t 44)⟩, 11, []⟩, ⟨⟨none, none, .store 1 (.t 53) (.t 50) false⟩, 12, []⟩, ⟨⟨some 54, none, .iaddr 1 (.t 45) (.t 47)⟩, 13, []⟩, ⟨⟨none, none, .store 1 (.t 54) (.t 52) false⟩, 14, []⟩]) (.seq (.drw 8 [⟨mvF 55 0, 0, []⟩, ⟨mvF 56 4, 1, []⟩, ⟨⟨some 57, none, .bin .sub .no (.t 56) (.c (.int .i64 3))⟩, 2, []⟩, ⟨mvF 58 0, 3, []⟩, ⟨mvF 59 4, 4, []⟩, ⟨⟨some 60, none, .bin .sub .no (.t 59) (.c (.int .i64 4))⟩, 5, []⟩, ⟨mvF 61 8, 6, []⟩, ⟨⟨some 62, none, .bin .add .no (.t 61) (.c (.int .u32 1))⟩, 7, []⟩, ⟨⟨some 63, none, .idx (.c (.str [48, 48, 48, 49, 48, 50, 48, 51, 48, 52, 48, 53, 48, 54, 48, 55, 48, 56, 48, 57, 49, 48, 49, 49, 49, 50, 49, 51, 49, 52, 49, 53, 49, 54, 49, 55, 49, 56, 49, 57, 50, 48, 50, 49, 50, 50, 50, 51, 50, 52, 50, 53, 50, 54, 50, 55, 50, 56, 50, 57, 51, 48, 51, 49, 51, 50, 51, 51, 51, 52, 51, 53, 51, 54, 51, 55, 51, 56, 51, 57, 52, 48, 52, 49, 52, 50, 52, 51, 52, 52, 52, 53, 52, 54, 52, 55, 52, 56, 52, 57, 53, 48, 53, 49, 53, 50, 53, 51, 53, 52, 53, 53, 53, 54, 53, 55, 53, 56, 53, 57, 54, 48, 54, 49, 54, 50, 54, 51, 54, 52, 54, 53, 54, 54, 54, 55, 54, 56, 54, 57, 55, 48, 55, 49, 55, 50, 55, 51, 55, 52, 55, 53, 55, 54, 55, 55, 55, 56, 55, 57, 56, 48, 56, 49, 56, 50, 56, 51, 56, 52, 56, 53, 56, 54, 56, 55, 56, 56, 56, 57, 57, 48, 57, 49, 57, 50, 57, 51, 57, 52, 57, 53, 57, 54, 57, 55, 57, 56, 57, 57])) (.t 62)⟩, 8, []⟩, ⟨mvF 64 8, 9, []⟩, ⟨⟨some 65, none, .idx (.c (.str [48, 48, 48, 49, 48, 50, 48, 51, 48, 52, 48, 53, 48, 54, 48, 55, 48, 56, 48, 57, 49, 48, 49, 49, 49, 50, 49, 51, 49, 52, 49, 53, 49, 54, 49, 55, 49, 56, 49, 57, 50, 48, 50, 49, 50, 50, 50, 51, 50, 52, 50, 53, 50, 54, 50, 55, 50, 56, 50, 57, 51, 48, 51, 49, 51, 50, 51, 51, 51, 52, 51, 53, 51, 54, 51, 55, 51, 56, 51, 57, 52, 48, 52, 49, 52, 50, 52, 51, 52, 52, 52, 53, 52, 54, 52, 55, 52, 56, 52, 57, 53, 48, 53, 49, 53, 50, 53, 51, 53, 52, 53, 53, 53, 54, 53, 55, 53, 56, 53, 57, 54, 48, 54, 49, 54, 50, 54, 51, 54, 52, 54, 53, 54, 54, 54, 55, 54, 56, 54, 57, 55, 48, 55, 49, 55, 50, 55, 51, 55, 52, 55, 53, 55, 54, 55, 55, 55, 56, 55, 57, 56, 48, 56, 49, 56, 50, 56, 51, 56, 52, 56, 53, 56, 54, 56, 55, 56, 56, 56, 57, 57, 48, 57, 49, 57, 50, 57, 51, 57, 52, 57, 53, 57, 54, 57, 55, 57, 56, 57, 57])) (.t 64)⟩, 10, []⟩, ⟨⟨some 66, none, .iaddr 1 (.t 55) (.t 57)⟩, 11, []⟩, ⟨⟨none, none, .store 1 (.t 66) (.t 63) false⟩, 12, []⟩, ⟨⟨some 67, none, .iaddr 1 (.t 58) (.t 60)⟩, 13, []⟩, ⟨⟨none, none, .store 1 (.t 67) (.t 65) false⟩, 14, []⟩]) (.seq (.drw 9 [⟨mvF 68 0, 0, []⟩, ⟨mvF 69 4, 1, []⟩, ⟨⟨some 70, none, .bin .sub .no (.t 69) (.c (.int .i64 5))⟩, 2, []⟩, ⟨mvF 71 0, 3, []⟩, ⟨mvF 72 4, 4, []⟩, ⟨⟨some 73, none, .bin .sub .no (.t 72) (.c (.int .i64 6))⟩, 5, []⟩, ⟨mvF 74 11, 6, []⟩, ⟨⟨some 75, none, .bin .add .no (.t 74) (.c (.int .u32 1))⟩, 7, []⟩, ⟨⟨some 76, none, .idx (.c (.str [48, 48, 48, 49, 48, 50, 48, 51, 48, 52, 48, 53, 48, 54, 48, 55, 48, 56, 48, 57, 49, 48, 49, 49, 49, 50, 49, 51, 49, 52, 49, 53, 49, 54, 49, 55, 49, 56, 49, 57, 50, 48, 50, 49, 50, 50, 50, 51, 50, 52, 50, 53, 50, 54, 50, 55, 50, 56, 50, 57, 51, 48, 51, 49, 51, 50, 51, 51, 51, 52, 51, 53, 51, 54, 51, 55, 51, 56, 51, 57, 52, 48, 52, 49, 52, 50, 52, 51, 52, 52, 52, 53, 52, 54, 52, 55, 52, 56, 52, 57, 53, 48, 53, 49, 53, 50, 53, 51, 53, 52, 53, 53, 53, 54, 53, 55, 53, 56, 53, 57, 54, 48, 54, 49, 54, 50, 54, 51, 54, 52, 54, 53, 54, 54, 54, 55, 54, 56, 54, 57, 55, 48, 55, 49, 55, 50, 55, 51, 55, 52, 55, 53, 55, 54, 55, 55, 55, 56, 55, 57, 56, 48, 56, 49, 56, 50, 56, 51, 56, 52, 56, 53, 56, 54, 56, 55, 56, 56, 56, 57, 57, 48, 57, 49, 57, 50, 57, 51, 57, 52, 57, 53, 57, 54, 57, 55, 57, 56, 57, 57])) (.t 75)⟩, 8, []⟩, ⟨mvF 77 11, 9, []⟩, ⟨⟨some 78, none, .idx (.c (.str [48, 48, 48, 49, 48, 50, 48, 51, 48, 52, 48, 53, 48, 54, 48, 55, 48, 56, 48, 57, 49, 48, 49, 49, 49, 50, 49, 51, 49, 52, 49, 53, 49, 54, 49, 55, 49, 56, 49, 57, 50, 48, 50, 49, 50, 50, 50, 51, 50, 52, 50, 53, 50, 54, 50, 55, 50, 56, 50, 57, 51, 48, 51, 49, 51, 50, 51, 51, 51, 52, 51, 53, 51, 54, 51, 55, 51, 56, 51, 57, 52, 48, 52, 49, 52, 50, 52, 51, 52, 52, 52, 53, 52, 54, 52, 55, 52, 56, 52, 57, 53, 48, 53, 49, 53, 50, 53, 51, 53, 52, 53, 53, 53, 54, 53, 55, 53, 56, 53, 57, 54, 48, 54, 49, 54, 50, 54, 51, 54, 52, 54, 53, 54, 54, 54, 55, 54, 56, 54, 57, 55, 48, 55, 49, 55, 50, 55, 51, 55, 52, 55, 53, 55, 54, 55, 55, 55, 56, 55, 57, 56, 48, 56, 49, 56, 50, 56, 51, 56, 52, 56, 53, 56, 54, 56, 55, 56, 56, 56, 57, 57, 48, 57, 49, 57, 50, 57, 51, 57, 52, 57, 53, 57, 54, 57, 55, 57, 56, 57, 57])) (.t 77)⟩, 10, []⟩, ⟨⟨some 79, none, .iaddr 1 (.t 68) (.t 70)⟩, 11, []⟩, ⟨⟨none, none, .store 1 (.t 79) (.t 76) false⟩, 12, []⟩, ⟨⟨some 80, none, .iaddr 1 (.t 71) (.t 73)⟩, 13, []⟩, ⟨⟨none, none, .store 1 (.t 80) (.t 78) false⟩, 14, []⟩]) (.seq (.drw 10 [⟨mvF 81 0, 0, []⟩, ⟨mvF 82 4, 1, []⟩, ⟨⟨some 83, none, .bin .sub .no (.t 82) (.c (.int .i64 7))⟩, 2, []⟩, ⟨mvF 84 0, 3, []⟩, ⟨mvF 85 4, 4, []⟩, ⟨⟨some 86, none, .bin .sub .no (.t 85) (.c (.int .i64 8))⟩, 5, []⟩, ⟨mvF 87 10, 6, []⟩, ⟨⟨some 88, none, .bin .add .no (.t 87) (.c (.int .u32 1))⟩, 7, []⟩, ⟨⟨some 89, none, .idx (.c (.str [48, 48, 48, 49, 48, 50, 48, 51, 48, 52, 48, 53, 48, 54, 48, 55, 48, 56, 48, 57, 49, 48, 49, 49, 49, 50, 49, 51, 49, 52, 49, 53, 49, 54, 49, 55, 49, 56, 49, 57, 50, 48, 50, 49, 50, 50, 50, 51, 50, 52, 50, 53, 50, 54, 50, 55, 50, 56, 50, 57, 51, 48, 51, 49, 51, 50, 51, 51, 51, 52, 51, 53, 51, 54, 51, 55, 51, 56, 51, 57, 52, 48, 52, 49, 52, 50, 52, 51, 52, 52, 52, 53, 52, 54, 52, 55, 52, 56, 52, 57, 53, 48, 53, 49, 53, 50, 53, 51, 53, 52, 53, 53, 53, 54, 53, 55, 53, 56, 53, 57, 54, 48, 54, 49, 54, 50, 54, 51, 54, 52, 54, 53, 54, 54, 54, 55, 54, 56, 54, 57, 55, 48, 55, 49, 55, 50, 55, 51, 55, 52, 55, 53, 55, 54, 55, 55, 55, 56, 55, 57, 56, 48, 56, 49, 56, 50, 56, 51, 56, 52, 56, 53, 56, 54, 56, 55, 56, 56, 56, 57, 57, 48, 57, 49, 57, 50, 57, 51, 57, 52, 57, 53, 57, 54, 57, 55, 57, 56, 57, 57])) (.t 88)⟩, 8, []⟩, ⟨mvF 90 10, 9, []⟩, ⟨⟨some 91, none, .idx (.c (.str [48, 48, 48, 49, 48, 50, 48, 51, 48, 52, 48, 53, 48, 54, 48, 55, 48, 56, 48, 57, 49, 48, 49, 49, 49, 50, 49, 51, 49, 52, 49, 53, 49, 54, 49, 55, 49, 56, 49, 57, 50, 48, 50, 49, 50, 50, 50, 51, 50, 52, 50, 53, 50, 54, 50, 55, 50, 56, 50, 57, 51, 48, 51, 49, 51, 50, 51, 51, 51, 52, 51, 53, 51, 54, 51, 55, 51, 56, 51, 57, 52, 48, 52, 49, 52, 50, 52, 51, 52, 52, 52, 53, 52, 54, 52, 55, 52, 56, 52, 57, 53, 48, 53, 49, 53, 50, 53, 51, 53, 52, 53, 53, 53, 54, 53, 55, 53, 56, 53, 57, 54, 48, 54, 49, 54, 50, 54, 51, 54, 52, 54, 53, 54, 54, 54, 55, 54, 56, 54, 57, 55, 48, 55, 49, 55, 50, 55, 51, 55, 52, 55, 53, 55, 54, 55, 55, 55, 56, 55, 57, 56, 48, 56, 49, 56, 50, 56, 51, 56, 52, 56, 53, 56, 54, 56, 55, 56, 56, 56, 57, 57, 48, 57, 49, 57, 50, 57, 51, 57, 52, 57, 53, 57, 54, 57, 55, 57, 56, 57, 57])) (.t 90)⟩, 10, []⟩, ⟨⟨some 92, none, .iaddr 1 (.t 81) (.t 83)⟩, 11, []⟩, ⟨⟨none, none, .store 1 (.t 92) (.t 89) false⟩, 12, []⟩, ⟨⟨some 93, none, .iaddr 1 (.t 84) (.t 86)⟩, 13, []⟩, ⟨⟨none, none, .store 1 (.t 93) (.t 91) false⟩, 14, []⟩]) (.ops 11 [mvF 94 4, ⟨some 95, none, .bin .sub .no (.t 94) (.c (.int .i64 8))⟩, mvF 4 95])))))))))))))) (.seq (.ops 12 [mvF 96 1, ⟨some 97, none, .conv (.toInt .u32) (.t 96)⟩, mvF 12 97]) (.seq (.seq (.ops 13 [mvF 98 4, ⟨some 99, none, .bin .geq .no (.t 98) (.c (.int .i64 4))⟩]) (.cond (.t 99) (.seq (.ops 14 [mvF 100 12, ⟨some 101, none, .bin .rem .no (.t 100) (.c (.int .u32 10000))⟩, mvF 13 101]) (.seq (.ops 15 [mvF 102 12, ⟨some 103, none, .bin .quo .no (.t 102) (.c (.int .u32 10000))⟩, mvF 12 103]) (.seq (.ops 16 [mvF 104 13, ⟨some 105, none, .bin .quo .no (.t 104) (.c (.int .u32 100))⟩, ⟨some 106, none, .bin .mul .no (.t 105) (.c (.int .u32 2))⟩, mvF 107 13, ⟨some 108, none, .bin .rem .no (.t 107) (.c (.int .u32 100))⟩, ⟨some 109, none, .bin .mul .no (.t 108) (.c (.int .u32 2))⟩, mvF 14 106, mvF 15 109]) (.seq (.drw 17 [⟨mvF 110 0, 0, []⟩, ⟨mvF 111 4, 1, []⟩, ⟨⟨some 112, none, .bin .sub .no (.t 111) (.c (.int .i64 1))⟩, 2, []⟩, ⟨mvF 113 0, 3, []⟩, ⟨mvF 114 4, 4, []⟩, ⟨⟨some 115, none, .bin .sub .no (.t 114) (.c (.int .i64 2))⟩, 5, []⟩, ⟨mvF 116 15, 6, []⟩, ⟨⟨some 117, none, .bin .add .no (.t 116) (.c (.int .u32 1))⟩, 7, []⟩, ⟨⟨some 118, none, .idx (.c (.str [48, 48, 48, 49, 48, 50, 48, 51, 48, 52, 48, 53, 48, 54, 48, 55, 48, 56, 48, 57, 49, 48, 49, 49, 49, 50, 49, 51, 49, 52, 49, 53, 49, 54, 49, 55, 49, 56, 49, 57, 50, 48, 50, 49, 50, 50, 50, 51, 50, 52, 50, 53, 50, 54, 50, 55, 50, 56, 50, 57, 51, 48, 51, 49, 51, 50, 51, 51, 51, 52, 51, 53, 51, 54, 51, 55, 51, 56, 51, 57, 52, 48, 52, 49, 52, 50, 52, 51, 52, 52, 52, 53, 52, 54, 52, 55, 52, 56, 52, 57, 53, 48, 53, 49, 53, 50, 53, 51, 53, 52, 53, 53, 53, 54, 53, 55, 53, 56, 53, 57, 54, 48, 54, 49, 54, 50, 54, 51, 54, 52, 54, 53, 54, 54, 54, 55, 54, 56, 54, 57, 55, 48, 55, 49, 55, 50, 55, 51, 55, 52, 55, 53, 55, 54, 55, 55, 55, 56, 55, 57, 56, 48, 56, 49, 56, 50, 56, 51, 56, 52, 56, 53, 56, 54, 56, 55, 56, 56, 56, 57, 57, 48, 57, 49, 57, 50, 57, 51, 57, 52, 57, 53, 57, 54, 57, 55, 57, 56, 57, 57])) (.t 117)⟩, 8, []⟩, ⟨mvF 119 15, 9, []⟩, ⟨⟨some 120, none, .idx (.c (.str [48, 48, 48, 49, 48, 50, 48, 51, 48, 52, 48, 53, 48, 54, 48, 55, 48, 56, 48, 57, 49, 48, 49, 49, 49, 50, 49, 51, 49, 52, 49, 53, 49, 54, 49, 55, 49, 56, 49, 57, 50, 48, 50, 49, 50, 50, 50, 51, 50, 52, 50, 53, 50, 54, 50, 55, 50, 56, 50, 57, 51, 48, 51, 49, 51, 50, 51, 51, 51, 52, 51, 53, 51, 54, 51, 55, 51, 56, 51, 57, 52, 48, 52, 49, 52, 50, 52, 51, 52, 52, 52, 53, 52, 54, 52, 55, 52, 56, 52, 57, 53, 48, 53, 49, 53, 50, 53, 51, 53, 52, 53, 53, 53, 54, 53, 55, 53, 56, 53, 57, 54, 48, 54, 49, 54, 50, 54, 51, 54, 52, 54, 53, 54, 54, 54, 55, 54, 56, 54, 57, 55, 48, 55, 49, 55, 50, 55, 51, 55, 52, 55, 53, 55, 54, 55, 55, 55, 56, 55, 57, 56, 48, 56, 49, 56, 50, 56, 51, 56, 52, 56, 53, 56, 54, 56, 55, 56, 56, 56, 57, 57, 48, 57, 49, 57, 50, 57, 51, 57, 52, 57, 53, 57, 54, 57, 55, 57, 56, 57, 57])) (.t 119)⟩, 10, []⟩, ⟨⟨some 121, none, .iaddr 1 (.t 110) (.t 112)⟩, 11, []⟩, ⟨⟨none, none, .store 1 (.t 121) (.t 118) false⟩, 12, []⟩, ⟨⟨some 122, none, .iaddr 1 (.t 113) (.t 115)⟩, 13, []⟩, ⟨⟨none, none, .store 1 (.t 122) (.t 120) false⟩, 14, []⟩]) (.seq (.drw 18 [⟨mvF 123 0, 0, []⟩, ⟨mvF 124 4, 1, []⟩, ⟨⟨some 125, none, .bin .sub .no (.t 124) (.c (.int .i64 3))⟩, 2, []⟩, ⟨mvF 126 0, 3, []⟩, ⟨mvF 127 4, 4, []⟩, ⟨⟨some 128, none, .bin .sub .no (.t 127) (.c (.int .i64 4))⟩, 5, []⟩, ⟨mvF 129 14, 6, []⟩, ⟨⟨some 130, none, .bin .add .no (.t 129) (.c (.int .u32 1))⟩, 7, []⟩, ⟨⟨some 131, none, .idx (.c (.str [48, 48, 48, 49, 48, 50, 48, 51, 48, 52, 48, 53, 48, 54, 48, 55, 48, 56, 48, 57, 49, 48, 49, 49, 49, 50, 49, 51, 49, 52, 49, 53, 49, 54, 49, 55, 49, 56, 49, 57, 50, 48, 50, 49, 50, 50, 50, 51, 50, 52, 50, 53, 50, 54, 50, 55, 50, 56, 50, 57, 51, 48, 51, 49, 51, 50, 51, 51, 51, 52, 51, 53, 51, 54, 51, 55, 51, 56, 51, 57, 52, 48, 52, 49, 52, 50, 52, 51, 52, 52, 52, 53, 52, 54, 52, 55, 52, 56, 52, 57, 53, 48, 53, 49, 53, 50, 53, 51, 53, 52, 53, 53, 53, 54, 53, 55, 53, 56, 53, 57, 54, 48, 54, 49, 54, 50, 54, 51, 54, 52, 54, 53, 54, 54, 54, 55, 54, 56, 54, 57, 55, 48, 55, 49, 55, 50, 55, 51, 55, 52, 55, 53, 55, 54, 55, 55, 55, 56, 55, 57, 56, 48, 56, 49, 56, 50, 56, 51, 56, 52, 56, 53, 56, 54, 56, 55, 56, 56, 56, 57, 57, 48, 57, 49, 57, 50, 57, 51, 57, 52, 57, 53, 57, 54, 57, 55, 57, 56, 57, 57])) (.t 130)⟩, 8, []⟩, ⟨mvF 132 14, 9, []⟩, ⟨⟨some 133, none, .idx (.c (.str [48, 48, 48, 49, 48, 50, 48, 51, 48, 52, 48, 53, 48, 54, 48, 55, 48, 56, 48, 57, 49, 48, 49, 49, 49, 50, 49, 51, 49, 52, 49, 53, 49, 54, 49, 55, 49, 56, 49, 57, 50, 48, 50, 49, 50, 50, 50, 51, 50, 52, 50, 53, 50, 54, 50, 55, 50, 56, 50, 57, 51, 48, 51, 49, 51, 50, 51, 51, 51, 52, 51, 53, 51, 54, 51, 55, 51, 56, 51, 57, 52, 48, 52, 49, 52, 50, 52, 51, 52, 52, 52, 53, 52, 54, 52, 55, 52, 56, 52, 57, 53, 48, 53, 49, 53, 50, 53, 51, 53, 52, 53, 53, 53, 54, 53, 55, 53, 56, 53, 57, 54, 48, 54, 49, 54, 50, 54, 51, 54, 52, 54, 53, 54, 54, 54, 55, 54, 56, 54, 57, 55, 48, 55, 49, 55, 50, 55, 51, 55, 52, 55, 53, 55, 54, 55, 55, 55, 56, 55, 57, 56, 48, 56, 49, 56, 50, 56, 51, 56, 52, 56, 53, 56, 54, 56, 55, 56, 56, 56, 57, 57, 48, 57, 49, 57, 50, 57, 51, 57, 52, 57, 53, 57, 54, 57, 55, 57, 56, 57, 57])) (.t 132)⟩, 10, []⟩, ⟨⟨some 134, none, .iaddr 1 (.t 123) (.t 125)⟩, 11, []⟩, ⟨⟨none, none, .store 1 (.t 134) (.t 131) false⟩, 12, []⟩, ⟨⟨some 135, none, .iaddr 1 (.t 126) (.t 128)⟩, 13, []⟩, ⟨⟨none, none, .store 1 (.t 135) (.t 133) false⟩, 14, []⟩]) (.ops 19 [mvF 136 4, ⟨some 137, none, .bin .sub .no (.t 136) (.c (.int .i64 4))⟩, mvF 4 137])))))) .skip)) (.seq (.seq (.ops 20 [mvF 138 4, ⟨some 139, none, .bin .geq .no (.t 138) (.c (.int .i64 2))⟩]) (.cond (.t 139) (.seq (.ops 21 [mvF 140 12, ⟨some 141, none, .bin .rem .no (.t 140) (.c (.int .u32 100))⟩, ⟨some 142, none, .bin .mul .no (.t 141) (.c (.int .u32 2))⟩, mvF 16 142]) (.seq (.ops 22 [mvF 143 12, ⟨some 144, none, .bin .quo .no (.t 143) (.c (.int .u32 100))⟩, mvF 12 144]) (.seq (.drw 23 [⟨mvF 145 0, 0, []⟩, ⟨mvF 146 4, 1, []⟩, ⟨⟨some 147, none, .bin .sub .no (.t 146) (.c (.int .i64 1))⟩, 2, []⟩, ⟨mvF 148 0, 3, []⟩, ⟨mvF 149 4, 4, []⟩, ⟨⟨some 150, none, .bin .sub .no (.t 149) (.c (.int .i64 2))⟩, 5, []⟩, ⟨mvF 151 16, 6, []⟩, ⟨⟨some 152, none, .bin .add .no (.t 151) (.c (.int .u32 1))⟩, 7, []⟩, ⟨⟨some 153, none, .idx (.c (.str [48, 48, 48, 49, 48, 50, 48, 51, 48, 52, 48, 53, 48, 54, 48, 55, 48, 56, 48, 57, 49, 48, 49, 49, 49, 50, 49, 51, 49, 52, 49, 53, 49, 54, 49, 55, 49, 56, 49, 57, 50, 48, 50, 49, 50, 50, 50, 51, 50, 52, 50, 53, 50, 54, 50, 55, 50, 56, 50, 57, 51, 48, 51, 49, 51, 50, 51, 51, 51, 52, 51, 53, 51, 54, 51, 55, 51, 56, 51, 57, 52, 48, 52, 49, 52, 50, 52, 51, 52, 52, 52, 53, 52, 54, 52, 55, 52, 56, 52, 57, 53, 48, 53, 49, 53, 50, 53, 51, 53, 52, 53, 53, 53, 54, 53, 55, 53, 56, 53, 57, 54, 48, 54, 49, 54, 50, 54, 51, 54, 52, 54, 53, 54, 54, 54, 55, 54, 56, 54, 57, 55, 48, 55, 49, 55, 50, 55, 51, 55, 52, 55, 53, 55, 54, 55, 55, 55, 56, 55, 57, 56, 48, 56, 49, 56, 50, 56, 51, 56, 52, 56, 53, 56, 54, 56, 55, 56, 56, 56, 57, 57, 48, 57, 49, 57, 50, 57, 51, 57, 52, 57, 53, 57, 54, 57, 55, 57, 56, 57, 57])) (.t 152)⟩, 8, []⟩, ⟨mvF 154 16, 9, []⟩, ⟨⟨some 155, none, .idx (.c (.str [48, 48, 48, 49, 48, 50, 48, 51, 48, 52, 48, 53, 48, 54, 48, 55, 48, 56, 48, 57, 49, 48, 49, 49, 49, 50, 49, 51, 49, 52, 49, 53, 49, 54, 49, 55, 49, 56, 49, 57, 50, 48, 50, 49, 50, 50, 50, 51, 50, 52, 50, 53, 50, 54, 50, 55, 50, 56, 50, 57, 51, 48, 51, 49, 51, 50, 51, 51, 51, 52, 51, 53, 51, 54, 51, 55, 51, 56, 51, 57, 52, 48, 52, 49, 52, 50, 52, 51, 52, 52, 52, 53, 52, 54, 52, 55, 52, 56, 52, 57, 53, 48, 53, 49, 53, 50, 53, 51, 53, 52, 53, 53, 53, 54, 53, 55, 53, 56, 53, 57, 54, 48, 54, 49, 54, 50, 54, 51, 54, 52, 54, 53, 54, 54, 54, 55, 54, 56, 54, 57, 55, 48, 55, 49, 55, 50, 55, 51, 55, 52, 55, 53, 55, 54, 55, 55, 55, 56, 55, 57, 56, 48, 56, 49, 56, 50, 56, 51, 56, 52, 56, 53, 56, 54, 56, 55, 56, 56, 56, 57, 57, 48, 57, 49, 57, 50, 57, 51, 57, 52, 57, 53, 57, 54, 57, 55, 57, 56, 57, 57])) (.t 154)⟩, 10, []⟩, ⟨⟨some 156, none, .iaddr 1 (.t 145) (.t 147)⟩, 11, []⟩, ⟨⟨none, none, .store 1 (.t 156) (.t 153) false⟩, 12, []⟩, ⟨⟨some 157, none, .iaddr 1 (.t 148) (.t 150)⟩, 13, []⟩, ⟨⟨none, none, .store 1 (.t 157) (.t 155) false⟩, 14, []⟩]) (.ops 24 [mvF 158 4, ⟨some 159, none, .bin .sub .no (.t 158) (.c (.int .i64 2))⟩, mvF 4 159])))) .skip)) (.seq (.ops 25 [mvF 160 4, ⟨some 161, none, .bin .gtr .no (.t 160) (.c (.int .i64 0))⟩]) (.cond (.t 161) (.ops 26 [mvT 162 0, mvF 163 12, ⟨some 164, none, .bin .add .no (.c (.int .u32 48)) (.t 163)⟩, ⟨some 165, none, .conv (.toInt .u8) (.t 164)⟩, ⟨some 166, none, .iaddr 1 (.t 162) (.c (.int .i64 0))⟩, ⟨none, none, .store 1 (.t 166) (.t 165) false⟩]) .skip)))))))⟩
theorem ok_c_Zo : chkFn Tryz.prog 109 c_Zo = true := chkFn_of Tryz.func109 (by kernel_rfl)
def j_Zo_1 (M : Mach) (n0 : Nat) (z0 z4 z12 : V) (σ : Objs) : Ro :=
 bd (pu (eB .gtr .no z4.ng.ng (.int .i64 0))) fun x61 =>
  br x61.ng (
 bd (pu (eB .add .no (.int .u32 48) z12.ng.ng)) fun x62 =>
 bd (pu (eC σ (.toInt .u8) x62.ng)) fun x63 =>
 bd (pu (eI 1 (.int .i64 0) z0.ng)) fun x64 =>
 bd (stV σ 1 x64.ng x63.ng x63.ng) fun p65 =>
  nK n0 p65.2 (.tup [])) (
  nK n0 σ (.tup []))
def j_Zo_0 (M : Mach) (n0 : Nat) (z0 z4 z12 : V) (σ : Objs) : Ro :=
 bd (pu (eB .geq .no z4.ng.ng (.int .i64 2))) fun x66 =>
  br x66.ng (
 bd (pu (eB .rem .no z12.ng.ng (.int .u32 100))) fun x67 =>
 bd (pu (eB .mul .no x67.ng (.int .u32 2))) fun x68 =>
 bd (pu (eB .quo .no z12.ng.ng (.int .u32 100))) fun x69 =>
 bd (pu (eB .sub .no z4.ng.ng (.int .i64 1))) fun x70 =>
 bd (pu (eB .sub .no z4.ng.ng (.int .i64 2))) fun x71 =>
 bd (pu (eB .add .no x68.ng.ng.ng (.int .u32 1))) fun x72 =>
 bd (pu (evIdx x72.ng (.str [48, 48, 48, 49, 48, 50, 48, 51, 48, 52, 48, 53, 48, 54, 48, 55, 48, 56, 48, 57, 49, 48, 49, 49, 49, 50, 49, 51, 49, 52, 49, 53, 49, 54, 49, 55, 49, 56, 49, 57, 50, 48, 50, 49, 50, 50, 50, 51, 50, 52, 50, 53, 50, 54, 50, 55, 50, 56, 50, 57, 51, 48, 51, 49, 51, 50, 51, 51, 51, 52, 51, 53, 51, 54, 51, 55, 51, 56, 51, 57, 52, 48, 52, 49, 52, 50, 52, 51, 52, 52, 52, 53, 52, 54, 52, 55, 52, 56, 52, 57, 53, 48, 53, 49, 53, 50, 53, 51, 53, 52, 53, 53, 53, 54, 53, 55, 53, 56, 53, 57, 54, 48, 54, 49, 54, 50, 54, 51, 54, 52, 54, 53, 54, 54, 54, 55, 54, 56, 54, 57, 55, 48, 55, 49, 55, 50, 55, 51, 55, 52, 55, 53, 55, 54, 55, 55, 55, 56, 55, 57, 56, 48, 56, 49, 56, 50, 56, 51, 56, 52, 56, 53, 56, 54, 56, 55, 56, 56, 56, 57, 57, 48, 57, 49, 57, 50, 57, 51, 57, 52, 57, 53, 57, 54, 57, 55, 57, 56, 57, 57]))) fun x73 =>
 bd (pu (evIdx x68.ng.ng.ng (.str [48, 48, 48, 49, 48, 50, 48, 51, 48, 52, 48, 53, 48, 54, 48, 55, 48, 56, 48, 57, 49, 48, 49, 49, 49, 50, 49, 51, 49, 52, 49, 53, 49, 54, 49, 55, 49, 56, 49, 57, 50, 48, 50, 49, 50, 50, 50, 51, 50, 52, 50, 53, 50, 54, 50, 55, 50, 56, 50, 57, 51, 48, 51, 49, 51, 50, 51, 51, 51, 52, 51, 53, 51, 54, 51, 55, 51, 56, 51, 57, 52, 48, 52, 49, 52, 50, 52, 51, 52, 52, 52, 53, 52, 54, 52, 55, 52, 56, 52, 57, 53, 48, 53, 49, 53, 50, 53, 51, 53, 52, 53, 53, 53, 54, 53, 55, 53, 56, 53, 57, 54, 48, 54, 49, 54, 50, 54, 51, 54, 52, 54, 53, 54, 54, 54, 55, 54, 56, 54, 57, 55, 48, 55, 49, 55, 50, 55, 51, 55, 52, 55, 53, 55, 54, 55, 55, 55, 56, 55, 57, 56, 48, 56, 49, 56, 50, 56, 51, 56, 52, 56, 53, 56, 54, 56, 55, 56, 56, 56, 57, 57, 48, 57, 49, 57, 50, 57, 51, 57, 52, 57, 53, 57, 54, 57, 55, 57, 56, 57, 57]))) fun x74 =>
 bd (pu (eI 1 x70.ng z0.ng.ng)) fun x75 =>
 bd (stV σ 1 x75.ng x73.ng x73.ng) fun p76 =>
 bd (pu (eI 1 x71.ng z0.ng.ng)) fun x77 =>
 bd (stV p76.2 1 x77.ng x74.ng x74.ng) fun p78 =>
 bd (pu (eB .sub .no z4.ng.ng (.int .i64 2))) fun x79 =>
  j_Zo_1 M n0 z0 x79.ng x69.ng p78.2) (
  j_Zo_1 M n0 z0 z4 z12 σ)
def b_Zo_0 (M : Mach) (n0 : Nat) (n1 : Nat) (r1 : Rk) (z0 z1 z4 : V) (σ : Objs) : Ro :=
 bd (pu (eB .geq .no z4.ng.ng (.int .i64 8))) fun x1 =>
  br x1.ng (
 bd (pu (eB .rem .no z1.ng.ng (.int .u64 100000000))) fun x2 =>
 bd (pu (eC σ (.toInt .u32) x2.ng)) fun x3 =>
 bd (pu (eB .quo .no z1.ng.ng (.int .u64 100000000))) fun x4 =>
 bd (pu (eB .quo .no x3.ng.ng.ng (.int .u32 10000))) fun x5 =>
 bd (pu (eB .rem .no x3.ng.ng.ng (.int .u32 10000))) fun x6 =>
 bd (pu (eB .quo .no x6.ng.ng.ng (.int .u32 100))) fun x7 =>
 bd (pu (eB .mul .no x7.ng (.int .u32 2))) fun x8 =>
 bd (pu (eB .rem .no x6.ng.ng.ng (.int .u32 100))) fun x9 =>
 bd (pu (eB .mul .no x9.ng (.int .u32 2))) fun x10 =>
 bd (pu (eB .quo .no x5.ng.ng.ng (.int .u32 100))) fun x11 =>
 bd (pu (eB .mul .no x11.ng (.int .u32 2))) fun x12 =>
 bd (pu (eB .rem .no x5.ng.ng.ng (.int .u32 100))) fun x13 =>
 bd (pu (eB .mul .no x13.ng (.int .u32 2))) fun x14 =>
 bd (pu (eB .sub .no z4.ng.ng (.int .i64 1))) fun x15 =>
 bd (pu (eB .sub .no z4.ng.ng (.int .i64 2))) fun x16 =>
 bd (pu (eB .add .no x10.ng.ng.ng (.int .u32 1))) fun x17 =>
 bd (pu (evIdx x17.ng (.str [48, 48, 48, 49, 48, 50, 48, 51, 48, 52, 48, 53, 48, 54, 48, 55, 48, 56, 48, 57, 49, 48, 49, 49, 49, 50, 49, 51, 49, 52, 49, 53, 49, 54, 49, 55, 49, 56, 49, 57, 50, 48, 50, 49, 50, 50, 50, 51, 50, 52, 50, 53, 50, 54, 50, 55, 50, 56, 50, 57, 51, 48, 51, 49, 51, 50, 51, 51, 51, 52, 51, 53, 51, 54, 51, 55, 51, 56, 51, 57, 52, 48, 52, 49, 52, 50, 52, 51, 52, 52, 52, 53, 52, 54, 52, 55, 52, 56, 52, 57, 53, 48, 53, 49, 53, 50, 53, 51, 53, 52, 53, 53, 53, 54, 53, 55, 53, 56, 53, 57, 54, 48, 54, 49, 54, 50, 54, 51, 54, 52, 54, 53, 54, 54, 54, 55, 54, 56, 54, 57, 55, 48, 55, 49, 55, 50, 55, 51, 55, 52, 55, 53, 55, 54, 55, 55, 55, 56, 55, 57, 56, 48, 56, 49, 56, 50, 56, 51, 56, 52, 56, 53, 56, 54, 56, 55, 56, 56, 56, 57, 57, 48, 57, 49, 57, 50, 57, 51, 57, 52, 57, 53, 57, 54, 57, 55, 57, 56, 57, 57]))) fun x18 =>
 bd (pu (evIdx x10.ng.ng.ng (.str [48, 48, 48, 49, 48, 50, 48, 51, 48, 52, 48, 53, 48, 54, 48, 55, 48, 56, 48, 57, 49, 48, 49, 49, 49, 50, 49, 51, 49, 52, 49, 53, 49, 54, 49, 55, 49, 56, 49, 57, 50, 48, 50, 49, 50, 50, 50, 51, 50, 52, 50, 53, 50, 54, 50, 55, 50, 56, 50, 57, 51, 48, 51, 49, 51, 50, 51, 51, 51, 52, 51, 53, 51, 54, 51, 55, 51, 56, 51, 57, 52, 48, 52, 49, 52, 50, 52, 51, 52, 52, 52, 53, 52, 54, 52, 55, 52, 56, 52, 57, 53, 48, 53, 49, 53, 50, 53, 51, 53, 52, 53, 53, 53, 54, 53, 55, 53, 56, 53, 57, 54, 48, 54, 49, 54, 50, 54, 51, 54, 52, 54, 53, 54, 54, 54, 55, 54, 56, 54, 57, 55, 48, 55, 49, 55, 50, 55, 51, 55, 52, 55, 53, 55, 54, 55, 55, 55, 56, 55, 57, 56, 48, 56, 49, 56, 50, 56, 51, 56, 52, 56, 53, 56, 54, 56, 55, 56, 56, 56, 57, 57, 48, 57, 49, 57, 50, 57, 51, 57, 52, 57, 53, 57, 54, 57, 55, 57, 56, 57, 57]))) fun x19 =>
 bd (pu (eI 1 x15.ng z0.ng.ng)) fun x20 =>
 bd (stV σ 1 x20.ng x18.ng x18.ng) fun p21 =>
 bd (pu (eI 1 x16.ng z0.ng.ng)) fun x22 =>
 bd (stV p21.2 1 x22.ng x19.ng x19.ng) fun p23 =>
 bd (pu (eB .sub .no z4.ng.ng (.int .i64 3))) fun x24 =>
 bd (pu (eB .sub .no z4.ng.ng (.int .i64 4))) fun x25 =>
 bd (pu (eB .add .no x8.ng.ng.ng (.int .u32 1))) fun x26 =>
 bd (pu (evIdx x26.ng (.str [48, 48, 48, 49, 48, 50, 48, 51, 48, 52, 48, 53, 48, 54, 48, 55, 48, 56, 48, 57, 49, 48, 49, 49, 49, 50, 49, 51, 49, 52, 49, 53, 49, 54, 49, 55, 49, 56, 49, 57, 50, 48, 50, 49, 50, 50, 50, 51, 50, 52, 50, 53, 50, 54, 50, 55, 50, 56, 50, 57, 51, 48, 51, 49, 51, 50, 51, 51, 51, 52, 51, 53, 51, 54, 51, 55, 51, 56, 51, 57, 52, 48, 52, 49, 52, 50, 52, 51, 52, 52, 52, 53, 52, 54, 52, 55, 52, 56, 52, 57, 53, 48, 53, 49, 53, 50, 53, 51, 53, 52, 53, 53, 53, 54, 53, 55, 53, 56, 53, 57, 54, 48, 54, 49, 54, 50, 54, 51, 54, 52, 54, 53, 54, 54, 54, 55, 54, 56, 54, 57, 55, 48, 55, 49, 55, 50, 55, 51, 55, 52, 55, 53, 55, 54, 55, 55, 55, 56, 55, 57, 56, 48, 56, 49, 56, 50, 56, 51, 56, 52, 56, 53, 56, 54, 56, 55, 56, 56, 56, 57, 57, 48, 57, 49, 57, 50, 57, 51, 57, 52, 57, 53, 57, 54, 57, 55, 57, 56, 57, 57]))) fun x27 =>
 bd (pu (evIdx x8.ng.ng.ng (.str [48, 48, 48, 49, 48, 50, 48, 51, 48, 52, 48, 53, 48, 54, 48, 55, 48, 56, 48, 57, 49, 48, 49, 49, 49, 50, 49, 51, 49, 52, 49, 53, 49, 54, 49, 55, 49, 56, 49, 57, 50, 48, 50, 49, 50, 50, 50, 51, 50, 52, 50, 53, 50, 54, 50, 55, 50, 56, 50, 57, 51, 48, 51, 49, 51, 50, 51, 51, 51, 52, 51, 53, 51, 54, 51, 55, 51, 56, 51, 57, 52, 48, 52, 49, 52, 50, 52, 51, 52, 52, 52, 53, 52, 54, 52, 55, 52, 56, 52, 57, 53, 48, 53, 49, 53, 50, 53, 51, 53, 52, 53, 53, 53, 54, 53, 55, 53, 56, 53, 57, 54, 48, 54, 49, 54, 50, 54, 51, 54, 52, 54, 53, 54, 54, 54, 55, 54, 56, 54, 57, 55, 48, 55, 49, 55, 50, 55, 51, 55, 52, 55, 53, 55, 54, 55, 55, 55, 56, 55, 57, 56, 48, 56, 49, 56, 50, 56, 51, 56, 52, 56, 53, 56, 54, 56, 55, 56, 56, 56, 57, 57, 48, 57, 49, 57, 50, 57, 51, 57, 52, 57, 53, 57, 54, 57, 55, 57, 56, 57, 57]))) fun x28 =>
 bd (pu (eI 1 x24.ng z0.ng.ng)) fun x29 =>
 bd (stV p23.2 1 x29.ng x27.ng x27.ng) fun p30 =>
 bd (pu (eI 1 x25.ng z0.ng.ng)) fun x31 =>
 bd (stV p30.2 1 x31.ng x28.ng x28.ng) fun p32 =>
 bd (pu (eB .sub .no z4.ng.ng (.int .i64 5))) fun x33 =>
 bd (pu (eB .sub .no z4.ng.ng (.int .i64 6))) fun x34 =>
 bd (pu (eB .add .no x14.ng.ng.ng (.int .u32 1))) fun x35 =>
 bd (pu (evIdx x35.ng (.str [48, 48, 48, 49, 48, 50, 48, 51, 48, 52, 48, 53, 48, 54, 48, 55, 48, 56, 48, 57, 49, 48, 49, 49, 49, 50, 49, 51, 49, 52, 49, 53, 49, 54, 49, 55, 49, 56, 49, 57, 50, 48, 50, 49, 50, 50, 50, 51, 50, 52, 50, 53, 50, 54, 50, 55, 50, 56, 50, 57, 51, 48, 51, 49, 51, 50, 51, 51, 51, 52, 51, 53, 51, 54, 51, 55, 51, 56, 51, 57, 52, 48, 52, 49, 52, 50, 52, 51, 52, 52, 52, 53, 52, 54, 52, 55, 52, 56, 52, 57, 53, 48, 53, 49, 53, 50, 53, 51, 53, 52, 53, 53, 53, 54, 53, 55, 53, 56, 53, 57, 54, 48, 54, 49, 54, 50, 54, 51, 54, 52, 54, 53, 54, 54, 54, 55, 54, 56, 54, 57, 55, 48, 55, 49, 55, 50, 55, 51, 55, 52, 55, 53, 55, 54, 55, 55, 55, 56, 55, 57, 56, 48, 56, 49, 56, 50, 56, 51, 56, 52, 56, 53, 56, 54, 56, 55, 56, 56, 56, 57, 57, 48, 57, 49, 57, 50, 57, 51, 57, 52, 57, 53, 57, 54, 57, 55, 57, 56, 57, 57]))) fun x36 =>
 bd (pu (evIdx x14.ng.ng.ng (.str [48, 48, 48, 49, 48, 50, 48, 51, 48, 52, 48, 53, 48, 54, 48, 55, 48, 56, 48, 57, 49, 48, 49, 49, 49, 50, 49, 51, 49, 52, 49, 53, 49, 54, 49, 55, 49, 56, 49, 57, 50, 48, 50, 49, 50, 50, 50, 51, 50, 52, 50, 53, 50, 54, 50, 55, 50, 56, 50, 57, 51, 48, 51, 49, 51, 50, 51, 51, 51, 52, 51, 53, 51, 54, 51, 55, 51, 56, 51, 57, 52, 48, 52, 49, 52, 50, 52, 51, 52, 52, 52, 53, 52, 54, 52, 55, 52, 56, 52, 57, 53, 48, 53, 49, 53, 50, 53, 51, 53, 52, 53, 53, 53, 54, 53, 55, 53, 56, 53, 57, 54, 48, 54, 49, 54, 50, 54, 51, 54, 52, 54, 53, 54, 54, 54, 55, 54, 56, 54, 57, 55, 48, 55, 49, 55, 50, 55, 51, 55, 52, 55, 53, 55, 54, 55, 55, 55, 56, 55, 57, 56, 48, 56, 49, 56, 50, 56, 51, 56, 52, 56, 53, 56, 54, 56, 55, 56, 56, 56, 57, 57, 48, 57, 49, 57, 50, 57, 51, 57, 52, 57, 53, 57, 54, 57, 55, 57, 56, 57, 57]))) fun x37 =>
 bd (pu (eI 1 x33.ng z0.ng.ng)) fun x38 =>
 bd (stV p32.2 1 x38.ng x36.ng x36.ng) fun p39 =>
 bd (pu (eI 1 x34.ng z0.ng.ng)) fun x40 =>
 bd (stV p39.2 1 x40.ng x37.ng x37.ng) fun p41 =>
 bd (pu (eB .sub .no z4.ng.ng (.int .i64 7))) fun x42 =>
 bd (pu (eB .sub .no z4.ng.ng (.int .i64 8))) fun x43 =>
 bd (pu (eB .add .no x12.ng.ng.ng (.int .u32 1))) fun x44 =>
 bd (pu (evIdx x44.ng (.str [48, 48, 48, 49, 48, 50, 48, 51, 48, 52, 48, 53, 48, 54, 48, 55, 48, 56, 48, 57, 49, 48, 49, 49, 49, 50, 49, 51, 49, 52, 49, 53, 49, 54, 49, 55, 49, 56, 49, 57, 50, 48, 50, 49, 50, 50, 50, 51, 50, 52, 50, 53, 50, 54, 50, 55, 50, 56, 50, 57, 51, 48, 51, 49, 51, 50, 51, 51, 51, 52, 51, 53, 51, 54, 51, 55, 51, 56, 51, 57, 52, 48, 52, 49, 52, 50, 52, 51, 52, 52, 52, 53, 52, 54, 52, 55, 52, 56, 52, 57, 53, 48, 53, 49, 53, 50, 53, 51, 53, 52, 53, 53, 53, 54, 53, 55, 53, 56, 53, 57, 54, 48, 54, 49, 54, 50, 54, 51, 54, 52, 54, 53, 54, 54, 54, 55, 54, 56, 54, 57, 55, 48, 55, 49, 55, 50, 55, 51, 55, 52, 55, 53, 55, 54, 55, 55, 55, 56, 55, 57, 56, 48, 56, 49, 56, 50, 56, 51, 56, 52, 56, 53, 56, 54, 56, 55, 56, 56, 56, 57, 57, 48, 57, 49, 57, 50, 57, 51, 57, 52, 57, 53, 57, 54, 57, 55, 57, 56, 57, 57]))) fun x45 =>
 bd (pu (evIdx x12.ng.ng.ng (.str [48, 48, 48, 49, 48, 50, 48, 51, 48, 52, 48, 53, 48, 54, 48, 55, 48, 56, 48, 57, 49, 48, 49, 49, 49, 50, 49, 51, 49, 52, 49, 53, 49, 54, 49, 55, 49, 56, 49, 57, 50, 48, 50, 49, 50, 50, 50, 51, 50, 52, 50, 53, 50, 54, 50, 55, 50, 56, 50, 57, 51, 48, 51, 49, 51, 50, 51, 51, 51, 52, 51, 53, 51, 54, 51, 55, 51, 56, 51, 57, 52, 48, 52, 49, 52, 50, 52, 51, 52, 52, 52, 53, 52, 54, 52, 55, 52, 56, 52, 57, 53, 48, 53, 49, 53, 50, 53, 51, 53, 52, 53, 53, 53, 54, 53, 55, 53, 56, 53, 57, 54, 48, 54, 49, 54, 50, 54, 51, 54, 52, 54, 53, 54, 54, 54, 55, 54, 56, 54, 57, 55, 48, 55, 49, 55, 50, 55, 51, 55, 52, 55, 53, 55, 54, 55, 55, 55, 56, 55, 57, 56, 48, 56, 49, 56, 50, 56, 51, 56, 52, 56, 53, 56, 54, 56, 55, 56, 56, 56, 57, 57, 48, 57, 49, 57, 50, 57, 51, 57, 52, 57, 53, 57, 54, 57, 55, 57, 56, 57, 57]))) fun x46 =>
 bd (pu (eI 1 x42.ng z0.ng.ng)) fun x47 =>
 bd (stV p41.2 1 x47.ng x45.ng x45.ng) fun p48 =>
 bd (pu (eI 1 x43.ng z0.ng.ng)) fun x49 =>
 bd (stV p48.2 1 x49.ng x46.ng x46.ng) fun p50 =>
 bd (pu (eB .sub .no z4.ng.ng (.int .i64 8))) fun x51 =>
 bd (fz n1 p50.2 fzD z0) fun y52 =>
 bd (fz n1 p50.2 fzD x4.ng) fun y53 =>
 bd (fz n1 p50.2 fzD x51.ng) fun y54 =>
 bd (cuO n1 p50.2) fun s55 => r1 [y52, y53, y54] s55) (
 bd (fz n1 σ fzD z0) fun y56 =>
 bd (fz n1 σ fzD z1) fun y57 =>
 bd (fz n1 σ fzD z4) fun y58 =>
 bd (cuO n1 σ) fun s59 =>
 bd (pu (eC s59 (.toInt .u32) y57.ng.ng)) fun x60 =>
 bd (pu (eB .geq .no y58.ng.ng (.int .i64 4))) fun x80 =>
  br x80.ng (
 bd (pu (eB .rem .no x60.ng.ng.ng (.int .u32 10000))) fun x81 =>
 bd (pu (eB .quo .no x60.ng.ng.ng (.int .u32 10000))) fun x82 =>
 bd (pu (eB .quo .no x81.ng.ng.ng (.int .u32 100))) fun x83 =>
 bd (pu (eB .mul .no x83.ng (.int .u32 2))) fun x84 =>
 bd (pu (eB .rem .no x81.ng.ng.ng (.int .u32 100))) fun x85 =>
 bd (pu (eB .mul .no x85.ng (.int .u32 2))) fun x86 =>
 bd (pu (eB .sub .no y58.ng.ng (.int .i64 1))) fun x87 =>
 bd (pu (eB .sub .no y58.ng.ng (.int .i64 2))) fun x88 =>
 bd (pu (eB .add .no x86.ng.ng.ng (.int .u32 1))) fun x89 =>
 bd (pu (evIdx x89.ng (.str [48, 48, 48, 49, 48, 50, 48, 51, 48, 52, 48, 53, 48, 54, 48, 55, 48, 56, 48, 57, 49, 48, 49, 49, 49, 50, 49, 51, 49, 52, 49, 53, 49, 54, 49, 55, 49, 56, 49, 57, 50, 48, 50, 49, 50, 50, 50, 51, 50, 52, 50, 53, 50, 54, 50, 55, 50, 56, 50, 57, 51, 48, 51, 49, 51, 50, 51, 51, 51, 52, 51, 53, 51, 54, 51, 55, 51, 56, 51, 57, 52, 48, 52, 49, 52, 50, 52, 51, 52, 52, 52, 53, 52, 54, 52, 55, 52, 56, 52, 57, 53, 48, 53, 49, 53, 50, 53, 51, 53, 52, 53, 53, 53, 54, 53, 55, 53, 56, 53, 57, 54, 48, 54, 49, 54, 50, 54, 51, 54, 52, 54, 53, 54, 54, 54, 55, 54, 56, 54, 57, 55, 48, 55, 49, 55, 50, 55, 51, 55, 52, 55, 53, 55, 54, 55, 55, 55, 56, 55, 57, 56, 48, 56, 49, 56, 50, 56, 51, 56, 52, 56, 53, 56, 54, 56, 55, 56, 56, 56, 57, 57, 48, 57, 49, 57, 50, 57, 51, 57, 52, 57, 53, 57, 54, 57, 55, 57, 56, 57, 57]))) fun x90 =>
 bd (pu (evIdx x86.ng.ng.ng (.str [48, 48, 48, 49, 48, 50, 48, 51, 48, 52, 48, 53, 48, 54, 48, 55, 48, 56, 48, 57, 49, 48, 49, 49, 49, 50, 49, 51, 49, 52, 49, 53, 49, 54, 49, 55, 49, 56, 49, 57, 50, 48, 50, 49, 50, 50, 50, 51, 50, 52, 50, 53, 50, 54, 50, 55, 50, 56, 50, 57, 51, 48, 51, 49, 51, 50, 51, 51, 51, 52, 51, 53, 51, 54, 51, 55, 51, 56, 51, 57, 52, 48, 52, 49, 52, 50, 52, 51, 52, 52, 52, 53, 52, 54, 52, 55, 52, 56, 52, 57, 53, 48, 53, 49, 53, 50, 53, 51, 53, 52, 53, 53, 53, 54, 53, 55, 53, 56, 53, 57, 54, 48, 54, 49, 54, 50, 54, 51, 54, 52, 54, 53, 54, 54, 54, 55, 54, 56, 54, 57, 55, 48, 55, 49, 55, 50, 55, 51, 55, 52, 55, 53, 55, 54, 55, 55, 55, 56, 55, 57, 56, 48, 56, 49, 56, 50, 56, 51, 56, 52, 56, 53, 56, 54, 56, 55, 56, 56, 56, 57, 57, 48, 57, 49, 57, 50, 57, 51, 57, 52, 57, 53, 57, 54, 57, 55, 57, 56, 57, 57]))) fun x91 =>
 bd (pu (eI 1 x87.ng y56.ng.ng)) fun x92 =>
 bd (stV s59 1 x92.ng x90.ng x90.ng) fun p93 =>
 bd (pu (eI 1 x88.ng y56.ng.ng)) fun x94 =>
 bd (stV p93.2 1 x94.ng x91.ng x91.ng) fun p95 =>
 bd (pu (eB .sub .no y58.ng.ng (.int .i64 3))) fun x96 =>
 bd (pu (eB .sub .no y58.ng.ng (.int .i64 4))) fun x97 =>
 bd (pu (eB .add .no x84.ng.ng.ng (.int .u32 1))) fun x98 =>
 bd (pu (evIdx x98.ng (.str [48, 48, 48, 49, 48, 50, 48, 51, 48, 52, 48, 53, 48, 54, 48, 55, 48, 56, 48, 57, 49, 48, 49, 49, 49, 50, 49, 51, 49, 52, 49, 53, 49, 54, 49, 55, 49, 56, 49, 57, 50, 48, 50, 49, 50, 50, 50, 51, 50, 52, 50, 53, 50, 54, 50, 55, 50, 56, 50, 57, 51, 48, 51, 49, 51, 50, 51, 51, 51, 52, 51, 53, 51, 54, 51, 55, 51, 56, 51, 57, 52, 48, 52, 49, 52, 50, 52, 51, 52, 52, 52, 53, 52, 54, 52, 55, 52, 56, 52, 57, 53, 48, 53, 49, 53, 50, 53, 51, 53, 52, 53, 53, 53, 54, 53, 55, 53, 56, 53, 57, 54, 48, 54, 49, 54, 50, 54, 51, 54, 52, 54, 53, 54, 54, 54, 55, 54, 56, 54, 57, 55, 48, 55, 49, 55, 50, 55, 51, 55, 52, 55, 53, 55, 54, 55, 55, 55, 56, 55, 57, 56, 48, 56, 49, 56, 50, 56, 51, 56, 52, 56, 53, 56, 54, 56, 55, 56, 56, 56, 57, 57, 48, 57, 49, 57, 50, 57, 51, 57, 52, 57, 53, 57, 54, 57, 55, 57, 56, 57, 57]))) fun x99 =>
 bd (pu (evIdx x84.ng.ng.ng (.str [48, 48, 48, 49, 48, 50, 48, 51, 48, 52, 48, 53, 48, 54, 48, 55, 48, 56, 48, 57, 49, 48, 49, 49, 49, 50, 49, 51, 49, 52, 49, 53, 49, 54, 49, 55, 49, 56, 49, 57, 50, 48, 50, 49, 50, 50, 50, 51, 50, 52, 50, 53, 50, 54, 50, 55, 50, 56, 50, 57, 51, 48, 51, 49, 51, 50, 51, 51, 51, 52, 51, 53, 51, 54, 51, 55, 51, 56, 51, 57, 52, 48, 52, 49, 52, 50, 52, 51, 52, 52, 52, 53, 52, 54, 52, 55, 52, 56, 52, 57, 53, 48, 53, 49, 53, 50, 53, 51, 53, 52, 53, 53, 53, 54, 53, 55, 53, 56, 53, 57, 54, 48, 54, 49, 54, 50, 54, 51, 54, 52, 54, 53, 54, 54, 54, 55, 54, 56, 54, 57, 55, 48, 55, 49, 55, 50, 55, 51, 55, 52, 55, 53, 55, 54, 55, 55, 55, 56, 55, 57, 56, 48, 56, 49, 56, 50, 56, 51, 56, 52, 56, 53, 56, 54, 56, 55, 56, 56, 56, 57, 57, 48, 57, 49, 57, 50, 57, 51, 57, 52, 57, 53, 57, 54, 57, 55, 57, 56, 57, 57]))) fun x100 =>
 bd (pu (eI 1 x96.ng y56.ng.ng)) fun x101 =>
 bd (stV p95.2 1 x101.ng x99.ng x99.ng) fun p102 =>
 bd (pu (eI 1 x97.ng y56.ng.ng)) fun x103 =>
 bd (stV p102.2 1 x103.ng x100.ng x100.ng) fun p104 =>
 bd (pu (eB .sub .no y58.ng.ng (.int .i64 4))) fun x105 =>
  j_Zo_0 M n0 y56 x105.ng x82.ng p104.2) (
  j_Zo_0 M n0 y56 y58 x60.ng s59))
def l_Zo_0 (M : Mach) (n0 : Nat) (n1 : Nat) : Rk := M.fx fun rec vs σ => b_Zo_0 M n0 n1 rec (vs.getD 0 .undef) (vs.getD 1 .undef) (vs.getD 2 .undef) σ
def s_Zo (M : Mach) (a0 a1 : V) (σ : Objs) : Ro :=
 bd (pu (evLen a0.ng.ng)) fun x0 =>
 bd (fz σ.length σ fzD a0) fun y106 =>
 bd (fz σ.length σ fzD a1) fun y107 =>
 bd (fz σ.length σ fzD x0.ng) fun y108 =>
  l_Zo_0 M σ.length σ.length [y106, y107, y108] σ
theorem k_Zo (M : Mach) (a0 a1 : V) (σ : Objs) : fnK M c_Zo [a0, a1] σ = s_Zo M a0 a1 σ := by kernel_rfl
def c_Z1k : Ev.Fn := ⟨17, [.tmp 2], false, false, (.seq (.ops 0 [⟨some 2, none, .mv (.c (.int .i64 0)) false⟩]) (.seq (.ops 1 [⟨some 3, none, .mv (.c (.str [48, 49, 50, 51, 52, 53, 54, 55, 56, 57, 97, 98, 99, 100, 101, 102])) false⟩]) (.seq (.seq (.ops 2 [⟨some 4, none, .mv (.c (.int .i64 0)) false⟩]) (.block 0 (.loop [0, 3, 4] [2] (.seq (.seq (.ops 3 [mvF 5 4, ⟨some 6, none, .bin .lss .no (.t 5) (.c (.int .i64 16))⟩]) (.cond (.t 6) .skip (.exit 0))) (.seq (.block 1 (.seq (.drw 5 [⟨mvF 9 3, 0, []⟩, ⟨mvF 10 4, 1, []⟩, ⟨⟨some 11, none, .idx (.t 9) (.t 10)⟩, 2, []⟩, ⟨⟨some 12, none, .conv (.toInt .i64) (.t 11)⟩, 3, []⟩, ⟨mvF 13 0, 4, []⟩, ⟨⟨some 14, none, .call 92 [.t 13]⟩, 5, []⟩, ⟨⟨some 15, none, .bin .eql .no (.t 12) (.t 14)⟩, 6, []⟩]) (.cond (.t 15) (.seq (.ops 6 [mvF 16 4, mvF 2 16]) .ret) .skip))) (.ops 4 [mvF 7 4, ⟨some 8, none, .bin .add .no (.t 7) (.c (.int .i64 1))⟩, mvF 4 8])))))) (.seq (.ops 7 [⟨some 2, none, .mv (.c (.int .i64 (-1))) false⟩]) .ret))))⟩
theorem ok_c_Z1k : chkFn Tryz.prog 111 c_Z1k = true := chkFn_of Tryz.func111 (by kernel_rfl)
def b_Z1k_0 (M : Mach) (n0 : Nat) (n1 : Nat) (r1 : Rk) (z0 z3 z4 : V) (σ : Objs) : Ro :=
 bd (pu (eB .lss .no z4.ng.ng (.int .i64 16))) fun x0 =>
  br x0.ng (
 bd (pu (evIdx z4.ng.ng z3.ng.ng)) fun x1 =>
 bd (pu (eC σ (.toInt .i64) x1.ng)) fun x2 =>
 bd (M.call 92 [z0.ng.ng] σ) fun p3 =>
 bd (pu (eB .eql .no x2.ng p3.1.ng)) fun x4 =>
  br x4.ng (
 bd (fz n1 p3.2 fzD z4.ng.ng) fun y5 =>
 bd (cuO n1 p3.2) fun s6 =>
 bd (oK false y5) (nK n0 s6)) (
 bd (pu (eB .add .no z4.ng.ng (.int .i64 1))) fun x7 =>
 bd (fz n1 p3.2 fzD z0) fun y8 =>
 bd (fz n1 p3.2 fzD z3) fun y9 =>
 bd (fz n1 p3.2 fzD x7.ng) fun y10 =>
 bd (cuO n1 p3.2) fun s11 => r1 [y8, y9, y10] s11)) (
 bd (fz n1 σ fzD .any) fun y12 =>
 bd (cuO n1 σ) fun s13 =>
 bd (oK false (.int .i64 (-1))) (nK n0 s13))
def l_Z1k_0 (M : Mach) (n0 : Nat) (n1 : Nat) : Rk := M.fx fun rec vs σ => b_Z1k_0 M n0 n1 rec (vs.getD 0 .undef) (vs.getD 1 .undef) (vs.getD 2 .undef) σ
def s_Z1k (M : Mach) (a0 : V) (σ : Objs) : Ro :=
 bd (fz σ.length σ fzD a0) fun y14 =>
 bd (fz σ.length σ fzD (.str [48, 49, 50, 51, 52, 53, 54, 55, 56, 57, 97, 98, 99, 100, 101, 102])) fun y15 =>
 bd (fz σ.length σ fzD (.int .i64 0)) fun y16 =>
  l_Z1k_0 M σ.length σ.length [y14, y15, y16] σ
theorem k_Z1k (M : Mach) (a0 : V) (σ : Objs) : fnK M c_Z1k [a0] σ = s_Z1k M a0 σ := by kernel_rfl
def c_Z1p : Ev.Fn := ⟨20, [.tmp 2], false, false, (.seq (.ops 0 [⟨some 2, none, .mv (.c (.bool false)) false⟩]) (.seq (.ops 1 [mvF 4 0, ⟨some 5, none, .call 92 [.t 4]⟩, mvF 3 5]) (.seq (.ops 2 [mvF 6 3, ⟨some 7, none, .bin .geq .no (.t 6) (.c (.int .i64 97))⟩, mvF 8 7, ⟨some 9, (some (8, true)), .mv (.t 3) false⟩, ⟨some 10, (some (8, true)), .bin .leq .no (.t 9) (.c (.int .i64 122))⟩, ⟨some 11, none, .pick (.t 8) (.t 10) (.c (.bool false))⟩, mvF 12 11, ⟨some 13, (some (12, false)), .mv (.t 0) false⟩, ⟨some 14, (some (12, false)), .bin .eql .no (.t 13) (.c (.int .i64 95))⟩, ⟨some 15, none, .pick (.t 12) (.c (.bool true)) (.t 14)⟩, mvF 16 15, ⟨some 17, (some (16, false)), .mv (.t 0) false⟩, ⟨some 18, (some (16, false)), .bin .geq .no (.t 17) (.c (.int .i64 128))⟩, ⟨some 19, none, .pick (.t 16) (.c (.bool true)) (.t 18)⟩, mvF 2 19]) .ret)))⟩
theorem ok_c_Z1p : chkFn Tryz.prog 112 c_Z1p = true := chkFn_of Tryz.func112 (by kernel_rfl)
def s_Z1p (M : Mach) (a0 : V) (σ : Objs) : Ro :=
 bd (M.call 92 [a0.ng.ng] σ) fun p0 =>
 bd (pu (eB .geq .no p0.1.ng.ng.ng (.int .i64 97))) fun x1 =>
 bd (gdv x1.ng true (some p0.1.ng.ng)) fun x2 =>
 bd (gdv x1.ng true (pu (eB .leq .no x2.ng (.int .i64 122)))) fun x3 =>
 bd (pu (pV x1.ng.ng x3.ng (.bool false))) fun x4 =>
 bd (gdv x4.ng false (some a0.ng)) fun x5 =>
 bd (gdv x4.ng false (pu (eB .eql .no x5.ng (.int .i64 95)))) fun x6 =>
 bd (pu (pV x4.ng.ng (.bool true) x6.ng)) fun x7 =>
 bd (gdv x7.ng false (some a0.ng)) fun x8 =>
 bd (gdv x7.ng false (pu (eB .geq .no x8.ng (.int .i64 128)))) fun x9 =>
 bd (pu (pV x7.ng.ng (.bool true) x9.ng)) fun x10 =>
 bd (oK false x10.ng) (nK σ.length p0.2)
theorem k_Z1p (M : Mach) (a0 : V) (σ : Objs) : fnK M c_Z1p [a0] σ = s_Z1p M a0 σ := by kernel_rfl
def c_Z20 : Ev.Fn := ⟨21, [.tmp 2], false, false, (.seq (.ops 0 [⟨some 2, none, .mv (.c (.bool false)) false⟩]) (.seq (.ops 1 [mvF 3 0, ⟨some 4, none, .bin .leq .no (.t 3) (.c (.int .i64 8))⟩, mvF 5 4, ⟨some 6, (some (5, false)), .mv (.t 0) false⟩, ⟨some 7, (some (5, false)), .bin .eql .no (.t 6) (.c (.int .i64 11))⟩, ⟨some 8, none, .pick (.t 5) (.c (.bool true)) (.t 7)⟩, mvF 9 8, ⟨some 10, (some (9, false)), .mv (.t 0) false⟩, ⟨some 11, (some (9, false)), .bin .geq .no (.t 10) (.c (.int .i64 14))⟩, ⟨some 12, (some (9, false)), .mv (.t 11) false⟩, ⟨some 13, (some (12, true)), .mv (.t 0) false⟩, ⟨some 14, (some (12, true)), .bin .leq .no (.t 13) (.c (.int .i64 31))⟩, ⟨some 15, (some (9, false)), .pick (.t 12) (.t 14) (.c (.bool false))⟩, ⟨some 16, none, .pick (.t 9) (.c (.bool true)) (.t 15)⟩, mvF 17 16, ⟨some 18, (some (17, false)), .mv (.t 0) false⟩, ⟨some 19, (some (17, false)), .bin .eql .no (.t 18) (.c (.int .i64 127))⟩, ⟨some 20, none, .pick (.t 17) (.c (.bool true)) (.t 19)⟩, mvF 2 20]) .ret))⟩
theorem ok_c_Z20 : chkFn Tryz.prog 113 c_Z20 = true := chkFn_of Tryz.func113 (by kernel_rfl)
def s_Z20 (M : Mach) (a0 : V) (σ : Objs) : Ro :=
 bd (pu (eB .leq .no a0.ng.ng (.int .i64 8))) fun x0 =>
 bd (gdv x0.ng false (some a0.ng)) fun x1 =>
 bd (gdv x0.ng false (pu (eB .eql .no x1.ng (.int .i64 11)))) fun x2 =>
 bd (pu (pV x0.ng.ng (.bool true) x2.ng)) fun x3 =>
 bd (gdv x3.ng false (some a0.ng)) fun x4 =>
 bd (gdv x3.ng false (pu (eB .geq .no x4.ng (.int .i64 14)))) fun x5 =>
 bd (gdv x3.ng false (some x5.ng)) fun x6 =>
 bd (gdv x6 true (some a0.ng)) fun x7 =>
 bd (gdv x6 true (pu (eB .leq .no x7.ng (.int .i64 31)))) fun x8 =>
 bd (gdv x3.ng false (pu (pV x6.ng x8.ng (.bool false)))) fun x9 =>
 bd (pu (pV x3.ng.ng (.bool true) x9.ng)) fun x10 =>
 bd (gdv x10.ng false (some a0.ng)) fun x11 =>
 bd (gdv x10.ng false (pu (eB .eql .no x11.ng (.int .i64 127)))) fun x12 =>
 bd (pu (pV x10.ng.ng (.bool true) x12.ng)) fun x13 =>
 bd (oK false x13.ng) (nK σ.length σ)
theorem k_Z20 (M : Mach) (a0 : V) (σ : Objs) : fnK M c_Z20 [a0] σ = s_Z20 M a0 σ := by kernel_rfl
def c_Z27 : Ev.Fn := ⟨44, [.cell 6 true 6], false, false, (.seq (.ops 0 [⟨some 6, none, .alloc [(.int .i64 0), (.int .i64 0), (.int .i64 0), (.str []), (.str []), (.bool false)]⟩]) (.seq (.block 0 (.loop [0, 1, 2, 6] [0, 1, 2, 6] (.seq (.seq (.ops 1 [mvF 7 2, mvF 8 0, ⟨some 9, none, .len (.t 8)⟩, ⟨some 10, none, .bin .lss .no (.t 7) (.t 9)⟩, mvF 11 10, ⟨some 12, (some (11, true)), .mv (.t 0) false⟩, ⟨some 13, (some (11, true)), .mv (.t 2) false⟩, ⟨some 14, (some (11, true)), .iaddr 1 (.t 12) (.t 13)⟩, ⟨some 15, (some (11, true)), .load false 1 (.t 14)⟩, ⟨some 16, (some (11, true)), .bin .neq .no (.t 15) (.c (.int .i64 41))⟩, ⟨some 17, none, .pick (.t 11) (.t 16) (.c (.bool false))⟩]) (.cond (.t 17) .skip (.exit 0))) (.block 1 (.seq (.ops 2 [mvF 18 0, mvF 19 2, ⟨some 20, none, .call 84 [(.t 18), (.t 19)]⟩]) (.cond (.t 20) (.ops 3 [mvF 22 0, mvF 23 2, ⟨some 24, none, .call 96 [(.t 22), (.t 23)]⟩, mvF 21 24, ⟨some 25, none, .extr (.t 21) 0⟩, ⟨some 26, none, .extr (.t 21) 1⟩, mvF 2 26]) (.ops 4 [mvF 27 2, ⟨some 28, none, .bin .add .no (.t 27) (.c (.int .i64 1))⟩, mvF 2 28]))))))) (.seq (.seq (.ops 5 [mvF 29 2, mvF 30 0, ⟨some 31, none, .len (.t 30)⟩, ⟨some 32, none, .bin .lss .no (.t 29) (.t 31)⟩]) (.cond (.t 32) (.ops 6 [mvF 33 2, ⟨some 34, none, .bin .add .no (.t 33) (.c (.int .i64 1))⟩, mvF 2 34]) .skip)) (.seq (.seq (.ops 7 [mvF 35 2, mvF 36 0, ⟨some 37, none, .len (.t 36)⟩, ⟨some 38, none, .bin .gtr .no (.t 35) (.t 37)⟩]) (.cond (.t 38) (.ops 8 [mvT 39 0, ⟨some 40, none, .len (.t 39)⟩, mvF 2 40]) .skip)) (.seq (.ops 9 [mvF 41 1, mvF 42 2, ⟨some 43, none, .build [(.int .i64 0), (.int .i64 0), (.int .i64 0), (.str []), (.str []), (.bool false)] [(0, 1, (.c (.int .i64 8))), (1, 1, (.t 41)), (2, 1, (.t 42))]⟩, ⟨none, none, .store 6 (.t 6) (.t 43) false⟩]) .ret)))))⟩
theorem ok_c_Z27 : chkFn Tryz.prog 114 c_Z27 = true := chkFn_of Tryz.func114 (by kernel_rfl)
def j_Z27_0 (M : Mach) (n0 : Nat) (n1 : Nat) (r1 : Rk) (z0 z1 z2 z6 : V) (σ : Objs) : Ro :=
 bd (fz n1 σ fzD z0) fun y1 =>
 bd (fz n1 σ fzD z1) fun y2 =>
 bd (fz n1 σ fzD z2) fun y3 =>
 bd (fz n1 σ fzD z6) fun y4 =>
 bd (cuO n1 σ) fun s5 => r1 [y1, y2, y3, y4] s5
def j_Z27_2 (M : Mach) (n0 : Nat) (z1 z2 z6 : V) (σ : Objs) : Ro :=
 bd (pu (buildV [(.int .i64 0), (.int .i64 0), (.int .i64 0), (.str []), (.str []), (.bool false)] [(0, 1, (.int .i64 8)), (1, 1, z1.ng.ng), (2, 1, z2.ng.ng)])) fun x24 =>
 bd (stV σ 6 z6.ng x24.ng x24.ng) fun p25 =>
 bd (resC p25.2 true 6 z6) fun x26 =>
 bd (oK false x26) (nK n0 p25.2)
def j_Z27_1 (M : Mach) (n0 : Nat) (z0 z1 z2 z6 : V) (σ : Objs) : Ro :=
 bd (pu (evLen z0.ng.ng)) fun x27 =>
 bd (pu (eB .gtr .no z2.ng.ng x27.ng)) fun x28 =>
  br x28.ng (
 bd (pu (evLen z0.ng)) fun x29 =>
  j_Z27_2 M n0 z1 x29.ng z6 σ) (
  j_Z27_2 M n0 z1 z2 z6 σ)
def b_Z27_0 (M : Mach) (n0 : Nat) (n1 : Nat) (r1 : Rk) (z0 z1 z2 z6 : V) (σ : Objs) : Ro :=
 bd (pu (evLen z0.ng.ng)) fun x6 =>
 bd (pu (eB .lss .no z2.ng.ng x6.ng)) fun x7 =>
 bd (gdv x7.ng true (some z0.ng)) fun x8 =>
 bd (gdv x7.ng true (some z2.ng)) fun x9 =>
 bd (gdv x7.ng true (pu (eI 1 x9.ng x8.ng))) fun x10 =>
 bd (gdv x7.ng true (pu (eL σ false 1 x10.ng))) fun x11 =>
 bd (gdv x7.ng true (pu (eB .neq .no x11.ng (.int .i64 41)))) fun x12 =>
 bd (pu (pV x7.ng.ng x12.ng (.bool false))) fun x13 =>
  br x13.ng (
 bd (M.call 84 [z0.ng.ng, z2.ng.ng] σ) fun p14 =>
  br p14.1.ng (
 bd (M.call 96 [z0.ng.ng, z2.ng.ng] p14.2) fun p15 =>
 bd (pu (eX 0 p15.1.ng.ng)) fun x16 =>
 bd (pu (eX 1 p15.1.ng.ng)) fun x17 =>
  j_Z27_0 M n0 n1 r1 z0 z1 x17.ng z6 p15.2) (
 bd (pu (eB .add .no z2.ng.ng (.int .i64 1))) fun x18 =>
  j_Z27_0 M n0 n1 r1 z0 z1 x18.ng z6 p14.2)) (
 bd (fz n1 σ fzD z0) fun y19 =>
 bd (fz n1 σ fzD z1) fun y20 =>
 bd (fz n1 σ fzD z2) fun y21 =>
 bd (fz n1 σ fzD z6) fun y22 =>
 bd (cuO n1 σ) fun s23 =>
 bd (pu (evLen y19.ng.ng)) fun x30 =>
 bd (pu (eB .lss .no y21.ng.ng x30.ng)) fun x31 =>
  br x31.ng (
 bd (pu (eB .add .no y21.ng.ng (.int .i64 1))) fun x32 =>
  j_Z27_1 M n0 y19 y20 x32.ng y22 s23) (
  j_Z27_1 M n0 y19 y20 y21 y22 s23))
def l_Z27_0 (M : Mach) (n0 : Nat) (n1 : Nat) : Rk := M.fx fun rec vs σ => b_Z27_0 M n0 n1 rec (vs.getD 0 .undef) (vs.getD 1 .undef) (vs.getD 2 .undef) (vs.getD 3 .undef) σ
def s_Z27 (M : Mach) (a0 a1 a2 : V) (σ : Objs) : Ro :=
  let s0 : Objs := σ ++ [.cells [(.int .i64 0), (.int .i64 0), (.int .i64 0), (.str []), (.str []), (.bool false)]]
 bd (fz s0.length s0 fzD a0) fun y33 =>
 bd (fz s0.length s0 fzD a1) fun y34 =>
 bd (fz s0.length s0 fzD a2) fun y35 =>
 bd (fz s0.length s0 fzD (.ptr σ.length 0)) fun y36 =>
  l_Z27_0 M σ.length s0.length [y33, y34, y35, y36] s0
theorem k_Z27 (M : Mach) (a0 a1 a2 : V) (σ : Objs) : fnK M c_Z27 [a0, a1, a2] σ = s_Z27 M a0 a1 a2 σ := by kernel_rfl
def c_Zu : Ev.Fn := ⟨25, [.tmp 2], false, false, (.seq (.ops 0 [⟨some 2, none, .mv (.c (.int .i64 0)) false⟩]) (.seq (.seq (.ops 1 [mvF 3 0, ⟨some 4, none, .bin .geq .no (.t 3) (.c (.int .u64 4294967296))⟩]) (.cond (.t 4) (.seq (.ops 2 [mvF 5 0, ⟨some 6, none, .bin .shr .no (.t 5) (.c (.int .u64 32))⟩, mvF 0 6]) (.ops 3 [⟨some 2, none, .mv (.c (.int .i64 32)) false⟩])) .skip)) (.seq (.seq (.ops 4 [mvF 7 0, ⟨some 8, none, .bin .geq .no (.t 7) (.c (.int .u64 65536))⟩]) (.cond (.t 8) (.seq (.ops 5 [mvF 9 0, ⟨some 10, none, .bin .shr .no (.t 9) (.c (.int .u64 16))⟩, mvF 0 10]) (.ops 6 [mvF 11 2, ⟨some 12, none, .bin .add .no (.t 11) (.c (.int .i64 16))⟩, mvF 2 12])) .skip)) (.seq (.seq (.ops 7 [mvF 13 0, ⟨some 14, none, .bin .geq .no (.t 13) (.c (.int .u64 256))⟩]) (.cond (.t 14) (.seq (.ops 8 [mvF 15 0, ⟨some 16, none, .bin .shr .no (.t 15) (.c (.int .u64 8))⟩, mvF 0 16]) (.ops 9 [mvF 17 2, ⟨some 18, none, .bin .add .no (.t 17) (.c (.int .i64 8))⟩, mvF 2 18])) .skip)) (.seq (.ops 10 [mvF 19 2, mvF 20 0, ⟨some 21, none, .conv (.toInt .u8) (.t 20)⟩, ⟨some 22, none, .idx (.c (.str [0, 1, 2, 2, 3, 3, 3, 3, 4, 4, 4, 4, 4, 4, 4, 4, 5, 5, 5, 5, 5, 5, 5, 5, 5, 5, 5, 5, 5, 5, 5, 5, 6, 6, 6, 6, 6, 6, 6, 6, 6, 6, 6, 6, 6, 6, 6, 6, 6, 6, 6, 6, 6, 6, 6, 6, 6, 6, 6, 6, 6, 6, 6, 6, 7, 7, 7, 7, 7, 7, 7, 7, 7, 7, 7, 7, 7, 7, 7, 7, 7, 7, 7, 7, 7, 7, 7, 7, 7, 7, 7, 7, 7, 7, 7, 7, 7, 7, 7, 7, 7, 7, 7, 7, 7, 7, 7, 7, 7, 7, 7, 7, 7, 7, 7, 7, 7, 7, 7, 7, 7, 7, 7, 7, 7, 7, 7, 7, 8, 8, 8, 8, 8, 8, 8, 8, 8, 8, 8, 8, 8, 8, 8, 8, 8, 8, 8, 8, 8, 8, 8, 8, 8, 8, 8, 8, 8, 8, 8, 8, 8, 8, 8, 8, 8, 8, 8, 8, 8, 8, 8, 8, 8, 8, 8, 8, 8, 8, 8, 8, 8, 8, 8, 8, 8, 8, 8, 8, 8, 8, 8, 8, 8, 8, 8, 8, 8, 8, 8, 8, 8, 8, 8, 8, 8, 8, 8, 8, 8, 8, 8, 8, 8, 8, 8, 8, 8, 8, 8, 8, 8, 8, 8, 8, 8, 8, 8, 8, 8, 8, 8, 8, 8, 8, 8, 8, 8, 8, 8, 8, 8, 8, 8, 8, 8, 8, 8, 8, 8, 8, 8, 8, 8, 8, 8, 8])) (.t 21)⟩, ⟨some 23, none, .conv (.toInt .i64) (.t 22)⟩, ⟨some 24, none, .bin .add .no (.t 19) (.t 23)⟩, mvF 2 24]) .ret)))))⟩
theorem ok_c_Zu : chkFn Tryz.prog 120 c_Zu = true := chkFn_of Tryz.func120 (by kernel_rfl)
def j_Zu_2 (M : Mach) (n0 : Nat) (z0 z2 : V) (σ : Objs) : Ro :=
 bd (pu (eC σ (.toInt .u8) z0.ng.ng)) fun x0 =>
 bd (pu (evIdx x0.ng (.str [0, 1, 2, 2, 3, 3, 3, 3, 4, 4, 4, 4, 4, 4, 4, 4, 5, 5, 5, 5, 5, 5, 5, 5, 5, 5, 5, 5, 5, 5, 5, 5, 6, 6, 6, 6, 6, 6, 6, 6, 6, 6, 6, 6, 6, 6, 6, 6, 6, 6, 6, 6, 6, 6, 6, 6, 6, 6, 6, 6, 6, 6, 6, 6, 7, 7, 7, 7, 7, 7, 7, 7, 7, 7, 7, 7, 7, 7, 7, 7, 7, 7, 7, 7, 7, 7, 7, 7, 7, 7, 7, 7, 7, 7, 7, 7, 7, 7, 7, 7, 7, 7, 7, 7, 7, 7, 7, 7, 7, 7, 7, 7, 7, 7, 7, 7, 7, 7, 7, 7, 7, 7, 7, 7, 7, 7, 7, 7, 8, 8, 8, 8, 8, 8, 8, 8, 8, 8, 8, 8, 8, 8, 8, 8, 8, 8, 8, 8, 8, 8, 8, 8, 8, 8, 8, 8, 8, 8, 8, 8, 8, 8, 8, 8, 8, 8, 8, 8, 8, 8, 8, 8, 8, 8, 8, 8, 8, 8, 8, 8, 8, 8, 8, 8, 8, 8, 8, 8, 8, 8, 8, 8, 8, 8, 8, 8, 8, 8, 8, 8, 8, 8, 8, 8, 8, 8, 8, 8, 8, 8, 8, 8, 8, 8, 8, 8, 8, 8, 8, 8, 8, 8, 8, 8, 8, 8, 8, 8, 8, 8, 8, 8, 8, 8, 8, 8, 8, 8, 8, 8, 8, 8, 8, 8, 8, 8, 8, 8, 8, 8, 8, 8, 8, 8, 8, 8]))) fun x1 =>
 bd (pu (eC σ (.toInt .i64) x1.ng)) fun x2 =>
 bd (pu (eB .add .no z2.ng.ng x2.ng)) fun x3 =>
 bd (oK false x3.ng) (nK n0 σ)
def j_Zu_1 (M : Mach) (n0 : Nat) (z0 z2 : V) (σ : Objs) : Ro :=
 bd (pu (eB .geq .no z0.ng.ng (.int .u64 256))) fun x4 =>
  br x4.ng (
 bd (pu (eB .shr .no z0.ng.ng (.int .u64 8))) fun x5 =>
 bd (pu (eB .add .no z2.ng.ng (.int .i64 8))) fun x6 =>
  j_Zu_2 M n0 x5.ng x6.ng σ) (
  j_Zu_2 M n0 z0 z2 σ)
def j_Zu_0 (M : Mach) (n0 : Nat) (z0 z2 : V) (σ : Objs) : Ro :=
 bd (pu (eB .geq .no z0.ng.ng (.int .u64 65536))) fun x7 =>
  br x7.ng (
 bd (pu (eB .shr .no z0.ng.ng (.int .u64 16))) fun x8 =>
 bd (pu (eB .add .no z2.ng.ng (.int .i64 16))) fun x9 =>
  j_Zu_1 M n0 x8.ng x9.ng σ) (
  j_Zu_1 M n0 z0 z2 σ)
def s_Zu (M : Mach) (a0 : V) (σ : Objs) : Ro :=
 bd (pu (eB .geq .no a0.ng.ng (.int .u64 4294967296))) fun x10 =>
  br x10.ng (
 bd (pu (eB .shr .no a0.ng.ng (.int .u64 32))) fun x11 =>
  j_Zu_0 M σ.length x11.ng (.int .i64 32) σ) (
  j_Zu_0 M σ.length a0 (.int .i64 0) σ)
theorem k_Zu (M : Mach) (a0 : V) (σ : Objs) : fnK M c_Zu [a0] σ = s_Zu M a0 σ := by kernel_rfl
end Go.Proofs.YtkgkmlhljeidhaaGreatDoor
set_option linter.unusedSimpArgs false
set_option linter.unusedVariables false
set_option maxRecDepth 100000
namespace Go.Proofs.YtkgkmlhljeidhaaGreatDoor
open Go.Ev
def c_Zp : Ev.Fn := ⟨6, [.tmp 2], false, false, (.seq (.ops 0 [⟨some 2, none, .mv (.c (.int .i64 0)) false⟩]) (.seq (.ops 1 [mvF 3 0, ⟨some 4, none, .bin .mul .no (.t 3) (.c (.int .i64 78913))⟩, ⟨some 5, none, .bin .shr .no (.t 4) (.c (.int .u64 18))⟩, mvF 2 5]) .ret))⟩
theorem ok_c_Zp : chkFn Tryz.prog 119 c_Zp = true := chkFn_of Tryz.func119 (by kernel_rfl)
def s_Zp (M : Mach) (a0 : V) (σ : Objs) : Ro :=
 bd (pu (eB .mul .no a0.ng.ng (.int .i64 78913))) fun x0 =>
 bd (pu (eB .shr .no x0.ng (.int .u64 18))) fun x1 =>
 bd (oK false x1.ng) (nK σ.length σ)
theorem k_Zp (M : Mach) (a0 : V) (σ : Objs) : fnK M c_Zp [a0] σ = s_Zp M a0 σ := by kernel_rfl
def c_Zn : Ev.Fn := ⟨4, [.tmp 2], false, false, (.seq (.ops 0 [⟨some 2, none, .mv (.c (.int .i64 0)) false⟩]) (.seq (.seq (.ops 1 [mvF 3 0]) (.cond (.t 3) (.seq (.ops 2 [⟨some 2, none, .mv (.c (.int .i64 1)) false⟩]) .ret) .skip)) (.seq (.ops 3 [⟨some 2, none, .mv (.c (.int .i64 0)) false⟩]) .ret)))⟩
theorem ok_c_Zn : chkFn Tryz.prog 121 c_Zn = true := chkFn_of Tryz.func121 (by kernel_rfl)
def s_Zn (M : Mach) (a0 : V) (σ : Objs) : Ro :=
  br a0.ng.ng (
 bd (oK false (.int .i64 1)) (nK σ.length σ)) (
 bd (oK false (.int .i64 0)) (nK σ.length σ))
theorem k_Zn (M : Mach) (a0 : V) (σ : Objs) : fnK M c_Zn [a0] σ = s_Zn M a0 σ := by kernel_rfl
end Go.Proofs.YtkgkmlhljeidhaaGreatDoor
set_option linter.unusedSimpArgs false
set_option linter.unusedVariables false
set_option maxRecDepth 100000
namespace Go.Proofs.YtkgkmlhljeidhaaGreatDoor
open Go.Ev
def listAnC : List (Nat × Ev.Fn) := [(8, c_Z16),
  (9, c_Z17),
  (10, c_Z9),
  (14, c_Z1u),
  (13, c_Za),
  (15, c_Zc),
  (21, c_Zb),
  (22, c_Z2c),
  (23, c_Zd),
  (24, c_Ze),
  (32, c_Z18),
  (31, c_Z1a),
  (30, c_Z1q),
  (25, c_Z5),
  (26, c_Z1),
  (27, c_Z2),
  (28, c_Z0),
  (29, c_Zg),
  (33, c_Zz),
  (34, c_Zh),
  (38, c_Z1i),
  (39, c_Zv),
  (40, c_Z2d),
  (52, c_Z19),
  (51, c_Z1c),
  (50, c_Z1t),
  (41, c_Z3),
  (42, c_Zj),
  (43, c_Z7),
  (44, c_Zi),
  (45, c_Zx),
  (46, c_Zy),
  (47, c_Z6),
  (48, c_Z4),
  (49, c_Zf),
  (53, c_Z12),
  (54, c_Z10),
  (55, c_Z11),
  (56, c_Z13),
  (60, c_Z1l),
  (68, c_Zm),
  (69, c_Z1j),
  (86, c_Z1h),
  (87, c_Z1g),
  (88, c_Z1e),
  (73, c_Z1w),
  (74, c_Z1o),
  (75, c_Z28),
  (76, c_Z26),
  (77, c_Z24),
  (78, c_Z25),
  (79, c_Z22),
  (80, c_Z1s),
  (81, c_Z1x),
  (82, c_Z23),
  (83, c_Z21),
  (84, c_Z1r),
  (85, c_Z2a),
  (70, c_Zk),
  (71, c_Zs),
  (72, c_Zt),
  (89, c_Z8),
  (90, c_Z14),
  (91, c_Zw),
  (92, c_Z1n),
  (95, c_Zl),
  (103, c_Z1b),
  (104, c_Z1f),
  (96, c_Z1v),
  (97, c_Z1y),
  (98, c_Z1z),
  (99, c_Z29),
  (100, c_Z2b),
  (101, c_Z1m),
  (102, c_Z1d),
  (105, c_Z15),
  (107, c_Zr),
  (108, c_Zq),
  (109, c_Zo),
  (111, c_Z1k),
  (112, c_Z1p),
  (113, c_Z20),
  (114, c_Z27),
  (120, c_Zu),
  (119, c_Zp),
  (121, c_Zn)]
def codeAnC (f : FuncId) : Option Ev.Fn := lookF listAnC f
theorem okAnC : ∀ f F, codeAnC f = some F → chkFn Tryz.prog f F = true := lookF_ok (l := listAnC) ⟨ok_c_Z16, ok_c_Z17, ok_c_Z9, ok_c_Z1u, ok_c_Za, ok_c_Zc, ok_c_Zb, ok_c_Z2c, ok_c_Zd, ok_c_Ze, ok_c_Z18, ok_c_Z1a, ok_c_Z1q, ok_c_Z5, ok_c_Z1, ok_c_Z2, ok_c_Z0, ok_c_Zg, ok_c_Zz, ok_c_Zh, ok_c_Z1i, ok_c_Zv, ok_c_Z2d, ok_c_Z19, ok_c_Z1c, ok_c_Z1t, ok_c_Z3, ok_c_Zj, ok_c_Z7, ok_c_Zi, ok_c_Zx, ok_c_Zy, ok_c_Z6, ok_c_Z4, ok_c_Zf, ok_c_Z12, ok_c_Z10, ok_c_Z11, ok_c_Z13, ok_c_Z1l, ok_c_Zm, ok_c_Z1j, ok_c_Z1h, ok_c_Z1g, ok_c_Z1e, ok_c_Z1w, ok_c_Z1o, ok_c_Z28, ok_c_Z26, ok_c_Z24, ok_c_Z25, ok_c_Z22, ok_c_Z1s, ok_c_Z1x, ok_c_Z23, ok_c_Z21, ok_c_Z1r, ok_c_Z2a, ok_c_Zk, ok_c_Zs, ok_c_Zt, ok_c_Z8, ok_c_Z14, ok_c_Zw, ok_c_Z1n, ok_c_Zl, ok_c_Z1b, ok_c_Z1f, ok_c_Z1v, ok_c_Z1y, ok_c_Z1z, ok_c_Z29, ok_c_Z2b, ok_c_Z1m, ok_c_Z1d, ok_c_Z15, ok_c_Zr, ok_c_Zq, ok_c_Zo, ok_c_Z1k, ok_c_Z1p, ok_c_Z20, ok_c_Z27, ok_c_Zu, ok_c_Zp, ok_c_Zn, trivial⟩
end Go.Proofs.YtkgkmlhljeidhaaGreatDoor
namespace Go.Proofs.YtkgkmlhljeidhaaGreatDoor
open Go.RowKit
def RowA {α : Type} (f : α → Value) (d : α) (base : Nat) (w : World) (a : Option Addr) (n c : Nat) (xs : List α) : Prop :=
  xs.length = n ∧ n ≤ c ∧ c ≤ maxLen ∧ (0 < n → ∃ b off, a = some ⟨b, off, none⟩ ∧ base ≤ b ∧ b < w.heap.size ∧ ∀ j, j < n → w.cell? ⟨b, off + j, none⟩ = some (f (xs.getD j d)))
section
variable {α : Type} {f : α → Value} {d : α} {base : Nat} {w w' : World} {a : Option Addr} {n c : Nat} {xs : List α} {v : Value}
theorem RowA.len (h : RowA f d base w a n c xs) : xs.length = n := h.1
theorem RowA.le_cap (h : RowA f d base w a n c xs) : n ≤ c := h.2.1
theorem RowA.le (h : RowA f d base w a n c xs) : n ≤ 9223372036854775807 := by
  have h1 := h.2.1; have h2 := h.2.2.1; simp only [maxLen] at h2; omega
theorem RowA.at (h : RowA f d base w a n c xs) (hn : 0 < n) :
    ∃ b off, a = some ⟨b, off, none⟩ ∧ base ≤ b ∧ b < w.heap.size ∧ ∀ j, j < n → w.cell? ⟨b, off + j, none⟩ = some (f (xs.getD j d)) := h.2.2.2 hn
theorem RowA.mono {base' : Nat} (h : RowA f d base w a n c xs) (hb : base' ≤ base) : RowA f d base' w a n c xs := by
  obtain ⟨h1, h2, h3, h4⟩ := h
  refine ⟨h1, h2, h3, fun hn => ?_⟩
  obtain ⟨b, off, e, hbb, hlt, hc⟩ := h4 hn
  exact ⟨b, off, e, by omega, hlt, hc⟩
theorem RowA.keepB {B : Nat} (h : RowA f d base w a n c xs) (hb : Below B w w') (hB : w.heap.size ≤ B) : RowA f d base w' a n c xs := by
  obtain ⟨h1, h2, h3, h4⟩ := h
  refine ⟨h1, h2, h3, fun hn => ?_⟩
  obtain ⟨b, off, e, hbb, hlt, hc⟩ := h4 hn
  refine ⟨b, off, e, hbb, Nat.lt_of_lt_of_le hlt hb.size, fun j hj => ?_⟩
  rw [hb.cell (p := ⟨b, off + j, none⟩) (Nat.lt_of_lt_of_le hlt hB)]
  exact hc j hj
theorem RowA.keep (h : RowA f d base w a n c xs) (hb : Below w.heap.size w w') : RowA f d base w' a n c xs := h.keepB hb (Nat.le_refl _)
theorem RowA.drew (h : RowA f d base w a n c xs) : RowA f d base w.drew a n c xs := h.keep (Below.refl _ _).drew
theorem RowA.setCell (h : RowA f d base w a n c xs) {p : Addr} (hp : p.block < base) (u : Value) : RowA f d base (w.setCell p u) a n c xs := by
  obtain ⟨h1, h2, h3, h4⟩ := h
  refine ⟨h1, h2, h3, fun hn => ?_⟩
  obtain ⟨b, off, e, hbb, hlt, hc⟩ := h4 hn
  refine ⟨b, off, e, hbb, by simpa [World.setCell] using hlt, fun j hj => ?_⟩
  rw [World.cell?_of_block (w := w) (Below.heap_setCell w p u b (by omega))]
  exact hc j hj
theorem RowA.nil (f : α → Value) (d : α) (base : Nat) (w : World) : RowA f d base w none 0 0 [] := ⟨rfl, Nat.le_refl _, by simp [maxLen], fun h => absurd h (Nat.lt_irrefl _)⟩
theorem RowA.take (h : RowA f d base w a n c xs) (m c' : Nat) (hm : m ≤ n) (hc : m ≤ c') (hc' : c' ≤ c) : RowA f d base w a m c' (xs.take m) := by
  obtain ⟨h1, h2, h3, h4⟩ := h
  refine ⟨by simp; omega, hc, Nat.le_trans hc' h3, fun hn => ?_⟩
  obtain ⟨b, off, e, hbb, hlt, hx⟩ := h4 (by omega)
  refine ⟨b, off, e, hbb, hlt, fun j hj => ?_⟩
  rw [hx j (by omega)]
  simp [List.getD_eq_getElem?_getD, hj]
end
def RowV {α : Type} (f : α → Value) (d : α) (base : Nat) (w : World) (v : Value) (xs : List α) : Prop := ∃ a n c, v = .slice a n c ∧ RowA f d base w a n c xs
theorem RowV.keep {α} {f : α → Value} {d base w w' v} {xs : List α} (h : RowV f d base w v xs) (hb : Below w.heap.size w w') : RowV f d base w' v xs :=
  let ⟨a, n, c, e, hr⟩ := h; ⟨a, n, c, e, hr.keep hb⟩
theorem RowV.mono {α} {f : α → Value} {d base base' w v} {xs : List α} (h : RowV f d base w v xs) (hb : base' ≤ base) : RowV f d base' w v xs :=
  let ⟨a, n, c, e, hr⟩ := h; ⟨a, n, c, e, hr.mono hb⟩
theorem RowV.setCell {α} {f : α → Value} {d base w v} {xs : List α} (h : RowV f d base w v xs) {p : Addr} (hp : p.block < base) (u : Value) : RowV f d base (w.setCell p u) v xs :=
  let ⟨a, n, c, e, hr⟩ := h; ⟨a, n, c, e, hr.setCell hp u⟩
theorem setCell_block {w : World} {b : Nat} {cs : Array Value} {e : TypeId} (h : w.heap[b]? = some (.cells cs e (0, 0))) (i : Nat) (v : Value) :
    (w.setCell ⟨b, i, none⟩ v).heap[b]? = some (.cells (cs.setIfInBounds i v) e (0, 0)) := by
  simp [World.setCell, Array.getElem?_modify, h]
theorem block_below {w w' : World} {B b : Nat} {o : Obj} (h : w.heap[b]? = some o) (hb : Below B w w') (hB : b < B) : w'.heap[b]? = some o := by
  rw [hb.block b hB]; exact h
theorem lt_of_block {w : World} {b : Nat} {o : Obj} (h : w.heap[b]? = some o) : b < w.heap.size := (Array.getElem?_eq_some_iff.1 h).1
theorem cell_of_block {w : World} {b : Nat} {cs : Array Value} {e : TypeId} (h : w.heap[b]? = some (.cells cs e (0, 0))) (i : Nat) : w.cell? ⟨b, i, none⟩ = cs[i]? := by
  unfold World.cell?; simp [h]
theorem free_of_block {w : World} {b : Nat} {cs : Array Value} {e : TypeId} (h : w.heap[b]? = some (.cells cs e (0, 0))) (i : Nat) : w.frozen? ⟨b, i, none⟩ = false := by
  unfold World.frozen?; simp [h]
abbrev VB : Bool → Value := Value.bool
abbrev VI : Int → Value := Value.int .i64
theorem below_a1 (w : World) (o : Obj) : Below w.heap.size w (w.alloc o) := (Below.refl _ _).alloc (Nat.le_refl _) o
theorem addr_add (b off j : Nat) : (⟨b, off, none⟩ : Addr).add j = ⟨b, off + j, none⟩ := by
  unfold Addr.add; split <;> simp_all
theorem RowA.news {α} {f : α → Value} {d base w a n c} {xs : List α} (h : RowA f d base w (some a) n c xs) : ∀ j u, (xs.map f)[j]? = some u → w.cell? (a.add j) = some u := by
  intro j u hu
  have hl := h.len
  have hj : j < n := by
    rcases Nat.lt_or_ge j n with h | h
    · exact h
    · rw [List.getElem?_eq_none (by simp; omega)] at hu; cases hu
  obtain ⟨b, off, e, _, _, hc⟩ := h.at (by omega)
  simp only [Option.some.injEq] at e
  subst e
  rw [addr_add, hc j hj]
  rw [List.getElem?_map, List.getElem?_eq_getElem (by omega)] at hu
  simp only [Option.map_some, Option.some.injEq] at hu
  rw [← hu]
  simp [List.getD, show j < xs.length by omega]
def RowG {α : Type} (g : α → List Value) (sz : Nat) (d : α) (w : World) (a : Option Addr) (n c : Nat) (xs : List α) : Prop :=
  xs.length = n ∧ n ≤ c ∧ c ≤ maxLen ∧ (0 < n → ∃ b off, a = some ⟨b, off, none⟩ ∧ b < w.heap.size ∧ ∀ j, j < n → ∀ i v, (g (xs.getD j d))[i]? = some v → w.cell? ⟨b, off + j * sz + i, none⟩ = some v)
theorem RowG.len {α} {g : α → List Value} {sz d w a n c} {xs : List α} (h : RowG g sz d w a n c xs) : xs.length = n := h.1
theorem RowG.le_cap {α} {g : α → List Value} {sz d w a n c} {xs : List α} (h : RowG g sz d w a n c xs) : n ≤ c := h.2.1
theorem RowG.le {α} {g : α → List Value} {sz d w a n c} {xs : List α} (h : RowG g sz d w a n c xs) : n ≤ 9223372036854775807 := by
  have h1 := h.2.1; have h2 := h.2.2.1; simp only [maxLen] at h2; omega
theorem RowG.keep {α} {g : α → List Value} {sz d w w' a n c} {xs : List α} (h : RowG g sz d w a n c xs) (hb : Below w.heap.size w w') : RowG g sz d w' a n c xs := by
  obtain ⟨h1, h2, h3, h4⟩ := h
  refine ⟨h1, h2, h3, fun hn => ?_⟩
  obtain ⟨b, off, e, hlt, hc⟩ := h4 hn
  refine ⟨b, off, e, Nat.lt_of_lt_of_le hlt hb.size, fun j hj i v hv => ?_⟩
  rw [hb.cell (p := ⟨b, off + j * sz + i, none⟩) hlt]
  exact hc j hj i v hv
theorem RowG.at {α} {g : α → List Value} {sz d w a n c} {xs : List α} (h : RowG g sz d w a n c xs) (hn : 0 < n) :
    ∃ b off, a = some ⟨b, off, none⟩ ∧ b < w.heap.size ∧ ∀ j, j < n → ∀ i v, (g (xs.getD j d))[i]? = some v → w.cell? ⟨b, off + j * sz + i, none⟩ = some v := h.2.2.2 hn
end Go.Proofs.YtkgkmlhljeidhaaGreatDoor
namespace Go.Proofs.YtkgkmlhljeidhaaGreatDoor
open Go.RowKit
theorem blk_keep {w w' : World} {b : Nat} {o : Obj} (h : w.heap[b]? = some o) (hb : Below w.heap.size w w') : w'.heap[b]? = some o := block_below h hb (lt_of_block h)
end Go.Proofs.YtkgkmlhljeidhaaGreatDoor
namespace Go.Proofs.YtkgkmlhljeidhaaGreatDoor
open Go.RowKit Go.Extern.Stop Go.Stop Go.Extern
theorem Tryz.isTypeOf (v : Value) (w : World) : (Extern.ReflectliteType.typeOf #[.iface 38 v]).run Tryz.prog w = .ok (.iface 128 (.agg #[.pointer (some ⟨7, 38, none⟩)])) w := by kernel_rfl
theorem Tryz.isComparable (w : World) : ((Extern.ReflectliteType.method fun t => do Extern.Rtype.noPackHeld "Comparable" t; (fun a => Value.bool a.comparable) <$> typeInfo t) #[.agg #[.pointer (some ⟨7, 38, none⟩)]]).run Tryz.prog w = .ok (.bool true) w := by kernel_rfl
theorem Tryz.isMethodComparable (v : Value) (w : World) : (Go.method 298 128 v "Comparable").run Tryz.prog w = .ok (154, v) w := by kernel_rfl
theorem Tryz.hasIsF (v : Value) (xT : TypeId) (w : World) : (Instr.typeAssert (.iface 73 v) xT 130 true).run Tryz.prog w = .ok (.tuple #[.iface 73 v, .bool true]) w := run_typeAssert_hasB Tryz.underlying130 (by kernel_rfl) v xT w
theorem Tryz.hasUnwrapF (v : Value) (xT : TypeId) (w : World) : (Instr.typeAssert (.iface 73 v) xT 132 true).run Tryz.prog w = .ok (.tuple #[.iface 73 v, .bool true]) w := run_typeAssert_hasB Tryz.underlying132 (by kernel_rfl) v xT w
theorem Tryz.methodIsF (v : Value) (w : World) : (Go.method 298 73 v "Is").run Tryz.prog w = .ok (147, v) w := by kernel_rfl
theorem Tryz.methodUnwrapF (v : Value) (w : World) : (Go.method 298 73 v "Unwrap").run Tryz.prog w = .ok (148, v) w := by kernel_rfl
theorem Tryz.assertErrno (n : Int) (w : World) : (Instr.typeAssert (.iface 38 (.int .i64 n)) 27 38 true).run Tryz.prog w = .ok (.tuple #[.int .i64 n, .bool true]) w := by kernel_rfl
inductive FC (W : World) : Value → List Int → Prop
  | nil : FC W .nilIface []
  | cons (b o : Nat) (k : Int) (E : Value) (l : List Int) : W.cell? ⟨b, o, none⟩ = some (.int .i64 k) → W.cell? ⟨b, o + 2, none⟩ = some E → FC W E l → FC W (.iface 73 (.pointer (some ⟨b, o, none⟩))) (k :: l)
theorem FC.unique {W : World} {E : Value} {l l' : List Int} (h : FC W E l) (h' : FC W E l') : l = l' := by
  induction h generalizing l' with
  | nil => cases h'; rfl
  | cons b o k E1 l1 h1 h2 h3 ih =>
    cases h' with
    | cons _ _ k2 E2 l2 g1 g2 g3 =>
      rw [h1] at g1; rw [h2] at g2
      cases g1; cases g2
      rw [ih g3]
open Classical in
noncomputable def fcLen (W : World) (E : Value) : Nat := if h : ∃ l, FC W E l then h.choose.length else 0
theorem fcLen_eq {W : World} {E : Value} {l : List Int} (h : FC W E l) : fcLen W E = l.length := by
  unfold fcLen
  rw [dif_pos ⟨l, h⟩]
  rw [FC.unique (Exists.choose_spec ⟨l, h⟩) h]
set_option maxRecDepth 100000 in
theorem is_chain {W : World} (j : Int) (E : Value) (l : List Int) (hch : FC W E l) (hne : l ≠ []) :
    Calls Tryz.prog 58 #[E, .iface 38 (.int .i64 j), .bool true] W fun e w' => e = .returned (.bool (decide (j ∈ l))) ∧ w' = W := by
  have nE := Tryz.hasIsF
  have uE := Tryz.hasUnwrapF
  have mI := Tryz.methodIsF
  have mU := Tryz.methodUnwrapF
  go_enter Tryz.func58, Tryz.ntmps58
  go_wp2
  go_loopw [0] (fun E' wl => wl = W ∧ ∃ l', FC W E' l' ∧ l' ≠ [] ∧ decide (j ∈ l) = decide (j ∈ l')) (fun E' _ => fcLen W E')
  case atStart => exact ⟨rfl, l, hch, hne, rfl⟩
  case round =>
    obtain ⟨rfl, l', hc', hn', hiff⟩ := hrel
    cases hc' with
    | nil => exact absurd rfl hn'
    | cons b o k E1 l1 hk hi h1 =>
      have hty := run_eql_iface_types (P := Tryz.prog) 73 38 (.pointer (some ⟨b, o, none⟩)) (.int .i64 j) Tryz.underlying27 (by decide) wr
      have hA := Tryz.assertErrno
      have hlen := fcLen_eq h1
      have hlen0 := fcLen_eq (FC.cons b o k E1 l1 hk hi h1)
      have HC : Hid (FC wr E1 l1) := h1
      cases hjk : j == k
      · cases h1 with
        | nil =>
          clear HC
          go_wp2
          go_ret
          exact ⟨by simp [hiff]; simpa using hjk, rfl⟩
        | cons b1 o1 k1 E2 l2 g1 g2 g3 =>
          clear g1 g2 g3
          go_wp2
          go_roundw
          case rel => exact ⟨trivial, _, HC.out, by simp, by rw [hiff]; simp [show ¬ j = k by simpa using hjk]⟩
          case measure =>
            show fcLen wr (.iface 73 (.pointer (some ⟨b1, o1, none⟩))) < _
            rw [hlen, hlen0]; simp
      · go_wp2
        go_ret
        exact ⟨by rw [hiff]; simp [show j = k by simpa using hjk], rfl⟩
set_option maxRecDepth 100000 in
theorem is_nil (j : Int) (w : World) : Calls Tryz.prog 35 #[.nilIface, .iface 38 (.int .i64 j)] w fun e w' => e = .returned (.bool false) ∧ w' = w := by
  have hn := run_eql_iface_nil_left (P := Tryz.prog) w 38 (.int .i64 j) Tryz.underlying27
  go_enter Tryz.func35, Tryz.ntmps35
  go_wp2
  go_ret
  exact ⟨rfl, rfl⟩
set_option maxRecDepth 100000 in
theorem is_fault {w : World} (j : Int) (b o : Nat) (l : List Int) (hch : FC w (.iface 73 (.pointer (some ⟨b, o, none⟩))) l) : Calls Tryz.prog 35 #[.iface 73 (.pointer (some ⟨b, o, none⟩)), .iface 38 (.int .i64 j)] w fun e w' => e = .returned (.bool (decide (j ∈ l))) ∧ w' = w := by
  have hne : l ≠ [] := by cases hch; simp
  have h8 := @run_callFunc_extern Tryz.prog 57 _ Extern.ReflectliteType.typeOf Tryz.func57 (by kernel_rfl) (by kernel_rfl) (by kernel_rfl) (by kernel_rfl)
  have h32 := @run_callFunc_extern Tryz.prog 154 _ (Extern.ReflectliteType.method fun t => do Extern.Rtype.noPackHeld "Comparable" t; pure (.bool (← typeInfo t).comparable)) Tryz.func154 (by kernel_rfl) (by kernel_rfl) (by kernel_rfl) (by kernel_rfl)
  have tT := Tryz.isTypeOf
  have cT := Tryz.isComparable
  have mR := Tryz.isMethodComparable
  have hc := is_chain j _ l hch hne
  go_enter Tryz.func35, Tryz.ntmps35
  go_wp2_with fail
  refine hc.mono ?_
  rintro e w' ⟨rfl, rfl⟩
  go_wp2
  go_ret
  exact ⟨rfl, rfl⟩
end Go.Proofs.YtkgkmlhljeidhaaGreatDoor
namespace Go.Proofs.YtkgkmlhljeidhaaGreatDoor
open Go.RowKit Go.Extern.Stop Go.Stop Go.Extern
theorem Tryz.as_valueOf27 (t : Addr) (w : World) : (ReflectliteValue.unpack (.iface 75 (.pointer (some t)))).run Tryz.prog w
    = .ok (.agg #[.pointer (some ⟨7, 75, none⟩), .pointer (some ⟨w.heap.size, 0, none⟩), .int .u64 150]) (w.alloc (.cells #[.pointer (some t)] 75)) := by kernel_rfl
theorem Tryz.as_type27 (a : Addr) (w : World) : (ReflectliteValue.methodAny (ReflectliteValue.valueError "reflectlite.Value.Type" 0) (fun t _ _ _ => ReflectliteType.toType t) #[.agg #[.pointer (some ⟨7, 75, none⟩), .pointer (some a), .int .u64 150]]).run Tryz.prog w
    = .ok (.iface 128 (.agg #[.pointer (some ⟨7, 75, none⟩)])) w := by kernel_rfl
theorem Tryz.as_methodKind (h : Value) (w : World) : (Go.method 298 128 (.agg #[h]) "Kind").run Tryz.prog w = .ok (142, h) w := by kernel_rfl
theorem Tryz.as_kind27 (w : World) : ((ReflectliteType.abiMethod fun t => (fun a : Nat => Value.int IntKind.u8 (a : Int)) <$> Rtype.kind t) #[.pointer (some ⟨7, 75, none⟩)]).run Tryz.prog w = .ok (.int .u8 22) w := by kernel_rfl
theorem Tryz.as_kind25 (w : World) : ((ReflectliteType.abiMethod fun t => (fun a : Nat => Value.int IntKind.u8 (a : Int)) <$> Rtype.kind t) #[.pointer (some ⟨7, 73, none⟩)]).run Tryz.prog w = .ok (.int .u8 22) w := by kernel_rfl
theorem rlm (z : Sem Value) (f : TypeId → Addr → Nat → Nat → Sem Value) (v : Value) :
    ReflectliteValue.method z f #[v] = (do match ← ReflectliteValue.parts v with | none => z | some (t, a, fl) => f t a fl (fl % 32)) := rfl
theorem Tryz.as_parts27 (a : Addr) (w : World) : (ReflectliteValue.parts (.agg #[.pointer (some ⟨7, 75, none⟩), .pointer (some a), .int .u64 150])).run Tryz.prog w = .ok (some (75, a, 150)) w := by kernel_rfl
theorem Tryz.as_isNil27 (a p : Addr) (W : World) (ha : W.cell? a = some (.pointer (some p))) :
    (ReflectliteValue.method (ReflectliteValue.valueError "reflectlite.Value.IsNil" 0) ReflectliteValue.isNil #[.agg #[.pointer (some ⟨7, 75, none⟩), .pointer (some a), .int .u64 150]]).run Tryz.prog W = .ok (.bool false) W := by
  rw [rlm]
  simp only [Sem.run_bind, Tryz.as_parts27, Result.andThen]
  simp [ReflectliteValue.isNil, loadVar, isAgg, underlying, Tryz.underlying75, ha, Result.andThen]
theorem Tryz.as_methodElem (h : Value) (w : World) : (Go.method 298 128 (.agg #[h]) "Elem").run Tryz.prog w = .ok (155, .agg #[h]) w := by kernel_rfl
theorem Tryz.as_methodImplements (h : Value) (w : World) : (Go.method 298 128 (.agg #[h]) "Implements").run Tryz.prog w = .ok (156, .agg #[h]) w := by kernel_rfl
theorem Tryz.as_methodAssignableTo (h : Value) (w : World) : (Go.method 298 128 (.agg #[h]) "AssignableTo").run Tryz.prog w = .ok (153, .agg #[h]) w := by kernel_rfl
theorem Tryz.as_elem27 (w : World) : (ReflectliteType.method ReflectliteType.elem #[.agg #[.pointer (some ⟨7, 75, none⟩)]]).run Tryz.prog w = .ok (.iface 128 (.agg #[.pointer (some ⟨7, 73, none⟩)])) w := by kernel_rfl
theorem Tryz.as_implements25 (w : World) : (ReflectliteType.relation "Implements" ReflectliteType.implements_ #[.agg #[.pointer (some ⟨7, 73, none⟩)], .iface 128 (.agg #[.pointer (some ⟨7, 27, none⟩)])]).run Tryz.prog w = .ok (.bool true) w := by kernel_rfl
theorem Tryz.as_typeOf25 (v : Value) (w : World) : (ReflectliteType.typeOf #[.iface 73 v]).run Tryz.prog w = .ok (.iface 128 (.agg #[.pointer (some ⟨7, 73, none⟩)])) w := by kernel_rfl
theorem Tryz.as_assignable25 (w : World) : (ReflectliteType.relation "AssignableTo" ReflectliteType.assignableTo #[.agg #[.pointer (some ⟨7, 73, none⟩)], .iface 128 (.agg #[.pointer (some ⟨7, 73, none⟩)])]).run Tryz.prog w = .ok (.bool true) w := by kernel_rfl
theorem Tryz.as_valueOf25 (e : Addr) (w : World) : (ReflectliteValue.unpack (.iface 73 (.pointer (some e)))).run Tryz.prog w
    = .ok (.agg #[.pointer (some ⟨7, 73, none⟩), .pointer (some ⟨w.heap.size, 0, none⟩), .int .u64 150]) (w.alloc (.cells #[.pointer (some e)] 73)) := by kernel_rfl
theorem Tryz.as_elemOf27 (w : World) : (Rtype.elem? 75).run Tryz.prog w = .ok (some 73) w := by kernel_rfl
theorem Tryz.as_mk25 (p : Addr) (w : World) : (ReflectliteValue.mk 73 p ReflectliteValue.flagAddr).run Tryz.prog w = .ok (.agg #[.pointer (some ⟨7, 73, none⟩), .pointer (some p), .int .u64 406]) w := by kernel_rfl
theorem Tryz.as_elemV27 (a p : Addr) (W : World) (ha : W.cell? a = some (.pointer (some p))) :
    (ReflectliteValue.method (ReflectliteValue.valueError "reflectlite.Value.Elem" 0) ReflectliteValue.elem #[.agg #[.pointer (some ⟨7, 75, none⟩), .pointer (some a), .int .u64 150]]).run Tryz.prog W
      = .ok (.agg #[.pointer (some ⟨7, 73, none⟩), .pointer (some p), .int .u64 406]) W := by
  rw [rlm]
  simp only [Sem.run_bind, Tryz.as_parts27, Result.andThen]
  simp [ReflectliteValue.elem, loadVar, isAgg, underlying, Tryz.underlying75, ha, Result.andThen, Tryz.as_elemOf27, Tryz.as_mk25]
theorem rls (v x : Value) : ReflectliteValue.set #[v, x] = (do
    let (some (dst, a, fl), some (src, b, _)) := (← ReflectliteValue.parts v, ← ReflectliteValue.parts x)
      | unsupported (.noEntry "extern/(internal/reflectlite.Value).Set.zeroValue")
    if fl / ReflectliteValue.flagAddr % 2 == 0 then unsupported (.noEntry "extern/(internal/reflectlite.Value).Set.unaddressable")
    let val ← loadVar src b
    if ← Rtype.directlyAssignable dst src then storeVar dst a val
    else if ← Rtype.implements dst src then
      if (← Rtype.kind src) == 20 then
        match val with
        | .nilIface => unsupported (.noEntry "extern/reflectlite: a nil value of one interface type handed on as a value of another")
        | _ => storeVar dst a val
      else storeVar dst a (.iface src val)
    else panicString ("reflectlite.Set: value of type " ++ (← Rtype.spelt src) ++ " is not assignable to type " ++ (← Rtype.spelt dst))
    pure (.tuple #[])) := rfl
theorem Tryz.as_parts25a (a : Addr) (w : World) : (ReflectliteValue.parts (.agg #[.pointer (some ⟨7, 73, none⟩), .pointer (some a), .int .u64 406])).run Tryz.prog w = .ok (some (73, a, 406)) w := by kernel_rfl
theorem Tryz.as_parts25 (a : Addr) (w : World) : (ReflectliteValue.parts (.agg #[.pointer (some ⟨7, 73, none⟩), .pointer (some a), .int .u64 150])).run Tryz.prog w = .ok (some (73, a, 150)) w := by kernel_rfl
theorem Tryz.as_direct25 (w : World) : (Rtype.directlyAssignable 73 73).run Tryz.prog w = .ok true w := by kernel_rfl
theorem Tryz.as_set25 (ta b e : Addr) (old : Value) (W : World) (hb : W.cell? b = some (.pointer (some e))) (ht : W.cell? ta = some old) (hf : W.frozen? ta = false) :
    (ReflectliteValue.set #[.agg #[.pointer (some ⟨7, 73, none⟩), .pointer (some ta), .int .u64 406], .agg #[.pointer (some ⟨7, 73, none⟩), .pointer (some b), .int .u64 150]]).run Tryz.prog W
      = .ok (.tuple #[]) (W.setCell ta (.pointer (some e))) := by
  rw [rls]
  simp only [Sem.run_bind, Tryz.as_parts25a, Tryz.as_parts25, Result.andThen]
  simp [ReflectliteValue.flagAddr, loadVar, isAgg, underlying, Tryz.underlying73, hb, Result.andThen, Tryz.as_direct25, storeVar, Value.cells, storeCells, Addr.add]
  rw [run_store Tryz.prog W ta _ _ (by rfl)]
  simp [ht, hf]
set_option maxHeartbeats 4000000 in
theorem as_hit (e t : Addr) (old : Value) (w : World) (hg : w.cell? ⟨0, 0, none⟩ = some (.iface 128 (.agg #[.pointer (some ⟨7, 27, none⟩)]))) (ht0 : w.cell? t = some old) (hf0 : w.frozen? t = false) :
    Calls Tryz.prog 37 #[.iface 73 (.pointer (some e)), .iface 75 (.pointer (some t))] w fun ev w' => ev = .returned (.bool true) ∧ w' = ((((w.alloc (.cells #[.pointer (some t)] 75)).alloc (.cells #[.pointer (some ⟨7, 75, none⟩), .pointer (some ⟨w.heap.size, 0, none⟩), .int .u64 150] 109)).alloc (.cells #[.pointer (some ⟨7, 75, none⟩), .pointer (some ⟨w.heap.size, 0, none⟩), .int .u64 150] 109)).alloc (.cells #[.pointer (some e)] 73)).setCell t (.pointer (some e)) := by
  have h6 := @run_callFunc_extern Tryz.prog 64 _ (fun args => ReflectliteValue.unpack (args.getD 0 (.tuple #[]))) Tryz.func64 (by kernel_rfl) (by kernel_rfl) (by kernel_rfl) (by kernel_rfl)
  have h7 := @run_callFunc_extern Tryz.prog 65 _ (ReflectliteValue.methodAny (ReflectliteValue.valueError "reflectlite.Value.Type" 0) (fun t _ _ _ => ReflectliteType.toType t)) Tryz.func65 (by kernel_rfl) (by kernel_rfl) (by kernel_rfl) (by kernel_rfl)
  have h8 := @run_callFunc_extern Tryz.prog 66 _ (ReflectliteValue.method (ReflectliteValue.valueError "reflectlite.Value.IsNil" 0) ReflectliteValue.isNil) Tryz.func66 (by kernel_rfl) (by kernel_rfl) (by kernel_rfl) (by kernel_rfl)
  have h27 := @run_callFunc_extern Tryz.prog 142 _ (ReflectliteType.abiMethod fun t => do pure (.int .u8 (← Rtype.kind t))) Tryz.func142 (by kernel_rfl) (by kernel_rfl) (by kernel_rfl) (by kernel_rfl)
  have h37 := @run_callFunc_extern Tryz.prog 155 _ (ReflectliteType.method ReflectliteType.elem) Tryz.func155 (by kernel_rfl) (by kernel_rfl) (by kernel_rfl) (by kernel_rfl)
  have h38 := @run_callFunc_extern Tryz.prog 156 _ (ReflectliteType.relation "Implements" ReflectliteType.implements_) Tryz.func156 (by kernel_rfl) (by kernel_rfl) (by kernel_rfl) (by kernel_rfl)
  have h10 := @run_callFunc_extern Tryz.prog 57 _ ReflectliteType.typeOf Tryz.func57 (by kernel_rfl) (by kernel_rfl) (by kernel_rfl) (by kernel_rfl)
  have h35 := @run_callFunc_extern Tryz.prog 153 _ (ReflectliteType.relation "AssignableTo" ReflectliteType.assignableTo) Tryz.func153 (by kernel_rfl) (by kernel_rfl) (by kernel_rfl) (by kernel_rfl)
  have h11 := @run_callFunc_extern Tryz.prog 93 _ (ReflectliteValue.method (ReflectliteValue.valueError "reflectlite.Value.Elem" 0) ReflectliteValue.elem) Tryz.func93 (by kernel_rfl) (by kernel_rfl) (by kernel_rfl) (by kernel_rfl)
  have h12 := @run_callFunc_extern Tryz.prog 94 _ ReflectliteValue.set Tryz.func94 (by kernel_rfl) (by kernel_rfl) (by kernel_rfl) (by kernel_rfl)
  have tO := Tryz.as_typeOf25
  have mA := Tryz.as_methodAssignableTo
  have a25 := Tryz.as_assignable25
  have v25 := Tryz.as_valueOf25
  have f6 := Tryz.as_valueOf27
  have f7 := Tryz.as_type27
  have mK := Tryz.as_methodKind
  have mE := Tryz.as_methodElem
  have mI := Tryz.as_methodImplements
  have k27 := Tryz.as_kind27
  have k25 := Tryz.as_kind25
  have e27 := Tryz.as_elem27
  have i25 := Tryz.as_implements25
  have n8 := Tryz.as_isNil27 ⟨w.heap.size, 0, none⟩ t ((w.alloc (.cells #[.pointer (some t)] 75)).alloc (.cells #[.pointer (some ⟨7, 75, none⟩), .pointer (some ⟨w.heap.size, 0, none⟩), .int .u64 150] 109)) (by simp)
  have hlt : 0 < w.heap.size := World.block_lt_of_cell? w _ hg
  have hg2 : ((w.alloc (.cells #[.pointer (some t)] 75)).alloc (.cells #[.pointer (some ⟨7, 75, none⟩), .pointer (some ⟨w.heap.size, 0, none⟩), .int .u64 150] 109)).cell? ⟨0, 0, none⟩ = some (.iface 128 (.agg #[.pointer (some ⟨7, 27, none⟩)])) := by
    rw [World.cell?_alloc_lt _ _ ⟨0, 0, none⟩ (by simp), World.cell?_alloc_lt _ _ ⟨0, 0, none⟩ hlt]; exact hg
  have htl : t.block < w.heap.size := by
    rcases Nat.lt_or_ge t.block w.heap.size with h | h
    · exact h
    · simp [World.cell?, Array.getElem?_eq_none h] at ht0
  have el := Tryz.as_elemV27 ⟨w.heap.size, 0, none⟩ t (((w.alloc (.cells #[.pointer (some t)] 75)).alloc (.cells #[.pointer (some ⟨7, 75, none⟩), .pointer (some ⟨w.heap.size, 0, none⟩), .int .u64 150] 109)).alloc (.cells #[.pointer (some ⟨7, 75, none⟩), .pointer (some ⟨w.heap.size, 0, none⟩), .int .u64 150] 109)) (by rw [World.cell?_alloc_lt _ _ ⟨w.heap.size, 0, none⟩ (by simp; omega)]; simp)
  have st := Tryz.as_set25 t ⟨w.heap.size + 1 + 1 + 1, 0, none⟩ e old ((((w.alloc (.cells #[.pointer (some t)] 75)).alloc (.cells #[.pointer (some ⟨7, 75, none⟩), .pointer (some ⟨w.heap.size, 0, none⟩), .int .u64 150] 109)).alloc (.cells #[.pointer (some ⟨7, 75, none⟩), .pointer (some ⟨w.heap.size, 0, none⟩), .int .u64 150] 109)).alloc (.cells #[.pointer (some e)] 73))
    (by rw [World.cell?_alloc_at _ _ _ _ (by simp)]; rfl)
    (by rw [World.cell?_alloc_lt _ _ t (by simp; omega), World.cell?_alloc_lt _ _ t (by simp; omega), World.cell?_alloc_lt _ _ t (by simp; omega), World.cell?_alloc_lt _ _ t htl]; exact ht0)
    (by rw [World.frozen?_alloc_old _ _ t (by simp; omega), World.frozen?_alloc_old _ _ t (by simp; omega), World.frozen?_alloc_old _ _ t (by simp; omega), World.frozen?_alloc_old _ _ t (Nat.ne_of_lt htl)]; exact hf0)
  go_enter Tryz.func37, Tryz.ntmps37
  go_wp2
  refine wp_loop_rounds 1 ?_
  rw [rounds_succ]
  go_wp2
  go_ret
  exact ⟨rfl, rfl⟩
end Go.Proofs.YtkgkmlhljeidhaaGreatDoor
namespace Go.Proofs.YtkgkmlhljeidhaaGreatDoor
open Go.RowKit
def ErrVar (w : World) : Prop := w.cell? ⟨0, 0, none⟩ = some (.iface 128 (.agg #[.pointer (some ⟨7, 27, none⟩)]))
theorem ErrVar.keep {w w' : World} (h : ErrVar w) (hb : Below w.heap.size w w') : ErrVar w' := by
  unfold ErrVar at *
  rw [hb.cell (p := ⟨0, 0, none⟩) (World.block_lt_of_cell? w _ h)]; exact h
theorem kind_nil (w : World) : Calls Tryz.prog 18 #[.nilIface] w fun e w' => e = .returned (.int .i64 0) ∧ w = w' := by
  go_enter Tryz.func18, Tryz.ntmps18
  go_wp2
  go_ret
  exact ⟨rfl, rfl⟩
end Go.Proofs.YtkgkmlhljeidhaaGreatDoor
set_option linter.unusedSimpArgs false
set_option linter.unusedVariables false
namespace Go.Proofs.YtkgkmlhljeidhaaGreatDoor
open Go.RowKit
theorem as_newO (b o : Nat) (w : World) (hg : ErrVar w) :
    Calls Tryz.prog 37 #[.iface 73 (.pointer (some ⟨b, o, none⟩)), .iface 75 (.pointer (some ⟨w.heap.size, 0, none⟩))] (w.alloc (.cells #[.pointer none] 73)) fun e w' =>
      e = .returned (.bool true) ∧ w'.cell? ⟨w.heap.size, 0, none⟩ = some (.pointer (some ⟨b, o, none⟩)) ∧ Below w.heap.size w w' := by
  refine (as_hit ⟨b, o, none⟩ ⟨w.heap.size, 0, none⟩ (.pointer none) _ ?_ ?_ ?_).mono ?_
  · exact ErrVar.keep hg (below_a1 _ _)
  · rw [cell_of_block (heap_alloc_new w _)]; rfl
  · exact free_of_block (heap_alloc_new w _) 0
  · rintro e w' ⟨rfl, rfl⟩
    have hb : Below w.heap.size w (((((w.alloc (.cells #[.pointer none] 73)).alloc (.cells #[.pointer (some ⟨w.heap.size, 0, none⟩)] 75)).alloc (.cells #[.pointer (some ⟨7, 75, none⟩), .pointer (some ⟨(w.alloc (.cells #[.pointer none] 73)).heap.size, 0, none⟩), .int .u64 150] 109)).alloc (.cells #[.pointer (some ⟨7, 75, none⟩), .pointer (some ⟨(w.alloc (.cells #[.pointer none] 73)).heap.size, 0, none⟩), .int .u64 150] 109)).alloc (.cells #[.pointer (some ⟨b, o, none⟩)] 73)) := by
      refine ((((below_a1 _ _).trans ((below_a1 _ _).mono ?_)).trans ((below_a1 _ _).mono ?_)).trans ((below_a1 _ _).mono ?_)).trans ((below_a1 _ _).mono ?_) <;> simp <;> omega
    refine ⟨rfl, ?_, hb.setCell (Nat.le_refl _) _⟩
    generalize hW : (((((w.alloc (.cells #[.pointer none] 73)).alloc (.cells #[.pointer (some ⟨w.heap.size, 0, none⟩)] 75)).alloc (.cells #[.pointer (some ⟨7, 75, none⟩), .pointer (some ⟨(w.alloc (.cells #[.pointer none] 73)).heap.size, 0, none⟩), .int .u64 150] 109)).alloc (.cells #[.pointer (some ⟨7, 75, none⟩), .pointer (some ⟨(w.alloc (.cells #[.pointer none] 73)).heap.size, 0, none⟩), .int .u64 150] 109)).alloc (.cells #[.pointer (some ⟨b, o, none⟩)] 73)) = W
    have hblk : W.heap[w.heap.size]? = some (.cells #[.pointer none] 73 (0, 0)) := by
      rw [← hW]
      refine blk_keep (blk_keep (blk_keep (blk_keep (heap_alloc_new _ _) (below_a1 _ _)) (below_a1 _ _)) (below_a1 _ _)) (below_a1 _ _)
    rw [cell_of_block (setCell_block hblk 0 _)]; rfl
theorem cell_keep {w w' : World} {b i : Nat} {v : Value} (h : w.cell? ⟨b, i, none⟩ = some v) (hb : Below w.heap.size w w') : w'.cell? ⟨b, i, none⟩ = some v := by
  rw [hb.cell (p := ⟨b, i, none⟩) (World.block_lt_of_cell? w _ h)]; exact h
set_option maxHeartbeats 400000 in
theorem kind_O (b o : Nat) (k : Int) (w : World) (hg : ErrVar w) (hb : w.cell? ⟨b, o, none⟩ = some (.int .i64 k)) :
    Calls Tryz.prog 18 #[.iface 73 (.pointer (some ⟨b, o, none⟩))] w fun e w' => e = .returned (.int .i64 k) ∧ Below w.heap.size w w' := by
  have HA := Lib.hid (as_newO b o w hg)
  have HB := Lib.hid hb
  clear hg hb
  go_enter Tryz.func18, Tryz.ntmps18
  go_wp2_with fail
  refine HA.out.mono ?_
  rintro e w1 ⟨rfl, hc, hb1⟩
  have c0 : w1.cell? ⟨b, o, none⟩ = some (.int .i64 k) := cell_keep HB.out hb1
  go_wp2
  go_ret
  exact ⟨rfl, hb1⟩
set_option maxHeartbeats 400000 in
theorem at_O (b o : Nat) (a : Int) (w : World) (hg : ErrVar w) (hb : w.cell? ⟨b, o + 1, none⟩ = some (.int .i64 a)) :
    Calls Tryz.prog 19 #[.iface 73 (.pointer (some ⟨b, o, none⟩))] w fun e w' => e = .returned (.int .i64 a) ∧ Below w.heap.size w w' := by
  have HA := Lib.hid (as_newO b o w hg)
  have HB := Lib.hid hb
  clear hg hb
  go_enter Tryz.func19, Tryz.ntmps19
  go_wp2_with fail
  refine HA.out.mono ?_
  rintro e w1 ⟨rfl, hc, hb1⟩
  have c0 : w1.cell? ⟨b, o + 1, none⟩ = some (.int .i64 a) := cell_keep HB.out hb1
  go_wp2
  go_ret
  exact ⟨rfl, hb1⟩
open Go.Ev
def errG (g : Nat → V) : GV := ⟨g, [(0, 0, .iface 128 (.agg #[.pointer (some ⟨7, 27, none⟩)]))]⟩
def kindP : List V → Objs → Option (V × Objs)
  | [.nili], σ => some (.int .i64 0, σ)
  | [.ifc t (.eptr (.int .i64 k :: _) 0)], σ => if t = 73 then some (.int .i64 k, σ) else none
  | _, _ => none
def atP : List V → Objs → Option (V × Objs)
  | [.ifc t (.eptr (_ :: .int .i64 a :: _) 0)], σ => if t = 73 then some (.int .i64 a, σ) else none
  | _, _ => none
theorem errVar_ex {g : Nat → V} {M : Mem} {ι : Plc} {X : Nat → Prop} {κ : Own} {w : World} {us : List Value} {ρ : List V} {σ : Objs} (h : St M ι X κ w us ρ σ) (hG : GOK (errG g) M ι) : ErrVar w :=
  h.wd.mem _ _ _ (hG.ex _ (List.mem_cons_self ..))
theorem inv_fault {M : Mem} {ι : Plc} {X : Nat → Prop} {κ : Own} {w : World} {us : List Value} {ρ : List V} {σ : Objs} (h : St M ι X κ w us ρ σ) {v : Value} {t : TypeId} {cs : List V} (hr : Rep M ι v (.ifc t (.eptr cs 0))) :
    ∃ b o, v = .iface t (.pointer (some ⟨b, o, none⟩)) ∧ ∀ (i : Nat) k n, cs[i]? = some (.int k n) → w.cell? ⟨b, o + i, none⟩ = some (.int k n) := by
  cases hr with
  | ifc _ u _ hu =>
    obtain ⟨b, base, us', rfl, hrs, hm⟩ := hu.inv_eptr
    refine ⟨b, base, rfl, fun i k n hi => ?_⟩
    obtain ⟨u, hu1, hu2⟩ := hrs.get hi
    rw [hu2.inv_int] at hu1
    exact h.wd.mem _ _ _ (hm i _ hu1)
theorem one_arg {M : Mem} {ι : Plc} {vs : Array Value} {x : V} (h : Reps M ι vs.toList [x]) : ∃ v, vs = #[v] ∧ Rep M ι v x := by
  have hl := h.1
  obtain ⟨v, hv⟩ : ∃ v, vs.toList = [v] := List.length_eq_one_iff.1 (by simpa using hl)
  refine ⟨v, by apply Array.ext'; simpa using hv, ?_⟩
  rw [hv] at h
  exact h.head
theorem kindP_sound (g : Nat → V) : Sound Tryz.prog (errG g) 18 kindP := by
  refine Sound.of_below fun args σ r σ' he => ?_
  have hrun : ∀ vs w, (callFunc 18 vs).run Tryz.prog w = .ok (.enter 18 vs) w := fun vs w => run_callFunc Tryz.func18 rfl (by kernel_rfl) vs
  unfold kindP at he
  split at he
  · cases he
    refine ⟨rfl, rfl, fun M ι X κ w vs h hG => ⟨hrun _ _, _, .int _ _, ?_⟩⟩
    obtain ⟨v, rfl, hv⟩ := one_arg h.rep
    cases hv
    exact (kind_nil w).mono fun e w' ⟨he, hw⟩ => ⟨he, by subst hw; exact Below.refl _ _⟩
  · split at he
    · rename_i t k cs _ ht
      cases he
      subst ht
      refine ⟨rfl, rfl, fun M ι X κ w vs h hG => ⟨hrun _ _, _, .int _ _, ?_⟩⟩
      obtain ⟨v, rfl, hv⟩ := one_arg h.rep
      obtain ⟨b, o, rfl, hc⟩ := inv_fault h hv
      exact kind_O b o _ w (errVar_ex h hG) (hc 0 _ _ rfl)
    · cases he
  · cases he
theorem atP_sound (g : Nat → V) : Sound Tryz.prog (errG g) 19 atP := by
  refine Sound.of_below fun args σ r σ' he => ?_
  have hrun : ∀ vs w, (callFunc 19 vs).run Tryz.prog w = .ok (.enter 19 vs) w := fun vs w => run_callFunc Tryz.func19 rfl (by kernel_rfl) vs
  unfold atP at he
  split at he
  · split at he
    · rename_i t c a cs _ ht
      cases he
      subst ht
      refine ⟨rfl, rfl, fun M ι X κ w vs h hG => ⟨hrun _ _, _, .int _ _, ?_⟩⟩
      obtain ⟨v, rfl, hv⟩ := one_arg h.rep
      obtain ⟨b, o, rfl, hc⟩ := inv_fault h hv
      exact at_O b o _ w (errVar_ex h hG) (hc 1 _ _ rfl)
    · cases he
  · cases he
end Go.Proofs.YtkgkmlhljeidhaaGreatDoor
set_option linter.unusedSimpArgs false
set_option linter.unusedVariables false
namespace Go.Proofs.YtkgkmlhljeidhaaGreatDoor
open Go.RowKit Go.Ev
def kinds : Nat → V → Option (List Int)
  | 0, x => match x with | .nili => some [] | _ => none
  | n + 1, x =>
    match x with
    | .nili => some []
    | .ifc t (.eptr (.int .i64 k :: _ :: x :: _) 0) => if t = 73 then (kinds n x).map (k :: ·) else none
    | _ => none
def isP : List V → Objs → Option (V × Objs)
  | [x, .ifc t (.int .i64 j)], σ => if t = 38 then (kinds 20 x).map fun l => (.bool (decide (j ∈ l)), σ) else none
  | _, _ => none
theorem fc_of {M : Mem} {ι : Plc} {X : Nat → Prop} {κ : Own} {w : World} {us : List Value} {ρ : List V} {σ : Objs} (h : St M ι X κ w us ρ σ) : ∀ (n : Nat) (v : Value) (x : V) (l : List Int), Rep M ι v x → kinds n x = some l → FC w v l := by
  intro n
  induction n with
  | zero =>
    intro v x l hr hk
    simp only [kinds] at hk
    split at hk
    · cases hr; cases hk; exact .nil
    · cases hk
  | succ n ih =>
    intro v x l hr hk
    simp only [kinds] at hk
    split at hk
    · cases hr; cases hk; exact .nil
    · split at hk
      · rename_i ht
        subst ht
        rw [Option.map_eq_some_iff] at hk
        obtain ⟨l', hl', rfl⟩ := hk
        cases hr with
        | ifc _ u _ hu =>
          obtain ⟨b, base, us', rfl, hrs, hm⟩ := hu.inv_eptr
          obtain ⟨u0, h0, h0'⟩ := hrs.get (i := 0) rfl
          obtain ⟨u2, h2, h2'⟩ := hrs.get (i := 2) rfl
          rw [h0'.inv_int] at h0
          exact .cons b base _ u2 l' (h.wd.mem _ _ _ (hm 0 _ h0)) (h.wd.mem _ _ _ (hm 2 _ h2)) (ih u2 _ l' h2' hl')
      · cases hk
    · cases hk
theorem two_args {M : Mem} {ι : Plc} {vs : Array Value} {x y : V} (h : Reps M ι vs.toList [x, y]) : ∃ v u, vs = #[v, u] ∧ Rep M ι v x ∧ Rep M ι u y := by
  have hl := h.1
  obtain ⟨v, u, hv⟩ : ∃ v u, vs.toList = [v, u] := by
    match hq : vs.toList with
    | [] => rw [hq] at hl; cases hl
    | [v] => rw [hq] at hl; cases hl
    | [v, u] => exact ⟨v, u, rfl⟩
    | _ :: _ :: _ :: _ => rw [hq] at hl; simp at hl
  rw [hv] at h
  exact ⟨v, u, by apply Array.ext'; simpa using hv, h.head, h.tail.head⟩
theorem isP_sound (G : GV) : Sound Tryz.prog G 35 isP := by
  refine Sound.of_below fun args σ r σ' he => ?_
  have hrun : ∀ vs w, (callFunc 35 vs).run Tryz.prog w = .ok (.enter 35 vs) w := fun vs w => run_callFunc Tryz.func35 rfl (by kernel_rfl) vs
  unfold isP at he
  split at he
  · split at he
    · rename_i x t j ht
      subst ht
      rw [Option.map_eq_some_iff] at he
      obtain ⟨l, hl, he⟩ := he
      cases he
      refine ⟨rfl, rfl, fun M ι X κ w vs h hG => ⟨hrun _ _, _, .bool _, ?_⟩⟩
      obtain ⟨v, u, rfl, hv, hu⟩ := two_args h.rep
      have hc := fc_of h 20 v x l hv hl
      cases hu with
      | ifc _ u0 _ hu0 =>
        rw [hu0.inv_int]
        cases hc with
        | nil => exact (is_nil j w).mono fun e w' ⟨he, hw⟩ => ⟨by rw [he]; simp, by subst hw; exact Below.refl _ _⟩
        | cons b o k E l' h1 h2 h3 => exact (is_fault j b o _ (.cons b o k E l' h1 h2 h3)).mono fun e w' ⟨he, hw⟩ => ⟨he, by subst hw; exact Below.refl _ _⟩
    · cases he
  · cases he
end Go.Proofs.YtkgkmlhljeidhaaGreatDoor
set_option linter.unusedSimpArgs false
set_option linter.unusedVariables false
namespace Go.Ev
open Go
attribute [congr] bd_congr br_congr gd_congr
attribute [congr] ite_congr
attribute [go_sem] bd_some bd_none br_bool
theorem pu_some {v : V} : pu (some v) = some v.ng := rfl
theorem pu_none : pu none = none := rfl
theorem gdv_b {c : Bool} {x : Option V} : gdv (.bool c) true x = if c = true then x else some .undef := by cases c <;> rfl
theorem gdv_n {c : Bool} {x : Option V} : gdv (.bool c) false x = if c = true then some .undef else x := by cases c <;> rfl
theorem gdv_u {t : Bool} {x : Option V} : gdv .undef t x = some .undef := rfl
theorem gdp_b {c : Bool} {x : Ro} {σ : Objs} : gdp (.bool c) true x σ = if c = true then x else some (.undef, σ) := by cases c <;> rfl
theorem gdp_n {c : Bool} {x : Ro} {σ : Objs} : gdp (.bool c) false x σ = if c = true then some (.undef, σ) else x := by cases c <;> rfl
theorem gdp_u {t : Bool} {x : Ro} {σ : Objs} : gdp .undef t x σ = some (.undef, σ) := rfl
theorem gd_b {c : Bool} {x y : Ro} : gd (.bool c) true x y = if c = true then x else y := by cases c <;> rfl
theorem gd_n {c : Bool} {x y : Ro} : gd (.bool c) false x y = if c = true then y else x := by cases c <;> rfl
theorem gd_u {t : Bool} {x y : Ro} : gd .undef t x y = y := rfl
section
variable {p : Prop} [Decidable p]
theorem ite_some {α : Type} {a b : α} : (if p then some a else some b) = some (if p then a else b) := by split <;> rfl
theorem ite_pair {α β : Type} {a b : α} {s : β} : (if p then (a, s) else (b, s)) = (if p then a else b, s) := by split <;> rfl
theorem ite_and {d : Bool} : (if p then V.bool d else V.bool false) = V.bool (decide p && d) := by by_cases h : p <;> simp [h]
theorem ite_or {d : Bool} : (if p then V.bool true else V.bool d) = V.bool (decide p || d) := by by_cases h : p <;> simp [h]
theorem ite_nogr {a b : V} : (if p then a else b).ng = if p then a.ng else b.ng := by split <;> rfl
theorem ite_cf {c : Bool} {α : Type} {x y : α} : (if c = false then x else y) = if c = true then y else x := by cases c <;> rfl
theorem ite_np {α : Type} {x y : α} : (if ¬ p then x else y) = if p then y else x := by by_cases h : p <;> simp [h]
theorem gdv_ite {a b : V} {t : Bool} {x : Option V} : gdv (if p then a else b) t x = if p then gdv a t x else gdv b t x := by split <;> rfl
theorem gdp_ite {a b : V} {t : Bool} {x : Ro} {σ : Objs} : gdp (if p then a else b) t x σ = if p then gdp a t x σ else gdp b t x σ := by split <;> rfl
theorem gd_ite {a b : V} {t : Bool} {x y : Ro} : gd (if p then a else b) t x y = if p then gd a t x y else gd b t x y := by split <;> rfl
theorem bd_ite {α : Type} {x y : Option α} {f : α → Ro} : bd (if p then x else y) f = if p then bd x f else bd y f := by split <;> rfl
theorem pu_ite {x y : Option V} : pu (if p then x else y) = if p then pu x else pu y := by split <;> rfl
theorem ite_int {k : IntKind} {a b : Int} : (if p then V.int k a else V.int k b) = V.int k (if p then a else b) := by split <;> rfl
theorem ite_str {a b : List UInt8} : (if p then V.str a else V.str b) = V.str (if p then a else b) := by split <;> rfl
theorem iteT {α : Type} {a b : α} : (if True then a else b) = a := rfl
theorem iteF {α : Type} {a b : α} : (if False then a else b) = b := rfl
end
theorem gdv_tt {x : Option V} : gdv (.bool true) true x = x := rfl
theorem gdv_ff {x : Option V} : gdv (.bool false) false x = x := rfl
theorem gdv_tf {x : Option V} : gdv (.bool true) false x = some .undef := rfl
theorem gdv_ft {x : Option V} : gdv (.bool false) true x = some .undef := rfl
theorem gdp_tt {x : Ro} {σ : Objs} : gdp (.bool true) true x σ = x := rfl
theorem gdp_ff {x : Ro} {σ : Objs} : gdp (.bool false) false x σ = x := rfl
theorem gdp_tf {x : Ro} {σ : Objs} : gdp (.bool true) false x σ = some (.undef, σ) := rfl
theorem gdp_ft {x : Ro} {σ : Objs} : gdp (.bool false) true x σ = some (.undef, σ) := rfl
theorem gd_tt {x y : Ro} : gd (.bool true) true x y = x := rfl
theorem gd_ff {x y : Ro} : gd (.bool false) false x y = x := rfl
theorem gd_tf {x y : Ro} : gd (.bool true) false x y = y := rfl
theorem gd_ft {x y : Ro} : gd (.bool false) true x y = y := rfl
attribute [go_sem high] gdv_tt gdv_ff gdv_tf gdv_ft gdp_tt gdp_ff gdp_tf gdp_ft gd_tt gd_ff gd_tf gd_ft br_t br_f
attribute [go_sem] pu_some pu_none gdv_b gdv_n gdv_u gdp_b gdp_n gdp_u gd_b gd_n gd_u gdv_ite gdp_ite gd_ite Bool.decide_eq_true ite_int ite_str ite_cf ite_np ite_some ite_pair ite_and ite_or ite_nogr bd_ite pu_ite iteT iteF decide_eq_true_eq decide_eq_false_iff_not Bool.and_eq_true Bool.or_eq_true Bool.not_eq_true' Bool.not_eq_true Bool.true_eq_false Bool.false_eq_true if_true if_false not_true_eq_false not_false_eq_true and_true true_and and_false false_and or_true true_or or_false false_or Bool.decide_and Bool.decide_or decide_true decide_false
theorem n_nilm : V.nilm.ng = .nilm := rfl
theorem n_nilf : V.nilf.ng = .nilf := rfl
theorem n_mp {o : Nat} : (V.mp o).ng = .mp o := rfl
attribute [go_sem] n_int n_bool n_str n_undef n_any n_nilp n_ptr n_eptr n_nils n_sl n_hs n_agg n_tup n_ifc n_nili n_fn n_nilm n_nilf n_mp Mi_call
section
variable {k : IntKind} {e : EqK} {a b : Int} {s t : List UInt8}
theorem b_add : eB .add e (.int k a) (.int k b) = some (.int k (k.wrap (a + b))) := by simp [eB]
theorem b_sub : eB .sub e (.int k a) (.int k b) = some (.int k (k.wrap (a - b))) := by simp [eB]
theorem b_mul : eB .mul e (.int k a) (.int k b) = some (.int k (k.wrap (a * b))) := by simp [eB]
theorem b_quo (h : ¬ b = 0) : eB .quo e (.int k a) (.int k b) = some (.int k (k.wrap (a.tdiv b))) := by simp [eB, h]
theorem b_rem (h : ¬ b = 0) : eB .rem e (.int k a) (.int k b) = some (.int k (a.tmod b)) := by simp [eB, h]
theorem b_eql : eB .eql e (.int k a) (.int k b) = some (.bool (decide (a = b))) := by simp [eB]; by_cases h : a = b <;> simp [h]
theorem b_neq : eB .neq e (.int k a) (.int k b) = some (.bool (decide (¬ a = b))) := by simp [eB]; by_cases h : a = b <;> simp [h]
theorem b_lss : eB .lss e (.int k a) (.int k b) = some (.bool (decide (a < b))) := by simp [eB]
theorem b_leq : eB .leq e (.int k a) (.int k b) = some (.bool (decide (a ≤ b))) := by simp [eB]
theorem b_gtr : eB .gtr e (.int k a) (.int k b) = some (.bool (decide (b < a))) := by simp [eB]
theorem b_geq : eB .geq e (.int k a) (.int k b) = some (.bool (decide (b ≤ a))) := by simp [eB]
theorem bs_add (h : s.length + t.length ≤ strMax) : eB .add e (.str s) (.str t) = some (.str (s ++ t)) := by simp [eB, h]
theorem bs_eql : eB .eql e (.str s) (.str t) = some (.bool (decide (s = t))) := by simp [eB]
theorem bs_neq : eB .neq e (.str s) (.str t) = some (.bool (decide (¬ s = t))) := by simp [eB]
theorem bs_lss : eB .lss e (.str s) (.str t) = some (.bool (bytesLess s t)) := by simp [eB]
theorem bb_eql {x y : Bool} : eB .eql .bool (.bool x) (.bool y) = some (.bool (decide (x = y))) := by cases x <;> cases y <;> rfl
theorem bb_neq {x y : Bool} : eB .neq .bool (.bool x) (.bool y) = some (.bool (decide (¬ x = y))) := by cases x <;> cases y <;> rfl
theorem u_neg : evUn .neg (.int k a) = some (.int k (k.wrap (0 - a))) := rfl
theorem u_not {x : Bool} : evUn .not (.bool x) = some (.bool !x) := rfl
theorem c_toInt {σ : Objs} {j : IntKind} : eC σ (.toInt k) (.int j a) = some (.int k (k.wrap a)) := rfl
theorem c_same {σ : Objs} : eC σ .same (.str s) = some (.str s) := rfl
theorem c_strBytes {σ : Objs} : eC σ .strBytes (.str s) = some (.sl (ofBytes s) (.gr 1)) := rfl
theorem len_str : evLenS (.str s) = some (.int .i64 s.length) := rfl
theorem len_nils : evLen .nils = some (.int .i64 0) := rfl
theorem len_sl {xs : List V} {c : Cap} : evLen (.sl xs c) = some (.int .i64 xs.length) := rfl
theorem len_hs {o off len sz : Nat} {ag : Bool} : evLen (.hs o off len sz ag) = some (.int .i64 len) := rfl
theorem pick_b {x : Bool} {v w : V} : pV (.bool x) v w = some (if x then v else w) := rfl
theorem pick_t {v w : V} : pV (.bool true) v w = some v := rfl
theorem pick_f {v w : V} : pV (.bool false) v w = some w := rfl
theorem idx_str (h : 0 ≤ a ∧ a < s.length) : evIdx (.int k a) (.str s) = some (.int .u8 (s.getD a.toNat 0).toNat) := by
  have h3 : a.toNat < s.length := by omega
  simp only [evIdx, index, if_pos h, Option.bind_eq_bind, Option.bind_some, List.getElem?_eq_getElem h3, List.getD_eq_getElem?_getD, Option.getD_some]
theorem extr_tup {vs : List V} {i : Nat} : eX i (.tup vs) = vs[i]? := rfl
theorem faddr_ptr {o i off : Nat} : eF off (.ptr o i) = some (.ptr o (i + off)) := rfl
theorem faddr_eptr {cs : List V} {i off : Nat} : eF off (.eptr cs i) = some (.eptr cs (i + off)) := rfl
theorem nilc_ptr {o i : Nat} : evNilc (.ptr o i) = some (.ptr o i) := rfl
theorem nilc_eptr {cs : List V} {i : Nat} : evNilc (.eptr cs i) = some (.eptr cs i) := rfl
theorem load_ptr {σ : Objs} {ag : Bool} {sz o off : Nat} : eL σ ag sz (.ptr o off) = (Objs.get σ o).bind fun cs => part ag sz cs off := rfl
theorem load_eptr {σ : Objs} {ag : Bool} {sz off : Nat} {cs : List V} : eL σ ag sz (.eptr cs off) = part ag sz cs off := rfl
theorem field_agg {ag : Bool} {sz off : Nat} {cs : List V} : evField ag off sz (.agg cs) = part ag sz cs off := rfl
theorem part_0 {c : V} {cs : List V} : part false 1 (c :: cs) 0 = some c.ng := rfl
theorem part_s {c : V} {cs : List V} {n : Nat} : part false 1 (c :: cs) (n + 1) = part false 1 cs n := rfl
theorem part_ag {cs : List V} {sz off : Nat} (h : off + sz ≤ cs.length) : part true sz cs off = some (.agg (((cs.drop off).take sz).map V.ng)) := by simp [part, h]
theorem one_int {keep : Bool} : oK keep (.int k a) = some (.int k a) := by cases keep <;> rfl
theorem one_bool {keep x : Bool} : oK keep (.bool x) = some (.bool x) := by cases keep <;> rfl
theorem one_str {keep : Bool} : oK keep (.str s) = some (.str s) := by cases keep <;> rfl
theorem one_agg {keep : Bool} {cs : List V} : oK keep (.agg cs) = some (.agg cs) := by cases keep <;> rfl
theorem one_ifc {keep : Bool} {t : TypeId} {x : V} : oK keep (.ifc t x) = some (.ifc t x) := by cases keep <;> rfl
theorem one_nili {keep : Bool} : oK keep .nili = some .nili := by cases keep <;> rfl
theorem one_nils {keep : Bool} : oK keep .nils = some .nils := by cases keep <;> rfl
theorem one_ptr {keep : Bool} {o i : Nat} : oK keep (.ptr o i) = some (.ptr o i) := by cases keep <;> rfl
theorem one_eptr {keep : Bool} {cs : List V} {i : Nat} : oK keep (.eptr cs i) = some (.eptr cs i) := by cases keep <;> rfl
theorem one_sl {xs : List V} {c : Cap} : oK false (.sl xs c) = some (.sl xs .no) := rfl
theorem one_slk {xs : List V} {c : Cap} : oK true (.sl xs c) = some (.sl xs c) := rfl
theorem one_hs {keep : Bool} {o off len sz : Nat} {ag : Bool} : oK keep (.hs o off len sz ag) = some (.hs o off len sz ag) := by cases keep <;> rfl
end
attribute [go_sem] b_add b_sub b_mul b_quo b_rem b_eql b_neq b_lss b_leq b_gtr b_geq bs_add bs_eql bs_neq bs_lss bb_eql bb_neq u_neg u_not c_toInt c_same c_strBytes len_str len_nils len_sl len_hs pick_b idx_str extr_tup faddr_ptr faddr_eptr nilc_ptr nilc_eptr load_ptr load_eptr field_agg part_0 part_s part_ag one_int one_bool one_str one_agg one_ifc one_nili one_nils one_ptr one_eptr one_sl one_slk one_hs
attribute [go_sem high] pick_t pick_f
def O.rb (n : Nat) : O → Bool
  | .cells cs => V.rbs n cs
  | .mp es => V.rbs n (es.map Prod.fst) && V.rbs n (es.map Prod.snd)
def Wf (σ : Objs) : Prop := σ.all (O.rb σ.length) = true
theorem fzO_rb {n : Nat} {σ : Objs} {o : O} (h : o.rb n = true) : fzO n σ o = some o := by
  cases o with
  | cells cs => simp only [O.rb] at h; simp [fzO, h]
  | mp es => simp only [O.rb] at h; simp [fzO, h]
theorem mapM_fzO {n : Nat} {σ : Objs} : ∀ {l : List O}, l.all (O.rb n) = true → l.mapM (fzO n σ) = some l
  | [], _ => by simp
  | o :: l, h => by
    simp only [List.all_cons, Bool.and_eq_true] at h
    simp [List.mapM_cons, fzO_rb h.1, mapM_fzO h.2]
theorem cut_wf {σ : Objs} (h : Wf σ) : cuO σ.length σ = some σ := by
  unfold cuO
  rw [List.take_length]
  exact mapM_fzO h
theorem cut_app {σ τ : Objs} (h : Wf σ) : cuO σ.length (σ ++ τ) = some σ := by
  unfold cuO
  rw [List.take_left']
  · exact mapM_fzO h
  · rfl
theorem wf_nil : Wf [] := rfl
theorem end_wf {σ : Objs} {r : V} (h : Wf σ) (hr : r.rb σ.length = true) : nK σ.length σ r = some (r, σ) := by
  unfold nK
  rw [cut_wf h, bd_some, fz_rb hr, bd_some]
theorem end_app {σ τ : Objs} {r : V} (h : Wf σ) (hr : r.rb σ.length = true) : nK σ.length (σ ++ τ) r = some (r, σ) := by
  unfold nK
  rw [cut_app h, bd_some, fz_rb hr, bd_some]
theorem end_0 {r : V} (hr : r.rb 0 = true) : nK 0 [] r = some (r, []) := end_wf (σ := []) wf_nil hr
theorem rb_int {n : Nat} {k : IntKind} {a : Int} : V.rb n (.int k a) = true := rfl
theorem rb_bool {n : Nat} {b : Bool} : V.rb n (.bool b) = true := rfl
theorem rb_str {n : Nat} {s : List UInt8} : V.rb n (.str s) = true := rfl
theorem rb_nili {n : Nat} : V.rb n .nili = true := rfl
theorem rb_nils {n : Nat} : V.rb n .nils = true := rfl
theorem rb_nilp {n : Nat} : V.rb n .nilp = true := rfl
theorem rb_any {n : Nat} : V.rb n .any = true := rfl
theorem rb_undef {n : Nat} : V.rb n .undef = true := rfl
theorem rb_ptr {n o i : Nat} : V.rb n (.ptr o i) = decide (o < n) := rfl
theorem rb_hs {n o off len sz : Nat} {ag : Bool} : V.rb n (.hs o off len sz ag) = decide (o < n) := rfl
theorem rb_agg {n : Nat} {cs : List V} : V.rb n (.agg cs) = V.rbs n cs := rfl
theorem rb_tup {n : Nat} {cs : List V} : V.rb n (.tup cs) = V.rbs n cs := rfl
theorem rb_sl {n : Nat} {cs : List V} {c : Cap} : V.rb n (.sl cs c) = V.rbs n cs := rfl
theorem rb_eptr {n i : Nat} {cs : List V} : V.rb n (.eptr cs i) = V.rbs n cs := rfl
theorem rb_ifc {n : Nat} {t : TypeId} {x : V} : V.rb n (.ifc t x) = V.rb n x := rfl
theorem rbs_nil {n : Nat} : V.rbs n [] = true := rfl
theorem rbs_cons {n : Nat} {x : V} {xs : List V} : V.rbs n (x :: xs) = (V.rb n x && V.rbs n xs) := rfl
theorem rbs_map {α : Type} {n : Nat} {f : α → V} (h : ∀ x, V.rb n (f x) = true) : ∀ {l : List α}, V.rbs n (l.map f) = true
  | [] => rfl
  | x :: l => by rw [List.map_cons, rbs_cons, h, rbs_map h]; rfl
attribute [go_sem] cut_wf cut_app end_wf end_app end_0 rb_int rb_bool rb_str rb_nili rb_nils rb_nilp rb_any rb_undef rb_ptr rb_hs rb_agg rb_tup rb_sl rb_eptr rb_ifc rbs_nil rbs_cons rbs_bytes fz_int fz_bool fz_str fz_nilp fz_nils fz_nili fz_nilf fz_undef fz_any fz_bytes fz_rb
theorem w64 {x : Int} (h : -9223372036854775808 ≤ x ∧ x ≤ 9223372036854775807) : IntKind.i64.wrap x = x := by simp only [IntKind.wrap_i64]; omega
theorem w8 {x : Int} (h : 0 ≤ x ∧ x ≤ 255) : IntKind.u8.wrap x = x := by simp only [IntKind.wrap_u8]; omega
theorem w32 {x : Int} (h : -2147483648 ≤ x ∧ x ≤ 2147483647) : IntKind.i32.wrap x = x := by simp only [IntKind.wrap_i32]; omega
attribute [go_sem] List.getD_cons_zero List.getD_cons_succ Option.bind_some Option.bind_none Bool.and_true Bool.true_and Bool.not_true Bool.not_false Bool.false_or Bool.or_false Bool.true_or Bool.or_true Bool.false_and Bool.and_false
theorem get_new {σ : Objs} {cs : List V} : Objs.get (σ ++ [.cells cs]) σ.length = some cs := by simp [Objs.get]
theorem mapM_fz {n d : Nat} {σ : Objs} : ∀ {cs : List V}, V.rbs n cs = true → cs.mapM (fz n σ d) = some cs
  | [], _ => by simp
  | c :: cs, h => by
    rw [rbs_cons, Bool.and_eq_true] at h
    simp [List.mapM_cons, fz_rb h.1, mapM_fz h.2]
theorem fz_newp {σ : Objs} {cs : List V} {d off : Nat} (h : V.rbs σ.length cs = true) : fz σ.length (σ ++ [.cells cs]) (d + 1) (.ptr σ.length off) = some (.eptr cs off) := by
  simp [fz, rb_ptr, get_new, mapM_fz h]
theorem fz_box {σ : Objs} {cs : List V} {t : TypeId} {off : Nat} (h : V.rbs σ.length cs = true) : fz σ.length (σ ++ [.cells cs]) fzD (.ifc t (.ptr σ.length off)) = some (.ifc t (.eptr cs off)) := by
  unfold fzD
  rw [show (40 : Nat) = 39 + 1 from rfl]
  unfold fz
  simp only [rb_ifc, rb_ptr, Nat.lt_irrefl, decide_false, Bool.false_eq_true, if_false, fz_newp h]
  rfl
theorem end_box {σ : Objs} {cs : List V} {t : TypeId} {off : Nat} (hσ : Wf σ) (h : V.rbs σ.length cs = true) : nK σ.length (σ ++ [.cells cs]) (.ifc t (.ptr σ.length off)) = some (.ifc t (.eptr cs off), σ) := by
  unfold nK
  rw [cut_app hσ, bd_some, fz_box h, bd_some]
theorem box_eq {σ : Objs} {x : V} : boxV σ x = if okCells x.cells = true then some (.ptr σ.length 0, σ ++ [.cells (x.cells.map V.ng)]) else none := by unfold boxV; rfl
theorem cells_agg {cs : List V} : (V.agg cs).cells = cs := rfl
theorem cells_int {k : IntKind} {a : Int} : (V.int k a).cells = [.int k a] := rfl
theorem cells_bool {b : Bool} : (V.bool b).cells = [.bool b] := rfl
theorem cells_str {s : List UInt8} : (V.str s).cells = [.str s] := rfl
theorem cells_nili : V.nili.cells = [.nili] := rfl
theorem cells_nils : V.nils.cells = [.nils] := rfl
theorem cells_sl {xs : List V} {c : Cap} : (V.sl xs c).cells = [.sl xs c] := rfl
theorem cells_ifc {t : TypeId} {x : V} : (V.ifc t x).cells = [.ifc t x] := rfl
theorem cells_ptr {o i : Nat} : (V.ptr o i).cells = [.ptr o i] := rfl
theorem cells_eptr {cs : List V} {i : Nat} : (V.eptr cs i).cells = [.eptr cs i] := rfl
theorem okc_nil : okCells [] = true := rfl
theorem okc_cons {x : V} {xs : List V} : okCells (x :: xs) = (V.one x && okCells xs) := rfl
theorem one_int' {k : IntKind} {a : Int} : V.one (.int k a) = true := rfl
theorem one_bool' {b : Bool} : V.one (.bool b) = true := rfl
theorem one_str' {s : List UInt8} : V.one (.str s) = true := rfl
theorem one_nili' : V.one .nili = true := rfl
theorem one_nils' : V.one .nils = true := rfl
theorem one_nilp' : V.one .nilp = true := rfl
theorem one_sl' {xs : List V} {c : Cap} : V.one (.sl xs c) = true := rfl
theorem one_ifc' {t : TypeId} {x : V} : V.one (.ifc t x) = true := rfl
theorem one_ptr' {o i : Nat} : V.one (.ptr o i) = true := rfl
theorem one_eptr' {cs : List V} {i : Nat} : V.one (.eptr cs i) = true := rfl
attribute [go_sem] get_new end_box box_eq cells_agg cells_int cells_bool cells_str cells_nili cells_nils cells_sl cells_ifc cells_ptr cells_eptr okc_nil okc_cons one_int' one_bool' one_str' one_nili' one_nils' one_nilp' one_sl' one_ifc' one_ptr' one_eptr' List.map_cons List.map_nil List.drop_succ_cons List.drop_zero List.take_succ_cons List.take_zero List.take_nil List.drop_nil List.length_cons List.length_nil Nat.reduceAdd Nat.reduceLeDiff Nat.reduceLT Nat.zero_add Nat.add_zero
theorem build_eq {z : List V} {ps : List (Nat × Nat × V)} : buildV z ps = (lay z ps).map V.agg := rfl
theorem lay_nil {z : List V} : lay z [] = some z := rfl
theorem lay_cons {z : List V} {off sz : Nat} {x : V} {r : List (Nat × Nat × V)} (h1 : x.cells.length = sz) (h2 : off + sz ≤ z.length) (h3 : okCells x.cells = true) : lay z ((off, sz, x) :: r) = lay (putAt z off (x.cells.map V.ng)) r := by
  simp [lay, h1, h2, h3]
theorem putAt_nil {z : List V} {n : Nat} : putAt z n [] = z := by cases z <;> cases n <;> rfl
theorem putAt_0 {c x : V} {cs xs : List V} : putAt (c :: cs) 0 (x :: xs) = x :: putAt cs 0 xs := rfl
theorem putAt_s {c x : V} {cs xs : List V} {n : Nat} : putAt (c :: cs) (n + 1) (x :: xs) = c :: putAt cs n (x :: xs) := rfl
theorem omap_some {α β : Type} {a : α} {f : α → β} : (some a).map f = some (f a) := rfl
attribute [go_sem] build_eq lay_nil lay_cons putAt_nil putAt_0 putAt_s omap_some
theorem wf_nil' : Wf [] = True := by simp [Wf]
theorem wf_one {cs : List V} : Wf [.cells cs] = (V.rbs 1 cs = true) := by simp [Wf, O.rb]
theorem cutO_0 {σ : Objs} : cuO 0 σ = some [] := rfl
theorem end_z {σ : Objs} {r : V} (hr : r.rb 0 = true) : nK 0 σ r = some (r, []) := by
  unfold nK
  rw [cutO_0, bd_some, fz_rb hr, bd_some]
theorem end_box0 {cs : List V} {t : TypeId} {off : Nat} (h : V.rbs 0 cs = true) : nK 0 [.cells cs] (.ifc t (.ptr 0 off)) = some (.ifc t (.eptr cs off), []) := end_box (σ := []) wf_nil h
theorem cut_one {cs : List V} (h : V.rbs 1 cs = true) : cuO 1 [.cells cs] = some [.cells cs] := cut_wf (σ := [.cells cs]) (by rw [wf_one]; exact h)
theorem cut_one' {cs : List V} {τ : Objs} (h : V.rbs 1 cs = true) : cuO 1 (.cells cs :: τ) = some [.cells cs] := cut_app (σ := [.cells cs]) (τ := τ) (by rw [wf_one]; exact h)
theorem end_one {cs : List V} {r : V} (h : V.rbs 1 cs = true) (hr : r.rb 1 = true) : nK 1 [.cells cs] r = some (r, [.cells cs]) := end_wf (σ := [.cells cs]) (by rw [wf_one]; exact h) hr
theorem end_one' {cs : List V} {τ : Objs} {r : V} (h : V.rbs 1 cs = true) (hr : r.rb 1 = true) : nK 1 (.cells cs :: τ) r = some (r, [.cells cs]) := end_app (σ := [.cells cs]) (τ := τ) (by rw [wf_one]; exact h) hr
theorem end_box1 {cs ds : List V} {t : TypeId} {off : Nat} (h : V.rbs 1 cs = true) (hd : V.rbs 1 ds = true) : nK 1 [.cells cs, .cells ds] (.ifc t (.ptr 1 off)) = some (.ifc t (.eptr ds off), [.cells cs]) := end_box (σ := [.cells cs]) (by rw [wf_one]; exact h) hd
theorem get1 {O : O} {cs : List V} {τ : Objs} : Objs.get (O :: .cells cs :: τ) 1 = some cs := rfl
theorem cutS_lo {k : IntKind} {a : Int} {s : List UInt8} (h : 0 ≤ a ∧ a ≤ s.length) : evCutS (.str s) (some (.int k a)) none = some (.str (s.drop a.toNat)) := by
  have hb : bound (.int k a) s.length = some a.toNat := by simp [bound, h]
  have h3 : ((s.drop a.toNat).take (s.length - a.toNat)) = s.drop a.toNat := by rw [List.take_of_length_le]; simp
  simp [evCutS, bounds, hb, h3]
theorem cutS_hi {k : IntKind} {a : Int} {s : List UInt8} (h : 0 ≤ a ∧ a ≤ s.length) : evCutS (.str s) none (some (.int k a)) = some (.str (s.take a.toNat)) := by
  have hb : bound (.int k a) s.length = some a.toNat := by simp [bound, h]
  simp [evCutS, bounds, hb]
attribute [go_sem] wf_nil' wf_one cutO_0 end_z end_box0 cut_one cut_one' end_one end_one' end_box1 get0 get1 cutS_lo cutS_hi List.nil_append List.cons_append
theorem iP {p : Prop} [Decidable p] {α : Type} {a b : α} (h : p) : (if p then a else b) = a := if_pos h
theorem iN {p : Prop} [Decidable p] {α : Type} {a b : α} (h : ¬ p) : (if p then a else b) = b := if_neg h
attribute [go_sem] Int.reduceToNat Int.toNat_natCast Int.toNat_zero Int.reduceAdd Int.reduceSub Int.reduceMul Int.reduceNeg Int.reduceLT Int.reduceLE Nat.reduceSub Nat.reduceMul
theorem iaddr_bytes {k : IntKind} {i : Int} {s : List UInt8} {c : Cap} (h : 0 ≤ i ∧ i < s.length) : eI 1 (.int k i) (.sl (ofBytes s) c) = some (.eptr [.int .u8 (s.getD i.toNat 0).toNat] 0) := by
  have h3 : i.toNat < s.length := by omega
  have h4 : (ofBytes s).length = s.length := by simp [ofBytes]
  have h5 : (ofBytes s)[i.toNat]? = some (.int .u8 (s.getD i.toNat 0).toNat) := by simp [ofBytes, h3]
  simp only [eI, index, h4, if_pos h, Option.bind_eq_bind, Option.bind_some, h5]
  rfl
theorem len_bytes {s : List UInt8} : (ofBytes s).length = s.length := by simp [ofBytes]
theorem getD_mid {α : Type} {p r : List α} {b x : α} : (p ++ b :: r).getD p.length x = b := by simp
attribute [go_sem] iaddr_bytes len_bytes getD_mid
attribute [go_sem] reduceCtorEq List.getElem?_cons_zero List.getElem?_cons_succ List.length_append
theorem tmod_nn {a b : Int} (h : 0 ≤ a ∧ 0 ≤ b) : a.tmod b = a % b := Int.tmod_eq_emod_of_nonneg h.1
theorem tdiv_nn {a b : Int} (h : 0 ≤ a ∧ 0 ≤ b) : a.tdiv b = a / b := Int.tdiv_eq_ediv_of_nonneg h.1
theorem agOk_int {k : IntKind} {a : Int} : agOk false (.int k a) = true := rfl
theorem agOk_str {s : List UInt8} : agOk false (.str s) = true := rfl
theorem agOk_bool {b : Bool} : agOk false (.bool b) = true := rfl
theorem agOk_agg {cs : List V} : agOk true (.agg cs) = true := rfl
theorem buildF_eq {ag : Bool} {sz len : Nat} {z : V} {ps : List (Nat × V)} : buildFV ag sz len z ps = (laySl sz (List.replicate len z) ps).bind fun xs => if okRow ag sz xs = true then some (.sl xs .fx) else none := rfl
theorem laySl_nil {sz : Nat} {z : List V} : laySl sz z [] = some z := rfl
theorem laySl_cons {sz i : Nat} {z : List V} {x : V} {r : List (Nat × V)} (h1 : x.cells.length = sz) (h2 : i < z.length) (h3 : okCells x.cells = true) : laySl sz z ((i, x) :: r) = laySl sz (z.set i x.ng) r := by simp [laySl, h1, h2, h3]
theorem okRow_nil {ag : Bool} {sz : Nat} : okRow ag sz [] = true := rfl
theorem okRow_cons {ag : Bool} {sz : Nat} {y : V} {ys : List V} : okRow ag sz (y :: ys) = (decide (y.cells.length = sz) && okCells y.cells && agOk ag y && okRow ag sz ys) := rfl
theorem bytesStr_sl {σ : Objs} {xs : List V} {c : Cap} : eC σ .bytesStr (.sl xs c) = (bytesOf xs).map V.str := rfl
theorem bytesOf_nil : bytesOf [] = some [] := rfl
theorem bytesOf_cons {n : Int} {xs : List V} : bytesOf (.int .u8 n :: xs) = (bytesOf xs).map fun bs => UInt8.ofNat n.toNat :: bs := by simp only [bytesOf]; cases bytesOf xs <;> rfl
theorem neq_nili : eB .neq .ifc .nili .nili = some (.bool false) := rfl
theorem eq_nili : eB .eql .ifc .nili .nili = some (.bool true) := rfl
theorem neq_ifc {t : TypeId} {x : V} : eB .neq .ifc (.ifc t x) .nili = some (.bool true) := rfl
theorem eq_ifc {t : TypeId} {x : V} : eB .eql .ifc (.ifc t x) .nili = some (.bool false) := rfl
attribute [go_sem] agOk_int agOk_str agOk_bool agOk_agg buildF_eq laySl_nil laySl_cons okRow_nil okRow_cons bytesStr_sl bytesOf_nil bytesOf_cons neq_nili eq_nili neq_ifc eq_ifc List.length_replicate List.replicate_succ List.replicate_zero List.set_cons_zero List.set_cons_succ
end Go.Ev
set_option linter.unusedSimpArgs false
set_option linter.unusedVariables false
set_option linter.unusedSectionVars false
namespace Go.Ev
open Go
def rn (b k o : Nat) : Nat := if o < b then o else o + k
theorem rn_lt {b k o n : Nat} (hn : b ≤ n) : (rn b k o < n + k) ↔ o < n := by unfold rn; split <;> omega
theorem rn_inj {b k o p : Nat} : (rn b k o = rn b k p) ↔ o = p := by unfold rn; split <;> split <;> omega
mutual
def V.sh (b k : Nat) : V → V
  | .ptr o off => .ptr (rn b k o) off
  | .hs o off len sz ag => .hs (rn b k o) off len sz ag
  | .mp o => .mp (rn b k o)
  | .eptr cs off => .eptr (V.shs b k cs) off
  | .sl xs c => .sl (V.shs b k xs) c
  | .agg cs => .agg (V.shs b k cs)
  | .tup cs => .tup (V.shs b k cs)
  | .ifc t x => .ifc t (V.sh b k x)
  | .fn f xs ys => .fn f (V.shs b k xs) (V.shs b k ys)
  | .any => .any | .undef => .undef | .bool x => .bool x | .int j n => .int j n | .str s => .str s
  | .nilp => .nilp | .nils => .nils | .nili => .nili | .nilf => .nilf | .nilm => .nilm
def V.shs (b k : Nat) : List V → List V
  | [] => []
  | x :: xs => V.sh b k x :: V.shs b k xs
end
theorem shs_map {b k : Nat} : ∀ {l : List V}, V.shs b k l = l.map (V.sh b k)
  | [] => rfl
  | x :: xs => by rw [V.shs, shs_map]; rfl
mutual
theorem sh_closed {b k : Nat} : ∀ {x : V}, V.rb 0 x = true → V.sh b k x = x
  | .ptr o off, h => by simp [V.rb] at h
  | .hs o off len sz ag, h => by simp [V.rb] at h
  | .mp o, h => by simp [V.rb] at h
  | .eptr cs off, h => by rw [V.sh, shs_closed (by simpa [V.rb] using h)]
  | .sl xs c, h => by rw [V.sh, shs_closed (by simpa [V.rb] using h)]
  | .agg cs, h => by rw [V.sh, shs_closed (by simpa [V.rb] using h)]
  | .tup cs, h => by rw [V.sh, shs_closed (by simpa [V.rb] using h)]
  | .ifc t x, h => by rw [V.sh, sh_closed (by simpa [V.rb] using h)]
  | .fn f xs ys, h => by
    have h' : V.rbs 0 xs = true ∧ V.rbs 0 ys = true := by simpa [V.rb] using h
    rw [V.sh, shs_closed h'.1, shs_closed h'.2]
  | .any, _ => rfl | .undef, _ => rfl | .bool x, _ => rfl | .int j n, _ => rfl | .str s, _ => rfl
  | .nilp, _ => rfl | .nils, _ => rfl | .nili, _ => rfl | .nilf, _ => rfl | .nilm, _ => rfl
theorem shs_closed {b k : Nat} : ∀ {l : List V}, V.rbs 0 l = true → V.shs b k l = l
  | [], _ => rfl
  | x :: xs, h => by
    rw [rbs_cons, Bool.and_eq_true] at h
    rw [V.shs, sh_closed h.1, shs_closed h.2]
end
mutual
theorem rb_sh {b k n : Nat} (hn : b ≤ n) : ∀ {x : V}, V.rb (n + k) (V.sh b k x) = V.rb n x
  | .ptr o off => by simp [V.rb, V.sh, rn_lt hn]
  | .hs o off len sz ag => by simp [V.rb, V.sh, rn_lt hn]
  | .mp o => by simp [V.rb, V.sh, rn_lt hn]
  | .eptr cs off => by rw [V.sh, rb_eptr, rb_eptr, rbs_sh hn]
  | .sl xs c => by rw [V.sh, rb_sl, rb_sl, rbs_sh hn]
  | .agg cs => by rw [V.sh, rb_agg, rb_agg, rbs_sh hn]
  | .tup cs => by rw [V.sh, rb_tup, rb_tup, rbs_sh hn]
  | .ifc t x => by rw [V.sh, rb_ifc, rb_ifc, rb_sh hn]
  | .fn f xs ys => by
    have h1 := rbs_sh (k := k) hn (l := xs)
    have h2 := rbs_sh (k := k) hn (l := ys)
    simp [V.rb, V.sh, h1, h2]
  | .any => rfl | .undef => rfl | .bool x => rfl | .int j n => rfl | .str s => rfl
  | .nilp => rfl | .nils => rfl | .nili => rfl | .nilf => rfl | .nilm => rfl
theorem rbs_sh {b k n : Nat} (hn : b ≤ n) : ∀ {l : List V}, V.rbs (n + k) (V.shs b k l) = V.rbs n l
  | [] => rfl
  | x :: xs => by rw [V.shs, rbs_cons, rbs_cons, rb_sh hn, rbs_sh hn]
end
theorem rn_beq {b k o p : Nat} : (rn b k o == rn b k p) = (o == p) := by rw [Bool.eq_iff_iff]; simp [rn_inj]
mutual
theorem beq_sh {b k : Nat} : ∀ {x y : V}, V.beq (V.sh b k x) (V.sh b k y) = V.beq x y
  | x, y => by
    cases x <;> cases y <;> first
      | rfl
      | (simp only [V.sh, V.beq, beqs_sh, beq_sh]; done)
      | (simp only [V.sh, V.beq, rn_beq]; done)
theorem beqs_sh {b k : Nat} : ∀ {l m : List V}, V.beqs (V.shs b k l) (V.shs b k m) = V.beqs l m
  | [], [] => rfl
  | [], _ :: _ => rfl
  | _ :: _, [] => rfl
  | x :: xs, y :: ys => by simp only [V.shs, V.beqs]; rw [beq_sh, beqs_sh]
end
section
variable {b k : Nat}
theorem nogr_sh {x : V} : (V.sh b k x).ng = V.sh b k x.ng := by cases x <;> rfl
theorem isLk_sh {x : V} : (V.sh b k x).isLk = x.isLk := by
  cases x with
  | sl xs c => cases c <;> rfl
  | _ => rfl
theorem cells_sh {x : V} : (V.sh b k x).cells = x.cells.map (V.sh b k) := by
  cases x <;> first | rfl | (simp only [V.sh, V.cells, shs_map, List.map_cons, List.map_nil]; done)
theorem one_sh {x : V} : V.one (V.sh b k x) = V.one x := by cases x <;> rfl
theorem agOk_sh {ag : Bool} {x : V} : agOk ag (V.sh b k x) = agOk ag x := by cases x <;> rfl
theorem okc_sh {l : List V} : okCells (l.map (V.sh b k)) = okCells l := by
  unfold okCells
  rw [List.all_map]
  congr 1
  funext x
  exact one_sh
theorem map_nogr_sh {l : List V} : (l.map (V.sh b k)).map V.ng = (l.map V.ng).map (V.sh b k) := by
  rw [List.map_map, List.map_map]
  congr 1
  funext x
  exact nogr_sh
theorem part_sh {ag : Bool} {sz off : Nat} {cs : List V} : part ag sz (cs.map (V.sh b k)) off = (part ag sz cs off).map (V.sh b k) := by
  unfold part
  rw [List.length_map]
  cases ag with
  | true =>
    simp only [if_true]
    split
    · simp only [Option.map_some, V.sh, shs_map, ← List.map_drop, ← List.map_take, map_nogr_sh]
    · rfl
  | false =>
    simp only [Bool.false_eq_true, if_false]
    split
    · rw [List.getElem?_map]
      cases cs[off]? with
      | none => rfl
      | some x => simp only [Option.map_some, nogr_sh]
    · rfl
theorem chunks_sh {ag : Bool} {sz : Nat} {cs : List V} : ∀ {n off : Nat}, chunks ag sz (cs.map (V.sh b k)) n off = (chunks ag sz cs n off).map (List.map (V.sh b k))
  | 0, _ => rfl
  | n + 1, off => by
    simp only [chunks, part_sh, chunks_sh, Option.bind_eq_bind]
    cases part ag sz cs off with
    | none => rfl
    | some x =>
      simp only [Option.map_some, Option.bind_some]
      cases chunks ag sz cs n (off + sz) <;> rfl
theorem putAt_sh : ∀ {cs : List V} {n : Nat} {xs : List V}, putAt (cs.map (V.sh b k)) n (xs.map (V.sh b k)) = (putAt cs n xs).map (V.sh b k)
  | cs, n, [] => by rw [List.map_nil, putAt_nil, putAt_nil]
  | [], n, x :: xs => by cases n <;> rfl
  | c :: cs, 0, x :: xs => by simp only [List.map_cons, putAt_0, putAt_sh]
  | c :: cs, n + 1, x :: xs => by
    have := putAt_sh (cs := cs) (n := n) (xs := x :: xs)
    simp only [List.map_cons] at this
    simp only [List.map_cons, putAt_s, this]
theorem lay_sh : ∀ {ps : List (Nat × Nat × V)} {z : List V}, lay (z.map (V.sh b k)) (ps.map fun p => (p.1, p.2.1, V.sh b k p.2.2)) = (lay z ps).map (List.map (V.sh b k))
  | [], z => rfl
  | (off, sz, x) :: r, z => by
    simp only [List.map_cons, lay, cells_sh, List.length_map, okc_sh, map_nogr_sh, putAt_sh]
    split
    · exact lay_sh
    · rfl
theorem laySl_sh {sz : Nat} : ∀ {ps : List (Nat × V)} {z : List V}, laySl sz (z.map (V.sh b k)) (ps.map fun p => (p.1, V.sh b k p.2)) = (laySl sz z ps).map (List.map (V.sh b k))
  | [], z => rfl
  | (i, x) :: r, z => by
    simp only [List.map_cons, laySl, cells_sh, List.length_map, okc_sh, nogr_sh, ← List.map_set]
    split
    · exact laySl_sh
    · rfl
theorem okRow_sh {ag : Bool} {sz : Nat} {ys : List V} : okRow ag sz (ys.map (V.sh b k)) = okRow ag sz ys := by
  unfold okRow
  rw [List.all_map]
  congr 1
  funext x
  simp only [Function.comp, cells_sh, List.length_map, okc_sh, agOk_sh]
theorem flat_sh {xs : List V} : (xs.map (V.sh b k)).flatMap V.cells = (xs.flatMap V.cells).map (V.sh b k) := by
  rw [List.flatMap_map, List.map_flatMap]
  congr 1
  funext x
  exact cells_sh
theorem mapM_sh {f g : V → Option V} (h : ∀ x, g (V.sh b k x) = (f x).map (V.sh b k)) : ∀ {l : List V}, (l.map (V.sh b k)).mapM g = (l.mapM f).map (List.map (V.sh b k))
  | [] => rfl
  | x :: xs => by
    simp only [List.map_cons, List.mapM_cons, h, mapM_sh h, Option.bind_eq_bind]
    cases f x with
    | none => rfl
    | some y =>
      simp only [Option.map_some, Option.bind_some]
      cases xs.mapM f <;> rfl
def O.sh (b k : Nat) : O → O
  | .cells cs => .cells (cs.map (V.sh b k))
  | .mp es => .mp (es.map fun p => (V.sh b k p.1, V.sh b k p.2))
end
def ins (b : Nat) (φ σ : Objs) : Objs := (σ.map (O.sh b φ.length)).take b ++ φ ++ (σ.map (O.sh b φ.length)).drop b
section
variable {b : Nat} {φ σ : Objs}
theorem ins_len (hb : b ≤ σ.length) : (ins b φ σ).length = σ.length + φ.length := by simp [ins]; omega
theorem ins_get (hb : b ≤ σ.length) (o : Nat) : (ins b φ σ)[rn b φ.length o]? = (σ[o]?).map (O.sh b φ.length) := by
  unfold ins rn
  split
  · rename_i h
    rw [List.append_assoc, List.getElem?_append_left (by simp; omega), List.getElem?_take, if_pos h, List.getElem?_map]
  · rename_i h
    rw [List.getElem?_append_right (by simp; omega), List.getElem?_drop, List.getElem?_map]
    congr 2
    simp; omega
theorem ins_set (hb : b ≤ σ.length) (o : Nat) (x : O) : (ins b φ σ).set (rn b φ.length o) (x.sh b φ.length) = ins b φ (σ.set o x) := by
  unfold ins rn
  split
  · rename_i h
    rw [List.append_assoc, List.set_append_left _ _ (by simp; omega), ← List.append_assoc, List.map_set, List.take_set, List.drop_set_of_lt h]
  · rename_i h
    rw [List.set_append_right _ _ (by simp; omega), List.map_set, List.take_set_of_le (by omega), List.drop_set]
    rw [if_neg (by omega)]
    congr 2
    simp; omega
theorem ins_app (hb : b ≤ σ.length) (x : O) : ins b φ σ ++ [x.sh b φ.length] = ins b φ (σ ++ [x]) := by
  unfold ins
  rw [List.map_append, List.take_append_of_le_length (by simpa using hb), List.drop_append_of_le_length (by simpa using hb), List.append_assoc]
  rfl
theorem oget_sh (hb : b ≤ σ.length) (o : Nat) : Objs.get (ins b φ σ) (rn b φ.length o) = (Objs.get σ o).map (List.map (V.sh b φ.length)) := by
  unfold Objs.get
  rw [ins_get hb]
  cases σ[o]? with
  | none => rfl
  | some x => cases x <;> rfl
theorem len_ptr (hb : b ≤ σ.length) : (ins b φ σ).length = rn b φ.length σ.length := by
  rw [ins_len hb]; unfold rn; rw [if_neg (by omega)]
theorem fz_sh (hb : b ≤ σ.length) {n : Nat} (hn : b ≤ n) : ∀ {d : Nat} {x : V}, fz (n + φ.length) (ins b φ σ) d (V.sh b φ.length x) = (fz n σ d x).map (V.sh b φ.length)
  | 0, x => by
    unfold fz
    rw [rb_sh hn]
    split <;> rfl
  | d + 1, x => by
    have ih : ∀ y, fz (n + φ.length) (ins b φ σ) d (V.sh b φ.length y) = (fz n σ d y).map (V.sh b φ.length) := fun y => fz_sh hb hn
    have ihm : ∀ l : List V, (l.map (V.sh b φ.length)).mapM (fz (n + φ.length) (ins b φ σ) d) = (l.mapM (fz n σ d)).map (List.map (V.sh b φ.length)) := fun l => mapM_sh ih
    unfold fz
    rw [rb_sh hn]
    split
    · rfl
    · cases x with
      | ptr o off =>
        simp only [V.sh, oget_sh hb, Option.bind_eq_bind]
        cases Objs.get σ o with
        | none => rfl
        | some cs =>
          simp only [Option.map_some, Option.bind_some, ihm]
          cases cs.mapM (fz n σ d) with
          | none => rfl
          | some ds => simp only [Option.map_some, Option.bind_some, Option.pure_def, V.sh, shs_map]
      | hs o off len sz ag =>
        simp only [V.sh, oget_sh hb, Option.bind_eq_bind]
        cases Objs.get σ o with
        | none => rfl
        | some cs =>
          simp only [Option.map_some, Option.bind_some, chunks_sh]
          cases chunks ag sz cs len off with
          | none => rfl
          | some xs =>
            simp only [Option.map_some, Option.bind_some, ihm]
            cases xs.mapM (fz n σ d) with
            | none => rfl
            | some ds => simp only [Option.map_some, Option.bind_some, Option.pure_def, V.sh, shs_map]
      | eptr cs off =>
        simp only [V.sh, shs_map, ihm, Option.bind_eq_bind]
        cases cs.mapM (fz n σ d) with
        | none => rfl
        | some ds => simp only [Option.map_some, Option.bind_some, Option.pure_def, V.sh, shs_map]
      | sl cs c =>
        simp only [V.sh, shs_map, ihm, Option.bind_eq_bind]
        cases cs.mapM (fz n σ d) with
        | none => rfl
        | some ds => simp only [Option.map_some, Option.bind_some, Option.pure_def, V.sh, shs_map]
      | agg cs =>
        simp only [V.sh, shs_map, ihm, Option.bind_eq_bind]
        cases cs.mapM (fz n σ d) with
        | none => rfl
        | some ds => simp only [Option.map_some, Option.bind_some, Option.pure_def, V.sh, shs_map]
      | tup cs =>
        simp only [V.sh, shs_map, ihm, Option.bind_eq_bind]
        cases cs.mapM (fz n σ d) with
        | none => rfl
        | some ds => simp only [Option.map_some, Option.bind_some, Option.pure_def, V.sh, shs_map]
      | ifc t x =>
        simp only [V.sh, ih, Option.bind_eq_bind]
        cases fz n σ d x with
        | none => rfl
        | some ds => simp only [Option.map_some, Option.bind_some, Option.pure_def, V.sh]
      | fn g xs ys =>
        simp only [V.sh, shs_map, ihm, Option.bind_eq_bind]
        cases xs.mapM (fz n σ d) with
        | none => rfl
        | some us =>
          simp only [Option.map_some, Option.bind_some]
          cases ys.mapM (fz n σ d) with
          | none => rfl
          | some ds => simp only [Option.map_some, Option.bind_some, Option.pure_def, V.sh, shs_map]
      | _ => rfl
end
end Go.Ev
