/- Part of a proof: the small language, and functions of the program on it. -/
import Derived.Test.YtapnplljnpconaaGreatDoorFlOc
import Derived.Test.YtapnplljnpconaaGreatDoorChecked
import Derived.Attr
import Derived.RangeFuncNested
import Derived.RangeFuncLeaves
import Derived.Shelf.Abstract
import Derived.WalkKit
import Derived.OwnWalkIn
import Derived.TacticsInMore
import Derived.LoopNIn
import Derived.LoopIn
import Derived.Shelf.RegionOpen
import Derived.Lib.Hide
set_option linter.unusedSimpArgs false
set_option linter.unusedVariables false
set_option linter.unusedSectionVars false
set_option maxRecDepth 100000
namespace Go.Proofs.YtapnplljnpconaaGreatDoor
open Go.Ev
def c_Z25 : Ev.Fn := ⟨13, [.tmp 2], false, false, (Yq 0 [Yv 2 Yf] (Yq 1 [Yv 3 0, Yc 4 168 [3], Yv 5 4, ⟨some 6, (some (5, false)), .mv 0 false⟩, ⟨some 7, (some (5, false)), .call 167 [6]⟩, Yk 8 (.pick 5 Yt 7), Yv 9 8, ⟨some 10, (some (9, false)), .mv 0 false⟩, ⟨some 11, (some (9, false)), .bin .eql .no 10 (Yi 45)⟩, Yk 12 (.pick 9 Yt 11), Yv 2 12] .ret))⟩
theorem ok_c_Z25 : Qam Tryz.prog 160 c_Z25 = true := Qad Tryz.func160 (by kernel_rfl)
def s_Z25 (M : Mach) (a0 : V) (σ : Objs) : Ro :=
 bd (M.call 168 [a0.ng.ng] σ) fun p0 =>
 bd (gdv p0.1.ng false (some a0.ng)) fun x1 =>
 bd (gdp p0.1.ng false (M.call 167 [x1.ng] p0.2) p0.2) fun p2 =>
 bd (pu (pV p0.1.ng.ng (.bool true) p2.1.ng)) fun x3 =>
 bd (gdv x3.ng false (some a0.ng)) fun x4 =>
 bd (gdv x3.ng false (pu (eB .eql .no x4.ng (.int .i64 45)))) fun x5 =>
 bd (pu (pV x3.ng.ng (.bool true) x5.ng)) fun x6 =>
 bd (oK false x6.ng) (nK σ.length p2.2)
theorem k_Z25 (M : Mach) (a0 : V) (σ : Objs) : fnK M c_Z25 [a0] σ = s_Z25 M a0 σ := by kernel_rfl
def c_Z1y : Ev.Fn := ⟨28, [.tmp 2], false, false, (Yq 0 [Yv 2 (.c .nils)] (Yq 1 [Yk 5 (.buildSl false 1 0 .any [] false), Yu 3 5] (.seq (Yq 2 [Yv 4 (Yi 0)] (.block 0 (.loop [0, 3, 4] [2, 3] (.seq (Yq 3 [Yv 6 4, Yv 7 0, Yh 8 7, Yo 9 .lss .no 6 8] (.cond 9 .skip (.exit 0))) (.seq (.block 1 (Yq 5 [Yv 12 0, Yv 13 4, Ye 14 1 12 13, Yl 15 false 1 14, Yc 16 95 [15]] (.cond 16 (.ops 6 [Yu 17 3, Yv 18 0, Yv 19 4, Ye 20 1 18 19, Yl 21 false 1 20, Yc 22 109 [21], Yk 23 (.app false false 1 1 17 22 true), Yu 3 23]) (.ops 7 [Yu 24 3, Yc 25 109 [(Yi 65533)], Yk 26 (.app false false 1 1 24 25 true), Yu 3 26])))) (.ops 4 [Yv 10 4, Yo 11 .add .no 10 (Yi 1), Yv 4 11])))))) (Yq 8 [Yu 27 3, Yu 2 27] .ret))))⟩
theorem ok_c_Z1y : Qam Tryz.prog 161 c_Z1y = true := Qad Tryz.func161 (by kernel_rfl)
def c_Zj : Ev.Fn := ⟨49, [.cell 6 true 11, .tmp 7], false, false, (Yq 0 [Yk 6 (.alloc [Y0, Y0, Yn, Yn, Y0, Yn, Yb, Y0, Y0, Y0, .nils]), Yv 7 (Yi 0)] (Yq 1 [Yk 10 (.build [Y0, Y0, Yn, Yn, Y0, Yn, Yb, Y0, Y0, Y0, .nils] []), Yv 11 0, Yv 12 1, Yv 13 2, Yc 14 162 [11, 12, 13], Yk 8 (.alloc [Y0, Y0, Yn, Yn, Y0, Yn, Yb, Y0, Y0, Y0, .nils]), Yw 11 8 10 false, Yv 9 14] (.seq (Yq 2 [Yv 15 9, Yv 16 1, Yo 17 .eql .no 15 16] (.cond 17 (Yq 3 [Yl 18 true 11 8, Yv 19 1, Yw 11 6 18 false, Yv 7 19] .ret) .skip)) (.seq (Yq 4 [Yv 20 9, Yv 21 1, Yo 22 .add .no 21 (Yi 1), Yo 23 .eql .no 20 22] (.cond 23 (.ops 5 [Ya 24 1 8, Yw 1 24 (Yi 2) false]) (Yq 6 [Yv 25 0, Yv 26 1, Yc 27 152 [25, 26, (Ys [42])]] (.cond 27 (.ops 7 [Ya 28 1 8, Yw 1 28 (Yi 1) false]) (Yq 8 [Ya 29 1 8, Yw 1 29 (Yi 3) false] (Yq 9 [Yv 30 0, Yv 31 1, Yc 32 92 [30, 31], Yg 33 false 3 1 32, Ya 34 2 8, Yw 1 34 33 false] (.seq (.drw 10 [⟨Yv 35 0, 0, []⟩, ⟨Yk 36 (.nilc 35), 1, []⟩, ⟨Ya 37 1 36, 2, []⟩, ⟨Ya 38 2 37, 3, []⟩, ⟨Yl 39 false 1 38, 4, []⟩, ⟨Ya 40 2 8, 5, []⟩, ⟨Yl 41 false 1 40, 6, []⟩, ⟨Yc 42 39 [39, 41], 7, []⟩, ⟨Yk 43 (.un .not 42), 8, []⟩]) (.cond 43 (.ops 11 [Yv 44 0, Yv 45 1, Yc 46 93 [44, (Yi 14), 45]]) .skip)))))))) (Yq 12 [Yl 47 true 11 8, Yv 48 9, Yw 11 6 47 false, Yv 7 48] .ret)))))⟩
theorem ok_c_Zj : Qam Tryz.prog 150 c_Zj = true := Qad Tryz.func150 (by kernel_rfl)
def c_Zi : Ev.Fn := ⟨10, [.tmp 4], false, false, (Yq 0 [Yv 4 Yf] (Yq 1 [Yv 5 0, Yv 6 1, Yc 7 92 [5, 6], Yg 8 false 0 1 7, Yo 9 .eql .no 8 (Yi 1), Yv 4 9] .ret))⟩
theorem ok_c_Zi : Qam Tryz.prog 151 c_Zi = true := Qad Tryz.func151 (by kernel_rfl)
def c_Zl : Ev.Fn := ⟨20, [.tmp 6], false, false, (Yq 0 [Yv 6 Yf] (Yq 1 [Yv 8 0, Yv 9 1, Yc 10 92 [8, 9], Yk 7 (.alloc [Y0, Y0, Y0, Yn, Yn, Yb]), Yw 6 7 10 false] (Yq 2 [Ya 11 0 7, Yl 12 false 1 11, Yo 13 .eql .no 12 (Yi 9), Yv 14 13, ⟨some 15, (some (14, true)), .faddr 3 7⟩, ⟨some 16, (some (14, true)), .load false 1 15⟩, ⟨some 17, (some (14, true)), .mv 2 false⟩, ⟨some 18, (some (14, true)), .bin .eql .no 16 17⟩, Yk 19 (.pick 14 18 Yf), Yv 6 19] .ret)))⟩
theorem ok_c_Zl : Qam Tryz.prog 152 c_Zl = true := Qad Tryz.func152 (by kernel_rfl)
def s_Zl (M : Mach) (a0 a1 a2 : V) (σ : Objs) : Ro :=
 bd (M.call 92 [a0.ng.ng, a1.ng.ng] σ) fun p0 =>
  let s1 : Objs := p0.2 ++ [.cells [(.int .i64 0), (.int .i64 0), (.int .i64 0), (.str []), (.str []), (.bool false)]]
 bd (stV s1 6 (.ptr p0.2.length 0) p0.1.ng p0.1.ng) fun p2 =>
 bd (pu (eF 0 (.ptr p0.2.length 0))) fun x3 =>
 bd (pu (eL p2.2 false 1 x3.ng)) fun x4 =>
 bd (pu (eB .eql .no x4.ng (.int .i64 9))) fun x5 =>
 bd (gdv x5.ng true (pu (eF 3 (.ptr p0.2.length 0)))) fun x6 =>
 bd (gdv x5.ng true (pu (eL p2.2 false 1 x6.ng))) fun x7 =>
 bd (gdv x5.ng true (some a2.ng)) fun x8 =>
 bd (gdv x5.ng true (pu (eB .eql .no x7.ng x8.ng))) fun x9 =>
 bd (pu (pV x5.ng.ng x9.ng (.bool false))) fun x10 =>
 bd (oK false x10.ng) (nK σ.length p2.2)
theorem k_Zl (M : Mach) (a0 a1 a2 : V) (σ : Objs) : fnK M c_Zl [a0, a1, a2] σ = s_Zl M a0 a1 a2 σ := by kernel_rfl
def c_Zm : Ev.Fn := ⟨106, [.cell 10 true 11, .tmp 11], false, false, (Yq 0 [Yk 10 (.alloc [Y0, Y0, Yn, Yn, Y0, Yn, Yb, Y0, Y0, Y0, .nils]), Yv 11 (Yi 0)] (Yq 1 [Yv 14 0, Yv 15 1, Yc 16 92 [14, 15], Yk 12 (.alloc [Y0, Y0, Y0, Yn, Yn, Yb]), Yw 6 12 16 false] (.seq (Yq 2 [Ya 17 0 12, Yl 18 false 1 17, Yo 19 .eql .no 18 (Yi 4), Yv 20 19, ⟨some 21, (some (20, true)), .faddr 5 12⟩, ⟨some 22, (some (20, true)), .load false 1 21⟩, Yk 23 (.pick 20 22 Yf)] (.cond 23 (Yq 3 [Ya 24 3 12, Yl 25 false 1 24, Yk 26 (.build [Y0, Y0, Yn, Yn, Y0, Yn, Yb, Y0, Y0, Y0, .nils] [(0, 1, (Yi 4)), (3, 1, 25)]), Yv 27 1, Yo 28 .add .no 27 (Yi 1), Yw 11 10 26 false, Yv 11 28] .ret) .skip)) (.seq (Yq 4 [Yv 29 0, Yv 30 1, Yc 31 152 [29, 30, (Ys [46])]] (.cond 31 (.seq (Yq 5 [Yv 32 0, Yv 33 1, Yo 34 .add .no 33 (Yi 1), Yc 35 151 [32, 34], Yk 36 (.un .not 35)] (.cond 36 (.ops 6 [Yv 37 0, Yv 38 1, Yo 39 .add .no 38 (Yi 1), Yc 40 93 [37, (Yi 10), 39]]) .skip)) (Yq 7 [Yv 41 0, Yv 42 1, Yo 43 .add .no 42 (Yi 1), Yc 44 92 [41, 43], Yg 45 false 3 1 44, Yk 46 (.build [Y0, Y0, Yn, Yn, Y0, Yn, Yb, Y0, Y0, Y0, .nils] [(0, 1, (Yi 3)), (3, 1, 45)]), Yv 47 1, Yo 48 .add .no 47 (Yi 2), Yw 11 10 46 false, Yv 11 48] .ret)) .skip)) (.seq (Yq 8 [Ya 49 0 12, Yl 50 false 1 49, Yo 51 .eql .no 50 (Yi 19)] (.cond 51 (Yq 9 [Yv 52 0, Yv 53 1, Yo 54 .add .no 53 (Yi 1), Yc 55 163 [52, 54], Yx 56 55 0, Yx 57 55 1, Yw 11 10 56 false, Yv 11 57] .ret) .skip)) (.seq (Yq 10 [Ya 58 0 12, Yl 59 false 1 58, Yo 60 .neq .no 59 (Yi 16)] (.cond 60 (Yq 11 [Yk 61 (.build [Y0, Y0, Yn, Yn, Y0, Yn, Yb, Y0, Y0, Y0, .nils] []), Yv 62 1, Yw 11 10 61 false, Yv 11 62] .ret) .skip)) (.seq (Yq 12 [Yv 63 0, Yv 64 1, Yo 65 .add .no 64 (Yi 1), Yc 66 92 [63, 65], Yg 67 false 0 1 66, Yo 68 .eql .no 67 (Yi 16)] (.cond 68 (Yq 13 [Yv 69 0, Yv 70 1, Yo 71 .add .no 70 (Yi 2), Yv 72 2, Yc 73 164 [69, 71, 72], Yx 74 73 0, Yx 75 73 1, Yw 11 10 74 false, Yv 11 75] .ret) .skip)) (Yq 14 [Yv 76 0, Yv 77 1, Yo 78 .add .no 77 (Yi 1), Yc 79 92 [76, 78], Yg 80 false 3 1 79, Yc 81 158 [80], Yv 13 81] (.seq (Yq 15 [Yv 82 0, Yv 83 1, Yo 84 .add .no 83 (Yi 1), Yc 85 151 [82, 84], Yv 86 85, ⟨some 87, (some (86, true)), .buildSl false 1 4 Yn [(0, (Ys [98, 101, 102, 111, 114, 101])), (1, (Ys [97, 102, 116, 101, 114])), (2, (Ys [102, 105, 114, 115, 116, 45, 108, 105, 110, 101])), (3, (Ys [102, 105, 114, 115, 116, 45, 108, 101, 116, 116, 101, 114]))] false⟩, ⟨some 88, (some (86, true)), .mv 13 false⟩, ⟨some 89, (some (86, true)), .call 39 [87, 88]⟩, Yk 90 (.pick 86 89 Yf)] (.cond 90 (Yq 16 [Yv 91 0, Yv 92 1, Yo 93 .add .no 92 (Yi 1), Yv 94 2, Yc 95 164 [91, 93, 94], Yx 96 95 0, Yx 97 95 1, Yw 11 10 96 false, Yv 11 97] .ret) .skip)) (Yq 17 [Yv 98 0, Yv 99 1, Yv 100 13, Yv 101 3, Yu 102 4, Yc 103 165 [98, 99, 100, 101, 102], Yx 104 103 0, Yx 105 103 1, Yw 11 10 104 false, Yv 11 105] .ret))))))))))⟩
theorem ok_c_Zm : Qam Tryz.prog 153 c_Zm = true := Qad Tryz.func153 (by kernel_rfl)
def c_Z23 : Ev.Fn := ⟨9, [.tmp 2], false, false, (Yq 0 [Yv 2 Yf] (Yq 1 [Yv 3 0, Yo 4 .geq .no 3 (Yi 48), Yv 5 4, ⟨some 6, (some (5, true)), .mv 0 false⟩, ⟨some 7, (some (5, true)), .bin .leq .no 6 (Yi 57)⟩, Yk 8 (.pick 5 7 Yf), Yv 2 8] .ret))⟩
theorem ok_c_Z23 : Qam Tryz.prog 167 c_Z23 = true := Qad Tryz.func167 (by kernel_rfl)
def s_Z23 (M : Mach) (a0 : V) (σ : Objs) : Ro :=
 bd (pu (eB .geq .no a0.ng.ng (.int .i64 48))) fun x0 =>
 bd (gdv x0.ng true (some a0.ng)) fun x1 =>
 bd (gdv x0.ng true (pu (eB .leq .no x1.ng (.int .i64 57)))) fun x2 =>
 bd (pu (pV x0.ng.ng x2.ng (.bool false))) fun x3 =>
 bd (oK false x3.ng) (nK σ.length σ)
theorem k_Z23 (M : Mach) (a0 : V) (σ : Objs) : fnK M c_Z23 [a0] σ = s_Z23 M a0 σ := by kernel_rfl
def c_Z28 : Ev.Fn := ⟨20, [.tmp 2], false, false, (Yq 0 [Yv 2 Yf] (Yq 1 [Yv 4 0, Yc 5 169 [4], Yv 3 5] (Yq 2 [Yv 6 3, Yo 7 .geq .no 6 (Yi 97), Yv 8 7, ⟨some 9, (some (8, true)), .mv 3 false⟩, ⟨some 10, (some (8, true)), .bin .leq .no 9 (Yi 122)⟩, Yk 11 (.pick 8 10 Yf), Yv 12 11, ⟨some 13, (some (12, false)), .mv 0 false⟩, ⟨some 14, (some (12, false)), .bin .eql .no 13 (Yi 95)⟩, Yk 15 (.pick 12 Yt 14), Yv 16 15, ⟨some 17, (some (16, false)), .mv 0 false⟩, ⟨some 18, (some (16, false)), .bin .geq .no 17 (Yi 128)⟩, Yk 19 (.pick 16 Yt 18), Yv 2 19] .ret)))⟩
theorem ok_c_Z28 : Qam Tryz.prog 168 c_Z28 = true := Qad Tryz.func168 (by kernel_rfl)
def s_Z28 (M : Mach) (a0 : V) (σ : Objs) : Ro :=
 bd (M.call 169 [a0.ng.ng] σ) fun p0 =>
 bd (pu (eB .geq .no p0.1.ng.ng.ng (.int .i64 97))) fun x1 =>
 bd (gdv x1.ng true (some p0.1.ng.ng)) fun x2 =>
 bd (gdv x1.ng true (pu (eB .leq .no x2.ng (.int .i64 122)))) fun x3 =>
 bd (pu (pV x1.ng.ng x3.ng (.bool false))) fun x4 =>
 bd (gdv x4.ng false (some a0.ng)) fun x5 =>
 bd (gdv x4.ng false (pu (eB .eql .no x5.ng (.int .i64 95)))) fun x6 =>
 bd (pu (pV x4.ng.ng (.bool true) x6.ng)) fun x7 =>
 bd (gdv x7.ng false (some a0.ng)) fun x8 =>
 bd (gdv x7.ng false (pu (eB .geq .no x8.ng (.int .i64 128)))) fun x9 =>
 bd (pu (pV x7.ng.ng (.bool true) x9.ng)) fun x10 =>
 bd (oK false x10.ng) (nK σ.length p0.2)
theorem k_Z28 (M : Mach) (a0 : V) (σ : Objs) : fnK M c_Z28 [a0] σ = s_Z28 M a0 σ := by kernel_rfl
def c_Z26 : Ev.Fn := ⟨12, [.tmp 2], false, false, (Yq 0 [Yv 2 (Yi 0)] (.seq (Yq 1 [Yv 3 0, Yo 4 .geq .no 3 (Yi 65), Yv 5 4, ⟨some 6, (some (5, true)), .mv 0 false⟩, ⟨some 7, (some (5, true)), .bin .leq .no 6 (Yi 90)⟩, Yk 8 (.pick 5 7 Yf)] (.cond 8 (Yq 2 [Yv 9 0, Yo 10 .add .no 9 (Yi 32), Yv 2 10] .ret) .skip)) (Yq 3 [Yv 11 0, Yv 2 11] .ret)))⟩
theorem ok_c_Z26 : Qam Tryz.prog 169 c_Z26 = true := Qad Tryz.func169 (by kernel_rfl)
def s_Z26 (M : Mach) (a0 : V) (σ : Objs) : Ro :=
 bd (pu (eB .geq .no a0.ng.ng (.int .i64 65))) fun x0 =>
 bd (gdv x0.ng true (some a0.ng)) fun x1 =>
 bd (gdv x0.ng true (pu (eB .leq .no x1.ng (.int .i64 90)))) fun x2 =>
 bd (pu (pV x0.ng.ng x2.ng (.bool false))) fun x3 =>
  br x3.ng (
 bd (pu (eB .add .no a0.ng.ng (.int .i64 32))) fun x4 =>
 bd (oK false x4.ng) (nK σ.length σ)) (
 bd (oK false a0.ng.ng) (nK σ.length σ))
theorem k_Z26 (M : Mach) (a0 : V) (σ : Objs) : fnK M c_Z26 [a0] σ = s_Z26 M a0 σ := by kernel_rfl
def c_Zk : Ev.Fn := ⟨41, [.tmp 6], false, false, (Yq 0 [Yv 6 (Yi 0)] (Yq 1 [Yv 8 1, Yv 7 8] (.seq (Yq 2 [Yv 9 0, Yv 10 1, Yc 11 151 [9, 10], Yv 12 11, ⟨some 13, (some (12, false)), .mv 0 false⟩, ⟨some 14, (some (12, false)), .mv 1 false⟩, ⟨some 15, (some (12, false)), .call 152 [13, 14, (Ys [42])]⟩, Yk 16 (.pick 12 Yt 15)] (.cond 16 (.ops 3 [Yv 17 1, Yo 18 .add .no 17 (Yi 1), Yv 7 18]) .skip)) (.seq (Yq 4 [Yv 19 0, Yv 20 7, Yc 21 152 [19, 20, (Ys [124])], Yv 22 21, ⟨some 23, (some (22, true)), .mv 0 false⟩, ⟨some 24, (some (22, true)), .mv 7 false⟩, ⟨some 25, (some (22, true)), .bin .add .no 24 (Yi 1)⟩, ⟨some 26, (some (22, true)), .call 151 [23, 25]⟩, ⟨some 27, (some (22, true)), .mv 26 false⟩, ⟨some 28, (some (27, false)), .mv 2 false⟩, ⟨some 29, (some (27, false)), .un .not 28⟩, ⟨some 30, (some (27, false)), .mv 29 false⟩, ⟨some 31, (some (30, true)), .mv 0 false⟩, ⟨some 32, (some (30, true)), .mv 7 false⟩, ⟨some 33, (some (30, true)), .bin .add .no 32 (Yi 1)⟩, ⟨some 34, (some (30, true)), .call 152 [31, 33, (Ys [42])]⟩, ⟨some 35, (some (27, false)), .pick 30 34 Yf⟩, ⟨some 36, (some (22, true)), .pick 27 Yt 35⟩, Yk 37 (.pick 22 36 Yf)] (.cond 37 (Yq 5 [Yv 38 7, Yo 39 .add .no 38 (Yi 1), Yv 6 39] .ret) .skip)) (Yq 6 [Yv 40 1, Yv 6 40] .ret)))))⟩
theorem ok_c_Zk : Qam Tryz.prog 162 c_Zk = true := Qad Tryz.func162 (by kernel_rfl)
def c_Zc : Ev.Fn := ⟨92, [.cell 10 true 11, .tmp 11], false, false, (Yq 0 [Yk 10 (.alloc [Y0, Y0, Yn, Yn, Y0, Yn, Yb, Y0, Y0, Y0, .nils]), Yv 11 (Yi 0)] (Yq 1 [Yv 15 0, Yv 16 1, Yo 17 .add .no 16 (Yi 1), Yc 18 92 [15, 17], Yk 12 (.alloc [Y0, Y0, Y0, Yn, Yn, Yb]), Yw 6 12 18 false] (Yq 2 [Yv 20 2, Ya 21 0 12, Yl 22 false 1 21, Yo 23 .eql .no 22 (Yi 2), Yc 24 172 [20, 23], Yv 19 24, Yx 25 19 0, Yx 26 19 1, Yv 13 25, Yv 14 26] (.seq (Yq 3 [Ya 27 0 12, Yl 28 false 1 27, Yo 29 .neq .no 28 (Yi 1), Yv 30 29, ⟨some 31, (some (30, true)), .faddr 0 12⟩, ⟨some 32, (some (30, true)), .load false 1 31⟩, ⟨some 33, (some (30, true)), .bin .neq .no 32 (Yi 2)⟩, Yk 34 (.pick 30 33 Yf), Yv 35 34, ⟨some 36, (some (35, false)), .mv 13 false⟩, ⟨some 37, (some (35, false)), .un .not 36⟩, Yk 38 (.pick 35 Yt 37)] (.cond 38 (Yq 4 [Yk 39 (.build [Y0, Y0, Yn, Yn, Y0, Yn, Yb, Y0, Y0, Y0, .nils] []), Yv 40 0, Yv 41 1, Yo 42 .add .no 41 (Yi 1), Yc 43 93 [40, (Yi 10), 42], Yo 44 .add .no 43 (Yi 1), Yw 11 10 39 false, Yv 11 44] .ret) .skip)) (.seq (Yq 5 [Yv 45 14, Yk 46 (.un .not 45)] (.cond 46 (.ops 6 [Yv 47 0, Yv 48 1, Yc 49 173 [47, 48]]) .skip)) (.seq (Yq 7 [Ya 50 0 12, Yl 51 false 1 50, Yo 52 .eql .no 51 (Yi 2)] (.cond 52 (Yq 8 [Yv 53 0, Yv 54 1, Yv 55 2, Yv 56 14, Yv 57 3, Yu 58 4, Yc 59 174 [53, 54, 55, 56, 57, 58], Yx 60 59 0, Yx 61 59 1, Yw 11 10 60 false, Yv 11 61] .ret) .skip)) (.seq (Yq 9 [Yv 62 2, Yo 63 .eql .no 62 (Ys [102, 105, 114, 115, 116, 45, 111, 102, 45, 116, 121, 112, 101])] (.cond 63 (Yq 10 [Yv 64 0, Yv 65 1, Yk 66 (.build [Y0, Y0] [(1, 1, (Yi 1))]), Yv 67 3, Yu 68 4, Yc 69 175 [64, 65, 66, 67, 68], Yv 70 1, Yo 71 .add .no 70 (Yi 2), Yw 11 10 69 false, Yv 11 71] .ret) .skip)) (.seq (Yq 11 [Yv 72 2, Yo 73 .eql .no 72 (Ys [102, 105, 114, 115, 116, 45, 99, 104, 105, 108, 100])] (.cond 73 (Yq 12 [Yk 74 (.build [Y0, Y0] [(1, 1, (Yi 1))]), Yk 75 (.build [Y0, Y0, Yn, Yn, Y0, Yn, Yb, Y0, Y0, Y0, .nils] [(0, 1, (Yi 7)), (8, 2, 74)]), Yv 76 1, Yo 77 .add .no 76 (Yi 2), Yw 11 10 75 false, Yv 11 77] .ret) .skip)) (.seq (Yq 13 [Yv 78 2, Yo 79 .eql .no 78 (Ys [114, 111, 111, 116])] (.cond 79 (Yq 14 [Yk 80 (.build [Y0, Y0, Yn, Yn, Y0, Yn, Yb, Y0, Y0, Y0, .nils] [(0, 1, (Yi 6))]), Yv 81 1, Yo 82 .add .no 81 (Yi 2), Yw 11 10 80 false, Yv 11 82] .ret) .skip)) (.seq (Yq 15 [Yv 83 2, Yo 84 .eql .no 83 (Ys [97, 110, 121, 45, 108, 105, 110, 107])] (.cond 84 (Yq 16 [Yk 85 (.build [Y0, Y0, Yn, Yn, Y0, Yn, Yb, Y0, Y0, Y0, .nils] [(0, 1, (Yi 12))]), Yv 86 1, Yo 87 .add .no 86 (Yi 2), Yw 11 10 85 false, Yv 11 87] .ret) .skip)) (Yq 17 [Yv 88 2, Yk 89 (.build [Y0, Y0, Yn, Yn, Y0, Yn, Yb, Y0, Y0, Y0, .nils] [(0, 1, (Yi 11)), (3, 1, 88)]), Yv 90 1, Yo 91 .add .no 90 (Yi 2), Yw 11 10 89 false, Yv 11 91] .ret)))))))))))⟩
theorem ok_c_Zc : Qam Tryz.prog 165 c_Zc = true := Qad Tryz.func165 (by kernel_rfl)
def c_Z2v : Ev.Fn := ⟨36, [.tmp 4, .tmp 5], false, false, (Yq 0 [Yv 4 Yf, Yv 5 Yf] (Yq 1 [Yv 9 0, Yc 10 158 [9], Yv 6 10] (.seq (Yq 2 [Yv 11 1] (.cond 11 (Yq 3 [Yk 12 (.buildSl false 1 5 Yn [(0, (Ys [105, 115])), (1, (Ys [119, 104, 101, 114, 101])), (2, (Ys [110, 111, 116])), (3, (Ys [110, 116, 104, 45, 99, 104, 105, 108, 100])), (4, (Ys [110, 116, 104, 45, 111, 102, 45, 116, 121, 112, 101]))] false), Yv 13 6, Yc 14 39 [12, 13], Yv 7 14] (Yq 4 [Yv 15 7, Yv 16 15, ⟨some 17, (some (16, false)), .buildSl false 1 5 Yn [(0, (Ys [108, 97, 110, 103])), (1, (Ys [100, 105, 114])), (2, (Ys [104, 97, 115])), (3, (Ys [110, 116, 104, 45, 108, 97, 115, 116, 45, 99, 104, 105, 108, 100])), (4, (Ys [110, 116, 104, 45, 108, 97, 115, 116, 45, 111, 102, 45, 116, 121, 112, 101]))] false⟩, ⟨some 18, (some (16, false)), .mv 6 false⟩, ⟨some 19, (some (16, false)), .call 39 [17, 18]⟩, Yk 20 (.pick 16 Yt 19), Yv 21 7, Yv 4 20, Yv 5 21] .ret)) .skip)) (Yq 5 [Yv 22 6, Yc 23 34 [22], Yv 24 23, ⟨some 25, (some (24, false)), .buildSl false 1 4 Yn [(0, (Ys [114, 111, 111, 116])), (1, (Ys [97, 110, 121, 45, 108, 105, 110, 107])), (2, (Ys [102, 105, 114, 115, 116, 45, 99, 104, 105, 108, 100])), (3, (Ys [102, 105, 114, 115, 116, 45, 111, 102, 45, 116, 121, 112, 101]))] false⟩, ⟨some 26, (some (24, false)), .mv 6 false⟩, ⟨some 27, (some (24, false)), .call 39 [25, 26]⟩, Yk 28 (.pick 24 Yt 27), Yv 8 28] (Yq 6 [Yv 29 8, Yv 30 29, ⟨some 31, (some (30, false)), .buildSl false 1 6 Yn [(0, (Ys [108, 97, 115, 116, 45, 99, 104, 105, 108, 100])), (1, (Ys [111, 110, 108, 121, 45, 99, 104, 105, 108, 100])), (2, (Ys [108, 97, 115, 116, 45, 111, 102, 45, 116, 121, 112, 101])), (3, (Ys [111, 110, 108, 121, 45, 111, 102, 45, 116, 121, 112, 101])), (4, (Ys [101, 109, 112, 116, 121])), (5, (Ys [115, 99, 111, 112, 101]))] false⟩, ⟨some 32, (some (30, false)), .mv 6 false⟩, ⟨some 33, (some (30, false)), .call 39 [31, 32]⟩, Yk 34 (.pick 30 Yt 33), Yv 35 8, Yv 4 34, Yv 5 35] .ret)))))⟩
theorem ok_c_Z2v : Qam Tryz.prog 172 c_Z2v = true := Qad Tryz.func172 (by kernel_rfl)
def c_Zb : Ev.Fn := ⟨118, [.cell 12 true 11, .tmp 13], false, false, (Yq 0 [Yk 12 (.alloc [Y0, Y0, Yn, Yn, Y0, Yn, Yb, Y0, Y0, Y0, .nils]), Yv 13 (Yi 0)] (.seq (Yq 1 [Yv 22 3, Yk 23 (.un .not 22)] (.cond 23 (Yq 2 [Yk 24 (.build [Y0, Y0, Yn, Yn, Y0, Yn, Yb, Y0, Y0, Y0, .nils] [(0, 1, (Yi 6))]), Yv 25 0, Yv 26 1, Yo 27 .add .no 26 (Yi 2), Yc 28 176 [25, 27], Yw 11 12 24 false, Yv 13 28] .ret) .skip)) (Yq 3 [Yk 29 (.buildSl false 1 3 Yn [(0, (Ys [105, 115])), (1, (Ys [119, 104, 101, 114, 101])), (2, (Ys [110, 111, 116]))] false), Yu 14 29] (.seq (Yq 4 [Yv 15 (Yi 0)] (.block 0 (.loop [0, 1, 2, 4, 5, 12, 14, 15] [0, 1, 2, 4, 5, 12, 13] (.seq (Yq 5 [Yv 30 15, Yo 31 .lss .no 30 (Yi 3)] (.cond 31 .skip (.exit 0))) (.seq (.block 1 (Yq 7 [Yv 34 14, Yv 35 15, Ye 36 1 34 35, Yl 37 false 1 36, Yv 38 2, Yo 39 .eql .no 37 38] (.cond 39 (Yq 8 [Yv 41 0, Yv 42 1, Yv 43 1, Yo 44 .add .no 43 (Yi 2), Yv 45 4, Yc 46 177 [41, 42, 44, 45], Yv 40 46, Yx 47 40 0, Yx 48 40 1, Yv 16 47, Yv 17 48] (Yq 9 [Yv 49 15, Yo 50 .add .no (Yi 8) 49, Yv 51 16, Yk 52 (.build [Y0, Y0, Yn, Yn, Y0, Yn, Yb, Y0, Y0, Y0, .nils] [(0, 1, 50), (10, 1, 51)]), Yv 53 17, Yw 11 12 52 false, Yv 13 53] .ret)) .skip))) (.ops 6 [Yv 32 15, Yo 33 .add .no 32 (Yi 1), Yv 15 33])))))) (Yq 10 [Yv 55 0, Yv 56 1, Yo 57 .add .no 56 (Yi 2), Yc 58 178 [55, 57], Yv 54 58, Yx 59 54 0, Yx 60 54 1, Yk 18 (.alloc [Y0, Y0]), Yw 2 18 59 false, Yv 19 60] (.seq (Yq 11 [Yv 61 2, Yo 62 .eql .no 61 (Ys [110, 116, 104, 45, 99, 104, 105, 108, 100]), Yv 63 62, ⟨some 64, (some (63, true)), .mv 0 false⟩, ⟨some 65, (some (63, true)), .mv 19 false⟩, ⟨some 66, (some (63, true)), .call 151 [64, 65]⟩, Yk 67 (.pick 63 66 Yf), Yv 68 67, ⟨some 69, (some (68, true)), .mv 0 false⟩, ⟨some 70, (some (68, true)), .mv 19 false⟩, ⟨some 71, (some (68, true)), .call 92 [69, 70]⟩, ⟨some 72, (some (68, true)), .field false 3 1 71⟩, ⟨some 73, (some (68, true)), .call 158 [72]⟩, ⟨some 74, (some (68, true)), .bin .eql .no 73 (Ys [111, 102])⟩, Yk 75 (.pick 68 74 Yf), Yv 76 75, ⟨some 77, (some (76, true)), .mv 0 false⟩, ⟨some 78, (some (76, true)), .nilc 77⟩, ⟨some 79, (some (76, true)), .faddr 5 78⟩, ⟨some 80, (some (76, true)), .load false 1 79⟩, ⟨some 81, (some (76, true)), .bin .eql .no 80 (Yi 0)⟩, Yk 82 (.pick 76 81 Yf)] (.cond 82 (Yq 12 [Yv 84 0, Yv 85 1, Yv 86 19, Yo 87 .add .no 86 (Yi 1), Yv 88 4, Yc 89 177 [84, 85, 87, 88], Yv 83 89, Yx 90 83 0, Yx 91 83 1, Yv 20 90, Yv 21 91] (Yq 13 [Yl 92 true 2 18, Yv 93 20, Yk 94 (.build [Y0, Y0, Yn, Yn, Y0, Yn, Yb, Y0, Y0, Y0, .nils] [(0, 1, (Yi 7)), (8, 2, 92), (10, 1, 93)]), Yv 95 21, Yw 11 12 94 false, Yv 13 95] .ret)) .skip)) (.seq (Yq 14 [Yv 96 0, Yv 97 19, Yc 98 92 [96, 97], Yg 99 false 0 1 98, Yo 100 .neq .no 99 (Yi 22)] (.cond 100 (.ops 15 [Yv 101 0, Yv 102 19, Yc 103 93 [101, (Yi 10), 102]]) .skip)) (.seq (Yq 16 [Yv 104 2, Yo 105 .eql .no 104 (Ys [110, 116, 104, 45, 99, 104, 105, 108, 100])] (.cond 105 (Yq 17 [Yl 106 true 2 18, Yk 107 (.build [Y0, Y0, Yn, Yn, Y0, Yn, Yb, Y0, Y0, Y0, .nils] [(0, 1, (Yi 7)), (8, 2, 106)]), Yv 108 19, Yo 109 .add .no 108 (Yi 1), Yw 11 12 107 false, Yv 13 109] .ret) .skip)) (Yq 18 [Yv 110 0, Yv 111 1, Yl 112 true 2 18, Yv 113 4, Yu 114 5, Yc 115 175 [110, 111, 112, 113, 114], Yv 116 19, Yo 117 .add .no 116 (Yi 1), Yw 11 12 115 false, Yv 13 117] .ret)))))))))⟩
theorem ok_c_Zb : Qam Tryz.prog 174 c_Zb = true := Qad Tryz.func174 (by kernel_rfl)
def c_Zg : Ev.Fn := ⟨29, [.tmp 8, .tmp 9], false, false, (Yq 0 [Yv 8 (.c .nils), Yv 9 (Yi 0)] (.seq (Yq 1 [Yv 12 3, Yo 13 .geq .no 12 (Yi 32)] (.cond 13 (.ops 2 [Yv 14 0, Yv 15 1, Yo 16 .add .no 15 (Yi 1), Yc 17 93 [14, (Yi 12), 16]]) .skip)) (Yq 3 [Yv 19 0, Yv 20 2, Yv 21 3, Yo 22 .add .no 21 (Yi 1), Yc 23 68 [19, 20, (Yi 22), 22], Yv 18 23, Yx 24 18 0, Yx 25 18 1, Yv 10 24, Yv 11 25] (Yq 4 [Yv 26 10, Yv 27 11, Yo 28 .add .no 27 (Yi 1), Yv 8 26, Yv 9 28] .ret))))⟩
theorem ok_c_Zg : Qam Tryz.prog 177 c_Zg = true := Qad Tryz.func177 (by kernel_rfl)
end Go.Proofs.YtapnplljnpconaaGreatDoor
set_option maxRecDepth 100000
namespace Go.Proofs.YtapnplljnpconaaGreatDoor
open Go.Ev
def Qmd : List (Nat × Ev.Fn) := [(3, c_Z1n),
  (6, c_Z1q),
  (7, c_Z1o),
  (8, c_Z10),
  (9, c_Z1p),
  (10, c_Z2y),
  (13, c_Z1r),
  (14, c_Z2q),
  (21, c_Zz),
  (26, c_Z2w),
  (27, c_Z1m),
  (28, c_Z2o),
  (29, c_Z14),
  (30, c_Z13),
  (31, c_Zx),
  (32, c_Z6),
  (33, c_Z2z),
  (34, c_Z2r),
  (37, c_Z2u),
  (38, c_Z2t),
  (39, c_Z2p),
  (46, c_Z1h),
  (48, c_Z2d),
  (47, c_Z2x),
  (49, c_Z2s),
  (50, c_Z1g),
  (51, c_Z1b),
  (52, c_Zw),
  (54, c_Zp),
  (55, c_Z5),
  (56, c_Z1u),
  (67, c_Z1j),
  (71, c_Z1s),
  (70, c_Z1v),
  (69, c_Z29),
  (68, c_Zh),
  (72, c_Zy),
  (74, c_Zo),
  (75, c_Z16),
  (76, c_Z9),
  (77, c_Z1t),
  (78, c_Z22),
  (95, c_Z1x),
  (94, c_Z2c),
  (91, c_Za),
  (90, c_Ze),
  (92, c_Zn),
  (96, c_Z1k),
  (98, c_Zq),
  (99, c_Z3),
  (100, c_Z1),
  (102, c_Z8),
  (101, c_Z0),
  (103, c_Z7),
  (104, c_Z12),
  (105, c_Z2),
  (106, c_Z4),
  (107, c_Z21),
  (108, c_Z1z),
  (109, c_Z1w),
  (118, c_Z2e),
  (119, c_Z27),
  (120, c_Z2l),
  (122, c_Z2k),
  (124, c_Z2i),
  (125, c_Z2b),
  (126, c_Z2f),
  (127, c_Z2j),
  (128, c_Z2h),
  (129, c_Z2a),
  (130, c_Z2n),
  (116, c_Zf),
  (117, c_Zd),
  (131, c_Z1l),
  (132, c_Zv),
  (133, c_Z1e),
  (134, c_Zq_1),
  (135, c_Z1f),
  (136, c_Z1c),
  (137, c_Z18),
  (138, c_Z15),
  (139, c_Z19),
  (140, c_Zq_2),
  (141, c_Zq_3),
  (142, c_Z1d),
  (143, c_Zq_4),
  (144, c_Z1a),
  (146, c_Z17),
  (145, c_Z1i),
  (147, c_Z11),
  (148, c_Z20),
  (155, c_Z2g),
  (157, c_Z2m),
  (158, c_Z24),
  (160, c_Z25),
  (161, c_Z1y),
  (150, c_Zj),
  (151, c_Zi),
  (152, c_Zl),
  (153, c_Zm),
  (167, c_Z23),
  (168, c_Z28),
  (169, c_Z26),
  (162, c_Zk),
  (165, c_Zc),
  (172, c_Z2v),
  (174, c_Zb),
  (177, c_Zg)]
def Qvc (f : FuncId) : Option Ev.Fn := Qny Qmd f
theorem Wi8 : ∀ f F, Qvc f = some F → Qam Tryz.prog f F = true := Qq7 (l := Qmd) ⟨ok_c_Z1n, ok_c_Z1q, ok_c_Z1o, ok_c_Z10, ok_c_Z1p, ok_c_Z2y, ok_c_Z1r, ok_c_Z2q, ok_c_Zz, ok_c_Z2w, ok_c_Z1m, ok_c_Z2o, ok_c_Z14, ok_c_Z13, ok_c_Zx, ok_c_Z6, ok_c_Z2z, ok_c_Z2r, ok_c_Z2u, ok_c_Z2t, ok_c_Z2p, ok_c_Z1h, ok_c_Z2d, ok_c_Z2x, ok_c_Z2s, ok_c_Z1g, ok_c_Z1b, ok_c_Zw, ok_c_Zp, ok_c_Z5, ok_c_Z1u, ok_c_Z1j, ok_c_Z1s, ok_c_Z1v, ok_c_Z29, ok_c_Zh, ok_c_Zy, ok_c_Zo, ok_c_Z16, ok_c_Z9, ok_c_Z1t, ok_c_Z22, ok_c_Z1x, ok_c_Z2c, ok_c_Za, ok_c_Ze, ok_c_Zn, ok_c_Z1k, ok_c_Zq, ok_c_Z3, ok_c_Z1, ok_c_Z8, ok_c_Z0, ok_c_Z7, ok_c_Z12, ok_c_Z2, ok_c_Z4, ok_c_Z21, ok_c_Z1z, ok_c_Z1w, ok_c_Z2e, ok_c_Z27, ok_c_Z2l, ok_c_Z2k, ok_c_Z2i, ok_c_Z2b, ok_c_Z2f, ok_c_Z2j, ok_c_Z2h, ok_c_Z2a, ok_c_Z2n, ok_c_Zf, ok_c_Zd, ok_c_Z1l, ok_c_Zv, ok_c_Z1e, ok_c_Zq_1, ok_c_Z1f, ok_c_Z1c, ok_c_Z18, ok_c_Z15, ok_c_Z19, ok_c_Zq_2, ok_c_Zq_3, ok_c_Z1d, ok_c_Zq_4, ok_c_Z1a, ok_c_Z17, ok_c_Z1i, ok_c_Z11, ok_c_Z20, ok_c_Z2g, ok_c_Z2m, ok_c_Z24, ok_c_Z25, ok_c_Z1y, ok_c_Zj, ok_c_Zi, ok_c_Zl, ok_c_Zm, ok_c_Z23, ok_c_Z28, ok_c_Z26, ok_c_Zk, ok_c_Zc, ok_c_Z2v, ok_c_Zb, ok_c_Zg, trivial⟩
end Go.Proofs.YtapnplljnpconaaGreatDoor
namespace Go.Ev
open Go
attribute [congr] Qyt Qyu Qyv
attribute [congr] ite_congr
attribute [go_sem] Qcd Wcy Wcz
theorem Wc9 {v : V} : pu (some v) = some v.ng := rfl
theorem Wda : pu none = none := rfl
theorem Wi9 {c : Bool} {x : Option V} : gdv (.bool c) true x = if c = true then x else some .undef := by cases c <;> rfl
theorem Wja {c : Bool} {x : Option V} : gdv (.bool c) false x = if c = true then some .undef else x := by cases c <;> rfl
theorem Wjb {t : Bool} {x : Option V} : gdv .undef t x = some .undef := rfl
theorem Wjc {c : Bool} {x : Ro} {σ : Objs} : gdp (.bool c) true x σ = if c = true then x else some (.undef, σ) := by cases c <;> rfl
theorem Wjd {c : Bool} {x : Ro} {σ : Objs} : gdp (.bool c) false x σ = if c = true then some (.undef, σ) else x := by cases c <;> rfl
theorem Wje {t : Bool} {x : Ro} {σ : Objs} : gdp .undef t x σ = some (.undef, σ) := rfl
theorem gd_b {c : Bool} {x y : Ro} : gd (.bool c) true x y = if c = true then x else y := by cases c <;> rfl
theorem gd_n {c : Bool} {x y : Ro} : gd (.bool c) false x y = if c = true then y else x := by cases c <;> rfl
theorem gd_u {t : Bool} {x y : Ro} : gd .undef t x y = y := rfl
section
variable {p : Prop} [Decidable p]
theorem Qyx {α : Type} {a b : α} : (if p then some a else some b) = some (if p then a else b) := by split <;> rfl
theorem Qyy {α β : Type} {a b : α} {s : β} : (if p then (a, s) else (b, s)) = (if p then a else b, s) := by split <;> rfl
theorem Wdb {d : Bool} : (if p then V.bool d else V.bool false) = V.bool (decide p && d) := by by_cases h : p <;> simp [h]
theorem Wf2 {d : Bool} : (if p then V.bool true else V.bool d) = V.bool (decide p || d) := by by_cases h : p <;> simp [h]
theorem Qyz {a b : V} : (if p then a else b).ng = if p then a.ng else b.ng := by split <;> rfl
theorem Wf3 {c : Bool} {α : Type} {x y : α} : (if c = false then x else y) = if c = true then y else x := by cases c <;> rfl
theorem Wf4 {α : Type} {x y : α} : (if ¬ p then x else y) = if p then y else x := by by_cases h : p <;> simp [h]
theorem Wdc {a b : V} {t : Bool} {x : Option V} : gdv (if p then a else b) t x = if p then gdv a t x else gdv b t x := by split <;> rfl
theorem Wdd {a b : V} {t : Bool} {x : Ro} {σ : Objs} : gdp (if p then a else b) t x σ = if p then gdp a t x σ else gdp b t x σ := by split <;> rfl
theorem Wf5 {a b : V} {t : Bool} {x y : Ro} : gd (if p then a else b) t x y = if p then gd a t x y else gd b t x y := by split <;> rfl
theorem Wf6 {α : Type} {x y : Option α} {f : α → Ro} : bd (if p then x else y) f = if p then bd x f else bd y f := by split <;> rfl
theorem Wf7 {x y : Option V} : pu (if p then x else y) = if p then pu x else pu y := by split <;> rfl
theorem Wde {k : IntKind} {a b : Int} : (if p then V.int k a else V.int k b) = V.int k (if p then a else b) := by split <;> rfl
theorem Wdf {a b : List UInt8} : (if p then V.str a else V.str b) = V.str (if p then a else b) := by split <;> rfl
theorem iteT {α : Type} {a b : α} : (if True then a else b) = a := rfl
theorem iteF {α : Type} {a b : α} : (if False then a else b) = b := rfl
end
theorem Wf8 {x : Option V} : gdv (.bool true) true x = x := rfl
theorem Wf9 {x : Option V} : gdv (.bool false) false x = x := rfl
theorem Wga {x : Option V} : gdv (.bool true) false x = some .undef := rfl
theorem Wgb {x : Option V} : gdv (.bool false) true x = some .undef := rfl
theorem Wgc {x : Ro} {σ : Objs} : gdp (.bool true) true x σ = x := rfl
theorem Wgd {x : Ro} {σ : Objs} : gdp (.bool false) false x σ = x := rfl
theorem Wge {x : Ro} {σ : Objs} : gdp (.bool true) false x σ = some (.undef, σ) := rfl
theorem Wgf {x : Ro} {σ : Objs} : gdp (.bool false) true x σ = some (.undef, σ) := rfl
theorem Wjf {x y : Ro} : gd (.bool true) true x y = x := rfl
theorem Wjg {x y : Ro} : gd (.bool false) false x y = x := rfl
theorem Wjh {x y : Ro} : gd (.bool true) false x y = y := rfl
theorem Wji {x y : Ro} : gd (.bool false) true x y = y := rfl
attribute [go_sem high] Wf8 Wf9 Wga Wgb Wgc Wgd Wge Wgf Wjf Wjg Wjh Wji br_t br_f
attribute [go_sem] Wc9 Wda Wi9 Wja Wjb Wjc Wjd Wje gd_b gd_n gd_u Wdc Wdd Wf5 Bool.decide_eq_true Wde Wdf Wf3 Wf4 Qyx Qyy Wdb Wf2 Qyz Wf6 Wf7 iteT iteF decide_eq_true_eq decide_eq_false_iff_not Bool.and_eq_true Bool.or_eq_true Bool.not_eq_true' Bool.not_eq_true Bool.true_eq_false Bool.false_eq_true if_true if_false not_true_eq_false not_false_eq_true and_true true_and and_false false_and or_true true_or or_false false_or Bool.decide_and Bool.decide_or decide_true decide_false
theorem Wgg : V.nilm.ng = .nilm := rfl
theorem Wgh : V.nilf.ng = .nilf := rfl
theorem n_mp {o : Nat} : (V.mp o).ng = .mp o := rfl
attribute [go_sem] Qnx Qq6 Quw Wcx Wiz Wfp Wi0 Wfq Wfr n_sl n_hs Wi1 Wi2 Wi3 Wfs n_fn Wgg Wgh n_mp Wc8
section
variable {k : IntKind} {e : EqK} {a b : Int} {s t : List UInt8}
theorem Wjj : eB .add e (.int k a) (.int k b) = some (.int k (k.wrap (a + b))) := by simp [eB]
theorem Wjk : eB .sub e (.int k a) (.int k b) = some (.int k (k.wrap (a - b))) := by simp [eB]
theorem Wjl : eB .mul e (.int k a) (.int k b) = some (.int k (k.wrap (a * b))) := by simp [eB]
theorem Wjm (h : ¬ b = 0) : eB .quo e (.int k a) (.int k b) = some (.int k (k.wrap (a.tdiv b))) := by simp [eB, h]
theorem Wjn (h : ¬ b = 0) : eB .rem e (.int k a) (.int k b) = some (.int k (a.tmod b)) := by simp [eB, h]
theorem Wjo : eB .eql e (.int k a) (.int k b) = some (.bool (decide (a = b))) := by simp [eB]; by_cases h : a = b <;> simp [h]
theorem Wjp : eB .neq e (.int k a) (.int k b) = some (.bool (decide (¬ a = b))) := by simp [eB]; by_cases h : a = b <;> simp [h]
theorem Wjq : eB .lss e (.int k a) (.int k b) = some (.bool (decide (a < b))) := by simp [eB]
theorem Wjr : eB .leq e (.int k a) (.int k b) = some (.bool (decide (a ≤ b))) := by simp [eB]
theorem Wjs : eB .gtr e (.int k a) (.int k b) = some (.bool (decide (b < a))) := by simp [eB]
theorem Wjt : eB .geq e (.int k a) (.int k b) = some (.bool (decide (b ≤ a))) := by simp [eB]
theorem Wgi (h : s.length + t.length ≤ Qtu) : eB .add e (.str s) (.str t) = some (.str (s ++ t)) := by simp [eB, h]
theorem Wgj : eB .eql e (.str s) (.str t) = some (.bool (decide (s = t))) := by simp [eB]
theorem Wgk : eB .neq e (.str s) (.str t) = some (.bool (decide (¬ s = t))) := by simp [eB]
theorem Wgl : eB .lss e (.str s) (.str t) = some (.bool (bytesLess s t)) := by simp [eB]
theorem Wgm {x y : Bool} : eB .eql .bool (.bool x) (.bool y) = some (.bool (decide (x = y))) := by cases x <;> cases y <;> rfl
theorem Wgn {x y : Bool} : eB .neq .bool (.bool x) (.bool y) = some (.bool (decide (¬ x = y))) := by cases x <;> cases y <;> rfl
theorem Wju : evUn .neg (.int k a) = some (.int k (k.wrap (0 - a))) := rfl
theorem Wjv {x : Bool} : evUn .not (.bool x) = some (.bool !x) := rfl
theorem Wdg {σ : Objs} {j : IntKind} : eC σ (.toInt k) (.int j a) = some (.int k (k.wrap a)) := rfl
theorem Wgo {σ : Objs} : eC σ .same (.str s) = some (.str s) := rfl
theorem Qsv {σ : Objs} : eC σ .strBytes (.str s) = some (.sl (Qac s) (.gr 1)) := rfl
theorem Wdh : Qe2 (.str s) = some (.int .i64 s.length) := rfl
theorem Qy0 : Qaq .nils = some (.int .i64 0) := rfl
theorem Wa2 {xs : List V} {c : Cap} : Qaq (.sl xs c) = some (.int .i64 xs.length) := rfl
theorem Wgp {o off len sz : Nat} {ag : Bool} : Qaq (.hs o off len sz ag) = some (.int .i64 len) := rfl
theorem Wgq {x : Bool} {v w : V} : pV (.bool x) v w = some (if x then v else w) := rfl
theorem Wgr {v w : V} : pV (.bool true) v w = some v := rfl
theorem Wgs {v w : V} : pV (.bool false) v w = some w := rfl
theorem Wdi (h : 0 ≤ a ∧ a < s.length) : Qly (.int k a) (.str s) = some (.int .u8 (s.getD a.toNat 0).toNat) := by
  have h3 : a.toNat < s.length := by omega
  simp only [Qly, index, if_pos h, Option.bind_eq_bind, Option.bind_some, List.getElem?_eq_getElem h3, List.getD_eq_getElem?_getD, Option.getD_some]
theorem Qy1 {vs : List V} {i : Nat} : eX i (.tup vs) = vs[i]? := rfl
theorem Qvd {o i off : Nat} : eF off (.ptr o i) = some (.ptr o (i + off)) := rfl
theorem Qsw {cs : List V} {i off : Nat} : eF off (.eptr cs i) = some (.eptr cs (i + off)) := rfl
theorem Qy2 {o i : Nat} : Qa8 (.ptr o i) = some (.ptr o i) := rfl
theorem Qve {cs : List V} {i : Nat} : Qa8 (.eptr cs i) = some (.eptr cs i) := rfl
theorem Qy3 {σ : Objs} {ag : Bool} {sz o off : Nat} : eL σ ag sz (.ptr o off) = (Objs.get σ o).bind fun cs => part ag sz cs off := rfl
theorem Qvf {σ : Objs} {ag : Bool} {sz off : Nat} {cs : List V} : eL σ ag sz (.eptr cs off) = part ag sz cs off := rfl
theorem Qvg {ag : Bool} {sz off : Nat} {cs : List V} : Qgn ag off sz (.agg cs) = part ag sz cs off := rfl
theorem Wgt {c : V} {cs : List V} : part false 1 (c :: cs) 0 = some c.ng := rfl
theorem Wgu {c : V} {cs : List V} {n : Nat} : part false 1 (c :: cs) (n + 1) = part false 1 cs n := rfl
theorem Wdj {cs : List V} {sz off : Nat} (h : off + sz ≤ cs.length) : part true sz cs off = some (.agg (((cs.drop off).take sz).map V.ng)) := by simp [part, h]
theorem Wdk {keep : Bool} : oK keep (.int k a) = some (.int k a) := by cases keep <;> rfl
theorem Qy4 {keep x : Bool} : oK keep (.bool x) = some (.bool x) := by cases keep <;> rfl
theorem Wdl {keep : Bool} : oK keep (.str s) = some (.str s) := by cases keep <;> rfl
theorem Wdm {keep : Bool} {cs : List V} : oK keep (.agg cs) = some (.agg cs) := by cases keep <;> rfl
theorem Wdn {keep : Bool} {t : TypeId} {x : V} : oK keep (.ifc t x) = some (.ifc t x) := by cases keep <;> rfl
theorem Qy5 {keep : Bool} : oK keep .nili = some .nili := by cases keep <;> rfl
theorem Qy6 {keep : Bool} : oK keep .nils = some .nils := by cases keep <;> rfl
theorem Wdo {keep : Bool} {o i : Nat} : oK keep (.ptr o i) = some (.ptr o i) := by cases keep <;> rfl
theorem Qy7 {keep : Bool} {cs : List V} {i : Nat} : oK keep (.eptr cs i) = some (.eptr cs i) := by cases keep <;> rfl
theorem Wgv {xs : List V} {c : Cap} : oK false (.sl xs c) = some (.sl xs .no) := rfl
theorem Wdp {xs : List V} {c : Cap} : oK true (.sl xs c) = some (.sl xs c) := rfl
theorem Wgw {keep : Bool} {o off len sz : Nat} {ag : Bool} : oK keep (.hs o off len sz ag) = some (.hs o off len sz ag) := by cases keep <;> rfl
end
attribute [go_sem] Wjj Wjk Wjl Wjm Wjn Wjo Wjp Wjq Wjr Wjs Wjt Wgi Wgj Wgk Wgl Wgm Wgn Wju Wjv Wdg Wgo Qsv Wdh Qy0 Wa2 Wgp Wgq Wdi Qy1 Qvd Qsw Qy2 Qve Qy3 Qvf Qvg Wgt Wgu Wdj Wdk Qy4 Wdl Wdm Wdn Qy5 Qy6 Wdo Qy7 Wgv Wdp Wgw
attribute [go_sem high] Wgr Wgs
def O.rb (n : Nat) : O → Bool
  | .cells cs => V.rbs n cs
  | .mp es => V.rbs n (es.map Prod.fst) && V.rbs n (es.map Prod.snd)
def Wf (σ : Objs) : Prop := σ.all (O.rb σ.length) = true
theorem Wa3 {n : Nat} {σ : Objs} {o : O} (h : o.rb n = true) : fzO n σ o = some o := by
  cases o with
  | cells cs => simp only [O.rb] at h; simp [fzO, h]
  | mp es => simp only [O.rb] at h; simp [fzO, h]
theorem Qme {n : Nat} {σ : Objs} : ∀ {l : List O}, l.all (O.rb n) = true → l.mapM (fzO n σ) = some l
  | [], _ => by simp
  | o :: l, h => by
    simp only [List.all_cons, Bool.and_eq_true] at h
    simp [List.mapM_cons, Wa3 h.1, Qme h.2]
theorem Qe6 {σ : Objs} (h : Wf σ) : cuO σ.length σ = some σ := by
  unfold cuO
  rw [List.take_length]
  exact Qme h
theorem Qd9 {σ τ : Objs} (h : Wf σ) : cuO σ.length (σ ++ τ) = some σ := by
  unfold cuO
  rw [List.take_left']
  · exact Qme h
  · rfl
theorem Wa4 : Wf [] := rfl
theorem Qvh {σ : Objs} {r : V} (h : Wf σ) (hr : r.rb σ.length = true) : nK σ.length σ r = some (r, σ) := by
  unfold nK
  rw [Qe6 h, Qcd, Qaw hr, Qcd]
theorem Qpp {σ τ : Objs} {r : V} (h : Wf σ) (hr : r.rb σ.length = true) : nK σ.length (σ ++ τ) r = some (r, σ) := by
  unfold nK
  rw [Qd9 h, Qcd, Qaw hr, Qcd]
theorem Wjw {r : V} (hr : r.rb 0 = true) : nK 0 [] r = some (r, []) := Qvh (σ := []) Wa4 hr
theorem Qdi {n : Nat} {k : IntKind} {a : Int} : V.rb n (.int k a) = true := rfl
theorem Qj8 {n : Nat} {b : Bool} : V.rb n (.bool b) = true := rfl
theorem Qj9 {n : Nat} {s : List UInt8} : V.rb n (.str s) = true := rfl
theorem Wdq {n : Nat} : V.rb n .nili = true := rfl
theorem Qvi {n : Nat} : V.rb n .nils = true := rfl
theorem Wdr {n : Nat} : V.rb n .nilp = true := rfl
theorem Wgx {n : Nat} : V.rb n .any = true := rfl
theorem Qy8 {n : Nat} : V.rb n .undef = true := rfl
theorem Qvj {n o i : Nat} : V.rb n (.ptr o i) = decide (o < n) := rfl
theorem Wjx {n o off len sz : Nat} {ag : Bool} : V.rb n (.hs o off len sz ag) = decide (o < n) := rfl
theorem Qa9 {n : Nat} {cs : List V} : V.rb n (.agg cs) = V.rbs n cs := rfl
theorem Qvk {n : Nat} {cs : List V} : V.rb n (.tup cs) = V.rbs n cs := rfl
theorem Qy9 {n : Nat} {cs : List V} {c : Cap} : V.rb n (.sl cs c) = V.rbs n cs := rfl
theorem Qpq {n i : Nat} {cs : List V} : V.rb n (.eptr cs i) = V.rbs n cs := rfl
theorem Qre {n : Nat} {t : TypeId} {x : V} : V.rb n (.ifc t x) = V.rb n x := rfl
theorem Qby {n : Nat} : V.rbs n [] = true := rfl
theorem Qaf {n : Nat} {x : V} {xs : List V} : V.rbs n (x :: xs) = (V.rb n x && V.rbs n xs) := rfl
theorem Qvl {α : Type} {n : Nat} {f : α → V} (h : ∀ x, V.rb n (f x) = true) : ∀ {l : List α}, V.rbs n (l.map f) = true
  | [] => rfl
  | x :: l => by rw [List.map_cons, Qaf, h, Qvl h]; rfl
attribute [go_sem] Qe6 Qd9 Qvh Qpp Wjw Qdi Qj8 Qj9 Wdq Qvi Wdr Wgx Qy8 Qvj Wjx Qa9 Qvk Qy9 Qpq Qre Qby Qaf Qhh Wfm Wcs Wfn Wct Wcu Wcv Wcw Qyr Wfo Qys Qaw
theorem w64 {x : Int} (h : -9223372036854775808 ≤ x ∧ x ≤ 9223372036854775807) : IntKind.i64.wrap x = x := by simp only [IntKind.wrap_i64]; omega
theorem w8 {x : Int} (h : 0 ≤ x ∧ x ≤ 255) : IntKind.u8.wrap x = x := by simp only [IntKind.wrap_u8]; omega
theorem w32 {x : Int} (h : -2147483648 ≤ x ∧ x ≤ 2147483647) : IntKind.i32.wrap x = x := by simp only [IntKind.wrap_i32]; omega
attribute [go_sem] List.getD_cons_zero List.getD_cons_succ Option.bind_some Option.bind_none Bool.and_true Bool.true_and Bool.not_true Bool.not_false Bool.false_or Bool.or_false Bool.true_or Bool.or_true Bool.false_and Bool.and_false
theorem Qvm {σ : Objs} {cs : List V} : Objs.get (σ ++ [.cells cs]) σ.length = some cs := by simp [Objs.get]
theorem Qvn {n d : Nat} {σ : Objs} : ∀ {cs : List V}, V.rbs n cs = true → cs.mapM (fz n σ d) = some cs
  | [], _ => by simp
  | c :: cs, h => by
    rw [Qaf, Bool.and_eq_true] at h
    simp [List.mapM_cons, Qaw h.1, Qvn h.2]
theorem Wds {σ : Objs} {cs : List V} {d off : Nat} (h : V.rbs σ.length cs = true) : fz σ.length (σ ++ [.cells cs]) (d + 1) (.ptr σ.length off) = some (.eptr cs off) := by
  simp [fz, Qvj, Qvm, Qvn h]
theorem Wgy {σ : Objs} {cs : List V} {t : TypeId} {off : Nat} (h : V.rbs σ.length cs = true) : fz σ.length (σ ++ [.cells cs]) fzD (.ifc t (.ptr σ.length off)) = some (.ifc t (.eptr cs off)) := by
  unfold fzD
  rw [show (40 : Nat) = 39 + 1 from rfl]
  unfold fz
  simp only [Qre, Qvj, Nat.lt_irrefl, decide_false, Bool.false_eq_true, if_false, Wds h]
  rfl
theorem Qpr {σ : Objs} {cs : List V} {t : TypeId} {off : Nat} (hσ : Wf σ) (h : V.rbs σ.length cs = true) : nK σ.length (σ ++ [.cells cs]) (.ifc t (.ptr σ.length off)) = some (.ifc t (.eptr cs off), σ) := by
  unfold nK
  rw [Qd9 hσ, Qcd, Wgy h, Qcd]
theorem Wa5 {σ : Objs} {x : V} : boxV σ x = if Qai x.cells = true then some (.ptr σ.length 0, σ ++ [.cells (x.cells.map V.ng)]) else none := by unfold boxV; rfl
theorem Qbz {cs : List V} : (V.agg cs).cells = cs := rfl
theorem Qvo {k : IntKind} {a : Int} : (V.int k a).cells = [.int k a] := rfl
theorem Qsx {b : Bool} : (V.bool b).cells = [.bool b] := rfl
theorem Qvp {s : List UInt8} : (V.str s).cells = [.str s] := rfl
theorem Qsy : V.nili.cells = [.nili] := rfl
theorem Qsz : V.nils.cells = [.nils] := rfl
theorem Qza {xs : List V} {c : Cap} : (V.sl xs c).cells = [.sl xs c] := rfl
theorem Qvq {t : TypeId} {x : V} : (V.ifc t x).cells = [.ifc t x] := rfl
theorem Qvr {o i : Nat} : (V.ptr o i).cells = [.ptr o i] := rfl
theorem Qs0 {cs : List V} {i : Nat} : (V.eptr cs i).cells = [.eptr cs i] := rfl
theorem Qdm : Qai [] = true := rfl
theorem Qcf {x : V} {xs : List V} : Qai (x :: xs) = (V.one x && Qai xs) := rfl
theorem Qdg {k : IntKind} {a : Int} : V.one (.int k a) = true := rfl
theorem Qhj {b : Bool} : V.one (.bool b) = true := rfl
theorem Qhk {s : List UInt8} : V.one (.str s) = true := rfl
theorem Qvs : V.one .nili = true := rfl
theorem Qvt : V.one .nils = true := rfl
theorem Qvu : V.one .nilp = true := rfl
theorem Wdt {xs : List V} {c : Cap} : V.one (.sl xs c) = true := rfl
theorem Qzb {t : TypeId} {x : V} : V.one (.ifc t x) = true := rfl
theorem Qzc {o i : Nat} : V.one (.ptr o i) = true := rfl
theorem Qvv {cs : List V} {i : Nat} : V.one (.eptr cs i) = true := rfl
attribute [go_sem] Qvm Qpr Wa5 Qbz Qvo Qsx Qvp Qsy Qsz Qza Qvq Qvr Qs0 Qdm Qcf Qdg Qhj Qhk Qvs Qvt Qvu Wdt Qzb Qzc Qvv List.map_cons List.map_nil List.drop_succ_cons List.drop_zero List.take_succ_cons List.take_zero List.take_nil List.drop_nil List.length_cons List.length_nil Nat.reduceAdd Nat.reduceLeDiff Nat.reduceLT Nat.zero_add Nat.add_zero
theorem Qmf {z : List V} {ps : List (Nat × Nat × V)} : Qa2 z ps = (lay z ps).map V.agg := rfl
theorem Qps {z : List V} : lay z [] = some z := rfl
theorem Qmg {z : List V} {off sz : Nat} {x : V} {r : List (Nat × Nat × V)} (h1 : x.cells.length = sz) (h2 : off + sz ≤ z.length) (h3 : Qai x.cells = true) : lay z ((off, sz, x) :: r) = lay (Qcc z off (x.cells.map V.ng)) r := by
  simp [lay, h1, h2, h3]
theorem Qka {z : List V} {n : Nat} : Qcc z n [] = z := by cases z <;> cases n <;> rfl
theorem Qvw {c x : V} {cs xs : List V} : Qcc (c :: cs) 0 (x :: xs) = x :: Qcc cs 0 xs := rfl
theorem Qvx {c x : V} {cs xs : List V} {n : Nat} : Qcc (c :: cs) (n + 1) (x :: xs) = c :: Qcc cs n (x :: xs) := rfl
theorem Qao {α β : Type} {a : α} {f : α → β} : (some a).map f = some (f a) := rfl
attribute [go_sem] Qmf Qps Qmg Qka Qvw Qvx Qao
theorem Wdu : Wf [] = True := by simp [Wf]
theorem Qgk {cs : List V} : Wf [.cells cs] = (V.rbs 1 cs = true) := by simp [Wf, O.rb]
theorem Wa6 {σ : Objs} : cuO 0 σ = some [] := rfl
theorem Wjy {σ : Objs} {r : V} (hr : r.rb 0 = true) : nK 0 σ r = some (r, []) := by
  unfold nK
  rw [Wa6, Qcd, Qaw hr, Qcd]
theorem Qzd {cs : List V} {t : TypeId} {off : Nat} (h : V.rbs 0 cs = true) : nK 0 [.cells cs] (.ifc t (.ptr 0 off)) = some (.ifc t (.eptr cs off), []) := Qpr (σ := []) Wa4 h
theorem Wdv {cs : List V} (h : V.rbs 1 cs = true) : cuO 1 [.cells cs] = some [.cells cs] := Qe6 (σ := [.cells cs]) (by rw [Qgk]; exact h)
theorem Qeu {cs : List V} {τ : Objs} (h : V.rbs 1 cs = true) : cuO 1 (.cells cs :: τ) = some [.cells cs] := Qd9 (σ := [.cells cs]) (τ := τ) (by rw [Qgk]; exact h)
theorem Wdw {cs : List V} {r : V} (h : V.rbs 1 cs = true) (hr : r.rb 1 = true) : nK 1 [.cells cs] r = some (r, [.cells cs]) := Qvh (σ := [.cells cs]) (by rw [Qgk]; exact h) hr
theorem Qze {cs : List V} {τ : Objs} {r : V} (h : V.rbs 1 cs = true) (hr : r.rb 1 = true) : nK 1 (.cells cs :: τ) r = some (r, [.cells cs]) := Qpp (σ := [.cells cs]) (τ := τ) (by rw [Qgk]; exact h) hr
theorem Qzf {cs ds : List V} {t : TypeId} {off : Nat} (h : V.rbs 1 cs = true) (hd : V.rbs 1 ds = true) : nK 1 [.cells cs, .cells ds] (.ifc t (.ptr 1 off)) = some (.ifc t (.eptr ds off), [.cells cs]) := Qpr (σ := [.cells cs]) (by rw [Qgk]; exact h) hd
theorem get1 {O : O} {cs : List V} {τ : Objs} : Objs.get (O :: .cells cs :: τ) 1 = some cs := rfl
theorem Wdx {k : IntKind} {a : Int} {s : List UInt8} (h : 0 ≤ a ∧ a ≤ s.length) : Qgf (.str s) (some (.int k a)) none = some (.str (s.drop a.toNat)) := by
  have hb : bound (.int k a) s.length = some a.toNat := by simp [bound, h]
  have h3 : ((s.drop a.toNat).take (s.length - a.toNat)) = s.drop a.toNat := by rw [List.take_of_length_le]; simp
  simp [Qgf, bounds, hb, h3]
theorem Wdy {k : IntKind} {a : Int} {s : List UInt8} (h : 0 ≤ a ∧ a ≤ s.length) : Qgf (.str s) none (some (.int k a)) = some (.str (s.take a.toNat)) := by
  have hb : bound (.int k a) s.length = some a.toNat := by simp [bound, h]
  simp [Qgf, bounds, hb]
attribute [go_sem] Wdu Qgk Wa6 Wjy Qzd Wdv Qeu Wdw Qze Qzf get0 get1 Wdx Wdy List.nil_append List.cons_append
theorem iP {p : Prop} [Decidable p] {α : Type} {a b : α} (h : p) : (if p then a else b) = a := if_pos h
theorem iN {p : Prop} [Decidable p] {α : Type} {a b : α} (h : ¬ p) : (if p then a else b) = b := if_neg h
attribute [go_sem] Int.reduceToNat Int.toNat_natCast Int.toNat_zero Int.reduceAdd Int.reduceSub Int.reduceMul Int.reduceNeg Int.reduceLT Int.reduceLE Nat.reduceSub Nat.reduceMul
theorem Qbr {k : IntKind} {i : Int} {s : List UInt8} {c : Cap} (h : 0 ≤ i ∧ i < s.length) : eI 1 (.int k i) (.sl (Qac s) c) = some (.eptr [.int .u8 (s.getD i.toNat 0).toNat] 0) := by
  have h3 : i.toNat < s.length := by omega
  have h4 : (Qac s).length = s.length := by simp [Qac]
  have h5 : (Qac s)[i.toNat]? = some (.int .u8 (s.getD i.toNat 0).toNat) := by simp [Qac, h3]
  simp only [eI, index, h4, if_pos h, Option.bind_eq_bind, Option.bind_some, h5]
  rfl
theorem Qn6 {s : List UInt8} : (Qac s).length = s.length := by simp [Qac]
theorem Qzg {α : Type} {p r : List α} {b x : α} : (p ++ b :: r).getD p.length x = b := by simp
attribute [go_sem] Qbr Qn6 Qzg
attribute [go_sem] reduceCtorEq List.getElem?_cons_zero List.getElem?_cons_succ List.length_append
theorem Qmh {a b : Int} (h : 0 ≤ a ∧ 0 ≤ b) : a.tmod b = a % b := Int.tmod_eq_emod_of_nonneg h.1
theorem Qmi {a b : Int} (h : 0 ≤ a ∧ 0 ≤ b) : a.tdiv b = a / b := Int.tdiv_eq_ediv_of_nonneg h.1
theorem Qzh {k : IntKind} {a : Int} : agOk false (.int k a) = true := rfl
theorem Qzi {s : List UInt8} : agOk false (.str s) = true := rfl
theorem Qvy {b : Bool} : agOk false (.bool b) = true := rfl
theorem Qzj {cs : List V} : agOk true (.agg cs) = true := rfl
theorem Qvz {ag : Bool} {sz len : Nat} {z : V} {ps : List (Nat × V)} : Qax ag sz len z ps = (Qc7 sz (List.replicate len z) ps).bind fun xs => if Qcy ag sz xs = true then some (.sl xs .fx) else none := rfl
theorem Qv0 {sz : Nat} {z : List V} : Qc7 sz z [] = some z := rfl
theorem Qs1 {sz i : Nat} {z : List V} {x : V} {r : List (Nat × V)} (h1 : x.cells.length = sz) (h2 : i < z.length) (h3 : Qai x.cells = true) : Qc7 sz z ((i, x) :: r) = Qc7 sz (z.set i x.ng) r := by simp [Qc7, h1, h2, h3]
theorem Qn7 {ag : Bool} {sz : Nat} : Qcy ag sz [] = true := rfl
theorem Qs2 {ag : Bool} {sz : Nat} {y : V} {ys : List V} : Qcy ag sz (y :: ys) = (decide (y.cells.length = sz) && Qai y.cells && agOk ag y && Qcy ag sz ys) := rfl
theorem Qpt {σ : Objs} {xs : List V} {c : Cap} : eC σ .bytesStr (.sl xs c) = (bytesOf xs).map V.str := rfl
theorem Qpu : bytesOf [] = some [] := rfl
theorem Qiw {n : Int} {xs : List V} : bytesOf (.int .u8 n :: xs) = (bytesOf xs).map fun bs => UInt8.ofNat n.toNat :: bs := by simp only [bytesOf]; cases bytesOf xs <;> rfl
theorem Qzk : eB .neq .ifc .nili .nili = some (.bool false) := rfl
theorem Wdz : eB .eql .ifc .nili .nili = some (.bool true) := rfl
theorem Wd0 {t : TypeId} {x : V} : eB .neq .ifc (.ifc t x) .nili = some (.bool true) := rfl
theorem Wgz {t : TypeId} {x : V} : eB .eql .ifc (.ifc t x) .nili = some (.bool false) := rfl
attribute [go_sem] Qzh Qzi Qvy Qzj Qvz Qv0 Qs1 Qn7 Qs2 Qpt Qpu Qiw Qzk Wdz Wd0 Wgz List.length_replicate List.replicate_succ List.replicate_zero List.set_cons_zero List.set_cons_succ
end Go.Ev
namespace Go.Ev
open Go
def rn (b k o : Nat) : Nat := if o < b then o else o + k
theorem Wd1 {b k o n : Nat} (hn : b ≤ n) : (rn b k o < n + k) ↔ o < n := by unfold rn; split <;> omega
theorem Wg0 {b k o p : Nat} : (rn b k o = rn b k p) ↔ o = p := by unfold rn; split <;> split <;> omega
mutual
def V.sh (b k : Nat) : V → V
  | .ptr o off => .ptr (rn b k o) off
  | .hs o off len sz ag => .hs (rn b k o) off len sz ag
  | .mp o => .mp (rn b k o)
  | .eptr cs off => .eptr (V.shs b k cs) off
  | .sl xs c => .sl (V.shs b k xs) c
  | .agg cs => .agg (V.shs b k cs)
  | .tup cs => .tup (V.shs b k cs)
  | .ifc t x => .ifc t (V.sh b k x)
  | .fn f xs ys => .fn f (V.shs b k xs) (V.shs b k ys)
  | .any => .any | .undef => .undef | .bool x => .bool x | .int j n => .int j n | .str s => .str s
  | .nilp => .nilp | .nils => .nils | .nili => .nili | .nilf => .nilf | .nilm => .nilm
def V.shs (b k : Nat) : List V → List V
  | [] => []
  | x :: xs => V.sh b k x :: V.shs b k xs
end
theorem Qan {b k : Nat} : ∀ {l : List V}, V.shs b k l = l.map (V.sh b k)
  | [] => rfl
  | x :: xs => by rw [V.shs, Qan]; rfl
mutual
theorem Qbq {b k : Nat} : ∀ {x : V}, V.rb 0 x = true → V.sh b k x = x
  | .ptr o off, h => by simp [V.rb] at h
  | .hs o off len sz ag, h => by simp [V.rb] at h
  | .mp o, h => by simp [V.rb] at h
  | .eptr cs off, h => by rw [V.sh, Qbj (by simpa [V.rb] using h)]
  | .sl xs c, h => by rw [V.sh, Qbj (by simpa [V.rb] using h)]
  | .agg cs, h => by rw [V.sh, Qbj (by simpa [V.rb] using h)]
  | .tup cs, h => by rw [V.sh, Qbj (by simpa [V.rb] using h)]
  | .ifc t x, h => by rw [V.sh, Qbq (by simpa [V.rb] using h)]
  | .fn f xs ys, h => by
    have h' : V.rbs 0 xs = true ∧ V.rbs 0 ys = true := by simpa [V.rb] using h
    rw [V.sh, Qbj h'.1, Qbj h'.2]
  | .any, _ => rfl | .undef, _ => rfl | .bool x, _ => rfl | .int j n, _ => rfl | .str s, _ => rfl
  | .nilp, _ => rfl | .nils, _ => rfl | .nili, _ => rfl | .nilf, _ => rfl | .nilm, _ => rfl
theorem Qbj {b k : Nat} : ∀ {l : List V}, V.rbs 0 l = true → V.shs b k l = l
  | [], _ => rfl
  | x :: xs, h => by
    rw [Qaf, Bool.and_eq_true] at h
    rw [V.shs, Qbq h.1, Qbj h.2]
end
mutual
theorem Qzl {b k n : Nat} (hn : b ≤ n) : ∀ {x : V}, V.rb (n + k) (V.sh b k x) = V.rb n x
  | .ptr o off => by simp [V.rb, V.sh, Wd1 hn]
  | .hs o off len sz ag => by simp [V.rb, V.sh, Wd1 hn]
  | .mp o => by simp [V.rb, V.sh, Wd1 hn]
  | .eptr cs off => by rw [V.sh, Qpq, Qpq, Qhl hn]
  | .sl xs c => by rw [V.sh, Qy9, Qy9, Qhl hn]
  | .agg cs => by rw [V.sh, Qa9, Qa9, Qhl hn]
  | .tup cs => by rw [V.sh, Qvk, Qvk, Qhl hn]
  | .ifc t x => by rw [V.sh, Qre, Qre, Qzl hn]
  | .fn f xs ys => by
    have h1 := Qhl (k := k) hn (l := xs)
    have h2 := Qhl (k := k) hn (l := ys)
    simp [V.rb, V.sh, h1, h2]
  | .any => rfl | .undef => rfl | .bool x => rfl | .int j n => rfl | .str s => rfl
  | .nilp => rfl | .nils => rfl | .nili => rfl | .nilf => rfl | .nilm => rfl
theorem Qhl {b k n : Nat} (hn : b ≤ n) : ∀ {l : List V}, V.rbs (n + k) (V.shs b k l) = V.rbs n l
  | [] => rfl
  | x :: xs => by rw [V.shs, Qaf, Qaf, Qzl hn, Qhl hn]
end
theorem Wg1 {b k o p : Nat} : (rn b k o == rn b k p) = (o == p) := by rw [Bool.eq_iff_iff]; simp [Wg0]
mutual
theorem Wa7 {b k : Nat} : ∀ {x y : V}, V.beq (V.sh b k x) (V.sh b k y) = V.beq x y
  | x, y => by
    cases x <;> cases y <;> first
      | rfl
      | (simp only [V.sh, V.beq, Qpv, Wa7]; done)
      | (simp only [V.sh, V.beq, Wg1]; done)
theorem Qpv {b k : Nat} : ∀ {l m : List V}, V.beqs (V.shs b k l) (V.shs b k m) = V.beqs l m
  | [], [] => rfl
  | [], _ :: _ => rfl
  | _ :: _, [] => rfl
  | x :: xs, y :: ys => by simp only [V.shs, V.beqs]; rw [Wa7, Qpv]
end
section
variable {b k : Nat}
theorem Qfo {x : V} : (V.sh b k x).ng = V.sh b k x.ng := by cases x <;> rfl
theorem Wd2 {x : V} : (V.sh b k x).isLk = x.isLk := by
  cases x with
  | sl xs c => cases c <;> rfl
  | _ => rfl
theorem Qd2 {x : V} : (V.sh b k x).cells = x.cells.map (V.sh b k) := by
  cases x <;> first | rfl | (simp only [V.sh, V.cells, Qan, List.map_cons, List.map_nil]; done)
theorem Wa8 {x : V} : V.one (V.sh b k x) = V.one x := by cases x <;> rfl
theorem Qv1 {ag : Bool} {x : V} : agOk ag (V.sh b k x) = agOk ag x := by cases x <;> rfl
theorem Qlk {l : List V} : Qai (l.map (V.sh b k)) = Qai l := by
  unfold Qai
  rw [List.all_map]
  congr 1
  funext x
  exact Wa8
theorem Qb7 {l : List V} : (l.map (V.sh b k)).map V.ng = (l.map V.ng).map (V.sh b k) := by
  rw [List.map_map, List.map_map]
  congr 1
  funext x
  exact Qfo
theorem Qid {ag : Bool} {sz off : Nat} {cs : List V} : part ag sz (cs.map (V.sh b k)) off = (part ag sz cs off).map (V.sh b k) := by
  unfold part
  rw [List.length_map]
  cases ag with
  | true =>
    simp only [if_true]
    split
    · simp only [Option.map_some, V.sh, Qan, ← List.map_drop, ← List.map_take, Qb7]
    · rfl
  | false =>
    simp only [Bool.false_eq_true, if_false]
    split
    · rw [List.getElem?_map]
      cases cs[off]? with
      | none => rfl
      | some x => simp only [Option.map_some, Qfo]
    · rfl
theorem Qhm {ag : Bool} {sz : Nat} {cs : List V} : ∀ {n off : Nat}, chunks ag sz (cs.map (V.sh b k)) n off = (chunks ag sz cs n off).map (List.map (V.sh b k))
  | 0, _ => rfl
  | n + 1, off => by
    simp only [chunks, Qid, Qhm, Option.bind_eq_bind]
    cases part ag sz cs off with
    | none => rfl
    | some x =>
      simp only [Option.map_some, Option.bind_some]
      cases chunks ag sz cs n (off + sz) <;> rfl
theorem Qjg : ∀ {cs : List V} {n : Nat} {xs : List V}, Qcc (cs.map (V.sh b k)) n (xs.map (V.sh b k)) = (Qcc cs n xs).map (V.sh b k)
  | cs, n, [] => by rw [List.map_nil, Qka, Qka]
  | [], n, x :: xs => by cases n <;> rfl
  | c :: cs, 0, x :: xs => by simp only [List.map_cons, Qvw, Qjg]
  | c :: cs, n + 1, x :: xs => by
    have := Qjg (cs := cs) (n := n) (xs := x :: xs)
    simp only [List.map_cons] at this
    simp only [List.map_cons, Qvx, this]
theorem Wa9 : ∀ {ps : List (Nat × Nat × V)} {z : List V}, lay (z.map (V.sh b k)) (ps.map fun p => (p.1, p.2.1, V.sh b k p.2.2)) = (lay z ps).map (List.map (V.sh b k))
  | [], z => rfl
  | (off, sz, x) :: r, z => by
    simp only [List.map_cons, lay, Qd2, List.length_map, Qlk, Qb7, Qjg]
    split
    · exact Wa9
    · rfl
theorem Qmj {sz : Nat} : ∀ {ps : List (Nat × V)} {z : List V}, Qc7 sz (z.map (V.sh b k)) (ps.map fun p => (p.1, V.sh b k p.2)) = (Qc7 sz z ps).map (List.map (V.sh b k))
  | [], z => rfl
  | (i, x) :: r, z => by
    simp only [List.map_cons, Qc7, Qd2, List.length_map, Qlk, Qfo, ← List.map_set]
    split
    · exact Qmj
    · rfl
theorem Qmk {ag : Bool} {sz : Nat} {ys : List V} : Qcy ag sz (ys.map (V.sh b k)) = Qcy ag sz ys := by
  unfold Qcy
  rw [List.all_map]
  congr 1
  funext x
  simp only [Function.comp, Qd2, List.length_map, Qlk, Qv1]
theorem Qpw {xs : List V} : (xs.map (V.sh b k)).flatMap V.cells = (xs.flatMap V.cells).map (V.sh b k) := by
  rw [List.flatMap_map, List.map_flatMap]
  congr 1
  funext x
  exact Qd2
theorem Qpx {f g : V → Option V} (h : ∀ x, g (V.sh b k x) = (f x).map (V.sh b k)) : ∀ {l : List V}, (l.map (V.sh b k)).mapM g = (l.mapM f).map (List.map (V.sh b k))
  | [] => rfl
  | x :: xs => by
    simp only [List.map_cons, List.mapM_cons, h, Qpx h, Option.bind_eq_bind]
    cases f x with
    | none => rfl
    | some y =>
      simp only [Option.map_some, Option.bind_some]
      cases xs.mapM f <;> rfl
def O.sh (b k : Nat) : O → O
  | .cells cs => .cells (cs.map (V.sh b k))
  | .mp es => .mp (es.map fun p => (V.sh b k p.1, V.sh b k p.2))
end
def ins (b : Nat) (φ σ : Objs) : Objs := (σ.map (O.sh b φ.length)).take b ++ φ ++ (σ.map (O.sh b φ.length)).drop b
section
variable {b : Nat} {φ σ : Objs}
theorem Qpy (hb : b ≤ σ.length) : (ins b φ σ).length = σ.length + φ.length := by simp [ins]; omega
theorem Qpz (hb : b ≤ σ.length) (o : Nat) : (ins b φ σ)[rn b φ.length o]? = (σ[o]?).map (O.sh b φ.length) := by
  unfold ins rn
  split
  · rename_i h
    rw [List.append_assoc, List.getElem?_append_left (by simp; omega), List.getElem?_take, if_pos h, List.getElem?_map]
  · rename_i h
    rw [List.getElem?_append_right (by simp; omega), List.getElem?_drop, List.getElem?_map]
    congr 2
    simp; omega
theorem Qie (hb : b ≤ σ.length) (o : Nat) (x : O) : (ins b φ σ).set (rn b φ.length o) (x.sh b φ.length) = ins b φ (σ.set o x) := by
  unfold ins rn
  split
  · rename_i h
    rw [List.append_assoc, List.set_append_left _ _ (by simp; omega), ← List.append_assoc, List.map_set, List.take_set, List.drop_set_of_lt h]
  · rename_i h
    rw [List.set_append_right _ _ (by simp; omega), List.map_set, List.take_set_of_le (by omega), List.drop_set]
    rw [if_neg (by omega)]
    congr 2
    simp; omega
theorem Qgy (hb : b ≤ σ.length) (x : O) : ins b φ σ ++ [x.sh b φ.length] = ins b φ (σ ++ [x]) := by
  unfold ins
  rw [List.map_append, List.take_append_of_le_length (by simpa using hb), List.drop_append_of_le_length (by simpa using hb), List.append_assoc]
  rfl
theorem Qc1 (hb : b ≤ σ.length) (o : Nat) : Objs.get (ins b φ σ) (rn b φ.length o) = (Objs.get σ o).map (List.map (V.sh b φ.length)) := by
  unfold Objs.get
  rw [Qpz hb]
  cases σ[o]? with
  | none => rfl
  | some x => cases x <;> rfl
theorem Qfp (hb : b ≤ σ.length) : (ins b φ σ).length = rn b φ.length σ.length := by
  rw [Qpy hb]; unfold rn; rw [if_neg (by omega)]
theorem Qzm (hb : b ≤ σ.length) {n : Nat} (hn : b ≤ n) : ∀ {d : Nat} {x : V}, fz (n + φ.length) (ins b φ σ) d (V.sh b φ.length x) = (fz n σ d x).map (V.sh b φ.length)
  | 0, x => by
    unfold fz
    rw [Qzl hn]
    split <;> rfl
  | d + 1, x => by
    have ih : ∀ y, fz (n + φ.length) (ins b φ σ) d (V.sh b φ.length y) = (fz n σ d y).map (V.sh b φ.length) := fun y => Qzm hb hn
    have ihm : ∀ l : List V, (l.map (V.sh b φ.length)).mapM (fz (n + φ.length) (ins b φ σ) d) = (l.mapM (fz n σ d)).map (List.map (V.sh b φ.length)) := fun l => Qpx ih
    unfold fz
    rw [Qzl hn]
    split
    · rfl
    · cases x with
      | ptr o off =>
        simp only [V.sh, Qc1 hb, Option.bind_eq_bind]
        cases Objs.get σ o with
        | none => rfl
        | some cs =>
          simp only [Option.map_some, Option.bind_some, ihm]
          cases cs.mapM (fz n σ d) with
          | none => rfl
          | some ds => simp only [Option.map_some, Option.bind_some, Option.pure_def, V.sh, Qan]
      | hs o off len sz ag =>
        simp only [V.sh, Qc1 hb, Option.bind_eq_bind]
        cases Objs.get σ o with
        | none => rfl
        | some cs =>
          simp only [Option.map_some, Option.bind_some, Qhm]
          cases chunks ag sz cs len off with
          | none => rfl
          | some xs =>
            simp only [Option.map_some, Option.bind_some, ihm]
            cases xs.mapM (fz n σ d) with
            | none => rfl
            | some ds => simp only [Option.map_some, Option.bind_some, Option.pure_def, V.sh, Qan]
      | eptr cs off =>
        simp only [V.sh, Qan, ihm, Option.bind_eq_bind]
        cases cs.mapM (fz n σ d) with
        | none => rfl
        | some ds => simp only [Option.map_some, Option.bind_some, Option.pure_def, V.sh, Qan]
      | sl cs c =>
        simp only [V.sh, Qan, ihm, Option.bind_eq_bind]
        cases cs.mapM (fz n σ d) with
        | none => rfl
        | some ds => simp only [Option.map_some, Option.bind_some, Option.pure_def, V.sh, Qan]
      | agg cs =>
        simp only [V.sh, Qan, ihm, Option.bind_eq_bind]
        cases cs.mapM (fz n σ d) with
        | none => rfl
        | some ds => simp only [Option.map_some, Option.bind_some, Option.pure_def, V.sh, Qan]
      | tup cs =>
        simp only [V.sh, Qan, ihm, Option.bind_eq_bind]
        cases cs.mapM (fz n σ d) with
        | none => rfl
        | some ds => simp only [Option.map_some, Option.bind_some, Option.pure_def, V.sh, Qan]
      | ifc t x =>
        simp only [V.sh, ih, Option.bind_eq_bind]
        cases fz n σ d x with
        | none => rfl
        | some ds => simp only [Option.map_some, Option.bind_some, Option.pure_def, V.sh]
      | fn g xs ys =>
        simp only [V.sh, Qan, ihm, Option.bind_eq_bind]
        cases xs.mapM (fz n σ d) with
        | none => rfl
        | some us =>
          simp only [Option.map_some, Option.bind_some]
          cases ys.mapM (fz n σ d) with
          | none => rfl
          | some ds => simp only [Option.map_some, Option.bind_some, Option.pure_def, V.sh, Qan]
      | _ => rfl
end
end Go.Ev
namespace Go.Ev
open Go
section
variable {b k : Nat}
theorem Qn8 {x y : V} : Qk8 (V.sh b k x) (V.sh b k y) = Qk8 x y := by cases x <;> cases y <;> rfl
theorem Qs3 {c : CK} {x y : V} : Qdp c (V.sh b k x) (V.sh b k y) = Qdp c x y := by cases c <;> cases x <;> cases y <;> rfl
theorem Qll : ∀ {ks : List CK} {xs ys : List V}, Qa6 ks (xs.map (V.sh b k)) (ys.map (V.sh b k)) = Qa6 ks xs ys
  | [], [], [] => rfl
  | [], [], _ :: _ => rfl
  | [], _ :: _, _ => rfl
  | _ :: _, [], _ => rfl
  | _ :: _, _ :: _, [] => rfl
  | c :: ks, x :: xs, y :: ys => by simp only [List.map_cons, Qa6, Qs3, Qll]
theorem Wg2 {e : EqK} {x y : V} : eqV e (V.sh b k x) (V.sh b k y) = eqV e x y := by
  cases e with
  | agg ks =>
    cases x <;> cases y <;> first | rfl | (simp only [V.sh, eqV, Qan, Qll]; done)
  | _ => cases x <;> cases y <;> rfl
theorem Qv2 {op : BinOp} {e : EqK} {x y : V} : eB op e (V.sh b k x) (V.sh b k y) = eB op e x y := by
  have h := @Wg2 b k e x y
  cases x <;> cases y <;> first | rfl | (simp only [V.sh] at h ⊢; simp only [eB, h]; done)
theorem Qv3 {op : BinOp} {e : EqK} {x y v : V} (h : eB op e x y = some v) : V.rb 0 v = true := by
  unfold eB at h
  split at h
  · split at h
    · split at h <;> cases h; rfl
    · split at h <;> cases h; rfl
    · split at h
      · split at h <;> first | (cases h; rfl) | (split at h <;> cases h; rfl) | cases h
      · cases h
  · split at h <;> first | (cases h; rfl) | (split at h <;> cases h; rfl) | cases h
  · split at h
    · rw [Option.map_eq_some_iff] at h; obtain ⟨a, _, rfl⟩ := h; rfl
    · rw [Option.map_eq_some_iff] at h; obtain ⟨a, _, rfl⟩ := h; rfl
    · cases h
theorem Qs4 {x : Option V} (h : ∀ v, x = some v → V.rb 0 v = true) : x.map (V.sh b k) = x := by
  cases x with
  | none => rfl
  | some v => rw [Option.map_some, Qbq (h v rfl)]
theorem Qzn {op : BinOp} {e : EqK} {x y : V} : eB op e (V.sh b k x) (V.sh b k y) = (eB op e x y).map (V.sh b k) := by
  rw [Qv2, Qs4 fun v h => Qv3 h]
theorem Wd3 {op : UnOp} {x : V} : evUn op (V.sh b k x) = (evUn op x).map (V.sh b k) := by cases op <;> cases x <;> rfl
theorem Qf4 : ∀ {l : List V}, bytesOf (l.map (V.sh b k)) = bytesOf l
  | [] => rfl
  | x :: xs => by
    cases x with
    | int j n => cases j <;> simp only [List.map_cons, V.sh, bytesOf, Qf4]
    | _ => rfl
theorem Qzo {x : V} {hi : Nat} : bound (V.sh b k x) hi = bound x hi := by cases x <;> rfl
theorem Qfq {len : Nat} {lo hi mx : Option V} : bounds len (lo.map (V.sh b k)) (hi.map (V.sh b k)) (mx.map (V.sh b k)) = bounds len lo hi mx := by
  cases lo <;> cases hi <;> cases mx <;> simp only [bounds, Option.map_some, Option.map_none, Qzo]
theorem Qv4 {x : V} {lo hi : Option V} : Qgf (V.sh b k x) (lo.map (V.sh b k)) (hi.map (V.sh b k)) = (Qgf x lo hi).map (V.sh b k) := by
  cases x with
  | str s =>
    have := @Qfq b k s.length lo hi none
    simp only [Option.map_none] at this
    simp only [V.sh, Qgf, this, Option.bind_eq_bind]
    cases bounds s.length lo hi none <;> rfl
  | _ => rfl
theorem Qv5 {sz : Nat} {xs : List V} : (xs.map (V.sh b k)).all (fun y => decide (y.cells.length = sz)) = xs.all (fun y => decide (y.cells.length = sz)) := by
  rw [List.all_map]
  congr 1
  funext x
  simp only [Function.comp, Qd2, List.length_map]
theorem Qzp {sz : Nat} {x : V} {lo hi mx : Option V} : Qba sz (V.sh b k x) (lo.map (V.sh b k)) (hi.map (V.sh b k)) (mx.map (V.sh b k)) = (Qba sz x lo hi mx).map (V.sh b k) := by
  cases x with
  | nils =>
    simp only [V.sh, Qba, Qfq, Option.bind_eq_bind]
    cases bounds 0 lo hi mx <;> rfl
  | sl xs c =>
    simp only [V.sh, Qba, Qan, List.length_map, Qfq, Qv5, Option.bind_eq_bind]
    cases bounds xs.length lo hi mx with
    | none => rfl
    | some p =>
      obtain ⟨l, h, m⟩ := p
      simp only [Option.bind_some]
      split
      · simp only [Option.map_some, V.sh, Qan, List.map_take, List.map_drop]
      · rfl
  | hs o off len s ag =>
    simp only [V.sh, Qba, Qfq, Option.bind_eq_bind]
    cases bounds len lo hi mx with
    | none => rfl
    | some p =>
      obtain ⟨l, h, m⟩ := p
      simp only [Option.bind_some]
      split
      · split <;> rfl
      · rfl
  | _ => rfl
theorem Qv6 {n sz : Nat} {ag : Bool} {x : V} {lo hi : Option V} : Qe1 n sz ag (V.sh b k x) (lo.map (V.sh b k)) (hi.map (V.sh b k)) = (Qe1 n sz ag x lo hi).map (V.sh b k) := by
  have := @Qfq b k n lo hi none
  simp only [Option.map_none] at this
  unfold Qe1
  rw [this]
  cases bounds n lo hi none with
  | none => rfl
  | some p =>
    obtain ⟨l, h, m⟩ := p
    simp only [Option.bind_eq_bind, Option.bind_some]
    cases x with
    | ptr o off => simp only [V.sh]; split <;> rfl
    | eptr cs off =>
      simp only [V.sh, Qan, Qhm]
      cases chunks ag sz cs (h - l) (off + l * sz) with
      | none => rfl
      | some xs =>
        simp only [Option.map_some, Option.bind_some, Qlk]
        split
        · simp only [Option.map_some, V.sh, Qan]
        · rfl
    | _ => rfl
theorem Qhn {x : V} {n : Nat} : index (V.sh b k x) n = index x n := by cases x <;> rfl
theorem Qs5 {ag : Bool} {off sz : Nat} {x : V} : Qgn ag off sz (V.sh b k x) = (Qgn ag off sz x).map (V.sh b k) := by
  cases x <;> first | rfl | (simp only [V.sh, Qgn, Qan, Qid]; done)
theorem Qs6 {off : Nat} {x : V} : eF off (V.sh b k x) = (eF off x).map (V.sh b k) := by cases x <;> rfl
theorem Qs7 {sz : Nat} {i x : V} : eI sz (V.sh b k i) (V.sh b k x) = (eI sz i x).map (V.sh b k) := by
  cases x with
  | sl xs c =>
    simp only [V.sh, eI, Qhn, Qan, List.length_map, List.getElem?_map, Option.bind_eq_bind]
    cases index i xs.length with
    | none => rfl
    | some j =>
      simp only [Option.bind_some]
      cases xs[j]? with
      | none => rfl
      | some e =>
        simp only [Option.map_some, Option.bind_some, Qd2, List.length_map]
        split
        · simp only [Option.map_some, V.sh, Qan]
        · rfl
  | hs o off len s ag =>
    simp only [V.sh, eI, Qhn, Option.bind_eq_bind]
    cases index i len with
    | none => rfl
    | some j =>
      simp only [Option.bind_some]
      split <;> rfl
  | _ => rfl
theorem Qp0 {n sz : Nat} {i x : V} : Qcq n sz (V.sh b k i) (V.sh b k x) = (Qcq n sz i x).map (V.sh b k) := by
  simp only [Qcq, Qhn, Option.bind_eq_bind]
  cases index i n with
  | none => rfl
  | some j => cases x <;> rfl
theorem Qzq {i x : V} : Qly (V.sh b k i) (V.sh b k x) = (Qly i x).map (V.sh b k) := by
  cases x with
  | str s =>
    simp only [V.sh, Qly, Qhn, Option.bind_eq_bind]
    cases index i s.length with
    | none => rfl
    | some j =>
      simp only [Option.bind_some]
      cases s[j]? <;> rfl
  | _ => rfl
theorem Qv7 {n : Nat} {ag : Bool} {sz : Nat} {i x : V} : Qk9 n ag sz (V.sh b k i) (V.sh b k x) = (Qk9 n ag sz i x).map (V.sh b k) := by
  simp only [Qk9, Qhn, Option.bind_eq_bind]
  cases index i n with
  | none => rfl
  | some j => cases x <;> first | rfl | (simp only [V.sh, Qan, Qid, Option.bind_some]; done)
theorem Qv8 {i : Nat} {x : V} : eX i (V.sh b k x) = (eX i x).map (V.sh b k) := by
  cases x <;> first | rfl | (simp only [V.sh, eX, Qan, List.getElem?_map]; done)
theorem Qv9 {x : V} : Qe2 (V.sh b k x) = (Qe2 x).map (V.sh b k) := by cases x <;> rfl
theorem Qzr {x : V} : Qaq (V.sh b k x) = (Qaq x).map (V.sh b k) := by
  cases x <;> first | rfl | (simp only [V.sh, Qaq, Qan, List.length_map, Option.map_some]; done)
theorem Qwa {x : V} : Qa8 (V.sh b k x) = (Qa8 x).map (V.sh b k) := by cases x <;> rfl
theorem Qrf {x : V} : Qfb (V.sh b k x) = Qfb x := by cases x <;> rfl
theorem Qrg {mx : Bool} : ∀ {xs : List V} {x : V}, Qjn mx (V.sh b k x) (xs.map (V.sh b k)) = (Qjn mx x xs).map (V.sh b k)
  | [], x => rfl
  | y :: ys, x => by
    cases x with
    | int j a =>
      cases y with
      | int i c =>
        have := Qrg (mx := mx) (xs := ys) (x := .int j (if mx then (if c > a then c else a) else (if c < a then c else a)))
        simp only [V.sh] at this
        simp only [List.map_cons, V.sh, Qjn]
        split
        · exact this
        · rfl
      | _ => simp only [List.map_cons, V.sh, Qjn, Option.map_none]
    | _ => simp only [List.map_cons, V.sh, Qjn, Option.map_none]
theorem Qrh {x : V} : ∀ {es : List (V × V)}, mfind (V.sh b k x) (es.map fun p => (V.sh b k p.1, V.sh b k p.2)) = (mfind x es).map (Option.map (V.sh b k))
  | [] => rfl
  | (y, z) :: r => by
    simp only [List.map_cons, mfind, Qn8, Option.bind_eq_bind]
    cases Qk8 x y with
    | none => rfl
    | some t =>
      simp only [Option.bind_some]
      split
      · rfl
      · exact Qrh
theorem Qwb {x z : V} : ∀ {es : List (V × V)}, mput (V.sh b k x) (V.sh b k z) (es.map fun p => (V.sh b k p.1, V.sh b k p.2)) = (mput x z es).map (List.map fun p => (V.sh b k p.1, V.sh b k p.2))
  | [] => rfl
  | (y, u) :: r => by
    simp only [List.map_cons, mput, Qn8, Option.bind_eq_bind]
    cases Qk8 x y with
    | none => rfl
    | some t =>
      simp only [Option.bind_some]
      split
      · rfl
      · rw [Qwb]
        cases mput x z r <;> rfl
theorem Qml {ag : Bool} {sz bytes : Nat} {x : V} {ys : List V} : Qdk ag sz bytes (V.sh b k x) (ys.map (V.sh b k)) = (Qdk ag sz bytes x ys).map (V.sh b k) := by
  unfold Qdk
  rw [Qmk]
  split
  · cases x with
    | nils =>
      simp only [V.sh, List.map_eq_nil_iff, List.length_map]
      split
      · rfl
      · split
        · simp only [Option.map_some, V.sh, Qan]
        · rfl
    | sl xs c =>
      cases ys with
      | nil => simp only [V.sh, List.map_nil, Option.map_some]
      | cons y ys =>
        simp only [V.sh, List.map_cons, Qan, Qv5, List.length_map, List.length_cons]
        split
        · simp only [Option.map_some, V.sh, Qan, List.map_append, List.map_cons]
        · rfl
    | _ => rfl
  · rfl
end
section
variable {b : Nat} {φ σ : Objs}
theorem Qwc (hb : b ≤ σ.length) {ag : Bool} {sz : Nat} {x : V} : eL (ins b φ σ) ag sz (V.sh b φ.length x) = (eL σ ag sz x).map (V.sh b φ.length) := by
  cases x with
  | ptr o off =>
    simp only [V.sh, eL, Qc1 hb, Option.bind_eq_bind]
    cases Objs.get σ o with
    | none => rfl
    | some cs => simp only [Option.map_some, Option.bind_some, Qid]
  | eptr cs off => simp only [V.sh, eL, Qan, Qid]
  | _ => rfl
theorem Qri (hb : b ≤ σ.length) {x : V} : Qh0 (ins b φ σ) (V.sh b φ.length x) = (Qh0 σ x).map (List.map (V.sh b φ.length)) := by
  cases x with
  | sl xs c => simp only [V.sh, Qh0, Qan, Option.map_some]
  | hs o off len sz ag =>
    simp only [V.sh, Qh0, Qc1 hb, Option.bind_eq_bind]
    cases Objs.get σ o with
    | none => rfl
    | some cs => simp only [Option.map_some, Option.bind_some, Qhm]
  | _ => rfl
theorem Qif {c k : Nat} {s : List UInt8} : (Qac s).map (V.sh c k) = Qac s := by
  unfold Qac
  rw [List.map_map]
  congr 1
theorem Qrj (hb : b ≤ σ.length) {str : Bool} {x : V} : Qeq str (ins b φ σ) (V.sh b φ.length x) = (Qeq str σ x).map (List.map (V.sh b φ.length)) := by
  cases str with
  | true =>
    cases x with
    | str s => simp only [V.sh, Qeq, if_true, Option.map_some, Qif]
    | _ => rfl
  | false => exact Qri hb
theorem Qn9 (hb : b ≤ σ.length) {c : Conv} {x : V} : eC (ins b φ σ) c (V.sh b φ.length x) = (eC σ c x).map (V.sh b φ.length) := by
  have hbs : ∀ y : Option (List UInt8), y.map V.str = (y.map V.str).map (V.sh b φ.length) := fun y => by cases y <;> rfl
  cases c with
  | toInt j => cases x <;> rfl
  | same => cases x <;> rfl
  | intStr => cases x <;> rfl
  | strBytes =>
    cases x with
    | str s => simp only [V.sh, eC, Option.map_some, Qan, Qif]
    | _ => rfl
  | bytesStr =>
    cases x with
    | sl xs c => simp only [V.sh, eC, Qan, Qf4]; exact hbs _
    | hs o off len sz ag =>
      have := Qri hb (φ := φ) (x := .hs o off len sz ag)
      simp only [V.sh] at this
      simp only [V.sh, eC, this, Option.bind_eq_bind]
      cases Qh0 σ (.hs o off len sz ag) with
      | none => rfl
      | some xs => simp only [Option.map_some, Option.bind_some, Qf4]; exact hbs _
    | _ => rfl
  | bytesStrN =>
    cases x with
    | sl xs c => simp only [V.sh, eC, Qan, Qf4]; exact hbs _
    | _ => rfl
end
def Arg.cl : Arg → Bool
  | .c x => V.rb 0 x
  | _ => true
def oCl : Option Arg → Bool
  | none => true
  | some a => a.cl
def Ins.cl : Ins → Bool
  | .mv x _ | .box x | .loadT x | .nilc x | .un _ x | .conv _ x | .faddr _ x | .field _ _ _ x | .lenS x | .len x | .mkif _ x | .extr x _ | .bytesH x | .mark x | .load _ _ x => x.cl
  | .pick c a b => c.cl && a.cl && b.cl
  | .alloc z => V.rbs 0 z
  | .build z ps => V.rbs 0 z && ps.all fun p => p.2.2.cl
  | .buildSl _ _ _ z ps _ => V.rb 0 z && ps.all fun p => p.2.cl
  | .buildG _ _ _ z ps => V.rb 0 z && ps.all fun p => p.2.cl
  | .store _ p x _ => p.cl && x.cl
  | .bin _ _ x y => x.cl && y.cl
  | .cutS x lo hi => x.cl && oCl lo && oCl hi
  | .cut _ x lo hi mx => x.cl && oCl lo && oCl hi && oCl mx
  | .cutA _ _ _ x lo hi => x.cl && oCl lo && oCl hi
  | .iaddr _ x i | .iaddrA _ _ x i | .idx x i | .idxA _ _ _ x i => x.cl && i.cl
  | .app _ _ _ _ x y _ | .appH _ _ _ _ x y => x.cl && y.cl
  | .call _ az => az.all Arg.cl
  | .callv x az => x.cl && az.all Arg.cl
  | .mkfn _ a c => a.all Arg.cl && c.all Arg.cl
  | .mkSl _ _ _ z l c _ => V.rb 0 z && l.cl && c.cl
  | .mm _ az => az.all Arg.cl
  | .mkmp => true
  | .mset m k x => m.cl && k.cl && x.cl
  | .mget z m k _ => V.rb 0 z && m.cl && k.cl
section
variable {b : Nat} {φ σ : Objs} {A A' : Arg → V}
theorem Qig {k : Nat} (hA : ∀ a, a.cl = true → A' a = V.sh b k (A a)) : ∀ {az : List Arg}, az.all Arg.cl = true → az.map A' = (az.map A).map (V.sh b k)
  | [], _ => rfl
  | a :: az, h => by
    simp only [List.all_cons, Bool.and_eq_true] at h
    simp only [List.map_cons, hA a h.1, Qig hA h.2]
theorem Qgz {k : Nat} (hA : ∀ a, a.cl = true → A' a = V.sh b k (A a)) {x : Option Arg} (h : oCl x = true) : x.map A' = (x.map A).map (V.sh b k) := by
  cases x with
  | none => rfl
  | some a => simp only [Option.map_some, hA a h]
theorem Qmm {k : Nat} (hA : ∀ a, a.cl = true → A' a = V.sh b k (A a)) : ∀ {ps : List (Nat × Arg)}, ps.all (fun p => p.2.cl) = true → (ps.map fun p => (p.1, A' p.2)) = (ps.map fun p => (p.1, A p.2)).map fun p => (p.1, V.sh b k p.2)
  | [], _ => rfl
  | p :: ps, h => by
    simp only [List.all_cons, Bool.and_eq_true] at h
    simp only [List.map_cons, hA p.2 h.1, Qmm hA h.2]
theorem Qoa {k : Nat} (hA : ∀ a, a.cl = true → A' a = V.sh b k (A a)) : ∀ {ps : List (Nat × Nat × Arg)}, ps.all (fun p => p.2.2.cl) = true → (ps.map fun p => (p.1, p.2.1, A' p.2.2)) = (ps.map fun p => (p.1, p.2.1, A p.2.2)).map fun p => (p.1, p.2.1, V.sh b k p.2.2)
  | [], _ => rfl
  | p :: ps, h => by
    simp only [List.all_cons, Bool.and_eq_true] at h
    simp only [List.map_cons, hA p.2.2 h.1, Qoa hA h.2]
theorem Wg3 {c k : Nat} {z : List V} (h : V.rbs 0 z = true) : z.map (V.sh c k) = z := by rw [← Qan, Qbj h]
theorem Qwd (hb : b ≤ σ.length) (hA : ∀ a, a.cl = true → A' a = V.sh b φ.length (A a)) {i : Ins} (hi : i.cl = true) : Qav A' (ins b φ σ) i = (Qav A σ i).map (V.sh b φ.length) := by
  cases i with
  | pick c x y =>
    simp only [Ins.cl, Bool.and_eq_true] at hi
    simp only [Qav, hA c hi.1.1, hA x hi.1.2, hA y hi.2]
    cases A c with
    | bool t => cases t <;> rfl
    | _ => rfl
  | build z ps =>
    simp only [Ins.cl, Bool.and_eq_true] at hi
    have h1 := @Wa9 b φ.length (ps.map fun p => (p.1, p.2.1, A p.2.2)) z
    rw [← Qoa hA hi.2, Wg3 hi.1] at h1
    simp only [Qav]
    rw [h1]
    cases lay z (ps.map fun p => (p.1, p.2.1, A p.2.2)) with
    | none => rfl
    | some cs => simp only [Option.map_some, V.sh, Qan]
  | nilc x => simp only [Qav, hA x hi, Qwa]
  | bin op e x y =>
    simp only [Ins.cl, Bool.and_eq_true] at hi
    simp only [Qav, hA x hi.1, hA y hi.2, Qzn]
  | un op x => simp only [Qav, hA x hi, Wd3]
  | conv c x => simp only [Qav, hA x hi, Qn9 hb]
  | cutS x lo hi' =>
    simp only [Ins.cl, Bool.and_eq_true] at hi
    simp only [Qav, hA x hi.1.1, Qgz hA hi.1.2, Qgz hA hi.2, Qv4]
  | cut sz x lo hi' mx =>
    simp only [Ins.cl, Bool.and_eq_true] at hi
    simp only [Qav, hA x hi.1.1.1, Qgz hA hi.1.1.2, Qgz hA hi.1.2, Qgz hA hi.2, Qzp]
  | cutA n sz ag x lo hi' =>
    simp only [Ins.cl, Bool.and_eq_true] at hi
    simp only [Qav, hA x hi.1.1, Qgz hA hi.1.2, Qgz hA hi.2, Qv6]
  | load ag sz x => simp only [Qav, hA x hi, Qwc hb]
  | faddr off x => simp only [Qav, hA x hi, Qs6]
  | field ag off sz x => simp only [Qav, hA x hi, Qs5]
  | iaddr sz x i =>
    simp only [Ins.cl, Bool.and_eq_true] at hi
    simp only [Qav, hA x hi.1, hA i hi.2, Qs7]
  | iaddrA n sz x i =>
    simp only [Ins.cl, Bool.and_eq_true] at hi
    simp only [Qav, hA x hi.1, hA i hi.2, Qp0]
  | idx x i =>
    simp only [Ins.cl, Bool.and_eq_true] at hi
    simp only [Qav, hA x hi.1, hA i hi.2, Qzq]
  | idxA n ag sz x i =>
    simp only [Ins.cl, Bool.and_eq_true] at hi
    simp only [Qav, hA x hi.1, hA i hi.2, Qv7]
  | lenS x => simp only [Qav, hA x hi, Qv9]
  | len x => simp only [Qav, hA x hi, Qzr]
  | mkfn f xs ys =>
    simp only [Ins.cl, Bool.and_eq_true] at hi
    simp only [Qav, Qig hA hi.1, Qig hA hi.2, Option.map_some, V.sh, Qan]
  | mkif t x => simp only [Qav, hA x hi, Option.map_some, V.sh]
  | extr x i => simp only [Qav, hA x hi, Qv8]
  | mm mx az =>
    simp only [Qav, Qig hA hi]
    cases az.map A with
    | nil => rfl
    | cons x r =>
      simp only [List.map_cons, Qrf, Qrg]
      split <;> rfl
  | mget z m kk ok =>
    simp only [Ins.cl, Bool.and_eq_true] at hi
    have fin : ∀ r : Option (Option V), (r.map (Option.map (V.sh b φ.length))).bind (fun r => (some (if ok = true then V.tup [r.getD z, .bool r.isSome] else r.getD z) : Option V)) = (r.bind fun r => (some (if ok = true then V.tup [r.getD z, .bool r.isSome] else r.getD z) : Option V)).map (V.sh b φ.length) := by
      intro r
      cases r with
      | none => rfl
      | some r =>
        cases r with
        | none =>
          have hz := Qbq (b := b) (k := φ.length) hi.1.1
          cases ok
          · simp [hz]
          · simp [hz, V.sh, V.shs]
        | some v => cases ok <;> simp [V.sh, V.shs]
    simp only [Qav, hA m hi.1.2, hA kk hi.2]
    cases A m with
    | nilm => exact fin (some none)
    | mp o =>
      simp only [V.sh, Qpz hb]
      cases σ[o]? with
      | none => rfl
      | some O =>
        cases O with
        | cells cs => rfl
        | mp es =>
          simp only [Option.map_some, O.sh, Qrh]
          exact fin _
    | _ => rfl
  | _ => rfl
end
end Go.Ev
namespace Go.Ev
open Go
section
variable {b : Nat} {φ : Objs}
def FrR (b : Nat) (φ : Objs) (x' x : Ro) : Prop := x' = x.map (fun p => (V.sh b φ.length p.1, ins b φ p.2)) ∧ ∀ p, x = some p → b ≤ p.2.length
theorem FrR.none : FrR b φ none none := ⟨rfl, fun _ h => by cases h⟩
theorem FrR.some {v : V} {σ : Objs} (h : b ≤ σ.length) : FrR b φ (some (V.sh b φ.length v, ins b φ σ)) (some (v, σ)) := ⟨rfl, fun _ h' => by cases h'; exact h⟩
def FrC (b : Nat) (φ : Objs) (call' call : FuncId → List V → Objs → Ro) : Prop := ∀ f args σ, b ≤ σ.length → FrR b φ (call' f (args.map (V.sh b φ.length)) (ins b φ σ)) (call f args σ)
theorem Qwe {x' x : Option V} {σ : Objs} (hb : b ≤ σ.length) (h : x' = x.map (V.sh b φ.length)) : FrR b φ (x'.bind fun v => Option.some (v, ins b φ σ)) (x.bind fun v => Option.some (v, σ)) := by
  subst h
  cases x with
  | none => exact .none
  | some v => exact .some hb
theorem Qmn {x' x : Option V} {σ : Objs} (hb : b ≤ σ.length) (h : x' = x.map (V.sh b φ.length)) : FrR b φ (x'.bind fun v => Option.some (v.ng, ins b φ σ)) (x.bind fun v => Option.some (v.ng, σ)) := by
  subst h
  cases x with
  | none => exact .none
  | some v =>
    show FrR b φ (Option.some ((V.sh b φ.length v).ng, ins b φ σ)) (Option.some (v.ng, σ))
    rw [Qfo]
    exact .some hb
theorem Wg4 {σ : Objs} (hb : b ≤ σ.length) {call call' : FuncId → List V → Objs → Ro} (hc : FrC b φ call' call) {A A' T T' : Arg → V} (hA : ∀ a, a.cl = true → A' a = V.sh b φ.length (A a)) (hT : ∀ a, a.cl = true → T' a = V.sh b φ.length (T a)) {i : Ins} (hi : i.cl = true) :
    FrR b φ (Qau call' A' T' (ins b φ σ) i) (Qau call A T σ i) := by
  have happ : ∀ x : O, b ≤ (σ ++ [x]).length := fun x => by simp; omega
  have hset : ∀ o (x : O), b ≤ (σ.set o x).length := fun o x => by simpa using hb
  have hp : Qav A' (ins b φ σ) i = (Qav A σ i).map (V.sh b φ.length) := Qwd hb hA hi
  have ptr0 : V.ptr (ins b φ σ).length 0 = V.sh b φ.length (.ptr σ.length 0) := by rw [Qfp hb]; rfl
  cases i with
  | mv x tk =>
    simp only [Qau, hA x hi, hT x hi]
    cases tk <;> exact .some hb
  | alloc z =>
    simp only [Qau]
    split
    · have h1 := Qgy (b := b) (φ := φ) hb (.cells z)
      rw [show (O.cells z).sh b φ.length = .cells z by rw [O.sh, Wg3 hi]] at h1
      rw [h1, ptr0]
      exact .some (happ _)
    · exact .none
  | box x =>
    simp only [Qau, hA x hi, Qd2, Qlk, Qb7]
    split
    · rw [ptr0]
      have h1 := Qgy (b := b) (φ := φ) hb (.cells ((A x).cells.map V.ng))
      rw [show (O.cells ((A x).cells.map V.ng)).sh b φ.length = .cells (((A x).cells.map V.ng).map (V.sh b φ.length)) from rfl] at h1
      rw [h1]
      exact .some (happ _)
    · exact .none
  | buildSl ag sz len z ps h =>
    simp only [Ins.cl, Bool.and_eq_true] at hi
    have h1 := @Qmj b φ.length sz (ps.map fun p => (p.1, A p.2)) (List.replicate len z)
    rw [← Qmm hA hi.2, List.map_replicate, Qbq hi.1] at h1
    simp only [Qau]
    rw [h1]
    cases Qc7 sz (List.replicate len z) (ps.map fun p => (p.1, A p.2)) with
    | none => exact .none
    | some xs =>
      simp only [Option.map_some, Option.bind_eq_bind, Option.bind_some, Qmk]
      split
      · cases h with
        | true =>
          simp only [if_true, Qpw, Qb7]
          have h2 := Qgy (b := b) (φ := φ) hb (.cells ((xs.flatMap V.cells).map V.ng))
          rw [show (O.cells ((xs.flatMap V.cells).map V.ng)).sh b φ.length = .cells (((xs.flatMap V.cells).map V.ng).map (V.sh b φ.length)) from rfl] at h2
          rw [h2, Qfp hb]
          exact .some (v := .hs σ.length 0 len sz ag) (happ _)
        | false =>
          simp only [Bool.false_eq_true, if_false]
          rw [← Qan]
          exact .some (v := .sl xs .fx) hb
      · exact .none
  | buildG ag sz len z ps =>
    simp only [Ins.cl, Bool.and_eq_true] at hi
    have h1 := @Qmj b φ.length sz (ps.map fun p => (p.1, A p.2)) (List.replicate len z)
    rw [← Qmm hA hi.2, List.map_replicate, Qbq hi.1] at h1
    simp only [Qau]
    rw [h1]
    cases Qc7 sz (List.replicate len z) (ps.map fun p => (p.1, A p.2)) with
    | none => exact .none
    | some xs =>
      simp only [Option.map_some, Option.bind_eq_bind, Option.bind_some, Qmk]
      split
      · rw [← Qan]
        exact .some (v := .sl xs (.gr sz)) hb
      · exact .none
  | mark x =>
    simp only [Qau, hT x hi]
    cases T x with
    | sl xs c =>
      cases c with
      | gr s => exact .some (v := .sl xs .no) hb
      | _ => exact .none
    | _ => exact .none
  | store sz p x tk =>
    simp only [Ins.cl, Bool.and_eq_true] at hi
    have hv : (if tk = true then T' x else A' x) = V.sh b φ.length (if tk = true then T x else A x) := by
      cases tk
      · exact hA x hi.2
      · exact hT x hi.2
    simp only [Qau]
    simp only [hv]
    generalize (if tk = true then T x else A x) = tv
    simp only [hA p hi.1, hA x hi.2]
    cases A p with
    | ptr o off =>
      simp only [V.sh, Qc1 hb, Option.bind_eq_bind]
      cases Objs.get σ o with
      | none => exact .none
      | some cs =>
        simp only [Option.map_some, Option.bind_some, Qd2, List.length_map, Qlk]
        split
        · have plain : ∀ w, w = A x → (∀ cs, w ≠ .agg cs) → FrR b φ
              (if (V.sh b φ.length tv).isLk = true then Option.none else Option.some (V.undef, (ins b φ σ).set (rn b φ.length o) (.cells ((cs.map (V.sh b φ.length)).set off (V.sh b φ.length tv)))))
              (if tv.isLk = true then Option.none else Option.some (V.undef, List.set σ o (.cells (cs.set off tv)))) := by
            intro w _ _
            rw [Wd2]
            split
            · exact .none
            · rw [← List.map_set]
              have h2 := Qie (b := b) (φ := φ) hb o (.cells (cs.set off tv))
              rw [show (O.cells (cs.set off tv)).sh b φ.length = .cells ((cs.set off tv).map (V.sh b φ.length)) from rfl] at h2
              rw [h2]
              exact .some (v := .undef) (hset _ _)
          cases hx : A x with
          | agg ds =>
            simp only [V.sh, V.cells, Qb7, Qjg]
            have h2 := Qie (b := b) (φ := φ) hb o (.cells (Qcc cs off (ds.map V.ng)))
            rw [show (O.cells (Qcc cs off (ds.map V.ng))).sh b φ.length = .cells ((Qcc cs off (ds.map V.ng)).map (V.sh b φ.length)) from rfl] at h2
            rw [h2]
            exact .some (v := .undef) (hset _ _)
          | _ => exact plain _ hx.symm (fun _ h => by cases h)
        · exact .none
    | _ => exact .none
  | loadT x =>
    simp only [Qau, hA x hi]
    cases A x with
    | ptr o off =>
      simp only [V.sh, Qc1 hb, Option.bind_eq_bind]
      cases Objs.get σ o with
      | none => exact .none
      | some cs =>
        simp only [Option.map_some, Option.bind_some, List.getElem?_map]
        cases cs[off]? with
        | none => exact .none
        | some v =>
          simp only [Option.map_some, Option.bind_some]
          cases v with
          | sl xs c =>
            cases c with
            | gr s =>
              simp only [V.sh]
              have h2 := Qie (b := b) (φ := φ) hb o (.cells (cs.set off (.sl xs .no)))
              rw [show (O.cells (cs.set off (.sl xs .no))).sh b φ.length = .cells ((cs.map (V.sh b φ.length)).set off (.sl (V.shs b φ.length xs) .no)) by rw [O.sh, List.map_set]; rfl] at h2
              rw [h2]
              exact .some (v := .sl xs (.gr s)) (hset _ _)
            | lk => exact .none
            | no => exact .some (v := .sl xs .no) hb
            | fx => exact .some (v := .sl xs .fx) hb
          | ptr o' i => exact .some (v := .ptr o' i) hb
          | eptr cs' i => exact .some (v := .eptr cs' i) hb
          | hs a1 a2 a3 a4 a5 => exact .some (v := .hs a1 a2 a3 a4 a5) hb
          | agg cs' => exact .some (v := .agg cs') hb
          | tup cs' => exact .some (v := .tup cs') hb
          | ifc t x' => exact .some (v := .ifc t x') hb
          | fn f a1 a2 => exact .some (v := .fn f a1 a2) hb
          | mp o' => exact .some (v := .mp o') hb
          | any => exact .some (v := .any) hb
          | undef => exact .some (v := .undef) hb
          | bool x' => exact .some (v := .bool x') hb
          | int j n => exact .some (v := .int j n) hb
          | str s => exact .some (v := .str s) hb
          | nilp => exact .some (v := .nilp) hb
          | nils => exact .some (v := .nils) hb
          | nili => exact .some (v := .nili) hb
          | nilf => exact .some (v := .nilf) hb
          | nilm => exact .some (v := .nilm) hb
    | eptr cs off =>
      simp only [V.sh, Qan, List.getElem?_map, Option.bind_eq_bind]
      cases cs[off]? with
      | none => exact .none
      | some v =>
        simp only [Option.map_some, Option.bind_some, Qfo]
        exact .some hb
    | _ => exact .none
  | app str ag sz bytes x y tk =>
    simp only [Ins.cl, Bool.and_eq_true] at hi
    have hv : (if tk = true then T' x else A' x) = V.sh b φ.length (if tk = true then T x else A x) := by
      cases tk
      · exact hA x hi.1
      · exact hT x hi.1
    simp only [Qau, hv, hA y hi.2, Qrj hb, Option.bind_eq_bind]
    cases Qeq str σ (A y) with
    | none => exact .none
    | some ys =>
      simp only [Option.map_some, Option.bind_some]
      exact Qwe hb Qml
  | appH str ag sz bytes x y =>
    simp only [Ins.cl, Bool.and_eq_true] at hi
    simp only [Qau, hA x hi.1, hA y hi.2, Qrj hb, Option.bind_eq_bind]
    cases Qeq str σ (A y) with
    | none => exact .none
    | some ys =>
      simp only [Option.map_some, Option.bind_some]
      cases ys with
      | nil => exact Qmn hb (Qml (ys := []))
      | cons y0 ys =>
        have h1 := @Qml b φ.length ag sz bytes (A x) (y0 :: ys)
        simp only [List.map_cons] at h1 ⊢
        rw [h1]
        cases Qdk ag sz bytes (A x) (y0 :: ys) with
        | none => exact .none
        | some v =>
          simp only [Option.map_some, Option.bind_some]
          cases v with
          | sl xs c =>
            simp only [V.sh, Qan, Qpw, Qb7, List.length_map]
            have h2 := Qgy (b := b) (φ := φ) hb (.cells ((xs.flatMap V.cells).map V.ng))
            rw [show (O.cells ((xs.flatMap V.cells).map V.ng)).sh b φ.length = .cells (((xs.flatMap V.cells).map V.ng).map (V.sh b φ.length)) from rfl] at h2
            rw [h2, Qfp hb]
            exact .some (v := .hs σ.length 0 xs.length sz ag) (happ _)
          | _ => exact .none
  | bytesH x =>
    simp only [Qau, hA x hi]
    cases A x with
    | str s =>
      simp only [V.sh]
      have h2 := Qgy (b := b) (φ := φ) hb (.cells (Qac s))
      rw [show (O.cells (Qac s)).sh b φ.length = .cells (Qac s) by rw [O.sh, Qif]] at h2
      rw [h2, Qfp hb]
      exact .some (v := .hs σ.length 0 s.length 1 false) (happ _)
    | _ => exact .none
  | mkSl ag sz bytes z l c h =>
    simp only [Ins.cl, Bool.and_eq_true] at hi
    simp only [Qau, hA l hi.1.2, hA c hi.2, Qrf, Option.bind_eq_bind]
    cases Qfb (A l) with
    | none => exact .none
    | some l =>
      cases Qfb (A c) with
      | none => exact .none
      | some c =>
        simp only [Option.bind_some]
        split
        · cases h with
          | true =>
            simp only [if_true]
            have hz : ((List.replicate c.toNat z).flatMap V.cells).map (V.sh b φ.length) = (List.replicate c.toNat z).flatMap V.cells := by
              rw [← Qpw, List.map_replicate, Qbq hi.1.1]
            have h2 := Qgy (b := b) (φ := φ) hb (.cells ((List.replicate c.toNat z).flatMap V.cells))
            rw [show (O.cells ((List.replicate c.toNat z).flatMap V.cells)).sh b φ.length = .cells ((List.replicate c.toNat z).flatMap V.cells) by rw [O.sh, hz]] at h2
            rw [h2, Qfp hb]
            exact .some (v := .hs σ.length 0 l.toNat sz ag) (happ _)
          | false =>
            simp only [Bool.false_eq_true, if_false]
            have hz : V.sl (List.replicate l.toNat z) (if l = c then .fx else .gr sz) = V.sh b φ.length (.sl (List.replicate l.toNat z) (if l = c then .fx else .gr sz)) := by
              rw [V.sh, Qan, List.map_replicate, Qbq hi.1.1]
            refine ⟨?_, fun p hp => by cases hp; exact hb⟩
            show some (V.sl (List.replicate l.toNat z) (if l = c then .fx else .gr sz), ins b φ σ) = some (V.sh b φ.length (V.sl (List.replicate l.toNat z) (if l = c then .fx else .gr sz)), ins b φ σ)
            rw [← hz]
        · exact .none
  | mkmp =>
    simp only [Qau]
    have h2 := Qgy (b := b) (φ := φ) hb (.mp [])
    rw [show (O.mp []).sh b φ.length = .mp [] from rfl] at h2
    rw [h2, Qfp hb]
    exact .some (v := .mp σ.length) (happ _)
  | mset m kk x =>
    simp only [Ins.cl, Bool.and_eq_true] at hi
    simp only [Qau, hA m hi.1.1, hA kk hi.1.2, hA x hi.2]
    cases A m with
    | mp o =>
      simp only [V.sh, Qpz hb]
      cases σ[o]? with
      | none => exact .none
      | some O =>
        cases O with
        | cells cs => exact .none
        | mp es =>
          simp only [Option.map_some, O.sh, Qwb, Option.bind_eq_bind]
          cases mput (A kk) (A x) es with
          | none => exact .none
          | some es' =>
            simp only [Option.map_some, Option.bind_some]
            have h2 := Qie (b := b) (φ := φ) hb o (.mp es')
            rw [show (O.mp es').sh b φ.length = .mp (es'.map fun p => (V.sh b φ.length p.1, V.sh b φ.length p.2)) from rfl] at h2
            rw [h2]
            exact .some (v := .undef) (hset _ _)
    | _ => exact .none
  | call f az =>
    simp only [Qau, Qig hA hi]
    exact hc f _ σ hb
  | callv x az =>
    simp only [Ins.cl, Bool.and_eq_true] at hi
    simp only [Qau, hA x hi.1, Qig hA hi.2]
    cases A x with
    | fn f first caps =>
      simp only [V.sh, Qan, ← List.map_append, Qb7]
      exact hc f _ σ hb
    | _ => exact .none
  | conv c x =>
    cases c with
    | strBytes =>
      simp only [Qau, hA x hi, Option.bind_eq_bind]
      exact Qwe hb (Qn9 hb)
    | _ => exact Qmn hb hp
  | _ => exact Qmn hb hp
end
section
variable {b : Nat} {φ : Objs} {G : GV} {call call' : FuncId → List V → Objs → Ro}
def GCl (G : GV) : Prop := ∀ n, V.rb 0 (G n) = true
theorem Qwf (hG : GCl G) {ρ : List V} {k : Nat} {a : Arg} (h : a.cl = true) : argT G (ρ.map (V.sh b k)) a = V.sh b k (argT G ρ a) := by
  cases a with
  | t n =>
    simp only [argT, List.getD_eq_getElem?_getD, List.getElem?_map]
    cases ρ[n]? <;> rfl
  | c x => exact (Qbq h).symm
  | g n => exact (Qbq (hG n)).symm
  | f id => rfl
theorem Qwg (hG : GCl G) {ρ : List V} {k : Nat} {a : Arg} (h : a.cl = true) : arg G (ρ.map (V.sh b k)) a = V.sh b k (arg G ρ a) := by
  unfold arg
  rw [Qwf hG h, Qfo]
theorem Qmo {ρ : List V} {k n : Nat} : (ρ.map (V.sh b k)).getD n .undef = V.sh b k (ρ.getD n .undef) := by
  simp only [List.getD_eq_getElem?_getD, List.getElem?_map]
  cases ρ[n]? <;> rfl
theorem Wba {ρ : List V} {k : Nat} {d : Option Nat} {x : V} : put (ρ.map (V.sh b k)) d (V.sh b k x) = (put ρ d x).map (V.sh b k) := by
  cases d <;> simp [put, List.map_set]
theorem Qwh {ρ : List V} {k : Nat} {x : Arg} {tk : Bool} : unslot (ρ.map (V.sh b k)) x tk = (unslot ρ x tk).map (V.sh b k) := by
  cases x <;> cases tk <;> simp only [unslot, List.map_set, Qmo, Qfo]
def FrS (b : Nat) (φ : Objs) (x' x : Option (List V × Objs)) : Prop := x' = x.map (fun p => (p.1.map (V.sh b φ.length), ins b φ p.2)) ∧ ∀ p, x = some p → b ≤ p.2.length
theorem FrS.none : FrS b φ none none := ⟨rfl, fun _ h => by cases h⟩
theorem FrS.some {ρ : List V} {σ : Objs} (h : b ≤ σ.length) : FrS b φ (some (ρ.map (V.sh b φ.length), ins b φ σ)) (some (ρ, σ)) := ⟨rfl, fun _ h' => by cases h'; exact h⟩
theorem FrS.bind {x' x : Option (List V × Objs)} {f' f : List V × Objs → Option (List V × Objs)} (h : FrS b φ x' x) (hf : ∀ ρ σ, b ≤ σ.length → FrS b φ (f' (ρ.map (V.sh b φ.length), ins b φ σ)) (f (ρ, σ))) : FrS b φ (x'.bind f') (x.bind f) := by
  obtain ⟨rfl, h2⟩ := h
  cases x with
  | none => exact .none
  | some p => exact hf p.1 p.2 (h2 p rfl)
theorem Wg5 (hG : GCl G) (hc : FrC b φ call' call) {s : Step} (hs : s.ins.cl = true) {ρ : List V} {σ : Objs} (hb : b ≤ σ.length) : FrS b φ (ev1 G call' s (ρ.map (V.sh b φ.length)) (ins b φ σ)) (ev1 G call s ρ σ) := by
  unfold ev1
  have h := Wg4 hb hc (A := arg G ρ) (A' := arg G (ρ.map (V.sh b φ.length))) (T := argT G ρ) (T' := argT G (ρ.map (V.sh b φ.length))) (fun a ha => Qwg hG ha) (fun a ha => Qwf hG ha) hs
  obtain ⟨h1, h2⟩ := h
  rw [h1]
  cases he : Qau call (arg G ρ) (argT G ρ) σ s.ins with
  | none => exact .none
  | some p =>
    simp only [Option.map_some, Option.bind_eq_bind, Option.bind_some, Qwh, Wba]
    exact .some (h2 p he)
theorem Qob {ρ : List V} {k : Nat} {g : Option (Nat × Bool)} : wanted (ρ.map (V.sh b k)) g = wanted ρ g := by
  cases g with
  | none => rfl
  | some p =>
    obtain ⟨g, t⟩ := p
    simp only [wanted, Qmo]
    cases ρ.getD g .undef <;> rfl
theorem Qwi (hG : GCl G) (hc : FrC b φ call' call) {s : Step} (hs : s.ins.cl = true) {ρ : List V} {σ : Objs} (hb : b ≤ σ.length) : FrS b φ (Qbm G call' s (ρ.map (V.sh b φ.length)) (ins b φ σ)) (Qbm G call s ρ σ) := by
  unfold Qbm
  rw [Qob]
  cases wanted ρ s.gd with
  | none => exact .none
  | some t =>
    simp only [Option.bind_eq_bind, Option.bind_some]
    split
    · exact Wg5 hG hc hs hb
    · have : put (ρ.map (V.sh b φ.length)) s.dst .undef = (put ρ s.dst .undef).map (V.sh b φ.length) := Wba (x := .undef)
      rw [this]
      exact .some hb
theorem Qrk (hG : GCl G) (hc : FrC b φ call' call) : ∀ {l : List Step}, l.all (fun s => s.ins.cl) = true → ∀ {ρ : List V} {σ : Objs}, b ≤ σ.length → FrS b φ (Qcr G call' l (ρ.map (V.sh b φ.length)) (ins b φ σ)) (Qcr G call l ρ σ)
  | [], _, ρ, σ, hb => .some hb
  | s :: r, h, ρ, σ, hb => by
    simp only [List.all_cons, Bool.and_eq_true] at h
    exact FrS.bind (Qwi hG hc h.1 hb) fun ρ' σ' hb' => Qrk hG hc h.2 hb'
def Rd.sh (b k : Nat) : Rd → Rd
  | .none => .none
  | .same ex o off n => .same ex (rn b k o) off n
  | .made o => .made (rn b k o)
  | .took o off => .took (rn b k o) off
theorem Qzs {A A' : Arg → V} {σ : Objs} (hb : b ≤ σ.length) (hA : ∀ a, a.cl = true → A' a = V.sh b φ.length (A a)) {i : Ins} (hi : i.cl = true) : reads A' (ins b φ σ) i = (reads A σ i).sh b φ.length := by
  cases i with
  | load ag sz x =>
    simp only [reads, hA x hi]
    cases A x <;> rfl
  | loadT x =>
    simp only [reads, hA x hi]
    cases A x with
    | ptr o off =>
      simp only [V.sh, Qc1 hb]
      cases Objs.get σ o with
      | none => rfl
      | some cs =>
        simp only [Option.map_some, Option.bind_some, List.getElem?_map]
        cases cs[off]? with
        | none => rfl
        | some v =>
          cases v with
          | sl xs c => cases c <;> rfl
          | _ => rfl
    | _ => rfl
  | alloc z => simp only [reads, Qfp hb]; rfl
  | box x => simp only [reads, Qfp hb]; rfl
  | _ => rfl
theorem Qrl {k : Nat} {l m : List V} : V.beqs (l.map (V.sh b k)) (m.map (V.sh b k)) = V.beqs l m := by rw [← Qan, ← Qan, Qpv]
theorem Qwj {σ σ' : Objs} (hb : b ≤ σ.length) (hb' : b ≤ σ'.length) {r : Rd} : stable (ins b φ σ) (ins b φ σ') (r.sh b φ.length) = stable σ σ' r := by
  cases r with
  | none => rfl
  | took o off => rfl
  | same ex o off n =>
    simp only [Rd.sh, stable, Qc1 hb, Qc1 hb']
    cases Objs.get σ o with
    | none => rfl
    | some cs =>
      cases Objs.get σ' o with
      | none => rfl
      | some ds =>
        simp only [Option.map_some, List.length_map, ← List.map_drop, ← List.map_take, Qb7, Qrl]
  | made o =>
    simp only [Rd.sh, stable, Qc1 hb, Qc1 hb']
    cases Objs.get σ o with
    | none => rfl
    | some cs =>
      cases Objs.get σ' o with
      | none => rfl
      | some ds => simp only [Option.map_some, Qrl]
def FrO (b : Nat) (φ : Objs) (x' x : Option Objs) : Prop := x' = x.map (ins b φ) ∧ ∀ σ, x = some σ → b ≤ σ.length
theorem Qrm : ∀ {l : List (Nat × Nat)} {σ : Objs}, b ≤ σ.length → FrO b φ (Qgb (ins b φ σ) (l.map fun p => (rn b φ.length p.1, p.2))) (Qgb σ l)
  | [], σ, hb => ⟨rfl, fun _ h => by cases h; exact hb⟩
  | (o, off) :: r, σ, hb => by
    simp only [List.map_cons, Qgb, Qc1 hb]
    cases Objs.get σ o with
    | none => exact ⟨rfl, fun _ h => by cases h⟩
    | some cs =>
      simp only [Option.map_some, List.getElem?_map]
      cases cs[off]? with
      | none => exact ⟨rfl, fun _ h => by cases h⟩
      | some v =>
        cases v with
        | sl xs c =>
          simp only [Option.map_some, V.sh]
          have h2 := Qie (b := b) (φ := φ) hb o (.cells (cs.set off (.sl xs .lk)))
          rw [show (O.cells (cs.set off (.sl xs .lk))).sh b φ.length = .cells ((cs.map (V.sh b φ.length)).set off (.sl (V.shs b φ.length xs) .lk)) by rw [O.sh, List.map_set]; rfl] at h2
          rw [h2]
          exact Qrm (by simpa using hb)
        | _ => exact ⟨rfl, fun _ h => by cases h⟩
theorem Qrn : ∀ {l : List (Nat × Nat)} {σ : Objs}, b ≤ σ.length → FrO b φ (Qeb (ins b φ σ) (l.map fun p => (rn b φ.length p.1, p.2))) (Qeb σ l)
  | [], σ, hb => ⟨rfl, fun _ h => by cases h; exact hb⟩
  | (o, off) :: r, σ, hb => by
    simp only [List.map_cons, Qeb, Qc1 hb]
    cases Objs.get σ o with
    | none => exact ⟨rfl, fun _ h => by cases h⟩
    | some cs =>
      simp only [Option.map_some, List.getElem?_map]
      cases cs[off]? with
      | none => exact ⟨rfl, fun _ h => by cases h⟩
      | some v =>
        cases v with
        | sl xs c =>
          cases c with
          | lk =>
            simp only [Option.map_some, V.sh]
            have h2 := Qie (b := b) (φ := φ) hb o (.cells (cs.set off (.sl xs .no)))
            rw [show (O.cells (cs.set off (.sl xs .no))).sh b φ.length = .cells ((cs.map (V.sh b φ.length)).set off (.sl (V.shs b φ.length xs) .no)) by rw [O.sh, List.map_set]; rfl] at h2
            rw [h2]
            exact Qrn (by simpa using hb)
          | _ => exact ⟨rfl, fun _ h => by cases h⟩
        | _ => exact ⟨rfl, fun _ h => by cases h⟩
theorem Wd4 {l : List Rd} {k : Nat} : (l.map (Rd.sh b k)).filterMap Rd.cell = (l.filterMap Rd.cell).map fun p => (rn b k p.1, p.2) := by
  induction l with
  | nil => rfl
  | cons r l ih => cases r <;> simp [Rd.sh, List.filterMap_cons, Rd.cell, ih]
theorem Qzt {past : List Rd} {k n : Nat} : (past.map (Rd.sh b k)).getD n .none = (past.getD n .none).sh b k := by
  simp only [List.getD_eq_getElem?_getD, List.getElem?_map]
  cases past[n]? <;> rfl
theorem Wbb (hG : GCl G) (hc : FrC b φ call' call) : ∀ {l : List DS}, l.all (fun d => d.s.ins.cl) = true → ∀ {past : List Rd} {ρ : List V} {σ : Objs}, b ≤ σ.length → FrS b φ (Qgc G call' (past.map (Rd.sh b φ.length)) l (ρ.map (V.sh b φ.length)) (ins b φ σ)) (Qgc G call past l ρ σ)
  | [], _, past, ρ, σ, hb => .some hb
  | d :: r, h, past, ρ, σ, hb => by
    simp only [List.all_cons, Bool.and_eq_true] at h
    have hseen : (d.un.map fun k => (past.map (Rd.sh b φ.length)).getD k .none) = (d.un.map fun k => past.getD k .none).map (Rd.sh b φ.length) := by
      rw [List.map_map]
      congr 1
      funext k
      exact Qzt
    simp only [Qgc, hseen, Wd4, Qob, Option.bind_eq_bind]
    obtain ⟨e0, l0⟩ := Qrm (φ := φ) (l := (d.un.map fun k => past.getD k .none).filterMap Rd.cell) hb
    rw [e0]
    cases h0 : Qgb σ ((d.un.map fun k => past.getD k .none).filterMap Rd.cell) with
    | none => exact .none
    | some σ0 =>
      simp only [Option.map_some, Option.bind_some]
      obtain ⟨e1, l1⟩ := Qwi hG hc h.1 (ρ := ρ) (l0 σ0 h0)
      rw [e1]
      cases h1 : Qbm G call d.s ρ σ0 with
      | none => exact .none
      | some p =>
        obtain ⟨ρ', σ1⟩ := p
        simp only [Option.map_some, Option.bind_some]
        obtain ⟨e2, l2⟩ := Qrn (φ := φ) (l := (d.un.map fun k => past.getD k .none).filterMap Rd.cell) (l1 _ h1)
        rw [e2]
        cases h2 : Qeb σ1 ((d.un.map fun k => past.getD k .none).filterMap Rd.cell) with
        | none => exact .none
        | some σ' =>
          simp only [Option.map_some, Option.bind_some]
          have hst : ((d.un.map fun k => past.getD k .none).map (Rd.sh b φ.length)).all (stable (ins b φ σ) (ins b φ σ')) = (d.un.map fun k => past.getD k .none).all (stable σ σ') := by
            rw [List.all_map]
            congr 1
            funext r
            exact Qwj hb (l2 _ h2)
          rw [hst]
          split
          · have hp : (past.map (Rd.sh b φ.length)) ++ [if (wanted ρ d.s.gd).getD false = true then reads (arg G (ρ.map (V.sh b φ.length))) (ins b φ σ) d.s.ins else .none] = (past ++ [if (wanted ρ d.s.gd).getD false = true then reads (arg G ρ) σ d.s.ins else .none]).map (Rd.sh b φ.length) := by
              rw [List.map_append, List.map_singleton, Qzs hb (fun a ha => Qwg hG ha) h.1]
              congr 2
              split <;> rfl
            rw [hp]
            exact Wbb hG hc h.2 (l2 _ h2)
          · exact .none
def FrW (b : Nat) (φ : Objs) : Prop := φ.all (O.rb (b + φ.length)) = true
mutual
theorem Qzu {n m : Nat} (h : n ≤ m) : ∀ {x : V}, V.rb n x = true → V.rb m x = true
  | .ptr o off, hx => by simp [V.rb] at hx ⊢; omega
  | .hs o off len sz ag, hx => by simp [V.rb] at hx ⊢; omega
  | .mp o, hx => by simp [V.rb] at hx ⊢; omega
  | .eptr cs off, hx => Qho h (l := cs) hx
  | .sl xs c, hx => Qho h (l := xs) hx
  | .agg cs, hx => Qho h (l := cs) hx
  | .tup cs, hx => Qho h (l := cs) hx
  | .ifc t x, hx => Qzu h (x := x) hx
  | .fn f xs ys, hx => by
    have h' : V.rbs n xs = true ∧ V.rbs n ys = true := by simpa [V.rb] using hx
    simp [V.rb, Qho h h'.1, Qho h h'.2]
  | .any, _ => rfl | .undef, _ => rfl | .bool x, _ => rfl | .int j n, _ => rfl | .str s, _ => rfl
  | .nilp, _ => rfl | .nils, _ => rfl | .nili, _ => rfl | .nilf, _ => rfl | .nilm, _ => rfl
theorem Qho {n m : Nat} (h : n ≤ m) : ∀ {l : List V}, V.rbs n l = true → V.rbs m l = true
  | [], _ => rfl
  | x :: xs, hx => by
    rw [Qaf, Bool.and_eq_true] at hx
    rw [Qaf, Qzu h hx.1, Qho h hx.2]; rfl
end
theorem O.rb_mono {n m : Nat} (h : n ≤ m) {o : O} (ho : o.rb n = true) : o.rb m = true := by
  have hv : ∀ x : V, V.rb n x = true → V.rb m x = true := fun x hx => Qzu h hx
  have hl : ∀ l : List V, V.rbs n l = true → V.rbs m l = true := fun l hx => Qho h hx
  cases o with
  | cells cs => exact hl _ ho
  | mp es =>
    simp only [O.rb, Bool.and_eq_true] at ho ⊢
    exact ⟨hl _ ho.1, hl _ ho.2⟩
end
end Go.Ev
namespace Go.Ev
open Go
section
variable {b : Nat} {φ : Objs}
theorem Qzv {σ : Objs} {n : Nat} (hb : b ≤ σ.length) (hn : b ≤ n) : (ins b φ σ).take (n + φ.length) = ins b φ (σ.take n) := by
  unfold ins
  rw [List.take_append, List.take_append]
  simp only [List.length_append, List.length_take, List.length_map, List.map_take]
  rw [List.take_take, List.take_take, List.take_of_length_le (l := φ) (by omega), List.drop_take]
  congr 2
  · congr 1; omega
  · omega
theorem Wg6 {σ : Objs} {n : Nat} (hb : b ≤ σ.length) (hn : b ≤ n) {o : O} : fzO (n + φ.length) (ins b φ σ) (o.sh b φ.length) = (fzO n σ o).map (O.sh b φ.length) := by
  cases o with
  | cells cs =>
    simp only [O.sh, fzO]
    rw [← Qan, Qhl hn]
    split
    · simp only [Option.map_some, O.sh, Qan]
    · rw [Qan, Qpx fun x => Qzm hb hn]
      cases cs.mapM (fz n σ fzD) <;> rfl
  | mp es =>
    have h1 : (es.map fun p => (V.sh b φ.length p.1, V.sh b φ.length p.2)).map Prod.fst = V.shs b φ.length (es.map Prod.fst) := by rw [Qan, List.map_map, List.map_map]; rfl
    have h2 : (es.map fun p => (V.sh b φ.length p.1, V.sh b φ.length p.2)).map Prod.snd = V.shs b φ.length (es.map Prod.snd) := by rw [Qan, List.map_map, List.map_map]; rfl
    simp only [O.sh, fzO, h1, h2, Qhl hn]
    split <;> rfl
theorem Qro {f g : O → Option O} {k : Nat} (h : ∀ x, g (O.sh b k x) = (f x).map (O.sh b k)) : ∀ {l : List O}, (l.map (O.sh b k)).mapM g = (l.mapM f).map (List.map (O.sh b k))
  | [] => rfl
  | x :: xs => by
    simp only [List.map_cons, List.mapM_cons, h, Qro h, Option.bind_eq_bind]
    cases f x with
    | none => rfl
    | some y =>
      simp only [Option.map_some, Option.bind_some]
      cases xs.mapM f <;> rfl
theorem Qrp {g : O → Option O} : ∀ {l : List O}, (∀ x ∈ l, g x = some x) → l.mapM g = some l
  | [], _ => rfl
  | x :: xs, h => by
    rw [List.mapM_cons, h x (by simp), Qrp fun y hy => h y (by simp [hy])]
    rfl
theorem Qmp {g : O → Option O} {A B : List O} : (A ++ B).mapM g = (A.mapM g).bind fun a => (B.mapM g).bind fun c => some (a ++ c) := by
  rw [List.mapM_append]; rfl
theorem Qmq {g : O → Option O} : ∀ {A a : List O}, A.mapM g = some a → a.length = A.length
  | [], a, h => by cases h; rfl
  | x :: xs, a, h => by
    simp only [List.mapM_cons, Option.bind_eq_bind, Option.bind_eq_some_iff] at h
    obtain ⟨y, _, ys, hys, he⟩ := h
    cases he
    simp [Qmq hys]
theorem Qp1 (hφ : FrW b φ) {σ : Objs} {n : Nat} (hb : b ≤ σ.length) (hn : b ≤ n) : FrO b φ (cuO (n + φ.length) (ins b φ σ)) (cuO n σ) := by
  have hlen : ∀ τ, cuO n σ = some τ → b ≤ τ.length := by
    intro τ h
    have := Qmq (g := fzO n σ) h
    rw [this, List.length_take]; omega
  refine ⟨?_, hlen⟩
  have hid : φ.mapM (fzO (n + φ.length) (ins b φ σ)) = some φ := by
    refine Qrp fun x hx => Wa3 ?_
    have := List.all_eq_true.1 hφ x hx
    exact O.rb_mono (by omega) this
  unfold cuO
  rw [Qzv hb hn]
  have hτ : b ≤ (σ.take n).length := by rw [List.length_take]; omega
  generalize hgen : σ.take n = τ at hτ
  have h1 := @Qro b (fzO n σ) (fzO (n + φ.length) (ins b φ σ)) φ.length (fun x => Wg6 hb hn) τ
  rw [show τ.map (O.sh b φ.length) = (τ.map (O.sh b φ.length)).take b ++ (τ.map (O.sh b φ.length)).drop b from (List.take_append_drop _ _).symm, Qmp] at h1
  generalize fzO (n + φ.length) (ins b φ σ) = g at h1 hid ⊢
  unfold ins
  rw [Qmp, Qmp, hid]
  have hA : ((τ.map (O.sh b φ.length)).take b).length = b := by rw [List.length_take, List.length_map]; omega
  cases ha : ((τ.map (O.sh b φ.length)).take b).mapM g with
  | none =>
    rw [ha] at h1
    simp only [Option.bind_none] at h1 ⊢
    cases ht : τ.mapM (fzO n σ) with
    | none => rfl
    | some t => rw [ht] at h1; cases h1
  | some a =>
    rw [ha] at h1
    simp only [Option.bind_some] at h1 ⊢
    cases hc : ((τ.map (O.sh b φ.length)).drop b).mapM g with
    | none =>
      rw [hc] at h1
      simp only [Option.bind_none] at h1 ⊢
      cases ht : τ.mapM (fzO n σ) with
      | none => rfl
      | some t => rw [ht] at h1; cases h1
    | some c =>
      rw [hc] at h1
      simp only [Option.bind_some] at h1 ⊢
      cases ht : τ.mapM (fzO n σ) with
      | none => rw [ht] at h1; cases h1
      | some t =>
        rw [ht] at h1
        simp only [Option.map_some, Option.some.injEq] at h1
        have hal : a.length = b := (Qmq ha).trans hA
        rw [Option.map_some, ← h1, ← hal, List.take_left, List.drop_left]
theorem Qev {σ : Objs} (hb : b ≤ σ.length) {n : Nat} (hn : b ≤ n) {live : List Nat} : ∀ {ρ : List V} {i : Nat}, Qas (n + φ.length) (ins b φ σ) live i (ρ.map (V.sh b φ.length)) = (Qas n σ live i ρ).map (List.map (V.sh b φ.length))
  | [], i => rfl
  | x :: xs, i => by
    rw [List.map_cons, Qnw, Qnw, Qzm hb hn, Qev hb hn]
    split
    · cases fz n σ fzD x with
      | none => rfl
      | some y =>
        simp only [Option.map_some, Option.bind_some]
        cases Qas n σ live (i + 1) xs <;> rfl
    · simp only [Option.bind_some]
      cases Qas n σ live (i + 1) xs <;> rfl
def FrD (b : Nat) (φ : Objs) (x' x : Ran) : Prop := x' = x.map (fun p => (p.1, p.2.1.map (V.sh b φ.length), ins b φ p.2.2)) ∧ ∀ p, x = some p → b ≤ p.2.2.length
theorem FrD.none : FrD b φ none none := ⟨rfl, fun _ h => by cases h⟩
theorem FrD.some {e : Out} {ρ : List V} {σ : Objs} (h : b ≤ σ.length) : FrD b φ (some (e, ρ.map (V.sh b φ.length), ins b φ σ)) (some (e, ρ, σ)) := ⟨rfl, fun _ h' => by cases h'; exact h⟩
def Cd.cl : Cd → Bool
  | .ops _ l => l.all fun s => s.ins.cl
  | .drw _ l => l.all fun d => d.s.ins.cl
  | .seq a c => a.cl && c.cl
  | .cond x a c => x.cl && a.cl && c.cl
  | .block _ c => c.cl
  | .loop _ _ c => c.cl
  | _ => true
theorem Qwk (hφ : FrW b φ) {lin lout : List Nat} {n : Nat} (hn : b ≤ n) {rd' rd : List V → Objs → Ran} (hrd : ∀ ρ σ, b ≤ σ.length → FrD b φ (rd' (ρ.map (V.sh b φ.length)) (ins b φ σ)) (rd ρ σ)) :
    ∀ {k : Nat} {ρ : List V} {σ : Objs}, b ≤ σ.length → FrD b φ (Qi6 lin lout (n + φ.length) rd' k (ρ.map (V.sh b φ.length)) (ins b φ σ)) (Qi6 lin lout n rd k ρ σ)
  | 0, ρ, σ, hb => .none
  | k + 1, ρ, σ, hb => by
    obtain ⟨e1, l1⟩ := hrd ρ σ hb
    unfold Qi6
    rw [e1]
    cases hr : rd ρ σ with
    | none => exact .none
    | some p =>
      obtain ⟨e, ρ', σ'⟩ := p
      have hb' : b ≤ σ'.length := l1 _ hr
      have out : ∀ (e : Out), FrD b φ ((Qas (n + φ.length) (ins b φ σ') lout 0 (ρ'.map (V.sh b φ.length))).bind fun ρ'' => (cuO (n + φ.length) (ins b φ σ')).bind fun σ'' => Option.some (e, ρ'', σ''))
          ((Qas n σ' lout 0 ρ').bind fun ρ'' => (cuO n σ').bind fun σ'' => Option.some (e, ρ'', σ'')) := by
        intro e
        rw [Qev hb' hn]
        obtain ⟨e2, l2⟩ := Qp1 hφ hb' hn
        rw [e2]
        cases Qas n σ' lout 0 ρ' with
        | none => exact .none
        | some ρ'' =>
          simp only [Option.map_some, Option.bind_some]
          cases hc : cuO n σ' with
          | none => exact .none
          | some σ'' => exact .some (l2 _ hc)
      cases e with
      | norm =>
        simp only [Option.map_some, Option.bind_eq_bind, Qev hb' hn]
        obtain ⟨e2, l2⟩ := Qp1 hφ hb' hn
        rw [e2]
        cases Qas n σ' lin 0 ρ' with
        | none => exact .none
        | some ρ'' =>
          simp only [Option.map_some, Option.bind_some]
          cases hc : cuO n σ' with
          | none => exact .none
          | some σ'' => exact Qwk hφ hn hrd (l2 _ hc)
      | ex i => exact out (.ex i)
      | ret => exact out .ret
section
variable {G : GV} {call call' : FuncId → List V → Objs → Ro}
theorem Qp2 (hφ : FrW b φ) (hG : GCl G) (hc : FrC b φ call' call) {fuel : Nat} : ∀ {c : Cd}, c.cl = true → ∀ {ρ : List V} {σ : Objs}, b ≤ σ.length → FrD b φ (evCd G call' fuel c (ρ.map (V.sh b φ.length)) (ins b φ σ)) (evCd G call fuel c ρ σ)
  | .skip, _, ρ, σ, hb => .some hb
  | .ret, _, ρ, σ, hb => .some hb
  | .exit id, _, ρ, σ, hb => .some hb
  | .ops _ l, h, ρ, σ, hb => by
    simp only [evCd]
    obtain ⟨e1, l1⟩ := Qrk hG hc h hb (ρ := ρ)
    rw [e1]
    cases hr : Qcr G call l ρ σ with
    | none => exact .none
    | some p => exact .some (l1 _ hr)
  | .drw _ l, h, ρ, σ, hb => by
    simp only [evCd]
    obtain ⟨e1, l1⟩ := Wbb hG hc h hb (ρ := ρ) (past := [])
    rw [List.map_nil] at e1
    rw [e1]
    cases hr : Qgc G call [] l ρ σ with
    | none => exact .none
    | some p => exact .some (l1 _ hr)
  | .seq a c, h, ρ, σ, hb => by
    simp only [Cd.cl, Bool.and_eq_true] at h
    simp only [evCd]
    obtain ⟨e1, l1⟩ := Qp2 hφ hG hc (fuel := fuel) h.1 hb (ρ := ρ)
    rw [e1]
    cases hr : evCd G call fuel a ρ σ with
    | none => exact .none
    | some p =>
      obtain ⟨e, ρ', σ'⟩ := p
      have hb' : b ≤ σ'.length := l1 _ hr
      cases e with
      | norm => exact Qp2 hφ hG hc h.2 hb'
      | ex i => exact .some hb'
      | ret => exact .some hb'
  | .cond x a c, h, ρ, σ, hb => by
    simp only [Cd.cl, Bool.and_eq_true] at h
    simp only [evCd, Qwg hG h.1.1]
    cases arg G ρ x with
    | bool t =>
      cases t with
      | true => exact Qp2 hφ hG hc h.1.2 hb
      | false => exact Qp2 hφ hG hc h.2 hb
    | _ => exact .none
  | .block id c, h, ρ, σ, hb => by
    simp only [evCd]
    obtain ⟨e1, l1⟩ := Qp2 hφ hG hc (fuel := fuel) (c := c) h hb (ρ := ρ)
    rw [e1]
    cases hr : evCd G call fuel c ρ σ with
    | none => exact .none
    | some p =>
      obtain ⟨e, ρ', σ'⟩ := p
      have hb' : b ≤ σ'.length := l1 _ hr
      cases e with
      | norm => exact .some hb'
      | ex i =>
        simp only [Option.map_some]
        split <;> exact .some hb'
      | ret => exact .some hb'
  | .loop lin lout c, h, ρ, σ, hb => by
    simp only [evCd, Option.bind_eq_bind]
    rw [Qpy hb, Qev hb hb]
    cases Qas σ.length σ lin 0 ρ with
    | none => exact .none
    | some ρ' =>
      simp only [Option.map_some, Option.bind_some]
      exact Qwk hφ hb (fun ρ1 σ1 hb1 => Qp2 hφ hG hc (c := c) h hb1) hb
theorem Qwl {ρ : List V} {σ : Objs} (hb : b ≤ σ.length) {r : Res} : resV (ρ.map (V.sh b φ.length)) (ins b φ σ) r = (resV ρ σ r).map (V.sh b φ.length) := by
  cases r with
  | tmp t => simp only [resV, Qmo, Option.map_some]
  | cell t ag sz =>
    simp only [resV, Qmo]
    cases ρ.getD t .undef with
    | ptr o off =>
      simp only [V.sh, Qc1 hb, Option.bind_eq_bind]
      cases Objs.get σ o with
      | none => rfl
      | some cs => simp only [Option.map_some, Option.bind_some, Qid]
    | _ => rfl
theorem Qwm {ρ : List V} {σ : Objs} (hb : b ≤ σ.length) : ∀ {rs : List Res}, rs.mapM (resV (ρ.map (V.sh b φ.length)) (ins b φ σ)) = (rs.mapM (resV ρ σ)).map (List.map (V.sh b φ.length))
  | [] => rfl
  | r :: rs => by
    simp only [List.mapM_cons, Qwl hb, Qwm hb (rs := rs), Option.bind_eq_bind]
    cases resV ρ σ r with
    | none => rfl
    | some x =>
      simp only [Option.map_some, Option.bind_some]
      cases rs.mapM (resV ρ σ) <;> rfl
theorem Wd5 {k : Nat} {keep : Bool} {x : V} : Qnb keep (V.sh b k x) = V.sh b k (Qnb keep x) := by
  cases keep
  · exact Qfo
  · rfl
theorem Qs8 {ρ : List V} {σ : Objs} (hb : b ≤ σ.length) {keep : Bool} {rs : List Res} : Ev.results keep (ρ.map (V.sh b φ.length)) (ins b φ σ) rs = (Ev.results keep ρ σ rs).map (V.sh b φ.length) := by
  match rs with
  | [] => rfl
  | [r] =>
    simp only [Ev.results, Qwl hb, Option.bind_eq_bind]
    cases resV ρ σ r with
    | none => rfl
    | some x =>
      simp only [Option.map_some, Option.bind_some, Wa8, Qv1, Wd5]
      split <;> rfl
  | r1 :: r2 :: rs =>
    simp only [Ev.results, Qwm hb, Option.bind_eq_bind]
    cases (r1 :: r2 :: rs).mapM (resV ρ σ) with
    | none => rfl
    | some xs => simp only [Option.map_some, Option.bind_some, V.sh, Qan, Qb7]
theorem Wjz (hφ : FrW b φ) (hG : GCl G) (hc : FrC b φ call' call) {F : Fn} (hF : F.body.cl = true) (he : F.esc = false) {fuel : Nat} {args : List V} {σ : Objs} (hb : b ≤ σ.length) :
    FrR b φ (evFn G call' F fuel (args.map (V.sh b φ.length)) (ins b φ σ)) (evFn G call F fuel args σ) := by
  have hfin : ∀ (ρ : List V) (σ' : Objs), b ≤ σ'.length → FrR b φ
      ((Ev.results F.keep (ρ.map (V.sh b φ.length)) (ins b φ σ') F.res).bind fun r => (cuO (ins b φ σ).length (ins b φ σ')).bind fun σ'' => (fz (ins b φ σ).length (ins b φ σ') fzD r).bind fun r' => Option.some (r', σ''))
      ((Ev.results F.keep ρ σ' F.res).bind fun r => (cuO σ.length σ').bind fun σ'' => (fz σ.length σ' fzD r).bind fun r' => Option.some (r', σ'')) := by
    intro ρ σ' hb'
    rw [Qs8 hb', Qpy hb]
    obtain ⟨e2, l2⟩ := Qp1 hφ hb' hb
    rw [e2]
    cases Ev.results F.keep ρ σ' F.res with
    | none => exact .none
    | some r =>
      simp only [Option.map_some, Option.bind_some, Qzm hb' hb]
      cases hcut : cuO σ.length σ' with
      | none => exact .none
      | some σ'' =>
        simp only [Option.map_some, Option.bind_some]
        cases fz σ.length σ' fzD r with
        | none => exact .none
        | some r' => exact .some (l2 _ hcut)
  have hargs : (args.map (V.sh b φ.length)) ++ List.replicate (F.nt - (args.map (V.sh b φ.length)).length) V.undef = (args ++ List.replicate (F.nt - args.length) V.undef).map (V.sh b φ.length) := by
    rw [List.map_append, List.map_replicate, List.length_map]; rfl
  unfold evFn
  simp only [he, Option.bind_eq_bind]
  rw [hargs]
  obtain ⟨e1, l1⟩ := Qp2 hφ hG hc (fuel := fuel) hF hb (ρ := args ++ List.replicate (F.nt - args.length) .undef)
  rw [e1]
  cases hr : evCd G call fuel F.body (args ++ List.replicate (F.nt - args.length) .undef) σ with
  | none => exact .none
  | some p =>
    obtain ⟨e, ρ', σ'⟩ := p
    have hb' : b ≤ σ'.length := l1 _ hr
    simp only [Option.map_some, Option.bind_some]
    cases e with
    | norm => exact hfin ρ' σ' hb'
    | ret => exact hfin ρ' σ' hb'
    | ex i => exact .none
end
structure CtxCl (C : Ctx) : Prop where
  g : GCl C.G
  code : ∀ f F, C.code f = some F → F.body.cl = true ∧ F.esc = false
  prim : ∀ f h, C.prim f = some h → ∀ (b : Nat) (φ : Objs) args σ, b ≤ σ.length → FrR b φ (h (args.map (V.sh b φ.length)) (ins b φ σ)) (h args σ)
theorem Wg7 {C : Ctx} (hC : CtxCl C) (hφ : FrW b φ) : ∀ n, FrC b φ (ev C n) (ev C n)
  | 0 => fun f args σ hb => .none
  | n + 1 => fun f args σ hb => by
    simp only [ev]
    cases hp : C.prim f with
    | some h => exact hC.prim f h hp b φ args σ hb
    | none =>
      simp only
      cases hF : C.code f with
      | none => exact .none
      | some F => exact Wjz hφ hC.g (Wg7 hC hφ n) (hC.code f F hF).1 (hC.code f F hF).2 hb
theorem Qp3 {C : Ctx} (hC : CtxCl C) (hφ : FrW b φ) {f : FuncId} {args : List V} {σ : Objs} (hb : b ≤ σ.length) {r : V} {σ' : Objs} (h : E C f args σ = some (r, σ')) :
    E C f (args.map (V.sh b φ.length)) (ins b φ σ) = some (V.sh b φ.length r, ins b φ σ') := by
  have hesc : ∀ f F, C.code f = some F → F.esc = false := fun f F hF => (hC.code f F hF).2
  obtain ⟨n, hn⟩ := ev_of_E hesc h
  refine Wc7 hesc (n := n) ?_
  rw [(Wg7 hC hφ n f args σ hb).1, hn]
  rfl
theorem Qcm {C : Ctx} (hC : CtxCl C) {f : FuncId} {args : List V} {r : V} (h : E C f args [] = some (r, [])) (ha : V.rbs 0 args = true) (hr : V.rb 0 r = true) (σ : Objs) (hσ : Wf σ) : E C f args σ = some (r, σ) := by
  have h1 := Qp3 hC (b := 0) (φ := σ) (by unfold FrW; rw [Nat.zero_add]; exact hσ) (Nat.zero_le _) h
  rw [← Qan, Qbj ha, Qbq hr] at h1
  simpa [ins] using h1
end
end Go.Ev
namespace Go.Ev
mutual
def V.hh : V → Nat
  | .sl xs _ => if xs.isEmpty then 0 else V.hhs xs + 1
  | .agg cs => V.hhs cs
  | _ => 0
def V.hhs : List V → Nat
  | [] => 0
  | x :: xs => max (V.hh x) (V.hhs xs)
end
mutual
def V.shp (k : Nat) : V → Bool
  | .nils => k == 0 || k == 2 || k == 4
  | .sl xs _ => decide (xs.length ≤ 1000000000) && if k == 0 then V.shpAll 1 xs else if k == 2 then V.shpAll 3 xs else if k == 4 then V.shpAll 5 xs else false
  | .agg cs => if k == 1 then V.shpEach [2] cs else if k == 3 then V.shpEach [6, 4] cs else if k == 5 then V.shpEach [6, 6, 8, 8, 6, 8, 7, 6, 6, 6, 0] cs else false
  | .int j _ => k == 6 && decide (j = .i64)
  | .bool _ => k == 7
  | .str _ => k == 8
  | _ => false
def V.shpAll (k : Nat) : List V → Bool
  | [] => true
  | x :: xs => V.shp k x && V.shpAll k xs
def V.shpEach (ks : List Nat) : List V → Bool
  | [] => ks.isEmpty
  | x :: xs => match ks with
    | [] => false
    | k :: ks => V.shp k x && V.shpEach ks xs
end
def dpI (x : V) : Int := (max 1 ((V.hh x + 2) / 3) : Nat)
def Qp4 : List V → Option V
  | [x] => if V.shp 0 x && decide (V.hh x ≤ 1000000) then some (.int .i64 (dpI x)) else none
  | _ => none
def Qp5 (xs : List V) (σ : Objs) : Option (V × Objs) := (Qp4 xs).map fun v => (v, σ)
example : Qp5 [.sl [.agg [.sl [.agg [.int .i64 0, .sl [.agg [.int .i64 0, .int .i64 0, .str [], .str [], .int .i64 0, .str [], .bool false, .int .i64 0, .int .i64 0, .int .i64 0, .sl [.agg [.nils]] .no]] .no]] .no]] .no] [] = some (.int .i64 2, []) := by rfl
mutual
theorem Wg8 {b k : Nat} : ∀ (x : V), V.hh (V.sh b k x) = V.hh x
  | .sl xs c => by
    have := Qwn (b := b) (k := k) xs
    cases xs with
    | nil => rfl
    | cons y ys => simp only [V.sh, V.shs, V.hh, List.isEmpty_cons] at this ⊢; rw [this]
  | .agg cs => by simp only [V.sh, V.hh]; exact Qwn cs
  | .ptr o off | .hs o off len sz ag | .mp o | .eptr cs off | .tup cs | .ifc t x | .fn f xs ys => by simp only [V.sh, V.hh]
  | .any | .undef | .bool x | .int j n | .str s | .nilp | .nils | .nili | .nilf | .nilm => rfl
theorem Qwn {b k : Nat} : ∀ (l : List V), V.hhs (V.shs b k l) = V.hhs l
  | [] => rfl
  | x :: xs => by simp only [V.shs, V.hhs, Wg8 x, Qwn xs]
end
theorem Wd6 {b k : Nat} (l : List V) : (V.shs b k l).length = l.length := by rw [Qan, List.length_map]
mutual
theorem Qwo {b k : Nat} : ∀ (x : V) (j : Nat), V.shp j (V.sh b k x) = V.shp j x
  | .sl xs c, j => by simp only [V.sh, V.shp, Qoc xs, Wd6]
  | .agg cs, j => by simp only [V.sh, V.shp, Qlm cs]
  | .ptr o off, j | .hs o off len sz ag, j | .mp o, j | .eptr cs off, j | .tup cs, j | .ifc t x, j | .fn f xs ys, j => by simp only [V.sh, V.shp]
  | .any, j | .undef, j | .bool x, j | .int _ n, j | .str s, j | .nilp, j | .nils, j | .nili, j | .nilf, j | .nilm, j => rfl
theorem Qoc {b k : Nat} : ∀ (l : List V) (j : Nat), V.shpAll j (V.shs b k l) = V.shpAll j l
  | [], j => rfl
  | x :: xs, j => by simp only [V.shs, V.shpAll, Qwo x, Qoc xs]
theorem Qlm {b k : Nat} : ∀ (l : List V) (js : List Nat), V.shpEach js (V.shs b k l) = V.shpEach js l
  | [], js => rfl
  | x :: xs, [] => rfl
  | x :: xs, j :: js => by simp only [V.shs, V.shpEach, Qwo x, Qlm xs]
end
theorem Wg9 {h : List V → Objs → Option (V × Objs)} {g : List V → Option V} (hg : ∀ xs σ, h xs σ = (g xs).map fun v => (v, σ)) (hs : ∀ b k xs, g (xs.map (V.sh b k)) = g xs) (hc : ∀ xs v, g xs = some v → V.rb 0 v = true) :
    ∀ (b : Nat) (φ : Objs) (xs : List V) (σ : Objs), b ≤ σ.length → FrR b φ (h (xs.map (V.sh b φ.length)) (ins b φ σ)) (h xs σ) := by
  intro b φ xs σ hb
  rw [hg, hg, hs]
  cases he : g xs with
  | none => exact FrR.none
  | some v =>
    have := FrR.some (φ := φ) (v := v) hb
    rw [Qbq (hc _ _ he)] at this
    exact this
theorem Qzw : ∀ (b : Nat) (φ : Objs) (xs : List V) (σ : Objs), b ≤ σ.length → FrR b φ (Qp5 (xs.map (V.sh b φ.length)) (ins b φ σ)) (Qp5 xs σ) := by
  refine Wg9 (g := Qp4) (fun xs σ => rfl) (fun b k xs => ?_) (fun xs v h => ?_)
  · match xs with
    | [] => rfl
    | [x] => simp only [List.map_cons, List.map_nil, Qp4, Qwo, dpI, Wg8]
    | _ :: _ :: _ => rfl
  · match xs with
    | [] => cases h
    | [x] =>
      simp only [Qp4] at h
      split at h
      · cases h; rfl
      · cases h
    | _ :: _ :: _ => cases h
end Go.Ev
set_option maxRecDepth 100000
set_option maxHeartbeats 4000000
namespace Go.Proofs.YtapnplljnpconaaGreatDoor
open Go.RowKit Go.Ev
attribute [local go_sem] Oper.semAt_some
structure SV where
  (i0 i1 : Int) (s2 s3 : ByteArray) (i4 : Int) (s5 : ByteArray) (b6 : Bool) (i7 i8 i9 : Int) (a : Option Addr) (len cap : Nat)
  h : Nat
@[reducible] def SV.of (x : SV) : Value := .slice x.a x.len x.cap
@[reducible] def SV.v (x : SV) : Value := .agg #[.int .i64 x.i0, .int .i64 x.i1, .string x.s2, .string x.s3, .int .i64 x.i4, .string x.s5, .bool x.b6, .int .i64 x.i7, .int .i64 x.i8, .int .i64 x.i9, .slice x.a x.len x.cap]
def SV.cs (x : SV) : List Value := [.int .i64 x.i0, .int .i64 x.i1, .string x.s2, .string x.s3, .int .i64 x.i4, .string x.s5, .bool x.b6, .int .i64 x.i7, .int .i64 x.i8, .int .i64 x.i9, .slice x.a x.len x.cap]
def R3 (n0 : Nat) (w : World) (v : Value) (ss : List SV) : Prop :=
  ∃ a cap, v = .slice a ss.length cap ∧ (ss.length : Int) ≤ 9223372036854775807 ∧ ∀ i (x : SV), ss[i]? = some x → ∃ (b off : Nat), a = some ⟨b, off, none⟩ ∧ b < n0 ∧ ∀ j u, x.cs[j]? = some u → w.cell? ⟨b, off + i * 11 + j, none⟩ = some u
def R2 (n0 : Nat) (w : World) (v : Value) (ps : List (List SV)) : Prop :=
  ∃ a cap, v = .slice a ps.length cap ∧ (ps.length : Int) ≤ 9223372036854775807 ∧ ∀ i ss, ps[i]? = some ss → ∃ (b off : Nat) (c : Int) (u : Value), a = some ⟨b, off, none⟩ ∧ b < n0 ∧ w.cell? ⟨b, off + i * 2, none⟩ = some (.int .i64 c) ∧ w.cell? ⟨b, off + i * 2 + 1, none⟩ = some u ∧ R3 n0 w u ss
def R1 (n0 : Nat) (w : World) (v : Value) (qs : List (List (List SV))) : Prop :=
  ∃ a cap, v = .slice a qs.length cap ∧ (qs.length : Int) ≤ 9223372036854775807 ∧ ∀ i ps, qs[i]? = some ps → ∃ (b off : Nat) (u : Value), a = some ⟨b, off, none⟩ ∧ b < n0 ∧ w.cell? ⟨b, off + i, none⟩ = some u ∧ R2 n0 w u ps
theorem R3.keep {n0 : Nat} {w w' : World} {v : Value} {ss : List SV} (h : R3 n0 w v ss) (hb : Below n0 w w') : R3 n0 w' v ss := by
  obtain ⟨a, cap, h1, h2, h3⟩ := h
  refine ⟨a, cap, h1, h2, fun i x hx => ?_⟩
  obtain ⟨b, off, g1, g4, g5⟩ := h3 i x hx
  exact ⟨b, off, g1, g4, fun j u hu => (hb.cell g4).trans (g5 j u hu)⟩
theorem R2.keep {n0 : Nat} {w w' : World} {v : Value} {ps : List (List SV)} (h : R2 n0 w v ps) (hb : Below n0 w w') : R2 n0 w' v ps := by
  obtain ⟨a, cap, h1, h2, h3⟩ := h
  refine ⟨a, cap, h1, h2, fun i x hx => ?_⟩
  obtain ⟨b, off, c, u, g1, g2, g3, g4, g6⟩ := h3 i x hx
  exact ⟨b, off, c, u, g1, g2, (hb.cell g2).trans g3, (hb.cell g2).trans g4, g6.keep hb⟩
theorem R1.keep {n0 : Nat} {w w' : World} {v : Value} {qs : List (List (List SV))} (h : R1 n0 w v qs) (hb : Below n0 w w') : R1 n0 w' v qs := by
  obtain ⟨a, cap, h1, h2, h3⟩ := h
  refine ⟨a, cap, h1, h2, fun i x hx => ?_⟩
  obtain ⟨b, off, u, g1, g2, g3, g4⟩ := h3 i x hx
  exact ⟨b, off, u, g1, g2, (hb.cell g2).trans g3, g4.keep hb⟩
theorem Qwp {α : Type} {l : List α} {i : Nat} {x : α} (h : l[i]? = some x) : l.take (i + 1) = l.take i ++ [x] := by rw [List.take_add_one, h]; rfl
theorem Qwq {α : Type} {l : List (List α)} {i : Nat} {x : List α} (h : l[i]? = some x) : l.flatten = (l.take i).flatten ++ x ++ (l.drop (i + 1)).flatten := by
  have h1 : l = l.take i ++ x :: l.drop (i + 1) := by
    obtain ⟨hl, rfl⟩ := List.getElem?_eq_some_iff.1 h
    simp
  conv => lhs; rw [h1]
  rw [List.flatten_append, List.flatten_cons, List.append_assoc]
theorem Wha {α : Type} {qs : List (List (List α))} {ps : List (List α)} {ss : List α} {x : α} {i k m : Nat} (h1 : qs[i]? = some ps) (h2 : ps[k]? = some ss) (h3 : ss[m]? = some x) :
    ∃ r, qs.flatten.flatten = ((qs.take i).flatten.flatten ++ (ps.take k).flatten ++ ss.take m) ++ x :: r := by
  have e3 : ss = ss.take m ++ x :: ss.drop (m + 1) := by
    obtain ⟨hl, rfl⟩ := List.getElem?_eq_some_iff.1 h3
    simp
  refine ⟨ss.drop (m + 1) ++ (ps.drop (k + 1)).flatten ++ (qs.drop (i + 1)).flatten.flatten, ?_⟩
  rw [Qwq h1, List.flatten_append, List.flatten_append, Qwq h2]
  conv => lhs; rw [e3]
  simp
theorem Wd7 {F : Fence} (h97 : F.fn 97) (hro : F.round = none) (n : Nat) (hn : 1 ≤ n) (l Bn n0 : Nat) (W : World) (v : Value) (qs : List (List (List SV))) (J Jx : List SV → World → Prop)
    (hab : AbidesFrom W.heap.size J) (hq : R1 n0 W v qs) (hn0 : n0 ≤ W.heap.size) (hBn : W.cell? ⟨Bn, 0, none⟩ = some v)
    (hY : ∀ pre (x : SV) W1, x ∈ qs.flatten.flatten → J pre W1 → pre.length < qs.flatten.flatten.length → YieldAt F (n - 1) Tryz.prog l #[x.v] W1 fun e W' => (e = .returned (.bool true) ∧ J (pre ++ [x]) W' ∧ Below n0 W1 W') ∨ (e = .returned (.bool false) ∧ Jx (pre ++ [x]) W'))
    (h0 : J [] W) :
    CallsIn F n Tryz.prog 97 #[.func (.yield l) #[] #[], .pointer (some ⟨Bn, 0, none⟩)] W fun e W' => (∃ v, e = .returned v) ∧ ((∃ ys, ys = qs.flatten.flatten ∧ J ys W') ∨ (∃ pre, pre <+: qs.flatten.flatten ∧ Jx pre W')) := by
  refine callsIn_of_wp Tryz.func97 rfl h97 ?_ hro
  obtain ⟨a, cap, rfl, hlen, hel⟩ := hq
  simp only [Tryz.ntmps97, List.size_toArray, List.length_cons, List.length_nil, Nat.reduceAdd, Nat.reduceSub, Array.replicate_succ, Array.replicate_zero, List.push_toArray, List.append_toArray, List.nil_append, List.cons_append]
  have keepJ : ∀ {pre A B}, J pre A → Below A.heap.size A B → J pre B := fun h hb => hab _ _ _ none h ⟨hb.os, hb.tape, hb.output, hb.size, fun k hk _ => hb.block k hk⟩ (fun r e => by cases e)
  gi_wp2
  gi_loopw [11] (fun p wr => ∃ (i : Nat), p = .int .i64 i ∧ i ≤ qs.length ∧ J (qs.take i).flatten.flatten wr ∧ Below n0 W wr)
    (fun p wr => qs.length - (match p with | .int _ i => i.toNat | _ => 0))
  case atStart =>
    exact ⟨0, rfl, by omega, h0, .refl _ _⟩
  case round =>
    obtain ⟨i, rfl, hi, hJ, hB⟩ := hrel
    by_cases hil : i < qs.length
    · obtain ⟨ps, hps⟩ : ∃ ps, qs[i]? = some ps := ⟨_, List.getElem?_eq_getElem hil⟩
      obtain ⟨b, off, u, rfl, hb, hu, hr2⟩ := hel i ps hps
      have hu' : wr.cell? ⟨b, off + i, none⟩ = some u := (hB.cell hb).trans hu
      obtain ⟨a2, cap2, rfl, hlen2, hel2⟩ := hr2
      gi_wp2
      gi_loopw [18] (fun p wr2 => ∃ (k : Nat), p = .int .i64 k ∧ k ≤ ps.length ∧ J ((qs.take i).flatten.flatten ++ (ps.take k).flatten) wr2 ∧ Below n0 W wr2)
        (fun p wr => ps.length - (match p with | .int _ i => i.toNat | _ => 0))
      case atStart =>
        refine ⟨0, rfl, by omega, ?_, ?_⟩
        · rw [List.take_zero, List.flatten_nil, List.append_nil]
          exact keepJ hJ ((Below.refl _ _).alloc (Nat.le_refl _) _)
        · have hsz := hB.size
          exact hB.trans ((Below.refl _ _).alloc (by omega) _)
      case round =>
        obtain ⟨k, rfl, hk, hJ2, hB2⟩ := hrel
        by_cases hkl : k < ps.length
        · obtain ⟨ss, hss⟩ : ∃ ss, ps[k]? = some ss := ⟨_, List.getElem?_eq_getElem hkl⟩
          obtain ⟨b2, off2, c2, u2, rfl, hb2, hc2, hu2, hr3⟩ := hel2 k ss hss
          have hc2' : wr.cell? ⟨b2, off2 + k * 2, none⟩ = some (.int .i64 c2) := (hB2.cell hb2).trans hc2
          have hu2' : wr.cell? ⟨b2, off2 + k * 2 + 1, none⟩ = some u2 := (hB2.cell hb2).trans hu2
          obtain ⟨a3, cap3, rfl, hlen3, hel3⟩ := hr3
          gi_wp2
          gi_loopw [25] (fun p wr2 => ∃ (m : Nat), p = .int .i64 m ∧ m ≤ ss.length ∧ J ((qs.take i).flatten.flatten ++ (ps.take k).flatten ++ ss.take m) wr2 ∧ Below n0 W wr2)
            (fun p wr => ss.length - (match p with | .int _ i => i.toNat | _ => 0))
          case atStart =>
            refine ⟨0, rfl, by omega, ?_, ?_⟩
            · rw [List.take_zero, List.append_nil]
              exact keepJ hJ2 ((Below.refl _ _).alloc (Nat.le_refl _) _)
            · have hsz := hB2.size
              exact hB2.trans ((Below.refl _ _).alloc (by omega) _)
          case round =>
            obtain ⟨m, rfl, hm, hJ3, hB3⟩ := hrel
            by_cases hml : m < ss.length
            · obtain ⟨x, hx⟩ : ∃ x, ss[m]? = some x := ⟨_, List.getElem?_eq_getElem hml⟩
              obtain ⟨b3, off3, rfl, hb3, hcs⟩ := hel3 m x hx
              obtain ⟨x0, x1, x2, x3, x4, x5, x6, x7, x8, x9, a10, l10, c10, xh⟩ := x
              have y0 : wr.cell? ⟨b3, off3 + m * 11, none⟩ = some (.int .i64 x0) := (hB3.cell hb3).trans (hcs 0 _ rfl)
              have y1 : wr.cell? ⟨b3, off3 + m * 11 + 1, none⟩ = some (.int .i64 x1) := (hB3.cell hb3).trans (hcs 1 _ rfl)
              have y2 : wr.cell? ⟨b3, off3 + m * 11 + 2, none⟩ = some (.string x2) := (hB3.cell hb3).trans (hcs 2 _ rfl)
              have y3 : wr.cell? ⟨b3, off3 + m * 11 + 3, none⟩ = some (.string x3) := (hB3.cell hb3).trans (hcs 3 _ rfl)
              have y4 : wr.cell? ⟨b3, off3 + m * 11 + 4, none⟩ = some (.int .i64 x4) := (hB3.cell hb3).trans (hcs 4 _ rfl)
              have y5 : wr.cell? ⟨b3, off3 + m * 11 + 5, none⟩ = some (.string x5) := (hB3.cell hb3).trans (hcs 5 _ rfl)
              have y6 : wr.cell? ⟨b3, off3 + m * 11 + 6, none⟩ = some (.bool x6) := (hB3.cell hb3).trans (hcs 6 _ rfl)
              have y7 : wr.cell? ⟨b3, off3 + m * 11 + 7, none⟩ = some (.int .i64 x7) := (hB3.cell hb3).trans (hcs 7 _ rfl)
              have y8 : wr.cell? ⟨b3, off3 + m * 11 + 8, none⟩ = some (.int .i64 x8) := (hB3.cell hb3).trans (hcs 8 _ rfl)
              have y9 : wr.cell? ⟨b3, off3 + m * 11 + 9, none⟩ = some (.int .i64 x9) := (hB3.cell hb3).trans (hcs 9 _ rfl)
              have y10 : wr.cell? ⟨b3, off3 + m * 11 + 10, none⟩ = some (.slice a10 l10 c10) := (hB3.cell hb3).trans (hcs 10 _ rfl)
              have hsz := hB3.size
              have hBn3 : Below n0 wr (wr.alloc (.cells #[.int .i64 x0, .int .i64 x1, .string x2, .string x3, .int .i64 x4, .string x5, .bool x6, .int .i64 x7, .int .i64 x8, .int .i64 x9, .slice a10 l10 c10] 96)) := (Below.refl _ _).alloc (by omega) _
              obtain ⟨rr, hrr⟩ := Wha hps hss hx
              have hJ4 := keepJ hJ3 ((Below.refl _ wr).alloc (Nat.le_refl _) (.cells #[.int .i64 x0, .int .i64 x1, .string x2, .string x3, .int .i64 x4, .string x5, .bool x6, .int .i64 x7, .int .i64 x8, .int .i64 x9, .slice a10 l10 c10] 96))
              obtain ⟨fn, tmps, assign, body, hy, hR⟩ := hY _ ⟨x0, x1, x2, x3, x4, x5, x6, x7, x8, x9, a10, l10, c10, xh⟩ _ (by rw [hrr]; simp) hJ4 (by rw [hrr]; simp)
              dsimp only [SV.v] at hy
              gi_wp2
              refine hR.mono ?_
              rintro e W3 (⟨rfl, hJ5, hk5⟩ | ⟨rfl, hJx5⟩)
              · gi_wp2
                go_roundw
                case rel =>
                  refine ⟨m + 1, rfl, by omega, ?_, (hB3.trans hBn3).trans hk5⟩
                  rw [Qwp hx, ← List.append_assoc]
                  exact hJ5
                case measure => simp; omega
              · gi_wp2
                refine bodyPost_ret (results_none rfl _ _ _) rfl ?_
                exact ⟨⟨_, rfl⟩, .inr ⟨_, ⟨rr, by rw [hrr]; simp⟩, hJx5⟩⟩
            · have e : m = ss.length := by omega
              subst e
              gi_wp2
              go_roundw
              case rel =>
                refine ⟨k + 1, rfl, by omega, ?_, hB3⟩
                rw [Qwp hss, List.flatten_append, ← List.append_assoc]
                rw [List.take_length] at hJ3
                simpa using hJ3
              case measure => simp; omega
        · have e : k = ps.length := by omega
          subst e
          gi_wp2
          go_roundw
          case rel =>
            refine ⟨i + 1, rfl, by omega, ?_, hB2⟩
            rw [Qwp hps, List.flatten_append, List.flatten_append]
            rw [List.take_length] at hJ2
            simpa using hJ2
          case measure => simp; omega
    · have e : i = qs.length := by omega
      subst e
      gi_wp2
      go_end0
      rw [List.take_length] at hJ
      exact ⟨⟨_, rfl⟩, .inl ⟨_, rfl, hJ⟩⟩
end Go.Proofs.YtapnplljnpconaaGreatDoor
set_option maxRecDepth 100000
set_option maxHeartbeats 4000000
namespace Go.Proofs.YtapnplljnpconaaGreatDoor
open Go.RowKit Go.Ev Go.Shelf
attribute [local go_sem] Oper.semAt_some
theorem Qs9 (F : Fence) (n : Nat) (h : F.fn 73) (hro : F.round = none) (va : Option Addr) (vl vc : Nat) (w : World) :
    CallsIn F n Tryz.prog 73 #[.slice va vl vc] w fun e w' => e = .returned (.func (.func 97) #[] #[.pointer (some ⟨w.heap.size, 0, none⟩)]) ∧ w' = w.alloc (.cells #[.slice va vl vc] 51) := by
  refine callsIn_of_wp Tryz.func73 rfl h ?_ hro
  simp only [Tryz.ntmps73, List.size_toArray, List.length_cons, List.length_nil, Nat.reduceAdd, Nat.reduceSub, Array.replicate_succ, Array.replicate_zero, List.push_toArray, List.append_toArray, List.nil_append, List.cons_append]
  gi_wp2
  go_ret
  exact ⟨rfl, rfl⟩
def mxN (g : SV → Nat) (xs : List SV) : Nat := xs.foldl (fun m x => if 0 < x.len then max m (g x) else m) 0
theorem Qjh (g : SV → Nat) (xs : List SV) (x : SV) : mxN g (xs ++ [x]) = if 0 < x.len then max (mxN g xs) (g x) else mxN g xs := by simp [mxN]
inductive Dp (n0 : Nat) (w : World) : Value → Nat → Prop
  | mk (v : Value) (qs : List (List (List SV))) (g : SV → Nat) (h : R1 n0 w v qs) (hg : ∀ x ∈ qs.flatten.flatten, 0 < x.len → Dp n0 w x.of (g x)) : Dp n0 w v (mxN g qs.flatten.flatten + 1)
theorem Whb (g : SV → Nat) : ∀ (xs ys : List SV), mxN g xs ≤ mxN g (xs ++ ys)
  | xs, [] => by simp
  | xs, y :: ys => by
    rw [show xs ++ y :: ys = (xs ++ [y]) ++ ys by simp]
    refine Nat.le_trans ?_ (Whb g _ _)
    rw [Qjh]
    split
    · exact Nat.le_max_left ..
    · exact Nat.le_refl _
theorem Whc (g : SV → Nat) {xs : List SV} {x : SV} (hx : x ∈ xs) (hl : 0 < x.len) : g x ≤ mxN g xs := by
  obtain ⟨p, r, rfl⟩ := List.append_of_mem hx
  refine Nat.le_trans ?_ (by rw [show p ++ x :: r = (p ++ [x]) ++ r by simp]; exact Whb g _ _)
  rw [Qjh, if_pos hl]
  exact Nat.le_max_right ..
theorem Qta {n0 : Nat} {w : World} {v : Value} {d : Nat} (h : Dp n0 w v d) : d ≤ 1000000 → ∀ w', Below n0 w w' → n0 ≤ w'.heap.size →
    Calls Tryz.prog 53 #[v] w' fun e w'' => e = .returned (.int .i64 d) ∧ Below w'.heap.size w' w'' := by
  induction h with
  | mk v qs g hq hg ih =>
    intro hd w' hb hn
    refine (callsIn_wide (n := 10)).1 ?_
    obtain ⟨F, hFw⟩ : ∃ F, F = Fence.wide := ⟨_, rfl⟩
    have hro : F.round = none := by rw [hFw]; rfl
    have h53 : F.fn 53 := by rw [hFw]; trivial
    have h73 : F.fn 73 := by rw [hFw]; trivial
    have h97 : F.fn 97 := by rw [hFw]; trivial
    have hcw : ∀ (n f : Nat) (args : Array Value) (w : World) (R : Ending → World → Prop), Calls Tryz.prog f args w R → CallsIn F n Tryz.prog f args w R := fun n f args w R h => by rw [hFw]; exact callsIn_wide.2 h
    rw [← hFw]
    clear hFw
    refine callsIn_of_wp_marks Tryz.func53 rfl h53 ?_ hro
    have hv : ∃ a l c, v = .slice a l c := by obtain ⟨a, cap, rfl, _⟩ := hq; exact ⟨_, _, _, rfl⟩
    obtain ⟨va, vl, vc, rfl⟩ := hv
    simp only [Tryz.ntmps53, List.size_toArray, List.length_cons, List.length_nil, Nat.reduceAdd, Nat.reduceSub, Array.replicate_succ, Array.replicate_zero, List.push_toArray, List.append_toArray, List.nil_append, List.cons_append]
    gi_wp2_with (gi_at_call 73; refine (Qs9 _ _ h73 hro _ _ _ _).mono ?_; rintro e w' ⟨rfl, rfl⟩)
    refine wpIn_rangeFunc_ownH hro (by omega) (gf := 97) (lb := #[.pointer (some ⟨w'.heap.size + 1, 0, none⟩)]) rfl h97 (enters_of Tryz.func97 (by kernel_rfl) rfl)
      (w0 := (w'.alloc (.cells #[.int .i64 0] 3)).alloc (.cells #[.slice va vl vc] 51)) (Kp := Below n0) (encs := fun x : {x : SV // x ∈ qs.flatten.flatten} => #[x.1.v]) (S := fun ys => ys.map Subtype.val = qs.flatten.flatten) (Sp := fun pre => pre.map Subtype.val <+: qs.flatten.flatten) (N := qs.flatten.flatten.length)
      ?seq belowK_t (belowK_b (by simp; omega)) (Below.refl _ _) (fun _ => rfl)
      (fun pre W => W.cell? ⟨w'.heap.size, 0, none⟩ = some (.int .i64 (mxN g (pre.map Subtype.val))) ∧ W.frozen? ⟨w'.heap.size, 0, none⟩ = false ∧ Below w'.heap.size w' W)
      (fun _ _ _ => False) ?hI (fun _ _ _ _ _ hs _ _ => hs) ?h0
      (fun x a' W => ∃ bb, a' = { tmps := #[.slice va vl vc, undef, .pointer (some ⟨w'.heap.size, 0, none⟩), .pointer (some ⟨bb, 0, none⟩), .slice va vl vc, .func (.func 97) #[] #[.pointer (some ⟨w'.heap.size + 1, 0, none⟩)], x.1.v, undef, undef, undef, undef, undef, undef, undef, undef, undef, undef, undef], defers := [] } ∧ W.cell? ⟨bb, 10, none⟩ = some x.1.of)
      ?hAx ?assign ?body ?done ?stop
    case seq =>
      intro l J Jx W hW hab habx hY h0
      have hq' : R1 n0 W (.slice va vl vc) qs := hq.keep (hb.trans ((((Below.refl _ w').alloc (by omega) _).alloc (by simp; omega) _).trans (hW.mono (by simp; omega))))
      have hsz := hW.size
      have hc : W.cell? ⟨w'.heap.size + 1, 0, none⟩ = some (.slice va vl vc) := by
        rw [hW.cell (p := ⟨w'.heap.size + 1, 0, none⟩) (by simp)]
        have := World.alloc_heap_new (w'.alloc (.cells #[.int .i64 0] 3)) (.cells #[.slice va vl vc] 51)
        rw [World.size_alloc] at this
        unfold World.cell?
        simp only
        rw [this]
        rfl
      refine (Wd7 (F := F) h97 hro _ (by omega) l (w'.heap.size + 1) n0 W (.slice va vl vc) qs (fun pre W => ∃ pre' : List {x : SV // x ∈ qs.flatten.flatten}, pre'.map Subtype.val = pre ∧ J pre' W) (fun pre W => ∃ pre' : List {x : SV // x ∈ qs.flatten.flatten}, pre'.map Subtype.val = pre ∧ Jx pre' W) ?_ hq' (by simp at hsz; omega) hc ?_ ⟨[], rfl, h0⟩).mono ?_
      · rintro s A B row ⟨p', e, hs⟩ hg' hr
        exact ⟨p', e, hab p' A B row hs hg' hr⟩
      · rintro pre x W1 hx ⟨p', rfl, hJ⟩ hlen
        obtain ⟨fn, tmps, assign, body, hy, hR⟩ := hY p' ⟨x, hx⟩ W1 hJ (by simpa using hlen)
        refine ⟨fn, tmps, assign, body, hy, hR.mono ?_⟩
        rintro e W' (⟨he, hJ', hk⟩ | ⟨he, hJ'⟩)
        · exact .inl ⟨he, ⟨p' ++ [⟨x, hx⟩], by simp, hJ'⟩, hk⟩
        · exact .inr ⟨he, p' ++ [⟨x, hx⟩], by simp, hJ'⟩
      · rintro e W' ⟨he, ⟨ys, rfl, p', hp, hJ⟩ | ⟨pre, hpre, p', hp, hJ⟩⟩
        · exact ⟨he, .inl ⟨p', hp, hJ⟩⟩
        · exact ⟨he, .inr ⟨p', by show List.map Subtype.val p' <+: _; rw [hp]; exact hpre, hJ⟩⟩
    case hI =>
      rintro s A B row ⟨h1, h2, h3⟩ hgr hrow
      have hr2 : ∀ r, row = some r → ∃ o : Obj, A.heap[r]? = some o ∧ o.isCells = false := fun r e => (hrow r e).2
      refine ⟨cell_kept h1 hgr hr2, (frozen_kept h1 hgr hr2).trans h2, h3.grown hgr h3.size fun k e => ?_⟩
      have := (hrow k e).1
      simp at this
      omega
    case h0 =>
      have e1 := World.alloc_heap_new w' (.cells #[.int .i64 0] 3)
      have e2 : ((w'.alloc (.cells #[.int .i64 0] 3)).alloc (.cells #[.slice va vl vc] 51)).heap[w'.heap.size]? = some (.cells #[.int .i64 0] 3) := (Below.heap_alloc _ _ _ (by simp)).trans e1
      refine ⟨?_, ?_, ((Below.refl _ w').alloc (Nat.le_refl _) _).alloc (by simp) _⟩
      · unfold World.cell?
        simp only
        rw [e2]
        rfl
      · unfold World.frozen?
        simp only
        rw [e2]
        rfl
    case hAx =>
      rintro x a' _ A B row ⟨bb, rfl, h4⟩ hgr hrow
      exact ⟨bb, rfl, cell_kept h4 hgr fun r e => (hrow r e).2⟩
    case assign =>
      rintro l pre ⟨x, hx⟩ W K ⟨h1, h2, h3⟩ hK
      obtain ⟨x0, x1, x2, x3, x4, x5, x6, x7, x8, x9, a10, l10, c10, xh⟩ := x
      have hsz := h3.size
      gi_wp2
      refine hK _ _ ((KeepsOthers.alloc _ _).from _) ((Below.refl _ _).alloc (by omega) _) ⟨?_, ?_, h3.alloc hsz _⟩ ⟨W.heap.size, rfl, ?_⟩
      · exact cell_kept h1 (World.grownBy_alloc W _ none) (fun r e => by cases e)
      · exact (frozen_kept h1 (World.grownBy_alloc W _ none) (fun r e => by cases e)).trans h2
      · have e := World.alloc_heap_new W (.cells #[.int .i64 x0, .int .i64 x1, .string x2, .string x3, .int .i64 x4, .string x5, .bool x6, .int .i64 x7, .int .i64 x8, .int .i64 x9, .slice a10 l10 c10] 96)
        unfold World.cell?
        simp only
        rw [e]
        rfl
    case body =>
      rintro l pre ⟨x, hx⟩ a' W hl hr ⟨h1, h2, h3⟩ ⟨bb, rfl, h4⟩ hlen
      have hd : 1 ≤ 10 - 1 - 1 := by omega
      have hmx : Tryz.prog.follows .mixedOrders = true := by kernel_rfl
      have hsz := h3.size
      simp only at h4
      gi_wp2
      · have hxl : 0 < x.len := by assumption
        have hgx := Whc g hx hxl
        have IH := Lib.hid (fun W' (hB : Below n0 w W') hW => hcw 7 _ _ _ _ (ih x hx hxl (by omega) W' hB hW))
        have HB := Lib.hid (hb.trans (h3.mono hn))
        have hlt : w'.heap.size < W.heap.size := by
          rcases Nat.lt_or_ge w'.heap.size W.heap.size with h | h
          · exact h
          · simp [World.cell?, Array.getElem?_eq_none h] at h1
        have H1 := Lib.hid h1
        have H2 := Lib.hid h2
        have H3 := Lib.hid (⟨hsz, hn, hlt⟩ : _ ∧ _ ∧ _)
        have eN : mxN g ((pre ++ [(⟨x, hx⟩ : {x : SV // x ∈ qs.flatten.flatten})]).unattach) = max (mxN g pre.unattach) (g x) := by
          show mxN g ((pre ++ [(⟨x, hx⟩ : {x : SV // x ∈ qs.flatten.flatten})]).map Subtype.val) = _
          rw [List.map_append, List.map_cons, List.map_nil, Qjh, if_pos hxl]
          rfl
        have HE := Lib.hid (⟨fun h => by rw [eN]; omega, fun h => by rw [eN]; omega⟩ : (mxN g pre.unattach < g x → g x = mxN g ((pre ++ [(⟨x, hx⟩ : {x : SV // x ∈ qs.flatten.flatten})]).unattach)) ∧ (¬ mxN g pre.unattach < g x → mxN g pre.unattach = mxN g ((pre ++ [(⟨x, hx⟩ : {x : SV // x ∈ qs.flatten.flatten})]).unattach)))
        clear ih hq hg eN
        gi_region_with_o (gi_at_call 53; go_loud (refine (CallsIn.inRound l (IH.out _ (by exact HB.out.drew) (by show n0 ≤ W.heap.size; have := H3.out; omega))).mono ?_; rintro e w2 ⟨rfl, hb2⟩; have c1 : w2.cell? ⟨w'.heap.size, 0, none⟩ = some (.int .i64 (mxN g (pre.map Subtype.val))) := (hb2.cell (p := ⟨w'.heap.size, 0, none⟩) H3.out.2.2).trans H1.out; have c2 : w2.frozen? ⟨w'.heap.size, 0, none⟩ = false := (hb2.frozen (p := ⟨w'.heap.size, 0, none⟩) H3.out.2.2).trans H2.out))
        all_goals gi_wp2
        all_goals exact ⟨(⟨hb2.size, fun k o _ hk _ => (hb2.block k (Array.getElem?_eq_some_iff.1 hk).1).trans hk⟩ : KeepsFrom _ W w2).trans ((KeepsOthers.setCell _ _ _).from _), (((Below.refl n0 W).drew).trans (hb2.mono (by show n0 ≤ W.heap.size; omega))).setCell (by show n0 ≤ w'.heap.size; omega) _, (World.cell?_setCell_same' _ _ _ (by rw [c1]; rfl)).trans (by first | rw [HE.out.1 (by assumption)]; done | rw [HE.out.2 (by assumption)]; done | (rw [← HE.out.1 (by assumption)]; done) | (rw [← HE.out.2 (by assumption)]; done)), by rw [World.frozen?_setCell]; exact c2, ((h3.drew).trans (hb2.mono (by show w'.heap.size ≤ W.heap.size; omega))).setCell (Nat.le_refl _) _⟩
      · have e : mxN g ((pre ++ [(⟨x, hx⟩ : {x : SV // x ∈ qs.flatten.flatten})]).map Subtype.val) = mxN g (pre.map Subtype.val) := by
          rw [List.map_append, List.map_cons, List.map_nil, Qjh, if_neg (by assumption)]
        exact ⟨KeepsFrom.refl _ _, Below.refl _ _, by rw [e]; exact h1, h2, h3⟩
    case done =>
      rintro D ys W hD hys ⟨h1, h2, h3⟩ hK
      rw [show ys.map Subtype.val = _ from hys] at h1
      have hlt : w'.heap.size < W.heap.size := by
        rcases Nat.lt_or_ge w'.heap.size W.heap.size with h | h
        · exact h
        · simp [World.cell?, Array.getElem?_eq_none h] at h1
      have hD' : w'.heap.size + 2 ≤ D := by simpa using hD
      have hw64 : wrap64 ((mxN g qs.flatten.flatten : Nat) + 1) = ((mxN g qs.flatten.flatten + 1 : Nat) : Int) := by simp only [wrap64]; omega
      clear ih hg hq hcw hys
      gi_wp2
      have hK' := (KeepsOthers.setCell W ⟨w'.heap.size, 0, none⟩ (.int .i64 (((mxN g qs.flatten.flatten : Nat) : Int) + 1))).same D _ hK rfl
      refine ⟨by simp, .inl ⟨_, _, rfl, run_takeDeferred hK', ?_⟩⟩
      have hc5 := cell_kept (World.cell?_setCell_same' W ⟨w'.heap.size, 0, none⟩ (.int .i64 (((mxN g qs.flatten.flatten : Nat) : Int) + 1)) (by rw [h1]; rfl)) (grownBy_putObj' _ D (.deferred none)) (fun r e => by cases e; exact ⟨_, hK', rfl⟩)
      refine ⟨.int .i64 (((mxN g qs.flatten.flatten : Nat) : Int) + 1), ?_, ?_, ?_⟩
      · simp [results, Tryz.f53, go_sem, hc5]
      · rw [show ((mxN g qs.flatten.flatten + 1 : Nat) : Int) = ((mxN g qs.flatten.flatten : Nat) : Int) + 1 by omega]
      · exact (h3.setCell (p := ⟨w'.heap.size, 0, none⟩) (Nat.le_refl _) _).grown (grownBy_putObj' _ D (.deferred none)) (by simp [World.setCell]; omega) (fun k e => by cases e; omega)
    case stop =>
      rintro D c pre W _ _ h _
      exact h.elim
end Go.Proofs.YtapnplljnpconaaGreatDoor
set_option maxRecDepth 100000
set_option maxHeartbeats 4000000
namespace Go.Proofs.YtapnplljnpconaaGreatDoor
open Go.RowKit Go.Ev
def hm (L : List SV) : Nat := (L.map SV.h).foldr max 0
def h3 (L : List SV) : Nat := if L = [] then 0 else hm L + 1
def m3 (ps : List (List SV)) : Nat := (ps.map h3).foldr max 0
def h2 (ps : List (List SV)) : Nat := if ps = [] then 0 else m3 ps + 1
def m2 (qs : List (List (List SV))) : Nat := (qs.map h2).foldr max 0
def h1 (qs : List (List (List SV))) : Nat := if qs = [] then 0 else m2 qs + 1
theorem Wbc : ∀ (a b : List Nat), (a ++ b).foldr max 0 = max (a.foldr max 0) (b.foldr max 0)
  | [], b => by simp
  | x :: a, b => by simp only [List.cons_append, List.foldr_cons, Wbc a b]; omega
theorem Wbd (a b : List SV) : hm (a ++ b) = max (hm a) (hm b) := by simp only [hm, List.map_append, Wbc]
theorem Whd : ∀ (ps : List (List SV)), (ps.flatten = [] → m3 ps = 0) ∧ (ps.flatten ≠ [] → m3 ps = hm ps.flatten + 1)
  | [] => ⟨fun _ => rfl, fun h => absurd rfl h⟩
  | L :: ps => by
    obtain ⟨i1, i2⟩ := Whd ps
    have e : m3 (L :: ps) = max (h3 L) (m3 ps) := rfl
    rw [e, List.flatten_cons, Wbd]
    by_cases hL : L = []
    · subst hL
      have e3 : h3 [] = 0 := rfl
      have eh : hm [] = 0 := rfl
      rw [List.nil_append, e3, eh]
      exact ⟨fun h => by rw [i1 h]; rfl, fun h => by rw [i2 h]; omega⟩
    · have e3 : h3 L = hm L + 1 := if_neg hL
      rw [e3]
      refine ⟨fun h => absurd (List.append_eq_nil_iff.1 h).1 hL, fun _ => ?_⟩
      by_cases hp : ps.flatten = []
      · rw [i1 hp, hp]; show max (hm L + 1) 0 = max (hm L) (hm []) + 1; have : hm [] = 0 := rfl; omega
      · rw [i2 hp]; omega
theorem Whe : ∀ (qs : List (List (List SV))), (qs.flatten.flatten = [] → m2 qs ≤ 1) ∧ (qs.flatten.flatten ≠ [] → m2 qs = hm qs.flatten.flatten + 2)
  | [] => ⟨fun _ => Nat.zero_le _, fun h => absurd rfl h⟩
  | ps :: qs => by
    obtain ⟨i1, i2⟩ := Whe qs
    obtain ⟨k1, k2⟩ := Whd ps
    have e : m2 (ps :: qs) = max (h2 ps) (m2 qs) := rfl
    rw [e, List.flatten_cons, List.flatten_append, Wbd]
    have hz : hm [] = 0 := rfl
    by_cases hL : ps.flatten = []
    · have e3 : h2 ps ≤ 1 := by
        unfold h2
        split
        · omega
        · rw [k1 hL]; omega
      rw [hL, List.nil_append, hz]
      exact ⟨fun h => by have := i1 h; omega, fun h => by rw [i2 h]; omega⟩
    · have hne : ps ≠ [] := by rintro rfl; exact hL rfl
      have e3 : h2 ps = hm ps.flatten + 2 := by unfold h2; rw [if_neg hne, k2 hL]
      rw [e3]
      refine ⟨fun h => absurd (List.append_eq_nil_iff.1 h).1 hL, fun _ => ?_⟩
      by_cases hp : qs.flatten.flatten = []
      · have := i1 hp; rw [hp, hz]; omega
      · rw [i2 hp]; omega
theorem Wbe : ∀ (L : List SV), (∀ s ∈ L, s.len = 0 → s.h = 0) → ∀ (n : Nat), L.foldl (fun m x => if 0 < x.len then max m ((x.h + 2) / 3) else m) ((n + 2) / 3) = (max n (hm L) + 2) / 3
  | [], _, n => by
    have : hm [] = 0 := rfl
    rw [this, Nat.max_zero]; rfl
  | x :: L, hL, n => by
    have e : (if 0 < x.len then max ((n + 2) / 3) ((x.h + 2) / 3) else (n + 2) / 3) = (max n x.h + 2) / 3 := by
      split
      · omega
      · have := hL x (List.mem_cons_self ..) (by omega)
        rw [this, Nat.max_zero]
    rw [List.foldl_cons, e, Wbe L (fun s hs => hL s (List.mem_cons_of_mem _ hs))]
    have e2 : hm (x :: L) = max x.h (hm L) := rfl
    rw [e2]
    congr 2
    omega
theorem Whf (L : List SV) (hL : ∀ s ∈ L, s.len = 0 → s.h = 0) : mxN (fun s => (s.h + 2) / 3) L = (hm L + 2) / 3 := by
  have := Wbe L hL 0
  rw [Nat.zero_max] at this
  exact this
theorem Wj0 (qs : List (List (List SV))) : max 1 ((h1 qs + 2) / 3) = (hm qs.flatten.flatten + 2) / 3 + 1 := by
  obtain ⟨k1, k2⟩ := Whe qs
  unfold h1
  split
  · rename_i h; subst h; rfl
  · by_cases h : qs.flatten.flatten = []
    · have := k1 h; rw [h]; have : hm [] = 0 := rfl; omega
    · rw [k2 h]; omega
section
variable {M : Mem} {ι : Plc} {n0 : Nat} {w : World}
def Held (M : Mem) (n0 : Nat) (w : World) : Prop := ∀ b i u, M b i = some u → b < n0 ∧ w.cell? ⟨b, i, none⟩ = some u
theorem Qrq : ∀ (xs : List V), V.hhs xs = (xs.map V.hh).foldr max 0
  | [] => rfl
  | x :: xs => by simp only [V.hhs, List.map_cons, List.foldr_cons, Qrq xs]
theorem Qf5 {k : Nat} : ∀ {xs : List V}, V.shpAll k xs = true → ∀ x ∈ xs, V.shp k x = true
  | [], _, x, hx => by cases hx
  | y :: xs, h, x, hx => by
    simp only [V.shpAll, Bool.and_eq_true] at h
    rcases List.mem_cons.1 hx with rfl | hx
    · exact h.1
    · exact Qf5 h.2 x hx
theorem Qmr {α : Type} (P : Nat → α → Prop) : ∀ n, (∀ i, i < n → ∃ x, P i x) → ∃ xs : List α, xs.length = n ∧ ∀ i x, xs[i]? = some x → P i x := by
  intro n
  induction n with
  | zero => intro _; exact ⟨[], rfl, fun i x hi => by cases hi⟩
  | succ n ih =>
    intro h
    obtain ⟨xs, hl, hx⟩ := ih (fun i hi => h i (by omega))
    obtain ⟨y, hy⟩ := h n (by omega)
    refine ⟨xs ++ [y], by simp [hl], fun i x hi => ?_⟩
    by_cases e : i < xs.length
    · rw [List.getElem?_append_left e] at hi; exact hx i x hi
    · have h1 := (List.getElem?_eq_some_iff.1 hi).1
      have e2 : i = n := by simp at h1; omega
      subst e2
      rw [List.getElem?_append_right (by omega), hl, Nat.sub_self] at hi
      cases hi
      exact hy
theorem Qtb {xs : List V} {sz : Nat} (hs : ∀ x ∈ xs, x.cells.length = sz) : ∀ (i : Nat) (x : V) (j : Nat), xs[i]? = some x → j < sz → (xs.flatMap V.cells)[i * sz + j]? = x.cells[j]? := by
  induction xs with
  | nil => intro i x j h; simp at h
  | cons y xs ih =>
    intro i x j h hj
    have hy := hs y (List.mem_cons_self ..)
    rw [List.flatMap_cons]
    cases i with
    | zero =>
      simp at h
      subst h
      rw [List.getElem?_append_left (by omega)]
      congr 1; omega
    | succ i =>
      have : (i + 1) * sz + j = sz + (i * sz + j) := by rw [Nat.succ_mul]; omega
      rw [List.getElem?_append_right (by omega), this, hy, Nat.add_sub_cancel_left]
      exact ih (fun z hz => hs z (List.mem_cons_of_mem _ hz)) i x j (by simpa using h) hj
theorem Qp6 {v : Value} {x : V} (hx : x = .nils ∨ ∃ xs c, x = .sl xs c) (h : Rep M ι v x) (hM : Held M n0 w) :
    ∃ (xs : List V) (a : Option Addr) (cap : Nat), v = .slice a xs.length cap ∧ (x = .nils ∧ xs = [] ∨ ∃ c, x = .sl xs c) ∧
      ∀ i e, xs[i]? = some e → ∃ b off, a = some ⟨b, off, none⟩ ∧ ∀ j c, e.cells[j]? = some c → ∃ u, Rep M ι u c ∧ b < n0 ∧ w.cell? ⟨b, off + (i * e.cells.length + j), none⟩ = some u := by
  rcases hx with rfl | ⟨xs, c, rfl⟩
  · cases h
    exact ⟨[], none, 0, rfl, .inl ⟨rfl, rfl⟩, fun i e he => by cases he⟩
  · rcases h.inv_sl with ⟨b, off, cap, sz, us, rfl, hs, hr, hm, _, _⟩ | ⟨a, rfl, rfl, _⟩
    · refine ⟨xs, _, cap, rfl, .inr ⟨c, rfl⟩, fun i e he => ⟨b, off, rfl, fun j c' hc => ?_⟩⟩
      have hsz := hs e (List.mem_of_getElem? he)
      have hj : j < sz := by rw [← hsz]; exact (List.getElem?_eq_some_iff.1 hc).1
      have h1 := Qtb hs i e j he hj
      rw [hc] at h1
      obtain ⟨u, hu, hru⟩ := hr.get h1
      have := hM b _ u (hm _ u hu)
      rw [hsz]
      refine ⟨u, hru, this.1, ?_⟩
      rw [← Nat.add_assoc] at this ⊢
      exact this.2
    · exact ⟨[], some a, 0, rfl, .inr ⟨c, rfl⟩, fun i e he => by cases he⟩
theorem shp6 {x : V} (h : V.shp 6 x = true) : ∃ n, x = .int .i64 n := by
  cases x <;> simp [V.shp] at h
  subst h
  exact ⟨_, rfl⟩
theorem shp7 {x : V} (h : V.shp 7 x = true) : ∃ b, x = .bool b := by
  cases x <;> simp [V.shp] at h
  exact ⟨_, rfl⟩
theorem shp8 {x : V} (h : V.shp 8 x = true) : ∃ s, x = .str s := by
  cases x <;> simp [V.shp] at h
  exact ⟨_, rfl⟩
theorem shpR {k : Nat} {x : V} (hk : k = 0 ∨ k = 2 ∨ k = 4) (h : V.shp k x = true) : x = .nils ∨ ∃ xs c, x = .sl xs c ∧ xs.length ≤ 1000000000 ∧ V.shpAll (k + 1) xs = true := by
  rcases hk with rfl | rfl | rfl <;> cases x <;> simp [V.shp] at h <;> first | exact .inl rfl | exact .inr ⟨_, _, rfl, h.1, h.2⟩
def Pd (M : Mem) (ι : Plc) (n0 : Nat) (w : World) (x : V) : Prop := ∀ v, Rep M ι v x → V.shp 0 x = true → Dp n0 w v (max 1 ((V.hh x + 2) / 3))
theorem Qzx (xs : List V) (c : Cap) : V.hh (.sl xs c) = if xs.isEmpty then 0 else V.hhs xs + 1 := by simp only [V.hh]
theorem mk_s (hM : Held M n0 w) {e : V} (hs : V.shp 5 e = true) (IH : ∀ o, SizeOf.sizeOf o < SizeOf.sizeOf e → Pd M ι n0 w o) {b off i : Nat}
    (he : ∀ j c, e.cells[j]? = some c → ∃ u, Rep M ι u c ∧ b < n0 ∧ w.cell? ⟨b, off + (i * e.cells.length + j), none⟩ = some u) :
    ∃ s : SV, b < n0 ∧ (∀ j u, s.cs[j]? = some u → w.cell? ⟨b, off + i * 11 + j, none⟩ = some u) ∧ (0 < s.len → Dp n0 w s.of ((s.h + 2) / 3)) ∧ (s.len = 0 → s.h = 0) ∧ s.h = V.hh e := by
  cases e <;> simp [V.shp] at hs
  rename_i cs
  match cs, hs with
  | [], hs => simp [V.shpEach] at hs
  | [_], hs => simp [V.shpEach] at hs
  | [_, _], hs => simp [V.shpEach] at hs
  | [_, _, _], hs => simp [V.shpEach] at hs
  | [_, _, _, _], hs => simp [V.shpEach] at hs
  | [_, _, _, _, _], hs => simp [V.shpEach] at hs
  | [_, _, _, _, _, _], hs => simp [V.shpEach] at hs
  | [_, _, _, _, _, _, _], hs => simp [V.shpEach] at hs
  | [_, _, _, _, _, _, _, _], hs => simp [V.shpEach] at hs
  | [_, _, _, _, _, _, _, _, _], hs => simp [V.shpEach] at hs
  | [_, _, _, _, _, _, _, _, _, _], hs => simp [V.shpEach] at hs
  | _ :: _ :: _ :: _ :: _ :: _ :: _ :: _ :: _ :: _ :: _ :: _ :: _, hs => simp [V.shpEach] at hs
  | [y0, y1, y2, y3, y4, y5, y6, y7, y8, y9, o], hs =>
    simp only [V.shpEach, Bool.and_eq_true, and_true, List.isEmpty_nil] at hs
    obtain ⟨p0, p1, p2, p3, p4, p5, p6, p7, p8, p9, po⟩ := hs
    obtain ⟨v0, rfl⟩ := shp6 p0
    obtain ⟨v1, rfl⟩ := shp6 p1
    obtain ⟨v2, rfl⟩ := shp8 p2
    obtain ⟨v3, rfl⟩ := shp8 p3
    obtain ⟨v4, rfl⟩ := shp6 p4
    obtain ⟨v5, rfl⟩ := shp8 p5
    obtain ⟨v6, rfl⟩ := shp7 p6
    obtain ⟨v7, rfl⟩ := shp6 p7
    obtain ⟨v8, rfl⟩ := shp6 p8
    obtain ⟨v9, rfl⟩ := shp6 p9
    obtain ⟨u0, r0, hb, g0⟩ := he 0 _ rfl
    obtain ⟨u1, r1, _, g1⟩ := he 1 _ rfl
    obtain ⟨u2, r2, _, g2⟩ := he 2 _ rfl
    obtain ⟨u3, r3, _, g3⟩ := he 3 _ rfl
    obtain ⟨u4, r4, _, g4⟩ := he 4 _ rfl
    obtain ⟨u5, r5, _, g5⟩ := he 5 _ rfl
    obtain ⟨u6, r6, _, g6⟩ := he 6 _ rfl
    obtain ⟨u7, r7, _, g7⟩ := he 7 _ rfl
    obtain ⟨u8, r8, _, g8⟩ := he 8 _ rfl
    obtain ⟨u9, r9, _, g9⟩ := he 9 _ rfl
    obtain ⟨u10, r10, _, g10⟩ := he 10 _ rfl
    cases r0.inv_int; cases r1.inv_int; cases r4.inv_int; cases r7.inv_int; cases r8.inv_int; cases r9.inv_int; cases r6.inv_bool
    obtain ⟨s2, rfl, _⟩ := r2.inv_str
    obtain ⟨s3, rfl, _⟩ := r3.inv_str
    obtain ⟨s5, rfl, _⟩ := r5.inv_str
    have hd := IH o (by simp; omega) u10 r10 po
    have hz : (∃ a l c, u10 = .slice a l c ∧ (0 < l → 1 ≤ V.hh o) ∧ (l = 0 → V.hh o = 0)) := by
      rcases shpR (.inl rfl) po with rfl | ⟨xs, c, rfl, _, _⟩
      · cases r10; exact ⟨_, _, _, rfl, fun h => absurd h (by omega), fun _ => rfl⟩
      · rw [Qzx]
        rcases r10.inv_sl with ⟨b, off, cap, sz, us, rfl, _⟩ | ⟨a, rfl, rfl, _⟩
        · refine ⟨_, _, _, rfl, fun h => ?_, fun h => ?_⟩
          · rw [if_neg (by cases xs with | nil => simp at h | cons _ _ => simp)]; omega
          · rw [if_pos (by rw [List.length_eq_zero_iff.1 h]; rfl)]
        · exact ⟨_, _, _, rfl, fun h => absurd h (by omega), fun _ => rfl⟩
    obtain ⟨a, l, c, rfl, z1, z2⟩ := hz
    have hhe : ∀ a b c d e f g h i j, V.hh (.agg [.int .i64 a, .int .i64 b, .str c, .str d, .int .i64 e, .str f, .bool g, .int .i64 h, .int .i64 i, .int .i64 j, o]) = V.hh o := fun a b c d e f g h i j => by simp [V.hh, V.hhs]
    refine ⟨⟨v0, v1, s2, s3, v4, s5, v6, v7, v8, v9, a, l, c, V.hh o⟩, hb, ?_, ?_, z2, (hhe _ _ _ _ _ _ _ _ _ _).symm⟩
    · intro j u hu
      match j, hu with
      | 0, hu => cases hu; exact g0
      | 1, hu => cases hu; exact g1
      | 2, hu => cases hu; exact g2
      | 3, hu => cases hu; exact g3
      | 4, hu => cases hu; exact g4
      | 5, hu => cases hu; exact g5
      | 6, hu => cases hu; exact g6
      | 7, hu => cases hu; exact g7
      | 8, hu => cases hu; exact g8
      | 9, hu => cases hu; exact g9
      | 10, hu => cases hu; exact g10
      | j + 11, hu => simp [SV.cs] at hu
    · intro hl
      have := z1 hl
      rw [show max 1 ((V.hh o + 2) / 3) = (V.hh o + 2) / 3 by omega] at hd
      exact hd
theorem Qms {xs : List V} {x : V} {c : Cap} (h : x ∈ xs) : SizeOf.sizeOf x < SizeOf.sizeOf (V.sl xs c) := by
  have := List.sizeOf_lt_of_mem h
  simp; omega
theorem mk3 (hM : Held M n0 w) {v : Value} {x : V} (hr : Rep M ι v x) (hs : V.shp 4 x = true) (IH : ∀ o, SizeOf.sizeOf o < SizeOf.sizeOf x → Pd M ι n0 w o) :
    ∃ L : List SV, R3 n0 w v L ∧ (∀ s ∈ L, 0 < s.len → Dp n0 w s.of ((s.h + 2) / 3)) ∧ (∀ s ∈ L, s.len = 0 → s.h = 0) ∧ V.hh x = h3 L := by
  have hx := shpR (.inr (.inr rfl)) hs
  obtain ⟨xs, a, cap, rfl, hxx, hel⟩ := Qp6 (by rcases hx with h | ⟨xs, c, h, _⟩; exact .inl h; exact .inr ⟨xs, c, h⟩) hr hM
  have hxs : (∀ e ∈ xs, V.shp 5 e = true ∧ SizeOf.sizeOf e < SizeOf.sizeOf x) ∧ xs.length ≤ 1000000000 ∧ V.hh x = if xs = [] then 0 else V.hhs xs + 1 := by
    rcases hxx with ⟨rfl, rfl⟩ | ⟨c, rfl⟩
    · exact ⟨fun e he => (by cases he), by simp, rfl⟩
    · rcases hx with h | ⟨ys, c', h, h1, h2⟩
      · cases h
      · cases h
        refine ⟨fun e he => ⟨Qf5 h2 e he, Qms he⟩, h1, ?_⟩
        rw [Qzx]; cases xs <;> rfl
  obtain ⟨h1, h2, h3'⟩ := hxs
  obtain ⟨L, hL, hLe⟩ := Qmr (fun i (s : SV) => ∃ b off, a = some ⟨b, off, none⟩ ∧ b < n0 ∧ (∀ j u, s.cs[j]? = some u → w.cell? ⟨b, off + i * 11 + j, none⟩ = some u) ∧ (0 < s.len → Dp n0 w s.of ((s.h + 2) / 3)) ∧ (s.len = 0 → s.h = 0) ∧ (xs[i]?).map V.hh = some s.h) xs.length (fun i hi => by
    obtain ⟨e, he⟩ : ∃ e, xs[i]? = some e := ⟨_, List.getElem?_eq_getElem hi⟩
    obtain ⟨g1, g2⟩ := h1 e (List.mem_of_getElem? he)
    obtain ⟨b, off, ha, hc⟩ := hel i e he
    obtain ⟨s, k1, k2, k3, k4, k5⟩ := mk_s hM g1 (fun o ho => IH o (by omega)) hc
    exact ⟨s, b, off, ha, k1, k2, k3, k4, by rw [he, k5]; rfl⟩)
  refine ⟨L, ⟨a, cap, by rw [hL], by omega, fun i s hs => ?_⟩, fun s hs => ?_, fun s hs => ?_, ?_⟩
  · obtain ⟨b, off, k1, k2, k3, _⟩ := hLe i s hs
    exact ⟨b, off, k1, k2, k3⟩
  · obtain ⟨i, hi⟩ := List.getElem?_of_mem hs
    obtain ⟨b, off, k1, k2, k3, k4, _⟩ := hLe i s hi
    exact k4
  · obtain ⟨i, hi⟩ := List.getElem?_of_mem hs
    obtain ⟨b, off, k1, k2, k3, k4, k5, _⟩ := hLe i s hi
    exact k5
  · have e : xs.map V.hh = L.map SV.h := by
      apply List.ext_getElem?
      intro i
      rw [List.getElem?_map, List.getElem?_map]
      cases hi : L[i]? with
      | none =>
        have : xs[i]? = none := by rw [List.getElem?_eq_none_iff] at hi ⊢; omega
        rw [this]; rfl
      | some s =>
        obtain ⟨b, off, k1, k2, k3, k4, k5, k6⟩ := hLe i s hi
        rw [k6]; rfl
    rw [h3', Qrq, e]
    unfold h3 hm
    have : xs = [] ↔ L = [] := by rw [← List.length_eq_zero_iff, ← List.length_eq_zero_iff, hL]
    by_cases hz : L = []
    · rw [if_pos (this.2 hz), if_pos hz]
    · rw [if_neg (fun h => hz (this.1 h)), if_neg hz]
theorem Whg {e : V} (h : V.shp 1 e = true) : ∃ l, e = .agg [l] ∧ V.shp 2 l = true := by
  cases e <;> simp [V.shp] at h
  rename_i cs
  match cs, h with
  | [], h => simp [V.shpEach] at h
  | [l], h => simp only [V.shpEach, Bool.and_eq_true] at h; exact ⟨l, rfl, h.1⟩
  | _ :: _ :: _, h => simp [V.shpEach] at h
theorem Whh {e : V} (h : V.shp 3 e = true) : ∃ n l, e = .agg [.int .i64 n, l] ∧ V.shp 4 l = true := by
  cases e <;> simp [V.shp] at h
  rename_i cs
  match cs, h with
  | [], h => simp [V.shpEach] at h
  | [_], h => simp [V.shpEach] at h
  | [x, l], h =>
    simp only [V.shpEach, Bool.and_eq_true] at h
    obtain ⟨n, rfl⟩ := shp6 h.1
    exact ⟨n, l, rfl, h.2.1⟩
  | _ :: _ :: _ :: _, h => simp [V.shpEach] at h
theorem mk2 (hM : Held M n0 w) {v : Value} {x : V} (hr : Rep M ι v x) (hs : V.shp 2 x = true) (IH : ∀ o, SizeOf.sizeOf o < SizeOf.sizeOf x → Pd M ι n0 w o) :
    ∃ ps : List (List SV), R2 n0 w v ps ∧ (∀ L ∈ ps, (∀ s ∈ L, 0 < s.len → Dp n0 w s.of ((s.h + 2) / 3)) ∧ (∀ s ∈ L, s.len = 0 → s.h = 0)) ∧ V.hh x = h2 ps := by
  have hx := shpR (.inr (.inl rfl)) hs
  obtain ⟨xs, a, cap, rfl, hxx, hel⟩ := Qp6 (by rcases hx with h | ⟨xs, c, h, _⟩; exact .inl h; exact .inr ⟨xs, c, h⟩) hr hM
  have hxs : (∀ e ∈ xs, V.shp 3 e = true ∧ SizeOf.sizeOf e < SizeOf.sizeOf x) ∧ xs.length ≤ 1000000000 ∧ V.hh x = if xs = [] then 0 else V.hhs xs + 1 := by
    rcases hxx with ⟨rfl, rfl⟩ | ⟨c, rfl⟩
    · exact ⟨fun e he => (by cases he), by simp, rfl⟩
    · rcases hx with h | ⟨ys, c', h, h1, h2⟩
      · cases h
      · cases h
        refine ⟨fun e he => ⟨Qf5 h2 e he, Qms he⟩, h1, ?_⟩
        rw [Qzx]; cases xs <;> rfl
  obtain ⟨g1, g2, g3⟩ := hxs
  obtain ⟨ps, hL, hLe⟩ := Qmr (fun i (L : List SV) => ∃ b off c u, a = some ⟨b, off, none⟩ ∧ b < n0 ∧ w.cell? ⟨b, off + i * 2, none⟩ = some (.int .i64 c) ∧ w.cell? ⟨b, off + i * 2 + 1, none⟩ = some u ∧ R3 n0 w u L ∧ (∀ s ∈ L, 0 < s.len → Dp n0 w s.of ((s.h + 2) / 3)) ∧ (∀ s ∈ L, s.len = 0 → s.h = 0) ∧ (xs[i]?).map V.hh = some (h3 L)) xs.length (fun i hi => by
    obtain ⟨e, he⟩ : ∃ e, xs[i]? = some e := ⟨_, List.getElem?_eq_getElem hi⟩
    obtain ⟨q1, q2⟩ := g1 e (List.mem_of_getElem? he)
    obtain ⟨n, l, rfl, hl⟩ := Whh q1
    obtain ⟨b, off, ha, hc⟩ := hel i _ he
    obtain ⟨u0, r0, hb, c0⟩ := hc 0 _ rfl
    obtain ⟨u1, r1, _, c1⟩ := hc 1 _ rfl
    cases r0.inv_int
    obtain ⟨L, k1, k2, k3, k4⟩ := mk3 hM r1 hl (fun o ho => IH o (by simp at q2; omega))
    refine ⟨L, b, off, n, u1, ha, hb, c0, c1, k1, k2, k3, ?_⟩
    rw [he, ← k4]
    simp [V.hh, V.hhs])
  refine ⟨ps, ⟨a, cap, by rw [hL], by omega, fun i s hs => ?_⟩, fun L hs => ?_, ?_⟩
  · obtain ⟨b, off, c, u, k1, k2, k3, k4, k5, _⟩ := hLe i s hs
    exact ⟨b, off, c, u, k1, k2, k3, k4, k5⟩
  · obtain ⟨i, hi⟩ := List.getElem?_of_mem hs
    obtain ⟨b, off, c, u, k1, k2, k3, k4, k5, k6, k7, _⟩ := hLe i L hi
    exact ⟨k6, k7⟩
  · have e : xs.map V.hh = ps.map h3 := by
      apply List.ext_getElem?
      intro i
      rw [List.getElem?_map, List.getElem?_map]
      cases hi : ps[i]? with
      | none =>
        have : xs[i]? = none := by rw [List.getElem?_eq_none_iff] at hi ⊢; omega
        rw [this]; rfl
      | some s =>
        obtain ⟨b, off, c, u, k1, k2, k3, k4, k5, k6, k7, k8⟩ := hLe i s hi
        rw [k8]; rfl
    rw [g3, Qrq, e]
    unfold h2 m3
    have : xs = [] ↔ ps = [] := by rw [← List.length_eq_zero_iff, ← List.length_eq_zero_iff, hL]
    by_cases hz : ps = []
    · rw [if_pos (this.2 hz), if_pos hz]
    · rw [if_neg (fun h => hz (this.1 h)), if_neg hz]
theorem mk1 (hM : Held M n0 w) {v : Value} {x : V} (hr : Rep M ι v x) (hs : V.shp 0 x = true) (IH : ∀ o, SizeOf.sizeOf o < SizeOf.sizeOf x → Pd M ι n0 w o) :
    ∃ qs : List (List (List SV)), R1 n0 w v qs ∧ (∀ ps ∈ qs, ∀ L ∈ ps, (∀ s ∈ L, 0 < s.len → Dp n0 w s.of ((s.h + 2) / 3)) ∧ (∀ s ∈ L, s.len = 0 → s.h = 0)) ∧ V.hh x = h1 qs := by
  have hx := shpR (.inl rfl) hs
  obtain ⟨xs, a, cap, rfl, hxx, hel⟩ := Qp6 (by rcases hx with h | ⟨xs, c, h, _⟩; exact .inl h; exact .inr ⟨xs, c, h⟩) hr hM
  have hxs : (∀ e ∈ xs, V.shp 1 e = true ∧ SizeOf.sizeOf e < SizeOf.sizeOf x) ∧ xs.length ≤ 1000000000 ∧ V.hh x = if xs = [] then 0 else V.hhs xs + 1 := by
    rcases hxx with ⟨rfl, rfl⟩ | ⟨c, rfl⟩
    · exact ⟨fun e he => (by cases he), by simp, rfl⟩
    · rcases hx with h | ⟨ys, c', h, h1, h2⟩
      · cases h
      · cases h
        refine ⟨fun e he => ⟨Qf5 h2 e he, Qms he⟩, h1, ?_⟩
        rw [Qzx]; cases xs <;> rfl
  obtain ⟨g1, g2, g3⟩ := hxs
  obtain ⟨qs, hL, hLe⟩ := Qmr (fun i (ps : List (List SV)) => ∃ b off u, a = some ⟨b, off, none⟩ ∧ b < n0 ∧ w.cell? ⟨b, off + i, none⟩ = some u ∧ R2 n0 w u ps ∧ (∀ L ∈ ps, (∀ s ∈ L, 0 < s.len → Dp n0 w s.of ((s.h + 2) / 3)) ∧ (∀ s ∈ L, s.len = 0 → s.h = 0)) ∧ (xs[i]?).map V.hh = some (h2 ps)) xs.length (fun i hi => by
    obtain ⟨e, he⟩ : ∃ e, xs[i]? = some e := ⟨_, List.getElem?_eq_getElem hi⟩
    obtain ⟨q1, q2⟩ := g1 e (List.mem_of_getElem? he)
    obtain ⟨l, rfl, hl⟩ := Whg q1
    obtain ⟨b, off, ha, hc⟩ := hel i _ he
    obtain ⟨u0, r0, hb, c0⟩ := hc 0 _ rfl
    obtain ⟨ps, k1, k2, k3⟩ := mk2 hM r0 hl (fun o ho => IH o (by simp at q2; omega))
    refine ⟨ps, b, off, u0, ha, hb, by simpa [V.cells] using c0, k1, k2, ?_⟩
    rw [he, ← k3]
    simp [V.hh, V.hhs])
  refine ⟨qs, ⟨a, cap, by rw [hL], by omega, fun i s hs => ?_⟩, fun ps hs => ?_, ?_⟩
  · obtain ⟨b, off, u, k1, k2, k3, k4, _⟩ := hLe i s hs
    exact ⟨b, off, u, k1, k2, k3, k4⟩
  · obtain ⟨i, hi⟩ := List.getElem?_of_mem hs
    obtain ⟨b, off, u, k1, k2, k3, k4, k5, _⟩ := hLe i ps hi
    exact k5
  · have e : xs.map V.hh = qs.map h2 := by
      apply List.ext_getElem?
      intro i
      rw [List.getElem?_map, List.getElem?_map]
      cases hi : qs[i]? with
      | none =>
        have : xs[i]? = none := by rw [List.getElem?_eq_none_iff] at hi ⊢; omega
        rw [this]; rfl
      | some s =>
        obtain ⟨b, off, u, k1, k2, k3, k4, k5, k6⟩ := hLe i s hi
        rw [k6]; rfl
    rw [g3, Qrq, e]
    unfold h1 m2
    have : xs = [] ↔ qs = [] := by rw [← List.length_eq_zero_iff, ← List.length_eq_zero_iff, hL]
    by_cases hz : qs = []
    · rw [if_pos (this.2 hz), if_pos hz]
    · rw [if_neg (fun h => hz (this.1 h)), if_neg hz]
theorem Wbf (hM : Held M n0 w) : ∀ (n : Nat) (x : V), SizeOf.sizeOf x < n → Pd M ι n0 w x
  | 0, x, h => by omega
  | n + 1, x, h => fun v hr hs => by
    obtain ⟨qs, k1, k2, k3⟩ := mk1 hM hr hs (fun o ho => Wbf hM n o (by omega))
    have hz : ∀ s ∈ qs.flatten.flatten, s.len = 0 → s.h = 0 := fun s hs => by
      obtain ⟨L, hL, hs⟩ := List.mem_flatten.1 hs
      obtain ⟨ps, hps, hL⟩ := List.mem_flatten.1 hL
      exact (k2 ps hps L hL).2 s hs
    rw [k3, Wj0, ← Whf _ hz]
    refine .mk v qs _ k1 fun s hs hl => ?_
    obtain ⟨L, hL, hs⟩ := List.mem_flatten.1 hs
    obtain ⟨ps, hps, hL⟩ := List.mem_flatten.1 hL
    exact (k2 ps hps L hL).1 s hs hl
end
theorem Qp7 (G : GV) : Sound Tryz.prog G 53 Qp5 := by
  refine Sound.of_below fun args σ r σ' he => ?_
  have hrun : ∀ vs w, (callFunc 53 vs).run Tryz.prog w = .ok (.enter 53 vs) w := fun vs w => Qfl Tryz.func53 rfl (by kernel_rfl) vs
  unfold Qp5 at he
  rw [Option.map_eq_some_iff] at he
  obtain ⟨v0, hv0, he⟩ := he
  cases he
  unfold Qp4 at hv0
  split at hv0
  · rename_i x
    split at hv0
    · rename_i hc
      cases hv0
      simp only [Bool.and_eq_true, decide_eq_true_eq] at hc
      refine ⟨rfl, rfl, fun M ι X κ w vs h hG => ⟨hrun _ _, _, .int _ _, ?_⟩⟩
      have hl := h.rep.1
      obtain ⟨v, hv⟩ : ∃ v, vs.toList = [v] := List.length_eq_one_iff.1 (by simpa using hl)
      have hvs : vs = #[v] := by apply Array.ext'; simpa using hv
      have hr : Rep M ι v x := by have := h.rep; rw [hv] at this; exact this.head
      subst hvs
      have hM : Held M w.heap.size w := fun b i u hb => ⟨h.wd.lt hb, h.wd.mem b i u hb⟩
      exact Qta (Wbf hM _ x (Nat.lt_succ_self _) v hr hc.1) (by omega) w (.refl _ _) (Nat.le_refl _)
    · cases hv0
  · cases hv0
end Go.Proofs.YtapnplljnpconaaGreatDoor
set_option maxRecDepth 100000
namespace Go.Proofs.YtapnplljnpconaaGreatDoor
open Go.Ev
def Qp8 (f : FuncId) : Option (List V → Objs → Option (V × Objs)) :=
  if f = 53 then some Qp5 else none
def Qb0 : List (List UInt8) := [[104, 111, 118, 101, 114], [97, 99, 116, 105, 118, 101], [102, 111, 99, 117, 115], [102, 111, 99, 117, 115, 45, 118, 105, 115, 105, 98, 108, 101], [118, 105, 115, 105, 116, 101, 100], [108, 105, 110, 107], [99, 104, 101, 99, 107, 101, 100], [100, 105, 115, 97, 98, 108, 101, 100], [101, 110, 97, 98, 108, 101, 100], [116, 97, 114, 103, 101, 116]]
def Qb1 : List (List UInt8) := [[98, 101, 102, 111, 114, 101], [97, 102, 116, 101, 114], [102, 105, 114, 115, 116, 45, 108, 105, 110, 101], [102, 105, 114, 115, 116, 45, 108, 101, 116, 116, 101, 114], [109, 97, 114, 107, 101, 114], [115, 101, 108, 101, 99, 116, 105, 111, 110], [112, 108, 97, 99, 101, 104, 111, 108, 100, 101, 114], [98, 97, 99, 107, 100, 114, 111, 112]]
def Qe7 : List Nat := List.replicate 128 240 ++ List.replicate 66 241 ++ List.replicate 30 2 ++ [19] ++ List.replicate 12 3 ++ [35] ++ List.replicate 2 3 ++ [52] ++ List.replicate 3 4 ++ [68] ++ List.replicate 11 241
def accN : List (Nat × Nat) := [(128, 191), (160, 191), (128, 159), (144, 191), (128, 143)] ++ List.replicate 11 (0, 0)
def Qp9 : List V := Qb0.map V.str
def Qkb : List V := Qb1.map V.str
def Qhp : List V := Qe7.map fun (n : Nat) => V.int .u8 (n : Int)
def accV : List V := accN.flatMap fun p => [V.int .u8 (p.1 : Int), V.int .u8 (p.2 : Int)]
def gTab (n : Nat) : V := if n = 3 then .eptr Qp9 0 else if n = 4 then .eptr Qkb 0 else if n = 1 then .eptr Qhp 0 else if n = 2 then .eptr accV 0 else .any
def cx : Ctx := ⟨⟨gTab, []⟩, Qvc, Qp8⟩
theorem Wd8 : ∀ f h, cx.prim f = some h → Sound Tryz.prog cx.G f h := by
  intro f h hh
  unfold cx Qp8 at hh
  simp only at hh
  split at hh
  · rename_i e; subst e; cases hh; exact Qp7 _
  · cases hh
theorem Whi {l : List (Nat × Ev.Fn)} (h : l.all (fun p => !p.2.esc) = true) : ∀ f F, Qny l f = some F → F.esc = false := by
  induction l with
  | nil => intro f F hF; cases hF
  | cons p r ih =>
    intro f F hF
    simp only [List.all_cons, Bool.and_eq_true, Bool.not_eq_true'] at h
    unfold Qny at hF
    split at hF
    · cases hF; exact h.1
    · exact ih h.2 f F hF
theorem Whj : ∀ f F, cx.code f = some F → F.esc = false := Whi (l := Qmd) (by kernel_rfl)
theorem Wj1 {l : List (Nat × Ev.Fn)} (h : l.all (fun p => p.2.body.cl && !p.2.esc) = true) : ∀ f F, Qny l f = some F → F.body.cl = true ∧ F.esc = false := by
  induction l with
  | nil => intro f F hF; cases hF
  | cons p r ih =>
    intro f F hF
    simp only [List.all_cons, Bool.and_eq_true, Bool.not_eq_true'] at h
    unfold Qny at hF
    split at hF
    · cases hF; exact h.1
    · exact ih (by simpa using h.2) f F hF
theorem Qci : CtxCl cx := by
  refine ⟨fun n => ?_, Wj1 (l := Qmd) (by kernel_rfl), ?_⟩
  · show V.rb 0 (gTab n) = true
    unfold gTab
    split
    · kernel_rfl
    · split
      · kernel_rfl
      · split
        · kernel_rfl
        · split
          · kernel_rfl
          · rfl
  · intro f h hh
    unfold cx Qp8 at hh
    simp only at hh
    split at hh
    · cases hh; exact Qzw
    · cases hh
end Go.Proofs.YtapnplljnpconaaGreatDoor
set_option maxRecDepth 100000
namespace Go.Proofs.YtapnplljnpconaaGreatDoor
open Go.Ev
theorem e_Z1n (a0 a1 : V) (σ : Objs) : E cx 3 [a0, a1] σ = s_Z1n (Mi cx) a0 a1 σ := (E_fn (F := c_Z1n) (by kernel_rfl) (by kernel_rfl) _ _).trans (k_Z1n ..)
theorem u_Z1n_1 (n0 : Nat) (n1 : Nat) (r1 : Rk) (n2 : Nat) (z0 z5 z7 z8 z30 z31 z32 z53 z54 z55 : V) (σ : Objs) : l_Z1n_1 (Mi cx) n0 n1 r1 n2 [z0, z5, z7, z8, z30, z31, z32, z53, z54, z55] σ = b_Z1n_1 (Mi cx) n0 n1 r1 n2 (l_Z1n_1 (Mi cx) n0 n1 r1 n2) z0 z5 z7 z8 z30 z31 z32 z53 z54 z55 σ :=
  Qa1 cx (seek (Mi cx) 107 [(n1, r1)] [true, true, true, true, true, true, false, true, true, true, false, true, true, true, true] c_Z1n.body (topK c_Z1n n0)) n2 (B := fun rec vs σ => b_Z1n_1 (Mi cx) n0 n1 r1 n2 rec (vs.getD 0 .undef) (vs.getD 1 .undef) (vs.getD 2 .undef) (vs.getD 3 .undef) (vs.getD 4 .undef) (vs.getD 5 .undef) (vs.getD 6 .undef) (vs.getD 7 .undef) (vs.getD 8 .undef) (vs.getD 9 .undef) σ) (by kernel_rfl) (by kernel_rfl) _ _
theorem u_Z1n_3 (n0 : Nat) (n1 : Nat) (r1 : Rk) (n2 : Nat) (z0 z5 z7 z13 z68 z69 z70 z78 z79 z80 : V) (σ : Objs) : l_Z1n_3 (Mi cx) n0 n1 r1 n2 [z0, z5, z7, z13, z68, z69, z70, z78, z79, z80] σ = b_Z1n_3 (Mi cx) n0 n1 r1 n2 (l_Z1n_3 (Mi cx) n0 n1 r1 n2) z0 z5 z7 z13 z68 z69 z70 z78 z79 z80 σ :=
  Qa1 cx (seek (Mi cx) 107 [(n1, r1)] [true, true, true, true, true, true, true, false, true, true, true, false, true, true] c_Z1n.body (topK c_Z1n n0)) n2 (B := fun rec vs σ => b_Z1n_3 (Mi cx) n0 n1 r1 n2 rec (vs.getD 0 .undef) (vs.getD 1 .undef) (vs.getD 2 .undef) (vs.getD 3 .undef) (vs.getD 4 .undef) (vs.getD 5 .undef) (vs.getD 6 .undef) (vs.getD 7 .undef) (vs.getD 8 .undef) (vs.getD 9 .undef) σ) (by kernel_rfl) (by kernel_rfl) _ _
theorem u_Z1n_2 (n0 : Nat) (n1 : Nat) (z0 z5 z7 z68 z69 z70 : V) (σ : Objs) : l_Z1n_2 (Mi cx) n0 n1 [z0, z5, z7, z68, z69, z70] σ = b_Z1n_2 (Mi cx) n0 n1 (l_Z1n_2 (Mi cx) n0 n1) z0 z5 z7 z68 z69 z70 σ :=
  Qa1 cx (seek (Mi cx) 107 [] [true, true, true, true, true, true, true, false, true] c_Z1n.body (topK c_Z1n n0)) n1 (B := fun rec vs σ => b_Z1n_2 (Mi cx) n0 n1 rec (vs.getD 0 .undef) (vs.getD 1 .undef) (vs.getD 2 .undef) (vs.getD 3 .undef) (vs.getD 4 .undef) (vs.getD 5 .undef) σ) (by kernel_rfl) (by kernel_rfl) _ _
theorem u_Z1n_0 (n0 : Nat) (n1 : Nat) (z0 z5 z7 z30 z31 z32 : V) (σ : Objs) : l_Z1n_0 (Mi cx) n0 n1 [z0, z5, z7, z30, z31, z32] σ = b_Z1n_0 (Mi cx) n0 n1 (l_Z1n_0 (Mi cx) n0 n1) z0 z5 z7 z30 z31 z32 σ :=
  Qa1 cx (seek (Mi cx) 107 [] [true, true, true, true, true, true, false, true] c_Z1n.body (topK c_Z1n n0)) n1 (B := fun rec vs σ => b_Z1n_0 (Mi cx) n0 n1 rec (vs.getD 0 .undef) (vs.getD 1 .undef) (vs.getD 2 .undef) (vs.getD 3 .undef) (vs.getD 4 .undef) (vs.getD 5 .undef) σ) (by kernel_rfl) (by kernel_rfl) _ _
theorem e_Z1o (a0 a1 a2 : V) (σ : Objs) : E cx 7 [a0, a1, a2] σ = s_Z1o (Mi cx) a0 a1 a2 σ := (E_fn (F := c_Z1o) (by kernel_rfl) (by kernel_rfl) _ _).trans (k_Z1o ..)
theorem u_Z1o_0 (n0 : Nat) (n1 : Nat) (z2 z16 z17 z18 : V) (σ : Objs) : l_Z1o_0 (Mi cx) n0 n1 [z2, z16, z17, z18] σ = b_Z1o_0 (Mi cx) n0 n1 (l_Z1o_0 (Mi cx) n0 n1) z2 z16 z17 z18 σ :=
  Qa1 cx (seek (Mi cx) 26 [] [true, true, false, true] c_Z1o.body (topK c_Z1o n0)) n1 (B := fun rec vs σ => b_Z1o_0 (Mi cx) n0 n1 rec (vs.getD 0 .undef) (vs.getD 1 .undef) (vs.getD 2 .undef) (vs.getD 3 .undef) σ) (by kernel_rfl) (by kernel_rfl) _ _
theorem e_Z10 (a0 a1 : V) (σ : Objs) : E cx 8 [a0, a1] σ = s_Z10 (Mi cx) a0 a1 σ := (E_fn (F := c_Z10) (by kernel_rfl) (by kernel_rfl) _ _).trans (k_Z10 ..)
theorem u_Z10_0 (n0 : Nat) (n1 : Nat) (z3 z4 z7 z20 z21 z22 : V) (σ : Objs) : l_Z10_0 (Mi cx) n0 n1 [z3, z4, z7, z20, z21, z22] σ = b_Z10_0 (Mi cx) n0 n1 (l_Z10_0 (Mi cx) n0 n1) z3 z4 z7 z20 z21 z22 σ :=
  Qa1 cx (seek (Mi cx) 55 [] [true, true, true, false, true] c_Z10.body (topK c_Z10 n0)) n1 (B := fun rec vs σ => b_Z10_0 (Mi cx) n0 n1 rec (vs.getD 0 .undef) (vs.getD 1 .undef) (vs.getD 2 .undef) (vs.getD 3 .undef) (vs.getD 4 .undef) (vs.getD 5 .undef) σ) (by kernel_rfl) (by kernel_rfl) _ _
theorem e_Z1p (a0 a1 a2 : V) (σ : Objs) : E cx 9 [a0, a1, a2] σ = s_Z1p (Mi cx) a0 a1 a2 σ := (E_fn (F := c_Z1p) (by kernel_rfl) (by kernel_rfl) _ _).trans (k_Z1p ..)
theorem u_Z1p_1 (n0 : Nat) (n1 : Nat) (r1 : Rk) (n2 : Nat) (z2 z4 z8 z9 z12 z13 z14 z69 z70 z71 : V) (σ : Objs) : l_Z1p_1 (Mi cx) n0 n1 r1 n2 [z2, z4, z8, z9, z12, z13, z14, z69, z70, z71] σ = b_Z1p_1 (Mi cx) n0 n1 r1 n2 (l_Z1p_1 (Mi cx) n0 n1 r1 n2) z2 z4 z8 z9 z12 z13 z14 z69 z70 z71 σ :=
  Qa1 cx (seek (Mi cx) 101 [(n1, r1)] [true, false, true, true, true, false, true, true, false, true, true, true, true, true, true, true, true, false, true, true] c_Z1p.body (topK c_Z1p n0)) n2 (B := fun rec vs σ => b_Z1p_1 (Mi cx) n0 n1 r1 n2 rec (vs.getD 0 .undef) (vs.getD 1 .undef) (vs.getD 2 .undef) (vs.getD 3 .undef) (vs.getD 4 .undef) (vs.getD 5 .undef) (vs.getD 6 .undef) (vs.getD 7 .undef) (vs.getD 8 .undef) (vs.getD 9 .undef) σ) (by kernel_rfl) (by kernel_rfl) _ _
theorem u_Z1p_0 (n0 : Nat) (n1 : Nat) (z2 z4 z12 z13 z14 : V) (σ : Objs) : l_Z1p_0 (Mi cx) n0 n1 [z2, z4, z12, z13, z14] σ = b_Z1p_0 (Mi cx) n0 n1 (l_Z1p_0 (Mi cx) n0 n1) z2 z4 z12 z13 z14 σ :=
  Qa1 cx (seek (Mi cx) 101 [] [true, false, true] c_Z1p.body (topK c_Z1p n0)) n1 (B := fun rec vs σ => b_Z1p_0 (Mi cx) n0 n1 rec (vs.getD 0 .undef) (vs.getD 1 .undef) (vs.getD 2 .undef) (vs.getD 3 .undef) (vs.getD 4 .undef) σ) (by kernel_rfl) (by kernel_rfl) _ _
theorem e_Z2y (a0 : V) (σ : Objs) : E cx 10 [a0] σ = s_Z2y (Mi cx) a0 σ := (E_fn (F := c_Z2y) (by kernel_rfl) (by kernel_rfl) _ _).trans (k_Z2y ..)
theorem u_Z2y_0 (n0 : Nat) (n1 : Nat) (z0 z3 : V) (σ : Objs) : l_Z2y_0 (Mi cx) n0 n1 [z0, z3] σ = b_Z2y_0 (Mi cx) n0 n1 (l_Z2y_0 (Mi cx) n0 n1) z0 z3 σ :=
  Qa1 cx (seek (Mi cx) 54 [] [true, false, true] c_Z2y.body (topK c_Z2y n0)) n1 (B := fun rec vs σ => b_Z2y_0 (Mi cx) n0 n1 rec (vs.getD 0 .undef) (vs.getD 1 .undef) σ) (by kernel_rfl) (by kernel_rfl) _ _
theorem e_Z1m (a0 : V) (σ : Objs) : E cx 27 [a0] σ = s_Z1m (Mi cx) a0 σ := (E_fn (F := c_Z1m) (by kernel_rfl) (by kernel_rfl) _ _).trans (k_Z1m ..)
theorem u_Z1m_0 (n0 : Nat) (n1 : Nat) (z27 z28 z29 : V) (σ : Objs) : l_Z1m_0 (Mi cx) n0 n1 [z27, z28, z29] σ = b_Z1m_0 (Mi cx) n0 n1 (l_Z1m_0 (Mi cx) n0 n1) z27 z28 z29 σ :=
  Qa1 cx (seek (Mi cx) 37 [] [true, true, false, true] c_Z1m.body (topK c_Z1m n0)) n1 (B := fun rec vs σ => b_Z1m_0 (Mi cx) n0 n1 rec (vs.getD 0 .undef) (vs.getD 1 .undef) (vs.getD 2 .undef) σ) (by kernel_rfl) (by kernel_rfl) _ _
theorem e_Z2o (a0 a1 : V) (σ : Objs) : E cx 28 [a0, a1] σ = s_Z2o (Mi cx) a0 a1 σ := (E_fn (F := c_Z2o) (by kernel_rfl) (by kernel_rfl) _ _).trans (k_Z2o ..)
theorem e_Z14 (a0 : V) (σ : Objs) : E cx 29 [a0] σ = s_Z14 (Mi cx) a0 σ := (E_fn (F := c_Z14) (by kernel_rfl) (by kernel_rfl) _ _).trans (k_Z14 ..)
theorem u_Z14_0 (n0 : Nat) (n1 : Nat) (z1 z3 z19 z20 z21 : V) (σ : Objs) : l_Z14_0 (Mi cx) n0 n1 [z1, z3, z19, z20, z21] σ = b_Z14_0 (Mi cx) n0 n1 (l_Z14_0 (Mi cx) n0 n1) z1 z3 z19 z20 z21 σ :=
  Qa1 cx (seek (Mi cx) 52 [] [true, true, false, true] c_Z14.body (topK c_Z14 n0)) n1 (B := fun rec vs σ => b_Z14_0 (Mi cx) n0 n1 rec (vs.getD 0 .undef) (vs.getD 1 .undef) (vs.getD 2 .undef) (vs.getD 3 .undef) (vs.getD 4 .undef) σ) (by kernel_rfl) (by kernel_rfl) _ _
theorem e_Z13 (a0 a1 : V) (σ : Objs) : E cx 30 [a0, a1] σ = s_Z13 (Mi cx) a0 a1 σ := (E_fn (F := c_Z13) (by kernel_rfl) (by kernel_rfl) _ _).trans (k_Z13 ..)
theorem e_Zx (a0 a1 a2 : V) (σ : Objs) : E cx 31 [a0, a1, a2] σ = s_Zx (Mi cx) a0 a1 a2 σ := (E_fn (F := c_Zx) (by kernel_rfl) (by kernel_rfl) _ _).trans (k_Zx ..)
theorem e_Z6 (a0 a1 : V) (σ : Objs) : E cx 32 [a0, a1] σ = s_Z6 (Mi cx) a0 a1 σ := (E_fn (F := c_Z6) (by kernel_rfl) (by kernel_rfl) _ _).trans (k_Z6 ..)
theorem u_Z6_0 (n0 : Nat) (n1 : Nat) (z0 z4 z7 z8 z9 : V) (σ : Objs) : l_Z6_0 (Mi cx) n0 n1 [z0, z4, z7, z8, z9] σ = b_Z6_0 (Mi cx) n0 n1 (l_Z6_0 (Mi cx) n0 n1) z0 z4 z7 z8 z9 σ :=
  Qa1 cx (seek (Mi cx) 21 [] [true, false, true] c_Z6.body (topK c_Z6 n0)) n1 (B := fun rec vs σ => b_Z6_0 (Mi cx) n0 n1 rec (vs.getD 0 .undef) (vs.getD 1 .undef) (vs.getD 2 .undef) (vs.getD 3 .undef) (vs.getD 4 .undef) σ) (by kernel_rfl) (by kernel_rfl) _ _
theorem e_Z2z (a0 : V) (σ : Objs) : E cx 33 [a0] σ = s_Z2z (Mi cx) a0 σ := (E_fn (F := c_Z2z) (by kernel_rfl) (by kernel_rfl) _ _).trans (k_Z2z ..)
theorem e_Z2r (a0 : V) (σ : Objs) : E cx 34 [a0] σ = s_Z2r (Mi cx) a0 σ := (E_fn (F := c_Z2r) (by kernel_rfl) (by kernel_rfl) _ _).trans (k_Z2r ..)
theorem e_Z2p (a0 a1 : V) (σ : Objs) : E cx 39 [a0, a1] σ = s_Z2p (Mi cx) a0 a1 σ := (E_fn (F := c_Z2p) (by kernel_rfl) (by kernel_rfl) _ _).trans (k_Z2p ..)
theorem u_Z2p_0 (n0 : Nat) (n1 : Nat) (z0 z1 z5 : V) (σ : Objs) : l_Z2p_0 (Mi cx) n0 n1 [z0, z1, z5] σ = b_Z2p_0 (Mi cx) n0 n1 (l_Z2p_0 (Mi cx) n0 n1) z0 z1 z5 σ :=
  Qa1 cx (seek (Mi cx) 18 [] [true, false, true] c_Z2p.body (topK c_Z2p n0)) n1 (B := fun rec vs σ => b_Z2p_0 (Mi cx) n0 n1 rec (vs.getD 0 .undef) (vs.getD 1 .undef) (vs.getD 2 .undef) σ) (by kernel_rfl) (by kernel_rfl) _ _
theorem e_Z1h (a0 a1 : V) (σ : Objs) : E cx 46 [a0, a1] σ = s_Z1h (Mi cx) a0 a1 σ := (E_fn (F := c_Z1h) (by kernel_rfl) (by kernel_rfl) _ _).trans (k_Z1h ..)
theorem e_Z2s (a0 a1 a2 : V) (σ : Objs) : E cx 49 [a0, a1, a2] σ = s_Z2s (Mi cx) a0 a1 a2 σ := (E_fn (F := c_Z2s) (by kernel_rfl) (by kernel_rfl) _ _).trans (k_Z2s ..)
theorem u_Z2s_2 (n0 : Nat) (n1 : Nat) (r1 : Rk) (n2 : Nat) (r2 : Rk) (n3 : Nat) (z0 z1 z2 z7 z8 z9 z10 z11 : V) (σ : Objs) : l_Z2s_2 (Mi cx) n0 n1 r1 n2 r2 n3 [z0, z1, z2, z7, z8, z9, z10, z11] σ = b_Z2s_2 (Mi cx) n0 n1 r1 n2 r2 n3 (l_Z2s_2 (Mi cx) n0 n1 r1 n2 r2 n3) z0 z1 z2 z7 z8 z9 z10 z11 σ :=
  Qa1 cx (seek (Mi cx) 114 [(n1, r1), (n2, r2)] [true, true, false, true, true, false, true, true, true, false, true, true] c_Z2s.body (topK c_Z2s n0)) n3 (B := fun rec vs σ => b_Z2s_2 (Mi cx) n0 n1 r1 n2 r2 n3 rec (vs.getD 0 .undef) (vs.getD 1 .undef) (vs.getD 2 .undef) (vs.getD 3 .undef) (vs.getD 4 .undef) (vs.getD 5 .undef) (vs.getD 6 .undef) (vs.getD 7 .undef) σ) (by kernel_rfl) (by kernel_rfl) _ _
theorem u_Z2s_1 (n0 : Nat) (n1 : Nat) (r1 : Rk) (n2 : Nat) (z0 z1 z2 z7 z8 z9 : V) (σ : Objs) : l_Z2s_1 (Mi cx) n0 n1 r1 n2 [z0, z1, z2, z7, z8, z9] σ = b_Z2s_1 (Mi cx) n0 n1 r1 n2 (l_Z2s_1 (Mi cx) n0 n1 r1 n2) z0 z1 z2 z7 z8 z9 σ :=
  Qa1 cx (seek (Mi cx) 114 [(n1, r1)] [true, true, false, true, true, false, true, true] c_Z2s.body (topK c_Z2s n0)) n2 (B := fun rec vs σ => b_Z2s_1 (Mi cx) n0 n1 r1 n2 rec (vs.getD 0 .undef) (vs.getD 1 .undef) (vs.getD 2 .undef) (vs.getD 3 .undef) (vs.getD 4 .undef) (vs.getD 5 .undef) σ) (by kernel_rfl) (by kernel_rfl) _ _
theorem u_Z2s_0 (n0 : Nat) (n1 : Nat) (z0 z1 z2 z7 z8 : V) (σ : Objs) : l_Z2s_0 (Mi cx) n0 n1 [z0, z1, z2, z7, z8] σ = b_Z2s_0 (Mi cx) n0 n1 (l_Z2s_0 (Mi cx) n0 n1) z0 z1 z2 z7 z8 σ :=
  Qa1 cx (seek (Mi cx) 114 [] [true, true, false, true] c_Z2s.body (topK c_Z2s n0)) n1 (B := fun rec vs σ => b_Z2s_0 (Mi cx) n0 n1 rec (vs.getD 0 .undef) (vs.getD 1 .undef) (vs.getD 2 .undef) (vs.getD 3 .undef) (vs.getD 4 .undef) σ) (by kernel_rfl) (by kernel_rfl) _ _
theorem e_Z1g (a0 : V) (σ : Objs) : E cx 50 [a0] σ = s_Z1g (Mi cx) a0 σ := (E_fn (F := c_Z1g) (by kernel_rfl) (by kernel_rfl) _ _).trans (k_Z1g ..)
theorem e_Z1b (a0 : V) (σ : Objs) : E cx 51 [a0] σ = s_Z1b (Mi cx) a0 σ := (E_fn (F := c_Z1b) (by kernel_rfl) (by kernel_rfl) _ _).trans (k_Z1b ..)
theorem e_Zw (a0 a1 : V) (σ : Objs) : E cx 52 [a0, a1] σ = s_Zw (Mi cx) a0 a1 σ := (E_fn (F := c_Zw) (by kernel_rfl) (by kernel_rfl) _ _).trans (k_Zw ..)
theorem e_Zp (a0 a1 a2 : V) (σ : Objs) : E cx 54 [a0, a1, a2] σ = s_Zp (Mi cx) a0 a1 a2 σ := (E_fn (F := c_Zp) (by kernel_rfl) (by kernel_rfl) _ _).trans (k_Zp ..)
theorem u_Zp_1 (n0 : Nat) (n1 : Nat) (r1 : Rk) (n2 : Nat) (z1 z2 z3 z8 z12 z13 z14 z23 z24 z25 : V) (σ : Objs) : l_Zp_1 (Mi cx) n0 n1 r1 n2 [z1, z2, z3, z8, z12, z13, z14, z23, z24, z25] σ = b_Zp_1 (Mi cx) n0 n1 r1 n2 (l_Zp_1 (Mi cx) n0 n1 r1 n2) z1 z2 z3 z8 z12 z13 z14 z23 z24 z25 σ :=
  Qa1 cx (seek (Mi cx) 67 [(n1, r1)] [true, false, true, true, true, false, true, true, true] c_Zp.body (topK c_Zp n0)) n2 (B := fun rec vs σ => b_Zp_1 (Mi cx) n0 n1 r1 n2 rec (vs.getD 0 .undef) (vs.getD 1 .undef) (vs.getD 2 .undef) (vs.getD 3 .undef) (vs.getD 4 .undef) (vs.getD 5 .undef) (vs.getD 6 .undef) (vs.getD 7 .undef) (vs.getD 8 .undef) (vs.getD 9 .undef) σ) (by kernel_rfl) (by kernel_rfl) _ _
theorem u_Zp_0 (n0 : Nat) (n1 : Nat) (z1 z2 z3 z12 z13 z14 : V) (σ : Objs) : l_Zp_0 (Mi cx) n0 n1 [z1, z2, z3, z12, z13, z14] σ = b_Zp_0 (Mi cx) n0 n1 (l_Zp_0 (Mi cx) n0 n1) z1 z2 z3 z12 z13 z14 σ :=
  Qa1 cx (seek (Mi cx) 67 [] [true, false, true] c_Zp.body (topK c_Zp n0)) n1 (B := fun rec vs σ => b_Zp_0 (Mi cx) n0 n1 rec (vs.getD 0 .undef) (vs.getD 1 .undef) (vs.getD 2 .undef) (vs.getD 3 .undef) (vs.getD 4 .undef) (vs.getD 5 .undef) σ) (by kernel_rfl) (by kernel_rfl) _ _
theorem e_Z5 (a0 a1 : V) (σ : Objs) : E cx 55 [a0, a1] σ = s_Z5 (Mi cx) a0 a1 σ := (E_fn (F := c_Z5) (by kernel_rfl) (by kernel_rfl) _ _).trans (k_Z5 ..)
theorem u_Z5_1 (n0 : Nat) (n1 : Nat) (r1 : Rk) (n2 : Nat) (z0 z5 z8 z15 z16 z17 z25 z26 z27 : V) (σ : Objs) : l_Z5_1 (Mi cx) n0 n1 r1 n2 [z0, z5, z8, z15, z16, z17, z25, z26, z27] σ = b_Z5_1 (Mi cx) n0 n1 r1 n2 (l_Z5_1 (Mi cx) n0 n1 r1 n2) z0 z5 z8 z15 z16 z17 z25 z26 z27 σ :=
  Qa1 cx (seek (Mi cx) 84 [(n1, r1)] [true, true, false, true, true, true, false, true, true, false, true] c_Z5.body (topK c_Z5 n0)) n2 (B := fun rec vs σ => b_Z5_1 (Mi cx) n0 n1 r1 n2 rec (vs.getD 0 .undef) (vs.getD 1 .undef) (vs.getD 2 .undef) (vs.getD 3 .undef) (vs.getD 4 .undef) (vs.getD 5 .undef) (vs.getD 6 .undef) (vs.getD 7 .undef) (vs.getD 8 .undef) σ) (by kernel_rfl) (by kernel_rfl) _ _
theorem u_Z5_0 (n0 : Nat) (n1 : Nat) (z0 z5 z15 z16 z17 : V) (σ : Objs) : l_Z5_0 (Mi cx) n0 n1 [z0, z5, z15, z16, z17] σ = b_Z5_0 (Mi cx) n0 n1 (l_Z5_0 (Mi cx) n0 n1) z0 z5 z15 z16 z17 σ :=
  Qa1 cx (seek (Mi cx) 84 [] [true, true, false, true] c_Z5.body (topK c_Z5 n0)) n1 (B := fun rec vs σ => b_Z5_0 (Mi cx) n0 n1 rec (vs.getD 0 .undef) (vs.getD 1 .undef) (vs.getD 2 .undef) (vs.getD 3 .undef) (vs.getD 4 .undef) σ) (by kernel_rfl) (by kernel_rfl) _ _
theorem e_Z1u (a0 : V) (σ : Objs) : E cx 56 [a0] σ = s_Z1u (Mi cx) a0 σ := (E_fn (F := c_Z1u) (by kernel_rfl) (by kernel_rfl) _ _).trans (k_Z1u ..)
theorem u_Z1u_0 (n0 : Nat) (n1 : Nat) (z0 z3 : V) (σ : Objs) : l_Z1u_0 (Mi cx) n0 n1 [z0, z3] σ = b_Z1u_0 (Mi cx) n0 n1 (l_Z1u_0 (Mi cx) n0 n1) z0 z3 σ :=
  Qa1 cx (seek (Mi cx) 38 [] [true, true, false] c_Z1u.body (topK c_Z1u n0)) n1 (B := fun rec vs σ => b_Z1u_0 (Mi cx) n0 n1 rec (vs.getD 0 .undef) (vs.getD 1 .undef) σ) (by kernel_rfl) (by kernel_rfl) _ _
theorem e_Z1j (a0 a1 : V) (σ : Objs) : E cx 67 [a0, a1] σ = s_Z1j (Mi cx) a0 a1 σ := (E_fn (F := c_Z1j) (by kernel_rfl) (by kernel_rfl) _ _).trans (k_Z1j ..)
theorem u_Z1j_0 (n0 : Nat) (n1 : Nat) (z0 z1 z7 z8 : V) (σ : Objs) : l_Z1j_0 (Mi cx) n0 n1 [z0, z1, z7, z8] σ = b_Z1j_0 (Mi cx) n0 n1 (l_Z1j_0 (Mi cx) n0 n1) z0 z1 z7 z8 σ :=
  Qa1 cx (seek (Mi cx) 19 [] [true, false, true] c_Z1j.body (topK c_Z1j n0)) n1 (B := fun rec vs σ => b_Z1j_0 (Mi cx) n0 n1 rec (vs.getD 0 .undef) (vs.getD 1 .undef) (vs.getD 2 .undef) (vs.getD 3 .undef) σ) (by kernel_rfl) (by kernel_rfl) _ _
theorem e_Zy (a0 : V) (σ : Objs) : E cx 72 [a0] σ = s_Zy (Mi cx) a0 σ := (E_fn (F := c_Zy) (by kernel_rfl) (by kernel_rfl) _ _).trans (k_Zy ..)
theorem u_Zy_0 (n0 : Nat) (n1 : Nat) (z0 z5 z6 z7 : V) (σ : Objs) : l_Zy_0 (Mi cx) n0 n1 [z0, z5, z6, z7] σ = b_Zy_0 (Mi cx) n0 n1 (l_Zy_0 (Mi cx) n0 n1) z0 z5 z6 z7 σ :=
  Qa1 cx (seek (Mi cx) 16 [] [true, false, true] c_Zy.body (topK c_Zy n0)) n1 (B := fun rec vs σ => b_Zy_0 (Mi cx) n0 n1 rec (vs.getD 0 .undef) (vs.getD 1 .undef) (vs.getD 2 .undef) (vs.getD 3 .undef) σ) (by kernel_rfl) (by kernel_rfl) _ _
theorem e_Zo (a0 a1 a2 : V) (σ : Objs) : E cx 74 [a0, a1, a2] σ = s_Zo (Mi cx) a0 a1 a2 σ := (E_fn (F := c_Zo) (by kernel_rfl) (by kernel_rfl) _ _).trans (k_Zo ..)
theorem u_Zo_0 (n0 : Nat) (n1 : Nat) (z2 z3 z4 z10 z11 z12 : V) (σ : Objs) : l_Zo_0 (Mi cx) n0 n1 [z2, z3, z4, z10, z11, z12] σ = b_Zo_0 (Mi cx) n0 n1 (l_Zo_0 (Mi cx) n0 n1) z2 z3 z4 z10 z11 z12 σ :=
  Qa1 cx (seek (Mi cx) 56 [] [true, false, true] c_Zo.body (topK c_Zo n0)) n1 (B := fun rec vs σ => b_Zo_0 (Mi cx) n0 n1 rec (vs.getD 0 .undef) (vs.getD 1 .undef) (vs.getD 2 .undef) (vs.getD 3 .undef) (vs.getD 4 .undef) (vs.getD 5 .undef) σ) (by kernel_rfl) (by kernel_rfl) _ _
theorem e_Z16 (a0 : V) (σ : Objs) : E cx 75 [a0] σ = s_Z16 (Mi cx) a0 σ := (E_fn (F := c_Z16) (by kernel_rfl) (by kernel_rfl) _ _).trans (k_Z16 ..)
theorem e_Z9 (a0 a1 : V) (σ : Objs) : E cx 76 [a0, a1] σ = s_Z9 (Mi cx) a0 a1 σ := (E_fn (F := c_Z9) (by kernel_rfl) (by kernel_rfl) _ _).trans (k_Z9 ..)
theorem e_Z1t (a0 a1 : V) (σ : Objs) : E cx 77 [a0, a1] σ = s_Z1t (Mi cx) a0 a1 σ := (E_fn (F := c_Z1t) (by kernel_rfl) (by kernel_rfl) _ _).trans (k_Z1t ..)
theorem u_Z1t_1 (n0 : Nat) (n1 : Nat) (z0 z1 z7 : V) (σ : Objs) : l_Z1t_1 (Mi cx) n0 n1 [z0, z1, z7] σ = b_Z1t_1 (Mi cx) n0 n1 (l_Z1t_1 (Mi cx) n0 n1) z0 z1 z7 σ :=
  Qa1 cx (seek (Mi cx) 55 [] [true, true, false, true] c_Z1t.body (topK c_Z1t n0)) n1 (B := fun rec vs σ => b_Z1t_1 (Mi cx) n0 n1 rec (vs.getD 0 .undef) (vs.getD 1 .undef) (vs.getD 2 .undef) σ) (by kernel_rfl) (by kernel_rfl) _ _
theorem u_Z1t_0 (n0 : Nat) (n1 : Nat) (z0 z1 z6 : V) (σ : Objs) : l_Z1t_0 (Mi cx) n0 n1 [z0, z1, z6] σ = b_Z1t_0 (Mi cx) n0 n1 (l_Z1t_0 (Mi cx) n0 n1) z0 z1 z6 σ :=
  Qa1 cx (seek (Mi cx) 55 [] [true, false, true] c_Z1t.body (topK c_Z1t n0)) n1 (B := fun rec vs σ => b_Z1t_0 (Mi cx) n0 n1 rec (vs.getD 0 .undef) (vs.getD 1 .undef) (vs.getD 2 .undef) σ) (by kernel_rfl) (by kernel_rfl) _ _
theorem e_Z22 (a0 : V) (σ : Objs) : E cx 78 [a0] σ = s_Z22 (Mi cx) a0 σ := (E_fn (F := c_Z22) (by kernel_rfl) (by kernel_rfl) _ _).trans (k_Z22 ..)
theorem e_Z1x (a0 : V) (σ : Objs) : E cx 95 [a0] σ = s_Z1x (Mi cx) a0 σ := (E_fn (F := c_Z1x) (by kernel_rfl) (by kernel_rfl) _ _).trans (k_Z1x ..)
theorem e_Z1k (a0 : V) (σ : Objs) : E cx 96 [a0] σ = s_Z1k (Mi cx) a0 σ := (E_fn (F := c_Z1k) (by kernel_rfl) (by kernel_rfl) _ _).trans (k_Z1k ..)
theorem u_Z1k_1 (n0 : Nat) (n1 : Nat) (r1 : Rk) (n2 : Nat) (z0 : V) (σ : Objs) : l_Z1k_1 (Mi cx) n0 n1 r1 n2 [z0] σ = b_Z1k_1 (Mi cx) n0 n1 r1 n2 (l_Z1k_1 (Mi cx) n0 n1 r1 n2) z0 σ :=
  Qa1 cx (seek (Mi cx) 188 [(n1, r1)] [true, true, false, true, true, false, true, false, true, false, true, false, true, true, false, true] c_Z1k.body (topK c_Z1k n0)) n2 (B := fun rec vs σ => b_Z1k_1 (Mi cx) n0 n1 r1 n2 rec (vs.getD 0 .undef) σ) (by kernel_rfl) (by kernel_rfl) _ _
theorem u_Z1k_0 (n0 : Nat) (n1 : Nat) (z0 : V) (σ : Objs) : l_Z1k_0 (Mi cx) n0 n1 [z0] σ = b_Z1k_0 (Mi cx) n0 n1 (l_Z1k_0 (Mi cx) n0 n1) z0 σ :=
  Qa1 cx (seek (Mi cx) 188 [] [true, true, false] c_Z1k.body (topK c_Z1k n0)) n1 (B := fun rec vs σ => b_Z1k_0 (Mi cx) n0 n1 rec (vs.getD 0 .undef) σ) (by kernel_rfl) (by kernel_rfl) _ _
theorem e_Zq (a0 a1 : V) (σ : Objs) : E cx 98 [a0, a1] σ = s_Zq (Mi cx) a0 a1 σ := (E_fn (F := c_Zq) (by kernel_rfl) (by kernel_rfl) _ _).trans (k_Zq ..)
theorem e_Z3 (a0 a1 : V) (σ : Objs) : E cx 99 [a0, a1] σ = s_Z3 (Mi cx) a0 a1 σ := (E_fn (F := c_Z3) (by kernel_rfl) (by kernel_rfl) _ _).trans (k_Z3 ..)
theorem e_Z1 (a0 a1 a2 a3 : V) (σ : Objs) : E cx 100 [a0, a1, a2, a3] σ = s_Z1 (Mi cx) a0 a1 a2 a3 σ := (E_fn (F := c_Z1) (by kernel_rfl) (by kernel_rfl) _ _).trans (k_Z1 ..)
theorem e_Z8 (a0 a1 a2 : V) (σ : Objs) : E cx 102 [a0, a1, a2] σ = s_Z8 (Mi cx) a0 a1 a2 σ := (E_fn (F := c_Z8) (by kernel_rfl) (by kernel_rfl) _ _).trans (k_Z8 ..)
theorem e_Z0 (a0 a1 : V) (σ : Objs) : E cx 101 [a0, a1] σ = s_Z0 (Mi cx) a0 a1 σ := (E_fn (F := c_Z0) (by kernel_rfl) (by kernel_rfl) _ _).trans (k_Z0 ..)
theorem e_Z7 (a0 a1 : V) (σ : Objs) : E cx 103 [a0, a1] σ = s_Z7 (Mi cx) a0 a1 σ := (E_fn (F := c_Z7) (by kernel_rfl) (by kernel_rfl) _ _).trans (k_Z7 ..)
theorem u_Z7_0 (n0 : Nat) (n1 : Nat) (z4 z5 z10 z11 z12 : V) (σ : Objs) : l_Z7_0 (Mi cx) n0 n1 [z4, z5, z10, z11, z12] σ = b_Z7_0 (Mi cx) n0 n1 (l_Z7_0 (Mi cx) n0 n1) z4 z5 z10 z11 z12 σ :=
  Qa1 cx (seek (Mi cx) 24 [] [true, true, false, true] c_Z7.body (topK c_Z7 n0)) n1 (B := fun rec vs σ => b_Z7_0 (Mi cx) n0 n1 rec (vs.getD 0 .undef) (vs.getD 1 .undef) (vs.getD 2 .undef) (vs.getD 3 .undef) (vs.getD 4 .undef) σ) (by kernel_rfl) (by kernel_rfl) _ _
theorem e_Z12 (a0 : V) (σ : Objs) : E cx 104 [a0] σ = s_Z12 (Mi cx) a0 σ := (E_fn (F := c_Z12) (by kernel_rfl) (by kernel_rfl) _ _).trans (k_Z12 ..)
theorem e_Z2 (a0 a1 : V) (σ : Objs) : E cx 105 [a0, a1] σ = s_Z2 (Mi cx) a0 a1 σ := (E_fn (F := c_Z2) (by kernel_rfl) (by kernel_rfl) _ _).trans (k_Z2 ..)
theorem e_Z4 (a0 : V) (σ : Objs) : E cx 106 [a0] σ = s_Z4 (Mi cx) a0 σ := (E_fn (F := c_Z4) (by kernel_rfl) (by kernel_rfl) _ _).trans (k_Z4 ..)
theorem e_Z21 (a0 : V) (σ : Objs) : E cx 107 [a0] σ = s_Z21 (Mi cx) a0 σ := (E_fn (F := c_Z21) (by kernel_rfl) (by kernel_rfl) _ _).trans (k_Z21 ..)
theorem u_Z21_0 (n0 : Nat) (n1 : Nat) (z0 z4 z5 : V) (σ : Objs) : l_Z21_0 (Mi cx) n0 n1 [z0, z4, z5] σ = b_Z21_0 (Mi cx) n0 n1 (l_Z21_0 (Mi cx) n0 n1) z0 z4 z5 σ :=
  Qa1 cx (seek (Mi cx) 33 [] [true, true, true, false, true] c_Z21.body (topK c_Z21 n0)) n1 (B := fun rec vs σ => b_Z21_0 (Mi cx) n0 n1 rec (vs.getD 0 .undef) (vs.getD 1 .undef) (vs.getD 2 .undef) σ) (by kernel_rfl) (by kernel_rfl) _ _
theorem e_Z1z (a0 : V) (σ : Objs) : E cx 108 [a0] σ = s_Z1z (Mi cx) a0 σ := (E_fn (F := c_Z1z) (by kernel_rfl) (by kernel_rfl) _ _).trans (k_Z1z ..)
theorem u_Z1z_0 (n0 : Nat) (n1 : Nat) (z0 z3 : V) (σ : Objs) : l_Z1z_0 (Mi cx) n0 n1 [z0, z3] σ = b_Z1z_0 (Mi cx) n0 n1 (l_Z1z_0 (Mi cx) n0 n1) z0 z3 σ :=
  Qa1 cx (seek (Mi cx) 21 [] [true, false, true] c_Z1z.body (topK c_Z1z n0)) n1 (B := fun rec vs σ => b_Z1z_0 (Mi cx) n0 n1 rec (vs.getD 0 .undef) (vs.getD 1 .undef) σ) (by kernel_rfl) (by kernel_rfl) _ _
theorem e_Z1w (a0 : V) (σ : Objs) : E cx 109 [a0] σ = s_Z1w (Mi cx) a0 σ := (E_fn (F := c_Z1w) (by kernel_rfl) (by kernel_rfl) _ _).trans (k_Z1w ..)
theorem e_Z1l (a0 : V) (σ : Objs) : E cx 131 [a0] σ = s_Z1l (Mi cx) a0 σ := (E_fn (F := c_Z1l) (by kernel_rfl) (by kernel_rfl) _ _).trans (k_Z1l ..)
theorem e_Zv (a0 a1 : V) (σ : Objs) : E cx 132 [a0, a1] σ = s_Zv (Mi cx) a0 a1 σ := (E_fn (F := c_Zv) (by kernel_rfl) (by kernel_rfl) _ _).trans (k_Zv ..)
theorem e_Z1e (a0 a1 : V) (σ : Objs) : E cx 133 [a0, a1] σ = s_Z1e (Mi cx) a0 a1 σ := (E_fn (F := c_Z1e) (by kernel_rfl) (by kernel_rfl) _ _).trans (k_Z1e ..)
theorem e_Zq_1 (a0 : V) (σ : Objs) : E cx 134 [a0] σ = s_Zq_1 (Mi cx) a0 σ := (E_fn (F := c_Zq_1) (by kernel_rfl) (by kernel_rfl) _ _).trans (k_Zq_1 ..)
theorem e_Z1f (a0 : V) (σ : Objs) : E cx 135 [a0] σ = s_Z1f (Mi cx) a0 σ := (E_fn (F := c_Z1f) (by kernel_rfl) (by kernel_rfl) _ _).trans (k_Z1f ..)
theorem e_Z1c (a0 : V) (σ : Objs) : E cx 136 [a0] σ = s_Z1c (Mi cx) a0 σ := (E_fn (F := c_Z1c) (by kernel_rfl) (by kernel_rfl) _ _).trans (k_Z1c ..)
theorem e_Z18 (a0 : V) (σ : Objs) : E cx 137 [a0] σ = s_Z18 (Mi cx) a0 σ := (E_fn (F := c_Z18) (by kernel_rfl) (by kernel_rfl) _ _).trans (k_Z18 ..)
theorem e_Z15 (a0 : V) (σ : Objs) : E cx 138 [a0] σ = s_Z15 (Mi cx) a0 σ := (E_fn (F := c_Z15) (by kernel_rfl) (by kernel_rfl) _ _).trans (k_Z15 ..)
theorem e_Z19 (a0 : V) (σ : Objs) : E cx 139 [a0] σ = s_Z19 (Mi cx) a0 σ := (E_fn (F := c_Z19) (by kernel_rfl) (by kernel_rfl) _ _).trans (k_Z19 ..)
theorem e_Zq_2 (a0 : V) (σ : Objs) : E cx 140 [a0] σ = s_Zq_2 (Mi cx) a0 σ := (E_fn (F := c_Zq_2) (by kernel_rfl) (by kernel_rfl) _ _).trans (k_Zq_2 ..)
theorem e_Zq_3 (a0 : V) (σ : Objs) : E cx 141 [a0] σ = s_Zq_3 (Mi cx) a0 σ := (E_fn (F := c_Zq_3) (by kernel_rfl) (by kernel_rfl) _ _).trans (k_Zq_3 ..)
theorem e_Z1d (a0 : V) (σ : Objs) : E cx 142 [a0] σ = s_Z1d (Mi cx) a0 σ := (E_fn (F := c_Z1d) (by kernel_rfl) (by kernel_rfl) _ _).trans (k_Z1d ..)
theorem e_Zq_4 (a0 : V) (σ : Objs) : E cx 143 [a0] σ = s_Zq_4 (Mi cx) a0 σ := (E_fn (F := c_Zq_4) (by kernel_rfl) (by kernel_rfl) _ _).trans (k_Zq_4 ..)
theorem e_Z1a (a0 : V) (σ : Objs) : E cx 144 [a0] σ = s_Z1a (Mi cx) a0 σ := (E_fn (F := c_Z1a) (by kernel_rfl) (by kernel_rfl) _ _).trans (k_Z1a ..)
theorem e_Z17 (a0 a1 : V) (σ : Objs) : E cx 146 [a0, a1] σ = s_Z17 (Mi cx) a0 a1 σ := (E_fn (F := c_Z17) (by kernel_rfl) (by kernel_rfl) _ _).trans (k_Z17 ..)
theorem e_Z1i (a0 a1 : V) (σ : Objs) : E cx 145 [a0, a1] σ = s_Z1i (Mi cx) a0 a1 σ := (E_fn (F := c_Z1i) (by kernel_rfl) (by kernel_rfl) _ _).trans (k_Z1i ..)
theorem u_Z1i_0 (n0 : Nat) (n1 : Nat) (z0 z3 z7 z8 : V) (σ : Objs) : l_Z1i_0 (Mi cx) n0 n1 [z0, z3, z7, z8] σ = b_Z1i_0 (Mi cx) n0 n1 (l_Z1i_0 (Mi cx) n0 n1) z0 z3 z7 z8 σ :=
  Qa1 cx (seek (Mi cx) 19 [] [true, false, true] c_Z1i.body (topK c_Z1i n0)) n1 (B := fun rec vs σ => b_Z1i_0 (Mi cx) n0 n1 rec (vs.getD 0 .undef) (vs.getD 1 .undef) (vs.getD 2 .undef) (vs.getD 3 .undef) σ) (by kernel_rfl) (by kernel_rfl) _ _
theorem e_Z11 (a0 : V) (σ : Objs) : E cx 147 [a0] σ = s_Z11 (Mi cx) a0 σ := (E_fn (F := c_Z11) (by kernel_rfl) (by kernel_rfl) _ _).trans (k_Z11 ..)
theorem e_Z20 (a0 a1 a2 : V) (σ : Objs) : E cx 148 [a0, a1, a2] σ = s_Z20 (Mi cx) a0 a1 a2 σ := (E_fn (F := c_Z20) (by kernel_rfl) (by kernel_rfl) _ _).trans (k_Z20 ..)
theorem u_Z20_0 (n0 : Nat) (n1 : Nat) (z1 z2 z7 : V) (σ : Objs) : l_Z20_0 (Mi cx) n0 n1 [z1, z2, z7] σ = b_Z20_0 (Mi cx) n0 n1 (l_Z20_0 (Mi cx) n0 n1) z1 z2 z7 σ :=
  Qa1 cx (seek (Mi cx) 20 [] [true, true, false] c_Z20.body (topK c_Z20 n0)) n1 (B := fun rec vs σ => b_Z20_0 (Mi cx) n0 n1 rec (vs.getD 0 .undef) (vs.getD 1 .undef) (vs.getD 2 .undef) σ) (by kernel_rfl) (by kernel_rfl) _ _
end Go.Proofs.YtapnplljnpconaaGreatDoor
namespace Go.Ev
open Go
section
variable {α : Type} {f : α → V} {sz : Nat} {l m : List α} {c c' : Cap}
theorem Qwr (hf : ∀ x, (f x).cells.length = sz) (d : α) {k : IntKind} {i : Int} (h : 0 ≤ i ∧ i < l.length) : eI sz (.int k i) (.sl (l.map f) c) = some (.eptr (f (l.getD i.toNat d)).cells 0) := by
  have h3 : i.toNat < l.length := by omega
  have h4 : (l.map f).length = l.length := by simp
  have h5 : (l.map f)[i.toNat]? = some (f (l.getD i.toNat d)) := by simp [h3]
  simp only [eI, index, h4, if_pos h, Option.bind_eq_bind, Option.bind_some, h5, hf, if_true]
theorem all_map (hf : ∀ x, (f x).cells.length = sz) : (l.map f).all (fun y => decide (y.cells.length = sz)) = true := by
  rw [List.all_map]
  exact List.all_eq_true.2 fun x _ => by simp [hf]
theorem Qws (hf : ∀ x, (f x).cells.length = sz) {k k' : IntKind} {a b : Int} (h : 0 ≤ a ∧ a ≤ b ∧ b ≤ l.length) : Qba sz (.sl (l.map f) c) (some (.int k a)) (some (.int k' b)) none = some (.sl (((l.drop a.toNat).take (b.toNat - a.toNat)).map f) .no) := by
  have h1 : bound (.int k' b) (l.map f).length = some b.toNat := by simp [bound]; omega
  have h2 : bound (.int k a) b.toNat = some a.toNat := by simp [bound]; omega
  have h3 : bounds (l.map f).length (some (.int k a)) (some (.int k' b)) none = some (a.toNat, b.toNat, none) := by
    simp only [bounds, Option.getD_none, h1, h2, Option.bind_eq_bind, Option.bind_some, Option.pure_def]
  simp only [Qba, h3, Option.bind_eq_bind, Option.bind_some, all_map hf, if_true, reduceCtorEq, if_false, List.map_drop, List.map_take]
theorem Qtc (hf : ∀ x, (f x).cells.length = sz) {k : IntKind} {a : Int} (h : 0 ≤ a ∧ a ≤ l.length) : Qba sz (.sl (l.map f) c) (some (.int k a)) none none = some (.sl ((l.drop a.toNat).map f) .no) := by
  have h2 : bound (.int k a) (l.map f).length = some a.toNat := by simp [bound]; omega
  have h3 : bounds (l.map f).length (some (.int k a)) none none = some (a.toNat, (l.map f).length, none) := by
    simp only [bounds, Option.getD_none, h2, Option.bind_eq_bind, Option.bind_some, Option.pure_def]
  have h4 : ((l.map f).drop a.toNat).take ((l.map f).length - a.toNat) = (l.drop a.toNat).map f := by
    rw [List.take_of_length_le (by simp), List.map_drop]
  simp only [Qba, h3, Option.bind_eq_bind, Option.bind_some, all_map hf, if_true, reduceCtorEq, if_false, h4]
theorem Qtd (hf : ∀ x, (f x).cells.length = sz) {k : IntKind} {b : Int} (h : 0 ≤ b ∧ b ≤ l.length) : Qba sz (.sl (l.map f) c) none (some (.int k b)) none = some (.sl ((l.take b.toNat).map f) .no) := by
  have h2 : bound (.int k b) (l.map f).length = some b.toNat := by simp [bound]; omega
  have h3 : bounds (l.map f).length none (some (.int k b)) none = some (0, b.toNat, none) := by
    simp only [bounds, Option.getD_none, h2, Option.bind_eq_bind, Option.bind_some, Option.pure_def]
  simp only [Qba, h3, Option.bind_eq_bind, Option.bind_some, all_map hf, if_true, reduceCtorEq, if_false, List.drop_zero, Nat.sub_zero, List.map_take]
theorem Qod {ag : Bool} (hf : ∀ x, (f x).cells.length = sz) (ho : ∀ x, Qai (f x).cells = true) (ha : ∀ x, agOk ag (f x) = true) : Qcy ag sz (l.map f) = true := by
  unfold Qcy
  rw [List.all_map]
  exact List.all_eq_true.2 fun x _ => by simp [hf, ho, ha]
theorem Qmt {ag : Bool} {bytes : Nat} {σ : Objs} (hf : ∀ x, (f x).cells.length = sz) (ho : ∀ x, Qai (f x).cells = true) (ha : ∀ x, agOk ag (f x) = true) (hc : c = .fx ∨ c = .gr sz) (hm : m ≠ []) (hl : (l.length + m.length) * bytes ≤ Qbu) :
    appV false ag sz bytes σ (.sl (l.map f) c) (.sl (m.map f) c') = some (.sl ((l ++ m).map f) (.gr sz)) := by
  have h1 := all_map (l := l) hf
  have h2 : ∃ y ys, m.map f = y :: ys := by
    match m, hm with
    | x :: m, _ => exact ⟨_, _, rfl⟩
  obtain ⟨y, ys, h2⟩ := h2
  have h3 : (l.map f).length + (y :: ys).length = l.length + m.length := by rw [← h2]; simp
  have h4 := Qod (l := m) hf ho ha
  rw [h2] at h4
  unfold appV
  simp only [Qeq, Bool.false_eq_true, if_false, Qh0, Option.bind_eq_bind, Option.bind_some]
  rw [h2]
  unfold Qdk
  simp only [h4, if_true]
  rw [if_pos ⟨hc, h1, by rw [h3]; exact hl⟩, List.map_append, h2]
end
def ints (l : List Int) : List V := l.map (V.int .i64)
theorem Qzy {l : List Int} : (ints l).length = l.length := by simp [ints]
theorem Qzz {n : Nat} {l : List Int} : V.rbs n (ints l) = true := Qvl fun _ => rfl
theorem Qte {l : List Int} {c : Cap} {k : IntKind} {i : Int} (h : 0 ≤ i ∧ i < l.length) : eI 1 (.int k i) (.sl (ints l) c) = some (.eptr [.int .i64 (l.getD i.toNat 0)] 0) := Qwr (f := V.int .i64) (fun _ => rfl) 0 h
theorem Qz0 {l : List Int} {c : Cap} {k k' : IntKind} {a b : Int} (h : 0 ≤ a ∧ a ≤ b ∧ b ≤ l.length) : Qba 1 (.sl (ints l) c) (some (.int k a)) (some (.int k' b)) none = some (.sl (ints ((l.drop a.toNat).take (b.toNat - a.toNat))) .no) := Qws (f := V.int .i64) (fun _ => rfl) h
theorem Wd9 {l : List Int} {x : Int} {c c' : Cap} {σ : Objs} (hc : c = .fx ∨ c = .gr 1) (hl : (l.length + 1) * 8 ≤ Qbu) : appV false false 1 8 σ (.sl (ints l) c) (.sl [.int .i64 x] c') = some (.sl (ints (l ++ [x])) (.gr 1)) :=
  Qmt (f := V.int .i64) (m := [x]) (fun _ => rfl) (fun _ => rfl) (fun _ => rfl) hc (by simp) hl
theorem Qkc {l m : List UInt8} {c c' : Cap} {σ : Objs} (hc : c = .fx ∨ c = .gr 1) (hm : m ≠ []) (hl : l.length + m.length ≤ Qbu) : appV false false 1 1 σ (.sl (Qac l) c) (.sl (Qac m) c') = some (.sl (Qac (l ++ m)) (.gr 1)) :=
  Qmt (f := fun b : UInt8 => V.int .u8 b.toNat) (fun _ => rfl) (fun _ => rfl) (fun _ => rfl) hc hm (by simpa using hl)
theorem Qhq {l : List UInt8} {c : Cap} {k k' : IntKind} {a b : Int} (h : 0 ≤ a ∧ a ≤ b ∧ b ≤ l.length) : Qba 1 (.sl (Qac l) c) (some (.int k a)) (some (.int k' b)) none = some (.sl (Qac ((l.drop a.toNat).take (b.toNat - a.toNat))) .no) := Qws (f := fun b : UInt8 => V.int .u8 b.toNat) (fun _ => rfl) h
theorem Qtf {s : List UInt8} : bytesOf (Qac s) = some s := by
  induction s with
  | nil => rfl
  | cons b s ih =>
    show bytesOf (.int .u8 b.toNat :: Qac s) = _
    rw [Qiw, ih]
    simp
attribute [go_sem] Qzy Qzz Qte Qz0 Wd9 Qkc Qhq Qtf
end Go.Ev
namespace Go.Ev
open Go
inductive Sl (α : Type) where
  | nil | row (xs : List α)
def Sl.l {α : Type} : Sl α → List α
  | .nil => []
  | .row xs => xs
def vSl {α : Type} (f : α → V) : Sl α → V
  | .nil => .nils
  | .row xs => .sl (xs.map f) .no
section
variable {α : Type} {f : α → V} {s : Sl α} {sz : Nat}
theorem Qag : Qaq (vSl f s) = some (.int .i64 s.l.length) := by
  cases s with
  | nil => rfl
  | row xs => show some (V.int .i64 ((xs.map f).length : Nat)) = _; rw [List.length_map]; rfl
theorem Qak : (vSl f s).ng = vSl f s := by cases s <;> rfl
theorem Qc2 : V.one (vSl f s) = true := by cases s <;> rfl
theorem Qz1 {keep : Bool} : oK keep (vSl f s) = some (vSl f s) := by cases s <;> cases keep <;> rfl
theorem Qcp : (vSl f s).cells = [vSl f s] := by cases s <;> rfl
theorem Qrr : agOk false (vSl f s) = true := by cases s <;> rfl
theorem Qoe {n : Nat} (h : ∀ x ∈ s.l, V.rb n (f x) = true) : V.rb n (vSl f s) = true := by
  cases s with
  | nil => rfl
  | row xs =>
    show V.rbs n (xs.map f) = true
    have h' : ∀ x ∈ xs, V.rb n (f x) = true := h
    clear h
    induction xs with
    | nil => rfl
    | cons x l ih => rw [List.map_cons, Qaf, h' x (List.mem_cons_self ..), ih fun y hy => h' y (List.mem_cons_of_mem _ hy)]; rfl
theorem Qaz {p r : List α} {x : α} {k : IntKind} {i : Int} (h : s.l = p ++ x :: r) (hi : i = p.length) (hf : (f x).cells.length = sz) : eI sz (.int k i) (vSl f s) = some (.eptr (f x).cells 0) := by
  cases s with
  | nil => cases p <;> cases h
  | row xs =>
    have h' : xs = p ++ x :: r := h
    have h3 : 0 ≤ i ∧ i < (xs.map f).length := by rw [h']; simp; omega
    have h5 : (xs.map f)[i.toNat]? = some (f x) := by rw [h', hi]; simp
    show eI sz (.int k i) (.sl (xs.map f) .no) = _
    simp only [eI, index, if_pos h3, Option.bind_eq_bind, Option.bind_some, h5, hf, if_true]
theorem Qwt {σ : Objs} : Qh0 σ (vSl f s) = some (s.l.map f) := by cases s <;> rfl
def Sl.take (n : Nat) : Sl α → Sl α
  | .nil => .nil
  | .row xs => .row (xs.take n)
theorem Sl.take_l {n : Nat} : (s.take n).l = s.l.take n := by cases s <;> simp [Sl.take, Sl.l]
theorem Qln (hf : ∀ x, (f x).cells.length = sz) {k : IntKind} {b : Int} (h : 0 ≤ b ∧ b ≤ s.l.length) : Qba sz (vSl f s) none (some (.int k b)) none = some (vSl f (s.take b.toNat)) := by
  cases s with
  | nil =>
    have hb : b = 0 := by
      have h2 : b ≤ ((0 : Nat) : Int) := h.2
      omega
    subst hb
    rfl
  | row xs =>
    show Qba sz (.sl (xs.map f) .no) none (some (.int k b)) none = some (.sl ((xs.take b.toNat).map f) .no)
    exact Qtd hf h
end
attribute [go_sem] Qag Qak Qc2 Qz1 Qcp Qrr
end Go.Ev
namespace Go.Ev
open Go
theorem Qaj {α : Type} {f : α → V} {s : Sl α} {n : Nat} (h : ∀ n x, V.rb n (f x) = true) : V.rb n (vSl f s) = true := Qoe fun x _ => h n x
attribute [go_sem] Qaj
structure Sm (α : Type) where
  kind : Int
  ns : Int
  pre : List UInt8
  name : List UInt8
  op : Int
  text : List UInt8
  fold : Bool
  mark : Int
  a : Int
  b : Int
  of : Sl α
structure Cp (α : Type) where
  comb : Int
  list : Sl (Sm α)
structure Co (α : Type) where
  list : Sl (Cp α)
section
variable {α : Type} (v : α → V)
@[reducible] def vSm (s : Sm α) : V := .agg [.int .i64 s.kind, .int .i64 s.ns, .str s.pre, .str s.name, .int .i64 s.op, .str s.text, .bool s.fold, .int .i64 s.mark, .int .i64 s.a, .int .i64 s.b, vSl v s.of]
@[reducible] def vCp (c : Cp α) : V := .agg [.int .i64 c.comb, vSl (vSm v) c.list]
@[reducible] def vCo (c : Co α) : V := .agg [vSl (vCp v) c.list]
variable {v}
theorem Qix (h : ∀ n x, V.rb n (v x) = true) : ∀ n x, V.rb n (vSm v x) = true := fun n x => by
  show V.rbs n _ = true
  simp only [Qaf, Qdi, Qj9, Qj8, Qby, Qaj h, Bool.and_true]
theorem Qiy (h : ∀ n x, V.rb n (v x) = true) : ∀ n x, V.rb n (vCp v x) = true := fun n x => by
  show V.rbs n _ = true
  simp only [Qaf, Qdi, Qby, Qaj (Qix h), Bool.and_true]
theorem Qej (h : ∀ n x, V.rb n (v x) = true) : ∀ n x, V.rb n (vCo v x) = true := fun n x => by
  show V.rbs n _ = true
  simp only [Qaf, Qby, Qaj (Qiy h), Bool.and_true]
end
def Cx : Nat → Type
  | 0 => Empty
  | n + 1 => Co (Cx n)
def vCx : (n : Nat) → Cx n → V
  | 0, x => x.elim
  | n + 1, c => vCo (vCx n) c
theorem Qkd : ∀ (k : Nat) (n : Nat) (x : Cx k), V.rb n (vCx k x) = true
  | 0, n, x => x.elim
  | k + 1, n, x => Qej (Qkd k) n x
def Bd : Nat → (k : Nat) → Sl (Cx k) → Prop
  | d, 0, s => True
  | d, k + 1, s => s.l.length ≤ 1000 ∧ ∀ c ∈ s.l, c.list.l.length ≤ 1000 ∧ ∀ x ∈ c.list.l, x.list.l.length ≤ 1000 ∧ ∀ y ∈ x.list.l, y.pre.length ≤ 100 ∧ y.name.length ≤ 100 ∧ y.text.length ≤ 100 ∧ 0 < d ∧ Bd (d - 1) k y.of
theorem Qlo {α : Type} {f : α → V} {k : Nat} : ∀ l : List α, (∀ x ∈ l, V.shp k (f x) = true) → V.shpAll k (l.map f) = true
  | [], _ => rfl
  | x :: l, h => by rw [List.map_cons, V.shpAll, h x (List.mem_cons_self ..), Qlo l fun y hy => h y (List.mem_cons_of_mem _ hy)]; rfl
theorem Qmu {α : Type} {f : α → V} {k : Nat} {s : Sl α} (h : ∀ x ∈ s.l, V.shp (k + 1) (f x) = true) (hk : k = 0 ∨ k = 2 ∨ k = 4) (hl : s.l.length ≤ 1000) : V.shp k (vSl f s) = true := by
  cases s with
  | nil => rcases hk with rfl | rfl | rfl <;> rfl
  | row xs =>
    have hl' : xs.length ≤ 1000000000 := Nat.le_trans hl (by decide)
    have h' := Qlo xs h
    rcases hk with rfl | rfl | rfl <;> (show V.shp _ (.sl _ _) = true; simp [V.shp, hl']; exact h')
theorem sl0 {α : Type} (h : α → False) : ∀ s : Sl α, s.l = []
  | .nil => rfl
  | .row [] => rfl
  | .row (x :: _) => (h x).elim
theorem Qwu : ∀ (k d : Nat) (s : Sl (Cx k)), Bd d k s → V.shp 0 (vSl (vCx k) s) = true
  | 0, d, s, _ => by
    have e := sl0 (α := Cx 0) (fun x => Empty.elim x) s
    exact Qmu (fun x _ => x.elim) (.inl rfl) (by rw [e]; exact Nat.zero_le _)
  | k + 1, d, s, hb => by
    refine Qmu (fun x hx => ?_) (.inl rfl) hb.1
    show V.shp 1 (.agg [vSl (vCp (vCx k)) x.list]) = true
    simp only [V.shp, V.shpEach, beq_self_eq_true, if_true, Bool.and_eq_true]
    refine ⟨Qmu (fun y hy => ?_) (.inr (.inl rfl)) (hb.2 x hx).1, rfl⟩
    show V.shp 3 (.agg [.int .i64 y.comb, vSl (vSm (vCx k)) y.list]) = true
    simp [V.shp, V.shpEach]
    refine Qmu (fun z hz => ?_) (.inr (.inr rfl)) ((hb.2 x hx).2 y hy).1
    show V.shp 5 (.agg _) = true
    simp [V.shp, V.shpEach, Qwu k (d - 1) z.of (((hb.2 x hx).2 y hy).2 z hz).2.2.2.2]
theorem Qrs {α : Type} {f : α → V} {s : Sl α} {n : Nat} (h : ∀ x ∈ s.l, V.hh (f x) ≤ n) : V.hh (vSl f s) ≤ n + 1 ∧ (s.l = [] → V.hh (vSl f s) = 0) := by
  cases s with
  | nil => exact ⟨Nat.zero_le _, fun _ => rfl⟩
  | row xs =>
    have key : ∀ l : List α, (∀ x ∈ l, V.hh (f x) ≤ n) → V.hhs (l.map f) ≤ n := by
      intro l
      induction l with
      | nil => intro _; exact Nat.zero_le _
      | cons x l ih =>
        intro hl
        rw [List.map_cons, V.hhs]
        have := hl x (List.mem_cons_self ..)
        have := ih fun y hy => hl y (List.mem_cons_of_mem _ hy)
        omega
    have e : V.hh (vSl f (.row xs)) = if (xs.map f).isEmpty then 0 else V.hhs (xs.map f) + 1 := by
      show V.hh (.sl _ _) = _
      rw [V.hh]
    rw [e]
    refine ⟨?_, fun h0 => ?_⟩
    · split
      · exact Nat.zero_le _
      · have := key xs h; omega
    · have : xs = [] := h0
      subst this; rfl
theorem Wbg : ∀ (k d : Nat) (s : Sl (Cx k)), Bd d k s → V.hh (vSl (vCx k) s) ≤ 3 * d + 3
  | 0, d, s, _ => by
    have e := sl0 (α := Cx 0) (fun x => Empty.elim x) s
    rw [(Qrs (f := vCx 0) (s := s) (n := 0) (fun x _ => Empty.elim x)).2 e]
    omega
  | k + 1, d, s, hb => by
    refine (Qrs (n := 3 * d + 2) fun x hx => ?_).1
    have e1 : V.hh (vCx (k + 1) x) = V.hh (vSl (vCp (vCx k)) x.list) := by
      show V.hh (.agg [vSl (vCp (vCx k)) x.list]) = _
      simp [V.hh, V.hhs]
    rw [e1]
    refine (Qrs (n := 3 * d + 1) fun y hy => ?_).1
    have e2 : V.hh (vCp (vCx k) y) = V.hh (vSl (vSm (vCx k)) y.list) := by simp [V.hh, V.hhs]
    rw [e2]
    refine (Qrs (n := 3 * d) fun z hz => ?_).1
    have e3 : V.hh (vSm (vCx k) z) = V.hh (vSl (vCx k) z.of) := by simp [V.hh, V.hhs]
    rw [e3]
    have hz := ((hb.2 x hx).2 y hy).2 z hz
    have := Wbg k (d - 1) z.of hz.2.2.2.2
    have := hz.2.2.2.1
    omega
end Go.Ev
namespace Go.Ev
theorem Qof {σ : Objs} {xs : List V} {c : Cap} : eC σ .bytesStrN (.sl xs c) = (bytesOf xs).map V.str := rfl
attribute [go_sem] Qof
end Go.Ev
namespace Go.Proofs.YtapnplljnpconaaGreatDoor
open Go.Ev
set_option maxRecDepth 100000
set_option maxHeartbeats 4000000
def Qhr (n : Int) : Bool := decide (0 ≤ n) && decide (n < 1114112) && (decide (n < 55296) || decide (57343 < n))
theorem Wea (c : Int) (σ : Objs) (hσ : Wf σ) : E cx 95 [.int .i64 c] σ = some (.bool (Qhr c), σ) := by
  rw [e_Z1x]
  simp +contextual -implicitDefEqProofs (disch := first | assumption | omega | (simp -implicitDefEqProofs only [go_sem]; try omega)) only [↓reduceIte, go_sem, iP, iN, w64, w8, w32, s_Z1x, Qhr]
def putB (x : Int) : UInt8 := UInt8.ofNat x.toNat
theorem Qf6 {x : Int} (h : 0 ≤ x ∧ x ≤ 255) : ((putB x).toNat : Int) = x := by
  unfold putB
  rw [UInt8.toNat_ofNat']; omega
def putS (n : Int) : List UInt8 :=
  if n < 128 then [putB n]
  else if n < 2048 then [putB (192 + n / 64), putB (128 + n % 64)]
  else if n < 65536 then [putB (224 + n / 4096), putB (128 + n / 64 % 64), putB (128 + n % 64)]
  else [putB (240 + n / 262144), putB (128 + n / 4096 % 64), putB (128 + n / 64 % 64), putB (128 + n % 64)]
theorem Wj2 (n : Int) (hn : 0 ≤ n ∧ n ≤ 1114111) (σ : Objs) (hσ : Wf σ) : E cx 109 [.int .i64 n] σ = some (.sl (Qac (putS n)) .no, σ) := by
  rw [e_Z1w]
  by_cases h1 : n < 128
  · simp +contextual -implicitDefEqProofs (disch := first | assumption | omega | (simp -implicitDefEqProofs only [go_sem]; try omega)) only [↓reduceIte, go_sem, iP, iN, w64, w8, w32, s_Z1w, putS, Qac, Qf6, Qmh, Qmi]
  · by_cases h2 : n < 2048
    · simp +contextual -implicitDefEqProofs (disch := first | assumption | omega | (simp -implicitDefEqProofs only [go_sem]; try omega)) only [↓reduceIte, go_sem, iP, iN, w64, w8, w32, s_Z1w, putS, Qac, Qf6, Qmh, Qmi]
    · by_cases h3 : n < 65536
      · simp +contextual -implicitDefEqProofs (disch := first | assumption | omega | (simp -implicitDefEqProofs only [go_sem]; try omega)) only [↓reduceIte, go_sem, iP, iN, w64, w8, w32, s_Z1w, putS, Qac, Qf6, Qmh, Qmi]
      · simp +contextual -implicitDefEqProofs (disch := first | assumption | omega | (simp -implicitDefEqProofs only [go_sem]; try omega)) only [↓reduceIte, go_sem, iP, iN, w64, w8, w32, s_Z1w, putS, Qac, Qf6, Qmh, Qmi]
theorem Qcx (s : List UInt8) : V.rb 0 (.sl (Qac s) .no) = true := Qhh
theorem Qwv {n : Int} (h : Qhr n = true) : 0 ≤ n ∧ n ≤ 1114111 := by
  unfold Qhr at h
  simp only [Bool.and_eq_true, decide_eq_true_eq] at h
  omega
def Qmv : List UInt8 → Int → Int
  | [], n => n
  | x :: r, n => Qmv r (64 * n + x.toNat - 128)
def Qke (k : Nat) : Int := if k = 2 then 192 else if k = 3 then 224 else if k = 4 then 240 else 0
def Qdv (b : List UInt8) : Int := Qmv b.tail ((b.getD 0 0).toNat - Qke b.length)
theorem Qlp (b : List UInt8) (hb : b.length ≤ 4) : ∀ (r p : List UInt8) (n i N : Int), b = p ++ r → i = p.length → -N ≤ n ∧ n ≤ N → (N + 3) * 64 ^ r.length ≤ 1099511627776 →
    l_Z21_0 (Mi cx) 0 0 [.sl (Qac b) .no, .int .i64 n, .int .i64 i] [] = some (.int .i64 (Qmv r n), [])
  | [], p, n, i, N, hp, hi, hn, hN => by
    have hlen : b.length = p.length := by rw [hp]; simp
    rw [u_Z21_0]
    simp +contextual -implicitDefEqProofs (disch := first | assumption | omega | (simp -implicitDefEqProofs only [go_sem]; try omega)) only [↓reduceIte, go_sem, iP, iN, w64, w8, w32, b_Z21_0, Qmv]
  | x :: r, p, n, i, N, hp, hi, hn, hN => by
    have hlen : b.length = p.length + r.length + 1 := by rw [hp]; simp; omega
    have hg : b.getD i.toNat 0 = x := by rw [hp, hi]; simp
    have hx := UInt8.toNat_lt x
    have hpow : (N + 3) * 64 ^ r.length * 64 ≤ 1099511627776 := by
      rw [List.length_cons, Int.pow_succ, ← Int.mul_assoc] at hN
      exact hN
    have hone : (1 : Int) ≤ 64 ^ r.length := Int.pow_pos (by decide)
    have hle : (N + 3) * 1 ≤ (N + 3) * 64 ^ r.length := Int.mul_le_mul_of_nonneg_left hone (by omega)
    have ih := Qlp b hb r (p ++ [x]) (64 * n + x.toNat - 128) (i + 1) (64 * N + 128) (by rw [hp]; simp) (by simp; omega) (by omega) (by
      have h1 : (64 * N + 128 + 3) * 64 ^ r.length ≤ (64 * (N + 3)) * 64 ^ r.length := Int.mul_le_mul_of_nonneg_right (by omega) (by omega)
      have h2 : (64 * (N + 3)) * 64 ^ r.length = (N + 3) * 64 ^ r.length * 64 := by rw [Int.mul_comm 64 (N + 3), Int.mul_assoc, Int.mul_comm 64, ← Int.mul_assoc]
      omega)
    rw [u_Z21_0]
    simp +contextual -implicitDefEqProofs (disch := first | assumption | omega | (simp -implicitDefEqProofs only [go_sem]; try omega)) only [↓reduceIte, go_sem, iP, iN, w64, w8, w32, b_Z21_0, Qmv, hg, ih]
theorem Wbh (b : List UInt8) (hb : 1 ≤ b.length ∧ b.length ≤ 4) (σ : Objs) (hσ : Wf σ) : E cx 107 [.sl (Qac b) .no] σ = some (.int .i64 (Qdv b), σ) := by
  refine Qcm Qci ?_ (by rw [Qaf, Qcx]; rfl) rfl σ hσ
  have hb0 := UInt8.toNat_lt (b.getD 0 0)
  have hh : 0 ≤ Qke b.length ∧ Qke b.length ≤ 240 := by unfold Qke; repeat' split; all_goals omega
  have h1 : l_Z21_0 (Mi cx) 0 0 [.sl (Qac b) .no, .int .i64 ((b.getD 0 0).toNat - Qke b.length), .int .i64 1] [] = some (.int .i64 (Qdv b), []) := by
    obtain ⟨x, r, rfl⟩ : ∃ x r, b = x :: r := by
      cases b with
      | nil => simp at hb
      | cons x r => exact ⟨x, r, rfl⟩
    refine Qlp (x :: r) hb.2 r [x] _ 1 255 rfl rfl (by omega) ?_
    have : r.length ≤ 3 := by simp at hb; omega
    have h3 : r.length = 0 ∨ r.length = 1 ∨ r.length = 2 ∨ r.length = 3 := by omega
    rcases h3 with h | h | h | h <;> rw [h] <;> decide
  have h2 : eI 1 (.int .i64 b.length) (.sl [.int .i64 0, .int .i64 0, .int .i64 192, .int .i64 224, .int .i64 240] .fx) = some (.eptr [.int .i64 (Qke b.length)] 0) := by
    have h3 : b.length = 1 ∨ b.length = 2 ∨ b.length = 3 ∨ b.length = 4 := by omega
    rcases h3 with h | h | h | h <;> rw [h] <;> rfl
  have h4 : eI 1 (.int .i64 b.length) (.sl [.int .i64 0, .int .i64 0, .int .i64 192, .int .i64 224, .int .i64 240] .no) = some (.eptr [.int .i64 (Qke b.length)] 0) := by
    have h3 : b.length = 1 ∨ b.length = 2 ∨ b.length = 3 ∨ b.length = 4 := by omega
    rcases h3 with h | h | h | h <;> rw [h] <;> rfl
  rw [e_Z21]
  simp +contextual -implicitDefEqProofs (disch := first | assumption | omega | (simp -implicitDefEqProofs only [go_sem]; try omega)) only [↓reduceIte, go_sem, iP, iN, w64, w8, w32, s_Z21, h1, h2, h4]
def Qbs (b : List UInt8) : Bool := Qhr (Qdv b) && decide (putS (Qdv b) = b)
theorem Qmw (b : List UInt8) (hb : 1 ≤ b.length ∧ b.length ≤ 4) (σ : Objs) (hσ : Wf σ) : E cx 78 [.sl (Qac b) .no] σ = some (.bool (Qbs b), σ) := by
  have h1 := fun σ hσ => Wbh b hb σ hσ
  have h2 := fun σ hσ => Wea (Qdv b) σ hσ
  rw [e_Z22]
  unfold Qbs
  cases hr : Qhr (Qdv b) with
  | true =>
    have h3 := fun σ hσ => Wj2 (Qdv b) (Qwv hr) σ hσ
    by_cases he : putS (Qdv b) = b
    · simp +contextual -implicitDefEqProofs (disch := first | assumption | omega | (simp -implicitDefEqProofs only [go_sem]; try omega)) only [↓reduceIte, go_sem, iP, iN, w64, w8, w32, s_Z22, h1, h2, h3, hr, he]
    · simp +contextual -implicitDefEqProofs (disch := first | assumption | omega | (simp -implicitDefEqProofs only [go_sem]; try omega)) only [↓reduceIte, go_sem, iP, iN, w64, w8, w32, s_Z22, h1, h2, h3, hr, he]
  | false => simp +contextual -implicitDefEqProofs (disch := first | assumption | omega | (simp -implicitDefEqProofs only [go_sem]; try omega)) only [↓reduceIte, go_sem, iP, iN, w64, w8, w32, s_Z22, h1, h2, hr]
theorem Qog (c : UInt8) : ∀ (g : Nat) (out : List UInt8) (cap : Cap) (n : Int), n = out.length + g → n ≤ 100 → (cap = .fx ∨ cap = .gr 1) →
    l_Z20_0 (Mi cx) 0 0 [.int .u8 c.toNat, .int .i64 n, .sl (Qac out) cap] [] = some (.sl (Qac (out ++ List.replicate g c)) .no, [])
  | 0, out, cap, n, hn, hl, hc => by
    rw [u_Z20_0]
    simp +contextual -implicitDefEqProofs (disch := first | assumption | omega | (simp -implicitDefEqProofs only [go_sem]; try omega)) only [↓reduceIte, go_sem, iP, iN, w64, w8, w32, b_Z20_0, List.replicate, List.append_nil]
  | g + 1, out, cap, n, hn, hl, hc => by
    have hm : Qbu = 140737488355328 := rfl
    have hx := UInt8.toNat_lt c
    have h2 : appV false false 1 1 [] (.sl (Qac out) cap) (.sl [.int .u8 c.toNat] .no) = some (.sl (Qac (out ++ [c])) (.gr 1)) := Qkc (m := [c]) hc (by simp) (by simp; omega)
    have ih := Qog c g (out ++ [c]) (.gr 1) n (by simp; omega) hl (.inr rfl)
    rw [List.append_assoc] at ih
    rw [u_Z20_0]
    simp +contextual -implicitDefEqProofs (disch := first | assumption | omega | (simp -implicitDefEqProofs only [go_sem]; try omega)) only [↓reduceIte, go_sem, iP, iN, w64, w8, w32, b_Z20_0, h2, ih, List.replicate_succ]
def filS (b : List UInt8) (c : UInt8) (n : Int) : List UInt8 := b ++ List.replicate (n.toNat - b.length) c
theorem Qrt (b : List UInt8) (c : UInt8) (n : Int) (hb : 1 ≤ b.length ∧ (b.length : Int) ≤ n ∧ n ≤ 100) (σ : Objs) (hσ : Wf σ) : E cx 148 [.sl (Qac b) .no, .int .u8 c.toNat, .int .i64 n] σ = some (.sl (Qac (filS b c n)) .no, σ) := by
  refine Qcm Qci ?_ (by rw [Qaf, Qcx]; rfl) (Qcx _) σ hσ
  have hm : Qbu = 140737488355328 := rfl
  have h1 := Qog c (n.toNat - b.length) b (.gr 1) n (by omega) hb.2.2 (.inr rfl)
  have h2 : ∀ σ, appV false false 1 1 σ (.sl [] .fx) (.sl (Qac b) .no) = some (.sl (Qac b) (.gr 1)) := fun σ => Qkc (l := []) (m := b) (.inl rfl) (by intro h; rw [h] at hb; simp at hb) (by simp; omega)
  rw [e_Z20]
  unfold filS
  simp +contextual -implicitDefEqProofs (disch := first | assumption | omega | (simp -implicitDefEqProofs only [go_sem]; try omega)) only [↓reduceIte, go_sem, iP, iN, w64, w8, w32, s_Z20, h1, h2]
theorem Qru (b : List UInt8) (c : UInt8) (n : Int) (h : (b.length : Int) ≤ n) : ((filS b c n).length : Int) = n := by
  unfold filS
  simp; omega
def begF (b : List UInt8) : Nat → Int → Bool
  | 0, s => false
  | f + 1, s => if s ≤ 4 then (if Qbs (filS b 128 s) then true else if Qbs (filS b 191 s) then true else begF b f (s + 1)) else false
def begS (b : List UInt8) : Bool := begF b 4 (b.length + 1)
theorem Qoh (b : List UInt8) (hb : 1 ≤ b.length ∧ b.length ≤ 4) : ∀ (f : Nat) (s : Int), 5 - s < f → (b.length : Int) < s →
    l_Z1z_0 (Mi cx) 0 0 [.sl (Qac b) .no, .int .i64 s] [] = some (.bool (begF b f s), [])
  | 0, s, hf, hs => by
    rw [u_Z1z_0]
    have : ¬ s ≤ 4 := by omega
    simp +contextual -implicitDefEqProofs (disch := first | assumption | omega | (simp -implicitDefEqProofs only [go_sem]; try omega)) only [↓reduceIte, go_sem, iP, iN, w64, w8, w32, b_Z1z_0, begF, this]
  | f + 1, s, hf, hs => by
    rw [u_Z1z_0]
    by_cases h4 : s ≤ 4
    · have e1 := Qru b 128 s (by omega)
      have e2 := Qru b 191 s (by omega)
      have h1 : ∀ σ, Wf σ → E cx 148 [.sl (Qac b) .no, .int .u8 128, .int .i64 s] σ = some (.sl (Qac (filS b 128 s)) .no, σ) := fun σ hσ => Qrt b 128 s (by omega) σ hσ
      have h2 : ∀ σ, Wf σ → E cx 148 [.sl (Qac b) .no, .int .u8 191, .int .i64 s] σ = some (.sl (Qac (filS b 191 s)) .no, σ) := fun σ hσ => Qrt b 191 s (by omega) σ hσ
      have h3 := fun σ hσ => Qmw (filS b 128 s) (by omega) σ hσ
      have h5 := fun σ hσ => Qmw (filS b 191 s) (by omega) σ hσ
      have ih := Qoh b hb f (s + 1) (by omega) (by omega)
      cases c1 : Qbs (filS b 128 s) with
      | true => simp +contextual -implicitDefEqProofs (disch := first | assumption | omega | (simp -implicitDefEqProofs only [go_sem]; try omega)) only [↓reduceIte, go_sem, iP, iN, w64, w8, w32, b_Z1z_0, begF, h4, h1, h3, c1]
      | false =>
        cases c2 : Qbs (filS b 191 s) with
        | true => simp +contextual -implicitDefEqProofs (disch := first | assumption | omega | (simp -implicitDefEqProofs only [go_sem]; try omega)) only [↓reduceIte, go_sem, iP, iN, w64, w8, w32, b_Z1z_0, begF, h4, h1, h2, h3, h5, c1, c2]
        | false => simp +contextual -implicitDefEqProofs (disch := first | assumption | omega | (simp -implicitDefEqProofs only [go_sem]; try omega)) only [↓reduceIte, go_sem, iP, iN, w64, w8, w32, b_Z1z_0, begF, h4, h1, h2, h3, h5, c1, c2, ih]
    · simp +contextual -implicitDefEqProofs (disch := first | assumption | omega | (simp -implicitDefEqProofs only [go_sem]; try omega)) only [↓reduceIte, go_sem, iP, iN, w64, w8, w32, b_Z1z_0, begF, h4]
theorem Qz2 (b : List UInt8) (hb : 1 ≤ b.length ∧ b.length ≤ 4) (σ : Objs) (hσ : Wf σ) : E cx 108 [.sl (Qac b) .no] σ = some (.bool (begS b), σ) := by
  refine Qcm Qci ?_ (by rw [Qaf, Qcx]; rfl) rfl σ hσ
  have h1 := Qoh b hb 5 (b.length + 1) (by omega) (by omega)
  have e : begF b 5 (b.length + 1) = begS b := by
    have key : ∀ (f : Nat) (s : Int), 4 - s < f → begF b (f + 1) s = begF b f s := by
      intro f
      induction f with
      | zero => intro s hs; show (if s ≤ 4 then _ else false) = false; rw [if_neg (by omega)]
      | succ f ih =>
        intro s hs
        show (if s ≤ 4 then (if Qbs (filS b 128 s) then true else if Qbs (filS b 191 s) then true else begF b (f + 1) (s + 1)) else false) = (if s ≤ 4 then (if Qbs (filS b 128 s) then true else if Qbs (filS b 191 s) then true else begF b f (s + 1)) else false)
        rw [ih (s + 1) (by omega)]
    exact key 4 _ (by omega)
  rw [e] at h1
  rw [e_Z1z]
  simp +contextual -implicitDefEqProofs (disch := first | assumption | omega | (simp -implicitDefEqProofs only [go_sem]; try omega)) only [↓reduceIte, go_sem, iP, iN, w64, w8, w32, s_Z1z, h1]
def cut8 (b : List UInt8) (a c : Int) : List UInt8 := (b.drop a.toNat).take (c.toNat - a.toNat)
theorem Qmx (b : List UInt8) (a c : Int) (h : 0 ≤ a ∧ a ≤ c ∧ c ≤ b.length) : ((cut8 b a c).length : Int) = c - a := by
  unfold cut8
  simp only [List.length_take, List.length_drop]; omega
def fir1 (b : List UInt8) (a : Int) : Nat → Int → Int × Int
  | 0, s => (65533, 1)
  | f + 1, s => if 1 < s then (if a + s ≤ b.length then (if begS (cut8 b a (a + s)) then (65533, s) else fir1 b a f (s - 1)) else fir1 b a f (s - 1)) else (65533, 1)
def fir0 (b : List UInt8) (a : Int) : Nat → Int → Int × Int
  | 0, s => fir1 b a 3 3
  | f + 1, s => if s ≤ 4 then (if a + s ≤ b.length then (if Qbs (cut8 b a (a + s)) then (Qdv (cut8 b a (a + s)), s) else fir0 b a f (s + 1)) else fir1 b a 3 3) else fir1 b a 3 3
def firS (b : List UInt8) (a : Int) : Int × Int := fir0 b a 4 1
theorem Qih (b : List UInt8) (hb : b.length ≤ 1000000000) (a : Int) (ha : 0 ≤ a ∧ a < b.length) : ∀ (f : Nat) (s : Int), s - 1 ≤ f → s ≤ 3 →
    l_Z1t_1 (Mi cx) 0 0 [.sl (Qac b) .no, .int .i64 a, .int .i64 s] [] = some (.tup [.int .i64 (fir1 b a f s).1, .int .i64 (fir1 b a f s).2], [])
  | 0, s, hf, hs => by
    have : ¬ 1 < s := by omega
    rw [u_Z1t_1]
    simp +contextual -implicitDefEqProofs (disch := first | assumption | omega | (simp -implicitDefEqProofs only [go_sem]; try omega)) only [↓reduceIte, go_sem, iP, iN, w64, w8, w32, b_Z1t_1, fir1, this]
  | f + 1, s, hf, hs => by
    rw [u_Z1t_1]
    by_cases c1 : 1 < s
    · have ih := Qih b hb a ha f (s - 1) (by omega) (by omega)
      by_cases c2 : a + s ≤ b.length
      · have hl := Qmx b a (a + s) (by omega)
        have h1 := fun σ hσ => Qz2 (cut8 b a (a + s)) (by omega) σ hσ
        have h2 : ∀ c, Qba 1 (.sl (Qac b) c) (some (.int .i64 a)) (some (.int .i64 (a + s))) none = some (.sl (Qac (cut8 b a (a + s))) .no) := fun c => Qhq (by omega)
        cases c3 : begS (cut8 b a (a + s)) with
        | true => simp +contextual -implicitDefEqProofs (disch := first | assumption | omega | (simp -implicitDefEqProofs only [go_sem]; try omega)) only [↓reduceIte, go_sem, iP, iN, w64, w8, w32, b_Z1t_1, fir1, c1, c2, c3, h1, h2]
        | false => simp +contextual -implicitDefEqProofs (disch := first | assumption | omega | (simp -implicitDefEqProofs only [go_sem]; try omega)) only [↓reduceIte, go_sem, iP, iN, w64, w8, w32, b_Z1t_1, fir1, c1, c2, c3, h1, h2, ih]
      · simp +contextual -implicitDefEqProofs (disch := first | assumption | omega | (simp -implicitDefEqProofs only [go_sem]; try omega)) only [↓reduceIte, go_sem, iP, iN, w64, w8, w32, b_Z1t_1, fir1, c1, c2, ih]
    · simp +contextual -implicitDefEqProofs (disch := first | assumption | omega | (simp -implicitDefEqProofs only [go_sem]; try omega)) only [↓reduceIte, go_sem, iP, iN, w64, w8, w32, b_Z1t_1, fir1, c1]
theorem Qlq (b : List UInt8) (hb : b.length ≤ 1000000000) (a : Int) (ha : 0 ≤ a ∧ a < b.length) : ∀ (f : Nat) (s : Int), 5 - s = f → 1 ≤ s →
    l_Z1t_0 (Mi cx) 0 0 [.sl (Qac b) .no, .int .i64 a, .int .i64 s] [] = some (.tup [.int .i64 (fir0 b a f s).1, .int .i64 (fir0 b a f s).2], [])
  | 0, s, hf, hs => by
    have c1 : ¬ s ≤ 4 := by omega
    have h3 := Qih b hb a ha 3 3 (by omega) (by omega)
    rw [u_Z1t_0]
    simp +contextual -implicitDefEqProofs (disch := first | assumption | omega | (simp -implicitDefEqProofs only [go_sem]; try omega)) only [↓reduceIte, go_sem, iP, iN, w64, w8, w32, b_Z1t_0, fir0, c1, h3]
  | f + 1, s, hf, hs => by
    have h3 := Qih b hb a ha 3 3 (by omega) (by omega)
    have ih := Qlq b hb a ha f (s + 1) (by omega) (by omega)
    have c1 : s ≤ 4 := by omega
    rw [u_Z1t_0]
    by_cases c2 : a + s ≤ b.length
    · have hl := Qmx b a (a + s) (by omega)
      have h1 := fun σ hσ => Qmw (cut8 b a (a + s)) (by omega) σ hσ
      have h4 := fun σ hσ => Wbh (cut8 b a (a + s)) (by omega) σ hσ
      have h2 : ∀ c, Qba 1 (.sl (Qac b) c) (some (.int .i64 a)) (some (.int .i64 (a + s))) none = some (.sl (Qac (cut8 b a (a + s))) .no) := fun c => Qhq (by omega)
      cases c3 : Qbs (cut8 b a (a + s)) with
      | true => simp +contextual -implicitDefEqProofs (disch := first | assumption | omega | (simp -implicitDefEqProofs only [go_sem]; try omega)) only [↓reduceIte, go_sem, iP, iN, w64, w8, w32, b_Z1t_0, fir0, c1, c2, c3, h1, h2, h4]
      | false => simp +contextual -implicitDefEqProofs (disch := first | assumption | omega | (simp -implicitDefEqProofs only [go_sem]; try omega)) only [↓reduceIte, go_sem, iP, iN, w64, w8, w32, b_Z1t_0, fir0, c1, c2, c3, h1, h2, h4, ih]
    · simp +contextual -implicitDefEqProofs (disch := first | assumption | omega | (simp -implicitDefEqProofs only [go_sem]; try omega)) only [↓reduceIte, go_sem, iP, iN, w64, w8, w32, b_Z1t_0, fir0, c1, c2, h3]
theorem Web (b : List UInt8) (hb : b.length ≤ 1000000000) (a : Int) (ha : 0 ≤ a ∧ a < b.length) (σ : Objs) (hσ : Wf σ) : E cx 77 [.sl (Qac b) .no, .int .i64 a] σ = some (.tup [.int .i64 (firS b a).1, .int .i64 (firS b a).2], σ) := by
  refine Qcm Qci ?_ (by rw [Qaf, Qcx]; rfl) rfl σ hσ
  have h := Qlq b hb a ha 4 1 (by omega) (by omega)
  rw [e_Z1t]
  simp +contextual -implicitDefEqProofs (disch := first | assumption | omega | (simp -implicitDefEqProofs only [go_sem]; try omega)) only [↓reduceIte, go_sem, iP, iN, w64, w8, w32, s_Z1t, h, firS]
theorem Qb8 {n : Int} {x : UInt8} (h : 0 ≤ n ∧ n ≤ 255) : putB n = x ↔ n = x.toNat := by
  constructor
  · intro e
    have := Qf6 h
    rw [e] at this
    omega
  · intro e
    have := Qf6 h
    exact UInt8.toNat_inj.1 (by omega)
def conB (y : UInt8) : Bool := decide (128 ≤ y.toNat) && decide (y.toNat ≤ 191)
def secB (x y : UInt8) : Bool :=
  decide ((if x.toNat = 224 then 160 else if x.toNat = 240 then 144 else 128) ≤ y.toNat) && decide (y.toNat ≤ (if x.toNat = 237 then 159 else if x.toNat = 244 then 143 else 191))
theorem Qf7 {n : Int} : Qhr n = true ↔ (0 ≤ n ∧ n < 1114112 ∧ (n < 55296 ∨ 57343 < n)) := by
  unfold Qhr
  simp only [Bool.and_eq_true, Bool.or_eq_true, decide_eq_true_eq]
  constructor
  · rintro ⟨⟨h1, h2⟩, h3⟩; exact ⟨h1, h2, h3⟩
  · rintro ⟨h1, h2, h3⟩; exact ⟨⟨h1, h2⟩, h3⟩
theorem Qd3 {y : UInt8} : conB y = true ↔ 128 ≤ y.toNat ∧ y.toNat ≤ 191 := by
  unfold conB
  simp only [Bool.and_eq_true, decide_eq_true_eq]
theorem Qji {x y : UInt8} : secB x y = true ↔ (if x.toNat = 224 then 160 else if x.toNat = 240 then 144 else 128) ≤ y.toNat ∧ y.toNat ≤ (if x.toNat = 237 then 159 else if x.toNat = 244 then 143 else 191) := by
  unfold secB
  simp only [Bool.and_eq_true, decide_eq_true_eq]
theorem Qek {b : List UInt8} : Qbs b = true ↔ Qhr (Qdv b) = true ∧ putS (Qdv b) = b := by
  unfold Qbs
  simp only [Bool.and_eq_true, decide_eq_true_eq]
theorem Whk (x : UInt8) : Qdv [x] = x.toNat := by
  unfold Qdv Qke
  simp [Qmv]
theorem Wj3 (x y : UInt8) : Qdv [x, y] = 64 * (x.toNat - 192) + y.toNat - 128 := by
  unfold Qdv Qke
  simp [Qmv]
theorem Wj4 (x y z : UInt8) : Qdv [x, y, z] = 64 * (64 * (x.toNat - 224) + y.toNat - 128) + z.toNat - 128 := by
  unfold Qdv Qke
  simp [Qmv]
theorem Wj5 (x y z t : UInt8) : Qdv [x, y, z, t] = 64 * (64 * (64 * (x.toNat - 240) + y.toNat - 128) + z.toNat - 128) + t.toNat - 128 := by
  unfold Qdv Qke
  simp [Qmv]
theorem Wj6 {a x : UInt8} : [a] = [x] ↔ a = x := by simp
theorem Whl (x : UInt8) : Qbs [x] = true ↔ x.toNat < 128 := by
  have hx := UInt8.toNat_lt x
  rw [Qek, Whk, Qf7]
  unfold putS
  constructor
  · rintro ⟨h1, h2⟩
    split at h2
    · omega
    · split at h2
      · simp at h2
      · split at h2 <;> simp at h2
  · intro h
    refine ⟨by omega, ?_⟩
    rw [if_pos (by omega), Wj6, Qb8 (by omega)]
theorem Whm (x y : UInt8) : Qbs [x, y] = true ↔ 194 ≤ x.toNat ∧ x.toNat ≤ 223 ∧ conB y = true := by
  have hx := UInt8.toNat_lt x
  have hy := UInt8.toNat_lt y
  rw [Qek, Wj3, Qf7, Qd3]
  generalize hn : (64 * ((x.toNat : Int) - 192) + y.toNat - 128) = n
  unfold putS
  constructor
  · rintro ⟨h1, h2⟩
    split at h2
    · simp at h2
    · split at h2
      · simp only [List.cons.injEq, and_true] at h2
        rw [Qb8 (by omega), Qb8 (by omega)] at h2
        omega
      · split at h2 <;> simp at h2
  · intro h
    refine ⟨by omega, ?_⟩
    rw [if_neg (by omega), if_pos (by omega)]
    simp only [List.cons.injEq, and_true]
    rw [Qb8 (by omega), Qb8 (by omega)]
    omega
theorem Whn (x y z : UInt8) : Qbs [x, y, z] = true ↔ 224 ≤ x.toNat ∧ x.toNat ≤ 239 ∧ secB x y = true ∧ conB z = true := by
  have hx := UInt8.toNat_lt x
  have hy := UInt8.toNat_lt y
  have hz := UInt8.toNat_lt z
  rw [Qek, Wj4, Qf7, Qd3, Qji]
  generalize hn : (64 * (64 * ((x.toNat : Int) - 224) + y.toNat - 128) + z.toNat - 128) = n
  unfold putS
  constructor
  · rintro ⟨h1, h2⟩
    split at h2
    · simp at h2
    · split at h2
      · simp at h2
      · split at h2
        · simp only [List.cons.injEq, and_true] at h2
          rw [Qb8 (by omega), Qb8 (by omega), Qb8 (by omega)] at h2
          refine ⟨by omega, by omega, ⟨?_, ?_⟩, by omega⟩ <;> (repeat' split) <;> omega
        · simp at h2
  · rintro ⟨h1, h2, h3, h4⟩
    have hs : (x.toNat = 224 → 160 ≤ y.toNat) ∧ (x.toNat = 237 → y.toNat ≤ 159) ∧ 128 ≤ y.toNat ∧ y.toNat ≤ 191 := by
      refine ⟨fun e => ?_, fun e => ?_, ?_, ?_⟩
      · have := h3.1; rw [if_pos e] at this; exact this
      · have := h3.2; rw [if_pos e] at this; exact this
      · have := h3.1; split at this <;> first | omega | (split at this <;> omega)
      · have := h3.2; split at this <;> first | omega | (split at this <;> omega)
    refine ⟨by omega, ?_⟩
    rw [if_neg (by omega), if_neg (by omega), if_pos (by omega)]
    simp only [List.cons.injEq, and_true]
    rw [Qb8 (by omega), Qb8 (by omega), Qb8 (by omega)]
    omega
theorem Who (x y z t : UInt8) : Qbs [x, y, z, t] = true ↔ 240 ≤ x.toNat ∧ x.toNat ≤ 244 ∧ secB x y = true ∧ conB z = true ∧ conB t = true := by
  have hx := UInt8.toNat_lt x
  have hy := UInt8.toNat_lt y
  have hz := UInt8.toNat_lt z
  have ht := UInt8.toNat_lt t
  rw [Qek, Wj5, Qf7, Qd3, Qd3, Qji]
  generalize hn : (64 * (64 * (64 * ((x.toNat : Int) - 240) + y.toNat - 128) + z.toNat - 128) + t.toNat - 128) = n
  unfold putS
  constructor
  · rintro ⟨h1, h2⟩
    split at h2
    · simp at h2
    · split at h2
      · simp at h2
      · split at h2
        · simp at h2
        · simp only [List.cons.injEq, and_true] at h2
          rw [Qb8 (by omega), Qb8 (by omega), Qb8 (by omega), Qb8 (by omega)] at h2
          refine ⟨by omega, by omega, ⟨?_, ?_⟩, by omega, by omega⟩ <;> (repeat' split) <;> omega
  · rintro ⟨h1, h2, h3, h4, h5⟩
    have hs : (x.toNat = 240 → 144 ≤ y.toNat) ∧ (x.toNat = 244 → y.toNat ≤ 143) ∧ 128 ≤ y.toNat ∧ y.toNat ≤ 191 := by
      refine ⟨fun e => ?_, fun e => ?_, ?_, ?_⟩
      · have := h3.1; rw [if_neg (by omega), if_pos e] at this; exact this
      · have := h3.2; rw [if_neg (by omega), if_pos e] at this; exact this
      · have := h3.1; split at this <;> first | omega | (split at this <;> omega)
      · have := h3.2; split at this <;> first | omega | (split at this <;> omega)
    refine ⟨by omega, ?_⟩
    rw [if_neg (by omega), if_neg (by omega), if_neg (by omega)]
    simp only [List.cons.injEq, and_true]
    rw [Qb8 (by omega), Qb8 (by omega), Qb8 (by omega), Qb8 (by omega)]
    omega
end Go.Proofs.YtapnplljnpconaaGreatDoor
namespace Go.Proofs.YtapnplljnpconaaGreatDoor
open Go.Ev
set_option maxRecDepth 100000
set_option maxHeartbeats 4000000
def nxB : List UInt8 → Option Nat
  | [] => none
  | x :: r =>
    if x.toNat < 128 then some 1
    else if 194 ≤ x.toNat ∧ x.toNat ≤ 223 then (match r with | y :: _ => if conB y then some 2 else none | [] => none)
    else if 224 ≤ x.toNat ∧ x.toNat ≤ 239 then (match r with | y :: z :: _ => if secB x y && conB z then some 3 else none | _ => none)
    else if 240 ≤ x.toNat ∧ x.toNat ≤ 244 then (match r with | y :: z :: t :: _ => if secB x y && conB z && conB t then some 4 else none | _ => none)
    else none
theorem Qcj (x : UInt8) (r : List UInt8) : nxB (x :: r) =
    if x.toNat < 128 then some 1
    else if 194 ≤ x.toNat ∧ x.toNat ≤ 223 then (match r with | y :: _ => if conB y then some 2 else none | [] => none)
    else if 224 ≤ x.toNat ∧ x.toNat ≤ 239 then (match r with | y :: z :: _ => if secB x y && conB z then some 3 else none | _ => none)
    else if 240 ≤ x.toNat ∧ x.toNat ≤ 244 then (match r with | y :: z :: t :: _ => if secB x y && conB z && conB t then some 4 else none | _ => none)
    else none := rfl
theorem Qww {r : List UInt8} {k : Nat} (h : nxB r = some k) : 1 ≤ k ∧ k ≤ 4 ∧ k ≤ r.length := by
  unfold nxB at h
  split at h
  · cases h
  · split at h
    · cases h; simp
    · split at h
      · split at h
        · split at h
          · cases h; simp
          · cases h
        · cases h
      · split at h
        · split at h
          · split at h
            · cases h; simp
            · cases h
          · cases h
        · split at h
          · split at h
            · split at h
              · cases h; simp
              · cases h
            · cases h
          · cases h
theorem nx1 (x : UInt8) (r : List UInt8) : Qbs [x] = true ↔ nxB (x :: r) = some 1 := by
  rw [Whl]
  constructor
  · intro h; rw [Qcj, if_pos h]
  · intro h
    rw [Qcj] at h
    split at h
    · assumption
    · exfalso
      split at h
      · split at h
        · split at h <;> cases h
        · cases h
      · split at h
        · split at h
          · split at h <;> cases h
          · cases h
        · split at h
          · split at h
            · split at h <;> cases h
            · cases h
          · cases h
theorem nx2 (x y : UInt8) (r : List UInt8) : Qbs [x, y] = true ↔ nxB (x :: y :: r) = some 2 := by
  rw [Whm]
  constructor
  · rintro ⟨h1, h2, h3⟩; rw [Qcj, if_neg (by omega), if_pos ⟨h1, h2⟩]; simp only [h3, if_true]
  · intro h
    rw [Qcj] at h
    split at h
    · cases h
    · split at h
      · rename_i h1
        simp only at h
        split at h
        · exact ⟨h1.1, h1.2, by assumption⟩
        · cases h
      · exfalso
        split at h
        · split at h
          · split at h <;> cases h
          · cases h
        · split at h
          · split at h
            · split at h <;> cases h
            · cases h
          · cases h
theorem nx3 (x y z : UInt8) (r : List UInt8) : Qbs [x, y, z] = true ↔ nxB (x :: y :: z :: r) = some 3 := by
  rw [Whn]
  constructor
  · rintro ⟨h1, h2, h3, h4⟩; rw [Qcj, if_neg (by omega), if_neg (by omega), if_pos ⟨h1, h2⟩]; simp only [h3, h4, Bool.and_true, if_true]
  · intro h
    rw [Qcj] at h
    split at h
    · cases h
    · split at h
      · exfalso
        simp only at h
        split at h <;> cases h
      · split at h
        · rename_i h1
          simp only at h
          split at h
          · rename_i h2
            simp only [Bool.and_eq_true] at h2
            exact ⟨h1.1, h1.2, h2.1, h2.2⟩
          · cases h
        · exfalso
          split at h
          · split at h
            · split at h <;> cases h
            · cases h
          · cases h
theorem nx4 (x y z t : UInt8) (r : List UInt8) : Qbs [x, y, z, t] = true ↔ nxB (x :: y :: z :: t :: r) = some 4 := by
  rw [Who]
  constructor
  · rintro ⟨h1, h2, h3, h4, h5⟩; rw [Qcj, if_neg (by omega), if_neg (by omega), if_neg (by omega), if_pos ⟨h1, h2⟩]; simp only [h3, h4, h5, Bool.and_true, if_true]
  · intro h
    rw [Qcj] at h
    split at h
    · cases h
    · split at h
      · exfalso
        simp only at h
        split at h <;> cases h
      · split at h
        · exfalso
          simp only at h
          split at h <;> cases h
        · split at h
          · rename_i h1
            simp only at h
            split at h
            · rename_i h2
              simp only [Bool.and_eq_true] at h2
              exact ⟨h1.1, h1.2, h2.1.1, h2.1.2, h2.2⟩
            · cases h
          · cases h
theorem Qhs (r : List UInt8) (k : Nat) (h1 : 1 ≤ k) (h4 : k ≤ 4) (hk : k ≤ r.length) : Qbs (r.take k) = true ↔ nxB r = some k := by
  match k, h1, h4, r, hk with
  | 1, _, _, x :: r, _ => exact nx1 x r
  | 2, _, _, x :: y :: r, _ => exact nx2 x y r
  | 3, _, _, x :: y :: z :: r, _ => exact nx3 x y z r
  | 4, _, _, x :: y :: z :: t :: r, _ => exact nx4 x y z t r
  | 1, _, _, [], h => simp at h
  | 2, _, _, [], h => simp at h
  | 2, _, _, [_], h => simp at h
  | 3, _, _, [], h => simp at h
  | 3, _, _, [_], h => simp at h
  | 3, _, _, [_, _], h => simp at h
  | 4, _, _, [], h => simp at h
  | 4, _, _, [_], h => simp at h
  | 4, _, _, [_, _], h => simp at h
  | 4, _, _, [_, _, _], h => simp at h
  | k + 5, _, h, _, _ => omega
theorem Qjj (b : List UInt8) (a : Int) (k : Int) (ha : 0 ≤ a) (hk : 0 ≤ k) : cut8 b a (a + k) = (b.drop a.toNat).take k.toNat := by
  unfold cut8
  congr 1
  omega
def Wec (b : List UInt8) (a : Int) (p : Int × Int) : Prop :=
  1 ≤ p.2 ∧ p.2 ≤ 4 ∧ a + p.2 ≤ b.length ∧ ((nxB (b.drop a.toNat) = some p.2.toNat ∧ p.1 = Qdv ((b.drop a.toNat).take p.2.toNat)) ∨ (nxB (b.drop a.toNat) = none ∧ p.1 = 65533))
section
variable (b : List UInt8) (a : Int) (ha : 0 ≤ a ∧ a < b.length)
include ha
theorem Qht (hn : nxB (b.drop a.toNat) = none) : ∀ (f : Nat) (s : Int), s ≤ 4 → Wec b a (fir1 b a f s)
  | 0, s, hs => ⟨by show (1 : Int) ≤ 1; decide, by show (1 : Int) ≤ 4; decide, by show a + 1 ≤ _; omega, .inr ⟨hn, rfl⟩⟩
  | f + 1, s, hs => by
    unfold fir1
    split
    · split
      · split
        · exact ⟨by show 1 ≤ s; omega, hs, by show a + s ≤ _; omega, .inr ⟨hn, rfl⟩⟩
        · exact Qht hn f (s - 1) (by omega)
      · exact Qht hn f (s - 1) (by omega)
    · exact ⟨by decide, by decide, by show a + 1 ≤ _; omega, .inr ⟨hn, rfl⟩⟩
theorem Qwx (h : ∀ j : Int, 1 ≤ j → j ≤ 4 → a + j ≤ b.length → Qbs (cut8 b a (a + j)) = false) : nxB (b.drop a.toNat) = none := by
  cases hx : nxB (b.drop a.toNat) with
  | none => rfl
  | some k =>
    have hl := Qww hx
    have h2 := (Qhs _ k hl.1 hl.2.1 hl.2.2).2 hx
    rw [List.length_drop] at hl
    have h3 := h k (by omega) (by omega) (by omega)
    rw [Qjj b a k ha.1 (by omega), Int.toNat_natCast, h2] at h3
    cases h3
theorem Qoi : ∀ (f : Nat) (s : Int), 5 - s = f → 1 ≤ s → (∀ j : Int, 1 ≤ j → j < s → a + j ≤ b.length → Qbs (cut8 b a (a + j)) = false) → Wec b a (fir0 b a f s)
  | 0, s, hf, hs, hp => by
    unfold fir0
    exact Qht b a ha (Qwx b a ha fun j h1 h2 h3 => hp j h1 (by omega) h3) 3 3 (by omega)
  | f + 1, s, hf, hs, hp => by
    unfold fir0
    rw [if_pos (by omega)]
    by_cases c2 : a + s ≤ b.length
    · rw [if_pos c2]
      cases c3 : Qbs (cut8 b a (a + s)) with
      | true =>
        rw [if_pos rfl]
        refine ⟨hs, by show s ≤ 4; omega, c2, .inl ⟨?_, ?_⟩⟩
        · rw [Qjj b a s ha.1 (by omega)] at c3
          exact (Qhs _ s.toNat (by omega) (by omega) (by rw [List.length_drop]; omega)).1 c3
        · show Qdv _ = _
          rw [Qjj b a s ha.1 (by omega)]
      | false =>
        rw [if_neg (by decide)]
        refine Qoi f (s + 1) (by omega) (by omega) fun j h1 h2 h3 => ?_
        by_cases e : j = s
        · rw [e]; exact c3
        · exact hp j h1 (by omega) h3
    · rw [if_neg c2]
      refine Qht b a ha (Qwx b a ha fun j h1 h2 h3 => ?_) 3 3 (by omega)
      exact hp j h1 (by omega) h3
theorem Qwy : Wec b a (firS b a) := Qoi b a ha 4 1 (by omega) (by omega) fun j h1 h2 => by omega
end
def Qdj : Nat → List UInt8 → Bool
  | 0, r => true
  | f + 1, r => if r.isEmpty then true else match nxB r with | none => false | some k => Qdj f (r.drop k)
def Qk5 : Nat → List UInt8 → Bool
  | 0, r => true
  | f + 1, r => if r.isEmpty then true else if r.headD 0 = 0 then false else match nxB r with | none => false | some k => Qk5 f (r.drop k)
def nozB (b : List UInt8) : Bool := b.all fun x => decide (x ≠ 0)
def Qcn (b : List UInt8) : Bool := nozB b && Qdj b.length b
theorem Qrv {y : UInt8} (h : conB y = true) : decide (y ≠ 0) = true := by
  have := Qd3.1 h
  rw [decide_eq_true_eq]
  rintro rfl
  exact absurd this.1 (by decide)
theorem Wbi {x y : UInt8} (h : secB x y = true) : decide (y ≠ 0) = true := by
  have := (Qji.1 h).1
  rw [decide_eq_true_eq]
  rintro rfl
  revert this
  split
  · intro h; exact absurd h (by decide)
  · split
    · intro h; exact absurd h (by decide)
    · intro h; exact absurd h (by decide)
theorem Wj7 {x : UInt8} (h : ¬ x.toNat < 128) : decide (x ≠ 0) = true := by
  rw [decide_eq_true_eq]
  rintro rfl
  exact h (by decide)
theorem Qz3 {r : List UInt8} {k : Nat} (h : nxB r = some k) : nozB r = (decide (r.headD 0 ≠ 0) && nozB (r.drop k)) := by
  unfold nxB at h
  split at h
  · cases h
  · rename_i x r
    show (decide (x ≠ 0) && nozB r) = _
    split at h
    · cases h; rfl
    · rename_i hx
      have hxx := Wj7 hx
      show (decide (x ≠ 0) && nozB r) = (decide (x ≠ 0) && _)
      rw [hxx, Bool.true_and, Bool.true_and]
      split at h
      · split at h
        · split at h
          · rename_i y r' hy
            cases h
            show (decide (y ≠ 0) && nozB r') = nozB r'
            rw [Qrv hy, Bool.true_and]
          · cases h
        · cases h
      · split at h
        · split at h
          · split at h
            · rename_i y z r' hy
              cases h
              simp only [Bool.and_eq_true] at hy
              show (decide (y ≠ 0) && (decide (z ≠ 0) && nozB r')) = nozB r'
              rw [Wbi hy.1, Qrv hy.2, Bool.true_and, Bool.true_and]
            · cases h
          · cases h
        · split at h
          · split at h
            · split at h
              · rename_i y z t r' hy
                cases h
                simp only [Bool.and_eq_true] at hy
                show (decide (y ≠ 0) && (decide (z ≠ 0) && (decide (t ≠ 0) && nozB r'))) = nozB r'
                rw [Wbi hy.1.1, Qrv hy.1.2, Qrv hy.2, Bool.true_and, Bool.true_and, Bool.true_and]
              · cases h
            · cases h
          · cases h
theorem Qrw : ∀ (f : Nat) (r : List UInt8), r.length ≤ f → Qk5 f r = (nozB r && Qdj f r)
  | 0, r, h => by
    have : r = [] := List.length_eq_zero_iff.1 (by omega)
    subst this
    rfl
  | f + 1, r, h => by
    unfold Qk5 Qdj
    cases r with
    | nil => rfl
    | cons x r =>
      show (if (x :: r).headD 0 = 0 then false else match nxB (x :: r) with | none => false | some k => Qk5 f ((x :: r).drop k)) = (nozB (x :: r) && match nxB (x :: r) with | none => false | some k => Qdj f ((x :: r).drop k))
      cases hn : nxB (x :: r) with
      | none =>
        simp only [Bool.and_false]
        split <;> rfl
      | some k =>
        have hl := Qww hn
        simp only
        rw [Qz3 hn, Qrw f _ (by rw [List.length_drop, List.length_cons]; simp at h; omega)]
        by_cases hx : (x :: r).headD 0 = 0
        · rw [if_pos hx]; simp only [hx]; rfl
        · rw [if_neg hx]; simp only [ne_eq, hx, not_false_eq_true, decide_true, Bool.true_and]
theorem Qmy : ∀ (f : Nat) (r : List UInt8), r.length ≤ f → Qdj (f + 1) r = Qdj f r
  | 0, r, h => by
    have : r = [] := List.length_eq_zero_iff.1 (by omega)
    subst this
    rfl
  | f + 1, r, h => by
    show (if r.isEmpty then true else match nxB r with | none => false | some k => Qdj (f + 1) (r.drop k)) = (if r.isEmpty then true else match nxB r with | none => false | some k => Qdj f (r.drop k))
    split
    · rfl
    · cases hn : nxB r with
      | none => rfl
      | some k =>
        have hl := Qww hn
        exact Qmy f _ (by rw [List.length_drop]; omega)
theorem Qlr : ∀ (d f : Nat) (r : List UInt8), r.length ≤ f → Qdj (f + d) r = Qdj f r
  | 0, f, r, h => rfl
  | d + 1, f, r, h => by rw [show f + (d + 1) = (f + d) + 1 by omega, Qmy _ _ (by omega), Qlr d f r h]
theorem Qwz (f : Nat) (r : List UInt8) (h : r.length ≤ f) : Qdj f r = Qdj r.length r := by
  obtain ⟨d, rfl⟩ := Nat.exists_eq_add_of_le h
  exact Qlr d _ _ (Nat.le_refl _)
theorem Qii {r : List UInt8} (h : r ≠ []) : Qdj r.length r = match nxB r with | none => false | some k => Qdj (r.drop k).length (r.drop k) := by
  cases r with
  | nil => exact absurd rfl h
  | cons x r =>
    show (if (x :: r).isEmpty then true else match nxB (x :: r) with | none => false | some k => Qdj r.length ((x :: r).drop k)) = _
    rw [if_neg (by simp)]
    cases hn : nxB (x :: r) with
    | none => rfl
    | some k =>
      have hl := Qww hn
      simp only
      exact Qwz _ _ (by rw [List.length_drop, List.length_cons]; omega)
theorem Wed {r : List UInt8} {k : Nat} (h : nxB r = some k) : (Qdv (r.take k) = 0 ↔ (r.headD 0 = 0)) := by
  have hl := Qww h
  have hw := (Qhs r k hl.1 hl.2.1 hl.2.2).2 h
  rw [Qek] at hw
  match r, hl with
  | x :: r, hl =>
    show _ ↔ x = 0
    by_cases hk : k = 1
    · subst hk
      show Qdv [x] = 0 ↔ _
      rw [Whk]
      constructor
      · intro e; apply UInt8.toNat_inj.1; show x.toNat = 0; omega
      · intro e; rw [e]; rfl
    · constructor
      · intro e
        rw [e] at hw
        exfalso
        have h2 : (putS 0).length = ((x :: r).take k).length := by rw [hw.2]
        rw [List.length_take] at h2
        have h3 : (putS 0).length = 1 := rfl
        have : min k (x :: r).length = 1 := by omega
        omega
      · intro e
        exfalso
        subst e
        have : nxB (0 :: r) = some 1 := by rw [Qcj, if_pos (by decide)]
        rw [this] at h
        cases h
        exact hk rfl
theorem Whp {r : List UInt8} (h : nxB r = none) (k : Nat) (h1 : 1 ≤ k) (h4 : k ≤ 4) (hk : k ≤ r.length) : Qbs (r.take k) = false := by
  cases hw : Qbs (r.take k) with
  | false => rfl
  | true => rw [(Qhs r k h1 h4 hk).1 hw] at h; cases h
theorem Qls (b : List UInt8) (hb : b.length ≤ 1000000000) : ∀ (f : Nat) (a : Int), 0 ≤ a ∧ a ≤ b.length → b.length - a < f →
    l_Z1u_0 (Mi cx) 0 0 [.sl (Qac b) .no, .int .i64 a] [] = some (.bool (Qk5 f (b.drop a.toNat)), [])
  | 0, a, ha, hf => by omega
  | f + 1, a, ha, hf => by
    rw [u_Z1u_0]
    by_cases c1 : a < b.length
    · have hs := Qwy b a ⟨ha.1, c1⟩
      have h1 := fun σ hσ => Web b hb a ⟨ha.1, c1⟩ σ hσ
      have hl : (b.drop a.toNat).length = b.length - a.toNat := List.length_drop ..
      have hne : (b.drop a.toNat).isEmpty = false := by
        cases hq : b.drop a.toNat with
        | nil => rw [hq] at hl; simp at hl; omega
        | cons x r => rfl
      have hhd : (b.drop a.toNat).headD 0 = b.getD a.toNat 0 := by
        rw [List.headD_eq_head?_getD, List.head?_drop, List.getD_eq_getElem?_getD]
      generalize hp : firS b a = p at hs h1
      obtain ⟨n, s⟩ := p
      obtain ⟨g1, g2, g3, g4⟩ := hs
      simp only at g1 g2 g3 g4 h1
      have hcut := Qjj b a s ha.1 (by omega)
      have h2 : ∀ c, Qba 1 (.sl (Qac b) c) (some (.int .i64 a)) (some (.int .i64 (a + s))) none = some (.sl (Qac (cut8 b a (a + s))) .no) := fun c => Qhq (by omega)
      have hcl := Qmx b a (a + s) (by omega)
      have h3 := fun σ hσ => Qmw (cut8 b a (a + s)) (by omega) σ hσ
      have e0 : Qk5 (f + 1) (b.drop a.toNat) = if b.getD a.toNat 0 = 0 then false else match nxB (b.drop a.toNat) with | none => false | some k => Qk5 f ((b.drop a.toNat).drop k) := by
        show (if (b.drop a.toNat).isEmpty then true else if (b.drop a.toNat).headD 0 = 0 then false else _) = _
        rw [hne, hhd]
        rfl
      rw [e0]
      by_cases c2 : b.getD a.toNat 0 = 0
      · have c3 : ((b.getD a.toNat 0).toNat : Int) = 0 := by rw [c2]; rfl
        rw [if_pos c2]
        simp +contextual -implicitDefEqProofs (disch := first | assumption | omega | (simp -implicitDefEqProofs only [go_sem]; try omega)) only [↓reduceIte, go_sem, iP, iN, w64, w8, w32, b_Z1u_0, h1, c1, c3]
      · have c3 : ¬ ((b.getD a.toNat 0).toNat : Int) = 0 := fun e => c2 (UInt8.toNat_inj.1 (by show _ = 0; omega))
        rw [if_neg c2]
        rcases g4 with ⟨hn, hv⟩ | ⟨hn, hv⟩
        · have hw := (Qhs _ s.toNat (by omega) (by omega) (by omega)).2 hn
          have ht := Wed hn
          rw [hhd, ← hv] at ht
          have c4 : ¬ n = 0 := fun e => c2 (ht.1 e)
          rw [← hcut] at hw
          have ih := Qls b hb f (a + s) (by omega) (by omega)
          rw [hn]
          have e2 : (b.drop a.toNat).drop s.toNat = b.drop (a + s).toNat := by rw [List.drop_drop]; congr 1; omega
          simp only [e2]
          simp +contextual -implicitDefEqProofs (disch := first | assumption | omega | (simp -implicitDefEqProofs only [go_sem]; try omega)) only [↓reduceIte, go_sem, iP, iN, w64, w8, w32, b_Z1u_0, h1, h2, h3, c1, c3, c4, hw, ih]
        · have hw := Whp hn s.toNat (by omega) (by omega) (by omega)
          rw [← hcut] at hw
          rw [hn]
          simp +contextual -implicitDefEqProofs (disch := first | assumption | omega | (simp -implicitDefEqProofs only [go_sem]; try omega)) only [↓reduceIte, go_sem, iP, iN, w64, w8, w32, b_Z1u_0, h1, h2, h3, c1, c3, hw]
    · have e : b.drop a.toNat = [] := List.drop_eq_nil_of_le (by omega)
      rw [e]
      have e2 : Qk5 (f + 1) [] = true := rfl
      rw [e2]
      simp +contextual -implicitDefEqProofs (disch := first | assumption | omega | (simp -implicitDefEqProofs only [go_sem]; try omega)) only [↓reduceIte, go_sem, iP, iN, w64, w8, w32, b_Z1u_0, c1]
theorem Whq (b : List UInt8) (hb : b.length ≤ 1000000000) (σ : Objs) (hσ : Wf σ) : E cx 56 [.sl (Qac b) .no] σ = some (.bool (Qcn b), σ) := by
  refine Qcm Qci ?_ (by rw [Qaf, Qcx]; rfl) rfl σ hσ
  have h := Qls b hb (b.length + 1) 0 (by omega) (by omega)
  have e : Qk5 (b.length + 1) (b.drop (0 : Int).toNat) = Qcn b := by
    show Qk5 _ b = _
    rw [Qrw _ _ (by omega), Qmy _ _ (Nat.le_refl _)]
    rfl
  rw [e] at h
  rw [e_Z1u]
  simp +contextual -implicitDefEqProofs (disch := first | assumption | omega | (simp -implicitDefEqProofs only [go_sem]; try omega)) only [↓reduceIte, go_sem, iP, iN, w64, w8, w32, s_Z1u, h]
end Go.Proofs.YtapnplljnpconaaGreatDoor
