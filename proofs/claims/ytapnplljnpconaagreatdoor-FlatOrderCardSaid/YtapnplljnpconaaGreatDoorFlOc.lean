/- Part of a proof: the small language, and functions of the program on it. -/
import Derived.Test.YtapnplljnpconaaGreatDoorFlOb
import Derived.Test.YtapnplljnpconaaGreatDoorChecked
set_option linter.unusedSimpArgs false
set_option linter.unusedVariables false
set_option linter.unusedSectionVars false
set_option maxRecDepth 100000
namespace Go.Proofs.YtapnplljnpconaaGreatDoor
open Go.Ev
instance (n : Nat) : OfNat Arg n := ⟨.t n⟩
def Yi (n : Int) : Arg := .c (.int .i64 n)
def Yt : Arg := .c (.bool true)
def Yf : Arg := .c (.bool false)
def Ys (l : List UInt8) : Arg := .c (.str l)
def Y0 : V := .int .i64 0
def Yn : V := .str []
def Yb : V := .bool false
def Yv (d : Nat) (x : Arg) : Step := ⟨some d, none, .mv x false⟩
def Yu (d : Nat) (x : Arg) : Step := ⟨some d, none, .mv x true⟩
def Yk (d : Nat) (i : Ins) : Step := ⟨some d, none, i⟩
def Yc (d f : Nat) (xs : List Arg) : Step := ⟨some d, none, .call f xs⟩
def Ya (d o : Nat) (x : Arg) : Step := ⟨some d, none, .faddr o x⟩
def Yl (d : Nat) (ag : Bool) (sz : Nat) (x : Arg) : Step := ⟨some d, none, .load ag sz x⟩
def Yo (d : Nat) (op : BinOp) (k : EqK) (x y : Arg) : Step := ⟨some d, none, .bin op k x y⟩
def Ye (d sz : Nat) (x i : Arg) : Step := ⟨some d, none, .iaddr sz x i⟩
def Yx (d : Nat) (x : Arg) (i : Nat) : Step := ⟨some d, none, .extr x i⟩
def Yh (d : Nat) (x : Arg) : Step := ⟨some d, none, .len x⟩
def Yg (d : Nat) (ag : Bool) (o sz : Nat) (x : Arg) : Step := ⟨some d, none, .field ag o sz x⟩
def Yw (sz : Nat) (p x : Arg) (tk : Bool) : Step := ⟨none, none, .store sz p x tk⟩
def Yq (k : Nat) (l : List Step) (c : Cd) : Cd := .seq (.ops k l) c
def c_Z1n : Ev.Fn := ⟨107, [.tmp 4], false, false, (Yq 0 [Yk 3 (.box 1), Yv 4 Yf] (.seq (Yq 1 [Yc 16 6 [], Yk 17 (.un .not 16)] (.cond 17 (Yq 2 [Yv 4 Yf] .ret) .skip)) (.seq (Yq 3 [Yv 18 0, Yl 19 true 4 3, Yc 20 7 [18, 19, (Yi 100)]] (.cond 20 (Yq 4 [Yv 4 Yt] .ret) .skip)) (Yq 5 [Yv 22 0, Yl 23 true 4 3, Yc 24 8 [22, 23], Yv 21 24, Yx 25 21 0, Yx 26 21 1, Yk 5 (.alloc [.nils, .nils, .nils, .nils, Y0]), Yw 5 5 25 false, Yv 6 26] (.seq (Yq 6 [Yv 27 6, Yo 28 .neq .ifc 27 (.c .nili)] (.cond 28 (Yq 7 [Yv 4 Yt] .ret) .skip)) (Yq 8 [Yv 7 (Yi 0)] (.seq (Yq 9 [Ya 29 1 5, Yl 30 false 1 29, Yh 31 30, Yv 32 (Yi 0)] (.block 0 (.loop [0, 5, 7, 30, 31, 32] [0, 4, 5, 7] (Yq 10 [Yo 33 .lss .no 32 31] (.seq (.cond 33 .skip (.exit 0)) (.seq (.block 1 (Yq 11 [Yv 34 32, Ye 35 3 30 32, Yl 36 true 3 35, Yk 9 (.alloc [Y0, .nils, Yn]), Yv 8 34, Yw 3 9 36 false] (.seq (Yq 12 [Ya 37 0 9, Yl 38 false 1 37, Yv 39 7, Yo 40 .neq .no 38 39, Yv 41 40, ⟨some 42, (some (41, false)), .faddr 1 9⟩, ⟨some 43, (some (41, false)), .load false 1 42⟩, ⟨some 44, (some (41, false)), .len 43⟩, ⟨some 45, (some (41, false)), .bin .eql .no 44 (Yi 0)⟩, Yk 46 (.pick 41 Yt 45)] (.cond 46 (Yq 13 [Yv 4 Yf] .ret) .skip)) (Yq 14 [Yv 47 7, Ya 48 1 9, Yl 49 false 1 48, Yh 50 49, Yo 51 .add .no 47 50, Yv 7 51] (Yq 15 [Ya 52 1 9, Yl 53 false 1 52, Yh 54 53, Yv 55 (Yi 0)] (.block 2 (.loop [0, 5, 7, 8, 30, 31, 32, 53, 54, 55] [0, 4, 5, 7, 30, 31, 32] (Yq 16 [Yo 56 .lss .no 55 54] (.seq (.cond 56 .skip (.exit 2)) (.seq (.block 3 (Yq 17 [Ye 57 2 53 55, Yl 58 true 2 57, Yk 11 (.alloc [Y0, .nils]), Yw 2 11 58 false] (Yq 18 [Ya 59 1 11, Yl 60 false 1 59, Yl 61 true 5 5, Yv 62 8, Yc 63 9 [60, 61, 62], Yk 64 (.un .not 63)] (.cond 64 (Yq 19 [Yv 4 Yf] .ret) .skip)))) (.ops 20 [Yo 65 .add .no 55 (Yi 1), Yv 55 65]))))))))))) (.ops 21 [Yo 66 .add .no 32 (Yi 1), Yv 32 66]))))))) (.seq (Yq 22 [Ya 67 0 5, Yl 68 false 1 67, Yh 69 68, Yv 70 (Yi 0)] (.block 4 (.loop [0, 5, 7, 68, 69, 70] [0, 4, 5, 7] (Yq 23 [Yo 71 .lss .no 70 69] (.seq (.cond 71 .skip (.exit 4)) (.seq (.block 5 (Yq 24 [Yv 72 70, Ye 73 7 68 70, Yl 74 true 7 73, Yk 13 (.alloc [Y0, Yb, Yn, Yn, Y0, Yn, Yb]), Yv 12 72, Yw 7 13 74 false] (Yq 25 [Ya 75 0 5, Yl 76 false 1 75, Yv 77 12, Yk 78 (.cut 7 76 none (some 77) none), Yh 79 78, Yv 80 (Yi 0)] (.block 6 (.loop [0, 5, 7, 13, 68, 69, 70, 78, 79, 80] [0, 4, 5, 7, 68, 69, 70] (Yq 26 [Yo 81 .lss .no 80 79] (.seq (.cond 81 .skip (.exit 6)) (.seq (.block 7 (Yq 27 [Ye 82 7 78 80, Yl 83 true 7 82, Yk 15 (.alloc [Y0, Yb, Yn, Yn, Y0, Yn, Yb]), Yw 7 15 83 false] (Yq 28 [Yl 84 true 7 13, Yl 85 true 7 15, Yo 86 .eql (.agg [.i, .b, .s, .s, .i, .s, .b]) 84 85] (.cond 86 (Yq 29 [Yv 4 Yf] .ret) .skip)))) (.ops 30 [Yo 87 .add .no 80 (Yi 1), Yv 80 87]))))))))) (.ops 31 [Yo 88 .add .no 70 (Yi 1), Yv 70 88]))))))) (Yq 32 [Yv 89 7, Ya 90 4 5, Yl 91 false 1 90, Yo 92 .eql .no 89 91, Yv 93 92, ⟨some 94, (some (93, true)), .faddr 0 5⟩, ⟨some 95, (some (93, true)), .load false 1 94⟩, ⟨some 96, (some (93, true)), .call 10 [95]⟩, ⟨some 97, (some (93, true)), .bin .lss .no 96 (Yi 0)⟩, Yk 98 (.pick 93 97 Yf), Yv 99 98, ⟨some 100, (some (99, true)), .faddr 3 5⟩, ⟨some 101, (some (99, true)), .load false 1 100⟩, ⟨some 102, (some (99, true)), .len 101⟩, ⟨some 103, (some (99, true)), .mv 0 true⟩, ⟨some 104, (some (99, true)), .len 103⟩, ⟨some 105, (some (99, true)), .bin .eql .no 102 104⟩, Yk 106 (.pick 99 105 Yf), Yv 4 106] .ret)))))))))⟩
theorem ok_c_Z1n : Qam Tryz.prog 3 c_Z1n = true := Qad Tryz.func3 (by kernel_rfl)
def j_Z1n_0 (M : Mach) (n0 : Nat) (n1 : Nat) (r1 : Rk) (z0 z4 z5 z7 : V) (σ : Objs) : Ro :=
 bd (fz n1 σ fzD z0) fun y15 =>
 bd (fz n1 σ fzD z4) fun y16 =>
 bd (fz n1 σ fzD z5) fun y17 =>
 bd (fz n1 σ fzD z7) fun y18 =>
 bd (cuO n1 σ) fun s19 =>
 bd (oK false y16) (nK n0 s19)
def b_Z1n_1 (M : Mach) (n0 : Nat) (n1 : Nat) (r1 : Rk) (n2 : Nat) (r2 : Rk) (z0 z5 z7 z8 z30 z31 z32 z53 z54 z55 : V) (σ : Objs) : Ro :=
 bd (pu (eB .lss .no z55.ng z54.ng)) fun x40 =>
  br x40.ng (
 bd (pu (eI 2 z55.ng z53.ng)) fun x41 =>
 bd (pu (eL σ true 2 x41.ng)) fun x42 =>
  let s43 : Objs := σ ++ [.cells [(.int .i64 0), .nils]]
 bd (stV s43 2 (.ptr σ.length 0) x42.ng x42.ng) fun p44 =>
 bd (pu (eF 1 (.ptr σ.length 0))) fun x45 =>
 bd (pu (eL p44.2 false 1 x45.ng)) fun x46 =>
 bd (pu (eL p44.2 true 5 z5.ng)) fun x47 =>
 bd (M.call 9 [x46.ng, x47.ng, z8.ng.ng] p44.2) fun p48 =>
 bd (pu (evUn .not p48.1.ng)) fun x49 =>
  br x49.ng (
 bd (fz n2 p48.2 fzD z0) fun y50 =>
 bd (fz n2 p48.2 fzD (.bool false)) fun y51 =>
 bd (fz n2 p48.2 fzD z5) fun y52 =>
 bd (fz n2 p48.2 fzD z7) fun y53 =>
 bd (fz n2 p48.2 fzD z30) fun y54 =>
 bd (fz n2 p48.2 fzD z31) fun y55 =>
 bd (fz n2 p48.2 fzD z32) fun y56 =>
 bd (cuO n2 p48.2) fun s57 =>
  j_Z1n_0 M n0 n1 r1 y50 y51 y52 y53 s57) (
 bd (pu (eB .add .no z55.ng (.int .i64 1))) fun x58 =>
 bd (fz n2 p48.2 fzD z0) fun y59 =>
 bd (fz n2 p48.2 fzD z5) fun y60 =>
 bd (fz n2 p48.2 fzD z7) fun y61 =>
 bd (fz n2 p48.2 fzD z8) fun y62 =>
 bd (fz n2 p48.2 fzD z30) fun y63 =>
 bd (fz n2 p48.2 fzD z31) fun y64 =>
 bd (fz n2 p48.2 fzD z32) fun y65 =>
 bd (fz n2 p48.2 fzD z53) fun y66 =>
 bd (fz n2 p48.2 fzD z54) fun y67 =>
 bd (fz n2 p48.2 fzD x58.ng) fun y68 =>
 bd (cuO n2 p48.2) fun s69 => r2 [y59, y60, y61, y62, y63, y64, y65, y66, y67, y68] s69)) (
 bd (fz n2 σ fzD z0) fun y70 =>
 bd (fz n2 σ fzD .any) fun y71 =>
 bd (fz n2 σ fzD z5) fun y72 =>
 bd (fz n2 σ fzD z7) fun y73 =>
 bd (fz n2 σ fzD z30) fun y74 =>
 bd (fz n2 σ fzD z31) fun y75 =>
 bd (fz n2 σ fzD z32) fun y76 =>
 bd (cuO n2 σ) fun s77 =>
 bd (pu (eB .add .no y76.ng (.int .i64 1))) fun x78 =>
 bd (fz n1 s77 fzD y70) fun y79 =>
 bd (fz n1 s77 fzD y72) fun y80 =>
 bd (fz n1 s77 fzD y73) fun y81 =>
 bd (fz n1 s77 fzD y74) fun y82 =>
 bd (fz n1 s77 fzD y75) fun y83 =>
 bd (fz n1 s77 fzD x78.ng) fun y84 =>
 bd (cuO n1 s77) fun s85 => r1 [y79, y80, y81, y82, y83, y84] s85)
def l_Z1n_1 (M : Mach) (n0 : Nat) (n1 : Nat) (r1 : Rk) (n2 : Nat) : Rk := M.fx fun rec vs σ => b_Z1n_1 M n0 n1 r1 n2 rec (vs.getD 0 .undef) (vs.getD 1 .undef) (vs.getD 2 .undef) (vs.getD 3 .undef) (vs.getD 4 .undef) (vs.getD 5 .undef) (vs.getD 6 .undef) (vs.getD 7 .undef) (vs.getD 8 .undef) (vs.getD 9 .undef) σ
def b_Z1n_3 (M : Mach) (n0 : Nat) (n1 : Nat) (r1 : Rk) (n2 : Nat) (r2 : Rk) (z0 z5 z7 z13 z68 z69 z70 z78 z79 z80 : V) (σ : Objs) : Ro :=
 bd (pu (eB .lss .no z80.ng z79.ng)) fun x113 =>
  br x113.ng (
 bd (pu (eI 7 z80.ng z78.ng)) fun x114 =>
 bd (pu (eL σ true 7 x114.ng)) fun x115 =>
  let s116 : Objs := σ ++ [.cells [(.int .i64 0), (.bool false), (.str []), (.str []), (.int .i64 0), (.str []), (.bool false)]]
 bd (stV s116 7 (.ptr σ.length 0) x115.ng x115.ng) fun p117 =>
 bd (pu (eL p117.2 true 7 z13.ng)) fun x118 =>
 bd (pu (eL p117.2 true 7 (.ptr σ.length 0))) fun x119 =>
 bd (pu (eB .eql (.agg [.i, .b, .s, .s, .i, .s, .b]) x118.ng x119.ng)) fun x120 =>
  br x120.ng (
 bd (fz n2 p117.2 fzD z0) fun y121 =>
 bd (fz n2 p117.2 fzD (.bool false)) fun y122 =>
 bd (fz n2 p117.2 fzD z5) fun y123 =>
 bd (fz n2 p117.2 fzD z7) fun y124 =>
 bd (fz n2 p117.2 fzD z68) fun y125 =>
 bd (fz n2 p117.2 fzD z69) fun y126 =>
 bd (fz n2 p117.2 fzD z70) fun y127 =>
 bd (cuO n2 p117.2) fun s128 =>
 bd (fz n1 s128 fzD y121) fun y129 =>
 bd (fz n1 s128 fzD y122) fun y130 =>
 bd (fz n1 s128 fzD y123) fun y131 =>
 bd (fz n1 s128 fzD y124) fun y132 =>
 bd (cuO n1 s128) fun s133 =>
 bd (oK false y130) (nK n0 s133)) (
 bd (pu (eB .add .no z80.ng (.int .i64 1))) fun x134 =>
 bd (fz n2 p117.2 fzD z0) fun y135 =>
 bd (fz n2 p117.2 fzD z5) fun y136 =>
 bd (fz n2 p117.2 fzD z7) fun y137 =>
 bd (fz n2 p117.2 fzD z13) fun y138 =>
 bd (fz n2 p117.2 fzD z68) fun y139 =>
 bd (fz n2 p117.2 fzD z69) fun y140 =>
 bd (fz n2 p117.2 fzD z70) fun y141 =>
 bd (fz n2 p117.2 fzD z78) fun y142 =>
 bd (fz n2 p117.2 fzD z79) fun y143 =>
 bd (fz n2 p117.2 fzD x134.ng) fun y144 =>
 bd (cuO n2 p117.2) fun s145 => r2 [y135, y136, y137, y138, y139, y140, y141, y142, y143, y144] s145)) (
 bd (fz n2 σ fzD z0) fun y146 =>
 bd (fz n2 σ fzD .any) fun y147 =>
 bd (fz n2 σ fzD z5) fun y148 =>
 bd (fz n2 σ fzD z7) fun y149 =>
 bd (fz n2 σ fzD z68) fun y150 =>
 bd (fz n2 σ fzD z69) fun y151 =>
 bd (fz n2 σ fzD z70) fun y152 =>
 bd (cuO n2 σ) fun s153 =>
 bd (pu (eB .add .no y152.ng (.int .i64 1))) fun x154 =>
 bd (fz n1 s153 fzD y146) fun y155 =>
 bd (fz n1 s153 fzD y148) fun y156 =>
 bd (fz n1 s153 fzD y149) fun y157 =>
 bd (fz n1 s153 fzD y150) fun y158 =>
 bd (fz n1 s153 fzD y151) fun y159 =>
 bd (fz n1 s153 fzD x154.ng) fun y160 =>
 bd (cuO n1 s153) fun s161 => r1 [y155, y156, y157, y158, y159, y160] s161)
def l_Z1n_3 (M : Mach) (n0 : Nat) (n1 : Nat) (r1 : Rk) (n2 : Nat) : Rk := M.fx fun rec vs σ => b_Z1n_3 M n0 n1 r1 n2 rec (vs.getD 0 .undef) (vs.getD 1 .undef) (vs.getD 2 .undef) (vs.getD 3 .undef) (vs.getD 4 .undef) (vs.getD 5 .undef) (vs.getD 6 .undef) (vs.getD 7 .undef) (vs.getD 8 .undef) (vs.getD 9 .undef) σ
def b_Z1n_2 (M : Mach) (n0 : Nat) (n1 : Nat) (r1 : Rk) (z0 z5 z7 z68 z69 z70 : V) (σ : Objs) : Ro :=
 bd (pu (eB .lss .no z70.ng z69.ng)) fun x104 =>
  br x104.ng (
 bd (pu (eI 7 z70.ng z68.ng)) fun x105 =>
 bd (pu (eL σ true 7 x105.ng)) fun x106 =>
  let s107 : Objs := σ ++ [.cells [(.int .i64 0), (.bool false), (.str []), (.str []), (.int .i64 0), (.str []), (.bool false)]]
 bd (stV s107 7 (.ptr σ.length 0) x106.ng x106.ng) fun p108 =>
 bd (pu (eF 0 z5.ng)) fun x109 =>
 bd (pu (eL p108.2 false 1 x109.ng)) fun x110 =>
 bd (pu (Qba 7 x110.ng none (some z70.ng.ng.ng.ng) none)) fun x111 =>
 bd (pu (Qaq x111.ng)) fun x112 =>
 bd (fz p108.2.length p108.2 fzD z0) fun y162 =>
 bd (fz p108.2.length p108.2 fzD z5) fun y163 =>
 bd (fz p108.2.length p108.2 fzD z7) fun y164 =>
 bd (fz p108.2.length p108.2 fzD (.ptr σ.length 0)) fun y165 =>
 bd (fz p108.2.length p108.2 fzD z68) fun y166 =>
 bd (fz p108.2.length p108.2 fzD z69) fun y167 =>
 bd (fz p108.2.length p108.2 fzD z70) fun y168 =>
 bd (fz p108.2.length p108.2 fzD x111) fun y169 =>
 bd (fz p108.2.length p108.2 fzD x112) fun y170 =>
 bd (fz p108.2.length p108.2 fzD (.int .i64 0)) fun y171 =>
  l_Z1n_3 M n0 n1 r1 p108.2.length [y162, y163, y164, y165, y166, y167, y168, y169, y170, y171] p108.2) (
 bd (fz n1 σ fzD z0) fun y172 =>
 bd (fz n1 σ fzD .any) fun y173 =>
 bd (fz n1 σ fzD z5) fun y174 =>
 bd (fz n1 σ fzD z7) fun y175 =>
 bd (cuO n1 σ) fun s176 =>
 bd (pu (eF 4 y174.ng)) fun x177 =>
 bd (pu (eL s176 false 1 x177.ng)) fun x178 =>
 bd (pu (eB .eql .no y175.ng.ng x178.ng)) fun x179 =>
 bd (gdv x179.ng true (pu (eF 0 y174.ng))) fun x180 =>
 bd (gdv x179.ng true (pu (eL s176 false 1 x180.ng))) fun x181 =>
 bd (gdp x179.ng true (M.call 10 [x181.ng] s176) s176) fun p182 =>
 bd (gdv x179.ng true (pu (eB .lss .no p182.1.ng (.int .i64 0)))) fun x183 =>
 bd (pu (pV x179.ng.ng x183.ng (.bool false))) fun x184 =>
 bd (gdv x184.ng true (pu (eF 3 y174.ng))) fun x185 =>
 bd (gdv x184.ng true (pu (eL p182.2 false 1 x185.ng))) fun x186 =>
 bd (gdv x184.ng true (pu (Qaq x186.ng))) fun x187 =>
  gd x184.ng true (
 bd (gdv x184.ng true (pu (Qaq y172.ng))) fun x188 =>
 bd (gdv x184.ng true (pu (eB .eql .no x187.ng x188.ng))) fun x189 =>
 bd (pu (pV x184.ng.ng x189.ng (.bool false))) fun x190 =>
 bd (oK false x190.ng) (nK n0 p182.2)) (
 bd (gdv x184.ng true (pu (Qaq .undef))) fun x191 =>
 bd (gdv x184.ng true (pu (eB .eql .no x187.ng x191.ng))) fun x192 =>
 bd (pu (pV x184.ng.ng x192.ng (.bool false))) fun x193 =>
 bd (oK false x193.ng) (nK n0 p182.2)))
def l_Z1n_2 (M : Mach) (n0 : Nat) (n1 : Nat) : Rk := M.fx fun rec vs σ => b_Z1n_2 M n0 n1 rec (vs.getD 0 .undef) (vs.getD 1 .undef) (vs.getD 2 .undef) (vs.getD 3 .undef) (vs.getD 4 .undef) (vs.getD 5 .undef) σ
def b_Z1n_0 (M : Mach) (n0 : Nat) (n1 : Nat) (r1 : Rk) (z0 z5 z7 z30 z31 z32 : V) (σ : Objs) : Ro :=
 bd (pu (eB .lss .no z32.ng z31.ng)) fun x20 =>
  br x20.ng (
 bd (pu (eI 3 z32.ng z30.ng)) fun x21 =>
 bd (pu (eL σ true 3 x21.ng)) fun x22 =>
  let s23 : Objs := σ ++ [.cells [(.int .i64 0), .nils, (.str [])]]
 bd (stV s23 3 (.ptr σ.length 0) x22.ng x22.ng) fun p24 =>
 bd (pu (eF 0 (.ptr σ.length 0))) fun x25 =>
 bd (pu (eL p24.2 false 1 x25.ng)) fun x26 =>
 bd (pu (eB .neq .no x26.ng z7.ng.ng)) fun x27 =>
 bd (gdv x27.ng false (pu (eF 1 (.ptr σ.length 0)))) fun x28 =>
 bd (gdv x27.ng false (pu (eL p24.2 false 1 x28.ng))) fun x29 =>
 bd (gdv x27.ng false (pu (Qaq x29.ng))) fun x30 =>
 bd (gdv x27.ng false (pu (eB .eql .no x30.ng (.int .i64 0)))) fun x31 =>
 bd (pu (pV x27.ng.ng (.bool true) x31.ng)) fun x32 =>
  br x32.ng (
  j_Z1n_0 M n0 n1 r1 z0 (.bool false) z5 z7 p24.2) (
 bd (pu (eF 1 (.ptr σ.length 0))) fun x33 =>
 bd (pu (eL p24.2 false 1 x33.ng)) fun x34 =>
 bd (pu (Qaq x34.ng)) fun x35 =>
 bd (pu (eB .add .no z7.ng.ng x35.ng)) fun x36 =>
 bd (pu (eF 1 (.ptr σ.length 0))) fun x37 =>
 bd (pu (eL p24.2 false 1 x37.ng)) fun x38 =>
 bd (pu (Qaq x38.ng)) fun x39 =>
 bd (fz p24.2.length p24.2 fzD z0) fun y86 =>
 bd (fz p24.2.length p24.2 fzD z5) fun y87 =>
 bd (fz p24.2.length p24.2 fzD x36.ng) fun y88 =>
 bd (fz p24.2.length p24.2 fzD z32.ng.ng) fun y89 =>
 bd (fz p24.2.length p24.2 fzD z30) fun y90 =>
 bd (fz p24.2.length p24.2 fzD z31) fun y91 =>
 bd (fz p24.2.length p24.2 fzD z32) fun y92 =>
 bd (fz p24.2.length p24.2 fzD x38) fun y93 =>
 bd (fz p24.2.length p24.2 fzD x39) fun y94 =>
 bd (fz p24.2.length p24.2 fzD (.int .i64 0)) fun y95 =>
  l_Z1n_1 M n0 n1 r1 p24.2.length [y86, y87, y88, y89, y90, y91, y92, y93, y94, y95] p24.2)) (
 bd (fz n1 σ fzD z0) fun y96 =>
 bd (fz n1 σ fzD .any) fun y97 =>
 bd (fz n1 σ fzD z5) fun y98 =>
 bd (fz n1 σ fzD z7) fun y99 =>
 bd (cuO n1 σ) fun s100 =>
 bd (pu (eF 0 y98.ng)) fun x101 =>
 bd (pu (eL s100 false 1 x101.ng)) fun x102 =>
 bd (pu (Qaq x102.ng)) fun x103 =>
 bd (fz s100.length s100 fzD y96) fun y194 =>
 bd (fz s100.length s100 fzD y98) fun y195 =>
 bd (fz s100.length s100 fzD y99) fun y196 =>
 bd (fz s100.length s100 fzD x102) fun y197 =>
 bd (fz s100.length s100 fzD x103) fun y198 =>
 bd (fz s100.length s100 fzD (.int .i64 0)) fun y199 =>
  l_Z1n_2 M n0 s100.length [y194, y195, y196, y197, y198, y199] s100)
def l_Z1n_0 (M : Mach) (n0 : Nat) (n1 : Nat) : Rk := M.fx fun rec vs σ => b_Z1n_0 M n0 n1 rec (vs.getD 0 .undef) (vs.getD 1 .undef) (vs.getD 2 .undef) (vs.getD 3 .undef) (vs.getD 4 .undef) (vs.getD 5 .undef) σ
def s_Z1n (M : Mach) (a0 a1 : V) (σ : Objs) : Ro :=
 bd (boxV σ a1.ng) fun p0 =>
 bd (M.call 6 [] p0.2) fun p1 =>
 bd (pu (evUn .not p1.1.ng)) fun x2 =>
  br x2.ng (
 bd (oK false (.bool false)) (nK σ.length p1.2)) (
 bd (pu (eL p1.2 true 4 p0.1.ng)) fun x3 =>
 bd (M.call 7 [a0.ng.ng, x3.ng, (.int .i64 100)] p1.2) fun p4 =>
  br p4.1.ng (
 bd (oK false (.bool true)) (nK σ.length p4.2)) (
 bd (pu (eL p4.2 true 4 p0.1.ng)) fun x5 =>
 bd (M.call 8 [a0.ng.ng, x5.ng] p4.2) fun p6 =>
 bd (pu (eX 0 p6.1.ng.ng)) fun x7 =>
 bd (pu (eX 1 p6.1.ng.ng)) fun x8 =>
  let s9 : Objs := p6.2 ++ [.cells [.nils, .nils, .nils, .nils, (.int .i64 0)]]
 bd (stV s9 5 (.ptr p6.2.length 0) x7.ng x7.ng) fun p10 =>
 bd (pu (eB .neq .ifc x8.ng.ng.ng .nili)) fun x11 =>
  br x11.ng (
 bd (oK false (.bool true)) (nK σ.length p10.2)) (
 bd (pu (eF 1 (.ptr p6.2.length 0))) fun x12 =>
 bd (pu (eL p10.2 false 1 x12.ng)) fun x13 =>
 bd (pu (Qaq x13.ng)) fun x14 =>
 bd (fz p10.2.length p10.2 fzD a0) fun y200 =>
 bd (fz p10.2.length p10.2 fzD (.ptr p6.2.length 0)) fun y201 =>
 bd (fz p10.2.length p10.2 fzD (.int .i64 0)) fun y202 =>
 bd (fz p10.2.length p10.2 fzD x13) fun y203 =>
 bd (fz p10.2.length p10.2 fzD x14) fun y204 =>
 bd (fz p10.2.length p10.2 fzD (.int .i64 0)) fun y205 =>
  l_Z1n_0 M σ.length p10.2.length [y200, y201, y202, y203, y204, y205] p10.2)))
theorem k_Z1n (M : Mach) (a0 a1 : V) (σ : Objs) : fnK M c_Z1n [a0, a1] σ = s_Z1n M a0 a1 σ := by kernel_rfl
def c_Z1q : Ev.Fn := ⟨50, [.tmp 0], false, false, (Yq 0 [Yv 0 Yf] (Yq 1 [Yk 7 (.buildG false 1 13 (.int .u8 0) [(0, (.c (.int .u8 97))), (1, (.c (.int .u8 32))), (2, (.c (.int .u8 62))), (3, (.c (.int .u8 32))), (4, (.c (.int .u8 46))), (5, (.c (.int .u8 120))), (6, (.c (.int .u8 58))), (7, (.c (.int .u8 110))), (8, (.c (.int .u8 111))), (9, (.c (.int .u8 116))), (10, (.c (.int .u8 40))), (11, (.c (.int .u8 98))), (12, (.c (.int .u8 41)))]), Yk 8 (.mark 7), Yk 9 (.build [Yb, Yn, .nils, .nils] []), Yc 10 26 [8, 9], Yv 6 10, Yx 11 6 0, Yx 12 6 1, Yx 13 6 2, Yv 1 11, Yv 2 12, Yv 3 13] (Yq 2 [Yv 15 1, Yk 16 (.buildSl false 1 1 .nils [(0, 15)] false), Yk 17 (.build [Yb, Yn, .nils, .nils] []), Yc 18 8 [16, 17], Yv 14 18, Yx 19 14 0, Yx 20 14 1, Yk 4 (.alloc [.nils, .nils, .nils, .nils, Y0]), Yw 5 4 19 false, Yv 5 20] (Yq 3 [Yv 21 2, Yo 22 .eql .no 21 (Yi 0), Yv 23 22, ⟨some 24, (some (23, true)), .mv 5 false⟩, ⟨some 25, (some (23, true)), .bin .eql .ifc 24 (.c .nili)⟩, Yk 26 (.pick 23 25 Yf), Yv 27 26, ⟨some 28, (some (27, true)), .faddr 1 4⟩, ⟨some 29, (some (27, true)), .load false 1 28⟩, ⟨some 30, (some (27, true)), .len 29⟩, ⟨some 31, (some (27, true)), .bin .eql .no 30 (Yi 2)⟩, Yk 32 (.pick 27 31 Yf), Yv 33 32, ⟨some 34, (some (33, true)), .faddr 4 4⟩, ⟨some 35, (some (33, true)), .load false 1 34⟩, ⟨some 36, (some (33, true)), .bin .eql .no 35 (Yi 3)⟩, Yk 37 (.pick 33 36 Yf), Yv 38 37, ⟨some 39, (some (38, true)), .faddr 0 4⟩, ⟨some 40, (some (38, true)), .load false 1 39⟩, ⟨some 41, (some (38, true)), .len 40⟩, ⟨some 42, (some (38, true)), .bin .eql .no 41 (Yi 3)⟩, Yk 43 (.pick 38 42 Yf), Yv 44 43, ⟨some 45, (some (44, true)), .load true 5 4⟩, ⟨some 46, (some (44, true)), .call 21 [45]⟩, ⟨some 47, (some (44, true)), .buildSl false 1 3 Y0 [(0, (Yi 0)), (1, (Yi 2)), (2, (Yi 0))] false⟩, ⟨some 48, (some (44, true)), .call 13 [46, 47]⟩, Yk 49 (.pick 44 48 Yf), Yv 0 49] .ret))))⟩
theorem ok_c_Z1q : Qam Tryz.prog 6 c_Z1q = true := Qad Tryz.func6 (by kernel_rfl)
def c_Z1o : Ev.Fn := ⟨26, [.tmp 6], false, false, (Yq 0 [Yk 4 (.box 1), Yv 6 Yf] (.seq (Yq 1 [Yv 9 0, Yh 10 9, Yo 11 .gtr .no 10 (Yi 4), Yv 12 11, ⟨some 13, (some (12, false)), .load true 4 4⟩, ⟨some 14, (some (12, false)), .call 27 [13]⟩, Yk 15 (.pick 12 Yt 14)] (.cond 15 (Yq 2 [Yv 6 Yt] .ret) .skip)) (.seq (Yq 3 [Yu 16 0, Yh 17 16, Yv 18 (Yi 0)] (.block 0 (.loop [2, 16, 17, 18] [6] (Yq 4 [Yo 19 .lss .no 18 17] (.seq (.cond 19 .skip (.exit 0)) (.seq (.block 1 (Yq 5 [Ye 20 1 16 18, Yl 21 false 1 20, Yu 8 21] (Yq 6 [Yu 22 8, Yv 23 2, Yc 24 28 [22, 23]] (.cond 24 (Yq 7 [Yv 6 Yt] .ret) .skip)))) (.ops 8 [Yo 25 .add .no 18 (Yi 1), Yv 18 25]))))))) (Yq 9 [Yv 6 Yf] .ret))))⟩
theorem ok_c_Z1o : Qam Tryz.prog 7 c_Z1o = true := Qad Tryz.func7 (by kernel_rfl)
def b_Z1o_0 (M : Mach) (n0 : Nat) (n1 : Nat) (r1 : Rk) (z2 z16 z17 z18 : V) (σ : Objs) : Ro :=
 bd (pu (eB .lss .no z18.ng z17.ng)) fun x7 =>
  br x7.ng (
 bd (pu (eI 1 z18.ng z16.ng)) fun x8 =>
 bd (pu (eL σ false 1 x8.ng)) fun x9 =>
 bd (M.call 28 [x9.ng, z2.ng.ng] σ) fun p10 =>
  br p10.1.ng (
 bd (fz n1 p10.2 fzD (.bool true)) fun y11 =>
 bd (cuO n1 p10.2) fun s12 =>
 bd (oK false y11) (nK n0 s12)) (
 bd (pu (eB .add .no z18.ng (.int .i64 1))) fun x13 =>
 bd (fz n1 p10.2 fzD z2) fun y14 =>
 bd (fz n1 p10.2 fzD z16) fun y15 =>
 bd (fz n1 p10.2 fzD z17) fun y16 =>
 bd (fz n1 p10.2 fzD x13.ng) fun y17 =>
 bd (cuO n1 p10.2) fun s18 => r1 [y14, y15, y16, y17] s18)) (
 bd (fz n1 σ fzD .any) fun y19 =>
 bd (cuO n1 σ) fun s20 =>
 bd (oK false (.bool false)) (nK n0 s20))
def l_Z1o_0 (M : Mach) (n0 : Nat) (n1 : Nat) : Rk := M.fx fun rec vs σ => b_Z1o_0 M n0 n1 rec (vs.getD 0 .undef) (vs.getD 1 .undef) (vs.getD 2 .undef) (vs.getD 3 .undef) σ
def s_Z1o (M : Mach) (a0 a1 a2 : V) (σ : Objs) : Ro :=
 bd (boxV σ a1.ng) fun p0 =>
 bd (pu (Qaq a0.ng.ng)) fun x1 =>
 bd (pu (eB .gtr .no x1.ng (.int .i64 4))) fun x2 =>
 bd (gdv x2.ng false (pu (eL p0.2 true 4 p0.1.ng))) fun x3 =>
 bd (gdp x2.ng false (M.call 27 [x3.ng] p0.2) p0.2) fun p4 =>
 bd (pu (pV x2.ng.ng (.bool true) p4.1.ng)) fun x5 =>
  br x5.ng (
 bd (oK false (.bool true)) (nK σ.length p4.2)) (
 bd (pu (Qaq a0.ng)) fun x6 =>
 bd (fz p4.2.length p4.2 fzD a2) fun y21 =>
 bd (fz p4.2.length p4.2 fzD a0) fun y22 =>
 bd (fz p4.2.length p4.2 fzD x6) fun y23 =>
 bd (fz p4.2.length p4.2 fzD (.int .i64 0)) fun y24 =>
  l_Z1o_0 M σ.length p4.2.length [y21, y22, y23, y24] p4.2)
theorem k_Z1o (M : Mach) (a0 a1 a2 : V) (σ : Objs) : fnK M c_Z1o [a0, a1, a2] σ = s_Z1o M a0 a1 a2 σ := by kernel_rfl
def c_Z10 : Ev.Fn := ⟨55, [.cell 4 true 5, .tmp 5], false, false, (Yq 0 [Yk 3 (.box 1), Yk 4 (.alloc [.nils, .nils, .nils, .nils, Y0]), Yv 5 (.c .nili)] (.seq (Yq 1 [Yl 11 true 4 3, Yc 12 29 [11], Yv 6 12] (Yq 2 [Yv 13 6, Yo 14 .neq .ifc 13 (.c .nili)] (.cond 14 (Yq 3 [Yk 15 (.build [.nils, .nils, .nils, .nils, Y0] []), Yv 16 6, Yw 5 4 15 false, Yv 5 16] .ret) .skip))) (Yq 4 [Yl 17 true 4 3, Yk 18 (.build [Yb, Yn, .nils, .nils, .nils, .nils, .nils, .nils, Y0] [(0, 4, 17)]), Yk 19 (.box 18), Yv 7 19] (.seq (Yq 5 [Yu 20 0, Yh 21 20, Yv 22 (Yi 0)] (.block 0 (.loop [3, 4, 7, 20, 21, 22] [4, 5, 7] (Yq 6 [Yo 23 .lss .no 22 21] (.seq (.cond 23 .skip (.exit 0)) (.seq (.block 1 (Yq 7 [Yv 24 22, Ye 25 1 20 22, Yl 26 false 1 25, Yv 8 24, Yu 9 26] (.seq (Yq 8 [Yv 27 9, Yl 28 true 4 3, Yc 29 30 [27, 28], Yv 10 29] (Yq 9 [Yv 30 10, Yo 31 .neq .ifc 30 (.c .nili)] (.cond 31 (Yq 10 [Yk 32 (.build [.nils, .nils, .nils, .nils, Y0] []), Yv 33 8, Yv 34 10, Yc 35 31 [(Yi 1), 33, 34], Yw 5 4 32 false, Yv 5 35] .ret) .skip))) (.drw 11 [⟨Yv 36 7, 0, []⟩, ⟨Yv 37 7, 1, []⟩, ⟨Yk 38 (.nilc 37), 2, []⟩, ⟨Ya 39 4 38, 3, []⟩, ⟨Ya 40 3 39, 4, []⟩, ⟨Yk 41 (.loadT 40), 5, []⟩, ⟨Yv 42 7, 6, []⟩, ⟨Yu 43 9, 7, []⟩, ⟨Yc 44 32 [42, 43], 8, [5]⟩, ⟨Yk 45 (.buildSl false 1 1 .nils [(0, 44)] false), 9, []⟩, ⟨Yk 46 (.app false false 1 24 41 45 true), 10, []⟩, ⟨Yk 47 (.nilc 36), 11, []⟩, ⟨Ya 48 4 47, 12, []⟩, ⟨Ya 49 3 48, 13, []⟩, ⟨Yw 1 49 46 true, 14, []⟩])))) (.ops 12 [Yo 50 .add .no 22 (Yi 1), Yv 22 50]))))))) (Yq 13 [Yv 51 7, Yk 52 (.nilc 51), Ya 53 4 52, Yl 54 true 5 53, Yw 5 4 54 false, Yv 5 (.c .nili)] .ret)))))⟩
theorem ok_c_Z10 : Qam Tryz.prog 8 c_Z10 = true := Qad Tryz.func8 (by kernel_rfl)
def b_Z10_0 (M : Mach) (n0 : Nat) (n1 : Nat) (r1 : Rk) (z3 z4 z7 z20 z21 z22 : V) (σ : Objs) : Ro :=
 bd (pu (eB .lss .no z22.ng z21.ng)) fun x12 =>
  br x12.ng (
 bd (pu (eI 1 z22.ng z20.ng)) fun x13 =>
 bd (pu (eL σ false 1 x13.ng)) fun x14 =>
 bd (pu (eL σ true 4 z3.ng)) fun x15 =>
 bd (M.call 30 [x14.ng.ng, x15.ng] σ) fun p16 =>
 bd (pu (eB .neq .ifc p16.1.ng.ng.ng .nili)) fun x17 =>
  br x17.ng (
 bd (pu (Qa2 [.nils, .nils, .nils, .nils, (.int .i64 0)] [])) fun x18 =>
 bd (M.call 31 [(.int .i64 1), z22.ng.ng.ng.ng, p16.1.ng.ng.ng] p16.2) fun p19 =>
 bd (stV p19.2 5 z4.ng x18.ng x18.ng) fun p20 =>
 bd (fz n1 p20.2 fzD z4) fun y21 =>
 bd (fz n1 p20.2 fzD p19.1.ng) fun y22 =>
 bd (fz n1 p20.2 fzD z7) fun y23 =>
 bd (cuO n1 p20.2) fun s24 =>
 bd (resC s24 true 5 y21) fun x25 =>
  nK n0 s24 (.tup [x25.ng, y22.ng])) (
 bd (pu (Qa8 z7.ng.ng)) fun x26 =>
 bd (pu (eF 4 x26.ng)) fun x27 =>
 bd (pu (eF 3 x27.ng)) fun x28 =>
 bd (Qcv p16.2 x28.ng) fun p29 =>
 bd (Qj4 [Qct p16.2 x28.ng] p29.2) fun s30 =>
 bd (M.call 32 [z7.ng.ng, x14.ng] s30) fun p32 =>
 bd (Qgx [Qct p16.2 x28.ng] p29.2 p32.2) fun s31 =>
 bd (Qax false 1 1 .nils [(0, p32.1.ng)]) fun x33 =>
 bd (appV false false 1 24 s31 p29.1 x33.ng) fun x34 =>
 bd (pu (Qa8 z7.ng.ng)) fun x35 =>
 bd (pu (eF 4 x35.ng)) fun x36 =>
 bd (pu (eF 3 x36.ng)) fun x37 =>
 bd (stV s31 1 x37.ng x34.ng x34) fun p38 =>
 bd (pu (eB .add .no z22.ng (.int .i64 1))) fun x39 =>
 bd (fz n1 p38.2 fzD z3) fun y40 =>
 bd (fz n1 p38.2 fzD z4) fun y41 =>
 bd (fz n1 p38.2 fzD z7) fun y42 =>
 bd (fz n1 p38.2 fzD z20) fun y43 =>
 bd (fz n1 p38.2 fzD z21) fun y44 =>
 bd (fz n1 p38.2 fzD x39.ng) fun y45 =>
 bd (cuO n1 p38.2) fun s46 => r1 [y40, y41, y42, y43, y44, y45] s46)) (
 bd (fz n1 σ fzD z4) fun y47 =>
 bd (fz n1 σ fzD .any) fun y48 =>
 bd (fz n1 σ fzD z7) fun y49 =>
 bd (cuO n1 σ) fun s50 =>
 bd (pu (Qa8 y49.ng.ng)) fun x51 =>
 bd (pu (eF 4 x51.ng)) fun x52 =>
 bd (pu (eL s50 true 5 x52.ng)) fun x53 =>
 bd (stV s50 5 y47.ng x53.ng x53.ng) fun p54 =>
 bd (resC p54.2 true 5 y47) fun x55 =>
  nK n0 p54.2 (.tup [x55.ng, .nili]))
def l_Z10_0 (M : Mach) (n0 : Nat) (n1 : Nat) : Rk := M.fx fun rec vs σ => b_Z10_0 M n0 n1 rec (vs.getD 0 .undef) (vs.getD 1 .undef) (vs.getD 2 .undef) (vs.getD 3 .undef) (vs.getD 4 .undef) (vs.getD 5 .undef) σ
def s_Z10 (M : Mach) (a0 a1 : V) (σ : Objs) : Ro :=
 bd (boxV σ a1.ng) fun p0 =>
  let s1 : Objs := p0.2 ++ [.cells [.nils, .nils, .nils, .nils, (.int .i64 0)]]
 bd (pu (eL s1 true 4 p0.1.ng)) fun x2 =>
 bd (M.call 29 [x2.ng] s1) fun p3 =>
 bd (pu (eB .neq .ifc p3.1.ng.ng.ng .nili)) fun x4 =>
  br x4.ng (
 bd (pu (Qa2 [.nils, .nils, .nils, .nils, (.int .i64 0)] [])) fun x5 =>
 bd (stV p3.2 5 (.ptr p0.2.length 0) x5.ng x5.ng) fun p6 =>
 bd (resC p6.2 true 5 (.ptr p0.2.length 0)) fun x7 =>
  nK σ.length p6.2 (.tup [x7.ng, p3.1.ng.ng.ng.ng])) (
 bd (pu (eL p3.2 true 4 p0.1.ng)) fun x8 =>
 bd (pu (Qa2 [(.bool false), (.str []), .nils, .nils, .nils, .nils, .nils, .nils, (.int .i64 0)] [(0, 4, x8.ng)])) fun x9 =>
 bd (boxV p3.2 x9.ng) fun p10 =>
 bd (pu (Qaq a0.ng)) fun x11 =>
 bd (fz p10.2.length p10.2 fzD p0.1) fun y56 =>
 bd (fz p10.2.length p10.2 fzD (.ptr p0.2.length 0)) fun y57 =>
 bd (fz p10.2.length p10.2 fzD p10.1.ng) fun y58 =>
 bd (fz p10.2.length p10.2 fzD a0) fun y59 =>
 bd (fz p10.2.length p10.2 fzD x11) fun y60 =>
 bd (fz p10.2.length p10.2 fzD (.int .i64 0)) fun y61 =>
  l_Z10_0 M σ.length p10.2.length [y56, y57, y58, y59, y60, y61] p10.2)
theorem k_Z10 (M : Mach) (a0 a1 : V) (σ : Objs) : fnK M c_Z10 [a0, a1] σ = s_Z10 M a0 a1 σ := by kernel_rfl
def c_Z1p : Ev.Fn := ⟨101, [.tmp 6], false, false, (Yq 0 [Yk 4 (.box 1), Yv 6 Yf] (.seq (Yq 1 [Yu 12 0, Yh 13 12, Yv 14 (Yi 0)] (.block 0 (.loop [2, 4, 12, 13, 14] [6] (Yq 2 [Yo 15 .lss .no 14 13] (.seq (.cond 15 .skip (.exit 0)) (.seq (.block 1 (Yq 3 [Ye 16 3 12 14, Yl 17 true 3 16, Yk 8 (.alloc [Y0, Y0, .nils]), Yw 3 8 17 false] (Yq 4 [Yv 9 Yf] (.seq (Yq 5 [Ya 18 0 8, Yl 19 false 1 18] (.block 2 (Yq 6 [Yo 21 .eql .no 19 (Yi 1), Yv 20 21] (.cond 20 (.ops 7 [Ya 22 1 8, Yl 23 false 1 22, Yo 24 .geq .no 23 (Yi 0), Yv 25 24, ⟨some 26, (some (25, true)), .faddr 1 8⟩, ⟨some 27, (some (25, true)), .load false 1 26⟩, ⟨some 28, (some (25, true)), .faddr 0 4⟩, ⟨some 29, (some (25, true)), .load false 1 28⟩, ⟨some 30, (some (25, true)), .len 29⟩, ⟨some 31, (some (25, true)), .bin .lss .no 27 30⟩, Yk 32 (.pick 25 31 Yf), Yv 9 32]) (Yq 8 [Yo 34 .eql .no 19 (Yi 2), Yv 33 34] (.cond 33 (.ops 9 [Ya 35 1 8, Yl 36 false 1 35, Yo 37 .geq .no 36 (Yi 0), Yv 38 37, ⟨some 39, (some (38, true)), .faddr 1 8⟩, ⟨some 40, (some (38, true)), .load false 1 39⟩, ⟨some 41, (some (38, true)), .mv 2 false⟩, ⟨some 42, (some (38, true)), .bin .lss .no 40 41⟩, Yk 43 (.pick 38 42 Yf), Yv 9 43]) (Yq 10 [Yo 45 .eql .no 19 (Yi 3), Yv 44 45] (.cond 44 (.ops 11 [Ya 46 2 8, Yl 47 false 1 46, Yh 48 47, Yo 49 .eql .no 48 (Yi 1), Yv 9 49]) (Yq 12 [Yo 51 .eql .no 19 (Yi 5), Yv 50 51] (.cond 50 (Yq 13 [Ya 52 1 8, Yl 53 false 1 52, Yo 54 .geq .no 53 (Yi 0), Yv 55 54, ⟨some 56, (some (55, true)), .faddr 1 8⟩, ⟨some 57, (some (55, true)), .load false 1 56⟩, ⟨some 58, (some (55, true)), .faddr 2 4⟩, ⟨some 59, (some (55, true)), .load false 1 58⟩, ⟨some 60, (some (55, true)), .len 59⟩, ⟨some 61, (some (55, true)), .bin .lss .no 57 60⟩, Yk 62 (.pick 55 61 Yf), Yv 9 62] (Yq 14 [Ya 63 2 4, Yl 64 false 1 63, Ya 65 1 8, Yl 66 false 1 65, Ye 67 3 64 66, Ya 68 2 67, Yl 69 false 1 68, Yh 70 69, Yv 71 (Yi 0)] (.block 3 (.loop [2, 4, 8, 9, 12, 13, 14, 69, 70, 71] [2, 4, 6, 8, 9, 12, 13, 14] (Yq 15 [Yo 72 .lss .no 71 70] (.seq (.cond 72 .skip (.exit 3)) (.seq (.block 4 (Yq 16 [Ye 73 1 69 71, Yl 74 false 1 73, Yv 11 74] (.ops 17 [Yv 75 9, Yv 76 75, ⟨some 77, (some (76, true)), .mv 11 false⟩, ⟨some 78, (some (76, true)), .bin .geq .no 77 (Yi 0)⟩, Yk 79 (.pick 76 78 Yf), Yv 80 79, ⟨some 81, (some (80, true)), .mv 11 false⟩, ⟨some 82, (some (80, true)), .mv 2 false⟩, ⟨some 83, (some (80, true)), .bin .lss .no 81 82⟩, Yk 84 (.pick 80 83 Yf), Yv 9 84]))) (.ops 18 [Yo 85 .add .no 71 (Yi 1), Yv 71 85])))))))) (.seq (Yq 19 [Yo 87 .eql .no 19 (Yi 4), Yv 86 87] (.cond 86 .skip (Yq 20 [Yo 88 .eql .no 19 (Yi 6), Yv 86 88] (.cond 86 .skip (.ops 21 [Yo 89 .eql .no 19 (Yi 7), Yv 86 89]))))) (.cond 86 (.ops 22 [Yv 9 Yt]) .skip)))))))))))) (Yq 23 [Yv 90 9, Yk 91 (.un .not 90), Yv 92 91, ⟨some 93, (some (92, false)), .faddr 2 8⟩, ⟨some 94, (some (92, false)), .load false 1 93⟩, ⟨some 95, (some (92, false)), .load true 5 4⟩, ⟨some 96, (some (92, false)), .mv 2 false⟩, ⟨some 97, (some (92, false)), .call 9 [94, 95, 96]⟩, ⟨some 98, (some (92, false)), .un .not 97⟩, Yk 99 (.pick 92 Yt 98)] (.cond 99 (Yq 24 [Yv 6 Yf] .ret) .skip)))))) (.ops 25 [Yo 100 .add .no 14 (Yi 1), Yv 14 100]))))))) (Yq 26 [Yv 6 Yt] .ret)))⟩
theorem ok_c_Z1p : Qam Tryz.prog 9 c_Z1p = true := Qad Tryz.func9 (by kernel_rfl)
def j_Z1p_0 (M : Mach) (n0 : Nat) (n1 : Nat) (r1 : Rk) (z2 z4 z8 z9 z12 z13 z14 : V) (σ : Objs) : Ro :=
 bd (pu (evUn .not z9.ng.ng)) fun x7 =>
 bd (gdv x7.ng false (pu (eF 2 z8.ng))) fun x8 =>
 bd (gdv x7.ng false (pu (eL σ false 1 x8.ng))) fun x9 =>
 bd (gdv x7.ng false (pu (eL σ true 5 z4.ng))) fun x10 =>
 bd (gdv x7.ng false (some z2.ng)) fun x11 =>
 bd (gdp x7.ng false (M.call 9 [x9.ng, x10.ng, x11.ng] σ) σ) fun p12 =>
 bd (gdv x7.ng false (pu (evUn .not p12.1.ng))) fun x13 =>
 bd (pu (pV x7.ng.ng (.bool true) x13.ng)) fun x14 =>
  br x14.ng (
 bd (fz n1 p12.2 fzD (.bool false)) fun y15 =>
 bd (cuO n1 p12.2) fun s16 =>
 bd (oK false y15) (nK n0 s16)) (
 bd (pu (eB .add .no z14.ng (.int .i64 1))) fun x17 =>
 bd (fz n1 p12.2 fzD z2) fun y18 =>
 bd (fz n1 p12.2 fzD z4) fun y19 =>
 bd (fz n1 p12.2 fzD z12) fun y20 =>
 bd (fz n1 p12.2 fzD z13) fun y21 =>
 bd (fz n1 p12.2 fzD x17.ng) fun y22 =>
 bd (cuO n1 p12.2) fun s23 => r1 [y18, y19, y20, y21, y22] s23)
def b_Z1p_1 (M : Mach) (n0 : Nat) (n1 : Nat) (r1 : Rk) (n2 : Nat) (r2 : Rk) (z2 z4 z8 z9 z12 z13 z14 z69 z70 z71 : V) (σ : Objs) : Ro :=
 bd (pu (eB .lss .no z71.ng z70.ng)) fun x70 =>
  br x70.ng (
 bd (pu (eI 1 z71.ng z69.ng)) fun x71 =>
 bd (pu (eL σ false 1 x71.ng)) fun x72 =>
 bd (gdv z9.ng.ng true (some x72.ng.ng)) fun x73 =>
 bd (gdv z9.ng.ng true (pu (eB .geq .no x73.ng (.int .i64 0)))) fun x74 =>
 bd (pu (pV z9.ng.ng.ng x74.ng (.bool false))) fun x75 =>
 bd (gdv x75.ng true (some x72.ng.ng)) fun x76 =>
 bd (gdv x75.ng true (some z2.ng)) fun x77 =>
 bd (gdv x75.ng true (pu (eB .lss .no x76.ng x77.ng))) fun x78 =>
 bd (pu (pV x75.ng.ng x78.ng (.bool false))) fun x79 =>
 bd (pu (eB .add .no z71.ng (.int .i64 1))) fun x80 =>
 bd (fz n2 σ fzD z2) fun y81 =>
 bd (fz n2 σ fzD z4) fun y82 =>
 bd (fz n2 σ fzD z8) fun y83 =>
 bd (fz n2 σ fzD x79.ng) fun y84 =>
 bd (fz n2 σ fzD z12) fun y85 =>
 bd (fz n2 σ fzD z13) fun y86 =>
 bd (fz n2 σ fzD z14) fun y87 =>
 bd (fz n2 σ fzD z69) fun y88 =>
 bd (fz n2 σ fzD z70) fun y89 =>
 bd (fz n2 σ fzD x80.ng) fun y90 =>
 bd (cuO n2 σ) fun s91 => r2 [y81, y82, y83, y84, y85, y86, y87, y88, y89, y90] s91) (
 bd (fz n2 σ fzD z2) fun y92 =>
 bd (fz n2 σ fzD z4) fun y93 =>
 bd (fz n2 σ fzD .any) fun y94 =>
 bd (fz n2 σ fzD z8) fun y95 =>
 bd (fz n2 σ fzD z9) fun y96 =>
 bd (fz n2 σ fzD z12) fun y97 =>
 bd (fz n2 σ fzD z13) fun y98 =>
 bd (fz n2 σ fzD z14) fun y99 =>
 bd (cuO n2 σ) fun s100 =>
  j_Z1p_0 M n0 n1 r1 y92 y93 y95 y96 y97 y98 y99 s100)
def l_Z1p_1 (M : Mach) (n0 : Nat) (n1 : Nat) (r1 : Rk) (n2 : Nat) : Rk := M.fx fun rec vs σ => b_Z1p_1 M n0 n1 r1 n2 rec (vs.getD 0 .undef) (vs.getD 1 .undef) (vs.getD 2 .undef) (vs.getD 3 .undef) (vs.getD 4 .undef) (vs.getD 5 .undef) (vs.getD 6 .undef) (vs.getD 7 .undef) (vs.getD 8 .undef) (vs.getD 9 .undef) σ
def j_Z1p_1 (M : Mach) (n0 : Nat) (n1 : Nat) (r1 : Rk) (z2 z4 z8 z9 z12 z13 z14 z86 : V) (σ : Objs) : Ro :=
  br z86.ng (
  j_Z1p_0 M n0 n1 r1 z2 z4 z8 (.bool true) z12 z13 z14 σ) (
  j_Z1p_0 M n0 n1 r1 z2 z4 z8 z9 z12 z13 z14 σ)
def b_Z1p_0 (M : Mach) (n0 : Nat) (n1 : Nat) (r1 : Rk) (z2 z4 z12 z13 z14 : V) (σ : Objs) : Ro :=
 bd (pu (eB .lss .no z14.ng z13.ng)) fun x2 =>
  br x2.ng (
 bd (pu (eI 3 z14.ng z12.ng)) fun x3 =>
 bd (pu (eL σ true 3 x3.ng)) fun x4 =>
  let s5 : Objs := σ ++ [.cells [(.int .i64 0), (.int .i64 0), .nils]]
 bd (stV s5 3 (.ptr σ.length 0) x4.ng x4.ng) fun p6 =>
 bd (pu (eF 0 (.ptr σ.length 0))) fun x24 =>
 bd (pu (eL p6.2 false 1 x24.ng)) fun x25 =>
 bd (pu (eB .eql .no x25.ng (.int .i64 1))) fun x26 =>
  br x26.ng.ng (
 bd (pu (eF 1 (.ptr σ.length 0))) fun x27 =>
 bd (pu (eL p6.2 false 1 x27.ng)) fun x28 =>
 bd (pu (eB .geq .no x28.ng (.int .i64 0))) fun x29 =>
 bd (gdv x29.ng true (pu (eF 1 (.ptr σ.length 0)))) fun x30 =>
 bd (gdv x29.ng true (pu (eL p6.2 false 1 x30.ng))) fun x31 =>
 bd (gdv x29.ng true (pu (eF 0 z4.ng))) fun x32 =>
 bd (gdv x29.ng true (pu (eL p6.2 false 1 x32.ng))) fun x33 =>
 bd (gdv x29.ng true (pu (Qaq x33.ng))) fun x34 =>
 bd (gdv x29.ng true (pu (eB .lss .no x31.ng x34.ng))) fun x35 =>
 bd (pu (pV x29.ng.ng x35.ng (.bool false))) fun x36 =>
  j_Z1p_0 M n0 n1 r1 z2 z4 (.ptr σ.length 0) x36.ng z12 z13 z14 p6.2) (
 bd (pu (eB .eql .no x25.ng (.int .i64 2))) fun x37 =>
  br x37.ng.ng (
 bd (pu (eF 1 (.ptr σ.length 0))) fun x38 =>
 bd (pu (eL p6.2 false 1 x38.ng)) fun x39 =>
 bd (pu (eB .geq .no x39.ng (.int .i64 0))) fun x40 =>
 bd (gdv x40.ng true (pu (eF 1 (.ptr σ.length 0)))) fun x41 =>
 bd (gdv x40.ng true (pu (eL p6.2 false 1 x41.ng))) fun x42 =>
 bd (gdv x40.ng true (some z2.ng)) fun x43 =>
 bd (gdv x40.ng true (pu (eB .lss .no x42.ng x43.ng))) fun x44 =>
 bd (pu (pV x40.ng.ng x44.ng (.bool false))) fun x45 =>
  j_Z1p_0 M n0 n1 r1 z2 z4 (.ptr σ.length 0) x45.ng z12 z13 z14 p6.2) (
 bd (pu (eB .eql .no x25.ng (.int .i64 3))) fun x46 =>
  br x46.ng.ng (
 bd (pu (eF 2 (.ptr σ.length 0))) fun x47 =>
 bd (pu (eL p6.2 false 1 x47.ng)) fun x48 =>
 bd (pu (Qaq x48.ng)) fun x49 =>
 bd (pu (eB .eql .no x49.ng (.int .i64 1))) fun x50 =>
  j_Z1p_0 M n0 n1 r1 z2 z4 (.ptr σ.length 0) x50.ng z12 z13 z14 p6.2) (
 bd (pu (eB .eql .no x25.ng (.int .i64 5))) fun x51 =>
  br x51.ng.ng (
 bd (pu (eF 1 (.ptr σ.length 0))) fun x52 =>
 bd (pu (eL p6.2 false 1 x52.ng)) fun x53 =>
 bd (pu (eB .geq .no x53.ng (.int .i64 0))) fun x54 =>
 bd (gdv x54.ng true (pu (eF 1 (.ptr σ.length 0)))) fun x55 =>
 bd (gdv x54.ng true (pu (eL p6.2 false 1 x55.ng))) fun x56 =>
 bd (gdv x54.ng true (pu (eF 2 z4.ng))) fun x57 =>
 bd (gdv x54.ng true (pu (eL p6.2 false 1 x57.ng))) fun x58 =>
 bd (gdv x54.ng true (pu (Qaq x58.ng))) fun x59 =>
 bd (gdv x54.ng true (pu (eB .lss .no x56.ng x59.ng))) fun x60 =>
 bd (pu (pV x54.ng.ng x60.ng (.bool false))) fun x61 =>
 bd (pu (eF 2 z4.ng)) fun x62 =>
 bd (pu (eL p6.2 false 1 x62.ng)) fun x63 =>
 bd (pu (eF 1 (.ptr σ.length 0))) fun x64 =>
 bd (pu (eL p6.2 false 1 x64.ng)) fun x65 =>
 bd (pu (eI 3 x65.ng x63.ng)) fun x66 =>
 bd (pu (eF 2 x66.ng)) fun x67 =>
 bd (pu (eL p6.2 false 1 x67.ng)) fun x68 =>
 bd (pu (Qaq x68.ng)) fun x69 =>
 bd (fz p6.2.length p6.2 fzD z2) fun y101 =>
 bd (fz p6.2.length p6.2 fzD z4) fun y102 =>
 bd (fz p6.2.length p6.2 fzD (.ptr σ.length 0)) fun y103 =>
 bd (fz p6.2.length p6.2 fzD x61.ng) fun y104 =>
 bd (fz p6.2.length p6.2 fzD z12) fun y105 =>
 bd (fz p6.2.length p6.2 fzD z13) fun y106 =>
 bd (fz p6.2.length p6.2 fzD z14) fun y107 =>
 bd (fz p6.2.length p6.2 fzD x68) fun y108 =>
 bd (fz p6.2.length p6.2 fzD x69) fun y109 =>
 bd (fz p6.2.length p6.2 fzD (.int .i64 0)) fun y110 =>
  l_Z1p_1 M n0 n1 r1 p6.2.length [y101, y102, y103, y104, y105, y106, y107, y108, y109, y110] p6.2) (
 bd (pu (eB .eql .no x25.ng (.int .i64 4))) fun x111 =>
  br x111.ng.ng (
  j_Z1p_1 M n0 n1 r1 z2 z4 (.ptr σ.length 0) (.bool false) z12 z13 z14 x111.ng p6.2) (
 bd (pu (eB .eql .no x25.ng (.int .i64 6))) fun x112 =>
  br x112.ng.ng (
  j_Z1p_1 M n0 n1 r1 z2 z4 (.ptr σ.length 0) (.bool false) z12 z13 z14 x112.ng p6.2) (
 bd (pu (eB .eql .no x25.ng (.int .i64 7))) fun x113 =>
  j_Z1p_1 M n0 n1 r1 z2 z4 (.ptr σ.length 0) (.bool false) z12 z13 z14 x113.ng p6.2))))))) (
 bd (fz n1 σ fzD .any) fun y114 =>
 bd (cuO n1 σ) fun s115 =>
 bd (oK false (.bool true)) (nK n0 s115))
def l_Z1p_0 (M : Mach) (n0 : Nat) (n1 : Nat) : Rk := M.fx fun rec vs σ => b_Z1p_0 M n0 n1 rec (vs.getD 0 .undef) (vs.getD 1 .undef) (vs.getD 2 .undef) (vs.getD 3 .undef) (vs.getD 4 .undef) σ
def s_Z1p (M : Mach) (a0 a1 a2 : V) (σ : Objs) : Ro :=
 bd (boxV σ a1.ng) fun p0 =>
 bd (pu (Qaq a0.ng)) fun x1 =>
 bd (fz p0.2.length p0.2 fzD a2) fun y116 =>
 bd (fz p0.2.length p0.2 fzD p0.1) fun y117 =>
 bd (fz p0.2.length p0.2 fzD a0) fun y118 =>
 bd (fz p0.2.length p0.2 fzD x1) fun y119 =>
 bd (fz p0.2.length p0.2 fzD (.int .i64 0)) fun y120 =>
  l_Z1p_0 M σ.length p0.2.length [y116, y117, y118, y119, y120] p0.2
theorem k_Z1p (M : Mach) (a0 a1 a2 : V) (σ : Objs) : fnK M c_Z1p [a0, a1, a2] σ = s_Z1p M a0 a1 a2 σ := by kernel_rfl
def c_Z2y : Ev.Fn := ⟨54, [.tmp 2], false, false, (Yq 0 [Yv 2 (Yi 0)] (.seq (Yq 1 [Yv 3 (Yi 0)] (.block 0 (.loop [0, 3] [2] (.seq (Yq 2 [Yv 6 3, Yv 7 0, Yh 8 7, Yo 9 .lss .no 6 8] (.cond 9 .skip (.exit 0))) (.seq (.block 1 (Yq 4 [Yv 12 0, Yv 13 3, Ye 14 7 12 13, Yl 15 true 7 14, Yk 4 (.alloc [Y0, Yb, Yn, Yn, Y0, Yn, Yb]), Yw 7 4 15 false] (Yq 5 [Ya 16 2 4, Yl 17 false 1 16, Yc 18 33 [17], Yv 19 18, ⟨some 20, (some (19, true)), .faddr 4 4⟩, ⟨some 21, (some (19, true)), .faddr 1 20⟩, ⟨some 22, (some (19, true)), .load false 1 21⟩, ⟨some 23, (some (19, true)), .call 33 [22]⟩, Yk 24 (.pick 19 23 Yf), Yv 25 24, ⟨some 26, (some (25, true)), .faddr 3 4⟩, ⟨some 27, (some (25, true)), .load false 1 26⟩, ⟨some 28, (some (25, true)), .call 33 [27]⟩, Yk 29 (.pick 25 28 Yf), Yv 5 29] (.seq (Yq 6 [Ya 30 0 4, Yl 31 false 1 30, Yo 32 .eql .no 31 (Yi 2)] (.cond 32 (.ops 7 [Yv 33 5, Yv 34 33, ⟨some 35, (some (34, true)), .faddr 3 4⟩, ⟨some 36, (some (34, true)), .load false 1 35⟩, ⟨some 37, (some (34, true)), .bin .neq .no 36 (Ys [])⟩, Yk 38 (.pick 34 37 Yf), Yv 5 38]) (Yq 8 [Ya 39 0 4, Yl 40 false 1 39, Yo 41 .eql .no 40 (Yi 3)] (.cond 41 (.ops 9 [Yv 42 5, Yv 43 42, ⟨some 44, (some (43, true)), .faddr 3 4⟩, ⟨some 45, (some (43, true)), .load false 1 44⟩, ⟨some 46, (some (43, true)), .call 34 [45]⟩, Yk 47 (.pick 43 46 Yf), Yv 5 47]) (Yq 10 [Ya 48 0 4, Yl 49 false 1 48, Yo 50 .neq .no 49 (Yi 1)] (.cond 50 (.ops 11 [Yv 5 Yf]) .skip)))))) (Yq 12 [Yv 51 5, Yk 52 (.un .not 51)] (.cond 52 (Yq 13 [Yv 53 3, Yv 2 53] .ret) .skip)))))) (.ops 3 [Yv 10 3, Yo 11 .add .no 10 (Yi 1), Yv 3 11])))))) (Yq 14 [Yv 2 (Yi (-1))] .ret)))⟩
theorem ok_c_Z2y : Qam Tryz.prog 10 c_Z2y = true := Qad Tryz.func10 (by kernel_rfl)
def j_Z2y_0 (M : Mach) (n0 : Nat) (n1 : Nat) (r1 : Rk) (z0 z3 z5 : V) (σ : Objs) : Ro :=
 bd (pu (evUn .not z5.ng.ng)) fun x18 =>
  br x18.ng (
 bd (fz n1 σ fzD z3.ng.ng) fun y19 =>
 bd (cuO n1 σ) fun s20 =>
 bd (oK false y19) (nK n0 s20)) (
 bd (pu (eB .add .no z3.ng.ng (.int .i64 1))) fun x21 =>
 bd (fz n1 σ fzD z0) fun y22 =>
 bd (fz n1 σ fzD x21.ng) fun y23 =>
 bd (cuO n1 σ) fun s24 => r1 [y22, y23] s24)
def b_Z2y_0 (M : Mach) (n0 : Nat) (n1 : Nat) (r1 : Rk) (z0 z3 : V) (σ : Objs) : Ro :=
 bd (pu (Qaq z0.ng.ng)) fun x0 =>
 bd (pu (eB .lss .no z3.ng.ng x0.ng)) fun x1 =>
  br x1.ng (
 bd (pu (eI 7 z3.ng.ng z0.ng.ng)) fun x2 =>
 bd (pu (eL σ true 7 x2.ng)) fun x3 =>
  let s4 : Objs := σ ++ [.cells [(.int .i64 0), (.bool false), (.str []), (.str []), (.int .i64 0), (.str []), (.bool false)]]
 bd (stV s4 7 (.ptr σ.length 0) x3.ng x3.ng) fun p5 =>
 bd (pu (eF 2 (.ptr σ.length 0))) fun x6 =>
 bd (pu (eL p5.2 false 1 x6.ng)) fun x7 =>
 bd (M.call 33 [x7.ng] p5.2) fun p8 =>
 bd (gdv p8.1.ng true (pu (eF 4 (.ptr σ.length 0)))) fun x9 =>
 bd (gdv p8.1.ng true (pu (eF 1 x9.ng))) fun x10 =>
 bd (gdv p8.1.ng true (pu (eL p8.2 false 1 x10.ng))) fun x11 =>
 bd (gdp p8.1.ng true (M.call 33 [x11.ng] p8.2) p8.2) fun p12 =>
 bd (pu (pV p8.1.ng.ng p12.1.ng (.bool false))) fun x13 =>
 bd (gdv x13.ng true (pu (eF 3 (.ptr σ.length 0)))) fun x14 =>
 bd (gdv x13.ng true (pu (eL p12.2 false 1 x14.ng))) fun x15 =>
 bd (gdp x13.ng true (M.call 33 [x15.ng] p12.2) p12.2) fun p16 =>
 bd (pu (pV x13.ng.ng p16.1.ng (.bool false))) fun x17 =>
 bd (pu (eF 0 (.ptr σ.length 0))) fun x25 =>
 bd (pu (eL p16.2 false 1 x25.ng)) fun x26 =>
 bd (pu (eB .eql .no x26.ng (.int .i64 2))) fun x27 =>
  br x27.ng (
 bd (gdv x17.ng.ng.ng true (pu (eF 3 (.ptr σ.length 0)))) fun x28 =>
 bd (gdv x17.ng.ng.ng true (pu (eL p16.2 false 1 x28.ng))) fun x29 =>
 bd (gdv x17.ng.ng.ng true (pu (eB .neq .no x29.ng (.str [])))) fun x30 =>
 bd (pu (pV x17.ng.ng.ng.ng x30.ng (.bool false))) fun x31 =>
  j_Z2y_0 M n0 n1 r1 z0 z3 x31.ng p16.2) (
 bd (pu (eF 0 (.ptr σ.length 0))) fun x32 =>
 bd (pu (eL p16.2 false 1 x32.ng)) fun x33 =>
 bd (pu (eB .eql .no x33.ng (.int .i64 3))) fun x34 =>
  br x34.ng (
 bd (gdv x17.ng.ng.ng true (pu (eF 3 (.ptr σ.length 0)))) fun x35 =>
 bd (gdv x17.ng.ng.ng true (pu (eL p16.2 false 1 x35.ng))) fun x36 =>
 bd (gdp x17.ng.ng.ng true (M.call 34 [x36.ng] p16.2) p16.2) fun p37 =>
 bd (pu (pV x17.ng.ng.ng.ng p37.1.ng (.bool false))) fun x38 =>
  j_Z2y_0 M n0 n1 r1 z0 z3 x38.ng p37.2) (
 bd (pu (eF 0 (.ptr σ.length 0))) fun x39 =>
 bd (pu (eL p16.2 false 1 x39.ng)) fun x40 =>
 bd (pu (eB .neq .no x40.ng (.int .i64 1))) fun x41 =>
  br x41.ng (
  j_Z2y_0 M n0 n1 r1 z0 z3 (.bool false) p16.2) (
  j_Z2y_0 M n0 n1 r1 z0 z3 x17.ng p16.2)))) (
 bd (fz n1 σ fzD .any) fun y42 =>
 bd (cuO n1 σ) fun s43 =>
 bd (oK false (.int .i64 (-1))) (nK n0 s43))
def l_Z2y_0 (M : Mach) (n0 : Nat) (n1 : Nat) : Rk := M.fx fun rec vs σ => b_Z2y_0 M n0 n1 rec (vs.getD 0 .undef) (vs.getD 1 .undef) σ
def s_Z2y (M : Mach) (a0 : V) (σ : Objs) : Ro :=
 bd (fz σ.length σ fzD a0) fun y44 =>
 bd (fz σ.length σ fzD (.int .i64 0)) fun y45 =>
  l_Z2y_0 M σ.length σ.length [y44, y45] σ
theorem k_Z2y (M : Mach) (a0 : V) (σ : Objs) : fnK M c_Z2y [a0] σ = s_Z2y M a0 σ := by kernel_rfl
def c_Z1r : Ev.Fn := ⟨26, [.tmp 4], false, false, (Yq 0 [Yv 4 Yf] (.seq (Yq 1 [Yv 6 0, Yh 7 6, Yv 8 1, Yh 9 8, Yo 10 .neq .no 7 9] (.cond 10 (Yq 2 [Yv 4 Yf] .ret) .skip)) (.seq (Yq 3 [Yv 5 (Yi 0)] (.block 0 (.loop [0, 1, 5] [4] (.seq (Yq 4 [Yv 11 5, Yv 12 0, Yh 13 12, Yo 14 .lss .no 11 13] (.cond 14 .skip (.exit 0))) (.seq (.block 1 (.seq (.drw 6 [⟨Yv 17 0, 0, []⟩, ⟨Yv 18 5, 1, []⟩, ⟨Ye 19 1 17 18, 2, []⟩, ⟨Yl 20 false 1 19, 3, []⟩, ⟨Yv 21 1, 4, []⟩, ⟨Yv 22 5, 5, []⟩, ⟨Ye 23 1 21 22, 6, []⟩, ⟨Yl 24 false 1 23, 7, []⟩, ⟨Yo 25 .neq .no 20 24, 8, []⟩]) (.cond 25 (Yq 7 [Yv 4 Yf] .ret) .skip))) (.ops 5 [Yv 15 5, Yo 16 .add .no 15 (Yi 1), Yv 5 16])))))) (Yq 8 [Yv 4 Yt] .ret))))⟩
theorem ok_c_Z1r : Qam Tryz.prog 13 c_Z1r = true := Qad Tryz.func13 (by kernel_rfl)
def c_Z2q : Ev.Fn := ⟨52, [.tmp 2], false, false, (Yq 0 [Yk 1 (.box 0), Yv 2 Yf] (.seq (Yq 1 [Ya 4 2 1, Yl 5 false 1 4, Yh 6 5, Ya 7 3 1, Yl 8 false 1 7, Yh 9 8, Yo 10 .neq .no 6 9, Yv 11 10, ⟨some 12, (some (11, false)), .faddr 1 1⟩, ⟨some 13, (some (11, false)), .load false 1 12⟩, ⟨some 14, (some (11, false)), .call 37 [13]⟩, ⟨some 15, (some (11, false)), .un .not 14⟩, Yk 16 (.pick 11 Yt 15)] (.cond 16 (Yq 2 [Yv 2 Yf] .ret) .skip)) (.seq (Yq 3 [Yv 3 (Yi 0)] (.block 0 (.loop [1, 3] [2] (.seq (Yq 4 [Yv 17 3, Ya 18 2 1, Yl 19 false 1 18, Yh 20 19, Yo 21 .lss .no 17 20] (.cond 21 .skip (.exit 0))) (.seq (.block 1 (.seq (.drw 6 [⟨Ya 24 2 1, 0, []⟩, ⟨Yl 25 false 1 24, 1, []⟩, ⟨Yv 26 3, 2, []⟩, ⟨Ye 27 1 25 26, 3, []⟩, ⟨Yl 28 false 1 27, 4, []⟩, ⟨Yc 29 38 [28], 5, []⟩, ⟨Yk 30 (.un .not 29), 6, []⟩, ⟨Yv 31 30, 7, []⟩, ⟨⟨some 32, (some (31, false)), .faddr 2 1⟩, 8, []⟩, ⟨⟨some 33, (some (31, false)), .load false 1 32⟩, 9, []⟩, ⟨⟨some 34, (some (31, false)), .mv 3 false⟩, 10, []⟩, ⟨⟨some 35, (some (31, false)), .cut 1 33 none (some 34) none⟩, 11, []⟩, ⟨⟨some 36, (some (31, false)), .faddr 2 1⟩, 12, []⟩, ⟨⟨some 37, (some (31, false)), .load false 1 36⟩, 13, []⟩, ⟨⟨some 38, (some (31, false)), .mv 3 false⟩, 14, []⟩, ⟨⟨some 39, (some (31, false)), .iaddr 1 37 38⟩, 15, []⟩, ⟨⟨some 40, (some (31, false)), .load false 1 39⟩, 16, []⟩, ⟨⟨some 41, (some (31, false)), .call 39 [35, 40]⟩, 17, []⟩, ⟨Yk 42 (.pick 31 Yt 41), 18, []⟩, ⟨Yv 43 42, 19, []⟩, ⟨⟨some 44, (some (43, false)), .faddr 3 1⟩, 20, []⟩, ⟨⟨some 45, (some (43, false)), .load false 1 44⟩, 21, []⟩, ⟨⟨some 46, (some (43, false)), .mv 3 false⟩, 22, []⟩, ⟨⟨some 47, (some (43, false)), .iaddr 1 45 46⟩, 23, []⟩, ⟨⟨some 48, (some (43, false)), .load false 1 47⟩, 24, []⟩, ⟨⟨some 49, (some (43, false)), .call 37 [48]⟩, 25, []⟩, ⟨⟨some 50, (some (43, false)), .un .not 49⟩, 26, []⟩, ⟨Yk 51 (.pick 43 Yt 50), 27, []⟩]) (.cond 51 (Yq 7 [Yv 2 Yf] .ret) .skip))) (.ops 5 [Yv 22 3, Yo 23 .add .no 22 (Yi 1), Yv 3 23])))))) (Yq 8 [Yv 2 Yt] .ret))))⟩
theorem ok_c_Z2q : Qam Tryz.prog 14 c_Z2q = true := Qad Tryz.func14 (by kernel_rfl)
def c_Zz : Ev.Fn := ⟨41, [.tmp 2], false, false, (Yq 0 [Yk 1 (.box 0), Yv 2 (.c .nils)] (.seq (Yq 1 [Ya 6 1 1, Yl 7 false 1 6, Yh 8 7, Yv 9 (Yi 0)] (.block 0 (.loop [2, 7, 8, 9] [2] (Yq 2 [Yo 10 .lss .no 9 8] (.seq (.cond 10 .skip (.exit 0)) (.seq (.block 1 (Yq 3 [Ye 11 3 7 9, Yl 12 true 3 11, Yk 4 (.alloc [Y0, .nils, Yn]), Yw 3 4 12 false] (Yq 4 [Ya 13 1 4, Yl 14 false 1 13, Yh 15 14, Yv 16 (Yi 0)] (.block 2 (.loop [2, 4, 7, 8, 9, 15, 16] [2, 7, 8, 9] (Yq 5 [Yo 17 .lss .no 16 15] (.seq (.cond 17 .skip (.exit 2)) (.seq (.block 3 (Yq 6 [Yv 18 16, Yv 5 18] (Yq 7 [Yv 19 5, Yo 20 .add .no 19 (Yi 1), Ya 21 1 4, Yl 22 false 1 21, Yh 23 22, Yo 24 .lss .no 20 23] (.cond 24 (.ops 8 [Yu 25 2, Ya 26 1 4, Yl 27 false 1 26, Yv 28 5, Yo 29 .add .no 28 (Yi 1), Ye 30 2 27 29, Ya 31 0 30, Yl 32 false 1 31, Yk 33 (.buildSl false 1 1 Y0 [(0, 32)] false), Yk 34 (.app false false 1 8 25 33 true), Yu 2 34]) (.ops 9 [Yu 35 2, Yk 36 (.buildSl false 1 1 Y0 [(0, (Yi 0))] false), Yk 37 (.app false false 1 8 35 36 true), Yu 2 37]))))) (.ops 10 [Yo 38 .add .no 16 (Yi 1), Yv 16 38]))))))))) (.ops 11 [Yo 39 .add .no 9 (Yi 1), Yv 9 39]))))))) (Yq 12 [Yu 40 2, Yu 2 40] .ret)))⟩
theorem ok_c_Zz : Qam Tryz.prog 21 c_Zz = true := Qad Tryz.func21 (by kernel_rfl)
def c_Z2w : Ev.Fn := ⟨14, [.tmp 4, .tmp 5, .tmp 6], false, false, (Yq 0 [Yk 3 (.box 1), Yv 4 (.c .nils), Yv 5 (Yi 0), Yv 6 (Yi 0)] (.seq (.drw 1 [⟨Yu 7 0, 0, []⟩, ⟨Yl 9 true 4 3, 2, []⟩, ⟨Yc 8 48 [7], 1, [1]⟩, ⟨Yc 10 47 [8, 9], 3, []⟩, ⟨Yx 11 10 0, 4, []⟩, ⟨Yx 12 10 1, 5, []⟩, ⟨Yx 13 10 2, 6, []⟩, ⟨Yv 4 11, 7, []⟩, ⟨Yv 5 12, 8, []⟩, ⟨Yv 6 13, 9, []⟩]) .ret))⟩
theorem ok_c_Z2w : Qam Tryz.prog 26 c_Z2w = true := Qad Tryz.func26 (by kernel_rfl)
def c_Z1m : Ev.Fn := ⟨37, [.tmp 2], false, false, (Yq 0 [Yk 1 (.box 0), Yv 2 Yf] (.seq (Yq 1 [Ya 5 2 1, Yl 6 false 1 5, Yh 7 6, Yo 8 .gtr .no 7 (Yi 30), Yv 9 8, ⟨some 10, (some (9, false)), .faddr 3 1⟩, ⟨some 11, (some (9, false)), .load false 1 10⟩, ⟨some 12, (some (9, false)), .len 11⟩, ⟨some 13, (some (9, false)), .bin .gtr .no 12 (Yi 30)⟩, Yk 14 (.pick 9 Yt 13), Yv 15 14, ⟨some 16, (some (15, false)), .faddr 1 1⟩, ⟨some 17, (some (15, false)), .load false 1 16⟩, ⟨some 18, (some (15, false)), .lenS 17⟩, ⟨some 19, (some (15, false)), .bin .gtr .no 18 (Yi 100)⟩, Yk 20 (.pick 15 Yt 19)] (.cond 20 (Yq 2 [Yv 2 Yt] .ret) .skip)) (.seq (.seq (.drw 3 [⟨Yk 21 (.buildSl false 1 0 .any [] false), 0, []⟩, ⟨Ya 22 2 1, 1, []⟩, ⟨Yl 23 false 1 22, 2, []⟩, ⟨Ya 25 3 1, 4, []⟩, ⟨Yl 26 false 1 25, 5, []⟩, ⟨Yv 29 (Yi 0), 8, []⟩, ⟨Yk 24 (.app false false 1 16 21 23 true), 3, [4]⟩, ⟨Yk 27 (.app false false 1 16 24 26 true), 6, []⟩, ⟨Yh 28 27, 7, []⟩]) (.block 0 (.loop [27, 28, 29] [2] (Yq 4 [Yo 30 .lss .no 29 28] (.seq (.cond 30 .skip (.exit 0)) (.seq (.block 1 (Yq 5 [Ye 31 1 27 29, Yl 32 false 1 31, Yv 4 32] (Yq 6 [Yv 33 4, Yk 34 (.lenS 33), Yo 35 .gtr .no 34 (Yi 100)] (.cond 35 (Yq 7 [Yv 2 Yt] .ret) .skip)))) (.ops 8 [Yo 36 .add .no 29 (Yi 1), Yv 29 36]))))))) (Yq 9 [Yv 2 Yf] .ret))))⟩
theorem ok_c_Z1m : Qam Tryz.prog 27 c_Z1m = true := Qad Tryz.func27 (by kernel_rfl)
def b_Z1m_0 (M : Mach) (n0 : Nat) (n1 : Nat) (r1 : Rk) (z27 z28 z29 : V) (σ : Objs) : Ro :=
 bd (pu (eB .lss .no z29.ng z28.ng)) fun x25 =>
  br x25.ng (
 bd (pu (eI 1 z29.ng z27.ng)) fun x26 =>
 bd (pu (eL σ false 1 x26.ng)) fun x27 =>
 bd (pu (Qe2 x27.ng.ng.ng)) fun x28 =>
 bd (pu (eB .gtr .no x28.ng (.int .i64 100))) fun x29 =>
  br x29.ng (
 bd (fz n1 σ fzD (.bool true)) fun y30 =>
 bd (cuO n1 σ) fun s31 =>
 bd (oK false y30) (nK n0 s31)) (
 bd (pu (eB .add .no z29.ng (.int .i64 1))) fun x32 =>
 bd (fz n1 σ fzD z27) fun y33 =>
 bd (fz n1 σ fzD z28) fun y34 =>
 bd (fz n1 σ fzD x32.ng) fun y35 =>
 bd (cuO n1 σ) fun s36 => r1 [y33, y34, y35] s36)) (
 bd (fz n1 σ fzD .any) fun y37 =>
 bd (cuO n1 σ) fun s38 =>
 bd (oK false (.bool false)) (nK n0 s38))
def l_Z1m_0 (M : Mach) (n0 : Nat) (n1 : Nat) : Rk := M.fx fun rec vs σ => b_Z1m_0 M n0 n1 rec (vs.getD 0 .undef) (vs.getD 1 .undef) (vs.getD 2 .undef) σ
def s_Z1m (M : Mach) (a0 : V) (σ : Objs) : Ro :=
 bd (boxV σ a0.ng) fun p0 =>
 bd (pu (eF 2 p0.1.ng)) fun x1 =>
 bd (pu (eL p0.2 false 1 x1.ng)) fun x2 =>
 bd (pu (Qaq x2.ng)) fun x3 =>
 bd (pu (eB .gtr .no x3.ng (.int .i64 30))) fun x4 =>
 bd (gdv x4.ng false (pu (eF 3 p0.1.ng))) fun x5 =>
 bd (gdv x4.ng false (pu (eL p0.2 false 1 x5.ng))) fun x6 =>
 bd (gdv x4.ng false (pu (Qaq x6.ng))) fun x7 =>
 bd (gdv x4.ng false (pu (eB .gtr .no x7.ng (.int .i64 30)))) fun x8 =>
 bd (pu (pV x4.ng.ng (.bool true) x8.ng)) fun x9 =>
 bd (gdv x9.ng false (pu (eF 1 p0.1.ng))) fun x10 =>
 bd (gdv x9.ng false (pu (eL p0.2 false 1 x10.ng))) fun x11 =>
 bd (gdv x9.ng false (pu (Qe2 x11.ng))) fun x12 =>
 bd (gdv x9.ng false (pu (eB .gtr .no x12.ng (.int .i64 100)))) fun x13 =>
 bd (pu (pV x9.ng.ng (.bool true) x13.ng)) fun x14 =>
  br x14.ng (
 bd (oK false (.bool true)) (nK σ.length p0.2)) (
 bd (Qax false 1 0 .any []) fun x15 =>
 bd (pu (eF 2 p0.1.ng)) fun x16 =>
 bd (pu (eL p0.2 false 1 x16.ng)) fun x17 =>
 bd (pu (eF 3 p0.1.ng)) fun x18 =>
 bd (pu (eL p0.2 false 1 x18.ng)) fun x19 =>
 bd (Qj4 [Qe5 false 1 x18.ng] p0.2) fun s20 =>
 bd (appV false false 1 16 s20 x15 x17.ng) fun x22 =>
 bd (Qgx [Qe5 false 1 x18.ng] p0.2 s20) fun s21 =>
 bd (appV false false 1 16 s21 x22 x19.ng) fun x23 =>
 bd (pu (Qaq x23.ng)) fun x24 =>
 bd (fz s21.length s21 fzD x23) fun y39 =>
 bd (fz s21.length s21 fzD x24) fun y40 =>
 bd (fz s21.length s21 fzD (.int .i64 0)) fun y41 =>
  l_Z1m_0 M σ.length s21.length [y39, y40, y41] s21)
theorem k_Z1m (M : Mach) (a0 : V) (σ : Objs) : fnK M c_Z1m [a0] σ = s_Z1m M a0 σ := by kernel_rfl
def c_Z2o : Ev.Fn := ⟨10, [.tmp 4], false, false, (Yq 0 [Yv 4 Yf] (Yq 1 [Yu 5 0, Yv 6 1, Yc 7 49 [5, 6, (Yi 0)], Yv 8 1, Yo 9 .gtr .no 7 8, Yv 4 9] .ret))⟩
theorem ok_c_Z2o : Qam Tryz.prog 28 c_Z2o = true := Qad Tryz.func28 (by kernel_rfl)
def s_Z2o (M : Mach) (a0 a1 : V) (σ : Objs) : Ro :=
 bd (M.call 49 [a0.ng, a1.ng.ng, (.int .i64 0)] σ) fun p0 =>
 bd (pu (eB .gtr .no p0.1.ng a1.ng.ng)) fun x1 =>
 bd (oK false x1.ng) (nK σ.length p0.2)
theorem k_Z2o (M : Mach) (a0 a1 : V) (σ : Objs) : fnK M c_Z2o [a0, a1] σ = s_Z2o M a0 a1 σ := by kernel_rfl
def c_Z14 : Ev.Fn := ⟨52, [.tmp 2], false, false, (Yq 0 [Yk 1 (.box 0), Yv 2 (.c .nili)] (Yq 1 [Ya 6 2 1, Yl 7 false 1 6, Yh 8 7, Ya 9 3 1, Yl 10 false 1 9, Yh 11 10, Yo 12 .eql .no 8 11, Yv 13 12, ⟨some 14, (some (13, true)), .faddr 1 1⟩, ⟨some 15, (some (13, true)), .load false 1 14⟩, ⟨some 16, (some (13, true)), .call 50 [15]⟩, Yk 17 (.pick 13 16 Yf), Yv 3 17] (.seq (Yq 2 [Ya 18 2 1, Yl 19 false 1 18, Yh 20 19, Yv 21 (Yi 0)] (.block 0 (.loop [1, 3, 19, 20, 21] [2, 3] (Yq 3 [Yo 22 .lss .no 21 20] (.seq (.cond 22 .skip (.exit 0)) (.seq (.block 1 (Yq 4 [Yv 23 21, Ye 24 1 19 21, Yl 25 false 1 24, Yv 4 23, Yv 5 25] (.ops 5 [Yv 26 3, Yv 27 26, ⟨some 28, (some (27, true)), .mv 5 false⟩, ⟨some 29, (some (27, true)), .call 51 [28]⟩, Yk 30 (.pick 27 29 Yf), Yv 31 30, ⟨some 32, (some (31, true)), .faddr 2 1⟩, ⟨some 33, (some (31, true)), .load false 1 32⟩, ⟨some 34, (some (31, true)), .mv 4 false⟩, ⟨some 35, (some (31, true)), .cut 1 33 none (some 34) none⟩, ⟨some 36, (some (31, true)), .mv 5 false⟩, ⟨some 37, (some (31, true)), .call 46 [35, 36]⟩, ⟨some 38, (some (31, true)), .un .not 37⟩, Yk 39 (.pick 31 38 Yf), Yv 40 39, ⟨some 41, (some (40, true)), .faddr 3 1⟩, ⟨some 42, (some (40, true)), .load false 1 41⟩, ⟨some 43, (some (40, true)), .mv 4 false⟩, ⟨some 44, (some (40, true)), .iaddr 1 42 43⟩, ⟨some 45, (some (40, true)), .load false 1 44⟩, ⟨some 46, (some (40, true)), .call 50 [45]⟩, Yk 47 (.pick 40 46 Yf), Yv 3 47]))) (.ops 6 [Yo 48 .add .no 21 (Yi 1), Yv 21 48]))))))) (.seq (Yq 7 [Yv 49 3, Yk 50 (.un .not 49)] (.cond 50 (Yq 8 [Yc 51 52 [(Yi 11), (Yi 0)], Yv 2 51] .ret) .skip)) (Yq 9 [Yv 2 (.c .nili)] .ret)))))⟩
theorem ok_c_Z14 : Qam Tryz.prog 29 c_Z14 = true := Qad Tryz.func29 (by kernel_rfl)
def b_Z14_0 (M : Mach) (n0 : Nat) (n1 : Nat) (r1 : Rk) (z1 z3 z19 z20 z21 : V) (σ : Objs) : Ro :=
 bd (pu (eB .lss .no z21.ng z20.ng)) fun x15 =>
  br x15.ng (
 bd (pu (eI 1 z21.ng z19.ng)) fun x16 =>
 bd (pu (eL σ false 1 x16.ng)) fun x17 =>
 bd (gdv z3.ng.ng true (some x17.ng.ng)) fun x18 =>
 bd (gdp z3.ng.ng true (M.call 51 [x18.ng] σ) σ) fun p19 =>
 bd (pu (pV z3.ng.ng.ng p19.1.ng (.bool false))) fun x20 =>
 bd (gdv x20.ng true (pu (eF 2 z1.ng))) fun x21 =>
 bd (gdv x20.ng true (pu (eL p19.2 false 1 x21.ng))) fun x22 =>
 bd (gdv x20.ng true (some z21.ng.ng.ng)) fun x23 =>
 bd (gdv x20.ng true (pu (Qba 1 x22.ng none (some x23.ng) none))) fun x24 =>
 bd (gdv x20.ng true (some x17.ng.ng)) fun x25 =>
 bd (gdp x20.ng true (M.call 46 [x24.ng, x25.ng] p19.2) p19.2) fun p26 =>
 bd (gdv x20.ng true (pu (evUn .not p26.1.ng))) fun x27 =>
 bd (pu (pV x20.ng.ng x27.ng (.bool false))) fun x28 =>
 bd (gdv x28.ng true (pu (eF 3 z1.ng))) fun x29 =>
 bd (gdv x28.ng true (pu (eL p26.2 false 1 x29.ng))) fun x30 =>
 bd (gdv x28.ng true (some z21.ng.ng.ng)) fun x31 =>
 bd (gdv x28.ng true (pu (eI 1 x31.ng x30.ng))) fun x32 =>
 bd (gdv x28.ng true (pu (eL p26.2 false 1 x32.ng))) fun x33 =>
 bd (gdp x28.ng true (M.call 50 [x33.ng] p26.2) p26.2) fun p34 =>
 bd (pu (pV x28.ng.ng p34.1.ng (.bool false))) fun x35 =>
 bd (pu (eB .add .no z21.ng (.int .i64 1))) fun x36 =>
 bd (fz n1 p34.2 fzD z1) fun y37 =>
 bd (fz n1 p34.2 fzD x35.ng) fun y38 =>
 bd (fz n1 p34.2 fzD z19) fun y39 =>
 bd (fz n1 p34.2 fzD z20) fun y40 =>
 bd (fz n1 p34.2 fzD x36.ng) fun y41 =>
 bd (cuO n1 p34.2) fun s42 => r1 [y37, y38, y39, y40, y41] s42) (
 bd (fz n1 σ fzD .any) fun y43 =>
 bd (fz n1 σ fzD z3) fun y44 =>
 bd (cuO n1 σ) fun s45 =>
 bd (pu (evUn .not y44.ng.ng)) fun x46 =>
  br x46.ng (
 bd (M.call 52 [(.int .i64 11), (.int .i64 0)] s45) fun p47 =>
 bd (oK false p47.1.ng) (nK n0 p47.2)) (
 bd (oK false .nili) (nK n0 s45)))
def l_Z14_0 (M : Mach) (n0 : Nat) (n1 : Nat) : Rk := M.fx fun rec vs σ => b_Z14_0 M n0 n1 rec (vs.getD 0 .undef) (vs.getD 1 .undef) (vs.getD 2 .undef) (vs.getD 3 .undef) (vs.getD 4 .undef) σ
def s_Z14 (M : Mach) (a0 : V) (σ : Objs) : Ro :=
 bd (boxV σ a0.ng) fun p0 =>
 bd (pu (eF 2 p0.1.ng)) fun x1 =>
 bd (pu (eL p0.2 false 1 x1.ng)) fun x2 =>
 bd (pu (Qaq x2.ng)) fun x3 =>
 bd (pu (eF 3 p0.1.ng)) fun x4 =>
 bd (pu (eL p0.2 false 1 x4.ng)) fun x5 =>
 bd (pu (Qaq x5.ng)) fun x6 =>
 bd (pu (eB .eql .no x3.ng x6.ng)) fun x7 =>
 bd (gdv x7.ng true (pu (eF 1 p0.1.ng))) fun x8 =>
 bd (gdv x7.ng true (pu (eL p0.2 false 1 x8.ng))) fun x9 =>
 bd (gdp x7.ng true (M.call 50 [x9.ng] p0.2) p0.2) fun p10 =>
 bd (pu (pV x7.ng.ng p10.1.ng (.bool false))) fun x11 =>
 bd (pu (eF 2 p0.1.ng)) fun x12 =>
 bd (pu (eL p10.2 false 1 x12.ng)) fun x13 =>
 bd (pu (Qaq x13.ng)) fun x14 =>
 bd (fz p10.2.length p10.2 fzD p0.1) fun y48 =>
 bd (fz p10.2.length p10.2 fzD x11.ng) fun y49 =>
 bd (fz p10.2.length p10.2 fzD x13) fun y50 =>
 bd (fz p10.2.length p10.2 fzD x14) fun y51 =>
 bd (fz p10.2.length p10.2 fzD (.int .i64 0)) fun y52 =>
  l_Z14_0 M σ.length p10.2.length [y48, y49, y50, y51, y52] p10.2
theorem k_Z14 (M : Mach) (a0 : V) (σ : Objs) : fnK M c_Z14 [a0] σ = s_Z14 M a0 σ := by kernel_rfl
def c_Z13 : Ev.Fn := ⟨23, [.tmp 4], false, false, (Yq 0 [Yk 3 (.box 1), Yv 4 (.c .nili)] (.seq (Yq 1 [Yl 6 true 4 3, Yc 7 29 [6], Yv 5 7] (Yq 2 [Yv 8 5, Yo 9 .neq .ifc 8 (.c .nili)] (.cond 9 (Yq 3 [Yv 10 5, Yv 4 10] .ret) .skip))) (.seq (.block 0 (Yq 4 [Yv 12 0, Yc 13 53 [12], Yo 14 .gtr .no 13 (Yi 32), Yv 11 14] (.cond 11 (Yq 5 [Yc 15 52 [(Yi 12), (Yi 0)], Yv 4 15] .ret) (Yq 6 [Yl 17 true 4 3, Yk 18 (.build [Yb, Yn, .nils, .nils] [(0, 4, 17)]), Yu 19 0, Yc 20 54 [18, 19, Yt], Yk 21 (.un .not 20), Yv 16 21] (.cond 16 (Yq 7 [Yc 22 52 [(Yi 10), (Yi 0)], Yv 4 22] .ret) .skip))))) (Yq 8 [Yv 4 (.c .nili)] .ret))))⟩
theorem ok_c_Z13 : Qam Tryz.prog 30 c_Z13 = true := Qad Tryz.func30 (by kernel_rfl)
def s_Z13 (M : Mach) (a0 a1 : V) (σ : Objs) : Ro :=
 bd (boxV σ a1.ng) fun p0 =>
 bd (pu (eL p0.2 true 4 p0.1.ng)) fun x1 =>
 bd (M.call 29 [x1.ng] p0.2) fun p2 =>
 bd (pu (eB .neq .ifc p2.1.ng.ng.ng .nili)) fun x3 =>
  br x3.ng (
 bd (oK false p2.1.ng.ng.ng) (nK σ.length p2.2)) (
 bd (M.call 53 [a0.ng.ng] p2.2) fun p4 =>
 bd (pu (eB .gtr .no p4.1.ng (.int .i64 32))) fun x5 =>
  br x5.ng.ng (
 bd (M.call 52 [(.int .i64 12), (.int .i64 0)] p4.2) fun p6 =>
 bd (oK false p6.1.ng) (nK σ.length p6.2)) (
 bd (pu (eL p4.2 true 4 p0.1.ng)) fun x7 =>
 bd (pu (Qa2 [(.bool false), (.str []), .nils, .nils] [(0, 4, x7.ng)])) fun x8 =>
 bd (M.call 54 [x8.ng, a0.ng, (.bool true)] p4.2) fun p9 =>
 bd (pu (evUn .not p9.1.ng)) fun x10 =>
  br x10.ng.ng (
 bd (M.call 52 [(.int .i64 10), (.int .i64 0)] p9.2) fun p11 =>
 bd (oK false p11.1.ng) (nK σ.length p11.2)) (
 bd (oK false .nili) (nK σ.length p9.2))))
theorem k_Z13 (M : Mach) (a0 a1 : V) (σ : Objs) : fnK M c_Z13 [a0, a1] σ = s_Z13 M a0 a1 σ := by kernel_rfl
def c_Zx : Ev.Fn := ⟨13, [.tmp 6], false, false, (Yq 0 [Yv 6 (.c .nili)] (Yq 1 [Yv 7 0, Yv 8 1, Yv 9 2, Yk 10 (.build [Y0, Y0, .nili] [(0, 1, 7), (1, 1, 8), (2, 1, 9)]), Yk 11 (.box 10), Yk 12 (.mkif 98 11), Yv 6 12] .ret))⟩
theorem ok_c_Zx : Qam Tryz.prog 31 c_Zx = true := Qad Tryz.func31 (by kernel_rfl)
def s_Zx (M : Mach) (a0 a1 a2 : V) (σ : Objs) : Ro :=
 bd (pu (Qa2 [(.int .i64 0), (.int .i64 0), .nili] [(0, 1, a0.ng.ng), (1, 1, a1.ng.ng), (2, 1, a2.ng.ng)])) fun x0 =>
 bd (boxV σ x0.ng) fun p1 =>
 bd (oK false (.ifc 98 p1.1.ng)) (nK σ.length p1.2)
theorem k_Zx (M : Mach) (a0 a1 a2 : V) (σ : Objs) : fnK M c_Zx [a0, a1, a2] σ = s_Zx M a0 a1 a2 σ := by kernel_rfl
def c_Z6 : Ev.Fn := ⟨21, [.tmp 4], false, false, (Yq 0 [Yv 4 (.c .nils)] (.seq (Yq 1 [Yu 7 1, Yh 8 7, Yv 9 (Yi 0)] (.block 0 (.loop [0, 4, 7, 8, 9] [4] (Yq 2 [Yo 10 .lss .no 9 8] (.seq (.cond 10 .skip (.exit 0)) (.seq (.block 1 (Yq 3 [Ye 11 1 7 9, Yl 12 true 1 11, Yk 6 (.alloc [.nils]), Yw 1 6 12 false] (.ops 4 [Yu 13 4, Yv 14 0, Yl 15 true 1 6, Yc 16 55 [14, 15], Yk 17 (.buildSl false 1 1 Y0 [(0, 16)] false), Yk 18 (.app false false 1 8 13 17 true), Yu 4 18]))) (.ops 5 [Yo 19 .add .no 9 (Yi 1), Yv 9 19]))))))) (Yq 6 [Yu 20 4, Yu 4 20] .ret)))⟩
theorem ok_c_Z6 : Qam Tryz.prog 32 c_Z6 = true := Qad Tryz.func32 (by kernel_rfl)
def b_Z6_0 (M : Mach) (n0 : Nat) (n1 : Nat) (r1 : Rk) (z0 z4 z7 z8 z9 : V) (σ : Objs) : Ro :=
 bd (pu (eB .lss .no z9.ng z8.ng)) fun x1 =>
  br x1.ng (
 bd (pu (eI 1 z9.ng z7.ng)) fun x2 =>
 bd (pu (eL σ true 1 x2.ng)) fun x3 =>
  let s4 : Objs := σ ++ [.cells [.nils]]
 bd (stV s4 1 (.ptr σ.length 0) x3.ng x3.ng) fun p5 =>
 bd (pu (eL p5.2 true 1 (.ptr σ.length 0))) fun x6 =>
 bd (M.call 55 [z0.ng.ng, x6.ng] p5.2) fun p7 =>
 bd (Qax false 1 1 (.int .i64 0) [(0, p7.1.ng)]) fun x8 =>
 bd (appV false false 1 8 p7.2 z4 x8.ng) fun x9 =>
 bd (pu (eB .add .no z9.ng (.int .i64 1))) fun x10 =>
 bd (fz n1 p7.2 fzD z0) fun y11 =>
 bd (fz n1 p7.2 fzD x9) fun y12 =>
 bd (fz n1 p7.2 fzD z7) fun y13 =>
 bd (fz n1 p7.2 fzD z8) fun y14 =>
 bd (fz n1 p7.2 fzD x10.ng) fun y15 =>
 bd (cuO n1 p7.2) fun s16 => r1 [y11, y12, y13, y14, y15] s16) (
 bd (fz n1 σ fzD z4) fun y17 =>
 bd (cuO n1 σ) fun s18 =>
 bd (oK false y17) (nK n0 s18))
def l_Z6_0 (M : Mach) (n0 : Nat) (n1 : Nat) : Rk := M.fx fun rec vs σ => b_Z6_0 M n0 n1 rec (vs.getD 0 .undef) (vs.getD 1 .undef) (vs.getD 2 .undef) (vs.getD 3 .undef) (vs.getD 4 .undef) σ
def s_Z6 (M : Mach) (a0 a1 : V) (σ : Objs) : Ro :=
 bd (pu (Qaq a1.ng)) fun x0 =>
 bd (fz σ.length σ fzD a0) fun y19 =>
 bd (fz σ.length σ fzD .nils) fun y20 =>
 bd (fz σ.length σ fzD a1) fun y21 =>
 bd (fz σ.length σ fzD x0) fun y22 =>
 bd (fz σ.length σ fzD (.int .i64 0)) fun y23 =>
  l_Z6_0 M σ.length σ.length [y19, y20, y21, y22, y23] σ
theorem k_Z6 (M : Mach) (a0 a1 : V) (σ : Objs) : fnK M c_Z6 [a0, a1] σ = s_Z6 M a0 a1 σ := by kernel_rfl
def c_Z2z : Ev.Fn := ⟨6, [.tmp 2], false, false, (Yq 0 [Yv 2 Yf] (Yq 1 [Yv 3 0, Yk 4 (.conv .strBytes 3), Yc 5 56 [4], Yv 2 5] .ret))⟩
theorem ok_c_Z2z : Qam Tryz.prog 33 c_Z2z = true := Qad Tryz.func33 (by kernel_rfl)
def s_Z2z (M : Mach) (a0 : V) (σ : Objs) : Ro :=
 bd (eC σ .strBytes a0.ng.ng) fun x0 =>
 bd (M.call 56 [x0.ng] σ) fun p1 =>
 bd (oK false p1.1.ng) (nK σ.length p1.2)
theorem k_Z2z (M : Mach) (a0 : V) (σ : Objs) : fnK M c_Z2z [a0] σ = s_Z2z M a0 σ := by kernel_rfl
def c_Z2r : Ev.Fn := ⟨6, [.tmp 2], false, false, (Yq 0 [Yv 2 Yf] (Yq 1 [Yk 3 (.buildSl false 1 10 Yn [(0, (Ys [104, 111, 118, 101, 114])), (1, (Ys [97, 99, 116, 105, 118, 101])), (2, (Ys [102, 111, 99, 117, 115])), (3, (Ys [102, 111, 99, 117, 115, 45, 118, 105, 115, 105, 98, 108, 101])), (4, (Ys [118, 105, 115, 105, 116, 101, 100])), (5, (Ys [108, 105, 110, 107])), (6, (Ys [99, 104, 101, 99, 107, 101, 100])), (7, (Ys [100, 105, 115, 97, 98, 108, 101, 100])), (8, (Ys [101, 110, 97, 98, 108, 101, 100])), (9, (Ys [116, 97, 114, 103, 101, 116]))] false), Yv 4 0, Yc 5 39 [3, 4], Yv 2 5] .ret))⟩
theorem ok_c_Z2r : Qam Tryz.prog 34 c_Z2r = true := Qad Tryz.func34 (by kernel_rfl)
def s_Z2r (M : Mach) (a0 : V) (σ : Objs) : Ro :=
 bd (Qax false 1 10 (.str []) [(0, (.str [104, 111, 118, 101, 114])), (1, (.str [97, 99, 116, 105, 118, 101])), (2, (.str [102, 111, 99, 117, 115])), (3, (.str [102, 111, 99, 117, 115, 45, 118, 105, 115, 105, 98, 108, 101])), (4, (.str [118, 105, 115, 105, 116, 101, 100])), (5, (.str [108, 105, 110, 107])), (6, (.str [99, 104, 101, 99, 107, 101, 100])), (7, (.str [100, 105, 115, 97, 98, 108, 101, 100])), (8, (.str [101, 110, 97, 98, 108, 101, 100])), (9, (.str [116, 97, 114, 103, 101, 116]))]) fun x0 =>
 bd (M.call 39 [x0.ng, a0.ng.ng] σ) fun p1 =>
 bd (oK false p1.1.ng) (nK σ.length p1.2)
theorem k_Z2r (M : Mach) (a0 : V) (σ : Objs) : fnK M c_Z2r [a0] σ = s_Z2r M a0 σ := by kernel_rfl
def c_Z2u : Ev.Fn := ⟨6, [.tmp 2], false, false, (Yq 0 [Yv 2 Yf] (Yq 1 [Yv 3 0, Yk 4 (.conv .strBytes 3), Yc 5 56 [4], Yv 2 5] .ret))⟩
theorem ok_c_Z2u : Qam Tryz.prog 37 c_Z2u = true := Qad Tryz.func37 (by kernel_rfl)
def s_Z2u (M : Mach) (a0 : V) (σ : Objs) : Ro :=
 bd (eC σ .strBytes a0.ng.ng) fun x0 =>
 bd (M.call 56 [x0.ng] σ) fun p1 =>
 bd (oK false p1.1.ng) (nK σ.length p1.2)
theorem k_Z2u (M : Mach) (a0 : V) (σ : Objs) : fnK M c_Z2u [a0] σ = s_Z2u M a0 σ := by kernel_rfl
def c_Z2t : Ev.Fn := ⟨10, [.tmp 2], false, false, (Yq 0 [Yv 2 Yf] (Yq 1 [Yv 3 0, Yk 4 (.lenS 3), Yo 5 .gtr .no 4 (Yi 0), Yv 6 5, ⟨some 7, (some (6, true)), .mv 0 false⟩, ⟨some 8, (some (6, true)), .call 37 [7]⟩, Yk 9 (.pick 6 8 Yf), Yv 2 9] .ret))⟩
theorem ok_c_Z2t : Qam Tryz.prog 38 c_Z2t = true := Qad Tryz.func38 (by kernel_rfl)
def s_Z2t (M : Mach) (a0 : V) (σ : Objs) : Ro :=
 bd (pu (Qe2 a0.ng.ng)) fun x0 =>
 bd (pu (eB .gtr .no x0.ng (.int .i64 0))) fun x1 =>
 bd (gdv x1.ng true (some a0.ng)) fun x2 =>
 bd (gdp x1.ng true (M.call 37 [x2.ng] σ) σ) fun p3 =>
 bd (pu (pV x1.ng.ng p3.1.ng (.bool false))) fun x4 =>
 bd (oK false x4.ng) (nK σ.length p3.2)
theorem k_Z2t (M : Mach) (a0 : V) (σ : Objs) : fnK M c_Z2t [a0] σ = s_Z2t M a0 σ := by kernel_rfl
def c_Z2p : Ev.Fn := ⟨18, [.tmp 4], false, false, (Yq 0 [Yv 4 Yf] (.seq (Yq 1 [Yv 5 (Yi 0)] (.block 0 (.loop [0, 1, 5] [4] (.seq (Yq 2 [Yv 6 5, Yv 7 0, Yh 8 7, Yo 9 .lss .no 6 8] (.cond 9 .skip (.exit 0))) (.seq (.block 1 (Yq 4 [Yv 12 0, Yv 13 5, Ye 14 1 12 13, Yl 15 false 1 14, Yv 16 1, Yo 17 .eql .no 15 16] (.cond 17 (Yq 5 [Yv 4 Yt] .ret) .skip))) (.ops 3 [Yv 10 5, Yo 11 .add .no 10 (Yi 1), Yv 5 11])))))) (Yq 6 [Yv 4 Yf] .ret)))⟩
theorem ok_c_Z2p : Qam Tryz.prog 39 c_Z2p = true := Qad Tryz.func39 (by kernel_rfl)
def b_Z2p_0 (M : Mach) (n0 : Nat) (n1 : Nat) (r1 : Rk) (z0 z1 z5 : V) (σ : Objs) : Ro :=
 bd (pu (Qaq z0.ng.ng)) fun x0 =>
 bd (pu (eB .lss .no z5.ng.ng x0.ng)) fun x1 =>
  br x1.ng (
 bd (pu (eI 1 z5.ng.ng z0.ng.ng)) fun x2 =>
 bd (pu (eL σ false 1 x2.ng)) fun x3 =>
 bd (pu (eB .eql .no x3.ng z1.ng.ng)) fun x4 =>
  br x4.ng (
 bd (fz n1 σ fzD (.bool true)) fun y5 =>
 bd (cuO n1 σ) fun s6 =>
 bd (oK false y5) (nK n0 s6)) (
 bd (pu (eB .add .no z5.ng.ng (.int .i64 1))) fun x7 =>
 bd (fz n1 σ fzD z0) fun y8 =>
 bd (fz n1 σ fzD z1) fun y9 =>
 bd (fz n1 σ fzD x7.ng) fun y10 =>
 bd (cuO n1 σ) fun s11 => r1 [y8, y9, y10] s11)) (
 bd (fz n1 σ fzD .any) fun y12 =>
 bd (cuO n1 σ) fun s13 =>
 bd (oK false (.bool false)) (nK n0 s13))
def l_Z2p_0 (M : Mach) (n0 : Nat) (n1 : Nat) : Rk := M.fx fun rec vs σ => b_Z2p_0 M n0 n1 rec (vs.getD 0 .undef) (vs.getD 1 .undef) (vs.getD 2 .undef) σ
def s_Z2p (M : Mach) (a0 a1 : V) (σ : Objs) : Ro :=
 bd (fz σ.length σ fzD a0) fun y14 =>
 bd (fz σ.length σ fzD a1) fun y15 =>
 bd (fz σ.length σ fzD (.int .i64 0)) fun y16 =>
  l_Z2p_0 M σ.length σ.length [y14, y15, y16] σ
theorem k_Z2p (M : Mach) (a0 a1 : V) (σ : Objs) : fnK M c_Z2p [a0, a1] σ = s_Z2p M a0 a1 σ := by kernel_rfl
end Go.Proofs.YtapnplljnpconaaGreatDoor
set_option maxRecDepth 100000
namespace Go.Proofs.YtapnplljnpconaaGreatDoor
open Go.Ev
def c_Z1h : Ev.Fn := ⟨9, [.tmp 4], false, false, (Yq 0 [Yv 4 Yf] (Yq 1 [Yu 5 0, Yv 6 1, Yc 7 67 [5, 6], Yo 8 .geq .no 7 (Yi 0), Yv 4 8] .ret))⟩
theorem ok_c_Z1h : Qam Tryz.prog 46 c_Z1h = true := Qad Tryz.func46 (by kernel_rfl)
def s_Z1h (M : Mach) (a0 a1 : V) (σ : Objs) : Ro :=
 bd (M.call 67 [a0.ng, a1.ng.ng] σ) fun p0 =>
 bd (pu (eB .geq .no p0.1.ng (.int .i64 0))) fun x1 =>
 bd (oK false x1.ng) (nK σ.length p0.2)
theorem k_Z1h (M : Mach) (a0 a1 : V) (σ : Objs) : fnK M c_Z1h [a0, a1] σ = s_Z1h M a0 a1 σ := by kernel_rfl
def c_Z2d : Ev.Fn := ⟨7, [.tmp 2], false, false, (Yq 0 [Yv 2 (.c .nils)] (Yq 1 [Yu 3 0, Yc 4 71 [3], Yc 5 70 [4], Yc 6 69 [5], Yu 2 6] .ret))⟩
theorem ok_c_Z2d : Qam Tryz.prog 48 c_Z2d = true := Qad Tryz.func48 (by kernel_rfl)
def c_Z2x : Ev.Fn := ⟨63, [.tmp 4, .tmp 5, .tmp 6], false, false, (Yq 0 [Yk 3 (.box 1), Yv 4 (.c .nils), Yv 5 (Yi 0), Yv 6 (Yi 0)] (.seq (Yq 1 [Yl 12 true 4 3, Yc 13 14 [12], Yk 14 (.un .not 13)] (.cond 14 (Yq 2 [Yv 4 (.c .nils), Yv 5 (Yi 11), Yv 6 (Yi 0)] .ret) .skip)) (Yq 3 [Yv 15 0, Yu 7 15] (.seq (Yq 4 [Yv 8 (Yi 0)] (.block 0 (.loop [0, 3, 7, 8] [3, 4, 5, 6, 7] (.seq (Yq 5 [Yv 16 8, Yv 17 0, Yh 18 17, Yo 19 .lss .no 16 18] (.cond 19 .skip (.exit 0))) (.seq (.block 1 (Yq 7 [Yv 22 0, Yv 23 8, Ye 24 6 22 23, Ya 25 0 24, Yl 26 false 1 25, Yo 27 .eql .no 26 (Yi 0)] (.cond 27 (Yq 8 [Yu 28 0, Yv 29 8, Yo 30 .add .no 29 (Yi 1), Yk 31 (.cut 6 28 none (some 30) none), Yv 7 31] (.exit 0)) .skip))) (.ops 6 [Yv 20 8, Yo 21 .add .no 20 (Yi 1), Yv 8 21])))))) (Yq 9 [Yu 32 7, Yl 33 true 4 3, Yk 34 (.build [.nils, Yb, Yn, .nils, .nils, Y0, Y0, Y0, Yb] [(0, 1, 32), (1, 4, 33)]), Yk 35 (.box 34), Yv 9 35] (Yq 10 [Yv 37 9, Yc 38 68 [37, (Yi 0), (Yi 0), (Yi 1)], Yv 36 38, Yx 39 36 0, Yx 40 36 1, Yv 10 39, Yv 11 40] (.seq (Yq 11 [Yv 41 9, Yk 42 (.nilc 41), Ya 43 5 42, Yl 44 false 1 43, Yo 45 .neq .no 44 (Yi 0)] (.cond 45 (.seq (.drw 12 [⟨Yv 46 9, 0, []⟩, ⟨Yk 47 (.nilc 46), 1, []⟩, ⟨Ya 48 5 47, 2, []⟩, ⟨Yl 49 false 1 48, 3, []⟩, ⟨Yv 50 9, 4, []⟩, ⟨Yk 51 (.nilc 50), 5, []⟩, ⟨Ya 52 6 51, 6, []⟩, ⟨Yl 53 false 1 52, 7, []⟩, ⟨Yv 4 (.c .nils), 8, []⟩, ⟨Yv 5 49, 9, []⟩, ⟨Yv 6 53, 10, []⟩]) .ret) .skip)) (.seq (Yq 13 [Yv 54 9, Yk 55 (.nilc 54), Ya 56 8 55, Yl 57 false 1 56] (.cond 57 (.seq (.drw 14 [⟨Yv 58 9, 0, []⟩, ⟨Yk 59 (.nilc 58), 1, []⟩, ⟨Ya 60 7 59, 2, []⟩, ⟨Yl 61 false 1 60, 3, []⟩, ⟨Yv 4 (.c .nils), 4, []⟩, ⟨Yv 5 (Yi 20), 5, []⟩, ⟨Yv 6 61, 6, []⟩]) .ret) .skip)) (Yq 15 [Yv 62 10, Yv 4 62, Yv 5 (Yi 0), Yv 6 (Yi 0)] .ret)))))))))⟩
theorem ok_c_Z2x : Qam Tryz.prog 47 c_Z2x = true := Qad Tryz.func47 (by kernel_rfl)
def c_Z2s : Ev.Fn := ⟨114, [.tmp 6], false, false, (Yq 0 [Yv 6 (Yi 0)] (Yq 1 [Yv 12 0, Yh 13 12, Yv 7 13] (.seq (Yq 2 [Yv 8 (Yi 0)] (.block 0 (.loop [0, 1, 2, 7, 8] [6, 7] (.seq (Yq 3 [Yv 14 8, Yv 15 0, Yh 16 15, Yo 17 .lss .no 14 16, Yv 18 17, ⟨some 19, (some (18, true)), .mv 7 false⟩, ⟨some 20, (some (18, true)), .mv 1 false⟩, ⟨some 21, (some (18, true)), .bin .leq .no 19 20⟩, Yk 22 (.pick 18 21 Yf)] (.cond 22 .skip (.exit 0))) (.seq (.block 1 (Yq 5 [Yv 25 7, Yv 26 0, Yv 27 8, Ye 28 1 26 27, Ya 29 0 28, Yl 30 false 1 29, Yh 31 30, Yo 32 .add .no 25 31, Yv 7 32] (Yq 6 [Yv 9 (Yi 0)] (.block 2 (.loop [0, 1, 2, 7, 8, 9] [0, 1, 2, 6, 7, 8] (.seq (Yq 7 [Yv 33 9, Yv 34 0, Yv 35 8, Ye 36 1 34 35, Ya 37 0 36, Yl 38 false 1 37, Yh 39 38, Yo 40 .lss .no 33 39, Yv 41 40, ⟨some 42, (some (41, true)), .mv 7 false⟩, ⟨some 43, (some (41, true)), .mv 1 false⟩, ⟨some 44, (some (41, true)), .bin .leq .no 42 43⟩, Yk 45 (.pick 41 44 Yf)] (.cond 45 .skip (.exit 2))) (.seq (.block 3 (Yq 9 [Yv 48 0, Yv 49 8, Ye 50 1 48 49, Ya 51 0 50, Yl 52 false 1 51, Yv 53 9, Ye 54 2 52 53, Ya 55 1 54, Yl 56 false 1 55, Yu 10 56] (Yq 10 [Yv 11 (Yi 0)] (.block 4 (.loop [0, 1, 2, 7, 8, 9, 10, 11] [0, 1, 2, 6, 7, 8, 9] (.seq (Yq 11 [Yv 57 11, Yv 58 10, Yh 59 58, Yo 60 .lss .no 57 59, Yv 61 60, ⟨some 62, (some (61, true)), .mv 7 false⟩, ⟨some 63, (some (61, true)), .mv 1 false⟩, ⟨some 64, (some (61, true)), .bin .leq .no 62 63⟩, Yk 65 (.pick 61 64 Yf)] (.cond 65 .skip (.exit 4))) (.seq (.block 5 (Yq 13 [Yv 68 7, Yo 69 .add .no 68 (Yi 1), Yv 7 69] (.seq (Yq 14 [Yv 70 10, Yv 71 11, Ye 72 11 70 71, Ya 73 3 72, Yl 74 false 1 73, Yk 75 (.lenS 74), Yo 76 .gtr .no 75 (Yi 100), Yv 77 76, ⟨some 78, (some (77, false)), .mv 10 false⟩, ⟨some 79, (some (77, false)), .mv 11 false⟩, ⟨some 80, (some (77, false)), .iaddr 11 78 79⟩, ⟨some 81, (some (77, false)), .faddr 2 80⟩, ⟨some 82, (some (77, false)), .load false 1 81⟩, ⟨some 83, (some (77, false)), .lenS 82⟩, ⟨some 84, (some (77, false)), .bin .gtr .no 83 (Yi 100)⟩, Yk 85 (.pick 77 Yt 84), Yv 86 85, ⟨some 87, (some (86, false)), .mv 10 false⟩, ⟨some 88, (some (86, false)), .mv 11 false⟩, ⟨some 89, (some (86, false)), .iaddr 11 87 88⟩, ⟨some 90, (some (86, false)), .faddr 4 89⟩, ⟨some 91, (some (86, false)), .faddr 1 90⟩, ⟨some 92, (some (86, false)), .load false 1 91⟩, ⟨some 93, (some (86, false)), .lenS 92⟩, ⟨some 94, (some (86, false)), .bin .gtr .no 93 (Yi 100)⟩, Yk 95 (.pick 86 Yt 94), Yv 96 95, ⟨some 97, (some (96, false)), .mv 2 false⟩, ⟨some 98, (some (96, false)), .bin .gtr .no 97 (Yi 40)⟩, Yk 99 (.pick 96 Yt 98)] (.cond 99 (Yq 15 [Yv 100 1, Yo 101 .add .no 100 (Yi 1), Yv 6 101] .ret) .skip)) (.ops 16 [Yv 102 7, Yv 103 10, Yv 104 11, Ye 105 11 103 104, Ya 106 10 105, Yl 107 false 1 106, Yv 108 1, Yv 109 2, Yo 110 .add .no 109 (Yi 1), Yc 111 49 [107, 108, 110], Yo 112 .add .no 102 111, Yv 7 112])))) (.ops 12 [Yv 66 11, Yo 67 .add .no 66 (Yi 1), Yv 11 67])))))))) (.ops 8 [Yv 46 9, Yo 47 .add .no 46 (Yi 1), Yv 9 47])))))))) (.ops 4 [Yv 23 8, Yo 24 .add .no 23 (Yi 1), Yv 8 24])))))) (Yq 17 [Yv 113 7, Yv 6 113] .ret))))⟩
theorem ok_c_Z2s : Qam Tryz.prog 49 c_Z2s = true := Qad Tryz.func49 (by kernel_rfl)
def b_Z2s_2 (M : Mach) (n0 : Nat) (n1 : Nat) (r1 : Rk) (n2 : Nat) (r2 : Rk) (n3 : Nat) (r3 : Rk) (z0 z1 z2 z7 z8 z9 z10 z11 : V) (σ : Objs) : Ro :=
 bd (pu (Qaq z10.ng.ng)) fun x27 =>
 bd (pu (eB .lss .no z11.ng.ng x27.ng)) fun x28 =>
 bd (gdv x28.ng true (some z7.ng)) fun x29 =>
 bd (gdv x28.ng true (some z1.ng)) fun x30 =>
 bd (gdv x28.ng true (pu (eB .leq .no x29.ng x30.ng))) fun x31 =>
 bd (pu (pV x28.ng.ng x31.ng (.bool false))) fun x32 =>
  br x32.ng (
 bd (pu (eB .add .no z7.ng.ng (.int .i64 1))) fun x33 =>
 bd (pu (eI 11 z11.ng.ng z10.ng.ng)) fun x34 =>
 bd (pu (eF 3 x34.ng)) fun x35 =>
 bd (pu (eL σ false 1 x35.ng)) fun x36 =>
 bd (pu (Qe2 x36.ng)) fun x37 =>
 bd (pu (eB .gtr .no x37.ng (.int .i64 100))) fun x38 =>
 bd (gdv x38.ng false (some z10.ng)) fun x39 =>
 bd (gdv x38.ng false (some z11.ng)) fun x40 =>
 bd (gdv x38.ng false (pu (eI 11 x40.ng x39.ng))) fun x41 =>
 bd (gdv x38.ng false (pu (eF 2 x41.ng))) fun x42 =>
 bd (gdv x38.ng false (pu (eL σ false 1 x42.ng))) fun x43 =>
 bd (gdv x38.ng false (pu (Qe2 x43.ng))) fun x44 =>
 bd (gdv x38.ng false (pu (eB .gtr .no x44.ng (.int .i64 100)))) fun x45 =>
 bd (pu (pV x38.ng.ng (.bool true) x45.ng)) fun x46 =>
 bd (gdv x46.ng false (some z10.ng)) fun x47 =>
 bd (gdv x46.ng false (some z11.ng)) fun x48 =>
 bd (gdv x46.ng false (pu (eI 11 x48.ng x47.ng))) fun x49 =>
 bd (gdv x46.ng false (pu (eF 4 x49.ng))) fun x50 =>
 bd (gdv x46.ng false (pu (eF 1 x50.ng))) fun x51 =>
 bd (gdv x46.ng false (pu (eL σ false 1 x51.ng))) fun x52 =>
 bd (gdv x46.ng false (pu (Qe2 x52.ng))) fun x53 =>
 bd (gdv x46.ng false (pu (eB .gtr .no x53.ng (.int .i64 100)))) fun x54 =>
 bd (pu (pV x46.ng.ng (.bool true) x54.ng)) fun x55 =>
 bd (gdv x55.ng false (some z2.ng)) fun x56 =>
 bd (gdv x55.ng false (pu (eB .gtr .no x56.ng (.int .i64 40)))) fun x57 =>
 bd (pu (pV x55.ng.ng (.bool true) x57.ng)) fun x58 =>
  br x58.ng (
 bd (pu (eB .add .no z1.ng.ng (.int .i64 1))) fun x59 =>
 bd (fz n3 σ fzD z0) fun y60 =>
 bd (fz n3 σ fzD z1) fun y61 =>
 bd (fz n3 σ fzD z2) fun y62 =>
 bd (fz n3 σ fzD x59.ng) fun y63 =>
 bd (fz n3 σ fzD x33.ng) fun y64 =>
 bd (fz n3 σ fzD z8) fun y65 =>
 bd (fz n3 σ fzD z9) fun y66 =>
 bd (cuO n3 σ) fun s67 =>
 bd (fz n2 s67 fzD y60) fun y68 =>
 bd (fz n2 s67 fzD y61) fun y69 =>
 bd (fz n2 s67 fzD y62) fun y70 =>
 bd (fz n2 s67 fzD y63) fun y71 =>
 bd (fz n2 s67 fzD y64) fun y72 =>
 bd (fz n2 s67 fzD y65) fun y73 =>
 bd (cuO n2 s67) fun s74 =>
 bd (fz n1 s74 fzD y71) fun y75 =>
 bd (fz n1 s74 fzD y72) fun y76 =>
 bd (cuO n1 s74) fun s77 =>
 bd (oK false y75) (nK n0 s77)) (
 bd (pu (eI 11 z11.ng.ng z10.ng.ng)) fun x78 =>
 bd (pu (eF 10 x78.ng)) fun x79 =>
 bd (pu (eL σ false 1 x79.ng)) fun x80 =>
 bd (pu (eB .add .no z2.ng.ng (.int .i64 1))) fun x81 =>
 bd (M.call 49 [x80.ng, z1.ng.ng, x81.ng] σ) fun p82 =>
 bd (pu (eB .add .no x33.ng.ng.ng p82.1.ng)) fun x83 =>
 bd (pu (eB .add .no z11.ng.ng (.int .i64 1))) fun x84 =>
 bd (fz n3 p82.2 fzD z0) fun y85 =>
 bd (fz n3 p82.2 fzD z1) fun y86 =>
 bd (fz n3 p82.2 fzD z2) fun y87 =>
 bd (fz n3 p82.2 fzD x83.ng) fun y88 =>
 bd (fz n3 p82.2 fzD z8) fun y89 =>
 bd (fz n3 p82.2 fzD z9) fun y90 =>
 bd (fz n3 p82.2 fzD z10) fun y91 =>
 bd (fz n3 p82.2 fzD x84.ng) fun y92 =>
 bd (cuO n3 p82.2) fun s93 => r3 [y85, y86, y87, y88, y89, y90, y91, y92] s93)) (
 bd (fz n3 σ fzD z0) fun y94 =>
 bd (fz n3 σ fzD z1) fun y95 =>
 bd (fz n3 σ fzD z2) fun y96 =>
 bd (fz n3 σ fzD .any) fun y97 =>
 bd (fz n3 σ fzD z7) fun y98 =>
 bd (fz n3 σ fzD z8) fun y99 =>
 bd (fz n3 σ fzD z9) fun y100 =>
 bd (cuO n3 σ) fun s101 =>
 bd (pu (eB .add .no y100.ng.ng (.int .i64 1))) fun x102 =>
 bd (fz n2 s101 fzD y94) fun y103 =>
 bd (fz n2 s101 fzD y95) fun y104 =>
 bd (fz n2 s101 fzD y96) fun y105 =>
 bd (fz n2 s101 fzD y98) fun y106 =>
 bd (fz n2 s101 fzD y99) fun y107 =>
 bd (fz n2 s101 fzD x102.ng) fun y108 =>
 bd (cuO n2 s101) fun s109 => r2 [y103, y104, y105, y106, y107, y108] s109)
def l_Z2s_2 (M : Mach) (n0 : Nat) (n1 : Nat) (r1 : Rk) (n2 : Nat) (r2 : Rk) (n3 : Nat) : Rk := M.fx fun rec vs σ => b_Z2s_2 M n0 n1 r1 n2 r2 n3 rec (vs.getD 0 .undef) (vs.getD 1 .undef) (vs.getD 2 .undef) (vs.getD 3 .undef) (vs.getD 4 .undef) (vs.getD 5 .undef) (vs.getD 6 .undef) (vs.getD 7 .undef) σ
def b_Z2s_1 (M : Mach) (n0 : Nat) (n1 : Nat) (r1 : Rk) (n2 : Nat) (r2 : Rk) (z0 z1 z2 z7 z8 z9 : V) (σ : Objs) : Ro :=
 bd (pu (eI 1 z8.ng.ng z0.ng.ng)) fun x12 =>
 bd (pu (eF 0 x12.ng)) fun x13 =>
 bd (pu (eL σ false 1 x13.ng)) fun x14 =>
 bd (pu (Qaq x14.ng)) fun x15 =>
 bd (pu (eB .lss .no z9.ng.ng x15.ng)) fun x16 =>
 bd (gdv x16.ng true (some z7.ng)) fun x17 =>
 bd (gdv x16.ng true (some z1.ng)) fun x18 =>
 bd (gdv x16.ng true (pu (eB .leq .no x17.ng x18.ng))) fun x19 =>
 bd (pu (pV x16.ng.ng x19.ng (.bool false))) fun x20 =>
  br x20.ng (
 bd (pu (eI 1 z8.ng.ng z0.ng.ng)) fun x21 =>
 bd (pu (eF 0 x21.ng)) fun x22 =>
 bd (pu (eL σ false 1 x22.ng)) fun x23 =>
 bd (pu (eI 2 z9.ng.ng x23.ng)) fun x24 =>
 bd (pu (eF 1 x24.ng)) fun x25 =>
 bd (pu (eL σ false 1 x25.ng)) fun x26 =>
 bd (fz σ.length σ fzD z0) fun y110 =>
 bd (fz σ.length σ fzD z1) fun y111 =>
 bd (fz σ.length σ fzD z2) fun y112 =>
 bd (fz σ.length σ fzD z7) fun y113 =>
 bd (fz σ.length σ fzD z8) fun y114 =>
 bd (fz σ.length σ fzD z9) fun y115 =>
 bd (fz σ.length σ fzD x26) fun y116 =>
 bd (fz σ.length σ fzD (.int .i64 0)) fun y117 =>
  l_Z2s_2 M n0 n1 r1 n2 r2 σ.length [y110, y111, y112, y113, y114, y115, y116, y117] σ) (
 bd (fz n2 σ fzD z0) fun y118 =>
 bd (fz n2 σ fzD z1) fun y119 =>
 bd (fz n2 σ fzD z2) fun y120 =>
 bd (fz n2 σ fzD .any) fun y121 =>
 bd (fz n2 σ fzD z7) fun y122 =>
 bd (fz n2 σ fzD z8) fun y123 =>
 bd (cuO n2 σ) fun s124 =>
 bd (pu (eB .add .no y123.ng.ng (.int .i64 1))) fun x125 =>
 bd (fz n1 s124 fzD y118) fun y126 =>
 bd (fz n1 s124 fzD y119) fun y127 =>
 bd (fz n1 s124 fzD y120) fun y128 =>
 bd (fz n1 s124 fzD y122) fun y129 =>
 bd (fz n1 s124 fzD x125.ng) fun y130 =>
 bd (cuO n1 s124) fun s131 => r1 [y126, y127, y128, y129, y130] s131)
def l_Z2s_1 (M : Mach) (n0 : Nat) (n1 : Nat) (r1 : Rk) (n2 : Nat) : Rk := M.fx fun rec vs σ => b_Z2s_1 M n0 n1 r1 n2 rec (vs.getD 0 .undef) (vs.getD 1 .undef) (vs.getD 2 .undef) (vs.getD 3 .undef) (vs.getD 4 .undef) (vs.getD 5 .undef) σ
def b_Z2s_0 (M : Mach) (n0 : Nat) (n1 : Nat) (r1 : Rk) (z0 z1 z2 z7 z8 : V) (σ : Objs) : Ro :=
 bd (pu (Qaq z0.ng.ng)) fun x1 =>
 bd (pu (eB .lss .no z8.ng.ng x1.ng)) fun x2 =>
 bd (gdv x2.ng true (some z7.ng)) fun x3 =>
 bd (gdv x2.ng true (some z1.ng)) fun x4 =>
 bd (gdv x2.ng true (pu (eB .leq .no x3.ng x4.ng))) fun x5 =>
 bd (pu (pV x2.ng.ng x5.ng (.bool false))) fun x6 =>
  br x6.ng (
 bd (pu (eI 1 z8.ng.ng z0.ng.ng)) fun x7 =>
 bd (pu (eF 0 x7.ng)) fun x8 =>
 bd (pu (eL σ false 1 x8.ng)) fun x9 =>
 bd (pu (Qaq x9.ng)) fun x10 =>
 bd (pu (eB .add .no z7.ng.ng x10.ng)) fun x11 =>
 bd (fz σ.length σ fzD z0) fun y132 =>
 bd (fz σ.length σ fzD z1) fun y133 =>
 bd (fz σ.length σ fzD z2) fun y134 =>
 bd (fz σ.length σ fzD x11.ng) fun y135 =>
 bd (fz σ.length σ fzD z8) fun y136 =>
 bd (fz σ.length σ fzD (.int .i64 0)) fun y137 =>
  l_Z2s_1 M n0 n1 r1 σ.length [y132, y133, y134, y135, y136, y137] σ) (
 bd (fz n1 σ fzD .any) fun y138 =>
 bd (fz n1 σ fzD z7) fun y139 =>
 bd (cuO n1 σ) fun s140 =>
 bd (oK false y139.ng.ng) (nK n0 s140))
def l_Z2s_0 (M : Mach) (n0 : Nat) (n1 : Nat) : Rk := M.fx fun rec vs σ => b_Z2s_0 M n0 n1 rec (vs.getD 0 .undef) (vs.getD 1 .undef) (vs.getD 2 .undef) (vs.getD 3 .undef) (vs.getD 4 .undef) σ
def s_Z2s (M : Mach) (a0 a1 a2 : V) (σ : Objs) : Ro :=
 bd (pu (Qaq a0.ng.ng)) fun x0 =>
 bd (fz σ.length σ fzD a0) fun y141 =>
 bd (fz σ.length σ fzD a1) fun y142 =>
 bd (fz σ.length σ fzD a2) fun y143 =>
 bd (fz σ.length σ fzD x0.ng) fun y144 =>
 bd (fz σ.length σ fzD (.int .i64 0)) fun y145 =>
  l_Z2s_0 M σ.length σ.length [y141, y142, y143, y144, y145] σ
theorem k_Z2s (M : Mach) (a0 a1 a2 : V) (σ : Objs) : fnK M c_Z2s [a0, a1, a2] σ = s_Z2s M a0 a1 a2 σ := by kernel_rfl
def c_Z1g : Ev.Fn := ⟨6, [.tmp 2], false, false, (Yq 0 [Yv 2 Yf] (Yq 1 [Yv 3 0, Yk 4 (.conv .strBytes 3), Yc 5 72 [4], Yv 2 5] .ret))⟩
theorem ok_c_Z1g : Qam Tryz.prog 50 c_Z1g = true := Qad Tryz.func50 (by kernel_rfl)
def s_Z1g (M : Mach) (a0 : V) (σ : Objs) : Ro :=
 bd (eC σ .strBytes a0.ng.ng) fun x0 =>
 bd (M.call 72 [x0.ng] σ) fun p1 =>
 bd (oK false p1.1.ng) (nK σ.length p1.2)
theorem k_Z1g (M : Mach) (a0 : V) (σ : Objs) : fnK M c_Z1g [a0] σ = s_Z1g M a0 σ := by kernel_rfl
def c_Z1b : Ev.Fn := ⟨9, [.tmp 2], false, false, (Yq 0 [Yv 2 Yf] (Yq 1 [Yv 3 0, Yo 4 .neq .no 3 (Ys []), Yv 5 4, ⟨some 6, (some (5, true)), .mv 0 false⟩, ⟨some 7, (some (5, true)), .call 50 [6]⟩, Yk 8 (.pick 5 7 Yf), Yv 2 8] .ret))⟩
theorem ok_c_Z1b : Qam Tryz.prog 51 c_Z1b = true := Qad Tryz.func51 (by kernel_rfl)
def s_Z1b (M : Mach) (a0 : V) (σ : Objs) : Ro :=
 bd (pu (eB .neq .no a0.ng.ng (.str []))) fun x0 =>
 bd (gdv x0.ng true (some a0.ng)) fun x1 =>
 bd (gdp x0.ng true (M.call 50 [x1.ng] σ) σ) fun p2 =>
 bd (pu (pV x0.ng.ng p2.1.ng (.bool false))) fun x3 =>
 bd (oK false x3.ng) (nK σ.length p2.2)
theorem k_Z1b (M : Mach) (a0 : V) (σ : Objs) : fnK M c_Z1b [a0] σ = s_Z1b M a0 σ := by kernel_rfl
def c_Zw : Ev.Fn := ⟨10, [.tmp 4], false, false, (Yq 0 [Yv 4 (.c .nili)] (Yq 1 [Yv 5 0, Yv 6 1, Yk 7 (.build [Y0, Y0, .nili] [(0, 1, 5), (1, 1, 6)]), Yk 8 (.box 7), Yk 9 (.mkif 98 8), Yv 4 9] .ret))⟩
theorem ok_c_Zw : Qam Tryz.prog 52 c_Zw = true := Qad Tryz.func52 (by kernel_rfl)
def s_Zw (M : Mach) (a0 a1 : V) (σ : Objs) : Ro :=
 bd (pu (Qa2 [(.int .i64 0), (.int .i64 0), .nili] [(0, 1, a0.ng.ng), (1, 1, a1.ng.ng)])) fun x0 =>
 bd (boxV σ x0.ng) fun p1 =>
 bd (oK false (.ifc 98 p1.1.ng)) (nK σ.length p1.2)
theorem k_Zw (M : Mach) (a0 a1 : V) (σ : Objs) : fnK M c_Zw [a0, a1] σ = s_Zw M a0 a1 σ := by kernel_rfl
def c_Zp : Ev.Fn := ⟨67, [.tmp 6], false, false, (Yq 0 [Yk 3 (.box 0), Yv 6 Yf] (.seq (Yq 1 [Yv 12 1, Yh 13 12, Yv 14 (Yi 0)] (.block 0 (.loop [1, 2, 3, 12, 13, 14] [1, 6] (Yq 2 [Yo 15 .lss .no 14 13] (.seq (.cond 15 .skip (.exit 0)) (.seq (.block 1 (Yq 3 [Ye 16 1 12 14, Yl 17 true 1 16, Yk 8 (.alloc [.nils]), Yw 1 8 17 false] (.seq (Yq 4 [Ya 18 0 8, Yl 19 false 1 18, Yh 20 19, Yo 21 .eql .no 20 (Yi 0)] (.cond 21 (Yq 5 [Yv 6 Yf] .ret) .skip)) (Yq 6 [Ya 22 0 8, Yl 23 false 1 22, Yh 24 23, Yv 25 (Yi 0)] (.block 2 (.loop [1, 2, 3, 8, 12, 13, 14, 23, 24, 25] [1, 2, 3, 6, 12, 13, 14] (Yq 7 [Yo 26 .lss .no 25 24] (.seq (.cond 26 .skip (.exit 2)) (.seq (.block 3 (Yq 8 [Yv 27 25, Ye 28 2 23 25, Yl 29 true 2 28, Yk 10 (.alloc [Y0, .nils]), Yv 9 27, Yw 2 10 29 false] (Yq 9 [Ya 30 0 10, Yl 31 false 1 30, Yo 32 .eql .no 31 (Yi 0), Yv 11 32] (Yq 10 [Ya 33 0 10, Yl 34 false 1 33, Yo 35 .lss .no 34 (Yi 0), Yv 36 35, ⟨some 37, (some (36, false)), .faddr 0 10⟩, ⟨some 38, (some (36, false)), .load false 1 37⟩, ⟨some 39, (some (36, false)), .bin .gtr .no 38 (Yi 4)⟩, Yk 40 (.pick 36 Yt 39), Yv 41 40, ⟨some 42, (some (41, false)), .mv 11 false⟩, ⟨some 43, (some (41, false)), .mv 9 false⟩, ⟨some 44, (some (41, false)), .bin .eql .no 43 (Yi 0)⟩, ⟨some 45, (some (41, false)), .bin .neq .bool 42 44⟩, Yk 46 (.pick 41 Yt 45), Yv 47 46, ⟨some 48, (some (47, false)), .load true 4 3⟩, ⟨some 49, (some (47, false)), .load true 2 10⟩, ⟨some 50, (some (47, false)), .mv 2 false⟩, ⟨some 51, (some (47, false)), .mv 50 false⟩, ⟨some 52, (some (51, true)), .mv 9 false⟩, ⟨some 53, (some (51, true)), .faddr 0 8⟩, ⟨some 54, (some (51, true)), .load false 1 53⟩, ⟨some 55, (some (51, true)), .len 54⟩, ⟨some 56, (some (51, true)), .bin .sub .no 55 (Yi 1)⟩, ⟨some 57, (some (51, true)), .bin .eql .no 52 56⟩, ⟨some 58, (some (47, false)), .pick 51 57 Yf⟩, ⟨some 59, (some (47, false)), .call 74 [48, 49, 58]⟩, ⟨some 60, (some (47, false)), .un .not 59⟩, Yk 61 (.pick 47 Yt 60)] (.cond 61 (Yq 11 [Yv 6 Yf] .ret) .skip))))) (.ops 12 [Yo 62 .add .no 25 (Yi 1), Yv 25 62])))))))))) (.ops 13 [Yo 63 .add .no 14 (Yi 1), Yv 14 63]))))))) (Yq 14 [Yu 64 1, Yh 65 64, Yo 66 .gtr .no 65 (Yi 0), Yv 6 66] .ret)))⟩
theorem ok_c_Zp : Qam Tryz.prog 54 c_Zp = true := Qad Tryz.func54 (by kernel_rfl)
def j_Zp_0 (M : Mach) (n0 : Nat) (n1 : Nat) (r1 : Rk) (z1 z6 : V) (σ : Objs) : Ro :=
 bd (fz n1 σ fzD z1) fun y2 =>
 bd (fz n1 σ fzD z6) fun y3 =>
 bd (cuO n1 σ) fun s4 =>
 bd (oK false y3) (nK n0 s4)
def b_Zp_1 (M : Mach) (n0 : Nat) (n1 : Nat) (r1 : Rk) (n2 : Nat) (r2 : Rk) (z1 z2 z3 z8 z12 z13 z14 z23 z24 z25 : V) (σ : Objs) : Ro :=
 bd (pu (eB .lss .no z25.ng z24.ng)) fun x17 =>
  br x17.ng (
 bd (pu (eI 2 z25.ng z23.ng)) fun x18 =>
 bd (pu (eL σ true 2 x18.ng)) fun x19 =>
  let s20 : Objs := σ ++ [.cells [(.int .i64 0), .nils]]
 bd (stV s20 2 (.ptr σ.length 0) x19.ng x19.ng) fun p21 =>
 bd (pu (eF 0 (.ptr σ.length 0))) fun x22 =>
 bd (pu (eL p21.2 false 1 x22.ng)) fun x23 =>
 bd (pu (eB .eql .no x23.ng (.int .i64 0))) fun x24 =>
 bd (pu (eF 0 (.ptr σ.length 0))) fun x25 =>
 bd (pu (eL p21.2 false 1 x25.ng)) fun x26 =>
 bd (pu (eB .lss .no x26.ng (.int .i64 0))) fun x27 =>
 bd (gdv x27.ng false (pu (eF 0 (.ptr σ.length 0)))) fun x28 =>
 bd (gdv x27.ng false (pu (eL p21.2 false 1 x28.ng))) fun x29 =>
 bd (gdv x27.ng false (pu (eB .gtr .no x29.ng (.int .i64 4)))) fun x30 =>
 bd (pu (pV x27.ng.ng (.bool true) x30.ng)) fun x31 =>
 bd (gdv x31.ng false (some x24.ng.ng)) fun x32 =>
 bd (gdv x31.ng false (some z25.ng.ng.ng)) fun x33 =>
 bd (gdv x31.ng false (pu (eB .eql .no x33.ng (.int .i64 0)))) fun x34 =>
 bd (gdv x31.ng false (pu (eB .neq .bool x32.ng x34.ng))) fun x35 =>
 bd (pu (pV x31.ng.ng (.bool true) x35.ng)) fun x36 =>
 bd (gdv x36.ng false (pu (eL p21.2 true 4 z3.ng))) fun x37 =>
 bd (gdv x36.ng false (pu (eL p21.2 true 2 (.ptr σ.length 0)))) fun x38 =>
 bd (gdv x36.ng false (some z2.ng)) fun x39 =>
 bd (gdv x36.ng false (some x39.ng)) fun x40 =>
 bd (gdv x40 true (some z25.ng.ng.ng)) fun x41 =>
 bd (gdv x40 true (pu (eF 0 z8.ng))) fun x42 =>
 bd (gdv x40 true (pu (eL p21.2 false 1 x42.ng))) fun x43 =>
 bd (gdv x40 true (pu (Qaq x43.ng))) fun x44 =>
 bd (gdv x40 true (pu (eB .sub .no x44.ng (.int .i64 1)))) fun x45 =>
 bd (gdv x40 true (pu (eB .eql .no x41.ng x45.ng))) fun x46 =>
 bd (gdv x36.ng false (pu (pV x40.ng x46.ng (.bool false)))) fun x47 =>
 bd (gdp x36.ng false (M.call 74 [x37.ng, x38.ng, x47.ng] p21.2) p21.2) fun p48 =>
 bd (gdv x36.ng false (pu (evUn .not p48.1.ng))) fun x49 =>
 bd (pu (pV x36.ng.ng (.bool true) x49.ng)) fun x50 =>
  br x50.ng (
 bd (fz n2 p48.2 fzD z1) fun y51 =>
 bd (fz n2 p48.2 fzD z2) fun y52 =>
 bd (fz n2 p48.2 fzD z3) fun y53 =>
 bd (fz n2 p48.2 fzD (.bool false)) fun y54 =>
 bd (fz n2 p48.2 fzD z12) fun y55 =>
 bd (fz n2 p48.2 fzD z13) fun y56 =>
 bd (fz n2 p48.2 fzD z14) fun y57 =>
 bd (cuO n2 p48.2) fun s58 =>
  j_Zp_0 M n0 n1 r1 y51 y54 s58) (
 bd (pu (eB .add .no z25.ng (.int .i64 1))) fun x59 =>
 bd (fz n2 p48.2 fzD z1) fun y60 =>
 bd (fz n2 p48.2 fzD z2) fun y61 =>
 bd (fz n2 p48.2 fzD z3) fun y62 =>
 bd (fz n2 p48.2 fzD z8) fun y63 =>
 bd (fz n2 p48.2 fzD z12) fun y64 =>
 bd (fz n2 p48.2 fzD z13) fun y65 =>
 bd (fz n2 p48.2 fzD z14) fun y66 =>
 bd (fz n2 p48.2 fzD z23) fun y67 =>
 bd (fz n2 p48.2 fzD z24) fun y68 =>
 bd (fz n2 p48.2 fzD x59.ng) fun y69 =>
 bd (cuO n2 p48.2) fun s70 => r2 [y60, y61, y62, y63, y64, y65, y66, y67, y68, y69] s70)) (
 bd (fz n2 σ fzD z1) fun y71 =>
 bd (fz n2 σ fzD z2) fun y72 =>
 bd (fz n2 σ fzD z3) fun y73 =>
 bd (fz n2 σ fzD .any) fun y74 =>
 bd (fz n2 σ fzD z12) fun y75 =>
 bd (fz n2 σ fzD z13) fun y76 =>
 bd (fz n2 σ fzD z14) fun y77 =>
 bd (cuO n2 σ) fun s78 =>
 bd (pu (eB .add .no y77.ng (.int .i64 1))) fun x79 =>
 bd (fz n1 s78 fzD y71) fun y80 =>
 bd (fz n1 s78 fzD y72) fun y81 =>
 bd (fz n1 s78 fzD y73) fun y82 =>
 bd (fz n1 s78 fzD y75) fun y83 =>
 bd (fz n1 s78 fzD y76) fun y84 =>
 bd (fz n1 s78 fzD x79.ng) fun y85 =>
 bd (cuO n1 s78) fun s86 => r1 [y80, y81, y82, y83, y84, y85] s86)
def l_Zp_1 (M : Mach) (n0 : Nat) (n1 : Nat) (r1 : Rk) (n2 : Nat) : Rk := M.fx fun rec vs σ => b_Zp_1 M n0 n1 r1 n2 rec (vs.getD 0 .undef) (vs.getD 1 .undef) (vs.getD 2 .undef) (vs.getD 3 .undef) (vs.getD 4 .undef) (vs.getD 5 .undef) (vs.getD 6 .undef) (vs.getD 7 .undef) (vs.getD 8 .undef) (vs.getD 9 .undef) σ
def b_Zp_0 (M : Mach) (n0 : Nat) (n1 : Nat) (r1 : Rk) (z1 z2 z3 z12 z13 z14 : V) (σ : Objs) : Ro :=
 bd (pu (eB .lss .no z14.ng z13.ng)) fun x5 =>
  br x5.ng (
 bd (pu (eI 1 z14.ng z12.ng)) fun x6 =>
 bd (pu (eL σ true 1 x6.ng)) fun x7 =>
  let s8 : Objs := σ ++ [.cells [.nils]]
 bd (stV s8 1 (.ptr σ.length 0) x7.ng x7.ng) fun p9 =>
 bd (pu (eF 0 (.ptr σ.length 0))) fun x10 =>
 bd (pu (eL p9.2 false 1 x10.ng)) fun x11 =>
 bd (pu (Qaq x11.ng)) fun x12 =>
 bd (pu (eB .eql .no x12.ng (.int .i64 0))) fun x13 =>
  br x13.ng (
  j_Zp_0 M n0 n1 r1 z1 (.bool false) p9.2) (
 bd (pu (eF 0 (.ptr σ.length 0))) fun x14 =>
 bd (pu (eL p9.2 false 1 x14.ng)) fun x15 =>
 bd (pu (Qaq x15.ng)) fun x16 =>
 bd (fz p9.2.length p9.2 fzD z1) fun y87 =>
 bd (fz p9.2.length p9.2 fzD z2) fun y88 =>
 bd (fz p9.2.length p9.2 fzD z3) fun y89 =>
 bd (fz p9.2.length p9.2 fzD (.ptr σ.length 0)) fun y90 =>
 bd (fz p9.2.length p9.2 fzD z12) fun y91 =>
 bd (fz p9.2.length p9.2 fzD z13) fun y92 =>
 bd (fz p9.2.length p9.2 fzD z14) fun y93 =>
 bd (fz p9.2.length p9.2 fzD x15) fun y94 =>
 bd (fz p9.2.length p9.2 fzD x16) fun y95 =>
 bd (fz p9.2.length p9.2 fzD (.int .i64 0)) fun y96 =>
  l_Zp_1 M n0 n1 r1 p9.2.length [y87, y88, y89, y90, y91, y92, y93, y94, y95, y96] p9.2)) (
 bd (fz n1 σ fzD z1) fun y97 =>
 bd (fz n1 σ fzD .any) fun y98 =>
 bd (cuO n1 σ) fun s99 =>
 bd (pu (Qaq y97.ng)) fun x100 =>
 bd (pu (eB .gtr .no x100.ng (.int .i64 0))) fun x101 =>
 bd (oK false x101.ng) (nK n0 s99))
def l_Zp_0 (M : Mach) (n0 : Nat) (n1 : Nat) : Rk := M.fx fun rec vs σ => b_Zp_0 M n0 n1 rec (vs.getD 0 .undef) (vs.getD 1 .undef) (vs.getD 2 .undef) (vs.getD 3 .undef) (vs.getD 4 .undef) (vs.getD 5 .undef) σ
def s_Zp (M : Mach) (a0 a1 a2 : V) (σ : Objs) : Ro :=
 bd (boxV σ a0.ng) fun p0 =>
 bd (pu (Qaq a1.ng.ng)) fun x1 =>
 bd (fz p0.2.length p0.2 fzD a1) fun y102 =>
 bd (fz p0.2.length p0.2 fzD a2) fun y103 =>
 bd (fz p0.2.length p0.2 fzD p0.1) fun y104 =>
 bd (fz p0.2.length p0.2 fzD a1.ng) fun y105 =>
 bd (fz p0.2.length p0.2 fzD x1) fun y106 =>
 bd (fz p0.2.length p0.2 fzD (.int .i64 0)) fun y107 =>
  l_Zp_0 M σ.length p0.2.length [y102, y103, y104, y105, y106, y107] p0.2
theorem k_Zp (M : Mach) (a0 a1 a2 : V) (σ : Objs) : fnK M c_Zp [a0, a1, a2] σ = s_Zp M a0 a1 a2 σ := by kernel_rfl
def c_Z5 : Ev.Fn := ⟨84, [.tmp 4], false, false, (Yq 0 [Yk 3 (.box 1), Yv 4 (Yi 0)] (Yq 1 [Yl 11 true 1 3, Yc 12 75 [11], Yk 13 (.build [Y0, .nils, Yn] [(2, 1, 12)]), Yk 5 (.alloc [Y0, .nils, Yn]), Yw 3 5 13 false] (.seq (Yq 2 [Ya 14 0 3, Yl 15 false 1 14, Yh 16 15, Yv 17 (Yi 0)] (.block 0 (.loop [0, 5, 15, 16, 17] [0, 4, 5] (Yq 3 [Yo 18 .lss .no 17 16] (.seq (.cond 18 .skip (.exit 0)) (.seq (.block 1 (Yq 4 [Ye 19 2 15 17, Yl 20 true 2 19, Yk 7 (.alloc [Y0, .nils]), Yw 2 7 20 false] (Yq 5 [Ya 21 0 7, Yl 22 false 1 21, Yk 23 (.build [Y0, .nils] [(0, 1, 22)]), Yk 8 (.alloc [Y0, .nils]), Yw 2 8 23 false] (.seq (Yq 6 [Ya 24 1 7, Yl 25 false 1 24, Yh 26 25, Yv 27 (Yi 0)] (.block 2 (.loop [0, 5, 8, 15, 16, 17, 25, 26, 27] [0, 4, 5, 8, 15, 16, 17] (Yq 7 [Yo 28 .lss .no 27 26] (.seq (.cond 28 .skip (.exit 2)) (.seq (.block 3 (Yq 8 [Ye 29 11 25 27, Yl 30 true 11 29, Yk 10 (.alloc [Y0, Y0, Yn, Yn, Y0, Yn, Yb, Y0, Y0, Y0, .nils]), Yw 11 10 30 false] (.drw 9 [⟨Ya 31 1 8, 0, []⟩, ⟨Yk 32 (.loadT 31), 1, []⟩, ⟨Yv 33 0, 2, []⟩, ⟨Yl 34 true 11 10, 3, []⟩, ⟨Yc 35 76 [33, 34], 4, [1]⟩, ⟨Yk 36 (.buildSl true 3 1 (.agg [Y0, Y0, .nils]) [(0, 35)] false), 5, []⟩, ⟨Yk 37 (.app false true 3 40 32 36 true), 6, []⟩, ⟨Ya 38 1 8, 7, []⟩, ⟨Yw 1 38 37 true, 8, []⟩]))) (.ops 10 [Yo 39 .add .no 27 (Yi 1), Yv 27 39]))))))) (.ops 11 [Ya 40 1 5, Yk 41 (.loadT 40), Yl 42 true 2 8, Yk 43 (.buildSl true 2 1 (.agg [Y0, .nils]) [(0, 42)] false), Yk 44 (.app false true 2 32 41 43 true), Ya 45 1 5, Yw 1 45 44 true]))))) (.ops 12 [Yo 46 .add .no 17 (Yi 1), Yv 17 46]))))))) (Yq 13 [Yv 47 0, Yk 48 (.nilc 47), Ya 49 4 48, Ya 50 4 49, Yl 51 false 1 50, Ya 52 0 5, Yw 1 52 51 false] (.seq (.drw 14 [⟨Yv 53 0, 0, []⟩, ⟨Yk 54 (.nilc 53), 1, []⟩, ⟨Ya 55 4 54, 2, []⟩, ⟨Ya 56 4 55, 3, []⟩, ⟨Yl 57 false 1 56, 4, []⟩, ⟨Ya 58 1 5, 5, []⟩, ⟨Yl 59 false 1 58, 6, []⟩, ⟨Yh 60 59, 7, []⟩, ⟨Yo 61 .add .no 57 60, 8, []⟩, ⟨Yk 62 (.nilc 53), 9, []⟩, ⟨Ya 63 4 62, 10, []⟩, ⟨Ya 64 4 63, 11, []⟩, ⟨Yw 1 64 61 false, 12, []⟩]) (.seq (.drw 15 [⟨Yv 65 0, 0, []⟩, ⟨Yv 66 0, 1, []⟩, ⟨Yk 67 (.nilc 66), 2, []⟩, ⟨Ya 68 4 67, 3, []⟩, ⟨Ya 69 1 68, 4, []⟩, ⟨Yk 70 (.loadT 69), 5, []⟩, ⟨Yl 71 true 3 5, 6, []⟩, ⟨Yk 72 (.buildSl true 3 1 (.agg [Y0, .nils, Yn]) [(0, 71)] false), 7, []⟩, ⟨Yk 73 (.app false true 3 48 70 72 true), 8, []⟩, ⟨Yk 74 (.nilc 65), 9, []⟩, ⟨Ya 75 4 74, 10, []⟩, ⟨Ya 76 1 75, 11, []⟩, ⟨Yw 1 76 73 true, 12, []⟩]) (Yq 16 [Yv 77 0, Yk 78 (.nilc 77), Ya 79 4 78, Ya 80 1 79, Yl 81 false 1 80, Yh 82 81, Yo 83 .sub .no 82 (Yi 1), Yv 4 83] .ret)))))))⟩
theorem ok_c_Z5 : Qam Tryz.prog 55 c_Z5 = true := Qad Tryz.func55 (by kernel_rfl)
def b_Z5_1 (M : Mach) (n0 : Nat) (n1 : Nat) (r1 : Rk) (n2 : Nat) (r2 : Rk) (z0 z5 z8 z15 z16 z17 z25 z26 z27 : V) (σ : Objs) : Ro :=
 bd (pu (eB .lss .no z27.ng z26.ng)) fun x22 =>
  br x22.ng (
 bd (pu (eI 11 z27.ng z25.ng)) fun x23 =>
 bd (pu (eL σ true 11 x23.ng)) fun x24 =>
  let s25 : Objs := σ ++ [.cells [(.int .i64 0), (.int .i64 0), (.str []), (.str []), (.int .i64 0), (.str []), (.bool false), (.int .i64 0), (.int .i64 0), (.int .i64 0), .nils]]
 bd (stV s25 11 (.ptr σ.length 0) x24.ng x24.ng) fun p26 =>
 bd (pu (eF 1 z8.ng)) fun x27 =>
 bd (Qcv p26.2 x27.ng) fun p28 =>
 bd (pu (eL p28.2 true 11 (.ptr σ.length 0))) fun x29 =>
 bd (Qj4 [Qct p26.2 x27.ng] p28.2) fun s30 =>
 bd (M.call 76 [z0.ng.ng, x29.ng] s30) fun p32 =>
 bd (Qgx [Qct p26.2 x27.ng] p28.2 p32.2) fun s31 =>
 bd (Qax true 3 1 (.agg [(.int .i64 0), (.int .i64 0), .nils]) [(0, p32.1.ng)]) fun x33 =>
 bd (appV false true 3 40 s31 p28.1 x33.ng) fun x34 =>
 bd (pu (eF 1 z8.ng)) fun x35 =>
 bd (stV s31 1 x35.ng x34.ng x34) fun p36 =>
 bd (pu (eB .add .no z27.ng (.int .i64 1))) fun x37 =>
 bd (fz n2 p36.2 fzD z0) fun y38 =>
 bd (fz n2 p36.2 fzD z5) fun y39 =>
 bd (fz n2 p36.2 fzD z8) fun y40 =>
 bd (fz n2 p36.2 fzD z15) fun y41 =>
 bd (fz n2 p36.2 fzD z16) fun y42 =>
 bd (fz n2 p36.2 fzD z17) fun y43 =>
 bd (fz n2 p36.2 fzD z25) fun y44 =>
 bd (fz n2 p36.2 fzD z26) fun y45 =>
 bd (fz n2 p36.2 fzD x37.ng) fun y46 =>
 bd (cuO n2 p36.2) fun s47 => r2 [y38, y39, y40, y41, y42, y43, y44, y45, y46] s47) (
 bd (fz n2 σ fzD z0) fun y48 =>
 bd (fz n2 σ fzD .any) fun y49 =>
 bd (fz n2 σ fzD z5) fun y50 =>
 bd (fz n2 σ fzD z8) fun y51 =>
 bd (fz n2 σ fzD z15) fun y52 =>
 bd (fz n2 σ fzD z16) fun y53 =>
 bd (fz n2 σ fzD z17) fun y54 =>
 bd (cuO n2 σ) fun s55 =>
 bd (pu (eF 1 y50.ng)) fun x56 =>
 bd (Qcv s55 x56.ng) fun p57 =>
 bd (pu (eL p57.2 true 2 y51.ng)) fun x58 =>
 bd (Qax true 2 1 (.agg [(.int .i64 0), .nils]) [(0, x58.ng)]) fun x59 =>
 bd (appV false true 2 32 p57.2 p57.1 x59.ng) fun x60 =>
 bd (pu (eF 1 y50.ng)) fun x61 =>
 bd (stV p57.2 1 x61.ng x60.ng x60) fun p62 =>
 bd (pu (eB .add .no y54.ng (.int .i64 1))) fun x63 =>
 bd (fz n1 p62.2 fzD y48) fun y64 =>
 bd (fz n1 p62.2 fzD y50) fun y65 =>
 bd (fz n1 p62.2 fzD y52) fun y66 =>
 bd (fz n1 p62.2 fzD y53) fun y67 =>
 bd (fz n1 p62.2 fzD x63.ng) fun y68 =>
 bd (cuO n1 p62.2) fun s69 => r1 [y64, y65, y66, y67, y68] s69)
def l_Z5_1 (M : Mach) (n0 : Nat) (n1 : Nat) (r1 : Rk) (n2 : Nat) : Rk := M.fx fun rec vs σ => b_Z5_1 M n0 n1 r1 n2 rec (vs.getD 0 .undef) (vs.getD 1 .undef) (vs.getD 2 .undef) (vs.getD 3 .undef) (vs.getD 4 .undef) (vs.getD 5 .undef) (vs.getD 6 .undef) (vs.getD 7 .undef) (vs.getD 8 .undef) σ
def b_Z5_0 (M : Mach) (n0 : Nat) (n1 : Nat) (r1 : Rk) (z0 z5 z15 z16 z17 : V) (σ : Objs) : Ro :=
 bd (pu (eB .lss .no z17.ng z16.ng)) fun x9 =>
  br x9.ng (
 bd (pu (eI 2 z17.ng z15.ng)) fun x10 =>
 bd (pu (eL σ true 2 x10.ng)) fun x11 =>
  let s12 : Objs := σ ++ [.cells [(.int .i64 0), .nils]]
 bd (stV s12 2 (.ptr σ.length 0) x11.ng x11.ng) fun p13 =>
 bd (pu (eF 0 (.ptr σ.length 0))) fun x14 =>
 bd (pu (eL p13.2 false 1 x14.ng)) fun x15 =>
 bd (pu (Qa2 [(.int .i64 0), .nils] [(0, 1, x15.ng)])) fun x16 =>
  let s17 : Objs := p13.2 ++ [.cells [(.int .i64 0), .nils]]
 bd (stV s17 2 (.ptr p13.2.length 0) x16.ng x16.ng) fun p18 =>
 bd (pu (eF 1 (.ptr σ.length 0))) fun x19 =>
 bd (pu (eL p18.2 false 1 x19.ng)) fun x20 =>
 bd (pu (Qaq x20.ng)) fun x21 =>
 bd (fz p18.2.length p18.2 fzD z0) fun y70 =>
 bd (fz p18.2.length p18.2 fzD z5) fun y71 =>
 bd (fz p18.2.length p18.2 fzD (.ptr p13.2.length 0)) fun y72 =>
 bd (fz p18.2.length p18.2 fzD z15) fun y73 =>
 bd (fz p18.2.length p18.2 fzD z16) fun y74 =>
 bd (fz p18.2.length p18.2 fzD z17) fun y75 =>
 bd (fz p18.2.length p18.2 fzD x20) fun y76 =>
 bd (fz p18.2.length p18.2 fzD x21) fun y77 =>
 bd (fz p18.2.length p18.2 fzD (.int .i64 0)) fun y78 =>
  l_Z5_1 M n0 n1 r1 p18.2.length [y70, y71, y72, y73, y74, y75, y76, y77, y78] p18.2) (
 bd (fz n1 σ fzD z0) fun y79 =>
 bd (fz n1 σ fzD .any) fun y80 =>
 bd (fz n1 σ fzD z5) fun y81 =>
 bd (cuO n1 σ) fun s82 =>
 bd (pu (Qa8 y79.ng.ng)) fun x83 =>
 bd (pu (eF 4 x83.ng)) fun x84 =>
 bd (pu (eF 4 x84.ng)) fun x85 =>
 bd (pu (eL s82 false 1 x85.ng)) fun x86 =>
 bd (pu (eF 0 y81.ng)) fun x87 =>
 bd (stV s82 1 x87.ng x86.ng x86.ng) fun p88 =>
 bd (pu (Qa8 y79.ng.ng)) fun x89 =>
 bd (pu (eF 4 x89.ng)) fun x90 =>
 bd (pu (eF 4 x90.ng)) fun x91 =>
 bd (pu (eL p88.2 false 1 x91.ng)) fun x92 =>
 bd (pu (eF 1 y81.ng)) fun x93 =>
 bd (pu (eL p88.2 false 1 x93.ng)) fun x94 =>
 bd (pu (Qaq x94.ng)) fun x95 =>
 bd (pu (eB .add .no x92.ng x95.ng)) fun x96 =>
 bd (pu (Qa8 y79.ng.ng)) fun x97 =>
 bd (pu (eF 4 x97.ng)) fun x98 =>
 bd (pu (eF 4 x98.ng)) fun x99 =>
 bd (stV p88.2 1 x99.ng x96.ng x96.ng) fun p100 =>
 bd (pu (Qa8 y79.ng.ng)) fun x101 =>
 bd (pu (eF 4 x101.ng)) fun x102 =>
 bd (pu (eF 1 x102.ng)) fun x103 =>
 bd (Qcv p100.2 x103.ng) fun p104 =>
 bd (pu (eL p104.2 true 3 y81.ng)) fun x105 =>
 bd (Qax true 3 1 (.agg [(.int .i64 0), .nils, (.str [])]) [(0, x105.ng)]) fun x106 =>
 bd (appV false true 3 48 p104.2 p104.1 x106.ng) fun x107 =>
 bd (pu (Qa8 y79.ng.ng)) fun x108 =>
 bd (pu (eF 4 x108.ng)) fun x109 =>
 bd (pu (eF 1 x109.ng)) fun x110 =>
 bd (stV p104.2 1 x110.ng x107.ng x107) fun p111 =>
 bd (pu (Qa8 y79.ng.ng)) fun x112 =>
 bd (pu (eF 4 x112.ng)) fun x113 =>
 bd (pu (eF 1 x113.ng)) fun x114 =>
 bd (pu (eL p111.2 false 1 x114.ng)) fun x115 =>
 bd (pu (Qaq x115.ng)) fun x116 =>
 bd (pu (eB .sub .no x116.ng (.int .i64 1))) fun x117 =>
 bd (oK false x117.ng) (nK n0 p111.2))
def l_Z5_0 (M : Mach) (n0 : Nat) (n1 : Nat) : Rk := M.fx fun rec vs σ => b_Z5_0 M n0 n1 rec (vs.getD 0 .undef) (vs.getD 1 .undef) (vs.getD 2 .undef) (vs.getD 3 .undef) (vs.getD 4 .undef) σ
def s_Z5 (M : Mach) (a0 a1 : V) (σ : Objs) : Ro :=
 bd (boxV σ a1.ng) fun p0 =>
 bd (pu (eL p0.2 true 1 p0.1.ng)) fun x1 =>
 bd (M.call 75 [x1.ng] p0.2) fun p2 =>
 bd (pu (Qa2 [(.int .i64 0), .nils, (.str [])] [(2, 1, p2.1.ng)])) fun x3 =>
  let s4 : Objs := p2.2 ++ [.cells [(.int .i64 0), .nils, (.str [])]]
 bd (stV s4 3 (.ptr p2.2.length 0) x3.ng x3.ng) fun p5 =>
 bd (pu (eF 0 p0.1.ng)) fun x6 =>
 bd (pu (eL p5.2 false 1 x6.ng)) fun x7 =>
 bd (pu (Qaq x7.ng)) fun x8 =>
 bd (fz p5.2.length p5.2 fzD a0) fun y118 =>
 bd (fz p5.2.length p5.2 fzD (.ptr p2.2.length 0)) fun y119 =>
 bd (fz p5.2.length p5.2 fzD x7) fun y120 =>
 bd (fz p5.2.length p5.2 fzD x8) fun y121 =>
 bd (fz p5.2.length p5.2 fzD (.int .i64 0)) fun y122 =>
  l_Z5_0 M σ.length p5.2.length [y118, y119, y120, y121, y122] p5.2
theorem k_Z5 (M : Mach) (a0 a1 : V) (σ : Objs) : fnK M c_Z5 [a0, a1] σ = s_Z5 M a0 a1 σ := by kernel_rfl
def c_Z1u : Ev.Fn := ⟨38, [.tmp 2], false, false, (Yq 0 [Yv 2 Yf] (Yq 1 [Yv 3 (Yi 0)] (.seq (.block 0 (.loop [0, 3] [2] (.seq (Yq 2 [Yv 6 3, Yv 7 0, Yh 8 7, Yo 9 .lss .no 6 8] (.cond 9 .skip (.exit 0))) (.block 1 (Yq 3 [Yv 11 0, Yv 12 3, Yc 13 77 [11, 12], Yv 10 13, Yx 14 10 0, Yx 15 10 1, Yv 4 14, Yv 5 15] (.seq (Yq 4 [Yv 16 0, Yv 17 3, Ye 18 1 16 17, Yl 19 false 1 18, Yo 20 .eql .no 19 (.c (.int .u8 0)), Yv 21 20, ⟨some 22, (some (21, false)), .mv 0 false⟩, ⟨some 23, (some (21, false)), .mv 3 false⟩, ⟨some 24, (some (21, false)), .mv 3 false⟩, ⟨some 25, (some (21, false)), .mv 5 false⟩, ⟨some 26, (some (21, false)), .bin .add .no 24 25⟩, ⟨some 27, (some (21, false)), .cut 1 22 (some 23) (some 26) none⟩, ⟨some 28, (some (21, false)), .call 78 [27]⟩, ⟨some 29, (some (21, false)), .un .not 28⟩, Yk 30 (.pick 21 Yt 29), Yv 31 30, ⟨some 32, (some (31, false)), .mv 4 false⟩, ⟨some 33, (some (31, false)), .bin .eql .no 32 (Yi 0)⟩, Yk 34 (.pick 31 Yt 33)] (.cond 34 (Yq 5 [Yv 2 Yf] .ret) .skip)) (.ops 6 [Yv 35 3, Yv 36 5, Yo 37 .add .no 35 36, Yv 3 37]))))))) (Yq 7 [Yv 2 Yt] .ret))))⟩
theorem ok_c_Z1u : Qam Tryz.prog 56 c_Z1u = true := Qad Tryz.func56 (by kernel_rfl)
def b_Z1u_0 (M : Mach) (n0 : Nat) (n1 : Nat) (r1 : Rk) (z0 z3 : V) (σ : Objs) : Ro :=
 bd (pu (Qaq z0.ng.ng)) fun x0 =>
 bd (pu (eB .lss .no z3.ng.ng x0.ng)) fun x1 =>
  br x1.ng (
 bd (M.call 77 [z0.ng.ng, z3.ng.ng] σ) fun p2 =>
 bd (pu (eX 0 p2.1.ng.ng)) fun x3 =>
 bd (pu (eX 1 p2.1.ng.ng)) fun x4 =>
 bd (pu (eI 1 z3.ng.ng z0.ng.ng)) fun x5 =>
 bd (pu (eL p2.2 false 1 x5.ng)) fun x6 =>
 bd (pu (eB .eql .no x6.ng (.int .u8 0))) fun x7 =>
 bd (gdv x7.ng false (some z0.ng)) fun x8 =>
 bd (gdv x7.ng false (some z3.ng)) fun x9 =>
 bd (gdv x7.ng false (some z3.ng)) fun x10 =>
 bd (gdv x7.ng false (some x4.ng.ng)) fun x11 =>
 bd (gdv x7.ng false (pu (eB .add .no x10.ng x11.ng))) fun x12 =>
 bd (gdv x7.ng false (pu (Qba 1 x8.ng (some x9.ng) (some x12.ng) none))) fun x13 =>
 bd (gdp x7.ng false (M.call 78 [x13.ng] p2.2) p2.2) fun p14 =>
 bd (gdv x7.ng false (pu (evUn .not p14.1.ng))) fun x15 =>
 bd (pu (pV x7.ng.ng (.bool true) x15.ng)) fun x16 =>
 bd (gdv x16.ng false (some x3.ng.ng)) fun x17 =>
 bd (gdv x16.ng false (pu (eB .eql .no x17.ng (.int .i64 0)))) fun x18 =>
 bd (pu (pV x16.ng.ng (.bool true) x18.ng)) fun x19 =>
  br x19.ng (
 bd (fz n1 p14.2 fzD (.bool false)) fun y20 =>
 bd (cuO n1 p14.2) fun s21 =>
 bd (oK false y20) (nK n0 s21)) (
 bd (pu (eB .add .no z3.ng.ng x4.ng.ng.ng)) fun x22 =>
 bd (fz n1 p14.2 fzD z0) fun y23 =>
 bd (fz n1 p14.2 fzD x22.ng) fun y24 =>
 bd (cuO n1 p14.2) fun s25 => r1 [y23, y24] s25)) (
 bd (fz n1 σ fzD .any) fun y26 =>
 bd (cuO n1 σ) fun s27 =>
 bd (oK false (.bool true)) (nK n0 s27))
def l_Z1u_0 (M : Mach) (n0 : Nat) (n1 : Nat) : Rk := M.fx fun rec vs σ => b_Z1u_0 M n0 n1 rec (vs.getD 0 .undef) (vs.getD 1 .undef) σ
def s_Z1u (M : Mach) (a0 : V) (σ : Objs) : Ro :=
 bd (fz σ.length σ fzD a0) fun y28 =>
 bd (fz σ.length σ fzD (.int .i64 0)) fun y29 =>
  l_Z1u_0 M σ.length σ.length [y28, y29] σ
theorem k_Z1u (M : Mach) (a0 : V) (σ : Objs) : fnK M c_Z1u [a0] σ = s_Z1u M a0 σ := by kernel_rfl
def c_Z1j : Ev.Fn := ⟨19, [.tmp 4], false, false, (Yq 0 [Yv 4 (Yi 0)] (.seq (Yq 1 [Yv 6 0, Yh 7 6, Yv 8 (Yi 0)] (.block 0 (.loop [0, 1, 7, 8] [4] (Yq 2 [Yo 9 .lss .no 8 7] (.seq (.cond 9 .skip (.exit 0)) (.seq (.block 1 (Yq 3 [Yv 10 8, Yv 5 10] (Yq 4 [Yv 11 1, Yv 12 0, Yv 13 5, Ye 14 1 12 13, Yl 15 false 1 14, Yo 16 .eql .no 11 15] (.cond 16 (Yq 5 [Yv 17 5, Yv 4 17] .ret) .skip)))) (.ops 6 [Yo 18 .add .no 8 (Yi 1), Yv 8 18]))))))) (Yq 7 [Yv 4 (Yi (-1))] .ret)))⟩
theorem ok_c_Z1j : Qam Tryz.prog 67 c_Z1j = true := Qad Tryz.func67 (by kernel_rfl)
def b_Z1j_0 (M : Mach) (n0 : Nat) (n1 : Nat) (r1 : Rk) (z0 z1 z7 z8 : V) (σ : Objs) : Ro :=
 bd (pu (eB .lss .no z8.ng z7.ng)) fun x1 =>
  br x1.ng (
 bd (pu (eI 1 z8.ng.ng.ng.ng z0.ng.ng)) fun x2 =>
 bd (pu (eL σ false 1 x2.ng)) fun x3 =>
 bd (pu (eB .eql .no z1.ng.ng x3.ng)) fun x4 =>
  br x4.ng (
 bd (fz n1 σ fzD z8.ng.ng.ng.ng) fun y5 =>
 bd (cuO n1 σ) fun s6 =>
 bd (oK false y5) (nK n0 s6)) (
 bd (pu (eB .add .no z8.ng (.int .i64 1))) fun x7 =>
 bd (fz n1 σ fzD z0) fun y8 =>
 bd (fz n1 σ fzD z1) fun y9 =>
 bd (fz n1 σ fzD z7) fun y10 =>
 bd (fz n1 σ fzD x7.ng) fun y11 =>
 bd (cuO n1 σ) fun s12 => r1 [y8, y9, y10, y11] s12)) (
 bd (fz n1 σ fzD .any) fun y13 =>
 bd (cuO n1 σ) fun s14 =>
 bd (oK false (.int .i64 (-1))) (nK n0 s14))
def l_Z1j_0 (M : Mach) (n0 : Nat) (n1 : Nat) : Rk := M.fx fun rec vs σ => b_Z1j_0 M n0 n1 rec (vs.getD 0 .undef) (vs.getD 1 .undef) (vs.getD 2 .undef) (vs.getD 3 .undef) σ
def s_Z1j (M : Mach) (a0 a1 : V) (σ : Objs) : Ro :=
 bd (pu (Qaq a0.ng.ng)) fun x0 =>
 bd (fz σ.length σ fzD a0) fun y15 =>
 bd (fz σ.length σ fzD a1) fun y16 =>
 bd (fz σ.length σ fzD x0) fun y17 =>
 bd (fz σ.length σ fzD (.int .i64 0)) fun y18 =>
  l_Z1j_0 M σ.length σ.length [y15, y16, y17, y18] σ
theorem k_Z1j (M : Mach) (a0 a1 : V) (σ : Objs) : fnK M c_Z1j [a0, a1] σ = s_Z1j M a0 a1 σ := by kernel_rfl
def c_Z1s : Ev.Fn := ⟨32, [.tmp 2], false, false, (Yq 0 [Yv 2 (.c .nils)] (Yq 1 [Yk 7 (.buildSl false 1 0 .any [] false), Yu 3 7, Yv 4 (Yi 0)] (.seq (.block 0 (.loop [0, 3, 4] [2, 3] (.seq (Yq 2 [Yv 8 4, Yv 9 0, Yh 10 9, Yo 11 .lss .no 8 10] (.cond 11 .skip (.exit 0))) (.block 1 (Yq 3 [Yv 13 0, Yv 14 4, Yc 15 77 [13, 14], Yv 12 15, Yx 16 12 0, Yx 17 12 1, Yv 5 16, Yv 6 17] (.seq (Yq 4 [Yv 18 4, Yo 19 .gtr .no 18 (Yi 0), Yv 20 19, ⟨some 21, (some (20, false)), .mv 5 false⟩, ⟨some 22, (some (20, false)), .bin .neq .no 21 (Yi 65279)⟩, Yk 23 (.pick 20 Yt 22)] (.cond 23 (.ops 5 [Yu 24 3, Yv 25 5, Yk 26 (.buildSl false 1 1 Y0 [(0, 25)] false), Yk 27 (.app false false 1 8 24 26 true), Yu 3 27]) .skip)) (.ops 6 [Yv 28 4, Yv 29 6, Yo 30 .add .no 28 29, Yv 4 30]))))))) (Yq 7 [Yu 31 3, Yu 2 31] .ret))))⟩
theorem ok_c_Z1s : Qam Tryz.prog 71 c_Z1s = true := Qad Tryz.func71 (by kernel_rfl)
def c_Z1v : Ev.Fn := ⟨52, [.tmp 2], false, false, (Yq 0 [Yv 2 (.c .nils)] (Yq 1 [Yk 6 (.buildSl false 1 0 .any [] false), Yu 3 6] (.seq (Yq 2 [Yv 4 (Yi 0)] (.block 0 (.loop [0, 3, 4] [2, 3] (.seq (Yq 3 [Yv 7 4, Yv 8 0, Yh 9 8, Yo 10 .lss .no 7 9] (.cond 10 .skip (.exit 0))) (.seq (.block 1 (Yq 5 [Yv 13 0, Yv 14 4, Ye 15 1 13 14, Yl 16 false 1 15, Yv 5 16] (.seq (Yq 6 [Yv 17 5, Yo 18 .eql .no 17 (Yi 13), Yv 19 18, ⟨some 20, (some (19, true)), .mv 4 false⟩, ⟨some 21, (some (19, true)), .bin .add .no 20 (Yi 1)⟩, ⟨some 22, (some (19, true)), .mv 0 false⟩, ⟨some 23, (some (19, true)), .len 22⟩, ⟨some 24, (some (19, true)), .bin .lss .no 21 23⟩, Yk 25 (.pick 19 24 Yf), Yv 26 25, ⟨some 27, (some (26, true)), .mv 0 false⟩, ⟨some 28, (some (26, true)), .mv 4 false⟩, ⟨some 29, (some (26, true)), .bin .add .no 28 (Yi 1)⟩, ⟨some 30, (some (26, true)), .iaddr 1 27 29⟩, ⟨some 31, (some (26, true)), .load false 1 30⟩, ⟨some 32, (some (26, true)), .bin .eql .no 31 (Yi 10)⟩, Yk 33 (.pick 26 32 Yf)] (.cond 33 (.exit 1) .skip)) (.seq (Yq 7 [Yv 34 5, Yo 35 .eql .no 34 (Yi 13), Yv 36 35, ⟨some 37, (some (36, false)), .mv 5 false⟩, ⟨some 38, (some (36, false)), .bin .eql .no 37 (Yi 12)⟩, Yk 39 (.pick 36 Yt 38)] (.cond 39 (.ops 8 [Yv 5 (Yi 10)]) .skip)) (.seq (Yq 9 [Yv 40 5, Yo 41 .eql .no 40 (Yi 0), Yv 42 41, ⟨some 43, (some (42, false)), .mv 5 false⟩, ⟨some 44, (some (42, false)), .call 95 [43]⟩, ⟨some 45, (some (42, false)), .un .not 44⟩, Yk 46 (.pick 42 Yt 45)] (.cond 46 (.ops 10 [Yv 5 (Yi 65533)]) .skip)) (.ops 11 [Yu 47 3, Yv 48 5, Yk 49 (.buildSl false 1 1 Y0 [(0, 48)] false), Yk 50 (.app false false 1 8 47 49 true), Yu 3 50])))))) (.ops 4 [Yv 11 4, Yo 12 .add .no 11 (Yi 1), Yv 4 12])))))) (Yq 12 [Yu 51 3, Yu 2 51] .ret))))⟩
theorem ok_c_Z1v : Qam Tryz.prog 70 c_Z1v = true := Qad Tryz.func70 (by kernel_rfl)
def c_Z29 : Ev.Fn := ⟨20, [.tmp 2], false, false, (Yq 0 [Yv 2 (.c .nils)] (Yq 1 [Yk 6 (.buildSl true 6 0 (.agg []) [] false), Yu 3 6, Yv 4 (Yi 0)] (.block 0 (.loop [0, 3, 4] [2] (.block 1 (Yq 2 [Yv 7 0, Yv 8 4, Yc 9 94 [7, 8], Yk 5 (.alloc [Y0, Y0, Y0, Yn, Yn, Yb]), Yw 6 5 9 false] (Yq 3 [Yu 10 3, Yl 11 true 6 5, Yk 12 (.buildSl true 6 1 (.agg [Y0, Y0, Y0, Yn, Yn, Yb]) [(0, 11)] false), Yk 13 (.app false true 6 64 10 12 true), Yu 3 13] (.seq (Yq 4 [Ya 14 0 5, Yl 15 false 1 14, Yo 16 .eql .no 15 (Yi 0)] (.cond 16 (Yq 5 [Yu 17 3, Yu 2 17] .ret) .skip)) (.ops 6 [Ya 18 2 5, Yl 19 false 1 18, Yv 4 19])))))))))⟩
theorem ok_c_Z29 : Qam Tryz.prog 69 c_Z29 = true := Qad Tryz.func69 (by kernel_rfl)
def c_Zh : Ev.Fn := ⟨61, [.tmp 8, .tmp 9], false, false, (Yq 0 [Yv 8 (.c .nils), Yv 9 (Yi 0)] (Yq 1 [Yk 13 (.buildSl true 1 0 (.agg []) [] false), Yu 10 13] (.seq (.block 0 (.loop [0, 1, 2, 3, 10] [1, 8, 9, 10] (.seq (Yq 2 [Yv 14 0, Yk 15 (.nilc 14), Ya 16 5 15, Yl 17 false 1 16, Yo 18 .eql .no 17 (Yi 0)] (.cond 18 .skip (.exit 0))) (.block 1 (Yq 3 [Yv 20 0, Yv 21 0, Yv 22 1, Yc 23 91 [21, 22], Yv 24 2, Yv 25 3, Yc 26 90 [20, 23, 24, 25], Yv 19 26, Yx 27 19 0, Yx 28 19 1, Yk 11 (.alloc [.nils]), Yw 1 11 27 false, Yv 12 28] (Yq 4 [Yu 29 10, Yl 30 true 1 11, Yk 31 (.buildSl true 1 1 (.agg [.nils]) [(0, 30)] false), Yk 32 (.app false true 1 24 29 31 true), Yu 10 32] (Yq 5 [Yv 33 0, Yv 34 12, Yc 35 91 [33, 34], Yv 1 35] (.seq (Yq 6 [Yv 36 0, Yk 37 (.nilc 36), Ya 38 5 37, Yl 39 false 1 38, Yo 40 .neq .no 39 (Yi 0), Yv 41 40, ⟨some 42, (some (41, false)), .mv 0 false⟩, ⟨some 43, (some (41, false)), .mv 1 false⟩, ⟨some 44, (some (41, false)), .call 92 [42, 43]⟩, ⟨some 45, (some (41, false)), .field false 0 1 44⟩, ⟨some 46, (some (41, false)), .mv 2 false⟩, ⟨some 47, (some (41, false)), .bin .eql .no 45 46⟩, Yk 48 (.pick 41 Yt 47)] (.cond 48 (.exit 0) .skip)) (.seq (Yq 7 [Yv 49 0, Yv 50 1, Yc 51 92 [49, 50], Yg 52 false 0 1 51, Yo 53 .neq .no 52 (Yi 18)] (.cond 53 (.ops 8 [Yv 54 0, Yv 55 1, Yc 56 93 [54, (Yi 10), 55]]) .skip)) (.ops 9 [Yv 57 1, Yo 58 .add .no 57 (Yi 1), Yv 1 58])))))))))) (Yq 10 [Yu 59 10, Yv 60 1, Yu 8 59, Yv 9 60] .ret))))⟩
theorem ok_c_Zh : Qam Tryz.prog 68 c_Zh = true := Qad Tryz.func68 (by kernel_rfl)
def c_Zy : Ev.Fn := ⟨16, [.tmp 2], false, false, (Yq 0 [Yv 2 Yf] (.seq (Yq 1 [Yv 5 0, Yh 6 5, Yv 7 (Yi 0)] (.block 0 (.loop [0, 5, 6, 7] [0, 2] (Yq 2 [Yo 8 .lss .no 7 6] (.seq (.cond 8 .skip (.exit 0)) (.seq (.block 1 (Yq 3 [Ye 9 1 5 7, Yl 10 false 1 9, Yv 4 10] (Yq 4 [Yv 11 4, Yo 12 .eql .no 11 (.c (.int .u8 0))] (.cond 12 (Yq 5 [Yv 2 Yf] .ret) .skip)))) (.ops 6 [Yo 13 .add .no 7 (Yi 1), Yv 7 13]))))))) (Yq 7 [Yu 14 0, Yc 15 96 [14], Yv 2 15] .ret)))⟩
theorem ok_c_Zy : Qam Tryz.prog 72 c_Zy = true := Qad Tryz.func72 (by kernel_rfl)
def b_Zy_0 (M : Mach) (n0 : Nat) (n1 : Nat) (r1 : Rk) (z0 z5 z6 z7 : V) (σ : Objs) : Ro :=
 bd (pu (eB .lss .no z7.ng z6.ng)) fun x1 =>
  br x1.ng (
 bd (pu (eI 1 z7.ng z5.ng)) fun x2 =>
 bd (pu (eL σ false 1 x2.ng)) fun x3 =>
 bd (pu (eB .eql .no x3.ng.ng.ng (.int .u8 0))) fun x4 =>
  br x4.ng (
 bd (fz n1 σ fzD z0) fun y5 =>
 bd (fz n1 σ fzD (.bool false)) fun y6 =>
 bd (cuO n1 σ) fun s7 =>
 bd (oK false y6) (nK n0 s7)) (
 bd (pu (eB .add .no z7.ng (.int .i64 1))) fun x8 =>
 bd (fz n1 σ fzD z0) fun y9 =>
 bd (fz n1 σ fzD z5) fun y10 =>
 bd (fz n1 σ fzD z6) fun y11 =>
 bd (fz n1 σ fzD x8.ng) fun y12 =>
 bd (cuO n1 σ) fun s13 => r1 [y9, y10, y11, y12] s13)) (
 bd (fz n1 σ fzD z0) fun y14 =>
 bd (fz n1 σ fzD .any) fun y15 =>
 bd (cuO n1 σ) fun s16 =>
 bd (M.call 96 [y14.ng] s16) fun p17 =>
 bd (oK false p17.1.ng) (nK n0 p17.2))
def l_Zy_0 (M : Mach) (n0 : Nat) (n1 : Nat) : Rk := M.fx fun rec vs σ => b_Zy_0 M n0 n1 rec (vs.getD 0 .undef) (vs.getD 1 .undef) (vs.getD 2 .undef) (vs.getD 3 .undef) σ
def s_Zy (M : Mach) (a0 : V) (σ : Objs) : Ro :=
 bd (pu (Qaq a0.ng.ng)) fun x0 =>
 bd (fz σ.length σ fzD a0) fun y18 =>
 bd (fz σ.length σ fzD a0.ng) fun y19 =>
 bd (fz σ.length σ fzD x0) fun y20 =>
 bd (fz σ.length σ fzD (.int .i64 0)) fun y21 =>
  l_Zy_0 M σ.length σ.length [y18, y19, y20, y21] σ
theorem k_Zy (M : Mach) (a0 : V) (σ : Objs) : fnK M c_Zy [a0] σ = s_Zy M a0 σ := by kernel_rfl
def c_Zo : Ev.Fn := ⟨56, [.tmp 6], false, false, (Yq 0 [Yk 3 (.box 0), Yk 4 (.box 1), Yv 6 Yf] (.seq (Yq 1 [Ya 9 1 4, Yl 10 false 1 9, Yh 11 10, Yv 12 (Yi 0)] (.block 0 (.loop [2, 3, 4, 10, 11, 12] [4, 6] (Yq 2 [Yo 13 .lss .no 12 11] (.seq (.cond 13 .skip (.exit 0)) (.seq (.block 1 (Yq 3 [Yv 14 12, Ye 15 11 10 12, Yl 16 true 11 15, Yk 8 (.alloc [Y0, Y0, Yn, Yn, Y0, Yn, Yb, Y0, Y0, Y0, .nils]), Yv 7 14, Yw 11 8 16 false] (.block 2 (Yq 4 [Yl 18 true 4 3, Yl 19 true 11 8, Yc 20 98 [18, 19], Yk 21 (.un .not 20), Yv 17 21] (.cond 17 (Yq 5 [Yv 6 Yf] .ret) (Yq 6 [Yv 23 7, Yo 24 .gtr .no 23 (Yi 0), Yv 25 24, ⟨some 26, (some (25, true)), .faddr 0 8⟩, ⟨some 27, (some (25, true)), .load false 1 26⟩, ⟨some 28, (some (25, true)), .bin .eql .no 27 (Yi 1)⟩, ⟨some 29, (some (25, true)), .mv 28 false⟩, ⟨some 30, (some (29, false)), .faddr 0 8⟩, ⟨some 31, (some (29, false)), .load false 1 30⟩, ⟨some 32, (some (29, false)), .bin .eql .no 31 (Yi 2)⟩, ⟨some 33, (some (25, true)), .pick 29 Yt 32⟩, Yk 34 (.pick 25 33 Yf), Yv 22 34] (.cond 22 (Yq 7 [Yv 6 Yf] .ret) (Yq 8 [Ya 36 0 8, Yl 37 false 1 36, Yo 38 .eql .no 37 (Yi 13), Yv 39 38, ⟨some 40, (some (39, true)), .mv 2 false⟩, ⟨some 41, (some (39, true)), .un .not 40⟩, ⟨some 42, (some (39, true)), .mv 41 false⟩, ⟨some 43, (some (42, false)), .mv 7 false⟩, ⟨some 44, (some (42, false)), .faddr 1 4⟩, ⟨some 45, (some (42, false)), .load false 1 44⟩, ⟨some 46, (some (42, false)), .len 45⟩, ⟨some 47, (some (42, false)), .bin .sub .no 46 (Yi 1)⟩, ⟨some 48, (some (42, false)), .bin .lss .no 43 47⟩, ⟨some 49, (some (39, true)), .pick 42 Yt 48⟩, Yk 50 (.pick 39 49 Yf), Yv 35 50] (.cond 35 (Yq 9 [Yv 6 Yf] .ret) .skip))))))))) (.ops 10 [Yo 51 .add .no 12 (Yi 1), Yv 12 51]))))))) (Yq 11 [Ya 52 1 4, Yl 53 false 1 52, Yh 54 53, Yo 55 .gtr .no 54 (Yi 0), Yv 6 55] .ret)))⟩
theorem ok_c_Zo : Qam Tryz.prog 74 c_Zo = true := Qad Tryz.func74 (by kernel_rfl)
def j_Zo_0 (M : Mach) (n0 : Nat) (n1 : Nat) (r1 : Rk) (z4 z6 : V) (σ : Objs) : Ro :=
 bd (fz n1 σ fzD z4) fun y5 =>
 bd (fz n1 σ fzD z6) fun y6 =>
 bd (cuO n1 σ) fun s7 =>
 bd (oK false y6) (nK n0 s7)
def b_Zo_0 (M : Mach) (n0 : Nat) (n1 : Nat) (r1 : Rk) (z2 z3 z4 z10 z11 z12 : V) (σ : Objs) : Ro :=
 bd (pu (eB .lss .no z12.ng z11.ng)) fun x8 =>
  br x8.ng (
 bd (pu (eI 11 z12.ng z10.ng)) fun x9 =>
 bd (pu (eL σ true 11 x9.ng)) fun x10 =>
  let s11 : Objs := σ ++ [.cells [(.int .i64 0), (.int .i64 0), (.str []), (.str []), (.int .i64 0), (.str []), (.bool false), (.int .i64 0), (.int .i64 0), (.int .i64 0), .nils]]
 bd (stV s11 11 (.ptr σ.length 0) x10.ng x10.ng) fun p12 =>
 bd (pu (eL p12.2 true 4 z3.ng)) fun x13 =>
 bd (pu (eL p12.2 true 11 (.ptr σ.length 0))) fun x14 =>
 bd (M.call 98 [x13.ng, x14.ng] p12.2) fun p15 =>
 bd (pu (evUn .not p15.1.ng)) fun x16 =>
  br x16.ng.ng (
  j_Zo_0 M n0 n1 r1 z4 (.bool false) p15.2) (
 bd (pu (eB .gtr .no z12.ng.ng.ng.ng (.int .i64 0))) fun x17 =>
 bd (gdv x17.ng true (pu (eF 0 (.ptr σ.length 0)))) fun x18 =>
 bd (gdv x17.ng true (pu (eL p15.2 false 1 x18.ng))) fun x19 =>
 bd (gdv x17.ng true (pu (eB .eql .no x19.ng (.int .i64 1)))) fun x20 =>
 bd (gdv x17.ng true (some x20.ng)) fun x21 =>
 bd (gdv x21 false (pu (eF 0 (.ptr σ.length 0)))) fun x22 =>
 bd (gdv x21 false (pu (eL p15.2 false 1 x22.ng))) fun x23 =>
 bd (gdv x21 false (pu (eB .eql .no x23.ng (.int .i64 2)))) fun x24 =>
 bd (gdv x17.ng true (pu (pV x21.ng (.bool true) x24.ng))) fun x25 =>
 bd (pu (pV x17.ng.ng x25.ng (.bool false))) fun x26 =>
  br x26.ng.ng (
  j_Zo_0 M n0 n1 r1 z4 (.bool false) p15.2) (
 bd (pu (eF 0 (.ptr σ.length 0))) fun x27 =>
 bd (pu (eL p15.2 false 1 x27.ng)) fun x28 =>
 bd (pu (eB .eql .no x28.ng (.int .i64 13))) fun x29 =>
 bd (gdv x29.ng true (some z2.ng)) fun x30 =>
 bd (gdv x29.ng true (pu (evUn .not x30.ng))) fun x31 =>
 bd (gdv x29.ng true (some x31.ng)) fun x32 =>
 bd (gdv x32 false (some z12.ng.ng.ng)) fun x33 =>
 bd (gdv x32 false (pu (eF 1 z4.ng))) fun x34 =>
 bd (gdv x32 false (pu (eL p15.2 false 1 x34.ng))) fun x35 =>
 bd (gdv x32 false (pu (Qaq x35.ng))) fun x36 =>
 bd (gdv x32 false (pu (eB .sub .no x36.ng (.int .i64 1)))) fun x37 =>
 bd (gdv x32 false (pu (eB .lss .no x33.ng x37.ng))) fun x38 =>
 bd (gdv x29.ng true (pu (pV x32.ng (.bool true) x38.ng))) fun x39 =>
 bd (pu (pV x29.ng.ng x39.ng (.bool false))) fun x40 =>
  br x40.ng.ng (
  j_Zo_0 M n0 n1 r1 z4 (.bool false) p15.2) (
 bd (pu (eB .add .no z12.ng (.int .i64 1))) fun x41 =>
 bd (fz n1 p15.2 fzD z2) fun y42 =>
 bd (fz n1 p15.2 fzD z3) fun y43 =>
 bd (fz n1 p15.2 fzD z4) fun y44 =>
 bd (fz n1 p15.2 fzD z10) fun y45 =>
 bd (fz n1 p15.2 fzD z11) fun y46 =>
 bd (fz n1 p15.2 fzD x41.ng) fun y47 =>
 bd (cuO n1 p15.2) fun s48 => r1 [y42, y43, y44, y45, y46, y47] s48)))) (
 bd (fz n1 σ fzD z4) fun y49 =>
 bd (fz n1 σ fzD .any) fun y50 =>
 bd (cuO n1 σ) fun s51 =>
 bd (pu (eF 1 y49.ng)) fun x52 =>
 bd (pu (eL s51 false 1 x52.ng)) fun x53 =>
 bd (pu (Qaq x53.ng)) fun x54 =>
 bd (pu (eB .gtr .no x54.ng (.int .i64 0))) fun x55 =>
 bd (oK false x55.ng) (nK n0 s51))
def l_Zo_0 (M : Mach) (n0 : Nat) (n1 : Nat) : Rk := M.fx fun rec vs σ => b_Zo_0 M n0 n1 rec (vs.getD 0 .undef) (vs.getD 1 .undef) (vs.getD 2 .undef) (vs.getD 3 .undef) (vs.getD 4 .undef) (vs.getD 5 .undef) σ
def s_Zo (M : Mach) (a0 a1 a2 : V) (σ : Objs) : Ro :=
 bd (boxV σ a0.ng) fun p0 =>
 bd (boxV p0.2 a1.ng) fun p1 =>
 bd (pu (eF 1 p1.1.ng)) fun x2 =>
 bd (pu (eL p1.2 false 1 x2.ng)) fun x3 =>
 bd (pu (Qaq x3.ng)) fun x4 =>
 bd (fz p1.2.length p1.2 fzD a2) fun y56 =>
 bd (fz p1.2.length p1.2 fzD p0.1) fun y57 =>
 bd (fz p1.2.length p1.2 fzD p1.1) fun y58 =>
 bd (fz p1.2.length p1.2 fzD x3) fun y59 =>
 bd (fz p1.2.length p1.2 fzD x4) fun y60 =>
 bd (fz p1.2.length p1.2 fzD (.int .i64 0)) fun y61 =>
  l_Zo_0 M σ.length p1.2.length [y56, y57, y58, y59, y60, y61] p1.2
theorem k_Zo (M : Mach) (a0 a1 a2 : V) (σ : Objs) : fnK M c_Zo [a0, a1, a2] σ = s_Zo M a0 a1 a2 σ := by kernel_rfl
def c_Z16 : Ev.Fn := ⟨37, [.tmp 2], false, false, (Yq 0 [Yk 1 (.box 0), Yv 2 (Ys [])] (.seq (Yq 1 [Ya 4 0 1, Yl 5 false 1 4, Yh 6 5, Yo 7 .eql .no 6 (Yi 0)] (.cond 7 (Yq 2 [Yv 2 (Ys [])] .ret) .skip)) (Yq 3 [Ya 8 0 1, Yl 9 false 1 8, Ya 10 0 1, Yl 11 false 1 10, Yh 12 11, Yo 13 .sub .no 12 (Yi 1), Ye 14 2 9 13, Ya 15 1 14, Yl 16 false 1 15, Yu 3 16] (.seq (Yq 4 [Yv 17 3, Yh 18 17, Yo 19 .eql .no 18 (Yi 0), Yv 20 19, ⟨some 21, (some (20, false)), .mv 3 false⟩, ⟨some 22, (some (20, false)), .mv 3 false⟩, ⟨some 23, (some (20, false)), .len 22⟩, ⟨some 24, (some (20, false)), .bin .sub .no 23 (Yi 1)⟩, ⟨some 25, (some (20, false)), .iaddr 11 21 24⟩, ⟨some 26, (some (20, false)), .faddr 0 25⟩, ⟨some 27, (some (20, false)), .load false 1 26⟩, ⟨some 28, (some (20, false)), .bin .neq .no 27 (Yi 13)⟩, Yk 29 (.pick 20 Yt 28)] (.cond 29 (Yq 5 [Yv 2 (Ys [])] .ret) .skip)) (Yq 6 [Yv 30 3, Yu 31 3, Yh 32 31, Yo 33 .sub .no 32 (Yi 1), Ye 34 11 30 33, Ya 35 3 34, Yl 36 false 1 35, Yv 2 36] .ret)))))⟩
theorem ok_c_Z16 : Qam Tryz.prog 75 c_Z16 = true := Qad Tryz.func75 (by kernel_rfl)
def s_Z16 (M : Mach) (a0 : V) (σ : Objs) : Ro :=
 bd (boxV σ a0.ng) fun p0 =>
 bd (pu (eF 0 p0.1.ng)) fun x1 =>
 bd (pu (eL p0.2 false 1 x1.ng)) fun x2 =>
 bd (pu (Qaq x2.ng)) fun x3 =>
 bd (pu (eB .eql .no x3.ng (.int .i64 0))) fun x4 =>
  br x4.ng (
 bd (oK false (.str [])) (nK σ.length p0.2)) (
 bd (pu (eF 0 p0.1.ng)) fun x5 =>
 bd (pu (eL p0.2 false 1 x5.ng)) fun x6 =>
 bd (pu (eF 0 p0.1.ng)) fun x7 =>
 bd (pu (eL p0.2 false 1 x7.ng)) fun x8 =>
 bd (pu (Qaq x8.ng)) fun x9 =>
 bd (pu (eB .sub .no x9.ng (.int .i64 1))) fun x10 =>
 bd (pu (eI 2 x10.ng x6.ng)) fun x11 =>
 bd (pu (eF 1 x11.ng)) fun x12 =>
 bd (pu (eL p0.2 false 1 x12.ng)) fun x13 =>
 bd (pu (Qaq x13.ng.ng)) fun x14 =>
 bd (pu (eB .eql .no x14.ng (.int .i64 0))) fun x15 =>
 bd (gdv x15.ng false (some x13.ng)) fun x16 =>
 bd (gdv x15.ng false (some x13.ng)) fun x17 =>
 bd (gdv x15.ng false (pu (Qaq x17.ng))) fun x18 =>
 bd (gdv x15.ng false (pu (eB .sub .no x18.ng (.int .i64 1)))) fun x19 =>
 bd (gdv x15.ng false (pu (eI 11 x19.ng x16.ng))) fun x20 =>
 bd (gdv x15.ng false (pu (eF 0 x20.ng))) fun x21 =>
 bd (gdv x15.ng false (pu (eL p0.2 false 1 x21.ng))) fun x22 =>
 bd (gdv x15.ng false (pu (eB .neq .no x22.ng (.int .i64 13)))) fun x23 =>
 bd (pu (pV x15.ng.ng (.bool true) x23.ng)) fun x24 =>
  br x24.ng (
 bd (oK false (.str [])) (nK σ.length p0.2)) (
 bd (pu (Qaq x13.ng)) fun x25 =>
 bd (pu (eB .sub .no x25.ng (.int .i64 1))) fun x26 =>
 bd (pu (eI 11 x26.ng x13.ng.ng)) fun x27 =>
 bd (pu (eF 3 x27.ng)) fun x28 =>
 bd (pu (eL p0.2 false 1 x28.ng)) fun x29 =>
 bd (oK false x29.ng) (nK σ.length p0.2)))
theorem k_Z16 (M : Mach) (a0 : V) (σ : Objs) : fnK M c_Z16 [a0] σ = s_Z16 M a0 σ := by kernel_rfl
def c_Z9 : Ev.Fn := ⟨77, [.cell 4 true 3], false, false, (Yq 0 [Yk 3 (.box 1), Yk 4 (.alloc [Y0, Y0, .nils])] (.seq (Yq 1 [Ya 6 0 3, Yl 7 false 1 6] (.block 0 (.seq (Yq 2 [Yo 9 .eql .no 7 (Yi 1), Yv 8 9] (.cond 8 .skip (.ops 3 [Yo 10 .eql .no 7 (Yi 2), Yv 8 10]))) (.cond 8 (Yq 4 [Yv 11 0, Yl 12 true 11 3, Yc 13 99 [11, 12], Yw 3 4 13 false] .ret) (Yq 5 [Yo 15 .eql .no 7 (Yi 3), Yv 14 15] (.cond 14 (Yq 6 [Yv 16 0, Ya 17 3 3, Yl 18 false 1 17, Yc 19 100 [16, (Ys [99, 108, 97, 115, 115]), (Yi 3), 18], Yw 3 4 19 false] .ret) (Yq 7 [Yo 21 .eql .no 7 (Yi 4), Yv 20 21] (.cond 20 (Yq 8 [Yv 22 0, Ya 23 3 3, Yl 24 false 1 23, Yc 25 100 [22, (Ys [105, 100]), (Yi 2), 24], Yw 3 4 25 false] .ret) (Yq 9 [Yo 27 .eql .no 7 (Yi 5), Yv 26 27] (.cond 26 (Yq 10 [Ya 28 3 3, Yl 29 false 1 28, Ya 30 4 3, Yl 31 true 3 30, Yk 32 (.build [Y0, Yb, Yn, Yn, Y0, Yn, Yb] [(0, 1, (Yi 2)), (3, 1, 29), (4, 3, 31)]), Yk 5 (.alloc [Y0, Yb, Yn, Yn, Y0, Yn, Yb]), Yw 7 5 32 false] (.seq (Yq 11 [Ya 33 1 3, Yl 34 false 1 33, Yo 35 .eql .no 34 (Yi 0)] (.cond 35 (.ops 12 [Ya 36 1 3, Yw 1 36 (Yi 2) false]) .skip)) (Yq 13 [Yv 37 0, Yv 38 0, Yl 39 true 7 5, Yl 40 true 11 3, Yc 41 102 [38, 39, 40], Yc 42 101 [37, 41], Yw 3 4 42 false] .ret))) (Yq 14 [Yo 44 .eql .no 7 (Yi 11), Yv 43 44] (.cond 43 (Yq 15 [Yv 45 0, Ya 46 3 3, Yl 47 false 1 46, Yk 48 (.build [Y0, Yb, Yn, Yn, Y0, Yn, Yb] [(0, 1, (Yi 3)), (3, 1, 47)]), Yc 49 101 [45, 48], Yw 3 4 49 false] .ret) (Yq 16 [Yo 51 .eql .no 7 (Yi 6), Yv 50 51] (.cond 50 (Yq 17 [Yk 52 (.build [Y0, Y0, .nils] [(0, 1, (Yi 6))]), Yw 3 4 52 false] .ret) (.seq (Yq 18 [Yo 54 .eql .no 7 (Yi 8), Yv 53 54] (.cond 53 .skip (.ops 19 [Yo 55 .eql .no 7 (Yi 9), Yv 53 55]))) (.cond 53 (Yq 20 [Yv 56 0, Ya 57 10 3, Yl 58 false 1 57, Yc 59 103 [56, 58], Yw 3 4 59 false] .ret) (Yq 21 [Yo 61 .eql .no 7 (Yi 10), Yv 60 61] (.cond 60 (Yq 22 [Yv 62 0, Ya 63 10 3, Yl 64 false 1 63, Yc 65 103 [62, 64], Yc 66 104 [65], Yw 3 4 66 false] .ret) (Yq 23 [Yo 68 .eql .no 7 (Yi 7), Yv 67 68] (.cond 67 (Yq 24 [Yv 69 0, Yl 70 true 11 3, Yc 71 105 [69, 70], Yw 3 4 71 false] .ret) (Yq 25 [Yo 73 .eql .no 7 (Yi 12), Yv 72 73] (.cond 72 (Yq 26 [Yv 74 0, Yc 75 106 [74], Yw 3 4 75 false] .ret) .skip)))))))))))))))))))))) (Yq 27 [Yk 76 (.build [Y0, Y0, .nils] [(0, 1, (Yi 7))]), Yw 3 4 76 false] .ret)))⟩
theorem ok_c_Z9 : Qam Tryz.prog 76 c_Z9 = true := Qad Tryz.func76 (by kernel_rfl)
def j_Z9_1 (M : Mach) (n0 : Nat) (z0 z3 z4 z5 : V) (σ : Objs) : Ro :=
 bd (pu (eL σ true 7 z5.ng)) fun x28 =>
 bd (pu (eL σ true 11 z3.ng)) fun x29 =>
 bd (M.call 102 [z0.ng.ng, x28.ng, x29.ng] σ) fun p30 =>
 bd (M.call 101 [z0.ng.ng, p30.1.ng] p30.2) fun p31 =>
 bd (stV p31.2 3 z4.ng p31.1.ng p31.1.ng) fun p32 =>
 bd (resC p32.2 true 3 z4) fun x33 =>
 bd (oK false x33) (nK n0 p32.2)
def j_Z9_2 (M : Mach) (n0 : Nat) (z0 z3 z4 z7 z53 : V) (σ : Objs) : Ro :=
  br z53.ng (
 bd (pu (eF 10 z3.ng)) fun x50 =>
 bd (pu (eL σ false 1 x50.ng)) fun x51 =>
 bd (M.call 103 [z0.ng.ng, x51.ng] σ) fun p52 =>
 bd (stV p52.2 3 z4.ng p52.1.ng p52.1.ng) fun p53 =>
 bd (resC p53.2 true 3 z4) fun x54 =>
 bd (oK false x54) (nK n0 p53.2)) (
 bd (pu (eB .eql .no z7.ng (.int .i64 10))) fun x55 =>
  br x55.ng.ng (
 bd (pu (eF 10 z3.ng)) fun x56 =>
 bd (pu (eL σ false 1 x56.ng)) fun x57 =>
 bd (M.call 103 [z0.ng.ng, x57.ng] σ) fun p58 =>
 bd (M.call 104 [p58.1.ng] p58.2) fun p59 =>
 bd (stV p59.2 3 z4.ng p59.1.ng p59.1.ng) fun p60 =>
 bd (resC p60.2 true 3 z4) fun x61 =>
 bd (oK false x61) (nK n0 p60.2)) (
 bd (pu (eB .eql .no z7.ng (.int .i64 7))) fun x62 =>
  br x62.ng.ng (
 bd (pu (eL σ true 11 z3.ng)) fun x63 =>
 bd (M.call 105 [z0.ng.ng, x63.ng] σ) fun p64 =>
 bd (stV p64.2 3 z4.ng p64.1.ng p64.1.ng) fun p65 =>
 bd (resC p65.2 true 3 z4) fun x66 =>
 bd (oK false x66) (nK n0 p65.2)) (
 bd (pu (eB .eql .no z7.ng (.int .i64 12))) fun x67 =>
  br x67.ng.ng (
 bd (M.call 106 [z0.ng.ng] σ) fun p68 =>
 bd (stV p68.2 3 z4.ng p68.1.ng p68.1.ng) fun p69 =>
 bd (resC p69.2 true 3 z4) fun x70 =>
 bd (oK false x70) (nK n0 p69.2)) (
 bd (pu (Qa2 [(.int .i64 0), (.int .i64 0), .nils] [(0, 1, (.int .i64 7))])) fun x71 =>
 bd (stV σ 3 z4.ng x71.ng x71.ng) fun p72 =>
 bd (resC p72.2 true 3 z4) fun x73 =>
 bd (oK false x73) (nK n0 p72.2)))))
def j_Z9_0 (M : Mach) (n0 : Nat) (z0 z3 z4 z7 z8 : V) (σ : Objs) : Ro :=
  br z8.ng (
 bd (pu (eL σ true 11 z3.ng)) fun x4 =>
 bd (M.call 99 [z0.ng.ng, x4.ng] σ) fun p5 =>
 bd (stV p5.2 3 z4.ng p5.1.ng p5.1.ng) fun p6 =>
 bd (resC p6.2 true 3 z4) fun x7 =>
 bd (oK false x7) (nK n0 p6.2)) (
 bd (pu (eB .eql .no z7.ng (.int .i64 3))) fun x8 =>
  br x8.ng.ng (
 bd (pu (eF 3 z3.ng)) fun x9 =>
 bd (pu (eL σ false 1 x9.ng)) fun x10 =>
 bd (M.call 100 [z0.ng.ng, (.str [99, 108, 97, 115, 115]), (.int .i64 3), x10.ng] σ) fun p11 =>
 bd (stV p11.2 3 z4.ng p11.1.ng p11.1.ng) fun p12 =>
 bd (resC p12.2 true 3 z4) fun x13 =>
 bd (oK false x13) (nK n0 p12.2)) (
 bd (pu (eB .eql .no z7.ng (.int .i64 4))) fun x14 =>
  br x14.ng.ng (
 bd (pu (eF 3 z3.ng)) fun x15 =>
 bd (pu (eL σ false 1 x15.ng)) fun x16 =>
 bd (M.call 100 [z0.ng.ng, (.str [105, 100]), (.int .i64 2), x16.ng] σ) fun p17 =>
 bd (stV p17.2 3 z4.ng p17.1.ng p17.1.ng) fun p18 =>
 bd (resC p18.2 true 3 z4) fun x19 =>
 bd (oK false x19) (nK n0 p18.2)) (
 bd (pu (eB .eql .no z7.ng (.int .i64 5))) fun x20 =>
  br x20.ng.ng (
 bd (pu (eF 3 z3.ng)) fun x21 =>
 bd (pu (eL σ false 1 x21.ng)) fun x22 =>
 bd (pu (eF 4 z3.ng)) fun x23 =>
 bd (pu (eL σ true 3 x23.ng)) fun x24 =>
 bd (pu (Qa2 [(.int .i64 0), (.bool false), (.str []), (.str []), (.int .i64 0), (.str []), (.bool false)] [(0, 1, (.int .i64 2)), (3, 1, x22.ng), (4, 3, x24.ng)])) fun x25 =>
  let s26 : Objs := σ ++ [.cells [(.int .i64 0), (.bool false), (.str []), (.str []), (.int .i64 0), (.str []), (.bool false)]]
 bd (stV s26 7 (.ptr σ.length 0) x25.ng x25.ng) fun p27 =>
 bd (pu (eF 1 z3.ng)) fun x34 =>
 bd (pu (eL p27.2 false 1 x34.ng)) fun x35 =>
 bd (pu (eB .eql .no x35.ng (.int .i64 0))) fun x36 =>
  br x36.ng (
 bd (pu (eF 1 z3.ng)) fun x37 =>
 bd (stV p27.2 1 x37.ng (.int .i64 2) (.int .i64 2)) fun p38 =>
  j_Z9_1 M n0 z0 z3 z4 (.ptr σ.length 0) p38.2) (
  j_Z9_1 M n0 z0 z3 z4 (.ptr σ.length 0) p27.2)) (
 bd (pu (eB .eql .no z7.ng (.int .i64 11))) fun x39 =>
  br x39.ng.ng (
 bd (pu (eF 3 z3.ng)) fun x40 =>
 bd (pu (eL σ false 1 x40.ng)) fun x41 =>
 bd (pu (Qa2 [(.int .i64 0), (.bool false), (.str []), (.str []), (.int .i64 0), (.str []), (.bool false)] [(0, 1, (.int .i64 3)), (3, 1, x41.ng)])) fun x42 =>
 bd (M.call 101 [z0.ng.ng, x42.ng] σ) fun p43 =>
 bd (stV p43.2 3 z4.ng p43.1.ng p43.1.ng) fun p44 =>
 bd (resC p44.2 true 3 z4) fun x45 =>
 bd (oK false x45) (nK n0 p44.2)) (
 bd (pu (eB .eql .no z7.ng (.int .i64 6))) fun x46 =>
  br x46.ng.ng (
 bd (pu (Qa2 [(.int .i64 0), (.int .i64 0), .nils] [(0, 1, (.int .i64 6))])) fun x47 =>
 bd (stV σ 3 z4.ng x47.ng x47.ng) fun p48 =>
 bd (resC p48.2 true 3 z4) fun x49 =>
 bd (oK false x49) (nK n0 p48.2)) (
 bd (pu (eB .eql .no z7.ng (.int .i64 8))) fun x74 =>
  br x74.ng.ng (
  j_Z9_2 M n0 z0 z3 z4 z7 x74.ng σ) (
 bd (pu (eB .eql .no z7.ng (.int .i64 9))) fun x75 =>
  j_Z9_2 M n0 z0 z3 z4 z7 x75.ng σ)))))))
def s_Z9 (M : Mach) (a0 a1 : V) (σ : Objs) : Ro :=
 bd (boxV σ a1.ng) fun p0 =>
  let s1 : Objs := p0.2 ++ [.cells [(.int .i64 0), (.int .i64 0), .nils]]
 bd (pu (eF 0 p0.1.ng)) fun x2 =>
 bd (pu (eL s1 false 1 x2.ng)) fun x3 =>
 bd (pu (eB .eql .no x3.ng (.int .i64 1))) fun x76 =>
  br x76.ng.ng (
  j_Z9_0 M σ.length a0 p0.1 (.ptr p0.2.length 0) x3 x76.ng s1) (
 bd (pu (eB .eql .no x3.ng (.int .i64 2))) fun x77 =>
  j_Z9_0 M σ.length a0 p0.1 (.ptr p0.2.length 0) x3 x77.ng s1)
theorem k_Z9 (M : Mach) (a0 a1 : V) (σ : Objs) : fnK M c_Z9 [a0, a1] σ = s_Z9 M a0 a1 σ := by kernel_rfl
def c_Z1t : Ev.Fn := ⟨55, [.tmp 4, .tmp 5], false, false, (Yq 0 [Yv 4 (Yi 0), Yv 5 (Yi 0)] (.seq (Yq 1 [Yv 6 (Yi 1)] (.block 0 (.loop [0, 1, 6] [0, 1, 4, 5] (.seq (Yq 2 [Yv 8 6, Yo 9 .leq .no 8 (Yi 4), Yv 10 9, ⟨some 11, (some (10, true)), .mv 1 false⟩, ⟨some 12, (some (10, true)), .mv 6 false⟩, ⟨some 13, (some (10, true)), .bin .add .no 11 12⟩, ⟨some 14, (some (10, true)), .mv 0 false⟩, ⟨some 15, (some (10, true)), .len 14⟩, ⟨some 16, (some (10, true)), .bin .leq .no 13 15⟩, Yk 17 (.pick 10 16 Yf)] (.cond 17 .skip (.exit 0))) (.seq (.block 1 (Yq 4 [Yv 20 0, Yv 21 1, Yv 22 1, Yv 23 6, Yo 24 .add .no 22 23, Yk 25 (.cut 1 20 (some 21) (some 24) none), Yc 26 78 [25]] (.cond 26 (Yq 5 [Yu 27 0, Yv 28 1, Yv 29 1, Yv 30 6, Yo 31 .add .no 29 30, Yk 32 (.cut 1 27 (some 28) (some 31) none), Yc 33 107 [32], Yv 34 6, Yv 4 33, Yv 5 34] .ret) .skip))) (.ops 3 [Yv 18 6, Yo 19 .add .no 18 (Yi 1), Yv 6 19])))))) (.seq (Yq 6 [Yv 7 (Yi 3)] (.block 2 (.loop [0, 1, 7] [4, 5] (.seq (Yq 7 [Yv 35 7, Yo 36 .gtr .no 35 (Yi 1)] (.cond 36 .skip (.exit 2))) (.seq (.block 3 (Yq 9 [Yv 39 1, Yv 40 7, Yo 41 .add .no 39 40, Yv 42 0, Yh 43 42, Yo 44 .leq .no 41 43, Yv 45 44, ⟨some 46, (some (45, true)), .mv 0 false⟩, ⟨some 47, (some (45, true)), .mv 1 false⟩, ⟨some 48, (some (45, true)), .mv 1 false⟩, ⟨some 49, (some (45, true)), .mv 7 false⟩, ⟨some 50, (some (45, true)), .bin .add .no 48 49⟩, ⟨some 51, (some (45, true)), .cut 1 46 (some 47) (some 50) none⟩, ⟨some 52, (some (45, true)), .call 108 [51]⟩, Yk 53 (.pick 45 52 Yf)] (.cond 53 (Yq 10 [Yv 54 7, Yv 4 (Yi 65533), Yv 5 54] .ret) .skip))) (.ops 8 [Yv 37 7, Yo 38 .sub .no 37 (Yi 1), Yv 7 38])))))) (Yq 11 [Yv 4 (Yi 65533), Yv 5 (Yi 1)] .ret))))⟩
theorem ok_c_Z1t : Qam Tryz.prog 77 c_Z1t = true := Qad Tryz.func77 (by kernel_rfl)
def b_Z1t_1 (M : Mach) (n0 : Nat) (n1 : Nat) (r1 : Rk) (z0 z1 z7 : V) (σ : Objs) : Ro :=
 bd (pu (eB .gtr .no z7.ng.ng (.int .i64 1))) fun x29 =>
  br x29.ng (
 bd (pu (eB .add .no z1.ng.ng z7.ng.ng)) fun x30 =>
 bd (pu (Qaq z0.ng.ng)) fun x31 =>
 bd (pu (eB .leq .no x30.ng x31.ng)) fun x32 =>
 bd (gdv x32.ng true (some z0.ng)) fun x33 =>
 bd (gdv x32.ng true (some z1.ng)) fun x34 =>
 bd (gdv x32.ng true (some z1.ng)) fun x35 =>
 bd (gdv x32.ng true (some z7.ng)) fun x36 =>
 bd (gdv x32.ng true (pu (eB .add .no x35.ng x36.ng))) fun x37 =>
 bd (gdv x32.ng true (pu (Qba 1 x33.ng (some x34.ng) (some x37.ng) none))) fun x38 =>
 bd (gdp x32.ng true (M.call 108 [x38.ng] σ) σ) fun p39 =>
 bd (pu (pV x32.ng.ng p39.1.ng (.bool false))) fun x40 =>
  br x40.ng (
 bd (fz n1 p39.2 fzD (.int .i64 65533)) fun y41 =>
 bd (fz n1 p39.2 fzD z7.ng.ng) fun y42 =>
 bd (cuO n1 p39.2) fun s43 =>
  nK n0 s43 (.tup [y41.ng, y42.ng])) (
 bd (pu (eB .sub .no z7.ng.ng (.int .i64 1))) fun x44 =>
 bd (fz n1 p39.2 fzD z0) fun y45 =>
 bd (fz n1 p39.2 fzD z1) fun y46 =>
 bd (fz n1 p39.2 fzD x44.ng) fun y47 =>
 bd (cuO n1 p39.2) fun s48 => r1 [y45, y46, y47] s48)) (
 bd (fz n1 σ fzD .any) fun y49 =>
 bd (fz n1 σ fzD .any) fun y50 =>
 bd (cuO n1 σ) fun s51 =>
  nK n0 s51 (.tup [(.int .i64 65533), (.int .i64 1)]))
def l_Z1t_1 (M : Mach) (n0 : Nat) (n1 : Nat) : Rk := M.fx fun rec vs σ => b_Z1t_1 M n0 n1 rec (vs.getD 0 .undef) (vs.getD 1 .undef) (vs.getD 2 .undef) σ
def b_Z1t_0 (M : Mach) (n0 : Nat) (n1 : Nat) (r1 : Rk) (z0 z1 z6 : V) (σ : Objs) : Ro :=
 bd (pu (eB .leq .no z6.ng.ng (.int .i64 4))) fun x0 =>
 bd (gdv x0.ng true (some z1.ng)) fun x1 =>
 bd (gdv x0.ng true (some z6.ng)) fun x2 =>
 bd (gdv x0.ng true (pu (eB .add .no x1.ng x2.ng))) fun x3 =>
 bd (gdv x0.ng true (some z0.ng)) fun x4 =>
 bd (gdv x0.ng true (pu (Qaq x4.ng))) fun x5 =>
 bd (gdv x0.ng true (pu (eB .leq .no x3.ng x5.ng))) fun x6 =>
 bd (pu (pV x0.ng.ng x6.ng (.bool false))) fun x7 =>
  br x7.ng (
 bd (pu (eB .add .no z1.ng.ng z6.ng.ng)) fun x8 =>
 bd (pu (Qba 1 z0.ng.ng (some z1.ng.ng) (some x8.ng) none)) fun x9 =>
 bd (M.call 78 [x9.ng] σ) fun p10 =>
  br p10.1.ng (
 bd (pu (eB .add .no z1.ng.ng z6.ng.ng)) fun x11 =>
 bd (pu (Qba 1 z0.ng (some z1.ng.ng) (some x11.ng) none)) fun x12 =>
 bd (M.call 107 [x12.ng] p10.2) fun p13 =>
 bd (fz n1 p13.2 fzD z0.ng) fun y14 =>
 bd (fz n1 p13.2 fzD z1) fun y15 =>
 bd (fz n1 p13.2 fzD p13.1.ng) fun y16 =>
 bd (fz n1 p13.2 fzD z6.ng.ng) fun y17 =>
 bd (cuO n1 p13.2) fun s18 =>
  nK n0 s18 (.tup [y16.ng, y17.ng])) (
 bd (pu (eB .add .no z6.ng.ng (.int .i64 1))) fun x19 =>
 bd (fz n1 p10.2 fzD z0) fun y20 =>
 bd (fz n1 p10.2 fzD z1) fun y21 =>
 bd (fz n1 p10.2 fzD x19.ng) fun y22 =>
 bd (cuO n1 p10.2) fun s23 => r1 [y20, y21, y22] s23)) (
 bd (fz n1 σ fzD z0) fun y24 =>
 bd (fz n1 σ fzD z1) fun y25 =>
 bd (fz n1 σ fzD .any) fun y26 =>
 bd (fz n1 σ fzD .any) fun y27 =>
 bd (cuO n1 σ) fun s28 =>
 bd (fz s28.length s28 fzD y24) fun y52 =>
 bd (fz s28.length s28 fzD y25) fun y53 =>
 bd (fz s28.length s28 fzD (.int .i64 3)) fun y54 =>
  l_Z1t_1 M n0 s28.length [y52, y53, y54] s28)
def l_Z1t_0 (M : Mach) (n0 : Nat) (n1 : Nat) : Rk := M.fx fun rec vs σ => b_Z1t_0 M n0 n1 rec (vs.getD 0 .undef) (vs.getD 1 .undef) (vs.getD 2 .undef) σ
def s_Z1t (M : Mach) (a0 a1 : V) (σ : Objs) : Ro :=
 bd (fz σ.length σ fzD a0) fun y55 =>
 bd (fz σ.length σ fzD a1) fun y56 =>
 bd (fz σ.length σ fzD (.int .i64 1)) fun y57 =>
  l_Z1t_0 M σ.length σ.length [y55, y56, y57] σ
theorem k_Z1t (M : Mach) (a0 a1 : V) (σ : Objs) : fnK M c_Z1t [a0, a1] σ = s_Z1t M a0 a1 σ := by kernel_rfl
def c_Z22 : Ev.Fn := ⟨16, [.tmp 2], false, false, (Yq 0 [Yv 2 Yf] (Yq 1 [Yv 4 0, Yc 5 107 [4], Yv 3 5] (.seq (.drw 2 [⟨Yv 6 3, 0, []⟩, ⟨Yc 7 95 [6], 1, []⟩, ⟨Yv 8 7, 2, []⟩, ⟨⟨some 9, (some (8, true)), .mv 3 false⟩, 3, []⟩, ⟨⟨some 12, (some (8, true)), .mv 0 true⟩, 6, []⟩, ⟨⟨some 13, (some (8, true)), .conv .bytesStrN 12⟩, 7, []⟩, ⟨⟨some 10, (some (8, true)), .call 109 [9]⟩, 4, []⟩, ⟨⟨some 11, (some (8, true)), .conv .bytesStrN 10⟩, 5, []⟩, ⟨⟨some 14, (some (8, true)), .bin .eql .no 11 13⟩, 8, []⟩, ⟨Yk 15 (.pick 8 14 Yf), 9, []⟩, ⟨Yv 2 15, 10, []⟩]) .ret)))⟩
theorem ok_c_Z22 : Qam Tryz.prog 78 c_Z22 = true := Qad Tryz.func78 (by kernel_rfl)
def s_Z22 (M : Mach) (a0 : V) (σ : Objs) : Ro :=
 bd (M.call 107 [a0.ng.ng] σ) fun p0 =>
 bd (M.call 95 [p0.1.ng.ng.ng] p0.2) fun p1 =>
 bd (gdv p1.1.ng true (some p0.1.ng.ng)) fun x2 =>
  gd p1.1.ng true (
 bd (gdv p1.1.ng true (pu (eC p1.2 .bytesStrN a0.ng))) fun x3 =>
 bd (gdp p1.1.ng true (M.call 109 [x2.ng] p1.2) p1.2) fun p4 =>
 bd (gdv p1.1.ng true (pu (eC p4.2 .bytesStrN p4.1.ng))) fun x5 =>
 bd (gdv p1.1.ng true (pu (eB .eql .no x5.ng x3.ng))) fun x6 =>
 bd (pu (pV p1.1.ng.ng x6.ng (.bool false))) fun x7 =>
 bd (oK false x7.ng) (nK σ.length p4.2)) (
 bd (gdv p1.1.ng true (pu (eC p1.2 .bytesStrN .undef))) fun x8 =>
 bd (gdp p1.1.ng true (M.call 109 [x2.ng] p1.2) p1.2) fun p9 =>
 bd (gdv p1.1.ng true (pu (eC p9.2 .bytesStrN p9.1.ng))) fun x10 =>
 bd (gdv p1.1.ng true (pu (eB .eql .no x10.ng x8.ng))) fun x11 =>
 bd (pu (pV p1.1.ng.ng x11.ng (.bool false))) fun x12 =>
 bd (oK false x12.ng) (nK σ.length p9.2))
theorem k_Z22 (M : Mach) (a0 : V) (σ : Objs) : fnK M c_Z22 [a0] σ = s_Z22 M a0 σ := by kernel_rfl
def c_Z1x : Ev.Fn := ⟨17, [.tmp 2], false, false, (Yq 0 [Yv 2 Yf] (Yq 1 [Yv 3 0, Yo 4 .geq .no 3 (Yi 0), Yv 5 4, ⟨some 6, (some (5, true)), .mv 0 false⟩, ⟨some 7, (some (5, true)), .bin .lss .no 6 (Yi 1114112)⟩, Yk 8 (.pick 5 7 Yf), Yv 9 8, ⟨some 10, (some (9, true)), .mv 0 false⟩, ⟨some 11, (some (9, true)), .bin .lss .no 10 (Yi 55296)⟩, ⟨some 12, (some (9, true)), .mv 11 false⟩, ⟨some 13, (some (12, false)), .mv 0 false⟩, ⟨some 14, (some (12, false)), .bin .gtr .no 13 (Yi 57343)⟩, ⟨some 15, (some (9, true)), .pick 12 Yt 14⟩, Yk 16 (.pick 9 15 Yf), Yv 2 16] .ret))⟩
theorem ok_c_Z1x : Qam Tryz.prog 95 c_Z1x = true := Qad Tryz.func95 (by kernel_rfl)
def s_Z1x (M : Mach) (a0 : V) (σ : Objs) : Ro :=
 bd (pu (eB .geq .no a0.ng.ng (.int .i64 0))) fun x0 =>
 bd (gdv x0.ng true (some a0.ng)) fun x1 =>
 bd (gdv x0.ng true (pu (eB .lss .no x1.ng (.int .i64 1114112)))) fun x2 =>
 bd (pu (pV x0.ng.ng x2.ng (.bool false))) fun x3 =>
 bd (gdv x3.ng true (some a0.ng)) fun x4 =>
 bd (gdv x3.ng true (pu (eB .lss .no x4.ng (.int .i64 55296)))) fun x5 =>
 bd (gdv x3.ng true (some x5.ng)) fun x6 =>
 bd (gdv x6 false (some a0.ng)) fun x7 =>
 bd (gdv x6 false (pu (eB .gtr .no x7.ng (.int .i64 57343)))) fun x8 =>
 bd (gdv x3.ng true (pu (pV x6.ng (.bool true) x8.ng))) fun x9 =>
 bd (pu (pV x3.ng.ng x9.ng (.bool false))) fun x10 =>
 bd (oK false x10.ng) (nK σ.length σ)
theorem k_Z1x (M : Mach) (a0 : V) (σ : Objs) : fnK M c_Z1x [a0] σ = s_Z1x M a0 σ := by kernel_rfl
def c_Z2c : Ev.Fn := ⟨192, [.cell 4 true 6], false, false, (Yq 0 [Yk 4 (.alloc [Y0, Y0, Y0, Yn, Yn, Yb])] (.seq (Yq 1 [Yv 15 1, Yo 16 .lss .no 15 (Yi 0)] (.cond 16 (.ops 2 [Yv 1 (Yi 0)]) .skip)) (.seq (Yq 3 [Yv 17 1, Yv 18 0, Yh 19 18, Yo 20 .gtr .no 17 19] (.cond 20 (.ops 4 [Yv 21 0, Yh 22 21, Yv 1 22]) .skip)) (Yq 5 [Yv 23 0, Yv 24 1, Yc 25 118 [23, 24], Yv 5 25] (.seq (Yq 6 [Yv 26 5, Yv 27 0, Yh 28 27, Yo 29 .geq .no 26 28] (.cond 29 (Yq 7 [Yv 30 0, Yh 31 30, Yu 32 0, Yh 33 32, Yk 34 (.build [Y0, Y0, Y0, Yn, Yn, Yb] [(0, 1, (Yi 0)), (1, 1, 31), (2, 1, 33)]), Yw 6 4 34 false] .ret) .skip)) (Yq 8 [Yv 35 0, Yv 36 5, Ye 37 1 35 36, Yl 38 false 1 37, Yv 6 38] (.seq (Yq 9 [Yv 39 6, Yc 40 119 [39]] (.cond 40 (Yq 10 [Yv 41 5, Yv 7 41] (.seq (.block 0 (.loop [0, 4, 5, 7] [4, 5, 7] (.seq (Yq 11 [Yv 42 0, Yv 43 7, Yc 44 120 [42, 43]] (.cond 44 .skip (.exit 0))) (.block 1 (.ops 12 [Yv 45 7, Yo 46 .add .no 45 (Yi 1), Yv 7 46]))))) (Yq 13 [Yv 47 5, Yv 48 7, Yk 49 (.build [Y0, Y0, Y0, Yn, Yn, Yb] [(0, 1, (Yi 13)), (1, 1, 47), (2, 1, 48)]), Yw 6 4 49 false] .ret))) .skip)) (.seq (Yq 14 [Yv 50 6, Yo 51 .eql .no 50 (Yi 34), Yv 52 51, ⟨some 53, (some (52, false)), .mv 6 false⟩, ⟨some 54, (some (52, false)), .bin .eql .no 53 (Yi 39)⟩, Yk 55 (.pick 52 Yt 54)] (.cond 55 (Yq 15 [Yu 56 0, Yv 57 5, Yc 58 121 [56, 57], Yw 6 4 58 false] .ret) .skip)) (.seq (Yq 16 [Yv 59 0, Yv 60 5, Yc 61 122 [59, 60]] (.cond 61 (Yq 17 [Yu 62 0, Yv 63 5, Yc 64 123 [62, 63], Yw 6 4 64 false] .ret) .skip)) (.seq (Yq 18 [Yv 65 6, Yo 66 .eql .no 65 (Yi 45), Yv 67 66, ⟨some 68, (some (67, true)), .mv 0 false⟩, ⟨some 69, (some (67, true)), .mv 5 false⟩, ⟨some 70, (some (67, true)), .bin .add .no 69 (Yi 1)⟩, ⟨some 71, (some (67, true)), .call 124 [68, 70, (Yi 45)]⟩, Yk 72 (.pick 67 71 Yf), Yv 73 72, ⟨some 74, (some (73, true)), .mv 0 false⟩, ⟨some 75, (some (73, true)), .mv 5 false⟩, ⟨some 76, (some (73, true)), .bin .add .no 75 (Yi 2)⟩, ⟨some 77, (some (73, true)), .call 124 [74, 76, (Yi 62)]⟩, Yk 78 (.pick 73 77 Yf)] (.cond 78 (Yq 19 [Yv 79 5, Yv 80 5, Yo 81 .add .no 80 (Yi 3), Yk 82 (.build [Y0, Y0, Y0, Yn, Yn, Yb] [(0, 1, (Yi 15)), (1, 1, 79), (2, 1, 81)]), Yw 6 4 82 false] .ret) .skip)) (.seq (Yq 20 [Yv 83 0, Yv 84 5, Yc 85 125 [83, 84]] (.cond 85 (Yq 21 [Yu 86 0, Yv 87 5, Yc 88 126 [86, 87], Yw 6 4 88 false] .ret) .skip)) (.seq (Yq 22 [Yv 89 6, Yo 90 .eql .no 89 (Yi 60), Yv 91 90, ⟨some 92, (some (91, true)), .mv 0 false⟩, ⟨some 93, (some (91, true)), .mv 5 false⟩, ⟨some 94, (some (91, true)), .bin .add .no 93 (Yi 1)⟩, ⟨some 95, (some (91, true)), .call 124 [92, 94, (Yi 33)]⟩, Yk 96 (.pick 91 95 Yf), Yv 97 96, ⟨some 98, (some (97, true)), .mv 0 false⟩, ⟨some 99, (some (97, true)), .mv 5 false⟩, ⟨some 100, (some (97, true)), .bin .add .no 99 (Yi 2)⟩, ⟨some 101, (some (97, true)), .call 124 [98, 100, (Yi 45)]⟩, Yk 102 (.pick 97 101 Yf), Yv 103 102, ⟨some 104, (some (103, true)), .mv 0 false⟩, ⟨some 105, (some (103, true)), .mv 5 false⟩, ⟨some 106, (some (103, true)), .bin .add .no 105 (Yi 3)⟩, ⟨some 107, (some (103, true)), .call 124 [104, 106, (Yi 45)]⟩, Yk 108 (.pick 103 107 Yf)] (.cond 108 (Yq 23 [Yv 109 5, Yv 110 5, Yo 111 .add .no 110 (Yi 4), Yk 112 (.build [Y0, Y0, Y0, Yn, Yn, Yb] [(0, 1, (Yi 14)), (1, 1, 109), (2, 1, 111)]), Yw 6 4 112 false] .ret) .skip)) (.seq (Yq 24 [Yv 113 6, Yo 114 .eql .no 113 (Yi 64), Yv 115 114, ⟨some 116, (some (115, true)), .mv 0 false⟩, ⟨some 117, (some (115, true)), .mv 5 false⟩, ⟨some 118, (some (115, true)), .bin .add .no 117 (Yi 1)⟩, ⟨some 119, (some (115, true)), .call 125 [116, 118]⟩, Yk 120 (.pick 115 119 Yf)] (.cond 120 (Yq 25 [Yu 122 0, Yv 123 5, Yo 124 .add .no 123 (Yi 1), Yc 125 127 [122, 124], Yv 121 125, Yx 126 121 0, Yx 127 121 1, Yv 8 126, Yv 9 127] (Yq 26 [Yv 128 5, Yv 129 9, Yv 130 8, Yk 131 (.build [Y0, Y0, Y0, Yn, Yn, Yb] [(0, 1, (Yi 3)), (1, 1, 128), (2, 1, 129), (3, 1, 130)]), Yw 6 4 131 false] .ret)) .skip)) (.seq (Yq 27 [Yv 132 6, Yo 133 .eql .no 132 (Yi 35), Yv 134 133, ⟨some 135, (some (134, true)), .mv 0 false⟩, ⟨some 136, (some (134, true)), .mv 5 false⟩, ⟨some 137, (some (134, true)), .bin .add .no 136 (Yi 1)⟩, ⟨some 138, (some (134, true)), .call 128 [135, 137]⟩, ⟨some 139, (some (134, true)), .mv 138 false⟩, ⟨some 140, (some (139, false)), .mv 0 false⟩, ⟨some 141, (some (139, false)), .mv 5 false⟩, ⟨some 142, (some (139, false)), .bin .add .no 141 (Yi 1)⟩, ⟨some 143, (some (139, false)), .call 129 [140, 142]⟩, ⟨some 144, (some (134, true)), .pick 139 Yt 143⟩, Yk 145 (.pick 134 144 Yf)] (.cond 145 (Yq 28 [Yv 147 0, Yv 148 5, Yo 149 .add .no 148 (Yi 1), Yc 150 127 [147, 149], Yv 146 150, Yx 151 146 0, Yx 152 146 1, Yv 10 151, Yv 11 152] (Yq 29 [Yv 153 5, Yv 154 11, Yv 155 10, Yu 156 0, Yv 157 5, Yo 158 .add .no 157 (Yi 1), Yc 159 125 [156, 158], Yk 160 (.build [Y0, Y0, Y0, Yn, Yn, Yb] [(0, 1, (Yi 4)), (1, 1, 153), (2, 1, 154), (3, 1, 155), (5, 1, 159)]), Yw 6 4 160 false] .ret)) .skip)) (Yq 30 [Yk 161 (.buildSl false 1 9 Y0 [(0, (Yi 21)), (1, (Yi 22)), (2, (Yi 19)), (3, (Yi 20)), (4, (Yi 23)), (5, (Yi 24)), (6, (Yi 18)), (7, (Yi 16)), (8, (Yi 17))] false), Yv 12 (Ys [40, 41, 91, 93, 123, 125, 44, 58, 59]), Yu 13 161] (.seq (Yq 31 [Yv 14 (Yi 0)] (.block 2 (.loop [0, 4, 5, 6, 12, 13, 14] [0, 4, 5] (.seq (Yq 32 [Yv 162 14, Yv 163 12, Yk 164 (.lenS 163), Yo 165 .lss .no 162 164] (.cond 165 .skip (.exit 2))) (.seq (.block 3 (Yq 34 [Yv 168 12, Yv 169 14, Yk 170 (.idx 168 169), Yk 171 (.conv (.toInt .i64) 170), Yv 172 6, Yo 173 .eql .no 171 172] (.cond 173 (Yq 35 [Yu 174 13, Yv 175 14, Ye 176 1 174 175, Yl 177 false 1 176, Yv 178 5, Yv 179 5, Yo 180 .add .no 179 (Yi 1), Yk 181 (.build [Y0, Y0, Y0, Yn, Yn, Yb] [(0, 1, 177), (1, 1, 178), (2, 1, 180)]), Yw 6 4 181 false] .ret) .skip))) (.ops 33 [Yv 166 14, Yo 167 .add .no 166 (Yi 1), Yv 14 167])))))) (Yq 36 [Yv 182 5, Yv 183 5, Yo 184 .add .no 183 (Yi 1), Yu 185 0, Yv 186 5, Yv 187 5, Yo 188 .add .no 187 (Yi 1), Yk 189 (.cut 1 185 (some 186) (some 188) none), Yc 190 130 [189], Yk 191 (.build [Y0, Y0, Y0, Yn, Yn, Yb] [(0, 1, (Yi 9)), (1, 1, 182), (2, 1, 184), (3, 1, 190)]), Yw 6 4 191 false] .ret)))))))))))))))))⟩
theorem ok_c_Z2c : Qam Tryz.prog 94 c_Z2c = true := Qad Tryz.func94 (by kernel_rfl)
def b_Z2c_0 (M : Mach) (n0 : Nat) (n1 : Nat) (r1 : Rk) (z0 z4 z5 z7 : V) (σ : Objs) : Ro :=
 bd (M.call 120 [z0.ng.ng, z7.ng.ng] σ) fun p12 =>
  br p12.1.ng (
 bd (pu (eB .add .no z7.ng.ng (.int .i64 1))) fun x13 =>
 bd (fz n1 p12.2 fzD z0) fun y14 =>
 bd (fz n1 p12.2 fzD z4) fun y15 =>
 bd (fz n1 p12.2 fzD z5) fun y16 =>
 bd (fz n1 p12.2 fzD x13.ng) fun y17 =>
 bd (cuO n1 p12.2) fun s18 => r1 [y14, y15, y16, y17] s18) (
 bd (fz n1 p12.2 fzD z4) fun y19 =>
 bd (fz n1 p12.2 fzD z5) fun y20 =>
 bd (fz n1 p12.2 fzD z7) fun y21 =>
 bd (cuO n1 p12.2) fun s22 =>
 bd (pu (Qa2 [(.int .i64 0), (.int .i64 0), (.int .i64 0), (.str []), (.str []), (.bool false)] [(0, 1, (.int .i64 13)), (1, 1, y20.ng.ng), (2, 1, y21.ng.ng)])) fun x23 =>
 bd (stV s22 6 y19.ng x23.ng x23.ng) fun p24 =>
 bd (resC p24.2 true 6 y19) fun x25 =>
 bd (oK false x25) (nK n0 p24.2))
def l_Z2c_0 (M : Mach) (n0 : Nat) (n1 : Nat) : Rk := M.fx fun rec vs σ => b_Z2c_0 M n0 n1 rec (vs.getD 0 .undef) (vs.getD 1 .undef) (vs.getD 2 .undef) (vs.getD 3 .undef) σ
def b_Z2c_1 (M : Mach) (n0 : Nat) (n1 : Nat) (r1 : Rk) (z0 z4 z5 z6 z12 z13 z14 : V) (σ : Objs) : Ro :=
 bd (pu (Qe2 z12.ng.ng)) fun x115 =>
 bd (pu (eB .lss .no z14.ng.ng x115.ng)) fun x116 =>
  br x116.ng (
 bd (pu (Qly z14.ng.ng z12.ng.ng)) fun x117 =>
 bd (pu (eC σ (.toInt .i64) x117.ng)) fun x118 =>
 bd (pu (eB .eql .no x118.ng z6.ng.ng)) fun x119 =>
  br x119.ng (
 bd (pu (eI 1 z14.ng.ng z13.ng)) fun x120 =>
 bd (pu (eL σ false 1 x120.ng)) fun x121 =>
 bd (pu (eB .add .no z5.ng.ng (.int .i64 1))) fun x122 =>
 bd (pu (Qa2 [(.int .i64 0), (.int .i64 0), (.int .i64 0), (.str []), (.str []), (.bool false)] [(0, 1, x121.ng), (1, 1, z5.ng.ng), (2, 1, x122.ng)])) fun x123 =>
 bd (stV σ 6 z4.ng x123.ng x123.ng) fun p124 =>
 bd (fz n1 p124.2 fzD z0) fun y125 =>
 bd (fz n1 p124.2 fzD z4) fun y126 =>
 bd (fz n1 p124.2 fzD z5) fun y127 =>
 bd (cuO n1 p124.2) fun s128 =>
 bd (resC s128 true 6 y126) fun x129 =>
 bd (oK false x129) (nK n0 s128)) (
 bd (pu (eB .add .no z14.ng.ng (.int .i64 1))) fun x130 =>
 bd (fz n1 σ fzD z0) fun y131 =>
 bd (fz n1 σ fzD z4) fun y132 =>
 bd (fz n1 σ fzD z5) fun y133 =>
 bd (fz n1 σ fzD z6) fun y134 =>
 bd (fz n1 σ fzD z12) fun y135 =>
 bd (fz n1 σ fzD z13) fun y136 =>
 bd (fz n1 σ fzD x130.ng) fun y137 =>
 bd (cuO n1 σ) fun s138 => r1 [y131, y132, y133, y134, y135, y136, y137] s138)) (
 bd (fz n1 σ fzD z0) fun y139 =>
 bd (fz n1 σ fzD z4) fun y140 =>
 bd (fz n1 σ fzD z5) fun y141 =>
 bd (cuO n1 σ) fun s142 =>
 bd (pu (eB .add .no y141.ng.ng (.int .i64 1))) fun x143 =>
 bd (pu (eB .add .no y141.ng.ng (.int .i64 1))) fun x144 =>
 bd (pu (Qba 1 y139.ng (some y141.ng.ng) (some x144.ng) none)) fun x145 =>
 bd (M.call 130 [x145.ng] s142) fun p146 =>
 bd (pu (Qa2 [(.int .i64 0), (.int .i64 0), (.int .i64 0), (.str []), (.str []), (.bool false)] [(0, 1, (.int .i64 9)), (1, 1, y141.ng.ng), (2, 1, x143.ng), (3, 1, p146.1.ng)])) fun x147 =>
 bd (stV p146.2 6 y140.ng x147.ng x147.ng) fun p148 =>
 bd (resC p148.2 true 6 y140) fun x149 =>
 bd (oK false x149) (nK n0 p148.2))
def l_Z2c_1 (M : Mach) (n0 : Nat) (n1 : Nat) : Rk := M.fx fun rec vs σ => b_Z2c_1 M n0 n1 rec (vs.getD 0 .undef) (vs.getD 1 .undef) (vs.getD 2 .undef) (vs.getD 3 .undef) (vs.getD 4 .undef) (vs.getD 5 .undef) (vs.getD 6 .undef) σ
def j_Z2c_1 (M : Mach) (n0 : Nat) (z0 z1 z4 : V) (σ : Objs) : Ro :=
 bd (M.call 118 [z0.ng.ng, z1.ng.ng] σ) fun p1 =>
 bd (pu (Qaq z0.ng.ng)) fun x2 =>
 bd (pu (eB .geq .no p1.1.ng.ng.ng x2.ng)) fun x3 =>
  br x3.ng (
 bd (pu (Qaq z0.ng.ng)) fun x4 =>
 bd (pu (Qaq z0.ng)) fun x5 =>
 bd (pu (Qa2 [(.int .i64 0), (.int .i64 0), (.int .i64 0), (.str []), (.str []), (.bool false)] [(0, 1, (.int .i64 0)), (1, 1, x4.ng), (2, 1, x5.ng)])) fun x6 =>
 bd (stV p1.2 6 z4.ng x6.ng x6.ng) fun p7 =>
 bd (resC p7.2 true 6 z4) fun x8 =>
 bd (oK false x8) (nK n0 p7.2)) (
 bd (pu (eI 1 p1.1.ng.ng.ng z0.ng.ng)) fun x9 =>
 bd (pu (eL p1.2 false 1 x9.ng)) fun x10 =>
 bd (M.call 119 [x10.ng.ng.ng] p1.2) fun p11 =>
  br p11.1.ng (
 bd (fz p11.2.length p11.2 fzD z0) fun y26 =>
 bd (fz p11.2.length p11.2 fzD z4) fun y27 =>
 bd (fz p11.2.length p11.2 fzD p1.1.ng) fun y28 =>
 bd (fz p11.2.length p11.2 fzD p1.1.ng.ng.ng) fun y29 =>
  l_Z2c_0 M n0 p11.2.length [y26, y27, y28, y29] p11.2) (
 bd (pu (eB .eql .no x10.ng.ng.ng (.int .i64 34))) fun x30 =>
 bd (gdv x30.ng false (some x10.ng.ng)) fun x31 =>
 bd (gdv x30.ng false (pu (eB .eql .no x31.ng (.int .i64 39)))) fun x32 =>
 bd (pu (pV x30.ng.ng (.bool true) x32.ng)) fun x33 =>
  br x33.ng (
 bd (M.call 121 [z0.ng, p1.1.ng.ng.ng] p11.2) fun p34 =>
 bd (stV p34.2 6 z4.ng p34.1.ng p34.1.ng) fun p35 =>
 bd (resC p35.2 true 6 z4) fun x36 =>
 bd (oK false x36) (nK n0 p35.2)) (
 bd (M.call 122 [z0.ng.ng, p1.1.ng.ng.ng] p11.2) fun p37 =>
  br p37.1.ng (
 bd (M.call 123 [z0.ng, p1.1.ng.ng.ng] p37.2) fun p38 =>
 bd (stV p38.2 6 z4.ng p38.1.ng p38.1.ng) fun p39 =>
 bd (resC p39.2 true 6 z4) fun x40 =>
 bd (oK false x40) (nK n0 p39.2)) (
 bd (pu (eB .eql .no x10.ng.ng.ng (.int .i64 45))) fun x41 =>
 bd (gdv x41.ng true (some z0.ng)) fun x42 =>
 bd (gdv x41.ng true (some p1.1.ng.ng)) fun x43 =>
 bd (gdv x41.ng true (pu (eB .add .no x43.ng (.int .i64 1)))) fun x44 =>
 bd (gdp x41.ng true (M.call 124 [x42.ng, x44.ng, (.int .i64 45)] p37.2) p37.2) fun p45 =>
 bd (pu (pV x41.ng.ng p45.1.ng (.bool false))) fun x46 =>
 bd (gdv x46.ng true (some z0.ng)) fun x47 =>
 bd (gdv x46.ng true (some p1.1.ng.ng)) fun x48 =>
 bd (gdv x46.ng true (pu (eB .add .no x48.ng (.int .i64 2)))) fun x49 =>
 bd (gdp x46.ng true (M.call 124 [x47.ng, x49.ng, (.int .i64 62)] p45.2) p45.2) fun p50 =>
 bd (pu (pV x46.ng.ng p50.1.ng (.bool false))) fun x51 =>
  br x51.ng (
 bd (pu (eB .add .no p1.1.ng.ng.ng (.int .i64 3))) fun x52 =>
 bd (pu (Qa2 [(.int .i64 0), (.int .i64 0), (.int .i64 0), (.str []), (.str []), (.bool false)] [(0, 1, (.int .i64 15)), (1, 1, p1.1.ng.ng.ng), (2, 1, x52.ng)])) fun x53 =>
 bd (stV p50.2 6 z4.ng x53.ng x53.ng) fun p54 =>
 bd (resC p54.2 true 6 z4) fun x55 =>
 bd (oK false x55) (nK n0 p54.2)) (
 bd (M.call 125 [z0.ng.ng, p1.1.ng.ng.ng] p50.2) fun p56 =>
  br p56.1.ng (
 bd (M.call 126 [z0.ng, p1.1.ng.ng.ng] p56.2) fun p57 =>
 bd (stV p57.2 6 z4.ng p57.1.ng p57.1.ng) fun p58 =>
 bd (resC p58.2 true 6 z4) fun x59 =>
 bd (oK false x59) (nK n0 p58.2)) (
 bd (pu (eB .eql .no x10.ng.ng.ng (.int .i64 60))) fun x60 =>
 bd (gdv x60.ng true (some z0.ng)) fun x61 =>
 bd (gdv x60.ng true (some p1.1.ng.ng)) fun x62 =>
 bd (gdv x60.ng true (pu (eB .add .no x62.ng (.int .i64 1)))) fun x63 =>
 bd (gdp x60.ng true (M.call 124 [x61.ng, x63.ng, (.int .i64 33)] p56.2) p56.2) fun p64 =>
 bd (pu (pV x60.ng.ng p64.1.ng (.bool false))) fun x65 =>
 bd (gdv x65.ng true (some z0.ng)) fun x66 =>
 bd (gdv x65.ng true (some p1.1.ng.ng)) fun x67 =>
 bd (gdv x65.ng true (pu (eB .add .no x67.ng (.int .i64 2)))) fun x68 =>
 bd (gdp x65.ng true (M.call 124 [x66.ng, x68.ng, (.int .i64 45)] p64.2) p64.2) fun p69 =>
 bd (pu (pV x65.ng.ng p69.1.ng (.bool false))) fun x70 =>
 bd (gdv x70.ng true (some z0.ng)) fun x71 =>
 bd (gdv x70.ng true (some p1.1.ng.ng)) fun x72 =>
 bd (gdv x70.ng true (pu (eB .add .no x72.ng (.int .i64 3)))) fun x73 =>
 bd (gdp x70.ng true (M.call 124 [x71.ng, x73.ng, (.int .i64 45)] p69.2) p69.2) fun p74 =>
 bd (pu (pV x70.ng.ng p74.1.ng (.bool false))) fun x75 =>
  br x75.ng (
 bd (pu (eB .add .no p1.1.ng.ng.ng (.int .i64 4))) fun x76 =>
 bd (pu (Qa2 [(.int .i64 0), (.int .i64 0), (.int .i64 0), (.str []), (.str []), (.bool false)] [(0, 1, (.int .i64 14)), (1, 1, p1.1.ng.ng.ng), (2, 1, x76.ng)])) fun x77 =>
 bd (stV p74.2 6 z4.ng x77.ng x77.ng) fun p78 =>
 bd (resC p78.2 true 6 z4) fun x79 =>
 bd (oK false x79) (nK n0 p78.2)) (
 bd (pu (eB .eql .no x10.ng.ng.ng (.int .i64 64))) fun x80 =>
 bd (gdv x80.ng true (some z0.ng)) fun x81 =>
 bd (gdv x80.ng true (some p1.1.ng.ng)) fun x82 =>
 bd (gdv x80.ng true (pu (eB .add .no x82.ng (.int .i64 1)))) fun x83 =>
 bd (gdp x80.ng true (M.call 125 [x81.ng, x83.ng] p74.2) p74.2) fun p84 =>
 bd (pu (pV x80.ng.ng p84.1.ng (.bool false))) fun x85 =>
  br x85.ng (
 bd (pu (eB .add .no p1.1.ng.ng.ng (.int .i64 1))) fun x86 =>
 bd (M.call 127 [z0.ng, x86.ng] p84.2) fun p87 =>
 bd (pu (eX 0 p87.1.ng.ng)) fun x88 =>
 bd (pu (eX 1 p87.1.ng.ng)) fun x89 =>
 bd (pu (Qa2 [(.int .i64 0), (.int .i64 0), (.int .i64 0), (.str []), (.str []), (.bool false)] [(0, 1, (.int .i64 3)), (1, 1, p1.1.ng.ng.ng), (2, 1, x89.ng.ng.ng), (3, 1, x88.ng.ng.ng)])) fun x90 =>
 bd (stV p87.2 6 z4.ng x90.ng x90.ng) fun p91 =>
 bd (resC p91.2 true 6 z4) fun x92 =>
 bd (oK false x92) (nK n0 p91.2)) (
 bd (pu (eB .eql .no x10.ng.ng.ng (.int .i64 35))) fun x93 =>
 bd (gdv x93.ng true (some z0.ng)) fun x94 =>
 bd (gdv x93.ng true (some p1.1.ng.ng)) fun x95 =>
 bd (gdv x93.ng true (pu (eB .add .no x95.ng (.int .i64 1)))) fun x96 =>
 bd (gdp x93.ng true (M.call 128 [x94.ng, x96.ng] p84.2) p84.2) fun p97 =>
 bd (gdv x93.ng true (some p97.1.ng)) fun x98 =>
 bd (gdv x98 false (some z0.ng)) fun x99 =>
 bd (gdv x98 false (some p1.1.ng.ng)) fun x100 =>
 bd (gdv x98 false (pu (eB .add .no x100.ng (.int .i64 1)))) fun x101 =>
 bd (gdp x98 false (M.call 129 [x99.ng, x101.ng] p97.2) p97.2) fun p102 =>
 bd (gdv x93.ng true (pu (pV x98.ng (.bool true) p102.1.ng))) fun x103 =>
 bd (pu (pV x93.ng.ng x103.ng (.bool false))) fun x104 =>
  br x104.ng (
 bd (pu (eB .add .no p1.1.ng.ng.ng (.int .i64 1))) fun x105 =>
 bd (M.call 127 [z0.ng.ng, x105.ng] p102.2) fun p106 =>
 bd (pu (eX 0 p106.1.ng.ng)) fun x107 =>
 bd (pu (eX 1 p106.1.ng.ng)) fun x108 =>
 bd (pu (eB .add .no p1.1.ng.ng.ng (.int .i64 1))) fun x109 =>
 bd (M.call 125 [z0.ng, x109.ng] p106.2) fun p110 =>
 bd (pu (Qa2 [(.int .i64 0), (.int .i64 0), (.int .i64 0), (.str []), (.str []), (.bool false)] [(0, 1, (.int .i64 4)), (1, 1, p1.1.ng.ng.ng), (2, 1, x108.ng.ng.ng), (3, 1, x107.ng.ng.ng), (5, 1, p110.1.ng)])) fun x111 =>
 bd (stV p110.2 6 z4.ng x111.ng x111.ng) fun p112 =>
 bd (resC p112.2 true 6 z4) fun x113 =>
 bd (oK false x113) (nK n0 p112.2)) (
 bd (Qax false 1 9 (.int .i64 0) [(0, (.int .i64 21)), (1, (.int .i64 22)), (2, (.int .i64 19)), (3, (.int .i64 20)), (4, (.int .i64 23)), (5, (.int .i64 24)), (6, (.int .i64 18)), (7, (.int .i64 16)), (8, (.int .i64 17))]) fun x114 =>
 bd (fz p102.2.length p102.2 fzD z0) fun y150 =>
 bd (fz p102.2.length p102.2 fzD z4) fun y151 =>
 bd (fz p102.2.length p102.2 fzD p1.1.ng) fun y152 =>
 bd (fz p102.2.length p102.2 fzD x10.ng) fun y153 =>
 bd (fz p102.2.length p102.2 fzD (.str [40, 41, 91, 93, 123, 125, 44, 58, 59])) fun y154 =>
 bd (fz p102.2.length p102.2 fzD x114) fun y155 =>
 bd (fz p102.2.length p102.2 fzD (.int .i64 0)) fun y156 =>
  l_Z2c_1 M n0 p102.2.length [y150, y151, y152, y153, y154, y155, y156] p102.2)))))))))
def j_Z2c_0 (M : Mach) (n0 : Nat) (z0 z1 z4 : V) (σ : Objs) : Ro :=
 bd (pu (Qaq z0.ng.ng)) fun x157 =>
 bd (pu (eB .gtr .no z1.ng.ng x157.ng)) fun x158 =>
  br x158.ng (
 bd (pu (Qaq z0.ng.ng)) fun x159 =>
  j_Z2c_1 M n0 z0 x159.ng z4 σ) (
  j_Z2c_1 M n0 z0 z1 z4 σ)
def s_Z2c (M : Mach) (a0 a1 : V) (σ : Objs) : Ro :=
  let s0 : Objs := σ ++ [.cells [(.int .i64 0), (.int .i64 0), (.int .i64 0), (.str []), (.str []), (.bool false)]]
 bd (pu (eB .lss .no a1.ng.ng (.int .i64 0))) fun x160 =>
  br x160.ng (
  j_Z2c_0 M σ.length a0 (.int .i64 0) (.ptr σ.length 0) s0) (
  j_Z2c_0 M σ.length a0 a1 (.ptr σ.length 0) s0)
theorem k_Z2c (M : Mach) (a0 a1 : V) (σ : Objs) : fnK M c_Z2c [a0, a1] σ = s_Z2c M a0 a1 σ := by kernel_rfl
def c_Za : Ev.Fn := ⟨13, [.tmp 4], false, false, (Yq 0 [Yv 4 (Yi 0)] (.seq (.block 0 (.loop [0, 1] [1, 4] (.seq (Yq 1 [Yv 5 0, Yv 6 1, Yc 7 92 [5, 6], Yg 8 false 0 1 7, Yo 9 .eql .no 8 (Yi 13)] (.cond 9 .skip (.exit 0))) (.block 1 (.ops 2 [Yv 10 1, Yo 11 .add .no 10 (Yi 1), Yv 1 11]))))) (Yq 3 [Yv 12 1, Yv 4 12] .ret)))⟩
theorem ok_c_Za : Qam Tryz.prog 91 c_Za = true := Qad Tryz.func91 (by kernel_rfl)
def c_Ze : Ev.Fn := ⟨88, [.cell 8 true 1, .tmp 9], false, false, (Yq 0 [Yk 8 (.alloc [.nils]), Yv 9 (Yi 0)] (Yq 1 [Yk 17 (.build [.nils] []), Yk 10 (.alloc [.nils]), Yw 1 10 17 false, Yv 11 (Yi 0)] (.seq (.block 0 (.loop [0, 1, 2, 3, 8, 10, 11] [1, 8, 9, 10] (.seq (Yq 2 [Yv 18 0, Yk 19 (.nilc 18), Ya 20 5 19, Yl 21 false 1 20, Yo 22 .eql .no 21 (Yi 0)] (.cond 22 .skip (.exit 0))) (.block 1 (Yq 3 [Yv 24 0, Yv 25 1, Yv 26 2, Yv 27 3, Yc 28 116 [24, 25, 26, 27], Yv 23 28, Yx 29 23 0, Yx 30 23 1, Yx 31 23 2, Yv 12 29, Yv 13 30, Yv 14 31] (Yq 4 [Ya 32 0 10, Yk 33 (.loadT 32), Yv 34 11, Yv 35 12, Yk 36 (.build [Y0, .nils] [(0, 1, 34), (1, 1, 35)]), Yk 37 (.buildSl true 2 1 (.agg [Y0, .nils]) [(0, 36)] false), Yk 38 (.app false true 2 32 33 37 true), Ya 39 0 10, Yw 1 39 38 true] (Yq 5 [Yv 40 0, Yv 41 13, Yc 42 91 [40, 41], Yv 15 42] (Yq 6 [Yv 43 0, Yv 44 15, Yc 45 92 [43, 44], Yg 46 false 0 1 45, Yv 16 46] (.seq (Yq 7 [Yv 47 0, Yk 48 (.nilc 47), Ya 49 5 48, Yl 50 false 1 49, Yo 51 .neq .no 50 (Yi 0), Yv 52 51, ⟨some 53, (some (52, false)), .mv 16 false⟩, ⟨some 54, (some (52, false)), .mv 2 false⟩, ⟨some 55, (some (52, false)), .bin .eql .no 53 54⟩, Yk 56 (.pick 52 Yt 55), Yv 57 56, ⟨some 58, (some (57, false)), .mv 16 false⟩, ⟨some 59, (some (57, false)), .bin .eql .no 58 (Yi 18)⟩, Yk 60 (.pick 57 Yt 59)] (.cond 60 (Yq 8 [Yl 61 true 1 10, Yv 62 15, Yw 1 8 61 false, Yv 9 62] .ret) .skip)) (Yq 9 [Yv 63 0, Yv 64 15, Yc 65 117 [63, 64], Yv 11 65] (Yq 10 [Yv 66 14, Yv 67 66, ⟨some 68, (some (67, false)), .mv 11 false⟩, ⟨some 69, (some (67, false)), .bin .eql .no 68 (Yi 0)⟩, ⟨some 70, (some (67, false)), .mv 69 false⟩, ⟨some 71, (some (70, true)), .mv 15 false⟩, ⟨some 72, (some (70, true)), .mv 13 false⟩, ⟨some 73, (some (70, true)), .bin .eql .no 71 72⟩, ⟨some 74, (some (67, false)), .pick 70 73 Yf⟩, Yk 75 (.pick 67 Yt 74)] (.cond 75 (.ops 11 [Yv 76 0, Yv 77 15, Yc 78 93 [76, (Yi 10), 77]]) (Yq 12 [Yv 79 11, Yo 80 .eql .no 79 (Yi 0)] (.cond 80 (Yq 13 [Yv 11 (Yi 1)] (.ops 14 [Yv 81 15, Yv 1 81])) (.ops 15 [Yv 82 0, Yv 83 15, Yo 84 .add .no 83 (Yi 1), Yc 85 91 [82, 84], Yv 1 85]))))))))))))))) (Yq 16 [Yl 86 true 1 10, Yv 87 1, Yw 1 8 86 false, Yv 9 87] .ret))))⟩
theorem ok_c_Ze : Qam Tryz.prog 90 c_Ze = true := Qad Tryz.func90 (by kernel_rfl)
def c_Zn : Ev.Fn := ⟨45, [.cell 4 true 6], false, false, (Yq 0 [Yk 4 (.alloc [Y0, Y0, Y0, Yn, Yn, Yb])] (.seq (Yq 1 [Yv 6 1, Yv 7 0, Yk 8 (.nilc 7), Ya 9 0 8, Yl 10 false 1 9, Yh 11 10, Yo 12 .lss .no 6 11] (.cond 12 (Yq 2 [Yv 13 0, Yk 14 (.nilc 13), Ya 15 0 14, Yl 16 false 1 15, Yv 17 1, Ye 18 6 16 17, Yl 19 true 6 18, Yw 6 4 19 false] .ret) .skip)) (Yq 3 [Yk 20 (.build [Y0, Y0, Y0, Yn, Yn, Yb] []), Yk 5 (.alloc [Y0, Y0, Y0, Yn, Yn, Yb]), Yw 6 5 20 false] (.seq (Yq 4 [Yv 21 0, Yk 22 (.nilc 21), Ya 23 0 22, Yl 24 false 1 23, Yh 25 24, Yo 26 .gtr .no 25 (Yi 0)] (.cond 26 (.drw 5 [⟨Yv 27 0, 0, []⟩, ⟨Yk 28 (.nilc 27), 1, []⟩, ⟨Ya 29 0 28, 2, []⟩, ⟨Yl 30 false 1 29, 3, []⟩, ⟨Yv 31 0, 4, []⟩, ⟨Yk 32 (.nilc 31), 5, []⟩, ⟨Ya 33 0 32, 6, []⟩, ⟨Yl 34 false 1 33, 7, []⟩, ⟨Yh 35 34, 8, []⟩, ⟨Yo 36 .sub .no 35 (Yi 1), 9, []⟩, ⟨Ye 37 6 30 36, 10, []⟩, ⟨Ya 38 2 37, 11, []⟩, ⟨Yl 39 false 1 38, 12, []⟩, ⟨Ya 40 1 5, 13, []⟩, ⟨Yw 1 40 39 false, 14, []⟩]) .skip)) (Yq 6 [Ya 41 1 5, Yl 42 false 1 41, Ya 43 2 5, Yw 1 43 42 false] (Yq 7 [Yl 44 true 6 5, Yw 6 4 44 false] .ret))))))⟩
theorem ok_c_Zn : Qam Tryz.prog 92 c_Zn = true := Qad Tryz.func92 (by kernel_rfl)
def j_Zn_0 (M : Mach) (n0 : Nat) (z4 z5 : V) (σ : Objs) : Ro :=
 bd (pu (eF 1 z5.ng)) fun x16 =>
 bd (pu (eL σ false 1 x16.ng)) fun x17 =>
 bd (pu (eF 2 z5.ng)) fun x18 =>
 bd (stV σ 1 x18.ng x17.ng x17.ng) fun p19 =>
 bd (pu (eL p19.2 true 6 z5.ng)) fun x20 =>
 bd (stV p19.2 6 z4.ng x20.ng x20.ng) fun p21 =>
 bd (resC p21.2 true 6 z4) fun x22 =>
 bd (oK false x22) (nK n0 p21.2)
def s_Zn (M : Mach) (a0 a1 : V) (σ : Objs) : Ro :=
  let s0 : Objs := σ ++ [.cells [(.int .i64 0), (.int .i64 0), (.int .i64 0), (.str []), (.str []), (.bool false)]]
 bd (pu (Qa8 a0.ng.ng)) fun x1 =>
 bd (pu (eF 0 x1.ng)) fun x2 =>
 bd (pu (eL s0 false 1 x2.ng)) fun x3 =>
 bd (pu (Qaq x3.ng)) fun x4 =>
 bd (pu (eB .lss .no a1.ng.ng x4.ng)) fun x5 =>
  br x5.ng (
 bd (pu (Qa8 a0.ng.ng)) fun x6 =>
 bd (pu (eF 0 x6.ng)) fun x7 =>
 bd (pu (eL s0 false 1 x7.ng)) fun x8 =>
 bd (pu (eI 6 a1.ng.ng x8.ng)) fun x9 =>
 bd (pu (eL s0 true 6 x9.ng)) fun x10 =>
 bd (stV s0 6 (.ptr σ.length 0) x10.ng x10.ng) fun p11 =>
 bd (resC p11.2 true 6 (.ptr σ.length 0)) fun x12 =>
 bd (oK false x12) (nK σ.length p11.2)) (
 bd (pu (Qa2 [(.int .i64 0), (.int .i64 0), (.int .i64 0), (.str []), (.str []), (.bool false)] [])) fun x13 =>
  let s14 : Objs := s0 ++ [.cells [(.int .i64 0), (.int .i64 0), (.int .i64 0), (.str []), (.str []), (.bool false)]]
 bd (stV s14 6 (.ptr s0.length 0) x13.ng x13.ng) fun p15 =>
 bd (pu (Qa8 a0.ng.ng)) fun x23 =>
 bd (pu (eF 0 x23.ng)) fun x24 =>
 bd (pu (eL p15.2 false 1 x24.ng)) fun x25 =>
 bd (pu (Qaq x25.ng)) fun x26 =>
 bd (pu (eB .gtr .no x26.ng (.int .i64 0))) fun x27 =>
  br x27.ng (
 bd (pu (Qa8 a0.ng.ng)) fun x28 =>
 bd (pu (eF 0 x28.ng)) fun x29 =>
 bd (pu (eL p15.2 false 1 x29.ng)) fun x30 =>
 bd (pu (Qa8 a0.ng.ng)) fun x31 =>
 bd (pu (eF 0 x31.ng)) fun x32 =>
 bd (pu (eL p15.2 false 1 x32.ng)) fun x33 =>
 bd (pu (Qaq x33.ng)) fun x34 =>
 bd (pu (eB .sub .no x34.ng (.int .i64 1))) fun x35 =>
 bd (pu (eI 6 x35.ng x30.ng)) fun x36 =>
 bd (pu (eF 2 x36.ng)) fun x37 =>
 bd (pu (eL p15.2 false 1 x37.ng)) fun x38 =>
 bd (pu (eF 1 (.ptr s0.length 0))) fun x39 =>
 bd (stV p15.2 1 x39.ng x38.ng x38.ng) fun p40 =>
  j_Zn_0 M σ.length (.ptr σ.length 0) (.ptr s0.length 0) p40.2) (
  j_Zn_0 M σ.length (.ptr σ.length 0) (.ptr s0.length 0) p15.2))
theorem k_Zn (M : Mach) (a0 a1 : V) (σ : Objs) : fnK M c_Zn [a0, a1] σ = s_Zn M a0 a1 σ := by kernel_rfl
end Go.Proofs.YtapnplljnpconaaGreatDoor
set_option maxRecDepth 100000
namespace Go.Proofs.YtapnplljnpconaaGreatDoor
open Go.Ev
def c_Z1k : Ev.Fn := ⟨188, [.tmp 2], false, false, (Yq 0 [Yv 2 Yf] (Yq 1 [Yv 7 0, Yv 8 0, Yh 9 8, Yu 10 0, Yh 11 10, Yk 12 (.cut 1 7 none (some 9) (some 11)), Yv 0 12] (.seq (.block 0 (.loop [0] [2] (.seq (Yq 2 [Yv 13 0, Yh 14 13, Yo 15 .gtr .no 14 (Yi 0)] (.cond 15 .skip (.exit 0))) (.block 1 (Yq 3 [Yv 16 0, Ye 17 1 16 (Yi 0), Yl 18 false 1 17, Yv 3 18] (.seq (Yq 4 [Yv 19 3, Yo 20 .lss .no 19 (.c (.int .u8 128))] (.cond 20 (Yq 5 [Yu 21 0, Yk 22 (.cut 1 21 (some (Yi 1)) none none), Yv 0 22] (.seq (Yq 6 [Yv 23 0, Yh 24 23, Yo 25 .gtr .no 24 (Yi 8), Yv 26 25, ⟨some 27, (some (26, true)), .mv 0 false⟩, ⟨some 28, (some (26, true)), .call 131 [27]⟩, ⟨some 29, (some (26, true)), .bin .and .no 28 (.c (.int .u64 9259542123273814144))⟩, ⟨some 30, (some (26, true)), .bin .eql .no 29 (.c (.int .u64 0))⟩, Yk 31 (.pick 26 30 Yf)] (.cond 31 (Yq 7 [Yu 32 0, Yk 33 (.cut 1 32 (some (Yi 8)) none none), Yv 0 33] (.seq (.drw 8 [⟨Yv 34 0, 0, []⟩, ⟨Yh 35 34, 1, []⟩, ⟨Yo 36 .gtr .no 35 (Yi 16), 2, []⟩, ⟨Yv 37 36, 3, []⟩, ⟨⟨some 38, (some (37, true)), .mv 0 false⟩, 4, []⟩, ⟨⟨some 40, (some (37, true)), .mv 0 false⟩, 6, []⟩, ⟨⟨some 41, (some (37, true)), .cut 1 40 (some (Yi 8)) none none⟩, 7, []⟩, ⟨⟨some 39, (some (37, true)), .call 131 [38]⟩, 5, []⟩, ⟨⟨some 42, (some (37, true)), .call 131 [41]⟩, 8, []⟩, ⟨⟨some 43, (some (37, true)), .bin .or .no 39 42⟩, 9, []⟩, ⟨⟨some 44, (some (37, true)), .bin .and .no 43 (.c (.int .u64 9259542123273814144))⟩, 10, []⟩, ⟨⟨some 45, (some (37, true)), .bin .eql .no 44 (.c (.int .u64 0))⟩, 11, []⟩, ⟨Yk 46 (.pick 37 45 Yf), 12, []⟩]) (.cond 46 (Yq 9 [Yu 47 0, Yk 48 (.cut 1 47 (some (Yi 16)) none none), Yv 0 48] (.block 2 (.loop [0] [0, 2] (.seq (.seq (.drw 10 [⟨Yv 49 0, 0, []⟩, ⟨Yh 50 49, 1, []⟩, ⟨Yo 51 .gtr .no 50 (Yi 32), 2, []⟩, ⟨Yv 52 51, 3, []⟩, ⟨⟨some 53, (some (52, true)), .mv 0 false⟩, 4, []⟩, ⟨⟨some 55, (some (52, true)), .mv 0 false⟩, 6, []⟩, ⟨⟨some 56, (some (52, true)), .cut 1 55 (some (Yi 8)) none none⟩, 7, []⟩, ⟨⟨some 59, (some (52, true)), .mv 0 false⟩, 10, []⟩, ⟨⟨some 60, (some (52, true)), .cut 1 59 (some (Yi 16)) none none⟩, 11, []⟩, ⟨⟨some 62, (some (52, true)), .mv 0 false⟩, 13, []⟩, ⟨⟨some 63, (some (52, true)), .cut 1 62 (some (Yi 24)) none none⟩, 14, []⟩, ⟨⟨some 54, (some (52, true)), .call 131 [53]⟩, 5, []⟩, ⟨⟨some 57, (some (52, true)), .call 131 [56]⟩, 8, []⟩, ⟨⟨some 58, (some (52, true)), .bin .or .no 54 57⟩, 9, []⟩, ⟨⟨some 61, (some (52, true)), .call 131 [60]⟩, 12, []⟩, ⟨⟨some 64, (some (52, true)), .call 131 [63]⟩, 15, []⟩, ⟨⟨some 65, (some (52, true)), .bin .or .no 61 64⟩, 16, []⟩, ⟨⟨some 66, (some (52, true)), .bin .or .no 58 65⟩, 17, []⟩, ⟨⟨some 67, (some (52, true)), .bin .and .no 66 (.c (.int .u64 9259542123273814144))⟩, 18, []⟩, ⟨⟨some 68, (some (52, true)), .bin .eql .no 67 (.c (.int .u64 0))⟩, 19, []⟩, ⟨Yk 69 (.pick 52 68 Yf), 20, []⟩]) (.cond 69 .skip (.exit 2))) (.block 3 (.ops 11 [Yu 70 0, Yk 71 (.cut 1 70 (some (Yi 32)) none none), Yv 0 71])))))) .skip))) .skip)) (.exit 1))) .skip)) (Yq 12 [Yv 72 3, Yk 73 (.iaddrA 256 1 (.g 1) 72), Yl 74 false 1 73, Yv 4 74] (Yq 13 [Yv 75 4, Yo 76 .and .no 75 (.c (.int .u8 7)), Yk 77 (.conv (.toInt .i64) 76), Yv 5 77] (Yq 14 [Yv 78 4, Yo 79 .shr .no 78 (.c (.int .u64 4)), Yk 80 (.iaddrA 16 2 (.g 2) 79), Yl 81 true 2 80, Yk 6 (.alloc [(.int .u8 0), (.int .u8 0)]), Yw 2 6 81 false] (Yq 15 [Yv 82 5] (.block 4 (Yq 17 [Yo 84 .eql .no 82 (Yi 2), Yv 83 84] (.cond 83 (.seq (.seq (.drw 18 [⟨Yv 85 0, 0, []⟩, ⟨Yh 86 85, 1, []⟩, ⟨Yo 87 .lss .no 86 (Yi 2), 2, []⟩, ⟨Yv 88 87, 3, []⟩, ⟨⟨some 89, (some (88, false)), .mv 0 false⟩, 4, []⟩, ⟨⟨some 90, (some (88, false)), .iaddr 1 89 (Yi 1)⟩, 5, []⟩, ⟨⟨some 91, (some (88, false)), .load false 1 90⟩, 6, []⟩, ⟨⟨some 92, (some (88, false)), .faddr 0 6⟩, 7, []⟩, ⟨⟨some 93, (some (88, false)), .load false 1 92⟩, 8, []⟩, ⟨⟨some 94, (some (88, false)), .bin .lss .no 91 93⟩, 9, []⟩, ⟨Yk 95 (.pick 88 Yt 94), 10, []⟩, ⟨Yv 96 95, 11, []⟩, ⟨⟨some 97, (some (96, false)), .faddr 1 6⟩, 12, []⟩, ⟨⟨some 98, (some (96, false)), .load false 1 97⟩, 13, []⟩, ⟨⟨some 99, (some (96, false)), .mv 0 false⟩, 14, []⟩, ⟨⟨some 100, (some (96, false)), .iaddr 1 99 (Yi 1)⟩, 15, []⟩, ⟨⟨some 101, (some (96, false)), .load false 1 100⟩, 16, []⟩, ⟨⟨some 102, (some (96, false)), .bin .lss .no 98 101⟩, 17, []⟩, ⟨Yk 103 (.pick 96 Yt 102), 18, []⟩]) (.cond 103 (Yq 19 [Yv 2 Yf] .ret) .skip)) (.ops 20 [Yu 104 0, Yk 105 (.cut 1 104 (some (Yi 2)) none none), Yv 0 105])) (Yq 21 [Yo 107 .eql .no 82 (Yi 3), Yv 106 107] (.cond 106 (.seq (.seq (.drw 22 [⟨Yv 108 0, 0, []⟩, ⟨Yh 109 108, 1, []⟩, ⟨Yo 110 .lss .no 109 (Yi 3), 2, []⟩, ⟨Yv 111 110, 3, []⟩, ⟨⟨some 112, (some (111, false)), .mv 0 false⟩, 4, []⟩, ⟨⟨some 113, (some (111, false)), .iaddr 1 112 (Yi 1)⟩, 5, []⟩, ⟨⟨some 114, (some (111, false)), .load false 1 113⟩, 6, []⟩, ⟨⟨some 115, (some (111, false)), .faddr 0 6⟩, 7, []⟩, ⟨⟨some 116, (some (111, false)), .load false 1 115⟩, 8, []⟩, ⟨⟨some 117, (some (111, false)), .bin .lss .no 114 116⟩, 9, []⟩, ⟨Yk 118 (.pick 111 Yt 117), 10, []⟩, ⟨Yv 119 118, 11, []⟩, ⟨⟨some 120, (some (119, false)), .faddr 1 6⟩, 12, []⟩, ⟨⟨some 121, (some (119, false)), .load false 1 120⟩, 13, []⟩, ⟨⟨some 122, (some (119, false)), .mv 0 false⟩, 14, []⟩, ⟨⟨some 123, (some (119, false)), .iaddr 1 122 (Yi 1)⟩, 15, []⟩, ⟨⟨some 124, (some (119, false)), .load false 1 123⟩, 16, []⟩, ⟨⟨some 125, (some (119, false)), .bin .lss .no 121 124⟩, 17, []⟩, ⟨Yk 126 (.pick 119 Yt 125), 18, []⟩, ⟨Yv 127 126, 19, []⟩, ⟨⟨some 128, (some (127, false)), .mv 0 false⟩, 20, []⟩, ⟨⟨some 129, (some (127, false)), .iaddr 1 128 (Yi 2)⟩, 21, []⟩, ⟨⟨some 130, (some (127, false)), .load false 1 129⟩, 22, []⟩, ⟨⟨some 131, (some (127, false)), .bin .lss .no 130 (.c (.int .u8 128))⟩, 23, []⟩, ⟨Yk 132 (.pick 127 Yt 131), 24, []⟩, ⟨Yv 133 132, 25, []⟩, ⟨⟨some 134, (some (133, false)), .mv 0 false⟩, 26, []⟩, ⟨⟨some 135, (some (133, false)), .iaddr 1 134 (Yi 2)⟩, 27, []⟩, ⟨⟨some 136, (some (133, false)), .load false 1 135⟩, 28, []⟩, ⟨⟨some 137, (some (133, false)), .bin .lss .no (.c (.int .u8 191)) 136⟩, 29, []⟩, ⟨Yk 138 (.pick 133 Yt 137), 30, []⟩]) (.cond 138 (Yq 23 [Yv 2 Yf] .ret) .skip)) (.ops 24 [Yu 139 0, Yk 140 (.cut 1 139 (some (Yi 3)) none none), Yv 0 140])) (Yq 25 [Yo 142 .eql .no 82 (Yi 4), Yv 141 142] (.cond 141 (.seq (.seq (.drw 26 [⟨Yv 143 0, 0, []⟩, ⟨Yh 144 143, 1, []⟩, ⟨Yo 145 .lss .no 144 (Yi 4), 2, []⟩, ⟨Yv 146 145, 3, []⟩, ⟨⟨some 147, (some (146, false)), .mv 0 false⟩, 4, []⟩, ⟨⟨some 148, (some (146, false)), .iaddr 1 147 (Yi 1)⟩, 5, []⟩, ⟨⟨some 149, (some (146, false)), .load false 1 148⟩, 6, []⟩, ⟨⟨some 150, (some (146, false)), .faddr 0 6⟩, 7, []⟩, ⟨⟨some 151, (some (146, false)), .load false 1 150⟩, 8, []⟩, ⟨⟨some 152, (some (146, false)), .bin .lss .no 149 151⟩, 9, []⟩, ⟨Yk 153 (.pick 146 Yt 152), 10, []⟩, ⟨Yv 154 153, 11, []⟩, ⟨⟨some 155, (some (154, false)), .faddr 1 6⟩, 12, []⟩, ⟨⟨some 156, (some (154, false)), .load false 1 155⟩, 13, []⟩, ⟨⟨some 157, (some (154, false)), .mv 0 false⟩, 14, []⟩, ⟨⟨some 158, (some (154, false)), .iaddr 1 157 (Yi 1)⟩, 15, []⟩, ⟨⟨some 159, (some (154, false)), .load false 1 158⟩, 16, []⟩, ⟨⟨some 160, (some (154, false)), .bin .lss .no 156 159⟩, 17, []⟩, ⟨Yk 161 (.pick 154 Yt 160), 18, []⟩, ⟨Yv 162 161, 19, []⟩, ⟨⟨some 163, (some (162, false)), .mv 0 false⟩, 20, []⟩, ⟨⟨some 164, (some (162, false)), .iaddr 1 163 (Yi 2)⟩, 21, []⟩, ⟨⟨some 165, (some (162, false)), .load false 1 164⟩, 22, []⟩, ⟨⟨some 166, (some (162, false)), .bin .lss .no 165 (.c (.int .u8 128))⟩, 23, []⟩, ⟨Yk 167 (.pick 162 Yt 166), 24, []⟩, ⟨Yv 168 167, 25, []⟩, ⟨⟨some 169, (some (168, false)), .mv 0 false⟩, 26, []⟩, ⟨⟨some 170, (some (168, false)), .iaddr 1 169 (Yi 2)⟩, 27, []⟩, ⟨⟨some 171, (some (168, false)), .load false 1 170⟩, 28, []⟩, ⟨⟨some 172, (some (168, false)), .bin .lss .no (.c (.int .u8 191)) 171⟩, 29, []⟩, ⟨Yk 173 (.pick 168 Yt 172), 30, []⟩, ⟨Yv 174 173, 31, []⟩, ⟨⟨some 175, (some (174, false)), .mv 0 false⟩, 32, []⟩, ⟨⟨some 176, (some (174, false)), .iaddr 1 175 (Yi 3)⟩, 33, []⟩, ⟨⟨some 177, (some (174, false)), .load false 1 176⟩, 34, []⟩, ⟨⟨some 178, (some (174, false)), .bin .lss .no 177 (.c (.int .u8 128))⟩, 35, []⟩, ⟨Yk 179 (.pick 174 Yt 178), 36, []⟩, ⟨Yv 180 179, 37, []⟩, ⟨⟨some 181, (some (180, false)), .mv 0 false⟩, 38, []⟩, ⟨⟨some 182, (some (180, false)), .iaddr 1 181 (Yi 3)⟩, 39, []⟩, ⟨⟨some 183, (some (180, false)), .load false 1 182⟩, 40, []⟩, ⟨⟨some 184, (some (180, false)), .bin .lss .no (.c (.int .u8 191)) 183⟩, 41, []⟩, ⟨Yk 185 (.pick 180 Yt 184), 42, []⟩]) (.cond 185 (Yq 27 [Yv 2 Yf] .ret) .skip)) (.ops 28 [Yu 186 0, Yk 187 (.cut 1 186 (some (Yi 4)) none none), Yv 0 187])) (Yq 16 [Yv 2 Yf] .ret)))))))))))))))))) (Yq 29 [Yv 2 Yt] .ret))))⟩
theorem ok_c_Z1k : Qam Tryz.prog 96 c_Z1k = true := Qad Tryz.func96 (by kernel_rfl)
def j_Z1k_0 (M : Mach) (n0 : Nat) (n1 : Nat) (r1 : Rk) (z0 : V) (σ : Objs) : Ro :=
 bd (fz n1 σ fzD z0) fun y3 =>
 bd (cuO n1 σ) fun s4 => r1 [y3] s4
def j_Z1k_1 (M : Mach) (n0 : Nat) (n1 : Nat) (r1 : Rk) (z2 : V) (σ : Objs) : Ro :=
 bd (fz n1 σ fzD z2) fun y5 =>
 bd (cuO n1 σ) fun s6 =>
 bd (oK false y5) (nK n0 s6)
def j_Z1k_2 (M : Mach) (n0 : Nat) (n1 : Nat) (r1 : Rk) (z0 : V) (σ : Objs) : Ro :=
  j_Z1k_0 M n0 n1 r1 z0 σ
def b_Z1k_1 (M : Mach) (n0 : Nat) (n1 : Nat) (r1 : Rk) (n2 : Nat) (r2 : Rk) (z0 : V) (σ : Objs) : Ro :=
 bd (pu (Qaq z0.ng.ng)) fun x33 =>
 bd (pu (eB .gtr .no x33.ng (.int .i64 32))) fun x34 =>
 bd (gdv x34.ng true (some z0.ng)) fun x35 =>
 bd (gdv x34.ng true (some z0.ng)) fun x36 =>
 bd (gdv x34.ng true (pu (Qba 1 x36.ng (some (.int .i64 8)) none none))) fun x37 =>
 bd (gdv x34.ng true (some z0.ng)) fun x38 =>
 bd (gdv x34.ng true (pu (Qba 1 x38.ng (some (.int .i64 16)) none none))) fun x39 =>
 bd (gdv x34.ng true (some z0.ng)) fun x40 =>
 bd (gdv x34.ng true (pu (Qba 1 x40.ng (some (.int .i64 24)) none none))) fun x41 =>
 bd (gdp x34.ng true (M.call 131 [x35.ng] σ) σ) fun p42 =>
 bd (gdp x34.ng true (M.call 131 [x37.ng] p42.2) p42.2) fun p43 =>
 bd (gdv x34.ng true (pu (eB .or .no p42.1.ng p43.1.ng))) fun x44 =>
 bd (gdp x34.ng true (M.call 131 [x39.ng] p43.2) p43.2) fun p45 =>
 bd (gdp x34.ng true (M.call 131 [x41.ng] p45.2) p45.2) fun p46 =>
 bd (gdv x34.ng true (pu (eB .or .no p45.1.ng p46.1.ng))) fun x47 =>
 bd (gdv x34.ng true (pu (eB .or .no x44.ng x47.ng))) fun x48 =>
 bd (gdv x34.ng true (pu (eB .and .no x48.ng (.int .u64 9259542123273814144)))) fun x49 =>
 bd (gdv x34.ng true (pu (eB .eql .no x49.ng (.int .u64 0)))) fun x50 =>
 bd (pu (pV x34.ng.ng x50.ng (.bool false))) fun x51 =>
  br x51.ng (
 bd (pu (Qba 1 z0.ng (some (.int .i64 32)) none none)) fun x52 =>
 bd (fz n2 p46.2 fzD x52.ng) fun y53 =>
 bd (cuO n2 p46.2) fun s54 => r2 [y53] s54) (
 bd (fz n2 p46.2 fzD z0) fun y55 =>
 bd (fz n2 p46.2 fzD .any) fun y56 =>
 bd (cuO n2 p46.2) fun s57 =>
  j_Z1k_2 M n0 n1 r1 y55 s57)
def l_Z1k_1 (M : Mach) (n0 : Nat) (n1 : Nat) (r1 : Rk) (n2 : Nat) : Rk := M.fx fun rec vs σ => b_Z1k_1 M n0 n1 r1 n2 rec (vs.getD 0 .undef) σ
def b_Z1k_0 (M : Mach) (n0 : Nat) (n1 : Nat) (r1 : Rk) (z0 : V) (σ : Objs) : Ro :=
 bd (pu (Qaq z0.ng.ng)) fun x7 =>
 bd (pu (eB .gtr .no x7.ng (.int .i64 0))) fun x8 =>
  br x8.ng (
 bd (pu (eI 1 (.int .i64 0) z0.ng.ng)) fun x9 =>
 bd (pu (eL σ false 1 x9.ng)) fun x10 =>
 bd (pu (eB .lss .no x10.ng.ng.ng (.int .u8 128))) fun x11 =>
  br x11.ng (
 bd (pu (Qba 1 z0.ng (some (.int .i64 1)) none none)) fun x12 =>
 bd (pu (Qaq x12.ng.ng.ng)) fun x13 =>
 bd (pu (eB .gtr .no x13.ng (.int .i64 8))) fun x14 =>
 bd (gdv x14.ng true (some x12.ng.ng)) fun x15 =>
 bd (gdp x14.ng true (M.call 131 [x15.ng] σ) σ) fun p16 =>
 bd (gdv x14.ng true (pu (eB .and .no p16.1.ng (.int .u64 9259542123273814144)))) fun x17 =>
 bd (gdv x14.ng true (pu (eB .eql .no x17.ng (.int .u64 0)))) fun x18 =>
 bd (pu (pV x14.ng.ng x18.ng (.bool false))) fun x19 =>
  br x19.ng (
 bd (pu (Qba 1 x12.ng.ng (some (.int .i64 8)) none none)) fun x20 =>
 bd (pu (Qaq x20.ng.ng.ng)) fun x21 =>
 bd (pu (eB .gtr .no x21.ng (.int .i64 16))) fun x22 =>
 bd (gdv x22.ng true (some x20.ng.ng)) fun x23 =>
 bd (gdv x22.ng true (some x20.ng.ng)) fun x24 =>
 bd (gdv x22.ng true (pu (Qba 1 x24.ng (some (.int .i64 8)) none none))) fun x25 =>
 bd (gdp x22.ng true (M.call 131 [x23.ng] p16.2) p16.2) fun p26 =>
 bd (gdp x22.ng true (M.call 131 [x25.ng] p26.2) p26.2) fun p27 =>
 bd (gdv x22.ng true (pu (eB .or .no p26.1.ng p27.1.ng))) fun x28 =>
 bd (gdv x22.ng true (pu (eB .and .no x28.ng (.int .u64 9259542123273814144)))) fun x29 =>
 bd (gdv x22.ng true (pu (eB .eql .no x29.ng (.int .u64 0)))) fun x30 =>
 bd (pu (pV x22.ng.ng x30.ng (.bool false))) fun x31 =>
  br x31.ng (
 bd (pu (Qba 1 x20.ng.ng (some (.int .i64 16)) none none)) fun x32 =>
 bd (fz p27.2.length p27.2 fzD x32.ng) fun y58 =>
  l_Z1k_1 M n0 n1 r1 p27.2.length [y58] p27.2) (
  j_Z1k_2 M n0 n1 r1 x20.ng p27.2)) (
  j_Z1k_2 M n0 n1 r1 x12.ng p16.2)) (
 bd (pu (Qcq 256 1 x10.ng.ng.ng (M.G.g 1).ng)) fun x59 =>
 bd (pu (eL σ false 1 x59.ng)) fun x60 =>
 bd (pu (eB .and .no x60.ng.ng.ng (.int .u8 7))) fun x61 =>
 bd (pu (eC σ (.toInt .i64) x61.ng)) fun x62 =>
 bd (pu (eB .shr .no x60.ng.ng.ng (.int .u64 4))) fun x63 =>
 bd (pu (Qcq 16 2 x63.ng (M.G.g 2).ng)) fun x64 =>
 bd (pu (eL σ true 2 x64.ng)) fun x65 =>
  let s66 : Objs := σ ++ [.cells [(.int .u8 0), (.int .u8 0)]]
 bd (stV s66 2 (.ptr σ.length 0) x65.ng x65.ng) fun p67 =>
 bd (pu (eB .eql .no x62.ng.ng.ng (.int .i64 2))) fun x68 =>
  br x68.ng.ng (
 bd (pu (Qaq z0.ng.ng)) fun x69 =>
 bd (pu (eB .lss .no x69.ng (.int .i64 2))) fun x70 =>
 bd (gdv x70.ng false (some z0.ng)) fun x71 =>
 bd (gdv x70.ng false (pu (eI 1 (.int .i64 1) x71.ng))) fun x72 =>
 bd (gdv x70.ng false (pu (eL p67.2 false 1 x72.ng))) fun x73 =>
 bd (gdv x70.ng false (pu (eF 0 (.ptr σ.length 0)))) fun x74 =>
 bd (gdv x70.ng false (pu (eL p67.2 false 1 x74.ng))) fun x75 =>
 bd (gdv x70.ng false (pu (eB .lss .no x73.ng x75.ng))) fun x76 =>
 bd (pu (pV x70.ng.ng (.bool true) x76.ng)) fun x77 =>
 bd (gdv x77.ng false (pu (eF 1 (.ptr σ.length 0)))) fun x78 =>
 bd (gdv x77.ng false (pu (eL p67.2 false 1 x78.ng))) fun x79 =>
 bd (gdv x77.ng false (some z0.ng)) fun x80 =>
 bd (gdv x77.ng false (pu (eI 1 (.int .i64 1) x80.ng))) fun x81 =>
 bd (gdv x77.ng false (pu (eL p67.2 false 1 x81.ng))) fun x82 =>
 bd (gdv x77.ng false (pu (eB .lss .no x79.ng x82.ng))) fun x83 =>
 bd (pu (pV x77.ng.ng (.bool true) x83.ng)) fun x84 =>
  br x84.ng (
  j_Z1k_1 M n0 n1 r1 (.bool false) p67.2) (
 bd (pu (Qba 1 z0.ng (some (.int .i64 2)) none none)) fun x85 =>
  j_Z1k_0 M n0 n1 r1 x85.ng p67.2)) (
 bd (pu (eB .eql .no x62.ng.ng.ng (.int .i64 3))) fun x86 =>
  br x86.ng.ng (
 bd (pu (Qaq z0.ng.ng)) fun x87 =>
 bd (pu (eB .lss .no x87.ng (.int .i64 3))) fun x88 =>
 bd (gdv x88.ng false (some z0.ng)) fun x89 =>
 bd (gdv x88.ng false (pu (eI 1 (.int .i64 1) x89.ng))) fun x90 =>
 bd (gdv x88.ng false (pu (eL p67.2 false 1 x90.ng))) fun x91 =>
 bd (gdv x88.ng false (pu (eF 0 (.ptr σ.length 0)))) fun x92 =>
 bd (gdv x88.ng false (pu (eL p67.2 false 1 x92.ng))) fun x93 =>
 bd (gdv x88.ng false (pu (eB .lss .no x91.ng x93.ng))) fun x94 =>
 bd (pu (pV x88.ng.ng (.bool true) x94.ng)) fun x95 =>
 bd (gdv x95.ng false (pu (eF 1 (.ptr σ.length 0)))) fun x96 =>
 bd (gdv x95.ng false (pu (eL p67.2 false 1 x96.ng))) fun x97 =>
 bd (gdv x95.ng false (some z0.ng)) fun x98 =>
 bd (gdv x95.ng false (pu (eI 1 (.int .i64 1) x98.ng))) fun x99 =>
 bd (gdv x95.ng false (pu (eL p67.2 false 1 x99.ng))) fun x100 =>
 bd (gdv x95.ng false (pu (eB .lss .no x97.ng x100.ng))) fun x101 =>
 bd (pu (pV x95.ng.ng (.bool true) x101.ng)) fun x102 =>
 bd (gdv x102.ng false (some z0.ng)) fun x103 =>
 bd (gdv x102.ng false (pu (eI 1 (.int .i64 2) x103.ng))) fun x104 =>
 bd (gdv x102.ng false (pu (eL p67.2 false 1 x104.ng))) fun x105 =>
 bd (gdv x102.ng false (pu (eB .lss .no x105.ng (.int .u8 128)))) fun x106 =>
 bd (pu (pV x102.ng.ng (.bool true) x106.ng)) fun x107 =>
 bd (gdv x107.ng false (some z0.ng)) fun x108 =>
 bd (gdv x107.ng false (pu (eI 1 (.int .i64 2) x108.ng))) fun x109 =>
 bd (gdv x107.ng false (pu (eL p67.2 false 1 x109.ng))) fun x110 =>
 bd (gdv x107.ng false (pu (eB .lss .no (.int .u8 191) x110.ng))) fun x111 =>
 bd (pu (pV x107.ng.ng (.bool true) x111.ng)) fun x112 =>
  br x112.ng (
  j_Z1k_1 M n0 n1 r1 (.bool false) p67.2) (
 bd (pu (Qba 1 z0.ng (some (.int .i64 3)) none none)) fun x113 =>
  j_Z1k_0 M n0 n1 r1 x113.ng p67.2)) (
 bd (pu (eB .eql .no x62.ng.ng.ng (.int .i64 4))) fun x114 =>
  br x114.ng.ng (
 bd (pu (Qaq z0.ng.ng)) fun x115 =>
 bd (pu (eB .lss .no x115.ng (.int .i64 4))) fun x116 =>
 bd (gdv x116.ng false (some z0.ng)) fun x117 =>
 bd (gdv x116.ng false (pu (eI 1 (.int .i64 1) x117.ng))) fun x118 =>
 bd (gdv x116.ng false (pu (eL p67.2 false 1 x118.ng))) fun x119 =>
 bd (gdv x116.ng false (pu (eF 0 (.ptr σ.length 0)))) fun x120 =>
 bd (gdv x116.ng false (pu (eL p67.2 false 1 x120.ng))) fun x121 =>
 bd (gdv x116.ng false (pu (eB .lss .no x119.ng x121.ng))) fun x122 =>
 bd (pu (pV x116.ng.ng (.bool true) x122.ng)) fun x123 =>
 bd (gdv x123.ng false (pu (eF 1 (.ptr σ.length 0)))) fun x124 =>
 bd (gdv x123.ng false (pu (eL p67.2 false 1 x124.ng))) fun x125 =>
 bd (gdv x123.ng false (some z0.ng)) fun x126 =>
 bd (gdv x123.ng false (pu (eI 1 (.int .i64 1) x126.ng))) fun x127 =>
 bd (gdv x123.ng false (pu (eL p67.2 false 1 x127.ng))) fun x128 =>
 bd (gdv x123.ng false (pu (eB .lss .no x125.ng x128.ng))) fun x129 =>
 bd (pu (pV x123.ng.ng (.bool true) x129.ng)) fun x130 =>
 bd (gdv x130.ng false (some z0.ng)) fun x131 =>
 bd (gdv x130.ng false (pu (eI 1 (.int .i64 2) x131.ng))) fun x132 =>
 bd (gdv x130.ng false (pu (eL p67.2 false 1 x132.ng))) fun x133 =>
 bd (gdv x130.ng false (pu (eB .lss .no x133.ng (.int .u8 128)))) fun x134 =>
 bd (pu (pV x130.ng.ng (.bool true) x134.ng)) fun x135 =>
 bd (gdv x135.ng false (some z0.ng)) fun x136 =>
 bd (gdv x135.ng false (pu (eI 1 (.int .i64 2) x136.ng))) fun x137 =>
 bd (gdv x135.ng false (pu (eL p67.2 false 1 x137.ng))) fun x138 =>
 bd (gdv x135.ng false (pu (eB .lss .no (.int .u8 191) x138.ng))) fun x139 =>
 bd (pu (pV x135.ng.ng (.bool true) x139.ng)) fun x140 =>
 bd (gdv x140.ng false (some z0.ng)) fun x141 =>
 bd (gdv x140.ng false (pu (eI 1 (.int .i64 3) x141.ng))) fun x142 =>
 bd (gdv x140.ng false (pu (eL p67.2 false 1 x142.ng))) fun x143 =>
 bd (gdv x140.ng false (pu (eB .lss .no x143.ng (.int .u8 128)))) fun x144 =>
 bd (pu (pV x140.ng.ng (.bool true) x144.ng)) fun x145 =>
 bd (gdv x145.ng false (some z0.ng)) fun x146 =>
 bd (gdv x145.ng false (pu (eI 1 (.int .i64 3) x146.ng))) fun x147 =>
 bd (gdv x145.ng false (pu (eL p67.2 false 1 x147.ng))) fun x148 =>
 bd (gdv x145.ng false (pu (eB .lss .no (.int .u8 191) x148.ng))) fun x149 =>
 bd (pu (pV x145.ng.ng (.bool true) x149.ng)) fun x150 =>
  br x150.ng (
  j_Z1k_1 M n0 n1 r1 (.bool false) p67.2) (
 bd (pu (Qba 1 z0.ng (some (.int .i64 4)) none none)) fun x151 =>
  j_Z1k_0 M n0 n1 r1 x151.ng p67.2)) (
  j_Z1k_1 M n0 n1 r1 (.bool false) p67.2))))) (
 bd (fz n1 σ fzD .any) fun y152 =>
 bd (cuO n1 σ) fun s153 =>
 bd (oK false (.bool true)) (nK n0 s153))
def l_Z1k_0 (M : Mach) (n0 : Nat) (n1 : Nat) : Rk := M.fx fun rec vs σ => b_Z1k_0 M n0 n1 rec (vs.getD 0 .undef) σ
def s_Z1k (M : Mach) (a0 : V) (σ : Objs) : Ro :=
 bd (pu (Qaq a0.ng.ng)) fun x0 =>
 bd (pu (Qaq a0.ng)) fun x1 =>
 bd (pu (Qba 1 a0.ng.ng none (some x0.ng) (some x1.ng))) fun x2 =>
 bd (fz σ.length σ fzD x2.ng) fun y154 =>
  l_Z1k_0 M σ.length σ.length [y154] σ
theorem k_Z1k (M : Mach) (a0 : V) (σ : Objs) : fnK M c_Z1k [a0] σ = s_Z1k M a0 σ := by kernel_rfl
def c_Zq : Ev.Fn := ⟨114, [.tmp 4], false, false, (Yq 0 [Yk 2 (.box 0), Yk 3 (.box 1), Yv 4 Yf] (.seq (Yq 1 [Ya 5 0 3, Yl 6 false 1 5] (.block 0 (Yq 2 [Yo 8 .eql .no 6 (Yi 1), Yv 7 8] (.cond 7 (Yq 3 [Yl 9 true 4 2, Yl 10 true 11 3, Yc 11 132 [9, 10], Yv 12 11, ⟨some 13, (some (12, true)), .faddr 3 3⟩, ⟨some 14, (some (12, true)), .load false 1 13⟩, ⟨some 15, (some (12, true)), .call 51 [14]⟩, Yk 16 (.pick 12 15 Yf), Yv 17 16, ⟨some 18, (some (17, true)), .load true 11 3⟩, ⟨some 19, (some (17, true)), .call 133 [18, (.f 134)]⟩, Yk 20 (.pick 17 19 Yf), Yv 4 20] .ret) (Yq 4 [Yo 22 .eql .no 6 (Yi 2), Yv 21 22] (.cond 21 (Yq 5 [Yl 23 true 4 2, Yl 24 true 11 3, Yc 25 132 [23, 24], Yv 26 25, ⟨some 27, (some (26, true)), .load true 11 3⟩, ⟨some 28, (some (26, true)), .call 133 [27, (.f 135)]⟩, Yk 29 (.pick 26 28 Yf), Yv 4 29] .ret) (.seq (Yq 6 [Yo 31 .eql .no 6 (Yi 3), Yv 30 31] (.cond 30 .skip (.ops 7 [Yo 32 .eql .no 6 (Yi 4), Yv 30 32]))) (.cond 30 (Yq 8 [Ya 33 3 3, Yl 34 false 1 33, Yc 35 51 [34], Yv 36 35, ⟨some 37, (some (36, true)), .load true 11 3⟩, ⟨some 38, (some (36, true)), .call 133 [37, (.f 136)]⟩, Yk 39 (.pick 36 38 Yf), Yv 4 39] .ret) (Yq 9 [Yo 41 .eql .no 6 (Yi 11), Yv 40 41] (.cond 40 (Yq 10 [Ya 42 3 3, Yl 43 false 1 42, Yc 44 137 [43], Yv 45 44, ⟨some 46, (some (45, true)), .load true 11 3⟩, ⟨some 47, (some (45, true)), .call 133 [46, (.f 136)]⟩, Yk 48 (.pick 45 47 Yf), Yv 4 48] .ret) (Yq 11 [Yo 50 .eql .no 6 (Yi 13), Yv 49 50] (.cond 49 (Yq 12 [Ya 51 3 3, Yl 52 false 1 51, Yc 53 138 [52], Yv 54 53, ⟨some 55, (some (54, true)), .load true 11 3⟩, ⟨some 56, (some (54, true)), .call 133 [55, (.f 136)]⟩, Yk 57 (.pick 54 56 Yf), Yv 4 57] .ret) (Yq 13 [Yo 59 .eql .no 6 (Yi 5), Yv 58 59] (.cond 58 (Yq 14 [Yl 60 true 4 2, Yl 61 true 11 3, Yc 62 132 [60, 61], Yv 63 62, ⟨some 64, (some (63, true)), .faddr 3 3⟩, ⟨some 65, (some (63, true)), .load false 1 64⟩, ⟨some 66, (some (63, true)), .call 51 [65]⟩, Yk 67 (.pick 63 66 Yf), Yv 68 67, ⟨some 69, (some (68, true)), .load true 11 3⟩, ⟨some 70, (some (68, true)), .call 139 [69]⟩, Yk 71 (.pick 68 70 Yf), Yv 72 71, ⟨some 73, (some (72, true)), .load true 11 3⟩, ⟨some 74, (some (72, true)), .call 133 [73, (.f 140)]⟩, Yk 75 (.pick 72 74 Yf), Yv 4 75] .ret) (.seq (Yq 15 [Yo 77 .eql .no 6 (Yi 6), Yv 76 77] (.cond 76 .skip (.ops 16 [Yo 78 .eql .no 6 (Yi 12), Yv 76 78]))) (.cond 76 (Yq 17 [Yl 79 true 11 3, Yc 80 133 [79, (.f 141)], Yv 4 80] .ret) (Yq 18 [Yo 82 .eql .no 6 (Yi 7), Yv 81 82] (.cond 81 (Yq 19 [Ya 83 8 3, Yl 84 true 2 83, Yc 85 142 [84], Yv 86 85, ⟨some 87, (some (86, true)), .faddr 10 3⟩, ⟨some 88, (some (86, true)), .load false 1 87⟩, ⟨some 89, (some (86, true)), .len 88⟩, ⟨some 90, (some (86, true)), .bin .eql .no 89 (Yi 0)⟩, ⟨some 91, (some (86, true)), .mv 90 false⟩, ⟨some 92, (some (91, false)), .load true 4 2⟩, ⟨some 93, (some (91, false)), .faddr 10 3⟩, ⟨some 94, (some (91, false)), .load false 1 93⟩, ⟨some 95, (some (91, false)), .call 54 [92, 94, Yf]⟩, ⟨some 96, (some (86, true)), .pick 91 Yt 95⟩, Yk 97 (.pick 86 96 Yf), Yv 98 97, ⟨some 99, (some (98, true)), .load true 11 3⟩, ⟨some 100, (some (98, true)), .call 133 [99, (.f 143)]⟩, Yk 101 (.pick 98 100 Yf), Yv 4 101] .ret) (.seq (Yq 20 [Yo 103 .eql .no 6 (Yi 8), Yv 102 103] (.cond 102 .skip (Yq 21 [Yo 104 .eql .no 6 (Yi 9), Yv 102 104] (.cond 102 .skip (.ops 22 [Yo 105 .eql .no 6 (Yi 10), Yv 102 105]))))) (.cond 102 (Yq 23 [Yl 106 true 4 2, Ya 107 10 3, Yl 108 false 1 107, Yc 109 54 [106, 108, Yf], Yv 110 109, ⟨some 111, (some (110, true)), .load true 11 3⟩, ⟨some 112, (some (110, true)), .call 133 [111, (.f 144)]⟩, Yk 113 (.pick 110 112 Yf), Yv 4 113] .ret) .skip)))))))))))))))))))) (Yq 24 [Yv 4 Yf] .ret)))⟩
theorem ok_c_Zq : Qam Tryz.prog 98 c_Zq = true := Qad Tryz.func98 (by kernel_rfl)
def j_Zq_2 (M : Mach) (n0 : Nat) (z2 z3 z102 : V) (σ : Objs) : Ro :=
  br z102.ng (
 bd (pu (eL σ true 4 z2.ng)) fun x76 =>
 bd (pu (eF 10 z3.ng)) fun x77 =>
 bd (pu (eL σ false 1 x77.ng)) fun x78 =>
 bd (M.call 54 [x76.ng, x78.ng, (.bool false)] σ) fun p79 =>
 bd (gdv p79.1.ng true (pu (eL p79.2 true 11 z3.ng))) fun x80 =>
 bd (gdp p79.1.ng true (M.call 133 [x80.ng, (.fn 144 [] [])] p79.2) p79.2) fun p81 =>
 bd (pu (pV p79.1.ng.ng p81.1.ng (.bool false))) fun x82 =>
 bd (oK false x82.ng) (nK n0 p81.2)) (
 bd (oK false (.bool false)) (nK n0 σ))
def j_Zq_1 (M : Mach) (n0 : Nat) (z2 z3 z6 z76 : V) (σ : Objs) : Ro :=
  br z76.ng (
 bd (pu (eL σ true 11 z3.ng)) fun x56 =>
 bd (M.call 133 [x56.ng, (.fn 141 [] [])] σ) fun p57 =>
 bd (oK false p57.1.ng) (nK n0 p57.2)) (
 bd (pu (eB .eql .no z6.ng (.int .i64 7))) fun x58 =>
  br x58.ng.ng (
 bd (pu (eF 8 z3.ng)) fun x59 =>
 bd (pu (eL σ true 2 x59.ng)) fun x60 =>
 bd (M.call 142 [x60.ng] σ) fun p61 =>
 bd (gdv p61.1.ng true (pu (eF 10 z3.ng))) fun x62 =>
 bd (gdv p61.1.ng true (pu (eL p61.2 false 1 x62.ng))) fun x63 =>
 bd (gdv p61.1.ng true (pu (Qaq x63.ng))) fun x64 =>
 bd (gdv p61.1.ng true (pu (eB .eql .no x64.ng (.int .i64 0)))) fun x65 =>
 bd (gdv p61.1.ng true (some x65.ng)) fun x66 =>
 bd (gdv x66 false (pu (eL p61.2 true 4 z2.ng))) fun x67 =>
 bd (gdv x66 false (pu (eF 10 z3.ng))) fun x68 =>
 bd (gdv x66 false (pu (eL p61.2 false 1 x68.ng))) fun x69 =>
 bd (gdp x66 false (M.call 54 [x67.ng, x69.ng, (.bool false)] p61.2) p61.2) fun p70 =>
 bd (gdv p61.1.ng true (pu (pV x66.ng (.bool true) p70.1.ng))) fun x71 =>
 bd (pu (pV p61.1.ng.ng x71.ng (.bool false))) fun x72 =>
 bd (gdv x72.ng true (pu (eL p70.2 true 11 z3.ng))) fun x73 =>
 bd (gdp x72.ng true (M.call 133 [x73.ng, (.fn 143 [] [])] p70.2) p70.2) fun p74 =>
 bd (pu (pV x72.ng.ng p74.1.ng (.bool false))) fun x75 =>
 bd (oK false x75.ng) (nK n0 p74.2)) (
 bd (pu (eB .eql .no z6.ng (.int .i64 8))) fun x83 =>
  br x83.ng.ng (
  j_Zq_2 M n0 z2 z3 x83.ng σ) (
 bd (pu (eB .eql .no z6.ng (.int .i64 9))) fun x84 =>
  br x84.ng.ng (
  j_Zq_2 M n0 z2 z3 x84.ng σ) (
 bd (pu (eB .eql .no z6.ng (.int .i64 10))) fun x85 =>
  j_Zq_2 M n0 z2 z3 x85.ng σ))))
def j_Zq_0 (M : Mach) (n0 : Nat) (z2 z3 z6 z30 : V) (σ : Objs) : Ro :=
  br z30.ng (
 bd (pu (eF 3 z3.ng)) fun x22 =>
 bd (pu (eL σ false 1 x22.ng)) fun x23 =>
 bd (M.call 51 [x23.ng] σ) fun p24 =>
 bd (gdv p24.1.ng true (pu (eL p24.2 true 11 z3.ng))) fun x25 =>
 bd (gdp p24.1.ng true (M.call 133 [x25.ng, (.fn 136 [] [])] p24.2) p24.2) fun p26 =>
 bd (pu (pV p24.1.ng.ng p26.1.ng (.bool false))) fun x27 =>
 bd (oK false x27.ng) (nK n0 p26.2)) (
 bd (pu (eB .eql .no z6.ng (.int .i64 11))) fun x28 =>
  br x28.ng.ng (
 bd (pu (eF 3 z3.ng)) fun x29 =>
 bd (pu (eL σ false 1 x29.ng)) fun x30 =>
 bd (M.call 137 [x30.ng] σ) fun p31 =>
 bd (gdv p31.1.ng true (pu (eL p31.2 true 11 z3.ng))) fun x32 =>
 bd (gdp p31.1.ng true (M.call 133 [x32.ng, (.fn 136 [] [])] p31.2) p31.2) fun p33 =>
 bd (pu (pV p31.1.ng.ng p33.1.ng (.bool false))) fun x34 =>
 bd (oK false x34.ng) (nK n0 p33.2)) (
 bd (pu (eB .eql .no z6.ng (.int .i64 13))) fun x35 =>
  br x35.ng.ng (
 bd (pu (eF 3 z3.ng)) fun x36 =>
 bd (pu (eL σ false 1 x36.ng)) fun x37 =>
 bd (M.call 138 [x37.ng] σ) fun p38 =>
 bd (gdv p38.1.ng true (pu (eL p38.2 true 11 z3.ng))) fun x39 =>
 bd (gdp p38.1.ng true (M.call 133 [x39.ng, (.fn 136 [] [])] p38.2) p38.2) fun p40 =>
 bd (pu (pV p38.1.ng.ng p40.1.ng (.bool false))) fun x41 =>
 bd (oK false x41.ng) (nK n0 p40.2)) (
 bd (pu (eB .eql .no z6.ng (.int .i64 5))) fun x42 =>
  br x42.ng.ng (
 bd (pu (eL σ true 4 z2.ng)) fun x43 =>
 bd (pu (eL σ true 11 z3.ng)) fun x44 =>
 bd (M.call 132 [x43.ng, x44.ng] σ) fun p45 =>
 bd (gdv p45.1.ng true (pu (eF 3 z3.ng))) fun x46 =>
 bd (gdv p45.1.ng true (pu (eL p45.2 false 1 x46.ng))) fun x47 =>
 bd (gdp p45.1.ng true (M.call 51 [x47.ng] p45.2) p45.2) fun p48 =>
 bd (pu (pV p45.1.ng.ng p48.1.ng (.bool false))) fun x49 =>
 bd (gdv x49.ng true (pu (eL p48.2 true 11 z3.ng))) fun x50 =>
 bd (gdp x49.ng true (M.call 139 [x50.ng] p48.2) p48.2) fun p51 =>
 bd (pu (pV x49.ng.ng p51.1.ng (.bool false))) fun x52 =>
 bd (gdv x52.ng true (pu (eL p51.2 true 11 z3.ng))) fun x53 =>
 bd (gdp x52.ng true (M.call 133 [x53.ng, (.fn 140 [] [])] p51.2) p51.2) fun p54 =>
 bd (pu (pV x52.ng.ng p54.1.ng (.bool false))) fun x55 =>
 bd (oK false x55.ng) (nK n0 p54.2)) (
 bd (pu (eB .eql .no z6.ng (.int .i64 6))) fun x86 =>
  br x86.ng.ng (
  j_Zq_1 M n0 z2 z3 z6 x86.ng σ) (
 bd (pu (eB .eql .no z6.ng (.int .i64 12))) fun x87 =>
  j_Zq_1 M n0 z2 z3 z6 x87.ng σ)))))
def s_Zq (M : Mach) (a0 a1 : V) (σ : Objs) : Ro :=
 bd (boxV σ a0.ng) fun p0 =>
 bd (boxV p0.2 a1.ng) fun p1 =>
 bd (pu (eF 0 p1.1.ng)) fun x2 =>
 bd (pu (eL p1.2 false 1 x2.ng)) fun x3 =>
 bd (pu (eB .eql .no x3.ng (.int .i64 1))) fun x4 =>
  br x4.ng.ng (
 bd (pu (eL p1.2 true 4 p0.1.ng)) fun x5 =>
 bd (pu (eL p1.2 true 11 p1.1.ng)) fun x6 =>
 bd (M.call 132 [x5.ng, x6.ng] p1.2) fun p7 =>
 bd (gdv p7.1.ng true (pu (eF 3 p1.1.ng))) fun x8 =>
 bd (gdv p7.1.ng true (pu (eL p7.2 false 1 x8.ng))) fun x9 =>
 bd (gdp p7.1.ng true (M.call 51 [x9.ng] p7.2) p7.2) fun p10 =>
 bd (pu (pV p7.1.ng.ng p10.1.ng (.bool false))) fun x11 =>
 bd (gdv x11.ng true (pu (eL p10.2 true 11 p1.1.ng))) fun x12 =>
 bd (gdp x11.ng true (M.call 133 [x12.ng, (.fn 134 [] [])] p10.2) p10.2) fun p13 =>
 bd (pu (pV x11.ng.ng p13.1.ng (.bool false))) fun x14 =>
 bd (oK false x14.ng) (nK σ.length p13.2)) (
 bd (pu (eB .eql .no x3.ng (.int .i64 2))) fun x15 =>
  br x15.ng.ng (
 bd (pu (eL p1.2 true 4 p0.1.ng)) fun x16 =>
 bd (pu (eL p1.2 true 11 p1.1.ng)) fun x17 =>
 bd (M.call 132 [x16.ng, x17.ng] p1.2) fun p18 =>
 bd (gdv p18.1.ng true (pu (eL p18.2 true 11 p1.1.ng))) fun x19 =>
 bd (gdp p18.1.ng true (M.call 133 [x19.ng, (.fn 135 [] [])] p18.2) p18.2) fun p20 =>
 bd (pu (pV p18.1.ng.ng p20.1.ng (.bool false))) fun x21 =>
 bd (oK false x21.ng) (nK σ.length p20.2)) (
 bd (pu (eB .eql .no x3.ng (.int .i64 3))) fun x88 =>
  br x88.ng.ng (
  j_Zq_0 M σ.length p0.1 p1.1 x3 x88.ng p1.2) (
 bd (pu (eB .eql .no x3.ng (.int .i64 4))) fun x89 =>
  j_Zq_0 M σ.length p0.1 p1.1 x3 x89.ng p1.2)))
theorem k_Zq (M : Mach) (a0 a1 : V) (σ : Objs) : fnK M c_Zq [a0, a1] σ = s_Zq M a0 a1 σ := by kernel_rfl
def c_Z3 : Ev.Fn := ⟨24, [.cell 4 true 3], false, false, (Yq 0 [Yk 3 (.box 1), Yk 4 (.alloc [Y0, Y0, .nils])] (Yq 1 [Yv 6 0, Ya 7 3 3, Yl 8 false 1 7, Yk 9 (.build [Y0, Yb, Yn, Yn, Y0, Yn, Yb] [(0, 1, (Yi 1)), (3, 1, 8)]), Yl 10 true 11 3, Yc 11 102 [6, 9, 10], Yk 5 (.alloc [Y0, Yb, Yn, Yn, Y0, Yn, Yb]), Yw 7 5 11 false] (.seq (Yq 2 [Ya 12 3 5, Yl 13 false 1 12, Yo 14 .eql .no 13 (Ys []), Yv 15 14, ⟨some 16, (some (15, true)), .faddr 1 5⟩, ⟨some 17, (some (15, true)), .load false 1 16⟩, ⟨some 18, (some (15, true)), .un .not 17⟩, Yk 19 (.pick 15 18 Yf)] (.cond 19 (Yq 3 [Yk 20 (.build [Y0, Y0, .nils] [(0, 1, (Yi 7))]), Yw 3 4 20 false] .ret) .skip)) (Yq 4 [Yv 21 0, Yl 22 true 7 5, Yc 23 101 [21, 22], Yw 3 4 23 false] .ret))))⟩
theorem ok_c_Z3 : Qam Tryz.prog 99 c_Z3 = true := Qad Tryz.func99 (by kernel_rfl)
def s_Z3 (M : Mach) (a0 a1 : V) (σ : Objs) : Ro :=
 bd (boxV σ a1.ng) fun p0 =>
  let s1 : Objs := p0.2 ++ [.cells [(.int .i64 0), (.int .i64 0), .nils]]
 bd (pu (eF 3 p0.1.ng)) fun x2 =>
 bd (pu (eL s1 false 1 x2.ng)) fun x3 =>
 bd (pu (Qa2 [(.int .i64 0), (.bool false), (.str []), (.str []), (.int .i64 0), (.str []), (.bool false)] [(0, 1, (.int .i64 1)), (3, 1, x3.ng)])) fun x4 =>
 bd (pu (eL s1 true 11 p0.1.ng)) fun x5 =>
 bd (M.call 102 [a0.ng.ng, x4.ng, x5.ng] s1) fun p6 =>
  let s7 : Objs := p6.2 ++ [.cells [(.int .i64 0), (.bool false), (.str []), (.str []), (.int .i64 0), (.str []), (.bool false)]]
 bd (stV s7 7 (.ptr p6.2.length 0) p6.1.ng p6.1.ng) fun p8 =>
 bd (pu (eF 3 (.ptr p6.2.length 0))) fun x9 =>
 bd (pu (eL p8.2 false 1 x9.ng)) fun x10 =>
 bd (pu (eB .eql .no x10.ng (.str []))) fun x11 =>
 bd (gdv x11.ng true (pu (eF 1 (.ptr p6.2.length 0)))) fun x12 =>
 bd (gdv x11.ng true (pu (eL p8.2 false 1 x12.ng))) fun x13 =>
 bd (gdv x11.ng true (pu (evUn .not x13.ng))) fun x14 =>
 bd (pu (pV x11.ng.ng x14.ng (.bool false))) fun x15 =>
  br x15.ng (
 bd (pu (Qa2 [(.int .i64 0), (.int .i64 0), .nils] [(0, 1, (.int .i64 7))])) fun x16 =>
 bd (stV p8.2 3 (.ptr p0.2.length 0) x16.ng x16.ng) fun p17 =>
 bd (resC p17.2 true 3 (.ptr p0.2.length 0)) fun x18 =>
 bd (oK false x18) (nK σ.length p17.2)) (
 bd (pu (eL p8.2 true 7 (.ptr p6.2.length 0))) fun x19 =>
 bd (M.call 101 [a0.ng.ng, x19.ng] p8.2) fun p20 =>
 bd (stV p20.2 3 (.ptr p0.2.length 0) p20.1.ng p20.1.ng) fun p21 =>
 bd (resC p21.2 true 3 (.ptr p0.2.length 0)) fun x22 =>
 bd (oK false x22) (nK σ.length p21.2))
theorem k_Z3 (M : Mach) (a0 a1 : V) (σ : Objs) : fnK M c_Z3 [a0, a1] σ = s_Z3 M a0 a1 σ := by kernel_rfl
def c_Z1 : Ev.Fn := ⟨16, [.cell 8 true 3], false, false, (Yq 0 [Yk 8 (.alloc [Y0, Y0, .nils])] (Yq 1 [Yv 9 0, Yv 10 1, Yv 11 2, Yv 12 3, Yk 13 (.build [Y0, Yn, Yb] [(0, 1, 11), (1, 1, 12)]), Yk 14 (.build [Y0, Yb, Yn, Yn, Y0, Yn, Yb] [(0, 1, (Yi 2)), (1, 1, Yt), (3, 1, 10), (4, 3, 13)]), Yc 15 101 [9, 14], Yw 3 8 15 false] .ret))⟩
theorem ok_c_Z1 : Qam Tryz.prog 100 c_Z1 = true := Qad Tryz.func100 (by kernel_rfl)
def s_Z1 (M : Mach) (a0 a1 a2 a3 : V) (σ : Objs) : Ro :=
  let s0 : Objs := σ ++ [.cells [(.int .i64 0), (.int .i64 0), .nils]]
 bd (pu (Qa2 [(.int .i64 0), (.str []), (.bool false)] [(0, 1, a2.ng.ng), (1, 1, a3.ng.ng)])) fun x1 =>
 bd (pu (Qa2 [(.int .i64 0), (.bool false), (.str []), (.str []), (.int .i64 0), (.str []), (.bool false)] [(0, 1, (.int .i64 2)), (1, 1, (.bool true)), (3, 1, a1.ng.ng), (4, 3, x1.ng)])) fun x2 =>
 bd (M.call 101 [a0.ng.ng, x2.ng] s0) fun p3 =>
 bd (stV p3.2 3 (.ptr σ.length 0) p3.1.ng p3.1.ng) fun p4 =>
 bd (resC p4.2 true 3 (.ptr σ.length 0)) fun x5 =>
 bd (oK false x5) (nK σ.length p4.2)
theorem k_Z1 (M : Mach) (a0 a1 a2 a3 : V) (σ : Objs) : fnK M c_Z1 [a0, a1, a2, a3] σ = s_Z1 M a0 a1 a2 a3 σ := by kernel_rfl
def c_Z8 : Ev.Fn := ⟨46, [.cell 6 true 7], false, false, (Yq 0 [Yk 4 (.box 1), Yk 5 (.box 2), Yk 6 (.alloc [Y0, Yb, Yn, Yn, Y0, Yn, Yb])] (.seq (Yq 1 [Ya 7 1 5, Yl 8 false 1 7] (.block 0 (Yq 2 [Yo 10 .eql .no 8 (Yi 0), Yv 9 10] (.cond 9 (.drw 3 [⟨Yv 11 0, 0, []⟩, ⟨Yk 12 (.nilc 11), 1, []⟩, ⟨Ya 13 0 12, 2, []⟩, ⟨Ya 14 0 13, 3, []⟩, ⟨Yl 15 false 1 14, 4, []⟩, ⟨Yv 16 0, 5, []⟩, ⟨Yk 17 (.nilc 16), 6, []⟩, ⟨Ya 18 0 17, 7, []⟩, ⟨Ya 19 1 18, 8, []⟩, ⟨Yl 20 false 1 19, 9, []⟩, ⟨Ya 21 1 4, 10, []⟩, ⟨Yw 1 21 15 false, 11, [9]⟩, ⟨Ya 22 2 4, 12, []⟩, ⟨Yw 1 22 20 false, 13, []⟩]) (Yq 4 [Yo 24 .eql .no 8 (Yi 2), Yv 23 24] (.cond 23 (.ops 5 [Ya 25 1 4, Yw 1 25 Yt false, Ya 26 2 4, Yw 1 26 (Ys []) false]) (Yq 6 [Yo 28 .eql .no 8 (Yi 3), Yv 27 28] (.cond 27 (Yq 7 [Ya 29 1 4, Yw 1 29 Yt false] (.drw 8 [⟨Yv 31 0, 0, []⟩, ⟨Yk 32 (.nilc 31), 1, []⟩, ⟨Ya 33 0 32, 2, []⟩, ⟨Yl 34 true 4 33, 3, []⟩, ⟨Ya 35 2 5, 4, []⟩, ⟨Yl 36 false 1 35, 5, []⟩, ⟨Yc 37 146 [34, 36], 6, []⟩, ⟨Yv 30 37, 7, []⟩, ⟨Yx 38 30 0, 8, []⟩, ⟨Yx 39 30 1, 9, []⟩, ⟨Ya 40 2 4, 10, []⟩, ⟨Yw 1 40 38 false, 11, []⟩])) .skip)))))))) (.seq (Yq 9 [Ya 41 1 4, Yl 42 false 1 41, Yk 43 (.un .not 42)] (.cond 43 (.ops 10 [Ya 44 2 4, Yw 1 44 (Ys []) false]) .skip)) (Yq 11 [Yl 45 true 7 4, Yw 7 6 45 false] .ret))))⟩
theorem ok_c_Z8 : Qam Tryz.prog 102 c_Z8 = true := Qad Tryz.func102 (by kernel_rfl)
def j_Z8_1 (M : Mach) (n0 : Nat) (z4 z6 : V) (σ : Objs) : Ro :=
 bd (pu (eL σ true 7 z4.ng)) fun x3 =>
 bd (stV σ 7 z6.ng x3.ng x3.ng) fun p4 =>
 bd (resC p4.2 true 7 z6) fun x5 =>
 bd (oK false x5) (nK n0 p4.2)
def j_Z8_0 (M : Mach) (n0 : Nat) (z4 z6 : V) (σ : Objs) : Ro :=
 bd (pu (eF 1 z4.ng)) fun x6 =>
 bd (pu (eL σ false 1 x6.ng)) fun x7 =>
 bd (pu (evUn .not x7.ng)) fun x8 =>
  br x8.ng (
 bd (pu (eF 2 z4.ng)) fun x9 =>
 bd (stV σ 1 x9.ng (.str []) (.str [])) fun p10 =>
  j_Z8_1 M n0 z4 z6 p10.2) (
  j_Z8_1 M n0 z4 z6 σ)
def s_Z8 (M : Mach) (a0 a1 a2 : V) (σ : Objs) : Ro :=
 bd (boxV σ a1.ng) fun p0 =>
 bd (boxV p0.2 a2.ng) fun p1 =>
  let s2 : Objs := p1.2 ++ [.cells [(.int .i64 0), (.bool false), (.str []), (.str []), (.int .i64 0), (.str []), (.bool false)]]
 bd (pu (eF 1 p1.1.ng)) fun x11 =>
 bd (pu (eL s2 false 1 x11.ng)) fun x12 =>
 bd (pu (eB .eql .no x12.ng (.int .i64 0))) fun x13 =>
  br x13.ng.ng (
 bd (pu (Qa8 a0.ng.ng)) fun x14 =>
 bd (pu (eF 0 x14.ng)) fun x15 =>
 bd (pu (eF 0 x15.ng)) fun x16 =>
 bd (pu (eL s2 false 1 x16.ng)) fun x17 =>
 bd (pu (Qa8 a0.ng.ng)) fun x18 =>
 bd (pu (eF 0 x18.ng)) fun x19 =>
 bd (pu (eF 1 x19.ng)) fun x20 =>
 bd (pu (eL s2 false 1 x20.ng)) fun x21 =>
 bd (pu (eF 1 p0.1.ng)) fun x22 =>
 bd (Qj4 [Qe5 false 1 x20.ng] s2) fun s23 =>
 bd (stV s23 1 x22.ng x17.ng x17.ng) fun p25 =>
 bd (Qgx [Qe5 false 1 x20.ng] s2 p25.2) fun s24 =>
 bd (pu (eF 2 p0.1.ng)) fun x26 =>
 bd (stV s24 1 x26.ng x21.ng x21.ng) fun p27 =>
  j_Z8_0 M σ.length p0.1 (.ptr p1.2.length 0) p27.2) (
 bd (pu (eB .eql .no x12.ng (.int .i64 2))) fun x28 =>
  br x28.ng.ng (
 bd (pu (eF 1 p0.1.ng)) fun x29 =>
 bd (stV s2 1 x29.ng (.bool true) (.bool true)) fun p30 =>
 bd (pu (eF 2 p0.1.ng)) fun x31 =>
 bd (stV p30.2 1 x31.ng (.str []) (.str [])) fun p32 =>
  j_Z8_0 M σ.length p0.1 (.ptr p1.2.length 0) p32.2) (
 bd (pu (eB .eql .no x12.ng (.int .i64 3))) fun x33 =>
  br x33.ng.ng (
 bd (pu (eF 1 p0.1.ng)) fun x34 =>
 bd (stV s2 1 x34.ng (.bool true) (.bool true)) fun p35 =>
 bd (pu (Qa8 a0.ng.ng)) fun x36 =>
 bd (pu (eF 0 x36.ng)) fun x37 =>
 bd (pu (eL p35.2 true 4 x37.ng)) fun x38 =>
 bd (pu (eF 2 p1.1.ng)) fun x39 =>
 bd (pu (eL p35.2 false 1 x39.ng)) fun x40 =>
 bd (M.call 146 [x38.ng, x40.ng] p35.2) fun p41 =>
 bd (pu (eX 0 p41.1.ng.ng)) fun x42 =>
 bd (pu (eX 1 p41.1.ng.ng)) fun x43 =>
 bd (pu (eF 2 p0.1.ng)) fun x44 =>
 bd (stV p41.2 1 x44.ng x42.ng x42.ng) fun p45 =>
  j_Z8_0 M σ.length p0.1 (.ptr p1.2.length 0) p45.2) (
  j_Z8_0 M σ.length p0.1 (.ptr p1.2.length 0) s2)))
theorem k_Z8 (M : Mach) (a0 a1 a2 : V) (σ : Objs) : fnK M c_Z8 [a0, a1, a2] σ = s_Z8 M a0 a1 a2 σ := by kernel_rfl
def c_Z0 : Ev.Fn := ⟨36, [.cell 4 true 3], false, false, (Yq 0 [Yk 3 (.box 1), Yk 4 (.alloc [Y0, Y0, .nils])] (.seq (.drw 1 [⟨Yv 6 0, 0, []⟩, ⟨Yk 7 (.nilc 6), 1, []⟩, ⟨Ya 8 4 7, 2, []⟩, ⟨Ya 9 0 8, 3, []⟩, ⟨Yl 10 false 1 9, 4, []⟩, ⟨Yl 11 true 7 3, 5, []⟩, ⟨Yc 12 145 [10, 11], 6, []⟩, ⟨Yv 5 12, 7, []⟩]) (.seq (Yq 2 [Yv 13 5, Yo 14 .lss .no 13 (Yi 0)] (.cond 14 (.seq (.drw 3 [⟨Yv 15 0, 0, []⟩, ⟨Yv 16 0, 1, []⟩, ⟨Yk 17 (.nilc 16), 2, []⟩, ⟨Ya 18 4 17, 3, []⟩, ⟨Ya 19 0 18, 4, []⟩, ⟨Yk 20 (.loadT 19), 5, []⟩, ⟨Yl 21 true 7 3, 6, []⟩, ⟨Yk 22 (.buildSl true 7 1 (.agg [Y0, Yb, Yn, Yn, Y0, Yn, Yb]) [(0, 21)] false), 7, []⟩, ⟨Yk 23 (.app false true 7 80 20 22 true), 8, []⟩, ⟨Yk 24 (.nilc 15), 9, []⟩, ⟨Ya 25 4 24, 10, []⟩, ⟨Ya 26 0 25, 11, []⟩, ⟨Yw 1 26 23 true, 12, []⟩]) (.ops 4 [Yv 27 0, Yk 28 (.nilc 27), Ya 29 4 28, Ya 30 0 29, Yl 31 false 1 30, Yh 32 31, Yo 33 .sub .no 32 (Yi 1), Yv 5 33])) .skip)) (Yq 5 [Yv 34 5, Yk 35 (.build [Y0, Y0, .nils] [(0, 1, (Yi 1)), (1, 1, 34)]), Yw 3 4 35 false] .ret))))⟩
theorem ok_c_Z0 : Qam Tryz.prog 101 c_Z0 = true := Qad Tryz.func101 (by kernel_rfl)
def j_Z0_0 (M : Mach) (n0 : Nat) (z4 z5 : V) (σ : Objs) : Ro :=
 bd (pu (Qa2 [(.int .i64 0), (.int .i64 0), .nils] [(0, 1, (.int .i64 1)), (1, 1, z5.ng.ng)])) fun x8 =>
 bd (stV σ 3 z4.ng x8.ng x8.ng) fun p9 =>
 bd (resC p9.2 true 3 z4) fun x10 =>
 bd (oK false x10) (nK n0 p9.2)
def s_Z0 (M : Mach) (a0 a1 : V) (σ : Objs) : Ro :=
 bd (boxV σ a1.ng) fun p0 =>
  let s1 : Objs := p0.2 ++ [.cells [(.int .i64 0), (.int .i64 0), .nils]]
 bd (pu (Qa8 a0.ng.ng)) fun x2 =>
 bd (pu (eF 4 x2.ng)) fun x3 =>
 bd (pu (eF 0 x3.ng)) fun x4 =>
 bd (pu (eL s1 false 1 x4.ng)) fun x5 =>
 bd (pu (eL s1 true 7 p0.1.ng)) fun x6 =>
 bd (M.call 145 [x5.ng, x6.ng] s1) fun p7 =>
 bd (pu (eB .lss .no p7.1.ng.ng.ng (.int .i64 0))) fun x11 =>
  br x11.ng (
 bd (pu (Qa8 a0.ng.ng)) fun x12 =>
 bd (pu (eF 4 x12.ng)) fun x13 =>
 bd (pu (eF 0 x13.ng)) fun x14 =>
 bd (Qcv p7.2 x14.ng) fun p15 =>
 bd (pu (eL p15.2 true 7 p0.1.ng)) fun x16 =>
 bd (Qax true 7 1 (.agg [(.int .i64 0), (.bool false), (.str []), (.str []), (.int .i64 0), (.str []), (.bool false)]) [(0, x16.ng)]) fun x17 =>
 bd (appV false true 7 80 p15.2 p15.1 x17.ng) fun x18 =>
 bd (pu (Qa8 a0.ng.ng)) fun x19 =>
 bd (pu (eF 4 x19.ng)) fun x20 =>
 bd (pu (eF 0 x20.ng)) fun x21 =>
 bd (stV p15.2 1 x21.ng x18.ng x18) fun p22 =>
 bd (pu (Qa8 a0.ng.ng)) fun x23 =>
 bd (pu (eF 4 x23.ng)) fun x24 =>
 bd (pu (eF 0 x24.ng)) fun x25 =>
 bd (pu (eL p22.2 false 1 x25.ng)) fun x26 =>
 bd (pu (Qaq x26.ng)) fun x27 =>
 bd (pu (eB .sub .no x27.ng (.int .i64 1))) fun x28 =>
  j_Z0_0 M σ.length (.ptr p0.2.length 0) x28.ng p22.2) (
  j_Z0_0 M σ.length (.ptr p0.2.length 0) p7.1.ng p7.2)
theorem k_Z0 (M : Mach) (a0 a1 : V) (σ : Objs) : fnK M c_Z0 [a0, a1] σ = s_Z0 M a0 a1 σ := by kernel_rfl
def c_Z7 : Ev.Fn := ⟨24, [.cell 4 true 3], false, false, (Yq 0 [Yk 4 (.alloc [Y0, Y0, .nils])] (Yq 1 [Yv 5 (.c .nils)] (.seq (Yq 2 [Yv 8 0, Yu 9 1, Yc 10 32 [8, 9], Yh 11 10, Yv 12 (Yi 0)] (.block 0 (.loop [4, 5, 10, 11, 12] [4, 5] (Yq 3 [Yo 13 .lss .no 12 11] (.seq (.cond 13 .skip (.exit 0)) (.seq (.block 1 (Yq 4 [Ye 14 1 10 12, Yl 15 false 1 14, Yv 7 15] (.ops 5 [Yu 16 5, Yv 17 7, Yk 18 (.build [Y0, Y0, .nils] [(0, 1, (Yi 2)), (1, 1, 17)]), Yk 19 (.buildSl true 3 1 (.agg [Y0, Y0, .nils]) [(0, 18)] false), Yk 20 (.app false true 3 40 16 19 true), Yu 5 20]))) (.ops 6 [Yo 21 .add .no 12 (Yi 1), Yv 12 21]))))))) (Yq 7 [Yu 22 5, Yc 23 147 [22], Yw 3 4 23 false] .ret))))⟩
theorem ok_c_Z7 : Qam Tryz.prog 103 c_Z7 = true := Qad Tryz.func103 (by kernel_rfl)
def b_Z7_0 (M : Mach) (n0 : Nat) (n1 : Nat) (r1 : Rk) (z4 z5 z10 z11 z12 : V) (σ : Objs) : Ro :=
 bd (pu (eB .lss .no z12.ng z11.ng)) fun x3 =>
  br x3.ng (
 bd (pu (eI 1 z12.ng z10.ng)) fun x4 =>
 bd (pu (eL σ false 1 x4.ng)) fun x5 =>
 bd (pu (Qa2 [(.int .i64 0), (.int .i64 0), .nils] [(0, 1, (.int .i64 2)), (1, 1, x5.ng.ng.ng)])) fun x6 =>
 bd (Qax true 3 1 (.agg [(.int .i64 0), (.int .i64 0), .nils]) [(0, x6.ng)]) fun x7 =>
 bd (appV false true 3 40 σ z5 x7.ng) fun x8 =>
 bd (pu (eB .add .no z12.ng (.int .i64 1))) fun x9 =>
 bd (fz n1 σ fzD z4) fun y10 =>
 bd (fz n1 σ fzD x8) fun y11 =>
 bd (fz n1 σ fzD z10) fun y12 =>
 bd (fz n1 σ fzD z11) fun y13 =>
 bd (fz n1 σ fzD x9.ng) fun y14 =>
 bd (cuO n1 σ) fun s15 => r1 [y10, y11, y12, y13, y14] s15) (
 bd (fz n1 σ fzD z4) fun y16 =>
 bd (fz n1 σ fzD z5) fun y17 =>
 bd (cuO n1 σ) fun s18 =>
 bd (M.call 147 [y17.ng] s18) fun p19 =>
 bd (stV p19.2 3 y16.ng p19.1.ng p19.1.ng) fun p20 =>
 bd (resC p20.2 true 3 y16) fun x21 =>
 bd (oK false x21) (nK n0 p20.2))
def l_Z7_0 (M : Mach) (n0 : Nat) (n1 : Nat) : Rk := M.fx fun rec vs σ => b_Z7_0 M n0 n1 rec (vs.getD 0 .undef) (vs.getD 1 .undef) (vs.getD 2 .undef) (vs.getD 3 .undef) (vs.getD 4 .undef) σ
def s_Z7 (M : Mach) (a0 a1 : V) (σ : Objs) : Ro :=
  let s0 : Objs := σ ++ [.cells [(.int .i64 0), (.int .i64 0), .nils]]
 bd (M.call 32 [a0.ng.ng, a1.ng] s0) fun p1 =>
 bd (pu (Qaq p1.1.ng)) fun x2 =>
 bd (fz p1.2.length p1.2 fzD (.ptr σ.length 0)) fun y22 =>
 bd (fz p1.2.length p1.2 fzD .nils) fun y23 =>
 bd (fz p1.2.length p1.2 fzD p1.1) fun y24 =>
 bd (fz p1.2.length p1.2 fzD x2) fun y25 =>
 bd (fz p1.2.length p1.2 fzD (.int .i64 0)) fun y26 =>
  l_Z7_0 M σ.length p1.2.length [y22, y23, y24, y25, y26] p1.2
theorem k_Z7 (M : Mach) (a0 a1 : V) (σ : Objs) : fnK M c_Z7 [a0, a1] σ = s_Z7 M a0 a1 σ := by kernel_rfl
def c_Z12 : Ev.Fn := ⟨6, [.cell 2 true 3], false, false, (Yq 0 [Yk 1 (.box 0), Yk 2 (.alloc [Y0, Y0, .nils])] (Yq 1 [Yl 3 true 3 1, Yk 4 (.buildSl true 3 1 (.agg [Y0, Y0, .nils]) [(0, 3)] false), Yk 5 (.build [Y0, Y0, .nils] [(0, 1, (Yi 3)), (2, 1, 4)]), Yw 3 2 5 false] .ret))⟩
theorem ok_c_Z12 : Qam Tryz.prog 104 c_Z12 = true := Qad Tryz.func104 (by kernel_rfl)
def s_Z12 (M : Mach) (a0 : V) (σ : Objs) : Ro :=
 bd (boxV σ a0.ng) fun p0 =>
  let s1 : Objs := p0.2 ++ [.cells [(.int .i64 0), (.int .i64 0), .nils]]
 bd (pu (eL s1 true 3 p0.1.ng)) fun x2 =>
 bd (Qax true 3 1 (.agg [(.int .i64 0), (.int .i64 0), .nils]) [(0, x2.ng)]) fun x3 =>
 bd (pu (Qa2 [(.int .i64 0), (.int .i64 0), .nils] [(0, 1, (.int .i64 3)), (2, 1, x3.ng)])) fun x4 =>
 bd (stV s1 3 (.ptr p0.2.length 0) x4.ng x4.ng) fun p5 =>
 bd (resC p5.2 true 3 (.ptr p0.2.length 0)) fun x6 =>
 bd (oK false x6) (nK σ.length p5.2)
theorem k_Z12 (M : Mach) (a0 : V) (σ : Objs) : fnK M c_Z12 [a0] σ = s_Z12 M a0 σ := by kernel_rfl
def c_Z2 : Ev.Fn := ⟨33, [.cell 4 true 3], false, false, (Yq 0 [Yk 3 (.box 1), Yk 4 (.alloc [Y0, Y0, .nils])] (Yq 1 [Yv 6 0, Ya 7 10 3, Yl 8 false 1 7, Yc 9 32 [6, 8], Yu 5 9] (.seq (.drw 2 [⟨Yv 10 0, 0, []⟩, ⟨Yv 11 0, 1, []⟩, ⟨Yk 12 (.nilc 11), 2, []⟩, ⟨Ya 13 4 12, 3, []⟩, ⟨Ya 14 2 13, 4, []⟩, ⟨Yk 15 (.loadT 14), 5, []⟩, ⟨Ya 16 8 3, 6, []⟩, ⟨Yl 17 true 2 16, 7, []⟩, ⟨Yu 18 5, 8, []⟩, ⟨Yk 19 (.build [Y0, Y0, .nils] [(0, 2, 17), (2, 1, 18)]), 9, []⟩, ⟨Yk 20 (.buildSl true 3 1 (.agg [Y0, Y0, .nils]) [(0, 19)] false), 10, []⟩, ⟨Yk 21 (.app false true 3 40 15 20 true), 11, []⟩, ⟨Yk 22 (.nilc 10), 12, []⟩, ⟨Ya 23 4 22, 13, []⟩, ⟨Ya 24 2 23, 14, []⟩, ⟨Yw 1 24 21 true, 15, []⟩]) (Yq 3 [Yv 25 0, Yk 26 (.nilc 25), Ya 27 4 26, Ya 28 2 27, Yl 29 false 1 28, Yh 30 29, Yo 31 .sub .no 30 (Yi 1), Yk 32 (.build [Y0, Y0, .nils] [(0, 1, (Yi 5)), (1, 1, 31)]), Yw 3 4 32 false] .ret))))⟩
theorem ok_c_Z2 : Qam Tryz.prog 105 c_Z2 = true := Qad Tryz.func105 (by kernel_rfl)
def s_Z2 (M : Mach) (a0 a1 : V) (σ : Objs) : Ro :=
 bd (boxV σ a1.ng) fun p0 =>
  let s1 : Objs := p0.2 ++ [.cells [(.int .i64 0), (.int .i64 0), .nils]]
 bd (pu (eF 10 p0.1.ng)) fun x2 =>
 bd (pu (eL s1 false 1 x2.ng)) fun x3 =>
 bd (M.call 32 [a0.ng.ng, x3.ng] s1) fun p4 =>
 bd (pu (Qa8 a0.ng.ng)) fun x5 =>
 bd (pu (eF 4 x5.ng)) fun x6 =>
 bd (pu (eF 2 x6.ng)) fun x7 =>
 bd (Qcv p4.2 x7.ng) fun p8 =>
 bd (pu (eF 8 p0.1.ng)) fun x9 =>
 bd (pu (eL p8.2 true 2 x9.ng)) fun x10 =>
 bd (pu (Qa2 [(.int .i64 0), (.int .i64 0), .nils] [(0, 2, x10.ng), (2, 1, p4.1.ng)])) fun x11 =>
 bd (Qax true 3 1 (.agg [(.int .i64 0), (.int .i64 0), .nils]) [(0, x11.ng)]) fun x12 =>
 bd (appV false true 3 40 p8.2 p8.1 x12.ng) fun x13 =>
 bd (pu (Qa8 a0.ng.ng)) fun x14 =>
 bd (pu (eF 4 x14.ng)) fun x15 =>
 bd (pu (eF 2 x15.ng)) fun x16 =>
 bd (stV p8.2 1 x16.ng x13.ng x13) fun p17 =>
 bd (pu (Qa8 a0.ng.ng)) fun x18 =>
 bd (pu (eF 4 x18.ng)) fun x19 =>
 bd (pu (eF 2 x19.ng)) fun x20 =>
 bd (pu (eL p17.2 false 1 x20.ng)) fun x21 =>
 bd (pu (Qaq x21.ng)) fun x22 =>
 bd (pu (eB .sub .no x22.ng (.int .i64 1))) fun x23 =>
 bd (pu (Qa2 [(.int .i64 0), (.int .i64 0), .nils] [(0, 1, (.int .i64 5)), (1, 1, x23.ng)])) fun x24 =>
 bd (stV p17.2 3 (.ptr p0.2.length 0) x24.ng x24.ng) fun p25 =>
 bd (resC p25.2 true 3 (.ptr p0.2.length 0)) fun x26 =>
 bd (oK false x26) (nK σ.length p25.2)
theorem k_Z2 (M : Mach) (a0 a1 : V) (σ : Objs) : fnK M c_Z2 [a0, a1] σ = s_Z2 M a0 a1 σ := by kernel_rfl
def c_Z4 : Ev.Fn := ⟨22, [.cell 2 true 3], false, false, (Yq 0 [Yk 2 (.alloc [Y0, Y0, .nils])] (Yq 1 [Yv 5 0, Yk 6 (.build [Y0, Y0, Yn, Yn, Y0, Yn, Yb, Y0, Y0, Y0, .nils] [(3, 1, (Ys [97]))]), Yc 7 99 [5, 6], Yv 8 0, Yk 9 (.build [Y0, Y0, Yn, Yn, Y0, Yn, Yb, Y0, Y0, Y0, .nils] [(3, 1, (Ys [97, 114, 101, 97]))]), Yc 10 99 [8, 9], Yk 11 (.buildSl true 3 2 (.agg [Y0, Y0, .nils]) [(0, 7), (1, 10)] false), Yc 12 147 [11], Yk 3 (.alloc [Y0, Y0, .nils]), Yw 3 3 12 false] (Yq 2 [Yv 13 0, Yc 14 100 [13, (Ys [104, 114, 101, 102]), (Yi 1), (Ys [])], Yk 4 (.alloc [Y0, Y0, .nils]), Yw 3 4 14 false] (.seq (.drw 3 [⟨Yl 15 true 3 3, 0, []⟩, ⟨Yl 17 true 3 4, 2, []⟩, ⟨Yc 16 104 [15], 1, [1]⟩, ⟨Yc 18 104 [17], 3, []⟩, ⟨Yk 19 (.buildSl true 3 2 (.agg [Y0, Y0, .nils]) [(0, 16), (1, 18)] false), 4, []⟩, ⟨Yc 20 147 [19], 5, []⟩, ⟨Yc 21 104 [20], 6, []⟩, ⟨Yw 3 2 21 false, 7, []⟩]) .ret))))⟩
theorem ok_c_Z4 : Qam Tryz.prog 106 c_Z4 = true := Qad Tryz.func106 (by kernel_rfl)
def s_Z4 (M : Mach) (a0 : V) (σ : Objs) : Ro :=
  let s0 : Objs := σ ++ [.cells [(.int .i64 0), (.int .i64 0), .nils]]
 bd (pu (Qa2 [(.int .i64 0), (.int .i64 0), (.str []), (.str []), (.int .i64 0), (.str []), (.bool false), (.int .i64 0), (.int .i64 0), (.int .i64 0), .nils] [(3, 1, (.str [97]))])) fun x1 =>
 bd (M.call 99 [a0.ng.ng, x1.ng] s0) fun p2 =>
 bd (pu (Qa2 [(.int .i64 0), (.int .i64 0), (.str []), (.str []), (.int .i64 0), (.str []), (.bool false), (.int .i64 0), (.int .i64 0), (.int .i64 0), .nils] [(3, 1, (.str [97, 114, 101, 97]))])) fun x3 =>
 bd (M.call 99 [a0.ng.ng, x3.ng] p2.2) fun p4 =>
 bd (Qax true 3 2 (.agg [(.int .i64 0), (.int .i64 0), .nils]) [(0, p2.1.ng), (1, p4.1.ng)]) fun x5 =>
 bd (M.call 147 [x5.ng] p4.2) fun p6 =>
  let s7 : Objs := p6.2 ++ [.cells [(.int .i64 0), (.int .i64 0), .nils]]
 bd (stV s7 3 (.ptr p6.2.length 0) p6.1.ng p6.1.ng) fun p8 =>
 bd (M.call 100 [a0.ng.ng, (.str [104, 114, 101, 102]), (.int .i64 1), (.str [])] p8.2) fun p9 =>
  let s10 : Objs := p9.2 ++ [.cells [(.int .i64 0), (.int .i64 0), .nils]]
 bd (stV s10 3 (.ptr p9.2.length 0) p9.1.ng p9.1.ng) fun p11 =>
 bd (pu (eL p11.2 true 3 (.ptr p6.2.length 0))) fun x12 =>
 bd (pu (eL p11.2 true 3 (.ptr p9.2.length 0))) fun x13 =>
 bd (Qj4 [Qe5 true 3 (.ptr p9.2.length 0)] p11.2) fun s14 =>
 bd (M.call 104 [x12.ng] s14) fun p16 =>
 bd (Qgx [Qe5 true 3 (.ptr p9.2.length 0)] p11.2 p16.2) fun s15 =>
 bd (M.call 104 [x13.ng] s15) fun p17 =>
 bd (Qax true 3 2 (.agg [(.int .i64 0), (.int .i64 0), .nils]) [(0, p16.1.ng), (1, p17.1.ng)]) fun x18 =>
 bd (M.call 147 [x18.ng] p17.2) fun p19 =>
 bd (M.call 104 [p19.1.ng] p19.2) fun p20 =>
 bd (stV p20.2 3 (.ptr σ.length 0) p20.1.ng p20.1.ng) fun p21 =>
 bd (resC p21.2 true 3 (.ptr σ.length 0)) fun x22 =>
 bd (oK false x22) (nK σ.length p21.2)
theorem k_Z4 (M : Mach) (a0 : V) (σ : Objs) : fnK M c_Z4 [a0] σ = s_Z4 M a0 σ := by kernel_rfl
def c_Z21 : Ev.Fn := ⟨33, [.tmp 2], false, false, (Yq 0 [Yv 2 (Yi 0)] (Yq 1 [Yk 6 (.buildSl false 1 5 Y0 [(0, (Yi 0)), (1, (Yi 0)), (2, (Yi 192)), (3, (Yi 224)), (4, (Yi 240))] false), Yu 3 6] (.seq (.drw 2 [⟨Yv 7 0, 0, []⟩, ⟨Ye 8 1 7 (Yi 0), 1, []⟩, ⟨Yl 9 false 1 8, 2, []⟩, ⟨Yk 10 (.conv (.toInt .i64) 9), 3, []⟩, ⟨Yu 11 3, 4, []⟩, ⟨Yv 12 0, 5, []⟩, ⟨Yh 13 12, 6, []⟩, ⟨Ye 14 1 11 13, 7, []⟩, ⟨Yl 15 false 1 14, 8, []⟩, ⟨Yo 16 .sub .no 10 15, 9, []⟩, ⟨Yv 4 16, 10, []⟩]) (.seq (Yq 3 [Yv 5 (Yi 1)] (.block 0 (.loop [0, 4, 5] [2, 4] (.seq (Yq 4 [Yv 17 5, Yv 18 0, Yh 19 18, Yo 20 .lss .no 17 19] (.cond 20 .skip (.exit 0))) (.seq (.block 1 (.ops 6 [Yv 23 4, Yo 24 .mul .no (Yi 64) 23, Yv 25 0, Yv 26 5, Ye 27 1 25 26, Yl 28 false 1 27, Yk 29 (.conv (.toInt .i64) 28), Yo 30 .add .no 24 29, Yo 31 .sub .no 30 (Yi 128), Yv 4 31])) (.ops 5 [Yv 21 5, Yo 22 .add .no 21 (Yi 1), Yv 5 22])))))) (Yq 7 [Yv 32 4, Yv 2 32] .ret)))))⟩
theorem ok_c_Z21 : Qam Tryz.prog 107 c_Z21 = true := Qad Tryz.func107 (by kernel_rfl)
def b_Z21_0 (M : Mach) (n0 : Nat) (n1 : Nat) (r1 : Rk) (z0 z4 z5 : V) (σ : Objs) : Ro :=
 bd (pu (Qaq z0.ng.ng)) fun x8 =>
 bd (pu (eB .lss .no z5.ng.ng x8.ng)) fun x9 =>
  br x9.ng (
 bd (pu (eB .mul .no (.int .i64 64) z4.ng.ng)) fun x10 =>
 bd (pu (eI 1 z5.ng.ng z0.ng.ng)) fun x11 =>
 bd (pu (eL σ false 1 x11.ng)) fun x12 =>
 bd (pu (eC σ (.toInt .i64) x12.ng)) fun x13 =>
 bd (pu (eB .add .no x10.ng x13.ng)) fun x14 =>
 bd (pu (eB .sub .no x14.ng (.int .i64 128))) fun x15 =>
 bd (pu (eB .add .no z5.ng.ng (.int .i64 1))) fun x16 =>
 bd (fz n1 σ fzD z0) fun y17 =>
 bd (fz n1 σ fzD x15.ng) fun y18 =>
 bd (fz n1 σ fzD x16.ng) fun y19 =>
 bd (cuO n1 σ) fun s20 => r1 [y17, y18, y19] s20) (
 bd (fz n1 σ fzD .any) fun y21 =>
 bd (fz n1 σ fzD z4) fun y22 =>
 bd (cuO n1 σ) fun s23 =>
 bd (oK false y22.ng.ng) (nK n0 s23))
def l_Z21_0 (M : Mach) (n0 : Nat) (n1 : Nat) : Rk := M.fx fun rec vs σ => b_Z21_0 M n0 n1 rec (vs.getD 0 .undef) (vs.getD 1 .undef) (vs.getD 2 .undef) σ
def s_Z21 (M : Mach) (a0 : V) (σ : Objs) : Ro :=
 bd (Qax false 1 5 (.int .i64 0) [(0, (.int .i64 0)), (1, (.int .i64 0)), (2, (.int .i64 192)), (3, (.int .i64 224)), (4, (.int .i64 240))]) fun x0 =>
 bd (pu (eI 1 (.int .i64 0) a0.ng.ng)) fun x1 =>
 bd (pu (eL σ false 1 x1.ng)) fun x2 =>
 bd (pu (eC σ (.toInt .i64) x2.ng)) fun x3 =>
 bd (pu (Qaq a0.ng.ng)) fun x4 =>
 bd (pu (eI 1 x4.ng x0.ng)) fun x5 =>
 bd (pu (eL σ false 1 x5.ng)) fun x6 =>
 bd (pu (eB .sub .no x3.ng x6.ng)) fun x7 =>
 bd (fz σ.length σ fzD a0) fun y24 =>
 bd (fz σ.length σ fzD x7.ng) fun y25 =>
 bd (fz σ.length σ fzD (.int .i64 1)) fun y26 =>
  l_Z21_0 M σ.length σ.length [y24, y25, y26] σ
theorem k_Z21 (M : Mach) (a0 : V) (σ : Objs) : fnK M c_Z21 [a0] σ = s_Z21 M a0 σ := by kernel_rfl
def c_Z1z : Ev.Fn := ⟨21, [.tmp 2], false, false, (Yq 0 [Yv 2 Yf] (.seq (Yq 1 [Yv 4 0, Yh 5 4, Yo 6 .add .no 5 (Yi 1), Yv 3 6] (.block 0 (.loop [0, 3] [2] (.seq (Yq 2 [Yv 7 3, Yo 8 .leq .no 7 (Yi 4)] (.cond 8 .skip (.exit 0))) (.seq (.block 1 (Yq 4 [Yv 11 0, Yv 12 3, Yc 13 148 [11, (.c (.int .u8 128)), 12], Yc 14 78 [13], Yv 15 14, ⟨some 16, (some (15, false)), .mv 0 false⟩, ⟨some 17, (some (15, false)), .mv 3 false⟩, ⟨some 18, (some (15, false)), .call 148 [16, (.c (.int .u8 191)), 17]⟩, ⟨some 19, (some (15, false)), .call 78 [18]⟩, Yk 20 (.pick 15 Yt 19)] (.cond 20 (Yq 5 [Yv 2 Yt] .ret) .skip))) (.ops 3 [Yv 9 3, Yo 10 .add .no 9 (Yi 1), Yv 3 10])))))) (Yq 6 [Yv 2 Yf] .ret)))⟩
theorem ok_c_Z1z : Qam Tryz.prog 108 c_Z1z = true := Qad Tryz.func108 (by kernel_rfl)
def b_Z1z_0 (M : Mach) (n0 : Nat) (n1 : Nat) (r1 : Rk) (z0 z3 : V) (σ : Objs) : Ro :=
 bd (pu (eB .leq .no z3.ng.ng (.int .i64 4))) fun x2 =>
  br x2.ng (
 bd (M.call 148 [z0.ng.ng, (.int .u8 128), z3.ng.ng] σ) fun p3 =>
 bd (M.call 78 [p3.1.ng] p3.2) fun p4 =>
 bd (gdv p4.1.ng false (some z0.ng)) fun x5 =>
 bd (gdv p4.1.ng false (some z3.ng)) fun x6 =>
 bd (gdp p4.1.ng false (M.call 148 [x5.ng, (.int .u8 191), x6.ng] p4.2) p4.2) fun p7 =>
 bd (gdp p4.1.ng false (M.call 78 [p7.1.ng] p7.2) p7.2) fun p8 =>
 bd (pu (pV p4.1.ng.ng (.bool true) p8.1.ng)) fun x9 =>
  br x9.ng (
 bd (fz n1 p8.2 fzD (.bool true)) fun y10 =>
 bd (cuO n1 p8.2) fun s11 =>
 bd (oK false y10) (nK n0 s11)) (
 bd (pu (eB .add .no z3.ng.ng (.int .i64 1))) fun x12 =>
 bd (fz n1 p8.2 fzD z0) fun y13 =>
 bd (fz n1 p8.2 fzD x12.ng) fun y14 =>
 bd (cuO n1 p8.2) fun s15 => r1 [y13, y14] s15)) (
 bd (fz n1 σ fzD .any) fun y16 =>
 bd (cuO n1 σ) fun s17 =>
 bd (oK false (.bool false)) (nK n0 s17))
def l_Z1z_0 (M : Mach) (n0 : Nat) (n1 : Nat) : Rk := M.fx fun rec vs σ => b_Z1z_0 M n0 n1 rec (vs.getD 0 .undef) (vs.getD 1 .undef) σ
def s_Z1z (M : Mach) (a0 : V) (σ : Objs) : Ro :=
 bd (pu (Qaq a0.ng.ng)) fun x0 =>
 bd (pu (eB .add .no x0.ng (.int .i64 1))) fun x1 =>
 bd (fz σ.length σ fzD a0) fun y18 =>
 bd (fz σ.length σ fzD x1.ng) fun y19 =>
  l_Z1z_0 M σ.length σ.length [y18, y19] σ
theorem k_Z1z (M : Mach) (a0 : V) (σ : Objs) : fnK M c_Z1z [a0] σ = s_Z1z M a0 σ := by kernel_rfl
def c_Z1w : Ev.Fn := ⟨54, [.tmp 2], false, false, (Yq 0 [Yv 2 (.c .nils)] (.seq (Yq 1 [Yv 3 0, Yo 4 .lss .no 3 (Yi 128)] (.cond 4 (Yq 2 [Yv 5 0, Yk 6 (.conv (.toInt .u8) 5), Yk 7 (.buildSl false 1 1 (.int .u8 0) [(0, 6)] false), Yu 2 7] .ret) .skip)) (.seq (Yq 3 [Yv 8 0, Yo 9 .lss .no 8 (Yi 2048)] (.cond 9 (Yq 4 [Yv 10 0, Yo 11 .quo .no 10 (Yi 64), Yo 12 .add .no (Yi 192) 11, Yk 13 (.conv (.toInt .u8) 12), Yv 14 0, Yo 15 .rem .no 14 (Yi 64), Yo 16 .add .no (Yi 128) 15, Yk 17 (.conv (.toInt .u8) 16), Yk 18 (.buildSl false 1 2 (.int .u8 0) [(0, 13), (1, 17)] false), Yu 2 18] .ret) .skip)) (.seq (Yq 5 [Yv 19 0, Yo 20 .lss .no 19 (Yi 65536)] (.cond 20 (Yq 6 [Yv 21 0, Yo 22 .quo .no 21 (Yi 4096), Yo 23 .add .no (Yi 224) 22, Yk 24 (.conv (.toInt .u8) 23), Yv 25 0, Yo 26 .quo .no 25 (Yi 64), Yo 27 .rem .no 26 (Yi 64), Yo 28 .add .no (Yi 128) 27, Yk 29 (.conv (.toInt .u8) 28), Yv 30 0, Yo 31 .rem .no 30 (Yi 64), Yo 32 .add .no (Yi 128) 31, Yk 33 (.conv (.toInt .u8) 32), Yk 34 (.buildSl false 1 3 (.int .u8 0) [(0, 24), (1, 29), (2, 33)] false), Yu 2 34] .ret) .skip)) (Yq 7 [Yv 35 0, Yo 36 .quo .no 35 (Yi 262144), Yo 37 .add .no (Yi 240) 36, Yk 38 (.conv (.toInt .u8) 37), Yv 39 0, Yo 40 .quo .no 39 (Yi 4096), Yo 41 .rem .no 40 (Yi 64), Yo 42 .add .no (Yi 128) 41, Yk 43 (.conv (.toInt .u8) 42), Yv 44 0, Yo 45 .quo .no 44 (Yi 64), Yo 46 .rem .no 45 (Yi 64), Yo 47 .add .no (Yi 128) 46, Yk 48 (.conv (.toInt .u8) 47), Yv 49 0, Yo 50 .rem .no 49 (Yi 64), Yo 51 .add .no (Yi 128) 50, Yk 52 (.conv (.toInt .u8) 51), Yk 53 (.buildSl false 1 4 (.int .u8 0) [(0, 38), (1, 43), (2, 48), (3, 52)] false), Yu 2 53] .ret)))))⟩
theorem ok_c_Z1w : Qam Tryz.prog 109 c_Z1w = true := Qad Tryz.func109 (by kernel_rfl)
def s_Z1w (M : Mach) (a0 : V) (σ : Objs) : Ro :=
 bd (pu (eB .lss .no a0.ng.ng (.int .i64 128))) fun x0 =>
  br x0.ng (
 bd (pu (eC σ (.toInt .u8) a0.ng.ng)) fun x1 =>
 bd (Qax false 1 1 (.int .u8 0) [(0, x1.ng)]) fun x2 =>
 bd (oK false x2) (nK σ.length σ)) (
 bd (pu (eB .lss .no a0.ng.ng (.int .i64 2048))) fun x3 =>
  br x3.ng (
 bd (pu (eB .quo .no a0.ng.ng (.int .i64 64))) fun x4 =>
 bd (pu (eB .add .no (.int .i64 192) x4.ng)) fun x5 =>
 bd (pu (eC σ (.toInt .u8) x5.ng)) fun x6 =>
 bd (pu (eB .rem .no a0.ng.ng (.int .i64 64))) fun x7 =>
 bd (pu (eB .add .no (.int .i64 128) x7.ng)) fun x8 =>
 bd (pu (eC σ (.toInt .u8) x8.ng)) fun x9 =>
 bd (Qax false 1 2 (.int .u8 0) [(0, x6.ng), (1, x9.ng)]) fun x10 =>
 bd (oK false x10) (nK σ.length σ)) (
 bd (pu (eB .lss .no a0.ng.ng (.int .i64 65536))) fun x11 =>
  br x11.ng (
 bd (pu (eB .quo .no a0.ng.ng (.int .i64 4096))) fun x12 =>
 bd (pu (eB .add .no (.int .i64 224) x12.ng)) fun x13 =>
 bd (pu (eC σ (.toInt .u8) x13.ng)) fun x14 =>
 bd (pu (eB .quo .no a0.ng.ng (.int .i64 64))) fun x15 =>
 bd (pu (eB .rem .no x15.ng (.int .i64 64))) fun x16 =>
 bd (pu (eB .add .no (.int .i64 128) x16.ng)) fun x17 =>
 bd (pu (eC σ (.toInt .u8) x17.ng)) fun x18 =>
 bd (pu (eB .rem .no a0.ng.ng (.int .i64 64))) fun x19 =>
 bd (pu (eB .add .no (.int .i64 128) x19.ng)) fun x20 =>
 bd (pu (eC σ (.toInt .u8) x20.ng)) fun x21 =>
 bd (Qax false 1 3 (.int .u8 0) [(0, x14.ng), (1, x18.ng), (2, x21.ng)]) fun x22 =>
 bd (oK false x22) (nK σ.length σ)) (
 bd (pu (eB .quo .no a0.ng.ng (.int .i64 262144))) fun x23 =>
 bd (pu (eB .add .no (.int .i64 240) x23.ng)) fun x24 =>
 bd (pu (eC σ (.toInt .u8) x24.ng)) fun x25 =>
 bd (pu (eB .quo .no a0.ng.ng (.int .i64 4096))) fun x26 =>
 bd (pu (eB .rem .no x26.ng (.int .i64 64))) fun x27 =>
 bd (pu (eB .add .no (.int .i64 128) x27.ng)) fun x28 =>
 bd (pu (eC σ (.toInt .u8) x28.ng)) fun x29 =>
 bd (pu (eB .quo .no a0.ng.ng (.int .i64 64))) fun x30 =>
 bd (pu (eB .rem .no x30.ng (.int .i64 64))) fun x31 =>
 bd (pu (eB .add .no (.int .i64 128) x31.ng)) fun x32 =>
 bd (pu (eC σ (.toInt .u8) x32.ng)) fun x33 =>
 bd (pu (eB .rem .no a0.ng.ng (.int .i64 64))) fun x34 =>
 bd (pu (eB .add .no (.int .i64 128) x34.ng)) fun x35 =>
 bd (pu (eC σ (.toInt .u8) x35.ng)) fun x36 =>
 bd (Qax false 1 4 (.int .u8 0) [(0, x25.ng), (1, x29.ng), (2, x33.ng), (3, x36.ng)]) fun x37 =>
 bd (oK false x37) (nK σ.length σ))))
theorem k_Z1w (M : Mach) (a0 : V) (σ : Objs) : fnK M c_Z1w [a0] σ = s_Z1w M a0 σ := by kernel_rfl
def c_Z2e : Ev.Fn := ⟨43, [.tmp 4], false, false, (Yq 0 [Yv 4 (Yi 0)] (.seq (.block 0 (.loop [0, 1] [1, 4] (.seq (Yq 1 [Yv 5 0, Yv 6 1, Yc 7 124 [5, 6, (Yi 47)], Yv 8 7, ⟨some 9, (some (8, true)), .mv 0 false⟩, ⟨some 10, (some (8, true)), .mv 1 false⟩, ⟨some 11, (some (8, true)), .bin .add .no 10 (Yi 1)⟩, ⟨some 12, (some (8, true)), .call 124 [9, 11, (Yi 42)]⟩, Yk 13 (.pick 8 12 Yf)] (.cond 13 .skip (.exit 0))) (.block 1 (Yq 2 [Yv 14 1, Yo 15 .add .no 14 (Yi 2), Yv 1 15] (.seq (.block 2 (.loop [0, 1] [0, 1, 4] (.seq (Yq 3 [Yv 16 1, Yv 17 0, Yh 18 17, Yo 19 .lss .no 16 18, Yv 20 19, ⟨some 21, (some (20, true)), .mv 0 false⟩, ⟨some 22, (some (20, true)), .mv 1 false⟩, ⟨some 23, (some (20, true)), .call 124 [21, 22, (Yi 42)]⟩, ⟨some 24, (some (20, true)), .mv 23 false⟩, ⟨some 25, (some (24, true)), .mv 0 false⟩, ⟨some 26, (some (24, true)), .mv 1 false⟩, ⟨some 27, (some (24, true)), .bin .add .no 26 (Yi 1)⟩, ⟨some 28, (some (24, true)), .call 124 [25, 27, (Yi 47)]⟩, ⟨some 29, (some (20, true)), .pick 24 28 Yf⟩, ⟨some 30, (some (20, true)), .un .not 29⟩, Yk 31 (.pick 20 30 Yf)] (.cond 31 .skip (.exit 2))) (.block 3 (.ops 4 [Yv 32 1, Yo 33 .add .no 32 (Yi 1), Yv 1 33]))))) (Yq 5 [Yv 34 1, Yo 35 .add .no 34 (Yi 2), Yv 1 35] (Yq 6 [Yv 36 1, Yv 37 0, Yh 38 37, Yo 39 .gtr .no 36 38] (.cond 39 (.ops 7 [Yv 40 0, Yh 41 40, Yv 1 41]) .skip))))))))) (Yq 8 [Yv 42 1, Yv 4 42] .ret)))⟩
theorem ok_c_Z2e : Qam Tryz.prog 118 c_Z2e = true := Qad Tryz.func118 (by kernel_rfl)
def j_Z2e_0 (M : Mach) (n0 : Nat) (n1 : Nat) (r1 : Rk) (z0 z1 : V) (σ : Objs) : Ro :=
 bd (fz n1 σ fzD z0) fun y0 =>
 bd (fz n1 σ fzD z1) fun y1 =>
 bd (cuO n1 σ) fun s2 => r1 [y0, y1] s2
def b_Z2e_1 (M : Mach) (n0 : Nat) (n1 : Nat) (r1 : Rk) (n2 : Nat) (r2 : Rk) (z0 z1 : V) (σ : Objs) : Ro :=
 bd (pu (Qaq z0.ng.ng)) fun x10 =>
 bd (pu (eB .lss .no z1.ng.ng x10.ng)) fun x11 =>
 bd (gdv x11.ng true (some z0.ng)) fun x12 =>
 bd (gdv x11.ng true (some z1.ng)) fun x13 =>
 bd (gdp x11.ng true (M.call 124 [x12.ng, x13.ng, (.int .i64 42)] σ) σ) fun p14 =>
 bd (gdv x11.ng true (some p14.1.ng)) fun x15 =>
 bd (gdv x15 true (some z0.ng)) fun x16 =>
 bd (gdv x15 true (some z1.ng)) fun x17 =>
 bd (gdv x15 true (pu (eB .add .no x17.ng (.int .i64 1)))) fun x18 =>
 bd (gdp x15 true (M.call 124 [x16.ng, x18.ng, (.int .i64 47)] p14.2) p14.2) fun p19 =>
 bd (gdv x11.ng true (pu (pV x15.ng p19.1.ng (.bool false)))) fun x20 =>
 bd (gdv x11.ng true (pu (evUn .not x20.ng))) fun x21 =>
 bd (pu (pV x11.ng.ng x21.ng (.bool false))) fun x22 =>
  br x22.ng (
 bd (pu (eB .add .no z1.ng.ng (.int .i64 1))) fun x23 =>
 bd (fz n2 p19.2 fzD z0) fun y24 =>
 bd (fz n2 p19.2 fzD x23.ng) fun y25 =>
 bd (cuO n2 p19.2) fun s26 => r2 [y24, y25] s26) (
 bd (fz n2 p19.2 fzD z0) fun y27 =>
 bd (fz n2 p19.2 fzD z1) fun y28 =>
 bd (fz n2 p19.2 fzD .any) fun y29 =>
 bd (cuO n2 p19.2) fun s30 =>
 bd (pu (eB .add .no y28.ng.ng (.int .i64 2))) fun x31 =>
 bd (pu (Qaq y27.ng.ng)) fun x32 =>
 bd (pu (eB .gtr .no x31.ng.ng.ng x32.ng)) fun x33 =>
  br x33.ng (
 bd (pu (Qaq y27.ng.ng)) fun x34 =>
  j_Z2e_0 M n0 n1 r1 y27 x34.ng s30) (
  j_Z2e_0 M n0 n1 r1 y27 x31.ng s30))
def l_Z2e_1 (M : Mach) (n0 : Nat) (n1 : Nat) (r1 : Rk) (n2 : Nat) : Rk := M.fx fun rec vs σ => b_Z2e_1 M n0 n1 r1 n2 rec (vs.getD 0 .undef) (vs.getD 1 .undef) σ
def b_Z2e_0 (M : Mach) (n0 : Nat) (n1 : Nat) (r1 : Rk) (z0 z1 : V) (σ : Objs) : Ro :=
 bd (M.call 124 [z0.ng.ng, z1.ng.ng, (.int .i64 47)] σ) fun p3 =>
 bd (gdv p3.1.ng true (some z0.ng)) fun x4 =>
 bd (gdv p3.1.ng true (some z1.ng)) fun x5 =>
 bd (gdv p3.1.ng true (pu (eB .add .no x5.ng (.int .i64 1)))) fun x6 =>
 bd (gdp p3.1.ng true (M.call 124 [x4.ng, x6.ng, (.int .i64 42)] p3.2) p3.2) fun p7 =>
 bd (pu (pV p3.1.ng.ng p7.1.ng (.bool false))) fun x8 =>
  br x8.ng (
 bd (pu (eB .add .no z1.ng.ng (.int .i64 2))) fun x9 =>
 bd (fz p7.2.length p7.2 fzD z0) fun y35 =>
 bd (fz p7.2.length p7.2 fzD x9.ng) fun y36 =>
  l_Z2e_1 M n0 n1 r1 p7.2.length [y35, y36] p7.2) (
 bd (fz n1 p7.2 fzD z1) fun y37 =>
 bd (fz n1 p7.2 fzD .any) fun y38 =>
 bd (cuO n1 p7.2) fun s39 =>
 bd (oK false y37.ng.ng) (nK n0 s39))
def l_Z2e_0 (M : Mach) (n0 : Nat) (n1 : Nat) : Rk := M.fx fun rec vs σ => b_Z2e_0 M n0 n1 rec (vs.getD 0 .undef) (vs.getD 1 .undef) σ
def s_Z2e (M : Mach) (a0 a1 : V) (σ : Objs) : Ro :=
 bd (fz σ.length σ fzD a0) fun y40 =>
 bd (fz σ.length σ fzD a1) fun y41 =>
  l_Z2e_0 M σ.length σ.length [y40, y41] σ
theorem k_Z2e (M : Mach) (a0 a1 : V) (σ : Objs) : fnK M c_Z2e [a0, a1] σ = s_Z2e M a0 a1 σ := by kernel_rfl
def c_Z27 : Ev.Fn := ⟨13, [.tmp 2], false, false, (Yq 0 [Yv 2 Yf] (Yq 1 [Yv 3 0, Yo 4 .eql .no 3 (Yi 32), Yv 5 4, ⟨some 6, (some (5, false)), .mv 0 false⟩, ⟨some 7, (some (5, false)), .bin .eql .no 6 (Yi 9)⟩, Yk 8 (.pick 5 Yt 7), Yv 9 8, ⟨some 10, (some (9, false)), .mv 0 false⟩, ⟨some 11, (some (9, false)), .bin .eql .no 10 (Yi 10)⟩, Yk 12 (.pick 9 Yt 11), Yv 2 12] .ret))⟩
theorem ok_c_Z27 : Qam Tryz.prog 119 c_Z27 = true := Qad Tryz.func119 (by kernel_rfl)
def s_Z27 (M : Mach) (a0 : V) (σ : Objs) : Ro :=
 bd (pu (eB .eql .no a0.ng.ng (.int .i64 32))) fun x0 =>
 bd (gdv x0.ng false (some a0.ng)) fun x1 =>
 bd (gdv x0.ng false (pu (eB .eql .no x1.ng (.int .i64 9)))) fun x2 =>
 bd (pu (pV x0.ng.ng (.bool true) x2.ng)) fun x3 =>
 bd (gdv x3.ng false (some a0.ng)) fun x4 =>
 bd (gdv x3.ng false (pu (eB .eql .no x4.ng (.int .i64 10)))) fun x5 =>
 bd (pu (pV x3.ng.ng (.bool true) x5.ng)) fun x6 =>
 bd (oK false x6.ng) (nK σ.length σ)
theorem k_Z27 (M : Mach) (a0 : V) (σ : Objs) : fnK M c_Z27 [a0] σ = s_Z27 M a0 σ := by kernel_rfl
def c_Z2l : Ev.Fn := ⟨16, [.tmp 4], false, false, (Yq 0 [Yv 4 Yf] (Yq 1 [Yv 5 1, Yv 6 0, Yh 7 6, Yo 8 .lss .no 5 7, Yv 9 8, ⟨some 10, (some (9, true)), .mv 0 true⟩, ⟨some 11, (some (9, true)), .mv 1 false⟩, ⟨some 12, (some (9, true)), .iaddr 1 10 11⟩, ⟨some 13, (some (9, true)), .load false 1 12⟩, ⟨some 14, (some (9, true)), .call 119 [13]⟩, Yk 15 (.pick 9 14 Yf), Yv 4 15] .ret))⟩
theorem ok_c_Z2l : Qam Tryz.prog 120 c_Z2l = true := Qad Tryz.func120 (by kernel_rfl)
def c_Z2k : Ev.Fn := ⟨29, [.tmp 4], false, false, (Yq 0 [Yv 4 Yf] (.seq (Yq 1 [Yv 5 0, Yv 6 1, Yc 7 124 [5, 6, (Yi 43)], Yv 8 7, ⟨some 9, (some (8, false)), .mv 0 false⟩, ⟨some 10, (some (8, false)), .mv 1 false⟩, ⟨some 11, (some (8, false)), .call 124 [9, 10, (Yi 45)]⟩, Yk 12 (.pick 8 Yt 11)] (.cond 12 (.ops 2 [Yv 13 1, Yo 14 .add .no 13 (Yi 1), Yv 1 14]) .skip)) (Yq 3 [Yv 15 0, Yv 16 1, Yc 17 155 [15, 16], Yv 18 17, ⟨some 19, (some (18, false)), .mv 0 false⟩, ⟨some 20, (some (18, false)), .mv 1 false⟩, ⟨some 21, (some (18, false)), .call 124 [19, 20, (Yi 46)]⟩, ⟨some 22, (some (18, false)), .mv 21 false⟩, ⟨some 23, (some (22, true)), .mv 0 true⟩, ⟨some 24, (some (22, true)), .mv 1 false⟩, ⟨some 25, (some (22, true)), .bin .add .no 24 (Yi 1)⟩, ⟨some 26, (some (22, true)), .call 155 [23, 25]⟩, ⟨some 27, (some (18, false)), .pick 22 26 Yf⟩, Yk 28 (.pick 18 Yt 27), Yv 4 28] .ret)))⟩
theorem ok_c_Z2k : Qam Tryz.prog 122 c_Z2k = true := Qad Tryz.func122 (by kernel_rfl)
def c_Z2i : Ev.Fn := ⟨19, [.tmp 6], false, false, (Yq 0 [Yv 6 Yf] (Yq 1 [Yv 7 1, Yv 8 0, Yh 9 8, Yo 10 .lss .no 7 9, Yv 11 10, ⟨some 12, (some (11, true)), .mv 0 true⟩, ⟨some 13, (some (11, true)), .mv 1 false⟩, ⟨some 14, (some (11, true)), .iaddr 1 12 13⟩, ⟨some 15, (some (11, true)), .load false 1 14⟩, ⟨some 16, (some (11, true)), .mv 2 false⟩, ⟨some 17, (some (11, true)), .bin .eql .no 15 16⟩, Yk 18 (.pick 11 17 Yf), Yv 6 18] .ret))⟩
theorem ok_c_Z2i : Qam Tryz.prog 124 c_Z2i = true := Qad Tryz.func124 (by kernel_rfl)
def s_Z2i (M : Mach) (a0 a1 a2 : V) (σ : Objs) : Ro :=
 bd (pu (Qaq a0.ng.ng)) fun x0 =>
 bd (pu (eB .lss .no a1.ng.ng x0.ng)) fun x1 =>
  gd x1.ng true (
 bd (gdv x1.ng true (some a1.ng)) fun x2 =>
 bd (gdv x1.ng true (pu (eI 1 x2.ng a0.ng))) fun x3 =>
 bd (gdv x1.ng true (pu (eL σ false 1 x3.ng))) fun x4 =>
 bd (gdv x1.ng true (some a2.ng)) fun x5 =>
 bd (gdv x1.ng true (pu (eB .eql .no x4.ng x5.ng))) fun x6 =>
 bd (pu (pV x1.ng.ng x6.ng (.bool false))) fun x7 =>
 bd (oK false x7.ng) (nK σ.length σ)) (
 bd (gdv x1.ng true (some a1.ng)) fun x8 =>
 bd (gdv x1.ng true (pu (eI 1 x8.ng .undef))) fun x9 =>
 bd (gdv x1.ng true (pu (eL σ false 1 x9.ng))) fun x10 =>
 bd (gdv x1.ng true (some a2.ng)) fun x11 =>
 bd (gdv x1.ng true (pu (eB .eql .no x10.ng x11.ng))) fun x12 =>
 bd (pu (pV x1.ng.ng x12.ng (.bool false))) fun x13 =>
 bd (oK false x13.ng) (nK σ.length σ))
theorem k_Z2i (M : Mach) (a0 a1 a2 : V) (σ : Objs) : fnK M c_Z2i [a0, a1, a2] σ = s_Z2i M a0 a1 a2 σ := by kernel_rfl
def c_Z2b : Ev.Fn := ⟨32, [.tmp 4], false, false, (Yq 0 [Yv 4 Yf] (.seq (Yq 1 [Yv 5 0, Yv 6 1, Yc 7 124 [5, 6, (Yi 45)]] (.cond 7 (Yq 2 [Yv 8 0, Yv 9 1, Yo 10 .add .no 9 (Yi 1), Yc 11 124 [8, 10, (Yi 45)], Yv 12 11, ⟨some 13, (some (12, false)), .mv 0 false⟩, ⟨some 14, (some (12, false)), .mv 1 false⟩, ⟨some 15, (some (12, false)), .bin .add .no 14 (Yi 1)⟩, ⟨some 16, (some (12, false)), .call 157 [13, 15]⟩, Yk 17 (.pick 12 Yt 16), Yv 18 17, ⟨some 19, (some (18, false)), .mv 0 true⟩, ⟨some 20, (some (18, false)), .mv 1 false⟩, ⟨some 21, (some (18, false)), .bin .add .no 20 (Yi 1)⟩, ⟨some 22, (some (18, false)), .call 129 [19, 21]⟩, Yk 23 (.pick 18 Yt 22), Yv 4 23] .ret) .skip)) (Yq 3 [Yv 24 0, Yv 25 1, Yc 26 157 [24, 25], Yv 27 26, ⟨some 28, (some (27, false)), .mv 0 true⟩, ⟨some 29, (some (27, false)), .mv 1 false⟩, ⟨some 30, (some (27, false)), .call 129 [28, 29]⟩, Yk 31 (.pick 27 Yt 30), Yv 4 31] .ret)))⟩
theorem ok_c_Z2b : Qam Tryz.prog 125 c_Z2b = true := Qad Tryz.func125 (by kernel_rfl)
def c_Z2f : Ev.Fn := ⟨53, [.cell 4 true 6], false, false, (Yq 0 [Yk 4 (.alloc [Y0, Y0, Y0, Yn, Yn, Yb])] (Yq 1 [Yv 9 0, Yv 10 1, Yc 11 127 [9, 10], Yv 8 11, Yx 12 8 0, Yx 13 8 1, Yv 5 12, Yv 6 13] (.seq (Yq 2 [Yv 14 0, Yv 15 6, Yc 16 124 [14, 15, (Yi 40)], Yk 17 (.un .not 16)] (.cond 17 (Yq 3 [Yv 18 1, Yv 19 6, Yv 20 5, Yk 21 (.build [Y0, Y0, Y0, Yn, Yn, Yb] [(0, 1, (Yi 1)), (1, 1, 18), (2, 1, 19), (3, 1, 20)]), Yw 6 4 21 false] .ret) .skip)) (Yq 4 [Yv 22 6, Yo 23 .add .no 22 (Yi 1), Yv 7 23] (.seq (.block 0 (.loop [0, 1, 4, 5, 6, 7] [0, 1, 4, 5, 6, 7] (.seq (Yq 5 [Yv 24 0, Yv 25 7, Yc 26 120 [24, 25]] (.cond 26 .skip (.exit 0))) (.block 1 (.ops 6 [Yv 27 7, Yo 28 .add .no 27 (Yi 1), Yv 7 28]))))) (.seq (Yq 7 [Yv 29 5, Yc 30 158 [29], Yo 31 .eql .no 30 (Ys [117, 114, 108]), Yv 32 31, ⟨some 33, (some (32, true)), .mv 0 false⟩, ⟨some 34, (some (32, true)), .mv 7 false⟩, ⟨some 35, (some (32, true)), .call 124 [33, 34, (Yi 34)]⟩, ⟨some 36, (some (32, true)), .un .not 35⟩, Yk 37 (.pick 32 36 Yf), Yv 38 37, ⟨some 39, (some (38, true)), .mv 0 false⟩, ⟨some 40, (some (38, true)), .mv 7 false⟩, ⟨some 41, (some (38, true)), .call 124 [39, 40, (Yi 39)]⟩, ⟨some 42, (some (38, true)), .un .not 41⟩, Yk 43 (.pick 38 42 Yf)] (.cond 43 (Yq 8 [Yu 44 0, Yv 45 1, Yv 46 7, Yc 47 159 [44, 45, 46], Yw 6 4 47 false] .ret) .skip)) (Yq 9 [Yv 48 1, Yv 49 6, Yo 50 .add .no 49 (Yi 1), Yv 51 5, Yk 52 (.build [Y0, Y0, Y0, Yn, Yn, Yb] [(0, 1, (Yi 2)), (1, 1, 48), (2, 1, 50), (3, 1, 51)]), Yw 6 4 52 false] .ret)))))))⟩
theorem ok_c_Z2f : Qam Tryz.prog 126 c_Z2f = true := Qad Tryz.func126 (by kernel_rfl)
def c_Z2j : Ev.Fn := ⟨39, [.tmp 4, .tmp 5], false, false, (Yq 0 [Yv 4 (Ys []), Yv 5 (Yi 0)] (Yq 1 [Yk 9 (.buildSl false 1 0 .any [] false), Yu 6 9] (.block 0 (.loop [0, 1, 6] [4, 5] (.block 1 (Yq 2 [Yv 10 0, Yv 11 1, Yc 12 128 [10, 11]] (.cond 12 (Yq 3 [Yu 13 6, Yv 14 0, Yv 15 1, Ye 16 1 14 15, Yl 17 false 1 16, Yk 18 (.buildSl false 1 1 Y0 [(0, 17)] false), Yk 19 (.app false false 1 8 13 18 true), Yu 6 19] (.ops 4 [Yv 20 1, Yo 21 .add .no 20 (Yi 1), Yv 1 21])) (Yq 5 [Yv 22 0, Yv 23 1, Yc 24 129 [22, 23]] (.cond 24 (Yq 6 [Yv 26 0, Yv 27 1, Yc 28 154 [26, 27], Yv 25 28, Yx 29 25 0, Yx 30 25 1, Yv 7 29, Yv 8 30] (Yq 7 [Yu 31 6, Yv 32 7, Yk 33 (.buildSl false 1 1 Y0 [(0, 32)] false), Yk 34 (.app false false 1 8 31 33 true), Yu 6 34] (.ops 8 [Yv 35 8, Yv 1 35]))) (Yq 9 [Yu 36 6, Yc 37 130 [36], Yv 38 1, Yv 4 37, Yv 5 38] .ret))))))))))⟩
theorem ok_c_Z2j : Qam Tryz.prog 127 c_Z2j = true := Qad Tryz.func127 (by kernel_rfl)
def c_Z2h : Ev.Fn := ⟨16, [.tmp 4], false, false, (Yq 0 [Yv 4 Yf] (Yq 1 [Yv 5 1, Yv 6 0, Yh 7 6, Yo 8 .lss .no 5 7, Yv 9 8, ⟨some 10, (some (9, true)), .mv 0 true⟩, ⟨some 11, (some (9, true)), .mv 1 false⟩, ⟨some 12, (some (9, true)), .iaddr 1 10 11⟩, ⟨some 13, (some (9, true)), .load false 1 12⟩, ⟨some 14, (some (9, true)), .call 160 [13]⟩, Yk 15 (.pick 9 14 Yf), Yv 4 15] .ret))⟩
theorem ok_c_Z2h : Qam Tryz.prog 128 c_Z2h = true := Qad Tryz.func128 (by kernel_rfl)
def s_Z2h (M : Mach) (a0 a1 : V) (σ : Objs) : Ro :=
 bd (pu (Qaq a0.ng.ng)) fun x0 =>
 bd (pu (eB .lss .no a1.ng.ng x0.ng)) fun x1 =>
  gd x1.ng true (
 bd (gdv x1.ng true (some a1.ng)) fun x2 =>
 bd (gdv x1.ng true (pu (eI 1 x2.ng a0.ng))) fun x3 =>
 bd (gdv x1.ng true (pu (eL σ false 1 x3.ng))) fun x4 =>
 bd (gdp x1.ng true (M.call 160 [x4.ng] σ) σ) fun p5 =>
 bd (pu (pV x1.ng.ng p5.1.ng (.bool false))) fun x6 =>
 bd (oK false x6.ng) (nK σ.length p5.2)) (
 bd (gdv x1.ng true (some a1.ng)) fun x7 =>
 bd (gdv x1.ng true (pu (eI 1 x7.ng .undef))) fun x8 =>
 bd (gdv x1.ng true (pu (eL σ false 1 x8.ng))) fun x9 =>
 bd (gdp x1.ng true (M.call 160 [x9.ng] σ) σ) fun p10 =>
 bd (pu (pV x1.ng.ng p10.1.ng (.bool false))) fun x11 =>
 bd (oK false x11.ng) (nK σ.length p10.2))
theorem k_Z2h (M : Mach) (a0 a1 : V) (σ : Objs) : fnK M c_Z2h [a0, a1] σ = s_Z2h M a0 a1 σ := by kernel_rfl
def c_Z2a : Ev.Fn := ⟨15, [.tmp 4], false, false, (Yq 0 [Yv 4 Yf] (Yq 1 [Yv 5 0, Yv 6 1, Yc 7 124 [5, 6, (Yi 92)], Yv 8 7, ⟨some 9, (some (8, true)), .mv 0 true⟩, ⟨some 10, (some (8, true)), .mv 1 false⟩, ⟨some 11, (some (8, true)), .bin .add .no 10 (Yi 1)⟩, ⟨some 12, (some (8, true)), .call 124 [9, 11, (Yi 10)]⟩, ⟨some 13, (some (8, true)), .un .not 12⟩, Yk 14 (.pick 8 13 Yf), Yv 4 14] .ret))⟩
theorem ok_c_Z2a : Qam Tryz.prog 129 c_Z2a = true := Qad Tryz.func129 (by kernel_rfl)
def c_Z2n : Ev.Fn := ⟨30, [.tmp 2], false, false, (Yq 0 [Yv 2 (Ys [])] (Yq 1 [Yk 5 (.buildSl false 1 0 .any [] false), Yu 3 5] (.seq (Yq 2 [Yv 4 (Yi 0)] (.block 0 (.loop [0, 3, 4] [2, 3] (.seq (Yq 3 [Yv 6 4, Yv 7 0, Yh 8 7, Yo 9 .lss .no 6 8] (.cond 9 .skip (.exit 0))) (.seq (.block 1 (Yq 5 [Yv 12 0, Yv 13 4, Ye 14 1 12 13, Yl 15 false 1 14, Yo 16 .eql .no 15 (Yi 0)] (.cond 16 (.ops 6 [Yu 17 3, Yk 18 (.buildSl false 1 1 Y0 [(0, (Yi 65533))] false), Yk 19 (.app false false 1 8 17 18 true), Yu 3 19]) (.ops 7 [Yu 20 3, Yv 21 0, Yv 22 4, Ye 23 1 21 22, Yl 24 false 1 23, Yk 25 (.buildSl false 1 1 Y0 [(0, 24)] false), Yk 26 (.app false false 1 8 20 25 true), Yu 3 26])))) (.ops 4 [Yv 10 4, Yo 11 .add .no 10 (Yi 1), Yv 4 11])))))) (Yq 8 [Yu 27 3, Yc 28 161 [27], Yk 29 (.conv .bytesStr 28), Yv 2 29] .ret))))⟩
theorem ok_c_Z2n : Qam Tryz.prog 130 c_Z2n = true := Qad Tryz.func130 (by kernel_rfl)
def c_Zf : Ev.Fn := ⟨81, [.tmp 8, .tmp 9, .tmp 10], false, false, (Yq 0 [Yv 8 (.c .nils), Yv 9 (Yi 0), Yv 10 Yf] (Yq 1 [Yk 16 (.buildSl true 11 0 (.agg []) [] false), Yu 11 16] (Yq 2 [Yv 18 0, Yv 19 1, Yc 20 150 [18, 19, Yf], Yv 17 20, Yx 21 17 0, Yx 22 17 1, Yk 12 (.alloc [Y0, Y0, Yn, Yn, Y0, Yn, Yb, Y0, Y0, Y0, .nils]), Yw 11 12 21 false, Yv 13 22] (.seq (Yq 3 [Yv 23 0, Yv 24 13, Yc 25 151 [23, 24]] (.cond 25 (Yq 4 [Ya 26 0 12, Yw 1 26 (Yi 1) false] (.ops 5 [Yv 27 0, Yv 28 13, Yc 29 92 [27, 28], Yg 30 false 3 1 29, Ya 31 3 12, Yw 1 31 30 false])) (Yq 6 [Yv 32 0, Yv 33 13, Yc 34 152 [32, 33, (Ys [42])]] (.cond 34 (.ops 7 [Ya 35 0 12, Yw 1 35 (Yi 2) false]) .skip)))) (.seq (Yq 8 [Ya 36 0 12, Yl 37 false 1 36, Yo 38 .neq .no 37 (Yi 0)] (.cond 38 (Yq 9 [Yu 39 11, Yl 40 true 11 12, Yk 41 (.buildSl true 11 1 (.agg [Y0, Y0, Yn, Yn, Y0, Yn, Yb, Y0, Y0, Y0, .nils]) [(0, 40)] false), Yk 42 (.app false true 11 128 39 41 true), Yu 11 42] (.ops 10 [Yv 43 13, Yo 44 .add .no 43 (Yi 1), Yv 13 44])) .skip)) (.seq (.block 0 (.loop [0, 2, 3, 11, 13] [0, 8, 9, 10, 11, 13] (.seq (Yq 11 [Yv 45 0, Yk 46 (.nilc 45), Ya 47 5 46, Yl 48 false 1 47, Yo 49 .eql .no 48 (Yi 0)] (.cond 49 .skip (.exit 0))) (.block 1 (Yq 12 [Yv 51 0, Yv 52 13, Yv 53 2, Yo 54 .eql .no 53 (Yi 0), Yv 55 3, Yv 56 11, Yc 57 153 [51, 52, 54, 55, 56], Yv 50 57, Yx 58 50 0, Yx 59 50 1, Yk 14 (.alloc [Y0, Y0, Yn, Yn, Y0, Yn, Yb, Y0, Y0, Y0, .nils]), Yw 11 14 58 false, Yv 15 59] (.seq (Yq 13 [Yv 60 15, Yv 61 13, Yo 62 .eql .no 60 61] (.cond 62 (.exit 0) .skip)) (Yq 14 [Yu 63 11, Yl 64 true 11 14, Yk 65 (.buildSl true 11 1 (.agg [Y0, Y0, Yn, Yn, Y0, Yn, Yb, Y0, Y0, Y0, .nils]) [(0, 64)] false), Yk 66 (.app false true 11 128 63 65 true), Yu 11 66] (Yq 15 [Yv 67 15, Yv 13 67] (Yq 16 [Ya 68 0 14, Yl 69 false 1 68, Yo 70 .eql .no 69 (Yi 13)] (.cond 70 (Yq 17 [Yu 71 11, Yv 72 13, Yu 8 71, Yv 9 72, Yv 10 Yt] .ret) .skip)))))))))) (.seq (Yq 18 [Yv 73 11, Yh 74 73, Yo 75 .eql .no 74 (Yi 0)] (.cond 75 (.ops 19 [Yv 76 0, Yv 77 13, Yc 78 93 [76, (Yi 10), 77]]) .skip)) (Yq 20 [Yu 79 11, Yv 80 13, Yu 8 79, Yv 9 80, Yv 10 Yf] .ret))))))))⟩
theorem ok_c_Zf : Qam Tryz.prog 116 c_Zf = true := Qad Tryz.func116 (by kernel_rfl)
def c_Zd : Ev.Fn := ⟨21, [.tmp 4], false, false, (Yq 0 [Yv 4 (Yi 0)] (Yq 1 [Yk 7 (.buildSl false 1 3 Yn [(0, (Ys [62])), (1, (Ys [43])), (2, (Ys [126]))] false), Yu 5 7] (.seq (Yq 2 [Yv 6 (Yi 0)] (.block 0 (.loop [0, 1, 5, 6] [4] (.seq (Yq 3 [Yv 8 6, Yo 9 .lss .no 8 (Yi 3)] (.cond 9 .skip (.exit 0))) (.seq (.block 1 (Yq 5 [Yv 12 0, Yv 13 1, Yv 14 5, Yv 15 6, Ye 16 1 14 15, Yl 17 false 1 16, Yc 18 152 [12, 13, 17]] (.cond 18 (Yq 6 [Yv 19 6, Yo 20 .add .no (Yi 2) 19, Yv 4 20] .ret) .skip))) (.ops 4 [Yv 10 6, Yo 11 .add .no 10 (Yi 1), Yv 6 11])))))) (Yq 7 [Yv 4 (Yi 0)] .ret))))⟩
theorem ok_c_Zd : Qam Tryz.prog 117 c_Zd = true := Qad Tryz.func117 (by kernel_rfl)
def c_Z1l : Ev.Fn := ⟨71, [.tmp 2], false, false, (Yq 0 [Yv 2 (.c (.int .u64 0))] (.seq (.cond Yf (.seq (.drw 1 [⟨Yv 3 0, 0, []⟩, ⟨Ye 4 1 3 (Yi 0), 1, []⟩, ⟨Yl 5 false 1 4, 2, []⟩, ⟨Yk 6 (.conv (.toInt .u64) 5), 3, []⟩, ⟨Yv 7 0, 4, []⟩, ⟨Ye 8 1 7 (Yi 1), 5, []⟩, ⟨Yl 9 false 1 8, 6, []⟩, ⟨Yk 10 (.conv (.toInt .u64) 9), 7, []⟩, ⟨Yo 11 .shl .no 10 (.c (.int .u64 8)), 8, []⟩, ⟨Yo 12 .or .no 6 11, 9, []⟩, ⟨Yv 13 0, 10, []⟩, ⟨Ye 14 1 13 (Yi 2), 11, []⟩, ⟨Yl 15 false 1 14, 12, []⟩, ⟨Yk 16 (.conv (.toInt .u64) 15), 13, []⟩, ⟨Yo 17 .shl .no 16 (.c (.int .u64 16)), 14, []⟩, ⟨Yo 18 .or .no 12 17, 15, []⟩, ⟨Yv 19 0, 16, []⟩, ⟨Ye 20 1 19 (Yi 3), 17, []⟩, ⟨Yl 21 false 1 20, 18, []⟩, ⟨Yk 22 (.conv (.toInt .u64) 21), 19, []⟩, ⟨Yo 23 .shl .no 22 (.c (.int .u64 24)), 20, []⟩, ⟨Yo 24 .or .no 18 23, 21, []⟩, ⟨Yv 2 24, 22, []⟩]) .ret) .skip) (.seq (.drw 2 [⟨Yv 25 0, 0, []⟩, ⟨Ye 26 1 25 (Yi 0), 1, []⟩, ⟨Yl 27 false 1 26, 2, []⟩, ⟨Yk 28 (.conv (.toInt .u64) 27), 3, []⟩, ⟨Yv 29 0, 4, []⟩, ⟨Ye 30 1 29 (Yi 1), 5, []⟩, ⟨Yl 31 false 1 30, 6, []⟩, ⟨Yk 32 (.conv (.toInt .u64) 31), 7, []⟩, ⟨Yo 33 .shl .no 32 (.c (.int .u64 8)), 8, []⟩, ⟨Yo 34 .or .no 28 33, 9, []⟩, ⟨Yv 35 0, 10, []⟩, ⟨Ye 36 1 35 (Yi 2), 11, []⟩, ⟨Yl 37 false 1 36, 12, []⟩, ⟨Yk 38 (.conv (.toInt .u64) 37), 13, []⟩, ⟨Yo 39 .shl .no 38 (.c (.int .u64 16)), 14, []⟩, ⟨Yo 40 .or .no 34 39, 15, []⟩, ⟨Yv 41 0, 16, []⟩, ⟨Ye 42 1 41 (Yi 3), 17, []⟩, ⟨Yl 43 false 1 42, 18, []⟩, ⟨Yk 44 (.conv (.toInt .u64) 43), 19, []⟩, ⟨Yo 45 .shl .no 44 (.c (.int .u64 24)), 20, []⟩, ⟨Yo 46 .or .no 40 45, 21, []⟩, ⟨Yv 47 0, 22, []⟩, ⟨Ye 48 1 47 (Yi 4), 23, []⟩, ⟨Yl 49 false 1 48, 24, []⟩, ⟨Yk 50 (.conv (.toInt .u64) 49), 25, []⟩, ⟨Yo 51 .shl .no 50 (.c (.int .u64 32)), 26, []⟩, ⟨Yo 52 .or .no 46 51, 27, []⟩, ⟨Yv 53 0, 28, []⟩, ⟨Ye 54 1 53 (Yi 5), 29, []⟩, ⟨Yl 55 false 1 54, 30, []⟩, ⟨Yk 56 (.conv (.toInt .u64) 55), 31, []⟩, ⟨Yo 57 .shl .no 56 (.c (.int .u64 40)), 32, []⟩, ⟨Yo 58 .or .no 52 57, 33, []⟩, ⟨Yv 59 0, 34, []⟩, ⟨Ye 60 1 59 (Yi 6), 35, []⟩, ⟨Yl 61 false 1 60, 36, []⟩, ⟨Yk 62 (.conv (.toInt .u64) 61), 37, []⟩, ⟨Yo 63 .shl .no 62 (.c (.int .u64 48)), 38, []⟩, ⟨Yo 64 .or .no 58 63, 39, []⟩, ⟨Yv 65 0, 40, []⟩, ⟨Ye 66 1 65 (Yi 7), 41, []⟩, ⟨Yl 67 false 1 66, 42, []⟩, ⟨Yk 68 (.conv (.toInt .u64) 67), 43, []⟩, ⟨Yo 69 .shl .no 68 (.c (.int .u64 56)), 44, []⟩, ⟨Yo 70 .or .no 64 69, 45, []⟩, ⟨Yv 2 70, 46, []⟩]) .ret)))⟩
theorem ok_c_Z1l : Qam Tryz.prog 131 c_Z1l = true := Qad Tryz.func131 (by kernel_rfl)
def s_Z1l (M : Mach) (a0 : V) (σ : Objs) : Ro :=
  br (.bool false) (
 bd (pu (eI 1 (.int .i64 0) a0.ng.ng)) fun x0 =>
 bd (pu (eL σ false 1 x0.ng)) fun x1 =>
 bd (pu (eC σ (.toInt .u64) x1.ng)) fun x2 =>
 bd (pu (eI 1 (.int .i64 1) a0.ng.ng)) fun x3 =>
 bd (pu (eL σ false 1 x3.ng)) fun x4 =>
 bd (pu (eC σ (.toInt .u64) x4.ng)) fun x5 =>
 bd (pu (eB .shl .no x5.ng (.int .u64 8))) fun x6 =>
 bd (pu (eB .or .no x2.ng x6.ng)) fun x7 =>
 bd (pu (eI 1 (.int .i64 2) a0.ng.ng)) fun x8 =>
 bd (pu (eL σ false 1 x8.ng)) fun x9 =>
 bd (pu (eC σ (.toInt .u64) x9.ng)) fun x10 =>
 bd (pu (eB .shl .no x10.ng (.int .u64 16))) fun x11 =>
 bd (pu (eB .or .no x7.ng x11.ng)) fun x12 =>
 bd (pu (eI 1 (.int .i64 3) a0.ng.ng)) fun x13 =>
 bd (pu (eL σ false 1 x13.ng)) fun x14 =>
 bd (pu (eC σ (.toInt .u64) x14.ng)) fun x15 =>
 bd (pu (eB .shl .no x15.ng (.int .u64 24))) fun x16 =>
 bd (pu (eB .or .no x12.ng x16.ng)) fun x17 =>
 bd (oK false x17.ng) (nK σ.length σ)) (
 bd (pu (eI 1 (.int .i64 0) a0.ng.ng)) fun x18 =>
 bd (pu (eL σ false 1 x18.ng)) fun x19 =>
 bd (pu (eC σ (.toInt .u64) x19.ng)) fun x20 =>
 bd (pu (eI 1 (.int .i64 1) a0.ng.ng)) fun x21 =>
 bd (pu (eL σ false 1 x21.ng)) fun x22 =>
 bd (pu (eC σ (.toInt .u64) x22.ng)) fun x23 =>
 bd (pu (eB .shl .no x23.ng (.int .u64 8))) fun x24 =>
 bd (pu (eB .or .no x20.ng x24.ng)) fun x25 =>
 bd (pu (eI 1 (.int .i64 2) a0.ng.ng)) fun x26 =>
 bd (pu (eL σ false 1 x26.ng)) fun x27 =>
 bd (pu (eC σ (.toInt .u64) x27.ng)) fun x28 =>
 bd (pu (eB .shl .no x28.ng (.int .u64 16))) fun x29 =>
 bd (pu (eB .or .no x25.ng x29.ng)) fun x30 =>
 bd (pu (eI 1 (.int .i64 3) a0.ng.ng)) fun x31 =>
 bd (pu (eL σ false 1 x31.ng)) fun x32 =>
 bd (pu (eC σ (.toInt .u64) x32.ng)) fun x33 =>
 bd (pu (eB .shl .no x33.ng (.int .u64 24))) fun x34 =>
 bd (pu (eB .or .no x30.ng x34.ng)) fun x35 =>
 bd (pu (eI 1 (.int .i64 4) a0.ng.ng)) fun x36 =>
 bd (pu (eL σ false 1 x36.ng)) fun x37 =>
 bd (pu (eC σ (.toInt .u64) x37.ng)) fun x38 =>
 bd (pu (eB .shl .no x38.ng (.int .u64 32))) fun x39 =>
 bd (pu (eB .or .no x35.ng x39.ng)) fun x40 =>
 bd (pu (eI 1 (.int .i64 5) a0.ng.ng)) fun x41 =>
 bd (pu (eL σ false 1 x41.ng)) fun x42 =>
 bd (pu (eC σ (.toInt .u64) x42.ng)) fun x43 =>
 bd (pu (eB .shl .no x43.ng (.int .u64 40))) fun x44 =>
 bd (pu (eB .or .no x40.ng x44.ng)) fun x45 =>
 bd (pu (eI 1 (.int .i64 6) a0.ng.ng)) fun x46 =>
 bd (pu (eL σ false 1 x46.ng)) fun x47 =>
 bd (pu (eC σ (.toInt .u64) x47.ng)) fun x48 =>
 bd (pu (eB .shl .no x48.ng (.int .u64 48))) fun x49 =>
 bd (pu (eB .or .no x45.ng x49.ng)) fun x50 =>
 bd (pu (eI 1 (.int .i64 7) a0.ng.ng)) fun x51 =>
 bd (pu (eL σ false 1 x51.ng)) fun x52 =>
 bd (pu (eC σ (.toInt .u64) x52.ng)) fun x53 =>
 bd (pu (eB .shl .no x53.ng (.int .u64 56))) fun x54 =>
 bd (pu (eB .or .no x50.ng x54.ng)) fun x55 =>
 bd (oK false x55.ng) (nK σ.length σ))
theorem k_Z1l (M : Mach) (a0 : V) (σ : Objs) : fnK M c_Z1l [a0] σ = s_Z1l M a0 σ := by kernel_rfl
def c_Zv : Ev.Fn := ⟨27, [.tmp 4], false, false, (Yq 0 [Yk 2 (.box 0), Yk 3 (.box 1), Yv 4 Yf] (.seq (Yq 1 [Ya 5 1 3, Yl 6 false 1 5, Yo 7 .eql .no 6 (Yi 3)] (.cond 7 (Yq 2 [Ya 8 0 2, Ya 9 2 8, Yl 10 false 1 9, Ya 11 2 3, Yl 12 false 1 11, Yc 13 46 [10, 12], Yv 4 13] .ret) .skip)) (Yq 3 [Ya 14 1 3, Yl 15 false 1 14, Yo 16 .geq .no 15 (Yi 0), Yv 17 16, ⟨some 18, (some (17, true)), .faddr 1 3⟩, ⟨some 19, (some (17, true)), .load false 1 18⟩, ⟨some 20, (some (17, true)), .bin .lss .no 19 (Yi 3)⟩, Yk 21 (.pick 17 20 Yf), Yv 22 21, ⟨some 23, (some (22, true)), .faddr 2 3⟩, ⟨some 24, (some (22, true)), .load false 1 23⟩, ⟨some 25, (some (22, true)), .bin .eql .no 24 (Ys [])⟩, Yk 26 (.pick 22 25 Yf), Yv 4 26] .ret)))⟩
theorem ok_c_Zv : Qam Tryz.prog 132 c_Zv = true := Qad Tryz.func132 (by kernel_rfl)
def s_Zv (M : Mach) (a0 a1 : V) (σ : Objs) : Ro :=
 bd (boxV σ a0.ng) fun p0 =>
 bd (boxV p0.2 a1.ng) fun p1 =>
 bd (pu (eF 1 p1.1.ng)) fun x2 =>
 bd (pu (eL p1.2 false 1 x2.ng)) fun x3 =>
 bd (pu (eB .eql .no x3.ng (.int .i64 3))) fun x4 =>
  br x4.ng (
 bd (pu (eF 0 p0.1.ng)) fun x5 =>
 bd (pu (eF 2 x5.ng)) fun x6 =>
 bd (pu (eL p1.2 false 1 x6.ng)) fun x7 =>
 bd (pu (eF 2 p1.1.ng)) fun x8 =>
 bd (pu (eL p1.2 false 1 x8.ng)) fun x9 =>
 bd (M.call 46 [x7.ng, x9.ng] p1.2) fun p10 =>
 bd (oK false p10.1.ng) (nK σ.length p10.2)) (
 bd (pu (eF 1 p1.1.ng)) fun x11 =>
 bd (pu (eL p1.2 false 1 x11.ng)) fun x12 =>
 bd (pu (eB .geq .no x12.ng (.int .i64 0))) fun x13 =>
 bd (gdv x13.ng true (pu (eF 1 p1.1.ng))) fun x14 =>
 bd (gdv x13.ng true (pu (eL p1.2 false 1 x14.ng))) fun x15 =>
 bd (gdv x13.ng true (pu (eB .lss .no x15.ng (.int .i64 3)))) fun x16 =>
 bd (pu (pV x13.ng.ng x16.ng (.bool false))) fun x17 =>
 bd (gdv x17.ng true (pu (eF 2 p1.1.ng))) fun x18 =>
 bd (gdv x17.ng true (pu (eL p1.2 false 1 x18.ng))) fun x19 =>
 bd (gdv x17.ng true (pu (eB .eql .no x19.ng (.str [])))) fun x20 =>
 bd (pu (pV x17.ng.ng x20.ng (.bool false))) fun x21 =>
 bd (oK false x21.ng) (nK σ.length p1.2))
theorem k_Zv (M : Mach) (a0 a1 : V) (σ : Objs) : fnK M c_Zv [a0, a1] σ = s_Zv M a0 a1 σ := by kernel_rfl
def c_Z1e : Ev.Fn := ⟨45, [.tmp 4], false, false, (Yq 0 [Yk 2 (.box 0), Yv 4 Yf] (Yq 1 [Yl 6 true 11 2, Yk 5 (.alloc [Y0, Y0, Yn, Yn, Y0, Yn, Yb, Y0, Y0, Y0, .nils]), Yw 11 5 6 false] (Yq 2 [Yv 7 1, Yk 8 (.callv 7 [5])] (Yq 3 [Ya 9 1 5, Yl 10 false 1 9, Yo 11 .eql .no 10 (Yi 0), Yv 12 11, ⟨some 13, (some (12, true)), .faddr 2 5⟩, ⟨some 14, (some (12, true)), .load false 1 13⟩, ⟨some 15, (some (12, true)), .bin .eql .no 14 (Ys [])⟩, Yk 16 (.pick 12 15 Yf), Yv 17 16, ⟨some 18, (some (17, true)), .faddr 3 5⟩, ⟨some 19, (some (17, true)), .load false 1 18⟩, ⟨some 20, (some (17, true)), .bin .eql .no 19 (Ys [])⟩, Yk 21 (.pick 17 20 Yf), Yv 22 21, ⟨some 23, (some (22, true)), .faddr 4 5⟩, ⟨some 24, (some (22, true)), .load true 3 23⟩, ⟨some 25, (some (22, true)), .build [Y0, Yn, Yb] []⟩, ⟨some 26, (some (22, true)), .bin .eql (.agg [.i, .s, .b]) 24 25⟩, Yk 27 (.pick 22 26 Yf), Yv 28 27, ⟨some 29, (some (28, true)), .faddr 7 5⟩, ⟨some 30, (some (28, true)), .load false 1 29⟩, ⟨some 31, (some (28, true)), .bin .eql .no 30 (Yi 0)⟩, Yk 32 (.pick 28 31 Yf), Yv 33 32, ⟨some 34, (some (33, true)), .faddr 8 5⟩, ⟨some 35, (some (33, true)), .load true 2 34⟩, ⟨some 36, (some (33, true)), .build [Y0, Y0] []⟩, ⟨some 37, (some (33, true)), .bin .eql (.agg [.i, .i]) 35 36⟩, Yk 38 (.pick 33 37 Yf), Yv 39 38, ⟨some 40, (some (39, true)), .faddr 10 5⟩, ⟨some 41, (some (39, true)), .load false 1 40⟩, ⟨some 42, (some (39, true)), .len 41⟩, ⟨some 43, (some (39, true)), .bin .eql .no 42 (Yi 0)⟩, Yk 44 (.pick 39 43 Yf), Yv 4 44] .ret))))⟩
theorem ok_c_Z1e : Qam Tryz.prog 133 c_Z1e = true := Qad Tryz.func133 (by kernel_rfl)
def s_Z1e (M : Mach) (a0 a1 : V) (σ : Objs) : Ro :=
 bd (boxV σ a0.ng) fun p0 =>
 bd (pu (eL p0.2 true 11 p0.1.ng)) fun x1 =>
  let s2 : Objs := p0.2 ++ [.cells [(.int .i64 0), (.int .i64 0), (.str []), (.str []), (.int .i64 0), (.str []), (.bool false), (.int .i64 0), (.int .i64 0), (.int .i64 0), .nils]]
 bd (stV s2 11 (.ptr p0.2.length 0) x1.ng x1.ng) fun p3 =>
 bd (Qhi M p3.2 a1.ng.ng [(.ptr p0.2.length 0)]) fun p4 =>
 bd (pu (eF 1 (.ptr p0.2.length 0))) fun x5 =>
 bd (pu (eL p4.2 false 1 x5.ng)) fun x6 =>
 bd (pu (eB .eql .no x6.ng (.int .i64 0))) fun x7 =>
 bd (gdv x7.ng true (pu (eF 2 (.ptr p0.2.length 0)))) fun x8 =>
 bd (gdv x7.ng true (pu (eL p4.2 false 1 x8.ng))) fun x9 =>
 bd (gdv x7.ng true (pu (eB .eql .no x9.ng (.str [])))) fun x10 =>
 bd (pu (pV x7.ng.ng x10.ng (.bool false))) fun x11 =>
 bd (gdv x11.ng true (pu (eF 3 (.ptr p0.2.length 0)))) fun x12 =>
 bd (gdv x11.ng true (pu (eL p4.2 false 1 x12.ng))) fun x13 =>
 bd (gdv x11.ng true (pu (eB .eql .no x13.ng (.str [])))) fun x14 =>
 bd (pu (pV x11.ng.ng x14.ng (.bool false))) fun x15 =>
 bd (gdv x15.ng true (pu (eF 4 (.ptr p0.2.length 0)))) fun x16 =>
 bd (gdv x15.ng true (pu (eL p4.2 true 3 x16.ng))) fun x17 =>
 bd (gdv x15.ng true (pu (Qa2 [(.int .i64 0), (.str []), (.bool false)] []))) fun x18 =>
 bd (gdv x15.ng true (pu (eB .eql (.agg [.i, .s, .b]) x17.ng x18.ng))) fun x19 =>
 bd (pu (pV x15.ng.ng x19.ng (.bool false))) fun x20 =>
 bd (gdv x20.ng true (pu (eF 7 (.ptr p0.2.length 0)))) fun x21 =>
 bd (gdv x20.ng true (pu (eL p4.2 false 1 x21.ng))) fun x22 =>
 bd (gdv x20.ng true (pu (eB .eql .no x22.ng (.int .i64 0)))) fun x23 =>
 bd (pu (pV x20.ng.ng x23.ng (.bool false))) fun x24 =>
 bd (gdv x24.ng true (pu (eF 8 (.ptr p0.2.length 0)))) fun x25 =>
 bd (gdv x24.ng true (pu (eL p4.2 true 2 x25.ng))) fun x26 =>
 bd (gdv x24.ng true (pu (Qa2 [(.int .i64 0), (.int .i64 0)] []))) fun x27 =>
 bd (gdv x24.ng true (pu (eB .eql (.agg [.i, .i]) x26.ng x27.ng))) fun x28 =>
 bd (pu (pV x24.ng.ng x28.ng (.bool false))) fun x29 =>
 bd (gdv x29.ng true (pu (eF 10 (.ptr p0.2.length 0)))) fun x30 =>
 bd (gdv x29.ng true (pu (eL p4.2 false 1 x30.ng))) fun x31 =>
 bd (gdv x29.ng true (pu (Qaq x31.ng))) fun x32 =>
 bd (gdv x29.ng true (pu (eB .eql .no x32.ng (.int .i64 0)))) fun x33 =>
 bd (pu (pV x29.ng.ng x33.ng (.bool false))) fun x34 =>
 bd (oK false x34.ng) (nK σ.length p4.2)
theorem k_Z1e (M : Mach) (a0 a1 : V) (σ : Objs) : fnK M c_Z1e [a0, a1] σ = s_Z1e M a0 a1 σ := by kernel_rfl
def c_Zq_1 : Ev.Fn := ⟨6, [], false, false, (Yq 0 [Yv 2 0, Yc 3 135 [2]] (.ops 1 [Yv 4 0, Yc 5 136 [4]]))⟩
theorem ok_c_Zq_1 : Qam Tryz.prog 134 c_Zq_1 = true := Qad Tryz.func134 (by kernel_rfl)
def s_Zq_1 (M : Mach) (a0 : V) (σ : Objs) : Ro :=
 bd (M.call 135 [a0.ng.ng] σ) fun p0 =>
 bd (M.call 136 [a0.ng.ng] p0.2) fun p1 =>
  nK σ.length p1.2 (.tup [])
theorem k_Zq_1 (M : Mach) (a0 : V) (σ : Objs) : fnK M c_Zq_1 [a0] σ = s_Zq_1 M a0 σ := by kernel_rfl
def c_Z1f : Ev.Fn := ⟨8, [], false, false, (.ops 0 [Yv 2 0, Yv 3 0, Yk 4 (.nilc 2), Ya 5 1 4, Yw 1 5 (Yi 0) false, Yk 6 (.nilc 3), Ya 7 2 6, Yw 1 7 (Ys []) false])⟩
theorem ok_c_Z1f : Qam Tryz.prog 135 c_Z1f = true := Qad Tryz.func135 (by kernel_rfl)
def s_Z1f (M : Mach) (a0 : V) (σ : Objs) : Ro :=
 bd (pu (Qa8 a0.ng.ng)) fun x0 =>
 bd (pu (eF 1 x0.ng)) fun x1 =>
 bd (stV σ 1 x1.ng (.int .i64 0) (.int .i64 0)) fun p2 =>
 bd (pu (Qa8 a0.ng.ng)) fun x3 =>
 bd (pu (eF 2 x3.ng)) fun x4 =>
 bd (stV p2.2 1 x4.ng (.str []) (.str [])) fun p5 =>
  nK σ.length p5.2 (.tup [])
theorem k_Z1f (M : Mach) (a0 : V) (σ : Objs) : fnK M c_Z1f [a0] σ = s_Z1f M a0 σ := by kernel_rfl
def c_Z1c : Ev.Fn := ⟨5, [], false, false, (.ops 0 [Yv 2 0, Yk 3 (.nilc 2), Ya 4 3 3, Yw 1 4 (Ys []) false])⟩
theorem ok_c_Z1c : Qam Tryz.prog 136 c_Z1c = true := Qad Tryz.func136 (by kernel_rfl)
def s_Z1c (M : Mach) (a0 : V) (σ : Objs) : Ro :=
 bd (pu (Qa8 a0.ng.ng)) fun x0 =>
 bd (pu (eF 3 x0.ng)) fun x1 =>
 bd (stV σ 1 x1.ng (.str []) (.str [])) fun p2 =>
  nK σ.length p2.2 (.tup [])
theorem k_Z1c (M : Mach) (a0 : V) (σ : Objs) : fnK M c_Z1c [a0] σ = s_Z1c M a0 σ := by kernel_rfl
def c_Z18 : Ev.Fn := ⟨6, [.tmp 2], false, false, (Yq 0 [Yv 2 Yf] (Yq 1 [Yk 3 (.cutA 10 1 false (.g 3) none none), Yv 4 0, Yc 5 46 [3, 4], Yv 2 5] .ret))⟩
theorem ok_c_Z18 : Qam Tryz.prog 137 c_Z18 = true := Qad Tryz.func137 (by kernel_rfl)
def s_Z18 (M : Mach) (a0 : V) (σ : Objs) : Ro :=
 bd (pu (Qe1 10 1 false (M.G.g 3).ng none none)) fun x0 =>
 bd (M.call 46 [x0.ng, a0.ng.ng] σ) fun p1 =>
 bd (oK false p1.1.ng) (nK σ.length p1.2)
theorem k_Z18 (M : Mach) (a0 : V) (σ : Objs) : fnK M c_Z18 [a0] σ = s_Z18 M a0 σ := by kernel_rfl
def c_Z15 : Ev.Fn := ⟨6, [.tmp 2], false, false, (Yq 0 [Yv 2 Yf] (Yq 1 [Yk 3 (.cutA 8 1 false (.g 4) none none), Yv 4 0, Yc 5 46 [3, 4], Yv 2 5] .ret))⟩
theorem ok_c_Z15 : Qam Tryz.prog 138 c_Z15 = true := Qad Tryz.func138 (by kernel_rfl)
def s_Z15 (M : Mach) (a0 : V) (σ : Objs) : Ro :=
 bd (pu (Qe1 8 1 false (M.G.g 4).ng none none)) fun x0 =>
 bd (M.call 46 [x0.ng, a0.ng.ng] σ) fun p1 =>
 bd (oK false p1.1.ng) (nK σ.length p1.2)
theorem k_Z15 (M : Mach) (a0 : V) (σ : Objs) : fnK M c_Z15 [a0] σ = s_Z15 M a0 σ := by kernel_rfl
def c_Z19 : Ev.Fn := ⟨49, [.tmp 2], false, false, (Yq 0 [Yk 1 (.box 0), Yv 2 Yf] (Yq 1 [Ya 4 4 1, Yl 5 true 3 4, Yk 3 (.alloc [Y0, Yn, Yb]), Yw 3 3 5 false] (.seq (Yq 2 [Ya 6 0 3, Yl 7 false 1 6, Yo 8 .lss .no 7 (Yi 1), Yv 9 8, ⟨some 10, (some (9, false)), .faddr 0 3⟩, ⟨some 11, (some (9, false)), .load false 1 10⟩, ⟨some 12, (some (9, false)), .bin .gtr .no 11 (Yi 7)⟩, Yk 13 (.pick 9 Yt 12), Yv 14 13, ⟨some 15, (some (14, false)), .faddr 1 3⟩, ⟨some 16, (some (14, false)), .load false 1 15⟩, ⟨some 17, (some (14, false)), .call 50 [16]⟩, ⟨some 18, (some (14, false)), .un .not 17⟩, Yk 19 (.pick 14 Yt 18), Yv 20 19, ⟨some 21, (some (20, false)), .faddr 7 1⟩, ⟨some 22, (some (20, false)), .load false 1 21⟩, ⟨some 23, (some (20, false)), .bin .lss .no 22 (Yi 0)⟩, Yk 24 (.pick 20 Yt 23), Yv 25 24, ⟨some 26, (some (25, false)), .faddr 7 1⟩, ⟨some 27, (some (25, false)), .load false 1 26⟩, ⟨some 28, (some (25, false)), .bin .gtr .no 27 (Yi 2)⟩, Yk 29 (.pick 25 Yt 28)] (.cond 29 (Yq 3 [Yv 2 Yf] .ret) .skip)) (.seq (Yq 4 [Ya 30 0 3, Yl 31 false 1 30, Yo 32 .eql .no 31 (Yi 1), Yv 33 32, ⟨some 34, (some (33, true)), .faddr 1 3⟩, ⟨some 35, (some (33, true)), .load false 1 34⟩, ⟨some 36, (some (33, true)), .bin .neq .no 35 (Ys [])⟩, ⟨some 37, (some (33, true)), .mv 36 false⟩, ⟨some 38, (some (37, false)), .faddr 7 1⟩, ⟨some 39, (some (37, false)), .load false 1 38⟩, ⟨some 40, (some (37, false)), .bin .neq .no 39 (Yi 0)⟩, ⟨some 41, (some (33, true)), .pick 37 Yt 40⟩, Yk 42 (.pick 33 41 Yf)] (.cond 42 (Yq 5 [Yv 2 Yf] .ret) .skip)) (Yq 6 [Ya 43 2 3, Yl 44 false 1 43, Ya 45 7 1, Yl 46 false 1 45, Yo 47 .eql .no 46 (Yi 1), Yo 48 .eql .bool 44 47, Yv 2 48] .ret)))))⟩
theorem ok_c_Z19 : Qam Tryz.prog 139 c_Z19 = true := Qad Tryz.func139 (by kernel_rfl)
def s_Z19 (M : Mach) (a0 : V) (σ : Objs) : Ro :=
 bd (boxV σ a0.ng) fun p0 =>
 bd (pu (eF 4 p0.1.ng)) fun x1 =>
 bd (pu (eL p0.2 true 3 x1.ng)) fun x2 =>
  let s3 : Objs := p0.2 ++ [.cells [(.int .i64 0), (.str []), (.bool false)]]
 bd (stV s3 3 (.ptr p0.2.length 0) x2.ng x2.ng) fun p4 =>
 bd (pu (eF 0 (.ptr p0.2.length 0))) fun x5 =>
 bd (pu (eL p4.2 false 1 x5.ng)) fun x6 =>
 bd (pu (eB .lss .no x6.ng (.int .i64 1))) fun x7 =>
 bd (gdv x7.ng false (pu (eF 0 (.ptr p0.2.length 0)))) fun x8 =>
 bd (gdv x7.ng false (pu (eL p4.2 false 1 x8.ng))) fun x9 =>
 bd (gdv x7.ng false (pu (eB .gtr .no x9.ng (.int .i64 7)))) fun x10 =>
 bd (pu (pV x7.ng.ng (.bool true) x10.ng)) fun x11 =>
 bd (gdv x11.ng false (pu (eF 1 (.ptr p0.2.length 0)))) fun x12 =>
 bd (gdv x11.ng false (pu (eL p4.2 false 1 x12.ng))) fun x13 =>
 bd (gdp x11.ng false (M.call 50 [x13.ng] p4.2) p4.2) fun p14 =>
 bd (gdv x11.ng false (pu (evUn .not p14.1.ng))) fun x15 =>
 bd (pu (pV x11.ng.ng (.bool true) x15.ng)) fun x16 =>
 bd (gdv x16.ng false (pu (eF 7 p0.1.ng))) fun x17 =>
 bd (gdv x16.ng false (pu (eL p14.2 false 1 x17.ng))) fun x18 =>
 bd (gdv x16.ng false (pu (eB .lss .no x18.ng (.int .i64 0)))) fun x19 =>
 bd (pu (pV x16.ng.ng (.bool true) x19.ng)) fun x20 =>
 bd (gdv x20.ng false (pu (eF 7 p0.1.ng))) fun x21 =>
 bd (gdv x20.ng false (pu (eL p14.2 false 1 x21.ng))) fun x22 =>
 bd (gdv x20.ng false (pu (eB .gtr .no x22.ng (.int .i64 2)))) fun x23 =>
 bd (pu (pV x20.ng.ng (.bool true) x23.ng)) fun x24 =>
  br x24.ng (
 bd (oK false (.bool false)) (nK σ.length p14.2)) (
 bd (pu (eF 0 (.ptr p0.2.length 0))) fun x25 =>
 bd (pu (eL p14.2 false 1 x25.ng)) fun x26 =>
 bd (pu (eB .eql .no x26.ng (.int .i64 1))) fun x27 =>
 bd (gdv x27.ng true (pu (eF 1 (.ptr p0.2.length 0)))) fun x28 =>
 bd (gdv x27.ng true (pu (eL p14.2 false 1 x28.ng))) fun x29 =>
 bd (gdv x27.ng true (pu (eB .neq .no x29.ng (.str [])))) fun x30 =>
 bd (gdv x27.ng true (some x30.ng)) fun x31 =>
 bd (gdv x31 false (pu (eF 7 p0.1.ng))) fun x32 =>
 bd (gdv x31 false (pu (eL p14.2 false 1 x32.ng))) fun x33 =>
 bd (gdv x31 false (pu (eB .neq .no x33.ng (.int .i64 0)))) fun x34 =>
 bd (gdv x27.ng true (pu (pV x31.ng (.bool true) x34.ng))) fun x35 =>
 bd (pu (pV x27.ng.ng x35.ng (.bool false))) fun x36 =>
  br x36.ng (
 bd (oK false (.bool false)) (nK σ.length p14.2)) (
 bd (pu (eF 2 (.ptr p0.2.length 0))) fun x37 =>
 bd (pu (eL p14.2 false 1 x37.ng)) fun x38 =>
 bd (pu (eF 7 p0.1.ng)) fun x39 =>
 bd (pu (eL p14.2 false 1 x39.ng)) fun x40 =>
 bd (pu (eB .eql .no x40.ng (.int .i64 1))) fun x41 =>
 bd (pu (eB .eql .bool x38.ng x41.ng)) fun x42 =>
 bd (oK false x42.ng) (nK σ.length p14.2)))
theorem k_Z19 (M : Mach) (a0 : V) (σ : Objs) : fnK M c_Z19 [a0] σ = s_Z19 M a0 σ := by kernel_rfl
def c_Zq_2 : Ev.Fn := ⟨13, [], false, false, (Yq 0 [Yv 2 0, Yc 3 135 [2]] (Yq 1 [Yv 4 0, Yc 5 136 [4]] (.ops 2 [Yv 6 0, Yv 7 0, Yk 8 (.build [Y0, Yn, Yb] []), Yk 9 (.nilc 6), Ya 10 4 9, Yw 3 10 8 false, Yk 11 (.nilc 7), Ya 12 7 11, Yw 1 12 (Yi 0) false])))⟩
theorem ok_c_Zq_2 : Qam Tryz.prog 140 c_Zq_2 = true := Qad Tryz.func140 (by kernel_rfl)
def s_Zq_2 (M : Mach) (a0 : V) (σ : Objs) : Ro :=
 bd (M.call 135 [a0.ng.ng] σ) fun p0 =>
 bd (M.call 136 [a0.ng.ng] p0.2) fun p1 =>
 bd (pu (Qa2 [(.int .i64 0), (.str []), (.bool false)] [])) fun x2 =>
 bd (pu (Qa8 a0.ng.ng)) fun x3 =>
 bd (pu (eF 4 x3.ng)) fun x4 =>
 bd (stV p1.2 3 x4.ng x2.ng x2.ng) fun p5 =>
 bd (pu (Qa8 a0.ng.ng)) fun x6 =>
 bd (pu (eF 7 x6.ng)) fun x7 =>
 bd (stV p5.2 1 x7.ng (.int .i64 0) (.int .i64 0)) fun p8 =>
  nK σ.length p8.2 (.tup [])
theorem k_Zq_2 (M : Mach) (a0 : V) (σ : Objs) : fnK M c_Zq_2 [a0] σ = s_Zq_2 M a0 σ := by kernel_rfl
def c_Zq_3 : Ev.Fn := ⟨2, [], false, false, .skip⟩
theorem ok_c_Zq_3 : Qam Tryz.prog 141 c_Zq_3 = true := Qad Tryz.func141 (by kernel_rfl)
def s_Zq_3 (M : Mach) (a0 : V) (σ : Objs) : Ro :=
  nK σ.length σ (.tup [])
theorem k_Zq_3 (M : Mach) (a0 : V) (σ : Objs) : fnK M c_Zq_3 [a0] σ = s_Zq_3 M a0 σ := by kernel_rfl
def c_Z1d : Ev.Fn := ⟨17, [.tmp 2], false, false, (Yq 0 [Yk 1 (.box 0), Yv 2 Yf] (Yq 1 [Ya 3 0 1, Yl 4 false 1 3, Ya 5 1 1, Yl 6 false 1 5, Yk 7 (.mm true [4, 6]), Yo 8 .leq .no 7 (Yi 1000000), Yv 9 8, ⟨some 10, (some (9, true)), .faddr 0 1⟩, ⟨some 11, (some (9, true)), .load false 1 10⟩, ⟨some 12, (some (9, true)), .faddr 1 1⟩, ⟨some 13, (some (9, true)), .load false 1 12⟩, ⟨some 14, (some (9, true)), .mm false [11, 13]⟩, ⟨some 15, (some (9, true)), .bin .geq .no 14 (Yi (-1000000))⟩, Yk 16 (.pick 9 15 Yf), Yv 2 16] .ret))⟩
theorem ok_c_Z1d : Qam Tryz.prog 142 c_Z1d = true := Qad Tryz.func142 (by kernel_rfl)
def s_Z1d (M : Mach) (a0 : V) (σ : Objs) : Ro :=
 bd (boxV σ a0.ng) fun p0 =>
 bd (pu (eF 0 p0.1.ng)) fun x1 =>
 bd (pu (eL p0.2 false 1 x1.ng)) fun x2 =>
 bd (pu (eF 1 p0.1.ng)) fun x3 =>
 bd (pu (eL p0.2 false 1 x3.ng)) fun x4 =>
 bd (pu (mmV true [x2.ng, x4.ng])) fun x5 =>
 bd (pu (eB .leq .no x5.ng (.int .i64 1000000))) fun x6 =>
 bd (gdv x6.ng true (pu (eF 0 p0.1.ng))) fun x7 =>
 bd (gdv x6.ng true (pu (eL p0.2 false 1 x7.ng))) fun x8 =>
 bd (gdv x6.ng true (pu (eF 1 p0.1.ng))) fun x9 =>
 bd (gdv x6.ng true (pu (eL p0.2 false 1 x9.ng))) fun x10 =>
 bd (gdv x6.ng true (pu (mmV false [x8.ng, x10.ng]))) fun x11 =>
 bd (gdv x6.ng true (pu (eB .geq .no x11.ng (.int .i64 (-1000000))))) fun x12 =>
 bd (pu (pV x6.ng.ng x12.ng (.bool false))) fun x13 =>
 bd (oK false x13.ng) (nK σ.length p0.2)
theorem k_Z1d (M : Mach) (a0 : V) (σ : Objs) : fnK M c_Z1d [a0] σ = s_Z1d M a0 σ := by kernel_rfl
def c_Zq_4 : Ev.Fn := ⟨8, [], false, false, (Yq 0 [Yv 2 0, Yc 3 144 [2]] (.ops 1 [Yv 4 0, Yk 5 (.build [Y0, Y0] []), Yk 6 (.nilc 4), Ya 7 8 6, Yw 2 7 5 false]))⟩
theorem ok_c_Zq_4 : Qam Tryz.prog 143 c_Zq_4 = true := Qad Tryz.func143 (by kernel_rfl)
def s_Zq_4 (M : Mach) (a0 : V) (σ : Objs) : Ro :=
 bd (M.call 144 [a0.ng.ng] σ) fun p0 =>
 bd (pu (Qa2 [(.int .i64 0), (.int .i64 0)] [])) fun x1 =>
 bd (pu (Qa8 a0.ng.ng)) fun x2 =>
 bd (pu (eF 8 x2.ng)) fun x3 =>
 bd (stV p0.2 2 x3.ng x1.ng x1.ng) fun p4 =>
  nK σ.length p4.2 (.tup [])
theorem k_Zq_4 (M : Mach) (a0 : V) (σ : Objs) : fnK M c_Zq_4 [a0] σ = s_Zq_4 M a0 σ := by kernel_rfl
def c_Z1a : Ev.Fn := ⟨5, [], false, false, (.ops 0 [Yv 2 0, Yk 3 (.nilc 2), Ya 4 10 3, Yw 1 4 (.c .nils) false])⟩
theorem ok_c_Z1a : Qam Tryz.prog 144 c_Z1a = true := Qad Tryz.func144 (by kernel_rfl)
def s_Z1a (M : Mach) (a0 : V) (σ : Objs) : Ro :=
 bd (pu (Qa8 a0.ng.ng)) fun x0 =>
 bd (pu (eF 10 x0.ng)) fun x1 =>
 bd (stV σ 1 x1.ng .nils .nils) fun p2 =>
  nK σ.length p2.2 (.tup [])
theorem k_Z1a (M : Mach) (a0 : V) (σ : Objs) : fnK M c_Z1a [a0] σ = s_Z1a M a0 σ := by kernel_rfl
def c_Z17 : Ev.Fn := ⟨25, [.tmp 4, .tmp 5], false, false, (Yq 0 [Yk 2 (.box 0), Yv 4 (Ys []), Yv 5 Yf] (Yq 1 [Ya 7 2 2, Yl 8 false 1 7, Yv 9 1, Yc 10 67 [8, 9], Yv 6 10] (.seq (.block 0 (Yq 2 [Yv 12 6, Yo 13 .lss .no 12 (Yi 0), Yv 11 13] (.cond 11 (Yq 3 [Yv 4 (Ys []), Yv 5 Yf] .ret) (Yq 4 [Yv 15 6, Ya 16 3 2, Yl 17 false 1 16, Yh 18 17, Yo 19 .geq .no 15 18, Yv 14 19] (.cond 14 (Yq 5 [Yv 4 (Ys []), Yv 5 Yt] .ret) .skip))))) (Yq 6 [Ya 20 3 2, Yl 21 false 1 20, Yv 22 6, Ye 23 1 21 22, Yl 24 false 1 23, Yv 4 24, Yv 5 Yt] .ret))))⟩
theorem ok_c_Z17 : Qam Tryz.prog 146 c_Z17 = true := Qad Tryz.func146 (by kernel_rfl)
def s_Z17 (M : Mach) (a0 a1 : V) (σ : Objs) : Ro :=
 bd (boxV σ a0.ng) fun p0 =>
 bd (pu (eF 2 p0.1.ng)) fun x1 =>
 bd (pu (eL p0.2 false 1 x1.ng)) fun x2 =>
 bd (M.call 67 [x2.ng, a1.ng.ng] p0.2) fun p3 =>
 bd (pu (eB .lss .no p3.1.ng.ng.ng (.int .i64 0))) fun x4 =>
  br x4.ng.ng (
  nK σ.length p3.2 (.tup [(.str []), (.bool false)])) (
 bd (pu (eF 3 p0.1.ng)) fun x5 =>
 bd (pu (eL p3.2 false 1 x5.ng)) fun x6 =>
 bd (pu (Qaq x6.ng)) fun x7 =>
 bd (pu (eB .geq .no p3.1.ng.ng.ng x7.ng)) fun x8 =>
  br x8.ng.ng (
  nK σ.length p3.2 (.tup [(.str []), (.bool true)])) (
 bd (pu (eF 3 p0.1.ng)) fun x9 =>
 bd (pu (eL p3.2 false 1 x9.ng)) fun x10 =>
 bd (pu (eI 1 p3.1.ng.ng.ng x10.ng)) fun x11 =>
 bd (pu (eL p3.2 false 1 x11.ng)) fun x12 =>
  nK σ.length p3.2 (.tup [x12.ng.ng, (.bool true)])))
theorem k_Z17 (M : Mach) (a0 a1 : V) (σ : Objs) : fnK M c_Z17 [a0, a1] σ = s_Z17 M a0 a1 σ := by kernel_rfl
def c_Z1i : Ev.Fn := ⟨19, [.tmp 4], false, false, (Yq 0 [Yk 3 (.box 1), Yv 4 (Yi 0)] (.seq (Yq 1 [Yv 6 0, Yh 7 6, Yv 8 (Yi 0)] (.block 0 (.loop [0, 3, 7, 8] [4] (Yq 2 [Yo 9 .lss .no 8 7] (.seq (.cond 9 .skip (.exit 0)) (.seq (.block 1 (Yq 3 [Yv 10 8, Yv 5 10] (.seq (.drw 4 [⟨Yl 11 true 7 3, 0, []⟩, ⟨Yv 12 0, 1, []⟩, ⟨Yv 13 5, 2, []⟩, ⟨Ye 14 7 12 13, 3, []⟩, ⟨Yl 15 true 7 14, 4, []⟩, ⟨Yo 16 .eql (.agg [.i, .b, .s, .s, .i, .s, .b]) 11 15, 5, []⟩]) (.cond 16 (Yq 5 [Yv 17 5, Yv 4 17] .ret) .skip)))) (.ops 6 [Yo 18 .add .no 8 (Yi 1), Yv 8 18]))))))) (Yq 7 [Yv 4 (Yi (-1))] .ret)))⟩
theorem ok_c_Z1i : Qam Tryz.prog 145 c_Z1i = true := Qad Tryz.func145 (by kernel_rfl)
def b_Z1i_0 (M : Mach) (n0 : Nat) (n1 : Nat) (r1 : Rk) (z0 z3 z7 z8 : V) (σ : Objs) : Ro :=
 bd (pu (eB .lss .no z8.ng z7.ng)) fun x2 =>
  br x2.ng (
 bd (pu (eL σ true 7 z3.ng)) fun x3 =>
 bd (pu (eI 7 z8.ng.ng.ng.ng z0.ng.ng)) fun x4 =>
 bd (pu (eL σ true 7 x4.ng)) fun x5 =>
 bd (pu (eB .eql (.agg [.i, .b, .s, .s, .i, .s, .b]) x3.ng x5.ng)) fun x6 =>
  br x6.ng (
 bd (fz n1 σ fzD z8.ng.ng.ng.ng) fun y7 =>
 bd (cuO n1 σ) fun s8 =>
 bd (oK false y7) (nK n0 s8)) (
 bd (pu (eB .add .no z8.ng (.int .i64 1))) fun x9 =>
 bd (fz n1 σ fzD z0) fun y10 =>
 bd (fz n1 σ fzD z3) fun y11 =>
 bd (fz n1 σ fzD z7) fun y12 =>
 bd (fz n1 σ fzD x9.ng) fun y13 =>
 bd (cuO n1 σ) fun s14 => r1 [y10, y11, y12, y13] s14)) (
 bd (fz n1 σ fzD .any) fun y15 =>
 bd (cuO n1 σ) fun s16 =>
 bd (oK false (.int .i64 (-1))) (nK n0 s16))
def l_Z1i_0 (M : Mach) (n0 : Nat) (n1 : Nat) : Rk := M.fx fun rec vs σ => b_Z1i_0 M n0 n1 rec (vs.getD 0 .undef) (vs.getD 1 .undef) (vs.getD 2 .undef) (vs.getD 3 .undef) σ
def s_Z1i (M : Mach) (a0 a1 : V) (σ : Objs) : Ro :=
 bd (boxV σ a1.ng) fun p0 =>
 bd (pu (Qaq a0.ng.ng)) fun x1 =>
 bd (fz p0.2.length p0.2 fzD a0) fun y17 =>
 bd (fz p0.2.length p0.2 fzD p0.1) fun y18 =>
 bd (fz p0.2.length p0.2 fzD x1) fun y19 =>
 bd (fz p0.2.length p0.2 fzD (.int .i64 0)) fun y20 =>
  l_Z1i_0 M σ.length p0.2.length [y17, y18, y19, y20] p0.2
theorem k_Z1i (M : Mach) (a0 a1 : V) (σ : Objs) : fnK M c_Z1i [a0, a1] σ = s_Z1i M a0 a1 σ := by kernel_rfl
def c_Z11 : Ev.Fn := ⟨5, [.cell 2 true 3], false, false, (Yq 0 [Yk 2 (.alloc [Y0, Y0, .nils])] (Yq 1 [Yu 3 0, Yk 4 (.build [Y0, Y0, .nils] [(0, 1, (Yi 4)), (2, 1, 3)]), Yw 3 2 4 false] .ret))⟩
theorem ok_c_Z11 : Qam Tryz.prog 147 c_Z11 = true := Qad Tryz.func147 (by kernel_rfl)
def s_Z11 (M : Mach) (a0 : V) (σ : Objs) : Ro :=
  let s0 : Objs := σ ++ [.cells [(.int .i64 0), (.int .i64 0), .nils]]
 bd (pu (Qa2 [(.int .i64 0), (.int .i64 0), .nils] [(0, 1, (.int .i64 4)), (2, 1, a0.ng)])) fun x1 =>
 bd (stV s0 3 (.ptr σ.length 0) x1.ng x1.ng) fun p2 =>
 bd (resC p2.2 true 3 (.ptr σ.length 0)) fun x3 =>
 bd (oK false x3) (nK σ.length p2.2)
theorem k_Z11 (M : Mach) (a0 : V) (σ : Objs) : fnK M c_Z11 [a0] σ = s_Z11 M a0 σ := by kernel_rfl
def c_Z20 : Ev.Fn := ⟨20, [.tmp 6], false, false, (Yq 0 [Yv 6 (.c .nils)] (Yq 1 [Yk 8 (.buildSl false 1 0 .any [] false), Yu 9 0, Yk 10 (.app false false 1 1 8 9 true), Yu 7 10] (.seq (.block 0 (.loop [1, 2, 7] [6, 7] (.seq (Yq 2 [Yv 11 7, Yh 12 11, Yv 13 2, Yo 14 .lss .no 12 13] (.cond 14 .skip (.exit 0))) (.block 1 (.ops 3 [Yu 15 7, Yv 16 1, Yk 17 (.buildSl false 1 1 (.int .u8 0) [(0, 16)] false), Yk 18 (.app false false 1 1 15 17 true), Yu 7 18]))))) (Yq 4 [Yu 19 7, Yu 6 19] .ret))))⟩
theorem ok_c_Z20 : Qam Tryz.prog 148 c_Z20 = true := Qad Tryz.func148 (by kernel_rfl)
def b_Z20_0 (M : Mach) (n0 : Nat) (n1 : Nat) (r1 : Rk) (z1 z2 z7 : V) (σ : Objs) : Ro :=
 bd (pu (Qaq z7.ng.ng)) fun x2 =>
 bd (pu (eB .lss .no x2.ng z2.ng.ng)) fun x3 =>
  br x3.ng (
 bd (Qax false 1 1 (.int .u8 0) [(0, z1.ng.ng)]) fun x4 =>
 bd (appV false false 1 1 σ z7 x4.ng) fun x5 =>
 bd (fz n1 σ fzD z1) fun y6 =>
 bd (fz n1 σ fzD z2) fun y7 =>
 bd (fz n1 σ fzD x5) fun y8 =>
 bd (cuO n1 σ) fun s9 => r1 [y6, y7, y8] s9) (
 bd (fz n1 σ fzD .any) fun y10 =>
 bd (fz n1 σ fzD z7) fun y11 =>
 bd (cuO n1 σ) fun s12 =>
 bd (oK false y11) (nK n0 s12))
def l_Z20_0 (M : Mach) (n0 : Nat) (n1 : Nat) : Rk := M.fx fun rec vs σ => b_Z20_0 M n0 n1 rec (vs.getD 0 .undef) (vs.getD 1 .undef) (vs.getD 2 .undef) σ
def s_Z20 (M : Mach) (a0 a1 a2 : V) (σ : Objs) : Ro :=
 bd (Qax false 1 0 .any []) fun x0 =>
 bd (appV false false 1 1 σ x0 a0.ng) fun x1 =>
 bd (fz σ.length σ fzD a1) fun y13 =>
 bd (fz σ.length σ fzD a2) fun y14 =>
 bd (fz σ.length σ fzD x1) fun y15 =>
  l_Z20_0 M σ.length σ.length [y13, y14, y15] σ
theorem k_Z20 (M : Mach) (a0 a1 a2 : V) (σ : Objs) : fnK M c_Z20 [a0, a1, a2] σ = s_Z20 M a0 a1 a2 σ := by kernel_rfl
def c_Z2g : Ev.Fn := ⟨16, [.tmp 4], false, false, (Yq 0 [Yv 4 Yf] (Yq 1 [Yv 5 1, Yv 6 0, Yh 7 6, Yo 8 .lss .no 5 7, Yv 9 8, ⟨some 10, (some (9, true)), .mv 0 true⟩, ⟨some 11, (some (9, true)), .mv 1 false⟩, ⟨some 12, (some (9, true)), .iaddr 1 10 11⟩, ⟨some 13, (some (9, true)), .load false 1 12⟩, ⟨some 14, (some (9, true)), .call 167 [13]⟩, Yk 15 (.pick 9 14 Yf), Yv 4 15] .ret))⟩
theorem ok_c_Z2g : Qam Tryz.prog 155 c_Z2g = true := Qad Tryz.func155 (by kernel_rfl)
def s_Z2g (M : Mach) (a0 a1 : V) (σ : Objs) : Ro :=
 bd (pu (Qaq a0.ng.ng)) fun x0 =>
 bd (pu (eB .lss .no a1.ng.ng x0.ng)) fun x1 =>
  gd x1.ng true (
 bd (gdv x1.ng true (some a1.ng)) fun x2 =>
 bd (gdv x1.ng true (pu (eI 1 x2.ng a0.ng))) fun x3 =>
 bd (gdv x1.ng true (pu (eL σ false 1 x3.ng))) fun x4 =>
 bd (gdp x1.ng true (M.call 167 [x4.ng] σ) σ) fun p5 =>
 bd (pu (pV x1.ng.ng p5.1.ng (.bool false))) fun x6 =>
 bd (oK false x6.ng) (nK σ.length p5.2)) (
 bd (gdv x1.ng true (some a1.ng)) fun x7 =>
 bd (gdv x1.ng true (pu (eI 1 x7.ng .undef))) fun x8 =>
 bd (gdv x1.ng true (pu (eL σ false 1 x8.ng))) fun x9 =>
 bd (gdp x1.ng true (M.call 167 [x9.ng] σ) σ) fun p10 =>
 bd (pu (pV x1.ng.ng p10.1.ng (.bool false))) fun x11 =>
 bd (oK false x11.ng) (nK σ.length p10.2))
theorem k_Z2g (M : Mach) (a0 a1 : V) (σ : Objs) : fnK M c_Z2g [a0, a1] σ = s_Z2g M a0 a1 σ := by kernel_rfl
def c_Z2m : Ev.Fn := ⟨16, [.tmp 4], false, false, (Yq 0 [Yv 4 Yf] (Yq 1 [Yv 5 1, Yv 6 0, Yh 7 6, Yo 8 .lss .no 5 7, Yv 9 8, ⟨some 10, (some (9, true)), .mv 0 true⟩, ⟨some 11, (some (9, true)), .mv 1 false⟩, ⟨some 12, (some (9, true)), .iaddr 1 10 11⟩, ⟨some 13, (some (9, true)), .load false 1 12⟩, ⟨some 14, (some (9, true)), .call 168 [13]⟩, Yk 15 (.pick 9 14 Yf), Yv 4 15] .ret))⟩
theorem ok_c_Z2m : Qam Tryz.prog 157 c_Z2m = true := Qad Tryz.func157 (by kernel_rfl)
def c_Z24 : Ev.Fn := ⟨23, [.tmp 2], false, false, (Yq 0 [Yv 2 (Ys [])] (Yq 1 [Yk 5 (.buildSl false 1 0 .any [] false), Yu 3 5] (.seq (Yq 2 [Yv 4 (Yi 0)] (.block 0 (.loop [0, 3, 4] [2, 3] (.seq (Yq 3 [Yv 6 4, Yv 7 0, Yk 8 (.lenS 7), Yo 9 .lss .no 6 8] (.cond 9 .skip (.exit 0))) (.seq (.block 1 (.ops 5 [Yu 12 3, Yv 13 0, Yv 14 4, Yk 15 (.idx 13 14), Yk 16 (.conv (.toInt .i64) 15), Yc 17 169 [16], Yk 18 (.conv (.toInt .u8) 17), Yk 19 (.buildSl false 1 1 (.int .u8 0) [(0, 18)] false), Yk 20 (.app false false 1 1 12 19 true), Yu 3 20])) (.ops 4 [Yv 10 4, Yo 11 .add .no 10 (Yi 1), Yv 4 11])))))) (Yq 6 [Yu 21 3, Yk 22 (.conv .bytesStr 21), Yv 2 22] .ret))))⟩
theorem ok_c_Z24 : Qam Tryz.prog 158 c_Z24 = true := Qad Tryz.func158 (by kernel_rfl)
end Go.Proofs.YtapnplljnpconaaGreatDoor
